/- Walks of single functions, written by a program of this work. -/
import Derived.Test.YtnckikjcjgmdlaaDoorGWMachTicks1
namespace Go.Proofs.YtnckikjcjgmdlaaDoor.GV
open Go Go.RowKit
set_option linter.unusedVariables false
set_option linter.unusedSimpArgs false
set_option maxRecDepth 100000

/-! punctual/mach.Look -/
abbrev mach_Look.Post (w0:World) (r:SShape×SFault) (e:Ending) (w:World):Prop:=∃ (v0:Value) (mv1:Option Nat),e=.returned (.tuple #[.agg #[v0,.map mv1],.agg #[vI r.2.Code,vI r.2.At]])∧St w0 w [Own.of v0 3 r.1.In,Own.mapv (κ:=Int) (ν:=Int) mv1 r.1.Close]
def mach_Look.r0 (l0 : List SIns) : Nat → Option (Nat ⊕ (Unit ⊕ (SShape × SFault)))
 | i1 =>
  if (i1:Int)<(l0.length:Int) then
   match l0[i1]? with
   | none=>none
   | some e1 =>
    if e1.Op<1 then
     some (.inr (.inr (((mach_Look_1.f 6 (i1:Int)).1),((mach_Look_1.f 6 (i1:Int)).2))))
    else
     if e1.Op > 18 then
      some (.inr (.inr (((mach_Look_1.f 6 (i1:Int)).1),((mach_Look_1.f 6 (i1:Int)).2))))
     else
      match mach_operand.f e1.Op with
      | none=>none
      | some r1 =>
       if (mach_fits.f e1.A r1.1)=true then
        if (mach_fits.f e1.B r1.2)=true then
         if e1.Op=18 then
          if e1.A=0 then
           some (.inr (.inr (((mach_Look_1.f 3 (i1:Int)).1),((mach_Look_1.f 3 (i1:Int)).2))))
          else
           some (.inl (i1+1))
         else
          some (.inl (i1+1))
        else
         some (.inr (.inr (((mach_Look_1.f 3 (i1:Int)).1),((mach_Look_1.f 3 (i1:Int)).2))))
       else
        some (.inr (.inr (((mach_Look_1.f 3 (i1:Int)).1),((mach_Look_1.f 3 (i1:Int)).2))))
  else
   some (.inr (.inl ()))
def mach_Look.r1 (K : Nat) (l0 : List SIns) : Nat × (List Int) × (List Int) × (List (Int × Int)) → Option ((Nat × (List Int) × (List Int) × (List (Int × Int))) ⊕ (((List Int) × (List Int) × (List (Int × Int))) ⊕ (SShape × SFault)))
 | (i2,m7,m8,mp1) =>
  if (i2:Int)<(l0.length:Int) then
   match mach_looker_region.f K l0 m7 m8 mp1 (i2:Int) with
   | none=>none
   | some r2 =>
    if r2.1=0 then
     some (.inl ((i2+1),r2.2.1,r2.2.2.1,r2.2.2.2))
    else
     some (.inr (.inr (((mach_Look_1.f r2.1 (i2:Int)).1),((mach_Look_1.f r2.1 (i2:Int)).2))))
  else
   some (.inr (.inl (m7,m8,mp1)))
def mach_Look.r2 (l0 : List SIns) (m13 : List Int) : Nat → Option (Nat ⊕ (Unit ⊕ (SShape × SFault)))
 | i3 =>
  if (i3:Int)<(l0.length:Int) then
   match l0[i3]? with
   | none=>none
   | some e4 =>
    if e4.Op=11 then
     if e4.A<(l0.length:Int) then
      if 0≤e4.A then
       match m13[(e4.A).toNat]? with
       | none=>none
       | some e5 =>
        if e4.A≤(i3:Int) then
         some (.inr (.inr (((mach_Look_1.f 7 (i3:Int)).1),((mach_Look_1.f 7 (i3:Int)).2))))
        else
         if e4.A > (l0.length:Int) then
          some (.inr (.inr (((mach_Look_1.f 7 (i3:Int)).1),((mach_Look_1.f 7 (i3:Int)).2))))
         else
          match m13[i3]? with
          | none=>none
          | some e6 =>
           if e5=e6 then
            some (.inl (i3+1))
           else
            some (.inr (.inr (((mach_Look_1.f 7 (i3:Int)).1),((mach_Look_1.f 7 (i3:Int)).2))))
      else
       none
     else
      if e4.A≤(i3:Int) then
       some (.inr (.inr (((mach_Look_1.f 7 (i3:Int)).1),((mach_Look_1.f 7 (i3:Int)).2))))
      else
       if e4.A > (l0.length:Int) then
        some (.inr (.inr (((mach_Look_1.f 7 (i3:Int)).1),((mach_Look_1.f 7 (i3:Int)).2))))
       else
        match m13[i3]? with
        | none=>none
        | some e7 =>
         if (-1)=e7 then
          some (.inl (i3+1))
         else
          some (.inr (.inr (((mach_Look_1.f 7 (i3:Int)).1),((mach_Look_1.f 7 (i3:Int)).2))))
    else
     if e4.Op=12 then
      if e4.A<(l0.length:Int) then
       if 0≤e4.A then
        match m13[(e4.A).toNat]? with
        | none=>none
        | some e8 =>
         if e4.A≤(i3:Int) then
          some (.inr (.inr (((mach_Look_1.f 7 (i3:Int)).1),((mach_Look_1.f 7 (i3:Int)).2))))
         else
          if e4.A > (l0.length:Int) then
           some (.inr (.inr (((mach_Look_1.f 7 (i3:Int)).1),((mach_Look_1.f 7 (i3:Int)).2))))
          else
           match m13[i3]? with
           | none=>none
           | some e9 =>
            if e8=e9 then
             some (.inl (i3+1))
            else
             some (.inr (.inr (((mach_Look_1.f 7 (i3:Int)).1),((mach_Look_1.f 7 (i3:Int)).2))))
       else
        none
      else
       if e4.A≤(i3:Int) then
        some (.inr (.inr (((mach_Look_1.f 7 (i3:Int)).1),((mach_Look_1.f 7 (i3:Int)).2))))
       else
        if e4.A > (l0.length:Int) then
         some (.inr (.inr (((mach_Look_1.f 7 (i3:Int)).1),((mach_Look_1.f 7 (i3:Int)).2))))
        else
         match m13[i3]? with
         | none=>none
         | some e10 =>
          if (-1)=e10 then
           some (.inl (i3+1))
          else
           some (.inr (.inr (((mach_Look_1.f 7 (i3:Int)).1),((mach_Look_1.f 7 (i3:Int)).2))))
     else
      some (.inl (i3+1))
  else
   some (.inr (.inl ()))
def mach_Look.f (K : Nat) (l0 : List SIns) : Option (SShape × SFault) :=
 if (l0.length:Int) > 2000 then
  some (((mach_Look_1.f 2 0).1),((mach_Look_1.f 2 0).2))
 else
  match iter (mach_Look.r0 l0) K 0 with
  | none=>none
  | some (.inl _) =>
   if l0.length≤17592186044416 then
    match iter (mach_Look.r1 K l0) K (0,([]:List Int),(List.replicate l0.length (0:Int)),([]:List (Int×Int))) with
    | none=>none
    | some (.inl (m12,m13,mp3)) =>
     if (m12.length:Int) > 0 then
      match m12[0]? with
      | none=>none
      | some e2 =>
       if 0≤e2 then
        match l0[(e2).toNat]? with
        | none=>none
        | some e3 =>
         if e3.Op=13 then
          some (((mach_Look_1.f 9 e2).1),((mach_Look_1.f 9 e2).2))
         else
          some (((mach_Look_1.f 10 e2).1),((mach_Look_1.f 10 e2).2))
       else
        none
     else
      match iter (mach_Look.r2 l0 m13) K 0 with
      | none=>none
      | some (.inl _) =>
       match mach_heights.f K l0 with
       | none=>none
       | some r3 =>
        if r3.Code=0 then
         some ((⟨m13,mp3⟩:SShape),(⟨0,0⟩:SFault))
        else
         some ((⟨([]:List Int),([]:List (Int×Int))⟩:SShape),r3)
      | some (.inr rr1) =>
       some rr1
    | some (.inr rr2) =>
     some rr2
   else
    none
  | some (.inr rr3) =>
   some rr3
abbrev mach_Look.A0 (w0:World) (l0:List SIns) (A0:OA) (c0 b1 b2:Nat):Nat→Act→World→Prop:=fun (s:Nat) a w=>St w0 w [bk b2 #[vI 0,vI 0] 25,bk b1 #[.slice none 0 0,.map none] 64]∧Frm 209 a [(0,.slice A0 l0.length c0),(2,pP b1 0),(3,pP b2 0),(4,.func (.func 50) #[] #[]),(23,.slice A0 l0.length c0),(24,vI (l0.length:Int)),(25,vI (s:Int))]
abbrev mach_Look.B0 (w0:World) (l0:List SIns) (A0:OA) (c0 b1 b2:Nat):(Unit ⊕ (SShape×SFault))→Exit→Act→World→Prop:=Exits 0 (fun (s:Unit) a w=>St w0 w [bk b2 #[vI 0,vI 0] 25,bk b1 #[.slice none 0 0,.map none] 64]∧Frm 209 a [(0,.slice A0 l0.length c0),(2,pP b1 0),(3,pP b2 0),(4,.func (.func 50) #[] #[])]) (Rets Tryd.prog Tryd.f30 (mach_Look.Post w0))
theorem mach_Look_r0 (K:Nat) (w0:World) (l0:List SIns) (A0:OA) (c0:Nat) (hR0:RdL w0 A0 l0) (hL0:l0.length≤c0) (b1 b2:Nat) (hc1:¬ ((l0.length:Int) > 2000)) (s:Nat) (o:Nat ⊕ (Unit ⊕ (SShape×SFault))) (h:mach_Look.r0 l0 s=some o) (a:Act) (w:World) (hA:mach_Look.A0 w0 l0 A0 c0 b1 b2 s a w) (Q:Exit→Act→World→Prop) (hQ:∀ x a w,Outs (mach_Look.A0 w0 l0 A0 c0 b1 b2) (mach_Look.B0 w0 l0 A0 c0 b1 b2) o x a w→Q x a w):(subF Tryd.f30 [1,1,1,0,1,0,0]).wp Tryd.prog Q a w:=by
 obtain ⟨i1,hs⟩:∃ z,z=s:=⟨s,rfl⟩
 subst hs
 obtain ⟨hS,hF⟩:=hA
 replace hS:St w0 w [bk b2 #[vI 0,vI 0] 25,bk b1 #[.slice none 0 0,.map none] 64]:=hS
 simp only [mach_Look.r0] at h
 refine (?_:WE Tryd.prog 209 (subF Tryd.f30 [1,1,1,0,1,0,0]) Q [(0,.slice A0 l0.length c0),(2,pP b1 0),(3,pP b2 0),(4,.func (.func 50) #[] #[]),(23,.slice A0 l0.length c0),(24,vI (l0.length:Int)),(25,vI (i1:Int))] w) a hF
 clear hF a
 refine ws fun K8 hK8=>wr [(0,0)]<|gb0 [0] [(26,.bool (decide ((i1:Int)<(l0.length:Int))))]<|gn hK8<|ws fun K9 hK9=>?_
 by_cases hc2:(i1:Int)<(l0.length:Int)
 ·rw [if_pos hc2] at h
  refine wk 26 (decide ((i1:Int)<(l0.length:Int))) true (decide_eq_true hc2)<|wt<|we_skip fun a hF=>hK9 _ _ ?_ a hF
  refine ws fun K10 hK10=>we_block<|ws fun K11 hK11=>wr [(0,0),(1,0),(2,0),(3,1),(4,0),(5,2)]<|gb0 [0] [(27,vI (i1:Int))] ?_
  rcases hx3:l0[i1]? with _ | e1
  ·rw [hx3] at h; cases h
  rw [hx3] at h
  simp only [] at h
  refine gi 28 0 22 29 3 l0.length c0 (.tmp 23) (.tmp 25) A0 .i64 (i1:Int) i1 ((hS.rd hR0).eqSome (pos_of_get hx3)) rfl (lt_of_get hx3) ?_
  refine gb [2] [(29,.agg #[vI e1.Op,vI e1.A,vI e1.B])] [.loaded ⟨blkOf A0,offOf A0+i1*3,none⟩ (vI e1.Op),.loaded ⟨blkOf A0,offOf A0+i1*3+1,none⟩ (vI e1.A),.loaded ⟨blkOf A0,offOf A0+i1*3+2,none⟩ (vI e1.B)] ⟨RdL.cell (j:=0) (hS.rd hR0) hx3 rfl,RdL.cell (j:=1) (hS.rd hR0) hx3 rfl,RdL.cell (j:=2) (hS.rd hR0) hx3 rfl,trivial⟩<|gw (some 6) (.cells #[vI 0,vI 0,vI 0] 29) (fun b=>pP b 0) hS fun b3 w6 hx4 hS16=>?_
  refine gb0 [4] [(5,vI (i1:Int))]<|gs b3 0 #[vI 0,vI 0,vI 0] 29 [vI e1.Op,vI e1.A,vI e1.B] hS16 fun w7 hS17=>?_
  have hS18:=hS17.nc #[vI e1.Op,vI e1.A,vI e1.B] rfl
  refine gn hK11<|ws fun K12 hK12=>ws fun K13 hK13=>wr [(0,0),(1,0),(2,0),(3,0),(4,0),(5,0),(6,0),(7,0)]<|gb [0,1,2,3] [(33,.bool (decide (e1.Op<1))),(32,.bool (decide (e1.Op<1))),(31,vI e1.Op),(30,pP b3 0)] [ld b3 0 (vI e1.Op)] ⟨hS18.c 0,trivial⟩ ?_
  by_cases hc3:e1.Op<1
  ·rw [if_pos hc3] at h
   refine gk 33 (decide (e1.Op<1)) true (decide_eq_true hc3)<|gb0 [4,5,6,7] [(37,.bool true),(36,undef),(35,undef),(34,undef)]<|gn hK13<|wt<|ws fun K14 hK14=>wr [(0,0),(1,0),(2,1),(3,0),(4,0),(5,2),(6,2)]<|gb0 [0,1] [(39,vI (i1:Int)),(38,.func (.func 50) #[] #[])]<|ge_call (d:=some 40) (f:=50) (args:=#[vI 6,vI (i1:Int)]) (by kernel_rfl) (mach_Look_1_ok 6 (i1:Int) _ _ rfl) ?_
   rintro _ w8 ⟨v2,m2,rfl,hS19⟩
   refine ⟨_,rfl,hS19.below,?_⟩
   have hS20:=hS18.call hS19
   refine gb0 [3,4] [(42,.agg #[vI (((mach_Look_1.f 6 (i1:Int)).2).Code),vI (((mach_Look_1.f 6 (i1:Int)).2).At)]),(41,.agg #[v2,.map m2])] ?_
   obtain ⟨Z2,cz2,rfl⟩:=hS20.open 0 rfl
   have hS21:=hS20.b 4
   refine gs b1 0 #[.slice none 0 0,.map none] 64 [(.slice Z2 (((mach_Look_1.f 6 (i1:Int)).1).In).length cz2),.map m2] hS21 fun w9 hS22=>?_
   have hS24:=(hS22.nc #[(.slice Z2 (((mach_Look_1.f 6 (i1:Int)).1).In).length cz2),.map m2] rfl).b 4
   refine gs b2 0 #[vI 0,vI 0] 25 [vI (((mach_Look_1.f 6 (i1:Int)).2).Code),vI (((mach_Look_1.f 6 (i1:Int)).2).At)] hS24 fun w10 hS25=>?_
   have hS26:=hS25.nc #[vI (((mach_Look_1.f 6 (i1:Int)).2).Code),vI (((mach_Look_1.f 6 (i1:Int)).2).At)] rfl
   refine gn hK14 ?_
   have hS29:=hS26.p [2,3] rfl
   obtain rfl:=si h
   exact we_ret fun a hF=>hQ _ _ _ (Outs.out nofun (Exits.on ⟨rfl,(pr [.cell 2 64,.cell 3 25] [.agg #[(.slice Z2 (((mach_Look_1.f 6 (i1:Int)).1).In).length cz2),.map m2],.agg #[vI (((mach_Look_1.f 6 (i1:Int)).2).Code),vI (((mach_Look_1.f 6 (i1:Int)).2).At)]] [ld b1 0 ((.slice Z2 (((mach_Look_1.f 6 (i1:Int)).1).In).length cz2)),ld b1 1 (.map m2),ld b2 0 (vI (((mach_Look_1.f 6 (i1:Int)).2).Code)),ld b2 1 (vI (((mach_Look_1.f 6 (i1:Int)).2).At))] ⟨hS26.c 1,hS26.c 1,hS26.c 0,hS26.c 0,trivial⟩ ⟨(.slice Z2 (((mach_Look_1.f 6 (i1:Int)).1).In).length cz2),m2,rfl,hS29⟩) a hF⟩))
  rw [if_neg hc3] at h
  refine gk 33 (decide (e1.Op<1)) false (decide_eq_false hc3)<|gb [4,5,6,7] [(37,.bool (decide (e1.Op > 18))),(36,.bool (decide (e1.Op > 18))),(35,vI e1.Op),(34,pP b3 0)] [ld b3 0 (vI e1.Op)] ⟨hS18.c 0,trivial⟩<|gn hK13 ?_
  by_cases hc4:e1.Op > 18
  ·rw [if_pos hc4] at h
   refine wk 37 (decide (e1.Op > 18)) true (decide_eq_true hc4)<|wt<|ws fun K15 hK15=>wr [(0,0),(1,0),(2,1),(3,0),(4,0),(5,2),(6,2)]<|gb0 [0,1] [(39,vI (i1:Int)),(38,.func (.func 50) #[] #[])]<|ge_call (d:=some 40) (f:=50) (args:=#[vI 6,vI (i1:Int)]) (by kernel_rfl) (mach_Look_1_ok 6 (i1:Int) _ _ rfl) ?_
   rintro _ w11 ⟨v3,m3,rfl,hS30⟩
   refine ⟨_,rfl,hS30.below,?_⟩
   have hS31:=hS18.call hS30
   refine gb0 [3,4] [(42,.agg #[vI (((mach_Look_1.f 6 (i1:Int)).2).Code),vI (((mach_Look_1.f 6 (i1:Int)).2).At)]),(41,.agg #[v3,.map m3])] ?_
   obtain ⟨Z3,cz3,rfl⟩:=hS31.open 0 rfl
   have hS32:=hS31.b 4
   refine gs b1 0 #[.slice none 0 0,.map none] 64 [(.slice Z3 (((mach_Look_1.f 6 (i1:Int)).1).In).length cz3),.map m3] hS32 fun w12 hS33=>?_
   have hS35:=(hS33.nc #[(.slice Z3 (((mach_Look_1.f 6 (i1:Int)).1).In).length cz3),.map m3] rfl).b 4
   refine gs b2 0 #[vI 0,vI 0] 25 [vI (((mach_Look_1.f 6 (i1:Int)).2).Code),vI (((mach_Look_1.f 6 (i1:Int)).2).At)] hS35 fun w13 hS36=>?_
   have hS37:=hS36.nc #[vI (((mach_Look_1.f 6 (i1:Int)).2).Code),vI (((mach_Look_1.f 6 (i1:Int)).2).At)] rfl
   refine gn hK15 ?_
   have hS40:=hS37.p [2,3] rfl
   obtain rfl:=si h
   exact we_ret fun a hF=>hQ _ _ _ (Outs.out nofun (Exits.on ⟨rfl,(pr [.cell 2 64,.cell 3 25] [.agg #[(.slice Z3 (((mach_Look_1.f 6 (i1:Int)).1).In).length cz3),.map m3],.agg #[vI (((mach_Look_1.f 6 (i1:Int)).2).Code),vI (((mach_Look_1.f 6 (i1:Int)).2).At)]] [ld b1 0 ((.slice Z3 (((mach_Look_1.f 6 (i1:Int)).1).In).length cz3)),ld b1 1 (.map m3),ld b2 0 (vI (((mach_Look_1.f 6 (i1:Int)).2).Code)),ld b2 1 (vI (((mach_Look_1.f 6 (i1:Int)).2).At))] ⟨hS37.c 1,hS37.c 1,hS37.c 0,hS37.c 0,trivial⟩ ⟨(.slice Z3 (((mach_Look_1.f 6 (i1:Int)).1).In).length cz3),m3,rfl,hS40⟩) a hF⟩))
  rw [if_neg hc4] at h
  refine wk 37 (decide (e1.Op > 18)) false (decide_eq_false hc4)<|wf<|we_skip fun a hF=>hK12 _ _ ?_ a hF
  refine ws fun K16 hK16=>wr [(0,0),(1,0),(2,1),(3,0),(4,0),(5,0),(6,0),(7,0)] ?_
  rcases hq4:mach_operand.f e1.Op with _ | r1
  ·rw [hq4] at h; cases h
  rw [hq4] at h
  simp only [] at h
  refine gb [0,1] [(45,vI e1.Op),(44,pP b3 0)] [ld b3 0 (vI e1.Op)] ⟨hS18.c 0,trivial⟩<|ge_call (d:=some 46) (f:=51) (args:=#[vI e1.Op]) (by kernel_rfl) (mach_operand_ok e1.Op _ _ hq4) ?_
  rintro _ w14 ⟨rfl,hS41⟩
  refine ⟨_,rfl,hS41.below,?_⟩
  have hS42:=hS18.call hS41
  refine gb0 [3,4,5,6,7] [(8,vI r1.2),(7,vI r1.1),(48,vI r1.2),(47,vI r1.1),(43,.tuple #[vI r1.1,vI r1.2])]<|gn hK16<|ws fun K17 hK17=>wr [(0,0),(1,0),(2,0),(3,1),(4,0),(5,0),(6,0),(7,0),(8,0),(9,1),(10,0),(11,0),(12,0),(13,0),(14,0),(15,0),(16,0),(17,0),(18,0),(19,0),(20,0),(21,0)]<|gb [0,1,2] [(51,vI r1.1),(50,vI e1.A),(49,pP b3 1)] [ld b3 1 (vI e1.A)] ⟨hS42.c 0,trivial⟩<|ge_call (d:=some 52) (f:=52) (args:=#[vI e1.A,vI r1.1]) (by kernel_rfl) (mach_fits_ok e1.A r1.1 _ _ rfl) ?_
  rintro _ w15 ⟨rfl,hS43⟩
  refine ⟨_,rfl,hS43.below,?_⟩
  have hS44:=hS42.call hS43
  refine gb0 [4,5] [(54,.bool (!(mach_fits.f e1.A r1.1))),(53,.bool (!(mach_fits.f e1.A r1.1)))] ?_
  by_cases hc5:(mach_fits.f e1.A r1.1)=true
  ·rw [if_pos hc5] at h
   refine gk 54 (!(mach_fits.f e1.A r1.1)) false (congrArg (fun z=>!z) hc5)<|gb [6,7,8] [(57,vI r1.2),(56,vI e1.B),(55,pP b3 2)] [ld b3 2 (vI e1.B)] ⟨hS44.c 0,trivial⟩<|ge_call (d:=some 58) (f:=52) (args:=#[vI e1.B,vI r1.2]) (by kernel_rfl) (mach_fits_ok e1.B r1.2 _ _ rfl) ?_
   rintro _ w16 ⟨rfl,hS45⟩
   refine ⟨_,rfl,hS45.below,?_⟩
   have hS46:=hS44.call hS45
   refine gb0 [10,11,12] [(61,.bool (!(mach_fits.f e1.B r1.2))),(60,.bool (!(mach_fits.f e1.B r1.2))),(59,.bool (!(mach_fits.f e1.B r1.2)))] ?_
   by_cases hc6:(mach_fits.f e1.B r1.2)=true
   ·rw [if_pos hc6] at h
    refine gk 61 (!(mach_fits.f e1.B r1.2)) false (congrArg (fun z=>!z) hc6)<|gb [13,14,15,16] [(65,.bool (e1.Op==18)),(64,.bool (e1.Op==18)),(63,vI e1.Op),(62,pP b3 0)] [ld b3 0 (vI e1.Op)] ⟨hS46.c 0,trivial⟩ ?_
    by_cases hc7:e1.Op=18
    ·rw [if_pos hc7] at h
     refine gk 65 (e1.Op==18) true (beq_iff_eq.2 hc7)<|gb [17,18,19,20,21] [(70,.bool (e1.A==0)),(69,.bool (e1.A==0)),(68,.bool (e1.A==0)),(67,vI e1.A),(66,pP b3 1)] [ld b3 1 (vI e1.A)] ⟨hS46.c 0,trivial⟩<|gn hK17 ?_
     by_cases hc8:e1.A=0
     ·rw [if_pos hc8] at h
      refine wk 70 (e1.A==0) true (beq_iff_eq.2 hc8)<|wt<|ws fun K18 hK18=>wr [(0,0),(1,0),(2,1),(3,0),(4,0),(5,2),(6,2)]<|gb0 [0,1] [(72,vI (i1:Int)),(71,.func (.func 50) #[] #[])]<|ge_call (d:=some 73) (f:=50) (args:=#[vI 3,vI (i1:Int)]) (by kernel_rfl) (mach_Look_1_ok 3 (i1:Int) _ _ rfl) ?_
      rintro _ w17 ⟨v4,m4,rfl,hS47⟩
      refine ⟨_,rfl,hS47.below,?_⟩
      have hS48:=hS46.call hS47
      refine gb0 [3,4] [(75,.agg #[vI (((mach_Look_1.f 3 (i1:Int)).2).Code),vI (((mach_Look_1.f 3 (i1:Int)).2).At)]),(74,.agg #[v4,.map m4])] ?_
      obtain ⟨Z4,cz4,rfl⟩:=hS48.open 0 rfl
      have hS49:=hS48.b 4
      refine gs b1 0 #[.slice none 0 0,.map none] 64 [(.slice Z4 (((mach_Look_1.f 3 (i1:Int)).1).In).length cz4),.map m4] hS49 fun w18 hS50=>?_
      have hS52:=(hS50.nc #[(.slice Z4 (((mach_Look_1.f 3 (i1:Int)).1).In).length cz4),.map m4] rfl).b 4
      refine gs b2 0 #[vI 0,vI 0] 25 [vI (((mach_Look_1.f 3 (i1:Int)).2).Code),vI (((mach_Look_1.f 3 (i1:Int)).2).At)] hS52 fun w19 hS53=>?_
      have hS54:=hS53.nc #[vI (((mach_Look_1.f 3 (i1:Int)).2).Code),vI (((mach_Look_1.f 3 (i1:Int)).2).At)] rfl
      refine gn hK18 ?_
      have hS57:=hS54.p [2,3] rfl
      obtain rfl:=si h
      exact we_ret fun a hF=>hQ _ _ _ (Outs.out nofun (Exits.on ⟨rfl,(pr [.cell 2 64,.cell 3 25] [.agg #[(.slice Z4 (((mach_Look_1.f 3 (i1:Int)).1).In).length cz4),.map m4],.agg #[vI (((mach_Look_1.f 3 (i1:Int)).2).Code),vI (((mach_Look_1.f 3 (i1:Int)).2).At)]] [ld b1 0 ((.slice Z4 (((mach_Look_1.f 3 (i1:Int)).1).In).length cz4)),ld b1 1 (.map m4),ld b2 0 (vI (((mach_Look_1.f 3 (i1:Int)).2).Code)),ld b2 1 (vI (((mach_Look_1.f 3 (i1:Int)).2).At))] ⟨hS54.c 1,hS54.c 1,hS54.c 0,hS54.c 0,trivial⟩ ⟨(.slice Z4 (((mach_Look_1.f 3 (i1:Int)).1).In).length cz4),m4,rfl,hS57⟩) a hF⟩))
     rw [if_neg hc8] at h
     refine wk 70 (e1.A==0) false (beq_eq_false_iff_ne.2 hc8)<|wf<|we_skip fun a hF=>hK10 _ _ ?_ a hF
     refine wr [(0,0),(1,0)]<|ge_addn (d:=76) (ty:=3) (x:=(.tmp 25)) (y:=(.const (vI 1))) (t:=3) (t2:=3) (k:=.i64) (m:=i1) (by kernel_rfl) (by kernel_rfl) (by kernel_rfl) (by have h0:=hR0.small; omega) ?_
     refine gb0 [1] [(25,vI ((i1+1:Nat):Int))] ?_
     have hS60:=hS46.p [1,2] rfl
     obtain rfl:=si h
     exact ge_nil fun a hF=>hQ _ _ _ (Outs.again ⟨hS60,hF.weaken ea⟩)
    rw [if_neg hc7] at h
    refine gk 65 (e1.Op==18) false (beq_eq_false_iff_ne.2 hc7)<|gb0 [17,18,19,20,21] [(70,.bool false),(69,.bool false),(68,undef),(67,undef),(66,undef)]<|gn hK17<|wf<|we_skip fun a hF=>hK10 _ _ ?_ a hF
    refine wr [(0,0),(1,0)]<|ge_addn (d:=76) (ty:=3) (x:=(.tmp 25)) (y:=(.const (vI 1))) (t:=3) (t2:=3) (k:=.i64) (m:=i1) (by kernel_rfl) (by kernel_rfl) (by kernel_rfl) (by have h0:=hR0.small; omega) ?_
    refine gb0 [1] [(25,vI ((i1+1:Nat):Int))] ?_
    have hS63:=hS46.p [1,2] rfl
    obtain rfl:=si h
    exact ge_nil fun a hF=>hQ _ _ _ (Outs.again ⟨hS63,hF.weaken ea⟩)
   rw [if_neg hc6] at h
   refine gk 61 (!(mach_fits.f e1.B r1.2)) true (congrArg (fun z=>!z) (Bool.eq_false_iff.2 hc6))<|gb0 [13,14,15,16,17,18,19,20,21] [(70,.bool true),(69,undef),(68,undef),(67,undef),(66,undef),(65,undef),(64,undef),(63,undef),(62,undef)]<|gn hK17<|wt<|ws fun K19 hK19=>wr [(0,0),(1,0),(2,1),(3,0),(4,0),(5,2),(6,2)]<|gb0 [0,1] [(72,vI (i1:Int)),(71,.func (.func 50) #[] #[])]<|ge_call (d:=some 73) (f:=50) (args:=#[vI 3,vI (i1:Int)]) (by kernel_rfl) (mach_Look_1_ok 3 (i1:Int) _ _ rfl) ?_
   rintro _ w20 ⟨v5,m5,rfl,hS64⟩
   refine ⟨_,rfl,hS64.below,?_⟩
   have hS65:=hS46.call hS64
   refine gb0 [3,4] [(75,.agg #[vI (((mach_Look_1.f 3 (i1:Int)).2).Code),vI (((mach_Look_1.f 3 (i1:Int)).2).At)]),(74,.agg #[v5,.map m5])] ?_
   obtain ⟨Z5,cz5,rfl⟩:=hS65.open 0 rfl
   have hS66:=hS65.b 4
   refine gs b1 0 #[.slice none 0 0,.map none] 64 [(.slice Z5 (((mach_Look_1.f 3 (i1:Int)).1).In).length cz5),.map m5] hS66 fun w21 hS67=>?_
   have hS69:=(hS67.nc #[(.slice Z5 (((mach_Look_1.f 3 (i1:Int)).1).In).length cz5),.map m5] rfl).b 4
   refine gs b2 0 #[vI 0,vI 0] 25 [vI (((mach_Look_1.f 3 (i1:Int)).2).Code),vI (((mach_Look_1.f 3 (i1:Int)).2).At)] hS69 fun w22 hS70=>?_
   have hS71:=hS70.nc #[vI (((mach_Look_1.f 3 (i1:Int)).2).Code),vI (((mach_Look_1.f 3 (i1:Int)).2).At)] rfl
   refine gn hK19 ?_
   have hS74:=hS71.p [2,3] rfl
   obtain rfl:=si h
   exact we_ret fun a hF=>hQ _ _ _ (Outs.out nofun (Exits.on ⟨rfl,(pr [.cell 2 64,.cell 3 25] [.agg #[(.slice Z5 (((mach_Look_1.f 3 (i1:Int)).1).In).length cz5),.map m5],.agg #[vI (((mach_Look_1.f 3 (i1:Int)).2).Code),vI (((mach_Look_1.f 3 (i1:Int)).2).At)]] [ld b1 0 ((.slice Z5 (((mach_Look_1.f 3 (i1:Int)).1).In).length cz5)),ld b1 1 (.map m5),ld b2 0 (vI (((mach_Look_1.f 3 (i1:Int)).2).Code)),ld b2 1 (vI (((mach_Look_1.f 3 (i1:Int)).2).At))] ⟨hS71.c 1,hS71.c 1,hS71.c 0,hS71.c 0,trivial⟩ ⟨(.slice Z5 (((mach_Look_1.f 3 (i1:Int)).1).In).length cz5),m5,rfl,hS74⟩) a hF⟩))
  rw [if_neg hc5] at h
  refine gk 54 (!(mach_fits.f e1.A r1.1)) true (congrArg (fun z=>!z) (Bool.eq_false_iff.2 hc5))<|gb0 [6,7,8] [(57,undef),(56,undef),(55,undef)]<|ge_off rfl rfl rfl (by kernel_rfl) ?_
  refine gb0 [10,11,12,13,14,15,16,17,18,19,20,21] [(70,.bool true),(69,undef),(68,undef),(67,undef),(66,undef),(65,undef),(64,undef),(63,undef),(62,undef),(61,.bool true),(60,.bool true),(59,undef)]<|gn hK17<|wt<|ws fun K20 hK20=>wr [(0,0),(1,0),(2,1),(3,0),(4,0),(5,2),(6,2)]<|gb0 [0,1] [(72,vI (i1:Int)),(71,.func (.func 50) #[] #[])]<|ge_call (d:=some 73) (f:=50) (args:=#[vI 3,vI (i1:Int)]) (by kernel_rfl) (mach_Look_1_ok 3 (i1:Int) _ _ rfl) ?_
  rintro _ w23 ⟨v6,m6,rfl,hS75⟩
  refine ⟨_,rfl,hS75.below,?_⟩
  have hS76:=hS44.call hS75
  refine gb0 [3,4] [(75,.agg #[vI (((mach_Look_1.f 3 (i1:Int)).2).Code),vI (((mach_Look_1.f 3 (i1:Int)).2).At)]),(74,.agg #[v6,.map m6])] ?_
  obtain ⟨Z6,cz6,rfl⟩:=hS76.open 0 rfl
  have hS77:=hS76.b 4
  refine gs b1 0 #[.slice none 0 0,.map none] 64 [(.slice Z6 (((mach_Look_1.f 3 (i1:Int)).1).In).length cz6),.map m6] hS77 fun w24 hS78=>?_
  have hS80:=(hS78.nc #[(.slice Z6 (((mach_Look_1.f 3 (i1:Int)).1).In).length cz6),.map m6] rfl).b 4
  refine gs b2 0 #[vI 0,vI 0] 25 [vI (((mach_Look_1.f 3 (i1:Int)).2).Code),vI (((mach_Look_1.f 3 (i1:Int)).2).At)] hS80 fun w25 hS81=>?_
  have hS82:=hS81.nc #[vI (((mach_Look_1.f 3 (i1:Int)).2).Code),vI (((mach_Look_1.f 3 (i1:Int)).2).At)] rfl
  refine gn hK20 ?_
  have hS85:=hS82.p [2,3] rfl
  obtain rfl:=si h
  exact we_ret fun a hF=>hQ _ _ _ (Outs.out nofun (Exits.on ⟨rfl,(pr [.cell 2 64,.cell 3 25] [.agg #[(.slice Z6 (((mach_Look_1.f 3 (i1:Int)).1).In).length cz6),.map m6],.agg #[vI (((mach_Look_1.f 3 (i1:Int)).2).Code),vI (((mach_Look_1.f 3 (i1:Int)).2).At)]] [ld b1 0 ((.slice Z6 (((mach_Look_1.f 3 (i1:Int)).1).In).length cz6)),ld b1 1 (.map m6),ld b2 0 (vI (((mach_Look_1.f 3 (i1:Int)).2).Code)),ld b2 1 (vI (((mach_Look_1.f 3 (i1:Int)).2).At))] ⟨hS82.c 1,hS82.c 1,hS82.c 0,hS82.c 0,trivial⟩ ⟨(.slice Z6 (((mach_Look_1.f 3 (i1:Int)).1).In).length cz6),m6,rfl,hS85⟩) a hF⟩))
 rw [if_neg hc2] at h
 refine wk 26 (decide ((i1:Int)<(l0.length:Int))) false (decide_eq_false hc2)<|wf ?_
 have hS87:=(hS.b 1).b 1
 obtain rfl:=si h
 exact we_exit fun a hF=>hQ _ _ _ (Outs.out nofun (Exits.here ⟨hS87,hF.weaken ea⟩))
abbrev mach_Look.A1 (w0:World) (l0:List SIns) (A0:OA) (c0 b1 b2 b4 b5:Nat):(Nat×(List Int)×(List Int)×(List (Int×Int)))→Act→World→Prop:=fun (s:Nat×(List Int)×(List Int)×(List (Int×Int))) a w=>∃ (v8:Value) (v9:Value),St w0 w [bk b5 #[.slice A0 l0.length c0,v8,v9,.map (some b4)] 109,bk b2 #[vI 0,vI 0] 25,bk b1 #[.slice none 0 0,.map none] 64,Own.of v8 3 s.2.1,Own.of v9 3 s.2.2.1,Own.map (κ:=Int) (ν:=Int) b4 s.2.2.2]∧Frm 209 a [(0,.slice A0 l0.length c0),(2,pP b1 0),(3,pP b2 0),(4,.func (.func 50) #[] #[]),(9,pP b5 0),(86,vI (l0.length:Int)),(87,vI (s.1:Int))]
abbrev mach_Look.B1 (w0:World) (l0:List SIns) (A0:OA) (c0 b1 b2 b4 b5:Nat):(((List Int)×(List Int)×(List (Int×Int))) ⊕ (SShape×SFault))→Exit→Act→World→Prop:=Exits 2 (fun (s:(List Int)×(List Int)×(List (Int×Int))) a w=>∃ (v10:Value) (v11:Value),St w0 w [bk b5 #[.slice A0 l0.length c0,v10,v11,.map (some b4)] 109,bk b2 #[vI 0,vI 0] 25,bk b1 #[.slice none 0 0,.map none] 64,Own.of v10 3 s.1,Own.of v11 3 s.2.1,Own.map (κ:=Int) (ν:=Int) b4 s.2.2]∧Frm 209 a [(0,.slice A0 l0.length c0),(2,pP b1 0),(3,pP b2 0),(4,.func (.func 50) #[] #[]),(9,pP b5 0)]) (Rets Tryd.prog Tryd.f30 (mach_Look.Post w0))
theorem mach_Look_r1 (K:Nat) (w0:World) (l0:List SIns) (A0:OA) (c0:Nat) (hR0:RdL w0 A0 l0) (hL0:l0.length≤c0) (b1 b2:Nat) (hc1:¬ ((l0.length:Int) > 2000)) (hc9:l0.length≤17592186044416) (b4:Nat) (Z7:OA) (cz7 b5:Nat) (s:Nat×(List Int)×(List Int)×(List (Int×Int))) (o:(Nat×(List Int)×(List Int)×(List (Int×Int))) ⊕ (((List Int)×(List Int)×(List (Int×Int))) ⊕ (SShape×SFault))) (h:mach_Look.r1 K l0 s=some o) (a:Act) (w:World) (hA:mach_Look.A1 w0 l0 A0 c0 b1 b2 b4 b5 s a w) (Q:Exit→Act→World→Prop) (hQ:∀ x a w,Outs (mach_Look.A1 w0 l0 A0 c0 b1 b2 b4 b5) (mach_Look.B1 w0 l0 A0 c0 b1 b2 b4 b5) o x a w→Q x a w):(subF Tryd.f30 [1,1,1,1,1,0,1,0,0]).wp Tryd.prog Q a w:=by
 obtain ⟨i2,m7,m8,mp1⟩:=s
 obtain ⟨v8,v9,hS,hF⟩:=hA
 replace hS:St w0 w [bk b5 #[.slice A0 l0.length c0,v8,v9,.map (some b4)] 109,bk b2 #[vI 0,vI 0] 25,bk b1 #[.slice none 0 0,.map none] 64,Own.of v8 3 m7,Own.of v9 3 m8,Own.map (κ:=Int) (ν:=Int) b4 mp1]:=hS
 simp only [mach_Look.r1] at h
 refine (?_:WE Tryd.prog 209 (subF Tryd.f30 [1,1,1,1,1,0,1,0,0]) Q [(0,.slice A0 l0.length c0),(2,pP b1 0),(3,pP b2 0),(4,.func (.func 50) #[] #[]),(9,pP b5 0),(86,vI (l0.length:Int)),(87,vI (i2:Int))] w) a hF
 clear hF a
 refine ws fun K24 hK24=>wr [(0,0)]<|gb0 [0] [(88,.bool (decide ((i2:Int)<(l0.length:Int))))]<|gn hK24<|ws fun K25 hK25=>?_
 by_cases hc10:(i2:Int)<(l0.length:Int)
 ·rw [if_pos hc10] at h
  refine wk 88 (decide ((i2:Int)<(l0.length:Int))) true (decide_eq_true hc10)<|wt<|we_skip fun a hF=>hK25 _ _ ?_ a hF
  refine ws fun K26 hK26=>we_block<|ws fun K27 hK27=>wr [(0,0),(1,0)]<|gb0 [0,1] [(10,vI (i2:Int)),(89,vI (i2:Int))]<|gn hK27<|ws fun K28 hK28=>wr [(0,0),(1,0),(2,2),(3,0)]<|gb0 [0,1] [(91,vI (i2:Int)),(90,pP b5 0)] ?_
  obtain ⟨Z8,cz8,rfl⟩:=hS.open 3 rfl
  obtain ⟨Z9,cz9,rfl⟩:=hS.open 4 rfl
  rcases hq11:mach_looker_region.f K l0 m7 m8 mp1 (i2:Int) with _ | r2
  ·rw [hq11] at h; cases h
  rw [hq11] at h
  simp only [] at h
  have hS105:=((((hS.b 5).b 5).b 5).b 3).packN 4
  refine ge_call2 (m:=0) (d:=some 92) (f:=53) (args:=#[pP b5 0,vI (i2:Int)]) (by kernel_rfl) (mach_looker_region_ok K b5 l0 A0 c0 m7 Z8 cz8 m8 Z9 cz9 mp1 b4 (i2:Int) _ _ _ hS105 hR0 hL0 _ hq11) ?_
  rintro _ w30 ⟨v12,v13,rfl,hS104⟩
  refine ⟨_,rfl,?_⟩
  have hS106:=hS104.unpack [bk b5 #[.slice A0 l0.length c0,v12,v13,.map (some b4)] 109,Own.of v12 3 r2.2.1,Own.of v13 3 r2.2.2.1,Own.map (κ:=Int) (ν:=Int) b4 r2.2.2.2]
  refine gb0 [3] [(11,vI r2.1)]<|gn hK28<|ws fun K29 hK29=>wr [(0,0),(1,0)]<|gb0 [0,1] [(94,.bool (r2.1 != 0)),(93,vI r2.1)]<|gn hK29 ?_
  by_cases hc11:r2.1=0
  ·rw [if_pos hc11] at h
   refine wk 94 (r2.1 != 0) false (bne_eq_false_iff_eq.2 hc11)<|wf<|we_skip fun a hF=>hK26 _ _ ?_ a hF
   refine wr [(0,0),(1,0)]<|ge_addn (d:=101) (ty:=3) (x:=(.tmp 87)) (y:=(.const (vI 1))) (t:=3) (t2:=3) (k:=.i64) (m:=i2) (by kernel_rfl) (by kernel_rfl) (by kernel_rfl) (by have h0:=hR0.small; omega) ?_
   refine gb0 [1] [(87,vI ((i2+1:Nat):Int))] ?_
   have hS112:=(((((hS106.b 3).b 3).b 3).b 5).b 5).b 5
   obtain rfl:=si h
   exact ge_nil fun a hF=>hQ _ _ _ (Outs.again ⟨v12,v13,hS112,hF.weaken ea⟩)
  rw [if_neg hc11] at h
  refine wk 94 (r2.1 != 0) true (bne_iff_ne.2 hc11)<|wt<|ws fun K30 hK30=>wr [(0,0),(1,0),(2,0),(3,1),(4,0),(5,0),(6,2),(7,2)]<|gb0 [0,1,2] [(97,vI (i2:Int)),(96,vI r2.1),(95,.func (.func 50) #[] #[])]<|ge_call (d:=some 98) (f:=50) (args:=#[vI r2.1,vI (i2:Int)]) (by kernel_rfl) (mach_Look_1_ok r2.1 (i2:Int) _ _ rfl) ?_
  rintro _ w31 ⟨v14,m11,rfl,hS113⟩
  refine ⟨_,rfl,hS113.below,?_⟩
  have hS114:=hS106.call hS113
  refine gb0 [4,5] [(100,.agg #[vI (((mach_Look_1.f r2.1 (i2:Int)).2).Code),vI (((mach_Look_1.f r2.1 (i2:Int)).2).At)]),(99,.agg #[v14,.map m11])] ?_
  obtain ⟨Z10,cz10,rfl⟩:=hS114.open 0 rfl
  have hS115:=hS114.b 7
  refine gs b1 0 #[.slice none 0 0,.map none] 64 [(.slice Z10 (((mach_Look_1.f r2.1 (i2:Int)).1).In).length cz10),.map m11] hS115 fun w32 hS116=>?_
  have hS118:=(hS116.nc #[(.slice Z10 (((mach_Look_1.f r2.1 (i2:Int)).1).In).length cz10),.map m11] rfl).b 7
  refine gs b2 0 #[vI 0,vI 0] 25 [vI (((mach_Look_1.f r2.1 (i2:Int)).2).Code),vI (((mach_Look_1.f r2.1 (i2:Int)).2).At)] hS118 fun w33 hS119=>?_
  have hS120:=hS119.nc #[vI (((mach_Look_1.f r2.1 (i2:Int)).2).Code),vI (((mach_Look_1.f r2.1 (i2:Int)).2).At)] rfl
  refine gn hK30 ?_
  have hS123:=hS120.p [2,3] rfl
  obtain rfl:=si h
  exact we_ret fun a hF=>hQ _ _ _ (Outs.out nofun (Exits.on ⟨rfl,(pr [.cell 2 64,.cell 3 25] [.agg #[(.slice Z10 (((mach_Look_1.f r2.1 (i2:Int)).1).In).length cz10),.map m11],.agg #[vI (((mach_Look_1.f r2.1 (i2:Int)).2).Code),vI (((mach_Look_1.f r2.1 (i2:Int)).2).At)]] [ld b1 0 ((.slice Z10 (((mach_Look_1.f r2.1 (i2:Int)).1).In).length cz10)),ld b1 1 (.map m11),ld b2 0 (vI (((mach_Look_1.f r2.1 (i2:Int)).2).Code)),ld b2 1 (vI (((mach_Look_1.f r2.1 (i2:Int)).2).At))] ⟨hS120.c 1,hS120.c 1,hS120.c 0,hS120.c 0,trivial⟩ ⟨(.slice Z10 (((mach_Look_1.f r2.1 (i2:Int)).1).In).length cz10),m11,rfl,hS123⟩) a hF⟩))
 rw [if_neg hc10] at h
 refine wk 88 (decide ((i2:Int)<(l0.length:Int))) false (decide_eq_false hc10)<|wf ?_
 have hS129:=(((((hS.b 5).b 5).b 5).b 5).b 5).b 5
 obtain rfl:=si h
 exact we_exit fun a hF=>hQ _ _ _ (Outs.out nofun (Exits.here ⟨v8,v9,hS129,hF.weaken ea⟩))
abbrev mach_Look.A2 (w0:World) (l0:List SIns) (A0:OA) (c0 b1 b2 b4 b5:Nat) (m12 m13:List Int) (mp3:List (Int×Int)) (Z11:OA) (cz11:Nat) (Z14:OA) (cz14:Nat):Nat→Act→World→Prop:=fun (s:Nat) a w=>St w0 w [bk b5 #[.slice A0 l0.length c0,(.slice Z11 m12.length cz11),(.slice Z14 m13.length cz14),.map (some b4)] 109,bk b2 #[vI 0,vI 0] 25,bk b1 #[.slice none 0 0,.map none] 64,ro Z11 cz11 3 m12,ro Z14 cz14 3 m13,Own.map (κ:=Int) (ν:=Int) b4 mp3]∧Frm 209 a [(0,.slice A0 l0.length c0),(2,pP b1 0),(3,pP b2 0),(4,.func (.func 50) #[] #[]),(9,pP b5 0),(139,.slice A0 l0.length c0),(140,vI (l0.length:Int)),(141,vI (s:Int))]
abbrev mach_Look.B2 (w0:World) (l0:List SIns) (A0:OA) (c0 b1 b2 b4 b5:Nat) (m12 m13:List Int) (mp3:List (Int×Int)) (Z11:OA) (cz11:Nat) (Z14:OA) (cz14:Nat):(Unit ⊕ (SShape×SFault))→Exit→Act→World→Prop:=Exits 4 (fun (s:Unit) a w=>St w0 w [bk b5 #[.slice A0 l0.length c0,(.slice Z11 m12.length cz11),(.slice Z14 m13.length cz14),.map (some b4)] 109,bk b2 #[vI 0,vI 0] 25,bk b1 #[.slice none 0 0,.map none] 64,ro Z11 cz11 3 m12,ro Z14 cz14 3 m13,Own.map (κ:=Int) (ν:=Int) b4 mp3]∧Frm 209 a [(0,.slice A0 l0.length c0),(2,pP b1 0),(3,pP b2 0),(9,pP b5 0)]) (Rets Tryd.prog Tryd.f30 (mach_Look.Post w0))
theorem mach_Look_r2 (K:Nat) (w0:World) (l0:List SIns) (A0:OA) (c0:Nat) (hR0:RdL w0 A0 l0) (hL0:l0.length≤c0) (b1 b2:Nat) (hc1:¬ ((l0.length:Int) > 2000)) (hc9:l0.length≤17592186044416) (b4:Nat) (Z7:OA) (cz7 b5:Nat) (m12 m13:List Int) (mp3:List (Int×Int)) (Z11:OA) (cz11:Nat) (hc12:¬ ((m12.length:Int) > 0)) (Z14:OA) (cz14 s:Nat) (o:Nat ⊕ (Unit ⊕ (SShape×SFault))) (h:mach_Look.r2 l0 m13 s=some o) (a:Act) (w:World) (hA:mach_Look.A2 w0 l0 A0 c0 b1 b2 b4 b5 m12 m13 mp3 Z11 cz11 Z14 cz14 s a w) (Q:Exit→Act→World→Prop) (hQ:∀ x a w,Outs (mach_Look.A2 w0 l0 A0 c0 b1 b2 b4 b5 m12 m13 mp3 Z11 cz11 Z14 cz14) (mach_Look.B2 w0 l0 A0 c0 b1 b2 b4 b5 m12 m13 mp3 Z11 cz11 Z14 cz14) o x a w→Q x a w):(subF Tryd.f30 [1,1,1,1,1,1,1,0,1,0,0]).wp Tryd.prog Q a w:=by
 obtain ⟨i3,hs⟩:∃ z,z=s:=⟨s,rfl⟩
 subst hs
 obtain ⟨hS,hF⟩:=hA
 replace hS:St w0 w [bk b5 #[.slice A0 l0.length c0,(.slice Z11 m12.length cz11),(.slice Z14 m13.length cz14),.map (some b4)] 109,bk b2 #[vI 0,vI 0] 25,bk b1 #[.slice none 0 0,.map none] 64,ro Z11 cz11 3 m12,ro Z14 cz14 3 m13,Own.map (κ:=Int) (ν:=Int) b4 mp3]:=hS
 simp only [mach_Look.r2] at h
 refine (?_:WE Tryd.prog 209 (subF Tryd.f30 [1,1,1,1,1,1,1,0,1,0,0]) Q [(0,.slice A0 l0.length c0),(2,pP b1 0),(3,pP b2 0),(4,.func (.func 50) #[] #[]),(9,pP b5 0),(139,.slice A0 l0.length c0),(140,vI (l0.length:Int)),(141,vI (i3:Int))] w) a hF
 clear hF a
 refine ws fun K39 hK39=>wr [(0,0)]<|gb0 [0] [(142,.bool (decide ((i3:Int)<(l0.length:Int))))]<|gn hK39<|ws fun K40 hK40=>?_
 by_cases hc15:(i3:Int)<(l0.length:Int)
 ·rw [if_pos hc15] at h
  refine wk 142 (decide ((i3:Int)<(l0.length:Int))) true (decide_eq_true hc15)<|wt<|we_skip fun a hF=>hK40 _ _ ?_ a hF
  refine ws fun K41 hK41=>we_block<|ws fun K42 hK42=>wr [(0,0),(1,0),(2,0),(3,1),(4,0),(5,2)]<|gb0 [0] [(143,vI (i3:Int))] ?_
  rcases hx9:l0[i3]? with _ | e4
  ·rw [hx9] at h; cases h
  rw [hx9] at h
  simp only [] at h
  refine gi 144 0 22 29 3 l0.length c0 (.tmp 139) (.tmp 141) A0 .i64 (i3:Int) i3 ((hS.rd hR0).eqSome (pos_of_get hx9)) rfl (lt_of_get hx9) ?_
  refine gb [2] [(145,.agg #[vI e4.Op,vI e4.A,vI e4.B])] [.loaded ⟨blkOf A0,offOf A0+i3*3,none⟩ (vI e4.Op),.loaded ⟨blkOf A0,offOf A0+i3*3+1,none⟩ (vI e4.A),.loaded ⟨blkOf A0,offOf A0+i3*3+2,none⟩ (vI e4.B)] ⟨RdL.cell (j:=0) (hS.rd hR0) hx9 rfl,RdL.cell (j:=1) (hS.rd hR0) hx9 rfl,RdL.cell (j:=2) (hS.rd hR0) hx9 rfl,trivial⟩<|gw (some 13) (.cells #[vI 0,vI 0,vI 0] 29) (fun b=>pP b 0) hS fun b6 w41 hx10 hS159=>?_
  refine gb0 [4] [(12,vI (i3:Int))]<|gs b6 0 #[vI 0,vI 0,vI 0] 29 [vI e4.Op,vI e4.A,vI e4.B] hS159 fun w42 hS160=>?_
  have hS161:=hS160.nc #[vI e4.Op,vI e4.A,vI e4.B] rfl
  refine gn hK42<|ws fun K43 hK43=>ws fun K44 hK44=>wr [(0,0),(1,0),(2,0),(3,0),(4,0),(5,0),(6,0),(7,0)]<|gb [0,1,2,3] [(149,.bool (e4.Op != 11)),(148,.bool (e4.Op != 11)),(147,vI e4.Op),(146,pP b6 0)] [ld b6 0 (vI e4.Op)] ⟨hS161.c 0,trivial⟩ ?_
  by_cases hc16:e4.Op=11
  ·rw [if_pos hc16] at h
   refine gk 149 (e4.Op != 11) false (bne_eq_false_iff_eq.2 hc16)<|gb0 [4,5,6,7] [(153,.bool false),(152,undef),(151,undef),(150,undef)]<|gn hK44<|wf<|we_skip fun a hF=>hK43 _ _ ?_ a hF
   refine ws fun K45 hK45=>wr [(0,0)]<|gb0 [0] [(14,vI (-1))]<|gn hK45<|ws fun K46 hK46=>ws fun K47 hK47=>wr [(0,0),(1,0),(2,0),(3,0),(4,0)]<|gb [0,1,2,3,4] [(158,.bool (decide (e4.A<(l0.length:Int)))),(157,vI (l0.length:Int)),(156,.slice A0 l0.length c0),(155,vI e4.A),(154,pP b6 1)] [ld b6 1 (vI e4.A)] ⟨hS161.c 0,trivial⟩<|gn hK47 ?_
   by_cases hc17:e4.A<(l0.length:Int)
   ·rw [if_pos hc17] at h
    refine wk 158 (decide (e4.A<(l0.length:Int))) true (decide_eq_true hc17)<|wt<|we_draws (by kernel_rfl) [(0,0),(1,0),(2,0),(3,0),(4,0),(5,0),(6,0),(7,0),(8,0),(9,0)] (by kernel_rfl) ?_
    have hS162:=hS161.drew
    refine gb [0,1,2,3,4,5,6] [(165,vI e4.A),(164,pP b6 1),(163,(.slice Z14 m13.length cz14)),(162,pP b5 2),(161,pP b5 2),(160,pP b5 0),(159,pP b5 0)] [ld b5 2 ((.slice Z14 m13.length cz14)),ld b6 1 (vI e4.A)] ⟨hS162.c 1,hS162.c 0,trivial⟩ ?_
    by_cases hc18:0≤e4.A
    ·rw [if_pos hc18] at h
     rcases hx11:m13[(e4.A).toNat]? with _ | e5
     ·rw [hx11] at h; cases h
     rw [hx11] at h
     simp only [] at h
     refine gi 166 0 37 3 1 m13.length cz14 (.tmp 163) (.tmp 165) Z14 .i64 e4.A ((e4.A).toNat) ((hS162.rdAt 5 rfl).eqSome (pos_of_get hx11)) (Int.toNat_of_nonneg hc18).symm (lt_of_get hx11) ?_
     refine gb [8,9] [(14,vI e5),(167,vI e5)] [.loaded ⟨blkOf Z14,offOf Z14+((e4.A).toNat)*1,none⟩ (vI e5)] ⟨RdL.cell (j:=0) (hS162.rdAt 5 rfl) hx11 rfl,trivial⟩<|gn hK46<|ws fun K48 hK48=>wr [(0,0),(1,0),(2,0),(3,0),(4,0),(5,0),(6,0),(7,0),(8,0),(9,0),(10,0),(11,0),(12,0),(13,0),(14,0),(15,0),(16,0),(17,0),(18,0),(19,0),(20,0),(21,0),(22,0)]<|gb [0,1,2,3,4] [(172,.bool (decide (e4.A≤(i3:Int)))),(171,.bool (decide (e4.A≤(i3:Int)))),(170,vI (i3:Int)),(169,vI e4.A),(168,pP b6 1)] [ld b6 1 (vI e4.A)] ⟨hS162.c 0,trivial⟩ ?_
     by_cases hc19:e4.A≤(i3:Int)
     ·rw [if_pos hc19] at h
      refine gk 172 (decide (e4.A≤(i3:Int))) true (decide_eq_true hc19)<|gb0 [5,6,7,8,9,10,11,12,13,14,15,16,17,18,19,20,21,22] [(190,.bool true),(189,undef),(188,undef),(187,undef),(186,undef),(185,undef),(184,undef),(183,undef),(182,undef),(181,undef),(180,undef),(179,.bool true),(178,.bool true),(177,undef),(176,undef),(175,undef),(174,undef),(173,undef)]<|gn hK48<|wt<|ws fun K49 hK49=>wr [(0,0),(1,0),(2,1),(3,0),(4,0),(5,2),(6,2)]<|gb0 [0,1] [(192,vI (i3:Int)),(191,.func (.func 50) #[] #[])]<|ge_call (d:=some 193) (f:=50) (args:=#[vI 7,vI (i3:Int)]) (by kernel_rfl) (mach_Look_1_ok 7 (i3:Int) _ _ rfl) ?_
      rintro _ w43 ⟨v19,m16,rfl,hS163⟩
      refine ⟨_,rfl,hS163.below,?_⟩
      have hS164:=hS162.call hS163
      refine gb0 [3,4] [(195,.agg #[vI (((mach_Look_1.f 7 (i3:Int)).2).Code),vI (((mach_Look_1.f 7 (i3:Int)).2).At)]),(194,.agg #[v19,.map m16])] ?_
      obtain ⟨Z15,cz15,rfl⟩:=hS164.open 0 rfl
      have hS165:=hS164.b 5
      refine gs b1 0 #[.slice none 0 0,.map none] 64 [(.slice Z15 (((mach_Look_1.f 7 (i3:Int)).1).In).length cz15),.map m16] hS165 fun w44 hS166=>?_
      have hS168:=(hS166.nc #[(.slice Z15 (((mach_Look_1.f 7 (i3:Int)).1).In).length cz15),.map m16] rfl).b 5
      refine gs b2 0 #[vI 0,vI 0] 25 [vI (((mach_Look_1.f 7 (i3:Int)).2).Code),vI (((mach_Look_1.f 7 (i3:Int)).2).At)] hS168 fun w45 hS169=>?_
      have hS170:=hS169.nc #[vI (((mach_Look_1.f 7 (i3:Int)).2).Code),vI (((mach_Look_1.f 7 (i3:Int)).2).At)] rfl
      refine gn hK49 ?_
      have hS173:=hS170.p [2,3] rfl
      obtain rfl:=si h
      exact we_ret fun a hF=>hQ _ _ _ (Outs.out nofun (Exits.on ⟨rfl,(pr [.cell 2 64,.cell 3 25] [.agg #[(.slice Z15 (((mach_Look_1.f 7 (i3:Int)).1).In).length cz15),.map m16],.agg #[vI (((mach_Look_1.f 7 (i3:Int)).2).Code),vI (((mach_Look_1.f 7 (i3:Int)).2).At)]] [ld b1 0 ((.slice Z15 (((mach_Look_1.f 7 (i3:Int)).1).In).length cz15)),ld b1 1 (.map m16),ld b2 0 (vI (((mach_Look_1.f 7 (i3:Int)).2).Code)),ld b2 1 (vI (((mach_Look_1.f 7 (i3:Int)).2).At))] ⟨hS170.c 1,hS170.c 1,hS170.c 0,hS170.c 0,trivial⟩ ⟨(.slice Z15 (((mach_Look_1.f 7 (i3:Int)).1).In).length cz15),m16,rfl,hS173⟩) a hF⟩))
     rw [if_neg hc19] at h
     refine gk 172 (decide (e4.A≤(i3:Int))) false (decide_eq_false hc19)<|gb [5,6,7,8,9,10,11] [(179,.bool (decide (e4.A > (l0.length:Int)))),(178,.bool (decide (e4.A > (l0.length:Int)))),(177,.bool (decide (e4.A > (l0.length:Int)))),(176,vI (l0.length:Int)),(175,.slice A0 l0.length c0),(174,vI e4.A),(173,pP b6 1)] [ld b6 1 (vI e4.A)] ⟨hS162.c 0,trivial⟩ ?_
     by_cases hc20:e4.A > (l0.length:Int)
     ·rw [if_pos hc20] at h
      refine gk 179 (decide (e4.A > (l0.length:Int))) true (decide_eq_true hc20)<|gb0 [12,13,14,15,16,17,18,19,20,21,22] [(190,.bool true),(189,undef),(188,undef),(187,undef),(186,undef),(185,undef),(184,undef),(183,undef),(182,undef),(181,undef),(180,undef)]<|gn hK48<|wt<|ws fun K50 hK50=>wr [(0,0),(1,0),(2,1),(3,0),(4,0),(5,2),(6,2)]<|gb0 [0,1] [(192,vI (i3:Int)),(191,.func (.func 50) #[] #[])]<|ge_call (d:=some 193) (f:=50) (args:=#[vI 7,vI (i3:Int)]) (by kernel_rfl) (mach_Look_1_ok 7 (i3:Int) _ _ rfl) ?_
      rintro _ w46 ⟨v20,m17,rfl,hS174⟩
      refine ⟨_,rfl,hS174.below,?_⟩
      have hS175:=hS162.call hS174
      refine gb0 [3,4] [(195,.agg #[vI (((mach_Look_1.f 7 (i3:Int)).2).Code),vI (((mach_Look_1.f 7 (i3:Int)).2).At)]),(194,.agg #[v20,.map m17])] ?_
      obtain ⟨Z16,cz16,rfl⟩:=hS175.open 0 rfl
      have hS176:=hS175.b 5
      refine gs b1 0 #[.slice none 0 0,.map none] 64 [(.slice Z16 (((mach_Look_1.f 7 (i3:Int)).1).In).length cz16),.map m17] hS176 fun w47 hS177=>?_
      have hS179:=(hS177.nc #[(.slice Z16 (((mach_Look_1.f 7 (i3:Int)).1).In).length cz16),.map m17] rfl).b 5
      refine gs b2 0 #[vI 0,vI 0] 25 [vI (((mach_Look_1.f 7 (i3:Int)).2).Code),vI (((mach_Look_1.f 7 (i3:Int)).2).At)] hS179 fun w48 hS180=>?_
      have hS181:=hS180.nc #[vI (((mach_Look_1.f 7 (i3:Int)).2).Code),vI (((mach_Look_1.f 7 (i3:Int)).2).At)] rfl
      refine gn hK50 ?_
      have hS184:=hS181.p [2,3] rfl
      obtain rfl:=si h
      exact we_ret fun a hF=>hQ _ _ _ (Outs.out nofun (Exits.on ⟨rfl,(pr [.cell 2 64,.cell 3 25] [.agg #[(.slice Z16 (((mach_Look_1.f 7 (i3:Int)).1).In).length cz16),.map m17],.agg #[vI (((mach_Look_1.f 7 (i3:Int)).2).Code),vI (((mach_Look_1.f 7 (i3:Int)).2).At)]] [ld b1 0 ((.slice Z16 (((mach_Look_1.f 7 (i3:Int)).1).In).length cz16)),ld b1 1 (.map m17),ld b2 0 (vI (((mach_Look_1.f 7 (i3:Int)).2).Code)),ld b2 1 (vI (((mach_Look_1.f 7 (i3:Int)).2).At))] ⟨hS181.c 1,hS181.c 1,hS181.c 0,hS181.c 0,trivial⟩ ⟨(.slice Z16 (((mach_Look_1.f 7 (i3:Int)).1).In).length cz16),m17,rfl,hS184⟩) a hF⟩))
     rw [if_neg hc20] at h
     refine gk 179 (decide (e4.A > (l0.length:Int))) false (decide_eq_false hc20)<|gb [12,13,14,15,16,17,18] [(186,vI (i3:Int)),(185,(.slice Z14 m13.length cz14)),(184,pP b5 2),(183,pP b5 2),(182,pP b5 0),(181,pP b5 0),(180,vI e5)] [ld b5 2 ((.slice Z14 m13.length cz14))] ⟨hS162.c 1,trivial⟩ ?_
     rcases hx12:m13[i3]? with _ | e6
     ·rw [hx12] at h; cases h
     rw [hx12] at h
     simp only [] at h
     refine gi 187 0 37 3 1 m13.length cz14 (.tmp 185) (.tmp 186) Z14 .i64 (i3:Int) i3 ((hS162.rdAt 5 rfl).eqSome (pos_of_get hx12)) rfl (lt_of_get hx12) ?_
     refine gb [20,21,22] [(190,.bool (e5 != e6)),(189,.bool (e5 != e6)),(188,vI e6)] [.loaded ⟨blkOf Z14,offOf Z14+i3*1,none⟩ (vI e6)] ⟨RdL.cell (j:=0) (hS162.rdAt 5 rfl) hx12 rfl,trivial⟩<|gn hK48 ?_
     by_cases hc21:e5=e6
     ·rw [if_pos hc21] at h
      refine wk 190 (e5 != e6) false (bne_eq_false_iff_eq.2 hc21)<|wf<|we_skip fun a hF=>hK41 _ _ ?_ a hF
      refine wr [(0,0),(1,0)]<|ge_addn (d:=196) (ty:=3) (x:=(.tmp 141)) (y:=(.const (vI 1))) (t:=3) (t2:=3) (k:=.i64) (m:=i3) (by kernel_rfl) (by kernel_rfl) (by kernel_rfl) (by have h0:=hR0.small; omega) ?_
      refine gb0 [1] [(141,vI ((i3+1:Nat):Int))] ?_
      have hS191:=hS162.p [1,2,3,4,5,6] rfl
      obtain rfl:=si h
      exact ge_nil fun a hF=>hQ _ _ _ (Outs.again ⟨hS191,hF.weaken ea⟩)
     rw [if_neg hc21] at h
     refine wk 190 (e5 != e6) true (bne_iff_ne.2 hc21)<|wt<|ws fun K51 hK51=>wr [(0,0),(1,0),(2,1),(3,0),(4,0),(5,2),(6,2)]<|gb0 [0,1] [(192,vI (i3:Int)),(191,.func (.func 50) #[] #[])]<|ge_call (d:=some 193) (f:=50) (args:=#[vI 7,vI (i3:Int)]) (by kernel_rfl) (mach_Look_1_ok 7 (i3:Int) _ _ rfl) ?_
     rintro _ w49 ⟨v21,m18,rfl,hS192⟩
     refine ⟨_,rfl,hS192.below,?_⟩
     have hS193:=hS162.call hS192
     refine gb0 [3,4] [(195,.agg #[vI (((mach_Look_1.f 7 (i3:Int)).2).Code),vI (((mach_Look_1.f 7 (i3:Int)).2).At)]),(194,.agg #[v21,.map m18])] ?_
     obtain ⟨Z17,cz17,rfl⟩:=hS193.open 0 rfl
     have hS194:=hS193.b 5
     refine gs b1 0 #[.slice none 0 0,.map none] 64 [(.slice Z17 (((mach_Look_1.f 7 (i3:Int)).1).In).length cz17),.map m18] hS194 fun w50 hS195=>?_
     have hS197:=(hS195.nc #[(.slice Z17 (((mach_Look_1.f 7 (i3:Int)).1).In).length cz17),.map m18] rfl).b 5
     refine gs b2 0 #[vI 0,vI 0] 25 [vI (((mach_Look_1.f 7 (i3:Int)).2).Code),vI (((mach_Look_1.f 7 (i3:Int)).2).At)] hS197 fun w51 hS198=>?_
     have hS199:=hS198.nc #[vI (((mach_Look_1.f 7 (i3:Int)).2).Code),vI (((mach_Look_1.f 7 (i3:Int)).2).At)] rfl
     refine gn hK51 ?_
     have hS202:=hS199.p [2,3] rfl
     obtain rfl:=si h
     exact we_ret fun a hF=>hQ _ _ _ (Outs.out nofun (Exits.on ⟨rfl,(pr [.cell 2 64,.cell 3 25] [.agg #[(.slice Z17 (((mach_Look_1.f 7 (i3:Int)).1).In).length cz17),.map m18],.agg #[vI (((mach_Look_1.f 7 (i3:Int)).2).Code),vI (((mach_Look_1.f 7 (i3:Int)).2).At)]] [ld b1 0 ((.slice Z17 (((mach_Look_1.f 7 (i3:Int)).1).In).length cz17)),ld b1 1 (.map m18),ld b2 0 (vI (((mach_Look_1.f 7 (i3:Int)).2).Code)),ld b2 1 (vI (((mach_Look_1.f 7 (i3:Int)).2).At))] ⟨hS199.c 1,hS199.c 1,hS199.c 0,hS199.c 0,trivial⟩ ⟨(.slice Z17 (((mach_Look_1.f 7 (i3:Int)).1).In).length cz17),m18,rfl,hS202⟩) a hF⟩))
    rw [if_neg hc18] at h
    cases h
   rw [if_neg hc17] at h
   refine wk 158 (decide (e4.A<(l0.length:Int))) false (decide_eq_false hc17)<|wf<|we_skip fun a hF=>hK46 _ _ ?_ a hF
   refine ws fun K52 hK52=>wr [(0,0),(1,0),(2,0),(3,0),(4,0),(5,0),(6,0),(7,0),(8,0),(9,0),(10,0),(11,0),(12,0),(13,0),(14,0),(15,0),(16,0),(17,0),(18,0),(19,0),(20,0),(21,0),(22,0)]<|gb [0,1,2,3,4] [(172,.bool (decide (e4.A≤(i3:Int)))),(171,.bool (decide (e4.A≤(i3:Int)))),(170,vI (i3:Int)),(169,vI e4.A),(168,pP b6 1)] [ld b6 1 (vI e4.A)] ⟨hS161.c 0,trivial⟩ ?_
   by_cases hc22:e4.A≤(i3:Int)
   ·rw [if_pos hc22] at h
    refine gk 172 (decide (e4.A≤(i3:Int))) true (decide_eq_true hc22)<|gb0 [5,6,7,8,9,10,11,12,13,14,15,16,17,18,19,20,21,22] [(190,.bool true),(189,undef),(188,undef),(187,undef),(186,undef),(185,undef),(184,undef),(183,undef),(182,undef),(181,undef),(180,undef),(179,.bool true),(178,.bool true),(177,undef),(176,undef),(175,undef),(174,undef),(173,undef)]<|gn hK52<|wt<|ws fun K53 hK53=>wr [(0,0),(1,0),(2,1),(3,0),(4,0),(5,2),(6,2)]<|gb0 [0,1] [(192,vI (i3:Int)),(191,.func (.func 50) #[] #[])]<|ge_call (d:=some 193) (f:=50) (args:=#[vI 7,vI (i3:Int)]) (by kernel_rfl) (mach_Look_1_ok 7 (i3:Int) _ _ rfl) ?_
    rintro _ w52 ⟨v22,m19,rfl,hS203⟩
    refine ⟨_,rfl,hS203.below,?_⟩
    have hS204:=hS161.call hS203
    refine gb0 [3,4] [(195,.agg #[vI (((mach_Look_1.f 7 (i3:Int)).2).Code),vI (((mach_Look_1.f 7 (i3:Int)).2).At)]),(194,.agg #[v22,.map m19])] ?_
    obtain ⟨Z18,cz18,rfl⟩:=hS204.open 0 rfl
    have hS205:=hS204.b 5
    refine gs b1 0 #[.slice none 0 0,.map none] 64 [(.slice Z18 (((mach_Look_1.f 7 (i3:Int)).1).In).length cz18),.map m19] hS205 fun w53 hS206=>?_
    have hS208:=(hS206.nc #[(.slice Z18 (((mach_Look_1.f 7 (i3:Int)).1).In).length cz18),.map m19] rfl).b 5
    refine gs b2 0 #[vI 0,vI 0] 25 [vI (((mach_Look_1.f 7 (i3:Int)).2).Code),vI (((mach_Look_1.f 7 (i3:Int)).2).At)] hS208 fun w54 hS209=>?_
    have hS210:=hS209.nc #[vI (((mach_Look_1.f 7 (i3:Int)).2).Code),vI (((mach_Look_1.f 7 (i3:Int)).2).At)] rfl
    refine gn hK53 ?_
    have hS213:=hS210.p [2,3] rfl
    obtain rfl:=si h
    exact we_ret fun a hF=>hQ _ _ _ (Outs.out nofun (Exits.on ⟨rfl,(pr [.cell 2 64,.cell 3 25] [.agg #[(.slice Z18 (((mach_Look_1.f 7 (i3:Int)).1).In).length cz18),.map m19],.agg #[vI (((mach_Look_1.f 7 (i3:Int)).2).Code),vI (((mach_Look_1.f 7 (i3:Int)).2).At)]] [ld b1 0 ((.slice Z18 (((mach_Look_1.f 7 (i3:Int)).1).In).length cz18)),ld b1 1 (.map m19),ld b2 0 (vI (((mach_Look_1.f 7 (i3:Int)).2).Code)),ld b2 1 (vI (((mach_Look_1.f 7 (i3:Int)).2).At))] ⟨hS210.c 1,hS210.c 1,hS210.c 0,hS210.c 0,trivial⟩ ⟨(.slice Z18 (((mach_Look_1.f 7 (i3:Int)).1).In).length cz18),m19,rfl,hS213⟩) a hF⟩))
   rw [if_neg hc22] at h
   refine gk 172 (decide (e4.A≤(i3:Int))) false (decide_eq_false hc22)<|gb [5,6,7,8,9,10,11] [(179,.bool (decide (e4.A > (l0.length:Int)))),(178,.bool (decide (e4.A > (l0.length:Int)))),(177,.bool (decide (e4.A > (l0.length:Int)))),(176,vI (l0.length:Int)),(175,.slice A0 l0.length c0),(174,vI e4.A),(173,pP b6 1)] [ld b6 1 (vI e4.A)] ⟨hS161.c 0,trivial⟩ ?_
   by_cases hc23:e4.A > (l0.length:Int)
   ·rw [if_pos hc23] at h
    refine gk 179 (decide (e4.A > (l0.length:Int))) true (decide_eq_true hc23)<|gb0 [12,13,14,15,16,17,18,19,20,21,22] [(190,.bool true),(189,undef),(188,undef),(187,undef),(186,undef),(185,undef),(184,undef),(183,undef),(182,undef),(181,undef),(180,undef)]<|gn hK52<|wt<|ws fun K54 hK54=>wr [(0,0),(1,0),(2,1),(3,0),(4,0),(5,2),(6,2)]<|gb0 [0,1] [(192,vI (i3:Int)),(191,.func (.func 50) #[] #[])]<|ge_call (d:=some 193) (f:=50) (args:=#[vI 7,vI (i3:Int)]) (by kernel_rfl) (mach_Look_1_ok 7 (i3:Int) _ _ rfl) ?_
    rintro _ w55 ⟨v23,m20,rfl,hS214⟩
    refine ⟨_,rfl,hS214.below,?_⟩
    have hS215:=hS161.call hS214
    refine gb0 [3,4] [(195,.agg #[vI (((mach_Look_1.f 7 (i3:Int)).2).Code),vI (((mach_Look_1.f 7 (i3:Int)).2).At)]),(194,.agg #[v23,.map m20])] ?_
    obtain ⟨Z19,cz19,rfl⟩:=hS215.open 0 rfl
    have hS216:=hS215.b 5
    refine gs b1 0 #[.slice none 0 0,.map none] 64 [(.slice Z19 (((mach_Look_1.f 7 (i3:Int)).1).In).length cz19),.map m20] hS216 fun w56 hS217=>?_
    have hS219:=(hS217.nc #[(.slice Z19 (((mach_Look_1.f 7 (i3:Int)).1).In).length cz19),.map m20] rfl).b 5
    refine gs b2 0 #[vI 0,vI 0] 25 [vI (((mach_Look_1.f 7 (i3:Int)).2).Code),vI (((mach_Look_1.f 7 (i3:Int)).2).At)] hS219 fun w57 hS220=>?_
    have hS221:=hS220.nc #[vI (((mach_Look_1.f 7 (i3:Int)).2).Code),vI (((mach_Look_1.f 7 (i3:Int)).2).At)] rfl
    refine gn hK54 ?_
    have hS224:=hS221.p [2,3] rfl
    obtain rfl:=si h
    exact we_ret fun a hF=>hQ _ _ _ (Outs.out nofun (Exits.on ⟨rfl,(pr [.cell 2 64,.cell 3 25] [.agg #[(.slice Z19 (((mach_Look_1.f 7 (i3:Int)).1).In).length cz19),.map m20],.agg #[vI (((mach_Look_1.f 7 (i3:Int)).2).Code),vI (((mach_Look_1.f 7 (i3:Int)).2).At)]] [ld b1 0 ((.slice Z19 (((mach_Look_1.f 7 (i3:Int)).1).In).length cz19)),ld b1 1 (.map m20),ld b2 0 (vI (((mach_Look_1.f 7 (i3:Int)).2).Code)),ld b2 1 (vI (((mach_Look_1.f 7 (i3:Int)).2).At))] ⟨hS221.c 1,hS221.c 1,hS221.c 0,hS221.c 0,trivial⟩ ⟨(.slice Z19 (((mach_Look_1.f 7 (i3:Int)).1).In).length cz19),m20,rfl,hS224⟩) a hF⟩))
   rw [if_neg hc23] at h
   refine gk 179 (decide (e4.A > (l0.length:Int))) false (decide_eq_false hc23)<|gb [12,13,14,15,16,17,18] [(186,vI (i3:Int)),(185,(.slice Z14 m13.length cz14)),(184,pP b5 2),(183,pP b5 2),(182,pP b5 0),(181,pP b5 0),(180,vI (-1))] [ld b5 2 ((.slice Z14 m13.length cz14))] ⟨hS161.c 1,trivial⟩ ?_
   rcases hx13:m13[i3]? with _ | e7
   ·rw [hx13] at h; cases h
   rw [hx13] at h
   simp only [] at h
   refine gi 187 0 37 3 1 m13.length cz14 (.tmp 185) (.tmp 186) Z14 .i64 (i3:Int) i3 ((hS161.rdAt 5 rfl).eqSome (pos_of_get hx13)) rfl (lt_of_get hx13) ?_
   refine gb [20,21,22] [(190,.bool ((-1) != e7)),(189,.bool ((-1) != e7)),(188,vI e7)] [.loaded ⟨blkOf Z14,offOf Z14+i3*1,none⟩ (vI e7)] ⟨RdL.cell (j:=0) (hS161.rdAt 5 rfl) hx13 rfl,trivial⟩<|gn hK52 ?_
   by_cases hc24:(-1)=e7
   ·rw [if_pos hc24] at h
    refine wk 190 ((-1) != e7) false (bne_eq_false_iff_eq.2 hc24)<|wf<|we_skip fun a hF=>hK41 _ _ ?_ a hF
    refine wr [(0,0),(1,0)]<|ge_addn (d:=196) (ty:=3) (x:=(.tmp 141)) (y:=(.const (vI 1))) (t:=3) (t2:=3) (k:=.i64) (m:=i3) (by kernel_rfl) (by kernel_rfl) (by kernel_rfl) (by have h0:=hR0.small; omega) ?_
    refine gb0 [1] [(141,vI ((i3+1:Nat):Int))] ?_
    have hS231:=hS161.p [1,2,3,4,5,6] rfl
    obtain rfl:=si h
    exact ge_nil fun a hF=>hQ _ _ _ (Outs.again ⟨hS231,hF.weaken ea⟩)
   rw [if_neg hc24] at h
   refine wk 190 ((-1) != e7) true (bne_iff_ne.2 hc24)<|wt<|ws fun K55 hK55=>wr [(0,0),(1,0),(2,1),(3,0),(4,0),(5,2),(6,2)]<|gb0 [0,1] [(192,vI (i3:Int)),(191,.func (.func 50) #[] #[])]<|ge_call (d:=some 193) (f:=50) (args:=#[vI 7,vI (i3:Int)]) (by kernel_rfl) (mach_Look_1_ok 7 (i3:Int) _ _ rfl) ?_
   rintro _ w58 ⟨v24,m21,rfl,hS232⟩
   refine ⟨_,rfl,hS232.below,?_⟩
   have hS233:=hS161.call hS232
   refine gb0 [3,4] [(195,.agg #[vI (((mach_Look_1.f 7 (i3:Int)).2).Code),vI (((mach_Look_1.f 7 (i3:Int)).2).At)]),(194,.agg #[v24,.map m21])] ?_
   obtain ⟨Z20,cz20,rfl⟩:=hS233.open 0 rfl
   have hS234:=hS233.b 5
   refine gs b1 0 #[.slice none 0 0,.map none] 64 [(.slice Z20 (((mach_Look_1.f 7 (i3:Int)).1).In).length cz20),.map m21] hS234 fun w59 hS235=>?_
   have hS237:=(hS235.nc #[(.slice Z20 (((mach_Look_1.f 7 (i3:Int)).1).In).length cz20),.map m21] rfl).b 5
   refine gs b2 0 #[vI 0,vI 0] 25 [vI (((mach_Look_1.f 7 (i3:Int)).2).Code),vI (((mach_Look_1.f 7 (i3:Int)).2).At)] hS237 fun w60 hS238=>?_
   have hS239:=hS238.nc #[vI (((mach_Look_1.f 7 (i3:Int)).2).Code),vI (((mach_Look_1.f 7 (i3:Int)).2).At)] rfl
   refine gn hK55 ?_
   have hS242:=hS239.p [2,3] rfl
   obtain rfl:=si h
   exact we_ret fun a hF=>hQ _ _ _ (Outs.out nofun (Exits.on ⟨rfl,(pr [.cell 2 64,.cell 3 25] [.agg #[(.slice Z20 (((mach_Look_1.f 7 (i3:Int)).1).In).length cz20),.map m21],.agg #[vI (((mach_Look_1.f 7 (i3:Int)).2).Code),vI (((mach_Look_1.f 7 (i3:Int)).2).At)]] [ld b1 0 ((.slice Z20 (((mach_Look_1.f 7 (i3:Int)).1).In).length cz20)),ld b1 1 (.map m21),ld b2 0 (vI (((mach_Look_1.f 7 (i3:Int)).2).Code)),ld b2 1 (vI (((mach_Look_1.f 7 (i3:Int)).2).At))] ⟨hS239.c 1,hS239.c 1,hS239.c 0,hS239.c 0,trivial⟩ ⟨(.slice Z20 (((mach_Look_1.f 7 (i3:Int)).1).In).length cz20),m21,rfl,hS242⟩) a hF⟩))
  rw [if_neg hc16] at h
  refine gk 149 (e4.Op != 11) true (bne_iff_ne.2 hc16)<|gb [4,5,6,7] [(153,.bool (e4.Op != 12)),(152,.bool (e4.Op != 12)),(151,vI e4.Op),(150,pP b6 0)] [ld b6 0 (vI e4.Op)] ⟨hS161.c 0,trivial⟩<|gn hK44 ?_
  by_cases hc25:e4.Op=12
  ·rw [if_pos hc25] at h
   refine wk 153 (e4.Op != 12) false (bne_eq_false_iff_eq.2 hc25)<|wf<|we_skip fun a hF=>hK43 _ _ ?_ a hF
   refine ws fun K56 hK56=>wr [(0,0)]<|gb0 [0] [(14,vI (-1))]<|gn hK56<|ws fun K57 hK57=>ws fun K58 hK58=>wr [(0,0),(1,0),(2,0),(3,0),(4,0)]<|gb [0,1,2,3,4] [(158,.bool (decide (e4.A<(l0.length:Int)))),(157,vI (l0.length:Int)),(156,.slice A0 l0.length c0),(155,vI e4.A),(154,pP b6 1)] [ld b6 1 (vI e4.A)] ⟨hS161.c 0,trivial⟩<|gn hK58 ?_
   by_cases hc26:e4.A<(l0.length:Int)
   ·rw [if_pos hc26] at h
    refine wk 158 (decide (e4.A<(l0.length:Int))) true (decide_eq_true hc26)<|wt<|we_draws (by kernel_rfl) [(0,0),(1,0),(2,0),(3,0),(4,0),(5,0),(6,0),(7,0),(8,0),(9,0)] (by kernel_rfl) ?_
    have hS243:=hS161.drew
    refine gb [0,1,2,3,4,5,6] [(165,vI e4.A),(164,pP b6 1),(163,(.slice Z14 m13.length cz14)),(162,pP b5 2),(161,pP b5 2),(160,pP b5 0),(159,pP b5 0)] [ld b5 2 ((.slice Z14 m13.length cz14)),ld b6 1 (vI e4.A)] ⟨hS243.c 1,hS243.c 0,trivial⟩ ?_
    by_cases hc27:0≤e4.A
    ·rw [if_pos hc27] at h
     rcases hx14:m13[(e4.A).toNat]? with _ | e8
     ·rw [hx14] at h; cases h
     rw [hx14] at h
     simp only [] at h
     refine gi 166 0 37 3 1 m13.length cz14 (.tmp 163) (.tmp 165) Z14 .i64 e4.A ((e4.A).toNat) ((hS243.rdAt 5 rfl).eqSome (pos_of_get hx14)) (Int.toNat_of_nonneg hc27).symm (lt_of_get hx14) ?_
     refine gb [8,9] [(14,vI e8),(167,vI e8)] [.loaded ⟨blkOf Z14,offOf Z14+((e4.A).toNat)*1,none⟩ (vI e8)] ⟨RdL.cell (j:=0) (hS243.rdAt 5 rfl) hx14 rfl,trivial⟩<|gn hK57<|ws fun K59 hK59=>wr [(0,0),(1,0),(2,0),(3,0),(4,0),(5,0),(6,0),(7,0),(8,0),(9,0),(10,0),(11,0),(12,0),(13,0),(14,0),(15,0),(16,0),(17,0),(18,0),(19,0),(20,0),(21,0),(22,0)]<|gb [0,1,2,3,4] [(172,.bool (decide (e4.A≤(i3:Int)))),(171,.bool (decide (e4.A≤(i3:Int)))),(170,vI (i3:Int)),(169,vI e4.A),(168,pP b6 1)] [ld b6 1 (vI e4.A)] ⟨hS243.c 0,trivial⟩ ?_
     by_cases hc28:e4.A≤(i3:Int)
     ·rw [if_pos hc28] at h
      refine gk 172 (decide (e4.A≤(i3:Int))) true (decide_eq_true hc28)<|gb0 [5,6,7,8,9,10,11,12,13,14,15,16,17,18,19,20,21,22] [(190,.bool true),(189,undef),(188,undef),(187,undef),(186,undef),(185,undef),(184,undef),(183,undef),(182,undef),(181,undef),(180,undef),(179,.bool true),(178,.bool true),(177,undef),(176,undef),(175,undef),(174,undef),(173,undef)]<|gn hK59<|wt<|ws fun K60 hK60=>wr [(0,0),(1,0),(2,1),(3,0),(4,0),(5,2),(6,2)]<|gb0 [0,1] [(192,vI (i3:Int)),(191,.func (.func 50) #[] #[])]<|ge_call (d:=some 193) (f:=50) (args:=#[vI 7,vI (i3:Int)]) (by kernel_rfl) (mach_Look_1_ok 7 (i3:Int) _ _ rfl) ?_
      rintro _ w61 ⟨v25,m22,rfl,hS244⟩
      refine ⟨_,rfl,hS244.below,?_⟩
      have hS245:=hS243.call hS244
      refine gb0 [3,4] [(195,.agg #[vI (((mach_Look_1.f 7 (i3:Int)).2).Code),vI (((mach_Look_1.f 7 (i3:Int)).2).At)]),(194,.agg #[v25,.map m22])] ?_
      obtain ⟨Z21,cz21,rfl⟩:=hS245.open 0 rfl
      have hS246:=hS245.b 5
      refine gs b1 0 #[.slice none 0 0,.map none] 64 [(.slice Z21 (((mach_Look_1.f 7 (i3:Int)).1).In).length cz21),.map m22] hS246 fun w62 hS247=>?_
      have hS249:=(hS247.nc #[(.slice Z21 (((mach_Look_1.f 7 (i3:Int)).1).In).length cz21),.map m22] rfl).b 5
      refine gs b2 0 #[vI 0,vI 0] 25 [vI (((mach_Look_1.f 7 (i3:Int)).2).Code),vI (((mach_Look_1.f 7 (i3:Int)).2).At)] hS249 fun w63 hS250=>?_
      have hS251:=hS250.nc #[vI (((mach_Look_1.f 7 (i3:Int)).2).Code),vI (((mach_Look_1.f 7 (i3:Int)).2).At)] rfl
      refine gn hK60 ?_
      have hS254:=hS251.p [2,3] rfl
      obtain rfl:=si h
      exact we_ret fun a hF=>hQ _ _ _ (Outs.out nofun (Exits.on ⟨rfl,(pr [.cell 2 64,.cell 3 25] [.agg #[(.slice Z21 (((mach_Look_1.f 7 (i3:Int)).1).In).length cz21),.map m22],.agg #[vI (((mach_Look_1.f 7 (i3:Int)).2).Code),vI (((mach_Look_1.f 7 (i3:Int)).2).At)]] [ld b1 0 ((.slice Z21 (((mach_Look_1.f 7 (i3:Int)).1).In).length cz21)),ld b1 1 (.map m22),ld b2 0 (vI (((mach_Look_1.f 7 (i3:Int)).2).Code)),ld b2 1 (vI (((mach_Look_1.f 7 (i3:Int)).2).At))] ⟨hS251.c 1,hS251.c 1,hS251.c 0,hS251.c 0,trivial⟩ ⟨(.slice Z21 (((mach_Look_1.f 7 (i3:Int)).1).In).length cz21),m22,rfl,hS254⟩) a hF⟩))
     rw [if_neg hc28] at h
     refine gk 172 (decide (e4.A≤(i3:Int))) false (decide_eq_false hc28)<|gb [5,6,7,8,9,10,11] [(179,.bool (decide (e4.A > (l0.length:Int)))),(178,.bool (decide (e4.A > (l0.length:Int)))),(177,.bool (decide (e4.A > (l0.length:Int)))),(176,vI (l0.length:Int)),(175,.slice A0 l0.length c0),(174,vI e4.A),(173,pP b6 1)] [ld b6 1 (vI e4.A)] ⟨hS243.c 0,trivial⟩ ?_
     by_cases hc29:e4.A > (l0.length:Int)
     ·rw [if_pos hc29] at h
      refine gk 179 (decide (e4.A > (l0.length:Int))) true (decide_eq_true hc29)<|gb0 [12,13,14,15,16,17,18,19,20,21,22] [(190,.bool true),(189,undef),(188,undef),(187,undef),(186,undef),(185,undef),(184,undef),(183,undef),(182,undef),(181,undef),(180,undef)]<|gn hK59<|wt<|ws fun K61 hK61=>wr [(0,0),(1,0),(2,1),(3,0),(4,0),(5,2),(6,2)]<|gb0 [0,1] [(192,vI (i3:Int)),(191,.func (.func 50) #[] #[])]<|ge_call (d:=some 193) (f:=50) (args:=#[vI 7,vI (i3:Int)]) (by kernel_rfl) (mach_Look_1_ok 7 (i3:Int) _ _ rfl) ?_
      rintro _ w64 ⟨v26,m23,rfl,hS255⟩
      refine ⟨_,rfl,hS255.below,?_⟩
      have hS256:=hS243.call hS255
      refine gb0 [3,4] [(195,.agg #[vI (((mach_Look_1.f 7 (i3:Int)).2).Code),vI (((mach_Look_1.f 7 (i3:Int)).2).At)]),(194,.agg #[v26,.map m23])] ?_
      obtain ⟨Z22,cz22,rfl⟩:=hS256.open 0 rfl
      have hS257:=hS256.b 5
      refine gs b1 0 #[.slice none 0 0,.map none] 64 [(.slice Z22 (((mach_Look_1.f 7 (i3:Int)).1).In).length cz22),.map m23] hS257 fun w65 hS258=>?_
      have hS260:=(hS258.nc #[(.slice Z22 (((mach_Look_1.f 7 (i3:Int)).1).In).length cz22),.map m23] rfl).b 5
      refine gs b2 0 #[vI 0,vI 0] 25 [vI (((mach_Look_1.f 7 (i3:Int)).2).Code),vI (((mach_Look_1.f 7 (i3:Int)).2).At)] hS260 fun w66 hS261=>?_
      have hS262:=hS261.nc #[vI (((mach_Look_1.f 7 (i3:Int)).2).Code),vI (((mach_Look_1.f 7 (i3:Int)).2).At)] rfl
      refine gn hK61 ?_
      have hS265:=hS262.p [2,3] rfl
      obtain rfl:=si h
      exact we_ret fun a hF=>hQ _ _ _ (Outs.out nofun (Exits.on ⟨rfl,(pr [.cell 2 64,.cell 3 25] [.agg #[(.slice Z22 (((mach_Look_1.f 7 (i3:Int)).1).In).length cz22),.map m23],.agg #[vI (((mach_Look_1.f 7 (i3:Int)).2).Code),vI (((mach_Look_1.f 7 (i3:Int)).2).At)]] [ld b1 0 ((.slice Z22 (((mach_Look_1.f 7 (i3:Int)).1).In).length cz22)),ld b1 1 (.map m23),ld b2 0 (vI (((mach_Look_1.f 7 (i3:Int)).2).Code)),ld b2 1 (vI (((mach_Look_1.f 7 (i3:Int)).2).At))] ⟨hS262.c 1,hS262.c 1,hS262.c 0,hS262.c 0,trivial⟩ ⟨(.slice Z22 (((mach_Look_1.f 7 (i3:Int)).1).In).length cz22),m23,rfl,hS265⟩) a hF⟩))
     rw [if_neg hc29] at h
     refine gk 179 (decide (e4.A > (l0.length:Int))) false (decide_eq_false hc29)<|gb [12,13,14,15,16,17,18] [(186,vI (i3:Int)),(185,(.slice Z14 m13.length cz14)),(184,pP b5 2),(183,pP b5 2),(182,pP b5 0),(181,pP b5 0),(180,vI e8)] [ld b5 2 ((.slice Z14 m13.length cz14))] ⟨hS243.c 1,trivial⟩ ?_
     rcases hx15:m13[i3]? with _ | e9
     ·rw [hx15] at h; cases h
     rw [hx15] at h
     simp only [] at h
     refine gi 187 0 37 3 1 m13.length cz14 (.tmp 185) (.tmp 186) Z14 .i64 (i3:Int) i3 ((hS243.rdAt 5 rfl).eqSome (pos_of_get hx15)) rfl (lt_of_get hx15) ?_
     refine gb [20,21,22] [(190,.bool (e8 != e9)),(189,.bool (e8 != e9)),(188,vI e9)] [.loaded ⟨blkOf Z14,offOf Z14+i3*1,none⟩ (vI e9)] ⟨RdL.cell (j:=0) (hS243.rdAt 5 rfl) hx15 rfl,trivial⟩<|gn hK59 ?_
     by_cases hc30:e8=e9
     ·rw [if_pos hc30] at h
      refine wk 190 (e8 != e9) false (bne_eq_false_iff_eq.2 hc30)<|wf<|we_skip fun a hF=>hK41 _ _ ?_ a hF
      refine wr [(0,0),(1,0)]<|ge_addn (d:=196) (ty:=3) (x:=(.tmp 141)) (y:=(.const (vI 1))) (t:=3) (t2:=3) (k:=.i64) (m:=i3) (by kernel_rfl) (by kernel_rfl) (by kernel_rfl) (by have h0:=hR0.small; omega) ?_
      refine gb0 [1] [(141,vI ((i3+1:Nat):Int))] ?_
      have hS272:=hS243.p [1,2,3,4,5,6] rfl
      obtain rfl:=si h
      exact ge_nil fun a hF=>hQ _ _ _ (Outs.again ⟨hS272,hF.weaken ea⟩)
     rw [if_neg hc30] at h
     refine wk 190 (e8 != e9) true (bne_iff_ne.2 hc30)<|wt<|ws fun K62 hK62=>wr [(0,0),(1,0),(2,1),(3,0),(4,0),(5,2),(6,2)]<|gb0 [0,1] [(192,vI (i3:Int)),(191,.func (.func 50) #[] #[])]<|ge_call (d:=some 193) (f:=50) (args:=#[vI 7,vI (i3:Int)]) (by kernel_rfl) (mach_Look_1_ok 7 (i3:Int) _ _ rfl) ?_
     rintro _ w67 ⟨v27,m24,rfl,hS273⟩
     refine ⟨_,rfl,hS273.below,?_⟩
     have hS274:=hS243.call hS273
     refine gb0 [3,4] [(195,.agg #[vI (((mach_Look_1.f 7 (i3:Int)).2).Code),vI (((mach_Look_1.f 7 (i3:Int)).2).At)]),(194,.agg #[v27,.map m24])] ?_
     obtain ⟨Z23,cz23,rfl⟩:=hS274.open 0 rfl
     have hS275:=hS274.b 5
     refine gs b1 0 #[.slice none 0 0,.map none] 64 [(.slice Z23 (((mach_Look_1.f 7 (i3:Int)).1).In).length cz23),.map m24] hS275 fun w68 hS276=>?_
     have hS278:=(hS276.nc #[(.slice Z23 (((mach_Look_1.f 7 (i3:Int)).1).In).length cz23),.map m24] rfl).b 5
     refine gs b2 0 #[vI 0,vI 0] 25 [vI (((mach_Look_1.f 7 (i3:Int)).2).Code),vI (((mach_Look_1.f 7 (i3:Int)).2).At)] hS278 fun w69 hS279=>?_
     have hS280:=hS279.nc #[vI (((mach_Look_1.f 7 (i3:Int)).2).Code),vI (((mach_Look_1.f 7 (i3:Int)).2).At)] rfl
     refine gn hK62 ?_
     have hS283:=hS280.p [2,3] rfl
     obtain rfl:=si h
     exact we_ret fun a hF=>hQ _ _ _ (Outs.out nofun (Exits.on ⟨rfl,(pr [.cell 2 64,.cell 3 25] [.agg #[(.slice Z23 (((mach_Look_1.f 7 (i3:Int)).1).In).length cz23),.map m24],.agg #[vI (((mach_Look_1.f 7 (i3:Int)).2).Code),vI (((mach_Look_1.f 7 (i3:Int)).2).At)]] [ld b1 0 ((.slice Z23 (((mach_Look_1.f 7 (i3:Int)).1).In).length cz23)),ld b1 1 (.map m24),ld b2 0 (vI (((mach_Look_1.f 7 (i3:Int)).2).Code)),ld b2 1 (vI (((mach_Look_1.f 7 (i3:Int)).2).At))] ⟨hS280.c 1,hS280.c 1,hS280.c 0,hS280.c 0,trivial⟩ ⟨(.slice Z23 (((mach_Look_1.f 7 (i3:Int)).1).In).length cz23),m24,rfl,hS283⟩) a hF⟩))
    rw [if_neg hc27] at h
    cases h
   rw [if_neg hc26] at h
   refine wk 158 (decide (e4.A<(l0.length:Int))) false (decide_eq_false hc26)<|wf<|we_skip fun a hF=>hK57 _ _ ?_ a hF
   refine ws fun K63 hK63=>wr [(0,0),(1,0),(2,0),(3,0),(4,0),(5,0),(6,0),(7,0),(8,0),(9,0),(10,0),(11,0),(12,0),(13,0),(14,0),(15,0),(16,0),(17,0),(18,0),(19,0),(20,0),(21,0),(22,0)]<|gb [0,1,2,3,4] [(172,.bool (decide (e4.A≤(i3:Int)))),(171,.bool (decide (e4.A≤(i3:Int)))),(170,vI (i3:Int)),(169,vI e4.A),(168,pP b6 1)] [ld b6 1 (vI e4.A)] ⟨hS161.c 0,trivial⟩ ?_
   by_cases hc31:e4.A≤(i3:Int)
   ·rw [if_pos hc31] at h
    refine gk 172 (decide (e4.A≤(i3:Int))) true (decide_eq_true hc31)<|gb0 [5,6,7,8,9,10,11,12,13,14,15,16,17,18,19,20,21,22] [(190,.bool true),(189,undef),(188,undef),(187,undef),(186,undef),(185,undef),(184,undef),(183,undef),(182,undef),(181,undef),(180,undef),(179,.bool true),(178,.bool true),(177,undef),(176,undef),(175,undef),(174,undef),(173,undef)]<|gn hK63<|wt<|ws fun K64 hK64=>wr [(0,0),(1,0),(2,1),(3,0),(4,0),(5,2),(6,2)]<|gb0 [0,1] [(192,vI (i3:Int)),(191,.func (.func 50) #[] #[])]<|ge_call (d:=some 193) (f:=50) (args:=#[vI 7,vI (i3:Int)]) (by kernel_rfl) (mach_Look_1_ok 7 (i3:Int) _ _ rfl) ?_
    rintro _ w70 ⟨v28,m25,rfl,hS284⟩
    refine ⟨_,rfl,hS284.below,?_⟩
    have hS285:=hS161.call hS284
    refine gb0 [3,4] [(195,.agg #[vI (((mach_Look_1.f 7 (i3:Int)).2).Code),vI (((mach_Look_1.f 7 (i3:Int)).2).At)]),(194,.agg #[v28,.map m25])] ?_
    obtain ⟨Z24,cz24,rfl⟩:=hS285.open 0 rfl
    have hS286:=hS285.b 5
    refine gs b1 0 #[.slice none 0 0,.map none] 64 [(.slice Z24 (((mach_Look_1.f 7 (i3:Int)).1).In).length cz24),.map m25] hS286 fun w71 hS287=>?_
    have hS289:=(hS287.nc #[(.slice Z24 (((mach_Look_1.f 7 (i3:Int)).1).In).length cz24),.map m25] rfl).b 5
    refine gs b2 0 #[vI 0,vI 0] 25 [vI (((mach_Look_1.f 7 (i3:Int)).2).Code),vI (((mach_Look_1.f 7 (i3:Int)).2).At)] hS289 fun w72 hS290=>?_
    have hS291:=hS290.nc #[vI (((mach_Look_1.f 7 (i3:Int)).2).Code),vI (((mach_Look_1.f 7 (i3:Int)).2).At)] rfl
    refine gn hK64 ?_
    have hS294:=hS291.p [2,3] rfl
    obtain rfl:=si h
    exact we_ret fun a hF=>hQ _ _ _ (Outs.out nofun (Exits.on ⟨rfl,(pr [.cell 2 64,.cell 3 25] [.agg #[(.slice Z24 (((mach_Look_1.f 7 (i3:Int)).1).In).length cz24),.map m25],.agg #[vI (((mach_Look_1.f 7 (i3:Int)).2).Code),vI (((mach_Look_1.f 7 (i3:Int)).2).At)]] [ld b1 0 ((.slice Z24 (((mach_Look_1.f 7 (i3:Int)).1).In).length cz24)),ld b1 1 (.map m25),ld b2 0 (vI (((mach_Look_1.f 7 (i3:Int)).2).Code)),ld b2 1 (vI (((mach_Look_1.f 7 (i3:Int)).2).At))] ⟨hS291.c 1,hS291.c 1,hS291.c 0,hS291.c 0,trivial⟩ ⟨(.slice Z24 (((mach_Look_1.f 7 (i3:Int)).1).In).length cz24),m25,rfl,hS294⟩) a hF⟩))
   rw [if_neg hc31] at h
   refine gk 172 (decide (e4.A≤(i3:Int))) false (decide_eq_false hc31)<|gb [5,6,7,8,9,10,11] [(179,.bool (decide (e4.A > (l0.length:Int)))),(178,.bool (decide (e4.A > (l0.length:Int)))),(177,.bool (decide (e4.A > (l0.length:Int)))),(176,vI (l0.length:Int)),(175,.slice A0 l0.length c0),(174,vI e4.A),(173,pP b6 1)] [ld b6 1 (vI e4.A)] ⟨hS161.c 0,trivial⟩ ?_
   by_cases hc32:e4.A > (l0.length:Int)
   ·rw [if_pos hc32] at h
    refine gk 179 (decide (e4.A > (l0.length:Int))) true (decide_eq_true hc32)<|gb0 [12,13,14,15,16,17,18,19,20,21,22] [(190,.bool true),(189,undef),(188,undef),(187,undef),(186,undef),(185,undef),(184,undef),(183,undef),(182,undef),(181,undef),(180,undef)]<|gn hK63<|wt<|ws fun K65 hK65=>wr [(0,0),(1,0),(2,1),(3,0),(4,0),(5,2),(6,2)]<|gb0 [0,1] [(192,vI (i3:Int)),(191,.func (.func 50) #[] #[])]<|ge_call (d:=some 193) (f:=50) (args:=#[vI 7,vI (i3:Int)]) (by kernel_rfl) (mach_Look_1_ok 7 (i3:Int) _ _ rfl) ?_
    rintro _ w73 ⟨v29,m26,rfl,hS295⟩
    refine ⟨_,rfl,hS295.below,?_⟩
    have hS296:=hS161.call hS295
    refine gb0 [3,4] [(195,.agg #[vI (((mach_Look_1.f 7 (i3:Int)).2).Code),vI (((mach_Look_1.f 7 (i3:Int)).2).At)]),(194,.agg #[v29,.map m26])] ?_
    obtain ⟨Z25,cz25,rfl⟩:=hS296.open 0 rfl
    have hS297:=hS296.b 5
    refine gs b1 0 #[.slice none 0 0,.map none] 64 [(.slice Z25 (((mach_Look_1.f 7 (i3:Int)).1).In).length cz25),.map m26] hS297 fun w74 hS298=>?_
    have hS300:=(hS298.nc #[(.slice Z25 (((mach_Look_1.f 7 (i3:Int)).1).In).length cz25),.map m26] rfl).b 5
    refine gs b2 0 #[vI 0,vI 0] 25 [vI (((mach_Look_1.f 7 (i3:Int)).2).Code),vI (((mach_Look_1.f 7 (i3:Int)).2).At)] hS300 fun w75 hS301=>?_
    have hS302:=hS301.nc #[vI (((mach_Look_1.f 7 (i3:Int)).2).Code),vI (((mach_Look_1.f 7 (i3:Int)).2).At)] rfl
    refine gn hK65 ?_
    have hS305:=hS302.p [2,3] rfl
    obtain rfl:=si h
    exact we_ret fun a hF=>hQ _ _ _ (Outs.out nofun (Exits.on ⟨rfl,(pr [.cell 2 64,.cell 3 25] [.agg #[(.slice Z25 (((mach_Look_1.f 7 (i3:Int)).1).In).length cz25),.map m26],.agg #[vI (((mach_Look_1.f 7 (i3:Int)).2).Code),vI (((mach_Look_1.f 7 (i3:Int)).2).At)]] [ld b1 0 ((.slice Z25 (((mach_Look_1.f 7 (i3:Int)).1).In).length cz25)),ld b1 1 (.map m26),ld b2 0 (vI (((mach_Look_1.f 7 (i3:Int)).2).Code)),ld b2 1 (vI (((mach_Look_1.f 7 (i3:Int)).2).At))] ⟨hS302.c 1,hS302.c 1,hS302.c 0,hS302.c 0,trivial⟩ ⟨(.slice Z25 (((mach_Look_1.f 7 (i3:Int)).1).In).length cz25),m26,rfl,hS305⟩) a hF⟩))
   rw [if_neg hc32] at h
   refine gk 179 (decide (e4.A > (l0.length:Int))) false (decide_eq_false hc32)<|gb [12,13,14,15,16,17,18] [(186,vI (i3:Int)),(185,(.slice Z14 m13.length cz14)),(184,pP b5 2),(183,pP b5 2),(182,pP b5 0),(181,pP b5 0),(180,vI (-1))] [ld b5 2 ((.slice Z14 m13.length cz14))] ⟨hS161.c 1,trivial⟩ ?_
   rcases hx16:m13[i3]? with _ | e10
   ·rw [hx16] at h; cases h
   rw [hx16] at h
   simp only [] at h
   refine gi 187 0 37 3 1 m13.length cz14 (.tmp 185) (.tmp 186) Z14 .i64 (i3:Int) i3 ((hS161.rdAt 5 rfl).eqSome (pos_of_get hx16)) rfl (lt_of_get hx16) ?_
   refine gb [20,21,22] [(190,.bool ((-1) != e10)),(189,.bool ((-1) != e10)),(188,vI e10)] [.loaded ⟨blkOf Z14,offOf Z14+i3*1,none⟩ (vI e10)] ⟨RdL.cell (j:=0) (hS161.rdAt 5 rfl) hx16 rfl,trivial⟩<|gn hK63 ?_
   by_cases hc33:(-1)=e10
   ·rw [if_pos hc33] at h
    refine wk 190 ((-1) != e10) false (bne_eq_false_iff_eq.2 hc33)<|wf<|we_skip fun a hF=>hK41 _ _ ?_ a hF
    refine wr [(0,0),(1,0)]<|ge_addn (d:=196) (ty:=3) (x:=(.tmp 141)) (y:=(.const (vI 1))) (t:=3) (t2:=3) (k:=.i64) (m:=i3) (by kernel_rfl) (by kernel_rfl) (by kernel_rfl) (by have h0:=hR0.small; omega) ?_
    refine gb0 [1] [(141,vI ((i3+1:Nat):Int))] ?_
    have hS312:=hS161.p [1,2,3,4,5,6] rfl
    obtain rfl:=si h
    exact ge_nil fun a hF=>hQ _ _ _ (Outs.again ⟨hS312,hF.weaken ea⟩)
   rw [if_neg hc33] at h
   refine wk 190 ((-1) != e10) true (bne_iff_ne.2 hc33)<|wt<|ws fun K66 hK66=>wr [(0,0),(1,0),(2,1),(3,0),(4,0),(5,2),(6,2)]<|gb0 [0,1] [(192,vI (i3:Int)),(191,.func (.func 50) #[] #[])]<|ge_call (d:=some 193) (f:=50) (args:=#[vI 7,vI (i3:Int)]) (by kernel_rfl) (mach_Look_1_ok 7 (i3:Int) _ _ rfl) ?_
   rintro _ w76 ⟨v30,m27,rfl,hS313⟩
   refine ⟨_,rfl,hS313.below,?_⟩
   have hS314:=hS161.call hS313
   refine gb0 [3,4] [(195,.agg #[vI (((mach_Look_1.f 7 (i3:Int)).2).Code),vI (((mach_Look_1.f 7 (i3:Int)).2).At)]),(194,.agg #[v30,.map m27])] ?_
   obtain ⟨Z26,cz26,rfl⟩:=hS314.open 0 rfl
   have hS315:=hS314.b 5
   refine gs b1 0 #[.slice none 0 0,.map none] 64 [(.slice Z26 (((mach_Look_1.f 7 (i3:Int)).1).In).length cz26),.map m27] hS315 fun w77 hS316=>?_
   have hS318:=(hS316.nc #[(.slice Z26 (((mach_Look_1.f 7 (i3:Int)).1).In).length cz26),.map m27] rfl).b 5
   refine gs b2 0 #[vI 0,vI 0] 25 [vI (((mach_Look_1.f 7 (i3:Int)).2).Code),vI (((mach_Look_1.f 7 (i3:Int)).2).At)] hS318 fun w78 hS319=>?_
   have hS320:=hS319.nc #[vI (((mach_Look_1.f 7 (i3:Int)).2).Code),vI (((mach_Look_1.f 7 (i3:Int)).2).At)] rfl
   refine gn hK66 ?_
   have hS323:=hS320.p [2,3] rfl
   obtain rfl:=si h
   exact we_ret fun a hF=>hQ _ _ _ (Outs.out nofun (Exits.on ⟨rfl,(pr [.cell 2 64,.cell 3 25] [.agg #[(.slice Z26 (((mach_Look_1.f 7 (i3:Int)).1).In).length cz26),.map m27],.agg #[vI (((mach_Look_1.f 7 (i3:Int)).2).Code),vI (((mach_Look_1.f 7 (i3:Int)).2).At)]] [ld b1 0 ((.slice Z26 (((mach_Look_1.f 7 (i3:Int)).1).In).length cz26)),ld b1 1 (.map m27),ld b2 0 (vI (((mach_Look_1.f 7 (i3:Int)).2).Code)),ld b2 1 (vI (((mach_Look_1.f 7 (i3:Int)).2).At))] ⟨hS320.c 1,hS320.c 1,hS320.c 0,hS320.c 0,trivial⟩ ⟨(.slice Z26 (((mach_Look_1.f 7 (i3:Int)).1).In).length cz26),m27,rfl,hS323⟩) a hF⟩))
  rw [if_neg hc25] at h
  refine wk 153 (e4.Op != 12) true (bne_iff_ne.2 hc25)<|wt<|we_exit fun a hF=>hK41 _ _ ?_ a hF
  refine wr [(0,0),(1,0)]<|ge_addn (d:=196) (ty:=3) (x:=(.tmp 141)) (y:=(.const (vI 1))) (t:=3) (t2:=3) (k:=.i64) (m:=i3) (by kernel_rfl) (by kernel_rfl) (by kernel_rfl) (by have h0:=hR0.small; omega) ?_
  refine gb0 [1] [(141,vI ((i3+1:Nat):Int))] ?_
  have hS330:=hS161.p [1,2,3,4,5,6] rfl
  obtain rfl:=si h
  exact ge_nil fun a hF=>hQ _ _ _ (Outs.again ⟨hS330,hF.weaken ea⟩)
 rw [if_neg hc15] at h
 refine wk 142 (decide ((i3:Int)<(l0.length:Int))) false (decide_eq_false hc15)<|wf ?_
 have hS336:=(((((hS.b 5).b 5).b 5).b 5).b 5).b 5
 obtain rfl:=si h
 exact we_exit fun a hF=>hQ _ _ _ (Outs.out nofun (Exits.here ⟨hS336,hF.weaken ea⟩))
theorem mach_Look_ok (K:Nat) (l0:List SIns) (A0:OA) (c0:Nat) (w0:World) (hR0:RdL w0 A0 l0) (hL0:l0.length≤c0) (r:SShape×SFault) (h:mach_Look.f K l0=some r) :
  Calls Tryd.prog 30 #[.slice A0 l0.length c0] w0 (mach_Look.Post w0 r):=by
 have hS:=St.start w0
 unfold mach_Look.f at h
 refine calls_enter (n:=209) (args:=[.slice A0 l0.length c0]) (fn:=Tryd.f30) rfl rfl rfl rfl ?_
 show WE _ _ _ _ [(0,.slice A0 l0.length c0)] _
 refine ws fun K1 hK1=>wr [(0,1),(1,1)]<|gw (some 2) (.cells #[.slice none 0 0,.map none] 64) (fun b=>pP b 0) hS fun b1 w1 hx1 hS1=>?_
 refine gw (some 3) (.cells #[vI 0,vI 0] 25) (fun b=>pP b 0) hS1 fun b2 w2 hx2 hS2=>?_
 refine gn hK1<|ws fun K2 hK2=>wr [(0,0)]<|gb0 [0] [(4,.func (.func 50) #[] #[])]<|gn hK2<|ws fun K3 hK3=>ws fun K4 hK4=>wr [(0,0),(1,0),(2,0)]<|gb0 [0,1,2] [(18,.bool (decide ((l0.length:Int) > 2000))),(17,vI (l0.length:Int)),(16,.slice A0 l0.length c0)]<|gn hK4 ?_
 by_cases hc1:(l0.length:Int) > 2000
 ·rw [if_pos hc1] at h
  refine wk 18 (decide ((l0.length:Int) > 2000)) true (decide_eq_true hc1)<|wt<|ws fun K5 hK5=>wr [(0,0),(1,1),(2,0),(3,0),(4,2),(5,2)]<|gb0 [0] [(19,.func (.func 50) #[] #[])]<|ge_call (d:=some 20) (f:=50) (args:=#[vI 2,vI 0]) (by kernel_rfl) (mach_Look_1_ok 2 0 _ _ rfl) ?_
  rintro _ w3 ⟨v1,m1,rfl,hS3⟩
  refine ⟨_,rfl,hS3.below,?_⟩
  have hS4:=hS2.call hS3
  refine gb0 [2,3] [(22,.agg #[vI (((mach_Look_1.f 2 0).2).Code),vI (((mach_Look_1.f 2 0).2).At)]),(21,.agg #[v1,.map m1])] ?_
  obtain ⟨Z1,cz1,rfl⟩:=hS4.open 0 rfl
  have hS5:=hS4.b 3
  refine gs b1 0 #[.slice none 0 0,.map none] 64 [(.slice Z1 (((mach_Look_1.f 2 0).1).In).length cz1),.map m1] hS5 fun w4 hS6=>?_
  have hS8:=(hS6.nc #[(.slice Z1 (((mach_Look_1.f 2 0).1).In).length cz1),.map m1] rfl).b 3
  refine gs b2 0 #[vI 0,vI 0] 25 [vI (((mach_Look_1.f 2 0).2).Code),vI (((mach_Look_1.f 2 0).2).At)] hS8 fun w5 hS9=>?_
  have hS10:=hS9.nc #[vI (((mach_Look_1.f 2 0).2).Code),vI (((mach_Look_1.f 2 0).2).At)] rfl
  refine gn hK5 ?_
  have hS13:=hS10.p [2,3] rfl
  obtain rfl:=si h
  exact we_ret (pr [.cell 2 64,.cell 3 25] [.agg #[(.slice Z1 (((mach_Look_1.f 2 0).1).In).length cz1),.map m1],.agg #[vI (((mach_Look_1.f 2 0).2).Code),vI (((mach_Look_1.f 2 0).2).At)]] [ld b1 0 ((.slice Z1 (((mach_Look_1.f 2 0).1).In).length cz1)),ld b1 1 (.map m1),ld b2 0 (vI (((mach_Look_1.f 2 0).2).Code)),ld b2 1 (vI (((mach_Look_1.f 2 0).2).At))] ⟨hS10.c 1,hS10.c 1,hS10.c 0,hS10.c 0,trivial⟩ ⟨(.slice Z1 (((mach_Look_1.f 2 0).1).In).length cz1),m1,rfl,hS13⟩)
 rw [if_neg hc1] at h
 refine wk 18 (decide ((l0.length:Int) > 2000)) false (decide_eq_false hc1)<|wf<|we_skip fun a hF=>hK3 _ _ ?_ a hF
 refine ws fun K6 hK6=>ws fun K7 hK7=>wr [(0,0),(1,0),(2,0)]<|gb0 [0,1,2] [(25,vI 0),(24,vI (l0.length:Int)),(23,.slice A0 l0.length c0)]<|gn hK7<|we_block ?_
 have hS15:=(hS2.b 1).b 1
 rcases hq10:iter (mach_Look.r0 l0) K 0 with _ | (_ | rr3)
 ·rw [hq10] at h; cases h
 ·rw [hq10] at h
  simp only [] at h
  refine we_iter (A:=mach_Look.A0 w0 l0 A0 c0 b1 b2) (B:=mach_Look.B0 w0 l0 A0 c0 b1 b2) hq10 (fun a hF=>⟨hS15,hF.weaken ea⟩) (fun s o hf a w hA Q hQ=>mach_Look_r0 K w0 l0 A0 c0 hR0 hL0 b1 b2 hc1 s o hf a w hA Q hQ) ?_
  rintro _ a w26 _ ⟨rfl,hS88,hF⟩
  replace hS88:St w0 w26 [bk b2 #[vI 0,vI 0] 25,bk b1 #[.slice none 0 0,.map none] 64]:=hS88
  refine hK6 [(0,.slice A0 l0.length c0),(2,pP b1 0),(3,pP b2 0),(4,.func (.func 50) #[] #[])] w26 ?_ a hF
  refine ws fun K21 hK21=>wr [(0,0),(1,0),(2,0),(3,1),(4,1),(5,0),(6,0),(7,1),(8,0)]<|gb0 [0,1,2] [(79,vI (l0.length:Int)),(78,.slice A0 l0.length c0),(77,.slice A0 l0.length c0)] ?_
  by_cases hc9:l0.length≤17592186044416
  ·rw [if_pos hc9] at h
   refine ge_make (α:=Int) (d:=80) (t:=37) (el:=3) (bytes:=8) (l:=l0.length) (c:=l0.length) (x:=(.tmp 79)) (y:=(.tmp 79)) (ty:=37) (k1:=.i64) (k2:=.i64) (li:=(l0.length:Int)) (ci:=(l0.length:Int)) (z:=vI 0) (z':=(0:Int)) (by kernel_rfl) (by kernel_rfl) (by kernel_rfl) rfl rfl (by kernel_rfl) (by kernel_rfl) rfl hS88 (Nat.le_refl _) rfl (by omega) fun v7 w27 _ hS89=>?_
   refine gw (some 81) (.map #[] 0) (fun b=>.map (some b)) hS89 fun b4 w28 hx5 hS90=>?_
   have hS91:=hS90.newMap (κ:=Int) (ν:=Int)
   obtain ⟨Z7,cz7,rfl⟩:=hS91.open 1 rfl
   refine gb0 [5,6] [(83,.agg #[.slice A0 l0.length c0,.slice none 0 0,(.slice Z7 (List.replicate l0.length (0:Int)).length cz7),.map (some b4)]),(82,.agg #[(.slice Z7 (List.replicate l0.length (0:Int)).length cz7),.map (some b4)])]<|gw (some 84) (.cells #[.slice A0 l0.length c0,.slice none 0 0,(.slice Z7 (List.replicate l0.length (0:Int)).length cz7),.map (some b4)] 109) (fun b=>pP b 0) hS91 fun b5 w29 hx6 hS92=>?_
   refine gb0 [8] [(9,pP b5 0)]<|gn hK21<|ws fun K22 hK22=>ws fun K23 hK23=>wr [(0,0),(1,0),(2,0)]<|gb0 [0,1,2] [(87,vI 0),(86,vI (l0.length:Int)),(85,.slice A0 l0.length c0)]<|gn hK23<|we_block ?_
   have hS99:=((((((hS92.nil (α:=Int) 3).b 2).b 3).b 2).b 5).b 5).b 5
   rcases hq13:iter (mach_Look.r1 K l0) K (0,([]:List Int),(List.replicate l0.length (0:Int)),([]:List (Int×Int))) with _ | (⟨m12,m13,mp3⟩ | rr2)
   ·rw [hq13] at h; cases h
   ·rw [hq13] at h
    simp only [] at h
    refine we_iter (A:=mach_Look.A1 w0 l0 A0 c0 b1 b2 b4 b5) (B:=mach_Look.B1 w0 l0 A0 c0 b1 b2 b4 b5) hq13 (fun a hF=>⟨(.slice none 0 0),(.slice Z7 (List.replicate l0.length (0:Int)).length cz7),hS99,hF.weaken ea⟩) (fun s o hf a w hA Q hQ=>mach_Look_r1 K w0 l0 A0 c0 hR0 hL0 b1 b2 hc1 hc9 b4 Z7 cz7 b5 s o hf a w hA Q hQ) ?_
    rintro _ a w34 _ ⟨rfl,v15,v16,hS130,hF⟩
    replace hS130:St w0 w34 [bk b5 #[.slice A0 l0.length c0,v15,v16,.map (some b4)] 109,bk b2 #[vI 0,vI 0] 25,bk b1 #[.slice none 0 0,.map none] 64,Own.of v15 3 m12,Own.of v16 3 m13,Own.map (κ:=Int) (ν:=Int) b4 mp3]:=hS130
    refine hK22 [(0,.slice A0 l0.length c0),(2,pP b1 0),(3,pP b2 0),(4,.func (.func 50) #[] #[]),(9,pP b5 0)] w34 ?_ a hF
    refine ws fun K31 hK31=>ws fun K32 hK32=>wr [(0,0),(1,0),(2,0),(3,0),(4,0),(5,0)]<|gb [0,1,2,3] [(105,v15),(104,pP b5 1),(103,pP b5 0),(102,pP b5 0)] [ld b5 1 (v15)] ⟨hS130.c 0,trivial⟩ ?_
    obtain ⟨Z11,cz11,rfl⟩:=hS130.open 3 rfl
    refine gb0 [4,5] [(107,.bool (decide ((m12.length:Int) > 0))),(106,vI (m12.length:Int))]<|gn hK32 ?_
    by_cases hc12:(m12.length:Int) > 0
    ·rw [if_pos hc12] at h
     refine wk 107 (decide ((m12.length:Int) > 0)) true (decide_eq_true hc12)<|wt<|ws fun K33 hK33=>ws fun K34 hK34=>wr [(0,0),(1,0),(2,0),(3,0),(4,0),(5,0),(6,0),(7,0),(8,0),(9,0),(10,0)]<|gb [0,1,2,3,4] [(112,(.slice Z11 m12.length cz11)),(111,pP b5 1),(110,pP b5 0),(109,pP b5 0),(108,.slice A0 l0.length c0)] [ld b5 1 ((.slice Z11 m12.length cz11))] ⟨hS130.c 0,trivial⟩ ?_
     rcases hx7:m12[0]? with _ | e2
     ·rw [hx7] at h; cases h
     rw [hx7] at h
     simp only [] at h
     refine gi 113 0 37 3 1 m12.length cz11 (.tmp 112) (.const (vI 0)) Z11 .i64 0 0 ((hS130.rdAt 3 rfl).eqSome (pos_of_get hx7)) rfl (lt_of_get hx7) ?_
     refine gb [6] [(114,vI e2)] [.loaded ⟨blkOf Z11,offOf Z11+0*1,none⟩ (vI e2)] ⟨RdL.cell (j:=0) (hS130.rdAt 3 rfl) hx7 rfl,trivial⟩ ?_
     by_cases hc13:0≤e2
     ·rw [if_pos hc13] at h
      rcases hx8:l0[(e2).toNat]? with _ | e3
      ·rw [hx8] at h; cases h
      rw [hx8] at h
      simp only [] at h
      refine gi 115 0 22 29 3 l0.length c0 (.tmp 108) (.tmp 114) A0 .i64 e2 ((e2).toNat) ((hS130.rd hR0).eqSome (pos_of_get hx8)) (Int.toNat_of_nonneg hc13).symm (lt_of_get hx8) ?_
      refine gb [8,9,10] [(118,.bool (e3.Op==13)),(117,vI e3.Op),(116,.pointer (some ⟨blkOf A0,offOf A0+(e2).toNat*3,none⟩))] [.loaded ⟨blkOf A0,offOf A0+((e2).toNat)*3,none⟩ (vI e3.Op)] ⟨RdL.cell (j:=0) (hS130.rd hR0) hx8 rfl,trivial⟩<|gn hK34 ?_
      by_cases hc14:e3.Op=13
      ·rw [if_pos hc14] at h
       refine wk 118 (e3.Op==13) true (beq_iff_eq.2 hc14)<|wt<|ws fun K35 hK35=>wr [(0,0),(1,0),(2,0),(3,0),(4,0),(5,0),(6,0),(7,1),(8,0),(9,0),(10,2),(11,2)]<|gb [0,1,2,3,4] [(123,(.slice Z11 m12.length cz11)),(122,pP b5 1),(121,pP b5 0),(120,pP b5 0),(119,.func (.func 50) #[] #[])] [ld b5 1 ((.slice Z11 m12.length cz11))] ⟨hS130.c 0,trivial⟩<|gi 124 0 37 3 1 m12.length cz11 (.tmp 123) (.const (vI 0)) Z11 .i64 0 0 ((hS130.rdAt 3 rfl).eqSome (pos_of_get hx7)) rfl (lt_of_get hx7) ?_
       refine gb [6] [(125,vI e2)] [.loaded ⟨blkOf Z11,offOf Z11+0*1,none⟩ (vI e2)] ⟨RdL.cell (j:=0) (hS130.rdAt 3 rfl) hx7 rfl,trivial⟩<|ge_call (d:=some 126) (f:=50) (args:=#[vI 9,vI e2]) (by kernel_rfl) (mach_Look_1_ok 9 e2 _ _ rfl) ?_
       rintro _ w35 ⟨v17,m14,rfl,hS131⟩
       refine ⟨_,rfl,hS131.below,?_⟩
       have hS132:=hS130.call hS131
       refine gb0 [8,9] [(128,.agg #[vI (((mach_Look_1.f 9 e2).2).Code),vI (((mach_Look_1.f 9 e2).2).At)]),(127,.agg #[v17,.map m14])] ?_
       obtain ⟨Z12,cz12,rfl⟩:=hS132.open 0 rfl
       have hS133:=hS132.b 4
       refine gs b1 0 #[.slice none 0 0,.map none] 64 [(.slice Z12 (((mach_Look_1.f 9 e2).1).In).length cz12),.map m14] hS133 fun w36 hS134=>?_
       have hS136:=(hS134.nc #[(.slice Z12 (((mach_Look_1.f 9 e2).1).In).length cz12),.map m14] rfl).b 4
       refine gs b2 0 #[vI 0,vI 0] 25 [vI (((mach_Look_1.f 9 e2).2).Code),vI (((mach_Look_1.f 9 e2).2).At)] hS136 fun w37 hS137=>?_
       have hS138:=hS137.nc #[vI (((mach_Look_1.f 9 e2).2).Code),vI (((mach_Look_1.f 9 e2).2).At)] rfl
       refine gn hK35 ?_
       have hS141:=hS138.p [2,3] rfl
       obtain rfl:=si h
       exact we_ret (pr [.cell 2 64,.cell 3 25] [.agg #[(.slice Z12 (((mach_Look_1.f 9 e2).1).In).length cz12),.map m14],.agg #[vI (((mach_Look_1.f 9 e2).2).Code),vI (((mach_Look_1.f 9 e2).2).At)]] [ld b1 0 ((.slice Z12 (((mach_Look_1.f 9 e2).1).In).length cz12)),ld b1 1 (.map m14),ld b2 0 (vI (((mach_Look_1.f 9 e2).2).Code)),ld b2 1 (vI (((mach_Look_1.f 9 e2).2).At))] ⟨hS138.c 1,hS138.c 1,hS138.c 0,hS138.c 0,trivial⟩ ⟨(.slice Z12 (((mach_Look_1.f 9 e2).1).In).length cz12),m14,rfl,hS141⟩)
      rw [if_neg hc14] at h
      refine wk 118 (e3.Op==13) false (beq_eq_false_iff_ne.2 hc14)<|wf<|we_skip fun a hF=>hK33 _ _ ?_ a hF
      refine ws fun K36 hK36=>wr [(0,0),(1,0),(2,0),(3,0),(4,0),(5,0),(6,0),(7,1),(8,0),(9,0),(10,2),(11,2)]<|gb [0,1,2,3,4] [(133,(.slice Z11 m12.length cz11)),(132,pP b5 1),(131,pP b5 0),(130,pP b5 0),(129,.func (.func 50) #[] #[])] [ld b5 1 ((.slice Z11 m12.length cz11))] ⟨hS130.c 0,trivial⟩<|gi 134 0 37 3 1 m12.length cz11 (.tmp 133) (.const (vI 0)) Z11 .i64 0 0 ((hS130.rdAt 3 rfl).eqSome (pos_of_get hx7)) rfl (lt_of_get hx7) ?_
      refine gb [6] [(135,vI e2)] [.loaded ⟨blkOf Z11,offOf Z11+0*1,none⟩ (vI e2)] ⟨RdL.cell (j:=0) (hS130.rdAt 3 rfl) hx7 rfl,trivial⟩<|ge_call (d:=some 136) (f:=50) (args:=#[vI 10,vI e2]) (by kernel_rfl) (mach_Look_1_ok 10 e2 _ _ rfl) ?_
      rintro _ w38 ⟨v18,m15,rfl,hS142⟩
      refine ⟨_,rfl,hS142.below,?_⟩
      have hS143:=hS130.call hS142
      refine gb0 [8,9] [(138,.agg #[vI (((mach_Look_1.f 10 e2).2).Code),vI (((mach_Look_1.f 10 e2).2).At)]),(137,.agg #[v18,.map m15])] ?_
      obtain ⟨Z13,cz13,rfl⟩:=hS143.open 0 rfl
      have hS144:=hS143.b 4
      refine gs b1 0 #[.slice none 0 0,.map none] 64 [(.slice Z13 (((mach_Look_1.f 10 e2).1).In).length cz13),.map m15] hS144 fun w39 hS145=>?_
      have hS147:=(hS145.nc #[(.slice Z13 (((mach_Look_1.f 10 e2).1).In).length cz13),.map m15] rfl).b 4
      refine gs b2 0 #[vI 0,vI 0] 25 [vI (((mach_Look_1.f 10 e2).2).Code),vI (((mach_Look_1.f 10 e2).2).At)] hS147 fun w40 hS148=>?_
      have hS149:=hS148.nc #[vI (((mach_Look_1.f 10 e2).2).Code),vI (((mach_Look_1.f 10 e2).2).At)] rfl
      refine gn hK36 ?_
      have hS152:=hS149.p [2,3] rfl
      obtain rfl:=si h
      exact we_ret (pr [.cell 2 64,.cell 3 25] [.agg #[(.slice Z13 (((mach_Look_1.f 10 e2).1).In).length cz13),.map m15],.agg #[vI (((mach_Look_1.f 10 e2).2).Code),vI (((mach_Look_1.f 10 e2).2).At)]] [ld b1 0 ((.slice Z13 (((mach_Look_1.f 10 e2).1).In).length cz13)),ld b1 1 (.map m15),ld b2 0 (vI (((mach_Look_1.f 10 e2).2).Code)),ld b2 1 (vI (((mach_Look_1.f 10 e2).2).At))] ⟨hS149.c 1,hS149.c 1,hS149.c 0,hS149.c 0,trivial⟩ ⟨(.slice Z13 (((mach_Look_1.f 10 e2).1).In).length cz13),m15,rfl,hS152⟩)
     rw [if_neg hc13] at h
     cases h
    rw [if_neg hc12] at h
    refine wk 107 (decide ((m12.length:Int) > 0)) false (decide_eq_false hc12)<|wf<|we_skip fun a hF=>hK31 _ _ ?_ a hF
    refine ws fun K37 hK37=>ws fun K38 hK38=>wr [(0,0),(1,0),(2,0)]<|gb0 [0,1,2] [(141,vI 0),(140,vI (l0.length:Int)),(139,.slice A0 l0.length c0)]<|gn hK38<|we_block ?_
    obtain ⟨Z14,cz14,rfl⟩:=hS130.open 4 rfl
    have hS158:=(((((hS130.b 5).b 5).b 5).b 5).b 5).b 5
    rcases hq28:iter (mach_Look.r2 l0 m13) K 0 with _ | (_ | rr1)
    ·rw [hq28] at h; cases h
    ·rw [hq28] at h
     simp only [] at h
     refine we_iter (A:=mach_Look.A2 w0 l0 A0 c0 b1 b2 b4 b5 m12 m13 mp3 Z11 cz11 Z14 cz14) (B:=mach_Look.B2 w0 l0 A0 c0 b1 b2 b4 b5 m12 m13 mp3 Z11 cz11 Z14 cz14) hq28 (fun a hF=>⟨hS158,hF.weaken ea⟩) (fun s o hf a w hA Q hQ=>mach_Look_r2 K w0 l0 A0 c0 hR0 hL0 b1 b2 hc1 hc9 b4 Z7 cz7 b5 m12 m13 mp3 Z11 cz11 hc12 Z14 cz14 s o hf a w hA Q hQ) ?_
     rintro _ a w79 _ ⟨rfl,hS337,hF⟩
     replace hS337:St w0 w79 [bk b5 #[.slice A0 l0.length c0,(.slice Z11 m12.length cz11),(.slice Z14 m13.length cz14),.map (some b4)] 109,bk b2 #[vI 0,vI 0] 25,bk b1 #[.slice none 0 0,.map none] 64,ro Z11 cz11 3 m12,ro Z14 cz14 3 m13,Own.map (κ:=Int) (ν:=Int) b4 mp3]:=hS337
     refine hK37 [(0,.slice A0 l0.length c0),(2,pP b1 0),(3,pP b2 0),(9,pP b5 0)] w79 ?_ a hF
     refine ws fun K67 hK67=>ws fun K68 hK68=>wr [(0,0),(1,1),(2,1),(3,2)] ?_
     rcases hq29:mach_heights.f K l0 with _ | r3
     ·rw [hq29] at h; cases h
     rw [hq29] at h
     simp only [] at h
     refine gb0 [0] [(197,.slice A0 l0.length c0)]<|ge_call (d:=some 198) (f:=54) (args:=#[.slice A0 l0.length c0]) (by kernel_rfl) (mach_heights_ok K l0 A0 c0 _ (hS337.rd hR0) hL0 _ hq29) ?_
     rintro _ w80 ⟨rfl,hS338⟩
     refine ⟨_,rfl,hS338.below,?_⟩
     have hS339:=hS337.call hS338
     refine gw (some 15) (.cells #[vI 0,vI 0] 25) (fun b=>pP b 0) hS339 fun b7 w81 hx17 hS340=>?_
     refine gs b7 0 #[vI 0,vI 0] 25 [vI r3.Code,vI r3.At] hS340 fun w82 hS341=>?_
     have hS342:=hS341.nc #[vI r3.Code,vI r3.At] rfl
     refine gn hK68<|ws fun K69 hK69=>wr [(0,0),(1,0),(2,0)]<|gb [0,1,2] [(201,.bool (r3.Code != 0)),(200,vI r3.Code),(199,pP b7 0)] [ld b7 0 (vI r3.Code)] ⟨hS342.c 0,trivial⟩<|gn hK69 ?_
     by_cases hc34:r3.Code=0
     ·rw [if_pos hc34] at h
      refine wk 201 (r3.Code != 0) false (bne_eq_false_iff_eq.2 hc34)<|wf<|we_skip fun a hF=>hK67 _ _ ?_ a hF
      refine ws fun K70 hK70=>wr [(0,0),(1,0),(2,0),(3,0),(4,0),(5,2),(6,2)]<|gb [0,1,2,3,4] [(208,.agg #[vI 0,vI 0]),(207,.agg #[(.slice Z14 m13.length cz14),.map (some b4)]),(206,pP b5 2),(205,pP b5 0),(204,pP b5 0)] [ld b5 2 ((.slice Z14 m13.length cz14)),ld b5 3 (.map (some b4))] ⟨hS342.c 1,hS342.c 1,trivial⟩ ?_
      have hS343:=hS342.b 3
      refine gs b1 0 #[.slice none 0 0,.map none] 64 [(.slice Z14 m13.length cz14),.map (some b4)] hS343 fun w83 hS344=>?_
      have hS346:=(hS344.nc #[(.slice Z14 m13.length cz14),.map (some b4)] rfl).b 3
      refine gs b2 0 #[vI 0,vI 0] 25 [vI 0,vI 0] hS346 fun w84 hS347=>?_
      have hS348:=hS347.nc #[vI 0,vI 0] rfl
      refine gn hK70 ?_
      have hS351:=hS348.p [5,6] rfl
      obtain rfl:=si h
      exact we_ret (pr [.cell 2 64,.cell 3 25] [.agg #[(.slice Z14 m13.length cz14),.map (some b4)],.agg #[vI 0,vI 0]] [ld b1 0 ((.slice Z14 m13.length cz14)),ld b1 1 (.map (some b4)),ld b2 0 (vI 0),ld b2 1 (vI 0)] ⟨hS348.c 1,hS348.c 1,hS348.c 0,hS348.c 0,trivial⟩ ⟨(.slice Z14 m13.length cz14),(some b4),rfl,hS351⟩)
     rw [if_neg hc34] at h
     refine wk 201 (r3.Code != 0) true (bne_iff_ne.2 hc34)<|wt<|ws fun K71 hK71=>we_orders3 (by kernel_rfl) [(1,[⟨b7,0,none⟩,⟨b7,1,none⟩],[],[])] (.vals [0] (.vals [1] (.alt 2 2 (.alt 3 2 .fin .nomore) .nomore))) (by kernel_rfl) (by kernel_rfl) ?_
     have hS352:=hS342.drew
     refine g30 [0] [(202,.agg #[.slice none 0 0,.map none])]<|g3 1 [(203,.agg #[vI r3.Code,vI r3.At])] [ld b7 0 (vI r3.Code),ld b7 1 (vI r3.At)] ⟨hS352.c 0,hS352.c 0,trivial⟩<|go_alt3 (fun KK hKK=>?_) ?_
     ·have hS353:=hS352.b 3
      refine gs b1 0 #[.slice none 0 0,.map none] 64 [.slice none 0 0,.map none] hS353 fun w85 hS354=>?_
      have hS355:=hS354.nc #[.slice none 0 0,.map none] rfl
      refine ge_nil fun a hF=>hKK _ _ (RS.of2 (l:=[ld b7 0 (vI r3.Code),ld b7 1 (vI r3.At)]) (by kernel_rfl) ⟨hS352.c 0,hS352.c 0,trivial⟩ ⟨hS355.c 1,hS355.c 1,trivial⟩) ?_ a hF
      refine go_alt3 (fun KK hKK=>?_) ?_
      ·have hS356:=hS355.b 3
       refine gs b2 0 #[vI 0,vI 0] 25 [vI r3.Code,vI r3.At] hS356 fun w86 hS357=>?_
       have hS358:=hS357.nc #[vI r3.Code,vI r3.At] rfl
       refine g2 hKK<|go_fin3 fun a hF=>hK71 _ _ ?_ a hF
       have hS359:=hS358.nil (α:=Int) 3
       have hS360:=hS359.nilMap (κ:=Int) (ν:=Int)
       have hS362:=hS360.p [1,0] rfl
       obtain rfl:=si h
       exact we_ret (pr [.cell 2 64,.cell 3 25] [.agg #[(.slice none 0 0),.map none],.agg #[vI r3.Code,vI r3.At]] [ld b1 0 ((.slice none 0 0)),ld b1 1 (.map none),ld b2 0 (vI r3.Code),ld b2 1 (vI r3.At)] ⟨hS360.c 3,hS360.c 3,hS360.c 2,hS360.c 2,trivial⟩ ⟨(.slice none 0 0),none,rfl,hS362⟩)
      exact go_nomore3
     exact go_nomore3
    rw [hq28] at h
    simp only [] at h
    refine we_iter (A:=mach_Look.A2 w0 l0 A0 c0 b1 b2 b4 b5 m12 m13 mp3 Z11 cz11 Z14 cz14) (B:=mach_Look.B2 w0 l0 A0 c0 b1 b2 b4 b5 m12 m13 mp3 Z11 cz11 Z14 cz14) hq28 (fun a hF=>⟨hS158,hF.weaken ea⟩) (fun s o hf a w hA Q hQ=>mach_Look_r2 K w0 l0 A0 c0 hR0 hL0 b1 b2 hc1 hc9 b4 Z7 cz7 b5 m12 m13 mp3 Z11 cz11 hc12 Z14 cz14 s o hf a w hA Q hQ) ?_
    rintro _ a w1 _ ⟨rfl,hb⟩
    obtain rfl:=si h
    exact hb
   rw [hq13] at h
   simp only [] at h
   refine we_iter (A:=mach_Look.A1 w0 l0 A0 c0 b1 b2 b4 b5) (B:=mach_Look.B1 w0 l0 A0 c0 b1 b2 b4 b5) hq13 (fun a hF=>⟨(.slice none 0 0),(.slice Z7 (List.replicate l0.length (0:Int)).length cz7),hS99,hF.weaken ea⟩) (fun s o hf a w hA Q hQ=>mach_Look_r1 K w0 l0 A0 c0 hR0 hL0 b1 b2 hc1 hc9 b4 Z7 cz7 b5 s o hf a w hA Q hQ) ?_
   rintro _ a w1 _ ⟨rfl,hb⟩
   obtain rfl:=si h
   exact hb
  rw [if_neg hc9] at h
  cases h
 rw [hq10] at h
 simp only [] at h
 refine we_iter (A:=mach_Look.A0 w0 l0 A0 c0 b1 b2) (B:=mach_Look.B0 w0 l0 A0 c0 b1 b2) hq10 (fun a hF=>⟨hS15,hF.weaken ea⟩) (fun s o hf a w hA Q hQ=>mach_Look_r0 K w0 l0 A0 c0 hR0 hL0 b1 b2 hc1 s o hf a w hA Q hQ) ?_
 rintro _ a w1 _ ⟨rfl,hb⟩
 obtain rfl:=si h
 exact hb

/-! punctual/mach.Check -/
abbrev mach_Check.Post (w0:World) (r:SFault) (e:Ending) (w:World):Prop:=e=.returned (.agg #[vI r.Code,vI r.At])∧St w0 w []
def mach_Check.f (K : Nat) (l0 : List SIns) : Option SFault :=
 match mach_Look.f K l0 with
 | none=>none
 | some r1 =>
  some r1.2
theorem mach_Check_ok (K:Nat) (l0:List SIns) (A0:OA) (c0:Nat) (w0:World) (hR0:RdL w0 A0 l0) (hL0:l0.length≤c0) (r:SFault) (h:mach_Check.f K l0=some r) :
  Calls Tryd.prog 7 #[.slice A0 l0.length c0] w0 (mach_Check.Post w0 r):=by
 have hS:=St.start w0
 unfold mach_Check.f at h
 refine calls_enter (n:=11) (args:=[.slice A0 l0.length c0]) (fn:=Tryd.f7) rfl rfl rfl rfl ?_
 show WE _ _ _ _ [(0,.slice A0 l0.length c0)] _
 refine ws fun K1 hK1=>wr [(0,1)]<|gw (some 2) (.cells #[vI 0,vI 0] 25) (fun b=>pP b 0) hS fun b1 w1 hx1 hS1=>?_
 refine gn hK1<|ws fun K2 hK2=>wr [(0,0),(1,1),(2,0),(3,0),(4,0),(5,1),(6,1),(7,2),(8,2)] ?_
 rcases hq1:mach_Look.f K l0 with _ | r1
 ·rw [hq1] at h; cases h
 rw [hq1] at h
 simp only [] at h
 refine gb0 [0] [(6,.slice A0 l0.length c0)]<|ge_call (d:=some 7) (f:=30) (args:=#[.slice A0 l0.length c0]) (by kernel_rfl) (mach_Look_ok K l0 A0 c0 _ (hS1.rd hR0) hL0 _ hq1) ?_
 rintro _ w2 ⟨v1,m1,rfl,hS2⟩
 refine ⟨_,rfl,hS2.below,?_⟩
 have hS3:=hS1.call hS2
 refine gb0 [2,3,4] [(9,.agg #[vI r1.2.Code,vI r1.2.At]),(8,.agg #[v1,.map m1]),(5,.tuple #[.agg #[v1,.map m1],.agg #[vI r1.2.Code,vI r1.2.At]])]<|gw (some 3) (.cells #[.slice none 0 0,.map none] 64) (fun b=>pP b 0) hS3 fun b2 w3 hx2 hS4=>?_
 refine gw (some 4) (.cells #[vI 0,vI 0] 25) (fun b=>pP b 0) hS4 fun b3 w4 hx3 hS5=>?_
 obtain ⟨Z1,cz1,rfl⟩:=hS5.open 2 rfl
 have hS6:=hS5.b 1
 refine gs b2 0 #[.slice none 0 0,.map none] 64 [(.slice Z1 r1.1.In.length cz1),.map m1] hS6 fun w5 hS7=>?_
 have hS9:=(hS7.nc #[(.slice Z1 r1.1.In.length cz1),.map m1] rfl).b 1
 refine gs b3 0 #[vI 0,vI 0] 25 [vI r1.2.Code,vI r1.2.At] hS9 fun w6 hS10=>?_
 have hS11:=hS10.nc #[vI r1.2.Code,vI r1.2.At] rfl
 refine gn hK2<|ws fun K3 hK3=>wr [(0,0),(1,2)]<|gb [0] [(10,.agg #[vI r1.2.Code,vI r1.2.At])] [ld b3 0 (vI r1.2.Code),ld b3 1 (vI r1.2.At)] ⟨hS11.c 0,hS11.c 0,trivial⟩ ?_
 have hS12:=hS11.b 4
 refine gs b1 0 #[vI 0,vI 0] 25 [vI r1.2.Code,vI r1.2.At] hS12 fun w7 hS13=>?_
 have hS14:=hS13.nc #[vI r1.2.Code,vI r1.2.At] rfl
 refine gn hK3 ?_
 have hS15:=hS14.takeN 0
 obtain rfl:=si h
 exact we_ret (pr [.cell 2 25] [.agg #[vI r1.2.Code,vI r1.2.At]] [ld b1 0 (vI r1.2.Code),ld b1 1 (vI r1.2.At)] ⟨hS14.c 0,hS14.c 0,trivial⟩ ⟨rfl,hS15⟩)

/-! slices.Clone[[]punctual/api.Ins,punctual/api.Ins] -/
abbrev slices_Clone_api_Ins_api_Ins.Post (w0:World) (r:List SIns) (e:Ending) (w:World):Prop:=∃ (v0:Value),e=.returned (v0)∧St w0 w [Own.of v0 29 r]
def slices_Clone_api_Ins_api_Ins.f (l0 : List SIns) : Option (List SIns) :=
 if 0+l0.length≤5864062014805 then
  some l0
 else
  none
theorem slices_Clone_api_Ins_api_Ins_ok (l0:List SIns) (A0:OA) (c0:Nat) (w0:World) (hR0:RdL w0 A0 l0) (hL0:l0.length≤c0) (r:List SIns) (h:slices_Clone_api_Ins_api_Ins.f l0=some r) :
  Calls Tryd.prog 40 #[.slice A0 l0.length c0] w0 (slices_Clone_api_Ins_api_Ins.Post w0 r):=by
 have hS:=St.start w0
 unfold slices_Clone_api_Ins_api_Ins.f at h
 rcases A0 with _ | ad
 ·obtain rfl:=RdL.nil_of hR0
  rw [if_pos (by decide)] at h
  refine calls_enter (n:=8) (args:=[.slice none ([]:List SIns).length c0]) (fn:=Tryd.f40) rfl rfl rfl rfl ?_
  show WE _ _ _ _ [(0,.slice none ([]:List SIns).length c0)] _
  refine ws fun K1 hK1=>wr [(0,0)]<|gb0 [0] [(2,.slice none 0 0)]<|gn hK1<|ws fun K2 hK2=>ws fun K3 hK3=>wr [(0,0),(1,0)]<|gb0 [0,1] [(4,.bool true),(3,.slice none (([]:List SIns).length) c0)]<|gn hK3<|wt<|ws fun K4 hK4=>wr [(0,0)]<|gb0 [0] [(2,.slice none 0 0)]<|gn hK4 ?_
  have hS1:=hS.nil (α:=SIns) 29
  obtain rfl:=si h
  exact we_ret (pr0 [.tmp 2] [(.slice none 0 0)] ⟨(.slice none 0 0),rfl,hS1⟩)
 refine calls_enter (n:=8) (args:=[.slice (some ad) l0.length c0]) (fn:=Tryd.f40) rfl rfl rfl rfl ?_
 show WE _ _ _ _ [(0,.slice (some ad) l0.length c0)] _
 refine ws fun K5 hK5=>wr [(0,0)]<|gb0 [0] [(2,.slice none 0 0)]<|gn hK5<|ws fun K6 hK6=>ws fun K7 hK7=>wr [(0,0),(1,0)]<|gb0 [0,1] [(4,.bool false),(3,.slice (some ad) l0.length c0)]<|gn hK7<|wf<|we_skip fun a hF=>hK6 _ _ ?_ a hF
 refine ws fun K8 hK8=>wr [(0,1),(1,0),(2,2),(3,0)]<|gw (some 5) (.cells #[] 29) (fun b=>.slice (some ⟨b,0,none⟩) 0 0) hS fun b1 w1 hx1 hS2=>?_
 refine gb0 [1] [(6,.slice (some ad) l0.length c0)] ?_
 have hS3:=hS2.asRow (α:=SIns) (c:=0) ([]:List SIns) (Nat.le_refl _) (by decide) rfl rfl
 by_cases hc1:0+l0.length≤5864062014805
 ·rw [if_pos hc1] at h
  refine ge_appendL (α:=SIns) (m:=0) (d:=7) (t:=22) (el:=29) (bytes:=24) (c1:=c0) (A1:=(some ad)) (x:=(.tmp 5)) (y:=(.tmp 6)) (ty:=22) (v:=(.slice (some ⟨b1,0,none⟩) 0 0)) (z:=.agg #[vI 0,vI 0,vI 0]) (l:=([]:List SIns)) (us:=l0) (by kernel_rfl) (by kernel_rfl) (by kernel_rfl) (by kernel_rfl) (by kernel_rfl) rfl hS3 (hS3.rd hR0) rfl (Nat.mul_le_of_le_div _ _ _ hc1) fun v1 w2 hS4=>?_
  have hS5:St w0 w2 [Own.of v1 29 l0]:=hS4
  refine gb0 [3] [(2,v1)]<|gn hK8 ?_
  obtain rfl:=si h
  exact we_ret (pr0 [.tmp 2] [v1] ⟨v1,rfl,hS5⟩)
 rw [if_neg hc1] at h
 cases h

/-! slices.Clone[[]int,int] -/
abbrev slices_Clone_int_int.Post (w0:World) (r:List Int) (e:Ending) (w:World):Prop:=∃ (v0:Value),e=.returned (v0)∧St w0 w [Own.of v0 3 r]
def slices_Clone_int_int.f (l0 : List Int) : Option (List Int) :=
 if 0+l0.length≤17592186044416 then
  some l0
 else
  none
theorem slices_Clone_int_int_ok (l0:List Int) (A0:OA) (c0:Nat) (w0:World) (hR0:RdL w0 A0 l0) (hL0:l0.length≤c0) (r:List Int) (h:slices_Clone_int_int.f l0=some r) :
  Calls Tryd.prog 41 #[.slice A0 l0.length c0] w0 (slices_Clone_int_int.Post w0 r):=by
 have hS:=St.start w0
 unfold slices_Clone_int_int.f at h
 rcases A0 with _ | ad
 ·obtain rfl:=RdL.nil_of hR0
  rw [if_pos (by decide)] at h
  refine calls_enter (n:=8) (args:=[.slice none ([]:List Int).length c0]) (fn:=Tryd.f41) rfl rfl rfl rfl ?_
  show WE _ _ _ _ [(0,.slice none ([]:List Int).length c0)] _
  refine ws fun K1 hK1=>wr [(0,0)]<|gb0 [0] [(2,.slice none 0 0)]<|gn hK1<|ws fun K2 hK2=>ws fun K3 hK3=>wr [(0,0),(1,0)]<|gb0 [0,1] [(4,.bool true),(3,.slice none (([]:List Int).length) c0)]<|gn hK3<|wt<|ws fun K4 hK4=>wr [(0,0)]<|gb0 [0] [(2,.slice none 0 0)]<|gn hK4 ?_
  have hS1:=hS.nil (α:=Int) 3
  obtain rfl:=si h
  exact we_ret (pr0 [.tmp 2] [(.slice none 0 0)] ⟨(.slice none 0 0),rfl,hS1⟩)
 refine calls_enter (n:=8) (args:=[.slice (some ad) l0.length c0]) (fn:=Tryd.f41) rfl rfl rfl rfl ?_
 show WE _ _ _ _ [(0,.slice (some ad) l0.length c0)] _
 refine ws fun K5 hK5=>wr [(0,0)]<|gb0 [0] [(2,.slice none 0 0)]<|gn hK5<|ws fun K6 hK6=>ws fun K7 hK7=>wr [(0,0),(1,0)]<|gb0 [0,1] [(4,.bool false),(3,.slice (some ad) l0.length c0)]<|gn hK7<|wf<|we_skip fun a hF=>hK6 _ _ ?_ a hF
 refine ws fun K8 hK8=>wr [(0,1),(1,0),(2,2),(3,0)]<|gw (some 5) (.cells #[] 3) (fun b=>.slice (some ⟨b,0,none⟩) 0 0) hS fun b1 w1 hx1 hS2=>?_
 refine gb0 [1] [(6,.slice (some ad) l0.length c0)] ?_
 have hS3:=hS2.asRow (α:=Int) (c:=0) ([]:List Int) (Nat.le_refl _) (by decide) rfl rfl
 by_cases hc1:0+l0.length≤17592186044416
 ·rw [if_pos hc1] at h
  refine ge_appendL (α:=Int) (m:=0) (d:=7) (t:=37) (el:=3) (bytes:=8) (c1:=c0) (A1:=(some ad)) (x:=(.tmp 5)) (y:=(.tmp 6)) (ty:=37) (v:=(.slice (some ⟨b1,0,none⟩) 0 0)) (z:=vI 0) (l:=([]:List Int)) (us:=l0) (by kernel_rfl) (by kernel_rfl) (by kernel_rfl) (by kernel_rfl) (by kernel_rfl) rfl hS3 (hS3.rd hR0) rfl (Nat.mul_le_of_le_div _ _ _ hc1) fun v1 w2 hS4=>?_
  have hS5:St w0 w2 [Own.of v1 3 l0]:=hS4
  refine gb0 [3] [(2,v1)]<|gn hK8 ?_
  obtain rfl:=si h
  exact we_ret (pr0 [.tmp 2] [v1] ⟨v1,rfl,hS5⟩)
 rw [if_neg hc1] at h
 cases h

structure SPut where
 Port:Int
 Value:Int
def SPut.eqb (x y : SPut) : Bool := ((x.Port == y.Port) && ((x.Value == y.Value) && true))
instance : Ok SPut := ⟨fun x => Ok.ok x.Port ∧ Ok.ok x.Value ∧ True⟩
instance : Flat SPut := ⟨2, fun x => [vI x.Port, vI x.Value], fun _ => rfl, fun _ => rfl, by decide⟩

structure PMachine where
 m_image:List SIns
 m_in_:List Int
 m_vars:List Int
 m_puts:List SPut
 m_stack:List Int
 m_count:List Int
 m_at_:Int
 m_left:Int

/-! punctual/mach.New -/
abbrev mach_New.Post (w0:World) (r:(Option PMachine)×SFault) (e:Ending) (w:World):Prop:=match r.1 with
 | none=>e=.returned (.tuple #[.pointer none,.agg #[vI r.2.Code,vI r.2.At]])∧St w0 w []
 | some x=>∃ (pb:Nat) (pv0:Value) (pv1:Value) (pv2:Value) (pv3:Value) (pv4:Value),e=.returned (.tuple #[pP pb 0,.agg #[vI r.2.Code,vI r.2.At]])∧St w0 w [bk pb #[pv0,pv1,pv2,pv3,pv4,vI ((x.m_count[0]?).getD 0),vI ((x.m_count[1]?).getD 0),vI ((x.m_count[2]?).getD 0),vI ((x.m_count[3]?).getD 0),vI ((x.m_count[4]?).getD 0),vI ((x.m_count[5]?).getD 0),vI ((x.m_count[6]?).getD 0),vI ((x.m_count[7]?).getD 0),vI x.m_at_,vI x.m_left] 86,Own.of pv0 29 x.m_image,Own.of pv1 3 x.m_in_,Own.of pv2 3 x.m_vars,Own.of pv3 101 x.m_puts,Own.of pv4 3 x.m_stack]
def mach_New.f (K : Nat) (l0 : List SIns) (l1 : List Int) (l2 : List Int) : Option ((Option PMachine) × SFault) :=
 match mach_Check.f K l0 with
 | none=>none
 | some r1 =>
  if r1.Code=0 then
   if (l1.length:Int)=8 then
    if (l2.length:Int)=4 then
     match slices_Clone_api_Ins_api_Ins.f l0 with
     | none=>none
     | some r2 =>
      match slices_Clone_int_int.f l2 with
      | none=>none
      | some r3 =>
       match slices_Clone_int_int.f l1 with
       | none=>none
       | some r4 =>
        some ((some (⟨r2,r3,r4,([]:List SPut),([]:List Int),([0,0,0,0,0,0,0,0]:List Int),0,0⟩:PMachine)),(⟨0,0⟩:SFault))
    else
     some (none,(⟨3,0⟩:SFault))
   else
    some (none,(⟨3,0⟩:SFault))
  else
   some (none,r1)
theorem mach_New_ok (K:Nat) (l0:List SIns) (A0:OA) (c0:Nat) (l1:List Int) (A1:OA) (c1:Nat) (l2:List Int) (A2:OA) (c2:Nat) (w0:World) (hR0:RdL w0 A0 l0) (hL0:l0.length≤c0) (hR1:RdL w0 A1 l1) (hL1:l1.length≤c1) (hR2:RdL w0 A2 l2) (hL2:l2.length≤c2) (r:(Option PMachine)×SFault) (h:mach_New.f K l0 l1 l2=some r) :
  Calls Tryd.prog 24 #[.slice A0 l0.length c0,.slice A1 l1.length c1,.slice A2 l2.length c2] w0 (mach_New.Post w0 r):=by
 have hS:=St.start w0
 unfold mach_New.f at h
 refine calls_enter (n:=33) (args:=[.slice A0 l0.length c0,.slice A1 l1.length c1,.slice A2 l2.length c2]) (fn:=Tryd.f24) rfl rfl rfl rfl ?_
 show WE _ _ _ _ [(0,.slice A0 l0.length c0),(1,.slice A1 l1.length c1),(2,.slice A2 l2.length c2)] _
 refine ws fun K1 hK1=>wr [(0,0),(1,1)]<|gb0 [0] [(6,.pointer none)]<|gw (some 7) (.cells #[vI 0,vI 0] 25) (fun b=>pP b 0) hS fun b1 w1 hx1 hS1=>?_
 refine gn hK1<|ws fun K2 hK2=>ws fun K3 hK3=>wr [(0,0),(1,1),(2,1),(3,2)] ?_
 rcases hq1:mach_Check.f K l0 with _ | r1
 ·rw [hq1] at h; cases h
 rw [hq1] at h
 simp only [] at h
 refine gb0 [0] [(9,.slice A0 l0.length c0)]<|ge_call (d:=some 10) (f:=7) (args:=#[.slice A0 l0.length c0]) (by kernel_rfl) (mach_Check_ok K l0 A0 c0 _ (hS1.rd hR0) hL0 _ hq1) ?_
 rintro _ w2 ⟨rfl,hS2⟩
 refine ⟨_,rfl,hS2.below,?_⟩
 have hS3:=hS1.call hS2
 refine gw (some 8) (.cells #[vI 0,vI 0] 25) (fun b=>pP b 0) hS3 fun b2 w3 hx2 hS4=>?_
 refine gs b2 0 #[vI 0,vI 0] 25 [vI r1.Code,vI r1.At] hS4 fun w4 hS5=>?_
 have hS6:=hS5.nc #[vI r1.Code,vI r1.At] rfl
 refine gn hK3<|ws fun K4 hK4=>wr [(0,0),(1,0),(2,0)]<|gb [0,1,2] [(13,.bool (r1.Code != 0)),(12,vI r1.Code),(11,pP b2 0)] [ld b2 0 (vI r1.Code)] ⟨hS6.c 0,trivial⟩<|gn hK4 ?_
 by_cases hc1:r1.Code=0
 ·rw [if_pos hc1] at h
  refine wk 13 (r1.Code != 0) false (bne_eq_false_iff_eq.2 hc1)<|wf<|we_skip fun a hF=>hK2 _ _ ?_ a hF
  refine ws fun K5 hK5=>ws fun K6 hK6=>wr [(0,0),(1,0),(2,0),(3,0),(4,0),(5,0),(6,0),(7,0)]<|gb0 [0,1,2,3] [(18,.bool ((l1.length:Int) != 8)),(17,.bool ((l1.length:Int) != 8)),(16,vI (l1.length:Int)),(15,.slice A1 l1.length c1)] ?_
  by_cases hc2:(l1.length:Int)=8
  ·rw [if_pos hc2] at h
   refine gk 18 ((l1.length:Int) != 8) false (bne_eq_false_iff_eq.2 hc2)<|gb0 [4,5,6,7] [(22,.bool ((l2.length:Int) != 4)),(21,.bool ((l2.length:Int) != 4)),(20,vI (l2.length:Int)),(19,.slice A2 l2.length c2)]<|gn hK6 ?_
   by_cases hc3:(l2.length:Int)=4
   ·rw [if_pos hc3] at h
    refine wk 22 ((l2.length:Int) != 4) false (bne_eq_false_iff_eq.2 hc3)<|wf<|we_skip fun a hF=>hK5 _ _ ?_ a hF
    refine ws fun K7 hK7=>wr [(0,0),(1,1),(2,0),(3,1),(4,0),(5,1),(6,0),(7,1),(8,0),(9,0),(10,2)] ?_
    rcases hq2:slices_Clone_api_Ins_api_Ins.f l0 with _ | r2
    ·rw [hq2] at h; cases h
    rw [hq2] at h
    simp only [] at h
    refine gb0 [0] [(24,.slice A0 l0.length c0)]<|ge_call (d:=some 25) (f:=40) (args:=#[.slice A0 l0.length c0]) (by kernel_rfl) (slices_Clone_api_Ins_api_Ins_ok l0 A0 c0 _ (hS6.rd hR0) hL0 _ hq2) ?_
    rintro _ w5 ⟨v1,rfl,hS7⟩
    refine ⟨_,rfl,hS7.below,?_⟩
    have hS8:=hS6.call hS7
    rcases hq3:slices_Clone_int_int.f l2 with _ | r3
    ·rw [hq3] at h; cases h
    rw [hq3] at h
    simp only [] at h
    refine gb0 [2] [(26,.slice A2 l2.length c2)]<|ge_call (d:=some 27) (f:=41) (args:=#[.slice A2 l2.length c2]) (by kernel_rfl) (slices_Clone_int_int_ok l2 A2 c2 _ (hS8.rd hR2) hL2 _ hq3) ?_
    rintro _ w6 ⟨v2,rfl,hS9⟩
    refine ⟨_,rfl,hS9.below,?_⟩
    have hS10:=hS8.call hS9
    rcases hq4:slices_Clone_int_int.f l1 with _ | r4
    ·rw [hq4] at h; cases h
    rw [hq4] at h
    simp only [] at h
    refine gb0 [4] [(28,.slice A1 l1.length c1)]<|ge_call (d:=some 29) (f:=41) (args:=#[.slice A1 l1.length c1]) (by kernel_rfl) (slices_Clone_int_int_ok l1 A1 c1 _ (hS10.rd hR1) hL1 _ hq4) ?_
    rintro _ w7 ⟨v3,rfl,hS11⟩
    refine ⟨_,rfl,hS11.below,?_⟩
    have hS12:=hS10.call hS11
    obtain ⟨Z1,cz1,rfl⟩:=hS12.open 2 rfl
    obtain ⟨Z2,cz2,rfl⟩:=hS12.open 1 rfl
    obtain ⟨Z3,cz3,rfl⟩:=hS12.open 0 rfl
    refine gb0 [6] [(30,.agg #[(.slice Z1 r2.length cz1),(.slice Z2 r3.length cz2),(.slice Z3 r4.length cz3),.slice none 0 0,.slice none 0 0,vI 0,vI 0,vI 0,vI 0,vI 0,vI 0,vI 0,vI 0,vI 0,vI 0])]<|gw (some 31) (.cells #[(.slice Z1 r2.length cz1),(.slice Z2 r3.length cz2),(.slice Z3 r4.length cz3),.slice none 0 0,.slice none 0 0,vI 0,vI 0,vI 0,vI 0,vI 0,vI 0,vI 0,vI 0,vI 0,vI 0] 86) (fun b=>pP b 0) hS12 fun b3 w8 hx3 hS13=>?_
    refine gb0 [8,9] [(6,pP b3 0),(32,.agg #[vI 0,vI 0])] ?_
    have hS14:=hS13.b 5
    refine gs b1 0 #[vI 0,vI 0] 25 [vI 0,vI 0] hS14 fun w9 hS15=>?_
    have hS16:=hS15.nc #[vI 0,vI 0] rfl
    refine gn hK7 ?_
    have hS17:=hS16.nil (α:=SPut) 101
    have hS18:=hS17.nil (α:=Int) 3
    have hS24:=hS18.p [3,6,5,4,1,0] rfl
    obtain rfl:=si h
    exact we_ret (pr [.tmp 6,.cell 7 25] [pP b3 0,.agg #[vI 0,vI 0]] [ld b1 0 (vI 0),ld b1 1 (vI 0)] ⟨hS18.c 2,hS18.c 2,trivial⟩ ⟨b3,(.slice Z1 r2.length cz1),(.slice Z2 r3.length cz2),(.slice Z3 r4.length cz3),(.slice none 0 0),(.slice none 0 0),rfl,hS24⟩)
   rw [if_neg hc3] at h
   refine wk 22 ((l2.length:Int) != 4) true (bne_iff_ne.2 hc3)<|wt<|ws fun K8 hK8=>wr [(0,0),(1,0),(2,2)]<|gb0 [0,1] [(6,.pointer none),(23,.agg #[vI 3,vI 0])] ?_
   have hS25:=hS6.b 1
   refine gs b1 0 #[vI 0,vI 0] 25 [vI 3,vI 0] hS25 fun w10 hS26=>?_
   have hS27:=hS26.nc #[vI 3,vI 0] rfl
   refine gn hK8 ?_
   have hS28:=hS27.takeN 0
   obtain rfl:=si h
   exact we_ret (pr [.tmp 6,.cell 7 25] [.pointer none,.agg #[vI 3,vI 0]] [ld b1 0 (vI 3),ld b1 1 (vI 0)] ⟨hS27.c 0,hS27.c 0,trivial⟩ ⟨rfl,hS28⟩)
  rw [if_neg hc2] at h
  refine gk 18 ((l1.length:Int) != 8) true (bne_iff_ne.2 hc2)<|gb0 [4,5,6,7] [(22,.bool true),(21,undef),(20,undef),(19,undef)]<|gn hK6<|wt<|ws fun K9 hK9=>wr [(0,0),(1,0),(2,2)]<|gb0 [0,1] [(6,.pointer none),(23,.agg #[vI 3,vI 0])] ?_
  have hS29:=hS6.b 1
  refine gs b1 0 #[vI 0,vI 0] 25 [vI 3,vI 0] hS29 fun w11 hS30=>?_
  have hS31:=hS30.nc #[vI 3,vI 0] rfl
  refine gn hK9 ?_
  have hS32:=hS31.takeN 0
  obtain rfl:=si h
  exact we_ret (pr [.tmp 6,.cell 7 25] [.pointer none,.agg #[vI 3,vI 0]] [ld b1 0 (vI 3),ld b1 1 (vI 0)] ⟨hS31.c 0,hS31.c 0,trivial⟩ ⟨rfl,hS32⟩)
 rw [if_neg hc1] at h
 refine wk 13 (r1.Code != 0) true (bne_iff_ne.2 hc1)<|wt<|ws fun K10 hK10=>we_draws (by kernel_rfl) [(0,0),(1,0),(2,2)] (by kernel_rfl) ?_
 have hS33:=hS6.drew
 refine gb [0,1] [(6,.pointer none),(14,.agg #[vI r1.Code,vI r1.At])] [ld b2 0 (vI r1.Code),ld b2 1 (vI r1.At)] ⟨hS33.c 0,hS33.c 0,trivial⟩ ?_
 have hS34:=hS33.b 1
 refine gs b1 0 #[vI 0,vI 0] 25 [vI r1.Code,vI r1.At] hS34 fun w12 hS35=>?_
 have hS36:=hS35.nc #[vI r1.Code,vI r1.At] rfl
 refine gn hK10 ?_
 have hS37:=hS36.takeN 0
 obtain rfl:=si h
 exact we_ret (pr [.tmp 6,.cell 7 25] [.pointer none,.agg #[vI r1.Code,vI r1.At]] [ld b1 0 (vI r1.Code),ld b1 1 (vI r1.At)] ⟨hS36.c 0,hS36.c 0,trivial⟩ ⟨rfl,hS37⟩)

/-! (*punctual/mach.Machine).Done -/
abbrev mach_Machine_Done.Post (w0:World) (bp0:Nat) (lp0_0:List SIns) (Ap0_0:OA) (cp0_0:Nat) (lp0_1:List Int) (Ap0_1:OA) (cp0_1:Nat) (lp0_2:List Int) (Ap0_2:OA) (cp0_2:Nat) (lp0_3:List SPut) (Ap0_3:OA) (cp0_3:Nat) (lp0_4:List Int) (Ap0_4:OA) (cp0_4:Nat) (sp0_5:List Int) (sp0_13 sp0_14:Int) (LT:List Own) (r:Bool) (e:Ending) (w:World):Prop:=e=.returned (.bool r)∧St w0 w [bk bp0 #[(.slice Ap0_0 lp0_0.length cp0_0),(.slice Ap0_1 lp0_1.length cp0_1),(.slice Ap0_2 lp0_2.length cp0_2),(.slice Ap0_3 lp0_3.length cp0_3),(.slice Ap0_4 lp0_4.length cp0_4),vI ((sp0_5[0]?).getD 0),vI ((sp0_5[1]?).getD 0),vI ((sp0_5[2]?).getD 0),vI ((sp0_5[3]?).getD 0),vI ((sp0_5[4]?).getD 0),vI ((sp0_5[5]?).getD 0),vI ((sp0_5[6]?).getD 0),vI ((sp0_5[7]?).getD 0),vI sp0_13,vI sp0_14] 86,ro Ap0_0 cp0_0 29 lp0_0,ro Ap0_1 cp0_1 3 lp0_1,ro Ap0_2 cp0_2 3 lp0_2,ro Ap0_3 cp0_3 101 lp0_3,ro Ap0_4 cp0_4 3 lp0_4,Own.all LT]
def mach_Machine_Done.f (lp0_0 : List SIns) (lp0_1 : List Int) (lp0_2 : List Int) (lp0_3 : List SPut) (lp0_4 : List Int) (sp0_5 : List Int) (sp0_13 : Int) (sp0_14 : Int) : Bool :=
 (sp0_13==(lp0_0.length:Int))
theorem mach_Machine_Done_ok (bp0:Nat) (lp0_0:List SIns) (Ap0_0:OA) (cp0_0:Nat) (lp0_1:List Int) (Ap0_1:OA) (cp0_1:Nat) (lp0_2:List Int) (Ap0_2:OA) (cp0_2:Nat) (lp0_3:List SPut) (Ap0_3:OA) (cp0_3:Nat) (lp0_4:List Int) (Ap0_4:OA) (cp0_4:Nat) (sp0_5:List Int) (sp0_13 sp0_14:Int) (w0 wE:World) (LT:List Own) (hS:St w0 wE [bk bp0 #[(.slice Ap0_0 lp0_0.length cp0_0),(.slice Ap0_1 lp0_1.length cp0_1),(.slice Ap0_2 lp0_2.length cp0_2),(.slice Ap0_3 lp0_3.length cp0_3),(.slice Ap0_4 lp0_4.length cp0_4),vI ((sp0_5[0]?).getD 0),vI ((sp0_5[1]?).getD 0),vI ((sp0_5[2]?).getD 0),vI ((sp0_5[3]?).getD 0),vI ((sp0_5[4]?).getD 0),vI ((sp0_5[5]?).getD 0),vI ((sp0_5[6]?).getD 0),vI ((sp0_5[7]?).getD 0),vI sp0_13,vI sp0_14] 86,ro Ap0_0 cp0_0 29 lp0_0,ro Ap0_1 cp0_1 3 lp0_1,ro Ap0_2 cp0_2 3 lp0_2,ro Ap0_3 cp0_3 101 lp0_3,ro Ap0_4 cp0_4 3 lp0_4,Own.all LT]) (r:Bool) (h:mach_Machine_Done.f lp0_0 lp0_1 lp0_2 lp0_3 lp0_4 sp0_5 sp0_13 sp0_14=r) :
  Calls Tryd.prog 27 #[pP bp0 0] wE (mach_Machine_Done.Post w0 bp0 lp0_0 Ap0_0 cp0_0 lp0_1 Ap0_1 cp0_1 lp0_2 Ap0_2 cp0_2 lp0_3 Ap0_3 cp0_3 lp0_4 Ap0_4 cp0_4 sp0_5 sp0_13 sp0_14 LT r):=by
 unfold mach_Machine_Done.f at h
 refine calls_enter (n:=13) (args:=[pP bp0 0]) (fn:=Tryd.f27) rfl rfl rfl rfl ?_
 show WE _ _ _ _ [(0,pP bp0 0)] _
 refine ws fun K1 hK1=>wr [(0,0)]<|gb0 [0] [(2,.bool false)]<|gn hK1<|ws fun K2 hK2=>we_draws (by kernel_rfl) [(0,0),(1,0),(2,0),(3,0),(4,0),(5,0),(6,0),(7,0),(8,0),(9,0),(10,0)] (by kernel_rfl) ?_
 have hS1:=hS.drew
 refine gb [0,1,2,3,4,5,6,7,8,9,10] [(2,.bool (sp0_13==(lp0_0.length:Int))),(12,.bool (sp0_13==(lp0_0.length:Int))),(11,vI (lp0_0.length:Int)),(10,(.slice Ap0_0 lp0_0.length cp0_0)),(9,pP bp0 0),(8,pP bp0 0),(7,pP bp0 0),(6,vI sp0_13),(5,pP bp0 13),(4,pP bp0 0),(3,pP bp0 0)] [ld bp0 13 (vI sp0_13),ld bp0 0 ((.slice Ap0_0 lp0_0.length cp0_0))] ⟨hS1.c 0,hS1.c 0,trivial⟩<|gn hK2 ?_
 have hS8:=((((((hS1.b 6).b 6).b 6).b 6).b 6).b 6).b 6
 subst h
 exact we_ret (pr0 [.tmp 2] [.bool (sp0_13==(lp0_0.length:Int))] ⟨rfl,hS8⟩)

/-! (*punctual/mach.Machine).over -/
abbrev mach_Machine_over.Post (w0:World) (bp0:Nat) (lp0_0:List SIns) (Ap0_0:OA) (cp0_0:Nat) (lp0_1:List Int) (Ap0_1:OA) (cp0_1:Nat) (lp0_2:List Int) (Ap0_2:OA) (cp0_2:Nat) (lp0_3:List SPut) (Ap0_3:OA) (cp0_3:Nat) (lp0_4:List Int) (Ap0_4:OA) (cp0_4:Nat) (sp0_5:List Int) (sp0_13 sp0_14:Int) (x1:SIns) (LT:List Own) (r:Bool) (e:Ending) (w:World):Prop:=e=.returned (.bool r)∧St w0 w [bk bp0 #[(.slice Ap0_0 lp0_0.length cp0_0),(.slice Ap0_1 lp0_1.length cp0_1),(.slice Ap0_2 lp0_2.length cp0_2),(.slice Ap0_3 lp0_3.length cp0_3),(.slice Ap0_4 lp0_4.length cp0_4),vI ((sp0_5[0]?).getD 0),vI ((sp0_5[1]?).getD 0),vI ((sp0_5[2]?).getD 0),vI ((sp0_5[3]?).getD 0),vI ((sp0_5[4]?).getD 0),vI ((sp0_5[5]?).getD 0),vI ((sp0_5[6]?).getD 0),vI ((sp0_5[7]?).getD 0),vI sp0_13,vI sp0_14] 86,ro Ap0_0 cp0_0 29 lp0_0,ro Ap0_1 cp0_1 3 lp0_1,ro Ap0_2 cp0_2 3 lp0_2,ro Ap0_3 cp0_3 101 lp0_3,ro Ap0_4 cp0_4 3 lp0_4,Own.all LT]
def mach_Machine_over.f (lp0_0 : List SIns) (lp0_1 : List Int) (lp0_2 : List Int) (lp0_3 : List SPut) (lp0_4 : List Int) (sp0_5 : List Int) (sp0_13 : Int) (sp0_14 : Int) (x1 : SIns) : Option Bool :=
 if x1.Op=12 then
  if 0≤(IntKind.i64.wrap ((lp0_4.length:Int)-1)) then
   match lp0_4[(IntKind.i64.wrap ((lp0_4.length:Int)-1)).toNat]? with
   | none=>none
   | some e1 =>
    some (e1==0)
  else
   none
 else
  if x1.Op=14 then
   if 0≤x1.A then
    match (arrN 8 sp0_5)[(x1.A).toNat]? with
    | none=>none
    | some e2 =>
     some (decide (e2 > 0))
   else
    none
  else
   some false
theorem mach_Machine_over_ok (bp0:Nat) (lp0_0:List SIns) (Ap0_0:OA) (cp0_0:Nat) (lp0_1:List Int) (Ap0_1:OA) (cp0_1:Nat) (lp0_2:List Int) (Ap0_2:OA) (cp0_2:Nat) (lp0_3:List SPut) (Ap0_3:OA) (cp0_3:Nat) (lp0_4:List Int) (Ap0_4:OA) (cp0_4:Nat) (sp0_5:List Int) (sp0_13 sp0_14:Int) (x1:SIns) (w0 wE:World) (LT:List Own) (hS:St w0 wE [bk bp0 #[(.slice Ap0_0 lp0_0.length cp0_0),(.slice Ap0_1 lp0_1.length cp0_1),(.slice Ap0_2 lp0_2.length cp0_2),(.slice Ap0_3 lp0_3.length cp0_3),(.slice Ap0_4 lp0_4.length cp0_4),vI ((sp0_5[0]?).getD 0),vI ((sp0_5[1]?).getD 0),vI ((sp0_5[2]?).getD 0),vI ((sp0_5[3]?).getD 0),vI ((sp0_5[4]?).getD 0),vI ((sp0_5[5]?).getD 0),vI ((sp0_5[6]?).getD 0),vI ((sp0_5[7]?).getD 0),vI sp0_13,vI sp0_14] 86,ro Ap0_0 cp0_0 29 lp0_0,ro Ap0_1 cp0_1 3 lp0_1,ro Ap0_2 cp0_2 3 lp0_2,ro Ap0_3 cp0_3 101 lp0_3,ro Ap0_4 cp0_4 3 lp0_4,Own.all LT]) (r:Bool) (h:mach_Machine_over.f lp0_0 lp0_1 lp0_2 lp0_3 lp0_4 sp0_5 sp0_13 sp0_14 x1=some r) :
  Calls Tryd.prog 43 #[pP bp0 0,.agg #[vI x1.Op,vI x1.A,vI x1.B]] wE (mach_Machine_over.Post w0 bp0 lp0_0 Ap0_0 cp0_0 lp0_1 Ap0_1 cp0_1 lp0_2 Ap0_2 cp0_2 lp0_3 Ap0_3 cp0_3 lp0_4 Ap0_4 cp0_4 sp0_5 sp0_13 sp0_14 x1 LT r):=by
 unfold mach_Machine_over.f at h
 refine calls_enter (n:=32) (args:=[pP bp0 0,.agg #[vI x1.Op,vI x1.A,vI x1.B]]) (fn:=Tryd.f43) rfl rfl rfl rfl ?_
 show WE _ _ _ _ [(0,pP bp0 0),(1,.agg #[vI x1.Op,vI x1.A,vI x1.B])] _
 refine ws fun K1 hK1=>wr [(0,1),(1,0)]<|gw (some 3) (.cells #[vI x1.Op,vI x1.A,vI x1.B] 29) (fun b=>pP b 0) hS fun b1 w1 hx1 hS1=>?_
 refine gb0 [1] [(4,.bool false)]<|gn hK1<|ws fun K2 hK2=>ws fun K3 hK3=>wr [(0,0),(1,0)]<|gb [0,1] [(6,vI x1.Op),(5,pP b1 0)] [ld b1 0 (vI x1.Op)] ⟨hS1.c 0,trivial⟩<|gn hK3<|we_block<|ws fun K4 hK4=>wr [(0,0),(1,0)]<|gb0 [0,1] [(7,.bool (x1.Op==12)),(8,.bool (x1.Op==12))]<|gn hK4 ?_
 by_cases hc1:x1.Op=12
 ·rw [if_pos hc1] at h
  refine wk 7 (x1.Op==12) true (beq_iff_eq.2 hc1)<|wt<|ws fun K5 hK5=>we_draws (by kernel_rfl) [(0,0),(1,0),(2,0),(3,0),(4,0),(5,0),(6,0),(7,0),(8,0),(9,0),(10,0),(11,0),(12,0),(13,0)] (by kernel_rfl) ?_
  have hS2:=hS1.drew
  refine gb [0,1,2,3,4,5,6,7,8,9] [(18,vI (IntKind.i64.wrap ((lp0_4.length:Int)-1))),(17,vI (lp0_4.length:Int)),(16,(.slice Ap0_4 lp0_4.length cp0_4)),(15,pP bp0 4),(14,pP bp0 0),(13,pP bp0 0),(12,(.slice Ap0_4 lp0_4.length cp0_4)),(11,pP bp0 4),(10,pP bp0 0),(9,pP bp0 0)] [ld bp0 4 ((.slice Ap0_4 lp0_4.length cp0_4)),ld bp0 4 ((.slice Ap0_4 lp0_4.length cp0_4))] ⟨hS2.c 1,hS2.c 1,trivial⟩ ?_
  by_cases hc2:0≤(IntKind.i64.wrap ((lp0_4.length:Int)-1))
  ·rw [if_pos hc2] at h
   rcases hx2:lp0_4[(IntKind.i64.wrap ((lp0_4.length:Int)-1)).toNat]? with _ | e1
   ·rw [hx2] at h; cases h
   rw [hx2] at h
   simp only [] at h
   refine gi 19 0 37 3 1 lp0_4.length cp0_4 (.tmp 12) (.tmp 18) Ap0_4 .i64 (IntKind.i64.wrap ((lp0_4.length:Int)-1)) ((IntKind.i64.wrap ((lp0_4.length:Int)-1)).toNat) ((hS2.rdAt 6 rfl).eqSome (pos_of_get hx2)) (Int.toNat_of_nonneg hc2).symm (lt_of_get hx2) ?_
   refine gb [11,12,13] [(4,.bool (e1==0)),(21,.bool (e1==0)),(20,vI e1)] [.loaded ⟨blkOf Ap0_4,offOf Ap0_4+((IntKind.i64.wrap ((lp0_4.length:Int)-1)).toNat)*1,none⟩ (vI e1)] ⟨RdL.cell (j:=0) (hS2.rdAt 6 rfl) hx2 rfl,trivial⟩<|gn hK5 ?_
   have hS10:=hS2.p [1,2,3,4,5,6,7] rfl
   obtain rfl:=si h
   exact we_ret (pr0 [.tmp 4] [.bool (e1==0)] ⟨rfl,hS10⟩)
  rw [if_neg hc2] at h
  cases h
 rw [if_neg hc1] at h
 refine wk 7 (x1.Op==12) false (beq_eq_false_iff_ne.2 hc1)<|wf<|ws fun K6 hK6=>wr [(0,0),(1,0)]<|gb0 [0,1] [(22,.bool (x1.Op==14)),(23,.bool (x1.Op==14))]<|gn hK6 ?_
 by_cases hc3:x1.Op=14
 ·rw [if_pos hc3] at h
  refine wk 22 (x1.Op==14) true (beq_iff_eq.2 hc3)<|wt<|ws fun K7 hK7=>we_draws (by kernel_rfl) [(0,0),(1,0),(2,0),(3,0),(4,0),(5,0),(6,0),(7,0),(8,0)] (by kernel_rfl) ?_
  have hS11:=hS1.drew
  refine gb [0,1,2,3,4] [(28,pP bp0 5),(27,pP bp0 0),(26,vI x1.A),(25,pP b1 1),(24,pP bp0 0)] [ld b1 1 (vI x1.A)] ⟨hS11.c 0,trivial⟩ ?_
  by_cases hc4:0≤x1.A
  ·rw [if_pos hc4] at h
   rcases hx3:(arrN 8 sp0_5)[(x1.A).toNat]? with _ | e2
   ·rw [hx3] at h; cases h
   rw [hx3] at h
   simp only [] at h
   refine ge_arrAddr (d:=29) (ty:=0) (t:=84) (len:=8) (el:=3) (b:=bp0) (o0:=5) (sz:=1) (x:=(.tmp 28)) (y:=(.tmp 26)) (k':=.i64) (j:=x1.A) (jn:=((x1.A).toNat)) (by kernel_rfl) (by kernel_rfl) (by kernel_rfl) (by kernel_rfl) (by kernel_rfl) (Int.toNat_of_nonneg hc4).symm (lt_of_get hx3) ?_
   refine gb [6,7,8] [(4,.bool (decide (e2 > 0))),(31,.bool (decide (e2 > 0))),(30,vI e2)] [.loaded ⟨bp0,5+((x1.A).toNat)*1,none⟩ (vI e2)] ⟨hS11.cellA 1 (pre:=[(.slice Ap0_0 lp0_0.length cp0_0),(.slice Ap0_1 lp0_1.length cp0_1),(.slice Ap0_2 lp0_2.length cp0_2),(.slice Ap0_3 lp0_3.length cp0_3),(.slice Ap0_4 lp0_4.length cp0_4)]) (post:=[vI sp0_13,vI sp0_14]) (l:=(arrN 8 sp0_5)) rfl rfl rfl hx3 rfl rfl,trivial⟩<|gn hK7 ?_
   have hS19:=hS11.p [1,2,3,4,5,6,7] rfl
   obtain rfl:=si h
   exact we_ret (pr0 [.tmp 4] [.bool (decide (e2 > 0))] ⟨rfl,hS19⟩)
  rw [if_neg hc4] at h
  cases h
 rw [if_neg hc3] at h
 refine wk 22 (x1.Op==14) false (beq_eq_false_iff_ne.2 hc3)<|wf<|we_skip fun a hF=>hK2 _ _ ?_ a hF
 refine ws fun K8 hK8=>wr [(0,0)]<|gb0 [0] [(4,.bool false)]<|gn hK8 ?_
 have hS27:=hS1.p [1,2,3,4,5,6,7] rfl
 obtain rfl:=si h
 exact we_ret (pr0 [.tmp 4] [.bool false] ⟨rfl,hS27⟩)

/-! punctual/mach.Cost -/
abbrev mach_Cost.Post (w0:World) (r:Int) (e:Ending) (w:World):Prop:=e=.returned (vI r)∧St w0 w []
def mach_Cost.f (x0 : SIns) (x1 : Bool) : Int :=
 if x0.Op=6 then
  3
 else
  if x0.Op=9 then
   2
  else
   if x0.Op=10 then
    2
   else
    if x0.Op=11 then
     2
    else
     if x0.Op=12 then
      if x1=true then
       2
      else
       1
     else
      if x0.Op=14 then
       if x1=true then
        2
       else
        1
      else
       if x0.Op=18 then
        x0.A
       else
        1
theorem mach_Cost_ok (x0:SIns) (x1:Bool) (w0:World) (r:Int) (h:mach_Cost.f x0 x1=r) :
  Calls Tryd.prog 42 #[.agg #[vI x0.Op,vI x0.A,vI x0.B],.bool x1] w0 (mach_Cost.Post w0 r):=by
 have hS:=St.start w0
 unfold mach_Cost.f at h
 refine calls_enter (n:=21) (args:=[.agg #[vI x0.Op,vI x0.A,vI x0.B],.bool x1]) (fn:=Tryd.f42) rfl rfl rfl rfl ?_
 show WE _ _ _ _ [(0,.agg #[vI x0.Op,vI x0.A,vI x0.B]),(1,.bool x1)] _
 refine ws fun K1 hK1=>wr [(0,1),(1,0)]<|gw (some 2) (.cells #[vI x0.Op,vI x0.A,vI x0.B] 29) (fun b=>pP b 0) hS fun b1 w1 hx1 hS1=>?_
 refine gb0 [1] [(4,vI 0)]<|gn hK1<|ws fun K2 hK2=>ws fun K3 hK3=>wr [(0,0),(1,0)]<|gb [0,1] [(6,vI x0.Op),(5,pP b1 0)] [ld b1 0 (vI x0.Op)] ⟨hS1.c 0,trivial⟩<|gn hK3<|we_block<|ws fun K4 hK4=>wr [(0,0),(1,0)]<|gb0 [0,1] [(7,.bool (x0.Op==6)),(8,.bool (x0.Op==6))]<|gn hK4 ?_
 by_cases hc1:x0.Op=6
 ·rw [if_pos hc1] at h
  refine wk 7 (x0.Op==6) true (beq_iff_eq.2 hc1)<|wt<|ws fun K5 hK5=>wr [(0,0)]<|gb0 [0] [(4,vI 3)]<|gn hK5 ?_
  have hS2:=hS1.takeN 0
  subst h
  exact we_ret (pr0 [.tmp 4] [vI 3] ⟨rfl,hS2⟩)
 rw [if_neg hc1] at h
 refine wk 7 (x0.Op==6) false (beq_eq_false_iff_ne.2 hc1)<|wf<|ws fun K6 hK6=>ws fun K7 hK7=>wr [(0,0),(1,0)]<|gb0 [0,1] [(9,.bool (x0.Op==9)),(10,.bool (x0.Op==9))]<|gn hK7 ?_
 by_cases hc2:x0.Op=9
 ·rw [if_pos hc2] at h
  refine wk 9 (x0.Op==9) true (beq_iff_eq.2 hc2)<|wt<|we_skip fun a hF=>hK6 _ _ ?_ a hF
  refine wt<|ws fun K8 hK8=>wr [(0,0)]<|gb0 [0] [(4,vI 2)]<|gn hK8 ?_
  have hS3:=hS1.takeN 0
  subst h
  exact we_ret (pr0 [.tmp 4] [vI 2] ⟨rfl,hS3⟩)
 rw [if_neg hc2] at h
 refine wk 9 (x0.Op==9) false (beq_eq_false_iff_ne.2 hc2)<|wf<|ws fun K9 hK9=>wr [(0,0),(1,0)]<|gb0 [0,1] [(9,.bool (x0.Op==10)),(11,.bool (x0.Op==10))]<|gn hK9 ?_
 by_cases hc3:x0.Op=10
 ·rw [if_pos hc3] at h
  refine wk 9 (x0.Op==10) true (beq_iff_eq.2 hc3)<|wt<|we_skip fun a hF=>hK6 _ _ ?_ a hF
  refine wt<|ws fun K10 hK10=>wr [(0,0)]<|gb0 [0] [(4,vI 2)]<|gn hK10 ?_
  have hS4:=hS1.takeN 0
  subst h
  exact we_ret (pr0 [.tmp 4] [vI 2] ⟨rfl,hS4⟩)
 rw [if_neg hc3] at h
 refine wk 9 (x0.Op==10) false (beq_eq_false_iff_ne.2 hc3)<|wf<|wr [(0,0),(1,0)]<|gb0 [0,1] [(9,.bool (x0.Op==11)),(12,.bool (x0.Op==11))]<|gn hK6 ?_
 by_cases hc4:x0.Op=11
 ·rw [if_pos hc4] at h
  refine wk 9 (x0.Op==11) true (beq_iff_eq.2 hc4)<|wt<|ws fun K11 hK11=>wr [(0,0)]<|gb0 [0] [(4,vI 2)]<|gn hK11 ?_
  have hS5:=hS1.takeN 0
  subst h
  exact we_ret (pr0 [.tmp 4] [vI 2] ⟨rfl,hS5⟩)
 rw [if_neg hc4] at h
 refine wk 9 (x0.Op==11) false (beq_eq_false_iff_ne.2 hc4)<|wf<|ws fun K12 hK12=>ws fun K13 hK13=>wr [(0,0),(1,0)]<|gb0 [0,1] [(13,.bool (x0.Op==12)),(14,.bool (x0.Op==12))]<|gn hK13 ?_
 by_cases hc5:x0.Op=12
 ·rw [if_pos hc5] at h
  refine wk 13 (x0.Op==12) true (beq_iff_eq.2 hc5)<|wt<|we_skip fun a hF=>hK12 _ _ ?_ a hF
  refine wt<|ws fun K14 hK14=>wr [(0,0)]<|gb0 [0] [(16,.bool x1)]<|gn hK14 ?_
  by_cases hc6:x1=true
  ·rw [if_pos hc6] at h
   refine wk 16 x1 true hc6<|wt<|ws fun K15 hK15=>wr [(0,0)]<|gb0 [0] [(4,vI 2)]<|gn hK15 ?_
   have hS6:=hS1.takeN 0
   subst h
   exact we_ret (pr0 [.tmp 4] [vI 2] ⟨rfl,hS6⟩)
  rw [if_neg hc6] at h
  refine wk 16 x1 false (Bool.eq_false_iff.2 hc6)<|wf<|we_skip fun a hF=>hK2 _ _ ?_ a hF
  refine ws fun K16 hK16=>wr [(0,0)]<|gb0 [0] [(4,vI 1)]<|gn hK16 ?_
  have hS7:=hS1.takeN 0
  subst h
  exact we_ret (pr0 [.tmp 4] [vI 1] ⟨rfl,hS7⟩)
 rw [if_neg hc5] at h
 refine wk 13 (x0.Op==12) false (beq_eq_false_iff_ne.2 hc5)<|wf<|wr [(0,0),(1,0)]<|gb0 [0,1] [(13,.bool (x0.Op==14)),(15,.bool (x0.Op==14))]<|gn hK12 ?_
 by_cases hc7:x0.Op=14
 ·rw [if_pos hc7] at h
  refine wk 13 (x0.Op==14) true (beq_iff_eq.2 hc7)<|wt<|ws fun K17 hK17=>wr [(0,0)]<|gb0 [0] [(16,.bool x1)]<|gn hK17 ?_
  by_cases hc8:x1=true
  ·rw [if_pos hc8] at h
   refine wk 16 x1 true hc8<|wt<|ws fun K18 hK18=>wr [(0,0)]<|gb0 [0] [(4,vI 2)]<|gn hK18 ?_
   have hS8:=hS1.takeN 0
   subst h
   exact we_ret (pr0 [.tmp 4] [vI 2] ⟨rfl,hS8⟩)
  rw [if_neg hc8] at h
  refine wk 16 x1 false (Bool.eq_false_iff.2 hc8)<|wf<|we_skip fun a hF=>hK2 _ _ ?_ a hF
  refine ws fun K19 hK19=>wr [(0,0)]<|gb0 [0] [(4,vI 1)]<|gn hK19 ?_
  have hS9:=hS1.takeN 0
  subst h
  exact we_ret (pr0 [.tmp 4] [vI 1] ⟨rfl,hS9⟩)
 rw [if_neg hc7] at h
 refine wk 13 (x0.Op==14) false (beq_eq_false_iff_ne.2 hc7)<|wf<|ws fun K20 hK20=>wr [(0,0),(1,0)]<|gb0 [0,1] [(17,.bool (x0.Op==18)),(18,.bool (x0.Op==18))]<|gn hK20 ?_
 by_cases hc9:x0.Op=18
 ·rw [if_pos hc9] at h
  refine wk 17 (x0.Op==18) true (beq_iff_eq.2 hc9)<|wt<|ws fun K21 hK21=>wr [(0,0),(1,0),(2,0)]<|gb [0,1,2] [(4,vI x0.A),(20,vI x0.A),(19,pP b1 1)] [ld b1 1 (vI x0.A)] ⟨hS1.c 0,trivial⟩<|gn hK21 ?_
  have hS10:=hS1.takeN 0
  subst h
  exact we_ret (pr0 [.tmp 4] [vI x0.A] ⟨rfl,hS10⟩)
 rw [if_neg hc9] at h
 refine wk 17 (x0.Op==18) false (beq_eq_false_iff_ne.2 hc9)<|wf<|we_skip fun a hF=>hK2 _ _ ?_ a hF
 refine ws fun K22 hK22=>wr [(0,0)]<|gb0 [0] [(4,vI 1)]<|gn hK22 ?_
 have hS11:=hS1.takeN 0
 subst h
 exact we_ret (pr0 [.tmp 4] [vI 1] ⟨rfl,hS11⟩)

/-! (*punctual/mach.Machine).pop -/
abbrev mach_Machine_pop.Post (w0:World) (bp0:Nat) (lp0_0:List SIns) (Ap0_0:OA) (cp0_0:Nat) (lp0_1:List Int) (Ap0_1:OA) (cp0_1:Nat) (lp0_2:List Int) (Ap0_2:OA) (cp0_2:Nat) (lp0_3:List SPut) (Ap0_3:OA) (cp0_3:Nat) (lp0_4:List Int) (Ap0_4:OA) (cp0_4:Nat) (sp0_5:List Int) (sp0_13 sp0_14:Int) (LT:List Own) (r:Int×(List Int)) (e:Ending) (w:World):Prop:=∃ (nbp0_4:Value),e=.returned (vI r.1)∧St w0 w [bk bp0 #[(.slice Ap0_0 lp0_0.length cp0_0),(.slice Ap0_1 lp0_1.length cp0_1),(.slice Ap0_2 lp0_2.length cp0_2),(.slice Ap0_3 lp0_3.length cp0_3),nbp0_4,vI ((sp0_5[0]?).getD 0),vI ((sp0_5[1]?).getD 0),vI ((sp0_5[2]?).getD 0),vI ((sp0_5[3]?).getD 0),vI ((sp0_5[4]?).getD 0),vI ((sp0_5[5]?).getD 0),vI ((sp0_5[6]?).getD 0),vI ((sp0_5[7]?).getD 0),vI sp0_13,vI sp0_14] 86,ro Ap0_0 cp0_0 29 lp0_0,ro Ap0_1 cp0_1 3 lp0_1,ro Ap0_2 cp0_2 3 lp0_2,ro Ap0_3 cp0_3 101 lp0_3,Own.of nbp0_4 3 r.2,Own.all LT]
def mach_Machine_pop.f (lp0_0 : List SIns) (lp0_1 : List Int) (lp0_2 : List Int) (lp0_3 : List SPut) (lp0_4 : List Int) (sp0_5 : List Int) (sp0_13 : Int) (sp0_14 : Int) : Option (Int × (List Int)) :=
 if 0≤(IntKind.i64.wrap ((lp0_4.length:Int)-1)) then
  match lp0_4[(IntKind.i64.wrap ((lp0_4.length:Int)-1)).toNat]? with
  | none=>none
  | some e1 =>
   if ((IntKind.i64.wrap ((lp0_4.length:Int)-1)).toNat)≤lp0_4.length then
    some (e1,(lp0_4.take ((IntKind.i64.wrap ((lp0_4.length:Int)-1)).toNat)))
   else
    none
 else
  none
theorem mach_Machine_pop_ok (bp0:Nat) (lp0_0:List SIns) (Ap0_0:OA) (cp0_0:Nat) (lp0_1:List Int) (Ap0_1:OA) (cp0_1:Nat) (lp0_2:List Int) (Ap0_2:OA) (cp0_2:Nat) (lp0_3:List SPut) (Ap0_3:OA) (cp0_3:Nat) (lp0_4:List Int) (Ap0_4:OA) (cp0_4:Nat) (sp0_5:List Int) (sp0_13 sp0_14:Int) (w0 wE:World) (LT:List Own) (hS:St w0 wE [bk bp0 #[(.slice Ap0_0 lp0_0.length cp0_0),(.slice Ap0_1 lp0_1.length cp0_1),(.slice Ap0_2 lp0_2.length cp0_2),(.slice Ap0_3 lp0_3.length cp0_3),(.slice Ap0_4 lp0_4.length cp0_4),vI ((sp0_5[0]?).getD 0),vI ((sp0_5[1]?).getD 0),vI ((sp0_5[2]?).getD 0),vI ((sp0_5[3]?).getD 0),vI ((sp0_5[4]?).getD 0),vI ((sp0_5[5]?).getD 0),vI ((sp0_5[6]?).getD 0),vI ((sp0_5[7]?).getD 0),vI sp0_13,vI sp0_14] 86,ro Ap0_0 cp0_0 29 lp0_0,ro Ap0_1 cp0_1 3 lp0_1,ro Ap0_2 cp0_2 3 lp0_2,ro Ap0_3 cp0_3 101 lp0_3,ro Ap0_4 cp0_4 3 lp0_4,Own.all LT]) (r:Int×(List Int)) (h:mach_Machine_pop.f lp0_0 lp0_1 lp0_2 lp0_3 lp0_4 sp0_5 sp0_13 sp0_14=some r) :
  Calls Tryd.prog 58 #[pP bp0 0] wE (mach_Machine_pop.Post w0 bp0 lp0_0 Ap0_0 cp0_0 lp0_1 Ap0_1 cp0_1 lp0_2 Ap0_2 cp0_2 lp0_3 Ap0_3 cp0_3 lp0_4 Ap0_4 cp0_4 sp0_5 sp0_13 sp0_14 LT r):=by
 unfold mach_Machine_pop.f at h
 refine calls_enter (n:=31) (args:=[pP bp0 0]) (fn:=Tryd.f58) rfl rfl rfl rfl ?_
 show WE _ _ _ _ [(0,pP bp0 0)] _
 refine ws fun K1 hK1=>wr [(0,0)]<|gb0 [0] [(2,vI 0)]<|gn hK1<|ws fun K2 hK2=>we_draws (by kernel_rfl) [(0,0),(1,0),(2,0),(3,0),(4,0),(5,0),(6,0),(7,0),(8,0),(9,0),(10,0),(11,0),(12,0)] (by kernel_rfl) ?_
 have hS1:=hS.drew
 refine gb [0,1,2,3,4,5,6,7,8,9] [(13,vI (IntKind.i64.wrap ((lp0_4.length:Int)-1))),(12,vI (lp0_4.length:Int)),(11,(.slice Ap0_4 lp0_4.length cp0_4)),(10,pP bp0 4),(9,pP bp0 0),(8,pP bp0 0),(7,(.slice Ap0_4 lp0_4.length cp0_4)),(6,pP bp0 4),(5,pP bp0 0),(4,pP bp0 0)] [ld bp0 4 ((.slice Ap0_4 lp0_4.length cp0_4)),ld bp0 4 ((.slice Ap0_4 lp0_4.length cp0_4))] ⟨hS1.c 0,hS1.c 0,trivial⟩ ?_
 by_cases hc1:0≤(IntKind.i64.wrap ((lp0_4.length:Int)-1))
 ·rw [if_pos hc1] at h
  rcases hx1:lp0_4[(IntKind.i64.wrap ((lp0_4.length:Int)-1)).toNat]? with _ | e1
  ·rw [hx1] at h; cases h
  rw [hx1] at h
  simp only [] at h
  refine gi 14 0 37 3 1 lp0_4.length cp0_4 (.tmp 7) (.tmp 13) Ap0_4 .i64 (IntKind.i64.wrap ((lp0_4.length:Int)-1)) ((IntKind.i64.wrap ((lp0_4.length:Int)-1)).toNat) ((hS1.rdAt 5 rfl).eqSome (pos_of_get hx1)) (Int.toNat_of_nonneg hc1).symm (lt_of_get hx1) ?_
  refine gb [11,12] [(3,vI e1),(15,vI e1)] [.loaded ⟨blkOf Ap0_4,offOf Ap0_4+((IntKind.i64.wrap ((lp0_4.length:Int)-1)).toNat)*1,none⟩ (vI e1)] ⟨RdL.cell (j:=0) (hS1.rdAt 5 rfl) hx1 rfl,trivial⟩<|gn hK2<|ws fun K3 hK3=>we_orders3 (by kernel_rfl) [(4,[⟨bp0,4,none⟩],[],[]),(8,[⟨bp0,4,none⟩],[],[])] (.vals [0] (.vals [1] (.vals [2] (.vals [3] (.vals [4] (.vals [5] (.vals [6] (.vals [7] (.vals [8] (.vals [9] (.vals [10] (.vals [11] (.vals [12] (.vals [13] (.alt 14 2 .fin .nomore))))))))))))))) (by kernel_rfl) (by kernel_rfl) ?_
  have hS2:=hS1.drew
  refine g30 [0,1,2,3] [(19,pP bp0 4),(18,pP bp0 0),(17,pP bp0 0),(16,pP bp0 0)]<|g3 4 [(20,(.slice Ap0_4 lp0_4.length cp0_4))] [ld bp0 4 ((.slice Ap0_4 lp0_4.length cp0_4))] ⟨hS2.c 0,trivial⟩<|g30 [5,6,7] [(23,pP bp0 4),(22,pP bp0 0),(21,pP bp0 0)]<|g3 8 [(24,(.slice Ap0_4 lp0_4.length cp0_4))] [ld bp0 4 ((.slice Ap0_4 lp0_4.length cp0_4))] ⟨hS2.c 0,trivial⟩<|g30 [9,10] [(26,vI (IntKind.i64.wrap ((lp0_4.length:Int)-1))),(25,vI (lp0_4.length:Int))] ?_
  by_cases hc2:((IntKind.i64.wrap ((lp0_4.length:Int)-1)).toNat)≤lp0_4.length
  ·rw [if_pos hc2] at h
   refine go3_sliceHi (d:=27) (ty:=37) (t:=37) (el:=3) (sz:=1) (m:=lp0_4.length) (c:=cp0_4) (hn:=((IntKind.i64.wrap ((lp0_4.length:Int)-1)).toNat)) (x:=(.tmp 20)) (y:=(.tmp 26)) (A:=Ap0_4) (k':=.i64) (hi:=(IntKind.i64.wrap ((lp0_4.length:Int)-1))) (by kernel_rfl) (by kernel_rfl) (by kernel_rfl) (Int.toNat_of_nonneg hc1).symm (by kernel_rfl) (by kernel_rfl) (by have f0:=hc2; have f1:=(hS2.capAt 5 rfl); omega) ?_
   refine go3_same (t:=27) (v:=.slice Ap0_4 ((IntKind.i64.wrap ((lp0_4.length:Int)-1)).toNat) cp0_4) (v':=.slice Ap0_4 ((lp0_4.take ((IntKind.i64.wrap ((lp0_4.length:Int)-1)).toNat)).length) cp0_4) (by kernel_rfl) (congrArg (fun z=>Value.slice Ap0_4 z cp0_4) (show (IntKind.i64.wrap ((lp0_4.length:Int)-1)).toNat=(lp0_4.take ((IntKind.i64.wrap ((lp0_4.length:Int)-1)).toNat)).length by have f0:=hc2; have f1:=(hS2.capAt 5 rfl); simp only [List.length_take]; omega)) ?_
   refine g30 [12,13] [(29,pP bp0 4),(28,pP bp0 0)]<|go_alt3 (fun KK hKK=>?_) ?_
   ·refine gs bp0 4 #[(.slice Ap0_0 lp0_0.length cp0_0),(.slice Ap0_1 lp0_1.length cp0_1),(.slice Ap0_2 lp0_2.length cp0_2),(.slice Ap0_3 lp0_3.length cp0_3),(.slice Ap0_4 lp0_4.length cp0_4),vI ((sp0_5[0]?).getD 0),vI ((sp0_5[1]?).getD 0),vI ((sp0_5[2]?).getD 0),vI ((sp0_5[3]?).getD 0),vI ((sp0_5[4]?).getD 0),vI ((sp0_5[5]?).getD 0),vI ((sp0_5[6]?).getD 0),vI ((sp0_5[7]?).getD 0),vI sp0_13,vI sp0_14] 86 [.slice Ap0_4 ((lp0_4.take ((IntKind.i64.wrap ((lp0_4.length:Int)-1)).toNat)).length) cp0_4] hS2 fun w1 hS3=>?_
    have hS4:=hS3.nc #[(.slice Ap0_0 lp0_0.length cp0_0),(.slice Ap0_1 lp0_1.length cp0_1),(.slice Ap0_2 lp0_2.length cp0_2),(.slice Ap0_3 lp0_3.length cp0_3),.slice Ap0_4 ((lp0_4.take ((IntKind.i64.wrap ((lp0_4.length:Int)-1)).toNat)).length) cp0_4,vI ((sp0_5[0]?).getD 0),vI ((sp0_5[1]?).getD 0),vI ((sp0_5[2]?).getD 0),vI ((sp0_5[3]?).getD 0),vI ((sp0_5[4]?).getD 0),vI ((sp0_5[5]?).getD 0),vI ((sp0_5[6]?).getD 0),vI ((sp0_5[7]?).getD 0),vI sp0_13,vI sp0_14] rfl
    refine g2 hKK<|go_fin3 fun a hF=>hK3 _ _ ?_ a hF
    refine ws fun K4 hK4=>wr [(0,0),(1,0)]<|gb0 [0,1] [(2,vI e1),(30,vI e1)]<|gn hK4 ?_
    have hS13:=((((((((hS4.b 5).shrink ((IntKind.i64.wrap ((lp0_4.length:Int)-1)).toNat)).b 6).b 1).b 6).b 6).b 6).b 6).b 6
    obtain rfl:=si h
    exact we_ret (pr0 [.tmp 2] [vI e1] ⟨(.slice Ap0_4 (lp0_4.take ((IntKind.i64.wrap ((lp0_4.length:Int)-1)).toNat)).length cp0_4),rfl,hS13⟩)
   exact go_nomore3
  rw [if_neg hc2] at h
  cases h
 rw [if_neg hc1] at h
 cases h

/-! (*punctual/mach.Machine).do$1 -/
abbrev mach_Machine_do_1.Post (w0:World) (r:Int) (e:Ending) (w:World):Prop:=e=.returned (vI r)∧St w0 w []
def mach_Machine_do_1.f (x0 : Int) (x1 : Int) : Int :=
 IntKind.i64.wrap (x0+x1)
theorem mach_Machine_do_1_ok (x0 x1:Int) (w0:World) (r:Int) (h:mach_Machine_do_1.f x0 x1=r) :
  Calls Tryd.prog 60 #[vI x0,vI x1] w0 (mach_Machine_do_1.Post w0 r):=by
 have hS:=St.start w0
 unfold mach_Machine_do_1.f at h
 refine calls_enter (n:=8) (args:=[vI x0,vI x1]) (fn:=Tryd.f60) rfl rfl rfl rfl ?_
 show WE _ _ _ _ [(0,vI x0),(1,vI x1)] _
 refine ws fun K1 hK1=>wr [(0,0)]<|gb0 [0] [(4,vI 0)]<|gn hK1<|ws fun K2 hK2=>wr [(0,0),(1,0),(2,0),(3,0)]<|gb0 [0,1,2,3] [(4,vI (IntKind.i64.wrap (x0+x1))),(7,vI (IntKind.i64.wrap (x0+x1))),(6,vI x1),(5,vI x0)]<|gn hK2 ?_
 subst h
 exact we_ret (pr0 [.tmp 4] [vI (IntKind.i64.wrap (x0+x1))] ⟨rfl,hS⟩)

/-! (*punctual/mach.Machine).two -/
abbrev mach_Machine_two.Post (w0:World) (bp0:Nat) (lp0_0:List SIns) (Ap0_0:OA) (cp0_0:Nat) (lp0_1:List Int) (Ap0_1:OA) (cp0_1:Nat) (lp0_2:List Int) (Ap0_2:OA) (cp0_2:Nat) (lp0_3:List SPut) (Ap0_3:OA) (cp0_3:Nat) (lp0_4:List Int) (Ap0_4:OA) (cp0_4:Nat) (sp0_5:List Int) (sp0_13 sp0_14:Int) (LT:List Own) (r:List Int) (e:Ending) (w:World):Prop:=∃ (nbp0_4:Value),e=.returned (.tuple #[])∧St w0 w [bk bp0 #[(.slice Ap0_0 lp0_0.length cp0_0),(.slice Ap0_1 lp0_1.length cp0_1),(.slice Ap0_2 lp0_2.length cp0_2),(.slice Ap0_3 lp0_3.length cp0_3),nbp0_4,vI ((sp0_5[0]?).getD 0),vI ((sp0_5[1]?).getD 0),vI ((sp0_5[2]?).getD 0),vI ((sp0_5[3]?).getD 0),vI ((sp0_5[4]?).getD 0),vI ((sp0_5[5]?).getD 0),vI ((sp0_5[6]?).getD 0),vI ((sp0_5[7]?).getD 0),vI sp0_13,vI sp0_14] 86,ro Ap0_0 cp0_0 29 lp0_0,ro Ap0_1 cp0_1 3 lp0_1,ro Ap0_2 cp0_2 3 lp0_2,ro Ap0_3 cp0_3 101 lp0_3,Own.of nbp0_4 3 r,Own.all LT]
def mach_Machine_two.f (lp0_0 : List SIns) (lp0_1 : List Int) (lp0_2 : List Int) (lp0_3 : List SPut) (lp0_4 : List Int) (sp0_5 : List Int) (sp0_13 : Int) (sp0_14 : Int) : Option (List Int) :=
 match mach_Machine_pop.f lp0_0 lp0_1 lp0_2 lp0_3 lp0_4 sp0_5 sp0_13 sp0_14 with
 | none=>none
 | some r1 =>
  match mach_Machine_pop.f lp0_0 lp0_1 lp0_2 lp0_3 r1.2 sp0_5 sp0_13 sp0_14 with
  | none=>none
  | some r2 =>
   if r2.2.length<17592186044416 then
    some (r2.2++[(mach_Machine_do_1.f r2.1 r1.1)])
   else
    none
theorem mach_Machine_two_ok (bp0:Nat) (lp0_0:List SIns) (Ap0_0:OA) (cp0_0:Nat) (lp0_1:List Int) (Ap0_1:OA) (cp0_1:Nat) (lp0_2:List Int) (Ap0_2:OA) (cp0_2:Nat) (lp0_3:List SPut) (Ap0_3:OA) (cp0_3:Nat) (lp0_4:List Int) (Ap0_4:OA) (cp0_4:Nat) (sp0_5:List Int) (sp0_13 sp0_14:Int) (w0 wE:World) (LT:List Own) (hS:St w0 wE [bk bp0 #[(.slice Ap0_0 lp0_0.length cp0_0),(.slice Ap0_1 lp0_1.length cp0_1),(.slice Ap0_2 lp0_2.length cp0_2),(.slice Ap0_3 lp0_3.length cp0_3),(.slice Ap0_4 lp0_4.length cp0_4),vI ((sp0_5[0]?).getD 0),vI ((sp0_5[1]?).getD 0),vI ((sp0_5[2]?).getD 0),vI ((sp0_5[3]?).getD 0),vI ((sp0_5[4]?).getD 0),vI ((sp0_5[5]?).getD 0),vI ((sp0_5[6]?).getD 0),vI ((sp0_5[7]?).getD 0),vI sp0_13,vI sp0_14] 86,ro Ap0_0 cp0_0 29 lp0_0,ro Ap0_1 cp0_1 3 lp0_1,ro Ap0_2 cp0_2 3 lp0_2,ro Ap0_3 cp0_3 101 lp0_3,ro Ap0_4 cp0_4 3 lp0_4,Own.all LT]) (r:List Int) (h:mach_Machine_two.f lp0_0 lp0_1 lp0_2 lp0_3 lp0_4 sp0_5 sp0_13 sp0_14=some r) :
  Calls Tryd.prog 59 #[pP bp0 0,.func (.func 60) #[] #[]] wE (mach_Machine_two.Post w0 bp0 lp0_0 Ap0_0 cp0_0 lp0_1 Ap0_1 cp0_1 lp0_2 Ap0_2 cp0_2 lp0_3 Ap0_3 cp0_3 lp0_4 Ap0_4 cp0_4 sp0_5 sp0_13 sp0_14 LT r):=by
 unfold mach_Machine_two.f at h
 refine calls_enter (n:=23) (args:=[pP bp0 0,.func (.func 60) #[] #[]]) (fn:=Tryd.f59) rfl rfl rfl rfl ?_
 show WE _ _ _ _ [(0,pP bp0 0),(1,.func (.func 60) #[] #[])] _
 refine ws fun K1 hK1=>wr [(0,0),(1,2),(2,0)]<|gb0 [0] [(6,pP bp0 0)] ?_
 rcases hq1:mach_Machine_pop.f lp0_0 lp0_1 lp0_2 lp0_3 lp0_4 sp0_5 sp0_13 sp0_14 with _ | r1
 ·rw [hq1] at h; cases h
 rw [hq1] at h
 simp only [] at h
 have hS8:=((((((hS.b 5).b 5).b 5).b 5).b 5).b 5).packN 6
 refine ge_call2 (m:=0) (d:=some 7) (f:=58) (args:=#[pP bp0 0]) (by kernel_rfl) (mach_Machine_pop_ok bp0 lp0_0 Ap0_0 cp0_0 lp0_1 Ap0_1 cp0_1 lp0_2 Ap0_2 cp0_2 lp0_3 Ap0_3 cp0_3 lp0_4 Ap0_4 cp0_4 sp0_5 sp0_13 sp0_14 _ _ _ hS8 _ hq1) ?_
 rintro _ w1 ⟨v1,rfl,hS7⟩
 refine ⟨_,rfl,?_⟩
 have hS9:=hS7.unpack [bk bp0 #[(.slice Ap0_0 lp0_0.length cp0_0),(.slice Ap0_1 lp0_1.length cp0_1),(.slice Ap0_2 lp0_2.length cp0_2),(.slice Ap0_3 lp0_3.length cp0_3),v1,vI ((sp0_5[0]?).getD 0),vI ((sp0_5[1]?).getD 0),vI ((sp0_5[2]?).getD 0),vI ((sp0_5[3]?).getD 0),vI ((sp0_5[4]?).getD 0),vI ((sp0_5[5]?).getD 0),vI ((sp0_5[6]?).getD 0),vI ((sp0_5[7]?).getD 0),vI sp0_13,vI sp0_14] 86,ro Ap0_0 cp0_0 29 lp0_0,ro Ap0_1 cp0_1 3 lp0_1,ro Ap0_2 cp0_2 3 lp0_2,ro Ap0_3 cp0_3 101 lp0_3,Own.of v1 3 r1.2]
 refine gb0 [2] [(4,vI r1.1)]<|gn hK1<|ws fun K2 hK2=>wr [(0,0),(1,2),(2,0)]<|gb0 [0] [(8,pP bp0 0)] ?_
 obtain ⟨Z1,cz1,rfl⟩:=hS9.open 5 rfl
 rcases hq2:mach_Machine_pop.f lp0_0 lp0_1 lp0_2 lp0_3 r1.2 sp0_5 sp0_13 sp0_14 with _ | r2
 ·rw [hq2] at h; cases h
 rw [hq2] at h
 simp only [] at h
 have hS17:=((((((hS9.b 5).b 5).b 5).b 5).b 5).b 5).packN 6
 refine ge_call2 (m:=0) (d:=some 9) (f:=58) (args:=#[pP bp0 0]) (by kernel_rfl) (mach_Machine_pop_ok bp0 lp0_0 Ap0_0 cp0_0 lp0_1 Ap0_1 cp0_1 lp0_2 Ap0_2 cp0_2 lp0_3 Ap0_3 cp0_3 r1.2 Z1 cz1 sp0_5 sp0_13 sp0_14 _ _ _ hS17 _ hq2) ?_
 rintro _ w2 ⟨v2,rfl,hS16⟩
 refine ⟨_,rfl,?_⟩
 have hS18:=hS16.unpack [bk bp0 #[(.slice Ap0_0 lp0_0.length cp0_0),(.slice Ap0_1 lp0_1.length cp0_1),(.slice Ap0_2 lp0_2.length cp0_2),(.slice Ap0_3 lp0_3.length cp0_3),v2,vI ((sp0_5[0]?).getD 0),vI ((sp0_5[1]?).getD 0),vI ((sp0_5[2]?).getD 0),vI ((sp0_5[3]?).getD 0),vI ((sp0_5[4]?).getD 0),vI ((sp0_5[5]?).getD 0),vI ((sp0_5[6]?).getD 0),vI ((sp0_5[7]?).getD 0),vI sp0_13,vI sp0_14] 86,ro Ap0_0 cp0_0 29 lp0_0,ro Ap0_1 cp0_1 3 lp0_1,ro Ap0_2 cp0_2 3 lp0_2,ro Ap0_3 cp0_3 101 lp0_3,Own.of v2 3 r2.2]
 refine gb0 [2] [(5,vI r2.1)]<|gn hK2<|we_orders3 (by kernel_rfl) [(4,[⟨bp0,4,none⟩],[],[])] (.vals [0] (.vals [1] (.vals [2] (.vals [3] (.vals [4] (.vals [5] (.vals [6] (.vals [7] (.alt 8 1 (.alt 9 1 (.alt 10 2 (.vals [11] (.vals [12] (.alt 13 2 .fin .nomore))) .nomore) .nomore) .nomore))))))))) (by kernel_rfl) (by kernel_rfl) ?_
 have hS19:=hS18.drew
 refine g30 [0,1,2,3] [(13,pP bp0 4),(12,pP bp0 0),(11,pP bp0 0),(10,pP bp0 0)]<|g3 4 [(14,v2)] [ld bp0 4 (v2)] ⟨hS19.c 0,trivial⟩<|g30 [5,6,7] [(17,vI r1.1),(16,vI r2.1),(15,.func (.func 60) #[] #[])]<|go_alt3 (fun KK hKK=>?_) ?_
 ·refine ge_one2<|ge_call (d:=some 18) (f:=60) (args:=#[vI r2.1,vI r1.1]) (by kernel_rfl) (mach_Machine_do_1_ok r2.1 r1.1 _ _ rfl) ?_
  rintro _ w3 ⟨rfl,hS20⟩
  refine ⟨_,rfl,hS20.below,?_⟩
  have hS21:=hS19.call hS20
  refine ge_nil fun a hF=>hKK _ _ (RS.of2 (l:=[ld bp0 4 (v2)]) (by kernel_rfl) ⟨hS19.c 0,trivial⟩ ⟨hS21.c 0,trivial⟩) ?_ a hF
  refine go_alt3 (fun KK hKK=>?_) ?_
  ·refine ge_one2<|gw (some 19) (.cells #[vI (mach_Machine_do_1.f r2.1 r1.1)] 3) (fun b=>.slice (some ⟨b,0,none⟩) 1 1) hS21 fun b1 w4 hx1 hS22=>?_
   refine ge_nil fun a hF=>hKK _ _ (RS.of2 (l:=[ld bp0 4 (v2)]) (by kernel_rfl) ⟨hS21.c 0,trivial⟩ ⟨hS22.c 1,trivial⟩) ?_ a hF
   refine go_alt3 (fun KK hKK=>?_) ?_
   ·have hS23:=hS22.b 6
    by_cases hc1:r2.2.length<17592186044416
    ·rw [if_pos hc1] at h
     refine ge_append (α:=Int) (m:=0) (d:=20) (t:=37) (el:=3) (bytes:=8) (c1:=1) (b1:=b1) (x:=(.tmp 14)) (y:=(.tmp 19)) (ty:=37) (v:=v2) (z:=vI 0) (l:=r2.2) (u:=(mach_Machine_do_1.f r2.1 r1.1)) (by kernel_rfl) (by kernel_rfl) (by kernel_rfl) (by kernel_rfl) (by kernel_rfl) rfl hS23 rfl (by omega) fun v3 w5 hS24=>?_
     refine g2 hKK<|g30 [11,12] [(22,pP bp0 4),(21,pP bp0 0)]<|go_alt3 (fun KK hKK=>?_) ?_
     ·obtain ⟨Z2,cz2,rfl⟩:=hS24.open 0 rfl
      have hS25:=hS24.b 1
      refine gs bp0 4 #[(.slice Ap0_0 lp0_0.length cp0_0),(.slice Ap0_1 lp0_1.length cp0_1),(.slice Ap0_2 lp0_2.length cp0_2),(.slice Ap0_3 lp0_3.length cp0_3),v2,vI ((sp0_5[0]?).getD 0),vI ((sp0_5[1]?).getD 0),vI ((sp0_5[2]?).getD 0),vI ((sp0_5[3]?).getD 0),vI ((sp0_5[4]?).getD 0),vI ((sp0_5[5]?).getD 0),vI ((sp0_5[6]?).getD 0),vI ((sp0_5[7]?).getD 0),vI sp0_13,vI sp0_14] 86 [(.slice Z2 (r2.2++[(mach_Machine_do_1.f r2.1 r1.1)]).length cz2)] hS25 fun w6 hS26=>?_
      have hS27:=hS26.nc #[(.slice Ap0_0 lp0_0.length cp0_0),(.slice Ap0_1 lp0_1.length cp0_1),(.slice Ap0_2 lp0_2.length cp0_2),(.slice Ap0_3 lp0_3.length cp0_3),(.slice Z2 (r2.2++[(mach_Machine_do_1.f r2.1 r1.1)]).length cz2),vI ((sp0_5[0]?).getD 0),vI ((sp0_5[1]?).getD 0),vI ((sp0_5[2]?).getD 0),vI ((sp0_5[3]?).getD 0),vI ((sp0_5[4]?).getD 0),vI ((sp0_5[5]?).getD 0),vI ((sp0_5[6]?).getD 0),vI ((sp0_5[7]?).getD 0),vI sp0_13,vI sp0_14] rfl
      refine g2 hKK ?_
      have hS34:=((((((hS27.b 6).b 2).b 6).b 6).b 6).b 6).b 6
      obtain rfl:=si h
      exact go_fin3 (pe0 [] [] ⟨(.slice Z2 (r2.2++[(mach_Machine_do_1.f r2.1 r1.1)]).length cz2),rfl,hS34⟩)
     exact go_nomore3
    rw [if_neg hc1] at h
    cases h
   exact go_nomore3
  exact go_nomore3
 exact go_nomore3

/-! (*punctual/mach.Machine).do$2 -/
abbrev mach_Machine_do_2.Post (w0:World) (r:Int) (e:Ending) (w:World):Prop:=e=.returned (vI r)∧St w0 w []
def mach_Machine_do_2.f (x0 : Int) (x1 : Int) : Int :=
 IntKind.i64.wrap (x0-x1)
theorem mach_Machine_do_2_ok (x0 x1:Int) (w0:World) (r:Int) (h:mach_Machine_do_2.f x0 x1=r) :
  Calls Tryd.prog 61 #[vI x0,vI x1] w0 (mach_Machine_do_2.Post w0 r):=by
 have hS:=St.start w0
 unfold mach_Machine_do_2.f at h
 refine calls_enter (n:=8) (args:=[vI x0,vI x1]) (fn:=Tryd.f61) rfl rfl rfl rfl ?_
 show WE _ _ _ _ [(0,vI x0),(1,vI x1)] _
 refine ws fun K1 hK1=>wr [(0,0)]<|gb0 [0] [(4,vI 0)]<|gn hK1<|ws fun K2 hK2=>wr [(0,0),(1,0),(2,0),(3,0)]<|gb0 [0,1,2,3] [(4,vI (IntKind.i64.wrap (x0-x1))),(7,vI (IntKind.i64.wrap (x0-x1))),(6,vI x1),(5,vI x0)]<|gn hK2 ?_
 subst h
 exact we_ret (pr0 [.tmp 4] [vI (IntKind.i64.wrap (x0-x1))] ⟨rfl,hS⟩)

/-! (*punctual/mach.Machine).two -/
abbrev mach_Machine_two_1.Post (w0:World) (bp0:Nat) (lp0_0:List SIns) (Ap0_0:OA) (cp0_0:Nat) (lp0_1:List Int) (Ap0_1:OA) (cp0_1:Nat) (lp0_2:List Int) (Ap0_2:OA) (cp0_2:Nat) (lp0_3:List SPut) (Ap0_3:OA) (cp0_3:Nat) (lp0_4:List Int) (Ap0_4:OA) (cp0_4:Nat) (sp0_5:List Int) (sp0_13 sp0_14:Int) (LT:List Own) (r:List Int) (e:Ending) (w:World):Prop:=∃ (nbp0_4:Value),e=.returned (.tuple #[])∧St w0 w [bk bp0 #[(.slice Ap0_0 lp0_0.length cp0_0),(.slice Ap0_1 lp0_1.length cp0_1),(.slice Ap0_2 lp0_2.length cp0_2),(.slice Ap0_3 lp0_3.length cp0_3),nbp0_4,vI ((sp0_5[0]?).getD 0),vI ((sp0_5[1]?).getD 0),vI ((sp0_5[2]?).getD 0),vI ((sp0_5[3]?).getD 0),vI ((sp0_5[4]?).getD 0),vI ((sp0_5[5]?).getD 0),vI ((sp0_5[6]?).getD 0),vI ((sp0_5[7]?).getD 0),vI sp0_13,vI sp0_14] 86,ro Ap0_0 cp0_0 29 lp0_0,ro Ap0_1 cp0_1 3 lp0_1,ro Ap0_2 cp0_2 3 lp0_2,ro Ap0_3 cp0_3 101 lp0_3,Own.of nbp0_4 3 r,Own.all LT]
def mach_Machine_two_1.f (lp0_0 : List SIns) (lp0_1 : List Int) (lp0_2 : List Int) (lp0_3 : List SPut) (lp0_4 : List Int) (sp0_5 : List Int) (sp0_13 : Int) (sp0_14 : Int) : Option (List Int) :=
 match mach_Machine_pop.f lp0_0 lp0_1 lp0_2 lp0_3 lp0_4 sp0_5 sp0_13 sp0_14 with
 | none=>none
 | some r1 =>
  match mach_Machine_pop.f lp0_0 lp0_1 lp0_2 lp0_3 r1.2 sp0_5 sp0_13 sp0_14 with
  | none=>none
  | some r2 =>
   if r2.2.length<17592186044416 then
    some (r2.2++[(mach_Machine_do_2.f r2.1 r1.1)])
   else
    none
theorem mach_Machine_two_1_ok (bp0:Nat) (lp0_0:List SIns) (Ap0_0:OA) (cp0_0:Nat) (lp0_1:List Int) (Ap0_1:OA) (cp0_1:Nat) (lp0_2:List Int) (Ap0_2:OA) (cp0_2:Nat) (lp0_3:List SPut) (Ap0_3:OA) (cp0_3:Nat) (lp0_4:List Int) (Ap0_4:OA) (cp0_4:Nat) (sp0_5:List Int) (sp0_13 sp0_14:Int) (w0 wE:World) (LT:List Own) (hS:St w0 wE [bk bp0 #[(.slice Ap0_0 lp0_0.length cp0_0),(.slice Ap0_1 lp0_1.length cp0_1),(.slice Ap0_2 lp0_2.length cp0_2),(.slice Ap0_3 lp0_3.length cp0_3),(.slice Ap0_4 lp0_4.length cp0_4),vI ((sp0_5[0]?).getD 0),vI ((sp0_5[1]?).getD 0),vI ((sp0_5[2]?).getD 0),vI ((sp0_5[3]?).getD 0),vI ((sp0_5[4]?).getD 0),vI ((sp0_5[5]?).getD 0),vI ((sp0_5[6]?).getD 0),vI ((sp0_5[7]?).getD 0),vI sp0_13,vI sp0_14] 86,ro Ap0_0 cp0_0 29 lp0_0,ro Ap0_1 cp0_1 3 lp0_1,ro Ap0_2 cp0_2 3 lp0_2,ro Ap0_3 cp0_3 101 lp0_3,ro Ap0_4 cp0_4 3 lp0_4,Own.all LT]) (r:List Int) (h:mach_Machine_two_1.f lp0_0 lp0_1 lp0_2 lp0_3 lp0_4 sp0_5 sp0_13 sp0_14=some r) :
  Calls Tryd.prog 59 #[pP bp0 0,.func (.func 61) #[] #[]] wE (mach_Machine_two_1.Post w0 bp0 lp0_0 Ap0_0 cp0_0 lp0_1 Ap0_1 cp0_1 lp0_2 Ap0_2 cp0_2 lp0_3 Ap0_3 cp0_3 lp0_4 Ap0_4 cp0_4 sp0_5 sp0_13 sp0_14 LT r):=by
 unfold mach_Machine_two_1.f at h
 refine calls_enter (n:=23) (args:=[pP bp0 0,.func (.func 61) #[] #[]]) (fn:=Tryd.f59) rfl rfl rfl rfl ?_
 show WE _ _ _ _ [(0,pP bp0 0),(1,.func (.func 61) #[] #[])] _
 refine ws fun K1 hK1=>wr [(0,0),(1,2),(2,0)]<|gb0 [0] [(6,pP bp0 0)] ?_
 rcases hq1:mach_Machine_pop.f lp0_0 lp0_1 lp0_2 lp0_3 lp0_4 sp0_5 sp0_13 sp0_14 with _ | r1
 ·rw [hq1] at h; cases h
 rw [hq1] at h
 simp only [] at h
 have hS8:=((((((hS.b 5).b 5).b 5).b 5).b 5).b 5).packN 6
 refine ge_call2 (m:=0) (d:=some 7) (f:=58) (args:=#[pP bp0 0]) (by kernel_rfl) (mach_Machine_pop_ok bp0 lp0_0 Ap0_0 cp0_0 lp0_1 Ap0_1 cp0_1 lp0_2 Ap0_2 cp0_2 lp0_3 Ap0_3 cp0_3 lp0_4 Ap0_4 cp0_4 sp0_5 sp0_13 sp0_14 _ _ _ hS8 _ hq1) ?_
 rintro _ w1 ⟨v1,rfl,hS7⟩
 refine ⟨_,rfl,?_⟩
 have hS9:=hS7.unpack [bk bp0 #[(.slice Ap0_0 lp0_0.length cp0_0),(.slice Ap0_1 lp0_1.length cp0_1),(.slice Ap0_2 lp0_2.length cp0_2),(.slice Ap0_3 lp0_3.length cp0_3),v1,vI ((sp0_5[0]?).getD 0),vI ((sp0_5[1]?).getD 0),vI ((sp0_5[2]?).getD 0),vI ((sp0_5[3]?).getD 0),vI ((sp0_5[4]?).getD 0),vI ((sp0_5[5]?).getD 0),vI ((sp0_5[6]?).getD 0),vI ((sp0_5[7]?).getD 0),vI sp0_13,vI sp0_14] 86,ro Ap0_0 cp0_0 29 lp0_0,ro Ap0_1 cp0_1 3 lp0_1,ro Ap0_2 cp0_2 3 lp0_2,ro Ap0_3 cp0_3 101 lp0_3,Own.of v1 3 r1.2]
 refine gb0 [2] [(4,vI r1.1)]<|gn hK1<|ws fun K2 hK2=>wr [(0,0),(1,2),(2,0)]<|gb0 [0] [(8,pP bp0 0)] ?_
 obtain ⟨Z1,cz1,rfl⟩:=hS9.open 5 rfl
 rcases hq2:mach_Machine_pop.f lp0_0 lp0_1 lp0_2 lp0_3 r1.2 sp0_5 sp0_13 sp0_14 with _ | r2
 ·rw [hq2] at h; cases h
 rw [hq2] at h
 simp only [] at h
 have hS17:=((((((hS9.b 5).b 5).b 5).b 5).b 5).b 5).packN 6
 refine ge_call2 (m:=0) (d:=some 9) (f:=58) (args:=#[pP bp0 0]) (by kernel_rfl) (mach_Machine_pop_ok bp0 lp0_0 Ap0_0 cp0_0 lp0_1 Ap0_1 cp0_1 lp0_2 Ap0_2 cp0_2 lp0_3 Ap0_3 cp0_3 r1.2 Z1 cz1 sp0_5 sp0_13 sp0_14 _ _ _ hS17 _ hq2) ?_
 rintro _ w2 ⟨v2,rfl,hS16⟩
 refine ⟨_,rfl,?_⟩
 have hS18:=hS16.unpack [bk bp0 #[(.slice Ap0_0 lp0_0.length cp0_0),(.slice Ap0_1 lp0_1.length cp0_1),(.slice Ap0_2 lp0_2.length cp0_2),(.slice Ap0_3 lp0_3.length cp0_3),v2,vI ((sp0_5[0]?).getD 0),vI ((sp0_5[1]?).getD 0),vI ((sp0_5[2]?).getD 0),vI ((sp0_5[3]?).getD 0),vI ((sp0_5[4]?).getD 0),vI ((sp0_5[5]?).getD 0),vI ((sp0_5[6]?).getD 0),vI ((sp0_5[7]?).getD 0),vI sp0_13,vI sp0_14] 86,ro Ap0_0 cp0_0 29 lp0_0,ro Ap0_1 cp0_1 3 lp0_1,ro Ap0_2 cp0_2 3 lp0_2,ro Ap0_3 cp0_3 101 lp0_3,Own.of v2 3 r2.2]
 refine gb0 [2] [(5,vI r2.1)]<|gn hK2<|we_orders3 (by kernel_rfl) [(4,[⟨bp0,4,none⟩],[],[])] (.vals [0] (.vals [1] (.vals [2] (.vals [3] (.vals [4] (.vals [5] (.vals [6] (.vals [7] (.alt 8 1 (.alt 9 1 (.alt 10 2 (.vals [11] (.vals [12] (.alt 13 2 .fin .nomore))) .nomore) .nomore) .nomore))))))))) (by kernel_rfl) (by kernel_rfl) ?_
 have hS19:=hS18.drew
 refine g30 [0,1,2,3] [(13,pP bp0 4),(12,pP bp0 0),(11,pP bp0 0),(10,pP bp0 0)]<|g3 4 [(14,v2)] [ld bp0 4 (v2)] ⟨hS19.c 0,trivial⟩<|g30 [5,6,7] [(17,vI r1.1),(16,vI r2.1),(15,.func (.func 61) #[] #[])]<|go_alt3 (fun KK hKK=>?_) ?_
 ·refine ge_one2<|ge_call (d:=some 18) (f:=61) (args:=#[vI r2.1,vI r1.1]) (by kernel_rfl) (mach_Machine_do_2_ok r2.1 r1.1 _ _ rfl) ?_
  rintro _ w3 ⟨rfl,hS20⟩
  refine ⟨_,rfl,hS20.below,?_⟩
  have hS21:=hS19.call hS20
  refine ge_nil fun a hF=>hKK _ _ (RS.of2 (l:=[ld bp0 4 (v2)]) (by kernel_rfl) ⟨hS19.c 0,trivial⟩ ⟨hS21.c 0,trivial⟩) ?_ a hF
  refine go_alt3 (fun KK hKK=>?_) ?_
  ·refine ge_one2<|gw (some 19) (.cells #[vI (mach_Machine_do_2.f r2.1 r1.1)] 3) (fun b=>.slice (some ⟨b,0,none⟩) 1 1) hS21 fun b1 w4 hx1 hS22=>?_
   refine ge_nil fun a hF=>hKK _ _ (RS.of2 (l:=[ld bp0 4 (v2)]) (by kernel_rfl) ⟨hS21.c 0,trivial⟩ ⟨hS22.c 1,trivial⟩) ?_ a hF
   refine go_alt3 (fun KK hKK=>?_) ?_
   ·have hS23:=hS22.b 6
    by_cases hc1:r2.2.length<17592186044416
    ·rw [if_pos hc1] at h
     refine ge_append (α:=Int) (m:=0) (d:=20) (t:=37) (el:=3) (bytes:=8) (c1:=1) (b1:=b1) (x:=(.tmp 14)) (y:=(.tmp 19)) (ty:=37) (v:=v2) (z:=vI 0) (l:=r2.2) (u:=(mach_Machine_do_2.f r2.1 r1.1)) (by kernel_rfl) (by kernel_rfl) (by kernel_rfl) (by kernel_rfl) (by kernel_rfl) rfl hS23 rfl (by omega) fun v3 w5 hS24=>?_
     refine g2 hKK<|g30 [11,12] [(22,pP bp0 4),(21,pP bp0 0)]<|go_alt3 (fun KK hKK=>?_) ?_
     ·obtain ⟨Z2,cz2,rfl⟩:=hS24.open 0 rfl
      have hS25:=hS24.b 1
      refine gs bp0 4 #[(.slice Ap0_0 lp0_0.length cp0_0),(.slice Ap0_1 lp0_1.length cp0_1),(.slice Ap0_2 lp0_2.length cp0_2),(.slice Ap0_3 lp0_3.length cp0_3),v2,vI ((sp0_5[0]?).getD 0),vI ((sp0_5[1]?).getD 0),vI ((sp0_5[2]?).getD 0),vI ((sp0_5[3]?).getD 0),vI ((sp0_5[4]?).getD 0),vI ((sp0_5[5]?).getD 0),vI ((sp0_5[6]?).getD 0),vI ((sp0_5[7]?).getD 0),vI sp0_13,vI sp0_14] 86 [(.slice Z2 (r2.2++[(mach_Machine_do_2.f r2.1 r1.1)]).length cz2)] hS25 fun w6 hS26=>?_
      have hS27:=hS26.nc #[(.slice Ap0_0 lp0_0.length cp0_0),(.slice Ap0_1 lp0_1.length cp0_1),(.slice Ap0_2 lp0_2.length cp0_2),(.slice Ap0_3 lp0_3.length cp0_3),(.slice Z2 (r2.2++[(mach_Machine_do_2.f r2.1 r1.1)]).length cz2),vI ((sp0_5[0]?).getD 0),vI ((sp0_5[1]?).getD 0),vI ((sp0_5[2]?).getD 0),vI ((sp0_5[3]?).getD 0),vI ((sp0_5[4]?).getD 0),vI ((sp0_5[5]?).getD 0),vI ((sp0_5[6]?).getD 0),vI ((sp0_5[7]?).getD 0),vI sp0_13,vI sp0_14] rfl
      refine g2 hKK ?_
      have hS34:=((((((hS27.b 6).b 2).b 6).b 6).b 6).b 6).b 6
      obtain rfl:=si h
      exact go_fin3 (pe0 [] [] ⟨(.slice Z2 (r2.2++[(mach_Machine_do_2.f r2.1 r1.1)]).length cz2),rfl,hS34⟩)
     exact go_nomore3
    rw [if_neg hc1] at h
    cases h
   exact go_nomore3
  exact go_nomore3
 exact go_nomore3

/-! (*punctual/mach.Machine).do$3 -/
abbrev mach_Machine_do_3.Post (w0:World) (r:Int) (e:Ending) (w:World):Prop:=e=.returned (vI r)∧St w0 w []
def mach_Machine_do_3.f (x0 : Int) (x1 : Int) : Int :=
 IntKind.i64.wrap (x0*x1)
theorem mach_Machine_do_3_ok (x0 x1:Int) (w0:World) (r:Int) (h:mach_Machine_do_3.f x0 x1=r) :
  Calls Tryd.prog 62 #[vI x0,vI x1] w0 (mach_Machine_do_3.Post w0 r):=by
 have hS:=St.start w0
 unfold mach_Machine_do_3.f at h
 refine calls_enter (n:=8) (args:=[vI x0,vI x1]) (fn:=Tryd.f62) rfl rfl rfl rfl ?_
 show WE _ _ _ _ [(0,vI x0),(1,vI x1)] _
 refine ws fun K1 hK1=>wr [(0,0)]<|gb0 [0] [(4,vI 0)]<|gn hK1<|ws fun K2 hK2=>wr [(0,0),(1,0),(2,0),(3,0)]<|gb0 [0,1,2,3] [(4,vI (IntKind.i64.wrap (x0*x1))),(7,vI (IntKind.i64.wrap (x0*x1))),(6,vI x1),(5,vI x0)]<|gn hK2 ?_
 subst h
 exact we_ret (pr0 [.tmp 4] [vI (IntKind.i64.wrap (x0*x1))] ⟨rfl,hS⟩)

/-! (*punctual/mach.Machine).two -/
abbrev mach_Machine_two_2.Post (w0:World) (bp0:Nat) (lp0_0:List SIns) (Ap0_0:OA) (cp0_0:Nat) (lp0_1:List Int) (Ap0_1:OA) (cp0_1:Nat) (lp0_2:List Int) (Ap0_2:OA) (cp0_2:Nat) (lp0_3:List SPut) (Ap0_3:OA) (cp0_3:Nat) (lp0_4:List Int) (Ap0_4:OA) (cp0_4:Nat) (sp0_5:List Int) (sp0_13 sp0_14:Int) (LT:List Own) (r:List Int) (e:Ending) (w:World):Prop:=∃ (nbp0_4:Value),e=.returned (.tuple #[])∧St w0 w [bk bp0 #[(.slice Ap0_0 lp0_0.length cp0_0),(.slice Ap0_1 lp0_1.length cp0_1),(.slice Ap0_2 lp0_2.length cp0_2),(.slice Ap0_3 lp0_3.length cp0_3),nbp0_4,vI ((sp0_5[0]?).getD 0),vI ((sp0_5[1]?).getD 0),vI ((sp0_5[2]?).getD 0),vI ((sp0_5[3]?).getD 0),vI ((sp0_5[4]?).getD 0),vI ((sp0_5[5]?).getD 0),vI ((sp0_5[6]?).getD 0),vI ((sp0_5[7]?).getD 0),vI sp0_13,vI sp0_14] 86,ro Ap0_0 cp0_0 29 lp0_0,ro Ap0_1 cp0_1 3 lp0_1,ro Ap0_2 cp0_2 3 lp0_2,ro Ap0_3 cp0_3 101 lp0_3,Own.of nbp0_4 3 r,Own.all LT]
def mach_Machine_two_2.f (lp0_0 : List SIns) (lp0_1 : List Int) (lp0_2 : List Int) (lp0_3 : List SPut) (lp0_4 : List Int) (sp0_5 : List Int) (sp0_13 : Int) (sp0_14 : Int) : Option (List Int) :=
 match mach_Machine_pop.f lp0_0 lp0_1 lp0_2 lp0_3 lp0_4 sp0_5 sp0_13 sp0_14 with
 | none=>none
 | some r1 =>
  match mach_Machine_pop.f lp0_0 lp0_1 lp0_2 lp0_3 r1.2 sp0_5 sp0_13 sp0_14 with
  | none=>none
  | some r2 =>
   if r2.2.length<17592186044416 then
    some (r2.2++[(mach_Machine_do_3.f r2.1 r1.1)])
   else
    none
theorem mach_Machine_two_2_ok (bp0:Nat) (lp0_0:List SIns) (Ap0_0:OA) (cp0_0:Nat) (lp0_1:List Int) (Ap0_1:OA) (cp0_1:Nat) (lp0_2:List Int) (Ap0_2:OA) (cp0_2:Nat) (lp0_3:List SPut) (Ap0_3:OA) (cp0_3:Nat) (lp0_4:List Int) (Ap0_4:OA) (cp0_4:Nat) (sp0_5:List Int) (sp0_13 sp0_14:Int) (w0 wE:World) (LT:List Own) (hS:St w0 wE [bk bp0 #[(.slice Ap0_0 lp0_0.length cp0_0),(.slice Ap0_1 lp0_1.length cp0_1),(.slice Ap0_2 lp0_2.length cp0_2),(.slice Ap0_3 lp0_3.length cp0_3),(.slice Ap0_4 lp0_4.length cp0_4),vI ((sp0_5[0]?).getD 0),vI ((sp0_5[1]?).getD 0),vI ((sp0_5[2]?).getD 0),vI ((sp0_5[3]?).getD 0),vI ((sp0_5[4]?).getD 0),vI ((sp0_5[5]?).getD 0),vI ((sp0_5[6]?).getD 0),vI ((sp0_5[7]?).getD 0),vI sp0_13,vI sp0_14] 86,ro Ap0_0 cp0_0 29 lp0_0,ro Ap0_1 cp0_1 3 lp0_1,ro Ap0_2 cp0_2 3 lp0_2,ro Ap0_3 cp0_3 101 lp0_3,ro Ap0_4 cp0_4 3 lp0_4,Own.all LT]) (r:List Int) (h:mach_Machine_two_2.f lp0_0 lp0_1 lp0_2 lp0_3 lp0_4 sp0_5 sp0_13 sp0_14=some r) :
  Calls Tryd.prog 59 #[pP bp0 0,.func (.func 62) #[] #[]] wE (mach_Machine_two_2.Post w0 bp0 lp0_0 Ap0_0 cp0_0 lp0_1 Ap0_1 cp0_1 lp0_2 Ap0_2 cp0_2 lp0_3 Ap0_3 cp0_3 lp0_4 Ap0_4 cp0_4 sp0_5 sp0_13 sp0_14 LT r):=by
 unfold mach_Machine_two_2.f at h
 refine calls_enter (n:=23) (args:=[pP bp0 0,.func (.func 62) #[] #[]]) (fn:=Tryd.f59) rfl rfl rfl rfl ?_
 show WE _ _ _ _ [(0,pP bp0 0),(1,.func (.func 62) #[] #[])] _
 refine ws fun K1 hK1=>wr [(0,0),(1,2),(2,0)]<|gb0 [0] [(6,pP bp0 0)] ?_
 rcases hq1:mach_Machine_pop.f lp0_0 lp0_1 lp0_2 lp0_3 lp0_4 sp0_5 sp0_13 sp0_14 with _ | r1
 ·rw [hq1] at h; cases h
 rw [hq1] at h
 simp only [] at h
 have hS8:=((((((hS.b 5).b 5).b 5).b 5).b 5).b 5).packN 6
 refine ge_call2 (m:=0) (d:=some 7) (f:=58) (args:=#[pP bp0 0]) (by kernel_rfl) (mach_Machine_pop_ok bp0 lp0_0 Ap0_0 cp0_0 lp0_1 Ap0_1 cp0_1 lp0_2 Ap0_2 cp0_2 lp0_3 Ap0_3 cp0_3 lp0_4 Ap0_4 cp0_4 sp0_5 sp0_13 sp0_14 _ _ _ hS8 _ hq1) ?_
 rintro _ w1 ⟨v1,rfl,hS7⟩
 refine ⟨_,rfl,?_⟩
 have hS9:=hS7.unpack [bk bp0 #[(.slice Ap0_0 lp0_0.length cp0_0),(.slice Ap0_1 lp0_1.length cp0_1),(.slice Ap0_2 lp0_2.length cp0_2),(.slice Ap0_3 lp0_3.length cp0_3),v1,vI ((sp0_5[0]?).getD 0),vI ((sp0_5[1]?).getD 0),vI ((sp0_5[2]?).getD 0),vI ((sp0_5[3]?).getD 0),vI ((sp0_5[4]?).getD 0),vI ((sp0_5[5]?).getD 0),vI ((sp0_5[6]?).getD 0),vI ((sp0_5[7]?).getD 0),vI sp0_13,vI sp0_14] 86,ro Ap0_0 cp0_0 29 lp0_0,ro Ap0_1 cp0_1 3 lp0_1,ro Ap0_2 cp0_2 3 lp0_2,ro Ap0_3 cp0_3 101 lp0_3,Own.of v1 3 r1.2]
 refine gb0 [2] [(4,vI r1.1)]<|gn hK1<|ws fun K2 hK2=>wr [(0,0),(1,2),(2,0)]<|gb0 [0] [(8,pP bp0 0)] ?_
 obtain ⟨Z1,cz1,rfl⟩:=hS9.open 5 rfl
 rcases hq2:mach_Machine_pop.f lp0_0 lp0_1 lp0_2 lp0_3 r1.2 sp0_5 sp0_13 sp0_14 with _ | r2
 ·rw [hq2] at h; cases h
 rw [hq2] at h
 simp only [] at h
 have hS17:=((((((hS9.b 5).b 5).b 5).b 5).b 5).b 5).packN 6
 refine ge_call2 (m:=0) (d:=some 9) (f:=58) (args:=#[pP bp0 0]) (by kernel_rfl) (mach_Machine_pop_ok bp0 lp0_0 Ap0_0 cp0_0 lp0_1 Ap0_1 cp0_1 lp0_2 Ap0_2 cp0_2 lp0_3 Ap0_3 cp0_3 r1.2 Z1 cz1 sp0_5 sp0_13 sp0_14 _ _ _ hS17 _ hq2) ?_
 rintro _ w2 ⟨v2,rfl,hS16⟩
 refine ⟨_,rfl,?_⟩
 have hS18:=hS16.unpack [bk bp0 #[(.slice Ap0_0 lp0_0.length cp0_0),(.slice Ap0_1 lp0_1.length cp0_1),(.slice Ap0_2 lp0_2.length cp0_2),(.slice Ap0_3 lp0_3.length cp0_3),v2,vI ((sp0_5[0]?).getD 0),vI ((sp0_5[1]?).getD 0),vI ((sp0_5[2]?).getD 0),vI ((sp0_5[3]?).getD 0),vI ((sp0_5[4]?).getD 0),vI ((sp0_5[5]?).getD 0),vI ((sp0_5[6]?).getD 0),vI ((sp0_5[7]?).getD 0),vI sp0_13,vI sp0_14] 86,ro Ap0_0 cp0_0 29 lp0_0,ro Ap0_1 cp0_1 3 lp0_1,ro Ap0_2 cp0_2 3 lp0_2,ro Ap0_3 cp0_3 101 lp0_3,Own.of v2 3 r2.2]
 refine gb0 [2] [(5,vI r2.1)]<|gn hK2<|we_orders3 (by kernel_rfl) [(4,[⟨bp0,4,none⟩],[],[])] (.vals [0] (.vals [1] (.vals [2] (.vals [3] (.vals [4] (.vals [5] (.vals [6] (.vals [7] (.alt 8 1 (.alt 9 1 (.alt 10 2 (.vals [11] (.vals [12] (.alt 13 2 .fin .nomore))) .nomore) .nomore) .nomore))))))))) (by kernel_rfl) (by kernel_rfl) ?_
 have hS19:=hS18.drew
 refine g30 [0,1,2,3] [(13,pP bp0 4),(12,pP bp0 0),(11,pP bp0 0),(10,pP bp0 0)]<|g3 4 [(14,v2)] [ld bp0 4 (v2)] ⟨hS19.c 0,trivial⟩<|g30 [5,6,7] [(17,vI r1.1),(16,vI r2.1),(15,.func (.func 62) #[] #[])]<|go_alt3 (fun KK hKK=>?_) ?_
 ·refine ge_one2<|ge_call (d:=some 18) (f:=62) (args:=#[vI r2.1,vI r1.1]) (by kernel_rfl) (mach_Machine_do_3_ok r2.1 r1.1 _ _ rfl) ?_
  rintro _ w3 ⟨rfl,hS20⟩
  refine ⟨_,rfl,hS20.below,?_⟩
  have hS21:=hS19.call hS20
  refine ge_nil fun a hF=>hKK _ _ (RS.of2 (l:=[ld bp0 4 (v2)]) (by kernel_rfl) ⟨hS19.c 0,trivial⟩ ⟨hS21.c 0,trivial⟩) ?_ a hF
  refine go_alt3 (fun KK hKK=>?_) ?_
  ·refine ge_one2<|gw (some 19) (.cells #[vI (mach_Machine_do_3.f r2.1 r1.1)] 3) (fun b=>.slice (some ⟨b,0,none⟩) 1 1) hS21 fun b1 w4 hx1 hS22=>?_
   refine ge_nil fun a hF=>hKK _ _ (RS.of2 (l:=[ld bp0 4 (v2)]) (by kernel_rfl) ⟨hS21.c 0,trivial⟩ ⟨hS22.c 1,trivial⟩) ?_ a hF
   refine go_alt3 (fun KK hKK=>?_) ?_
   ·have hS23:=hS22.b 6
    by_cases hc1:r2.2.length<17592186044416
    ·rw [if_pos hc1] at h
     refine ge_append (α:=Int) (m:=0) (d:=20) (t:=37) (el:=3) (bytes:=8) (c1:=1) (b1:=b1) (x:=(.tmp 14)) (y:=(.tmp 19)) (ty:=37) (v:=v2) (z:=vI 0) (l:=r2.2) (u:=(mach_Machine_do_3.f r2.1 r1.1)) (by kernel_rfl) (by kernel_rfl) (by kernel_rfl) (by kernel_rfl) (by kernel_rfl) rfl hS23 rfl (by omega) fun v3 w5 hS24=>?_
     refine g2 hKK<|g30 [11,12] [(22,pP bp0 4),(21,pP bp0 0)]<|go_alt3 (fun KK hKK=>?_) ?_
     ·obtain ⟨Z2,cz2,rfl⟩:=hS24.open 0 rfl
      have hS25:=hS24.b 1
      refine gs bp0 4 #[(.slice Ap0_0 lp0_0.length cp0_0),(.slice Ap0_1 lp0_1.length cp0_1),(.slice Ap0_2 lp0_2.length cp0_2),(.slice Ap0_3 lp0_3.length cp0_3),v2,vI ((sp0_5[0]?).getD 0),vI ((sp0_5[1]?).getD 0),vI ((sp0_5[2]?).getD 0),vI ((sp0_5[3]?).getD 0),vI ((sp0_5[4]?).getD 0),vI ((sp0_5[5]?).getD 0),vI ((sp0_5[6]?).getD 0),vI ((sp0_5[7]?).getD 0),vI sp0_13,vI sp0_14] 86 [(.slice Z2 (r2.2++[(mach_Machine_do_3.f r2.1 r1.1)]).length cz2)] hS25 fun w6 hS26=>?_
      have hS27:=hS26.nc #[(.slice Ap0_0 lp0_0.length cp0_0),(.slice Ap0_1 lp0_1.length cp0_1),(.slice Ap0_2 lp0_2.length cp0_2),(.slice Ap0_3 lp0_3.length cp0_3),(.slice Z2 (r2.2++[(mach_Machine_do_3.f r2.1 r1.1)]).length cz2),vI ((sp0_5[0]?).getD 0),vI ((sp0_5[1]?).getD 0),vI ((sp0_5[2]?).getD 0),vI ((sp0_5[3]?).getD 0),vI ((sp0_5[4]?).getD 0),vI ((sp0_5[5]?).getD 0),vI ((sp0_5[6]?).getD 0),vI ((sp0_5[7]?).getD 0),vI sp0_13,vI sp0_14] rfl
      refine g2 hKK ?_
      have hS34:=((((((hS27.b 6).b 2).b 6).b 6).b 6).b 6).b 6
      obtain rfl:=si h
      exact go_fin3 (pe0 [] [] ⟨(.slice Z2 (r2.2++[(mach_Machine_do_3.f r2.1 r1.1)]).length cz2),rfl,hS34⟩)
     exact go_nomore3
    rw [if_neg hc1] at h
    cases h
   exact go_nomore3
  exact go_nomore3
 exact go_nomore3

/-! punctual/mach.truth -/
abbrev mach_truth.Post (w0:World) (r:Int) (e:Ending) (w:World):Prop:=e=.returned (vI r)∧St w0 w []
def mach_truth.f (x0 : Bool) : Int :=
 if x0=true then
  1
 else
  0
theorem mach_truth_ok (x0:Bool) (w0:World) (r:Int) (h:mach_truth.f x0=r) :
  Calls Tryd.prog 64 #[.bool x0] w0 (mach_truth.Post w0 r):=by
 have hS:=St.start w0
 unfold mach_truth.f at h
 refine calls_enter (n:=4) (args:=[.bool x0]) (fn:=Tryd.f64) rfl rfl rfl rfl ?_
 show WE _ _ _ _ [(0,.bool x0)] _
 refine ws fun K1 hK1=>wr [(0,0)]<|gb0 [0] [(2,vI 0)]<|gn hK1<|ws fun K2 hK2=>ws fun K3 hK3=>wr [(0,0)]<|gb0 [0] [(3,.bool x0)]<|gn hK3 ?_
 by_cases hc1:x0=true
 ·rw [if_pos hc1] at h
  refine wk 3 x0 true hc1<|wt<|ws fun K4 hK4=>wr [(0,0)]<|gb0 [0] [(2,vI 1)]<|gn hK4 ?_
  subst h
  exact we_ret (pr0 [.tmp 2] [vI 1] ⟨rfl,hS⟩)
 rw [if_neg hc1] at h
 refine wk 3 x0 false (Bool.eq_false_iff.2 hc1)<|wf<|we_skip fun a hF=>hK2 _ _ ?_ a hF
 refine ws fun K5 hK5=>wr [(0,0)]<|gb0 [0] [(2,vI 0)]<|gn hK5 ?_
 subst h
 exact we_ret (pr0 [.tmp 2] [vI 0] ⟨rfl,hS⟩)

/-! (*punctual/mach.Machine).do$4 -/
abbrev mach_Machine_do_4.Post (w0:World) (r:Int) (e:Ending) (w:World):Prop:=e=.returned (vI r)∧St w0 w []
def mach_Machine_do_4.f (x0 : Int) (x1 : Int) : Int :=
 (mach_truth.f (decide (x0<x1)))
theorem mach_Machine_do_4_ok (x0 x1:Int) (w0:World) (r:Int) (h:mach_Machine_do_4.f x0 x1=r) :
  Calls Tryd.prog 63 #[vI x0,vI x1] w0 (mach_Machine_do_4.Post w0 r):=by
 have hS:=St.start w0
 unfold mach_Machine_do_4.f at h
 refine calls_enter (n:=9) (args:=[vI x0,vI x1]) (fn:=Tryd.f63) rfl rfl rfl rfl ?_
 show WE _ _ _ _ [(0,vI x0),(1,vI x1)] _
 refine ws fun K1 hK1=>wr [(0,0)]<|gb0 [0] [(4,vI 0)]<|gn hK1<|ws fun K2 hK2=>wr [(0,0),(1,0),(2,0),(3,1),(4,0)]<|gb0 [0,1,2] [(7,.bool (decide (x0<x1))),(6,vI x1),(5,vI x0)]<|ge_call (d:=some 8) (f:=64) (args:=#[.bool (decide (x0<x1))]) (by kernel_rfl) (mach_truth_ok (decide (x0<x1)) _ _ rfl) ?_
 rintro _ w1 ⟨rfl,hS1⟩
 refine ⟨_,rfl,hS1.below,?_⟩
 have hS2:=hS.call hS1
 refine gb0 [4] [(4,vI (mach_truth.f (decide (x0<x1))))]<|gn hK2 ?_
 subst h
 exact we_ret (pr0 [.tmp 4] [vI (mach_truth.f (decide (x0<x1)))] ⟨rfl,hS2⟩)

/-! (*punctual/mach.Machine).two -/
abbrev mach_Machine_two_3.Post (w0:World) (bp0:Nat) (lp0_0:List SIns) (Ap0_0:OA) (cp0_0:Nat) (lp0_1:List Int) (Ap0_1:OA) (cp0_1:Nat) (lp0_2:List Int) (Ap0_2:OA) (cp0_2:Nat) (lp0_3:List SPut) (Ap0_3:OA) (cp0_3:Nat) (lp0_4:List Int) (Ap0_4:OA) (cp0_4:Nat) (sp0_5:List Int) (sp0_13 sp0_14:Int) (LT:List Own) (r:List Int) (e:Ending) (w:World):Prop:=∃ (nbp0_4:Value),e=.returned (.tuple #[])∧St w0 w [bk bp0 #[(.slice Ap0_0 lp0_0.length cp0_0),(.slice Ap0_1 lp0_1.length cp0_1),(.slice Ap0_2 lp0_2.length cp0_2),(.slice Ap0_3 lp0_3.length cp0_3),nbp0_4,vI ((sp0_5[0]?).getD 0),vI ((sp0_5[1]?).getD 0),vI ((sp0_5[2]?).getD 0),vI ((sp0_5[3]?).getD 0),vI ((sp0_5[4]?).getD 0),vI ((sp0_5[5]?).getD 0),vI ((sp0_5[6]?).getD 0),vI ((sp0_5[7]?).getD 0),vI sp0_13,vI sp0_14] 86,ro Ap0_0 cp0_0 29 lp0_0,ro Ap0_1 cp0_1 3 lp0_1,ro Ap0_2 cp0_2 3 lp0_2,ro Ap0_3 cp0_3 101 lp0_3,Own.of nbp0_4 3 r,Own.all LT]
def mach_Machine_two_3.f (lp0_0 : List SIns) (lp0_1 : List Int) (lp0_2 : List Int) (lp0_3 : List SPut) (lp0_4 : List Int) (sp0_5 : List Int) (sp0_13 : Int) (sp0_14 : Int) : Option (List Int) :=
 match mach_Machine_pop.f lp0_0 lp0_1 lp0_2 lp0_3 lp0_4 sp0_5 sp0_13 sp0_14 with
 | none=>none
 | some r1 =>
  match mach_Machine_pop.f lp0_0 lp0_1 lp0_2 lp0_3 r1.2 sp0_5 sp0_13 sp0_14 with
  | none=>none
  | some r2 =>
   if r2.2.length<17592186044416 then
    some (r2.2++[(mach_Machine_do_4.f r2.1 r1.1)])
   else
    none
theorem mach_Machine_two_3_ok (bp0:Nat) (lp0_0:List SIns) (Ap0_0:OA) (cp0_0:Nat) (lp0_1:List Int) (Ap0_1:OA) (cp0_1:Nat) (lp0_2:List Int) (Ap0_2:OA) (cp0_2:Nat) (lp0_3:List SPut) (Ap0_3:OA) (cp0_3:Nat) (lp0_4:List Int) (Ap0_4:OA) (cp0_4:Nat) (sp0_5:List Int) (sp0_13 sp0_14:Int) (w0 wE:World) (LT:List Own) (hS:St w0 wE [bk bp0 #[(.slice Ap0_0 lp0_0.length cp0_0),(.slice Ap0_1 lp0_1.length cp0_1),(.slice Ap0_2 lp0_2.length cp0_2),(.slice Ap0_3 lp0_3.length cp0_3),(.slice Ap0_4 lp0_4.length cp0_4),vI ((sp0_5[0]?).getD 0),vI ((sp0_5[1]?).getD 0),vI ((sp0_5[2]?).getD 0),vI ((sp0_5[3]?).getD 0),vI ((sp0_5[4]?).getD 0),vI ((sp0_5[5]?).getD 0),vI ((sp0_5[6]?).getD 0),vI ((sp0_5[7]?).getD 0),vI sp0_13,vI sp0_14] 86,ro Ap0_0 cp0_0 29 lp0_0,ro Ap0_1 cp0_1 3 lp0_1,ro Ap0_2 cp0_2 3 lp0_2,ro Ap0_3 cp0_3 101 lp0_3,ro Ap0_4 cp0_4 3 lp0_4,Own.all LT]) (r:List Int) (h:mach_Machine_two_3.f lp0_0 lp0_1 lp0_2 lp0_3 lp0_4 sp0_5 sp0_13 sp0_14=some r) :
  Calls Tryd.prog 59 #[pP bp0 0,.func (.func 63) #[] #[]] wE (mach_Machine_two_3.Post w0 bp0 lp0_0 Ap0_0 cp0_0 lp0_1 Ap0_1 cp0_1 lp0_2 Ap0_2 cp0_2 lp0_3 Ap0_3 cp0_3 lp0_4 Ap0_4 cp0_4 sp0_5 sp0_13 sp0_14 LT r):=by
 unfold mach_Machine_two_3.f at h
 refine calls_enter (n:=23) (args:=[pP bp0 0,.func (.func 63) #[] #[]]) (fn:=Tryd.f59) rfl rfl rfl rfl ?_
 show WE _ _ _ _ [(0,pP bp0 0),(1,.func (.func 63) #[] #[])] _
 refine ws fun K1 hK1=>wr [(0,0),(1,2),(2,0)]<|gb0 [0] [(6,pP bp0 0)] ?_
 rcases hq1:mach_Machine_pop.f lp0_0 lp0_1 lp0_2 lp0_3 lp0_4 sp0_5 sp0_13 sp0_14 with _ | r1
 ·rw [hq1] at h; cases h
 rw [hq1] at h
 simp only [] at h
 have hS8:=((((((hS.b 5).b 5).b 5).b 5).b 5).b 5).packN 6
 refine ge_call2 (m:=0) (d:=some 7) (f:=58) (args:=#[pP bp0 0]) (by kernel_rfl) (mach_Machine_pop_ok bp0 lp0_0 Ap0_0 cp0_0 lp0_1 Ap0_1 cp0_1 lp0_2 Ap0_2 cp0_2 lp0_3 Ap0_3 cp0_3 lp0_4 Ap0_4 cp0_4 sp0_5 sp0_13 sp0_14 _ _ _ hS8 _ hq1) ?_
 rintro _ w1 ⟨v1,rfl,hS7⟩
 refine ⟨_,rfl,?_⟩
 have hS9:=hS7.unpack [bk bp0 #[(.slice Ap0_0 lp0_0.length cp0_0),(.slice Ap0_1 lp0_1.length cp0_1),(.slice Ap0_2 lp0_2.length cp0_2),(.slice Ap0_3 lp0_3.length cp0_3),v1,vI ((sp0_5[0]?).getD 0),vI ((sp0_5[1]?).getD 0),vI ((sp0_5[2]?).getD 0),vI ((sp0_5[3]?).getD 0),vI ((sp0_5[4]?).getD 0),vI ((sp0_5[5]?).getD 0),vI ((sp0_5[6]?).getD 0),vI ((sp0_5[7]?).getD 0),vI sp0_13,vI sp0_14] 86,ro Ap0_0 cp0_0 29 lp0_0,ro Ap0_1 cp0_1 3 lp0_1,ro Ap0_2 cp0_2 3 lp0_2,ro Ap0_3 cp0_3 101 lp0_3,Own.of v1 3 r1.2]
 refine gb0 [2] [(4,vI r1.1)]<|gn hK1<|ws fun K2 hK2=>wr [(0,0),(1,2),(2,0)]<|gb0 [0] [(8,pP bp0 0)] ?_
 obtain ⟨Z1,cz1,rfl⟩:=hS9.open 5 rfl
 rcases hq2:mach_Machine_pop.f lp0_0 lp0_1 lp0_2 lp0_3 r1.2 sp0_5 sp0_13 sp0_14 with _ | r2
 ·rw [hq2] at h; cases h
 rw [hq2] at h
 simp only [] at h
 have hS17:=((((((hS9.b 5).b 5).b 5).b 5).b 5).b 5).packN 6
 refine ge_call2 (m:=0) (d:=some 9) (f:=58) (args:=#[pP bp0 0]) (by kernel_rfl) (mach_Machine_pop_ok bp0 lp0_0 Ap0_0 cp0_0 lp0_1 Ap0_1 cp0_1 lp0_2 Ap0_2 cp0_2 lp0_3 Ap0_3 cp0_3 r1.2 Z1 cz1 sp0_5 sp0_13 sp0_14 _ _ _ hS17 _ hq2) ?_
 rintro _ w2 ⟨v2,rfl,hS16⟩
 refine ⟨_,rfl,?_⟩
 have hS18:=hS16.unpack [bk bp0 #[(.slice Ap0_0 lp0_0.length cp0_0),(.slice Ap0_1 lp0_1.length cp0_1),(.slice Ap0_2 lp0_2.length cp0_2),(.slice Ap0_3 lp0_3.length cp0_3),v2,vI ((sp0_5[0]?).getD 0),vI ((sp0_5[1]?).getD 0),vI ((sp0_5[2]?).getD 0),vI ((sp0_5[3]?).getD 0),vI ((sp0_5[4]?).getD 0),vI ((sp0_5[5]?).getD 0),vI ((sp0_5[6]?).getD 0),vI ((sp0_5[7]?).getD 0),vI sp0_13,vI sp0_14] 86,ro Ap0_0 cp0_0 29 lp0_0,ro Ap0_1 cp0_1 3 lp0_1,ro Ap0_2 cp0_2 3 lp0_2,ro Ap0_3 cp0_3 101 lp0_3,Own.of v2 3 r2.2]
 refine gb0 [2] [(5,vI r2.1)]<|gn hK2<|we_orders3 (by kernel_rfl) [(4,[⟨bp0,4,none⟩],[],[])] (.vals [0] (.vals [1] (.vals [2] (.vals [3] (.vals [4] (.vals [5] (.vals [6] (.vals [7] (.alt 8 1 (.alt 9 1 (.alt 10 2 (.vals [11] (.vals [12] (.alt 13 2 .fin .nomore))) .nomore) .nomore) .nomore))))))))) (by kernel_rfl) (by kernel_rfl) ?_
 have hS19:=hS18.drew
 refine g30 [0,1,2,3] [(13,pP bp0 4),(12,pP bp0 0),(11,pP bp0 0),(10,pP bp0 0)]<|g3 4 [(14,v2)] [ld bp0 4 (v2)] ⟨hS19.c 0,trivial⟩<|g30 [5,6,7] [(17,vI r1.1),(16,vI r2.1),(15,.func (.func 63) #[] #[])]<|go_alt3 (fun KK hKK=>?_) ?_
 ·refine ge_one2<|ge_call (d:=some 18) (f:=63) (args:=#[vI r2.1,vI r1.1]) (by kernel_rfl) (mach_Machine_do_4_ok r2.1 r1.1 _ _ rfl) ?_
  rintro _ w3 ⟨rfl,hS20⟩
  refine ⟨_,rfl,hS20.below,?_⟩
  have hS21:=hS19.call hS20
  refine ge_nil fun a hF=>hKK _ _ (RS.of2 (l:=[ld bp0 4 (v2)]) (by kernel_rfl) ⟨hS19.c 0,trivial⟩ ⟨hS21.c 0,trivial⟩) ?_ a hF
  refine go_alt3 (fun KK hKK=>?_) ?_
  ·refine ge_one2<|gw (some 19) (.cells #[vI (mach_Machine_do_4.f r2.1 r1.1)] 3) (fun b=>.slice (some ⟨b,0,none⟩) 1 1) hS21 fun b1 w4 hx1 hS22=>?_
   refine ge_nil fun a hF=>hKK _ _ (RS.of2 (l:=[ld bp0 4 (v2)]) (by kernel_rfl) ⟨hS21.c 0,trivial⟩ ⟨hS22.c 1,trivial⟩) ?_ a hF
   refine go_alt3 (fun KK hKK=>?_) ?_
   ·have hS23:=hS22.b 6
    by_cases hc1:r2.2.length<17592186044416
    ·rw [if_pos hc1] at h
     refine ge_append (α:=Int) (m:=0) (d:=20) (t:=37) (el:=3) (bytes:=8) (c1:=1) (b1:=b1) (x:=(.tmp 14)) (y:=(.tmp 19)) (ty:=37) (v:=v2) (z:=vI 0) (l:=r2.2) (u:=(mach_Machine_do_4.f r2.1 r1.1)) (by kernel_rfl) (by kernel_rfl) (by kernel_rfl) (by kernel_rfl) (by kernel_rfl) rfl hS23 rfl (by omega) fun v3 w5 hS24=>?_
     refine g2 hKK<|g30 [11,12] [(22,pP bp0 4),(21,pP bp0 0)]<|go_alt3 (fun KK hKK=>?_) ?_
     ·obtain ⟨Z2,cz2,rfl⟩:=hS24.open 0 rfl
      have hS25:=hS24.b 1
      refine gs bp0 4 #[(.slice Ap0_0 lp0_0.length cp0_0),(.slice Ap0_1 lp0_1.length cp0_1),(.slice Ap0_2 lp0_2.length cp0_2),(.slice Ap0_3 lp0_3.length cp0_3),v2,vI ((sp0_5[0]?).getD 0),vI ((sp0_5[1]?).getD 0),vI ((sp0_5[2]?).getD 0),vI ((sp0_5[3]?).getD 0),vI ((sp0_5[4]?).getD 0),vI ((sp0_5[5]?).getD 0),vI ((sp0_5[6]?).getD 0),vI ((sp0_5[7]?).getD 0),vI sp0_13,vI sp0_14] 86 [(.slice Z2 (r2.2++[(mach_Machine_do_4.f r2.1 r1.1)]).length cz2)] hS25 fun w6 hS26=>?_
      have hS27:=hS26.nc #[(.slice Ap0_0 lp0_0.length cp0_0),(.slice Ap0_1 lp0_1.length cp0_1),(.slice Ap0_2 lp0_2.length cp0_2),(.slice Ap0_3 lp0_3.length cp0_3),(.slice Z2 (r2.2++[(mach_Machine_do_4.f r2.1 r1.1)]).length cz2),vI ((sp0_5[0]?).getD 0),vI ((sp0_5[1]?).getD 0),vI ((sp0_5[2]?).getD 0),vI ((sp0_5[3]?).getD 0),vI ((sp0_5[4]?).getD 0),vI ((sp0_5[5]?).getD 0),vI ((sp0_5[6]?).getD 0),vI ((sp0_5[7]?).getD 0),vI sp0_13,vI sp0_14] rfl
      refine g2 hKK ?_
      have hS34:=((((((hS27.b 6).b 2).b 6).b 6).b 6).b 6).b 6
      obtain rfl:=si h
      exact go_fin3 (pe0 [] [] ⟨(.slice Z2 (r2.2++[(mach_Machine_do_4.f r2.1 r1.1)]).length cz2),rfl,hS34⟩)
     exact go_nomore3
    rw [if_neg hc1] at h
    cases h
   exact go_nomore3
  exact go_nomore3
 exact go_nomore3

/-! (*punctual/mach.Machine).do$5 -/
abbrev mach_Machine_do_5.Post (w0:World) (r:Int) (e:Ending) (w:World):Prop:=e=.returned (vI r)∧St w0 w []
def mach_Machine_do_5.f (x0 : Int) (x1 : Int) : Int :=
 (mach_truth.f (x0==x1))
theorem mach_Machine_do_5_ok (x0 x1:Int) (w0:World) (r:Int) (h:mach_Machine_do_5.f x0 x1=r) :
  Calls Tryd.prog 65 #[vI x0,vI x1] w0 (mach_Machine_do_5.Post w0 r):=by
 have hS:=St.start w0
 unfold mach_Machine_do_5.f at h
 refine calls_enter (n:=9) (args:=[vI x0,vI x1]) (fn:=Tryd.f65) rfl rfl rfl rfl ?_
 show WE _ _ _ _ [(0,vI x0),(1,vI x1)] _
 refine ws fun K1 hK1=>wr [(0,0)]<|gb0 [0] [(4,vI 0)]<|gn hK1<|ws fun K2 hK2=>wr [(0,0),(1,0),(2,0),(3,1),(4,0)]<|gb0 [0,1,2] [(7,.bool (x0==x1)),(6,vI x1),(5,vI x0)]<|ge_call (d:=some 8) (f:=64) (args:=#[.bool (x0==x1)]) (by kernel_rfl) (mach_truth_ok (x0==x1) _ _ rfl) ?_
 rintro _ w1 ⟨rfl,hS1⟩
 refine ⟨_,rfl,hS1.below,?_⟩
 have hS2:=hS.call hS1
 refine gb0 [4] [(4,vI (mach_truth.f (x0==x1)))]<|gn hK2 ?_
 subst h
 exact we_ret (pr0 [.tmp 4] [vI (mach_truth.f (x0==x1))] ⟨rfl,hS2⟩)

/-! (*punctual/mach.Machine).two -/
abbrev mach_Machine_two_4.Post (w0:World) (bp0:Nat) (lp0_0:List SIns) (Ap0_0:OA) (cp0_0:Nat) (lp0_1:List Int) (Ap0_1:OA) (cp0_1:Nat) (lp0_2:List Int) (Ap0_2:OA) (cp0_2:Nat) (lp0_3:List SPut) (Ap0_3:OA) (cp0_3:Nat) (lp0_4:List Int) (Ap0_4:OA) (cp0_4:Nat) (sp0_5:List Int) (sp0_13 sp0_14:Int) (LT:List Own) (r:List Int) (e:Ending) (w:World):Prop:=∃ (nbp0_4:Value),e=.returned (.tuple #[])∧St w0 w [bk bp0 #[(.slice Ap0_0 lp0_0.length cp0_0),(.slice Ap0_1 lp0_1.length cp0_1),(.slice Ap0_2 lp0_2.length cp0_2),(.slice Ap0_3 lp0_3.length cp0_3),nbp0_4,vI ((sp0_5[0]?).getD 0),vI ((sp0_5[1]?).getD 0),vI ((sp0_5[2]?).getD 0),vI ((sp0_5[3]?).getD 0),vI ((sp0_5[4]?).getD 0),vI ((sp0_5[5]?).getD 0),vI ((sp0_5[6]?).getD 0),vI ((sp0_5[7]?).getD 0),vI sp0_13,vI sp0_14] 86,ro Ap0_0 cp0_0 29 lp0_0,ro Ap0_1 cp0_1 3 lp0_1,ro Ap0_2 cp0_2 3 lp0_2,ro Ap0_3 cp0_3 101 lp0_3,Own.of nbp0_4 3 r,Own.all LT]
def mach_Machine_two_4.f (lp0_0 : List SIns) (lp0_1 : List Int) (lp0_2 : List Int) (lp0_3 : List SPut) (lp0_4 : List Int) (sp0_5 : List Int) (sp0_13 : Int) (sp0_14 : Int) : Option (List Int) :=
 match mach_Machine_pop.f lp0_0 lp0_1 lp0_2 lp0_3 lp0_4 sp0_5 sp0_13 sp0_14 with
 | none=>none
 | some r1 =>
  match mach_Machine_pop.f lp0_0 lp0_1 lp0_2 lp0_3 r1.2 sp0_5 sp0_13 sp0_14 with
  | none=>none
  | some r2 =>
   if r2.2.length<17592186044416 then
    some (r2.2++[(mach_Machine_do_5.f r2.1 r1.1)])
   else
    none
theorem mach_Machine_two_4_ok (bp0:Nat) (lp0_0:List SIns) (Ap0_0:OA) (cp0_0:Nat) (lp0_1:List Int) (Ap0_1:OA) (cp0_1:Nat) (lp0_2:List Int) (Ap0_2:OA) (cp0_2:Nat) (lp0_3:List SPut) (Ap0_3:OA) (cp0_3:Nat) (lp0_4:List Int) (Ap0_4:OA) (cp0_4:Nat) (sp0_5:List Int) (sp0_13 sp0_14:Int) (w0 wE:World) (LT:List Own) (hS:St w0 wE [bk bp0 #[(.slice Ap0_0 lp0_0.length cp0_0),(.slice Ap0_1 lp0_1.length cp0_1),(.slice Ap0_2 lp0_2.length cp0_2),(.slice Ap0_3 lp0_3.length cp0_3),(.slice Ap0_4 lp0_4.length cp0_4),vI ((sp0_5[0]?).getD 0),vI ((sp0_5[1]?).getD 0),vI ((sp0_5[2]?).getD 0),vI ((sp0_5[3]?).getD 0),vI ((sp0_5[4]?).getD 0),vI ((sp0_5[5]?).getD 0),vI ((sp0_5[6]?).getD 0),vI ((sp0_5[7]?).getD 0),vI sp0_13,vI sp0_14] 86,ro Ap0_0 cp0_0 29 lp0_0,ro Ap0_1 cp0_1 3 lp0_1,ro Ap0_2 cp0_2 3 lp0_2,ro Ap0_3 cp0_3 101 lp0_3,ro Ap0_4 cp0_4 3 lp0_4,Own.all LT]) (r:List Int) (h:mach_Machine_two_4.f lp0_0 lp0_1 lp0_2 lp0_3 lp0_4 sp0_5 sp0_13 sp0_14=some r) :
  Calls Tryd.prog 59 #[pP bp0 0,.func (.func 65) #[] #[]] wE (mach_Machine_two_4.Post w0 bp0 lp0_0 Ap0_0 cp0_0 lp0_1 Ap0_1 cp0_1 lp0_2 Ap0_2 cp0_2 lp0_3 Ap0_3 cp0_3 lp0_4 Ap0_4 cp0_4 sp0_5 sp0_13 sp0_14 LT r):=by
 unfold mach_Machine_two_4.f at h
 refine calls_enter (n:=23) (args:=[pP bp0 0,.func (.func 65) #[] #[]]) (fn:=Tryd.f59) rfl rfl rfl rfl ?_
 show WE _ _ _ _ [(0,pP bp0 0),(1,.func (.func 65) #[] #[])] _
 refine ws fun K1 hK1=>wr [(0,0),(1,2),(2,0)]<|gb0 [0] [(6,pP bp0 0)] ?_
 rcases hq1:mach_Machine_pop.f lp0_0 lp0_1 lp0_2 lp0_3 lp0_4 sp0_5 sp0_13 sp0_14 with _ | r1
 ·rw [hq1] at h; cases h
 rw [hq1] at h
 simp only [] at h
 have hS8:=((((((hS.b 5).b 5).b 5).b 5).b 5).b 5).packN 6
 refine ge_call2 (m:=0) (d:=some 7) (f:=58) (args:=#[pP bp0 0]) (by kernel_rfl) (mach_Machine_pop_ok bp0 lp0_0 Ap0_0 cp0_0 lp0_1 Ap0_1 cp0_1 lp0_2 Ap0_2 cp0_2 lp0_3 Ap0_3 cp0_3 lp0_4 Ap0_4 cp0_4 sp0_5 sp0_13 sp0_14 _ _ _ hS8 _ hq1) ?_
 rintro _ w1 ⟨v1,rfl,hS7⟩
 refine ⟨_,rfl,?_⟩
 have hS9:=hS7.unpack [bk bp0 #[(.slice Ap0_0 lp0_0.length cp0_0),(.slice Ap0_1 lp0_1.length cp0_1),(.slice Ap0_2 lp0_2.length cp0_2),(.slice Ap0_3 lp0_3.length cp0_3),v1,vI ((sp0_5[0]?).getD 0),vI ((sp0_5[1]?).getD 0),vI ((sp0_5[2]?).getD 0),vI ((sp0_5[3]?).getD 0),vI ((sp0_5[4]?).getD 0),vI ((sp0_5[5]?).getD 0),vI ((sp0_5[6]?).getD 0),vI ((sp0_5[7]?).getD 0),vI sp0_13,vI sp0_14] 86,ro Ap0_0 cp0_0 29 lp0_0,ro Ap0_1 cp0_1 3 lp0_1,ro Ap0_2 cp0_2 3 lp0_2,ro Ap0_3 cp0_3 101 lp0_3,Own.of v1 3 r1.2]
 refine gb0 [2] [(4,vI r1.1)]<|gn hK1<|ws fun K2 hK2=>wr [(0,0),(1,2),(2,0)]<|gb0 [0] [(8,pP bp0 0)] ?_
 obtain ⟨Z1,cz1,rfl⟩:=hS9.open 5 rfl
 rcases hq2:mach_Machine_pop.f lp0_0 lp0_1 lp0_2 lp0_3 r1.2 sp0_5 sp0_13 sp0_14 with _ | r2
 ·rw [hq2] at h; cases h
 rw [hq2] at h
 simp only [] at h
 have hS17:=((((((hS9.b 5).b 5).b 5).b 5).b 5).b 5).packN 6
 refine ge_call2 (m:=0) (d:=some 9) (f:=58) (args:=#[pP bp0 0]) (by kernel_rfl) (mach_Machine_pop_ok bp0 lp0_0 Ap0_0 cp0_0 lp0_1 Ap0_1 cp0_1 lp0_2 Ap0_2 cp0_2 lp0_3 Ap0_3 cp0_3 r1.2 Z1 cz1 sp0_5 sp0_13 sp0_14 _ _ _ hS17 _ hq2) ?_
 rintro _ w2 ⟨v2,rfl,hS16⟩
 refine ⟨_,rfl,?_⟩
 have hS18:=hS16.unpack [bk bp0 #[(.slice Ap0_0 lp0_0.length cp0_0),(.slice Ap0_1 lp0_1.length cp0_1),(.slice Ap0_2 lp0_2.length cp0_2),(.slice Ap0_3 lp0_3.length cp0_3),v2,vI ((sp0_5[0]?).getD 0),vI ((sp0_5[1]?).getD 0),vI ((sp0_5[2]?).getD 0),vI ((sp0_5[3]?).getD 0),vI ((sp0_5[4]?).getD 0),vI ((sp0_5[5]?).getD 0),vI ((sp0_5[6]?).getD 0),vI ((sp0_5[7]?).getD 0),vI sp0_13,vI sp0_14] 86,ro Ap0_0 cp0_0 29 lp0_0,ro Ap0_1 cp0_1 3 lp0_1,ro Ap0_2 cp0_2 3 lp0_2,ro Ap0_3 cp0_3 101 lp0_3,Own.of v2 3 r2.2]
 refine gb0 [2] [(5,vI r2.1)]<|gn hK2<|we_orders3 (by kernel_rfl) [(4,[⟨bp0,4,none⟩],[],[])] (.vals [0] (.vals [1] (.vals [2] (.vals [3] (.vals [4] (.vals [5] (.vals [6] (.vals [7] (.alt 8 1 (.alt 9 1 (.alt 10 2 (.vals [11] (.vals [12] (.alt 13 2 .fin .nomore))) .nomore) .nomore) .nomore))))))))) (by kernel_rfl) (by kernel_rfl) ?_
 have hS19:=hS18.drew
 refine g30 [0,1,2,3] [(13,pP bp0 4),(12,pP bp0 0),(11,pP bp0 0),(10,pP bp0 0)]<|g3 4 [(14,v2)] [ld bp0 4 (v2)] ⟨hS19.c 0,trivial⟩<|g30 [5,6,7] [(17,vI r1.1),(16,vI r2.1),(15,.func (.func 65) #[] #[])]<|go_alt3 (fun KK hKK=>?_) ?_
 ·refine ge_one2<|ge_call (d:=some 18) (f:=65) (args:=#[vI r2.1,vI r1.1]) (by kernel_rfl) (mach_Machine_do_5_ok r2.1 r1.1 _ _ rfl) ?_
  rintro _ w3 ⟨rfl,hS20⟩
  refine ⟨_,rfl,hS20.below,?_⟩
  have hS21:=hS19.call hS20
  refine ge_nil fun a hF=>hKK _ _ (RS.of2 (l:=[ld bp0 4 (v2)]) (by kernel_rfl) ⟨hS19.c 0,trivial⟩ ⟨hS21.c 0,trivial⟩) ?_ a hF
  refine go_alt3 (fun KK hKK=>?_) ?_
  ·refine ge_one2<|gw (some 19) (.cells #[vI (mach_Machine_do_5.f r2.1 r1.1)] 3) (fun b=>.slice (some ⟨b,0,none⟩) 1 1) hS21 fun b1 w4 hx1 hS22=>?_
   refine ge_nil fun a hF=>hKK _ _ (RS.of2 (l:=[ld bp0 4 (v2)]) (by kernel_rfl) ⟨hS21.c 0,trivial⟩ ⟨hS22.c 1,trivial⟩) ?_ a hF
   refine go_alt3 (fun KK hKK=>?_) ?_
   ·have hS23:=hS22.b 6
    by_cases hc1:r2.2.length<17592186044416
    ·rw [if_pos hc1] at h
     refine ge_append (α:=Int) (m:=0) (d:=20) (t:=37) (el:=3) (bytes:=8) (c1:=1) (b1:=b1) (x:=(.tmp 14)) (y:=(.tmp 19)) (ty:=37) (v:=v2) (z:=vI 0) (l:=r2.2) (u:=(mach_Machine_do_5.f r2.1 r1.1)) (by kernel_rfl) (by kernel_rfl) (by kernel_rfl) (by kernel_rfl) (by kernel_rfl) rfl hS23 rfl (by omega) fun v3 w5 hS24=>?_
     refine g2 hKK<|g30 [11,12] [(22,pP bp0 4),(21,pP bp0 0)]<|go_alt3 (fun KK hKK=>?_) ?_
     ·obtain ⟨Z2,cz2,rfl⟩:=hS24.open 0 rfl
      have hS25:=hS24.b 1
      refine gs bp0 4 #[(.slice Ap0_0 lp0_0.length cp0_0),(.slice Ap0_1 lp0_1.length cp0_1),(.slice Ap0_2 lp0_2.length cp0_2),(.slice Ap0_3 lp0_3.length cp0_3),v2,vI ((sp0_5[0]?).getD 0),vI ((sp0_5[1]?).getD 0),vI ((sp0_5[2]?).getD 0),vI ((sp0_5[3]?).getD 0),vI ((sp0_5[4]?).getD 0),vI ((sp0_5[5]?).getD 0),vI ((sp0_5[6]?).getD 0),vI ((sp0_5[7]?).getD 0),vI sp0_13,vI sp0_14] 86 [(.slice Z2 (r2.2++[(mach_Machine_do_5.f r2.1 r1.1)]).length cz2)] hS25 fun w6 hS26=>?_
      have hS27:=hS26.nc #[(.slice Ap0_0 lp0_0.length cp0_0),(.slice Ap0_1 lp0_1.length cp0_1),(.slice Ap0_2 lp0_2.length cp0_2),(.slice Ap0_3 lp0_3.length cp0_3),(.slice Z2 (r2.2++[(mach_Machine_do_5.f r2.1 r1.1)]).length cz2),vI ((sp0_5[0]?).getD 0),vI ((sp0_5[1]?).getD 0),vI ((sp0_5[2]?).getD 0),vI ((sp0_5[3]?).getD 0),vI ((sp0_5[4]?).getD 0),vI ((sp0_5[5]?).getD 0),vI ((sp0_5[6]?).getD 0),vI ((sp0_5[7]?).getD 0),vI sp0_13,vI sp0_14] rfl
      refine g2 hKK ?_
      have hS34:=((((((hS27.b 6).b 2).b 6).b 6).b 6).b 6).b 6
      obtain rfl:=si h
      exact go_fin3 (pe0 [] [] ⟨(.slice Z2 (r2.2++[(mach_Machine_do_5.f r2.1 r1.1)]).length cz2),rfl,hS34⟩)
     exact go_nomore3
    rw [if_neg hc1] at h
    cases h
   exact go_nomore3
  exact go_nomore3
 exact go_nomore3

/-! (*punctual/mach.Machine).do -/
abbrev mach_Machine_do.Post (w0:World) (bp0:Nat) (lp0_0:List SIns) (Ap0_0:OA) (cp0_0:Nat) (lp0_1:List Int) (Ap0_1:OA) (cp0_1:Nat) (lp0_2:List Int) (Ap0_2:OA) (cp0_2:Nat) (lp0_3:List SPut) (Ap0_3:OA) (cp0_3:Nat) (lp0_4:List Int) (Ap0_4:OA) (cp0_4:Nat) (sp0_5:List Int) (sp0_13 sp0_14:Int) (x1:SIns) (LT:List Own) (r:Int×(List Int)×(List SPut)×(List Int)×(List Int)) (e:Ending) (w:World):Prop:=∃ (nbp0_2:Value) (nbp0_3:Value) (nbp0_4:Value),e=.returned (vI r.1)∧St w0 w [bk bp0 #[(.slice Ap0_0 lp0_0.length cp0_0),(.slice Ap0_1 lp0_1.length cp0_1),nbp0_2,nbp0_3,nbp0_4,vI ((r.2.2.2.2[0]?).getD 0),vI ((r.2.2.2.2[1]?).getD 0),vI ((r.2.2.2.2[2]?).getD 0),vI ((r.2.2.2.2[3]?).getD 0),vI ((r.2.2.2.2[4]?).getD 0),vI ((r.2.2.2.2[5]?).getD 0),vI ((r.2.2.2.2[6]?).getD 0),vI ((r.2.2.2.2[7]?).getD 0),vI sp0_13,vI sp0_14] 86,ro Ap0_0 cp0_0 29 lp0_0,ro Ap0_1 cp0_1 3 lp0_1,Own.of nbp0_2 3 r.2.1,Own.of nbp0_3 101 r.2.2.1,Own.of nbp0_4 3 r.2.2.2.1,Own.all LT]
def mach_Machine_do.f (lp0_0 : List SIns) (lp0_1 : List Int) (lp0_2 : List Int) (lp0_3 : List SPut) (lp0_4 : List Int) (sp0_5 : List Int) (sp0_13 : Int) (sp0_14 : Int) (x1 : SIns) : Option (Int × (List Int) × (List SPut) × (List Int) × (List Int)) :=
 if x1.Op=1 then
  if lp0_4.length<17592186044416 then
   some (IntKind.i64.wrap (sp0_13+1),lp0_2,lp0_3,(lp0_4++[x1.A]),sp0_5)
  else
   none
 else
  if x1.Op=2 then
   if 0≤x1.A then
    match lp0_2[(x1.A).toNat]? with
    | none=>none
    | some e1 =>
     if lp0_4.length<17592186044416 then
      some (IntKind.i64.wrap (sp0_13+1),lp0_2,lp0_3,(lp0_4++[e1]),sp0_5)
     else
      none
   else
    none
  else
   if x1.Op=3 then
    match mach_Machine_pop.f lp0_0 lp0_1 lp0_2 lp0_3 lp0_4 sp0_5 sp0_13 sp0_14 with
    | none=>none
    | some r1 =>
     if 0≤x1.A then
      match lp0_2[(x1.A).toNat]? with
      | none=>none
      | some e2 =>
       some (IntKind.i64.wrap (sp0_13+1),(lp0_2.set ((x1.A).toNat) r1.1),lp0_3,r1.2,sp0_5)
     else
      none
   else
    if x1.Op=4 then
     match mach_Machine_two.f lp0_0 lp0_1 lp0_2 lp0_3 lp0_4 sp0_5 sp0_13 sp0_14 with
     | none=>none
     | some r2 =>
      some (IntKind.i64.wrap (sp0_13+1),lp0_2,lp0_3,r2,sp0_5)
    else
     if x1.Op=5 then
      match mach_Machine_two_1.f lp0_0 lp0_1 lp0_2 lp0_3 lp0_4 sp0_5 sp0_13 sp0_14 with
      | none=>none
      | some r3 =>
       some (IntKind.i64.wrap (sp0_13+1),lp0_2,lp0_3,r3,sp0_5)
     else
      if x1.Op=6 then
       match mach_Machine_two_2.f lp0_0 lp0_1 lp0_2 lp0_3 lp0_4 sp0_5 sp0_13 sp0_14 with
       | none=>none
       | some r4 =>
        some (IntKind.i64.wrap (sp0_13+1),lp0_2,lp0_3,r4,sp0_5)
      else
       if x1.Op=7 then
        match mach_Machine_two_3.f lp0_0 lp0_1 lp0_2 lp0_3 lp0_4 sp0_5 sp0_13 sp0_14 with
        | none=>none
        | some r5 =>
         some (IntKind.i64.wrap (sp0_13+1),lp0_2,lp0_3,r5,sp0_5)
       else
        if x1.Op=8 then
         match mach_Machine_two_4.f lp0_0 lp0_1 lp0_2 lp0_3 lp0_4 sp0_5 sp0_13 sp0_14 with
         | none=>none
         | some r6 =>
          some (IntKind.i64.wrap (sp0_13+1),lp0_2,lp0_3,r6,sp0_5)
        else
         if x1.Op=9 then
          if 0≤x1.A then
           match lp0_1[(x1.A).toNat]? with
           | none=>none
           | some e3 =>
            if lp0_4.length<17592186044416 then
             some (IntKind.i64.wrap (sp0_13+1),lp0_2,lp0_3,(lp0_4++[e3]),sp0_5)
            else
             none
          else
           none
         else
          if x1.Op=10 then
           match mach_Machine_pop.f lp0_0 lp0_1 lp0_2 lp0_3 lp0_4 sp0_5 sp0_13 sp0_14 with
           | none=>none
           | some r7 =>
            if lp0_3.length<8796093022208 then
             some (IntKind.i64.wrap (sp0_13+1),lp0_2,(lp0_3++[(⟨x1.A,r7.1⟩:SPut)]),r7.2,sp0_5)
            else
             none
          else
           if x1.Op=11 then
            some (x1.A,lp0_2,lp0_3,lp0_4,sp0_5)
           else
            if x1.Op=12 then
             match mach_Machine_pop.f lp0_0 lp0_1 lp0_2 lp0_3 lp0_4 sp0_5 sp0_13 sp0_14 with
             | none=>none
             | some r8 =>
              if r8.1=0 then
               some (x1.A,lp0_2,lp0_3,r8.2,sp0_5)
              else
               some (IntKind.i64.wrap (sp0_13+1),lp0_2,lp0_3,r8.2,sp0_5)
            else
             if x1.Op=13 then
              if 0≤x1.A then
               match (arrN 8 sp0_5)[(x1.A).toNat]? with
               | none=>none
               | some e4 =>
                some (IntKind.i64.wrap (sp0_13+1),lp0_2,lp0_3,lp0_4,((arrN 8 sp0_5).set ((x1.A).toNat) x1.B))
              else
               none
             else
              if x1.Op=14 then
               if 0≤x1.A then
                match (arrN 8 sp0_5)[(x1.A).toNat]? with
                | none=>none
                | some e5 =>
                 if e5 > 0 then
                  some (x1.B,lp0_2,lp0_3,lp0_4,((arrN 8 sp0_5).set ((x1.A).toNat) (IntKind.i64.wrap (e5-1))))
                 else
                  some (IntKind.i64.wrap (sp0_13+1),lp0_2,lp0_3,lp0_4,sp0_5)
               else
                none
              else
               if x1.Op=15 then
                if 0≤x1.A then
                 match (arrN 8 sp0_5)[(x1.A).toNat]? with
                 | none=>none
                 | some e6 =>
                  some (IntKind.i64.wrap (sp0_13+1),lp0_2,lp0_3,lp0_4,((arrN 8 sp0_5).set ((x1.A).toNat) 0))
                else
                 none
               else
                some (IntKind.i64.wrap (sp0_13+1),lp0_2,lp0_3,lp0_4,sp0_5)
theorem mach_Machine_do_ok (bp0:Nat) (lp0_0:List SIns) (Ap0_0:OA) (cp0_0:Nat) (lp0_1:List Int) (Ap0_1:OA) (cp0_1:Nat) (lp0_2:List Int) (Ap0_2:OA) (cp0_2:Nat) (lp0_3:List SPut) (Ap0_3:OA) (cp0_3:Nat) (lp0_4:List Int) (Ap0_4:OA) (cp0_4:Nat) (sp0_5:List Int) (sp0_13 sp0_14:Int) (x1:SIns) (w0 wE:World) (LT:List Own) (hS:St w0 wE [bk bp0 #[(.slice Ap0_0 lp0_0.length cp0_0),(.slice Ap0_1 lp0_1.length cp0_1),(.slice Ap0_2 lp0_2.length cp0_2),(.slice Ap0_3 lp0_3.length cp0_3),(.slice Ap0_4 lp0_4.length cp0_4),vI ((sp0_5[0]?).getD 0),vI ((sp0_5[1]?).getD 0),vI ((sp0_5[2]?).getD 0),vI ((sp0_5[3]?).getD 0),vI ((sp0_5[4]?).getD 0),vI ((sp0_5[5]?).getD 0),vI ((sp0_5[6]?).getD 0),vI ((sp0_5[7]?).getD 0),vI sp0_13,vI sp0_14] 86,ro Ap0_0 cp0_0 29 lp0_0,ro Ap0_1 cp0_1 3 lp0_1,ro Ap0_2 cp0_2 3 lp0_2,ro Ap0_3 cp0_3 101 lp0_3,ro Ap0_4 cp0_4 3 lp0_4,Own.all LT]) (r:Int×(List Int)×(List SPut)×(List Int)×(List Int)) (h:mach_Machine_do.f lp0_0 lp0_1 lp0_2 lp0_3 lp0_4 sp0_5 sp0_13 sp0_14 x1=some r) :
  Calls Tryd.prog 44 #[pP bp0 0,.agg #[vI x1.Op,vI x1.A,vI x1.B]] wE (mach_Machine_do.Post w0 bp0 lp0_0 Ap0_0 cp0_0 lp0_1 Ap0_1 cp0_1 lp0_2 Ap0_2 cp0_2 lp0_3 Ap0_3 cp0_3 lp0_4 Ap0_4 cp0_4 sp0_5 sp0_13 sp0_14 x1 LT r):=by
 unfold mach_Machine_do.f at h
 refine calls_enter (n:=162) (args:=[pP bp0 0,.agg #[vI x1.Op,vI x1.A,vI x1.B]]) (fn:=Tryd.f44) rfl rfl rfl rfl ?_
 show WE _ _ _ _ [(0,pP bp0 0),(1,.agg #[vI x1.Op,vI x1.A,vI x1.B])] _
 refine ws fun K1 hK1=>wr [(0,1),(1,0)]<|gw (some 3) (.cells #[vI x1.Op,vI x1.A,vI x1.B] 29) (fun b=>pP b 0) hS fun b1 w1 hx1 hS1=>?_
 refine gb0 [1] [(4,vI 0)]<|gn hK1<|ws fun K2 hK2=>ws fun K3 hK3=>wr [(0,0),(1,0)]<|gb [0,1] [(6,vI x1.Op),(5,pP b1 0)] [ld b1 0 (vI x1.Op)] ⟨hS1.c 0,trivial⟩<|gn hK3<|we_block<|ws fun K4 hK4=>wr [(0,0),(1,0)]<|gb0 [0,1] [(7,.bool (x1.Op==1)),(8,.bool (x1.Op==1))]<|gn hK4 ?_
 by_cases hc1:x1.Op=1
 ·rw [if_pos hc1] at h
  refine wk 7 (x1.Op==1) true (beq_iff_eq.2 hc1)<|wt<|we_orders3 (by kernel_rfl) [(4,[⟨bp0,4,none⟩],[],[]),(6,[⟨b1,1,none⟩],[7,8],[])] (.vals [0] (.vals [1] (.vals [2] (.vals [3] (.vals [4] (.vals [5] (.vals [6] (.alt 7 1 (.alt 8 2 (.vals [9] (.vals [10] (.alt 11 2 .fin .nomore))) .nomore) .nomore)))))))) (by kernel_rfl) (by kernel_rfl) ?_
  have hS2:=hS1.drew
  refine g30 [0,1,2,3] [(12,pP bp0 4),(11,pP bp0 0),(10,pP bp0 0),(9,pP bp0 0)]<|g3 4 [(13,(.slice Ap0_4 lp0_4.length cp0_4))] [ld bp0 4 ((.slice Ap0_4 lp0_4.length cp0_4))] ⟨hS2.c 1,trivial⟩<|g30 [5] [(14,pP b1 1)]<|g3 6 [(15,vI x1.A)] [ld b1 1 (vI x1.A)] ⟨hS2.c 0,trivial⟩<|go_alt3 (fun KK hKK=>?_) ?_
  ·refine ge_one2<|gw (some 16) (.cells #[vI x1.A] 3) (fun b=>.slice (some ⟨b,0,none⟩) 1 1) hS2 fun b2 w2 hx2 hS3=>?_
   refine ge_nil fun a hF=>hKK _ _ (RS.of2 (l:=[ld bp0 4 ((.slice Ap0_4 lp0_4.length cp0_4))]) (by kernel_rfl) ⟨hS2.c 1,trivial⟩ ⟨hS3.c 2,trivial⟩) ?_ a hF
   refine go_alt3 (fun KK hKK=>?_) ?_
   ·have hS4:=hS3.b 7
    by_cases hc2:lp0_4.length<17592186044416
    ·rw [if_pos hc2] at h
     refine ge_append (α:=Int) (m:=0) (d:=17) (t:=37) (el:=3) (bytes:=8) (c1:=1) (b1:=b2) (x:=(.tmp 13)) (y:=(.tmp 16)) (ty:=37) (v:=(.slice Ap0_4 lp0_4.length cp0_4)) (z:=vI 0) (l:=lp0_4) (u:=x1.A) (by kernel_rfl) (by kernel_rfl) (by kernel_rfl) (by kernel_rfl) (by kernel_rfl) rfl hS4 rfl (by omega) fun v1 w3 hS5=>?_
     refine g2 hKK<|g30 [9,10] [(19,pP bp0 4),(18,pP bp0 0)]<|go_alt3 (fun KK hKK=>?_) ?_
     ·obtain ⟨Z1,cz1,rfl⟩:=hS5.open 0 rfl
      have hS6:=hS5.b 2
      refine gs bp0 4 #[(.slice Ap0_0 lp0_0.length cp0_0),(.slice Ap0_1 lp0_1.length cp0_1),(.slice Ap0_2 lp0_2.length cp0_2),(.slice Ap0_3 lp0_3.length cp0_3),(.slice Ap0_4 lp0_4.length cp0_4),vI ((sp0_5[0]?).getD 0),vI ((sp0_5[1]?).getD 0),vI ((sp0_5[2]?).getD 0),vI ((sp0_5[3]?).getD 0),vI ((sp0_5[4]?).getD 0),vI ((sp0_5[5]?).getD 0),vI ((sp0_5[6]?).getD 0),vI ((sp0_5[7]?).getD 0),vI sp0_13,vI sp0_14] 86 [(.slice Z1 (lp0_4++[x1.A]).length cz1)] hS6 fun w4 hS7=>?_
      have hS8:=hS7.nc #[(.slice Ap0_0 lp0_0.length cp0_0),(.slice Ap0_1 lp0_1.length cp0_1),(.slice Ap0_2 lp0_2.length cp0_2),(.slice Ap0_3 lp0_3.length cp0_3),(.slice Z1 (lp0_4++[x1.A]).length cz1),vI ((sp0_5[0]?).getD 0),vI ((sp0_5[1]?).getD 0),vI ((sp0_5[2]?).getD 0),vI ((sp0_5[3]?).getD 0),vI ((sp0_5[4]?).getD 0),vI ((sp0_5[5]?).getD 0),vI ((sp0_5[6]?).getD 0),vI ((sp0_5[7]?).getD 0),vI sp0_13,vI sp0_14] rfl
      refine g2 hKK<|go_fin3 fun a hF=>hK2 _ _ ?_ a hF
      refine ws fun K5 hK5=>wr [(0,0),(1,0),(2,0),(3,0),(4,0),(5,0)]<|gb [0,1,2,3,4,5] [(4,vI (IntKind.i64.wrap (sp0_13+1))),(161,vI (IntKind.i64.wrap (sp0_13+1))),(160,vI sp0_13),(159,pP bp0 13),(158,pP bp0 0),(157,pP bp0 0)] [ld bp0 13 (vI sp0_13)] ⟨hS8.c 0,trivial⟩<|gn hK5 ?_
      have hS16:=hS8.p [0,3,4,5,6,1,7] rfl
      obtain rfl:=si h
      exact we_ret (pr0 [.tmp 4] [vI (IntKind.i64.wrap (sp0_13+1))] ⟨(.slice Ap0_2 lp0_2.length cp0_2),(.slice Ap0_3 lp0_3.length cp0_3),(.slice Z1 (lp0_4++[x1.A]).length cz1),rfl,hS16⟩)
     exact go_nomore3
    rw [if_neg hc2] at h
    cases h
   exact go_nomore3
  exact go_nomore3
 rw [if_neg hc1] at h
 refine wk 7 (x1.Op==1) false (beq_eq_false_iff_ne.2 hc1)<|wf<|ws fun K6 hK6=>wr [(0,0),(1,0)]<|gb0 [0,1] [(20,.bool (x1.Op==2)),(21,.bool (x1.Op==2))]<|gn hK6 ?_
 by_cases hc3:x1.Op=2
 ·rw [if_pos hc3] at h
  refine wk 20 (x1.Op==2) true (beq_iff_eq.2 hc3)<|wt<|we_orders3 (by kernel_rfl) [(4,[⟨bp0,4,none⟩],[],[]),(8,[⟨bp0,2,none⟩],[11,12,13,14],[]),(10,[⟨b1,1,none⟩],[11,12,13,14],[]),(12,[⟨blkOf Ap0_2,offOf Ap0_2+((x1.A).toNat)*1,none⟩],[13,14],[])] (.vals [0] (.vals [1] (.vals [2] (.vals [3] (.vals [4] (.vals [5] (.vals [6] (.vals [7] (.vals [8] (.vals [9] (.vals [10] (.vals [11] (.vals [12] (.alt 13 1 (.alt 14 2 (.vals [15] (.vals [16] (.alt 17 2 .fin .nomore))) .nomore) .nomore)))))))))))))) (by kernel_rfl) (by kernel_rfl) ?_
  have hS17:=hS1.drew
  refine g30 [0,1,2,3] [(25,pP bp0 4),(24,pP bp0 0),(23,pP bp0 0),(22,pP bp0 0)]<|g3 4 [(26,(.slice Ap0_4 lp0_4.length cp0_4))] [ld bp0 4 ((.slice Ap0_4 lp0_4.length cp0_4))] ⟨hS17.c 1,trivial⟩<|g30 [5,6,7] [(29,pP bp0 2),(28,pP bp0 0),(27,pP bp0 0)]<|g3 8 [(30,(.slice Ap0_2 lp0_2.length cp0_2))] [ld bp0 2 ((.slice Ap0_2 lp0_2.length cp0_2))] ⟨hS17.c 1,trivial⟩<|g30 [9] [(31,pP b1 1)]<|g3 10 [(32,vI x1.A)] [ld b1 1 (vI x1.A)] ⟨hS17.c 0,trivial⟩ ?_
  by_cases hc4:0≤x1.A
  ·rw [if_pos hc4] at h
   rcases hx3:lp0_2[(x1.A).toNat]? with _ | e1
   ·rw [hx3] at h; cases h
   rw [hx3] at h
   simp only [] at h
   refine go3_index (d:=33) (ty:=0) (t:=37) (el:=3) (sz:=1) (m:=lp0_2.length) (c:=cp0_2) (x:=(.tmp 30)) (y:=(.tmp 32)) (A:=Ap0_2) (k':=.i64) (j:=x1.A) (jn:=((x1.A).toNat)) (b0:=blkOf Ap0_2) (o0:=offOf Ap0_2) (by kernel_rfl) (by kernel_rfl) (by kernel_rfl) (by kernel_rfl) (by kernel_rfl) ((hS17.rdAt 4 rfl).eqSome (pos_of_get hx3)) (Int.toNat_of_nonneg hc4).symm (lt_of_get hx3) ?_
   refine g3 12 [(34,vI e1)] [.loaded ⟨blkOf Ap0_2,offOf Ap0_2+((x1.A).toNat)*1,none⟩ (vI e1)] ⟨RdL.cell (j:=0) (hS17.rdAt 4 rfl) hx3 rfl,trivial⟩<|go_alt3 (fun KK hKK=>?_) ?_
   ·refine ge_one2<|gw (some 35) (.cells #[vI e1] 3) (fun b=>.slice (some ⟨b,0,none⟩) 1 1) hS17 fun b3 w5 hx4 hS18=>?_
    refine ge_nil fun a hF=>hKK _ _ (RS.of2 (l:=[ld bp0 4 ((.slice Ap0_4 lp0_4.length cp0_4))]) (by kernel_rfl) ⟨hS17.c 1,trivial⟩ ⟨hS18.c 2,trivial⟩) ?_ a hF
    refine go_alt3 (fun KK hKK=>?_) ?_
    ·have hS19:=hS18.b 7
     by_cases hc5:lp0_4.length<17592186044416
     ·rw [if_pos hc5] at h
      refine ge_append (α:=Int) (m:=0) (d:=36) (t:=37) (el:=3) (bytes:=8) (c1:=1) (b1:=b3) (x:=(.tmp 26)) (y:=(.tmp 35)) (ty:=37) (v:=(.slice Ap0_4 lp0_4.length cp0_4)) (z:=vI 0) (l:=lp0_4) (u:=e1) (by kernel_rfl) (by kernel_rfl) (by kernel_rfl) (by kernel_rfl) (by kernel_rfl) rfl hS19 rfl (by omega) fun v2 w6 hS20=>?_
      refine g2 hKK<|g30 [15,16] [(38,pP bp0 4),(37,pP bp0 0)]<|go_alt3 (fun KK hKK=>?_) ?_
      ·obtain ⟨Z2,cz2,rfl⟩:=hS20.open 0 rfl
       have hS21:=hS20.b 2
       refine gs bp0 4 #[(.slice Ap0_0 lp0_0.length cp0_0),(.slice Ap0_1 lp0_1.length cp0_1),(.slice Ap0_2 lp0_2.length cp0_2),(.slice Ap0_3 lp0_3.length cp0_3),(.slice Ap0_4 lp0_4.length cp0_4),vI ((sp0_5[0]?).getD 0),vI ((sp0_5[1]?).getD 0),vI ((sp0_5[2]?).getD 0),vI ((sp0_5[3]?).getD 0),vI ((sp0_5[4]?).getD 0),vI ((sp0_5[5]?).getD 0),vI ((sp0_5[6]?).getD 0),vI ((sp0_5[7]?).getD 0),vI sp0_13,vI sp0_14] 86 [(.slice Z2 (lp0_4++[e1]).length cz2)] hS21 fun w7 hS22=>?_
       have hS23:=hS22.nc #[(.slice Ap0_0 lp0_0.length cp0_0),(.slice Ap0_1 lp0_1.length cp0_1),(.slice Ap0_2 lp0_2.length cp0_2),(.slice Ap0_3 lp0_3.length cp0_3),(.slice Z2 (lp0_4++[e1]).length cz2),vI ((sp0_5[0]?).getD 0),vI ((sp0_5[1]?).getD 0),vI ((sp0_5[2]?).getD 0),vI ((sp0_5[3]?).getD 0),vI ((sp0_5[4]?).getD 0),vI ((sp0_5[5]?).getD 0),vI ((sp0_5[6]?).getD 0),vI ((sp0_5[7]?).getD 0),vI sp0_13,vI sp0_14] rfl
       refine g2 hKK<|go_fin3 fun a hF=>hK2 _ _ ?_ a hF
       refine ws fun K7 hK7=>wr [(0,0),(1,0),(2,0),(3,0),(4,0),(5,0)]<|gb [0,1,2,3,4,5] [(4,vI (IntKind.i64.wrap (sp0_13+1))),(161,vI (IntKind.i64.wrap (sp0_13+1))),(160,vI sp0_13),(159,pP bp0 13),(158,pP bp0 0),(157,pP bp0 0)] [ld bp0 13 (vI sp0_13)] ⟨hS23.c 0,trivial⟩<|gn hK7 ?_
       have hS31:=hS23.p [0,3,4,5,6,1,7] rfl
       obtain rfl:=si h
       exact we_ret (pr0 [.tmp 4] [vI (IntKind.i64.wrap (sp0_13+1))] ⟨(.slice Ap0_2 lp0_2.length cp0_2),(.slice Ap0_3 lp0_3.length cp0_3),(.slice Z2 (lp0_4++[e1]).length cz2),rfl,hS31⟩)
      exact go_nomore3
     rw [if_neg hc5] at h
     cases h
    exact go_nomore3
   exact go_nomore3
  rw [if_neg hc4] at h
  cases h
 rw [if_neg hc3] at h
 refine wk 20 (x1.Op==2) false (beq_eq_false_iff_ne.2 hc3)<|wf<|ws fun K8 hK8=>wr [(0,0),(1,0)]<|gb0 [0,1] [(39,.bool (x1.Op==3)),(40,.bool (x1.Op==3))]<|gn hK8 ?_
 by_cases hc6:x1.Op=3
 ·rw [if_pos hc6] at h
  refine wk 39 (x1.Op==3) true (beq_iff_eq.2 hc6)<|wt<|we_orders3 (by kernel_rfl) [(3,[⟨bp0,2,none⟩],[],[]),(5,[⟨b1,1,none⟩],[],[])] (.vals [0] (.vals [1] (.vals [2] (.vals [3] (.vals [4] (.vals [5] (.vals [6] (.alt 7 2 (.vals [8] (.alt 9 2 .fin .nomore)) .nomore)))))))) (by kernel_rfl) (by kernel_rfl) ?_
  have hS32:=hS1.drew
  refine g30 [0,1,2] [(43,pP bp0 2),(42,pP bp0 0),(41,pP bp0 0)]<|g3 3 [(44,(.slice Ap0_2 lp0_2.length cp0_2))] [ld bp0 2 ((.slice Ap0_2 lp0_2.length cp0_2))] ⟨hS32.c 1,trivial⟩<|g30 [4] [(45,pP b1 1)]<|g3 5 [(46,vI x1.A)] [ld b1 1 (vI x1.A)] ⟨hS32.c 0,trivial⟩<|g30 [6] [(47,pP bp0 0)]<|go_alt3 (fun KK hKK=>?_) ?_
  ·rcases hq1:mach_Machine_pop.f lp0_0 lp0_1 lp0_2 lp0_3 lp0_4 sp0_5 sp0_13 sp0_14 with _ | r1
   ·rw [hq1] at h; cases h
   rw [hq1] at h
   simp only [] at h
   have hS40:=((((((hS32.b 6).b 6).b 6).b 6).b 6).b 6).packN 6
   refine ge_call2 (m:=0) (d:=some 48) (f:=58) (args:=#[pP bp0 0]) (by kernel_rfl) (mach_Machine_pop_ok bp0 lp0_0 Ap0_0 cp0_0 lp0_1 Ap0_1 cp0_1 lp0_2 Ap0_2 cp0_2 lp0_3 Ap0_3 cp0_3 lp0_4 Ap0_4 cp0_4 sp0_5 sp0_13 sp0_14 _ _ _ hS40 _ hq1) ?_
   rintro _ w8 ⟨v3,rfl,hS39⟩
   refine ⟨_,rfl,?_⟩
   have hS41:=hS39.unpack [bk bp0 #[(.slice Ap0_0 lp0_0.length cp0_0),(.slice Ap0_1 lp0_1.length cp0_1),(.slice Ap0_2 lp0_2.length cp0_2),(.slice Ap0_3 lp0_3.length cp0_3),v3,vI ((sp0_5[0]?).getD 0),vI ((sp0_5[1]?).getD 0),vI ((sp0_5[2]?).getD 0),vI ((sp0_5[3]?).getD 0),vI ((sp0_5[4]?).getD 0),vI ((sp0_5[5]?).getD 0),vI ((sp0_5[6]?).getD 0),vI ((sp0_5[7]?).getD 0),vI sp0_13,vI sp0_14] 86,ro Ap0_0 cp0_0 29 lp0_0,ro Ap0_1 cp0_1 3 lp0_1,ro Ap0_2 cp0_2 3 lp0_2,ro Ap0_3 cp0_3 101 lp0_3,Own.of v3 3 r1.2]
   refine ge_nil fun a hF=>hKK _ _ (RS.of2 (l:=[ld bp0 2 ((.slice Ap0_2 lp0_2.length cp0_2)),ld b1 1 (vI x1.A)]) (by kernel_rfl) ⟨hS32.c 1,hS32.c 0,trivial⟩ ⟨hS41.c 0,hS41.c 6,trivial⟩) ?_ a hF
   by_cases hc7:0≤x1.A
   ·rw [if_pos hc7] at h
    rcases hx5:lp0_2[(x1.A).toNat]? with _ | e2
    ·rw [hx5] at h; cases h
    rw [hx5] at h
    simp only [] at h
    refine go3_index (d:=49) (ty:=0) (t:=37) (el:=3) (sz:=1) (m:=lp0_2.length) (c:=cp0_2) (x:=(.tmp 44)) (y:=(.tmp 46)) (A:=Ap0_2) (k':=.i64) (j:=x1.A) (jn:=((x1.A).toNat)) (b0:=blkOf Ap0_2) (o0:=offOf Ap0_2) (by kernel_rfl) (by kernel_rfl) (by kernel_rfl) (by kernel_rfl) (by kernel_rfl) ((hS41.rdAt 3 rfl).eqSome (pos_of_get hx5)) (Int.toNat_of_nonneg hc7).symm (lt_of_get hx5) ?_
    refine go_alt3 (fun KK hKK=>?_) ?_
    ·have hS42:=hS41.b 3
     refine ge_seti (α:=Int) (A:=Ap0_2) (nn:=lp0_2.length) (c:=cp0_2) (t:=3) (l:=lp0_2) (x:=e2) (x':=r1.1) (jn:=((x1.A).toNat)) (j:=0) (vs:=[vI r1.1]) (l':=[.stored ⟨blkOf Ap0_2,offOf Ap0_2+((x1.A).toNat)*1,none⟩ (vI r1.1)]) hS42 (by kernel_rfl) (by kernel_rfl) hx5 rfl rfl rfl fun w9 hS43=>?_
     have hS44:St w0 w9 [Own.of (.slice Ap0_2 lp0_2.length cp0_2) 3 (lp0_2.set ((x1.A).toNat) r1.1),bk bp0 #[(.slice Ap0_0 lp0_0.length cp0_0),(.slice Ap0_1 lp0_1.length cp0_1),(.slice Ap0_2 lp0_2.length cp0_2),(.slice Ap0_3 lp0_3.length cp0_3),v3,vI ((sp0_5[0]?).getD 0),vI ((sp0_5[1]?).getD 0),vI ((sp0_5[2]?).getD 0),vI ((sp0_5[3]?).getD 0),vI ((sp0_5[4]?).getD 0),vI ((sp0_5[5]?).getD 0),vI ((sp0_5[6]?).getD 0),vI ((sp0_5[7]?).getD 0),vI sp0_13,vI sp0_14] 86,ro Ap0_0 cp0_0 29 lp0_0,ro Ap0_1 cp0_1 3 lp0_1,ro Ap0_3 cp0_3 101 lp0_3,Own.of v3 3 r1.2,bk b1 #[vI x1.Op,vI x1.A,vI x1.B] 29,Own.all LT]:=hS43
     have hE1:lp0_2.length=(lp0_2.set ((x1.A).toNat) r1.1).length:=hS44.lenAt 0 rfl
     have hS45:St w0 w9 [Own.of (.slice Ap0_2 (lp0_2.set ((x1.A).toNat) r1.1).length cp0_2) 3 (lp0_2.set ((x1.A).toNat) r1.1),Own.blk bp0 (.cells #[(.slice Ap0_0 lp0_0.length cp0_0),(.slice Ap0_1 lp0_1.length cp0_1),(.slice Ap0_2 (lp0_2.set ((x1.A).toNat) r1.1).length cp0_2),(.slice Ap0_3 lp0_3.length cp0_3),v3,vI ((sp0_5[0]?).getD 0),vI ((sp0_5[1]?).getD 0),vI ((sp0_5[2]?).getD 0),vI ((sp0_5[3]?).getD 0),vI ((sp0_5[4]?).getD 0),vI ((sp0_5[5]?).getD 0),vI ((sp0_5[6]?).getD 0),vI ((sp0_5[7]?).getD 0),vI sp0_13,vI sp0_14] 86 (0,0)),Own.of (.slice Ap0_0 lp0_0.length cp0_0) 29 lp0_0,Own.of (.slice Ap0_1 lp0_1.length cp0_1) 3 lp0_1,Own.of (.slice Ap0_3 lp0_3.length cp0_3) 101 lp0_3,Own.of v3 3 r1.2,Own.blk b1 (.cells #[vI x1.Op,vI x1.A,vI x1.B] 29 (0,0)),Own.all LT]:=by rw [← hE1]; exact hS44
     refine ge_same (t:=44) (v:=(.slice Ap0_2 lp0_2.length cp0_2)) (v':=(.slice Ap0_2 (lp0_2.set ((x1.A).toNat) r1.1).length cp0_2)) (by kernel_rfl) (by rw [hE1]) ?_
     refine g2 hKK<|go_fin3 fun a hF=>hK2 _ _ ?_ a hF
     refine ws fun K9 hK9=>wr [(0,0),(1,0),(2,0),(3,0),(4,0),(5,0)]<|gb [0,1,2,3,4,5] [(4,vI (IntKind.i64.wrap (sp0_13+1))),(161,vI (IntKind.i64.wrap (sp0_13+1))),(160,vI sp0_13),(159,pP bp0 13),(158,pP bp0 0),(157,pP bp0 0)] [ld bp0 13 (vI sp0_13)] ⟨hS45.c 1,trivial⟩<|gn hK9 ?_
     have hS53:=hS45.p [1,2,3,0,4,5,7] rfl
     obtain rfl:=si h
     exact we_ret (pr0 [.tmp 4] [vI (IntKind.i64.wrap (sp0_13+1))] ⟨(.slice Ap0_2 (lp0_2.set ((x1.A).toNat) r1.1).length cp0_2),(.slice Ap0_3 lp0_3.length cp0_3),v3,rfl,hS53⟩)
    exact go_nomore3
   rw [if_neg hc7] at h
   cases h
  exact go_nomore3
 rw [if_neg hc6] at h
 refine wk 39 (x1.Op==3) false (beq_eq_false_iff_ne.2 hc6)<|wf<|ws fun K10 hK10=>wr [(0,0),(1,0)]<|gb0 [0,1] [(50,.bool (x1.Op==4)),(51,.bool (x1.Op==4))]<|gn hK10 ?_
 by_cases hc8:x1.Op=4
 ·rw [if_pos hc8] at h
  refine wk 50 (x1.Op==4) true (beq_iff_eq.2 hc8)<|wt<|wr [(0,0),(1,2)]<|gb0 [0] [(52,pP bp0 0)] ?_
  rcases hq2:mach_Machine_two.f lp0_0 lp0_1 lp0_2 lp0_3 lp0_4 sp0_5 sp0_13 sp0_14 with _ | r2
  ·rw [hq2] at h; cases h
  rw [hq2] at h
  simp only [] at h
  have hS61:=((((((hS1.b 6).b 6).b 6).b 6).b 6).b 6).packN 6
  refine ge_call2 (m:=0) (d:=some 53) (f:=59) (args:=#[pP bp0 0,.func (.func 60) #[] #[]]) (by kernel_rfl) (mach_Machine_two_ok bp0 lp0_0 Ap0_0 cp0_0 lp0_1 Ap0_1 cp0_1 lp0_2 Ap0_2 cp0_2 lp0_3 Ap0_3 cp0_3 lp0_4 Ap0_4 cp0_4 sp0_5 sp0_13 sp0_14 _ _ _ hS61 _ hq2) ?_
  rintro _ w10 ⟨v4,rfl,hS60⟩
  refine ⟨_,rfl,?_⟩
  have hS62:=hS60.unpack [bk bp0 #[(.slice Ap0_0 lp0_0.length cp0_0),(.slice Ap0_1 lp0_1.length cp0_1),(.slice Ap0_2 lp0_2.length cp0_2),(.slice Ap0_3 lp0_3.length cp0_3),v4,vI ((sp0_5[0]?).getD 0),vI ((sp0_5[1]?).getD 0),vI ((sp0_5[2]?).getD 0),vI ((sp0_5[3]?).getD 0),vI ((sp0_5[4]?).getD 0),vI ((sp0_5[5]?).getD 0),vI ((sp0_5[6]?).getD 0),vI ((sp0_5[7]?).getD 0),vI sp0_13,vI sp0_14] 86,ro Ap0_0 cp0_0 29 lp0_0,ro Ap0_1 cp0_1 3 lp0_1,ro Ap0_2 cp0_2 3 lp0_2,ro Ap0_3 cp0_3 101 lp0_3,Own.of v4 3 r2]
  refine gn hK2<|ws fun K11 hK11=>wr [(0,0),(1,0),(2,0),(3,0),(4,0),(5,0)]<|gb [0,1,2,3,4,5] [(4,vI (IntKind.i64.wrap (sp0_13+1))),(161,vI (IntKind.i64.wrap (sp0_13+1))),(160,vI sp0_13),(159,pP bp0 13),(158,pP bp0 0),(157,pP bp0 0)] [ld bp0 13 (vI sp0_13)] ⟨hS62.c 0,trivial⟩<|gn hK11 ?_
  have hS70:=hS62.p [0,1,2,3,4,5,7] rfl
  obtain rfl:=si h
  exact we_ret (pr0 [.tmp 4] [vI (IntKind.i64.wrap (sp0_13+1))] ⟨(.slice Ap0_2 lp0_2.length cp0_2),(.slice Ap0_3 lp0_3.length cp0_3),v4,rfl,hS70⟩)
 rw [if_neg hc8] at h
 refine wk 50 (x1.Op==4) false (beq_eq_false_iff_ne.2 hc8)<|wf<|ws fun K12 hK12=>wr [(0,0),(1,0)]<|gb0 [0,1] [(54,.bool (x1.Op==5)),(55,.bool (x1.Op==5))]<|gn hK12 ?_
 by_cases hc9:x1.Op=5
 ·rw [if_pos hc9] at h
  refine wk 54 (x1.Op==5) true (beq_iff_eq.2 hc9)<|wt<|wr [(0,0),(1,2)]<|gb0 [0] [(56,pP bp0 0)] ?_
  rcases hq3:mach_Machine_two_1.f lp0_0 lp0_1 lp0_2 lp0_3 lp0_4 sp0_5 sp0_13 sp0_14 with _ | r3
  ·rw [hq3] at h; cases h
  rw [hq3] at h
  simp only [] at h
  have hS78:=((((((hS1.b 6).b 6).b 6).b 6).b 6).b 6).packN 6
  refine ge_call2 (m:=0) (d:=some 57) (f:=59) (args:=#[pP bp0 0,.func (.func 61) #[] #[]]) (by kernel_rfl) (mach_Machine_two_1_ok bp0 lp0_0 Ap0_0 cp0_0 lp0_1 Ap0_1 cp0_1 lp0_2 Ap0_2 cp0_2 lp0_3 Ap0_3 cp0_3 lp0_4 Ap0_4 cp0_4 sp0_5 sp0_13 sp0_14 _ _ _ hS78 _ hq3) ?_
  rintro _ w11 ⟨v5,rfl,hS77⟩
  refine ⟨_,rfl,?_⟩
  have hS79:=hS77.unpack [bk bp0 #[(.slice Ap0_0 lp0_0.length cp0_0),(.slice Ap0_1 lp0_1.length cp0_1),(.slice Ap0_2 lp0_2.length cp0_2),(.slice Ap0_3 lp0_3.length cp0_3),v5,vI ((sp0_5[0]?).getD 0),vI ((sp0_5[1]?).getD 0),vI ((sp0_5[2]?).getD 0),vI ((sp0_5[3]?).getD 0),vI ((sp0_5[4]?).getD 0),vI ((sp0_5[5]?).getD 0),vI ((sp0_5[6]?).getD 0),vI ((sp0_5[7]?).getD 0),vI sp0_13,vI sp0_14] 86,ro Ap0_0 cp0_0 29 lp0_0,ro Ap0_1 cp0_1 3 lp0_1,ro Ap0_2 cp0_2 3 lp0_2,ro Ap0_3 cp0_3 101 lp0_3,Own.of v5 3 r3]
  refine gn hK2<|ws fun K13 hK13=>wr [(0,0),(1,0),(2,0),(3,0),(4,0),(5,0)]<|gb [0,1,2,3,4,5] [(4,vI (IntKind.i64.wrap (sp0_13+1))),(161,vI (IntKind.i64.wrap (sp0_13+1))),(160,vI sp0_13),(159,pP bp0 13),(158,pP bp0 0),(157,pP bp0 0)] [ld bp0 13 (vI sp0_13)] ⟨hS79.c 0,trivial⟩<|gn hK13 ?_
  have hS87:=hS79.p [0,1,2,3,4,5,7] rfl
  obtain rfl:=si h
  exact we_ret (pr0 [.tmp 4] [vI (IntKind.i64.wrap (sp0_13+1))] ⟨(.slice Ap0_2 lp0_2.length cp0_2),(.slice Ap0_3 lp0_3.length cp0_3),v5,rfl,hS87⟩)
 rw [if_neg hc9] at h
 refine wk 54 (x1.Op==5) false (beq_eq_false_iff_ne.2 hc9)<|wf<|ws fun K14 hK14=>wr [(0,0),(1,0)]<|gb0 [0,1] [(58,.bool (x1.Op==6)),(59,.bool (x1.Op==6))]<|gn hK14 ?_
 by_cases hc10:x1.Op=6
 ·rw [if_pos hc10] at h
  refine wk 58 (x1.Op==6) true (beq_iff_eq.2 hc10)<|wt<|wr [(0,0),(1,2)]<|gb0 [0] [(60,pP bp0 0)] ?_
  rcases hq4:mach_Machine_two_2.f lp0_0 lp0_1 lp0_2 lp0_3 lp0_4 sp0_5 sp0_13 sp0_14 with _ | r4
  ·rw [hq4] at h; cases h
  rw [hq4] at h
  simp only [] at h
  have hS95:=((((((hS1.b 6).b 6).b 6).b 6).b 6).b 6).packN 6
  refine ge_call2 (m:=0) (d:=some 61) (f:=59) (args:=#[pP bp0 0,.func (.func 62) #[] #[]]) (by kernel_rfl) (mach_Machine_two_2_ok bp0 lp0_0 Ap0_0 cp0_0 lp0_1 Ap0_1 cp0_1 lp0_2 Ap0_2 cp0_2 lp0_3 Ap0_3 cp0_3 lp0_4 Ap0_4 cp0_4 sp0_5 sp0_13 sp0_14 _ _ _ hS95 _ hq4) ?_
  rintro _ w12 ⟨v6,rfl,hS94⟩
  refine ⟨_,rfl,?_⟩
  have hS96:=hS94.unpack [bk bp0 #[(.slice Ap0_0 lp0_0.length cp0_0),(.slice Ap0_1 lp0_1.length cp0_1),(.slice Ap0_2 lp0_2.length cp0_2),(.slice Ap0_3 lp0_3.length cp0_3),v6,vI ((sp0_5[0]?).getD 0),vI ((sp0_5[1]?).getD 0),vI ((sp0_5[2]?).getD 0),vI ((sp0_5[3]?).getD 0),vI ((sp0_5[4]?).getD 0),vI ((sp0_5[5]?).getD 0),vI ((sp0_5[6]?).getD 0),vI ((sp0_5[7]?).getD 0),vI sp0_13,vI sp0_14] 86,ro Ap0_0 cp0_0 29 lp0_0,ro Ap0_1 cp0_1 3 lp0_1,ro Ap0_2 cp0_2 3 lp0_2,ro Ap0_3 cp0_3 101 lp0_3,Own.of v6 3 r4]
  refine gn hK2<|ws fun K15 hK15=>wr [(0,0),(1,0),(2,0),(3,0),(4,0),(5,0)]<|gb [0,1,2,3,4,5] [(4,vI (IntKind.i64.wrap (sp0_13+1))),(161,vI (IntKind.i64.wrap (sp0_13+1))),(160,vI sp0_13),(159,pP bp0 13),(158,pP bp0 0),(157,pP bp0 0)] [ld bp0 13 (vI sp0_13)] ⟨hS96.c 0,trivial⟩<|gn hK15 ?_
  have hS104:=hS96.p [0,1,2,3,4,5,7] rfl
  obtain rfl:=si h
  exact we_ret (pr0 [.tmp 4] [vI (IntKind.i64.wrap (sp0_13+1))] ⟨(.slice Ap0_2 lp0_2.length cp0_2),(.slice Ap0_3 lp0_3.length cp0_3),v6,rfl,hS104⟩)
 rw [if_neg hc10] at h
 refine wk 58 (x1.Op==6) false (beq_eq_false_iff_ne.2 hc10)<|wf<|ws fun K16 hK16=>wr [(0,0),(1,0)]<|gb0 [0,1] [(62,.bool (x1.Op==7)),(63,.bool (x1.Op==7))]<|gn hK16 ?_
 by_cases hc11:x1.Op=7
 ·rw [if_pos hc11] at h
  refine wk 62 (x1.Op==7) true (beq_iff_eq.2 hc11)<|wt<|wr [(0,0),(1,2)]<|gb0 [0] [(64,pP bp0 0)] ?_
  rcases hq5:mach_Machine_two_3.f lp0_0 lp0_1 lp0_2 lp0_3 lp0_4 sp0_5 sp0_13 sp0_14 with _ | r5
  ·rw [hq5] at h; cases h
  rw [hq5] at h
  simp only [] at h
  have hS112:=((((((hS1.b 6).b 6).b 6).b 6).b 6).b 6).packN 6
  refine ge_call2 (m:=0) (d:=some 65) (f:=59) (args:=#[pP bp0 0,.func (.func 63) #[] #[]]) (by kernel_rfl) (mach_Machine_two_3_ok bp0 lp0_0 Ap0_0 cp0_0 lp0_1 Ap0_1 cp0_1 lp0_2 Ap0_2 cp0_2 lp0_3 Ap0_3 cp0_3 lp0_4 Ap0_4 cp0_4 sp0_5 sp0_13 sp0_14 _ _ _ hS112 _ hq5) ?_
  rintro _ w13 ⟨v7,rfl,hS111⟩
  refine ⟨_,rfl,?_⟩
  have hS113:=hS111.unpack [bk bp0 #[(.slice Ap0_0 lp0_0.length cp0_0),(.slice Ap0_1 lp0_1.length cp0_1),(.slice Ap0_2 lp0_2.length cp0_2),(.slice Ap0_3 lp0_3.length cp0_3),v7,vI ((sp0_5[0]?).getD 0),vI ((sp0_5[1]?).getD 0),vI ((sp0_5[2]?).getD 0),vI ((sp0_5[3]?).getD 0),vI ((sp0_5[4]?).getD 0),vI ((sp0_5[5]?).getD 0),vI ((sp0_5[6]?).getD 0),vI ((sp0_5[7]?).getD 0),vI sp0_13,vI sp0_14] 86,ro Ap0_0 cp0_0 29 lp0_0,ro Ap0_1 cp0_1 3 lp0_1,ro Ap0_2 cp0_2 3 lp0_2,ro Ap0_3 cp0_3 101 lp0_3,Own.of v7 3 r5]
  refine gn hK2<|ws fun K17 hK17=>wr [(0,0),(1,0),(2,0),(3,0),(4,0),(5,0)]<|gb [0,1,2,3,4,5] [(4,vI (IntKind.i64.wrap (sp0_13+1))),(161,vI (IntKind.i64.wrap (sp0_13+1))),(160,vI sp0_13),(159,pP bp0 13),(158,pP bp0 0),(157,pP bp0 0)] [ld bp0 13 (vI sp0_13)] ⟨hS113.c 0,trivial⟩<|gn hK17 ?_
  have hS121:=hS113.p [0,1,2,3,4,5,7] rfl
  obtain rfl:=si h
  exact we_ret (pr0 [.tmp 4] [vI (IntKind.i64.wrap (sp0_13+1))] ⟨(.slice Ap0_2 lp0_2.length cp0_2),(.slice Ap0_3 lp0_3.length cp0_3),v7,rfl,hS121⟩)
 rw [if_neg hc11] at h
 refine wk 62 (x1.Op==7) false (beq_eq_false_iff_ne.2 hc11)<|wf<|ws fun K18 hK18=>wr [(0,0),(1,0)]<|gb0 [0,1] [(66,.bool (x1.Op==8)),(67,.bool (x1.Op==8))]<|gn hK18 ?_
 by_cases hc12:x1.Op=8
 ·rw [if_pos hc12] at h
  refine wk 66 (x1.Op==8) true (beq_iff_eq.2 hc12)<|wt<|wr [(0,0),(1,2)]<|gb0 [0] [(68,pP bp0 0)] ?_
  rcases hq6:mach_Machine_two_4.f lp0_0 lp0_1 lp0_2 lp0_3 lp0_4 sp0_5 sp0_13 sp0_14 with _ | r6
  ·rw [hq6] at h; cases h
  rw [hq6] at h
  simp only [] at h
  have hS129:=((((((hS1.b 6).b 6).b 6).b 6).b 6).b 6).packN 6
  refine ge_call2 (m:=0) (d:=some 69) (f:=59) (args:=#[pP bp0 0,.func (.func 65) #[] #[]]) (by kernel_rfl) (mach_Machine_two_4_ok bp0 lp0_0 Ap0_0 cp0_0 lp0_1 Ap0_1 cp0_1 lp0_2 Ap0_2 cp0_2 lp0_3 Ap0_3 cp0_3 lp0_4 Ap0_4 cp0_4 sp0_5 sp0_13 sp0_14 _ _ _ hS129 _ hq6) ?_
  rintro _ w14 ⟨v8,rfl,hS128⟩
  refine ⟨_,rfl,?_⟩
  have hS130:=hS128.unpack [bk bp0 #[(.slice Ap0_0 lp0_0.length cp0_0),(.slice Ap0_1 lp0_1.length cp0_1),(.slice Ap0_2 lp0_2.length cp0_2),(.slice Ap0_3 lp0_3.length cp0_3),v8,vI ((sp0_5[0]?).getD 0),vI ((sp0_5[1]?).getD 0),vI ((sp0_5[2]?).getD 0),vI ((sp0_5[3]?).getD 0),vI ((sp0_5[4]?).getD 0),vI ((sp0_5[5]?).getD 0),vI ((sp0_5[6]?).getD 0),vI ((sp0_5[7]?).getD 0),vI sp0_13,vI sp0_14] 86,ro Ap0_0 cp0_0 29 lp0_0,ro Ap0_1 cp0_1 3 lp0_1,ro Ap0_2 cp0_2 3 lp0_2,ro Ap0_3 cp0_3 101 lp0_3,Own.of v8 3 r6]
  refine gn hK2<|ws fun K19 hK19=>wr [(0,0),(1,0),(2,0),(3,0),(4,0),(5,0)]<|gb [0,1,2,3,4,5] [(4,vI (IntKind.i64.wrap (sp0_13+1))),(161,vI (IntKind.i64.wrap (sp0_13+1))),(160,vI sp0_13),(159,pP bp0 13),(158,pP bp0 0),(157,pP bp0 0)] [ld bp0 13 (vI sp0_13)] ⟨hS130.c 0,trivial⟩<|gn hK19 ?_
  have hS138:=hS130.p [0,1,2,3,4,5,7] rfl
  obtain rfl:=si h
  exact we_ret (pr0 [.tmp 4] [vI (IntKind.i64.wrap (sp0_13+1))] ⟨(.slice Ap0_2 lp0_2.length cp0_2),(.slice Ap0_3 lp0_3.length cp0_3),v8,rfl,hS138⟩)
 rw [if_neg hc12] at h
 refine wk 66 (x1.Op==8) false (beq_eq_false_iff_ne.2 hc12)<|wf<|ws fun K20 hK20=>wr [(0,0),(1,0)]<|gb0 [0,1] [(70,.bool (x1.Op==9)),(71,.bool (x1.Op==9))]<|gn hK20 ?_
 by_cases hc13:x1.Op=9
 ·rw [if_pos hc13] at h
  refine wk 70 (x1.Op==9) true (beq_iff_eq.2 hc13)<|wt<|we_orders3 (by kernel_rfl) [(4,[⟨bp0,4,none⟩],[],[]),(8,[⟨bp0,1,none⟩],[11,12,13,14],[]),(10,[⟨b1,1,none⟩],[11,12,13,14],[]),(12,[⟨blkOf Ap0_1,offOf Ap0_1+((x1.A).toNat)*1,none⟩],[13,14],[])] (.vals [0] (.vals [1] (.vals [2] (.vals [3] (.vals [4] (.vals [5] (.vals [6] (.vals [7] (.vals [8] (.vals [9] (.vals [10] (.vals [11] (.vals [12] (.alt 13 1 (.alt 14 2 (.vals [15] (.vals [16] (.alt 17 2 .fin .nomore))) .nomore) .nomore)))))))))))))) (by kernel_rfl) (by kernel_rfl) ?_
  have hS139:=hS1.drew
  refine g30 [0,1,2,3] [(75,pP bp0 4),(74,pP bp0 0),(73,pP bp0 0),(72,pP bp0 0)]<|g3 4 [(76,(.slice Ap0_4 lp0_4.length cp0_4))] [ld bp0 4 ((.slice Ap0_4 lp0_4.length cp0_4))] ⟨hS139.c 1,trivial⟩<|g30 [5,6,7] [(79,pP bp0 1),(78,pP bp0 0),(77,pP bp0 0)]<|g3 8 [(80,(.slice Ap0_1 lp0_1.length cp0_1))] [ld bp0 1 ((.slice Ap0_1 lp0_1.length cp0_1))] ⟨hS139.c 1,trivial⟩<|g30 [9] [(81,pP b1 1)]<|g3 10 [(82,vI x1.A)] [ld b1 1 (vI x1.A)] ⟨hS139.c 0,trivial⟩ ?_
  by_cases hc14:0≤x1.A
  ·rw [if_pos hc14] at h
   rcases hx6:lp0_1[(x1.A).toNat]? with _ | e3
   ·rw [hx6] at h; cases h
   rw [hx6] at h
   simp only [] at h
   refine go3_index (d:=83) (ty:=0) (t:=37) (el:=3) (sz:=1) (m:=lp0_1.length) (c:=cp0_1) (x:=(.tmp 80)) (y:=(.tmp 82)) (A:=Ap0_1) (k':=.i64) (j:=x1.A) (jn:=((x1.A).toNat)) (b0:=blkOf Ap0_1) (o0:=offOf Ap0_1) (by kernel_rfl) (by kernel_rfl) (by kernel_rfl) (by kernel_rfl) (by kernel_rfl) ((hS139.rdAt 3 rfl).eqSome (pos_of_get hx6)) (Int.toNat_of_nonneg hc14).symm (lt_of_get hx6) ?_
   refine g3 12 [(84,vI e3)] [.loaded ⟨blkOf Ap0_1,offOf Ap0_1+((x1.A).toNat)*1,none⟩ (vI e3)] ⟨RdL.cell (j:=0) (hS139.rdAt 3 rfl) hx6 rfl,trivial⟩<|go_alt3 (fun KK hKK=>?_) ?_
   ·refine ge_one2<|gw (some 85) (.cells #[vI e3] 3) (fun b=>.slice (some ⟨b,0,none⟩) 1 1) hS139 fun b4 w15 hx7 hS140=>?_
    refine ge_nil fun a hF=>hKK _ _ (RS.of2 (l:=[ld bp0 4 ((.slice Ap0_4 lp0_4.length cp0_4))]) (by kernel_rfl) ⟨hS139.c 1,trivial⟩ ⟨hS140.c 2,trivial⟩) ?_ a hF
    refine go_alt3 (fun KK hKK=>?_) ?_
    ·have hS141:=hS140.b 7
     by_cases hc15:lp0_4.length<17592186044416
     ·rw [if_pos hc15] at h
      refine ge_append (α:=Int) (m:=0) (d:=86) (t:=37) (el:=3) (bytes:=8) (c1:=1) (b1:=b4) (x:=(.tmp 76)) (y:=(.tmp 85)) (ty:=37) (v:=(.slice Ap0_4 lp0_4.length cp0_4)) (z:=vI 0) (l:=lp0_4) (u:=e3) (by kernel_rfl) (by kernel_rfl) (by kernel_rfl) (by kernel_rfl) (by kernel_rfl) rfl hS141 rfl (by omega) fun v9 w16 hS142=>?_
      refine g2 hKK<|g30 [15,16] [(88,pP bp0 4),(87,pP bp0 0)]<|go_alt3 (fun KK hKK=>?_) ?_
      ·obtain ⟨Z3,cz3,rfl⟩:=hS142.open 0 rfl
       have hS143:=hS142.b 2
       refine gs bp0 4 #[(.slice Ap0_0 lp0_0.length cp0_0),(.slice Ap0_1 lp0_1.length cp0_1),(.slice Ap0_2 lp0_2.length cp0_2),(.slice Ap0_3 lp0_3.length cp0_3),(.slice Ap0_4 lp0_4.length cp0_4),vI ((sp0_5[0]?).getD 0),vI ((sp0_5[1]?).getD 0),vI ((sp0_5[2]?).getD 0),vI ((sp0_5[3]?).getD 0),vI ((sp0_5[4]?).getD 0),vI ((sp0_5[5]?).getD 0),vI ((sp0_5[6]?).getD 0),vI ((sp0_5[7]?).getD 0),vI sp0_13,vI sp0_14] 86 [(.slice Z3 (lp0_4++[e3]).length cz3)] hS143 fun w17 hS144=>?_
       have hS145:=hS144.nc #[(.slice Ap0_0 lp0_0.length cp0_0),(.slice Ap0_1 lp0_1.length cp0_1),(.slice Ap0_2 lp0_2.length cp0_2),(.slice Ap0_3 lp0_3.length cp0_3),(.slice Z3 (lp0_4++[e3]).length cz3),vI ((sp0_5[0]?).getD 0),vI ((sp0_5[1]?).getD 0),vI ((sp0_5[2]?).getD 0),vI ((sp0_5[3]?).getD 0),vI ((sp0_5[4]?).getD 0),vI ((sp0_5[5]?).getD 0),vI ((sp0_5[6]?).getD 0),vI ((sp0_5[7]?).getD 0),vI sp0_13,vI sp0_14] rfl
       refine g2 hKK<|go_fin3 fun a hF=>hK2 _ _ ?_ a hF
       refine ws fun K21 hK21=>wr [(0,0),(1,0),(2,0),(3,0),(4,0),(5,0)]<|gb [0,1,2,3,4,5] [(4,vI (IntKind.i64.wrap (sp0_13+1))),(161,vI (IntKind.i64.wrap (sp0_13+1))),(160,vI sp0_13),(159,pP bp0 13),(158,pP bp0 0),(157,pP bp0 0)] [ld bp0 13 (vI sp0_13)] ⟨hS145.c 0,trivial⟩<|gn hK21 ?_
       have hS153:=hS145.p [0,3,4,5,6,1,7] rfl
       obtain rfl:=si h
       exact we_ret (pr0 [.tmp 4] [vI (IntKind.i64.wrap (sp0_13+1))] ⟨(.slice Ap0_2 lp0_2.length cp0_2),(.slice Ap0_3 lp0_3.length cp0_3),(.slice Z3 (lp0_4++[e3]).length cz3),rfl,hS153⟩)
      exact go_nomore3
     rw [if_neg hc15] at h
     cases h
    exact go_nomore3
   exact go_nomore3
  rw [if_neg hc14] at h
  cases h
 rw [if_neg hc13] at h
 refine wk 70 (x1.Op==9) false (beq_eq_false_iff_ne.2 hc13)<|wf<|ws fun K22 hK22=>wr [(0,0),(1,0)]<|gb0 [0,1] [(89,.bool (x1.Op==10)),(90,.bool (x1.Op==10))]<|gn hK22 ?_
 by_cases hc16:x1.Op=10
 ·rw [if_pos hc16] at h
  refine wk 89 (x1.Op==10) true (beq_iff_eq.2 hc16)<|wt<|we_orders3 (by kernel_rfl) [(4,[⟨bp0,3,none⟩],[],[]),(6,[⟨b1,1,none⟩],[9,10,11],[])] (.vals [0] (.vals [1] (.vals [2] (.vals [3] (.vals [4] (.vals [5] (.vals [6] (.vals [7] (.alt 8 2 (.vals [9] (.alt 10 1 (.alt 11 2 (.vals [12] (.vals [13] (.alt 14 2 .fin .nomore))) .nomore) .nomore)) .nomore))))))))) (by kernel_rfl) (by kernel_rfl) ?_
  have hS154:=hS1.drew
  refine g30 [0,1,2,3] [(94,pP bp0 3),(93,pP bp0 0),(92,pP bp0 0),(91,pP bp0 0)]<|g3 4 [(95,(.slice Ap0_3 lp0_3.length cp0_3))] [ld bp0 3 ((.slice Ap0_3 lp0_3.length cp0_3))] ⟨hS154.c 1,trivial⟩<|g30 [5] [(96,pP b1 1)]<|g3 6 [(97,vI x1.A)] [ld b1 1 (vI x1.A)] ⟨hS154.c 0,trivial⟩<|g30 [7] [(98,pP bp0 0)]<|go_alt3 (fun KK hKK=>?_) ?_
  ·rcases hq7:mach_Machine_pop.f lp0_0 lp0_1 lp0_2 lp0_3 lp0_4 sp0_5 sp0_13 sp0_14 with _ | r7
   ·rw [hq7] at h; cases h
   rw [hq7] at h
   simp only [] at h
   have hS162:=((((((hS154.b 6).b 6).b 6).b 6).b 6).b 6).packN 6
   refine ge_call2 (m:=0) (d:=some 99) (f:=58) (args:=#[pP bp0 0]) (by kernel_rfl) (mach_Machine_pop_ok bp0 lp0_0 Ap0_0 cp0_0 lp0_1 Ap0_1 cp0_1 lp0_2 Ap0_2 cp0_2 lp0_3 Ap0_3 cp0_3 lp0_4 Ap0_4 cp0_4 sp0_5 sp0_13 sp0_14 _ _ _ hS162 _ hq7) ?_
   rintro _ w18 ⟨v10,rfl,hS161⟩
   refine ⟨_,rfl,?_⟩
   have hS163:=hS161.unpack [bk bp0 #[(.slice Ap0_0 lp0_0.length cp0_0),(.slice Ap0_1 lp0_1.length cp0_1),(.slice Ap0_2 lp0_2.length cp0_2),(.slice Ap0_3 lp0_3.length cp0_3),v10,vI ((sp0_5[0]?).getD 0),vI ((sp0_5[1]?).getD 0),vI ((sp0_5[2]?).getD 0),vI ((sp0_5[3]?).getD 0),vI ((sp0_5[4]?).getD 0),vI ((sp0_5[5]?).getD 0),vI ((sp0_5[6]?).getD 0),vI ((sp0_5[7]?).getD 0),vI sp0_13,vI sp0_14] 86,ro Ap0_0 cp0_0 29 lp0_0,ro Ap0_1 cp0_1 3 lp0_1,ro Ap0_2 cp0_2 3 lp0_2,ro Ap0_3 cp0_3 101 lp0_3,Own.of v10 3 r7.2]
   refine ge_nil fun a hF=>hKK _ _ (RS.of2 (l:=[ld bp0 3 ((.slice Ap0_3 lp0_3.length cp0_3)),ld b1 1 (vI x1.A)]) (by kernel_rfl) ⟨hS154.c 1,hS154.c 0,trivial⟩ ⟨hS163.c 0,hS163.c 6,trivial⟩) ?_ a hF
   refine g30 [9] [(100,.agg #[vI x1.A,vI r7.1])]<|go_alt3 (fun KK hKK=>?_) ?_
   ·refine ge_one2<|gw (some 101) (.cells #[vI x1.A,vI r7.1] 101) (fun b=>.slice (some ⟨b,0,none⟩) 1 1) hS163 fun b5 w19 hx8 hS164=>?_
    refine ge_nil fun a hF=>hKK _ _ (RS.of2 (l:=[ld bp0 3 ((.slice Ap0_3 lp0_3.length cp0_3))]) (by kernel_rfl) ⟨hS163.c 0,trivial⟩ ⟨hS164.c 1,trivial⟩) ?_ a hF
    refine go_alt3 (fun KK hKK=>?_) ?_
    ·have hS165:=hS164.b 5
     by_cases hc17:lp0_3.length<8796093022208
     ·rw [if_pos hc17] at h
      refine ge_append (α:=SPut) (m:=0) (d:=102) (t:=83) (el:=101) (bytes:=16) (c1:=1) (b1:=b5) (x:=(.tmp 95)) (y:=(.tmp 101)) (ty:=83) (v:=(.slice Ap0_3 lp0_3.length cp0_3)) (z:=.agg #[vI 0,vI 0]) (l:=lp0_3) (u:=(⟨x1.A,r7.1⟩:SPut)) (by kernel_rfl) (by kernel_rfl) (by kernel_rfl) (by kernel_rfl) (by kernel_rfl) rfl hS165 rfl (by omega) fun v11 w20 hS166=>?_
      refine g2 hKK<|g30 [12,13] [(104,pP bp0 3),(103,pP bp0 0)]<|go_alt3 (fun KK hKK=>?_) ?_
      ·obtain ⟨Z4,cz4,rfl⟩:=hS166.open 0 rfl
       have hS167:=hS166.b 1
       refine gs bp0 3 #[(.slice Ap0_0 lp0_0.length cp0_0),(.slice Ap0_1 lp0_1.length cp0_1),(.slice Ap0_2 lp0_2.length cp0_2),(.slice Ap0_3 lp0_3.length cp0_3),v10,vI ((sp0_5[0]?).getD 0),vI ((sp0_5[1]?).getD 0),vI ((sp0_5[2]?).getD 0),vI ((sp0_5[3]?).getD 0),vI ((sp0_5[4]?).getD 0),vI ((sp0_5[5]?).getD 0),vI ((sp0_5[6]?).getD 0),vI ((sp0_5[7]?).getD 0),vI sp0_13,vI sp0_14] 86 [(.slice Z4 (lp0_3++[(⟨x1.A,r7.1⟩:SPut)]).length cz4)] hS167 fun w21 hS168=>?_
       have hS169:=hS168.nc #[(.slice Ap0_0 lp0_0.length cp0_0),(.slice Ap0_1 lp0_1.length cp0_1),(.slice Ap0_2 lp0_2.length cp0_2),(.slice Z4 (lp0_3++[(⟨x1.A,r7.1⟩:SPut)]).length cz4),v10,vI ((sp0_5[0]?).getD 0),vI ((sp0_5[1]?).getD 0),vI ((sp0_5[2]?).getD 0),vI ((sp0_5[3]?).getD 0),vI ((sp0_5[4]?).getD 0),vI ((sp0_5[5]?).getD 0),vI ((sp0_5[6]?).getD 0),vI ((sp0_5[7]?).getD 0),vI sp0_13,vI sp0_14] rfl
       refine g2 hKK<|go_fin3 fun a hF=>hK2 _ _ ?_ a hF
       refine ws fun K23 hK23=>wr [(0,0),(1,0),(2,0),(3,0),(4,0),(5,0)]<|gb [0,1,2,3,4,5] [(4,vI (IntKind.i64.wrap (sp0_13+1))),(161,vI (IntKind.i64.wrap (sp0_13+1))),(160,vI sp0_13),(159,pP bp0 13),(158,pP bp0 0),(157,pP bp0 0)] [ld bp0 13 (vI sp0_13)] ⟨hS169.c 0,trivial⟩<|gn hK23 ?_
       have hS177:=hS169.p [0,2,3,4,1,5,7] rfl
       obtain rfl:=si h
       exact we_ret (pr0 [.tmp 4] [vI (IntKind.i64.wrap (sp0_13+1))] ⟨(.slice Ap0_2 lp0_2.length cp0_2),(.slice Z4 (lp0_3++[(⟨x1.A,r7.1⟩:SPut)]).length cz4),v10,rfl,hS177⟩)
      exact go_nomore3
     rw [if_neg hc17] at h
     cases h
    exact go_nomore3
   exact go_nomore3
  exact go_nomore3
 rw [if_neg hc16] at h
 refine wk 89 (x1.Op==10) false (beq_eq_false_iff_ne.2 hc16)<|wf<|ws fun K24 hK24=>wr [(0,0),(1,0)]<|gb0 [0,1] [(105,.bool (x1.Op==11)),(106,.bool (x1.Op==11))]<|gn hK24 ?_
 by_cases hc18:x1.Op=11
 ·rw [if_pos hc18] at h
  refine wk 105 (x1.Op==11) true (beq_iff_eq.2 hc18)<|wt<|ws fun K25 hK25=>wr [(0,0),(1,0),(2,0)]<|gb [0,1,2] [(4,vI x1.A),(108,vI x1.A),(107,pP b1 1)] [ld b1 1 (vI x1.A)] ⟨hS1.c 0,trivial⟩<|gn hK25 ?_
  have hS185:=hS1.p [1,2,3,4,5,6,7] rfl
  obtain rfl:=si h
  exact we_ret (pr0 [.tmp 4] [vI x1.A] ⟨(.slice Ap0_2 lp0_2.length cp0_2),(.slice Ap0_3 lp0_3.length cp0_3),(.slice Ap0_4 lp0_4.length cp0_4),rfl,hS185⟩)
 rw [if_neg hc18] at h
 refine wk 105 (x1.Op==11) false (beq_eq_false_iff_ne.2 hc18)<|wf<|ws fun K26 hK26=>wr [(0,0),(1,0)]<|gb0 [0,1] [(109,.bool (x1.Op==12)),(110,.bool (x1.Op==12))]<|gn hK26 ?_
 by_cases hc19:x1.Op=12
 ·rw [if_pos hc19] at h
  refine wk 109 (x1.Op==12) true (beq_iff_eq.2 hc19)<|wt<|ws fun K27 hK27=>wr [(0,0),(1,2),(2,0)]<|gb0 [0] [(111,pP bp0 0)] ?_
  rcases hq8:mach_Machine_pop.f lp0_0 lp0_1 lp0_2 lp0_3 lp0_4 sp0_5 sp0_13 sp0_14 with _ | r8
  ·rw [hq8] at h; cases h
  rw [hq8] at h
  simp only [] at h
  have hS193:=((((((hS1.b 6).b 6).b 6).b 6).b 6).b 6).packN 6
  refine ge_call2 (m:=0) (d:=some 112) (f:=58) (args:=#[pP bp0 0]) (by kernel_rfl) (mach_Machine_pop_ok bp0 lp0_0 Ap0_0 cp0_0 lp0_1 Ap0_1 cp0_1 lp0_2 Ap0_2 cp0_2 lp0_3 Ap0_3 cp0_3 lp0_4 Ap0_4 cp0_4 sp0_5 sp0_13 sp0_14 _ _ _ hS193 _ hq8) ?_
  rintro _ w22 ⟨v12,rfl,hS192⟩
  refine ⟨_,rfl,?_⟩
  have hS194:=hS192.unpack [bk bp0 #[(.slice Ap0_0 lp0_0.length cp0_0),(.slice Ap0_1 lp0_1.length cp0_1),(.slice Ap0_2 lp0_2.length cp0_2),(.slice Ap0_3 lp0_3.length cp0_3),v12,vI ((sp0_5[0]?).getD 0),vI ((sp0_5[1]?).getD 0),vI ((sp0_5[2]?).getD 0),vI ((sp0_5[3]?).getD 0),vI ((sp0_5[4]?).getD 0),vI ((sp0_5[5]?).getD 0),vI ((sp0_5[6]?).getD 0),vI ((sp0_5[7]?).getD 0),vI sp0_13,vI sp0_14] 86,ro Ap0_0 cp0_0 29 lp0_0,ro Ap0_1 cp0_1 3 lp0_1,ro Ap0_2 cp0_2 3 lp0_2,ro Ap0_3 cp0_3 101 lp0_3,Own.of v12 3 r8.2]
  refine gb0 [2] [(113,.bool (r8.1==0))]<|gn hK27 ?_
  by_cases hc20:r8.1=0
  ·rw [if_pos hc20] at h
   refine wk 113 (r8.1==0) true (beq_iff_eq.2 hc20)<|wt<|ws fun K28 hK28=>wr [(0,0),(1,0),(2,0)]<|gb [0,1,2] [(4,vI x1.A),(115,vI x1.A),(114,pP b1 1)] [ld b1 1 (vI x1.A)] ⟨hS194.c 6,trivial⟩<|gn hK28 ?_
   have hS202:=hS194.p [0,1,2,3,4,5,7] rfl
   obtain rfl:=si h
   exact we_ret (pr0 [.tmp 4] [vI x1.A] ⟨(.slice Ap0_2 lp0_2.length cp0_2),(.slice Ap0_3 lp0_3.length cp0_3),v12,rfl,hS202⟩)
  rw [if_neg hc20] at h
  refine wk 113 (r8.1==0) false (beq_eq_false_iff_ne.2 hc20)<|wf<|we_skip fun a hF=>hK2 _ _ ?_ a hF
  refine ws fun K29 hK29=>wr [(0,0),(1,0),(2,0),(3,0),(4,0),(5,0)]<|gb [0,1,2,3,4,5] [(4,vI (IntKind.i64.wrap (sp0_13+1))),(161,vI (IntKind.i64.wrap (sp0_13+1))),(160,vI sp0_13),(159,pP bp0 13),(158,pP bp0 0),(157,pP bp0 0)] [ld bp0 13 (vI sp0_13)] ⟨hS194.c 0,trivial⟩<|gn hK29 ?_
  have hS210:=hS194.p [0,1,2,3,4,5,7] rfl
  obtain rfl:=si h
  exact we_ret (pr0 [.tmp 4] [vI (IntKind.i64.wrap (sp0_13+1))] ⟨(.slice Ap0_2 lp0_2.length cp0_2),(.slice Ap0_3 lp0_3.length cp0_3),v12,rfl,hS210⟩)
 rw [if_neg hc19] at h
 refine wk 109 (x1.Op==12) false (beq_eq_false_iff_ne.2 hc19)<|wf<|ws fun K30 hK30=>wr [(0,0),(1,0)]<|gb0 [0,1] [(116,.bool (x1.Op==13)),(117,.bool (x1.Op==13))]<|gn hK30 ?_
 by_cases hc21:x1.Op=13
 ·rw [if_pos hc21] at h
  refine wk 116 (x1.Op==13) true (beq_iff_eq.2 hc21)<|wt<|we_orders3 (by kernel_rfl) [(2,[⟨b1,1,none⟩],[],[]),(4,[⟨b1,2,none⟩],[],[])] (.vals [0] (.vals [1] (.vals [2] (.vals [3] (.vals [4] (.vals [5] (.vals [6] (.vals [7] (.alt 8 2 .fin .nomore))))))))) (by kernel_rfl) (by kernel_rfl) ?_
  have hS211:=hS1.drew
  refine g30 [0,1] [(119,pP b1 1),(118,pP bp0 0)]<|g3 2 [(120,vI x1.A)] [ld b1 1 (vI x1.A)] ⟨hS211.c 0,trivial⟩<|g30 [3] [(121,pP b1 2)]<|g3 4 [(122,vI x1.B)] [ld b1 2 (vI x1.B)] ⟨hS211.c 0,trivial⟩<|g30 [5,6] [(124,pP bp0 5),(123,pP bp0 0)] ?_
  by_cases hc22:0≤x1.A
  ·rw [if_pos hc22] at h
   rcases hx9:(arrN 8 sp0_5)[(x1.A).toNat]? with _ | e4
   ·rw [hx9] at h; cases h
   rw [hx9] at h
   simp only [] at h
   refine go3_arrAddr (d:=125) (ty:=0) (t:=84) (len:=8) (el:=3) (b:=bp0) (o0:=5) (sz:=1) (x:=(.tmp 124)) (y:=(.tmp 120)) (k':=.i64) (j:=x1.A) (jn:=((x1.A).toNat)) (by kernel_rfl) (by kernel_rfl) (by kernel_rfl) (by kernel_rfl) (by kernel_rfl) (Int.toNat_of_nonneg hc22).symm (lt_of_get hx9) ?_
   refine go_alt3 (fun KK hKK=>?_) ?_
   ·have hS212:=hS211.b 1
    refine ge_setA (b:=bp0) (off:=5) (jn:=((x1.A).toNat)) (nn:=8) (t:=86) (pre:=[(.slice Ap0_0 lp0_0.length cp0_0),(.slice Ap0_1 lp0_1.length cp0_1),(.slice Ap0_2 lp0_2.length cp0_2),(.slice Ap0_3 lp0_3.length cp0_3),(.slice Ap0_4 lp0_4.length cp0_4)]) (post:=[vI sp0_13,vI sp0_14]) (l:=(arrN 8 sp0_5)) (u:=e4) (v:=x1.B) (cs:=#[(.slice Ap0_0 lp0_0.length cp0_0),(.slice Ap0_1 lp0_1.length cp0_1),(.slice Ap0_2 lp0_2.length cp0_2),(.slice Ap0_3 lp0_3.length cp0_3),(.slice Ap0_4 lp0_4.length cp0_4),vI ((sp0_5[0]?).getD 0),vI ((sp0_5[1]?).getD 0),vI ((sp0_5[2]?).getD 0),vI ((sp0_5[3]?).getD 0),vI ((sp0_5[4]?).getD 0),vI ((sp0_5[5]?).getD 0),vI ((sp0_5[6]?).getD 0),vI ((sp0_5[7]?).getD 0),vI sp0_13,vI sp0_14]) hS212 (by kernel_rfl) rfl rfl rfl hx9 fun w23 hS213=>?_
    have hS214:=hS213.nc #[(.slice Ap0_0 lp0_0.length cp0_0),(.slice Ap0_1 lp0_1.length cp0_1),(.slice Ap0_2 lp0_2.length cp0_2),(.slice Ap0_3 lp0_3.length cp0_3),(.slice Ap0_4 lp0_4.length cp0_4),vI ((((arrN 8 sp0_5).set ((x1.A).toNat) x1.B)[0]?).getD 0),vI ((((arrN 8 sp0_5).set ((x1.A).toNat) x1.B)[1]?).getD 0),vI ((((arrN 8 sp0_5).set ((x1.A).toNat) x1.B)[2]?).getD 0),vI ((((arrN 8 sp0_5).set ((x1.A).toNat) x1.B)[3]?).getD 0),vI ((((arrN 8 sp0_5).set ((x1.A).toNat) x1.B)[4]?).getD 0),vI ((((arrN 8 sp0_5).set ((x1.A).toNat) x1.B)[5]?).getD 0),vI ((((arrN 8 sp0_5).set ((x1.A).toNat) x1.B)[6]?).getD 0),vI ((((arrN 8 sp0_5).set ((x1.A).toNat) x1.B)[7]?).getD 0),vI sp0_13,vI sp0_14] rfl
    refine g2 hKK<|go_fin3 fun a hF=>hK2 _ _ ?_ a hF
    refine ws fun K31 hK31=>wr [(0,0),(1,0),(2,0),(3,0),(4,0),(5,0)]<|gb [0,1,2,3,4,5] [(4,vI (IntKind.i64.wrap (sp0_13+1))),(161,vI (IntKind.i64.wrap (sp0_13+1))),(160,vI sp0_13),(159,pP bp0 13),(158,pP bp0 0),(157,pP bp0 0)] [ld bp0 13 (vI sp0_13)] ⟨hS214.c 0,trivial⟩<|gn hK31 ?_
    have hS222:=hS214.p [0,2,3,4,5,6,7] rfl
    obtain rfl:=si h
    exact we_ret (pr0 [.tmp 4] [vI (IntKind.i64.wrap (sp0_13+1))] ⟨(.slice Ap0_2 lp0_2.length cp0_2),(.slice Ap0_3 lp0_3.length cp0_3),(.slice Ap0_4 lp0_4.length cp0_4),rfl,hS222⟩)
   exact go_nomore3
  rw [if_neg hc22] at h
  cases h
 rw [if_neg hc21] at h
 refine wk 116 (x1.Op==13) false (beq_eq_false_iff_ne.2 hc21)<|wf<|ws fun K32 hK32=>wr [(0,0),(1,0)]<|gb0 [0,1] [(126,.bool (x1.Op==14)),(127,.bool (x1.Op==14))]<|gn hK32 ?_
 by_cases hc23:x1.Op=14
 ·rw [if_pos hc23] at h
  refine wk 126 (x1.Op==14) true (beq_iff_eq.2 hc23)<|wt<|ws fun K33 hK33=>we_draws (by kernel_rfl) [(0,0),(1,0),(2,0),(3,0),(4,0),(5,0),(6,0),(7,0)] (by kernel_rfl) ?_
  have hS223:=hS1.drew
  refine gb [0,1,2,3,4] [(132,pP bp0 5),(131,pP bp0 0),(130,vI x1.A),(129,pP b1 1),(128,pP bp0 0)] [ld b1 1 (vI x1.A)] ⟨hS223.c 0,trivial⟩ ?_
  by_cases hc24:0≤x1.A
  ·rw [if_pos hc24] at h
   rcases hx10:(arrN 8 sp0_5)[(x1.A).toNat]? with _ | e5
   ·rw [hx10] at h; cases h
   rw [hx10] at h
   simp only [] at h
   refine ge_arrAddr (d:=133) (ty:=0) (t:=84) (len:=8) (el:=3) (b:=bp0) (o0:=5) (sz:=1) (x:=(.tmp 132)) (y:=(.tmp 130)) (k':=.i64) (j:=x1.A) (jn:=((x1.A).toNat)) (by kernel_rfl) (by kernel_rfl) (by kernel_rfl) (by kernel_rfl) (by kernel_rfl) (Int.toNat_of_nonneg hc24).symm (lt_of_get hx10) ?_
   refine gb [6,7] [(135,.bool (decide (e5 > 0))),(134,vI e5)] [.loaded ⟨bp0,5+((x1.A).toNat)*1,none⟩ (vI e5)] ⟨hS223.cellA 1 (pre:=[(.slice Ap0_0 lp0_0.length cp0_0),(.slice Ap0_1 lp0_1.length cp0_1),(.slice Ap0_2 lp0_2.length cp0_2),(.slice Ap0_3 lp0_3.length cp0_3),(.slice Ap0_4 lp0_4.length cp0_4)]) (post:=[vI sp0_13,vI sp0_14]) (l:=(arrN 8 sp0_5)) rfl rfl rfl hx10 rfl rfl,trivial⟩<|gn hK33 ?_
   by_cases hc25:e5 > 0
   ·rw [if_pos hc25] at h
    refine wk 135 (decide (e5 > 0)) true (decide_eq_true hc25)<|wt<|ws fun K34 hK34=>we_orders3 (by kernel_rfl) [(2,[⟨b1,1,none⟩],[],[]),(6,[⟨bp0,5+((x1.A).toNat)*1,none⟩],[],[])] (.vals [0] (.vals [1] (.vals [2] (.vals [3] (.vals [4] (.vals [5] (.vals [6] (.vals [7] (.vals [8] (.vals [9] (.vals [10] (.alt 11 2 .fin .nomore)))))))))))) (by kernel_rfl) (by kernel_rfl) ?_
    have hS224:=hS223.drew
    refine g30 [0,1] [(137,pP b1 1),(136,pP bp0 0)]<|g3 2 [(138,vI x1.A)] [ld b1 1 (vI x1.A)] ⟨hS224.c 0,trivial⟩<|g30 [3,4] [(140,pP bp0 5),(139,pP bp0 0)]<|go3_arrAddr (d:=141) (ty:=0) (t:=84) (len:=8) (el:=3) (b:=bp0) (o0:=5) (sz:=1) (x:=(.tmp 140)) (y:=(.tmp 138)) (k':=.i64) (j:=x1.A) (jn:=((x1.A).toNat)) (by kernel_rfl) (by kernel_rfl) (by kernel_rfl) (by kernel_rfl) (by kernel_rfl) (Int.toNat_of_nonneg hc24).symm (lt_of_get hx10) ?_
    refine g3 6 [(142,vI e5)] [.loaded ⟨bp0,5+((x1.A).toNat)*1,none⟩ (vI e5)] ⟨hS224.cellA 1 (pre:=[(.slice Ap0_0 lp0_0.length cp0_0),(.slice Ap0_1 lp0_1.length cp0_1),(.slice Ap0_2 lp0_2.length cp0_2),(.slice Ap0_3 lp0_3.length cp0_3),(.slice Ap0_4 lp0_4.length cp0_4)]) (post:=[vI sp0_13,vI sp0_14]) (l:=(arrN 8 sp0_5)) rfl rfl rfl hx10 rfl rfl,trivial⟩<|g30 [7,8,9] [(145,pP bp0 5),(144,pP bp0 0),(143,vI (IntKind.i64.wrap (e5-1)))]<|go3_arrAddr (d:=146) (ty:=0) (t:=84) (len:=8) (el:=3) (b:=bp0) (o0:=5) (sz:=1) (x:=(.tmp 145)) (y:=(.tmp 138)) (k':=.i64) (j:=x1.A) (jn:=((x1.A).toNat)) (by kernel_rfl) (by kernel_rfl) (by kernel_rfl) (by kernel_rfl) (by kernel_rfl) (Int.toNat_of_nonneg hc24).symm (lt_of_get hx10) ?_
    refine go_alt3 (fun KK hKK=>?_) ?_
    ·have hS225:=hS224.b 1
     refine ge_setA (b:=bp0) (off:=5) (jn:=((x1.A).toNat)) (nn:=8) (t:=86) (pre:=[(.slice Ap0_0 lp0_0.length cp0_0),(.slice Ap0_1 lp0_1.length cp0_1),(.slice Ap0_2 lp0_2.length cp0_2),(.slice Ap0_3 lp0_3.length cp0_3),(.slice Ap0_4 lp0_4.length cp0_4)]) (post:=[vI sp0_13,vI sp0_14]) (l:=(arrN 8 sp0_5)) (u:=e5) (v:=(IntKind.i64.wrap (e5-1))) (cs:=#[(.slice Ap0_0 lp0_0.length cp0_0),(.slice Ap0_1 lp0_1.length cp0_1),(.slice Ap0_2 lp0_2.length cp0_2),(.slice Ap0_3 lp0_3.length cp0_3),(.slice Ap0_4 lp0_4.length cp0_4),vI ((sp0_5[0]?).getD 0),vI ((sp0_5[1]?).getD 0),vI ((sp0_5[2]?).getD 0),vI ((sp0_5[3]?).getD 0),vI ((sp0_5[4]?).getD 0),vI ((sp0_5[5]?).getD 0),vI ((sp0_5[6]?).getD 0),vI ((sp0_5[7]?).getD 0),vI sp0_13,vI sp0_14]) hS225 (by kernel_rfl) rfl rfl rfl hx10 fun w24 hS226=>?_
     have hS227:=hS226.nc #[(.slice Ap0_0 lp0_0.length cp0_0),(.slice Ap0_1 lp0_1.length cp0_1),(.slice Ap0_2 lp0_2.length cp0_2),(.slice Ap0_3 lp0_3.length cp0_3),(.slice Ap0_4 lp0_4.length cp0_4),vI ((((arrN 8 sp0_5).set ((x1.A).toNat) (IntKind.i64.wrap (e5-1)))[0]?).getD 0),vI ((((arrN 8 sp0_5).set ((x1.A).toNat) (IntKind.i64.wrap (e5-1)))[1]?).getD 0),vI ((((arrN 8 sp0_5).set ((x1.A).toNat) (IntKind.i64.wrap (e5-1)))[2]?).getD 0),vI ((((arrN 8 sp0_5).set ((x1.A).toNat) (IntKind.i64.wrap (e5-1)))[3]?).getD 0),vI ((((arrN 8 sp0_5).set ((x1.A).toNat) (IntKind.i64.wrap (e5-1)))[4]?).getD 0),vI ((((arrN 8 sp0_5).set ((x1.A).toNat) (IntKind.i64.wrap (e5-1)))[5]?).getD 0),vI ((((arrN 8 sp0_5).set ((x1.A).toNat) (IntKind.i64.wrap (e5-1)))[6]?).getD 0),vI ((((arrN 8 sp0_5).set ((x1.A).toNat) (IntKind.i64.wrap (e5-1)))[7]?).getD 0),vI sp0_13,vI sp0_14] rfl
     refine g2 hKK<|go_fin3 fun a hF=>hK34 _ _ ?_ a hF
     refine ws fun K35 hK35=>wr [(0,0),(1,0),(2,0)]<|gb [0,1,2] [(4,vI x1.B),(148,vI x1.B),(147,pP b1 2)] [ld b1 2 (vI x1.B)] ⟨hS227.c 1,trivial⟩<|gn hK35 ?_
     have hS235:=hS227.p [0,2,3,4,5,6,7] rfl
     obtain rfl:=si h
     exact we_ret (pr0 [.tmp 4] [vI x1.B] ⟨(.slice Ap0_2 lp0_2.length cp0_2),(.slice Ap0_3 lp0_3.length cp0_3),(.slice Ap0_4 lp0_4.length cp0_4),rfl,hS235⟩)
    exact go_nomore3
   rw [if_neg hc25] at h
   refine wk 135 (decide (e5 > 0)) false (decide_eq_false hc25)<|wf<|we_skip fun a hF=>hK2 _ _ ?_ a hF
   refine ws fun K36 hK36=>wr [(0,0),(1,0),(2,0),(3,0),(4,0),(5,0)]<|gb [0,1,2,3,4,5] [(4,vI (IntKind.i64.wrap (sp0_13+1))),(161,vI (IntKind.i64.wrap (sp0_13+1))),(160,vI sp0_13),(159,pP bp0 13),(158,pP bp0 0),(157,pP bp0 0)] [ld bp0 13 (vI sp0_13)] ⟨hS223.c 1,trivial⟩<|gn hK36 ?_
   have hS243:=hS223.p [1,2,3,4,5,6,7] rfl
   obtain rfl:=si h
   exact we_ret (pr0 [.tmp 4] [vI (IntKind.i64.wrap (sp0_13+1))] ⟨(.slice Ap0_2 lp0_2.length cp0_2),(.slice Ap0_3 lp0_3.length cp0_3),(.slice Ap0_4 lp0_4.length cp0_4),rfl,hS243⟩)
  rw [if_neg hc24] at h
  cases h
 rw [if_neg hc23] at h
 refine wk 126 (x1.Op==14) false (beq_eq_false_iff_ne.2 hc23)<|wf<|ws fun K37 hK37=>wr [(0,0),(1,0)]<|gb0 [0,1] [(149,.bool (x1.Op==15)),(150,.bool (x1.Op==15))]<|gn hK37 ?_
 by_cases hc26:x1.Op=15
 ·rw [if_pos hc26] at h
  refine wk 149 (x1.Op==15) true (beq_iff_eq.2 hc26)<|wt<|we_orders3 (by kernel_rfl) [(2,[⟨b1,1,none⟩],[],[])] (.vals [0] (.vals [1] (.vals [2] (.vals [3] (.vals [4] (.vals [5] (.alt 6 2 .fin .nomore))))))) (by kernel_rfl) (by kernel_rfl) ?_
  have hS244:=hS1.drew
  refine g30 [0,1] [(152,pP b1 1),(151,pP bp0 0)]<|g3 2 [(153,vI x1.A)] [ld b1 1 (vI x1.A)] ⟨hS244.c 0,trivial⟩<|g30 [3,4] [(155,pP bp0 5),(154,pP bp0 0)] ?_
  by_cases hc27:0≤x1.A
  ·rw [if_pos hc27] at h
   rcases hx11:(arrN 8 sp0_5)[(x1.A).toNat]? with _ | e6
   ·rw [hx11] at h; cases h
   rw [hx11] at h
   simp only [] at h
   refine go3_arrAddr (d:=156) (ty:=0) (t:=84) (len:=8) (el:=3) (b:=bp0) (o0:=5) (sz:=1) (x:=(.tmp 155)) (y:=(.tmp 153)) (k':=.i64) (j:=x1.A) (jn:=((x1.A).toNat)) (by kernel_rfl) (by kernel_rfl) (by kernel_rfl) (by kernel_rfl) (by kernel_rfl) (Int.toNat_of_nonneg hc27).symm (lt_of_get hx11) ?_
   refine go_alt3 (fun KK hKK=>?_) ?_
   ·have hS245:=hS244.b 1
    refine ge_setA (b:=bp0) (off:=5) (jn:=((x1.A).toNat)) (nn:=8) (t:=86) (pre:=[(.slice Ap0_0 lp0_0.length cp0_0),(.slice Ap0_1 lp0_1.length cp0_1),(.slice Ap0_2 lp0_2.length cp0_2),(.slice Ap0_3 lp0_3.length cp0_3),(.slice Ap0_4 lp0_4.length cp0_4)]) (post:=[vI sp0_13,vI sp0_14]) (l:=(arrN 8 sp0_5)) (u:=e6) (v:=0) (cs:=#[(.slice Ap0_0 lp0_0.length cp0_0),(.slice Ap0_1 lp0_1.length cp0_1),(.slice Ap0_2 lp0_2.length cp0_2),(.slice Ap0_3 lp0_3.length cp0_3),(.slice Ap0_4 lp0_4.length cp0_4),vI ((sp0_5[0]?).getD 0),vI ((sp0_5[1]?).getD 0),vI ((sp0_5[2]?).getD 0),vI ((sp0_5[3]?).getD 0),vI ((sp0_5[4]?).getD 0),vI ((sp0_5[5]?).getD 0),vI ((sp0_5[6]?).getD 0),vI ((sp0_5[7]?).getD 0),vI sp0_13,vI sp0_14]) hS245 (by kernel_rfl) rfl rfl rfl hx11 fun w25 hS246=>?_
    have hS247:=hS246.nc #[(.slice Ap0_0 lp0_0.length cp0_0),(.slice Ap0_1 lp0_1.length cp0_1),(.slice Ap0_2 lp0_2.length cp0_2),(.slice Ap0_3 lp0_3.length cp0_3),(.slice Ap0_4 lp0_4.length cp0_4),vI ((((arrN 8 sp0_5).set ((x1.A).toNat) 0)[0]?).getD 0),vI ((((arrN 8 sp0_5).set ((x1.A).toNat) 0)[1]?).getD 0),vI ((((arrN 8 sp0_5).set ((x1.A).toNat) 0)[2]?).getD 0),vI ((((arrN 8 sp0_5).set ((x1.A).toNat) 0)[3]?).getD 0),vI ((((arrN 8 sp0_5).set ((x1.A).toNat) 0)[4]?).getD 0),vI ((((arrN 8 sp0_5).set ((x1.A).toNat) 0)[5]?).getD 0),vI ((((arrN 8 sp0_5).set ((x1.A).toNat) 0)[6]?).getD 0),vI ((((arrN 8 sp0_5).set ((x1.A).toNat) 0)[7]?).getD 0),vI sp0_13,vI sp0_14] rfl
    refine g2 hKK<|go_fin3 fun a hF=>hK2 _ _ ?_ a hF
    refine ws fun K38 hK38=>wr [(0,0),(1,0),(2,0),(3,0),(4,0),(5,0)]<|gb [0,1,2,3,4,5] [(4,vI (IntKind.i64.wrap (sp0_13+1))),(161,vI (IntKind.i64.wrap (sp0_13+1))),(160,vI sp0_13),(159,pP bp0 13),(158,pP bp0 0),(157,pP bp0 0)] [ld bp0 13 (vI sp0_13)] ⟨hS247.c 0,trivial⟩<|gn hK38 ?_
    have hS255:=hS247.p [0,2,3,4,5,6,7] rfl
    obtain rfl:=si h
    exact we_ret (pr0 [.tmp 4] [vI (IntKind.i64.wrap (sp0_13+1))] ⟨(.slice Ap0_2 lp0_2.length cp0_2),(.slice Ap0_3 lp0_3.length cp0_3),(.slice Ap0_4 lp0_4.length cp0_4),rfl,hS255⟩)
   exact go_nomore3
  rw [if_neg hc27] at h
  cases h
 rw [if_neg hc26] at h
 refine wk 149 (x1.Op==15) false (beq_eq_false_iff_ne.2 hc26)<|wf<|we_skip fun a hF=>hK2 _ _ ?_ a hF
 refine ws fun K39 hK39=>wr [(0,0),(1,0),(2,0),(3,0),(4,0),(5,0)]<|gb [0,1,2,3,4,5] [(4,vI (IntKind.i64.wrap (sp0_13+1))),(161,vI (IntKind.i64.wrap (sp0_13+1))),(160,vI sp0_13),(159,pP bp0 13),(158,pP bp0 0),(157,pP bp0 0)] [ld bp0 13 (vI sp0_13)] ⟨hS1.c 1,trivial⟩<|gn hK39 ?_
 have hS263:=hS1.p [1,2,3,4,5,6,7] rfl
 obtain rfl:=si h
 exact we_ret (pr0 [.tmp 4] [vI (IntKind.i64.wrap (sp0_13+1))] ⟨(.slice Ap0_2 lp0_2.length cp0_2),(.slice Ap0_3 lp0_3.length cp0_3),(.slice Ap0_4 lp0_4.length cp0_4),rfl,hS263⟩)
end Go.Proofs.YtnckikjcjgmdlaaDoor.GV
