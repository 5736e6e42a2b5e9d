/- Walks of single functions, written by a program of this work. -/
import Derived.Test.YtnckikjcjgmdlaaDoorGWMachTicks4
namespace Go.Proofs.YtnckikjcjgmdlaaDoor.GV
open Go Go.RowKit
set_option linter.unusedVariables false
set_option linter.unusedSimpArgs false
set_option maxRecDepth 100000

/-! punctual/punctualref.Steps -/
abbrev punctualref_Steps.Post (w0:World) (r:SEnded×(List SStep)×Bool) (e:Ending) (w:World):Prop:=∃ (v0:Value) (v1:Value) (v2:Value),e=.returned (.tuple #[.agg #[v0,v1,vI r.1.Steps],v2,.bool r.2.2])∧St w0 w [Own.of v0 3 r.1.Vars,Own.of v1 101 r.1.Puts,Own.of v2 96 r.2.1]
def punctualref_Steps.p1 (l2 : List Int) (z1 : Int) (m2 : List Int) (m3 : List Int) (m4 : List SPut) (mp1 : List (Int × Int)) (e1 : SIns) : Option ((Int × Bool × (List Int) × (List Int) × (List SPut) × (List (Int × Int))) ⊕ (SEnded × (List SStep) × Bool)) :=
  if e1.Op=1 then
   if m2.length<17592186044416 then
    some (.inl (IntKind.i64.wrap (z1+1),false,(m2++[e1.A]),m3,m4,mp1))
   else
    none
  else
   if e1.Op=2 then
    if 0≤e1.A then
     match m3[(e1.A).toNat]? with
     | none=>none
     | some e2 =>
      if m2.length<17592186044416 then
       some (.inl (IntKind.i64.wrap (z1+1),false,(m2++[e2]),m3,m4,mp1))
      else
       none
    else
     none
   else
    if e1.Op=3 then
     if 0≤(IntKind.i64.wrap ((m2.length:Int)-1)) then
      match m2[(IntKind.i64.wrap ((m2.length:Int)-1)).toNat]? with
      | none=>none
      | some e3 =>
       if 0≤e1.A then
        match m3[(e1.A).toNat]? with
        | none=>none
        | some e4 =>
         if ((IntKind.i64.wrap ((m2.length:Int)-1)).toNat)≤m2.length then
          some (.inl (IntKind.i64.wrap (z1+1),false,(m2.take ((IntKind.i64.wrap ((m2.length:Int)-1)).toNat)),(m3.set ((e1.A).toNat) e3),m4,mp1))
         else
          none
       else
        none
     else
      none
    else
     if e1.Op=4 then
      if 0≤(IntKind.i64.wrap ((m2.length:Int)-2)) then
       match m2[(IntKind.i64.wrap ((m2.length:Int)-2)).toNat]? with
       | none=>none
       | some e5 =>
        if 0≤(IntKind.i64.wrap ((m2.length:Int)-1)) then
         match m2[(IntKind.i64.wrap ((m2.length:Int)-1)).toNat]? with
         | none=>none
         | some e6 =>
          match punctualref_Steps_1.f (IntKind.i64.wrap (e5+e6)) m2 (m2.length:Int) with
          | none=>none
          | some r1 =>
           some (.inl (IntKind.i64.wrap (z1+1),false,r1,m3,m4,mp1))
        else
         none
      else
       none
     else
      if e1.Op=5 then
       if 0≤(IntKind.i64.wrap ((m2.length:Int)-2)) then
        match m2[(IntKind.i64.wrap ((m2.length:Int)-2)).toNat]? with
        | none=>none
        | some e7 =>
         if 0≤(IntKind.i64.wrap ((m2.length:Int)-1)) then
          match m2[(IntKind.i64.wrap ((m2.length:Int)-1)).toNat]? with
          | none=>none
          | some e8 =>
           match punctualref_Steps_1.f (IntKind.i64.wrap (e7-e8)) m2 (m2.length:Int) with
           | none=>none
           | some r2 =>
            some (.inl (IntKind.i64.wrap (z1+1),false,r2,m3,m4,mp1))
         else
          none
       else
        none
      else
       if e1.Op=6 then
        if 0≤(IntKind.i64.wrap ((m2.length:Int)-2)) then
         match m2[(IntKind.i64.wrap ((m2.length:Int)-2)).toNat]? with
         | none=>none
         | some e9 =>
          if 0≤(IntKind.i64.wrap ((m2.length:Int)-1)) then
           match m2[(IntKind.i64.wrap ((m2.length:Int)-1)).toNat]? with
           | none=>none
           | some e10 =>
            match punctualref_Steps_1.f (IntKind.i64.wrap (e9*e10)) m2 (m2.length:Int) with
            | none=>none
            | some r3 =>
             some (.inl (IntKind.i64.wrap (z1+1),false,r3,m3,m4,mp1))
          else
           none
        else
         none
       else
        if e1.Op=7 then
         if 0≤(IntKind.i64.wrap ((m2.length:Int)-2)) then
          match m2[(IntKind.i64.wrap ((m2.length:Int)-2)).toNat]? with
          | none=>none
          | some e11 =>
           if 0≤(IntKind.i64.wrap ((m2.length:Int)-1)) then
            match m2[(IntKind.i64.wrap ((m2.length:Int)-1)).toNat]? with
            | none=>none
            | some e12 =>
             match punctualref_Steps_1.f (punctualref_Steps_2.f (decide (e11<e12))) m2 (m2.length:Int) with
             | none=>none
             | some r4 =>
              some (.inl (IntKind.i64.wrap (z1+1),false,r4,m3,m4,mp1))
           else
            none
         else
          none
        else
         if e1.Op=8 then
          if 0≤(IntKind.i64.wrap ((m2.length:Int)-2)) then
           match m2[(IntKind.i64.wrap ((m2.length:Int)-2)).toNat]? with
           | none=>none
           | some e13 =>
            if 0≤(IntKind.i64.wrap ((m2.length:Int)-1)) then
             match m2[(IntKind.i64.wrap ((m2.length:Int)-1)).toNat]? with
             | none=>none
             | some e14 =>
              match punctualref_Steps_1.f (punctualref_Steps_2.f (e13==e14)) m2 (m2.length:Int) with
              | none=>none
              | some r5 =>
               some (.inl (IntKind.i64.wrap (z1+1),false,r5,m3,m4,mp1))
            else
             none
          else
           none
         else
          if e1.Op=9 then
           if 0≤e1.A then
            match l2[(e1.A).toNat]? with
            | none=>none
            | some e15 =>
             if m2.length<17592186044416 then
              some (.inl (IntKind.i64.wrap (z1+1),false,(m2++[e15]),m3,m4,mp1))
             else
              none
           else
            none
          else
           if e1.Op=10 then
            if 0≤(IntKind.i64.wrap ((m2.length:Int)-1)) then
             match m2[(IntKind.i64.wrap ((m2.length:Int)-1)).toNat]? with
             | none=>none
             | some e16 =>
              if m4.length<8796093022208 then
               if ((IntKind.i64.wrap ((m2.length:Int)-1)).toNat)≤m2.length then
                some (.inl (IntKind.i64.wrap (z1+1),false,(m2.take ((IntKind.i64.wrap ((m2.length:Int)-1)).toNat)),m3,(m4++[(⟨e1.A,e16⟩:SPut)]),mp1))
               else
                none
              else
               none
            else
             none
           else
            if e1.Op=11 then
             some (.inl (e1.A,false,m2,m3,m4,mp1))
            else
             if e1.Op=12 then
              if 0≤(IntKind.i64.wrap ((m2.length:Int)-1)) then
               match m2[(IntKind.i64.wrap ((m2.length:Int)-1)).toNat]? with
               | none=>none
               | some e17 =>
                if e17=0 then
                 if ((IntKind.i64.wrap ((m2.length:Int)-1)).toNat)≤m2.length then
                  some (.inl (e1.A,true,(m2.take ((IntKind.i64.wrap ((m2.length:Int)-1)).toNat)),m3,m4,mp1))
                 else
                  none
                else
                 if ((IntKind.i64.wrap ((m2.length:Int)-1)).toNat)≤m2.length then
                  some (.inl (IntKind.i64.wrap (z1+1),false,(m2.take ((IntKind.i64.wrap ((m2.length:Int)-1)).toNat)),m3,m4,mp1))
                 else
                  none
              else
               none
             else
              if e1.Op=13 then
               some (.inl (IntKind.i64.wrap (z1+1),false,m2,m3,m4,(mset mp1 e1.A e1.B)))
              else
               if e1.Op=14 then
                if ((mget mp1 e1.A).getD 0) > 0 then
                 some (.inl (e1.B,true,m2,m3,m4,(mset mp1 e1.A (IntKind.i64.wrap (((mget mp1 e1.A).getD 0)-1)))))
                else
                 some (.inl (IntKind.i64.wrap (z1+1),false,m2,m3,m4,mp1))
               else
                if e1.Op=15 then
                 some (.inl (IntKind.i64.wrap (z1+1),false,m2,m3,m4,(mset mp1 e1.A 0)))
                else
                 some (.inl (IntKind.i64.wrap (z1+1),false,m2,m3,m4,mp1))
def punctualref_Steps.r0 (l0 : List SIns) (l2 : List Int) (x3 : Int) : (List SStep) × Int × (List Int) × (List Int) × (List SPut) × Int × (List (Int × Int)) → Option (((List SStep) × Int × (List Int) × (List Int) × (List SPut) × Int × (List (Int × Int))) ⊕ (((List SStep) × (List Int) × (List SPut) × Int) ⊕ (SEnded × (List SStep) × Bool)))
 | (m1,z1,m2,m3,m4,z2,mp1) =>
  if z1<(l0.length:Int) then
   if (m1.length:Int)=x3 then
    some (.inr (.inr ((⟨m3,m4,z2⟩:SEnded),m1,false)))
   else
    if 0≤z1 then
     match l0[(z1).toNat]? with
     | none=>none
     | some e1 =>
      match punctualref_Steps.p1 l2 z1 m2 m3 m4 mp1 e1 with
      | none=>none
      | some (.inl (z5,q2,m11,m12,m13,mp3)) =>
       if m1.length<8796093022208 then
        some (.inl ((m1++[(⟨z1,(punctualref_Ticks.f e1 q2)⟩:SStep)]),z5,m11,m12,m13,IntKind.i64.wrap (z2+(punctualref_Ticks.f e1 q2)),mp3))
       else
        none
      | some (.inr rr1) =>
       some (.inr (.inr rr1))
    else
     none
  else
   some (.inr (.inl (m1,m3,m4,z2)))
def punctualref_Steps.f (K : Nat) (l0 : List SIns) (l1 : List Int) (l2 : List Int) (x3 : Int) : Option (SEnded × (List SStep) × Bool) :=
 if 0+l1.length≤17592186044416 then
  match iter (punctualref_Steps.r0 l0 l2 x3) K (([]:List SStep),0,([]:List Int),l1,([]:List SPut),0,([]:List (Int×Int))) with
  | none=>none
  | some (.inl (m14,m15,m16,z6)) =>
   some ((⟨m15,m16,z6⟩:SEnded),m14,true)
  | some (.inr rr2) =>
   some rr2
 else
  none
abbrev punctualref_Steps.A1 (w0:World) (l0:List SIns) (A0:OA) (c0:Nat) (l2:List Int) (A2:OA) (c2:Nat) (x3:Int) (b1:Nat) (Z1:OA) (cz1 b3 b4 b5:Nat) (m1:List SStep) (z1 z2:Int) (Z2:OA) (cz2:Nat) (e1:SIns) (b6:Nat):(Int×Bool×(List Int)×(List Int)×(List SPut)×(List (Int×Int)))→Act→World→Prop:=fun (s:Int×Bool×(List Int)×(List Int)×(List SPut)×(List (Int×Int))) a w=>∃ (v7:Value) (v8:Value),St w0 w [bk b6 #[vI e1.Op,vI e1.A,vI e1.B] 29,bk b4 #[v7] 37,bk b3 #[(.slice Z1 s.2.2.2.1.length cz1),v8,vI z2] 91,bk b1 #[.slice none 0 0,.slice none 0 0,vI 0] 91,ro Z2 cz2 96 m1,Own.of v7 3 s.2.2.1,ro Z1 cz1 3 s.2.2.2.1,Own.of v8 101 s.2.2.2.2.1,Own.map (κ:=Int) (ν:=Int) b5 s.2.2.2.2.2]∧Frm 252 a [(0,.slice A0 l0.length c0),(2,.slice A2 l2.length c2),(3,vI x3),(8,pP b1 0),(11,pP b3 0),(12,(.slice Z2 m1.length cz2)),(13,pP b4 0),(14,.map (some b5)),(15,vI z1),(16,pP b6 0),(17,vI s.1),(18,.bool s.2.1)]
abbrev punctualref_Steps.B1 (w0:World):(SEnded×(List SStep)×Bool)→Exit→Act→World→Prop:=Rets Tryd.prog Tryd.f45 (punctualref_Steps.Post w0)
theorem punctualref_Steps_p1 (K:Nat) (w0:World) (l0:List SIns) (A0:OA) (c0:Nat) (l1:List Int) (A1:OA) (c1:Nat) (l2:List Int) (A2:OA) (c2:Nat) (x3:Int) (hR0:RdL w0 A0 l0) (hL0:l0.length≤c0) (hR1:RdL w0 A1 l1) (hL1:l1.length≤c1) (hR2:RdL w0 A2 l2) (hL2:l2.length≤c2) (b1 b2:Nat) (hc1:0+l1.length≤17592186044416) (Z1:OA) (cz1 b3 b4 b5:Nat) (m1:List SStep) (z1:Int) (m2 m3:List Int) (m4:List SPut) (z2:Int) (mp1:List (Int×Int)) (hc2:z1<(l0.length:Int)) (Z2:OA) (cz2:Nat) (hc3:¬ ((m1.length:Int)=x3)) (hc4:0≤z1) (e1:SIns) (hx6:l0[(z1).toNat]?=some e1) (b6:Nat) (Z4:OA) (cz4 b7:Nat) (Z5:OA) (cz5:Nat) (o:(Int×Bool×(List Int)×(List Int)×(List SPut)×(List (Int×Int))) ⊕ (SEnded×(List SStep)×Bool)) (h:punctualref_Steps.p1 l2 z1 m2 m3 m4 mp1 e1=some o) (w:World) (hS:St w0 w [bk b7 #[vI (m2.length:Int)] 3,bk b6 #[vI e1.Op,vI e1.A,vI e1.B] 29,bk b4 #[(.slice Z4 m2.length cz4)] 37,bk b3 #[(.slice Z1 m3.length cz1),(.slice Z5 m4.length cz5),vI z2] 91,bk b1 #[.slice none 0 0,.slice none 0 0,vI 0] 91,ro Z2 cz2 96 m1,ro Z4 cz4 3 m2,ro Z1 cz1 3 m3,ro Z5 cz5 101 m4,Own.map (κ:=Int) (ν:=Int) b5 mp1]) (Q:Exit→Act→World→Prop) (hQ:∀ x a w,Outs (punctualref_Steps.A1 w0 l0 A0 c0 l2 A2 c2 x3 b1 Z1 cz1 b3 b4 b5 m1 z1 z2 Z2 cz2 e1 b6) (punctualref_Steps.B1 w0) o x a w→Q x a w):WE Tryd.prog 252 (subF Tryd.f45 [1,1,1,1,1,1,0,0,0,1,0,1,1,1,1,1,1,0]) Q ((0,.slice A0 l0.length c0)::(2,.slice A2 l2.length c2)::(3,vI x3)::(8,pP b1 0)::(11,pP b3 0)::(12,(.slice Z2 m1.length cz2))::(13,pP b4 0)::(14,.map (some b5))::(15,vI z1)::(16,pP b6 0)::(17,vI (IntKind.i64.wrap (z1+1)))::(18,.bool false)::(19,pP b7 0)::(20,.func (.func 66) #[] #[pP b4 0,pP b7 0])::(21,.func (.func 67) #[] #[])::(28,vI z1)::(29,.slice A0 l0.length c0)::(30,vI (l0.length:Int))::(31,.bool true)::(32,(.slice Z2 m1.length cz2))::(33,vI (m1.length:Int))::(34,vI x3)::(35,.bool false)::(38,.slice A0 l0.length c0)::(39,vI z1)::(40,.pointer (some ⟨blkOf A0,offOf A0+(z1).toNat*3,none⟩))::(41,.agg #[vI e1.Op,vI e1.A,vI e1.B])::(42,vI z1)::(43,vI (IntKind.i64.wrap (z1+1)))::(44,(.slice Z4 m2.length cz4))::(45,vI (m2.length:Int))::(46,.func (.func 66) #[] #[pP b4 0,pP b7 0])::[]) w:=by
 simp only [punctualref_Steps.p1] at h
 refine ws fun K19 hK19=>wr [(0,0),(1,0)]<|gb [0,1] [(48,vI e1.Op),(47,pP b6 0)] [ld b6 0 (vI e1.Op)] ⟨hS.c 1,trivial⟩<|gn hK19<|we_block<|ws fun K20 hK20=>wr [(0,0),(1,0)]<|gb0 [0,1] [(49,.bool (e1.Op==1)),(50,.bool (e1.Op==1))]<|gn hK20 ?_
 by_cases hc5:e1.Op=1
 ·rw [if_pos hc5] at h
  refine wk 49 (e1.Op==1) true (beq_iff_eq.2 hc5)<|wt<|wr [(0,0),(1,0),(2,0),(3,1),(4,2),(5,2)]<|gb [0,1,2] [(53,vI e1.A),(52,pP b6 1),(51,(.slice Z4 m2.length cz4))] [ld b4 0 ((.slice Z4 m2.length cz4)),ld b6 1 (vI e1.A)] ⟨hS.c 2,hS.c 1,trivial⟩<|gw (some 54) (.cells #[vI e1.A] 3) (fun b=>.slice (some ⟨b,0,none⟩) 1 1) hS fun b8 w13 hx9 hS36=>?_
  have hS37:=hS36.b 7
  by_cases hc6:m2.length<17592186044416
  ·rw [if_pos hc6] at h
   refine ge_append (α:=Int) (m:=0) (d:=55) (t:=37) (el:=3) (bytes:=8) (c1:=1) (b1:=b8) (x:=(.tmp 51)) (y:=(.tmp 54)) (ty:=37) (v:=(.slice Z4 m2.length cz4)) (z:=vI 0) (l:=m2) (u:=e1.A) (by kernel_rfl) (by kernel_rfl) (by kernel_rfl) (by kernel_rfl) (by kernel_rfl) rfl hS37 rfl (by omega) fun v9 w14 hS38=>?_
   obtain ⟨Z6,cz6,rfl⟩:=hS38.open 0 rfl
   have hS39:=hS38.b 3
   refine gs b4 0 #[(.slice Z4 m2.length cz4)] 37 [(.slice Z6 (m2++[e1.A]).length cz6)] hS39 fun w15 hS40=>?_
   have hS51:=((((((((((hS40.nc #[(.slice Z6 (m2++[e1.A]).length cz6)] rfl).b 9).b 9).b 9).b 4).b 9).b 9).b 9).b 7).b 9).takeN 9
   obtain rfl:=si h
   exact ge_nil fun a hF=>hQ _ _ _ (Outs.again ⟨(.slice Z6 (m2++[e1.A]).length cz6),(.slice Z5 m4.length cz5),hS51,hF.weaken ea⟩)
  rw [if_neg hc6] at h
  cases h
 rw [if_neg hc5] at h
 refine wk 49 (e1.Op==1) false (beq_eq_false_iff_ne.2 hc5)<|wf<|ws fun K21 hK21=>wr [(0,0),(1,0)]<|gb0 [0,1] [(56,.bool (e1.Op==2)),(57,.bool (e1.Op==2))]<|gn hK21 ?_
 by_cases hc7:e1.Op=2
 ·rw [if_pos hc7] at h
  refine wk 56 (e1.Op==2) true (beq_iff_eq.2 hc7)<|wt<|we_orders3 (by kernel_rfl) [(0,[⟨b4,0,none⟩],[],[]),(2,[⟨b3,0,none⟩],[5,6,7,8],[]),(4,[⟨b6,1,none⟩],[5,6,7,8],[]),(6,[⟨blkOf Z1,offOf Z1+((e1.A).toNat)*1,none⟩],[7,8],[])] (.vals [0] (.vals [1] (.vals [2] (.vals [3] (.vals [4] (.vals [5] (.vals [6] (.alt 7 1 (.alt 8 2 (.alt 9 2 .fin .nomore) .nomore) .nomore)))))))) (by kernel_rfl) (by kernel_rfl) ?_
  have hS52:=hS.drew
  refine g3 0 [(58,(.slice Z4 m2.length cz4))] [ld b4 0 ((.slice Z4 m2.length cz4))] ⟨hS52.c 2,trivial⟩<|g30 [1] [(59,pP b3 0)]<|g3 2 [(60,(.slice Z1 m3.length cz1))] [ld b3 0 ((.slice Z1 m3.length cz1))] ⟨hS52.c 3,trivial⟩<|g30 [3] [(61,pP b6 1)]<|g3 4 [(62,vI e1.A)] [ld b6 1 (vI e1.A)] ⟨hS52.c 1,trivial⟩ ?_
  by_cases hc8:0≤e1.A
  ·rw [if_pos hc8] at h
   rcases hx10:m3[(e1.A).toNat]? with _ | e2
   ·rw [hx10] at h; cases h
   rw [hx10] at h
   simp only [] at h
   refine go3_index (d:=63) (ty:=0) (t:=37) (el:=3) (sz:=1) (m:=m3.length) (c:=cz1) (x:=(.tmp 60)) (y:=(.tmp 62)) (A:=Z1) (k':=.i64) (j:=e1.A) (jn:=((e1.A).toNat)) (b0:=blkOf Z1) (o0:=offOf Z1) (by kernel_rfl) (by kernel_rfl) (by kernel_rfl) (by kernel_rfl) (by kernel_rfl) ((hS52.rdAt 7 rfl).eqSome (pos_of_get hx10)) (Int.toNat_of_nonneg hc8).symm (lt_of_get hx10) ?_
   refine g3 6 [(64,vI e2)] [.loaded ⟨blkOf Z1,offOf Z1+((e1.A).toNat)*1,none⟩ (vI e2)] ⟨RdL.cell (j:=0) (hS52.rdAt 7 rfl) hx10 rfl,trivial⟩<|go_alt3 (fun KK hKK=>?_) ?_
   ·refine ge_one2<|gw (some 65) (.cells #[vI e2] 3) (fun b=>.slice (some ⟨b,0,none⟩) 1 1) hS52 fun b9 w16 hx11 hS53=>?_
    refine ge_nil fun a hF=>hKK _ _ (RS.of2 (l:=[ld b4 0 ((.slice Z4 m2.length cz4))]) (by kernel_rfl) ⟨hS52.c 2,trivial⟩ ⟨hS53.c 3,trivial⟩) ?_ a hF
    refine go_alt3 (fun KK hKK=>?_) ?_
    ·have hS54:=hS53.b 7
     by_cases hc9:m2.length<17592186044416
     ·rw [if_pos hc9] at h
      refine ge_append (α:=Int) (m:=0) (d:=66) (t:=37) (el:=3) (bytes:=8) (c1:=1) (b1:=b9) (x:=(.tmp 58)) (y:=(.tmp 65)) (ty:=37) (v:=(.slice Z4 m2.length cz4)) (z:=vI 0) (l:=m2) (u:=e2) (by kernel_rfl) (by kernel_rfl) (by kernel_rfl) (by kernel_rfl) (by kernel_rfl) rfl hS54 rfl (by omega) fun v10 w17 hS55=>?_
      refine g2 hKK<|go_alt3 (fun KK hKK=>?_) ?_
      ·obtain ⟨Z7,cz7,rfl⟩:=hS55.open 0 rfl
       have hS56:=hS55.b 3
       refine gs b4 0 #[(.slice Z4 m2.length cz4)] 37 [(.slice Z7 (m2++[e2]).length cz7)] hS56 fun w18 hS57=>?_
       have hS58:=hS57.nc #[(.slice Z7 (m2++[e2]).length cz7)] rfl
       refine g2 hKK ?_
       have hS68:=hS58.p [3,0,4,5,6,1,7,8,9] rfl
       obtain rfl:=si h
       exact go_fin3 fun a hF=>hQ _ _ _ (Outs.again ⟨(.slice Z7 (m2++[e2]).length cz7),(.slice Z5 m4.length cz5),hS68,hF.weaken ea⟩)
      exact go_nomore3
     rw [if_neg hc9] at h
     cases h
    exact go_nomore3
   exact go_nomore3
  rw [if_neg hc8] at h
  cases h
 rw [if_neg hc7] at h
 refine wk 56 (e1.Op==2) false (beq_eq_false_iff_ne.2 hc7)<|wf<|ws fun K22 hK22=>wr [(0,0),(1,0)]<|gb0 [0,1] [(67,.bool (e1.Op==3)),(68,.bool (e1.Op==3))]<|gn hK22 ?_
 by_cases hc10:e1.Op=3
 ·rw [if_pos hc10] at h
  refine wk 67 (e1.Op==3) true (beq_iff_eq.2 hc10)<|wt<|ws fun K23 hK23=>we_draws (by kernel_rfl) [(0,0),(1,0),(2,0),(3,0),(4,0),(5,0),(6,0),(7,0),(8,0),(9,0),(10,2)] (by kernel_rfl) ?_
  have hS69:=hS.drew
  refine gb [0,1,2,3,4,5,6] [(75,vI (IntKind.i64.wrap ((m2.length:Int)-1))),(74,vI (m2.length:Int)),(73,(.slice Z4 m2.length cz4)),(72,vI e1.A),(71,pP b6 1),(70,(.slice Z1 m3.length cz1)),(69,pP b3 0)] [ld b3 0 ((.slice Z1 m3.length cz1)),ld b6 1 (vI e1.A),ld b4 0 ((.slice Z4 m2.length cz4)),ld b7 0 (vI (m2.length:Int))] ⟨hS69.c 3,hS69.c 1,hS69.c 2,hS69.c 0,trivial⟩ ?_
  by_cases hc11:0≤(IntKind.i64.wrap ((m2.length:Int)-1))
  ·rw [if_pos hc11] at h
   rcases hx12:m2[(IntKind.i64.wrap ((m2.length:Int)-1)).toNat]? with _ | e3
   ·rw [hx12] at h; cases h
   rw [hx12] at h
   simp only [] at h
   refine gi 76 0 37 3 1 m2.length cz4 (.tmp 73) (.tmp 75) Z4 .i64 (IntKind.i64.wrap ((m2.length:Int)-1)) ((IntKind.i64.wrap ((m2.length:Int)-1)).toNat) ((hS69.rdAt 6 rfl).eqSome (pos_of_get hx12)) (Int.toNat_of_nonneg hc11).symm (lt_of_get hx12) ?_
   refine gb [8] [(77,vI e3)] [.loaded ⟨blkOf Z4,offOf Z4+((IntKind.i64.wrap ((m2.length:Int)-1)).toNat)*1,none⟩ (vI e3)] ⟨RdL.cell (j:=0) (hS69.rdAt 6 rfl) hx12 rfl,trivial⟩ ?_
   by_cases hc12:0≤e1.A
   ·rw [if_pos hc12] at h
    rcases hx13:m3[(e1.A).toNat]? with _ | e4
    ·rw [hx13] at h; cases h
    rw [hx13] at h
    simp only [] at h
    refine gi 78 0 37 3 1 m3.length cz1 (.tmp 70) (.tmp 72) Z1 .i64 e1.A ((e1.A).toNat) ((hS69.rdAt 7 rfl).eqSome (pos_of_get hx13)) (Int.toNat_of_nonneg hc12).symm (lt_of_get hx13) ?_
    have hS70:=hS69.b 7
    refine ge_seti (α:=Int) (A:=Z1) (nn:=m3.length) (c:=cz1) (t:=3) (l:=m3) (x:=e4) (x':=e3) (jn:=((e1.A).toNat)) (j:=0) (vs:=[vI e3]) (l':=[.stored ⟨blkOf Z1,offOf Z1+((e1.A).toNat)*1,none⟩ (vI e3)]) hS70 (by kernel_rfl) (by kernel_rfl) hx13 rfl rfl rfl fun w19 hS71=>?_
    have hS72:St w0 w19 [Own.of (.slice Z1 m3.length cz1) 3 (m3.set ((e1.A).toNat) e3),bk b7 #[vI (m2.length:Int)] 3,bk b6 #[vI e1.Op,vI e1.A,vI e1.B] 29,bk b4 #[(.slice Z4 m2.length cz4)] 37,bk b3 #[(.slice Z1 m3.length cz1),(.slice Z5 m4.length cz5),vI z2] 91,bk b1 #[.slice none 0 0,.slice none 0 0,vI 0] 91,ro Z2 cz2 96 m1,ro Z4 cz4 3 m2,ro Z5 cz5 101 m4,Own.map (κ:=Int) (ν:=Int) b5 mp1]:=hS71
    have hE1:m3.length=(m3.set ((e1.A).toNat) e3).length:=hS72.lenAt 0 rfl
    have hS73:St w0 w19 [Own.of (.slice Z1 (m3.set ((e1.A).toNat) e3).length cz1) 3 (m3.set ((e1.A).toNat) e3),Own.blk b7 (.cells #[vI (m2.length:Int)] 3 (0,0)),Own.blk b6 (.cells #[vI e1.Op,vI e1.A,vI e1.B] 29 (0,0)),Own.blk b4 (.cells #[(.slice Z4 m2.length cz4)] 37 (0,0)),Own.blk b3 (.cells #[(.slice Z1 (m3.set ((e1.A).toNat) e3).length cz1),(.slice Z5 m4.length cz5),vI z2] 91 (0,0)),Own.blk b1 (.cells #[.slice none 0 0,.slice none 0 0,vI 0] 91 (0,0)),Own.of (.slice Z2 m1.length cz2) 96 m1,Own.of (.slice Z4 m2.length cz4) 3 m2,Own.of (.slice Z5 m4.length cz5) 101 m4,Own.map (κ:=Int) (ν:=Int) b5 mp1]:=by rw [← hE1]; exact hS72
    refine ge_same (t:=70) (v:=(.slice Z1 m3.length cz1)) (v':=(.slice Z1 (m3.set ((e1.A).toNat) e3).length cz1)) (by kernel_rfl) (by rw [hE1]) ?_
    refine gn hK23<|wr [(0,0),(1,0),(2,0),(3,0),(4,2)]<|gb [0,1,2] [(81,vI (IntKind.i64.wrap ((m2.length:Int)-1))),(80,vI (m2.length:Int)),(79,(.slice Z4 m2.length cz4))] [ld b4 0 ((.slice Z4 m2.length cz4)),ld b7 0 (vI (m2.length:Int))] ⟨hS73.c 3,hS73.c 1,trivial⟩ ?_
    by_cases hc13:((IntKind.i64.wrap ((m2.length:Int)-1)).toNat)≤m2.length
    ·rw [if_pos hc13] at h
     refine ge_sliceHi (d:=82) (ty:=37) (t:=37) (el:=3) (sz:=1) (m:=m2.length) (c:=cz4) (hn:=((IntKind.i64.wrap ((m2.length:Int)-1)).toNat)) (x:=(.tmp 79)) (y:=(.tmp 81)) (A:=Z4) (k':=.i64) (hi:=(IntKind.i64.wrap ((m2.length:Int)-1))) (by kernel_rfl) (by kernel_rfl) (by kernel_rfl) (Int.toNat_of_nonneg hc11).symm (by kernel_rfl) (by kernel_rfl) (by have f0:=hc13; have f1:=(hS73.capAt 7 rfl); omega) ?_
     refine ge_same (t:=82) (v:=.slice Z4 ((IntKind.i64.wrap ((m2.length:Int)-1)).toNat) cz4) (v':=.slice Z4 ((m2.take ((IntKind.i64.wrap ((m2.length:Int)-1)).toNat)).length) cz4) (by kernel_rfl) (congrArg (fun z=>Value.slice Z4 z cz4) (show (IntKind.i64.wrap ((m2.length:Int)-1)).toNat=(m2.take ((IntKind.i64.wrap ((m2.length:Int)-1)).toNat)).length by have f0:=hc13; have f1:=(hS73.capAt 7 rfl); simp only [List.length_take]; omega)) ?_
     have hS74:=hS73.b 3
     refine gs b4 0 #[(.slice Z4 m2.length cz4)] 37 [.slice Z4 ((m2.take ((IntKind.i64.wrap ((m2.length:Int)-1)).toNat)).length) cz4] hS74 fun w20 hS75=>?_
     have hS88:=((((((((((((hS75.nc #[.slice Z4 ((m2.take ((IntKind.i64.wrap ((m2.length:Int)-1)).toNat)).length) cz4] rfl).b 7).shrink ((IntKind.i64.wrap ((m2.length:Int)-1)).toNat)).b 9).b 9).b 4).b 3).b 9).b 9).b 9).b 7).b 9).takeN 9
     obtain rfl:=si h
     exact ge_nil fun a hF=>hQ _ _ _ (Outs.again ⟨(.slice Z4 (m2.take ((IntKind.i64.wrap ((m2.length:Int)-1)).toNat)).length cz4),(.slice Z5 m4.length cz5),hS88,hF.weaken ea⟩)
    rw [if_neg hc13] at h
    cases h
   rw [if_neg hc12] at h
   cases h
  rw [if_neg hc11] at h
  cases h
 rw [if_neg hc10] at h
 refine wk 67 (e1.Op==3) false (beq_eq_false_iff_ne.2 hc10)<|wf<|ws fun K24 hK24=>wr [(0,0),(1,0)]<|gb0 [0,1] [(83,.bool (e1.Op==4)),(84,.bool (e1.Op==4))]<|gn hK24 ?_
 by_cases hc14:e1.Op=4
 ·rw [if_pos hc14] at h
  refine wk 83 (e1.Op==4) true (beq_iff_eq.2 hc14)<|wt<|we_orders3 (by kernel_rfl) [(1,[⟨b4,0,none⟩],[4,5,11,12],[]),(2,[⟨b7,0,none⟩],[3,4,5,11,12],[]),(5,[⟨blkOf Z4,offOf Z4+((IntKind.i64.wrap ((m2.length:Int)-2)).toNat)*1,none⟩],[11,12],[]),(6,[⟨b4,0,none⟩],[9,10,11,12],[]),(7,[⟨b7,0,none⟩],[8,9,10,11,12],[]),(10,[⟨blkOf Z4,offOf Z4+((IntKind.i64.wrap ((m2.length:Int)-1)).toNat)*1,none⟩],[11,12],[])] (.vals [0] (.vals [1] (.vals [2] (.vals [3] (.vals [4] (.vals [5] (.vals [6] (.vals [7] (.vals [8] (.vals [9] (.vals [10] (.vals [11] (.alt 12 2 .fin .nomore))))))))))))) (by kernel_rfl) (by kernel_rfl) ?_
  have hS89:=hS.drew
  refine g30 [0] [(85,.func (.func 66) #[] #[pP b4 0,pP b7 0])]<|g3 1 [(86,(.slice Z4 m2.length cz4))] [ld b4 0 ((.slice Z4 m2.length cz4))] ⟨hS89.c 2,trivial⟩<|g3 2 [(87,vI (m2.length:Int))] [ld b7 0 (vI (m2.length:Int))] ⟨hS89.c 0,trivial⟩<|g30 [3] [(88,vI (IntKind.i64.wrap ((m2.length:Int)-2)))] ?_
  by_cases hc15:0≤(IntKind.i64.wrap ((m2.length:Int)-2))
  ·rw [if_pos hc15] at h
   rcases hx14:m2[(IntKind.i64.wrap ((m2.length:Int)-2)).toNat]? with _ | e5
   ·rw [hx14] at h; cases h
   rw [hx14] at h
   simp only [] at h
   refine go3_index (d:=89) (ty:=0) (t:=37) (el:=3) (sz:=1) (m:=m2.length) (c:=cz4) (x:=(.tmp 86)) (y:=(.tmp 88)) (A:=Z4) (k':=.i64) (j:=(IntKind.i64.wrap ((m2.length:Int)-2))) (jn:=((IntKind.i64.wrap ((m2.length:Int)-2)).toNat)) (b0:=blkOf Z4) (o0:=offOf Z4) (by kernel_rfl) (by kernel_rfl) (by kernel_rfl) (by kernel_rfl) (by kernel_rfl) ((hS89.rdAt 6 rfl).eqSome (pos_of_get hx14)) (Int.toNat_of_nonneg hc15).symm (lt_of_get hx14) ?_
   refine g3 5 [(90,vI e5)] [.loaded ⟨blkOf Z4,offOf Z4+((IntKind.i64.wrap ((m2.length:Int)-2)).toNat)*1,none⟩ (vI e5)] ⟨RdL.cell (j:=0) (hS89.rdAt 6 rfl) hx14 rfl,trivial⟩<|g3 6 [(91,(.slice Z4 m2.length cz4))] [ld b4 0 ((.slice Z4 m2.length cz4))] ⟨hS89.c 2,trivial⟩<|g3 7 [(92,vI (m2.length:Int))] [ld b7 0 (vI (m2.length:Int))] ⟨hS89.c 0,trivial⟩<|g30 [8] [(93,vI (IntKind.i64.wrap ((m2.length:Int)-1)))] ?_
   by_cases hc16:0≤(IntKind.i64.wrap ((m2.length:Int)-1))
   ·rw [if_pos hc16] at h
    rcases hx15:m2[(IntKind.i64.wrap ((m2.length:Int)-1)).toNat]? with _ | e6
    ·rw [hx15] at h; cases h
    rw [hx15] at h
    simp only [] at h
    refine go3_index (d:=94) (ty:=0) (t:=37) (el:=3) (sz:=1) (m:=m2.length) (c:=cz4) (x:=(.tmp 91)) (y:=(.tmp 93)) (A:=Z4) (k':=.i64) (j:=(IntKind.i64.wrap ((m2.length:Int)-1))) (jn:=((IntKind.i64.wrap ((m2.length:Int)-1)).toNat)) (b0:=blkOf Z4) (o0:=offOf Z4) (by kernel_rfl) (by kernel_rfl) (by kernel_rfl) (by kernel_rfl) (by kernel_rfl) ((hS89.rdAt 6 rfl).eqSome (pos_of_get hx15)) (Int.toNat_of_nonneg hc16).symm (lt_of_get hx15) ?_
    refine g3 10 [(95,vI e6)] [.loaded ⟨blkOf Z4,offOf Z4+((IntKind.i64.wrap ((m2.length:Int)-1)).toNat)*1,none⟩ (vI e6)] ⟨RdL.cell (j:=0) (hS89.rdAt 6 rfl) hx15 rfl,trivial⟩<|g30 [11] [(96,vI (IntKind.i64.wrap (e5+e6)))]<|go_alt3 (fun KK hKK=>?_) ?_
    ·rcases hq1:punctualref_Steps_1.f (IntKind.i64.wrap (e5+e6)) m2 (m2.length:Int) with _ | r1
     ·rw [hq1] at h; cases h
     rw [hq1] at h
     simp only [] at h
     have hS94:=(((hS89.b 6).b 1).b 3).packN 3
     refine ge_call2 (m:=0) (d:=some 97) (f:=66) (args:=#[vI (IntKind.i64.wrap (e5+e6)),pP b4 0,pP b7 0]) (by kernel_rfl) (punctualref_Steps_1_ok (IntKind.i64.wrap (e5+e6)) b4 m2 Z4 cz4 b7 (m2.length:Int) _ _ _ hS94 _ hq1) ?_
     rintro _ w21 ⟨v11,rfl,hS93⟩
     refine ⟨_,rfl,?_⟩
     have hS95:=hS93.unpack [bk b4 #[v11] 37,bk b7 #[vI (m2.length:Int)] 3,Own.of v11 3 r1]
     refine g2 hKK ?_
     have hS105:=hS95.p [3,0,4,5,6,2,7,8,9] rfl
     obtain rfl:=si h
     exact go_fin3 fun a hF=>hQ _ _ _ (Outs.again ⟨v11,(.slice Z5 m4.length cz5),hS105,hF.weaken ea⟩)
    exact go_nomore3
   rw [if_neg hc16] at h
   cases h
  rw [if_neg hc15] at h
  cases h
 rw [if_neg hc14] at h
 refine wk 83 (e1.Op==4) false (beq_eq_false_iff_ne.2 hc14)<|wf<|ws fun K25 hK25=>wr [(0,0),(1,0)]<|gb0 [0,1] [(98,.bool (e1.Op==5)),(99,.bool (e1.Op==5))]<|gn hK25 ?_
 by_cases hc17:e1.Op=5
 ·rw [if_pos hc17] at h
  refine wk 98 (e1.Op==5) true (beq_iff_eq.2 hc17)<|wt<|we_orders3 (by kernel_rfl) [(1,[⟨b4,0,none⟩],[4,5,11,12],[]),(2,[⟨b7,0,none⟩],[3,4,5,11,12],[]),(5,[⟨blkOf Z4,offOf Z4+((IntKind.i64.wrap ((m2.length:Int)-2)).toNat)*1,none⟩],[11,12],[]),(6,[⟨b4,0,none⟩],[9,10,11,12],[]),(7,[⟨b7,0,none⟩],[8,9,10,11,12],[]),(10,[⟨blkOf Z4,offOf Z4+((IntKind.i64.wrap ((m2.length:Int)-1)).toNat)*1,none⟩],[11,12],[])] (.vals [0] (.vals [1] (.vals [2] (.vals [3] (.vals [4] (.vals [5] (.vals [6] (.vals [7] (.vals [8] (.vals [9] (.vals [10] (.vals [11] (.alt 12 2 .fin .nomore))))))))))))) (by kernel_rfl) (by kernel_rfl) ?_
  have hS106:=hS.drew
  refine g30 [0] [(100,.func (.func 66) #[] #[pP b4 0,pP b7 0])]<|g3 1 [(101,(.slice Z4 m2.length cz4))] [ld b4 0 ((.slice Z4 m2.length cz4))] ⟨hS106.c 2,trivial⟩<|g3 2 [(102,vI (m2.length:Int))] [ld b7 0 (vI (m2.length:Int))] ⟨hS106.c 0,trivial⟩<|g30 [3] [(103,vI (IntKind.i64.wrap ((m2.length:Int)-2)))] ?_
  by_cases hc18:0≤(IntKind.i64.wrap ((m2.length:Int)-2))
  ·rw [if_pos hc18] at h
   rcases hx16:m2[(IntKind.i64.wrap ((m2.length:Int)-2)).toNat]? with _ | e7
   ·rw [hx16] at h; cases h
   rw [hx16] at h
   simp only [] at h
   refine go3_index (d:=104) (ty:=0) (t:=37) (el:=3) (sz:=1) (m:=m2.length) (c:=cz4) (x:=(.tmp 101)) (y:=(.tmp 103)) (A:=Z4) (k':=.i64) (j:=(IntKind.i64.wrap ((m2.length:Int)-2))) (jn:=((IntKind.i64.wrap ((m2.length:Int)-2)).toNat)) (b0:=blkOf Z4) (o0:=offOf Z4) (by kernel_rfl) (by kernel_rfl) (by kernel_rfl) (by kernel_rfl) (by kernel_rfl) ((hS106.rdAt 6 rfl).eqSome (pos_of_get hx16)) (Int.toNat_of_nonneg hc18).symm (lt_of_get hx16) ?_
   refine g3 5 [(105,vI e7)] [.loaded ⟨blkOf Z4,offOf Z4+((IntKind.i64.wrap ((m2.length:Int)-2)).toNat)*1,none⟩ (vI e7)] ⟨RdL.cell (j:=0) (hS106.rdAt 6 rfl) hx16 rfl,trivial⟩<|g3 6 [(106,(.slice Z4 m2.length cz4))] [ld b4 0 ((.slice Z4 m2.length cz4))] ⟨hS106.c 2,trivial⟩<|g3 7 [(107,vI (m2.length:Int))] [ld b7 0 (vI (m2.length:Int))] ⟨hS106.c 0,trivial⟩<|g30 [8] [(108,vI (IntKind.i64.wrap ((m2.length:Int)-1)))] ?_
   by_cases hc19:0≤(IntKind.i64.wrap ((m2.length:Int)-1))
   ·rw [if_pos hc19] at h
    rcases hx17:m2[(IntKind.i64.wrap ((m2.length:Int)-1)).toNat]? with _ | e8
    ·rw [hx17] at h; cases h
    rw [hx17] at h
    simp only [] at h
    refine go3_index (d:=109) (ty:=0) (t:=37) (el:=3) (sz:=1) (m:=m2.length) (c:=cz4) (x:=(.tmp 106)) (y:=(.tmp 108)) (A:=Z4) (k':=.i64) (j:=(IntKind.i64.wrap ((m2.length:Int)-1))) (jn:=((IntKind.i64.wrap ((m2.length:Int)-1)).toNat)) (b0:=blkOf Z4) (o0:=offOf Z4) (by kernel_rfl) (by kernel_rfl) (by kernel_rfl) (by kernel_rfl) (by kernel_rfl) ((hS106.rdAt 6 rfl).eqSome (pos_of_get hx17)) (Int.toNat_of_nonneg hc19).symm (lt_of_get hx17) ?_
    refine g3 10 [(110,vI e8)] [.loaded ⟨blkOf Z4,offOf Z4+((IntKind.i64.wrap ((m2.length:Int)-1)).toNat)*1,none⟩ (vI e8)] ⟨RdL.cell (j:=0) (hS106.rdAt 6 rfl) hx17 rfl,trivial⟩<|g30 [11] [(111,vI (IntKind.i64.wrap (e7-e8)))]<|go_alt3 (fun KK hKK=>?_) ?_
    ·rcases hq2:punctualref_Steps_1.f (IntKind.i64.wrap (e7-e8)) m2 (m2.length:Int) with _ | r2
     ·rw [hq2] at h; cases h
     rw [hq2] at h
     simp only [] at h
     have hS111:=(((hS106.b 6).b 1).b 3).packN 3
     refine ge_call2 (m:=0) (d:=some 112) (f:=66) (args:=#[vI (IntKind.i64.wrap (e7-e8)),pP b4 0,pP b7 0]) (by kernel_rfl) (punctualref_Steps_1_ok (IntKind.i64.wrap (e7-e8)) b4 m2 Z4 cz4 b7 (m2.length:Int) _ _ _ hS111 _ hq2) ?_
     rintro _ w22 ⟨v12,rfl,hS110⟩
     refine ⟨_,rfl,?_⟩
     have hS112:=hS110.unpack [bk b4 #[v12] 37,bk b7 #[vI (m2.length:Int)] 3,Own.of v12 3 r2]
     refine g2 hKK ?_
     have hS122:=hS112.p [3,0,4,5,6,2,7,8,9] rfl
     obtain rfl:=si h
     exact go_fin3 fun a hF=>hQ _ _ _ (Outs.again ⟨v12,(.slice Z5 m4.length cz5),hS122,hF.weaken ea⟩)
    exact go_nomore3
   rw [if_neg hc19] at h
   cases h
  rw [if_neg hc18] at h
  cases h
 rw [if_neg hc17] at h
 refine wk 98 (e1.Op==5) false (beq_eq_false_iff_ne.2 hc17)<|wf<|ws fun K26 hK26=>wr [(0,0),(1,0)]<|gb0 [0,1] [(113,.bool (e1.Op==6)),(114,.bool (e1.Op==6))]<|gn hK26 ?_
 by_cases hc20:e1.Op=6
 ·rw [if_pos hc20] at h
  refine wk 113 (e1.Op==6) true (beq_iff_eq.2 hc20)<|wt<|we_orders3 (by kernel_rfl) [(1,[⟨b4,0,none⟩],[4,5,11,12],[]),(2,[⟨b7,0,none⟩],[3,4,5,11,12],[]),(5,[⟨blkOf Z4,offOf Z4+((IntKind.i64.wrap ((m2.length:Int)-2)).toNat)*1,none⟩],[11,12],[]),(6,[⟨b4,0,none⟩],[9,10,11,12],[]),(7,[⟨b7,0,none⟩],[8,9,10,11,12],[]),(10,[⟨blkOf Z4,offOf Z4+((IntKind.i64.wrap ((m2.length:Int)-1)).toNat)*1,none⟩],[11,12],[])] (.vals [0] (.vals [1] (.vals [2] (.vals [3] (.vals [4] (.vals [5] (.vals [6] (.vals [7] (.vals [8] (.vals [9] (.vals [10] (.vals [11] (.alt 12 2 .fin .nomore))))))))))))) (by kernel_rfl) (by kernel_rfl) ?_
  have hS123:=hS.drew
  refine g30 [0] [(115,.func (.func 66) #[] #[pP b4 0,pP b7 0])]<|g3 1 [(116,(.slice Z4 m2.length cz4))] [ld b4 0 ((.slice Z4 m2.length cz4))] ⟨hS123.c 2,trivial⟩<|g3 2 [(117,vI (m2.length:Int))] [ld b7 0 (vI (m2.length:Int))] ⟨hS123.c 0,trivial⟩<|g30 [3] [(118,vI (IntKind.i64.wrap ((m2.length:Int)-2)))] ?_
  by_cases hc21:0≤(IntKind.i64.wrap ((m2.length:Int)-2))
  ·rw [if_pos hc21] at h
   rcases hx18:m2[(IntKind.i64.wrap ((m2.length:Int)-2)).toNat]? with _ | e9
   ·rw [hx18] at h; cases h
   rw [hx18] at h
   simp only [] at h
   refine go3_index (d:=119) (ty:=0) (t:=37) (el:=3) (sz:=1) (m:=m2.length) (c:=cz4) (x:=(.tmp 116)) (y:=(.tmp 118)) (A:=Z4) (k':=.i64) (j:=(IntKind.i64.wrap ((m2.length:Int)-2))) (jn:=((IntKind.i64.wrap ((m2.length:Int)-2)).toNat)) (b0:=blkOf Z4) (o0:=offOf Z4) (by kernel_rfl) (by kernel_rfl) (by kernel_rfl) (by kernel_rfl) (by kernel_rfl) ((hS123.rdAt 6 rfl).eqSome (pos_of_get hx18)) (Int.toNat_of_nonneg hc21).symm (lt_of_get hx18) ?_
   refine g3 5 [(120,vI e9)] [.loaded ⟨blkOf Z4,offOf Z4+((IntKind.i64.wrap ((m2.length:Int)-2)).toNat)*1,none⟩ (vI e9)] ⟨RdL.cell (j:=0) (hS123.rdAt 6 rfl) hx18 rfl,trivial⟩<|g3 6 [(121,(.slice Z4 m2.length cz4))] [ld b4 0 ((.slice Z4 m2.length cz4))] ⟨hS123.c 2,trivial⟩<|g3 7 [(122,vI (m2.length:Int))] [ld b7 0 (vI (m2.length:Int))] ⟨hS123.c 0,trivial⟩<|g30 [8] [(123,vI (IntKind.i64.wrap ((m2.length:Int)-1)))] ?_
   by_cases hc22:0≤(IntKind.i64.wrap ((m2.length:Int)-1))
   ·rw [if_pos hc22] at h
    rcases hx19:m2[(IntKind.i64.wrap ((m2.length:Int)-1)).toNat]? with _ | e10
    ·rw [hx19] at h; cases h
    rw [hx19] at h
    simp only [] at h
    refine go3_index (d:=124) (ty:=0) (t:=37) (el:=3) (sz:=1) (m:=m2.length) (c:=cz4) (x:=(.tmp 121)) (y:=(.tmp 123)) (A:=Z4) (k':=.i64) (j:=(IntKind.i64.wrap ((m2.length:Int)-1))) (jn:=((IntKind.i64.wrap ((m2.length:Int)-1)).toNat)) (b0:=blkOf Z4) (o0:=offOf Z4) (by kernel_rfl) (by kernel_rfl) (by kernel_rfl) (by kernel_rfl) (by kernel_rfl) ((hS123.rdAt 6 rfl).eqSome (pos_of_get hx19)) (Int.toNat_of_nonneg hc22).symm (lt_of_get hx19) ?_
    refine g3 10 [(125,vI e10)] [.loaded ⟨blkOf Z4,offOf Z4+((IntKind.i64.wrap ((m2.length:Int)-1)).toNat)*1,none⟩ (vI e10)] ⟨RdL.cell (j:=0) (hS123.rdAt 6 rfl) hx19 rfl,trivial⟩<|g30 [11] [(126,vI (IntKind.i64.wrap (e9*e10)))]<|go_alt3 (fun KK hKK=>?_) ?_
    ·rcases hq3:punctualref_Steps_1.f (IntKind.i64.wrap (e9*e10)) m2 (m2.length:Int) with _ | r3
     ·rw [hq3] at h; cases h
     rw [hq3] at h
     simp only [] at h
     have hS128:=(((hS123.b 6).b 1).b 3).packN 3
     refine ge_call2 (m:=0) (d:=some 127) (f:=66) (args:=#[vI (IntKind.i64.wrap (e9*e10)),pP b4 0,pP b7 0]) (by kernel_rfl) (punctualref_Steps_1_ok (IntKind.i64.wrap (e9*e10)) b4 m2 Z4 cz4 b7 (m2.length:Int) _ _ _ hS128 _ hq3) ?_
     rintro _ w23 ⟨v13,rfl,hS127⟩
     refine ⟨_,rfl,?_⟩
     have hS129:=hS127.unpack [bk b4 #[v13] 37,bk b7 #[vI (m2.length:Int)] 3,Own.of v13 3 r3]
     refine g2 hKK ?_
     have hS139:=hS129.p [3,0,4,5,6,2,7,8,9] rfl
     obtain rfl:=si h
     exact go_fin3 fun a hF=>hQ _ _ _ (Outs.again ⟨v13,(.slice Z5 m4.length cz5),hS139,hF.weaken ea⟩)
    exact go_nomore3
   rw [if_neg hc22] at h
   cases h
  rw [if_neg hc21] at h
  cases h
 rw [if_neg hc20] at h
 refine wk 113 (e1.Op==6) false (beq_eq_false_iff_ne.2 hc20)<|wf<|ws fun K27 hK27=>wr [(0,0),(1,0)]<|gb0 [0,1] [(128,.bool (e1.Op==7)),(129,.bool (e1.Op==7))]<|gn hK27 ?_
 by_cases hc23:e1.Op=7
 ·rw [if_pos hc23] at h
  refine wk 128 (e1.Op==7) true (beq_iff_eq.2 hc23)<|wt<|we_orders3 (by kernel_rfl) [(2,[⟨b4,0,none⟩],[5,6,12,13,14],[]),(3,[⟨b7,0,none⟩],[4,5,6,12,13,14],[]),(6,[⟨blkOf Z4,offOf Z4+((IntKind.i64.wrap ((m2.length:Int)-2)).toNat)*1,none⟩],[12,13,14],[]),(7,[⟨b4,0,none⟩],[10,11,12,13,14],[]),(8,[⟨b7,0,none⟩],[9,10,11,12,13,14],[]),(11,[⟨blkOf Z4,offOf Z4+((IntKind.i64.wrap ((m2.length:Int)-1)).toNat)*1,none⟩],[12,13,14],[])] (.vals [0] (.vals [1] (.vals [2] (.vals [3] (.vals [4] (.vals [5] (.vals [6] (.vals [7] (.vals [8] (.vals [9] (.vals [10] (.vals [11] (.vals [12] (.alt 13 1 (.alt 14 2 .fin .nomore) .nomore)))))))))))))) (by kernel_rfl) (by kernel_rfl) ?_
  have hS140:=hS.drew
  refine g30 [0,1] [(131,.func (.func 67) #[] #[]),(130,.func (.func 66) #[] #[pP b4 0,pP b7 0])]<|g3 2 [(132,(.slice Z4 m2.length cz4))] [ld b4 0 ((.slice Z4 m2.length cz4))] ⟨hS140.c 2,trivial⟩<|g3 3 [(133,vI (m2.length:Int))] [ld b7 0 (vI (m2.length:Int))] ⟨hS140.c 0,trivial⟩<|g30 [4] [(134,vI (IntKind.i64.wrap ((m2.length:Int)-2)))] ?_
  by_cases hc24:0≤(IntKind.i64.wrap ((m2.length:Int)-2))
  ·rw [if_pos hc24] at h
   rcases hx20:m2[(IntKind.i64.wrap ((m2.length:Int)-2)).toNat]? with _ | e11
   ·rw [hx20] at h; cases h
   rw [hx20] at h
   simp only [] at h
   refine go3_index (d:=135) (ty:=0) (t:=37) (el:=3) (sz:=1) (m:=m2.length) (c:=cz4) (x:=(.tmp 132)) (y:=(.tmp 134)) (A:=Z4) (k':=.i64) (j:=(IntKind.i64.wrap ((m2.length:Int)-2))) (jn:=((IntKind.i64.wrap ((m2.length:Int)-2)).toNat)) (b0:=blkOf Z4) (o0:=offOf Z4) (by kernel_rfl) (by kernel_rfl) (by kernel_rfl) (by kernel_rfl) (by kernel_rfl) ((hS140.rdAt 6 rfl).eqSome (pos_of_get hx20)) (Int.toNat_of_nonneg hc24).symm (lt_of_get hx20) ?_
   refine g3 6 [(136,vI e11)] [.loaded ⟨blkOf Z4,offOf Z4+((IntKind.i64.wrap ((m2.length:Int)-2)).toNat)*1,none⟩ (vI e11)] ⟨RdL.cell (j:=0) (hS140.rdAt 6 rfl) hx20 rfl,trivial⟩<|g3 7 [(137,(.slice Z4 m2.length cz4))] [ld b4 0 ((.slice Z4 m2.length cz4))] ⟨hS140.c 2,trivial⟩<|g3 8 [(138,vI (m2.length:Int))] [ld b7 0 (vI (m2.length:Int))] ⟨hS140.c 0,trivial⟩<|g30 [9] [(139,vI (IntKind.i64.wrap ((m2.length:Int)-1)))] ?_
   by_cases hc25:0≤(IntKind.i64.wrap ((m2.length:Int)-1))
   ·rw [if_pos hc25] at h
    rcases hx21:m2[(IntKind.i64.wrap ((m2.length:Int)-1)).toNat]? with _ | e12
    ·rw [hx21] at h; cases h
    rw [hx21] at h
    simp only [] at h
    refine go3_index (d:=140) (ty:=0) (t:=37) (el:=3) (sz:=1) (m:=m2.length) (c:=cz4) (x:=(.tmp 137)) (y:=(.tmp 139)) (A:=Z4) (k':=.i64) (j:=(IntKind.i64.wrap ((m2.length:Int)-1))) (jn:=((IntKind.i64.wrap ((m2.length:Int)-1)).toNat)) (b0:=blkOf Z4) (o0:=offOf Z4) (by kernel_rfl) (by kernel_rfl) (by kernel_rfl) (by kernel_rfl) (by kernel_rfl) ((hS140.rdAt 6 rfl).eqSome (pos_of_get hx21)) (Int.toNat_of_nonneg hc25).symm (lt_of_get hx21) ?_
    refine g3 11 [(141,vI e12)] [.loaded ⟨blkOf Z4,offOf Z4+((IntKind.i64.wrap ((m2.length:Int)-1)).toNat)*1,none⟩ (vI e12)] ⟨RdL.cell (j:=0) (hS140.rdAt 6 rfl) hx21 rfl,trivial⟩<|g30 [12] [(142,.bool (decide (e11<e12)))]<|go_alt3 (fun KK hKK=>?_) ?_
    ·refine ge_one2<|ge_call (d:=some 143) (f:=67) (args:=#[.bool (decide (e11<e12))]) (by kernel_rfl) (punctualref_Steps_2_ok (decide (e11<e12)) _ _ rfl) ?_
     rintro _ w24 ⟨rfl,hS141⟩
     refine ⟨_,rfl,hS141.below,?_⟩
     have hS142:=hS140.call hS141
     refine g2 hKK<|go_alt3 (fun KK hKK=>?_) ?_
     ·rcases hq5:punctualref_Steps_1.f (punctualref_Steps_2.f (decide (e11<e12))) m2 (m2.length:Int) with _ | r4
      ·rw [hq5] at h; cases h
      rw [hq5] at h
      simp only [] at h
      have hS147:=(((hS142.b 6).b 1).b 3).packN 3
      refine ge_call2 (m:=0) (d:=some 144) (f:=66) (args:=#[vI (punctualref_Steps_2.f (decide (e11<e12))),pP b4 0,pP b7 0]) (by kernel_rfl) (punctualref_Steps_1_ok (punctualref_Steps_2.f (decide (e11<e12))) b4 m2 Z4 cz4 b7 (m2.length:Int) _ _ _ hS147 _ hq5) ?_
      rintro _ w25 ⟨v14,rfl,hS146⟩
      refine ⟨_,rfl,?_⟩
      have hS148:=hS146.unpack [bk b4 #[v14] 37,bk b7 #[vI (m2.length:Int)] 3,Own.of v14 3 r4]
      refine g2 hKK ?_
      have hS158:=hS148.p [3,0,4,5,6,2,7,8,9] rfl
      obtain rfl:=si h
      exact go_fin3 fun a hF=>hQ _ _ _ (Outs.again ⟨v14,(.slice Z5 m4.length cz5),hS158,hF.weaken ea⟩)
     exact go_nomore3
    exact go_nomore3
   rw [if_neg hc25] at h
   cases h
  rw [if_neg hc24] at h
  cases h
 rw [if_neg hc23] at h
 refine wk 128 (e1.Op==7) false (beq_eq_false_iff_ne.2 hc23)<|wf<|ws fun K28 hK28=>wr [(0,0),(1,0)]<|gb0 [0,1] [(145,.bool (e1.Op==8)),(146,.bool (e1.Op==8))]<|gn hK28 ?_
 by_cases hc26:e1.Op=8
 ·rw [if_pos hc26] at h
  refine wk 145 (e1.Op==8) true (beq_iff_eq.2 hc26)<|wt<|we_orders3 (by kernel_rfl) [(2,[⟨b4,0,none⟩],[5,6,12,13,14],[]),(3,[⟨b7,0,none⟩],[4,5,6,12,13,14],[]),(6,[⟨blkOf Z4,offOf Z4+((IntKind.i64.wrap ((m2.length:Int)-2)).toNat)*1,none⟩],[12,13,14],[]),(7,[⟨b4,0,none⟩],[10,11,12,13,14],[]),(8,[⟨b7,0,none⟩],[9,10,11,12,13,14],[]),(11,[⟨blkOf Z4,offOf Z4+((IntKind.i64.wrap ((m2.length:Int)-1)).toNat)*1,none⟩],[12,13,14],[])] (.vals [0] (.vals [1] (.vals [2] (.vals [3] (.vals [4] (.vals [5] (.vals [6] (.vals [7] (.vals [8] (.vals [9] (.vals [10] (.vals [11] (.vals [12] (.alt 13 1 (.alt 14 2 .fin .nomore) .nomore)))))))))))))) (by kernel_rfl) (by kernel_rfl) ?_
  have hS159:=hS.drew
  refine g30 [0,1] [(148,.func (.func 67) #[] #[]),(147,.func (.func 66) #[] #[pP b4 0,pP b7 0])]<|g3 2 [(149,(.slice Z4 m2.length cz4))] [ld b4 0 ((.slice Z4 m2.length cz4))] ⟨hS159.c 2,trivial⟩<|g3 3 [(150,vI (m2.length:Int))] [ld b7 0 (vI (m2.length:Int))] ⟨hS159.c 0,trivial⟩<|g30 [4] [(151,vI (IntKind.i64.wrap ((m2.length:Int)-2)))] ?_
  by_cases hc27:0≤(IntKind.i64.wrap ((m2.length:Int)-2))
  ·rw [if_pos hc27] at h
   rcases hx22:m2[(IntKind.i64.wrap ((m2.length:Int)-2)).toNat]? with _ | e13
   ·rw [hx22] at h; cases h
   rw [hx22] at h
   simp only [] at h
   refine go3_index (d:=152) (ty:=0) (t:=37) (el:=3) (sz:=1) (m:=m2.length) (c:=cz4) (x:=(.tmp 149)) (y:=(.tmp 151)) (A:=Z4) (k':=.i64) (j:=(IntKind.i64.wrap ((m2.length:Int)-2))) (jn:=((IntKind.i64.wrap ((m2.length:Int)-2)).toNat)) (b0:=blkOf Z4) (o0:=offOf Z4) (by kernel_rfl) (by kernel_rfl) (by kernel_rfl) (by kernel_rfl) (by kernel_rfl) ((hS159.rdAt 6 rfl).eqSome (pos_of_get hx22)) (Int.toNat_of_nonneg hc27).symm (lt_of_get hx22) ?_
   refine g3 6 [(153,vI e13)] [.loaded ⟨blkOf Z4,offOf Z4+((IntKind.i64.wrap ((m2.length:Int)-2)).toNat)*1,none⟩ (vI e13)] ⟨RdL.cell (j:=0) (hS159.rdAt 6 rfl) hx22 rfl,trivial⟩<|g3 7 [(154,(.slice Z4 m2.length cz4))] [ld b4 0 ((.slice Z4 m2.length cz4))] ⟨hS159.c 2,trivial⟩<|g3 8 [(155,vI (m2.length:Int))] [ld b7 0 (vI (m2.length:Int))] ⟨hS159.c 0,trivial⟩<|g30 [9] [(156,vI (IntKind.i64.wrap ((m2.length:Int)-1)))] ?_
   by_cases hc28:0≤(IntKind.i64.wrap ((m2.length:Int)-1))
   ·rw [if_pos hc28] at h
    rcases hx23:m2[(IntKind.i64.wrap ((m2.length:Int)-1)).toNat]? with _ | e14
    ·rw [hx23] at h; cases h
    rw [hx23] at h
    simp only [] at h
    refine go3_index (d:=157) (ty:=0) (t:=37) (el:=3) (sz:=1) (m:=m2.length) (c:=cz4) (x:=(.tmp 154)) (y:=(.tmp 156)) (A:=Z4) (k':=.i64) (j:=(IntKind.i64.wrap ((m2.length:Int)-1))) (jn:=((IntKind.i64.wrap ((m2.length:Int)-1)).toNat)) (b0:=blkOf Z4) (o0:=offOf Z4) (by kernel_rfl) (by kernel_rfl) (by kernel_rfl) (by kernel_rfl) (by kernel_rfl) ((hS159.rdAt 6 rfl).eqSome (pos_of_get hx23)) (Int.toNat_of_nonneg hc28).symm (lt_of_get hx23) ?_
    refine g3 11 [(158,vI e14)] [.loaded ⟨blkOf Z4,offOf Z4+((IntKind.i64.wrap ((m2.length:Int)-1)).toNat)*1,none⟩ (vI e14)] ⟨RdL.cell (j:=0) (hS159.rdAt 6 rfl) hx23 rfl,trivial⟩<|g30 [12] [(159,.bool (e13==e14))]<|go_alt3 (fun KK hKK=>?_) ?_
    ·refine ge_one2<|ge_call (d:=some 160) (f:=67) (args:=#[.bool (e13==e14)]) (by kernel_rfl) (punctualref_Steps_2_ok (e13==e14) _ _ rfl) ?_
     rintro _ w26 ⟨rfl,hS160⟩
     refine ⟨_,rfl,hS160.below,?_⟩
     have hS161:=hS159.call hS160
     refine g2 hKK<|go_alt3 (fun KK hKK=>?_) ?_
     ·rcases hq7:punctualref_Steps_1.f (punctualref_Steps_2.f (e13==e14)) m2 (m2.length:Int) with _ | r5
      ·rw [hq7] at h; cases h
      rw [hq7] at h
      simp only [] at h
      have hS166:=(((hS161.b 6).b 1).b 3).packN 3
      refine ge_call2 (m:=0) (d:=some 161) (f:=66) (args:=#[vI (punctualref_Steps_2.f (e13==e14)),pP b4 0,pP b7 0]) (by kernel_rfl) (punctualref_Steps_1_ok (punctualref_Steps_2.f (e13==e14)) b4 m2 Z4 cz4 b7 (m2.length:Int) _ _ _ hS166 _ hq7) ?_
      rintro _ w27 ⟨v15,rfl,hS165⟩
      refine ⟨_,rfl,?_⟩
      have hS167:=hS165.unpack [bk b4 #[v15] 37,bk b7 #[vI (m2.length:Int)] 3,Own.of v15 3 r5]
      refine g2 hKK ?_
      have hS177:=hS167.p [3,0,4,5,6,2,7,8,9] rfl
      obtain rfl:=si h
      exact go_fin3 fun a hF=>hQ _ _ _ (Outs.again ⟨v15,(.slice Z5 m4.length cz5),hS177,hF.weaken ea⟩)
     exact go_nomore3
    exact go_nomore3
   rw [if_neg hc28] at h
   cases h
  rw [if_neg hc27] at h
  cases h
 rw [if_neg hc26] at h
 refine wk 145 (e1.Op==8) false (beq_eq_false_iff_ne.2 hc26)<|wf<|ws fun K29 hK29=>wr [(0,0),(1,0)]<|gb0 [0,1] [(162,.bool (e1.Op==9)),(163,.bool (e1.Op==9))]<|gn hK29 ?_
 by_cases hc29:e1.Op=9
 ·rw [if_pos hc29] at h
  refine wk 162 (e1.Op==9) true (beq_iff_eq.2 hc29)<|wt<|we_orders3 (by kernel_rfl) [(0,[⟨b4,0,none⟩],[],[]),(3,[⟨b6,1,none⟩],[4,5,6,7],[]),(5,[⟨blkOf A2,offOf A2+((e1.A).toNat)*1,none⟩],[6,7],[])] (.vals [0] (.vals [1] (.vals [2] (.vals [3] (.vals [4] (.vals [5] (.alt 6 1 (.alt 7 2 (.alt 8 2 .fin .nomore) .nomore) .nomore))))))) (by kernel_rfl) (by kernel_rfl) ?_
  have hS178:=hS.drew
  refine g3 0 [(164,(.slice Z4 m2.length cz4))] [ld b4 0 ((.slice Z4 m2.length cz4))] ⟨hS178.c 2,trivial⟩<|g30 [1,2] [(166,pP b6 1),(165,.slice A2 l2.length c2)]<|g3 3 [(167,vI e1.A)] [ld b6 1 (vI e1.A)] ⟨hS178.c 1,trivial⟩ ?_
  by_cases hc30:0≤e1.A
  ·rw [if_pos hc30] at h
   rcases hx24:l2[(e1.A).toNat]? with _ | e15
   ·rw [hx24] at h; cases h
   rw [hx24] at h
   simp only [] at h
   refine go3_index (d:=168) (ty:=0) (t:=37) (el:=3) (sz:=1) (m:=l2.length) (c:=c2) (x:=(.tmp 165)) (y:=(.tmp 167)) (A:=A2) (k':=.i64) (j:=e1.A) (jn:=((e1.A).toNat)) (b0:=blkOf A2) (o0:=offOf A2) (by kernel_rfl) (by kernel_rfl) (by kernel_rfl) (by kernel_rfl) (by kernel_rfl) ((hS178.rd hR2).eqSome (pos_of_get hx24)) (Int.toNat_of_nonneg hc30).symm (lt_of_get hx24) ?_
   refine g3 5 [(169,vI e15)] [.loaded ⟨blkOf A2,offOf A2+((e1.A).toNat)*1,none⟩ (vI e15)] ⟨RdL.cell (j:=0) (hS178.rd hR2) hx24 rfl,trivial⟩<|go_alt3 (fun KK hKK=>?_) ?_
   ·refine ge_one2<|gw (some 170) (.cells #[vI e15] 3) (fun b=>.slice (some ⟨b,0,none⟩) 1 1) hS178 fun b10 w28 hx25 hS179=>?_
    refine ge_nil fun a hF=>hKK _ _ (RS.of2 (l:=[ld b4 0 ((.slice Z4 m2.length cz4))]) (by kernel_rfl) ⟨hS178.c 2,trivial⟩ ⟨hS179.c 3,trivial⟩) ?_ a hF
    refine go_alt3 (fun KK hKK=>?_) ?_
    ·have hS180:=hS179.b 7
     by_cases hc31:m2.length<17592186044416
     ·rw [if_pos hc31] at h
      refine ge_append (α:=Int) (m:=0) (d:=171) (t:=37) (el:=3) (bytes:=8) (c1:=1) (b1:=b10) (x:=(.tmp 164)) (y:=(.tmp 170)) (ty:=37) (v:=(.slice Z4 m2.length cz4)) (z:=vI 0) (l:=m2) (u:=e15) (by kernel_rfl) (by kernel_rfl) (by kernel_rfl) (by kernel_rfl) (by kernel_rfl) rfl hS180 rfl (by omega) fun v16 w29 hS181=>?_
      refine g2 hKK<|go_alt3 (fun KK hKK=>?_) ?_
      ·obtain ⟨Z8,cz8,rfl⟩:=hS181.open 0 rfl
       have hS182:=hS181.b 3
       refine gs b4 0 #[(.slice Z4 m2.length cz4)] 37 [(.slice Z8 (m2++[e15]).length cz8)] hS182 fun w30 hS183=>?_
       have hS184:=hS183.nc #[(.slice Z8 (m2++[e15]).length cz8)] rfl
       refine g2 hKK ?_
       have hS194:=hS184.p [3,0,4,5,6,1,7,8,9] rfl
       obtain rfl:=si h
       exact go_fin3 fun a hF=>hQ _ _ _ (Outs.again ⟨(.slice Z8 (m2++[e15]).length cz8),(.slice Z5 m4.length cz5),hS194,hF.weaken ea⟩)
      exact go_nomore3
     rw [if_neg hc31] at h
     cases h
    exact go_nomore3
   exact go_nomore3
  rw [if_neg hc30] at h
  cases h
 rw [if_neg hc29] at h
 refine wk 162 (e1.Op==9) false (beq_eq_false_iff_ne.2 hc29)<|wf<|ws fun K30 hK30=>wr [(0,0),(1,0)]<|gb0 [0,1] [(172,.bool (e1.Op==10)),(173,.bool (e1.Op==10))]<|gn hK30 ?_
 by_cases hc32:e1.Op=10
 ·rw [if_pos hc32] at h
  refine wk 172 (e1.Op==10) true (beq_iff_eq.2 hc32)<|wt<|ws fun K31 hK31=>we_orders3 (by kernel_rfl) [(1,[⟨b3,1,none⟩],[],[]),(3,[⟨b6,1,none⟩],[9,10,11],[]),(4,[⟨b4,0,none⟩],[7,8,9,10,11],[]),(5,[⟨b7,0,none⟩],[6,7,8,9,10,11],[]),(8,[⟨blkOf Z4,offOf Z4+((IntKind.i64.wrap ((m2.length:Int)-1)).toNat)*1,none⟩],[9,10,11],[])] (.vals [0] (.vals [1] (.vals [2] (.vals [3] (.vals [4] (.vals [5] (.vals [6] (.vals [7] (.vals [8] (.vals [9] (.alt 10 1 (.alt 11 2 (.vals [12] (.alt 13 2 .fin .nomore)) .nomore) .nomore))))))))))) (by kernel_rfl) (by kernel_rfl) ?_
  have hS195:=hS.drew
  refine g30 [0] [(174,pP b3 1)]<|g3 1 [(175,(.slice Z5 m4.length cz5))] [ld b3 1 ((.slice Z5 m4.length cz5))] ⟨hS195.c 3,trivial⟩<|g30 [2] [(176,pP b6 1)]<|g3 3 [(177,vI e1.A)] [ld b6 1 (vI e1.A)] ⟨hS195.c 1,trivial⟩<|g3 4 [(178,(.slice Z4 m2.length cz4))] [ld b4 0 ((.slice Z4 m2.length cz4))] ⟨hS195.c 2,trivial⟩<|g3 5 [(179,vI (m2.length:Int))] [ld b7 0 (vI (m2.length:Int))] ⟨hS195.c 0,trivial⟩<|g30 [6] [(180,vI (IntKind.i64.wrap ((m2.length:Int)-1)))] ?_
  by_cases hc33:0≤(IntKind.i64.wrap ((m2.length:Int)-1))
  ·rw [if_pos hc33] at h
   rcases hx26:m2[(IntKind.i64.wrap ((m2.length:Int)-1)).toNat]? with _ | e16
   ·rw [hx26] at h; cases h
   rw [hx26] at h
   simp only [] at h
   refine go3_index (d:=181) (ty:=0) (t:=37) (el:=3) (sz:=1) (m:=m2.length) (c:=cz4) (x:=(.tmp 178)) (y:=(.tmp 180)) (A:=Z4) (k':=.i64) (j:=(IntKind.i64.wrap ((m2.length:Int)-1))) (jn:=((IntKind.i64.wrap ((m2.length:Int)-1)).toNat)) (b0:=blkOf Z4) (o0:=offOf Z4) (by kernel_rfl) (by kernel_rfl) (by kernel_rfl) (by kernel_rfl) (by kernel_rfl) ((hS195.rdAt 6 rfl).eqSome (pos_of_get hx26)) (Int.toNat_of_nonneg hc33).symm (lt_of_get hx26) ?_
   refine g3 8 [(182,vI e16)] [.loaded ⟨blkOf Z4,offOf Z4+((IntKind.i64.wrap ((m2.length:Int)-1)).toNat)*1,none⟩ (vI e16)] ⟨RdL.cell (j:=0) (hS195.rdAt 6 rfl) hx26 rfl,trivial⟩<|g30 [9] [(183,.agg #[vI e1.A,vI e16])]<|go_alt3 (fun KK hKK=>?_) ?_
   ·refine ge_one2<|gw (some 184) (.cells #[vI e1.A,vI e16] 101) (fun b=>.slice (some ⟨b,0,none⟩) 1 1) hS195 fun b11 w31 hx27 hS196=>?_
    refine ge_nil fun a hF=>hKK _ _ (RS.of2 (l:=[ld b3 1 ((.slice Z5 m4.length cz5))]) (by kernel_rfl) ⟨hS195.c 3,trivial⟩ ⟨hS196.c 4,trivial⟩) ?_ a hF
    refine go_alt3 (fun KK hKK=>?_) ?_
    ·have hS197:=hS196.b 9
     by_cases hc34:m4.length<8796093022208
     ·rw [if_pos hc34] at h
      refine ge_append (α:=SPut) (m:=0) (d:=185) (t:=83) (el:=101) (bytes:=16) (c1:=1) (b1:=b11) (x:=(.tmp 175)) (y:=(.tmp 184)) (ty:=83) (v:=(.slice Z5 m4.length cz5)) (z:=.agg #[vI 0,vI 0]) (l:=m4) (u:=(⟨e1.A,e16⟩:SPut)) (by kernel_rfl) (by kernel_rfl) (by kernel_rfl) (by kernel_rfl) (by kernel_rfl) rfl hS197 rfl (by omega) fun v17 w32 hS198=>?_
      refine g2 hKK<|g30 [12] [(186,pP b3 1)]<|go_alt3 (fun KK hKK=>?_) ?_
      ·obtain ⟨Z9,cz9,rfl⟩:=hS198.open 0 rfl
       have hS199:=hS198.b 4
       refine gs b3 1 #[(.slice Z1 m3.length cz1),(.slice Z5 m4.length cz5),vI z2] 91 [(.slice Z9 (m4++[(⟨e1.A,e16⟩:SPut)]).length cz9)] hS199 fun w33 hS200=>?_
       have hS201:=hS200.nc #[(.slice Z1 m3.length cz1),(.slice Z9 (m4++[(⟨e1.A,e16⟩:SPut)]).length cz9),vI z2] rfl
       refine g2 hKK<|go_fin3 fun a hF=>hK31 _ _ ?_ a hF
       refine wr [(0,0),(1,0),(2,0),(3,0),(4,2)]<|gb [0,1,2] [(189,vI (IntKind.i64.wrap ((m2.length:Int)-1))),(188,vI (m2.length:Int)),(187,(.slice Z4 m2.length cz4))] [ld b4 0 ((.slice Z4 m2.length cz4)),ld b7 0 (vI (m2.length:Int))] ⟨hS201.c 4,hS201.c 2,trivial⟩ ?_
       by_cases hc35:((IntKind.i64.wrap ((m2.length:Int)-1)).toNat)≤m2.length
       ·rw [if_pos hc35] at h
        refine ge_sliceHi (d:=190) (ty:=37) (t:=37) (el:=3) (sz:=1) (m:=m2.length) (c:=cz4) (hn:=((IntKind.i64.wrap ((m2.length:Int)-1)).toNat)) (x:=(.tmp 187)) (y:=(.tmp 189)) (A:=Z4) (k':=.i64) (hi:=(IntKind.i64.wrap ((m2.length:Int)-1))) (by kernel_rfl) (by kernel_rfl) (by kernel_rfl) (Int.toNat_of_nonneg hc33).symm (by kernel_rfl) (by kernel_rfl) (by have f0:=hc35; have f1:=(hS201.capAt 7 rfl); omega) ?_
        refine ge_same (t:=190) (v:=.slice Z4 ((IntKind.i64.wrap ((m2.length:Int)-1)).toNat) cz4) (v':=.slice Z4 ((m2.take ((IntKind.i64.wrap ((m2.length:Int)-1)).toNat)).length) cz4) (by kernel_rfl) (congrArg (fun z=>Value.slice Z4 z cz4) (show (IntKind.i64.wrap ((m2.length:Int)-1)).toNat=(m2.take ((IntKind.i64.wrap ((m2.length:Int)-1)).toNat)).length by have f0:=hc35; have f1:=(hS201.capAt 7 rfl); simp only [List.length_take]; omega)) ?_
        have hS202:=hS201.b 4
        refine gs b4 0 #[(.slice Z4 m2.length cz4)] 37 [.slice Z4 ((m2.take ((IntKind.i64.wrap ((m2.length:Int)-1)).toNat)).length) cz4] hS202 fun w34 hS203=>?_
        have hS216:=((((((((((((hS203.nc #[.slice Z4 ((m2.take ((IntKind.i64.wrap ((m2.length:Int)-1)).toNat)).length) cz4] rfl).b 7).shrink ((IntKind.i64.wrap ((m2.length:Int)-1)).toNat)).b 9).b 4).b 9).b 3).b 9).b 9).b 7).b 7).b 9).takeN 9
        obtain rfl:=si h
        exact ge_nil fun a hF=>hQ _ _ _ (Outs.again ⟨(.slice Z4 (m2.take ((IntKind.i64.wrap ((m2.length:Int)-1)).toNat)).length cz4),(.slice Z9 (m4++[(⟨e1.A,e16⟩:SPut)]).length cz9),hS216,hF.weaken ea⟩)
       rw [if_neg hc35] at h
       cases h
      exact go_nomore3
     rw [if_neg hc34] at h
     cases h
    exact go_nomore3
   exact go_nomore3
  rw [if_neg hc33] at h
  cases h
 rw [if_neg hc32] at h
 refine wk 172 (e1.Op==10) false (beq_eq_false_iff_ne.2 hc32)<|wf<|ws fun K32 hK32=>wr [(0,0),(1,0)]<|gb0 [0,1] [(191,.bool (e1.Op==11)),(192,.bool (e1.Op==11))]<|gn hK32 ?_
 by_cases hc36:e1.Op=11
 ·rw [if_pos hc36] at h
  refine wk 191 (e1.Op==11) true (beq_iff_eq.2 hc36)<|wt<|wr [(0,0),(1,0),(2,0)]<|gb [0,1,2] [(17,vI e1.A),(194,vI e1.A),(193,pP b6 1)] [ld b6 1 (vI e1.A)] ⟨hS.c 1,trivial⟩ ?_
  have hS226:=hS.p [1,2,3,4,5,6,7,8,9] rfl
  obtain rfl:=si h
  exact ge_nil fun a hF=>hQ _ _ _ (Outs.again ⟨(.slice Z4 m2.length cz4),(.slice Z5 m4.length cz5),hS226,hF.weaken ea⟩)
 rw [if_neg hc36] at h
 refine wk 191 (e1.Op==11) false (beq_eq_false_iff_ne.2 hc36)<|wf<|ws fun K33 hK33=>wr [(0,0),(1,0)]<|gb0 [0,1] [(195,.bool (e1.Op==12)),(196,.bool (e1.Op==12))]<|gn hK33 ?_
 by_cases hc37:e1.Op=12
 ·rw [if_pos hc37] at h
  refine wk 195 (e1.Op==12) true (beq_iff_eq.2 hc37)<|wt<|ws fun K34 hK34=>ws fun K35 hK35=>wr [(0,0),(1,0),(2,0),(3,0),(4,0),(5,0)]<|gb [0,1,2] [(199,vI (IntKind.i64.wrap ((m2.length:Int)-1))),(198,vI (m2.length:Int)),(197,(.slice Z4 m2.length cz4))] [ld b4 0 ((.slice Z4 m2.length cz4)),ld b7 0 (vI (m2.length:Int))] ⟨hS.c 2,hS.c 0,trivial⟩ ?_
  by_cases hc38:0≤(IntKind.i64.wrap ((m2.length:Int)-1))
  ·rw [if_pos hc38] at h
   rcases hx28:m2[(IntKind.i64.wrap ((m2.length:Int)-1)).toNat]? with _ | e17
   ·rw [hx28] at h; cases h
   rw [hx28] at h
   simp only [] at h
   refine gi 200 0 37 3 1 m2.length cz4 (.tmp 197) (.tmp 199) Z4 .i64 (IntKind.i64.wrap ((m2.length:Int)-1)) ((IntKind.i64.wrap ((m2.length:Int)-1)).toNat) ((hS.rdAt 6 rfl).eqSome (pos_of_get hx28)) (Int.toNat_of_nonneg hc38).symm (lt_of_get hx28) ?_
   refine gb [4,5] [(202,.bool (e17==0)),(201,vI e17)] [.loaded ⟨blkOf Z4,offOf Z4+((IntKind.i64.wrap ((m2.length:Int)-1)).toNat)*1,none⟩ (vI e17)] ⟨RdL.cell (j:=0) (hS.rdAt 6 rfl) hx28 rfl,trivial⟩<|gn hK35 ?_
   by_cases hc39:e17=0
   ·rw [if_pos hc39] at h
    refine wk 202 (e17==0) true (beq_iff_eq.2 hc39)<|wt<|wr [(0,0),(1,0),(2,0),(3,0)]<|gb [0,1,2,3] [(18,.bool true),(17,vI e1.A),(204,vI e1.A),(203,pP b6 1)] [ld b6 1 (vI e1.A)] ⟨hS.c 1,trivial⟩<|gn hK34<|wr [(0,0),(1,0),(2,0),(3,0),(4,2)]<|gb [0,1,2] [(207,vI (IntKind.i64.wrap ((m2.length:Int)-1))),(206,vI (m2.length:Int)),(205,(.slice Z4 m2.length cz4))] [ld b4 0 ((.slice Z4 m2.length cz4)),ld b7 0 (vI (m2.length:Int))] ⟨hS.c 2,hS.c 0,trivial⟩ ?_
    by_cases hc40:((IntKind.i64.wrap ((m2.length:Int)-1)).toNat)≤m2.length
    ·rw [if_pos hc40] at h
     refine ge_sliceHi (d:=208) (ty:=37) (t:=37) (el:=3) (sz:=1) (m:=m2.length) (c:=cz4) (hn:=((IntKind.i64.wrap ((m2.length:Int)-1)).toNat)) (x:=(.tmp 205)) (y:=(.tmp 207)) (A:=Z4) (k':=.i64) (hi:=(IntKind.i64.wrap ((m2.length:Int)-1))) (by kernel_rfl) (by kernel_rfl) (by kernel_rfl) (Int.toNat_of_nonneg hc38).symm (by kernel_rfl) (by kernel_rfl) (by have f0:=hc40; have f1:=(hS.capAt 6 rfl); omega) ?_
     refine ge_same (t:=208) (v:=.slice Z4 ((IntKind.i64.wrap ((m2.length:Int)-1)).toNat) cz4) (v':=.slice Z4 ((m2.take ((IntKind.i64.wrap ((m2.length:Int)-1)).toNat)).length) cz4) (by kernel_rfl) (congrArg (fun z=>Value.slice Z4 z cz4) (show (IntKind.i64.wrap ((m2.length:Int)-1)).toNat=(m2.take ((IntKind.i64.wrap ((m2.length:Int)-1)).toNat)).length by have f0:=hc40; have f1:=(hS.capAt 6 rfl); simp only [List.length_take]; omega)) ?_
     have hS227:=hS.b 2
     refine gs b4 0 #[(.slice Z4 m2.length cz4)] 37 [.slice Z4 ((m2.take ((IntKind.i64.wrap ((m2.length:Int)-1)).toNat)).length) cz4] hS227 fun w35 hS228=>?_
     have hS241:=((((((((((((hS228.nc #[.slice Z4 ((m2.take ((IntKind.i64.wrap ((m2.length:Int)-1)).toNat)).length) cz4] rfl).b 6).shrink ((IntKind.i64.wrap ((m2.length:Int)-1)).toNat)).b 9).b 9).b 9).b 3).b 9).b 9).b 9).b 7).b 9).takeN 9
     obtain rfl:=si h
     exact ge_nil fun a hF=>hQ _ _ _ (Outs.again ⟨(.slice Z4 (m2.take ((IntKind.i64.wrap ((m2.length:Int)-1)).toNat)).length cz4),(.slice Z5 m4.length cz5),hS241,hF.weaken ea⟩)
    rw [if_neg hc40] at h
    cases h
   rw [if_neg hc39] at h
   refine wk 202 (e17==0) false (beq_eq_false_iff_ne.2 hc39)<|wf<|we_skip fun a hF=>hK34 _ _ ?_ a hF
   refine wr [(0,0),(1,0),(2,0),(3,0),(4,2)]<|gb [0,1,2] [(207,vI (IntKind.i64.wrap ((m2.length:Int)-1))),(206,vI (m2.length:Int)),(205,(.slice Z4 m2.length cz4))] [ld b4 0 ((.slice Z4 m2.length cz4)),ld b7 0 (vI (m2.length:Int))] ⟨hS.c 2,hS.c 0,trivial⟩ ?_
   by_cases hc41:((IntKind.i64.wrap ((m2.length:Int)-1)).toNat)≤m2.length
   ·rw [if_pos hc41] at h
    refine ge_sliceHi (d:=208) (ty:=37) (t:=37) (el:=3) (sz:=1) (m:=m2.length) (c:=cz4) (hn:=((IntKind.i64.wrap ((m2.length:Int)-1)).toNat)) (x:=(.tmp 205)) (y:=(.tmp 207)) (A:=Z4) (k':=.i64) (hi:=(IntKind.i64.wrap ((m2.length:Int)-1))) (by kernel_rfl) (by kernel_rfl) (by kernel_rfl) (Int.toNat_of_nonneg hc38).symm (by kernel_rfl) (by kernel_rfl) (by have f0:=hc41; have f1:=(hS.capAt 6 rfl); omega) ?_
    refine ge_same (t:=208) (v:=.slice Z4 ((IntKind.i64.wrap ((m2.length:Int)-1)).toNat) cz4) (v':=.slice Z4 ((m2.take ((IntKind.i64.wrap ((m2.length:Int)-1)).toNat)).length) cz4) (by kernel_rfl) (congrArg (fun z=>Value.slice Z4 z cz4) (show (IntKind.i64.wrap ((m2.length:Int)-1)).toNat=(m2.take ((IntKind.i64.wrap ((m2.length:Int)-1)).toNat)).length by have f0:=hc41; have f1:=(hS.capAt 6 rfl); simp only [List.length_take]; omega)) ?_
    have hS242:=hS.b 2
    refine gs b4 0 #[(.slice Z4 m2.length cz4)] 37 [.slice Z4 ((m2.take ((IntKind.i64.wrap ((m2.length:Int)-1)).toNat)).length) cz4] hS242 fun w36 hS243=>?_
    have hS256:=((((((((((((hS243.nc #[.slice Z4 ((m2.take ((IntKind.i64.wrap ((m2.length:Int)-1)).toNat)).length) cz4] rfl).b 6).shrink ((IntKind.i64.wrap ((m2.length:Int)-1)).toNat)).b 9).b 9).b 9).b 3).b 9).b 9).b 9).b 7).b 9).takeN 9
    obtain rfl:=si h
    exact ge_nil fun a hF=>hQ _ _ _ (Outs.again ⟨(.slice Z4 (m2.take ((IntKind.i64.wrap ((m2.length:Int)-1)).toNat)).length cz4),(.slice Z5 m4.length cz5),hS256,hF.weaken ea⟩)
   rw [if_neg hc41] at h
   cases h
  rw [if_neg hc38] at h
  cases h
 rw [if_neg hc37] at h
 refine wk 195 (e1.Op==12) false (beq_eq_false_iff_ne.2 hc37)<|wf<|ws fun K36 hK36=>wr [(0,0),(1,0)]<|gb0 [0,1] [(209,.bool (e1.Op==13)),(210,.bool (e1.Op==13))]<|gn hK36 ?_
 by_cases hc42:e1.Op=13
 ·rw [if_pos hc42] at h
  refine wk 209 (e1.Op==13) true (beq_iff_eq.2 hc42)<|wt<|wr [(0,0),(1,0),(2,0),(3,0),(4,0),(5,2)]<|gb [0,1,2,3,4] [(215,vI e1.B),(214,pP b6 2),(213,vI e1.A),(212,pP b6 1),(211,.map (some b5))] [ld b6 1 (vI e1.A),ld b6 2 (vI e1.B)] ⟨hS.c 1,hS.c 1,trivial⟩ ?_
  have hS257:=hS.b 9
  refine ge_mapSet (κ:=Int) (ν:=Int) (b:=b5) (ins:=false) (mm:=0) (t:=62) (kt:=3) (et:=3) (x:=(.tmp 211)) (y:=(.tmp 213)) (u:=(.tmp 215)) (ty:=0) (m:=mp1) (k:=e1.A) (v:=e1.B) (vv:=vI e1.B) (by kernel_rfl) (by kernel_rfl) (by kernel_rfl) (by kernel_rfl) rfl (by kernel_rfl) (by kernel_rfl) hS257 fun w37 hS258=>?_
  have hS267:=hS258.p [2,3,4,5,6,7,8,9,0] rfl
  obtain rfl:=si h
  exact ge_nil fun a hF=>hQ _ _ _ (Outs.again ⟨(.slice Z4 m2.length cz4),(.slice Z5 m4.length cz5),hS267,hF.weaken ea⟩)
 rw [if_neg hc42] at h
 refine wk 209 (e1.Op==13) false (beq_eq_false_iff_ne.2 hc42)<|wf<|ws fun K37 hK37=>wr [(0,0),(1,0)]<|gb0 [0,1] [(216,.bool (e1.Op==14)),(217,.bool (e1.Op==14))]<|gn hK37 ?_
 by_cases hc43:e1.Op=14
 ·rw [if_pos hc43] at h
  refine wk 216 (e1.Op==14) true (beq_iff_eq.2 hc43)<|wt<|ws fun K38 hK38=>wr [(0,0),(1,0),(2,0),(3,0),(4,0)]<|gb [0,1,2] [(220,vI e1.A),(219,pP b6 1),(218,.map (some b5))] [ld b6 1 (vI e1.A)] ⟨hS.c 1,trivial⟩<|ge_lookup (κ:=Int) (ν:=Int) (d:=221) (b:=b5) (q:=9) (t:=62) (kt:=3) (et:=3) (x:=(.tmp 218)) (y:=(.tmp 220)) (ty:=3) (m:=mp1) (k:=e1.A) (z:=0) (v:=((mget mp1 e1.A).getD 0)) (zv:=vI 0) (vv:=vI ((mget mp1 e1.A).getD 0)) (by kernel_rfl) (by kernel_rfl) (by kernel_rfl) (by kernel_rfl) (by kernel_rfl) (fun w'=>by kernel_rfl) rfl hS rfl rfl rfl ?_
  refine gb0 [4] [(222,.bool (decide (((mget mp1 e1.A).getD 0) > 0)))]<|gn hK38 ?_
  by_cases hc44:((mget mp1 e1.A).getD 0) > 0
  ·rw [if_pos hc44] at h
   refine wk 222 (decide (((mget mp1 e1.A).getD 0) > 0)) true (decide_eq_true hc44)<|wt<|ws fun K39 hK39=>wr [(0,0),(1,0),(2,0),(3,0),(4,0),(5,2)]<|gb [0,1,2] [(225,vI e1.A),(224,pP b6 1),(223,.map (some b5))] [ld b6 1 (vI e1.A)] ⟨hS.c 1,trivial⟩<|ge_lookup (κ:=Int) (ν:=Int) (d:=226) (b:=b5) (q:=9) (t:=62) (kt:=3) (et:=3) (x:=(.tmp 223)) (y:=(.tmp 225)) (ty:=3) (m:=mp1) (k:=e1.A) (z:=0) (v:=((mget mp1 e1.A).getD 0)) (zv:=vI 0) (vv:=vI ((mget mp1 e1.A).getD 0)) (by kernel_rfl) (by kernel_rfl) (by kernel_rfl) (by kernel_rfl) (by kernel_rfl) (fun w'=>by kernel_rfl) rfl hS rfl rfl rfl ?_
   refine gb0 [4] [(227,vI (IntKind.i64.wrap (((mget mp1 e1.A).getD 0)-1)))] ?_
   have hS268:=hS.b 9
   refine ge_mapSet (κ:=Int) (ν:=Int) (b:=b5) (ins:=false) (mm:=0) (t:=62) (kt:=3) (et:=3) (x:=(.tmp 223)) (y:=(.tmp 225)) (u:=(.tmp 227)) (ty:=0) (m:=mp1) (k:=e1.A) (v:=(IntKind.i64.wrap (((mget mp1 e1.A).getD 0)-1))) (vv:=vI (IntKind.i64.wrap (((mget mp1 e1.A).getD 0)-1))) (by kernel_rfl) (by kernel_rfl) (by kernel_rfl) (by kernel_rfl) rfl (by kernel_rfl) (by kernel_rfl) hS268 fun w38 hS269=>?_
   refine gn hK39<|wr [(0,0),(1,0),(2,0),(3,0)]<|gb [0,1,2,3] [(18,.bool true),(17,vI e1.B),(229,vI e1.B),(228,pP b6 2)] [ld b6 2 (vI e1.B)] ⟨hS269.c 2,trivial⟩ ?_
   have hS278:=hS269.p [2,3,4,5,6,7,8,9,0] rfl
   obtain rfl:=si h
   exact ge_nil fun a hF=>hQ _ _ _ (Outs.again ⟨(.slice Z4 m2.length cz4),(.slice Z5 m4.length cz5),hS278,hF.weaken ea⟩)
  rw [if_neg hc44] at h
  refine wk 222 (decide (((mget mp1 e1.A).getD 0) > 0)) false (decide_eq_false hc44)<|wf ?_
  have hS288:=hS.p [1,2,3,4,5,6,7,8,9] rfl
  obtain rfl:=si h
  exact we_skip fun a hF=>hQ _ _ _ (Outs.again ⟨(.slice Z4 m2.length cz4),(.slice Z5 m4.length cz5),hS288,hF.weaken ea⟩)
 rw [if_neg hc43] at h
 refine wk 216 (e1.Op==14) false (beq_eq_false_iff_ne.2 hc43)<|wf<|ws fun K40 hK40=>wr [(0,0),(1,0)]<|gb0 [0,1] [(230,.bool (e1.Op==15)),(231,.bool (e1.Op==15))]<|gn hK40 ?_
 by_cases hc45:e1.Op=15
 ·rw [if_pos hc45] at h
  refine wk 230 (e1.Op==15) true (beq_iff_eq.2 hc45)<|wt<|wr [(0,0),(1,0),(2,0),(3,2)]<|gb [0,1,2] [(234,vI e1.A),(233,pP b6 1),(232,.map (some b5))] [ld b6 1 (vI e1.A)] ⟨hS.c 1,trivial⟩ ?_
  have hS289:=hS.b 9
  refine ge_mapSet (κ:=Int) (ν:=Int) (b:=b5) (ins:=false) (mm:=0) (t:=62) (kt:=3) (et:=3) (x:=(.tmp 232)) (y:=(.tmp 234)) (u:=(.const (vI 0))) (ty:=0) (m:=mp1) (k:=e1.A) (v:=0) (vv:=vI 0) (by kernel_rfl) (by kernel_rfl) (by kernel_rfl) (by kernel_rfl) rfl (by kernel_rfl) (by kernel_rfl) hS289 fun w39 hS290=>?_
  have hS299:=hS290.p [2,3,4,5,6,7,8,9,0] rfl
  obtain rfl:=si h
  exact ge_nil fun a hF=>hQ _ _ _ (Outs.again ⟨(.slice Z4 m2.length cz4),(.slice Z5 m4.length cz5),hS299,hF.weaken ea⟩)
 rw [if_neg hc45] at h
 refine wk 230 (e1.Op==15) false (beq_eq_false_iff_ne.2 hc45)<|wf ?_
 have hS309:=hS.p [1,2,3,4,5,6,7,8,9] rfl
 obtain rfl:=si h
 exact we_skip fun a hF=>hQ _ _ _ (Outs.again ⟨(.slice Z4 m2.length cz4),(.slice Z5 m4.length cz5),hS309,hF.weaken ea⟩)
abbrev punctualref_Steps.A0 (w0:World) (l0:List SIns) (A0:OA) (c0:Nat) (l2:List Int) (A2:OA) (c2:Nat) (x3:Int) (b1:Nat) (Z1:OA) (cz1 b3 b4 b5:Nat):((List SStep)×Int×(List Int)×(List Int)×(List SPut)×Int×(List (Int×Int)))→Act→World→Prop:=fun (s:(List SStep)×Int×(List Int)×(List Int)×(List SPut)×Int×(List (Int×Int))) a w=>∃ (v2:Value) (v3:Value) (v4:Value),St w0 w [bk b4 #[v3] 37,bk b3 #[(.slice Z1 s.2.2.2.1.length cz1),v4,vI s.2.2.2.2.2.1] 91,bk b1 #[.slice none 0 0,.slice none 0 0,vI 0] 91,Own.of v2 96 s.1,Own.of v3 3 s.2.2.1,ro Z1 cz1 3 s.2.2.2.1,Own.of v4 101 s.2.2.2.2.1,Own.map (κ:=Int) (ν:=Int) b5 s.2.2.2.2.2.2]∧Frm 252 a [(0,.slice A0 l0.length c0),(2,.slice A2 l2.length c2),(3,vI x3),(8,pP b1 0),(11,pP b3 0),(12,v2),(13,pP b4 0),(14,.map (some b5)),(15,vI s.2.1)]
abbrev punctualref_Steps.B0 (w0:World) (b1:Nat) (Z1:OA) (cz1 b3:Nat):(((List SStep)×(List Int)×(List SPut)×Int) ⊕ (SEnded×(List SStep)×Bool))→Exit→Act→World→Prop:=Exits 0 (fun (s:(List SStep)×(List Int)×(List SPut)×Int) a w=>∃ (v5:Value) (v6:Value),St w0 w [bk b3 #[(.slice Z1 s.2.1.length cz1),v6,vI s.2.2.2] 91,bk b1 #[.slice none 0 0,.slice none 0 0,vI 0] 91,Own.of v5 96 s.1,ro Z1 cz1 3 s.2.1,Own.of v6 101 s.2.2.1]∧Frm 252 a [(8,pP b1 0),(11,pP b3 0),(12,v5)]) (Rets Tryd.prog Tryd.f45 (punctualref_Steps.Post w0))
theorem punctualref_Steps_r0 (K:Nat) (w0:World) (l0:List SIns) (A0:OA) (c0:Nat) (l1:List Int) (A1:OA) (c1:Nat) (l2:List Int) (A2:OA) (c2:Nat) (x3:Int) (hR0:RdL w0 A0 l0) (hL0:l0.length≤c0) (hR1:RdL w0 A1 l1) (hL1:l1.length≤c1) (hR2:RdL w0 A2 l2) (hL2:l2.length≤c2) (b1 b2:Nat) (hc1:0+l1.length≤17592186044416) (Z1:OA) (cz1 b3 b4 b5:Nat) (s:(List SStep)×Int×(List Int)×(List Int)×(List SPut)×Int×(List (Int×Int))) (o:((List SStep)×Int×(List Int)×(List Int)×(List SPut)×Int×(List (Int×Int))) ⊕ (((List SStep)×(List Int)×(List SPut)×Int) ⊕ (SEnded×(List SStep)×Bool))) (h:punctualref_Steps.r0 l0 l2 x3 s=some o) (a:Act) (w:World) (hA:punctualref_Steps.A0 w0 l0 A0 c0 l2 A2 c2 x3 b1 Z1 cz1 b3 b4 b5 s a w) (Q:Exit→Act→World→Prop) (hQ:∀ x a w,Outs (punctualref_Steps.A0 w0 l0 A0 c0 l2 A2 c2 x3 b1 Z1 cz1 b3 b4 b5) (punctualref_Steps.B0 w0 b1 Z1 cz1 b3) o x a w→Q x a w):(subF Tryd.f45 [1,1,1,1,1,1,0,0,0]).wp Tryd.prog Q a w:=by
 obtain ⟨m1,z1,m2,m3,m4,z2,mp1⟩:=s
 obtain ⟨v2,v3,v4,hS,hF⟩:=hA
 replace hS:St w0 w [bk b4 #[v3] 37,bk b3 #[(.slice Z1 m3.length cz1),v4,vI z2] 91,bk b1 #[.slice none 0 0,.slice none 0 0,vI 0] 91,Own.of v2 96 m1,Own.of v3 3 m2,ro Z1 cz1 3 m3,Own.of v4 101 m4,Own.map (κ:=Int) (ν:=Int) b5 mp1]:=hS
 simp only [punctualref_Steps.r0] at h
 refine (?_:WE Tryd.prog 252 (subF Tryd.f45 [1,1,1,1,1,1,0,0,0]) Q [(0,.slice A0 l0.length c0),(2,.slice A2 l2.length c2),(3,vI x3),(8,pP b1 0),(11,pP b3 0),(12,v2),(13,pP b4 0),(14,.map (some b5)),(15,vI z1)] w) a hF
 clear hF a
 refine ws fun K8 hK8=>ws fun K9 hK9=>wr [(0,0),(1,0),(2,0),(3,0)]<|gb0 [0,1,2,3] [(31,.bool (decide (z1<(l0.length:Int)))),(30,vI (l0.length:Int)),(29,.slice A0 l0.length c0),(28,vI z1)]<|gn hK9 ?_
 by_cases hc2:z1<(l0.length:Int)
 ·rw [if_pos hc2] at h
  refine wk 31 (decide (z1<(l0.length:Int))) true (decide_eq_true hc2)<|wt<|we_skip fun a hF=>hK8 _ _ ?_ a hF
  refine we_block<|ws fun K10 hK10=>ws fun K11 hK11=>wr [(0,0),(1,0),(2,0),(3,0)]<|gb0 [0] [(32,v2)] ?_
  obtain ⟨Z2,cz2,rfl⟩:=hS.open 3 rfl
  refine gb0 [1,2,3] [(35,.bool ((m1.length:Int)==x3)),(34,vI x3),(33,vI (m1.length:Int))]<|gn hK11 ?_
  by_cases hc3:(m1.length:Int)=x3
  ·rw [if_pos hc3] at h
   refine wk 35 ((m1.length:Int)==x3) true (beq_iff_eq.2 hc3)<|wt<|ws fun K12 hK12=>wr [(0,0),(1,0),(2,2),(3,0),(4,0)]<|gb [0,1] [(37,(.slice Z2 m1.length cz2)),(36,.agg #[(.slice Z1 m3.length cz1),v4,vI z2])] [ld b3 0 ((.slice Z1 m3.length cz1)),ld b3 1 (v4),ld b3 2 (vI z2)] ⟨hS.c 1,hS.c 1,hS.c 1,trivial⟩ ?_
   obtain ⟨Z3,cz3,rfl⟩:=hS.open 6 rfl
   have hS23:=hS.b 2
   refine gs b1 0 #[.slice none 0 0,.slice none 0 0,vI 0] 91 [(.slice Z1 m3.length cz1),(.slice Z3 m4.length cz3),vI z2] hS23 fun w8 hS24=>?_
   have hS25:=hS24.nc #[(.slice Z1 m3.length cz1),(.slice Z3 m4.length cz3),vI z2] rfl
   refine gb0 [3,4] [(10,.bool false),(9,(.slice Z2 m1.length cz2))]<|gn hK12 ?_
   have hS29:=hS25.p [5,6,3] rfl
   obtain rfl:=si h
   exact we_ret fun a hF=>hQ _ _ _ (Outs.out nofun (Exits.on ⟨rfl,(pr [.cell 8 91,.tmp 9,.tmp 10] [.agg #[(.slice Z1 m3.length cz1),(.slice Z3 m4.length cz3),vI z2],(.slice Z2 m1.length cz2),.bool false] [ld b1 0 ((.slice Z1 m3.length cz1)),ld b1 1 ((.slice Z3 m4.length cz3)),ld b1 2 (vI z2)] ⟨hS25.c 0,hS25.c 0,hS25.c 0,trivial⟩ ⟨(.slice Z1 m3.length cz1),(.slice Z3 m4.length cz3),(.slice Z2 m1.length cz2),rfl,hS29⟩) a hF⟩))
  rw [if_neg hc3] at h
  refine wk 35 ((m1.length:Int)==x3) false (beq_eq_false_iff_ne.2 hc3)<|wf<|we_skip fun a hF=>hK10 _ _ ?_ a hF
  refine ws fun K13 hK13=>wr [(0,0),(1,0),(2,0),(3,0),(4,1),(5,2)]<|gb0 [0,1] [(39,vI z1),(38,.slice A0 l0.length c0)] ?_
  by_cases hc4:0≤z1
  ·rw [if_pos hc4] at h
   rcases hx6:l0[(z1).toNat]? with _ | e1
   ·rw [hx6] at h; cases h
   rw [hx6] at h
   simp only [] at h
   refine gi 40 0 22 29 3 l0.length c0 (.tmp 38) (.tmp 39) A0 .i64 z1 ((z1).toNat) ((hS.rd hR0).eqSome (pos_of_get hx6)) (Int.toNat_of_nonneg hc4).symm (lt_of_get hx6) ?_
   refine gb [3] [(41,.agg #[vI e1.Op,vI e1.A,vI e1.B])] [.loaded ⟨blkOf A0,offOf A0+((z1).toNat)*3,none⟩ (vI e1.Op),.loaded ⟨blkOf A0,offOf A0+((z1).toNat)*3+1,none⟩ (vI e1.A),.loaded ⟨blkOf A0,offOf A0+((z1).toNat)*3+2,none⟩ (vI e1.B)] ⟨RdL.cell (j:=0) (hS.rd hR0) hx6 rfl,RdL.cell (j:=1) (hS.rd hR0) hx6 rfl,RdL.cell (j:=2) (hS.rd hR0) hx6 rfl,trivial⟩<|gw (some 16) (.cells #[vI 0,vI 0,vI 0] 29) (fun b=>pP b 0) hS fun b6 w9 hx7 hS30=>?_
   refine gs b6 0 #[vI 0,vI 0,vI 0] 29 [vI e1.Op,vI e1.A,vI e1.B] hS30 fun w10 hS31=>?_
   have hS32:=hS31.nc #[vI e1.Op,vI e1.A,vI e1.B] rfl
   refine gn hK13<|ws fun K14 hK14=>wr [(0,0),(1,0),(2,0),(3,0)]<|gb0 [0,1,2,3] [(18,.bool false),(17,vI (IntKind.i64.wrap (z1+1))),(43,vI (IntKind.i64.wrap (z1+1))),(42,vI z1)]<|gn hK14<|ws fun K15 hK15=>wr [(0,0),(1,0),(2,1),(3,2)]<|gb [0] [(44,v3)] [ld b4 0 (v3)] ⟨hS32.c 1,trivial⟩ ?_
   obtain ⟨Z4,cz4,rfl⟩:=hS32.open 5 rfl
   refine gb0 [1] [(45,vI (m2.length:Int))]<|gw (some 19) (.cells #[vI 0] 3) (fun b=>pP b 0) hS32 fun b7 w11 hx8 hS33=>?_
   refine gs b7 0 #[vI 0] 3 [vI (m2.length:Int)] hS33 fun w12 hS34=>?_
   have hS35:=hS34.nc #[vI (m2.length:Int)] rfl
   refine gn hK15<|ws fun K16 hK16=>wr [(0,0),(1,0)]<|gb0 [0,1] [(20,.func (.func 66) #[] #[pP b4 0,pP b7 0]),(46,.func (.func 66) #[] #[pP b4 0,pP b7 0])]<|gn hK16<|ws fun K17 hK17=>wr [(0,0)]<|gb0 [0] [(21,.func (.func 67) #[] #[])]<|gn hK17<|ws fun K18 hK18=>?_
   obtain ⟨Z5,cz5,rfl⟩:=hS35.open 8 rfl
   rcases hq8:punctualref_Steps.p1 l2 z1 m2 m3 m4 mp1 e1 with _ | (⟨z5,q2,m11,m12,m13,mp3⟩ | rr1)
   ·rw [hq8] at h; cases h
   ·rw [hq8] at h
    simp only [] at h
    refine we_keep (e':=((0,.slice A0 l0.length c0)::(2,.slice A2 l2.length c2)::(3,vI x3)::(8,pP b1 0)::(11,pP b3 0)::(12,(.slice Z2 m1.length cz2))::(13,pP b4 0)::(14,.map (some b5))::(15,vI z1)::(16,pP b6 0)::(17,vI (IntKind.i64.wrap (z1+1)))::(18,.bool false)::(19,pP b7 0)::(20,.func (.func 66) #[] #[pP b4 0,pP b7 0])::(21,.func (.func 67) #[] #[])::(28,vI z1)::(29,.slice A0 l0.length c0)::(30,vI (l0.length:Int))::(31,.bool true)::(32,(.slice Z2 m1.length cz2))::(33,vI (m1.length:Int))::(34,vI x3)::(35,.bool false)::(38,.slice A0 l0.length c0)::(39,vI z1)::(40,.pointer (some ⟨blkOf A0,offOf A0+(z1).toNat*3,none⟩))::(41,.agg #[vI e1.Op,vI e1.A,vI e1.B])::(42,vI z1)::(43,vI (IntKind.i64.wrap (z1+1)))::(44,(.slice Z4 m2.length cz4))::(45,vI (m2.length:Int))::(46,.func (.func 66) #[] #[pP b4 0,pP b7 0])::[])) ea (punctualref_Steps_p1 K w0 l0 A0 c0 l1 A1 c1 l2 A2 c2 x3 hR0 hL0 hR1 hL1 hR2 hL2 b1 b2 hc1 Z1 cz1 b3 b4 b5 m1 z1 m2 m3 m4 z2 mp1 hc2 Z2 cz2 hc3 hc4 e1 hx6 b6 Z4 cz4 b7 Z5 cz5 _ hq8 _ hS35 _ ?_)
    rintro _ a w40 ⟨rfl,v18,v19,hS310,hF⟩
    replace hS310:St w0 w40 [bk b6 #[vI e1.Op,vI e1.A,vI e1.B] 29,bk b4 #[v18] 37,bk b3 #[(.slice Z1 m12.length cz1),v19,vI z2] 91,bk b1 #[.slice none 0 0,.slice none 0 0,vI 0] 91,ro Z2 cz2 96 m1,Own.of v18 3 m11,ro Z1 cz1 3 m12,Own.of v19 101 m13,Own.map (κ:=Int) (ν:=Int) b5 mp3]:=hS310
    refine hK18 [(0,.slice A0 l0.length c0),(2,.slice A2 l2.length c2),(3,vI x3),(8,pP b1 0),(11,pP b3 0),(12,(.slice Z2 m1.length cz2)),(13,pP b4 0),(14,.map (some b5)),(15,vI z1),(16,pP b6 0),(17,vI z5),(18,.bool q2)] w40 ?_ a hF
    refine ws fun K41 hK41=>wr [(0,0),(1,0),(2,1),(3,0)]<|gb [0,1] [(236,.bool q2),(235,.agg #[vI e1.Op,vI e1.A,vI e1.B])] [ld b6 0 (vI e1.Op),ld b6 1 (vI e1.A),ld b6 2 (vI e1.B)] ⟨hS310.c 0,hS310.c 0,hS310.c 0,trivial⟩<|ge_call (d:=some 237) (f:=57) (args:=#[.agg #[vI e1.Op,vI e1.A,vI e1.B],.bool q2]) (by kernel_rfl) (punctualref_Ticks_ok e1 q2 _ _ rfl) ?_
    rintro _ w41 ⟨rfl,hS311⟩
    refine ⟨_,rfl,hS311.below,?_⟩
    have hS312:=hS310.call hS311
    refine gb0 [3] [(22,vI (punctualref_Ticks.f e1 q2))]<|gn hK41<|ws fun K42 hK42=>wr [(0,0),(1,0),(2,0),(3,0),(4,1),(5,2),(6,0)]<|gb0 [0,1,2,3] [(241,.agg #[vI z1,vI (punctualref_Ticks.f e1 q2)]),(240,vI (punctualref_Ticks.f e1 q2)),(239,vI z1),(238,(.slice Z2 m1.length cz2))]<|gw (some 242) (.cells #[vI z1,vI (punctualref_Ticks.f e1 q2)] 96) (fun b=>.slice (some ⟨b,0,none⟩) 1 1) hS312 fun b12 w42 hx29 hS313=>?_
    have hS314:=hS313.b 5
    by_cases hc46:m1.length<8796093022208
    ·rw [if_pos hc46] at h
     refine ge_append (α:=SStep) (m:=0) (d:=243) (t:=92) (el:=96) (bytes:=16) (c1:=1) (b1:=b12) (x:=(.tmp 238)) (y:=(.tmp 242)) (ty:=92) (v:=(.slice Z2 m1.length cz2)) (z:=.agg #[vI 0,vI 0]) (l:=m1) (u:=(⟨z1,(punctualref_Ticks.f e1 q2)⟩:SStep)) (by kernel_rfl) (by kernel_rfl) (by kernel_rfl) (by kernel_rfl) (by kernel_rfl) rfl hS314 rfl (by omega) fun v20 w43 hS315=>?_
     refine gb0 [6] [(12,v20)]<|gn hK42<|ws fun K43 hK43=>wr [(0,0),(1,0),(2,0),(3,0),(4,0),(5,2)]<|gb [0,1,2,3,4] [(248,pP b3 2),(247,vI (IntKind.i64.wrap (z2+(punctualref_Ticks.f e1 q2)))),(246,vI (punctualref_Ticks.f e1 q2)),(245,vI z2),(244,pP b3 2)] [ld b3 2 (vI z2)] ⟨hS315.c 3,trivial⟩ ?_
     have hS316:=hS315.b 3
     refine gs b3 2 #[(.slice Z1 m12.length cz1),v19,vI z2] 91 [vI (IntKind.i64.wrap (z2+(punctualref_Ticks.f e1 q2)))] hS316 fun w44 hS317=>?_
     have hS318:=hS317.nc #[(.slice Z1 m12.length cz1),v19,vI (IntKind.i64.wrap (z2+(punctualref_Ticks.f e1 q2)))] rfl
     refine gn hK43<|wr [(0,0),(1,0)]<|gb0 [0,1] [(15,vI z5),(249,vI z5)] ?_
     have hS327:=hS318.p [3,0,4,1,5,6,7,8] rfl
     obtain rfl:=si h
     exact ge_nil fun a hF=>hQ _ _ _ (Outs.again ⟨v20,v18,v19,hS327,hF.weaken ea⟩)
    rw [if_neg hc46] at h
    cases h
   rw [hq8] at h
   simp only [] at h
   refine we_keep (e':=((0,.slice A0 l0.length c0)::(2,.slice A2 l2.length c2)::(3,vI x3)::(8,pP b1 0)::(11,pP b3 0)::(12,(.slice Z2 m1.length cz2))::(13,pP b4 0)::(14,.map (some b5))::(15,vI z1)::(16,pP b6 0)::(17,vI (IntKind.i64.wrap (z1+1)))::(18,.bool false)::(19,pP b7 0)::(20,.func (.func 66) #[] #[pP b4 0,pP b7 0])::(21,.func (.func 67) #[] #[])::(28,vI z1)::(29,.slice A0 l0.length c0)::(30,vI (l0.length:Int))::(31,.bool true)::(32,(.slice Z2 m1.length cz2))::(33,vI (m1.length:Int))::(34,vI x3)::(35,.bool false)::(38,.slice A0 l0.length c0)::(39,vI z1)::(40,.pointer (some ⟨blkOf A0,offOf A0+(z1).toNat*3,none⟩))::(41,.agg #[vI e1.Op,vI e1.A,vI e1.B])::(42,vI z1)::(43,vI (IntKind.i64.wrap (z1+1)))::(44,(.slice Z4 m2.length cz4))::(45,vI (m2.length:Int))::(46,.func (.func 66) #[] #[pP b4 0,pP b7 0])::[])) ea (punctualref_Steps_p1 K w0 l0 A0 c0 l1 A1 c1 l2 A2 c2 x3 hR0 hL0 hR1 hL1 hR2 hL2 b1 b2 hc1 Z1 cz1 b3 b4 b5 m1 z1 m2 m3 m4 z2 mp1 hc2 Z2 cz2 hc3 hc4 e1 hx6 b6 Z4 cz4 b7 Z5 cz5 _ hq8 _ hS35 _ ?_)
   rintro _ a w1 ⟨_,rfl,hb⟩
   obtain rfl:=si h
   exact hQ _ _ _ (Outs.out nofun (Exits.on ⟨rfl,hb⟩))
  rw [if_neg hc4] at h
  cases h
 rw [if_neg hc2] at h
 refine wk 31 (decide (z1<(l0.length:Int))) false (decide_eq_false hc2)<|wf ?_
 have hS333:=hS.p [1,2,3,5,6] rfl
 obtain rfl:=si h
 exact we_exit fun a hF=>hQ _ _ _ (Outs.out nofun (Exits.here ⟨v2,v4,hS333,hF.weaken ea⟩))
theorem punctualref_Steps_ok (K:Nat) (l0:List SIns) (A0:OA) (c0:Nat) (l1:List Int) (A1:OA) (c1:Nat) (l2:List Int) (A2:OA) (c2:Nat) (x3:Int) (w0:World) (hR0:RdL w0 A0 l0) (hL0:l0.length≤c0) (hR1:RdL w0 A1 l1) (hL1:l1.length≤c1) (hR2:RdL w0 A2 l2) (hL2:l2.length≤c2) (r:SEnded×(List SStep)×Bool) (h:punctualref_Steps.f K l0 l1 l2 x3=some r) :
  Calls Tryd.prog 45 #[.slice A0 l0.length c0,.slice A1 l1.length c1,.slice A2 l2.length c2,vI x3] w0 (punctualref_Steps.Post w0 r):=by
 have hS:=St.start w0
 unfold punctualref_Steps.f at h
 refine calls_enter (n:=252) (args:=[.slice A0 l0.length c0,.slice A1 l1.length c1,.slice A2 l2.length c2,vI x3]) (fn:=Tryd.f45) rfl rfl rfl rfl ?_
 show WE _ _ _ _ [(0,.slice A0 l0.length c0),(1,.slice A1 l1.length c1),(2,.slice A2 l2.length c2),(3,vI x3)] _
 refine ws fun K1 hK1=>wr [(0,1),(1,0),(2,0)]<|gw (some 8) (.cells #[.slice none 0 0,.slice none 0 0,vI 0] 91) (fun b=>pP b 0) hS fun b1 w1 hx1 hS1=>?_
 refine gb0 [1,2] [(10,.bool false),(9,.slice none 0 0)]<|gn hK1<|ws fun K2 hK2=>wr [(0,1),(1,0),(2,2),(3,0),(4,1),(5,2)]<|gw (some 23) (.cells #[] 3) (fun b=>.slice (some ⟨b,0,none⟩) 0 0) hS1 fun b2 w2 hx2 hS2=>?_
 refine gb0 [1] [(24,.slice A1 l1.length c1)] ?_
 have hS3:=hS2.asRow (α:=Int) (c:=0) ([]:List Int) (Nat.le_refl _) (by decide) rfl rfl
 by_cases hc1:0+l1.length≤17592186044416
 ·rw [if_pos hc1] at h
  refine ge_appendL (α:=Int) (m:=0) (d:=25) (t:=37) (el:=3) (bytes:=8) (c1:=c1) (A1:=A1) (x:=(.tmp 23)) (y:=(.tmp 24)) (ty:=37) (v:=(.slice (some ⟨b2,0,none⟩) 0 0)) (z:=vI 0) (l:=([]:List Int)) (us:=l1) (by kernel_rfl) (by kernel_rfl) (by kernel_rfl) (by kernel_rfl) (by kernel_rfl) rfl hS3 (hS3.rd hR1) rfl (Nat.mul_le_of_le_div _ _ _ hc1) fun v1 w3 hS4=>?_
  have hS5:St w0 w3 [Own.of v1 3 l1,bk b1 #[.slice none 0 0,.slice none 0 0,vI 0] 91]:=hS4
  obtain ⟨Z1,cz1,rfl⟩:=hS5.open 0 rfl
  refine gb0 [3] [(26,.agg #[(.slice Z1 l1.length cz1),.slice none 0 0,vI 0])]<|gw (some 11) (.cells #[.slice none 0 0,.slice none 0 0,vI 0] 91) (fun b=>pP b 0) hS5 fun b3 w4 hx3 hS6=>?_
  refine gs b3 0 #[.slice none 0 0,.slice none 0 0,vI 0] 91 [(.slice Z1 l1.length cz1),.slice none 0 0,vI 0] hS6 fun w5 hS7=>?_
  have hS8:=hS7.nc #[(.slice Z1 l1.length cz1),.slice none 0 0,vI 0] rfl
  refine gn hK2<|ws fun K3 hK3=>wr [(0,0)]<|gb0 [0] [(12,.slice none 0 0)]<|gn hK3<|ws fun K4 hK4=>wr [(0,1)]<|gw (some 13) (.cells #[.slice none 0 0] 37) (fun b=>pP b 0) hS8 fun b4 w6 hx4 hS9=>?_
  refine gn hK4<|ws fun K5 hK5=>wr [(0,1),(1,0)]<|gw (some 27) (.map #[] 0) (fun b=>.map (some b)) hS9 fun b5 w7 hx5 hS10=>?_
  have hS11:=hS10.newMap (κ:=Int) (ν:=Int)
  refine gb0 [1] [(14,.map (some b5))]<|gn hK5<|ws fun K6 hK6=>wr [(0,0)]<|gb0 [0] [(15,vI 0)]<|gn hK6<|ws fun K7 hK7=>we_block ?_
  have hS12:=hS11.nil (α:=SStep) 96
  have hS13:=hS12.nil (α:=Int) 3
  have hS22:=((((((((hS13.nil (α:=SPut) 101).b 3).b 1).b 6).b 3).b 4).b 7).b 7).b 7
  rcases hq10:iter (punctualref_Steps.r0 l0 l2 x3) K (([]:List SStep),0,([]:List Int),l1,([]:List SPut),0,([]:List (Int×Int))) with _ | (⟨m14,m15,m16,z6⟩ | rr2)
  ·rw [hq10] at h; cases h
  ·rw [hq10] at h
   simp only [] at h
   refine we_iter (A:=punctualref_Steps.A0 w0 l0 A0 c0 l2 A2 c2 x3 b1 Z1 cz1 b3 b4 b5) (B:=punctualref_Steps.B0 w0 b1 Z1 cz1 b3) hq10 (fun a hF=>⟨(.slice none 0 0),(.slice none 0 0),(.slice none 0 0),hS22,hF.weaken ea⟩) (fun s o hf a w hA Q hQ=>punctualref_Steps_r0 K w0 l0 A0 c0 l1 A1 c1 l2 A2 c2 x3 hR0 hL0 hR1 hL1 hR2 hL2 b1 b2 hc1 Z1 cz1 b3 b4 b5 s o hf a w hA Q hQ) ?_
   rintro _ a w45 _ ⟨rfl,v21,v22,hS334,hF⟩
   replace hS334:St w0 w45 [bk b3 #[(.slice Z1 m15.length cz1),v22,vI z6] 91,bk b1 #[.slice none 0 0,.slice none 0 0,vI 0] 91,Own.of v21 96 m14,ro Z1 cz1 3 m15,Own.of v22 101 m16]:=hS334
   refine hK7 [(8,pP b1 0),(11,pP b3 0),(12,v21)] w45 ?_ a hF
   refine ws fun K44 hK44=>wr [(0,0),(1,0),(2,2),(3,0),(4,0)]<|gb [0,1] [(251,v21),(250,.agg #[(.slice Z1 m15.length cz1),v22,vI z6])] [ld b3 0 ((.slice Z1 m15.length cz1)),ld b3 1 (v22),ld b3 2 (vI z6)] ⟨hS334.c 0,hS334.c 0,hS334.c 0,trivial⟩ ?_
   obtain ⟨Z10,cz10,rfl⟩:=hS334.open 4 rfl
   have hS335:=hS334.b 1
   refine gs b1 0 #[.slice none 0 0,.slice none 0 0,vI 0] 91 [(.slice Z1 m15.length cz1),(.slice Z10 m16.length cz10),vI z6] hS335 fun w46 hS336=>?_
   have hS337:=hS336.nc #[(.slice Z1 m15.length cz1),(.slice Z10 m16.length cz10),vI z6] rfl
   refine gb0 [3,4] [(10,.bool true),(9,v21)]<|gn hK44 ?_
   have hS341:=hS337.p [3,4,2] rfl
   obtain rfl:=si h
   exact we_ret (pr [.cell 8 91,.tmp 9,.tmp 10] [.agg #[(.slice Z1 m15.length cz1),(.slice Z10 m16.length cz10),vI z6],v21,.bool true] [ld b1 0 ((.slice Z1 m15.length cz1)),ld b1 1 ((.slice Z10 m16.length cz10)),ld b1 2 (vI z6)] ⟨hS337.c 0,hS337.c 0,hS337.c 0,trivial⟩ ⟨(.slice Z1 m15.length cz1),(.slice Z10 m16.length cz10),v21,rfl,hS341⟩)
  rw [hq10] at h
  simp only [] at h
  refine we_iter (A:=punctualref_Steps.A0 w0 l0 A0 c0 l2 A2 c2 x3 b1 Z1 cz1 b3 b4 b5) (B:=punctualref_Steps.B0 w0 b1 Z1 cz1 b3) hq10 (fun a hF=>⟨(.slice none 0 0),(.slice none 0 0),(.slice none 0 0),hS22,hF.weaken ea⟩) (fun s o hf a w hA Q hQ=>punctualref_Steps_r0 K w0 l0 A0 c0 l1 A1 c1 l2 A2 c2 x3 hR0 hL0 hR1 hL1 hR2 hL2 b1 b2 hc1 Z1 cz1 b3 b4 b5 s o hf a w hA Q hQ) ?_
  rintro _ a w1 _ ⟨rfl,hb⟩
  obtain rfl:=si h
  exact hb
 rw [if_neg hc1] at h
 cases h

/-! (*punctual/mach.Machine).Vars -/
abbrev mach_Machine_Vars.Post (w0:World) (bp0:Nat) (lp0_0:List SIns) (Ap0_0:OA) (cp0_0:Nat) (lp0_1:List Int) (Ap0_1:OA) (cp0_1:Nat) (lp0_2:List Int) (Ap0_2:OA) (cp0_2:Nat) (lp0_3:List SPut) (Ap0_3:OA) (cp0_3:Nat) (lp0_4:List Int) (Ap0_4:OA) (cp0_4:Nat) (sp0_5:List Int) (sp0_13 sp0_14:Int) (LT:List Own) (r:List Int) (e:Ending) (w:World):Prop:=∃ (v0:Value),e=.returned (v0)∧St w0 w [Own.of v0 3 r,bk bp0 #[(.slice Ap0_0 lp0_0.length cp0_0),(.slice Ap0_1 lp0_1.length cp0_1),(.slice Ap0_2 lp0_2.length cp0_2),(.slice Ap0_3 lp0_3.length cp0_3),(.slice Ap0_4 lp0_4.length cp0_4),vI ((sp0_5[0]?).getD 0),vI ((sp0_5[1]?).getD 0),vI ((sp0_5[2]?).getD 0),vI ((sp0_5[3]?).getD 0),vI ((sp0_5[4]?).getD 0),vI ((sp0_5[5]?).getD 0),vI ((sp0_5[6]?).getD 0),vI ((sp0_5[7]?).getD 0),vI sp0_13,vI sp0_14] 86,ro Ap0_0 cp0_0 29 lp0_0,ro Ap0_1 cp0_1 3 lp0_1,ro Ap0_2 cp0_2 3 lp0_2,ro Ap0_3 cp0_3 101 lp0_3,ro Ap0_4 cp0_4 3 lp0_4,Own.all LT]
def mach_Machine_Vars.f (lp0_0 : List SIns) (lp0_1 : List Int) (lp0_2 : List Int) (lp0_3 : List SPut) (lp0_4 : List Int) (sp0_5 : List Int) (sp0_13 : Int) (sp0_14 : Int) : Option (List Int) :=
 match slices_Clone_int_int.f lp0_2 with
 | none=>none
 | some r1 =>
  some r1
theorem mach_Machine_Vars_ok (bp0:Nat) (lp0_0:List SIns) (Ap0_0:OA) (cp0_0:Nat) (lp0_1:List Int) (Ap0_1:OA) (cp0_1:Nat) (lp0_2:List Int) (Ap0_2:OA) (cp0_2:Nat) (lp0_3:List SPut) (Ap0_3:OA) (cp0_3:Nat) (lp0_4:List Int) (Ap0_4:OA) (cp0_4:Nat) (sp0_5:List Int) (sp0_13 sp0_14:Int) (w0 wE:World) (LT:List Own) (hS:St w0 wE [bk bp0 #[(.slice Ap0_0 lp0_0.length cp0_0),(.slice Ap0_1 lp0_1.length cp0_1),(.slice Ap0_2 lp0_2.length cp0_2),(.slice Ap0_3 lp0_3.length cp0_3),(.slice Ap0_4 lp0_4.length cp0_4),vI ((sp0_5[0]?).getD 0),vI ((sp0_5[1]?).getD 0),vI ((sp0_5[2]?).getD 0),vI ((sp0_5[3]?).getD 0),vI ((sp0_5[4]?).getD 0),vI ((sp0_5[5]?).getD 0),vI ((sp0_5[6]?).getD 0),vI ((sp0_5[7]?).getD 0),vI sp0_13,vI sp0_14] 86,ro Ap0_0 cp0_0 29 lp0_0,ro Ap0_1 cp0_1 3 lp0_1,ro Ap0_2 cp0_2 3 lp0_2,ro Ap0_3 cp0_3 101 lp0_3,ro Ap0_4 cp0_4 3 lp0_4,Own.all LT]) (r:List Int) (h:mach_Machine_Vars.f lp0_0 lp0_1 lp0_2 lp0_3 lp0_4 sp0_5 sp0_13 sp0_14=some r) :
  Calls Tryd.prog 46 #[pP bp0 0] wE (mach_Machine_Vars.Post w0 bp0 lp0_0 Ap0_0 cp0_0 lp0_1 Ap0_1 cp0_1 lp0_2 Ap0_2 cp0_2 lp0_3 Ap0_3 cp0_3 lp0_4 Ap0_4 cp0_4 sp0_5 sp0_13 sp0_14 LT r):=by
 unfold mach_Machine_Vars.f at h
 refine calls_enter (n:=8) (args:=[pP bp0 0]) (fn:=Tryd.f46) rfl rfl rfl rfl ?_
 show WE _ _ _ _ [(0,pP bp0 0)] _
 refine ws fun K1 hK1=>wr [(0,0)]<|gb0 [0] [(2,.slice none 0 0)]<|gn hK1<|ws fun K2 hK2=>wr [(0,0),(1,0),(2,0),(3,0),(4,1),(5,0)] ?_
 rcases hq1:slices_Clone_int_int.f lp0_2 with _ | r1
 ·rw [hq1] at h; cases h
 rw [hq1] at h
 simp only [] at h
 refine gb [0,1,2,3] [(6,(.slice Ap0_2 lp0_2.length cp0_2)),(5,pP bp0 2),(4,pP bp0 0),(3,pP bp0 0)] [ld bp0 2 ((.slice Ap0_2 lp0_2.length cp0_2))] ⟨hS.c 0,trivial⟩<|ge_call (d:=some 7) (f:=41) (args:=#[(.slice Ap0_2 lp0_2.length cp0_2)]) (by kernel_rfl) (slices_Clone_int_int_ok lp0_2 Ap0_2 cp0_2 _ (hS.rdAt 3 rfl) (hS.capAt 3 rfl) _ hq1) ?_
 rintro _ w1 ⟨v1,rfl,hS1⟩
 refine ⟨_,rfl,hS1.below,?_⟩
 have hS2:=hS.call hS1
 refine gb0 [5] [(2,v1)]<|gn hK2 ?_
 have hS10:=(((((((hS2.b 7).b 7).b 7).b 7).b 7).b 7).b 7).b 7
 obtain rfl:=si h
 exact we_ret (pr0 [.tmp 2] [v1] ⟨v1,rfl,hS10⟩)

/-! slices.Clone[[]punctual/api.Put,punctual/api.Put] -/
abbrev slices_Clone_api_Put_api_Put.Post (w0:World) (r:List SPut) (e:Ending) (w:World):Prop:=∃ (v0:Value),e=.returned (v0)∧St w0 w [Own.of v0 101 r]
def slices_Clone_api_Put_api_Put.f (l0 : List SPut) : Option (List SPut) :=
 if 0+l0.length≤8796093022208 then
  some l0
 else
  none
theorem slices_Clone_api_Put_api_Put_ok (l0:List SPut) (A0:OA) (c0:Nat) (w0:World) (hR0:RdL w0 A0 l0) (hL0:l0.length≤c0) (r:List SPut) (h:slices_Clone_api_Put_api_Put.f l0=some r) :
  Calls Tryd.prog 68 #[.slice A0 l0.length c0] w0 (slices_Clone_api_Put_api_Put.Post w0 r):=by
 have hS:=St.start w0
 unfold slices_Clone_api_Put_api_Put.f at h
 rcases A0 with _ | ad
 ·obtain rfl:=RdL.nil_of hR0
  rw [if_pos (by decide)] at h
  refine calls_enter (n:=8) (args:=[.slice none ([]:List SPut).length c0]) (fn:=Tryd.f68) rfl rfl rfl rfl ?_
  show WE _ _ _ _ [(0,.slice none ([]:List SPut).length c0)] _
  refine ws fun K1 hK1=>wr [(0,0)]<|gb0 [0] [(2,.slice none 0 0)]<|gn hK1<|ws fun K2 hK2=>ws fun K3 hK3=>wr [(0,0),(1,0)]<|gb0 [0,1] [(4,.bool true),(3,.slice none (([]:List SPut).length) c0)]<|gn hK3<|wt<|ws fun K4 hK4=>wr [(0,0)]<|gb0 [0] [(2,.slice none 0 0)]<|gn hK4 ?_
  have hS1:=hS.nil (α:=SPut) 101
  obtain rfl:=si h
  exact we_ret (pr0 [.tmp 2] [(.slice none 0 0)] ⟨(.slice none 0 0),rfl,hS1⟩)
 refine calls_enter (n:=8) (args:=[.slice (some ad) l0.length c0]) (fn:=Tryd.f68) rfl rfl rfl rfl ?_
 show WE _ _ _ _ [(0,.slice (some ad) l0.length c0)] _
 refine ws fun K5 hK5=>wr [(0,0)]<|gb0 [0] [(2,.slice none 0 0)]<|gn hK5<|ws fun K6 hK6=>ws fun K7 hK7=>wr [(0,0),(1,0)]<|gb0 [0,1] [(4,.bool false),(3,.slice (some ad) l0.length c0)]<|gn hK7<|wf<|we_skip fun a hF=>hK6 _ _ ?_ a hF
 refine ws fun K8 hK8=>wr [(0,1),(1,0),(2,2),(3,0)]<|gw (some 5) (.cells #[] 101) (fun b=>.slice (some ⟨b,0,none⟩) 0 0) hS fun b1 w1 hx1 hS2=>?_
 refine gb0 [1] [(6,.slice (some ad) l0.length c0)] ?_
 have hS3:=hS2.asRow (α:=SPut) (c:=0) ([]:List SPut) (Nat.le_refl _) (by decide) rfl rfl
 by_cases hc1:0+l0.length≤8796093022208
 ·rw [if_pos hc1] at h
  refine ge_appendL (α:=SPut) (m:=0) (d:=7) (t:=83) (el:=101) (bytes:=16) (c1:=c0) (A1:=(some ad)) (x:=(.tmp 5)) (y:=(.tmp 6)) (ty:=83) (v:=(.slice (some ⟨b1,0,none⟩) 0 0)) (z:=.agg #[vI 0,vI 0]) (l:=([]:List SPut)) (us:=l0) (by kernel_rfl) (by kernel_rfl) (by kernel_rfl) (by kernel_rfl) (by kernel_rfl) rfl hS3 (hS3.rd hR0) rfl (Nat.mul_le_of_le_div _ _ _ hc1) fun v1 w2 hS4=>?_
  have hS5:St w0 w2 [Own.of v1 101 l0]:=hS4
  refine gb0 [3] [(2,v1)]<|gn hK8 ?_
  obtain rfl:=si h
  exact we_ret (pr0 [.tmp 2] [v1] ⟨v1,rfl,hS5⟩)
 rw [if_neg hc1] at h
 cases h

/-! (*punctual/mach.Machine).Puts -/
abbrev mach_Machine_Puts.Post (w0:World) (bp0:Nat) (lp0_0:List SIns) (Ap0_0:OA) (cp0_0:Nat) (lp0_1:List Int) (Ap0_1:OA) (cp0_1:Nat) (lp0_2:List Int) (Ap0_2:OA) (cp0_2:Nat) (lp0_3:List SPut) (Ap0_3:OA) (cp0_3:Nat) (lp0_4:List Int) (Ap0_4:OA) (cp0_4:Nat) (sp0_5:List Int) (sp0_13 sp0_14:Int) (LT:List Own) (r:List SPut) (e:Ending) (w:World):Prop:=∃ (v0:Value),e=.returned (v0)∧St w0 w [Own.of v0 101 r,bk bp0 #[(.slice Ap0_0 lp0_0.length cp0_0),(.slice Ap0_1 lp0_1.length cp0_1),(.slice Ap0_2 lp0_2.length cp0_2),(.slice Ap0_3 lp0_3.length cp0_3),(.slice Ap0_4 lp0_4.length cp0_4),vI ((sp0_5[0]?).getD 0),vI ((sp0_5[1]?).getD 0),vI ((sp0_5[2]?).getD 0),vI ((sp0_5[3]?).getD 0),vI ((sp0_5[4]?).getD 0),vI ((sp0_5[5]?).getD 0),vI ((sp0_5[6]?).getD 0),vI ((sp0_5[7]?).getD 0),vI sp0_13,vI sp0_14] 86,ro Ap0_0 cp0_0 29 lp0_0,ro Ap0_1 cp0_1 3 lp0_1,ro Ap0_2 cp0_2 3 lp0_2,ro Ap0_3 cp0_3 101 lp0_3,ro Ap0_4 cp0_4 3 lp0_4,Own.all LT]
def mach_Machine_Puts.f (lp0_0 : List SIns) (lp0_1 : List Int) (lp0_2 : List Int) (lp0_3 : List SPut) (lp0_4 : List Int) (sp0_5 : List Int) (sp0_13 : Int) (sp0_14 : Int) : Option (List SPut) :=
 match slices_Clone_api_Put_api_Put.f lp0_3 with
 | none=>none
 | some r1 =>
  some r1
theorem mach_Machine_Puts_ok (bp0:Nat) (lp0_0:List SIns) (Ap0_0:OA) (cp0_0:Nat) (lp0_1:List Int) (Ap0_1:OA) (cp0_1:Nat) (lp0_2:List Int) (Ap0_2:OA) (cp0_2:Nat) (lp0_3:List SPut) (Ap0_3:OA) (cp0_3:Nat) (lp0_4:List Int) (Ap0_4:OA) (cp0_4:Nat) (sp0_5:List Int) (sp0_13 sp0_14:Int) (w0 wE:World) (LT:List Own) (hS:St w0 wE [bk bp0 #[(.slice Ap0_0 lp0_0.length cp0_0),(.slice Ap0_1 lp0_1.length cp0_1),(.slice Ap0_2 lp0_2.length cp0_2),(.slice Ap0_3 lp0_3.length cp0_3),(.slice Ap0_4 lp0_4.length cp0_4),vI ((sp0_5[0]?).getD 0),vI ((sp0_5[1]?).getD 0),vI ((sp0_5[2]?).getD 0),vI ((sp0_5[3]?).getD 0),vI ((sp0_5[4]?).getD 0),vI ((sp0_5[5]?).getD 0),vI ((sp0_5[6]?).getD 0),vI ((sp0_5[7]?).getD 0),vI sp0_13,vI sp0_14] 86,ro Ap0_0 cp0_0 29 lp0_0,ro Ap0_1 cp0_1 3 lp0_1,ro Ap0_2 cp0_2 3 lp0_2,ro Ap0_3 cp0_3 101 lp0_3,ro Ap0_4 cp0_4 3 lp0_4,Own.all LT]) (r:List SPut) (h:mach_Machine_Puts.f lp0_0 lp0_1 lp0_2 lp0_3 lp0_4 sp0_5 sp0_13 sp0_14=some r) :
  Calls Tryd.prog 47 #[pP bp0 0] wE (mach_Machine_Puts.Post w0 bp0 lp0_0 Ap0_0 cp0_0 lp0_1 Ap0_1 cp0_1 lp0_2 Ap0_2 cp0_2 lp0_3 Ap0_3 cp0_3 lp0_4 Ap0_4 cp0_4 sp0_5 sp0_13 sp0_14 LT r):=by
 unfold mach_Machine_Puts.f at h
 refine calls_enter (n:=8) (args:=[pP bp0 0]) (fn:=Tryd.f47) rfl rfl rfl rfl ?_
 show WE _ _ _ _ [(0,pP bp0 0)] _
 refine ws fun K1 hK1=>wr [(0,0)]<|gb0 [0] [(2,.slice none 0 0)]<|gn hK1<|ws fun K2 hK2=>wr [(0,0),(1,0),(2,0),(3,0),(4,1),(5,0)] ?_
 rcases hq1:slices_Clone_api_Put_api_Put.f lp0_3 with _ | r1
 ·rw [hq1] at h; cases h
 rw [hq1] at h
 simp only [] at h
 refine gb [0,1,2,3] [(6,(.slice Ap0_3 lp0_3.length cp0_3)),(5,pP bp0 3),(4,pP bp0 0),(3,pP bp0 0)] [ld bp0 3 ((.slice Ap0_3 lp0_3.length cp0_3))] ⟨hS.c 0,trivial⟩<|ge_call (d:=some 7) (f:=68) (args:=#[(.slice Ap0_3 lp0_3.length cp0_3)]) (by kernel_rfl) (slices_Clone_api_Put_api_Put_ok lp0_3 Ap0_3 cp0_3 _ (hS.rdAt 4 rfl) (hS.capAt 4 rfl) _ hq1) ?_
 rintro _ w1 ⟨v1,rfl,hS1⟩
 refine ⟨_,rfl,hS1.below,?_⟩
 have hS2:=hS.call hS1
 refine gb0 [5] [(2,v1)]<|gn hK2 ?_
 have hS10:=(((((((hS2.b 7).b 7).b 7).b 7).b 7).b 7).b 7).b 7
 obtain rfl:=si h
 exact we_ret (pr0 [.tmp 2] [v1] ⟨v1,rfl,hS10⟩)

/-! punctual/punctualsame.Same[int] -/
abbrev punctualsame_Same_int.Post (w0:World) (r:Bool) (e:Ending) (w:World):Prop:=e=.returned (.bool r)∧St w0 w []
def punctualsame_Same_int.r0 (l0 : List Int) (l1 : List Int) : Nat → Option (Nat ⊕ (Unit ⊕ Bool))
 | i1 =>
  if (i1:Int)<(l0.length:Int) then
   match l0[i1]? with
   | none=>none
   | some e1 =>
    match l1[i1]? with
    | none=>none
    | some e2 =>
     if e1=e2 then
      some (.inl (i1+1))
     else
      some (.inr (.inr false))
  else
   some (.inr (.inl ()))
def punctualsame_Same_int.f (K : Nat) (l0 : List Int) (l1 : List Int) : Option Bool :=
 if (l0.length:Int)=(l1.length:Int) then
  match iter (punctualsame_Same_int.r0 l0 l1) K 0 with
  | none=>none
  | some (.inl _) =>
   some true
  | some (.inr rr1) =>
   some rr1
 else
  some false
abbrev punctualsame_Same_int.A0 (w0:World) (l0:List Int) (A0:OA) (c0:Nat) (l1:List Int) (A1:OA) (c1:Nat):Nat→Act→World→Prop:=fun (s:Nat) a w=>St w0 w []∧Frm 26 a [(0,.slice A0 l0.length c0),(1,.slice A1 l1.length c1),(12,vI (l0.length:Int)),(13,vI (s:Int))]
abbrev punctualsame_Same_int.B0 (w0:World):(Unit ⊕ Bool)→Exit→Act→World→Prop:=Exits 0 (fun (s:Unit) a w=>St w0 w []∧Frm 26 a []) (Rets Tryd.prog Tryd.f22 (punctualsame_Same_int.Post w0))
theorem punctualsame_Same_int_r0 (K:Nat) (w0:World) (l0:List Int) (A0:OA) (c0:Nat) (l1:List Int) (A1:OA) (c1:Nat) (hR0:RdL w0 A0 l0) (hL0:l0.length≤c0) (hR1:RdL w0 A1 l1) (hL1:l1.length≤c1) (hc1:(l0.length:Int)=(l1.length:Int)) (s:Nat) (o:Nat ⊕ (Unit ⊕ Bool)) (h:punctualsame_Same_int.r0 l0 l1 s=some o) (a:Act) (w:World) (hA:punctualsame_Same_int.A0 w0 l0 A0 c0 l1 A1 c1 s a w) (Q:Exit→Act→World→Prop) (hQ:∀ x a w,Outs (punctualsame_Same_int.A0 w0 l0 A0 c0 l1 A1 c1) (punctualsame_Same_int.B0 w0) o x a w→Q x a w):(subF Tryd.f22 [1,1,0,1,0,0]).wp Tryd.prog Q a w:=by
 obtain ⟨i1,hs⟩:∃ z,z=s:=⟨s,rfl⟩
 subst hs
 obtain ⟨hS,hF⟩:=hA
 replace hS:St w0 w []:=hS
 simp only [punctualsame_Same_int.r0] at h
 refine (?_:WE Tryd.prog 26 (subF Tryd.f22 [1,1,0,1,0,0]) Q [(0,.slice A0 l0.length c0),(1,.slice A1 l1.length c1),(12,vI (l0.length:Int)),(13,vI (i1:Int))] w) a hF
 clear hF a
 refine ws fun K6 hK6=>wr [(0,0)]<|gb0 [0] [(14,.bool (decide ((i1:Int)<(l0.length:Int))))]<|gn hK6<|ws fun K7 hK7=>?_
 by_cases hc2:(i1:Int)<(l0.length:Int)
 ·rw [if_pos hc2] at h
  refine wk 14 (decide ((i1:Int)<(l0.length:Int))) true (decide_eq_true hc2)<|wt<|we_skip fun a hF=>hK7 _ _ ?_ a hF
  refine ws fun K8 hK8=>we_block<|ws fun K9 hK9=>wr [(0,0),(1,0)]<|gb0 [0,1] [(5,vI (i1:Int)),(15,vI (i1:Int))]<|gn hK9<|ws fun K10 hK10=>we_draws (by kernel_rfl) [(0,0),(1,0),(2,0),(3,0),(4,0),(5,0),(6,0),(7,0),(8,0)] (by kernel_rfl) ?_
  have hS1:=hS.drew
  refine gb0 [0,1] [(17,vI (i1:Int)),(16,.slice A0 l0.length c0)] ?_
  rcases hx1:l0[i1]? with _ | e1
  ·rw [hx1] at h; cases h
  rw [hx1] at h
  simp only [] at h
  refine gi 18 0 37 3 1 l0.length c0 (.tmp 16) (.tmp 17) A0 .i64 (i1:Int) i1 ((hS1.rd hR0).eqSome (pos_of_get hx1)) rfl (lt_of_get hx1) ?_
  refine gb [3,4,5] [(21,vI (i1:Int)),(20,.slice A1 l1.length c1),(19,vI e1)] [.loaded ⟨blkOf A0,offOf A0+i1*1,none⟩ (vI e1)] ⟨RdL.cell (j:=0) (hS1.rd hR0) hx1 rfl,trivial⟩ ?_
  rcases hx2:l1[i1]? with _ | e2
  ·rw [hx2] at h; cases h
  rw [hx2] at h
  simp only [] at h
  refine gi 22 0 37 3 1 l1.length c1 (.tmp 20) (.tmp 21) A1 .i64 (i1:Int) i1 ((hS1.rd hR1).eqSome (pos_of_get hx2)) rfl (lt_of_get hx2) ?_
  refine gb [7,8] [(24,.bool (e1 != e2)),(23,vI e2)] [.loaded ⟨blkOf A1,offOf A1+i1*1,none⟩ (vI e2)] ⟨RdL.cell (j:=0) (hS1.rd hR1) hx2 rfl,trivial⟩<|gn hK10 ?_
  by_cases hc3:e1=e2
  ·rw [if_pos hc3] at h
   refine wk 24 (e1 != e2) false (bne_eq_false_iff_eq.2 hc3)<|wf<|we_skip fun a hF=>hK8 _ _ ?_ a hF
   refine wr [(0,0),(1,0)]<|ge_addn (d:=25) (ty:=3) (x:=(.tmp 13)) (y:=(.const (vI 1))) (t:=3) (t2:=3) (k:=.i64) (m:=i1) (by kernel_rfl) (by kernel_rfl) (by kernel_rfl) (by have h0:=hR0.small; omega) ?_
   refine gb0 [1] [(13,vI ((i1+1:Nat):Int))] ?_
   obtain rfl:=si h
   exact ge_nil fun a hF=>hQ _ _ _ (Outs.again ⟨hS1,hF.weaken ea⟩)
  rw [if_neg hc3] at h
  refine wk 24 (e1 != e2) true (bne_iff_ne.2 hc3)<|wt<|ws fun K11 hK11=>wr [(0,0)]<|gb0 [0] [(4,.bool false)]<|gn hK11 ?_
  obtain rfl:=si h
  exact we_ret fun a hF=>hQ _ _ _ (Outs.out nofun (Exits.on ⟨rfl,(pr0 [.tmp 4] [.bool false] ⟨rfl,hS1⟩) a hF⟩))
 rw [if_neg hc2] at h
 refine wk 14 (decide ((i1:Int)<(l0.length:Int))) false (decide_eq_false hc2)<|wf ?_
 obtain rfl:=si h
 exact we_exit fun a hF=>hQ _ _ _ (Outs.out nofun (Exits.here ⟨hS,hF.weaken trivial⟩))
theorem punctualsame_Same_int_ok (K:Nat) (l0:List Int) (A0:OA) (c0:Nat) (l1:List Int) (A1:OA) (c1:Nat) (w0:World) (hR0:RdL w0 A0 l0) (hL0:l0.length≤c0) (hR1:RdL w0 A1 l1) (hL1:l1.length≤c1) (r:Bool) (h:punctualsame_Same_int.f K l0 l1=some r) :
  Calls Tryd.prog 22 #[.slice A0 l0.length c0,.slice A1 l1.length c1] w0 (punctualsame_Same_int.Post w0 r):=by
 have hS:=St.start w0
 unfold punctualsame_Same_int.f at h
 refine calls_enter (n:=26) (args:=[.slice A0 l0.length c0,.slice A1 l1.length c1]) (fn:=Tryd.f22) rfl rfl rfl rfl ?_
 show WE _ _ _ _ [(0,.slice A0 l0.length c0),(1,.slice A1 l1.length c1)] _
 refine ws fun K1 hK1=>wr [(0,0)]<|gb0 [0] [(4,.bool false)]<|gn hK1<|ws fun K2 hK2=>ws fun K3 hK3=>wr [(0,0),(1,0),(2,0),(3,0),(4,0)]<|gb0 [0,1,2,3,4] [(10,.bool ((l0.length:Int) != (l1.length:Int))),(9,vI (l1.length:Int)),(8,.slice A1 l1.length c1),(7,vI (l0.length:Int)),(6,.slice A0 l0.length c0)]<|gn hK3 ?_
 by_cases hc1:(l0.length:Int)=(l1.length:Int)
 ·rw [if_pos hc1] at h
  refine wk 10 ((l0.length:Int) != (l1.length:Int)) false (bne_eq_false_iff_eq.2 hc1)<|wf<|we_skip fun a hF=>hK2 _ _ ?_ a hF
  refine ws fun K4 hK4=>ws fun K5 hK5=>wr [(0,0),(1,0),(2,0)]<|gb0 [0,1,2] [(13,vI 0),(12,vI (l0.length:Int)),(11,.slice A0 l0.length c0)]<|gn hK5<|we_block ?_
  rcases hq1:iter (punctualsame_Same_int.r0 l0 l1) K 0 with _ | (_ | rr1)
  ·rw [hq1] at h; cases h
  ·rw [hq1] at h
   simp only [] at h
   refine we_iter (A:=punctualsame_Same_int.A0 w0 l0 A0 c0 l1 A1 c1) (B:=punctualsame_Same_int.B0 w0) hq1 (fun a hF=>⟨hS,hF.weaken ea⟩) (fun s o hf a w hA Q hQ=>punctualsame_Same_int_r0 K w0 l0 A0 c0 l1 A1 c1 hR0 hL0 hR1 hL1 hc1 s o hf a w hA Q hQ) ?_
   rintro _ a w1 _ ⟨rfl,hS2,hF⟩
   replace hS2:St w0 w1 []:=hS2
   refine hK4 [] w1 ?_ a hF
   refine ws fun K12 hK12=>wr [(0,0)]<|gb0 [0] [(4,.bool true)]<|gn hK12 ?_
   obtain rfl:=si h
   exact we_ret (pr0 [.tmp 4] [.bool true] ⟨rfl,hS2⟩)
  rw [hq1] at h
  simp only [] at h
  refine we_iter (A:=punctualsame_Same_int.A0 w0 l0 A0 c0 l1 A1 c1) (B:=punctualsame_Same_int.B0 w0) hq1 (fun a hF=>⟨hS,hF.weaken ea⟩) (fun s o hf a w hA Q hQ=>punctualsame_Same_int_r0 K w0 l0 A0 c0 l1 A1 c1 hR0 hL0 hR1 hL1 hc1 s o hf a w hA Q hQ) ?_
  rintro _ a w1 _ ⟨rfl,hb⟩
  obtain rfl:=si h
  exact hb
 rw [if_neg hc1] at h
 refine wk 10 ((l0.length:Int) != (l1.length:Int)) true (bne_iff_ne.2 hc1)<|wt<|ws fun K13 hK13=>wr [(0,0)]<|gb0 [0] [(4,.bool false)]<|gn hK13 ?_
 obtain rfl:=si h
 exact we_ret (pr0 [.tmp 4] [.bool false] ⟨rfl,hS⟩)

/-! punctual/punctualsame.Same[punctual/api.Put] -/
abbrev punctualsame_Same_api_Put.Post (w0:World) (r:Bool) (e:Ending) (w:World):Prop:=e=.returned (.bool r)∧St w0 w []
def punctualsame_Same_api_Put.r0 (l0 : List SPut) (l1 : List SPut) : Nat → Option (Nat ⊕ (Unit ⊕ Bool))
 | i1 =>
  if (i1:Int)<(l0.length:Int) then
   match l0[i1]? with
   | none=>none
   | some e1 =>
    match l1[i1]? with
    | none=>none
    | some e2 =>
     if (SPut.eqb e1 e2)=true then
      some (.inl (i1+1))
     else
      some (.inr (.inr false))
  else
   some (.inr (.inl ()))
def punctualsame_Same_api_Put.f (K : Nat) (l0 : List SPut) (l1 : List SPut) : Option Bool :=
 if (l0.length:Int)=(l1.length:Int) then
  match iter (punctualsame_Same_api_Put.r0 l0 l1) K 0 with
  | none=>none
  | some (.inl _) =>
   some true
  | some (.inr rr1) =>
   some rr1
 else
  some false
abbrev punctualsame_Same_api_Put.A0 (w0:World) (l0:List SPut) (A0:OA) (c0:Nat) (l1:List SPut) (A1:OA) (c1:Nat):Nat→Act→World→Prop:=fun (s:Nat) a w=>St w0 w []∧Frm 26 a [(0,.slice A0 l0.length c0),(1,.slice A1 l1.length c1),(12,vI (l0.length:Int)),(13,vI (s:Int))]
abbrev punctualsame_Same_api_Put.B0 (w0:World):(Unit ⊕ Bool)→Exit→Act→World→Prop:=Exits 0 (fun (s:Unit) a w=>St w0 w []∧Frm 26 a []) (Rets Tryd.prog Tryd.f48 (punctualsame_Same_api_Put.Post w0))
theorem punctualsame_Same_api_Put_r0 (K:Nat) (w0:World) (l0:List SPut) (A0:OA) (c0:Nat) (l1:List SPut) (A1:OA) (c1:Nat) (hR0:RdL w0 A0 l0) (hL0:l0.length≤c0) (hR1:RdL w0 A1 l1) (hL1:l1.length≤c1) (hc1:(l0.length:Int)=(l1.length:Int)) (s:Nat) (o:Nat ⊕ (Unit ⊕ Bool)) (h:punctualsame_Same_api_Put.r0 l0 l1 s=some o) (a:Act) (w:World) (hA:punctualsame_Same_api_Put.A0 w0 l0 A0 c0 l1 A1 c1 s a w) (Q:Exit→Act→World→Prop) (hQ:∀ x a w,Outs (punctualsame_Same_api_Put.A0 w0 l0 A0 c0 l1 A1 c1) (punctualsame_Same_api_Put.B0 w0) o x a w→Q x a w):(subF Tryd.f48 [1,1,0,1,0,0]).wp Tryd.prog Q a w:=by
 obtain ⟨i1,hs⟩:∃ z,z=s:=⟨s,rfl⟩
 subst hs
 obtain ⟨hS,hF⟩:=hA
 replace hS:St w0 w []:=hS
 simp only [punctualsame_Same_api_Put.r0] at h
 refine (?_:WE Tryd.prog 26 (subF Tryd.f48 [1,1,0,1,0,0]) Q [(0,.slice A0 l0.length c0),(1,.slice A1 l1.length c1),(12,vI (l0.length:Int)),(13,vI (i1:Int))] w) a hF
 clear hF a
 refine ws fun K6 hK6=>wr [(0,0)]<|gb0 [0] [(14,.bool (decide ((i1:Int)<(l0.length:Int))))]<|gn hK6<|ws fun K7 hK7=>?_
 by_cases hc2:(i1:Int)<(l0.length:Int)
 ·rw [if_pos hc2] at h
  refine wk 14 (decide ((i1:Int)<(l0.length:Int))) true (decide_eq_true hc2)<|wt<|we_skip fun a hF=>hK7 _ _ ?_ a hF
  refine ws fun K8 hK8=>we_block<|ws fun K9 hK9=>wr [(0,0),(1,0)]<|gb0 [0,1] [(5,vI (i1:Int)),(15,vI (i1:Int))]<|gn hK9<|ws fun K10 hK10=>we_draws (by kernel_rfl) [(0,0),(1,0),(2,0),(3,0),(4,0),(5,0),(6,0),(7,0),(8,0)] (by kernel_rfl) ?_
  have hS1:=hS.drew
  refine gb0 [0,1] [(17,vI (i1:Int)),(16,.slice A0 l0.length c0)] ?_
  rcases hx1:l0[i1]? with _ | e1
  ·rw [hx1] at h; cases h
  rw [hx1] at h
  simp only [] at h
  refine gi 18 0 83 101 2 l0.length c0 (.tmp 16) (.tmp 17) A0 .i64 (i1:Int) i1 ((hS1.rd hR0).eqSome (pos_of_get hx1)) rfl (lt_of_get hx1) ?_
  refine gb [3,4,5] [(21,vI (i1:Int)),(20,.slice A1 l1.length c1),(19,.agg #[vI e1.Port,vI e1.Value])] [.loaded ⟨blkOf A0,offOf A0+i1*2,none⟩ (vI e1.Port),.loaded ⟨blkOf A0,offOf A0+i1*2+1,none⟩ (vI e1.Value)] ⟨RdL.cell (j:=0) (hS1.rd hR0) hx1 rfl,RdL.cell (j:=1) (hS1.rd hR0) hx1 rfl,trivial⟩ ?_
  rcases hx2:l1[i1]? with _ | e2
  ·rw [hx2] at h; cases h
  rw [hx2] at h
  simp only [] at h
  refine gi 22 0 83 101 2 l1.length c1 (.tmp 20) (.tmp 21) A1 .i64 (i1:Int) i1 ((hS1.rd hR1).eqSome (pos_of_get hx2)) rfl (lt_of_get hx2) ?_
  refine gb [7] [(23,.agg #[vI e2.Port,vI e2.Value])] [.loaded ⟨blkOf A1,offOf A1+i1*2,none⟩ (vI e2.Port),.loaded ⟨blkOf A1,offOf A1+i1*2+1,none⟩ (vI e2.Value)] ⟨RdL.cell (j:=0) (hS1.rd hR1) hx2 rfl,RdL.cell (j:=1) (hS1.rd hR1) hx2 rfl,trivial⟩<|ge_eqs (d:=24) (ty:=4) (op:=.neq) (x:=(.tmp 19)) (y:=(.tmp 23)) (t:=101) (t2:=101) (xs:=#[vI e1.Port,vI e1.Value]) (ys:=#[vI e2.Port,vI e2.Value]) (r:=(SPut.eqb e1 e2)) (v:=!(SPut.eqb e1 e2)) (by kernel_rfl) (by kernel_rfl) (by kernel_rfl) (by kernel_rfl) (by kernel_rfl) rfl ?_
  refine gn hK10 ?_
  by_cases hc3:(SPut.eqb e1 e2)=true
  ·rw [if_pos hc3] at h
   refine wk 24 (!(SPut.eqb e1 e2)) false (congrArg (fun z=>!z) hc3)<|wf<|we_skip fun a hF=>hK8 _ _ ?_ a hF
   refine wr [(0,0),(1,0)]<|ge_addn (d:=25) (ty:=3) (x:=(.tmp 13)) (y:=(.const (vI 1))) (t:=3) (t2:=3) (k:=.i64) (m:=i1) (by kernel_rfl) (by kernel_rfl) (by kernel_rfl) (by have h0:=hR0.small; omega) ?_
   refine gb0 [1] [(13,vI ((i1+1:Nat):Int))] ?_
   obtain rfl:=si h
   exact ge_nil fun a hF=>hQ _ _ _ (Outs.again ⟨hS1,hF.weaken ea⟩)
  rw [if_neg hc3] at h
  refine wk 24 (!(SPut.eqb e1 e2)) true (congrArg (fun z=>!z) (Bool.eq_false_iff.2 hc3))<|wt<|ws fun K11 hK11=>wr [(0,0)]<|gb0 [0] [(4,.bool false)]<|gn hK11 ?_
  obtain rfl:=si h
  exact we_ret fun a hF=>hQ _ _ _ (Outs.out nofun (Exits.on ⟨rfl,(pr0 [.tmp 4] [.bool false] ⟨rfl,hS1⟩) a hF⟩))
 rw [if_neg hc2] at h
 refine wk 14 (decide ((i1:Int)<(l0.length:Int))) false (decide_eq_false hc2)<|wf ?_
 obtain rfl:=si h
 exact we_exit fun a hF=>hQ _ _ _ (Outs.out nofun (Exits.here ⟨hS,hF.weaken trivial⟩))
theorem punctualsame_Same_api_Put_ok (K:Nat) (l0:List SPut) (A0:OA) (c0:Nat) (l1:List SPut) (A1:OA) (c1:Nat) (w0:World) (hR0:RdL w0 A0 l0) (hL0:l0.length≤c0) (hR1:RdL w0 A1 l1) (hL1:l1.length≤c1) (r:Bool) (h:punctualsame_Same_api_Put.f K l0 l1=some r) :
  Calls Tryd.prog 48 #[.slice A0 l0.length c0,.slice A1 l1.length c1] w0 (punctualsame_Same_api_Put.Post w0 r):=by
 have hS:=St.start w0
 unfold punctualsame_Same_api_Put.f at h
 refine calls_enter (n:=26) (args:=[.slice A0 l0.length c0,.slice A1 l1.length c1]) (fn:=Tryd.f48) rfl rfl rfl rfl ?_
 show WE _ _ _ _ [(0,.slice A0 l0.length c0),(1,.slice A1 l1.length c1)] _
 refine ws fun K1 hK1=>wr [(0,0)]<|gb0 [0] [(4,.bool false)]<|gn hK1<|ws fun K2 hK2=>ws fun K3 hK3=>wr [(0,0),(1,0),(2,0),(3,0),(4,0)]<|gb0 [0,1,2,3,4] [(10,.bool ((l0.length:Int) != (l1.length:Int))),(9,vI (l1.length:Int)),(8,.slice A1 l1.length c1),(7,vI (l0.length:Int)),(6,.slice A0 l0.length c0)]<|gn hK3 ?_
 by_cases hc1:(l0.length:Int)=(l1.length:Int)
 ·rw [if_pos hc1] at h
  refine wk 10 ((l0.length:Int) != (l1.length:Int)) false (bne_eq_false_iff_eq.2 hc1)<|wf<|we_skip fun a hF=>hK2 _ _ ?_ a hF
  refine ws fun K4 hK4=>ws fun K5 hK5=>wr [(0,0),(1,0),(2,0)]<|gb0 [0,1,2] [(13,vI 0),(12,vI (l0.length:Int)),(11,.slice A0 l0.length c0)]<|gn hK5<|we_block ?_
  rcases hq1:iter (punctualsame_Same_api_Put.r0 l0 l1) K 0 with _ | (_ | rr1)
  ·rw [hq1] at h; cases h
  ·rw [hq1] at h
   simp only [] at h
   refine we_iter (A:=punctualsame_Same_api_Put.A0 w0 l0 A0 c0 l1 A1 c1) (B:=punctualsame_Same_api_Put.B0 w0) hq1 (fun a hF=>⟨hS,hF.weaken ea⟩) (fun s o hf a w hA Q hQ=>punctualsame_Same_api_Put_r0 K w0 l0 A0 c0 l1 A1 c1 hR0 hL0 hR1 hL1 hc1 s o hf a w hA Q hQ) ?_
   rintro _ a w1 _ ⟨rfl,hS2,hF⟩
   replace hS2:St w0 w1 []:=hS2
   refine hK4 [] w1 ?_ a hF
   refine ws fun K12 hK12=>wr [(0,0)]<|gb0 [0] [(4,.bool true)]<|gn hK12 ?_
   obtain rfl:=si h
   exact we_ret (pr0 [.tmp 4] [.bool true] ⟨rfl,hS2⟩)
  rw [hq1] at h
  simp only [] at h
  refine we_iter (A:=punctualsame_Same_api_Put.A0 w0 l0 A0 c0 l1 A1 c1) (B:=punctualsame_Same_api_Put.B0 w0) hq1 (fun a hF=>⟨hS,hF.weaken ea⟩) (fun s o hf a w hA Q hQ=>punctualsame_Same_api_Put_r0 K w0 l0 A0 c0 l1 A1 c1 hR0 hL0 hR1 hL1 hc1 s o hf a w hA Q hQ) ?_
  rintro _ a w1 _ ⟨rfl,hb⟩
  obtain rfl:=si h
  exact hb
 rw [if_neg hc1] at h
 refine wk 10 ((l0.length:Int) != (l1.length:Int)) true (bne_iff_ne.2 hc1)<|wt<|ws fun K13 hK13=>wr [(0,0)]<|gb0 [0] [(4,.bool false)]<|gn hK13 ?_
 obtain rfl:=si h
 exact we_ret (pr0 [.tmp 4] [.bool false] ⟨rfl,hS⟩)

/-! punctual/punctualsame.Spoil[punctual/api.Put] -/
theorem punctualsame_Spoil_api_Put_ok (w0 w:World) {L:List Own} (A:OA) (n c:Nat) (l:List SPut) (hS:St w0 w (Own.of (.slice A n c) 101 l::L)):Calls Tryd.prog 49 #[.slice A n c] w (fun e w'=>e=.returned (.tuple #[])∧St w0 w' L):=by
 refine calls_enter (n:=6) (args:=[.slice A n c]) (fn:=Tryd.f49) rfl rfl rfl rfl ?_
 show WE _ _ _ _ [(0,.slice A n c)] _
 refine wr [(0,0),(1,0),(2,0),(3,0),(4,2)]<|gb0 [0,1,2] [(4,vI (c:Int)),(3,.slice A n c),(2,.slice A n c)]<|ge_sliceHi (d:=5) (ty:=83) (t:=83) (el:=101) (sz:=2) (m:=n) (c:=c) (hn:=c) (x:=(.tmp 2)) (y:=(.tmp 4)) (A:=A) (k':=.i64) (hi:=(c:Int)) (by kernel_rfl) (by kernel_rfl) (by kernel_rfl) rfl (by kernel_rfl) (by kernel_rfl) (Nat.le_refl _) ?_
 refine ge_clear (α:=SPut) (m:=0) (t:=83) (el:=101) (c:=c) (k:=n) (bytes:=16) (x:=(.tmp 5)) (ty:=0) (A:=A) (z:=.agg #[vI 0,vI 0]) (l:=l) (by kernel_rfl) (by kernel_rfl) (by kernel_rfl) (by kernel_rfl) rfl rfl hS fun w1 hS1=>?_
 exact ge_nil (pe0 [] [] ⟨rfl,hS1⟩)

/-! punctual/punctuallaw.ticked -/
abbrev ticked.Post (w0:World) (bp0:Nat) (lp0_0:List SIns) (Ap0_0:OA) (cp0_0:Nat) (lp0_1:List Int) (Ap0_1:OA) (cp0_1:Nat) (lp0_2:List Int) (Ap0_2:OA) (cp0_2:Nat) (lp0_3:List SPut) (Ap0_3:OA) (cp0_3:Nat) (lp0_4:List Int) (Ap0_4:OA) (cp0_4:Nat) (sp0_5:List Int) (sp0_13 sp0_14:Int) (l1:List SIns) (A1:OA) (c1:Nat) (l2:List Int) (A2:OA) (c2:Nat) (l3:List Int) (A3:OA) (c3:Nat) (x4:Int) (LT:List Own) (r:Bool×(List Int)×(List SPut)×(List Int)×(List Int)×Int×Int) (e:Ending) (w:World):Prop:=∃ (nbp0_2:Value) (nbp0_3:Value) (nbp0_4:Value),e=.returned (.bool r.1)∧St w0 w [bk bp0 #[(.slice Ap0_0 lp0_0.length cp0_0),(.slice Ap0_1 lp0_1.length cp0_1),nbp0_2,nbp0_3,nbp0_4,vI ((r.2.2.2.2.1[0]?).getD 0),vI ((r.2.2.2.2.1[1]?).getD 0),vI ((r.2.2.2.2.1[2]?).getD 0),vI ((r.2.2.2.2.1[3]?).getD 0),vI ((r.2.2.2.2.1[4]?).getD 0),vI ((r.2.2.2.2.1[5]?).getD 0),vI ((r.2.2.2.2.1[6]?).getD 0),vI ((r.2.2.2.2.1[7]?).getD 0),vI r.2.2.2.2.2.1,vI r.2.2.2.2.2.2] 86,ro Ap0_0 cp0_0 29 lp0_0,ro Ap0_1 cp0_1 3 lp0_1,Own.of nbp0_2 3 r.2.1,Own.of nbp0_3 101 r.2.2.1,Own.of nbp0_4 3 r.2.2.2.1,Own.all LT]
def ticked.p1 (lp0_0 : List SIns) (lp0_1 : List Int) (r2 : SIns × Bool × (List Int) × (List SPut) × (List Int) × (List Int) × Int × Int) : Option (Unit ⊕ (Bool × (List Int) × (List SPut) × (List Int) × (List Int) × Int × Int)) :=
  if (mach_Machine_Done.f lp0_0 lp0_1 r2.2.2.1 r2.2.2.2.1 r2.2.2.2.2.1 r2.2.2.2.2.2.1 r2.2.2.2.2.2.2.1 r2.2.2.2.2.2.2.2)=true then
   if r2.2.1=true then
    some (.inr (false,r2.2.2.1,r2.2.2.2.1,r2.2.2.2.2.1,r2.2.2.2.2.2.1,r2.2.2.2.2.2.2.1,r2.2.2.2.2.2.2.2))
   else
    if (SIns.eqb r2.1 (⟨0,0,0⟩:SIns))=true then
     some (.inl ())
    else
     some (.inr (false,r2.2.2.1,r2.2.2.2.1,r2.2.2.2.2.1,r2.2.2.2.2.2.1,r2.2.2.2.2.2.2.1,r2.2.2.2.2.2.2.2))
  else
   some (.inr (false,r2.2.2.1,r2.2.2.2.1,r2.2.2.2.2.1,r2.2.2.2.2.2.1,r2.2.2.2.2.2.2.1,r2.2.2.2.2.2.2.2))
def ticked.p2 (lp0_0 : List SIns) (lp0_1 : List Int) (r1 : SEnded × (List SStep) × Bool) (z1 : Int) (m1 : List Int) (m2 : List SPut) (m3 : List Int) (m4 : List Int) (z4 : Int) (z5 : Int) : Option (Unit ⊕ (Bool × (List Int) × (List SPut) × (List Int) × (List Int) × Int × Int)) :=
  if (mach_Machine_Done.f lp0_0 lp0_1 m1 m2 m3 m4 z4 z5)=true then
   some (.inr (false,m1,m2,m3,m4,z4,z5))
  else
   if 0≤z1 then
    match r1.2.1[(z1).toNat]? with
    | none=>none
    | some e1 =>
     if (mach_Machine_At.f lp0_0 lp0_1 m1 m2 m3 m4 z4 z5)=e1.At then
      some (.inl ())
     else
      some (.inr (false,m1,m2,m3,m4,z4,z5))
   else
    none
def ticked.r0 (lp0_0 : List SIns) (lp0_1 : List Int) (l1 : List SIns) (x4 : Int) (r1 : SEnded × (List SStep) × Bool) : Int × Int × Int × (List Int) × (List SPut) × (List Int) × (List Int) × Int × Int → Option ((Int × Int × Int × (List Int) × (List SPut) × (List Int) × (List Int) × Int × Int) ⊕ ((Int × (List Int) × (List SPut) × (List Int) × (List Int) × Int × Int) ⊕ (Bool × (List Int) × (List SPut) × (List Int) × (List Int) × Int × Int)))
 | (z1,z2,z3,m1,m2,m3,m4,z4,z5) =>
  if z3<x4 then
   if z1=(r1.2.1.length:Int) then
    match mach_Machine_Tick.f lp0_0 lp0_1 m1 m2 m3 m4 z4 z5 with
    | none=>none
    | some r2 =>
     match ticked.p1 lp0_0 lp0_1 r2 with
     | none=>none
     | some (.inl _) =>
      some (.inl (z1,z2,IntKind.i64.wrap (z3+1),r2.2.2.1,r2.2.2.2.1,r2.2.2.2.2.1,r2.2.2.2.2.2.1,r2.2.2.2.2.2.2.1,r2.2.2.2.2.2.2.2))
     | some (.inr rr1) =>
      some (.inr (.inr rr1))
   else
    match ticked.p2 lp0_0 lp0_1 r1 z1 m1 m2 m3 m4 z4 z5 with
    | none=>none
    | some (.inl _) =>
     match mach_Machine_Tick.f lp0_0 lp0_1 m1 m2 m3 m4 z4 z5 with
     | none=>none
     | some r3 =>
      if 0≤z1 then
       match r1.2.1[(z1).toNat]? with
       | none=>none
       | some e2 =>
        if 0≤e2.At then
         match l1[(e2.At).toNat]? with
         | none=>none
         | some e3 =>
          if (SIns.eqb r3.1 e3)=true then
           if r3.2.1=((IntKind.i64.wrap (z2+1))==e2.Ticks) then
            if r3.2.1=true then
             some (.inl (IntKind.i64.wrap (z1+1),0,IntKind.i64.wrap (z3+1),r3.2.2.1,r3.2.2.2.1,r3.2.2.2.2.1,r3.2.2.2.2.2.1,r3.2.2.2.2.2.2.1,r3.2.2.2.2.2.2.2))
            else
             some (.inl (z1,IntKind.i64.wrap (z2+1),IntKind.i64.wrap (z3+1),r3.2.2.1,r3.2.2.2.1,r3.2.2.2.2.1,r3.2.2.2.2.2.1,r3.2.2.2.2.2.2.1,r3.2.2.2.2.2.2.2))
           else
            some (.inr (.inr (false,r3.2.2.1,r3.2.2.2.1,r3.2.2.2.2.1,r3.2.2.2.2.2.1,r3.2.2.2.2.2.2.1,r3.2.2.2.2.2.2.2)))
          else
           some (.inr (.inr (false,r3.2.2.1,r3.2.2.2.1,r3.2.2.2.2.1,r3.2.2.2.2.2.1,r3.2.2.2.2.2.2.1,r3.2.2.2.2.2.2.2)))
        else
         none
      else
       none
    | some (.inr rr2) =>
     some (.inr (.inr rr2))
  else
   some (.inr (.inl (z1,m1,m2,m3,m4,z4,z5)))
def ticked.f (K : Nat) (lp0_0 : List SIns) (lp0_1 : List Int) (lp0_2 : List Int) (lp0_3 : List SPut) (lp0_4 : List Int) (sp0_5 : List Int) (sp0_13 : Int) (sp0_14 : Int) (l1 : List SIns) (l2 : List Int) (l3 : List Int) (x4 : Int) : Option (Bool × (List Int) × (List SPut) × (List Int) × (List Int) × Int × Int) :=
 match punctualref_Steps.f K l1 l2 l3 (IntKind.i64.wrap (x4+1)) with
 | none=>none
 | some r1 =>
  match iter (ticked.r0 lp0_0 lp0_1 l1 x4 r1) K (0,0,0,lp0_2,lp0_3,lp0_4,sp0_5,sp0_13,sp0_14) with
  | none=>none
  | some (.inl (z9,m9,m10,m11,m12,z10,z11)) =>
   match punctualref_Steps.f K l1 l2 l3 z9 with
   | none=>none
   | some r4 =>
    match mach_Machine_Vars.f lp0_0 lp0_1 m9 m10 m11 m12 z10 z11 with
    | none=>none
    | some r5 =>
     match mach_Machine_Puts.f lp0_0 lp0_1 m9 m10 m11 m12 z10 z11 with
     | none=>none
     | some r6 =>
      match punctualsame_Same_int.f K r5 r4.1.Vars with
      | none=>none
      | some r7 =>
       if r7=true then
        match punctualsame_Same_api_Put.f K r6 r4.1.Puts with
        | none=>none
        | some r8 =>
         if r8=true then
          some (r8,m9,m10,m11,m12,z10,z11)
         else
          some (false,m9,m10,m11,m12,z10,z11)
       else
        some (false,m9,m10,m11,m12,z10,z11)
  | some (.inr rr3) =>
   some rr3
abbrev ticked.A1 (w0:World) (bp0:Nat) (lp0_0:List SIns) (Ap0_0:OA) (cp0_0:Nat) (lp0_1:List Int) (Ap0_1:OA) (cp0_1:Nat) (l1:List SIns) (A1:OA) (c1:Nat) (l2:List Int) (A2:OA) (c2:Nat) (l3:List Int) (A3:OA) (c3:Nat) (x4:Int) (LT:List Own) (r1:SEnded×(List SStep)×Bool) (Z3:OA) (cz3:Nat) (z1 z2 z3:Int) (r2:SIns×Bool×(List Int)×(List SPut)×(List Int)×(List Int)×Int×Int) (Z7:OA) (cz7:Nat) (Z8:OA) (cz8:Nat) (Z9:OA) (cz9:Nat):Unit→Act→World→Prop:=fun (s:Unit) a w=>St w0 w [bk bp0 #[(.slice Ap0_0 lp0_0.length cp0_0),(.slice Ap0_1 lp0_1.length cp0_1),(.slice Z7 r2.2.2.1.length cz7),(.slice Z8 r2.2.2.2.1.length cz8),(.slice Z9 r2.2.2.2.2.1.length cz9),vI ((r2.2.2.2.2.2.1[0]?).getD 0),vI ((r2.2.2.2.2.2.1[1]?).getD 0),vI ((r2.2.2.2.2.2.1[2]?).getD 0),vI ((r2.2.2.2.2.2.1[3]?).getD 0),vI ((r2.2.2.2.2.2.1[4]?).getD 0),vI ((r2.2.2.2.2.2.1[5]?).getD 0),vI ((r2.2.2.2.2.2.1[6]?).getD 0),vI ((r2.2.2.2.2.2.1[7]?).getD 0),vI r2.2.2.2.2.2.2.1,vI r2.2.2.2.2.2.2.2] 86,ro Z3 cz3 96 r1.2.1,ro Ap0_0 cp0_0 29 lp0_0,ro Ap0_1 cp0_1 3 lp0_1,ro Z7 cz7 3 r2.2.2.1,ro Z8 cz8 101 r2.2.2.2.1,ro Z9 cz9 3 r2.2.2.2.2.1,Own.all LT]∧Frm 143 a [(0,pP bp0 0),(1,.slice A1 l1.length c1),(2,.slice A2 l2.length c2),(3,.slice A3 l3.length c3),(12,(.slice Z3 r1.2.1.length cz3)),(14,vI z1),(15,vI z2),(35,vI x4),(36,vI z3)]
abbrev ticked.B1 (w0:World) (bp0:Nat) (lp0_0:List SIns) (Ap0_0:OA) (cp0_0:Nat) (lp0_1:List Int) (Ap0_1:OA) (cp0_1:Nat) (lp0_2:List Int) (Ap0_2:OA) (cp0_2:Nat) (lp0_3:List SPut) (Ap0_3:OA) (cp0_3:Nat) (lp0_4:List Int) (Ap0_4:OA) (cp0_4:Nat) (sp0_5:List Int) (sp0_13 sp0_14:Int) (l1:List SIns) (A1:OA) (c1:Nat) (l2:List Int) (A2:OA) (c2:Nat) (l3:List Int) (A3:OA) (c3:Nat) (x4:Int) (LT:List Own):(Bool×(List Int)×(List SPut)×(List Int)×(List Int)×Int×Int)→Exit→Act→World→Prop:=Rets Tryd.prog Tryd.f29 (ticked.Post w0 bp0 lp0_0 Ap0_0 cp0_0 lp0_1 Ap0_1 cp0_1 lp0_2 Ap0_2 cp0_2 lp0_3 Ap0_3 cp0_3 lp0_4 Ap0_4 cp0_4 sp0_5 sp0_13 sp0_14 l1 A1 c1 l2 A2 c2 l3 A3 c3 x4 LT)
theorem ticked_p1 (K:Nat) (w0:World) (bp0:Nat) (lp0_0:List SIns) (Ap0_0:OA) (cp0_0:Nat) (lp0_1:List Int) (Ap0_1:OA) (cp0_1:Nat) (lp0_2:List Int) (Ap0_2:OA) (cp0_2:Nat) (lp0_3:List SPut) (Ap0_3:OA) (cp0_3:Nat) (lp0_4:List Int) (Ap0_4:OA) (cp0_4:Nat) (sp0_5:List Int) (sp0_13 sp0_14:Int) (l1:List SIns) (A1:OA) (c1:Nat) (l2:List Int) (A2:OA) (c2:Nat) (l3:List Int) (A3:OA) (c3:Nat) (x4:Int) (LT:List Own) (hR1:RdL w0 A1 l1) (hL1:l1.length≤c1) (hR2:RdL w0 A2 l2) (hL2:l2.length≤c2) (hR3:RdL w0 A3 l3) (hL3:l3.length≤c3) (r1:SEnded×(List SStep)×Bool) (b1:Nat) (Z1:OA) (cz1:Nat) (Z2:OA) (cz2:Nat) (Z3:OA) (cz3:Nat) (z1 z2 z3:Int) (m1:List Int) (m2:List SPut) (m3 m4:List Int) (z4 z5:Int) (hc1:z3<x4) (hc2:z1=(r1.2.1.length:Int)) (Z4:OA) (cz4:Nat) (Z5:OA) (cz5:Nat) (Z6:OA) (cz6:Nat) (r2:SIns×Bool×(List Int)×(List SPut)×(List Int)×(List Int)×Int×Int) (b2:Nat) (Z7:OA) (cz7:Nat) (Z8:OA) (cz8:Nat) (Z9:OA) (cz9:Nat) (o:Unit ⊕ (Bool×(List Int)×(List SPut)×(List Int)×(List Int)×Int×Int)) (h:ticked.p1 lp0_0 lp0_1 r2=some o) (w:World) (hS:St w0 w [bk b2 #[vI r2.1.Op,vI r2.1.A,vI r2.1.B] 29,bk bp0 #[(.slice Ap0_0 lp0_0.length cp0_0),(.slice Ap0_1 lp0_1.length cp0_1),(.slice Z7 r2.2.2.1.length cz7),(.slice Z8 r2.2.2.2.1.length cz8),(.slice Z9 r2.2.2.2.2.1.length cz9),vI ((r2.2.2.2.2.2.1[0]?).getD 0),vI ((r2.2.2.2.2.2.1[1]?).getD 0),vI ((r2.2.2.2.2.2.1[2]?).getD 0),vI ((r2.2.2.2.2.2.1[3]?).getD 0),vI ((r2.2.2.2.2.2.1[4]?).getD 0),vI ((r2.2.2.2.2.2.1[5]?).getD 0),vI ((r2.2.2.2.2.2.1[6]?).getD 0),vI ((r2.2.2.2.2.2.1[7]?).getD 0),vI r2.2.2.2.2.2.2.1,vI r2.2.2.2.2.2.2.2] 86,ro Ap0_0 cp0_0 29 lp0_0,ro Ap0_1 cp0_1 3 lp0_1,ro Z7 cz7 3 r2.2.2.1,ro Z8 cz8 101 r2.2.2.2.1,ro Z9 cz9 3 r2.2.2.2.2.1,ro Z3 cz3 96 r1.2.1,Own.all LT]) (Q:Exit→Act→World→Prop) (hQ:∀ x a w,Outs (ticked.A1 w0 bp0 lp0_0 Ap0_0 cp0_0 lp0_1 Ap0_1 cp0_1 l1 A1 c1 l2 A2 c2 l3 A3 c3 x4 LT r1 Z3 cz3 z1 z2 z3 r2 Z7 cz7 Z8 cz8 Z9 cz9) (ticked.B1 w0 bp0 lp0_0 Ap0_0 cp0_0 lp0_1 Ap0_1 cp0_1 lp0_2 Ap0_2 cp0_2 lp0_3 Ap0_3 cp0_3 lp0_4 Ap0_4 cp0_4 sp0_5 sp0_13 sp0_14 l1 A1 c1 l2 A2 c2 l3 A3 c3 x4 LT) o x a w→Q x a w):WE Tryd.prog 143 (subF Tryd.f29 [1,1,1,0,1,0,0,1,1,0,0,0,1,0,1,0]) Q [(0,pP bp0 0),(1,.slice A1 l1.length c1),(2,.slice A2 l2.length c2),(3,.slice A3 l3.length c3),(12,(.slice Z3 r1.2.1.length cz3)),(14,vI z1),(15,vI z2),(16,pP b2 0),(17,.bool r2.2.1),(35,vI x4),(36,vI z3),(37,.bool true),(38,vI z1),(39,(.slice Z3 r1.2.1.length cz3)),(40,vI (r1.2.1.length:Int)),(41,.bool true),(42,.tuple #[.agg #[vI r2.1.Op,vI r2.1.A,vI r2.1.B],.bool r2.2.1]),(43,pP bp0 0),(44,.tuple #[.agg #[vI r2.1.Op,vI r2.1.A,vI r2.1.B],.bool r2.2.1]),(45,.agg #[vI r2.1.Op,vI r2.1.A,vI r2.1.B]),(46,.bool r2.2.1)] w:=by
 simp only [ticked.p1] at h
 refine ws fun K13 hK13=>wr [(0,0),(1,2),(2,0),(3,0),(4,0),(5,0),(6,0),(7,0),(8,0),(9,0),(10,0)]<|gb0 [0] [(47,pP bp0 0)] ?_
 have hS34:=((((((hS.b 6).b 6).b 6).b 6).b 6).b 6).packN 6
 refine ge_call2 (m:=0) (d:=some 48) (f:=27) (args:=#[pP bp0 0]) (by kernel_rfl) (mach_Machine_Done_ok bp0 lp0_0 Ap0_0 cp0_0 lp0_1 Ap0_1 cp0_1 r2.2.2.1 Z7 cz7 r2.2.2.2.1 Z8 cz8 r2.2.2.2.2.1 Z9 cz9 r2.2.2.2.2.2.1 r2.2.2.2.2.2.2.1 r2.2.2.2.2.2.2.2 _ _ _ hS34 _ rfl) ?_
 rintro _ w7 ⟨rfl,hS33⟩
 refine ⟨_,rfl,?_⟩
 have hS35:=hS33.unpack [bk bp0 #[(.slice Ap0_0 lp0_0.length cp0_0),(.slice Ap0_1 lp0_1.length cp0_1),(.slice Z7 r2.2.2.1.length cz7),(.slice Z8 r2.2.2.2.1.length cz8),(.slice Z9 r2.2.2.2.2.1.length cz9),vI ((r2.2.2.2.2.2.1[0]?).getD 0),vI ((r2.2.2.2.2.2.1[1]?).getD 0),vI ((r2.2.2.2.2.2.1[2]?).getD 0),vI ((r2.2.2.2.2.2.1[3]?).getD 0),vI ((r2.2.2.2.2.2.1[4]?).getD 0),vI ((r2.2.2.2.2.2.1[5]?).getD 0),vI ((r2.2.2.2.2.2.1[6]?).getD 0),vI ((r2.2.2.2.2.2.1[7]?).getD 0),vI r2.2.2.2.2.2.2.1,vI r2.2.2.2.2.2.2.2] 86,ro Ap0_0 cp0_0 29 lp0_0,ro Ap0_1 cp0_1 3 lp0_1,ro Z7 cz7 3 r2.2.2.1,ro Z8 cz8 101 r2.2.2.2.1,ro Z9 cz9 3 r2.2.2.2.2.1]
 refine gb0 [2,3] [(50,.bool (!(mach_Machine_Done.f lp0_0 lp0_1 r2.2.2.1 r2.2.2.2.1 r2.2.2.2.2.1 r2.2.2.2.2.2.1 r2.2.2.2.2.2.2.1 r2.2.2.2.2.2.2.2))),(49,.bool (!(mach_Machine_Done.f lp0_0 lp0_1 r2.2.2.1 r2.2.2.2.1 r2.2.2.2.2.1 r2.2.2.2.2.2.1 r2.2.2.2.2.2.2.1 r2.2.2.2.2.2.2.2)))] ?_
 by_cases hc3:(mach_Machine_Done.f lp0_0 lp0_1 r2.2.2.1 r2.2.2.2.1 r2.2.2.2.2.1 r2.2.2.2.2.2.1 r2.2.2.2.2.2.2.1 r2.2.2.2.2.2.2.2)=true
 ·rw [if_pos hc3] at h
  refine gk 50 (!(mach_Machine_Done.f lp0_0 lp0_1 r2.2.2.1 r2.2.2.2.1 r2.2.2.2.2.1 r2.2.2.2.2.2.1 r2.2.2.2.2.2.2.1 r2.2.2.2.2.2.2.2)) false (congrArg (fun z=>!z) hc3)<|gb0 [4,5,6] [(53,.bool r2.2.1),(52,.bool r2.2.1),(51,.bool r2.2.1)] ?_
  by_cases hc4:r2.2.1=true
  ·rw [if_pos hc4] at h
   refine gk 53 r2.2.1 true hc4<|gb0 [7,8,9,10] [(57,.bool true),(56,undef),(55,undef),(54,undef)]<|gn hK13<|wt<|ws fun K14 hK14=>wr [(0,0)]<|gb0 [0] [(10,.bool false)]<|gn hK14 ?_
   have hS43:=hS35.p [0,1,2,3,4,5,8] rfl
   obtain rfl:=si h
   exact rq hQ fun a hF=>⟨rfl,(pr0 [.tmp 10] [.bool false] ⟨(.slice Z7 r2.2.2.1.length cz7),(.slice Z8 r2.2.2.2.1.length cz8),(.slice Z9 r2.2.2.2.2.1.length cz9),rfl,hS43⟩) a hF⟩
  rw [if_neg hc4] at h
  refine gk 53 r2.2.1 false (Bool.eq_false_iff.2 hc4)<|gb [7,8] [(55,.agg #[vI 0,vI 0,vI 0]),(54,.agg #[vI r2.1.Op,vI r2.1.A,vI r2.1.B])] [ld b2 0 (vI r2.1.Op),ld b2 1 (vI r2.1.A),ld b2 2 (vI r2.1.B)] ⟨hS35.c 6,hS35.c 6,hS35.c 6,trivial⟩<|ge_eqs (d:=56) (ty:=4) (op:=.neq) (x:=(.tmp 54)) (y:=(.tmp 55)) (t:=29) (t2:=29) (xs:=#[vI r2.1.Op,vI r2.1.A,vI r2.1.B]) (ys:=#[vI 0,vI 0,vI 0]) (r:=(SIns.eqb r2.1 (⟨0,0,0⟩:SIns))) (v:=!(SIns.eqb r2.1 (⟨0,0,0⟩:SIns))) (by kernel_rfl) (by kernel_rfl) (by kernel_rfl) (by kernel_rfl) (by kernel_rfl) rfl ?_
  refine gb0 [10] [(57,.bool (!(SIns.eqb r2.1 (⟨0,0,0⟩:SIns))))]<|gn hK13 ?_
  by_cases hc5:(SIns.eqb r2.1 (⟨0,0,0⟩:SIns))=true
  ·rw [if_pos hc5] at h
   refine wk 57 (!(SIns.eqb r2.1 (⟨0,0,0⟩:SIns))) false (congrArg (fun z=>!z) hc5)<|wf ?_
   have hS52:=hS35.p [0,7,1,2,3,4,5,8] rfl
   obtain rfl:=si h
   exact we_skip fun a hF=>hQ _ _ _ (Outs.again ⟨hS52,hF.weaken ea⟩)
  rw [if_neg hc5] at h
  refine wk 57 (!(SIns.eqb r2.1 (⟨0,0,0⟩:SIns))) true (congrArg (fun z=>!z) (Bool.eq_false_iff.2 hc5))<|wt<|ws fun K15 hK15=>wr [(0,0)]<|gb0 [0] [(10,.bool false)]<|gn hK15 ?_
  have hS60:=hS35.p [0,1,2,3,4,5,8] rfl
  obtain rfl:=si h
  exact rq hQ fun a hF=>⟨rfl,(pr0 [.tmp 10] [.bool false] ⟨(.slice Z7 r2.2.2.1.length cz7),(.slice Z8 r2.2.2.2.1.length cz8),(.slice Z9 r2.2.2.2.2.1.length cz9),rfl,hS60⟩) a hF⟩
 rw [if_neg hc3] at h
 refine gk 50 (!(mach_Machine_Done.f lp0_0 lp0_1 r2.2.2.1 r2.2.2.2.1 r2.2.2.2.2.1 r2.2.2.2.2.2.1 r2.2.2.2.2.2.2.1 r2.2.2.2.2.2.2.2)) true (congrArg (fun z=>!z) (Bool.eq_false_iff.2 hc3))<|gb0 [4,5,6,7,8,9,10] [(57,.bool true),(56,undef),(55,undef),(54,undef),(53,.bool true),(52,.bool true),(51,undef)]<|gn hK13<|wt<|ws fun K16 hK16=>wr [(0,0)]<|gb0 [0] [(10,.bool false)]<|gn hK16 ?_
 have hS68:=hS35.p [0,1,2,3,4,5,8] rfl
 obtain rfl:=si h
 exact rq hQ fun a hF=>⟨rfl,(pr0 [.tmp 10] [.bool false] ⟨(.slice Z7 r2.2.2.1.length cz7),(.slice Z8 r2.2.2.2.1.length cz8),(.slice Z9 r2.2.2.2.2.1.length cz9),rfl,hS68⟩) a hF⟩
abbrev ticked.A2 (w0:World) (bp0:Nat) (lp0_0:List SIns) (Ap0_0:OA) (cp0_0:Nat) (lp0_1:List Int) (Ap0_1:OA) (cp0_1:Nat) (l1:List SIns) (A1:OA) (c1:Nat) (l2:List Int) (A2:OA) (c2:Nat) (l3:List Int) (A3:OA) (c3:Nat) (x4:Int) (LT:List Own) (r1:SEnded×(List SStep)×Bool) (Z3:OA) (cz3:Nat) (z1 z2 z3:Int) (m1:List Int) (m2:List SPut) (m3 m4:List Int) (z4 z5:Int) (Z10:OA) (cz10:Nat) (Z11:OA) (cz11:Nat) (Z12:OA) (cz12:Nat):Unit→Act→World→Prop:=fun (s:Unit) a w=>St w0 w [bk bp0 #[(.slice Ap0_0 lp0_0.length cp0_0),(.slice Ap0_1 lp0_1.length cp0_1),(.slice Z10 m1.length cz10),(.slice Z11 m2.length cz11),(.slice Z12 m3.length cz12),vI ((m4[0]?).getD 0),vI ((m4[1]?).getD 0),vI ((m4[2]?).getD 0),vI ((m4[3]?).getD 0),vI ((m4[4]?).getD 0),vI ((m4[5]?).getD 0),vI ((m4[6]?).getD 0),vI ((m4[7]?).getD 0),vI z4,vI z5] 86,ro Z3 cz3 96 r1.2.1,ro Ap0_0 cp0_0 29 lp0_0,ro Ap0_1 cp0_1 3 lp0_1,ro Z10 cz10 3 m1,ro Z11 cz11 101 m2,ro Z12 cz12 3 m3,Own.all LT]∧Frm 143 a [(0,pP bp0 0),(1,.slice A1 l1.length c1),(2,.slice A2 l2.length c2),(3,.slice A3 l3.length c3),(12,(.slice Z3 r1.2.1.length cz3)),(14,vI z1),(15,vI z2),(35,vI x4),(36,vI z3)]
abbrev ticked.B2 (w0:World) (bp0:Nat) (lp0_0:List SIns) (Ap0_0:OA) (cp0_0:Nat) (lp0_1:List Int) (Ap0_1:OA) (cp0_1:Nat) (lp0_2:List Int) (Ap0_2:OA) (cp0_2:Nat) (lp0_3:List SPut) (Ap0_3:OA) (cp0_3:Nat) (lp0_4:List Int) (Ap0_4:OA) (cp0_4:Nat) (sp0_5:List Int) (sp0_13 sp0_14:Int) (l1:List SIns) (A1:OA) (c1:Nat) (l2:List Int) (A2:OA) (c2:Nat) (l3:List Int) (A3:OA) (c3:Nat) (x4:Int) (LT:List Own):(Bool×(List Int)×(List SPut)×(List Int)×(List Int)×Int×Int)→Exit→Act→World→Prop:=Rets Tryd.prog Tryd.f29 (ticked.Post w0 bp0 lp0_0 Ap0_0 cp0_0 lp0_1 Ap0_1 cp0_1 lp0_2 Ap0_2 cp0_2 lp0_3 Ap0_3 cp0_3 lp0_4 Ap0_4 cp0_4 sp0_5 sp0_13 sp0_14 l1 A1 c1 l2 A2 c2 l3 A3 c3 x4 LT)
theorem ticked_p2 (K:Nat) (w0:World) (bp0:Nat) (lp0_0:List SIns) (Ap0_0:OA) (cp0_0:Nat) (lp0_1:List Int) (Ap0_1:OA) (cp0_1:Nat) (lp0_2:List Int) (Ap0_2:OA) (cp0_2:Nat) (lp0_3:List SPut) (Ap0_3:OA) (cp0_3:Nat) (lp0_4:List Int) (Ap0_4:OA) (cp0_4:Nat) (sp0_5:List Int) (sp0_13 sp0_14:Int) (l1:List SIns) (A1:OA) (c1:Nat) (l2:List Int) (A2:OA) (c2:Nat) (l3:List Int) (A3:OA) (c3:Nat) (x4:Int) (LT:List Own) (hR1:RdL w0 A1 l1) (hL1:l1.length≤c1) (hR2:RdL w0 A2 l2) (hL2:l2.length≤c2) (hR3:RdL w0 A3 l3) (hL3:l3.length≤c3) (r1:SEnded×(List SStep)×Bool) (b1:Nat) (Z1:OA) (cz1:Nat) (Z2:OA) (cz2:Nat) (Z3:OA) (cz3:Nat) (z1 z2 z3:Int) (m1:List Int) (m2:List SPut) (m3 m4:List Int) (z4 z5:Int) (hc1:z3<x4) (hc2:¬ (z1=(r1.2.1.length:Int))) (Z10:OA) (cz10:Nat) (Z11:OA) (cz11:Nat) (Z12:OA) (cz12:Nat) (o:Unit ⊕ (Bool×(List Int)×(List SPut)×(List Int)×(List Int)×Int×Int)) (h:ticked.p2 lp0_0 lp0_1 r1 z1 m1 m2 m3 m4 z4 z5=some o) (w:World) (hS:St w0 w [bk bp0 #[(.slice Ap0_0 lp0_0.length cp0_0),(.slice Ap0_1 lp0_1.length cp0_1),(.slice Z10 m1.length cz10),(.slice Z11 m2.length cz11),(.slice Z12 m3.length cz12),vI ((m4[0]?).getD 0),vI ((m4[1]?).getD 0),vI ((m4[2]?).getD 0),vI ((m4[3]?).getD 0),vI ((m4[4]?).getD 0),vI ((m4[5]?).getD 0),vI ((m4[6]?).getD 0),vI ((m4[7]?).getD 0),vI z4,vI z5] 86,ro Z3 cz3 96 r1.2.1,ro Ap0_0 cp0_0 29 lp0_0,ro Ap0_1 cp0_1 3 lp0_1,ro Z10 cz10 3 m1,ro Z11 cz11 101 m2,ro Z12 cz12 3 m3,Own.all LT]) (Q:Exit→Act→World→Prop) (hQ:∀ x a w,Outs (ticked.A2 w0 bp0 lp0_0 Ap0_0 cp0_0 lp0_1 Ap0_1 cp0_1 l1 A1 c1 l2 A2 c2 l3 A3 c3 x4 LT r1 Z3 cz3 z1 z2 z3 m1 m2 m3 m4 z4 z5 Z10 cz10 Z11 cz11 Z12 cz12) (ticked.B2 w0 bp0 lp0_0 Ap0_0 cp0_0 lp0_1 Ap0_1 cp0_1 lp0_2 Ap0_2 cp0_2 lp0_3 Ap0_3 cp0_3 lp0_4 Ap0_4 cp0_4 sp0_5 sp0_13 sp0_14 l1 A1 c1 l2 A2 c2 l3 A3 c3 x4 LT) o x a w→Q x a w):WE Tryd.prog 143 (subF Tryd.f29 [1,1,1,0,1,0,0,1,1,0,0,1,0]) Q [(0,pP bp0 0),(1,.slice A1 l1.length c1),(2,.slice A2 l2.length c2),(3,.slice A3 l3.length c3),(12,(.slice Z3 r1.2.1.length cz3)),(14,vI z1),(15,vI z2),(35,vI x4),(36,vI z3),(37,.bool true),(38,vI z1),(39,(.slice Z3 r1.2.1.length cz3)),(40,vI (r1.2.1.length:Int)),(41,.bool false)] w:=by
 simp only [ticked.p2] at h
 refine ws fun K18 hK18=>we_orders3 (by kernel_rfl) [(9,[⟨blkOf Z3,offOf Z3+((z1).toNat)*2,none⟩],[],[8,7,6,5,2,1])] (.vals [0] (.alt 1 2 (.vals [2] (.vals [3] (.vals [5] (.vals [6] (.vals [7] (.vals [8] (.vals [9] (.alt 4 2 (.vals [10] (.vals [11] .fin)) .nomore)))))))) .nomore)) (by kernel_rfl) (by kernel_rfl) ?_
 have hS78:=hS.drew
 refine g30 [0] [(58,pP bp0 0)]<|go_alt3 (fun KK hKK=>?_) ?_
 ·have hS86:=((((((hS78.b 6).b 6).b 6).b 6).b 6).b 5).packN 6
  refine ge_call2 (m:=0) (d:=some 59) (f:=27) (args:=#[pP bp0 0]) (by kernel_rfl) (mach_Machine_Done_ok bp0 lp0_0 Ap0_0 cp0_0 lp0_1 Ap0_1 cp0_1 m1 Z10 cz10 m2 Z11 cz11 m3 Z12 cz12 m4 z4 z5 _ _ _ hS86 _ rfl) ?_
  rintro _ w9 ⟨rfl,hS85⟩
  refine ⟨_,rfl,?_⟩
  have hS87:=hS85.unpack [bk bp0 #[(.slice Ap0_0 lp0_0.length cp0_0),(.slice Ap0_1 lp0_1.length cp0_1),(.slice Z10 m1.length cz10),(.slice Z11 m2.length cz11),(.slice Z12 m3.length cz12),vI ((m4[0]?).getD 0),vI ((m4[1]?).getD 0),vI ((m4[2]?).getD 0),vI ((m4[3]?).getD 0),vI ((m4[4]?).getD 0),vI ((m4[5]?).getD 0),vI ((m4[6]?).getD 0),vI ((m4[7]?).getD 0),vI z4,vI z5] 86,ro Ap0_0 cp0_0 29 lp0_0,ro Ap0_1 cp0_1 3 lp0_1,ro Z10 cz10 3 m1,ro Z11 cz11 101 m2,ro Z12 cz12 3 m3]
  refine g2 hKK<|g30 [2] [(60,.bool (mach_Machine_Done.f lp0_0 lp0_1 m1 m2 m3 m4 z4 z5))] ?_
  by_cases hc6:(mach_Machine_Done.f lp0_0 lp0_1 m1 m2 m3 m4 z4 z5)=true
  ·rw [if_pos hc6] at h
   refine go3_known (t:=60) (b:=(mach_Machine_Done.f lp0_0 lp0_1 m1 m2 m3 m4 z4 z5)) (c:=true) (by kernel_rfl) hc6 ?_
   refine g30 [3,5,6,7,8,9] [(67,undef),(66,undef),(65,undef),(64,undef),(63,undef),(61,undef)]<|go_alt3 (fun KK hKK=>?_) ?_
   ·refine ge_off rfl rfl rfl (by kernel_rfl) ?_
    refine ge_nil fun a hF=>hKK _ _ (RS.refl _ _) ?_ a hF
    refine g30 [10,11] [(69,.bool true),(68,undef)]<|go_fin3 fun a hF=>hK18 _ _ ?_ a hF
    refine wt<|ws fun K19 hK19=>wr [(0,0)]<|gb0 [0] [(10,.bool false)]<|gn hK19 ?_
    have hS95:=hS87.p [0,1,2,3,4,5,7] rfl
    obtain rfl:=si h
    exact rq hQ fun a hF=>⟨rfl,(pr0 [.tmp 10] [.bool false] ⟨(.slice Z10 m1.length cz10),(.slice Z11 m2.length cz11),(.slice Z12 m3.length cz12),rfl,hS95⟩) a hF⟩
   exact go_nomore3
  rw [if_neg hc6] at h
  refine go3_known (t:=60) (b:=(mach_Machine_Done.f lp0_0 lp0_1 m1 m2 m3 m4 z4 z5)) (c:=false) (by kernel_rfl) (Bool.eq_false_iff.2 hc6) ?_
  refine g30 [3,5,6] [(64,vI z1),(63,(.slice Z3 r1.2.1.length cz3)),(61,pP bp0 0)] ?_
  by_cases hc7:0≤z1
  ·rw [if_pos hc7] at h
   rcases hx3:r1.2.1[(z1).toNat]? with _ | e1
   ·rw [hx3] at h; cases h
   rw [hx3] at h
   simp only [] at h
   refine go3_index (d:=65) (ty:=0) (t:=92) (el:=96) (sz:=2) (m:=r1.2.1.length) (c:=cz3) (x:=(.tmp 63)) (y:=(.tmp 64)) (A:=Z3) (k':=.i64) (j:=z1) (jn:=((z1).toNat)) (b0:=blkOf Z3) (o0:=offOf Z3) (by kernel_rfl) (by kernel_rfl) (by kernel_rfl) (by kernel_rfl) (by kernel_rfl) ((hS87.rdAt 6 rfl).eqSome (pos_of_get hx3)) (Int.toNat_of_nonneg hc7).symm (lt_of_get hx3) ?_
   refine g30 [8] [(66,.pointer (some ⟨blkOf Z3,offOf Z3+(z1).toNat*2,none⟩))]<|g3 9 [(67,vI e1.At)] [.loaded ⟨blkOf Z3,offOf Z3+((z1).toNat)*2,none⟩ (vI e1.At)] ⟨RdL.cell (j:=0) (hS87.rdAt 6 rfl) hx3 rfl,trivial⟩<|go_alt3 (fun KK hKK=>?_) ?_
   ·have hS103:=((((((hS87.b 5).b 5).b 5).b 5).b 5).b 5).packN 6
    refine ge_call2 (m:=0) (d:=some 62) (f:=26) (args:=#[pP bp0 0]) (by kernel_rfl) (mach_Machine_At_ok bp0 lp0_0 Ap0_0 cp0_0 lp0_1 Ap0_1 cp0_1 m1 Z10 cz10 m2 Z11 cz11 m3 Z12 cz12 m4 z4 z5 _ _ _ hS103 _ rfl) ?_
    rintro _ w10 ⟨rfl,hS102⟩
    refine ⟨_,rfl,?_⟩
    have hS104:=hS102.unpack [bk bp0 #[(.slice Ap0_0 lp0_0.length cp0_0),(.slice Ap0_1 lp0_1.length cp0_1),(.slice Z10 m1.length cz10),(.slice Z11 m2.length cz11),(.slice Z12 m3.length cz12),vI ((m4[0]?).getD 0),vI ((m4[1]?).getD 0),vI ((m4[2]?).getD 0),vI ((m4[3]?).getD 0),vI ((m4[4]?).getD 0),vI ((m4[5]?).getD 0),vI ((m4[6]?).getD 0),vI ((m4[7]?).getD 0),vI z4,vI z5] 86,ro Ap0_0 cp0_0 29 lp0_0,ro Ap0_1 cp0_1 3 lp0_1,ro Z10 cz10 3 m1,ro Z11 cz11 101 m2,ro Z12 cz12 3 m3]
    refine ge_nil fun a hF=>hKK _ _ (RS.of2 (l:=[.loaded ⟨blkOf Z3,offOf Z3+((z1).toNat)*2,none⟩ (vI e1.At)]) (by kernel_rfl) ⟨RdL.cell (j:=0) (hS87.rdAt 6 rfl) hx3 rfl,trivial⟩ ⟨RdL.cell (j:=0) (hS104.rdAt 6 rfl) hx3 rfl,trivial⟩) ?_ a hF
    refine g30 [10,11] [(69,.bool ((mach_Machine_At.f lp0_0 lp0_1 m1 m2 m3 m4 z4 z5) != e1.At)),(68,.bool ((mach_Machine_At.f lp0_0 lp0_1 m1 m2 m3 m4 z4 z5) != e1.At))]<|go_fin3 fun a hF=>hK18 _ _ ?_ a hF
    by_cases hc8:(mach_Machine_At.f lp0_0 lp0_1 m1 m2 m3 m4 z4 z5)=e1.At
    ·rw [if_pos hc8] at h
     refine wk 69 ((mach_Machine_At.f lp0_0 lp0_1 m1 m2 m3 m4 z4 z5) != e1.At) false (bne_eq_false_iff_eq.2 hc8)<|wf ?_
     have hS112:=(((((((hS104.b 7).b 6).b 6).b 6).b 6).b 6).b 7).b 7
     obtain rfl:=si h
     exact we_skip fun a hF=>hQ _ _ _ (Outs.again ⟨hS112,hF.weaken ea⟩)
    rw [if_neg hc8] at h
    refine wk 69 ((mach_Machine_At.f lp0_0 lp0_1 m1 m2 m3 m4 z4 z5) != e1.At) true (bne_iff_ne.2 hc8)<|wt<|ws fun K20 hK20=>wr [(0,0)]<|gb0 [0] [(10,.bool false)]<|gn hK20 ?_
    have hS120:=hS104.p [0,1,2,3,4,5,7] rfl
    obtain rfl:=si h
    exact rq hQ fun a hF=>⟨rfl,(pr0 [.tmp 10] [.bool false] ⟨(.slice Z10 m1.length cz10),(.slice Z11 m2.length cz11),(.slice Z12 m3.length cz12),rfl,hS120⟩) a hF⟩
   exact go_nomore3
  rw [if_neg hc7] at h
  cases h
 exact go_nomore3
abbrev ticked.A0 (w0:World) (bp0:Nat) (lp0_0:List SIns) (Ap0_0:OA) (cp0_0:Nat) (lp0_1:List Int) (Ap0_1:OA) (cp0_1:Nat) (l1:List SIns) (A1:OA) (c1:Nat) (l2:List Int) (A2:OA) (c2:Nat) (l3:List Int) (A3:OA) (c3:Nat) (x4:Int) (LT:List Own) (r1:SEnded×(List SStep)×Bool) (Z3:OA) (cz3:Nat):(Int×Int×Int×(List Int)×(List SPut)×(List Int)×(List Int)×Int×Int)→Act→World→Prop:=fun (s:Int×Int×Int×(List Int)×(List SPut)×(List Int)×(List Int)×Int×Int) a w=>∃ (v4:Value) (v5:Value) (v6:Value),St w0 w [bk bp0 #[(.slice Ap0_0 lp0_0.length cp0_0),(.slice Ap0_1 lp0_1.length cp0_1),v4,v5,v6,vI ((s.2.2.2.2.2.2.1[0]?).getD 0),vI ((s.2.2.2.2.2.2.1[1]?).getD 0),vI ((s.2.2.2.2.2.2.1[2]?).getD 0),vI ((s.2.2.2.2.2.2.1[3]?).getD 0),vI ((s.2.2.2.2.2.2.1[4]?).getD 0),vI ((s.2.2.2.2.2.2.1[5]?).getD 0),vI ((s.2.2.2.2.2.2.1[6]?).getD 0),vI ((s.2.2.2.2.2.2.1[7]?).getD 0),vI s.2.2.2.2.2.2.2.1,vI s.2.2.2.2.2.2.2.2] 86,ro Z3 cz3 96 r1.2.1,ro Ap0_0 cp0_0 29 lp0_0,ro Ap0_1 cp0_1 3 lp0_1,Own.of v4 3 s.2.2.2.1,Own.of v5 101 s.2.2.2.2.1,Own.of v6 3 s.2.2.2.2.2.1,Own.all LT]∧Frm 143 a [(0,pP bp0 0),(1,.slice A1 l1.length c1),(2,.slice A2 l2.length c2),(3,.slice A3 l3.length c3),(12,(.slice Z3 r1.2.1.length cz3)),(14,vI s.1),(15,vI s.2.1),(35,vI x4),(36,vI s.2.2.1)]
abbrev ticked.B0 (w0:World) (bp0:Nat) (lp0_0:List SIns) (Ap0_0:OA) (cp0_0:Nat) (lp0_1:List Int) (Ap0_1:OA) (cp0_1:Nat) (lp0_2:List Int) (Ap0_2:OA) (cp0_2:Nat) (lp0_3:List SPut) (Ap0_3:OA) (cp0_3:Nat) (lp0_4:List Int) (Ap0_4:OA) (cp0_4:Nat) (sp0_5:List Int) (sp0_13 sp0_14:Int) (l1:List SIns) (A1:OA) (c1:Nat) (l2:List Int) (A2:OA) (c2:Nat) (l3:List Int) (A3:OA) (c3:Nat) (x4:Int) (LT:List Own):((Int×(List Int)×(List SPut)×(List Int)×(List Int)×Int×Int) ⊕ (Bool×(List Int)×(List SPut)×(List Int)×(List Int)×Int×Int))→Exit→Act→World→Prop:=Exits 0 (fun (s:Int×(List Int)×(List SPut)×(List Int)×(List Int)×Int×Int) a w=>∃ (v7:Value) (v8:Value) (v9:Value),St w0 w [bk bp0 #[(.slice Ap0_0 lp0_0.length cp0_0),(.slice Ap0_1 lp0_1.length cp0_1),v7,v8,v9,vI ((s.2.2.2.2.1[0]?).getD 0),vI ((s.2.2.2.2.1[1]?).getD 0),vI ((s.2.2.2.2.1[2]?).getD 0),vI ((s.2.2.2.2.1[3]?).getD 0),vI ((s.2.2.2.2.1[4]?).getD 0),vI ((s.2.2.2.2.1[5]?).getD 0),vI ((s.2.2.2.2.1[6]?).getD 0),vI ((s.2.2.2.2.1[7]?).getD 0),vI s.2.2.2.2.2.1,vI s.2.2.2.2.2.2] 86,ro Ap0_0 cp0_0 29 lp0_0,ro Ap0_1 cp0_1 3 lp0_1,Own.of v7 3 s.2.1,Own.of v8 101 s.2.2.1,Own.of v9 3 s.2.2.2.1,Own.all LT]∧Frm 143 a [(0,pP bp0 0),(1,.slice A1 l1.length c1),(2,.slice A2 l2.length c2),(3,.slice A3 l3.length c3),(14,vI s.1)]) (Rets Tryd.prog Tryd.f29 (ticked.Post w0 bp0 lp0_0 Ap0_0 cp0_0 lp0_1 Ap0_1 cp0_1 lp0_2 Ap0_2 cp0_2 lp0_3 Ap0_3 cp0_3 lp0_4 Ap0_4 cp0_4 sp0_5 sp0_13 sp0_14 l1 A1 c1 l2 A2 c2 l3 A3 c3 x4 LT))
theorem ticked_r0 (K:Nat) (w0:World) (bp0:Nat) (lp0_0:List SIns) (Ap0_0:OA) (cp0_0:Nat) (lp0_1:List Int) (Ap0_1:OA) (cp0_1:Nat) (lp0_2:List Int) (Ap0_2:OA) (cp0_2:Nat) (lp0_3:List SPut) (Ap0_3:OA) (cp0_3:Nat) (lp0_4:List Int) (Ap0_4:OA) (cp0_4:Nat) (sp0_5:List Int) (sp0_13 sp0_14:Int) (l1:List SIns) (A1:OA) (c1:Nat) (l2:List Int) (A2:OA) (c2:Nat) (l3:List Int) (A3:OA) (c3:Nat) (x4:Int) (LT:List Own) (hR1:RdL w0 A1 l1) (hL1:l1.length≤c1) (hR2:RdL w0 A2 l2) (hL2:l2.length≤c2) (hR3:RdL w0 A3 l3) (hL3:l3.length≤c3) (r1:SEnded×(List SStep)×Bool) (b1:Nat) (Z1:OA) (cz1:Nat) (Z2:OA) (cz2:Nat) (Z3:OA) (cz3:Nat) (s:Int×Int×Int×(List Int)×(List SPut)×(List Int)×(List Int)×Int×Int) (o:(Int×Int×Int×(List Int)×(List SPut)×(List Int)×(List Int)×Int×Int) ⊕ ((Int×(List Int)×(List SPut)×(List Int)×(List Int)×Int×Int) ⊕ (Bool×(List Int)×(List SPut)×(List Int)×(List Int)×Int×Int))) (h:ticked.r0 lp0_0 lp0_1 l1 x4 r1 s=some o) (a:Act) (w:World) (hA:ticked.A0 w0 bp0 lp0_0 Ap0_0 cp0_0 lp0_1 Ap0_1 cp0_1 l1 A1 c1 l2 A2 c2 l3 A3 c3 x4 LT r1 Z3 cz3 s a w) (Q:Exit→Act→World→Prop) (hQ:∀ x a w,Outs (ticked.A0 w0 bp0 lp0_0 Ap0_0 cp0_0 lp0_1 Ap0_1 cp0_1 l1 A1 c1 l2 A2 c2 l3 A3 c3 x4 LT r1 Z3 cz3) (ticked.B0 w0 bp0 lp0_0 Ap0_0 cp0_0 lp0_1 Ap0_1 cp0_1 lp0_2 Ap0_2 cp0_2 lp0_3 Ap0_3 cp0_3 lp0_4 Ap0_4 cp0_4 sp0_5 sp0_13 sp0_14 l1 A1 c1 l2 A2 c2 l3 A3 c3 x4 LT) o x a w→Q x a w):(subF Tryd.f29 [1,1,1,0,1,0,0]).wp Tryd.prog Q a w:=by
 obtain ⟨z1,z2,z3,m1,m2,m3,m4,z4,z5⟩:=s
 obtain ⟨v4,v5,v6,hS,hF⟩:=hA
 replace hS:St w0 w [bk bp0 #[(.slice Ap0_0 lp0_0.length cp0_0),(.slice Ap0_1 lp0_1.length cp0_1),v4,v5,v6,vI ((m4[0]?).getD 0),vI ((m4[1]?).getD 0),vI ((m4[2]?).getD 0),vI ((m4[3]?).getD 0),vI ((m4[4]?).getD 0),vI ((m4[5]?).getD 0),vI ((m4[6]?).getD 0),vI ((m4[7]?).getD 0),vI z4,vI z5] 86,ro Z3 cz3 96 r1.2.1,ro Ap0_0 cp0_0 29 lp0_0,ro Ap0_1 cp0_1 3 lp0_1,Own.of v4 3 m1,Own.of v5 101 m2,Own.of v6 3 m3,Own.all LT]:=hS
 simp only [ticked.r0] at h
 refine (?_:WE Tryd.prog 143 (subF Tryd.f29 [1,1,1,0,1,0,0]) Q [(0,pP bp0 0),(1,.slice A1 l1.length c1),(2,.slice A2 l2.length c2),(3,.slice A3 l3.length c3),(12,(.slice Z3 r1.2.1.length cz3)),(14,vI z1),(15,vI z2),(35,vI x4),(36,vI z3)] w) a hF
 clear hF a
 refine ws fun K6 hK6=>wr [(0,0)]<|gb0 [0] [(37,.bool (decide (z3<x4)))]<|gn hK6<|ws fun K7 hK7=>?_
 by_cases hc1:z3<x4
 ·rw [if_pos hc1] at h
  refine wk 37 (decide (z3<x4)) true (decide_eq_true hc1)<|wt<|we_skip fun a hF=>hK7 _ _ ?_ a hF
  refine ws fun K8 hK8=>we_block<|ws fun K9 hK9=>ws fun K10 hK10=>wr [(0,0),(1,0),(2,0),(3,0)]<|gb0 [0,1,2,3] [(41,.bool (z1==(r1.2.1.length:Int))),(40,vI (r1.2.1.length:Int)),(39,(.slice Z3 r1.2.1.length cz3)),(38,vI z1)]<|gn hK10 ?_
  by_cases hc2:z1=(r1.2.1.length:Int)
  ·rw [if_pos hc2] at h
   refine wk 41 (z1==(r1.2.1.length:Int)) true (beq_iff_eq.2 hc2)<|wt<|ws fun K11 hK11=>wr [(0,0),(1,2),(2,0),(3,0),(4,0),(5,1),(6,2),(7,0)]<|gb0 [0] [(43,pP bp0 0)] ?_
   obtain ⟨Z4,cz4,rfl⟩:=hS.open 4 rfl
   obtain ⟨Z5,cz5,rfl⟩:=hS.open 5 rfl
   obtain ⟨Z6,cz6,rfl⟩:=hS.open 6 rfl
   rcases hq2:mach_Machine_Tick.f lp0_0 lp0_1 m1 m2 m3 m4 z4 z5 with _ | r2
   ·rw [hq2] at h; cases h
   rw [hq2] at h
   simp only [] at h
   have hS22:=((((((hS.b 6).b 6).b 6).b 6).b 6).b 5).packN 6
   refine ge_call2 (m:=0) (d:=some 44) (f:=25) (args:=#[pP bp0 0]) (by kernel_rfl) (mach_Machine_Tick_ok bp0 lp0_0 Ap0_0 cp0_0 lp0_1 Ap0_1 cp0_1 m1 Z4 cz4 m2 Z5 cz5 m3 Z6 cz6 m4 z4 z5 _ _ _ hS22 _ hq2) ?_
   rintro _ w4 ⟨v10,v11,v12,rfl,hS21⟩
   refine ⟨_,rfl,?_⟩
   have hS23:=hS21.unpack [bk bp0 #[(.slice Ap0_0 lp0_0.length cp0_0),(.slice Ap0_1 lp0_1.length cp0_1),v10,v11,v12,vI ((r2.2.2.2.2.2.1[0]?).getD 0),vI ((r2.2.2.2.2.2.1[1]?).getD 0),vI ((r2.2.2.2.2.2.1[2]?).getD 0),vI ((r2.2.2.2.2.2.1[3]?).getD 0),vI ((r2.2.2.2.2.2.1[4]?).getD 0),vI ((r2.2.2.2.2.2.1[5]?).getD 0),vI ((r2.2.2.2.2.2.1[6]?).getD 0),vI ((r2.2.2.2.2.2.1[7]?).getD 0),vI r2.2.2.2.2.2.2.1,vI r2.2.2.2.2.2.2.2] 86,ro Ap0_0 cp0_0 29 lp0_0,ro Ap0_1 cp0_1 3 lp0_1,Own.of v10 3 r2.2.2.1,Own.of v11 101 r2.2.2.2.1,Own.of v12 3 r2.2.2.2.2.1]
   refine gb0 [2,3,4] [(46,.bool r2.2.1),(45,.agg #[vI r2.1.Op,vI r2.1.A,vI r2.1.B]),(42,.tuple #[.agg #[vI r2.1.Op,vI r2.1.A,vI r2.1.B],.bool r2.2.1])]<|gw (some 16) (.cells #[vI 0,vI 0,vI 0] 29) (fun b=>pP b 0) hS23 fun b2 w5 hx2 hS24=>?_
   refine gs b2 0 #[vI 0,vI 0,vI 0] 29 [vI r2.1.Op,vI r2.1.A,vI r2.1.B] hS24 fun w6 hS25=>?_
   have hS26:=hS25.nc #[vI r2.1.Op,vI r2.1.A,vI r2.1.B] rfl
   refine gb0 [7] [(17,.bool r2.2.1)]<|gn hK11<|ws fun K12 hK12=>?_
   obtain ⟨Z7,cz7,rfl⟩:=hS26.open 4 rfl
   obtain ⟨Z8,cz8,rfl⟩:=hS26.open 5 rfl
   obtain ⟨Z9,cz9,rfl⟩:=hS26.open 6 rfl
   rcases hq4:ticked.p1 lp0_0 lp0_1 r2 with _ | (_ | rr1)
   ·rw [hq4] at h; cases h
   ·rw [hq4] at h
    simp only [] at h
    refine kp (ticked_p1 K w0 bp0 lp0_0 Ap0_0 cp0_0 lp0_1 Ap0_1 cp0_1 lp0_2 Ap0_2 cp0_2 lp0_3 Ap0_3 cp0_3 lp0_4 Ap0_4 cp0_4 sp0_5 sp0_13 sp0_14 l1 A1 c1 l2 A2 c2 l3 A3 c3 x4 LT hR1 hL1 hR2 hL2 hR3 hL3 r1 b1 Z1 cz1 Z2 cz2 Z3 cz3 z1 z2 z3 m1 m2 m3 m4 z4 z5 hc1 hc2 Z4 cz4 Z5 cz5 Z6 cz6 r2 b2 Z7 cz7 Z8 cz8 Z9 cz9 _ hq4 _ hS26 _ ?_)
    rintro _ a w8 ⟨rfl,hS69,hF⟩
    replace hS69:St w0 w8 [bk bp0 #[(.slice Ap0_0 lp0_0.length cp0_0),(.slice Ap0_1 lp0_1.length cp0_1),(.slice Z7 r2.2.2.1.length cz7),(.slice Z8 r2.2.2.2.1.length cz8),(.slice Z9 r2.2.2.2.2.1.length cz9),vI ((r2.2.2.2.2.2.1[0]?).getD 0),vI ((r2.2.2.2.2.2.1[1]?).getD 0),vI ((r2.2.2.2.2.2.1[2]?).getD 0),vI ((r2.2.2.2.2.2.1[3]?).getD 0),vI ((r2.2.2.2.2.2.1[4]?).getD 0),vI ((r2.2.2.2.2.2.1[5]?).getD 0),vI ((r2.2.2.2.2.2.1[6]?).getD 0),vI ((r2.2.2.2.2.2.1[7]?).getD 0),vI r2.2.2.2.2.2.2.1,vI r2.2.2.2.2.2.2.2] 86,ro Z3 cz3 96 r1.2.1,ro Ap0_0 cp0_0 29 lp0_0,ro Ap0_1 cp0_1 3 lp0_1,ro Z7 cz7 3 r2.2.2.1,ro Z8 cz8 101 r2.2.2.2.1,ro Z9 cz9 3 r2.2.2.2.2.1,Own.all LT]:=hS69
    refine hK12 [(0,pP bp0 0),(1,.slice A1 l1.length c1),(2,.slice A2 l2.length c2),(3,.slice A3 l3.length c3),(12,(.slice Z3 r1.2.1.length cz3)),(14,vI z1),(15,vI z2),(35,vI x4),(36,vI z3)] w8 ?_ a hF
    refine we_exit fun a hF=>hK8 _ _ ?_ a hF
    refine wr [(0,0),(1,0)]<|gb0 [0,1] [(36,vI (IntKind.i64.wrap (z3+1))),(101,vI (IntKind.i64.wrap (z3+1)))] ?_
    have hS77:=(((((((hS69.b 7).b 7).b 7).b 7).b 7).b 7).b 7).b 7
    obtain rfl:=si h
    exact ge_nil fun a hF=>hQ _ _ _ (Outs.again ⟨(.slice Z7 r2.2.2.1.length cz7),(.slice Z8 r2.2.2.2.1.length cz8),(.slice Z9 r2.2.2.2.2.1.length cz9),hS77,hF.weaken ea⟩)
   rw [hq4] at h
   simp only [] at h
   refine kp (ticked_p1 K w0 bp0 lp0_0 Ap0_0 cp0_0 lp0_1 Ap0_1 cp0_1 lp0_2 Ap0_2 cp0_2 lp0_3 Ap0_3 cp0_3 lp0_4 Ap0_4 cp0_4 sp0_5 sp0_13 sp0_14 l1 A1 c1 l2 A2 c2 l3 A3 c3 x4 LT hR1 hL1 hR2 hL2 hR3 hL3 r1 b1 Z1 cz1 Z2 cz2 Z3 cz3 z1 z2 z3 m1 m2 m3 m4 z4 z5 hc1 hc2 Z4 cz4 Z5 cz5 Z6 cz6 r2 b2 Z7 cz7 Z8 cz8 Z9 cz9 _ hq4 _ hS26 _ ?_)
   rintro _ a w1 ⟨_,rfl,hb⟩
   obtain rfl:=si h
   exact hQ _ _ _ (Outs.out nofun (Exits.on ⟨rfl,hb⟩))
  rw [if_neg hc2] at h
  refine wk 41 (z1==(r1.2.1.length:Int)) false (beq_eq_false_iff_ne.2 hc2)<|wf<|we_skip fun a hF=>hK9 _ _ ?_ a hF
  refine ws fun K17 hK17=>?_
  obtain ⟨Z10,cz10,rfl⟩:=hS.open 4 rfl
  obtain ⟨Z11,cz11,rfl⟩:=hS.open 5 rfl
  obtain ⟨Z12,cz12,rfl⟩:=hS.open 6 rfl
  rcases hq7:ticked.p2 lp0_0 lp0_1 r1 z1 m1 m2 m3 m4 z4 z5 with _ | (_ | rr2)
  ·rw [hq7] at h; cases h
  ·rw [hq7] at h
   simp only [] at h
   refine kp (ticked_p2 K w0 bp0 lp0_0 Ap0_0 cp0_0 lp0_1 Ap0_1 cp0_1 lp0_2 Ap0_2 cp0_2 lp0_3 Ap0_3 cp0_3 lp0_4 Ap0_4 cp0_4 sp0_5 sp0_13 sp0_14 l1 A1 c1 l2 A2 c2 l3 A3 c3 x4 LT hR1 hL1 hR2 hL2 hR3 hL3 r1 b1 Z1 cz1 Z2 cz2 Z3 cz3 z1 z2 z3 m1 m2 m3 m4 z4 z5 hc1 hc2 Z10 cz10 Z11 cz11 Z12 cz12 _ hq7 _ hS _ ?_)
   rintro _ a w11 ⟨rfl,hS121,hF⟩
   replace hS121:St w0 w11 [bk bp0 #[(.slice Ap0_0 lp0_0.length cp0_0),(.slice Ap0_1 lp0_1.length cp0_1),(.slice Z10 m1.length cz10),(.slice Z11 m2.length cz11),(.slice Z12 m3.length cz12),vI ((m4[0]?).getD 0),vI ((m4[1]?).getD 0),vI ((m4[2]?).getD 0),vI ((m4[3]?).getD 0),vI ((m4[4]?).getD 0),vI ((m4[5]?).getD 0),vI ((m4[6]?).getD 0),vI ((m4[7]?).getD 0),vI z4,vI z5] 86,ro Z3 cz3 96 r1.2.1,ro Ap0_0 cp0_0 29 lp0_0,ro Ap0_1 cp0_1 3 lp0_1,ro Z10 cz10 3 m1,ro Z11 cz11 101 m2,ro Z12 cz12 3 m3,Own.all LT]:=hS121
   refine hK17 [(0,pP bp0 0),(1,.slice A1 l1.length c1),(2,.slice A2 l2.length c2),(3,.slice A3 l3.length c3),(12,(.slice Z3 r1.2.1.length cz3)),(14,vI z1),(15,vI z2),(35,vI x4),(36,vI z3)] w11 ?_ a hF
   refine ws fun K21 hK21=>wr [(0,0),(1,2),(2,0),(3,0),(4,0),(5,1),(6,2),(7,0)]<|gb0 [0] [(71,pP bp0 0)] ?_
   rcases hq8:mach_Machine_Tick.f lp0_0 lp0_1 m1 m2 m3 m4 z4 z5 with _ | r3
   ·rw [hq8] at h; cases h
   rw [hq8] at h
   simp only [] at h
   have hS129:=((((((hS121.b 6).b 6).b 6).b 6).b 6).b 5).packN 6
   refine ge_call2 (m:=0) (d:=some 72) (f:=25) (args:=#[pP bp0 0]) (by kernel_rfl) (mach_Machine_Tick_ok bp0 lp0_0 Ap0_0 cp0_0 lp0_1 Ap0_1 cp0_1 m1 Z10 cz10 m2 Z11 cz11 m3 Z12 cz12 m4 z4 z5 _ _ _ hS129 _ hq8) ?_
   rintro _ w12 ⟨v13,v14,v15,rfl,hS128⟩
   refine ⟨_,rfl,?_⟩
   have hS130:=hS128.unpack [bk bp0 #[(.slice Ap0_0 lp0_0.length cp0_0),(.slice Ap0_1 lp0_1.length cp0_1),v13,v14,v15,vI ((r3.2.2.2.2.2.1[0]?).getD 0),vI ((r3.2.2.2.2.2.1[1]?).getD 0),vI ((r3.2.2.2.2.2.1[2]?).getD 0),vI ((r3.2.2.2.2.2.1[3]?).getD 0),vI ((r3.2.2.2.2.2.1[4]?).getD 0),vI ((r3.2.2.2.2.2.1[5]?).getD 0),vI ((r3.2.2.2.2.2.1[6]?).getD 0),vI ((r3.2.2.2.2.2.1[7]?).getD 0),vI r3.2.2.2.2.2.2.1,vI r3.2.2.2.2.2.2.2] 86,ro Ap0_0 cp0_0 29 lp0_0,ro Ap0_1 cp0_1 3 lp0_1,Own.of v13 3 r3.2.2.1,Own.of v14 101 r3.2.2.2.1,Own.of v15 3 r3.2.2.2.2.1]
   refine gb0 [2,3,4] [(74,.bool r3.2.1),(73,.agg #[vI r3.1.Op,vI r3.1.A,vI r3.1.B]),(70,.tuple #[.agg #[vI r3.1.Op,vI r3.1.A,vI r3.1.B],.bool r3.2.1])]<|gw (some 18) (.cells #[vI 0,vI 0,vI 0] 29) (fun b=>pP b 0) hS130 fun b3 w13 hx4 hS131=>?_
   refine gs b3 0 #[vI 0,vI 0,vI 0] 29 [vI r3.1.Op,vI r3.1.A,vI r3.1.B] hS131 fun w14 hS132=>?_
   have hS133:=hS132.nc #[vI r3.1.Op,vI r3.1.A,vI r3.1.B] rfl
   refine gb0 [7] [(19,.bool r3.2.1)]<|gn hK21<|ws fun K22 hK22=>wr [(0,0),(1,0),(2,0)]<|gb0 [0,1,2] [(15,vI (IntKind.i64.wrap (z2+1))),(76,vI (IntKind.i64.wrap (z2+1))),(75,vI z2)]<|gn hK22<|ws fun K23 hK23=>ws fun K24 hK24=>we_draws (by kernel_rfl) [(0,0),(1,0),(2,0),(3,0),(4,0),(5,0),(6,0),(7,0),(8,0),(9,0),(10,0),(11,0),(12,0),(13,0),(14,0),(15,0),(16,0),(17,0),(18,0),(19,0),(20,0)] (by kernel_rfl) ?_
   have hS134:=hS133.drew
   refine gb [0,1,2,3] [(80,vI z1),(79,(.slice Z3 r1.2.1.length cz3)),(78,.slice A1 l1.length c1),(77,.agg #[vI r3.1.Op,vI r3.1.A,vI r3.1.B])] [ld b3 0 (vI r3.1.Op),ld b3 1 (vI r3.1.A),ld b3 2 (vI r3.1.B)] ⟨hS134.c 0,hS134.c 0,hS134.c 0,trivial⟩ ?_
   by_cases hc9:0≤z1
   ·rw [if_pos hc9] at h
    rcases hx5:r1.2.1[(z1).toNat]? with _ | e2
    ·rw [hx5] at h; cases h
    rw [hx5] at h
    simp only [] at h
    refine gi 81 0 92 96 2 r1.2.1.length cz3 (.tmp 79) (.tmp 80) Z3 .i64 z1 ((z1).toNat) ((hS134.rdAt 7 rfl).eqSome (pos_of_get hx5)) (Int.toNat_of_nonneg hc9).symm (lt_of_get hx5) ?_
    refine gb [5,6] [(83,vI e2.At),(82,.pointer (some ⟨blkOf Z3,offOf Z3+(z1).toNat*2,none⟩))] [.loaded ⟨blkOf Z3,offOf Z3+((z1).toNat)*2,none⟩ (vI e2.At)] ⟨RdL.cell (j:=0) (hS134.rdAt 7 rfl) hx5 rfl,trivial⟩ ?_
    by_cases hc10:0≤e2.At
    ·rw [if_pos hc10] at h
     rcases hx6:l1[(e2.At).toNat]? with _ | e3
     ·rw [hx6] at h; cases h
     rw [hx6] at h
     simp only [] at h
     refine gi 84 0 22 29 3 l1.length c1 (.tmp 78) (.tmp 83) A1 .i64 e2.At ((e2.At).toNat) ((hS134.rd hR1).eqSome (pos_of_get hx6)) (Int.toNat_of_nonneg hc10).symm (lt_of_get hx6) ?_
     refine gb [8] [(85,.agg #[vI e3.Op,vI e3.A,vI e3.B])] [.loaded ⟨blkOf A1,offOf A1+((e2.At).toNat)*3,none⟩ (vI e3.Op),.loaded ⟨blkOf A1,offOf A1+((e2.At).toNat)*3+1,none⟩ (vI e3.A),.loaded ⟨blkOf A1,offOf A1+((e2.At).toNat)*3+2,none⟩ (vI e3.B)] ⟨RdL.cell (j:=0) (hS134.rd hR1) hx6 rfl,RdL.cell (j:=1) (hS134.rd hR1) hx6 rfl,RdL.cell (j:=2) (hS134.rd hR1) hx6 rfl,trivial⟩<|ge_eqs (d:=86) (ty:=4) (op:=.neq) (x:=(.tmp 77)) (y:=(.tmp 85)) (t:=29) (t2:=29) (xs:=#[vI r3.1.Op,vI r3.1.A,vI r3.1.B]) (ys:=#[vI e3.Op,vI e3.A,vI e3.B]) (r:=(SIns.eqb r3.1 e3)) (v:=!(SIns.eqb r3.1 e3)) (by kernel_rfl) (by kernel_rfl) (by kernel_rfl) (by kernel_rfl) (by kernel_rfl) rfl ?_
     refine gb0 [10] [(87,.bool (!(SIns.eqb r3.1 e3)))] ?_
     by_cases hc11:(SIns.eqb r3.1 e3)=true
     ·rw [if_pos hc11] at h
      refine gk 87 (!(SIns.eqb r3.1 e3)) false (congrArg (fun z=>!z) hc11)<|gb0 [11,12,13,14] [(91,vI z1),(90,(.slice Z3 r1.2.1.length cz3)),(89,vI (IntKind.i64.wrap (z2+1))),(88,.bool r3.2.1)]<|gi 92 0 92 96 2 r1.2.1.length cz3 (.tmp 90) (.tmp 91) Z3 .i64 z1 ((z1).toNat) ((hS134.rdAt 7 rfl).eqSome (pos_of_get hx5)) (Int.toNat_of_nonneg hc9).symm (lt_of_get hx5) ?_
      refine gb [16,17,18,19,20] [(97,.bool (r3.2.1 != ((IntKind.i64.wrap (z2+1))==e2.Ticks))),(96,.bool (r3.2.1 != ((IntKind.i64.wrap (z2+1))==e2.Ticks))),(95,.bool ((IntKind.i64.wrap (z2+1))==e2.Ticks)),(94,vI e2.Ticks),(93,.pointer (some ⟨blkOf Z3,offOf Z3+(z1).toNat*2+1,none⟩))] [.loaded ⟨blkOf Z3,offOf Z3+((z1).toNat)*2+1,none⟩ (vI e2.Ticks)] ⟨RdL.cell (j:=1) (hS134.rdAt 7 rfl) hx5 rfl,trivial⟩<|gn hK24 ?_
      by_cases hc12:r3.2.1=((IntKind.i64.wrap (z2+1))==e2.Ticks)
      ·rw [if_pos hc12] at h
       refine wk 97 (r3.2.1 != ((IntKind.i64.wrap (z2+1))==e2.Ticks)) false (bne_eq_false_iff_eq.2 hc12)<|wf<|we_skip fun a hF=>hK23 _ _ ?_ a hF
       refine ws fun K25 hK25=>wr [(0,0)]<|gb0 [0] [(98,.bool r3.2.1)]<|gn hK25 ?_
       by_cases hc13:r3.2.1=true
       ·rw [if_pos hc13] at h
        refine wk 98 r3.2.1 true hc13<|wt<|wr [(0,0),(1,0),(2,0),(3,0)]<|gb0 [0,1,2,3] [(15,vI 0),(14,vI (IntKind.i64.wrap (z1+1))),(100,vI (IntKind.i64.wrap (z1+1))),(99,vI z1)]<|gn hK8<|wr [(0,0),(1,0)]<|gb0 [0,1] [(36,vI (IntKind.i64.wrap (z3+1))),(101,vI (IntKind.i64.wrap (z3+1)))] ?_
        have hS143:=hS134.p [1,7,2,3,4,5,6,8] rfl
        obtain rfl:=si h
        exact ge_nil fun a hF=>hQ _ _ _ (Outs.again ⟨v13,v14,v15,hS143,hF.weaken ea⟩)
       rw [if_neg hc13] at h
       refine wk 98 r3.2.1 false (Bool.eq_false_iff.2 hc13)<|wf<|we_skip fun a hF=>hK8 _ _ ?_ a hF
       refine wr [(0,0),(1,0)]<|gb0 [0,1] [(36,vI (IntKind.i64.wrap (z3+1))),(101,vI (IntKind.i64.wrap (z3+1)))] ?_
       have hS152:=hS134.p [1,7,2,3,4,5,6,8] rfl
       obtain rfl:=si h
       exact ge_nil fun a hF=>hQ _ _ _ (Outs.again ⟨v13,v14,v15,hS152,hF.weaken ea⟩)
      rw [if_neg hc12] at h
      refine wk 97 (r3.2.1 != ((IntKind.i64.wrap (z2+1))==e2.Ticks)) true (bne_iff_ne.2 hc12)<|wt<|ws fun K26 hK26=>wr [(0,0)]<|gb0 [0] [(10,.bool false)]<|gn hK26 ?_
      have hS160:=hS134.p [1,2,3,4,5,6,8] rfl
      obtain rfl:=si h
      exact we_ret fun a hF=>hQ _ _ _ (Outs.out nofun (Exits.on ⟨rfl,(pr0 [.tmp 10] [.bool false] ⟨v13,v14,v15,rfl,hS160⟩) a hF⟩))
     rw [if_neg hc11] at h
     refine gk 87 (!(SIns.eqb r3.1 e3)) true (congrArg (fun z=>!z) (Bool.eq_false_iff.2 hc11))<|gb0 [11,12,13,14,15,16,17,18,19,20] [(97,.bool true),(96,undef),(95,undef),(94,undef),(93,undef),(92,undef),(91,undef),(90,undef),(89,undef),(88,undef)]<|gn hK24<|wt<|ws fun K27 hK27=>wr [(0,0)]<|gb0 [0] [(10,.bool false)]<|gn hK27 ?_
     have hS168:=hS134.p [1,2,3,4,5,6,8] rfl
     obtain rfl:=si h
     exact we_ret fun a hF=>hQ _ _ _ (Outs.out nofun (Exits.on ⟨rfl,(pr0 [.tmp 10] [.bool false] ⟨v13,v14,v15,rfl,hS168⟩) a hF⟩))
    rw [if_neg hc10] at h
    cases h
   rw [if_neg hc9] at h
   cases h
  rw [hq7] at h
  simp only [] at h
  refine kp (ticked_p2 K w0 bp0 lp0_0 Ap0_0 cp0_0 lp0_1 Ap0_1 cp0_1 lp0_2 Ap0_2 cp0_2 lp0_3 Ap0_3 cp0_3 lp0_4 Ap0_4 cp0_4 sp0_5 sp0_13 sp0_14 l1 A1 c1 l2 A2 c2 l3 A3 c3 x4 LT hR1 hL1 hR2 hL2 hR3 hL3 r1 b1 Z1 cz1 Z2 cz2 Z3 cz3 z1 z2 z3 m1 m2 m3 m4 z4 z5 hc1 hc2 Z10 cz10 Z11 cz11 Z12 cz12 _ hq7 _ hS _ ?_)
  rintro _ a w1 ⟨_,rfl,hb⟩
  obtain rfl:=si h
  exact hQ _ _ _ (Outs.out nofun (Exits.on ⟨rfl,hb⟩))
 rw [if_neg hc1] at h
 refine wk 37 (decide (z3<x4)) false (decide_eq_false hc1)<|wf ?_
 have hS176:=hS.p [0,2,3,4,5,6,7] rfl
 obtain rfl:=si h
 exact we_exit fun a hF=>hQ _ _ _ (Outs.out nofun (Exits.here ⟨v4,v5,v6,hS176,hF.weaken ea⟩))
theorem ticked_ok (K bp0:Nat) (lp0_0:List SIns) (Ap0_0:OA) (cp0_0:Nat) (lp0_1:List Int) (Ap0_1:OA) (cp0_1:Nat) (lp0_2:List Int) (Ap0_2:OA) (cp0_2:Nat) (lp0_3:List SPut) (Ap0_3:OA) (cp0_3:Nat) (lp0_4:List Int) (Ap0_4:OA) (cp0_4:Nat) (sp0_5:List Int) (sp0_13 sp0_14:Int) (l1:List SIns) (A1:OA) (c1:Nat) (l2:List Int) (A2:OA) (c2:Nat) (l3:List Int) (A3:OA) (c3:Nat) (x4:Int) (w0 wE:World) (LT:List Own) (hS:St w0 wE [bk bp0 #[(.slice Ap0_0 lp0_0.length cp0_0),(.slice Ap0_1 lp0_1.length cp0_1),(.slice Ap0_2 lp0_2.length cp0_2),(.slice Ap0_3 lp0_3.length cp0_3),(.slice Ap0_4 lp0_4.length cp0_4),vI ((sp0_5[0]?).getD 0),vI ((sp0_5[1]?).getD 0),vI ((sp0_5[2]?).getD 0),vI ((sp0_5[3]?).getD 0),vI ((sp0_5[4]?).getD 0),vI ((sp0_5[5]?).getD 0),vI ((sp0_5[6]?).getD 0),vI ((sp0_5[7]?).getD 0),vI sp0_13,vI sp0_14] 86,ro Ap0_0 cp0_0 29 lp0_0,ro Ap0_1 cp0_1 3 lp0_1,ro Ap0_2 cp0_2 3 lp0_2,ro Ap0_3 cp0_3 101 lp0_3,ro Ap0_4 cp0_4 3 lp0_4,Own.all LT]) (hR1:RdL w0 A1 l1) (hL1:l1.length≤c1) (hR2:RdL w0 A2 l2) (hL2:l2.length≤c2) (hR3:RdL w0 A3 l3) (hL3:l3.length≤c3) (r:Bool×(List Int)×(List SPut)×(List Int)×(List Int)×Int×Int) (h:ticked.f K lp0_0 lp0_1 lp0_2 lp0_3 lp0_4 sp0_5 sp0_13 sp0_14 l1 l2 l3 x4=some r) :
  Calls Tryd.prog 29 #[pP bp0 0,.slice A1 l1.length c1,.slice A2 l2.length c2,.slice A3 l3.length c3,vI x4] wE (ticked.Post w0 bp0 lp0_0 Ap0_0 cp0_0 lp0_1 Ap0_1 cp0_1 lp0_2 Ap0_2 cp0_2 lp0_3 Ap0_3 cp0_3 lp0_4 Ap0_4 cp0_4 sp0_5 sp0_13 sp0_14 l1 A1 c1 l2 A2 c2 l3 A3 c3 x4 LT r):=by
 unfold ticked.f at h
 refine calls_enter (n:=143) (args:=[pP bp0 0,.slice A1 l1.length c1,.slice A2 l2.length c2,.slice A3 l3.length c3,vI x4]) (fn:=Tryd.f29) rfl rfl rfl rfl ?_
 show WE _ _ _ _ [(0,pP bp0 0),(1,.slice A1 l1.length c1),(2,.slice A2 l2.length c2),(3,.slice A3 l3.length c3),(4,vI x4)] _
 refine ws fun K1 hK1=>wr [(0,0)]<|gb0 [0] [(10,.bool false)]<|gn hK1<|ws fun K2 hK2=>wr [(0,0),(1,0),(2,0),(3,0),(4,0),(5,1),(6,0),(7,0),(8,0),(9,0),(10,1),(11,2),(12,0),(13,0)] ?_
 rcases hq1:punctualref_Steps.f K l1 l2 l3 (IntKind.i64.wrap (x4+1)) with _ | r1
 ·rw [hq1] at h; cases h
 rw [hq1] at h
 simp only [] at h
 refine gb0 [0,1,2,3,4] [(30,vI (IntKind.i64.wrap (x4+1))),(29,vI x4),(28,.slice A3 l3.length c3),(27,.slice A2 l2.length c2),(26,.slice A1 l1.length c1)]<|ge_call (d:=some 31) (f:=45) (args:=#[.slice A1 l1.length c1,.slice A2 l2.length c2,.slice A3 l3.length c3,vI (IntKind.i64.wrap (x4+1))]) (by kernel_rfl) (punctualref_Steps_ok K l1 A1 c1 l2 A2 c2 l3 A3 c3 (IntKind.i64.wrap (x4+1)) _ (hS.rd hR1) hL1 (hS.rd hR2) hL2 (hS.rd hR3) hL3 _ hq1) ?_
 rintro _ w1 ⟨v1,v2,v3,rfl,hS1⟩
 refine ⟨_,rfl,hS1.below,?_⟩
 have hS2:=hS.call hS1
 refine gb0 [6,7,8,9] [(34,.bool r1.2.2),(33,v3),(32,.agg #[v1,v2,vI r1.1.Steps]),(25,.tuple #[.agg #[v1,v2,vI r1.1.Steps],v3,.bool r1.2.2])]<|gw (some 11) (.cells #[.slice none 0 0,.slice none 0 0,vI 0] 91) (fun b=>pP b 0) hS2 fun b1 w2 hx1 hS3=>?_
 obtain ⟨Z1,cz1,rfl⟩:=hS3.open 1 rfl
 obtain ⟨Z2,cz2,rfl⟩:=hS3.open 2 rfl
 refine gs b1 0 #[.slice none 0 0,.slice none 0 0,vI 0] 91 [(.slice Z1 r1.1.Vars.length cz1),(.slice Z2 r1.1.Puts.length cz2),vI r1.1.Steps] hS3 fun w3 hS4=>?_
 have hS5:=hS4.nc #[(.slice Z1 r1.1.Vars.length cz1),(.slice Z2 r1.1.Puts.length cz2),vI r1.1.Steps] rfl
 refine gb0 [12,13] [(13,.bool r1.2.2),(12,v3)]<|gn hK2<|ws fun K3 hK3=>wr [(0,0),(1,0)]<|gb0 [0,1] [(15,vI 0),(14,vI 0)]<|gn hK3<|ws fun K4 hK4=>ws fun K5 hK5=>wr [(0,0),(1,0)]<|gb0 [0,1] [(36,vI 0),(35,vI x4)]<|gn hK5<|we_block ?_
 obtain ⟨Z3,cz3,rfl⟩:=hS5.open 3 rfl
 have hS14:=hS5.p [4,3,5,6,7,8,9,10] rfl
 rcases hq9:iter (ticked.r0 lp0_0 lp0_1 l1 x4 r1) K (0,0,0,lp0_2,lp0_3,lp0_4,sp0_5,sp0_13,sp0_14) with _ | (⟨z9,m9,m10,m11,m12,z10,z11⟩ | rr3)
 ·rw [hq9] at h; cases h
 ·rw [hq9] at h
  simp only [] at h
  refine we_iter (A:=ticked.A0 w0 bp0 lp0_0 Ap0_0 cp0_0 lp0_1 Ap0_1 cp0_1 l1 A1 c1 l2 A2 c2 l3 A3 c3 x4 LT r1 Z3 cz3) (B:=ticked.B0 w0 bp0 lp0_0 Ap0_0 cp0_0 lp0_1 Ap0_1 cp0_1 lp0_2 Ap0_2 cp0_2 lp0_3 Ap0_3 cp0_3 lp0_4 Ap0_4 cp0_4 sp0_5 sp0_13 sp0_14 l1 A1 c1 l2 A2 c2 l3 A3 c3 x4 LT) hq9 (fun a hF=>⟨(.slice Ap0_2 lp0_2.length cp0_2),(.slice Ap0_3 lp0_3.length cp0_3),(.slice Ap0_4 lp0_4.length cp0_4),hS14,hF.weaken ea⟩) (fun s o hf a w hA Q hQ=>ticked_r0 K w0 bp0 lp0_0 Ap0_0 cp0_0 lp0_1 Ap0_1 cp0_1 lp0_2 Ap0_2 cp0_2 lp0_3 Ap0_3 cp0_3 lp0_4 Ap0_4 cp0_4 sp0_5 sp0_13 sp0_14 l1 A1 c1 l2 A2 c2 l3 A3 c3 x4 LT hR1 hL1 hR2 hL2 hR3 hL3 r1 b1 Z1 cz1 Z2 cz2 Z3 cz3 s o hf a w hA Q hQ) ?_
  rintro _ a w15 _ ⟨rfl,v16,v17,v18,hS177,hF⟩
  replace hS177:St w0 w15 [bk bp0 #[(.slice Ap0_0 lp0_0.length cp0_0),(.slice Ap0_1 lp0_1.length cp0_1),v16,v17,v18,vI ((m12[0]?).getD 0),vI ((m12[1]?).getD 0),vI ((m12[2]?).getD 0),vI ((m12[3]?).getD 0),vI ((m12[4]?).getD 0),vI ((m12[5]?).getD 0),vI ((m12[6]?).getD 0),vI ((m12[7]?).getD 0),vI z10,vI z11] 86,ro Ap0_0 cp0_0 29 lp0_0,ro Ap0_1 cp0_1 3 lp0_1,Own.of v16 3 m9,Own.of v17 101 m10,Own.of v18 3 m11,Own.all LT]:=hS177
  refine hK4 [(0,pP bp0 0),(1,.slice A1 l1.length c1),(2,.slice A2 l2.length c2),(3,.slice A3 l3.length c3),(14,vI z9)] w15 ?_ a hF
  refine ws fun K28 hK28=>wr [(0,0),(1,0),(2,0),(3,0),(4,1),(5,0),(6,0),(7,0),(8,0),(9,1),(10,2),(11,0),(12,0)] ?_
  rcases hq10:punctualref_Steps.f K l1 l2 l3 z9 with _ | r4
  ·rw [hq10] at h; cases h
  rw [hq10] at h
  simp only [] at h
  refine gb0 [0,1,2,3] [(106,vI z9),(105,.slice A3 l3.length c3),(104,.slice A2 l2.length c2),(103,.slice A1 l1.length c1)]<|ge_call (d:=some 107) (f:=45) (args:=#[.slice A1 l1.length c1,.slice A2 l2.length c2,.slice A3 l3.length c3,vI z9]) (by kernel_rfl) (punctualref_Steps_ok K l1 A1 c1 l2 A2 c2 l3 A3 c3 z9 _ (hS177.rd hR1) hL1 (hS177.rd hR2) hL2 (hS177.rd hR3) hL3 _ hq10) ?_
  rintro _ w16 ⟨v19,v20,v21,rfl,hS178⟩
  refine ⟨_,rfl,hS178.below,?_⟩
  have hS179:=hS177.call hS178
  refine gb0 [5,6,7,8] [(110,.bool r4.2.2),(109,v21),(108,.agg #[v19,v20,vI r4.1.Steps]),(102,.tuple #[.agg #[v19,v20,vI r4.1.Steps],v21,.bool r4.2.2])]<|gw (some 20) (.cells #[.slice none 0 0,.slice none 0 0,vI 0] 91) (fun b=>pP b 0) hS179 fun b4 w17 hx7 hS180=>?_
  obtain ⟨Z13,cz13,rfl⟩:=hS180.open 1 rfl
  obtain ⟨Z14,cz14,rfl⟩:=hS180.open 2 rfl
  refine gs b4 0 #[.slice none 0 0,.slice none 0 0,vI 0] 91 [(.slice Z13 r4.1.Vars.length cz13),(.slice Z14 r4.1.Puts.length cz14),vI r4.1.Steps] hS180 fun w18 hS181=>?_
  have hS182:=hS181.nc #[(.slice Z13 r4.1.Vars.length cz13),(.slice Z14 r4.1.Puts.length cz14),vI r4.1.Steps] rfl
  refine gb0 [11,12] [(22,.bool r4.2.2),(21,v21)]<|gn hK28<|ws fun K29 hK29=>wr [(0,0),(1,2),(2,0),(3,2),(4,0),(5,0)]<|gb0 [0] [(111,pP bp0 0)] ?_
  obtain ⟨Z15,cz15,rfl⟩:=hS182.open 7 rfl
  obtain ⟨Z16,cz16,rfl⟩:=hS182.open 8 rfl
  obtain ⟨Z17,cz17,rfl⟩:=hS182.open 9 rfl
  rcases hq11:mach_Machine_Vars.f lp0_0 lp0_1 m9 m10 m11 m12 z10 z11 with _ | r5
  ·rw [hq11] at h; cases h
  rw [hq11] at h
  simp only [] at h
  have hS190:=((((((hS182.b 9).b 9).b 9).b 9).b 9).b 9).packN 6
  refine ge_call2 (m:=0) (d:=some 112) (f:=46) (args:=#[pP bp0 0]) (by kernel_rfl) (mach_Machine_Vars_ok bp0 lp0_0 Ap0_0 cp0_0 lp0_1 Ap0_1 cp0_1 m9 Z15 cz15 m10 Z16 cz16 m11 Z17 cz17 m12 z10 z11 _ _ _ hS190 _ hq11) ?_
  rintro _ w19 ⟨v22,rfl,hS189⟩
  refine ⟨_,rfl,?_⟩
  have hS191:=hS189.unpack [Own.of v22 3 r5,bk bp0 #[(.slice Ap0_0 lp0_0.length cp0_0),(.slice Ap0_1 lp0_1.length cp0_1),(.slice Z15 m9.length cz15),(.slice Z16 m10.length cz16),(.slice Z17 m11.length cz17),vI ((m12[0]?).getD 0),vI ((m12[1]?).getD 0),vI ((m12[2]?).getD 0),vI ((m12[3]?).getD 0),vI ((m12[4]?).getD 0),vI ((m12[5]?).getD 0),vI ((m12[6]?).getD 0),vI ((m12[7]?).getD 0),vI z10,vI z11] 86,ro Ap0_0 cp0_0 29 lp0_0,ro Ap0_1 cp0_1 3 lp0_1,ro Z15 cz15 3 m9,ro Z16 cz16 101 m10,ro Z17 cz17 3 m11]
  refine gb0 [2] [(113,pP bp0 0)] ?_
  rcases hq12:mach_Machine_Puts.f lp0_0 lp0_1 m9 m10 m11 m12 z10 z11 with _ | r6
  ·rw [hq12] at h; cases h
  rw [hq12] at h
  simp only [] at h
  have hS199:=((((((hS191.b 6).b 6).b 6).b 6).b 6).b 6).packN 6
  refine ge_call2 (m:=0) (d:=some 114) (f:=47) (args:=#[pP bp0 0]) (by kernel_rfl) (mach_Machine_Puts_ok bp0 lp0_0 Ap0_0 cp0_0 lp0_1 Ap0_1 cp0_1 m9 Z15 cz15 m10 Z16 cz16 m11 Z17 cz17 m12 z10 z11 _ _ _ hS199 _ hq12) ?_
  rintro _ w20 ⟨v23,rfl,hS198⟩
  refine ⟨_,rfl,?_⟩
  have hS200:=hS198.unpack [Own.of v23 101 r6,bk bp0 #[(.slice Ap0_0 lp0_0.length cp0_0),(.slice Ap0_1 lp0_1.length cp0_1),(.slice Z15 m9.length cz15),(.slice Z16 m10.length cz16),(.slice Z17 m11.length cz17),vI ((m12[0]?).getD 0),vI ((m12[1]?).getD 0),vI ((m12[2]?).getD 0),vI ((m12[3]?).getD 0),vI ((m12[4]?).getD 0),vI ((m12[5]?).getD 0),vI ((m12[6]?).getD 0),vI ((m12[7]?).getD 0),vI z10,vI z11] 86,ro Ap0_0 cp0_0 29 lp0_0,ro Ap0_1 cp0_1 3 lp0_1,ro Z15 cz15 3 m9,ro Z16 cz16 101 m10,ro Z17 cz17 3 m11]
  refine gb0 [4,5] [(24,v23),(23,v22)]<|gn hK29<|ws fun K30 hK30=>ws fun K31 hK31=>wr [(0,0),(1,0),(2,0),(3,1),(4,0),(5,0),(6,0),(7,0),(8,0),(9,1),(10,0),(11,0)]<|gb [0,1,2] [(117,(.slice Z13 r4.1.Vars.length cz13)),(116,pP b4 0),(115,v22)] [ld b4 0 ((.slice Z13 r4.1.Vars.length cz13))] ⟨hS200.c 8,trivial⟩ ?_
  obtain ⟨Z18,cz18,rfl⟩:=hS200.open 7 rfl
  rcases hq13:punctualsame_Same_int.f K r5 r4.1.Vars with _ | r7
  ·rw [hq13] at h; cases h
  rw [hq13] at h
  simp only [] at h
  refine ge_call (d:=some 118) (f:=22) (args:=#[(.slice Z18 r5.length cz18),(.slice Z13 r4.1.Vars.length cz13)]) (by kernel_rfl) (punctualsame_Same_int_ok K r5 Z18 cz18 r4.1.Vars Z13 cz13 _ (hS200.rdAt 7 rfl) (hS200.capAt 7 rfl) (hS200.rdAt 9 rfl) (hS200.capAt 9 rfl) _ hq13) ?_
  rintro _ w21 ⟨rfl,hS201⟩
  refine ⟨_,rfl,hS201.below,?_⟩
  have hS202:=hS200.call hS201
  refine gb0 [4,5] [(120,.bool (!r7)),(119,.bool (!r7))] ?_
  by_cases hc14:r7=true
  ·rw [if_pos hc14] at h
   refine gk 120 (!r7) false (congrArg (fun z=>!z) hc14)<|gb [6,7,8] [(123,(.slice Z14 r4.1.Puts.length cz14)),(122,pP b4 1),(121,v23)] [ld b4 1 ((.slice Z14 r4.1.Puts.length cz14))] ⟨hS202.c 8,trivial⟩ ?_
   obtain ⟨Z19,cz19,rfl⟩:=hS202.open 0 rfl
   rcases hq14:punctualsame_Same_api_Put.f K r6 r4.1.Puts with _ | r8
   ·rw [hq14] at h; cases h
   rw [hq14] at h
   simp only [] at h
   refine ge_call (d:=some 124) (f:=48) (args:=#[(.slice Z19 r6.length cz19),(.slice Z14 r4.1.Puts.length cz14)]) (by kernel_rfl) (punctualsame_Same_api_Put_ok K r6 Z19 cz19 r4.1.Puts Z14 cz14 _ (hS202.rdAt 0 rfl) (hS202.capAt 0 rfl) (hS202.rdAt 10 rfl) (hS202.capAt 10 rfl) _ hq14) ?_
   rintro _ w22 ⟨rfl,hS203⟩
   refine ⟨_,rfl,hS203.below,?_⟩
   have hS204:=hS202.call hS203
   refine gb0 [10,11] [(126,.bool (!r8)),(125,.bool (!r8))]<|gn hK31 ?_
   by_cases hc15:r8=true
   ·rw [if_pos hc15] at h
    refine wk 126 (!r8) false (congrArg (fun z=>!z) hc15)<|wf<|we_skip fun a hF=>hK30 _ _ ?_ a hF
    refine ws fun K32 hK32=>wr [(0,0),(1,2)]<|gb0 [0] [(127,(.slice Z18 r5.length cz18))] ?_
    have hS205:=hS204.b 7
    refine ge_call2 (m:=0) (d:=some 128) (f:=23) (args:=#[.slice Z18 r5.length cz18]) (by kernel_rfl) (punctualsame_Spoil_int_ok _ _ Z18 r5.length cz18 _ hS205) ?_
    rintro _ w23 ⟨rfl,hS206⟩
    refine ⟨_,rfl,?_⟩
    refine gn hK32<|ws fun K33 hK33=>wr [(0,0),(1,2)]<|gb0 [0] [(129,(.slice Z19 r6.length cz19))]<|ge_call2 (m:=0) (d:=some 130) (f:=49) (args:=#[.slice Z19 r6.length cz19]) (by kernel_rfl) (punctualsame_Spoil_api_Put_ok _ _ Z19 r6.length cz19 _ hS206) ?_
    rintro _ w24 ⟨rfl,hS207⟩
    refine ⟨_,rfl,?_⟩
    refine gn hK33<|ws fun K34 hK34=>we_orders3 (by kernel_rfl) [(3,[⟨b4,0,none⟩],[4,5,6,7,8,9,10],[]),(9,[⟨b4,1,none⟩],[],[8,5,4,1])] (.vals [0] (.vals [2] (.vals [3] (.alt 1 2 (.alt 4 1 (.vals [5] (.vals [6] (.vals [8] (.vals [9] (.alt 7 2 (.alt 10 1 (.vals [11] (.vals [12] .fin)) .nomore) .nomore))))) .nomore) .nomore)))) (by kernel_rfl) (by kernel_rfl) ?_
    have hS208:=hS207.drew
    refine g30 [0,2] [(133,pP b4 0),(131,pP bp0 0)]<|g3 3 [(134,(.slice Z13 r4.1.Vars.length cz13))] [ld b4 0 ((.slice Z13 r4.1.Vars.length cz13))] ⟨hS208.c 6,trivial⟩<|go_alt3 (fun KK hKK=>?_) ?_
    ·have hS216:=((((((hS208.b 5).b 5).b 5).b 5).b 5).b 5).packN 6
     refine ge_call2 (m:=0) (d:=some 132) (f:=46) (args:=#[pP bp0 0]) (by kernel_rfl) (mach_Machine_Vars_ok bp0 lp0_0 Ap0_0 cp0_0 lp0_1 Ap0_1 cp0_1 m9 Z15 cz15 m10 Z16 cz16 m11 Z17 cz17 m12 z10 z11 _ _ _ hS216 _ hq11) ?_
     rintro _ w25 ⟨v24,rfl,hS215⟩
     refine ⟨_,rfl,?_⟩
     have hS217:=hS215.unpack [Own.of v24 3 r5,bk bp0 #[(.slice Ap0_0 lp0_0.length cp0_0),(.slice Ap0_1 lp0_1.length cp0_1),(.slice Z15 m9.length cz15),(.slice Z16 m10.length cz16),(.slice Z17 m11.length cz17),vI ((m12[0]?).getD 0),vI ((m12[1]?).getD 0),vI ((m12[2]?).getD 0),vI ((m12[3]?).getD 0),vI ((m12[4]?).getD 0),vI ((m12[5]?).getD 0),vI ((m12[6]?).getD 0),vI ((m12[7]?).getD 0),vI z10,vI z11] 86,ro Ap0_0 cp0_0 29 lp0_0,ro Ap0_1 cp0_1 3 lp0_1,ro Z15 cz15 3 m9,ro Z16 cz16 101 m10,ro Z17 cz17 3 m11]
     refine ge_nil fun a hF=>hKK _ _ (RS.of2 (l:=[ld b4 0 ((.slice Z13 r4.1.Vars.length cz13))]) (by kernel_rfl) ⟨hS208.c 6,trivial⟩ ⟨hS217.c 7,trivial⟩) ?_ a hF
     refine go_alt3 (fun KK hKK=>?_) ?_
     ·refine ge_one2 ?_
      obtain ⟨Z20,cz20,rfl⟩:=hS217.open 0 rfl
      refine ge_call (d:=some 135) (f:=22) (args:=#[(.slice Z20 r5.length cz20),(.slice Z13 r4.1.Vars.length cz13)]) (by kernel_rfl) (punctualsame_Same_int_ok K r5 Z20 cz20 r4.1.Vars Z13 cz13 _ (hS217.rdAt 0 rfl) (hS217.capAt 0 rfl) (hS217.rdAt 8 rfl) (hS217.capAt 8 rfl) _ hq13) ?_
      rintro _ w26 ⟨rfl,hS218⟩
      refine ⟨_,rfl,hS218.below,?_⟩
      have hS219:=hS217.call hS218
      refine g2 hKK<|g30 [5] [(136,.bool r7)]<|go3_known (t:=136) (b:=r7) (c:=true) (by kernel_rfl) hc14 ?_
      refine g30 [6,8] [(139,pP b4 1),(137,pP bp0 0)]<|g3 9 [(140,(.slice Z14 r4.1.Puts.length cz14))] [ld b4 1 ((.slice Z14 r4.1.Puts.length cz14))] ⟨hS219.c 7,trivial⟩<|go_alt3 (fun KK hKK=>?_) ?_
      ·have hS227:=((((((hS219.b 6).b 6).b 6).b 6).b 6).b 6).packN 6
       refine ge_call2 (m:=0) (d:=some 138) (f:=47) (args:=#[pP bp0 0]) (by kernel_rfl) (mach_Machine_Puts_ok bp0 lp0_0 Ap0_0 cp0_0 lp0_1 Ap0_1 cp0_1 m9 Z15 cz15 m10 Z16 cz16 m11 Z17 cz17 m12 z10 z11 _ _ _ hS227 _ hq12) ?_
       rintro _ w27 ⟨v25,rfl,hS226⟩
       refine ⟨_,rfl,?_⟩
       have hS228:=hS226.unpack [Own.of v25 101 r6,bk bp0 #[(.slice Ap0_0 lp0_0.length cp0_0),(.slice Ap0_1 lp0_1.length cp0_1),(.slice Z15 m9.length cz15),(.slice Z16 m10.length cz16),(.slice Z17 m11.length cz17),vI ((m12[0]?).getD 0),vI ((m12[1]?).getD 0),vI ((m12[2]?).getD 0),vI ((m12[3]?).getD 0),vI ((m12[4]?).getD 0),vI ((m12[5]?).getD 0),vI ((m12[6]?).getD 0),vI ((m12[7]?).getD 0),vI z10,vI z11] 86,ro Ap0_0 cp0_0 29 lp0_0,ro Ap0_1 cp0_1 3 lp0_1,ro Z15 cz15 3 m9,ro Z16 cz16 101 m10,ro Z17 cz17 3 m11]
       refine ge_nil fun a hF=>hKK _ _ (RS.of2 (l:=[ld b4 1 ((.slice Z14 r4.1.Puts.length cz14))]) (by kernel_rfl) ⟨hS219.c 7,trivial⟩ ⟨hS228.c 8,trivial⟩) ?_ a hF
       refine go_alt3 (fun KK hKK=>?_) ?_
       ·refine ge_one2 ?_
        obtain ⟨Z21,cz21,rfl⟩:=hS228.open 0 rfl
        refine ge_call (d:=some 141) (f:=48) (args:=#[(.slice Z21 r6.length cz21),(.slice Z14 r4.1.Puts.length cz14)]) (by kernel_rfl) (punctualsame_Same_api_Put_ok K r6 Z21 cz21 r4.1.Puts Z14 cz14 _ (hS228.rdAt 0 rfl) (hS228.capAt 0 rfl) (hS228.rdAt 10 rfl) (hS228.capAt 10 rfl) _ hq14) ?_
        rintro _ w28 ⟨rfl,hS229⟩
        refine ⟨_,rfl,hS229.below,?_⟩
        have hS230:=hS228.call hS229
        refine g2 hKK<|g30 [11,12] [(10,.bool r8),(142,.bool r8)]<|go_fin3 fun a hF=>hK34 _ _ ?_ a hF
        have hS238:=hS230.p [1,2,3,4,5,6,12] rfl
        obtain rfl:=si h
        exact we_ret (pr0 [.tmp 10] [.bool r8] ⟨(.slice Z15 m9.length cz15),(.slice Z16 m10.length cz16),(.slice Z17 m11.length cz17),rfl,hS238⟩)
       exact go_nomore3
      exact go_nomore3
     exact go_nomore3
    exact go_nomore3
   rw [if_neg hc15] at h
   refine wk 126 (!r8) true (congrArg (fun z=>!z) (Bool.eq_false_iff.2 hc15))<|wt<|ws fun K35 hK35=>wr [(0,0)]<|gb0 [0] [(10,.bool false)]<|gn hK35 ?_
   have hS246:=hS204.p [1,2,3,4,5,6,12] rfl
   obtain rfl:=si h
   exact we_ret (pr0 [.tmp 10] [.bool false] ⟨(.slice Z15 m9.length cz15),(.slice Z16 m10.length cz16),(.slice Z17 m11.length cz17),rfl,hS246⟩)
  rw [if_neg hc14] at h
  refine gk 120 (!r7) true (congrArg (fun z=>!z) (Bool.eq_false_iff.2 hc14))<|gb0 [6,7,8] [(123,undef),(122,undef),(121,undef)]<|ge_off rfl rfl rfl (by kernel_rfl) ?_
  refine gb0 [10,11] [(126,.bool true),(125,undef)]<|gn hK31<|wt<|ws fun K36 hK36=>wr [(0,0)]<|gb0 [0] [(10,.bool false)]<|gn hK36 ?_
  have hS254:=hS202.p [1,2,3,4,5,6,12] rfl
  obtain rfl:=si h
  exact we_ret (pr0 [.tmp 10] [.bool false] ⟨(.slice Z15 m9.length cz15),(.slice Z16 m10.length cz16),(.slice Z17 m11.length cz17),rfl,hS254⟩)
 rw [hq9] at h
 simp only [] at h
 refine we_iter (A:=ticked.A0 w0 bp0 lp0_0 Ap0_0 cp0_0 lp0_1 Ap0_1 cp0_1 l1 A1 c1 l2 A2 c2 l3 A3 c3 x4 LT r1 Z3 cz3) (B:=ticked.B0 w0 bp0 lp0_0 Ap0_0 cp0_0 lp0_1 Ap0_1 cp0_1 lp0_2 Ap0_2 cp0_2 lp0_3 Ap0_3 cp0_3 lp0_4 Ap0_4 cp0_4 sp0_5 sp0_13 sp0_14 l1 A1 c1 l2 A2 c2 l3 A3 c3 x4 LT) hq9 (fun a hF=>⟨(.slice Ap0_2 lp0_2.length cp0_2),(.slice Ap0_3 lp0_3.length cp0_3),(.slice Ap0_4 lp0_4.length cp0_4),hS14,hF.weaken ea⟩) (fun s o hf a w hA Q hQ=>ticked_r0 K w0 bp0 lp0_0 Ap0_0 cp0_0 lp0_1 Ap0_1 cp0_1 lp0_2 Ap0_2 cp0_2 lp0_3 Ap0_3 cp0_3 lp0_4 Ap0_4 cp0_4 sp0_5 sp0_13 sp0_14 l1 A1 c1 l2 A2 c2 l3 A3 c3 x4 LT hR1 hL1 hR2 hL2 hR3 hL3 r1 b1 Z1 cz1 Z2 cz2 Z3 cz3 s o hf a w hA Q hQ) ?_
 rintro _ a w1 _ ⟨rfl,hb⟩
 obtain rfl:=si h
 exact hb
end Go.Proofs.YtnckikjcjgmdlaaDoor.GV
