/- Walks of single functions, written by a program of this work. -/
import Derived.Test.YtnckikjcjgmdlaaDoorGWMachTicks5
namespace Go.Proofs.YtnckikjcjgmdlaaDoor.GV
open Go Go.RowKit
set_option linter.unusedVariables false
set_option linter.unusedSimpArgs false
set_option maxRecDepth 100000

/-! punctual/punctuallaw.MachTicks -/
abbrev MachTicks.Post (w0:World) (r:Bool) (e:Ending) (w:World):Prop:=e=.returned (.bool r)∧St w0 w []
def MachTicks.p0 (px1 : PMachine) : Option (Unit ⊕ Bool) :=
  match mach_Machine_Tick.f px1.m_image px1.m_in_ px1.m_vars px1.m_puts px1.m_stack px1.m_count px1.m_at_ px1.m_left with
  | none=>none
  | some r2 =>
   if (SIns.eqb r2.1 (⟨13,0,2⟩:SIns))=true then
    if r2.2.1=true then
     if (mach_Machine_At.f px1.m_image px1.m_in_ r2.2.2.1 r2.2.2.2.1 r2.2.2.2.2.1 r2.2.2.2.2.2.1 r2.2.2.2.2.2.2.1 r2.2.2.2.2.2.2.2)=1 then
      if (mach_Machine_Done.f px1.m_image px1.m_in_ r2.2.2.1 r2.2.2.2.1 r2.2.2.2.2.1 r2.2.2.2.2.2.1 r2.2.2.2.2.2.2.1 r2.2.2.2.2.2.2.2)=true then
       some (.inr false)
      else
       some (.inl ())
     else
      some (.inr false)
    else
     some (.inr false)
   else
    some (.inr false)
def MachTicks.p1 (l0 : List SIns) (x4 : Int) : Option (Unit ⊕ Bool) :=
  if (l0.length:Int) > 3000 then
   some (.inr true)
  else
   if x4<0 then
    some (.inr true)
   else
    if x4 > 3000 then
     some (.inr true)
    else
     some (.inl ())
def MachTicks.p2 (l1 : List Int) (l3 : List Int) (r3 : (Option PImage) × SFault) : Option ((Int × Int) ⊕ Bool) :=
  if r3.2.Code=0 then
   if (l1.length:Int)=8 then
    if (l3.length:Int)=4 then
     some (.inl (r3.2.Code,r3.2.At))
    else
     some (.inl ((punctualref_F.f 3 0).Code,(punctualref_F.f 3 0).At))
   else
    some (.inl ((punctualref_F.f 3 0).Code,(punctualref_F.f 3 0).At))
  else
   some (.inl (r3.2.Code,r3.2.At))
def MachTicks.p3 (z3 : Int) (z4 : Int) (r7 : (Option PMachine) × SFault) : Option (Unit ⊕ Bool) :=
  if (SFault.eqb r7.2 (⟨z3,z4⟩:SFault))=true then
   if false=(z3==0) then
    some (.inl ())
   else
    some (.inr false)
  else
   some (.inr false)
def MachTicks.p4 (l2 : List Int) (l3 : List Int) (r3 : (Option PImage) × SFault) : Option ((Int × Int) ⊕ Bool) :=
  if r3.2.Code=0 then
   if (l2.length:Int)=8 then
    if (l3.length:Int)=4 then
     some (.inl (r3.2.Code,r3.2.At))
    else
     some (.inl ((punctualref_F.f 3 0).Code,(punctualref_F.f 3 0).At))
   else
    some (.inl ((punctualref_F.f 3 0).Code,(punctualref_F.f 3 0).At))
  else
   some (.inl (r3.2.Code,r3.2.At))
def MachTicks.p5 (z7 : Int) (z8 : Int) (r11 : (Option PMachine) × SFault) : Option (Unit ⊕ Bool) :=
  if (SFault.eqb r11.2 (⟨z7,z8⟩:SFault))=true then
   if false=(z7==0) then
    some (.inl ())
   else
    some (.inr false)
  else
   some (.inr false)
def MachTicks.p6 (z7 : Int) (z8 : Int) (r11 : (Option PMachine) × SFault) : Option (Unit ⊕ Bool) :=
  if (SFault.eqb r11.2 (⟨z7,z8⟩:SFault))=true then
   if true=(z7==0) then
    some (.inl ())
   else
    some (.inr false)
  else
   some (.inr false)
def MachTicks.p7 (z3 : Int) (z4 : Int) (r7 : (Option PMachine) × SFault) : Option (Unit ⊕ Bool) :=
  if (SFault.eqb r7.2 (⟨z3,z4⟩:SFault))=true then
   if true=(z3==0) then
    some (.inl ())
   else
    some (.inr false)
  else
   some (.inr false)
def MachTicks.p8 (l2 : List Int) (l3 : List Int) (r3 : (Option PImage) × SFault) : Option ((Int × Int) ⊕ Bool) :=
  if r3.2.Code=0 then
   if (l2.length:Int)=8 then
    if (l3.length:Int)=4 then
     some (.inl (r3.2.Code,r3.2.At))
    else
     some (.inl ((punctualref_F.f 3 0).Code,(punctualref_F.f 3 0).At))
   else
    some (.inl ((punctualref_F.f 3 0).Code,(punctualref_F.f 3 0).At))
  else
   some (.inl (r3.2.Code,r3.2.At))
def MachTicks.p9 (z11 : Int) (z12 : Int) (r16 : (Option PMachine) × SFault) : Option (Unit ⊕ Bool) :=
  if (SFault.eqb r16.2 (⟨z11,z12⟩:SFault))=true then
   if false=(z11==0) then
    some (.inl ())
   else
    some (.inr false)
  else
   some (.inr false)
def MachTicks.p10 (z11 : Int) (z12 : Int) (r16 : (Option PMachine) × SFault) : Option (Unit ⊕ Bool) :=
  if (SFault.eqb r16.2 (⟨z11,z12⟩:SFault))=true then
   if true=(z11==0) then
    some (.inl ())
   else
    some (.inr false)
  else
   some (.inr false)
def MachTicks.f (K : Nat) (l0 : List SIns) (l1 : List Int) (l2 : List Int) (l3 : List Int) (x4 : Int) : Option Bool :=
 match mach_New.f K image.f (List.replicate 8 (0:Int)) ([5,0,0,0]:List Int) with
 | none=>none
 | some r1 =>
  match r1.1 with
  | none =>
   if r1.2.Code=0 then
    none
   else
    some false
  | some px1 =>
   if r1.2.Code=0 then
    match MachTicks.p0 px1 with
    | none=>none
    | some (.inl _) =>
     match MachTicks.p1 l0 x4 with
     | none=>none
     | some (.inl _) =>
      match punctualref_ReadImage.f K l0 with
      | none=>none
      | some r3 =>
       match MachTicks.p2 l1 l3 r3 with
       | none=>none
       | some (.inl (z3,z4)) =>
        match punctualsame_Lend_api_Ins.f l0 (⟨(-1),(-2),(-3)⟩:SIns) with
        | none=>none
        | some _ =>
         match punctualsame_Lend_int.f l1 (-9) with
         | none=>none
         | some _ =>
          match punctualsame_Lend_int.f l3 (-9) with
          | none=>none
          | some _ =>
           match mach_New.f K l0 l1 l3 with
           | none=>none
           | some r7 =>
            match r7.1 with
            | none =>
             match MachTicks.p3 z3 z4 r7 with
             | none=>none
             | some (.inl _) =>
              match MachTicks.p4 l2 l3 r3 with
              | none=>none
              | some (.inl (z7,z8)) =>
               match punctualsame_Lend_int.f l2 (-9) with
               | none=>none
               | some _ =>
                match mach_New.f K l0 l2 l3 with
                | none=>none
                | some r11 =>
                 match r11.1 with
                 | none =>
                  match MachTicks.p5 z7 z8 r11 with
                  | none=>none
                  | some (.inl _) =>
                   some true
                  | some (.inr rr1) =>
                   some rr1
                 | some px4 =>
                  match MachTicks.p6 z7 z8 r11 with
                  | none=>none
                  | some (.inl _) =>
                   match ticked.f K px4.m_image px4.m_in_ px4.m_vars px4.m_puts px4.m_stack px4.m_count px4.m_at_ px4.m_left l0 l2 l3 (IntKind.i64.wrap (Int.tdiv x4 2)) with
                   | none=>none
                   | some r12 =>
                    if r12.1=true then
                     some true
                    else
                     some false
                  | some (.inr rr2) =>
                   some rr2
              | some (.inr rr3) =>
               some rr3
             | some (.inr rr4) =>
              some rr4
            | some px3 =>
             match MachTicks.p7 z3 z4 r7 with
             | none=>none
             | some (.inl _) =>
              match MachTicks.p8 l2 l3 r3 with
              | none=>none
              | some (.inl (z11,z12)) =>
               match punctualsame_Lend_int.f l2 (-9) with
               | none=>none
               | some _ =>
                match mach_New.f K l0 l2 l3 with
                | none=>none
                | some r16 =>
                 match r16.1 with
                 | none =>
                  match MachTicks.p9 z11 z12 r16 with
                  | none=>none
                  | some (.inl _) =>
                   match ticked.f K px3.m_image px3.m_in_ px3.m_vars px3.m_puts px3.m_stack px3.m_count px3.m_at_ px3.m_left l0 l1 l3 (IntKind.i64.wrap (Int.tdiv x4 2)) with
                   | none=>none
                   | some r17 =>
                    if r17.1=true then
                     some true
                    else
                     some false
                  | some (.inr rr5) =>
                   some rr5
                 | some px5 =>
                  match MachTicks.p10 z11 z12 r16 with
                  | none=>none
                  | some (.inl _) =>
                   match ticked.f K px3.m_image px3.m_in_ px3.m_vars px3.m_puts px3.m_stack px3.m_count px3.m_at_ px3.m_left l0 l1 l3 (IntKind.i64.wrap (Int.tdiv x4 2)) with
                   | none=>none
                   | some r18 =>
                    if r18.1=true then
                     match ticked.f K px5.m_image px5.m_in_ px5.m_vars px5.m_puts px5.m_stack px5.m_count px5.m_at_ px5.m_left l0 l2 l3 (IntKind.i64.wrap (Int.tdiv x4 2)) with
                     | none=>none
                     | some r19 =>
                      if r19.1=true then
                       some true
                      else
                       some false
                    else
                     some false
                  | some (.inr rr6) =>
                   some rr6
              | some (.inr rr7) =>
               some rr7
             | some (.inr rr8) =>
              some rr8
       | some (.inr rr9) =>
        some rr9
     | some (.inr rr10) =>
      some rr10
    | some (.inr rr11) =>
     some rr11
   else
    some false
abbrev MachTicks.t1_0:Ord:=(.alt 9 2 .fin .nomore)
abbrev MachTicks.t1_1:Ord:=(.alt 3 1 (.vals [4] (.vals [5] (.vals [6] (.vals [8] MachTicks.t1_0)))) .nomore)
abbrev MachTicks.t1_2:Ord:=(.alt 0 1 MachTicks.t1_1 .nomore)
abbrev MachTicks.t1_3:Ord:=(.alt 1 1 MachTicks.t1_1 .nomore)
abbrev MachTicks.t1_4:Ord:=(.alt 0 1 MachTicks.t1_3 (.alt 1 1 MachTicks.t1_2 .nomore))
abbrev MachTicks.t1_5:Ord:=(.alt 2 1 MachTicks.t1_1 .nomore)
abbrev MachTicks.t1_6:Ord:=(.alt 0 1 MachTicks.t1_5 (.alt 2 1 MachTicks.t1_2 .nomore))
abbrev MachTicks.t1_7:Ord:=(.alt 1 1 MachTicks.t1_5 (.alt 2 1 MachTicks.t1_3 .nomore))
abbrev MachTicks.t1_8:Ord:=(.alt 3 1 (.vals [4] (.vals [5] (.vals [6] (.alt 7 1 (.vals [8] MachTicks.t1_0) .nomore)))) (.alt 7 1 MachTicks.t1_1 .nomore))
abbrev MachTicks.t1_9:Ord:=(.alt 0 1 MachTicks.t1_8 (.alt 7 1 MachTicks.t1_2 .nomore))
abbrev MachTicks.t1_10:Ord:=(.alt 1 1 MachTicks.t1_8 (.alt 7 1 MachTicks.t1_3 .nomore))
abbrev MachTicks.t1_11:Ord:=(.alt 2 1 MachTicks.t1_8 (.alt 7 1 MachTicks.t1_5 .nomore))
abbrev MachTicks.A0 (w0:World) (l0:List SIns) (A0:OA) (c0:Nat) (l1:List Int) (A1:OA) (c1:Nat) (l2:List Int) (A2:OA) (c2:Nat) (l3:List Int) (A3:OA) (c3:Nat) (x4:Int):Unit→Act→World→Prop:=fun (s:Unit) a w=>St w0 w []∧Frm 162 a [(0,.slice A0 l0.length c0),(1,.slice A1 l1.length c1),(2,.slice A2 l2.length c2),(3,.slice A3 l3.length c3),(4,vI x4)]
abbrev MachTicks.B0 (w0:World):Bool→Exit→Act→World→Prop:=Rets Tryd.prog Tryd.f6 (MachTicks.Post w0)
theorem MachTicks_p0 (K:Nat) (w0:World) (l0:List SIns) (A0:OA) (c0:Nat) (l1:List Int) (A1:OA) (c1:Nat) (l2:List Int) (A2:OA) (c2:Nat) (l3:List Int) (A3:OA) (c3:Nat) (x4:Int) (hR0:RdL w0 A0 l0) (hL0:l0.length≤c0) (hR1:RdL w0 A1 l1) (hL1:l1.length≤c1) (hR2:RdL w0 A2 l2) (hL2:l2.length≤c2) (hR3:RdL w0 A3 l3) (hL3:l3.length≤c3) (hG0:Glob w0 0 [vI (-1),vI (-2),vI (-3)]) (b1:Nat) (Z1:OA) (cz1:Nat) (Z2:OA) (cz2:Nat) (r1:(Option PMachine)×SFault) (px1:PMachine) (pb1 b3:Nat) (hc2:r1.2.Code=0) (Z3:OA) (cz3:Nat) (Z4:OA) (cz4:Nat) (Z5:OA) (cz5:Nat) (Z6:OA) (cz6:Nat) (Z7:OA) (cz7:Nat) (o:Unit ⊕ Bool) (h:MachTicks.p0 px1=some o) (w:World) (hS:St w0 w [bk b3 #[vI r1.2.Code,vI r1.2.At] 25,bk pb1 #[(.slice Z3 px1.m_image.length cz3),(.slice Z4 px1.m_in_.length cz4),(.slice Z5 px1.m_vars.length cz5),(.slice Z6 px1.m_puts.length cz6),(.slice Z7 px1.m_stack.length cz7),vI ((px1.m_count[0]?).getD 0),vI ((px1.m_count[1]?).getD 0),vI ((px1.m_count[2]?).getD 0),vI ((px1.m_count[3]?).getD 0),vI ((px1.m_count[4]?).getD 0),vI ((px1.m_count[5]?).getD 0),vI ((px1.m_count[6]?).getD 0),vI ((px1.m_count[7]?).getD 0),vI px1.m_at_,vI px1.m_left] 86,ro Z3 cz3 29 px1.m_image,ro Z4 cz4 3 px1.m_in_,ro Z5 cz5 3 px1.m_vars,ro Z6 cz6 101 px1.m_puts,ro Z7 cz7 3 px1.m_stack,bk b1 #[vI 5,vI 0,vI 0,vI 0] 3,ro Z2 cz2 3 (List.replicate 8 (0:Int)),ro Z1 cz1 29 image.f]) (Q:Exit→Act→World→Prop) (hQ:∀ x a w,Outs (MachTicks.A0 w0 l0 A0 c0 l1 A1 c1 l2 A2 c2 l3 A3 c3 x4) (MachTicks.B0 w0) o x a w→Q x a w):WE Tryd.prog 162 (subF Tryd.f6 [1,1,1,0]) Q [(0,.slice A0 l0.length c0),(1,.slice A1 l1.length c1),(2,.slice A2 l2.length c2),(3,.slice A3 l3.length c3),(4,vI x4),(10,.bool false),(11,pP pb1 0),(12,pP b3 0),(34,.agg #[vI r1.2.Code,vI r1.2.At]),(35,pP b3 0),(36,vI r1.2.Code),(37,.bool false)] w:=by
 simp only [MachTicks.p0] at h
 refine ws fun K11 hK11=>wr [(0,0),(1,2),(2,0),(3,0),(4,0),(5,1),(6,2),(7,0)]<|gb0 [0] [(39,pP pb1 0)] ?_
 rcases hq3:mach_Machine_Tick.f px1.m_image px1.m_in_ px1.m_vars px1.m_puts px1.m_stack px1.m_count px1.m_at_ px1.m_left with _ | r2
 ·rw [hq3] at h; cases h
 rw [hq3] at h
 simp only [] at h
 have hS32:=((((((hS.b 6).b 6).b 6).b 6).b 6).b 6).packN 6
 refine ge_call2 (m:=0) (d:=some 40) (f:=25) (args:=#[pP pb1 0]) (by kernel_rfl) (mach_Machine_Tick_ok pb1 px1.m_image Z3 cz3 px1.m_in_ Z4 cz4 px1.m_vars Z5 cz5 px1.m_puts Z6 cz6 px1.m_stack Z7 cz7 px1.m_count px1.m_at_ px1.m_left _ _ _ hS32 _ hq3) ?_
 rintro _ w9 ⟨v3,v4,v5,rfl,hS31⟩
 refine ⟨_,rfl,?_⟩
 have hS33:=hS31.unpack [bk pb1 #[(.slice Z3 px1.m_image.length cz3),(.slice Z4 px1.m_in_.length cz4),v3,v4,v5,vI ((r2.2.2.2.2.2.1[0]?).getD 0),vI ((r2.2.2.2.2.2.1[1]?).getD 0),vI ((r2.2.2.2.2.2.1[2]?).getD 0),vI ((r2.2.2.2.2.2.1[3]?).getD 0),vI ((r2.2.2.2.2.2.1[4]?).getD 0),vI ((r2.2.2.2.2.2.1[5]?).getD 0),vI ((r2.2.2.2.2.2.1[6]?).getD 0),vI ((r2.2.2.2.2.2.1[7]?).getD 0),vI r2.2.2.2.2.2.2.1,vI r2.2.2.2.2.2.2.2] 86,ro Z3 cz3 29 px1.m_image,ro Z4 cz4 3 px1.m_in_,Own.of v3 3 r2.2.2.1,Own.of v4 101 r2.2.2.2.1,Own.of v5 3 r2.2.2.2.2.1]
 refine gb0 [2,3,4] [(42,.bool r2.2.1),(41,.agg #[vI r2.1.Op,vI r2.1.A,vI r2.1.B]),(38,.tuple #[.agg #[vI r2.1.Op,vI r2.1.A,vI r2.1.B],.bool r2.2.1])]<|gw (some 13) (.cells #[vI 0,vI 0,vI 0] 29) (fun b=>pP b 0) hS33 fun b4 w10 hx4 hS34=>?_
 refine gs b4 0 #[vI 0,vI 0,vI 0] 29 [vI r2.1.Op,vI r2.1.A,vI r2.1.B] hS34 fun w11 hS35=>?_
 have hS36:=hS35.nc #[vI r2.1.Op,vI r2.1.A,vI r2.1.B] rfl
 refine gb0 [7] [(14,.bool r2.2.1)]<|gn hK11<|ws fun K12 hK12=>wr [(0,0),(1,0),(2,0),(3,0),(4,0),(5,0),(6,0),(7,0),(8,0),(9,2),(10,0),(11,0),(12,0),(13,0),(14,2),(15,0)]<|gb [0,1] [(44,.agg #[vI 13,vI 0,vI 2]),(43,.agg #[vI r2.1.Op,vI r2.1.A,vI r2.1.B])] [ld b4 0 (vI r2.1.Op),ld b4 1 (vI r2.1.A),ld b4 2 (vI r2.1.B)] ⟨hS36.c 0,hS36.c 0,hS36.c 0,trivial⟩<|ge_eqs (d:=45) (ty:=4) (op:=.neq) (x:=(.tmp 43)) (y:=(.tmp 44)) (t:=29) (t2:=29) (xs:=#[vI r2.1.Op,vI r2.1.A,vI r2.1.B]) (ys:=#[vI 13,vI 0,vI 2]) (r:=(SIns.eqb r2.1 (⟨13,0,2⟩:SIns))) (v:=!(SIns.eqb r2.1 (⟨13,0,2⟩:SIns))) (by kernel_rfl) (by kernel_rfl) (by kernel_rfl) (by kernel_rfl) (by kernel_rfl) rfl ?_
 refine gb0 [3] [(46,.bool (!(SIns.eqb r2.1 (⟨13,0,2⟩:SIns))))] ?_
 by_cases hc3:(SIns.eqb r2.1 (⟨13,0,2⟩:SIns))=true
 ·rw [if_pos hc3] at h
  refine gk 46 (!(SIns.eqb r2.1 (⟨13,0,2⟩:SIns))) false (congrArg (fun z=>!z) hc3)<|gb0 [4,5,6,7] [(50,.bool (!r2.2.1)),(49,.bool (!r2.2.1)),(48,.bool (!r2.2.1)),(47,.bool r2.2.1)] ?_
  by_cases hc4:r2.2.1=true
  ·rw [if_pos hc4] at h
   refine gk 50 (!r2.2.1) false (congrArg (fun z=>!z) hc4)<|gb0 [8] [(51,pP pb1 0)] ?_
   obtain ⟨Z8,cz8,rfl⟩:=hS36.open 4 rfl
   obtain ⟨Z9,cz9,rfl⟩:=hS36.open 5 rfl
   obtain ⟨Z10,cz10,rfl⟩:=hS36.open 6 rfl
   have hS44:=((((((hS36.b 6).b 6).b 6).b 6).b 6).b 6).packN 6
   refine ge_call2 (m:=0) (d:=some 52) (f:=26) (args:=#[pP pb1 0]) (by kernel_rfl) (mach_Machine_At_ok pb1 px1.m_image Z3 cz3 px1.m_in_ Z4 cz4 r2.2.2.1 Z8 cz8 r2.2.2.2.1 Z9 cz9 r2.2.2.2.2.1 Z10 cz10 r2.2.2.2.2.2.1 r2.2.2.2.2.2.2.1 r2.2.2.2.2.2.2.2 _ _ _ hS44 _ rfl) ?_
   rintro _ w12 ⟨rfl,hS43⟩
   refine ⟨_,rfl,?_⟩
   have hS45:=hS43.unpack [bk pb1 #[(.slice Z3 px1.m_image.length cz3),(.slice Z4 px1.m_in_.length cz4),(.slice Z8 r2.2.2.1.length cz8),(.slice Z9 r2.2.2.2.1.length cz9),(.slice Z10 r2.2.2.2.2.1.length cz10),vI ((r2.2.2.2.2.2.1[0]?).getD 0),vI ((r2.2.2.2.2.2.1[1]?).getD 0),vI ((r2.2.2.2.2.2.1[2]?).getD 0),vI ((r2.2.2.2.2.2.1[3]?).getD 0),vI ((r2.2.2.2.2.2.1[4]?).getD 0),vI ((r2.2.2.2.2.2.1[5]?).getD 0),vI ((r2.2.2.2.2.2.1[6]?).getD 0),vI ((r2.2.2.2.2.2.1[7]?).getD 0),vI r2.2.2.2.2.2.2.1,vI r2.2.2.2.2.2.2.2] 86,ro Z3 cz3 29 px1.m_image,ro Z4 cz4 3 px1.m_in_,ro Z8 cz8 3 r2.2.2.1,ro Z9 cz9 101 r2.2.2.2.1,ro Z10 cz10 3 r2.2.2.2.2.1]
   refine gb0 [10,11,12] [(55,.bool ((mach_Machine_At.f px1.m_image px1.m_in_ r2.2.2.1 r2.2.2.2.1 r2.2.2.2.2.1 r2.2.2.2.2.2.1 r2.2.2.2.2.2.2.1 r2.2.2.2.2.2.2.2) != 1)),(54,.bool ((mach_Machine_At.f px1.m_image px1.m_in_ r2.2.2.1 r2.2.2.2.1 r2.2.2.2.2.1 r2.2.2.2.2.2.1 r2.2.2.2.2.2.2.1 r2.2.2.2.2.2.2.2) != 1)),(53,.bool ((mach_Machine_At.f px1.m_image px1.m_in_ r2.2.2.1 r2.2.2.2.1 r2.2.2.2.2.1 r2.2.2.2.2.2.1 r2.2.2.2.2.2.2.1 r2.2.2.2.2.2.2.2) != 1))] ?_
   by_cases hc5:(mach_Machine_At.f px1.m_image px1.m_in_ r2.2.2.1 r2.2.2.2.1 r2.2.2.2.2.1 r2.2.2.2.2.2.1 r2.2.2.2.2.2.2.1 r2.2.2.2.2.2.2.2)=1
   ·rw [if_pos hc5] at h
    refine gk 55 ((mach_Machine_At.f px1.m_image px1.m_in_ r2.2.2.1 r2.2.2.2.1 r2.2.2.2.2.1 r2.2.2.2.2.2.1 r2.2.2.2.2.2.2.1 r2.2.2.2.2.2.2.2) != 1) false (bne_eq_false_iff_eq.2 hc5)<|gb0 [13] [(56,pP pb1 0)] ?_
    have hS53:=((((((hS45.b 5).b 5).b 5).b 5).b 5).b 5).packN 6
    refine ge_call2 (m:=0) (d:=some 57) (f:=27) (args:=#[pP pb1 0]) (by kernel_rfl) (mach_Machine_Done_ok pb1 px1.m_image Z3 cz3 px1.m_in_ Z4 cz4 r2.2.2.1 Z8 cz8 r2.2.2.2.1 Z9 cz9 r2.2.2.2.2.1 Z10 cz10 r2.2.2.2.2.2.1 r2.2.2.2.2.2.2.1 r2.2.2.2.2.2.2.2 _ _ _ hS53 _ rfl) ?_
    rintro _ w13 ⟨rfl,hS52⟩
    refine ⟨_,rfl,?_⟩
    have hS54:=hS52.unpack [bk pb1 #[(.slice Z3 px1.m_image.length cz3),(.slice Z4 px1.m_in_.length cz4),(.slice Z8 r2.2.2.1.length cz8),(.slice Z9 r2.2.2.2.1.length cz9),(.slice Z10 r2.2.2.2.2.1.length cz10),vI ((r2.2.2.2.2.2.1[0]?).getD 0),vI ((r2.2.2.2.2.2.1[1]?).getD 0),vI ((r2.2.2.2.2.2.1[2]?).getD 0),vI ((r2.2.2.2.2.2.1[3]?).getD 0),vI ((r2.2.2.2.2.2.1[4]?).getD 0),vI ((r2.2.2.2.2.2.1[5]?).getD 0),vI ((r2.2.2.2.2.2.1[6]?).getD 0),vI ((r2.2.2.2.2.2.1[7]?).getD 0),vI r2.2.2.2.2.2.2.1,vI r2.2.2.2.2.2.2.2] 86,ro Z3 cz3 29 px1.m_image,ro Z4 cz4 3 px1.m_in_,ro Z8 cz8 3 r2.2.2.1,ro Z9 cz9 101 r2.2.2.2.1,ro Z10 cz10 3 r2.2.2.2.2.1]
    refine gb0 [15] [(58,.bool (mach_Machine_Done.f px1.m_image px1.m_in_ r2.2.2.1 r2.2.2.2.1 r2.2.2.2.2.1 r2.2.2.2.2.2.1 r2.2.2.2.2.2.2.1 r2.2.2.2.2.2.2.2))]<|gn hK12 ?_
    by_cases hc6:(mach_Machine_Done.f px1.m_image px1.m_in_ r2.2.2.1 r2.2.2.2.1 r2.2.2.2.2.1 r2.2.2.2.2.2.1 r2.2.2.2.2.2.2.1 r2.2.2.2.2.2.2.2)=true
    ·rw [if_pos hc6] at h
     refine wk 58 (mach_Machine_Done.f px1.m_image px1.m_in_ r2.2.2.1 r2.2.2.2.1 r2.2.2.2.2.1 r2.2.2.2.2.2.1 r2.2.2.2.2.2.2.1 r2.2.2.2.2.2.2.2) true hc6<|wt<|ws fun K13 hK13=>wr [(0,0)]<|gb0 [0] [(10,.bool false)]<|gn hK13 ?_
     have hS55:=hS54.takeN 0
     obtain rfl:=si h
     exact rq hQ fun a hF=>⟨rfl,(pr0 [.tmp 10] [.bool false] ⟨rfl,hS55⟩) a hF⟩
    rw [if_neg hc6] at h
    refine wk 58 (mach_Machine_Done.f px1.m_image px1.m_in_ r2.2.2.1 r2.2.2.2.1 r2.2.2.2.2.1 r2.2.2.2.2.2.1 r2.2.2.2.2.2.2.1 r2.2.2.2.2.2.2.2) false (Bool.eq_false_iff.2 hc6)<|wf ?_
    have hS56:=hS54.takeN 0
    obtain rfl:=si h
    exact we_skip fun a hF=>hQ _ _ _ (Outs.again ⟨hS56,hF.weaken ea⟩)
   rw [if_neg hc5] at h
   refine gk 55 ((mach_Machine_At.f px1.m_image px1.m_in_ r2.2.2.1 r2.2.2.2.1 r2.2.2.2.2.1 r2.2.2.2.2.2.1 r2.2.2.2.2.2.2.1 r2.2.2.2.2.2.2.2) != 1) true (bne_iff_ne.2 hc5)<|gb0 [13] [(56,undef)]<|ge_off rfl rfl rfl (by kernel_rfl) ?_
   refine gb0 [15] [(58,.bool true)]<|gn hK12<|wt<|ws fun K14 hK14=>wr [(0,0)]<|gb0 [0] [(10,.bool false)]<|gn hK14 ?_
   have hS57:=hS45.takeN 0
   obtain rfl:=si h
   exact rq hQ fun a hF=>⟨rfl,(pr0 [.tmp 10] [.bool false] ⟨rfl,hS57⟩) a hF⟩
  rw [if_neg hc4] at h
  refine gk 50 (!r2.2.1) true (congrArg (fun z=>!z) (Bool.eq_false_iff.2 hc4))<|gb0 [8] [(51,undef)]<|ge_off rfl rfl rfl (by kernel_rfl) ?_
  refine gb0 [10,11,12,13] [(56,undef),(55,.bool true),(54,.bool true),(53,undef)]<|ge_off rfl rfl rfl (by kernel_rfl) ?_
  refine gb0 [15] [(58,.bool true)]<|gn hK12<|wt<|ws fun K15 hK15=>wr [(0,0)]<|gb0 [0] [(10,.bool false)]<|gn hK15 ?_
  have hS58:=hS36.takeN 0
  obtain rfl:=si h
  exact rq hQ fun a hF=>⟨rfl,(pr0 [.tmp 10] [.bool false] ⟨rfl,hS58⟩) a hF⟩
 rw [if_neg hc3] at h
 refine gk 46 (!(SIns.eqb r2.1 (⟨13,0,2⟩:SIns))) true (congrArg (fun z=>!z) (Bool.eq_false_iff.2 hc3))<|gb0 [4,5,6,7,8] [(51,undef),(50,.bool true),(49,.bool true),(48,undef),(47,undef)]<|ge_off rfl rfl rfl (by kernel_rfl) ?_
 refine gb0 [10,11,12,13] [(56,undef),(55,.bool true),(54,.bool true),(53,undef)]<|ge_off rfl rfl rfl (by kernel_rfl) ?_
 refine gb0 [15] [(58,.bool true)]<|gn hK12<|wt<|ws fun K16 hK16=>wr [(0,0)]<|gb0 [0] [(10,.bool false)]<|gn hK16 ?_
 have hS59:=hS36.takeN 0
 obtain rfl:=si h
 exact rq hQ fun a hF=>⟨rfl,(pr0 [.tmp 10] [.bool false] ⟨rfl,hS59⟩) a hF⟩
abbrev MachTicks.A1 (w0:World) (l0:List SIns) (A0:OA) (c0:Nat) (l1:List Int) (A1:OA) (c1:Nat) (l2:List Int) (A2:OA) (c2:Nat) (l3:List Int) (A3:OA) (c3:Nat) (x4:Int):Unit→Act→World→Prop:=fun (s:Unit) a w=>St w0 w []∧Frm 162 a [(0,.slice A0 l0.length c0),(1,.slice A1 l1.length c1),(2,.slice A2 l2.length c2),(3,.slice A3 l3.length c3),(4,vI x4)]
abbrev MachTicks.B1 (w0:World):Bool→Exit→Act→World→Prop:=Rets Tryd.prog Tryd.f6 (MachTicks.Post w0)
theorem MachTicks_p1 (K:Nat) (w0:World) (l0:List SIns) (A0:OA) (c0:Nat) (l1:List Int) (A1:OA) (c1:Nat) (l2:List Int) (A2:OA) (c2:Nat) (l3:List Int) (A3:OA) (c3:Nat) (x4:Int) (hR0:RdL w0 A0 l0) (hL0:l0.length≤c0) (hR1:RdL w0 A1 l1) (hL1:l1.length≤c1) (hR2:RdL w0 A2 l2) (hL2:l2.length≤c2) (hR3:RdL w0 A3 l3) (hL3:l3.length≤c3) (hG0:Glob w0 0 [vI (-1),vI (-2),vI (-3)]) (b1:Nat) (Z1:OA) (cz1:Nat) (Z2:OA) (cz2:Nat) (r1:(Option PMachine)×SFault) (px1:PMachine) (pb1 b3:Nat) (hc2:r1.2.Code=0) (Z3:OA) (cz3:Nat) (Z4:OA) (cz4:Nat) (Z5:OA) (cz5:Nat) (Z6:OA) (cz6:Nat) (Z7:OA) (cz7:Nat) (o:Unit ⊕ Bool) (h:MachTicks.p1 l0 x4=some o) (w:World) (hS:St w0 w []) (Q:Exit→Act→World→Prop) (hQ:∀ x a w,Outs (MachTicks.A1 w0 l0 A0 c0 l1 A1 c1 l2 A2 c2 l3 A3 c3 x4) (MachTicks.B1 w0) o x a w→Q x a w):WE Tryd.prog 162 (subF Tryd.f6 [1,1,1,1,0]) Q [(0,.slice A0 l0.length c0),(1,.slice A1 l1.length c1),(2,.slice A2 l2.length c2),(3,.slice A3 l3.length c3),(4,vI x4)] w:=by
 simp only [MachTicks.p1] at h
 refine ws fun K18 hK18=>wr [(0,0),(1,0),(2,0),(3,0),(4,0),(5,0),(6,0),(7,0),(8,0),(9,0),(10,0)]<|gb0 [0,1,2,3] [(62,.bool (decide ((l0.length:Int) > 3000))),(61,.bool (decide ((l0.length:Int) > 3000))),(60,vI (l0.length:Int)),(59,.slice A0 l0.length c0)] ?_
 by_cases hc7:(l0.length:Int) > 3000
 ·rw [if_pos hc7] at h
  refine gk 62 (decide ((l0.length:Int) > 3000)) true (decide_eq_true hc7)<|gb0 [4,5,6,7,8,9,10] [(69,.bool true),(68,undef),(67,undef),(66,.bool true),(65,.bool true),(64,undef),(63,undef)]<|gn hK18<|wt<|ws fun K19 hK19=>wr [(0,0)]<|gb0 [0] [(10,.bool true)]<|gn hK19 ?_
  obtain rfl:=si h
  exact rq hQ fun a hF=>⟨rfl,(pr0 [.tmp 10] [.bool true] ⟨rfl,hS⟩) a hF⟩
 rw [if_neg hc7] at h
 refine gk 62 (decide ((l0.length:Int) > 3000)) false (decide_eq_false hc7)<|gb0 [4,5,6,7] [(66,.bool (decide (x4<0))),(65,.bool (decide (x4<0))),(64,.bool (decide (x4<0))),(63,vI x4)] ?_
 by_cases hc8:x4<0
 ·rw [if_pos hc8] at h
  refine gk 66 (decide (x4<0)) true (decide_eq_true hc8)<|gb0 [8,9,10] [(69,.bool true),(68,undef),(67,undef)]<|gn hK18<|wt<|ws fun K20 hK20=>wr [(0,0)]<|gb0 [0] [(10,.bool true)]<|gn hK20 ?_
  obtain rfl:=si h
  exact rq hQ fun a hF=>⟨rfl,(pr0 [.tmp 10] [.bool true] ⟨rfl,hS⟩) a hF⟩
 rw [if_neg hc8] at h
 refine gk 66 (decide (x4<0)) false (decide_eq_false hc8)<|gb0 [8,9,10] [(69,.bool (decide (x4 > 3000))),(68,.bool (decide (x4 > 3000))),(67,vI x4)]<|gn hK18 ?_
 by_cases hc9:x4 > 3000
 ·rw [if_pos hc9] at h
  refine wk 69 (decide (x4 > 3000)) true (decide_eq_true hc9)<|wt<|ws fun K21 hK21=>wr [(0,0)]<|gb0 [0] [(10,.bool true)]<|gn hK21 ?_
  obtain rfl:=si h
  exact rq hQ fun a hF=>⟨rfl,(pr0 [.tmp 10] [.bool true] ⟨rfl,hS⟩) a hF⟩
 rw [if_neg hc9] at h
 refine wk 69 (decide (x4 > 3000)) false (decide_eq_false hc9)<|wf ?_
 obtain rfl:=si h
 exact we_skip fun a hF=>hQ _ _ _ (Outs.again ⟨hS,hF.weaken ea⟩)
abbrev MachTicks.A2 (w0:World) (l0:List SIns) (A0:OA) (c0:Nat) (l1:List Int) (A1:OA) (c1:Nat) (l2:List Int) (A2:OA) (c2:Nat) (l3:List Int) (A3:OA) (c3:Nat) (x4:Int) (r3:(Option PImage)×SFault) (b5 b6 b7:Nat):(Int×Int)→Act→World→Prop:=fun (s:Int×Int) a w=>St w0 w [bk b7 #[vI s.1,vI s.2] 25,bk b6 #[.slice A1 l1.length c1,.slice A2 l2.length c2] 37,bk b5 #[vI r3.2.Code,vI r3.2.At] 25]∧Frm 162 a [(0,.slice A0 l0.length c0),(1,.slice A1 l1.length c1),(2,.slice A2 l2.length c2),(3,.slice A3 l3.length c3),(4,vI x4),(16,pP b5 0),(17,.slice none 0 0),(19,.slice A1 l1.length c1),(20,pP b7 0),(77,.slice (some ⟨b6,0,none⟩) 2 2),(78,vI 2),(79,vI 0)]
abbrev MachTicks.B2 (w0:World):Bool→Exit→Act→World→Prop:=Rets Tryd.prog Tryd.f6 (MachTicks.Post w0)
theorem MachTicks_p2 (K:Nat) (w0:World) (l0:List SIns) (A0:OA) (c0:Nat) (l1:List Int) (A1:OA) (c1:Nat) (l2:List Int) (A2:OA) (c2:Nat) (l3:List Int) (A3:OA) (c3:Nat) (x4:Int) (hR0:RdL w0 A0 l0) (hL0:l0.length≤c0) (hR1:RdL w0 A1 l1) (hL1:l1.length≤c1) (hR2:RdL w0 A2 l2) (hL2:l2.length≤c2) (hR3:RdL w0 A3 l3) (hL3:l3.length≤c3) (hG0:Glob w0 0 [vI (-1),vI (-2),vI (-3)]) (b1:Nat) (Z1:OA) (cz1:Nat) (Z2:OA) (cz2:Nat) (r1:(Option PMachine)×SFault) (px1:PMachine) (pb1 b3:Nat) (hc2:r1.2.Code=0) (Z3:OA) (cz3:Nat) (Z4:OA) (cz4:Nat) (Z5:OA) (cz5:Nat) (Z6:OA) (cz6:Nat) (Z7:OA) (cz7:Nat) (r3:(Option PImage)×SFault) (v6:Value) (b5 b6 b7:Nat) (o:(Int×Int) ⊕ Bool) (h:MachTicks.p2 l1 l3 r3=some o) (w:World) (hS:St w0 w [bk b7 #[vI r3.2.Code,vI r3.2.At] 25,bk b6 #[.slice A1 l1.length c1,.slice A2 l2.length c2] 37,bk b5 #[vI r3.2.Code,vI r3.2.At] 25]) (Q:Exit→Act→World→Prop) (hQ:∀ x a w,Outs (MachTicks.A2 w0 l0 A0 c0 l1 A1 c1 l2 A2 c2 l3 A3 c3 x4 r3 b5 b6 b7) (MachTicks.B2 w0) o x a w→Q x a w):WE Tryd.prog 162 (subF Tryd.f6 [1,1,1,1,1,1,1,0,1,0,0,1,1,0,0,1,1,0]) Q [(0,.slice A0 l0.length c0),(1,.slice A1 l1.length c1),(2,.slice A2 l2.length c2),(3,.slice A3 l3.length c3),(4,vI x4),(15,v6),(16,pP b5 0),(17,.slice none 0 0),(19,.slice A1 l1.length c1),(20,pP b7 0),(70,.tuple #[v6,.agg #[vI r3.2.Code,vI r3.2.At]]),(71,.slice A0 l0.length c0),(72,.tuple #[v6,.agg #[vI r3.2.Code,vI r3.2.At]]),(73,v6),(74,.agg #[vI r3.2.Code,vI r3.2.At]),(75,.slice A1 l1.length c1),(76,.slice A2 l2.length c2),(77,.slice (some ⟨b6,0,none⟩) 2 2),(78,vI 2),(79,vI 0),(80,.bool true),(81,pP b6 0),(82,.slice A1 l1.length c1),(83,.agg #[vI r3.2.Code,vI r3.2.At])] w:=by
 simp only [MachTicks.p2] at h
 refine ws fun K33 hK33=>wr [(0,0),(1,0),(2,0),(3,0),(4,0),(5,0),(6,0),(7,0),(8,0),(9,0),(10,0),(11,0),(12,0)]<|gb [0,1,2,3] [(87,.bool (r3.2.Code==0)),(86,.bool (r3.2.Code==0)),(85,vI r3.2.Code),(84,pP b7 0)] [ld b7 0 (vI r3.2.Code)] ⟨hS.c 0,trivial⟩ ?_
 by_cases hc10:r3.2.Code=0
 ·rw [if_pos hc10] at h
  refine gk 87 (r3.2.Code==0) true (beq_iff_eq.2 hc10)<|gb0 [4,5,6,7] [(91,.bool ((l1.length:Int) != 8)),(90,.bool ((l1.length:Int) != 8)),(89,vI (l1.length:Int)),(88,.slice A1 l1.length c1)] ?_
  by_cases hc11:(l1.length:Int)=8
  ·rw [if_pos hc11] at h
   refine gk 91 ((l1.length:Int) != 8) false (bne_eq_false_iff_eq.2 hc11)<|gb0 [8,9,10,11,12] [(96,.bool ((l3.length:Int) != 4)),(95,.bool ((l3.length:Int) != 4)),(94,.bool ((l3.length:Int) != 4)),(93,vI (l3.length:Int)),(92,.slice A3 l3.length c3)]<|gn hK33 ?_
   by_cases hc12:(l3.length:Int)=4
   ·rw [if_pos hc12] at h
    refine wk 96 ((l3.length:Int) != 4) false (bne_eq_false_iff_eq.2 hc12)<|wf ?_
    have hS74:=((hS.b 2).b 2).b 2
    obtain rfl:=si h
    exact we_skip fun a hF=>hQ _ _ _ (Outs.again ⟨hS74,hF.weaken ea⟩)
   rw [if_neg hc12] at h
   refine wk 96 ((l3.length:Int) != 4) true (bne_iff_ne.2 hc12)<|wt<|wr [(0,1),(1,2)]<|ge_call (d:=some 97) (f:=9) (args:=#[vI 3,vI 0]) (by kernel_rfl) (punctualref_F_ok 3 0 _ _ rfl) ?_
   rintro _ w22 ⟨rfl,hS75⟩
   refine ⟨_,rfl,hS75.below,?_⟩
   have hS76:=hS.call hS75
   refine gs b7 0 #[vI r3.2.Code,vI r3.2.At] 25 [vI ((punctualref_F.f 3 0).Code),vI ((punctualref_F.f 3 0).At)] hS76 fun w23 hS77=>?_
   have hS81:=(((hS77.nc #[vI ((punctualref_F.f 3 0).Code),vI ((punctualref_F.f 3 0).At)] rfl).b 2).b 2).b 2
   obtain rfl:=si h
   exact ge_nil fun a hF=>hQ _ _ _ (Outs.again ⟨hS81,hF.weaken ea⟩)
  rw [if_neg hc11] at h
  refine gk 91 ((l1.length:Int) != 8) true (bne_iff_ne.2 hc11)<|gb0 [8,9,10,11,12] [(96,.bool true),(95,.bool true),(94,undef),(93,undef),(92,undef)]<|gn hK33<|wt<|wr [(0,1),(1,2)]<|ge_call (d:=some 97) (f:=9) (args:=#[vI 3,vI 0]) (by kernel_rfl) (punctualref_F_ok 3 0 _ _ rfl) ?_
  rintro _ w24 ⟨rfl,hS82⟩
  refine ⟨_,rfl,hS82.below,?_⟩
  have hS83:=hS.call hS82
  refine gs b7 0 #[vI r3.2.Code,vI r3.2.At] 25 [vI ((punctualref_F.f 3 0).Code),vI ((punctualref_F.f 3 0).At)] hS83 fun w25 hS84=>?_
  have hS88:=(((hS84.nc #[vI ((punctualref_F.f 3 0).Code),vI ((punctualref_F.f 3 0).At)] rfl).b 2).b 2).b 2
  obtain rfl:=si h
  exact ge_nil fun a hF=>hQ _ _ _ (Outs.again ⟨hS88,hF.weaken ea⟩)
 rw [if_neg hc10] at h
 refine gk 87 (r3.2.Code==0) false (beq_eq_false_iff_ne.2 hc10)<|gb0 [4,5,6,7,8,9,10,11,12] [(96,.bool false),(95,undef),(94,undef),(93,undef),(92,undef),(91,undef),(90,undef),(89,undef),(88,undef)]<|gn hK33<|wf ?_
 have hS91:=((hS.b 2).b 2).b 2
 obtain rfl:=si h
 exact we_skip fun a hF=>hQ _ _ _ (Outs.again ⟨hS91,hF.weaken ea⟩)
abbrev MachTicks.A3 (w0:World) (l0:List SIns) (A0:OA) (c0:Nat) (l1:List Int) (A1:OA) (c1:Nat) (l2:List Int) (A2:OA) (c2:Nat) (l3:List Int) (A3:OA) (c3:Nat) (x4:Int) (r3:(Option PImage)×SFault) (b5 b6:Nat):Unit→Act→World→Prop:=fun (s:Unit) a w=>St w0 w [bk b6 #[.slice A1 l1.length c1,.slice A2 l2.length c2] 37,bk b5 #[vI r3.2.Code,vI r3.2.At] 25]∧Frm 162 a [(0,.slice A0 l0.length c0),(1,.slice A1 l1.length c1),(2,.slice A2 l2.length c2),(3,.slice A3 l3.length c3),(4,vI x4),(16,pP b5 0),(17,.slice none 0 0),(24,.pointer none),(77,.slice (some ⟨b6,0,none⟩) 2 2),(78,vI 2),(79,vI 0)]
abbrev MachTicks.B3 (w0:World):Bool→Exit→Act→World→Prop:=Rets Tryd.prog Tryd.f6 (MachTicks.Post w0)
theorem MachTicks_p3 (K:Nat) (w0:World) (l0:List SIns) (A0:OA) (c0:Nat) (l1:List Int) (A1:OA) (c1:Nat) (l2:List Int) (A2:OA) (c2:Nat) (l3:List Int) (A3:OA) (c3:Nat) (x4:Int) (hR0:RdL w0 A0 l0) (hL0:l0.length≤c0) (hR1:RdL w0 A1 l1) (hL1:l1.length≤c1) (hR2:RdL w0 A2 l2) (hL2:l2.length≤c2) (hR3:RdL w0 A3 l3) (hL3:l3.length≤c3) (hG0:Glob w0 0 [vI (-1),vI (-2),vI (-3)]) (b1:Nat) (Z1:OA) (cz1:Nat) (Z2:OA) (cz2:Nat) (r1:(Option PMachine)×SFault) (px1:PMachine) (pb1 b3:Nat) (hc2:r1.2.Code=0) (Z3:OA) (cz3:Nat) (Z4:OA) (cz4:Nat) (Z5:OA) (cz5:Nat) (Z6:OA) (cz6:Nat) (Z7:OA) (cz7:Nat) (r3:(Option PImage)×SFault) (v6:Value) (b5 b6 b7:Nat) (z3 z4:Int) (Z11:OA) (cz11:Nat) (hcp1:(l0++[(⟨(-1),(-2),(-3)⟩:SIns),(⟨(-1),(-2),(-3)⟩:SIns),(⟨(-1),(-2),(-3)⟩:SIns)]).length≤cz11) (Z12:OA) (cz12:Nat) (hcp2:(l1++[(-9),(-9),(-9)]).length≤cz12) (Z13:OA) (cz13:Nat) (hcp3:(l3++[(-9),(-9),(-9)]).length≤cz13) (r7:(Option PMachine)×SFault) (b8:Nat) (o:Unit ⊕ Bool) (h:MachTicks.p3 z3 z4 r7=some o) (w:World) (hS:St w0 w [bk b8 #[vI r7.2.Code,vI r7.2.At] 25,bk b7 #[vI z3,vI z4] 25,bk b6 #[.slice A1 l1.length c1,.slice A2 l2.length c2] 37,bk b5 #[vI r3.2.Code,vI r3.2.At] 25]) (Q:Exit→Act→World→Prop) (hQ:∀ x a w,Outs (MachTicks.A3 w0 l0 A0 c0 l1 A1 c1 l2 A2 c2 l3 A3 c3 x4 r3 b5 b6) (MachTicks.B3 w0) o x a w→Q x a w):WE Tryd.prog 162 (subF Tryd.f6 [1,1,1,1,1,1,1,0,1,0,0,1,1,0,0,1,1,1,1,1,1,1,1,0]) Q ((0,.slice A0 l0.length c0)::(1,.slice A1 l1.length c1)::(2,.slice A2 l2.length c2)::(3,.slice A3 l3.length c3)::(4,vI x4)::(16,pP b5 0)::(17,.slice none 0 0)::(19,.slice A1 l1.length c1)::(20,pP b7 0)::(21,.slice Z11 l0.length cz11)::(22,.slice Z12 l1.length cz12)::(23,.slice Z13 l3.length cz13)::(24,.pointer none)::(25,pP b8 0)::(77,.slice (some ⟨b6,0,none⟩) 2 2)::(78,vI 2)::(79,vI 0)::(98,.slice A0 l0.length c0)::(99,.agg #[vI (-1),vI (-2),vI (-3)])::(100,.slice Z11 l0.length cz11)::(101,.slice A1 l1.length c1)::(102,.slice Z12 l1.length cz12)::(103,.slice A3 l3.length c3)::(104,.slice Z13 l3.length cz13)::(105,.tuple #[.pointer none,.agg #[vI r7.2.Code,vI r7.2.At]])::(106,.slice Z11 l0.length cz11)::(107,.slice Z12 l1.length cz12)::(108,.slice Z13 l3.length cz13)::(109,.tuple #[.pointer none,.agg #[vI r7.2.Code,vI r7.2.At]])::(110,.pointer none)::(111,.agg #[vI r7.2.Code,vI r7.2.At])::(112,.slice Z11 l0.length cz11)::(113,.tuple #[])::(114,.slice Z12 l1.length cz12)::(115,.tuple #[])::(116,.slice Z13 l3.length cz13)::(117,.tuple #[])::[]) w:=by
 simp only [MachTicks.p3] at h
 refine ws fun K40 hK40=>wr [(0,0),(1,0),(2,0),(3,0),(4,0),(5,0),(6,0),(7,0),(8,0),(9,0),(10,0)]<|gb [0,1] [(119,.agg #[vI z3,vI z4]),(118,.agg #[vI r7.2.Code,vI r7.2.At])] [ld b8 0 (vI r7.2.Code),ld b8 1 (vI r7.2.At),ld b7 0 (vI z3),ld b7 1 (vI z4)] ⟨hS.c 0,hS.c 0,hS.c 1,hS.c 1,trivial⟩<|ge_eqs (d:=120) (ty:=4) (op:=.neq) (x:=(.tmp 118)) (y:=(.tmp 119)) (t:=25) (t2:=25) (xs:=#[vI r7.2.Code,vI r7.2.At]) (ys:=#[vI z3,vI z4]) (r:=(SFault.eqb r7.2 (⟨z3,z4⟩:SFault))) (v:=!(SFault.eqb r7.2 (⟨z3,z4⟩:SFault))) (by kernel_rfl) (by kernel_rfl) (by kernel_rfl) (by kernel_rfl) (by kernel_rfl) rfl ?_
 refine gb0 [3] [(121,.bool (!(SFault.eqb r7.2 (⟨z3,z4⟩:SFault))))] ?_
 by_cases hc13:(SFault.eqb r7.2 (⟨z3,z4⟩:SFault))=true
 ·rw [if_pos hc13] at h
  refine gk 121 (!(SFault.eqb r7.2 (⟨z3,z4⟩:SFault))) false (congrArg (fun z=>!z) hc13)<|gb [4,5,6,7,8,9,10] [(128,.bool (false != (z3==0))),(127,.bool (false != (z3==0))),(126,.bool (z3==0)),(125,vI z3),(124,pP b7 0),(123,.bool false),(122,.pointer none)] [ld b7 0 (vI z3)] ⟨hS.c 1,trivial⟩<|gn hK40 ?_
  by_cases hc14:false=(z3==0)
  ·rw [if_pos hc14] at h
   refine wk 128 (false != (z3==0)) false (bne_eq_false_iff_eq.2 hc14)<|wf ?_
   have hS115:=hS.p [2,3] rfl
   obtain rfl:=si h
   exact we_skip fun a hF=>hQ _ _ _ (Outs.again ⟨hS115,hF.weaken ea⟩)
  rw [if_neg hc14] at h
  refine wk 128 (false != (z3==0)) true (bne_iff_ne.2 hc14)<|wt<|ws fun K41 hK41=>wr [(0,0)]<|gb0 [0] [(10,.bool false)]<|gn hK41 ?_
  have hS116:=hS.takeN 0
  obtain rfl:=si h
  exact rq hQ fun a hF=>⟨rfl,(pr0 [.tmp 10] [.bool false] ⟨rfl,hS116⟩) a hF⟩
 rw [if_neg hc13] at h
 refine gk 121 (!(SFault.eqb r7.2 (⟨z3,z4⟩:SFault))) true (congrArg (fun z=>!z) (Bool.eq_false_iff.2 hc13))<|gb0 [4,5,6,7,8,9,10] [(128,.bool true),(127,undef),(126,undef),(125,undef),(124,undef),(123,undef),(122,undef)]<|gn hK40<|wt<|ws fun K42 hK42=>wr [(0,0)]<|gb0 [0] [(10,.bool false)]<|gn hK42 ?_
 have hS117:=hS.takeN 0
 obtain rfl:=si h
 exact rq hQ fun a hF=>⟨rfl,(pr0 [.tmp 10] [.bool false] ⟨rfl,hS117⟩) a hF⟩
abbrev MachTicks.A4 (w0:World) (l0:List SIns) (A0:OA) (c0:Nat) (l1:List Int) (A1:OA) (c1:Nat) (l2:List Int) (A2:OA) (c2:Nat) (l3:List Int) (A3:OA) (c3:Nat) (x4:Int) (r3:(Option PImage)×SFault) (b5 b6:Nat) (Z14:OA) (cz14 b10:Nat):(Int×Int)→Act→World→Prop:=fun (s:Int×Int) a w=>St w0 w [bk b10 #[vI s.1,vI s.2] 25,bk b6 #[.slice A1 l1.length c1,.slice A2 l2.length c2] 37,bk b5 #[vI r3.2.Code,vI r3.2.At] 25,ro Z14 cz14 51 ([⟨none⟩]:List Pt)]∧Frm 162 a [(0,.slice A0 l0.length c0),(1,.slice A1 l1.length c1),(2,.slice A2 l2.length c2),(3,.slice A3 l3.length c3),(4,vI x4),(16,pP b5 0),(17,(.slice Z14 ([⟨none⟩]:List Pt).length cz14)),(19,.slice A2 l2.length c2),(20,pP b10 0),(77,.slice (some ⟨b6,0,none⟩) 2 2),(78,vI 2),(79,vI 1)]
abbrev MachTicks.B4 (w0:World):Bool→Exit→Act→World→Prop:=Rets Tryd.prog Tryd.f6 (MachTicks.Post w0)
theorem MachTicks_p4 (K:Nat) (w0:World) (l0:List SIns) (A0:OA) (c0:Nat) (l1:List Int) (A1:OA) (c1:Nat) (l2:List Int) (A2:OA) (c2:Nat) (l3:List Int) (A3:OA) (c3:Nat) (x4:Int) (hR0:RdL w0 A0 l0) (hL0:l0.length≤c0) (hR1:RdL w0 A1 l1) (hL1:l1.length≤c1) (hR2:RdL w0 A2 l2) (hL2:l2.length≤c2) (hR3:RdL w0 A3 l3) (hL3:l3.length≤c3) (hG0:Glob w0 0 [vI (-1),vI (-2),vI (-3)]) (b1:Nat) (Z1:OA) (cz1:Nat) (Z2:OA) (cz2:Nat) (r1:(Option PMachine)×SFault) (px1:PMachine) (pb1 b3:Nat) (hc2:r1.2.Code=0) (Z3:OA) (cz3:Nat) (Z4:OA) (cz4:Nat) (Z5:OA) (cz5:Nat) (Z6:OA) (cz6:Nat) (Z7:OA) (cz7:Nat) (r3:(Option PImage)×SFault) (v6:Value) (b5 b6 b7:Nat) (z3 z4:Int) (Z11:OA) (cz11:Nat) (hcp1:(l0++[(⟨(-1),(-2),(-3)⟩:SIns),(⟨(-1),(-2),(-3)⟩:SIns),(⟨(-1),(-2),(-3)⟩:SIns)]).length≤cz11) (Z12:OA) (cz12:Nat) (hcp2:(l1++[(-9),(-9),(-9)]).length≤cz12) (Z13:OA) (cz13:Nat) (hcp3:(l3++[(-9),(-9),(-9)]).length≤cz13) (r7:(Option PMachine)×SFault) (b8 b9:Nat) (Z14:OA) (cz14 b10:Nat) (o:(Int×Int) ⊕ Bool) (h:MachTicks.p4 l2 l3 r3=some o) (w:World) (hS:St w0 w [bk b10 #[vI r3.2.Code,vI r3.2.At] 25,ro Z14 cz14 51 ([⟨none⟩]:List Pt),bk b6 #[.slice A1 l1.length c1,.slice A2 l2.length c2] 37,bk b5 #[vI r3.2.Code,vI r3.2.At] 25]) (Q:Exit→Act→World→Prop) (hQ:∀ x a w,Outs (MachTicks.A4 w0 l0 A0 c0 l1 A1 c1 l2 A2 c2 l3 A3 c3 x4 r3 b5 b6 Z14 cz14 b10) (MachTicks.B4 w0) o x a w→Q x a w):WE Tryd.prog 162 (subF Tryd.f6 [1,1,1,1,1,1,1,0,1,0,0,1,1,0,0,1,1,0]) Q [(0,.slice A0 l0.length c0),(1,.slice A1 l1.length c1),(2,.slice A2 l2.length c2),(3,.slice A3 l3.length c3),(4,vI x4),(16,pP b5 0),(17,(.slice Z14 ([⟨none⟩]:List Pt).length cz14)),(19,.slice A2 l2.length c2),(20,pP b10 0),(24,.pointer none),(77,.slice (some ⟨b6,0,none⟩) 2 2),(78,vI 2),(79,vI 1),(80,.bool true),(81,pP b6 1),(82,.slice A2 l2.length c2),(83,.agg #[vI r3.2.Code,vI r3.2.At]),(129,.slice none 0 0),(130,.pointer none),(131,.slice (some ⟨b9,0,none⟩) 1 1),(132,(.slice Z14 ([⟨none⟩]:List Pt).length cz14)),(133,vI 1)] w:=by
 simp only [MachTicks.p4] at h
 refine ws fun K50 hK50=>wr [(0,0),(1,0),(2,0),(3,0),(4,0),(5,0),(6,0),(7,0),(8,0),(9,0),(10,0),(11,0),(12,0)]<|gb [0,1,2,3] [(87,.bool (r3.2.Code==0)),(86,.bool (r3.2.Code==0)),(85,vI r3.2.Code),(84,pP b10 0)] [ld b10 0 (vI r3.2.Code)] ⟨hS.c 0,trivial⟩ ?_
 by_cases hc15:r3.2.Code=0
 ·rw [if_pos hc15] at h
  refine gk 87 (r3.2.Code==0) true (beq_iff_eq.2 hc15)<|gb0 [4,5,6,7] [(91,.bool ((l2.length:Int) != 8)),(90,.bool ((l2.length:Int) != 8)),(89,vI (l2.length:Int)),(88,.slice A2 l2.length c2)] ?_
  by_cases hc16:(l2.length:Int)=8
  ·rw [if_pos hc16] at h
   refine gk 91 ((l2.length:Int) != 8) false (bne_eq_false_iff_eq.2 hc16)<|gb0 [8,9,10,11,12] [(96,.bool ((l3.length:Int) != 4)),(95,.bool ((l3.length:Int) != 4)),(94,.bool ((l3.length:Int) != 4)),(93,vI (l3.length:Int)),(92,.slice A3 l3.length c3)]<|gn hK50 ?_
   by_cases hc17:(l3.length:Int)=4
   ·rw [if_pos hc17] at h
    refine wk 96 ((l3.length:Int) != 4) false (bne_eq_false_iff_eq.2 hc17)<|wf ?_
    have hS130:=(((hS.b 1).b 3).b 3).b 3
    obtain rfl:=si h
    exact we_skip fun a hF=>hQ _ _ _ (Outs.again ⟨hS130,hF.weaken ea⟩)
   rw [if_neg hc17] at h
   refine wk 96 ((l3.length:Int) != 4) true (bne_iff_ne.2 hc17)<|wt<|wr [(0,1),(1,2)]<|ge_call (d:=some 97) (f:=9) (args:=#[vI 3,vI 0]) (by kernel_rfl) (punctualref_F_ok 3 0 _ _ rfl) ?_
   rintro _ w41 ⟨rfl,hS131⟩
   refine ⟨_,rfl,hS131.below,?_⟩
   have hS132:=hS.call hS131
   refine gs b10 0 #[vI r3.2.Code,vI r3.2.At] 25 [vI ((punctualref_F.f 3 0).Code),vI ((punctualref_F.f 3 0).At)] hS132 fun w42 hS133=>?_
   have hS138:=((((hS133.nc #[vI ((punctualref_F.f 3 0).Code),vI ((punctualref_F.f 3 0).At)] rfl).b 1).b 3).b 3).b 3
   obtain rfl:=si h
   exact ge_nil fun a hF=>hQ _ _ _ (Outs.again ⟨hS138,hF.weaken ea⟩)
  rw [if_neg hc16] at h
  refine gk 91 ((l2.length:Int) != 8) true (bne_iff_ne.2 hc16)<|gb0 [8,9,10,11,12] [(96,.bool true),(95,.bool true),(94,undef),(93,undef),(92,undef)]<|gn hK50<|wt<|wr [(0,1),(1,2)]<|ge_call (d:=some 97) (f:=9) (args:=#[vI 3,vI 0]) (by kernel_rfl) (punctualref_F_ok 3 0 _ _ rfl) ?_
  rintro _ w43 ⟨rfl,hS139⟩
  refine ⟨_,rfl,hS139.below,?_⟩
  have hS140:=hS.call hS139
  refine gs b10 0 #[vI r3.2.Code,vI r3.2.At] 25 [vI ((punctualref_F.f 3 0).Code),vI ((punctualref_F.f 3 0).At)] hS140 fun w44 hS141=>?_
  have hS146:=((((hS141.nc #[vI ((punctualref_F.f 3 0).Code),vI ((punctualref_F.f 3 0).At)] rfl).b 1).b 3).b 3).b 3
  obtain rfl:=si h
  exact ge_nil fun a hF=>hQ _ _ _ (Outs.again ⟨hS146,hF.weaken ea⟩)
 rw [if_neg hc15] at h
 refine gk 87 (r3.2.Code==0) false (beq_eq_false_iff_ne.2 hc15)<|gb0 [4,5,6,7,8,9,10,11,12] [(96,.bool false),(95,undef),(94,undef),(93,undef),(92,undef),(91,undef),(90,undef),(89,undef),(88,undef)]<|gn hK50<|wf ?_
 have hS150:=(((hS.b 1).b 3).b 3).b 3
 obtain rfl:=si h
 exact we_skip fun a hF=>hQ _ _ _ (Outs.again ⟨hS150,hF.weaken ea⟩)
abbrev MachTicks.A5 (w0:World) (l0:List SIns) (A0:OA) (c0:Nat) (l1:List Int) (A1:OA) (c1:Nat) (l2:List Int) (A2:OA) (c2:Nat) (l3:List Int) (A3:OA) (c3:Nat) (x4:Int) (r3:(Option PImage)×SFault) (b5 b6:Nat) (Z14:OA) (cz14:Nat):Unit→Act→World→Prop:=fun (s:Unit) a w=>St w0 w [bk b6 #[.slice A1 l1.length c1,.slice A2 l2.length c2] 37,bk b5 #[vI r3.2.Code,vI r3.2.At] 25,ro Z14 cz14 51 ([⟨none⟩]:List Pt)]∧Frm 162 a [(0,.slice A0 l0.length c0),(1,.slice A1 l1.length c1),(2,.slice A2 l2.length c2),(3,.slice A3 l3.length c3),(4,vI x4),(16,pP b5 0),(17,(.slice Z14 ([⟨none⟩]:List Pt).length cz14)),(24,.pointer none),(77,.slice (some ⟨b6,0,none⟩) 2 2),(78,vI 2),(79,vI 1)]
abbrev MachTicks.B5 (w0:World):Bool→Exit→Act→World→Prop:=Rets Tryd.prog Tryd.f6 (MachTicks.Post w0)
theorem MachTicks_p5 (K:Nat) (w0:World) (l0:List SIns) (A0:OA) (c0:Nat) (l1:List Int) (A1:OA) (c1:Nat) (l2:List Int) (A2:OA) (c2:Nat) (l3:List Int) (A3:OA) (c3:Nat) (x4:Int) (hR0:RdL w0 A0 l0) (hL0:l0.length≤c0) (hR1:RdL w0 A1 l1) (hL1:l1.length≤c1) (hR2:RdL w0 A2 l2) (hL2:l2.length≤c2) (hR3:RdL w0 A3 l3) (hL3:l3.length≤c3) (hG0:Glob w0 0 [vI (-1),vI (-2),vI (-3)]) (b1:Nat) (Z1:OA) (cz1:Nat) (Z2:OA) (cz2:Nat) (r1:(Option PMachine)×SFault) (px1:PMachine) (pb1 b3:Nat) (hc2:r1.2.Code=0) (Z3:OA) (cz3:Nat) (Z4:OA) (cz4:Nat) (Z5:OA) (cz5:Nat) (Z6:OA) (cz6:Nat) (Z7:OA) (cz7:Nat) (r3:(Option PImage)×SFault) (v6:Value) (b5 b6 b7:Nat) (z3 z4:Int) (Z11:OA) (cz11:Nat) (hcp1:(l0++[(⟨(-1),(-2),(-3)⟩:SIns),(⟨(-1),(-2),(-3)⟩:SIns),(⟨(-1),(-2),(-3)⟩:SIns)]).length≤cz11) (Z12:OA) (cz12:Nat) (hcp2:(l1++[(-9),(-9),(-9)]).length≤cz12) (Z13:OA) (cz13:Nat) (hcp3:(l3++[(-9),(-9),(-9)]).length≤cz13) (r7:(Option PMachine)×SFault) (b8 b9:Nat) (Z14:OA) (cz14 b10:Nat) (z7 z8:Int) (Z15:OA) (cz15:Nat) (hcp4:(l0++[(⟨(-1),(-2),(-3)⟩:SIns),(⟨(-1),(-2),(-3)⟩:SIns),(⟨(-1),(-2),(-3)⟩:SIns)]).length≤cz15) (Z16:OA) (cz16:Nat) (hcp5:(l2++[(-9),(-9),(-9)]).length≤cz16) (Z17:OA) (cz17:Nat) (hcp6:(l3++[(-9),(-9),(-9)]).length≤cz17) (r11:(Option PMachine)×SFault) (b11:Nat) (o:Unit ⊕ Bool) (h:MachTicks.p5 z7 z8 r11=some o) (w:World) (hS:St w0 w [bk b11 #[vI r11.2.Code,vI r11.2.At] 25,bk b10 #[vI z7,vI z8] 25,bk b6 #[.slice A1 l1.length c1,.slice A2 l2.length c2] 37,bk b5 #[vI r3.2.Code,vI r3.2.At] 25,ro Z14 cz14 51 ([⟨none⟩]:List Pt)]) (Q:Exit→Act→World→Prop) (hQ:∀ x a w,Outs (MachTicks.A5 w0 l0 A0 c0 l1 A1 c1 l2 A2 c2 l3 A3 c3 x4 r3 b5 b6 Z14 cz14) (MachTicks.B5 w0) o x a w→Q x a w):WE Tryd.prog 162 (subF Tryd.f6 [1,1,1,1,1,1,1,0,1,0,0,1,1,0,0,1,1,1,1,1,1,1,1,0]) Q ((0,.slice A0 l0.length c0)::(1,.slice A1 l1.length c1)::(2,.slice A2 l2.length c2)::(3,.slice A3 l3.length c3)::(4,vI x4)::(16,pP b5 0)::(17,(.slice Z14 ([⟨none⟩]:List Pt).length cz14))::(19,.slice A2 l2.length c2)::(20,pP b10 0)::(21,.slice Z15 l0.length cz15)::(22,.slice Z16 l2.length cz16)::(23,.slice Z17 l3.length cz17)::(24,.pointer none)::(25,pP b11 0)::(77,.slice (some ⟨b6,0,none⟩) 2 2)::(78,vI 2)::(79,vI 1)::(98,.slice A0 l0.length c0)::(99,.agg #[vI (-1),vI (-2),vI (-3)])::(100,.slice Z15 l0.length cz15)::(101,.slice A2 l2.length c2)::(102,.slice Z16 l2.length cz16)::(103,.slice A3 l3.length c3)::(104,.slice Z17 l3.length cz17)::(105,.tuple #[.pointer none,.agg #[vI r11.2.Code,vI r11.2.At]])::(106,.slice Z15 l0.length cz15)::(107,.slice Z16 l2.length cz16)::(108,.slice Z17 l3.length cz17)::(109,.tuple #[.pointer none,.agg #[vI r11.2.Code,vI r11.2.At]])::(110,.pointer none)::(111,.agg #[vI r11.2.Code,vI r11.2.At])::(112,.slice Z15 l0.length cz15)::(113,.tuple #[])::(114,.slice Z16 l2.length cz16)::(115,.tuple #[])::(116,.slice Z17 l3.length cz17)::(117,.tuple #[])::[]) w:=by
 simp only [MachTicks.p5] at h
 refine ws fun K57 hK57=>wr [(0,0),(1,0),(2,0),(3,0),(4,0),(5,0),(6,0),(7,0),(8,0),(9,0),(10,0)]<|gb [0,1] [(119,.agg #[vI z7,vI z8]),(118,.agg #[vI r11.2.Code,vI r11.2.At])] [ld b11 0 (vI r11.2.Code),ld b11 1 (vI r11.2.At),ld b10 0 (vI z7),ld b10 1 (vI z8)] ⟨hS.c 0,hS.c 0,hS.c 1,hS.c 1,trivial⟩<|ge_eqs (d:=120) (ty:=4) (op:=.neq) (x:=(.tmp 118)) (y:=(.tmp 119)) (t:=25) (t2:=25) (xs:=#[vI r11.2.Code,vI r11.2.At]) (ys:=#[vI z7,vI z8]) (r:=(SFault.eqb r11.2 (⟨z7,z8⟩:SFault))) (v:=!(SFault.eqb r11.2 (⟨z7,z8⟩:SFault))) (by kernel_rfl) (by kernel_rfl) (by kernel_rfl) (by kernel_rfl) (by kernel_rfl) rfl ?_
 refine gb0 [3] [(121,.bool (!(SFault.eqb r11.2 (⟨z7,z8⟩:SFault))))] ?_
 by_cases hc18:(SFault.eqb r11.2 (⟨z7,z8⟩:SFault))=true
 ·rw [if_pos hc18] at h
  refine gk 121 (!(SFault.eqb r11.2 (⟨z7,z8⟩:SFault))) false (congrArg (fun z=>!z) hc18)<|gb [4,5,6,7,8,9,10] [(128,.bool (false != (z7==0))),(127,.bool (false != (z7==0))),(126,.bool (z7==0)),(125,vI z7),(124,pP b10 0),(123,.bool false),(122,.pointer none)] [ld b10 0 (vI z7)] ⟨hS.c 1,trivial⟩<|gn hK57 ?_
  by_cases hc19:false=(z7==0)
  ·rw [if_pos hc19] at h
   refine wk 128 (false != (z7==0)) false (bne_eq_false_iff_eq.2 hc19)<|wf ?_
   have hS175:=hS.p [2,3,4] rfl
   obtain rfl:=si h
   exact we_skip fun a hF=>hQ _ _ _ (Outs.again ⟨hS175,hF.weaken ea⟩)
  rw [if_neg hc19] at h
  refine wk 128 (false != (z7==0)) true (bne_iff_ne.2 hc19)<|wt<|ws fun K58 hK58=>wr [(0,0)]<|gb0 [0] [(10,.bool false)]<|gn hK58 ?_
  have hS176:=hS.takeN 0
  obtain rfl:=si h
  exact rq hQ fun a hF=>⟨rfl,(pr0 [.tmp 10] [.bool false] ⟨rfl,hS176⟩) a hF⟩
 rw [if_neg hc18] at h
 refine gk 121 (!(SFault.eqb r11.2 (⟨z7,z8⟩:SFault))) true (congrArg (fun z=>!z) (Bool.eq_false_iff.2 hc18))<|gb0 [4,5,6,7,8,9,10] [(128,.bool true),(127,undef),(126,undef),(125,undef),(124,undef),(123,undef),(122,undef)]<|gn hK57<|wt<|ws fun K59 hK59=>wr [(0,0)]<|gb0 [0] [(10,.bool false)]<|gn hK59 ?_
 have hS177:=hS.takeN 0
 obtain rfl:=si h
 exact rq hQ fun a hF=>⟨rfl,(pr0 [.tmp 10] [.bool false] ⟨rfl,hS177⟩) a hF⟩
abbrev MachTicks.A6 (w0:World) (l0:List SIns) (A0:OA) (c0:Nat) (l1:List Int) (A1:OA) (c1:Nat) (l2:List Int) (A2:OA) (c2:Nat) (l3:List Int) (A3:OA) (c3:Nat) (x4:Int) (r3:(Option PImage)×SFault) (b5 b6:Nat) (Z14:OA) (cz14:Nat) (px4:PMachine) (pb2:Nat) (Z19:OA) (cz19:Nat) (Z20:OA) (cz20:Nat) (Z21:OA) (cz21:Nat) (Z22:OA) (cz22:Nat) (Z23:OA) (cz23:Nat):Unit→Act→World→Prop:=fun (s:Unit) a w=>St w0 w [bk pb2 #[(.slice Z19 px4.m_image.length cz19),(.slice Z20 px4.m_in_.length cz20),(.slice Z21 px4.m_vars.length cz21),(.slice Z22 px4.m_puts.length cz22),(.slice Z23 px4.m_stack.length cz23),vI ((px4.m_count[0]?).getD 0),vI ((px4.m_count[1]?).getD 0),vI ((px4.m_count[2]?).getD 0),vI ((px4.m_count[3]?).getD 0),vI ((px4.m_count[4]?).getD 0),vI ((px4.m_count[5]?).getD 0),vI ((px4.m_count[6]?).getD 0),vI ((px4.m_count[7]?).getD 0),vI px4.m_at_,vI px4.m_left] 86,bk b6 #[.slice A1 l1.length c1,.slice A2 l2.length c2] 37,bk b5 #[vI r3.2.Code,vI r3.2.At] 25,ro Z14 cz14 51 ([⟨none⟩]:List Pt),ro Z19 cz19 29 px4.m_image,ro Z20 cz20 3 px4.m_in_,ro Z21 cz21 3 px4.m_vars,ro Z22 cz22 101 px4.m_puts,ro Z23 cz23 3 px4.m_stack]∧Frm 162 a [(0,.slice A0 l0.length c0),(1,.slice A1 l1.length c1),(2,.slice A2 l2.length c2),(3,.slice A3 l3.length c3),(4,vI x4),(16,pP b5 0),(17,(.slice Z14 ([⟨none⟩]:List Pt).length cz14)),(24,pP pb2 0),(77,.slice (some ⟨b6,0,none⟩) 2 2),(78,vI 2),(79,vI 1)]
abbrev MachTicks.B6 (w0:World):Bool→Exit→Act→World→Prop:=Rets Tryd.prog Tryd.f6 (MachTicks.Post w0)
theorem MachTicks_p6 (K:Nat) (w0:World) (l0:List SIns) (A0:OA) (c0:Nat) (l1:List Int) (A1:OA) (c1:Nat) (l2:List Int) (A2:OA) (c2:Nat) (l3:List Int) (A3:OA) (c3:Nat) (x4:Int) (hR0:RdL w0 A0 l0) (hL0:l0.length≤c0) (hR1:RdL w0 A1 l1) (hL1:l1.length≤c1) (hR2:RdL w0 A2 l2) (hL2:l2.length≤c2) (hR3:RdL w0 A3 l3) (hL3:l3.length≤c3) (hG0:Glob w0 0 [vI (-1),vI (-2),vI (-3)]) (b1:Nat) (Z1:OA) (cz1:Nat) (Z2:OA) (cz2:Nat) (r1:(Option PMachine)×SFault) (px1:PMachine) (pb1 b3:Nat) (hc2:r1.2.Code=0) (Z3:OA) (cz3:Nat) (Z4:OA) (cz4:Nat) (Z5:OA) (cz5:Nat) (Z6:OA) (cz6:Nat) (Z7:OA) (cz7:Nat) (r3:(Option PImage)×SFault) (v6:Value) (b5 b6 b7:Nat) (z3 z4:Int) (Z11:OA) (cz11:Nat) (hcp1:(l0++[(⟨(-1),(-2),(-3)⟩:SIns),(⟨(-1),(-2),(-3)⟩:SIns),(⟨(-1),(-2),(-3)⟩:SIns)]).length≤cz11) (Z12:OA) (cz12:Nat) (hcp2:(l1++[(-9),(-9),(-9)]).length≤cz12) (Z13:OA) (cz13:Nat) (hcp3:(l3++[(-9),(-9),(-9)]).length≤cz13) (r7:(Option PMachine)×SFault) (b8 b9:Nat) (Z14:OA) (cz14 b10:Nat) (z7 z8:Int) (Z15:OA) (cz15:Nat) (hcp4:(l0++[(⟨(-1),(-2),(-3)⟩:SIns),(⟨(-1),(-2),(-3)⟩:SIns),(⟨(-1),(-2),(-3)⟩:SIns)]).length≤cz15) (Z16:OA) (cz16:Nat) (hcp5:(l2++[(-9),(-9),(-9)]).length≤cz16) (Z17:OA) (cz17:Nat) (hcp6:(l3++[(-9),(-9),(-9)]).length≤cz17) (r11:(Option PMachine)×SFault) (px4:PMachine) (pb2 b14:Nat) (Z19:OA) (cz19:Nat) (Z20:OA) (cz20:Nat) (Z21:OA) (cz21:Nat) (Z22:OA) (cz22:Nat) (Z23:OA) (cz23:Nat) (o:Unit ⊕ Bool) (h:MachTicks.p6 z7 z8 r11=some o) (w:World) (hS:St w0 w [bk b14 #[vI r11.2.Code,vI r11.2.At] 25,bk pb2 #[(.slice Z19 px4.m_image.length cz19),(.slice Z20 px4.m_in_.length cz20),(.slice Z21 px4.m_vars.length cz21),(.slice Z22 px4.m_puts.length cz22),(.slice Z23 px4.m_stack.length cz23),vI ((px4.m_count[0]?).getD 0),vI ((px4.m_count[1]?).getD 0),vI ((px4.m_count[2]?).getD 0),vI ((px4.m_count[3]?).getD 0),vI ((px4.m_count[4]?).getD 0),vI ((px4.m_count[5]?).getD 0),vI ((px4.m_count[6]?).getD 0),vI ((px4.m_count[7]?).getD 0),vI px4.m_at_,vI px4.m_left] 86,ro Z19 cz19 29 px4.m_image,ro Z20 cz20 3 px4.m_in_,ro Z21 cz21 3 px4.m_vars,ro Z22 cz22 101 px4.m_puts,ro Z23 cz23 3 px4.m_stack,bk b10 #[vI z7,vI z8] 25,bk b6 #[.slice A1 l1.length c1,.slice A2 l2.length c2] 37,bk b5 #[vI r3.2.Code,vI r3.2.At] 25,ro Z14 cz14 51 ([⟨none⟩]:List Pt)]) (Q:Exit→Act→World→Prop) (hQ:∀ x a w,Outs (MachTicks.A6 w0 l0 A0 c0 l1 A1 c1 l2 A2 c2 l3 A3 c3 x4 r3 b5 b6 Z14 cz14 px4 pb2 Z19 cz19 Z20 cz20 Z21 cz21 Z22 cz22 Z23 cz23) (MachTicks.B6 w0) o x a w→Q x a w):WE Tryd.prog 162 (subF Tryd.f6 [1,1,1,1,1,1,1,0,1,0,0,1,1,0,0,1,1,1,1,1,1,1,1,0]) Q ((0,.slice A0 l0.length c0)::(1,.slice A1 l1.length c1)::(2,.slice A2 l2.length c2)::(3,.slice A3 l3.length c3)::(4,vI x4)::(16,pP b5 0)::(17,(.slice Z14 ([⟨none⟩]:List Pt).length cz14))::(19,.slice A2 l2.length c2)::(20,pP b10 0)::(21,.slice Z15 l0.length cz15)::(22,.slice Z16 l2.length cz16)::(23,.slice Z17 l3.length cz17)::(24,pP pb2 0)::(25,pP b14 0)::(77,.slice (some ⟨b6,0,none⟩) 2 2)::(78,vI 2)::(79,vI 1)::(98,.slice A0 l0.length c0)::(99,.agg #[vI (-1),vI (-2),vI (-3)])::(100,.slice Z15 l0.length cz15)::(101,.slice A2 l2.length c2)::(102,.slice Z16 l2.length cz16)::(103,.slice A3 l3.length c3)::(104,.slice Z17 l3.length cz17)::(105,.tuple #[pP pb2 0,.agg #[vI r11.2.Code,vI r11.2.At]])::(106,.slice Z15 l0.length cz15)::(107,.slice Z16 l2.length cz16)::(108,.slice Z17 l3.length cz17)::(109,.tuple #[pP pb2 0,.agg #[vI r11.2.Code,vI r11.2.At]])::(110,pP pb2 0)::(111,.agg #[vI r11.2.Code,vI r11.2.At])::(112,.slice Z15 l0.length cz15)::(113,.tuple #[])::(114,.slice Z16 l2.length cz16)::(115,.tuple #[])::(116,.slice Z17 l3.length cz17)::(117,.tuple #[])::[]) w:=by
 simp only [MachTicks.p6] at h
 refine ws fun K85 hK85=>wr [(0,0),(1,0),(2,0),(3,0),(4,0),(5,0),(6,0),(7,0),(8,0),(9,0),(10,0)]<|gb [0,1] [(119,.agg #[vI z7,vI z8]),(118,.agg #[vI r11.2.Code,vI r11.2.At])] [ld b14 0 (vI r11.2.Code),ld b14 1 (vI r11.2.At),ld b10 0 (vI z7),ld b10 1 (vI z8)] ⟨hS.c 0,hS.c 0,hS.c 7,hS.c 7,trivial⟩<|ge_eqs (d:=120) (ty:=4) (op:=.neq) (x:=(.tmp 118)) (y:=(.tmp 119)) (t:=25) (t2:=25) (xs:=#[vI r11.2.Code,vI r11.2.At]) (ys:=#[vI z7,vI z8]) (r:=(SFault.eqb r11.2 (⟨z7,z8⟩:SFault))) (v:=!(SFault.eqb r11.2 (⟨z7,z8⟩:SFault))) (by kernel_rfl) (by kernel_rfl) (by kernel_rfl) (by kernel_rfl) (by kernel_rfl) rfl ?_
 refine gb0 [3] [(121,.bool (!(SFault.eqb r11.2 (⟨z7,z8⟩:SFault))))] ?_
 by_cases hc20:(SFault.eqb r11.2 (⟨z7,z8⟩:SFault))=true
 ·rw [if_pos hc20] at h
  refine gk 121 (!(SFault.eqb r11.2 (⟨z7,z8⟩:SFault))) false (congrArg (fun z=>!z) hc20)<|gb [4,5,6,7,8,9,10] [(128,.bool (true != (z7==0))),(127,.bool (true != (z7==0))),(126,.bool (z7==0)),(125,vI z7),(124,pP b10 0),(123,.bool true),(122,pP pb2 0)] [ld b10 0 (vI z7)] ⟨hS.c 7,trivial⟩<|gn hK85 ?_
  by_cases hc21:true=(z7==0)
  ·rw [if_pos hc21] at h
   refine wk 128 (true != (z7==0)) false (bne_eq_false_iff_eq.2 hc21)<|wf ?_
   have hS207:=hS.p [1,8,9,10,2,3,4,5,6] rfl
   obtain rfl:=si h
   exact we_skip fun a hF=>hQ _ _ _ (Outs.again ⟨hS207,hF.weaken ea⟩)
  rw [if_neg hc21] at h
  refine wk 128 (true != (z7==0)) true (bne_iff_ne.2 hc21)<|wt<|ws fun K86 hK86=>wr [(0,0)]<|gb0 [0] [(10,.bool false)]<|gn hK86 ?_
  have hS208:=hS.takeN 0
  obtain rfl:=si h
  exact rq hQ fun a hF=>⟨rfl,(pr0 [.tmp 10] [.bool false] ⟨rfl,hS208⟩) a hF⟩
 rw [if_neg hc20] at h
 refine gk 121 (!(SFault.eqb r11.2 (⟨z7,z8⟩:SFault))) true (congrArg (fun z=>!z) (Bool.eq_false_iff.2 hc20))<|gb0 [4,5,6,7,8,9,10] [(128,.bool true),(127,undef),(126,undef),(125,undef),(124,undef),(123,undef),(122,undef)]<|gn hK85<|wt<|ws fun K87 hK87=>wr [(0,0)]<|gb0 [0] [(10,.bool false)]<|gn hK87 ?_
 have hS209:=hS.takeN 0
 obtain rfl:=si h
 exact rq hQ fun a hF=>⟨rfl,(pr0 [.tmp 10] [.bool false] ⟨rfl,hS209⟩) a hF⟩
abbrev MachTicks.A7 (w0:World) (l0:List SIns) (A0:OA) (c0:Nat) (l1:List Int) (A1:OA) (c1:Nat) (l2:List Int) (A2:OA) (c2:Nat) (l3:List Int) (A3:OA) (c3:Nat) (x4:Int) (r3:(Option PImage)×SFault) (b5 b6:Nat) (px3:PMachine) (pb3:Nat) (Z25:OA) (cz25:Nat) (Z26:OA) (cz26:Nat) (Z27:OA) (cz27:Nat) (Z28:OA) (cz28:Nat) (Z29:OA) (cz29:Nat):Unit→Act→World→Prop:=fun (s:Unit) a w=>St w0 w [bk pb3 #[(.slice Z25 px3.m_image.length cz25),(.slice Z26 px3.m_in_.length cz26),(.slice Z27 px3.m_vars.length cz27),(.slice Z28 px3.m_puts.length cz28),(.slice Z29 px3.m_stack.length cz29),vI ((px3.m_count[0]?).getD 0),vI ((px3.m_count[1]?).getD 0),vI ((px3.m_count[2]?).getD 0),vI ((px3.m_count[3]?).getD 0),vI ((px3.m_count[4]?).getD 0),vI ((px3.m_count[5]?).getD 0),vI ((px3.m_count[6]?).getD 0),vI ((px3.m_count[7]?).getD 0),vI px3.m_at_,vI px3.m_left] 86,bk b6 #[.slice A1 l1.length c1,.slice A2 l2.length c2] 37,bk b5 #[vI r3.2.Code,vI r3.2.At] 25,ro Z25 cz25 29 px3.m_image,ro Z26 cz26 3 px3.m_in_,ro Z27 cz27 3 px3.m_vars,ro Z28 cz28 101 px3.m_puts,ro Z29 cz29 3 px3.m_stack]∧Frm 162 a [(0,.slice A0 l0.length c0),(1,.slice A1 l1.length c1),(2,.slice A2 l2.length c2),(3,.slice A3 l3.length c3),(4,vI x4),(16,pP b5 0),(17,.slice none 0 0),(24,pP pb3 0),(77,.slice (some ⟨b6,0,none⟩) 2 2),(78,vI 2),(79,vI 0)]
abbrev MachTicks.B7 (w0:World):Bool→Exit→Act→World→Prop:=Rets Tryd.prog Tryd.f6 (MachTicks.Post w0)
theorem MachTicks_p7 (K:Nat) (w0:World) (l0:List SIns) (A0:OA) (c0:Nat) (l1:List Int) (A1:OA) (c1:Nat) (l2:List Int) (A2:OA) (c2:Nat) (l3:List Int) (A3:OA) (c3:Nat) (x4:Int) (hR0:RdL w0 A0 l0) (hL0:l0.length≤c0) (hR1:RdL w0 A1 l1) (hL1:l1.length≤c1) (hR2:RdL w0 A2 l2) (hL2:l2.length≤c2) (hR3:RdL w0 A3 l3) (hL3:l3.length≤c3) (hG0:Glob w0 0 [vI (-1),vI (-2),vI (-3)]) (b1:Nat) (Z1:OA) (cz1:Nat) (Z2:OA) (cz2:Nat) (r1:(Option PMachine)×SFault) (px1:PMachine) (pb1 b3:Nat) (hc2:r1.2.Code=0) (Z3:OA) (cz3:Nat) (Z4:OA) (cz4:Nat) (Z5:OA) (cz5:Nat) (Z6:OA) (cz6:Nat) (Z7:OA) (cz7:Nat) (r3:(Option PImage)×SFault) (v6:Value) (b5 b6 b7:Nat) (z3 z4:Int) (Z11:OA) (cz11:Nat) (hcp1:(l0++[(⟨(-1),(-2),(-3)⟩:SIns),(⟨(-1),(-2),(-3)⟩:SIns),(⟨(-1),(-2),(-3)⟩:SIns)]).length≤cz11) (Z12:OA) (cz12:Nat) (hcp2:(l1++[(-9),(-9),(-9)]).length≤cz12) (Z13:OA) (cz13:Nat) (hcp3:(l3++[(-9),(-9),(-9)]).length≤cz13) (r7:(Option PMachine)×SFault) (px3:PMachine) (pb3 b17:Nat) (Z25:OA) (cz25:Nat) (Z26:OA) (cz26:Nat) (Z27:OA) (cz27:Nat) (Z28:OA) (cz28:Nat) (Z29:OA) (cz29:Nat) (o:Unit ⊕ Bool) (h:MachTicks.p7 z3 z4 r7=some o) (w:World) (hS:St w0 w [bk b17 #[vI r7.2.Code,vI r7.2.At] 25,bk pb3 #[(.slice Z25 px3.m_image.length cz25),(.slice Z26 px3.m_in_.length cz26),(.slice Z27 px3.m_vars.length cz27),(.slice Z28 px3.m_puts.length cz28),(.slice Z29 px3.m_stack.length cz29),vI ((px3.m_count[0]?).getD 0),vI ((px3.m_count[1]?).getD 0),vI ((px3.m_count[2]?).getD 0),vI ((px3.m_count[3]?).getD 0),vI ((px3.m_count[4]?).getD 0),vI ((px3.m_count[5]?).getD 0),vI ((px3.m_count[6]?).getD 0),vI ((px3.m_count[7]?).getD 0),vI px3.m_at_,vI px3.m_left] 86,ro Z25 cz25 29 px3.m_image,ro Z26 cz26 3 px3.m_in_,ro Z27 cz27 3 px3.m_vars,ro Z28 cz28 101 px3.m_puts,ro Z29 cz29 3 px3.m_stack,bk b7 #[vI z3,vI z4] 25,bk b6 #[.slice A1 l1.length c1,.slice A2 l2.length c2] 37,bk b5 #[vI r3.2.Code,vI r3.2.At] 25]) (Q:Exit→Act→World→Prop) (hQ:∀ x a w,Outs (MachTicks.A7 w0 l0 A0 c0 l1 A1 c1 l2 A2 c2 l3 A3 c3 x4 r3 b5 b6 px3 pb3 Z25 cz25 Z26 cz26 Z27 cz27 Z28 cz28 Z29 cz29) (MachTicks.B7 w0) o x a w→Q x a w):WE Tryd.prog 162 (subF Tryd.f6 [1,1,1,1,1,1,1,0,1,0,0,1,1,0,0,1,1,1,1,1,1,1,1,0]) Q ((0,.slice A0 l0.length c0)::(1,.slice A1 l1.length c1)::(2,.slice A2 l2.length c2)::(3,.slice A3 l3.length c3)::(4,vI x4)::(16,pP b5 0)::(17,.slice none 0 0)::(19,.slice A1 l1.length c1)::(20,pP b7 0)::(21,.slice Z11 l0.length cz11)::(22,.slice Z12 l1.length cz12)::(23,.slice Z13 l3.length cz13)::(24,pP pb3 0)::(25,pP b17 0)::(77,.slice (some ⟨b6,0,none⟩) 2 2)::(78,vI 2)::(79,vI 0)::(98,.slice A0 l0.length c0)::(99,.agg #[vI (-1),vI (-2),vI (-3)])::(100,.slice Z11 l0.length cz11)::(101,.slice A1 l1.length c1)::(102,.slice Z12 l1.length cz12)::(103,.slice A3 l3.length c3)::(104,.slice Z13 l3.length cz13)::(105,.tuple #[pP pb3 0,.agg #[vI r7.2.Code,vI r7.2.At]])::(106,.slice Z11 l0.length cz11)::(107,.slice Z12 l1.length cz12)::(108,.slice Z13 l3.length cz13)::(109,.tuple #[pP pb3 0,.agg #[vI r7.2.Code,vI r7.2.At]])::(110,pP pb3 0)::(111,.agg #[vI r7.2.Code,vI r7.2.At])::(112,.slice Z11 l0.length cz11)::(113,.tuple #[])::(114,.slice Z12 l1.length cz12)::(115,.tuple #[])::(116,.slice Z13 l3.length cz13)::(117,.tuple #[])::[]) w:=by
 simp only [MachTicks.p7] at h
 refine ws fun K114 hK114=>wr [(0,0),(1,0),(2,0),(3,0),(4,0),(5,0),(6,0),(7,0),(8,0),(9,0),(10,0)]<|gb [0,1] [(119,.agg #[vI z3,vI z4]),(118,.agg #[vI r7.2.Code,vI r7.2.At])] [ld b17 0 (vI r7.2.Code),ld b17 1 (vI r7.2.At),ld b7 0 (vI z3),ld b7 1 (vI z4)] ⟨hS.c 0,hS.c 0,hS.c 7,hS.c 7,trivial⟩<|ge_eqs (d:=120) (ty:=4) (op:=.neq) (x:=(.tmp 118)) (y:=(.tmp 119)) (t:=25) (t2:=25) (xs:=#[vI r7.2.Code,vI r7.2.At]) (ys:=#[vI z3,vI z4]) (r:=(SFault.eqb r7.2 (⟨z3,z4⟩:SFault))) (v:=!(SFault.eqb r7.2 (⟨z3,z4⟩:SFault))) (by kernel_rfl) (by kernel_rfl) (by kernel_rfl) (by kernel_rfl) (by kernel_rfl) rfl ?_
 refine gb0 [3] [(121,.bool (!(SFault.eqb r7.2 (⟨z3,z4⟩:SFault))))] ?_
 by_cases hc23:(SFault.eqb r7.2 (⟨z3,z4⟩:SFault))=true
 ·rw [if_pos hc23] at h
  refine gk 121 (!(SFault.eqb r7.2 (⟨z3,z4⟩:SFault))) false (congrArg (fun z=>!z) hc23)<|gb [4,5,6,7,8,9,10] [(128,.bool (true != (z3==0))),(127,.bool (true != (z3==0))),(126,.bool (z3==0)),(125,vI z3),(124,pP b7 0),(123,.bool true),(122,pP pb3 0)] [ld b7 0 (vI z3)] ⟨hS.c 7,trivial⟩<|gn hK114 ?_
  by_cases hc24:true=(z3==0)
  ·rw [if_pos hc24] at h
   refine wk 128 (true != (z3==0)) false (bne_eq_false_iff_eq.2 hc24)<|wf ?_
   have hS248:=hS.p [1,8,9,2,3,4,5,6] rfl
   obtain rfl:=si h
   exact we_skip fun a hF=>hQ _ _ _ (Outs.again ⟨hS248,hF.weaken ea⟩)
  rw [if_neg hc24] at h
  refine wk 128 (true != (z3==0)) true (bne_iff_ne.2 hc24)<|wt<|ws fun K115 hK115=>wr [(0,0)]<|gb0 [0] [(10,.bool false)]<|gn hK115 ?_
  have hS249:=hS.takeN 0
  obtain rfl:=si h
  exact rq hQ fun a hF=>⟨rfl,(pr0 [.tmp 10] [.bool false] ⟨rfl,hS249⟩) a hF⟩
 rw [if_neg hc23] at h
 refine gk 121 (!(SFault.eqb r7.2 (⟨z3,z4⟩:SFault))) true (congrArg (fun z=>!z) (Bool.eq_false_iff.2 hc23))<|gb0 [4,5,6,7,8,9,10] [(128,.bool true),(127,undef),(126,undef),(125,undef),(124,undef),(123,undef),(122,undef)]<|gn hK114<|wt<|ws fun K116 hK116=>wr [(0,0)]<|gb0 [0] [(10,.bool false)]<|gn hK116 ?_
 have hS250:=hS.takeN 0
 obtain rfl:=si h
 exact rq hQ fun a hF=>⟨rfl,(pr0 [.tmp 10] [.bool false] ⟨rfl,hS250⟩) a hF⟩
abbrev MachTicks.A8 (w0:World) (l0:List SIns) (A0:OA) (c0:Nat) (l1:List Int) (A1:OA) (c1:Nat) (l2:List Int) (A2:OA) (c2:Nat) (l3:List Int) (A3:OA) (c3:Nat) (x4:Int) (r3:(Option PImage)×SFault) (b5 b6:Nat) (px3:PMachine) (pb3:Nat) (Z25:OA) (cz25:Nat) (Z26:OA) (cz26:Nat) (Z27:OA) (cz27:Nat) (Z28:OA) (cz28:Nat) (Z29:OA) (cz29:Nat) (Z30:OA) (cz30 b19:Nat):(Int×Int)→Act→World→Prop:=fun (s:Int×Int) a w=>St w0 w [bk b19 #[vI s.1,vI s.2] 25,bk pb3 #[(.slice Z25 px3.m_image.length cz25),(.slice Z26 px3.m_in_.length cz26),(.slice Z27 px3.m_vars.length cz27),(.slice Z28 px3.m_puts.length cz28),(.slice Z29 px3.m_stack.length cz29),vI ((px3.m_count[0]?).getD 0),vI ((px3.m_count[1]?).getD 0),vI ((px3.m_count[2]?).getD 0),vI ((px3.m_count[3]?).getD 0),vI ((px3.m_count[4]?).getD 0),vI ((px3.m_count[5]?).getD 0),vI ((px3.m_count[6]?).getD 0),vI ((px3.m_count[7]?).getD 0),vI px3.m_at_,vI px3.m_left] 86,bk b6 #[.slice A1 l1.length c1,.slice A2 l2.length c2] 37,bk b5 #[vI r3.2.Code,vI r3.2.At] 25,ro Z30 cz30 51 ([⟨some pb3⟩]:List Pt),ro Z25 cz25 29 px3.m_image,ro Z26 cz26 3 px3.m_in_,ro Z27 cz27 3 px3.m_vars,ro Z28 cz28 101 px3.m_puts,ro Z29 cz29 3 px3.m_stack]∧Frm 162 a [(0,.slice A0 l0.length c0),(1,.slice A1 l1.length c1),(2,.slice A2 l2.length c2),(3,.slice A3 l3.length c3),(4,vI x4),(16,pP b5 0),(17,(.slice Z30 ([⟨some pb3⟩]:List Pt).length cz30)),(19,.slice A2 l2.length c2),(20,pP b19 0),(77,.slice (some ⟨b6,0,none⟩) 2 2),(78,vI 2),(79,vI 1)]
abbrev MachTicks.B8 (w0:World):Bool→Exit→Act→World→Prop:=Rets Tryd.prog Tryd.f6 (MachTicks.Post w0)
theorem MachTicks_p8 (K:Nat) (w0:World) (l0:List SIns) (A0:OA) (c0:Nat) (l1:List Int) (A1:OA) (c1:Nat) (l2:List Int) (A2:OA) (c2:Nat) (l3:List Int) (A3:OA) (c3:Nat) (x4:Int) (hR0:RdL w0 A0 l0) (hL0:l0.length≤c0) (hR1:RdL w0 A1 l1) (hL1:l1.length≤c1) (hR2:RdL w0 A2 l2) (hL2:l2.length≤c2) (hR3:RdL w0 A3 l3) (hL3:l3.length≤c3) (hG0:Glob w0 0 [vI (-1),vI (-2),vI (-3)]) (b1:Nat) (Z1:OA) (cz1:Nat) (Z2:OA) (cz2:Nat) (r1:(Option PMachine)×SFault) (px1:PMachine) (pb1 b3:Nat) (hc2:r1.2.Code=0) (Z3:OA) (cz3:Nat) (Z4:OA) (cz4:Nat) (Z5:OA) (cz5:Nat) (Z6:OA) (cz6:Nat) (Z7:OA) (cz7:Nat) (r3:(Option PImage)×SFault) (v6:Value) (b5 b6 b7:Nat) (z3 z4:Int) (Z11:OA) (cz11:Nat) (hcp1:(l0++[(⟨(-1),(-2),(-3)⟩:SIns),(⟨(-1),(-2),(-3)⟩:SIns),(⟨(-1),(-2),(-3)⟩:SIns)]).length≤cz11) (Z12:OA) (cz12:Nat) (hcp2:(l1++[(-9),(-9),(-9)]).length≤cz12) (Z13:OA) (cz13:Nat) (hcp3:(l3++[(-9),(-9),(-9)]).length≤cz13) (r7:(Option PMachine)×SFault) (px3:PMachine) (pb3 b17:Nat) (Z25:OA) (cz25:Nat) (Z26:OA) (cz26:Nat) (Z27:OA) (cz27:Nat) (Z28:OA) (cz28:Nat) (Z29:OA) (cz29 b18:Nat) (Z30:OA) (cz30 b19:Nat) (o:(Int×Int) ⊕ Bool) (h:MachTicks.p8 l2 l3 r3=some o) (w:World) (hS:St w0 w [bk b19 #[vI r3.2.Code,vI r3.2.At] 25,ro Z30 cz30 51 ([⟨some pb3⟩]:List Pt),bk pb3 #[(.slice Z25 px3.m_image.length cz25),(.slice Z26 px3.m_in_.length cz26),(.slice Z27 px3.m_vars.length cz27),(.slice Z28 px3.m_puts.length cz28),(.slice Z29 px3.m_stack.length cz29),vI ((px3.m_count[0]?).getD 0),vI ((px3.m_count[1]?).getD 0),vI ((px3.m_count[2]?).getD 0),vI ((px3.m_count[3]?).getD 0),vI ((px3.m_count[4]?).getD 0),vI ((px3.m_count[5]?).getD 0),vI ((px3.m_count[6]?).getD 0),vI ((px3.m_count[7]?).getD 0),vI px3.m_at_,vI px3.m_left] 86,bk b6 #[.slice A1 l1.length c1,.slice A2 l2.length c2] 37,bk b5 #[vI r3.2.Code,vI r3.2.At] 25,ro Z25 cz25 29 px3.m_image,ro Z26 cz26 3 px3.m_in_,ro Z27 cz27 3 px3.m_vars,ro Z28 cz28 101 px3.m_puts,ro Z29 cz29 3 px3.m_stack]) (Q:Exit→Act→World→Prop) (hQ:∀ x a w,Outs (MachTicks.A8 w0 l0 A0 c0 l1 A1 c1 l2 A2 c2 l3 A3 c3 x4 r3 b5 b6 px3 pb3 Z25 cz25 Z26 cz26 Z27 cz27 Z28 cz28 Z29 cz29 Z30 cz30 b19) (MachTicks.B8 w0) o x a w→Q x a w):WE Tryd.prog 162 (subF Tryd.f6 [1,1,1,1,1,1,1,0,1,0,0,1,1,0,0,1,1,0]) Q [(0,.slice A0 l0.length c0),(1,.slice A1 l1.length c1),(2,.slice A2 l2.length c2),(3,.slice A3 l3.length c3),(4,vI x4),(16,pP b5 0),(17,(.slice Z30 ([⟨some pb3⟩]:List Pt).length cz30)),(19,.slice A2 l2.length c2),(20,pP b19 0),(24,pP pb3 0),(77,.slice (some ⟨b6,0,none⟩) 2 2),(78,vI 2),(79,vI 1),(80,.bool true),(81,pP b6 1),(82,.slice A2 l2.length c2),(83,.agg #[vI r3.2.Code,vI r3.2.At]),(129,.slice none 0 0),(130,pP pb3 0),(131,.slice (some ⟨b18,0,none⟩) 1 1),(132,(.slice Z30 ([⟨some pb3⟩]:List Pt).length cz30)),(133,vI 1)] w:=by
 simp only [MachTicks.p8] at h
 refine ws fun K124 hK124=>wr [(0,0),(1,0),(2,0),(3,0),(4,0),(5,0),(6,0),(7,0),(8,0),(9,0),(10,0),(11,0),(12,0)]<|gb [0,1,2,3] [(87,.bool (r3.2.Code==0)),(86,.bool (r3.2.Code==0)),(85,vI r3.2.Code),(84,pP b19 0)] [ld b19 0 (vI r3.2.Code)] ⟨hS.c 0,trivial⟩ ?_
 by_cases hc25:r3.2.Code=0
 ·rw [if_pos hc25] at h
  refine gk 87 (r3.2.Code==0) true (beq_iff_eq.2 hc25)<|gb0 [4,5,6,7] [(91,.bool ((l2.length:Int) != 8)),(90,.bool ((l2.length:Int) != 8)),(89,vI (l2.length:Int)),(88,.slice A2 l2.length c2)] ?_
  by_cases hc26:(l2.length:Int)=8
  ·rw [if_pos hc26] at h
   refine gk 91 ((l2.length:Int) != 8) false (bne_eq_false_iff_eq.2 hc26)<|gb0 [8,9,10,11,12] [(96,.bool ((l3.length:Int) != 4)),(95,.bool ((l3.length:Int) != 4)),(94,.bool ((l3.length:Int) != 4)),(93,vI (l3.length:Int)),(92,.slice A3 l3.length c3)]<|gn hK124 ?_
   by_cases hc27:(l3.length:Int)=4
   ·rw [if_pos hc27] at h
    refine wk 96 ((l3.length:Int) != 4) false (bne_eq_false_iff_eq.2 hc27)<|wf ?_
    have hS269:=(((((((((hS.b 9).b 9).b 9).b 9).b 9).b 6).b 9).b 9).b 9).b 9
    obtain rfl:=si h
    exact we_skip fun a hF=>hQ _ _ _ (Outs.again ⟨hS269,hF.weaken ea⟩)
   rw [if_neg hc27] at h
   refine wk 96 ((l3.length:Int) != 4) true (bne_iff_ne.2 hc27)<|wt<|wr [(0,1),(1,2)]<|ge_call (d:=some 97) (f:=9) (args:=#[vI 3,vI 0]) (by kernel_rfl) (punctualref_F_ok 3 0 _ _ rfl) ?_
   rintro _ w79 ⟨rfl,hS270⟩
   refine ⟨_,rfl,hS270.below,?_⟩
   have hS271:=hS.call hS270
   refine gs b19 0 #[vI r3.2.Code,vI r3.2.At] 25 [vI ((punctualref_F.f 3 0).Code),vI ((punctualref_F.f 3 0).At)] hS271 fun w80 hS272=>?_
   have hS283:=((((((((((hS272.nc #[vI ((punctualref_F.f 3 0).Code),vI ((punctualref_F.f 3 0).At)] rfl).b 9).b 9).b 9).b 9).b 9).b 6).b 9).b 9).b 9).b 9
   obtain rfl:=si h
   exact ge_nil fun a hF=>hQ _ _ _ (Outs.again ⟨hS283,hF.weaken ea⟩)
  rw [if_neg hc26] at h
  refine gk 91 ((l2.length:Int) != 8) true (bne_iff_ne.2 hc26)<|gb0 [8,9,10,11,12] [(96,.bool true),(95,.bool true),(94,undef),(93,undef),(92,undef)]<|gn hK124<|wt<|wr [(0,1),(1,2)]<|ge_call (d:=some 97) (f:=9) (args:=#[vI 3,vI 0]) (by kernel_rfl) (punctualref_F_ok 3 0 _ _ rfl) ?_
  rintro _ w81 ⟨rfl,hS284⟩
  refine ⟨_,rfl,hS284.below,?_⟩
  have hS285:=hS.call hS284
  refine gs b19 0 #[vI r3.2.Code,vI r3.2.At] 25 [vI ((punctualref_F.f 3 0).Code),vI ((punctualref_F.f 3 0).At)] hS285 fun w82 hS286=>?_
  have hS297:=((((((((((hS286.nc #[vI ((punctualref_F.f 3 0).Code),vI ((punctualref_F.f 3 0).At)] rfl).b 9).b 9).b 9).b 9).b 9).b 6).b 9).b 9).b 9).b 9
  obtain rfl:=si h
  exact ge_nil fun a hF=>hQ _ _ _ (Outs.again ⟨hS297,hF.weaken ea⟩)
 rw [if_neg hc25] at h
 refine gk 87 (r3.2.Code==0) false (beq_eq_false_iff_ne.2 hc25)<|gb0 [4,5,6,7,8,9,10,11,12] [(96,.bool false),(95,undef),(94,undef),(93,undef),(92,undef),(91,undef),(90,undef),(89,undef),(88,undef)]<|gn hK124<|wf ?_
 have hS307:=(((((((((hS.b 9).b 9).b 9).b 9).b 9).b 6).b 9).b 9).b 9).b 9
 obtain rfl:=si h
 exact we_skip fun a hF=>hQ _ _ _ (Outs.again ⟨hS307,hF.weaken ea⟩)
abbrev MachTicks.A9 (w0:World) (l0:List SIns) (A0:OA) (c0:Nat) (l1:List Int) (A1:OA) (c1:Nat) (l2:List Int) (A2:OA) (c2:Nat) (l3:List Int) (A3:OA) (c3:Nat) (x4:Int) (r3:(Option PImage)×SFault) (b5 b6:Nat) (px3:PMachine) (pb3:Nat) (Z25:OA) (cz25:Nat) (Z26:OA) (cz26:Nat) (Z27:OA) (cz27:Nat) (Z28:OA) (cz28:Nat) (Z29:OA) (cz29:Nat) (Z30:OA) (cz30:Nat):Unit→Act→World→Prop:=fun (s:Unit) a w=>St w0 w [bk pb3 #[(.slice Z25 px3.m_image.length cz25),(.slice Z26 px3.m_in_.length cz26),(.slice Z27 px3.m_vars.length cz27),(.slice Z28 px3.m_puts.length cz28),(.slice Z29 px3.m_stack.length cz29),vI ((px3.m_count[0]?).getD 0),vI ((px3.m_count[1]?).getD 0),vI ((px3.m_count[2]?).getD 0),vI ((px3.m_count[3]?).getD 0),vI ((px3.m_count[4]?).getD 0),vI ((px3.m_count[5]?).getD 0),vI ((px3.m_count[6]?).getD 0),vI ((px3.m_count[7]?).getD 0),vI px3.m_at_,vI px3.m_left] 86,bk b6 #[.slice A1 l1.length c1,.slice A2 l2.length c2] 37,bk b5 #[vI r3.2.Code,vI r3.2.At] 25,ro Z30 cz30 51 ([⟨some pb3⟩]:List Pt),ro Z25 cz25 29 px3.m_image,ro Z26 cz26 3 px3.m_in_,ro Z27 cz27 3 px3.m_vars,ro Z28 cz28 101 px3.m_puts,ro Z29 cz29 3 px3.m_stack]∧Frm 162 a [(0,.slice A0 l0.length c0),(1,.slice A1 l1.length c1),(2,.slice A2 l2.length c2),(3,.slice A3 l3.length c3),(4,vI x4),(16,pP b5 0),(17,(.slice Z30 ([⟨some pb3⟩]:List Pt).length cz30)),(24,.pointer none),(77,.slice (some ⟨b6,0,none⟩) 2 2),(78,vI 2),(79,vI 1)]
abbrev MachTicks.B9 (w0:World):Bool→Exit→Act→World→Prop:=Rets Tryd.prog Tryd.f6 (MachTicks.Post w0)
theorem MachTicks_p9 (K:Nat) (w0:World) (l0:List SIns) (A0:OA) (c0:Nat) (l1:List Int) (A1:OA) (c1:Nat) (l2:List Int) (A2:OA) (c2:Nat) (l3:List Int) (A3:OA) (c3:Nat) (x4:Int) (hR0:RdL w0 A0 l0) (hL0:l0.length≤c0) (hR1:RdL w0 A1 l1) (hL1:l1.length≤c1) (hR2:RdL w0 A2 l2) (hL2:l2.length≤c2) (hR3:RdL w0 A3 l3) (hL3:l3.length≤c3) (hG0:Glob w0 0 [vI (-1),vI (-2),vI (-3)]) (b1:Nat) (Z1:OA) (cz1:Nat) (Z2:OA) (cz2:Nat) (r1:(Option PMachine)×SFault) (px1:PMachine) (pb1 b3:Nat) (hc2:r1.2.Code=0) (Z3:OA) (cz3:Nat) (Z4:OA) (cz4:Nat) (Z5:OA) (cz5:Nat) (Z6:OA) (cz6:Nat) (Z7:OA) (cz7:Nat) (r3:(Option PImage)×SFault) (v6:Value) (b5 b6 b7:Nat) (z3 z4:Int) (Z11:OA) (cz11:Nat) (hcp1:(l0++[(⟨(-1),(-2),(-3)⟩:SIns),(⟨(-1),(-2),(-3)⟩:SIns),(⟨(-1),(-2),(-3)⟩:SIns)]).length≤cz11) (Z12:OA) (cz12:Nat) (hcp2:(l1++[(-9),(-9),(-9)]).length≤cz12) (Z13:OA) (cz13:Nat) (hcp3:(l3++[(-9),(-9),(-9)]).length≤cz13) (r7:(Option PMachine)×SFault) (px3:PMachine) (pb3 b17:Nat) (Z25:OA) (cz25:Nat) (Z26:OA) (cz26:Nat) (Z27:OA) (cz27:Nat) (Z28:OA) (cz28:Nat) (Z29:OA) (cz29 b18:Nat) (Z30:OA) (cz30 b19:Nat) (z11 z12:Int) (Z31:OA) (cz31:Nat) (hcp7:(l0++[(⟨(-1),(-2),(-3)⟩:SIns),(⟨(-1),(-2),(-3)⟩:SIns),(⟨(-1),(-2),(-3)⟩:SIns)]).length≤cz31) (Z32:OA) (cz32:Nat) (hcp8:(l2++[(-9),(-9),(-9)]).length≤cz32) (Z33:OA) (cz33:Nat) (hcp9:(l3++[(-9),(-9),(-9)]).length≤cz33) (r16:(Option PMachine)×SFault) (b20:Nat) (o:Unit ⊕ Bool) (h:MachTicks.p9 z11 z12 r16=some o) (w:World) (hS:St w0 w [bk b20 #[vI r16.2.Code,vI r16.2.At] 25,bk b19 #[vI z11,vI z12] 25,bk pb3 #[(.slice Z25 px3.m_image.length cz25),(.slice Z26 px3.m_in_.length cz26),(.slice Z27 px3.m_vars.length cz27),(.slice Z28 px3.m_puts.length cz28),(.slice Z29 px3.m_stack.length cz29),vI ((px3.m_count[0]?).getD 0),vI ((px3.m_count[1]?).getD 0),vI ((px3.m_count[2]?).getD 0),vI ((px3.m_count[3]?).getD 0),vI ((px3.m_count[4]?).getD 0),vI ((px3.m_count[5]?).getD 0),vI ((px3.m_count[6]?).getD 0),vI ((px3.m_count[7]?).getD 0),vI px3.m_at_,vI px3.m_left] 86,bk b6 #[.slice A1 l1.length c1,.slice A2 l2.length c2] 37,bk b5 #[vI r3.2.Code,vI r3.2.At] 25,ro Z30 cz30 51 ([⟨some pb3⟩]:List Pt),ro Z25 cz25 29 px3.m_image,ro Z26 cz26 3 px3.m_in_,ro Z27 cz27 3 px3.m_vars,ro Z28 cz28 101 px3.m_puts,ro Z29 cz29 3 px3.m_stack]) (Q:Exit→Act→World→Prop) (hQ:∀ x a w,Outs (MachTicks.A9 w0 l0 A0 c0 l1 A1 c1 l2 A2 c2 l3 A3 c3 x4 r3 b5 b6 px3 pb3 Z25 cz25 Z26 cz26 Z27 cz27 Z28 cz28 Z29 cz29 Z30 cz30) (MachTicks.B9 w0) o x a w→Q x a w):WE Tryd.prog 162 (subF Tryd.f6 [1,1,1,1,1,1,1,0,1,0,0,1,1,0,0,1,1,1,1,1,1,1,1,0]) Q ((0,.slice A0 l0.length c0)::(1,.slice A1 l1.length c1)::(2,.slice A2 l2.length c2)::(3,.slice A3 l3.length c3)::(4,vI x4)::(16,pP b5 0)::(17,(.slice Z30 ([⟨some pb3⟩]:List Pt).length cz30))::(19,.slice A2 l2.length c2)::(20,pP b19 0)::(21,.slice Z31 l0.length cz31)::(22,.slice Z32 l2.length cz32)::(23,.slice Z33 l3.length cz33)::(24,.pointer none)::(25,pP b20 0)::(77,.slice (some ⟨b6,0,none⟩) 2 2)::(78,vI 2)::(79,vI 1)::(98,.slice A0 l0.length c0)::(99,.agg #[vI (-1),vI (-2),vI (-3)])::(100,.slice Z31 l0.length cz31)::(101,.slice A2 l2.length c2)::(102,.slice Z32 l2.length cz32)::(103,.slice A3 l3.length c3)::(104,.slice Z33 l3.length cz33)::(105,.tuple #[.pointer none,.agg #[vI r16.2.Code,vI r16.2.At]])::(106,.slice Z31 l0.length cz31)::(107,.slice Z32 l2.length cz32)::(108,.slice Z33 l3.length cz33)::(109,.tuple #[.pointer none,.agg #[vI r16.2.Code,vI r16.2.At]])::(110,.pointer none)::(111,.agg #[vI r16.2.Code,vI r16.2.At])::(112,.slice Z31 l0.length cz31)::(113,.tuple #[])::(114,.slice Z32 l2.length cz32)::(115,.tuple #[])::(116,.slice Z33 l3.length cz33)::(117,.tuple #[])::[]) w:=by
 simp only [MachTicks.p9] at h
 refine ws fun K131 hK131=>wr [(0,0),(1,0),(2,0),(3,0),(4,0),(5,0),(6,0),(7,0),(8,0),(9,0),(10,0)]<|gb [0,1] [(119,.agg #[vI z11,vI z12]),(118,.agg #[vI r16.2.Code,vI r16.2.At])] [ld b20 0 (vI r16.2.Code),ld b20 1 (vI r16.2.At),ld b19 0 (vI z11),ld b19 1 (vI z12)] ⟨hS.c 0,hS.c 0,hS.c 1,hS.c 1,trivial⟩<|ge_eqs (d:=120) (ty:=4) (op:=.neq) (x:=(.tmp 118)) (y:=(.tmp 119)) (t:=25) (t2:=25) (xs:=#[vI r16.2.Code,vI r16.2.At]) (ys:=#[vI z11,vI z12]) (r:=(SFault.eqb r16.2 (⟨z11,z12⟩:SFault))) (v:=!(SFault.eqb r16.2 (⟨z11,z12⟩:SFault))) (by kernel_rfl) (by kernel_rfl) (by kernel_rfl) (by kernel_rfl) (by kernel_rfl) rfl ?_
 refine gb0 [3] [(121,.bool (!(SFault.eqb r16.2 (⟨z11,z12⟩:SFault))))] ?_
 by_cases hc28:(SFault.eqb r16.2 (⟨z11,z12⟩:SFault))=true
 ·rw [if_pos hc28] at h
  refine gk 121 (!(SFault.eqb r16.2 (⟨z11,z12⟩:SFault))) false (congrArg (fun z=>!z) hc28)<|gb [4,5,6,7,8,9,10] [(128,.bool (false != (z11==0))),(127,.bool (false != (z11==0))),(126,.bool (z11==0)),(125,vI z11),(124,pP b19 0),(123,.bool false),(122,.pointer none)] [ld b19 0 (vI z11)] ⟨hS.c 1,trivial⟩<|gn hK131 ?_
  by_cases hc29:false=(z11==0)
  ·rw [if_pos hc29] at h
   refine wk 128 (false != (z11==0)) false (bne_eq_false_iff_eq.2 hc29)<|wf ?_
   have hS338:=hS.p [2,3,4,5,6,7,8,9,10] rfl
   obtain rfl:=si h
   exact we_skip fun a hF=>hQ _ _ _ (Outs.again ⟨hS338,hF.weaken ea⟩)
  rw [if_neg hc29] at h
  refine wk 128 (false != (z11==0)) true (bne_iff_ne.2 hc29)<|wt<|ws fun K132 hK132=>wr [(0,0)]<|gb0 [0] [(10,.bool false)]<|gn hK132 ?_
  have hS339:=hS.takeN 0
  obtain rfl:=si h
  exact rq hQ fun a hF=>⟨rfl,(pr0 [.tmp 10] [.bool false] ⟨rfl,hS339⟩) a hF⟩
 rw [if_neg hc28] at h
 refine gk 121 (!(SFault.eqb r16.2 (⟨z11,z12⟩:SFault))) true (congrArg (fun z=>!z) (Bool.eq_false_iff.2 hc28))<|gb0 [4,5,6,7,8,9,10] [(128,.bool true),(127,undef),(126,undef),(125,undef),(124,undef),(123,undef),(122,undef)]<|gn hK131<|wt<|ws fun K133 hK133=>wr [(0,0)]<|gb0 [0] [(10,.bool false)]<|gn hK133 ?_
 have hS340:=hS.takeN 0
 obtain rfl:=si h
 exact rq hQ fun a hF=>⟨rfl,(pr0 [.tmp 10] [.bool false] ⟨rfl,hS340⟩) a hF⟩
abbrev MachTicks.A10 (w0:World) (l0:List SIns) (A0:OA) (c0:Nat) (l1:List Int) (A1:OA) (c1:Nat) (l2:List Int) (A2:OA) (c2:Nat) (l3:List Int) (A3:OA) (c3:Nat) (x4:Int) (r3:(Option PImage)×SFault) (b5 b6:Nat) (px3:PMachine) (pb3:Nat) (Z25:OA) (cz25:Nat) (Z26:OA) (cz26:Nat) (Z27:OA) (cz27:Nat) (Z28:OA) (cz28:Nat) (Z29:OA) (cz29:Nat) (Z30:OA) (cz30:Nat) (px5:PMachine) (pb4:Nat) (Z35:OA) (cz35:Nat) (Z36:OA) (cz36:Nat) (Z37:OA) (cz37:Nat) (Z38:OA) (cz38:Nat) (Z39:OA) (cz39:Nat):Unit→Act→World→Prop:=fun (s:Unit) a w=>St w0 w [bk pb4 #[(.slice Z35 px5.m_image.length cz35),(.slice Z36 px5.m_in_.length cz36),(.slice Z37 px5.m_vars.length cz37),(.slice Z38 px5.m_puts.length cz38),(.slice Z39 px5.m_stack.length cz39),vI ((px5.m_count[0]?).getD 0),vI ((px5.m_count[1]?).getD 0),vI ((px5.m_count[2]?).getD 0),vI ((px5.m_count[3]?).getD 0),vI ((px5.m_count[4]?).getD 0),vI ((px5.m_count[5]?).getD 0),vI ((px5.m_count[6]?).getD 0),vI ((px5.m_count[7]?).getD 0),vI px5.m_at_,vI px5.m_left] 86,bk pb3 #[(.slice Z25 px3.m_image.length cz25),(.slice Z26 px3.m_in_.length cz26),(.slice Z27 px3.m_vars.length cz27),(.slice Z28 px3.m_puts.length cz28),(.slice Z29 px3.m_stack.length cz29),vI ((px3.m_count[0]?).getD 0),vI ((px3.m_count[1]?).getD 0),vI ((px3.m_count[2]?).getD 0),vI ((px3.m_count[3]?).getD 0),vI ((px3.m_count[4]?).getD 0),vI ((px3.m_count[5]?).getD 0),vI ((px3.m_count[6]?).getD 0),vI ((px3.m_count[7]?).getD 0),vI px3.m_at_,vI px3.m_left] 86,bk b6 #[.slice A1 l1.length c1,.slice A2 l2.length c2] 37,bk b5 #[vI r3.2.Code,vI r3.2.At] 25,ro Z30 cz30 51 ([⟨some pb3⟩]:List Pt),ro Z35 cz35 29 px5.m_image,ro Z36 cz36 3 px5.m_in_,ro Z37 cz37 3 px5.m_vars,ro Z38 cz38 101 px5.m_puts,ro Z39 cz39 3 px5.m_stack,ro Z25 cz25 29 px3.m_image,ro Z26 cz26 3 px3.m_in_,ro Z27 cz27 3 px3.m_vars,ro Z28 cz28 101 px3.m_puts,ro Z29 cz29 3 px3.m_stack]∧Frm 162 a [(0,.slice A0 l0.length c0),(1,.slice A1 l1.length c1),(2,.slice A2 l2.length c2),(3,.slice A3 l3.length c3),(4,vI x4),(16,pP b5 0),(17,(.slice Z30 ([⟨some pb3⟩]:List Pt).length cz30)),(24,pP pb4 0),(77,.slice (some ⟨b6,0,none⟩) 2 2),(78,vI 2),(79,vI 1)]
abbrev MachTicks.B10 (w0:World):Bool→Exit→Act→World→Prop:=Rets Tryd.prog Tryd.f6 (MachTicks.Post w0)
theorem MachTicks_p10 (K:Nat) (w0:World) (l0:List SIns) (A0:OA) (c0:Nat) (l1:List Int) (A1:OA) (c1:Nat) (l2:List Int) (A2:OA) (c2:Nat) (l3:List Int) (A3:OA) (c3:Nat) (x4:Int) (hR0:RdL w0 A0 l0) (hL0:l0.length≤c0) (hR1:RdL w0 A1 l1) (hL1:l1.length≤c1) (hR2:RdL w0 A2 l2) (hL2:l2.length≤c2) (hR3:RdL w0 A3 l3) (hL3:l3.length≤c3) (hG0:Glob w0 0 [vI (-1),vI (-2),vI (-3)]) (b1:Nat) (Z1:OA) (cz1:Nat) (Z2:OA) (cz2:Nat) (r1:(Option PMachine)×SFault) (px1:PMachine) (pb1 b3:Nat) (hc2:r1.2.Code=0) (Z3:OA) (cz3:Nat) (Z4:OA) (cz4:Nat) (Z5:OA) (cz5:Nat) (Z6:OA) (cz6:Nat) (Z7:OA) (cz7:Nat) (r3:(Option PImage)×SFault) (v6:Value) (b5 b6 b7:Nat) (z3 z4:Int) (Z11:OA) (cz11:Nat) (hcp1:(l0++[(⟨(-1),(-2),(-3)⟩:SIns),(⟨(-1),(-2),(-3)⟩:SIns),(⟨(-1),(-2),(-3)⟩:SIns)]).length≤cz11) (Z12:OA) (cz12:Nat) (hcp2:(l1++[(-9),(-9),(-9)]).length≤cz12) (Z13:OA) (cz13:Nat) (hcp3:(l3++[(-9),(-9),(-9)]).length≤cz13) (r7:(Option PMachine)×SFault) (px3:PMachine) (pb3 b17:Nat) (Z25:OA) (cz25:Nat) (Z26:OA) (cz26:Nat) (Z27:OA) (cz27:Nat) (Z28:OA) (cz28:Nat) (Z29:OA) (cz29 b18:Nat) (Z30:OA) (cz30 b19:Nat) (z11 z12:Int) (Z31:OA) (cz31:Nat) (hcp7:(l0++[(⟨(-1),(-2),(-3)⟩:SIns),(⟨(-1),(-2),(-3)⟩:SIns),(⟨(-1),(-2),(-3)⟩:SIns)]).length≤cz31) (Z32:OA) (cz32:Nat) (hcp8:(l2++[(-9),(-9),(-9)]).length≤cz32) (Z33:OA) (cz33:Nat) (hcp9:(l3++[(-9),(-9),(-9)]).length≤cz33) (r16:(Option PMachine)×SFault) (px5:PMachine) (pb4 b23:Nat) (Z35:OA) (cz35:Nat) (Z36:OA) (cz36:Nat) (Z37:OA) (cz37:Nat) (Z38:OA) (cz38:Nat) (Z39:OA) (cz39:Nat) (o:Unit ⊕ Bool) (h:MachTicks.p10 z11 z12 r16=some o) (w:World) (hS:St w0 w [bk b23 #[vI r16.2.Code,vI r16.2.At] 25,bk pb4 #[(.slice Z35 px5.m_image.length cz35),(.slice Z36 px5.m_in_.length cz36),(.slice Z37 px5.m_vars.length cz37),(.slice Z38 px5.m_puts.length cz38),(.slice Z39 px5.m_stack.length cz39),vI ((px5.m_count[0]?).getD 0),vI ((px5.m_count[1]?).getD 0),vI ((px5.m_count[2]?).getD 0),vI ((px5.m_count[3]?).getD 0),vI ((px5.m_count[4]?).getD 0),vI ((px5.m_count[5]?).getD 0),vI ((px5.m_count[6]?).getD 0),vI ((px5.m_count[7]?).getD 0),vI px5.m_at_,vI px5.m_left] 86,ro Z35 cz35 29 px5.m_image,ro Z36 cz36 3 px5.m_in_,ro Z37 cz37 3 px5.m_vars,ro Z38 cz38 101 px5.m_puts,ro Z39 cz39 3 px5.m_stack,bk b19 #[vI z11,vI z12] 25,bk pb3 #[(.slice Z25 px3.m_image.length cz25),(.slice Z26 px3.m_in_.length cz26),(.slice Z27 px3.m_vars.length cz27),(.slice Z28 px3.m_puts.length cz28),(.slice Z29 px3.m_stack.length cz29),vI ((px3.m_count[0]?).getD 0),vI ((px3.m_count[1]?).getD 0),vI ((px3.m_count[2]?).getD 0),vI ((px3.m_count[3]?).getD 0),vI ((px3.m_count[4]?).getD 0),vI ((px3.m_count[5]?).getD 0),vI ((px3.m_count[6]?).getD 0),vI ((px3.m_count[7]?).getD 0),vI px3.m_at_,vI px3.m_left] 86,bk b6 #[.slice A1 l1.length c1,.slice A2 l2.length c2] 37,bk b5 #[vI r3.2.Code,vI r3.2.At] 25,ro Z30 cz30 51 ([⟨some pb3⟩]:List Pt),ro Z25 cz25 29 px3.m_image,ro Z26 cz26 3 px3.m_in_,ro Z27 cz27 3 px3.m_vars,ro Z28 cz28 101 px3.m_puts,ro Z29 cz29 3 px3.m_stack]) (Q:Exit→Act→World→Prop) (hQ:∀ x a w,Outs (MachTicks.A10 w0 l0 A0 c0 l1 A1 c1 l2 A2 c2 l3 A3 c3 x4 r3 b5 b6 px3 pb3 Z25 cz25 Z26 cz26 Z27 cz27 Z28 cz28 Z29 cz29 Z30 cz30 px5 pb4 Z35 cz35 Z36 cz36 Z37 cz37 Z38 cz38 Z39 cz39) (MachTicks.B10 w0) o x a w→Q x a w):WE Tryd.prog 162 (subF Tryd.f6 [1,1,1,1,1,1,1,0,1,0,0,1,1,0,0,1,1,1,1,1,1,1,1,0]) Q ((0,.slice A0 l0.length c0)::(1,.slice A1 l1.length c1)::(2,.slice A2 l2.length c2)::(3,.slice A3 l3.length c3)::(4,vI x4)::(16,pP b5 0)::(17,(.slice Z30 ([⟨some pb3⟩]:List Pt).length cz30))::(19,.slice A2 l2.length c2)::(20,pP b19 0)::(21,.slice Z31 l0.length cz31)::(22,.slice Z32 l2.length cz32)::(23,.slice Z33 l3.length cz33)::(24,pP pb4 0)::(25,pP b23 0)::(77,.slice (some ⟨b6,0,none⟩) 2 2)::(78,vI 2)::(79,vI 1)::(98,.slice A0 l0.length c0)::(99,.agg #[vI (-1),vI (-2),vI (-3)])::(100,.slice Z31 l0.length cz31)::(101,.slice A2 l2.length c2)::(102,.slice Z32 l2.length cz32)::(103,.slice A3 l3.length c3)::(104,.slice Z33 l3.length cz33)::(105,.tuple #[pP pb4 0,.agg #[vI r16.2.Code,vI r16.2.At]])::(106,.slice Z31 l0.length cz31)::(107,.slice Z32 l2.length cz32)::(108,.slice Z33 l3.length cz33)::(109,.tuple #[pP pb4 0,.agg #[vI r16.2.Code,vI r16.2.At]])::(110,pP pb4 0)::(111,.agg #[vI r16.2.Code,vI r16.2.At])::(112,.slice Z31 l0.length cz31)::(113,.tuple #[])::(114,.slice Z32 l2.length cz32)::(115,.tuple #[])::(116,.slice Z33 l3.length cz33)::(117,.tuple #[])::[]) w:=by
 simp only [MachTicks.p10] at h
 refine ws fun K160 hK160=>wr [(0,0),(1,0),(2,0),(3,0),(4,0),(5,0),(6,0),(7,0),(8,0),(9,0),(10,0)]<|gb [0,1] [(119,.agg #[vI z11,vI z12]),(118,.agg #[vI r16.2.Code,vI r16.2.At])] [ld b23 0 (vI r16.2.Code),ld b23 1 (vI r16.2.At),ld b19 0 (vI z11),ld b19 1 (vI z12)] ⟨hS.c 0,hS.c 0,hS.c 7,hS.c 7,trivial⟩<|ge_eqs (d:=120) (ty:=4) (op:=.neq) (x:=(.tmp 118)) (y:=(.tmp 119)) (t:=25) (t2:=25) (xs:=#[vI r16.2.Code,vI r16.2.At]) (ys:=#[vI z11,vI z12]) (r:=(SFault.eqb r16.2 (⟨z11,z12⟩:SFault))) (v:=!(SFault.eqb r16.2 (⟨z11,z12⟩:SFault))) (by kernel_rfl) (by kernel_rfl) (by kernel_rfl) (by kernel_rfl) (by kernel_rfl) rfl ?_
 refine gb0 [3] [(121,.bool (!(SFault.eqb r16.2 (⟨z11,z12⟩:SFault))))] ?_
 by_cases hc31:(SFault.eqb r16.2 (⟨z11,z12⟩:SFault))=true
 ·rw [if_pos hc31] at h
  refine gk 121 (!(SFault.eqb r16.2 (⟨z11,z12⟩:SFault))) false (congrArg (fun z=>!z) hc31)<|gb [4,5,6,7,8,9,10] [(128,.bool (true != (z11==0))),(127,.bool (true != (z11==0))),(126,.bool (z11==0)),(125,vI z11),(124,pP b19 0),(123,.bool true),(122,pP pb4 0)] [ld b19 0 (vI z11)] ⟨hS.c 7,trivial⟩<|gn hK160 ?_
  by_cases hc32:true=(z11==0)
  ·rw [if_pos hc32] at h
   refine wk 128 (true != (z11==0)) false (bne_eq_false_iff_eq.2 hc32)<|wf ?_
   have hS386:=hS.p [1,8,9,10,11,2,3,4,5,6,12,13,14,15,16] rfl
   obtain rfl:=si h
   exact we_skip fun a hF=>hQ _ _ _ (Outs.again ⟨hS386,hF.weaken ea⟩)
  rw [if_neg hc32] at h
  refine wk 128 (true != (z11==0)) true (bne_iff_ne.2 hc32)<|wt<|ws fun K161 hK161=>wr [(0,0)]<|gb0 [0] [(10,.bool false)]<|gn hK161 ?_
  have hS387:=hS.takeN 0
  obtain rfl:=si h
  exact rq hQ fun a hF=>⟨rfl,(pr0 [.tmp 10] [.bool false] ⟨rfl,hS387⟩) a hF⟩
 rw [if_neg hc31] at h
 refine gk 121 (!(SFault.eqb r16.2 (⟨z11,z12⟩:SFault))) true (congrArg (fun z=>!z) (Bool.eq_false_iff.2 hc31))<|gb0 [4,5,6,7,8,9,10] [(128,.bool true),(127,undef),(126,undef),(125,undef),(124,undef),(123,undef),(122,undef)]<|gn hK160<|wt<|ws fun K162 hK162=>wr [(0,0)]<|gb0 [0] [(10,.bool false)]<|gn hK162 ?_
 have hS388:=hS.takeN 0
 obtain rfl:=si h
 exact rq hQ fun a hF=>⟨rfl,(pr0 [.tmp 10] [.bool false] ⟨rfl,hS388⟩) a hF⟩
set_option maxHeartbeats 1600000 in
theorem MachTicks_ok (K:Nat) (l0:List SIns) (A0:OA) (c0:Nat) (l1:List Int) (A1:OA) (c1:Nat) (l2:List Int) (A2:OA) (c2:Nat) (l3:List Int) (A3:OA) (c3:Nat) (x4:Int) (w0:World) (hR0:RdL w0 A0 l0) (hL0:l0.length≤c0) (hR1:RdL w0 A1 l1) (hL1:l1.length≤c1) (hR2:RdL w0 A2 l2) (hL2:l2.length≤c2) (hR3:RdL w0 A3 l3) (hL3:l3.length≤c3) (hG0:Glob w0 0 [vI (-1),vI (-2),vI (-3)]) (r:Bool) (h:MachTicks.f K l0 l1 l2 l3 x4=some r) :
  Calls Tryd.prog 6 #[.slice A0 l0.length c0,.slice A1 l1.length c1,.slice A2 l2.length c2,.slice A3 l3.length c3,vI x4] w0 (MachTicks.Post w0 r):=by
 have hS:=St.start w0
 unfold MachTicks.f at h
 refine calls_enter (n:=162) (args:=[.slice A0 l0.length c0,.slice A1 l1.length c1,.slice A2 l2.length c2,.slice A3 l3.length c3,vI x4]) (fn:=Tryd.f6) rfl rfl rfl rfl ?_
 show WE _ _ _ _ [(0,.slice A0 l0.length c0),(1,.slice A1 l1.length c1),(2,.slice A2 l2.length c2),(3,.slice A3 l3.length c3),(4,vI x4)] _
 refine ws fun K1 hK1=>wr [(0,0)]<|gb0 [0] [(10,.bool false)]<|gn hK1<|ws fun K2 hK2=>we_orders3 (by kernel_rfl) [] (.alt 0 1 (.alt 1 1 MachTicks.t1_11 (.alt 2 1 MachTicks.t1_10 (.alt 7 1 MachTicks.t1_7 .nomore))) (.alt 1 1 (.alt 0 1 MachTicks.t1_11 (.alt 2 1 MachTicks.t1_9 (.alt 7 1 MachTicks.t1_6 .nomore))) (.alt 2 1 (.alt 0 1 MachTicks.t1_10 (.alt 1 1 MachTicks.t1_9 (.alt 7 1 MachTicks.t1_4 .nomore))) (.alt 7 1 (.alt 0 1 MachTicks.t1_7 (.alt 1 1 MachTicks.t1_6 (.alt 2 1 MachTicks.t1_4 .nomore))) .nomore)))) (by kernel_rfl) (by kernel_rfl) ?_
 have hS1:=hS.drew
 refine go3_join MachTicks.t1_0 (fun (x:Nat×(Option Addr)×Nat×(Option Addr)×Nat×((Option PMachine)×SFault)×Nat) e w=>match x with | (b1,Z1,cz1,Z2,cz2,r1,b2)=>e=[(0,.slice A0 l0.length c0),(1,.slice A1 l1.length c1),(2,.slice A2 l2.length c2),(3,.slice A3 l3.length c3),(4,vI x4),(10,.bool false),(11,.pointer none),(12,pP b2 0),(34,.agg #[vI r1.2.Code,vI r1.2.At])]∧(mach_New.f K image.f (List.replicate 8 (0:Int)) ([5,0,0,0]:List Int)=some r1)∧(r1.1=none)∧St w0 w [bk b2 #[vI 0,vI 0] 25,bk b1 #[vI 5,vI 0,vI 0,vI 0] 3,ro Z2 cz2 3 (List.replicate 8 (0:Int)),ro Z1 cz1 29 image.f]) ?_ fun hJ1_2=>?_
 ·rintro ⟨b1,Z1,cz1,Z2,cz2,r1,b2⟩ _ W3 ⟨rfl,hq2,hro1,hS11⟩
  replace hS11:St w0 W3 [bk b2 #[vI 0,vI 0] 25,bk b1 #[vI 5,vI 0,vI 0,vI 0] 3,ro Z2 cz2 3 (List.replicate 8 (0:Int)),ro Z1 cz1 29 image.f]:=hS11
  rw [hq2] at h
  simp only [] at h
  rw [hro1] at h
  simp only [] at h
  refine go_alt3 (fun KK hKK=>?_) ?_
  ·refine gs b2 0 #[vI 0,vI 0] 25 [vI r1.2.Code,vI r1.2.At] hS11 fun w6 hS12=>?_
   have hS13:=hS12.nc #[vI r1.2.Code,vI r1.2.At] rfl
   refine g2 hKK<|go_fin3 fun a hF=>hK2 _ _ ?_ a hF
   refine ws fun K3 hK3=>ws fun K4 hK4=>wr [(0,0),(1,0),(2,0)]<|gb [0,1,2] [(37,.bool (r1.2.Code != 0)),(36,vI r1.2.Code),(35,pP b2 0)] [ld b2 0 (vI r1.2.Code)] ⟨hS13.c 0,trivial⟩<|gn hK4 ?_
   by_cases hc1:r1.2.Code=0
   ·rw [if_pos hc1] at h
    refine wk 37 (r1.2.Code != 0) false (bne_eq_false_iff_eq.2 hc1)<|wf<|we_skip fun a hF=>hK3 _ _ ?_ a hF
    refine ws fun K5 hK5=>ws fun K6 hK6=>wr [(0,0),(1,2),(2,0),(3,0),(4,0),(5,1),(6,2),(7,0)]<|gb0 [0] [(39,.pointer none)] ?_
    cases h
   rw [if_neg hc1] at h
   refine wk 37 (r1.2.Code != 0) true (bne_iff_ne.2 hc1)<|wt<|ws fun K7 hK7=>wr [(0,0)]<|gb0 [0] [(10,.bool false)]<|gn hK7 ?_
   have hS14:=hS13.takeN 0
   obtain rfl:=si h
   exact we_ret (pr0 [.tmp 10] [.bool false] ⟨rfl,hS14⟩)
  exact go_nomore3
 refine go3_join MachTicks.t1_0 (fun (x:Nat×(Option Addr)×Nat×(Option Addr)×Nat×((Option PMachine)×SFault)×PMachine×Nat×Value×Value×Value×Value×Value×Nat) e w=>match x with | (b1,Z1,cz1,Z2,cz2,r1,px1,pb1,pv1,pv2,pv3,pv4,pv5,b3)=>e=[(0,.slice A0 l0.length c0),(1,.slice A1 l1.length c1),(2,.slice A2 l2.length c2),(3,.slice A3 l3.length c3),(4,vI x4),(10,.bool false),(11,pP pb1 0),(12,pP b3 0),(34,.agg #[vI r1.2.Code,vI r1.2.At])]∧(mach_New.f K image.f (List.replicate 8 (0:Int)) ([5,0,0,0]:List Int)=some r1)∧(r1.1=some px1)∧St w0 w [bk b3 #[vI 0,vI 0] 25,bk pb1 #[pv1,pv2,pv3,pv4,pv5,vI ((px1.m_count[0]?).getD 0),vI ((px1.m_count[1]?).getD 0),vI ((px1.m_count[2]?).getD 0),vI ((px1.m_count[3]?).getD 0),vI ((px1.m_count[4]?).getD 0),vI ((px1.m_count[5]?).getD 0),vI ((px1.m_count[6]?).getD 0),vI ((px1.m_count[7]?).getD 0),vI px1.m_at_,vI px1.m_left] 86,Own.of pv1 29 px1.m_image,Own.of pv2 3 px1.m_in_,Own.of pv3 3 px1.m_vars,Own.of pv4 101 px1.m_puts,Own.of pv5 3 px1.m_stack,bk b1 #[vI 5,vI 0,vI 0,vI 0] 3,ro Z2 cz2 3 (List.replicate 8 (0:Int)),ro Z1 cz1 29 image.f]) ?_ fun hJ1_3=>?_
 ·rintro ⟨b1,Z1,cz1,Z2,cz2,r1,px1,pb1,pv1,pv2,pv3,pv4,pv5,b3⟩ _ W4 ⟨rfl,hq2,hro1,hS22⟩
  replace hS22:St w0 W4 [bk b3 #[vI 0,vI 0] 25,bk pb1 #[pv1,pv2,pv3,pv4,pv5,vI ((px1.m_count[0]?).getD 0),vI ((px1.m_count[1]?).getD 0),vI ((px1.m_count[2]?).getD 0),vI ((px1.m_count[3]?).getD 0),vI ((px1.m_count[4]?).getD 0),vI ((px1.m_count[5]?).getD 0),vI ((px1.m_count[6]?).getD 0),vI ((px1.m_count[7]?).getD 0),vI px1.m_at_,vI px1.m_left] 86,Own.of pv1 29 px1.m_image,Own.of pv2 3 px1.m_in_,Own.of pv3 3 px1.m_vars,Own.of pv4 101 px1.m_puts,Own.of pv5 3 px1.m_stack,bk b1 #[vI 5,vI 0,vI 0,vI 0] 3,ro Z2 cz2 3 (List.replicate 8 (0:Int)),ro Z1 cz1 29 image.f]:=hS22
  rw [hq2] at h
  simp only [] at h
  rw [hro1] at h
  simp only [] at h
  refine go_alt3 (fun KK hKK=>?_) ?_
  ·refine gs b3 0 #[vI 0,vI 0] 25 [vI r1.2.Code,vI r1.2.At] hS22 fun w8 hS23=>?_
   have hS24:=hS23.nc #[vI r1.2.Code,vI r1.2.At] rfl
   refine g2 hKK<|go_fin3 fun a hF=>hK2 _ _ ?_ a hF
   refine ws fun K8 hK8=>ws fun K9 hK9=>wr [(0,0),(1,0),(2,0)]<|gb [0,1,2] [(37,.bool (r1.2.Code != 0)),(36,vI r1.2.Code),(35,pP b3 0)] [ld b3 0 (vI r1.2.Code)] ⟨hS24.c 0,trivial⟩<|gn hK9 ?_
   by_cases hc2:r1.2.Code=0
   ·rw [if_pos hc2] at h
    refine wk 37 (r1.2.Code != 0) false (bne_eq_false_iff_eq.2 hc2)<|wf<|we_skip fun a hF=>hK8 _ _ ?_ a hF
    refine ws fun K10 hK10=>?_
    obtain ⟨Z3,cz3,rfl⟩:=hS24.open 2 rfl
    obtain ⟨Z4,cz4,rfl⟩:=hS24.open 3 rfl
    obtain ⟨Z5,cz5,rfl⟩:=hS24.open 4 rfl
    obtain ⟨Z6,cz6,rfl⟩:=hS24.open 5 rfl
    obtain ⟨Z7,cz7,rfl⟩:=hS24.open 6 rfl
    rcases hq6:MachTicks.p0 px1 with _ | (_ | rr11)
    ·rw [hq6] at h; cases h
    ·rw [hq6] at h
     simp only [] at h
     refine kp (MachTicks_p0 K w0 l0 A0 c0 l1 A1 c1 l2 A2 c2 l3 A3 c3 x4 hR0 hL0 hR1 hL1 hR2 hL2 hR3 hL3 hG0 b1 Z1 cz1 Z2 cz2 r1 px1 pb1 b3 hc2 Z3 cz3 Z4 cz4 Z5 cz5 Z6 cz6 Z7 cz7 _ hq6 _ hS24 _ ?_)
     rintro _ a w14 ⟨rfl,hS60,hF⟩
     replace hS60:St w0 w14 []:=hS60
     refine hK10 [(0,.slice A0 l0.length c0),(1,.slice A1 l1.length c1),(2,.slice A2 l2.length c2),(3,.slice A3 l3.length c3),(4,vI x4)] w14 ?_ a hF
     refine ws fun K17 hK17=>?_
     rcases hq7:MachTicks.p1 l0 x4 with _ | (_ | rr10)
     ·rw [hq7] at h; cases h
     ·rw [hq7] at h
      simp only [] at h
      refine kp (MachTicks_p1 K w0 l0 A0 c0 l1 A1 c1 l2 A2 c2 l3 A3 c3 x4 hR0 hL0 hR1 hL1 hR2 hL2 hR3 hL3 hG0 b1 Z1 cz1 Z2 cz2 r1 px1 pb1 b3 hc2 Z3 cz3 Z4 cz4 Z5 cz5 Z6 cz6 Z7 cz7 _ hq7 _ hS60 _ ?_)
      rintro _ a w15 ⟨rfl,hS61,hF⟩
      replace hS61:St w0 w15 []:=hS61
      refine hK17 [(0,.slice A0 l0.length c0),(1,.slice A1 l1.length c1),(2,.slice A2 l2.length c2),(3,.slice A3 l3.length c3),(4,vI x4)] w15 ?_ a hF
      refine ws fun K22 hK22=>wr [(0,0),(1,1),(2,0),(3,0),(4,0),(5,1),(6,0),(7,2)] ?_
      rcases hq8:punctualref_ReadImage.f K l0 with _ | r3
      ·rw [hq8] at h; cases h
      rw [hq8] at h
      simp only [] at h
      refine gb0 [0] [(71,.slice A0 l0.length c0)]<|ge_call (d:=some 72) (f:=11) (args:=#[.slice A0 l0.length c0]) (by kernel_rfl) (punctualref_ReadImage_ok K l0 A0 c0 _ (hS61.rd hR0) hL0 _ hq8) ?_
      rintro eo1 w16 hP2
      obtain ⟨v6,rfl,hS62⟩:∃ v,eo1=.returned (.tuple #[v,.agg #[vI r3.2.Code,vI r3.2.At]])∧St w15 w16 []:=by
       unfold punctualref_ReadImage.Post at hP2
       rcases hro2:r3.1 with _ | px2
       ·rw [hro2] at hP2
        simp only [] at hP2
        obtain ⟨rfl,hS63⟩:=hP2
        exact ⟨_,rfl,hS63.takeN 0⟩
       rw [hro2] at hP2
       simp only [] at hP2
       obtain ⟨_,_,rfl,hS63⟩:=hP2
       exact ⟨_,rfl,hS63.takeN 0⟩
      refine ⟨_,rfl,hS62.below,?_⟩
      have hS64:=hS61.call hS62
      refine gb0 [2,3,4] [(74,.agg #[vI r3.2.Code,vI r3.2.At]),(73,v6),(70,.tuple #[v6,.agg #[vI r3.2.Code,vI r3.2.At]])]<|gw (some 16) (.cells #[vI 0,vI 0] 25) (fun b=>pP b 0) hS64 fun b5 w17 hx5 hS65=>?_
      refine gb0 [6] [(15,v6)]<|gs b5 0 #[vI 0,vI 0] 25 [vI r3.2.Code,vI r3.2.At] hS65 fun w18 hS66=>?_
      have hS67:=hS66.nc #[vI r3.2.Code,vI r3.2.At] rfl
      refine gn hK22<|ws fun K23 hK23=>wr [(0,0)]<|gb0 [0] [(17,.slice none 0 0)]<|gn hK23<|ws fun K24 hK24=>ws fun K25 hK25=>wr [(0,0),(1,0),(2,1),(3,0),(4,0)]<|gb0 [0,1] [(76,.slice A2 l2.length c2),(75,.slice A1 l1.length c1)]<|gw (some 77) (.cells #[.slice A1 l1.length c1,.slice A2 l2.length c2] 37) (fun b=>.slice (some ⟨b,0,none⟩) 2 2) hS67 fun b6 w19 hx6 hS68=>?_
      refine gb0 [3,4] [(79,vI 0),(78,vI 2)]<|gn hK25<|we_block<|we_unroll 7 ?_
      refine ue_succ fun K26 hK26=>?_
      refine ws fun K27 hK27=>wr [(0,0)]<|gb0 [0] [(80,.bool true)]<|gn hK27<|ws fun K28 hK28=>wt<|we_skip fun a hF=>hK28 _ _ ?_ a hF
      refine ws fun K29 hK29=>we_block<|ws fun K30 hK30=>wr [(0,0),(1,0),(2,0)]<|gb [0,1,2] [(19,.slice A1 l1.length c1),(82,.slice A1 l1.length c1),(81,pP b6 0)] [ld b6 0 (.slice A1 l1.length c1)] ⟨hS68.c 0,trivial⟩<|gn hK30<|ws fun K31 hK31=>wr [(0,0),(1,1),(2,2)]<|gb [0] [(83,.agg #[vI r3.2.Code,vI r3.2.At])] [ld b5 0 (vI r3.2.Code),ld b5 1 (vI r3.2.At)] ⟨hS68.c 1,hS68.c 1,trivial⟩<|gw (some 20) (.cells #[vI 0,vI 0] 25) (fun b=>pP b 0) hS68 fun b7 w20 hx7 hS69=>?_
      refine gs b7 0 #[vI 0,vI 0] 25 [vI r3.2.Code,vI r3.2.At] hS69 fun w21 hS70=>?_
      have hS71:=hS70.nc #[vI r3.2.Code,vI r3.2.At] rfl
      refine gn hK31<|ws fun K32 hK32=>?_
      rcases hq11:MachTicks.p2 l1 l3 r3 with _ | (⟨z3,z4⟩ | rr9)
      ·rw [hq11] at h; cases h
      ·rw [hq11] at h
       simp only [] at h
       refine kp (MachTicks_p2 K w0 l0 A0 c0 l1 A1 c1 l2 A2 c2 l3 A3 c3 x4 hR0 hL0 hR1 hL1 hR2 hL2 hR3 hL3 hG0 b1 Z1 cz1 Z2 cz2 r1 px1 pb1 b3 hc2 Z3 cz3 Z4 cz4 Z5 cz5 Z6 cz6 Z7 cz7 r3 v6 b5 b6 b7 _ hq11 _ hS71 _ ?_)
       rintro _ a w26 ⟨rfl,hS92,hF⟩
       replace hS92:St w0 w26 [bk b7 #[vI z3,vI z4] 25,bk b6 #[.slice A1 l1.length c1,.slice A2 l2.length c2] 37,bk b5 #[vI r3.2.Code,vI r3.2.At] 25]:=hS92
       refine hK32 [(0,.slice A0 l0.length c0),(1,.slice A1 l1.length c1),(2,.slice A2 l2.length c2),(3,.slice A3 l3.length c3),(4,vI x4),(16,pP b5 0),(17,.slice none 0 0),(19,.slice A1 l1.length c1),(20,pP b7 0),(77,.slice (some ⟨b6,0,none⟩) 2 2),(78,vI 2),(79,vI 0)] w26 ?_ a hF
       refine ws fun K34 hK34=>wr [(0,0),(1,0),(2,1),(3,0),(4,1),(5,0),(6,1),(7,0),(8,0),(9,0)]<|gb [0,1] [(99,.agg #[vI (-1),vI (-2),vI (-3)]),(98,.slice A0 l0.length c0)] [ld 0 0 (vI (-1)),ld 0 1 (vI (-2)),ld 0 2 (vI (-3))] ⟨hS92.glob hG0 rfl,hS92.glob hG0 rfl,hS92.glob hG0 rfl,trivial⟩ ?_
       rcases hq12:punctualsame_Lend_api_Ins.f l0 (⟨(-1),(-2),(-3)⟩:SIns) with _ | r4
       ·rw [hq12] at h; cases h
       rw [hq12] at h
       simp only [] at h
       obtain rfl:=punctualsame_Lend_api_Ins_full _ _ hq12
       refine ge_call (d:=some 100) (f:=10) (args:=#[.slice A0 l0.length c0,.agg #[vI (-1),vI (-2),vI (-3)]]) (by kernel_rfl) (punctualsame_Lend_api_Ins_ok l0 A0 c0 (⟨(-1),(-2),(-3)⟩:SIns) _ (hS92.rd hR0) hL0 _ hq12) ?_
       rintro _ w27 ⟨Z11,cz11,rfl,hcp1,hS93⟩
       refine ⟨_,rfl,hS93.below,?_⟩
       have hS94:=hS92.call hS93
       refine gb0 [3] [(101,.slice A1 l1.length c1)] ?_
       rcases hq13:punctualsame_Lend_int.f l1 (-9) with _ | r5
       ·rw [hq13] at h; cases h
       rw [hq13] at h
       simp only [] at h
       obtain rfl:=punctualsame_Lend_int_full _ _ hq13
       refine ge_call (d:=some 102) (f:=14) (args:=#[.slice A1 l1.length c1,vI (-9)]) (by kernel_rfl) (punctualsame_Lend_int_ok l1 A1 c1 (-9) _ (hS94.rd hR1) hL1 _ hq13) ?_
       rintro _ w28 ⟨Z12,cz12,rfl,hcp2,hS95⟩
       refine ⟨_,rfl,hS95.below,?_⟩
       have hS96:=hS94.call hS95
       refine gb0 [5] [(103,.slice A3 l3.length c3)] ?_
       rcases hq14:punctualsame_Lend_int.f l3 (-9) with _ | r6
       ·rw [hq14] at h; cases h
       rw [hq14] at h
       simp only [] at h
       obtain rfl:=punctualsame_Lend_int_full _ _ hq14
       refine ge_call (d:=some 104) (f:=14) (args:=#[.slice A3 l3.length c3,vI (-9)]) (by kernel_rfl) (punctualsame_Lend_int_ok l3 A3 c3 (-9) _ (hS96.rd hR3) hL3 _ hq14) ?_
       rintro _ w29 ⟨Z13,cz13,rfl,hcp3,hS97⟩
       refine ⟨_,rfl,hS97.below,?_⟩
       have hS98:=hS96.call hS97
       refine gb0 [7,8,9] [(23,.slice Z13 l3.length cz13),(22,.slice Z12 l1.length cz12),(21,.slice Z11 l0.length cz11)]<|gn hK34<|ws fun K35 hK35=>wr [(0,0),(1,0),(2,0),(3,1),(4,0),(5,0),(6,0),(7,1),(8,0),(9,2)] ?_
       rcases hq15:mach_New.f K l0 l1 l3 with _ | r7
       ·rw [hq15] at h; cases h
       rw [hq15] at h
       simp only [] at h
       refine gb0 [0,1,2] [(108,.slice Z13 l3.length cz13),(107,.slice Z12 l1.length cz12),(106,.slice Z11 l0.length cz11)]<|ge_call (d:=some 109) (f:=24) (args:=#[.slice Z11 l0.length cz11,.slice Z12 l1.length cz12,.slice Z13 l3.length cz13]) (by kernel_rfl) (mach_New_ok K l0 Z11 cz11 l1 Z12 cz12 l3 Z13 cz13 _ ((hS98.rdAt 2 rfl).pre) (by have h0:=hcp1; simp only [List.length_append,List.length_cons,List.length_nil] at h0; omega) ((hS98.rdAt 1 rfl).pre) (by have h0:=hcp2; simp only [List.length_append,List.length_cons,List.length_nil] at h0; omega) ((hS98.rdAt 0 rfl).pre) (by have h0:=hcp3; simp only [List.length_append,List.length_cons,List.length_nil] at h0; omega) _ hq15) ?_
       rintro _ w30 hP3
       unfold mach_New.Post at hP3
       rcases hro3:r7.1 with _ | px3
       ·rw [hro3] at hP3 h
        simp only [] at hP3 h
        obtain ⟨rfl,hS99⟩:=hP3
        refine ⟨_,rfl,hS99.below,?_⟩
        have hS100:=hS98.call hS99
        refine gb0 [4,5,6] [(111,.agg #[vI r7.2.Code,vI r7.2.At]),(110,.pointer none),(105,.tuple #[.pointer none,.agg #[vI r7.2.Code,vI r7.2.At]])]<|gw (some 25) (.cells #[vI 0,vI 0] 25) (fun b=>pP b 0) hS100 fun b8 w31 hx8 hS101=>?_
        refine gb0 [8] [(24,.pointer none)]<|gs b8 0 #[vI 0,vI 0] 25 [vI r7.2.Code,vI r7.2.At] hS101 fun w32 hS102=>?_
        have hS103:=hS102.nc #[vI r7.2.Code,vI r7.2.At] rfl
        refine gn hK35<|ws fun K36 hK36=>wr [(0,0),(1,2)]<|gb0 [0] [(112,.slice Z11 l0.length cz11)] ?_
        have hS104:=hS103.b 3
        have hS105:=hS104.cutN l0.length (by simp)
        refine ge_call2 (m:=0) (d:=some 113) (f:=28) (args:=#[.slice Z11 l0.length cz11]) (by kernel_rfl) (punctualsame_Spoil_api_Ins_ok _ _ Z11 l0.length cz11 _ hS105) ?_
        rintro _ w33 ⟨rfl,hS106⟩
        refine ⟨_,rfl,?_⟩
        refine gn hK36<|ws fun K37 hK37=>wr [(0,0),(1,2)]<|gb0 [0] [(114,.slice Z12 l1.length cz12)] ?_
        have hS107:=hS106.b 2
        have hS108:=hS107.cutN l1.length (by simp)
        refine ge_call2 (m:=0) (d:=some 115) (f:=23) (args:=#[.slice Z12 l1.length cz12]) (by kernel_rfl) (punctualsame_Spoil_int_ok _ _ Z12 l1.length cz12 _ hS108) ?_
        rintro _ w34 ⟨rfl,hS109⟩
        refine ⟨_,rfl,?_⟩
        refine gn hK37<|ws fun K38 hK38=>wr [(0,0),(1,2)]<|gb0 [0] [(116,.slice Z13 l3.length cz13)] ?_
        have hS110:=hS109.b 1
        have hS111:=hS110.cutN l3.length (by simp)
        refine ge_call2 (m:=0) (d:=some 117) (f:=23) (args:=#[.slice Z13 l3.length cz13]) (by kernel_rfl) (punctualsame_Spoil_int_ok _ _ Z13 l3.length cz13 _ hS111) ?_
        rintro _ w35 ⟨rfl,hS112⟩
        refine ⟨_,rfl,?_⟩
        refine gn hK38<|ws fun K39 hK39=>?_
        rcases hq16:MachTicks.p3 z3 z4 r7 with _ | (_ | rr4)
        ·rw [hq16] at h; cases h
        ·rw [hq16] at h
         simp only [] at h
         refine we_keep (e':=((0,.slice A0 l0.length c0)::(1,.slice A1 l1.length c1)::(2,.slice A2 l2.length c2)::(3,.slice A3 l3.length c3)::(4,vI x4)::(16,pP b5 0)::(17,.slice none 0 0)::(19,.slice A1 l1.length c1)::(20,pP b7 0)::(21,.slice Z11 l0.length cz11)::(22,.slice Z12 l1.length cz12)::(23,.slice Z13 l3.length cz13)::(24,.pointer none)::(25,pP b8 0)::(77,.slice (some ⟨b6,0,none⟩) 2 2)::(78,vI 2)::(79,vI 0)::(98,.slice A0 l0.length c0)::(99,.agg #[vI (-1),vI (-2),vI (-3)])::(100,.slice Z11 l0.length cz11)::(101,.slice A1 l1.length c1)::(102,.slice Z12 l1.length cz12)::(103,.slice A3 l3.length c3)::(104,.slice Z13 l3.length cz13)::(105,.tuple #[.pointer none,.agg #[vI r7.2.Code,vI r7.2.At]])::(106,.slice Z11 l0.length cz11)::(107,.slice Z12 l1.length cz12)::(108,.slice Z13 l3.length cz13)::(109,.tuple #[.pointer none,.agg #[vI r7.2.Code,vI r7.2.At]])::(110,.pointer none)::(111,.agg #[vI r7.2.Code,vI r7.2.At])::(112,.slice Z11 l0.length cz11)::(113,.tuple #[])::(114,.slice Z12 l1.length cz12)::(115,.tuple #[])::(116,.slice Z13 l3.length cz13)::(117,.tuple #[])::[])) ea (MachTicks_p3 K w0 l0 A0 c0 l1 A1 c1 l2 A2 c2 l3 A3 c3 x4 hR0 hL0 hR1 hL1 hR2 hL2 hR3 hL3 hG0 b1 Z1 cz1 Z2 cz2 r1 px1 pb1 b3 hc2 Z3 cz3 Z4 cz4 Z5 cz5 Z6 cz6 Z7 cz7 r3 v6 b5 b6 b7 z3 z4 Z11 cz11 hcp1 Z12 cz12 hcp2 Z13 cz13 hcp3 r7 b8 _ hq16 _ hS112 _ ?_)
         rintro _ a w36 ⟨rfl,hS118,hF⟩
         replace hS118:St w0 w36 [bk b6 #[.slice A1 l1.length c1,.slice A2 l2.length c2] 37,bk b5 #[vI r3.2.Code,vI r3.2.At] 25]:=hS118
         refine hK39 [(0,.slice A0 l0.length c0),(1,.slice A1 l1.length c1),(2,.slice A2 l2.length c2),(3,.slice A3 l3.length c3),(4,vI x4),(16,pP b5 0),(17,.slice none 0 0),(24,.pointer none),(77,.slice (some ⟨b6,0,none⟩) 2 2),(78,vI 2),(79,vI 0)] w36 ?_ a hF
         refine wr [(0,0),(1,0),(2,1),(3,2),(4,0)]<|gb0 [0,1] [(130,.pointer none),(129,.slice none 0 0)]<|gw (some 131) (.cells #[.pointer none] 51) (fun b=>.slice (some ⟨b,0,none⟩) 1 1) hS118 fun b9 w37 hx9 hS119=>?_
         have hS122:=((hS119.nil (α:=Pt) 51).b 1).b 1
         refine ge_append (α:=Pt) (m:=0) (d:=132) (t:=57) (el:=51) (bytes:=8) (c1:=1) (b1:=b9) (x:=(.tmp 129)) (y:=(.tmp 131)) (ty:=57) (v:=(.slice none 0 0)) (z:=.pointer none) (l:=([]:List Pt)) (u:=⟨none⟩) (by kernel_rfl) (by kernel_rfl) (by kernel_rfl) (by kernel_rfl) (by kernel_rfl) rfl hS122 rfl (by simp) fun v7 w38 hS123=>?_
         obtain ⟨Z14,cz14,rfl⟩:=hS123.open 0 rfl
         refine gb0 [4] [(17,(.slice Z14 ([⟨none⟩]:List Pt).length cz14))]<|gn hK29<|wr [(0,0),(1,0)]<|gb0 [0,1] [(79,vI 1),(133,vI 1)]<|gn hK26<|ue_succ fun K43 hK43=>?_
         refine ws fun K44 hK44=>wr [(0,0)]<|gb0 [0] [(80,.bool true)]<|gn hK44<|ws fun K45 hK45=>wt<|we_skip fun a hF=>hK45 _ _ ?_ a hF
         refine ws fun K46 hK46=>we_block<|ws fun K47 hK47=>wr [(0,0),(1,0),(2,0)]<|gb [0,1,2] [(19,.slice A2 l2.length c2),(82,.slice A2 l2.length c2),(81,pP b6 1)] [ld b6 1 (.slice A2 l2.length c2)] ⟨hS123.c 1,trivial⟩<|gn hK47<|ws fun K48 hK48=>wr [(0,0),(1,1),(2,2)]<|gb [0] [(83,.agg #[vI r3.2.Code,vI r3.2.At])] [ld b5 0 (vI r3.2.Code),ld b5 1 (vI r3.2.At)] ⟨hS123.c 2,hS123.c 2,trivial⟩<|gw (some 20) (.cells #[vI 0,vI 0] 25) (fun b=>pP b 0) hS123 fun b10 w39 hx10 hS124=>?_
         refine gs b10 0 #[vI 0,vI 0] 25 [vI r3.2.Code,vI r3.2.At] hS124 fun w40 hS125=>?_
         have hS126:=hS125.nc #[vI r3.2.Code,vI r3.2.At] rfl
         refine gn hK48<|ws fun K49 hK49=>?_
         rcases hq19:MachTicks.p4 l2 l3 r3 with _ | (⟨z7,z8⟩ | rr3)
         ·rw [hq19] at h; cases h
         ·rw [hq19] at h
          simp only [] at h
          refine kp (MachTicks_p4 K w0 l0 A0 c0 l1 A1 c1 l2 A2 c2 l3 A3 c3 x4 hR0 hL0 hR1 hL1 hR2 hL2 hR3 hL3 hG0 b1 Z1 cz1 Z2 cz2 r1 px1 pb1 b3 hc2 Z3 cz3 Z4 cz4 Z5 cz5 Z6 cz6 Z7 cz7 r3 v6 b5 b6 b7 z3 z4 Z11 cz11 hcp1 Z12 cz12 hcp2 Z13 cz13 hcp3 r7 b8 b9 Z14 cz14 b10 _ hq19 _ hS126 _ ?_)
          rintro _ a w45 ⟨rfl,hS151,hF⟩
          replace hS151:St w0 w45 [bk b10 #[vI z7,vI z8] 25,bk b6 #[.slice A1 l1.length c1,.slice A2 l2.length c2] 37,bk b5 #[vI r3.2.Code,vI r3.2.At] 25,ro Z14 cz14 51 ([⟨none⟩]:List Pt)]:=hS151
          refine hK49 [(0,.slice A0 l0.length c0),(1,.slice A1 l1.length c1),(2,.slice A2 l2.length c2),(3,.slice A3 l3.length c3),(4,vI x4),(16,pP b5 0),(17,(.slice Z14 ([⟨none⟩]:List Pt).length cz14)),(19,.slice A2 l2.length c2),(20,pP b10 0),(77,.slice (some ⟨b6,0,none⟩) 2 2),(78,vI 2),(79,vI 1)] w45 ?_ a hF
          refine ws fun K51 hK51=>wr [(0,0),(1,0),(2,1),(3,0),(4,1),(5,0),(6,1),(7,0),(8,0),(9,0)]<|gb [0,1] [(99,.agg #[vI (-1),vI (-2),vI (-3)]),(98,.slice A0 l0.length c0)] [ld 0 0 (vI (-1)),ld 0 1 (vI (-2)),ld 0 2 (vI (-3))] ⟨hS151.glob hG0 rfl,hS151.glob hG0 rfl,hS151.glob hG0 rfl,trivial⟩<|ge_call (d:=some 100) (f:=10) (args:=#[.slice A0 l0.length c0,.agg #[vI (-1),vI (-2),vI (-3)]]) (by kernel_rfl) (punctualsame_Lend_api_Ins_ok l0 A0 c0 (⟨(-1),(-2),(-3)⟩:SIns) _ (hS151.rd hR0) hL0 _ hq12) ?_
          rintro _ w46 ⟨Z15,cz15,rfl,hcp4,hS152⟩
          refine ⟨_,rfl,hS152.below,?_⟩
          have hS153:=hS151.call hS152
          refine gb0 [3] [(101,.slice A2 l2.length c2)] ?_
          rcases hq21:punctualsame_Lend_int.f l2 (-9) with _ | r9
          ·rw [hq21] at h; cases h
          rw [hq21] at h
          simp only [] at h
          obtain rfl:=punctualsame_Lend_int_full _ _ hq21
          refine ge_call (d:=some 102) (f:=14) (args:=#[.slice A2 l2.length c2,vI (-9)]) (by kernel_rfl) (punctualsame_Lend_int_ok l2 A2 c2 (-9) _ (hS153.rd hR2) hL2 _ hq21) ?_
          rintro _ w47 ⟨Z16,cz16,rfl,hcp5,hS154⟩
          refine ⟨_,rfl,hS154.below,?_⟩
          have hS155:=hS153.call hS154
          refine gb0 [5] [(103,.slice A3 l3.length c3)]<|ge_call (d:=some 104) (f:=14) (args:=#[.slice A3 l3.length c3,vI (-9)]) (by kernel_rfl) (punctualsame_Lend_int_ok l3 A3 c3 (-9) _ (hS155.rd hR3) hL3 _ hq14) ?_
          rintro _ w48 ⟨Z17,cz17,rfl,hcp6,hS156⟩
          refine ⟨_,rfl,hS156.below,?_⟩
          have hS157:=hS155.call hS156
          refine gb0 [7,8,9] [(23,.slice Z17 l3.length cz17),(22,.slice Z16 l2.length cz16),(21,.slice Z15 l0.length cz15)]<|gn hK51<|ws fun K52 hK52=>wr [(0,0),(1,0),(2,0),(3,1),(4,0),(5,0),(6,0),(7,1),(8,0),(9,2)] ?_
          rcases hq23:mach_New.f K l0 l2 l3 with _ | r11
          ·rw [hq23] at h; cases h
          rw [hq23] at h
          simp only [] at h
          refine gb0 [0,1,2] [(108,.slice Z17 l3.length cz17),(107,.slice Z16 l2.length cz16),(106,.slice Z15 l0.length cz15)]<|ge_call (d:=some 109) (f:=24) (args:=#[.slice Z15 l0.length cz15,.slice Z16 l2.length cz16,.slice Z17 l3.length cz17]) (by kernel_rfl) (mach_New_ok K l0 Z15 cz15 l2 Z16 cz16 l3 Z17 cz17 _ ((hS157.rdAt 2 rfl).pre) (by have h0:=hcp4; simp only [List.length_append,List.length_cons,List.length_nil] at h0; omega) ((hS157.rdAt 1 rfl).pre) (by have h0:=hcp5; simp only [List.length_append,List.length_cons,List.length_nil] at h0; omega) ((hS157.rdAt 0 rfl).pre) (by have h0:=hcp6; simp only [List.length_append,List.length_cons,List.length_nil] at h0; omega) _ hq23) ?_
          rintro _ w49 hP4
          unfold mach_New.Post at hP4
          rcases hro4:r11.1 with _ | px4
          ·rw [hro4] at hP4 h
           simp only [] at hP4 h
           obtain ⟨rfl,hS158⟩:=hP4
           refine ⟨_,rfl,hS158.below,?_⟩
           have hS159:=hS157.call hS158
           refine gb0 [4,5,6] [(111,.agg #[vI r11.2.Code,vI r11.2.At]),(110,.pointer none),(105,.tuple #[.pointer none,.agg #[vI r11.2.Code,vI r11.2.At]])]<|gw (some 25) (.cells #[vI 0,vI 0] 25) (fun b=>pP b 0) hS159 fun b11 w50 hx11 hS160=>?_
           refine gb0 [8] [(24,.pointer none)]<|gs b11 0 #[vI 0,vI 0] 25 [vI r11.2.Code,vI r11.2.At] hS160 fun w51 hS161=>?_
           have hS162:=hS161.nc #[vI r11.2.Code,vI r11.2.At] rfl
           refine gn hK52<|ws fun K53 hK53=>wr [(0,0),(1,2)]<|gb0 [0] [(112,.slice Z15 l0.length cz15)] ?_
           have hS163:=hS162.b 3
           have hS164:=hS163.cutN l0.length (by simp)
           refine ge_call2 (m:=0) (d:=some 113) (f:=28) (args:=#[.slice Z15 l0.length cz15]) (by kernel_rfl) (punctualsame_Spoil_api_Ins_ok _ _ Z15 l0.length cz15 _ hS164) ?_
           rintro _ w52 ⟨rfl,hS165⟩
           refine ⟨_,rfl,?_⟩
           refine gn hK53<|ws fun K54 hK54=>wr [(0,0),(1,2)]<|gb0 [0] [(114,.slice Z16 l2.length cz16)] ?_
           have hS166:=hS165.b 2
           have hS167:=hS166.cutN l2.length (by simp)
           refine ge_call2 (m:=0) (d:=some 115) (f:=23) (args:=#[.slice Z16 l2.length cz16]) (by kernel_rfl) (punctualsame_Spoil_int_ok _ _ Z16 l2.length cz16 _ hS167) ?_
           rintro _ w53 ⟨rfl,hS168⟩
           refine ⟨_,rfl,?_⟩
           refine gn hK54<|ws fun K55 hK55=>wr [(0,0),(1,2)]<|gb0 [0] [(116,.slice Z17 l3.length cz17)] ?_
           have hS169:=hS168.b 1
           have hS170:=hS169.cutN l3.length (by simp)
           refine ge_call2 (m:=0) (d:=some 117) (f:=23) (args:=#[.slice Z17 l3.length cz17]) (by kernel_rfl) (punctualsame_Spoil_int_ok _ _ Z17 l3.length cz17 _ hS170) ?_
           rintro _ w54 ⟨rfl,hS171⟩
           refine ⟨_,rfl,?_⟩
           refine gn hK55<|ws fun K56 hK56=>?_
           rcases hq24:MachTicks.p5 z7 z8 r11 with _ | (_ | rr1)
           ·rw [hq24] at h; cases h
           ·rw [hq24] at h
            simp only [] at h
            refine we_keep (e':=((0,.slice A0 l0.length c0)::(1,.slice A1 l1.length c1)::(2,.slice A2 l2.length c2)::(3,.slice A3 l3.length c3)::(4,vI x4)::(16,pP b5 0)::(17,(.slice Z14 ([⟨none⟩]:List Pt).length cz14))::(19,.slice A2 l2.length c2)::(20,pP b10 0)::(21,.slice Z15 l0.length cz15)::(22,.slice Z16 l2.length cz16)::(23,.slice Z17 l3.length cz17)::(24,.pointer none)::(25,pP b11 0)::(77,.slice (some ⟨b6,0,none⟩) 2 2)::(78,vI 2)::(79,vI 1)::(98,.slice A0 l0.length c0)::(99,.agg #[vI (-1),vI (-2),vI (-3)])::(100,.slice Z15 l0.length cz15)::(101,.slice A2 l2.length c2)::(102,.slice Z16 l2.length cz16)::(103,.slice A3 l3.length c3)::(104,.slice Z17 l3.length cz17)::(105,.tuple #[.pointer none,.agg #[vI r11.2.Code,vI r11.2.At]])::(106,.slice Z15 l0.length cz15)::(107,.slice Z16 l2.length cz16)::(108,.slice Z17 l3.length cz17)::(109,.tuple #[.pointer none,.agg #[vI r11.2.Code,vI r11.2.At]])::(110,.pointer none)::(111,.agg #[vI r11.2.Code,vI r11.2.At])::(112,.slice Z15 l0.length cz15)::(113,.tuple #[])::(114,.slice Z16 l2.length cz16)::(115,.tuple #[])::(116,.slice Z17 l3.length cz17)::(117,.tuple #[])::[])) ea (MachTicks_p5 K w0 l0 A0 c0 l1 A1 c1 l2 A2 c2 l3 A3 c3 x4 hR0 hL0 hR1 hL1 hR2 hL2 hR3 hL3 hG0 b1 Z1 cz1 Z2 cz2 r1 px1 pb1 b3 hc2 Z3 cz3 Z4 cz4 Z5 cz5 Z6 cz6 Z7 cz7 r3 v6 b5 b6 b7 z3 z4 Z11 cz11 hcp1 Z12 cz12 hcp2 Z13 cz13 hcp3 r7 b8 b9 Z14 cz14 b10 z7 z8 Z15 cz15 hcp4 Z16 cz16 hcp5 Z17 cz17 hcp6 r11 b11 _ hq24 _ hS171 _ ?_)
            rintro _ a w55 ⟨rfl,hS178,hF⟩
            replace hS178:St w0 w55 [bk b6 #[.slice A1 l1.length c1,.slice A2 l2.length c2] 37,bk b5 #[vI r3.2.Code,vI r3.2.At] 25,ro Z14 cz14 51 ([⟨none⟩]:List Pt)]:=hS178
            refine hK56 [(0,.slice A0 l0.length c0),(1,.slice A1 l1.length c1),(2,.slice A2 l2.length c2),(3,.slice A3 l3.length c3),(4,vI x4),(16,pP b5 0),(17,(.slice Z14 ([⟨none⟩]:List Pt).length cz14)),(24,.pointer none),(77,.slice (some ⟨b6,0,none⟩) 2 2),(78,vI 2),(79,vI 1)] w55 ?_ a hF
            refine wr [(0,0),(1,0),(2,1),(3,2),(4,0)]<|gb0 [0,1] [(130,.pointer none),(129,(.slice Z14 ([⟨none⟩]:List Pt).length cz14))]<|gw (some 131) (.cells #[.pointer none] 51) (fun b=>.slice (some ⟨b,0,none⟩) 1 1) hS178 fun b12 w56 hx12 hS179=>?_
            have hS180:=hS179.b 3
            refine ge_append (α:=Pt) (m:=0) (d:=132) (t:=57) (el:=51) (bytes:=8) (c1:=1) (b1:=b12) (x:=(.tmp 129)) (y:=(.tmp 131)) (ty:=57) (v:=(.slice Z14 ([⟨none⟩]:List Pt).length cz14)) (z:=.pointer none) (l:=([⟨none⟩]:List Pt)) (u:=⟨none⟩) (by kernel_rfl) (by kernel_rfl) (by kernel_rfl) (by kernel_rfl) (by kernel_rfl) rfl hS180 rfl (by simp) fun v8 w57 hS181=>?_
            obtain ⟨Z18,cz18,rfl⟩:=hS181.open 0 rfl
            refine gb0 [4] [(17,(.slice Z18 ([⟨none⟩,⟨none⟩]:List Pt).length cz18))]<|gn hK46<|wr [(0,0),(1,0)]<|gb0 [0,1] [(79,vI 2),(133,vI 2)]<|gn hK43<|ue_succ fun K60 hK60=>?_
            refine ws fun K61 hK61=>wr [(0,0)]<|gb0 [0] [(80,.bool false)]<|gn hK61<|ws fun K62 hK62=>wf<|we_exit fun a hF=>hK24 _ _ ?_ a hF
            refine ws fun K63 hK63=>ws fun K64 hK64=>wr [(0,0),(1,0),(2,1),(3,0),(4,0)]<|gb0 [0,1] [(135,.slice A2 l2.length c2),(134,.slice A1 l1.length c1)]<|gw (some 136) (.cells #[.slice A1 l1.length c1,.slice A2 l2.length c2] 37) (fun b=>.slice (some ⟨b,0,none⟩) 2 2) hS181 fun b13 w58 hx13 hS182=>?_
            refine gb0 [3,4] [(138,vI 0),(137,vI 2)]<|gn hK64<|we_block<|we_unroll 3 ?_
            refine ue_succ fun K65 hK65=>?_
            refine ws fun K66 hK66=>wr [(0,0)]<|gb0 [0] [(139,.bool true)]<|gn hK66<|ws fun K67 hK67=>wt<|we_skip fun a hF=>hK67 _ _ ?_ a hF
            refine ws fun K68 hK68=>we_block<|ws fun K69 hK69=>wr [(0,0),(1,0),(2,0),(3,0),(4,0)]<|gb [0,1,2,3,4] [(27,.slice A1 l1.length c1),(26,vI 0),(142,.slice A1 l1.length c1),(141,pP b13 0),(140,vI 0)] [ld b13 0 (.slice A1 l1.length c1)] ⟨hS182.c 0,trivial⟩<|gn hK69<|ws fun K70 hK70=>wr [(0,0),(1,0),(2,0),(3,0),(4,0),(5,0),(6,0),(7,0),(8,0),(9,0),(10,0),(11,0),(12,0),(13,0),(14,0),(15,2),(16,0),(17,0)]<|gb0 [0,1] [(144,vI 0),(143,(.slice Z18 ([⟨none⟩,⟨none⟩]:List Pt).length cz18))]<|gi 145 0 57 51 1 (([⟨none⟩,⟨none⟩]:List Pt).length) cz18 (.tmp 143) (.tmp 144) Z18 .i64 0 0 ((hS182.rdAt 1 rfl).eqSome (by simp)) rfl (by simp) ?_
            refine gb [3,4,5,6,7,8,9,10,11,12,13,14] [(157,undef),(156,undef),(155,undef),(154,undef),(153,undef),(152,undef),(151,undef),(150,undef),(149,undef),(148,.bool false),(147,.bool false),(146,.pointer none)] [.loaded ⟨blkOf Z18,offOf Z18+0*1,none⟩ (.pointer none)] ⟨RdL.cell (j:=0) (hS182.rdAt 1 rfl) (show ([⟨none⟩,⟨none⟩]:List Pt)[0]?=some ⟨none⟩ from rfl) rfl,trivial⟩<|ge_off rfl rfl rfl (by kernel_rfl) ?_
            refine gb0 [16,17] [(160,.bool false),(159,undef)]<|gn hK70<|wf<|we_skip fun a hF=>hK68 _ _ ?_ a hF
            refine wr [(0,0),(1,0)]<|gb0 [0,1] [(138,vI 1),(161,vI 1)]<|gn hK65<|ue_succ fun K71 hK71=>?_
            refine ws fun K72 hK72=>wr [(0,0)]<|gb0 [0] [(139,.bool true)]<|gn hK72<|ws fun K73 hK73=>wt<|we_skip fun a hF=>hK73 _ _ ?_ a hF
            refine ws fun K74 hK74=>we_block<|ws fun K75 hK75=>wr [(0,0),(1,0),(2,0),(3,0),(4,0)]<|gb [0,1,2,3,4] [(27,.slice A2 l2.length c2),(26,vI 1),(142,.slice A2 l2.length c2),(141,pP b13 1),(140,vI 1)] [ld b13 1 (.slice A2 l2.length c2)] ⟨hS182.c 0,trivial⟩<|gn hK75<|ws fun K76 hK76=>wr [(0,0),(1,0),(2,0),(3,0),(4,0),(5,0),(6,0),(7,0),(8,0),(9,0),(10,0),(11,0),(12,0),(13,0),(14,0),(15,2),(16,0),(17,0)]<|gb0 [0,1] [(144,vI 1),(143,(.slice Z18 ([⟨none⟩,⟨none⟩]:List Pt).length cz18))]<|gi 145 0 57 51 1 (([⟨none⟩,⟨none⟩]:List Pt).length) cz18 (.tmp 143) (.tmp 144) Z18 .i64 1 1 ((hS182.rdAt 1 rfl).eqSome (by simp)) rfl (by simp) ?_
            refine gb [3,4,5,6,7,8,9,10,11,12,13,14] [(157,undef),(156,undef),(155,undef),(154,undef),(153,undef),(152,undef),(151,undef),(150,undef),(149,undef),(148,.bool false),(147,.bool false),(146,.pointer none)] [.loaded ⟨blkOf Z18,offOf Z18+1*1,none⟩ (.pointer none)] ⟨RdL.cell (j:=0) (hS182.rdAt 1 rfl) (show ([⟨none⟩,⟨none⟩]:List Pt)[1]?=some ⟨none⟩ from rfl) rfl,trivial⟩<|ge_off rfl rfl rfl (by kernel_rfl) ?_
            refine gb0 [16,17] [(160,.bool false),(159,undef)]<|gn hK76<|wf<|we_skip fun a hF=>hK74 _ _ ?_ a hF
            refine wr [(0,0),(1,0)]<|gb0 [0,1] [(138,vI 2),(161,vI 2)]<|gn hK71<|ue_succ fun K77 hK77=>?_
            refine ws fun K78 hK78=>wr [(0,0)]<|gb0 [0] [(139,.bool false)]<|gn hK78<|ws fun K79 hK79=>wf<|we_exit fun a hF=>hK63 _ _ ?_ a hF
            refine ws fun K80 hK80=>wr [(0,0)]<|gb0 [0] [(10,.bool true)]<|gn hK80 ?_
            have hS183:=hS182.takeN 0
            obtain rfl:=si h
            exact we_ret (pr0 [.tmp 10] [.bool true] ⟨rfl,hS183⟩)
           rw [hq24] at h
           simp only [] at h
           refine we_keep (e':=((0,.slice A0 l0.length c0)::(1,.slice A1 l1.length c1)::(2,.slice A2 l2.length c2)::(3,.slice A3 l3.length c3)::(4,vI x4)::(16,pP b5 0)::(17,(.slice Z14 ([⟨none⟩]:List Pt).length cz14))::(19,.slice A2 l2.length c2)::(20,pP b10 0)::(21,.slice Z15 l0.length cz15)::(22,.slice Z16 l2.length cz16)::(23,.slice Z17 l3.length cz17)::(24,.pointer none)::(25,pP b11 0)::(77,.slice (some ⟨b6,0,none⟩) 2 2)::(78,vI 2)::(79,vI 1)::(98,.slice A0 l0.length c0)::(99,.agg #[vI (-1),vI (-2),vI (-3)])::(100,.slice Z15 l0.length cz15)::(101,.slice A2 l2.length c2)::(102,.slice Z16 l2.length cz16)::(103,.slice A3 l3.length c3)::(104,.slice Z17 l3.length cz17)::(105,.tuple #[.pointer none,.agg #[vI r11.2.Code,vI r11.2.At]])::(106,.slice Z15 l0.length cz15)::(107,.slice Z16 l2.length cz16)::(108,.slice Z17 l3.length cz17)::(109,.tuple #[.pointer none,.agg #[vI r11.2.Code,vI r11.2.At]])::(110,.pointer none)::(111,.agg #[vI r11.2.Code,vI r11.2.At])::(112,.slice Z15 l0.length cz15)::(113,.tuple #[])::(114,.slice Z16 l2.length cz16)::(115,.tuple #[])::(116,.slice Z17 l3.length cz17)::(117,.tuple #[])::[])) ea (MachTicks_p5 K w0 l0 A0 c0 l1 A1 c1 l2 A2 c2 l3 A3 c3 x4 hR0 hL0 hR1 hL1 hR2 hL2 hR3 hL3 hG0 b1 Z1 cz1 Z2 cz2 r1 px1 pb1 b3 hc2 Z3 cz3 Z4 cz4 Z5 cz5 Z6 cz6 Z7 cz7 r3 v6 b5 b6 b7 z3 z4 Z11 cz11 hcp1 Z12 cz12 hcp2 Z13 cz13 hcp3 r7 b8 b9 Z14 cz14 b10 z7 z8 Z15 cz15 hcp4 Z16 cz16 hcp5 Z17 cz17 hcp6 r11 b11 _ hq24 _ hS171 _ ?_)
           rintro _ a w1 ⟨_,rfl,hb⟩
           obtain rfl:=si h
           exact hb
          rw [hro4] at hP4 h
          simp only [] at hP4 h
          obtain ⟨pb2,pv6,pv7,pv8,pv9,pv10,rfl,hS184⟩:=hP4
          refine ⟨_,rfl,hS184.below,?_⟩
          have hS185:=hS157.call hS184
          refine gb0 [4,5,6] [(111,.agg #[vI r11.2.Code,vI r11.2.At]),(110,pP pb2 0),(105,.tuple #[pP pb2 0,.agg #[vI r11.2.Code,vI r11.2.At]])]<|gw (some 25) (.cells #[vI 0,vI 0] 25) (fun b=>pP b 0) hS185 fun b14 w59 hx14 hS186=>?_
          refine gb0 [8] [(24,pP pb2 0)]<|gs b14 0 #[vI 0,vI 0] 25 [vI r11.2.Code,vI r11.2.At] hS186 fun w60 hS187=>?_
          have hS188:=hS187.nc #[vI r11.2.Code,vI r11.2.At] rfl
          refine gn hK52<|ws fun K81 hK81=>wr [(0,0),(1,2)]<|gb0 [0] [(112,.slice Z15 l0.length cz15)] ?_
          have hS189:=hS188.b 9
          have hS190:=hS189.cutN l0.length (by simp)
          refine ge_call2 (m:=0) (d:=some 113) (f:=28) (args:=#[.slice Z15 l0.length cz15]) (by kernel_rfl) (punctualsame_Spoil_api_Ins_ok _ _ Z15 l0.length cz15 _ hS190) ?_
          rintro _ w61 ⟨rfl,hS191⟩
          refine ⟨_,rfl,?_⟩
          refine gn hK81<|ws fun K82 hK82=>wr [(0,0),(1,2)]<|gb0 [0] [(114,.slice Z16 l2.length cz16)] ?_
          have hS192:=hS191.b 8
          have hS193:=hS192.cutN l2.length (by simp)
          refine ge_call2 (m:=0) (d:=some 115) (f:=23) (args:=#[.slice Z16 l2.length cz16]) (by kernel_rfl) (punctualsame_Spoil_int_ok _ _ Z16 l2.length cz16 _ hS193) ?_
          rintro _ w62 ⟨rfl,hS194⟩
          refine ⟨_,rfl,?_⟩
          refine gn hK82<|ws fun K83 hK83=>wr [(0,0),(1,2)]<|gb0 [0] [(116,.slice Z17 l3.length cz17)] ?_
          have hS195:=hS194.b 7
          have hS196:=hS195.cutN l3.length (by simp)
          refine ge_call2 (m:=0) (d:=some 117) (f:=23) (args:=#[.slice Z17 l3.length cz17]) (by kernel_rfl) (punctualsame_Spoil_int_ok _ _ Z17 l3.length cz17 _ hS196) ?_
          rintro _ w63 ⟨rfl,hS197⟩
          refine ⟨_,rfl,?_⟩
          refine gn hK83<|ws fun K84 hK84=>?_
          obtain ⟨Z19,cz19,rfl⟩:=hS197.open 2 rfl
          obtain ⟨Z20,cz20,rfl⟩:=hS197.open 3 rfl
          obtain ⟨Z21,cz21,rfl⟩:=hS197.open 4 rfl
          obtain ⟨Z22,cz22,rfl⟩:=hS197.open 5 rfl
          obtain ⟨Z23,cz23,rfl⟩:=hS197.open 6 rfl
          rcases hq25:MachTicks.p6 z7 z8 r11 with _ | (_ | rr2)
          ·rw [hq25] at h; cases h
          ·rw [hq25] at h
           simp only [] at h
           refine we_keep (e':=((0,.slice A0 l0.length c0)::(1,.slice A1 l1.length c1)::(2,.slice A2 l2.length c2)::(3,.slice A3 l3.length c3)::(4,vI x4)::(16,pP b5 0)::(17,(.slice Z14 ([⟨none⟩]:List Pt).length cz14))::(19,.slice A2 l2.length c2)::(20,pP b10 0)::(21,.slice Z15 l0.length cz15)::(22,.slice Z16 l2.length cz16)::(23,.slice Z17 l3.length cz17)::(24,pP pb2 0)::(25,pP b14 0)::(77,.slice (some ⟨b6,0,none⟩) 2 2)::(78,vI 2)::(79,vI 1)::(98,.slice A0 l0.length c0)::(99,.agg #[vI (-1),vI (-2),vI (-3)])::(100,.slice Z15 l0.length cz15)::(101,.slice A2 l2.length c2)::(102,.slice Z16 l2.length cz16)::(103,.slice A3 l3.length c3)::(104,.slice Z17 l3.length cz17)::(105,.tuple #[pP pb2 0,.agg #[vI r11.2.Code,vI r11.2.At]])::(106,.slice Z15 l0.length cz15)::(107,.slice Z16 l2.length cz16)::(108,.slice Z17 l3.length cz17)::(109,.tuple #[pP pb2 0,.agg #[vI r11.2.Code,vI r11.2.At]])::(110,pP pb2 0)::(111,.agg #[vI r11.2.Code,vI r11.2.At])::(112,.slice Z15 l0.length cz15)::(113,.tuple #[])::(114,.slice Z16 l2.length cz16)::(115,.tuple #[])::(116,.slice Z17 l3.length cz17)::(117,.tuple #[])::[])) ea (MachTicks_p6 K w0 l0 A0 c0 l1 A1 c1 l2 A2 c2 l3 A3 c3 x4 hR0 hL0 hR1 hL1 hR2 hL2 hR3 hL3 hG0 b1 Z1 cz1 Z2 cz2 r1 px1 pb1 b3 hc2 Z3 cz3 Z4 cz4 Z5 cz5 Z6 cz6 Z7 cz7 r3 v6 b5 b6 b7 z3 z4 Z11 cz11 hcp1 Z12 cz12 hcp2 Z13 cz13 hcp3 r7 b8 b9 Z14 cz14 b10 z7 z8 Z15 cz15 hcp4 Z16 cz16 hcp5 Z17 cz17 hcp6 r11 px4 pb2 b14 Z19 cz19 Z20 cz20 Z21 cz21 Z22 cz22 Z23 cz23 _ hq25 _ hS197 _ ?_)
           rintro _ a w64 ⟨rfl,hS210,hF⟩
           replace hS210:St w0 w64 [bk pb2 #[(.slice Z19 px4.m_image.length cz19),(.slice Z20 px4.m_in_.length cz20),(.slice Z21 px4.m_vars.length cz21),(.slice Z22 px4.m_puts.length cz22),(.slice Z23 px4.m_stack.length cz23),vI ((px4.m_count[0]?).getD 0),vI ((px4.m_count[1]?).getD 0),vI ((px4.m_count[2]?).getD 0),vI ((px4.m_count[3]?).getD 0),vI ((px4.m_count[4]?).getD 0),vI ((px4.m_count[5]?).getD 0),vI ((px4.m_count[6]?).getD 0),vI ((px4.m_count[7]?).getD 0),vI px4.m_at_,vI px4.m_left] 86,bk b6 #[.slice A1 l1.length c1,.slice A2 l2.length c2] 37,bk b5 #[vI r3.2.Code,vI r3.2.At] 25,ro Z14 cz14 51 ([⟨none⟩]:List Pt),ro Z19 cz19 29 px4.m_image,ro Z20 cz20 3 px4.m_in_,ro Z21 cz21 3 px4.m_vars,ro Z22 cz22 101 px4.m_puts,ro Z23 cz23 3 px4.m_stack]:=hS210
           refine hK84 [(0,.slice A0 l0.length c0),(1,.slice A1 l1.length c1),(2,.slice A2 l2.length c2),(3,.slice A3 l3.length c3),(4,vI x4),(16,pP b5 0),(17,(.slice Z14 ([⟨none⟩]:List Pt).length cz14)),(24,pP pb2 0),(77,.slice (some ⟨b6,0,none⟩) 2 2),(78,vI 2),(79,vI 1)] w64 ?_ a hF
           refine wr [(0,0),(1,0),(2,1),(3,2),(4,0)]<|gb0 [0,1] [(130,pP pb2 0),(129,(.slice Z14 ([⟨none⟩]:List Pt).length cz14))]<|gw (some 131) (.cells #[pP pb2 0] 51) (fun b=>.slice (some ⟨b,0,none⟩) 1 1) hS210 fun b15 w65 hx15 hS211=>?_
           have hS212:=hS211.b 4
           refine ge_append (α:=Pt) (m:=0) (d:=132) (t:=57) (el:=51) (bytes:=8) (c1:=1) (b1:=b15) (x:=(.tmp 129)) (y:=(.tmp 131)) (ty:=57) (v:=(.slice Z14 ([⟨none⟩]:List Pt).length cz14)) (z:=.pointer none) (l:=([⟨none⟩]:List Pt)) (u:=⟨some pb2⟩) (by kernel_rfl) (by kernel_rfl) (by kernel_rfl) (by kernel_rfl) (by kernel_rfl) rfl hS212 rfl (by simp) fun v9 w66 hS213=>?_
           obtain ⟨Z24,cz24,rfl⟩:=hS213.open 0 rfl
           refine gb0 [4] [(17,(.slice Z24 ([⟨none⟩,⟨some pb2⟩]:List Pt).length cz24))]<|gn hK46<|wr [(0,0),(1,0)]<|gb0 [0,1] [(79,vI 2),(133,vI 2)]<|gn hK43<|ue_succ fun K88 hK88=>?_
           refine ws fun K89 hK89=>wr [(0,0)]<|gb0 [0] [(80,.bool false)]<|gn hK89<|ws fun K90 hK90=>wf<|we_exit fun a hF=>hK24 _ _ ?_ a hF
           refine ws fun K91 hK91=>ws fun K92 hK92=>wr [(0,0),(1,0),(2,1),(3,0),(4,0)]<|gb0 [0,1] [(135,.slice A2 l2.length c2),(134,.slice A1 l1.length c1)]<|gw (some 136) (.cells #[.slice A1 l1.length c1,.slice A2 l2.length c2] 37) (fun b=>.slice (some ⟨b,0,none⟩) 2 2) hS213 fun b16 w67 hx16 hS214=>?_
           refine gb0 [3,4] [(138,vI 0),(137,vI 2)]<|gn hK92<|we_block<|we_unroll 3 ?_
           refine ue_succ fun K93 hK93=>?_
           refine ws fun K94 hK94=>wr [(0,0)]<|gb0 [0] [(139,.bool true)]<|gn hK94<|ws fun K95 hK95=>wt<|we_skip fun a hF=>hK95 _ _ ?_ a hF
           refine ws fun K96 hK96=>we_block<|ws fun K97 hK97=>wr [(0,0),(1,0),(2,0),(3,0),(4,0)]<|gb [0,1,2,3,4] [(27,.slice A1 l1.length c1),(26,vI 0),(142,.slice A1 l1.length c1),(141,pP b16 0),(140,vI 0)] [ld b16 0 (.slice A1 l1.length c1)] ⟨hS214.c 0,trivial⟩<|gn hK97<|ws fun K98 hK98=>wr [(0,0),(1,0),(2,0),(3,0),(4,0),(5,0),(6,0),(7,0),(8,0),(9,0),(10,0),(11,0),(12,0),(13,0),(14,0),(15,2),(16,0),(17,0)]<|gb0 [0,1] [(144,vI 0),(143,(.slice Z24 ([⟨none⟩,⟨some pb2⟩]:List Pt).length cz24))]<|gi 145 0 57 51 1 (([⟨none⟩,⟨some pb2⟩]:List Pt).length) cz24 (.tmp 143) (.tmp 144) Z24 .i64 0 0 ((hS214.rdAt 1 rfl).eqSome (by simp)) rfl (by simp) ?_
           refine gb [3,4,5,6,7,8,9,10,11,12,13,14] [(157,undef),(156,undef),(155,undef),(154,undef),(153,undef),(152,undef),(151,undef),(150,undef),(149,undef),(148,.bool false),(147,.bool false),(146,.pointer none)] [.loaded ⟨blkOf Z24,offOf Z24+0*1,none⟩ (.pointer none)] ⟨RdL.cell (j:=0) (hS214.rdAt 1 rfl) (show ([⟨none⟩,⟨some pb2⟩]:List Pt)[0]?=some ⟨none⟩ from rfl) rfl,trivial⟩<|ge_off rfl rfl rfl (by kernel_rfl) ?_
           refine gb0 [16,17] [(160,.bool false),(159,undef)]<|gn hK98<|wf<|we_skip fun a hF=>hK96 _ _ ?_ a hF
           refine wr [(0,0),(1,0)]<|gb0 [0,1] [(138,vI 1),(161,vI 1)]<|gn hK93<|ue_succ fun K99 hK99=>?_
           refine ws fun K100 hK100=>wr [(0,0)]<|gb0 [0] [(139,.bool true)]<|gn hK100<|ws fun K101 hK101=>wt<|we_skip fun a hF=>hK101 _ _ ?_ a hF
           refine ws fun K102 hK102=>we_block<|ws fun K103 hK103=>wr [(0,0),(1,0),(2,0),(3,0),(4,0)]<|gb [0,1,2,3,4] [(27,.slice A2 l2.length c2),(26,vI 1),(142,.slice A2 l2.length c2),(141,pP b16 1),(140,vI 1)] [ld b16 1 (.slice A2 l2.length c2)] ⟨hS214.c 0,trivial⟩<|gn hK103<|ws fun K104 hK104=>wr [(0,0),(1,0),(2,0),(3,0),(4,0),(5,0),(6,0),(7,0),(8,0),(9,0),(10,0),(11,0),(12,0),(13,0),(14,0),(15,2),(16,0),(17,0)]<|gb0 [0,1] [(144,vI 1),(143,(.slice Z24 ([⟨none⟩,⟨some pb2⟩]:List Pt).length cz24))]<|gi 145 0 57 51 1 (([⟨none⟩,⟨some pb2⟩]:List Pt).length) cz24 (.tmp 143) (.tmp 144) Z24 .i64 1 1 ((hS214.rdAt 1 rfl).eqSome (by simp)) rfl (by simp) ?_
           refine gb [3,4,5,6,7] [(150,vI 1),(149,(.slice Z24 ([⟨none⟩,⟨some pb2⟩]:List Pt).length cz24)),(148,.bool true),(147,.bool true),(146,pP pb2 0)] [.loaded ⟨blkOf Z24,offOf Z24+1*1,none⟩ (pP pb2 0)] ⟨RdL.cell (j:=0) (hS214.rdAt 1 rfl) (show ([⟨none⟩,⟨some pb2⟩]:List Pt)[1]?=some ⟨some pb2⟩ from rfl) rfl,trivial⟩<|gi 151 0 57 51 1 (([⟨none⟩,⟨some pb2⟩]:List Pt).length) cz24 (.tmp 149) (.tmp 150) Z24 .i64 1 1 ((hS214.rdAt 1 rfl).eqSome (by simp)) rfl (by simp) ?_
           refine gb [9,10,11,12,13] [(156,vI x4),(155,.slice A3 l3.length c3),(154,.slice A2 l2.length c2),(153,.slice A0 l0.length c0),(152,pP pb2 0)] [.loaded ⟨blkOf Z24,offOf Z24+1*1,none⟩ (pP pb2 0)] ⟨RdL.cell (j:=0) (hS214.rdAt 1 rfl) (show ([⟨none⟩,⟨some pb2⟩]:List Pt)[1]?=some ⟨some pb2⟩ from rfl) rfl,trivial⟩<|ge_div (d:=157) (ty:=3) (op:=.quo) (x:=(.tmp 156)) (y:=(.const (vI 2))) (t:=3) (t2:=3) (k:=.i64) (p:=x4) (q:=2) (v:=vI (IntKind.i64.wrap (Int.tdiv x4 2))) (by kernel_rfl) (by kernel_rfl) (by kernel_rfl) (by decide) rfl ?_
           rcases hq26:ticked.f K px4.m_image px4.m_in_ px4.m_vars px4.m_puts px4.m_stack px4.m_count px4.m_at_ px4.m_left l0 l2 l3 (IntKind.i64.wrap (Int.tdiv x4 2)) with _ | r12
           ·rw [hq26] at h; cases h
           rw [hq26] at h
           simp only [] at h
           have hS222:=((((((hS214.b 9).b 9).b 9).b 9).b 9).b 7).packN 6
           refine ge_call2 (m:=0) (d:=some 158) (f:=29) (args:=#[pP pb2 0,.slice A0 l0.length c0,.slice A2 l2.length c2,.slice A3 l3.length c3,vI (IntKind.i64.wrap (Int.tdiv x4 2))]) (by kernel_rfl) (ticked_ok K pb2 px4.m_image Z19 cz19 px4.m_in_ Z20 cz20 px4.m_vars Z21 cz21 px4.m_puts Z22 cz22 px4.m_stack Z23 cz23 px4.m_count px4.m_at_ px4.m_left l0 A0 c0 l2 A2 c2 l3 A3 c3 (IntKind.i64.wrap (Int.tdiv x4 2)) _ _ _ hS222 hR0 hL0 hR2 hL2 hR3 hL3 _ hq26) ?_
           rintro _ w68 ⟨v10,v11,v12,rfl,hS221⟩
           refine ⟨_,rfl,?_⟩
           have hS223:=hS221.unpack [bk pb2 #[(.slice Z19 px4.m_image.length cz19),(.slice Z20 px4.m_in_.length cz20),v10,v11,v12,vI ((r12.2.2.2.2.1[0]?).getD 0),vI ((r12.2.2.2.2.1[1]?).getD 0),vI ((r12.2.2.2.2.1[2]?).getD 0),vI ((r12.2.2.2.2.1[3]?).getD 0),vI ((r12.2.2.2.2.1[4]?).getD 0),vI ((r12.2.2.2.2.1[5]?).getD 0),vI ((r12.2.2.2.2.1[6]?).getD 0),vI ((r12.2.2.2.2.1[7]?).getD 0),vI r12.2.2.2.2.2.1,vI r12.2.2.2.2.2.2] 86,ro Z19 cz19 29 px4.m_image,ro Z20 cz20 3 px4.m_in_,Own.of v10 3 r12.2.1,Own.of v11 101 r12.2.2.1,Own.of v12 3 r12.2.2.2.1]
           refine gb0 [16,17] [(160,.bool (!r12.1)),(159,.bool (!r12.1))]<|gn hK104 ?_
           by_cases hc22:r12.1=true
           ·rw [if_pos hc22] at h
            refine wk 160 (!r12.1) false (congrArg (fun z=>!z) hc22)<|wf<|we_skip fun a hF=>hK102 _ _ ?_ a hF
            refine wr [(0,0),(1,0)]<|gb0 [0,1] [(138,vI 2),(161,vI 2)]<|gn hK99<|ue_succ fun K105 hK105=>?_
            refine ws fun K106 hK106=>wr [(0,0)]<|gb0 [0] [(139,.bool false)]<|gn hK106<|ws fun K107 hK107=>wf<|we_exit fun a hF=>hK91 _ _ ?_ a hF
            refine ws fun K108 hK108=>wr [(0,0)]<|gb0 [0] [(10,.bool true)]<|gn hK108 ?_
            have hS224:=hS223.takeN 0
            obtain rfl:=si h
            exact we_ret (pr0 [.tmp 10] [.bool true] ⟨rfl,hS224⟩)
           rw [if_neg hc22] at h
           refine wk 160 (!r12.1) true (congrArg (fun z=>!z) (Bool.eq_false_iff.2 hc22))<|wt<|ws fun K109 hK109=>wr [(0,0)]<|gb0 [0] [(10,.bool false)]<|gn hK109 ?_
           have hS225:=hS223.takeN 0
           obtain rfl:=si h
           exact we_ret (pr0 [.tmp 10] [.bool false] ⟨rfl,hS225⟩)
          rw [hq25] at h
          simp only [] at h
          refine we_keep (e':=((0,.slice A0 l0.length c0)::(1,.slice A1 l1.length c1)::(2,.slice A2 l2.length c2)::(3,.slice A3 l3.length c3)::(4,vI x4)::(16,pP b5 0)::(17,(.slice Z14 ([⟨none⟩]:List Pt).length cz14))::(19,.slice A2 l2.length c2)::(20,pP b10 0)::(21,.slice Z15 l0.length cz15)::(22,.slice Z16 l2.length cz16)::(23,.slice Z17 l3.length cz17)::(24,pP pb2 0)::(25,pP b14 0)::(77,.slice (some ⟨b6,0,none⟩) 2 2)::(78,vI 2)::(79,vI 1)::(98,.slice A0 l0.length c0)::(99,.agg #[vI (-1),vI (-2),vI (-3)])::(100,.slice Z15 l0.length cz15)::(101,.slice A2 l2.length c2)::(102,.slice Z16 l2.length cz16)::(103,.slice A3 l3.length c3)::(104,.slice Z17 l3.length cz17)::(105,.tuple #[pP pb2 0,.agg #[vI r11.2.Code,vI r11.2.At]])::(106,.slice Z15 l0.length cz15)::(107,.slice Z16 l2.length cz16)::(108,.slice Z17 l3.length cz17)::(109,.tuple #[pP pb2 0,.agg #[vI r11.2.Code,vI r11.2.At]])::(110,pP pb2 0)::(111,.agg #[vI r11.2.Code,vI r11.2.At])::(112,.slice Z15 l0.length cz15)::(113,.tuple #[])::(114,.slice Z16 l2.length cz16)::(115,.tuple #[])::(116,.slice Z17 l3.length cz17)::(117,.tuple #[])::[])) ea (MachTicks_p6 K w0 l0 A0 c0 l1 A1 c1 l2 A2 c2 l3 A3 c3 x4 hR0 hL0 hR1 hL1 hR2 hL2 hR3 hL3 hG0 b1 Z1 cz1 Z2 cz2 r1 px1 pb1 b3 hc2 Z3 cz3 Z4 cz4 Z5 cz5 Z6 cz6 Z7 cz7 r3 v6 b5 b6 b7 z3 z4 Z11 cz11 hcp1 Z12 cz12 hcp2 Z13 cz13 hcp3 r7 b8 b9 Z14 cz14 b10 z7 z8 Z15 cz15 hcp4 Z16 cz16 hcp5 Z17 cz17 hcp6 r11 px4 pb2 b14 Z19 cz19 Z20 cz20 Z21 cz21 Z22 cz22 Z23 cz23 _ hq25 _ hS197 _ ?_)
          rintro _ a w1 ⟨_,rfl,hb⟩
          obtain rfl:=si h
          exact hb
         rw [hq19] at h
         simp only [] at h
         refine kp (MachTicks_p4 K w0 l0 A0 c0 l1 A1 c1 l2 A2 c2 l3 A3 c3 x4 hR0 hL0 hR1 hL1 hR2 hL2 hR3 hL3 hG0 b1 Z1 cz1 Z2 cz2 r1 px1 pb1 b3 hc2 Z3 cz3 Z4 cz4 Z5 cz5 Z6 cz6 Z7 cz7 r3 v6 b5 b6 b7 z3 z4 Z11 cz11 hcp1 Z12 cz12 hcp2 Z13 cz13 hcp3 r7 b8 b9 Z14 cz14 b10 _ hq19 _ hS126 _ ?_)
         rintro _ a w1 ⟨_,rfl,hb⟩
         obtain rfl:=si h
         exact hb
        rw [hq16] at h
        simp only [] at h
        refine we_keep (e':=((0,.slice A0 l0.length c0)::(1,.slice A1 l1.length c1)::(2,.slice A2 l2.length c2)::(3,.slice A3 l3.length c3)::(4,vI x4)::(16,pP b5 0)::(17,.slice none 0 0)::(19,.slice A1 l1.length c1)::(20,pP b7 0)::(21,.slice Z11 l0.length cz11)::(22,.slice Z12 l1.length cz12)::(23,.slice Z13 l3.length cz13)::(24,.pointer none)::(25,pP b8 0)::(77,.slice (some ⟨b6,0,none⟩) 2 2)::(78,vI 2)::(79,vI 0)::(98,.slice A0 l0.length c0)::(99,.agg #[vI (-1),vI (-2),vI (-3)])::(100,.slice Z11 l0.length cz11)::(101,.slice A1 l1.length c1)::(102,.slice Z12 l1.length cz12)::(103,.slice A3 l3.length c3)::(104,.slice Z13 l3.length cz13)::(105,.tuple #[.pointer none,.agg #[vI r7.2.Code,vI r7.2.At]])::(106,.slice Z11 l0.length cz11)::(107,.slice Z12 l1.length cz12)::(108,.slice Z13 l3.length cz13)::(109,.tuple #[.pointer none,.agg #[vI r7.2.Code,vI r7.2.At]])::(110,.pointer none)::(111,.agg #[vI r7.2.Code,vI r7.2.At])::(112,.slice Z11 l0.length cz11)::(113,.tuple #[])::(114,.slice Z12 l1.length cz12)::(115,.tuple #[])::(116,.slice Z13 l3.length cz13)::(117,.tuple #[])::[])) ea (MachTicks_p3 K w0 l0 A0 c0 l1 A1 c1 l2 A2 c2 l3 A3 c3 x4 hR0 hL0 hR1 hL1 hR2 hL2 hR3 hL3 hG0 b1 Z1 cz1 Z2 cz2 r1 px1 pb1 b3 hc2 Z3 cz3 Z4 cz4 Z5 cz5 Z6 cz6 Z7 cz7 r3 v6 b5 b6 b7 z3 z4 Z11 cz11 hcp1 Z12 cz12 hcp2 Z13 cz13 hcp3 r7 b8 _ hq16 _ hS112 _ ?_)
        rintro _ a w1 ⟨_,rfl,hb⟩
        obtain rfl:=si h
        exact hb
       rw [hro3] at hP3 h
       simp only [] at hP3 h
       obtain ⟨pb3,pv11,pv12,pv13,pv14,pv15,rfl,hS226⟩:=hP3
       refine ⟨_,rfl,hS226.below,?_⟩
       have hS227:=hS98.call hS226
       refine gb0 [4,5,6] [(111,.agg #[vI r7.2.Code,vI r7.2.At]),(110,pP pb3 0),(105,.tuple #[pP pb3 0,.agg #[vI r7.2.Code,vI r7.2.At]])]<|gw (some 25) (.cells #[vI 0,vI 0] 25) (fun b=>pP b 0) hS227 fun b17 w69 hx17 hS228=>?_
       refine gb0 [8] [(24,pP pb3 0)]<|gs b17 0 #[vI 0,vI 0] 25 [vI r7.2.Code,vI r7.2.At] hS228 fun w70 hS229=>?_
       have hS230:=hS229.nc #[vI r7.2.Code,vI r7.2.At] rfl
       refine gn hK35<|ws fun K110 hK110=>wr [(0,0),(1,2)]<|gb0 [0] [(112,.slice Z11 l0.length cz11)] ?_
       have hS231:=hS230.b 9
       have hS232:=hS231.cutN l0.length (by simp)
       refine ge_call2 (m:=0) (d:=some 113) (f:=28) (args:=#[.slice Z11 l0.length cz11]) (by kernel_rfl) (punctualsame_Spoil_api_Ins_ok _ _ Z11 l0.length cz11 _ hS232) ?_
       rintro _ w71 ⟨rfl,hS233⟩
       refine ⟨_,rfl,?_⟩
       refine gn hK110<|ws fun K111 hK111=>wr [(0,0),(1,2)]<|gb0 [0] [(114,.slice Z12 l1.length cz12)] ?_
       have hS234:=hS233.b 8
       have hS235:=hS234.cutN l1.length (by simp)
       refine ge_call2 (m:=0) (d:=some 115) (f:=23) (args:=#[.slice Z12 l1.length cz12]) (by kernel_rfl) (punctualsame_Spoil_int_ok _ _ Z12 l1.length cz12 _ hS235) ?_
       rintro _ w72 ⟨rfl,hS236⟩
       refine ⟨_,rfl,?_⟩
       refine gn hK111<|ws fun K112 hK112=>wr [(0,0),(1,2)]<|gb0 [0] [(116,.slice Z13 l3.length cz13)] ?_
       have hS237:=hS236.b 7
       have hS238:=hS237.cutN l3.length (by simp)
       refine ge_call2 (m:=0) (d:=some 117) (f:=23) (args:=#[.slice Z13 l3.length cz13]) (by kernel_rfl) (punctualsame_Spoil_int_ok _ _ Z13 l3.length cz13 _ hS238) ?_
       rintro _ w73 ⟨rfl,hS239⟩
       refine ⟨_,rfl,?_⟩
       refine gn hK112<|ws fun K113 hK113=>?_
       obtain ⟨Z25,cz25,rfl⟩:=hS239.open 2 rfl
       obtain ⟨Z26,cz26,rfl⟩:=hS239.open 3 rfl
       obtain ⟨Z27,cz27,rfl⟩:=hS239.open 4 rfl
       obtain ⟨Z28,cz28,rfl⟩:=hS239.open 5 rfl
       obtain ⟨Z29,cz29,rfl⟩:=hS239.open 6 rfl
       rcases hq27:MachTicks.p7 z3 z4 r7 with _ | (_ | rr8)
       ·rw [hq27] at h; cases h
       ·rw [hq27] at h
        simp only [] at h
        refine we_keep (e':=((0,.slice A0 l0.length c0)::(1,.slice A1 l1.length c1)::(2,.slice A2 l2.length c2)::(3,.slice A3 l3.length c3)::(4,vI x4)::(16,pP b5 0)::(17,.slice none 0 0)::(19,.slice A1 l1.length c1)::(20,pP b7 0)::(21,.slice Z11 l0.length cz11)::(22,.slice Z12 l1.length cz12)::(23,.slice Z13 l3.length cz13)::(24,pP pb3 0)::(25,pP b17 0)::(77,.slice (some ⟨b6,0,none⟩) 2 2)::(78,vI 2)::(79,vI 0)::(98,.slice A0 l0.length c0)::(99,.agg #[vI (-1),vI (-2),vI (-3)])::(100,.slice Z11 l0.length cz11)::(101,.slice A1 l1.length c1)::(102,.slice Z12 l1.length cz12)::(103,.slice A3 l3.length c3)::(104,.slice Z13 l3.length cz13)::(105,.tuple #[pP pb3 0,.agg #[vI r7.2.Code,vI r7.2.At]])::(106,.slice Z11 l0.length cz11)::(107,.slice Z12 l1.length cz12)::(108,.slice Z13 l3.length cz13)::(109,.tuple #[pP pb3 0,.agg #[vI r7.2.Code,vI r7.2.At]])::(110,pP pb3 0)::(111,.agg #[vI r7.2.Code,vI r7.2.At])::(112,.slice Z11 l0.length cz11)::(113,.tuple #[])::(114,.slice Z12 l1.length cz12)::(115,.tuple #[])::(116,.slice Z13 l3.length cz13)::(117,.tuple #[])::[])) ea (MachTicks_p7 K w0 l0 A0 c0 l1 A1 c1 l2 A2 c2 l3 A3 c3 x4 hR0 hL0 hR1 hL1 hR2 hL2 hR3 hL3 hG0 b1 Z1 cz1 Z2 cz2 r1 px1 pb1 b3 hc2 Z3 cz3 Z4 cz4 Z5 cz5 Z6 cz6 Z7 cz7 r3 v6 b5 b6 b7 z3 z4 Z11 cz11 hcp1 Z12 cz12 hcp2 Z13 cz13 hcp3 r7 px3 pb3 b17 Z25 cz25 Z26 cz26 Z27 cz27 Z28 cz28 Z29 cz29 _ hq27 _ hS239 _ ?_)
        rintro _ a w74 ⟨rfl,hS251,hF⟩
        replace hS251:St w0 w74 [bk pb3 #[(.slice Z25 px3.m_image.length cz25),(.slice Z26 px3.m_in_.length cz26),(.slice Z27 px3.m_vars.length cz27),(.slice Z28 px3.m_puts.length cz28),(.slice Z29 px3.m_stack.length cz29),vI ((px3.m_count[0]?).getD 0),vI ((px3.m_count[1]?).getD 0),vI ((px3.m_count[2]?).getD 0),vI ((px3.m_count[3]?).getD 0),vI ((px3.m_count[4]?).getD 0),vI ((px3.m_count[5]?).getD 0),vI ((px3.m_count[6]?).getD 0),vI ((px3.m_count[7]?).getD 0),vI px3.m_at_,vI px3.m_left] 86,bk b6 #[.slice A1 l1.length c1,.slice A2 l2.length c2] 37,bk b5 #[vI r3.2.Code,vI r3.2.At] 25,ro Z25 cz25 29 px3.m_image,ro Z26 cz26 3 px3.m_in_,ro Z27 cz27 3 px3.m_vars,ro Z28 cz28 101 px3.m_puts,ro Z29 cz29 3 px3.m_stack]:=hS251
        refine hK113 [(0,.slice A0 l0.length c0),(1,.slice A1 l1.length c1),(2,.slice A2 l2.length c2),(3,.slice A3 l3.length c3),(4,vI x4),(16,pP b5 0),(17,.slice none 0 0),(24,pP pb3 0),(77,.slice (some ⟨b6,0,none⟩) 2 2),(78,vI 2),(79,vI 0)] w74 ?_ a hF
        refine wr [(0,0),(1,0),(2,1),(3,2),(4,0)]<|gb0 [0,1] [(130,pP pb3 0),(129,.slice none 0 0)]<|gw (some 131) (.cells #[pP pb3 0] 51) (fun b=>.slice (some ⟨b,0,none⟩) 1 1) hS251 fun b18 w75 hx18 hS252=>?_
        have hS255:=((hS252.nil (α:=Pt) 51).b 1).b 1
        refine ge_append (α:=Pt) (m:=0) (d:=132) (t:=57) (el:=51) (bytes:=8) (c1:=1) (b1:=b18) (x:=(.tmp 129)) (y:=(.tmp 131)) (ty:=57) (v:=(.slice none 0 0)) (z:=.pointer none) (l:=([]:List Pt)) (u:=⟨some pb3⟩) (by kernel_rfl) (by kernel_rfl) (by kernel_rfl) (by kernel_rfl) (by kernel_rfl) rfl hS255 rfl (by simp) fun v13 w76 hS256=>?_
        obtain ⟨Z30,cz30,rfl⟩:=hS256.open 0 rfl
        refine gb0 [4] [(17,(.slice Z30 ([⟨some pb3⟩]:List Pt).length cz30))]<|gn hK29<|wr [(0,0),(1,0)]<|gb0 [0,1] [(79,vI 1),(133,vI 1)]<|gn hK26<|ue_succ fun K117 hK117=>?_
        refine ws fun K118 hK118=>wr [(0,0)]<|gb0 [0] [(80,.bool true)]<|gn hK118<|ws fun K119 hK119=>wt<|we_skip fun a hF=>hK119 _ _ ?_ a hF
        refine ws fun K120 hK120=>we_block<|ws fun K121 hK121=>wr [(0,0),(1,0),(2,0)]<|gb [0,1,2] [(19,.slice A2 l2.length c2),(82,.slice A2 l2.length c2),(81,pP b6 1)] [ld b6 1 (.slice A2 l2.length c2)] ⟨hS256.c 2,trivial⟩<|gn hK121<|ws fun K122 hK122=>wr [(0,0),(1,1),(2,2)]<|gb [0] [(83,.agg #[vI r3.2.Code,vI r3.2.At])] [ld b5 0 (vI r3.2.Code),ld b5 1 (vI r3.2.At)] ⟨hS256.c 3,hS256.c 3,trivial⟩<|gw (some 20) (.cells #[vI 0,vI 0] 25) (fun b=>pP b 0) hS256 fun b19 w77 hx19 hS257=>?_
        refine gs b19 0 #[vI 0,vI 0] 25 [vI r3.2.Code,vI r3.2.At] hS257 fun w78 hS258=>?_
        have hS259:=hS258.nc #[vI r3.2.Code,vI r3.2.At] rfl
        refine gn hK122<|ws fun K123 hK123=>?_
        rcases hq30:MachTicks.p8 l2 l3 r3 with _ | (⟨z11,z12⟩ | rr7)
        ·rw [hq30] at h; cases h
        ·rw [hq30] at h
         simp only [] at h
         refine kp (MachTicks_p8 K w0 l0 A0 c0 l1 A1 c1 l2 A2 c2 l3 A3 c3 x4 hR0 hL0 hR1 hL1 hR2 hL2 hR3 hL3 hG0 b1 Z1 cz1 Z2 cz2 r1 px1 pb1 b3 hc2 Z3 cz3 Z4 cz4 Z5 cz5 Z6 cz6 Z7 cz7 r3 v6 b5 b6 b7 z3 z4 Z11 cz11 hcp1 Z12 cz12 hcp2 Z13 cz13 hcp3 r7 px3 pb3 b17 Z25 cz25 Z26 cz26 Z27 cz27 Z28 cz28 Z29 cz29 b18 Z30 cz30 b19 _ hq30 _ hS259 _ ?_)
         rintro _ a w83 ⟨rfl,hS308,hF⟩
         replace hS308:St w0 w83 [bk b19 #[vI z11,vI z12] 25,bk pb3 #[(.slice Z25 px3.m_image.length cz25),(.slice Z26 px3.m_in_.length cz26),(.slice Z27 px3.m_vars.length cz27),(.slice Z28 px3.m_puts.length cz28),(.slice Z29 px3.m_stack.length cz29),vI ((px3.m_count[0]?).getD 0),vI ((px3.m_count[1]?).getD 0),vI ((px3.m_count[2]?).getD 0),vI ((px3.m_count[3]?).getD 0),vI ((px3.m_count[4]?).getD 0),vI ((px3.m_count[5]?).getD 0),vI ((px3.m_count[6]?).getD 0),vI ((px3.m_count[7]?).getD 0),vI px3.m_at_,vI px3.m_left] 86,bk b6 #[.slice A1 l1.length c1,.slice A2 l2.length c2] 37,bk b5 #[vI r3.2.Code,vI r3.2.At] 25,ro Z30 cz30 51 ([⟨some pb3⟩]:List Pt),ro Z25 cz25 29 px3.m_image,ro Z26 cz26 3 px3.m_in_,ro Z27 cz27 3 px3.m_vars,ro Z28 cz28 101 px3.m_puts,ro Z29 cz29 3 px3.m_stack]:=hS308
         refine hK123 [(0,.slice A0 l0.length c0),(1,.slice A1 l1.length c1),(2,.slice A2 l2.length c2),(3,.slice A3 l3.length c3),(4,vI x4),(16,pP b5 0),(17,(.slice Z30 ([⟨some pb3⟩]:List Pt).length cz30)),(19,.slice A2 l2.length c2),(20,pP b19 0),(77,.slice (some ⟨b6,0,none⟩) 2 2),(78,vI 2),(79,vI 1)] w83 ?_ a hF
         refine ws fun K125 hK125=>wr [(0,0),(1,0),(2,1),(3,0),(4,1),(5,0),(6,1),(7,0),(8,0),(9,0)]<|gb [0,1] [(99,.agg #[vI (-1),vI (-2),vI (-3)]),(98,.slice A0 l0.length c0)] [ld 0 0 (vI (-1)),ld 0 1 (vI (-2)),ld 0 2 (vI (-3))] ⟨hS308.glob hG0 rfl,hS308.glob hG0 rfl,hS308.glob hG0 rfl,trivial⟩<|ge_call (d:=some 100) (f:=10) (args:=#[.slice A0 l0.length c0,.agg #[vI (-1),vI (-2),vI (-3)]]) (by kernel_rfl) (punctualsame_Lend_api_Ins_ok l0 A0 c0 (⟨(-1),(-2),(-3)⟩:SIns) _ (hS308.rd hR0) hL0 _ hq12) ?_
         rintro _ w84 ⟨Z31,cz31,rfl,hcp7,hS309⟩
         refine ⟨_,rfl,hS309.below,?_⟩
         have hS310:=hS308.call hS309
         refine gb0 [3] [(101,.slice A2 l2.length c2)] ?_
         rcases hq32:punctualsame_Lend_int.f l2 (-9) with _ | r14
         ·rw [hq32] at h; cases h
         rw [hq32] at h
         simp only [] at h
         obtain rfl:=punctualsame_Lend_int_full _ _ hq32
         refine ge_call (d:=some 102) (f:=14) (args:=#[.slice A2 l2.length c2,vI (-9)]) (by kernel_rfl) (punctualsame_Lend_int_ok l2 A2 c2 (-9) _ (hS310.rd hR2) hL2 _ hq32) ?_
         rintro _ w85 ⟨Z32,cz32,rfl,hcp8,hS311⟩
         refine ⟨_,rfl,hS311.below,?_⟩
         have hS312:=hS310.call hS311
         refine gb0 [5] [(103,.slice A3 l3.length c3)]<|ge_call (d:=some 104) (f:=14) (args:=#[.slice A3 l3.length c3,vI (-9)]) (by kernel_rfl) (punctualsame_Lend_int_ok l3 A3 c3 (-9) _ (hS312.rd hR3) hL3 _ hq14) ?_
         rintro _ w86 ⟨Z33,cz33,rfl,hcp9,hS313⟩
         refine ⟨_,rfl,hS313.below,?_⟩
         have hS314:=hS312.call hS313
         refine gb0 [7,8,9] [(23,.slice Z33 l3.length cz33),(22,.slice Z32 l2.length cz32),(21,.slice Z31 l0.length cz31)]<|gn hK125<|ws fun K126 hK126=>wr [(0,0),(1,0),(2,0),(3,1),(4,0),(5,0),(6,0),(7,1),(8,0),(9,2)] ?_
         rcases hq34:mach_New.f K l0 l2 l3 with _ | r16
         ·rw [hq34] at h; cases h
         rw [hq34] at h
         simp only [] at h
         refine gb0 [0,1,2] [(108,.slice Z33 l3.length cz33),(107,.slice Z32 l2.length cz32),(106,.slice Z31 l0.length cz31)]<|ge_call (d:=some 109) (f:=24) (args:=#[.slice Z31 l0.length cz31,.slice Z32 l2.length cz32,.slice Z33 l3.length cz33]) (by kernel_rfl) (mach_New_ok K l0 Z31 cz31 l2 Z32 cz32 l3 Z33 cz33 _ ((hS314.rdAt 2 rfl).pre) (by have h0:=hcp7; simp only [List.length_append,List.length_cons,List.length_nil] at h0; omega) ((hS314.rdAt 1 rfl).pre) (by have h0:=hcp8; simp only [List.length_append,List.length_cons,List.length_nil] at h0; omega) ((hS314.rdAt 0 rfl).pre) (by have h0:=hcp9; simp only [List.length_append,List.length_cons,List.length_nil] at h0; omega) _ hq34) ?_
         rintro _ w87 hP5
         unfold mach_New.Post at hP5
         rcases hro5:r16.1 with _ | px5
         ·rw [hro5] at hP5 h
          simp only [] at hP5 h
          obtain ⟨rfl,hS315⟩:=hP5
          refine ⟨_,rfl,hS315.below,?_⟩
          have hS316:=hS314.call hS315
          refine gb0 [4,5,6] [(111,.agg #[vI r16.2.Code,vI r16.2.At]),(110,.pointer none),(105,.tuple #[.pointer none,.agg #[vI r16.2.Code,vI r16.2.At]])]<|gw (some 25) (.cells #[vI 0,vI 0] 25) (fun b=>pP b 0) hS316 fun b20 w88 hx20 hS317=>?_
          refine gb0 [8] [(24,.pointer none)]<|gs b20 0 #[vI 0,vI 0] 25 [vI r16.2.Code,vI r16.2.At] hS317 fun w89 hS318=>?_
          have hS319:=hS318.nc #[vI r16.2.Code,vI r16.2.At] rfl
          refine gn hK126<|ws fun K127 hK127=>wr [(0,0),(1,2)]<|gb0 [0] [(112,.slice Z31 l0.length cz31)] ?_
          have hS320:=hS319.b 3
          have hS321:=hS320.cutN l0.length (by simp)
          refine ge_call2 (m:=0) (d:=some 113) (f:=28) (args:=#[.slice Z31 l0.length cz31]) (by kernel_rfl) (punctualsame_Spoil_api_Ins_ok _ _ Z31 l0.length cz31 _ hS321) ?_
          rintro _ w90 ⟨rfl,hS322⟩
          refine ⟨_,rfl,?_⟩
          refine gn hK127<|ws fun K128 hK128=>wr [(0,0),(1,2)]<|gb0 [0] [(114,.slice Z32 l2.length cz32)] ?_
          have hS323:=hS322.b 2
          have hS324:=hS323.cutN l2.length (by simp)
          refine ge_call2 (m:=0) (d:=some 115) (f:=23) (args:=#[.slice Z32 l2.length cz32]) (by kernel_rfl) (punctualsame_Spoil_int_ok _ _ Z32 l2.length cz32 _ hS324) ?_
          rintro _ w91 ⟨rfl,hS325⟩
          refine ⟨_,rfl,?_⟩
          refine gn hK128<|ws fun K129 hK129=>wr [(0,0),(1,2)]<|gb0 [0] [(116,.slice Z33 l3.length cz33)] ?_
          have hS326:=hS325.b 1
          have hS327:=hS326.cutN l3.length (by simp)
          refine ge_call2 (m:=0) (d:=some 117) (f:=23) (args:=#[.slice Z33 l3.length cz33]) (by kernel_rfl) (punctualsame_Spoil_int_ok _ _ Z33 l3.length cz33 _ hS327) ?_
          rintro _ w92 ⟨rfl,hS328⟩
          refine ⟨_,rfl,?_⟩
          refine gn hK129<|ws fun K130 hK130=>?_
          rcases hq35:MachTicks.p9 z11 z12 r16 with _ | (_ | rr5)
          ·rw [hq35] at h; cases h
          ·rw [hq35] at h
           simp only [] at h
           refine we_keep (e':=((0,.slice A0 l0.length c0)::(1,.slice A1 l1.length c1)::(2,.slice A2 l2.length c2)::(3,.slice A3 l3.length c3)::(4,vI x4)::(16,pP b5 0)::(17,(.slice Z30 ([⟨some pb3⟩]:List Pt).length cz30))::(19,.slice A2 l2.length c2)::(20,pP b19 0)::(21,.slice Z31 l0.length cz31)::(22,.slice Z32 l2.length cz32)::(23,.slice Z33 l3.length cz33)::(24,.pointer none)::(25,pP b20 0)::(77,.slice (some ⟨b6,0,none⟩) 2 2)::(78,vI 2)::(79,vI 1)::(98,.slice A0 l0.length c0)::(99,.agg #[vI (-1),vI (-2),vI (-3)])::(100,.slice Z31 l0.length cz31)::(101,.slice A2 l2.length c2)::(102,.slice Z32 l2.length cz32)::(103,.slice A3 l3.length c3)::(104,.slice Z33 l3.length cz33)::(105,.tuple #[.pointer none,.agg #[vI r16.2.Code,vI r16.2.At]])::(106,.slice Z31 l0.length cz31)::(107,.slice Z32 l2.length cz32)::(108,.slice Z33 l3.length cz33)::(109,.tuple #[.pointer none,.agg #[vI r16.2.Code,vI r16.2.At]])::(110,.pointer none)::(111,.agg #[vI r16.2.Code,vI r16.2.At])::(112,.slice Z31 l0.length cz31)::(113,.tuple #[])::(114,.slice Z32 l2.length cz32)::(115,.tuple #[])::(116,.slice Z33 l3.length cz33)::(117,.tuple #[])::[])) ea (MachTicks_p9 K w0 l0 A0 c0 l1 A1 c1 l2 A2 c2 l3 A3 c3 x4 hR0 hL0 hR1 hL1 hR2 hL2 hR3 hL3 hG0 b1 Z1 cz1 Z2 cz2 r1 px1 pb1 b3 hc2 Z3 cz3 Z4 cz4 Z5 cz5 Z6 cz6 Z7 cz7 r3 v6 b5 b6 b7 z3 z4 Z11 cz11 hcp1 Z12 cz12 hcp2 Z13 cz13 hcp3 r7 px3 pb3 b17 Z25 cz25 Z26 cz26 Z27 cz27 Z28 cz28 Z29 cz29 b18 Z30 cz30 b19 z11 z12 Z31 cz31 hcp7 Z32 cz32 hcp8 Z33 cz33 hcp9 r16 b20 _ hq35 _ hS328 _ ?_)
           rintro _ a w93 ⟨rfl,hS341,hF⟩
           replace hS341:St w0 w93 [bk pb3 #[(.slice Z25 px3.m_image.length cz25),(.slice Z26 px3.m_in_.length cz26),(.slice Z27 px3.m_vars.length cz27),(.slice Z28 px3.m_puts.length cz28),(.slice Z29 px3.m_stack.length cz29),vI ((px3.m_count[0]?).getD 0),vI ((px3.m_count[1]?).getD 0),vI ((px3.m_count[2]?).getD 0),vI ((px3.m_count[3]?).getD 0),vI ((px3.m_count[4]?).getD 0),vI ((px3.m_count[5]?).getD 0),vI ((px3.m_count[6]?).getD 0),vI ((px3.m_count[7]?).getD 0),vI px3.m_at_,vI px3.m_left] 86,bk b6 #[.slice A1 l1.length c1,.slice A2 l2.length c2] 37,bk b5 #[vI r3.2.Code,vI r3.2.At] 25,ro Z30 cz30 51 ([⟨some pb3⟩]:List Pt),ro Z25 cz25 29 px3.m_image,ro Z26 cz26 3 px3.m_in_,ro Z27 cz27 3 px3.m_vars,ro Z28 cz28 101 px3.m_puts,ro Z29 cz29 3 px3.m_stack]:=hS341
           refine hK130 [(0,.slice A0 l0.length c0),(1,.slice A1 l1.length c1),(2,.slice A2 l2.length c2),(3,.slice A3 l3.length c3),(4,vI x4),(16,pP b5 0),(17,(.slice Z30 ([⟨some pb3⟩]:List Pt).length cz30)),(24,.pointer none),(77,.slice (some ⟨b6,0,none⟩) 2 2),(78,vI 2),(79,vI 1)] w93 ?_ a hF
           refine wr [(0,0),(1,0),(2,1),(3,2),(4,0)]<|gb0 [0,1] [(130,.pointer none),(129,(.slice Z30 ([⟨some pb3⟩]:List Pt).length cz30))]<|gw (some 131) (.cells #[.pointer none] 51) (fun b=>.slice (some ⟨b,0,none⟩) 1 1) hS341 fun b21 w94 hx21 hS342=>?_
           have hS343:=hS342.b 4
           refine ge_append (α:=Pt) (m:=0) (d:=132) (t:=57) (el:=51) (bytes:=8) (c1:=1) (b1:=b21) (x:=(.tmp 129)) (y:=(.tmp 131)) (ty:=57) (v:=(.slice Z30 ([⟨some pb3⟩]:List Pt).length cz30)) (z:=.pointer none) (l:=([⟨some pb3⟩]:List Pt)) (u:=⟨none⟩) (by kernel_rfl) (by kernel_rfl) (by kernel_rfl) (by kernel_rfl) (by kernel_rfl) rfl hS343 rfl (by simp) fun v14 w95 hS344=>?_
           obtain ⟨Z34,cz34,rfl⟩:=hS344.open 0 rfl
           refine gb0 [4] [(17,(.slice Z34 ([⟨some pb3⟩,⟨none⟩]:List Pt).length cz34))]<|gn hK120<|wr [(0,0),(1,0)]<|gb0 [0,1] [(79,vI 2),(133,vI 2)]<|gn hK117<|ue_succ fun K134 hK134=>?_
           refine ws fun K135 hK135=>wr [(0,0)]<|gb0 [0] [(80,.bool false)]<|gn hK135<|ws fun K136 hK136=>wf<|we_exit fun a hF=>hK24 _ _ ?_ a hF
           refine ws fun K137 hK137=>ws fun K138 hK138=>wr [(0,0),(1,0),(2,1),(3,0),(4,0)]<|gb0 [0,1] [(135,.slice A2 l2.length c2),(134,.slice A1 l1.length c1)]<|gw (some 136) (.cells #[.slice A1 l1.length c1,.slice A2 l2.length c2] 37) (fun b=>.slice (some ⟨b,0,none⟩) 2 2) hS344 fun b22 w96 hx22 hS345=>?_
           refine gb0 [3,4] [(138,vI 0),(137,vI 2)]<|gn hK138<|we_block<|we_unroll 3 ?_
           refine ue_succ fun K139 hK139=>?_
           refine ws fun K140 hK140=>wr [(0,0)]<|gb0 [0] [(139,.bool true)]<|gn hK140<|ws fun K141 hK141=>wt<|we_skip fun a hF=>hK141 _ _ ?_ a hF
           refine ws fun K142 hK142=>we_block<|ws fun K143 hK143=>wr [(0,0),(1,0),(2,0),(3,0),(4,0)]<|gb [0,1,2,3,4] [(27,.slice A1 l1.length c1),(26,vI 0),(142,.slice A1 l1.length c1),(141,pP b22 0),(140,vI 0)] [ld b22 0 (.slice A1 l1.length c1)] ⟨hS345.c 0,trivial⟩<|gn hK143<|ws fun K144 hK144=>wr [(0,0),(1,0),(2,0),(3,0),(4,0),(5,0),(6,0),(7,0),(8,0),(9,0),(10,0),(11,0),(12,0),(13,0),(14,0),(15,2),(16,0),(17,0)]<|gb0 [0,1] [(144,vI 0),(143,(.slice Z34 ([⟨some pb3⟩,⟨none⟩]:List Pt).length cz34))]<|gi 145 0 57 51 1 (([⟨some pb3⟩,⟨none⟩]:List Pt).length) cz34 (.tmp 143) (.tmp 144) Z34 .i64 0 0 ((hS345.rdAt 1 rfl).eqSome (by simp)) rfl (by simp) ?_
           refine gb [3,4,5,6,7] [(150,vI 0),(149,(.slice Z34 ([⟨some pb3⟩,⟨none⟩]:List Pt).length cz34)),(148,.bool true),(147,.bool true),(146,pP pb3 0)] [.loaded ⟨blkOf Z34,offOf Z34+0*1,none⟩ (pP pb3 0)] ⟨RdL.cell (j:=0) (hS345.rdAt 1 rfl) (show ([⟨some pb3⟩,⟨none⟩]:List Pt)[0]?=some ⟨some pb3⟩ from rfl) rfl,trivial⟩<|gi 151 0 57 51 1 (([⟨some pb3⟩,⟨none⟩]:List Pt).length) cz34 (.tmp 149) (.tmp 150) Z34 .i64 0 0 ((hS345.rdAt 1 rfl).eqSome (by simp)) rfl (by simp) ?_
           refine gb [9,10,11,12,13] [(156,vI x4),(155,.slice A3 l3.length c3),(154,.slice A1 l1.length c1),(153,.slice A0 l0.length c0),(152,pP pb3 0)] [.loaded ⟨blkOf Z34,offOf Z34+0*1,none⟩ (pP pb3 0)] ⟨RdL.cell (j:=0) (hS345.rdAt 1 rfl) (show ([⟨some pb3⟩,⟨none⟩]:List Pt)[0]?=some ⟨some pb3⟩ from rfl) rfl,trivial⟩<|ge_div (d:=157) (ty:=3) (op:=.quo) (x:=(.tmp 156)) (y:=(.const (vI 2))) (t:=3) (t2:=3) (k:=.i64) (p:=x4) (q:=2) (v:=vI (IntKind.i64.wrap (Int.tdiv x4 2))) (by kernel_rfl) (by kernel_rfl) (by kernel_rfl) (by decide) rfl ?_
           rcases hq36:ticked.f K px3.m_image px3.m_in_ px3.m_vars px3.m_puts px3.m_stack px3.m_count px3.m_at_ px3.m_left l0 l1 l3 (IntKind.i64.wrap (Int.tdiv x4 2)) with _ | r17
           ·rw [hq36] at h; cases h
           rw [hq36] at h
           simp only [] at h
           have hS353:=((((((hS345.b 9).b 9).b 9).b 9).b 9).b 7).packN 6
           refine ge_call2 (m:=0) (d:=some 158) (f:=29) (args:=#[pP pb3 0,.slice A0 l0.length c0,.slice A1 l1.length c1,.slice A3 l3.length c3,vI (IntKind.i64.wrap (Int.tdiv x4 2))]) (by kernel_rfl) (ticked_ok K pb3 px3.m_image Z25 cz25 px3.m_in_ Z26 cz26 px3.m_vars Z27 cz27 px3.m_puts Z28 cz28 px3.m_stack Z29 cz29 px3.m_count px3.m_at_ px3.m_left l0 A0 c0 l1 A1 c1 l3 A3 c3 (IntKind.i64.wrap (Int.tdiv x4 2)) _ _ _ hS353 hR0 hL0 hR1 hL1 hR3 hL3 _ hq36) ?_
           rintro _ w97 ⟨v15,v16,v17,rfl,hS352⟩
           refine ⟨_,rfl,?_⟩
           have hS354:=hS352.unpack [bk pb3 #[(.slice Z25 px3.m_image.length cz25),(.slice Z26 px3.m_in_.length cz26),v15,v16,v17,vI ((r17.2.2.2.2.1[0]?).getD 0),vI ((r17.2.2.2.2.1[1]?).getD 0),vI ((r17.2.2.2.2.1[2]?).getD 0),vI ((r17.2.2.2.2.1[3]?).getD 0),vI ((r17.2.2.2.2.1[4]?).getD 0),vI ((r17.2.2.2.2.1[5]?).getD 0),vI ((r17.2.2.2.2.1[6]?).getD 0),vI ((r17.2.2.2.2.1[7]?).getD 0),vI r17.2.2.2.2.2.1,vI r17.2.2.2.2.2.2] 86,ro Z25 cz25 29 px3.m_image,ro Z26 cz26 3 px3.m_in_,Own.of v15 3 r17.2.1,Own.of v16 101 r17.2.2.1,Own.of v17 3 r17.2.2.2.1]
           refine gb0 [16,17] [(160,.bool (!r17.1)),(159,.bool (!r17.1))]<|gn hK144 ?_
           by_cases hc30:r17.1=true
           ·rw [if_pos hc30] at h
            refine wk 160 (!r17.1) false (congrArg (fun z=>!z) hc30)<|wf<|we_skip fun a hF=>hK142 _ _ ?_ a hF
            refine wr [(0,0),(1,0)]<|gb0 [0,1] [(138,vI 1),(161,vI 1)]<|gn hK139<|ue_succ fun K145 hK145=>?_
            refine ws fun K146 hK146=>wr [(0,0)]<|gb0 [0] [(139,.bool true)]<|gn hK146<|ws fun K147 hK147=>wt<|we_skip fun a hF=>hK147 _ _ ?_ a hF
            refine ws fun K148 hK148=>we_block<|ws fun K149 hK149=>wr [(0,0),(1,0),(2,0),(3,0),(4,0)]<|gb [0,1,2,3,4] [(27,.slice A2 l2.length c2),(26,vI 1),(142,.slice A2 l2.length c2),(141,pP b22 1),(140,vI 1)] [ld b22 1 (.slice A2 l2.length c2)] ⟨hS354.c 6,trivial⟩<|gn hK149<|ws fun K150 hK150=>wr [(0,0),(1,0),(2,0),(3,0),(4,0),(5,0),(6,0),(7,0),(8,0),(9,0),(10,0),(11,0),(12,0),(13,0),(14,0),(15,2),(16,0),(17,0)]<|gb0 [0,1] [(144,vI 1),(143,(.slice Z34 ([⟨some pb3⟩,⟨none⟩]:List Pt).length cz34))]<|gi 145 0 57 51 1 (([⟨some pb3⟩,⟨none⟩]:List Pt).length) cz34 (.tmp 143) (.tmp 144) Z34 .i64 1 1 ((hS354.rdAt 7 rfl).eqSome (by simp)) rfl (by simp) ?_
            refine gb [3,4,5,6,7,8,9,10,11,12,13,14] [(157,undef),(156,undef),(155,undef),(154,undef),(153,undef),(152,undef),(151,undef),(150,undef),(149,undef),(148,.bool false),(147,.bool false),(146,.pointer none)] [.loaded ⟨blkOf Z34,offOf Z34+1*1,none⟩ (.pointer none)] ⟨RdL.cell (j:=0) (hS354.rdAt 7 rfl) (show ([⟨some pb3⟩,⟨none⟩]:List Pt)[1]?=some ⟨none⟩ from rfl) rfl,trivial⟩<|ge_off rfl rfl rfl (by kernel_rfl) ?_
            refine gb0 [16,17] [(160,.bool false),(159,undef)]<|gn hK150<|wf<|we_skip fun a hF=>hK148 _ _ ?_ a hF
            refine wr [(0,0),(1,0)]<|gb0 [0,1] [(138,vI 2),(161,vI 2)]<|gn hK145<|ue_succ fun K151 hK151=>?_
            refine ws fun K152 hK152=>wr [(0,0)]<|gb0 [0] [(139,.bool false)]<|gn hK152<|ws fun K153 hK153=>wf<|we_exit fun a hF=>hK137 _ _ ?_ a hF
            refine ws fun K154 hK154=>wr [(0,0)]<|gb0 [0] [(10,.bool true)]<|gn hK154 ?_
            have hS355:=hS354.takeN 0
            obtain rfl:=si h
            exact we_ret (pr0 [.tmp 10] [.bool true] ⟨rfl,hS355⟩)
           rw [if_neg hc30] at h
           refine wk 160 (!r17.1) true (congrArg (fun z=>!z) (Bool.eq_false_iff.2 hc30))<|wt<|ws fun K155 hK155=>wr [(0,0)]<|gb0 [0] [(10,.bool false)]<|gn hK155 ?_
           have hS356:=hS354.takeN 0
           obtain rfl:=si h
           exact we_ret (pr0 [.tmp 10] [.bool false] ⟨rfl,hS356⟩)
          rw [hq35] at h
          simp only [] at h
          refine we_keep (e':=((0,.slice A0 l0.length c0)::(1,.slice A1 l1.length c1)::(2,.slice A2 l2.length c2)::(3,.slice A3 l3.length c3)::(4,vI x4)::(16,pP b5 0)::(17,(.slice Z30 ([⟨some pb3⟩]:List Pt).length cz30))::(19,.slice A2 l2.length c2)::(20,pP b19 0)::(21,.slice Z31 l0.length cz31)::(22,.slice Z32 l2.length cz32)::(23,.slice Z33 l3.length cz33)::(24,.pointer none)::(25,pP b20 0)::(77,.slice (some ⟨b6,0,none⟩) 2 2)::(78,vI 2)::(79,vI 1)::(98,.slice A0 l0.length c0)::(99,.agg #[vI (-1),vI (-2),vI (-3)])::(100,.slice Z31 l0.length cz31)::(101,.slice A2 l2.length c2)::(102,.slice Z32 l2.length cz32)::(103,.slice A3 l3.length c3)::(104,.slice Z33 l3.length cz33)::(105,.tuple #[.pointer none,.agg #[vI r16.2.Code,vI r16.2.At]])::(106,.slice Z31 l0.length cz31)::(107,.slice Z32 l2.length cz32)::(108,.slice Z33 l3.length cz33)::(109,.tuple #[.pointer none,.agg #[vI r16.2.Code,vI r16.2.At]])::(110,.pointer none)::(111,.agg #[vI r16.2.Code,vI r16.2.At])::(112,.slice Z31 l0.length cz31)::(113,.tuple #[])::(114,.slice Z32 l2.length cz32)::(115,.tuple #[])::(116,.slice Z33 l3.length cz33)::(117,.tuple #[])::[])) ea (MachTicks_p9 K w0 l0 A0 c0 l1 A1 c1 l2 A2 c2 l3 A3 c3 x4 hR0 hL0 hR1 hL1 hR2 hL2 hR3 hL3 hG0 b1 Z1 cz1 Z2 cz2 r1 px1 pb1 b3 hc2 Z3 cz3 Z4 cz4 Z5 cz5 Z6 cz6 Z7 cz7 r3 v6 b5 b6 b7 z3 z4 Z11 cz11 hcp1 Z12 cz12 hcp2 Z13 cz13 hcp3 r7 px3 pb3 b17 Z25 cz25 Z26 cz26 Z27 cz27 Z28 cz28 Z29 cz29 b18 Z30 cz30 b19 z11 z12 Z31 cz31 hcp7 Z32 cz32 hcp8 Z33 cz33 hcp9 r16 b20 _ hq35 _ hS328 _ ?_)
          rintro _ a w1 ⟨_,rfl,hb⟩
          obtain rfl:=si h
          exact hb
         rw [hro5] at hP5 h
         simp only [] at hP5 h
         obtain ⟨pb4,pv16,pv17,pv18,pv19,pv20,rfl,hS357⟩:=hP5
         refine ⟨_,rfl,hS357.below,?_⟩
         have hS358:=hS314.call hS357
         refine gb0 [4,5,6] [(111,.agg #[vI r16.2.Code,vI r16.2.At]),(110,pP pb4 0),(105,.tuple #[pP pb4 0,.agg #[vI r16.2.Code,vI r16.2.At]])]<|gw (some 25) (.cells #[vI 0,vI 0] 25) (fun b=>pP b 0) hS358 fun b23 w98 hx23 hS359=>?_
         refine gb0 [8] [(24,pP pb4 0)]<|gs b23 0 #[vI 0,vI 0] 25 [vI r16.2.Code,vI r16.2.At] hS359 fun w99 hS360=>?_
         have hS361:=hS360.nc #[vI r16.2.Code,vI r16.2.At] rfl
         refine gn hK126<|ws fun K156 hK156=>wr [(0,0),(1,2)]<|gb0 [0] [(112,.slice Z31 l0.length cz31)] ?_
         have hS362:=hS361.b 9
         have hS363:=hS362.cutN l0.length (by simp)
         refine ge_call2 (m:=0) (d:=some 113) (f:=28) (args:=#[.slice Z31 l0.length cz31]) (by kernel_rfl) (punctualsame_Spoil_api_Ins_ok _ _ Z31 l0.length cz31 _ hS363) ?_
         rintro _ w100 ⟨rfl,hS364⟩
         refine ⟨_,rfl,?_⟩
         refine gn hK156<|ws fun K157 hK157=>wr [(0,0),(1,2)]<|gb0 [0] [(114,.slice Z32 l2.length cz32)] ?_
         have hS365:=hS364.b 8
         have hS366:=hS365.cutN l2.length (by simp)
         refine ge_call2 (m:=0) (d:=some 115) (f:=23) (args:=#[.slice Z32 l2.length cz32]) (by kernel_rfl) (punctualsame_Spoil_int_ok _ _ Z32 l2.length cz32 _ hS366) ?_
         rintro _ w101 ⟨rfl,hS367⟩
         refine ⟨_,rfl,?_⟩
         refine gn hK157<|ws fun K158 hK158=>wr [(0,0),(1,2)]<|gb0 [0] [(116,.slice Z33 l3.length cz33)] ?_
         have hS368:=hS367.b 7
         have hS369:=hS368.cutN l3.length (by simp)
         refine ge_call2 (m:=0) (d:=some 117) (f:=23) (args:=#[.slice Z33 l3.length cz33]) (by kernel_rfl) (punctualsame_Spoil_int_ok _ _ Z33 l3.length cz33 _ hS369) ?_
         rintro _ w102 ⟨rfl,hS370⟩
         refine ⟨_,rfl,?_⟩
         refine gn hK158<|ws fun K159 hK159=>?_
         obtain ⟨Z35,cz35,rfl⟩:=hS370.open 2 rfl
         obtain ⟨Z36,cz36,rfl⟩:=hS370.open 3 rfl
         obtain ⟨Z37,cz37,rfl⟩:=hS370.open 4 rfl
         obtain ⟨Z38,cz38,rfl⟩:=hS370.open 5 rfl
         obtain ⟨Z39,cz39,rfl⟩:=hS370.open 6 rfl
         rcases hq37:MachTicks.p10 z11 z12 r16 with _ | (_ | rr6)
         ·rw [hq37] at h; cases h
         ·rw [hq37] at h
          simp only [] at h
          refine we_keep (e':=((0,.slice A0 l0.length c0)::(1,.slice A1 l1.length c1)::(2,.slice A2 l2.length c2)::(3,.slice A3 l3.length c3)::(4,vI x4)::(16,pP b5 0)::(17,(.slice Z30 ([⟨some pb3⟩]:List Pt).length cz30))::(19,.slice A2 l2.length c2)::(20,pP b19 0)::(21,.slice Z31 l0.length cz31)::(22,.slice Z32 l2.length cz32)::(23,.slice Z33 l3.length cz33)::(24,pP pb4 0)::(25,pP b23 0)::(77,.slice (some ⟨b6,0,none⟩) 2 2)::(78,vI 2)::(79,vI 1)::(98,.slice A0 l0.length c0)::(99,.agg #[vI (-1),vI (-2),vI (-3)])::(100,.slice Z31 l0.length cz31)::(101,.slice A2 l2.length c2)::(102,.slice Z32 l2.length cz32)::(103,.slice A3 l3.length c3)::(104,.slice Z33 l3.length cz33)::(105,.tuple #[pP pb4 0,.agg #[vI r16.2.Code,vI r16.2.At]])::(106,.slice Z31 l0.length cz31)::(107,.slice Z32 l2.length cz32)::(108,.slice Z33 l3.length cz33)::(109,.tuple #[pP pb4 0,.agg #[vI r16.2.Code,vI r16.2.At]])::(110,pP pb4 0)::(111,.agg #[vI r16.2.Code,vI r16.2.At])::(112,.slice Z31 l0.length cz31)::(113,.tuple #[])::(114,.slice Z32 l2.length cz32)::(115,.tuple #[])::(116,.slice Z33 l3.length cz33)::(117,.tuple #[])::[])) ea (MachTicks_p10 K w0 l0 A0 c0 l1 A1 c1 l2 A2 c2 l3 A3 c3 x4 hR0 hL0 hR1 hL1 hR2 hL2 hR3 hL3 hG0 b1 Z1 cz1 Z2 cz2 r1 px1 pb1 b3 hc2 Z3 cz3 Z4 cz4 Z5 cz5 Z6 cz6 Z7 cz7 r3 v6 b5 b6 b7 z3 z4 Z11 cz11 hcp1 Z12 cz12 hcp2 Z13 cz13 hcp3 r7 px3 pb3 b17 Z25 cz25 Z26 cz26 Z27 cz27 Z28 cz28 Z29 cz29 b18 Z30 cz30 b19 z11 z12 Z31 cz31 hcp7 Z32 cz32 hcp8 Z33 cz33 hcp9 r16 px5 pb4 b23 Z35 cz35 Z36 cz36 Z37 cz37 Z38 cz38 Z39 cz39 _ hq37 _ hS370 _ ?_)
          rintro _ a w103 ⟨rfl,hS389,hF⟩
          replace hS389:St w0 w103 [bk pb4 #[(.slice Z35 px5.m_image.length cz35),(.slice Z36 px5.m_in_.length cz36),(.slice Z37 px5.m_vars.length cz37),(.slice Z38 px5.m_puts.length cz38),(.slice Z39 px5.m_stack.length cz39),vI ((px5.m_count[0]?).getD 0),vI ((px5.m_count[1]?).getD 0),vI ((px5.m_count[2]?).getD 0),vI ((px5.m_count[3]?).getD 0),vI ((px5.m_count[4]?).getD 0),vI ((px5.m_count[5]?).getD 0),vI ((px5.m_count[6]?).getD 0),vI ((px5.m_count[7]?).getD 0),vI px5.m_at_,vI px5.m_left] 86,bk pb3 #[(.slice Z25 px3.m_image.length cz25),(.slice Z26 px3.m_in_.length cz26),(.slice Z27 px3.m_vars.length cz27),(.slice Z28 px3.m_puts.length cz28),(.slice Z29 px3.m_stack.length cz29),vI ((px3.m_count[0]?).getD 0),vI ((px3.m_count[1]?).getD 0),vI ((px3.m_count[2]?).getD 0),vI ((px3.m_count[3]?).getD 0),vI ((px3.m_count[4]?).getD 0),vI ((px3.m_count[5]?).getD 0),vI ((px3.m_count[6]?).getD 0),vI ((px3.m_count[7]?).getD 0),vI px3.m_at_,vI px3.m_left] 86,bk b6 #[.slice A1 l1.length c1,.slice A2 l2.length c2] 37,bk b5 #[vI r3.2.Code,vI r3.2.At] 25,ro Z30 cz30 51 ([⟨some pb3⟩]:List Pt),ro Z35 cz35 29 px5.m_image,ro Z36 cz36 3 px5.m_in_,ro Z37 cz37 3 px5.m_vars,ro Z38 cz38 101 px5.m_puts,ro Z39 cz39 3 px5.m_stack,ro Z25 cz25 29 px3.m_image,ro Z26 cz26 3 px3.m_in_,ro Z27 cz27 3 px3.m_vars,ro Z28 cz28 101 px3.m_puts,ro Z29 cz29 3 px3.m_stack]:=hS389
          refine hK159 [(0,.slice A0 l0.length c0),(1,.slice A1 l1.length c1),(2,.slice A2 l2.length c2),(3,.slice A3 l3.length c3),(4,vI x4),(16,pP b5 0),(17,(.slice Z30 ([⟨some pb3⟩]:List Pt).length cz30)),(24,pP pb4 0),(77,.slice (some ⟨b6,0,none⟩) 2 2),(78,vI 2),(79,vI 1)] w103 ?_ a hF
          refine wr [(0,0),(1,0),(2,1),(3,2),(4,0)]<|gb0 [0,1] [(130,pP pb4 0),(129,(.slice Z30 ([⟨some pb3⟩]:List Pt).length cz30))]<|gw (some 131) (.cells #[pP pb4 0] 51) (fun b=>.slice (some ⟨b,0,none⟩) 1 1) hS389 fun b24 w104 hx24 hS390=>?_
          have hS391:=hS390.b 5
          refine ge_append (α:=Pt) (m:=0) (d:=132) (t:=57) (el:=51) (bytes:=8) (c1:=1) (b1:=b24) (x:=(.tmp 129)) (y:=(.tmp 131)) (ty:=57) (v:=(.slice Z30 ([⟨some pb3⟩]:List Pt).length cz30)) (z:=.pointer none) (l:=([⟨some pb3⟩]:List Pt)) (u:=⟨some pb4⟩) (by kernel_rfl) (by kernel_rfl) (by kernel_rfl) (by kernel_rfl) (by kernel_rfl) rfl hS391 rfl (by simp) fun v18 w105 hS392=>?_
          obtain ⟨Z40,cz40,rfl⟩:=hS392.open 0 rfl
          refine gb0 [4] [(17,(.slice Z40 ([⟨some pb3⟩,⟨some pb4⟩]:List Pt).length cz40))]<|gn hK120<|wr [(0,0),(1,0)]<|gb0 [0,1] [(79,vI 2),(133,vI 2)]<|gn hK117<|ue_succ fun K163 hK163=>?_
          refine ws fun K164 hK164=>wr [(0,0)]<|gb0 [0] [(80,.bool false)]<|gn hK164<|ws fun K165 hK165=>wf<|we_exit fun a hF=>hK24 _ _ ?_ a hF
          refine ws fun K166 hK166=>ws fun K167 hK167=>wr [(0,0),(1,0),(2,1),(3,0),(4,0)]<|gb0 [0,1] [(135,.slice A2 l2.length c2),(134,.slice A1 l1.length c1)]<|gw (some 136) (.cells #[.slice A1 l1.length c1,.slice A2 l2.length c2] 37) (fun b=>.slice (some ⟨b,0,none⟩) 2 2) hS392 fun b25 w106 hx25 hS393=>?_
          refine gb0 [3,4] [(138,vI 0),(137,vI 2)]<|gn hK167<|we_block<|we_unroll 3 ?_
          refine ue_succ fun K168 hK168=>?_
          refine ws fun K169 hK169=>wr [(0,0)]<|gb0 [0] [(139,.bool true)]<|gn hK169<|ws fun K170 hK170=>wt<|we_skip fun a hF=>hK170 _ _ ?_ a hF
          refine ws fun K171 hK171=>we_block<|ws fun K172 hK172=>wr [(0,0),(1,0),(2,0),(3,0),(4,0)]<|gb [0,1,2,3,4] [(27,.slice A1 l1.length c1),(26,vI 0),(142,.slice A1 l1.length c1),(141,pP b25 0),(140,vI 0)] [ld b25 0 (.slice A1 l1.length c1)] ⟨hS393.c 0,trivial⟩<|gn hK172<|ws fun K173 hK173=>wr [(0,0),(1,0),(2,0),(3,0),(4,0),(5,0),(6,0),(7,0),(8,0),(9,0),(10,0),(11,0),(12,0),(13,0),(14,0),(15,2),(16,0),(17,0)]<|gb0 [0,1] [(144,vI 0),(143,(.slice Z40 ([⟨some pb3⟩,⟨some pb4⟩]:List Pt).length cz40))]<|gi 145 0 57 51 1 (([⟨some pb3⟩,⟨some pb4⟩]:List Pt).length) cz40 (.tmp 143) (.tmp 144) Z40 .i64 0 0 ((hS393.rdAt 1 rfl).eqSome (by simp)) rfl (by simp) ?_
          refine gb [3,4,5,6,7] [(150,vI 0),(149,(.slice Z40 ([⟨some pb3⟩,⟨some pb4⟩]:List Pt).length cz40)),(148,.bool true),(147,.bool true),(146,pP pb3 0)] [.loaded ⟨blkOf Z40,offOf Z40+0*1,none⟩ (pP pb3 0)] ⟨RdL.cell (j:=0) (hS393.rdAt 1 rfl) (show ([⟨some pb3⟩,⟨some pb4⟩]:List Pt)[0]?=some ⟨some pb3⟩ from rfl) rfl,trivial⟩<|gi 151 0 57 51 1 (([⟨some pb3⟩,⟨some pb4⟩]:List Pt).length) cz40 (.tmp 149) (.tmp 150) Z40 .i64 0 0 ((hS393.rdAt 1 rfl).eqSome (by simp)) rfl (by simp) ?_
          refine gb [9,10,11,12,13] [(156,vI x4),(155,.slice A3 l3.length c3),(154,.slice A1 l1.length c1),(153,.slice A0 l0.length c0),(152,pP pb3 0)] [.loaded ⟨blkOf Z40,offOf Z40+0*1,none⟩ (pP pb3 0)] ⟨RdL.cell (j:=0) (hS393.rdAt 1 rfl) (show ([⟨some pb3⟩,⟨some pb4⟩]:List Pt)[0]?=some ⟨some pb3⟩ from rfl) rfl,trivial⟩<|ge_div (d:=157) (ty:=3) (op:=.quo) (x:=(.tmp 156)) (y:=(.const (vI 2))) (t:=3) (t2:=3) (k:=.i64) (p:=x4) (q:=2) (v:=vI (IntKind.i64.wrap (Int.tdiv x4 2))) (by kernel_rfl) (by kernel_rfl) (by kernel_rfl) (by decide) rfl ?_
          rcases hq38:ticked.f K px3.m_image px3.m_in_ px3.m_vars px3.m_puts px3.m_stack px3.m_count px3.m_at_ px3.m_left l0 l1 l3 (IntKind.i64.wrap (Int.tdiv x4 2)) with _ | r18
          ·rw [hq38] at h; cases h
          rw [hq38] at h
          simp only [] at h
          have hS401:=((((((hS393.b 15).b 15).b 15).b 15).b 15).b 8).packN 6
          refine ge_call2 (m:=0) (d:=some 158) (f:=29) (args:=#[pP pb3 0,.slice A0 l0.length c0,.slice A1 l1.length c1,.slice A3 l3.length c3,vI (IntKind.i64.wrap (Int.tdiv x4 2))]) (by kernel_rfl) (ticked_ok K pb3 px3.m_image Z25 cz25 px3.m_in_ Z26 cz26 px3.m_vars Z27 cz27 px3.m_puts Z28 cz28 px3.m_stack Z29 cz29 px3.m_count px3.m_at_ px3.m_left l0 A0 c0 l1 A1 c1 l3 A3 c3 (IntKind.i64.wrap (Int.tdiv x4 2)) _ _ _ hS401 hR0 hL0 hR1 hL1 hR3 hL3 _ hq38) ?_
          rintro _ w107 ⟨v19,v20,v21,rfl,hS400⟩
          refine ⟨_,rfl,?_⟩
          have hS402:=hS400.unpack [bk pb3 #[(.slice Z25 px3.m_image.length cz25),(.slice Z26 px3.m_in_.length cz26),v19,v20,v21,vI ((r18.2.2.2.2.1[0]?).getD 0),vI ((r18.2.2.2.2.1[1]?).getD 0),vI ((r18.2.2.2.2.1[2]?).getD 0),vI ((r18.2.2.2.2.1[3]?).getD 0),vI ((r18.2.2.2.2.1[4]?).getD 0),vI ((r18.2.2.2.2.1[5]?).getD 0),vI ((r18.2.2.2.2.1[6]?).getD 0),vI ((r18.2.2.2.2.1[7]?).getD 0),vI r18.2.2.2.2.2.1,vI r18.2.2.2.2.2.2] 86,ro Z25 cz25 29 px3.m_image,ro Z26 cz26 3 px3.m_in_,Own.of v19 3 r18.2.1,Own.of v20 101 r18.2.2.1,Own.of v21 3 r18.2.2.2.1]
          refine gb0 [16,17] [(160,.bool (!r18.1)),(159,.bool (!r18.1))]<|gn hK173 ?_
          by_cases hc33:r18.1=true
          ·rw [if_pos hc33] at h
           refine wk 160 (!r18.1) false (congrArg (fun z=>!z) hc33)<|wf<|we_skip fun a hF=>hK171 _ _ ?_ a hF
           refine wr [(0,0),(1,0)]<|gb0 [0,1] [(138,vI 1),(161,vI 1)]<|gn hK168<|ue_succ fun K174 hK174=>?_
           refine ws fun K175 hK175=>wr [(0,0)]<|gb0 [0] [(139,.bool true)]<|gn hK175<|ws fun K176 hK176=>wt<|we_skip fun a hF=>hK176 _ _ ?_ a hF
           refine ws fun K177 hK177=>we_block<|ws fun K178 hK178=>wr [(0,0),(1,0),(2,0),(3,0),(4,0)]<|gb [0,1,2,3,4] [(27,.slice A2 l2.length c2),(26,vI 1),(142,.slice A2 l2.length c2),(141,pP b25 1),(140,vI 1)] [ld b25 1 (.slice A2 l2.length c2)] ⟨hS402.c 6,trivial⟩<|gn hK178<|ws fun K179 hK179=>wr [(0,0),(1,0),(2,0),(3,0),(4,0),(5,0),(6,0),(7,0),(8,0),(9,0),(10,0),(11,0),(12,0),(13,0),(14,0),(15,2),(16,0),(17,0)]<|gb0 [0,1] [(144,vI 1),(143,(.slice Z40 ([⟨some pb3⟩,⟨some pb4⟩]:List Pt).length cz40))]<|gi 145 0 57 51 1 (([⟨some pb3⟩,⟨some pb4⟩]:List Pt).length) cz40 (.tmp 143) (.tmp 144) Z40 .i64 1 1 ((hS402.rdAt 7 rfl).eqSome (by simp)) rfl (by simp) ?_
           refine gb [3,4,5,6,7] [(150,vI 1),(149,(.slice Z40 ([⟨some pb3⟩,⟨some pb4⟩]:List Pt).length cz40)),(148,.bool true),(147,.bool true),(146,pP pb4 0)] [.loaded ⟨blkOf Z40,offOf Z40+1*1,none⟩ (pP pb4 0)] ⟨RdL.cell (j:=0) (hS402.rdAt 7 rfl) (show ([⟨some pb3⟩,⟨some pb4⟩]:List Pt)[1]?=some ⟨some pb4⟩ from rfl) rfl,trivial⟩<|gi 151 0 57 51 1 (([⟨some pb3⟩,⟨some pb4⟩]:List Pt).length) cz40 (.tmp 149) (.tmp 150) Z40 .i64 1 1 ((hS402.rdAt 7 rfl).eqSome (by simp)) rfl (by simp) ?_
           refine gb [9,10,11,12,13] [(156,vI x4),(155,.slice A3 l3.length c3),(154,.slice A2 l2.length c2),(153,.slice A0 l0.length c0),(152,pP pb4 0)] [.loaded ⟨blkOf Z40,offOf Z40+1*1,none⟩ (pP pb4 0)] ⟨RdL.cell (j:=0) (hS402.rdAt 7 rfl) (show ([⟨some pb3⟩,⟨some pb4⟩]:List Pt)[1]?=some ⟨some pb4⟩ from rfl) rfl,trivial⟩<|ge_div (d:=157) (ty:=3) (op:=.quo) (x:=(.tmp 156)) (y:=(.const (vI 2))) (t:=3) (t2:=3) (k:=.i64) (p:=x4) (q:=2) (v:=vI (IntKind.i64.wrap (Int.tdiv x4 2))) (by kernel_rfl) (by kernel_rfl) (by kernel_rfl) (by decide) rfl ?_
           rcases hq39:ticked.f K px5.m_image px5.m_in_ px5.m_vars px5.m_puts px5.m_stack px5.m_count px5.m_at_ px5.m_left l0 l2 l3 (IntKind.i64.wrap (Int.tdiv x4 2)) with _ | r19
           ·rw [hq39] at h; cases h
           rw [hq39] at h
           simp only [] at h
           have hS410:=((((((hS402.b 15).b 15).b 15).b 15).b 15).b 13).packN 6
           refine ge_call2 (m:=0) (d:=some 158) (f:=29) (args:=#[pP pb4 0,.slice A0 l0.length c0,.slice A2 l2.length c2,.slice A3 l3.length c3,vI (IntKind.i64.wrap (Int.tdiv x4 2))]) (by kernel_rfl) (ticked_ok K pb4 px5.m_image Z35 cz35 px5.m_in_ Z36 cz36 px5.m_vars Z37 cz37 px5.m_puts Z38 cz38 px5.m_stack Z39 cz39 px5.m_count px5.m_at_ px5.m_left l0 A0 c0 l2 A2 c2 l3 A3 c3 (IntKind.i64.wrap (Int.tdiv x4 2)) _ _ _ hS410 hR0 hL0 hR2 hL2 hR3 hL3 _ hq39) ?_
           rintro _ w108 ⟨v22,v23,v24,rfl,hS409⟩
           refine ⟨_,rfl,?_⟩
           have hS411:=hS409.unpack [bk pb4 #[(.slice Z35 px5.m_image.length cz35),(.slice Z36 px5.m_in_.length cz36),v22,v23,v24,vI ((r19.2.2.2.2.1[0]?).getD 0),vI ((r19.2.2.2.2.1[1]?).getD 0),vI ((r19.2.2.2.2.1[2]?).getD 0),vI ((r19.2.2.2.2.1[3]?).getD 0),vI ((r19.2.2.2.2.1[4]?).getD 0),vI ((r19.2.2.2.2.1[5]?).getD 0),vI ((r19.2.2.2.2.1[6]?).getD 0),vI ((r19.2.2.2.2.1[7]?).getD 0),vI r19.2.2.2.2.2.1,vI r19.2.2.2.2.2.2] 86,ro Z35 cz35 29 px5.m_image,ro Z36 cz36 3 px5.m_in_,Own.of v22 3 r19.2.1,Own.of v23 101 r19.2.2.1,Own.of v24 3 r19.2.2.2.1]
           refine gb0 [16,17] [(160,.bool (!r19.1)),(159,.bool (!r19.1))]<|gn hK179 ?_
           by_cases hc34:r19.1=true
           ·rw [if_pos hc34] at h
            refine wk 160 (!r19.1) false (congrArg (fun z=>!z) hc34)<|wf<|we_skip fun a hF=>hK177 _ _ ?_ a hF
            refine wr [(0,0),(1,0)]<|gb0 [0,1] [(138,vI 2),(161,vI 2)]<|gn hK174<|ue_succ fun K180 hK180=>?_
            refine ws fun K181 hK181=>wr [(0,0)]<|gb0 [0] [(139,.bool false)]<|gn hK181<|ws fun K182 hK182=>wf<|we_exit fun a hF=>hK166 _ _ ?_ a hF
            refine ws fun K183 hK183=>wr [(0,0)]<|gb0 [0] [(10,.bool true)]<|gn hK183 ?_
            have hS412:=hS411.takeN 0
            obtain rfl:=si h
            exact we_ret (pr0 [.tmp 10] [.bool true] ⟨rfl,hS412⟩)
           rw [if_neg hc34] at h
           refine wk 160 (!r19.1) true (congrArg (fun z=>!z) (Bool.eq_false_iff.2 hc34))<|wt<|ws fun K184 hK184=>wr [(0,0)]<|gb0 [0] [(10,.bool false)]<|gn hK184 ?_
           have hS413:=hS411.takeN 0
           obtain rfl:=si h
           exact we_ret (pr0 [.tmp 10] [.bool false] ⟨rfl,hS413⟩)
          rw [if_neg hc33] at h
          refine wk 160 (!r18.1) true (congrArg (fun z=>!z) (Bool.eq_false_iff.2 hc33))<|wt<|ws fun K185 hK185=>wr [(0,0)]<|gb0 [0] [(10,.bool false)]<|gn hK185 ?_
          have hS414:=hS402.takeN 0
          obtain rfl:=si h
          exact we_ret (pr0 [.tmp 10] [.bool false] ⟨rfl,hS414⟩)
         rw [hq37] at h
         simp only [] at h
         refine we_keep (e':=((0,.slice A0 l0.length c0)::(1,.slice A1 l1.length c1)::(2,.slice A2 l2.length c2)::(3,.slice A3 l3.length c3)::(4,vI x4)::(16,pP b5 0)::(17,(.slice Z30 ([⟨some pb3⟩]:List Pt).length cz30))::(19,.slice A2 l2.length c2)::(20,pP b19 0)::(21,.slice Z31 l0.length cz31)::(22,.slice Z32 l2.length cz32)::(23,.slice Z33 l3.length cz33)::(24,pP pb4 0)::(25,pP b23 0)::(77,.slice (some ⟨b6,0,none⟩) 2 2)::(78,vI 2)::(79,vI 1)::(98,.slice A0 l0.length c0)::(99,.agg #[vI (-1),vI (-2),vI (-3)])::(100,.slice Z31 l0.length cz31)::(101,.slice A2 l2.length c2)::(102,.slice Z32 l2.length cz32)::(103,.slice A3 l3.length c3)::(104,.slice Z33 l3.length cz33)::(105,.tuple #[pP pb4 0,.agg #[vI r16.2.Code,vI r16.2.At]])::(106,.slice Z31 l0.length cz31)::(107,.slice Z32 l2.length cz32)::(108,.slice Z33 l3.length cz33)::(109,.tuple #[pP pb4 0,.agg #[vI r16.2.Code,vI r16.2.At]])::(110,pP pb4 0)::(111,.agg #[vI r16.2.Code,vI r16.2.At])::(112,.slice Z31 l0.length cz31)::(113,.tuple #[])::(114,.slice Z32 l2.length cz32)::(115,.tuple #[])::(116,.slice Z33 l3.length cz33)::(117,.tuple #[])::[])) ea (MachTicks_p10 K w0 l0 A0 c0 l1 A1 c1 l2 A2 c2 l3 A3 c3 x4 hR0 hL0 hR1 hL1 hR2 hL2 hR3 hL3 hG0 b1 Z1 cz1 Z2 cz2 r1 px1 pb1 b3 hc2 Z3 cz3 Z4 cz4 Z5 cz5 Z6 cz6 Z7 cz7 r3 v6 b5 b6 b7 z3 z4 Z11 cz11 hcp1 Z12 cz12 hcp2 Z13 cz13 hcp3 r7 px3 pb3 b17 Z25 cz25 Z26 cz26 Z27 cz27 Z28 cz28 Z29 cz29 b18 Z30 cz30 b19 z11 z12 Z31 cz31 hcp7 Z32 cz32 hcp8 Z33 cz33 hcp9 r16 px5 pb4 b23 Z35 cz35 Z36 cz36 Z37 cz37 Z38 cz38 Z39 cz39 _ hq37 _ hS370 _ ?_)
         rintro _ a w1 ⟨_,rfl,hb⟩
         obtain rfl:=si h
         exact hb
        rw [hq30] at h
        simp only [] at h
        refine kp (MachTicks_p8 K w0 l0 A0 c0 l1 A1 c1 l2 A2 c2 l3 A3 c3 x4 hR0 hL0 hR1 hL1 hR2 hL2 hR3 hL3 hG0 b1 Z1 cz1 Z2 cz2 r1 px1 pb1 b3 hc2 Z3 cz3 Z4 cz4 Z5 cz5 Z6 cz6 Z7 cz7 r3 v6 b5 b6 b7 z3 z4 Z11 cz11 hcp1 Z12 cz12 hcp2 Z13 cz13 hcp3 r7 px3 pb3 b17 Z25 cz25 Z26 cz26 Z27 cz27 Z28 cz28 Z29 cz29 b18 Z30 cz30 b19 _ hq30 _ hS259 _ ?_)
        rintro _ a w1 ⟨_,rfl,hb⟩
        obtain rfl:=si h
        exact hb
       rw [hq27] at h
       simp only [] at h
       refine we_keep (e':=((0,.slice A0 l0.length c0)::(1,.slice A1 l1.length c1)::(2,.slice A2 l2.length c2)::(3,.slice A3 l3.length c3)::(4,vI x4)::(16,pP b5 0)::(17,.slice none 0 0)::(19,.slice A1 l1.length c1)::(20,pP b7 0)::(21,.slice Z11 l0.length cz11)::(22,.slice Z12 l1.length cz12)::(23,.slice Z13 l3.length cz13)::(24,pP pb3 0)::(25,pP b17 0)::(77,.slice (some ⟨b6,0,none⟩) 2 2)::(78,vI 2)::(79,vI 0)::(98,.slice A0 l0.length c0)::(99,.agg #[vI (-1),vI (-2),vI (-3)])::(100,.slice Z11 l0.length cz11)::(101,.slice A1 l1.length c1)::(102,.slice Z12 l1.length cz12)::(103,.slice A3 l3.length c3)::(104,.slice Z13 l3.length cz13)::(105,.tuple #[pP pb3 0,.agg #[vI r7.2.Code,vI r7.2.At]])::(106,.slice Z11 l0.length cz11)::(107,.slice Z12 l1.length cz12)::(108,.slice Z13 l3.length cz13)::(109,.tuple #[pP pb3 0,.agg #[vI r7.2.Code,vI r7.2.At]])::(110,pP pb3 0)::(111,.agg #[vI r7.2.Code,vI r7.2.At])::(112,.slice Z11 l0.length cz11)::(113,.tuple #[])::(114,.slice Z12 l1.length cz12)::(115,.tuple #[])::(116,.slice Z13 l3.length cz13)::(117,.tuple #[])::[])) ea (MachTicks_p7 K w0 l0 A0 c0 l1 A1 c1 l2 A2 c2 l3 A3 c3 x4 hR0 hL0 hR1 hL1 hR2 hL2 hR3 hL3 hG0 b1 Z1 cz1 Z2 cz2 r1 px1 pb1 b3 hc2 Z3 cz3 Z4 cz4 Z5 cz5 Z6 cz6 Z7 cz7 r3 v6 b5 b6 b7 z3 z4 Z11 cz11 hcp1 Z12 cz12 hcp2 Z13 cz13 hcp3 r7 px3 pb3 b17 Z25 cz25 Z26 cz26 Z27 cz27 Z28 cz28 Z29 cz29 _ hq27 _ hS239 _ ?_)
       rintro _ a w1 ⟨_,rfl,hb⟩
       obtain rfl:=si h
       exact hb
      rw [hq11] at h
      simp only [] at h
      refine kp (MachTicks_p2 K w0 l0 A0 c0 l1 A1 c1 l2 A2 c2 l3 A3 c3 x4 hR0 hL0 hR1 hL1 hR2 hL2 hR3 hL3 hG0 b1 Z1 cz1 Z2 cz2 r1 px1 pb1 b3 hc2 Z3 cz3 Z4 cz4 Z5 cz5 Z6 cz6 Z7 cz7 r3 v6 b5 b6 b7 _ hq11 _ hS71 _ ?_)
      rintro _ a w1 ⟨_,rfl,hb⟩
      obtain rfl:=si h
      exact hb
     rw [hq7] at h
     simp only [] at h
     refine kp (MachTicks_p1 K w0 l0 A0 c0 l1 A1 c1 l2 A2 c2 l3 A3 c3 x4 hR0 hL0 hR1 hL1 hR2 hL2 hR3 hL3 hG0 b1 Z1 cz1 Z2 cz2 r1 px1 pb1 b3 hc2 Z3 cz3 Z4 cz4 Z5 cz5 Z6 cz6 Z7 cz7 _ hq7 _ hS60 _ ?_)
     rintro _ a w1 ⟨_,rfl,hb⟩
     obtain rfl:=si h
     exact hb
    rw [hq6] at h
    simp only [] at h
    refine kp (MachTicks_p0 K w0 l0 A0 c0 l1 A1 c1 l2 A2 c2 l3 A3 c3 x4 hR0 hL0 hR1 hL1 hR2 hL2 hR3 hL3 hG0 b1 Z1 cz1 Z2 cz2 r1 px1 pb1 b3 hc2 Z3 cz3 Z4 cz4 Z5 cz5 Z6 cz6 Z7 cz7 _ hq6 _ hS24 _ ?_)
    rintro _ a w1 ⟨_,rfl,hb⟩
    obtain rfl:=si h
    exact hb
   rw [if_neg hc2] at h
   refine wk 37 (r1.2.Code != 0) true (bne_iff_ne.2 hc2)<|wt<|ws fun K186 hK186=>wr [(0,0)]<|gb0 [0] [(10,.bool false)]<|gn hK186 ?_
   have hS415:=hS24.takeN 0
   obtain rfl:=si h
   exact we_ret (pr0 [.tmp 10] [.bool false] ⟨rfl,hS415⟩)
  exact go_nomore3
 refine go3_join MachTicks.t1_1 (fun (x:Value×Value×Nat×Nat) e w=>match x with | (v1,v2,b1,b2)=>e=[(0,.slice A0 l0.length c0),(1,.slice A1 l1.length c1),(2,.slice A2 l2.length c2),(3,.slice A3 l3.length c3),(4,vI x4),(10,.bool false),(12,pP b2 0),(29,v1),(30,v2),(31,.slice (some ⟨b1,0,none⟩) 4 4)]∧St w0 w [bk b2 #[vI 0,vI 0] 25,bk b1 #[vI 5,vI 0,vI 0,vI 0] 3,Own.of v2 3 (List.replicate 8 (0:Int)),Own.of v1 29 image.f]) ?_ fun hJ1_4=>?_
 ·rintro ⟨v1,v2,b1,b2⟩ _ W3 ⟨rfl,hS9⟩
  replace hS9:St w0 W3 [bk b2 #[vI 0,vI 0] 25,bk b1 #[vI 5,vI 0,vI 0,vI 0] 3,Own.of v2 3 (List.replicate 8 (0:Int)),Own.of v1 29 image.f]:=hS9
  refine go_alt3 (fun KK hKK=>?_) ?_
  ·refine ge_one2 ?_
   obtain ⟨Z1,cz1,rfl⟩:=hS9.open 3 rfl
   obtain ⟨Z2,cz2,rfl⟩:=hS9.open 2 rfl
   rcases hq2:mach_New.f K image.f (List.replicate 8 (0:Int)) ([5,0,0,0]:List Int) with _ | r1
   ·rw [hq2] at h; cases h
   rw [hq2] at h
   simp only [] at h
   refine ge_call (d:=some 32) (f:=24) (args:=#[(.slice Z1 image.f.length cz1),(.slice Z2 (List.replicate 8 (0:Int)).length cz2),.slice (some ⟨b1,0,none⟩) 4 4]) (by kernel_rfl) (mach_New_ok K image.f Z1 cz1 (List.replicate 8 (0:Int)) Z2 cz2 ([5,0,0,0]:List Int) (some ⟨b1,0,none⟩) 4 _ (hS9.rdAt 3 rfl) (hS9.capAt 3 rfl) (hS9.rdAt 2 rfl) (hS9.capAt 2 rfl) (hS9.rdBlk 1 ([5,0,0,0]:List Int) rfl rfl rfl) (Nat.le_refl _) _ hq2) ?_
   rintro _ w5 hP1
   unfold mach_New.Post at hP1
   rcases hro1:r1.1 with _ | px1
   ·rw [hro1] at hP1 h
    simp only [] at hP1 h
    obtain ⟨rfl,hS10⟩:=hP1
    refine ⟨_,rfl,hS10.below,?_⟩
    have hS11:=hS9.call hS10
    refine g2 hKK<|g30 [4,5,6,8] [(11,.pointer none),(34,.agg #[vI r1.2.Code,vI r1.2.At]),(33,.pointer none),(28,.tuple #[.pointer none,.agg #[vI r1.2.Code,vI r1.2.At]])] ?_
    have hS15:=(((hS11.b 3).b 3).b 3).b 3
    exact go3_keep [(0,.slice A0 l0.length c0),(1,.slice A1 l1.length c1),(2,.slice A2 l2.length c2),(3,.slice A3 l3.length c3),(4,vI x4),(10,.bool false),(11,.pointer none),(12,pP b2 0),(34,.agg #[vI r1.2.Code,vI r1.2.At])] ea (hJ1_2 (b1,Z1,cz1,Z2,cz2,r1,b2) _ _ ⟨rfl,hq2,hro1,hS15⟩)
   rw [hro1] at hP1 h
   simp only [] at hP1 h
   obtain ⟨pb1,pv1,pv2,pv3,pv4,pv5,rfl,hS16⟩:=hP1
   refine ⟨_,rfl,hS16.below,?_⟩
   have hS17:=hS9.call hS16
   refine g2 hKK<|g30 [4,5,6,8] [(11,pP pb1 0),(34,.agg #[vI r1.2.Code,vI r1.2.At]),(33,pP pb1 0),(28,.tuple #[pP pb1 0,.agg #[vI r1.2.Code,vI r1.2.At]])] ?_
   have hS27:=(((((((((hS17.b 9).b 9).b 9).b 8).b 8).b 8).b 8).b 8).b 8).b 9
   exact go3_keep [(0,.slice A0 l0.length c0),(1,.slice A1 l1.length c1),(2,.slice A2 l2.length c2),(3,.slice A3 l3.length c3),(4,vI x4),(10,.bool false),(11,pP pb1 0),(12,pP b2 0),(34,.agg #[vI r1.2.Code,vI r1.2.At])] ea (hJ1_3 (b1,Z1,cz1,Z2,cz2,r1,px1,pb1,pv1,pv2,pv3,pv4,pv5,b2) _ _ ⟨rfl,hq2,hro1,hS27⟩)
  exact go_nomore3
 refine go3_join MachTicks.t1_8 (fun (x:Value×Value×Nat) e w=>match x with | (v1,v2,b1)=>e=[(0,.slice A0 l0.length c0),(1,.slice A1 l1.length c1),(2,.slice A2 l2.length c2),(3,.slice A3 l3.length c3),(4,vI x4),(10,.bool false),(29,v1),(30,v2),(31,.slice (some ⟨b1,0,none⟩) 4 4)]∧St w0 w [bk b1 #[vI 5,vI 0,vI 0,vI 0] 3,Own.of v2 3 (List.replicate 8 (0:Int)),Own.of v1 29 image.f]) ?_ fun hJ1_1=>?_
 ·rintro ⟨v1,v2,b1⟩ _ W2 ⟨rfl,hS7⟩
  replace hS7:St w0 W2 [bk b1 #[vI 5,vI 0,vI 0,vI 0] 3,Own.of v2 3 (List.replicate 8 (0:Int)),Own.of v1 29 image.f]:=hS7
  refine go_alt3 (fun KK hKK=>?_) ?_
  ·refine ge_one2 ?_
   obtain ⟨Z1,cz1,rfl⟩:=hS7.open 2 rfl
   obtain ⟨Z2,cz2,rfl⟩:=hS7.open 1 rfl
   rcases hq2:mach_New.f K image.f (List.replicate 8 (0:Int)) ([5,0,0,0]:List Int) with _ | r1
   ·rw [hq2] at h; cases h
   rw [hq2] at h
   simp only [] at h
   refine ge_call (d:=some 32) (f:=24) (args:=#[(.slice Z1 image.f.length cz1),(.slice Z2 (List.replicate 8 (0:Int)).length cz2),.slice (some ⟨b1,0,none⟩) 4 4]) (by kernel_rfl) (mach_New_ok K image.f Z1 cz1 (List.replicate 8 (0:Int)) Z2 cz2 ([5,0,0,0]:List Int) (some ⟨b1,0,none⟩) 4 _ (hS7.rdAt 2 rfl) (hS7.capAt 2 rfl) (hS7.rdAt 1 rfl) (hS7.capAt 1 rfl) (hS7.rdBlk 0 ([5,0,0,0]:List Int) rfl rfl rfl) (Nat.le_refl _) _ hq2) ?_
   rintro _ w4 hP1
   unfold mach_New.Post at hP1
   rcases hro1:r1.1 with _ | px1
   ·rw [hro1] at hP1 h
    simp only [] at hP1 h
    obtain ⟨rfl,hS8⟩:=hP1
    refine ⟨_,rfl,hS8.below,?_⟩
    have hS9:=hS7.call hS8
    refine g2 hKK<|g30 [4,5,6] [(34,.agg #[vI r1.2.Code,vI r1.2.At]),(33,.pointer none),(28,.tuple #[.pointer none,.agg #[vI r1.2.Code,vI r1.2.At]])]<|go_alt3 (fun KK hKK=>?_) ?_
    ·refine ge_one2<|gw (some 12) (.cells #[vI 0,vI 0] 25) (fun b=>pP b 0) hS9 fun b2 w5 hx2 hS10=>?_
     refine g2 hKK<|g30 [8] [(11,.pointer none)] ?_
     have hS18:=(((hS10.b 3).b 3).b 3).b 3
     exact go3_keep [(0,.slice A0 l0.length c0),(1,.slice A1 l1.length c1),(2,.slice A2 l2.length c2),(3,.slice A3 l3.length c3),(4,vI x4),(10,.bool false),(11,.pointer none),(12,pP b2 0),(34,.agg #[vI r1.2.Code,vI r1.2.At])] ea (hJ1_2 (b1,Z1,cz1,Z2,cz2,r1,b2) _ _ ⟨rfl,hq2,hro1,hS18⟩)
    exact go_nomore3
   rw [hro1] at hP1 h
   simp only [] at hP1 h
   obtain ⟨pb1,pv1,pv2,pv3,pv4,pv5,rfl,hS19⟩:=hP1
   refine ⟨_,rfl,hS19.below,?_⟩
   have hS20:=hS7.call hS19
   refine g2 hKK<|g30 [4,5,6] [(34,.agg #[vI r1.2.Code,vI r1.2.At]),(33,pP pb1 0),(28,.tuple #[pP pb1 0,.agg #[vI r1.2.Code,vI r1.2.At]])]<|go_alt3 (fun KK hKK=>?_) ?_
   ·refine ge_one2<|gw (some 12) (.cells #[vI 0,vI 0] 25) (fun b=>pP b 0) hS20 fun b3 w7 hx3 hS21=>?_
    refine g2 hKK<|g30 [8] [(11,pP pb1 0)] ?_
    have hS425:=(((((((((hS21.b 9).b 9).b 9).b 9).b 9).b 9).b 9).b 9).b 9).b 9
    exact go3_keep [(0,.slice A0 l0.length c0),(1,.slice A1 l1.length c1),(2,.slice A2 l2.length c2),(3,.slice A3 l3.length c3),(4,vI x4),(10,.bool false),(11,pP pb1 0),(12,pP b3 0),(34,.agg #[vI r1.2.Code,vI r1.2.At])] ea (hJ1_3 (b1,Z1,cz1,Z2,cz2,r1,px1,pb1,pv1,pv2,pv3,pv4,pv5,b3) _ _ ⟨rfl,hq2,hro1,hS425⟩)
   exact go_nomore3
  refine go_alt3 (fun KK hKK=>?_) ?_
  ·refine ge_one2<|gw (some 12) (.cells #[vI 0,vI 0] 25) (fun b=>pP b 0) hS7 fun b2 w4 hx2 hS8=>?_
   refine g2 hKK ?_
   have hS31:=(((hS8.b 3).b 3).b 3).b 3
   exact go3_keep [(0,.slice A0 l0.length c0),(1,.slice A1 l1.length c1),(2,.slice A2 l2.length c2),(3,.slice A3 l3.length c3),(4,vI x4),(10,.bool false),(12,pP b2 0),(29,v1),(30,v2),(31,.slice (some ⟨b1,0,none⟩) 4 4)] ea (hJ1_4 (v1,v2,b1,b2) _ _ ⟨rfl,hS31⟩)
  exact go_nomore3
 refine go3_join MachTicks.t1_5 (fun (x:Value×Value×Nat) e w=>match x with | (v1,v2,b1)=>e=[(0,.slice A0 l0.length c0),(1,.slice A1 l1.length c1),(2,.slice A2 l2.length c2),(3,.slice A3 l3.length c3),(4,vI x4),(10,.bool false),(12,pP b1 0),(29,v1),(30,v2)]∧St w0 w [bk b1 #[vI 0,vI 0] 25,Own.of v2 3 (List.replicate 8 (0:Int)),Own.of v1 29 image.f]) ?_ fun hJ1_5=>?_
 ·rintro ⟨v1,v2,b1⟩ _ W2 ⟨rfl,hS7⟩
  replace hS7:St w0 W2 [bk b1 #[vI 0,vI 0] 25,Own.of v2 3 (List.replicate 8 (0:Int)),Own.of v1 29 image.f]:=hS7
  refine go_alt3 (fun KK hKK=>?_) ?_
  ·refine ge_one2<|gw (some 31) (.cells #[vI 5,vI 0,vI 0,vI 0] 3) (fun b=>.slice (some ⟨b,0,none⟩) 4 4) hS7 fun b2 w4 hx2 hS8=>?_
   refine g2 hKK ?_
   have hS12:=(((hS8.b 3).b 3).b 2).b 3
   exact go3_keep [(0,.slice A0 l0.length c0),(1,.slice A1 l1.length c1),(2,.slice A2 l2.length c2),(3,.slice A3 l3.length c3),(4,vI x4),(10,.bool false),(12,pP b1 0),(29,v1),(30,v2),(31,.slice (some ⟨b2,0,none⟩) 4 4)] ea (hJ1_4 (v1,v2,b2,b1) _ _ ⟨rfl,hS12⟩)
  exact go_nomore3
 refine go3_join MachTicks.t1_11 (fun (x:Value×Value) e w=>match x with | (v1,v2)=>e=[(0,.slice A0 l0.length c0),(1,.slice A1 l1.length c1),(2,.slice A2 l2.length c2),(3,.slice A3 l3.length c3),(4,vI x4),(10,.bool false),(29,v1),(30,v2)]∧St w0 w [Own.of v2 3 (List.replicate 8 (0:Int)),Own.of v1 29 image.f]) ?_ fun hJ1_0=>?_
 ·rintro ⟨v1,v2⟩ _ W1 ⟨rfl,hS5⟩
  replace hS5:St w0 W1 [Own.of v2 3 (List.replicate 8 (0:Int)),Own.of v1 29 image.f]:=hS5
  refine go_alt3 (fun KK hKK=>?_) ?_
  ·refine ge_one2<|gw (some 31) (.cells #[vI 5,vI 0,vI 0,vI 0] 3) (fun b=>.slice (some ⟨b,0,none⟩) 4 4) hS5 fun b1 w3 hx1 hS6=>?_
   refine g2 hKK ?_
   have hS34:=((hS6.b 2).b 2).b 2
   exact go3_keep [(0,.slice A0 l0.length c0),(1,.slice A1 l1.length c1),(2,.slice A2 l2.length c2),(3,.slice A3 l3.length c3),(4,vI x4),(10,.bool false),(29,v1),(30,v2),(31,.slice (some ⟨b1,0,none⟩) 4 4)] ea (hJ1_1 (v1,v2,b1) _ _ ⟨rfl,hS34⟩)
  refine go_alt3 (fun KK hKK=>?_) ?_
  ·refine ge_one2<|gw (some 12) (.cells #[vI 0,vI 0] 25) (fun b=>pP b 0) hS5 fun b1 w3 hx1 hS6=>?_
   refine g2 hKK ?_
   have hS15:=((hS6.b 2).b 2).b 2
   exact go3_keep [(0,.slice A0 l0.length c0),(1,.slice A1 l1.length c1),(2,.slice A2 l2.length c2),(3,.slice A3 l3.length c3),(4,vI x4),(10,.bool false),(12,pP b1 0),(29,v1),(30,v2)] ea (hJ1_5 (v1,v2,b1) _ _ ⟨rfl,hS15⟩)
  exact go_nomore3
 refine go3_join MachTicks.t1_3 (fun (x:Value×Nat×Nat) e w=>match x with | (v1,b1,b2)=>e=[(0,.slice A0 l0.length c0),(1,.slice A1 l1.length c1),(2,.slice A2 l2.length c2),(3,.slice A3 l3.length c3),(4,vI x4),(10,.bool false),(12,pP b2 0),(29,v1),(31,.slice (some ⟨b1,0,none⟩) 4 4)]∧St w0 w [bk b2 #[vI 0,vI 0] 25,bk b1 #[vI 5,vI 0,vI 0,vI 0] 3,Own.of v1 29 image.f]) ?_ fun hJ1_7=>?_
 ·rintro ⟨v1,b1,b2⟩ _ W2 ⟨rfl,hS7⟩
  replace hS7:St w0 W2 [bk b2 #[vI 0,vI 0] 25,bk b1 #[vI 5,vI 0,vI 0,vI 0] 3,Own.of v1 29 image.f]:=hS7
  refine go_alt3 (fun KK hKK=>?_) ?_
  ·refine ge_one2<|ge_make (α:=Int) (d:=30) (t:=37) (el:=3) (bytes:=8) (l:=8) (c:=8) (x:=(.const (vI 8))) (y:=(.const (vI 8))) (ty:=37) (k1:=.i64) (k2:=.i64) (li:=8) (ci:=8) (z:=vI 0) (z':=(0:Int)) (by kernel_rfl) (by kernel_rfl) (by kernel_rfl) rfl rfl (by kernel_rfl) (by kernel_rfl) rfl hS7 (Nat.le_refl _) rfl (by omega) fun v2 w4 _ hS8=>?_
   refine g2 hKK ?_
   have hS12:=(((hS8.b 3).b 1).b 3).b 3
   exact go3_keep [(0,.slice A0 l0.length c0),(1,.slice A1 l1.length c1),(2,.slice A2 l2.length c2),(3,.slice A3 l3.length c3),(4,vI x4),(10,.bool false),(12,pP b2 0),(29,v1),(30,v2),(31,.slice (some ⟨b1,0,none⟩) 4 4)] ea (hJ1_4 (v1,v2,b1,b2) _ _ ⟨rfl,hS12⟩)
  exact go_nomore3
 refine go3_join MachTicks.t1_10 (fun (x:Value×Nat) e w=>match x with | (v1,b1)=>e=[(0,.slice A0 l0.length c0),(1,.slice A1 l1.length c1),(2,.slice A2 l2.length c2),(3,.slice A3 l3.length c3),(4,vI x4),(10,.bool false),(29,v1),(31,.slice (some ⟨b1,0,none⟩) 4 4)]∧St w0 w [bk b1 #[vI 5,vI 0,vI 0,vI 0] 3,Own.of v1 29 image.f]) ?_ fun hJ1_6=>?_
 ·rintro ⟨v1,b1⟩ _ W1 ⟨rfl,hS5⟩
  replace hS5:St w0 W1 [bk b1 #[vI 5,vI 0,vI 0,vI 0] 3,Own.of v1 29 image.f]:=hS5
  refine go_alt3 (fun KK hKK=>?_) ?_
  ·refine ge_one2<|ge_make (α:=Int) (d:=30) (t:=37) (el:=3) (bytes:=8) (l:=8) (c:=8) (x:=(.const (vI 8))) (y:=(.const (vI 8))) (ty:=37) (k1:=.i64) (k2:=.i64) (li:=8) (ci:=8) (z:=vI 0) (z':=(0:Int)) (by kernel_rfl) (by kernel_rfl) (by kernel_rfl) rfl rfl (by kernel_rfl) (by kernel_rfl) rfl hS5 (Nat.le_refl _) rfl (by omega) fun v2 w3 _ hS6=>?_
   refine g2 hKK ?_
   have hS9:=((hS6.b 2).b 1).b 2
   exact go3_keep [(0,.slice A0 l0.length c0),(1,.slice A1 l1.length c1),(2,.slice A2 l2.length c2),(3,.slice A3 l3.length c3),(4,vI x4),(10,.bool false),(29,v1),(30,v2),(31,.slice (some ⟨b1,0,none⟩) 4 4)] ea (hJ1_1 (v1,v2,b1) _ _ ⟨rfl,hS9⟩)
  refine go_alt3 (fun KK hKK=>?_) ?_
  ·refine ge_one2<|gw (some 12) (.cells #[vI 0,vI 0] 25) (fun b=>pP b 0) hS5 fun b2 w3 hx2 hS6=>?_
   refine g2 hKK ?_
   have hS15:=((hS6.b 2).b 2).b 2
   exact go3_keep [(0,.slice A0 l0.length c0),(1,.slice A1 l1.length c1),(2,.slice A2 l2.length c2),(3,.slice A3 l3.length c3),(4,vI x4),(10,.bool false),(12,pP b2 0),(29,v1),(31,.slice (some ⟨b1,0,none⟩) 4 4)] ea (hJ1_7 (v1,b1,b2) _ _ ⟨rfl,hS15⟩)
  exact go_nomore3
 refine go3_join MachTicks.t1_7 (fun (x:Value×Nat) e w=>match x with | (v1,b1)=>e=[(0,.slice A0 l0.length c0),(1,.slice A1 l1.length c1),(2,.slice A2 l2.length c2),(3,.slice A3 l3.length c3),(4,vI x4),(10,.bool false),(12,pP b1 0),(29,v1)]∧St w0 w [bk b1 #[vI 0,vI 0] 25,Own.of v1 29 image.f]) ?_ fun hJ1_8=>?_
 ·rintro ⟨v1,b1⟩ _ W1 ⟨rfl,hS5⟩
  replace hS5:St w0 W1 [bk b1 #[vI 0,vI 0] 25,Own.of v1 29 image.f]:=hS5
  refine go_alt3 (fun KK hKK=>?_) ?_
  ·refine ge_one2<|ge_make (α:=Int) (d:=30) (t:=37) (el:=3) (bytes:=8) (l:=8) (c:=8) (x:=(.const (vI 8))) (y:=(.const (vI 8))) (ty:=37) (k1:=.i64) (k2:=.i64) (li:=8) (ci:=8) (z:=vI 0) (z':=(0:Int)) (by kernel_rfl) (by kernel_rfl) (by kernel_rfl) rfl rfl (by kernel_rfl) (by kernel_rfl) rfl hS5 (Nat.le_refl _) rfl (by omega) fun v2 w3 _ hS6=>?_
   refine g2 hKK ?_
   have hS9:=((hS6.b 2).b 1).b 2
   exact go3_keep [(0,.slice A0 l0.length c0),(1,.slice A1 l1.length c1),(2,.slice A2 l2.length c2),(3,.slice A3 l3.length c3),(4,vI x4),(10,.bool false),(12,pP b1 0),(29,v1),(30,v2)] ea (hJ1_5 (v1,v2,b1) _ _ ⟨rfl,hS9⟩)
  refine go_alt3 (fun KK hKK=>?_) ?_
  ·refine ge_one2<|gw (some 31) (.cells #[vI 5,vI 0,vI 0,vI 0] 3) (fun b=>.slice (some ⟨b,0,none⟩) 4 4) hS5 fun b2 w3 hx2 hS6=>?_
   refine g2 hKK ?_
   have hS9:=((hS6.b 2).b 1).b 2
   exact go3_keep [(0,.slice A0 l0.length c0),(1,.slice A1 l1.length c1),(2,.slice A2 l2.length c2),(3,.slice A3 l3.length c3),(4,vI x4),(10,.bool false),(12,pP b1 0),(29,v1),(31,.slice (some ⟨b2,0,none⟩) 4 4)] ea (hJ1_7 (v1,b2,b1) _ _ ⟨rfl,hS9⟩)
  exact go_nomore3
 refine go3_join MachTicks.t1_2 (fun (x:Value×Nat×Nat) e w=>match x with | (v1,b1,b2)=>e=[(0,.slice A0 l0.length c0),(1,.slice A1 l1.length c1),(2,.slice A2 l2.length c2),(3,.slice A3 l3.length c3),(4,vI x4),(10,.bool false),(12,pP b2 0),(30,v1),(31,.slice (some ⟨b1,0,none⟩) 4 4)]∧St w0 w [bk b2 #[vI 0,vI 0] 25,bk b1 #[vI 5,vI 0,vI 0,vI 0] 3,Own.of v1 3 (List.replicate 8 (0:Int))]) ?_ fun hJ1_10=>?_
 ·rintro ⟨v1,b1,b2⟩ _ W2 ⟨rfl,hS6⟩
  replace hS6:St w0 W2 [bk b2 #[vI 0,vI 0] 25,bk b1 #[vI 5,vI 0,vI 0,vI 0] 3,Own.of v1 3 (List.replicate 8 (0:Int))]:=hS6
  refine go_alt3 (fun KK hKK=>?_) ?_
  ·refine ge_one2<|ge_call (d:=some 29) (f:=8) (args:=#[]) (by kernel_rfl) (image_ok _ _ rfl) ?_
   rintro _ w4 ⟨v2,rfl,hS7⟩
   refine ⟨_,rfl,hS7.below,?_⟩
   have hS8:=hS6.call hS7
   refine g2 hKK ?_
   have hS11:=((hS8.b 3).b 3).b 3
   exact go3_keep [(0,.slice A0 l0.length c0),(1,.slice A1 l1.length c1),(2,.slice A2 l2.length c2),(3,.slice A3 l3.length c3),(4,vI x4),(10,.bool false),(12,pP b2 0),(29,v2),(30,v1),(31,.slice (some ⟨b1,0,none⟩) 4 4)] ea (hJ1_4 (v2,v1,b1,b2) _ _ ⟨rfl,hS11⟩)
  exact go_nomore3
 refine go3_join MachTicks.t1_9 (fun (x:Value×Nat) e w=>match x with | (v1,b1)=>e=[(0,.slice A0 l0.length c0),(1,.slice A1 l1.length c1),(2,.slice A2 l2.length c2),(3,.slice A3 l3.length c3),(4,vI x4),(10,.bool false),(30,v1),(31,.slice (some ⟨b1,0,none⟩) 4 4)]∧St w0 w [bk b1 #[vI 5,vI 0,vI 0,vI 0] 3,Own.of v1 3 (List.replicate 8 (0:Int))]) ?_ fun hJ1_9=>?_
 ·rintro ⟨v1,b1⟩ _ W1 ⟨rfl,hS4⟩
  replace hS4:St w0 W1 [bk b1 #[vI 5,vI 0,vI 0,vI 0] 3,Own.of v1 3 (List.replicate 8 (0:Int))]:=hS4
  refine go_alt3 (fun KK hKK=>?_) ?_
  ·refine ge_one2<|ge_call (d:=some 29) (f:=8) (args:=#[]) (by kernel_rfl) (image_ok _ _ rfl) ?_
   rintro _ w3 ⟨v2,rfl,hS5⟩
   refine ⟨_,rfl,hS5.below,?_⟩
   have hS6:=hS4.call hS5
   refine g2 hKK ?_
   have hS8:=(hS6.b 2).b 2
   exact go3_keep [(0,.slice A0 l0.length c0),(1,.slice A1 l1.length c1),(2,.slice A2 l2.length c2),(3,.slice A3 l3.length c3),(4,vI x4),(10,.bool false),(29,v2),(30,v1),(31,.slice (some ⟨b1,0,none⟩) 4 4)] ea (hJ1_1 (v2,v1,b1) _ _ ⟨rfl,hS8⟩)
  refine go_alt3 (fun KK hKK=>?_) ?_
  ·refine ge_one2<|gw (some 12) (.cells #[vI 0,vI 0] 25) (fun b=>pP b 0) hS4 fun b2 w3 hx2 hS5=>?_
   refine g2 hKK ?_
   have hS14:=((hS5.b 2).b 2).b 2
   exact go3_keep [(0,.slice A0 l0.length c0),(1,.slice A1 l1.length c1),(2,.slice A2 l2.length c2),(3,.slice A3 l3.length c3),(4,vI x4),(10,.bool false),(12,pP b2 0),(30,v1),(31,.slice (some ⟨b1,0,none⟩) 4 4)] ea (hJ1_10 (v1,b1,b2) _ _ ⟨rfl,hS14⟩)
  exact go_nomore3
 refine go3_join MachTicks.t1_6 (fun (x:Value×Nat) e w=>match x with | (v1,b1)=>e=[(0,.slice A0 l0.length c0),(1,.slice A1 l1.length c1),(2,.slice A2 l2.length c2),(3,.slice A3 l3.length c3),(4,vI x4),(10,.bool false),(12,pP b1 0),(30,v1)]∧St w0 w [bk b1 #[vI 0,vI 0] 25,Own.of v1 3 (List.replicate 8 (0:Int))]) ?_ fun hJ1_11=>?_
 ·rintro ⟨v1,b1⟩ _ W1 ⟨rfl,hS4⟩
  replace hS4:St w0 W1 [bk b1 #[vI 0,vI 0] 25,Own.of v1 3 (List.replicate 8 (0:Int))]:=hS4
  refine go_alt3 (fun KK hKK=>?_) ?_
  ·refine ge_one2<|ge_call (d:=some 29) (f:=8) (args:=#[]) (by kernel_rfl) (image_ok _ _ rfl) ?_
   rintro _ w3 ⟨v2,rfl,hS5⟩
   refine ⟨_,rfl,hS5.below,?_⟩
   have hS6:=hS4.call hS5
   refine g2 hKK ?_
   have hS8:=(hS6.b 2).b 2
   exact go3_keep [(0,.slice A0 l0.length c0),(1,.slice A1 l1.length c1),(2,.slice A2 l2.length c2),(3,.slice A3 l3.length c3),(4,vI x4),(10,.bool false),(12,pP b1 0),(29,v2),(30,v1)] ea (hJ1_5 (v2,v1,b1) _ _ ⟨rfl,hS8⟩)
  refine go_alt3 (fun KK hKK=>?_) ?_
  ·refine ge_one2<|gw (some 31) (.cells #[vI 5,vI 0,vI 0,vI 0] 3) (fun b=>.slice (some ⟨b,0,none⟩) 4 4) hS4 fun b2 w3 hx2 hS5=>?_
   refine g2 hKK ?_
   have hS8:=((hS5.b 2).b 1).b 2
   exact go3_keep [(0,.slice A0 l0.length c0),(1,.slice A1 l1.length c1),(2,.slice A2 l2.length c2),(3,.slice A3 l3.length c3),(4,vI x4),(10,.bool false),(12,pP b1 0),(30,v1),(31,.slice (some ⟨b2,0,none⟩) 4 4)] ea (hJ1_10 (v1,b2,b1) _ _ ⟨rfl,hS8⟩)
  exact go_nomore3
 refine go3_join MachTicks.t1_4 (fun (x:Nat×Nat) e w=>match x with | (b1,b2)=>e=[(0,.slice A0 l0.length c0),(1,.slice A1 l1.length c1),(2,.slice A2 l2.length c2),(3,.slice A3 l3.length c3),(4,vI x4),(10,.bool false),(12,pP b2 0),(31,.slice (some ⟨b1,0,none⟩) 4 4)]∧St w0 w [bk b2 #[vI 0,vI 0] 25,bk b1 #[vI 5,vI 0,vI 0,vI 0] 3]) ?_ fun hJ1_12=>?_
 ·rintro ⟨b1,b2⟩ _ W1 ⟨rfl,hS4⟩
  replace hS4:St w0 W1 [bk b2 #[vI 0,vI 0] 25,bk b1 #[vI 5,vI 0,vI 0,vI 0] 3]:=hS4
  refine go_alt3 (fun KK hKK=>?_) ?_
  ·refine ge_one2<|ge_call (d:=some 29) (f:=8) (args:=#[]) (by kernel_rfl) (image_ok _ _ rfl) ?_
   rintro _ w3 ⟨v1,rfl,hS5⟩
   refine ⟨_,rfl,hS5.below,?_⟩
   have hS6:=hS4.call hS5
   refine g2 hKK ?_
   have hS8:=(hS6.b 2).b 2
   exact go3_keep [(0,.slice A0 l0.length c0),(1,.slice A1 l1.length c1),(2,.slice A2 l2.length c2),(3,.slice A3 l3.length c3),(4,vI x4),(10,.bool false),(12,pP b2 0),(29,v1),(31,.slice (some ⟨b1,0,none⟩) 4 4)] ea (hJ1_7 (v1,b1,b2) _ _ ⟨rfl,hS8⟩)
  refine go_alt3 (fun KK hKK=>?_) ?_
  ·refine ge_one2<|ge_make (α:=Int) (d:=30) (t:=37) (el:=3) (bytes:=8) (l:=8) (c:=8) (x:=(.const (vI 8))) (y:=(.const (vI 8))) (ty:=37) (k1:=.i64) (k2:=.i64) (li:=8) (ci:=8) (z:=vI 0) (z':=(0:Int)) (by kernel_rfl) (by kernel_rfl) (by kernel_rfl) rfl rfl (by kernel_rfl) (by kernel_rfl) rfl hS4 (Nat.le_refl _) rfl (by omega) fun v1 w3 _ hS5=>?_
   refine g2 hKK ?_
   have hS7:=(hS5.b 2).b 2
   exact go3_keep [(0,.slice A0 l0.length c0),(1,.slice A1 l1.length c1),(2,.slice A2 l2.length c2),(3,.slice A3 l3.length c3),(4,vI x4),(10,.bool false),(12,pP b2 0),(30,v1),(31,.slice (some ⟨b1,0,none⟩) 4 4)] ea (hJ1_10 (v1,b1,b2) _ _ ⟨rfl,hS7⟩)
  exact go_nomore3
 refine go_alt3 (fun KK hKK=>?_) ?_
 ·refine ge_one2<|ge_call (d:=some 29) (f:=8) (args:=#[]) (by kernel_rfl) (image_ok _ _ rfl) ?_
  rintro _ w1 ⟨v1,rfl,hS2⟩
  refine ⟨_,rfl,hS2.below,?_⟩
  have hS3:=hS1.call hS2
  refine g2 hKK<|go_alt3 (fun KK hKK=>?_) ?_
  ·refine ge_one2<|ge_make (α:=Int) (d:=30) (t:=37) (el:=3) (bytes:=8) (l:=8) (c:=8) (x:=(.const (vI 8))) (y:=(.const (vI 8))) (ty:=37) (k1:=.i64) (k2:=.i64) (li:=8) (ci:=8) (z:=vI 0) (z':=(0:Int)) (by kernel_rfl) (by kernel_rfl) (by kernel_rfl) rfl rfl (by kernel_rfl) (by kernel_rfl) rfl hS3 (Nat.le_refl _) rfl (by omega) fun v2 w2 _ hS4=>?_
   refine g2 hKK ?_
   have hS17:=(hS4.b 1).b 1
   exact go3_keep [(0,.slice A0 l0.length c0),(1,.slice A1 l1.length c1),(2,.slice A2 l2.length c2),(3,.slice A3 l3.length c3),(4,vI x4),(10,.bool false),(29,v1),(30,v2)] ea (hJ1_0 (v1,v2) _ _ ⟨rfl,hS17⟩)
  refine go_alt3 (fun KK hKK=>?_) ?_
  ·refine ge_one2<|gw (some 31) (.cells #[vI 5,vI 0,vI 0,vI 0] 3) (fun b=>.slice (some ⟨b,0,none⟩) 4 4) hS3 fun b1 w2 hx1 hS4=>?_
   refine g2 hKK ?_
   have hS17:=(hS4.b 1).b 1
   exact go3_keep [(0,.slice A0 l0.length c0),(1,.slice A1 l1.length c1),(2,.slice A2 l2.length c2),(3,.slice A3 l3.length c3),(4,vI x4),(10,.bool false),(29,v1),(31,.slice (some ⟨b1,0,none⟩) 4 4)] ea (hJ1_6 (v1,b1) _ _ ⟨rfl,hS17⟩)
  refine go_alt3 (fun KK hKK=>?_) ?_
  ·refine ge_one2<|gw (some 12) (.cells #[vI 0,vI 0] 25) (fun b=>pP b 0) hS3 fun b1 w2 hx1 hS4=>?_
   refine g2 hKK ?_
   have hS11:=(hS4.b 1).b 1
   exact go3_keep [(0,.slice A0 l0.length c0),(1,.slice A1 l1.length c1),(2,.slice A2 l2.length c2),(3,.slice A3 l3.length c3),(4,vI x4),(10,.bool false),(12,pP b1 0),(29,v1)] ea (hJ1_8 (v1,b1) _ _ ⟨rfl,hS11⟩)
  exact go_nomore3
 refine go_alt3 (fun KK hKK=>?_) ?_
 ·refine ge_one2<|ge_make (α:=Int) (d:=30) (t:=37) (el:=3) (bytes:=8) (l:=8) (c:=8) (x:=(.const (vI 8))) (y:=(.const (vI 8))) (ty:=37) (k1:=.i64) (k2:=.i64) (li:=8) (ci:=8) (z:=vI 0) (z':=(0:Int)) (by kernel_rfl) (by kernel_rfl) (by kernel_rfl) rfl rfl (by kernel_rfl) (by kernel_rfl) rfl hS1 (Nat.le_refl _) rfl (by omega) fun v1 w1 _ hS2=>?_
  refine g2 hKK<|go_alt3 (fun KK hKK=>?_) ?_
  ·refine ge_one2<|ge_call (d:=some 29) (f:=8) (args:=#[]) (by kernel_rfl) (image_ok _ _ rfl) ?_
   rintro _ w2 ⟨v2,rfl,hS3⟩
   refine ⟨_,rfl,hS3.below,?_⟩
   have hS4:=hS2.call hS3
   refine g2 hKK ?_
   have hS5:=hS4.b 1
   exact go3_keep [(0,.slice A0 l0.length c0),(1,.slice A1 l1.length c1),(2,.slice A2 l2.length c2),(3,.slice A3 l3.length c3),(4,vI x4),(10,.bool false),(29,v2),(30,v1)] ea (hJ1_0 (v2,v1) _ _ ⟨rfl,hS5⟩)
  refine go_alt3 (fun KK hKK=>?_) ?_
  ·refine ge_one2<|gw (some 31) (.cells #[vI 5,vI 0,vI 0,vI 0] 3) (fun b=>.slice (some ⟨b,0,none⟩) 4 4) hS2 fun b1 w2 hx1 hS3=>?_
   refine g2 hKK ?_
   have hS16:=(hS3.b 1).b 1
   exact go3_keep [(0,.slice A0 l0.length c0),(1,.slice A1 l1.length c1),(2,.slice A2 l2.length c2),(3,.slice A3 l3.length c3),(4,vI x4),(10,.bool false),(30,v1),(31,.slice (some ⟨b1,0,none⟩) 4 4)] ea (hJ1_9 (v1,b1) _ _ ⟨rfl,hS16⟩)
  refine go_alt3 (fun KK hKK=>?_) ?_
  ·refine ge_one2<|gw (some 12) (.cells #[vI 0,vI 0] 25) (fun b=>pP b 0) hS2 fun b1 w2 hx1 hS3=>?_
   refine g2 hKK ?_
   have hS10:=(hS3.b 1).b 1
   exact go3_keep [(0,.slice A0 l0.length c0),(1,.slice A1 l1.length c1),(2,.slice A2 l2.length c2),(3,.slice A3 l3.length c3),(4,vI x4),(10,.bool false),(12,pP b1 0),(30,v1)] ea (hJ1_11 (v1,b1) _ _ ⟨rfl,hS10⟩)
  exact go_nomore3
 refine go_alt3 (fun KK hKK=>?_) ?_
 ·refine ge_one2<|gw (some 31) (.cells #[vI 5,vI 0,vI 0,vI 0] 3) (fun b=>.slice (some ⟨b,0,none⟩) 4 4) hS1 fun b1 w1 hx1 hS2=>?_
  refine g2 hKK<|go_alt3 (fun KK hKK=>?_) ?_
  ·refine ge_one2<|ge_call (d:=some 29) (f:=8) (args:=#[]) (by kernel_rfl) (image_ok _ _ rfl) ?_
   rintro _ w2 ⟨v1,rfl,hS3⟩
   refine ⟨_,rfl,hS3.below,?_⟩
   have hS4:=hS2.call hS3
   refine g2 hKK ?_
   have hS5:=hS4.b 1
   exact go3_keep [(0,.slice A0 l0.length c0),(1,.slice A1 l1.length c1),(2,.slice A2 l2.length c2),(3,.slice A3 l3.length c3),(4,vI x4),(10,.bool false),(29,v1),(31,.slice (some ⟨b1,0,none⟩) 4 4)] ea (hJ1_6 (v1,b1) _ _ ⟨rfl,hS5⟩)
  refine go_alt3 (fun KK hKK=>?_) ?_
  ·refine ge_one2<|ge_make (α:=Int) (d:=30) (t:=37) (el:=3) (bytes:=8) (l:=8) (c:=8) (x:=(.const (vI 8))) (y:=(.const (vI 8))) (ty:=37) (k1:=.i64) (k2:=.i64) (li:=8) (ci:=8) (z:=vI 0) (z':=(0:Int)) (by kernel_rfl) (by kernel_rfl) (by kernel_rfl) rfl rfl (by kernel_rfl) (by kernel_rfl) rfl hS2 (Nat.le_refl _) rfl (by omega) fun v1 w2 _ hS3=>?_
   refine g2 hKK ?_
   have hS4:=hS3.b 1
   exact go3_keep [(0,.slice A0 l0.length c0),(1,.slice A1 l1.length c1),(2,.slice A2 l2.length c2),(3,.slice A3 l3.length c3),(4,vI x4),(10,.bool false),(30,v1),(31,.slice (some ⟨b1,0,none⟩) 4 4)] ea (hJ1_9 (v1,b1) _ _ ⟨rfl,hS4⟩)
  refine go_alt3 (fun KK hKK=>?_) ?_
  ·refine ge_one2<|gw (some 12) (.cells #[vI 0,vI 0] 25) (fun b=>pP b 0) hS2 fun b2 w2 hx2 hS3=>?_
   refine g2 hKK ?_
   have hS9:=(hS3.b 1).b 1
   exact go3_keep [(0,.slice A0 l0.length c0),(1,.slice A1 l1.length c1),(2,.slice A2 l2.length c2),(3,.slice A3 l3.length c3),(4,vI x4),(10,.bool false),(12,pP b2 0),(31,.slice (some ⟨b1,0,none⟩) 4 4)] ea (hJ1_12 (b1,b2) _ _ ⟨rfl,hS9⟩)
  exact go_nomore3
 refine go_alt3 (fun KK hKK=>?_) ?_
 ·refine ge_one2<|gw (some 12) (.cells #[vI 0,vI 0] 25) (fun b=>pP b 0) hS1 fun b1 w1 hx1 hS2=>?_
  refine g2 hKK<|go_alt3 (fun KK hKK=>?_) ?_
  ·refine ge_one2<|ge_call (d:=some 29) (f:=8) (args:=#[]) (by kernel_rfl) (image_ok _ _ rfl) ?_
   rintro _ w2 ⟨v1,rfl,hS3⟩
   refine ⟨_,rfl,hS3.below,?_⟩
   have hS4:=hS2.call hS3
   refine g2 hKK ?_
   have hS5:=hS4.b 1
   exact go3_keep [(0,.slice A0 l0.length c0),(1,.slice A1 l1.length c1),(2,.slice A2 l2.length c2),(3,.slice A3 l3.length c3),(4,vI x4),(10,.bool false),(12,pP b1 0),(29,v1)] ea (hJ1_8 (v1,b1) _ _ ⟨rfl,hS5⟩)
  refine go_alt3 (fun KK hKK=>?_) ?_
  ·refine ge_one2<|ge_make (α:=Int) (d:=30) (t:=37) (el:=3) (bytes:=8) (l:=8) (c:=8) (x:=(.const (vI 8))) (y:=(.const (vI 8))) (ty:=37) (k1:=.i64) (k2:=.i64) (li:=8) (ci:=8) (z:=vI 0) (z':=(0:Int)) (by kernel_rfl) (by kernel_rfl) (by kernel_rfl) rfl rfl (by kernel_rfl) (by kernel_rfl) rfl hS2 (Nat.le_refl _) rfl (by omega) fun v1 w2 _ hS3=>?_
   refine g2 hKK ?_
   have hS4:=hS3.b 1
   exact go3_keep [(0,.slice A0 l0.length c0),(1,.slice A1 l1.length c1),(2,.slice A2 l2.length c2),(3,.slice A3 l3.length c3),(4,vI x4),(10,.bool false),(12,pP b1 0),(30,v1)] ea (hJ1_11 (v1,b1) _ _ ⟨rfl,hS4⟩)
  refine go_alt3 (fun KK hKK=>?_) ?_
  ·refine ge_one2<|gw (some 31) (.cells #[vI 5,vI 0,vI 0,vI 0] 3) (fun b=>.slice (some ⟨b,0,none⟩) 4 4) hS2 fun b2 w2 hx2 hS3=>?_
   refine g2 hKK ?_
   have hS4:=hS3.b 1
   exact go3_keep [(0,.slice A0 l0.length c0),(1,.slice A1 l1.length c1),(2,.slice A2 l2.length c2),(3,.slice A3 l3.length c3),(4,vI x4),(10,.bool false),(12,pP b1 0),(31,.slice (some ⟨b2,0,none⟩) 4 4)] ea (hJ1_12 (b2,b1) _ _ ⟨rfl,hS4⟩)
  exact go_nomore3
 exact go_nomore3
end Go.Proofs.YtnckikjcjgmdlaaDoor.GV
