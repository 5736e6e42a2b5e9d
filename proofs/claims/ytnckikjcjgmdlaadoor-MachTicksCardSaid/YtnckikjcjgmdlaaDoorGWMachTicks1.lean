/- Walks of single functions, written by a program of this work. -/
import Derived.Test.YtnckikjcjgmdlaaDoorGv36
import Derived.Test.YtnckikjcjgmdlaaDoorProg
namespace Go.Proofs.YtnckikjcjgmdlaaDoor.GV
open Go Go.RowKit
set_option linter.unusedVariables false
set_option linter.unusedSimpArgs false
set_option maxRecDepth 100000

structure SIns where
 Op:Int
 A:Int
 B:Int
def SIns.eqb (x y : SIns) : Bool := ((x.Op == y.Op) && ((x.A == y.A) && ((x.B == y.B) && true)))
instance : Ok SIns := ⟨fun x => Ok.ok x.Op ∧ Ok.ok x.A ∧ Ok.ok x.B ∧ True⟩
instance : Flat SIns := ⟨3, fun x => [vI x.Op, vI x.A, vI x.B], fun _ => rfl, fun _ => rfl, by decide⟩

/-! punctual/punctuallaw.image -/
abbrev image.Post (w0:World) (r:List SIns) (e:Ending) (w:World):Prop:=∃ (v0:Value),e=.returned (v0)∧St w0 w [Own.of v0 29 r]
def image.f : List SIns :=
 ([(⟨13,0,2⟩:SIns),(⟨2,0,0⟩:SIns),(⟨9,0,0⟩:SIns),(⟨4,0,0⟩:SIns),(⟨3,0,0⟩:SIns),(⟨14,0,1⟩:SIns),(⟨2,0,0⟩:SIns),(⟨1,2,0⟩:SIns),(⟨6,0,0⟩:SIns),(⟨10,1,0⟩:SIns)]:List SIns)
theorem image_ok   (w0:World) (r:List SIns) (h:image.f=r) :
  Calls Tryd.prog 8 #[] w0 (image.Post w0 r):=by
 have hS:=St.start w0
 unfold image.f at h
 refine calls_enter (n:=12) (args:=[]) (fn:=Tryd.f8) rfl rfl rfl rfl ?_
 show WE _ _ _ _ [] _
 refine ws fun K1 hK1=>wr [(0,0)]<|gb0 [0] [(0,.slice none 0 0)]<|gn hK1<|ws fun K2 hK2=>wr [(0,0),(1,0),(2,0),(3,0),(4,0),(5,0),(6,0),(7,0),(8,0),(9,0),(10,1),(11,0)]<|gb0 [0,1,2,3,4,5,6,7,8,9] [(10,.agg #[vI 10,vI 1,vI 0]),(9,.agg #[vI 6,vI 0,vI 0]),(8,.agg #[vI 1,vI 2,vI 0]),(7,.agg #[vI 2,vI 0,vI 0]),(6,.agg #[vI 14,vI 0,vI 1]),(5,.agg #[vI 3,vI 0,vI 0]),(4,.agg #[vI 4,vI 0,vI 0]),(3,.agg #[vI 9,vI 0,vI 0]),(2,.agg #[vI 2,vI 0,vI 0]),(1,.agg #[vI 13,vI 0,vI 2])]<|gw (some 11) (.cells #[vI 13,vI 0,vI 2,vI 2,vI 0,vI 0,vI 9,vI 0,vI 0,vI 4,vI 0,vI 0,vI 3,vI 0,vI 0,vI 14,vI 0,vI 1,vI 2,vI 0,vI 0,vI 1,vI 2,vI 0,vI 6,vI 0,vI 0,vI 10,vI 1,vI 0] 29) (fun b=>.slice (some ⟨b,0,none⟩) 10 10) hS fun b1 w1 hx1 hS1=>?_
 refine gb0 [11] [(0,.slice (some ⟨b1,0,none⟩) 10 10)]<|gn hK2 ?_
 have hS2:=hS1.asRow (α:=SIns) (c:=10) ([(⟨13,0,2⟩:SIns),(⟨2,0,0⟩:SIns),(⟨9,0,0⟩:SIns),(⟨4,0,0⟩:SIns),(⟨3,0,0⟩:SIns),(⟨14,0,1⟩:SIns),(⟨2,0,0⟩:SIns),(⟨1,2,0⟩:SIns),(⟨6,0,0⟩:SIns),(⟨10,1,0⟩:SIns)]:List SIns) (Nat.le_refl _) (by decide) rfl rfl
 subst h
 exact we_ret (pr0 [.tmp 0] [(.slice (some ⟨b1,0,none⟩) 10 10)] ⟨(.slice (some ⟨b1,0,none⟩) 10 10),rfl,hS2⟩)

structure SShape where
 In:List Int
 Close:List (Int×Int)

structure SFault where
 Code:Int
 At:Int
def SFault.eqb (x y : SFault) : Bool := ((x.Code == y.Code) && ((x.At == y.At) && true))
instance : Ok SFault := ⟨fun x => Ok.ok x.Code ∧ Ok.ok x.At ∧ True⟩
instance : Flat SFault := ⟨2, fun x => [vI x.Code, vI x.At], fun _ => rfl, fun _ => rfl, by decide⟩

/-! punctual/mach.Look$1 -/
abbrev mach_Look_1.Post (w0:World) (r:SShape×SFault) (e:Ending) (w:World):Prop:=∃ (v0:Value) (mv1:Option Nat),e=.returned (.tuple #[.agg #[v0,.map mv1],.agg #[vI r.2.Code,vI r.2.At]])∧St w0 w [Own.of v0 3 r.1.In,Own.mapv (κ:=Int) (ν:=Int) mv1 r.1.Close]
def mach_Look_1.f (x0 : Int) (x1 : Int) : SShape × SFault :=
 ((⟨([]:List Int),([]:List (Int×Int))⟩:SShape),(⟨x0,x1⟩:SFault))
theorem mach_Look_1_ok (x0 x1:Int) (w0:World) (r:SShape×SFault) (h:mach_Look_1.f x0 x1=r) :
  Calls Tryd.prog 50 #[vI x0,vI x1] w0 (mach_Look_1.Post w0 r):=by
 have hS:=St.start w0
 unfold mach_Look_1.f at h
 refine calls_enter (n:=10) (args:=[vI x0,vI x1]) (fn:=Tryd.f50) rfl rfl rfl rfl ?_
 show WE _ _ _ _ [(0,vI x0),(1,vI x1)] _
 refine ws fun K1 hK1=>wr [(0,1),(1,1)]<|gw (some 4) (.cells #[.slice none 0 0,.map none] 64) (fun b=>pP b 0) hS fun b1 w1 hx1 hS1=>?_
 refine gw (some 5) (.cells #[vI 0,vI 0] 25) (fun b=>pP b 0) hS1 fun b2 w2 hx2 hS2=>?_
 refine gn hK1<|ws fun K2 hK2=>wr [(0,0),(1,0),(2,0),(3,0),(4,2),(5,2)]<|gb0 [0,1,2,3] [(9,.agg #[vI x0,vI x1]),(8,vI x1),(7,vI x0),(6,.agg #[.slice none 0 0,.map none])] ?_
 have hS3:=hS2.b 1
 refine gs b1 0 #[.slice none 0 0,.map none] 64 [.slice none 0 0,.map none] hS3 fun w3 hS4=>?_
 have hS6:=(hS4.nc #[.slice none 0 0,.map none] rfl).b 1
 refine gs b2 0 #[vI 0,vI 0] 25 [vI x0,vI x1] hS6 fun w4 hS7=>?_
 have hS8:=hS7.nc #[vI x0,vI x1] rfl
 refine gn hK2 ?_
 have hS9:=hS8.nil (α:=Int) 3
 have hS10:=hS9.nilMap (κ:=Int) (ν:=Int)
 have hS12:=hS10.p [1,0] rfl
 subst h
 exact we_ret (pr [.cell 4 64,.cell 5 25] [.agg #[(.slice none 0 0),.map none],.agg #[vI x0,vI x1]] [ld b1 0 ((.slice none 0 0)),ld b1 1 (.map none),ld b2 0 (vI x0),ld b2 1 (vI x1)] ⟨hS10.c 3,hS10.c 3,hS10.c 2,hS10.c 2,trivial⟩ ⟨(.slice none 0 0),none,rfl,hS12⟩)

/-! punctual/mach.operand -/
abbrev mach_operand.Post (w0:World) (r:Int×Int) (e:Ending) (w:World):Prop:=e=.returned (.tuple #[vI r.1,vI r.2])∧St w0 w []
def mach_operand.p0 (x0 : Int) : Option (Bool ⊕ (Int × Int)) :=
  if x0=2 then
   some (.inl true)
  else
   if x0=3 then
    some (.inl true)
   else
    some (.inl (x0==15))
def mach_operand.p1 (x0 : Int) : Option (Bool ⊕ (Int × Int)) :=
  if x0=9 then
   some (.inl true)
  else
   if x0=10 then
    some (.inl true)
   else
    if x0=16 then
     some (.inl true)
    else
     some (.inl (x0==17))
def mach_operand.f (x0 : Int) : Option (Int × Int) :=
 if x0=1 then
  some (999999999,(-1))
 else
  match mach_operand.p0 x0 with
  | none=>none
  | some (.inl q2) =>
   if q2=true then
    some (7,(-1))
   else
    match mach_operand.p1 x0 with
    | none=>none
    | some (.inl q4) =>
     if q4=true then
      some (3,(-1))
     else
      if x0=11 then
       some (2000,(-1))
      else
       if x0=12 then
        some (2000,(-1))
       else
        if x0=13 then
         some (7,1000)
        else
         if x0=14 then
          some (7,2000)
         else
          if x0=18 then
           some (1000,(-1))
          else
           some ((-1),(-1))
    | some (.inr rr1) =>
     some rr1
  | some (.inr rr2) =>
   some rr2
abbrev mach_operand.A0 (w0:World) (x0:Int):Bool→Act→World→Prop:=fun (s:Bool) a w=>St w0 w []∧Frm 25 a [(4,vI x0),(7,.bool s)]
abbrev mach_operand.B0 (w0:World):(Int×Int)→Exit→Act→World→Prop:=Rets Tryd.prog Tryd.f51 (mach_operand.Post w0)
theorem mach_operand_p0 (K:Nat) (w0:World) (x0:Int) (hc1:¬ (x0=1)) (o:Bool ⊕ (Int×Int)) (h:mach_operand.p0 x0=some o) (w:World) (hS:St w0 w []) (Q:Exit→Act→World→Prop) (hQ:∀ x a w,Outs (mach_operand.A0 w0 x0) (mach_operand.B0 w0) o x a w→Q x a w):WE Tryd.prog 25 (subF Tryd.f51 [1,0,1,0,1,1,0]) Q [(0,vI x0),(2,vI 0),(3,vI 0),(4,vI x0),(5,.bool false),(6,.bool (x0==1))] w:=by
 simp only [mach_operand.p0] at h
 refine ws fun K7 hK7=>wr [(0,0),(1,0)]<|gb0 [0,1] [(7,.bool (x0==2)),(8,.bool (x0==2))]<|gn hK7 ?_
 by_cases hc2:x0=2
 ·rw [if_pos hc2] at h
  refine wk 7 (x0==2) true (beq_iff_eq.2 hc2)<|wt ?_
  obtain rfl:=si h
  exact we_skip fun a hF=>hQ _ _ _ (Outs.again ⟨hS,hF.weaken ea⟩)
 rw [if_neg hc2] at h
 refine wk 7 (x0==2) false (beq_eq_false_iff_ne.2 hc2)<|wf<|ws fun K8 hK8=>wr [(0,0),(1,0)]<|gb0 [0,1] [(7,.bool (x0==3)),(9,.bool (x0==3))]<|gn hK8 ?_
 by_cases hc3:x0=3
 ·rw [if_pos hc3] at h
  refine wk 7 (x0==3) true (beq_iff_eq.2 hc3)<|wt ?_
  obtain rfl:=si h
  exact we_skip fun a hF=>hQ _ _ _ (Outs.again ⟨hS,hF.weaken ea⟩)
 rw [if_neg hc3] at h
 refine wk 7 (x0==3) false (beq_eq_false_iff_ne.2 hc3)<|wf<|wr [(0,0),(1,0)]<|gb0 [0,1] [(7,.bool (x0==15)),(10,.bool (x0==15))] ?_
 obtain rfl:=si h
 exact ge_nil fun a hF=>hQ _ _ _ (Outs.again ⟨hS,hF.weaken ea⟩)
abbrev mach_operand.A1 (w0:World) (x0:Int):Bool→Act→World→Prop:=fun (s:Bool) a w=>St w0 w []∧Frm 25 a [(4,vI x0),(11,.bool s)]
abbrev mach_operand.B1 (w0:World):(Int×Int)→Exit→Act→World→Prop:=Rets Tryd.prog Tryd.f51 (mach_operand.Post w0)
theorem mach_operand_p1 (K:Nat) (w0:World) (x0:Int) (hc1:¬ (x0=1)) (q2:Bool) (hc4:¬ (q2=true)) (o:Bool ⊕ (Int×Int)) (h:mach_operand.p1 x0=some o) (w:World) (hS:St w0 w []) (Q:Exit→Act→World→Prop) (hQ:∀ x a w,Outs (mach_operand.A1 w0 x0) (mach_operand.B1 w0) o x a w→Q x a w):WE Tryd.prog 25 (subF Tryd.f51 [1,0,1,0,1,1,1,1,0]) Q [(4,vI x0),(7,.bool false)] w:=by
 simp only [mach_operand.p1] at h
 refine ws fun K11 hK11=>wr [(0,0),(1,0)]<|gb0 [0,1] [(11,.bool (x0==9)),(12,.bool (x0==9))]<|gn hK11 ?_
 by_cases hc5:x0=9
 ·rw [if_pos hc5] at h
  refine wk 11 (x0==9) true (beq_iff_eq.2 hc5)<|wt ?_
  obtain rfl:=si h
  exact we_skip fun a hF=>hQ _ _ _ (Outs.again ⟨hS,hF.weaken ea⟩)
 rw [if_neg hc5] at h
 refine wk 11 (x0==9) false (beq_eq_false_iff_ne.2 hc5)<|wf<|ws fun K12 hK12=>wr [(0,0),(1,0)]<|gb0 [0,1] [(11,.bool (x0==10)),(13,.bool (x0==10))]<|gn hK12 ?_
 by_cases hc6:x0=10
 ·rw [if_pos hc6] at h
  refine wk 11 (x0==10) true (beq_iff_eq.2 hc6)<|wt ?_
  obtain rfl:=si h
  exact we_skip fun a hF=>hQ _ _ _ (Outs.again ⟨hS,hF.weaken ea⟩)
 rw [if_neg hc6] at h
 refine wk 11 (x0==10) false (beq_eq_false_iff_ne.2 hc6)<|wf<|ws fun K13 hK13=>wr [(0,0),(1,0)]<|gb0 [0,1] [(11,.bool (x0==16)),(14,.bool (x0==16))]<|gn hK13 ?_
 by_cases hc7:x0=16
 ·rw [if_pos hc7] at h
  refine wk 11 (x0==16) true (beq_iff_eq.2 hc7)<|wt ?_
  obtain rfl:=si h
  exact we_skip fun a hF=>hQ _ _ _ (Outs.again ⟨hS,hF.weaken ea⟩)
 rw [if_neg hc7] at h
 refine wk 11 (x0==16) false (beq_eq_false_iff_ne.2 hc7)<|wf<|wr [(0,0),(1,0)]<|gb0 [0,1] [(11,.bool (x0==17)),(15,.bool (x0==17))] ?_
 obtain rfl:=si h
 exact ge_nil fun a hF=>hQ _ _ _ (Outs.again ⟨hS,hF.weaken ea⟩)
theorem mach_operand_ok (x0:Int) (w0:World) (r:Int×Int) (h:mach_operand.f x0=some r) :
  Calls Tryd.prog 51 #[vI x0] w0 (mach_operand.Post w0 r):=by
 have hS:=St.start w0
 unfold mach_operand.f at h
 refine calls_enter (n:=25) (args:=[vI x0]) (fn:=Tryd.f51) rfl rfl rfl rfl ?_
 show WE _ _ _ _ [(0,vI x0)] _
 refine ws fun K1 hK1=>wr [(0,0),(1,0)]<|gb0 [0,1] [(3,vI 0),(2,vI 0)]<|gn hK1<|ws fun K2 hK2=>ws fun K3 hK3=>wr [(0,0)]<|gb0 [0] [(4,vI x0)]<|gn hK3<|we_block<|ws fun K4 hK4=>wr [(0,0),(1,0)]<|gb0 [0,1] [(5,.bool (x0==1)),(6,.bool (x0==1))]<|gn hK4 ?_
 by_cases hc1:x0=1
 ·rw [if_pos hc1] at h
  refine wk 5 (x0==1) true (beq_iff_eq.2 hc1)<|wt<|ws fun K5 hK5=>wr [(0,0),(1,0)]<|gb0 [0,1] [(3,vI (-1)),(2,vI 999999999)]<|gn hK5 ?_
  obtain rfl:=si h
  exact we_ret (pr0 [.tmp 2,.tmp 3] [vI 999999999,vI (-1)] ⟨rfl,hS⟩)
 rw [if_neg hc1] at h
 refine wk 5 (x0==1) false (beq_eq_false_iff_ne.2 hc1)<|wf<|ws fun K6 hK6=>?_
 rcases hq1:mach_operand.p0 x0 with _ | (q2 | rr2)
 ·rw [hq1] at h; cases h
 ·rw [hq1] at h
  simp only [] at h
  refine kp (mach_operand_p0 0 w0 x0 hc1 _ hq1 _ hS _ ?_)
  rintro _ a w1 ⟨rfl,hS1,hF⟩
  replace hS1:St w0 w1 []:=hS1
  refine hK6 [(4,vI x0),(7,.bool q2)] w1 ?_ a hF
  by_cases hc4:q2=true
  ·rw [if_pos hc4] at h
   refine wk 7 q2 true hc4<|wt<|ws fun K9 hK9=>wr [(0,0),(1,0)]<|gb0 [0,1] [(3,vI (-1)),(2,vI 7)]<|gn hK9 ?_
   obtain rfl:=si h
   exact we_ret (pr0 [.tmp 2,.tmp 3] [vI 7,vI (-1)] ⟨rfl,hS1⟩)
  rw [if_neg hc4] at h
  refine wk 7 q2 false (Bool.eq_false_iff.2 hc4)<|wf<|ws fun K10 hK10=>?_
  rcases hq2:mach_operand.p1 x0 with _ | (q4 | rr1)
  ·rw [hq2] at h; cases h
  ·rw [hq2] at h
   simp only [] at h
   refine kp (mach_operand_p1 0 w0 x0 hc1 q2 hc4 _ hq2 _ hS1 _ ?_)
   rintro _ a w2 ⟨rfl,hS2,hF⟩
   replace hS2:St w0 w2 []:=hS2
   refine hK10 [(4,vI x0),(11,.bool q4)] w2 ?_ a hF
   by_cases hc8:q4=true
   ·rw [if_pos hc8] at h
    refine wk 11 q4 true hc8<|wt<|ws fun K14 hK14=>wr [(0,0),(1,0)]<|gb0 [0,1] [(3,vI (-1)),(2,vI 3)]<|gn hK14 ?_
    obtain rfl:=si h
    exact we_ret (pr0 [.tmp 2,.tmp 3] [vI 3,vI (-1)] ⟨rfl,hS2⟩)
   rw [if_neg hc8] at h
   refine wk 11 q4 false (Bool.eq_false_iff.2 hc8)<|wf<|ws fun K15 hK15=>ws fun K16 hK16=>wr [(0,0),(1,0)]<|gb0 [0,1] [(16,.bool (x0==11)),(17,.bool (x0==11))]<|gn hK16 ?_
   by_cases hc9:x0=11
   ·rw [if_pos hc9] at h
    refine wk 16 (x0==11) true (beq_iff_eq.2 hc9)<|wt<|we_skip fun a hF=>hK15 _ _ ?_ a hF
    refine wt<|ws fun K17 hK17=>wr [(0,0),(1,0)]<|gb0 [0,1] [(3,vI (-1)),(2,vI 2000)]<|gn hK17 ?_
    obtain rfl:=si h
    exact we_ret (pr0 [.tmp 2,.tmp 3] [vI 2000,vI (-1)] ⟨rfl,hS2⟩)
   rw [if_neg hc9] at h
   refine wk 16 (x0==11) false (beq_eq_false_iff_ne.2 hc9)<|wf<|wr [(0,0),(1,0)]<|gb0 [0,1] [(16,.bool (x0==12)),(18,.bool (x0==12))]<|gn hK15 ?_
   by_cases hc10:x0=12
   ·rw [if_pos hc10] at h
    refine wk 16 (x0==12) true (beq_iff_eq.2 hc10)<|wt<|ws fun K18 hK18=>wr [(0,0),(1,0)]<|gb0 [0,1] [(3,vI (-1)),(2,vI 2000)]<|gn hK18 ?_
    obtain rfl:=si h
    exact we_ret (pr0 [.tmp 2,.tmp 3] [vI 2000,vI (-1)] ⟨rfl,hS2⟩)
   rw [if_neg hc10] at h
   refine wk 16 (x0==12) false (beq_eq_false_iff_ne.2 hc10)<|wf<|ws fun K19 hK19=>wr [(0,0),(1,0)]<|gb0 [0,1] [(19,.bool (x0==13)),(20,.bool (x0==13))]<|gn hK19 ?_
   by_cases hc11:x0=13
   ·rw [if_pos hc11] at h
    refine wk 19 (x0==13) true (beq_iff_eq.2 hc11)<|wt<|ws fun K20 hK20=>wr [(0,0),(1,0)]<|gb0 [0,1] [(3,vI 1000),(2,vI 7)]<|gn hK20 ?_
    obtain rfl:=si h
    exact we_ret (pr0 [.tmp 2,.tmp 3] [vI 7,vI 1000] ⟨rfl,hS2⟩)
   rw [if_neg hc11] at h
   refine wk 19 (x0==13) false (beq_eq_false_iff_ne.2 hc11)<|wf<|ws fun K21 hK21=>wr [(0,0),(1,0)]<|gb0 [0,1] [(21,.bool (x0==14)),(22,.bool (x0==14))]<|gn hK21 ?_
   by_cases hc12:x0=14
   ·rw [if_pos hc12] at h
    refine wk 21 (x0==14) true (beq_iff_eq.2 hc12)<|wt<|ws fun K22 hK22=>wr [(0,0),(1,0)]<|gb0 [0,1] [(3,vI 2000),(2,vI 7)]<|gn hK22 ?_
    obtain rfl:=si h
    exact we_ret (pr0 [.tmp 2,.tmp 3] [vI 7,vI 2000] ⟨rfl,hS2⟩)
   rw [if_neg hc12] at h
   refine wk 21 (x0==14) false (beq_eq_false_iff_ne.2 hc12)<|wf<|ws fun K23 hK23=>wr [(0,0),(1,0)]<|gb0 [0,1] [(23,.bool (x0==18)),(24,.bool (x0==18))]<|gn hK23 ?_
   by_cases hc13:x0=18
   ·rw [if_pos hc13] at h
    refine wk 23 (x0==18) true (beq_iff_eq.2 hc13)<|wt<|ws fun K24 hK24=>wr [(0,0),(1,0)]<|gb0 [0,1] [(3,vI (-1)),(2,vI 1000)]<|gn hK24 ?_
    obtain rfl:=si h
    exact we_ret (pr0 [.tmp 2,.tmp 3] [vI 1000,vI (-1)] ⟨rfl,hS2⟩)
   rw [if_neg hc13] at h
   refine wk 23 (x0==18) false (beq_eq_false_iff_ne.2 hc13)<|wf<|we_skip fun a hF=>hK2 _ _ ?_ a hF
   refine ws fun K25 hK25=>wr [(0,0),(1,0)]<|gb0 [0,1] [(3,vI (-1)),(2,vI (-1))]<|gn hK25 ?_
   obtain rfl:=si h
   exact we_ret (pr0 [.tmp 2,.tmp 3] [vI (-1),vI (-1)] ⟨rfl,hS2⟩)
  rw [hq2] at h
  simp only [] at h
  refine kp (mach_operand_p1 0 w0 x0 hc1 q2 hc4 _ hq2 _ hS1 _ ?_)
  rintro _ a w1 ⟨_,rfl,hb⟩
  obtain rfl:=si h
  exact hb
 rw [hq1] at h
 simp only [] at h
 refine kp (mach_operand_p0 0 w0 x0 hc1 _ hq1 _ hS _ ?_)
 rintro _ a w1 ⟨_,rfl,hb⟩
 obtain rfl:=si h
 exact hb

/-! punctual/mach.fits -/
abbrev mach_fits.Post (w0:World) (r:Bool) (e:Ending) (w:World):Prop:=e=.returned (.bool r)∧St w0 w []
def mach_fits.f (x0 : Int) (x1 : Int) : Bool :=
 if x0 ≥ 0 then
  decide (x0≤(gmax x1 0))
 else
  false
theorem mach_fits_ok (x0 x1:Int) (w0:World) (r:Bool) (h:mach_fits.f x0 x1=r) :
  Calls Tryd.prog 52 #[vI x0,vI x1] w0 (mach_fits.Post w0 r):=by
 have hS:=St.start w0
 unfold mach_fits.f at h
 refine calls_enter (n:=13) (args:=[vI x0,vI x1]) (fn:=Tryd.f52) rfl rfl rfl rfl ?_
 show WE _ _ _ _ [(0,vI x0),(1,vI x1)] _
 refine ws fun K1 hK1=>wr [(0,0)]<|gb0 [0] [(4,.bool false)]<|gn hK1<|ws fun K2 hK2=>wr [(0,0),(1,0),(2,0),(3,0),(4,0),(5,0),(6,0),(7,0),(8,0)]<|gb0 [0,1,2] [(7,.bool (decide (x0 ≥ 0))),(6,.bool (decide (x0 ≥ 0))),(5,vI x0)] ?_
 by_cases hc1:x0 ≥ 0
 ·rw [if_pos hc1] at h
  refine gk 7 (decide (x0 ≥ 0)) true (decide_eq_true hc1)<|gb0 [3,4,5,6,7,8] [(4,.bool (decide (x0≤(gmax x1 0)))),(12,.bool (decide (x0≤(gmax x1 0)))),(11,.bool (decide (x0≤(gmax x1 0)))),(10,vI (gmax x1 0)),(9,vI x1),(8,vI x0)]<|gn hK2 ?_
  subst h
  exact we_ret (pr0 [.tmp 4] [.bool (decide (x0≤(gmax x1 0)))] ⟨rfl,hS⟩)
 rw [if_neg hc1] at h
 refine gk 7 (decide (x0 ≥ 0)) false (decide_eq_false hc1)<|gb0 [3,4,5,6,7,8] [(4,.bool false),(12,.bool false),(11,undef),(10,undef),(9,undef),(8,undef)]<|gn hK2 ?_
 subst h
 exact we_ret (pr0 [.tmp 4] [.bool false] ⟨rfl,hS⟩)

/-! (*punctual/mach.looker).top -/
abbrev mach_looker_top.Post (w0:World) (bp0:Nat) (lp0_0:List SIns) (Ap0_0:OA) (cp0_0:Nat) (lp0_1:List Int) (Ap0_1:OA) (cp0_1:Nat) (lp0_2:List Int) (Ap0_2:OA) (cp0_2:Nat) (mp0_3:List (Int×Int)) (mbp0_3:Nat) (LT:List Own) (r:Int) (e:Ending) (w:World):Prop:=e=.returned (vI r)∧St w0 w [bk bp0 #[.slice Ap0_0 lp0_0.length cp0_0,(.slice Ap0_1 lp0_1.length cp0_1),(.slice Ap0_2 lp0_2.length cp0_2),.map (some mbp0_3)] 109,ro Ap0_1 cp0_1 3 lp0_1,ro Ap0_2 cp0_2 3 lp0_2,Own.map (κ:=Int) (ν:=Int) mbp0_3 mp0_3,Own.all LT]
def mach_looker_top.f (lp0_0 : List SIns) (lp0_1 : List Int) (lp0_2 : List Int) (mp0_3 : List (Int × Int)) : Option Int :=
 if (lp0_1.length:Int)=0 then
  some (-1)
 else
  if 0≤(IntKind.i64.wrap ((lp0_1.length:Int)-1)) then
   match lp0_1[(IntKind.i64.wrap ((lp0_1.length:Int)-1)).toNat]? with
   | none=>none
   | some e1 =>
    some e1
  else
   none
theorem mach_looker_top_ok (bp0:Nat) (lp0_0:List SIns) (Ap0_0:OA) (cp0_0:Nat) (lp0_1:List Int) (Ap0_1:OA) (cp0_1:Nat) (lp0_2:List Int) (Ap0_2:OA) (cp0_2:Nat) (mp0_3:List (Int×Int)) (mbp0_3:Nat) (w0 wE:World) (LT:List Own) (hS:St w0 wE [bk bp0 #[.slice Ap0_0 lp0_0.length cp0_0,(.slice Ap0_1 lp0_1.length cp0_1),(.slice Ap0_2 lp0_2.length cp0_2),.map (some mbp0_3)] 109,ro Ap0_1 cp0_1 3 lp0_1,ro Ap0_2 cp0_2 3 lp0_2,Own.map (κ:=Int) (ν:=Int) mbp0_3 mp0_3,Own.all LT]) (hRp0_0:RdL w0 Ap0_0 lp0_0) (hLp0_0:lp0_0.length≤cp0_0) (r:Int) (h:mach_looker_top.f lp0_0 lp0_1 lp0_2 mp0_3=some r) :
  Calls Tryd.prog 69 #[pP bp0 0] wE (mach_looker_top.Post w0 bp0 lp0_0 Ap0_0 cp0_0 lp0_1 Ap0_1 cp0_1 lp0_2 Ap0_2 cp0_2 mp0_3 mbp0_3 LT r):=by
 unfold mach_looker_top.f at h
 refine calls_enter (n:=21) (args:=[pP bp0 0]) (fn:=Tryd.f69) rfl rfl rfl rfl ?_
 show WE _ _ _ _ [(0,pP bp0 0)] _
 refine ws fun K1 hK1=>wr [(0,0)]<|gb0 [0] [(2,vI 0)]<|gn hK1<|ws fun K2 hK2=>ws fun K3 hK3=>wr [(0,0),(1,0),(2,0),(3,0),(4,0),(5,0)]<|gb [0,1,2,3,4,5] [(8,.bool ((lp0_1.length:Int)==0)),(7,vI (lp0_1.length:Int)),(6,(.slice Ap0_1 lp0_1.length cp0_1)),(5,pP bp0 1),(4,pP bp0 0),(3,pP bp0 0)] [ld bp0 1 ((.slice Ap0_1 lp0_1.length cp0_1))] ⟨hS.c 0,trivial⟩<|gn hK3 ?_
 by_cases hc1:(lp0_1.length:Int)=0
 ·rw [if_pos hc1] at h
  refine wk 8 ((lp0_1.length:Int)==0) true (beq_iff_eq.2 hc1)<|wt<|ws fun K4 hK4=>wr [(0,0)]<|gb0 [0] [(2,vI (-1))]<|gn hK4 ?_
  have hS5:=((((hS.b 4).b 4).b 4).b 4).b 4
  obtain rfl:=si h
  exact we_ret (pr0 [.tmp 2] [vI (-1)] ⟨rfl,hS5⟩)
 rw [if_neg hc1] at h
 refine wk 8 ((lp0_1.length:Int)==0) false (beq_eq_false_iff_ne.2 hc1)<|wf<|we_skip fun a hF=>hK2 _ _ ?_ a hF
 refine ws fun K5 hK5=>we_draws (by kernel_rfl) [(0,0),(1,0),(2,0),(3,0),(4,0),(5,0),(6,0),(7,0),(8,0),(9,0),(10,0),(11,0),(12,0)] (by kernel_rfl) ?_
 have hS6:=hS.drew
 refine gb [0,1,2,3,4,5,6,7,8,9] [(18,vI (IntKind.i64.wrap ((lp0_1.length:Int)-1))),(17,vI (lp0_1.length:Int)),(16,(.slice Ap0_1 lp0_1.length cp0_1)),(15,pP bp0 1),(14,pP bp0 0),(13,pP bp0 0),(12,(.slice Ap0_1 lp0_1.length cp0_1)),(11,pP bp0 1),(10,pP bp0 0),(9,pP bp0 0)] [ld bp0 1 ((.slice Ap0_1 lp0_1.length cp0_1)),ld bp0 1 ((.slice Ap0_1 lp0_1.length cp0_1))] ⟨hS6.c 0,hS6.c 0,trivial⟩ ?_
 by_cases hc2:0≤(IntKind.i64.wrap ((lp0_1.length:Int)-1))
 ·rw [if_pos hc2] at h
  rcases hx1:lp0_1[(IntKind.i64.wrap ((lp0_1.length:Int)-1)).toNat]? with _ | e1
  ·rw [hx1] at h; cases h
  rw [hx1] at h
  simp only [] at h
  refine gi 19 0 37 3 1 lp0_1.length cp0_1 (.tmp 12) (.tmp 18) Ap0_1 .i64 (IntKind.i64.wrap ((lp0_1.length:Int)-1)) ((IntKind.i64.wrap ((lp0_1.length:Int)-1)).toNat) ((hS6.rdAt 1 rfl).eqSome (pos_of_get hx1)) (Int.toNat_of_nonneg hc2).symm (lt_of_get hx1) ?_
  refine gb [11,12] [(2,vI e1),(20,vI e1)] [.loaded ⟨blkOf Ap0_1,offOf Ap0_1+((IntKind.i64.wrap ((lp0_1.length:Int)-1)).toNat)*1,none⟩ (vI e1)] ⟨RdL.cell (j:=0) (hS6.rdAt 1 rfl) hx1 rfl,trivial⟩<|gn hK5 ?_
  have hS11:=((((hS6.b 4).b 4).b 4).b 4).b 4
  obtain rfl:=si h
  exact we_ret (pr0 [.tmp 2] [vI e1] ⟨rfl,hS11⟩)
 rw [if_neg hc2] at h
 cases h

/-! (*punctual/mach.looker).holds -/
abbrev mach_looker_holds.Post (w0:World) (bp0:Nat) (lp0_0:List SIns) (Ap0_0:OA) (cp0_0:Nat) (lp0_1:List Int) (Ap0_1:OA) (cp0_1:Nat) (lp0_2:List Int) (Ap0_2:OA) (cp0_2:Nat) (mp0_3:List (Int×Int)) (mbp0_3:Nat) (x1 x2:Int) (LT:List Own) (r:Bool) (e:Ending) (w:World):Prop:=e=.returned (.bool r)∧St w0 w [bk bp0 #[.slice Ap0_0 lp0_0.length cp0_0,(.slice Ap0_1 lp0_1.length cp0_1),(.slice Ap0_2 lp0_2.length cp0_2),.map (some mbp0_3)] 109,ro Ap0_1 cp0_1 3 lp0_1,ro Ap0_2 cp0_2 3 lp0_2,Own.map (κ:=Int) (ν:=Int) mbp0_3 mp0_3,Own.all LT]
def mach_looker_holds.r0 (lp0_0 : List SIns) (lp0_1 : List Int) (x1 : Int) (x2 : Int) : Nat → Option (Nat ⊕ (Unit ⊕ Bool))
 | i1 =>
  if (i1:Int)<(lp0_1.length:Int) then
   match lp0_1[i1]? with
   | none=>none
   | some e1 =>
    if 0≤e1 then
     match lp0_0[(e1).toNat]? with
     | none=>none
     | some e2 =>
      if e2.Op=x1 then
       if e2.A=x2 then
        some (.inr (.inr true))
       else
        some (.inl (i1+1))
      else
       some (.inl (i1+1))
    else
     none
  else
   some (.inr (.inl ()))
def mach_looker_holds.f (K : Nat) (lp0_0 : List SIns) (lp0_1 : List Int) (lp0_2 : List Int) (mp0_3 : List (Int × Int)) (x1 : Int) (x2 : Int) : Option Bool :=
 match iter (mach_looker_holds.r0 lp0_0 lp0_1 x1 x2) K 0 with
 | none=>none
 | some (.inl _) =>
  some false
 | some (.inr rr1) =>
  some rr1
abbrev mach_looker_holds.A0 (w0:World) (bp0:Nat) (lp0_0:List SIns) (Ap0_0:OA) (cp0_0:Nat) (lp0_1:List Int) (Ap0_1:OA) (cp0_1:Nat) (lp0_2:List Int) (Ap0_2:OA) (cp0_2:Nat) (mp0_3:List (Int×Int)) (mbp0_3:Nat) (x1 x2:Int) (LT:List Own):Nat→Act→World→Prop:=fun (s:Nat) a w=>St w0 w [bk bp0 #[.slice Ap0_0 lp0_0.length cp0_0,(.slice Ap0_1 lp0_1.length cp0_1),(.slice Ap0_2 lp0_2.length cp0_2),.map (some mbp0_3)] 109,ro Ap0_1 cp0_1 3 lp0_1,ro Ap0_2 cp0_2 3 lp0_2,Own.map (κ:=Int) (ν:=Int) mbp0_3 mp0_3,Own.all LT]∧Frm 41 a [(0,pP bp0 0),(1,vI x1),(2,vI x2),(12,(.slice Ap0_1 lp0_1.length cp0_1)),(13,vI (lp0_1.length:Int)),(14,vI (s:Int))]
abbrev mach_looker_holds.B0 (w0:World) (bp0:Nat) (lp0_0:List SIns) (Ap0_0:OA) (cp0_0:Nat) (lp0_1:List Int) (Ap0_1:OA) (cp0_1:Nat) (lp0_2:List Int) (Ap0_2:OA) (cp0_2:Nat) (mp0_3:List (Int×Int)) (mbp0_3:Nat) (x1 x2:Int) (LT:List Own):(Unit ⊕ Bool)→Exit→Act→World→Prop:=Exits 0 (fun (s:Unit) a w=>St w0 w [bk bp0 #[.slice Ap0_0 lp0_0.length cp0_0,(.slice Ap0_1 lp0_1.length cp0_1),(.slice Ap0_2 lp0_2.length cp0_2),.map (some mbp0_3)] 109,ro Ap0_1 cp0_1 3 lp0_1,ro Ap0_2 cp0_2 3 lp0_2,Own.map (κ:=Int) (ν:=Int) mbp0_3 mp0_3,Own.all LT]∧Frm 41 a [(0,pP bp0 0)]) (Rets Tryd.prog Tryd.f70 (mach_looker_holds.Post w0 bp0 lp0_0 Ap0_0 cp0_0 lp0_1 Ap0_1 cp0_1 lp0_2 Ap0_2 cp0_2 mp0_3 mbp0_3 x1 x2 LT))
theorem mach_looker_holds_r0 (K:Nat) (w0:World) (bp0:Nat) (lp0_0:List SIns) (Ap0_0:OA) (cp0_0:Nat) (lp0_1:List Int) (Ap0_1:OA) (cp0_1:Nat) (lp0_2:List Int) (Ap0_2:OA) (cp0_2:Nat) (mp0_3:List (Int×Int)) (mbp0_3:Nat) (x1 x2:Int) (LT:List Own) (hRp0_0:RdL w0 Ap0_0 lp0_0) (hLp0_0:lp0_0.length≤cp0_0) (s:Nat) (o:Nat ⊕ (Unit ⊕ Bool)) (h:mach_looker_holds.r0 lp0_0 lp0_1 x1 x2 s=some o) (a:Act) (w:World) (hA:mach_looker_holds.A0 w0 bp0 lp0_0 Ap0_0 cp0_0 lp0_1 Ap0_1 cp0_1 lp0_2 Ap0_2 cp0_2 mp0_3 mbp0_3 x1 x2 LT s a w) (Q:Exit→Act→World→Prop) (hQ:∀ x a w,Outs (mach_looker_holds.A0 w0 bp0 lp0_0 Ap0_0 cp0_0 lp0_1 Ap0_1 cp0_1 lp0_2 Ap0_2 cp0_2 mp0_3 mbp0_3 x1 x2 LT) (mach_looker_holds.B0 w0 bp0 lp0_0 Ap0_0 cp0_0 lp0_1 Ap0_1 cp0_1 lp0_2 Ap0_2 cp0_2 mp0_3 mbp0_3 x1 x2 LT) o x a w→Q x a w):(subF Tryd.f70 [1,0,1,0,0]).wp Tryd.prog Q a w:=by
 obtain ⟨i1,hs⟩:∃ z,z=s:=⟨s,rfl⟩
 subst hs
 obtain ⟨hS,hF⟩:=hA
 replace hS:St w0 w [bk bp0 #[.slice Ap0_0 lp0_0.length cp0_0,(.slice Ap0_1 lp0_1.length cp0_1),(.slice Ap0_2 lp0_2.length cp0_2),.map (some mbp0_3)] 109,ro Ap0_1 cp0_1 3 lp0_1,ro Ap0_2 cp0_2 3 lp0_2,Own.map (κ:=Int) (ν:=Int) mbp0_3 mp0_3,Own.all LT]:=hS
 simp only [mach_looker_holds.r0] at h
 refine (?_:WE Tryd.prog 41 (subF Tryd.f70 [1,0,1,0,0]) Q [(0,pP bp0 0),(1,vI x1),(2,vI x2),(12,(.slice Ap0_1 lp0_1.length cp0_1)),(13,vI (lp0_1.length:Int)),(14,vI (i1:Int))] w) a hF
 clear hF a
 refine ws fun K4 hK4=>wr [(0,0)]<|gb0 [0] [(15,.bool (decide ((i1:Int)<(lp0_1.length:Int))))]<|gn hK4<|ws fun K5 hK5=>?_
 by_cases hc1:(i1:Int)<(lp0_1.length:Int)
 ·rw [if_pos hc1] at h
  refine wk 15 (decide ((i1:Int)<(lp0_1.length:Int))) true (decide_eq_true hc1)<|wt<|we_skip fun a hF=>hK5 _ _ ?_ a hF
  refine ws fun K6 hK6=>we_block<|ws fun K7 hK7=>wr [(0,0),(1,0),(2,0)] ?_
  rcases hx1:lp0_1[i1]? with _ | e1
  ·rw [hx1] at h; cases h
  rw [hx1] at h
  simp only [] at h
  refine gi 16 0 37 3 1 lp0_1.length cp0_1 (.tmp 12) (.tmp 14) Ap0_1 .i64 (i1:Int) i1 ((hS.rdAt 1 rfl).eqSome (pos_of_get hx1)) rfl (lt_of_get hx1) ?_
  refine gb [1,2] [(8,vI e1),(17,vI e1)] [.loaded ⟨blkOf Ap0_1,offOf Ap0_1+i1*1,none⟩ (vI e1)] ⟨RdL.cell (j:=0) (hS.rdAt 1 rfl) hx1 rfl,trivial⟩<|gn hK7<|ws fun K8 hK8=>wr [(0,0),(1,0),(2,0),(3,0),(4,0),(5,0),(6,0),(7,0),(8,0),(9,0),(10,0),(11,0),(12,0),(13,0),(14,0),(15,0),(16,0),(17,0),(18,0),(19,0),(20,0),(21,0)]<|gb [0,1,2,3,4] [(22,vI e1),(21,.slice Ap0_0 lp0_0.length cp0_0),(20,pP bp0 0),(19,pP bp0 0),(18,pP bp0 0)] [ld bp0 0 (.slice Ap0_0 lp0_0.length cp0_0)] ⟨hS.c 0,trivial⟩ ?_
  by_cases hc2:0≤e1
  ·rw [if_pos hc2] at h
   rcases hx2:lp0_0[(e1).toNat]? with _ | e2
   ·rw [hx2] at h; cases h
   rw [hx2] at h
   simp only [] at h
   refine gi 23 0 22 29 3 lp0_0.length cp0_0 (.tmp 21) (.tmp 22) Ap0_0 .i64 e1 ((e1).toNat) ((hS.rd hRp0_0).eqSome (pos_of_get hx2)) (Int.toNat_of_nonneg hc2).symm (lt_of_get hx2) ?_
   refine gb [6,7,8,9,10] [(28,.bool (e2.Op==x1)),(27,.bool (e2.Op==x1)),(26,vI x1),(25,vI e2.Op),(24,.pointer (some ⟨blkOf Ap0_0,offOf Ap0_0+(e1).toNat*3,none⟩))] [.loaded ⟨blkOf Ap0_0,offOf Ap0_0+((e1).toNat)*3,none⟩ (vI e2.Op)] ⟨RdL.cell (j:=0) (hS.rd hRp0_0) hx2 rfl,trivial⟩ ?_
   by_cases hc3:e2.Op=x1
   ·rw [if_pos hc3] at h
    refine gk 28 (e2.Op==x1) true (beq_iff_eq.2 hc3)<|gb [11,12,13,14,15] [(33,vI e1),(32,.slice Ap0_0 lp0_0.length cp0_0),(31,pP bp0 0),(30,pP bp0 0),(29,pP bp0 0)] [ld bp0 0 (.slice Ap0_0 lp0_0.length cp0_0)] ⟨hS.c 0,trivial⟩<|gi 34 0 22 29 3 lp0_0.length cp0_0 (.tmp 32) (.tmp 33) Ap0_0 .i64 e1 ((e1).toNat) ((hS.rd hRp0_0).eqSome (pos_of_get hx2)) (Int.toNat_of_nonneg hc2).symm (lt_of_get hx2) ?_
    refine gb [17,18,19,20,21] [(39,.bool (e2.A==x2)),(38,.bool (e2.A==x2)),(37,vI x2),(36,vI e2.A),(35,.pointer (some ⟨blkOf Ap0_0,offOf Ap0_0+(e1).toNat*3+1,none⟩))] [.loaded ⟨blkOf Ap0_0,offOf Ap0_0+((e1).toNat)*3+1,none⟩ (vI e2.A)] ⟨RdL.cell (j:=1) (hS.rd hRp0_0) hx2 rfl,trivial⟩<|gn hK8 ?_
    by_cases hc4:e2.A=x2
    ·rw [if_pos hc4] at h
     refine wk 39 (e2.A==x2) true (beq_iff_eq.2 hc4)<|wt<|ws fun K9 hK9=>wr [(0,0)]<|gb0 [0] [(6,.bool true)]<|gn hK9 ?_
     have hS10:=((((hS.b 4).b 4).b 4).b 4).b 4
     obtain rfl:=si h
     exact we_ret fun a hF=>hQ _ _ _ (Outs.out nofun (Exits.on ⟨rfl,(pr0 [.tmp 6] [.bool true] ⟨rfl,hS10⟩) a hF⟩))
    rw [if_neg hc4] at h
    refine wk 39 (e2.A==x2) false (beq_eq_false_iff_ne.2 hc4)<|wf<|we_skip fun a hF=>hK6 _ _ ?_ a hF
    refine wr [(0,0),(1,0)]<|ge_addn (d:=40) (ty:=3) (x:=(.tmp 14)) (y:=(.const (vI 1))) (t:=3) (t2:=3) (k:=.i64) (m:=i1) (by kernel_rfl) (by kernel_rfl) (by kernel_rfl) (by have h0:=hS.ofSmall 1 rfl; omega) ?_
    refine gb0 [1] [(14,vI ((i1+1:Nat):Int))] ?_
    have hS15:=((((hS.b 4).b 4).b 4).b 4).b 4
    obtain rfl:=si h
    exact ge_nil fun a hF=>hQ _ _ _ (Outs.again ⟨hS15,hF.weaken ea⟩)
   rw [if_neg hc3] at h
   refine gk 28 (e2.Op==x1) false (beq_eq_false_iff_ne.2 hc3)<|gb0 [11,12,13,14,15,16,17,18,19,20,21] [(39,.bool false),(38,undef),(37,undef),(36,undef),(35,undef),(34,undef),(33,undef),(32,undef),(31,undef),(30,undef),(29,undef)]<|gn hK8<|wf<|we_skip fun a hF=>hK6 _ _ ?_ a hF
   refine wr [(0,0),(1,0)]<|ge_addn (d:=40) (ty:=3) (x:=(.tmp 14)) (y:=(.const (vI 1))) (t:=3) (t2:=3) (k:=.i64) (m:=i1) (by kernel_rfl) (by kernel_rfl) (by kernel_rfl) (by have h0:=hS.ofSmall 1 rfl; omega) ?_
   refine gb0 [1] [(14,vI ((i1+1:Nat):Int))] ?_
   have hS20:=((((hS.b 4).b 4).b 4).b 4).b 4
   obtain rfl:=si h
   exact ge_nil fun a hF=>hQ _ _ _ (Outs.again ⟨hS20,hF.weaken ea⟩)
  rw [if_neg hc2] at h
  cases h
 rw [if_neg hc1] at h
 refine wk 15 (decide ((i1:Int)<(lp0_1.length:Int))) false (decide_eq_false hc1)<|wf ?_
 have hS25:=((((hS.b 4).b 4).b 4).b 4).b 4
 obtain rfl:=si h
 exact we_exit fun a hF=>hQ _ _ _ (Outs.out nofun (Exits.here ⟨hS25,hF.weaken ea⟩))
theorem mach_looker_holds_ok (K bp0:Nat) (lp0_0:List SIns) (Ap0_0:OA) (cp0_0:Nat) (lp0_1:List Int) (Ap0_1:OA) (cp0_1:Nat) (lp0_2:List Int) (Ap0_2:OA) (cp0_2:Nat) (mp0_3:List (Int×Int)) (mbp0_3:Nat) (x1 x2:Int) (w0 wE:World) (LT:List Own) (hS:St w0 wE [bk bp0 #[.slice Ap0_0 lp0_0.length cp0_0,(.slice Ap0_1 lp0_1.length cp0_1),(.slice Ap0_2 lp0_2.length cp0_2),.map (some mbp0_3)] 109,ro Ap0_1 cp0_1 3 lp0_1,ro Ap0_2 cp0_2 3 lp0_2,Own.map (κ:=Int) (ν:=Int) mbp0_3 mp0_3,Own.all LT]) (hRp0_0:RdL w0 Ap0_0 lp0_0) (hLp0_0:lp0_0.length≤cp0_0) (r:Bool) (h:mach_looker_holds.f K lp0_0 lp0_1 lp0_2 mp0_3 x1 x2=some r) :
  Calls Tryd.prog 70 #[pP bp0 0,vI x1,vI x2] wE (mach_looker_holds.Post w0 bp0 lp0_0 Ap0_0 cp0_0 lp0_1 Ap0_1 cp0_1 lp0_2 Ap0_2 cp0_2 mp0_3 mbp0_3 x1 x2 LT r):=by
 unfold mach_looker_holds.f at h
 refine calls_enter (n:=41) (args:=[pP bp0 0,vI x1,vI x2]) (fn:=Tryd.f70) rfl rfl rfl rfl ?_
 show WE _ _ _ _ [(0,pP bp0 0),(1,vI x1),(2,vI x2)] _
 refine ws fun K1 hK1=>wr [(0,0)]<|gb0 [0] [(6,.bool false)]<|gn hK1<|ws fun K2 hK2=>ws fun K3 hK3=>wr [(0,0),(1,0),(2,0),(3,0),(4,0),(5,0)]<|gb [0,1,2,3,4,5] [(14,vI 0),(13,vI (lp0_1.length:Int)),(12,(.slice Ap0_1 lp0_1.length cp0_1)),(11,pP bp0 1),(10,pP bp0 0),(9,pP bp0 0)] [ld bp0 1 ((.slice Ap0_1 lp0_1.length cp0_1))] ⟨hS.c 0,trivial⟩<|gn hK3<|we_block ?_
 have hS5:=((((hS.b 4).b 4).b 4).b 4).b 4
 rcases hq1:iter (mach_looker_holds.r0 lp0_0 lp0_1 x1 x2) K 0 with _ | (_ | rr1)
 ·rw [hq1] at h; cases h
 ·rw [hq1] at h
  simp only [] at h
  refine we_iter (A:=mach_looker_holds.A0 w0 bp0 lp0_0 Ap0_0 cp0_0 lp0_1 Ap0_1 cp0_1 lp0_2 Ap0_2 cp0_2 mp0_3 mbp0_3 x1 x2 LT) (B:=mach_looker_holds.B0 w0 bp0 lp0_0 Ap0_0 cp0_0 lp0_1 Ap0_1 cp0_1 lp0_2 Ap0_2 cp0_2 mp0_3 mbp0_3 x1 x2 LT) hq1 (fun a hF=>⟨hS5,hF.weaken ea⟩) (fun s o hf a w hA Q hQ=>mach_looker_holds_r0 K w0 bp0 lp0_0 Ap0_0 cp0_0 lp0_1 Ap0_1 cp0_1 lp0_2 Ap0_2 cp0_2 mp0_3 mbp0_3 x1 x2 LT hRp0_0 hLp0_0 s o hf a w hA Q hQ) ?_
  rintro _ a w1 _ ⟨rfl,hS26,hF⟩
  replace hS26:St w0 w1 [bk bp0 #[.slice Ap0_0 lp0_0.length cp0_0,(.slice Ap0_1 lp0_1.length cp0_1),(.slice Ap0_2 lp0_2.length cp0_2),.map (some mbp0_3)] 109,ro Ap0_1 cp0_1 3 lp0_1,ro Ap0_2 cp0_2 3 lp0_2,Own.map (κ:=Int) (ν:=Int) mbp0_3 mp0_3,Own.all LT]:=hS26
  refine hK2 [(0,pP bp0 0)] w1 ?_ a hF
  refine ws fun K10 hK10=>wr [(0,0)]<|gb0 [0] [(6,.bool false)]<|gn hK10 ?_
  have hS31:=((((hS26.b 4).b 4).b 4).b 4).b 4
  obtain rfl:=si h
  exact we_ret (pr0 [.tmp 6] [.bool false] ⟨rfl,hS31⟩)
 rw [hq1] at h
 simp only [] at h
 refine we_iter (A:=mach_looker_holds.A0 w0 bp0 lp0_0 Ap0_0 cp0_0 lp0_1 Ap0_1 cp0_1 lp0_2 Ap0_2 cp0_2 mp0_3 mbp0_3 x1 x2 LT) (B:=mach_looker_holds.B0 w0 bp0 lp0_0 Ap0_0 cp0_0 lp0_1 Ap0_1 cp0_1 lp0_2 Ap0_2 cp0_2 mp0_3 mbp0_3 x1 x2 LT) hq1 (fun a hF=>⟨hS5,hF.weaken ea⟩) (fun s o hf a w hA Q hQ=>mach_looker_holds_r0 K w0 bp0 lp0_0 Ap0_0 cp0_0 lp0_1 Ap0_1 cp0_1 lp0_2 Ap0_2 cp0_2 mp0_3 mbp0_3 x1 x2 LT hRp0_0 hLp0_0 s o hf a w hA Q hQ) ?_
 rintro _ a w1 _ ⟨rfl,hb⟩
 obtain rfl:=si h
 exact hb

/-! (*punctual/mach.looker).close -/
abbrev mach_looker_close.Post (w0:World) (bp0:Nat) (lp0_0:List SIns) (Ap0_0:OA) (cp0_0:Nat) (lp0_1:List Int) (Ap0_1:OA) (cp0_1:Nat) (lp0_2:List Int) (Ap0_2:OA) (cp0_2:Nat) (mp0_3:List (Int×Int)) (mbp0_3:Nat) (x1:Int) (LT:List Own) (r:(List Int)×(List (Int×Int))) (e:Ending) (w:World):Prop:=∃ (nbp0_1:Value),e=.returned (.tuple #[])∧St w0 w [bk bp0 #[.slice Ap0_0 lp0_0.length cp0_0,nbp0_1,(.slice Ap0_2 lp0_2.length cp0_2),.map (some mbp0_3)] 109,Own.of nbp0_1 3 r.1,ro Ap0_2 cp0_2 3 lp0_2,Own.map (κ:=Int) (ν:=Int) mbp0_3 r.2,Own.all LT]
def mach_looker_close.p0 (lp0_0 : List SIns) (lp0_1 : List Int) (lp0_2 : List Int) (mp0_3 : List (Int × Int)) (x1 : Int) : Option ((List (Int × Int)) ⊕ ((List Int) × (List (Int × Int)))) :=
  match mach_looker_top.f lp0_0 lp0_1 lp0_2 mp0_3 with
  | none=>none
  | some r1 =>
   some (.inl (mset mp0_3 r1 x1))
def mach_looker_close.f (lp0_0 : List SIns) (lp0_1 : List Int) (lp0_2 : List Int) (mp0_3 : List (Int × Int)) (x1 : Int) : Option ((List Int) × (List (Int × Int))) :=
 match mach_looker_close.p0 lp0_0 lp0_1 lp0_2 mp0_3 x1 with
 | none=>none
 | some (.inl mp2) =>
  if 0≤(IntKind.i64.wrap ((lp0_1.length:Int)-1)) then
   if ((IntKind.i64.wrap ((lp0_1.length:Int)-1)).toNat)≤lp0_1.length then
    some ((lp0_1.take ((IntKind.i64.wrap ((lp0_1.length:Int)-1)).toNat)),mp2)
   else
    none
  else
   none
 | some (.inr rr1) =>
  some rr1
abbrev mach_looker_close.A0 (w0:World) (bp0:Nat) (lp0_0:List SIns) (Ap0_0:OA) (cp0_0:Nat) (lp0_1:List Int) (Ap0_1:OA) (cp0_1:Nat) (lp0_2:List Int) (Ap0_2:OA) (cp0_2 mbp0_3:Nat) (LT:List Own):(List (Int×Int))→Act→World→Prop:=fun (s:(List (Int×Int))) a w=>St w0 w [bk bp0 #[.slice Ap0_0 lp0_0.length cp0_0,(.slice Ap0_1 lp0_1.length cp0_1),(.slice Ap0_2 lp0_2.length cp0_2),.map (some mbp0_3)] 109,ro Ap0_1 cp0_1 3 lp0_1,ro Ap0_2 cp0_2 3 lp0_2,Own.map (κ:=Int) (ν:=Int) mbp0_3 s,Own.all LT]∧Frm 26 a [(0,pP bp0 0)]
abbrev mach_looker_close.B0 (w0:World) (bp0:Nat) (lp0_0:List SIns) (Ap0_0:OA) (cp0_0:Nat) (lp0_1:List Int) (Ap0_1:OA) (cp0_1:Nat) (lp0_2:List Int) (Ap0_2:OA) (cp0_2:Nat) (mp0_3:List (Int×Int)) (mbp0_3:Nat) (x1:Int) (LT:List Own):((List Int)×(List (Int×Int)))→Exit→Act→World→Prop:=Rets Tryd.prog Tryd.f71 (mach_looker_close.Post w0 bp0 lp0_0 Ap0_0 cp0_0 lp0_1 Ap0_1 cp0_1 lp0_2 Ap0_2 cp0_2 mp0_3 mbp0_3 x1 LT)
theorem mach_looker_close_p0 (K:Nat) (w0:World) (bp0:Nat) (lp0_0:List SIns) (Ap0_0:OA) (cp0_0:Nat) (lp0_1:List Int) (Ap0_1:OA) (cp0_1:Nat) (lp0_2:List Int) (Ap0_2:OA) (cp0_2:Nat) (mp0_3:List (Int×Int)) (mbp0_3:Nat) (x1:Int) (LT:List Own) (hRp0_0:RdL w0 Ap0_0 lp0_0) (hLp0_0:lp0_0.length≤cp0_0) (o:(List (Int×Int)) ⊕ ((List Int)×(List (Int×Int)))) (h:mach_looker_close.p0 lp0_0 lp0_1 lp0_2 mp0_3 x1=some o) (w:World) (hS:St w0 w [bk bp0 #[.slice Ap0_0 lp0_0.length cp0_0,(.slice Ap0_1 lp0_1.length cp0_1),(.slice Ap0_2 lp0_2.length cp0_2),.map (some mbp0_3)] 109,ro Ap0_1 cp0_1 3 lp0_1,ro Ap0_2 cp0_2 3 lp0_2,Own.map (κ:=Int) (ν:=Int) mbp0_3 mp0_3,Own.all LT]) (Q:Exit→Act→World→Prop) (hQ:∀ x a w,Outs (mach_looker_close.A0 w0 bp0 lp0_0 Ap0_0 cp0_0 lp0_1 Ap0_1 cp0_1 lp0_2 Ap0_2 cp0_2 mbp0_3 LT) (mach_looker_close.B0 w0 bp0 lp0_0 Ap0_0 cp0_0 lp0_1 Ap0_1 cp0_1 lp0_2 Ap0_2 cp0_2 mp0_3 mbp0_3 x1 LT) o x a w→Q x a w):WE Tryd.prog 26 (subF Tryd.f71 [0]) Q [(0,pP bp0 0),(1,vI x1)] w:=by
 simp only [mach_looker_close.p0] at h
 refine we_orders3 (by kernel_rfl) [(4,[⟨bp0,3,none⟩],[],[])] (.vals [0] (.vals [1] (.vals [2] (.vals [3] (.vals [4] (.vals [5] (.vals [7] (.alt 6 2 (.alt 8 2 .fin .nomore) .nomore)))))))) (by kernel_rfl) (by kernel_rfl) ?_
 have hS1:=hS.drew
 refine g30 [0,1,2,3] [(7,pP bp0 3),(6,pP bp0 2),(5,pP bp0 0),(4,pP bp0 0)]<|g3 4 [(8,.map (some mbp0_3))] [ld bp0 3 (.map (some mbp0_3))] ⟨hS1.c 0,trivial⟩<|g30 [5,7] [(11,vI x1),(9,pP bp0 0)]<|go_alt3 (fun KK hKK=>?_) ?_
 ·rcases hq1:mach_looker_top.f lp0_0 lp0_1 lp0_2 mp0_3 with _ | r1
  ·rw [hq1] at h; cases h
  rw [hq1] at h
  simp only [] at h
  have hS7:=((((hS1.b 3).b 3).b 3).b 3).packN 4
  refine ge_call2 (m:=0) (d:=some 10) (f:=69) (args:=#[pP bp0 0]) (by kernel_rfl) (mach_looker_top_ok bp0 lp0_0 Ap0_0 cp0_0 lp0_1 Ap0_1 cp0_1 lp0_2 Ap0_2 cp0_2 mp0_3 mbp0_3 _ _ _ hS7 hRp0_0 hLp0_0 _ hq1) ?_
  rintro _ w1 ⟨rfl,hS6⟩
  refine ⟨_,rfl,?_⟩
  have hS8:=hS6.unpack [bk bp0 #[.slice Ap0_0 lp0_0.length cp0_0,(.slice Ap0_1 lp0_1.length cp0_1),(.slice Ap0_2 lp0_2.length cp0_2),.map (some mbp0_3)] 109,ro Ap0_1 cp0_1 3 lp0_1,ro Ap0_2 cp0_2 3 lp0_2,Own.map (κ:=Int) (ν:=Int) mbp0_3 mp0_3]
  refine ge_nil fun a hF=>hKK _ _ (RS.of2 (l:=[ld bp0 3 (.map (some mbp0_3))]) (by kernel_rfl) ⟨hS1.c 0,trivial⟩ ⟨hS8.c 0,trivial⟩) ?_ a hF
  refine go_alt3 (fun KK hKK=>?_) ?_
  ·have hS9:=hS8.b 3
   refine ge_mapSet (κ:=Int) (ν:=Int) (b:=mbp0_3) (ins:=false) (mm:=0) (t:=62) (kt:=3) (et:=3) (x:=(.tmp 8)) (y:=(.tmp 10)) (u:=(.tmp 11)) (ty:=0) (m:=mp0_3) (k:=r1) (v:=x1) (vv:=vI x1) (by kernel_rfl) (by kernel_rfl) (by kernel_rfl) (by kernel_rfl) rfl (by kernel_rfl) (by kernel_rfl) hS9 fun w2 hS10=>?_
   refine g2 hKK ?_
   have hS15:=((((hS10.b 4).b 1).b 4).b 4).b 4
   obtain rfl:=si h
   exact go_fin3 fun a hF=>hQ _ _ _ (Outs.again ⟨hS15,hF.weaken ea⟩)
  exact go_nomore3
 exact go_nomore3
theorem mach_looker_close_ok (bp0:Nat) (lp0_0:List SIns) (Ap0_0:OA) (cp0_0:Nat) (lp0_1:List Int) (Ap0_1:OA) (cp0_1:Nat) (lp0_2:List Int) (Ap0_2:OA) (cp0_2:Nat) (mp0_3:List (Int×Int)) (mbp0_3:Nat) (x1:Int) (w0 wE:World) (LT:List Own) (hS:St w0 wE [bk bp0 #[.slice Ap0_0 lp0_0.length cp0_0,(.slice Ap0_1 lp0_1.length cp0_1),(.slice Ap0_2 lp0_2.length cp0_2),.map (some mbp0_3)] 109,ro Ap0_1 cp0_1 3 lp0_1,ro Ap0_2 cp0_2 3 lp0_2,Own.map (κ:=Int) (ν:=Int) mbp0_3 mp0_3,Own.all LT]) (hRp0_0:RdL w0 Ap0_0 lp0_0) (hLp0_0:lp0_0.length≤cp0_0) (r:(List Int)×(List (Int×Int))) (h:mach_looker_close.f lp0_0 lp0_1 lp0_2 mp0_3 x1=some r) :
  Calls Tryd.prog 71 #[pP bp0 0,vI x1] wE (mach_looker_close.Post w0 bp0 lp0_0 Ap0_0 cp0_0 lp0_1 Ap0_1 cp0_1 lp0_2 Ap0_2 cp0_2 mp0_3 mbp0_3 x1 LT r):=by
 unfold mach_looker_close.f at h
 refine calls_enter (n:=26) (args:=[pP bp0 0,vI x1]) (fn:=Tryd.f71) rfl rfl rfl rfl ?_
 show WE _ _ _ _ [(0,pP bp0 0),(1,vI x1)] _
 refine ws fun K1 hK1=>?_
 rcases hq2:mach_looker_close.p0 lp0_0 lp0_1 lp0_2 mp0_3 x1 with _ | (mp2 | rr1)
 ·rw [hq2] at h; cases h
 ·rw [hq2] at h
  simp only [] at h
  refine kp (mach_looker_close_p0 0 w0 bp0 lp0_0 Ap0_0 cp0_0 lp0_1 Ap0_1 cp0_1 lp0_2 Ap0_2 cp0_2 mp0_3 mbp0_3 x1 LT hRp0_0 hLp0_0 _ hq2 _ hS _ ?_)
  rintro _ a w3 ⟨rfl,hS16,hF⟩
  replace hS16:St w0 w3 [bk bp0 #[.slice Ap0_0 lp0_0.length cp0_0,(.slice Ap0_1 lp0_1.length cp0_1),(.slice Ap0_2 lp0_2.length cp0_2),.map (some mbp0_3)] 109,ro Ap0_1 cp0_1 3 lp0_1,ro Ap0_2 cp0_2 3 lp0_2,Own.map (κ:=Int) (ν:=Int) mbp0_3 mp2,Own.all LT]:=hS16
  refine hK1 [(0,pP bp0 0)] w3 ?_ a hF
  refine we_orders3 (by kernel_rfl) [(4,[⟨bp0,1,none⟩],[],[]),(8,[⟨bp0,1,none⟩],[],[])] (.vals [0] (.vals [1] (.vals [2] (.vals [3] (.vals [4] (.vals [5] (.vals [6] (.vals [7] (.vals [8] (.vals [9] (.vals [10] (.vals [11] (.vals [12] (.vals [13] (.alt 14 2 .fin .nomore))))))))))))))) (by kernel_rfl) (by kernel_rfl) ?_
  have hS17:=hS16.drew
  refine g30 [0,1,2,3] [(15,pP bp0 1),(14,pP bp0 0),(13,pP bp0 0),(12,pP bp0 0)]<|g3 4 [(16,(.slice Ap0_1 lp0_1.length cp0_1))] [ld bp0 1 ((.slice Ap0_1 lp0_1.length cp0_1))] ⟨hS17.c 0,trivial⟩<|g30 [5,6,7] [(19,pP bp0 1),(18,pP bp0 0),(17,pP bp0 0)]<|g3 8 [(20,(.slice Ap0_1 lp0_1.length cp0_1))] [ld bp0 1 ((.slice Ap0_1 lp0_1.length cp0_1))] ⟨hS17.c 0,trivial⟩<|g30 [9,10] [(22,vI (IntKind.i64.wrap ((lp0_1.length:Int)-1))),(21,vI (lp0_1.length:Int))] ?_
  by_cases hc1:0≤(IntKind.i64.wrap ((lp0_1.length:Int)-1))
  ·rw [if_pos hc1] at h
   by_cases hc2:((IntKind.i64.wrap ((lp0_1.length:Int)-1)).toNat)≤lp0_1.length
   ·rw [if_pos hc2] at h
    refine go3_sliceHi (d:=23) (ty:=37) (t:=37) (el:=3) (sz:=1) (m:=lp0_1.length) (c:=cp0_1) (hn:=((IntKind.i64.wrap ((lp0_1.length:Int)-1)).toNat)) (x:=(.tmp 16)) (y:=(.tmp 22)) (A:=Ap0_1) (k':=.i64) (hi:=(IntKind.i64.wrap ((lp0_1.length:Int)-1))) (by kernel_rfl) (by kernel_rfl) (by kernel_rfl) (Int.toNat_of_nonneg hc1).symm (by kernel_rfl) (by kernel_rfl) (by have f0:=hc2; have f1:=(hS17.capAt 1 rfl); omega) ?_
    refine go3_same (t:=23) (v:=.slice Ap0_1 ((IntKind.i64.wrap ((lp0_1.length:Int)-1)).toNat) cp0_1) (v':=.slice Ap0_1 ((lp0_1.take ((IntKind.i64.wrap ((lp0_1.length:Int)-1)).toNat)).length) cp0_1) (by kernel_rfl) (congrArg (fun z=>Value.slice Ap0_1 z cp0_1) (show (IntKind.i64.wrap ((lp0_1.length:Int)-1)).toNat=(lp0_1.take ((IntKind.i64.wrap ((lp0_1.length:Int)-1)).toNat)).length by have f0:=hc2; have f1:=(hS17.capAt 1 rfl); simp only [List.length_take]; omega)) ?_
    refine g30 [12,13] [(25,pP bp0 1),(24,pP bp0 0)]<|go_alt3 (fun KK hKK=>?_) ?_
    ·refine gs bp0 1 #[.slice Ap0_0 lp0_0.length cp0_0,(.slice Ap0_1 lp0_1.length cp0_1),(.slice Ap0_2 lp0_2.length cp0_2),.map (some mbp0_3)] 109 [.slice Ap0_1 ((lp0_1.take ((IntKind.i64.wrap ((lp0_1.length:Int)-1)).toNat)).length) cp0_1] hS17 fun w4 hS18=>?_
     have hS19:=hS18.nc #[.slice Ap0_0 lp0_0.length cp0_0,.slice Ap0_1 ((lp0_1.take ((IntKind.i64.wrap ((lp0_1.length:Int)-1)).toNat)).length) cp0_1,(.slice Ap0_2 lp0_2.length cp0_2),.map (some mbp0_3)] rfl
     refine g2 hKK ?_
     have hS26:=((((((hS19.b 1).shrink ((IntKind.i64.wrap ((lp0_1.length:Int)-1)).toNat)).b 4).b 4).b 4).b 3).b 4
     obtain rfl:=si h
     exact go_fin3 (pe0 [] [] ⟨(.slice Ap0_1 (lp0_1.take ((IntKind.i64.wrap ((lp0_1.length:Int)-1)).toNat)).length cp0_1),rfl,hS26⟩)
    exact go_nomore3
   rw [if_neg hc2] at h
   cases h
  rw [if_neg hc1] at h
  cases h
 rw [hq2] at h
 simp only [] at h
 refine kp (mach_looker_close_p0 0 w0 bp0 lp0_0 Ap0_0 cp0_0 lp0_1 Ap0_1 cp0_1 lp0_2 Ap0_2 cp0_2 mp0_3 mbp0_3 x1 LT hRp0_0 hLp0_0 _ hq2 _ hS _ ?_)
 rintro _ a w1 ⟨_,rfl,hb⟩
 obtain rfl:=si h
 exact hb

/-! (*punctual/mach.looker).region -/
abbrev mach_looker_region.Post (w0:World) (bp0:Nat) (lp0_0:List SIns) (Ap0_0:OA) (cp0_0:Nat) (lp0_1:List Int) (Ap0_1:OA) (cp0_1:Nat) (lp0_2:List Int) (Ap0_2:OA) (cp0_2:Nat) (mp0_3:List (Int×Int)) (mbp0_3:Nat) (x1:Int) (LT:List Own) (r:Int×(List Int)×(List Int)×(List (Int×Int))) (e:Ending) (w:World):Prop:=∃ (nbp0_1:Value) (nbp0_2:Value),e=.returned (vI r.1)∧St w0 w [bk bp0 #[.slice Ap0_0 lp0_0.length cp0_0,nbp0_1,nbp0_2,.map (some mbp0_3)] 109,Own.of nbp0_1 3 r.2.1,Own.of nbp0_2 3 r.2.2.1,Own.map (κ:=Int) (ν:=Int) mbp0_3 r.2.2.2,Own.all LT]
def mach_looker_region.p0 (lp0_0 : List SIns) (lp0_1 : List Int) (lp0_2 : List Int) (mp0_3 : List (Int × Int)) (x1 : Int) : Option ((Int × Int × Int × Int) ⊕ (Int × (List Int) × (List Int) × (List (Int × Int)))) :=
  if 0≤x1 then
   match lp0_0[(x1).toNat]? with
   | none=>none
   | some e1 =>
    match mach_looker_top.f lp0_0 lp0_1 lp0_2 mp0_3 with
    | none=>none
    | some r1 =>
     some (.inl (r1,e1.Op,e1.A,e1.B))
  else
   none
def mach_looker_region.p1 (z6 : Int) : Option (Bool ⊕ (Int × (List Int) × (List Int) × (List (Int × Int)))) :=
  if z6=13 then
   some (.inl true)
  else
   some (.inl (z6==16))
def mach_looker_region.f (K : Nat) (lp0_0 : List SIns) (lp0_1 : List Int) (lp0_2 : List Int) (mp0_3 : List (Int × Int)) (x1 : Int) : Option (Int × (List Int) × (List Int) × (List (Int × Int))) :=
 match mach_looker_region.p0 lp0_0 lp0_1 lp0_2 mp0_3 x1 with
 | none=>none
 | some (.inl (z5,z6,z7,z8)) =>
  if 0≤x1 then
   match lp0_2[(x1).toNat]? with
   | none=>none
   | some e2 =>
    match mach_looker_region.p1 z6 with
    | none=>none
    | some (.inl q2) =>
     if q2=true then
      match mach_looker_holds.f K lp0_0 lp0_1 (lp0_2.set ((x1).toNat) z5) mp0_3 z6 z7 with
      | none=>none
      | some r2 =>
       if r2=true then
        if z6=13 then
         some (9,lp0_1,(lp0_2.set ((x1).toNat) z5),mp0_3)
        else
         some (10,lp0_1,(lp0_2.set ((x1).toNat) z5),mp0_3)
       else
        if lp0_1.length<17592186044416 then
         some (0,(lp0_1++[x1]),(lp0_2.set ((x1).toNat) z5),mp0_3)
        else
         none
     else
      if z6=14 then
       if z5<0 then
        some (9,lp0_1,(lp0_2.set ((x1).toNat) z5),mp0_3)
       else
        if 0≤z5 then
         match lp0_0[(z5).toNat]? with
         | none=>none
         | some e3 =>
          if e3.Op=13 then
           if e3.A=z7 then
            if z8=(IntKind.i64.wrap (z5+1)) then
             match mach_looker_close.f lp0_0 lp0_1 (lp0_2.set ((x1).toNat) z5) mp0_3 x1 with
             | none=>none
             | some r3 =>
              some (0,r3.1,(lp0_2.set ((x1).toNat) z5),r3.2)
            else
             some (9,lp0_1,(lp0_2.set ((x1).toNat) z5),mp0_3)
           else
            some (9,lp0_1,(lp0_2.set ((x1).toNat) z5),mp0_3)
          else
           some (9,lp0_1,(lp0_2.set ((x1).toNat) z5),mp0_3)
        else
         none
      else
       if z6=17 then
        if z5<0 then
         some (10,lp0_1,(lp0_2.set ((x1).toNat) z5),mp0_3)
        else
         if 0≤z5 then
          match lp0_0[(z5).toNat]? with
          | none=>none
          | some e4 =>
           if e4.Op=16 then
            if e4.A=z7 then
             match mach_looker_close.f lp0_0 lp0_1 (lp0_2.set ((x1).toNat) z5) mp0_3 x1 with
             | none=>none
             | some r4 =>
              some (0,r4.1,(lp0_2.set ((x1).toNat) z5),r4.2)
            else
             some (10,lp0_1,(lp0_2.set ((x1).toNat) z5),mp0_3)
           else
            some (10,lp0_1,(lp0_2.set ((x1).toNat) z5),mp0_3)
         else
          none
       else
        if z6=15 then
         match mach_looker_holds.f K lp0_0 lp0_1 (lp0_2.set ((x1).toNat) z5) mp0_3 13 z7 with
         | none=>none
         | some r5 =>
          if r5=true then
           some (0,lp0_1,(lp0_2.set ((x1).toNat) z5),mp0_3)
          else
           some (9,lp0_1,(lp0_2.set ((x1).toNat) z5),mp0_3)
        else
         some (0,lp0_1,(lp0_2.set ((x1).toNat) z5),mp0_3)
    | some (.inr rr1) =>
     some rr1
  else
   none
 | some (.inr rr2) =>
  some rr2
abbrev mach_looker_region.A0 (w0:World) (bp0:Nat) (lp0_0:List SIns) (Ap0_0:OA) (cp0_0:Nat) (lp0_1:List Int) (Ap0_1:OA) (cp0_1:Nat) (lp0_2:List Int) (Ap0_2:OA) (cp0_2:Nat) (mp0_3:List (Int×Int)) (mbp0_3:Nat) (x1:Int) (LT:List Own):(Int×Int×Int×Int)→Act→World→Prop:=fun (s:Int×Int×Int×Int) a w=>∃ (b1:Nat),St w0 w [bk b1 #[vI s.2.1,vI s.2.2.1,vI s.2.2.2] 29,bk bp0 #[.slice Ap0_0 lp0_0.length cp0_0,(.slice Ap0_1 lp0_1.length cp0_1),(.slice Ap0_2 lp0_2.length cp0_2),.map (some mbp0_3)] 109,ro Ap0_1 cp0_1 3 lp0_1,ro Ap0_2 cp0_2 3 lp0_2,Own.map (κ:=Int) (ν:=Int) mbp0_3 mp0_3,Own.all LT]∧Frm 124 a [(0,pP bp0 0),(1,vI x1),(5,pP b1 0),(6,vI s.1)]
abbrev mach_looker_region.B0 (w0:World) (bp0:Nat) (lp0_0:List SIns) (Ap0_0:OA) (cp0_0:Nat) (lp0_1:List Int) (Ap0_1:OA) (cp0_1:Nat) (lp0_2:List Int) (Ap0_2:OA) (cp0_2:Nat) (mp0_3:List (Int×Int)) (mbp0_3:Nat) (x1:Int) (LT:List Own):(Int×(List Int)×(List Int)×(List (Int×Int)))→Exit→Act→World→Prop:=Rets Tryd.prog Tryd.f53 (mach_looker_region.Post w0 bp0 lp0_0 Ap0_0 cp0_0 lp0_1 Ap0_1 cp0_1 lp0_2 Ap0_2 cp0_2 mp0_3 mbp0_3 x1 LT)
theorem mach_looker_region_p0 (K:Nat) (w0:World) (bp0:Nat) (lp0_0:List SIns) (Ap0_0:OA) (cp0_0:Nat) (lp0_1:List Int) (Ap0_1:OA) (cp0_1:Nat) (lp0_2:List Int) (Ap0_2:OA) (cp0_2:Nat) (mp0_3:List (Int×Int)) (mbp0_3:Nat) (x1:Int) (LT:List Own) (hRp0_0:RdL w0 Ap0_0 lp0_0) (hLp0_0:lp0_0.length≤cp0_0) (o:(Int×Int×Int×Int) ⊕ (Int×(List Int)×(List Int)×(List (Int×Int)))) (h:mach_looker_region.p0 lp0_0 lp0_1 lp0_2 mp0_3 x1=some o) (w:World) (hS:St w0 w [bk bp0 #[.slice Ap0_0 lp0_0.length cp0_0,(.slice Ap0_1 lp0_1.length cp0_1),(.slice Ap0_2 lp0_2.length cp0_2),.map (some mbp0_3)] 109,ro Ap0_1 cp0_1 3 lp0_1,ro Ap0_2 cp0_2 3 lp0_2,Own.map (κ:=Int) (ν:=Int) mbp0_3 mp0_3,Own.all LT]) (Q:Exit→Act→World→Prop) (hQ:∀ x a w,Outs (mach_looker_region.A0 w0 bp0 lp0_0 Ap0_0 cp0_0 lp0_1 Ap0_1 cp0_1 lp0_2 Ap0_2 cp0_2 mp0_3 mbp0_3 x1 LT) (mach_looker_region.B0 w0 bp0 lp0_0 Ap0_0 cp0_0 lp0_1 Ap0_1 cp0_1 lp0_2 Ap0_2 cp0_2 mp0_3 mbp0_3 x1 LT) o x a w→Q x a w):WE Tryd.prog 124 (subF Tryd.f53 [1,0]) Q [(0,pP bp0 0),(1,vI x1),(4,vI 0)] w:=by
 simp only [mach_looker_region.p0] at h
 refine we_orders3 (by kernel_rfl) [(3,[⟨bp0,0,none⟩],[],[]),(6,[⟨blkOf Ap0_0,offOf Ap0_0+((x1).toNat)*3,none⟩,⟨blkOf Ap0_0,offOf Ap0_0+((x1).toNat)*3+1,none⟩,⟨blkOf Ap0_0,offOf Ap0_0+((x1).toNat)*3+2,none⟩],[],[])] (.vals [0] (.vals [1] (.vals [2] (.vals [3] (.vals [4] (.vals [5] (.vals [6] (.vals [7] (.alt 8 2 (.alt 9 1 (.alt 10 2 (.vals [11] .fin) .nomore) .nomore) (.alt 9 1 (.alt 8 2 (.alt 10 2 (.vals [11] .fin) .nomore) .nomore) .nomore)))))))))) (by kernel_rfl) (by kernel_rfl) ?_
 have hS1:=hS.drew
 refine g30 [0,1,2] [(9,pP bp0 0),(8,pP bp0 0),(7,pP bp0 0)]<|g3 3 [(10,.slice Ap0_0 lp0_0.length cp0_0)] [ld bp0 0 (.slice Ap0_0 lp0_0.length cp0_0)] ⟨hS1.c 0,trivial⟩<|g30 [4] [(11,vI x1)] ?_
 by_cases hc1:0≤x1
 ·rw [if_pos hc1] at h
  rcases hx1:lp0_0[(x1).toNat]? with _ | e1
  ·rw [hx1] at h; cases h
  rw [hx1] at h
  simp only [] at h
  refine go3_index (d:=12) (ty:=0) (t:=22) (el:=29) (sz:=3) (m:=lp0_0.length) (c:=cp0_0) (x:=(.tmp 10)) (y:=(.tmp 11)) (A:=Ap0_0) (k':=.i64) (j:=x1) (jn:=((x1).toNat)) (b0:=blkOf Ap0_0) (o0:=offOf Ap0_0) (by kernel_rfl) (by kernel_rfl) (by kernel_rfl) (by kernel_rfl) (by kernel_rfl) ((hS1.rd hRp0_0).eqSome (pos_of_get hx1)) (Int.toNat_of_nonneg hc1).symm (lt_of_get hx1) ?_
  refine g3 6 [(13,.agg #[vI e1.Op,vI e1.A,vI e1.B])] [.loaded ⟨blkOf Ap0_0,offOf Ap0_0+((x1).toNat)*3,none⟩ (vI e1.Op),.loaded ⟨blkOf Ap0_0,offOf Ap0_0+((x1).toNat)*3+1,none⟩ (vI e1.A),.loaded ⟨blkOf Ap0_0,offOf Ap0_0+((x1).toNat)*3+2,none⟩ (vI e1.B)] ⟨RdL.cell (j:=0) (hS1.rd hRp0_0) hx1 rfl,RdL.cell (j:=1) (hS1.rd hRp0_0) hx1 rfl,RdL.cell (j:=2) (hS1.rd hRp0_0) hx1 rfl,trivial⟩<|g30 [7] [(14,pP bp0 0)]<|go_alt3 (fun KK hKK=>?_) ?_
  ·rcases hq1:mach_looker_top.f lp0_0 lp0_1 lp0_2 mp0_3 with _ | r1
   ·rw [hq1] at h; cases h
   rw [hq1] at h
   simp only [] at h
   have hS7:=((((hS1.b 3).b 3).b 3).b 3).packN 4
   refine ge_call2 (m:=0) (d:=some 15) (f:=69) (args:=#[pP bp0 0]) (by kernel_rfl) (mach_looker_top_ok bp0 lp0_0 Ap0_0 cp0_0 lp0_1 Ap0_1 cp0_1 lp0_2 Ap0_2 cp0_2 mp0_3 mbp0_3 _ _ _ hS7 hRp0_0 hLp0_0 _ hq1) ?_
   rintro _ w1 ⟨rfl,hS6⟩
   refine ⟨_,rfl,?_⟩
   have hS8:=hS6.unpack [bk bp0 #[.slice Ap0_0 lp0_0.length cp0_0,(.slice Ap0_1 lp0_1.length cp0_1),(.slice Ap0_2 lp0_2.length cp0_2),.map (some mbp0_3)] 109,ro Ap0_1 cp0_1 3 lp0_1,ro Ap0_2 cp0_2 3 lp0_2,Own.map (κ:=Int) (ν:=Int) mbp0_3 mp0_3]
   refine ge_nil fun a hF=>hKK _ _ (RS.of2 (l:=[ld bp0 0 (.slice Ap0_0 lp0_0.length cp0_0),.loaded ⟨blkOf Ap0_0,offOf Ap0_0+((x1).toNat)*3,none⟩ (vI e1.Op),.loaded ⟨blkOf Ap0_0,offOf Ap0_0+((x1).toNat)*3+1,none⟩ (vI e1.A),.loaded ⟨blkOf Ap0_0,offOf Ap0_0+((x1).toNat)*3+2,none⟩ (vI e1.B)]) (by kernel_rfl) ⟨hS1.c 0,RdL.cell (j:=0) (hS1.rd hRp0_0) hx1 rfl,RdL.cell (j:=1) (hS1.rd hRp0_0) hx1 rfl,RdL.cell (j:=2) (hS1.rd hRp0_0) hx1 rfl,trivial⟩ ⟨hS8.c 0,RdL.cell (j:=0) (hS8.rd hRp0_0) hx1 rfl,RdL.cell (j:=1) (hS8.rd hRp0_0) hx1 rfl,RdL.cell (j:=2) (hS8.rd hRp0_0) hx1 rfl,trivial⟩) ?_ a hF
   refine go_alt3 (fun KK hKK=>?_) ?_
   ·refine ge_one2<|gw (some 5) (.cells #[vI 0,vI 0,vI 0] 29) (fun b=>pP b 0) hS8 fun b2 w2 hx2 hS9=>?_
    refine ge_nil fun a hF=>hKK _ _ (RS.of2 (l:=[ld bp0 0 (.slice Ap0_0 lp0_0.length cp0_0),.loaded ⟨blkOf Ap0_0,offOf Ap0_0+((x1).toNat)*3,none⟩ (vI e1.Op),.loaded ⟨blkOf Ap0_0,offOf Ap0_0+((x1).toNat)*3+1,none⟩ (vI e1.A),.loaded ⟨blkOf Ap0_0,offOf Ap0_0+((x1).toNat)*3+2,none⟩ (vI e1.B)]) (by kernel_rfl) ⟨hS8.c 0,RdL.cell (j:=0) (hS8.rd hRp0_0) hx1 rfl,RdL.cell (j:=1) (hS8.rd hRp0_0) hx1 rfl,RdL.cell (j:=2) (hS8.rd hRp0_0) hx1 rfl,trivial⟩ ⟨hS9.c 1,RdL.cell (j:=0) (hS9.rd hRp0_0) hx1 rfl,RdL.cell (j:=1) (hS9.rd hRp0_0) hx1 rfl,RdL.cell (j:=2) (hS9.rd hRp0_0) hx1 rfl,trivial⟩) ?_ a hF
    refine go_alt3 (fun KK hKK=>?_) ?_
    ·refine gs b2 0 #[vI 0,vI 0,vI 0] 29 [vI e1.Op,vI e1.A,vI e1.B] hS9 fun w3 hS10=>?_
     have hS11:=hS10.nc #[vI e1.Op,vI e1.A,vI e1.B] rfl
     refine g2 hKK<|g30 [11] [(6,vI r1)] ?_
     have hS17:=(((((hS11.b 5).b 5).b 5).b 5).b 5).b 5
     obtain rfl:=si h
     exact go_fin3 fun a hF=>hQ _ _ _ (Outs.again ⟨b2,hS17,hF.weaken ea⟩)
    exact go_nomore3
   exact go_nomore3
  refine go_alt3 (fun KK hKK=>?_) ?_
  ·refine ge_one2<|gw (some 5) (.cells #[vI 0,vI 0,vI 0] 29) (fun b=>pP b 0) hS1 fun b2 w1 hx2 hS2=>?_
   refine ge_nil fun a hF=>hKK _ _ (RS.of2 (l:=[ld bp0 0 (.slice Ap0_0 lp0_0.length cp0_0),.loaded ⟨blkOf Ap0_0,offOf Ap0_0+((x1).toNat)*3,none⟩ (vI e1.Op),.loaded ⟨blkOf Ap0_0,offOf Ap0_0+((x1).toNat)*3+1,none⟩ (vI e1.A),.loaded ⟨blkOf Ap0_0,offOf Ap0_0+((x1).toNat)*3+2,none⟩ (vI e1.B)]) (by kernel_rfl) ⟨hS1.c 0,RdL.cell (j:=0) (hS1.rd hRp0_0) hx1 rfl,RdL.cell (j:=1) (hS1.rd hRp0_0) hx1 rfl,RdL.cell (j:=2) (hS1.rd hRp0_0) hx1 rfl,trivial⟩ ⟨hS2.c 1,RdL.cell (j:=0) (hS2.rd hRp0_0) hx1 rfl,RdL.cell (j:=1) (hS2.rd hRp0_0) hx1 rfl,RdL.cell (j:=2) (hS2.rd hRp0_0) hx1 rfl,trivial⟩) ?_ a hF
   refine go_alt3 (fun KK hKK=>?_) ?_
   ·rcases hq1:mach_looker_top.f lp0_0 lp0_1 lp0_2 mp0_3 with _ | r1
    ·rw [hq1] at h; cases h
    rw [hq1] at h
    simp only [] at h
    have hS8:=((((hS2.b 4).b 4).b 4).b 4).packN 4
    refine ge_call2 (m:=0) (d:=some 15) (f:=69) (args:=#[pP bp0 0]) (by kernel_rfl) (mach_looker_top_ok bp0 lp0_0 Ap0_0 cp0_0 lp0_1 Ap0_1 cp0_1 lp0_2 Ap0_2 cp0_2 mp0_3 mbp0_3 _ _ _ hS8 hRp0_0 hLp0_0 _ hq1) ?_
    rintro _ w2 ⟨rfl,hS7⟩
    refine ⟨_,rfl,?_⟩
    have hS9:=hS7.unpack [bk bp0 #[.slice Ap0_0 lp0_0.length cp0_0,(.slice Ap0_1 lp0_1.length cp0_1),(.slice Ap0_2 lp0_2.length cp0_2),.map (some mbp0_3)] 109,ro Ap0_1 cp0_1 3 lp0_1,ro Ap0_2 cp0_2 3 lp0_2,Own.map (κ:=Int) (ν:=Int) mbp0_3 mp0_3]
    refine ge_nil fun a hF=>hKK _ _ (RS.of2 (l:=[ld bp0 0 (.slice Ap0_0 lp0_0.length cp0_0),.loaded ⟨blkOf Ap0_0,offOf Ap0_0+((x1).toNat)*3,none⟩ (vI e1.Op),.loaded ⟨blkOf Ap0_0,offOf Ap0_0+((x1).toNat)*3+1,none⟩ (vI e1.A),.loaded ⟨blkOf Ap0_0,offOf Ap0_0+((x1).toNat)*3+2,none⟩ (vI e1.B)]) (by kernel_rfl) ⟨hS2.c 1,RdL.cell (j:=0) (hS2.rd hRp0_0) hx1 rfl,RdL.cell (j:=1) (hS2.rd hRp0_0) hx1 rfl,RdL.cell (j:=2) (hS2.rd hRp0_0) hx1 rfl,trivial⟩ ⟨hS9.c 0,RdL.cell (j:=0) (hS9.rd hRp0_0) hx1 rfl,RdL.cell (j:=1) (hS9.rd hRp0_0) hx1 rfl,RdL.cell (j:=2) (hS9.rd hRp0_0) hx1 rfl,trivial⟩) ?_ a hF
    refine go_alt3 (fun KK hKK=>?_) ?_
    ·have hS10:=hS9.b 4
     refine gs b2 0 #[vI 0,vI 0,vI 0] 29 [vI e1.Op,vI e1.A,vI e1.B] hS10 fun w3 hS11=>?_
     have hS12:=hS11.nc #[vI e1.Op,vI e1.A,vI e1.B] rfl
     refine g2 hKK<|g30 [11] [(6,vI r1)] ?_
     have hS18:=(((((hS12.b 5).b 5).b 5).b 5).b 5).b 5
     obtain rfl:=si h
     exact go_fin3 fun a hF=>hQ _ _ _ (Outs.again ⟨b2,hS18,hF.weaken ea⟩)
    exact go_nomore3
   exact go_nomore3
  exact go_nomore3
 rw [if_neg hc1] at h
 cases h
abbrev mach_looker_region.A1 (w0:World) (bp0:Nat) (lp0_0:List SIns) (Ap0_0:OA) (cp0_0:Nat) (lp0_1:List Int) (Ap0_1:OA) (cp0_1:Nat) (lp0_2:List Int) (Ap0_2:OA) (cp0_2:Nat) (mp0_3:List (Int×Int)) (mbp0_3:Nat) (x1:Int) (LT:List Own) (b3:Nat) (z5 z6 z7 z8:Int):Bool→Act→World→Prop:=fun (s:Bool) a w=>St w0 w [bk b3 #[vI z6,vI z7,vI z8] 29,bk bp0 #[.slice Ap0_0 lp0_0.length cp0_0,(.slice Ap0_1 lp0_1.length cp0_1),(.slice Ap0_2 (lp0_2.set ((x1).toNat) z5).length cp0_2),.map (some mbp0_3)] 109,ro Ap0_1 cp0_1 3 lp0_1,ro Ap0_2 cp0_2 3 (lp0_2.set ((x1).toNat) z5),Own.map (κ:=Int) (ν:=Int) mbp0_3 mp0_3,Own.all LT]∧Frm 124 a [(0,pP bp0 0),(1,vI x1),(5,pP b3 0),(6,vI z5),(25,vI z6),(26,.bool s)]
abbrev mach_looker_region.B1 (w0:World) (bp0:Nat) (lp0_0:List SIns) (Ap0_0:OA) (cp0_0:Nat) (lp0_1:List Int) (Ap0_1:OA) (cp0_1:Nat) (lp0_2:List Int) (Ap0_2:OA) (cp0_2:Nat) (mp0_3:List (Int×Int)) (mbp0_3:Nat) (x1:Int) (LT:List Own):(Int×(List Int)×(List Int)×(List (Int×Int)))→Exit→Act→World→Prop:=Rets Tryd.prog Tryd.f53 (mach_looker_region.Post w0 bp0 lp0_0 Ap0_0 cp0_0 lp0_1 Ap0_1 cp0_1 lp0_2 Ap0_2 cp0_2 mp0_3 mbp0_3 x1 LT)
theorem mach_looker_region_p1 (K:Nat) (w0:World) (bp0:Nat) (lp0_0:List SIns) (Ap0_0:OA) (cp0_0:Nat) (lp0_1:List Int) (Ap0_1:OA) (cp0_1:Nat) (lp0_2:List Int) (Ap0_2:OA) (cp0_2:Nat) (mp0_3:List (Int×Int)) (mbp0_3:Nat) (x1:Int) (LT:List Own) (hRp0_0:RdL w0 Ap0_0 lp0_0) (hLp0_0:lp0_0.length≤cp0_0) (b3:Nat) (z5 z6 z7 z8:Int) (hc2:0≤x1) (e2:Int) (hx3:lp0_2[(x1).toNat]?=some e2) (o:Bool ⊕ (Int×(List Int)×(List Int)×(List (Int×Int)))) (h:mach_looker_region.p1 z6=some o) (w:World) (hS:St w0 w [ro Ap0_2 cp0_2 3 (lp0_2.set ((x1).toNat) z5),bk b3 #[vI z6,vI z7,vI z8] 29,bk bp0 #[.slice Ap0_0 lp0_0.length cp0_0,(.slice Ap0_1 lp0_1.length cp0_1),(.slice Ap0_2 (lp0_2.set ((x1).toNat) z5).length cp0_2),.map (some mbp0_3)] 109,ro Ap0_1 cp0_1 3 lp0_1,Own.map (κ:=Int) (ν:=Int) mbp0_3 mp0_3,Own.all LT]) (Q:Exit→Act→World→Prop) (hQ:∀ x a w,Outs (mach_looker_region.A1 w0 bp0 lp0_0 Ap0_0 cp0_0 lp0_1 Ap0_1 cp0_1 lp0_2 Ap0_2 cp0_2 mp0_3 mbp0_3 x1 LT b3 z5 z6 z7 z8) (mach_looker_region.B1 w0 bp0 lp0_0 Ap0_0 cp0_0 lp0_1 Ap0_1 cp0_1 lp0_2 Ap0_2 cp0_2 mp0_3 mbp0_3 x1 LT) o x a w→Q x a w):WE Tryd.prog 124 (subF Tryd.f53 [1,1,1,0,1,0,0]) Q [(0,pP bp0 0),(1,vI x1),(5,pP b3 0),(6,vI z5),(16,pP bp0 0),(17,pP bp0 0),(18,pP bp0 2),(19,pP bp0 2),(20,(.slice Ap0_2 (lp0_2.set ((x1).toNat) z5).length cp0_2)),(21,vI x1),(22,vI z5),(23,.pointer (some ⟨blkOf Ap0_2,offOf Ap0_2+(x1).toNat*1,none⟩)),(24,pP b3 0),(25,vI z6)] w:=by
 simp only [mach_looker_region.p1] at h
 refine ws fun K7 hK7=>wr [(0,0),(1,0)]<|gb0 [0,1] [(26,.bool (z6==13)),(27,.bool (z6==13))]<|gn hK7 ?_
 by_cases hc3:z6=13
 ·rw [if_pos hc3] at h
  refine wk 26 (z6==13) true (beq_iff_eq.2 hc3)<|wt ?_
  have hS29:=(((((hS.b 5).b 5).b 2).b 5).b 5).b 5
  obtain rfl:=si h
  exact we_skip fun a hF=>hQ _ _ _ (Outs.again ⟨hS29,hF.weaken ea⟩)
 rw [if_neg hc3] at h
 refine wk 26 (z6==13) false (beq_eq_false_iff_ne.2 hc3)<|wf<|wr [(0,0),(1,0)]<|gb0 [0,1] [(26,.bool (z6==16)),(28,.bool (z6==16))] ?_
 have hS35:=(((((hS.b 5).b 5).b 2).b 5).b 5).b 5
 obtain rfl:=si h
 exact ge_nil fun a hF=>hQ _ _ _ (Outs.again ⟨hS35,hF.weaken ea⟩)
theorem mach_looker_region_ok (K bp0:Nat) (lp0_0:List SIns) (Ap0_0:OA) (cp0_0:Nat) (lp0_1:List Int) (Ap0_1:OA) (cp0_1:Nat) (lp0_2:List Int) (Ap0_2:OA) (cp0_2:Nat) (mp0_3:List (Int×Int)) (mbp0_3:Nat) (x1:Int) (w0 wE:World) (LT:List Own) (hS:St w0 wE [bk bp0 #[.slice Ap0_0 lp0_0.length cp0_0,(.slice Ap0_1 lp0_1.length cp0_1),(.slice Ap0_2 lp0_2.length cp0_2),.map (some mbp0_3)] 109,ro Ap0_1 cp0_1 3 lp0_1,ro Ap0_2 cp0_2 3 lp0_2,Own.map (κ:=Int) (ν:=Int) mbp0_3 mp0_3,Own.all LT]) (hRp0_0:RdL w0 Ap0_0 lp0_0) (hLp0_0:lp0_0.length≤cp0_0) (r:Int×(List Int)×(List Int)×(List (Int×Int))) (h:mach_looker_region.f K lp0_0 lp0_1 lp0_2 mp0_3 x1=some r) :
  Calls Tryd.prog 53 #[pP bp0 0,vI x1] wE (mach_looker_region.Post w0 bp0 lp0_0 Ap0_0 cp0_0 lp0_1 Ap0_1 cp0_1 lp0_2 Ap0_2 cp0_2 mp0_3 mbp0_3 x1 LT r):=by
 unfold mach_looker_region.f at h
 refine calls_enter (n:=124) (args:=[pP bp0 0,vI x1]) (fn:=Tryd.f53) rfl rfl rfl rfl ?_
 show WE _ _ _ _ [(0,pP bp0 0),(1,vI x1)] _
 refine ws fun K1 hK1=>wr [(0,0)]<|gb0 [0] [(4,vI 0)]<|gn hK1<|ws fun K2 hK2=>?_
 rcases hq2:mach_looker_region.p0 lp0_0 lp0_1 lp0_2 mp0_3 x1 with _ | (⟨z5,z6,z7,z8⟩ | rr2)
 ·rw [hq2] at h; cases h
 ·rw [hq2] at h
  simp only [] at h
  refine kp (mach_looker_region_p0 K w0 bp0 lp0_0 Ap0_0 cp0_0 lp0_1 Ap0_1 cp0_1 lp0_2 Ap0_2 cp0_2 mp0_3 mbp0_3 x1 LT hRp0_0 hLp0_0 _ hq2 _ hS _ ?_)
  rintro _ a w4 ⟨rfl,b3,hS19,hF⟩
  replace hS19:St w0 w4 [bk b3 #[vI z6,vI z7,vI z8] 29,bk bp0 #[.slice Ap0_0 lp0_0.length cp0_0,(.slice Ap0_1 lp0_1.length cp0_1),(.slice Ap0_2 lp0_2.length cp0_2),.map (some mbp0_3)] 109,ro Ap0_1 cp0_1 3 lp0_1,ro Ap0_2 cp0_2 3 lp0_2,Own.map (κ:=Int) (ν:=Int) mbp0_3 mp0_3,Own.all LT]:=hS19
  refine hK2 [(0,pP bp0 0),(1,vI x1),(5,pP b3 0),(6,vI z5)] w4 ?_ a hF
  refine ws fun K3 hK3=>wr [(0,0),(1,0),(2,0),(3,0),(4,0),(5,0),(6,0),(7,0),(8,2)]<|gb [0,1,2,3,4,5,6] [(22,vI z5),(21,vI x1),(20,(.slice Ap0_2 lp0_2.length cp0_2)),(19,pP bp0 2),(18,pP bp0 2),(17,pP bp0 0),(16,pP bp0 0)] [ld bp0 2 ((.slice Ap0_2 lp0_2.length cp0_2))] ⟨hS19.c 1,trivial⟩ ?_
  by_cases hc2:0≤x1
  ·rw [if_pos hc2] at h
   rcases hx3:lp0_2[(x1).toNat]? with _ | e2
   ·rw [hx3] at h; cases h
   rw [hx3] at h
   simp only [] at h
   refine gi 23 0 37 3 1 lp0_2.length cp0_2 (.tmp 20) (.tmp 21) Ap0_2 .i64 x1 ((x1).toNat) ((hS19.rdAt 3 rfl).eqSome (pos_of_get hx3)) (Int.toNat_of_nonneg hc2).symm (lt_of_get hx3) ?_
   have hS20:=hS19.b 3
   refine ge_seti (α:=Int) (A:=Ap0_2) (nn:=lp0_2.length) (c:=cp0_2) (t:=3) (l:=lp0_2) (x:=e2) (x':=z5) (jn:=((x1).toNat)) (j:=0) (vs:=[vI z5]) (l':=[.stored ⟨blkOf Ap0_2,offOf Ap0_2+((x1).toNat)*1,none⟩ (vI z5)]) hS20 (by kernel_rfl) (by kernel_rfl) hx3 rfl rfl rfl fun w5 hS21=>?_
   have hS22:St w0 w5 [Own.of (.slice Ap0_2 lp0_2.length cp0_2) 3 (lp0_2.set ((x1).toNat) z5),bk b3 #[vI z6,vI z7,vI z8] 29,bk bp0 #[.slice Ap0_0 lp0_0.length cp0_0,(.slice Ap0_1 lp0_1.length cp0_1),(.slice Ap0_2 lp0_2.length cp0_2),.map (some mbp0_3)] 109,ro Ap0_1 cp0_1 3 lp0_1,Own.map (κ:=Int) (ν:=Int) mbp0_3 mp0_3,Own.all LT]:=hS21
   have hE1:lp0_2.length=(lp0_2.set ((x1).toNat) z5).length:=hS22.lenAt 0 rfl
   have hS23:St w0 w5 [Own.of (.slice Ap0_2 (lp0_2.set ((x1).toNat) z5).length cp0_2) 3 (lp0_2.set ((x1).toNat) z5),Own.blk b3 (.cells #[vI z6,vI z7,vI z8] 29 (0,0)),Own.blk bp0 (.cells #[.slice Ap0_0 lp0_0.length cp0_0,(.slice Ap0_1 lp0_1.length cp0_1),(.slice Ap0_2 (lp0_2.set ((x1).toNat) z5).length cp0_2),.map (some mbp0_3)] 109 (0,0)),Own.of (.slice Ap0_1 lp0_1.length cp0_1) 3 lp0_1,Own.map (κ:=Int) (ν:=Int) mbp0_3 mp0_3,Own.all LT]:=by rw [← hE1]; exact hS22
   refine ge_same (t:=20) (v:=(.slice Ap0_2 lp0_2.length cp0_2)) (v':=(.slice Ap0_2 (lp0_2.set ((x1).toNat) z5).length cp0_2)) (by kernel_rfl) (by rw [hE1]) ?_
   refine gn hK3<|ws fun K4 hK4=>ws fun K5 hK5=>wr [(0,0),(1,0)]<|gb [0,1] [(25,vI z6),(24,pP b3 0)] [ld b3 0 (vI z6)] ⟨hS23.c 1,trivial⟩<|gn hK5<|we_block<|ws fun K6 hK6=>?_
   rcases hq3:mach_looker_region.p1 z6 with _ | (q2 | rr1)
   ·rw [hq3] at h; cases h
   ·rw [hq3] at h
    simp only [] at h
    refine kp (mach_looker_region_p1 K w0 bp0 lp0_0 Ap0_0 cp0_0 lp0_1 Ap0_1 cp0_1 lp0_2 Ap0_2 cp0_2 mp0_3 mbp0_3 x1 LT hRp0_0 hLp0_0 b3 z5 z6 z7 z8 hc2 e2 hx3 _ hq3 _ hS23 _ ?_)
    rintro _ a w6 ⟨rfl,hS36,hF⟩
    replace hS36:St w0 w6 [bk b3 #[vI z6,vI z7,vI z8] 29,bk bp0 #[.slice Ap0_0 lp0_0.length cp0_0,(.slice Ap0_1 lp0_1.length cp0_1),(.slice Ap0_2 (lp0_2.set ((x1).toNat) z5).length cp0_2),.map (some mbp0_3)] 109,ro Ap0_1 cp0_1 3 lp0_1,ro Ap0_2 cp0_2 3 (lp0_2.set ((x1).toNat) z5),Own.map (κ:=Int) (ν:=Int) mbp0_3 mp0_3,Own.all LT]:=hS36
    refine hK6 [(0,pP bp0 0),(1,vI x1),(5,pP b3 0),(6,vI z5),(25,vI z6),(26,.bool q2)] w6 ?_ a hF
    by_cases hc4:q2=true
    ·rw [if_pos hc4] at h
     refine wk 26 q2 true hc4<|wt<|ws fun K8 hK8=>ws fun K9 hK9=>wr [(0,0),(1,0),(2,0),(3,0),(4,0),(5,2)]<|gb [0,1,2,3,4] [(33,vI z7),(32,pP b3 1),(31,vI z6),(30,pP b3 0),(29,pP bp0 0)] [ld b3 0 (vI z6),ld b3 1 (vI z7)] ⟨hS36.c 0,hS36.c 0,trivial⟩ ?_
     rcases hq4:mach_looker_holds.f K lp0_0 lp0_1 (lp0_2.set ((x1).toNat) z5) mp0_3 z6 z7 with _ | r2
     ·rw [hq4] at h; cases h
     rw [hq4] at h
     simp only [] at h
     have hS42:=((((hS36.b 4).b 4).b 4).b 4).packN 4
     refine ge_call2 (m:=0) (d:=some 34) (f:=70) (args:=#[pP bp0 0,vI z6,vI z7]) (by kernel_rfl) (mach_looker_holds_ok K bp0 lp0_0 Ap0_0 cp0_0 lp0_1 Ap0_1 cp0_1 (lp0_2.set ((x1).toNat) z5) Ap0_2 cp0_2 mp0_3 mbp0_3 z6 z7 _ _ _ hS42 hRp0_0 hLp0_0 _ hq4) ?_
     rintro _ w7 ⟨rfl,hS41⟩
     refine ⟨_,rfl,?_⟩
     have hS43:=hS41.unpack [bk bp0 #[.slice Ap0_0 lp0_0.length cp0_0,(.slice Ap0_1 lp0_1.length cp0_1),(.slice Ap0_2 (lp0_2.set ((x1).toNat) z5).length cp0_2),.map (some mbp0_3)] 109,ro Ap0_1 cp0_1 3 lp0_1,ro Ap0_2 cp0_2 3 (lp0_2.set ((x1).toNat) z5),Own.map (κ:=Int) (ν:=Int) mbp0_3 mp0_3]
     refine gn hK9 ?_
     by_cases hc5:r2=true
     ·rw [if_pos hc5] at h
      refine wk 34 r2 true hc5<|wt<|ws fun K10 hK10=>ws fun K11 hK11=>wr [(0,0),(1,0),(2,0)]<|gb [0,1,2] [(37,.bool (z6==13)),(36,vI z6),(35,pP b3 0)] [ld b3 0 (vI z6)] ⟨hS43.c 4,trivial⟩<|gn hK11 ?_
      by_cases hc6:z6=13
      ·rw [if_pos hc6] at h
       refine wk 37 (z6==13) true (beq_iff_eq.2 hc6)<|wt<|ws fun K12 hK12=>wr [(0,0)]<|gb0 [0] [(4,vI 9)]<|gn hK12 ?_
       have hS49:=hS43.p [0,1,2,3,5] rfl
       obtain rfl:=si h
       exact we_ret (pr0 [.tmp 4] [vI 9] ⟨(.slice Ap0_1 lp0_1.length cp0_1),(.slice Ap0_2 (lp0_2.set ((x1).toNat) z5).length cp0_2),rfl,hS49⟩)
      rw [if_neg hc6] at h
      refine wk 37 (z6==13) false (beq_eq_false_iff_ne.2 hc6)<|wf<|we_skip fun a hF=>hK10 _ _ ?_ a hF
      refine ws fun K13 hK13=>wr [(0,0)]<|gb0 [0] [(4,vI 10)]<|gn hK13 ?_
      have hS55:=hS43.p [0,1,2,3,5] rfl
      obtain rfl:=si h
      exact we_ret (pr0 [.tmp 4] [vI 10] ⟨(.slice Ap0_1 lp0_1.length cp0_1),(.slice Ap0_2 (lp0_2.set ((x1).toNat) z5).length cp0_2),rfl,hS55⟩)
     rw [if_neg hc5] at h
     refine wk 34 r2 false (Bool.eq_false_iff.2 hc5)<|wf<|we_skip fun a hF=>hK8 _ _ ?_ a hF
     refine wr [(0,0),(1,0),(2,0),(3,0),(4,0),(5,0),(6,1),(7,2),(8,0),(9,0),(10,2)]<|gb [0,1,2,3,4,5] [(43,vI x1),(42,(.slice Ap0_1 lp0_1.length cp0_1)),(41,pP bp0 1),(40,pP bp0 0),(39,pP bp0 0),(38,pP bp0 0)] [ld bp0 1 ((.slice Ap0_1 lp0_1.length cp0_1))] ⟨hS43.c 0,trivial⟩<|gw (some 44) (.cells #[vI x1] 3) (fun b=>.slice (some ⟨b,0,none⟩) 1 1) hS43 fun b4 w8 hx4 hS56=>?_
     have hS57:=hS56.b 2
     by_cases hc7:lp0_1.length<17592186044416
     ·rw [if_pos hc7] at h
      refine ge_append (α:=Int) (m:=0) (d:=45) (t:=37) (el:=3) (bytes:=8) (c1:=1) (b1:=b4) (x:=(.tmp 42)) (y:=(.tmp 44)) (ty:=37) (v:=(.slice Ap0_1 lp0_1.length cp0_1)) (z:=vI 0) (l:=lp0_1) (u:=x1) (by kernel_rfl) (by kernel_rfl) (by kernel_rfl) (by kernel_rfl) (by kernel_rfl) rfl hS57 rfl (by omega) fun v1 w9 hS58=>?_
      refine gb0 [8,9] [(47,pP bp0 1),(46,pP bp0 0)] ?_
      obtain ⟨Z1,cz1,rfl⟩:=hS58.open 0 rfl
      have hS59:=hS58.b 1
      refine gs bp0 1 #[.slice Ap0_0 lp0_0.length cp0_0,(.slice Ap0_1 lp0_1.length cp0_1),(.slice Ap0_2 (lp0_2.set ((x1).toNat) z5).length cp0_2),.map (some mbp0_3)] 109 [(.slice Z1 (lp0_1++[x1]).length cz1)] hS59 fun w10 hS60=>?_
      have hS61:=hS60.nc #[.slice Ap0_0 lp0_0.length cp0_0,(.slice Z1 (lp0_1++[x1]).length cz1),(.slice Ap0_2 (lp0_2.set ((x1).toNat) z5).length cp0_2),.map (some mbp0_3)] rfl
      refine gn hK4<|ws fun K14 hK14=>wr [(0,0)]<|gb0 [0] [(4,vI 0)]<|gn hK14 ?_
      have hS67:=hS61.p [0,1,2,3,5] rfl
      obtain rfl:=si h
      exact we_ret (pr0 [.tmp 4] [vI 0] ⟨(.slice Z1 (lp0_1++[x1]).length cz1),(.slice Ap0_2 (lp0_2.set ((x1).toNat) z5).length cp0_2),rfl,hS67⟩)
     rw [if_neg hc7] at h
     cases h
    rw [if_neg hc4] at h
    refine wk 26 q2 false (Bool.eq_false_iff.2 hc4)<|wf<|ws fun K15 hK15=>wr [(0,0),(1,0)]<|gb0 [0,1] [(48,.bool (z6==14)),(49,.bool (z6==14))]<|gn hK15 ?_
    by_cases hc8:z6=14
    ·rw [if_pos hc8] at h
     refine wk 48 (z6==14) true (beq_iff_eq.2 hc8)<|wt<|ws fun K16 hK16=>ws fun K17 hK17=>we_draws (by kernel_rfl) [(0,0),(1,0),(2,0),(3,0),(4,0),(5,0),(6,0),(7,0),(8,0),(9,0),(10,0),(11,0),(12,0),(13,0),(14,0),(15,0),(16,0),(17,0),(18,0),(19,0),(20,0),(21,0),(22,0),(23,0),(24,0),(25,0),(26,0),(27,0),(28,0),(29,0),(30,0),(31,0),(32,0)] (by kernel_rfl) ?_
     have hS68:=hS36.drew
     refine gb0 [0,1,2] [(52,.bool (decide (z5<0))),(51,.bool (decide (z5<0))),(50,vI z5)] ?_
     by_cases hc9:z5<0
     ·rw [if_pos hc9] at h
      refine gk 52 (decide (z5<0)) true (decide_eq_true hc9)<|gb0 [3,4,5,6,7,8,9,10,11,12,13,14,15,16,17,18,19,20,21,22,23,24,25,26,27,28,29,30,31,32] [(82,.bool true),(81,undef),(80,undef),(79,undef),(78,undef),(77,undef),(76,.bool true),(75,.bool true),(74,undef),(73,undef),(72,undef),(71,undef),(70,undef),(69,undef),(68,undef),(67,undef),(66,undef),(65,undef),(64,undef),(63,.bool true),(62,.bool true),(61,undef),(60,undef),(59,undef),(58,undef),(57,undef),(56,undef),(55,undef),(54,undef),(53,undef)]<|gn hK17<|wt<|ws fun K18 hK18=>wr [(0,0)]<|gb0 [0] [(4,vI 9)]<|gn hK18 ?_
      have hS74:=hS68.p [1,2,3,4,5] rfl
      obtain rfl:=si h
      exact we_ret (pr0 [.tmp 4] [vI 9] ⟨(.slice Ap0_1 lp0_1.length cp0_1),(.slice Ap0_2 (lp0_2.set ((x1).toNat) z5).length cp0_2),rfl,hS74⟩)
     rw [if_neg hc9] at h
     refine gk 52 (decide (z5<0)) false (decide_eq_false hc9)<|gb [3,4,5,6,7] [(57,vI z5),(56,.slice Ap0_0 lp0_0.length cp0_0),(55,pP bp0 0),(54,pP bp0 0),(53,pP bp0 0)] [ld bp0 0 (.slice Ap0_0 lp0_0.length cp0_0)] ⟨hS68.c 1,trivial⟩ ?_
     by_cases hc10:0≤z5
     ·rw [if_pos hc10] at h
      rcases hx5:lp0_0[(z5).toNat]? with _ | e3
      ·rw [hx5] at h; cases h
      rw [hx5] at h
      simp only [] at h
      refine gi 58 0 22 29 3 lp0_0.length cp0_0 (.tmp 56) (.tmp 57) Ap0_0 .i64 z5 ((z5).toNat) ((hS68.rd hRp0_0).eqSome (pos_of_get hx5)) (Int.toNat_of_nonneg hc10).symm (lt_of_get hx5) ?_
      refine gb [9,10,11,12,13] [(63,.bool (e3.Op != 13)),(62,.bool (e3.Op != 13)),(61,.bool (e3.Op != 13)),(60,vI e3.Op),(59,.pointer (some ⟨blkOf Ap0_0,offOf Ap0_0+(z5).toNat*3,none⟩))] [.loaded ⟨blkOf Ap0_0,offOf Ap0_0+((z5).toNat)*3,none⟩ (vI e3.Op)] ⟨RdL.cell (j:=0) (hS68.rd hRp0_0) hx5 rfl,trivial⟩ ?_
      by_cases hc11:e3.Op=13
      ·rw [if_pos hc11] at h
       refine gk 63 (e3.Op != 13) false (bne_eq_false_iff_eq.2 hc11)<|gb [14,15,16,17,18] [(68,vI z5),(67,.slice Ap0_0 lp0_0.length cp0_0),(66,pP bp0 0),(65,pP bp0 0),(64,pP bp0 0)] [ld bp0 0 (.slice Ap0_0 lp0_0.length cp0_0)] ⟨hS68.c 1,trivial⟩<|gi 69 0 22 29 3 lp0_0.length cp0_0 (.tmp 67) (.tmp 68) Ap0_0 .i64 z5 ((z5).toNat) ((hS68.rd hRp0_0).eqSome (pos_of_get hx5)) (Int.toNat_of_nonneg hc10).symm (lt_of_get hx5) ?_
       refine gb [20,21,22,23,24,25,26] [(76,.bool (e3.A != z7)),(75,.bool (e3.A != z7)),(74,.bool (e3.A != z7)),(73,vI z7),(72,pP b3 1),(71,vI e3.A),(70,.pointer (some ⟨blkOf Ap0_0,offOf Ap0_0+(z5).toNat*3+1,none⟩))] [.loaded ⟨blkOf Ap0_0,offOf Ap0_0+((z5).toNat)*3+1,none⟩ (vI e3.A),ld b3 1 (vI z7)] ⟨RdL.cell (j:=1) (hS68.rd hRp0_0) hx5 rfl,hS68.c 0,trivial⟩ ?_
       by_cases hc12:e3.A=z7
       ·rw [if_pos hc12] at h
        refine gk 76 (e3.A != z7) false (bne_eq_false_iff_eq.2 hc12)<|gb [27,28,29,30,31,32] [(82,.bool (z8 != (IntKind.i64.wrap (z5+1)))),(81,.bool (z8 != (IntKind.i64.wrap (z5+1)))),(80,vI (IntKind.i64.wrap (z5+1))),(79,vI z5),(78,vI z8),(77,pP b3 2)] [ld b3 2 (vI z8)] ⟨hS68.c 0,trivial⟩<|gn hK17 ?_
        by_cases hc13:z8=(IntKind.i64.wrap (z5+1))
        ·rw [if_pos hc13] at h
         refine wk 82 (z8 != (IntKind.i64.wrap (z5+1))) false (bne_eq_false_iff_eq.2 hc13)<|wf<|we_skip fun a hF=>hK16 _ _ ?_ a hF
         refine wr [(0,0),(1,0),(2,2)]<|gb0 [0,1] [(84,vI x1),(83,pP bp0 0)] ?_
         rcases hq5:mach_looker_close.f lp0_0 lp0_1 (lp0_2.set ((x1).toNat) z5) mp0_3 x1 with _ | r3
         ·rw [hq5] at h; cases h
         rw [hq5] at h
         simp only [] at h
         have hS80:=((((hS68.b 4).b 4).b 4).b 4).packN 4
         refine ge_call2 (m:=0) (d:=some 85) (f:=71) (args:=#[pP bp0 0,vI x1]) (by kernel_rfl) (mach_looker_close_ok bp0 lp0_0 Ap0_0 cp0_0 lp0_1 Ap0_1 cp0_1 (lp0_2.set ((x1).toNat) z5) Ap0_2 cp0_2 mp0_3 mbp0_3 x1 _ _ _ hS80 hRp0_0 hLp0_0 _ hq5) ?_
         rintro _ w11 ⟨v2,rfl,hS79⟩
         refine ⟨_,rfl,?_⟩
         have hS81:=hS79.unpack [bk bp0 #[.slice Ap0_0 lp0_0.length cp0_0,v2,(.slice Ap0_2 (lp0_2.set ((x1).toNat) z5).length cp0_2),.map (some mbp0_3)] 109,Own.of v2 3 r3.1,ro Ap0_2 cp0_2 3 (lp0_2.set ((x1).toNat) z5),Own.map (κ:=Int) (ν:=Int) mbp0_3 r3.2]
         refine gn hK4<|ws fun K19 hK19=>wr [(0,0)]<|gb0 [0] [(4,vI 0)]<|gn hK19 ?_
         have hS87:=hS81.p [0,1,2,3,5] rfl
         obtain rfl:=si h
         exact we_ret (pr0 [.tmp 4] [vI 0] ⟨v2,(.slice Ap0_2 (lp0_2.set ((x1).toNat) z5).length cp0_2),rfl,hS87⟩)
        rw [if_neg hc13] at h
        refine wk 82 (z8 != (IntKind.i64.wrap (z5+1))) true (bne_iff_ne.2 hc13)<|wt<|ws fun K20 hK20=>wr [(0,0)]<|gb0 [0] [(4,vI 9)]<|gn hK20 ?_
        have hS93:=hS68.p [1,2,3,4,5] rfl
        obtain rfl:=si h
        exact we_ret (pr0 [.tmp 4] [vI 9] ⟨(.slice Ap0_1 lp0_1.length cp0_1),(.slice Ap0_2 (lp0_2.set ((x1).toNat) z5).length cp0_2),rfl,hS93⟩)
       rw [if_neg hc12] at h
       refine gk 76 (e3.A != z7) true (bne_iff_ne.2 hc12)<|gb0 [27,28,29,30,31,32] [(82,.bool true),(81,undef),(80,undef),(79,undef),(78,undef),(77,undef)]<|gn hK17<|wt<|ws fun K21 hK21=>wr [(0,0)]<|gb0 [0] [(4,vI 9)]<|gn hK21 ?_
       have hS99:=hS68.p [1,2,3,4,5] rfl
       obtain rfl:=si h
       exact we_ret (pr0 [.tmp 4] [vI 9] ⟨(.slice Ap0_1 lp0_1.length cp0_1),(.slice Ap0_2 (lp0_2.set ((x1).toNat) z5).length cp0_2),rfl,hS99⟩)
      rw [if_neg hc11] at h
      refine gk 63 (e3.Op != 13) true (bne_iff_ne.2 hc11)<|gb0 [14,15,16,17,18,19,20,21,22,23,24,25,26,27,28,29,30,31,32] [(82,.bool true),(81,undef),(80,undef),(79,undef),(78,undef),(77,undef),(76,.bool true),(75,.bool true),(74,undef),(73,undef),(72,undef),(71,undef),(70,undef),(69,undef),(68,undef),(67,undef),(66,undef),(65,undef),(64,undef)]<|gn hK17<|wt<|ws fun K22 hK22=>wr [(0,0)]<|gb0 [0] [(4,vI 9)]<|gn hK22 ?_
      have hS105:=hS68.p [1,2,3,4,5] rfl
      obtain rfl:=si h
      exact we_ret (pr0 [.tmp 4] [vI 9] ⟨(.slice Ap0_1 lp0_1.length cp0_1),(.slice Ap0_2 (lp0_2.set ((x1).toNat) z5).length cp0_2),rfl,hS105⟩)
     rw [if_neg hc10] at h
     cases h
    rw [if_neg hc8] at h
    refine wk 48 (z6==14) false (beq_eq_false_iff_ne.2 hc8)<|wf<|ws fun K23 hK23=>wr [(0,0),(1,0)]<|gb0 [0,1] [(86,.bool (z6==17)),(87,.bool (z6==17))]<|gn hK23 ?_
    by_cases hc14:z6=17
    ·rw [if_pos hc14] at h
     refine wk 86 (z6==17) true (beq_iff_eq.2 hc14)<|wt<|ws fun K24 hK24=>ws fun K25 hK25=>we_draws (by kernel_rfl) [(0,0),(1,0),(2,0),(3,0),(4,0),(5,0),(6,0),(7,0),(8,0),(9,0),(10,0),(11,0),(12,0),(13,0),(14,0),(15,0),(16,0),(17,0),(18,0),(19,0),(20,0),(21,0),(22,0),(23,0),(24,0),(25,0)] (by kernel_rfl) ?_
     have hS106:=hS36.drew
     refine gb0 [0,1,2] [(90,.bool (decide (z5<0))),(89,.bool (decide (z5<0))),(88,vI z5)] ?_
     by_cases hc15:z5<0
     ·rw [if_pos hc15] at h
      refine gk 90 (decide (z5<0)) true (decide_eq_true hc15)<|gb0 [3,4,5,6,7,8,9,10,11,12,13,14,15,16,17,18,19,20,21,22,23,24,25] [(113,.bool true),(112,undef),(111,undef),(110,undef),(109,undef),(108,undef),(107,undef),(106,undef),(105,undef),(104,undef),(103,undef),(102,undef),(101,.bool true),(100,.bool true),(99,undef),(98,undef),(97,undef),(96,undef),(95,undef),(94,undef),(93,undef),(92,undef),(91,undef)]<|gn hK25<|wt<|ws fun K26 hK26=>wr [(0,0)]<|gb0 [0] [(4,vI 10)]<|gn hK26 ?_
      have hS112:=hS106.p [1,2,3,4,5] rfl
      obtain rfl:=si h
      exact we_ret (pr0 [.tmp 4] [vI 10] ⟨(.slice Ap0_1 lp0_1.length cp0_1),(.slice Ap0_2 (lp0_2.set ((x1).toNat) z5).length cp0_2),rfl,hS112⟩)
     rw [if_neg hc15] at h
     refine gk 90 (decide (z5<0)) false (decide_eq_false hc15)<|gb [3,4,5,6,7] [(95,vI z5),(94,.slice Ap0_0 lp0_0.length cp0_0),(93,pP bp0 0),(92,pP bp0 0),(91,pP bp0 0)] [ld bp0 0 (.slice Ap0_0 lp0_0.length cp0_0)] ⟨hS106.c 1,trivial⟩ ?_
     by_cases hc16:0≤z5
     ·rw [if_pos hc16] at h
      rcases hx6:lp0_0[(z5).toNat]? with _ | e4
      ·rw [hx6] at h; cases h
      rw [hx6] at h
      simp only [] at h
      refine gi 96 0 22 29 3 lp0_0.length cp0_0 (.tmp 94) (.tmp 95) Ap0_0 .i64 z5 ((z5).toNat) ((hS106.rd hRp0_0).eqSome (pos_of_get hx6)) (Int.toNat_of_nonneg hc16).symm (lt_of_get hx6) ?_
      refine gb [9,10,11,12,13] [(101,.bool (e4.Op != 16)),(100,.bool (e4.Op != 16)),(99,.bool (e4.Op != 16)),(98,vI e4.Op),(97,.pointer (some ⟨blkOf Ap0_0,offOf Ap0_0+(z5).toNat*3,none⟩))] [.loaded ⟨blkOf Ap0_0,offOf Ap0_0+((z5).toNat)*3,none⟩ (vI e4.Op)] ⟨RdL.cell (j:=0) (hS106.rd hRp0_0) hx6 rfl,trivial⟩ ?_
      by_cases hc17:e4.Op=16
      ·rw [if_pos hc17] at h
       refine gk 101 (e4.Op != 16) false (bne_eq_false_iff_eq.2 hc17)<|gb [14,15,16,17,18] [(106,vI z5),(105,.slice Ap0_0 lp0_0.length cp0_0),(104,pP bp0 0),(103,pP bp0 0),(102,pP bp0 0)] [ld bp0 0 (.slice Ap0_0 lp0_0.length cp0_0)] ⟨hS106.c 1,trivial⟩<|gi 107 0 22 29 3 lp0_0.length cp0_0 (.tmp 105) (.tmp 106) Ap0_0 .i64 z5 ((z5).toNat) ((hS106.rd hRp0_0).eqSome (pos_of_get hx6)) (Int.toNat_of_nonneg hc16).symm (lt_of_get hx6) ?_
       refine gb [20,21,22,23,24,25] [(113,.bool (e4.A != z7)),(112,.bool (e4.A != z7)),(111,vI z7),(110,pP b3 1),(109,vI e4.A),(108,.pointer (some ⟨blkOf Ap0_0,offOf Ap0_0+(z5).toNat*3+1,none⟩))] [.loaded ⟨blkOf Ap0_0,offOf Ap0_0+((z5).toNat)*3+1,none⟩ (vI e4.A),ld b3 1 (vI z7)] ⟨RdL.cell (j:=1) (hS106.rd hRp0_0) hx6 rfl,hS106.c 0,trivial⟩<|gn hK25 ?_
       by_cases hc18:e4.A=z7
       ·rw [if_pos hc18] at h
        refine wk 113 (e4.A != z7) false (bne_eq_false_iff_eq.2 hc18)<|wf<|we_skip fun a hF=>hK24 _ _ ?_ a hF
        refine wr [(0,0),(1,0),(2,2)]<|gb0 [0,1] [(115,vI x1),(114,pP bp0 0)] ?_
        rcases hq6:mach_looker_close.f lp0_0 lp0_1 (lp0_2.set ((x1).toNat) z5) mp0_3 x1 with _ | r4
        ·rw [hq6] at h; cases h
        rw [hq6] at h
        simp only [] at h
        have hS118:=((((hS106.b 4).b 4).b 4).b 4).packN 4
        refine ge_call2 (m:=0) (d:=some 116) (f:=71) (args:=#[pP bp0 0,vI x1]) (by kernel_rfl) (mach_looker_close_ok bp0 lp0_0 Ap0_0 cp0_0 lp0_1 Ap0_1 cp0_1 (lp0_2.set ((x1).toNat) z5) Ap0_2 cp0_2 mp0_3 mbp0_3 x1 _ _ _ hS118 hRp0_0 hLp0_0 _ hq6) ?_
        rintro _ w12 ⟨v3,rfl,hS117⟩
        refine ⟨_,rfl,?_⟩
        have hS119:=hS117.unpack [bk bp0 #[.slice Ap0_0 lp0_0.length cp0_0,v3,(.slice Ap0_2 (lp0_2.set ((x1).toNat) z5).length cp0_2),.map (some mbp0_3)] 109,Own.of v3 3 r4.1,ro Ap0_2 cp0_2 3 (lp0_2.set ((x1).toNat) z5),Own.map (κ:=Int) (ν:=Int) mbp0_3 r4.2]
        refine gn hK4<|ws fun K27 hK27=>wr [(0,0)]<|gb0 [0] [(4,vI 0)]<|gn hK27 ?_
        have hS125:=hS119.p [0,1,2,3,5] rfl
        obtain rfl:=si h
        exact we_ret (pr0 [.tmp 4] [vI 0] ⟨v3,(.slice Ap0_2 (lp0_2.set ((x1).toNat) z5).length cp0_2),rfl,hS125⟩)
       rw [if_neg hc18] at h
       refine wk 113 (e4.A != z7) true (bne_iff_ne.2 hc18)<|wt<|ws fun K28 hK28=>wr [(0,0)]<|gb0 [0] [(4,vI 10)]<|gn hK28 ?_
       have hS131:=hS106.p [1,2,3,4,5] rfl
       obtain rfl:=si h
       exact we_ret (pr0 [.tmp 4] [vI 10] ⟨(.slice Ap0_1 lp0_1.length cp0_1),(.slice Ap0_2 (lp0_2.set ((x1).toNat) z5).length cp0_2),rfl,hS131⟩)
      rw [if_neg hc17] at h
      refine gk 101 (e4.Op != 16) true (bne_iff_ne.2 hc17)<|gb0 [14,15,16,17,18,19,20,21,22,23,24,25] [(113,.bool true),(112,undef),(111,undef),(110,undef),(109,undef),(108,undef),(107,undef),(106,undef),(105,undef),(104,undef),(103,undef),(102,undef)]<|gn hK25<|wt<|ws fun K29 hK29=>wr [(0,0)]<|gb0 [0] [(4,vI 10)]<|gn hK29 ?_
      have hS137:=hS106.p [1,2,3,4,5] rfl
      obtain rfl:=si h
      exact we_ret (pr0 [.tmp 4] [vI 10] ⟨(.slice Ap0_1 lp0_1.length cp0_1),(.slice Ap0_2 (lp0_2.set ((x1).toNat) z5).length cp0_2),rfl,hS137⟩)
     rw [if_neg hc16] at h
     cases h
    rw [if_neg hc14] at h
    refine wk 86 (z6==17) false (beq_eq_false_iff_ne.2 hc14)<|wf<|ws fun K30 hK30=>wr [(0,0),(1,0)]<|gb0 [0,1] [(117,.bool (z6==15)),(118,.bool (z6==15))]<|gn hK30 ?_
    by_cases hc19:z6=15
    ·rw [if_pos hc19] at h
     refine wk 117 (z6==15) true (beq_iff_eq.2 hc19)<|wt<|ws fun K31 hK31=>wr [(0,0),(1,0),(2,0),(3,2),(4,0)]<|gb [0,1,2] [(121,vI z7),(120,pP b3 1),(119,pP bp0 0)] [ld b3 1 (vI z7)] ⟨hS36.c 0,trivial⟩ ?_
     rcases hq7:mach_looker_holds.f K lp0_0 lp0_1 (lp0_2.set ((x1).toNat) z5) mp0_3 13 z7 with _ | r5
     ·rw [hq7] at h; cases h
     rw [hq7] at h
     simp only [] at h
     have hS143:=((((hS36.b 4).b 4).b 4).b 4).packN 4
     refine ge_call2 (m:=0) (d:=some 122) (f:=70) (args:=#[pP bp0 0,vI 13,vI z7]) (by kernel_rfl) (mach_looker_holds_ok K bp0 lp0_0 Ap0_0 cp0_0 lp0_1 Ap0_1 cp0_1 (lp0_2.set ((x1).toNat) z5) Ap0_2 cp0_2 mp0_3 mbp0_3 13 z7 _ _ _ hS143 hRp0_0 hLp0_0 _ hq7) ?_
     rintro _ w13 ⟨rfl,hS142⟩
     refine ⟨_,rfl,?_⟩
     have hS144:=hS142.unpack [bk bp0 #[.slice Ap0_0 lp0_0.length cp0_0,(.slice Ap0_1 lp0_1.length cp0_1),(.slice Ap0_2 (lp0_2.set ((x1).toNat) z5).length cp0_2),.map (some mbp0_3)] 109,ro Ap0_1 cp0_1 3 lp0_1,ro Ap0_2 cp0_2 3 (lp0_2.set ((x1).toNat) z5),Own.map (κ:=Int) (ν:=Int) mbp0_3 mp0_3]
     refine gb0 [4] [(123,.bool (!r5))]<|gn hK31 ?_
     by_cases hc20:r5=true
     ·rw [if_pos hc20] at h
      refine wk 123 (!r5) false (congrArg (fun z=>!z) hc20)<|wf<|we_skip fun a hF=>hK4 _ _ ?_ a hF
      refine ws fun K32 hK32=>wr [(0,0)]<|gb0 [0] [(4,vI 0)]<|gn hK32 ?_
      have hS150:=hS144.p [0,1,2,3,5] rfl
      obtain rfl:=si h
      exact we_ret (pr0 [.tmp 4] [vI 0] ⟨(.slice Ap0_1 lp0_1.length cp0_1),(.slice Ap0_2 (lp0_2.set ((x1).toNat) z5).length cp0_2),rfl,hS150⟩)
     rw [if_neg hc20] at h
     refine wk 123 (!r5) true (congrArg (fun z=>!z) (Bool.eq_false_iff.2 hc20))<|wt<|ws fun K33 hK33=>wr [(0,0)]<|gb0 [0] [(4,vI 9)]<|gn hK33 ?_
     have hS156:=hS144.p [0,1,2,3,5] rfl
     obtain rfl:=si h
     exact we_ret (pr0 [.tmp 4] [vI 9] ⟨(.slice Ap0_1 lp0_1.length cp0_1),(.slice Ap0_2 (lp0_2.set ((x1).toNat) z5).length cp0_2),rfl,hS156⟩)
    rw [if_neg hc19] at h
    refine wk 117 (z6==15) false (beq_eq_false_iff_ne.2 hc19)<|wf<|we_skip fun a hF=>hK4 _ _ ?_ a hF
    refine ws fun K34 hK34=>wr [(0,0)]<|gb0 [0] [(4,vI 0)]<|gn hK34 ?_
    have hS162:=hS36.p [1,2,3,4,5] rfl
    obtain rfl:=si h
    exact we_ret (pr0 [.tmp 4] [vI 0] ⟨(.slice Ap0_1 lp0_1.length cp0_1),(.slice Ap0_2 (lp0_2.set ((x1).toNat) z5).length cp0_2),rfl,hS162⟩)
   rw [hq3] at h
   simp only [] at h
   refine kp (mach_looker_region_p1 K w0 bp0 lp0_0 Ap0_0 cp0_0 lp0_1 Ap0_1 cp0_1 lp0_2 Ap0_2 cp0_2 mp0_3 mbp0_3 x1 LT hRp0_0 hLp0_0 b3 z5 z6 z7 z8 hc2 e2 hx3 _ hq3 _ hS23 _ ?_)
   rintro _ a w1 ⟨_,rfl,hb⟩
   obtain rfl:=si h
   exact hb
  rw [if_neg hc2] at h
  cases h
 rw [hq2] at h
 simp only [] at h
 refine kp (mach_looker_region_p0 K w0 bp0 lp0_0 Ap0_0 cp0_0 lp0_1 Ap0_1 cp0_1 lp0_2 Ap0_2 cp0_2 mp0_3 mbp0_3 x1 LT hRp0_0 hLp0_0 _ hq2 _ hS _ ?_)
 rintro _ a w1 ⟨_,rfl,hb⟩
 obtain rfl:=si h
 exact hb

/-! punctual/mach.pops -/
abbrev mach_pops.Post (w0:World) (r:Int×Int) (e:Ending) (w:World):Prop:=e=.returned (.tuple #[vI r.1,vI r.2])∧St w0 w []
def mach_pops.f (x0 : Int) : Int × Int :=
 if x0=1 then
  (0,1)
 else
  if x0=2 then
   (0,1)
  else
   if x0=9 then
    (0,1)
   else
    if x0=3 then
     (1,0)
    else
     if x0=10 then
      (1,0)
     else
      if x0=12 then
       (1,0)
      else
       if x0=4 then
        (2,1)
       else
        if x0=5 then
         (2,1)
        else
         if x0=6 then
          (2,1)
         else
          if x0=7 then
           (2,1)
          else
           if x0=8 then
            (2,1)
           else
            (0,0)
theorem mach_pops_ok (x0:Int) (w0:World) (r:Int×Int) (h:mach_pops.f x0=r) :
  Calls Tryd.prog 73 #[vI x0] w0 (mach_pops.Post w0 r):=by
 have hS:=St.start w0
 unfold mach_pops.f at h
 refine calls_enter (n:=19) (args:=[vI x0]) (fn:=Tryd.f73) rfl rfl rfl rfl ?_
 show WE _ _ _ _ [(0,vI x0)] _
 refine ws fun K1 hK1=>wr [(0,0),(1,0)]<|gb0 [0,1] [(3,vI 0),(2,vI 0)]<|gn hK1<|ws fun K2 hK2=>ws fun K3 hK3=>wr [(0,0)]<|gb0 [0] [(4,vI x0)]<|gn hK3<|we_block<|ws fun K4 hK4=>ws fun K5 hK5=>wr [(0,0),(1,0)]<|gb0 [0,1] [(5,.bool (x0==1)),(6,.bool (x0==1))]<|gn hK5 ?_
 by_cases hc1:x0=1
 ·rw [if_pos hc1] at h
  refine wk 5 (x0==1) true (beq_iff_eq.2 hc1)<|wt<|we_skip fun a hF=>hK4 _ _ ?_ a hF
  refine wt<|ws fun K6 hK6=>wr [(0,0),(1,0)]<|gb0 [0,1] [(3,vI 1),(2,vI 0)]<|gn hK6 ?_
  subst h
  exact we_ret (pr0 [.tmp 2,.tmp 3] [vI 0,vI 1] ⟨rfl,hS⟩)
 rw [if_neg hc1] at h
 refine wk 5 (x0==1) false (beq_eq_false_iff_ne.2 hc1)<|wf<|ws fun K7 hK7=>wr [(0,0),(1,0)]<|gb0 [0,1] [(5,.bool (x0==2)),(7,.bool (x0==2))]<|gn hK7 ?_
 by_cases hc2:x0=2
 ·rw [if_pos hc2] at h
  refine wk 5 (x0==2) true (beq_iff_eq.2 hc2)<|wt<|we_skip fun a hF=>hK4 _ _ ?_ a hF
  refine wt<|ws fun K8 hK8=>wr [(0,0),(1,0)]<|gb0 [0,1] [(3,vI 1),(2,vI 0)]<|gn hK8 ?_
  subst h
  exact we_ret (pr0 [.tmp 2,.tmp 3] [vI 0,vI 1] ⟨rfl,hS⟩)
 rw [if_neg hc2] at h
 refine wk 5 (x0==2) false (beq_eq_false_iff_ne.2 hc2)<|wf<|wr [(0,0),(1,0)]<|gb0 [0,1] [(5,.bool (x0==9)),(8,.bool (x0==9))]<|gn hK4 ?_
 by_cases hc3:x0=9
 ·rw [if_pos hc3] at h
  refine wk 5 (x0==9) true (beq_iff_eq.2 hc3)<|wt<|ws fun K9 hK9=>wr [(0,0),(1,0)]<|gb0 [0,1] [(3,vI 1),(2,vI 0)]<|gn hK9 ?_
  subst h
  exact we_ret (pr0 [.tmp 2,.tmp 3] [vI 0,vI 1] ⟨rfl,hS⟩)
 rw [if_neg hc3] at h
 refine wk 5 (x0==9) false (beq_eq_false_iff_ne.2 hc3)<|wf<|ws fun K10 hK10=>ws fun K11 hK11=>wr [(0,0),(1,0)]<|gb0 [0,1] [(9,.bool (x0==3)),(10,.bool (x0==3))]<|gn hK11 ?_
 by_cases hc4:x0=3
 ·rw [if_pos hc4] at h
  refine wk 9 (x0==3) true (beq_iff_eq.2 hc4)<|wt<|we_skip fun a hF=>hK10 _ _ ?_ a hF
  refine wt<|ws fun K12 hK12=>wr [(0,0),(1,0)]<|gb0 [0,1] [(3,vI 0),(2,vI 1)]<|gn hK12 ?_
  subst h
  exact we_ret (pr0 [.tmp 2,.tmp 3] [vI 1,vI 0] ⟨rfl,hS⟩)
 rw [if_neg hc4] at h
 refine wk 9 (x0==3) false (beq_eq_false_iff_ne.2 hc4)<|wf<|ws fun K13 hK13=>wr [(0,0),(1,0)]<|gb0 [0,1] [(9,.bool (x0==10)),(11,.bool (x0==10))]<|gn hK13 ?_
 by_cases hc5:x0=10
 ·rw [if_pos hc5] at h
  refine wk 9 (x0==10) true (beq_iff_eq.2 hc5)<|wt<|we_skip fun a hF=>hK10 _ _ ?_ a hF
  refine wt<|ws fun K14 hK14=>wr [(0,0),(1,0)]<|gb0 [0,1] [(3,vI 0),(2,vI 1)]<|gn hK14 ?_
  subst h
  exact we_ret (pr0 [.tmp 2,.tmp 3] [vI 1,vI 0] ⟨rfl,hS⟩)
 rw [if_neg hc5] at h
 refine wk 9 (x0==10) false (beq_eq_false_iff_ne.2 hc5)<|wf<|wr [(0,0),(1,0)]<|gb0 [0,1] [(9,.bool (x0==12)),(12,.bool (x0==12))]<|gn hK10 ?_
 by_cases hc6:x0=12
 ·rw [if_pos hc6] at h
  refine wk 9 (x0==12) true (beq_iff_eq.2 hc6)<|wt<|ws fun K15 hK15=>wr [(0,0),(1,0)]<|gb0 [0,1] [(3,vI 0),(2,vI 1)]<|gn hK15 ?_
  subst h
  exact we_ret (pr0 [.tmp 2,.tmp 3] [vI 1,vI 0] ⟨rfl,hS⟩)
 rw [if_neg hc6] at h
 refine wk 9 (x0==12) false (beq_eq_false_iff_ne.2 hc6)<|wf<|ws fun K16 hK16=>ws fun K17 hK17=>wr [(0,0),(1,0)]<|gb0 [0,1] [(13,.bool (x0==4)),(14,.bool (x0==4))]<|gn hK17 ?_
 by_cases hc7:x0=4
 ·rw [if_pos hc7] at h
  refine wk 13 (x0==4) true (beq_iff_eq.2 hc7)<|wt<|we_skip fun a hF=>hK16 _ _ ?_ a hF
  refine wt<|ws fun K18 hK18=>wr [(0,0),(1,0)]<|gb0 [0,1] [(3,vI 1),(2,vI 2)]<|gn hK18 ?_
  subst h
  exact we_ret (pr0 [.tmp 2,.tmp 3] [vI 2,vI 1] ⟨rfl,hS⟩)
 rw [if_neg hc7] at h
 refine wk 13 (x0==4) false (beq_eq_false_iff_ne.2 hc7)<|wf<|ws fun K19 hK19=>wr [(0,0),(1,0)]<|gb0 [0,1] [(13,.bool (x0==5)),(15,.bool (x0==5))]<|gn hK19 ?_
 by_cases hc8:x0=5
 ·rw [if_pos hc8] at h
  refine wk 13 (x0==5) true (beq_iff_eq.2 hc8)<|wt<|we_skip fun a hF=>hK16 _ _ ?_ a hF
  refine wt<|ws fun K20 hK20=>wr [(0,0),(1,0)]<|gb0 [0,1] [(3,vI 1),(2,vI 2)]<|gn hK20 ?_
  subst h
  exact we_ret (pr0 [.tmp 2,.tmp 3] [vI 2,vI 1] ⟨rfl,hS⟩)
 rw [if_neg hc8] at h
 refine wk 13 (x0==5) false (beq_eq_false_iff_ne.2 hc8)<|wf<|ws fun K21 hK21=>wr [(0,0),(1,0)]<|gb0 [0,1] [(13,.bool (x0==6)),(16,.bool (x0==6))]<|gn hK21 ?_
 by_cases hc9:x0=6
 ·rw [if_pos hc9] at h
  refine wk 13 (x0==6) true (beq_iff_eq.2 hc9)<|wt<|we_skip fun a hF=>hK16 _ _ ?_ a hF
  refine wt<|ws fun K22 hK22=>wr [(0,0),(1,0)]<|gb0 [0,1] [(3,vI 1),(2,vI 2)]<|gn hK22 ?_
  subst h
  exact we_ret (pr0 [.tmp 2,.tmp 3] [vI 2,vI 1] ⟨rfl,hS⟩)
 rw [if_neg hc9] at h
 refine wk 13 (x0==6) false (beq_eq_false_iff_ne.2 hc9)<|wf<|ws fun K23 hK23=>wr [(0,0),(1,0)]<|gb0 [0,1] [(13,.bool (x0==7)),(17,.bool (x0==7))]<|gn hK23 ?_
 by_cases hc10:x0=7
 ·rw [if_pos hc10] at h
  refine wk 13 (x0==7) true (beq_iff_eq.2 hc10)<|wt<|we_skip fun a hF=>hK16 _ _ ?_ a hF
  refine wt<|ws fun K24 hK24=>wr [(0,0),(1,0)]<|gb0 [0,1] [(3,vI 1),(2,vI 2)]<|gn hK24 ?_
  subst h
  exact we_ret (pr0 [.tmp 2,.tmp 3] [vI 2,vI 1] ⟨rfl,hS⟩)
 rw [if_neg hc10] at h
 refine wk 13 (x0==7) false (beq_eq_false_iff_ne.2 hc10)<|wf<|wr [(0,0),(1,0)]<|gb0 [0,1] [(13,.bool (x0==8)),(18,.bool (x0==8))]<|gn hK16 ?_
 by_cases hc11:x0=8
 ·rw [if_pos hc11] at h
  refine wk 13 (x0==8) true (beq_iff_eq.2 hc11)<|wt<|ws fun K25 hK25=>wr [(0,0),(1,0)]<|gb0 [0,1] [(3,vI 1),(2,vI 2)]<|gn hK25 ?_
  subst h
  exact we_ret (pr0 [.tmp 2,.tmp 3] [vI 2,vI 1] ⟨rfl,hS⟩)
 rw [if_neg hc11] at h
 refine wk 13 (x0==8) false (beq_eq_false_iff_ne.2 hc11)<|wf<|we_skip fun a hF=>hK2 _ _ ?_ a hF
 refine ws fun K26 hK26=>wr [(0,0),(1,0)]<|gb0 [0,1] [(3,vI 0),(2,vI 0)]<|gn hK26 ?_
 subst h
 exact we_ret (pr0 [.tmp 2,.tmp 3] [vI 0,vI 0] ⟨rfl,hS⟩)

/-! punctual/mach.heights$1 -/
abbrev mach_heights_1.Post (w0:World) (x0 x1:Int) (bf0:Nat) (lf0_0:List Int) (Af0_0:OA) (cf0_0:Nat) (LT:List Own) (r:Bool×(List Int)) (e:Ending) (w:World):Prop:=∃ (nbf0_0:Value),e=.returned (.bool r.1)∧St w0 w [bk bf0 #[nbf0_0] 37,Own.of nbf0_0 3 r.2,Own.all LT]
def mach_heights_1.f (x0 : Int) (x1 : Int) (lf0_0 : List Int) : Option (Bool × (List Int)) :=
 if 0≤x0 then
  match lf0_0[(x0).toNat]? with
  | none=>none
  | some e1 =>
   if e1<0 then
    match (lf0_0.set ((x0).toNat) x1)[(x0).toNat]? with
    | none=>none
    | some e2 =>
     some ((e2==x1),(lf0_0.set ((x0).toNat) x1))
   else
    some ((e1==x1),lf0_0)
 else
  none
theorem mach_heights_1_ok (x0 x1:Int) (bf0:Nat) (lf0_0:List Int) (Af0_0:OA) (cf0_0:Nat) (w0 wE:World) (LT:List Own) (hS:St w0 wE [bk bf0 #[(.slice Af0_0 lf0_0.length cf0_0)] 37,ro Af0_0 cf0_0 3 lf0_0,Own.all LT]) (r:Bool×(List Int)) (h:mach_heights_1.f x0 x1 lf0_0=some r) :
  Calls Tryd.prog 72 #[vI x0,vI x1,pP bf0 0] wE (mach_heights_1.Post w0 x0 x1 bf0 lf0_0 Af0_0 cf0_0 LT r):=by
 unfold mach_heights_1.f at h
 refine calls_enter (n:=21) (args:=[vI x0,vI x1,pP bf0 0]) (fn:=Tryd.f72) rfl rfl rfl rfl ?_
 show WE _ _ _ _ [(0,vI x0),(1,vI x1),(2,pP bf0 0)] _
 refine ws fun K1 hK1=>wr [(0,0)]<|gb0 [0] [(5,.bool false)]<|gn hK1<|ws fun K2 hK2=>ws fun K3 hK3=>wr [(0,0),(1,0),(2,0),(3,0),(4,0)]<|gb [0,1] [(7,vI x0),(6,(.slice Af0_0 lf0_0.length cf0_0))] [ld bf0 0 ((.slice Af0_0 lf0_0.length cf0_0))] ⟨hS.c 0,trivial⟩ ?_
 by_cases hc1:0≤x0
 ·rw [if_pos hc1] at h
  rcases hx1:lf0_0[(x0).toNat]? with _ | e1
  ·rw [hx1] at h; cases h
  rw [hx1] at h
  simp only [] at h
  refine gi 8 0 37 3 1 lf0_0.length cf0_0 (.tmp 6) (.tmp 7) Af0_0 .i64 x0 ((x0).toNat) ((hS.rdAt 1 rfl).eqSome (pos_of_get hx1)) (Int.toNat_of_nonneg hc1).symm (lt_of_get hx1) ?_
  refine gb [3,4] [(10,.bool (decide (e1<0))),(9,vI e1)] [.loaded ⟨blkOf Af0_0,offOf Af0_0+((x0).toNat)*1,none⟩ (vI e1)] ⟨RdL.cell (j:=0) (hS.rdAt 1 rfl) hx1 rfl,trivial⟩<|gn hK3 ?_
  by_cases hc2:e1<0
  ·rw [if_pos hc2] at h
   refine wk 10 (decide (e1<0)) true (decide_eq_true hc2)<|wt<|wr [(0,0),(1,0),(2,0),(3,0),(4,2)]<|gb [0,1,2] [(13,vI x1),(12,vI x0),(11,(.slice Af0_0 lf0_0.length cf0_0))] [ld bf0 0 ((.slice Af0_0 lf0_0.length cf0_0))] ⟨hS.c 0,trivial⟩<|gi 14 0 37 3 1 lf0_0.length cf0_0 (.tmp 11) (.tmp 12) Af0_0 .i64 x0 ((x0).toNat) ((hS.rdAt 1 rfl).eqSome (pos_of_get hx1)) (Int.toNat_of_nonneg hc1).symm (lt_of_get hx1) ?_
   have hS1:=hS.b 1
   refine ge_seti (α:=Int) (A:=Af0_0) (nn:=lf0_0.length) (c:=cf0_0) (t:=3) (l:=lf0_0) (x:=e1) (x':=x1) (jn:=((x0).toNat)) (j:=0) (vs:=[vI x1]) (l':=[.stored ⟨blkOf Af0_0,offOf Af0_0+((x0).toNat)*1,none⟩ (vI x1)]) hS1 (by kernel_rfl) (by kernel_rfl) hx1 rfl rfl rfl fun w1 hS2=>?_
   have hS3:St w0 w1 [Own.of (.slice Af0_0 lf0_0.length cf0_0) 3 (lf0_0.set ((x0).toNat) x1),bk bf0 #[(.slice Af0_0 lf0_0.length cf0_0)] 37,Own.all LT]:=hS2
   have hE1:lf0_0.length=(lf0_0.set ((x0).toNat) x1).length:=hS3.lenAt 0 rfl
   have hS4:St w0 w1 [Own.of (.slice Af0_0 (lf0_0.set ((x0).toNat) x1).length cf0_0) 3 (lf0_0.set ((x0).toNat) x1),Own.blk bf0 (.cells #[(.slice Af0_0 (lf0_0.set ((x0).toNat) x1).length cf0_0)] 37 (0,0)),Own.all LT]:=by rw [← hE1]; exact hS3
   refine ge_same (t:=6) (v:=(.slice Af0_0 lf0_0.length cf0_0)) (v':=(.slice Af0_0 (lf0_0.set ((x0).toNat) x1).length cf0_0)) (by kernel_rfl) (by rw [hE1]) ?_
   refine ge_same (t:=11) (v:=(.slice Af0_0 lf0_0.length cf0_0)) (v':=(.slice Af0_0 (lf0_0.set ((x0).toNat) x1).length cf0_0)) (by kernel_rfl) (by rw [hE1]) ?_
   refine gn hK2<|ws fun K4 hK4=>wr [(0,0),(1,0),(2,0),(3,0),(4,0),(5,0),(6,0)]<|gb [0,1] [(16,vI x0),(15,(.slice Af0_0 (lf0_0.set ((x0).toNat) x1).length cf0_0))] [ld bf0 0 ((.slice Af0_0 (lf0_0.set ((x0).toNat) x1).length cf0_0))] ⟨hS4.c 1,trivial⟩ ?_
   rcases hx2:(lf0_0.set ((x0).toNat) x1)[(x0).toNat]? with _ | e2
   ·rw [hx2] at h; cases h
   rw [hx2] at h
   simp only [] at h
   refine gi 17 0 37 3 1 ((lf0_0.set ((x0).toNat) x1).length) cf0_0 (.tmp 15) (.tmp 16) Af0_0 .i64 x0 ((x0).toNat) ((hS4.rdAt 0 rfl).eqSome (pos_of_get hx2)) (Int.toNat_of_nonneg hc1).symm (lt_of_get hx2) ?_
   refine gb [3,4,5,6] [(5,.bool (e2==x1)),(20,.bool (e2==x1)),(19,vI x1),(18,vI e2)] [.loaded ⟨blkOf Af0_0,offOf Af0_0+((x0).toNat)*1,none⟩ (vI e2)] ⟨RdL.cell (j:=0) (hS4.rdAt 0 rfl) hx2 rfl,trivial⟩<|gn hK4 ?_
   have hS7:=((hS4.b 2).b 1).b 2
   obtain rfl:=si h
   exact we_ret (pr0 [.tmp 5] [.bool (e2==x1)] ⟨(.slice Af0_0 (lf0_0.set ((x0).toNat) x1).length cf0_0),rfl,hS7⟩)
  rw [if_neg hc2] at h
  refine wk 10 (decide (e1<0)) false (decide_eq_false hc2)<|wf<|we_skip fun a hF=>hK2 _ _ ?_ a hF
  refine ws fun K5 hK5=>wr [(0,0),(1,0),(2,0),(3,0),(4,0),(5,0),(6,0)]<|gb [0,1] [(16,vI x0),(15,(.slice Af0_0 lf0_0.length cf0_0))] [ld bf0 0 ((.slice Af0_0 lf0_0.length cf0_0))] ⟨hS.c 0,trivial⟩<|gi 17 0 37 3 1 lf0_0.length cf0_0 (.tmp 15) (.tmp 16) Af0_0 .i64 x0 ((x0).toNat) ((hS.rdAt 1 rfl).eqSome (pos_of_get hx1)) (Int.toNat_of_nonneg hc1).symm (lt_of_get hx1) ?_
  refine gb [3,4,5,6] [(5,.bool (e1==x1)),(20,.bool (e1==x1)),(19,vI x1),(18,vI e1)] [.loaded ⟨blkOf Af0_0,offOf Af0_0+((x0).toNat)*1,none⟩ (vI e1)] ⟨RdL.cell (j:=0) (hS.rdAt 1 rfl) hx1 rfl,trivial⟩<|gn hK5 ?_
  have hS10:=((hS.b 2).b 2).b 2
  obtain rfl:=si h
  exact we_ret (pr0 [.tmp 5] [.bool (e1==x1)] ⟨(.slice Af0_0 lf0_0.length cf0_0),rfl,hS10⟩)
 rw [if_neg hc1] at h
 cases h

/-! punctual/mach.heights -/
abbrev mach_heights.Post (w0:World) (r:SFault) (e:Ending) (w:World):Prop:=e=.returned (.agg #[vI r.Code,vI r.At])∧St w0 w []
def mach_heights.r0 (l0 : List SIns) : Int × (List Int) → Option ((Int × (List Int)) ⊕ ((List Int) ⊕ SFault))
 | (z1,m1) =>
  if z1<((List.replicate ((IntKind.i64.wrap ((l0.length:Int)+1)).toNat) (0:Int)).length:Int) then
   if 0≤z1 then
    match m1[(z1).toNat]? with
    | none=>none
    | some e1 =>
     some (.inl (IntKind.i64.wrap (z1+1),(m1.set ((z1).toNat) (-1))))
   else
    none
  else
   some (.inr (.inl m1))
def mach_heights.p2 (m4 : List Int) (e3 : SIns) (e4 : Int) : Option ((Bool × (List Int)) ⊕ SFault) :=
  if e3.Op=11 then
   if (IntKind.i64.wrap ((IntKind.i64.wrap (e4-((mach_pops.f e3.Op).1)))+((mach_pops.f e3.Op).2)))≤20 then
    match mach_heights_1.f e3.A (IntKind.i64.wrap (e4+(IntKind.i64.wrap (((mach_pops.f e3.Op).2)-((mach_pops.f e3.Op).1))))) m4 with
    | none=>none
    | some r1 =>
     some (.inl (r1.1,r1.2))
   else
    some (.inl (false,m4))
  else
   if e3.Op=12 then
    if (IntKind.i64.wrap ((IntKind.i64.wrap (e4-((mach_pops.f e3.Op).1)))+((mach_pops.f e3.Op).2)))≤20 then
     match mach_heights_1.f e3.A (IntKind.i64.wrap (e4+(IntKind.i64.wrap (((mach_pops.f e3.Op).2)-((mach_pops.f e3.Op).1))))) m4 with
     | none=>none
     | some r2 =>
      some (.inl (r2.1,r2.2))
    else
     some (.inl (false,m4))
   else
    some (.inl (decide ((IntKind.i64.wrap ((IntKind.i64.wrap (e4-((mach_pops.f e3.Op).1)))+((mach_pops.f e3.Op).2)))≤20),m4))
def mach_heights.p3 (m4 : List Int) (e3 : SIns) : Option ((Bool × (List Int)) ⊕ SFault) :=
  if e3.Op=11 then
   some (.inl (false,m4))
  else
   if e3.Op=12 then
    some (.inl (false,m4))
   else
    some (.inl (false,m4))
def mach_heights.r1 (l0 : List SIns) : Nat × (List Int) → Option ((Nat × (List Int)) ⊕ ((List Int) ⊕ SFault))
 | (i1,m4) =>
  if (i1:Int)<(l0.length:Int) then
   match l0[i1]? with
   | none=>none
   | some e3 =>
    match m4[i1]? with
    | none=>none
    | some e4 =>
     if e4<0 then
      some (.inr (.inr (⟨7,(i1:Int)⟩:SFault)))
     else
      if e4 ≥ ((mach_pops.f e3.Op).1) then
       match mach_heights.p2 m4 e3 e4 with
       | none=>none
       | some (.inl (q2,m7)) =>
        if e3.Op=14 then
         if q2=true then
          if 0≤e3.B then
           match m7[(e3.B).toNat]? with
           | none=>none
           | some e5 =>
            if e3.Op=11 then
             if e5=(IntKind.i64.wrap (e4+(IntKind.i64.wrap (((mach_pops.f e3.Op).2)-((mach_pops.f e3.Op).1))))) then
              some (.inl ((i1+1),m7))
             else
              some (.inr (.inr (⟨8,(i1:Int)⟩:SFault)))
            else
             if e5=(IntKind.i64.wrap (e4+(IntKind.i64.wrap (((mach_pops.f e3.Op).2)-((mach_pops.f e3.Op).1))))) then
              match mach_heights_1.f ((i1+1:Nat):Int) (IntKind.i64.wrap (e4+(IntKind.i64.wrap (((mach_pops.f e3.Op).2)-((mach_pops.f e3.Op).1))))) m7 with
              | none=>none
              | some r3 =>
               if r3.1=true then
                some (.inl ((i1+1),r3.2))
               else
                some (.inr (.inr (⟨8,(i1:Int)⟩:SFault)))
             else
              some (.inr (.inr (⟨8,(i1:Int)⟩:SFault)))
          else
           none
         else
          if e3.Op=11 then
           some (.inr (.inr (⟨8,(i1:Int)⟩:SFault)))
          else
           some (.inr (.inr (⟨8,(i1:Int)⟩:SFault)))
        else
         if e3.Op=11 then
          if q2=true then
           some (.inl ((i1+1),m7))
          else
           some (.inr (.inr (⟨8,(i1:Int)⟩:SFault)))
         else
          if q2=true then
           match mach_heights_1.f ((i1+1:Nat):Int) (IntKind.i64.wrap (e4+(IntKind.i64.wrap (((mach_pops.f e3.Op).2)-((mach_pops.f e3.Op).1))))) m7 with
           | none=>none
           | some r4 =>
            if r4.1=true then
             some (.inl ((i1+1),r4.2))
            else
             some (.inr (.inr (⟨8,(i1:Int)⟩:SFault)))
          else
           some (.inr (.inr (⟨8,(i1:Int)⟩:SFault)))
       | some (.inr rr1) =>
        some (.inr (.inr rr1))
      else
       match mach_heights.p3 m4 e3 with
       | none=>none
       | some (.inl (q4,m9)) =>
        if e3.Op=14 then
         if q4=true then
          if 0≤e3.B then
           match m9[(e3.B).toNat]? with
           | none=>none
           | some e6 =>
            if e3.Op=11 then
             if e6=(IntKind.i64.wrap (e4+(IntKind.i64.wrap (((mach_pops.f e3.Op).2)-((mach_pops.f e3.Op).1))))) then
              some (.inl ((i1+1),m9))
             else
              some (.inr (.inr (⟨8,(i1:Int)⟩:SFault)))
            else
             if e6=(IntKind.i64.wrap (e4+(IntKind.i64.wrap (((mach_pops.f e3.Op).2)-((mach_pops.f e3.Op).1))))) then
              match mach_heights_1.f ((i1+1:Nat):Int) (IntKind.i64.wrap (e4+(IntKind.i64.wrap (((mach_pops.f e3.Op).2)-((mach_pops.f e3.Op).1))))) m9 with
              | none=>none
              | some r5 =>
               if r5.1=true then
                some (.inl ((i1+1),r5.2))
               else
                some (.inr (.inr (⟨8,(i1:Int)⟩:SFault)))
             else
              some (.inr (.inr (⟨8,(i1:Int)⟩:SFault)))
          else
           none
         else
          if e3.Op=11 then
           some (.inr (.inr (⟨8,(i1:Int)⟩:SFault)))
          else
           some (.inr (.inr (⟨8,(i1:Int)⟩:SFault)))
        else
         if e3.Op=11 then
          if q4=true then
           some (.inl ((i1+1),m9))
          else
           some (.inr (.inr (⟨8,(i1:Int)⟩:SFault)))
         else
          if q4=true then
           match mach_heights_1.f ((i1+1:Nat):Int) (IntKind.i64.wrap (e4+(IntKind.i64.wrap (((mach_pops.f e3.Op).2)-((mach_pops.f e3.Op).1))))) m9 with
           | none=>none
           | some r6 =>
            if r6.1=true then
             some (.inl ((i1+1),r6.2))
            else
             some (.inr (.inr (⟨8,(i1:Int)⟩:SFault)))
          else
           some (.inr (.inr (⟨8,(i1:Int)⟩:SFault)))
       | some (.inr rr2) =>
        some (.inr (.inr rr2))
  else
   some (.inr (.inl m4))
def mach_heights.f (K : Nat) (l0 : List SIns) : Option SFault :=
 if 0≤(IntKind.i64.wrap ((l0.length:Int)+1)) then
  if ((IntKind.i64.wrap ((l0.length:Int)+1)).toNat)≤17592186044416 then
   match iter (mach_heights.r0 l0) K (0,(List.replicate ((IntKind.i64.wrap ((l0.length:Int)+1)).toNat) (0:Int))) with
   | none=>none
   | some (.inl m3) =>
    match m3[0]? with
    | none=>none
    | some e2 =>
     match iter (mach_heights.r1 l0) K (0,(m3.set 0 0)) with
     | none=>none
     | some (.inl m10) =>
      match m10[l0.length]? with
      | none=>none
      | some e7 =>
       if e7 > 0 then
        some (⟨8,(l0.length:Int)⟩:SFault)
       else
        some (⟨0,0⟩:SFault)
     | some (.inr rr3) =>
      some rr3
   | some (.inr rr4) =>
    some rr4
  else
   none
 else
  none
abbrev mach_heights.A0 (w0:World) (l0:List SIns) (A0:OA) (c0 b1 b2:Nat) (Z1:OA) (cz1:Nat):(Int×(List Int))→Act→World→Prop:=fun (s:Int×(List Int)) a w=>St w0 w [bk b2 #[(.slice Z1 s.2.length cz1)] 37,bk b1 #[vI 0,vI 0] 25,ro Z1 cz1 3 s.2]∧Frm 120 a [(0,.slice A0 l0.length c0),(2,pP b1 0),(3,pP b2 0),(17,vI ((List.replicate ((IntKind.i64.wrap ((l0.length:Int)+1)).toNat) (0:Int)).length:Int)),(18,vI s.1)]
abbrev mach_heights.B0 (w0:World) (l0:List SIns) (A0:OA) (c0 b1 b2:Nat) (Z1:OA) (cz1:Nat):((List Int) ⊕ SFault)→Exit→Act→World→Prop:=Exits 0 (fun (s:(List Int)) a w=>St w0 w [bk b2 #[(.slice Z1 s.length cz1)] 37,bk b1 #[vI 0,vI 0] 25,ro Z1 cz1 3 s]∧Frm 120 a [(0,.slice A0 l0.length c0),(2,pP b1 0),(3,pP b2 0)]) (Rets Tryd.prog Tryd.f54 (mach_heights.Post w0))
theorem mach_heights_r0 (K:Nat) (w0:World) (l0:List SIns) (A0:OA) (c0:Nat) (hR0:RdL w0 A0 l0) (hL0:l0.length≤c0) (b1:Nat) (hc1:0≤(IntKind.i64.wrap ((l0.length:Int)+1))) (hc2:((IntKind.i64.wrap ((l0.length:Int)+1)).toNat)≤17592186044416) (b2:Nat) (Z1:OA) (cz1:Nat) (s:Int×(List Int)) (o:(Int×(List Int)) ⊕ ((List Int) ⊕ SFault)) (h:mach_heights.r0 l0 s=some o) (a:Act) (w:World) (hA:mach_heights.A0 w0 l0 A0 c0 b1 b2 Z1 cz1 s a w) (Q:Exit→Act→World→Prop) (hQ:∀ x a w,Outs (mach_heights.A0 w0 l0 A0 c0 b1 b2 Z1 cz1) (mach_heights.B0 w0 l0 A0 c0 b1 b2 Z1 cz1) o x a w→Q x a w):(subF Tryd.f54 [1,1,0,1,0,0]).wp Tryd.prog Q a w:=by
 obtain ⟨z1,m1⟩:=s
 obtain ⟨hS,hF⟩:=hA
 replace hS:St w0 w [bk b2 #[(.slice Z1 m1.length cz1)] 37,bk b1 #[vI 0,vI 0] 25,ro Z1 cz1 3 m1]:=hS
 simp only [mach_heights.r0] at h
 refine (?_:WE Tryd.prog 120 (subF Tryd.f54 [1,1,0,1,0,0]) Q [(0,.slice A0 l0.length c0),(2,pP b1 0),(3,pP b2 0),(17,vI ((List.replicate ((IntKind.i64.wrap ((l0.length:Int)+1)).toNat) (0:Int)).length:Int)),(18,vI z1)] w) a hF
 clear hF a
 refine ws fun K5 hK5=>wr [(0,0)]<|gb0 [0] [(19,.bool (decide (z1<((List.replicate ((IntKind.i64.wrap ((l0.length:Int)+1)).toNat) (0:Int)).length:Int))))]<|gn hK5<|ws fun K6 hK6=>?_
 by_cases hc3:z1<((List.replicate ((IntKind.i64.wrap ((l0.length:Int)+1)).toNat) (0:Int)).length:Int)
 ·rw [if_pos hc3] at h
  refine wk 19 (decide (z1<((List.replicate ((IntKind.i64.wrap ((l0.length:Int)+1)).toNat) (0:Int)).length:Int))) true (decide_eq_true hc3)<|wt<|we_skip fun a hF=>hK6 _ _ ?_ a hF
  refine ws fun K7 hK7=>we_block<|ws fun K8 hK8=>wr [(0,0),(1,0)]<|gb0 [0,1] [(4,vI z1),(20,vI z1)]<|gn hK8<|wr [(0,0),(1,0),(2,0),(3,2)]<|gb [0,1] [(22,vI z1),(21,(.slice Z1 m1.length cz1))] [ld b2 0 ((.slice Z1 m1.length cz1))] ⟨hS.c 0,trivial⟩ ?_
  by_cases hc4:0≤z1
  ·rw [if_pos hc4] at h
   rcases hx3:m1[(z1).toNat]? with _ | e1
   ·rw [hx3] at h; cases h
   rw [hx3] at h
   simp only [] at h
   refine gi 23 0 37 3 1 m1.length cz1 (.tmp 21) (.tmp 22) Z1 .i64 z1 ((z1).toNat) ((hS.rdAt 2 rfl).eqSome (pos_of_get hx3)) (Int.toNat_of_nonneg hc4).symm (lt_of_get hx3) ?_
   have hS9:=hS.b 2
   refine ge_seti (α:=Int) (A:=Z1) (nn:=m1.length) (c:=cz1) (t:=3) (l:=m1) (x:=e1) (x':=(-1)) (jn:=((z1).toNat)) (j:=0) (vs:=[vI (-1)]) (l':=[.stored ⟨blkOf Z1,offOf Z1+((z1).toNat)*1,none⟩ (vI (-1))]) hS9 (by kernel_rfl) (by kernel_rfl) hx3 rfl rfl rfl fun w5 hS10=>?_
   have hS11:St w0 w5 [Own.of (.slice Z1 m1.length cz1) 3 (m1.set ((z1).toNat) (-1)),bk b2 #[(.slice Z1 m1.length cz1)] 37,bk b1 #[vI 0,vI 0] 25]:=hS10
   have hE1:m1.length=(m1.set ((z1).toNat) (-1)).length:=hS11.lenAt 0 rfl
   have hS12:St w0 w5 [Own.of (.slice Z1 (m1.set ((z1).toNat) (-1)).length cz1) 3 (m1.set ((z1).toNat) (-1)),Own.blk b2 (.cells #[(.slice Z1 (m1.set ((z1).toNat) (-1)).length cz1)] 37 (0,0)),Own.blk b1 (.cells #[vI 0,vI 0] 25 (0,0))]:=by rw [← hE1]; exact hS11
   refine ge_same (t:=21) (v:=(.slice Z1 m1.length cz1)) (v':=(.slice Z1 (m1.set ((z1).toNat) (-1)).length cz1)) (by kernel_rfl) (by rw [hE1]) ?_
   refine gn hK7<|wr [(0,0),(1,0)]<|gb0 [0,1] [(18,vI (IntKind.i64.wrap (z1+1))),(24,vI (IntKind.i64.wrap (z1+1)))] ?_
   have hS14:=(hS12.b 2).b 2
   obtain rfl:=si h
   exact ge_nil fun a hF=>hQ _ _ _ (Outs.again ⟨hS14,hF.weaken ea⟩)
  rw [if_neg hc4] at h
  cases h
 rw [if_neg hc3] at h
 refine wk 19 (decide (z1<((List.replicate ((IntKind.i64.wrap ((l0.length:Int)+1)).toNat) (0:Int)).length:Int))) false (decide_eq_false hc3)<|wf ?_
 have hS17:=((hS.b 2).b 2).b 2
 obtain rfl:=si h
 exact we_exit fun a hF=>hQ _ _ _ (Outs.out nofun (Exits.here ⟨hS17,hF.weaken ea⟩))
abbrev mach_heights.A2 (w0:World) (l0:List SIns) (A0:OA) (c0 b1 b2 i1:Nat) (e3:SIns) (b3:Nat) (e4:Int):(Bool×(List Int))→Act→World→Prop:=fun (s:Bool×(List Int)) a w=>∃ (v4:Value),St w0 w [bk b3 #[vI e3.Op,vI e3.A,vI e3.B] 29,bk b2 #[v4] 37,bk b1 #[vI 0,vI 0] 25,Own.of v4 3 s.2]∧Frm 120 a [(0,.slice A0 l0.length c0),(2,pP b1 0),(3,pP b2 0),(5,.func (.func 72) #[] #[pP b2 0]),(6,vI (i1:Int)),(7,pP b3 0),(8,vI (IntKind.i64.wrap (e4+(IntKind.i64.wrap (((mach_pops.f e3.Op).2)-((mach_pops.f e3.Op).1)))))),(11,.bool s.1),(28,.slice A0 l0.length c0),(29,vI (l0.length:Int)),(30,vI (i1:Int))]
abbrev mach_heights.B2 (w0:World):SFault→Exit→Act→World→Prop:=Rets Tryd.prog Tryd.f54 (mach_heights.Post w0)
theorem mach_heights_p2 (K:Nat) (w0:World) (l0:List SIns) (A0:OA) (c0:Nat) (hR0:RdL w0 A0 l0) (hL0:l0.length≤c0) (b1:Nat) (hc1:0≤(IntKind.i64.wrap ((l0.length:Int)+1))) (hc2:((IntKind.i64.wrap ((l0.length:Int)+1)).toNat)≤17592186044416) (b2:Nat) (Z1:OA) (cz1:Nat) (m3:List Int) (e2:Int) (hx4:m3[0]?=some e2) (i1:Nat) (m4:List Int) (hc5:(i1:Int)<(l0.length:Int)) (e3:SIns) (hx5:l0[i1]?=some e3) (b3:Nat) (Z2:OA) (cz2:Nat) (e4:Int) (hx7:m4[i1]?=some e4) (hc6:¬ (e4<0)) (hc7:e4 ≥ ((mach_pops.f e3.Op).1)) (o:(Bool×(List Int)) ⊕ SFault) (h:mach_heights.p2 m4 e3 e4=some o) (w:World) (hS:St w0 w [bk b3 #[vI e3.Op,vI e3.A,vI e3.B] 29,bk b2 #[(.slice Z2 m4.length cz2)] 37,bk b1 #[vI 0,vI 0] 25,ro Z2 cz2 3 m4]) (Q:Exit→Act→World→Prop) (hQ:∀ x a w,Outs (mach_heights.A2 w0 l0 A0 c0 b1 b2 i1 e3 b3 e4) (mach_heights.B2 w0) o x a w→Q x a w):WE Tryd.prog 120 (subF Tryd.f54 [1,1,1,1,1,0,1,0,0,1,1,0,0,1,1,1,1,1,1,0]) Q ((0,.slice A0 l0.length c0)::(2,pP b1 0)::(3,pP b2 0)::(5,.func (.func 72) #[] #[pP b2 0])::(6,vI (i1:Int))::(7,pP b3 0)::(8,vI (IntKind.i64.wrap (e4+(IntKind.i64.wrap (((mach_pops.f e3.Op).2)-((mach_pops.f e3.Op).1))))))::(9,vI ((mach_pops.f e3.Op).1))::(10,vI ((mach_pops.f e3.Op).2))::(11,.bool (decide ((IntKind.i64.wrap ((IntKind.i64.wrap (e4-((mach_pops.f e3.Op).1)))+((mach_pops.f e3.Op).2)))≤20)))::(28,.slice A0 l0.length c0)::(29,vI (l0.length:Int))::(30,vI (i1:Int))::(31,.bool true)::(32,vI (i1:Int))::(33,.pointer (some ⟨blkOf A0,offOf A0+i1*3,none⟩))::(34,.agg #[vI e3.Op,vI e3.A,vI e3.B])::(35,(.slice Z2 m4.length cz2))::(36,vI (i1:Int))::(37,.pointer (some ⟨blkOf Z2,offOf Z2+i1*1,none⟩))::(38,vI e4)::(39,vI e4)::(40,.bool false)::(43,.tuple #[vI ((mach_pops.f e3.Op).1),vI ((mach_pops.f e3.Op).2)])::(44,pP b3 0)::(45,vI e3.Op)::(46,.tuple #[vI ((mach_pops.f e3.Op).1),vI ((mach_pops.f e3.Op).2)])::(47,vI ((mach_pops.f e3.Op).1))::(48,vI ((mach_pops.f e3.Op).2))::(49,vI e4)::(50,vI ((mach_pops.f e3.Op).1))::(51,.bool (decide (e4 ≥ ((mach_pops.f e3.Op).1))))::(52,.bool true)::(53,vI e4)::(54,vI ((mach_pops.f e3.Op).1))::(55,vI (IntKind.i64.wrap (e4-((mach_pops.f e3.Op).1))))::(56,vI ((mach_pops.f e3.Op).2))::(57,vI (IntKind.i64.wrap ((IntKind.i64.wrap (e4-((mach_pops.f e3.Op).1)))+((mach_pops.f e3.Op).2))))::(58,.bool (decide ((IntKind.i64.wrap ((IntKind.i64.wrap (e4-((mach_pops.f e3.Op).1)))+((mach_pops.f e3.Op).2)))≤20)))::(59,.bool (decide ((IntKind.i64.wrap ((IntKind.i64.wrap (e4-((mach_pops.f e3.Op).1)))+((mach_pops.f e3.Op).2)))≤20)))::(60,vI e4)::(61,vI ((mach_pops.f e3.Op).2))::(62,vI ((mach_pops.f e3.Op).1))::(63,vI (IntKind.i64.wrap (((mach_pops.f e3.Op).2)-((mach_pops.f e3.Op).1))))::(64,vI (IntKind.i64.wrap (e4+(IntKind.i64.wrap (((mach_pops.f e3.Op).2)-((mach_pops.f e3.Op).1))))))::[]) w:=by
 simp only [mach_heights.p2] at h
 refine ws fun K25 hK25=>wr [(0,0),(1,0),(2,0),(3,0),(4,0),(5,0),(6,0),(7,0)]<|gb [0,1,2,3] [(68,.bool (e3.Op==11)),(67,.bool (e3.Op==11)),(66,vI e3.Op),(65,pP b3 0)] [ld b3 0 (vI e3.Op)] ⟨hS.c 0,trivial⟩ ?_
 by_cases hc8:e3.Op=11
 ·rw [if_pos hc8] at h
  refine gk 68 (e3.Op==11) true (beq_iff_eq.2 hc8)<|gb0 [4,5,6,7] [(72,.bool true),(71,undef),(70,undef),(69,undef)]<|gn hK25<|wt<|wr [(0,0),(1,0),(2,0),(3,0),(4,0),(5,0),(6,2),(7,0),(8,0)]<|gb0 [0,1] [(74,.bool (decide ((IntKind.i64.wrap ((IntKind.i64.wrap (e4-((mach_pops.f e3.Op).1)))+((mach_pops.f e3.Op).2)))≤20))),(73,.bool (decide ((IntKind.i64.wrap ((IntKind.i64.wrap (e4-((mach_pops.f e3.Op).1)))+((mach_pops.f e3.Op).2)))≤20)))] ?_
  by_cases hc9:(IntKind.i64.wrap ((IntKind.i64.wrap (e4-((mach_pops.f e3.Op).1)))+((mach_pops.f e3.Op).2)))≤20
  ·rw [if_pos hc9] at h
   refine gk 74 (decide ((IntKind.i64.wrap ((IntKind.i64.wrap (e4-((mach_pops.f e3.Op).1)))+((mach_pops.f e3.Op).2)))≤20)) true (decide_eq_true hc9)<|gb [2,3,4,5] [(78,vI (IntKind.i64.wrap (e4+(IntKind.i64.wrap (((mach_pops.f e3.Op).2)-((mach_pops.f e3.Op).1)))))),(77,vI e3.A),(76,pP b3 1),(75,.func (.func 72) #[] #[pP b2 0])] [ld b3 1 (vI e3.A)] ⟨hS.c 0,trivial⟩ ?_
   rcases hq3:mach_heights_1.f e3.A (IntKind.i64.wrap (e4+(IntKind.i64.wrap (((mach_pops.f e3.Op).2)-((mach_pops.f e3.Op).1))))) m4 with _ | r1
   ·rw [hq3] at h; cases h
   rw [hq3] at h
   simp only [] at h
   have hS37:=((hS.b 3).b 2).packN 2
   refine ge_call2 (m:=0) (d:=some 79) (f:=72) (args:=#[vI e3.A,vI (IntKind.i64.wrap (e4+(IntKind.i64.wrap (((mach_pops.f e3.Op).2)-((mach_pops.f e3.Op).1))))),pP b2 0]) (by kernel_rfl) (mach_heights_1_ok e3.A (IntKind.i64.wrap (e4+(IntKind.i64.wrap (((mach_pops.f e3.Op).2)-((mach_pops.f e3.Op).1))))) b2 m4 Z2 cz2 _ _ _ hS37 _ hq3) ?_
   rintro _ w12 ⟨v5,rfl,hS36⟩
   refine ⟨_,rfl,?_⟩
   have hS38:=hS36.unpack [bk b2 #[v5] 37,Own.of v5 3 r1.2]
   refine gb0 [7,8] [(11,.bool r1.1),(80,.bool r1.1)] ?_
   have hS42:=(((hS38.b 1).b 3).b 2).b 3
   obtain rfl:=si h
   exact ge_nil fun a hF=>hQ _ _ _ (Outs.again ⟨v5,hS42,hF.weaken ea⟩)
  rw [if_neg hc9] at h
  refine gk 74 (decide ((IntKind.i64.wrap ((IntKind.i64.wrap (e4-((mach_pops.f e3.Op).1)))+((mach_pops.f e3.Op).2)))≤20)) false (decide_eq_false hc9)<|gb0 [2,3,4,5] [(78,undef),(77,undef),(76,undef),(75,undef)]<|ge_off rfl rfl rfl (by kernel_rfl) ?_
  refine gb0 [7,8] [(11,.bool false),(80,.bool false)] ?_
  have hS46:=(((hS.b 3).b 3).b 3).b 3
  obtain rfl:=si h
  exact ge_nil fun a hF=>hQ _ _ _ (Outs.again ⟨(.slice Z2 m4.length cz2),hS46,hF.weaken ea⟩)
 rw [if_neg hc8] at h
 refine gk 68 (e3.Op==11) false (beq_eq_false_iff_ne.2 hc8)<|gb [4,5,6,7] [(72,.bool (e3.Op==12)),(71,.bool (e3.Op==12)),(70,vI e3.Op),(69,pP b3 0)] [ld b3 0 (vI e3.Op)] ⟨hS.c 0,trivial⟩<|gn hK25 ?_
 by_cases hc10:e3.Op=12
 ·rw [if_pos hc10] at h
  refine wk 72 (e3.Op==12) true (beq_iff_eq.2 hc10)<|wt<|wr [(0,0),(1,0),(2,0),(3,0),(4,0),(5,0),(6,2),(7,0),(8,0)]<|gb0 [0,1] [(74,.bool (decide ((IntKind.i64.wrap ((IntKind.i64.wrap (e4-((mach_pops.f e3.Op).1)))+((mach_pops.f e3.Op).2)))≤20))),(73,.bool (decide ((IntKind.i64.wrap ((IntKind.i64.wrap (e4-((mach_pops.f e3.Op).1)))+((mach_pops.f e3.Op).2)))≤20)))] ?_
  by_cases hc11:(IntKind.i64.wrap ((IntKind.i64.wrap (e4-((mach_pops.f e3.Op).1)))+((mach_pops.f e3.Op).2)))≤20
  ·rw [if_pos hc11] at h
   refine gk 74 (decide ((IntKind.i64.wrap ((IntKind.i64.wrap (e4-((mach_pops.f e3.Op).1)))+((mach_pops.f e3.Op).2)))≤20)) true (decide_eq_true hc11)<|gb [2,3,4,5] [(78,vI (IntKind.i64.wrap (e4+(IntKind.i64.wrap (((mach_pops.f e3.Op).2)-((mach_pops.f e3.Op).1)))))),(77,vI e3.A),(76,pP b3 1),(75,.func (.func 72) #[] #[pP b2 0])] [ld b3 1 (vI e3.A)] ⟨hS.c 0,trivial⟩ ?_
   rcases hq4:mach_heights_1.f e3.A (IntKind.i64.wrap (e4+(IntKind.i64.wrap (((mach_pops.f e3.Op).2)-((mach_pops.f e3.Op).1))))) m4 with _ | r2
   ·rw [hq4] at h; cases h
   rw [hq4] at h
   simp only [] at h
   have hS50:=((hS.b 3).b 2).packN 2
   refine ge_call2 (m:=0) (d:=some 79) (f:=72) (args:=#[vI e3.A,vI (IntKind.i64.wrap (e4+(IntKind.i64.wrap (((mach_pops.f e3.Op).2)-((mach_pops.f e3.Op).1))))),pP b2 0]) (by kernel_rfl) (mach_heights_1_ok e3.A (IntKind.i64.wrap (e4+(IntKind.i64.wrap (((mach_pops.f e3.Op).2)-((mach_pops.f e3.Op).1))))) b2 m4 Z2 cz2 _ _ _ hS50 _ hq4) ?_
   rintro _ w13 ⟨v6,rfl,hS49⟩
   refine ⟨_,rfl,?_⟩
   have hS51:=hS49.unpack [bk b2 #[v6] 37,Own.of v6 3 r2.2]
   refine gb0 [7,8] [(11,.bool r2.1),(80,.bool r2.1)] ?_
   have hS55:=(((hS51.b 1).b 3).b 2).b 3
   obtain rfl:=si h
   exact ge_nil fun a hF=>hQ _ _ _ (Outs.again ⟨v6,hS55,hF.weaken ea⟩)
  rw [if_neg hc11] at h
  refine gk 74 (decide ((IntKind.i64.wrap ((IntKind.i64.wrap (e4-((mach_pops.f e3.Op).1)))+((mach_pops.f e3.Op).2)))≤20)) false (decide_eq_false hc11)<|gb0 [2,3,4,5] [(78,undef),(77,undef),(76,undef),(75,undef)]<|ge_off rfl rfl rfl (by kernel_rfl) ?_
  refine gb0 [7,8] [(11,.bool false),(80,.bool false)] ?_
  have hS59:=(((hS.b 3).b 3).b 3).b 3
  obtain rfl:=si h
  exact ge_nil fun a hF=>hQ _ _ _ (Outs.again ⟨(.slice Z2 m4.length cz2),hS59,hF.weaken ea⟩)
 rw [if_neg hc10] at h
 refine wk 72 (e3.Op==12) false (beq_eq_false_iff_ne.2 hc10)<|wf ?_
 have hS63:=(((hS.b 3).b 3).b 3).b 3
 obtain rfl:=si h
 exact we_skip fun a hF=>hQ _ _ _ (Outs.again ⟨(.slice Z2 m4.length cz2),hS63,hF.weaken ea⟩)
abbrev mach_heights.A3 (w0:World) (l0:List SIns) (A0:OA) (c0 b1 b2 i1:Nat) (e3:SIns) (b3:Nat) (e4:Int):(Bool×(List Int))→Act→World→Prop:=fun (s:Bool×(List Int)) a w=>∃ (v10:Value),St w0 w [bk b3 #[vI e3.Op,vI e3.A,vI e3.B] 29,bk b2 #[v10] 37,bk b1 #[vI 0,vI 0] 25,Own.of v10 3 s.2]∧Frm 120 a [(0,.slice A0 l0.length c0),(2,pP b1 0),(3,pP b2 0),(5,.func (.func 72) #[] #[pP b2 0]),(6,vI (i1:Int)),(7,pP b3 0),(8,vI (IntKind.i64.wrap (e4+(IntKind.i64.wrap (((mach_pops.f e3.Op).2)-((mach_pops.f e3.Op).1)))))),(11,.bool s.1),(28,.slice A0 l0.length c0),(29,vI (l0.length:Int)),(30,vI (i1:Int))]
abbrev mach_heights.B3 (w0:World):SFault→Exit→Act→World→Prop:=Rets Tryd.prog Tryd.f54 (mach_heights.Post w0)
theorem mach_heights_p3 (K:Nat) (w0:World) (l0:List SIns) (A0:OA) (c0:Nat) (hR0:RdL w0 A0 l0) (hL0:l0.length≤c0) (b1:Nat) (hc1:0≤(IntKind.i64.wrap ((l0.length:Int)+1))) (hc2:((IntKind.i64.wrap ((l0.length:Int)+1)).toNat)≤17592186044416) (b2:Nat) (Z1:OA) (cz1:Nat) (m3:List Int) (e2:Int) (hx4:m3[0]?=some e2) (i1:Nat) (m4:List Int) (hc5:(i1:Int)<(l0.length:Int)) (e3:SIns) (hx5:l0[i1]?=some e3) (b3:Nat) (Z2:OA) (cz2:Nat) (e4:Int) (hx7:m4[i1]?=some e4) (hc6:¬ (e4<0)) (hc7:¬ (e4 ≥ ((mach_pops.f e3.Op).1))) (o:(Bool×(List Int)) ⊕ SFault) (h:mach_heights.p3 m4 e3=some o) (w:World) (hS:St w0 w [bk b3 #[vI e3.Op,vI e3.A,vI e3.B] 29,bk b2 #[(.slice Z2 m4.length cz2)] 37,bk b1 #[vI 0,vI 0] 25,ro Z2 cz2 3 m4]) (Q:Exit→Act→World→Prop) (hQ:∀ x a w,Outs (mach_heights.A3 w0 l0 A0 c0 b1 b2 i1 e3 b3 e4) (mach_heights.B3 w0) o x a w→Q x a w):WE Tryd.prog 120 (subF Tryd.f54 [1,1,1,1,1,0,1,0,0,1,1,0,0,1,1,1,1,1,1,0]) Q ((0,.slice A0 l0.length c0)::(2,pP b1 0)::(3,pP b2 0)::(5,.func (.func 72) #[] #[pP b2 0])::(6,vI (i1:Int))::(7,pP b3 0)::(8,vI (IntKind.i64.wrap (e4+(IntKind.i64.wrap (((mach_pops.f e3.Op).2)-((mach_pops.f e3.Op).1))))))::(9,vI ((mach_pops.f e3.Op).1))::(10,vI ((mach_pops.f e3.Op).2))::(11,.bool false)::(28,.slice A0 l0.length c0)::(29,vI (l0.length:Int))::(30,vI (i1:Int))::(31,.bool true)::(32,vI (i1:Int))::(33,.pointer (some ⟨blkOf A0,offOf A0+i1*3,none⟩))::(34,.agg #[vI e3.Op,vI e3.A,vI e3.B])::(35,(.slice Z2 m4.length cz2))::(36,vI (i1:Int))::(37,.pointer (some ⟨blkOf Z2,offOf Z2+i1*1,none⟩))::(38,vI e4)::(39,vI e4)::(40,.bool false)::(43,.tuple #[vI ((mach_pops.f e3.Op).1),vI ((mach_pops.f e3.Op).2)])::(44,pP b3 0)::(45,vI e3.Op)::(46,.tuple #[vI ((mach_pops.f e3.Op).1),vI ((mach_pops.f e3.Op).2)])::(47,vI ((mach_pops.f e3.Op).1))::(48,vI ((mach_pops.f e3.Op).2))::(49,vI e4)::(50,vI ((mach_pops.f e3.Op).1))::(51,.bool (decide (e4 ≥ ((mach_pops.f e3.Op).1))))::(52,.bool false)::(53,undef)::(54,undef)::(55,undef)::(56,undef)::(57,undef)::(58,undef)::(59,.bool false)::(60,vI e4)::(61,vI ((mach_pops.f e3.Op).2))::(62,vI ((mach_pops.f e3.Op).1))::(63,vI (IntKind.i64.wrap (((mach_pops.f e3.Op).2)-((mach_pops.f e3.Op).1))))::(64,vI (IntKind.i64.wrap (e4+(IntKind.i64.wrap (((mach_pops.f e3.Op).2)-((mach_pops.f e3.Op).1))))))::[]) w:=by
 simp only [mach_heights.p3] at h
 refine ws fun K52 hK52=>wr [(0,0),(1,0),(2,0),(3,0),(4,0),(5,0),(6,0),(7,0)]<|gb [0,1,2,3] [(68,.bool (e3.Op==11)),(67,.bool (e3.Op==11)),(66,vI e3.Op),(65,pP b3 0)] [ld b3 0 (vI e3.Op)] ⟨hS.c 0,trivial⟩ ?_
 by_cases hc24:e3.Op=11
 ·rw [if_pos hc24] at h
  refine gk 68 (e3.Op==11) true (beq_iff_eq.2 hc24)<|gb0 [4,5,6,7] [(72,.bool true),(71,undef),(70,undef),(69,undef)]<|gn hK52<|wt<|wr [(0,0),(1,0),(2,0),(3,0),(4,0),(5,0),(6,2),(7,0),(8,0)]<|gb0 [0,1,2,3,4,5] [(78,undef),(77,undef),(76,undef),(75,undef),(74,.bool false),(73,.bool false)]<|ge_off rfl rfl rfl (by kernel_rfl) ?_
  refine gb0 [7,8] [(11,.bool false),(80,.bool false)] ?_
  have hS126:=(((hS.b 3).b 3).b 3).b 3
  obtain rfl:=si h
  exact ge_nil fun a hF=>hQ _ _ _ (Outs.again ⟨(.slice Z2 m4.length cz2),hS126,hF.weaken ea⟩)
 rw [if_neg hc24] at h
 refine gk 68 (e3.Op==11) false (beq_eq_false_iff_ne.2 hc24)<|gb [4,5,6,7] [(72,.bool (e3.Op==12)),(71,.bool (e3.Op==12)),(70,vI e3.Op),(69,pP b3 0)] [ld b3 0 (vI e3.Op)] ⟨hS.c 0,trivial⟩<|gn hK52 ?_
 by_cases hc25:e3.Op=12
 ·rw [if_pos hc25] at h
  refine wk 72 (e3.Op==12) true (beq_iff_eq.2 hc25)<|wt<|wr [(0,0),(1,0),(2,0),(3,0),(4,0),(5,0),(6,2),(7,0),(8,0)]<|gb0 [0,1,2,3,4,5] [(78,undef),(77,undef),(76,undef),(75,undef),(74,.bool false),(73,.bool false)]<|ge_off rfl rfl rfl (by kernel_rfl) ?_
  refine gb0 [7,8] [(11,.bool false),(80,.bool false)] ?_
  have hS130:=(((hS.b 3).b 3).b 3).b 3
  obtain rfl:=si h
  exact ge_nil fun a hF=>hQ _ _ _ (Outs.again ⟨(.slice Z2 m4.length cz2),hS130,hF.weaken ea⟩)
 rw [if_neg hc25] at h
 refine wk 72 (e3.Op==12) false (beq_eq_false_iff_ne.2 hc25)<|wf ?_
 have hS134:=(((hS.b 3).b 3).b 3).b 3
 obtain rfl:=si h
 exact we_skip fun a hF=>hQ _ _ _ (Outs.again ⟨(.slice Z2 m4.length cz2),hS134,hF.weaken ea⟩)
abbrev mach_heights.A1 (w0:World) (l0:List SIns) (A0:OA) (c0 b1 b2:Nat):(Nat×(List Int))→Act→World→Prop:=fun (s:Nat×(List Int)) a w=>∃ (v2:Value),St w0 w [bk b2 #[v2] 37,bk b1 #[vI 0,vI 0] 25,Own.of v2 3 s.2]∧Frm 120 a [(0,.slice A0 l0.length c0),(2,pP b1 0),(3,pP b2 0),(5,.func (.func 72) #[] #[pP b2 0]),(28,.slice A0 l0.length c0),(29,vI (l0.length:Int)),(30,vI (s.1:Int))]
abbrev mach_heights.B1 (w0:World) (l0:List SIns) (A0:OA) (c0 b1 b2:Nat):((List Int) ⊕ SFault)→Exit→Act→World→Prop:=Exits 2 (fun (s:(List Int)) a w=>∃ (v3:Value),St w0 w [bk b2 #[v3] 37,bk b1 #[vI 0,vI 0] 25,Own.of v3 3 s]∧Frm 120 a [(0,.slice A0 l0.length c0),(2,pP b1 0),(3,pP b2 0)]) (Rets Tryd.prog Tryd.f54 (mach_heights.Post w0))
theorem mach_heights_r1 (K:Nat) (w0:World) (l0:List SIns) (A0:OA) (c0:Nat) (hR0:RdL w0 A0 l0) (hL0:l0.length≤c0) (b1:Nat) (hc1:0≤(IntKind.i64.wrap ((l0.length:Int)+1))) (hc2:((IntKind.i64.wrap ((l0.length:Int)+1)).toNat)≤17592186044416) (b2:Nat) (Z1:OA) (cz1:Nat) (m3:List Int) (e2:Int) (hx4:m3[0]?=some e2) (s:Nat×(List Int)) (o:(Nat×(List Int)) ⊕ ((List Int) ⊕ SFault)) (h:mach_heights.r1 l0 s=some o) (a:Act) (w:World) (hA:mach_heights.A1 w0 l0 A0 c0 b1 b2 s a w) (Q:Exit→Act→World→Prop) (hQ:∀ x a w,Outs (mach_heights.A1 w0 l0 A0 c0 b1 b2) (mach_heights.B1 w0 l0 A0 c0 b1 b2) o x a w→Q x a w):(subF Tryd.f54 [1,1,1,1,1,0,1,0,0]).wp Tryd.prog Q a w:=by
 obtain ⟨i1,m4⟩:=s
 obtain ⟨v2,hS,hF⟩:=hA
 replace hS:St w0 w [bk b2 #[v2] 37,bk b1 #[vI 0,vI 0] 25,Own.of v2 3 m4]:=hS
 simp only [mach_heights.r1] at h
 refine (?_:WE Tryd.prog 120 (subF Tryd.f54 [1,1,1,1,1,0,1,0,0]) Q [(0,.slice A0 l0.length c0),(2,pP b1 0),(3,pP b2 0),(5,.func (.func 72) #[] #[pP b2 0]),(28,.slice A0 l0.length c0),(29,vI (l0.length:Int)),(30,vI (i1:Int))] w) a hF
 clear hF a
 refine ws fun K13 hK13=>wr [(0,0)]<|gb0 [0] [(31,.bool (decide ((i1:Int)<(l0.length:Int))))]<|gn hK13<|ws fun K14 hK14=>?_
 by_cases hc5:(i1:Int)<(l0.length:Int)
 ·rw [if_pos hc5] at h
  refine wk 31 (decide ((i1:Int)<(l0.length:Int))) true (decide_eq_true hc5)<|wt<|we_skip fun a hF=>hK14 _ _ ?_ a hF
  refine ws fun K15 hK15=>we_block<|ws fun K16 hK16=>wr [(0,0),(1,0),(2,0),(3,1),(4,0),(5,2)]<|gb0 [0] [(32,vI (i1:Int))] ?_
  rcases hx5:l0[i1]? with _ | e3
  ·rw [hx5] at h; cases h
  rw [hx5] at h
  simp only [] at h
  refine gi 33 0 22 29 3 l0.length c0 (.tmp 28) (.tmp 30) A0 .i64 (i1:Int) i1 ((hS.rd hR0).eqSome (pos_of_get hx5)) rfl (lt_of_get hx5) ?_
  refine gb [2] [(34,.agg #[vI e3.Op,vI e3.A,vI e3.B])] [.loaded ⟨blkOf A0,offOf A0+i1*3,none⟩ (vI e3.Op),.loaded ⟨blkOf A0,offOf A0+i1*3+1,none⟩ (vI e3.A),.loaded ⟨blkOf A0,offOf A0+i1*3+2,none⟩ (vI e3.B)] ⟨RdL.cell (j:=0) (hS.rd hR0) hx5 rfl,RdL.cell (j:=1) (hS.rd hR0) hx5 rfl,RdL.cell (j:=2) (hS.rd hR0) hx5 rfl,trivial⟩<|gw (some 7) (.cells #[vI 0,vI 0,vI 0] 29) (fun b=>pP b 0) hS fun b3 w8 hx6 hS25=>?_
  refine gb0 [4] [(6,vI (i1:Int))]<|gs b3 0 #[vI 0,vI 0,vI 0] 29 [vI e3.Op,vI e3.A,vI e3.B] hS25 fun w9 hS26=>?_
  have hS27:=hS26.nc #[vI e3.Op,vI e3.A,vI e3.B] rfl
  refine gn hK16<|ws fun K17 hK17=>wr [(0,0),(1,0),(2,0),(3,0),(4,0)]<|gb [0,1] [(36,vI (i1:Int)),(35,v2)] [ld b2 0 (v2)] ⟨hS27.c 1,trivial⟩ ?_
  obtain ⟨Z2,cz2,rfl⟩:=hS27.open 3 rfl
  rcases hx7:m4[i1]? with _ | e4
  ·rw [hx7] at h; cases h
  rw [hx7] at h
  simp only [] at h
  refine gi 37 0 37 3 1 m4.length cz2 (.tmp 35) (.tmp 36) Z2 .i64 (i1:Int) i1 ((hS27.rdAt 3 rfl).eqSome (pos_of_get hx7)) rfl (lt_of_get hx7) ?_
  refine gb [3,4] [(8,vI e4),(38,vI e4)] [.loaded ⟨blkOf Z2,offOf Z2+i1*1,none⟩ (vI e4)] ⟨RdL.cell (j:=0) (hS27.rdAt 3 rfl) hx7 rfl,trivial⟩<|gn hK17<|ws fun K18 hK18=>ws fun K19 hK19=>wr [(0,0),(1,0)]<|gb0 [0,1] [(40,.bool (decide (e4<0))),(39,vI e4)]<|gn hK19 ?_
  by_cases hc6:e4<0
  ·rw [if_pos hc6] at h
   refine wk 40 (decide (e4<0)) true (decide_eq_true hc6)<|wt<|ws fun K20 hK20=>wr [(0,0),(1,0),(2,2)]<|gb0 [0,1] [(42,.agg #[vI 7,vI (i1:Int)]),(41,vI (i1:Int))] ?_
   have hS28:=hS27.b 2
   refine gs b1 0 #[vI 0,vI 0] 25 [vI 7,vI (i1:Int)] hS28 fun w10 hS29=>?_
   have hS30:=hS29.nc #[vI 7,vI (i1:Int)] rfl
   refine gn hK20 ?_
   have hS31:=hS30.takeN 0
   obtain rfl:=si h
   exact we_ret fun a hF=>hQ _ _ _ (Outs.out nofun (Exits.on ⟨rfl,(pr [.cell 2 25] [.agg #[vI 7,vI (i1:Int)]] [ld b1 0 (vI 7),ld b1 1 (vI (i1:Int))] ⟨hS30.c 0,hS30.c 0,trivial⟩ ⟨rfl,hS31⟩) a hF⟩))
  rw [if_neg hc6] at h
  refine wk 40 (decide (e4<0)) false (decide_eq_false hc6)<|wf<|we_skip fun a hF=>hK18 _ _ ?_ a hF
  refine ws fun K21 hK21=>wr [(0,0),(1,0),(2,1),(3,0),(4,0),(5,0),(6,0),(7,0)]<|gb [0,1] [(45,vI e3.Op),(44,pP b3 0)] [ld b3 0 (vI e3.Op)] ⟨hS27.c 0,trivial⟩<|ge_call (d:=some 46) (f:=73) (args:=#[vI e3.Op]) (by kernel_rfl) (mach_pops_ok e3.Op _ _ rfl) ?_
  rintro _ w11 ⟨rfl,hS32⟩
  refine ⟨_,rfl,hS32.below,?_⟩
  have hS33:=hS27.call hS32
  refine gb0 [3,4,5,6,7] [(10,vI ((mach_pops.f e3.Op).2)),(9,vI ((mach_pops.f e3.Op).1)),(48,vI ((mach_pops.f e3.Op).2)),(47,vI ((mach_pops.f e3.Op).1)),(43,.tuple #[vI ((mach_pops.f e3.Op).1),vI ((mach_pops.f e3.Op).2)])]<|gn hK21<|ws fun K22 hK22=>wr [(0,0),(1,0),(2,0),(3,0),(4,0),(5,0),(6,0),(7,0),(8,0),(9,0),(10,0),(11,0)]<|gb0 [0,1,2,3] [(52,.bool (decide (e4 ≥ ((mach_pops.f e3.Op).1)))),(51,.bool (decide (e4 ≥ ((mach_pops.f e3.Op).1)))),(50,vI ((mach_pops.f e3.Op).1)),(49,vI e4)] ?_
  by_cases hc7:e4 ≥ ((mach_pops.f e3.Op).1)
  ·rw [if_pos hc7] at h
   refine gk 52 (decide (e4 ≥ ((mach_pops.f e3.Op).1))) true (decide_eq_true hc7)<|gb0 [4,5,6,7,8,9,10,11] [(11,.bool (decide ((IntKind.i64.wrap ((IntKind.i64.wrap (e4-((mach_pops.f e3.Op).1)))+((mach_pops.f e3.Op).2)))≤20))),(59,.bool (decide ((IntKind.i64.wrap ((IntKind.i64.wrap (e4-((mach_pops.f e3.Op).1)))+((mach_pops.f e3.Op).2)))≤20))),(58,.bool (decide ((IntKind.i64.wrap ((IntKind.i64.wrap (e4-((mach_pops.f e3.Op).1)))+((mach_pops.f e3.Op).2)))≤20))),(57,vI (IntKind.i64.wrap ((IntKind.i64.wrap (e4-((mach_pops.f e3.Op).1)))+((mach_pops.f e3.Op).2)))),(56,vI ((mach_pops.f e3.Op).2)),(55,vI (IntKind.i64.wrap (e4-((mach_pops.f e3.Op).1)))),(54,vI ((mach_pops.f e3.Op).1)),(53,vI e4)]<|gn hK22<|ws fun K23 hK23=>wr [(0,0),(1,0),(2,0),(3,0),(4,0),(5,0)]<|gb0 [0,1,2,3,4,5] [(8,vI (IntKind.i64.wrap (e4+(IntKind.i64.wrap (((mach_pops.f e3.Op).2)-((mach_pops.f e3.Op).1)))))),(64,vI (IntKind.i64.wrap (e4+(IntKind.i64.wrap (((mach_pops.f e3.Op).2)-((mach_pops.f e3.Op).1)))))),(63,vI (IntKind.i64.wrap (((mach_pops.f e3.Op).2)-((mach_pops.f e3.Op).1)))),(62,vI ((mach_pops.f e3.Op).1)),(61,vI ((mach_pops.f e3.Op).2)),(60,vI e4)]<|gn hK23<|ws fun K24 hK24=>?_
   rcases hq5:mach_heights.p2 m4 e3 e4 with _ | (⟨q2,m7⟩ | rr1)
   ·rw [hq5] at h; cases h
   ·rw [hq5] at h
    simp only [] at h
    refine we_keep (e':=((0,.slice A0 l0.length c0)::(2,pP b1 0)::(3,pP b2 0)::(5,.func (.func 72) #[] #[pP b2 0])::(6,vI (i1:Int))::(7,pP b3 0)::(8,vI (IntKind.i64.wrap (e4+(IntKind.i64.wrap (((mach_pops.f e3.Op).2)-((mach_pops.f e3.Op).1))))))::(9,vI ((mach_pops.f e3.Op).1))::(10,vI ((mach_pops.f e3.Op).2))::(11,.bool (decide ((IntKind.i64.wrap ((IntKind.i64.wrap (e4-((mach_pops.f e3.Op).1)))+((mach_pops.f e3.Op).2)))≤20)))::(28,.slice A0 l0.length c0)::(29,vI (l0.length:Int))::(30,vI (i1:Int))::(31,.bool true)::(32,vI (i1:Int))::(33,.pointer (some ⟨blkOf A0,offOf A0+i1*3,none⟩))::(34,.agg #[vI e3.Op,vI e3.A,vI e3.B])::(35,(.slice Z2 m4.length cz2))::(36,vI (i1:Int))::(37,.pointer (some ⟨blkOf Z2,offOf Z2+i1*1,none⟩))::(38,vI e4)::(39,vI e4)::(40,.bool false)::(43,.tuple #[vI ((mach_pops.f e3.Op).1),vI ((mach_pops.f e3.Op).2)])::(44,pP b3 0)::(45,vI e3.Op)::(46,.tuple #[vI ((mach_pops.f e3.Op).1),vI ((mach_pops.f e3.Op).2)])::(47,vI ((mach_pops.f e3.Op).1))::(48,vI ((mach_pops.f e3.Op).2))::(49,vI e4)::(50,vI ((mach_pops.f e3.Op).1))::(51,.bool (decide (e4 ≥ ((mach_pops.f e3.Op).1))))::(52,.bool true)::(53,vI e4)::(54,vI ((mach_pops.f e3.Op).1))::(55,vI (IntKind.i64.wrap (e4-((mach_pops.f e3.Op).1))))::(56,vI ((mach_pops.f e3.Op).2))::(57,vI (IntKind.i64.wrap ((IntKind.i64.wrap (e4-((mach_pops.f e3.Op).1)))+((mach_pops.f e3.Op).2))))::(58,.bool (decide ((IntKind.i64.wrap ((IntKind.i64.wrap (e4-((mach_pops.f e3.Op).1)))+((mach_pops.f e3.Op).2)))≤20)))::(59,.bool (decide ((IntKind.i64.wrap ((IntKind.i64.wrap (e4-((mach_pops.f e3.Op).1)))+((mach_pops.f e3.Op).2)))≤20)))::(60,vI e4)::(61,vI ((mach_pops.f e3.Op).2))::(62,vI ((mach_pops.f e3.Op).1))::(63,vI (IntKind.i64.wrap (((mach_pops.f e3.Op).2)-((mach_pops.f e3.Op).1))))::(64,vI (IntKind.i64.wrap (e4+(IntKind.i64.wrap (((mach_pops.f e3.Op).2)-((mach_pops.f e3.Op).1))))))::[])) ea (mach_heights_p2 K w0 l0 A0 c0 hR0 hL0 b1 hc1 hc2 b2 Z1 cz1 m3 e2 hx4 i1 m4 hc5 e3 hx5 b3 Z2 cz2 e4 hx7 hc6 hc7 _ hq5 _ hS33 _ ?_)
    rintro _ a w14 ⟨rfl,v7,hS64,hF⟩
    replace hS64:St w0 w14 [bk b3 #[vI e3.Op,vI e3.A,vI e3.B] 29,bk b2 #[v7] 37,bk b1 #[vI 0,vI 0] 25,Own.of v7 3 m7]:=hS64
    refine hK24 [(0,.slice A0 l0.length c0),(2,pP b1 0),(3,pP b2 0),(5,.func (.func 72) #[] #[pP b2 0]),(6,vI (i1:Int)),(7,pP b3 0),(8,vI (IntKind.i64.wrap (e4+(IntKind.i64.wrap (((mach_pops.f e3.Op).2)-((mach_pops.f e3.Op).1)))))),(11,.bool q2),(28,.slice A0 l0.length c0),(29,vI (l0.length:Int)),(30,vI (i1:Int))] w14 ?_ a hF
    refine ws fun K26 hK26=>ws fun K27 hK27=>wr [(0,0),(1,0),(2,0)]<|gb [0,1,2] [(83,.bool (e3.Op==14)),(82,vI e3.Op),(81,pP b3 0)] [ld b3 0 (vI e3.Op)] ⟨hS64.c 0,trivial⟩<|gn hK27 ?_
    by_cases hc12:e3.Op=14
    ·rw [if_pos hc12] at h
     refine wk 83 (e3.Op==14) true (beq_iff_eq.2 hc12)<|wt<|wr [(0,0),(1,0),(2,0),(3,0),(4,0),(5,0),(6,0),(7,0),(8,0),(9,0),(10,0)]<|gb0 [0,1] [(85,.bool q2),(84,.bool q2)] ?_
     by_cases hc13:q2=true
     ·rw [if_pos hc13] at h
      refine gk 85 q2 true hc13<|gb [2,3,4] [(88,vI e3.B),(87,pP b3 2),(86,v7)] [ld b2 0 (v7),ld b3 2 (vI e3.B)] ⟨hS64.c 1,hS64.c 0,trivial⟩ ?_
      obtain ⟨Z3,cz3,rfl⟩:=hS64.open 3 rfl
      by_cases hc14:0≤e3.B
      ·rw [if_pos hc14] at h
       rcases hx8:m7[(e3.B).toNat]? with _ | e5
       ·rw [hx8] at h; cases h
       rw [hx8] at h
       simp only [] at h
       refine gi 89 0 37 3 1 m7.length cz3 (.tmp 86) (.tmp 88) Z3 .i64 e3.B ((e3.B).toNat) ((hS64.rdAt 3 rfl).eqSome (pos_of_get hx8)) (Int.toNat_of_nonneg hc14).symm (lt_of_get hx8) ?_
       refine gb [6,7,8,9,10] [(11,.bool (e5==(IntKind.i64.wrap (e4+(IntKind.i64.wrap (((mach_pops.f e3.Op).2)-((mach_pops.f e3.Op).1))))))),(93,.bool (e5==(IntKind.i64.wrap (e4+(IntKind.i64.wrap (((mach_pops.f e3.Op).2)-((mach_pops.f e3.Op).1))))))),(92,.bool (e5==(IntKind.i64.wrap (e4+(IntKind.i64.wrap (((mach_pops.f e3.Op).2)-((mach_pops.f e3.Op).1))))))),(91,vI (IntKind.i64.wrap (e4+(IntKind.i64.wrap (((mach_pops.f e3.Op).2)-((mach_pops.f e3.Op).1)))))),(90,vI e5)] [.loaded ⟨blkOf Z3,offOf Z3+((e3.B).toNat)*1,none⟩ (vI e5)] ⟨RdL.cell (j:=0) (hS64.rdAt 3 rfl) hx8 rfl,trivial⟩<|gn hK26<|ws fun K28 hK28=>ws fun K29 hK29=>wr [(0,0),(1,0),(2,0)]<|gb [0,1,2] [(96,.bool (e3.Op != 11)),(95,vI e3.Op),(94,pP b3 0)] [ld b3 0 (vI e3.Op)] ⟨hS64.c 0,trivial⟩<|gn hK29 ?_
       by_cases hc15:e3.Op=11
       ·rw [if_pos hc15] at h
        refine wk 96 (e3.Op != 11) false (bne_eq_false_iff_eq.2 hc15)<|wf<|we_skip fun a hF=>hK28 _ _ ?_ a hF
        refine ws fun K30 hK30=>wr [(0,0),(1,0)]<|gb0 [0,1] [(106,.bool (!(e5==(IntKind.i64.wrap (e4+(IntKind.i64.wrap (((mach_pops.f e3.Op).2)-((mach_pops.f e3.Op).1)))))))),(105,.bool (e5==(IntKind.i64.wrap (e4+(IntKind.i64.wrap (((mach_pops.f e3.Op).2)-((mach_pops.f e3.Op).1)))))))]<|gn hK30 ?_
        by_cases hc16:e5=(IntKind.i64.wrap (e4+(IntKind.i64.wrap (((mach_pops.f e3.Op).2)-((mach_pops.f e3.Op).1)))))
        ·rw [if_pos hc16] at h
         refine wk 106 (!(e5==(IntKind.i64.wrap (e4+(IntKind.i64.wrap (((mach_pops.f e3.Op).2)-((mach_pops.f e3.Op).1))))))) false (congrArg (fun z=>!z) (beq_iff_eq.2 hc16))<|wf<|we_skip fun a hF=>hK15 _ _ ?_ a hF
         refine wr [(0,0),(1,0)]<|ge_addn (d:=109) (ty:=3) (x:=(.tmp 30)) (y:=(.const (vI 1))) (t:=3) (t2:=3) (k:=.i64) (m:=i1) (by kernel_rfl) (by kernel_rfl) (by kernel_rfl) (by have h0:=hR0.small; omega) ?_
         refine gb0 [1] [(30,vI ((i1+1:Nat):Int))] ?_
         have hS68:=hS64.p [1,2,3] rfl
         obtain rfl:=si h
         exact ge_nil fun a hF=>hQ _ _ _ (Outs.again ⟨(.slice Z3 m7.length cz3),hS68,hF.weaken ea⟩)
        rw [if_neg hc16] at h
        refine wk 106 (!(e5==(IntKind.i64.wrap (e4+(IntKind.i64.wrap (((mach_pops.f e3.Op).2)-((mach_pops.f e3.Op).1))))))) true (congrArg (fun z=>!z) (beq_eq_false_iff_ne.2 hc16))<|wt<|ws fun K31 hK31=>wr [(0,0),(1,0),(2,2)]<|gb0 [0,1] [(108,.agg #[vI 8,vI (i1:Int)]),(107,vI (i1:Int))] ?_
        have hS69:=hS64.b 2
        refine gs b1 0 #[vI 0,vI 0] 25 [vI 8,vI (i1:Int)] hS69 fun w15 hS70=>?_
        have hS71:=hS70.nc #[vI 8,vI (i1:Int)] rfl
        refine gn hK31 ?_
        have hS72:=hS71.takeN 0
        obtain rfl:=si h
        exact we_ret fun a hF=>hQ _ _ _ (Outs.out nofun (Exits.on ⟨rfl,(pr [.cell 2 25] [.agg #[vI 8,vI (i1:Int)]] [ld b1 0 (vI 8),ld b1 1 (vI (i1:Int))] ⟨hS71.c 0,hS71.c 0,trivial⟩ ⟨rfl,hS72⟩) a hF⟩))
       rw [if_neg hc15] at h
       refine wk 96 (e3.Op != 11) true (bne_iff_ne.2 hc15)<|wt<|wr [(0,0),(1,0),(2,0),(3,0),(4,0),(5,0),(6,2),(7,0),(8,0)]<|gb0 [0,1] [(98,.bool (e5==(IntKind.i64.wrap (e4+(IntKind.i64.wrap (((mach_pops.f e3.Op).2)-((mach_pops.f e3.Op).1))))))),(97,.bool (e5==(IntKind.i64.wrap (e4+(IntKind.i64.wrap (((mach_pops.f e3.Op).2)-((mach_pops.f e3.Op).1)))))))] ?_
       by_cases hc17:e5=(IntKind.i64.wrap (e4+(IntKind.i64.wrap (((mach_pops.f e3.Op).2)-((mach_pops.f e3.Op).1)))))
       ·rw [if_pos hc17] at h
        refine gk 98 (e5==(IntKind.i64.wrap (e4+(IntKind.i64.wrap (((mach_pops.f e3.Op).2)-((mach_pops.f e3.Op).1)))))) true (beq_iff_eq.2 hc17)<|gb0 [2,3] [(100,vI (i1:Int)),(99,.func (.func 72) #[] #[pP b2 0])]<|ge_addn (d:=101) (ty:=3) (x:=(.tmp 100)) (y:=(.const (vI 1))) (t:=3) (t2:=3) (k:=.i64) (m:=i1) (by kernel_rfl) (by kernel_rfl) (by kernel_rfl) (by have h0:=hR0.small; omega) ?_
        refine gb0 [5] [(102,vI (IntKind.i64.wrap (e4+(IntKind.i64.wrap (((mach_pops.f e3.Op).2)-((mach_pops.f e3.Op).1))))))] ?_
        rcases hq6:mach_heights_1.f ((i1+1:Nat):Int) (IntKind.i64.wrap (e4+(IntKind.i64.wrap (((mach_pops.f e3.Op).2)-((mach_pops.f e3.Op).1))))) m7 with _ | r3
        ·rw [hq6] at h; cases h
        rw [hq6] at h
        simp only [] at h
        have hS76:=((hS64.b 3).b 2).packN 2
        refine ge_call2 (m:=0) (d:=some 103) (f:=72) (args:=#[vI ((i1+1:Nat):Int),vI (IntKind.i64.wrap (e4+(IntKind.i64.wrap (((mach_pops.f e3.Op).2)-((mach_pops.f e3.Op).1))))),pP b2 0]) (by kernel_rfl) (mach_heights_1_ok ((i1+1:Nat):Int) (IntKind.i64.wrap (e4+(IntKind.i64.wrap (((mach_pops.f e3.Op).2)-((mach_pops.f e3.Op).1))))) b2 m7 Z3 cz3 _ _ _ hS76 _ hq6) ?_
        rintro _ w16 ⟨v8,rfl,hS75⟩
        refine ⟨_,rfl,?_⟩
        have hS77:=hS75.unpack [bk b2 #[v8] 37,Own.of v8 3 r3.2]
        refine gb0 [7,8] [(11,.bool r3.1),(104,.bool r3.1)]<|gn hK28<|ws fun K32 hK32=>wr [(0,0),(1,0)]<|gb0 [0,1] [(106,.bool (!r3.1)),(105,.bool r3.1)]<|gn hK32 ?_
        by_cases hc18:r3.1=true
        ·rw [if_pos hc18] at h
         refine wk 106 (!r3.1) false (congrArg (fun z=>!z) hc18)<|wf<|we_skip fun a hF=>hK15 _ _ ?_ a hF
         refine wr [(0,0),(1,0)]<|ge_addn (d:=109) (ty:=3) (x:=(.tmp 30)) (y:=(.const (vI 1))) (t:=3) (t2:=3) (k:=.i64) (m:=i1) (by kernel_rfl) (by kernel_rfl) (by kernel_rfl) (by have h0:=hR0.small; omega) ?_
         refine gb0 [1] [(30,vI ((i1+1:Nat):Int))] ?_
         have hS81:=hS77.p [0,3,1] rfl
         obtain rfl:=si h
         exact ge_nil fun a hF=>hQ _ _ _ (Outs.again ⟨v8,hS81,hF.weaken ea⟩)
        rw [if_neg hc18] at h
        refine wk 106 (!r3.1) true (congrArg (fun z=>!z) (Bool.eq_false_iff.2 hc18))<|wt<|ws fun K33 hK33=>wr [(0,0),(1,0),(2,2)]<|gb0 [0,1] [(108,.agg #[vI 8,vI (i1:Int)]),(107,vI (i1:Int))] ?_
        have hS82:=hS77.b 3
        refine gs b1 0 #[vI 0,vI 0] 25 [vI 8,vI (i1:Int)] hS82 fun w17 hS83=>?_
        have hS84:=hS83.nc #[vI 8,vI (i1:Int)] rfl
        refine gn hK33 ?_
        have hS85:=hS84.takeN 0
        obtain rfl:=si h
        exact we_ret fun a hF=>hQ _ _ _ (Outs.out nofun (Exits.on ⟨rfl,(pr [.cell 2 25] [.agg #[vI 8,vI (i1:Int)]] [ld b1 0 (vI 8),ld b1 1 (vI (i1:Int))] ⟨hS84.c 0,hS84.c 0,trivial⟩ ⟨rfl,hS85⟩) a hF⟩))
       rw [if_neg hc17] at h
       refine gk 98 (e5==(IntKind.i64.wrap (e4+(IntKind.i64.wrap (((mach_pops.f e3.Op).2)-((mach_pops.f e3.Op).1)))))) false (beq_eq_false_iff_ne.2 hc17)<|gb0 [2,3,4,5] [(102,undef),(101,undef),(100,undef),(99,undef)]<|ge_off rfl rfl rfl (by kernel_rfl) ?_
       refine gb0 [7,8] [(11,.bool false),(104,.bool false)]<|gn hK28<|ws fun K34 hK34=>wr [(0,0),(1,0)]<|gb0 [0,1] [(106,.bool true),(105,.bool false)]<|gn hK34<|wt<|ws fun K35 hK35=>wr [(0,0),(1,0),(2,2)]<|gb0 [0,1] [(108,.agg #[vI 8,vI (i1:Int)]),(107,vI (i1:Int))] ?_
       have hS86:=hS64.b 2
       refine gs b1 0 #[vI 0,vI 0] 25 [vI 8,vI (i1:Int)] hS86 fun w18 hS87=>?_
       have hS88:=hS87.nc #[vI 8,vI (i1:Int)] rfl
       refine gn hK35 ?_
       have hS89:=hS88.takeN 0
       obtain rfl:=si h
       exact we_ret fun a hF=>hQ _ _ _ (Outs.out nofun (Exits.on ⟨rfl,(pr [.cell 2 25] [.agg #[vI 8,vI (i1:Int)]] [ld b1 0 (vI 8),ld b1 1 (vI (i1:Int))] ⟨hS88.c 0,hS88.c 0,trivial⟩ ⟨rfl,hS89⟩) a hF⟩))
      rw [if_neg hc14] at h
      cases h
     rw [if_neg hc13] at h
     refine gk 85 q2 false (Bool.eq_false_iff.2 hc13)<|gb0 [2,3,4,5,6,7,8,9,10] [(11,.bool false),(93,.bool false),(92,undef),(91,undef),(90,undef),(89,undef),(88,undef),(87,undef),(86,undef)]<|gn hK26<|ws fun K36 hK36=>ws fun K37 hK37=>wr [(0,0),(1,0),(2,0)]<|gb [0,1,2] [(96,.bool (e3.Op != 11)),(95,vI e3.Op),(94,pP b3 0)] [ld b3 0 (vI e3.Op)] ⟨hS64.c 0,trivial⟩<|gn hK37 ?_
     by_cases hc19:e3.Op=11
     ·rw [if_pos hc19] at h
      refine wk 96 (e3.Op != 11) false (bne_eq_false_iff_eq.2 hc19)<|wf<|we_skip fun a hF=>hK36 _ _ ?_ a hF
      refine ws fun K38 hK38=>wr [(0,0),(1,0)]<|gb0 [0,1] [(106,.bool true),(105,.bool false)]<|gn hK38<|wt<|ws fun K39 hK39=>wr [(0,0),(1,0),(2,2)]<|gb0 [0,1] [(108,.agg #[vI 8,vI (i1:Int)]),(107,vI (i1:Int))] ?_
      have hS90:=hS64.b 2
      refine gs b1 0 #[vI 0,vI 0] 25 [vI 8,vI (i1:Int)] hS90 fun w19 hS91=>?_
      have hS92:=hS91.nc #[vI 8,vI (i1:Int)] rfl
      refine gn hK39 ?_
      have hS93:=hS92.takeN 0
      obtain rfl:=si h
      exact we_ret fun a hF=>hQ _ _ _ (Outs.out nofun (Exits.on ⟨rfl,(pr [.cell 2 25] [.agg #[vI 8,vI (i1:Int)]] [ld b1 0 (vI 8),ld b1 1 (vI (i1:Int))] ⟨hS92.c 0,hS92.c 0,trivial⟩ ⟨rfl,hS93⟩) a hF⟩))
     rw [if_neg hc19] at h
     refine wk 96 (e3.Op != 11) true (bne_iff_ne.2 hc19)<|wt<|wr [(0,0),(1,0),(2,0),(3,0),(4,0),(5,0),(6,2),(7,0),(8,0)]<|gb0 [0,1,2,3,4,5] [(102,undef),(101,undef),(100,undef),(99,undef),(98,.bool false),(97,.bool false)]<|ge_off rfl rfl rfl (by kernel_rfl) ?_
     refine gb0 [7,8] [(11,.bool false),(104,.bool false)]<|gn hK36<|ws fun K40 hK40=>wr [(0,0),(1,0)]<|gb0 [0,1] [(106,.bool true),(105,.bool false)]<|gn hK40<|wt<|ws fun K41 hK41=>wr [(0,0),(1,0),(2,2)]<|gb0 [0,1] [(108,.agg #[vI 8,vI (i1:Int)]),(107,vI (i1:Int))] ?_
     have hS94:=hS64.b 2
     refine gs b1 0 #[vI 0,vI 0] 25 [vI 8,vI (i1:Int)] hS94 fun w20 hS95=>?_
     have hS96:=hS95.nc #[vI 8,vI (i1:Int)] rfl
     refine gn hK41 ?_
     have hS97:=hS96.takeN 0
     obtain rfl:=si h
     exact we_ret fun a hF=>hQ _ _ _ (Outs.out nofun (Exits.on ⟨rfl,(pr [.cell 2 25] [.agg #[vI 8,vI (i1:Int)]] [ld b1 0 (vI 8),ld b1 1 (vI (i1:Int))] ⟨hS96.c 0,hS96.c 0,trivial⟩ ⟨rfl,hS97⟩) a hF⟩))
    rw [if_neg hc12] at h
    refine wk 83 (e3.Op==14) false (beq_eq_false_iff_ne.2 hc12)<|wf<|we_skip fun a hF=>hK26 _ _ ?_ a hF
    refine ws fun K42 hK42=>ws fun K43 hK43=>wr [(0,0),(1,0),(2,0)]<|gb [0,1,2] [(96,.bool (e3.Op != 11)),(95,vI e3.Op),(94,pP b3 0)] [ld b3 0 (vI e3.Op)] ⟨hS64.c 0,trivial⟩<|gn hK43 ?_
    by_cases hc20:e3.Op=11
    ·rw [if_pos hc20] at h
     refine wk 96 (e3.Op != 11) false (bne_eq_false_iff_eq.2 hc20)<|wf<|we_skip fun a hF=>hK42 _ _ ?_ a hF
     refine ws fun K44 hK44=>wr [(0,0),(1,0)]<|gb0 [0,1] [(106,.bool (!q2)),(105,.bool q2)]<|gn hK44 ?_
     by_cases hc21:q2=true
     ·rw [if_pos hc21] at h
      refine wk 106 (!q2) false (congrArg (fun z=>!z) hc21)<|wf<|we_skip fun a hF=>hK15 _ _ ?_ a hF
      refine wr [(0,0),(1,0)]<|ge_addn (d:=109) (ty:=3) (x:=(.tmp 30)) (y:=(.const (vI 1))) (t:=3) (t2:=3) (k:=.i64) (m:=i1) (by kernel_rfl) (by kernel_rfl) (by kernel_rfl) (by have h0:=hR0.small; omega) ?_
      refine gb0 [1] [(30,vI ((i1+1:Nat):Int))] ?_
      have hS101:=hS64.p [1,2,3] rfl
      obtain rfl:=si h
      exact ge_nil fun a hF=>hQ _ _ _ (Outs.again ⟨v7,hS101,hF.weaken ea⟩)
     rw [if_neg hc21] at h
     refine wk 106 (!q2) true (congrArg (fun z=>!z) (Bool.eq_false_iff.2 hc21))<|wt<|ws fun K45 hK45=>wr [(0,0),(1,0),(2,2)]<|gb0 [0,1] [(108,.agg #[vI 8,vI (i1:Int)]),(107,vI (i1:Int))] ?_
     have hS102:=hS64.b 2
     refine gs b1 0 #[vI 0,vI 0] 25 [vI 8,vI (i1:Int)] hS102 fun w21 hS103=>?_
     have hS104:=hS103.nc #[vI 8,vI (i1:Int)] rfl
     refine gn hK45 ?_
     have hS105:=hS104.takeN 0
     obtain rfl:=si h
     exact we_ret fun a hF=>hQ _ _ _ (Outs.out nofun (Exits.on ⟨rfl,(pr [.cell 2 25] [.agg #[vI 8,vI (i1:Int)]] [ld b1 0 (vI 8),ld b1 1 (vI (i1:Int))] ⟨hS104.c 0,hS104.c 0,trivial⟩ ⟨rfl,hS105⟩) a hF⟩))
    rw [if_neg hc20] at h
    refine wk 96 (e3.Op != 11) true (bne_iff_ne.2 hc20)<|wt<|wr [(0,0),(1,0),(2,0),(3,0),(4,0),(5,0),(6,2),(7,0),(8,0)]<|gb0 [0,1] [(98,.bool q2),(97,.bool q2)] ?_
    by_cases hc22:q2=true
    ·rw [if_pos hc22] at h
     refine gk 98 q2 true hc22<|gb0 [2,3] [(100,vI (i1:Int)),(99,.func (.func 72) #[] #[pP b2 0])]<|ge_addn (d:=101) (ty:=3) (x:=(.tmp 100)) (y:=(.const (vI 1))) (t:=3) (t2:=3) (k:=.i64) (m:=i1) (by kernel_rfl) (by kernel_rfl) (by kernel_rfl) (by have h0:=hR0.small; omega) ?_
     refine gb0 [5] [(102,vI (IntKind.i64.wrap (e4+(IntKind.i64.wrap (((mach_pops.f e3.Op).2)-((mach_pops.f e3.Op).1))))))] ?_
     obtain ⟨Z4,cz4,rfl⟩:=hS64.open 3 rfl
     rcases hq7:mach_heights_1.f ((i1+1:Nat):Int) (IntKind.i64.wrap (e4+(IntKind.i64.wrap (((mach_pops.f e3.Op).2)-((mach_pops.f e3.Op).1))))) m7 with _ | r4
     ·rw [hq7] at h; cases h
     rw [hq7] at h
     simp only [] at h
     have hS109:=((hS64.b 3).b 2).packN 2
     refine ge_call2 (m:=0) (d:=some 103) (f:=72) (args:=#[vI ((i1+1:Nat):Int),vI (IntKind.i64.wrap (e4+(IntKind.i64.wrap (((mach_pops.f e3.Op).2)-((mach_pops.f e3.Op).1))))),pP b2 0]) (by kernel_rfl) (mach_heights_1_ok ((i1+1:Nat):Int) (IntKind.i64.wrap (e4+(IntKind.i64.wrap (((mach_pops.f e3.Op).2)-((mach_pops.f e3.Op).1))))) b2 m7 Z4 cz4 _ _ _ hS109 _ hq7) ?_
     rintro _ w22 ⟨v9,rfl,hS108⟩
     refine ⟨_,rfl,?_⟩
     have hS110:=hS108.unpack [bk b2 #[v9] 37,Own.of v9 3 r4.2]
     refine gb0 [7,8] [(11,.bool r4.1),(104,.bool r4.1)]<|gn hK42<|ws fun K46 hK46=>wr [(0,0),(1,0)]<|gb0 [0,1] [(106,.bool (!r4.1)),(105,.bool r4.1)]<|gn hK46 ?_
     by_cases hc23:r4.1=true
     ·rw [if_pos hc23] at h
      refine wk 106 (!r4.1) false (congrArg (fun z=>!z) hc23)<|wf<|we_skip fun a hF=>hK15 _ _ ?_ a hF
      refine wr [(0,0),(1,0)]<|ge_addn (d:=109) (ty:=3) (x:=(.tmp 30)) (y:=(.const (vI 1))) (t:=3) (t2:=3) (k:=.i64) (m:=i1) (by kernel_rfl) (by kernel_rfl) (by kernel_rfl) (by have h0:=hR0.small; omega) ?_
      refine gb0 [1] [(30,vI ((i1+1:Nat):Int))] ?_
      have hS114:=hS110.p [0,3,1] rfl
      obtain rfl:=si h
      exact ge_nil fun a hF=>hQ _ _ _ (Outs.again ⟨v9,hS114,hF.weaken ea⟩)
     rw [if_neg hc23] at h
     refine wk 106 (!r4.1) true (congrArg (fun z=>!z) (Bool.eq_false_iff.2 hc23))<|wt<|ws fun K47 hK47=>wr [(0,0),(1,0),(2,2)]<|gb0 [0,1] [(108,.agg #[vI 8,vI (i1:Int)]),(107,vI (i1:Int))] ?_
     have hS115:=hS110.b 3
     refine gs b1 0 #[vI 0,vI 0] 25 [vI 8,vI (i1:Int)] hS115 fun w23 hS116=>?_
     have hS117:=hS116.nc #[vI 8,vI (i1:Int)] rfl
     refine gn hK47 ?_
     have hS118:=hS117.takeN 0
     obtain rfl:=si h
     exact we_ret fun a hF=>hQ _ _ _ (Outs.out nofun (Exits.on ⟨rfl,(pr [.cell 2 25] [.agg #[vI 8,vI (i1:Int)]] [ld b1 0 (vI 8),ld b1 1 (vI (i1:Int))] ⟨hS117.c 0,hS117.c 0,trivial⟩ ⟨rfl,hS118⟩) a hF⟩))
    rw [if_neg hc22] at h
    refine gk 98 q2 false (Bool.eq_false_iff.2 hc22)<|gb0 [2,3,4,5] [(102,undef),(101,undef),(100,undef),(99,undef)]<|ge_off rfl rfl rfl (by kernel_rfl) ?_
    refine gb0 [7,8] [(11,.bool false),(104,.bool false)]<|gn hK42<|ws fun K48 hK48=>wr [(0,0),(1,0)]<|gb0 [0,1] [(106,.bool true),(105,.bool false)]<|gn hK48<|wt<|ws fun K49 hK49=>wr [(0,0),(1,0),(2,2)]<|gb0 [0,1] [(108,.agg #[vI 8,vI (i1:Int)]),(107,vI (i1:Int))] ?_
    have hS119:=hS64.b 2
    refine gs b1 0 #[vI 0,vI 0] 25 [vI 8,vI (i1:Int)] hS119 fun w24 hS120=>?_
    have hS121:=hS120.nc #[vI 8,vI (i1:Int)] rfl
    refine gn hK49 ?_
    have hS122:=hS121.takeN 0
    obtain rfl:=si h
    exact we_ret fun a hF=>hQ _ _ _ (Outs.out nofun (Exits.on ⟨rfl,(pr [.cell 2 25] [.agg #[vI 8,vI (i1:Int)]] [ld b1 0 (vI 8),ld b1 1 (vI (i1:Int))] ⟨hS121.c 0,hS121.c 0,trivial⟩ ⟨rfl,hS122⟩) a hF⟩))
   rw [hq5] at h
   simp only [] at h
   refine we_keep (e':=((0,.slice A0 l0.length c0)::(2,pP b1 0)::(3,pP b2 0)::(5,.func (.func 72) #[] #[pP b2 0])::(6,vI (i1:Int))::(7,pP b3 0)::(8,vI (IntKind.i64.wrap (e4+(IntKind.i64.wrap (((mach_pops.f e3.Op).2)-((mach_pops.f e3.Op).1))))))::(9,vI ((mach_pops.f e3.Op).1))::(10,vI ((mach_pops.f e3.Op).2))::(11,.bool (decide ((IntKind.i64.wrap ((IntKind.i64.wrap (e4-((mach_pops.f e3.Op).1)))+((mach_pops.f e3.Op).2)))≤20)))::(28,.slice A0 l0.length c0)::(29,vI (l0.length:Int))::(30,vI (i1:Int))::(31,.bool true)::(32,vI (i1:Int))::(33,.pointer (some ⟨blkOf A0,offOf A0+i1*3,none⟩))::(34,.agg #[vI e3.Op,vI e3.A,vI e3.B])::(35,(.slice Z2 m4.length cz2))::(36,vI (i1:Int))::(37,.pointer (some ⟨blkOf Z2,offOf Z2+i1*1,none⟩))::(38,vI e4)::(39,vI e4)::(40,.bool false)::(43,.tuple #[vI ((mach_pops.f e3.Op).1),vI ((mach_pops.f e3.Op).2)])::(44,pP b3 0)::(45,vI e3.Op)::(46,.tuple #[vI ((mach_pops.f e3.Op).1),vI ((mach_pops.f e3.Op).2)])::(47,vI ((mach_pops.f e3.Op).1))::(48,vI ((mach_pops.f e3.Op).2))::(49,vI e4)::(50,vI ((mach_pops.f e3.Op).1))::(51,.bool (decide (e4 ≥ ((mach_pops.f e3.Op).1))))::(52,.bool true)::(53,vI e4)::(54,vI ((mach_pops.f e3.Op).1))::(55,vI (IntKind.i64.wrap (e4-((mach_pops.f e3.Op).1))))::(56,vI ((mach_pops.f e3.Op).2))::(57,vI (IntKind.i64.wrap ((IntKind.i64.wrap (e4-((mach_pops.f e3.Op).1)))+((mach_pops.f e3.Op).2))))::(58,.bool (decide ((IntKind.i64.wrap ((IntKind.i64.wrap (e4-((mach_pops.f e3.Op).1)))+((mach_pops.f e3.Op).2)))≤20)))::(59,.bool (decide ((IntKind.i64.wrap ((IntKind.i64.wrap (e4-((mach_pops.f e3.Op).1)))+((mach_pops.f e3.Op).2)))≤20)))::(60,vI e4)::(61,vI ((mach_pops.f e3.Op).2))::(62,vI ((mach_pops.f e3.Op).1))::(63,vI (IntKind.i64.wrap (((mach_pops.f e3.Op).2)-((mach_pops.f e3.Op).1))))::(64,vI (IntKind.i64.wrap (e4+(IntKind.i64.wrap (((mach_pops.f e3.Op).2)-((mach_pops.f e3.Op).1))))))::[])) ea (mach_heights_p2 K w0 l0 A0 c0 hR0 hL0 b1 hc1 hc2 b2 Z1 cz1 m3 e2 hx4 i1 m4 hc5 e3 hx5 b3 Z2 cz2 e4 hx7 hc6 hc7 _ hq5 _ hS33 _ ?_)
   rintro _ a w1 ⟨_,rfl,hb⟩
   obtain rfl:=si h
   exact hQ _ _ _ (Outs.out nofun (Exits.on ⟨rfl,hb⟩))
  rw [if_neg hc7] at h
  refine gk 52 (decide (e4 ≥ ((mach_pops.f e3.Op).1))) false (decide_eq_false hc7)<|gb0 [4,5,6,7,8,9,10,11] [(11,.bool false),(59,.bool false),(58,undef),(57,undef),(56,undef),(55,undef),(54,undef),(53,undef)]<|gn hK22<|ws fun K50 hK50=>wr [(0,0),(1,0),(2,0),(3,0),(4,0),(5,0)]<|gb0 [0,1,2,3,4,5] [(8,vI (IntKind.i64.wrap (e4+(IntKind.i64.wrap (((mach_pops.f e3.Op).2)-((mach_pops.f e3.Op).1)))))),(64,vI (IntKind.i64.wrap (e4+(IntKind.i64.wrap (((mach_pops.f e3.Op).2)-((mach_pops.f e3.Op).1)))))),(63,vI (IntKind.i64.wrap (((mach_pops.f e3.Op).2)-((mach_pops.f e3.Op).1)))),(62,vI ((mach_pops.f e3.Op).1)),(61,vI ((mach_pops.f e3.Op).2)),(60,vI e4)]<|gn hK50<|ws fun K51 hK51=>?_
  rcases hq8:mach_heights.p3 m4 e3 with _ | (⟨q4,m9⟩ | rr2)
  ·rw [hq8] at h; cases h
  ·rw [hq8] at h
   simp only [] at h
   refine we_keep (e':=((0,.slice A0 l0.length c0)::(2,pP b1 0)::(3,pP b2 0)::(5,.func (.func 72) #[] #[pP b2 0])::(6,vI (i1:Int))::(7,pP b3 0)::(8,vI (IntKind.i64.wrap (e4+(IntKind.i64.wrap (((mach_pops.f e3.Op).2)-((mach_pops.f e3.Op).1))))))::(9,vI ((mach_pops.f e3.Op).1))::(10,vI ((mach_pops.f e3.Op).2))::(11,.bool false)::(28,.slice A0 l0.length c0)::(29,vI (l0.length:Int))::(30,vI (i1:Int))::(31,.bool true)::(32,vI (i1:Int))::(33,.pointer (some ⟨blkOf A0,offOf A0+i1*3,none⟩))::(34,.agg #[vI e3.Op,vI e3.A,vI e3.B])::(35,(.slice Z2 m4.length cz2))::(36,vI (i1:Int))::(37,.pointer (some ⟨blkOf Z2,offOf Z2+i1*1,none⟩))::(38,vI e4)::(39,vI e4)::(40,.bool false)::(43,.tuple #[vI ((mach_pops.f e3.Op).1),vI ((mach_pops.f e3.Op).2)])::(44,pP b3 0)::(45,vI e3.Op)::(46,.tuple #[vI ((mach_pops.f e3.Op).1),vI ((mach_pops.f e3.Op).2)])::(47,vI ((mach_pops.f e3.Op).1))::(48,vI ((mach_pops.f e3.Op).2))::(49,vI e4)::(50,vI ((mach_pops.f e3.Op).1))::(51,.bool (decide (e4 ≥ ((mach_pops.f e3.Op).1))))::(52,.bool false)::(53,undef)::(54,undef)::(55,undef)::(56,undef)::(57,undef)::(58,undef)::(59,.bool false)::(60,vI e4)::(61,vI ((mach_pops.f e3.Op).2))::(62,vI ((mach_pops.f e3.Op).1))::(63,vI (IntKind.i64.wrap (((mach_pops.f e3.Op).2)-((mach_pops.f e3.Op).1))))::(64,vI (IntKind.i64.wrap (e4+(IntKind.i64.wrap (((mach_pops.f e3.Op).2)-((mach_pops.f e3.Op).1))))))::[])) ea (mach_heights_p3 K w0 l0 A0 c0 hR0 hL0 b1 hc1 hc2 b2 Z1 cz1 m3 e2 hx4 i1 m4 hc5 e3 hx5 b3 Z2 cz2 e4 hx7 hc6 hc7 _ hq8 _ hS33 _ ?_)
   rintro _ a w25 ⟨rfl,v11,hS135,hF⟩
   replace hS135:St w0 w25 [bk b3 #[vI e3.Op,vI e3.A,vI e3.B] 29,bk b2 #[v11] 37,bk b1 #[vI 0,vI 0] 25,Own.of v11 3 m9]:=hS135
   refine hK51 [(0,.slice A0 l0.length c0),(2,pP b1 0),(3,pP b2 0),(5,.func (.func 72) #[] #[pP b2 0]),(6,vI (i1:Int)),(7,pP b3 0),(8,vI (IntKind.i64.wrap (e4+(IntKind.i64.wrap (((mach_pops.f e3.Op).2)-((mach_pops.f e3.Op).1)))))),(11,.bool q4),(28,.slice A0 l0.length c0),(29,vI (l0.length:Int)),(30,vI (i1:Int))] w25 ?_ a hF
   refine ws fun K53 hK53=>ws fun K54 hK54=>wr [(0,0),(1,0),(2,0)]<|gb [0,1,2] [(83,.bool (e3.Op==14)),(82,vI e3.Op),(81,pP b3 0)] [ld b3 0 (vI e3.Op)] ⟨hS135.c 0,trivial⟩<|gn hK54 ?_
   by_cases hc26:e3.Op=14
   ·rw [if_pos hc26] at h
    refine wk 83 (e3.Op==14) true (beq_iff_eq.2 hc26)<|wt<|wr [(0,0),(1,0),(2,0),(3,0),(4,0),(5,0),(6,0),(7,0),(8,0),(9,0),(10,0)]<|gb0 [0,1] [(85,.bool q4),(84,.bool q4)] ?_
    by_cases hc27:q4=true
    ·rw [if_pos hc27] at h
     refine gk 85 q4 true hc27<|gb [2,3,4] [(88,vI e3.B),(87,pP b3 2),(86,v11)] [ld b2 0 (v11),ld b3 2 (vI e3.B)] ⟨hS135.c 1,hS135.c 0,trivial⟩ ?_
     obtain ⟨Z5,cz5,rfl⟩:=hS135.open 3 rfl
     by_cases hc28:0≤e3.B
     ·rw [if_pos hc28] at h
      rcases hx9:m9[(e3.B).toNat]? with _ | e6
      ·rw [hx9] at h; cases h
      rw [hx9] at h
      simp only [] at h
      refine gi 89 0 37 3 1 m9.length cz5 (.tmp 86) (.tmp 88) Z5 .i64 e3.B ((e3.B).toNat) ((hS135.rdAt 3 rfl).eqSome (pos_of_get hx9)) (Int.toNat_of_nonneg hc28).symm (lt_of_get hx9) ?_
      refine gb [6,7,8,9,10] [(11,.bool (e6==(IntKind.i64.wrap (e4+(IntKind.i64.wrap (((mach_pops.f e3.Op).2)-((mach_pops.f e3.Op).1))))))),(93,.bool (e6==(IntKind.i64.wrap (e4+(IntKind.i64.wrap (((mach_pops.f e3.Op).2)-((mach_pops.f e3.Op).1))))))),(92,.bool (e6==(IntKind.i64.wrap (e4+(IntKind.i64.wrap (((mach_pops.f e3.Op).2)-((mach_pops.f e3.Op).1))))))),(91,vI (IntKind.i64.wrap (e4+(IntKind.i64.wrap (((mach_pops.f e3.Op).2)-((mach_pops.f e3.Op).1)))))),(90,vI e6)] [.loaded ⟨blkOf Z5,offOf Z5+((e3.B).toNat)*1,none⟩ (vI e6)] ⟨RdL.cell (j:=0) (hS135.rdAt 3 rfl) hx9 rfl,trivial⟩<|gn hK53<|ws fun K55 hK55=>ws fun K56 hK56=>wr [(0,0),(1,0),(2,0)]<|gb [0,1,2] [(96,.bool (e3.Op != 11)),(95,vI e3.Op),(94,pP b3 0)] [ld b3 0 (vI e3.Op)] ⟨hS135.c 0,trivial⟩<|gn hK56 ?_
      by_cases hc29:e3.Op=11
      ·rw [if_pos hc29] at h
       refine wk 96 (e3.Op != 11) false (bne_eq_false_iff_eq.2 hc29)<|wf<|we_skip fun a hF=>hK55 _ _ ?_ a hF
       refine ws fun K57 hK57=>wr [(0,0),(1,0)]<|gb0 [0,1] [(106,.bool (!(e6==(IntKind.i64.wrap (e4+(IntKind.i64.wrap (((mach_pops.f e3.Op).2)-((mach_pops.f e3.Op).1)))))))),(105,.bool (e6==(IntKind.i64.wrap (e4+(IntKind.i64.wrap (((mach_pops.f e3.Op).2)-((mach_pops.f e3.Op).1)))))))]<|gn hK57 ?_
       by_cases hc30:e6=(IntKind.i64.wrap (e4+(IntKind.i64.wrap (((mach_pops.f e3.Op).2)-((mach_pops.f e3.Op).1)))))
       ·rw [if_pos hc30] at h
        refine wk 106 (!(e6==(IntKind.i64.wrap (e4+(IntKind.i64.wrap (((mach_pops.f e3.Op).2)-((mach_pops.f e3.Op).1))))))) false (congrArg (fun z=>!z) (beq_iff_eq.2 hc30))<|wf<|we_skip fun a hF=>hK15 _ _ ?_ a hF
        refine wr [(0,0),(1,0)]<|ge_addn (d:=109) (ty:=3) (x:=(.tmp 30)) (y:=(.const (vI 1))) (t:=3) (t2:=3) (k:=.i64) (m:=i1) (by kernel_rfl) (by kernel_rfl) (by kernel_rfl) (by have h0:=hR0.small; omega) ?_
        refine gb0 [1] [(30,vI ((i1+1:Nat):Int))] ?_
        have hS139:=hS135.p [1,2,3] rfl
        obtain rfl:=si h
        exact ge_nil fun a hF=>hQ _ _ _ (Outs.again ⟨(.slice Z5 m9.length cz5),hS139,hF.weaken ea⟩)
       rw [if_neg hc30] at h
       refine wk 106 (!(e6==(IntKind.i64.wrap (e4+(IntKind.i64.wrap (((mach_pops.f e3.Op).2)-((mach_pops.f e3.Op).1))))))) true (congrArg (fun z=>!z) (beq_eq_false_iff_ne.2 hc30))<|wt<|ws fun K58 hK58=>wr [(0,0),(1,0),(2,2)]<|gb0 [0,1] [(108,.agg #[vI 8,vI (i1:Int)]),(107,vI (i1:Int))] ?_
       have hS140:=hS135.b 2
       refine gs b1 0 #[vI 0,vI 0] 25 [vI 8,vI (i1:Int)] hS140 fun w26 hS141=>?_
       have hS142:=hS141.nc #[vI 8,vI (i1:Int)] rfl
       refine gn hK58 ?_
       have hS143:=hS142.takeN 0
       obtain rfl:=si h
       exact we_ret fun a hF=>hQ _ _ _ (Outs.out nofun (Exits.on ⟨rfl,(pr [.cell 2 25] [.agg #[vI 8,vI (i1:Int)]] [ld b1 0 (vI 8),ld b1 1 (vI (i1:Int))] ⟨hS142.c 0,hS142.c 0,trivial⟩ ⟨rfl,hS143⟩) a hF⟩))
      rw [if_neg hc29] at h
      refine wk 96 (e3.Op != 11) true (bne_iff_ne.2 hc29)<|wt<|wr [(0,0),(1,0),(2,0),(3,0),(4,0),(5,0),(6,2),(7,0),(8,0)]<|gb0 [0,1] [(98,.bool (e6==(IntKind.i64.wrap (e4+(IntKind.i64.wrap (((mach_pops.f e3.Op).2)-((mach_pops.f e3.Op).1))))))),(97,.bool (e6==(IntKind.i64.wrap (e4+(IntKind.i64.wrap (((mach_pops.f e3.Op).2)-((mach_pops.f e3.Op).1)))))))] ?_
      by_cases hc31:e6=(IntKind.i64.wrap (e4+(IntKind.i64.wrap (((mach_pops.f e3.Op).2)-((mach_pops.f e3.Op).1)))))
      ·rw [if_pos hc31] at h
       refine gk 98 (e6==(IntKind.i64.wrap (e4+(IntKind.i64.wrap (((mach_pops.f e3.Op).2)-((mach_pops.f e3.Op).1)))))) true (beq_iff_eq.2 hc31)<|gb0 [2,3] [(100,vI (i1:Int)),(99,.func (.func 72) #[] #[pP b2 0])]<|ge_addn (d:=101) (ty:=3) (x:=(.tmp 100)) (y:=(.const (vI 1))) (t:=3) (t2:=3) (k:=.i64) (m:=i1) (by kernel_rfl) (by kernel_rfl) (by kernel_rfl) (by have h0:=hR0.small; omega) ?_
       refine gb0 [5] [(102,vI (IntKind.i64.wrap (e4+(IntKind.i64.wrap (((mach_pops.f e3.Op).2)-((mach_pops.f e3.Op).1))))))] ?_
       rcases hq9:mach_heights_1.f ((i1+1:Nat):Int) (IntKind.i64.wrap (e4+(IntKind.i64.wrap (((mach_pops.f e3.Op).2)-((mach_pops.f e3.Op).1))))) m9 with _ | r5
       ·rw [hq9] at h; cases h
       rw [hq9] at h
       simp only [] at h
       have hS147:=((hS135.b 3).b 2).packN 2
       refine ge_call2 (m:=0) (d:=some 103) (f:=72) (args:=#[vI ((i1+1:Nat):Int),vI (IntKind.i64.wrap (e4+(IntKind.i64.wrap (((mach_pops.f e3.Op).2)-((mach_pops.f e3.Op).1))))),pP b2 0]) (by kernel_rfl) (mach_heights_1_ok ((i1+1:Nat):Int) (IntKind.i64.wrap (e4+(IntKind.i64.wrap (((mach_pops.f e3.Op).2)-((mach_pops.f e3.Op).1))))) b2 m9 Z5 cz5 _ _ _ hS147 _ hq9) ?_
       rintro _ w27 ⟨v12,rfl,hS146⟩
       refine ⟨_,rfl,?_⟩
       have hS148:=hS146.unpack [bk b2 #[v12] 37,Own.of v12 3 r5.2]
       refine gb0 [7,8] [(11,.bool r5.1),(104,.bool r5.1)]<|gn hK55<|ws fun K59 hK59=>wr [(0,0),(1,0)]<|gb0 [0,1] [(106,.bool (!r5.1)),(105,.bool r5.1)]<|gn hK59 ?_
       by_cases hc32:r5.1=true
       ·rw [if_pos hc32] at h
        refine wk 106 (!r5.1) false (congrArg (fun z=>!z) hc32)<|wf<|we_skip fun a hF=>hK15 _ _ ?_ a hF
        refine wr [(0,0),(1,0)]<|ge_addn (d:=109) (ty:=3) (x:=(.tmp 30)) (y:=(.const (vI 1))) (t:=3) (t2:=3) (k:=.i64) (m:=i1) (by kernel_rfl) (by kernel_rfl) (by kernel_rfl) (by have h0:=hR0.small; omega) ?_
        refine gb0 [1] [(30,vI ((i1+1:Nat):Int))] ?_
        have hS152:=hS148.p [0,3,1] rfl
        obtain rfl:=si h
        exact ge_nil fun a hF=>hQ _ _ _ (Outs.again ⟨v12,hS152,hF.weaken ea⟩)
       rw [if_neg hc32] at h
       refine wk 106 (!r5.1) true (congrArg (fun z=>!z) (Bool.eq_false_iff.2 hc32))<|wt<|ws fun K60 hK60=>wr [(0,0),(1,0),(2,2)]<|gb0 [0,1] [(108,.agg #[vI 8,vI (i1:Int)]),(107,vI (i1:Int))] ?_
       have hS153:=hS148.b 3
       refine gs b1 0 #[vI 0,vI 0] 25 [vI 8,vI (i1:Int)] hS153 fun w28 hS154=>?_
       have hS155:=hS154.nc #[vI 8,vI (i1:Int)] rfl
       refine gn hK60 ?_
       have hS156:=hS155.takeN 0
       obtain rfl:=si h
       exact we_ret fun a hF=>hQ _ _ _ (Outs.out nofun (Exits.on ⟨rfl,(pr [.cell 2 25] [.agg #[vI 8,vI (i1:Int)]] [ld b1 0 (vI 8),ld b1 1 (vI (i1:Int))] ⟨hS155.c 0,hS155.c 0,trivial⟩ ⟨rfl,hS156⟩) a hF⟩))
      rw [if_neg hc31] at h
      refine gk 98 (e6==(IntKind.i64.wrap (e4+(IntKind.i64.wrap (((mach_pops.f e3.Op).2)-((mach_pops.f e3.Op).1)))))) false (beq_eq_false_iff_ne.2 hc31)<|gb0 [2,3,4,5] [(102,undef),(101,undef),(100,undef),(99,undef)]<|ge_off rfl rfl rfl (by kernel_rfl) ?_
      refine gb0 [7,8] [(11,.bool false),(104,.bool false)]<|gn hK55<|ws fun K61 hK61=>wr [(0,0),(1,0)]<|gb0 [0,1] [(106,.bool true),(105,.bool false)]<|gn hK61<|wt<|ws fun K62 hK62=>wr [(0,0),(1,0),(2,2)]<|gb0 [0,1] [(108,.agg #[vI 8,vI (i1:Int)]),(107,vI (i1:Int))] ?_
      have hS157:=hS135.b 2
      refine gs b1 0 #[vI 0,vI 0] 25 [vI 8,vI (i1:Int)] hS157 fun w29 hS158=>?_
      have hS159:=hS158.nc #[vI 8,vI (i1:Int)] rfl
      refine gn hK62 ?_
      have hS160:=hS159.takeN 0
      obtain rfl:=si h
      exact we_ret fun a hF=>hQ _ _ _ (Outs.out nofun (Exits.on ⟨rfl,(pr [.cell 2 25] [.agg #[vI 8,vI (i1:Int)]] [ld b1 0 (vI 8),ld b1 1 (vI (i1:Int))] ⟨hS159.c 0,hS159.c 0,trivial⟩ ⟨rfl,hS160⟩) a hF⟩))
     rw [if_neg hc28] at h
     cases h
    rw [if_neg hc27] at h
    refine gk 85 q4 false (Bool.eq_false_iff.2 hc27)<|gb0 [2,3,4,5,6,7,8,9,10] [(11,.bool false),(93,.bool false),(92,undef),(91,undef),(90,undef),(89,undef),(88,undef),(87,undef),(86,undef)]<|gn hK53<|ws fun K63 hK63=>ws fun K64 hK64=>wr [(0,0),(1,0),(2,0)]<|gb [0,1,2] [(96,.bool (e3.Op != 11)),(95,vI e3.Op),(94,pP b3 0)] [ld b3 0 (vI e3.Op)] ⟨hS135.c 0,trivial⟩<|gn hK64 ?_
    by_cases hc33:e3.Op=11
    ·rw [if_pos hc33] at h
     refine wk 96 (e3.Op != 11) false (bne_eq_false_iff_eq.2 hc33)<|wf<|we_skip fun a hF=>hK63 _ _ ?_ a hF
     refine ws fun K65 hK65=>wr [(0,0),(1,0)]<|gb0 [0,1] [(106,.bool true),(105,.bool false)]<|gn hK65<|wt<|ws fun K66 hK66=>wr [(0,0),(1,0),(2,2)]<|gb0 [0,1] [(108,.agg #[vI 8,vI (i1:Int)]),(107,vI (i1:Int))] ?_
     have hS161:=hS135.b 2
     refine gs b1 0 #[vI 0,vI 0] 25 [vI 8,vI (i1:Int)] hS161 fun w30 hS162=>?_
     have hS163:=hS162.nc #[vI 8,vI (i1:Int)] rfl
     refine gn hK66 ?_
     have hS164:=hS163.takeN 0
     obtain rfl:=si h
     exact we_ret fun a hF=>hQ _ _ _ (Outs.out nofun (Exits.on ⟨rfl,(pr [.cell 2 25] [.agg #[vI 8,vI (i1:Int)]] [ld b1 0 (vI 8),ld b1 1 (vI (i1:Int))] ⟨hS163.c 0,hS163.c 0,trivial⟩ ⟨rfl,hS164⟩) a hF⟩))
    rw [if_neg hc33] at h
    refine wk 96 (e3.Op != 11) true (bne_iff_ne.2 hc33)<|wt<|wr [(0,0),(1,0),(2,0),(3,0),(4,0),(5,0),(6,2),(7,0),(8,0)]<|gb0 [0,1,2,3,4,5] [(102,undef),(101,undef),(100,undef),(99,undef),(98,.bool false),(97,.bool false)]<|ge_off rfl rfl rfl (by kernel_rfl) ?_
    refine gb0 [7,8] [(11,.bool false),(104,.bool false)]<|gn hK63<|ws fun K67 hK67=>wr [(0,0),(1,0)]<|gb0 [0,1] [(106,.bool true),(105,.bool false)]<|gn hK67<|wt<|ws fun K68 hK68=>wr [(0,0),(1,0),(2,2)]<|gb0 [0,1] [(108,.agg #[vI 8,vI (i1:Int)]),(107,vI (i1:Int))] ?_
    have hS165:=hS135.b 2
    refine gs b1 0 #[vI 0,vI 0] 25 [vI 8,vI (i1:Int)] hS165 fun w31 hS166=>?_
    have hS167:=hS166.nc #[vI 8,vI (i1:Int)] rfl
    refine gn hK68 ?_
    have hS168:=hS167.takeN 0
    obtain rfl:=si h
    exact we_ret fun a hF=>hQ _ _ _ (Outs.out nofun (Exits.on ⟨rfl,(pr [.cell 2 25] [.agg #[vI 8,vI (i1:Int)]] [ld b1 0 (vI 8),ld b1 1 (vI (i1:Int))] ⟨hS167.c 0,hS167.c 0,trivial⟩ ⟨rfl,hS168⟩) a hF⟩))
   rw [if_neg hc26] at h
   refine wk 83 (e3.Op==14) false (beq_eq_false_iff_ne.2 hc26)<|wf<|we_skip fun a hF=>hK53 _ _ ?_ a hF
   refine ws fun K69 hK69=>ws fun K70 hK70=>wr [(0,0),(1,0),(2,0)]<|gb [0,1,2] [(96,.bool (e3.Op != 11)),(95,vI e3.Op),(94,pP b3 0)] [ld b3 0 (vI e3.Op)] ⟨hS135.c 0,trivial⟩<|gn hK70 ?_
   by_cases hc34:e3.Op=11
   ·rw [if_pos hc34] at h
    refine wk 96 (e3.Op != 11) false (bne_eq_false_iff_eq.2 hc34)<|wf<|we_skip fun a hF=>hK69 _ _ ?_ a hF
    refine ws fun K71 hK71=>wr [(0,0),(1,0)]<|gb0 [0,1] [(106,.bool (!q4)),(105,.bool q4)]<|gn hK71 ?_
    by_cases hc35:q4=true
    ·rw [if_pos hc35] at h
     refine wk 106 (!q4) false (congrArg (fun z=>!z) hc35)<|wf<|we_skip fun a hF=>hK15 _ _ ?_ a hF
     refine wr [(0,0),(1,0)]<|ge_addn (d:=109) (ty:=3) (x:=(.tmp 30)) (y:=(.const (vI 1))) (t:=3) (t2:=3) (k:=.i64) (m:=i1) (by kernel_rfl) (by kernel_rfl) (by kernel_rfl) (by have h0:=hR0.small; omega) ?_
     refine gb0 [1] [(30,vI ((i1+1:Nat):Int))] ?_
     have hS172:=hS135.p [1,2,3] rfl
     obtain rfl:=si h
     exact ge_nil fun a hF=>hQ _ _ _ (Outs.again ⟨v11,hS172,hF.weaken ea⟩)
    rw [if_neg hc35] at h
    refine wk 106 (!q4) true (congrArg (fun z=>!z) (Bool.eq_false_iff.2 hc35))<|wt<|ws fun K72 hK72=>wr [(0,0),(1,0),(2,2)]<|gb0 [0,1] [(108,.agg #[vI 8,vI (i1:Int)]),(107,vI (i1:Int))] ?_
    have hS173:=hS135.b 2
    refine gs b1 0 #[vI 0,vI 0] 25 [vI 8,vI (i1:Int)] hS173 fun w32 hS174=>?_
    have hS175:=hS174.nc #[vI 8,vI (i1:Int)] rfl
    refine gn hK72 ?_
    have hS176:=hS175.takeN 0
    obtain rfl:=si h
    exact we_ret fun a hF=>hQ _ _ _ (Outs.out nofun (Exits.on ⟨rfl,(pr [.cell 2 25] [.agg #[vI 8,vI (i1:Int)]] [ld b1 0 (vI 8),ld b1 1 (vI (i1:Int))] ⟨hS175.c 0,hS175.c 0,trivial⟩ ⟨rfl,hS176⟩) a hF⟩))
   rw [if_neg hc34] at h
   refine wk 96 (e3.Op != 11) true (bne_iff_ne.2 hc34)<|wt<|wr [(0,0),(1,0),(2,0),(3,0),(4,0),(5,0),(6,2),(7,0),(8,0)]<|gb0 [0,1] [(98,.bool q4),(97,.bool q4)] ?_
   by_cases hc36:q4=true
   ·rw [if_pos hc36] at h
    refine gk 98 q4 true hc36<|gb0 [2,3] [(100,vI (i1:Int)),(99,.func (.func 72) #[] #[pP b2 0])]<|ge_addn (d:=101) (ty:=3) (x:=(.tmp 100)) (y:=(.const (vI 1))) (t:=3) (t2:=3) (k:=.i64) (m:=i1) (by kernel_rfl) (by kernel_rfl) (by kernel_rfl) (by have h0:=hR0.small; omega) ?_
    refine gb0 [5] [(102,vI (IntKind.i64.wrap (e4+(IntKind.i64.wrap (((mach_pops.f e3.Op).2)-((mach_pops.f e3.Op).1))))))] ?_
    obtain ⟨Z6,cz6,rfl⟩:=hS135.open 3 rfl
    rcases hq10:mach_heights_1.f ((i1+1:Nat):Int) (IntKind.i64.wrap (e4+(IntKind.i64.wrap (((mach_pops.f e3.Op).2)-((mach_pops.f e3.Op).1))))) m9 with _ | r6
    ·rw [hq10] at h; cases h
    rw [hq10] at h
    simp only [] at h
    have hS180:=((hS135.b 3).b 2).packN 2
    refine ge_call2 (m:=0) (d:=some 103) (f:=72) (args:=#[vI ((i1+1:Nat):Int),vI (IntKind.i64.wrap (e4+(IntKind.i64.wrap (((mach_pops.f e3.Op).2)-((mach_pops.f e3.Op).1))))),pP b2 0]) (by kernel_rfl) (mach_heights_1_ok ((i1+1:Nat):Int) (IntKind.i64.wrap (e4+(IntKind.i64.wrap (((mach_pops.f e3.Op).2)-((mach_pops.f e3.Op).1))))) b2 m9 Z6 cz6 _ _ _ hS180 _ hq10) ?_
    rintro _ w33 ⟨v13,rfl,hS179⟩
    refine ⟨_,rfl,?_⟩
    have hS181:=hS179.unpack [bk b2 #[v13] 37,Own.of v13 3 r6.2]
    refine gb0 [7,8] [(11,.bool r6.1),(104,.bool r6.1)]<|gn hK69<|ws fun K73 hK73=>wr [(0,0),(1,0)]<|gb0 [0,1] [(106,.bool (!r6.1)),(105,.bool r6.1)]<|gn hK73 ?_
    by_cases hc37:r6.1=true
    ·rw [if_pos hc37] at h
     refine wk 106 (!r6.1) false (congrArg (fun z=>!z) hc37)<|wf<|we_skip fun a hF=>hK15 _ _ ?_ a hF
     refine wr [(0,0),(1,0)]<|ge_addn (d:=109) (ty:=3) (x:=(.tmp 30)) (y:=(.const (vI 1))) (t:=3) (t2:=3) (k:=.i64) (m:=i1) (by kernel_rfl) (by kernel_rfl) (by kernel_rfl) (by have h0:=hR0.small; omega) ?_
     refine gb0 [1] [(30,vI ((i1+1:Nat):Int))] ?_
     have hS185:=hS181.p [0,3,1] rfl
     obtain rfl:=si h
     exact ge_nil fun a hF=>hQ _ _ _ (Outs.again ⟨v13,hS185,hF.weaken ea⟩)
    rw [if_neg hc37] at h
    refine wk 106 (!r6.1) true (congrArg (fun z=>!z) (Bool.eq_false_iff.2 hc37))<|wt<|ws fun K74 hK74=>wr [(0,0),(1,0),(2,2)]<|gb0 [0,1] [(108,.agg #[vI 8,vI (i1:Int)]),(107,vI (i1:Int))] ?_
    have hS186:=hS181.b 3
    refine gs b1 0 #[vI 0,vI 0] 25 [vI 8,vI (i1:Int)] hS186 fun w34 hS187=>?_
    have hS188:=hS187.nc #[vI 8,vI (i1:Int)] rfl
    refine gn hK74 ?_
    have hS189:=hS188.takeN 0
    obtain rfl:=si h
    exact we_ret fun a hF=>hQ _ _ _ (Outs.out nofun (Exits.on ⟨rfl,(pr [.cell 2 25] [.agg #[vI 8,vI (i1:Int)]] [ld b1 0 (vI 8),ld b1 1 (vI (i1:Int))] ⟨hS188.c 0,hS188.c 0,trivial⟩ ⟨rfl,hS189⟩) a hF⟩))
   rw [if_neg hc36] at h
   refine gk 98 q4 false (Bool.eq_false_iff.2 hc36)<|gb0 [2,3,4,5] [(102,undef),(101,undef),(100,undef),(99,undef)]<|ge_off rfl rfl rfl (by kernel_rfl) ?_
   refine gb0 [7,8] [(11,.bool false),(104,.bool false)]<|gn hK69<|ws fun K75 hK75=>wr [(0,0),(1,0)]<|gb0 [0,1] [(106,.bool true),(105,.bool false)]<|gn hK75<|wt<|ws fun K76 hK76=>wr [(0,0),(1,0),(2,2)]<|gb0 [0,1] [(108,.agg #[vI 8,vI (i1:Int)]),(107,vI (i1:Int))] ?_
   have hS190:=hS135.b 2
   refine gs b1 0 #[vI 0,vI 0] 25 [vI 8,vI (i1:Int)] hS190 fun w35 hS191=>?_
   have hS192:=hS191.nc #[vI 8,vI (i1:Int)] rfl
   refine gn hK76 ?_
   have hS193:=hS192.takeN 0
   obtain rfl:=si h
   exact we_ret fun a hF=>hQ _ _ _ (Outs.out nofun (Exits.on ⟨rfl,(pr [.cell 2 25] [.agg #[vI 8,vI (i1:Int)]] [ld b1 0 (vI 8),ld b1 1 (vI (i1:Int))] ⟨hS192.c 0,hS192.c 0,trivial⟩ ⟨rfl,hS193⟩) a hF⟩))
  rw [hq8] at h
  simp only [] at h
  refine we_keep (e':=((0,.slice A0 l0.length c0)::(2,pP b1 0)::(3,pP b2 0)::(5,.func (.func 72) #[] #[pP b2 0])::(6,vI (i1:Int))::(7,pP b3 0)::(8,vI (IntKind.i64.wrap (e4+(IntKind.i64.wrap (((mach_pops.f e3.Op).2)-((mach_pops.f e3.Op).1))))))::(9,vI ((mach_pops.f e3.Op).1))::(10,vI ((mach_pops.f e3.Op).2))::(11,.bool false)::(28,.slice A0 l0.length c0)::(29,vI (l0.length:Int))::(30,vI (i1:Int))::(31,.bool true)::(32,vI (i1:Int))::(33,.pointer (some ⟨blkOf A0,offOf A0+i1*3,none⟩))::(34,.agg #[vI e3.Op,vI e3.A,vI e3.B])::(35,(.slice Z2 m4.length cz2))::(36,vI (i1:Int))::(37,.pointer (some ⟨blkOf Z2,offOf Z2+i1*1,none⟩))::(38,vI e4)::(39,vI e4)::(40,.bool false)::(43,.tuple #[vI ((mach_pops.f e3.Op).1),vI ((mach_pops.f e3.Op).2)])::(44,pP b3 0)::(45,vI e3.Op)::(46,.tuple #[vI ((mach_pops.f e3.Op).1),vI ((mach_pops.f e3.Op).2)])::(47,vI ((mach_pops.f e3.Op).1))::(48,vI ((mach_pops.f e3.Op).2))::(49,vI e4)::(50,vI ((mach_pops.f e3.Op).1))::(51,.bool (decide (e4 ≥ ((mach_pops.f e3.Op).1))))::(52,.bool false)::(53,undef)::(54,undef)::(55,undef)::(56,undef)::(57,undef)::(58,undef)::(59,.bool false)::(60,vI e4)::(61,vI ((mach_pops.f e3.Op).2))::(62,vI ((mach_pops.f e3.Op).1))::(63,vI (IntKind.i64.wrap (((mach_pops.f e3.Op).2)-((mach_pops.f e3.Op).1))))::(64,vI (IntKind.i64.wrap (e4+(IntKind.i64.wrap (((mach_pops.f e3.Op).2)-((mach_pops.f e3.Op).1))))))::[])) ea (mach_heights_p3 K w0 l0 A0 c0 hR0 hL0 b1 hc1 hc2 b2 Z1 cz1 m3 e2 hx4 i1 m4 hc5 e3 hx5 b3 Z2 cz2 e4 hx7 hc6 hc7 _ hq8 _ hS33 _ ?_)
  rintro _ a w1 ⟨_,rfl,hb⟩
  obtain rfl:=si h
  exact hQ _ _ _ (Outs.out nofun (Exits.on ⟨rfl,hb⟩))
 rw [if_neg hc5] at h
 refine wk 31 (decide ((i1:Int)<(l0.length:Int))) false (decide_eq_false hc5)<|wf ?_
 have hS196:=((hS.b 2).b 2).b 2
 obtain rfl:=si h
 exact we_exit fun a hF=>hQ _ _ _ (Outs.out nofun (Exits.here ⟨v2,hS196,hF.weaken ea⟩))
theorem mach_heights_ok (K:Nat) (l0:List SIns) (A0:OA) (c0:Nat) (w0:World) (hR0:RdL w0 A0 l0) (hL0:l0.length≤c0) (r:SFault) (h:mach_heights.f K l0=some r) :
  Calls Tryd.prog 54 #[.slice A0 l0.length c0] w0 (mach_heights.Post w0 r):=by
 have hS:=St.start w0
 unfold mach_heights.f at h
 refine calls_enter (n:=120) (args:=[.slice A0 l0.length c0]) (fn:=Tryd.f54) rfl rfl rfl rfl ?_
 show WE _ _ _ _ [(0,.slice A0 l0.length c0)] _
 refine ws fun K1 hK1=>wr [(0,1)]<|gw (some 2) (.cells #[vI 0,vI 0] 25) (fun b=>pP b 0) hS fun b1 w1 hx1 hS1=>?_
 refine gn hK1<|ws fun K2 hK2=>wr [(0,0),(1,0),(2,0),(3,1),(4,1),(5,2)]<|gb0 [0,1,2] [(14,vI (IntKind.i64.wrap ((l0.length:Int)+1))),(13,vI (l0.length:Int)),(12,.slice A0 l0.length c0)] ?_
 by_cases hc1:0≤(IntKind.i64.wrap ((l0.length:Int)+1))
 ·rw [if_pos hc1] at h
  by_cases hc2:((IntKind.i64.wrap ((l0.length:Int)+1)).toNat)≤17592186044416
  ·rw [if_pos hc2] at h
   refine ge_make (α:=Int) (d:=15) (t:=37) (el:=3) (bytes:=8) (l:=((IntKind.i64.wrap ((l0.length:Int)+1)).toNat)) (c:=((IntKind.i64.wrap ((l0.length:Int)+1)).toNat)) (x:=(.tmp 14)) (y:=(.tmp 14)) (ty:=37) (k1:=.i64) (k2:=.i64) (li:=(IntKind.i64.wrap ((l0.length:Int)+1))) (ci:=(IntKind.i64.wrap ((l0.length:Int)+1))) (z:=vI 0) (z':=(0:Int)) (by kernel_rfl) (by kernel_rfl) (by kernel_rfl) (Int.toNat_of_nonneg hc1).symm (Int.toNat_of_nonneg hc1).symm (by kernel_rfl) (by kernel_rfl) rfl hS1 (Nat.le_refl _) rfl (by omega) fun v1 w2 _ hS2=>?_
   refine gw (some 3) (.cells #[.slice none 0 0] 37) (fun b=>pP b 0) hS2 fun b2 w3 hx2 hS3=>?_
   obtain ⟨Z1,cz1,rfl⟩:=hS3.open 1 rfl
   refine gs b2 0 #[.slice none 0 0] 37 [(.slice Z1 (List.replicate ((IntKind.i64.wrap ((l0.length:Int)+1)).toNat) (0:Int)).length cz1)] hS3 fun w4 hS4=>?_
   have hS5:=hS4.nc #[(.slice Z1 (List.replicate ((IntKind.i64.wrap ((l0.length:Int)+1)).toNat) (0:Int)).length cz1)] rfl
   refine gn hK2<|ws fun K3 hK3=>ws fun K4 hK4=>wr [(0,0),(1,0),(2,0)]<|gb [0,1,2] [(18,vI 0),(17,vI ((List.replicate ((IntKind.i64.wrap ((l0.length:Int)+1)).toNat) (0:Int)).length:Int)),(16,(.slice Z1 (List.replicate ((IntKind.i64.wrap ((l0.length:Int)+1)).toNat) (0:Int)).length cz1))] [ld b2 0 ((.slice Z1 (List.replicate ((IntKind.i64.wrap ((l0.length:Int)+1)).toNat) (0:Int)).length cz1))] ⟨hS5.c 0,trivial⟩<|gn hK4<|we_block ?_
   have hS8:=((hS5.b 1).b 2).b 2
   rcases hq1:iter (mach_heights.r0 l0) K (0,(List.replicate ((IntKind.i64.wrap ((l0.length:Int)+1)).toNat) (0:Int))) with _ | (m3 | rr4)
   ·rw [hq1] at h; cases h
   ·rw [hq1] at h
    simp only [] at h
    refine we_iter (A:=mach_heights.A0 w0 l0 A0 c0 b1 b2 Z1 cz1) (B:=mach_heights.B0 w0 l0 A0 c0 b1 b2 Z1 cz1) hq1 (fun a hF=>⟨hS8,hF.weaken ea⟩) (fun s o hf a w hA Q hQ=>mach_heights_r0 K w0 l0 A0 c0 hR0 hL0 b1 hc1 hc2 b2 Z1 cz1 s o hf a w hA Q hQ) ?_
    rintro _ a w6 _ ⟨rfl,hS18,hF⟩
    replace hS18:St w0 w6 [bk b2 #[(.slice Z1 m3.length cz1)] 37,bk b1 #[vI 0,vI 0] 25,ro Z1 cz1 3 m3]:=hS18
    refine hK3 [(0,.slice A0 l0.length c0),(2,pP b1 0),(3,pP b2 0)] w6 ?_ a hF
    refine ws fun K9 hK9=>wr [(0,0),(1,0),(2,2)]<|gb [0] [(25,(.slice Z1 m3.length cz1))] [ld b2 0 ((.slice Z1 m3.length cz1))] ⟨hS18.c 0,trivial⟩ ?_
    rcases hx4:m3[0]? with _ | e2
    ·rw [hx4] at h; cases h
    rw [hx4] at h
    simp only [] at h
    refine gi 26 0 37 3 1 m3.length cz1 (.tmp 25) (.const (vI 0)) Z1 .i64 0 0 ((hS18.rdAt 2 rfl).eqSome (pos_of_get hx4)) rfl (lt_of_get hx4) ?_
    have hS19:=hS18.b 2
    refine ge_seti (α:=Int) (A:=Z1) (nn:=m3.length) (c:=cz1) (t:=3) (l:=m3) (x:=e2) (x':=0) (jn:=0) (j:=0) (vs:=[vI 0]) (l':=[.stored ⟨blkOf Z1,offOf Z1+0*1,none⟩ (vI 0)]) hS19 (by kernel_rfl) (by kernel_rfl) hx4 rfl rfl rfl fun w7 hS20=>?_
    have hS21:St w0 w7 [Own.of (.slice Z1 m3.length cz1) 3 (m3.set 0 0),bk b2 #[(.slice Z1 m3.length cz1)] 37,bk b1 #[vI 0,vI 0] 25]:=hS20
    have hE2:m3.length=(m3.set 0 0).length:=hS21.lenAt 0 rfl
    have hS22:St w0 w7 [Own.of (.slice Z1 (m3.set 0 0).length cz1) 3 (m3.set 0 0),Own.blk b2 (.cells #[(.slice Z1 (m3.set 0 0).length cz1)] 37 (0,0)),Own.blk b1 (.cells #[vI 0,vI 0] 25 (0,0))]:=by rw [← hE2]; exact hS21
    refine ge_same (t:=25) (v:=(.slice Z1 m3.length cz1)) (v':=(.slice Z1 (m3.set 0 0).length cz1)) (by kernel_rfl) (by rw [hE2]) ?_
    refine gn hK9<|ws fun K10 hK10=>wr [(0,0),(1,0)]<|gb0 [0,1] [(5,.func (.func 72) #[] #[pP b2 0]),(27,.func (.func 72) #[] #[pP b2 0])]<|gn hK10<|ws fun K11 hK11=>ws fun K12 hK12=>wr [(0,0),(1,0),(2,0)]<|gb0 [0,1,2] [(30,vI 0),(29,vI (l0.length:Int)),(28,.slice A0 l0.length c0)]<|gn hK12<|we_block ?_
    have hS24:=(hS22.b 2).b 2
    rcases hq11:iter (mach_heights.r1 l0) K (0,(m3.set 0 0)) with _ | (m10 | rr3)
    ·rw [hq11] at h; cases h
    ·rw [hq11] at h
     simp only [] at h
     refine we_iter (A:=mach_heights.A1 w0 l0 A0 c0 b1 b2) (B:=mach_heights.B1 w0 l0 A0 c0 b1 b2) hq11 (fun a hF=>⟨(.slice Z1 (m3.set 0 0).length cz1),hS24,hF.weaken ea⟩) (fun s o hf a w hA Q hQ=>mach_heights_r1 K w0 l0 A0 c0 hR0 hL0 b1 hc1 hc2 b2 Z1 cz1 m3 e2 hx4 s o hf a w hA Q hQ) ?_
     rintro _ a w36 _ ⟨rfl,v14,hS197,hF⟩
     replace hS197:St w0 w36 [bk b2 #[v14] 37,bk b1 #[vI 0,vI 0] 25,Own.of v14 3 m10]:=hS197
     refine hK11 [(0,.slice A0 l0.length c0),(2,pP b1 0),(3,pP b2 0)] w36 ?_ a hF
     refine ws fun K77 hK77=>ws fun K78 hK78=>wr [(0,0),(1,0),(2,0),(3,0),(4,0),(5,0)]<|gb [0,1,2] [(112,vI (l0.length:Int)),(111,.slice A0 l0.length c0),(110,v14)] [ld b2 0 (v14)] ⟨hS197.c 0,trivial⟩ ?_
     obtain ⟨Z7,cz7,rfl⟩:=hS197.open 2 rfl
     rcases hx10:m10[l0.length]? with _ | e7
     ·rw [hx10] at h; cases h
     rw [hx10] at h
     simp only [] at h
     refine gi 113 0 37 3 1 m10.length cz7 (.tmp 110) (.tmp 112) Z7 .i64 (l0.length:Int) l0.length ((hS197.rdAt 2 rfl).eqSome (pos_of_get hx10)) rfl (lt_of_get hx10) ?_
     refine gb [4,5] [(115,.bool (decide (e7 > 0))),(114,vI e7)] [.loaded ⟨blkOf Z7,offOf Z7+l0.length*1,none⟩ (vI e7)] ⟨RdL.cell (j:=0) (hS197.rdAt 2 rfl) hx10 rfl,trivial⟩<|gn hK78 ?_
     by_cases hc38:e7 > 0
     ·rw [if_pos hc38] at h
      refine wk 115 (decide (e7 > 0)) true (decide_eq_true hc38)<|wt<|ws fun K79 hK79=>wr [(0,0),(1,0),(2,0),(3,2)]<|gb0 [0,1,2] [(118,.agg #[vI 8,vI (l0.length:Int)]),(117,vI (l0.length:Int)),(116,.slice A0 l0.length c0)] ?_
      have hS198:=hS197.b 1
      refine gs b1 0 #[vI 0,vI 0] 25 [vI 8,vI (l0.length:Int)] hS198 fun w37 hS199=>?_
      have hS200:=hS199.nc #[vI 8,vI (l0.length:Int)] rfl
      refine gn hK79 ?_
      have hS201:=hS200.takeN 0
      obtain rfl:=si h
      exact we_ret (pr [.cell 2 25] [.agg #[vI 8,vI (l0.length:Int)]] [ld b1 0 (vI 8),ld b1 1 (vI (l0.length:Int))] ⟨hS200.c 0,hS200.c 0,trivial⟩ ⟨rfl,hS201⟩)
     rw [if_neg hc38] at h
     refine wk 115 (decide (e7 > 0)) false (decide_eq_false hc38)<|wf<|we_skip fun a hF=>hK77 _ _ ?_ a hF
     refine ws fun K80 hK80=>wr [(0,0),(1,2)]<|gb0 [0] [(119,.agg #[vI 0,vI 0])] ?_
     have hS202:=hS197.b 1
     refine gs b1 0 #[vI 0,vI 0] 25 [vI 0,vI 0] hS202 fun w38 hS203=>?_
     have hS204:=hS203.nc #[vI 0,vI 0] rfl
     refine gn hK80 ?_
     have hS205:=hS204.takeN 0
     obtain rfl:=si h
     exact we_ret (pr [.cell 2 25] [.agg #[vI 0,vI 0]] [ld b1 0 (vI 0),ld b1 1 (vI 0)] ⟨hS204.c 0,hS204.c 0,trivial⟩ ⟨rfl,hS205⟩)
    rw [hq11] at h
    simp only [] at h
    refine we_iter (A:=mach_heights.A1 w0 l0 A0 c0 b1 b2) (B:=mach_heights.B1 w0 l0 A0 c0 b1 b2) hq11 (fun a hF=>⟨(.slice Z1 (m3.set 0 0).length cz1),hS24,hF.weaken ea⟩) (fun s o hf a w hA Q hQ=>mach_heights_r1 K w0 l0 A0 c0 hR0 hL0 b1 hc1 hc2 b2 Z1 cz1 m3 e2 hx4 s o hf a w hA Q hQ) ?_
    rintro _ a w1 _ ⟨rfl,hb⟩
    obtain rfl:=si h
    exact hb
   rw [hq1] at h
   simp only [] at h
   refine we_iter (A:=mach_heights.A0 w0 l0 A0 c0 b1 b2 Z1 cz1) (B:=mach_heights.B0 w0 l0 A0 c0 b1 b2 Z1 cz1) hq1 (fun a hF=>⟨hS8,hF.weaken ea⟩) (fun s o hf a w hA Q hQ=>mach_heights_r0 K w0 l0 A0 c0 hR0 hL0 b1 hc1 hc2 b2 Z1 cz1 s o hf a w hA Q hQ) ?_
   rintro _ a w1 _ ⟨rfl,hb⟩
   obtain rfl:=si h
   exact hb
  rw [if_neg hc2] at h
  cases h
 rw [if_neg hc1] at h
 cases h
end Go.Proofs.YtnckikjcjgmdlaaDoor.GV
