/- Walks of single functions, written by a program of this work. -/
import Derived.Test.YtnckikjcjgmdlaaDoorGWMachTicks2
namespace Go.Proofs.YtnckikjcjgmdlaaDoor.GV
open Go Go.RowKit
set_option linter.unusedVariables false
set_option linter.unusedSimpArgs false
set_option maxRecDepth 100000

/-! (*punctual/mach.Machine).Tick -/
abbrev mach_Machine_Tick.Post (w0:World) (bp0:Nat) (lp0_0:List SIns) (Ap0_0:OA) (cp0_0:Nat) (lp0_1:List Int) (Ap0_1:OA) (cp0_1:Nat) (lp0_2:List Int) (Ap0_2:OA) (cp0_2:Nat) (lp0_3:List SPut) (Ap0_3:OA) (cp0_3:Nat) (lp0_4:List Int) (Ap0_4:OA) (cp0_4:Nat) (sp0_5:List Int) (sp0_13 sp0_14:Int) (LT:List Own) (r:SIns×Bool×(List Int)×(List SPut)×(List Int)×(List Int)×Int×Int) (e:Ending) (w:World):Prop:=∃ (nbp0_2:Value) (nbp0_3:Value) (nbp0_4:Value),e=.returned (.tuple #[.agg #[vI r.1.Op,vI r.1.A,vI r.1.B],.bool r.2.1])∧St w0 w [bk bp0 #[(.slice Ap0_0 lp0_0.length cp0_0),(.slice Ap0_1 lp0_1.length cp0_1),nbp0_2,nbp0_3,nbp0_4,vI ((r.2.2.2.2.2.1[0]?).getD 0),vI ((r.2.2.2.2.2.1[1]?).getD 0),vI ((r.2.2.2.2.2.1[2]?).getD 0),vI ((r.2.2.2.2.2.1[3]?).getD 0),vI ((r.2.2.2.2.2.1[4]?).getD 0),vI ((r.2.2.2.2.2.1[5]?).getD 0),vI ((r.2.2.2.2.2.1[6]?).getD 0),vI ((r.2.2.2.2.2.1[7]?).getD 0),vI r.2.2.2.2.2.2.1,vI r.2.2.2.2.2.2.2] 86,ro Ap0_0 cp0_0 29 lp0_0,ro Ap0_1 cp0_1 3 lp0_1,Own.of nbp0_2 3 r.2.2.1,Own.of nbp0_3 101 r.2.2.2.1,Own.of nbp0_4 3 r.2.2.2.2.1,Own.all LT]
def mach_Machine_Tick.p0 (lp0_0 : List SIns) (lp0_1 : List Int) (lp0_2 : List Int) (lp0_3 : List SPut) (lp0_4 : List Int) (sp0_5 : List Int) (sp0_13 : Int) (sp0_14 : Int) (e1 : SIns) : Option (Int ⊕ (SIns × Bool × (List Int) × (List SPut) × (List Int) × (List Int) × Int × Int)) :=
  if sp0_14=0 then
   match mach_Machine_over.f lp0_0 lp0_1 lp0_2 lp0_3 lp0_4 sp0_5 sp0_13 sp0_14 e1 with
   | none=>none
   | some r1 =>
    some (.inl (mach_Cost.f e1 r1))
  else
   some (.inl sp0_14)
def mach_Machine_Tick.f (lp0_0 : List SIns) (lp0_1 : List Int) (lp0_2 : List Int) (lp0_3 : List SPut) (lp0_4 : List Int) (sp0_5 : List Int) (sp0_13 : Int) (sp0_14 : Int) : Option (SIns × Bool × (List Int) × (List SPut) × (List Int) × (List Int) × Int × Int) :=
 if (mach_Machine_Done.f lp0_0 lp0_1 lp0_2 lp0_3 lp0_4 sp0_5 sp0_13 sp0_14)=true then
  some ((⟨0,0,0⟩:SIns),false,lp0_2,lp0_3,lp0_4,sp0_5,sp0_13,sp0_14)
 else
  if 0≤sp0_13 then
   match lp0_0[(sp0_13).toNat]? with
   | none=>none
   | some e1 =>
    match mach_Machine_Tick.p0 lp0_0 lp0_1 lp0_2 lp0_3 lp0_4 sp0_5 sp0_13 sp0_14 e1 with
    | none=>none
    | some (.inl z2) =>
     if (IntKind.i64.wrap (z2-1)) > 0 then
      some (e1,false,lp0_2,lp0_3,lp0_4,sp0_5,sp0_13,IntKind.i64.wrap (z2-1))
     else
      match mach_Machine_do.f lp0_0 lp0_1 lp0_2 lp0_3 lp0_4 sp0_5 sp0_13 (IntKind.i64.wrap (z2-1)) e1 with
      | none=>none
      | some r2 =>
       some (e1,true,r2.2.1,r2.2.2.1,r2.2.2.2.1,r2.2.2.2.2,r2.1,IntKind.i64.wrap (z2-1))
    | some (.inr rr1) =>
     some rr1
  else
   none
abbrev mach_Machine_Tick.A0 (w0:World) (bp0:Nat) (lp0_0:List SIns) (Ap0_0:OA) (cp0_0:Nat) (lp0_1:List Int) (Ap0_1:OA) (cp0_1:Nat) (lp0_2:List Int) (Ap0_2:OA) (cp0_2:Nat) (lp0_3:List SPut) (Ap0_3:OA) (cp0_3:Nat) (lp0_4:List Int) (Ap0_4:OA) (cp0_4:Nat) (sp0_5:List Int) (sp0_13:Int) (LT:List Own) (b1:Nat) (e1:SIns) (b2:Nat):Int→Act→World→Prop:=fun (s:Int) a w=>St w0 w [bk b2 #[vI e1.Op,vI e1.A,vI e1.B] 29,bk bp0 #[(.slice Ap0_0 lp0_0.length cp0_0),(.slice Ap0_1 lp0_1.length cp0_1),(.slice Ap0_2 lp0_2.length cp0_2),(.slice Ap0_3 lp0_3.length cp0_3),(.slice Ap0_4 lp0_4.length cp0_4),vI ((sp0_5[0]?).getD 0),vI ((sp0_5[1]?).getD 0),vI ((sp0_5[2]?).getD 0),vI ((sp0_5[3]?).getD 0),vI ((sp0_5[4]?).getD 0),vI ((sp0_5[5]?).getD 0),vI ((sp0_5[6]?).getD 0),vI ((sp0_5[7]?).getD 0),vI sp0_13,vI s] 86,bk b1 #[vI 0,vI 0,vI 0] 29,ro Ap0_0 cp0_0 29 lp0_0,ro Ap0_1 cp0_1 3 lp0_1,ro Ap0_2 cp0_2 3 lp0_2,ro Ap0_3 cp0_3 101 lp0_3,ro Ap0_4 cp0_4 3 lp0_4,Own.all LT]∧Frm 51 a [(0,pP bp0 0),(2,pP b1 0),(4,pP b2 0)]
abbrev mach_Machine_Tick.B0 (w0:World) (bp0:Nat) (lp0_0:List SIns) (Ap0_0:OA) (cp0_0:Nat) (lp0_1:List Int) (Ap0_1:OA) (cp0_1:Nat) (lp0_2:List Int) (Ap0_2:OA) (cp0_2:Nat) (lp0_3:List SPut) (Ap0_3:OA) (cp0_3:Nat) (lp0_4:List Int) (Ap0_4:OA) (cp0_4:Nat) (sp0_5:List Int) (sp0_13 sp0_14:Int) (LT:List Own):(SIns×Bool×(List Int)×(List SPut)×(List Int)×(List Int)×Int×Int)→Exit→Act→World→Prop:=Rets Tryd.prog Tryd.f25 (mach_Machine_Tick.Post w0 bp0 lp0_0 Ap0_0 cp0_0 lp0_1 Ap0_1 cp0_1 lp0_2 Ap0_2 cp0_2 lp0_3 Ap0_3 cp0_3 lp0_4 Ap0_4 cp0_4 sp0_5 sp0_13 sp0_14 LT)
theorem mach_Machine_Tick_p0 (K:Nat) (w0:World) (bp0:Nat) (lp0_0:List SIns) (Ap0_0:OA) (cp0_0:Nat) (lp0_1:List Int) (Ap0_1:OA) (cp0_1:Nat) (lp0_2:List Int) (Ap0_2:OA) (cp0_2:Nat) (lp0_3:List SPut) (Ap0_3:OA) (cp0_3:Nat) (lp0_4:List Int) (Ap0_4:OA) (cp0_4:Nat) (sp0_5:List Int) (sp0_13 sp0_14:Int) (LT:List Own) (b1:Nat) (hc1:¬ ((mach_Machine_Done.f lp0_0 lp0_1 lp0_2 lp0_3 lp0_4 sp0_5 sp0_13 sp0_14)=true)) (hc2:0≤sp0_13) (e1:SIns) (hx2:lp0_0[(sp0_13).toNat]?=some e1) (b2:Nat) (o:Int ⊕ (SIns×Bool×(List Int)×(List SPut)×(List Int)×(List Int)×Int×Int)) (h:mach_Machine_Tick.p0 lp0_0 lp0_1 lp0_2 lp0_3 lp0_4 sp0_5 sp0_13 sp0_14 e1=some o) (w:World) (hS:St w0 w [bk b2 #[vI e1.Op,vI e1.A,vI e1.B] 29,bk bp0 #[(.slice Ap0_0 lp0_0.length cp0_0),(.slice Ap0_1 lp0_1.length cp0_1),(.slice Ap0_2 lp0_2.length cp0_2),(.slice Ap0_3 lp0_3.length cp0_3),(.slice Ap0_4 lp0_4.length cp0_4),vI ((sp0_5[0]?).getD 0),vI ((sp0_5[1]?).getD 0),vI ((sp0_5[2]?).getD 0),vI ((sp0_5[3]?).getD 0),vI ((sp0_5[4]?).getD 0),vI ((sp0_5[5]?).getD 0),vI ((sp0_5[6]?).getD 0),vI ((sp0_5[7]?).getD 0),vI sp0_13,vI sp0_14] 86,ro Ap0_0 cp0_0 29 lp0_0,ro Ap0_1 cp0_1 3 lp0_1,ro Ap0_2 cp0_2 3 lp0_2,ro Ap0_3 cp0_3 101 lp0_3,ro Ap0_4 cp0_4 3 lp0_4,bk b1 #[vI 0,vI 0,vI 0] 29,Own.all LT]) (Q:Exit→Act→World→Prop) (hQ:∀ x a w,Outs (mach_Machine_Tick.A0 w0 bp0 lp0_0 Ap0_0 cp0_0 lp0_1 Ap0_1 cp0_1 lp0_2 Ap0_2 cp0_2 lp0_3 Ap0_3 cp0_3 lp0_4 Ap0_4 cp0_4 sp0_5 sp0_13 LT b1 e1 b2) (mach_Machine_Tick.B0 w0 bp0 lp0_0 Ap0_0 cp0_0 lp0_1 Ap0_1 cp0_1 lp0_2 Ap0_2 cp0_2 lp0_3 Ap0_3 cp0_3 lp0_4 Ap0_4 cp0_4 sp0_5 sp0_13 sp0_14 LT) o x a w→Q x a w):WE Tryd.prog 51 (subF Tryd.f25 [1,1,1,0]) Q [(0,pP bp0 0),(2,pP b1 0),(3,.bool false),(4,pP b2 0),(5,pP bp0 0),(6,.bool false),(8,pP bp0 0),(9,pP bp0 0),(10,pP bp0 0),(11,(.slice Ap0_0 lp0_0.length cp0_0)),(12,pP bp0 0),(13,pP bp0 0),(14,pP bp0 13),(15,vI sp0_13),(16,.pointer (some ⟨blkOf Ap0_0,offOf Ap0_0+(sp0_13).toNat*3,none⟩)),(17,.agg #[vI e1.Op,vI e1.A,vI e1.B])] w:=by
 simp only [mach_Machine_Tick.p0] at h
 refine ws fun K7 hK7=>wr [(0,0),(1,0),(2,0),(3,0),(4,0)]<|gb [0,1,2,3,4] [(22,.bool (sp0_14==0)),(21,vI sp0_14),(20,pP bp0 14),(19,pP bp0 0),(18,pP bp0 0)] [ld bp0 14 (vI sp0_14)] ⟨hS.c 1,trivial⟩<|gn hK7 ?_
 by_cases hc3:sp0_14=0
 ·rw [if_pos hc3] at h
  refine wk 22 (sp0_14==0) true (beq_iff_eq.2 hc3)<|wt<|we_orders3 (by kernel_rfl) [(1,[⟨b2,0,none⟩,⟨b2,1,none⟩,⟨b2,2,none⟩],[],[]),(3,[⟨b2,0,none⟩,⟨b2,1,none⟩,⟨b2,2,none⟩],[4,5],[])] (.vals [0] (.vals [1] (.vals [2] (.vals [3] (.alt 4 2 (.alt 5 1 (.vals [6] (.vals [7] (.alt 8 2 .fin .nomore))) .nomore) .nomore))))) (by kernel_rfl) (by kernel_rfl) ?_
  have hS26:=hS.drew
  refine g30 [0] [(23,pP bp0 0)]<|g3 1 [(24,.agg #[vI e1.Op,vI e1.A,vI e1.B])] [ld b2 0 (vI e1.Op),ld b2 1 (vI e1.A),ld b2 2 (vI e1.B)] ⟨hS26.c 0,hS26.c 0,hS26.c 0,trivial⟩<|g30 [2] [(25,pP bp0 0)]<|g3 3 [(26,.agg #[vI e1.Op,vI e1.A,vI e1.B])] [ld b2 0 (vI e1.Op),ld b2 1 (vI e1.A),ld b2 2 (vI e1.B)] ⟨hS26.c 0,hS26.c 0,hS26.c 0,trivial⟩<|go_alt3 (fun KK hKK=>?_) ?_
  ·rcases hq2:mach_Machine_over.f lp0_0 lp0_1 lp0_2 lp0_3 lp0_4 sp0_5 sp0_13 sp0_14 e1 with _ | r1
   ·rw [hq2] at h; cases h
   rw [hq2] at h
   simp only [] at h
   have hS34:=((((((hS26.b 6).b 6).b 6).b 6).b 6).b 6).packN 6
   refine ge_call2 (m:=0) (d:=some 27) (f:=43) (args:=#[pP bp0 0,.agg #[vI e1.Op,vI e1.A,vI e1.B]]) (by kernel_rfl) (mach_Machine_over_ok bp0 lp0_0 Ap0_0 cp0_0 lp0_1 Ap0_1 cp0_1 lp0_2 Ap0_2 cp0_2 lp0_3 Ap0_3 cp0_3 lp0_4 Ap0_4 cp0_4 sp0_5 sp0_13 sp0_14 e1 _ _ _ hS34 _ hq2) ?_
   rintro _ w6 ⟨rfl,hS33⟩
   refine ⟨_,rfl,?_⟩
   have hS35:=hS33.unpack [bk bp0 #[(.slice Ap0_0 lp0_0.length cp0_0),(.slice Ap0_1 lp0_1.length cp0_1),(.slice Ap0_2 lp0_2.length cp0_2),(.slice Ap0_3 lp0_3.length cp0_3),(.slice Ap0_4 lp0_4.length cp0_4),vI ((sp0_5[0]?).getD 0),vI ((sp0_5[1]?).getD 0),vI ((sp0_5[2]?).getD 0),vI ((sp0_5[3]?).getD 0),vI ((sp0_5[4]?).getD 0),vI ((sp0_5[5]?).getD 0),vI ((sp0_5[6]?).getD 0),vI ((sp0_5[7]?).getD 0),vI sp0_13,vI sp0_14] 86,ro Ap0_0 cp0_0 29 lp0_0,ro Ap0_1 cp0_1 3 lp0_1,ro Ap0_2 cp0_2 3 lp0_2,ro Ap0_3 cp0_3 101 lp0_3,ro Ap0_4 cp0_4 3 lp0_4]
   refine ge_nil fun a hF=>hKK _ _ (RS.of2 (l:=[ld b2 0 (vI e1.Op),ld b2 1 (vI e1.A),ld b2 2 (vI e1.B)]) (by kernel_rfl) ⟨hS26.c 0,hS26.c 0,hS26.c 0,trivial⟩ ⟨hS35.c 6,hS35.c 6,hS35.c 6,trivial⟩) ?_ a hF
   refine go_alt3 (fun KK hKK=>?_) ?_
   ·refine ge_one2<|ge_call (d:=some 28) (f:=42) (args:=#[.agg #[vI e1.Op,vI e1.A,vI e1.B],.bool r1]) (by kernel_rfl) (mach_Cost_ok e1 r1 _ _ rfl) ?_
    rintro _ w7 ⟨rfl,hS36⟩
    refine ⟨_,rfl,hS36.below,?_⟩
    have hS37:=hS35.call hS36
    refine g2 hKK<|g30 [6,7] [(30,pP bp0 14),(29,pP bp0 0)]<|go_alt3 (fun KK hKK=>?_) ?_
    ·refine gs bp0 14 #[(.slice Ap0_0 lp0_0.length cp0_0),(.slice Ap0_1 lp0_1.length cp0_1),(.slice Ap0_2 lp0_2.length cp0_2),(.slice Ap0_3 lp0_3.length cp0_3),(.slice Ap0_4 lp0_4.length cp0_4),vI ((sp0_5[0]?).getD 0),vI ((sp0_5[1]?).getD 0),vI ((sp0_5[2]?).getD 0),vI ((sp0_5[3]?).getD 0),vI ((sp0_5[4]?).getD 0),vI ((sp0_5[5]?).getD 0),vI ((sp0_5[6]?).getD 0),vI ((sp0_5[7]?).getD 0),vI sp0_13,vI sp0_14] 86 [vI (mach_Cost.f e1 r1)] hS37 fun w8 hS38=>?_
     have hS39:=hS38.nc #[(.slice Ap0_0 lp0_0.length cp0_0),(.slice Ap0_1 lp0_1.length cp0_1),(.slice Ap0_2 lp0_2.length cp0_2),(.slice Ap0_3 lp0_3.length cp0_3),(.slice Ap0_4 lp0_4.length cp0_4),vI ((sp0_5[0]?).getD 0),vI ((sp0_5[1]?).getD 0),vI ((sp0_5[2]?).getD 0),vI ((sp0_5[3]?).getD 0),vI ((sp0_5[4]?).getD 0),vI ((sp0_5[5]?).getD 0),vI ((sp0_5[6]?).getD 0),vI ((sp0_5[7]?).getD 0),vI sp0_13,vI (mach_Cost.f e1 r1)] rfl
     refine g2 hKK ?_
     have hS48:=((((((((hS39.b 8).b 6).b 6).b 6).b 6).b 6).b 8).b 7).b 8
     obtain rfl:=si h
     exact go_fin3 fun a hF=>hQ _ _ _ (Outs.again ⟨hS48,hF.weaken ea⟩)
    exact go_nomore3
   exact go_nomore3
  exact go_nomore3
 rw [if_neg hc3] at h
 refine wk 22 (sp0_14==0) false (beq_eq_false_iff_ne.2 hc3)<|wf ?_
 have hS57:=((((((((hS.b 8).b 7).b 7).b 7).b 7).b 7).b 8).b 8).b 8
 obtain rfl:=si h
 exact we_skip fun a hF=>hQ _ _ _ (Outs.again ⟨hS57,hF.weaken ea⟩)
theorem mach_Machine_Tick_ok (bp0:Nat) (lp0_0:List SIns) (Ap0_0:OA) (cp0_0:Nat) (lp0_1:List Int) (Ap0_1:OA) (cp0_1:Nat) (lp0_2:List Int) (Ap0_2:OA) (cp0_2:Nat) (lp0_3:List SPut) (Ap0_3:OA) (cp0_3:Nat) (lp0_4:List Int) (Ap0_4:OA) (cp0_4:Nat) (sp0_5:List Int) (sp0_13 sp0_14:Int) (w0 wE:World) (LT:List Own) (hS:St w0 wE [bk bp0 #[(.slice Ap0_0 lp0_0.length cp0_0),(.slice Ap0_1 lp0_1.length cp0_1),(.slice Ap0_2 lp0_2.length cp0_2),(.slice Ap0_3 lp0_3.length cp0_3),(.slice Ap0_4 lp0_4.length cp0_4),vI ((sp0_5[0]?).getD 0),vI ((sp0_5[1]?).getD 0),vI ((sp0_5[2]?).getD 0),vI ((sp0_5[3]?).getD 0),vI ((sp0_5[4]?).getD 0),vI ((sp0_5[5]?).getD 0),vI ((sp0_5[6]?).getD 0),vI ((sp0_5[7]?).getD 0),vI sp0_13,vI sp0_14] 86,ro Ap0_0 cp0_0 29 lp0_0,ro Ap0_1 cp0_1 3 lp0_1,ro Ap0_2 cp0_2 3 lp0_2,ro Ap0_3 cp0_3 101 lp0_3,ro Ap0_4 cp0_4 3 lp0_4,Own.all LT]) (r:SIns×Bool×(List Int)×(List SPut)×(List Int)×(List Int)×Int×Int) (h:mach_Machine_Tick.f lp0_0 lp0_1 lp0_2 lp0_3 lp0_4 sp0_5 sp0_13 sp0_14=some r) :
  Calls Tryd.prog 25 #[pP bp0 0] wE (mach_Machine_Tick.Post w0 bp0 lp0_0 Ap0_0 cp0_0 lp0_1 Ap0_1 cp0_1 lp0_2 Ap0_2 cp0_2 lp0_3 Ap0_3 cp0_3 lp0_4 Ap0_4 cp0_4 sp0_5 sp0_13 sp0_14 LT r):=by
 unfold mach_Machine_Tick.f at h
 refine calls_enter (n:=51) (args:=[pP bp0 0]) (fn:=Tryd.f25) rfl rfl rfl rfl ?_
 show WE _ _ _ _ [(0,pP bp0 0)] _
 refine ws fun K1 hK1=>wr [(0,1),(1,0)]<|gw (some 2) (.cells #[vI 0,vI 0,vI 0] 29) (fun b=>pP b 0) hS fun b1 w1 hx1 hS1=>?_
 refine gb0 [1] [(3,.bool false)]<|gn hK1<|ws fun K2 hK2=>ws fun K3 hK3=>wr [(0,0),(1,2)]<|gb0 [0] [(5,pP bp0 0)] ?_
 have hS9:=((((((hS1.b 6).b 6).b 6).b 6).b 6).b 6).packN 6
 refine ge_call2 (m:=0) (d:=some 6) (f:=27) (args:=#[pP bp0 0]) (by kernel_rfl) (mach_Machine_Done_ok bp0 lp0_0 Ap0_0 cp0_0 lp0_1 Ap0_1 cp0_1 lp0_2 Ap0_2 cp0_2 lp0_3 Ap0_3 cp0_3 lp0_4 Ap0_4 cp0_4 sp0_5 sp0_13 sp0_14 _ _ _ hS9 _ rfl) ?_
 rintro _ w2 ⟨rfl,hS8⟩
 refine ⟨_,rfl,?_⟩
 have hS10:=hS8.unpack [bk bp0 #[(.slice Ap0_0 lp0_0.length cp0_0),(.slice Ap0_1 lp0_1.length cp0_1),(.slice Ap0_2 lp0_2.length cp0_2),(.slice Ap0_3 lp0_3.length cp0_3),(.slice Ap0_4 lp0_4.length cp0_4),vI ((sp0_5[0]?).getD 0),vI ((sp0_5[1]?).getD 0),vI ((sp0_5[2]?).getD 0),vI ((sp0_5[3]?).getD 0),vI ((sp0_5[4]?).getD 0),vI ((sp0_5[5]?).getD 0),vI ((sp0_5[6]?).getD 0),vI ((sp0_5[7]?).getD 0),vI sp0_13,vI sp0_14] 86,ro Ap0_0 cp0_0 29 lp0_0,ro Ap0_1 cp0_1 3 lp0_1,ro Ap0_2 cp0_2 3 lp0_2,ro Ap0_3 cp0_3 101 lp0_3,ro Ap0_4 cp0_4 3 lp0_4]
 refine gn hK3 ?_
 by_cases hc1:(mach_Machine_Done.f lp0_0 lp0_1 lp0_2 lp0_3 lp0_4 sp0_5 sp0_13 sp0_14)=true
 ·rw [if_pos hc1] at h
  refine wk 6 (mach_Machine_Done.f lp0_0 lp0_1 lp0_2 lp0_3 lp0_4 sp0_5 sp0_13 sp0_14) true hc1<|wt<|ws fun K4 hK4=>wr [(0,0),(1,2),(2,0)]<|gb0 [0] [(7,.agg #[vI 0,vI 0,vI 0])] ?_
  have hS11:=hS10.b 6
  refine gs b1 0 #[vI 0,vI 0,vI 0] 29 [vI 0,vI 0,vI 0] hS11 fun w3 hS12=>?_
  have hS13:=hS12.nc #[vI 0,vI 0,vI 0] rfl
  refine gb0 [2] [(3,.bool false)]<|gn hK4 ?_
  have hS21:=hS13.p [1,2,3,4,5,6,7] rfl
  obtain rfl:=si h
  exact we_ret (pr [.cell 2 29,.tmp 3] [.agg #[vI 0,vI 0,vI 0],.bool false] [ld b1 0 (vI 0),ld b1 1 (vI 0),ld b1 2 (vI 0)] ⟨hS13.c 0,hS13.c 0,hS13.c 0,trivial⟩ ⟨(.slice Ap0_2 lp0_2.length cp0_2),(.slice Ap0_3 lp0_3.length cp0_3),(.slice Ap0_4 lp0_4.length cp0_4),rfl,hS21⟩)
 rw [if_neg hc1] at h
 refine wk 6 (mach_Machine_Done.f lp0_0 lp0_1 lp0_2 lp0_3 lp0_4 sp0_5 sp0_13 sp0_14) false (Bool.eq_false_iff.2 hc1)<|wf<|we_skip fun a hF=>hK2 _ _ ?_ a hF
 refine ws fun K5 hK5=>we_draws (by kernel_rfl) [(0,0),(1,0),(2,0),(3,0),(4,0),(5,0),(6,0),(7,0),(8,0),(9,0),(10,1),(11,2)] (by kernel_rfl) ?_
 have hS22:=hS10.drew
 refine gb [0,1,2,3,4,5,6,7] [(15,vI sp0_13),(14,pP bp0 13),(13,pP bp0 0),(12,pP bp0 0),(11,(.slice Ap0_0 lp0_0.length cp0_0)),(10,pP bp0 0),(9,pP bp0 0),(8,pP bp0 0)] [ld bp0 0 ((.slice Ap0_0 lp0_0.length cp0_0)),ld bp0 13 (vI sp0_13)] ⟨hS22.c 0,hS22.c 0,trivial⟩ ?_
 by_cases hc2:0≤sp0_13
 ·rw [if_pos hc2] at h
  rcases hx2:lp0_0[(sp0_13).toNat]? with _ | e1
  ·rw [hx2] at h; cases h
  rw [hx2] at h
  simp only [] at h
  refine gi 16 0 22 29 3 lp0_0.length cp0_0 (.tmp 11) (.tmp 15) Ap0_0 .i64 sp0_13 ((sp0_13).toNat) ((hS22.rdAt 1 rfl).eqSome (pos_of_get hx2)) (Int.toNat_of_nonneg hc2).symm (lt_of_get hx2) ?_
  refine gb [9] [(17,.agg #[vI e1.Op,vI e1.A,vI e1.B])] [.loaded ⟨blkOf Ap0_0,offOf Ap0_0+((sp0_13).toNat)*3,none⟩ (vI e1.Op),.loaded ⟨blkOf Ap0_0,offOf Ap0_0+((sp0_13).toNat)*3+1,none⟩ (vI e1.A),.loaded ⟨blkOf Ap0_0,offOf Ap0_0+((sp0_13).toNat)*3+2,none⟩ (vI e1.B)] ⟨RdL.cell (j:=0) (hS22.rdAt 1 rfl) hx2 rfl,RdL.cell (j:=1) (hS22.rdAt 1 rfl) hx2 rfl,RdL.cell (j:=2) (hS22.rdAt 1 rfl) hx2 rfl,trivial⟩<|gw (some 4) (.cells #[vI 0,vI 0,vI 0] 29) (fun b=>pP b 0) hS22 fun b2 w4 hx3 hS23=>?_
  refine gs b2 0 #[vI 0,vI 0,vI 0] 29 [vI e1.Op,vI e1.A,vI e1.B] hS23 fun w5 hS24=>?_
  have hS25:=hS24.nc #[vI e1.Op,vI e1.A,vI e1.B] rfl
  refine gn hK5<|ws fun K6 hK6=>?_
  rcases hq4:mach_Machine_Tick.p0 lp0_0 lp0_1 lp0_2 lp0_3 lp0_4 sp0_5 sp0_13 sp0_14 e1 with _ | (z2 | rr1)
  ·rw [hq4] at h; cases h
  ·rw [hq4] at h
   simp only [] at h
   refine kp (mach_Machine_Tick_p0 0 w0 bp0 lp0_0 Ap0_0 cp0_0 lp0_1 Ap0_1 cp0_1 lp0_2 Ap0_2 cp0_2 lp0_3 Ap0_3 cp0_3 lp0_4 Ap0_4 cp0_4 sp0_5 sp0_13 sp0_14 LT b1 hc1 hc2 e1 hx2 b2 _ hq4 _ hS25 _ ?_)
   rintro _ a w9 ⟨rfl,hS58,hF⟩
   replace hS58:St w0 w9 [bk b2 #[vI e1.Op,vI e1.A,vI e1.B] 29,bk bp0 #[(.slice Ap0_0 lp0_0.length cp0_0),(.slice Ap0_1 lp0_1.length cp0_1),(.slice Ap0_2 lp0_2.length cp0_2),(.slice Ap0_3 lp0_3.length cp0_3),(.slice Ap0_4 lp0_4.length cp0_4),vI ((sp0_5[0]?).getD 0),vI ((sp0_5[1]?).getD 0),vI ((sp0_5[2]?).getD 0),vI ((sp0_5[3]?).getD 0),vI ((sp0_5[4]?).getD 0),vI ((sp0_5[5]?).getD 0),vI ((sp0_5[6]?).getD 0),vI ((sp0_5[7]?).getD 0),vI sp0_13,vI z2] 86,bk b1 #[vI 0,vI 0,vI 0] 29,ro Ap0_0 cp0_0 29 lp0_0,ro Ap0_1 cp0_1 3 lp0_1,ro Ap0_2 cp0_2 3 lp0_2,ro Ap0_3 cp0_3 101 lp0_3,ro Ap0_4 cp0_4 3 lp0_4,Own.all LT]:=hS58
   refine hK6 [(0,pP bp0 0),(2,pP b1 0),(4,pP b2 0)] w9 ?_ a hF
   refine ws fun K8 hK8=>wr [(0,0),(1,0),(2,0),(3,0),(4,0),(5,0),(6,0),(7,2)]<|gb [0,1,2,3,4,5,6] [(37,pP bp0 14),(36,pP bp0 0),(35,vI (IntKind.i64.wrap (z2-1))),(34,vI z2),(33,pP bp0 14),(32,pP bp0 0),(31,pP bp0 0)] [ld bp0 14 (vI z2)] ⟨hS58.c 1,trivial⟩ ?_
   have hS59:=hS58.b 1
   refine gs bp0 14 #[(.slice Ap0_0 lp0_0.length cp0_0),(.slice Ap0_1 lp0_1.length cp0_1),(.slice Ap0_2 lp0_2.length cp0_2),(.slice Ap0_3 lp0_3.length cp0_3),(.slice Ap0_4 lp0_4.length cp0_4),vI ((sp0_5[0]?).getD 0),vI ((sp0_5[1]?).getD 0),vI ((sp0_5[2]?).getD 0),vI ((sp0_5[3]?).getD 0),vI ((sp0_5[4]?).getD 0),vI ((sp0_5[5]?).getD 0),vI ((sp0_5[6]?).getD 0),vI ((sp0_5[7]?).getD 0),vI sp0_13,vI z2] 86 [vI (IntKind.i64.wrap (z2-1))] hS59 fun w10 hS60=>?_
   have hS61:=hS60.nc #[(.slice Ap0_0 lp0_0.length cp0_0),(.slice Ap0_1 lp0_1.length cp0_1),(.slice Ap0_2 lp0_2.length cp0_2),(.slice Ap0_3 lp0_3.length cp0_3),(.slice Ap0_4 lp0_4.length cp0_4),vI ((sp0_5[0]?).getD 0),vI ((sp0_5[1]?).getD 0),vI ((sp0_5[2]?).getD 0),vI ((sp0_5[3]?).getD 0),vI ((sp0_5[4]?).getD 0),vI ((sp0_5[5]?).getD 0),vI ((sp0_5[6]?).getD 0),vI ((sp0_5[7]?).getD 0),vI sp0_13,vI (IntKind.i64.wrap (z2-1))] rfl
   refine gn hK8<|ws fun K9 hK9=>ws fun K10 hK10=>wr [(0,0),(1,0),(2,0),(3,0),(4,0)]<|gb [0,1,2,3,4] [(42,.bool (decide ((IntKind.i64.wrap (z2-1)) > 0))),(41,vI (IntKind.i64.wrap (z2-1))),(40,pP bp0 14),(39,pP bp0 0),(38,pP bp0 0)] [ld bp0 14 (vI (IntKind.i64.wrap (z2-1)))] ⟨hS61.c 0,trivial⟩<|gn hK10 ?_
   by_cases hc4:(IntKind.i64.wrap (z2-1)) > 0
   ·rw [if_pos hc4] at h
    refine wk 42 (decide ((IntKind.i64.wrap (z2-1)) > 0)) true (decide_eq_true hc4)<|wt<|ws fun K11 hK11=>wr [(0,0),(1,2),(2,0)]<|gb [0] [(43,.agg #[vI e1.Op,vI e1.A,vI e1.B])] [ld b2 0 (vI e1.Op),ld b2 1 (vI e1.A),ld b2 2 (vI e1.B)] ⟨hS61.c 1,hS61.c 1,hS61.c 1,trivial⟩ ?_
    have hS62:=hS61.b 2
    refine gs b1 0 #[vI 0,vI 0,vI 0] 29 [vI e1.Op,vI e1.A,vI e1.B] hS62 fun w11 hS63=>?_
    have hS64:=hS63.nc #[vI e1.Op,vI e1.A,vI e1.B] rfl
    refine gb0 [2] [(3,.bool false)]<|gn hK11 ?_
    have hS72:=hS64.p [1,3,4,5,6,7,8] rfl
    obtain rfl:=si h
    exact we_ret (pr [.cell 2 29,.tmp 3] [.agg #[vI e1.Op,vI e1.A,vI e1.B],.bool false] [ld b1 0 (vI e1.Op),ld b1 1 (vI e1.A),ld b1 2 (vI e1.B)] ⟨hS64.c 0,hS64.c 0,hS64.c 0,trivial⟩ ⟨(.slice Ap0_2 lp0_2.length cp0_2),(.slice Ap0_3 lp0_3.length cp0_3),(.slice Ap0_4 lp0_4.length cp0_4),rfl,hS72⟩)
   rw [if_neg hc4] at h
   refine wk 42 (decide ((IntKind.i64.wrap (z2-1)) > 0)) false (decide_eq_false hc4)<|wf<|we_skip fun a hF=>hK9 _ _ ?_ a hF
   refine ws fun K12 hK12=>wr [(0,0),(1,0),(2,0),(3,2),(4,0),(5,0),(6,2)]<|gb [0,1,2] [(46,.agg #[vI e1.Op,vI e1.A,vI e1.B]),(45,pP bp0 0),(44,pP bp0 0)] [ld b2 0 (vI e1.Op),ld b2 1 (vI e1.A),ld b2 2 (vI e1.B)] ⟨hS61.c 1,hS61.c 1,hS61.c 1,trivial⟩ ?_
   rcases hq5:mach_Machine_do.f lp0_0 lp0_1 lp0_2 lp0_3 lp0_4 sp0_5 sp0_13 (IntKind.i64.wrap (z2-1)) e1 with _ | r2
   ·rw [hq5] at h; cases h
   rw [hq5] at h
   simp only [] at h
   have hS80:=((((((hS61.b 7).b 7).b 7).b 7).b 7).b 5).packN 6
   refine ge_call2 (m:=0) (d:=some 47) (f:=44) (args:=#[pP bp0 0,.agg #[vI e1.Op,vI e1.A,vI e1.B]]) (by kernel_rfl) (mach_Machine_do_ok bp0 lp0_0 Ap0_0 cp0_0 lp0_1 Ap0_1 cp0_1 lp0_2 Ap0_2 cp0_2 lp0_3 Ap0_3 cp0_3 lp0_4 Ap0_4 cp0_4 sp0_5 sp0_13 (IntKind.i64.wrap (z2-1)) e1 _ _ _ hS80 _ hq5) ?_
   rintro _ w12 ⟨v1,v2,v3,rfl,hS79⟩
   refine ⟨_,rfl,?_⟩
   have hS81:=hS79.unpack [bk bp0 #[(.slice Ap0_0 lp0_0.length cp0_0),(.slice Ap0_1 lp0_1.length cp0_1),v1,v2,v3,vI ((r2.2.2.2.2[0]?).getD 0),vI ((r2.2.2.2.2[1]?).getD 0),vI ((r2.2.2.2.2[2]?).getD 0),vI ((r2.2.2.2.2[3]?).getD 0),vI ((r2.2.2.2.2[4]?).getD 0),vI ((r2.2.2.2.2[5]?).getD 0),vI ((r2.2.2.2.2[6]?).getD 0),vI ((r2.2.2.2.2[7]?).getD 0),vI sp0_13,vI (IntKind.i64.wrap (z2-1))] 86,ro Ap0_0 cp0_0 29 lp0_0,ro Ap0_1 cp0_1 3 lp0_1,Own.of v1 3 r2.2.1,Own.of v2 101 r2.2.2.1,Own.of v3 3 r2.2.2.2.1]
   refine gb0 [4,5] [(49,pP bp0 13),(48,pP bp0 0)]<|gs bp0 13 #[(.slice Ap0_0 lp0_0.length cp0_0),(.slice Ap0_1 lp0_1.length cp0_1),v1,v2,v3,vI ((r2.2.2.2.2[0]?).getD 0),vI ((r2.2.2.2.2[1]?).getD 0),vI ((r2.2.2.2.2[2]?).getD 0),vI ((r2.2.2.2.2[3]?).getD 0),vI ((r2.2.2.2.2[4]?).getD 0),vI ((r2.2.2.2.2[5]?).getD 0),vI ((r2.2.2.2.2[6]?).getD 0),vI ((r2.2.2.2.2[7]?).getD 0),vI sp0_13,vI (IntKind.i64.wrap (z2-1))] 86 [vI r2.1] hS81 fun w13 hS82=>?_
   have hS83:=hS82.nc #[(.slice Ap0_0 lp0_0.length cp0_0),(.slice Ap0_1 lp0_1.length cp0_1),v1,v2,v3,vI ((r2.2.2.2.2[0]?).getD 0),vI ((r2.2.2.2.2[1]?).getD 0),vI ((r2.2.2.2.2[2]?).getD 0),vI ((r2.2.2.2.2[3]?).getD 0),vI ((r2.2.2.2.2[4]?).getD 0),vI ((r2.2.2.2.2[5]?).getD 0),vI ((r2.2.2.2.2[6]?).getD 0),vI ((r2.2.2.2.2[7]?).getD 0),vI r2.1,vI (IntKind.i64.wrap (z2-1))] rfl
   refine gn hK12<|ws fun K13 hK13=>wr [(0,0),(1,2),(2,0)]<|gb [0] [(50,.agg #[vI e1.Op,vI e1.A,vI e1.B])] [ld b2 0 (vI e1.Op),ld b2 1 (vI e1.A),ld b2 2 (vI e1.B)] ⟨hS83.c 6,hS83.c 6,hS83.c 6,trivial⟩ ?_
   have hS84:=hS83.b 7
   refine gs b1 0 #[vI 0,vI 0,vI 0] 29 [vI e1.Op,vI e1.A,vI e1.B] hS84 fun w14 hS85=>?_
   have hS86:=hS85.nc #[vI e1.Op,vI e1.A,vI e1.B] rfl
   refine gb0 [2] [(3,.bool true)]<|gn hK13 ?_
   have hS94:=hS86.p [1,2,3,4,5,6,8] rfl
   obtain rfl:=si h
   exact we_ret (pr [.cell 2 29,.tmp 3] [.agg #[vI e1.Op,vI e1.A,vI e1.B],.bool true] [ld b1 0 (vI e1.Op),ld b1 1 (vI e1.A),ld b1 2 (vI e1.B)] ⟨hS86.c 0,hS86.c 0,hS86.c 0,trivial⟩ ⟨v1,v2,v3,rfl,hS94⟩)
  rw [hq4] at h
  simp only [] at h
  refine kp (mach_Machine_Tick_p0 0 w0 bp0 lp0_0 Ap0_0 cp0_0 lp0_1 Ap0_1 cp0_1 lp0_2 Ap0_2 cp0_2 lp0_3 Ap0_3 cp0_3 lp0_4 Ap0_4 cp0_4 sp0_5 sp0_13 sp0_14 LT b1 hc1 hc2 e1 hx2 b2 _ hq4 _ hS25 _ ?_)
  rintro _ a w1 ⟨_,rfl,hb⟩
  obtain rfl:=si h
  exact hb
 rw [if_neg hc2] at h
 cases h

/-! (*punctual/mach.Machine).At -/
abbrev mach_Machine_At.Post (w0:World) (bp0:Nat) (lp0_0:List SIns) (Ap0_0:OA) (cp0_0:Nat) (lp0_1:List Int) (Ap0_1:OA) (cp0_1:Nat) (lp0_2:List Int) (Ap0_2:OA) (cp0_2:Nat) (lp0_3:List SPut) (Ap0_3:OA) (cp0_3:Nat) (lp0_4:List Int) (Ap0_4:OA) (cp0_4:Nat) (sp0_5:List Int) (sp0_13 sp0_14:Int) (LT:List Own) (r:Int) (e:Ending) (w:World):Prop:=e=.returned (vI r)∧St w0 w [bk bp0 #[(.slice Ap0_0 lp0_0.length cp0_0),(.slice Ap0_1 lp0_1.length cp0_1),(.slice Ap0_2 lp0_2.length cp0_2),(.slice Ap0_3 lp0_3.length cp0_3),(.slice Ap0_4 lp0_4.length cp0_4),vI ((sp0_5[0]?).getD 0),vI ((sp0_5[1]?).getD 0),vI ((sp0_5[2]?).getD 0),vI ((sp0_5[3]?).getD 0),vI ((sp0_5[4]?).getD 0),vI ((sp0_5[5]?).getD 0),vI ((sp0_5[6]?).getD 0),vI ((sp0_5[7]?).getD 0),vI sp0_13,vI sp0_14] 86,ro Ap0_0 cp0_0 29 lp0_0,ro Ap0_1 cp0_1 3 lp0_1,ro Ap0_2 cp0_2 3 lp0_2,ro Ap0_3 cp0_3 101 lp0_3,ro Ap0_4 cp0_4 3 lp0_4,Own.all LT]
def mach_Machine_At.f (lp0_0 : List SIns) (lp0_1 : List Int) (lp0_2 : List Int) (lp0_3 : List SPut) (lp0_4 : List Int) (sp0_5 : List Int) (sp0_13 : Int) (sp0_14 : Int) : Int :=
 sp0_13
theorem mach_Machine_At_ok (bp0:Nat) (lp0_0:List SIns) (Ap0_0:OA) (cp0_0:Nat) (lp0_1:List Int) (Ap0_1:OA) (cp0_1:Nat) (lp0_2:List Int) (Ap0_2:OA) (cp0_2:Nat) (lp0_3:List SPut) (Ap0_3:OA) (cp0_3:Nat) (lp0_4:List Int) (Ap0_4:OA) (cp0_4:Nat) (sp0_5:List Int) (sp0_13 sp0_14:Int) (w0 wE:World) (LT:List Own) (hS:St w0 wE [bk bp0 #[(.slice Ap0_0 lp0_0.length cp0_0),(.slice Ap0_1 lp0_1.length cp0_1),(.slice Ap0_2 lp0_2.length cp0_2),(.slice Ap0_3 lp0_3.length cp0_3),(.slice Ap0_4 lp0_4.length cp0_4),vI ((sp0_5[0]?).getD 0),vI ((sp0_5[1]?).getD 0),vI ((sp0_5[2]?).getD 0),vI ((sp0_5[3]?).getD 0),vI ((sp0_5[4]?).getD 0),vI ((sp0_5[5]?).getD 0),vI ((sp0_5[6]?).getD 0),vI ((sp0_5[7]?).getD 0),vI sp0_13,vI sp0_14] 86,ro Ap0_0 cp0_0 29 lp0_0,ro Ap0_1 cp0_1 3 lp0_1,ro Ap0_2 cp0_2 3 lp0_2,ro Ap0_3 cp0_3 101 lp0_3,ro Ap0_4 cp0_4 3 lp0_4,Own.all LT]) (r:Int) (h:mach_Machine_At.f lp0_0 lp0_1 lp0_2 lp0_3 lp0_4 sp0_5 sp0_13 sp0_14=r) :
  Calls Tryd.prog 26 #[pP bp0 0] wE (mach_Machine_At.Post w0 bp0 lp0_0 Ap0_0 cp0_0 lp0_1 Ap0_1 cp0_1 lp0_2 Ap0_2 cp0_2 lp0_3 Ap0_3 cp0_3 lp0_4 Ap0_4 cp0_4 sp0_5 sp0_13 sp0_14 LT r):=by
 unfold mach_Machine_At.f at h
 refine calls_enter (n:=7) (args:=[pP bp0 0]) (fn:=Tryd.f26) rfl rfl rfl rfl ?_
 show WE _ _ _ _ [(0,pP bp0 0)] _
 refine ws fun K1 hK1=>wr [(0,0)]<|gb0 [0] [(2,vI 0)]<|gn hK1<|ws fun K2 hK2=>wr [(0,0),(1,0),(2,0),(3,0),(4,0)]<|gb [0,1,2,3,4] [(2,vI sp0_13),(6,vI sp0_13),(5,pP bp0 13),(4,pP bp0 0),(3,pP bp0 0)] [ld bp0 13 (vI sp0_13)] ⟨hS.c 0,trivial⟩<|gn hK2 ?_
 have hS7:=((((((hS.b 6).b 6).b 6).b 6).b 6).b 6).b 6
 subst h
 exact we_ret (pr0 [.tmp 2] [vI sp0_13] ⟨rfl,hS7⟩)

/-! punctual/punctualref.F -/
abbrev punctualref_F.Post (w0:World) (r:SFault) (e:Ending) (w:World):Prop:=e=.returned (.agg #[vI r.Code,vI r.At])∧St w0 w []
def punctualref_F.f (x0 : Int) (x1 : Int) : SFault :=
 (⟨x0,x1⟩:SFault)
theorem punctualref_F_ok (x0 x1:Int) (w0:World) (r:SFault) (h:punctualref_F.f x0 x1=r) :
  Calls Tryd.prog 9 #[vI x0,vI x1] w0 (punctualref_F.Post w0 r):=by
 have hS:=St.start w0
 unfold punctualref_F.f at h
 refine calls_enter (n:=8) (args:=[vI x0,vI x1]) (fn:=Tryd.f9) rfl rfl rfl rfl ?_
 show WE _ _ _ _ [(0,vI x0),(1,vI x1)] _
 refine ws fun K1 hK1=>wr [(0,1)]<|gw (some 4) (.cells #[vI 0,vI 0] 25) (fun b=>pP b 0) hS fun b1 w1 hx1 hS1=>?_
 refine gn hK1<|ws fun K2 hK2=>wr [(0,0),(1,0),(2,0),(3,2)]<|gb0 [0,1,2] [(7,.agg #[vI x0,vI x1]),(6,vI x1),(5,vI x0)]<|gs b1 0 #[vI 0,vI 0] 25 [vI x0,vI x1] hS1 fun w2 hS2=>?_
 have hS3:=hS2.nc #[vI x0,vI x1] rfl
 refine gn hK2 ?_
 have hS4:=hS3.takeN 0
 subst h
 exact we_ret (pr [.cell 4 25] [.agg #[vI x0,vI x1]] [ld b1 0 (vI x0),ld b1 1 (vI x1)] ⟨hS3.c 0,hS3.c 0,trivial⟩ ⟨rfl,hS4⟩)

/-! punctual/punctualref.wrongIns -/
abbrev punctualref_wrongIns.Post (w0:World) (r:Int) (e:Ending) (w:World):Prop:=e=.returned (vI r)∧St w0 w []
def punctualref_wrongIns.f (x0 : SIns) : Option Int :=
 if x0.Op<1 then
  some 6
 else
  if x0.Op > 18 then
   some 6
  else
   if 0≤x0.Op then
    match ([0,999999999,7,7,0,0,0,0,0,3,3,2000,2000,7,7,7,3,3,1000]:List Int)[(x0.Op).toNat]? with
    | none=>none
    | some e1 =>
     if x0.Op=13 then
      if x0.Op=14 then
       if x0.A<0 then
        some 3
       else
        if x0.A > e1 then
         some 3
        else
         if x0.B<0 then
          some 3
         else
          if x0.B > 2000 then
           some 3
          else
           if x0.Op=18 then
            if x0.A<1 then
             some 3
            else
             some 0
           else
            some 0
      else
       if x0.A<0 then
        some 3
       else
        if x0.A > e1 then
         some 3
        else
         if x0.B<0 then
          some 3
         else
          if x0.B > 1000 then
           some 3
          else
           if x0.Op=18 then
            if x0.A<1 then
             some 3
            else
             some 0
           else
            some 0
     else
      if x0.Op=14 then
       if x0.A<0 then
        some 3
       else
        if x0.A > e1 then
         some 3
        else
         if x0.B<0 then
          some 3
         else
          if x0.B > 2000 then
           some 3
          else
           if x0.Op=18 then
            if x0.A<1 then
             some 3
            else
             some 0
           else
            some 0
      else
       if x0.A<0 then
        some 3
       else
        if x0.A > e1 then
         some 3
        else
         if x0.B<0 then
          some 3
         else
          if x0.B > 0 then
           some 3
          else
           if x0.Op=18 then
            if x0.A<1 then
             some 3
            else
             some 0
           else
            some 0
   else
    none
theorem punctualref_wrongIns_ok (x0:SIns) (w0:World) (r:Int) (h:punctualref_wrongIns.f x0=some r) :
  Calls Tryd.prog 31 #[.agg #[vI x0.Op,vI x0.A,vI x0.B]] w0 (punctualref_wrongIns.Post w0 r):=by
 have hS:=St.start w0
 unfold punctualref_wrongIns.f at h
 refine calls_enter (n:=54) (args:=[.agg #[vI x0.Op,vI x0.A,vI x0.B]]) (fn:=Tryd.f31) rfl rfl rfl rfl ?_
 show WE _ _ _ _ [(0,.agg #[vI x0.Op,vI x0.A,vI x0.B])] _
 refine ws fun K1 hK1=>wr [(0,1),(1,0)]<|gw (some 1) (.cells #[vI x0.Op,vI x0.A,vI x0.B] 29) (fun b=>pP b 0) hS fun b1 w1 hx1 hS1=>?_
 refine gb0 [1] [(2,vI 0)]<|gn hK1<|ws fun K2 hK2=>ws fun K3 hK3=>wr [(0,0),(1,0),(2,0),(3,0),(4,0),(5,0),(6,0),(7,0)]<|gb [0,1,2,3] [(8,.bool (decide (x0.Op<1))),(7,.bool (decide (x0.Op<1))),(6,vI x0.Op),(5,pP b1 0)] [ld b1 0 (vI x0.Op)] ⟨hS1.c 0,trivial⟩ ?_
 by_cases hc1:x0.Op<1
 ·rw [if_pos hc1] at h
  refine gk 8 (decide (x0.Op<1)) true (decide_eq_true hc1)<|gb0 [4,5,6,7] [(12,.bool true),(11,undef),(10,undef),(9,undef)]<|gn hK3<|wt<|ws fun K4 hK4=>wr [(0,0)]<|gb0 [0] [(2,vI 6)]<|gn hK4 ?_
  have hS2:=hS1.takeN 0
  obtain rfl:=si h
  exact we_ret (pr0 [.tmp 2] [vI 6] ⟨rfl,hS2⟩)
 rw [if_neg hc1] at h
 refine gk 8 (decide (x0.Op<1)) false (decide_eq_false hc1)<|gb [4,5,6,7] [(12,.bool (decide (x0.Op > 18))),(11,.bool (decide (x0.Op > 18))),(10,vI x0.Op),(9,pP b1 0)] [ld b1 0 (vI x0.Op)] ⟨hS1.c 0,trivial⟩<|gn hK3 ?_
 by_cases hc2:x0.Op > 18
 ·rw [if_pos hc2] at h
  refine wk 12 (decide (x0.Op > 18)) true (decide_eq_true hc2)<|wt<|ws fun K5 hK5=>wr [(0,0)]<|gb0 [0] [(2,vI 6)]<|gn hK5 ?_
  have hS3:=hS1.takeN 0
  obtain rfl:=si h
  exact we_ret (pr0 [.tmp 2] [vI 6] ⟨rfl,hS3⟩)
 rw [if_neg hc2] at h
 refine wk 12 (decide (x0.Op > 18)) false (decide_eq_false hc2)<|wf<|we_skip fun a hF=>hK2 _ _ ?_ a hF
 refine ws fun K6 hK6=>wr [(0,1),(1,0),(2,0),(3,0),(4,0),(5,0)]<|gw (some 13) (.cells #[vI 0,vI 999999999,vI 7,vI 7,vI 0,vI 0,vI 0,vI 0,vI 0,vI 3,vI 3,vI 2000,vI 2000,vI 7,vI 7,vI 7,vI 3,vI 3,vI 1000] 3) (fun b=>.slice (some ⟨b,0,none⟩) 19 19) hS1 fun b2 w2 hx2 hS4=>?_
 refine gb [1,2] [(15,vI x0.Op),(14,pP b1 0)] [ld b1 0 (vI x0.Op)] ⟨hS4.c 1,trivial⟩ ?_
 by_cases hc3:0≤x0.Op
 ·rw [if_pos hc3] at h
  rcases hx3:([0,999999999,7,7,0,0,0,0,0,3,3,2000,2000,7,7,7,3,3,1000]:List Int)[(x0.Op).toNat]? with _ | e1
  ·rw [hx3] at h; cases h
  rw [hx3] at h
  simp only [] at h
  refine gi 16 0 37 3 1 19 19 (.tmp 13) (.tmp 15) (some ⟨b2,0,none⟩) .i64 x0.Op ((x0.Op).toNat) ((hS4.rdBlk 0 ([0,999999999,7,7,0,0,0,0,0,3,3,2000,2000,7,7,7,3,3,1000]:List Int) rfl rfl rfl).eqSome (pos_of_get hx3)) (Int.toNat_of_nonneg hc3).symm (lt_of_get hx3) ?_
  refine gb [4,5] [(3,vI e1),(17,vI e1)] [.loaded ⟨blkOf (some ⟨b2,0,none⟩),offOf (some ⟨b2,0,none⟩)+((x0.Op).toNat)*1,none⟩ (vI e1)] ⟨RdL.cell (j:=0) (hS4.rdBlk 0 ([0,999999999,7,7,0,0,0,0,0,3,3,2000,2000,7,7,7,3,3,1000]:List Int) rfl rfl rfl) hx3 rfl,trivial⟩<|gn hK6<|ws fun K7 hK7=>wr [(0,0)]<|gb0 [0] [(4,vI 0)]<|gn hK7<|ws fun K8 hK8=>ws fun K9 hK9=>wr [(0,0),(1,0),(2,0)]<|gb [0,1,2] [(20,.bool (x0.Op==13)),(19,vI x0.Op),(18,pP b1 0)] [ld b1 0 (vI x0.Op)] ⟨hS4.c 1,trivial⟩<|gn hK9 ?_
  by_cases hc4:x0.Op=13
  ·rw [if_pos hc4] at h
   refine wk 20 (x0.Op==13) true (beq_iff_eq.2 hc4)<|wt<|wr [(0,0)]<|gb0 [0] [(4,vI 1000)]<|gn hK8<|ws fun K10 hK10=>ws fun K11 hK11=>wr [(0,0),(1,0),(2,0)]<|gb [0,1,2] [(23,.bool (x0.Op==14)),(22,vI x0.Op),(21,pP b1 0)] [ld b1 0 (vI x0.Op)] ⟨hS4.c 1,trivial⟩<|gn hK11 ?_
   by_cases hc5:x0.Op=14
   ·rw [if_pos hc5] at h
    refine wk 23 (x0.Op==14) true (beq_iff_eq.2 hc5)<|wt<|wr [(0,0)]<|gb0 [0] [(4,vI 2000)]<|gn hK10<|ws fun K12 hK12=>ws fun K13 hK13=>wr [(0,0),(1,0),(2,0),(3,0),(4,0),(5,0),(6,0),(7,0),(8,0),(9,0),(10,0),(11,0),(12,0),(13,0),(14,0),(15,0),(16,0),(17,0),(18,0),(19,0),(20,0),(21,0),(22,0),(23,0),(24,0),(25,0),(26,0),(27,0),(28,0),(29,0)]<|gb [0,1,2,3] [(27,.bool (decide (x0.A<0))),(26,.bool (decide (x0.A<0))),(25,vI x0.A),(24,pP b1 1)] [ld b1 1 (vI x0.A)] ⟨hS4.c 1,trivial⟩ ?_
    by_cases hc6:x0.A<0
    ·rw [if_pos hc6] at h
     refine gk 27 (decide (x0.A<0)) true (decide_eq_true hc6)<|gb0 [4,5,6,7,8,9,10,11,12,13,14,15,16,17,18,19,20,21,22,23,24,25,26,27,28,29] [(53,.bool true),(52,undef),(51,undef),(50,undef),(49,undef),(48,undef),(47,undef),(46,undef),(45,undef),(44,.bool true),(43,.bool true),(42,undef),(41,undef),(40,undef),(39,undef),(38,.bool true),(37,.bool true),(36,undef),(35,undef),(34,undef),(33,.bool true),(32,.bool true),(31,undef),(30,undef),(29,undef),(28,undef)]<|gn hK13<|wt<|ws fun K14 hK14=>wr [(0,0)]<|gb0 [0] [(2,vI 3)]<|gn hK14 ?_
     have hS5:=hS4.takeN 0
     obtain rfl:=si h
     exact we_ret (pr0 [.tmp 2] [vI 3] ⟨rfl,hS5⟩)
    rw [if_neg hc6] at h
    refine gk 27 (decide (x0.A<0)) false (decide_eq_false hc6)<|gb [4,5,6,7,8,9] [(33,.bool (decide (x0.A > e1))),(32,.bool (decide (x0.A > e1))),(31,.bool (decide (x0.A > e1))),(30,vI e1),(29,vI x0.A),(28,pP b1 1)] [ld b1 1 (vI x0.A)] ⟨hS4.c 1,trivial⟩ ?_
    by_cases hc7:x0.A > e1
    ·rw [if_pos hc7] at h
     refine gk 33 (decide (x0.A > e1)) true (decide_eq_true hc7)<|gb0 [10,11,12,13,14,15,16,17,18,19,20,21,22,23,24,25,26,27,28,29] [(53,.bool true),(52,undef),(51,undef),(50,undef),(49,undef),(48,undef),(47,undef),(46,undef),(45,undef),(44,.bool true),(43,.bool true),(42,undef),(41,undef),(40,undef),(39,undef),(38,.bool true),(37,.bool true),(36,undef),(35,undef),(34,undef)]<|gn hK13<|wt<|ws fun K15 hK15=>wr [(0,0)]<|gb0 [0] [(2,vI 3)]<|gn hK15 ?_
     have hS6:=hS4.takeN 0
     obtain rfl:=si h
     exact we_ret (pr0 [.tmp 2] [vI 3] ⟨rfl,hS6⟩)
    rw [if_neg hc7] at h
    refine gk 33 (decide (x0.A > e1)) false (decide_eq_false hc7)<|gb [10,11,12,13,14] [(38,.bool (decide (x0.B<0))),(37,.bool (decide (x0.B<0))),(36,.bool (decide (x0.B<0))),(35,vI x0.B),(34,pP b1 2)] [ld b1 2 (vI x0.B)] ⟨hS4.c 1,trivial⟩ ?_
    by_cases hc8:x0.B<0
    ·rw [if_pos hc8] at h
     refine gk 38 (decide (x0.B<0)) true (decide_eq_true hc8)<|gb0 [15,16,17,18,19,20,21,22,23,24,25,26,27,28,29] [(53,.bool true),(52,undef),(51,undef),(50,undef),(49,undef),(48,undef),(47,undef),(46,undef),(45,undef),(44,.bool true),(43,.bool true),(42,undef),(41,undef),(40,undef),(39,undef)]<|gn hK13<|wt<|ws fun K16 hK16=>wr [(0,0)]<|gb0 [0] [(2,vI 3)]<|gn hK16 ?_
     have hS7:=hS4.takeN 0
     obtain rfl:=si h
     exact we_ret (pr0 [.tmp 2] [vI 3] ⟨rfl,hS7⟩)
    rw [if_neg hc8] at h
    refine gk 38 (decide (x0.B<0)) false (decide_eq_false hc8)<|gb [15,16,17,18,19,20] [(44,.bool (decide (x0.B > 2000))),(43,.bool (decide (x0.B > 2000))),(42,.bool (decide (x0.B > 2000))),(41,vI 2000),(40,vI x0.B),(39,pP b1 2)] [ld b1 2 (vI x0.B)] ⟨hS4.c 1,trivial⟩ ?_
    by_cases hc9:x0.B > 2000
    ·rw [if_pos hc9] at h
     refine gk 44 (decide (x0.B > 2000)) true (decide_eq_true hc9)<|gb0 [21,22,23,24,25,26,27,28,29] [(53,.bool true),(52,undef),(51,undef),(50,undef),(49,undef),(48,undef),(47,undef),(46,undef),(45,undef)]<|gn hK13<|wt<|ws fun K17 hK17=>wr [(0,0)]<|gb0 [0] [(2,vI 3)]<|gn hK17 ?_
     have hS8:=hS4.takeN 0
     obtain rfl:=si h
     exact we_ret (pr0 [.tmp 2] [vI 3] ⟨rfl,hS8⟩)
    rw [if_neg hc9] at h
    refine gk 44 (decide (x0.B > 2000)) false (decide_eq_false hc9)<|gb [21,22,23,24] [(48,.bool (x0.Op==18)),(47,.bool (x0.Op==18)),(46,vI x0.Op),(45,pP b1 0)] [ld b1 0 (vI x0.Op)] ⟨hS4.c 1,trivial⟩ ?_
    by_cases hc10:x0.Op=18
    ·rw [if_pos hc10] at h
     refine gk 48 (x0.Op==18) true (beq_iff_eq.2 hc10)<|gb [25,26,27,28,29] [(53,.bool (decide (x0.A<1))),(52,.bool (decide (x0.A<1))),(51,.bool (decide (x0.A<1))),(50,vI x0.A),(49,pP b1 1)] [ld b1 1 (vI x0.A)] ⟨hS4.c 1,trivial⟩<|gn hK13 ?_
     by_cases hc11:x0.A<1
     ·rw [if_pos hc11] at h
      refine wk 53 (decide (x0.A<1)) true (decide_eq_true hc11)<|wt<|ws fun K18 hK18=>wr [(0,0)]<|gb0 [0] [(2,vI 3)]<|gn hK18 ?_
      have hS9:=hS4.takeN 0
      obtain rfl:=si h
      exact we_ret (pr0 [.tmp 2] [vI 3] ⟨rfl,hS9⟩)
     rw [if_neg hc11] at h
     refine wk 53 (decide (x0.A<1)) false (decide_eq_false hc11)<|wf<|we_skip fun a hF=>hK12 _ _ ?_ a hF
     refine ws fun K19 hK19=>wr [(0,0)]<|gb0 [0] [(2,vI 0)]<|gn hK19 ?_
     have hS10:=hS4.takeN 0
     obtain rfl:=si h
     exact we_ret (pr0 [.tmp 2] [vI 0] ⟨rfl,hS10⟩)
    rw [if_neg hc10] at h
    refine gk 48 (x0.Op==18) false (beq_eq_false_iff_ne.2 hc10)<|gb0 [25,26,27,28,29] [(53,.bool false),(52,.bool false),(51,undef),(50,undef),(49,undef)]<|gn hK13<|wf<|we_skip fun a hF=>hK12 _ _ ?_ a hF
    refine ws fun K20 hK20=>wr [(0,0)]<|gb0 [0] [(2,vI 0)]<|gn hK20 ?_
    have hS11:=hS4.takeN 0
    obtain rfl:=si h
    exact we_ret (pr0 [.tmp 2] [vI 0] ⟨rfl,hS11⟩)
   rw [if_neg hc5] at h
   refine wk 23 (x0.Op==14) false (beq_eq_false_iff_ne.2 hc5)<|wf<|we_skip fun a hF=>hK10 _ _ ?_ a hF
   refine ws fun K21 hK21=>ws fun K22 hK22=>wr [(0,0),(1,0),(2,0),(3,0),(4,0),(5,0),(6,0),(7,0),(8,0),(9,0),(10,0),(11,0),(12,0),(13,0),(14,0),(15,0),(16,0),(17,0),(18,0),(19,0),(20,0),(21,0),(22,0),(23,0),(24,0),(25,0),(26,0),(27,0),(28,0),(29,0)]<|gb [0,1,2,3] [(27,.bool (decide (x0.A<0))),(26,.bool (decide (x0.A<0))),(25,vI x0.A),(24,pP b1 1)] [ld b1 1 (vI x0.A)] ⟨hS4.c 1,trivial⟩ ?_
   by_cases hc12:x0.A<0
   ·rw [if_pos hc12] at h
    refine gk 27 (decide (x0.A<0)) true (decide_eq_true hc12)<|gb0 [4,5,6,7,8,9,10,11,12,13,14,15,16,17,18,19,20,21,22,23,24,25,26,27,28,29] [(53,.bool true),(52,undef),(51,undef),(50,undef),(49,undef),(48,undef),(47,undef),(46,undef),(45,undef),(44,.bool true),(43,.bool true),(42,undef),(41,undef),(40,undef),(39,undef),(38,.bool true),(37,.bool true),(36,undef),(35,undef),(34,undef),(33,.bool true),(32,.bool true),(31,undef),(30,undef),(29,undef),(28,undef)]<|gn hK22<|wt<|ws fun K23 hK23=>wr [(0,0)]<|gb0 [0] [(2,vI 3)]<|gn hK23 ?_
    have hS12:=hS4.takeN 0
    obtain rfl:=si h
    exact we_ret (pr0 [.tmp 2] [vI 3] ⟨rfl,hS12⟩)
   rw [if_neg hc12] at h
   refine gk 27 (decide (x0.A<0)) false (decide_eq_false hc12)<|gb [4,5,6,7,8,9] [(33,.bool (decide (x0.A > e1))),(32,.bool (decide (x0.A > e1))),(31,.bool (decide (x0.A > e1))),(30,vI e1),(29,vI x0.A),(28,pP b1 1)] [ld b1 1 (vI x0.A)] ⟨hS4.c 1,trivial⟩ ?_
   by_cases hc13:x0.A > e1
   ·rw [if_pos hc13] at h
    refine gk 33 (decide (x0.A > e1)) true (decide_eq_true hc13)<|gb0 [10,11,12,13,14,15,16,17,18,19,20,21,22,23,24,25,26,27,28,29] [(53,.bool true),(52,undef),(51,undef),(50,undef),(49,undef),(48,undef),(47,undef),(46,undef),(45,undef),(44,.bool true),(43,.bool true),(42,undef),(41,undef),(40,undef),(39,undef),(38,.bool true),(37,.bool true),(36,undef),(35,undef),(34,undef)]<|gn hK22<|wt<|ws fun K24 hK24=>wr [(0,0)]<|gb0 [0] [(2,vI 3)]<|gn hK24 ?_
    have hS13:=hS4.takeN 0
    obtain rfl:=si h
    exact we_ret (pr0 [.tmp 2] [vI 3] ⟨rfl,hS13⟩)
   rw [if_neg hc13] at h
   refine gk 33 (decide (x0.A > e1)) false (decide_eq_false hc13)<|gb [10,11,12,13,14] [(38,.bool (decide (x0.B<0))),(37,.bool (decide (x0.B<0))),(36,.bool (decide (x0.B<0))),(35,vI x0.B),(34,pP b1 2)] [ld b1 2 (vI x0.B)] ⟨hS4.c 1,trivial⟩ ?_
   by_cases hc14:x0.B<0
   ·rw [if_pos hc14] at h
    refine gk 38 (decide (x0.B<0)) true (decide_eq_true hc14)<|gb0 [15,16,17,18,19,20,21,22,23,24,25,26,27,28,29] [(53,.bool true),(52,undef),(51,undef),(50,undef),(49,undef),(48,undef),(47,undef),(46,undef),(45,undef),(44,.bool true),(43,.bool true),(42,undef),(41,undef),(40,undef),(39,undef)]<|gn hK22<|wt<|ws fun K25 hK25=>wr [(0,0)]<|gb0 [0] [(2,vI 3)]<|gn hK25 ?_
    have hS14:=hS4.takeN 0
    obtain rfl:=si h
    exact we_ret (pr0 [.tmp 2] [vI 3] ⟨rfl,hS14⟩)
   rw [if_neg hc14] at h
   refine gk 38 (decide (x0.B<0)) false (decide_eq_false hc14)<|gb [15,16,17,18,19,20] [(44,.bool (decide (x0.B > 1000))),(43,.bool (decide (x0.B > 1000))),(42,.bool (decide (x0.B > 1000))),(41,vI 1000),(40,vI x0.B),(39,pP b1 2)] [ld b1 2 (vI x0.B)] ⟨hS4.c 1,trivial⟩ ?_
   by_cases hc15:x0.B > 1000
   ·rw [if_pos hc15] at h
    refine gk 44 (decide (x0.B > 1000)) true (decide_eq_true hc15)<|gb0 [21,22,23,24,25,26,27,28,29] [(53,.bool true),(52,undef),(51,undef),(50,undef),(49,undef),(48,undef),(47,undef),(46,undef),(45,undef)]<|gn hK22<|wt<|ws fun K26 hK26=>wr [(0,0)]<|gb0 [0] [(2,vI 3)]<|gn hK26 ?_
    have hS15:=hS4.takeN 0
    obtain rfl:=si h
    exact we_ret (pr0 [.tmp 2] [vI 3] ⟨rfl,hS15⟩)
   rw [if_neg hc15] at h
   refine gk 44 (decide (x0.B > 1000)) false (decide_eq_false hc15)<|gb [21,22,23,24] [(48,.bool (x0.Op==18)),(47,.bool (x0.Op==18)),(46,vI x0.Op),(45,pP b1 0)] [ld b1 0 (vI x0.Op)] ⟨hS4.c 1,trivial⟩ ?_
   by_cases hc16:x0.Op=18
   ·rw [if_pos hc16] at h
    refine gk 48 (x0.Op==18) true (beq_iff_eq.2 hc16)<|gb [25,26,27,28,29] [(53,.bool (decide (x0.A<1))),(52,.bool (decide (x0.A<1))),(51,.bool (decide (x0.A<1))),(50,vI x0.A),(49,pP b1 1)] [ld b1 1 (vI x0.A)] ⟨hS4.c 1,trivial⟩<|gn hK22 ?_
    by_cases hc17:x0.A<1
    ·rw [if_pos hc17] at h
     refine wk 53 (decide (x0.A<1)) true (decide_eq_true hc17)<|wt<|ws fun K27 hK27=>wr [(0,0)]<|gb0 [0] [(2,vI 3)]<|gn hK27 ?_
     have hS16:=hS4.takeN 0
     obtain rfl:=si h
     exact we_ret (pr0 [.tmp 2] [vI 3] ⟨rfl,hS16⟩)
    rw [if_neg hc17] at h
    refine wk 53 (decide (x0.A<1)) false (decide_eq_false hc17)<|wf<|we_skip fun a hF=>hK21 _ _ ?_ a hF
    refine ws fun K28 hK28=>wr [(0,0)]<|gb0 [0] [(2,vI 0)]<|gn hK28 ?_
    have hS17:=hS4.takeN 0
    obtain rfl:=si h
    exact we_ret (pr0 [.tmp 2] [vI 0] ⟨rfl,hS17⟩)
   rw [if_neg hc16] at h
   refine gk 48 (x0.Op==18) false (beq_eq_false_iff_ne.2 hc16)<|gb0 [25,26,27,28,29] [(53,.bool false),(52,.bool false),(51,undef),(50,undef),(49,undef)]<|gn hK22<|wf<|we_skip fun a hF=>hK21 _ _ ?_ a hF
   refine ws fun K29 hK29=>wr [(0,0)]<|gb0 [0] [(2,vI 0)]<|gn hK29 ?_
   have hS18:=hS4.takeN 0
   obtain rfl:=si h
   exact we_ret (pr0 [.tmp 2] [vI 0] ⟨rfl,hS18⟩)
  rw [if_neg hc4] at h
  refine wk 20 (x0.Op==13) false (beq_eq_false_iff_ne.2 hc4)<|wf<|we_skip fun a hF=>hK8 _ _ ?_ a hF
  refine ws fun K30 hK30=>ws fun K31 hK31=>wr [(0,0),(1,0),(2,0)]<|gb [0,1,2] [(23,.bool (x0.Op==14)),(22,vI x0.Op),(21,pP b1 0)] [ld b1 0 (vI x0.Op)] ⟨hS4.c 1,trivial⟩<|gn hK31 ?_
  by_cases hc18:x0.Op=14
  ·rw [if_pos hc18] at h
   refine wk 23 (x0.Op==14) true (beq_iff_eq.2 hc18)<|wt<|wr [(0,0)]<|gb0 [0] [(4,vI 2000)]<|gn hK30<|ws fun K32 hK32=>ws fun K33 hK33=>wr [(0,0),(1,0),(2,0),(3,0),(4,0),(5,0),(6,0),(7,0),(8,0),(9,0),(10,0),(11,0),(12,0),(13,0),(14,0),(15,0),(16,0),(17,0),(18,0),(19,0),(20,0),(21,0),(22,0),(23,0),(24,0),(25,0),(26,0),(27,0),(28,0),(29,0)]<|gb [0,1,2,3] [(27,.bool (decide (x0.A<0))),(26,.bool (decide (x0.A<0))),(25,vI x0.A),(24,pP b1 1)] [ld b1 1 (vI x0.A)] ⟨hS4.c 1,trivial⟩ ?_
   by_cases hc19:x0.A<0
   ·rw [if_pos hc19] at h
    refine gk 27 (decide (x0.A<0)) true (decide_eq_true hc19)<|gb0 [4,5,6,7,8,9,10,11,12,13,14,15,16,17,18,19,20,21,22,23,24,25,26,27,28,29] [(53,.bool true),(52,undef),(51,undef),(50,undef),(49,undef),(48,undef),(47,undef),(46,undef),(45,undef),(44,.bool true),(43,.bool true),(42,undef),(41,undef),(40,undef),(39,undef),(38,.bool true),(37,.bool true),(36,undef),(35,undef),(34,undef),(33,.bool true),(32,.bool true),(31,undef),(30,undef),(29,undef),(28,undef)]<|gn hK33<|wt<|ws fun K34 hK34=>wr [(0,0)]<|gb0 [0] [(2,vI 3)]<|gn hK34 ?_
    have hS19:=hS4.takeN 0
    obtain rfl:=si h
    exact we_ret (pr0 [.tmp 2] [vI 3] ⟨rfl,hS19⟩)
   rw [if_neg hc19] at h
   refine gk 27 (decide (x0.A<0)) false (decide_eq_false hc19)<|gb [4,5,6,7,8,9] [(33,.bool (decide (x0.A > e1))),(32,.bool (decide (x0.A > e1))),(31,.bool (decide (x0.A > e1))),(30,vI e1),(29,vI x0.A),(28,pP b1 1)] [ld b1 1 (vI x0.A)] ⟨hS4.c 1,trivial⟩ ?_
   by_cases hc20:x0.A > e1
   ·rw [if_pos hc20] at h
    refine gk 33 (decide (x0.A > e1)) true (decide_eq_true hc20)<|gb0 [10,11,12,13,14,15,16,17,18,19,20,21,22,23,24,25,26,27,28,29] [(53,.bool true),(52,undef),(51,undef),(50,undef),(49,undef),(48,undef),(47,undef),(46,undef),(45,undef),(44,.bool true),(43,.bool true),(42,undef),(41,undef),(40,undef),(39,undef),(38,.bool true),(37,.bool true),(36,undef),(35,undef),(34,undef)]<|gn hK33<|wt<|ws fun K35 hK35=>wr [(0,0)]<|gb0 [0] [(2,vI 3)]<|gn hK35 ?_
    have hS20:=hS4.takeN 0
    obtain rfl:=si h
    exact we_ret (pr0 [.tmp 2] [vI 3] ⟨rfl,hS20⟩)
   rw [if_neg hc20] at h
   refine gk 33 (decide (x0.A > e1)) false (decide_eq_false hc20)<|gb [10,11,12,13,14] [(38,.bool (decide (x0.B<0))),(37,.bool (decide (x0.B<0))),(36,.bool (decide (x0.B<0))),(35,vI x0.B),(34,pP b1 2)] [ld b1 2 (vI x0.B)] ⟨hS4.c 1,trivial⟩ ?_
   by_cases hc21:x0.B<0
   ·rw [if_pos hc21] at h
    refine gk 38 (decide (x0.B<0)) true (decide_eq_true hc21)<|gb0 [15,16,17,18,19,20,21,22,23,24,25,26,27,28,29] [(53,.bool true),(52,undef),(51,undef),(50,undef),(49,undef),(48,undef),(47,undef),(46,undef),(45,undef),(44,.bool true),(43,.bool true),(42,undef),(41,undef),(40,undef),(39,undef)]<|gn hK33<|wt<|ws fun K36 hK36=>wr [(0,0)]<|gb0 [0] [(2,vI 3)]<|gn hK36 ?_
    have hS21:=hS4.takeN 0
    obtain rfl:=si h
    exact we_ret (pr0 [.tmp 2] [vI 3] ⟨rfl,hS21⟩)
   rw [if_neg hc21] at h
   refine gk 38 (decide (x0.B<0)) false (decide_eq_false hc21)<|gb [15,16,17,18,19,20] [(44,.bool (decide (x0.B > 2000))),(43,.bool (decide (x0.B > 2000))),(42,.bool (decide (x0.B > 2000))),(41,vI 2000),(40,vI x0.B),(39,pP b1 2)] [ld b1 2 (vI x0.B)] ⟨hS4.c 1,trivial⟩ ?_
   by_cases hc22:x0.B > 2000
   ·rw [if_pos hc22] at h
    refine gk 44 (decide (x0.B > 2000)) true (decide_eq_true hc22)<|gb0 [21,22,23,24,25,26,27,28,29] [(53,.bool true),(52,undef),(51,undef),(50,undef),(49,undef),(48,undef),(47,undef),(46,undef),(45,undef)]<|gn hK33<|wt<|ws fun K37 hK37=>wr [(0,0)]<|gb0 [0] [(2,vI 3)]<|gn hK37 ?_
    have hS22:=hS4.takeN 0
    obtain rfl:=si h
    exact we_ret (pr0 [.tmp 2] [vI 3] ⟨rfl,hS22⟩)
   rw [if_neg hc22] at h
   refine gk 44 (decide (x0.B > 2000)) false (decide_eq_false hc22)<|gb [21,22,23,24] [(48,.bool (x0.Op==18)),(47,.bool (x0.Op==18)),(46,vI x0.Op),(45,pP b1 0)] [ld b1 0 (vI x0.Op)] ⟨hS4.c 1,trivial⟩ ?_
   by_cases hc23:x0.Op=18
   ·rw [if_pos hc23] at h
    refine gk 48 (x0.Op==18) true (beq_iff_eq.2 hc23)<|gb [25,26,27,28,29] [(53,.bool (decide (x0.A<1))),(52,.bool (decide (x0.A<1))),(51,.bool (decide (x0.A<1))),(50,vI x0.A),(49,pP b1 1)] [ld b1 1 (vI x0.A)] ⟨hS4.c 1,trivial⟩<|gn hK33 ?_
    by_cases hc24:x0.A<1
    ·rw [if_pos hc24] at h
     refine wk 53 (decide (x0.A<1)) true (decide_eq_true hc24)<|wt<|ws fun K38 hK38=>wr [(0,0)]<|gb0 [0] [(2,vI 3)]<|gn hK38 ?_
     have hS23:=hS4.takeN 0
     obtain rfl:=si h
     exact we_ret (pr0 [.tmp 2] [vI 3] ⟨rfl,hS23⟩)
    rw [if_neg hc24] at h
    refine wk 53 (decide (x0.A<1)) false (decide_eq_false hc24)<|wf<|we_skip fun a hF=>hK32 _ _ ?_ a hF
    refine ws fun K39 hK39=>wr [(0,0)]<|gb0 [0] [(2,vI 0)]<|gn hK39 ?_
    have hS24:=hS4.takeN 0
    obtain rfl:=si h
    exact we_ret (pr0 [.tmp 2] [vI 0] ⟨rfl,hS24⟩)
   rw [if_neg hc23] at h
   refine gk 48 (x0.Op==18) false (beq_eq_false_iff_ne.2 hc23)<|gb0 [25,26,27,28,29] [(53,.bool false),(52,.bool false),(51,undef),(50,undef),(49,undef)]<|gn hK33<|wf<|we_skip fun a hF=>hK32 _ _ ?_ a hF
   refine ws fun K40 hK40=>wr [(0,0)]<|gb0 [0] [(2,vI 0)]<|gn hK40 ?_
   have hS25:=hS4.takeN 0
   obtain rfl:=si h
   exact we_ret (pr0 [.tmp 2] [vI 0] ⟨rfl,hS25⟩)
  rw [if_neg hc18] at h
  refine wk 23 (x0.Op==14) false (beq_eq_false_iff_ne.2 hc18)<|wf<|we_skip fun a hF=>hK30 _ _ ?_ a hF
  refine ws fun K41 hK41=>ws fun K42 hK42=>wr [(0,0),(1,0),(2,0),(3,0),(4,0),(5,0),(6,0),(7,0),(8,0),(9,0),(10,0),(11,0),(12,0),(13,0),(14,0),(15,0),(16,0),(17,0),(18,0),(19,0),(20,0),(21,0),(22,0),(23,0),(24,0),(25,0),(26,0),(27,0),(28,0),(29,0)]<|gb [0,1,2,3] [(27,.bool (decide (x0.A<0))),(26,.bool (decide (x0.A<0))),(25,vI x0.A),(24,pP b1 1)] [ld b1 1 (vI x0.A)] ⟨hS4.c 1,trivial⟩ ?_
  by_cases hc25:x0.A<0
  ·rw [if_pos hc25] at h
   refine gk 27 (decide (x0.A<0)) true (decide_eq_true hc25)<|gb0 [4,5,6,7,8,9,10,11,12,13,14,15,16,17,18,19,20,21,22,23,24,25,26,27,28,29] [(53,.bool true),(52,undef),(51,undef),(50,undef),(49,undef),(48,undef),(47,undef),(46,undef),(45,undef),(44,.bool true),(43,.bool true),(42,undef),(41,undef),(40,undef),(39,undef),(38,.bool true),(37,.bool true),(36,undef),(35,undef),(34,undef),(33,.bool true),(32,.bool true),(31,undef),(30,undef),(29,undef),(28,undef)]<|gn hK42<|wt<|ws fun K43 hK43=>wr [(0,0)]<|gb0 [0] [(2,vI 3)]<|gn hK43 ?_
   have hS26:=hS4.takeN 0
   obtain rfl:=si h
   exact we_ret (pr0 [.tmp 2] [vI 3] ⟨rfl,hS26⟩)
  rw [if_neg hc25] at h
  refine gk 27 (decide (x0.A<0)) false (decide_eq_false hc25)<|gb [4,5,6,7,8,9] [(33,.bool (decide (x0.A > e1))),(32,.bool (decide (x0.A > e1))),(31,.bool (decide (x0.A > e1))),(30,vI e1),(29,vI x0.A),(28,pP b1 1)] [ld b1 1 (vI x0.A)] ⟨hS4.c 1,trivial⟩ ?_
  by_cases hc26:x0.A > e1
  ·rw [if_pos hc26] at h
   refine gk 33 (decide (x0.A > e1)) true (decide_eq_true hc26)<|gb0 [10,11,12,13,14,15,16,17,18,19,20,21,22,23,24,25,26,27,28,29] [(53,.bool true),(52,undef),(51,undef),(50,undef),(49,undef),(48,undef),(47,undef),(46,undef),(45,undef),(44,.bool true),(43,.bool true),(42,undef),(41,undef),(40,undef),(39,undef),(38,.bool true),(37,.bool true),(36,undef),(35,undef),(34,undef)]<|gn hK42<|wt<|ws fun K44 hK44=>wr [(0,0)]<|gb0 [0] [(2,vI 3)]<|gn hK44 ?_
   have hS27:=hS4.takeN 0
   obtain rfl:=si h
   exact we_ret (pr0 [.tmp 2] [vI 3] ⟨rfl,hS27⟩)
  rw [if_neg hc26] at h
  refine gk 33 (decide (x0.A > e1)) false (decide_eq_false hc26)<|gb [10,11,12,13,14] [(38,.bool (decide (x0.B<0))),(37,.bool (decide (x0.B<0))),(36,.bool (decide (x0.B<0))),(35,vI x0.B),(34,pP b1 2)] [ld b1 2 (vI x0.B)] ⟨hS4.c 1,trivial⟩ ?_
  by_cases hc27:x0.B<0
  ·rw [if_pos hc27] at h
   refine gk 38 (decide (x0.B<0)) true (decide_eq_true hc27)<|gb0 [15,16,17,18,19,20,21,22,23,24,25,26,27,28,29] [(53,.bool true),(52,undef),(51,undef),(50,undef),(49,undef),(48,undef),(47,undef),(46,undef),(45,undef),(44,.bool true),(43,.bool true),(42,undef),(41,undef),(40,undef),(39,undef)]<|gn hK42<|wt<|ws fun K45 hK45=>wr [(0,0)]<|gb0 [0] [(2,vI 3)]<|gn hK45 ?_
   have hS28:=hS4.takeN 0
   obtain rfl:=si h
   exact we_ret (pr0 [.tmp 2] [vI 3] ⟨rfl,hS28⟩)
  rw [if_neg hc27] at h
  refine gk 38 (decide (x0.B<0)) false (decide_eq_false hc27)<|gb [15,16,17,18,19,20] [(44,.bool (decide (x0.B > 0))),(43,.bool (decide (x0.B > 0))),(42,.bool (decide (x0.B > 0))),(41,vI 0),(40,vI x0.B),(39,pP b1 2)] [ld b1 2 (vI x0.B)] ⟨hS4.c 1,trivial⟩ ?_
  by_cases hc28:x0.B > 0
  ·rw [if_pos hc28] at h
   refine gk 44 (decide (x0.B > 0)) true (decide_eq_true hc28)<|gb0 [21,22,23,24,25,26,27,28,29] [(53,.bool true),(52,undef),(51,undef),(50,undef),(49,undef),(48,undef),(47,undef),(46,undef),(45,undef)]<|gn hK42<|wt<|ws fun K46 hK46=>wr [(0,0)]<|gb0 [0] [(2,vI 3)]<|gn hK46 ?_
   have hS29:=hS4.takeN 0
   obtain rfl:=si h
   exact we_ret (pr0 [.tmp 2] [vI 3] ⟨rfl,hS29⟩)
  rw [if_neg hc28] at h
  refine gk 44 (decide (x0.B > 0)) false (decide_eq_false hc28)<|gb [21,22,23,24] [(48,.bool (x0.Op==18)),(47,.bool (x0.Op==18)),(46,vI x0.Op),(45,pP b1 0)] [ld b1 0 (vI x0.Op)] ⟨hS4.c 1,trivial⟩ ?_
  by_cases hc29:x0.Op=18
  ·rw [if_pos hc29] at h
   refine gk 48 (x0.Op==18) true (beq_iff_eq.2 hc29)<|gb [25,26,27,28,29] [(53,.bool (decide (x0.A<1))),(52,.bool (decide (x0.A<1))),(51,.bool (decide (x0.A<1))),(50,vI x0.A),(49,pP b1 1)] [ld b1 1 (vI x0.A)] ⟨hS4.c 1,trivial⟩<|gn hK42 ?_
   by_cases hc30:x0.A<1
   ·rw [if_pos hc30] at h
    refine wk 53 (decide (x0.A<1)) true (decide_eq_true hc30)<|wt<|ws fun K47 hK47=>wr [(0,0)]<|gb0 [0] [(2,vI 3)]<|gn hK47 ?_
    have hS30:=hS4.takeN 0
    obtain rfl:=si h
    exact we_ret (pr0 [.tmp 2] [vI 3] ⟨rfl,hS30⟩)
   rw [if_neg hc30] at h
   refine wk 53 (decide (x0.A<1)) false (decide_eq_false hc30)<|wf<|we_skip fun a hF=>hK41 _ _ ?_ a hF
   refine ws fun K48 hK48=>wr [(0,0)]<|gb0 [0] [(2,vI 0)]<|gn hK48 ?_
   have hS31:=hS4.takeN 0
   obtain rfl:=si h
   exact we_ret (pr0 [.tmp 2] [vI 0] ⟨rfl,hS31⟩)
  rw [if_neg hc29] at h
  refine gk 48 (x0.Op==18) false (beq_eq_false_iff_ne.2 hc29)<|gb0 [25,26,27,28,29] [(53,.bool false),(52,.bool false),(51,undef),(50,undef),(49,undef)]<|gn hK42<|wf<|we_skip fun a hF=>hK41 _ _ ?_ a hF
  refine ws fun K49 hK49=>wr [(0,0)]<|gb0 [0] [(2,vI 0)]<|gn hK49 ?_
  have hS32:=hS4.takeN 0
  obtain rfl:=si h
  exact we_ret (pr0 [.tmp 2] [vI 0] ⟨rfl,hS32⟩)
 rw [if_neg hc3] at h
 cases h

/-! punctual/punctualref.ReadImage$1 -/
abbrev punctualref_ReadImage_1.Post (w0:World) (r:Bool) (e:Ending) (w:World):Prop:=e=.returned (.bool r)∧St w0 w []
def punctualref_ReadImage_1.r0 (x0 : Int) (lf_0 : List Int) (lf_1 : List SIns) (xf_2 : SIns) : Nat → Option (Nat ⊕ (Unit ⊕ Bool))
 | i1 =>
  if (i1:Int)<(lf_0.length:Int) then
   match lf_0[i1]? with
   | none=>none
   | some e1 =>
    if 0≤e1 then
     match lf_1[(e1).toNat]? with
     | none=>none
     | some e2 =>
      if e2.Op=x0 then
       if e2.A=xf_2.A then
        some (.inr (.inr true))
       else
        some (.inl (i1+1))
      else
       some (.inl (i1+1))
    else
     none
  else
   some (.inr (.inl ()))
def punctualref_ReadImage_1.f (K : Nat) (x0 : Int) (lf_0 : List Int) (lf_1 : List SIns) (xf_2 : SIns) : Option Bool :=
 match iter (punctualref_ReadImage_1.r0 x0 lf_0 lf_1 xf_2) K 0 with
 | none=>none
 | some (.inl _) =>
  some false
 | some (.inr rr1) =>
  some rr1
abbrev punctualref_ReadImage_1.A0 (w0:World) (x0:Int) (lf_0:List Int) (Af_0:OA) (cf_0 bf_1 bf_2:Nat):Nat→Act→World→Prop:=fun (s:Nat) a w=>St w0 w []∧Frm 32 a [(0,vI x0),(2,pP bf_1 0),(3,pP bf_2 0),(8,.slice Af_0 lf_0.length cf_0),(9,vI (lf_0.length:Int)),(10,vI (s:Int))]
abbrev punctualref_ReadImage_1.B0 (w0:World):(Unit ⊕ Bool)→Exit→Act→World→Prop:=Exits 0 (fun (s:Unit) a w=>St w0 w []∧Frm 32 a []) (Rets Tryd.prog Tryd.f32 (punctualref_ReadImage_1.Post w0))
theorem punctualref_ReadImage_1_r0 (K:Nat) (w0:World) (x0:Int) (bf_0:Nat) (lf_0:List Int) (Af_0:OA) (cf_0 bf_1:Nat) (lf_1:List SIns) (Af_1:OA) (cf_1 bf_2:Nat) (xf_2:SIns) (hRf_0:RdL w0 Af_0 lf_0) (hLf_0:lf_0.length≤cf_0) (hBf_0:Glob w0 bf_0 [.slice Af_0 lf_0.length cf_0]) (hRf_1:RdL w0 Af_1 lf_1) (hLf_1:lf_1.length≤cf_1) (hBf_1:Glob w0 bf_1 [.slice Af_1 lf_1.length cf_1]) (hBf_2:Glob w0 bf_2 [vI xf_2.Op,vI xf_2.A,vI xf_2.B]) (s:Nat) (o:Nat ⊕ (Unit ⊕ Bool)) (h:punctualref_ReadImage_1.r0 x0 lf_0 lf_1 xf_2 s=some o) (a:Act) (w:World) (hA:punctualref_ReadImage_1.A0 w0 x0 lf_0 Af_0 cf_0 bf_1 bf_2 s a w) (Q:Exit→Act→World→Prop) (hQ:∀ x a w,Outs (punctualref_ReadImage_1.A0 w0 x0 lf_0 Af_0 cf_0 bf_1 bf_2) (punctualref_ReadImage_1.B0 w0) o x a w→Q x a w):(subF Tryd.f32 [1,0,1,0,0]).wp Tryd.prog Q a w:=by
 obtain ⟨i1,hs⟩:∃ z,z=s:=⟨s,rfl⟩
 subst hs
 obtain ⟨hS,hF⟩:=hA
 replace hS:St w0 w []:=hS
 simp only [punctualref_ReadImage_1.r0] at h
 refine (?_:WE Tryd.prog 32 (subF Tryd.f32 [1,0,1,0,0]) Q [(0,vI x0),(2,pP bf_1 0),(3,pP bf_2 0),(8,.slice Af_0 lf_0.length cf_0),(9,vI (lf_0.length:Int)),(10,vI (i1:Int))] w) a hF
 clear hF a
 refine ws fun K4 hK4=>wr [(0,0)]<|gb0 [0] [(11,.bool (decide ((i1:Int)<(lf_0.length:Int))))]<|gn hK4<|ws fun K5 hK5=>?_
 by_cases hc1:(i1:Int)<(lf_0.length:Int)
 ·rw [if_pos hc1] at h
  refine wk 11 (decide ((i1:Int)<(lf_0.length:Int))) true (decide_eq_true hc1)<|wt<|we_skip fun a hF=>hK5 _ _ ?_ a hF
  refine ws fun K6 hK6=>we_block<|ws fun K7 hK7=>wr [(0,0),(1,0),(2,0)] ?_
  rcases hx1:lf_0[i1]? with _ | e1
  ·rw [hx1] at h; cases h
  rw [hx1] at h
  simp only [] at h
  refine gi 12 0 37 3 1 lf_0.length cf_0 (.tmp 8) (.tmp 10) Af_0 .i64 (i1:Int) i1 ((hS.rd hRf_0).eqSome (pos_of_get hx1)) rfl (lt_of_get hx1) ?_
  refine gb [1,2] [(7,vI e1),(13,vI e1)] [.loaded ⟨blkOf Af_0,offOf Af_0+i1*1,none⟩ (vI e1)] ⟨RdL.cell (j:=0) (hS.rd hRf_0) hx1 rfl,trivial⟩<|gn hK7<|ws fun K8 hK8=>we_draws (by kernel_rfl) [(0,0),(1,0),(2,0),(3,0),(4,0),(5,0),(6,0),(7,0),(8,0),(9,0),(10,0),(11,0),(12,0),(13,0),(14,0),(15,0),(16,0)] (by kernel_rfl) ?_
  have hS1:=hS.drew
  refine gb [0,1] [(15,vI e1),(14,.slice Af_1 lf_1.length cf_1)] [ld bf_1 0 (.slice Af_1 lf_1.length cf_1)] ⟨hS1.glob hBf_1 rfl,trivial⟩ ?_
  by_cases hc2:0≤e1
  ·rw [if_pos hc2] at h
   rcases hx2:lf_1[(e1).toNat]? with _ | e2
   ·rw [hx2] at h; cases h
   rw [hx2] at h
   simp only [] at h
   refine gi 16 0 22 29 3 lf_1.length cf_1 (.tmp 14) (.tmp 15) Af_1 .i64 e1 ((e1).toNat) ((hS1.rd hRf_1).eqSome (pos_of_get hx2)) (Int.toNat_of_nonneg hc2).symm (lt_of_get hx2) ?_
   refine gb [3,4,5,6,7] [(21,.bool (e2.Op==x0)),(20,.bool (e2.Op==x0)),(19,vI x0),(18,vI e2.Op),(17,.pointer (some ⟨blkOf Af_1,offOf Af_1+(e1).toNat*3,none⟩))] [.loaded ⟨blkOf Af_1,offOf Af_1+((e1).toNat)*3,none⟩ (vI e2.Op)] ⟨RdL.cell (j:=0) (hS1.rd hRf_1) hx2 rfl,trivial⟩ ?_
   by_cases hc3:e2.Op=x0
   ·rw [if_pos hc3] at h
    refine gk 21 (e2.Op==x0) true (beq_iff_eq.2 hc3)<|gb [8,9] [(23,vI e1),(22,.slice Af_1 lf_1.length cf_1)] [ld bf_1 0 (.slice Af_1 lf_1.length cf_1)] ⟨hS1.glob hBf_1 rfl,trivial⟩<|gi 24 0 22 29 3 lf_1.length cf_1 (.tmp 22) (.tmp 23) Af_1 .i64 e1 ((e1).toNat) ((hS1.rd hRf_1).eqSome (pos_of_get hx2)) (Int.toNat_of_nonneg hc2).symm (lt_of_get hx2) ?_
    refine gb [11,12,13,14,15,16] [(30,.bool (e2.A==xf_2.A)),(29,.bool (e2.A==xf_2.A)),(28,vI xf_2.A),(27,pP bf_2 1),(26,vI e2.A),(25,.pointer (some ⟨blkOf Af_1,offOf Af_1+(e1).toNat*3+1,none⟩))] [.loaded ⟨blkOf Af_1,offOf Af_1+((e1).toNat)*3+1,none⟩ (vI e2.A),ld bf_2 1 (vI xf_2.A)] ⟨RdL.cell (j:=1) (hS1.rd hRf_1) hx2 rfl,hS1.glob hBf_2 rfl,trivial⟩<|gn hK8 ?_
    by_cases hc4:e2.A=xf_2.A
    ·rw [if_pos hc4] at h
     refine wk 30 (e2.A==xf_2.A) true (beq_iff_eq.2 hc4)<|wt<|ws fun K9 hK9=>wr [(0,0)]<|gb0 [0] [(5,.bool true)]<|gn hK9 ?_
     obtain rfl:=si h
     exact we_ret fun a hF=>hQ _ _ _ (Outs.out nofun (Exits.on ⟨rfl,(pr0 [.tmp 5] [.bool true] ⟨rfl,hS1⟩) a hF⟩))
    rw [if_neg hc4] at h
    refine wk 30 (e2.A==xf_2.A) false (beq_eq_false_iff_ne.2 hc4)<|wf<|we_skip fun a hF=>hK6 _ _ ?_ a hF
    refine wr [(0,0),(1,0)]<|ge_addn (d:=31) (ty:=3) (x:=(.tmp 10)) (y:=(.const (vI 1))) (t:=3) (t2:=3) (k:=.i64) (m:=i1) (by kernel_rfl) (by kernel_rfl) (by kernel_rfl) (by have h0:=hRf_0.small; omega) ?_
    refine gb0 [1] [(10,vI ((i1+1:Nat):Int))] ?_
    obtain rfl:=si h
    exact ge_nil fun a hF=>hQ _ _ _ (Outs.again ⟨hS1,hF.weaken ea⟩)
   rw [if_neg hc3] at h
   refine gk 21 (e2.Op==x0) false (beq_eq_false_iff_ne.2 hc3)<|gb0 [8,9,10,11,12,13,14,15,16] [(30,.bool false),(29,undef),(28,undef),(27,undef),(26,undef),(25,undef),(24,undef),(23,undef),(22,undef)]<|gn hK8<|wf<|we_skip fun a hF=>hK6 _ _ ?_ a hF
   refine wr [(0,0),(1,0)]<|ge_addn (d:=31) (ty:=3) (x:=(.tmp 10)) (y:=(.const (vI 1))) (t:=3) (t2:=3) (k:=.i64) (m:=i1) (by kernel_rfl) (by kernel_rfl) (by kernel_rfl) (by have h0:=hRf_0.small; omega) ?_
   refine gb0 [1] [(10,vI ((i1+1:Nat):Int))] ?_
   obtain rfl:=si h
   exact ge_nil fun a hF=>hQ _ _ _ (Outs.again ⟨hS1,hF.weaken ea⟩)
  rw [if_neg hc2] at h
  cases h
 rw [if_neg hc1] at h
 refine wk 11 (decide ((i1:Int)<(lf_0.length:Int))) false (decide_eq_false hc1)<|wf ?_
 obtain rfl:=si h
 exact we_exit fun a hF=>hQ _ _ _ (Outs.out nofun (Exits.here ⟨hS,hF.weaken trivial⟩))
theorem punctualref_ReadImage_1_ok (K:Nat) (x0:Int) (bf_0:Nat) (lf_0:List Int) (Af_0:OA) (cf_0 bf_1:Nat) (lf_1:List SIns) (Af_1:OA) (cf_1 bf_2:Nat) (xf_2:SIns) (w0:World) (hRf_0:RdL w0 Af_0 lf_0) (hLf_0:lf_0.length≤cf_0) (hBf_0:Glob w0 bf_0 [.slice Af_0 lf_0.length cf_0]) (hRf_1:RdL w0 Af_1 lf_1) (hLf_1:lf_1.length≤cf_1) (hBf_1:Glob w0 bf_1 [.slice Af_1 lf_1.length cf_1]) (hBf_2:Glob w0 bf_2 [vI xf_2.Op,vI xf_2.A,vI xf_2.B]) (r:Bool) (h:punctualref_ReadImage_1.f K x0 lf_0 lf_1 xf_2=some r) :
  Calls Tryd.prog 32 #[vI x0,pP bf_0 0,pP bf_1 0,pP bf_2 0] w0 (punctualref_ReadImage_1.Post w0 r):=by
 have hS:=St.start w0
 unfold punctualref_ReadImage_1.f at h
 refine calls_enter (n:=32) (args:=[vI x0,pP bf_0 0,pP bf_1 0,pP bf_2 0]) (fn:=Tryd.f32) rfl rfl rfl rfl ?_
 show WE _ _ _ _ [(0,vI x0),(1,pP bf_0 0),(2,pP bf_1 0),(3,pP bf_2 0)] _
 refine ws fun K1 hK1=>wr [(0,0)]<|gb0 [0] [(5,.bool false)]<|gn hK1<|ws fun K2 hK2=>ws fun K3 hK3=>wr [(0,0),(1,0),(2,0)]<|gb [0,1,2] [(10,vI 0),(9,vI (lf_0.length:Int)),(8,.slice Af_0 lf_0.length cf_0)] [ld bf_0 0 (.slice Af_0 lf_0.length cf_0)] ⟨hS.glob hBf_0 rfl,trivial⟩<|gn hK3<|we_block ?_
 rcases hq1:iter (punctualref_ReadImage_1.r0 x0 lf_0 lf_1 xf_2) K 0 with _ | (_ | rr1)
 ·rw [hq1] at h; cases h
 ·rw [hq1] at h
  simp only [] at h
  refine we_iter (A:=punctualref_ReadImage_1.A0 w0 x0 lf_0 Af_0 cf_0 bf_1 bf_2) (B:=punctualref_ReadImage_1.B0 w0) hq1 (fun a hF=>⟨hS,hF.weaken ea⟩) (fun s o hf a w hA Q hQ=>punctualref_ReadImage_1_r0 K w0 x0 bf_0 lf_0 Af_0 cf_0 bf_1 lf_1 Af_1 cf_1 bf_2 xf_2 hRf_0 hLf_0 hBf_0 hRf_1 hLf_1 hBf_1 hBf_2 s o hf a w hA Q hQ) ?_
  rintro _ a w1 _ ⟨rfl,hS2,hF⟩
  replace hS2:St w0 w1 []:=hS2
  refine hK2 [] w1 ?_ a hF
  refine ws fun K10 hK10=>wr [(0,0)]<|gb0 [0] [(5,.bool false)]<|gn hK10 ?_
  obtain rfl:=si h
  exact we_ret (pr0 [.tmp 5] [.bool false] ⟨rfl,hS2⟩)
 rw [hq1] at h
 simp only [] at h
 refine we_iter (A:=punctualref_ReadImage_1.A0 w0 x0 lf_0 Af_0 cf_0 bf_1 bf_2) (B:=punctualref_ReadImage_1.B0 w0) hq1 (fun a hF=>⟨hS,hF.weaken ea⟩) (fun s o hf a w hA Q hQ=>punctualref_ReadImage_1_r0 K w0 x0 bf_0 lf_0 Af_0 cf_0 bf_1 lf_1 Af_1 cf_1 bf_2 xf_2 hRf_0 hLf_0 hBf_0 hRf_1 hLf_1 hBf_1 hBf_2 s o hf a w hA Q hQ) ?_
 rintro _ a w1 _ ⟨rfl,hb⟩
 obtain rfl:=si h
 exact hb

structure Sregion where
 open_:Int
 close:Int
def Sregion.eqb (x y : Sregion) : Bool := ((x.open_ == y.open_) && ((x.close == y.close) && true))
instance : Ok Sregion := ⟨fun x => Ok.ok x.open_ ∧ Ok.ok x.close ∧ True⟩
instance : Flat Sregion := ⟨2, fun x => [vI x.open_, vI x.close], fun _ => rfl, fun _ => rfl, by decide⟩

structure SImage where
 L:List SIns
 Regions:List Sregion

/-! (*punctual/punctualref.Image).inner -/
abbrev punctualref_Image_inner.Post (w0:World) (r:Sregion×Bool) (e:Ending) (w:World):Prop:=e=.returned (.tuple #[.agg #[vI r.1.open_,vI r.1.close],.bool r.2])∧St w0 w []
def punctualref_Image_inner.r0 (lq_0_1 : List Sregion) (x1 : Int) : Bool × Nat × Int × Int → Option ((Bool × Nat × Int × Int) ⊕ ((Bool × Int × Int) ⊕ (Sregion × Bool)))
 | (q1,i1,z1,z2) =>
  if (i1:Int)<(lq_0_1.length:Int) then
   match lq_0_1[i1]? with
   | none=>none
   | some e1 =>
    if e1.open_<x1 then
     if x1≤e1.close then
      if q1=true then
       if e1.open_ > z1 then
        some (.inl (true,(i1+1),e1.open_,e1.close))
       else
        some (.inl (q1,(i1+1),z1,z2))
      else
       some (.inl (true,(i1+1),e1.open_,e1.close))
     else
      some (.inl (q1,(i1+1),z1,z2))
    else
     some (.inl (q1,(i1+1),z1,z2))
  else
   some (.inr (.inl (q1,z1,z2)))
def punctualref_Image_inner.f (K : Nat) (lq_0_0 : List SIns) (lq_0_1 : List Sregion) (x1 : Int) : Option (Sregion × Bool) :=
 match iter (punctualref_Image_inner.r0 lq_0_1 x1) K (false,0,0,0) with
 | none=>none
 | some (.inl (q3,z5,z6)) =>
  some ((⟨z5,z6⟩:Sregion),q3)
 | some (.inr rr1) =>
  some rr1
abbrev punctualref_Image_inner.A0 (w0:World) (lq_0_1:List Sregion) (Aq_0_1:OA) (cq_0_1:Nat) (x1:Int) (b1 b2:Nat):(Bool×Nat×Int×Int)→Act→World→Prop:=fun (s:Bool×Nat×Int×Int) a w=>St w0 w [bk b2 #[vI s.2.2.1,vI s.2.2.2] 74,bk b1 #[vI 0,vI 0] 74]∧Frm 45 a [(1,vI x1),(4,pP b1 0),(6,pP b2 0),(7,.bool s.1),(14,.slice Aq_0_1 lq_0_1.length cq_0_1),(15,vI (lq_0_1.length:Int)),(16,vI (s.2.1:Int))]
abbrev punctualref_Image_inner.B0 (w0:World) (b1 b2:Nat):((Bool×Int×Int) ⊕ (Sregion×Bool))→Exit→Act→World→Prop:=Exits 0 (fun (s:Bool×Int×Int) a w=>St w0 w [bk b2 #[vI s.2.1,vI s.2.2] 74,bk b1 #[vI 0,vI 0] 74]∧Frm 45 a [(4,pP b1 0),(6,pP b2 0),(7,.bool s.1)]) (Rets Tryd.prog Tryd.f33 (punctualref_Image_inner.Post w0))
theorem punctualref_Image_inner_r0 (K:Nat) (w0:World) (bq_0:Nat) (lq_0_0:List SIns) (Aq_0_0:OA) (cq_0_0:Nat) (lq_0_1:List Sregion) (Aq_0_1:OA) (cq_0_1:Nat) (x1:Int) (hRq_0_0:RdL w0 Aq_0_0 lq_0_0) (hLq_0_0:lq_0_0.length≤cq_0_0) (hRq_0_1:RdL w0 Aq_0_1 lq_0_1) (hLq_0_1:lq_0_1.length≤cq_0_1) (hBq_0:Glob w0 bq_0 [.slice Aq_0_0 lq_0_0.length cq_0_0,.slice Aq_0_1 lq_0_1.length cq_0_1]) (b1 b2:Nat) (s:Bool×Nat×Int×Int) (o:(Bool×Nat×Int×Int) ⊕ ((Bool×Int×Int) ⊕ (Sregion×Bool))) (h:punctualref_Image_inner.r0 lq_0_1 x1 s=some o) (a:Act) (w:World) (hA:punctualref_Image_inner.A0 w0 lq_0_1 Aq_0_1 cq_0_1 x1 b1 b2 s a w) (Q:Exit→Act→World→Prop) (hQ:∀ x a w,Outs (punctualref_Image_inner.A0 w0 lq_0_1 Aq_0_1 cq_0_1 x1 b1 b2) (punctualref_Image_inner.B0 w0 b1 b2) o x a w→Q x a w):(subF Tryd.f33 [1,1,0,1,0,0]).wp Tryd.prog Q a w:=by
 obtain ⟨q1,i1,z1,z2⟩:=s
 obtain ⟨hS,hF⟩:=hA
 replace hS:St w0 w [bk b2 #[vI z1,vI z2] 74,bk b1 #[vI 0,vI 0] 74]:=hS
 simp only [punctualref_Image_inner.r0] at h
 refine (?_:WE Tryd.prog 45 (subF Tryd.f33 [1,1,0,1,0,0]) Q [(1,vI x1),(4,pP b1 0),(6,pP b2 0),(7,.bool q1),(14,.slice Aq_0_1 lq_0_1.length cq_0_1),(15,vI (lq_0_1.length:Int)),(16,vI (i1:Int))] w) a hF
 clear hF a
 refine ws fun K5 hK5=>wr [(0,0)]<|gb0 [0] [(17,.bool (decide ((i1:Int)<(lq_0_1.length:Int))))]<|gn hK5<|ws fun K6 hK6=>?_
 by_cases hc1:(i1:Int)<(lq_0_1.length:Int)
 ·rw [if_pos hc1] at h
  refine wk 17 (decide ((i1:Int)<(lq_0_1.length:Int))) true (decide_eq_true hc1)<|wt<|we_skip fun a hF=>hK6 _ _ ?_ a hF
  refine ws fun K7 hK7=>we_block<|ws fun K8 hK8=>wr [(0,0),(1,0),(2,1),(3,2)] ?_
  rcases hx3:lq_0_1[i1]? with _ | e1
  ·rw [hx3] at h; cases h
  rw [hx3] at h
  simp only [] at h
  refine gi 18 0 68 74 2 lq_0_1.length cq_0_1 (.tmp 14) (.tmp 16) Aq_0_1 .i64 (i1:Int) i1 ((hS.rd hRq_0_1).eqSome (pos_of_get hx3)) rfl (lt_of_get hx3) ?_
  refine gb [1] [(19,.agg #[vI e1.open_,vI e1.close])] [.loaded ⟨blkOf Aq_0_1,offOf Aq_0_1+i1*2,none⟩ (vI e1.open_),.loaded ⟨blkOf Aq_0_1,offOf Aq_0_1+i1*2+1,none⟩ (vI e1.close)] ⟨RdL.cell (j:=0) (hS.rd hRq_0_1) hx3 rfl,RdL.cell (j:=1) (hS.rd hRq_0_1) hx3 rfl,trivial⟩<|gw (some 9) (.cells #[vI 0,vI 0] 74) (fun b=>pP b 0) hS fun b3 w4 hx4 hS7=>?_
  refine gs b3 0 #[vI 0,vI 0] 74 [vI e1.open_,vI e1.close] hS7 fun w5 hS8=>?_
  have hS9:=hS8.nc #[vI e1.open_,vI e1.close] rfl
  refine gn hK8<|ws fun K9 hK9=>wr [(0,0),(1,0),(2,0),(3,0),(4,0),(5,0),(6,0),(7,0),(8,0),(9,0),(10,0),(11,0),(12,0),(13,0),(14,0),(15,0),(16,0),(17,0),(18,0),(19,0),(20,0)]<|gb [0,1,2,3,4] [(24,.bool (decide (e1.open_<x1))),(23,.bool (decide (e1.open_<x1))),(22,vI x1),(21,vI e1.open_),(20,pP b3 0)] [ld b3 0 (vI e1.open_)] ⟨hS9.c 0,trivial⟩ ?_
  by_cases hc2:e1.open_<x1
  ·rw [if_pos hc2] at h
   refine gk 24 (decide (e1.open_<x1)) true (decide_eq_true hc2)<|gb [5,6,7,8,9,10] [(30,.bool (decide (x1≤e1.close))),(29,.bool (decide (x1≤e1.close))),(28,.bool (decide (x1≤e1.close))),(27,vI e1.close),(26,pP b3 1),(25,vI x1)] [ld b3 1 (vI e1.close)] ⟨hS9.c 0,trivial⟩ ?_
   by_cases hc3:x1≤e1.close
   ·rw [if_pos hc3] at h
    refine gk 30 (decide (x1≤e1.close)) true (decide_eq_true hc3)<|gb0 [11,12,13] [(33,.bool (!q1)),(32,.bool (!q1)),(31,.bool q1)] ?_
    by_cases hc4:q1=true
    ·rw [if_pos hc4] at h
     refine gk 33 (!q1) false (congrArg (fun z=>!z) hc4)<|gb [14,15,16,17,18,19,20] [(40,.bool (decide (e1.open_ > z1))),(39,.bool (decide (e1.open_ > z1))),(38,.bool (decide (e1.open_ > z1))),(37,vI z1),(36,pP b2 0),(35,vI e1.open_),(34,pP b3 0)] [ld b3 0 (vI e1.open_),ld b2 0 (vI z1)] ⟨hS9.c 0,hS9.c 1,trivial⟩<|gn hK9 ?_
     by_cases hc5:e1.open_ > z1
     ·rw [if_pos hc5] at h
      refine wk 40 (decide (e1.open_ > z1)) true (decide_eq_true hc5)<|wt<|wr [(0,0),(1,2),(2,0)]<|gb [0] [(41,.agg #[vI e1.open_,vI e1.close])] [ld b3 0 (vI e1.open_),ld b3 1 (vI e1.close)] ⟨hS9.c 0,hS9.c 0,trivial⟩ ?_
      have hS10:=hS9.b 1
      refine gs b2 0 #[vI z1,vI z2] 74 [vI e1.open_,vI e1.close] hS10 fun w6 hS11=>?_
      have hS12:=hS11.nc #[vI e1.open_,vI e1.close] rfl
      refine gb0 [2] [(7,.bool true)]<|gn hK7<|wr [(0,0),(1,0)]<|ge_addn (d:=42) (ty:=3) (x:=(.tmp 16)) (y:=(.const (vI 1))) (t:=3) (t2:=3) (k:=.i64) (m:=i1) (by kernel_rfl) (by kernel_rfl) (by kernel_rfl) (by have h0:=hRq_0_1.small; omega) ?_
      refine gb0 [1] [(16,vI ((i1+1:Nat):Int))] ?_
      have hS15:=hS12.p [0,2] rfl
      obtain rfl:=si h
      exact ge_nil fun a hF=>hQ _ _ _ (Outs.again ⟨hS15,hF.weaken ea⟩)
     rw [if_neg hc5] at h
     refine wk 40 (decide (e1.open_ > z1)) false (decide_eq_false hc5)<|wf<|we_skip fun a hF=>hK7 _ _ ?_ a hF
     refine wr [(0,0),(1,0)]<|ge_addn (d:=42) (ty:=3) (x:=(.tmp 16)) (y:=(.const (vI 1))) (t:=3) (t2:=3) (k:=.i64) (m:=i1) (by kernel_rfl) (by kernel_rfl) (by kernel_rfl) (by have h0:=hRq_0_1.small; omega) ?_
     refine gb0 [1] [(16,vI ((i1+1:Nat):Int))] ?_
     have hS18:=hS9.p [1,2] rfl
     obtain rfl:=si h
     exact ge_nil fun a hF=>hQ _ _ _ (Outs.again ⟨hS18,hF.weaken ea⟩)
    rw [if_neg hc4] at h
    refine gk 33 (!q1) true (congrArg (fun z=>!z) (Bool.eq_false_iff.2 hc4))<|gb0 [14,15,16,17,18,19,20] [(40,.bool true),(39,.bool true),(38,undef),(37,undef),(36,undef),(35,undef),(34,undef)]<|gn hK9<|wt<|wr [(0,0),(1,2),(2,0)]<|gb [0] [(41,.agg #[vI e1.open_,vI e1.close])] [ld b3 0 (vI e1.open_),ld b3 1 (vI e1.close)] ⟨hS9.c 0,hS9.c 0,trivial⟩ ?_
    have hS19:=hS9.b 1
    refine gs b2 0 #[vI z1,vI z2] 74 [vI e1.open_,vI e1.close] hS19 fun w7 hS20=>?_
    have hS21:=hS20.nc #[vI e1.open_,vI e1.close] rfl
    refine gb0 [2] [(7,.bool true)]<|gn hK7<|wr [(0,0),(1,0)]<|ge_addn (d:=42) (ty:=3) (x:=(.tmp 16)) (y:=(.const (vI 1))) (t:=3) (t2:=3) (k:=.i64) (m:=i1) (by kernel_rfl) (by kernel_rfl) (by kernel_rfl) (by have h0:=hRq_0_1.small; omega) ?_
    refine gb0 [1] [(16,vI ((i1+1:Nat):Int))] ?_
    have hS24:=hS21.p [0,2] rfl
    obtain rfl:=si h
    exact ge_nil fun a hF=>hQ _ _ _ (Outs.again ⟨hS24,hF.weaken ea⟩)
   rw [if_neg hc3] at h
   refine gk 30 (decide (x1≤e1.close)) false (decide_eq_false hc3)<|gb0 [11,12,13,14,15,16,17,18,19,20] [(40,.bool false),(39,undef),(38,undef),(37,undef),(36,undef),(35,undef),(34,undef),(33,undef),(32,undef),(31,undef)]<|gn hK9<|wf<|we_skip fun a hF=>hK7 _ _ ?_ a hF
   refine wr [(0,0),(1,0)]<|ge_addn (d:=42) (ty:=3) (x:=(.tmp 16)) (y:=(.const (vI 1))) (t:=3) (t2:=3) (k:=.i64) (m:=i1) (by kernel_rfl) (by kernel_rfl) (by kernel_rfl) (by have h0:=hRq_0_1.small; omega) ?_
   refine gb0 [1] [(16,vI ((i1+1:Nat):Int))] ?_
   have hS27:=hS9.p [1,2] rfl
   obtain rfl:=si h
   exact ge_nil fun a hF=>hQ _ _ _ (Outs.again ⟨hS27,hF.weaken ea⟩)
  rw [if_neg hc2] at h
  refine gk 24 (decide (e1.open_<x1)) false (decide_eq_false hc2)<|gb0 [5,6,7,8,9,10,11,12,13,14,15,16,17,18,19,20] [(40,.bool false),(39,undef),(38,undef),(37,undef),(36,undef),(35,undef),(34,undef),(33,undef),(32,undef),(31,undef),(30,.bool false),(29,.bool false),(28,undef),(27,undef),(26,undef),(25,undef)]<|gn hK9<|wf<|we_skip fun a hF=>hK7 _ _ ?_ a hF
  refine wr [(0,0),(1,0)]<|ge_addn (d:=42) (ty:=3) (x:=(.tmp 16)) (y:=(.const (vI 1))) (t:=3) (t2:=3) (k:=.i64) (m:=i1) (by kernel_rfl) (by kernel_rfl) (by kernel_rfl) (by have h0:=hRq_0_1.small; omega) ?_
  refine gb0 [1] [(16,vI ((i1+1:Nat):Int))] ?_
  have hS30:=hS9.p [1,2] rfl
  obtain rfl:=si h
  exact ge_nil fun a hF=>hQ _ _ _ (Outs.again ⟨hS30,hF.weaken ea⟩)
 rw [if_neg hc1] at h
 refine wk 17 (decide ((i1:Int)<(lq_0_1.length:Int))) false (decide_eq_false hc1)<|wf ?_
 have hS32:=(hS.b 1).b 1
 obtain rfl:=si h
 exact we_exit fun a hF=>hQ _ _ _ (Outs.out nofun (Exits.here ⟨hS32,hF.weaken ea⟩))
theorem punctualref_Image_inner_ok (K bq_0:Nat) (lq_0_0:List SIns) (Aq_0_0:OA) (cq_0_0:Nat) (lq_0_1:List Sregion) (Aq_0_1:OA) (cq_0_1:Nat) (x1:Int) (w0:World) (hRq_0_0:RdL w0 Aq_0_0 lq_0_0) (hLq_0_0:lq_0_0.length≤cq_0_0) (hRq_0_1:RdL w0 Aq_0_1 lq_0_1) (hLq_0_1:lq_0_1.length≤cq_0_1) (hBq_0:Glob w0 bq_0 [.slice Aq_0_0 lq_0_0.length cq_0_0,.slice Aq_0_1 lq_0_1.length cq_0_1]) (r:Sregion×Bool) (h:punctualref_Image_inner.f K lq_0_0 lq_0_1 x1=some r) :
  Calls Tryd.prog 33 #[pP bq_0 0,vI x1] w0 (punctualref_Image_inner.Post w0 r):=by
 have hS:=St.start w0
 unfold punctualref_Image_inner.f at h
 refine calls_enter (n:=45) (args:=[pP bq_0 0,vI x1]) (fn:=Tryd.f33) rfl rfl rfl rfl ?_
 show WE _ _ _ _ [(0,pP bq_0 0),(1,vI x1)] _
 refine ws fun K1 hK1=>wr [(0,1),(1,0)]<|gw (some 4) (.cells #[vI 0,vI 0] 74) (fun b=>pP b 0) hS fun b1 w1 hx1 hS1=>?_
 refine gb0 [1] [(5,.bool false)]<|gn hK1<|ws fun K2 hK2=>wr [(0,0),(1,1),(2,2),(3,0)]<|gb0 [0] [(10,.agg #[vI 0,vI 0])]<|gw (some 6) (.cells #[vI 0,vI 0] 74) (fun b=>pP b 0) hS1 fun b2 w2 hx2 hS2=>?_
 refine gs b2 0 #[vI 0,vI 0] 74 [vI 0,vI 0] hS2 fun w3 hS3=>?_
 have hS4:=hS3.nc #[vI 0,vI 0] rfl
 refine gb0 [3] [(7,.bool false)]<|gn hK2<|ws fun K3 hK3=>ws fun K4 hK4=>wr [(0,0),(1,0),(2,0),(3,0),(4,0),(5,0)]<|gb [0,1,2,3,4,5] [(16,vI 0),(15,vI (lq_0_1.length:Int)),(14,.slice Aq_0_1 lq_0_1.length cq_0_1),(13,pP bq_0 1),(12,pP bq_0 0),(11,pP bq_0 0)] [ld bq_0 1 (.slice Aq_0_1 lq_0_1.length cq_0_1)] ⟨hS4.glob hBq_0 rfl,trivial⟩<|gn hK4<|we_block ?_
 have hS6:=(hS4.b 1).b 1
 rcases hq1:iter (punctualref_Image_inner.r0 lq_0_1 x1) K (false,0,0,0) with _ | (⟨q3,z5,z6⟩ | rr1)
 ·rw [hq1] at h; cases h
 ·rw [hq1] at h
  simp only [] at h
  refine we_iter (A:=punctualref_Image_inner.A0 w0 lq_0_1 Aq_0_1 cq_0_1 x1 b1 b2) (B:=punctualref_Image_inner.B0 w0 b1 b2) hq1 (fun a hF=>⟨hS6,hF.weaken ea⟩) (fun s o hf a w hA Q hQ=>punctualref_Image_inner_r0 K w0 bq_0 lq_0_0 Aq_0_0 cq_0_0 lq_0_1 Aq_0_1 cq_0_1 x1 hRq_0_0 hLq_0_0 hRq_0_1 hLq_0_1 hBq_0 b1 b2 s o hf a w hA Q hQ) ?_
  rintro _ a w8 _ ⟨rfl,hS33,hF⟩
  replace hS33:St w0 w8 [bk b2 #[vI z5,vI z6] 74,bk b1 #[vI 0,vI 0] 74]:=hS33
  refine hK3 [(4,pP b1 0),(6,pP b2 0),(7,.bool q3)] w8 ?_ a hF
  refine ws fun K10 hK10=>wr [(0,0),(1,0),(2,2),(3,0)]<|gb [0,1] [(44,.bool q3),(43,.agg #[vI z5,vI z6])] [ld b2 0 (vI z5),ld b2 1 (vI z6)] ⟨hS33.c 0,hS33.c 0,trivial⟩ ?_
  have hS34:=hS33.b 1
  refine gs b1 0 #[vI 0,vI 0] 74 [vI z5,vI z6] hS34 fun w9 hS35=>?_
  have hS36:=hS35.nc #[vI z5,vI z6] rfl
  refine gb0 [3] [(5,.bool q3)]<|gn hK10 ?_
  have hS37:=hS36.takeN 0
  obtain rfl:=si h
  exact we_ret (pr [.cell 4 74,.tmp 5] [.agg #[vI z5,vI z6],.bool q3] [ld b1 0 (vI z5),ld b1 1 (vI z6)] ⟨hS36.c 0,hS36.c 0,trivial⟩ ⟨rfl,hS37⟩)
 rw [hq1] at h
 simp only [] at h
 refine we_iter (A:=punctualref_Image_inner.A0 w0 lq_0_1 Aq_0_1 cq_0_1 x1 b1 b2) (B:=punctualref_Image_inner.B0 w0 b1 b2) hq1 (fun a hF=>⟨hS6,hF.weaken ea⟩) (fun s o hf a w hA Q hQ=>punctualref_Image_inner_r0 K w0 bq_0 lq_0_0 Aq_0_0 cq_0_0 lq_0_1 Aq_0_1 cq_0_1 x1 hRq_0_0 hLq_0_0 hRq_0_1 hLq_0_1 hBq_0 b1 b2 s o hf a w hA Q hQ) ?_
 rintro _ a w1 _ ⟨rfl,hb⟩
 obtain rfl:=si h
 exact hb

/-! punctual/punctualref.stackFault -/
abbrev punctualref_stackFault.Post (w0:World) (r:SFault) (e:Ending) (w:World):Prop:=e=.returned (.agg #[vI r.Code,vI r.At])∧St w0 w []
def punctualref_stackFault.p1 (i1 : Nat) (mp1 : List (Int × Int)) (e1 : SIns) : Option (Unit ⊕ SFault) :=
  if 0≤e1.Op then
   match ([0,0,0,1,2,2,2,2,2,0,1,0,1,0,0,0,0,0,0]:List Int)[(e1.Op).toNat]? with
   | none=>none
   | some e2 =>
    if ((mget mp1 (i1:Int)).getD 0)<e2 then
     some (.inr (punctualref_F.f 8 (i1:Int)))
    else
     match ([0,1,1,0,1,1,1,1,1,1,0,0,0,0,0,0,0,0,0]:List Int)[(e1.Op).toNat]? with
     | none=>none
     | some e3 =>
      if (IntKind.i64.wrap ((IntKind.i64.wrap (((mget mp1 (i1:Int)).getD 0)-e2))+e3)) > 20 then
       some (.inr (punctualref_F.f 8 (i1:Int)))
      else
       some (.inl ())
  else
   none
def punctualref_stackFault.p2 (e1 : SIns) : Option ((List Int) ⊕ SFault) :=
  if e1.Op=11 then
   if e1.Op=14 then
    if ([]:List Int).length<17592186044416 then
     some (.inl (([]:List Int)++[e1.B]))
    else
     none
   else
    if ([]:List Int).length<17592186044416 then
     some (.inl (([]:List Int)++[e1.A]))
    else
     none
  else
   if e1.Op=12 then
    if e1.Op=14 then
     if ([]:List Int).length<17592186044416 then
      some (.inl (([]:List Int)++[e1.B]))
     else
      none
    else
     if ([]:List Int).length<17592186044416 then
      some (.inl (([]:List Int)++[e1.A]))
     else
      none
   else
    if e1.Op=14 then
     if ([]:List Int).length<17592186044416 then
      some (.inl (([]:List Int)++[e1.B]))
     else
      none
    else
     some (.inl ([]:List Int))
def punctualref_stackFault.p3 (i1 : Nat) (e1 : SIns) (m2 : List Int) : Option ((List Int) ⊕ SFault) :=
  if e1.Op=11 then
   some (.inl m2)
  else
   if m2.length<17592186044416 then
    some (.inl (m2++[((i1+1:Nat):Int)]))
   else
    none
def punctualref_stackFault.r4 (i1 : Nat) (mp1 : List (Int × Int)) (e4 : Int) (e5 : Int) (m4 : List Int) : Nat × (List (Int × Int)) → Option ((Nat × (List (Int × Int))) ⊕ ((List (Int × Int)) ⊕ SFault))
 | (i2,mp3) =>
  if (i2:Int)<(m4.length:Int) then
   match m4[i2]? with
   | none=>none
   | some e6 =>
    if ((mget mp3 e6).isSome)=true then
     if ((mget mp3 e6).getD 0)=(IntKind.i64.wrap ((IntKind.i64.wrap (((mget mp1 (i1:Int)).getD 0)-e4))+e5)) then
      some (.inl ((i2+1),(mset mp3 e6 (IntKind.i64.wrap ((IntKind.i64.wrap (((mget mp1 (i1:Int)).getD 0)-e4))+e5)))))
     else
      some (.inr (.inr (punctualref_F.f 8 (i1:Int))))
    else
     some (.inl ((i2+1),(mset mp3 e6 (IntKind.i64.wrap ((IntKind.i64.wrap (((mget mp1 (i1:Int)).getD 0)-e4))+e5)))))
  else
   some (.inr (.inl mp3))
def punctualref_stackFault.r0 (K : Nat) (l0 : List SIns) : Nat × (List (Int × Int)) → Option ((Nat × (List (Int × Int))) ⊕ ((List (Int × Int)) ⊕ SFault))
 | (i1,mp1) =>
  if (i1:Int)<(l0.length:Int) then
   match l0[i1]? with
   | none=>none
   | some e1 =>
    if ((mget mp1 (i1:Int)).isSome)=true then
     match punctualref_stackFault.p1 i1 mp1 e1 with
     | none=>none
     | some (.inl _) =>
      if 0≤e1.Op then
       match ([0,0,0,1,2,2,2,2,2,0,1,0,1,0,0,0,0,0,0]:List Int)[(e1.Op).toNat]? with
       | none=>none
       | some e4 =>
        match ([0,1,1,0,1,1,1,1,1,1,0,0,0,0,0,0,0,0,0]:List Int)[(e1.Op).toNat]? with
        | none=>none
        | some e5 =>
         match punctualref_stackFault.p2 e1 with
         | none=>none
         | some (.inl m2) =>
          match punctualref_stackFault.p3 i1 e1 m2 with
          | none=>none
          | some (.inl m4) =>
           match iter (punctualref_stackFault.r4 i1 mp1 e4 e5 m4) K (0,mp1) with
           | none=>none
           | some (.inl mp5) =>
            some (.inl ((i1+1),mp5))
           | some (.inr rr1) =>
            some (.inr (.inr rr1))
          | some (.inr rr2) =>
           some (.inr (.inr rr2))
         | some (.inr rr3) =>
          some (.inr (.inr rr3))
      else
       none
     | some (.inr rr4) =>
      some (.inr (.inr rr4))
    else
     some (.inr (.inr (punctualref_F.f 7 (i1:Int))))
  else
   some (.inr (.inl mp1))
def punctualref_stackFault.f (K : Nat) (l0 : List SIns) : Option SFault :=
 match iter (punctualref_stackFault.r0 K l0) K (0,(mset ([]:List (Int×Int)) 0 0)) with
 | none=>none
 | some (.inl mp6) =>
  if ((mget mp6 (l0.length:Int)).getD 0)=0 then
   some (⟨0,0⟩:SFault)
  else
   some (punctualref_F.f 8 (l0.length:Int))
 | some (.inr rr5) =>
  some rr5
abbrev punctualref_stackFault.A1 (w0:World) (l0:List SIns) (A0:OA) (c0 b1 b2 b3 b4 i1:Nat) (mp1:List (Int×Int)) (e1:SIns) (b5:Nat):Unit→Act→World→Prop:=fun (s:Unit) a w=>St w0 w [bk b5 #[vI e1.Op,vI e1.A,vI e1.B] 29,bk b4 #[vI 0,vI 1,vI 1,vI 0,vI 1,vI 1,vI 1,vI 1,vI 1,vI 1,vI 0,vI 0,vI 0,vI 0,vI 0,vI 0,vI 0,vI 0,vI 0] 3,bk b3 #[vI 0,vI 0,vI 0,vI 1,vI 2,vI 2,vI 2,vI 2,vI 2,vI 0,vI 1,vI 0,vI 1,vI 0,vI 0,vI 0,vI 0,vI 0,vI 0] 3,bk b1 #[vI 0,vI 0] 25,Own.map (κ:=Int) (ν:=Int) b2 mp1]∧Frm 141 a [(0,.slice A0 l0.length c0),(2,pP b1 0),(3,.map (some b2)),(4,.slice (some ⟨b3,0,none⟩) 19 19),(5,.slice (some ⟨b4,0,none⟩) 19 19),(6,vI (i1:Int)),(7,pP b5 0),(8,vI ((mget mp1 (i1:Int)).getD 0)),(20,.slice A0 l0.length c0),(21,vI (l0.length:Int)),(22,vI (i1:Int))]
abbrev punctualref_stackFault.B1 (w0:World):SFault→Exit→Act→World→Prop:=Rets Tryd.prog Tryd.f34 (punctualref_stackFault.Post w0)
theorem punctualref_stackFault_p1 (K:Nat) (w0:World) (l0:List SIns) (A0:OA) (c0:Nat) (hR0:RdL w0 A0 l0) (hL0:l0.length≤c0) (b1 b2 b3 b4 i1:Nat) (mp1:List (Int×Int)) (hc1:(i1:Int)<(l0.length:Int)) (e1:SIns) (hx5:l0[i1]?=some e1) (b5:Nat) (hc2:((mget mp1 (i1:Int)).isSome)=true) (o:Unit ⊕ SFault) (h:punctualref_stackFault.p1 i1 mp1 e1=some o) (w:World) (hS:St w0 w [bk b5 #[vI e1.Op,vI e1.A,vI e1.B] 29,bk b4 #[vI 0,vI 1,vI 1,vI 0,vI 1,vI 1,vI 1,vI 1,vI 1,vI 1,vI 0,vI 0,vI 0,vI 0,vI 0,vI 0,vI 0,vI 0,vI 0] 3,bk b3 #[vI 0,vI 0,vI 0,vI 1,vI 2,vI 2,vI 2,vI 2,vI 2,vI 0,vI 1,vI 0,vI 1,vI 0,vI 0,vI 0,vI 0,vI 0,vI 0] 3,bk b1 #[vI 0,vI 0] 25,Own.map (κ:=Int) (ν:=Int) b2 mp1]) (Q:Exit→Act→World→Prop) (hQ:∀ x a w,Outs (punctualref_stackFault.A1 w0 l0 A0 c0 b1 b2 b3 b4 i1 mp1 e1 b5) (punctualref_stackFault.B1 w0) o x a w→Q x a w):WE Tryd.prog 141 (subF Tryd.f34 [1,1,1,1,0,1,0,0,1,1,0,0,1,1,1,0]) Q [(0,.slice A0 l0.length c0),(2,pP b1 0),(3,.map (some b2)),(4,.slice (some ⟨b3,0,none⟩) 19 19),(5,.slice (some ⟨b4,0,none⟩) 19 19),(6,vI (i1:Int)),(7,pP b5 0),(8,vI ((mget mp1 (i1:Int)).getD 0)),(9,.bool ((mget mp1 (i1:Int)).isSome)),(20,.slice A0 l0.length c0),(21,vI (l0.length:Int)),(22,vI (i1:Int)),(23,.bool true),(24,vI (i1:Int)),(25,.pointer (some ⟨blkOf A0,offOf A0+i1*3,none⟩)),(26,.agg #[vI e1.Op,vI e1.A,vI e1.B]),(27,.tuple #[vI ((mget mp1 (i1:Int)).getD 0),.bool ((mget mp1 (i1:Int)).isSome)]),(28,.map (some b2)),(29,vI (i1:Int)),(30,.tuple #[vI ((mget mp1 (i1:Int)).getD 0),.bool ((mget mp1 (i1:Int)).isSome)]),(31,vI ((mget mp1 (i1:Int)).getD 0)),(32,.bool ((mget mp1 (i1:Int)).isSome)),(33,.bool ((mget mp1 (i1:Int)).isSome)),(34,.bool false)] w:=by
 simp only [punctualref_stackFault.p1] at h
 refine ws fun K15 hK15=>we_draws (by kernel_rfl) [(0,0),(1,0),(2,0),(3,0),(4,0),(5,0),(6,0),(7,0),(8,0),(9,0),(10,0),(11,0),(12,0),(13,0),(14,0),(15,0),(16,0),(17,0),(18,0),(19,0),(20,0),(21,0),(22,0)] (by kernel_rfl) ?_
 have hS14:=hS.drew
 refine gb [0,1,2,3] [(40,vI e1.Op),(39,pP b5 0),(38,.slice (some ⟨b3,0,none⟩) 19 19),(37,vI ((mget mp1 (i1:Int)).getD 0))] [ld b5 0 (vI e1.Op)] ⟨hS14.c 0,trivial⟩ ?_
 by_cases hc3:0≤e1.Op
 ·rw [if_pos hc3] at h
  rcases hx7:([0,0,0,1,2,2,2,2,2,0,1,0,1,0,0,0,0,0,0]:List Int)[(e1.Op).toNat]? with _ | e2
  ·rw [hx7] at h; cases h
  rw [hx7] at h
  simp only [] at h
  refine gi 41 0 37 3 1 19 19 (.tmp 38) (.tmp 40) (some ⟨b3,0,none⟩) .i64 e1.Op ((e1.Op).toNat) ((hS14.rdBlk 2 ([0,0,0,1,2,2,2,2,2,0,1,0,1,0,0,0,0,0,0]:List Int) rfl rfl rfl).eqSome (pos_of_get hx7)) (Int.toNat_of_nonneg hc3).symm (lt_of_get hx7) ?_
  refine gb [5,6,7] [(44,.bool (decide (((mget mp1 (i1:Int)).getD 0)<e2))),(43,.bool (decide (((mget mp1 (i1:Int)).getD 0)<e2))),(42,vI e2)] [.loaded ⟨blkOf (some ⟨b3,0,none⟩),offOf (some ⟨b3,0,none⟩)+((e1.Op).toNat)*1,none⟩ (vI e2)] ⟨RdL.cell (j:=0) (hS14.rdBlk 2 ([0,0,0,1,2,2,2,2,2,0,1,0,1,0,0,0,0,0,0]:List Int) rfl rfl rfl) hx7 rfl,trivial⟩ ?_
  by_cases hc4:((mget mp1 (i1:Int)).getD 0)<e2
  ·rw [if_pos hc4] at h
   refine gk 44 (decide (((mget mp1 (i1:Int)).getD 0)<e2)) true (decide_eq_true hc4)<|gb0 [8,9,10,11,12,13,14,15,16,17,18,19,20,21,22] [(59,.bool true),(58,undef),(57,undef),(56,undef),(55,undef),(54,undef),(53,undef),(52,undef),(51,undef),(50,undef),(49,undef),(48,undef),(47,undef),(46,undef),(45,undef)]<|gn hK15<|wt<|ws fun K16 hK16=>wr [(0,0),(1,1),(2,2)]<|gb0 [0] [(60,vI (i1:Int))]<|ge_call (d:=some 61) (f:=9) (args:=#[vI 8,vI (i1:Int)]) (by kernel_rfl) (punctualref_F_ok 8 (i1:Int) _ _ rfl) ?_
   rintro _ w8 ⟨rfl,hS15⟩
   refine ⟨_,rfl,hS15.below,?_⟩
   have hS17:=(hS14.call hS15).b 3
   refine gs b1 0 #[vI 0,vI 0] 25 [vI ((punctualref_F.f 8 (i1:Int)).Code),vI ((punctualref_F.f 8 (i1:Int)).At)] hS17 fun w9 hS18=>?_
   have hS19:=hS18.nc #[vI ((punctualref_F.f 8 (i1:Int)).Code),vI ((punctualref_F.f 8 (i1:Int)).At)] rfl
   refine gn hK16 ?_
   have hS20:=hS19.takeN 0
   obtain rfl:=si h
   exact rq hQ fun a hF=>⟨rfl,(pr [.cell 2 25] [.agg #[vI ((punctualref_F.f 8 (i1:Int)).Code),vI ((punctualref_F.f 8 (i1:Int)).At)]] [ld b1 0 (vI ((punctualref_F.f 8 (i1:Int)).Code)),ld b1 1 (vI ((punctualref_F.f 8 (i1:Int)).At))] ⟨hS19.c 0,hS19.c 0,trivial⟩ ⟨rfl,hS20⟩) a hF⟩
  rw [if_neg hc4] at h
  refine gk 44 (decide (((mget mp1 (i1:Int)).getD 0)<e2)) false (decide_eq_false hc4)<|gb [8,9,10,11] [(48,vI e1.Op),(47,pP b5 0),(46,.slice (some ⟨b3,0,none⟩) 19 19),(45,vI ((mget mp1 (i1:Int)).getD 0))] [ld b5 0 (vI e1.Op)] ⟨hS14.c 0,trivial⟩<|gi 49 0 37 3 1 19 19 (.tmp 46) (.tmp 48) (some ⟨b3,0,none⟩) .i64 e1.Op ((e1.Op).toNat) ((hS14.rdBlk 2 ([0,0,0,1,2,2,2,2,2,0,1,0,1,0,0,0,0,0,0]:List Int) rfl rfl rfl).eqSome (pos_of_get hx7)) (Int.toNat_of_nonneg hc3).symm (lt_of_get hx7) ?_
  refine gb [13,14,15,16,17] [(54,vI e1.Op),(53,pP b5 0),(52,.slice (some ⟨b4,0,none⟩) 19 19),(51,vI (IntKind.i64.wrap (((mget mp1 (i1:Int)).getD 0)-e2))),(50,vI e2)] [.loaded ⟨blkOf (some ⟨b3,0,none⟩),offOf (some ⟨b3,0,none⟩)+((e1.Op).toNat)*1,none⟩ (vI e2),ld b5 0 (vI e1.Op)] ⟨RdL.cell (j:=0) (hS14.rdBlk 2 ([0,0,0,1,2,2,2,2,2,0,1,0,1,0,0,0,0,0,0]:List Int) rfl rfl rfl) hx7 rfl,hS14.c 0,trivial⟩ ?_
  rcases hx8:([0,1,1,0,1,1,1,1,1,1,0,0,0,0,0,0,0,0,0]:List Int)[(e1.Op).toNat]? with _ | e3
  ·rw [hx8] at h; cases h
  rw [hx8] at h
  simp only [] at h
  refine gi 55 0 37 3 1 19 19 (.tmp 52) (.tmp 54) (some ⟨b4,0,none⟩) .i64 e1.Op ((e1.Op).toNat) ((hS14.rdBlk 1 ([0,1,1,0,1,1,1,1,1,1,0,0,0,0,0,0,0,0,0]:List Int) rfl rfl rfl).eqSome (pos_of_get hx8)) (Int.toNat_of_nonneg hc3).symm (lt_of_get hx8) ?_
  refine gb [19,20,21,22] [(59,.bool (decide ((IntKind.i64.wrap ((IntKind.i64.wrap (((mget mp1 (i1:Int)).getD 0)-e2))+e3)) > 20))),(58,.bool (decide ((IntKind.i64.wrap ((IntKind.i64.wrap (((mget mp1 (i1:Int)).getD 0)-e2))+e3)) > 20))),(57,vI (IntKind.i64.wrap ((IntKind.i64.wrap (((mget mp1 (i1:Int)).getD 0)-e2))+e3))),(56,vI e3)] [.loaded ⟨blkOf (some ⟨b4,0,none⟩),offOf (some ⟨b4,0,none⟩)+((e1.Op).toNat)*1,none⟩ (vI e3)] ⟨RdL.cell (j:=0) (hS14.rdBlk 1 ([0,1,1,0,1,1,1,1,1,1,0,0,0,0,0,0,0,0,0]:List Int) rfl rfl rfl) hx8 rfl,trivial⟩<|gn hK15 ?_
  by_cases hc5:(IntKind.i64.wrap ((IntKind.i64.wrap (((mget mp1 (i1:Int)).getD 0)-e2))+e3)) > 20
  ·rw [if_pos hc5] at h
   refine wk 59 (decide ((IntKind.i64.wrap ((IntKind.i64.wrap (((mget mp1 (i1:Int)).getD 0)-e2))+e3)) > 20)) true (decide_eq_true hc5)<|wt<|ws fun K17 hK17=>wr [(0,0),(1,1),(2,2)]<|gb0 [0] [(60,vI (i1:Int))]<|ge_call (d:=some 61) (f:=9) (args:=#[vI 8,vI (i1:Int)]) (by kernel_rfl) (punctualref_F_ok 8 (i1:Int) _ _ rfl) ?_
   rintro _ w10 ⟨rfl,hS21⟩
   refine ⟨_,rfl,hS21.below,?_⟩
   have hS23:=(hS14.call hS21).b 3
   refine gs b1 0 #[vI 0,vI 0] 25 [vI ((punctualref_F.f 8 (i1:Int)).Code),vI ((punctualref_F.f 8 (i1:Int)).At)] hS23 fun w11 hS24=>?_
   have hS25:=hS24.nc #[vI ((punctualref_F.f 8 (i1:Int)).Code),vI ((punctualref_F.f 8 (i1:Int)).At)] rfl
   refine gn hK17 ?_
   have hS26:=hS25.takeN 0
   obtain rfl:=si h
   exact rq hQ fun a hF=>⟨rfl,(pr [.cell 2 25] [.agg #[vI ((punctualref_F.f 8 (i1:Int)).Code),vI ((punctualref_F.f 8 (i1:Int)).At)]] [ld b1 0 (vI ((punctualref_F.f 8 (i1:Int)).Code)),ld b1 1 (vI ((punctualref_F.f 8 (i1:Int)).At))] ⟨hS25.c 0,hS25.c 0,trivial⟩ ⟨rfl,hS26⟩) a hF⟩
  rw [if_neg hc5] at h
  refine wk 59 (decide ((IntKind.i64.wrap ((IntKind.i64.wrap (((mget mp1 (i1:Int)).getD 0)-e2))+e3)) > 20)) false (decide_eq_false hc5)<|wf ?_
  have hS31:=((((hS14.b 4).b 4).b 4).b 4).b 4
  obtain rfl:=si h
  exact we_skip fun a hF=>hQ _ _ _ (Outs.again ⟨hS31,hF.weaken ea⟩)
 rw [if_neg hc3] at h
 cases h
abbrev punctualref_stackFault.A2 (w0:World) (l0:List SIns) (A0:OA) (c0 b1 b2 b3 b4 i1:Nat) (mp1:List (Int×Int)) (e1:SIns) (b5:Nat) (e4 e5:Int):(List Int)→Act→World→Prop:=fun (s:(List Int)) a w=>∃ (v1:Value),St w0 w [bk b5 #[vI e1.Op,vI e1.A,vI e1.B] 29,bk b4 #[vI 0,vI 1,vI 1,vI 0,vI 1,vI 1,vI 1,vI 1,vI 1,vI 1,vI 0,vI 0,vI 0,vI 0,vI 0,vI 0,vI 0,vI 0,vI 0] 3,bk b3 #[vI 0,vI 0,vI 0,vI 1,vI 2,vI 2,vI 2,vI 2,vI 2,vI 0,vI 1,vI 0,vI 1,vI 0,vI 0,vI 0,vI 0,vI 0,vI 0] 3,bk b1 #[vI 0,vI 0] 25,Own.of v1 3 s,Own.map (κ:=Int) (ν:=Int) b2 mp1]∧Frm 141 a [(0,.slice A0 l0.length c0),(2,pP b1 0),(3,.map (some b2)),(4,.slice (some ⟨b3,0,none⟩) 19 19),(5,.slice (some ⟨b4,0,none⟩) 19 19),(6,vI (i1:Int)),(7,pP b5 0),(8,vI (IntKind.i64.wrap ((IntKind.i64.wrap (((mget mp1 (i1:Int)).getD 0)-e4))+e5))),(10,v1),(20,.slice A0 l0.length c0),(21,vI (l0.length:Int)),(22,vI (i1:Int))]
abbrev punctualref_stackFault.B2 (w0:World):SFault→Exit→Act→World→Prop:=Rets Tryd.prog Tryd.f34 (punctualref_stackFault.Post w0)
theorem punctualref_stackFault_p2 (K:Nat) (w0:World) (l0:List SIns) (A0:OA) (c0:Nat) (hR0:RdL w0 A0 l0) (hL0:l0.length≤c0) (b1 b2 b3 b4 i1:Nat) (mp1:List (Int×Int)) (hc1:(i1:Int)<(l0.length:Int)) (e1:SIns) (hx5:l0[i1]?=some e1) (b5:Nat) (hc2:((mget mp1 (i1:Int)).isSome)=true) (hc6:0≤e1.Op) (e4:Int) (hx9:([0,0,0,1,2,2,2,2,2,0,1,0,1,0,0,0,0,0,0]:List Int)[(e1.Op).toNat]?=some e4) (e5:Int) (hx10:([0,1,1,0,1,1,1,1,1,1,0,0,0,0,0,0,0,0,0]:List Int)[(e1.Op).toNat]?=some e5) (o:(List Int) ⊕ SFault) (h:punctualref_stackFault.p2 e1=some o) (w:World) (hS:St w0 w [bk b5 #[vI e1.Op,vI e1.A,vI e1.B] 29,bk b4 #[vI 0,vI 1,vI 1,vI 0,vI 1,vI 1,vI 1,vI 1,vI 1,vI 1,vI 0,vI 0,vI 0,vI 0,vI 0,vI 0,vI 0,vI 0,vI 0] 3,bk b3 #[vI 0,vI 0,vI 0,vI 1,vI 2,vI 2,vI 2,vI 2,vI 2,vI 0,vI 1,vI 0,vI 1,vI 0,vI 0,vI 0,vI 0,vI 0,vI 0] 3,bk b1 #[vI 0,vI 0] 25,Own.map (κ:=Int) (ν:=Int) b2 mp1]) (Q:Exit→Act→World→Prop) (hQ:∀ x a w,Outs (punctualref_stackFault.A2 w0 l0 A0 c0 b1 b2 b3 b4 i1 mp1 e1 b5 e4 e5) (punctualref_stackFault.B2 w0) o x a w→Q x a w):WE Tryd.prog 141 (subF Tryd.f34 [1,1,1,1,0,1,0,0,1,1,0,0,1,1,1,1,1,1,0]) Q [(0,.slice A0 l0.length c0),(2,pP b1 0),(3,.map (some b2)),(4,.slice (some ⟨b3,0,none⟩) 19 19),(5,.slice (some ⟨b4,0,none⟩) 19 19),(6,vI (i1:Int)),(7,pP b5 0),(8,vI (IntKind.i64.wrap ((IntKind.i64.wrap (((mget mp1 (i1:Int)).getD 0)-e4))+e5))),(10,.slice none 0 0),(20,.slice A0 l0.length c0),(21,vI (l0.length:Int)),(22,vI (i1:Int)),(62,vI ((mget mp1 (i1:Int)).getD 0)),(63,.slice (some ⟨b3,0,none⟩) 19 19),(64,pP b5 0),(65,vI e1.Op),(66,.pointer (some ⟨blkOf (some ⟨b3,0,none⟩),offOf (some ⟨b3,0,none⟩)+(e1.Op).toNat*1,none⟩)),(67,vI e4),(68,vI (IntKind.i64.wrap (((mget mp1 (i1:Int)).getD 0)-e4))),(69,.slice (some ⟨b4,0,none⟩) 19 19),(70,pP b5 0),(71,vI e1.Op),(72,.pointer (some ⟨blkOf (some ⟨b4,0,none⟩),offOf (some ⟨b4,0,none⟩)+(e1.Op).toNat*1,none⟩)),(73,vI e5),(74,vI (IntKind.i64.wrap ((IntKind.i64.wrap (((mget mp1 (i1:Int)).getD 0)-e4))+e5)))] w:=by
 simp only [punctualref_stackFault.p2] at h
 refine ws fun K21 hK21=>wr [(0,0),(1,0),(2,0),(3,0),(4,0),(5,0),(6,0),(7,0),(8,0),(9,0),(10,0),(11,0),(12,0)]<|gb [0,1,2,3] [(78,.bool (e1.Op==11)),(77,.bool (e1.Op==11)),(76,vI e1.Op),(75,pP b5 0)] [ld b5 0 (vI e1.Op)] ⟨hS.c 0,trivial⟩ ?_
 by_cases hc7:e1.Op=11
 ·rw [if_pos hc7] at h
  refine gk 78 (e1.Op==11) true (beq_iff_eq.2 hc7)<|gb0 [4,5,6,7,8,9,10,11,12] [(87,.bool true),(86,undef),(85,undef),(84,undef),(83,.bool true),(82,.bool true),(81,undef),(80,undef),(79,undef)]<|gn hK21<|wt<|ws fun K22 hK22=>wr [(0,0),(1,0),(2,0)]<|gb [0,1,2] [(11,vI e1.A),(89,vI e1.A),(88,pP b5 1)] [ld b5 1 (vI e1.A)] ⟨hS.c 0,trivial⟩<|gn hK22<|ws fun K23 hK23=>ws fun K24 hK24=>wr [(0,0),(1,0),(2,0)]<|gb [0,1,2] [(92,.bool (e1.Op==14)),(91,vI e1.Op),(90,pP b5 0)] [ld b5 0 (vI e1.Op)] ⟨hS.c 0,trivial⟩<|gn hK24 ?_
  by_cases hc8:e1.Op=14
  ·rw [if_pos hc8] at h
   refine wk 92 (e1.Op==14) true (beq_iff_eq.2 hc8)<|wt<|wr [(0,0),(1,0),(2,0)]<|gb [0,1,2] [(11,vI e1.B),(94,vI e1.B),(93,pP b5 2)] [ld b5 2 (vI e1.B)] ⟨hS.c 0,trivial⟩<|gn hK23<|wr [(0,0),(1,0),(2,1),(3,2),(4,0)]<|gb0 [0,1] [(96,vI e1.B),(95,.slice none 0 0)]<|gw (some 97) (.cells #[vI e1.B] 3) (fun b=>.slice (some ⟨b,0,none⟩) 1 1) hS fun b6 w13 hx11 hS34=>?_
   have hS37:=((hS34.nil (α:=Int) 3).b 1).b 1
   by_cases hc9:([]:List Int).length<17592186044416
   ·rw [if_pos hc9] at h
    refine ge_append (α:=Int) (m:=0) (d:=98) (t:=37) (el:=3) (bytes:=8) (c1:=1) (b1:=b6) (x:=(.tmp 95)) (y:=(.tmp 97)) (ty:=37) (v:=(.slice none 0 0)) (z:=vI 0) (l:=([]:List Int)) (u:=e1.B) (by kernel_rfl) (by kernel_rfl) (by kernel_rfl) (by kernel_rfl) (by kernel_rfl) rfl hS37 rfl (by omega) fun v2 w14 hS38=>?_
    refine gb0 [4] [(10,v2)] ?_
    have hS44:=(((((hS38.b 5).b 1).b 5).b 5).b 5).b 5
    obtain rfl:=si h
    exact ge_nil fun a hF=>hQ _ _ _ (Outs.again ⟨v2,hS44,hF.weaken ea⟩)
   rw [if_neg hc9] at h
   cases h
  rw [if_neg hc8] at h
  refine wk 92 (e1.Op==14) false (beq_eq_false_iff_ne.2 hc8)<|wf<|we_skip fun a hF=>hK23 _ _ ?_ a hF
  refine wr [(0,0),(1,0),(2,1),(3,2),(4,0)]<|gb0 [0,1] [(96,vI e1.A),(95,.slice none 0 0)]<|gw (some 97) (.cells #[vI e1.A] 3) (fun b=>.slice (some ⟨b,0,none⟩) 1 1) hS fun b7 w15 hx12 hS45=>?_
  have hS48:=((hS45.nil (α:=Int) 3).b 1).b 1
  by_cases hc10:([]:List Int).length<17592186044416
  ·rw [if_pos hc10] at h
   refine ge_append (α:=Int) (m:=0) (d:=98) (t:=37) (el:=3) (bytes:=8) (c1:=1) (b1:=b7) (x:=(.tmp 95)) (y:=(.tmp 97)) (ty:=37) (v:=(.slice none 0 0)) (z:=vI 0) (l:=([]:List Int)) (u:=e1.A) (by kernel_rfl) (by kernel_rfl) (by kernel_rfl) (by kernel_rfl) (by kernel_rfl) rfl hS48 rfl (by omega) fun v3 w16 hS49=>?_
   refine gb0 [4] [(10,v3)] ?_
   have hS55:=(((((hS49.b 5).b 1).b 5).b 5).b 5).b 5
   obtain rfl:=si h
   exact ge_nil fun a hF=>hQ _ _ _ (Outs.again ⟨v3,hS55,hF.weaken ea⟩)
  rw [if_neg hc10] at h
  cases h
 rw [if_neg hc7] at h
 refine gk 78 (e1.Op==11) false (beq_eq_false_iff_ne.2 hc7)<|gb [4,5,6,7,8] [(83,.bool (e1.Op==12)),(82,.bool (e1.Op==12)),(81,.bool (e1.Op==12)),(80,vI e1.Op),(79,pP b5 0)] [ld b5 0 (vI e1.Op)] ⟨hS.c 0,trivial⟩ ?_
 by_cases hc11:e1.Op=12
 ·rw [if_pos hc11] at h
  refine gk 83 (e1.Op==12) true (beq_iff_eq.2 hc11)<|gb0 [9,10,11,12] [(87,.bool true),(86,undef),(85,undef),(84,undef)]<|gn hK21<|wt<|ws fun K25 hK25=>wr [(0,0),(1,0),(2,0)]<|gb [0,1,2] [(11,vI e1.A),(89,vI e1.A),(88,pP b5 1)] [ld b5 1 (vI e1.A)] ⟨hS.c 0,trivial⟩<|gn hK25<|ws fun K26 hK26=>ws fun K27 hK27=>wr [(0,0),(1,0),(2,0)]<|gb [0,1,2] [(92,.bool (e1.Op==14)),(91,vI e1.Op),(90,pP b5 0)] [ld b5 0 (vI e1.Op)] ⟨hS.c 0,trivial⟩<|gn hK27 ?_
  by_cases hc12:e1.Op=14
  ·rw [if_pos hc12] at h
   refine wk 92 (e1.Op==14) true (beq_iff_eq.2 hc12)<|wt<|wr [(0,0),(1,0),(2,0)]<|gb [0,1,2] [(11,vI e1.B),(94,vI e1.B),(93,pP b5 2)] [ld b5 2 (vI e1.B)] ⟨hS.c 0,trivial⟩<|gn hK26<|wr [(0,0),(1,0),(2,1),(3,2),(4,0)]<|gb0 [0,1] [(96,vI e1.B),(95,.slice none 0 0)]<|gw (some 97) (.cells #[vI e1.B] 3) (fun b=>.slice (some ⟨b,0,none⟩) 1 1) hS fun b8 w17 hx13 hS56=>?_
   have hS59:=((hS56.nil (α:=Int) 3).b 1).b 1
   by_cases hc13:([]:List Int).length<17592186044416
   ·rw [if_pos hc13] at h
    refine ge_append (α:=Int) (m:=0) (d:=98) (t:=37) (el:=3) (bytes:=8) (c1:=1) (b1:=b8) (x:=(.tmp 95)) (y:=(.tmp 97)) (ty:=37) (v:=(.slice none 0 0)) (z:=vI 0) (l:=([]:List Int)) (u:=e1.B) (by kernel_rfl) (by kernel_rfl) (by kernel_rfl) (by kernel_rfl) (by kernel_rfl) rfl hS59 rfl (by omega) fun v4 w18 hS60=>?_
    refine gb0 [4] [(10,v4)] ?_
    have hS66:=(((((hS60.b 5).b 1).b 5).b 5).b 5).b 5
    obtain rfl:=si h
    exact ge_nil fun a hF=>hQ _ _ _ (Outs.again ⟨v4,hS66,hF.weaken ea⟩)
   rw [if_neg hc13] at h
   cases h
  rw [if_neg hc12] at h
  refine wk 92 (e1.Op==14) false (beq_eq_false_iff_ne.2 hc12)<|wf<|we_skip fun a hF=>hK26 _ _ ?_ a hF
  refine wr [(0,0),(1,0),(2,1),(3,2),(4,0)]<|gb0 [0,1] [(96,vI e1.A),(95,.slice none 0 0)]<|gw (some 97) (.cells #[vI e1.A] 3) (fun b=>.slice (some ⟨b,0,none⟩) 1 1) hS fun b9 w19 hx14 hS67=>?_
  have hS70:=((hS67.nil (α:=Int) 3).b 1).b 1
  by_cases hc14:([]:List Int).length<17592186044416
  ·rw [if_pos hc14] at h
   refine ge_append (α:=Int) (m:=0) (d:=98) (t:=37) (el:=3) (bytes:=8) (c1:=1) (b1:=b9) (x:=(.tmp 95)) (y:=(.tmp 97)) (ty:=37) (v:=(.slice none 0 0)) (z:=vI 0) (l:=([]:List Int)) (u:=e1.A) (by kernel_rfl) (by kernel_rfl) (by kernel_rfl) (by kernel_rfl) (by kernel_rfl) rfl hS70 rfl (by omega) fun v5 w20 hS71=>?_
   refine gb0 [4] [(10,v5)] ?_
   have hS77:=(((((hS71.b 5).b 1).b 5).b 5).b 5).b 5
   obtain rfl:=si h
   exact ge_nil fun a hF=>hQ _ _ _ (Outs.again ⟨v5,hS77,hF.weaken ea⟩)
  rw [if_neg hc14] at h
  cases h
 rw [if_neg hc11] at h
 refine gk 83 (e1.Op==12) false (beq_eq_false_iff_ne.2 hc11)<|gb [9,10,11,12] [(87,.bool (e1.Op==14)),(86,.bool (e1.Op==14)),(85,vI e1.Op),(84,pP b5 0)] [ld b5 0 (vI e1.Op)] ⟨hS.c 0,trivial⟩<|gn hK21 ?_
 by_cases hc15:e1.Op=14
 ·rw [if_pos hc15] at h
  refine wk 87 (e1.Op==14) true (beq_iff_eq.2 hc15)<|wt<|ws fun K28 hK28=>wr [(0,0),(1,0),(2,0)]<|gb [0,1,2] [(11,vI e1.A),(89,vI e1.A),(88,pP b5 1)] [ld b5 1 (vI e1.A)] ⟨hS.c 0,trivial⟩<|gn hK28<|ws fun K29 hK29=>ws fun K30 hK30=>wr [(0,0),(1,0),(2,0)]<|gb [0,1,2] [(92,.bool (e1.Op==14)),(91,vI e1.Op),(90,pP b5 0)] [ld b5 0 (vI e1.Op)] ⟨hS.c 0,trivial⟩<|gn hK30<|wk 92 (e1.Op==14) true (beq_iff_eq.2 hc15)<|wt<|wr [(0,0),(1,0),(2,0)]<|gb [0,1,2] [(11,vI e1.B),(94,vI e1.B),(93,pP b5 2)] [ld b5 2 (vI e1.B)] ⟨hS.c 0,trivial⟩<|gn hK29<|wr [(0,0),(1,0),(2,1),(3,2),(4,0)]<|gb0 [0,1] [(96,vI e1.B),(95,.slice none 0 0)]<|gw (some 97) (.cells #[vI e1.B] 3) (fun b=>.slice (some ⟨b,0,none⟩) 1 1) hS fun b10 w21 hx15 hS78=>?_
  have hS81:=((hS78.nil (α:=Int) 3).b 1).b 1
  by_cases hc16:([]:List Int).length<17592186044416
  ·rw [if_pos hc16] at h
   refine ge_append (α:=Int) (m:=0) (d:=98) (t:=37) (el:=3) (bytes:=8) (c1:=1) (b1:=b10) (x:=(.tmp 95)) (y:=(.tmp 97)) (ty:=37) (v:=(.slice none 0 0)) (z:=vI 0) (l:=([]:List Int)) (u:=e1.B) (by kernel_rfl) (by kernel_rfl) (by kernel_rfl) (by kernel_rfl) (by kernel_rfl) rfl hS81 rfl (by omega) fun v6 w22 hS82=>?_
   refine gb0 [4] [(10,v6)] ?_
   have hS88:=(((((hS82.b 5).b 1).b 5).b 5).b 5).b 5
   obtain rfl:=si h
   exact ge_nil fun a hF=>hQ _ _ _ (Outs.again ⟨v6,hS88,hF.weaken ea⟩)
  rw [if_neg hc16] at h
  cases h
 rw [if_neg hc15] at h
 refine wk 87 (e1.Op==14) false (beq_eq_false_iff_ne.2 hc15)<|wf ?_
 have hS95:=((((((hS.nil (α:=Int) 3).b 5).b 1).b 5).b 5).b 5).b 5
 obtain rfl:=si h
 exact we_skip fun a hF=>hQ _ _ _ (Outs.again ⟨(.slice none 0 0),hS95,hF.weaken ea⟩)
abbrev punctualref_stackFault.A3 (w0:World) (l0:List SIns) (A0:OA) (c0 b1 b2 b3 b4 i1:Nat) (mp1:List (Int×Int)) (e4 e5:Int):(List Int)→Act→World→Prop:=fun (s:(List Int)) a w=>∃ (v8:Value),St w0 w [bk b4 #[vI 0,vI 1,vI 1,vI 0,vI 1,vI 1,vI 1,vI 1,vI 1,vI 1,vI 0,vI 0,vI 0,vI 0,vI 0,vI 0,vI 0,vI 0,vI 0] 3,bk b3 #[vI 0,vI 0,vI 0,vI 1,vI 2,vI 2,vI 2,vI 2,vI 2,vI 0,vI 1,vI 0,vI 1,vI 0,vI 0,vI 0,vI 0,vI 0,vI 0] 3,bk b1 #[vI 0,vI 0] 25,Own.of v8 3 s,Own.map (κ:=Int) (ν:=Int) b2 mp1]∧Frm 141 a [(0,.slice A0 l0.length c0),(2,pP b1 0),(3,.map (some b2)),(4,.slice (some ⟨b3,0,none⟩) 19 19),(5,.slice (some ⟨b4,0,none⟩) 19 19),(6,vI (i1:Int)),(8,vI (IntKind.i64.wrap ((IntKind.i64.wrap (((mget mp1 (i1:Int)).getD 0)-e4))+e5))),(10,v8),(20,.slice A0 l0.length c0),(21,vI (l0.length:Int)),(22,vI (i1:Int))]
abbrev punctualref_stackFault.B3 (w0:World):SFault→Exit→Act→World→Prop:=Rets Tryd.prog Tryd.f34 (punctualref_stackFault.Post w0)
theorem punctualref_stackFault_p3 (K:Nat) (w0:World) (l0:List SIns) (A0:OA) (c0:Nat) (hR0:RdL w0 A0 l0) (hL0:l0.length≤c0) (b1 b2 b3 b4 i1:Nat) (mp1:List (Int×Int)) (hc1:(i1:Int)<(l0.length:Int)) (e1:SIns) (hx5:l0[i1]?=some e1) (b5:Nat) (hc2:((mget mp1 (i1:Int)).isSome)=true) (hc6:0≤e1.Op) (e4:Int) (hx9:([0,0,0,1,2,2,2,2,2,0,1,0,1,0,0,0,0,0,0]:List Int)[(e1.Op).toNat]?=some e4) (e5:Int) (hx10:([0,1,1,0,1,1,1,1,1,1,0,0,0,0,0,0,0,0,0]:List Int)[(e1.Op).toNat]?=some e5) (m2:List Int) (Z1:OA) (cz1:Nat) (o:(List Int) ⊕ SFault) (h:punctualref_stackFault.p3 i1 e1 m2=some o) (w:World) (hS:St w0 w [bk b5 #[vI e1.Op,vI e1.A,vI e1.B] 29,bk b4 #[vI 0,vI 1,vI 1,vI 0,vI 1,vI 1,vI 1,vI 1,vI 1,vI 1,vI 0,vI 0,vI 0,vI 0,vI 0,vI 0,vI 0,vI 0,vI 0] 3,bk b3 #[vI 0,vI 0,vI 0,vI 1,vI 2,vI 2,vI 2,vI 2,vI 2,vI 0,vI 1,vI 0,vI 1,vI 0,vI 0,vI 0,vI 0,vI 0,vI 0] 3,bk b1 #[vI 0,vI 0] 25,ro Z1 cz1 3 m2,Own.map (κ:=Int) (ν:=Int) b2 mp1]) (Q:Exit→Act→World→Prop) (hQ:∀ x a w,Outs (punctualref_stackFault.A3 w0 l0 A0 c0 b1 b2 b3 b4 i1 mp1 e4 e5) (punctualref_stackFault.B3 w0) o x a w→Q x a w):WE Tryd.prog 141 (subF Tryd.f34 [1,1,1,1,0,1,0,0,1,1,0,0,1,1,1,1,1,1,1,0]) Q [(0,.slice A0 l0.length c0),(2,pP b1 0),(3,.map (some b2)),(4,.slice (some ⟨b3,0,none⟩) 19 19),(5,.slice (some ⟨b4,0,none⟩) 19 19),(6,vI (i1:Int)),(7,pP b5 0),(8,vI (IntKind.i64.wrap ((IntKind.i64.wrap (((mget mp1 (i1:Int)).getD 0)-e4))+e5))),(10,(.slice Z1 m2.length cz1)),(20,.slice A0 l0.length c0),(21,vI (l0.length:Int)),(22,vI (i1:Int))] w:=by
 simp only [punctualref_stackFault.p3] at h
 refine ws fun K32 hK32=>wr [(0,0),(1,0),(2,0)]<|gb [0,1,2] [(101,.bool (e1.Op != 11)),(100,vI e1.Op),(99,pP b5 0)] [ld b5 0 (vI e1.Op)] ⟨hS.c 0,trivial⟩<|gn hK32 ?_
 by_cases hc17:e1.Op=11
 ·rw [if_pos hc17] at h
  refine wk 101 (e1.Op != 11) false (bne_eq_false_iff_eq.2 hc17)<|wf ?_
  have hS102:=hS.p [1,2,3,4,5] rfl
  obtain rfl:=si h
  exact we_skip fun a hF=>hQ _ _ _ (Outs.again ⟨(.slice Z1 m2.length cz1),hS102,hF.weaken ea⟩)
 rw [if_neg hc17] at h
 refine wk 101 (e1.Op != 11) true (bne_iff_ne.2 hc17)<|wt<|wr [(0,0),(1,0),(2,0),(3,1),(4,2),(5,0)]<|gb0 [0,1] [(103,vI (i1:Int)),(102,(.slice Z1 m2.length cz1))]<|ge_addn (d:=104) (ty:=3) (x:=(.tmp 103)) (y:=(.const (vI 1))) (t:=3) (t2:=3) (k:=.i64) (m:=i1) (by kernel_rfl) (by kernel_rfl) (by kernel_rfl) (by have h0:=hR0.small; omega) ?_
 refine gw (some 105) (.cells #[vI ((i1+1:Nat):Int)] 3) (fun b=>.slice (some ⟨b,0,none⟩) 1 1) hS fun b11 w24 hx16 hS103=>?_
 have hS104:=hS103.b 5
 by_cases hc18:m2.length<17592186044416
 ·rw [if_pos hc18] at h
  refine ge_append (α:=Int) (m:=0) (d:=106) (t:=37) (el:=3) (bytes:=8) (c1:=1) (b1:=b11) (x:=(.tmp 102)) (y:=(.tmp 105)) (ty:=37) (v:=(.slice Z1 m2.length cz1)) (z:=vI 0) (l:=m2) (u:=((i1+1:Nat):Int)) (by kernel_rfl) (by kernel_rfl) (by kernel_rfl) (by kernel_rfl) (by kernel_rfl) rfl hS104 rfl (by omega) fun v9 w25 hS105=>?_
  refine gb0 [5] [(10,v9)] ?_
  have hS111:=hS105.p [2,3,4,0,5] rfl
  obtain rfl:=si h
  exact ge_nil fun a hF=>hQ _ _ _ (Outs.again ⟨v9,hS111,hF.weaken ea⟩)
 rw [if_neg hc18] at h
 cases h
abbrev punctualref_stackFault.A4 (w0:World) (l0:List SIns) (A0:OA) (c0 b1 b2 b3 b4 i1:Nat) (mp1:List (Int×Int)) (e4 e5:Int) (m4:List Int) (Z2:OA) (cz2:Nat):(Nat×(List (Int×Int)))→Act→World→Prop:=fun (s:Nat×(List (Int×Int))) a w=>St w0 w [bk b4 #[vI 0,vI 1,vI 1,vI 0,vI 1,vI 1,vI 1,vI 1,vI 1,vI 1,vI 0,vI 0,vI 0,vI 0,vI 0,vI 0,vI 0,vI 0,vI 0] 3,bk b3 #[vI 0,vI 0,vI 0,vI 1,vI 2,vI 2,vI 2,vI 2,vI 2,vI 0,vI 1,vI 0,vI 1,vI 0,vI 0,vI 0,vI 0,vI 0,vI 0] 3,bk b1 #[vI 0,vI 0] 25,ro Z2 cz2 3 m4,Own.map (κ:=Int) (ν:=Int) b2 s.2]∧Frm 141 a [(0,.slice A0 l0.length c0),(2,pP b1 0),(3,.map (some b2)),(4,.slice (some ⟨b3,0,none⟩) 19 19),(5,.slice (some ⟨b4,0,none⟩) 19 19),(6,vI (i1:Int)),(8,vI (IntKind.i64.wrap ((IntKind.i64.wrap (((mget mp1 (i1:Int)).getD 0)-e4))+e5))),(20,.slice A0 l0.length c0),(21,vI (l0.length:Int)),(22,vI (i1:Int)),(107,(.slice Z2 m4.length cz2)),(108,vI (m4.length:Int)),(109,vI (s.1:Int))]
abbrev punctualref_stackFault.B4 (w0:World) (l0:List SIns) (A0:OA) (c0 b1 b2 b3 b4 i1:Nat):((List (Int×Int)) ⊕ SFault)→Exit→Act→World→Prop:=Exits 2 (fun (s:(List (Int×Int))) a w=>St w0 w [bk b4 #[vI 0,vI 1,vI 1,vI 0,vI 1,vI 1,vI 1,vI 1,vI 1,vI 1,vI 0,vI 0,vI 0,vI 0,vI 0,vI 0,vI 0,vI 0,vI 0] 3,bk b3 #[vI 0,vI 0,vI 0,vI 1,vI 2,vI 2,vI 2,vI 2,vI 2,vI 0,vI 1,vI 0,vI 1,vI 0,vI 0,vI 0,vI 0,vI 0,vI 0] 3,bk b1 #[vI 0,vI 0] 25,Own.map (κ:=Int) (ν:=Int) b2 s]∧Frm 141 a [(0,.slice A0 l0.length c0),(2,pP b1 0),(3,.map (some b2)),(4,.slice (some ⟨b3,0,none⟩) 19 19),(5,.slice (some ⟨b4,0,none⟩) 19 19),(20,.slice A0 l0.length c0),(21,vI (l0.length:Int)),(22,vI (i1:Int))]) (Rets Tryd.prog Tryd.f34 (punctualref_stackFault.Post w0))
theorem punctualref_stackFault_r4 (K:Nat) (w0:World) (l0:List SIns) (A0:OA) (c0:Nat) (hR0:RdL w0 A0 l0) (hL0:l0.length≤c0) (b1 b2 b3 b4 i1:Nat) (mp1:List (Int×Int)) (hc1:(i1:Int)<(l0.length:Int)) (e1:SIns) (hx5:l0[i1]?=some e1) (b5:Nat) (hc2:((mget mp1 (i1:Int)).isSome)=true) (hc6:0≤e1.Op) (e4:Int) (hx9:([0,0,0,1,2,2,2,2,2,0,1,0,1,0,0,0,0,0,0]:List Int)[(e1.Op).toNat]?=some e4) (e5:Int) (hx10:([0,1,1,0,1,1,1,1,1,1,0,0,0,0,0,0,0,0,0]:List Int)[(e1.Op).toNat]?=some e5) (m2:List Int) (Z1:OA) (cz1:Nat) (m4:List Int) (Z2:OA) (cz2:Nat) (s:Nat×(List (Int×Int))) (o:(Nat×(List (Int×Int))) ⊕ ((List (Int×Int)) ⊕ SFault)) (h:punctualref_stackFault.r4 i1 mp1 e4 e5 m4 s=some o) (a:Act) (w:World) (hA:punctualref_stackFault.A4 w0 l0 A0 c0 b1 b2 b3 b4 i1 mp1 e4 e5 m4 Z2 cz2 s a w) (Q:Exit→Act→World→Prop) (hQ:∀ x a w,Outs (punctualref_stackFault.A4 w0 l0 A0 c0 b1 b2 b3 b4 i1 mp1 e4 e5 m4 Z2 cz2) (punctualref_stackFault.B4 w0 l0 A0 c0 b1 b2 b3 b4 i1) o x a w→Q x a w):(subF Tryd.f34 [1,1,1,1,0,1,0,0,1,1,0,0,1,1,1,1,1,1,1,1,1,0,0]).wp Tryd.prog Q a w:=by
 obtain ⟨i2,mp3⟩:=s
 obtain ⟨hS,hF⟩:=hA
 replace hS:St w0 w [bk b4 #[vI 0,vI 1,vI 1,vI 0,vI 1,vI 1,vI 1,vI 1,vI 1,vI 1,vI 0,vI 0,vI 0,vI 0,vI 0,vI 0,vI 0,vI 0,vI 0] 3,bk b3 #[vI 0,vI 0,vI 0,vI 1,vI 2,vI 2,vI 2,vI 2,vI 2,vI 0,vI 1,vI 0,vI 1,vI 0,vI 0,vI 0,vI 0,vI 0,vI 0] 3,bk b1 #[vI 0,vI 0] 25,ro Z2 cz2 3 m4,Own.map (κ:=Int) (ν:=Int) b2 mp3]:=hS
 simp only [punctualref_stackFault.r4] at h
 refine (?_:WE Tryd.prog 141 (subF Tryd.f34 [1,1,1,1,0,1,0,0,1,1,0,0,1,1,1,1,1,1,1,1,1,0,0]) Q [(0,.slice A0 l0.length c0),(2,pP b1 0),(3,.map (some b2)),(4,.slice (some ⟨b3,0,none⟩) 19 19),(5,.slice (some ⟨b4,0,none⟩) 19 19),(6,vI (i1:Int)),(8,vI (IntKind.i64.wrap ((IntKind.i64.wrap (((mget mp1 (i1:Int)).getD 0)-e4))+e5))),(20,.slice A0 l0.length c0),(21,vI (l0.length:Int)),(22,vI (i1:Int)),(107,(.slice Z2 m4.length cz2)),(108,vI (m4.length:Int)),(109,vI (i2:Int))] w) a hF
 clear hF a
 refine ws fun K34 hK34=>wr [(0,0)]<|gb0 [0] [(110,.bool (decide ((i2:Int)<(m4.length:Int))))]<|gn hK34<|ws fun K35 hK35=>?_
 by_cases hc19:(i2:Int)<(m4.length:Int)
 ·rw [if_pos hc19] at h
  refine wk 110 (decide ((i2:Int)<(m4.length:Int))) true (decide_eq_true hc19)<|wt<|we_skip fun a hF=>hK35 _ _ ?_ a hF
  refine ws fun K36 hK36=>we_block<|ws fun K37 hK37=>wr [(0,0),(1,0),(2,0)] ?_
  rcases hx17:m4[i2]? with _ | e6
  ·rw [hx17] at h; cases h
  rw [hx17] at h
  simp only [] at h
  refine gi 111 0 37 3 1 m4.length cz2 (.tmp 107) (.tmp 109) Z2 .i64 (i2:Int) i2 ((hS.rdAt 3 rfl).eqSome (pos_of_get hx17)) rfl (lt_of_get hx17) ?_
  refine gb [1,2] [(13,vI e6),(112,vI e6)] [.loaded ⟨blkOf Z2,offOf Z2+i2*1,none⟩ (vI e6)] ⟨RdL.cell (j:=0) (hS.rdAt 3 rfl) hx17 rfl,trivial⟩<|gn hK37<|ws fun K38 hK38=>ws fun K39 hK39=>wr [(0,0),(1,0),(2,0),(3,0),(4,0),(5,0),(6,0),(7,0)]<|gb0 [0,1] [(115,vI e6),(114,.map (some b2))]<|ge_lookup2 (κ:=Int) (ν:=Int) (d:=116) (b:=b2) (q:=4) (t:=62) (kt:=3) (et:=3) (x:=(.tmp 114)) (y:=(.tmp 115)) (ty:=111) (m:=mp3) (k:=e6) (z:=0) (v:=((mget mp3 e6).getD 0)) (zv:=vI 0) (vv:=vI ((mget mp3 e6).getD 0)) (by kernel_rfl) (by kernel_rfl) (by kernel_rfl) (by kernel_rfl) (by kernel_rfl) (fun w'=>by kernel_rfl) rfl hS rfl rfl rfl ?_
  refine gb0 [3,4,5,6,7] [(15,.bool ((mget mp3 e6).isSome)),(14,vI ((mget mp3 e6).getD 0)),(118,.bool ((mget mp3 e6).isSome)),(117,vI ((mget mp3 e6).getD 0)),(113,.tuple #[vI ((mget mp3 e6).getD 0),.bool ((mget mp3 e6).isSome)])]<|gn hK39<|ws fun K40 hK40=>wr [(0,0),(1,0),(2,0),(3,0),(4,0),(5,0)]<|gb0 [0,1] [(120,.bool ((mget mp3 e6).isSome)),(119,.bool ((mget mp3 e6).isSome))] ?_
  by_cases hc20:((mget mp3 e6).isSome)=true
  ·rw [if_pos hc20] at h
   refine gk 120 ((mget mp3 e6).isSome) true hc20<|gb0 [2,3,4,5] [(124,.bool (((mget mp3 e6).getD 0) != (IntKind.i64.wrap ((IntKind.i64.wrap (((mget mp1 (i1:Int)).getD 0)-e4))+e5)))),(123,.bool (((mget mp3 e6).getD 0) != (IntKind.i64.wrap ((IntKind.i64.wrap (((mget mp1 (i1:Int)).getD 0)-e4))+e5)))),(122,vI (IntKind.i64.wrap ((IntKind.i64.wrap (((mget mp1 (i1:Int)).getD 0)-e4))+e5))),(121,vI ((mget mp3 e6).getD 0))]<|gn hK40 ?_
   by_cases hc21:((mget mp3 e6).getD 0)=(IntKind.i64.wrap ((IntKind.i64.wrap (((mget mp1 (i1:Int)).getD 0)-e4))+e5))
   ·rw [if_pos hc21] at h
    refine wk 124 (((mget mp3 e6).getD 0) != (IntKind.i64.wrap ((IntKind.i64.wrap (((mget mp1 (i1:Int)).getD 0)-e4))+e5))) false (bne_eq_false_iff_eq.2 hc21)<|wf<|we_skip fun a hF=>hK38 _ _ ?_ a hF
    refine wr [(0,0),(1,0),(2,0),(3,2)]<|gb0 [0,1,2] [(129,vI (IntKind.i64.wrap ((IntKind.i64.wrap (((mget mp1 (i1:Int)).getD 0)-e4))+e5))),(128,vI e6),(127,.map (some b2))] ?_
    have hS118:=hS.b 4
    refine ge_mapSet (κ:=Int) (ν:=Int) (b:=b2) (ins:=false) (mm:=0) (t:=62) (kt:=3) (et:=3) (x:=(.tmp 127)) (y:=(.tmp 128)) (u:=(.tmp 129)) (ty:=0) (m:=mp3) (k:=e6) (v:=(IntKind.i64.wrap ((IntKind.i64.wrap (((mget mp1 (i1:Int)).getD 0)-e4))+e5))) (vv:=vI (IntKind.i64.wrap ((IntKind.i64.wrap (((mget mp1 (i1:Int)).getD 0)-e4))+e5))) (by kernel_rfl) (by kernel_rfl) (by kernel_rfl) (by kernel_rfl) rfl (by kernel_rfl) (by kernel_rfl) hS118 fun w27 hS119=>?_
    refine gn hK36<|wr [(0,0),(1,0)]<|ge_addn (d:=130) (ty:=3) (x:=(.tmp 109)) (y:=(.const (vI 1))) (t:=3) (t2:=3) (k:=.i64) (m:=i2) (by kernel_rfl) (by kernel_rfl) (by kernel_rfl) (by have h0:=hS119.ofSmall 4 rfl; omega) ?_
    refine gb0 [1] [(109,vI ((i2+1:Nat):Int))] ?_
    have hS123:=(((hS119.b 4).b 4).b 4).b 4
    obtain rfl:=si h
    exact ge_nil fun a hF=>hQ _ _ _ (Outs.again ⟨hS123,hF.weaken ea⟩)
   rw [if_neg hc21] at h
   refine wk 124 (((mget mp3 e6).getD 0) != (IntKind.i64.wrap ((IntKind.i64.wrap (((mget mp1 (i1:Int)).getD 0)-e4))+e5))) true (bne_iff_ne.2 hc21)<|wt<|ws fun K41 hK41=>wr [(0,0),(1,1),(2,2)]<|gb0 [0] [(125,vI (i1:Int))]<|ge_call (d:=some 126) (f:=9) (args:=#[vI 8,vI (i1:Int)]) (by kernel_rfl) (punctualref_F_ok 8 (i1:Int) _ _ rfl) ?_
   rintro _ w28 ⟨rfl,hS124⟩
   refine ⟨_,rfl,hS124.below,?_⟩
   have hS126:=(hS.call hS124).b 2
   refine gs b1 0 #[vI 0,vI 0] 25 [vI ((punctualref_F.f 8 (i1:Int)).Code),vI ((punctualref_F.f 8 (i1:Int)).At)] hS126 fun w29 hS127=>?_
   have hS128:=hS127.nc #[vI ((punctualref_F.f 8 (i1:Int)).Code),vI ((punctualref_F.f 8 (i1:Int)).At)] rfl
   refine gn hK41 ?_
   have hS129:=hS128.takeN 0
   obtain rfl:=si h
   exact we_ret fun a hF=>hQ _ _ _ (Outs.out nofun (Exits.on ⟨rfl,(pr [.cell 2 25] [.agg #[vI ((punctualref_F.f 8 (i1:Int)).Code),vI ((punctualref_F.f 8 (i1:Int)).At)]] [ld b1 0 (vI ((punctualref_F.f 8 (i1:Int)).Code)),ld b1 1 (vI ((punctualref_F.f 8 (i1:Int)).At))] ⟨hS128.c 0,hS128.c 0,trivial⟩ ⟨rfl,hS129⟩) a hF⟩))
  rw [if_neg hc20] at h
  refine gk 120 ((mget mp3 e6).isSome) false (Bool.eq_false_iff.2 hc20)<|gb0 [2,3,4,5] [(124,.bool false),(123,undef),(122,undef),(121,undef)]<|gn hK40<|wf<|we_skip fun a hF=>hK38 _ _ ?_ a hF
  refine wr [(0,0),(1,0),(2,0),(3,2)]<|gb0 [0,1,2] [(129,vI (IntKind.i64.wrap ((IntKind.i64.wrap (((mget mp1 (i1:Int)).getD 0)-e4))+e5))),(128,vI e6),(127,.map (some b2))] ?_
  have hS130:=hS.b 4
  refine ge_mapSet (κ:=Int) (ν:=Int) (b:=b2) (ins:=false) (mm:=0) (t:=62) (kt:=3) (et:=3) (x:=(.tmp 127)) (y:=(.tmp 128)) (u:=(.tmp 129)) (ty:=0) (m:=mp3) (k:=e6) (v:=(IntKind.i64.wrap ((IntKind.i64.wrap (((mget mp1 (i1:Int)).getD 0)-e4))+e5))) (vv:=vI (IntKind.i64.wrap ((IntKind.i64.wrap (((mget mp1 (i1:Int)).getD 0)-e4))+e5))) (by kernel_rfl) (by kernel_rfl) (by kernel_rfl) (by kernel_rfl) rfl (by kernel_rfl) (by kernel_rfl) hS130 fun w30 hS131=>?_
  refine gn hK36<|wr [(0,0),(1,0)]<|ge_addn (d:=130) (ty:=3) (x:=(.tmp 109)) (y:=(.const (vI 1))) (t:=3) (t2:=3) (k:=.i64) (m:=i2) (by kernel_rfl) (by kernel_rfl) (by kernel_rfl) (by have h0:=hS131.ofSmall 4 rfl; omega) ?_
  refine gb0 [1] [(109,vI ((i2+1:Nat):Int))] ?_
  have hS135:=(((hS131.b 4).b 4).b 4).b 4
  obtain rfl:=si h
  exact ge_nil fun a hF=>hQ _ _ _ (Outs.again ⟨hS135,hF.weaken ea⟩)
 rw [if_neg hc19] at h
 refine wk 110 (decide ((i2:Int)<(m4.length:Int))) false (decide_eq_false hc19)<|wf ?_
 have hS140:=hS.p [0,1,2,4] rfl
 obtain rfl:=si h
 exact we_exit fun a hF=>hQ _ _ _ (Outs.out nofun (Exits.here ⟨hS140,hF.weaken ea⟩))
abbrev punctualref_stackFault.A0 (w0:World) (l0:List SIns) (A0:OA) (c0 b1 b2 b3 b4:Nat):(Nat×(List (Int×Int)))→Act→World→Prop:=fun (s:Nat×(List (Int×Int))) a w=>St w0 w [bk b4 #[vI 0,vI 1,vI 1,vI 0,vI 1,vI 1,vI 1,vI 1,vI 1,vI 1,vI 0,vI 0,vI 0,vI 0,vI 0,vI 0,vI 0,vI 0,vI 0] 3,bk b3 #[vI 0,vI 0,vI 0,vI 1,vI 2,vI 2,vI 2,vI 2,vI 2,vI 0,vI 1,vI 0,vI 1,vI 0,vI 0,vI 0,vI 0,vI 0,vI 0] 3,bk b1 #[vI 0,vI 0] 25,Own.map (κ:=Int) (ν:=Int) b2 s.2]∧Frm 141 a [(0,.slice A0 l0.length c0),(2,pP b1 0),(3,.map (some b2)),(4,.slice (some ⟨b3,0,none⟩) 19 19),(5,.slice (some ⟨b4,0,none⟩) 19 19),(20,.slice A0 l0.length c0),(21,vI (l0.length:Int)),(22,vI (s.1:Int))]
abbrev punctualref_stackFault.B0 (w0:World) (l0:List SIns) (A0:OA) (c0 b1 b2:Nat):((List (Int×Int)) ⊕ SFault)→Exit→Act→World→Prop:=Exits 0 (fun (s:(List (Int×Int))) a w=>St w0 w [bk b1 #[vI 0,vI 0] 25,Own.map (κ:=Int) (ν:=Int) b2 s]∧Frm 141 a [(0,.slice A0 l0.length c0),(2,pP b1 0),(3,.map (some b2))]) (Rets Tryd.prog Tryd.f34 (punctualref_stackFault.Post w0))
theorem punctualref_stackFault_r0 (K:Nat) (w0:World) (l0:List SIns) (A0:OA) (c0:Nat) (hR0:RdL w0 A0 l0) (hL0:l0.length≤c0) (b1 b2 b3 b4:Nat) (s:Nat×(List (Int×Int))) (o:(Nat×(List (Int×Int))) ⊕ ((List (Int×Int)) ⊕ SFault)) (h:punctualref_stackFault.r0 K l0 s=some o) (a:Act) (w:World) (hA:punctualref_stackFault.A0 w0 l0 A0 c0 b1 b2 b3 b4 s a w) (Q:Exit→Act→World→Prop) (hQ:∀ x a w,Outs (punctualref_stackFault.A0 w0 l0 A0 c0 b1 b2 b3 b4) (punctualref_stackFault.B0 w0 l0 A0 c0 b1 b2) o x a w→Q x a w):(subF Tryd.f34 [1,1,1,1,0,1,0,0]).wp Tryd.prog Q a w:=by
 obtain ⟨i1,mp1⟩:=s
 obtain ⟨hS,hF⟩:=hA
 replace hS:St w0 w [bk b4 #[vI 0,vI 1,vI 1,vI 0,vI 1,vI 1,vI 1,vI 1,vI 1,vI 1,vI 0,vI 0,vI 0,vI 0,vI 0,vI 0,vI 0,vI 0,vI 0] 3,bk b3 #[vI 0,vI 0,vI 0,vI 1,vI 2,vI 2,vI 2,vI 2,vI 2,vI 0,vI 1,vI 0,vI 1,vI 0,vI 0,vI 0,vI 0,vI 0,vI 0] 3,bk b1 #[vI 0,vI 0] 25,Own.map (κ:=Int) (ν:=Int) b2 mp1]:=hS
 simp only [punctualref_stackFault.r0] at h
 refine (?_:WE Tryd.prog 141 (subF Tryd.f34 [1,1,1,1,0,1,0,0]) Q [(0,.slice A0 l0.length c0),(2,pP b1 0),(3,.map (some b2)),(4,.slice (some ⟨b3,0,none⟩) 19 19),(5,.slice (some ⟨b4,0,none⟩) 19 19),(20,.slice A0 l0.length c0),(21,vI (l0.length:Int)),(22,vI (i1:Int))] w) a hF
 clear hF a
 refine ws fun K7 hK7=>wr [(0,0)]<|gb0 [0] [(23,.bool (decide ((i1:Int)<(l0.length:Int))))]<|gn hK7<|ws fun K8 hK8=>?_
 by_cases hc1:(i1:Int)<(l0.length:Int)
 ·rw [if_pos hc1] at h
  refine wk 23 (decide ((i1:Int)<(l0.length:Int))) true (decide_eq_true hc1)<|wt<|we_skip fun a hF=>hK8 _ _ ?_ a hF
  refine ws fun K9 hK9=>we_block<|ws fun K10 hK10=>wr [(0,0),(1,0),(2,0),(3,1),(4,0),(5,2)]<|gb0 [0] [(24,vI (i1:Int))] ?_
  rcases hx5:l0[i1]? with _ | e1
  ·rw [hx5] at h; cases h
  rw [hx5] at h
  simp only [] at h
  refine gi 25 0 22 29 3 l0.length c0 (.tmp 20) (.tmp 22) A0 .i64 (i1:Int) i1 ((hS.rd hR0).eqSome (pos_of_get hx5)) rfl (lt_of_get hx5) ?_
  refine gb [2] [(26,.agg #[vI e1.Op,vI e1.A,vI e1.B])] [.loaded ⟨blkOf A0,offOf A0+i1*3,none⟩ (vI e1.Op),.loaded ⟨blkOf A0,offOf A0+i1*3+1,none⟩ (vI e1.A),.loaded ⟨blkOf A0,offOf A0+i1*3+2,none⟩ (vI e1.B)] ⟨RdL.cell (j:=0) (hS.rd hR0) hx5 rfl,RdL.cell (j:=1) (hS.rd hR0) hx5 rfl,RdL.cell (j:=2) (hS.rd hR0) hx5 rfl,trivial⟩<|gw (some 7) (.cells #[vI 0,vI 0,vI 0] 29) (fun b=>pP b 0) hS fun b5 w6 hx6 hS11=>?_
  refine gb0 [4] [(6,vI (i1:Int))]<|gs b5 0 #[vI 0,vI 0,vI 0] 29 [vI e1.Op,vI e1.A,vI e1.B] hS11 fun w7 hS12=>?_
  have hS13:=hS12.nc #[vI e1.Op,vI e1.A,vI e1.B] rfl
  refine gn hK10<|ws fun K11 hK11=>wr [(0,0),(1,0),(2,0),(3,0),(4,0),(5,0),(6,0),(7,0)]<|gb0 [0,1] [(29,vI (i1:Int)),(28,.map (some b2))]<|ge_lookup2 (κ:=Int) (ν:=Int) (d:=30) (b:=b2) (q:=4) (t:=62) (kt:=3) (et:=3) (x:=(.tmp 28)) (y:=(.tmp 29)) (ty:=111) (m:=mp1) (k:=(i1:Int)) (z:=0) (v:=((mget mp1 (i1:Int)).getD 0)) (zv:=vI 0) (vv:=vI ((mget mp1 (i1:Int)).getD 0)) (by kernel_rfl) (by kernel_rfl) (by kernel_rfl) (by kernel_rfl) (by kernel_rfl) (fun w'=>by kernel_rfl) rfl hS13 rfl rfl rfl ?_
  refine gb0 [3,4,5,6,7] [(9,.bool ((mget mp1 (i1:Int)).isSome)),(8,vI ((mget mp1 (i1:Int)).getD 0)),(32,.bool ((mget mp1 (i1:Int)).isSome)),(31,vI ((mget mp1 (i1:Int)).getD 0)),(27,.tuple #[vI ((mget mp1 (i1:Int)).getD 0),.bool ((mget mp1 (i1:Int)).isSome)])]<|gn hK11<|ws fun K12 hK12=>ws fun K13 hK13=>wr [(0,0),(1,0)]<|gb0 [0,1] [(34,.bool (!((mget mp1 (i1:Int)).isSome))),(33,.bool ((mget mp1 (i1:Int)).isSome))]<|gn hK13 ?_
  by_cases hc2:((mget mp1 (i1:Int)).isSome)=true
  ·rw [if_pos hc2] at h
   refine wk 34 (!((mget mp1 (i1:Int)).isSome)) false (congrArg (fun z=>!z) hc2)<|wf<|we_skip fun a hF=>hK12 _ _ ?_ a hF
   refine ws fun K14 hK14=>?_
   rcases hq3:punctualref_stackFault.p1 i1 mp1 e1 with _ | (_ | rr4)
   ·rw [hq3] at h; cases h
   ·rw [hq3] at h
    simp only [] at h
    refine kp (punctualref_stackFault_p1 K w0 l0 A0 c0 hR0 hL0 b1 b2 b3 b4 i1 mp1 hc1 e1 hx5 b5 hc2 _ hq3 _ hS13 _ ?_)
    rintro _ a w12 ⟨rfl,hS32,hF⟩
    replace hS32:St w0 w12 [bk b5 #[vI e1.Op,vI e1.A,vI e1.B] 29,bk b4 #[vI 0,vI 1,vI 1,vI 0,vI 1,vI 1,vI 1,vI 1,vI 1,vI 1,vI 0,vI 0,vI 0,vI 0,vI 0,vI 0,vI 0,vI 0,vI 0] 3,bk b3 #[vI 0,vI 0,vI 0,vI 1,vI 2,vI 2,vI 2,vI 2,vI 2,vI 0,vI 1,vI 0,vI 1,vI 0,vI 0,vI 0,vI 0,vI 0,vI 0] 3,bk b1 #[vI 0,vI 0] 25,Own.map (κ:=Int) (ν:=Int) b2 mp1]:=hS32
    refine hK14 [(0,.slice A0 l0.length c0),(2,pP b1 0),(3,.map (some b2)),(4,.slice (some ⟨b3,0,none⟩) 19 19),(5,.slice (some ⟨b4,0,none⟩) 19 19),(6,vI (i1:Int)),(7,pP b5 0),(8,vI ((mget mp1 (i1:Int)).getD 0)),(20,.slice A0 l0.length c0),(21,vI (l0.length:Int)),(22,vI (i1:Int))] w12 ?_ a hF
    refine ws fun K18 hK18=>we_draws (by kernel_rfl) [(0,0),(1,0),(2,0),(3,0),(4,0),(5,0),(6,0),(7,0),(8,0),(9,0),(10,0),(11,0),(12,0),(13,0)] (by kernel_rfl) ?_
    have hS33:=hS32.drew
    refine gb [0,1,2,3] [(65,vI e1.Op),(64,pP b5 0),(63,.slice (some ⟨b3,0,none⟩) 19 19),(62,vI ((mget mp1 (i1:Int)).getD 0))] [ld b5 0 (vI e1.Op)] ⟨hS33.c 0,trivial⟩ ?_
    by_cases hc6:0≤e1.Op
    ·rw [if_pos hc6] at h
     rcases hx9:([0,0,0,1,2,2,2,2,2,0,1,0,1,0,0,0,0,0,0]:List Int)[(e1.Op).toNat]? with _ | e4
     ·rw [hx9] at h; cases h
     rw [hx9] at h
     simp only [] at h
     refine gi 66 0 37 3 1 19 19 (.tmp 63) (.tmp 65) (some ⟨b3,0,none⟩) .i64 e1.Op ((e1.Op).toNat) ((hS33.rdBlk 2 ([0,0,0,1,2,2,2,2,2,0,1,0,1,0,0,0,0,0,0]:List Int) rfl rfl rfl).eqSome (pos_of_get hx9)) (Int.toNat_of_nonneg hc6).symm (lt_of_get hx9) ?_
     refine gb [5,6,7,8,9] [(71,vI e1.Op),(70,pP b5 0),(69,.slice (some ⟨b4,0,none⟩) 19 19),(68,vI (IntKind.i64.wrap (((mget mp1 (i1:Int)).getD 0)-e4))),(67,vI e4)] [.loaded ⟨blkOf (some ⟨b3,0,none⟩),offOf (some ⟨b3,0,none⟩)+((e1.Op).toNat)*1,none⟩ (vI e4),ld b5 0 (vI e1.Op)] ⟨RdL.cell (j:=0) (hS33.rdBlk 2 ([0,0,0,1,2,2,2,2,2,0,1,0,1,0,0,0,0,0,0]:List Int) rfl rfl rfl) hx9 rfl,hS33.c 0,trivial⟩ ?_
     rcases hx10:([0,1,1,0,1,1,1,1,1,1,0,0,0,0,0,0,0,0,0]:List Int)[(e1.Op).toNat]? with _ | e5
     ·rw [hx10] at h; cases h
     rw [hx10] at h
     simp only [] at h
     refine gi 72 0 37 3 1 19 19 (.tmp 69) (.tmp 71) (some ⟨b4,0,none⟩) .i64 e1.Op ((e1.Op).toNat) ((hS33.rdBlk 1 ([0,1,1,0,1,1,1,1,1,1,0,0,0,0,0,0,0,0,0]:List Int) rfl rfl rfl).eqSome (pos_of_get hx10)) (Int.toNat_of_nonneg hc6).symm (lt_of_get hx10) ?_
     refine gb [11,12,13] [(8,vI (IntKind.i64.wrap ((IntKind.i64.wrap (((mget mp1 (i1:Int)).getD 0)-e4))+e5))),(74,vI (IntKind.i64.wrap ((IntKind.i64.wrap (((mget mp1 (i1:Int)).getD 0)-e4))+e5))),(73,vI e5)] [.loaded ⟨blkOf (some ⟨b4,0,none⟩),offOf (some ⟨b4,0,none⟩)+((e1.Op).toNat)*1,none⟩ (vI e5)] ⟨RdL.cell (j:=0) (hS33.rdBlk 1 ([0,1,1,0,1,1,1,1,1,1,0,0,0,0,0,0,0,0,0]:List Int) rfl rfl rfl) hx10 rfl,trivial⟩<|gn hK18<|ws fun K19 hK19=>wr [(0,0)]<|gb0 [0] [(10,.slice none 0 0)]<|gn hK19<|ws fun K20 hK20=>?_
     rcases hq4:punctualref_stackFault.p2 e1 with _ | (m2 | rr3)
     ·rw [hq4] at h; cases h
     ·rw [hq4] at h
      simp only [] at h
      refine kp (punctualref_stackFault_p2 K w0 l0 A0 c0 hR0 hL0 b1 b2 b3 b4 i1 mp1 hc1 e1 hx5 b5 hc2 hc6 e4 hx9 e5 hx10 _ hq4 _ hS33 _ ?_)
      rintro _ a w23 ⟨rfl,v7,hS96,hF⟩
      replace hS96:St w0 w23 [bk b5 #[vI e1.Op,vI e1.A,vI e1.B] 29,bk b4 #[vI 0,vI 1,vI 1,vI 0,vI 1,vI 1,vI 1,vI 1,vI 1,vI 1,vI 0,vI 0,vI 0,vI 0,vI 0,vI 0,vI 0,vI 0,vI 0] 3,bk b3 #[vI 0,vI 0,vI 0,vI 1,vI 2,vI 2,vI 2,vI 2,vI 2,vI 0,vI 1,vI 0,vI 1,vI 0,vI 0,vI 0,vI 0,vI 0,vI 0] 3,bk b1 #[vI 0,vI 0] 25,Own.of v7 3 m2,Own.map (κ:=Int) (ν:=Int) b2 mp1]:=hS96
      refine hK20 [(0,.slice A0 l0.length c0),(2,pP b1 0),(3,.map (some b2)),(4,.slice (some ⟨b3,0,none⟩) 19 19),(5,.slice (some ⟨b4,0,none⟩) 19 19),(6,vI (i1:Int)),(7,pP b5 0),(8,vI (IntKind.i64.wrap ((IntKind.i64.wrap (((mget mp1 (i1:Int)).getD 0)-e4))+e5))),(10,v7),(20,.slice A0 l0.length c0),(21,vI (l0.length:Int)),(22,vI (i1:Int))] w23 ?_ a hF
      refine ws fun K31 hK31=>?_
      obtain ⟨Z1,cz1,rfl⟩:=hS96.open 4 rfl
      rcases hq5:punctualref_stackFault.p3 i1 e1 m2 with _ | (m4 | rr2)
      ·rw [hq5] at h; cases h
      ·rw [hq5] at h
       simp only [] at h
       refine kp (punctualref_stackFault_p3 K w0 l0 A0 c0 hR0 hL0 b1 b2 b3 b4 i1 mp1 hc1 e1 hx5 b5 hc2 hc6 e4 hx9 e5 hx10 m2 Z1 cz1 _ hq5 _ hS96 _ ?_)
       rintro _ a w26 ⟨rfl,v10,hS112,hF⟩
       replace hS112:St w0 w26 [bk b4 #[vI 0,vI 1,vI 1,vI 0,vI 1,vI 1,vI 1,vI 1,vI 1,vI 1,vI 0,vI 0,vI 0,vI 0,vI 0,vI 0,vI 0,vI 0,vI 0] 3,bk b3 #[vI 0,vI 0,vI 0,vI 1,vI 2,vI 2,vI 2,vI 2,vI 2,vI 0,vI 1,vI 0,vI 1,vI 0,vI 0,vI 0,vI 0,vI 0,vI 0] 3,bk b1 #[vI 0,vI 0] 25,Own.of v10 3 m4,Own.map (κ:=Int) (ν:=Int) b2 mp1]:=hS112
       refine hK31 [(0,.slice A0 l0.length c0),(2,pP b1 0),(3,.map (some b2)),(4,.slice (some ⟨b3,0,none⟩) 19 19),(5,.slice (some ⟨b4,0,none⟩) 19 19),(6,vI (i1:Int)),(8,vI (IntKind.i64.wrap ((IntKind.i64.wrap (((mget mp1 (i1:Int)).getD 0)-e4))+e5))),(10,v10),(20,.slice A0 l0.length c0),(21,vI (l0.length:Int)),(22,vI (i1:Int))] w26 ?_ a hF
       refine ws fun K33 hK33=>wr [(0,0),(1,0),(2,0)]<|gb0 [0] [(107,v10)] ?_
       obtain ⟨Z2,cz2,rfl⟩:=hS112.open 3 rfl
       refine gb0 [1,2] [(109,vI 0),(108,vI (m4.length:Int))]<|gn hK33<|we_block ?_
       have hS117:=((((hS112.b 4).b 4).b 4).b 4).b 4
       rcases hq7:iter (punctualref_stackFault.r4 i1 mp1 e4 e5 m4) K (0,mp1) with _ | (mp5 | rr1)
       ·rw [hq7] at h; cases h
       ·rw [hq7] at h
        simp only [] at h
        refine we_iter (A:=punctualref_stackFault.A4 w0 l0 A0 c0 b1 b2 b3 b4 i1 mp1 e4 e5 m4 Z2 cz2) (B:=punctualref_stackFault.B4 w0 l0 A0 c0 b1 b2 b3 b4 i1) hq7 (fun a hF=>⟨hS117,hF.weaken ea⟩) (fun s o hf a w hA Q hQ=>punctualref_stackFault_r4 K w0 l0 A0 c0 hR0 hL0 b1 b2 b3 b4 i1 mp1 hc1 e1 hx5 b5 hc2 hc6 e4 hx9 e5 hx10 m2 Z1 cz1 m4 Z2 cz2 s o hf a w hA Q hQ) ?_
        rintro _ a w31 _ ⟨rfl,hS141,hF⟩
        replace hS141:St w0 w31 [bk b4 #[vI 0,vI 1,vI 1,vI 0,vI 1,vI 1,vI 1,vI 1,vI 1,vI 1,vI 0,vI 0,vI 0,vI 0,vI 0,vI 0,vI 0,vI 0,vI 0] 3,bk b3 #[vI 0,vI 0,vI 0,vI 1,vI 2,vI 2,vI 2,vI 2,vI 2,vI 0,vI 1,vI 0,vI 1,vI 0,vI 0,vI 0,vI 0,vI 0,vI 0] 3,bk b1 #[vI 0,vI 0] 25,Own.map (κ:=Int) (ν:=Int) b2 mp5]:=hS141
        refine hK9 [(0,.slice A0 l0.length c0),(2,pP b1 0),(3,.map (some b2)),(4,.slice (some ⟨b3,0,none⟩) 19 19),(5,.slice (some ⟨b4,0,none⟩) 19 19),(20,.slice A0 l0.length c0),(21,vI (l0.length:Int)),(22,vI (i1:Int))] w31 ?_ a hF
        refine wr [(0,0),(1,0)]<|ge_addn (d:=131) (ty:=3) (x:=(.tmp 22)) (y:=(.const (vI 1))) (t:=3) (t2:=3) (k:=.i64) (m:=i1) (by kernel_rfl) (by kernel_rfl) (by kernel_rfl) (by have h0:=hR0.small; omega) ?_
        refine gb0 [1] [(22,vI ((i1+1:Nat):Int))] ?_
        have hS145:=(((hS141.b 3).b 3).b 3).b 3
        obtain rfl:=si h
        exact ge_nil fun a hF=>hQ _ _ _ (Outs.again ⟨hS145,hF.weaken ea⟩)
       rw [hq7] at h
       simp only [] at h
       refine we_iter (A:=punctualref_stackFault.A4 w0 l0 A0 c0 b1 b2 b3 b4 i1 mp1 e4 e5 m4 Z2 cz2) (B:=punctualref_stackFault.B4 w0 l0 A0 c0 b1 b2 b3 b4 i1) hq7 (fun a hF=>⟨hS117,hF.weaken ea⟩) (fun s o hf a w hA Q hQ=>punctualref_stackFault_r4 K w0 l0 A0 c0 hR0 hL0 b1 b2 b3 b4 i1 mp1 hc1 e1 hx5 b5 hc2 hc6 e4 hx9 e5 hx10 m2 Z1 cz1 m4 Z2 cz2 s o hf a w hA Q hQ) ?_
       rintro _ a w1 _ ⟨rfl,hb⟩
       obtain rfl:=si h
       exact hQ _ _ _ (Outs.out nofun (Exits.on ⟨rfl,hb⟩))
      rw [hq5] at h
      simp only [] at h
      refine kp (punctualref_stackFault_p3 K w0 l0 A0 c0 hR0 hL0 b1 b2 b3 b4 i1 mp1 hc1 e1 hx5 b5 hc2 hc6 e4 hx9 e5 hx10 m2 Z1 cz1 _ hq5 _ hS96 _ ?_)
      rintro _ a w1 ⟨_,rfl,hb⟩
      obtain rfl:=si h
      exact hQ _ _ _ (Outs.out nofun (Exits.on ⟨rfl,hb⟩))
     rw [hq4] at h
     simp only [] at h
     refine kp (punctualref_stackFault_p2 K w0 l0 A0 c0 hR0 hL0 b1 b2 b3 b4 i1 mp1 hc1 e1 hx5 b5 hc2 hc6 e4 hx9 e5 hx10 _ hq4 _ hS33 _ ?_)
     rintro _ a w1 ⟨_,rfl,hb⟩
     obtain rfl:=si h
     exact hQ _ _ _ (Outs.out nofun (Exits.on ⟨rfl,hb⟩))
    rw [if_neg hc6] at h
    cases h
   rw [hq3] at h
   simp only [] at h
   refine kp (punctualref_stackFault_p1 K w0 l0 A0 c0 hR0 hL0 b1 b2 b3 b4 i1 mp1 hc1 e1 hx5 b5 hc2 _ hq3 _ hS13 _ ?_)
   rintro _ a w1 ⟨_,rfl,hb⟩
   obtain rfl:=si h
   exact hQ _ _ _ (Outs.out nofun (Exits.on ⟨rfl,hb⟩))
  rw [if_neg hc2] at h
  refine wk 34 (!((mget mp1 (i1:Int)).isSome)) true (congrArg (fun z=>!z) (Bool.eq_false_iff.2 hc2))<|wt<|ws fun K42 hK42=>wr [(0,0),(1,1),(2,2)]<|gb0 [0] [(35,vI (i1:Int))]<|ge_call (d:=some 36) (f:=9) (args:=#[vI 7,vI (i1:Int)]) (by kernel_rfl) (punctualref_F_ok 7 (i1:Int) _ _ rfl) ?_
  rintro _ w32 ⟨rfl,hS146⟩
  refine ⟨_,rfl,hS146.below,?_⟩
  have hS148:=(hS13.call hS146).b 3
  refine gs b1 0 #[vI 0,vI 0] 25 [vI ((punctualref_F.f 7 (i1:Int)).Code),vI ((punctualref_F.f 7 (i1:Int)).At)] hS148 fun w33 hS149=>?_
  have hS150:=hS149.nc #[vI ((punctualref_F.f 7 (i1:Int)).Code),vI ((punctualref_F.f 7 (i1:Int)).At)] rfl
  refine gn hK42 ?_
  have hS151:=hS150.takeN 0
  obtain rfl:=si h
  exact we_ret fun a hF=>hQ _ _ _ (Outs.out nofun (Exits.on ⟨rfl,(pr [.cell 2 25] [.agg #[vI ((punctualref_F.f 7 (i1:Int)).Code),vI ((punctualref_F.f 7 (i1:Int)).At)]] [ld b1 0 (vI ((punctualref_F.f 7 (i1:Int)).Code)),ld b1 1 (vI ((punctualref_F.f 7 (i1:Int)).At))] ⟨hS150.c 0,hS150.c 0,trivial⟩ ⟨rfl,hS151⟩) a hF⟩))
 rw [if_neg hc1] at h
 refine wk 23 (decide ((i1:Int)<(l0.length:Int))) false (decide_eq_false hc1)<|wf ?_
 have hS154:=hS.p [2,3] rfl
 obtain rfl:=si h
 exact we_exit fun a hF=>hQ _ _ _ (Outs.out nofun (Exits.here ⟨hS154,hF.weaken ea⟩))
theorem punctualref_stackFault_ok (K:Nat) (l0:List SIns) (A0:OA) (c0:Nat) (w0:World) (hR0:RdL w0 A0 l0) (hL0:l0.length≤c0) (r:SFault) (h:punctualref_stackFault.f K l0=some r) :
  Calls Tryd.prog 34 #[.slice A0 l0.length c0] w0 (punctualref_stackFault.Post w0 r):=by
 have hS:=St.start w0
 unfold punctualref_stackFault.f at h
 refine calls_enter (n:=141) (args:=[.slice A0 l0.length c0]) (fn:=Tryd.f34) rfl rfl rfl rfl ?_
 show WE _ _ _ _ [(0,.slice A0 l0.length c0)] _
 refine ws fun K1 hK1=>wr [(0,1)]<|gw (some 2) (.cells #[vI 0,vI 0] 25) (fun b=>pP b 0) hS fun b1 w1 hx1 hS1=>?_
 refine gn hK1<|ws fun K2 hK2=>wr [(0,1),(1,2),(2,0),(3,0)]<|gw (some 16) (.map #[] 0) (fun b=>.map (some b)) hS1 fun b2 w2 hx2 hS2=>?_
 have hS3:=hS2.newMap (κ:=Int) (ν:=Int)
 refine ge_mapSet (κ:=Int) (ν:=Int) (b:=b2) (ins:=true) (mm:=0) (t:=62) (kt:=3) (et:=3) (x:=(.tmp 16)) (y:=(.const (vI 0))) (u:=(.const (vI 0))) (ty:=0) (m:=([]:List (Int×Int))) (k:=0) (v:=0) (vv:=vI 0) (by kernel_rfl) (by kernel_rfl) (by kernel_rfl) (by kernel_rfl) rfl (by kernel_rfl) (by kernel_rfl) hS3 fun w3 hS4=>?_
 refine gb0 [2,3] [(3,.map (some b2)),(17,.map (some b2))]<|gn hK2<|ws fun K3 hK3=>wr [(0,1),(1,0)]<|gw (some 18) (.cells #[vI 0,vI 0,vI 0,vI 1,vI 2,vI 2,vI 2,vI 2,vI 2,vI 0,vI 1,vI 0,vI 1,vI 0,vI 0,vI 0,vI 0,vI 0,vI 0] 3) (fun b=>.slice (some ⟨b,0,none⟩) 19 19) hS4 fun b3 w4 hx3 hS5=>?_
 refine gb0 [1] [(4,.slice (some ⟨b3,0,none⟩) 19 19)]<|gn hK3<|ws fun K4 hK4=>wr [(0,1),(1,0)]<|gw (some 19) (.cells #[vI 0,vI 1,vI 1,vI 0,vI 1,vI 1,vI 1,vI 1,vI 1,vI 1,vI 0,vI 0,vI 0,vI 0,vI 0,vI 0,vI 0,vI 0,vI 0] 3) (fun b=>.slice (some ⟨b,0,none⟩) 19 19) hS5 fun b4 w5 hx4 hS6=>?_
 refine gb0 [1] [(5,.slice (some ⟨b4,0,none⟩) 19 19)]<|gn hK4<|ws fun K5 hK5=>ws fun K6 hK6=>wr [(0,0),(1,0),(2,0)]<|gb0 [0,1,2] [(22,vI 0),(21,vI (l0.length:Int)),(20,.slice A0 l0.length c0)]<|gn hK6<|we_block ?_
 have hS10:=(((hS6.b 2).b 3).b 3).b 3
 rcases hq9:iter (punctualref_stackFault.r0 K l0) K (0,(mset ([]:List (Int×Int)) 0 0)) with _ | (mp6 | rr5)
 ·rw [hq9] at h; cases h
 ·rw [hq9] at h
  simp only [] at h
  refine we_iter (A:=punctualref_stackFault.A0 w0 l0 A0 c0 b1 b2 b3 b4) (B:=punctualref_stackFault.B0 w0 l0 A0 c0 b1 b2) hq9 (fun a hF=>⟨hS10,hF.weaken ea⟩) (fun s o hf a w hA Q hQ=>punctualref_stackFault_r0 K w0 l0 A0 c0 hR0 hL0 b1 b2 b3 b4 s o hf a w hA Q hQ) ?_
  rintro _ a w34 _ ⟨rfl,hS155,hF⟩
  replace hS155:St w0 w34 [bk b1 #[vI 0,vI 0] 25,Own.map (κ:=Int) (ν:=Int) b2 mp6]:=hS155
  refine hK5 [(0,.slice A0 l0.length c0),(2,pP b1 0),(3,.map (some b2))] w34 ?_ a hF
  refine ws fun K43 hK43=>ws fun K44 hK44=>wr [(0,0),(1,0),(2,0),(3,0),(4,0)]<|gb0 [0,1,2] [(134,vI (l0.length:Int)),(133,.slice A0 l0.length c0),(132,.map (some b2))]<|ge_lookup (κ:=Int) (ν:=Int) (d:=135) (b:=b2) (q:=1) (t:=62) (kt:=3) (et:=3) (x:=(.tmp 132)) (y:=(.tmp 134)) (ty:=3) (m:=mp6) (k:=(l0.length:Int)) (z:=0) (v:=((mget mp6 (l0.length:Int)).getD 0)) (zv:=vI 0) (vv:=vI ((mget mp6 (l0.length:Int)).getD 0)) (by kernel_rfl) (by kernel_rfl) (by kernel_rfl) (by kernel_rfl) (by kernel_rfl) (fun w'=>by kernel_rfl) rfl hS155 rfl rfl rfl ?_
  refine gb0 [4] [(136,.bool (((mget mp6 (l0.length:Int)).getD 0) != 0))]<|gn hK44 ?_
  by_cases hc22:((mget mp6 (l0.length:Int)).getD 0)=0
  ·rw [if_pos hc22] at h
   refine wk 136 (((mget mp6 (l0.length:Int)).getD 0) != 0) false (bne_eq_false_iff_eq.2 hc22)<|wf<|we_skip fun a hF=>hK43 _ _ ?_ a hF
   refine ws fun K45 hK45=>wr [(0,0),(1,2)]<|gb0 [0] [(140,.agg #[vI 0,vI 0])]<|gs b1 0 #[vI 0,vI 0] 25 [vI 0,vI 0] hS155 fun w35 hS156=>?_
   have hS157:=hS156.nc #[vI 0,vI 0] rfl
   refine gn hK45 ?_
   have hS158:=hS157.takeN 0
   obtain rfl:=si h
   exact we_ret (pr [.cell 2 25] [.agg #[vI 0,vI 0]] [ld b1 0 (vI 0),ld b1 1 (vI 0)] ⟨hS157.c 0,hS157.c 0,trivial⟩ ⟨rfl,hS158⟩)
  rw [if_neg hc22] at h
  refine wk 136 (((mget mp6 (l0.length:Int)).getD 0) != 0) true (bne_iff_ne.2 hc22)<|wt<|ws fun K46 hK46=>wr [(0,0),(1,0),(2,1),(3,2)]<|gb0 [0,1] [(138,vI (l0.length:Int)),(137,.slice A0 l0.length c0)]<|ge_call (d:=some 139) (f:=9) (args:=#[vI 8,vI (l0.length:Int)]) (by kernel_rfl) (punctualref_F_ok 8 (l0.length:Int) _ _ rfl) ?_
  rintro _ w36 ⟨rfl,hS159⟩
  refine ⟨_,rfl,hS159.below,?_⟩
  have hS160:=hS155.call hS159
  refine gs b1 0 #[vI 0,vI 0] 25 [vI ((punctualref_F.f 8 (l0.length:Int)).Code),vI ((punctualref_F.f 8 (l0.length:Int)).At)] hS160 fun w37 hS161=>?_
  have hS162:=hS161.nc #[vI ((punctualref_F.f 8 (l0.length:Int)).Code),vI ((punctualref_F.f 8 (l0.length:Int)).At)] rfl
  refine gn hK46 ?_
  have hS163:=hS162.takeN 0
  obtain rfl:=si h
  exact we_ret (pr [.cell 2 25] [.agg #[vI ((punctualref_F.f 8 (l0.length:Int)).Code),vI ((punctualref_F.f 8 (l0.length:Int)).At)]] [ld b1 0 (vI ((punctualref_F.f 8 (l0.length:Int)).Code)),ld b1 1 (vI ((punctualref_F.f 8 (l0.length:Int)).At))] ⟨hS162.c 0,hS162.c 0,trivial⟩ ⟨rfl,hS163⟩)
 rw [hq9] at h
 simp only [] at h
 refine we_iter (A:=punctualref_stackFault.A0 w0 l0 A0 c0 b1 b2 b3 b4) (B:=punctualref_stackFault.B0 w0 l0 A0 c0 b1 b2) hq9 (fun a hF=>⟨hS10,hF.weaken ea⟩) (fun s o hf a w hA Q hQ=>punctualref_stackFault_r0 K w0 l0 A0 c0 hR0 hL0 b1 b2 b3 b4 s o hf a w hA Q hQ) ?_
 rintro _ a w1 _ ⟨rfl,hb⟩
 obtain rfl:=si h
 exact hb

structure PImage where
 m_Regions:List Sregion
end Go.Proofs.YtnckikjcjgmdlaaDoor.GV
