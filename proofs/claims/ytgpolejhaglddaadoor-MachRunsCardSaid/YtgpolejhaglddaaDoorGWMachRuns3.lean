/- Walks of single functions, written by a program of this work. -/
import Derived.Test.YtgpolejhaglddaaDoorGWMachRuns2
namespace Go.Proofs.YtgpolejhaglddaaDoor.GV
open Go Go.RowKit
set_option linter.unusedVariables false
set_option linter.unusedSimpArgs false
set_option maxRecDepth 100000

/-! (*punctual/mach.Machine).do -/
abbrev mach_Machine_do.Post (w0:World) (bp0:Nat) (lp0_0:List SIns) (Ap0_0:Option Addr) (cp0_0:Nat) (lp0_1:List Int) (Ap0_1:Option Addr) (cp0_1:Nat) (lp0_2:List Int) (Ap0_2:Option Addr) (cp0_2:Nat) (lp0_3:List SPut) (Ap0_3:Option Addr) (cp0_3:Nat) (lp0_4:List Int) (Ap0_4:Option Addr) (cp0_4:Nat) (sp0_5:List Int) (sp0_13:Int) (sp0_14:Int) (x1:SIns) (LT:List Own) (r:Int×(List Int)×(List SPut)×(List Int)×(List Int)) (e:Ending) (w:World):Prop:=∃ (nbp0_2:Value) (nbp0_3:Value) (nbp0_4:Value),e=.returned (vI r.1)∧St w0 w [Own.blk bp0 (.cells #[(.slice Ap0_0 lp0_0.length cp0_0),(.slice Ap0_1 lp0_1.length cp0_1),nbp0_2,nbp0_3,nbp0_4,vI ((r.2.2.2.2[0]?).getD 0),vI ((r.2.2.2.2[1]?).getD 0),vI ((r.2.2.2.2[2]?).getD 0),vI ((r.2.2.2.2[3]?).getD 0),vI ((r.2.2.2.2[4]?).getD 0),vI ((r.2.2.2.2[5]?).getD 0),vI ((r.2.2.2.2[6]?).getD 0),vI ((r.2.2.2.2[7]?).getD 0),vI sp0_13,vI sp0_14] 61 (0,0)),Own.of (.slice Ap0_0 lp0_0.length cp0_0) 35 lp0_0,Own.of (.slice Ap0_1 lp0_1.length cp0_1) 3 lp0_1,Own.of nbp0_2 3 r.2.1,Own.of nbp0_3 43 r.2.2.1,Own.of nbp0_4 3 r.2.2.2.1,Own.all LT]
def mach_Machine_do.f (lp0_0 : List SIns) (lp0_1 : List Int) (lp0_2 : List Int) (lp0_3 : List SPut) (lp0_4 : List Int) (sp0_5 : List Int) (sp0_13 : Int) (sp0_14 : Int) (x1 : SIns) : Option (Int × (List Int) × (List SPut) × (List Int) × (List Int)) :=
 if x1.Op=1 then
  if lp0_4.length<17592186044416 then
   some (IntKind.i64.wrap (sp0_13+1),lp0_2,lp0_3,(lp0_4++[x1.A]),sp0_5)
  else
   none
 else
  if x1.Op=2 then
   if 0≤x1.A then
    match lp0_2[(x1.A).toNat]? with
    | none=>none
    | some e1 =>
     if lp0_4.length<17592186044416 then
      some (IntKind.i64.wrap (sp0_13+1),lp0_2,lp0_3,(lp0_4++[e1]),sp0_5)
     else
      none
   else
    none
  else
   if x1.Op=3 then
    match mach_Machine_pop.f lp0_0 lp0_1 lp0_2 lp0_3 lp0_4 sp0_5 sp0_13 sp0_14 with
    | none=>none
    | some r1 =>
     if 0≤x1.A then
      match lp0_2[(x1.A).toNat]? with
      | none=>none
      | some e2 =>
       some (IntKind.i64.wrap (sp0_13+1),(lp0_2.set ((x1.A).toNat) r1.1),lp0_3,r1.2,sp0_5)
     else
      none
   else
    if x1.Op=4 then
     match mach_Machine_two.f lp0_0 lp0_1 lp0_2 lp0_3 lp0_4 sp0_5 sp0_13 sp0_14 with
     | none=>none
     | some r2 =>
      some (IntKind.i64.wrap (sp0_13+1),lp0_2,lp0_3,r2,sp0_5)
    else
     if x1.Op=5 then
      match mach_Machine_two_1.f lp0_0 lp0_1 lp0_2 lp0_3 lp0_4 sp0_5 sp0_13 sp0_14 with
      | none=>none
      | some r3 =>
       some (IntKind.i64.wrap (sp0_13+1),lp0_2,lp0_3,r3,sp0_5)
     else
      if x1.Op=6 then
       match mach_Machine_two_2.f lp0_0 lp0_1 lp0_2 lp0_3 lp0_4 sp0_5 sp0_13 sp0_14 with
       | none=>none
       | some r4 =>
        some (IntKind.i64.wrap (sp0_13+1),lp0_2,lp0_3,r4,sp0_5)
      else
       if x1.Op=7 then
        match mach_Machine_two_3.f lp0_0 lp0_1 lp0_2 lp0_3 lp0_4 sp0_5 sp0_13 sp0_14 with
        | none=>none
        | some r5 =>
         some (IntKind.i64.wrap (sp0_13+1),lp0_2,lp0_3,r5,sp0_5)
       else
        if x1.Op=8 then
         match mach_Machine_two_4.f lp0_0 lp0_1 lp0_2 lp0_3 lp0_4 sp0_5 sp0_13 sp0_14 with
         | none=>none
         | some r6 =>
          some (IntKind.i64.wrap (sp0_13+1),lp0_2,lp0_3,r6,sp0_5)
        else
         if x1.Op=9 then
          if 0≤x1.A then
           match lp0_1[(x1.A).toNat]? with
           | none=>none
           | some e3 =>
            if lp0_4.length<17592186044416 then
             some (IntKind.i64.wrap (sp0_13+1),lp0_2,lp0_3,(lp0_4++[e3]),sp0_5)
            else
             none
          else
           none
         else
          if x1.Op=10 then
           match mach_Machine_pop.f lp0_0 lp0_1 lp0_2 lp0_3 lp0_4 sp0_5 sp0_13 sp0_14 with
           | none=>none
           | some r7 =>
            if lp0_3.length<8796093022208 then
             some (IntKind.i64.wrap (sp0_13+1),lp0_2,(lp0_3++[(⟨x1.A,r7.1⟩:SPut)]),r7.2,sp0_5)
            else
             none
          else
           if x1.Op=11 then
            some (x1.A,lp0_2,lp0_3,lp0_4,sp0_5)
           else
            if x1.Op=12 then
             match mach_Machine_pop.f lp0_0 lp0_1 lp0_2 lp0_3 lp0_4 sp0_5 sp0_13 sp0_14 with
             | none=>none
             | some r8 =>
              if r8.1=0 then
               some (x1.A,lp0_2,lp0_3,r8.2,sp0_5)
              else
               some (IntKind.i64.wrap (sp0_13+1),lp0_2,lp0_3,r8.2,sp0_5)
            else
             if x1.Op=13 then
              if 0≤x1.A then
               match (arrN 8 sp0_5)[(x1.A).toNat]? with
               | none=>none
               | some e4 =>
                some (IntKind.i64.wrap (sp0_13+1),lp0_2,lp0_3,lp0_4,((arrN 8 sp0_5).set ((x1.A).toNat) x1.B))
              else
               none
             else
              if x1.Op=14 then
               if 0≤x1.A then
                match (arrN 8 sp0_5)[(x1.A).toNat]? with
                | none=>none
                | some e5 =>
                 if e5 > 0 then
                  some (x1.B,lp0_2,lp0_3,lp0_4,((arrN 8 sp0_5).set ((x1.A).toNat) (IntKind.i64.wrap (e5-1))))
                 else
                  some (IntKind.i64.wrap (sp0_13+1),lp0_2,lp0_3,lp0_4,sp0_5)
               else
                none
              else
               if x1.Op=15 then
                if 0≤x1.A then
                 match (arrN 8 sp0_5)[(x1.A).toNat]? with
                 | none=>none
                 | some e6 =>
                  some (IntKind.i64.wrap (sp0_13+1),lp0_2,lp0_3,lp0_4,((arrN 8 sp0_5).set ((x1.A).toNat) 0))
                else
                 none
               else
                some (IntKind.i64.wrap (sp0_13+1),lp0_2,lp0_3,lp0_4,sp0_5)
theorem mach_Machine_do_ok (bp0:Nat) (lp0_0:List SIns) (Ap0_0:Option Addr) (cp0_0:Nat) (lp0_1:List Int) (Ap0_1:Option Addr) (cp0_1:Nat) (lp0_2:List Int) (Ap0_2:Option Addr) (cp0_2:Nat) (lp0_3:List SPut) (Ap0_3:Option Addr) (cp0_3:Nat) (lp0_4:List Int) (Ap0_4:Option Addr) (cp0_4:Nat) (sp0_5:List Int) (sp0_13:Int) (sp0_14:Int) (x1:SIns) (w0 wE:World) (LT:List Own) (hS:St w0 wE [Own.blk bp0 (.cells #[(.slice Ap0_0 lp0_0.length cp0_0),(.slice Ap0_1 lp0_1.length cp0_1),(.slice Ap0_2 lp0_2.length cp0_2),(.slice Ap0_3 lp0_3.length cp0_3),(.slice Ap0_4 lp0_4.length cp0_4),vI ((sp0_5[0]?).getD 0),vI ((sp0_5[1]?).getD 0),vI ((sp0_5[2]?).getD 0),vI ((sp0_5[3]?).getD 0),vI ((sp0_5[4]?).getD 0),vI ((sp0_5[5]?).getD 0),vI ((sp0_5[6]?).getD 0),vI ((sp0_5[7]?).getD 0),vI sp0_13,vI sp0_14] 61 (0,0)),Own.of (.slice Ap0_0 lp0_0.length cp0_0) 35 lp0_0,Own.of (.slice Ap0_1 lp0_1.length cp0_1) 3 lp0_1,Own.of (.slice Ap0_2 lp0_2.length cp0_2) 3 lp0_2,Own.of (.slice Ap0_3 lp0_3.length cp0_3) 43 lp0_3,Own.of (.slice Ap0_4 lp0_4.length cp0_4) 3 lp0_4,Own.all LT]) (r:Int×(List Int)×(List SPut)×(List Int)×(List Int)) (h:mach_Machine_do.f lp0_0 lp0_1 lp0_2 lp0_3 lp0_4 sp0_5 sp0_13 sp0_14 x1=some r) :
  Calls Tryd.prog 35 #[pP bp0 0,.agg #[vI x1.Op,vI x1.A,vI x1.B]] wE (mach_Machine_do.Post w0 bp0 lp0_0 Ap0_0 cp0_0 lp0_1 Ap0_1 cp0_1 lp0_2 Ap0_2 cp0_2 lp0_3 Ap0_3 cp0_3 lp0_4 Ap0_4 cp0_4 sp0_5 sp0_13 sp0_14 x1 LT r):=by
 unfold mach_Machine_do.f at h
 refine calls_enter (n:=162) (args:=[pP bp0 0,.agg #[vI x1.Op,vI x1.A,vI x1.B]]) (fn:=Tryd.f35) rfl rfl rfl rfl ?_
 show WE _ _ _ _ [(0,pP bp0 0),(1,.agg #[vI x1.Op,vI x1.A,vI x1.B])] _
 refine ws fun K1 hK1=>wr [(0,1),(1,0)]<|gw (some 3) (.cells #[vI x1.Op,vI x1.A,vI x1.B] 35) (fun b=>pP b 0) hS fun b1 w1 hx1 hS1=>?_
 refine gb0 [1] [(4,vI 0)] ?_
 refine gn hK1<|ws fun K2 hK2=>ws fun K3 hK3=>wr [(0,0),(1,0)]<|gb [0,1] [(6,vI x1.Op),(5,pP b1 0)] [.loaded ⟨b1,0,none⟩ (vI x1.Op)] ⟨hS1.c 0,trivial⟩ ?_
 refine gn hK3<|we_block<|ws fun K4 hK4=>wr [(0,0),(1,0)]<|gb0 [0,1] [(7,.bool (x1.Op==1)),(8,.bool (x1.Op==1))] ?_
 refine gn hK4 ?_
 by_cases hc1:x1.Op=1
 ·rw [if_pos hc1] at h
  refine wk 7 (x1.Op==1) true (beq_iff_eq.2 hc1) ?_
  refine we_true (by kernel_rfl) ?_
  refine we_orders3 (by kernel_rfl) [(4,[⟨bp0,4,none⟩],[],[]),(6,[⟨b1,1,none⟩],[7,8],[])] (.vals [0] (.vals [1] (.vals [2] (.vals [3] (.vals [4] (.vals [5] (.vals [6] (.alt 7 1 (.alt 8 2 (.vals [9] (.vals [10] (.alt 11 2 .fin .nomore))) .nomore) .nomore)))))))) (by kernel_rfl) (by kernel_rfl) ?_
  have hS2:=hS1.drew
  refine g30 [0,1,2,3] [(12,pP bp0 4),(11,pP bp0 0),(10,pP bp0 0),(9,pP bp0 0)] ?_
  refine g3 4 [(13,(.slice Ap0_4 lp0_4.length cp0_4))] [.loaded ⟨bp0,4,none⟩ ((.slice Ap0_4 lp0_4.length cp0_4))] ⟨hS2.c 1,trivial⟩ ?_
  refine g30 [5] [(14,pP b1 1)] ?_
  refine g3 6 [(15,vI x1.A)] [.loaded ⟨b1,1,none⟩ (vI x1.A)] ⟨hS2.c 0,trivial⟩ ?_
  refine go_alt3 (fun KK hKK=>?_) ?_
  ·refine ge_one2<|gw (some 16) (.cells #[vI x1.A] 3) (fun b=>.slice (some ⟨b,0,none⟩) 1 1) hS2 fun b2 w2 hx2 hS3=>?_
   refine ge_nil fun a hF=>hKK _ _ (RS.of2 (l:=[.loaded ⟨bp0,4,none⟩ ((.slice Ap0_4 lp0_4.length cp0_4))]) (by kernel_rfl) ⟨hS2.c 1,trivial⟩ ⟨hS3.c 2,trivial⟩) ?_ a hF
   refine go_alt3 (fun KK hKK=>?_) ?_
   ·have hS4:=hS3.b 7
    by_cases hc2:lp0_4.length<17592186044416
    ·rw [if_pos hc2] at h
     refine ge_append (α:=Int) (m:=0) (d:=17) (t:=23) (el:=3) (bytes:=8) (c1:=1) (b1:=b2) (x:=(.tmp 13)) (y:=(.tmp 16)) (ty:=23) (v:=(.slice Ap0_4 lp0_4.length cp0_4)) (z:=vI 0) (l:=lp0_4) (u:=x1.A) (by kernel_rfl) (by kernel_rfl) (by kernel_rfl) (by kernel_rfl) (by kernel_rfl) rfl hS4 rfl (by omega) fun v1 w3 hS5=>?_
     refine g2 hKK<|g30 [9,10] [(19,pP bp0 4),(18,pP bp0 0)] ?_
     refine go_alt3 (fun KK hKK=>?_) ?_
     ·obtain ⟨Z1,cz1,rfl⟩:=hS5.open 0 rfl
      have hS6:=hS5.b 2
      refine gs bp0 4 #[(.slice Ap0_0 lp0_0.length cp0_0),(.slice Ap0_1 lp0_1.length cp0_1),(.slice Ap0_2 lp0_2.length cp0_2),(.slice Ap0_3 lp0_3.length cp0_3),(.slice Ap0_4 lp0_4.length cp0_4),vI ((sp0_5[0]?).getD 0),vI ((sp0_5[1]?).getD 0),vI ((sp0_5[2]?).getD 0),vI ((sp0_5[3]?).getD 0),vI ((sp0_5[4]?).getD 0),vI ((sp0_5[5]?).getD 0),vI ((sp0_5[6]?).getD 0),vI ((sp0_5[7]?).getD 0),vI sp0_13,vI sp0_14] 61 [(.slice Z1 (lp0_4++[x1.A]).length cz1)] hS6 fun w4 hS7=>?_
      have hS8:=hS7.nc #[(.slice Ap0_0 lp0_0.length cp0_0),(.slice Ap0_1 lp0_1.length cp0_1),(.slice Ap0_2 lp0_2.length cp0_2),(.slice Ap0_3 lp0_3.length cp0_3),(.slice Z1 (lp0_4++[x1.A]).length cz1),vI ((sp0_5[0]?).getD 0),vI ((sp0_5[1]?).getD 0),vI ((sp0_5[2]?).getD 0),vI ((sp0_5[3]?).getD 0),vI ((sp0_5[4]?).getD 0),vI ((sp0_5[5]?).getD 0),vI ((sp0_5[6]?).getD 0),vI ((sp0_5[7]?).getD 0),vI sp0_13,vI sp0_14] rfl
      refine g2 hKK<|go_fin3 fun a hF=>hK2 _ _ ?_ a hF
      refine ws fun K5 hK5=>wr [(0,0),(1,0),(2,0),(3,0),(4,0),(5,0)]<|gb [0,1,2,3,4,5] [(4,vI (IntKind.i64.wrap (sp0_13+1))),(161,vI (IntKind.i64.wrap (sp0_13+1))),(160,vI sp0_13),(159,pP bp0 13),(158,pP bp0 0),(157,pP bp0 0)] [.loaded ⟨bp0,13,none⟩ (vI sp0_13)] ⟨hS8.c 0,trivial⟩ ?_
      refine gn hK5 ?_
      have hS16:=(((((((hS8.b 7).b 2).b 7).b 7).b 7).b 7).b 6).takeN 7
      obtain rfl:=si h
      exact we_ret (pr0 [.tmp 4] [vI (IntKind.i64.wrap (sp0_13+1))] ⟨(.slice Ap0_2 lp0_2.length cp0_2),(.slice Ap0_3 lp0_3.length cp0_3),(.slice Z1 (lp0_4++[x1.A]).length cz1),rfl,hS16⟩)
     exact go_nomore3
    rw [if_neg hc2] at h
    cases h
   exact go_nomore3
  exact go_nomore3
 rw [if_neg hc1] at h
 refine wk 7 (x1.Op==1) false (beq_eq_false_iff_ne.2 hc1) ?_
 refine we_false (by kernel_rfl) ?_
 refine ws fun K6 hK6=>wr [(0,0),(1,0)]<|gb0 [0,1] [(20,.bool (x1.Op==2)),(21,.bool (x1.Op==2))] ?_
 refine gn hK6 ?_
 by_cases hc3:x1.Op=2
 ·rw [if_pos hc3] at h
  refine wk 20 (x1.Op==2) true (beq_iff_eq.2 hc3) ?_
  refine we_true (by kernel_rfl) ?_
  refine we_orders3 (by kernel_rfl) [(4,[⟨bp0,4,none⟩],[],[]),(8,[⟨bp0,2,none⟩],[11,12,13,14],[]),(10,[⟨b1,1,none⟩],[11,12,13,14],[]),(12,[⟨blkOf Ap0_2,offOf Ap0_2+((x1.A).toNat)*1,none⟩],[13,14],[])] (.vals [0] (.vals [1] (.vals [2] (.vals [3] (.vals [4] (.vals [5] (.vals [6] (.vals [7] (.vals [8] (.vals [9] (.vals [10] (.vals [11] (.vals [12] (.alt 13 1 (.alt 14 2 (.vals [15] (.vals [16] (.alt 17 2 .fin .nomore))) .nomore) .nomore)))))))))))))) (by kernel_rfl) (by kernel_rfl) ?_
  have hS17:=hS1.drew
  refine g30 [0,1,2,3] [(25,pP bp0 4),(24,pP bp0 0),(23,pP bp0 0),(22,pP bp0 0)] ?_
  refine g3 4 [(26,(.slice Ap0_4 lp0_4.length cp0_4))] [.loaded ⟨bp0,4,none⟩ ((.slice Ap0_4 lp0_4.length cp0_4))] ⟨hS17.c 1,trivial⟩ ?_
  refine g30 [5,6,7] [(29,pP bp0 2),(28,pP bp0 0),(27,pP bp0 0)] ?_
  refine g3 8 [(30,(.slice Ap0_2 lp0_2.length cp0_2))] [.loaded ⟨bp0,2,none⟩ ((.slice Ap0_2 lp0_2.length cp0_2))] ⟨hS17.c 1,trivial⟩ ?_
  refine g30 [9] [(31,pP b1 1)] ?_
  refine g3 10 [(32,vI x1.A)] [.loaded ⟨b1,1,none⟩ (vI x1.A)] ⟨hS17.c 0,trivial⟩ ?_
  by_cases hc4:0≤x1.A
  ·rw [if_pos hc4] at h
   rcases hx3:lp0_2[(x1.A).toNat]? with _ | e1
   ·rw [hx3] at h; cases h
   rw [hx3] at h
   simp only [] at h
   refine go3_index (d:=33) (ty:=0) (t:=23) (el:=3) (sz:=1) (m:=lp0_2.length) (c:=cp0_2) (x:=(.tmp 30)) (y:=(.tmp 32)) (A:=Ap0_2) (k':=.i64) (j:=x1.A) (jn:=((x1.A).toNat)) (b0:=blkOf Ap0_2) (o0:=offOf Ap0_2) (by kernel_rfl) (by kernel_rfl) (by kernel_rfl) (by kernel_rfl) (by kernel_rfl) ((hS17.rdAt 4 rfl).eqSome (pos_of_get hx3)) (Int.toNat_of_nonneg hc4).symm (lt_of_get hx3) ?_
   refine g3 12 [(34,vI e1)] [.loaded ⟨blkOf Ap0_2,offOf Ap0_2+((x1.A).toNat)*1,none⟩ (vI e1)] ⟨RdL.cell (j:=0) (hS17.rdAt 4 rfl) hx3 rfl,trivial⟩ ?_
   refine go_alt3 (fun KK hKK=>?_) ?_
   ·refine ge_one2<|gw (some 35) (.cells #[vI e1] 3) (fun b=>.slice (some ⟨b,0,none⟩) 1 1) hS17 fun b3 w5 hx4 hS18=>?_
    refine ge_nil fun a hF=>hKK _ _ (RS.of2 (l:=[.loaded ⟨bp0,4,none⟩ ((.slice Ap0_4 lp0_4.length cp0_4))]) (by kernel_rfl) ⟨hS17.c 1,trivial⟩ ⟨hS18.c 2,trivial⟩) ?_ a hF
    refine go_alt3 (fun KK hKK=>?_) ?_
    ·have hS19:=hS18.b 7
     by_cases hc5:lp0_4.length<17592186044416
     ·rw [if_pos hc5] at h
      refine ge_append (α:=Int) (m:=0) (d:=36) (t:=23) (el:=3) (bytes:=8) (c1:=1) (b1:=b3) (x:=(.tmp 26)) (y:=(.tmp 35)) (ty:=23) (v:=(.slice Ap0_4 lp0_4.length cp0_4)) (z:=vI 0) (l:=lp0_4) (u:=e1) (by kernel_rfl) (by kernel_rfl) (by kernel_rfl) (by kernel_rfl) (by kernel_rfl) rfl hS19 rfl (by omega) fun v2 w6 hS20=>?_
      refine g2 hKK<|g30 [15,16] [(38,pP bp0 4),(37,pP bp0 0)] ?_
      refine go_alt3 (fun KK hKK=>?_) ?_
      ·obtain ⟨Z2,cz2,rfl⟩:=hS20.open 0 rfl
       have hS21:=hS20.b 2
       refine gs bp0 4 #[(.slice Ap0_0 lp0_0.length cp0_0),(.slice Ap0_1 lp0_1.length cp0_1),(.slice Ap0_2 lp0_2.length cp0_2),(.slice Ap0_3 lp0_3.length cp0_3),(.slice Ap0_4 lp0_4.length cp0_4),vI ((sp0_5[0]?).getD 0),vI ((sp0_5[1]?).getD 0),vI ((sp0_5[2]?).getD 0),vI ((sp0_5[3]?).getD 0),vI ((sp0_5[4]?).getD 0),vI ((sp0_5[5]?).getD 0),vI ((sp0_5[6]?).getD 0),vI ((sp0_5[7]?).getD 0),vI sp0_13,vI sp0_14] 61 [(.slice Z2 (lp0_4++[e1]).length cz2)] hS21 fun w7 hS22=>?_
       have hS23:=hS22.nc #[(.slice Ap0_0 lp0_0.length cp0_0),(.slice Ap0_1 lp0_1.length cp0_1),(.slice Ap0_2 lp0_2.length cp0_2),(.slice Ap0_3 lp0_3.length cp0_3),(.slice Z2 (lp0_4++[e1]).length cz2),vI ((sp0_5[0]?).getD 0),vI ((sp0_5[1]?).getD 0),vI ((sp0_5[2]?).getD 0),vI ((sp0_5[3]?).getD 0),vI ((sp0_5[4]?).getD 0),vI ((sp0_5[5]?).getD 0),vI ((sp0_5[6]?).getD 0),vI ((sp0_5[7]?).getD 0),vI sp0_13,vI sp0_14] rfl
       refine g2 hKK<|go_fin3 fun a hF=>hK2 _ _ ?_ a hF
       refine ws fun K7 hK7=>wr [(0,0),(1,0),(2,0),(3,0),(4,0),(5,0)]<|gb [0,1,2,3,4,5] [(4,vI (IntKind.i64.wrap (sp0_13+1))),(161,vI (IntKind.i64.wrap (sp0_13+1))),(160,vI sp0_13),(159,pP bp0 13),(158,pP bp0 0),(157,pP bp0 0)] [.loaded ⟨bp0,13,none⟩ (vI sp0_13)] ⟨hS23.c 0,trivial⟩ ?_
       refine gn hK7 ?_
       have hS31:=(((((((hS23.b 7).b 2).b 7).b 7).b 7).b 7).b 6).takeN 7
       obtain rfl:=si h
       exact we_ret (pr0 [.tmp 4] [vI (IntKind.i64.wrap (sp0_13+1))] ⟨(.slice Ap0_2 lp0_2.length cp0_2),(.slice Ap0_3 lp0_3.length cp0_3),(.slice Z2 (lp0_4++[e1]).length cz2),rfl,hS31⟩)
      exact go_nomore3
     rw [if_neg hc5] at h
     cases h
    exact go_nomore3
   exact go_nomore3
  rw [if_neg hc4] at h
  cases h
 rw [if_neg hc3] at h
 refine wk 20 (x1.Op==2) false (beq_eq_false_iff_ne.2 hc3) ?_
 refine we_false (by kernel_rfl) ?_
 refine ws fun K8 hK8=>wr [(0,0),(1,0)]<|gb0 [0,1] [(39,.bool (x1.Op==3)),(40,.bool (x1.Op==3))] ?_
 refine gn hK8 ?_
 by_cases hc6:x1.Op=3
 ·rw [if_pos hc6] at h
  refine wk 39 (x1.Op==3) true (beq_iff_eq.2 hc6) ?_
  refine we_true (by kernel_rfl) ?_
  refine we_orders3 (by kernel_rfl) [(3,[⟨bp0,2,none⟩],[],[]),(5,[⟨b1,1,none⟩],[],[])] (.vals [0] (.vals [1] (.vals [2] (.vals [3] (.vals [4] (.vals [5] (.vals [6] (.alt 7 2 (.vals [8] (.alt 9 2 .fin .nomore)) .nomore)))))))) (by kernel_rfl) (by kernel_rfl) ?_
  have hS32:=hS1.drew
  refine g30 [0,1,2] [(43,pP bp0 2),(42,pP bp0 0),(41,pP bp0 0)] ?_
  refine g3 3 [(44,(.slice Ap0_2 lp0_2.length cp0_2))] [.loaded ⟨bp0,2,none⟩ ((.slice Ap0_2 lp0_2.length cp0_2))] ⟨hS32.c 1,trivial⟩ ?_
  refine g30 [4] [(45,pP b1 1)] ?_
  refine g3 5 [(46,vI x1.A)] [.loaded ⟨b1,1,none⟩ (vI x1.A)] ⟨hS32.c 0,trivial⟩ ?_
  refine g30 [6] [(47,pP bp0 0)] ?_
  refine go_alt3 (fun KK hKK=>?_) ?_
  ·rcases hq1:mach_Machine_pop.f lp0_0 lp0_1 lp0_2 lp0_3 lp0_4 sp0_5 sp0_13 sp0_14 with _ | r1
   ·rw [hq1] at h; cases h
   rw [hq1] at h
   simp only [] at h
   have hS40:=((((((hS32.b 6).b 6).b 6).b 6).b 6).b 6).packN 6
   refine ge_call2 (m:=0) (d:=some 48) (f:=37) (args:=#[pP bp0 0]) (by kernel_rfl) (mach_Machine_pop_ok bp0 lp0_0 Ap0_0 cp0_0 lp0_1 Ap0_1 cp0_1 lp0_2 Ap0_2 cp0_2 lp0_3 Ap0_3 cp0_3 lp0_4 Ap0_4 cp0_4 sp0_5 sp0_13 sp0_14 _ _ _ hS40 _ hq1) ?_
   rintro _ w8 ⟨v3,rfl,hS39⟩
   refine ⟨_,rfl,?_⟩
   have hS41:=hS39.unpack [Own.blk bp0 (.cells #[(.slice Ap0_0 lp0_0.length cp0_0),(.slice Ap0_1 lp0_1.length cp0_1),(.slice Ap0_2 lp0_2.length cp0_2),(.slice Ap0_3 lp0_3.length cp0_3),v3,vI ((sp0_5[0]?).getD 0),vI ((sp0_5[1]?).getD 0),vI ((sp0_5[2]?).getD 0),vI ((sp0_5[3]?).getD 0),vI ((sp0_5[4]?).getD 0),vI ((sp0_5[5]?).getD 0),vI ((sp0_5[6]?).getD 0),vI ((sp0_5[7]?).getD 0),vI sp0_13,vI sp0_14] 61 (0,0)),Own.of (.slice Ap0_0 lp0_0.length cp0_0) 35 lp0_0,Own.of (.slice Ap0_1 lp0_1.length cp0_1) 3 lp0_1,Own.of (.slice Ap0_2 lp0_2.length cp0_2) 3 lp0_2,Own.of (.slice Ap0_3 lp0_3.length cp0_3) 43 lp0_3,Own.of v3 3 r1.2]
   refine ge_nil fun a hF=>hKK _ _ (RS.of2 (l:=[.loaded ⟨bp0,2,none⟩ ((.slice Ap0_2 lp0_2.length cp0_2)),.loaded ⟨b1,1,none⟩ (vI x1.A)]) (by kernel_rfl) ⟨hS32.c 1,hS32.c 0,trivial⟩ ⟨hS41.c 0,hS41.c 6,trivial⟩) ?_ a hF
   by_cases hc7:0≤x1.A
   ·rw [if_pos hc7] at h
    rcases hx5:lp0_2[(x1.A).toNat]? with _ | e2
    ·rw [hx5] at h; cases h
    rw [hx5] at h
    simp only [] at h
    refine go3_index (d:=49) (ty:=0) (t:=23) (el:=3) (sz:=1) (m:=lp0_2.length) (c:=cp0_2) (x:=(.tmp 44)) (y:=(.tmp 46)) (A:=Ap0_2) (k':=.i64) (j:=x1.A) (jn:=((x1.A).toNat)) (b0:=blkOf Ap0_2) (o0:=offOf Ap0_2) (by kernel_rfl) (by kernel_rfl) (by kernel_rfl) (by kernel_rfl) (by kernel_rfl) ((hS41.rdAt 3 rfl).eqSome (pos_of_get hx5)) (Int.toNat_of_nonneg hc7).symm (lt_of_get hx5) ?_
    refine go_alt3 (fun KK hKK=>?_) ?_
    ·have hS42:=hS41.b 3
     refine ge_seti (α:=Int) (A:=Ap0_2) (nn:=lp0_2.length) (c:=cp0_2) (t:=3) (l:=lp0_2) (x:=e2) (x':=r1.1) (jn:=((x1.A).toNat)) (j:=0) (vs:=[vI r1.1]) (l':=[.stored ⟨blkOf Ap0_2,offOf Ap0_2+((x1.A).toNat)*1,none⟩ (vI r1.1)]) hS42 (by kernel_rfl) (by kernel_rfl) hx5 rfl rfl rfl fun w9 hS43=>?_
     have hS44:St w0 w9 [Own.of (.slice Ap0_2 lp0_2.length cp0_2) 3 (lp0_2.set ((x1.A).toNat) r1.1),Own.blk bp0 (.cells #[(.slice Ap0_0 lp0_0.length cp0_0),(.slice Ap0_1 lp0_1.length cp0_1),(.slice Ap0_2 lp0_2.length cp0_2),(.slice Ap0_3 lp0_3.length cp0_3),v3,vI ((sp0_5[0]?).getD 0),vI ((sp0_5[1]?).getD 0),vI ((sp0_5[2]?).getD 0),vI ((sp0_5[3]?).getD 0),vI ((sp0_5[4]?).getD 0),vI ((sp0_5[5]?).getD 0),vI ((sp0_5[6]?).getD 0),vI ((sp0_5[7]?).getD 0),vI sp0_13,vI sp0_14] 61 (0,0)),Own.of (.slice Ap0_0 lp0_0.length cp0_0) 35 lp0_0,Own.of (.slice Ap0_1 lp0_1.length cp0_1) 3 lp0_1,Own.of (.slice Ap0_3 lp0_3.length cp0_3) 43 lp0_3,Own.of v3 3 r1.2,Own.blk b1 (.cells #[vI x1.Op,vI x1.A,vI x1.B] 35 (0,0)),Own.all LT]:=hS43
     have hE1:lp0_2.length=(lp0_2.set ((x1.A).toNat) r1.1).length:=hS44.lenAt 0 rfl
     have hS45:St w0 w9 [Own.of (.slice Ap0_2 (lp0_2.set ((x1.A).toNat) r1.1).length cp0_2) 3 (lp0_2.set ((x1.A).toNat) r1.1),Own.blk bp0 (.cells #[(.slice Ap0_0 lp0_0.length cp0_0),(.slice Ap0_1 lp0_1.length cp0_1),(.slice Ap0_2 (lp0_2.set ((x1.A).toNat) r1.1).length cp0_2),(.slice Ap0_3 lp0_3.length cp0_3),v3,vI ((sp0_5[0]?).getD 0),vI ((sp0_5[1]?).getD 0),vI ((sp0_5[2]?).getD 0),vI ((sp0_5[3]?).getD 0),vI ((sp0_5[4]?).getD 0),vI ((sp0_5[5]?).getD 0),vI ((sp0_5[6]?).getD 0),vI ((sp0_5[7]?).getD 0),vI sp0_13,vI sp0_14] 61 (0,0)),Own.of (.slice Ap0_0 lp0_0.length cp0_0) 35 lp0_0,Own.of (.slice Ap0_1 lp0_1.length cp0_1) 3 lp0_1,Own.of (.slice Ap0_3 lp0_3.length cp0_3) 43 lp0_3,Own.of v3 3 r1.2,Own.blk b1 (.cells #[vI x1.Op,vI x1.A,vI x1.B] 35 (0,0)),Own.all LT]:=by rw [← hE1]; exact hS44
     refine ge_same (t:=44) (v:=(.slice Ap0_2 lp0_2.length cp0_2)) (v':=(.slice Ap0_2 (lp0_2.set ((x1.A).toNat) r1.1).length cp0_2)) (by kernel_rfl) (by rw [hE1]) ?_
     refine g2 hKK<|go_fin3 fun a hF=>hK2 _ _ ?_ a hF
     refine ws fun K9 hK9=>wr [(0,0),(1,0),(2,0),(3,0),(4,0),(5,0)]<|gb [0,1,2,3,4,5] [(4,vI (IntKind.i64.wrap (sp0_13+1))),(161,vI (IntKind.i64.wrap (sp0_13+1))),(160,vI sp0_13),(159,pP bp0 13),(158,pP bp0 0),(157,pP bp0 0)] [.loaded ⟨bp0,13,none⟩ (vI sp0_13)] ⟨hS45.c 1,trivial⟩ ?_
     refine gn hK9 ?_
     have hS53:=(((((((hS45.b 7).b 6).b 6).b 3).b 6).b 6).b 6).takeN 7
     obtain rfl:=si h
     exact we_ret (pr0 [.tmp 4] [vI (IntKind.i64.wrap (sp0_13+1))] ⟨(.slice Ap0_2 (lp0_2.set ((x1.A).toNat) r1.1).length cp0_2),(.slice Ap0_3 lp0_3.length cp0_3),v3,rfl,hS53⟩)
    exact go_nomore3
   rw [if_neg hc7] at h
   cases h
  exact go_nomore3
 rw [if_neg hc6] at h
 refine wk 39 (x1.Op==3) false (beq_eq_false_iff_ne.2 hc6) ?_
 refine we_false (by kernel_rfl) ?_
 refine ws fun K10 hK10=>wr [(0,0),(1,0)]<|gb0 [0,1] [(50,.bool (x1.Op==4)),(51,.bool (x1.Op==4))] ?_
 refine gn hK10 ?_
 by_cases hc8:x1.Op=4
 ·rw [if_pos hc8] at h
  refine wk 50 (x1.Op==4) true (beq_iff_eq.2 hc8) ?_
  refine we_true (by kernel_rfl) ?_
  refine wr [(0,0),(1,2)]<|gb0 [0] [(52,pP bp0 0)] ?_
  rcases hq2:mach_Machine_two.f lp0_0 lp0_1 lp0_2 lp0_3 lp0_4 sp0_5 sp0_13 sp0_14 with _ | r2
  ·rw [hq2] at h; cases h
  rw [hq2] at h
  simp only [] at h
  have hS61:=((((((hS1.b 6).b 6).b 6).b 6).b 6).b 6).packN 6
  refine ge_call2 (m:=0) (d:=some 53) (f:=38) (args:=#[pP bp0 0,.func (.func 39) #[] #[]]) (by kernel_rfl) (mach_Machine_two_ok bp0 lp0_0 Ap0_0 cp0_0 lp0_1 Ap0_1 cp0_1 lp0_2 Ap0_2 cp0_2 lp0_3 Ap0_3 cp0_3 lp0_4 Ap0_4 cp0_4 sp0_5 sp0_13 sp0_14 _ _ _ hS61 _ hq2) ?_
  rintro _ w10 ⟨v4,rfl,hS60⟩
  refine ⟨_,rfl,?_⟩
  have hS62:=hS60.unpack [Own.blk bp0 (.cells #[(.slice Ap0_0 lp0_0.length cp0_0),(.slice Ap0_1 lp0_1.length cp0_1),(.slice Ap0_2 lp0_2.length cp0_2),(.slice Ap0_3 lp0_3.length cp0_3),v4,vI ((sp0_5[0]?).getD 0),vI ((sp0_5[1]?).getD 0),vI ((sp0_5[2]?).getD 0),vI ((sp0_5[3]?).getD 0),vI ((sp0_5[4]?).getD 0),vI ((sp0_5[5]?).getD 0),vI ((sp0_5[6]?).getD 0),vI ((sp0_5[7]?).getD 0),vI sp0_13,vI sp0_14] 61 (0,0)),Own.of (.slice Ap0_0 lp0_0.length cp0_0) 35 lp0_0,Own.of (.slice Ap0_1 lp0_1.length cp0_1) 3 lp0_1,Own.of (.slice Ap0_2 lp0_2.length cp0_2) 3 lp0_2,Own.of (.slice Ap0_3 lp0_3.length cp0_3) 43 lp0_3,Own.of v4 3 r2]
  refine gn hK2<|ws fun K11 hK11=>wr [(0,0),(1,0),(2,0),(3,0),(4,0),(5,0)]<|gb [0,1,2,3,4,5] [(4,vI (IntKind.i64.wrap (sp0_13+1))),(161,vI (IntKind.i64.wrap (sp0_13+1))),(160,vI sp0_13),(159,pP bp0 13),(158,pP bp0 0),(157,pP bp0 0)] [.loaded ⟨bp0,13,none⟩ (vI sp0_13)] ⟨hS62.c 0,trivial⟩ ?_
  refine gn hK11 ?_
  have hS70:=(((((((hS62.b 7).b 6).b 6).b 6).b 6).b 6).b 6).takeN 7
  obtain rfl:=si h
  exact we_ret (pr0 [.tmp 4] [vI (IntKind.i64.wrap (sp0_13+1))] ⟨(.slice Ap0_2 lp0_2.length cp0_2),(.slice Ap0_3 lp0_3.length cp0_3),v4,rfl,hS70⟩)
 rw [if_neg hc8] at h
 refine wk 50 (x1.Op==4) false (beq_eq_false_iff_ne.2 hc8) ?_
 refine we_false (by kernel_rfl) ?_
 refine ws fun K12 hK12=>wr [(0,0),(1,0)]<|gb0 [0,1] [(54,.bool (x1.Op==5)),(55,.bool (x1.Op==5))] ?_
 refine gn hK12 ?_
 by_cases hc9:x1.Op=5
 ·rw [if_pos hc9] at h
  refine wk 54 (x1.Op==5) true (beq_iff_eq.2 hc9) ?_
  refine we_true (by kernel_rfl) ?_
  refine wr [(0,0),(1,2)]<|gb0 [0] [(56,pP bp0 0)] ?_
  rcases hq3:mach_Machine_two_1.f lp0_0 lp0_1 lp0_2 lp0_3 lp0_4 sp0_5 sp0_13 sp0_14 with _ | r3
  ·rw [hq3] at h; cases h
  rw [hq3] at h
  simp only [] at h
  have hS78:=((((((hS1.b 6).b 6).b 6).b 6).b 6).b 6).packN 6
  refine ge_call2 (m:=0) (d:=some 57) (f:=38) (args:=#[pP bp0 0,.func (.func 40) #[] #[]]) (by kernel_rfl) (mach_Machine_two_1_ok bp0 lp0_0 Ap0_0 cp0_0 lp0_1 Ap0_1 cp0_1 lp0_2 Ap0_2 cp0_2 lp0_3 Ap0_3 cp0_3 lp0_4 Ap0_4 cp0_4 sp0_5 sp0_13 sp0_14 _ _ _ hS78 _ hq3) ?_
  rintro _ w11 ⟨v5,rfl,hS77⟩
  refine ⟨_,rfl,?_⟩
  have hS79:=hS77.unpack [Own.blk bp0 (.cells #[(.slice Ap0_0 lp0_0.length cp0_0),(.slice Ap0_1 lp0_1.length cp0_1),(.slice Ap0_2 lp0_2.length cp0_2),(.slice Ap0_3 lp0_3.length cp0_3),v5,vI ((sp0_5[0]?).getD 0),vI ((sp0_5[1]?).getD 0),vI ((sp0_5[2]?).getD 0),vI ((sp0_5[3]?).getD 0),vI ((sp0_5[4]?).getD 0),vI ((sp0_5[5]?).getD 0),vI ((sp0_5[6]?).getD 0),vI ((sp0_5[7]?).getD 0),vI sp0_13,vI sp0_14] 61 (0,0)),Own.of (.slice Ap0_0 lp0_0.length cp0_0) 35 lp0_0,Own.of (.slice Ap0_1 lp0_1.length cp0_1) 3 lp0_1,Own.of (.slice Ap0_2 lp0_2.length cp0_2) 3 lp0_2,Own.of (.slice Ap0_3 lp0_3.length cp0_3) 43 lp0_3,Own.of v5 3 r3]
  refine gn hK2<|ws fun K13 hK13=>wr [(0,0),(1,0),(2,0),(3,0),(4,0),(5,0)]<|gb [0,1,2,3,4,5] [(4,vI (IntKind.i64.wrap (sp0_13+1))),(161,vI (IntKind.i64.wrap (sp0_13+1))),(160,vI sp0_13),(159,pP bp0 13),(158,pP bp0 0),(157,pP bp0 0)] [.loaded ⟨bp0,13,none⟩ (vI sp0_13)] ⟨hS79.c 0,trivial⟩ ?_
  refine gn hK13 ?_
  have hS87:=(((((((hS79.b 7).b 6).b 6).b 6).b 6).b 6).b 6).takeN 7
  obtain rfl:=si h
  exact we_ret (pr0 [.tmp 4] [vI (IntKind.i64.wrap (sp0_13+1))] ⟨(.slice Ap0_2 lp0_2.length cp0_2),(.slice Ap0_3 lp0_3.length cp0_3),v5,rfl,hS87⟩)
 rw [if_neg hc9] at h
 refine wk 54 (x1.Op==5) false (beq_eq_false_iff_ne.2 hc9) ?_
 refine we_false (by kernel_rfl) ?_
 refine ws fun K14 hK14=>wr [(0,0),(1,0)]<|gb0 [0,1] [(58,.bool (x1.Op==6)),(59,.bool (x1.Op==6))] ?_
 refine gn hK14 ?_
 by_cases hc10:x1.Op=6
 ·rw [if_pos hc10] at h
  refine wk 58 (x1.Op==6) true (beq_iff_eq.2 hc10) ?_
  refine we_true (by kernel_rfl) ?_
  refine wr [(0,0),(1,2)]<|gb0 [0] [(60,pP bp0 0)] ?_
  rcases hq4:mach_Machine_two_2.f lp0_0 lp0_1 lp0_2 lp0_3 lp0_4 sp0_5 sp0_13 sp0_14 with _ | r4
  ·rw [hq4] at h; cases h
  rw [hq4] at h
  simp only [] at h
  have hS95:=((((((hS1.b 6).b 6).b 6).b 6).b 6).b 6).packN 6
  refine ge_call2 (m:=0) (d:=some 61) (f:=38) (args:=#[pP bp0 0,.func (.func 41) #[] #[]]) (by kernel_rfl) (mach_Machine_two_2_ok bp0 lp0_0 Ap0_0 cp0_0 lp0_1 Ap0_1 cp0_1 lp0_2 Ap0_2 cp0_2 lp0_3 Ap0_3 cp0_3 lp0_4 Ap0_4 cp0_4 sp0_5 sp0_13 sp0_14 _ _ _ hS95 _ hq4) ?_
  rintro _ w12 ⟨v6,rfl,hS94⟩
  refine ⟨_,rfl,?_⟩
  have hS96:=hS94.unpack [Own.blk bp0 (.cells #[(.slice Ap0_0 lp0_0.length cp0_0),(.slice Ap0_1 lp0_1.length cp0_1),(.slice Ap0_2 lp0_2.length cp0_2),(.slice Ap0_3 lp0_3.length cp0_3),v6,vI ((sp0_5[0]?).getD 0),vI ((sp0_5[1]?).getD 0),vI ((sp0_5[2]?).getD 0),vI ((sp0_5[3]?).getD 0),vI ((sp0_5[4]?).getD 0),vI ((sp0_5[5]?).getD 0),vI ((sp0_5[6]?).getD 0),vI ((sp0_5[7]?).getD 0),vI sp0_13,vI sp0_14] 61 (0,0)),Own.of (.slice Ap0_0 lp0_0.length cp0_0) 35 lp0_0,Own.of (.slice Ap0_1 lp0_1.length cp0_1) 3 lp0_1,Own.of (.slice Ap0_2 lp0_2.length cp0_2) 3 lp0_2,Own.of (.slice Ap0_3 lp0_3.length cp0_3) 43 lp0_3,Own.of v6 3 r4]
  refine gn hK2<|ws fun K15 hK15=>wr [(0,0),(1,0),(2,0),(3,0),(4,0),(5,0)]<|gb [0,1,2,3,4,5] [(4,vI (IntKind.i64.wrap (sp0_13+1))),(161,vI (IntKind.i64.wrap (sp0_13+1))),(160,vI sp0_13),(159,pP bp0 13),(158,pP bp0 0),(157,pP bp0 0)] [.loaded ⟨bp0,13,none⟩ (vI sp0_13)] ⟨hS96.c 0,trivial⟩ ?_
  refine gn hK15 ?_
  have hS104:=(((((((hS96.b 7).b 6).b 6).b 6).b 6).b 6).b 6).takeN 7
  obtain rfl:=si h
  exact we_ret (pr0 [.tmp 4] [vI (IntKind.i64.wrap (sp0_13+1))] ⟨(.slice Ap0_2 lp0_2.length cp0_2),(.slice Ap0_3 lp0_3.length cp0_3),v6,rfl,hS104⟩)
 rw [if_neg hc10] at h
 refine wk 58 (x1.Op==6) false (beq_eq_false_iff_ne.2 hc10) ?_
 refine we_false (by kernel_rfl) ?_
 refine ws fun K16 hK16=>wr [(0,0),(1,0)]<|gb0 [0,1] [(62,.bool (x1.Op==7)),(63,.bool (x1.Op==7))] ?_
 refine gn hK16 ?_
 by_cases hc11:x1.Op=7
 ·rw [if_pos hc11] at h
  refine wk 62 (x1.Op==7) true (beq_iff_eq.2 hc11) ?_
  refine we_true (by kernel_rfl) ?_
  refine wr [(0,0),(1,2)]<|gb0 [0] [(64,pP bp0 0)] ?_
  rcases hq5:mach_Machine_two_3.f lp0_0 lp0_1 lp0_2 lp0_3 lp0_4 sp0_5 sp0_13 sp0_14 with _ | r5
  ·rw [hq5] at h; cases h
  rw [hq5] at h
  simp only [] at h
  have hS112:=((((((hS1.b 6).b 6).b 6).b 6).b 6).b 6).packN 6
  refine ge_call2 (m:=0) (d:=some 65) (f:=38) (args:=#[pP bp0 0,.func (.func 42) #[] #[]]) (by kernel_rfl) (mach_Machine_two_3_ok bp0 lp0_0 Ap0_0 cp0_0 lp0_1 Ap0_1 cp0_1 lp0_2 Ap0_2 cp0_2 lp0_3 Ap0_3 cp0_3 lp0_4 Ap0_4 cp0_4 sp0_5 sp0_13 sp0_14 _ _ _ hS112 _ hq5) ?_
  rintro _ w13 ⟨v7,rfl,hS111⟩
  refine ⟨_,rfl,?_⟩
  have hS113:=hS111.unpack [Own.blk bp0 (.cells #[(.slice Ap0_0 lp0_0.length cp0_0),(.slice Ap0_1 lp0_1.length cp0_1),(.slice Ap0_2 lp0_2.length cp0_2),(.slice Ap0_3 lp0_3.length cp0_3),v7,vI ((sp0_5[0]?).getD 0),vI ((sp0_5[1]?).getD 0),vI ((sp0_5[2]?).getD 0),vI ((sp0_5[3]?).getD 0),vI ((sp0_5[4]?).getD 0),vI ((sp0_5[5]?).getD 0),vI ((sp0_5[6]?).getD 0),vI ((sp0_5[7]?).getD 0),vI sp0_13,vI sp0_14] 61 (0,0)),Own.of (.slice Ap0_0 lp0_0.length cp0_0) 35 lp0_0,Own.of (.slice Ap0_1 lp0_1.length cp0_1) 3 lp0_1,Own.of (.slice Ap0_2 lp0_2.length cp0_2) 3 lp0_2,Own.of (.slice Ap0_3 lp0_3.length cp0_3) 43 lp0_3,Own.of v7 3 r5]
  refine gn hK2<|ws fun K17 hK17=>wr [(0,0),(1,0),(2,0),(3,0),(4,0),(5,0)]<|gb [0,1,2,3,4,5] [(4,vI (IntKind.i64.wrap (sp0_13+1))),(161,vI (IntKind.i64.wrap (sp0_13+1))),(160,vI sp0_13),(159,pP bp0 13),(158,pP bp0 0),(157,pP bp0 0)] [.loaded ⟨bp0,13,none⟩ (vI sp0_13)] ⟨hS113.c 0,trivial⟩ ?_
  refine gn hK17 ?_
  have hS121:=(((((((hS113.b 7).b 6).b 6).b 6).b 6).b 6).b 6).takeN 7
  obtain rfl:=si h
  exact we_ret (pr0 [.tmp 4] [vI (IntKind.i64.wrap (sp0_13+1))] ⟨(.slice Ap0_2 lp0_2.length cp0_2),(.slice Ap0_3 lp0_3.length cp0_3),v7,rfl,hS121⟩)
 rw [if_neg hc11] at h
 refine wk 62 (x1.Op==7) false (beq_eq_false_iff_ne.2 hc11) ?_
 refine we_false (by kernel_rfl) ?_
 refine ws fun K18 hK18=>wr [(0,0),(1,0)]<|gb0 [0,1] [(66,.bool (x1.Op==8)),(67,.bool (x1.Op==8))] ?_
 refine gn hK18 ?_
 by_cases hc12:x1.Op=8
 ·rw [if_pos hc12] at h
  refine wk 66 (x1.Op==8) true (beq_iff_eq.2 hc12) ?_
  refine we_true (by kernel_rfl) ?_
  refine wr [(0,0),(1,2)]<|gb0 [0] [(68,pP bp0 0)] ?_
  rcases hq6:mach_Machine_two_4.f lp0_0 lp0_1 lp0_2 lp0_3 lp0_4 sp0_5 sp0_13 sp0_14 with _ | r6
  ·rw [hq6] at h; cases h
  rw [hq6] at h
  simp only [] at h
  have hS129:=((((((hS1.b 6).b 6).b 6).b 6).b 6).b 6).packN 6
  refine ge_call2 (m:=0) (d:=some 69) (f:=38) (args:=#[pP bp0 0,.func (.func 44) #[] #[]]) (by kernel_rfl) (mach_Machine_two_4_ok bp0 lp0_0 Ap0_0 cp0_0 lp0_1 Ap0_1 cp0_1 lp0_2 Ap0_2 cp0_2 lp0_3 Ap0_3 cp0_3 lp0_4 Ap0_4 cp0_4 sp0_5 sp0_13 sp0_14 _ _ _ hS129 _ hq6) ?_
  rintro _ w14 ⟨v8,rfl,hS128⟩
  refine ⟨_,rfl,?_⟩
  have hS130:=hS128.unpack [Own.blk bp0 (.cells #[(.slice Ap0_0 lp0_0.length cp0_0),(.slice Ap0_1 lp0_1.length cp0_1),(.slice Ap0_2 lp0_2.length cp0_2),(.slice Ap0_3 lp0_3.length cp0_3),v8,vI ((sp0_5[0]?).getD 0),vI ((sp0_5[1]?).getD 0),vI ((sp0_5[2]?).getD 0),vI ((sp0_5[3]?).getD 0),vI ((sp0_5[4]?).getD 0),vI ((sp0_5[5]?).getD 0),vI ((sp0_5[6]?).getD 0),vI ((sp0_5[7]?).getD 0),vI sp0_13,vI sp0_14] 61 (0,0)),Own.of (.slice Ap0_0 lp0_0.length cp0_0) 35 lp0_0,Own.of (.slice Ap0_1 lp0_1.length cp0_1) 3 lp0_1,Own.of (.slice Ap0_2 lp0_2.length cp0_2) 3 lp0_2,Own.of (.slice Ap0_3 lp0_3.length cp0_3) 43 lp0_3,Own.of v8 3 r6]
  refine gn hK2<|ws fun K19 hK19=>wr [(0,0),(1,0),(2,0),(3,0),(4,0),(5,0)]<|gb [0,1,2,3,4,5] [(4,vI (IntKind.i64.wrap (sp0_13+1))),(161,vI (IntKind.i64.wrap (sp0_13+1))),(160,vI sp0_13),(159,pP bp0 13),(158,pP bp0 0),(157,pP bp0 0)] [.loaded ⟨bp0,13,none⟩ (vI sp0_13)] ⟨hS130.c 0,trivial⟩ ?_
  refine gn hK19 ?_
  have hS138:=(((((((hS130.b 7).b 6).b 6).b 6).b 6).b 6).b 6).takeN 7
  obtain rfl:=si h
  exact we_ret (pr0 [.tmp 4] [vI (IntKind.i64.wrap (sp0_13+1))] ⟨(.slice Ap0_2 lp0_2.length cp0_2),(.slice Ap0_3 lp0_3.length cp0_3),v8,rfl,hS138⟩)
 rw [if_neg hc12] at h
 refine wk 66 (x1.Op==8) false (beq_eq_false_iff_ne.2 hc12) ?_
 refine we_false (by kernel_rfl) ?_
 refine ws fun K20 hK20=>wr [(0,0),(1,0)]<|gb0 [0,1] [(70,.bool (x1.Op==9)),(71,.bool (x1.Op==9))] ?_
 refine gn hK20 ?_
 by_cases hc13:x1.Op=9
 ·rw [if_pos hc13] at h
  refine wk 70 (x1.Op==9) true (beq_iff_eq.2 hc13) ?_
  refine we_true (by kernel_rfl) ?_
  refine we_orders3 (by kernel_rfl) [(4,[⟨bp0,4,none⟩],[],[]),(8,[⟨bp0,1,none⟩],[11,12,13,14],[]),(10,[⟨b1,1,none⟩],[11,12,13,14],[]),(12,[⟨blkOf Ap0_1,offOf Ap0_1+((x1.A).toNat)*1,none⟩],[13,14],[])] (.vals [0] (.vals [1] (.vals [2] (.vals [3] (.vals [4] (.vals [5] (.vals [6] (.vals [7] (.vals [8] (.vals [9] (.vals [10] (.vals [11] (.vals [12] (.alt 13 1 (.alt 14 2 (.vals [15] (.vals [16] (.alt 17 2 .fin .nomore))) .nomore) .nomore)))))))))))))) (by kernel_rfl) (by kernel_rfl) ?_
  have hS139:=hS1.drew
  refine g30 [0,1,2,3] [(75,pP bp0 4),(74,pP bp0 0),(73,pP bp0 0),(72,pP bp0 0)] ?_
  refine g3 4 [(76,(.slice Ap0_4 lp0_4.length cp0_4))] [.loaded ⟨bp0,4,none⟩ ((.slice Ap0_4 lp0_4.length cp0_4))] ⟨hS139.c 1,trivial⟩ ?_
  refine g30 [5,6,7] [(79,pP bp0 1),(78,pP bp0 0),(77,pP bp0 0)] ?_
  refine g3 8 [(80,(.slice Ap0_1 lp0_1.length cp0_1))] [.loaded ⟨bp0,1,none⟩ ((.slice Ap0_1 lp0_1.length cp0_1))] ⟨hS139.c 1,trivial⟩ ?_
  refine g30 [9] [(81,pP b1 1)] ?_
  refine g3 10 [(82,vI x1.A)] [.loaded ⟨b1,1,none⟩ (vI x1.A)] ⟨hS139.c 0,trivial⟩ ?_
  by_cases hc14:0≤x1.A
  ·rw [if_pos hc14] at h
   rcases hx6:lp0_1[(x1.A).toNat]? with _ | e3
   ·rw [hx6] at h; cases h
   rw [hx6] at h
   simp only [] at h
   refine go3_index (d:=83) (ty:=0) (t:=23) (el:=3) (sz:=1) (m:=lp0_1.length) (c:=cp0_1) (x:=(.tmp 80)) (y:=(.tmp 82)) (A:=Ap0_1) (k':=.i64) (j:=x1.A) (jn:=((x1.A).toNat)) (b0:=blkOf Ap0_1) (o0:=offOf Ap0_1) (by kernel_rfl) (by kernel_rfl) (by kernel_rfl) (by kernel_rfl) (by kernel_rfl) ((hS139.rdAt 3 rfl).eqSome (pos_of_get hx6)) (Int.toNat_of_nonneg hc14).symm (lt_of_get hx6) ?_
   refine g3 12 [(84,vI e3)] [.loaded ⟨blkOf Ap0_1,offOf Ap0_1+((x1.A).toNat)*1,none⟩ (vI e3)] ⟨RdL.cell (j:=0) (hS139.rdAt 3 rfl) hx6 rfl,trivial⟩ ?_
   refine go_alt3 (fun KK hKK=>?_) ?_
   ·refine ge_one2<|gw (some 85) (.cells #[vI e3] 3) (fun b=>.slice (some ⟨b,0,none⟩) 1 1) hS139 fun b4 w15 hx7 hS140=>?_
    refine ge_nil fun a hF=>hKK _ _ (RS.of2 (l:=[.loaded ⟨bp0,4,none⟩ ((.slice Ap0_4 lp0_4.length cp0_4))]) (by kernel_rfl) ⟨hS139.c 1,trivial⟩ ⟨hS140.c 2,trivial⟩) ?_ a hF
    refine go_alt3 (fun KK hKK=>?_) ?_
    ·have hS141:=hS140.b 7
     by_cases hc15:lp0_4.length<17592186044416
     ·rw [if_pos hc15] at h
      refine ge_append (α:=Int) (m:=0) (d:=86) (t:=23) (el:=3) (bytes:=8) (c1:=1) (b1:=b4) (x:=(.tmp 76)) (y:=(.tmp 85)) (ty:=23) (v:=(.slice Ap0_4 lp0_4.length cp0_4)) (z:=vI 0) (l:=lp0_4) (u:=e3) (by kernel_rfl) (by kernel_rfl) (by kernel_rfl) (by kernel_rfl) (by kernel_rfl) rfl hS141 rfl (by omega) fun v9 w16 hS142=>?_
      refine g2 hKK<|g30 [15,16] [(88,pP bp0 4),(87,pP bp0 0)] ?_
      refine go_alt3 (fun KK hKK=>?_) ?_
      ·obtain ⟨Z3,cz3,rfl⟩:=hS142.open 0 rfl
       have hS143:=hS142.b 2
       refine gs bp0 4 #[(.slice Ap0_0 lp0_0.length cp0_0),(.slice Ap0_1 lp0_1.length cp0_1),(.slice Ap0_2 lp0_2.length cp0_2),(.slice Ap0_3 lp0_3.length cp0_3),(.slice Ap0_4 lp0_4.length cp0_4),vI ((sp0_5[0]?).getD 0),vI ((sp0_5[1]?).getD 0),vI ((sp0_5[2]?).getD 0),vI ((sp0_5[3]?).getD 0),vI ((sp0_5[4]?).getD 0),vI ((sp0_5[5]?).getD 0),vI ((sp0_5[6]?).getD 0),vI ((sp0_5[7]?).getD 0),vI sp0_13,vI sp0_14] 61 [(.slice Z3 (lp0_4++[e3]).length cz3)] hS143 fun w17 hS144=>?_
       have hS145:=hS144.nc #[(.slice Ap0_0 lp0_0.length cp0_0),(.slice Ap0_1 lp0_1.length cp0_1),(.slice Ap0_2 lp0_2.length cp0_2),(.slice Ap0_3 lp0_3.length cp0_3),(.slice Z3 (lp0_4++[e3]).length cz3),vI ((sp0_5[0]?).getD 0),vI ((sp0_5[1]?).getD 0),vI ((sp0_5[2]?).getD 0),vI ((sp0_5[3]?).getD 0),vI ((sp0_5[4]?).getD 0),vI ((sp0_5[5]?).getD 0),vI ((sp0_5[6]?).getD 0),vI ((sp0_5[7]?).getD 0),vI sp0_13,vI sp0_14] rfl
       refine g2 hKK<|go_fin3 fun a hF=>hK2 _ _ ?_ a hF
       refine ws fun K21 hK21=>wr [(0,0),(1,0),(2,0),(3,0),(4,0),(5,0)]<|gb [0,1,2,3,4,5] [(4,vI (IntKind.i64.wrap (sp0_13+1))),(161,vI (IntKind.i64.wrap (sp0_13+1))),(160,vI sp0_13),(159,pP bp0 13),(158,pP bp0 0),(157,pP bp0 0)] [.loaded ⟨bp0,13,none⟩ (vI sp0_13)] ⟨hS145.c 0,trivial⟩ ?_
       refine gn hK21 ?_
       have hS153:=(((((((hS145.b 7).b 2).b 7).b 7).b 7).b 7).b 6).takeN 7
       obtain rfl:=si h
       exact we_ret (pr0 [.tmp 4] [vI (IntKind.i64.wrap (sp0_13+1))] ⟨(.slice Ap0_2 lp0_2.length cp0_2),(.slice Ap0_3 lp0_3.length cp0_3),(.slice Z3 (lp0_4++[e3]).length cz3),rfl,hS153⟩)
      exact go_nomore3
     rw [if_neg hc15] at h
     cases h
    exact go_nomore3
   exact go_nomore3
  rw [if_neg hc14] at h
  cases h
 rw [if_neg hc13] at h
 refine wk 70 (x1.Op==9) false (beq_eq_false_iff_ne.2 hc13) ?_
 refine we_false (by kernel_rfl) ?_
 refine ws fun K22 hK22=>wr [(0,0),(1,0)]<|gb0 [0,1] [(89,.bool (x1.Op==10)),(90,.bool (x1.Op==10))] ?_
 refine gn hK22 ?_
 by_cases hc16:x1.Op=10
 ·rw [if_pos hc16] at h
  refine wk 89 (x1.Op==10) true (beq_iff_eq.2 hc16) ?_
  refine we_true (by kernel_rfl) ?_
  refine we_orders3 (by kernel_rfl) [(4,[⟨bp0,3,none⟩],[],[]),(6,[⟨b1,1,none⟩],[9,10,11],[])] (.vals [0] (.vals [1] (.vals [2] (.vals [3] (.vals [4] (.vals [5] (.vals [6] (.vals [7] (.alt 8 2 (.vals [9] (.alt 10 1 (.alt 11 2 (.vals [12] (.vals [13] (.alt 14 2 .fin .nomore))) .nomore) .nomore)) .nomore))))))))) (by kernel_rfl) (by kernel_rfl) ?_
  have hS154:=hS1.drew
  refine g30 [0,1,2,3] [(94,pP bp0 3),(93,pP bp0 0),(92,pP bp0 0),(91,pP bp0 0)] ?_
  refine g3 4 [(95,(.slice Ap0_3 lp0_3.length cp0_3))] [.loaded ⟨bp0,3,none⟩ ((.slice Ap0_3 lp0_3.length cp0_3))] ⟨hS154.c 1,trivial⟩ ?_
  refine g30 [5] [(96,pP b1 1)] ?_
  refine g3 6 [(97,vI x1.A)] [.loaded ⟨b1,1,none⟩ (vI x1.A)] ⟨hS154.c 0,trivial⟩ ?_
  refine g30 [7] [(98,pP bp0 0)] ?_
  refine go_alt3 (fun KK hKK=>?_) ?_
  ·rcases hq7:mach_Machine_pop.f lp0_0 lp0_1 lp0_2 lp0_3 lp0_4 sp0_5 sp0_13 sp0_14 with _ | r7
   ·rw [hq7] at h; cases h
   rw [hq7] at h
   simp only [] at h
   have hS162:=((((((hS154.b 6).b 6).b 6).b 6).b 6).b 6).packN 6
   refine ge_call2 (m:=0) (d:=some 99) (f:=37) (args:=#[pP bp0 0]) (by kernel_rfl) (mach_Machine_pop_ok bp0 lp0_0 Ap0_0 cp0_0 lp0_1 Ap0_1 cp0_1 lp0_2 Ap0_2 cp0_2 lp0_3 Ap0_3 cp0_3 lp0_4 Ap0_4 cp0_4 sp0_5 sp0_13 sp0_14 _ _ _ hS162 _ hq7) ?_
   rintro _ w18 ⟨v10,rfl,hS161⟩
   refine ⟨_,rfl,?_⟩
   have hS163:=hS161.unpack [Own.blk bp0 (.cells #[(.slice Ap0_0 lp0_0.length cp0_0),(.slice Ap0_1 lp0_1.length cp0_1),(.slice Ap0_2 lp0_2.length cp0_2),(.slice Ap0_3 lp0_3.length cp0_3),v10,vI ((sp0_5[0]?).getD 0),vI ((sp0_5[1]?).getD 0),vI ((sp0_5[2]?).getD 0),vI ((sp0_5[3]?).getD 0),vI ((sp0_5[4]?).getD 0),vI ((sp0_5[5]?).getD 0),vI ((sp0_5[6]?).getD 0),vI ((sp0_5[7]?).getD 0),vI sp0_13,vI sp0_14] 61 (0,0)),Own.of (.slice Ap0_0 lp0_0.length cp0_0) 35 lp0_0,Own.of (.slice Ap0_1 lp0_1.length cp0_1) 3 lp0_1,Own.of (.slice Ap0_2 lp0_2.length cp0_2) 3 lp0_2,Own.of (.slice Ap0_3 lp0_3.length cp0_3) 43 lp0_3,Own.of v10 3 r7.2]
   refine ge_nil fun a hF=>hKK _ _ (RS.of2 (l:=[.loaded ⟨bp0,3,none⟩ ((.slice Ap0_3 lp0_3.length cp0_3)),.loaded ⟨b1,1,none⟩ (vI x1.A)]) (by kernel_rfl) ⟨hS154.c 1,hS154.c 0,trivial⟩ ⟨hS163.c 0,hS163.c 6,trivial⟩) ?_ a hF
   refine g30 [9] [(100,.agg #[vI x1.A,vI r7.1])] ?_
   refine go_alt3 (fun KK hKK=>?_) ?_
   ·refine ge_one2<|gw (some 101) (.cells #[vI x1.A,vI r7.1] 43) (fun b=>.slice (some ⟨b,0,none⟩) 1 1) hS163 fun b5 w19 hx8 hS164=>?_
    refine ge_nil fun a hF=>hKK _ _ (RS.of2 (l:=[.loaded ⟨bp0,3,none⟩ ((.slice Ap0_3 lp0_3.length cp0_3))]) (by kernel_rfl) ⟨hS163.c 0,trivial⟩ ⟨hS164.c 1,trivial⟩) ?_ a hF
    refine go_alt3 (fun KK hKK=>?_) ?_
    ·have hS165:=hS164.b 5
     by_cases hc17:lp0_3.length<8796093022208
     ·rw [if_pos hc17] at h
      refine ge_append (α:=SPut) (m:=0) (d:=102) (t:=25) (el:=43) (bytes:=16) (c1:=1) (b1:=b5) (x:=(.tmp 95)) (y:=(.tmp 101)) (ty:=25) (v:=(.slice Ap0_3 lp0_3.length cp0_3)) (z:=.agg #[vI 0,vI 0]) (l:=lp0_3) (u:=(⟨x1.A,r7.1⟩:SPut)) (by kernel_rfl) (by kernel_rfl) (by kernel_rfl) (by kernel_rfl) (by kernel_rfl) rfl hS165 rfl (by omega) fun v11 w20 hS166=>?_
      refine g2 hKK<|g30 [12,13] [(104,pP bp0 3),(103,pP bp0 0)] ?_
      refine go_alt3 (fun KK hKK=>?_) ?_
      ·obtain ⟨Z4,cz4,rfl⟩:=hS166.open 0 rfl
       have hS167:=hS166.b 1
       refine gs bp0 3 #[(.slice Ap0_0 lp0_0.length cp0_0),(.slice Ap0_1 lp0_1.length cp0_1),(.slice Ap0_2 lp0_2.length cp0_2),(.slice Ap0_3 lp0_3.length cp0_3),v10,vI ((sp0_5[0]?).getD 0),vI ((sp0_5[1]?).getD 0),vI ((sp0_5[2]?).getD 0),vI ((sp0_5[3]?).getD 0),vI ((sp0_5[4]?).getD 0),vI ((sp0_5[5]?).getD 0),vI ((sp0_5[6]?).getD 0),vI ((sp0_5[7]?).getD 0),vI sp0_13,vI sp0_14] 61 [(.slice Z4 (lp0_3++[(⟨x1.A,r7.1⟩:SPut)]).length cz4)] hS167 fun w21 hS168=>?_
       have hS169:=hS168.nc #[(.slice Ap0_0 lp0_0.length cp0_0),(.slice Ap0_1 lp0_1.length cp0_1),(.slice Ap0_2 lp0_2.length cp0_2),(.slice Z4 (lp0_3++[(⟨x1.A,r7.1⟩:SPut)]).length cz4),v10,vI ((sp0_5[0]?).getD 0),vI ((sp0_5[1]?).getD 0),vI ((sp0_5[2]?).getD 0),vI ((sp0_5[3]?).getD 0),vI ((sp0_5[4]?).getD 0),vI ((sp0_5[5]?).getD 0),vI ((sp0_5[6]?).getD 0),vI ((sp0_5[7]?).getD 0),vI sp0_13,vI sp0_14] rfl
       refine g2 hKK<|go_fin3 fun a hF=>hK2 _ _ ?_ a hF
       refine ws fun K23 hK23=>wr [(0,0),(1,0),(2,0),(3,0),(4,0),(5,0)]<|gb [0,1,2,3,4,5] [(4,vI (IntKind.i64.wrap (sp0_13+1))),(161,vI (IntKind.i64.wrap (sp0_13+1))),(160,vI sp0_13),(159,pP bp0 13),(158,pP bp0 0),(157,pP bp0 0)] [.loaded ⟨bp0,13,none⟩ (vI sp0_13)] ⟨hS169.c 0,trivial⟩ ?_
       refine gn hK23 ?_
       have hS177:=(((((((hS169.b 7).b 6).b 3).b 6).b 6).b 6).b 6).takeN 7
       obtain rfl:=si h
       exact we_ret (pr0 [.tmp 4] [vI (IntKind.i64.wrap (sp0_13+1))] ⟨(.slice Ap0_2 lp0_2.length cp0_2),(.slice Z4 (lp0_3++[(⟨x1.A,r7.1⟩:SPut)]).length cz4),v10,rfl,hS177⟩)
      exact go_nomore3
     rw [if_neg hc17] at h
     cases h
    exact go_nomore3
   exact go_nomore3
  exact go_nomore3
 rw [if_neg hc16] at h
 refine wk 89 (x1.Op==10) false (beq_eq_false_iff_ne.2 hc16) ?_
 refine we_false (by kernel_rfl) ?_
 refine ws fun K24 hK24=>wr [(0,0),(1,0)]<|gb0 [0,1] [(105,.bool (x1.Op==11)),(106,.bool (x1.Op==11))] ?_
 refine gn hK24 ?_
 by_cases hc18:x1.Op=11
 ·rw [if_pos hc18] at h
  refine wk 105 (x1.Op==11) true (beq_iff_eq.2 hc18) ?_
  refine we_true (by kernel_rfl) ?_
  refine ws fun K25 hK25=>wr [(0,0),(1,0),(2,0)]<|gb [0,1,2] [(4,vI x1.A),(108,vI x1.A),(107,pP b1 1)] [.loaded ⟨b1,1,none⟩ (vI x1.A)] ⟨hS1.c 0,trivial⟩ ?_
  refine gn hK25 ?_
  have hS185:=(((((((hS1.b 7).b 7).b 7).b 7).b 7).b 7).b 7).takeN 7
  obtain rfl:=si h
  exact we_ret (pr0 [.tmp 4] [vI x1.A] ⟨(.slice Ap0_2 lp0_2.length cp0_2),(.slice Ap0_3 lp0_3.length cp0_3),(.slice Ap0_4 lp0_4.length cp0_4),rfl,hS185⟩)
 rw [if_neg hc18] at h
 refine wk 105 (x1.Op==11) false (beq_eq_false_iff_ne.2 hc18) ?_
 refine we_false (by kernel_rfl) ?_
 refine ws fun K26 hK26=>wr [(0,0),(1,0)]<|gb0 [0,1] [(109,.bool (x1.Op==12)),(110,.bool (x1.Op==12))] ?_
 refine gn hK26 ?_
 by_cases hc19:x1.Op=12
 ·rw [if_pos hc19] at h
  refine wk 109 (x1.Op==12) true (beq_iff_eq.2 hc19) ?_
  refine we_true (by kernel_rfl) ?_
  refine ws fun K27 hK27=>wr [(0,0),(1,2),(2,0)]<|gb0 [0] [(111,pP bp0 0)] ?_
  rcases hq8:mach_Machine_pop.f lp0_0 lp0_1 lp0_2 lp0_3 lp0_4 sp0_5 sp0_13 sp0_14 with _ | r8
  ·rw [hq8] at h; cases h
  rw [hq8] at h
  simp only [] at h
  have hS193:=((((((hS1.b 6).b 6).b 6).b 6).b 6).b 6).packN 6
  refine ge_call2 (m:=0) (d:=some 112) (f:=37) (args:=#[pP bp0 0]) (by kernel_rfl) (mach_Machine_pop_ok bp0 lp0_0 Ap0_0 cp0_0 lp0_1 Ap0_1 cp0_1 lp0_2 Ap0_2 cp0_2 lp0_3 Ap0_3 cp0_3 lp0_4 Ap0_4 cp0_4 sp0_5 sp0_13 sp0_14 _ _ _ hS193 _ hq8) ?_
  rintro _ w22 ⟨v12,rfl,hS192⟩
  refine ⟨_,rfl,?_⟩
  have hS194:=hS192.unpack [Own.blk bp0 (.cells #[(.slice Ap0_0 lp0_0.length cp0_0),(.slice Ap0_1 lp0_1.length cp0_1),(.slice Ap0_2 lp0_2.length cp0_2),(.slice Ap0_3 lp0_3.length cp0_3),v12,vI ((sp0_5[0]?).getD 0),vI ((sp0_5[1]?).getD 0),vI ((sp0_5[2]?).getD 0),vI ((sp0_5[3]?).getD 0),vI ((sp0_5[4]?).getD 0),vI ((sp0_5[5]?).getD 0),vI ((sp0_5[6]?).getD 0),vI ((sp0_5[7]?).getD 0),vI sp0_13,vI sp0_14] 61 (0,0)),Own.of (.slice Ap0_0 lp0_0.length cp0_0) 35 lp0_0,Own.of (.slice Ap0_1 lp0_1.length cp0_1) 3 lp0_1,Own.of (.slice Ap0_2 lp0_2.length cp0_2) 3 lp0_2,Own.of (.slice Ap0_3 lp0_3.length cp0_3) 43 lp0_3,Own.of v12 3 r8.2]
  refine gb0 [2] [(113,.bool (r8.1==0))] ?_
  refine gn hK27 ?_
  by_cases hc20:r8.1=0
  ·rw [if_pos hc20] at h
   refine wk 113 (r8.1==0) true (beq_iff_eq.2 hc20) ?_
   refine we_true (by kernel_rfl) ?_
   refine ws fun K28 hK28=>wr [(0,0),(1,0),(2,0)]<|gb [0,1,2] [(4,vI x1.A),(115,vI x1.A),(114,pP b1 1)] [.loaded ⟨b1,1,none⟩ (vI x1.A)] ⟨hS194.c 6,trivial⟩ ?_
   refine gn hK28 ?_
   have hS202:=(((((((hS194.b 7).b 6).b 6).b 6).b 6).b 6).b 6).takeN 7
   obtain rfl:=si h
   exact we_ret (pr0 [.tmp 4] [vI x1.A] ⟨(.slice Ap0_2 lp0_2.length cp0_2),(.slice Ap0_3 lp0_3.length cp0_3),v12,rfl,hS202⟩)
  rw [if_neg hc20] at h
  refine wk 113 (r8.1==0) false (beq_eq_false_iff_ne.2 hc20) ?_
  refine we_false (by kernel_rfl) ?_
  refine we_skip fun a hF=>hK2 _ _ ?_ a hF
  refine ws fun K29 hK29=>wr [(0,0),(1,0),(2,0),(3,0),(4,0),(5,0)]<|gb [0,1,2,3,4,5] [(4,vI (IntKind.i64.wrap (sp0_13+1))),(161,vI (IntKind.i64.wrap (sp0_13+1))),(160,vI sp0_13),(159,pP bp0 13),(158,pP bp0 0),(157,pP bp0 0)] [.loaded ⟨bp0,13,none⟩ (vI sp0_13)] ⟨hS194.c 0,trivial⟩ ?_
  refine gn hK29 ?_
  have hS210:=(((((((hS194.b 7).b 6).b 6).b 6).b 6).b 6).b 6).takeN 7
  obtain rfl:=si h
  exact we_ret (pr0 [.tmp 4] [vI (IntKind.i64.wrap (sp0_13+1))] ⟨(.slice Ap0_2 lp0_2.length cp0_2),(.slice Ap0_3 lp0_3.length cp0_3),v12,rfl,hS210⟩)
 rw [if_neg hc19] at h
 refine wk 109 (x1.Op==12) false (beq_eq_false_iff_ne.2 hc19) ?_
 refine we_false (by kernel_rfl) ?_
 refine ws fun K30 hK30=>wr [(0,0),(1,0)]<|gb0 [0,1] [(116,.bool (x1.Op==13)),(117,.bool (x1.Op==13))] ?_
 refine gn hK30 ?_
 by_cases hc21:x1.Op=13
 ·rw [if_pos hc21] at h
  refine wk 116 (x1.Op==13) true (beq_iff_eq.2 hc21) ?_
  refine we_true (by kernel_rfl) ?_
  refine we_orders3 (by kernel_rfl) [(2,[⟨b1,1,none⟩],[],[]),(4,[⟨b1,2,none⟩],[],[])] (.vals [0] (.vals [1] (.vals [2] (.vals [3] (.vals [4] (.vals [5] (.vals [6] (.vals [7] (.alt 8 2 .fin .nomore))))))))) (by kernel_rfl) (by kernel_rfl) ?_
  have hS211:=hS1.drew
  refine g30 [0,1] [(119,pP b1 1),(118,pP bp0 0)] ?_
  refine g3 2 [(120,vI x1.A)] [.loaded ⟨b1,1,none⟩ (vI x1.A)] ⟨hS211.c 0,trivial⟩ ?_
  refine g30 [3] [(121,pP b1 2)] ?_
  refine g3 4 [(122,vI x1.B)] [.loaded ⟨b1,2,none⟩ (vI x1.B)] ⟨hS211.c 0,trivial⟩ ?_
  refine g30 [5,6] [(124,pP bp0 5),(123,pP bp0 0)] ?_
  by_cases hc22:0≤x1.A
  ·rw [if_pos hc22] at h
   rcases hx9:(arrN 8 sp0_5)[(x1.A).toNat]? with _ | e4
   ·rw [hx9] at h; cases h
   rw [hx9] at h
   simp only [] at h
   refine go3_arrAddr (d:=125) (ty:=0) (t:=59) (len:=8) (el:=3) (b:=bp0) (o0:=5) (sz:=1) (x:=(.tmp 124)) (y:=(.tmp 120)) (k':=.i64) (j:=x1.A) (jn:=((x1.A).toNat)) (by kernel_rfl) (by kernel_rfl) (by kernel_rfl) (by kernel_rfl) (by kernel_rfl) (Int.toNat_of_nonneg hc22).symm (lt_of_get hx9) ?_
   refine go_alt3 (fun KK hKK=>?_) ?_
   ·have hS212:=hS211.b 1
    refine ge_setA (b:=bp0) (off:=5) (jn:=((x1.A).toNat)) (nn:=8) (t:=61) (pre:=[(.slice Ap0_0 lp0_0.length cp0_0),(.slice Ap0_1 lp0_1.length cp0_1),(.slice Ap0_2 lp0_2.length cp0_2),(.slice Ap0_3 lp0_3.length cp0_3),(.slice Ap0_4 lp0_4.length cp0_4)]) (post:=[vI sp0_13,vI sp0_14]) (l:=(arrN 8 sp0_5)) (u:=e4) (v:=x1.B) (cs:=#[(.slice Ap0_0 lp0_0.length cp0_0),(.slice Ap0_1 lp0_1.length cp0_1),(.slice Ap0_2 lp0_2.length cp0_2),(.slice Ap0_3 lp0_3.length cp0_3),(.slice Ap0_4 lp0_4.length cp0_4),vI ((sp0_5[0]?).getD 0),vI ((sp0_5[1]?).getD 0),vI ((sp0_5[2]?).getD 0),vI ((sp0_5[3]?).getD 0),vI ((sp0_5[4]?).getD 0),vI ((sp0_5[5]?).getD 0),vI ((sp0_5[6]?).getD 0),vI ((sp0_5[7]?).getD 0),vI sp0_13,vI sp0_14]) hS212 (by kernel_rfl) rfl rfl rfl hx9 fun w23 hS213=>?_
    have hS214:=hS213.nc #[(.slice Ap0_0 lp0_0.length cp0_0),(.slice Ap0_1 lp0_1.length cp0_1),(.slice Ap0_2 lp0_2.length cp0_2),(.slice Ap0_3 lp0_3.length cp0_3),(.slice Ap0_4 lp0_4.length cp0_4),vI ((((arrN 8 sp0_5).set ((x1.A).toNat) x1.B)[0]?).getD 0),vI ((((arrN 8 sp0_5).set ((x1.A).toNat) x1.B)[1]?).getD 0),vI ((((arrN 8 sp0_5).set ((x1.A).toNat) x1.B)[2]?).getD 0),vI ((((arrN 8 sp0_5).set ((x1.A).toNat) x1.B)[3]?).getD 0),vI ((((arrN 8 sp0_5).set ((x1.A).toNat) x1.B)[4]?).getD 0),vI ((((arrN 8 sp0_5).set ((x1.A).toNat) x1.B)[5]?).getD 0),vI ((((arrN 8 sp0_5).set ((x1.A).toNat) x1.B)[6]?).getD 0),vI ((((arrN 8 sp0_5).set ((x1.A).toNat) x1.B)[7]?).getD 0),vI sp0_13,vI sp0_14] rfl
    refine g2 hKK<|go_fin3 fun a hF=>hK2 _ _ ?_ a hF
    refine ws fun K31 hK31=>wr [(0,0),(1,0),(2,0),(3,0),(4,0),(5,0)]<|gb [0,1,2,3,4,5] [(4,vI (IntKind.i64.wrap (sp0_13+1))),(161,vI (IntKind.i64.wrap (sp0_13+1))),(160,vI sp0_13),(159,pP bp0 13),(158,pP bp0 0),(157,pP bp0 0)] [.loaded ⟨bp0,13,none⟩ (vI sp0_13)] ⟨hS214.c 0,trivial⟩ ?_
    refine gn hK31 ?_
    have hS222:=(((((((hS214.b 7).b 7).b 7).b 7).b 7).b 7).b 6).takeN 7
    obtain rfl:=si h
    exact we_ret (pr0 [.tmp 4] [vI (IntKind.i64.wrap (sp0_13+1))] ⟨(.slice Ap0_2 lp0_2.length cp0_2),(.slice Ap0_3 lp0_3.length cp0_3),(.slice Ap0_4 lp0_4.length cp0_4),rfl,hS222⟩)
   exact go_nomore3
  rw [if_neg hc22] at h
  cases h
 rw [if_neg hc21] at h
 refine wk 116 (x1.Op==13) false (beq_eq_false_iff_ne.2 hc21) ?_
 refine we_false (by kernel_rfl) ?_
 refine ws fun K32 hK32=>wr [(0,0),(1,0)]<|gb0 [0,1] [(126,.bool (x1.Op==14)),(127,.bool (x1.Op==14))] ?_
 refine gn hK32 ?_
 by_cases hc23:x1.Op=14
 ·rw [if_pos hc23] at h
  refine wk 126 (x1.Op==14) true (beq_iff_eq.2 hc23) ?_
  refine we_true (by kernel_rfl) ?_
  refine ws fun K33 hK33=>we_draws (by kernel_rfl) [(0,0),(1,0),(2,0),(3,0),(4,0),(5,0),(6,0),(7,0)] (by kernel_rfl) ?_
  have hS223:=hS1.drew
  refine gb [0,1,2,3,4] [(132,pP bp0 5),(131,pP bp0 0),(130,vI x1.A),(129,pP b1 1),(128,pP bp0 0)] [.loaded ⟨b1,1,none⟩ (vI x1.A)] ⟨hS223.c 0,trivial⟩ ?_
  by_cases hc24:0≤x1.A
  ·rw [if_pos hc24] at h
   rcases hx10:(arrN 8 sp0_5)[(x1.A).toNat]? with _ | e5
   ·rw [hx10] at h; cases h
   rw [hx10] at h
   simp only [] at h
   refine ge_arrAddr (d:=133) (ty:=0) (t:=59) (len:=8) (el:=3) (b:=bp0) (o0:=5) (sz:=1) (x:=(.tmp 132)) (y:=(.tmp 130)) (k':=.i64) (j:=x1.A) (jn:=((x1.A).toNat)) (by kernel_rfl) (by kernel_rfl) (by kernel_rfl) (by kernel_rfl) (by kernel_rfl) (Int.toNat_of_nonneg hc24).symm (lt_of_get hx10) ?_
   refine gb [6,7] [(135,.bool (decide (e5 > 0))),(134,vI e5)] [.loaded ⟨bp0,5+((x1.A).toNat)*1,none⟩ (vI e5)] ⟨hS223.cellA 1 (pre:=[(.slice Ap0_0 lp0_0.length cp0_0),(.slice Ap0_1 lp0_1.length cp0_1),(.slice Ap0_2 lp0_2.length cp0_2),(.slice Ap0_3 lp0_3.length cp0_3),(.slice Ap0_4 lp0_4.length cp0_4)]) (post:=[vI sp0_13,vI sp0_14]) (l:=(arrN 8 sp0_5)) rfl rfl rfl hx10 rfl rfl,trivial⟩ ?_
   refine gn hK33 ?_
   by_cases hc25:e5 > 0
   ·rw [if_pos hc25] at h
    refine wk 135 (decide (e5 > 0)) true (decide_eq_true hc25) ?_
    refine we_true (by kernel_rfl) ?_
    refine ws fun K34 hK34=>we_orders3 (by kernel_rfl) [(2,[⟨b1,1,none⟩],[],[]),(6,[⟨bp0,5+((x1.A).toNat)*1,none⟩],[],[])] (.vals [0] (.vals [1] (.vals [2] (.vals [3] (.vals [4] (.vals [5] (.vals [6] (.vals [7] (.vals [8] (.vals [9] (.vals [10] (.alt 11 2 .fin .nomore)))))))))))) (by kernel_rfl) (by kernel_rfl) ?_
    have hS224:=hS223.drew
    refine g30 [0,1] [(137,pP b1 1),(136,pP bp0 0)] ?_
    refine g3 2 [(138,vI x1.A)] [.loaded ⟨b1,1,none⟩ (vI x1.A)] ⟨hS224.c 0,trivial⟩ ?_
    refine g30 [3,4] [(140,pP bp0 5),(139,pP bp0 0)] ?_
    refine go3_arrAddr (d:=141) (ty:=0) (t:=59) (len:=8) (el:=3) (b:=bp0) (o0:=5) (sz:=1) (x:=(.tmp 140)) (y:=(.tmp 138)) (k':=.i64) (j:=x1.A) (jn:=((x1.A).toNat)) (by kernel_rfl) (by kernel_rfl) (by kernel_rfl) (by kernel_rfl) (by kernel_rfl) (Int.toNat_of_nonneg hc24).symm (lt_of_get hx10) ?_
    refine g3 6 [(142,vI e5)] [.loaded ⟨bp0,5+((x1.A).toNat)*1,none⟩ (vI e5)] ⟨hS224.cellA 1 (pre:=[(.slice Ap0_0 lp0_0.length cp0_0),(.slice Ap0_1 lp0_1.length cp0_1),(.slice Ap0_2 lp0_2.length cp0_2),(.slice Ap0_3 lp0_3.length cp0_3),(.slice Ap0_4 lp0_4.length cp0_4)]) (post:=[vI sp0_13,vI sp0_14]) (l:=(arrN 8 sp0_5)) rfl rfl rfl hx10 rfl rfl,trivial⟩ ?_
    refine g30 [7,8,9] [(145,pP bp0 5),(144,pP bp0 0),(143,vI (IntKind.i64.wrap (e5-1)))] ?_
    refine go3_arrAddr (d:=146) (ty:=0) (t:=59) (len:=8) (el:=3) (b:=bp0) (o0:=5) (sz:=1) (x:=(.tmp 145)) (y:=(.tmp 138)) (k':=.i64) (j:=x1.A) (jn:=((x1.A).toNat)) (by kernel_rfl) (by kernel_rfl) (by kernel_rfl) (by kernel_rfl) (by kernel_rfl) (Int.toNat_of_nonneg hc24).symm (lt_of_get hx10) ?_
    refine go_alt3 (fun KK hKK=>?_) ?_
    ·have hS225:=hS224.b 1
     refine ge_setA (b:=bp0) (off:=5) (jn:=((x1.A).toNat)) (nn:=8) (t:=61) (pre:=[(.slice Ap0_0 lp0_0.length cp0_0),(.slice Ap0_1 lp0_1.length cp0_1),(.slice Ap0_2 lp0_2.length cp0_2),(.slice Ap0_3 lp0_3.length cp0_3),(.slice Ap0_4 lp0_4.length cp0_4)]) (post:=[vI sp0_13,vI sp0_14]) (l:=(arrN 8 sp0_5)) (u:=e5) (v:=(IntKind.i64.wrap (e5-1))) (cs:=#[(.slice Ap0_0 lp0_0.length cp0_0),(.slice Ap0_1 lp0_1.length cp0_1),(.slice Ap0_2 lp0_2.length cp0_2),(.slice Ap0_3 lp0_3.length cp0_3),(.slice Ap0_4 lp0_4.length cp0_4),vI ((sp0_5[0]?).getD 0),vI ((sp0_5[1]?).getD 0),vI ((sp0_5[2]?).getD 0),vI ((sp0_5[3]?).getD 0),vI ((sp0_5[4]?).getD 0),vI ((sp0_5[5]?).getD 0),vI ((sp0_5[6]?).getD 0),vI ((sp0_5[7]?).getD 0),vI sp0_13,vI sp0_14]) hS225 (by kernel_rfl) rfl rfl rfl hx10 fun w24 hS226=>?_
     have hS227:=hS226.nc #[(.slice Ap0_0 lp0_0.length cp0_0),(.slice Ap0_1 lp0_1.length cp0_1),(.slice Ap0_2 lp0_2.length cp0_2),(.slice Ap0_3 lp0_3.length cp0_3),(.slice Ap0_4 lp0_4.length cp0_4),vI ((((arrN 8 sp0_5).set ((x1.A).toNat) (IntKind.i64.wrap (e5-1)))[0]?).getD 0),vI ((((arrN 8 sp0_5).set ((x1.A).toNat) (IntKind.i64.wrap (e5-1)))[1]?).getD 0),vI ((((arrN 8 sp0_5).set ((x1.A).toNat) (IntKind.i64.wrap (e5-1)))[2]?).getD 0),vI ((((arrN 8 sp0_5).set ((x1.A).toNat) (IntKind.i64.wrap (e5-1)))[3]?).getD 0),vI ((((arrN 8 sp0_5).set ((x1.A).toNat) (IntKind.i64.wrap (e5-1)))[4]?).getD 0),vI ((((arrN 8 sp0_5).set ((x1.A).toNat) (IntKind.i64.wrap (e5-1)))[5]?).getD 0),vI ((((arrN 8 sp0_5).set ((x1.A).toNat) (IntKind.i64.wrap (e5-1)))[6]?).getD 0),vI ((((arrN 8 sp0_5).set ((x1.A).toNat) (IntKind.i64.wrap (e5-1)))[7]?).getD 0),vI sp0_13,vI sp0_14] rfl
     refine g2 hKK<|go_fin3 fun a hF=>hK34 _ _ ?_ a hF
     refine ws fun K35 hK35=>wr [(0,0),(1,0),(2,0)]<|gb [0,1,2] [(4,vI x1.B),(148,vI x1.B),(147,pP b1 2)] [.loaded ⟨b1,2,none⟩ (vI x1.B)] ⟨hS227.c 1,trivial⟩ ?_
     refine gn hK35 ?_
     have hS235:=(((((((hS227.b 7).b 7).b 7).b 7).b 7).b 7).b 6).takeN 7
     obtain rfl:=si h
     exact we_ret (pr0 [.tmp 4] [vI x1.B] ⟨(.slice Ap0_2 lp0_2.length cp0_2),(.slice Ap0_3 lp0_3.length cp0_3),(.slice Ap0_4 lp0_4.length cp0_4),rfl,hS235⟩)
    exact go_nomore3
   rw [if_neg hc25] at h
   refine wk 135 (decide (e5 > 0)) false (decide_eq_false hc25) ?_
   refine we_false (by kernel_rfl) ?_
   refine we_skip fun a hF=>hK2 _ _ ?_ a hF
   refine ws fun K36 hK36=>wr [(0,0),(1,0),(2,0),(3,0),(4,0),(5,0)]<|gb [0,1,2,3,4,5] [(4,vI (IntKind.i64.wrap (sp0_13+1))),(161,vI (IntKind.i64.wrap (sp0_13+1))),(160,vI sp0_13),(159,pP bp0 13),(158,pP bp0 0),(157,pP bp0 0)] [.loaded ⟨bp0,13,none⟩ (vI sp0_13)] ⟨hS223.c 1,trivial⟩ ?_
   refine gn hK36 ?_
   have hS243:=(((((((hS223.b 7).b 7).b 7).b 7).b 7).b 7).b 7).takeN 7
   obtain rfl:=si h
   exact we_ret (pr0 [.tmp 4] [vI (IntKind.i64.wrap (sp0_13+1))] ⟨(.slice Ap0_2 lp0_2.length cp0_2),(.slice Ap0_3 lp0_3.length cp0_3),(.slice Ap0_4 lp0_4.length cp0_4),rfl,hS243⟩)
  rw [if_neg hc24] at h
  cases h
 rw [if_neg hc23] at h
 refine wk 126 (x1.Op==14) false (beq_eq_false_iff_ne.2 hc23) ?_
 refine we_false (by kernel_rfl) ?_
 refine ws fun K37 hK37=>wr [(0,0),(1,0)]<|gb0 [0,1] [(149,.bool (x1.Op==15)),(150,.bool (x1.Op==15))] ?_
 refine gn hK37 ?_
 by_cases hc26:x1.Op=15
 ·rw [if_pos hc26] at h
  refine wk 149 (x1.Op==15) true (beq_iff_eq.2 hc26) ?_
  refine we_true (by kernel_rfl) ?_
  refine we_orders3 (by kernel_rfl) [(2,[⟨b1,1,none⟩],[],[])] (.vals [0] (.vals [1] (.vals [2] (.vals [3] (.vals [4] (.vals [5] (.alt 6 2 .fin .nomore))))))) (by kernel_rfl) (by kernel_rfl) ?_
  have hS244:=hS1.drew
  refine g30 [0,1] [(152,pP b1 1),(151,pP bp0 0)] ?_
  refine g3 2 [(153,vI x1.A)] [.loaded ⟨b1,1,none⟩ (vI x1.A)] ⟨hS244.c 0,trivial⟩ ?_
  refine g30 [3,4] [(155,pP bp0 5),(154,pP bp0 0)] ?_
  by_cases hc27:0≤x1.A
  ·rw [if_pos hc27] at h
   rcases hx11:(arrN 8 sp0_5)[(x1.A).toNat]? with _ | e6
   ·rw [hx11] at h; cases h
   rw [hx11] at h
   simp only [] at h
   refine go3_arrAddr (d:=156) (ty:=0) (t:=59) (len:=8) (el:=3) (b:=bp0) (o0:=5) (sz:=1) (x:=(.tmp 155)) (y:=(.tmp 153)) (k':=.i64) (j:=x1.A) (jn:=((x1.A).toNat)) (by kernel_rfl) (by kernel_rfl) (by kernel_rfl) (by kernel_rfl) (by kernel_rfl) (Int.toNat_of_nonneg hc27).symm (lt_of_get hx11) ?_
   refine go_alt3 (fun KK hKK=>?_) ?_
   ·have hS245:=hS244.b 1
    refine ge_setA (b:=bp0) (off:=5) (jn:=((x1.A).toNat)) (nn:=8) (t:=61) (pre:=[(.slice Ap0_0 lp0_0.length cp0_0),(.slice Ap0_1 lp0_1.length cp0_1),(.slice Ap0_2 lp0_2.length cp0_2),(.slice Ap0_3 lp0_3.length cp0_3),(.slice Ap0_4 lp0_4.length cp0_4)]) (post:=[vI sp0_13,vI sp0_14]) (l:=(arrN 8 sp0_5)) (u:=e6) (v:=0) (cs:=#[(.slice Ap0_0 lp0_0.length cp0_0),(.slice Ap0_1 lp0_1.length cp0_1),(.slice Ap0_2 lp0_2.length cp0_2),(.slice Ap0_3 lp0_3.length cp0_3),(.slice Ap0_4 lp0_4.length cp0_4),vI ((sp0_5[0]?).getD 0),vI ((sp0_5[1]?).getD 0),vI ((sp0_5[2]?).getD 0),vI ((sp0_5[3]?).getD 0),vI ((sp0_5[4]?).getD 0),vI ((sp0_5[5]?).getD 0),vI ((sp0_5[6]?).getD 0),vI ((sp0_5[7]?).getD 0),vI sp0_13,vI sp0_14]) hS245 (by kernel_rfl) rfl rfl rfl hx11 fun w25 hS246=>?_
    have hS247:=hS246.nc #[(.slice Ap0_0 lp0_0.length cp0_0),(.slice Ap0_1 lp0_1.length cp0_1),(.slice Ap0_2 lp0_2.length cp0_2),(.slice Ap0_3 lp0_3.length cp0_3),(.slice Ap0_4 lp0_4.length cp0_4),vI ((((arrN 8 sp0_5).set ((x1.A).toNat) 0)[0]?).getD 0),vI ((((arrN 8 sp0_5).set ((x1.A).toNat) 0)[1]?).getD 0),vI ((((arrN 8 sp0_5).set ((x1.A).toNat) 0)[2]?).getD 0),vI ((((arrN 8 sp0_5).set ((x1.A).toNat) 0)[3]?).getD 0),vI ((((arrN 8 sp0_5).set ((x1.A).toNat) 0)[4]?).getD 0),vI ((((arrN 8 sp0_5).set ((x1.A).toNat) 0)[5]?).getD 0),vI ((((arrN 8 sp0_5).set ((x1.A).toNat) 0)[6]?).getD 0),vI ((((arrN 8 sp0_5).set ((x1.A).toNat) 0)[7]?).getD 0),vI sp0_13,vI sp0_14] rfl
    refine g2 hKK<|go_fin3 fun a hF=>hK2 _ _ ?_ a hF
    refine ws fun K38 hK38=>wr [(0,0),(1,0),(2,0),(3,0),(4,0),(5,0)]<|gb [0,1,2,3,4,5] [(4,vI (IntKind.i64.wrap (sp0_13+1))),(161,vI (IntKind.i64.wrap (sp0_13+1))),(160,vI sp0_13),(159,pP bp0 13),(158,pP bp0 0),(157,pP bp0 0)] [.loaded ⟨bp0,13,none⟩ (vI sp0_13)] ⟨hS247.c 0,trivial⟩ ?_
    refine gn hK38 ?_
    have hS255:=(((((((hS247.b 7).b 7).b 7).b 7).b 7).b 7).b 6).takeN 7
    obtain rfl:=si h
    exact we_ret (pr0 [.tmp 4] [vI (IntKind.i64.wrap (sp0_13+1))] ⟨(.slice Ap0_2 lp0_2.length cp0_2),(.slice Ap0_3 lp0_3.length cp0_3),(.slice Ap0_4 lp0_4.length cp0_4),rfl,hS255⟩)
   exact go_nomore3
  rw [if_neg hc27] at h
  cases h
 rw [if_neg hc26] at h
 refine wk 149 (x1.Op==15) false (beq_eq_false_iff_ne.2 hc26) ?_
 refine we_false (by kernel_rfl) ?_
 refine we_skip fun a hF=>hK2 _ _ ?_ a hF
 refine ws fun K39 hK39=>wr [(0,0),(1,0),(2,0),(3,0),(4,0),(5,0)]<|gb [0,1,2,3,4,5] [(4,vI (IntKind.i64.wrap (sp0_13+1))),(161,vI (IntKind.i64.wrap (sp0_13+1))),(160,vI sp0_13),(159,pP bp0 13),(158,pP bp0 0),(157,pP bp0 0)] [.loaded ⟨bp0,13,none⟩ (vI sp0_13)] ⟨hS1.c 1,trivial⟩ ?_
 refine gn hK39 ?_
 have hS263:=(((((((hS1.b 7).b 7).b 7).b 7).b 7).b 7).b 7).takeN 7
 obtain rfl:=si h
 exact we_ret (pr0 [.tmp 4] [vI (IntKind.i64.wrap (sp0_13+1))] ⟨(.slice Ap0_2 lp0_2.length cp0_2),(.slice Ap0_3 lp0_3.length cp0_3),(.slice Ap0_4 lp0_4.length cp0_4),rfl,hS263⟩)

/-! (*punctual/mach.Machine).Tick -/
abbrev mach_Machine_Tick.Post (w0:World) (bp0:Nat) (lp0_0:List SIns) (Ap0_0:Option Addr) (cp0_0:Nat) (lp0_1:List Int) (Ap0_1:Option Addr) (cp0_1:Nat) (lp0_2:List Int) (Ap0_2:Option Addr) (cp0_2:Nat) (lp0_3:List SPut) (Ap0_3:Option Addr) (cp0_3:Nat) (lp0_4:List Int) (Ap0_4:Option Addr) (cp0_4:Nat) (sp0_5:List Int) (sp0_13:Int) (sp0_14:Int) (LT:List Own) (r:SIns×Bool×(List Int)×(List SPut)×(List Int)×(List Int)×Int×Int) (e:Ending) (w:World):Prop:=∃ (nbp0_2:Value) (nbp0_3:Value) (nbp0_4:Value),e=.returned (.tuple #[.agg #[vI r.1.Op,vI r.1.A,vI r.1.B],.bool r.2.1])∧St w0 w [Own.blk bp0 (.cells #[(.slice Ap0_0 lp0_0.length cp0_0),(.slice Ap0_1 lp0_1.length cp0_1),nbp0_2,nbp0_3,nbp0_4,vI ((r.2.2.2.2.2.1[0]?).getD 0),vI ((r.2.2.2.2.2.1[1]?).getD 0),vI ((r.2.2.2.2.2.1[2]?).getD 0),vI ((r.2.2.2.2.2.1[3]?).getD 0),vI ((r.2.2.2.2.2.1[4]?).getD 0),vI ((r.2.2.2.2.2.1[5]?).getD 0),vI ((r.2.2.2.2.2.1[6]?).getD 0),vI ((r.2.2.2.2.2.1[7]?).getD 0),vI r.2.2.2.2.2.2.1,vI r.2.2.2.2.2.2.2] 61 (0,0)),Own.of (.slice Ap0_0 lp0_0.length cp0_0) 35 lp0_0,Own.of (.slice Ap0_1 lp0_1.length cp0_1) 3 lp0_1,Own.of nbp0_2 3 r.2.2.1,Own.of nbp0_3 43 r.2.2.2.1,Own.of nbp0_4 3 r.2.2.2.2.1,Own.all LT]
def mach_Machine_Tick.p0 (lp0_0 : List SIns) (lp0_1 : List Int) (lp0_2 : List Int) (lp0_3 : List SPut) (lp0_4 : List Int) (sp0_5 : List Int) (sp0_13 : Int) (sp0_14 : Int) (e1 : SIns) : Option (Int ⊕ (SIns × Bool × (List Int) × (List SPut) × (List Int) × (List Int) × Int × Int)) :=
  if sp0_14=0 then
   match mach_Machine_over.f lp0_0 lp0_1 lp0_2 lp0_3 lp0_4 sp0_5 sp0_13 sp0_14 e1 with
   | none=>none
   | some r1 =>
    some (.inl (mach_Cost.f e1 r1))
  else
   some (.inl sp0_14)
def mach_Machine_Tick.f (lp0_0 : List SIns) (lp0_1 : List Int) (lp0_2 : List Int) (lp0_3 : List SPut) (lp0_4 : List Int) (sp0_5 : List Int) (sp0_13 : Int) (sp0_14 : Int) : Option (SIns × Bool × (List Int) × (List SPut) × (List Int) × (List Int) × Int × Int) :=
 if (mach_Machine_Done.f lp0_0 lp0_1 lp0_2 lp0_3 lp0_4 sp0_5 sp0_13 sp0_14)=true then
  some ((⟨0,0,0⟩:SIns),false,lp0_2,lp0_3,lp0_4,sp0_5,sp0_13,sp0_14)
 else
  if 0≤sp0_13 then
   match lp0_0[(sp0_13).toNat]? with
   | none=>none
   | some e1 =>
    match mach_Machine_Tick.p0 lp0_0 lp0_1 lp0_2 lp0_3 lp0_4 sp0_5 sp0_13 sp0_14 e1 with
    | none=>none
    | some (.inl z2) =>
     if (IntKind.i64.wrap (z2-1)) > 0 then
      some (e1,false,lp0_2,lp0_3,lp0_4,sp0_5,sp0_13,IntKind.i64.wrap (z2-1))
     else
      match mach_Machine_do.f lp0_0 lp0_1 lp0_2 lp0_3 lp0_4 sp0_5 sp0_13 (IntKind.i64.wrap (z2-1)) e1 with
      | none=>none
      | some r2 =>
       some (e1,true,r2.2.1,r2.2.2.1,r2.2.2.2.1,r2.2.2.2.2,r2.1,IntKind.i64.wrap (z2-1))
    | some (.inr rr1) =>
     some rr1
  else
   none
abbrev mach_Machine_Tick.A0 (w0:World) (bp0:Nat) (lp0_0:List SIns) (Ap0_0:Option Addr) (cp0_0:Nat) (lp0_1:List Int) (Ap0_1:Option Addr) (cp0_1:Nat) (lp0_2:List Int) (Ap0_2:Option Addr) (cp0_2:Nat) (lp0_3:List SPut) (Ap0_3:Option Addr) (cp0_3:Nat) (lp0_4:List Int) (Ap0_4:Option Addr) (cp0_4:Nat) (sp0_5:List Int) (sp0_13:Int) (LT:List Own) (b1:Nat) (e1:SIns) (b2:Nat):Int→Act→World→Prop:=fun (s:Int) a w=>St w0 w [Own.blk b2 (.cells #[vI e1.Op,vI e1.A,vI e1.B] 35 (0,0)),Own.blk bp0 (.cells #[(.slice Ap0_0 lp0_0.length cp0_0),(.slice Ap0_1 lp0_1.length cp0_1),(.slice Ap0_2 lp0_2.length cp0_2),(.slice Ap0_3 lp0_3.length cp0_3),(.slice Ap0_4 lp0_4.length cp0_4),vI ((sp0_5[0]?).getD 0),vI ((sp0_5[1]?).getD 0),vI ((sp0_5[2]?).getD 0),vI ((sp0_5[3]?).getD 0),vI ((sp0_5[4]?).getD 0),vI ((sp0_5[5]?).getD 0),vI ((sp0_5[6]?).getD 0),vI ((sp0_5[7]?).getD 0),vI sp0_13,vI s] 61 (0,0)),Own.blk b1 (.cells #[vI 0,vI 0,vI 0] 35 (0,0)),Own.of (.slice Ap0_0 lp0_0.length cp0_0) 35 lp0_0,Own.of (.slice Ap0_1 lp0_1.length cp0_1) 3 lp0_1,Own.of (.slice Ap0_2 lp0_2.length cp0_2) 3 lp0_2,Own.of (.slice Ap0_3 lp0_3.length cp0_3) 43 lp0_3,Own.of (.slice Ap0_4 lp0_4.length cp0_4) 3 lp0_4,Own.all LT]∧Frm 51 a [(0,pP bp0 0),(2,pP b1 0),(4,pP b2 0)]
abbrev mach_Machine_Tick.B0 (w0:World) (bp0:Nat) (lp0_0:List SIns) (Ap0_0:Option Addr) (cp0_0:Nat) (lp0_1:List Int) (Ap0_1:Option Addr) (cp0_1:Nat) (lp0_2:List Int) (Ap0_2:Option Addr) (cp0_2:Nat) (lp0_3:List SPut) (Ap0_3:Option Addr) (cp0_3:Nat) (lp0_4:List Int) (Ap0_4:Option Addr) (cp0_4:Nat) (sp0_5:List Int) (sp0_13:Int) (sp0_14:Int) (LT:List Own):(SIns×Bool×(List Int)×(List SPut)×(List Int)×(List Int)×Int×Int)→Exit→Act→World→Prop:=Rets Tryd.prog Tryd.f21 (mach_Machine_Tick.Post w0 bp0 lp0_0 Ap0_0 cp0_0 lp0_1 Ap0_1 cp0_1 lp0_2 Ap0_2 cp0_2 lp0_3 Ap0_3 cp0_3 lp0_4 Ap0_4 cp0_4 sp0_5 sp0_13 sp0_14 LT)
theorem mach_Machine_Tick_p0 (K:Nat) (w0:World) (bp0:Nat) (lp0_0:List SIns) (Ap0_0:Option Addr) (cp0_0:Nat) (lp0_1:List Int) (Ap0_1:Option Addr) (cp0_1:Nat) (lp0_2:List Int) (Ap0_2:Option Addr) (cp0_2:Nat) (lp0_3:List SPut) (Ap0_3:Option Addr) (cp0_3:Nat) (lp0_4:List Int) (Ap0_4:Option Addr) (cp0_4:Nat) (sp0_5:List Int) (sp0_13:Int) (sp0_14:Int) (LT:List Own) (b1:Nat) (hc1:¬ ((mach_Machine_Done.f lp0_0 lp0_1 lp0_2 lp0_3 lp0_4 sp0_5 sp0_13 sp0_14)=true)) (hc2:0≤sp0_13) (e1:SIns) (hx2:lp0_0[(sp0_13).toNat]?=some e1) (b2:Nat) (o:Int ⊕ (SIns×Bool×(List Int)×(List SPut)×(List Int)×(List Int)×Int×Int)) (h:mach_Machine_Tick.p0 lp0_0 lp0_1 lp0_2 lp0_3 lp0_4 sp0_5 sp0_13 sp0_14 e1=some o) (w:World) (hS:St w0 w [Own.blk b2 (.cells #[vI e1.Op,vI e1.A,vI e1.B] 35 (0,0)),Own.blk bp0 (.cells #[(.slice Ap0_0 lp0_0.length cp0_0),(.slice Ap0_1 lp0_1.length cp0_1),(.slice Ap0_2 lp0_2.length cp0_2),(.slice Ap0_3 lp0_3.length cp0_3),(.slice Ap0_4 lp0_4.length cp0_4),vI ((sp0_5[0]?).getD 0),vI ((sp0_5[1]?).getD 0),vI ((sp0_5[2]?).getD 0),vI ((sp0_5[3]?).getD 0),vI ((sp0_5[4]?).getD 0),vI ((sp0_5[5]?).getD 0),vI ((sp0_5[6]?).getD 0),vI ((sp0_5[7]?).getD 0),vI sp0_13,vI sp0_14] 61 (0,0)),Own.of (.slice Ap0_0 lp0_0.length cp0_0) 35 lp0_0,Own.of (.slice Ap0_1 lp0_1.length cp0_1) 3 lp0_1,Own.of (.slice Ap0_2 lp0_2.length cp0_2) 3 lp0_2,Own.of (.slice Ap0_3 lp0_3.length cp0_3) 43 lp0_3,Own.of (.slice Ap0_4 lp0_4.length cp0_4) 3 lp0_4,Own.blk b1 (.cells #[vI 0,vI 0,vI 0] 35 (0,0)),Own.all LT]) (Q:Exit→Act→World→Prop) (hQ:∀ x a w,Outs (mach_Machine_Tick.A0 w0 bp0 lp0_0 Ap0_0 cp0_0 lp0_1 Ap0_1 cp0_1 lp0_2 Ap0_2 cp0_2 lp0_3 Ap0_3 cp0_3 lp0_4 Ap0_4 cp0_4 sp0_5 sp0_13 LT b1 e1 b2) (mach_Machine_Tick.B0 w0 bp0 lp0_0 Ap0_0 cp0_0 lp0_1 Ap0_1 cp0_1 lp0_2 Ap0_2 cp0_2 lp0_3 Ap0_3 cp0_3 lp0_4 Ap0_4 cp0_4 sp0_5 sp0_13 sp0_14 LT) o x a w→Q x a w):WE Tryd.prog 51 (subF Tryd.f21 [1,1,1,0]) Q [(0,pP bp0 0),(2,pP b1 0),(3,.bool false),(4,pP b2 0),(5,pP bp0 0),(6,.bool false),(8,pP bp0 0),(9,pP bp0 0),(10,pP bp0 0),(11,(.slice Ap0_0 lp0_0.length cp0_0)),(12,pP bp0 0),(13,pP bp0 0),(14,pP bp0 13),(15,vI sp0_13),(16,.pointer (some ⟨blkOf Ap0_0,offOf Ap0_0+(sp0_13).toNat*3,none⟩)),(17,.agg #[vI e1.Op,vI e1.A,vI e1.B])] w:=by
 simp only [mach_Machine_Tick.p0] at h
 refine ws fun K7 hK7=>wr [(0,0),(1,0),(2,0),(3,0),(4,0)]<|gb [0,1,2,3,4] [(22,.bool (sp0_14==0)),(21,vI sp0_14),(20,pP bp0 14),(19,pP bp0 0),(18,pP bp0 0)] [.loaded ⟨bp0,14,none⟩ (vI sp0_14)] ⟨hS.c 1,trivial⟩ ?_
 refine gn hK7 ?_
 by_cases hc3:sp0_14=0
 ·rw [if_pos hc3] at h
  refine wk 22 (sp0_14==0) true (beq_iff_eq.2 hc3) ?_
  refine we_true (by kernel_rfl) ?_
  refine we_orders3 (by kernel_rfl) [(1,[⟨b2,0,none⟩,⟨b2,1,none⟩,⟨b2,2,none⟩],[],[]),(3,[⟨b2,0,none⟩,⟨b2,1,none⟩,⟨b2,2,none⟩],[4,5],[])] (.vals [0] (.vals [1] (.vals [2] (.vals [3] (.alt 4 2 (.alt 5 1 (.vals [6] (.vals [7] (.alt 8 2 .fin .nomore))) .nomore) .nomore))))) (by kernel_rfl) (by kernel_rfl) ?_
  have hS26:=hS.drew
  refine g30 [0] [(23,pP bp0 0)] ?_
  refine g3 1 [(24,.agg #[vI e1.Op,vI e1.A,vI e1.B])] [.loaded ⟨b2,0,none⟩ (vI e1.Op),.loaded ⟨b2,1,none⟩ (vI e1.A),.loaded ⟨b2,2,none⟩ (vI e1.B)] ⟨hS26.c 0,hS26.c 0,hS26.c 0,trivial⟩ ?_
  refine g30 [2] [(25,pP bp0 0)] ?_
  refine g3 3 [(26,.agg #[vI e1.Op,vI e1.A,vI e1.B])] [.loaded ⟨b2,0,none⟩ (vI e1.Op),.loaded ⟨b2,1,none⟩ (vI e1.A),.loaded ⟨b2,2,none⟩ (vI e1.B)] ⟨hS26.c 0,hS26.c 0,hS26.c 0,trivial⟩ ?_
  refine go_alt3 (fun KK hKK=>?_) ?_
  ·rcases hq2:mach_Machine_over.f lp0_0 lp0_1 lp0_2 lp0_3 lp0_4 sp0_5 sp0_13 sp0_14 e1 with _ | r1
   ·rw [hq2] at h; cases h
   rw [hq2] at h
   simp only [] at h
   have hS34:=((((((hS26.b 6).b 6).b 6).b 6).b 6).b 6).packN 6
   refine ge_call2 (m:=0) (d:=some 27) (f:=34) (args:=#[pP bp0 0,.agg #[vI e1.Op,vI e1.A,vI e1.B]]) (by kernel_rfl) (mach_Machine_over_ok bp0 lp0_0 Ap0_0 cp0_0 lp0_1 Ap0_1 cp0_1 lp0_2 Ap0_2 cp0_2 lp0_3 Ap0_3 cp0_3 lp0_4 Ap0_4 cp0_4 sp0_5 sp0_13 sp0_14 e1 _ _ _ hS34 _ hq2) ?_
   rintro _ w6 ⟨rfl,hS33⟩
   refine ⟨_,rfl,?_⟩
   have hS35:=hS33.unpack [Own.blk bp0 (.cells #[(.slice Ap0_0 lp0_0.length cp0_0),(.slice Ap0_1 lp0_1.length cp0_1),(.slice Ap0_2 lp0_2.length cp0_2),(.slice Ap0_3 lp0_3.length cp0_3),(.slice Ap0_4 lp0_4.length cp0_4),vI ((sp0_5[0]?).getD 0),vI ((sp0_5[1]?).getD 0),vI ((sp0_5[2]?).getD 0),vI ((sp0_5[3]?).getD 0),vI ((sp0_5[4]?).getD 0),vI ((sp0_5[5]?).getD 0),vI ((sp0_5[6]?).getD 0),vI ((sp0_5[7]?).getD 0),vI sp0_13,vI sp0_14] 61 (0,0)),Own.of (.slice Ap0_0 lp0_0.length cp0_0) 35 lp0_0,Own.of (.slice Ap0_1 lp0_1.length cp0_1) 3 lp0_1,Own.of (.slice Ap0_2 lp0_2.length cp0_2) 3 lp0_2,Own.of (.slice Ap0_3 lp0_3.length cp0_3) 43 lp0_3,Own.of (.slice Ap0_4 lp0_4.length cp0_4) 3 lp0_4]
   refine ge_nil fun a hF=>hKK _ _ (RS.of2 (l:=[.loaded ⟨b2,0,none⟩ (vI e1.Op),.loaded ⟨b2,1,none⟩ (vI e1.A),.loaded ⟨b2,2,none⟩ (vI e1.B)]) (by kernel_rfl) ⟨hS26.c 0,hS26.c 0,hS26.c 0,trivial⟩ ⟨hS35.c 6,hS35.c 6,hS35.c 6,trivial⟩) ?_ a hF
   refine go_alt3 (fun KK hKK=>?_) ?_
   ·refine ge_one2<|ge_call (d:=some 28) (f:=33) (args:=#[.agg #[vI e1.Op,vI e1.A,vI e1.B],.bool r1]) (by kernel_rfl) (mach_Cost_ok e1 r1 _ _ rfl) ?_
    rintro _ w7 ⟨rfl,hS36⟩
    refine ⟨_,rfl,hS36.below,?_⟩
    have hS37:=hS35.call hS36
    refine g2 hKK<|g30 [6,7] [(30,pP bp0 14),(29,pP bp0 0)] ?_
    refine go_alt3 (fun KK hKK=>?_) ?_
    ·refine gs bp0 14 #[(.slice Ap0_0 lp0_0.length cp0_0),(.slice Ap0_1 lp0_1.length cp0_1),(.slice Ap0_2 lp0_2.length cp0_2),(.slice Ap0_3 lp0_3.length cp0_3),(.slice Ap0_4 lp0_4.length cp0_4),vI ((sp0_5[0]?).getD 0),vI ((sp0_5[1]?).getD 0),vI ((sp0_5[2]?).getD 0),vI ((sp0_5[3]?).getD 0),vI ((sp0_5[4]?).getD 0),vI ((sp0_5[5]?).getD 0),vI ((sp0_5[6]?).getD 0),vI ((sp0_5[7]?).getD 0),vI sp0_13,vI sp0_14] 61 [vI (mach_Cost.f e1 r1)] hS37 fun w8 hS38=>?_
     have hS39:=hS38.nc #[(.slice Ap0_0 lp0_0.length cp0_0),(.slice Ap0_1 lp0_1.length cp0_1),(.slice Ap0_2 lp0_2.length cp0_2),(.slice Ap0_3 lp0_3.length cp0_3),(.slice Ap0_4 lp0_4.length cp0_4),vI ((sp0_5[0]?).getD 0),vI ((sp0_5[1]?).getD 0),vI ((sp0_5[2]?).getD 0),vI ((sp0_5[3]?).getD 0),vI ((sp0_5[4]?).getD 0),vI ((sp0_5[5]?).getD 0),vI ((sp0_5[6]?).getD 0),vI ((sp0_5[7]?).getD 0),vI sp0_13,vI (mach_Cost.f e1 r1)] rfl
     refine g2 hKK ?_
     have hS48:=((((((((hS39.b 8).b 6).b 6).b 6).b 6).b 6).b 8).b 7).b 8
     obtain rfl:=si h
     exact go_fin3 fun a hF=>hQ _ _ _ (Outs.again ⟨hS48,hF.weaken ea⟩)
    exact go_nomore3
   exact go_nomore3
  exact go_nomore3
 rw [if_neg hc3] at h
 refine wk 22 (sp0_14==0) false (beq_eq_false_iff_ne.2 hc3) ?_
 refine we_false (by kernel_rfl) ?_
 have hS57:=((((((((hS.b 8).b 7).b 7).b 7).b 7).b 7).b 8).b 8).b 8
 obtain rfl:=si h
 exact we_skip fun a hF=>hQ _ _ _ (Outs.again ⟨hS57,hF.weaken ea⟩)
theorem mach_Machine_Tick_ok (bp0:Nat) (lp0_0:List SIns) (Ap0_0:Option Addr) (cp0_0:Nat) (lp0_1:List Int) (Ap0_1:Option Addr) (cp0_1:Nat) (lp0_2:List Int) (Ap0_2:Option Addr) (cp0_2:Nat) (lp0_3:List SPut) (Ap0_3:Option Addr) (cp0_3:Nat) (lp0_4:List Int) (Ap0_4:Option Addr) (cp0_4:Nat) (sp0_5:List Int) (sp0_13:Int) (sp0_14:Int) (w0 wE:World) (LT:List Own) (hS:St w0 wE [Own.blk bp0 (.cells #[(.slice Ap0_0 lp0_0.length cp0_0),(.slice Ap0_1 lp0_1.length cp0_1),(.slice Ap0_2 lp0_2.length cp0_2),(.slice Ap0_3 lp0_3.length cp0_3),(.slice Ap0_4 lp0_4.length cp0_4),vI ((sp0_5[0]?).getD 0),vI ((sp0_5[1]?).getD 0),vI ((sp0_5[2]?).getD 0),vI ((sp0_5[3]?).getD 0),vI ((sp0_5[4]?).getD 0),vI ((sp0_5[5]?).getD 0),vI ((sp0_5[6]?).getD 0),vI ((sp0_5[7]?).getD 0),vI sp0_13,vI sp0_14] 61 (0,0)),Own.of (.slice Ap0_0 lp0_0.length cp0_0) 35 lp0_0,Own.of (.slice Ap0_1 lp0_1.length cp0_1) 3 lp0_1,Own.of (.slice Ap0_2 lp0_2.length cp0_2) 3 lp0_2,Own.of (.slice Ap0_3 lp0_3.length cp0_3) 43 lp0_3,Own.of (.slice Ap0_4 lp0_4.length cp0_4) 3 lp0_4,Own.all LT]) (r:SIns×Bool×(List Int)×(List SPut)×(List Int)×(List Int)×Int×Int) (h:mach_Machine_Tick.f lp0_0 lp0_1 lp0_2 lp0_3 lp0_4 sp0_5 sp0_13 sp0_14=some r) :
  Calls Tryd.prog 21 #[pP bp0 0] wE (mach_Machine_Tick.Post w0 bp0 lp0_0 Ap0_0 cp0_0 lp0_1 Ap0_1 cp0_1 lp0_2 Ap0_2 cp0_2 lp0_3 Ap0_3 cp0_3 lp0_4 Ap0_4 cp0_4 sp0_5 sp0_13 sp0_14 LT r):=by
 unfold mach_Machine_Tick.f at h
 refine calls_enter (n:=51) (args:=[pP bp0 0]) (fn:=Tryd.f21) rfl rfl rfl rfl ?_
 show WE _ _ _ _ [(0,pP bp0 0)] _
 refine ws fun K1 hK1=>wr [(0,1),(1,0)]<|gw (some 2) (.cells #[vI 0,vI 0,vI 0] 35) (fun b=>pP b 0) hS fun b1 w1 hx1 hS1=>?_
 refine gb0 [1] [(3,.bool false)] ?_
 refine gn hK1<|ws fun K2 hK2=>ws fun K3 hK3=>wr [(0,0),(1,2)]<|gb0 [0] [(5,pP bp0 0)] ?_
 have hS9:=((((((hS1.b 6).b 6).b 6).b 6).b 6).b 6).packN 6
 refine ge_call2 (m:=0) (d:=some 6) (f:=20) (args:=#[pP bp0 0]) (by kernel_rfl) (mach_Machine_Done_ok bp0 lp0_0 Ap0_0 cp0_0 lp0_1 Ap0_1 cp0_1 lp0_2 Ap0_2 cp0_2 lp0_3 Ap0_3 cp0_3 lp0_4 Ap0_4 cp0_4 sp0_5 sp0_13 sp0_14 _ _ _ hS9 _ rfl) ?_
 rintro _ w2 ⟨rfl,hS8⟩
 refine ⟨_,rfl,?_⟩
 have hS10:=hS8.unpack [Own.blk bp0 (.cells #[(.slice Ap0_0 lp0_0.length cp0_0),(.slice Ap0_1 lp0_1.length cp0_1),(.slice Ap0_2 lp0_2.length cp0_2),(.slice Ap0_3 lp0_3.length cp0_3),(.slice Ap0_4 lp0_4.length cp0_4),vI ((sp0_5[0]?).getD 0),vI ((sp0_5[1]?).getD 0),vI ((sp0_5[2]?).getD 0),vI ((sp0_5[3]?).getD 0),vI ((sp0_5[4]?).getD 0),vI ((sp0_5[5]?).getD 0),vI ((sp0_5[6]?).getD 0),vI ((sp0_5[7]?).getD 0),vI sp0_13,vI sp0_14] 61 (0,0)),Own.of (.slice Ap0_0 lp0_0.length cp0_0) 35 lp0_0,Own.of (.slice Ap0_1 lp0_1.length cp0_1) 3 lp0_1,Own.of (.slice Ap0_2 lp0_2.length cp0_2) 3 lp0_2,Own.of (.slice Ap0_3 lp0_3.length cp0_3) 43 lp0_3,Own.of (.slice Ap0_4 lp0_4.length cp0_4) 3 lp0_4]
 refine gn hK3 ?_
 by_cases hc1:(mach_Machine_Done.f lp0_0 lp0_1 lp0_2 lp0_3 lp0_4 sp0_5 sp0_13 sp0_14)=true
 ·rw [if_pos hc1] at h
  refine wk 6 (mach_Machine_Done.f lp0_0 lp0_1 lp0_2 lp0_3 lp0_4 sp0_5 sp0_13 sp0_14) true hc1 ?_
  refine we_true (by kernel_rfl) ?_
  refine ws fun K4 hK4=>wr [(0,0),(1,2),(2,0)]<|gb0 [0] [(7,.agg #[vI 0,vI 0,vI 0])] ?_
  have hS11:=hS10.b 6
  refine gs b1 0 #[vI 0,vI 0,vI 0] 35 [vI 0,vI 0,vI 0] hS11 fun w3 hS12=>?_
  have hS13:=hS12.nc #[vI 0,vI 0,vI 0] rfl
  refine gb0 [2] [(3,.bool false)] ?_
  refine gn hK4 ?_
  have hS21:=(((((((hS13.b 7).b 7).b 7).b 7).b 7).b 7).b 7).takeN 7
  obtain rfl:=si h
  exact we_ret (pr [.cell 2 35,.tmp 3] [.agg #[vI 0,vI 0,vI 0],.bool false] [.loaded ⟨b1,0,none⟩ (vI 0),.loaded ⟨b1,1,none⟩ (vI 0),.loaded ⟨b1,2,none⟩ (vI 0)] ⟨hS13.c 0,hS13.c 0,hS13.c 0,trivial⟩ ⟨(.slice Ap0_2 lp0_2.length cp0_2),(.slice Ap0_3 lp0_3.length cp0_3),(.slice Ap0_4 lp0_4.length cp0_4),rfl,hS21⟩)
 rw [if_neg hc1] at h
 refine wk 6 (mach_Machine_Done.f lp0_0 lp0_1 lp0_2 lp0_3 lp0_4 sp0_5 sp0_13 sp0_14) false (Bool.eq_false_iff.2 hc1) ?_
 refine we_false (by kernel_rfl) ?_
 refine we_skip fun a hF=>hK2 _ _ ?_ a hF
 refine ws fun K5 hK5=>we_draws (by kernel_rfl) [(0,0),(1,0),(2,0),(3,0),(4,0),(5,0),(6,0),(7,0),(8,0),(9,0),(10,1),(11,2)] (by kernel_rfl) ?_
 have hS22:=hS10.drew
 refine gb [0,1,2,3,4,5,6,7] [(15,vI sp0_13),(14,pP bp0 13),(13,pP bp0 0),(12,pP bp0 0),(11,(.slice Ap0_0 lp0_0.length cp0_0)),(10,pP bp0 0),(9,pP bp0 0),(8,pP bp0 0)] [.loaded ⟨bp0,0,none⟩ ((.slice Ap0_0 lp0_0.length cp0_0)),.loaded ⟨bp0,13,none⟩ (vI sp0_13)] ⟨hS22.c 0,hS22.c 0,trivial⟩ ?_
 by_cases hc2:0≤sp0_13
 ·rw [if_pos hc2] at h
  rcases hx2:lp0_0[(sp0_13).toNat]? with _ | e1
  ·rw [hx2] at h; cases h
  rw [hx2] at h
  simp only [] at h
  refine gi 16 0 22 35 3 lp0_0.length cp0_0 (.tmp 11) (.tmp 15) Ap0_0 .i64 sp0_13 ((sp0_13).toNat) ((hS22.rdAt 1 rfl).eqSome (pos_of_get hx2)) (Int.toNat_of_nonneg hc2).symm (lt_of_get hx2) ?_
  refine gb [9] [(17,.agg #[vI e1.Op,vI e1.A,vI e1.B])] [.loaded ⟨blkOf Ap0_0,offOf Ap0_0+((sp0_13).toNat)*3,none⟩ (vI e1.Op),.loaded ⟨blkOf Ap0_0,offOf Ap0_0+((sp0_13).toNat)*3+1,none⟩ (vI e1.A),.loaded ⟨blkOf Ap0_0,offOf Ap0_0+((sp0_13).toNat)*3+2,none⟩ (vI e1.B)] ⟨RdL.cell (j:=0) (hS22.rdAt 1 rfl) hx2 rfl,RdL.cell (j:=1) (hS22.rdAt 1 rfl) hx2 rfl,RdL.cell (j:=2) (hS22.rdAt 1 rfl) hx2 rfl,trivial⟩ ?_
  refine gw (some 4) (.cells #[vI 0,vI 0,vI 0] 35) (fun b=>pP b 0) hS22 fun b2 w4 hx3 hS23=>?_
  refine gs b2 0 #[vI 0,vI 0,vI 0] 35 [vI e1.Op,vI e1.A,vI e1.B] hS23 fun w5 hS24=>?_
  have hS25:=hS24.nc #[vI e1.Op,vI e1.A,vI e1.B] rfl
  refine gn hK5<|ws fun K6 hK6=>?_
  rcases hq4:mach_Machine_Tick.p0 lp0_0 lp0_1 lp0_2 lp0_3 lp0_4 sp0_5 sp0_13 sp0_14 e1 with _ | (z2 | rr1)
  ·rw [hq4] at h; cases h
  ·rw [hq4] at h
   simp only [] at h
   refine we_keep (e':=[(0,pP bp0 0),(2,pP b1 0),(3,.bool false),(4,pP b2 0),(5,pP bp0 0),(6,.bool false),(8,pP bp0 0),(9,pP bp0 0),(10,pP bp0 0),(11,(.slice Ap0_0 lp0_0.length cp0_0)),(12,pP bp0 0),(13,pP bp0 0),(14,pP bp0 13),(15,vI sp0_13),(16,.pointer (some ⟨blkOf Ap0_0,offOf Ap0_0+(sp0_13).toNat*3,none⟩)),(17,.agg #[vI e1.Op,vI e1.A,vI e1.B])]) ea (mach_Machine_Tick_p0 0 w0 bp0 lp0_0 Ap0_0 cp0_0 lp0_1 Ap0_1 cp0_1 lp0_2 Ap0_2 cp0_2 lp0_3 Ap0_3 cp0_3 lp0_4 Ap0_4 cp0_4 sp0_5 sp0_13 sp0_14 LT b1 hc1 hc2 e1 hx2 b2 _ hq4 _ hS25 _ ?_)
   rintro _ a w9 ⟨rfl,hS58,hF⟩
   replace hS58:St w0 w9 [Own.blk b2 (.cells #[vI e1.Op,vI e1.A,vI e1.B] 35 (0,0)),Own.blk bp0 (.cells #[(.slice Ap0_0 lp0_0.length cp0_0),(.slice Ap0_1 lp0_1.length cp0_1),(.slice Ap0_2 lp0_2.length cp0_2),(.slice Ap0_3 lp0_3.length cp0_3),(.slice Ap0_4 lp0_4.length cp0_4),vI ((sp0_5[0]?).getD 0),vI ((sp0_5[1]?).getD 0),vI ((sp0_5[2]?).getD 0),vI ((sp0_5[3]?).getD 0),vI ((sp0_5[4]?).getD 0),vI ((sp0_5[5]?).getD 0),vI ((sp0_5[6]?).getD 0),vI ((sp0_5[7]?).getD 0),vI sp0_13,vI z2] 61 (0,0)),Own.blk b1 (.cells #[vI 0,vI 0,vI 0] 35 (0,0)),Own.of (.slice Ap0_0 lp0_0.length cp0_0) 35 lp0_0,Own.of (.slice Ap0_1 lp0_1.length cp0_1) 3 lp0_1,Own.of (.slice Ap0_2 lp0_2.length cp0_2) 3 lp0_2,Own.of (.slice Ap0_3 lp0_3.length cp0_3) 43 lp0_3,Own.of (.slice Ap0_4 lp0_4.length cp0_4) 3 lp0_4,Own.all LT]:=hS58
   refine hK6 [(0,pP bp0 0),(2,pP b1 0),(4,pP b2 0)] w9 ?_ a hF
   refine ws fun K8 hK8=>wr [(0,0),(1,0),(2,0),(3,0),(4,0),(5,0),(6,0),(7,2)]<|gb [0,1,2,3,4,5,6] [(37,pP bp0 14),(36,pP bp0 0),(35,vI (IntKind.i64.wrap (z2-1))),(34,vI z2),(33,pP bp0 14),(32,pP bp0 0),(31,pP bp0 0)] [.loaded ⟨bp0,14,none⟩ (vI z2)] ⟨hS58.c 1,trivial⟩ ?_
   have hS59:=hS58.b 1
   refine gs bp0 14 #[(.slice Ap0_0 lp0_0.length cp0_0),(.slice Ap0_1 lp0_1.length cp0_1),(.slice Ap0_2 lp0_2.length cp0_2),(.slice Ap0_3 lp0_3.length cp0_3),(.slice Ap0_4 lp0_4.length cp0_4),vI ((sp0_5[0]?).getD 0),vI ((sp0_5[1]?).getD 0),vI ((sp0_5[2]?).getD 0),vI ((sp0_5[3]?).getD 0),vI ((sp0_5[4]?).getD 0),vI ((sp0_5[5]?).getD 0),vI ((sp0_5[6]?).getD 0),vI ((sp0_5[7]?).getD 0),vI sp0_13,vI z2] 61 [vI (IntKind.i64.wrap (z2-1))] hS59 fun w10 hS60=>?_
   have hS61:=hS60.nc #[(.slice Ap0_0 lp0_0.length cp0_0),(.slice Ap0_1 lp0_1.length cp0_1),(.slice Ap0_2 lp0_2.length cp0_2),(.slice Ap0_3 lp0_3.length cp0_3),(.slice Ap0_4 lp0_4.length cp0_4),vI ((sp0_5[0]?).getD 0),vI ((sp0_5[1]?).getD 0),vI ((sp0_5[2]?).getD 0),vI ((sp0_5[3]?).getD 0),vI ((sp0_5[4]?).getD 0),vI ((sp0_5[5]?).getD 0),vI ((sp0_5[6]?).getD 0),vI ((sp0_5[7]?).getD 0),vI sp0_13,vI (IntKind.i64.wrap (z2-1))] rfl
   refine gn hK8<|ws fun K9 hK9=>ws fun K10 hK10=>wr [(0,0),(1,0),(2,0),(3,0),(4,0)]<|gb [0,1,2,3,4] [(42,.bool (decide ((IntKind.i64.wrap (z2-1)) > 0))),(41,vI (IntKind.i64.wrap (z2-1))),(40,pP bp0 14),(39,pP bp0 0),(38,pP bp0 0)] [.loaded ⟨bp0,14,none⟩ (vI (IntKind.i64.wrap (z2-1)))] ⟨hS61.c 0,trivial⟩ ?_
   refine gn hK10 ?_
   by_cases hc4:(IntKind.i64.wrap (z2-1)) > 0
   ·rw [if_pos hc4] at h
    refine wk 42 (decide ((IntKind.i64.wrap (z2-1)) > 0)) true (decide_eq_true hc4) ?_
    refine we_true (by kernel_rfl) ?_
    refine ws fun K11 hK11=>wr [(0,0),(1,2),(2,0)]<|gb [0] [(43,.agg #[vI e1.Op,vI e1.A,vI e1.B])] [.loaded ⟨b2,0,none⟩ (vI e1.Op),.loaded ⟨b2,1,none⟩ (vI e1.A),.loaded ⟨b2,2,none⟩ (vI e1.B)] ⟨hS61.c 1,hS61.c 1,hS61.c 1,trivial⟩ ?_
    have hS62:=hS61.b 2
    refine gs b1 0 #[vI 0,vI 0,vI 0] 35 [vI e1.Op,vI e1.A,vI e1.B] hS62 fun w11 hS63=>?_
    have hS64:=hS63.nc #[vI e1.Op,vI e1.A,vI e1.B] rfl
    refine gb0 [2] [(3,.bool false)] ?_
    refine gn hK11 ?_
    have hS72:=(((((((hS64.b 8).b 8).b 8).b 8).b 8).b 8).b 7).takeN 7
    obtain rfl:=si h
    exact we_ret (pr [.cell 2 35,.tmp 3] [.agg #[vI e1.Op,vI e1.A,vI e1.B],.bool false] [.loaded ⟨b1,0,none⟩ (vI e1.Op),.loaded ⟨b1,1,none⟩ (vI e1.A),.loaded ⟨b1,2,none⟩ (vI e1.B)] ⟨hS64.c 0,hS64.c 0,hS64.c 0,trivial⟩ ⟨(.slice Ap0_2 lp0_2.length cp0_2),(.slice Ap0_3 lp0_3.length cp0_3),(.slice Ap0_4 lp0_4.length cp0_4),rfl,hS72⟩)
   rw [if_neg hc4] at h
   refine wk 42 (decide ((IntKind.i64.wrap (z2-1)) > 0)) false (decide_eq_false hc4) ?_
   refine we_false (by kernel_rfl) ?_
   refine we_skip fun a hF=>hK9 _ _ ?_ a hF
   refine ws fun K12 hK12=>wr [(0,0),(1,0),(2,0),(3,2),(4,0),(5,0),(6,2)]<|gb [0,1,2] [(46,.agg #[vI e1.Op,vI e1.A,vI e1.B]),(45,pP bp0 0),(44,pP bp0 0)] [.loaded ⟨b2,0,none⟩ (vI e1.Op),.loaded ⟨b2,1,none⟩ (vI e1.A),.loaded ⟨b2,2,none⟩ (vI e1.B)] ⟨hS61.c 1,hS61.c 1,hS61.c 1,trivial⟩ ?_
   rcases hq5:mach_Machine_do.f lp0_0 lp0_1 lp0_2 lp0_3 lp0_4 sp0_5 sp0_13 (IntKind.i64.wrap (z2-1)) e1 with _ | r2
   ·rw [hq5] at h; cases h
   rw [hq5] at h
   simp only [] at h
   have hS80:=((((((hS61.b 7).b 7).b 7).b 7).b 7).b 5).packN 6
   refine ge_call2 (m:=0) (d:=some 47) (f:=35) (args:=#[pP bp0 0,.agg #[vI e1.Op,vI e1.A,vI e1.B]]) (by kernel_rfl) (mach_Machine_do_ok bp0 lp0_0 Ap0_0 cp0_0 lp0_1 Ap0_1 cp0_1 lp0_2 Ap0_2 cp0_2 lp0_3 Ap0_3 cp0_3 lp0_4 Ap0_4 cp0_4 sp0_5 sp0_13 (IntKind.i64.wrap (z2-1)) e1 _ _ _ hS80 _ hq5) ?_
   rintro _ w12 ⟨v1,v2,v3,rfl,hS79⟩
   refine ⟨_,rfl,?_⟩
   have hS81:=hS79.unpack [Own.blk bp0 (.cells #[(.slice Ap0_0 lp0_0.length cp0_0),(.slice Ap0_1 lp0_1.length cp0_1),v1,v2,v3,vI ((r2.2.2.2.2[0]?).getD 0),vI ((r2.2.2.2.2[1]?).getD 0),vI ((r2.2.2.2.2[2]?).getD 0),vI ((r2.2.2.2.2[3]?).getD 0),vI ((r2.2.2.2.2[4]?).getD 0),vI ((r2.2.2.2.2[5]?).getD 0),vI ((r2.2.2.2.2[6]?).getD 0),vI ((r2.2.2.2.2[7]?).getD 0),vI sp0_13,vI (IntKind.i64.wrap (z2-1))] 61 (0,0)),Own.of (.slice Ap0_0 lp0_0.length cp0_0) 35 lp0_0,Own.of (.slice Ap0_1 lp0_1.length cp0_1) 3 lp0_1,Own.of v1 3 r2.2.1,Own.of v2 43 r2.2.2.1,Own.of v3 3 r2.2.2.2.1]
   refine gb0 [4,5] [(49,pP bp0 13),(48,pP bp0 0)] ?_
   refine gs bp0 13 #[(.slice Ap0_0 lp0_0.length cp0_0),(.slice Ap0_1 lp0_1.length cp0_1),v1,v2,v3,vI ((r2.2.2.2.2[0]?).getD 0),vI ((r2.2.2.2.2[1]?).getD 0),vI ((r2.2.2.2.2[2]?).getD 0),vI ((r2.2.2.2.2[3]?).getD 0),vI ((r2.2.2.2.2[4]?).getD 0),vI ((r2.2.2.2.2[5]?).getD 0),vI ((r2.2.2.2.2[6]?).getD 0),vI ((r2.2.2.2.2[7]?).getD 0),vI sp0_13,vI (IntKind.i64.wrap (z2-1))] 61 [vI r2.1] hS81 fun w13 hS82=>?_
   have hS83:=hS82.nc #[(.slice Ap0_0 lp0_0.length cp0_0),(.slice Ap0_1 lp0_1.length cp0_1),v1,v2,v3,vI ((r2.2.2.2.2[0]?).getD 0),vI ((r2.2.2.2.2[1]?).getD 0),vI ((r2.2.2.2.2[2]?).getD 0),vI ((r2.2.2.2.2[3]?).getD 0),vI ((r2.2.2.2.2[4]?).getD 0),vI ((r2.2.2.2.2[5]?).getD 0),vI ((r2.2.2.2.2[6]?).getD 0),vI ((r2.2.2.2.2[7]?).getD 0),vI r2.1,vI (IntKind.i64.wrap (z2-1))] rfl
   refine gn hK12<|ws fun K13 hK13=>wr [(0,0),(1,2),(2,0)]<|gb [0] [(50,.agg #[vI e1.Op,vI e1.A,vI e1.B])] [.loaded ⟨b2,0,none⟩ (vI e1.Op),.loaded ⟨b2,1,none⟩ (vI e1.A),.loaded ⟨b2,2,none⟩ (vI e1.B)] ⟨hS83.c 6,hS83.c 6,hS83.c 6,trivial⟩ ?_
   have hS84:=hS83.b 7
   refine gs b1 0 #[vI 0,vI 0,vI 0] 35 [vI e1.Op,vI e1.A,vI e1.B] hS84 fun w14 hS85=>?_
   have hS86:=hS85.nc #[vI e1.Op,vI e1.A,vI e1.B] rfl
   refine gb0 [2] [(3,.bool true)] ?_
   refine gn hK13 ?_
   have hS94:=(((((((hS86.b 8).b 7).b 7).b 7).b 7).b 7).b 7).takeN 7
   obtain rfl:=si h
   exact we_ret (pr [.cell 2 35,.tmp 3] [.agg #[vI e1.Op,vI e1.A,vI e1.B],.bool true] [.loaded ⟨b1,0,none⟩ (vI e1.Op),.loaded ⟨b1,1,none⟩ (vI e1.A),.loaded ⟨b1,2,none⟩ (vI e1.B)] ⟨hS86.c 0,hS86.c 0,hS86.c 0,trivial⟩ ⟨v1,v2,v3,rfl,hS94⟩)
  rw [hq4] at h
  simp only [] at h
  refine we_keep (e':=[(0,pP bp0 0),(2,pP b1 0),(3,.bool false),(4,pP b2 0),(5,pP bp0 0),(6,.bool false),(8,pP bp0 0),(9,pP bp0 0),(10,pP bp0 0),(11,(.slice Ap0_0 lp0_0.length cp0_0)),(12,pP bp0 0),(13,pP bp0 0),(14,pP bp0 13),(15,vI sp0_13),(16,.pointer (some ⟨blkOf Ap0_0,offOf Ap0_0+(sp0_13).toNat*3,none⟩)),(17,.agg #[vI e1.Op,vI e1.A,vI e1.B])]) ea (mach_Machine_Tick_p0 0 w0 bp0 lp0_0 Ap0_0 cp0_0 lp0_1 Ap0_1 cp0_1 lp0_2 Ap0_2 cp0_2 lp0_3 Ap0_3 cp0_3 lp0_4 Ap0_4 cp0_4 sp0_5 sp0_13 sp0_14 LT b1 hc1 hc2 e1 hx2 b2 _ hq4 _ hS25 _ ?_)
  rintro _ a w1 ⟨_,rfl,hb⟩
  obtain rfl:=si h
  exact hb
 rw [if_neg hc2] at h
 cases h

structure SEnded where
 Vars:List Int
 Puts:List SPut
 Steps:Int

/-! punctual/mach.Run -/
abbrev mach_Run.Post (w0:World) (r:SEnded×SFault) (e:Ending) (w:World):Prop:=∃ (v0:Value) (v1:Value),e=.returned (.tuple #[.agg #[v0,v1,vI r.1.Steps],.agg #[vI r.2.Code,vI r.2.At]])∧St w0 w [Own.of v0 3 r.1.Vars,Own.of v1 43 r.1.Puts]
def mach_Run.r0 : Int × Int → Option ((Int × Int) ⊕ (Int ⊕ (SEnded × SFault)))
 | (z1,z2) =>
  none
def mach_Run.p1 (r1 : (Option PMachine) × SFault) : Option ((Int × Int × (List Int) × (List SPut) × Int) ⊕ (SEnded × SFault)) :=
  some (.inl (r1.2.Code,r1.2.At,([]:List Int),([]:List SPut),0))
def mach_Run.p3 (z13 : Int) : Option ((Int × Int × (List Int) × (List SPut) × Int) ⊕ (SEnded × SFault)) :=
  some (.inl (11,z13,([]:List Int),([]:List SPut),0))
def mach_Run.r2 (px1 : PMachine) : Int × Int × (List Int) × (List SPut) × (List Int) × (List Int) × Int × Int → Option ((Int × Int × (List Int) × (List SPut) × (List Int) × (List Int) × Int × Int) ⊕ ((Int × (List Int) × (List SPut) × (List Int) × (List Int) × Int × Int) ⊕ (SEnded × SFault)))
 | (z11,z12,m5,m6,m7,m8,z13,z14) =>
  if (mach_Machine_Done.f px1.m_image px1.m_in_ m5 m6 m7 m8 z13 z14)=true then
   some (.inr (.inl (z11,m5,m6,m7,m8,z13,z14)))
  else
   if z12=20000 then
    match mach_Run.p3 z13 with
    | none=>none
    | some (.inl (z21,z22,m15,m16,z23)) =>
     some (.inr (.inr ((⟨m15,m16,z23⟩:SEnded),(⟨z21,z22⟩:SFault))))
    | some (.inr rr3) =>
     some (.inr (.inr rr3))
   else
    match mach_Machine_Tick.f px1.m_image px1.m_in_ m5 m6 m7 m8 z13 z14 with
    | none=>none
    | some r2 =>
     if r2.2.1=true then
      some (.inl (IntKind.i64.wrap (z11+1),IntKind.i64.wrap (z12+1),r2.2.2.1,r2.2.2.2.1,r2.2.2.2.2.1,r2.2.2.2.2.2.1,r2.2.2.2.2.2.2.1,r2.2.2.2.2.2.2.2))
     else
      some (.inl (IntKind.i64.wrap (z11+1),z12,r2.2.2.1,r2.2.2.2.1,r2.2.2.2.2.1,r2.2.2.2.2.2.1,r2.2.2.2.2.2.2.1,r2.2.2.2.2.2.2.2))
def mach_Run.p4 (r1 : (Option PMachine) × SFault) : Option ((Int × Int × (List Int) × (List SPut) × Int) ⊕ (SEnded × SFault)) :=
  some (.inl (r1.2.Code,r1.2.At,([]:List Int),([]:List SPut),0))
def mach_Run.f (K : Nat) (l0 : List SIns) (l1 : List Int) (l2 : List Int) : Option (SEnded × SFault) :=
 match mach_New.f K l0 l1 l2 with
 | none=>none
 | some r1 =>
  match r1.1 with
  | none =>
   if r1.2.Code=0 then
    match iter (mach_Run.r0) K (0,0) with
    | none=>none
    | some (.inl z4) =>
     none
    | some (.inr rr1) =>
     some rr1
   else
    match mach_Run.p1 r1 with
    | none=>none
    | some (.inl (z8,z9,m3,m4,z10)) =>
     some ((⟨m3,m4,z10⟩:SEnded),(⟨z8,z9⟩:SFault))
    | some (.inr rr2) =>
     some rr2
  | some px1 =>
   if r1.2.Code=0 then
    match iter (mach_Run.r2 px1) K (0,0,px1.m_vars,px1.m_puts,px1.m_stack,px1.m_count,px1.m_at_,px1.m_left) with
    | none=>none
    | some (.inl (z24,m17,m18,m19,m20,z25,z26)) =>
     some ((⟨m17,m18,z24⟩:SEnded),(⟨0,0⟩:SFault))
    | some (.inr rr4) =>
     some rr4
   else
    match mach_Run.p4 r1 with
    | none=>none
    | some (.inl (z30,z31,m23,m24,z32)) =>
     some ((⟨m23,m24,z32⟩:SEnded),(⟨z30,z31⟩:SFault))
    | some (.inr rr5) =>
     some rr5
abbrev mach_Run.A0 (w0:World) (b1:Nat) (b2:Nat):(Int×Int)→Act→World→Prop:=fun (s:Int×Int) a w=>St w0 w [Own.blk b2 (.cells #[vI 0,vI 0] 30 (0,0)),Own.blk b1 (.cells #[.slice none 0 0,.slice none 0 0,vI 0] 27 (0,0))]∧Frm 58 a [(6,pP b1 0),(7,pP b2 0),(8,.pointer none),(10,vI s.1),(11,vI s.2)]
abbrev mach_Run.B0 (w0:World) (b1:Nat) (b2:Nat):(Int ⊕ (SEnded×SFault))→Exit→Act→World→Prop:=Exits 0 (fun (s:Int) a w=>St w0 w [Own.blk b2 (.cells #[vI 0,vI 0] 30 (0,0)),Own.blk b1 (.cells #[.slice none 0 0,.slice none 0 0,vI 0] 27 (0,0))]∧Frm 58 a [(6,pP b1 0),(7,pP b2 0),(8,.pointer none),(10,vI s)]) (Rets Tryd.prog Tryd.f8 (mach_Run.Post w0))
theorem mach_Run_r0 (K:Nat) (w0:World) (l0:List SIns) (A0:Option Addr) (c0:Nat) (l1:List Int) (A1:Option Addr) (c1:Nat) (l2:List Int) (A2:Option Addr) (c2:Nat) (hR0:RdL w0 A0 l0) (hL0:l0.length≤c0) (hR1:RdL w0 A1 l1) (hL1:l1.length≤c1) (hR2:RdL w0 A2 l2) (hL2:l2.length≤c2) (b1:Nat) (b2:Nat) (r1:(Option PMachine)×SFault) (b3:Nat) (hc1:r1.2.Code=0) (s:Int×Int) (o:(Int×Int) ⊕ (Int ⊕ (SEnded×SFault))) (h:mach_Run.r0 s=some o) (a:Act) (w:World) (hA:mach_Run.A0 w0 b1 b2 s a w) (Q:Exit→Act→World→Prop) (hQ:∀ x a w,Outs (mach_Run.A0 w0 b1 b2) (mach_Run.B0 w0 b1 b2) o x a w→Q x a w):(subF Tryd.f8 [1,1,1,1,0,1,0,0]).wp Tryd.prog Q a w:=by
 obtain ⟨z1,z2⟩:=s
 obtain ⟨hS,hF⟩:=hA
 replace hS:St w0 w [Own.blk b2 (.cells #[vI 0,vI 0] 30 (0,0)),Own.blk b1 (.cells #[.slice none 0 0,.slice none 0 0,vI 0] 27 (0,0))]:=hS
 simp only [mach_Run.r0] at h
 refine (?_:WE Tryd.prog 58 (subF Tryd.f8 [1,1,1,1,0,1,0,0]) Q [(6,pP b1 0),(7,pP b2 0),(8,.pointer none),(10,vI z1),(11,vI z2)] w) a hF
 clear hF a
 refine ws fun K8 hK8=>ws fun K9 hK9=>wr [(0,0),(1,2),(2,0)]<|gb0 [0] [(26,.pointer none)] ?_
 cases h
abbrev mach_Run.A1 (w0:World) (b1:Nat) (b2:Nat):(Int×Int×(List Int)×(List SPut)×Int)→Act→World→Prop:=fun (s:Int×Int×(List Int)×(List SPut)×Int) a w=>∃ (v1:Value) (v2:Value),St w0 w [Own.blk b2 (.cells #[vI s.1,vI s.2.1] 30 (0,0)),Own.blk b1 (.cells #[v1,v2,vI s.2.2.2.2] 27 (0,0)),Own.of v1 3 s.2.2.1,Own.of v2 43 s.2.2.2.1]∧Frm 58 a [(6,pP b1 0),(7,pP b2 0)]
abbrev mach_Run.B1 (w0:World):(SEnded×SFault)→Exit→Act→World→Prop:=Rets Tryd.prog Tryd.f8 (mach_Run.Post w0)
theorem mach_Run_p1 (K:Nat) (w0:World) (l0:List SIns) (A0:Option Addr) (c0:Nat) (l1:List Int) (A1:Option Addr) (c1:Nat) (l2:List Int) (A2:Option Addr) (c2:Nat) (hR0:RdL w0 A0 l0) (hL0:l0.length≤c0) (hR1:RdL w0 A1 l1) (hL1:l1.length≤c1) (hR2:RdL w0 A2 l2) (hL2:l2.length≤c2) (b1:Nat) (b2:Nat) (r1:(Option PMachine)×SFault) (b3:Nat) (hc1:¬ (r1.2.Code=0)) (o:(Int×Int×(List Int)×(List SPut)×Int) ⊕ (SEnded×SFault)) (h:mach_Run.p1 r1=some o) (w:World) (hS:St w0 w [Own.blk b3 (.cells #[vI r1.2.Code,vI r1.2.At] 30 (0,0)),Own.blk b2 (.cells #[vI 0,vI 0] 30 (0,0)),Own.blk b1 (.cells #[.slice none 0 0,.slice none 0 0,vI 0] 27 (0,0))]) (Q:Exit→Act→World→Prop) (hQ:∀ x a w,Outs (mach_Run.A1 w0 b1 b2) (mach_Run.B1 w0) o x a w→Q x a w):WE Tryd.prog 58 (subF Tryd.f8 [1,1,0,1,0,0]) Q [(0,.slice A0 l0.length c0),(1,.slice A1 l1.length c1),(2,.slice A2 l2.length c2),(6,pP b1 0),(7,pP b2 0),(8,.pointer none),(9,pP b3 0),(14,.tuple #[.pointer none,.agg #[vI r1.2.Code,vI r1.2.At]]),(15,.slice A0 l0.length c0),(16,.slice A1 l1.length c1),(17,.slice A2 l2.length c2),(18,.tuple #[.pointer none,.agg #[vI r1.2.Code,vI r1.2.At]]),(19,.pointer none),(20,.agg #[vI r1.2.Code,vI r1.2.At]),(21,pP b3 0),(22,vI r1.2.Code),(23,.bool true)] w:=by
 simp only [mach_Run.p1] at h
 refine we_orders3 (by kernel_rfl) [(1,[⟨b3,0,none⟩,⟨b3,1,none⟩],[],[])] (.vals [0] (.vals [1] (.alt 2 2 (.alt 3 2 .fin .nomore) .nomore))) (by kernel_rfl) (by kernel_rfl) ?_
 have hS13:=hS.drew
 refine g30 [0] [(24,.agg #[.slice none 0 0,.slice none 0 0,vI 0])] ?_
 refine g3 1 [(25,.agg #[vI r1.2.Code,vI r1.2.At])] [.loaded ⟨b3,0,none⟩ (vI r1.2.Code),.loaded ⟨b3,1,none⟩ (vI r1.2.At)] ⟨hS13.c 0,hS13.c 0,trivial⟩ ?_
 refine go_alt3 (fun KK hKK=>?_) ?_
 ·have hS14:=hS13.b 2
  refine gs b1 0 #[.slice none 0 0,.slice none 0 0,vI 0] 27 [.slice none 0 0,.slice none 0 0,vI 0] hS14 fun w7 hS15=>?_
  have hS16:=hS15.nc #[.slice none 0 0,.slice none 0 0,vI 0] rfl
  refine ge_nil fun a hF=>hKK _ _ (RS.of2 (l:=[.loaded ⟨b3,0,none⟩ (vI r1.2.Code),.loaded ⟨b3,1,none⟩ (vI r1.2.At)]) (by kernel_rfl) ⟨hS13.c 0,hS13.c 0,trivial⟩ ⟨hS16.c 1,hS16.c 1,trivial⟩) ?_ a hF
  refine go_alt3 (fun KK hKK=>?_) ?_
  ·have hS17:=hS16.b 2
   refine gs b2 0 #[vI 0,vI 0] 30 [vI r1.2.Code,vI r1.2.At] hS17 fun w8 hS18=>?_
   have hS19:=hS18.nc #[vI r1.2.Code,vI r1.2.At] rfl
   refine g2 hKK ?_
   have hS20:=hS19.nil (α:=Int) 3
   have hS25:=((((hS20.nil (α:=SPut) 43).b 1).b 3).b 3).takeN 4
   obtain rfl:=si h
   exact go_fin3 fun a hF=>hQ _ _ _ (Outs.again ⟨(.slice none 0 0),(.slice none 0 0),hS25,hF.weaken ea⟩)
  exact go_nomore3
 exact go_nomore3
abbrev mach_Run.A3 (w0:World) (b1:Nat) (b2:Nat):(Int×Int×(List Int)×(List SPut)×Int)→Act→World→Prop:=fun (s:Int×Int×(List Int)×(List SPut)×Int) a w=>∃ (v11:Value) (v12:Value),St w0 w [Own.blk b2 (.cells #[vI s.1,vI s.2.1] 30 (0,0)),Own.blk b1 (.cells #[v11,v12,vI s.2.2.2.2] 27 (0,0)),Own.of v11 3 s.2.2.1,Own.of v12 43 s.2.2.2.1]∧Frm 58 a [(6,pP b1 0),(7,pP b2 0)]
abbrev mach_Run.B3 (w0:World):(SEnded×SFault)→Exit→Act→World→Prop:=Rets Tryd.prog Tryd.f8 (mach_Run.Post w0)
theorem mach_Run_p3 (K:Nat) (w0:World) (l0:List SIns) (A0:Option Addr) (c0:Nat) (l1:List Int) (A1:Option Addr) (c1:Nat) (l2:List Int) (A2:Option Addr) (c2:Nat) (hR0:RdL w0 A0 l0) (hL0:l0.length≤c0) (hR1:RdL w0 A1 l1) (hL1:l1.length≤c1) (hR2:RdL w0 A2 l2) (hL2:l2.length≤c2) (b1:Nat) (b2:Nat) (r1:(Option PMachine)×SFault) (px1:PMachine) (pb1:Nat) (b4:Nat) (hc2:r1.2.Code=0) (Z1:Option Addr) (cz1:Nat) (Z2:Option Addr) (cz2:Nat) (Z3:Option Addr) (cz3:Nat) (Z4:Option Addr) (cz4:Nat) (Z5:Option Addr) (cz5:Nat) (z11:Int) (z12:Int) (m5:List Int) (m6:List SPut) (m7:List Int) (m8:List Int) (z13:Int) (z14:Int) (Z6:Option Addr) (cz6:Nat) (Z7:Option Addr) (cz7:Nat) (Z8:Option Addr) (cz8:Nat) (hc3:¬ ((mach_Machine_Done.f px1.m_image px1.m_in_ m5 m6 m7 m8 z13 z14)=true)) (hc4:z12=20000) (o:(Int×Int×(List Int)×(List SPut)×Int) ⊕ (SEnded×SFault)) (h:mach_Run.p3 z13=some o) (w:World) (hS:St w0 w [Own.blk pb1 (.cells #[(.slice Z1 px1.m_image.length cz1),(.slice Z2 px1.m_in_.length cz2),(.slice Z6 m5.length cz6),(.slice Z7 m6.length cz7),(.slice Z8 m7.length cz8),vI ((m8[0]?).getD 0),vI ((m8[1]?).getD 0),vI ((m8[2]?).getD 0),vI ((m8[3]?).getD 0),vI ((m8[4]?).getD 0),vI ((m8[5]?).getD 0),vI ((m8[6]?).getD 0),vI ((m8[7]?).getD 0),vI z13,vI z14] 61 (0,0)),Own.of (.slice Z1 px1.m_image.length cz1) 35 px1.m_image,Own.of (.slice Z2 px1.m_in_.length cz2) 3 px1.m_in_,Own.of (.slice Z6 m5.length cz6) 3 m5,Own.of (.slice Z7 m6.length cz7) 43 m6,Own.of (.slice Z8 m7.length cz8) 3 m7,Own.blk b2 (.cells #[vI 0,vI 0] 30 (0,0)),Own.blk b1 (.cells #[.slice none 0 0,.slice none 0 0,vI 0] 27 (0,0))]) (Q:Exit→Act→World→Prop) (hQ:∀ x a w,Outs (mach_Run.A3 w0 b1 b2) (mach_Run.B3 w0) o x a w→Q x a w):WE Tryd.prog 58 (subF Tryd.f8 [1,1,1,1,0,1,0,0,1,0,0,1,0,0]) Q [(6,pP b1 0),(7,pP b2 0),(8,pP pb1 0),(10,vI z11),(11,vI z12),(26,pP pb1 0),(27,.bool (mach_Machine_Done.f px1.m_image px1.m_in_ m5 m6 m7 m8 z13 z14)),(28,.bool true),(29,vI z12),(30,.bool true)] w:=by
 simp only [mach_Run.p3] at h
 refine we_orders3 (by kernel_rfl) [(4,[⟨pb1,13,none⟩],[],[])] (.vals [0] (.vals [1] (.vals [2] (.vals [3] (.vals [4] (.vals [5] (.alt 6 2 (.alt 7 2 .fin .nomore) .nomore))))))) (by kernel_rfl) (by kernel_rfl) ?_
 have hS61:=hS.drew
 refine g30 [0,1,2,3] [(34,pP pb1 13),(33,pP pb1 0),(32,pP pb1 0),(31,.agg #[.slice none 0 0,.slice none 0 0,vI 0])] ?_
 refine g3 4 [(35,vI z13)] [.loaded ⟨pb1,13,none⟩ (vI z13)] ⟨hS61.c 0,trivial⟩ ?_
 refine g30 [5] [(36,.agg #[vI 11,vI z13])] ?_
 refine go_alt3 (fun KK hKK=>?_) ?_
 ·have hS62:=hS61.b 7
  refine gs b1 0 #[.slice none 0 0,.slice none 0 0,vI 0] 27 [.slice none 0 0,.slice none 0 0,vI 0] hS62 fun w13 hS63=>?_
  have hS64:=hS63.nc #[.slice none 0 0,.slice none 0 0,vI 0] rfl
  refine ge_nil fun a hF=>hKK _ _ (RS.of2 (l:=[.loaded ⟨pb1,13,none⟩ (vI z13)]) (by kernel_rfl) ⟨hS61.c 0,trivial⟩ ⟨hS64.c 1,trivial⟩) ?_ a hF
  refine go_alt3 (fun KK hKK=>?_) ?_
  ·have hS65:=hS64.b 7
   refine gs b2 0 #[vI 0,vI 0] 30 [vI 11,vI z13] hS65 fun w14 hS66=>?_
   have hS67:=hS66.nc #[vI 11,vI z13] rfl
   refine g2 hKK ?_
   have hS68:=hS67.nil (α:=Int) 3
   have hS73:=((((hS68.nil (α:=SPut) 43).b 1).b 3).b 3).takeN 4
   obtain rfl:=si h
   exact go_fin3 fun a hF=>hQ _ _ _ (Outs.again ⟨(.slice none 0 0),(.slice none 0 0),hS73,hF.weaken ea⟩)
  exact go_nomore3
 exact go_nomore3
abbrev mach_Run.A2 (w0:World) (b1:Nat) (b2:Nat) (px1:PMachine) (pb1:Nat) (Z1:Option Addr) (cz1:Nat) (Z2:Option Addr) (cz2:Nat):(Int×Int×(List Int)×(List SPut)×(List Int)×(List Int)×Int×Int)→Act→World→Prop:=fun (s:Int×Int×(List Int)×(List SPut)×(List Int)×(List Int)×Int×Int) a w=>∃ (v5:Value) (v6:Value) (v7:Value),St w0 w [Own.blk pb1 (.cells #[(.slice Z1 px1.m_image.length cz1),(.slice Z2 px1.m_in_.length cz2),v5,v6,v7,vI ((s.2.2.2.2.2.1[0]?).getD 0),vI ((s.2.2.2.2.2.1[1]?).getD 0),vI ((s.2.2.2.2.2.1[2]?).getD 0),vI ((s.2.2.2.2.2.1[3]?).getD 0),vI ((s.2.2.2.2.2.1[4]?).getD 0),vI ((s.2.2.2.2.2.1[5]?).getD 0),vI ((s.2.2.2.2.2.1[6]?).getD 0),vI ((s.2.2.2.2.2.1[7]?).getD 0),vI s.2.2.2.2.2.2.1,vI s.2.2.2.2.2.2.2] 61 (0,0)),Own.blk b2 (.cells #[vI 0,vI 0] 30 (0,0)),Own.blk b1 (.cells #[.slice none 0 0,.slice none 0 0,vI 0] 27 (0,0)),Own.of (.slice Z1 px1.m_image.length cz1) 35 px1.m_image,Own.of (.slice Z2 px1.m_in_.length cz2) 3 px1.m_in_,Own.of v5 3 s.2.2.1,Own.of v6 43 s.2.2.2.1,Own.of v7 3 s.2.2.2.2.1]∧Frm 58 a [(6,pP b1 0),(7,pP b2 0),(8,pP pb1 0),(10,vI s.1),(11,vI s.2.1)]
abbrev mach_Run.B2 (w0:World) (b1:Nat) (b2:Nat) (px1:PMachine) (pb1:Nat) (Z1:Option Addr) (cz1:Nat) (Z2:Option Addr) (cz2:Nat):((Int×(List Int)×(List SPut)×(List Int)×(List Int)×Int×Int) ⊕ (SEnded×SFault))→Exit→Act→World→Prop:=Exits 0 (fun (s:Int×(List Int)×(List SPut)×(List Int)×(List Int)×Int×Int) a w=>∃ (v8:Value) (v9:Value) (v10:Value),St w0 w [Own.blk pb1 (.cells #[(.slice Z1 px1.m_image.length cz1),(.slice Z2 px1.m_in_.length cz2),v8,v9,v10,vI ((s.2.2.2.2.1[0]?).getD 0),vI ((s.2.2.2.2.1[1]?).getD 0),vI ((s.2.2.2.2.1[2]?).getD 0),vI ((s.2.2.2.2.1[3]?).getD 0),vI ((s.2.2.2.2.1[4]?).getD 0),vI ((s.2.2.2.2.1[5]?).getD 0),vI ((s.2.2.2.2.1[6]?).getD 0),vI ((s.2.2.2.2.1[7]?).getD 0),vI s.2.2.2.2.2.1,vI s.2.2.2.2.2.2] 61 (0,0)),Own.blk b2 (.cells #[vI 0,vI 0] 30 (0,0)),Own.blk b1 (.cells #[.slice none 0 0,.slice none 0 0,vI 0] 27 (0,0)),Own.of (.slice Z1 px1.m_image.length cz1) 35 px1.m_image,Own.of (.slice Z2 px1.m_in_.length cz2) 3 px1.m_in_,Own.of v8 3 s.2.1,Own.of v9 43 s.2.2.1,Own.of v10 3 s.2.2.2.1]∧Frm 58 a [(6,pP b1 0),(7,pP b2 0),(8,pP pb1 0),(10,vI s.1)]) (Rets Tryd.prog Tryd.f8 (mach_Run.Post w0))
theorem mach_Run_r2 (K:Nat) (w0:World) (l0:List SIns) (A0:Option Addr) (c0:Nat) (l1:List Int) (A1:Option Addr) (c1:Nat) (l2:List Int) (A2:Option Addr) (c2:Nat) (hR0:RdL w0 A0 l0) (hL0:l0.length≤c0) (hR1:RdL w0 A1 l1) (hL1:l1.length≤c1) (hR2:RdL w0 A2 l2) (hL2:l2.length≤c2) (b1:Nat) (b2:Nat) (r1:(Option PMachine)×SFault) (px1:PMachine) (pb1:Nat) (b4:Nat) (hc2:r1.2.Code=0) (Z1:Option Addr) (cz1:Nat) (Z2:Option Addr) (cz2:Nat) (Z3:Option Addr) (cz3:Nat) (Z4:Option Addr) (cz4:Nat) (Z5:Option Addr) (cz5:Nat) (s:Int×Int×(List Int)×(List SPut)×(List Int)×(List Int)×Int×Int) (o:(Int×Int×(List Int)×(List SPut)×(List Int)×(List Int)×Int×Int) ⊕ ((Int×(List Int)×(List SPut)×(List Int)×(List Int)×Int×Int) ⊕ (SEnded×SFault))) (h:mach_Run.r2 px1 s=some o) (a:Act) (w:World) (hA:mach_Run.A2 w0 b1 b2 px1 pb1 Z1 cz1 Z2 cz2 s a w) (Q:Exit→Act→World→Prop) (hQ:∀ x a w,Outs (mach_Run.A2 w0 b1 b2 px1 pb1 Z1 cz1 Z2 cz2) (mach_Run.B2 w0 b1 b2 px1 pb1 Z1 cz1 Z2 cz2) o x a w→Q x a w):(subF Tryd.f8 [1,1,1,1,0,1,0,0]).wp Tryd.prog Q a w:=by
 obtain ⟨z11,z12,m5,m6,m7,m8,z13,z14⟩:=s
 obtain ⟨v5,v6,v7,hS,hF⟩:=hA
 replace hS:St w0 w [Own.blk pb1 (.cells #[(.slice Z1 px1.m_image.length cz1),(.slice Z2 px1.m_in_.length cz2),v5,v6,v7,vI ((m8[0]?).getD 0),vI ((m8[1]?).getD 0),vI ((m8[2]?).getD 0),vI ((m8[3]?).getD 0),vI ((m8[4]?).getD 0),vI ((m8[5]?).getD 0),vI ((m8[6]?).getD 0),vI ((m8[7]?).getD 0),vI z13,vI z14] 61 (0,0)),Own.blk b2 (.cells #[vI 0,vI 0] 30 (0,0)),Own.blk b1 (.cells #[.slice none 0 0,.slice none 0 0,vI 0] 27 (0,0)),Own.of (.slice Z1 px1.m_image.length cz1) 35 px1.m_image,Own.of (.slice Z2 px1.m_in_.length cz2) 3 px1.m_in_,Own.of v5 3 m5,Own.of v6 43 m6,Own.of v7 3 m7]:=hS
 simp only [mach_Run.r2] at h
 refine (?_:WE Tryd.prog 58 (subF Tryd.f8 [1,1,1,1,0,1,0,0]) Q [(6,pP b1 0),(7,pP b2 0),(8,pP pb1 0),(10,vI z11),(11,vI z12)] w) a hF
 clear hF a
 refine ws fun K17 hK17=>ws fun K18 hK18=>wr [(0,0),(1,2),(2,0)]<|gb0 [0] [(26,pP pb1 0)] ?_
 obtain ⟨Z6,cz6,rfl⟩:=hS.open 5 rfl
 obtain ⟨Z7,cz7,rfl⟩:=hS.open 6 rfl
 obtain ⟨Z8,cz8,rfl⟩:=hS.open 7 rfl
 have hS51:=((((((hS.b 7).b 7).b 7).b 7).b 7).b 5).packN 6
 refine ge_call2 (m:=0) (d:=some 27) (f:=20) (args:=#[pP pb1 0]) (by kernel_rfl) (mach_Machine_Done_ok pb1 px1.m_image Z1 cz1 px1.m_in_ Z2 cz2 m5 Z6 cz6 m6 Z7 cz7 m7 Z8 cz8 m8 z13 z14 _ _ _ hS51 _ rfl) ?_
 rintro _ w12 ⟨rfl,hS50⟩
 refine ⟨_,rfl,?_⟩
 have hS52:=hS50.unpack [Own.blk pb1 (.cells #[(.slice Z1 px1.m_image.length cz1),(.slice Z2 px1.m_in_.length cz2),(.slice Z6 m5.length cz6),(.slice Z7 m6.length cz7),(.slice Z8 m7.length cz8),vI ((m8[0]?).getD 0),vI ((m8[1]?).getD 0),vI ((m8[2]?).getD 0),vI ((m8[3]?).getD 0),vI ((m8[4]?).getD 0),vI ((m8[5]?).getD 0),vI ((m8[6]?).getD 0),vI ((m8[7]?).getD 0),vI z13,vI z14] 61 (0,0)),Own.of (.slice Z1 px1.m_image.length cz1) 35 px1.m_image,Own.of (.slice Z2 px1.m_in_.length cz2) 3 px1.m_in_,Own.of (.slice Z6 m5.length cz6) 3 m5,Own.of (.slice Z7 m6.length cz7) 43 m6,Own.of (.slice Z8 m7.length cz8) 3 m7]
 refine gb0 [2] [(28,.bool (!(mach_Machine_Done.f px1.m_image px1.m_in_ m5 m6 m7 m8 z13 z14)))] ?_
 refine gn hK18 ?_
 by_cases hc3:(mach_Machine_Done.f px1.m_image px1.m_in_ m5 m6 m7 m8 z13 z14)=true
 ·rw [if_pos hc3] at h
  refine wk 28 (!(mach_Machine_Done.f px1.m_image px1.m_in_ m5 m6 m7 m8 z13 z14)) false (congrArg (fun z=>!z) hc3) ?_
  refine we_false (by kernel_rfl) ?_
  have hS60:=(((((((hS52.b 5).b 5).b 5).b 5).b 5).b 7).b 7).b 7
  obtain rfl:=si h
  exact we_exit fun a hF=>hQ _ _ _ (Outs.out nofun (Exits.here ⟨(.slice Z6 m5.length cz6),(.slice Z7 m6.length cz7),(.slice Z8 m7.length cz8),hS60,hF.weaken ea⟩))
 rw [if_neg hc3] at h
 refine wk 28 (!(mach_Machine_Done.f px1.m_image px1.m_in_ m5 m6 m7 m8 z13 z14)) true (congrArg (fun z=>!z) (Bool.eq_false_iff.2 hc3)) ?_
 refine we_true (by kernel_rfl) ?_
 refine we_skip fun a hF=>hK17 _ _ ?_ a hF
 refine we_block<|ws fun K19 hK19=>ws fun K20 hK20=>wr [(0,0),(1,0)]<|gb0 [0,1] [(30,.bool (z12==20000)),(29,vI z12)] ?_
 refine gn hK20 ?_
 by_cases hc4:z12=20000
 ·rw [if_pos hc4] at h
  refine wk 30 (z12==20000) true (beq_iff_eq.2 hc4) ?_
  refine we_true (by kernel_rfl) ?_
  refine ws fun K21 hK21=>?_
  rcases hq5:mach_Run.p3 z13 with _ | (⟨z21,z22,m15,m16,z23⟩ | rr3)
  ·rw [hq5] at h; cases h
  ·rw [hq5] at h
   simp only [] at h
   refine we_keep (e':=[(6,pP b1 0),(7,pP b2 0),(8,pP pb1 0),(10,vI z11),(11,vI z12),(26,pP pb1 0),(27,.bool (mach_Machine_Done.f px1.m_image px1.m_in_ m5 m6 m7 m8 z13 z14)),(28,.bool true),(29,vI z12),(30,.bool true)]) ea (mach_Run_p3 K w0 l0 A0 c0 l1 A1 c1 l2 A2 c2 hR0 hL0 hR1 hL1 hR2 hL2 b1 b2 r1 px1 pb1 b4 hc2 Z1 cz1 Z2 cz2 Z3 cz3 Z4 cz4 Z5 cz5 z11 z12 m5 m6 m7 m8 z13 z14 Z6 cz6 Z7 cz7 Z8 cz8 hc3 hc4 _ hq5 _ hS52 _ ?_)
   rintro _ a w15 ⟨rfl,v13,v14,hS74,hF⟩
   replace hS74:St w0 w15 [Own.blk b2 (.cells #[vI z21,vI z22] 30 (0,0)),Own.blk b1 (.cells #[v13,v14,vI z23] 27 (0,0)),Own.of v13 3 m15,Own.of v14 43 m16]:=hS74
   refine hK21 [(6,pP b1 0),(7,pP b2 0)] w15 ?_ a hF
   have hS77:=((hS74.b 3).b 3).takeN 2
   obtain rfl:=si h
   exact we_ret fun a hF=>hQ _ _ _ (Outs.out nofun (Exits.on ⟨rfl,(pr [.cell 6 27,.cell 7 30] [.agg #[v13,v14,vI z23],.agg #[vI z21,vI z22]] [.loaded ⟨b1,0,none⟩ (v13),.loaded ⟨b1,1,none⟩ (v14),.loaded ⟨b1,2,none⟩ (vI z23),.loaded ⟨b2,0,none⟩ (vI z21),.loaded ⟨b2,1,none⟩ (vI z22)] ⟨hS74.c 1,hS74.c 1,hS74.c 1,hS74.c 0,hS74.c 0,trivial⟩ ⟨v13,v14,rfl,hS77⟩) a hF⟩))
  rw [hq5] at h
  simp only [] at h
  refine we_keep (e':=[(6,pP b1 0),(7,pP b2 0),(8,pP pb1 0),(10,vI z11),(11,vI z12),(26,pP pb1 0),(27,.bool (mach_Machine_Done.f px1.m_image px1.m_in_ m5 m6 m7 m8 z13 z14)),(28,.bool true),(29,vI z12),(30,.bool true)]) ea (mach_Run_p3 K w0 l0 A0 c0 l1 A1 c1 l2 A2 c2 hR0 hL0 hR1 hL1 hR2 hL2 b1 b2 r1 px1 pb1 b4 hc2 Z1 cz1 Z2 cz2 Z3 cz3 Z4 cz4 Z5 cz5 z11 z12 m5 m6 m7 m8 z13 z14 Z6 cz6 Z7 cz7 Z8 cz8 hc3 hc4 _ hq5 _ hS52 _ ?_)
  rintro _ a w1 ⟨_,rfl,hb⟩
  obtain rfl:=si h
  exact hQ _ _ _ (Outs.out nofun (Exits.on ⟨rfl,hb⟩))
 rw [if_neg hc4] at h
 refine wk 30 (z12==20000) false (beq_eq_false_iff_ne.2 hc4) ?_
 refine we_false (by kernel_rfl) ?_
 refine we_skip fun a hF=>hK19 _ _ ?_ a hF
 refine ws fun K22 hK22=>wr [(0,0),(1,0),(2,0)]<|gb0 [0,1,2] [(10,vI (IntKind.i64.wrap (z11+1))),(38,vI (IntKind.i64.wrap (z11+1))),(37,vI z11)] ?_
 refine gn hK22<|ws fun K23 hK23=>wr [(0,0),(1,2),(2,0),(3,0),(4,0),(5,1),(6,2),(7,0)]<|gb0 [0] [(40,pP pb1 0)] ?_
 rcases hq6:mach_Machine_Tick.f px1.m_image px1.m_in_ m5 m6 m7 m8 z13 z14 with _ | r2
 ·rw [hq6] at h; cases h
 rw [hq6] at h
 simp only [] at h
 have hS85:=((((((hS52.b 5).b 5).b 5).b 5).b 5).b 5).packN 6
 refine ge_call2 (m:=0) (d:=some 41) (f:=21) (args:=#[pP pb1 0]) (by kernel_rfl) (mach_Machine_Tick_ok pb1 px1.m_image Z1 cz1 px1.m_in_ Z2 cz2 m5 Z6 cz6 m6 Z7 cz7 m7 Z8 cz8 m8 z13 z14 _ _ _ hS85 _ hq6) ?_
 rintro _ w16 ⟨v15,v16,v17,rfl,hS84⟩
 refine ⟨_,rfl,?_⟩
 have hS86:=hS84.unpack [Own.blk pb1 (.cells #[(.slice Z1 px1.m_image.length cz1),(.slice Z2 px1.m_in_.length cz2),v15,v16,v17,vI ((r2.2.2.2.2.2.1[0]?).getD 0),vI ((r2.2.2.2.2.2.1[1]?).getD 0),vI ((r2.2.2.2.2.2.1[2]?).getD 0),vI ((r2.2.2.2.2.2.1[3]?).getD 0),vI ((r2.2.2.2.2.2.1[4]?).getD 0),vI ((r2.2.2.2.2.2.1[5]?).getD 0),vI ((r2.2.2.2.2.2.1[6]?).getD 0),vI ((r2.2.2.2.2.2.1[7]?).getD 0),vI r2.2.2.2.2.2.2.1,vI r2.2.2.2.2.2.2.2] 61 (0,0)),Own.of (.slice Z1 px1.m_image.length cz1) 35 px1.m_image,Own.of (.slice Z2 px1.m_in_.length cz2) 3 px1.m_in_,Own.of v15 3 r2.2.2.1,Own.of v16 43 r2.2.2.2.1,Own.of v17 3 r2.2.2.2.2.1]
 refine gb0 [2,3,4] [(43,.bool r2.2.1),(42,.agg #[vI r2.1.Op,vI r2.1.A,vI r2.1.B]),(39,.tuple #[.agg #[vI r2.1.Op,vI r2.1.A,vI r2.1.B],.bool r2.2.1])] ?_
 refine gw (some 12) (.cells #[vI 0,vI 0,vI 0] 35) (fun b=>pP b 0) hS86 fun b5 w17 hx5 hS87=>?_
 refine gs b5 0 #[vI 0,vI 0,vI 0] 35 [vI r2.1.Op,vI r2.1.A,vI r2.1.B] hS87 fun w18 hS88=>?_
 have hS89:=hS88.nc #[vI r2.1.Op,vI r2.1.A,vI r2.1.B] rfl
 refine gb0 [7] [(13,.bool r2.2.1)] ?_
 refine gn hK23<|ws fun K24 hK24=>wr [(0,0)]<|gb0 [0] [(44,.bool r2.2.1)] ?_
 refine gn hK24 ?_
 by_cases hc5:r2.2.1=true
 ·rw [if_pos hc5] at h
  refine wk 44 r2.2.1 true hc5 ?_
  refine we_true (by kernel_rfl) ?_
  refine wr [(0,0),(1,0),(2,0)]<|gb0 [0,1,2] [(11,vI (IntKind.i64.wrap (z12+1))),(46,vI (IntKind.i64.wrap (z12+1))),(45,vI z12)] ?_
  have hS98:=((((((((hS89.b 6).b 6).b 6).b 6).b 6).b 8).b 8).b 8).takeN 8
  obtain rfl:=si h
  exact ge_nil fun a hF=>hQ _ _ _ (Outs.again ⟨v15,v16,v17,hS98,hF.weaken ea⟩)
 rw [if_neg hc5] at h
 refine wk 44 r2.2.1 false (Bool.eq_false_iff.2 hc5) ?_
 refine we_false (by kernel_rfl) ?_
 have hS107:=((((((((hS89.b 6).b 6).b 6).b 6).b 6).b 8).b 8).b 8).takeN 8
 obtain rfl:=si h
 exact we_skip fun a hF=>hQ _ _ _ (Outs.again ⟨v15,v16,v17,hS107,hF.weaken ea⟩)
abbrev mach_Run.A4 (w0:World) (b1:Nat) (b2:Nat):(Int×Int×(List Int)×(List SPut)×Int)→Act→World→Prop:=fun (s:Int×Int×(List Int)×(List SPut)×Int) a w=>∃ (v21:Value) (v22:Value),St w0 w [Own.blk b2 (.cells #[vI s.1,vI s.2.1] 30 (0,0)),Own.blk b1 (.cells #[v21,v22,vI s.2.2.2.2] 27 (0,0)),Own.of v21 3 s.2.2.1,Own.of v22 43 s.2.2.2.1]∧Frm 58 a [(6,pP b1 0),(7,pP b2 0)]
abbrev mach_Run.B4 (w0:World):(SEnded×SFault)→Exit→Act→World→Prop:=Rets Tryd.prog Tryd.f8 (mach_Run.Post w0)
theorem mach_Run_p4 (K:Nat) (w0:World) (l0:List SIns) (A0:Option Addr) (c0:Nat) (l1:List Int) (A1:Option Addr) (c1:Nat) (l2:List Int) (A2:Option Addr) (c2:Nat) (hR0:RdL w0 A0 l0) (hL0:l0.length≤c0) (hR1:RdL w0 A1 l1) (hL1:l1.length≤c1) (hR2:RdL w0 A2 l2) (hL2:l2.length≤c2) (b1:Nat) (b2:Nat) (r1:(Option PMachine)×SFault) (px1:PMachine) (pb1:Nat) (b4:Nat) (hc2:¬ (r1.2.Code=0)) (Z11:Option Addr) (cz11:Nat) (Z12:Option Addr) (cz12:Nat) (Z13:Option Addr) (cz13:Nat) (Z14:Option Addr) (cz14:Nat) (Z15:Option Addr) (cz15:Nat) (o:(Int×Int×(List Int)×(List SPut)×Int) ⊕ (SEnded×SFault)) (h:mach_Run.p4 r1=some o) (w:World) (hS:St w0 w [Own.blk b4 (.cells #[vI r1.2.Code,vI r1.2.At] 30 (0,0)),Own.blk pb1 (.cells #[(.slice Z11 px1.m_image.length cz11),(.slice Z12 px1.m_in_.length cz12),(.slice Z13 px1.m_vars.length cz13),(.slice Z14 px1.m_puts.length cz14),(.slice Z15 px1.m_stack.length cz15),vI ((px1.m_count[0]?).getD 0),vI ((px1.m_count[1]?).getD 0),vI ((px1.m_count[2]?).getD 0),vI ((px1.m_count[3]?).getD 0),vI ((px1.m_count[4]?).getD 0),vI ((px1.m_count[5]?).getD 0),vI ((px1.m_count[6]?).getD 0),vI ((px1.m_count[7]?).getD 0),vI px1.m_at_,vI px1.m_left] 61 (0,0)),Own.of (.slice Z11 px1.m_image.length cz11) 35 px1.m_image,Own.of (.slice Z12 px1.m_in_.length cz12) 3 px1.m_in_,Own.of (.slice Z13 px1.m_vars.length cz13) 3 px1.m_vars,Own.of (.slice Z14 px1.m_puts.length cz14) 43 px1.m_puts,Own.of (.slice Z15 px1.m_stack.length cz15) 3 px1.m_stack,Own.blk b2 (.cells #[vI 0,vI 0] 30 (0,0)),Own.blk b1 (.cells #[.slice none 0 0,.slice none 0 0,vI 0] 27 (0,0))]) (Q:Exit→Act→World→Prop) (hQ:∀ x a w,Outs (mach_Run.A4 w0 b1 b2) (mach_Run.B4 w0) o x a w→Q x a w):WE Tryd.prog 58 (subF Tryd.f8 [1,1,0,1,0,0]) Q [(0,.slice A0 l0.length c0),(1,.slice A1 l1.length c1),(2,.slice A2 l2.length c2),(6,pP b1 0),(7,pP b2 0),(8,pP pb1 0),(9,pP b4 0),(14,.tuple #[pP pb1 0,.agg #[vI r1.2.Code,vI r1.2.At]]),(15,.slice A0 l0.length c0),(16,.slice A1 l1.length c1),(17,.slice A2 l2.length c2),(18,.tuple #[pP pb1 0,.agg #[vI r1.2.Code,vI r1.2.At]]),(19,pP pb1 0),(20,.agg #[vI r1.2.Code,vI r1.2.At]),(21,pP b4 0),(22,vI r1.2.Code),(23,.bool true)] w:=by
 simp only [mach_Run.p4] at h
 refine we_orders3 (by kernel_rfl) [(1,[⟨b4,0,none⟩,⟨b4,1,none⟩],[],[])] (.vals [0] (.vals [1] (.alt 2 2 (.alt 3 2 .fin .nomore) .nomore))) (by kernel_rfl) (by kernel_rfl) ?_
 have hS119:=hS.drew
 refine g30 [0] [(24,.agg #[.slice none 0 0,.slice none 0 0,vI 0])] ?_
 refine g3 1 [(25,.agg #[vI r1.2.Code,vI r1.2.At])] [.loaded ⟨b4,0,none⟩ (vI r1.2.Code),.loaded ⟨b4,1,none⟩ (vI r1.2.At)] ⟨hS119.c 0,hS119.c 0,trivial⟩ ?_
 refine go_alt3 (fun KK hKK=>?_) ?_
 ·have hS120:=hS119.b 8
  refine gs b1 0 #[.slice none 0 0,.slice none 0 0,vI 0] 27 [.slice none 0 0,.slice none 0 0,vI 0] hS120 fun w22 hS121=>?_
  have hS122:=hS121.nc #[.slice none 0 0,.slice none 0 0,vI 0] rfl
  refine ge_nil fun a hF=>hKK _ _ (RS.of2 (l:=[.loaded ⟨b4,0,none⟩ (vI r1.2.Code),.loaded ⟨b4,1,none⟩ (vI r1.2.At)]) (by kernel_rfl) ⟨hS119.c 0,hS119.c 0,trivial⟩ ⟨hS122.c 1,hS122.c 1,trivial⟩) ?_ a hF
  refine go_alt3 (fun KK hKK=>?_) ?_
  ·have hS123:=hS122.b 8
   refine gs b2 0 #[vI 0,vI 0] 30 [vI r1.2.Code,vI r1.2.At] hS123 fun w23 hS124=>?_
   have hS125:=hS124.nc #[vI r1.2.Code,vI r1.2.At] rfl
   refine g2 hKK ?_
   have hS126:=hS125.nil (α:=Int) 3
   have hS131:=((((hS126.nil (α:=SPut) 43).b 1).b 3).b 3).takeN 4
   obtain rfl:=si h
   exact go_fin3 fun a hF=>hQ _ _ _ (Outs.again ⟨(.slice none 0 0),(.slice none 0 0),hS131,hF.weaken ea⟩)
  exact go_nomore3
 exact go_nomore3
theorem mach_Run_ok (K:Nat) (l0:List SIns) (A0:Option Addr) (c0:Nat) (l1:List Int) (A1:Option Addr) (c1:Nat) (l2:List Int) (A2:Option Addr) (c2:Nat) (w0:World) (hR0:RdL w0 A0 l0) (hL0:l0.length≤c0) (hR1:RdL w0 A1 l1) (hL1:l1.length≤c1) (hR2:RdL w0 A2 l2) (hL2:l2.length≤c2) (r:SEnded×SFault) (h:mach_Run.f K l0 l1 l2=some r) :
  Calls Tryd.prog 8 #[.slice A0 l0.length c0,.slice A1 l1.length c1,.slice A2 l2.length c2] w0 (mach_Run.Post w0 r):=by
 have hS:=St.start w0
 unfold mach_Run.f at h
 refine calls_enter (n:=58) (args:=[.slice A0 l0.length c0,.slice A1 l1.length c1,.slice A2 l2.length c2]) (fn:=Tryd.f8) rfl rfl rfl rfl ?_
 show WE _ _ _ _ [(0,.slice A0 l0.length c0),(1,.slice A1 l1.length c1),(2,.slice A2 l2.length c2)] _
 refine ws fun K1 hK1=>wr [(0,1),(1,1)]<|gw (some 6) (.cells #[.slice none 0 0,.slice none 0 0,vI 0] 27) (fun b=>pP b 0) hS fun b1 w1 hx1 hS1=>?_
 refine gw (some 7) (.cells #[vI 0,vI 0] 30) (fun b=>pP b 0) hS1 fun b2 w2 hx2 hS2=>?_
 refine gn hK1<|ws fun K2 hK2=>wr [(0,0),(1,0),(2,0),(3,1),(4,0),(5,0),(6,0),(7,1),(8,0),(9,2)] ?_
 rcases hq1:mach_New.f K l0 l1 l2 with _ | r1
 ·rw [hq1] at h; cases h
 rw [hq1] at h
 simp only [] at h
 refine gb0 [0,1,2] [(17,.slice A2 l2.length c2),(16,.slice A1 l1.length c1),(15,.slice A0 l0.length c0)] ?_
 refine ge_call (d:=some 18) (f:=19) (args:=#[.slice A0 l0.length c0,.slice A1 l1.length c1,.slice A2 l2.length c2]) (by kernel_rfl) (mach_New_ok K l0 A0 c0 l1 A1 c1 l2 A2 c2 _ (hS2.rd hR0) hL0 (hS2.rd hR1) hL1 (hS2.rd hR2) hL2 _ hq1) ?_
 rintro _ w3 hP1
 unfold mach_New.Post at hP1
 rcases hro1:r1.1 with _ | px1
 ·rw [hro1] at hP1 h
  simp only [] at hP1 h
  obtain ⟨rfl,hS3⟩:=hP1
  refine ⟨_,rfl,hS3.below,?_⟩
  have hS4:=hS2.call hS3
  refine gb0 [4,5,6] [(20,.agg #[vI r1.2.Code,vI r1.2.At]),(19,.pointer none),(14,.tuple #[.pointer none,.agg #[vI r1.2.Code,vI r1.2.At]])] ?_
  refine gw (some 9) (.cells #[vI 0,vI 0] 30) (fun b=>pP b 0) hS4 fun b3 w4 hx3 hS5=>?_
  refine gb0 [8] [(8,.pointer none)] ?_
  refine gs b3 0 #[vI 0,vI 0] 30 [vI r1.2.Code,vI r1.2.At] hS5 fun w5 hS6=>?_
  have hS7:=hS6.nc #[vI r1.2.Code,vI r1.2.At] rfl
  refine gn hK2<|ws fun K3 hK3=>ws fun K4 hK4=>wr [(0,0),(1,0),(2,0)]<|gb [0,1,2] [(23,.bool (r1.2.Code != 0)),(22,vI r1.2.Code),(21,pP b3 0)] [.loaded ⟨b3,0,none⟩ (vI r1.2.Code)] ⟨hS7.c 0,trivial⟩ ?_
  refine gn hK4 ?_
  by_cases hc1:r1.2.Code=0
  ·rw [if_pos hc1] at h
   refine wk 23 (r1.2.Code != 0) false (bne_eq_false_iff_eq.2 hc1) ?_
   refine we_false (by kernel_rfl) ?_
   refine we_skip fun a hF=>hK3 _ _ ?_ a hF
   refine ws fun K5 hK5=>wr [(0,0)]<|gb0 [0] [(10,vI 0)] ?_
   refine gn hK5<|ws fun K6 hK6=>ws fun K7 hK7=>wr [(0,0)]<|gb0 [0] [(11,vI 0)] ?_
   refine gn hK7<|we_block ?_
   have hS10:=((hS7.b 2).b 2).takeN 2
   rcases hq2:iter (mach_Run.r0) K (0,0) with _ | (z4 | rr1)
   ·rw [hq2] at h; cases h
   ·rw [hq2] at h
    simp only [] at h
    refine we_iter (A:=mach_Run.A0 w0 b1 b2) (B:=mach_Run.B0 w0 b1 b2) hq2 (fun a hF=>⟨hS10,hF.weaken ea⟩) (fun s o hf a w hA Q hQ=>mach_Run_r0 K w0 l0 A0 c0 l1 A1 c1 l2 A2 c2 hR0 hL0 hR1 hL1 hR2 hL2 b1 b2 r1 b3 hc1 s o hf a w hA Q hQ) ?_
    rintro _ a w6 _ ⟨rfl,hS11,hF⟩
    replace hS11:St w0 w6 [Own.blk b2 (.cells #[vI 0,vI 0] 30 (0,0)),Own.blk b1 (.cells #[.slice none 0 0,.slice none 0 0,vI 0] 27 (0,0))]:=hS11
    refine hK6 [(6,pP b1 0),(7,pP b2 0),(8,.pointer none),(10,vI z4)] w6 ?_ a hF
    refine ws fun K10 hK10=>we_orders3 (by kernel_rfl) [] (.vals [0] (.vals [1] (.vals [2] (.vals [3] (.vals [4] (.vals [5] (.vals [6] (.vals [7] (.vals [8] (.vals [9] (.vals [10] (.alt 11 2 (.alt 12 2 .fin .nomore) .nomore)))))))))))) (by kernel_rfl) (by kernel_rfl) ?_
    have hS12:=hS11.drew
    refine g30 [0] [(47,.pointer none)] ?_
    cases h
   rw [hq2] at h
   simp only [] at h
   refine we_iter (A:=mach_Run.A0 w0 b1 b2) (B:=mach_Run.B0 w0 b1 b2) hq2 (fun a hF=>⟨hS10,hF.weaken ea⟩) (fun s o hf a w hA Q hQ=>mach_Run_r0 K w0 l0 A0 c0 l1 A1 c1 l2 A2 c2 hR0 hL0 hR1 hL1 hR2 hL2 b1 b2 r1 b3 hc1 s o hf a w hA Q hQ) ?_
   rintro _ a w1 _ ⟨rfl,hb⟩
   obtain rfl:=si h
   exact hb
  rw [if_neg hc1] at h
  refine wk 23 (r1.2.Code != 0) true (bne_iff_ne.2 hc1) ?_
  refine we_true (by kernel_rfl) ?_
  refine ws fun K11 hK11=>?_
  rcases hq3:mach_Run.p1 r1 with _ | (⟨z8,z9,m3,m4,z10⟩ | rr2)
  ·rw [hq3] at h; cases h
  ·rw [hq3] at h
   simp only [] at h
   refine we_keep (e':=[(0,.slice A0 l0.length c0),(1,.slice A1 l1.length c1),(2,.slice A2 l2.length c2),(6,pP b1 0),(7,pP b2 0),(8,.pointer none),(9,pP b3 0),(14,.tuple #[.pointer none,.agg #[vI r1.2.Code,vI r1.2.At]]),(15,.slice A0 l0.length c0),(16,.slice A1 l1.length c1),(17,.slice A2 l2.length c2),(18,.tuple #[.pointer none,.agg #[vI r1.2.Code,vI r1.2.At]]),(19,.pointer none),(20,.agg #[vI r1.2.Code,vI r1.2.At]),(21,pP b3 0),(22,vI r1.2.Code),(23,.bool true)]) ea (mach_Run_p1 K w0 l0 A0 c0 l1 A1 c1 l2 A2 c2 hR0 hL0 hR1 hL1 hR2 hL2 b1 b2 r1 b3 hc1 _ hq3 _ hS7 _ ?_)
   rintro _ a w9 ⟨rfl,v3,v4,hS26,hF⟩
   replace hS26:St w0 w9 [Own.blk b2 (.cells #[vI z8,vI z9] 30 (0,0)),Own.blk b1 (.cells #[v3,v4,vI z10] 27 (0,0)),Own.of v3 3 m3,Own.of v4 43 m4]:=hS26
   refine hK11 [(6,pP b1 0),(7,pP b2 0)] w9 ?_ a hF
   have hS29:=((hS26.b 3).b 3).takeN 2
   obtain rfl:=si h
   exact we_ret (pr [.cell 6 27,.cell 7 30] [.agg #[v3,v4,vI z10],.agg #[vI z8,vI z9]] [.loaded ⟨b1,0,none⟩ (v3),.loaded ⟨b1,1,none⟩ (v4),.loaded ⟨b1,2,none⟩ (vI z10),.loaded ⟨b2,0,none⟩ (vI z8),.loaded ⟨b2,1,none⟩ (vI z9)] ⟨hS26.c 1,hS26.c 1,hS26.c 1,hS26.c 0,hS26.c 0,trivial⟩ ⟨v3,v4,rfl,hS29⟩)
  rw [hq3] at h
  simp only [] at h
  refine we_keep (e':=[(0,.slice A0 l0.length c0),(1,.slice A1 l1.length c1),(2,.slice A2 l2.length c2),(6,pP b1 0),(7,pP b2 0),(8,.pointer none),(9,pP b3 0),(14,.tuple #[.pointer none,.agg #[vI r1.2.Code,vI r1.2.At]]),(15,.slice A0 l0.length c0),(16,.slice A1 l1.length c1),(17,.slice A2 l2.length c2),(18,.tuple #[.pointer none,.agg #[vI r1.2.Code,vI r1.2.At]]),(19,.pointer none),(20,.agg #[vI r1.2.Code,vI r1.2.At]),(21,pP b3 0),(22,vI r1.2.Code),(23,.bool true)]) ea (mach_Run_p1 K w0 l0 A0 c0 l1 A1 c1 l2 A2 c2 hR0 hL0 hR1 hL1 hR2 hL2 b1 b2 r1 b3 hc1 _ hq3 _ hS7 _ ?_)
  rintro _ a w1 ⟨_,rfl,hb⟩
  obtain rfl:=si h
  exact hb
 rw [hro1] at hP1 h
 simp only [] at hP1 h
 obtain ⟨pb1,pv1,pv2,pv3,pv4,pv5,rfl,hS30⟩:=hP1
 refine ⟨_,rfl,hS30.below,?_⟩
 have hS31:=hS2.call hS30
 refine gb0 [4,5,6] [(20,.agg #[vI r1.2.Code,vI r1.2.At]),(19,pP pb1 0),(14,.tuple #[pP pb1 0,.agg #[vI r1.2.Code,vI r1.2.At]])] ?_
 refine gw (some 9) (.cells #[vI 0,vI 0] 30) (fun b=>pP b 0) hS31 fun b4 w10 hx4 hS32=>?_
 refine gb0 [8] [(8,pP pb1 0)] ?_
 refine gs b4 0 #[vI 0,vI 0] 30 [vI r1.2.Code,vI r1.2.At] hS32 fun w11 hS33=>?_
 have hS34:=hS33.nc #[vI r1.2.Code,vI r1.2.At] rfl
 refine gn hK2<|ws fun K12 hK12=>ws fun K13 hK13=>wr [(0,0),(1,0),(2,0)]<|gb [0,1,2] [(23,.bool (r1.2.Code != 0)),(22,vI r1.2.Code),(21,pP b4 0)] [.loaded ⟨b4,0,none⟩ (vI r1.2.Code)] ⟨hS34.c 0,trivial⟩ ?_
 refine gn hK13 ?_
 by_cases hc2:r1.2.Code=0
 ·rw [if_pos hc2] at h
  refine wk 23 (r1.2.Code != 0) false (bne_eq_false_iff_eq.2 hc2) ?_
  refine we_false (by kernel_rfl) ?_
  refine we_skip fun a hF=>hK12 _ _ ?_ a hF
  refine ws fun K14 hK14=>wr [(0,0)]<|gb0 [0] [(10,vI 0)] ?_
  refine gn hK14<|ws fun K15 hK15=>ws fun K16 hK16=>wr [(0,0)]<|gb0 [0] [(11,vI 0)] ?_
  refine gn hK16<|we_block ?_
  obtain ⟨Z1,cz1,rfl⟩:=hS34.open 2 rfl
  obtain ⟨Z2,cz2,rfl⟩:=hS34.open 3 rfl
  obtain ⟨Z3,cz3,rfl⟩:=hS34.open 4 rfl
  obtain ⟨Z4,cz4,rfl⟩:=hS34.open 5 rfl
  obtain ⟨Z5,cz5,rfl⟩:=hS34.open 6 rfl
  have hS43:=((((((((hS34.b 6).b 6).b 6).b 6).b 6).b 8).b 8).b 8).takeN 8
  rcases hq7:iter (mach_Run.r2 px1) K (0,0,px1.m_vars,px1.m_puts,px1.m_stack,px1.m_count,px1.m_at_,px1.m_left) with _ | (⟨z24,m17,m18,m19,m20,z25,z26⟩ | rr4)
  ·rw [hq7] at h; cases h
  ·rw [hq7] at h
   simp only [] at h
   refine we_iter (A:=mach_Run.A2 w0 b1 b2 px1 pb1 Z1 cz1 Z2 cz2) (B:=mach_Run.B2 w0 b1 b2 px1 pb1 Z1 cz1 Z2 cz2) hq7 (fun a hF=>⟨(.slice Z3 px1.m_vars.length cz3),(.slice Z4 px1.m_puts.length cz4),(.slice Z5 px1.m_stack.length cz5),hS43,hF.weaken ea⟩) (fun s o hf a w hA Q hQ=>mach_Run_r2 K w0 l0 A0 c0 l1 A1 c1 l2 A2 c2 hR0 hL0 hR1 hL1 hR2 hL2 b1 b2 r1 px1 pb1 b4 hc2 Z1 cz1 Z2 cz2 Z3 cz3 Z4 cz4 Z5 cz5 s o hf a w hA Q hQ) ?_
   rintro _ a w19 _ ⟨rfl,v18,v19,v20,hS108,hF⟩
   replace hS108:St w0 w19 [Own.blk pb1 (.cells #[(.slice Z1 px1.m_image.length cz1),(.slice Z2 px1.m_in_.length cz2),v18,v19,v20,vI ((m20[0]?).getD 0),vI ((m20[1]?).getD 0),vI ((m20[2]?).getD 0),vI ((m20[3]?).getD 0),vI ((m20[4]?).getD 0),vI ((m20[5]?).getD 0),vI ((m20[6]?).getD 0),vI ((m20[7]?).getD 0),vI z25,vI z26] 61 (0,0)),Own.blk b2 (.cells #[vI 0,vI 0] 30 (0,0)),Own.blk b1 (.cells #[.slice none 0 0,.slice none 0 0,vI 0] 27 (0,0)),Own.of (.slice Z1 px1.m_image.length cz1) 35 px1.m_image,Own.of (.slice Z2 px1.m_in_.length cz2) 3 px1.m_in_,Own.of v18 3 m17,Own.of v19 43 m18,Own.of v20 3 m19]:=hS108
   refine hK15 [(6,pP b1 0),(7,pP b2 0),(8,pP pb1 0),(10,vI z24)] w19 ?_ a hF
   refine ws fun K25 hK25=>we_orders3 (by kernel_rfl) [(3,[⟨pb1,2,none⟩],[],[]),(7,[⟨pb1,3,none⟩],[],[])] (.vals [0] (.vals [1] (.vals [2] (.vals [3] (.vals [4] (.vals [5] (.vals [6] (.vals [7] (.vals [8] (.vals [9] (.vals [10] (.alt 11 2 (.alt 12 2 .fin .nomore) .nomore)))))))))))) (by kernel_rfl) (by kernel_rfl) ?_
   have hS109:=hS108.drew
   refine g30 [0,1,2] [(49,pP pb1 2),(48,pP pb1 0),(47,pP pb1 0)] ?_
   refine g3 3 [(50,v18)] [.loaded ⟨pb1,2,none⟩ (v18)] ⟨hS109.c 0,trivial⟩ ?_
   refine g30 [4,5,6] [(53,pP pb1 3),(52,pP pb1 0),(51,pP pb1 0)] ?_
   refine g3 7 [(54,v19)] [.loaded ⟨pb1,3,none⟩ (v19)] ⟨hS109.c 0,trivial⟩ ?_
   refine g30 [8] [(55,vI z24)] ?_
   obtain ⟨Z9,cz9,rfl⟩:=hS109.open 5 rfl
   obtain ⟨Z10,cz10,rfl⟩:=hS109.open 6 rfl
   refine g30 [9,10] [(57,.agg #[vI 0,vI 0]),(56,.agg #[(.slice Z9 m17.length cz9),(.slice Z10 m18.length cz10),vI z24])] ?_
   refine go_alt3 (fun KK hKK=>?_) ?_
   ·have hS110:=hS109.b 2
    refine gs b1 0 #[.slice none 0 0,.slice none 0 0,vI 0] 27 [(.slice Z9 m17.length cz9),(.slice Z10 m18.length cz10),vI z24] hS110 fun w20 hS111=>?_
    have hS112:=hS111.nc #[(.slice Z9 m17.length cz9),(.slice Z10 m18.length cz10),vI z24] rfl
    refine g2 hKK<|go_alt3 (fun KK hKK=>?_) ?_
    ·have hS113:=hS112.b 2
     refine gs b2 0 #[vI 0,vI 0] 30 [vI 0,vI 0] hS113 fun w21 hS114=>?_
     have hS115:=hS114.nc #[vI 0,vI 0] rfl
     refine g2 hKK<|go_fin3 fun a hF=>hK25 _ _ ?_ a hF
     have hS118:=((hS115.b 6).b 6).takeN 2
     obtain rfl:=si h
     exact we_ret (pr [.cell 6 27,.cell 7 30] [.agg #[(.slice Z9 m17.length cz9),(.slice Z10 m18.length cz10),vI z24],.agg #[vI 0,vI 0]] [.loaded ⟨b1,0,none⟩ ((.slice Z9 m17.length cz9)),.loaded ⟨b1,1,none⟩ ((.slice Z10 m18.length cz10)),.loaded ⟨b1,2,none⟩ (vI z24),.loaded ⟨b2,0,none⟩ (vI 0),.loaded ⟨b2,1,none⟩ (vI 0)] ⟨hS115.c 1,hS115.c 1,hS115.c 1,hS115.c 0,hS115.c 0,trivial⟩ ⟨(.slice Z9 m17.length cz9),(.slice Z10 m18.length cz10),rfl,hS118⟩)
    exact go_nomore3
   exact go_nomore3
  rw [hq7] at h
  simp only [] at h
  refine we_iter (A:=mach_Run.A2 w0 b1 b2 px1 pb1 Z1 cz1 Z2 cz2) (B:=mach_Run.B2 w0 b1 b2 px1 pb1 Z1 cz1 Z2 cz2) hq7 (fun a hF=>⟨(.slice Z3 px1.m_vars.length cz3),(.slice Z4 px1.m_puts.length cz4),(.slice Z5 px1.m_stack.length cz5),hS43,hF.weaken ea⟩) (fun s o hf a w hA Q hQ=>mach_Run_r2 K w0 l0 A0 c0 l1 A1 c1 l2 A2 c2 hR0 hL0 hR1 hL1 hR2 hL2 b1 b2 r1 px1 pb1 b4 hc2 Z1 cz1 Z2 cz2 Z3 cz3 Z4 cz4 Z5 cz5 s o hf a w hA Q hQ) ?_
  rintro _ a w1 _ ⟨rfl,hb⟩
  obtain rfl:=si h
  exact hb
 rw [if_neg hc2] at h
 refine wk 23 (r1.2.Code != 0) true (bne_iff_ne.2 hc2) ?_
 refine we_true (by kernel_rfl) ?_
 refine ws fun K26 hK26=>?_
 obtain ⟨Z11,cz11,rfl⟩:=hS34.open 2 rfl
 obtain ⟨Z12,cz12,rfl⟩:=hS34.open 3 rfl
 obtain ⟨Z13,cz13,rfl⟩:=hS34.open 4 rfl
 obtain ⟨Z14,cz14,rfl⟩:=hS34.open 5 rfl
 obtain ⟨Z15,cz15,rfl⟩:=hS34.open 6 rfl
 rcases hq8:mach_Run.p4 r1 with _ | (⟨z30,z31,m23,m24,z32⟩ | rr5)
 ·rw [hq8] at h; cases h
 ·rw [hq8] at h
  simp only [] at h
  refine we_keep (e':=[(0,.slice A0 l0.length c0),(1,.slice A1 l1.length c1),(2,.slice A2 l2.length c2),(6,pP b1 0),(7,pP b2 0),(8,pP pb1 0),(9,pP b4 0),(14,.tuple #[pP pb1 0,.agg #[vI r1.2.Code,vI r1.2.At]]),(15,.slice A0 l0.length c0),(16,.slice A1 l1.length c1),(17,.slice A2 l2.length c2),(18,.tuple #[pP pb1 0,.agg #[vI r1.2.Code,vI r1.2.At]]),(19,pP pb1 0),(20,.agg #[vI r1.2.Code,vI r1.2.At]),(21,pP b4 0),(22,vI r1.2.Code),(23,.bool true)]) ea (mach_Run_p4 K w0 l0 A0 c0 l1 A1 c1 l2 A2 c2 hR0 hL0 hR1 hL1 hR2 hL2 b1 b2 r1 px1 pb1 b4 hc2 Z11 cz11 Z12 cz12 Z13 cz13 Z14 cz14 Z15 cz15 _ hq8 _ hS34 _ ?_)
  rintro _ a w24 ⟨rfl,v23,v24,hS132,hF⟩
  replace hS132:St w0 w24 [Own.blk b2 (.cells #[vI z30,vI z31] 30 (0,0)),Own.blk b1 (.cells #[v23,v24,vI z32] 27 (0,0)),Own.of v23 3 m23,Own.of v24 43 m24]:=hS132
  refine hK26 [(6,pP b1 0),(7,pP b2 0)] w24 ?_ a hF
  have hS135:=((hS132.b 3).b 3).takeN 2
  obtain rfl:=si h
  exact we_ret (pr [.cell 6 27,.cell 7 30] [.agg #[v23,v24,vI z32],.agg #[vI z30,vI z31]] [.loaded ⟨b1,0,none⟩ (v23),.loaded ⟨b1,1,none⟩ (v24),.loaded ⟨b1,2,none⟩ (vI z32),.loaded ⟨b2,0,none⟩ (vI z30),.loaded ⟨b2,1,none⟩ (vI z31)] ⟨hS132.c 1,hS132.c 1,hS132.c 1,hS132.c 0,hS132.c 0,trivial⟩ ⟨v23,v24,rfl,hS135⟩)
 rw [hq8] at h
 simp only [] at h
 refine we_keep (e':=[(0,.slice A0 l0.length c0),(1,.slice A1 l1.length c1),(2,.slice A2 l2.length c2),(6,pP b1 0),(7,pP b2 0),(8,pP pb1 0),(9,pP b4 0),(14,.tuple #[pP pb1 0,.agg #[vI r1.2.Code,vI r1.2.At]]),(15,.slice A0 l0.length c0),(16,.slice A1 l1.length c1),(17,.slice A2 l2.length c2),(18,.tuple #[pP pb1 0,.agg #[vI r1.2.Code,vI r1.2.At]]),(19,pP pb1 0),(20,.agg #[vI r1.2.Code,vI r1.2.At]),(21,pP b4 0),(22,vI r1.2.Code),(23,.bool true)]) ea (mach_Run_p4 K w0 l0 A0 c0 l1 A1 c1 l2 A2 c2 hR0 hL0 hR1 hL1 hR2 hL2 b1 b2 r1 px1 pb1 b4 hc2 Z11 cz11 Z12 cz12 Z13 cz13 Z14 cz14 Z15 cz15 _ hq8 _ hS34 _ ?_)
 rintro _ a w1 ⟨_,rfl,hb⟩
 obtain rfl:=si h
 exact hb

/-! punctual/punctualsame.Same[punctual/api.Put] -/
abbrev punctualsame_Same_api_Put.Post (w0:World) (r:Bool) (e:Ending) (w:World):Prop:=e=.returned (.bool r)∧St w0 w []
def punctualsame_Same_api_Put.r0 (l0 : List SPut) (l1 : List SPut) : Nat → Option (Nat ⊕ (Unit ⊕ Bool))
 | i1 =>
  if (i1:Int)<(l0.length:Int) then
   match l0[i1]? with
   | none=>none
   | some e1 =>
    match l1[i1]? with
    | none=>none
    | some e2 =>
     if (SPut.eqb e1 e2)=true then
      some (.inl (i1+1))
     else
      some (.inr (.inr false))
  else
   some (.inr (.inl ()))
def punctualsame_Same_api_Put.f (K : Nat) (l0 : List SPut) (l1 : List SPut) : Option Bool :=
 if (l0.length:Int)=(l1.length:Int) then
  match iter (punctualsame_Same_api_Put.r0 l0 l1) K 0 with
  | none=>none
  | some (.inl _) =>
   some true
  | some (.inr rr1) =>
   some rr1
 else
  some false
abbrev punctualsame_Same_api_Put.A0 (w0:World) (l0:List SPut) (A0:Option Addr) (c0:Nat) (l1:List SPut) (A1:Option Addr) (c1:Nat):Nat→Act→World→Prop:=fun (s:Nat) a w=>St w0 w []∧Frm 26 a [(0,.slice A0 l0.length c0),(1,.slice A1 l1.length c1),(12,vI (l0.length:Int)),(13,vI (s:Int))]
abbrev punctualsame_Same_api_Put.B0 (w0:World):(Unit ⊕ Bool)→Exit→Act→World→Prop:=Exits 0 (fun (s:Unit) a w=>St w0 w []∧Frm 26 a []) (Rets Tryd.prog Tryd.f15 (punctualsame_Same_api_Put.Post w0))
theorem punctualsame_Same_api_Put_r0 (K:Nat) (w0:World) (l0:List SPut) (A0:Option Addr) (c0:Nat) (l1:List SPut) (A1:Option Addr) (c1:Nat) (hR0:RdL w0 A0 l0) (hL0:l0.length≤c0) (hR1:RdL w0 A1 l1) (hL1:l1.length≤c1) (hc1:(l0.length:Int)=(l1.length:Int)) (s:Nat) (o:Nat ⊕ (Unit ⊕ Bool)) (h:punctualsame_Same_api_Put.r0 l0 l1 s=some o) (a:Act) (w:World) (hA:punctualsame_Same_api_Put.A0 w0 l0 A0 c0 l1 A1 c1 s a w) (Q:Exit→Act→World→Prop) (hQ:∀ x a w,Outs (punctualsame_Same_api_Put.A0 w0 l0 A0 c0 l1 A1 c1) (punctualsame_Same_api_Put.B0 w0) o x a w→Q x a w):(subF Tryd.f15 [1,1,0,1,0,0]).wp Tryd.prog Q a w:=by
 obtain ⟨i1,hs⟩:∃ z,z=s:=⟨s,rfl⟩
 subst hs
 obtain ⟨hS,hF⟩:=hA
 replace hS:St w0 w []:=hS
 simp only [punctualsame_Same_api_Put.r0] at h
 refine (?_:WE Tryd.prog 26 (subF Tryd.f15 [1,1,0,1,0,0]) Q [(0,.slice A0 l0.length c0),(1,.slice A1 l1.length c1),(12,vI (l0.length:Int)),(13,vI (i1:Int))] w) a hF
 clear hF a
 refine ws fun K6 hK6=>wr [(0,0)]<|gb0 [0] [(14,.bool (decide ((i1:Int)<(l0.length:Int))))] ?_
 refine gn hK6<|ws fun K7 hK7=>?_
 by_cases hc2:(i1:Int)<(l0.length:Int)
 ·rw [if_pos hc2] at h
  refine wk 14 (decide ((i1:Int)<(l0.length:Int))) true (decide_eq_true hc2) ?_
  refine we_true (by kernel_rfl) ?_
  refine we_skip fun a hF=>hK7 _ _ ?_ a hF
  refine ws fun K8 hK8=>we_block<|ws fun K9 hK9=>wr [(0,0),(1,0)]<|gb0 [0,1] [(5,vI (i1:Int)),(15,vI (i1:Int))] ?_
  refine gn hK9<|ws fun K10 hK10=>we_draws (by kernel_rfl) [(0,0),(1,0),(2,0),(3,0),(4,0),(5,0),(6,0),(7,0),(8,0)] (by kernel_rfl) ?_
  have hS1:=hS.drew
  refine gb0 [0,1] [(17,vI (i1:Int)),(16,.slice A0 l0.length c0)] ?_
  rcases hx1:l0[i1]? with _ | e1
  ·rw [hx1] at h; cases h
  rw [hx1] at h
  simp only [] at h
  refine gi 18 0 25 43 2 l0.length c0 (.tmp 16) (.tmp 17) A0 .i64 (i1:Int) i1 ((hS1.rd hR0).eqSome (pos_of_get hx1)) rfl (lt_of_get hx1) ?_
  refine gb [3,4,5] [(21,vI (i1:Int)),(20,.slice A1 l1.length c1),(19,.agg #[vI e1.Port,vI e1.Value])] [.loaded ⟨blkOf A0,offOf A0+i1*2,none⟩ (vI e1.Port),.loaded ⟨blkOf A0,offOf A0+i1*2+1,none⟩ (vI e1.Value)] ⟨RdL.cell (j:=0) (hS1.rd hR0) hx1 rfl,RdL.cell (j:=1) (hS1.rd hR0) hx1 rfl,trivial⟩ ?_
  rcases hx2:l1[i1]? with _ | e2
  ·rw [hx2] at h; cases h
  rw [hx2] at h
  simp only [] at h
  refine gi 22 0 25 43 2 l1.length c1 (.tmp 20) (.tmp 21) A1 .i64 (i1:Int) i1 ((hS1.rd hR1).eqSome (pos_of_get hx2)) rfl (lt_of_get hx2) ?_
  refine gb [7] [(23,.agg #[vI e2.Port,vI e2.Value])] [.loaded ⟨blkOf A1,offOf A1+i1*2,none⟩ (vI e2.Port),.loaded ⟨blkOf A1,offOf A1+i1*2+1,none⟩ (vI e2.Value)] ⟨RdL.cell (j:=0) (hS1.rd hR1) hx2 rfl,RdL.cell (j:=1) (hS1.rd hR1) hx2 rfl,trivial⟩ ?_
  refine ge_eqs (d:=24) (ty:=4) (op:=.neq) (x:=(.tmp 19)) (y:=(.tmp 23)) (t:=43) (t2:=43) (xs:=#[vI e1.Port,vI e1.Value]) (ys:=#[vI e2.Port,vI e2.Value]) (r:=(SPut.eqb e1 e2)) (v:=!(SPut.eqb e1 e2)) (by kernel_rfl) (by kernel_rfl) (by kernel_rfl) (by kernel_rfl) (by kernel_rfl) rfl ?_
  refine gn hK10 ?_
  by_cases hc3:(SPut.eqb e1 e2)=true
  ·rw [if_pos hc3] at h
   refine wk 24 (!(SPut.eqb e1 e2)) false (congrArg (fun z=>!z) hc3) ?_
   refine we_false (by kernel_rfl) ?_
   refine we_skip fun a hF=>hK8 _ _ ?_ a hF
   refine wr [(0,0),(1,0)]<|ge_addn (d:=25) (ty:=3) (x:=(.tmp 13)) (y:=(.const (vI 1))) (t:=3) (t2:=3) (k:=.i64) (m:=i1) (by kernel_rfl) (by kernel_rfl) (by kernel_rfl) (by have h0:=hR0.small; omega) ?_
   refine gb0 [1] [(13,vI ((i1+1:Nat):Int))] ?_
   obtain rfl:=si h
   exact ge_nil fun a hF=>hQ _ _ _ (Outs.again ⟨hS1,hF.weaken ea⟩)
  rw [if_neg hc3] at h
  refine wk 24 (!(SPut.eqb e1 e2)) true (congrArg (fun z=>!z) (Bool.eq_false_iff.2 hc3)) ?_
  refine we_true (by kernel_rfl) ?_
  refine ws fun K11 hK11=>wr [(0,0)]<|gb0 [0] [(4,.bool false)] ?_
  refine gn hK11 ?_
  obtain rfl:=si h
  exact we_ret fun a hF=>hQ _ _ _ (Outs.out nofun (Exits.on ⟨rfl,(pr0 [.tmp 4] [.bool false] ⟨rfl,hS1⟩) a hF⟩))
 rw [if_neg hc2] at h
 refine wk 14 (decide ((i1:Int)<(l0.length:Int))) false (decide_eq_false hc2) ?_
 refine we_false (by kernel_rfl) ?_
 obtain rfl:=si h
 exact we_exit fun a hF=>hQ _ _ _ (Outs.out nofun (Exits.here ⟨hS,hF.weaken trivial⟩))
theorem punctualsame_Same_api_Put_ok (K:Nat) (l0:List SPut) (A0:Option Addr) (c0:Nat) (l1:List SPut) (A1:Option Addr) (c1:Nat) (w0:World) (hR0:RdL w0 A0 l0) (hL0:l0.length≤c0) (hR1:RdL w0 A1 l1) (hL1:l1.length≤c1) (r:Bool) (h:punctualsame_Same_api_Put.f K l0 l1=some r) :
  Calls Tryd.prog 15 #[.slice A0 l0.length c0,.slice A1 l1.length c1] w0 (punctualsame_Same_api_Put.Post w0 r):=by
 have hS:=St.start w0
 unfold punctualsame_Same_api_Put.f at h
 refine calls_enter (n:=26) (args:=[.slice A0 l0.length c0,.slice A1 l1.length c1]) (fn:=Tryd.f15) rfl rfl rfl rfl ?_
 show WE _ _ _ _ [(0,.slice A0 l0.length c0),(1,.slice A1 l1.length c1)] _
 refine ws fun K1 hK1=>wr [(0,0)]<|gb0 [0] [(4,.bool false)] ?_
 refine gn hK1<|ws fun K2 hK2=>ws fun K3 hK3=>wr [(0,0),(1,0),(2,0),(3,0),(4,0)]<|gb0 [0,1,2,3,4] [(10,.bool ((l0.length:Int) != (l1.length:Int))),(9,vI (l1.length:Int)),(8,.slice A1 l1.length c1),(7,vI (l0.length:Int)),(6,.slice A0 l0.length c0)] ?_
 refine gn hK3 ?_
 by_cases hc1:(l0.length:Int)=(l1.length:Int)
 ·rw [if_pos hc1] at h
  refine wk 10 ((l0.length:Int) != (l1.length:Int)) false (bne_eq_false_iff_eq.2 hc1) ?_
  refine we_false (by kernel_rfl) ?_
  refine we_skip fun a hF=>hK2 _ _ ?_ a hF
  refine ws fun K4 hK4=>ws fun K5 hK5=>wr [(0,0),(1,0),(2,0)]<|gb0 [0,1,2] [(13,vI 0),(12,vI (l0.length:Int)),(11,.slice A0 l0.length c0)] ?_
  refine gn hK5<|we_block ?_
  rcases hq1:iter (punctualsame_Same_api_Put.r0 l0 l1) K 0 with _ | (_ | rr1)
  ·rw [hq1] at h; cases h
  ·rw [hq1] at h
   simp only [] at h
   refine we_iter (A:=punctualsame_Same_api_Put.A0 w0 l0 A0 c0 l1 A1 c1) (B:=punctualsame_Same_api_Put.B0 w0) hq1 (fun a hF=>⟨hS,hF.weaken ea⟩) (fun s o hf a w hA Q hQ=>punctualsame_Same_api_Put_r0 K w0 l0 A0 c0 l1 A1 c1 hR0 hL0 hR1 hL1 hc1 s o hf a w hA Q hQ) ?_
   rintro _ a w1 _ ⟨rfl,hS2,hF⟩
   replace hS2:St w0 w1 []:=hS2
   refine hK4 [] w1 ?_ a hF
   refine ws fun K12 hK12=>wr [(0,0)]<|gb0 [0] [(4,.bool true)] ?_
   refine gn hK12 ?_
   obtain rfl:=si h
   exact we_ret (pr0 [.tmp 4] [.bool true] ⟨rfl,hS2⟩)
  rw [hq1] at h
  simp only [] at h
  refine we_iter (A:=punctualsame_Same_api_Put.A0 w0 l0 A0 c0 l1 A1 c1) (B:=punctualsame_Same_api_Put.B0 w0) hq1 (fun a hF=>⟨hS,hF.weaken ea⟩) (fun s o hf a w hA Q hQ=>punctualsame_Same_api_Put_r0 K w0 l0 A0 c0 l1 A1 c1 hR0 hL0 hR1 hL1 hc1 s o hf a w hA Q hQ) ?_
  rintro _ a w1 _ ⟨rfl,hb⟩
  obtain rfl:=si h
  exact hb
 rw [if_neg hc1] at h
 refine wk 10 ((l0.length:Int) != (l1.length:Int)) true (bne_iff_ne.2 hc1) ?_
 refine we_true (by kernel_rfl) ?_
 refine ws fun K13 hK13=>wr [(0,0)]<|gb0 [0] [(4,.bool false)] ?_
 refine gn hK13 ?_
 obtain rfl:=si h
 exact we_ret (pr0 [.tmp 4] [.bool false] ⟨rfl,hS⟩)

/-! punctual/punctuallaw.works -/
abbrev works.Post (w0:World) (r:Bool) (e:Ending) (w:World):Prop:=e=.returned (.bool r)∧St w0 w []
def works.p0 (K : Nat) : Option (((List Int) × (List SPut) × Int × Int × Int) ⊕ Bool) :=
  match mach_Run.f K image.f (List.replicate 8 (0:Int)) ([5,0,0,0]:List Int) with
  | none=>none
  | some r1 =>
   some (.inl (r1.1.Vars,r1.1.Puts,r1.1.Steps,r1.2.Code,r1.2.At))
def works.f (K : Nat) : Option Bool :=
 match works.p0 K with
 | none=>none
 | some (.inl (m3,m4,z4,z5,z6)) =>
  if z5=0 then
   if z4=28 then
    if (m3.length:Int)=8 then
     match m3[0]? with
     | none=>none
     | some e1 =>
      if e1=15 then
       match punctualsame_Same_api_Put.f K m4 ([(⟨1,30⟩:SPut)]:List SPut) with
       | none=>none
       | some r1 =>
        some r1
      else
       some false
    else
     some false
   else
    some false
  else
   some false
 | some (.inr rr1) =>
  some rr1
abbrev works.t1_0:Ord:=(.alt 9 2 (.alt 10 2 .fin .nomore) .nomore)
abbrev works.t1_1:Ord:=(.alt 3 1 (.vals [4] (.vals [5] (.vals [6] works.t1_0))) .nomore)
abbrev works.t1_2:Ord:=(.alt 0 1 works.t1_1 .nomore)
abbrev works.t1_3:Ord:=(.alt 1 1 works.t1_1 .nomore)
abbrev works.t1_4:Ord:=(.alt 0 1 works.t1_3 (.alt 1 1 works.t1_2 .nomore))
abbrev works.t1_5:Ord:=(.alt 2 1 works.t1_1 .nomore)
abbrev works.t1_6:Ord:=(.alt 0 1 works.t1_5 (.alt 2 1 works.t1_2 .nomore))
abbrev works.t1_7:Ord:=(.alt 1 1 works.t1_5 (.alt 2 1 works.t1_3 .nomore))
abbrev works.t1_8:Ord:=(.alt 0 1 works.t1_7 (.alt 1 1 works.t1_6 (.alt 2 1 works.t1_4 .nomore)))
abbrev works.t1_9:Ord:=(.alt 7 1 works.t1_0 .nomore)
abbrev works.t1_10:Ord:=(.alt 3 1 (.vals [4] (.vals [5] (.vals [6] works.t1_9))) (.alt 7 1 works.t1_1 .nomore))
abbrev works.t1_11:Ord:=(.alt 0 1 works.t1_10 (.alt 7 1 works.t1_2 .nomore))
abbrev works.t1_12:Ord:=(.alt 1 1 works.t1_10 (.alt 7 1 works.t1_3 .nomore))
abbrev works.t1_13:Ord:=(.alt 0 1 works.t1_12 (.alt 1 1 works.t1_11 (.alt 7 1 works.t1_4 .nomore)))
abbrev works.t1_14:Ord:=(.alt 2 1 works.t1_10 (.alt 7 1 works.t1_5 .nomore))
abbrev works.t1_15:Ord:=(.alt 0 1 works.t1_14 (.alt 2 1 works.t1_11 (.alt 7 1 works.t1_6 .nomore)))
abbrev works.t1_16:Ord:=(.alt 1 1 works.t1_14 (.alt 2 1 works.t1_12 (.alt 7 1 works.t1_7 .nomore)))
abbrev works.t1_17:Ord:=(.alt 8 1 works.t1_0 .nomore)
abbrev works.t1_18:Ord:=(.alt 3 1 (.vals [4] (.vals [5] (.vals [6] works.t1_17))) (.alt 8 1 works.t1_1 .nomore))
abbrev works.t1_19:Ord:=(.alt 0 1 works.t1_18 (.alt 8 1 works.t1_2 .nomore))
abbrev works.t1_20:Ord:=(.alt 1 1 works.t1_18 (.alt 8 1 works.t1_3 .nomore))
abbrev works.t1_21:Ord:=(.alt 0 1 works.t1_20 (.alt 1 1 works.t1_19 (.alt 8 1 works.t1_4 .nomore)))
abbrev works.t1_22:Ord:=(.alt 2 1 works.t1_18 (.alt 8 1 works.t1_5 .nomore))
abbrev works.t1_23:Ord:=(.alt 0 1 works.t1_22 (.alt 2 1 works.t1_19 (.alt 8 1 works.t1_6 .nomore)))
abbrev works.t1_24:Ord:=(.alt 1 1 works.t1_22 (.alt 2 1 works.t1_20 (.alt 8 1 works.t1_7 .nomore)))
abbrev works.t1_25:Ord:=(.alt 3 1 (.vals [4] (.vals [5] (.vals [6] (.alt 7 1 works.t1_17 (.alt 8 1 works.t1_9 .nomore))))) (.alt 7 1 works.t1_18 (.alt 8 1 works.t1_10 .nomore)))
abbrev works.t1_26:Ord:=(.alt 0 1 works.t1_25 (.alt 7 1 works.t1_19 (.alt 8 1 works.t1_11 .nomore)))
abbrev works.t1_27:Ord:=(.alt 1 1 works.t1_25 (.alt 7 1 works.t1_20 (.alt 8 1 works.t1_12 .nomore)))
abbrev works.t1_28:Ord:=(.alt 2 1 works.t1_25 (.alt 7 1 works.t1_22 (.alt 8 1 works.t1_14 .nomore)))
abbrev works.A0 (w0:World):((List Int)×(List SPut)×Int×Int×Int)→Act→World→Prop:=fun (s:(List Int)×(List SPut)×Int×Int×Int) a w=>∃ (b1:Nat) (b2:Nat) (v1:Value) (v2:Value),St w0 w [Own.blk b1 (.cells #[v1,v2,vI s.2.2.1] 27 (0,0)),Own.blk b2 (.cells #[vI s.2.2.2.1,vI s.2.2.2.2] 30 (0,0)),Own.of v1 3 s.1,Own.of v2 43 s.2.1]∧Frm 38 a [(1,pP b1 0),(2,pP b2 0)]
abbrev works.B0 (w0:World):Bool→Exit→Act→World→Prop:=Rets Tryd.prog Tryd.f4 (works.Post w0)
theorem works_p0 (K:Nat) (w0:World) (o:((List Int)×(List SPut)×Int×Int×Int) ⊕ Bool) (h:works.p0 K=some o) (w:World) (hS:St w0 w []) (Q:Exit→Act→World→Prop) (hQ:∀ x a w,Outs (works.A0 w0) (works.B0 w0) o x a w→Q x a w):WE Tryd.prog 38 (subF Tryd.f4 [1,0]) Q [(0,.bool false)] w:=by
 simp only [works.p0] at h
 refine we_orders3 (by kernel_rfl) [] (.alt 0 1 (.alt 1 1 works.t1_28 (.alt 2 1 works.t1_27 (.alt 7 1 works.t1_24 (.alt 8 1 works.t1_16 .nomore)))) (.alt 1 1 (.alt 0 1 works.t1_28 (.alt 2 1 works.t1_26 (.alt 7 1 works.t1_23 (.alt 8 1 works.t1_15 .nomore)))) (.alt 2 1 (.alt 0 1 works.t1_27 (.alt 1 1 works.t1_26 (.alt 7 1 works.t1_21 (.alt 8 1 works.t1_13 .nomore)))) (.alt 7 1 (.alt 0 1 works.t1_24 (.alt 1 1 works.t1_23 (.alt 2 1 works.t1_21 (.alt 8 1 works.t1_8 .nomore)))) (.alt 8 1 (.alt 0 1 works.t1_16 (.alt 1 1 works.t1_15 (.alt 2 1 works.t1_13 (.alt 7 1 works.t1_8 .nomore)))) .nomore))))) (by kernel_rfl) (by kernel_rfl) ?_
 have hS1:=hS.drew
 refine go3_join works.t1_0 (fun (x:Nat×(Option Addr)×Nat×(Option Addr)×Nat×(SEnded×SFault)×Value×Value×Nat×Nat) e w=>match x with | (b3,Z1,cz1,Z2,cz2,r1,v5,v6,b4,b5)=>e=[(0,.bool false),(1,pP b4 0),(2,pP b5 0),(8,.agg #[v5,v6,vI r1.1.Steps]),(9,.agg #[vI r1.2.Code,vI r1.2.At])]∧(mach_Run.f K image.f (List.replicate 8 (0:Int)) ([5,0,0,0]:List Int)=some r1)∧St w0 w [Own.blk b5 (.cells #[vI 0,vI 0] 30 (0,0)),Own.blk b4 (.cells #[.slice none 0 0,.slice none 0 0,vI 0] 27 (0,0)),Own.of v5 3 r1.1.Vars,Own.of v6 43 r1.1.Puts,Own.blk b3 (.cells #[vI 5,vI 0,vI 0,vI 0] 3 (0,0)),Own.of (.slice Z2 (List.replicate 8 (0:Int)).length cz2) 3 (List.replicate 8 (0:Int)),Own.of (.slice Z1 image.f.length cz1) 35 image.f]) ?_ fun hJ1_3=>?_
 ·rintro ⟨b3,Z1,cz1,Z2,cz2,r1,v5,v6,b4,b5⟩ _ W4 ⟨rfl,hq2,hS13⟩
  replace hS13:St w0 W4 [Own.blk b5 (.cells #[vI 0,vI 0] 30 (0,0)),Own.blk b4 (.cells #[.slice none 0 0,.slice none 0 0,vI 0] 27 (0,0)),Own.of v5 3 r1.1.Vars,Own.of v6 43 r1.1.Puts,Own.blk b3 (.cells #[vI 5,vI 0,vI 0,vI 0] 3 (0,0)),Own.of (.slice Z2 (List.replicate 8 (0:Int)).length cz2) 3 (List.replicate 8 (0:Int)),Own.of (.slice Z1 image.f.length cz1) 35 image.f]:=hS13
  rw [hq2] at h
  simp only [] at h
  refine go_alt3 (fun KK hKK=>?_) ?_
  ·obtain ⟨Z3,cz3,rfl⟩:=hS13.open 2 rfl
   obtain ⟨Z4,cz4,rfl⟩:=hS13.open 3 rfl
   have hS14:=hS13.b 1
   refine gs b4 0 #[.slice none 0 0,.slice none 0 0,vI 0] 27 [(.slice Z3 r1.1.Vars.length cz3),(.slice Z4 r1.1.Puts.length cz4),vI r1.1.Steps] hS14 fun w7 hS15=>?_
   have hS16:=hS15.nc #[(.slice Z3 r1.1.Vars.length cz3),(.slice Z4 r1.1.Puts.length cz4),vI r1.1.Steps] rfl
   refine g2 hKK<|go_alt3 (fun KK hKK=>?_) ?_
   ·have hS17:=hS16.b 1
    refine gs b5 0 #[vI 0,vI 0] 30 [vI r1.2.Code,vI r1.2.At] hS17 fun w8 hS18=>?_
    have hS19:=hS18.nc #[vI r1.2.Code,vI r1.2.At] rfl
    refine g2 hKK ?_
    have hS24:=((((hS19.b 3).b 3).b 2).b 3).takeN 4
    obtain rfl:=si h
    exact go_fin3 fun a hF=>hQ _ _ _ (Outs.again ⟨b4,b5,(.slice Z3 r1.1.Vars.length cz3),(.slice Z4 r1.1.Puts.length cz4),hS24,hF.weaken ea⟩)
   exact go_nomore3
  exact go_nomore3
 refine go3_join works.t1_17 (fun (x:Nat×(Option Addr)×Nat×(Option Addr)×Nat×(SEnded×SFault)×Value×Value×Nat) e w=>match x with | (b3,Z1,cz1,Z2,cz2,r1,v5,v6,b4)=>e=[(0,.bool false),(1,pP b4 0),(8,.agg #[v5,v6,vI r1.1.Steps]),(9,.agg #[vI r1.2.Code,vI r1.2.At])]∧(mach_Run.f K image.f (List.replicate 8 (0:Int)) ([5,0,0,0]:List Int)=some r1)∧St w0 w [Own.blk b4 (.cells #[.slice none 0 0,.slice none 0 0,vI 0] 27 (0,0)),Own.of v5 3 r1.1.Vars,Own.of v6 43 r1.1.Puts,Own.blk b3 (.cells #[vI 5,vI 0,vI 0,vI 0] 3 (0,0)),Own.of (.slice Z2 (List.replicate 8 (0:Int)).length cz2) 3 (List.replicate 8 (0:Int)),Own.of (.slice Z1 image.f.length cz1) 35 image.f]) ?_ fun hJ1_2=>?_
 ·rintro ⟨b3,Z1,cz1,Z2,cz2,r1,v5,v6,b4⟩ _ W3 ⟨rfl,hq2,hS11⟩
  replace hS11:St w0 W3 [Own.blk b4 (.cells #[.slice none 0 0,.slice none 0 0,vI 0] 27 (0,0)),Own.of v5 3 r1.1.Vars,Own.of v6 43 r1.1.Puts,Own.blk b3 (.cells #[vI 5,vI 0,vI 0,vI 0] 3 (0,0)),Own.of (.slice Z2 (List.replicate 8 (0:Int)).length cz2) 3 (List.replicate 8 (0:Int)),Own.of (.slice Z1 image.f.length cz1) 35 image.f]:=hS11
  rw [hq2] at h
  simp only [] at h
  refine go_alt3 (fun KK hKK=>?_) ?_
  ·refine ge_one2<|gw (some 2) (.cells #[vI 0,vI 0] 30) (fun b=>pP b 0) hS11 fun b5 w6 hx3 hS12=>?_
   refine g2 hKK ?_
   have hS31:=((((((hS12.b 6).b 6).b 6).b 6).b 6).b 6).b 6
   exact go3_keep [(0,.bool false),(1,pP b4 0),(2,pP b5 0),(8,.agg #[v5,v6,vI r1.1.Steps]),(9,.agg #[vI r1.2.Code,vI r1.2.At])] ea (hJ1_3 (b3,Z1,cz1,Z2,cz2,r1,v5,v6,b4,b5) _ _ ⟨rfl,hq2,hS31⟩)
  exact go_nomore3
 refine go3_join works.t1_9 (fun (x:Nat×(Option Addr)×Nat×(Option Addr)×Nat×(SEnded×SFault)×Value×Value×Nat) e w=>match x with | (b3,Z1,cz1,Z2,cz2,r1,v5,v6,b4)=>e=[(0,.bool false),(2,pP b4 0),(8,.agg #[v5,v6,vI r1.1.Steps]),(9,.agg #[vI r1.2.Code,vI r1.2.At])]∧(mach_Run.f K image.f (List.replicate 8 (0:Int)) ([5,0,0,0]:List Int)=some r1)∧St w0 w [Own.blk b4 (.cells #[vI 0,vI 0] 30 (0,0)),Own.of v5 3 r1.1.Vars,Own.of v6 43 r1.1.Puts,Own.blk b3 (.cells #[vI 5,vI 0,vI 0,vI 0] 3 (0,0)),Own.of (.slice Z2 (List.replicate 8 (0:Int)).length cz2) 3 (List.replicate 8 (0:Int)),Own.of (.slice Z1 image.f.length cz1) 35 image.f]) ?_ fun hJ1_4=>?_
 ·rintro ⟨b3,Z1,cz1,Z2,cz2,r1,v5,v6,b4⟩ _ W3 ⟨rfl,hq2,hS11⟩
  replace hS11:St w0 W3 [Own.blk b4 (.cells #[vI 0,vI 0] 30 (0,0)),Own.of v5 3 r1.1.Vars,Own.of v6 43 r1.1.Puts,Own.blk b3 (.cells #[vI 5,vI 0,vI 0,vI 0] 3 (0,0)),Own.of (.slice Z2 (List.replicate 8 (0:Int)).length cz2) 3 (List.replicate 8 (0:Int)),Own.of (.slice Z1 image.f.length cz1) 35 image.f]:=hS11
  rw [hq2] at h
  simp only [] at h
  refine go_alt3 (fun KK hKK=>?_) ?_
  ·refine ge_one2<|gw (some 1) (.cells #[.slice none 0 0,.slice none 0 0,vI 0] 27) (fun b=>pP b 0) hS11 fun b5 w6 hx3 hS12=>?_
   refine g2 hKK ?_
   have hS19:=((((((hS12.b 6).b 6).b 6).b 6).b 6).b 5).b 6
   exact go3_keep [(0,.bool false),(1,pP b5 0),(2,pP b4 0),(8,.agg #[v5,v6,vI r1.1.Steps]),(9,.agg #[vI r1.2.Code,vI r1.2.At])] ea (hJ1_3 (b3,Z1,cz1,Z2,cz2,r1,v5,v6,b5,b4) _ _ ⟨rfl,hq2,hS19⟩)
  exact go_nomore3
 refine go3_join works.t1_1 (fun (x:Value×Value×Nat×Nat×Nat) e w=>match x with | (v3,v4,b3,b4,b5)=>e=[(0,.bool false),(1,pP b4 0),(2,pP b5 0),(4,v3),(5,v4),(6,.slice (some ⟨b3,0,none⟩) 4 4)]∧St w0 w [Own.blk b5 (.cells #[vI 0,vI 0] 30 (0,0)),Own.blk b4 (.cells #[.slice none 0 0,.slice none 0 0,vI 0] 27 (0,0)),Own.blk b3 (.cells #[vI 5,vI 0,vI 0,vI 0] 3 (0,0)),Own.of v4 3 (List.replicate 8 (0:Int)),Own.of v3 35 image.f]) ?_ fun hJ1_6=>?_
 ·rintro ⟨v3,v4,b3,b4,b5⟩ _ W4 ⟨rfl,hS11⟩
  replace hS11:St w0 W4 [Own.blk b5 (.cells #[vI 0,vI 0] 30 (0,0)),Own.blk b4 (.cells #[.slice none 0 0,.slice none 0 0,vI 0] 27 (0,0)),Own.blk b3 (.cells #[vI 5,vI 0,vI 0,vI 0] 3 (0,0)),Own.of v4 3 (List.replicate 8 (0:Int)),Own.of v3 35 image.f]:=hS11
  refine go_alt3 (fun KK hKK=>?_) ?_
  ·refine ge_one2 ?_
   obtain ⟨Z1,cz1,rfl⟩:=hS11.open 4 rfl
   obtain ⟨Z2,cz2,rfl⟩:=hS11.open 3 rfl
   rcases hq2:mach_Run.f K image.f (List.replicate 8 (0:Int)) ([5,0,0,0]:List Int) with _ | r1
   ·rw [hq2] at h; cases h
   rw [hq2] at h
   simp only [] at h
   refine ge_call (d:=some 7) (f:=8) (args:=#[(.slice Z1 image.f.length cz1),(.slice Z2 (List.replicate 8 (0:Int)).length cz2),.slice (some ⟨b3,0,none⟩) 4 4]) (by kernel_rfl) (mach_Run_ok K image.f Z1 cz1 (List.replicate 8 (0:Int)) Z2 cz2 ([5,0,0,0]:List Int) (some ⟨b3,0,none⟩) 4 _ (hS11.rdAt 4 rfl) (hS11.capAt 4 rfl) (hS11.rdAt 3 rfl) (hS11.capAt 3 rfl) (hS11.rdBlk 2 ([5,0,0,0]:List Int) rfl rfl rfl) (Nat.le_refl _) _ hq2) ?_
   rintro _ w6 ⟨v5,v6,rfl,hS12⟩
   refine ⟨_,rfl,hS12.below,?_⟩
   have hS13:=hS11.call hS12
   refine g2 hKK<|g30 [4,5,6] [(9,.agg #[vI r1.2.Code,vI r1.2.At]),(8,.agg #[v5,v6,vI r1.1.Steps]),(3,.tuple #[.agg #[v5,v6,vI r1.1.Steps],.agg #[vI r1.2.Code,vI r1.2.At]])] ?_
   have hS20:=((((((hS13.b 6).b 6).b 6).b 4).b 4).b 6).b 6
   exact go3_keep [(0,.bool false),(1,pP b4 0),(2,pP b5 0),(8,.agg #[v5,v6,vI r1.1.Steps]),(9,.agg #[vI r1.2.Code,vI r1.2.At])] ea (hJ1_3 (b3,Z1,cz1,Z2,cz2,r1,v5,v6,b4,b5) _ _ ⟨rfl,hq2,hS20⟩)
  exact go_nomore3
 refine go3_join works.t1_18 (fun (x:Value×Value×Nat×Nat) e w=>match x with | (v3,v4,b3,b4)=>e=[(0,.bool false),(1,pP b4 0),(4,v3),(5,v4),(6,.slice (some ⟨b3,0,none⟩) 4 4)]∧St w0 w [Own.blk b4 (.cells #[.slice none 0 0,.slice none 0 0,vI 0] 27 (0,0)),Own.blk b3 (.cells #[vI 5,vI 0,vI 0,vI 0] 3 (0,0)),Own.of v4 3 (List.replicate 8 (0:Int)),Own.of v3 35 image.f]) ?_ fun hJ1_5=>?_
 ·rintro ⟨v3,v4,b3,b4⟩ _ W3 ⟨rfl,hS9⟩
  replace hS9:St w0 W3 [Own.blk b4 (.cells #[.slice none 0 0,.slice none 0 0,vI 0] 27 (0,0)),Own.blk b3 (.cells #[vI 5,vI 0,vI 0,vI 0] 3 (0,0)),Own.of v4 3 (List.replicate 8 (0:Int)),Own.of v3 35 image.f]:=hS9
  refine go_alt3 (fun KK hKK=>?_) ?_
  ·refine ge_one2 ?_
   obtain ⟨Z1,cz1,rfl⟩:=hS9.open 3 rfl
   obtain ⟨Z2,cz2,rfl⟩:=hS9.open 2 rfl
   rcases hq2:mach_Run.f K image.f (List.replicate 8 (0:Int)) ([5,0,0,0]:List Int) with _ | r1
   ·rw [hq2] at h; cases h
   rw [hq2] at h
   simp only [] at h
   refine ge_call (d:=some 7) (f:=8) (args:=#[(.slice Z1 image.f.length cz1),(.slice Z2 (List.replicate 8 (0:Int)).length cz2),.slice (some ⟨b3,0,none⟩) 4 4]) (by kernel_rfl) (mach_Run_ok K image.f Z1 cz1 (List.replicate 8 (0:Int)) Z2 cz2 ([5,0,0,0]:List Int) (some ⟨b3,0,none⟩) 4 _ (hS9.rdAt 3 rfl) (hS9.capAt 3 rfl) (hS9.rdAt 2 rfl) (hS9.capAt 2 rfl) (hS9.rdBlk 1 ([5,0,0,0]:List Int) rfl rfl rfl) (Nat.le_refl _) _ hq2) ?_
   rintro _ w5 ⟨v5,v6,rfl,hS10⟩
   refine ⟨_,rfl,hS10.below,?_⟩
   have hS11:=hS9.call hS10
   refine g2 hKK<|g30 [4,5,6] [(9,.agg #[vI r1.2.Code,vI r1.2.At]),(8,.agg #[v5,v6,vI r1.1.Steps]),(3,.tuple #[.agg #[v5,v6,vI r1.1.Steps],.agg #[vI r1.2.Code,vI r1.2.At]])] ?_
   have hS17:=(((((hS11.b 5).b 5).b 5).b 4).b 4).b 5
   exact go3_keep [(0,.bool false),(1,pP b4 0),(8,.agg #[v5,v6,vI r1.1.Steps]),(9,.agg #[vI r1.2.Code,vI r1.2.At])] ea (hJ1_2 (b3,Z1,cz1,Z2,cz2,r1,v5,v6,b4) _ _ ⟨rfl,hq2,hS17⟩)
  refine go_alt3 (fun KK hKK=>?_) ?_
  ·refine ge_one2<|gw (some 2) (.cells #[vI 0,vI 0] 30) (fun b=>pP b 0) hS9 fun b5 w5 hx3 hS10=>?_
   refine g2 hKK ?_
   have hS25:=((((hS10.b 4).b 4).b 4).b 4).b 4
   exact go3_keep [(0,.bool false),(1,pP b4 0),(2,pP b5 0),(4,v3),(5,v4),(6,.slice (some ⟨b3,0,none⟩) 4 4)] ea (hJ1_6 (v3,v4,b3,b4,b5) _ _ ⟨rfl,hS25⟩)
  exact go_nomore3
 refine go3_join works.t1_10 (fun (x:Value×Value×Nat×Nat) e w=>match x with | (v3,v4,b3,b4)=>e=[(0,.bool false),(2,pP b4 0),(4,v3),(5,v4),(6,.slice (some ⟨b3,0,none⟩) 4 4)]∧St w0 w [Own.blk b4 (.cells #[vI 0,vI 0] 30 (0,0)),Own.blk b3 (.cells #[vI 5,vI 0,vI 0,vI 0] 3 (0,0)),Own.of v4 3 (List.replicate 8 (0:Int)),Own.of v3 35 image.f]) ?_ fun hJ1_7=>?_
 ·rintro ⟨v3,v4,b3,b4⟩ _ W3 ⟨rfl,hS9⟩
  replace hS9:St w0 W3 [Own.blk b4 (.cells #[vI 0,vI 0] 30 (0,0)),Own.blk b3 (.cells #[vI 5,vI 0,vI 0,vI 0] 3 (0,0)),Own.of v4 3 (List.replicate 8 (0:Int)),Own.of v3 35 image.f]:=hS9
  refine go_alt3 (fun KK hKK=>?_) ?_
  ·refine ge_one2 ?_
   obtain ⟨Z1,cz1,rfl⟩:=hS9.open 3 rfl
   obtain ⟨Z2,cz2,rfl⟩:=hS9.open 2 rfl
   rcases hq2:mach_Run.f K image.f (List.replicate 8 (0:Int)) ([5,0,0,0]:List Int) with _ | r1
   ·rw [hq2] at h; cases h
   rw [hq2] at h
   simp only [] at h
   refine ge_call (d:=some 7) (f:=8) (args:=#[(.slice Z1 image.f.length cz1),(.slice Z2 (List.replicate 8 (0:Int)).length cz2),.slice (some ⟨b3,0,none⟩) 4 4]) (by kernel_rfl) (mach_Run_ok K image.f Z1 cz1 (List.replicate 8 (0:Int)) Z2 cz2 ([5,0,0,0]:List Int) (some ⟨b3,0,none⟩) 4 _ (hS9.rdAt 3 rfl) (hS9.capAt 3 rfl) (hS9.rdAt 2 rfl) (hS9.capAt 2 rfl) (hS9.rdBlk 1 ([5,0,0,0]:List Int) rfl rfl rfl) (Nat.le_refl _) _ hq2) ?_
   rintro _ w5 ⟨v5,v6,rfl,hS10⟩
   refine ⟨_,rfl,hS10.below,?_⟩
   have hS11:=hS9.call hS10
   refine g2 hKK<|g30 [4,5,6] [(9,.agg #[vI r1.2.Code,vI r1.2.At]),(8,.agg #[v5,v6,vI r1.1.Steps]),(3,.tuple #[.agg #[v5,v6,vI r1.1.Steps],.agg #[vI r1.2.Code,vI r1.2.At]])] ?_
   have hS17:=(((((hS11.b 5).b 5).b 5).b 4).b 4).b 5
   exact go3_keep [(0,.bool false),(2,pP b4 0),(8,.agg #[v5,v6,vI r1.1.Steps]),(9,.agg #[vI r1.2.Code,vI r1.2.At])] ea (hJ1_4 (b3,Z1,cz1,Z2,cz2,r1,v5,v6,b4) _ _ ⟨rfl,hq2,hS17⟩)
  refine go_alt3 (fun KK hKK=>?_) ?_
  ·refine ge_one2<|gw (some 1) (.cells #[.slice none 0 0,.slice none 0 0,vI 0] 27) (fun b=>pP b 0) hS9 fun b5 w5 hx3 hS10=>?_
   refine g2 hKK ?_
   have hS15:=((((hS10.b 4).b 4).b 4).b 3).b 4
   exact go3_keep [(0,.bool false),(1,pP b5 0),(2,pP b4 0),(4,v3),(5,v4),(6,.slice (some ⟨b3,0,none⟩) 4 4)] ea (hJ1_6 (v3,v4,b3,b5,b4) _ _ ⟨rfl,hS15⟩)
  exact go_nomore3
 refine go3_join works.t1_25 (fun (x:Value×Value×Nat) e w=>match x with | (v3,v4,b3)=>e=[(0,.bool false),(4,v3),(5,v4),(6,.slice (some ⟨b3,0,none⟩) 4 4)]∧St w0 w [Own.blk b3 (.cells #[vI 5,vI 0,vI 0,vI 0] 3 (0,0)),Own.of v4 3 (List.replicate 8 (0:Int)),Own.of v3 35 image.f]) ?_ fun hJ1_1=>?_
 ·rintro ⟨v3,v4,b3⟩ _ W2 ⟨rfl,hS7⟩
  replace hS7:St w0 W2 [Own.blk b3 (.cells #[vI 5,vI 0,vI 0,vI 0] 3 (0,0)),Own.of v4 3 (List.replicate 8 (0:Int)),Own.of v3 35 image.f]:=hS7
  refine go_alt3 (fun KK hKK=>?_) ?_
  ·refine ge_one2 ?_
   obtain ⟨Z1,cz1,rfl⟩:=hS7.open 2 rfl
   obtain ⟨Z2,cz2,rfl⟩:=hS7.open 1 rfl
   rcases hq2:mach_Run.f K image.f (List.replicate 8 (0:Int)) ([5,0,0,0]:List Int) with _ | r1
   ·rw [hq2] at h; cases h
   rw [hq2] at h
   simp only [] at h
   refine ge_call (d:=some 7) (f:=8) (args:=#[(.slice Z1 image.f.length cz1),(.slice Z2 (List.replicate 8 (0:Int)).length cz2),.slice (some ⟨b3,0,none⟩) 4 4]) (by kernel_rfl) (mach_Run_ok K image.f Z1 cz1 (List.replicate 8 (0:Int)) Z2 cz2 ([5,0,0,0]:List Int) (some ⟨b3,0,none⟩) 4 _ (hS7.rdAt 2 rfl) (hS7.capAt 2 rfl) (hS7.rdAt 1 rfl) (hS7.capAt 1 rfl) (hS7.rdBlk 0 ([5,0,0,0]:List Int) rfl rfl rfl) (Nat.le_refl _) _ hq2) ?_
   rintro _ w4 ⟨v5,v6,rfl,hS8⟩
   refine ⟨_,rfl,hS8.below,?_⟩
   have hS9:=hS7.call hS8
   refine g2 hKK<|g30 [4,5,6] [(9,.agg #[vI r1.2.Code,vI r1.2.At]),(8,.agg #[v5,v6,vI r1.1.Steps]),(3,.tuple #[.agg #[v5,v6,vI r1.1.Steps],.agg #[vI r1.2.Code,vI r1.2.At]])] ?_
   refine go_alt3 (fun KK hKK=>?_) ?_
   ·refine ge_one2<|gw (some 1) (.cells #[.slice none 0 0,.slice none 0 0,vI 0] 27) (fun b=>pP b 0) hS9 fun b4 w5 hx2 hS10=>?_
    refine g2 hKK ?_
    have hS37:=(((((hS10.b 5).b 5).b 5).b 5).b 5).b 5
    exact go3_keep [(0,.bool false),(1,pP b4 0),(8,.agg #[v5,v6,vI r1.1.Steps]),(9,.agg #[vI r1.2.Code,vI r1.2.At])] ea (hJ1_2 (b3,Z1,cz1,Z2,cz2,r1,v5,v6,b4) _ _ ⟨rfl,hq2,hS37⟩)
   refine go_alt3 (fun KK hKK=>?_) ?_
   ·refine ge_one2<|gw (some 2) (.cells #[vI 0,vI 0] 30) (fun b=>pP b 0) hS9 fun b4 w5 hx2 hS10=>?_
    refine g2 hKK ?_
    have hS25:=(((((hS10.b 5).b 5).b 5).b 5).b 5).b 5
    exact go3_keep [(0,.bool false),(2,pP b4 0),(8,.agg #[v5,v6,vI r1.1.Steps]),(9,.agg #[vI r1.2.Code,vI r1.2.At])] ea (hJ1_4 (b3,Z1,cz1,Z2,cz2,r1,v5,v6,b4) _ _ ⟨rfl,hq2,hS25⟩)
   exact go_nomore3
  refine go_alt3 (fun KK hKK=>?_) ?_
  ·refine ge_one2<|gw (some 1) (.cells #[.slice none 0 0,.slice none 0 0,vI 0] 27) (fun b=>pP b 0) hS7 fun b4 w4 hx2 hS8=>?_
   refine g2 hKK ?_
   have hS29:=(((hS8.b 3).b 3).b 3).b 3
   exact go3_keep [(0,.bool false),(1,pP b4 0),(4,v3),(5,v4),(6,.slice (some ⟨b3,0,none⟩) 4 4)] ea (hJ1_5 (v3,v4,b3,b4) _ _ ⟨rfl,hS29⟩)
  refine go_alt3 (fun KK hKK=>?_) ?_
  ·refine ge_one2<|gw (some 2) (.cells #[vI 0,vI 0] 30) (fun b=>pP b 0) hS7 fun b4 w4 hx2 hS8=>?_
   refine g2 hKK ?_
   have hS19:=(((hS8.b 3).b 3).b 3).b 3
   exact go3_keep [(0,.bool false),(2,pP b4 0),(4,v3),(5,v4),(6,.slice (some ⟨b3,0,none⟩) 4 4)] ea (hJ1_7 (v3,v4,b3,b4) _ _ ⟨rfl,hS19⟩)
  exact go_nomore3
 refine go3_join works.t1_5 (fun (x:Value×Value×Nat×Nat) e w=>match x with | (v3,v4,b3,b4)=>e=[(0,.bool false),(1,pP b3 0),(2,pP b4 0),(4,v3),(5,v4)]∧St w0 w [Own.blk b4 (.cells #[vI 0,vI 0] 30 (0,0)),Own.blk b3 (.cells #[.slice none 0 0,.slice none 0 0,vI 0] 27 (0,0)),Own.of v4 3 (List.replicate 8 (0:Int)),Own.of v3 35 image.f]) ?_ fun hJ1_9=>?_
 ·rintro ⟨v3,v4,b3,b4⟩ _ W3 ⟨rfl,hS9⟩
  replace hS9:St w0 W3 [Own.blk b4 (.cells #[vI 0,vI 0] 30 (0,0)),Own.blk b3 (.cells #[.slice none 0 0,.slice none 0 0,vI 0] 27 (0,0)),Own.of v4 3 (List.replicate 8 (0:Int)),Own.of v3 35 image.f]:=hS9
  refine go_alt3 (fun KK hKK=>?_) ?_
  ·refine ge_one2<|gw (some 6) (.cells #[vI 5,vI 0,vI 0,vI 0] 3) (fun b=>.slice (some ⟨b,0,none⟩) 4 4) hS9 fun b5 w5 hx3 hS10=>?_
   refine g2 hKK ?_
   have hS15:=((((hS10.b 4).b 4).b 2).b 4).b 4
   exact go3_keep [(0,.bool false),(1,pP b3 0),(2,pP b4 0),(4,v3),(5,v4),(6,.slice (some ⟨b5,0,none⟩) 4 4)] ea (hJ1_6 (v3,v4,b5,b3,b4) _ _ ⟨rfl,hS15⟩)
  exact go_nomore3
 refine go3_join works.t1_22 (fun (x:Value×Value×Nat) e w=>match x with | (v3,v4,b3)=>e=[(0,.bool false),(1,pP b3 0),(4,v3),(5,v4)]∧St w0 w [Own.blk b3 (.cells #[.slice none 0 0,.slice none 0 0,vI 0] 27 (0,0)),Own.of v4 3 (List.replicate 8 (0:Int)),Own.of v3 35 image.f]) ?_ fun hJ1_8=>?_
 ·rintro ⟨v3,v4,b3⟩ _ W2 ⟨rfl,hS7⟩
  replace hS7:St w0 W2 [Own.blk b3 (.cells #[.slice none 0 0,.slice none 0 0,vI 0] 27 (0,0)),Own.of v4 3 (List.replicate 8 (0:Int)),Own.of v3 35 image.f]:=hS7
  refine go_alt3 (fun KK hKK=>?_) ?_
  ·refine ge_one2<|gw (some 6) (.cells #[vI 5,vI 0,vI 0,vI 0] 3) (fun b=>.slice (some ⟨b,0,none⟩) 4 4) hS7 fun b4 w4 hx2 hS8=>?_
   refine g2 hKK ?_
   have hS12:=(((hS8.b 3).b 3).b 2).b 3
   exact go3_keep [(0,.bool false),(1,pP b3 0),(4,v3),(5,v4),(6,.slice (some ⟨b4,0,none⟩) 4 4)] ea (hJ1_5 (v3,v4,b4,b3) _ _ ⟨rfl,hS12⟩)
  refine go_alt3 (fun KK hKK=>?_) ?_
  ·refine ge_one2<|gw (some 2) (.cells #[vI 0,vI 0] 30) (fun b=>pP b 0) hS7 fun b4 w4 hx2 hS8=>?_
   refine g2 hKK ?_
   have hS19:=(((hS8.b 3).b 3).b 3).b 3
   exact go3_keep [(0,.bool false),(1,pP b3 0),(2,pP b4 0),(4,v3),(5,v4)] ea (hJ1_9 (v3,v4,b3,b4) _ _ ⟨rfl,hS19⟩)
  exact go_nomore3
 refine go3_join works.t1_14 (fun (x:Value×Value×Nat) e w=>match x with | (v3,v4,b3)=>e=[(0,.bool false),(2,pP b3 0),(4,v3),(5,v4)]∧St w0 w [Own.blk b3 (.cells #[vI 0,vI 0] 30 (0,0)),Own.of v4 3 (List.replicate 8 (0:Int)),Own.of v3 35 image.f]) ?_ fun hJ1_10=>?_
 ·rintro ⟨v3,v4,b3⟩ _ W2 ⟨rfl,hS7⟩
  replace hS7:St w0 W2 [Own.blk b3 (.cells #[vI 0,vI 0] 30 (0,0)),Own.of v4 3 (List.replicate 8 (0:Int)),Own.of v3 35 image.f]:=hS7
  refine go_alt3 (fun KK hKK=>?_) ?_
  ·refine ge_one2<|gw (some 6) (.cells #[vI 5,vI 0,vI 0,vI 0] 3) (fun b=>.slice (some ⟨b,0,none⟩) 4 4) hS7 fun b4 w4 hx2 hS8=>?_
   refine g2 hKK ?_
   have hS12:=(((hS8.b 3).b 3).b 2).b 3
   exact go3_keep [(0,.bool false),(2,pP b3 0),(4,v3),(5,v4),(6,.slice (some ⟨b4,0,none⟩) 4 4)] ea (hJ1_7 (v3,v4,b4,b3) _ _ ⟨rfl,hS12⟩)
  refine go_alt3 (fun KK hKK=>?_) ?_
  ·refine ge_one2<|gw (some 1) (.cells #[.slice none 0 0,.slice none 0 0,vI 0] 27) (fun b=>pP b 0) hS7 fun b4 w4 hx2 hS8=>?_
   refine g2 hKK ?_
   have hS12:=(((hS8.b 3).b 3).b 2).b 3
   exact go3_keep [(0,.bool false),(1,pP b4 0),(2,pP b3 0),(4,v3),(5,v4)] ea (hJ1_9 (v3,v4,b4,b3) _ _ ⟨rfl,hS12⟩)
  exact go_nomore3
 refine go3_join works.t1_28 (fun (x:Value×Value) e w=>match x with | (v3,v4)=>e=[(0,.bool false),(4,v3),(5,v4)]∧St w0 w [Own.of v4 3 (List.replicate 8 (0:Int)),Own.of v3 35 image.f]) ?_ fun hJ1_0=>?_
 ·rintro ⟨v3,v4⟩ _ W1 ⟨rfl,hS5⟩
  replace hS5:St w0 W1 [Own.of v4 3 (List.replicate 8 (0:Int)),Own.of v3 35 image.f]:=hS5
  refine go_alt3 (fun KK hKK=>?_) ?_
  ·refine ge_one2<|gw (some 6) (.cells #[vI 5,vI 0,vI 0,vI 0] 3) (fun b=>.slice (some ⟨b,0,none⟩) 4 4) hS5 fun b3 w3 hx1 hS6=>?_
   refine g2 hKK ?_
   have hS22:=((hS6.b 2).b 2).b 2
   exact go3_keep [(0,.bool false),(4,v3),(5,v4),(6,.slice (some ⟨b3,0,none⟩) 4 4)] ea (hJ1_1 (v3,v4,b3) _ _ ⟨rfl,hS22⟩)
  refine go_alt3 (fun KK hKK=>?_) ?_
  ·refine ge_one2<|gw (some 1) (.cells #[.slice none 0 0,.slice none 0 0,vI 0] 27) (fun b=>pP b 0) hS5 fun b3 w3 hx1 hS6=>?_
   refine g2 hKK ?_
   have hS22:=((hS6.b 2).b 2).b 2
   exact go3_keep [(0,.bool false),(1,pP b3 0),(4,v3),(5,v4)] ea (hJ1_8 (v3,v4,b3) _ _ ⟨rfl,hS22⟩)
  refine go_alt3 (fun KK hKK=>?_) ?_
  ·refine ge_one2<|gw (some 2) (.cells #[vI 0,vI 0] 30) (fun b=>pP b 0) hS5 fun b3 w3 hx1 hS6=>?_
   refine g2 hKK ?_
   have hS15:=((hS6.b 2).b 2).b 2
   exact go3_keep [(0,.bool false),(2,pP b3 0),(4,v3),(5,v4)] ea (hJ1_10 (v3,v4,b3) _ _ ⟨rfl,hS15⟩)
  exact go_nomore3
 refine go3_join works.t1_3 (fun (x:Value×Nat×Nat×Nat) e w=>match x with | (v3,b3,b4,b5)=>e=[(0,.bool false),(1,pP b4 0),(2,pP b5 0),(4,v3),(6,.slice (some ⟨b3,0,none⟩) 4 4)]∧St w0 w [Own.blk b5 (.cells #[vI 0,vI 0] 30 (0,0)),Own.blk b4 (.cells #[.slice none 0 0,.slice none 0 0,vI 0] 27 (0,0)),Own.blk b3 (.cells #[vI 5,vI 0,vI 0,vI 0] 3 (0,0)),Own.of v3 35 image.f]) ?_ fun hJ1_13=>?_
 ·rintro ⟨v3,b3,b4,b5⟩ _ W3 ⟨rfl,hS9⟩
  replace hS9:St w0 W3 [Own.blk b5 (.cells #[vI 0,vI 0] 30 (0,0)),Own.blk b4 (.cells #[.slice none 0 0,.slice none 0 0,vI 0] 27 (0,0)),Own.blk b3 (.cells #[vI 5,vI 0,vI 0,vI 0] 3 (0,0)),Own.of v3 35 image.f]:=hS9
  refine go_alt3 (fun KK hKK=>?_) ?_
  ·refine ge_one2<|ge_make (α:=Int) (d:=5) (t:=23) (el:=3) (bytes:=8) (l:=8) (c:=8) (x:=(.const (vI 8))) (y:=(.const (vI 8))) (ty:=23) (k1:=.i64) (k2:=.i64) (li:=8) (ci:=8) (z:=vI 0) (z':=(0:Int)) (by kernel_rfl) (by kernel_rfl) (by kernel_rfl) rfl rfl (by kernel_rfl) (by kernel_rfl) rfl hS9 (Nat.le_refl _) rfl (by omega) fun v4 w5 _ hS10=>?_
   refine g2 hKK ?_
   have hS15:=((((hS10.b 4).b 1).b 4).b 4).b 4
   exact go3_keep [(0,.bool false),(1,pP b4 0),(2,pP b5 0),(4,v3),(5,v4),(6,.slice (some ⟨b3,0,none⟩) 4 4)] ea (hJ1_6 (v3,v4,b3,b4,b5) _ _ ⟨rfl,hS15⟩)
  exact go_nomore3
 refine go3_join works.t1_20 (fun (x:Value×Nat×Nat) e w=>match x with | (v3,b3,b4)=>e=[(0,.bool false),(1,pP b4 0),(4,v3),(6,.slice (some ⟨b3,0,none⟩) 4 4)]∧St w0 w [Own.blk b4 (.cells #[.slice none 0 0,.slice none 0 0,vI 0] 27 (0,0)),Own.blk b3 (.cells #[vI 5,vI 0,vI 0,vI 0] 3 (0,0)),Own.of v3 35 image.f]) ?_ fun hJ1_12=>?_
 ·rintro ⟨v3,b3,b4⟩ _ W2 ⟨rfl,hS7⟩
  replace hS7:St w0 W2 [Own.blk b4 (.cells #[.slice none 0 0,.slice none 0 0,vI 0] 27 (0,0)),Own.blk b3 (.cells #[vI 5,vI 0,vI 0,vI 0] 3 (0,0)),Own.of v3 35 image.f]:=hS7
  refine go_alt3 (fun KK hKK=>?_) ?_
  ·refine ge_one2<|ge_make (α:=Int) (d:=5) (t:=23) (el:=3) (bytes:=8) (l:=8) (c:=8) (x:=(.const (vI 8))) (y:=(.const (vI 8))) (ty:=23) (k1:=.i64) (k2:=.i64) (li:=8) (ci:=8) (z:=vI 0) (z':=(0:Int)) (by kernel_rfl) (by kernel_rfl) (by kernel_rfl) rfl rfl (by kernel_rfl) (by kernel_rfl) rfl hS7 (Nat.le_refl _) rfl (by omega) fun v4 w4 _ hS8=>?_
   refine g2 hKK ?_
   have hS12:=(((hS8.b 3).b 1).b 3).b 3
   exact go3_keep [(0,.bool false),(1,pP b4 0),(4,v3),(5,v4),(6,.slice (some ⟨b3,0,none⟩) 4 4)] ea (hJ1_5 (v3,v4,b3,b4) _ _ ⟨rfl,hS12⟩)
  refine go_alt3 (fun KK hKK=>?_) ?_
  ·refine ge_one2<|gw (some 2) (.cells #[vI 0,vI 0] 30) (fun b=>pP b 0) hS7 fun b5 w4 hx3 hS8=>?_
   refine g2 hKK ?_
   have hS19:=(((hS8.b 3).b 3).b 3).b 3
   exact go3_keep [(0,.bool false),(1,pP b4 0),(2,pP b5 0),(4,v3),(6,.slice (some ⟨b3,0,none⟩) 4 4)] ea (hJ1_13 (v3,b3,b4,b5) _ _ ⟨rfl,hS19⟩)
  exact go_nomore3
 refine go3_join works.t1_12 (fun (x:Value×Nat×Nat) e w=>match x with | (v3,b3,b4)=>e=[(0,.bool false),(2,pP b4 0),(4,v3),(6,.slice (some ⟨b3,0,none⟩) 4 4)]∧St w0 w [Own.blk b4 (.cells #[vI 0,vI 0] 30 (0,0)),Own.blk b3 (.cells #[vI 5,vI 0,vI 0,vI 0] 3 (0,0)),Own.of v3 35 image.f]) ?_ fun hJ1_14=>?_
 ·rintro ⟨v3,b3,b4⟩ _ W2 ⟨rfl,hS7⟩
  replace hS7:St w0 W2 [Own.blk b4 (.cells #[vI 0,vI 0] 30 (0,0)),Own.blk b3 (.cells #[vI 5,vI 0,vI 0,vI 0] 3 (0,0)),Own.of v3 35 image.f]:=hS7
  refine go_alt3 (fun KK hKK=>?_) ?_
  ·refine ge_one2<|ge_make (α:=Int) (d:=5) (t:=23) (el:=3) (bytes:=8) (l:=8) (c:=8) (x:=(.const (vI 8))) (y:=(.const (vI 8))) (ty:=23) (k1:=.i64) (k2:=.i64) (li:=8) (ci:=8) (z:=vI 0) (z':=(0:Int)) (by kernel_rfl) (by kernel_rfl) (by kernel_rfl) rfl rfl (by kernel_rfl) (by kernel_rfl) rfl hS7 (Nat.le_refl _) rfl (by omega) fun v4 w4 _ hS8=>?_
   refine g2 hKK ?_
   have hS12:=(((hS8.b 3).b 1).b 3).b 3
   exact go3_keep [(0,.bool false),(2,pP b4 0),(4,v3),(5,v4),(6,.slice (some ⟨b3,0,none⟩) 4 4)] ea (hJ1_7 (v3,v4,b3,b4) _ _ ⟨rfl,hS12⟩)
  refine go_alt3 (fun KK hKK=>?_) ?_
  ·refine ge_one2<|gw (some 1) (.cells #[.slice none 0 0,.slice none 0 0,vI 0] 27) (fun b=>pP b 0) hS7 fun b5 w4 hx3 hS8=>?_
   refine g2 hKK ?_
   have hS12:=(((hS8.b 3).b 3).b 2).b 3
   exact go3_keep [(0,.bool false),(1,pP b5 0),(2,pP b4 0),(4,v3),(6,.slice (some ⟨b3,0,none⟩) 4 4)] ea (hJ1_13 (v3,b3,b5,b4) _ _ ⟨rfl,hS12⟩)
  exact go_nomore3
 refine go3_join works.t1_27 (fun (x:Value×Nat) e w=>match x with | (v3,b3)=>e=[(0,.bool false),(4,v3),(6,.slice (some ⟨b3,0,none⟩) 4 4)]∧St w0 w [Own.blk b3 (.cells #[vI 5,vI 0,vI 0,vI 0] 3 (0,0)),Own.of v3 35 image.f]) ?_ fun hJ1_11=>?_
 ·rintro ⟨v3,b3⟩ _ W1 ⟨rfl,hS5⟩
  replace hS5:St w0 W1 [Own.blk b3 (.cells #[vI 5,vI 0,vI 0,vI 0] 3 (0,0)),Own.of v3 35 image.f]:=hS5
  refine go_alt3 (fun KK hKK=>?_) ?_
  ·refine ge_one2<|ge_make (α:=Int) (d:=5) (t:=23) (el:=3) (bytes:=8) (l:=8) (c:=8) (x:=(.const (vI 8))) (y:=(.const (vI 8))) (ty:=23) (k1:=.i64) (k2:=.i64) (li:=8) (ci:=8) (z:=vI 0) (z':=(0:Int)) (by kernel_rfl) (by kernel_rfl) (by kernel_rfl) rfl rfl (by kernel_rfl) (by kernel_rfl) rfl hS5 (Nat.le_refl _) rfl (by omega) fun v4 w3 _ hS6=>?_
   refine g2 hKK ?_
   have hS9:=((hS6.b 2).b 1).b 2
   exact go3_keep [(0,.bool false),(4,v3),(5,v4),(6,.slice (some ⟨b3,0,none⟩) 4 4)] ea (hJ1_1 (v3,v4,b3) _ _ ⟨rfl,hS9⟩)
  refine go_alt3 (fun KK hKK=>?_) ?_
  ·refine ge_one2<|gw (some 1) (.cells #[.slice none 0 0,.slice none 0 0,vI 0] 27) (fun b=>pP b 0) hS5 fun b4 w3 hx2 hS6=>?_
   refine g2 hKK ?_
   have hS22:=((hS6.b 2).b 2).b 2
   exact go3_keep [(0,.bool false),(1,pP b4 0),(4,v3),(6,.slice (some ⟨b3,0,none⟩) 4 4)] ea (hJ1_12 (v3,b3,b4) _ _ ⟨rfl,hS22⟩)
  refine go_alt3 (fun KK hKK=>?_) ?_
  ·refine ge_one2<|gw (some 2) (.cells #[vI 0,vI 0] 30) (fun b=>pP b 0) hS5 fun b4 w3 hx2 hS6=>?_
   refine g2 hKK ?_
   have hS15:=((hS6.b 2).b 2).b 2
   exact go3_keep [(0,.bool false),(2,pP b4 0),(4,v3),(6,.slice (some ⟨b3,0,none⟩) 4 4)] ea (hJ1_14 (v3,b3,b4) _ _ ⟨rfl,hS15⟩)
  exact go_nomore3
 refine go3_join works.t1_7 (fun (x:Value×Nat×Nat) e w=>match x with | (v3,b3,b4)=>e=[(0,.bool false),(1,pP b3 0),(2,pP b4 0),(4,v3)]∧St w0 w [Own.blk b4 (.cells #[vI 0,vI 0] 30 (0,0)),Own.blk b3 (.cells #[.slice none 0 0,.slice none 0 0,vI 0] 27 (0,0)),Own.of v3 35 image.f]) ?_ fun hJ1_16=>?_
 ·rintro ⟨v3,b3,b4⟩ _ W2 ⟨rfl,hS7⟩
  replace hS7:St w0 W2 [Own.blk b4 (.cells #[vI 0,vI 0] 30 (0,0)),Own.blk b3 (.cells #[.slice none 0 0,.slice none 0 0,vI 0] 27 (0,0)),Own.of v3 35 image.f]:=hS7
  refine go_alt3 (fun KK hKK=>?_) ?_
  ·refine ge_one2<|ge_make (α:=Int) (d:=5) (t:=23) (el:=3) (bytes:=8) (l:=8) (c:=8) (x:=(.const (vI 8))) (y:=(.const (vI 8))) (ty:=23) (k1:=.i64) (k2:=.i64) (li:=8) (ci:=8) (z:=vI 0) (z':=(0:Int)) (by kernel_rfl) (by kernel_rfl) (by kernel_rfl) rfl rfl (by kernel_rfl) (by kernel_rfl) rfl hS7 (Nat.le_refl _) rfl (by omega) fun v4 w4 _ hS8=>?_
   refine g2 hKK ?_
   have hS12:=(((hS8.b 3).b 1).b 3).b 3
   exact go3_keep [(0,.bool false),(1,pP b3 0),(2,pP b4 0),(4,v3),(5,v4)] ea (hJ1_9 (v3,v4,b3,b4) _ _ ⟨rfl,hS12⟩)
  refine go_alt3 (fun KK hKK=>?_) ?_
  ·refine ge_one2<|gw (some 6) (.cells #[vI 5,vI 0,vI 0,vI 0] 3) (fun b=>.slice (some ⟨b,0,none⟩) 4 4) hS7 fun b5 w4 hx3 hS8=>?_
   refine g2 hKK ?_
   have hS12:=(((hS8.b 3).b 1).b 3).b 3
   exact go3_keep [(0,.bool false),(1,pP b3 0),(2,pP b4 0),(4,v3),(6,.slice (some ⟨b5,0,none⟩) 4 4)] ea (hJ1_13 (v3,b5,b3,b4) _ _ ⟨rfl,hS12⟩)
  exact go_nomore3
 refine go3_join works.t1_24 (fun (x:Value×Nat) e w=>match x with | (v3,b3)=>e=[(0,.bool false),(1,pP b3 0),(4,v3)]∧St w0 w [Own.blk b3 (.cells #[.slice none 0 0,.slice none 0 0,vI 0] 27 (0,0)),Own.of v3 35 image.f]) ?_ fun hJ1_15=>?_
 ·rintro ⟨v3,b3⟩ _ W1 ⟨rfl,hS5⟩
  replace hS5:St w0 W1 [Own.blk b3 (.cells #[.slice none 0 0,.slice none 0 0,vI 0] 27 (0,0)),Own.of v3 35 image.f]:=hS5
  refine go_alt3 (fun KK hKK=>?_) ?_
  ·refine ge_one2<|ge_make (α:=Int) (d:=5) (t:=23) (el:=3) (bytes:=8) (l:=8) (c:=8) (x:=(.const (vI 8))) (y:=(.const (vI 8))) (ty:=23) (k1:=.i64) (k2:=.i64) (li:=8) (ci:=8) (z:=vI 0) (z':=(0:Int)) (by kernel_rfl) (by kernel_rfl) (by kernel_rfl) rfl rfl (by kernel_rfl) (by kernel_rfl) rfl hS5 (Nat.le_refl _) rfl (by omega) fun v4 w3 _ hS6=>?_
   refine g2 hKK ?_
   have hS9:=((hS6.b 2).b 1).b 2
   exact go3_keep [(0,.bool false),(1,pP b3 0),(4,v3),(5,v4)] ea (hJ1_8 (v3,v4,b3) _ _ ⟨rfl,hS9⟩)
  refine go_alt3 (fun KK hKK=>?_) ?_
  ·refine ge_one2<|gw (some 6) (.cells #[vI 5,vI 0,vI 0,vI 0] 3) (fun b=>.slice (some ⟨b,0,none⟩) 4 4) hS5 fun b4 w3 hx2 hS6=>?_
   refine g2 hKK ?_
   have hS9:=((hS6.b 2).b 1).b 2
   exact go3_keep [(0,.bool false),(1,pP b3 0),(4,v3),(6,.slice (some ⟨b4,0,none⟩) 4 4)] ea (hJ1_12 (v3,b4,b3) _ _ ⟨rfl,hS9⟩)
  refine go_alt3 (fun KK hKK=>?_) ?_
  ·refine ge_one2<|gw (some 2) (.cells #[vI 0,vI 0] 30) (fun b=>pP b 0) hS5 fun b4 w3 hx2 hS6=>?_
   refine g2 hKK ?_
   have hS15:=((hS6.b 2).b 2).b 2
   exact go3_keep [(0,.bool false),(1,pP b3 0),(2,pP b4 0),(4,v3)] ea (hJ1_16 (v3,b3,b4) _ _ ⟨rfl,hS15⟩)
  exact go_nomore3
 refine go3_join works.t1_16 (fun (x:Value×Nat) e w=>match x with | (v3,b3)=>e=[(0,.bool false),(2,pP b3 0),(4,v3)]∧St w0 w [Own.blk b3 (.cells #[vI 0,vI 0] 30 (0,0)),Own.of v3 35 image.f]) ?_ fun hJ1_17=>?_
 ·rintro ⟨v3,b3⟩ _ W1 ⟨rfl,hS5⟩
  replace hS5:St w0 W1 [Own.blk b3 (.cells #[vI 0,vI 0] 30 (0,0)),Own.of v3 35 image.f]:=hS5
  refine go_alt3 (fun KK hKK=>?_) ?_
  ·refine ge_one2<|ge_make (α:=Int) (d:=5) (t:=23) (el:=3) (bytes:=8) (l:=8) (c:=8) (x:=(.const (vI 8))) (y:=(.const (vI 8))) (ty:=23) (k1:=.i64) (k2:=.i64) (li:=8) (ci:=8) (z:=vI 0) (z':=(0:Int)) (by kernel_rfl) (by kernel_rfl) (by kernel_rfl) rfl rfl (by kernel_rfl) (by kernel_rfl) rfl hS5 (Nat.le_refl _) rfl (by omega) fun v4 w3 _ hS6=>?_
   refine g2 hKK ?_
   have hS9:=((hS6.b 2).b 1).b 2
   exact go3_keep [(0,.bool false),(2,pP b3 0),(4,v3),(5,v4)] ea (hJ1_10 (v3,v4,b3) _ _ ⟨rfl,hS9⟩)
  refine go_alt3 (fun KK hKK=>?_) ?_
  ·refine ge_one2<|gw (some 6) (.cells #[vI 5,vI 0,vI 0,vI 0] 3) (fun b=>.slice (some ⟨b,0,none⟩) 4 4) hS5 fun b4 w3 hx2 hS6=>?_
   refine g2 hKK ?_
   have hS9:=((hS6.b 2).b 1).b 2
   exact go3_keep [(0,.bool false),(2,pP b3 0),(4,v3),(6,.slice (some ⟨b4,0,none⟩) 4 4)] ea (hJ1_14 (v3,b4,b3) _ _ ⟨rfl,hS9⟩)
  refine go_alt3 (fun KK hKK=>?_) ?_
  ·refine ge_one2<|gw (some 1) (.cells #[.slice none 0 0,.slice none 0 0,vI 0] 27) (fun b=>pP b 0) hS5 fun b4 w3 hx2 hS6=>?_
   refine g2 hKK ?_
   have hS9:=((hS6.b 2).b 1).b 2
   exact go3_keep [(0,.bool false),(1,pP b4 0),(2,pP b3 0),(4,v3)] ea (hJ1_16 (v3,b4,b3) _ _ ⟨rfl,hS9⟩)
  exact go_nomore3
 refine go3_join works.t1_2 (fun (x:Value×Nat×Nat×Nat) e w=>match x with | (v3,b3,b4,b5)=>e=[(0,.bool false),(1,pP b4 0),(2,pP b5 0),(5,v3),(6,.slice (some ⟨b3,0,none⟩) 4 4)]∧St w0 w [Own.blk b5 (.cells #[vI 0,vI 0] 30 (0,0)),Own.blk b4 (.cells #[.slice none 0 0,.slice none 0 0,vI 0] 27 (0,0)),Own.blk b3 (.cells #[vI 5,vI 0,vI 0,vI 0] 3 (0,0)),Own.of v3 3 (List.replicate 8 (0:Int))]) ?_ fun hJ1_20=>?_
 ·rintro ⟨v3,b3,b4,b5⟩ _ W3 ⟨rfl,hS8⟩
  replace hS8:St w0 W3 [Own.blk b5 (.cells #[vI 0,vI 0] 30 (0,0)),Own.blk b4 (.cells #[.slice none 0 0,.slice none 0 0,vI 0] 27 (0,0)),Own.blk b3 (.cells #[vI 5,vI 0,vI 0,vI 0] 3 (0,0)),Own.of v3 3 (List.replicate 8 (0:Int))]:=hS8
  refine go_alt3 (fun KK hKK=>?_) ?_
  ·refine ge_one2<|ge_call (d:=some 4) (f:=14) (args:=#[]) (by kernel_rfl) (image_ok _ _ rfl) ?_
   rintro _ w5 ⟨v4,rfl,hS9⟩
   refine ⟨_,rfl,hS9.below,?_⟩
   have hS10:=hS8.call hS9
   refine g2 hKK ?_
   have hS14:=(((hS10.b 4).b 4).b 4).b 4
   exact go3_keep [(0,.bool false),(1,pP b4 0),(2,pP b5 0),(4,v4),(5,v3),(6,.slice (some ⟨b3,0,none⟩) 4 4)] ea (hJ1_6 (v4,v3,b3,b4,b5) _ _ ⟨rfl,hS14⟩)
  exact go_nomore3
 refine go3_join works.t1_19 (fun (x:Value×Nat×Nat) e w=>match x with | (v3,b3,b4)=>e=[(0,.bool false),(1,pP b4 0),(5,v3),(6,.slice (some ⟨b3,0,none⟩) 4 4)]∧St w0 w [Own.blk b4 (.cells #[.slice none 0 0,.slice none 0 0,vI 0] 27 (0,0)),Own.blk b3 (.cells #[vI 5,vI 0,vI 0,vI 0] 3 (0,0)),Own.of v3 3 (List.replicate 8 (0:Int))]) ?_ fun hJ1_19=>?_
 ·rintro ⟨v3,b3,b4⟩ _ W2 ⟨rfl,hS6⟩
  replace hS6:St w0 W2 [Own.blk b4 (.cells #[.slice none 0 0,.slice none 0 0,vI 0] 27 (0,0)),Own.blk b3 (.cells #[vI 5,vI 0,vI 0,vI 0] 3 (0,0)),Own.of v3 3 (List.replicate 8 (0:Int))]:=hS6
  refine go_alt3 (fun KK hKK=>?_) ?_
  ·refine ge_one2<|ge_call (d:=some 4) (f:=14) (args:=#[]) (by kernel_rfl) (image_ok _ _ rfl) ?_
   rintro _ w4 ⟨v4,rfl,hS7⟩
   refine ⟨_,rfl,hS7.below,?_⟩
   have hS8:=hS6.call hS7
   refine g2 hKK ?_
   have hS11:=((hS8.b 3).b 3).b 3
   exact go3_keep [(0,.bool false),(1,pP b4 0),(4,v4),(5,v3),(6,.slice (some ⟨b3,0,none⟩) 4 4)] ea (hJ1_5 (v4,v3,b3,b4) _ _ ⟨rfl,hS11⟩)
  refine go_alt3 (fun KK hKK=>?_) ?_
  ·refine ge_one2<|gw (some 2) (.cells #[vI 0,vI 0] 30) (fun b=>pP b 0) hS6 fun b5 w4 hx3 hS7=>?_
   refine g2 hKK ?_
   have hS18:=(((hS7.b 3).b 3).b 3).b 3
   exact go3_keep [(0,.bool false),(1,pP b4 0),(2,pP b5 0),(5,v3),(6,.slice (some ⟨b3,0,none⟩) 4 4)] ea (hJ1_20 (v3,b3,b4,b5) _ _ ⟨rfl,hS18⟩)
  exact go_nomore3
 refine go3_join works.t1_11 (fun (x:Value×Nat×Nat) e w=>match x with | (v3,b3,b4)=>e=[(0,.bool false),(2,pP b4 0),(5,v3),(6,.slice (some ⟨b3,0,none⟩) 4 4)]∧St w0 w [Own.blk b4 (.cells #[vI 0,vI 0] 30 (0,0)),Own.blk b3 (.cells #[vI 5,vI 0,vI 0,vI 0] 3 (0,0)),Own.of v3 3 (List.replicate 8 (0:Int))]) ?_ fun hJ1_21=>?_
 ·rintro ⟨v3,b3,b4⟩ _ W2 ⟨rfl,hS6⟩
  replace hS6:St w0 W2 [Own.blk b4 (.cells #[vI 0,vI 0] 30 (0,0)),Own.blk b3 (.cells #[vI 5,vI 0,vI 0,vI 0] 3 (0,0)),Own.of v3 3 (List.replicate 8 (0:Int))]:=hS6
  refine go_alt3 (fun KK hKK=>?_) ?_
  ·refine ge_one2<|ge_call (d:=some 4) (f:=14) (args:=#[]) (by kernel_rfl) (image_ok _ _ rfl) ?_
   rintro _ w4 ⟨v4,rfl,hS7⟩
   refine ⟨_,rfl,hS7.below,?_⟩
   have hS8:=hS6.call hS7
   refine g2 hKK ?_
   have hS11:=((hS8.b 3).b 3).b 3
   exact go3_keep [(0,.bool false),(2,pP b4 0),(4,v4),(5,v3),(6,.slice (some ⟨b3,0,none⟩) 4 4)] ea (hJ1_7 (v4,v3,b3,b4) _ _ ⟨rfl,hS11⟩)
  refine go_alt3 (fun KK hKK=>?_) ?_
  ·refine ge_one2<|gw (some 1) (.cells #[.slice none 0 0,.slice none 0 0,vI 0] 27) (fun b=>pP b 0) hS6 fun b5 w4 hx3 hS7=>?_
   refine g2 hKK ?_
   have hS11:=(((hS7.b 3).b 3).b 2).b 3
   exact go3_keep [(0,.bool false),(1,pP b5 0),(2,pP b4 0),(5,v3),(6,.slice (some ⟨b3,0,none⟩) 4 4)] ea (hJ1_20 (v3,b3,b5,b4) _ _ ⟨rfl,hS11⟩)
  exact go_nomore3
 refine go3_join works.t1_26 (fun (x:Value×Nat) e w=>match x with | (v3,b3)=>e=[(0,.bool false),(5,v3),(6,.slice (some ⟨b3,0,none⟩) 4 4)]∧St w0 w [Own.blk b3 (.cells #[vI 5,vI 0,vI 0,vI 0] 3 (0,0)),Own.of v3 3 (List.replicate 8 (0:Int))]) ?_ fun hJ1_18=>?_
 ·rintro ⟨v3,b3⟩ _ W1 ⟨rfl,hS4⟩
  replace hS4:St w0 W1 [Own.blk b3 (.cells #[vI 5,vI 0,vI 0,vI 0] 3 (0,0)),Own.of v3 3 (List.replicate 8 (0:Int))]:=hS4
  refine go_alt3 (fun KK hKK=>?_) ?_
  ·refine ge_one2<|ge_call (d:=some 4) (f:=14) (args:=#[]) (by kernel_rfl) (image_ok _ _ rfl) ?_
   rintro _ w3 ⟨v4,rfl,hS5⟩
   refine ⟨_,rfl,hS5.below,?_⟩
   have hS6:=hS4.call hS5
   refine g2 hKK ?_
   have hS8:=(hS6.b 2).b 2
   exact go3_keep [(0,.bool false),(4,v4),(5,v3),(6,.slice (some ⟨b3,0,none⟩) 4 4)] ea (hJ1_1 (v4,v3,b3) _ _ ⟨rfl,hS8⟩)
  refine go_alt3 (fun KK hKK=>?_) ?_
  ·refine ge_one2<|gw (some 1) (.cells #[.slice none 0 0,.slice none 0 0,vI 0] 27) (fun b=>pP b 0) hS4 fun b4 w3 hx2 hS5=>?_
   refine g2 hKK ?_
   have hS21:=((hS5.b 2).b 2).b 2
   exact go3_keep [(0,.bool false),(1,pP b4 0),(5,v3),(6,.slice (some ⟨b3,0,none⟩) 4 4)] ea (hJ1_19 (v3,b3,b4) _ _ ⟨rfl,hS21⟩)
  refine go_alt3 (fun KK hKK=>?_) ?_
  ·refine ge_one2<|gw (some 2) (.cells #[vI 0,vI 0] 30) (fun b=>pP b 0) hS4 fun b4 w3 hx2 hS5=>?_
   refine g2 hKK ?_
   have hS14:=((hS5.b 2).b 2).b 2
   exact go3_keep [(0,.bool false),(2,pP b4 0),(5,v3),(6,.slice (some ⟨b3,0,none⟩) 4 4)] ea (hJ1_21 (v3,b3,b4) _ _ ⟨rfl,hS14⟩)
  exact go_nomore3
 refine go3_join works.t1_6 (fun (x:Value×Nat×Nat) e w=>match x with | (v3,b3,b4)=>e=[(0,.bool false),(1,pP b3 0),(2,pP b4 0),(5,v3)]∧St w0 w [Own.blk b4 (.cells #[vI 0,vI 0] 30 (0,0)),Own.blk b3 (.cells #[.slice none 0 0,.slice none 0 0,vI 0] 27 (0,0)),Own.of v3 3 (List.replicate 8 (0:Int))]) ?_ fun hJ1_23=>?_
 ·rintro ⟨v3,b3,b4⟩ _ W2 ⟨rfl,hS6⟩
  replace hS6:St w0 W2 [Own.blk b4 (.cells #[vI 0,vI 0] 30 (0,0)),Own.blk b3 (.cells #[.slice none 0 0,.slice none 0 0,vI 0] 27 (0,0)),Own.of v3 3 (List.replicate 8 (0:Int))]:=hS6
  refine go_alt3 (fun KK hKK=>?_) ?_
  ·refine ge_one2<|ge_call (d:=some 4) (f:=14) (args:=#[]) (by kernel_rfl) (image_ok _ _ rfl) ?_
   rintro _ w4 ⟨v4,rfl,hS7⟩
   refine ⟨_,rfl,hS7.below,?_⟩
   have hS8:=hS6.call hS7
   refine g2 hKK ?_
   have hS11:=((hS8.b 3).b 3).b 3
   exact go3_keep [(0,.bool false),(1,pP b3 0),(2,pP b4 0),(4,v4),(5,v3)] ea (hJ1_9 (v4,v3,b3,b4) _ _ ⟨rfl,hS11⟩)
  refine go_alt3 (fun KK hKK=>?_) ?_
  ·refine ge_one2<|gw (some 6) (.cells #[vI 5,vI 0,vI 0,vI 0] 3) (fun b=>.slice (some ⟨b,0,none⟩) 4 4) hS6 fun b5 w4 hx3 hS7=>?_
   refine g2 hKK ?_
   have hS11:=(((hS7.b 3).b 1).b 3).b 3
   exact go3_keep [(0,.bool false),(1,pP b3 0),(2,pP b4 0),(5,v3),(6,.slice (some ⟨b5,0,none⟩) 4 4)] ea (hJ1_20 (v3,b5,b3,b4) _ _ ⟨rfl,hS11⟩)
  exact go_nomore3
 refine go3_join works.t1_23 (fun (x:Value×Nat) e w=>match x with | (v3,b3)=>e=[(0,.bool false),(1,pP b3 0),(5,v3)]∧St w0 w [Own.blk b3 (.cells #[.slice none 0 0,.slice none 0 0,vI 0] 27 (0,0)),Own.of v3 3 (List.replicate 8 (0:Int))]) ?_ fun hJ1_22=>?_
 ·rintro ⟨v3,b3⟩ _ W1 ⟨rfl,hS4⟩
  replace hS4:St w0 W1 [Own.blk b3 (.cells #[.slice none 0 0,.slice none 0 0,vI 0] 27 (0,0)),Own.of v3 3 (List.replicate 8 (0:Int))]:=hS4
  refine go_alt3 (fun KK hKK=>?_) ?_
  ·refine ge_one2<|ge_call (d:=some 4) (f:=14) (args:=#[]) (by kernel_rfl) (image_ok _ _ rfl) ?_
   rintro _ w3 ⟨v4,rfl,hS5⟩
   refine ⟨_,rfl,hS5.below,?_⟩
   have hS6:=hS4.call hS5
   refine g2 hKK ?_
   have hS8:=(hS6.b 2).b 2
   exact go3_keep [(0,.bool false),(1,pP b3 0),(4,v4),(5,v3)] ea (hJ1_8 (v4,v3,b3) _ _ ⟨rfl,hS8⟩)
  refine go_alt3 (fun KK hKK=>?_) ?_
  ·refine ge_one2<|gw (some 6) (.cells #[vI 5,vI 0,vI 0,vI 0] 3) (fun b=>.slice (some ⟨b,0,none⟩) 4 4) hS4 fun b4 w3 hx2 hS5=>?_
   refine g2 hKK ?_
   have hS8:=((hS5.b 2).b 1).b 2
   exact go3_keep [(0,.bool false),(1,pP b3 0),(5,v3),(6,.slice (some ⟨b4,0,none⟩) 4 4)] ea (hJ1_19 (v3,b4,b3) _ _ ⟨rfl,hS8⟩)
  refine go_alt3 (fun KK hKK=>?_) ?_
  ·refine ge_one2<|gw (some 2) (.cells #[vI 0,vI 0] 30) (fun b=>pP b 0) hS4 fun b4 w3 hx2 hS5=>?_
   refine g2 hKK ?_
   have hS14:=((hS5.b 2).b 2).b 2
   exact go3_keep [(0,.bool false),(1,pP b3 0),(2,pP b4 0),(5,v3)] ea (hJ1_23 (v3,b3,b4) _ _ ⟨rfl,hS14⟩)
  exact go_nomore3
 refine go3_join works.t1_15 (fun (x:Value×Nat) e w=>match x with | (v3,b3)=>e=[(0,.bool false),(2,pP b3 0),(5,v3)]∧St w0 w [Own.blk b3 (.cells #[vI 0,vI 0] 30 (0,0)),Own.of v3 3 (List.replicate 8 (0:Int))]) ?_ fun hJ1_24=>?_
 ·rintro ⟨v3,b3⟩ _ W1 ⟨rfl,hS4⟩
  replace hS4:St w0 W1 [Own.blk b3 (.cells #[vI 0,vI 0] 30 (0,0)),Own.of v3 3 (List.replicate 8 (0:Int))]:=hS4
  refine go_alt3 (fun KK hKK=>?_) ?_
  ·refine ge_one2<|ge_call (d:=some 4) (f:=14) (args:=#[]) (by kernel_rfl) (image_ok _ _ rfl) ?_
   rintro _ w3 ⟨v4,rfl,hS5⟩
   refine ⟨_,rfl,hS5.below,?_⟩
   have hS6:=hS4.call hS5
   refine g2 hKK ?_
   have hS8:=(hS6.b 2).b 2
   exact go3_keep [(0,.bool false),(2,pP b3 0),(4,v4),(5,v3)] ea (hJ1_10 (v4,v3,b3) _ _ ⟨rfl,hS8⟩)
  refine go_alt3 (fun KK hKK=>?_) ?_
  ·refine ge_one2<|gw (some 6) (.cells #[vI 5,vI 0,vI 0,vI 0] 3) (fun b=>.slice (some ⟨b,0,none⟩) 4 4) hS4 fun b4 w3 hx2 hS5=>?_
   refine g2 hKK ?_
   have hS8:=((hS5.b 2).b 1).b 2
   exact go3_keep [(0,.bool false),(2,pP b3 0),(5,v3),(6,.slice (some ⟨b4,0,none⟩) 4 4)] ea (hJ1_21 (v3,b4,b3) _ _ ⟨rfl,hS8⟩)
  refine go_alt3 (fun KK hKK=>?_) ?_
  ·refine ge_one2<|gw (some 1) (.cells #[.slice none 0 0,.slice none 0 0,vI 0] 27) (fun b=>pP b 0) hS4 fun b4 w3 hx2 hS5=>?_
   refine g2 hKK ?_
   have hS8:=((hS5.b 2).b 1).b 2
   exact go3_keep [(0,.bool false),(1,pP b4 0),(2,pP b3 0),(5,v3)] ea (hJ1_23 (v3,b4,b3) _ _ ⟨rfl,hS8⟩)
  exact go_nomore3
 refine go3_join works.t1_4 (fun (x:Nat×Nat×Nat) e w=>match x with | (b3,b4,b5)=>e=[(0,.bool false),(1,pP b4 0),(2,pP b5 0),(6,.slice (some ⟨b3,0,none⟩) 4 4)]∧St w0 w [Own.blk b5 (.cells #[vI 0,vI 0] 30 (0,0)),Own.blk b4 (.cells #[.slice none 0 0,.slice none 0 0,vI 0] 27 (0,0)),Own.blk b3 (.cells #[vI 5,vI 0,vI 0,vI 0] 3 (0,0))]) ?_ fun hJ1_26=>?_
 ·rintro ⟨b3,b4,b5⟩ _ W2 ⟨rfl,hS6⟩
  replace hS6:St w0 W2 [Own.blk b5 (.cells #[vI 0,vI 0] 30 (0,0)),Own.blk b4 (.cells #[.slice none 0 0,.slice none 0 0,vI 0] 27 (0,0)),Own.blk b3 (.cells #[vI 5,vI 0,vI 0,vI 0] 3 (0,0))]:=hS6
  refine go_alt3 (fun KK hKK=>?_) ?_
  ·refine ge_one2<|ge_call (d:=some 4) (f:=14) (args:=#[]) (by kernel_rfl) (image_ok _ _ rfl) ?_
   rintro _ w4 ⟨v3,rfl,hS7⟩
   refine ⟨_,rfl,hS7.below,?_⟩
   have hS8:=hS6.call hS7
   refine g2 hKK ?_
   have hS11:=((hS8.b 3).b 3).b 3
   exact go3_keep [(0,.bool false),(1,pP b4 0),(2,pP b5 0),(4,v3),(6,.slice (some ⟨b3,0,none⟩) 4 4)] ea (hJ1_13 (v3,b3,b4,b5) _ _ ⟨rfl,hS11⟩)
  refine go_alt3 (fun KK hKK=>?_) ?_
  ·refine ge_one2<|ge_make (α:=Int) (d:=5) (t:=23) (el:=3) (bytes:=8) (l:=8) (c:=8) (x:=(.const (vI 8))) (y:=(.const (vI 8))) (ty:=23) (k1:=.i64) (k2:=.i64) (li:=8) (ci:=8) (z:=vI 0) (z':=(0:Int)) (by kernel_rfl) (by kernel_rfl) (by kernel_rfl) rfl rfl (by kernel_rfl) (by kernel_rfl) rfl hS6 (Nat.le_refl _) rfl (by omega) fun v3 w4 _ hS7=>?_
   refine g2 hKK ?_
   have hS10:=((hS7.b 3).b 3).b 3
   exact go3_keep [(0,.bool false),(1,pP b4 0),(2,pP b5 0),(5,v3),(6,.slice (some ⟨b3,0,none⟩) 4 4)] ea (hJ1_20 (v3,b3,b4,b5) _ _ ⟨rfl,hS10⟩)
  exact go_nomore3
 refine go3_join works.t1_21 (fun (x:Nat×Nat) e w=>match x with | (b3,b4)=>e=[(0,.bool false),(1,pP b4 0),(6,.slice (some ⟨b3,0,none⟩) 4 4)]∧St w0 w [Own.blk b4 (.cells #[.slice none 0 0,.slice none 0 0,vI 0] 27 (0,0)),Own.blk b3 (.cells #[vI 5,vI 0,vI 0,vI 0] 3 (0,0))]) ?_ fun hJ1_25=>?_
 ·rintro ⟨b3,b4⟩ _ W1 ⟨rfl,hS4⟩
  replace hS4:St w0 W1 [Own.blk b4 (.cells #[.slice none 0 0,.slice none 0 0,vI 0] 27 (0,0)),Own.blk b3 (.cells #[vI 5,vI 0,vI 0,vI 0] 3 (0,0))]:=hS4
  refine go_alt3 (fun KK hKK=>?_) ?_
  ·refine ge_one2<|ge_call (d:=some 4) (f:=14) (args:=#[]) (by kernel_rfl) (image_ok _ _ rfl) ?_
   rintro _ w3 ⟨v3,rfl,hS5⟩
   refine ⟨_,rfl,hS5.below,?_⟩
   have hS6:=hS4.call hS5
   refine g2 hKK ?_
   have hS8:=(hS6.b 2).b 2
   exact go3_keep [(0,.bool false),(1,pP b4 0),(4,v3),(6,.slice (some ⟨b3,0,none⟩) 4 4)] ea (hJ1_12 (v3,b3,b4) _ _ ⟨rfl,hS8⟩)
  refine go_alt3 (fun KK hKK=>?_) ?_
  ·refine ge_one2<|ge_make (α:=Int) (d:=5) (t:=23) (el:=3) (bytes:=8) (l:=8) (c:=8) (x:=(.const (vI 8))) (y:=(.const (vI 8))) (ty:=23) (k1:=.i64) (k2:=.i64) (li:=8) (ci:=8) (z:=vI 0) (z':=(0:Int)) (by kernel_rfl) (by kernel_rfl) (by kernel_rfl) rfl rfl (by kernel_rfl) (by kernel_rfl) rfl hS4 (Nat.le_refl _) rfl (by omega) fun v3 w3 _ hS5=>?_
   refine g2 hKK ?_
   have hS7:=(hS5.b 2).b 2
   exact go3_keep [(0,.bool false),(1,pP b4 0),(5,v3),(6,.slice (some ⟨b3,0,none⟩) 4 4)] ea (hJ1_19 (v3,b3,b4) _ _ ⟨rfl,hS7⟩)
  refine go_alt3 (fun KK hKK=>?_) ?_
  ·refine ge_one2<|gw (some 2) (.cells #[vI 0,vI 0] 30) (fun b=>pP b 0) hS4 fun b5 w3 hx3 hS5=>?_
   refine g2 hKK ?_
   have hS13:=((hS5.b 2).b 2).b 2
   exact go3_keep [(0,.bool false),(1,pP b4 0),(2,pP b5 0),(6,.slice (some ⟨b3,0,none⟩) 4 4)] ea (hJ1_26 (b3,b4,b5) _ _ ⟨rfl,hS13⟩)
  exact go_nomore3
 refine go3_join works.t1_13 (fun (x:Nat×Nat) e w=>match x with | (b3,b4)=>e=[(0,.bool false),(2,pP b4 0),(6,.slice (some ⟨b3,0,none⟩) 4 4)]∧St w0 w [Own.blk b4 (.cells #[vI 0,vI 0] 30 (0,0)),Own.blk b3 (.cells #[vI 5,vI 0,vI 0,vI 0] 3 (0,0))]) ?_ fun hJ1_27=>?_
 ·rintro ⟨b3,b4⟩ _ W1 ⟨rfl,hS4⟩
  replace hS4:St w0 W1 [Own.blk b4 (.cells #[vI 0,vI 0] 30 (0,0)),Own.blk b3 (.cells #[vI 5,vI 0,vI 0,vI 0] 3 (0,0))]:=hS4
  refine go_alt3 (fun KK hKK=>?_) ?_
  ·refine ge_one2<|ge_call (d:=some 4) (f:=14) (args:=#[]) (by kernel_rfl) (image_ok _ _ rfl) ?_
   rintro _ w3 ⟨v3,rfl,hS5⟩
   refine ⟨_,rfl,hS5.below,?_⟩
   have hS6:=hS4.call hS5
   refine g2 hKK ?_
   have hS8:=(hS6.b 2).b 2
   exact go3_keep [(0,.bool false),(2,pP b4 0),(4,v3),(6,.slice (some ⟨b3,0,none⟩) 4 4)] ea (hJ1_14 (v3,b3,b4) _ _ ⟨rfl,hS8⟩)
  refine go_alt3 (fun KK hKK=>?_) ?_
  ·refine ge_one2<|ge_make (α:=Int) (d:=5) (t:=23) (el:=3) (bytes:=8) (l:=8) (c:=8) (x:=(.const (vI 8))) (y:=(.const (vI 8))) (ty:=23) (k1:=.i64) (k2:=.i64) (li:=8) (ci:=8) (z:=vI 0) (z':=(0:Int)) (by kernel_rfl) (by kernel_rfl) (by kernel_rfl) rfl rfl (by kernel_rfl) (by kernel_rfl) rfl hS4 (Nat.le_refl _) rfl (by omega) fun v3 w3 _ hS5=>?_
   refine g2 hKK ?_
   have hS7:=(hS5.b 2).b 2
   exact go3_keep [(0,.bool false),(2,pP b4 0),(5,v3),(6,.slice (some ⟨b3,0,none⟩) 4 4)] ea (hJ1_21 (v3,b3,b4) _ _ ⟨rfl,hS7⟩)
  refine go_alt3 (fun KK hKK=>?_) ?_
  ·refine ge_one2<|gw (some 1) (.cells #[.slice none 0 0,.slice none 0 0,vI 0] 27) (fun b=>pP b 0) hS4 fun b5 w3 hx3 hS5=>?_
   refine g2 hKK ?_
   have hS8:=((hS5.b 2).b 1).b 2
   exact go3_keep [(0,.bool false),(1,pP b5 0),(2,pP b4 0),(6,.slice (some ⟨b3,0,none⟩) 4 4)] ea (hJ1_26 (b3,b5,b4) _ _ ⟨rfl,hS8⟩)
  exact go_nomore3
 refine go3_join works.t1_8 (fun (x:Nat×Nat) e w=>match x with | (b3,b4)=>e=[(0,.bool false),(1,pP b3 0),(2,pP b4 0)]∧St w0 w [Own.blk b4 (.cells #[vI 0,vI 0] 30 (0,0)),Own.blk b3 (.cells #[.slice none 0 0,.slice none 0 0,vI 0] 27 (0,0))]) ?_ fun hJ1_28=>?_
 ·rintro ⟨b3,b4⟩ _ W1 ⟨rfl,hS4⟩
  replace hS4:St w0 W1 [Own.blk b4 (.cells #[vI 0,vI 0] 30 (0,0)),Own.blk b3 (.cells #[.slice none 0 0,.slice none 0 0,vI 0] 27 (0,0))]:=hS4
  refine go_alt3 (fun KK hKK=>?_) ?_
  ·refine ge_one2<|ge_call (d:=some 4) (f:=14) (args:=#[]) (by kernel_rfl) (image_ok _ _ rfl) ?_
   rintro _ w3 ⟨v3,rfl,hS5⟩
   refine ⟨_,rfl,hS5.below,?_⟩
   have hS6:=hS4.call hS5
   refine g2 hKK ?_
   have hS8:=(hS6.b 2).b 2
   exact go3_keep [(0,.bool false),(1,pP b3 0),(2,pP b4 0),(4,v3)] ea (hJ1_16 (v3,b3,b4) _ _ ⟨rfl,hS8⟩)
  refine go_alt3 (fun KK hKK=>?_) ?_
  ·refine ge_one2<|ge_make (α:=Int) (d:=5) (t:=23) (el:=3) (bytes:=8) (l:=8) (c:=8) (x:=(.const (vI 8))) (y:=(.const (vI 8))) (ty:=23) (k1:=.i64) (k2:=.i64) (li:=8) (ci:=8) (z:=vI 0) (z':=(0:Int)) (by kernel_rfl) (by kernel_rfl) (by kernel_rfl) rfl rfl (by kernel_rfl) (by kernel_rfl) rfl hS4 (Nat.le_refl _) rfl (by omega) fun v3 w3 _ hS5=>?_
   refine g2 hKK ?_
   have hS7:=(hS5.b 2).b 2
   exact go3_keep [(0,.bool false),(1,pP b3 0),(2,pP b4 0),(5,v3)] ea (hJ1_23 (v3,b3,b4) _ _ ⟨rfl,hS7⟩)
  refine go_alt3 (fun KK hKK=>?_) ?_
  ·refine ge_one2<|gw (some 6) (.cells #[vI 5,vI 0,vI 0,vI 0] 3) (fun b=>.slice (some ⟨b,0,none⟩) 4 4) hS4 fun b5 w3 hx3 hS5=>?_
   refine g2 hKK ?_
   have hS7:=(hS5.b 2).b 2
   exact go3_keep [(0,.bool false),(1,pP b3 0),(2,pP b4 0),(6,.slice (some ⟨b5,0,none⟩) 4 4)] ea (hJ1_26 (b5,b3,b4) _ _ ⟨rfl,hS7⟩)
  exact go_nomore3
 refine go_alt3 (fun KK hKK=>?_) ?_
 ·refine ge_one2<|ge_call (d:=some 4) (f:=14) (args:=#[]) (by kernel_rfl) (image_ok _ _ rfl) ?_
  rintro _ w1 ⟨v3,rfl,hS2⟩
  refine ⟨_,rfl,hS2.below,?_⟩
  have hS3:=hS1.call hS2
  refine g2 hKK<|go_alt3 (fun KK hKK=>?_) ?_
  ·refine ge_one2<|ge_make (α:=Int) (d:=5) (t:=23) (el:=3) (bytes:=8) (l:=8) (c:=8) (x:=(.const (vI 8))) (y:=(.const (vI 8))) (ty:=23) (k1:=.i64) (k2:=.i64) (li:=8) (ci:=8) (z:=vI 0) (z':=(0:Int)) (by kernel_rfl) (by kernel_rfl) (by kernel_rfl) rfl rfl (by kernel_rfl) (by kernel_rfl) rfl hS3 (Nat.le_refl _) rfl (by omega) fun v4 w2 _ hS4=>?_
   refine g2 hKK ?_
   have hS17:=(hS4.b 1).b 1
   exact go3_keep [(0,.bool false),(4,v3),(5,v4)] ea (hJ1_0 (v3,v4) _ _ ⟨rfl,hS17⟩)
  refine go_alt3 (fun KK hKK=>?_) ?_
  ·refine ge_one2<|gw (some 6) (.cells #[vI 5,vI 0,vI 0,vI 0] 3) (fun b=>.slice (some ⟨b,0,none⟩) 4 4) hS3 fun b3 w2 hx1 hS4=>?_
   refine g2 hKK ?_
   have hS17:=(hS4.b 1).b 1
   exact go3_keep [(0,.bool false),(4,v3),(6,.slice (some ⟨b3,0,none⟩) 4 4)] ea (hJ1_11 (v3,b3) _ _ ⟨rfl,hS17⟩)
  refine go_alt3 (fun KK hKK=>?_) ?_
  ·refine ge_one2<|gw (some 1) (.cells #[.slice none 0 0,.slice none 0 0,vI 0] 27) (fun b=>pP b 0) hS3 fun b3 w2 hx1 hS4=>?_
   refine g2 hKK ?_
   have hS17:=(hS4.b 1).b 1
   exact go3_keep [(0,.bool false),(1,pP b3 0),(4,v3)] ea (hJ1_15 (v3,b3) _ _ ⟨rfl,hS17⟩)
  refine go_alt3 (fun KK hKK=>?_) ?_
  ·refine ge_one2<|gw (some 2) (.cells #[vI 0,vI 0] 30) (fun b=>pP b 0) hS3 fun b3 w2 hx1 hS4=>?_
   refine g2 hKK ?_
   have hS11:=(hS4.b 1).b 1
   exact go3_keep [(0,.bool false),(2,pP b3 0),(4,v3)] ea (hJ1_17 (v3,b3) _ _ ⟨rfl,hS11⟩)
  exact go_nomore3
 refine go_alt3 (fun KK hKK=>?_) ?_
 ·refine ge_one2<|ge_make (α:=Int) (d:=5) (t:=23) (el:=3) (bytes:=8) (l:=8) (c:=8) (x:=(.const (vI 8))) (y:=(.const (vI 8))) (ty:=23) (k1:=.i64) (k2:=.i64) (li:=8) (ci:=8) (z:=vI 0) (z':=(0:Int)) (by kernel_rfl) (by kernel_rfl) (by kernel_rfl) rfl rfl (by kernel_rfl) (by kernel_rfl) rfl hS1 (Nat.le_refl _) rfl (by omega) fun v3 w1 _ hS2=>?_
  refine g2 hKK<|go_alt3 (fun KK hKK=>?_) ?_
  ·refine ge_one2<|ge_call (d:=some 4) (f:=14) (args:=#[]) (by kernel_rfl) (image_ok _ _ rfl) ?_
   rintro _ w2 ⟨v4,rfl,hS3⟩
   refine ⟨_,rfl,hS3.below,?_⟩
   have hS4:=hS2.call hS3
   refine g2 hKK ?_
   have hS5:=hS4.b 1
   exact go3_keep [(0,.bool false),(4,v4),(5,v3)] ea (hJ1_0 (v4,v3) _ _ ⟨rfl,hS5⟩)
  refine go_alt3 (fun KK hKK=>?_) ?_
  ·refine ge_one2<|gw (some 6) (.cells #[vI 5,vI 0,vI 0,vI 0] 3) (fun b=>.slice (some ⟨b,0,none⟩) 4 4) hS2 fun b3 w2 hx1 hS3=>?_
   refine g2 hKK ?_
   have hS16:=(hS3.b 1).b 1
   exact go3_keep [(0,.bool false),(5,v3),(6,.slice (some ⟨b3,0,none⟩) 4 4)] ea (hJ1_18 (v3,b3) _ _ ⟨rfl,hS16⟩)
  refine go_alt3 (fun KK hKK=>?_) ?_
  ·refine ge_one2<|gw (some 1) (.cells #[.slice none 0 0,.slice none 0 0,vI 0] 27) (fun b=>pP b 0) hS2 fun b3 w2 hx1 hS3=>?_
   refine g2 hKK ?_
   have hS16:=(hS3.b 1).b 1
   exact go3_keep [(0,.bool false),(1,pP b3 0),(5,v3)] ea (hJ1_22 (v3,b3) _ _ ⟨rfl,hS16⟩)
  refine go_alt3 (fun KK hKK=>?_) ?_
  ·refine ge_one2<|gw (some 2) (.cells #[vI 0,vI 0] 30) (fun b=>pP b 0) hS2 fun b3 w2 hx1 hS3=>?_
   refine g2 hKK ?_
   have hS10:=(hS3.b 1).b 1
   exact go3_keep [(0,.bool false),(2,pP b3 0),(5,v3)] ea (hJ1_24 (v3,b3) _ _ ⟨rfl,hS10⟩)
  exact go_nomore3
 refine go_alt3 (fun KK hKK=>?_) ?_
 ·refine ge_one2<|gw (some 6) (.cells #[vI 5,vI 0,vI 0,vI 0] 3) (fun b=>.slice (some ⟨b,0,none⟩) 4 4) hS1 fun b3 w1 hx1 hS2=>?_
  refine g2 hKK<|go_alt3 (fun KK hKK=>?_) ?_
  ·refine ge_one2<|ge_call (d:=some 4) (f:=14) (args:=#[]) (by kernel_rfl) (image_ok _ _ rfl) ?_
   rintro _ w2 ⟨v3,rfl,hS3⟩
   refine ⟨_,rfl,hS3.below,?_⟩
   have hS4:=hS2.call hS3
   refine g2 hKK ?_
   have hS5:=hS4.b 1
   exact go3_keep [(0,.bool false),(4,v3),(6,.slice (some ⟨b3,0,none⟩) 4 4)] ea (hJ1_11 (v3,b3) _ _ ⟨rfl,hS5⟩)
  refine go_alt3 (fun KK hKK=>?_) ?_
  ·refine ge_one2<|ge_make (α:=Int) (d:=5) (t:=23) (el:=3) (bytes:=8) (l:=8) (c:=8) (x:=(.const (vI 8))) (y:=(.const (vI 8))) (ty:=23) (k1:=.i64) (k2:=.i64) (li:=8) (ci:=8) (z:=vI 0) (z':=(0:Int)) (by kernel_rfl) (by kernel_rfl) (by kernel_rfl) rfl rfl (by kernel_rfl) (by kernel_rfl) rfl hS2 (Nat.le_refl _) rfl (by omega) fun v3 w2 _ hS3=>?_
   refine g2 hKK ?_
   have hS4:=hS3.b 1
   exact go3_keep [(0,.bool false),(5,v3),(6,.slice (some ⟨b3,0,none⟩) 4 4)] ea (hJ1_18 (v3,b3) _ _ ⟨rfl,hS4⟩)
  refine go_alt3 (fun KK hKK=>?_) ?_
  ·refine ge_one2<|gw (some 1) (.cells #[.slice none 0 0,.slice none 0 0,vI 0] 27) (fun b=>pP b 0) hS2 fun b4 w2 hx2 hS3=>?_
   refine g2 hKK ?_
   have hS15:=(hS3.b 1).b 1
   exact go3_keep [(0,.bool false),(1,pP b4 0),(6,.slice (some ⟨b3,0,none⟩) 4 4)] ea (hJ1_25 (b3,b4) _ _ ⟨rfl,hS15⟩)
  refine go_alt3 (fun KK hKK=>?_) ?_
  ·refine ge_one2<|gw (some 2) (.cells #[vI 0,vI 0] 30) (fun b=>pP b 0) hS2 fun b4 w2 hx2 hS3=>?_
   refine g2 hKK ?_
   have hS10:=(hS3.b 1).b 1
   exact go3_keep [(0,.bool false),(2,pP b4 0),(6,.slice (some ⟨b3,0,none⟩) 4 4)] ea (hJ1_27 (b3,b4) _ _ ⟨rfl,hS10⟩)
  exact go_nomore3
 refine go_alt3 (fun KK hKK=>?_) ?_
 ·refine ge_one2<|gw (some 1) (.cells #[.slice none 0 0,.slice none 0 0,vI 0] 27) (fun b=>pP b 0) hS1 fun b3 w1 hx1 hS2=>?_
  refine g2 hKK<|go_alt3 (fun KK hKK=>?_) ?_
  ·refine ge_one2<|ge_call (d:=some 4) (f:=14) (args:=#[]) (by kernel_rfl) (image_ok _ _ rfl) ?_
   rintro _ w2 ⟨v3,rfl,hS3⟩
   refine ⟨_,rfl,hS3.below,?_⟩
   have hS4:=hS2.call hS3
   refine g2 hKK ?_
   have hS5:=hS4.b 1
   exact go3_keep [(0,.bool false),(1,pP b3 0),(4,v3)] ea (hJ1_15 (v3,b3) _ _ ⟨rfl,hS5⟩)
  refine go_alt3 (fun KK hKK=>?_) ?_
  ·refine ge_one2<|ge_make (α:=Int) (d:=5) (t:=23) (el:=3) (bytes:=8) (l:=8) (c:=8) (x:=(.const (vI 8))) (y:=(.const (vI 8))) (ty:=23) (k1:=.i64) (k2:=.i64) (li:=8) (ci:=8) (z:=vI 0) (z':=(0:Int)) (by kernel_rfl) (by kernel_rfl) (by kernel_rfl) rfl rfl (by kernel_rfl) (by kernel_rfl) rfl hS2 (Nat.le_refl _) rfl (by omega) fun v3 w2 _ hS3=>?_
   refine g2 hKK ?_
   have hS4:=hS3.b 1
   exact go3_keep [(0,.bool false),(1,pP b3 0),(5,v3)] ea (hJ1_22 (v3,b3) _ _ ⟨rfl,hS4⟩)
  refine go_alt3 (fun KK hKK=>?_) ?_
  ·refine ge_one2<|gw (some 6) (.cells #[vI 5,vI 0,vI 0,vI 0] 3) (fun b=>.slice (some ⟨b,0,none⟩) 4 4) hS2 fun b4 w2 hx2 hS3=>?_
   refine g2 hKK ?_
   have hS4:=hS3.b 1
   exact go3_keep [(0,.bool false),(1,pP b3 0),(6,.slice (some ⟨b4,0,none⟩) 4 4)] ea (hJ1_25 (b4,b3) _ _ ⟨rfl,hS4⟩)
  refine go_alt3 (fun KK hKK=>?_) ?_
  ·refine ge_one2<|gw (some 2) (.cells #[vI 0,vI 0] 30) (fun b=>pP b 0) hS2 fun b4 w2 hx2 hS3=>?_
   refine g2 hKK ?_
   have hS9:=(hS3.b 1).b 1
   exact go3_keep [(0,.bool false),(1,pP b3 0),(2,pP b4 0)] ea (hJ1_28 (b3,b4) _ _ ⟨rfl,hS9⟩)
  exact go_nomore3
 refine go_alt3 (fun KK hKK=>?_) ?_
 ·refine ge_one2<|gw (some 2) (.cells #[vI 0,vI 0] 30) (fun b=>pP b 0) hS1 fun b3 w1 hx1 hS2=>?_
  refine g2 hKK<|go_alt3 (fun KK hKK=>?_) ?_
  ·refine ge_one2<|ge_call (d:=some 4) (f:=14) (args:=#[]) (by kernel_rfl) (image_ok _ _ rfl) ?_
   rintro _ w2 ⟨v3,rfl,hS3⟩
   refine ⟨_,rfl,hS3.below,?_⟩
   have hS4:=hS2.call hS3
   refine g2 hKK ?_
   have hS5:=hS4.b 1
   exact go3_keep [(0,.bool false),(2,pP b3 0),(4,v3)] ea (hJ1_17 (v3,b3) _ _ ⟨rfl,hS5⟩)
  refine go_alt3 (fun KK hKK=>?_) ?_
  ·refine ge_one2<|ge_make (α:=Int) (d:=5) (t:=23) (el:=3) (bytes:=8) (l:=8) (c:=8) (x:=(.const (vI 8))) (y:=(.const (vI 8))) (ty:=23) (k1:=.i64) (k2:=.i64) (li:=8) (ci:=8) (z:=vI 0) (z':=(0:Int)) (by kernel_rfl) (by kernel_rfl) (by kernel_rfl) rfl rfl (by kernel_rfl) (by kernel_rfl) rfl hS2 (Nat.le_refl _) rfl (by omega) fun v3 w2 _ hS3=>?_
   refine g2 hKK ?_
   have hS4:=hS3.b 1
   exact go3_keep [(0,.bool false),(2,pP b3 0),(5,v3)] ea (hJ1_24 (v3,b3) _ _ ⟨rfl,hS4⟩)
  refine go_alt3 (fun KK hKK=>?_) ?_
  ·refine ge_one2<|gw (some 6) (.cells #[vI 5,vI 0,vI 0,vI 0] 3) (fun b=>.slice (some ⟨b,0,none⟩) 4 4) hS2 fun b4 w2 hx2 hS3=>?_
   refine g2 hKK ?_
   have hS4:=hS3.b 1
   exact go3_keep [(0,.bool false),(2,pP b3 0),(6,.slice (some ⟨b4,0,none⟩) 4 4)] ea (hJ1_27 (b4,b3) _ _ ⟨rfl,hS4⟩)
  refine go_alt3 (fun KK hKK=>?_) ?_
  ·refine ge_one2<|gw (some 1) (.cells #[.slice none 0 0,.slice none 0 0,vI 0] 27) (fun b=>pP b 0) hS2 fun b4 w2 hx2 hS3=>?_
   refine g2 hKK ?_
   have hS4:=hS3.b 1
   exact go3_keep [(0,.bool false),(1,pP b4 0),(2,pP b3 0)] ea (hJ1_28 (b4,b3) _ _ ⟨rfl,hS4⟩)
  exact go_nomore3
 exact go_nomore3
theorem works_ok (K:Nat)  (w0:World) (r:Bool) (h:works.f K=some r) :
  Calls Tryd.prog 4 #[] w0 (works.Post w0 r):=by
 have hS:=St.start w0
 unfold works.f at h
 refine calls_enter (n:=38) (args:=[]) (fn:=Tryd.f4) rfl rfl rfl rfl ?_
 show WE _ _ _ _ [] _
 refine ws fun K1 hK1=>wr [(0,0)]<|gb0 [0] [(0,.bool false)] ?_
 refine gn hK1<|ws fun K2 hK2=>?_
 rcases hq1:works.p0 K with _ | (⟨m3,m4,z4,z5,z6⟩ | rr1)
 ·rw [hq1] at h; cases h
 ·rw [hq1] at h
  simp only [] at h
  refine we_keep (e':=[(0,.bool false)]) ea (works_p0 K w0 _ hq1 _ hS _ ?_)
  rintro _ a w3 ⟨rfl,b5,b6,v3,v4,hS5,hF⟩
  replace hS5:St w0 w3 [Own.blk b5 (.cells #[v3,v4,vI z4] 27 (0,0)),Own.blk b6 (.cells #[vI z5,vI z6] 30 (0,0)),Own.of v3 3 m3,Own.of v4 43 m4]:=hS5
  refine hK2 [(1,pP b5 0),(2,pP b6 0)] w3 ?_ a hF
  refine ws fun K3 hK3=>wr [(0,0),(1,0),(2,0),(3,0),(4,0),(5,0),(6,0),(7,0),(8,0),(9,0),(10,0),(11,0),(12,0),(13,0),(14,0),(15,0),(16,0),(17,0),(18,0),(19,0),(20,0),(21,0),(22,0),(23,0),(24,0),(25,1),(26,1),(27,0),(28,0)]<|gb [0,1,2,3] [(13,.bool (z5==0)),(12,.bool (z5==0)),(11,vI z5),(10,pP b6 0)] [.loaded ⟨b6,0,none⟩ (vI z5)] ⟨hS5.c 1,trivial⟩ ?_
  by_cases hc1:z5=0
  ·rw [if_pos hc1] at h
   refine gk 13 (z5==0) true (beq_iff_eq.2 hc1) ?_
   refine gb [4,5,6,7,8] [(18,.bool (z4==28)),(17,.bool (z4==28)),(16,.bool (z4==28)),(15,vI z4),(14,pP b5 2)] [.loaded ⟨b5,2,none⟩ (vI z4)] ⟨hS5.c 0,trivial⟩ ?_
   by_cases hc2:z4=28
   ·rw [if_pos hc2] at h
    refine gk 18 (z4==28) true (beq_iff_eq.2 hc2) ?_
    refine gb [9,10] [(20,v3),(19,pP b5 0)] [.loaded ⟨b5,0,none⟩ (v3)] ⟨hS5.c 0,trivial⟩ ?_
    obtain ⟨Z1,cz1,rfl⟩:=hS5.open 2 rfl
    refine gb0 [11,12,13,14] [(24,.bool ((m3.length:Int)==8)),(23,.bool ((m3.length:Int)==8)),(22,.bool ((m3.length:Int)==8)),(21,vI (m3.length:Int))] ?_
    by_cases hc3:(m3.length:Int)=8
    ·rw [if_pos hc3] at h
     refine gk 24 ((m3.length:Int)==8) true (beq_iff_eq.2 hc3) ?_
     refine gb [15,16] [(26,(.slice Z1 m3.length cz1)),(25,pP b5 0)] [.loaded ⟨b5,0,none⟩ ((.slice Z1 m3.length cz1))] ⟨hS5.c 0,trivial⟩ ?_
     rcases hx3:m3[0]? with _ | e1
     ·rw [hx3] at h; cases h
     rw [hx3] at h
     simp only [] at h
     refine gi 27 0 23 3 1 m3.length cz1 (.tmp 26) (.const (vI 0)) Z1 .i64 0 0 ((hS5.rdAt 2 rfl).eqSome (pos_of_get hx3)) rfl (lt_of_get hx3) ?_
     refine gb [18,19,20,21] [(31,.bool (e1==15)),(30,.bool (e1==15)),(29,.bool (e1==15)),(28,vI e1)] [.loaded ⟨blkOf Z1,offOf Z1+0*1,none⟩ (vI e1)] ⟨RdL.cell (j:=0) (hS5.rdAt 2 rfl) hx3 rfl,trivial⟩ ?_
     by_cases hc4:e1=15
     ·rw [if_pos hc4] at h
      refine gk 31 (e1==15) true (beq_iff_eq.2 hc4) ?_
      refine gb [22,23,24] [(34,.agg #[vI 1,vI 30]),(33,v4),(32,pP b5 1)] [.loaded ⟨b5,1,none⟩ (v4)] ⟨hS5.c 0,trivial⟩ ?_
      refine gw (some 35) (.cells #[vI 1,vI 30] 43) (fun b=>.slice (some ⟨b,0,none⟩) 1 1) hS5 fun b7 w4 hx4 hS6=>?_
      obtain ⟨Z2,cz2,rfl⟩:=hS6.open 4 rfl
      rcases hq2:punctualsame_Same_api_Put.f K m4 ([(⟨1,30⟩:SPut)]:List SPut) with _ | r1
      ·rw [hq2] at h; cases h
      rw [hq2] at h
      simp only [] at h
      refine ge_call (d:=some 36) (f:=15) (args:=#[(.slice Z2 m4.length cz2),.slice (some ⟨b7,0,none⟩) 1 1]) (by kernel_rfl) (punctualsame_Same_api_Put_ok K m4 Z2 cz2 ([(⟨1,30⟩:SPut)]:List SPut) (some ⟨b7,0,none⟩) 1 _ (hS6.rdAt 4 rfl) (hS6.capAt 4 rfl) (hS6.rdBlk 0 ([(⟨1,30⟩:SPut)]:List SPut) rfl rfl rfl) (Nat.le_refl _) _ hq2) ?_
      rintro _ w5 ⟨rfl,hS7⟩
      refine ⟨_,rfl,hS7.below,?_⟩
      have hS8:=hS6.call hS7
      refine gb0 [27,28] [(0,.bool r1),(37,.bool r1)] ?_
      refine gn hK3 ?_
      have hS9:=hS8.takeN 0
      obtain rfl:=si h
      exact we_ret (pr0 [.tmp 0] [.bool r1] ⟨rfl,hS9⟩)
     rw [if_neg hc4] at h
     refine gk 31 (e1==15) false (beq_eq_false_iff_ne.2 hc4) ?_
     refine gb0 [22,23,24] [(34,undef),(33,undef),(32,undef)] ?_
     refine ge_off rfl rfl rfl (by kernel_rfl) ?_
     refine ge_off rfl rfl rfl (by kernel_rfl) ?_
     refine gb0 [27,28] [(0,.bool false),(37,.bool false)] ?_
     refine gn hK3 ?_
     have hS10:=hS5.takeN 0
     obtain rfl:=si h
     exact we_ret (pr0 [.tmp 0] [.bool false] ⟨rfl,hS10⟩)
    rw [if_neg hc3] at h
    refine gk 24 ((m3.length:Int)==8) false (beq_eq_false_iff_ne.2 hc3) ?_
    refine gb0 [15,16,17,18,19,20,21,22,23,24] [(34,undef),(33,undef),(32,undef),(31,.bool false),(30,.bool false),(29,undef),(28,undef),(27,undef),(26,undef),(25,undef)] ?_
    refine ge_off rfl rfl rfl (by kernel_rfl) ?_
    refine ge_off rfl rfl rfl (by kernel_rfl) ?_
    refine gb0 [27,28] [(0,.bool false),(37,.bool false)] ?_
    refine gn hK3 ?_
    have hS11:=hS5.takeN 0
    obtain rfl:=si h
    exact we_ret (pr0 [.tmp 0] [.bool false] ⟨rfl,hS11⟩)
   rw [if_neg hc2] at h
   refine gk 18 (z4==28) false (beq_eq_false_iff_ne.2 hc2) ?_
   refine gb0 [9,10,11,12,13,14,15,16,17,18,19,20,21,22,23,24] [(34,undef),(33,undef),(32,undef),(31,.bool false),(30,.bool false),(29,undef),(28,undef),(27,undef),(26,undef),(25,undef),(24,.bool false),(23,.bool false),(22,undef),(21,undef),(20,undef),(19,undef)] ?_
   refine ge_off rfl rfl rfl (by kernel_rfl) ?_
   refine ge_off rfl rfl rfl (by kernel_rfl) ?_
   refine gb0 [27,28] [(0,.bool false),(37,.bool false)] ?_
   refine gn hK3 ?_
   have hS12:=hS5.takeN 0
   obtain rfl:=si h
   exact we_ret (pr0 [.tmp 0] [.bool false] ⟨rfl,hS12⟩)
  rw [if_neg hc1] at h
  refine gk 13 (z5==0) false (beq_eq_false_iff_ne.2 hc1) ?_
  refine gb0 [4,5,6,7,8,9,10,11,12,13,14,15,16,17,18,19,20,21,22,23,24] [(34,undef),(33,undef),(32,undef),(31,.bool false),(30,.bool false),(29,undef),(28,undef),(27,undef),(26,undef),(25,undef),(24,.bool false),(23,.bool false),(22,undef),(21,undef),(20,undef),(19,undef),(18,.bool false),(17,.bool false),(16,undef),(15,undef),(14,undef)] ?_
  refine ge_off rfl rfl rfl (by kernel_rfl) ?_
  refine ge_off rfl rfl rfl (by kernel_rfl) ?_
  refine gb0 [27,28] [(0,.bool false),(37,.bool false)] ?_
  refine gn hK3 ?_
  have hS13:=hS5.takeN 0
  obtain rfl:=si h
  exact we_ret (pr0 [.tmp 0] [.bool false] ⟨rfl,hS13⟩)
 rw [hq1] at h
 simp only [] at h
 refine we_keep (e':=[(0,.bool false)]) ea (works_p0 K w0 _ hq1 _ hS _ ?_)
 rintro _ a w1 ⟨_,rfl,hb⟩
 obtain rfl:=si h
 exact hb

/-! punctual/punctualref.F -/
abbrev punctualref_F.Post (w0:World) (r:SFault) (e:Ending) (w:World):Prop:=e=.returned (.agg #[vI r.Code,vI r.At])∧St w0 w []
def punctualref_F.f (x0 : Int) (x1 : Int) : SFault :=
 (⟨x0,x1⟩:SFault)
theorem punctualref_F_ok (x0:Int) (x1:Int) (w0:World) (r:SFault) (h:punctualref_F.f x0 x1=r) :
  Calls Tryd.prog 17 #[vI x0,vI x1] w0 (punctualref_F.Post w0 r):=by
 have hS:=St.start w0
 unfold punctualref_F.f at h
 refine calls_enter (n:=8) (args:=[vI x0,vI x1]) (fn:=Tryd.f17) rfl rfl rfl rfl ?_
 show WE _ _ _ _ [(0,vI x0),(1,vI x1)] _
 refine ws fun K1 hK1=>wr [(0,1)]<|gw (some 4) (.cells #[vI 0,vI 0] 30) (fun b=>pP b 0) hS fun b1 w1 hx1 hS1=>?_
 refine gn hK1<|ws fun K2 hK2=>wr [(0,0),(1,0),(2,0),(3,2)]<|gb0 [0,1,2] [(7,.agg #[vI x0,vI x1]),(6,vI x1),(5,vI x0)] ?_
 refine gs b1 0 #[vI 0,vI 0] 30 [vI x0,vI x1] hS1 fun w2 hS2=>?_
 have hS3:=hS2.nc #[vI x0,vI x1] rfl
 refine gn hK2 ?_
 have hS4:=hS3.takeN 0
 subst h
 exact we_ret (pr [.cell 4 30] [.agg #[vI x0,vI x1]] [.loaded ⟨b1,0,none⟩ (vI x0),.loaded ⟨b1,1,none⟩ (vI x1)] ⟨hS3.c 0,hS3.c 0,trivial⟩ ⟨rfl,hS4⟩)

/-! punctual/punctualref.wrongIns -/
abbrev punctualref_wrongIns.Post (w0:World) (r:Int) (e:Ending) (w:World):Prop:=e=.returned (vI r)∧St w0 w []
def punctualref_wrongIns.f (x0 : SIns) : Option Int :=
 if x0.Op<1 then
  some 6
 else
  if x0.Op > 18 then
   some 6
  else
   if 0≤x0.Op then
    match ([0,999999999,7,7,0,0,0,0,0,3,3,2000,2000,7,7,7,3,3,1000]:List Int)[(x0.Op).toNat]? with
    | none=>none
    | some e1 =>
     if x0.Op=13 then
      if x0.Op=14 then
       if x0.A<0 then
        some 3
       else
        if x0.A > e1 then
         some 3
        else
         if x0.B<0 then
          some 3
         else
          if x0.B > 2000 then
           some 3
          else
           if x0.Op=18 then
            if x0.A<1 then
             some 3
            else
             some 0
           else
            some 0
      else
       if x0.A<0 then
        some 3
       else
        if x0.A > e1 then
         some 3
        else
         if x0.B<0 then
          some 3
         else
          if x0.B > 1000 then
           some 3
          else
           if x0.Op=18 then
            if x0.A<1 then
             some 3
            else
             some 0
           else
            some 0
     else
      if x0.Op=14 then
       if x0.A<0 then
        some 3
       else
        if x0.A > e1 then
         some 3
        else
         if x0.B<0 then
          some 3
         else
          if x0.B > 2000 then
           some 3
          else
           if x0.Op=18 then
            if x0.A<1 then
             some 3
            else
             some 0
           else
            some 0
      else
       if x0.A<0 then
        some 3
       else
        if x0.A > e1 then
         some 3
        else
         if x0.B<0 then
          some 3
         else
          if x0.B > 0 then
           some 3
          else
           if x0.Op=18 then
            if x0.A<1 then
             some 3
            else
             some 0
           else
            some 0
   else
    none
theorem punctualref_wrongIns_ok (x0:SIns) (w0:World) (r:Int) (h:punctualref_wrongIns.f x0=some r) :
  Calls Tryd.prog 23 #[.agg #[vI x0.Op,vI x0.A,vI x0.B]] w0 (punctualref_wrongIns.Post w0 r):=by
 have hS:=St.start w0
 unfold punctualref_wrongIns.f at h
 refine calls_enter (n:=54) (args:=[.agg #[vI x0.Op,vI x0.A,vI x0.B]]) (fn:=Tryd.f23) rfl rfl rfl rfl ?_
 show WE _ _ _ _ [(0,.agg #[vI x0.Op,vI x0.A,vI x0.B])] _
 refine ws fun K1 hK1=>wr [(0,1),(1,0)]<|gw (some 1) (.cells #[vI x0.Op,vI x0.A,vI x0.B] 35) (fun b=>pP b 0) hS fun b1 w1 hx1 hS1=>?_
 refine gb0 [1] [(2,vI 0)] ?_
 refine gn hK1<|ws fun K2 hK2=>ws fun K3 hK3=>wr [(0,0),(1,0),(2,0),(3,0),(4,0),(5,0),(6,0),(7,0)]<|gb [0,1,2,3] [(8,.bool (decide (x0.Op<1))),(7,.bool (decide (x0.Op<1))),(6,vI x0.Op),(5,pP b1 0)] [.loaded ⟨b1,0,none⟩ (vI x0.Op)] ⟨hS1.c 0,trivial⟩ ?_
 by_cases hc1:x0.Op<1
 ·rw [if_pos hc1] at h
  refine gk 8 (decide (x0.Op<1)) true (decide_eq_true hc1) ?_
  refine gb0 [4,5,6,7] [(12,.bool true),(11,undef),(10,undef),(9,undef)] ?_
  refine gn hK3<|we_true (by kernel_rfl) ?_
  refine ws fun K4 hK4=>wr [(0,0)]<|gb0 [0] [(2,vI 6)] ?_
  refine gn hK4 ?_
  have hS2:=hS1.takeN 0
  obtain rfl:=si h
  exact we_ret (pr0 [.tmp 2] [vI 6] ⟨rfl,hS2⟩)
 rw [if_neg hc1] at h
 refine gk 8 (decide (x0.Op<1)) false (decide_eq_false hc1) ?_
 refine gb [4,5,6,7] [(12,.bool (decide (x0.Op > 18))),(11,.bool (decide (x0.Op > 18))),(10,vI x0.Op),(9,pP b1 0)] [.loaded ⟨b1,0,none⟩ (vI x0.Op)] ⟨hS1.c 0,trivial⟩ ?_
 refine gn hK3 ?_
 by_cases hc2:x0.Op > 18
 ·rw [if_pos hc2] at h
  refine wk 12 (decide (x0.Op > 18)) true (decide_eq_true hc2) ?_
  refine we_true (by kernel_rfl) ?_
  refine ws fun K5 hK5=>wr [(0,0)]<|gb0 [0] [(2,vI 6)] ?_
  refine gn hK5 ?_
  have hS3:=hS1.takeN 0
  obtain rfl:=si h
  exact we_ret (pr0 [.tmp 2] [vI 6] ⟨rfl,hS3⟩)
 rw [if_neg hc2] at h
 refine wk 12 (decide (x0.Op > 18)) false (decide_eq_false hc2) ?_
 refine we_false (by kernel_rfl) ?_
 refine we_skip fun a hF=>hK2 _ _ ?_ a hF
 refine ws fun K6 hK6=>wr [(0,1),(1,0),(2,0),(3,0),(4,0),(5,0)]<|gw (some 13) (.cells #[vI 0,vI 999999999,vI 7,vI 7,vI 0,vI 0,vI 0,vI 0,vI 0,vI 3,vI 3,vI 2000,vI 2000,vI 7,vI 7,vI 7,vI 3,vI 3,vI 1000] 3) (fun b=>.slice (some ⟨b,0,none⟩) 19 19) hS1 fun b2 w2 hx2 hS4=>?_
 refine gb [1,2] [(15,vI x0.Op),(14,pP b1 0)] [.loaded ⟨b1,0,none⟩ (vI x0.Op)] ⟨hS4.c 1,trivial⟩ ?_
 by_cases hc3:0≤x0.Op
 ·rw [if_pos hc3] at h
  rcases hx3:([0,999999999,7,7,0,0,0,0,0,3,3,2000,2000,7,7,7,3,3,1000]:List Int)[(x0.Op).toNat]? with _ | e1
  ·rw [hx3] at h; cases h
  rw [hx3] at h
  simp only [] at h
  refine gi 16 0 23 3 1 19 19 (.tmp 13) (.tmp 15) (some ⟨b2,0,none⟩) .i64 x0.Op ((x0.Op).toNat) ((hS4.rdBlk 0 ([0,999999999,7,7,0,0,0,0,0,3,3,2000,2000,7,7,7,3,3,1000]:List Int) rfl rfl rfl).eqSome (pos_of_get hx3)) (Int.toNat_of_nonneg hc3).symm (lt_of_get hx3) ?_
  refine gb [4,5] [(3,vI e1),(17,vI e1)] [.loaded ⟨blkOf (some ⟨b2,0,none⟩),offOf (some ⟨b2,0,none⟩)+((x0.Op).toNat)*1,none⟩ (vI e1)] ⟨RdL.cell (j:=0) (hS4.rdBlk 0 ([0,999999999,7,7,0,0,0,0,0,3,3,2000,2000,7,7,7,3,3,1000]:List Int) rfl rfl rfl) hx3 rfl,trivial⟩ ?_
  refine gn hK6<|ws fun K7 hK7=>wr [(0,0)]<|gb0 [0] [(4,vI 0)] ?_
  refine gn hK7<|ws fun K8 hK8=>ws fun K9 hK9=>wr [(0,0),(1,0),(2,0)]<|gb [0,1,2] [(20,.bool (x0.Op==13)),(19,vI x0.Op),(18,pP b1 0)] [.loaded ⟨b1,0,none⟩ (vI x0.Op)] ⟨hS4.c 1,trivial⟩ ?_
  refine gn hK9 ?_
  by_cases hc4:x0.Op=13
  ·rw [if_pos hc4] at h
   refine wk 20 (x0.Op==13) true (beq_iff_eq.2 hc4) ?_
   refine we_true (by kernel_rfl) ?_
   refine wr [(0,0)]<|gb0 [0] [(4,vI 1000)] ?_
   refine gn hK8<|ws fun K10 hK10=>ws fun K11 hK11=>wr [(0,0),(1,0),(2,0)]<|gb [0,1,2] [(23,.bool (x0.Op==14)),(22,vI x0.Op),(21,pP b1 0)] [.loaded ⟨b1,0,none⟩ (vI x0.Op)] ⟨hS4.c 1,trivial⟩ ?_
   refine gn hK11 ?_
   by_cases hc5:x0.Op=14
   ·rw [if_pos hc5] at h
    refine wk 23 (x0.Op==14) true (beq_iff_eq.2 hc5) ?_
    refine we_true (by kernel_rfl) ?_
    refine wr [(0,0)]<|gb0 [0] [(4,vI 2000)] ?_
    refine gn hK10<|ws fun K12 hK12=>ws fun K13 hK13=>wr [(0,0),(1,0),(2,0),(3,0),(4,0),(5,0),(6,0),(7,0),(8,0),(9,0),(10,0),(11,0),(12,0),(13,0),(14,0),(15,0),(16,0),(17,0),(18,0),(19,0),(20,0),(21,0),(22,0),(23,0),(24,0),(25,0),(26,0),(27,0),(28,0),(29,0)]<|gb [0,1,2,3] [(27,.bool (decide (x0.A<0))),(26,.bool (decide (x0.A<0))),(25,vI x0.A),(24,pP b1 1)] [.loaded ⟨b1,1,none⟩ (vI x0.A)] ⟨hS4.c 1,trivial⟩ ?_
    by_cases hc6:x0.A<0
    ·rw [if_pos hc6] at h
     refine gk 27 (decide (x0.A<0)) true (decide_eq_true hc6) ?_
     refine gb0 [4,5,6,7,8,9,10,11,12,13,14,15,16,17,18,19,20,21,22,23,24,25,26,27,28,29] [(53,.bool true),(52,undef),(51,undef),(50,undef),(49,undef),(48,undef),(47,undef),(46,undef),(45,undef),(44,.bool true),(43,.bool true),(42,undef),(41,undef),(40,undef),(39,undef),(38,.bool true),(37,.bool true),(36,undef),(35,undef),(34,undef),(33,.bool true),(32,.bool true),(31,undef),(30,undef),(29,undef),(28,undef)] ?_
     refine gn hK13<|we_true (by kernel_rfl) ?_
     refine ws fun K14 hK14=>wr [(0,0)]<|gb0 [0] [(2,vI 3)] ?_
     refine gn hK14 ?_
     have hS5:=hS4.takeN 0
     obtain rfl:=si h
     exact we_ret (pr0 [.tmp 2] [vI 3] ⟨rfl,hS5⟩)
    rw [if_neg hc6] at h
    refine gk 27 (decide (x0.A<0)) false (decide_eq_false hc6) ?_
    refine gb [4,5,6,7,8,9] [(33,.bool (decide (x0.A > e1))),(32,.bool (decide (x0.A > e1))),(31,.bool (decide (x0.A > e1))),(30,vI e1),(29,vI x0.A),(28,pP b1 1)] [.loaded ⟨b1,1,none⟩ (vI x0.A)] ⟨hS4.c 1,trivial⟩ ?_
    by_cases hc7:x0.A > e1
    ·rw [if_pos hc7] at h
     refine gk 33 (decide (x0.A > e1)) true (decide_eq_true hc7) ?_
     refine gb0 [10,11,12,13,14,15,16,17,18,19,20,21,22,23,24,25,26,27,28,29] [(53,.bool true),(52,undef),(51,undef),(50,undef),(49,undef),(48,undef),(47,undef),(46,undef),(45,undef),(44,.bool true),(43,.bool true),(42,undef),(41,undef),(40,undef),(39,undef),(38,.bool true),(37,.bool true),(36,undef),(35,undef),(34,undef)] ?_
     refine gn hK13<|we_true (by kernel_rfl) ?_
     refine ws fun K15 hK15=>wr [(0,0)]<|gb0 [0] [(2,vI 3)] ?_
     refine gn hK15 ?_
     have hS6:=hS4.takeN 0
     obtain rfl:=si h
     exact we_ret (pr0 [.tmp 2] [vI 3] ⟨rfl,hS6⟩)
    rw [if_neg hc7] at h
    refine gk 33 (decide (x0.A > e1)) false (decide_eq_false hc7) ?_
    refine gb [10,11,12,13,14] [(38,.bool (decide (x0.B<0))),(37,.bool (decide (x0.B<0))),(36,.bool (decide (x0.B<0))),(35,vI x0.B),(34,pP b1 2)] [.loaded ⟨b1,2,none⟩ (vI x0.B)] ⟨hS4.c 1,trivial⟩ ?_
    by_cases hc8:x0.B<0
    ·rw [if_pos hc8] at h
     refine gk 38 (decide (x0.B<0)) true (decide_eq_true hc8) ?_
     refine gb0 [15,16,17,18,19,20,21,22,23,24,25,26,27,28,29] [(53,.bool true),(52,undef),(51,undef),(50,undef),(49,undef),(48,undef),(47,undef),(46,undef),(45,undef),(44,.bool true),(43,.bool true),(42,undef),(41,undef),(40,undef),(39,undef)] ?_
     refine gn hK13<|we_true (by kernel_rfl) ?_
     refine ws fun K16 hK16=>wr [(0,0)]<|gb0 [0] [(2,vI 3)] ?_
     refine gn hK16 ?_
     have hS7:=hS4.takeN 0
     obtain rfl:=si h
     exact we_ret (pr0 [.tmp 2] [vI 3] ⟨rfl,hS7⟩)
    rw [if_neg hc8] at h
    refine gk 38 (decide (x0.B<0)) false (decide_eq_false hc8) ?_
    refine gb [15,16,17,18,19,20] [(44,.bool (decide (x0.B > 2000))),(43,.bool (decide (x0.B > 2000))),(42,.bool (decide (x0.B > 2000))),(41,vI 2000),(40,vI x0.B),(39,pP b1 2)] [.loaded ⟨b1,2,none⟩ (vI x0.B)] ⟨hS4.c 1,trivial⟩ ?_
    by_cases hc9:x0.B > 2000
    ·rw [if_pos hc9] at h
     refine gk 44 (decide (x0.B > 2000)) true (decide_eq_true hc9) ?_
     refine gb0 [21,22,23,24,25,26,27,28,29] [(53,.bool true),(52,undef),(51,undef),(50,undef),(49,undef),(48,undef),(47,undef),(46,undef),(45,undef)] ?_
     refine gn hK13<|we_true (by kernel_rfl) ?_
     refine ws fun K17 hK17=>wr [(0,0)]<|gb0 [0] [(2,vI 3)] ?_
     refine gn hK17 ?_
     have hS8:=hS4.takeN 0
     obtain rfl:=si h
     exact we_ret (pr0 [.tmp 2] [vI 3] ⟨rfl,hS8⟩)
    rw [if_neg hc9] at h
    refine gk 44 (decide (x0.B > 2000)) false (decide_eq_false hc9) ?_
    refine gb [21,22,23,24] [(48,.bool (x0.Op==18)),(47,.bool (x0.Op==18)),(46,vI x0.Op),(45,pP b1 0)] [.loaded ⟨b1,0,none⟩ (vI x0.Op)] ⟨hS4.c 1,trivial⟩ ?_
    by_cases hc10:x0.Op=18
    ·rw [if_pos hc10] at h
     refine gk 48 (x0.Op==18) true (beq_iff_eq.2 hc10) ?_
     refine gb [25,26,27,28,29] [(53,.bool (decide (x0.A<1))),(52,.bool (decide (x0.A<1))),(51,.bool (decide (x0.A<1))),(50,vI x0.A),(49,pP b1 1)] [.loaded ⟨b1,1,none⟩ (vI x0.A)] ⟨hS4.c 1,trivial⟩ ?_
     refine gn hK13 ?_
     by_cases hc11:x0.A<1
     ·rw [if_pos hc11] at h
      refine wk 53 (decide (x0.A<1)) true (decide_eq_true hc11) ?_
      refine we_true (by kernel_rfl) ?_
      refine ws fun K18 hK18=>wr [(0,0)]<|gb0 [0] [(2,vI 3)] ?_
      refine gn hK18 ?_
      have hS9:=hS4.takeN 0
      obtain rfl:=si h
      exact we_ret (pr0 [.tmp 2] [vI 3] ⟨rfl,hS9⟩)
     rw [if_neg hc11] at h
     refine wk 53 (decide (x0.A<1)) false (decide_eq_false hc11) ?_
     refine we_false (by kernel_rfl) ?_
     refine we_skip fun a hF=>hK12 _ _ ?_ a hF
     refine ws fun K19 hK19=>wr [(0,0)]<|gb0 [0] [(2,vI 0)] ?_
     refine gn hK19 ?_
     have hS10:=hS4.takeN 0
     obtain rfl:=si h
     exact we_ret (pr0 [.tmp 2] [vI 0] ⟨rfl,hS10⟩)
    rw [if_neg hc10] at h
    refine gk 48 (x0.Op==18) false (beq_eq_false_iff_ne.2 hc10) ?_
    refine gb0 [25,26,27,28,29] [(53,.bool false),(52,.bool false),(51,undef),(50,undef),(49,undef)] ?_
    refine gn hK13<|we_false (by kernel_rfl) ?_
    refine we_skip fun a hF=>hK12 _ _ ?_ a hF
    refine ws fun K20 hK20=>wr [(0,0)]<|gb0 [0] [(2,vI 0)] ?_
    refine gn hK20 ?_
    have hS11:=hS4.takeN 0
    obtain rfl:=si h
    exact we_ret (pr0 [.tmp 2] [vI 0] ⟨rfl,hS11⟩)
   rw [if_neg hc5] at h
   refine wk 23 (x0.Op==14) false (beq_eq_false_iff_ne.2 hc5) ?_
   refine we_false (by kernel_rfl) ?_
   refine we_skip fun a hF=>hK10 _ _ ?_ a hF
   refine ws fun K21 hK21=>ws fun K22 hK22=>wr [(0,0),(1,0),(2,0),(3,0),(4,0),(5,0),(6,0),(7,0),(8,0),(9,0),(10,0),(11,0),(12,0),(13,0),(14,0),(15,0),(16,0),(17,0),(18,0),(19,0),(20,0),(21,0),(22,0),(23,0),(24,0),(25,0),(26,0),(27,0),(28,0),(29,0)]<|gb [0,1,2,3] [(27,.bool (decide (x0.A<0))),(26,.bool (decide (x0.A<0))),(25,vI x0.A),(24,pP b1 1)] [.loaded ⟨b1,1,none⟩ (vI x0.A)] ⟨hS4.c 1,trivial⟩ ?_
   by_cases hc12:x0.A<0
   ·rw [if_pos hc12] at h
    refine gk 27 (decide (x0.A<0)) true (decide_eq_true hc12) ?_
    refine gb0 [4,5,6,7,8,9,10,11,12,13,14,15,16,17,18,19,20,21,22,23,24,25,26,27,28,29] [(53,.bool true),(52,undef),(51,undef),(50,undef),(49,undef),(48,undef),(47,undef),(46,undef),(45,undef),(44,.bool true),(43,.bool true),(42,undef),(41,undef),(40,undef),(39,undef),(38,.bool true),(37,.bool true),(36,undef),(35,undef),(34,undef),(33,.bool true),(32,.bool true),(31,undef),(30,undef),(29,undef),(28,undef)] ?_
    refine gn hK22<|we_true (by kernel_rfl) ?_
    refine ws fun K23 hK23=>wr [(0,0)]<|gb0 [0] [(2,vI 3)] ?_
    refine gn hK23 ?_
    have hS12:=hS4.takeN 0
    obtain rfl:=si h
    exact we_ret (pr0 [.tmp 2] [vI 3] ⟨rfl,hS12⟩)
   rw [if_neg hc12] at h
   refine gk 27 (decide (x0.A<0)) false (decide_eq_false hc12) ?_
   refine gb [4,5,6,7,8,9] [(33,.bool (decide (x0.A > e1))),(32,.bool (decide (x0.A > e1))),(31,.bool (decide (x0.A > e1))),(30,vI e1),(29,vI x0.A),(28,pP b1 1)] [.loaded ⟨b1,1,none⟩ (vI x0.A)] ⟨hS4.c 1,trivial⟩ ?_
   by_cases hc13:x0.A > e1
   ·rw [if_pos hc13] at h
    refine gk 33 (decide (x0.A > e1)) true (decide_eq_true hc13) ?_
    refine gb0 [10,11,12,13,14,15,16,17,18,19,20,21,22,23,24,25,26,27,28,29] [(53,.bool true),(52,undef),(51,undef),(50,undef),(49,undef),(48,undef),(47,undef),(46,undef),(45,undef),(44,.bool true),(43,.bool true),(42,undef),(41,undef),(40,undef),(39,undef),(38,.bool true),(37,.bool true),(36,undef),(35,undef),(34,undef)] ?_
    refine gn hK22<|we_true (by kernel_rfl) ?_
    refine ws fun K24 hK24=>wr [(0,0)]<|gb0 [0] [(2,vI 3)] ?_
    refine gn hK24 ?_
    have hS13:=hS4.takeN 0
    obtain rfl:=si h
    exact we_ret (pr0 [.tmp 2] [vI 3] ⟨rfl,hS13⟩)
   rw [if_neg hc13] at h
   refine gk 33 (decide (x0.A > e1)) false (decide_eq_false hc13) ?_
   refine gb [10,11,12,13,14] [(38,.bool (decide (x0.B<0))),(37,.bool (decide (x0.B<0))),(36,.bool (decide (x0.B<0))),(35,vI x0.B),(34,pP b1 2)] [.loaded ⟨b1,2,none⟩ (vI x0.B)] ⟨hS4.c 1,trivial⟩ ?_
   by_cases hc14:x0.B<0
   ·rw [if_pos hc14] at h
    refine gk 38 (decide (x0.B<0)) true (decide_eq_true hc14) ?_
    refine gb0 [15,16,17,18,19,20,21,22,23,24,25,26,27,28,29] [(53,.bool true),(52,undef),(51,undef),(50,undef),(49,undef),(48,undef),(47,undef),(46,undef),(45,undef),(44,.bool true),(43,.bool true),(42,undef),(41,undef),(40,undef),(39,undef)] ?_
    refine gn hK22<|we_true (by kernel_rfl) ?_
    refine ws fun K25 hK25=>wr [(0,0)]<|gb0 [0] [(2,vI 3)] ?_
    refine gn hK25 ?_
    have hS14:=hS4.takeN 0
    obtain rfl:=si h
    exact we_ret (pr0 [.tmp 2] [vI 3] ⟨rfl,hS14⟩)
   rw [if_neg hc14] at h
   refine gk 38 (decide (x0.B<0)) false (decide_eq_false hc14) ?_
   refine gb [15,16,17,18,19,20] [(44,.bool (decide (x0.B > 1000))),(43,.bool (decide (x0.B > 1000))),(42,.bool (decide (x0.B > 1000))),(41,vI 1000),(40,vI x0.B),(39,pP b1 2)] [.loaded ⟨b1,2,none⟩ (vI x0.B)] ⟨hS4.c 1,trivial⟩ ?_
   by_cases hc15:x0.B > 1000
   ·rw [if_pos hc15] at h
    refine gk 44 (decide (x0.B > 1000)) true (decide_eq_true hc15) ?_
    refine gb0 [21,22,23,24,25,26,27,28,29] [(53,.bool true),(52,undef),(51,undef),(50,undef),(49,undef),(48,undef),(47,undef),(46,undef),(45,undef)] ?_
    refine gn hK22<|we_true (by kernel_rfl) ?_
    refine ws fun K26 hK26=>wr [(0,0)]<|gb0 [0] [(2,vI 3)] ?_
    refine gn hK26 ?_
    have hS15:=hS4.takeN 0
    obtain rfl:=si h
    exact we_ret (pr0 [.tmp 2] [vI 3] ⟨rfl,hS15⟩)
   rw [if_neg hc15] at h
   refine gk 44 (decide (x0.B > 1000)) false (decide_eq_false hc15) ?_
   refine gb [21,22,23,24] [(48,.bool (x0.Op==18)),(47,.bool (x0.Op==18)),(46,vI x0.Op),(45,pP b1 0)] [.loaded ⟨b1,0,none⟩ (vI x0.Op)] ⟨hS4.c 1,trivial⟩ ?_
   by_cases hc16:x0.Op=18
   ·rw [if_pos hc16] at h
    refine gk 48 (x0.Op==18) true (beq_iff_eq.2 hc16) ?_
    refine gb [25,26,27,28,29] [(53,.bool (decide (x0.A<1))),(52,.bool (decide (x0.A<1))),(51,.bool (decide (x0.A<1))),(50,vI x0.A),(49,pP b1 1)] [.loaded ⟨b1,1,none⟩ (vI x0.A)] ⟨hS4.c 1,trivial⟩ ?_
    refine gn hK22 ?_
    by_cases hc17:x0.A<1
    ·rw [if_pos hc17] at h
     refine wk 53 (decide (x0.A<1)) true (decide_eq_true hc17) ?_
     refine we_true (by kernel_rfl) ?_
     refine ws fun K27 hK27=>wr [(0,0)]<|gb0 [0] [(2,vI 3)] ?_
     refine gn hK27 ?_
     have hS16:=hS4.takeN 0
     obtain rfl:=si h
     exact we_ret (pr0 [.tmp 2] [vI 3] ⟨rfl,hS16⟩)
    rw [if_neg hc17] at h
    refine wk 53 (decide (x0.A<1)) false (decide_eq_false hc17) ?_
    refine we_false (by kernel_rfl) ?_
    refine we_skip fun a hF=>hK21 _ _ ?_ a hF
    refine ws fun K28 hK28=>wr [(0,0)]<|gb0 [0] [(2,vI 0)] ?_
    refine gn hK28 ?_
    have hS17:=hS4.takeN 0
    obtain rfl:=si h
    exact we_ret (pr0 [.tmp 2] [vI 0] ⟨rfl,hS17⟩)
   rw [if_neg hc16] at h
   refine gk 48 (x0.Op==18) false (beq_eq_false_iff_ne.2 hc16) ?_
   refine gb0 [25,26,27,28,29] [(53,.bool false),(52,.bool false),(51,undef),(50,undef),(49,undef)] ?_
   refine gn hK22<|we_false (by kernel_rfl) ?_
   refine we_skip fun a hF=>hK21 _ _ ?_ a hF
   refine ws fun K29 hK29=>wr [(0,0)]<|gb0 [0] [(2,vI 0)] ?_
   refine gn hK29 ?_
   have hS18:=hS4.takeN 0
   obtain rfl:=si h
   exact we_ret (pr0 [.tmp 2] [vI 0] ⟨rfl,hS18⟩)
  rw [if_neg hc4] at h
  refine wk 20 (x0.Op==13) false (beq_eq_false_iff_ne.2 hc4) ?_
  refine we_false (by kernel_rfl) ?_
  refine we_skip fun a hF=>hK8 _ _ ?_ a hF
  refine ws fun K30 hK30=>ws fun K31 hK31=>wr [(0,0),(1,0),(2,0)]<|gb [0,1,2] [(23,.bool (x0.Op==14)),(22,vI x0.Op),(21,pP b1 0)] [.loaded ⟨b1,0,none⟩ (vI x0.Op)] ⟨hS4.c 1,trivial⟩ ?_
  refine gn hK31 ?_
  by_cases hc18:x0.Op=14
  ·rw [if_pos hc18] at h
   refine wk 23 (x0.Op==14) true (beq_iff_eq.2 hc18) ?_
   refine we_true (by kernel_rfl) ?_
   refine wr [(0,0)]<|gb0 [0] [(4,vI 2000)] ?_
   refine gn hK30<|ws fun K32 hK32=>ws fun K33 hK33=>wr [(0,0),(1,0),(2,0),(3,0),(4,0),(5,0),(6,0),(7,0),(8,0),(9,0),(10,0),(11,0),(12,0),(13,0),(14,0),(15,0),(16,0),(17,0),(18,0),(19,0),(20,0),(21,0),(22,0),(23,0),(24,0),(25,0),(26,0),(27,0),(28,0),(29,0)]<|gb [0,1,2,3] [(27,.bool (decide (x0.A<0))),(26,.bool (decide (x0.A<0))),(25,vI x0.A),(24,pP b1 1)] [.loaded ⟨b1,1,none⟩ (vI x0.A)] ⟨hS4.c 1,trivial⟩ ?_
   by_cases hc19:x0.A<0
   ·rw [if_pos hc19] at h
    refine gk 27 (decide (x0.A<0)) true (decide_eq_true hc19) ?_
    refine gb0 [4,5,6,7,8,9,10,11,12,13,14,15,16,17,18,19,20,21,22,23,24,25,26,27,28,29] [(53,.bool true),(52,undef),(51,undef),(50,undef),(49,undef),(48,undef),(47,undef),(46,undef),(45,undef),(44,.bool true),(43,.bool true),(42,undef),(41,undef),(40,undef),(39,undef),(38,.bool true),(37,.bool true),(36,undef),(35,undef),(34,undef),(33,.bool true),(32,.bool true),(31,undef),(30,undef),(29,undef),(28,undef)] ?_
    refine gn hK33<|we_true (by kernel_rfl) ?_
    refine ws fun K34 hK34=>wr [(0,0)]<|gb0 [0] [(2,vI 3)] ?_
    refine gn hK34 ?_
    have hS19:=hS4.takeN 0
    obtain rfl:=si h
    exact we_ret (pr0 [.tmp 2] [vI 3] ⟨rfl,hS19⟩)
   rw [if_neg hc19] at h
   refine gk 27 (decide (x0.A<0)) false (decide_eq_false hc19) ?_
   refine gb [4,5,6,7,8,9] [(33,.bool (decide (x0.A > e1))),(32,.bool (decide (x0.A > e1))),(31,.bool (decide (x0.A > e1))),(30,vI e1),(29,vI x0.A),(28,pP b1 1)] [.loaded ⟨b1,1,none⟩ (vI x0.A)] ⟨hS4.c 1,trivial⟩ ?_
   by_cases hc20:x0.A > e1
   ·rw [if_pos hc20] at h
    refine gk 33 (decide (x0.A > e1)) true (decide_eq_true hc20) ?_
    refine gb0 [10,11,12,13,14,15,16,17,18,19,20,21,22,23,24,25,26,27,28,29] [(53,.bool true),(52,undef),(51,undef),(50,undef),(49,undef),(48,undef),(47,undef),(46,undef),(45,undef),(44,.bool true),(43,.bool true),(42,undef),(41,undef),(40,undef),(39,undef),(38,.bool true),(37,.bool true),(36,undef),(35,undef),(34,undef)] ?_
    refine gn hK33<|we_true (by kernel_rfl) ?_
    refine ws fun K35 hK35=>wr [(0,0)]<|gb0 [0] [(2,vI 3)] ?_
    refine gn hK35 ?_
    have hS20:=hS4.takeN 0
    obtain rfl:=si h
    exact we_ret (pr0 [.tmp 2] [vI 3] ⟨rfl,hS20⟩)
   rw [if_neg hc20] at h
   refine gk 33 (decide (x0.A > e1)) false (decide_eq_false hc20) ?_
   refine gb [10,11,12,13,14] [(38,.bool (decide (x0.B<0))),(37,.bool (decide (x0.B<0))),(36,.bool (decide (x0.B<0))),(35,vI x0.B),(34,pP b1 2)] [.loaded ⟨b1,2,none⟩ (vI x0.B)] ⟨hS4.c 1,trivial⟩ ?_
   by_cases hc21:x0.B<0
   ·rw [if_pos hc21] at h
    refine gk 38 (decide (x0.B<0)) true (decide_eq_true hc21) ?_
    refine gb0 [15,16,17,18,19,20,21,22,23,24,25,26,27,28,29] [(53,.bool true),(52,undef),(51,undef),(50,undef),(49,undef),(48,undef),(47,undef),(46,undef),(45,undef),(44,.bool true),(43,.bool true),(42,undef),(41,undef),(40,undef),(39,undef)] ?_
    refine gn hK33<|we_true (by kernel_rfl) ?_
    refine ws fun K36 hK36=>wr [(0,0)]<|gb0 [0] [(2,vI 3)] ?_
    refine gn hK36 ?_
    have hS21:=hS4.takeN 0
    obtain rfl:=si h
    exact we_ret (pr0 [.tmp 2] [vI 3] ⟨rfl,hS21⟩)
   rw [if_neg hc21] at h
   refine gk 38 (decide (x0.B<0)) false (decide_eq_false hc21) ?_
   refine gb [15,16,17,18,19,20] [(44,.bool (decide (x0.B > 2000))),(43,.bool (decide (x0.B > 2000))),(42,.bool (decide (x0.B > 2000))),(41,vI 2000),(40,vI x0.B),(39,pP b1 2)] [.loaded ⟨b1,2,none⟩ (vI x0.B)] ⟨hS4.c 1,trivial⟩ ?_
   by_cases hc22:x0.B > 2000
   ·rw [if_pos hc22] at h
    refine gk 44 (decide (x0.B > 2000)) true (decide_eq_true hc22) ?_
    refine gb0 [21,22,23,24,25,26,27,28,29] [(53,.bool true),(52,undef),(51,undef),(50,undef),(49,undef),(48,undef),(47,undef),(46,undef),(45,undef)] ?_
    refine gn hK33<|we_true (by kernel_rfl) ?_
    refine ws fun K37 hK37=>wr [(0,0)]<|gb0 [0] [(2,vI 3)] ?_
    refine gn hK37 ?_
    have hS22:=hS4.takeN 0
    obtain rfl:=si h
    exact we_ret (pr0 [.tmp 2] [vI 3] ⟨rfl,hS22⟩)
   rw [if_neg hc22] at h
   refine gk 44 (decide (x0.B > 2000)) false (decide_eq_false hc22) ?_
   refine gb [21,22,23,24] [(48,.bool (x0.Op==18)),(47,.bool (x0.Op==18)),(46,vI x0.Op),(45,pP b1 0)] [.loaded ⟨b1,0,none⟩ (vI x0.Op)] ⟨hS4.c 1,trivial⟩ ?_
   by_cases hc23:x0.Op=18
   ·rw [if_pos hc23] at h
    refine gk 48 (x0.Op==18) true (beq_iff_eq.2 hc23) ?_
    refine gb [25,26,27,28,29] [(53,.bool (decide (x0.A<1))),(52,.bool (decide (x0.A<1))),(51,.bool (decide (x0.A<1))),(50,vI x0.A),(49,pP b1 1)] [.loaded ⟨b1,1,none⟩ (vI x0.A)] ⟨hS4.c 1,trivial⟩ ?_
    refine gn hK33 ?_
    by_cases hc24:x0.A<1
    ·rw [if_pos hc24] at h
     refine wk 53 (decide (x0.A<1)) true (decide_eq_true hc24) ?_
     refine we_true (by kernel_rfl) ?_
     refine ws fun K38 hK38=>wr [(0,0)]<|gb0 [0] [(2,vI 3)] ?_
     refine gn hK38 ?_
     have hS23:=hS4.takeN 0
     obtain rfl:=si h
     exact we_ret (pr0 [.tmp 2] [vI 3] ⟨rfl,hS23⟩)
    rw [if_neg hc24] at h
    refine wk 53 (decide (x0.A<1)) false (decide_eq_false hc24) ?_
    refine we_false (by kernel_rfl) ?_
    refine we_skip fun a hF=>hK32 _ _ ?_ a hF
    refine ws fun K39 hK39=>wr [(0,0)]<|gb0 [0] [(2,vI 0)] ?_
    refine gn hK39 ?_
    have hS24:=hS4.takeN 0
    obtain rfl:=si h
    exact we_ret (pr0 [.tmp 2] [vI 0] ⟨rfl,hS24⟩)
   rw [if_neg hc23] at h
   refine gk 48 (x0.Op==18) false (beq_eq_false_iff_ne.2 hc23) ?_
   refine gb0 [25,26,27,28,29] [(53,.bool false),(52,.bool false),(51,undef),(50,undef),(49,undef)] ?_
   refine gn hK33<|we_false (by kernel_rfl) ?_
   refine we_skip fun a hF=>hK32 _ _ ?_ a hF
   refine ws fun K40 hK40=>wr [(0,0)]<|gb0 [0] [(2,vI 0)] ?_
   refine gn hK40 ?_
   have hS25:=hS4.takeN 0
   obtain rfl:=si h
   exact we_ret (pr0 [.tmp 2] [vI 0] ⟨rfl,hS25⟩)
  rw [if_neg hc18] at h
  refine wk 23 (x0.Op==14) false (beq_eq_false_iff_ne.2 hc18) ?_
  refine we_false (by kernel_rfl) ?_
  refine we_skip fun a hF=>hK30 _ _ ?_ a hF
  refine ws fun K41 hK41=>ws fun K42 hK42=>wr [(0,0),(1,0),(2,0),(3,0),(4,0),(5,0),(6,0),(7,0),(8,0),(9,0),(10,0),(11,0),(12,0),(13,0),(14,0),(15,0),(16,0),(17,0),(18,0),(19,0),(20,0),(21,0),(22,0),(23,0),(24,0),(25,0),(26,0),(27,0),(28,0),(29,0)]<|gb [0,1,2,3] [(27,.bool (decide (x0.A<0))),(26,.bool (decide (x0.A<0))),(25,vI x0.A),(24,pP b1 1)] [.loaded ⟨b1,1,none⟩ (vI x0.A)] ⟨hS4.c 1,trivial⟩ ?_
  by_cases hc25:x0.A<0
  ·rw [if_pos hc25] at h
   refine gk 27 (decide (x0.A<0)) true (decide_eq_true hc25) ?_
   refine gb0 [4,5,6,7,8,9,10,11,12,13,14,15,16,17,18,19,20,21,22,23,24,25,26,27,28,29] [(53,.bool true),(52,undef),(51,undef),(50,undef),(49,undef),(48,undef),(47,undef),(46,undef),(45,undef),(44,.bool true),(43,.bool true),(42,undef),(41,undef),(40,undef),(39,undef),(38,.bool true),(37,.bool true),(36,undef),(35,undef),(34,undef),(33,.bool true),(32,.bool true),(31,undef),(30,undef),(29,undef),(28,undef)] ?_
   refine gn hK42<|we_true (by kernel_rfl) ?_
   refine ws fun K43 hK43=>wr [(0,0)]<|gb0 [0] [(2,vI 3)] ?_
   refine gn hK43 ?_
   have hS26:=hS4.takeN 0
   obtain rfl:=si h
   exact we_ret (pr0 [.tmp 2] [vI 3] ⟨rfl,hS26⟩)
  rw [if_neg hc25] at h
  refine gk 27 (decide (x0.A<0)) false (decide_eq_false hc25) ?_
  refine gb [4,5,6,7,8,9] [(33,.bool (decide (x0.A > e1))),(32,.bool (decide (x0.A > e1))),(31,.bool (decide (x0.A > e1))),(30,vI e1),(29,vI x0.A),(28,pP b1 1)] [.loaded ⟨b1,1,none⟩ (vI x0.A)] ⟨hS4.c 1,trivial⟩ ?_
  by_cases hc26:x0.A > e1
  ·rw [if_pos hc26] at h
   refine gk 33 (decide (x0.A > e1)) true (decide_eq_true hc26) ?_
   refine gb0 [10,11,12,13,14,15,16,17,18,19,20,21,22,23,24,25,26,27,28,29] [(53,.bool true),(52,undef),(51,undef),(50,undef),(49,undef),(48,undef),(47,undef),(46,undef),(45,undef),(44,.bool true),(43,.bool true),(42,undef),(41,undef),(40,undef),(39,undef),(38,.bool true),(37,.bool true),(36,undef),(35,undef),(34,undef)] ?_
   refine gn hK42<|we_true (by kernel_rfl) ?_
   refine ws fun K44 hK44=>wr [(0,0)]<|gb0 [0] [(2,vI 3)] ?_
   refine gn hK44 ?_
   have hS27:=hS4.takeN 0
   obtain rfl:=si h
   exact we_ret (pr0 [.tmp 2] [vI 3] ⟨rfl,hS27⟩)
  rw [if_neg hc26] at h
  refine gk 33 (decide (x0.A > e1)) false (decide_eq_false hc26) ?_
  refine gb [10,11,12,13,14] [(38,.bool (decide (x0.B<0))),(37,.bool (decide (x0.B<0))),(36,.bool (decide (x0.B<0))),(35,vI x0.B),(34,pP b1 2)] [.loaded ⟨b1,2,none⟩ (vI x0.B)] ⟨hS4.c 1,trivial⟩ ?_
  by_cases hc27:x0.B<0
  ·rw [if_pos hc27] at h
   refine gk 38 (decide (x0.B<0)) true (decide_eq_true hc27) ?_
   refine gb0 [15,16,17,18,19,20,21,22,23,24,25,26,27,28,29] [(53,.bool true),(52,undef),(51,undef),(50,undef),(49,undef),(48,undef),(47,undef),(46,undef),(45,undef),(44,.bool true),(43,.bool true),(42,undef),(41,undef),(40,undef),(39,undef)] ?_
   refine gn hK42<|we_true (by kernel_rfl) ?_
   refine ws fun K45 hK45=>wr [(0,0)]<|gb0 [0] [(2,vI 3)] ?_
   refine gn hK45 ?_
   have hS28:=hS4.takeN 0
   obtain rfl:=si h
   exact we_ret (pr0 [.tmp 2] [vI 3] ⟨rfl,hS28⟩)
  rw [if_neg hc27] at h
  refine gk 38 (decide (x0.B<0)) false (decide_eq_false hc27) ?_
  refine gb [15,16,17,18,19,20] [(44,.bool (decide (x0.B > 0))),(43,.bool (decide (x0.B > 0))),(42,.bool (decide (x0.B > 0))),(41,vI 0),(40,vI x0.B),(39,pP b1 2)] [.loaded ⟨b1,2,none⟩ (vI x0.B)] ⟨hS4.c 1,trivial⟩ ?_
  by_cases hc28:x0.B > 0
  ·rw [if_pos hc28] at h
   refine gk 44 (decide (x0.B > 0)) true (decide_eq_true hc28) ?_
   refine gb0 [21,22,23,24,25,26,27,28,29] [(53,.bool true),(52,undef),(51,undef),(50,undef),(49,undef),(48,undef),(47,undef),(46,undef),(45,undef)] ?_
   refine gn hK42<|we_true (by kernel_rfl) ?_
   refine ws fun K46 hK46=>wr [(0,0)]<|gb0 [0] [(2,vI 3)] ?_
   refine gn hK46 ?_
   have hS29:=hS4.takeN 0
   obtain rfl:=si h
   exact we_ret (pr0 [.tmp 2] [vI 3] ⟨rfl,hS29⟩)
  rw [if_neg hc28] at h
  refine gk 44 (decide (x0.B > 0)) false (decide_eq_false hc28) ?_
  refine gb [21,22,23,24] [(48,.bool (x0.Op==18)),(47,.bool (x0.Op==18)),(46,vI x0.Op),(45,pP b1 0)] [.loaded ⟨b1,0,none⟩ (vI x0.Op)] ⟨hS4.c 1,trivial⟩ ?_
  by_cases hc29:x0.Op=18
  ·rw [if_pos hc29] at h
   refine gk 48 (x0.Op==18) true (beq_iff_eq.2 hc29) ?_
   refine gb [25,26,27,28,29] [(53,.bool (decide (x0.A<1))),(52,.bool (decide (x0.A<1))),(51,.bool (decide (x0.A<1))),(50,vI x0.A),(49,pP b1 1)] [.loaded ⟨b1,1,none⟩ (vI x0.A)] ⟨hS4.c 1,trivial⟩ ?_
   refine gn hK42 ?_
   by_cases hc30:x0.A<1
   ·rw [if_pos hc30] at h
    refine wk 53 (decide (x0.A<1)) true (decide_eq_true hc30) ?_
    refine we_true (by kernel_rfl) ?_
    refine ws fun K47 hK47=>wr [(0,0)]<|gb0 [0] [(2,vI 3)] ?_
    refine gn hK47 ?_
    have hS30:=hS4.takeN 0
    obtain rfl:=si h
    exact we_ret (pr0 [.tmp 2] [vI 3] ⟨rfl,hS30⟩)
   rw [if_neg hc30] at h
   refine wk 53 (decide (x0.A<1)) false (decide_eq_false hc30) ?_
   refine we_false (by kernel_rfl) ?_
   refine we_skip fun a hF=>hK41 _ _ ?_ a hF
   refine ws fun K48 hK48=>wr [(0,0)]<|gb0 [0] [(2,vI 0)] ?_
   refine gn hK48 ?_
   have hS31:=hS4.takeN 0
   obtain rfl:=si h
   exact we_ret (pr0 [.tmp 2] [vI 0] ⟨rfl,hS31⟩)
  rw [if_neg hc29] at h
  refine gk 48 (x0.Op==18) false (beq_eq_false_iff_ne.2 hc29) ?_
  refine gb0 [25,26,27,28,29] [(53,.bool false),(52,.bool false),(51,undef),(50,undef),(49,undef)] ?_
  refine gn hK42<|we_false (by kernel_rfl) ?_
  refine we_skip fun a hF=>hK41 _ _ ?_ a hF
  refine ws fun K49 hK49=>wr [(0,0)]<|gb0 [0] [(2,vI 0)] ?_
  refine gn hK49 ?_
  have hS32:=hS4.takeN 0
  obtain rfl:=si h
  exact we_ret (pr0 [.tmp 2] [vI 0] ⟨rfl,hS32⟩)
 rw [if_neg hc3] at h
 cases h
end Go.Proofs.YtgpolejhaglddaaDoor.GV
