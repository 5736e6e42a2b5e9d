/- Walks of single functions, written by a program of this work. -/
import Derived.Test.YtcjphfmmmlgcbaaGWMeaningJoins2
namespace Go.Proofs.Ytcjphfmmmlgcbaa.GV
open Go Go.RowKit
set_option linter.unusedVariables false
set_option linter.unusedSimpArgs false
set_option maxRecDepth 100000

/-! (*punctual/meaning.runner).holds -/
abbrev mr_holds.Post (w0:World) (Z:Zone) (bp0:Nat) (lp0_0:List Int) (Ap0_0:OA) (cp0_0:Nat) (lp0_1:List SPut) (Ap0_1:OA) (cp0_1:Nat) (sp0_2:Int) (lp0_3:List Int) (Ap0_3:OA) (cp0_3:Nat) (x1_0 x1_1_0 x1_1_1:Int) (l1_1_2:List SExpr) (A1_1_2:OA) (c1_1_2:Nat) (x1_2_0 x1_2_1:Int) (l1_2_2:List SExpr) (A1_2_2:OA) (c1_2_2:Nat) (LT:List Own) (r:Bool) (e:Ending) (w:World):Prop:=e=.returned (.bool r)∧St w0 w [bk bp0 #[(.slice Ap0_0 lp0_0.length cp0_0),(.slice Ap0_1 lp0_1.length cp0_1),vI sp0_2,.slice Ap0_3 lp0_3.length cp0_3] 77,ro Ap0_0 cp0_0 3 lp0_0,ro Ap0_1 cp0_1 42 lp0_1,Own.all LT]
def mr_holds.p0 (K : Nat) (lp0_0 : List Int) (lp0_1 : List SPut) (sp0_2 : Int) (lp0_3 : List Int) (x1_1_0 : Int) (x1_1_1 : Int) (l1_1_2 : List SExpr) (x1_2_0 : Int) (x1_2_1 : Int) (l1_2_2 : List SExpr) : Option ((Int × Int) ⊕ Bool) :=
  match mr_value.f K lp0_0 lp0_1 sp0_2 lp0_3 x1_1_0 x1_1_1 l1_1_2 with
  | none=>none
  | some r1 =>
   match mr_value.f K lp0_0 lp0_1 sp0_2 lp0_3 x1_2_0 x1_2_1 l1_2_2 with
   | none=>none
   | some r2 =>
    some (.inl (r1,r2))
def mr_holds.f (K : Nat) (lp0_0 : List Int) (lp0_1 : List SPut) (sp0_2 : Int) (lp0_3 : List Int) (x1_0 : Int) (x1_1_0 : Int) (x1_1_1 : Int) (l1_1_2 : List SExpr) (x1_2_0 : Int) (x1_2_1 : Int) (l1_2_2 : List SExpr) : Option Bool :=
 match mr_holds.p0 K lp0_0 lp0_1 sp0_2 lp0_3 x1_1_0 x1_1_1 l1_1_2 x1_2_0 x1_2_1 l1_2_2 with
 | none=>none
 | some (.inl (z3,z4)) =>
  if x1_0=1 then
   some (decide (z3<z4))
  else
   if x1_0=2 then
    some (z3==z4)
   else
    if x1_0=3 then
     some (z3 != z4)
    else
     some (decide (z3 ≥ z4))
 | some (.inr rr1) =>
  some rr1
abbrev mr_holds.A0 (w0:World) (bp0:Nat) (lp0_0:List Int) (Ap0_0:OA) (cp0_0:Nat) (lp0_1:List SPut) (Ap0_1:OA) (cp0_1:Nat) (sp0_2:Int) (lp0_3:List Int) (Ap0_3:OA) (cp0_3:Nat) (x1_0 x1_1_0 x1_1_1:Int) (l1_1_2:List SExpr) (A1_1_2:OA) (c1_1_2:Nat) (x1_2_0 x1_2_1:Int) (l1_2_2:List SExpr) (A1_2_2:OA) (c1_2_2:Nat) (LT:List Own) (b1:Nat):(Int×Int)→Act→World→Prop:=fun (s:Int×Int) a w=>St w0 w [bk b1 #[vI x1_0,vI x1_1_0,vI x1_1_1,.slice A1_1_2 l1_1_2.length c1_1_2,vI x1_2_0,vI x1_2_1,.slice A1_2_2 l1_2_2.length c1_2_2] 68,bk bp0 #[(.slice Ap0_0 lp0_0.length cp0_0),(.slice Ap0_1 lp0_1.length cp0_1),vI sp0_2,.slice Ap0_3 lp0_3.length cp0_3] 77,ro Ap0_0 cp0_0 3 lp0_0,ro Ap0_1 cp0_1 42 lp0_1,Own.all LT]∧Frm 35 a [(0,pP bp0 0),(3,pP b1 0),(5,vI s.1),(6,vI s.2)]
abbrev mr_holds.B0 (w0:World) (Z:Zone) (bp0:Nat) (lp0_0:List Int) (Ap0_0:OA) (cp0_0:Nat) (lp0_1:List SPut) (Ap0_1:OA) (cp0_1:Nat) (sp0_2:Int) (lp0_3:List Int) (Ap0_3:OA) (cp0_3:Nat) (x1_0 x1_1_0 x1_1_1:Int) (l1_1_2:List SExpr) (A1_1_2:OA) (c1_1_2:Nat) (x1_2_0 x1_2_1:Int) (l1_2_2:List SExpr) (A1_2_2:OA) (c1_2_2:Nat) (LT:List Own):Bool→Exit→Act→World→Prop:=Rets Try.prog Try.f66 (mr_holds.Post w0 Z bp0 lp0_0 Ap0_0 cp0_0 lp0_1 Ap0_1 cp0_1 sp0_2 lp0_3 Ap0_3 cp0_3 x1_0 x1_1_0 x1_1_1 l1_1_2 A1_1_2 c1_1_2 x1_2_0 x1_2_1 l1_2_2 A1_2_2 c1_2_2 LT)
theorem mr_holds_p0 (K:Nat) (w0:World) (Z:Zone) (bp0:Nat) (lp0_0:List Int) (Ap0_0:OA) (cp0_0:Nat) (lp0_1:List SPut) (Ap0_1:OA) (cp0_1:Nat) (sp0_2:Int) (lp0_3:List Int) (Ap0_3:OA) (cp0_3:Nat) (x1_0 x1_1_0 x1_1_1:Int) (l1_1_2:List SExpr) (A1_1_2:OA) (c1_1_2:Nat) (x1_2_0 x1_2_1:Int) (l1_2_2:List SExpr) (A1_2_2:OA) (c1_2_2:Nat) (LT:List Own) (hZ:∀ w L,St w0 w (Own.all LT::L)→∀ w',Sub w w'→Z w') (hRp0_3:RdL w0 Ap0_3 lp0_3) (hLp0_3:lp0_3.length≤cp0_3) (hR1_1_2:RdZ Z A1_1_2 l1_1_2) (hL1_1_2:l1_1_2.length≤c1_1_2) (hR1_2_2:RdZ Z A1_2_2 l1_2_2) (hL1_2_2:l1_2_2.length≤c1_2_2) (b1:Nat) (o:(Int×Int) ⊕ Bool) (h:mr_holds.p0 K lp0_0 lp0_1 sp0_2 lp0_3 x1_1_0 x1_1_1 l1_1_2 x1_2_0 x1_2_1 l1_2_2=some o) (w:World) (hS:St w0 w [bk b1 #[vI x1_0,vI x1_1_0,vI x1_1_1,.slice A1_1_2 l1_1_2.length c1_1_2,vI x1_2_0,vI x1_2_1,.slice A1_2_2 l1_2_2.length c1_2_2] 68,bk bp0 #[(.slice Ap0_0 lp0_0.length cp0_0),(.slice Ap0_1 lp0_1.length cp0_1),vI sp0_2,.slice Ap0_3 lp0_3.length cp0_3] 77,ro Ap0_0 cp0_0 3 lp0_0,ro Ap0_1 cp0_1 42 lp0_1,Own.all LT]) (Q:Exit→Act→World→Prop) (hQ:∀ x a w,Outs (mr_holds.A0 w0 bp0 lp0_0 Ap0_0 cp0_0 lp0_1 Ap0_1 cp0_1 sp0_2 lp0_3 Ap0_3 cp0_3 x1_0 x1_1_0 x1_1_1 l1_1_2 A1_1_2 c1_1_2 x1_2_0 x1_2_1 l1_2_2 A1_2_2 c1_2_2 LT b1) (mr_holds.B0 w0 Z bp0 lp0_0 Ap0_0 cp0_0 lp0_1 Ap0_1 cp0_1 sp0_2 lp0_3 Ap0_3 cp0_3 x1_0 x1_1_0 x1_1_1 l1_1_2 A1_1_2 c1_1_2 x1_2_0 x1_2_1 l1_2_2 A1_2_2 c1_2_2 LT) o x a w→Q x a w):WE Try.prog 35 (subF Try.f66 [1,0]) Q [(0,pP bp0 0),(1,.agg #[vI x1_0,vI x1_1_0,vI x1_1_1,.slice A1_1_2 l1_1_2.length c1_1_2,vI x1_2_0,vI x1_2_1,.slice A1_2_2 l1_2_2.length c1_2_2]),(3,pP b1 0),(4,.bool false)] w:=by
 simp only [mr_holds.p0] at h
 refine we_orders3 (by kernel_rfl) [(2,[⟨b1,1,none⟩,⟨b1,2,none⟩,⟨b1,3,none⟩],[3,7],[]),(6,[⟨b1,4,none⟩,⟨b1,5,none⟩,⟨b1,6,none⟩],[],[])] (.vals [0] (.vals [1] (.vals [2] (.vals [4] (.vals [5] (.vals [6] (.alt 3 2 (.alt 7 2 (.vals [8] (.vals [9] .fin)) .nomore) .nomore))))))) (by kernel_rfl) (by kernel_rfl) ?_
 have hS2:=hS.drew
 refine g30 [0,1] [(8,pP b1 1),(7,pP bp0 0)]<|g3 2 [(9,.agg #[vI x1_1_0,vI x1_1_1,.slice A1_1_2 l1_1_2.length c1_1_2])] [ld b1 1 (vI x1_1_0),ld b1 2 (vI x1_1_1),ld b1 3 (.slice A1_1_2 l1_1_2.length c1_1_2)] ⟨hS2.c 0,hS2.c 0,hS2.c 0,trivial⟩<|g30 [4,5] [(12,pP b1 4),(11,pP bp0 0)]<|g3 6 [(13,.agg #[vI x1_2_0,vI x1_2_1,.slice A1_2_2 l1_2_2.length c1_2_2])] [ld b1 4 (vI x1_2_0),ld b1 5 (vI x1_2_1),ld b1 6 (.slice A1_2_2 l1_2_2.length c1_2_2)] ⟨hS2.c 0,hS2.c 0,hS2.c 0,trivial⟩<|go_alt3 (fun KK hKK=>?_) ?_
 ·rcases hq1:mr_value.f K lp0_0 lp0_1 sp0_2 lp0_3 x1_1_0 x1_1_1 l1_1_2 with _ | r1
  ·rw [hq1] at h; cases h
  rw [hq1] at h
  simp only [] at h
  have hS7:=(((hS2.b 3).b 3).b 3).packN 3
  refine ge_call2 (m:=0) (d:=some 10) (f:=65) (args:=#[pP bp0 0,.agg #[vI x1_1_0,vI x1_1_1,.slice A1_1_2 l1_1_2.length c1_1_2]]) (by kernel_rfl) (mr_value_ok K Z bp0 lp0_0 Ap0_0 cp0_0 lp0_1 Ap0_1 cp0_1 sp0_2 lp0_3 Ap0_3 cp0_3 x1_1_0 x1_1_1 l1_1_2 A1_1_2 c1_1_2 _ _ _ hS7 (fun w L h w' k=>(hZ _ _ (h.spread.bring 1 rfl) w' k)) hRp0_3 hLp0_3 hR1_1_2 hL1_1_2 _ hq1) ?_
  rintro _ w2 ⟨rfl,hS6⟩
  refine ⟨_,rfl,?_⟩
  have hS8:=hS6.unpack [bk bp0 #[(.slice Ap0_0 lp0_0.length cp0_0),(.slice Ap0_1 lp0_1.length cp0_1),vI sp0_2,.slice Ap0_3 lp0_3.length cp0_3] 77,ro Ap0_0 cp0_0 3 lp0_0,ro Ap0_1 cp0_1 42 lp0_1]
  refine ge_nil fun a hF=>hKK _ _ (RS.of2 (l:=[ld b1 4 (vI x1_2_0),ld b1 5 (vI x1_2_1),ld b1 6 (.slice A1_2_2 l1_2_2.length c1_2_2)]) (by kernel_rfl) ⟨hS2.c 0,hS2.c 0,hS2.c 0,trivial⟩ ⟨hS8.c 3,hS8.c 3,hS8.c 3,trivial⟩) ?_ a hF
  refine go_alt3 (fun KK hKK=>?_) ?_
  ·rcases hq2:mr_value.f K lp0_0 lp0_1 sp0_2 lp0_3 x1_2_0 x1_2_1 l1_2_2 with _ | r2
   ·rw [hq2] at h; cases h
   rw [hq2] at h
   simp only [] at h
   have hS13:=(((hS8.b 2).b 2).b 2).packN 3
   refine ge_call2 (m:=0) (d:=some 14) (f:=65) (args:=#[pP bp0 0,.agg #[vI x1_2_0,vI x1_2_1,.slice A1_2_2 l1_2_2.length c1_2_2]]) (by kernel_rfl) (mr_value_ok K Z bp0 lp0_0 Ap0_0 cp0_0 lp0_1 Ap0_1 cp0_1 sp0_2 lp0_3 Ap0_3 cp0_3 x1_2_0 x1_2_1 l1_2_2 A1_2_2 c1_2_2 _ _ _ hS13 (fun w L h w' k=>(hZ _ _ (h.spread.bring 1 rfl) w' k)) hRp0_3 hLp0_3 hR1_2_2 hL1_2_2 _ hq2) ?_
   rintro _ w3 ⟨rfl,hS12⟩
   refine ⟨_,rfl,?_⟩
   have hS14:=hS12.unpack [bk bp0 #[(.slice Ap0_0 lp0_0.length cp0_0),(.slice Ap0_1 lp0_1.length cp0_1),vI sp0_2,.slice Ap0_3 lp0_3.length cp0_3] 77,ro Ap0_0 cp0_0 3 lp0_0,ro Ap0_1 cp0_1 42 lp0_1]
   refine g2 hKK<|g30 [8,9] [(6,vI r2),(5,vI r1)] ?_
   have hS19:=((((hS14.b 4).b 3).b 3).b 3).b 4
   obtain rfl:=si h
   exact go_fin3 fun a hF=>hQ _ _ _ (Outs.again ⟨hS19,hF.weaken ea⟩)
  exact go_nomore3
 exact go_nomore3
theorem mr_holds_ok (K:Nat) (Z:Zone) (bp0:Nat) (lp0_0:List Int) (Ap0_0:OA) (cp0_0:Nat) (lp0_1:List SPut) (Ap0_1:OA) (cp0_1:Nat) (sp0_2:Int) (lp0_3:List Int) (Ap0_3:OA) (cp0_3:Nat) (x1_0 x1_1_0 x1_1_1:Int) (l1_1_2:List SExpr) (A1_1_2:OA) (c1_1_2:Nat) (x1_2_0 x1_2_1:Int) (l1_2_2:List SExpr) (A1_2_2:OA) (c1_2_2:Nat) (w0 wE:World) (LT:List Own) (hS:St w0 wE [bk bp0 #[(.slice Ap0_0 lp0_0.length cp0_0),(.slice Ap0_1 lp0_1.length cp0_1),vI sp0_2,.slice Ap0_3 lp0_3.length cp0_3] 77,ro Ap0_0 cp0_0 3 lp0_0,ro Ap0_1 cp0_1 42 lp0_1,Own.all LT]) (hZ:∀ w L,St w0 w (Own.all LT::L)→∀ w',Sub w w'→Z w') (hRp0_3:RdL w0 Ap0_3 lp0_3) (hLp0_3:lp0_3.length≤cp0_3) (hR1_1_2:RdZ Z A1_1_2 l1_1_2) (hL1_1_2:l1_1_2.length≤c1_1_2) (hR1_2_2:RdZ Z A1_2_2 l1_2_2) (hL1_2_2:l1_2_2.length≤c1_2_2) (r:Bool) (h:mr_holds.f K lp0_0 lp0_1 sp0_2 lp0_3 x1_0 x1_1_0 x1_1_1 l1_1_2 x1_2_0 x1_2_1 l1_2_2=some r) :
  Calls Try.prog 66 #[pP bp0 0,.agg #[vI x1_0,vI x1_1_0,vI x1_1_1,.slice A1_1_2 l1_1_2.length c1_1_2,vI x1_2_0,vI x1_2_1,.slice A1_2_2 l1_2_2.length c1_2_2]] wE (mr_holds.Post w0 Z bp0 lp0_0 Ap0_0 cp0_0 lp0_1 Ap0_1 cp0_1 sp0_2 lp0_3 Ap0_3 cp0_3 x1_0 x1_1_0 x1_1_1 l1_1_2 A1_1_2 c1_1_2 x1_2_0 x1_2_1 l1_2_2 A1_2_2 c1_2_2 LT r):=by
 unfold mr_holds.f at h
 refine calls_enter (n:=35) (args:=[pP bp0 0,.agg #[vI x1_0,vI x1_1_0,vI x1_1_1,.slice A1_1_2 l1_1_2.length c1_1_2,vI x1_2_0,vI x1_2_1,.slice A1_2_2 l1_2_2.length c1_2_2]]) (fn:=Try.f66) rfl rfl rfl rfl ?_
 show WE _ _ _ _ [(0,pP bp0 0),(1,.agg #[vI x1_0,vI x1_1_0,vI x1_1_1,.slice A1_1_2 l1_1_2.length c1_1_2,vI x1_2_0,vI x1_2_1,.slice A1_2_2 l1_2_2.length c1_2_2])] _
 refine ws fun K1 hK1=>wr [(0,1),(1,0)]<|gw (some 3) (.cells #[vI x1_0,vI x1_1_0,vI x1_1_1,.slice A1_1_2 l1_1_2.length c1_1_2,vI x1_2_0,vI x1_2_1,.slice A1_2_2 l1_2_2.length c1_2_2] 68) (fun b=>pP b 0) hS fun b1 w1 hx1 hS1=>?_
 refine gb0 [1] [(4,.bool false)]<|gn hK1<|ws fun K2 hK2=>?_
 rcases hq3:mr_holds.p0 K lp0_0 lp0_1 sp0_2 lp0_3 x1_1_0 x1_1_1 l1_1_2 x1_2_0 x1_2_1 l1_2_2 with _ | (⟨z3,z4⟩ | rr1)
 ·rw [hq3] at h; cases h
 ·rw [hq3] at h
  simp only [] at h
  refine kp (mr_holds_p0 K w0 Z bp0 lp0_0 Ap0_0 cp0_0 lp0_1 Ap0_1 cp0_1 sp0_2 lp0_3 Ap0_3 cp0_3 x1_0 x1_1_0 x1_1_1 l1_1_2 A1_1_2 c1_1_2 x1_2_0 x1_2_1 l1_2_2 A1_2_2 c1_2_2 LT hZ hRp0_3 hLp0_3 hR1_1_2 hL1_1_2 hR1_2_2 hL1_2_2 b1 _ hq3 _ hS1 _ ?_)
  rintro _ a w4 ⟨rfl,hS20,hF⟩
  replace hS20:St w0 w4 [bk b1 #[vI x1_0,vI x1_1_0,vI x1_1_1,.slice A1_1_2 l1_1_2.length c1_1_2,vI x1_2_0,vI x1_2_1,.slice A1_2_2 l1_2_2.length c1_2_2] 68,bk bp0 #[(.slice Ap0_0 lp0_0.length cp0_0),(.slice Ap0_1 lp0_1.length cp0_1),vI sp0_2,.slice Ap0_3 lp0_3.length cp0_3] 77,ro Ap0_0 cp0_0 3 lp0_0,ro Ap0_1 cp0_1 42 lp0_1,Own.all LT]:=hS20
  refine hK2 [(0,pP bp0 0),(3,pP b1 0),(5,vI z3),(6,vI z4)] w4 ?_ a hF
  refine ws fun K3 hK3=>ws fun K4 hK4=>wr [(0,0),(1,0)]<|gb [0,1] [(16,vI x1_0),(15,pP b1 0)] [ld b1 0 (vI x1_0)] ⟨hS20.c 0,trivial⟩<|gn hK4<|we_block<|ws fun K5 hK5=>wr [(0,0),(1,0)]<|gb0 [0,1] [(17,.bool (x1_0==1)),(18,.bool (x1_0==1))]<|gn hK5 ?_
  by_cases hc1:x1_0=1
  ·rw [if_pos hc1] at h
   refine wk 17 (x1_0==1) true (beq_iff_eq.2 hc1)<|wt<|ws fun K6 hK6=>wr [(0,0),(1,0),(2,0),(3,0)]<|gb0 [0,1,2,3] [(4,.bool (decide (z3<z4))),(21,.bool (decide (z3<z4))),(20,vI z4),(19,vI z3)]<|gn hK6 ?_
   have hS25:=hS20.p [1,2,3,4] rfl
   obtain rfl:=si h
   exact we_ret (pr0 [.tmp 4] [.bool (decide (z3<z4))] ⟨rfl,hS25⟩)
  rw [if_neg hc1] at h
  refine wk 17 (x1_0==1) false (beq_eq_false_iff_ne.2 hc1)<|wf<|ws fun K7 hK7=>wr [(0,0),(1,0)]<|gb0 [0,1] [(22,.bool (x1_0==2)),(23,.bool (x1_0==2))]<|gn hK7 ?_
  by_cases hc2:x1_0=2
  ·rw [if_pos hc2] at h
   refine wk 22 (x1_0==2) true (beq_iff_eq.2 hc2)<|wt<|ws fun K8 hK8=>wr [(0,0),(1,0),(2,0),(3,0)]<|gb0 [0,1,2,3] [(4,.bool (z3==z4)),(26,.bool (z3==z4)),(25,vI z4),(24,vI z3)]<|gn hK8 ?_
   have hS30:=hS20.p [1,2,3,4] rfl
   obtain rfl:=si h
   exact we_ret (pr0 [.tmp 4] [.bool (z3==z4)] ⟨rfl,hS30⟩)
  rw [if_neg hc2] at h
  refine wk 22 (x1_0==2) false (beq_eq_false_iff_ne.2 hc2)<|wf<|ws fun K9 hK9=>wr [(0,0),(1,0)]<|gb0 [0,1] [(27,.bool (x1_0==3)),(28,.bool (x1_0==3))]<|gn hK9 ?_
  by_cases hc3:x1_0=3
  ·rw [if_pos hc3] at h
   refine wk 27 (x1_0==3) true (beq_iff_eq.2 hc3)<|wt<|ws fun K10 hK10=>wr [(0,0),(1,0),(2,0),(3,0)]<|gb0 [0,1,2,3] [(4,.bool (z3 != z4)),(31,.bool (z3 != z4)),(30,vI z4),(29,vI z3)]<|gn hK10 ?_
   have hS35:=hS20.p [1,2,3,4] rfl
   obtain rfl:=si h
   exact we_ret (pr0 [.tmp 4] [.bool (z3 != z4)] ⟨rfl,hS35⟩)
  rw [if_neg hc3] at h
  refine wk 27 (x1_0==3) false (beq_eq_false_iff_ne.2 hc3)<|wf<|we_skip fun a hF=>hK3 _ _ ?_ a hF
  refine ws fun K11 hK11=>wr [(0,0),(1,0),(2,0),(3,0)]<|gb0 [0,1,2,3] [(4,.bool (decide (z3 ≥ z4))),(34,.bool (decide (z3 ≥ z4))),(33,vI z4),(32,vI z3)]<|gn hK11 ?_
  have hS40:=hS20.p [1,2,3,4] rfl
  obtain rfl:=si h
  exact we_ret (pr0 [.tmp 4] [.bool (decide (z3 ≥ z4))] ⟨rfl,hS40⟩)
 rw [hq3] at h
 simp only [] at h
 refine kp (mr_holds_p0 K w0 Z bp0 lp0_0 Ap0_0 cp0_0 lp0_1 Ap0_1 cp0_1 sp0_2 lp0_3 Ap0_3 cp0_3 x1_0 x1_1_0 x1_1_1 l1_1_2 A1_1_2 c1_1_2 x1_2_0 x1_2_1 l1_2_2 A1_2_2 c1_2_2 LT hZ hRp0_3 hLp0_3 hR1_1_2 hL1_1_2 hR1_2_2 hL1_2_2 b1 _ hq3 _ hS1 _ ?_)
 rintro _ a w1 ⟨_,rfl,hb⟩
 obtain rfl:=si h
 exact hb

/-! (*punctual/meaning.runner).list, (*punctual/meaning.runner).stmt -/
abbrev mr_list.Post (w0:World) (Z:Zone) (bp0:Nat) (lp0_0:List Int) (Ap0_0:OA) (cp0_0:Nat) (lp0_1:List SPut) (Ap0_1:OA) (cp0_1:Nat) (sp0_2:Int) (lp0_3:List Int) (Ap0_3:OA) (cp0_3:Nat) (l1:List SStmt) (A1:OA) (c1:Nat) (x2:Int) (LT:List Own) (r:Int ⊕ ((List Int)×(List SPut)×Int)) (e:Ending) (w:World):Prop:=match r with | .inl p=>e=.panicked [{ v:=.iface 73 (.agg #[vI p]),recovered:=false }]∧St w0 w [Own.all LT] | .inr r=>∃ (nbp0_0:Value) (nbp0_1:Value),e=.returned (.tuple #[])∧St w0 w [bk bp0 #[nbp0_0,nbp0_1,vI r.2.2,.slice Ap0_3 lp0_3.length cp0_3] 77,Own.of nbp0_0 3 r.1,Own.of nbp0_1 42 r.2.1,Own.all LT]
abbrev mr_stmt.Post (w0:World) (Z:Zone) (bp0:Nat) (lp0_0:List Int) (Ap0_0:OA) (cp0_0:Nat) (lp0_1:List SPut) (Ap0_1:OA) (cp0_1:Nat) (sp0_2:Int) (lp0_3:List Int) (Ap0_3:OA) (cp0_3:Nat) (x1_0 x1_1 x1_2_0 x1_2_1:Int) (l1_2_2:List SExpr) (A1_2_2:OA) (c1_2_2:Nat) (x1_3_0 x1_3_1_0 x1_3_1_1:Int) (l1_3_1_2:List SExpr) (A1_3_1_2:OA) (c1_3_1_2:Nat) (x1_3_2_0 x1_3_2_1:Int) (l1_3_2_2:List SExpr) (A1_3_2_2:OA) (c1_3_2_2:Nat) (l1_4:List SStmt) (A1_4:OA) (c1_4:Nat) (l1_5:List SStmt) (A1_5:OA) (c1_5:Nat) (x2:Int) (LT:List Own) (r:Int ⊕ ((List Int)×(List SPut)×Int)) (e:Ending) (w:World):Prop:=match r with | .inl p=>e=.panicked [{ v:=.iface 73 (.agg #[vI p]),recovered:=false }]∧St w0 w [Own.all LT] | .inr r=>∃ (nbp0_0:Value) (nbp0_1:Value),e=.returned (.tuple #[])∧St w0 w [bk bp0 #[nbp0_0,nbp0_1,vI r.2.2,.slice Ap0_3 lp0_3.length cp0_3] 77,Own.of nbp0_0 3 r.1,Own.of nbp0_1 42 r.2.1,Own.all LT]
abbrev mr_list.Rec (rec_mr_list:(List Int)→(List SPut)→Int→(List Int)→(List SStmt)→Int→Option (Int ⊕ ((List Int)×(List SPut)×Int))):Prop:=∀ (Z:Zone) (bp0:Nat) (lp0_0:List Int) (Ap0_0:OA) (cp0_0:Nat) (lp0_1:List SPut) (Ap0_1:OA) (cp0_1:Nat) (sp0_2:Int) (lp0_3:List Int) (Ap0_3:OA) (cp0_3:Nat) (l1:List SStmt) (A1:OA) (c1:Nat) (x2:Int) (w0 wE:World) (LT:List Own) (hS:St w0 wE [bk bp0 #[(.slice Ap0_0 lp0_0.length cp0_0),(.slice Ap0_1 lp0_1.length cp0_1),vI sp0_2,.slice Ap0_3 lp0_3.length cp0_3] 77,ro Ap0_0 cp0_0 3 lp0_0,ro Ap0_1 cp0_1 42 lp0_1,Own.all LT]) (hZ:∀ w L,St w0 w (Own.all LT::L)→∀ w',Sub w w'→Z w') (hRp0_3:RdL w0 Ap0_3 lp0_3) (hLp0_3:lp0_3.length≤cp0_3) (hR1:RdZ Z A1 l1) (hL1:l1.length≤c1) (r:Int ⊕ ((List Int)×(List SPut)×Int)) (h:rec_mr_list lp0_0 lp0_1 sp0_2 lp0_3 l1 x2=some r),Calls Try.prog 36 #[pP bp0 0,.slice A1 l1.length c1,vI x2] wE (mr_list.Post w0 Z bp0 lp0_0 Ap0_0 cp0_0 lp0_1 Ap0_1 cp0_1 sp0_2 lp0_3 Ap0_3 cp0_3 l1 A1 c1 x2 LT r)
abbrev mr_stmt.Rec (rec_mr_stmt:(List Int)→(List SPut)→Int→(List Int)→Int→Int→Int→Int→(List SExpr)→Int→Int→Int→(List SExpr)→Int→Int→(List SExpr)→(List SStmt)→(List SStmt)→Int→Option (Int ⊕ ((List Int)×(List SPut)×Int))):Prop:=∀ (Z:Zone) (bp0:Nat) (lp0_0:List Int) (Ap0_0:OA) (cp0_0:Nat) (lp0_1:List SPut) (Ap0_1:OA) (cp0_1:Nat) (sp0_2:Int) (lp0_3:List Int) (Ap0_3:OA) (cp0_3:Nat) (x1_0:Int) (x1_1:Int) (x1_2_0:Int) (x1_2_1:Int) (l1_2_2:List SExpr) (A1_2_2:OA) (c1_2_2:Nat) (x1_3_0:Int) (x1_3_1_0:Int) (x1_3_1_1:Int) (l1_3_1_2:List SExpr) (A1_3_1_2:OA) (c1_3_1_2:Nat) (x1_3_2_0:Int) (x1_3_2_1:Int) (l1_3_2_2:List SExpr) (A1_3_2_2:OA) (c1_3_2_2:Nat) (l1_4:List SStmt) (A1_4:OA) (c1_4:Nat) (l1_5:List SStmt) (A1_5:OA) (c1_5:Nat) (x2:Int) (w0 wE:World) (LT:List Own) (hS:St w0 wE [bk bp0 #[(.slice Ap0_0 lp0_0.length cp0_0),(.slice Ap0_1 lp0_1.length cp0_1),vI sp0_2,.slice Ap0_3 lp0_3.length cp0_3] 77,ro Ap0_0 cp0_0 3 lp0_0,ro Ap0_1 cp0_1 42 lp0_1,Own.all LT]) (hZ:∀ w L,St w0 w (Own.all LT::L)→∀ w',Sub w w'→Z w') (hRp0_3:RdL w0 Ap0_3 lp0_3) (hLp0_3:lp0_3.length≤cp0_3) (hR1_2_2:RdZ Z A1_2_2 l1_2_2) (hL1_2_2:l1_2_2.length≤c1_2_2) (hR1_3_1_2:RdZ Z A1_3_1_2 l1_3_1_2) (hL1_3_1_2:l1_3_1_2.length≤c1_3_1_2) (hR1_3_2_2:RdZ Z A1_3_2_2 l1_3_2_2) (hL1_3_2_2:l1_3_2_2.length≤c1_3_2_2) (hR1_4:RdZ Z A1_4 l1_4) (hL1_4:l1_4.length≤c1_4) (hR1_5:RdZ Z A1_5 l1_5) (hL1_5:l1_5.length≤c1_5) (r:Int ⊕ ((List Int)×(List SPut)×Int)) (h:rec_mr_stmt lp0_0 lp0_1 sp0_2 lp0_3 x1_0 x1_1 x1_2_0 x1_2_1 l1_2_2 x1_3_0 x1_3_1_0 x1_3_1_1 l1_3_1_2 x1_3_2_0 x1_3_2_1 l1_3_2_2 l1_4 l1_5 x2=some r),Calls Try.prog 49 #[pP bp0 0,.agg #[vI x1_0,vI x1_1,vI x1_2_0,vI x1_2_1,.slice A1_2_2 l1_2_2.length c1_2_2,vI x1_3_0,vI x1_3_1_0,vI x1_3_1_1,.slice A1_3_1_2 l1_3_1_2.length c1_3_1_2,vI x1_3_2_0,vI x1_3_2_1,.slice A1_3_2_2 l1_3_2_2.length c1_3_2_2,.slice A1_4 l1_4.length c1_4,.slice A1_5 l1_5.length c1_5],vI x2] wE (mr_stmt.Post w0 Z bp0 lp0_0 Ap0_0 cp0_0 lp0_1 Ap0_1 cp0_1 sp0_2 lp0_3 Ap0_3 cp0_3 x1_0 x1_1 x1_2_0 x1_2_1 l1_2_2 A1_2_2 c1_2_2 x1_3_0 x1_3_1_0 x1_3_1_1 l1_3_1_2 A1_3_1_2 c1_3_1_2 x1_3_2_0 x1_3_2_1 l1_3_2_2 A1_3_2_2 c1_3_2_2 l1_4 A1_4 c1_4 l1_5 A1_5 c1_5 x2 LT r)
def mr_list.r0 (K : Nat) (lp0_3 : List Int) (l1 : List SStmt) (rec_mr_stmt : (List Int) → (List SPut) → Int → (List Int) → Int → Int → Int → Int → (List SExpr) → Int → Int → Int → (List SExpr) → Int → Int → (List SExpr) → (List SStmt) → (List SStmt) → Int → Option (Int ⊕ ((List Int) × (List SPut) × Int))) : Int × Nat × (List Int) × (List SPut) × Int → Option ((Int × Nat × (List Int) × (List SPut) × Int) ⊕ (((List Int) × (List SPut) × Int) ⊕ (Int ⊕ ((List Int) × (List SPut) × Int))))
 | (z1,i1,m1,m2,z2) =>
  if (i1:Int)<(l1.length:Int) then
   match l1[i1]? with
   | none=>none
   | some e1 =>
    match rec_mr_stmt m1 m2 z2 lp0_3 e1.Kind e1.N e1.E.Kind e1.E.N e1.E.A e1.If.Kind e1.If.A.Kind e1.If.A.N e1.If.A.A e1.If.B.Kind e1.If.B.N e1.If.B.A e1.Body e1.Else z1 with
    | none=>none
    | some (.inl p1) =>
     some (.inr (.inr (.inl p1)))
    | some (.inr r1) =>
     match tongue_Count.f K e1.Body with
     | none=>none
     | some r2 =>
      match tongue_Count.f K e1.Else with
      | none=>none
      | some r3 =>
       some (.inl (IntKind.i64.wrap (z1+(IntKind.i64.wrap ((IntKind.i64.wrap (1+r2))+r3))),(i1+1),r1.1,r1.2.1,r1.2.2))
  else
   some (.inr (.inl (m1,m2,z2)))
def mr_list.b (K : Nat) (rec_mr_stmt : (List Int) → (List SPut) → Int → (List Int) → Int → Int → Int → Int → (List SExpr) → Int → Int → Int → (List SExpr) → Int → Int → (List SExpr) → (List SStmt) → (List SStmt) → Int → Option (Int ⊕ ((List Int) × (List SPut) × Int))) (lp0_0 : List Int) (lp0_1 : List SPut) (sp0_2 : Int) (lp0_3 : List Int) (l1 : List SStmt) (x2 : Int) : Option (Int ⊕ ((List Int) × (List SPut) × Int)) :=
 match iter (mr_list.r0 K lp0_3 l1 rec_mr_stmt) K (x2,0,lp0_0,lp0_1,sp0_2) with
 | none=>none
 | some (.inl (m5,m6,z4)) =>
  some (.inr (m5,m6,z4))
 | some (.inr rr1) =>
  some rr1
abbrev mr_list.A0 (w0:World) (bp0:Nat) (lp0_3:List Int) (Ap0_3:OA) (cp0_3:Nat) (l1:List SStmt) (A1:OA) (c1:Nat) (LT:List Own):(Int×Nat×(List Int)×(List SPut)×Int)→Act→World→Prop:=fun (s:Int×Nat×(List Int)×(List SPut)×Int) a w=>∃ (v1:Value) (v2:Value),St w0 w [bk bp0 #[v1,v2,vI s.2.2.2.2,.slice Ap0_3 lp0_3.length cp0_3] 77,Own.of v1 3 s.2.2.1,Own.of v2 42 s.2.2.2.1,Own.all LT]∧Frm 29 a [(0,pP bp0 0),(2,vI s.1),(8,.slice A1 l1.length c1),(9,vI (l1.length:Int)),(10,vI (s.2.1:Int))]
abbrev mr_list.B0 (w0:World) (Z:Zone) (bp0:Nat) (lp0_0:List Int) (Ap0_0:OA) (cp0_0:Nat) (lp0_1:List SPut) (Ap0_1:OA) (cp0_1:Nat) (sp0_2:Int) (lp0_3:List Int) (Ap0_3:OA) (cp0_3:Nat) (l1:List SStmt) (A1:OA) (c1:Nat) (x2:Int) (LT:List Own):(((List Int)×(List SPut)×Int) ⊕ (Int ⊕ ((List Int)×(List SPut)×Int)))→Exit→Act→World→Prop:=Exits 0 (fun (s:(List Int)×(List SPut)×Int) a w=>∃ (v3:Value) (v4:Value),St w0 w [bk bp0 #[v3,v4,vI s.2.2,.slice Ap0_3 lp0_3.length cp0_3] 77,Own.of v3 3 s.1,Own.of v4 42 s.2.1,Own.all LT]∧Frm 29 a [(0,pP bp0 0)]) (RetsP Try.prog Try.f36 (mr_list.Post w0 Z bp0 lp0_0 Ap0_0 cp0_0 lp0_1 Ap0_1 cp0_1 sp0_2 lp0_3 Ap0_3 cp0_3 l1 A1 c1 x2 LT))
theorem mr_list_r0 (K:Nat) (w0:World) (Z:Zone) (bp0:Nat) (lp0_0:List Int) (Ap0_0:OA) (cp0_0:Nat) (lp0_1:List SPut) (Ap0_1:OA) (cp0_1:Nat) (sp0_2:Int) (lp0_3:List Int) (Ap0_3:OA) (cp0_3:Nat) (l1:List SStmt) (A1:OA) (c1:Nat) (x2:Int) (LT:List Own) (hZ:∀ w L,St w0 w (Own.all LT::L)→∀ w',Sub w w'→Z w') (hRp0_3:RdL w0 Ap0_3 lp0_3) (hLp0_3:lp0_3.length≤cp0_3) (hR1:RdZ Z A1 l1) (hL1:l1.length≤c1) (rec_mr_stmt:(List Int)→(List SPut)→Int→(List Int)→Int→Int→Int→Int→(List SExpr)→Int→Int→Int→(List SExpr)→Int→Int→(List SExpr)→(List SStmt)→(List SStmt)→Int→Option (Int ⊕ ((List Int)×(List SPut)×Int))) (hr_mr_stmt:mr_stmt.Rec rec_mr_stmt) (s:Int×Nat×(List Int)×(List SPut)×Int) (o:(Int×Nat×(List Int)×(List SPut)×Int) ⊕ (((List Int)×(List SPut)×Int) ⊕ (Int ⊕ ((List Int)×(List SPut)×Int)))) (h:mr_list.r0 K lp0_3 l1 rec_mr_stmt s=some o) (a:Act) (w:World) (hA:mr_list.A0 w0 bp0 lp0_3 Ap0_3 cp0_3 l1 A1 c1 LT s a w) (Q:Exit→Act→World→Prop) (hQ:∀ x a w,Outs (mr_list.A0 w0 bp0 lp0_3 Ap0_3 cp0_3 l1 A1 c1 LT) (mr_list.B0 w0 Z bp0 lp0_0 Ap0_0 cp0_0 lp0_1 Ap0_1 cp0_1 sp0_2 lp0_3 Ap0_3 cp0_3 l1 A1 c1 x2 LT) o x a w→Q x a w):(subF Try.f36 [1,0,0]).wp Try.prog Q a w:=by
 obtain ⟨z1,i1,m1,m2,z2⟩:=s
 obtain ⟨v1,v2,hS,hF⟩:=hA
 replace hS:St w0 w [bk bp0 #[v1,v2,vI z2,.slice Ap0_3 lp0_3.length cp0_3] 77,Own.of v1 3 m1,Own.of v2 42 m2,Own.all LT]:=hS
 simp only [mr_list.r0] at h
 refine (?_:WE Try.prog 29 (subF Try.f36 [1,0,0]) Q [(0,pP bp0 0),(2,vI z1),(8,.slice A1 l1.length c1),(9,vI (l1.length:Int)),(10,vI (i1:Int))] w) a hF
 clear hF a
 refine ws fun K2 hK2=>wr [(0,0)]<|gb0 [0] [(11,.bool (decide ((i1:Int)<(l1.length:Int))))]<|gn hK2<|ws fun K3 hK3=>?_
 by_cases hc1:(i1:Int)<(l1.length:Int)
 ·rw [if_pos hc1] at h
  refine wk 11 (decide ((i1:Int)<(l1.length:Int))) true (decide_eq_true hc1)<|wt<|we_skip fun a hF=>hK3 _ _ ?_ a hF
  refine ws fun K4 hK4=>we_block<|ws fun K5 hK5=>wr [(0,0),(1,0),(2,1),(3,2)] ?_
  rcases hx1:l1[i1]? with _ | e1
  ·rw [hx1] at h; cases h
  rw [hx1] at h
  simp only [] at h
  obtain ⟨An1,cn1,An2,cn2,An3,cn3,An4,cn4,An5,cn5,hCs1,hLn1,hRn1,hLn2,hRn2,hLn3,hRn3,hLn4,hRn4,hLn5,hRn5⟩:=SStmt.getZ hR1 hx1
  refine gi 12 0 22 70 14 l1.length c1 (.tmp 8) (.tmp 10) A1 .i64 (i1:Int) i1 (hR1.eqSome (hZ _ _ (hS.bring 3 rfl) _ (Sub.refl _)) (pos_of_get hx1)) rfl (lt_of_get hx1) ?_
  refine gb [1] [(13,.agg #[vI e1.Kind,vI e1.N,vI e1.E.Kind,vI e1.E.N,.slice An1 e1.E.A.length cn1,vI e1.If.Kind,vI e1.If.A.Kind,vI e1.If.A.N,.slice An2 e1.If.A.A.length cn2,vI e1.If.B.Kind,vI e1.If.B.N,.slice An3 e1.If.B.A.length cn3,.slice An4 e1.Body.length cn4,.slice An5 e1.Else.length cn5])] [.loaded ⟨blkOf A1,offOf A1+i1*14,none⟩ (vI e1.Kind),.loaded ⟨blkOf A1,offOf A1+i1*14+1,none⟩ (vI e1.N),.loaded ⟨blkOf A1,offOf A1+i1*14+2,none⟩ (vI e1.E.Kind),.loaded ⟨blkOf A1,offOf A1+i1*14+3,none⟩ (vI e1.E.N),.loaded ⟨blkOf A1,offOf A1+i1*14+4,none⟩ (.slice An1 e1.E.A.length cn1),.loaded ⟨blkOf A1,offOf A1+i1*14+5,none⟩ (vI e1.If.Kind),.loaded ⟨blkOf A1,offOf A1+i1*14+6,none⟩ (vI e1.If.A.Kind),.loaded ⟨blkOf A1,offOf A1+i1*14+7,none⟩ (vI e1.If.A.N),.loaded ⟨blkOf A1,offOf A1+i1*14+8,none⟩ (.slice An2 e1.If.A.A.length cn2),.loaded ⟨blkOf A1,offOf A1+i1*14+9,none⟩ (vI e1.If.B.Kind),.loaded ⟨blkOf A1,offOf A1+i1*14+10,none⟩ (vI e1.If.B.N),.loaded ⟨blkOf A1,offOf A1+i1*14+11,none⟩ (.slice An3 e1.If.B.A.length cn3),.loaded ⟨blkOf A1,offOf A1+i1*14+12,none⟩ (.slice An4 e1.Body.length cn4),.loaded ⟨blkOf A1,offOf A1+i1*14+13,none⟩ (.slice An5 e1.Else.length cn5)] ⟨hCs1 _ (hZ _ _ (hS.bring 3 rfl) _ (Sub.refl _)) 0 _ rfl,hCs1 _ (hZ _ _ (hS.bring 3 rfl) _ (Sub.refl _)) 1 _ rfl,hCs1 _ (hZ _ _ (hS.bring 3 rfl) _ (Sub.refl _)) 2 _ rfl,hCs1 _ (hZ _ _ (hS.bring 3 rfl) _ (Sub.refl _)) 3 _ rfl,hCs1 _ (hZ _ _ (hS.bring 3 rfl) _ (Sub.refl _)) 4 _ rfl,hCs1 _ (hZ _ _ (hS.bring 3 rfl) _ (Sub.refl _)) 5 _ rfl,hCs1 _ (hZ _ _ (hS.bring 3 rfl) _ (Sub.refl _)) 6 _ rfl,hCs1 _ (hZ _ _ (hS.bring 3 rfl) _ (Sub.refl _)) 7 _ rfl,hCs1 _ (hZ _ _ (hS.bring 3 rfl) _ (Sub.refl _)) 8 _ rfl,hCs1 _ (hZ _ _ (hS.bring 3 rfl) _ (Sub.refl _)) 9 _ rfl,hCs1 _ (hZ _ _ (hS.bring 3 rfl) _ (Sub.refl _)) 10 _ rfl,hCs1 _ (hZ _ _ (hS.bring 3 rfl) _ (Sub.refl _)) 11 _ rfl,hCs1 _ (hZ _ _ (hS.bring 3 rfl) _ (Sub.refl _)) 12 _ rfl,hCs1 _ (hZ _ _ (hS.bring 3 rfl) _ (Sub.refl _)) 13 _ rfl,trivial⟩<|gw (some 7) (.cells #[vI 0,vI 0,vI 0,vI 0,.slice none 0 0,vI 0,vI 0,vI 0,.slice none 0 0,vI 0,vI 0,.slice none 0 0,.slice none 0 0,.slice none 0 0] 70) (fun b=>pP b 0) hS fun b1 w1 hx2 hS5=>?_
  refine gs b1 0 #[vI 0,vI 0,vI 0,vI 0,.slice none 0 0,vI 0,vI 0,vI 0,.slice none 0 0,vI 0,vI 0,.slice none 0 0,.slice none 0 0,.slice none 0 0] 70 [vI e1.Kind,vI e1.N,vI e1.E.Kind,vI e1.E.N,.slice An1 e1.E.A.length cn1,vI e1.If.Kind,vI e1.If.A.Kind,vI e1.If.A.N,.slice An2 e1.If.A.A.length cn2,vI e1.If.B.Kind,vI e1.If.B.N,.slice An3 e1.If.B.A.length cn3,.slice An4 e1.Body.length cn4,.slice An5 e1.Else.length cn5] hS5 fun w2 hS6=>?_
  have hS7:=hS6.nc #[vI e1.Kind,vI e1.N,vI e1.E.Kind,vI e1.E.N,.slice An1 e1.E.A.length cn1,vI e1.If.Kind,vI e1.If.A.Kind,vI e1.If.A.N,.slice An2 e1.If.A.A.length cn2,vI e1.If.B.Kind,vI e1.If.B.N,.slice An3 e1.If.B.A.length cn3,.slice An4 e1.Body.length cn4,.slice An5 e1.Else.length cn5] (by kernel_rfl)
  refine gn hK5<|ws fun K6 hK6=>wr [(0,0),(1,0),(2,0),(3,2)]<|gb [0,1,2] [(16,vI z1),(15,.agg #[vI e1.Kind,vI e1.N,vI e1.E.Kind,vI e1.E.N,.slice An1 e1.E.A.length cn1,vI e1.If.Kind,vI e1.If.A.Kind,vI e1.If.A.N,.slice An2 e1.If.A.A.length cn2,vI e1.If.B.Kind,vI e1.If.B.N,.slice An3 e1.If.B.A.length cn3,.slice An4 e1.Body.length cn4,.slice An5 e1.Else.length cn5]),(14,pP bp0 0)] [ld b1 0 (vI e1.Kind),ld b1 1 (vI e1.N),ld b1 2 (vI e1.E.Kind),ld b1 3 (vI e1.E.N),ld b1 4 (.slice An1 e1.E.A.length cn1),ld b1 5 (vI e1.If.Kind),ld b1 6 (vI e1.If.A.Kind),ld b1 7 (vI e1.If.A.N),ld b1 8 (.slice An2 e1.If.A.A.length cn2),ld b1 9 (vI e1.If.B.Kind),ld b1 10 (vI e1.If.B.N),ld b1 11 (.slice An3 e1.If.B.A.length cn3),ld b1 12 (.slice An4 e1.Body.length cn4),ld b1 13 (.slice An5 e1.Else.length cn5)] ⟨hS7.c 0,hS7.c 0,hS7.c 0,hS7.c 0,hS7.c 0,hS7.c 0,hS7.c 0,hS7.c 0,hS7.c 0,hS7.c 0,hS7.c 0,hS7.c 0,hS7.c 0,hS7.c 0,trivial⟩ ?_
  obtain ⟨Z1,cz1,rfl⟩:=hS7.open 2 rfl
  obtain ⟨Z2,cz2,rfl⟩:=hS7.open 3 rfl
  rcases hq1:rec_mr_stmt m1 m2 z2 lp0_3 e1.Kind e1.N e1.E.Kind e1.E.N e1.E.A e1.If.Kind e1.If.A.Kind e1.If.A.N e1.If.A.A e1.If.B.Kind e1.If.B.N e1.If.B.A e1.Body e1.Else z1 with _ | r1
  ·rw [hq1] at h; cases h
  rw [hq1] at h
  rcases r1 with p1 | r1
  ·try simp only [] at h
   have hS12:=(((hS7.b 3).b 3).b 3).packN 3
   refine ge_callP (m:=0) (d:=some 17) (f:=49) (args:=#[pP bp0 0,.agg #[vI e1.Kind,vI e1.N,vI e1.E.Kind,vI e1.E.N,.slice An1 e1.E.A.length cn1,vI e1.If.Kind,vI e1.If.A.Kind,vI e1.If.A.N,.slice An2 e1.If.A.A.length cn2,vI e1.If.B.Kind,vI e1.If.B.N,.slice An3 e1.If.B.A.length cn3,.slice An4 e1.Body.length cn4,.slice An5 e1.Else.length cn5],vI z1]) (by kernel_rfl) (hr_mr_stmt Z bp0 m1 Z1 cz1 m2 Z2 cz2 z2 lp0_3 Ap0_3 cp0_3 e1.Kind e1.N e1.E.Kind e1.E.N e1.E.A An1 cn1 e1.If.Kind e1.If.A.Kind e1.If.A.N e1.If.A.A An2 cn2 e1.If.B.Kind e1.If.B.N e1.If.B.A An3 cn3 e1.Body An4 cn4 e1.Else An5 cn5 z1 _ _ _ hS12 (fun w L h w' k=>(hZ _ _ (h.spread.bring 1 rfl) w' k)) hRp0_3 hLp0_3 hRn1 hLn1 hRn2 hLn2 hRn3 hLn3 hRn4 hLn4 hRn5 hLn5 _ hq1) ?_
   rintro _ w3 ⟨rfl,hS11⟩
   have hS26:=((hS11.unpack []).b 1).takeN 1
   obtain rfl:=si h
   exact .inr ⟨_,rfl,fun a hF=>hQ _ _ _ (Outs.out nofun (Exits.on ⟨.inr ⟨_,rfl⟩,(post_panic (P:=Try.prog) (fn:=Try.f36) ⟨rfl,hS26⟩ a hF)⟩))⟩
  try simp only [] at h
  have hS12:=(((hS7.b 3).b 3).b 3).packN 3
  refine ge_callP (m:=0) (d:=some 17) (f:=49) (args:=#[pP bp0 0,.agg #[vI e1.Kind,vI e1.N,vI e1.E.Kind,vI e1.E.N,.slice An1 e1.E.A.length cn1,vI e1.If.Kind,vI e1.If.A.Kind,vI e1.If.A.N,.slice An2 e1.If.A.A.length cn2,vI e1.If.B.Kind,vI e1.If.B.N,.slice An3 e1.If.B.A.length cn3,.slice An4 e1.Body.length cn4,.slice An5 e1.Else.length cn5],vI z1]) (by kernel_rfl) (hr_mr_stmt Z bp0 m1 Z1 cz1 m2 Z2 cz2 z2 lp0_3 Ap0_3 cp0_3 e1.Kind e1.N e1.E.Kind e1.E.N e1.E.A An1 cn1 e1.If.Kind e1.If.A.Kind e1.If.A.N e1.If.A.A An2 cn2 e1.If.B.Kind e1.If.B.N e1.If.B.A An3 cn3 e1.Body An4 cn4 e1.Else An5 cn5 z1 _ _ _ hS12 (fun w L h w' k=>(hZ _ _ (h.spread.bring 1 rfl) w' k)) hRp0_3 hLp0_3 hRn1 hLn1 hRn2 hLn2 hRn3 hLn3 hRn4 hLn4 hRn5 hLn5 _ hq1) ?_
  rintro _ w3 ⟨v5,v6,rfl,hS11⟩
  refine .inl ⟨_,rfl,?_⟩
  have hS13:=hS11.unpack [bk bp0 #[v5,v6,vI r1.2.2,.slice Ap0_3 lp0_3.length cp0_3] 77,Own.of v5 3 r1.1,Own.of v6 42 r1.2.1]
  refine gn hK6<|we_draws (by kernel_rfl) [(0,0),(1,0),(2,0),(5,0),(6,0),(3,1),(4,0),(7,1),(8,0),(9,0),(10,0)] (by kernel_rfl) ?_
  have hS14:=hS13.drew
  rcases hq2:tongue_Count.f K e1.Body with _ | r2
  ·rw [hq2] at h; cases h
  rw [hq2] at h
  simp only [] at h
  refine gb [0,1,2,5,6] [(24,.slice An5 e1.Else.length cn5),(23,pP b1 13),(20,.slice An4 e1.Body.length cn4),(19,pP b1 12),(18,vI z1)] [ld b1 12 (.slice An4 e1.Body.length cn4),ld b1 13 (.slice An5 e1.Else.length cn5)] ⟨hS14.c 3,hS14.c 3,trivial⟩<|ge_call (d:=some 21) (f:=47) (args:=#[.slice An4 e1.Body.length cn4]) (by kernel_rfl) (tongue_Count_ok K Z e1.Body An4 cn4 _ (fun w' k=>(hZ _ _ (hS14.bring 4 rfl) w' k)) hRn4 hLn4 _ hq2) ?_
  rintro _ w4 ⟨rfl,hS15⟩
  refine ⟨_,rfl,hS15.below,?_⟩
  have hS16:=hS14.call hS15
  rcases hq3:tongue_Count.f K e1.Else with _ | r3
  ·rw [hq3] at h; cases h
  rw [hq3] at h
  simp only [] at h
  refine gb0 [4] [(22,vI (IntKind.i64.wrap (1+r2)))]<|ge_call (d:=some 25) (f:=47) (args:=#[.slice An5 e1.Else.length cn5]) (by kernel_rfl) (tongue_Count_ok K Z e1.Else An5 cn5 _ (fun w' k=>(hZ _ _ (hS16.bring 4 rfl) w' k)) hRn5 hLn5 _ hq3) ?_
  rintro _ w5 ⟨rfl,hS17⟩
  refine ⟨_,rfl,hS17.below,?_⟩
  have hS18:=hS16.call hS17
  refine gb0 [8,9,10] [(2,vI (IntKind.i64.wrap (z1+(IntKind.i64.wrap ((IntKind.i64.wrap (1+r2))+r3))))),(27,vI (IntKind.i64.wrap (z1+(IntKind.i64.wrap ((IntKind.i64.wrap (1+r2))+r3))))),(26,vI (IntKind.i64.wrap ((IntKind.i64.wrap (1+r2))+r3)))]<|gn hK4<|wr [(0,0),(1,0)]<|ge_addn (d:=28) (ty:=3) (x:=(.tmp 10)) (y:=(.const (vI 1))) (t:=3) (t2:=3) (k:=.i64) (m:=i1) (by kernel_rfl) (by kernel_rfl) (by kernel_rfl) (by have h0:=RdZ.small hR1 (hZ _ _ (hS18.bring 4 rfl) _ (Sub.refl _)); omega) ?_
  refine gb0 [1] [(10,vI ((i1+1:Nat):Int))] ?_
  have hS23:=hS18.p [0,1,2,4] rfl
  obtain rfl:=si h
  exact ge_nil fun a hF=>hQ _ _ _ (Outs.again ⟨v5,v6,hS23,hF.weaken ea⟩)
 rw [if_neg hc1] at h
 refine wk 11 (decide ((i1:Int)<(l1.length:Int))) false (decide_eq_false hc1)<|wf ?_
 have hS30:=(((hS.b 3).b 3).b 3).b 3
 obtain rfl:=si h
 exact we_exit fun a hF=>hQ _ _ _ (Outs.out nofun (Exits.here ⟨v1,v2,hS30,hF.weaken ea⟩))
theorem mr_list_step (K:Nat) (rec_mr_stmt:(List Int)→(List SPut)→Int→(List Int)→Int→Int→Int→Int→(List SExpr)→Int→Int→Int→(List SExpr)→Int→Int→(List SExpr)→(List SStmt)→(List SStmt)→Int→Option (Int ⊕ ((List Int)×(List SPut)×Int))) (hr_mr_stmt:mr_stmt.Rec rec_mr_stmt) (Z:Zone) (bp0:Nat) (lp0_0:List Int) (Ap0_0:OA) (cp0_0:Nat) (lp0_1:List SPut) (Ap0_1:OA) (cp0_1:Nat) (sp0_2:Int) (lp0_3:List Int) (Ap0_3:OA) (cp0_3:Nat) (l1:List SStmt) (A1:OA) (c1:Nat) (x2:Int) (w0 wE:World) (LT:List Own) (hS:St w0 wE [bk bp0 #[(.slice Ap0_0 lp0_0.length cp0_0),(.slice Ap0_1 lp0_1.length cp0_1),vI sp0_2,.slice Ap0_3 lp0_3.length cp0_3] 77,ro Ap0_0 cp0_0 3 lp0_0,ro Ap0_1 cp0_1 42 lp0_1,Own.all LT]) (hZ:∀ w L,St w0 w (Own.all LT::L)→∀ w',Sub w w'→Z w') (hRp0_3:RdL w0 Ap0_3 lp0_3) (hLp0_3:lp0_3.length≤cp0_3) (hR1:RdZ Z A1 l1) (hL1:l1.length≤c1) (r:Int ⊕ ((List Int)×(List SPut)×Int)) (h:mr_list.b K rec_mr_stmt lp0_0 lp0_1 sp0_2 lp0_3 l1 x2=some r) :
  Calls Try.prog 36 #[pP bp0 0,.slice A1 l1.length c1,vI x2] wE (mr_list.Post w0 Z bp0 lp0_0 Ap0_0 cp0_0 lp0_1 Ap0_1 cp0_1 sp0_2 lp0_3 Ap0_3 cp0_3 l1 A1 c1 x2 LT r):=by
 unfold mr_list.b at h
 refine calls_enter (n:=29) (args:=[pP bp0 0,.slice A1 l1.length c1,vI x2]) (fn:=Try.f36) rfl rfl rfl rfl ?_
 show WE _ _ _ _ [(0,pP bp0 0),(1,.slice A1 l1.length c1),(2,vI x2)] _
 refine ws fun K1 hK1=>wr [(0,0),(1,0),(2,0)]<|gb0 [0,1,2] [(10,vI 0),(9,vI (l1.length:Int)),(8,.slice A1 l1.length c1)]<|gn hK1<|we_block ?_
 have hS4:=(((hS.b 3).b 3).b 3).b 3
 rcases hq4:iter (mr_list.r0 K lp0_3 l1 rec_mr_stmt) K (x2,0,lp0_0,lp0_1,sp0_2) with _ | (⟨m5,m6,z4⟩ | rr1)
 ·rw [hq4] at h; cases h
 ·rw [hq4] at h
  simp only [] at h
  refine we_iter (A:=mr_list.A0 w0 bp0 lp0_3 Ap0_3 cp0_3 l1 A1 c1 LT) (B:=mr_list.B0 w0 Z bp0 lp0_0 Ap0_0 cp0_0 lp0_1 Ap0_1 cp0_1 sp0_2 lp0_3 Ap0_3 cp0_3 l1 A1 c1 x2 LT) hq4 (fun a hF=>⟨(.slice Ap0_0 lp0_0.length cp0_0),(.slice Ap0_1 lp0_1.length cp0_1),hS4,hF.weaken ea⟩) (fun s o hf a w hA Q hQ=>mr_list_r0 K w0 Z bp0 lp0_0 Ap0_0 cp0_0 lp0_1 Ap0_1 cp0_1 sp0_2 lp0_3 Ap0_3 cp0_3 l1 A1 c1 x2 LT hZ hRp0_3 hLp0_3 hR1 hL1 rec_mr_stmt hr_mr_stmt s o hf a w hA Q hQ) ?_
  rintro _ a w6 _ ⟨rfl,v7,v8,hS31,hF⟩
  replace hS31:St w0 w6 [bk bp0 #[v7,v8,vI z4,.slice Ap0_3 lp0_3.length cp0_3] 77,Own.of v7 3 m5,Own.of v8 42 m6,Own.all LT]:=hS31
  have hS35:=(((hS31.b 3).b 3).b 3).b 3
  obtain rfl:=si h
  exact (pe0 [] [] ⟨v7,v8,rfl,hS35⟩) a hF
 rw [hq4] at h
 simp only [] at h
 refine we_iter (A:=mr_list.A0 w0 bp0 lp0_3 Ap0_3 cp0_3 l1 A1 c1 LT) (B:=mr_list.B0 w0 Z bp0 lp0_0 Ap0_0 cp0_0 lp0_1 Ap0_1 cp0_1 sp0_2 lp0_3 Ap0_3 cp0_3 l1 A1 c1 x2 LT) hq4 (fun a hF=>⟨(.slice Ap0_0 lp0_0.length cp0_0),(.slice Ap0_1 lp0_1.length cp0_1),hS4,hF.weaken ea⟩) (fun s o hf a w hA Q hQ=>mr_list_r0 K w0 Z bp0 lp0_0 Ap0_0 cp0_0 lp0_1 Ap0_1 cp0_1 sp0_2 lp0_3 Ap0_3 cp0_3 l1 A1 c1 x2 LT hZ hRp0_3 hLp0_3 hR1 hL1 rec_mr_stmt hr_mr_stmt s o hf a w hA Q hQ) ?_
 rintro _ a w1 _ ⟨hx,hb⟩
 obtain rfl:=si h
 rcases hx with rfl | ⟨cc,rfl⟩
 ·exact hb
 exact hb
def mr_stmt.p0 (sp0_2 : Int) (x2 : Int) : Option (Unit ⊕ (Int ⊕ ((List Int) × (List SPut) × Int))) :=
  if sp0_2=20000 then
   some (.inr (.inl x2))
  else
   some (.inl ())
def mr_stmt.r1 (lp0_3 : List Int) (x1_1 : Int) (l1_4 : List SStmt) (x2 : Int) (rec_mr_list : (List Int) → (List SPut) → Int → (List Int) → (List SStmt) → Int → Option (Int ⊕ ((List Int) × (List SPut) × Int))) : Int × (List Int) × (List SPut) × Int → Option ((Int × (List Int) × (List SPut) × Int) ⊕ (((List Int) × (List SPut) × Int) ⊕ (Int ⊕ ((List Int) × (List SPut) × Int))))
 | (z1,m1,m2,z2) =>
  if z1<x1_1 then
   match rec_mr_list m1 m2 z2 lp0_3 l1_4 (IntKind.i64.wrap (x2+1)) with
   | none=>none
   | some (.inl p3) =>
    some (.inr (.inr (.inl p3)))
   | some (.inr r7) =>
    some (.inl (IntKind.i64.wrap (z1+1),r7.1,r7.2.1,r7.2.2))
  else
   some (.inr (.inl (m1,m2,z2)))
def mr_stmt.r2 (K : Nat) (lp0_3 : List Int) (x1_1 : Int) (x1_3_0 : Int) (x1_3_1_0 : Int) (x1_3_1_1 : Int) (l1_3_1_2 : List SExpr) (x1_3_2_0 : Int) (x1_3_2_1 : Int) (l1_3_2_2 : List SExpr) (l1_4 : List SStmt) (x2 : Int) (rec_mr_list : (List Int) → (List SPut) → Int → (List Int) → (List SStmt) → Int → Option (Int ⊕ ((List Int) × (List SPut) × Int))) : Int × (List Int) × (List SPut) × Int → Option ((Int × (List Int) × (List SPut) × Int) ⊕ (((List Int) × (List SPut) × Int) ⊕ (Int ⊕ ((List Int) × (List SPut) × Int))))
 | (z5,m7,m8,z6) =>
  if z5<x1_1 then
   match mr_holds.f K m7 m8 z6 lp0_3 x1_3_0 x1_3_1_0 x1_3_1_1 l1_3_1_2 x1_3_2_0 x1_3_2_1 l1_3_2_2 with
   | none=>none
   | some r8 =>
    if r8=true then
     match rec_mr_list m7 m8 z6 lp0_3 l1_4 (IntKind.i64.wrap (x2+1)) with
     | none=>none
     | some (.inl p4) =>
      some (.inr (.inr (.inl p4)))
     | some (.inr r9) =>
      some (.inl (IntKind.i64.wrap (z5+1),r9.1,r9.2.1,r9.2.2))
    else
     some (.inr (.inl (m7,m8,z6)))
  else
   some (.inr (.inl (m7,m8,z6)))
def mr_stmt.b (K : Nat) (rec_mr_list : (List Int) → (List SPut) → Int → (List Int) → (List SStmt) → Int → Option (Int ⊕ ((List Int) × (List SPut) × Int))) (lp0_0 : List Int) (lp0_1 : List SPut) (sp0_2 : Int) (lp0_3 : List Int) (x1_0 : Int) (x1_1 : Int) (x1_2_0 : Int) (x1_2_1 : Int) (l1_2_2 : List SExpr) (x1_3_0 : Int) (x1_3_1_0 : Int) (x1_3_1_1 : Int) (l1_3_1_2 : List SExpr) (x1_3_2_0 : Int) (x1_3_2_1 : Int) (l1_3_2_2 : List SExpr) (l1_4 : List SStmt) (l1_5 : List SStmt) (x2 : Int) : Option (Int ⊕ ((List Int) × (List SPut) × Int)) :=
 match mr_stmt.p0 sp0_2 x2 with
 | none=>none
 | some (.inl _) =>
  if x1_0=1 then
   match mr_value.f K lp0_0 lp0_1 (IntKind.i64.wrap (sp0_2+1)) lp0_3 x1_2_0 x1_2_1 l1_2_2 with
   | none=>none
   | some r1 =>
    if 0≤x1_1 then
     match lp0_0[(x1_1).toNat]? with
     | none=>none
     | some e1 =>
      some (.inr ((lp0_0.set ((x1_1).toNat) r1),lp0_1,IntKind.i64.wrap (sp0_2+1)))
    else
     none
  else
   if x1_0=2 then
    match mr_value.f K lp0_0 lp0_1 (IntKind.i64.wrap (sp0_2+1)) lp0_3 x1_2_0 x1_2_1 l1_2_2 with
    | none=>none
    | some r2 =>
     if lp0_1.length<8796093022208 then
      some (.inr (lp0_0,(lp0_1++[(⟨x1_1,r2⟩:SPut)]),IntKind.i64.wrap (sp0_2+1)))
     else
      none
   else
    if x1_0=3 then
     match mr_holds.f K lp0_0 lp0_1 (IntKind.i64.wrap (sp0_2+1)) lp0_3 x1_3_0 x1_3_1_0 x1_3_1_1 l1_3_1_2 x1_3_2_0 x1_3_2_1 l1_3_2_2 with
     | none=>none
     | some r3 =>
      if r3=true then
       match rec_mr_list lp0_0 lp0_1 (IntKind.i64.wrap (sp0_2+1)) lp0_3 l1_4 (IntKind.i64.wrap (x2+1)) with
       | none=>none
       | some (.inl p1) =>
        some (.inl p1)
       | some (.inr r4) =>
        some (.inr (r4.1,r4.2.1,r4.2.2))
      else
       match tongue_Count.f K l1_4 with
       | none=>none
       | some r5 =>
        match rec_mr_list lp0_0 lp0_1 (IntKind.i64.wrap (sp0_2+1)) lp0_3 l1_5 (IntKind.i64.wrap ((IntKind.i64.wrap (x2+1))+r5)) with
        | none=>none
        | some (.inl p2) =>
         some (.inl p2)
        | some (.inr r6) =>
         some (.inr (r6.1,r6.2.1,r6.2.2))
    else
     if x1_0=4 then
      match iter (mr_stmt.r1 lp0_3 x1_1 l1_4 x2 rec_mr_list) K (0,lp0_0,lp0_1,IntKind.i64.wrap (sp0_2+1)) with
      | none=>none
      | some (.inl (m5,m6,z4)) =>
       some (.inr (m5,m6,z4))
      | some (.inr rr1) =>
       some rr1
     else
      if x1_0=5 then
       match iter (mr_stmt.r2 K lp0_3 x1_1 x1_3_0 x1_3_1_0 x1_3_1_1 l1_3_1_2 x1_3_2_0 x1_3_2_1 l1_3_2_2 l1_4 x2 rec_mr_list) K (0,lp0_0,lp0_1,IntKind.i64.wrap (sp0_2+1)) with
       | none=>none
       | some (.inl (m11,m12,z8)) =>
        some (.inr (m11,m12,z8))
       | some (.inr rr2) =>
        some rr2
      else
       if x1_0=6 then
        match rec_mr_list lp0_0 lp0_1 (IntKind.i64.wrap (sp0_2+1)) lp0_3 l1_4 (IntKind.i64.wrap (x2+1)) with
        | none=>none
        | some (.inl p5) =>
         some (.inl p5)
        | some (.inr r10) =>
         some (.inr (r10.1,r10.2.1,r10.2.2))
       else
        some (.inr (lp0_0,lp0_1,IntKind.i64.wrap (sp0_2+1)))
 | some (.inr rr3) =>
  some rr3
abbrev mr_stmt.A0 (w0:World) (bp0:Nat) (lp0_0:List Int) (Ap0_0:OA) (cp0_0:Nat) (lp0_1:List SPut) (Ap0_1:OA) (cp0_1:Nat) (sp0_2:Int) (lp0_3:List Int) (Ap0_3:OA) (cp0_3:Nat) (x1_0 x1_1 x1_2_0 x1_2_1:Int) (l1_2_2:List SExpr) (A1_2_2:OA) (c1_2_2:Nat) (x1_3_0 x1_3_1_0 x1_3_1_1:Int) (l1_3_1_2:List SExpr) (A1_3_1_2:OA) (c1_3_1_2:Nat) (x1_3_2_0 x1_3_2_1:Int) (l1_3_2_2:List SExpr) (A1_3_2_2:OA) (c1_3_2_2:Nat) (l1_4:List SStmt) (A1_4:OA) (c1_4:Nat) (l1_5:List SStmt) (A1_5:OA) (c1_5:Nat) (x2:Int) (LT:List Own) (b1:Nat):Unit→Act→World→Prop:=fun (s:Unit) a w=>St w0 w [bk b1 #[vI x1_0,vI x1_1,vI x1_2_0,vI x1_2_1,.slice A1_2_2 l1_2_2.length c1_2_2,vI x1_3_0,vI x1_3_1_0,vI x1_3_1_1,.slice A1_3_1_2 l1_3_1_2.length c1_3_1_2,vI x1_3_2_0,vI x1_3_2_1,.slice A1_3_2_2 l1_3_2_2.length c1_3_2_2,.slice A1_4 l1_4.length c1_4,.slice A1_5 l1_5.length c1_5] 70,bk bp0 #[(.slice Ap0_0 lp0_0.length cp0_0),(.slice Ap0_1 lp0_1.length cp0_1),vI sp0_2,.slice Ap0_3 lp0_3.length cp0_3] 77,ro Ap0_0 cp0_0 3 lp0_0,ro Ap0_1 cp0_1 42 lp0_1,Own.all LT]∧Frm 124 a [(0,pP bp0 0),(2,vI x2),(4,pP b1 0)]
abbrev mr_stmt.B0 (w0:World) (Z:Zone) (bp0:Nat) (lp0_0:List Int) (Ap0_0:OA) (cp0_0:Nat) (lp0_1:List SPut) (Ap0_1:OA) (cp0_1:Nat) (sp0_2:Int) (lp0_3:List Int) (Ap0_3:OA) (cp0_3:Nat) (x1_0 x1_1 x1_2_0 x1_2_1:Int) (l1_2_2:List SExpr) (A1_2_2:OA) (c1_2_2:Nat) (x1_3_0 x1_3_1_0 x1_3_1_1:Int) (l1_3_1_2:List SExpr) (A1_3_1_2:OA) (c1_3_1_2:Nat) (x1_3_2_0 x1_3_2_1:Int) (l1_3_2_2:List SExpr) (A1_3_2_2:OA) (c1_3_2_2:Nat) (l1_4:List SStmt) (A1_4:OA) (c1_4:Nat) (l1_5:List SStmt) (A1_5:OA) (c1_5:Nat) (x2:Int) (LT:List Own):(Int ⊕ ((List Int)×(List SPut)×Int))→Exit→Act→World→Prop:=RetsP Try.prog Try.f49 (mr_stmt.Post w0 Z bp0 lp0_0 Ap0_0 cp0_0 lp0_1 Ap0_1 cp0_1 sp0_2 lp0_3 Ap0_3 cp0_3 x1_0 x1_1 x1_2_0 x1_2_1 l1_2_2 A1_2_2 c1_2_2 x1_3_0 x1_3_1_0 x1_3_1_1 l1_3_1_2 A1_3_1_2 c1_3_1_2 x1_3_2_0 x1_3_2_1 l1_3_2_2 A1_3_2_2 c1_3_2_2 l1_4 A1_4 c1_4 l1_5 A1_5 c1_5 x2 LT)
theorem mr_stmt_p0 (K:Nat) (w0:World) (Z:Zone) (bp0:Nat) (lp0_0:List Int) (Ap0_0:OA) (cp0_0:Nat) (lp0_1:List SPut) (Ap0_1:OA) (cp0_1:Nat) (sp0_2:Int) (lp0_3:List Int) (Ap0_3:OA) (cp0_3:Nat) (x1_0 x1_1 x1_2_0 x1_2_1:Int) (l1_2_2:List SExpr) (A1_2_2:OA) (c1_2_2:Nat) (x1_3_0 x1_3_1_0 x1_3_1_1:Int) (l1_3_1_2:List SExpr) (A1_3_1_2:OA) (c1_3_1_2:Nat) (x1_3_2_0 x1_3_2_1:Int) (l1_3_2_2:List SExpr) (A1_3_2_2:OA) (c1_3_2_2:Nat) (l1_4:List SStmt) (A1_4:OA) (c1_4:Nat) (l1_5:List SStmt) (A1_5:OA) (c1_5:Nat) (x2:Int) (LT:List Own) (hZ:∀ w L,St w0 w (Own.all LT::L)→∀ w',Sub w w'→Z w') (hRp0_3:RdL w0 Ap0_3 lp0_3) (hLp0_3:lp0_3.length≤cp0_3) (hR1_2_2:RdZ Z A1_2_2 l1_2_2) (hL1_2_2:l1_2_2.length≤c1_2_2) (hR1_3_1_2:RdZ Z A1_3_1_2 l1_3_1_2) (hL1_3_1_2:l1_3_1_2.length≤c1_3_1_2) (hR1_3_2_2:RdZ Z A1_3_2_2 l1_3_2_2) (hL1_3_2_2:l1_3_2_2.length≤c1_3_2_2) (hR1_4:RdZ Z A1_4 l1_4) (hL1_4:l1_4.length≤c1_4) (hR1_5:RdZ Z A1_5 l1_5) (hL1_5:l1_5.length≤c1_5) (rec_mr_list:(List Int)→(List SPut)→Int→(List Int)→(List SStmt)→Int→Option (Int ⊕ ((List Int)×(List SPut)×Int))) (hr_mr_list:mr_list.Rec rec_mr_list) (b1:Nat) (o:Unit ⊕ (Int ⊕ ((List Int)×(List SPut)×Int))) (h:mr_stmt.p0 sp0_2 x2=some o) (w:World) (hS:St w0 w [bk b1 #[vI x1_0,vI x1_1,vI x1_2_0,vI x1_2_1,.slice A1_2_2 l1_2_2.length c1_2_2,vI x1_3_0,vI x1_3_1_0,vI x1_3_1_1,.slice A1_3_1_2 l1_3_1_2.length c1_3_1_2,vI x1_3_2_0,vI x1_3_2_1,.slice A1_3_2_2 l1_3_2_2.length c1_3_2_2,.slice A1_4 l1_4.length c1_4,.slice A1_5 l1_5.length c1_5] 70,bk bp0 #[(.slice Ap0_0 lp0_0.length cp0_0),(.slice Ap0_1 lp0_1.length cp0_1),vI sp0_2,.slice Ap0_3 lp0_3.length cp0_3] 77,ro Ap0_0 cp0_0 3 lp0_0,ro Ap0_1 cp0_1 42 lp0_1,Own.all LT]) (Q:Exit→Act→World→Prop) (hQ:∀ x a w,Outs (mr_stmt.A0 w0 bp0 lp0_0 Ap0_0 cp0_0 lp0_1 Ap0_1 cp0_1 sp0_2 lp0_3 Ap0_3 cp0_3 x1_0 x1_1 x1_2_0 x1_2_1 l1_2_2 A1_2_2 c1_2_2 x1_3_0 x1_3_1_0 x1_3_1_1 l1_3_1_2 A1_3_1_2 c1_3_1_2 x1_3_2_0 x1_3_2_1 l1_3_2_2 A1_3_2_2 c1_3_2_2 l1_4 A1_4 c1_4 l1_5 A1_5 c1_5 x2 LT b1) (mr_stmt.B0 w0 Z bp0 lp0_0 Ap0_0 cp0_0 lp0_1 Ap0_1 cp0_1 sp0_2 lp0_3 Ap0_3 cp0_3 x1_0 x1_1 x1_2_0 x1_2_1 l1_2_2 A1_2_2 c1_2_2 x1_3_0 x1_3_1_0 x1_3_1_1 l1_3_1_2 A1_3_1_2 c1_3_1_2 x1_3_2_0 x1_3_2_1 l1_3_2_2 A1_3_2_2 c1_3_2_2 l1_4 A1_4 c1_4 l1_5 A1_5 c1_5 x2 LT) o x a w→Q x a w):WE Try.prog 124 (subF Try.f49 [1,0]) Q [(0,pP bp0 0),(1,.agg #[vI x1_0,vI x1_1,vI x1_2_0,vI x1_2_1,.slice A1_2_2 l1_2_2.length c1_2_2,vI x1_3_0,vI x1_3_1_0,vI x1_3_1_1,.slice A1_3_1_2 l1_3_1_2.length c1_3_1_2,vI x1_3_2_0,vI x1_3_2_1,.slice A1_3_2_2 l1_3_2_2.length c1_3_2_2,.slice A1_4 l1_4.length c1_4,.slice A1_5 l1_5.length c1_5]),(2,vI x2),(4,pP b1 0)] w:=by
 simp only [mr_stmt.p0] at h
 refine ws fun K3 hK3=>wr [(0,0),(1,0),(2,0),(3,0),(4,0),(5,0)]<|gb [0,1,2,3,4,5] [(12,.bool (sp0_2==20000)),(11,vI sp0_2),(10,pP bp0 2),(9,pP bp0 0),(8,pP bp0 0),(7,pP bp0 0)] [ld bp0 2 (vI sp0_2)] ⟨hS.c 1,trivial⟩<|gn hK3 ?_
 by_cases hc1:sp0_2=20000
 ·rw [if_pos hc1] at h
  refine wk 12 (sp0_2==20000) true (beq_iff_eq.2 hc1)<|wt<|wr [(0,0),(1,0),(2,0),(3,2)]<|gb0 [0,1,2] [(15,.iface 73 (.agg #[vI x2])),(14,.agg #[vI x2]),(13,vI x2)] ?_
  have hS3:=hS.p [4] rfl
  obtain rfl:=si h
  exact ge_panic (t:=73) (by rfl) (by rfl) (by kernel_rfl) (by kernel_rfl) fun a hF=>hQ _ _ _ (Outs.out nofun ⟨.inr ⟨_,rfl⟩,(post_panic (P:=Try.prog) (fn:=Try.f49) ⟨rfl,hS3⟩ a hF)⟩)
 rw [if_neg hc1] at h
 refine wk 12 (sp0_2==20000) false (beq_eq_false_iff_ne.2 hc1)<|wf ?_
 have hS8:=((((hS.b 4).b 4).b 4).b 4).b 4
 obtain rfl:=si h
 exact we_skip fun a hF=>hQ _ _ _ (Outs.again ⟨hS8,hF.weaken ea⟩)
abbrev mr_stmt.A1 (w0:World) (bp0:Nat) (lp0_3:List Int) (Ap0_3:OA) (cp0_3:Nat) (x1_0 x1_1 x1_2_0 x1_2_1:Int) (l1_2_2:List SExpr) (A1_2_2:OA) (c1_2_2:Nat) (x1_3_0 x1_3_1_0 x1_3_1_1:Int) (l1_3_1_2:List SExpr) (A1_3_1_2:OA) (c1_3_1_2:Nat) (x1_3_2_0 x1_3_2_1:Int) (l1_3_2_2:List SExpr) (A1_3_2_2:OA) (c1_3_2_2:Nat) (l1_4:List SStmt) (A1_4:OA) (c1_4:Nat) (l1_5:List SStmt) (A1_5:OA) (c1_5:Nat) (x2:Int) (LT:List Own) (b1:Nat):(Int×(List Int)×(List SPut)×Int)→Act→World→Prop:=fun (s:Int×(List Int)×(List SPut)×Int) a w=>∃ (v6:Value) (v7:Value),St w0 w [bk bp0 #[v6,v7,vI s.2.2.2,.slice Ap0_3 lp0_3.length cp0_3] 77,bk b1 #[vI x1_0,vI x1_1,vI x1_2_0,vI x1_2_1,.slice A1_2_2 l1_2_2.length c1_2_2,vI x1_3_0,vI x1_3_1_0,vI x1_3_1_1,.slice A1_3_1_2 l1_3_1_2.length c1_3_1_2,vI x1_3_2_0,vI x1_3_2_1,.slice A1_3_2_2 l1_3_2_2.length c1_3_2_2,.slice A1_4 l1_4.length c1_4,.slice A1_5 l1_5.length c1_5] 70,Own.of v6 3 s.2.1,Own.of v7 42 s.2.2.1,Own.all LT]∧Frm 124 a [(0,pP bp0 0),(2,vI x2),(4,pP b1 0),(86,vI x1_1),(87,vI s.1)]
abbrev mr_stmt.B1 (w0:World) (Z:Zone) (bp0:Nat) (lp0_0:List Int) (Ap0_0:OA) (cp0_0:Nat) (lp0_1:List SPut) (Ap0_1:OA) (cp0_1:Nat) (sp0_2:Int) (lp0_3:List Int) (Ap0_3:OA) (cp0_3:Nat) (x1_0 x1_1 x1_2_0 x1_2_1:Int) (l1_2_2:List SExpr) (A1_2_2:OA) (c1_2_2:Nat) (x1_3_0 x1_3_1_0 x1_3_1_1:Int) (l1_3_1_2:List SExpr) (A1_3_1_2:OA) (c1_3_1_2:Nat) (x1_3_2_0 x1_3_2_1:Int) (l1_3_2_2:List SExpr) (A1_3_2_2:OA) (c1_3_2_2:Nat) (l1_4:List SStmt) (A1_4:OA) (c1_4:Nat) (l1_5:List SStmt) (A1_5:OA) (c1_5:Nat) (x2:Int) (LT:List Own):(((List Int)×(List SPut)×Int) ⊕ (Int ⊕ ((List Int)×(List SPut)×Int)))→Exit→Act→World→Prop:=Exits 1 (fun (s:(List Int)×(List SPut)×Int) a w=>∃ (v8:Value) (v9:Value),St w0 w [bk bp0 #[v8,v9,vI s.2.2,.slice Ap0_3 lp0_3.length cp0_3] 77,Own.of v8 3 s.1,Own.of v9 42 s.2.1,Own.all LT]∧Frm 124 a [(0,pP bp0 0)]) (RetsP Try.prog Try.f49 (mr_stmt.Post w0 Z bp0 lp0_0 Ap0_0 cp0_0 lp0_1 Ap0_1 cp0_1 sp0_2 lp0_3 Ap0_3 cp0_3 x1_0 x1_1 x1_2_0 x1_2_1 l1_2_2 A1_2_2 c1_2_2 x1_3_0 x1_3_1_0 x1_3_1_1 l1_3_1_2 A1_3_1_2 c1_3_1_2 x1_3_2_0 x1_3_2_1 l1_3_2_2 A1_3_2_2 c1_3_2_2 l1_4 A1_4 c1_4 l1_5 A1_5 c1_5 x2 LT))
theorem mr_stmt_r1 (K:Nat) (w0:World) (Z:Zone) (bp0:Nat) (lp0_0:List Int) (Ap0_0:OA) (cp0_0:Nat) (lp0_1:List SPut) (Ap0_1:OA) (cp0_1:Nat) (sp0_2:Int) (lp0_3:List Int) (Ap0_3:OA) (cp0_3:Nat) (x1_0 x1_1 x1_2_0 x1_2_1:Int) (l1_2_2:List SExpr) (A1_2_2:OA) (c1_2_2:Nat) (x1_3_0 x1_3_1_0 x1_3_1_1:Int) (l1_3_1_2:List SExpr) (A1_3_1_2:OA) (c1_3_1_2:Nat) (x1_3_2_0 x1_3_2_1:Int) (l1_3_2_2:List SExpr) (A1_3_2_2:OA) (c1_3_2_2:Nat) (l1_4:List SStmt) (A1_4:OA) (c1_4:Nat) (l1_5:List SStmt) (A1_5:OA) (c1_5:Nat) (x2:Int) (LT:List Own) (hZ:∀ w L,St w0 w (Own.all LT::L)→∀ w',Sub w w'→Z w') (hRp0_3:RdL w0 Ap0_3 lp0_3) (hLp0_3:lp0_3.length≤cp0_3) (hR1_2_2:RdZ Z A1_2_2 l1_2_2) (hL1_2_2:l1_2_2.length≤c1_2_2) (hR1_3_1_2:RdZ Z A1_3_1_2 l1_3_1_2) (hL1_3_1_2:l1_3_1_2.length≤c1_3_1_2) (hR1_3_2_2:RdZ Z A1_3_2_2 l1_3_2_2) (hL1_3_2_2:l1_3_2_2.length≤c1_3_2_2) (hR1_4:RdZ Z A1_4 l1_4) (hL1_4:l1_4.length≤c1_4) (hR1_5:RdZ Z A1_5 l1_5) (hL1_5:l1_5.length≤c1_5) (rec_mr_list:(List Int)→(List SPut)→Int→(List Int)→(List SStmt)→Int→Option (Int ⊕ ((List Int)×(List SPut)×Int))) (hr_mr_list:mr_list.Rec rec_mr_list) (b1:Nat) (hc2:¬ (x1_0=1)) (hc4:¬ (x1_0=2)) (hc6:¬ (x1_0=3)) (hc8:x1_0=4) (s:Int×(List Int)×(List SPut)×Int) (o:(Int×(List Int)×(List SPut)×Int) ⊕ (((List Int)×(List SPut)×Int) ⊕ (Int ⊕ ((List Int)×(List SPut)×Int)))) (h:mr_stmt.r1 lp0_3 x1_1 l1_4 x2 rec_mr_list s=some o) (a:Act) (w:World) (hA:mr_stmt.A1 w0 bp0 lp0_3 Ap0_3 cp0_3 x1_0 x1_1 x1_2_0 x1_2_1 l1_2_2 A1_2_2 c1_2_2 x1_3_0 x1_3_1_0 x1_3_1_1 l1_3_1_2 A1_3_1_2 c1_3_1_2 x1_3_2_0 x1_3_2_1 l1_3_2_2 A1_3_2_2 c1_3_2_2 l1_4 A1_4 c1_4 l1_5 A1_5 c1_5 x2 LT b1 s a w) (Q:Exit→Act→World→Prop) (hQ:∀ x a w,Outs (mr_stmt.A1 w0 bp0 lp0_3 Ap0_3 cp0_3 x1_0 x1_1 x1_2_0 x1_2_1 l1_2_2 A1_2_2 c1_2_2 x1_3_0 x1_3_1_0 x1_3_1_1 l1_3_1_2 A1_3_1_2 c1_3_1_2 x1_3_2_0 x1_3_2_1 l1_3_2_2 A1_3_2_2 c1_3_2_2 l1_4 A1_4 c1_4 l1_5 A1_5 c1_5 x2 LT b1) (mr_stmt.B1 w0 Z bp0 lp0_0 Ap0_0 cp0_0 lp0_1 Ap0_1 cp0_1 sp0_2 lp0_3 Ap0_3 cp0_3 x1_0 x1_1 x1_2_0 x1_2_1 l1_2_2 A1_2_2 c1_2_2 x1_3_0 x1_3_1_0 x1_3_1_1 l1_3_1_2 A1_3_1_2 c1_3_1_2 x1_3_2_0 x1_3_2_1 l1_3_2_2 A1_3_2_2 c1_3_2_2 l1_4 A1_4 c1_4 l1_5 A1_5 c1_5 x2 LT) o x a w→Q x a w):(subF Try.f49 [1,1,1,1,0,1,1,1,1,1,1,1,0,1,0,0]).wp Try.prog Q a w:=by
 obtain ⟨z1,m1,m2,z2⟩:=s
 obtain ⟨v6,v7,hS,hF⟩:=hA
 replace hS:St w0 w [bk bp0 #[v6,v7,vI z2,.slice Ap0_3 lp0_3.length cp0_3] 77,bk b1 #[vI x1_0,vI x1_1,vI x1_2_0,vI x1_2_1,.slice A1_2_2 l1_2_2.length c1_2_2,vI x1_3_0,vI x1_3_1_0,vI x1_3_1_1,.slice A1_3_1_2 l1_3_1_2.length c1_3_1_2,vI x1_3_2_0,vI x1_3_2_1,.slice A1_3_2_2 l1_3_2_2.length c1_3_2_2,.slice A1_4 l1_4.length c1_4,.slice A1_5 l1_5.length c1_5] 70,Own.of v6 3 m1,Own.of v7 42 m2,Own.all LT]:=hS
 simp only [mr_stmt.r1] at h
 refine (?_:WE Try.prog 124 (subF Try.f49 [1,1,1,1,0,1,1,1,1,1,1,1,0,1,0,0]) Q [(0,pP bp0 0),(2,vI x2),(4,pP b1 0),(86,vI x1_1),(87,vI z1)] w) a hF
 clear hF a
 refine ws fun K12 hK12=>wr [(0,0)]<|gb0 [0] [(88,.bool (decide (z1<x1_1)))]<|gn hK12<|ws fun K13 hK13=>?_
 by_cases hc9:z1<x1_1
 ·rw [if_pos hc9] at h
  refine wk 88 (decide (z1<x1_1)) true (decide_eq_true hc9)<|wt<|we_skip fun a hF=>hK13 _ _ ?_ a hF
  refine ws fun K14 hK14=>we_block<|wr [(0,0),(1,0),(2,0),(3,0),(4,0),(5,2)]<|gb [0,1,2,3,4] [(93,vI (IntKind.i64.wrap (x2+1))),(92,vI x2),(91,.slice A1_4 l1_4.length c1_4),(90,pP b1 12),(89,pP bp0 0)] [ld b1 12 (.slice A1_4 l1_4.length c1_4)] ⟨hS.c 1,trivial⟩ ?_
  obtain ⟨Z2,cz2,rfl⟩:=hS.open 2 rfl
  obtain ⟨Z3,cz3,rfl⟩:=hS.open 3 rfl
  rcases hq8:rec_mr_list m1 m2 z2 lp0_3 l1_4 (IntKind.i64.wrap (x2+1)) with _ | r7
  ·rw [hq8] at h; cases h
  rw [hq8] at h
  rcases r7 with p3 | r7
  ·try simp only [] at h
   have hS93:=(((hS.b 3).b 3).b 2).packN 3
   refine ge_callP (m:=0) (d:=some 94) (f:=36) (args:=#[pP bp0 0,.slice A1_4 l1_4.length c1_4,vI (IntKind.i64.wrap (x2+1))]) (by kernel_rfl) (hr_mr_list Z bp0 m1 Z2 cz2 m2 Z3 cz3 z2 lp0_3 Ap0_3 cp0_3 l1_4 A1_4 c1_4 (IntKind.i64.wrap (x2+1)) _ _ _ hS93 (fun w L h w' k=>(hZ _ _ (h.spread.bring 1 rfl) w' k)) hRp0_3 hLp0_3 hR1_4 hL1_4 _ hq8) ?_
   rintro _ w14 ⟨rfl,hS92⟩
   have hS102:=((hS92.unpack []).b 1).takeN 1
   obtain rfl:=si h
   exact .inr ⟨_,rfl,fun a hF=>hQ _ _ _ (Outs.out nofun (Exits.on ⟨.inr ⟨_,rfl⟩,(post_panic (P:=Try.prog) (fn:=Try.f49) ⟨rfl,hS102⟩ a hF)⟩))⟩
  try simp only [] at h
  have hS93:=(((hS.b 3).b 3).b 2).packN 3
  refine ge_callP (m:=0) (d:=some 94) (f:=36) (args:=#[pP bp0 0,.slice A1_4 l1_4.length c1_4,vI (IntKind.i64.wrap (x2+1))]) (by kernel_rfl) (hr_mr_list Z bp0 m1 Z2 cz2 m2 Z3 cz3 z2 lp0_3 Ap0_3 cp0_3 l1_4 A1_4 c1_4 (IntKind.i64.wrap (x2+1)) _ _ _ hS93 (fun w L h w' k=>(hZ _ _ (h.spread.bring 1 rfl) w' k)) hRp0_3 hLp0_3 hR1_4 hL1_4 _ hq8) ?_
  rintro _ w14 ⟨v10,v11,rfl,hS92⟩
  refine .inl ⟨_,rfl,?_⟩
  have hS94:=hS92.unpack [bk bp0 #[v10,v11,vI r7.2.2,.slice Ap0_3 lp0_3.length cp0_3] 77,Own.of v10 3 r7.1,Own.of v11 42 r7.2.1]
  refine gn hK14<|wr [(0,0),(1,0)]<|gb0 [0,1] [(87,vI (IntKind.i64.wrap (z1+1))),(95,vI (IntKind.i64.wrap (z1+1)))] ?_
  have hS99:=((((hS94.b 4).b 3).b 3).b 4).b 4
  obtain rfl:=si h
  exact ge_nil fun a hF=>hQ _ _ _ (Outs.again ⟨v10,v11,hS99,hF.weaken ea⟩)
 rw [if_neg hc9] at h
 refine wk 88 (decide (z1<x1_1)) false (decide_eq_false hc9)<|wf ?_
 have hS107:=hS.p [0,2,3,4] rfl
 obtain rfl:=si h
 exact we_exit fun a hF=>hQ _ _ _ (Outs.out nofun (Exits.here ⟨v6,v7,hS107,hF.weaken ea⟩))
abbrev mr_stmt.A2 (w0:World) (bp0:Nat) (lp0_3:List Int) (Ap0_3:OA) (cp0_3:Nat) (x1_0 x1_1 x1_2_0 x1_2_1:Int) (l1_2_2:List SExpr) (A1_2_2:OA) (c1_2_2:Nat) (x1_3_0 x1_3_1_0 x1_3_1_1:Int) (l1_3_1_2:List SExpr) (A1_3_1_2:OA) (c1_3_1_2:Nat) (x1_3_2_0 x1_3_2_1:Int) (l1_3_2_2:List SExpr) (A1_3_2_2:OA) (c1_3_2_2:Nat) (l1_4:List SStmt) (A1_4:OA) (c1_4:Nat) (l1_5:List SStmt) (A1_5:OA) (c1_5:Nat) (x2:Int) (LT:List Own) (b1:Nat):(Int×(List Int)×(List SPut)×Int)→Act→World→Prop:=fun (s:Int×(List Int)×(List SPut)×Int) a w=>∃ (v14:Value) (v15:Value),St w0 w [bk bp0 #[v14,v15,vI s.2.2.2,.slice Ap0_3 lp0_3.length cp0_3] 77,bk b1 #[vI x1_0,vI x1_1,vI x1_2_0,vI x1_2_1,.slice A1_2_2 l1_2_2.length c1_2_2,vI x1_3_0,vI x1_3_1_0,vI x1_3_1_1,.slice A1_3_1_2 l1_3_1_2.length c1_3_1_2,vI x1_3_2_0,vI x1_3_2_1,.slice A1_3_2_2 l1_3_2_2.length c1_3_2_2,.slice A1_4 l1_4.length c1_4,.slice A1_5 l1_5.length c1_5] 70,Own.of v14 3 s.2.1,Own.of v15 42 s.2.2.1,Own.all LT]∧Frm 124 a [(0,pP bp0 0),(2,vI x2),(4,pP b1 0),(6,vI s.1)]
abbrev mr_stmt.B2 (w0:World) (Z:Zone) (bp0:Nat) (lp0_0:List Int) (Ap0_0:OA) (cp0_0:Nat) (lp0_1:List SPut) (Ap0_1:OA) (cp0_1:Nat) (sp0_2:Int) (lp0_3:List Int) (Ap0_3:OA) (cp0_3:Nat) (x1_0 x1_1 x1_2_0 x1_2_1:Int) (l1_2_2:List SExpr) (A1_2_2:OA) (c1_2_2:Nat) (x1_3_0 x1_3_1_0 x1_3_1_1:Int) (l1_3_1_2:List SExpr) (A1_3_1_2:OA) (c1_3_1_2:Nat) (x1_3_2_0 x1_3_2_1:Int) (l1_3_2_2:List SExpr) (A1_3_2_2:OA) (c1_3_2_2:Nat) (l1_4:List SStmt) (A1_4:OA) (c1_4:Nat) (l1_5:List SStmt) (A1_5:OA) (c1_5:Nat) (x2:Int) (LT:List Own):(((List Int)×(List SPut)×Int) ⊕ (Int ⊕ ((List Int)×(List SPut)×Int)))→Exit→Act→World→Prop:=Exits 3 (fun (s:(List Int)×(List SPut)×Int) a w=>∃ (v16:Value) (v17:Value),St w0 w [bk bp0 #[v16,v17,vI s.2.2,.slice Ap0_3 lp0_3.length cp0_3] 77,Own.of v16 3 s.1,Own.of v17 42 s.2.1,Own.all LT]∧Frm 124 a [(0,pP bp0 0)]) (RetsP Try.prog Try.f49 (mr_stmt.Post w0 Z bp0 lp0_0 Ap0_0 cp0_0 lp0_1 Ap0_1 cp0_1 sp0_2 lp0_3 Ap0_3 cp0_3 x1_0 x1_1 x1_2_0 x1_2_1 l1_2_2 A1_2_2 c1_2_2 x1_3_0 x1_3_1_0 x1_3_1_1 l1_3_1_2 A1_3_1_2 c1_3_1_2 x1_3_2_0 x1_3_2_1 l1_3_2_2 A1_3_2_2 c1_3_2_2 l1_4 A1_4 c1_4 l1_5 A1_5 c1_5 x2 LT))
theorem mr_stmt_r2 (K:Nat) (w0:World) (Z:Zone) (bp0:Nat) (lp0_0:List Int) (Ap0_0:OA) (cp0_0:Nat) (lp0_1:List SPut) (Ap0_1:OA) (cp0_1:Nat) (sp0_2:Int) (lp0_3:List Int) (Ap0_3:OA) (cp0_3:Nat) (x1_0 x1_1 x1_2_0 x1_2_1:Int) (l1_2_2:List SExpr) (A1_2_2:OA) (c1_2_2:Nat) (x1_3_0 x1_3_1_0 x1_3_1_1:Int) (l1_3_1_2:List SExpr) (A1_3_1_2:OA) (c1_3_1_2:Nat) (x1_3_2_0 x1_3_2_1:Int) (l1_3_2_2:List SExpr) (A1_3_2_2:OA) (c1_3_2_2:Nat) (l1_4:List SStmt) (A1_4:OA) (c1_4:Nat) (l1_5:List SStmt) (A1_5:OA) (c1_5:Nat) (x2:Int) (LT:List Own) (hZ:∀ w L,St w0 w (Own.all LT::L)→∀ w',Sub w w'→Z w') (hRp0_3:RdL w0 Ap0_3 lp0_3) (hLp0_3:lp0_3.length≤cp0_3) (hR1_2_2:RdZ Z A1_2_2 l1_2_2) (hL1_2_2:l1_2_2.length≤c1_2_2) (hR1_3_1_2:RdZ Z A1_3_1_2 l1_3_1_2) (hL1_3_1_2:l1_3_1_2.length≤c1_3_1_2) (hR1_3_2_2:RdZ Z A1_3_2_2 l1_3_2_2) (hL1_3_2_2:l1_3_2_2.length≤c1_3_2_2) (hR1_4:RdZ Z A1_4 l1_4) (hL1_4:l1_4.length≤c1_4) (hR1_5:RdZ Z A1_5 l1_5) (hL1_5:l1_5.length≤c1_5) (rec_mr_list:(List Int)→(List SPut)→Int→(List Int)→(List SStmt)→Int→Option (Int ⊕ ((List Int)×(List SPut)×Int))) (hr_mr_list:mr_list.Rec rec_mr_list) (b1:Nat) (hc2:¬ (x1_0=1)) (hc4:¬ (x1_0=2)) (hc6:¬ (x1_0=3)) (hc8:¬ (x1_0=4)) (hc10:x1_0=5) (s:Int×(List Int)×(List SPut)×Int) (o:(Int×(List Int)×(List SPut)×Int) ⊕ (((List Int)×(List SPut)×Int) ⊕ (Int ⊕ ((List Int)×(List SPut)×Int)))) (h:mr_stmt.r2 K lp0_3 x1_1 x1_3_0 x1_3_1_0 x1_3_1_1 l1_3_1_2 x1_3_2_0 x1_3_2_1 l1_3_2_2 l1_4 x2 rec_mr_list s=some o) (a:Act) (w:World) (hA:mr_stmt.A2 w0 bp0 lp0_3 Ap0_3 cp0_3 x1_0 x1_1 x1_2_0 x1_2_1 l1_2_2 A1_2_2 c1_2_2 x1_3_0 x1_3_1_0 x1_3_1_1 l1_3_1_2 A1_3_1_2 c1_3_1_2 x1_3_2_0 x1_3_2_1 l1_3_2_2 A1_3_2_2 c1_3_2_2 l1_4 A1_4 c1_4 l1_5 A1_5 c1_5 x2 LT b1 s a w) (Q:Exit→Act→World→Prop) (hQ:∀ x a w,Outs (mr_stmt.A2 w0 bp0 lp0_3 Ap0_3 cp0_3 x1_0 x1_1 x1_2_0 x1_2_1 l1_2_2 A1_2_2 c1_2_2 x1_3_0 x1_3_1_0 x1_3_1_1 l1_3_1_2 A1_3_1_2 c1_3_1_2 x1_3_2_0 x1_3_2_1 l1_3_2_2 A1_3_2_2 c1_3_2_2 l1_4 A1_4 c1_4 l1_5 A1_5 c1_5 x2 LT b1) (mr_stmt.B2 w0 Z bp0 lp0_0 Ap0_0 cp0_0 lp0_1 Ap0_1 cp0_1 sp0_2 lp0_3 Ap0_3 cp0_3 x1_0 x1_1 x1_2_0 x1_2_1 l1_2_2 A1_2_2 c1_2_2 x1_3_0 x1_3_1_0 x1_3_1_1 l1_3_1_2 A1_3_1_2 c1_3_1_2 x1_3_2_0 x1_3_2_1 l1_3_2_2 A1_3_2_2 c1_3_2_2 l1_4 A1_4 c1_4 l1_5 A1_5 c1_5 x2 LT) o x a w→Q x a w):(subF Try.f49 [1,1,1,1,0,1,1,1,1,1,1,1,1,1,0,1,0,0]).wp Try.prog Q a w:=by
 obtain ⟨z5,m7,m8,z6⟩:=s
 obtain ⟨v14,v15,hS,hF⟩:=hA
 replace hS:St w0 w [bk bp0 #[v14,v15,vI z6,.slice Ap0_3 lp0_3.length cp0_3] 77,bk b1 #[vI x1_0,vI x1_1,vI x1_2_0,vI x1_2_1,.slice A1_2_2 l1_2_2.length c1_2_2,vI x1_3_0,vI x1_3_1_0,vI x1_3_1_1,.slice A1_3_1_2 l1_3_1_2.length c1_3_1_2,vI x1_3_2_0,vI x1_3_2_1,.slice A1_3_2_2 l1_3_2_2.length c1_3_2_2,.slice A1_4 l1_4.length c1_4,.slice A1_5 l1_5.length c1_5] 70,Own.of v14 3 m7,Own.of v15 42 m8,Own.all LT]:=hS
 simp only [mr_stmt.r2] at h
 refine (?_:WE Try.prog 124 (subF Try.f49 [1,1,1,1,0,1,1,1,1,1,1,1,1,1,0,1,0,0]) Q [(0,pP bp0 0),(2,vI x2),(4,pP b1 0),(6,vI z5)] w) a hF
 clear hF a
 refine ws fun K17 hK17=>ws fun K18 hK18=>wr [(0,0),(1,0),(2,0),(3,0),(4,0),(5,0),(6,0),(7,0),(8,2),(9,0)]<|gb [0,1,2,3,4] [(102,.bool (decide (z5<x1_1))),(101,.bool (decide (z5<x1_1))),(100,vI x1_1),(99,pP b1 1),(98,vI z5)] [ld b1 1 (vI x1_1)] ⟨hS.c 1,trivial⟩ ?_
 by_cases hc11:z5<x1_1
 ·rw [if_pos hc11] at h
  refine gk 102 (decide (z5<x1_1)) true (decide_eq_true hc11)<|gb [5,6,7] [(105,.agg #[vI x1_3_0,vI x1_3_1_0,vI x1_3_1_1,.slice A1_3_1_2 l1_3_1_2.length c1_3_1_2,vI x1_3_2_0,vI x1_3_2_1,.slice A1_3_2_2 l1_3_2_2.length c1_3_2_2]),(104,pP b1 5),(103,pP bp0 0)] [ld b1 5 (vI x1_3_0),ld b1 6 (vI x1_3_1_0),ld b1 7 (vI x1_3_1_1),ld b1 8 (.slice A1_3_1_2 l1_3_1_2.length c1_3_1_2),ld b1 9 (vI x1_3_2_0),ld b1 10 (vI x1_3_2_1),ld b1 11 (.slice A1_3_2_2 l1_3_2_2.length c1_3_2_2)] ⟨hS.c 1,hS.c 1,hS.c 1,hS.c 1,hS.c 1,hS.c 1,hS.c 1,trivial⟩ ?_
  obtain ⟨Z4,cz4,rfl⟩:=hS.open 2 rfl
  obtain ⟨Z5,cz5,rfl⟩:=hS.open 3 rfl
  rcases hq10:mr_holds.f K m7 m8 z6 lp0_3 x1_3_0 x1_3_1_0 x1_3_1_1 l1_3_1_2 x1_3_2_0 x1_3_2_1 l1_3_2_2 with _ | r8
  ·rw [hq10] at h; cases h
  rw [hq10] at h
  simp only [] at h
  have hS122:=(((hS.b 3).b 3).b 2).packN 3
  refine ge_call2 (m:=0) (d:=some 106) (f:=66) (args:=#[pP bp0 0,.agg #[vI x1_3_0,vI x1_3_1_0,vI x1_3_1_1,.slice A1_3_1_2 l1_3_1_2.length c1_3_1_2,vI x1_3_2_0,vI x1_3_2_1,.slice A1_3_2_2 l1_3_2_2.length c1_3_2_2]]) (by kernel_rfl) (mr_holds_ok K Z bp0 m7 Z4 cz4 m8 Z5 cz5 z6 lp0_3 Ap0_3 cp0_3 x1_3_0 x1_3_1_0 x1_3_1_1 l1_3_1_2 A1_3_1_2 c1_3_1_2 x1_3_2_0 x1_3_2_1 l1_3_2_2 A1_3_2_2 c1_3_2_2 _ _ _ hS122 (fun w L h w' k=>(hZ _ _ (h.spread.bring 1 rfl) w' k)) hRp0_3 hLp0_3 hR1_3_1_2 hL1_3_1_2 hR1_3_2_2 hL1_3_2_2 _ hq10) ?_
  rintro _ w16 ⟨rfl,hS121⟩
  refine ⟨_,rfl,?_⟩
  have hS123:=hS121.unpack [bk bp0 #[(.slice Z4 m7.length cz4),(.slice Z5 m8.length cz5),vI z6,.slice Ap0_3 lp0_3.length cp0_3] 77,ro Z4 cz4 3 m7,ro Z5 cz5 42 m8]
  refine gb0 [9] [(107,.bool r8)]<|gn hK18 ?_
  by_cases hc12:r8=true
  ·rw [if_pos hc12] at h
   refine wk 107 r8 true hc12<|wt<|we_skip fun a hF=>hK17 _ _ ?_ a hF
   refine ws fun K19 hK19=>we_block<|wr [(0,0),(1,0),(2,0),(3,0),(4,0),(5,2)]<|gb [0,1,2,3,4] [(114,vI (IntKind.i64.wrap (x2+1))),(113,vI x2),(112,.slice A1_4 l1_4.length c1_4),(111,pP b1 12),(110,pP bp0 0)] [ld b1 12 (.slice A1_4 l1_4.length c1_4)] ⟨hS123.c 3,trivial⟩ ?_
   rcases hq11:rec_mr_list m7 m8 z6 lp0_3 l1_4 (IntKind.i64.wrap (x2+1)) with _ | r9
   ·rw [hq11] at h; cases h
   rw [hq11] at h
   rcases r9 with p4 | r9
   ·try simp only [] at h
    have hS128:=(((hS123.b 2).b 2).b 2).packN 3
    refine ge_callP (m:=0) (d:=some 115) (f:=36) (args:=#[pP bp0 0,.slice A1_4 l1_4.length c1_4,vI (IntKind.i64.wrap (x2+1))]) (by kernel_rfl) (hr_mr_list Z bp0 m7 Z4 cz4 m8 Z5 cz5 z6 lp0_3 Ap0_3 cp0_3 l1_4 A1_4 c1_4 (IntKind.i64.wrap (x2+1)) _ _ _ hS128 (fun w L h w' k=>(hZ _ _ (h.spread.bring 1 rfl) w' k)) hRp0_3 hLp0_3 hR1_4 hL1_4 _ hq11) ?_
    rintro _ w17 ⟨rfl,hS127⟩
    have hS137:=((hS127.unpack []).b 1).takeN 1
    obtain rfl:=si h
    exact .inr ⟨_,rfl,fun a hF=>hQ _ _ _ (Outs.out nofun (Exits.on ⟨.inr ⟨_,rfl⟩,(post_panic (P:=Try.prog) (fn:=Try.f49) ⟨rfl,hS137⟩ a hF)⟩))⟩
   try simp only [] at h
   have hS128:=(((hS123.b 2).b 2).b 2).packN 3
   refine ge_callP (m:=0) (d:=some 115) (f:=36) (args:=#[pP bp0 0,.slice A1_4 l1_4.length c1_4,vI (IntKind.i64.wrap (x2+1))]) (by kernel_rfl) (hr_mr_list Z bp0 m7 Z4 cz4 m8 Z5 cz5 z6 lp0_3 Ap0_3 cp0_3 l1_4 A1_4 c1_4 (IntKind.i64.wrap (x2+1)) _ _ _ hS128 (fun w L h w' k=>(hZ _ _ (h.spread.bring 1 rfl) w' k)) hRp0_3 hLp0_3 hR1_4 hL1_4 _ hq11) ?_
   rintro _ w17 ⟨v18,v19,rfl,hS127⟩
   refine .inl ⟨_,rfl,?_⟩
   have hS129:=hS127.unpack [bk bp0 #[v18,v19,vI r9.2.2,.slice Ap0_3 lp0_3.length cp0_3] 77,Own.of v18 3 r9.1,Own.of v19 42 r9.2.1]
   refine gn hK19<|wr [(0,0),(1,0),(2,0)]<|gb0 [0,1,2] [(6,vI (IntKind.i64.wrap (z5+1))),(109,vI (IntKind.i64.wrap (z5+1))),(108,vI z5)] ?_
   have hS134:=((((hS129.b 4).b 3).b 3).b 4).b 4
   obtain rfl:=si h
   exact ge_nil fun a hF=>hQ _ _ _ (Outs.again ⟨v18,v19,hS134,hF.weaken ea⟩)
  rw [if_neg hc12] at h
  refine wk 107 r8 false (Bool.eq_false_iff.2 hc12)<|wf ?_
  have hS142:=hS123.p [0,1,2,4] rfl
  obtain rfl:=si h
  exact we_exit fun a hF=>hQ _ _ _ (Outs.out nofun (Exits.here ⟨(.slice Z4 m7.length cz4),(.slice Z5 m8.length cz5),hS142,hF.weaken ea⟩))
 rw [if_neg hc11] at h
 refine gk 102 (decide (z5<x1_1)) false (decide_eq_false hc11)<|gb0 [5,6,7] [(105,undef),(104,undef),(103,undef)]<|ge_off rfl rfl rfl (by kernel_rfl) ?_
 refine gb0 [9] [(107,.bool false)]<|gn hK18<|wf ?_
 have hS147:=hS.p [0,2,3,4] rfl
 obtain rfl:=si h
 exact we_exit fun a hF=>hQ _ _ _ (Outs.out nofun (Exits.here ⟨v14,v15,hS147,hF.weaken ea⟩))
theorem mr_stmt_step (K:Nat) (rec_mr_list:(List Int)→(List SPut)→Int→(List Int)→(List SStmt)→Int→Option (Int ⊕ ((List Int)×(List SPut)×Int))) (hr_mr_list:mr_list.Rec rec_mr_list) (Z:Zone) (bp0:Nat) (lp0_0:List Int) (Ap0_0:OA) (cp0_0:Nat) (lp0_1:List SPut) (Ap0_1:OA) (cp0_1:Nat) (sp0_2:Int) (lp0_3:List Int) (Ap0_3:OA) (cp0_3:Nat) (x1_0 x1_1 x1_2_0 x1_2_1:Int) (l1_2_2:List SExpr) (A1_2_2:OA) (c1_2_2:Nat) (x1_3_0 x1_3_1_0 x1_3_1_1:Int) (l1_3_1_2:List SExpr) (A1_3_1_2:OA) (c1_3_1_2:Nat) (x1_3_2_0 x1_3_2_1:Int) (l1_3_2_2:List SExpr) (A1_3_2_2:OA) (c1_3_2_2:Nat) (l1_4:List SStmt) (A1_4:OA) (c1_4:Nat) (l1_5:List SStmt) (A1_5:OA) (c1_5:Nat) (x2:Int) (w0 wE:World) (LT:List Own) (hS:St w0 wE [bk bp0 #[(.slice Ap0_0 lp0_0.length cp0_0),(.slice Ap0_1 lp0_1.length cp0_1),vI sp0_2,.slice Ap0_3 lp0_3.length cp0_3] 77,ro Ap0_0 cp0_0 3 lp0_0,ro Ap0_1 cp0_1 42 lp0_1,Own.all LT]) (hZ:∀ w L,St w0 w (Own.all LT::L)→∀ w',Sub w w'→Z w') (hRp0_3:RdL w0 Ap0_3 lp0_3) (hLp0_3:lp0_3.length≤cp0_3) (hR1_2_2:RdZ Z A1_2_2 l1_2_2) (hL1_2_2:l1_2_2.length≤c1_2_2) (hR1_3_1_2:RdZ Z A1_3_1_2 l1_3_1_2) (hL1_3_1_2:l1_3_1_2.length≤c1_3_1_2) (hR1_3_2_2:RdZ Z A1_3_2_2 l1_3_2_2) (hL1_3_2_2:l1_3_2_2.length≤c1_3_2_2) (hR1_4:RdZ Z A1_4 l1_4) (hL1_4:l1_4.length≤c1_4) (hR1_5:RdZ Z A1_5 l1_5) (hL1_5:l1_5.length≤c1_5) (r:Int ⊕ ((List Int)×(List SPut)×Int)) (h:mr_stmt.b K rec_mr_list lp0_0 lp0_1 sp0_2 lp0_3 x1_0 x1_1 x1_2_0 x1_2_1 l1_2_2 x1_3_0 x1_3_1_0 x1_3_1_1 l1_3_1_2 x1_3_2_0 x1_3_2_1 l1_3_2_2 l1_4 l1_5 x2=some r) :
  Calls Try.prog 49 #[pP bp0 0,.agg #[vI x1_0,vI x1_1,vI x1_2_0,vI x1_2_1,.slice A1_2_2 l1_2_2.length c1_2_2,vI x1_3_0,vI x1_3_1_0,vI x1_3_1_1,.slice A1_3_1_2 l1_3_1_2.length c1_3_1_2,vI x1_3_2_0,vI x1_3_2_1,.slice A1_3_2_2 l1_3_2_2.length c1_3_2_2,.slice A1_4 l1_4.length c1_4,.slice A1_5 l1_5.length c1_5],vI x2] wE (mr_stmt.Post w0 Z bp0 lp0_0 Ap0_0 cp0_0 lp0_1 Ap0_1 cp0_1 sp0_2 lp0_3 Ap0_3 cp0_3 x1_0 x1_1 x1_2_0 x1_2_1 l1_2_2 A1_2_2 c1_2_2 x1_3_0 x1_3_1_0 x1_3_1_1 l1_3_1_2 A1_3_1_2 c1_3_1_2 x1_3_2_0 x1_3_2_1 l1_3_2_2 A1_3_2_2 c1_3_2_2 l1_4 A1_4 c1_4 l1_5 A1_5 c1_5 x2 LT r):=by
 unfold mr_stmt.b at h
 refine calls_enter (n:=124) (args:=[pP bp0 0,.agg #[vI x1_0,vI x1_1,vI x1_2_0,vI x1_2_1,.slice A1_2_2 l1_2_2.length c1_2_2,vI x1_3_0,vI x1_3_1_0,vI x1_3_1_1,.slice A1_3_1_2 l1_3_1_2.length c1_3_1_2,vI x1_3_2_0,vI x1_3_2_1,.slice A1_3_2_2 l1_3_2_2.length c1_3_2_2,.slice A1_4 l1_4.length c1_4,.slice A1_5 l1_5.length c1_5],vI x2]) (fn:=Try.f49) rfl rfl rfl rfl ?_
 show WE _ _ _ _ [(0,pP bp0 0),(1,.agg #[vI x1_0,vI x1_1,vI x1_2_0,vI x1_2_1,.slice A1_2_2 l1_2_2.length c1_2_2,vI x1_3_0,vI x1_3_1_0,vI x1_3_1_1,.slice A1_3_1_2 l1_3_1_2.length c1_3_1_2,vI x1_3_2_0,vI x1_3_2_1,.slice A1_3_2_2 l1_3_2_2.length c1_3_2_2,.slice A1_4 l1_4.length c1_4,.slice A1_5 l1_5.length c1_5]),(2,vI x2)] _
 refine ws fun K1 hK1=>wr [(0,1)]<|gw (some 4) (.cells #[vI x1_0,vI x1_1,vI x1_2_0,vI x1_2_1,.slice A1_2_2 l1_2_2.length c1_2_2,vI x1_3_0,vI x1_3_1_0,vI x1_3_1_1,.slice A1_3_1_2 l1_3_1_2.length c1_3_1_2,vI x1_3_2_0,vI x1_3_2_1,.slice A1_3_2_2 l1_3_2_2.length c1_3_2_2,.slice A1_4 l1_4.length c1_4,.slice A1_5 l1_5.length c1_5] 70) (fun b=>pP b 0) hS fun b1 w1 hx1 hS1=>?_
 refine gn hK1<|ws fun K2 hK2=>?_
 rcases hq1:mr_stmt.p0 sp0_2 x2 with _ | (_ | rr3)
 ·rw [hq1] at h; cases h
 ·rw [hq1] at h
  simp only [] at h
  refine kp (mr_stmt_p0 K w0 Z bp0 lp0_0 Ap0_0 cp0_0 lp0_1 Ap0_1 cp0_1 sp0_2 lp0_3 Ap0_3 cp0_3 x1_0 x1_1 x1_2_0 x1_2_1 l1_2_2 A1_2_2 c1_2_2 x1_3_0 x1_3_1_0 x1_3_1_1 l1_3_1_2 A1_3_1_2 c1_3_1_2 x1_3_2_0 x1_3_2_1 l1_3_2_2 A1_3_2_2 c1_3_2_2 l1_4 A1_4 c1_4 l1_5 A1_5 c1_5 x2 LT hZ hRp0_3 hLp0_3 hR1_2_2 hL1_2_2 hR1_3_1_2 hL1_3_1_2 hR1_3_2_2 hL1_3_2_2 hR1_4 hL1_4 hR1_5 hL1_5 rec_mr_list hr_mr_list b1 _ hq1 _ hS1 _ ?_)
  rintro _ a w2 ⟨rfl,hS9,hF⟩
  replace hS9:St w0 w2 [bk b1 #[vI x1_0,vI x1_1,vI x1_2_0,vI x1_2_1,.slice A1_2_2 l1_2_2.length c1_2_2,vI x1_3_0,vI x1_3_1_0,vI x1_3_1_1,.slice A1_3_1_2 l1_3_1_2.length c1_3_1_2,vI x1_3_2_0,vI x1_3_2_1,.slice A1_3_2_2 l1_3_2_2.length c1_3_2_2,.slice A1_4 l1_4.length c1_4,.slice A1_5 l1_5.length c1_5] 70,bk bp0 #[(.slice Ap0_0 lp0_0.length cp0_0),(.slice Ap0_1 lp0_1.length cp0_1),vI sp0_2,.slice Ap0_3 lp0_3.length cp0_3] 77,ro Ap0_0 cp0_0 3 lp0_0,ro Ap0_1 cp0_1 42 lp0_1,Own.all LT]:=hS9
  refine hK2 [(0,pP bp0 0),(2,vI x2),(4,pP b1 0)] w2 ?_ a hF
  refine ws fun K4 hK4=>wr [(0,0),(1,0),(2,0),(3,0),(4,0),(5,0),(6,0),(7,0),(8,0),(9,2)]<|gb [0,1,2,3,4,5,6,7,8] [(24,pP bp0 2),(23,pP bp0 0),(22,pP bp0 0),(21,vI (IntKind.i64.wrap (sp0_2+1))),(20,vI sp0_2),(19,pP bp0 2),(18,pP bp0 0),(17,pP bp0 0),(16,pP bp0 0)] [ld bp0 2 (vI sp0_2)] ⟨hS9.c 1,trivial⟩ ?_
  have hS10:=hS9.b 1
  refine gs bp0 2 #[(.slice Ap0_0 lp0_0.length cp0_0),(.slice Ap0_1 lp0_1.length cp0_1),vI sp0_2,.slice Ap0_3 lp0_3.length cp0_3] 77 [vI (IntKind.i64.wrap (sp0_2+1))] hS10 fun w3 hS11=>?_
  have hS12:=hS11.nc #[(.slice Ap0_0 lp0_0.length cp0_0),(.slice Ap0_1 lp0_1.length cp0_1),vI (IntKind.i64.wrap (sp0_2+1)),.slice Ap0_3 lp0_3.length cp0_3] (by kernel_rfl)
  refine gn hK4<|ws fun K5 hK5=>wr [(0,0),(1,0)]<|gb [0,1] [(26,vI x1_0),(25,pP b1 0)] [ld b1 0 (vI x1_0)] ⟨hS12.c 1,trivial⟩<|gn hK5<|we_block<|ws fun K6 hK6=>wr [(0,0),(1,0)]<|gb0 [0,1] [(27,.bool (x1_0==1)),(28,.bool (x1_0==1))]<|gn hK6 ?_
  by_cases hc2:x1_0=1
  ·rw [if_pos hc2] at h
   refine wk 27 (x1_0==1) true (beq_iff_eq.2 hc2)<|wt<|we_orders3 (by kernel_rfl) [(4,[⟨bp0,0,none⟩],[],[]),(6,[⟨b1,1,none⟩],[],[]),(9,[⟨b1,2,none⟩,⟨b1,3,none⟩,⟨b1,4,none⟩],[],[])] (.vals [0] (.vals [1] (.vals [2] (.vals [3] (.vals [4] (.vals [5] (.vals [6] (.vals [7] (.vals [8] (.vals [9] (.alt 10 2 (.vals [11] (.alt 12 2 .fin .nomore)) .nomore))))))))))) (by kernel_rfl) (by kernel_rfl) ?_
   have hS13:=hS12.drew
   refine g30 [0,1,2,3] [(32,pP bp0 0),(31,pP bp0 0),(30,pP bp0 0),(29,pP bp0 0)]<|g3 4 [(33,(.slice Ap0_0 lp0_0.length cp0_0))] [ld bp0 0 ((.slice Ap0_0 lp0_0.length cp0_0))] ⟨hS13.c 0,trivial⟩<|g30 [5] [(34,pP b1 1)]<|g3 6 [(35,vI x1_1)] [ld b1 1 (vI x1_1)] ⟨hS13.c 1,trivial⟩<|g30 [7,8] [(37,pP b1 2),(36,pP bp0 0)]<|g3 9 [(38,.agg #[vI x1_2_0,vI x1_2_1,.slice A1_2_2 l1_2_2.length c1_2_2])] [ld b1 2 (vI x1_2_0),ld b1 3 (vI x1_2_1),ld b1 4 (.slice A1_2_2 l1_2_2.length c1_2_2)] ⟨hS13.c 1,hS13.c 1,hS13.c 1,trivial⟩<|go_alt3 (fun KK hKK=>?_) ?_
   ·rcases hq2:mr_value.f K lp0_0 lp0_1 (IntKind.i64.wrap (sp0_2+1)) lp0_3 x1_2_0 x1_2_1 l1_2_2 with _ | r1
    ·rw [hq2] at h; cases h
    rw [hq2] at h
    simp only [] at h
    have hS18:=(((hS13.b 3).b 3).b 2).packN 3
    refine ge_call2 (m:=0) (d:=some 39) (f:=65) (args:=#[pP bp0 0,.agg #[vI x1_2_0,vI x1_2_1,.slice A1_2_2 l1_2_2.length c1_2_2]]) (by kernel_rfl) (mr_value_ok K Z bp0 lp0_0 Ap0_0 cp0_0 lp0_1 Ap0_1 cp0_1 (IntKind.i64.wrap (sp0_2+1)) lp0_3 Ap0_3 cp0_3 x1_2_0 x1_2_1 l1_2_2 A1_2_2 c1_2_2 _ _ _ hS18 (fun w L h w' k=>(hZ _ _ (h.spread.bring 1 rfl) w' k)) hRp0_3 hLp0_3 hR1_2_2 hL1_2_2 _ hq2) ?_
    rintro _ w4 ⟨rfl,hS17⟩
    refine ⟨_,rfl,?_⟩
    have hS19:=hS17.unpack [bk bp0 #[(.slice Ap0_0 lp0_0.length cp0_0),(.slice Ap0_1 lp0_1.length cp0_1),vI (IntKind.i64.wrap (sp0_2+1)),.slice Ap0_3 lp0_3.length cp0_3] 77,ro Ap0_0 cp0_0 3 lp0_0,ro Ap0_1 cp0_1 42 lp0_1]
    refine ge_nil fun a hF=>hKK _ _ (RS.of2 (l:=[ld bp0 0 ((.slice Ap0_0 lp0_0.length cp0_0)),ld b1 1 (vI x1_1)]) (by kernel_rfl) ⟨hS13.c 0,hS13.c 1,trivial⟩ ⟨hS19.c 0,hS19.c 3,trivial⟩) ?_ a hF
    by_cases hc3:0≤x1_1
    ·rw [if_pos hc3] at h
     rcases hx2:lp0_0[(x1_1).toNat]? with _ | e1
     ·rw [hx2] at h; cases h
     rw [hx2] at h
     simp only [] at h
     refine go3_index (d:=40) (ty:=0) (t:=23) (el:=3) (sz:=1) (m:=lp0_0.length) (c:=cp0_0) (x:=(.tmp 33)) (y:=(.tmp 35)) (A:=Ap0_0) (k':=.i64) (j:=x1_1) (jn:=((x1_1).toNat)) (b0:=blkOf Ap0_0) (o0:=offOf Ap0_0) (by kernel_rfl) (by kernel_rfl) (by kernel_rfl) (by kernel_rfl) (by kernel_rfl) ((hS19.rdAt 1 rfl).eqSome (pos_of_get hx2)) (Int.toNat_of_nonneg hc3).symm (lt_of_get hx2) ?_
     refine go_alt3 (fun KK hKK=>?_) ?_
     ·have hS20:=hS19.b 1
      refine ge_seti (α:=Int) (A:=Ap0_0) (nn:=lp0_0.length) (c:=cp0_0) (t:=3) (l:=lp0_0) (x:=e1) (x':=r1) (jn:=((x1_1).toNat)) (j:=0) (vs:=[vI r1]) (l':=[.stored ⟨blkOf Ap0_0,offOf Ap0_0+((x1_1).toNat)*1,none⟩ (vI r1)]) hS20 (by kernel_rfl) (by kernel_rfl) hx2 rfl rfl rfl fun w5 hS21=>?_
      have hS22:St w0 w5 [Own.of (.slice Ap0_0 lp0_0.length cp0_0) 3 (lp0_0.set ((x1_1).toNat) r1),bk bp0 #[(.slice Ap0_0 lp0_0.length cp0_0),(.slice Ap0_1 lp0_1.length cp0_1),vI (IntKind.i64.wrap (sp0_2+1)),.slice Ap0_3 lp0_3.length cp0_3] 77,ro Ap0_1 cp0_1 42 lp0_1,bk b1 #[vI x1_0,vI x1_1,vI x1_2_0,vI x1_2_1,.slice A1_2_2 l1_2_2.length c1_2_2,vI x1_3_0,vI x1_3_1_0,vI x1_3_1_1,.slice A1_3_1_2 l1_3_1_2.length c1_3_1_2,vI x1_3_2_0,vI x1_3_2_1,.slice A1_3_2_2 l1_3_2_2.length c1_3_2_2,.slice A1_4 l1_4.length c1_4,.slice A1_5 l1_5.length c1_5] 70,Own.all LT]:=hS21
      have hE1:lp0_0.length=(lp0_0.set ((x1_1).toNat) r1).length:=hS22.lenAt 0 rfl
      have hS23:St w0 w5 [Own.of (.slice Ap0_0 (lp0_0.set ((x1_1).toNat) r1).length cp0_0) 3 (lp0_0.set ((x1_1).toNat) r1),Own.blk bp0 (.cells #[(.slice Ap0_0 (lp0_0.set ((x1_1).toNat) r1).length cp0_0),(.slice Ap0_1 lp0_1.length cp0_1),vI (IntKind.i64.wrap (sp0_2+1)),.slice Ap0_3 lp0_3.length cp0_3] 77 (0,0)),Own.of (.slice Ap0_1 lp0_1.length cp0_1) 42 lp0_1,Own.blk b1 (.cells #[vI x1_0,vI x1_1,vI x1_2_0,vI x1_2_1,.slice A1_2_2 l1_2_2.length c1_2_2,vI x1_3_0,vI x1_3_1_0,vI x1_3_1_1,.slice A1_3_1_2 l1_3_1_2.length c1_3_1_2,vI x1_3_2_0,vI x1_3_2_1,.slice A1_3_2_2 l1_3_2_2.length c1_3_2_2,.slice A1_4 l1_4.length c1_4,.slice A1_5 l1_5.length c1_5] 70 (0,0)),Own.all LT]:=by rw [← hE1]; exact hS22
      refine ge_same (t:=33) (v:=(.slice Ap0_0 lp0_0.length cp0_0)) (v':=(.slice Ap0_0 (lp0_0.set ((x1_1).toNat) r1).length cp0_0)) (by kernel_rfl) (by rw [← hE1]) ?_
      refine g2 hKK ?_
      have hS28:=hS23.p [1,0,2,4] rfl
      obtain rfl:=si h
      exact go_fin3 (pe0 [] [] ⟨(.slice Ap0_0 (lp0_0.set ((x1_1).toNat) r1).length cp0_0),(.slice Ap0_1 lp0_1.length cp0_1),rfl,hS28⟩)
     exact go_nomore3
    rw [if_neg hc3] at h
    cases h
   exact go_nomore3
  rw [if_neg hc2] at h
  refine wk 27 (x1_0==1) false (beq_eq_false_iff_ne.2 hc2)<|wf<|ws fun K7 hK7=>wr [(0,0),(1,0)]<|gb0 [0,1] [(41,.bool (x1_0==2)),(42,.bool (x1_0==2))]<|gn hK7 ?_
  by_cases hc4:x1_0=2
  ·rw [if_pos hc4] at h
   refine wk 41 (x1_0==2) true (beq_iff_eq.2 hc4)<|wt<|we_orders3 (by kernel_rfl) [(5,[⟨bp0,1,none⟩],[],[]),(7,[⟨b1,1,none⟩],[12,13,14],[]),(10,[⟨b1,2,none⟩,⟨b1,3,none⟩,⟨b1,4,none⟩],[11,12,13,14],[])] (.vals [0] (.vals [1] (.vals [2] (.vals [3] (.vals [4] (.vals [5] (.vals [6] (.vals [7] (.vals [8] (.vals [9] (.vals [10] (.alt 11 2 (.vals [12] (.alt 13 1 (.alt 14 2 (.vals [15] (.vals [16] (.vals [17] (.alt 18 2 .fin .nomore)))) .nomore) .nomore)) .nomore)))))))))))) (by kernel_rfl) (by kernel_rfl) ?_
   have hS29:=hS12.drew
   refine g30 [0,1,2,3,4] [(47,pP bp0 1),(46,pP bp0 0),(45,pP bp0 0),(44,pP bp0 0),(43,pP bp0 0)]<|g3 5 [(48,(.slice Ap0_1 lp0_1.length cp0_1))] [ld bp0 1 ((.slice Ap0_1 lp0_1.length cp0_1))] ⟨hS29.c 0,trivial⟩<|g30 [6] [(49,pP b1 1)]<|g3 7 [(50,vI x1_1)] [ld b1 1 (vI x1_1)] ⟨hS29.c 1,trivial⟩<|g30 [8,9] [(52,pP b1 2),(51,pP bp0 0)]<|g3 10 [(53,.agg #[vI x1_2_0,vI x1_2_1,.slice A1_2_2 l1_2_2.length c1_2_2])] [ld b1 2 (vI x1_2_0),ld b1 3 (vI x1_2_1),ld b1 4 (.slice A1_2_2 l1_2_2.length c1_2_2)] ⟨hS29.c 1,hS29.c 1,hS29.c 1,trivial⟩<|go_alt3 (fun KK hKK=>?_) ?_
   ·rcases hq3:mr_value.f K lp0_0 lp0_1 (IntKind.i64.wrap (sp0_2+1)) lp0_3 x1_2_0 x1_2_1 l1_2_2 with _ | r2
    ·rw [hq3] at h; cases h
    rw [hq3] at h
    simp only [] at h
    have hS34:=(((hS29.b 3).b 3).b 2).packN 3
    refine ge_call2 (m:=0) (d:=some 54) (f:=65) (args:=#[pP bp0 0,.agg #[vI x1_2_0,vI x1_2_1,.slice A1_2_2 l1_2_2.length c1_2_2]]) (by kernel_rfl) (mr_value_ok K Z bp0 lp0_0 Ap0_0 cp0_0 lp0_1 Ap0_1 cp0_1 (IntKind.i64.wrap (sp0_2+1)) lp0_3 Ap0_3 cp0_3 x1_2_0 x1_2_1 l1_2_2 A1_2_2 c1_2_2 _ _ _ hS34 (fun w L h w' k=>(hZ _ _ (h.spread.bring 1 rfl) w' k)) hRp0_3 hLp0_3 hR1_2_2 hL1_2_2 _ hq3) ?_
    rintro _ w6 ⟨rfl,hS33⟩
    refine ⟨_,rfl,?_⟩
    have hS35:=hS33.unpack [bk bp0 #[(.slice Ap0_0 lp0_0.length cp0_0),(.slice Ap0_1 lp0_1.length cp0_1),vI (IntKind.i64.wrap (sp0_2+1)),.slice Ap0_3 lp0_3.length cp0_3] 77,ro Ap0_0 cp0_0 3 lp0_0,ro Ap0_1 cp0_1 42 lp0_1]
    refine ge_nil fun a hF=>hKK _ _ (RS.of2 (l:=[ld bp0 1 ((.slice Ap0_1 lp0_1.length cp0_1)),ld b1 1 (vI x1_1)]) (by kernel_rfl) ⟨hS29.c 0,hS29.c 1,trivial⟩ ⟨hS35.c 0,hS35.c 3,trivial⟩) ?_ a hF
    refine g30 [12] [(55,.agg #[vI x1_1,vI r2])]<|go_alt3 (fun KK hKK=>?_) ?_
    ·refine ge_one2<|gw (some 56) (.cells #[vI x1_1,vI r2] 42) (fun b=>.slice (some ⟨b,0,none⟩) 1 1) hS35 fun b2 w7 hx3 hS36=>?_
     refine ge_nil fun a hF=>hKK _ _ (RS.of2 (l:=[ld bp0 1 ((.slice Ap0_1 lp0_1.length cp0_1))]) (by kernel_rfl) ⟨hS35.c 0,trivial⟩ ⟨hS36.c 1,trivial⟩) ?_ a hF
     refine go_alt3 (fun KK hKK=>?_) ?_
     ·have hS37:=hS36.b 3
      by_cases hc5:lp0_1.length<8796093022208
      ·rw [if_pos hc5] at h
       refine ge_append (α:=SPut) (m:=0) (d:=57) (t:=26) (el:=42) (bytes:=16) (c1:=1) (b1:=b2) (x:=(.tmp 48)) (y:=(.tmp 56)) (ty:=26) (v:=(.slice Ap0_1 lp0_1.length cp0_1)) (z:=.agg #[vI 0,vI 0]) (l:=lp0_1) (u:=(⟨x1_1,r2⟩:SPut)) (by kernel_rfl) (by kernel_rfl) (by kernel_rfl) (by kernel_rfl) (by kernel_rfl) rfl hS37 rfl (by omega) fun v1 w8 hS38=>?_
       refine g2 hKK<|g30 [15,16,17] [(60,pP bp0 1),(59,pP bp0 0),(58,pP bp0 0)]<|go_alt3 (fun KK hKK=>?_) ?_
       ·obtain ⟨Z1,cz1,rfl⟩:=hS38.open 0 rfl
        have hS39:=hS38.b 1
        refine gs bp0 1 #[(.slice Ap0_0 lp0_0.length cp0_0),(.slice Ap0_1 lp0_1.length cp0_1),vI (IntKind.i64.wrap (sp0_2+1)),.slice Ap0_3 lp0_3.length cp0_3] 77 [(.slice Z1 (lp0_1++[(⟨x1_1,r2⟩:SPut)]).length cz1)] hS39 fun w9 hS40=>?_
        have hS41:=hS40.nc #[(.slice Ap0_0 lp0_0.length cp0_0),(.slice Z1 (lp0_1++[(⟨x1_1,r2⟩:SPut)]).length cz1),vI (IntKind.i64.wrap (sp0_2+1)),.slice Ap0_3 lp0_3.length cp0_3] (by kernel_rfl)
        refine g2 hKK ?_
        have hS46:=hS41.p [0,2,1,4] rfl
        obtain rfl:=si h
        exact go_fin3 (pe0 [] [] ⟨(.slice Ap0_0 lp0_0.length cp0_0),(.slice Z1 (lp0_1++[(⟨x1_1,r2⟩:SPut)]).length cz1),rfl,hS46⟩)
       exact go_nomore3
      rw [if_neg hc5] at h
      cases h
     exact go_nomore3
    exact go_nomore3
   exact go_nomore3
  rw [if_neg hc4] at h
  refine wk 41 (x1_0==2) false (beq_eq_false_iff_ne.2 hc4)<|wf<|ws fun K8 hK8=>wr [(0,0),(1,0)]<|gb0 [0,1] [(61,.bool (x1_0==3)),(62,.bool (x1_0==3))]<|gn hK8 ?_
  by_cases hc6:x1_0=3
  ·rw [if_pos hc6] at h
   refine wk 61 (x1_0==3) true (beq_iff_eq.2 hc6)<|wt<|ws fun K9 hK9=>wr [(0,0),(1,0),(2,0),(3,2)]<|gb [0,1,2] [(65,.agg #[vI x1_3_0,vI x1_3_1_0,vI x1_3_1_1,.slice A1_3_1_2 l1_3_1_2.length c1_3_1_2,vI x1_3_2_0,vI x1_3_2_1,.slice A1_3_2_2 l1_3_2_2.length c1_3_2_2]),(64,pP b1 5),(63,pP bp0 0)] [ld b1 5 (vI x1_3_0),ld b1 6 (vI x1_3_1_0),ld b1 7 (vI x1_3_1_1),ld b1 8 (.slice A1_3_1_2 l1_3_1_2.length c1_3_1_2),ld b1 9 (vI x1_3_2_0),ld b1 10 (vI x1_3_2_1),ld b1 11 (.slice A1_3_2_2 l1_3_2_2.length c1_3_2_2)] ⟨hS12.c 1,hS12.c 1,hS12.c 1,hS12.c 1,hS12.c 1,hS12.c 1,hS12.c 1,trivial⟩ ?_
   rcases hq4:mr_holds.f K lp0_0 lp0_1 (IntKind.i64.wrap (sp0_2+1)) lp0_3 x1_3_0 x1_3_1_0 x1_3_1_1 l1_3_1_2 x1_3_2_0 x1_3_2_1 l1_3_2_2 with _ | r3
   ·rw [hq4] at h; cases h
   rw [hq4] at h
   simp only [] at h
   have hS51:=(((hS12.b 3).b 3).b 2).packN 3
   refine ge_call2 (m:=0) (d:=some 66) (f:=66) (args:=#[pP bp0 0,.agg #[vI x1_3_0,vI x1_3_1_0,vI x1_3_1_1,.slice A1_3_1_2 l1_3_1_2.length c1_3_1_2,vI x1_3_2_0,vI x1_3_2_1,.slice A1_3_2_2 l1_3_2_2.length c1_3_2_2]]) (by kernel_rfl) (mr_holds_ok K Z bp0 lp0_0 Ap0_0 cp0_0 lp0_1 Ap0_1 cp0_1 (IntKind.i64.wrap (sp0_2+1)) lp0_3 Ap0_3 cp0_3 x1_3_0 x1_3_1_0 x1_3_1_1 l1_3_1_2 A1_3_1_2 c1_3_1_2 x1_3_2_0 x1_3_2_1 l1_3_2_2 A1_3_2_2 c1_3_2_2 _ _ _ hS51 (fun w L h w' k=>(hZ _ _ (h.spread.bring 1 rfl) w' k)) hRp0_3 hLp0_3 hR1_3_1_2 hL1_3_1_2 hR1_3_2_2 hL1_3_2_2 _ hq4) ?_
   rintro _ w10 ⟨rfl,hS50⟩
   refine ⟨_,rfl,?_⟩
   have hS52:=hS50.unpack [bk bp0 #[(.slice Ap0_0 lp0_0.length cp0_0),(.slice Ap0_1 lp0_1.length cp0_1),vI (IntKind.i64.wrap (sp0_2+1)),.slice Ap0_3 lp0_3.length cp0_3] 77,ro Ap0_0 cp0_0 3 lp0_0,ro Ap0_1 cp0_1 42 lp0_1]
   refine gn hK9 ?_
   by_cases hc7:r3=true
   ·rw [if_pos hc7] at h
    refine wk 66 r3 true hc7<|wt<|wr [(0,0),(1,0),(2,0),(3,0),(4,0),(5,2)]<|gb [0,1,2,3,4] [(71,vI (IntKind.i64.wrap (x2+1))),(70,vI x2),(69,.slice A1_4 l1_4.length c1_4),(68,pP b1 12),(67,pP bp0 0)] [ld b1 12 (.slice A1_4 l1_4.length c1_4)] ⟨hS52.c 3,trivial⟩ ?_
    rcases hq5:rec_mr_list lp0_0 lp0_1 (IntKind.i64.wrap (sp0_2+1)) lp0_3 l1_4 (IntKind.i64.wrap (x2+1)) with _ | r4
    ·rw [hq5] at h; cases h
    rw [hq5] at h
    rcases r4 with p1 | r4
    ·try simp only [] at h
     have hS57:=(((hS52.b 2).b 2).b 2).packN 3
     refine ge_callP (m:=0) (d:=some 72) (f:=36) (args:=#[pP bp0 0,.slice A1_4 l1_4.length c1_4,vI (IntKind.i64.wrap (x2+1))]) (by kernel_rfl) (hr_mr_list Z bp0 lp0_0 Ap0_0 cp0_0 lp0_1 Ap0_1 cp0_1 (IntKind.i64.wrap (sp0_2+1)) lp0_3 Ap0_3 cp0_3 l1_4 A1_4 c1_4 (IntKind.i64.wrap (x2+1)) _ _ _ hS57 (fun w L h w' k=>(hZ _ _ (h.spread.bring 1 rfl) w' k)) hRp0_3 hLp0_3 hR1_4 hL1_4 _ hq5) ?_
     rintro _ w11 ⟨rfl,hS56⟩
     have hS66:=((hS56.unpack []).b 1).takeN 1
     obtain rfl:=si h
     exact .inr ⟨_,rfl,fun a hF=>(post_panic (P:=Try.prog) (fn:=Try.f49) ⟨rfl,hS66⟩ a hF)⟩
    try simp only [] at h
    have hS57:=(((hS52.b 2).b 2).b 2).packN 3
    refine ge_callP (m:=0) (d:=some 72) (f:=36) (args:=#[pP bp0 0,.slice A1_4 l1_4.length c1_4,vI (IntKind.i64.wrap (x2+1))]) (by kernel_rfl) (hr_mr_list Z bp0 lp0_0 Ap0_0 cp0_0 lp0_1 Ap0_1 cp0_1 (IntKind.i64.wrap (sp0_2+1)) lp0_3 Ap0_3 cp0_3 l1_4 A1_4 c1_4 (IntKind.i64.wrap (x2+1)) _ _ _ hS57 (fun w L h w' k=>(hZ _ _ (h.spread.bring 1 rfl) w' k)) hRp0_3 hLp0_3 hR1_4 hL1_4 _ hq5) ?_
    rintro _ w11 ⟨v2,v3,rfl,hS56⟩
    refine .inl ⟨_,rfl,?_⟩
    have hS63:=(((((hS56.unpack [bk bp0 #[v2,v3,vI r4.2.2,.slice Ap0_3 lp0_3.length cp0_3] 77,Own.of v2 3 r4.1,Own.of v3 42 r4.2.1]).b 4).b 3).b 3).b 3).takeN 4
    obtain rfl:=si h
    exact ge_nil (pe0 [] [] ⟨v2,v3,rfl,hS63⟩)
   rw [if_neg hc7] at h
   refine wk 66 r3 false (Bool.eq_false_iff.2 hc7)<|wf<|we_orders3P (by kernel_rfl) [(2,[⟨b1,13,none⟩],[],[]),(6,[⟨b1,12,none⟩],[7,8,9],[])] (.vals [0] (.vals [1] (.vals [2] (.vals [3] (.vals [4] (.vals [5] (.vals [6] (.alt 7 1 (.vals [8] (.alt 9 2 .fin .nomore)) .nomore)))))))) (by kernel_rfl) (by kernel_rfl) (fun c a w d v h=>post_put (P:=Try.prog) (fn:=Try.f49) h) ?_
   have hS67:=hS52.drew
   refine g30 [0,1] [(74,pP b1 13),(73,pP bp0 0)]<|g3 2 [(75,.slice A1_5 l1_5.length c1_5)] [ld b1 13 (.slice A1_5 l1_5.length c1_5)] ⟨hS67.c 3,trivial⟩<|g30 [3,4,5] [(78,pP b1 12),(77,vI (IntKind.i64.wrap (x2+1))),(76,vI x2)]<|g3 6 [(79,.slice A1_4 l1_4.length c1_4)] [ld b1 12 (.slice A1_4 l1_4.length c1_4)] ⟨hS67.c 3,trivial⟩<|go_alt3 (fun KK hKK=>?_) ?_
   ·refine ge_one2 ?_
    rcases hq6:tongue_Count.f K l1_4 with _ | r5
    ·rw [hq6] at h; cases h
    rw [hq6] at h
    simp only [] at h
    refine ge_call (d:=some 80) (f:=47) (args:=#[.slice A1_4 l1_4.length c1_4]) (by kernel_rfl) (tongue_Count_ok K Z l1_4 A1_4 c1_4 _ (fun w' k=>(hZ _ _ (hS67.bring 4 rfl) w' k)) hR1_4 hL1_4 _ hq6) ?_
    rintro _ w12 ⟨rfl,hS68⟩
    refine ⟨_,rfl,hS68.below,?_⟩
    have hS69:=hS67.call hS68
    refine ge_nil fun a hF=>hKK _ _ (RS.of2 (l:=[ld b1 13 (.slice A1_5 l1_5.length c1_5)]) (by kernel_rfl) ⟨hS67.c 3,trivial⟩ ⟨hS69.c 3,trivial⟩) ?_ a hF
    refine g30 [8] [(81,vI (IntKind.i64.wrap ((IntKind.i64.wrap (x2+1))+r5)))]<|go_alt3 (fun KK hKK=>?_) ?_
    ·rcases hq7:rec_mr_list lp0_0 lp0_1 (IntKind.i64.wrap (sp0_2+1)) lp0_3 l1_5 (IntKind.i64.wrap ((IntKind.i64.wrap (x2+1))+r5)) with _ | r6
     ·rw [hq7] at h; cases h
     rw [hq7] at h
     rcases r6 with p2 | r6
     ·try simp only [] at h
      have hS74:=(((hS69.b 2).b 2).b 2).packN 3
      refine ge_callP (m:=0) (d:=some 82) (f:=36) (args:=#[pP bp0 0,.slice A1_5 l1_5.length c1_5,vI (IntKind.i64.wrap ((IntKind.i64.wrap (x2+1))+r5))]) (by kernel_rfl) (hr_mr_list Z bp0 lp0_0 Ap0_0 cp0_0 lp0_1 Ap0_1 cp0_1 (IntKind.i64.wrap (sp0_2+1)) lp0_3 Ap0_3 cp0_3 l1_5 A1_5 c1_5 (IntKind.i64.wrap ((IntKind.i64.wrap (x2+1))+r5)) _ _ _ hS74 (fun w L h w' k=>(hZ _ _ (h.spread.bring 1 rfl) w' k)) hRp0_3 hLp0_3 hR1_5 hL1_5 _ hq7) ?_
      rintro _ w13 ⟨rfl,hS73⟩
      have hS83:=((hS73.unpack []).b 1).takeN 1
      obtain rfl:=si h
      exact .inr ⟨_,rfl,fun a hF=>(post_panic (P:=Try.prog) (fn:=Try.f49) ⟨rfl,hS83⟩ a hF)⟩
     try simp only [] at h
     have hS74:=(((hS69.b 2).b 2).b 2).packN 3
     refine ge_callP (m:=0) (d:=some 82) (f:=36) (args:=#[pP bp0 0,.slice A1_5 l1_5.length c1_5,vI (IntKind.i64.wrap ((IntKind.i64.wrap (x2+1))+r5))]) (by kernel_rfl) (hr_mr_list Z bp0 lp0_0 Ap0_0 cp0_0 lp0_1 Ap0_1 cp0_1 (IntKind.i64.wrap (sp0_2+1)) lp0_3 Ap0_3 cp0_3 l1_5 A1_5 c1_5 (IntKind.i64.wrap ((IntKind.i64.wrap (x2+1))+r5)) _ _ _ hS74 (fun w L h w' k=>(hZ _ _ (h.spread.bring 1 rfl) w' k)) hRp0_3 hLp0_3 hR1_5 hL1_5 _ hq7) ?_
     rintro _ w13 ⟨v4,v5,rfl,hS73⟩
     refine .inl ⟨_,rfl,?_⟩
     have hS75:=hS73.unpack [bk bp0 #[v4,v5,vI r6.2.2,.slice Ap0_3 lp0_3.length cp0_3] 77,Own.of v4 3 r6.1,Own.of v5 42 r6.2.1]
     refine g2 hKK ?_
     have hS80:=hS75.p [0,1,2,4] rfl
     obtain rfl:=si h
     exact go_fin3 (pe0 [] [] ⟨v4,v5,rfl,hS80⟩)
    exact go_nomore3
   exact go_nomore3
  rw [if_neg hc6] at h
  refine wk 61 (x1_0==3) false (beq_eq_false_iff_ne.2 hc6)<|wf<|ws fun K10 hK10=>wr [(0,0),(1,0)]<|gb0 [0,1] [(83,.bool (x1_0==4)),(84,.bool (x1_0==4))]<|gn hK10 ?_
  by_cases hc8:x1_0=4
  ·rw [if_pos hc8] at h
   refine wk 83 (x1_0==4) true (beq_iff_eq.2 hc8)<|wt<|ws fun K11 hK11=>wr [(0,0),(1,0),(2,0)]<|gb [0,1,2] [(87,vI 0),(86,vI x1_1),(85,pP b1 1)] [ld b1 1 (vI x1_1)] ⟨hS12.c 1,trivial⟩<|gn hK11<|we_block ?_
   have hS88:=((((hS12.b 4).b 4).b 4).b 4).b 4
   rcases hq9:iter (mr_stmt.r1 lp0_3 x1_1 l1_4 x2 rec_mr_list) K (0,lp0_0,lp0_1,IntKind.i64.wrap (sp0_2+1)) with _ | (⟨m5,m6,z4⟩ | rr1)
   ·rw [hq9] at h; cases h
   ·rw [hq9] at h
    simp only [] at h
    refine we_iter (A:=mr_stmt.A1 w0 bp0 lp0_3 Ap0_3 cp0_3 x1_0 x1_1 x1_2_0 x1_2_1 l1_2_2 A1_2_2 c1_2_2 x1_3_0 x1_3_1_0 x1_3_1_1 l1_3_1_2 A1_3_1_2 c1_3_1_2 x1_3_2_0 x1_3_2_1 l1_3_2_2 A1_3_2_2 c1_3_2_2 l1_4 A1_4 c1_4 l1_5 A1_5 c1_5 x2 LT b1) (B:=mr_stmt.B1 w0 Z bp0 lp0_0 Ap0_0 cp0_0 lp0_1 Ap0_1 cp0_1 sp0_2 lp0_3 Ap0_3 cp0_3 x1_0 x1_1 x1_2_0 x1_2_1 l1_2_2 A1_2_2 c1_2_2 x1_3_0 x1_3_1_0 x1_3_1_1 l1_3_1_2 A1_3_1_2 c1_3_1_2 x1_3_2_0 x1_3_2_1 l1_3_2_2 A1_3_2_2 c1_3_2_2 l1_4 A1_4 c1_4 l1_5 A1_5 c1_5 x2 LT) hq9 (fun a hF=>⟨(.slice Ap0_0 lp0_0.length cp0_0),(.slice Ap0_1 lp0_1.length cp0_1),hS88,hF.weaken ea⟩) (fun s o hf a w hA Q hQ=>mr_stmt_r1 K w0 Z bp0 lp0_0 Ap0_0 cp0_0 lp0_1 Ap0_1 cp0_1 sp0_2 lp0_3 Ap0_3 cp0_3 x1_0 x1_1 x1_2_0 x1_2_1 l1_2_2 A1_2_2 c1_2_2 x1_3_0 x1_3_1_0 x1_3_1_1 l1_3_1_2 A1_3_1_2 c1_3_1_2 x1_3_2_0 x1_3_2_1 l1_3_2_2 A1_3_2_2 c1_3_2_2 l1_4 A1_4 c1_4 l1_5 A1_5 c1_5 x2 LT hZ hRp0_3 hLp0_3 hR1_2_2 hL1_2_2 hR1_3_1_2 hL1_3_1_2 hR1_3_2_2 hL1_3_2_2 hR1_4 hL1_4 hR1_5 hL1_5 rec_mr_list hr_mr_list b1 hc2 hc4 hc6 hc8 s o hf a w hA Q hQ) ?_
    rintro _ a w15 _ ⟨rfl,v12,v13,hS108,hF⟩
    replace hS108:St w0 w15 [bk bp0 #[v12,v13,vI z4,.slice Ap0_3 lp0_3.length cp0_3] 77,Own.of v12 3 m5,Own.of v13 42 m6,Own.all LT]:=hS108
    have hS112:=(((hS108.b 3).b 3).b 3).b 3
    obtain rfl:=si h
    exact (pe0 [] [] ⟨v12,v13,rfl,hS112⟩) a hF
   rw [hq9] at h
   simp only [] at h
   refine we_iter (A:=mr_stmt.A1 w0 bp0 lp0_3 Ap0_3 cp0_3 x1_0 x1_1 x1_2_0 x1_2_1 l1_2_2 A1_2_2 c1_2_2 x1_3_0 x1_3_1_0 x1_3_1_1 l1_3_1_2 A1_3_1_2 c1_3_1_2 x1_3_2_0 x1_3_2_1 l1_3_2_2 A1_3_2_2 c1_3_2_2 l1_4 A1_4 c1_4 l1_5 A1_5 c1_5 x2 LT b1) (B:=mr_stmt.B1 w0 Z bp0 lp0_0 Ap0_0 cp0_0 lp0_1 Ap0_1 cp0_1 sp0_2 lp0_3 Ap0_3 cp0_3 x1_0 x1_1 x1_2_0 x1_2_1 l1_2_2 A1_2_2 c1_2_2 x1_3_0 x1_3_1_0 x1_3_1_1 l1_3_1_2 A1_3_1_2 c1_3_1_2 x1_3_2_0 x1_3_2_1 l1_3_2_2 A1_3_2_2 c1_3_2_2 l1_4 A1_4 c1_4 l1_5 A1_5 c1_5 x2 LT) hq9 (fun a hF=>⟨(.slice Ap0_0 lp0_0.length cp0_0),(.slice Ap0_1 lp0_1.length cp0_1),hS88,hF.weaken ea⟩) (fun s o hf a w hA Q hQ=>mr_stmt_r1 K w0 Z bp0 lp0_0 Ap0_0 cp0_0 lp0_1 Ap0_1 cp0_1 sp0_2 lp0_3 Ap0_3 cp0_3 x1_0 x1_1 x1_2_0 x1_2_1 l1_2_2 A1_2_2 c1_2_2 x1_3_0 x1_3_1_0 x1_3_1_1 l1_3_1_2 A1_3_1_2 c1_3_1_2 x1_3_2_0 x1_3_2_1 l1_3_2_2 A1_3_2_2 c1_3_2_2 l1_4 A1_4 c1_4 l1_5 A1_5 c1_5 x2 LT hZ hRp0_3 hLp0_3 hR1_2_2 hL1_2_2 hR1_3_1_2 hL1_3_1_2 hR1_3_2_2 hL1_3_2_2 hR1_4 hL1_4 hR1_5 hL1_5 rec_mr_list hr_mr_list b1 hc2 hc4 hc6 hc8 s o hf a w hA Q hQ) ?_
   rintro _ a w1 _ ⟨hx,hb⟩
   obtain rfl:=si h
   rcases hx with rfl | ⟨cc,rfl⟩
   ·exact hb
   exact hb
  rw [if_neg hc8] at h
  refine wk 83 (x1_0==4) false (beq_eq_false_iff_ne.2 hc8)<|wf<|ws fun K15 hK15=>wr [(0,0),(1,0)]<|gb0 [0,1] [(96,.bool (x1_0==5)),(97,.bool (x1_0==5))]<|gn hK15 ?_
  by_cases hc10:x1_0=5
  ·rw [if_pos hc10] at h
   refine wk 96 (x1_0==5) true (beq_iff_eq.2 hc10)<|wt<|ws fun K16 hK16=>wr [(0,0)]<|gb0 [0] [(6,vI 0)]<|gn hK16<|we_block ?_
   have hS117:=((((hS12.b 4).b 4).b 4).b 4).b 4
   rcases hq12:iter (mr_stmt.r2 K lp0_3 x1_1 x1_3_0 x1_3_1_0 x1_3_1_1 l1_3_1_2 x1_3_2_0 x1_3_2_1 l1_3_2_2 l1_4 x2 rec_mr_list) K (0,lp0_0,lp0_1,IntKind.i64.wrap (sp0_2+1)) with _ | (⟨m11,m12,z8⟩ | rr2)
   ·rw [hq12] at h; cases h
   ·rw [hq12] at h
    simp only [] at h
    refine we_iter (A:=mr_stmt.A2 w0 bp0 lp0_3 Ap0_3 cp0_3 x1_0 x1_1 x1_2_0 x1_2_1 l1_2_2 A1_2_2 c1_2_2 x1_3_0 x1_3_1_0 x1_3_1_1 l1_3_1_2 A1_3_1_2 c1_3_1_2 x1_3_2_0 x1_3_2_1 l1_3_2_2 A1_3_2_2 c1_3_2_2 l1_4 A1_4 c1_4 l1_5 A1_5 c1_5 x2 LT b1) (B:=mr_stmt.B2 w0 Z bp0 lp0_0 Ap0_0 cp0_0 lp0_1 Ap0_1 cp0_1 sp0_2 lp0_3 Ap0_3 cp0_3 x1_0 x1_1 x1_2_0 x1_2_1 l1_2_2 A1_2_2 c1_2_2 x1_3_0 x1_3_1_0 x1_3_1_1 l1_3_1_2 A1_3_1_2 c1_3_1_2 x1_3_2_0 x1_3_2_1 l1_3_2_2 A1_3_2_2 c1_3_2_2 l1_4 A1_4 c1_4 l1_5 A1_5 c1_5 x2 LT) hq12 (fun a hF=>⟨(.slice Ap0_0 lp0_0.length cp0_0),(.slice Ap0_1 lp0_1.length cp0_1),hS117,hF.weaken ea⟩) (fun s o hf a w hA Q hQ=>mr_stmt_r2 K w0 Z bp0 lp0_0 Ap0_0 cp0_0 lp0_1 Ap0_1 cp0_1 sp0_2 lp0_3 Ap0_3 cp0_3 x1_0 x1_1 x1_2_0 x1_2_1 l1_2_2 A1_2_2 c1_2_2 x1_3_0 x1_3_1_0 x1_3_1_1 l1_3_1_2 A1_3_1_2 c1_3_1_2 x1_3_2_0 x1_3_2_1 l1_3_2_2 A1_3_2_2 c1_3_2_2 l1_4 A1_4 c1_4 l1_5 A1_5 c1_5 x2 LT hZ hRp0_3 hLp0_3 hR1_2_2 hL1_2_2 hR1_3_1_2 hL1_3_1_2 hR1_3_2_2 hL1_3_2_2 hR1_4 hL1_4 hR1_5 hL1_5 rec_mr_list hr_mr_list b1 hc2 hc4 hc6 hc8 hc10 s o hf a w hA Q hQ) ?_
    rintro _ a w18 _ ⟨rfl,v20,v21,hS148,hF⟩
    replace hS148:St w0 w18 [bk bp0 #[v20,v21,vI z8,.slice Ap0_3 lp0_3.length cp0_3] 77,Own.of v20 3 m11,Own.of v21 42 m12,Own.all LT]:=hS148
    have hS152:=(((hS148.b 3).b 3).b 3).b 3
    obtain rfl:=si h
    exact (pe0 [] [] ⟨v20,v21,rfl,hS152⟩) a hF
   rw [hq12] at h
   simp only [] at h
   refine we_iter (A:=mr_stmt.A2 w0 bp0 lp0_3 Ap0_3 cp0_3 x1_0 x1_1 x1_2_0 x1_2_1 l1_2_2 A1_2_2 c1_2_2 x1_3_0 x1_3_1_0 x1_3_1_1 l1_3_1_2 A1_3_1_2 c1_3_1_2 x1_3_2_0 x1_3_2_1 l1_3_2_2 A1_3_2_2 c1_3_2_2 l1_4 A1_4 c1_4 l1_5 A1_5 c1_5 x2 LT b1) (B:=mr_stmt.B2 w0 Z bp0 lp0_0 Ap0_0 cp0_0 lp0_1 Ap0_1 cp0_1 sp0_2 lp0_3 Ap0_3 cp0_3 x1_0 x1_1 x1_2_0 x1_2_1 l1_2_2 A1_2_2 c1_2_2 x1_3_0 x1_3_1_0 x1_3_1_1 l1_3_1_2 A1_3_1_2 c1_3_1_2 x1_3_2_0 x1_3_2_1 l1_3_2_2 A1_3_2_2 c1_3_2_2 l1_4 A1_4 c1_4 l1_5 A1_5 c1_5 x2 LT) hq12 (fun a hF=>⟨(.slice Ap0_0 lp0_0.length cp0_0),(.slice Ap0_1 lp0_1.length cp0_1),hS117,hF.weaken ea⟩) (fun s o hf a w hA Q hQ=>mr_stmt_r2 K w0 Z bp0 lp0_0 Ap0_0 cp0_0 lp0_1 Ap0_1 cp0_1 sp0_2 lp0_3 Ap0_3 cp0_3 x1_0 x1_1 x1_2_0 x1_2_1 l1_2_2 A1_2_2 c1_2_2 x1_3_0 x1_3_1_0 x1_3_1_1 l1_3_1_2 A1_3_1_2 c1_3_1_2 x1_3_2_0 x1_3_2_1 l1_3_2_2 A1_3_2_2 c1_3_2_2 l1_4 A1_4 c1_4 l1_5 A1_5 c1_5 x2 LT hZ hRp0_3 hLp0_3 hR1_2_2 hL1_2_2 hR1_3_1_2 hL1_3_1_2 hR1_3_2_2 hL1_3_2_2 hR1_4 hL1_4 hR1_5 hL1_5 rec_mr_list hr_mr_list b1 hc2 hc4 hc6 hc8 hc10 s o hf a w hA Q hQ) ?_
   rintro _ a w1 _ ⟨hx,hb⟩
   obtain rfl:=si h
   rcases hx with rfl | ⟨cc,rfl⟩
   ·exact hb
   exact hb
  rw [if_neg hc10] at h
  refine wk 96 (x1_0==5) false (beq_eq_false_iff_ne.2 hc10)<|wf<|ws fun K20 hK20=>wr [(0,0),(1,0)]<|gb0 [0,1] [(116,.bool (x1_0==6)),(117,.bool (x1_0==6))]<|gn hK20 ?_
  by_cases hc13:x1_0=6
  ·rw [if_pos hc13] at h
   refine wk 116 (x1_0==6) true (beq_iff_eq.2 hc13)<|wt<|wr [(0,0),(1,0),(2,0),(3,0),(4,0),(5,2)]<|gb [0,1,2,3,4] [(122,vI (IntKind.i64.wrap (x2+1))),(121,vI x2),(120,.slice A1_4 l1_4.length c1_4),(119,pP b1 12),(118,pP bp0 0)] [ld b1 12 (.slice A1_4 l1_4.length c1_4)] ⟨hS12.c 1,trivial⟩ ?_
   rcases hq13:rec_mr_list lp0_0 lp0_1 (IntKind.i64.wrap (sp0_2+1)) lp0_3 l1_4 (IntKind.i64.wrap (x2+1)) with _ | r10
   ·rw [hq13] at h; cases h
   rw [hq13] at h
   rcases r10 with p5 | r10
   ·try simp only [] at h
    have hS157:=(((hS12.b 3).b 3).b 2).packN 3
    refine ge_callP (m:=0) (d:=some 123) (f:=36) (args:=#[pP bp0 0,.slice A1_4 l1_4.length c1_4,vI (IntKind.i64.wrap (x2+1))]) (by kernel_rfl) (hr_mr_list Z bp0 lp0_0 Ap0_0 cp0_0 lp0_1 Ap0_1 cp0_1 (IntKind.i64.wrap (sp0_2+1)) lp0_3 Ap0_3 cp0_3 l1_4 A1_4 c1_4 (IntKind.i64.wrap (x2+1)) _ _ _ hS157 (fun w L h w' k=>(hZ _ _ (h.spread.bring 1 rfl) w' k)) hRp0_3 hLp0_3 hR1_4 hL1_4 _ hq13) ?_
    rintro _ w19 ⟨rfl,hS156⟩
    have hS166:=((hS156.unpack []).b 1).takeN 1
    obtain rfl:=si h
    exact .inr ⟨_,rfl,fun a hF=>(post_panic (P:=Try.prog) (fn:=Try.f49) ⟨rfl,hS166⟩ a hF)⟩
   try simp only [] at h
   have hS157:=(((hS12.b 3).b 3).b 2).packN 3
   refine ge_callP (m:=0) (d:=some 123) (f:=36) (args:=#[pP bp0 0,.slice A1_4 l1_4.length c1_4,vI (IntKind.i64.wrap (x2+1))]) (by kernel_rfl) (hr_mr_list Z bp0 lp0_0 Ap0_0 cp0_0 lp0_1 Ap0_1 cp0_1 (IntKind.i64.wrap (sp0_2+1)) lp0_3 Ap0_3 cp0_3 l1_4 A1_4 c1_4 (IntKind.i64.wrap (x2+1)) _ _ _ hS157 (fun w L h w' k=>(hZ _ _ (h.spread.bring 1 rfl) w' k)) hRp0_3 hLp0_3 hR1_4 hL1_4 _ hq13) ?_
   rintro _ w19 ⟨v22,v23,rfl,hS156⟩
   refine .inl ⟨_,rfl,?_⟩
   have hS163:=(((((hS156.unpack [bk bp0 #[v22,v23,vI r10.2.2,.slice Ap0_3 lp0_3.length cp0_3] 77,Own.of v22 3 r10.1,Own.of v23 42 r10.2.1]).b 4).b 3).b 3).b 3).takeN 4
   obtain rfl:=si h
   exact ge_nil (pe0 [] [] ⟨v22,v23,rfl,hS163⟩)
  rw [if_neg hc13] at h
  refine wk 116 (x1_0==6) false (beq_eq_false_iff_ne.2 hc13)<|wf ?_
  have hS171:=hS12.p [0,2,3,4] rfl
  obtain rfl:=si h
  exact we_skip (pe0 [] [] ⟨(.slice Ap0_0 lp0_0.length cp0_0),(.slice Ap0_1 lp0_1.length cp0_1),rfl,hS171⟩)
 rw [hq1] at h
 simp only [] at h
 refine kp (mr_stmt_p0 K w0 Z bp0 lp0_0 Ap0_0 cp0_0 lp0_1 Ap0_1 cp0_1 sp0_2 lp0_3 Ap0_3 cp0_3 x1_0 x1_1 x1_2_0 x1_2_1 l1_2_2 A1_2_2 c1_2_2 x1_3_0 x1_3_1_0 x1_3_1_1 l1_3_1_2 A1_3_1_2 c1_3_1_2 x1_3_2_0 x1_3_2_1 l1_3_2_2 A1_3_2_2 c1_3_2_2 l1_4 A1_4 c1_4 l1_5 A1_5 c1_5 x2 LT hZ hRp0_3 hLp0_3 hR1_2_2 hL1_2_2 hR1_3_1_2 hL1_3_1_2 hR1_3_2_2 hL1_3_2_2 hR1_4 hL1_4 hR1_5 hL1_5 rec_mr_list hr_mr_list b1 _ hq1 _ hS1 _ ?_)
 rintro _ a w1 ⟨_,hx,hb⟩
 obtain rfl:=si h
 rcases hx with rfl | ⟨cc,rfl⟩
 ·exact hb
 exact hb
def mr_list.recs (K : Nat) : Nat → ((List Int) → (List SPut) → Int → (List Int) → (List SStmt) → Int → Option (Int ⊕ ((List Int) × (List SPut) × Int))) × ((List Int) → (List SPut) → Int → (List Int) → Int → Int → Int → Int → (List SExpr) → Int → Int → Int → (List SExpr) → Int → Int → (List SExpr) → (List SStmt) → (List SStmt) → Int → Option (Int ⊕ ((List Int) × (List SPut) × Int)))
 | 0=>(fun _ _ _ _ _ _=>none,fun _ _ _ _ _ _ _ _ _ _ _ _ _ _ _ _ _ _ _=>none)
 | n+1=>(mr_list.b K ((mr_list.recs K n).2),mr_stmt.b K ((mr_list.recs K n).1))
theorem mr_list_all (K n:Nat):mr_list.Rec ((mr_list.recs K n).1)∧mr_stmt.Rec ((mr_list.recs K n).2):=by
 induction n with
 | zero=>exact ⟨(by unfold mr_list.Rec; intros; rename_i h; cases (show none=some _ from h)),(by unfold mr_stmt.Rec; intros; rename_i h; cases (show none=some _ from h))⟩
 | succ n ih=>exact ⟨mr_list_step K _ ih.2,mr_stmt_step K _ ih.1⟩
def mr_list.f (K : Nat) (lp0_0 : List Int) (lp0_1 : List SPut) (sp0_2 : Int) (lp0_3 : List Int) (l1 : List SStmt) (x2 : Int) : Option (Int ⊕ ((List Int) × (List SPut) × Int)) := ((mr_list.recs K K).1) lp0_0 lp0_1 sp0_2 lp0_3 l1 x2
theorem mr_list_ok (K:Nat) (Z:Zone) (bp0:Nat) (lp0_0:List Int) (Ap0_0:OA) (cp0_0:Nat) (lp0_1:List SPut) (Ap0_1:OA) (cp0_1:Nat) (sp0_2:Int) (lp0_3:List Int) (Ap0_3:OA) (cp0_3:Nat) (l1:List SStmt) (A1:OA) (c1:Nat) (x2:Int) (w0 wE:World) (LT:List Own) (hS:St w0 wE [bk bp0 #[(.slice Ap0_0 lp0_0.length cp0_0),(.slice Ap0_1 lp0_1.length cp0_1),vI sp0_2,.slice Ap0_3 lp0_3.length cp0_3] 77,ro Ap0_0 cp0_0 3 lp0_0,ro Ap0_1 cp0_1 42 lp0_1,Own.all LT]) (hZ:∀ w L,St w0 w (Own.all LT::L)→∀ w',Sub w w'→Z w') (hRp0_3:RdL w0 Ap0_3 lp0_3) (hLp0_3:lp0_3.length≤cp0_3) (hR1:RdZ Z A1 l1) (hL1:l1.length≤c1) (r:Int ⊕ ((List Int)×(List SPut)×Int)) (h:mr_list.f K lp0_0 lp0_1 sp0_2 lp0_3 l1 x2=some r):Calls Try.prog 36 #[pP bp0 0,.slice A1 l1.length c1,vI x2] wE (mr_list.Post w0 Z bp0 lp0_0 Ap0_0 cp0_0 lp0_1 Ap0_1 cp0_1 sp0_2 lp0_3 Ap0_3 cp0_3 l1 A1 c1 x2 LT r):=(mr_list_all K K).1 Z bp0 lp0_0 Ap0_0 cp0_0 lp0_1 Ap0_1 cp0_1 sp0_2 lp0_3 Ap0_3 cp0_3 l1 A1 c1 x2 w0 wE LT hS hZ hRp0_3 hLp0_3 hR1 hL1 r h
def mr_stmt.f (K : Nat) (lp0_0 : List Int) (lp0_1 : List SPut) (sp0_2 : Int) (lp0_3 : List Int) (x1_0 : Int) (x1_1 : Int) (x1_2_0 : Int) (x1_2_1 : Int) (l1_2_2 : List SExpr) (x1_3_0 : Int) (x1_3_1_0 : Int) (x1_3_1_1 : Int) (l1_3_1_2 : List SExpr) (x1_3_2_0 : Int) (x1_3_2_1 : Int) (l1_3_2_2 : List SExpr) (l1_4 : List SStmt) (l1_5 : List SStmt) (x2 : Int) : Option (Int ⊕ ((List Int) × (List SPut) × Int)) := ((mr_list.recs K K).2) lp0_0 lp0_1 sp0_2 lp0_3 x1_0 x1_1 x1_2_0 x1_2_1 l1_2_2 x1_3_0 x1_3_1_0 x1_3_1_1 l1_3_1_2 x1_3_2_0 x1_3_2_1 l1_3_2_2 l1_4 l1_5 x2
theorem mr_stmt_ok (K:Nat) (Z:Zone) (bp0:Nat) (lp0_0:List Int) (Ap0_0:OA) (cp0_0:Nat) (lp0_1:List SPut) (Ap0_1:OA) (cp0_1:Nat) (sp0_2:Int) (lp0_3:List Int) (Ap0_3:OA) (cp0_3:Nat) (x1_0 x1_1 x1_2_0 x1_2_1:Int) (l1_2_2:List SExpr) (A1_2_2:OA) (c1_2_2:Nat) (x1_3_0 x1_3_1_0 x1_3_1_1:Int) (l1_3_1_2:List SExpr) (A1_3_1_2:OA) (c1_3_1_2:Nat) (x1_3_2_0 x1_3_2_1:Int) (l1_3_2_2:List SExpr) (A1_3_2_2:OA) (c1_3_2_2:Nat) (l1_4:List SStmt) (A1_4:OA) (c1_4:Nat) (l1_5:List SStmt) (A1_5:OA) (c1_5:Nat) (x2:Int) (w0 wE:World) (LT:List Own) (hS:St w0 wE [bk bp0 #[(.slice Ap0_0 lp0_0.length cp0_0),(.slice Ap0_1 lp0_1.length cp0_1),vI sp0_2,.slice Ap0_3 lp0_3.length cp0_3] 77,ro Ap0_0 cp0_0 3 lp0_0,ro Ap0_1 cp0_1 42 lp0_1,Own.all LT]) (hZ:∀ w L,St w0 w (Own.all LT::L)→∀ w',Sub w w'→Z w') (hRp0_3:RdL w0 Ap0_3 lp0_3) (hLp0_3:lp0_3.length≤cp0_3) (hR1_2_2:RdZ Z A1_2_2 l1_2_2) (hL1_2_2:l1_2_2.length≤c1_2_2) (hR1_3_1_2:RdZ Z A1_3_1_2 l1_3_1_2) (hL1_3_1_2:l1_3_1_2.length≤c1_3_1_2) (hR1_3_2_2:RdZ Z A1_3_2_2 l1_3_2_2) (hL1_3_2_2:l1_3_2_2.length≤c1_3_2_2) (hR1_4:RdZ Z A1_4 l1_4) (hL1_4:l1_4.length≤c1_4) (hR1_5:RdZ Z A1_5 l1_5) (hL1_5:l1_5.length≤c1_5) (r:Int ⊕ ((List Int)×(List SPut)×Int)) (h:mr_stmt.f K lp0_0 lp0_1 sp0_2 lp0_3 x1_0 x1_1 x1_2_0 x1_2_1 l1_2_2 x1_3_0 x1_3_1_0 x1_3_1_1 l1_3_1_2 x1_3_2_0 x1_3_2_1 l1_3_2_2 l1_4 l1_5 x2=some r):Calls Try.prog 49 #[pP bp0 0,.agg #[vI x1_0,vI x1_1,vI x1_2_0,vI x1_2_1,.slice A1_2_2 l1_2_2.length c1_2_2,vI x1_3_0,vI x1_3_1_0,vI x1_3_1_1,.slice A1_3_1_2 l1_3_1_2.length c1_3_1_2,vI x1_3_2_0,vI x1_3_2_1,.slice A1_3_2_2 l1_3_2_2.length c1_3_2_2,.slice A1_4 l1_4.length c1_4,.slice A1_5 l1_5.length c1_5],vI x2] wE (mr_stmt.Post w0 Z bp0 lp0_0 Ap0_0 cp0_0 lp0_1 Ap0_1 cp0_1 sp0_2 lp0_3 Ap0_3 cp0_3 x1_0 x1_1 x1_2_0 x1_2_1 l1_2_2 A1_2_2 c1_2_2 x1_3_0 x1_3_1_0 x1_3_1_1 l1_3_1_2 A1_3_1_2 c1_3_1_2 x1_3_2_0 x1_3_2_1 l1_3_2_2 A1_3_2_2 c1_3_2_2 l1_4 A1_4 c1_4 l1_5 A1_5 c1_5 x2 LT r):=(mr_list_all K K).2 Z bp0 lp0_0 Ap0_0 cp0_0 lp0_1 Ap0_1 cp0_1 sp0_2 lp0_3 Ap0_3 cp0_3 x1_0 x1_1 x1_2_0 x1_2_1 l1_2_2 A1_2_2 c1_2_2 x1_3_0 x1_3_1_0 x1_3_1_1 l1_3_1_2 A1_3_1_2 c1_3_1_2 x1_3_2_0 x1_3_2_1 l1_3_2_2 A1_3_2_2 c1_3_2_2 l1_4 A1_4 c1_4 l1_5 A1_5 c1_5 x2 w0 wE LT hS hZ hRp0_3 hLp0_3 hR1_2_2 hL1_2_2 hR1_3_1_2 hL1_3_1_2 hR1_3_2_2 hL1_3_2_2 hR1_4 hL1_4 hR1_5 hL1_5 r h

/-! punctual/meaning.Run$1, mode n -/
abbrev meaning_Run_1_n.Post (w0:World) (Z:Zone) (bf0:Nat) (lf0_0:List Int) (Af0_0:OA) (cf0_0:Nat) (lf0_1:List SPut) (Af0_1:OA) (cf0_1:Nat) (sf0_2:Int) (bf1:Nat) (sf1_0 sf1_1:Int) (LT:List Own) (r:Unit) (e:Ending) (w:World):Prop:=e=.returned (.tuple #[])∧St w0 w [bk bf0 #[(.slice Af0_0 lf0_0.length cf0_0),(.slice Af0_1 lf0_1.length cf0_1),vI sf0_2] 28,bk bf1 #[vI sf1_0,vI sf1_1] 31,ro Af0_0 cf0_0 3 lf0_0,ro Af0_1 cf0_1 42 lf0_1,Own.all LT]
def meaning_Run_1_n.f (lf0_0 : List Int) (lf0_1 : List SPut) (sf0_2 : Int) (sf1_0 : Int) (sf1_1 : Int) : Unit :=
 ()
theorem meaning_Run_1_n_okD (Z:Zone) (bf0:Nat) (lf0_0:List Int) (Af0_0:OA) (cf0_0:Nat) (lf0_1:List SPut) (Af0_1:OA) (cf0_1:Nat) (sf0_2:Int) (bf1:Nat) (sf1_0 sf1_1:Int) (w0 wE:World) (LT:List Own) (hS:St w0 wE [bk bf0 #[(.slice Af0_0 lf0_0.length cf0_0),(.slice Af0_1 lf0_1.length cf0_1),vI sf0_2] 28,bk bf1 #[vI sf1_0,vI sf1_1] 31,ro Af0_0 cf0_0 3 lf0_0,ro Af0_1 cf0_1 42 lf0_1,Own.all LT]) (hZ:∀ w L,St w0 w (Own.all LT::L)→∀ w',Sub w w'→Z w') (r:Unit) (h:meaning_Run_1_n.f lf0_0 lf0_1 sf0_2 sf1_0 sf1_1=r) :
  CallsD Try.prog 34 #[pP bf0 0,pP bf1 0] .returning wE (fun e u' w'=>u'=.returning∧meaning_Run_1_n.Post w0 Z bf0 lf0_0 Af0_0 cf0_0 lf0_1 Af0_1 cf0_1 sf0_2 bf1 sf1_0 sf1_1 LT r e w'):=by
 unfold meaning_Run_1_n.f at h
 refine callsD_recS (v:=.nilIface) (n:=20) (args:=[pP bf0 0,pP bf1 0]) (fn:=Try.f34) rfl rfl rfl rfl rfl (fun _ _=>rfl) rfl rfl rfl rfl rfl rfl rfl rfl (fun _ h=>h) ?_
 show WE _ _ _ _ [(2,.nilIface),(5,.nilIface),(0,pP bf0 0),(1,pP bf1 0)] _
 refine ws fun K1 hK1=>wr [(0,0),(1,0)]<|gb0 [0,1] [(7,.bool false),(6,.nilIface)]<|gn hK1<|wf ?_
 have hS5:=((((hS.b 4).b 4).b 4).b 4).b 4
 subst h
 exact we_skip (pe0 [] [] ⟨rfl,hS5⟩)

/-! punctual/meaning.Run$1, mode p -/
abbrev meaning_Run_1_p.Post (w0:World) (Z:Zone) (pz:Int) (bf0:Nat) (lf0_0:List Int) (Af0_0:OA) (cf0_0:Nat) (lf0_1:List SPut) (Af0_1:OA) (cf0_1:Nat) (sf0_2:Int) (bf1:Nat) (sf1_0 sf1_1:Int) (LT:List Own) (r:(List Int)×(List SPut)×Int×Int×Int) (e:Ending) (w:World):Prop:=∃ (nbf0_0:Value) (nbf0_1:Value),e=.returned (.tuple #[])∧St w0 w [bk bf0 #[nbf0_0,nbf0_1,vI r.2.2.1] 28,bk bf1 #[vI r.2.2.2.1,vI r.2.2.2.2] 31,Own.of nbf0_0 3 r.1,Own.of nbf0_1 42 r.2.1,Own.all LT]
def meaning_Run_1_p.f (pz : Int) (lf0_0 : List Int) (lf0_1 : List SPut) (sf0_2 : Int) (sf1_0 : Int) (sf1_1 : Int) : (List Int) × (List SPut) × Int × Int × Int :=
 (([]:List Int),([]:List SPut),0,11,pz)
theorem meaning_Run_1_p_okD (Z:Zone) (pz:Int) (bf0:Nat) (lf0_0:List Int) (Af0_0:OA) (cf0_0:Nat) (lf0_1:List SPut) (Af0_1:OA) (cf0_1:Nat) (sf0_2:Int) (bf1:Nat) (sf1_0 sf1_1:Int) (w0 wE:World) (LT:List Own) (hS:St w0 wE [bk bf0 #[(.slice Af0_0 lf0_0.length cf0_0),(.slice Af0_1 lf0_1.length cf0_1),vI sf0_2] 28,bk bf1 #[vI sf1_0,vI sf1_1] 31,ro Af0_0 cf0_0 3 lf0_0,ro Af0_1 cf0_1 42 lf0_1,Own.all LT]) (hZ:∀ w L,St w0 w (Own.all LT::L)→∀ w',Sub w w'→Z w') (r:(List Int)×(List SPut)×Int×Int×Int) (h:meaning_Run_1_p.f pz lf0_0 lf0_1 sf0_2 sf1_0 sf1_1=r) :
  CallsD Try.prog 34 #[pP bf0 0,pP bf1 0] (.panicking [{ v:=.iface 73 (.agg #[vI pz]),recovered:=false }]) wE (fun e u' w'=>settle u'=.returning∧meaning_Run_1_p.Post w0 Z pz bf0 lf0_0 Af0_0 cf0_0 lf0_1 Af0_1 cf0_1 sf0_2 bf1 sf1_0 sf1_1 LT r e w'):=by
 unfold meaning_Run_1_p.f at h
 refine callsD_recS (v:=.iface 73 (.agg #[vI pz])) (n:=20) (args:=[pP bf0 0,pP bf1 0]) (fn:=Try.f34) rfl rfl rfl rfl rfl (fun _ _=>rfl) rfl rfl rfl rfl rfl rfl rfl rfl (fun _ h=>h ▸ rfl) ?_
 show WE _ _ _ _ [(2,.iface 73 (.agg #[vI pz])),(5,.iface 73 (.agg #[vI pz])),(0,pP bf0 0),(1,pP bf1 0)] _
 refine ws fun K1 hK1=>wr [(0,0),(1,0)]<|gb0 [0,1] [(7,.bool true),(6,.iface 73 (.agg #[vI pz]))]<|gn hK1<|wt<|ws fun K2 hK2=>wr [(0,0),(1,0),(2,0),(3,0),(4,0),(5,1),(6,2),(7,0)]<|gb0 [0,1,2,3,4] [(12,.bool true),(11,.agg #[vI pz]),(8,.tuple #[.agg #[vI pz],.bool true]),(10,.tuple #[.agg #[vI pz],.bool true]),(9,.iface 73 (.agg #[vI pz]))]<|gw (some 3) (.cells #[vI 0] 73) (fun b=>pP b 0) hS fun b1 w1 hx1 hS1=>?_
 refine gs b1 0 #[vI 0] 73 [vI pz] hS1 fun w2 hS2=>?_
 have hS3:=hS2.nc #[vI pz] (by kernel_rfl)
 refine gb0 [7] [(4,.bool true)]<|gn hK2<|ws fun K3 hK3=>ws fun K4 hK4=>wr [(0,0),(1,0)]<|gb0 [0,1] [(14,.bool false),(13,.bool true)]<|gn hK4<|wf<|we_skip fun a hF=>hK3 _ _ ?_ a hF
 refine we_orders3 (by kernel_rfl) [(2,[⟨b1,0,none⟩],[],[])] (.vals [0] (.vals [1] (.vals [2] (.vals [3] (.alt 4 2 (.alt 5 2 .fin .nomore) .nomore))))) (by kernel_rfl) (by kernel_rfl) ?_
 have hS4:=hS3.drew
 refine g30 [0,1] [(17,pP b1 0),(16,.agg #[.slice none 0 0,.slice none 0 0,vI 0])]<|g3 2 [(18,vI pz)] [ld b1 0 (vI pz)] ⟨hS4.c 0,trivial⟩<|g30 [3] [(19,.agg #[vI 11,vI pz])]<|go_alt3 (fun KK hKK=>?_) ?_
 ·have hS5:=hS4.b 1
  refine gs bf0 0 #[(.slice Af0_0 lf0_0.length cf0_0),(.slice Af0_1 lf0_1.length cf0_1),vI sf0_2] 28 [.slice none 0 0,.slice none 0 0,vI 0] hS5 fun w3 hS6=>?_
  have hS7:=hS6.nc #[.slice none 0 0,.slice none 0 0,vI 0] (by kernel_rfl)
  refine ge_nil fun a hF=>hKK _ _ (RS.of2 (l:=[ld b1 0 (vI pz)]) (by kernel_rfl) ⟨hS4.c 0,trivial⟩ ⟨hS7.c 1,trivial⟩) ?_ a hF
  refine go_alt3 (fun KK hKK=>?_) ?_
  ·have hS8:=hS7.b 2
   refine gs bf1 0 #[vI sf1_0,vI sf1_1] 31 [vI 11,vI pz] hS8 fun w4 hS9=>?_
   have hS10:=hS9.nc #[vI 11,vI pz] (by kernel_rfl)
   refine g2 hKK ?_
   have hS11:=hS10.nil (α:=Int) 3
   have hS18:=((((((hS11.nil (α:=SPut) 42).b 7).b 1).b 2).b 3).b 4).takeN 5
   subst h
   exact go_fin3 (pe0 [] [] ⟨(.slice none 0 0),(.slice none 0 0),rfl,hS18⟩)
  exact go_nomore3
 exact go_nomore3

structure SEnded where
 Vars:List Int
 Puts:List SPut
 Steps:Int

/-! punctual/meaning.Run -/
abbrev meaning_Run.Post (w0:World) (r:SEnded×SFault) (e:Ending) (w:World):Prop:=∃ (v0:Value) (v1:Value),e=.returned (.tuple #[.agg #[v0,v1,vI r.1.Steps],.agg #[vI r.2.Code,vI r.2.At]])∧St w0 w [Own.of v0 3 r.1.Vars,Own.of v1 42 r.1.Puts]
def meaning_Run.p0 (r1 : SFault) : Option ((Int × Int × (List Int) × (List SPut) × Int) ⊕ (SEnded × SFault)) :=
  some (.inl (r1.Code,r1.At,([]:List Int),([]:List SPut),0))
def meaning_Run.f (K : Nat) (l0 : List SStmt) (l1 : List Int) (l2 : List Int) : Option (SEnded × SFault) :=
 match tongue_Check.f K l0 with
 | none=>none
 | some r1 =>
  if r1.Code=0 then
   if (meaning_sizes.f l1 l2)=true then
    match slices_Clone_int_int.f l1 with
    | none=>none
    | some r2 =>
     match mr_list.f K r2 ([]:List SPut) 0 l2 l0 0 with
     | none=>none
     | some (.inl p1) =>
      some ((⟨(meaning_Run_1_p.f p1 ([]:List Int) ([]:List SPut) 0 0 0).1,(meaning_Run_1_p.f p1 ([]:List Int) ([]:List SPut) 0 0 0).2.1,(meaning_Run_1_p.f p1 ([]:List Int) ([]:List SPut) 0 0 0).2.2.1⟩:SEnded),(⟨(meaning_Run_1_p.f p1 ([]:List Int) ([]:List SPut) 0 0 0).2.2.2.1,(meaning_Run_1_p.f p1 ([]:List Int) ([]:List SPut) 0 0 0).2.2.2.2⟩:SFault))
     | some (.inr r3) =>
      some ((⟨r3.1,r3.2.1,r3.2.2⟩:SEnded),(⟨0,0⟩:SFault))
   else
    some ((⟨([]:List Int),([]:List SPut),0⟩:SEnded),(⟨3,0⟩:SFault))
  else
   match meaning_Run.p0 r1 with
   | none=>none
   | some (.inl (z4,z5,m3,m4,z6)) =>
    some ((⟨m3,m4,z6⟩:SEnded),(⟨z4,z5⟩:SFault))
   | some (.inr rr1) =>
    some rr1
abbrev meaning_Run.A0 (w0:World) (b1 b2:Nat):(Int×Int×(List Int)×(List SPut)×Int)→Act→World→Prop:=fun (s:Int×Int×(List Int)×(List SPut)×Int) a w=>∃ (v6:Value) (v7:Value),St w0 w [bk b2 #[vI s.1,vI s.2.1] 31,bk b1 #[v6,v7,vI s.2.2.2.2] 28,Own.of v6 3 s.2.2.1,Own.of v7 42 s.2.2.2.1]∧Frm 41 a [(6,pP b1 0),(7,pP b2 0)]
abbrev meaning_Run.B0 (w0:World):(SEnded×SFault)→Exit→Act→World→Prop:=RetsD Try.prog Try.f11 (meaning_Run.Post w0)
theorem meaning_Run_p0 (K:Nat) (w0:World) (Z:Zone) (l0:List SStmt) (A0:OA) (c0:Nat) (l1:List Int) (A1:OA) (c1:Nat) (l2:List Int) (A2:OA) (c2:Nat) (hZ:∀ w,Sub w0 w→Z w) (hR0:RdZ Z A0 l0) (hL0:l0.length≤c0) (hR1:RdL w0 A1 l1) (hL1:l1.length≤c1) (hR2:RdL w0 A2 l2) (hL2:l2.length≤c2) (b1 b2:Nat) (r1:SFault) (b3:Nat) (hc1:¬ (r1.Code=0)) (o:(Int×Int×(List Int)×(List SPut)×Int) ⊕ (SEnded×SFault)) (h:meaning_Run.p0 r1=some o) (w:World) (hS:St w0 w [bk b3 #[vI r1.Code,vI r1.At] 31,bk b2 #[vI 0,vI 0] 31,bk b1 #[.slice none 0 0,.slice none 0 0,vI 0] 28]) (Q:Exit→Act→World→Prop) (hQ:∀ x a w,Outs (meaning_Run.A0 w0 b1 b2) (meaning_Run.B0 w0) o x a w→Q x a w):WE Try.prog 41 (subF Try.f11 [1,0,1,1,0,0]) Q [(0,.slice A0 l0.length c0),(1,.slice A1 l1.length c1),(2,.slice A2 l2.length c2),(6,pP b1 0),(7,pP b2 0),(8,pP b3 0),(10,.slice A0 l0.length c0),(11,.agg #[vI r1.Code,vI r1.At]),(12,pP b3 0),(13,vI r1.Code),(14,.bool true)] w:=by
 simp only [meaning_Run.p0] at h
 refine we_orders3 (by kernel_rfl) [(1,[⟨b3,0,none⟩,⟨b3,1,none⟩],[],[])] (.vals [0] (.vals [1] (.alt 2 2 (.alt 3 2 .fin .nomore) .nomore))) (by kernel_rfl) (by kernel_rfl) ?_
 have hS60:=hS.drew
 refine g30 [0] [(15,.agg #[.slice none 0 0,.slice none 0 0,vI 0])]<|g3 1 [(16,.agg #[vI r1.Code,vI r1.At])] [ld b3 0 (vI r1.Code),ld b3 1 (vI r1.At)] ⟨hS60.c 0,hS60.c 0,trivial⟩<|go_alt3 (fun KK hKK=>?_) ?_
 ·have hS61:=hS60.b 2
  refine gs b1 0 #[.slice none 0 0,.slice none 0 0,vI 0] 28 [.slice none 0 0,.slice none 0 0,vI 0] hS61 fun w17 hS62=>?_
  have hS63:=hS62.nc #[.slice none 0 0,.slice none 0 0,vI 0] (by kernel_rfl)
  refine ge_nil fun a hF=>hKK _ _ (RS.of2 (l:=[ld b3 0 (vI r1.Code),ld b3 1 (vI r1.At)]) (by kernel_rfl) ⟨hS60.c 0,hS60.c 0,trivial⟩ ⟨hS63.c 1,hS63.c 1,trivial⟩) ?_ a hF
  refine go_alt3 (fun KK hKK=>?_) ?_
  ·have hS64:=hS63.b 2
   refine gs b2 0 #[vI 0,vI 0] 31 [vI r1.Code,vI r1.At] hS64 fun w18 hS65=>?_
   have hS66:=hS65.nc #[vI r1.Code,vI r1.At] (by kernel_rfl)
   refine g2 hKK ?_
   have hS67:=hS66.nil (α:=Int) 3
   have hS72:=((((hS67.nil (α:=SPut) 42).b 1).b 3).b 3).takeN 4
   obtain rfl:=si h
   exact go_fin3 fun a hF=>hQ _ _ _ (Outs.again ⟨(.slice none 0 0),(.slice none 0 0),hS72,hF.weaken ea⟩)
  exact go_nomore3
 exact go_nomore3
theorem meaning_Run_ok (K:Nat) (Z:Zone) (l0:List SStmt) (A0:OA) (c0:Nat) (l1:List Int) (A1:OA) (c1:Nat) (l2:List Int) (A2:OA) (c2:Nat) (w0:World) (hZ:∀ w,Sub w0 w→Z w) (hR0:RdZ Z A0 l0) (hL0:l0.length≤c0) (hR1:RdL w0 A1 l1) (hL1:l1.length≤c1) (hR2:RdL w0 A2 l2) (hL2:l2.length≤c2) (r:SEnded×SFault) (h:meaning_Run.f K l0 l1 l2=some r) :
  Calls Try.prog 11 #[.slice A0 l0.length c0,.slice A1 l1.length c1,.slice A2 l2.length c2] w0 (meaning_Run.Post w0 r):=by
 have hS:=St.start w0
 unfold meaning_Run.f at h
 refine calls_enterD (n:=41) (args:=[.slice A0 l0.length c0,.slice A1 l1.length c1,.slice A2 l2.length c2]) (fn:=Try.f11) rfl rfl rfl rfl ?_
 show WE _ _ _ _ [(0,.slice A0 l0.length c0),(1,.slice A1 l1.length c1),(2,.slice A2 l2.length c2)] _
 refine ws fun K1 hK1=>wr [(0,1),(1,1)]<|gw (some 6) (.cells #[.slice none 0 0,.slice none 0 0,vI 0] 28) (fun b=>pP b 0) hS fun b1 w1 hx1 hS1=>?_
 refine gw (some 7) (.cells #[vI 0,vI 0] 31) (fun b=>pP b 0) hS1 fun b2 w2 hx2 hS2=>?_
 refine gn hK1<|ws fun K2 hK2=>ws fun K3 hK3=>wr [(0,0),(1,1),(2,1),(3,2)] ?_
 rcases hq1:tongue_Check.f K l0 with _ | r1
 ·rw [hq1] at h; cases h
 rw [hq1] at h
 simp only [] at h
 refine gb0 [0] [(10,.slice A0 l0.length c0)]<|ge_call (d:=some 11) (f:=32) (args:=#[.slice A0 l0.length c0]) (by kernel_rfl) (tongue_Check_ok K Z l0 A0 c0 _ (fun w' k=>(hZ w' (hS2.subw.trans k))) hR0 hL0 _ hq1) ?_
 rintro _ w3 ⟨rfl,hS3⟩
 refine ⟨_,rfl,hS3.below,?_⟩
 have hS4:=hS2.call hS3
 refine gw (some 8) (.cells #[vI 0,vI 0] 31) (fun b=>pP b 0) hS4 fun b3 w4 hx3 hS5=>?_
 refine gs b3 0 #[vI 0,vI 0] 31 [vI r1.Code,vI r1.At] hS5 fun w5 hS6=>?_
 have hS7:=hS6.nc #[vI r1.Code,vI r1.At] (by kernel_rfl)
 refine gn hK3<|ws fun K4 hK4=>wr [(0,0),(1,0),(2,0)]<|gb [0,1,2] [(14,.bool (r1.Code != 0)),(13,vI r1.Code),(12,pP b3 0)] [ld b3 0 (vI r1.Code)] ⟨hS7.c 0,trivial⟩<|gn hK4 ?_
 by_cases hc1:r1.Code=0
 ·rw [if_pos hc1] at h
  refine wk 14 (r1.Code != 0) false (bne_eq_false_iff_eq.2 hc1)<|wf<|we_skip fun a hF=>hK2 _ _ ?_ a hF
  refine ws fun K5 hK5=>ws fun K6 hK6=>wr [(0,0),(1,0),(2,1),(3,0)]<|gb0 [0,1] [(18,.slice A2 l2.length c2),(17,.slice A1 l1.length c1)]<|ge_call (d:=some 19) (f:=33) (args:=#[.slice A1 l1.length c1,.slice A2 l2.length c2]) (by kernel_rfl) (meaning_sizes_ok l1 A1 c1 l2 A2 c2 _ (hS7.rd hR1) hL1 (hS7.rd hR2) hL2 _ rfl) ?_
  rintro _ w6 ⟨rfl,hS8⟩
  refine ⟨_,rfl,hS8.below,?_⟩
  have hS9:=hS7.call hS8
  refine gb0 [3] [(20,.bool (!(meaning_sizes.f l1 l2)))]<|gn hK6 ?_
  by_cases hc2:(meaning_sizes.f l1 l2)=true
  ·rw [if_pos hc2] at h
   refine wk 20 (!(meaning_sizes.f l1 l2)) false (congrArg (fun z=>!z) hc2)<|wf<|we_skip fun a hF=>hK5 _ _ ?_ a hF
   refine ws fun K7 hK7=>wr [(0,0),(1,2)]<|gb0 [0] [(23,.func (.func 34) #[] #[pP b1 0,pP b2 0])]<|ge_defer (d:=⟨.fn (.func 34) #[pP b1 0,pP b2 0],#[]⟩) (by kernel_rfl) fun D1 hD1=>?_
   refine gn hK7<|ws fun K8 hK8=>wr [(0,0),(1,0),(2,1),(3,0)]<|gb0 [0,1] [(25,.agg #[.slice none 0 0,.slice none 0 0,vI 0,.slice A2 l2.length c2]),(24,.slice A2 l2.length c2)]<|gw (some 26) (.cells #[.slice none 0 0,.slice none 0 0,vI 0,.slice A2 l2.length c2] 77) (fun b=>pP b 0) hS9 fun b4 w7 hx4 hS10=>?_
   refine gb0 [3] [(9,pP b4 0)]<|gn hK8<|ws fun K9 hK9=>wr [(0,0),(1,0),(2,1),(3,0),(4,0),(5,0),(6,2)] ?_
   rcases hq3:slices_Clone_int_int.f l1 with _ | r2
   ·rw [hq3] at h; cases h
   rw [hq3] at h
   simp only [] at h
   refine gb0 [0,1] [(28,.slice A1 l1.length c1),(27,pP b4 0)]<|ge_call (d:=some 29) (f:=35) (args:=#[.slice A1 l1.length c1]) (by kernel_rfl) (slices_Clone_int_int_ok l1 A1 c1 _ (hS10.rd hR1) hL1 _ hq3) ?_
   rintro _ w8 ⟨v1,rfl,hS11⟩
   refine ⟨_,rfl,hS11.below,?_⟩
   have hS12:=hS10.call hS11
   refine gb0 [3,4,5] [(32,pP b4 0),(31,pP b4 0),(30,pP b4 0)] ?_
   obtain ⟨Z1,cz1,rfl⟩:=hS12.open 0 rfl
   have hS13:=hS12.b 1
   refine gs b4 0 #[.slice none 0 0,.slice none 0 0,vI 0,.slice A2 l2.length c2] 77 [(.slice Z1 r2.length cz1)] hS13 fun w9 hS14=>?_
   have hS15:=hS14.nc #[(.slice Z1 r2.length cz1),.slice none 0 0,vI 0,.slice A2 l2.length c2] (by kernel_rfl)
   refine gn hK9<|ws fun K10 hK10=>wr [(0,0),(1,0),(2,2)]<|gb0 [0,1] [(34,.slice A0 l0.length c0),(33,pP b4 0)] ?_
   rcases hq4:mr_list.f K r2 ([]:List SPut) 0 l2 l0 0 with _ | r3
   ·rw [hq4] at h; cases h
   rw [hq4] at h
   rcases r3 with p1 | r3
   ·try simp only [] at h
    have hS20:=(((hS15.nil (α:=SPut) 42).b 2).b 2).packN 3
    refine ge_callP (m:=0) (d:=some 35) (f:=36) (args:=#[pP b4 0,.slice A0 l0.length c0,vI 0]) (by kernel_rfl) (mr_list_ok K Z b4 r2 Z1 cz1 ([]:List SPut) none 0 0 l2 A2 c2 l0 A0 c0 0 _ _ _ hS20 (fun w L h w' k=>(hZ w' (h.subw.trans k))) hR2 hL2 hR0 hL0 _ hq4) ?_
    rintro _ w10 ⟨rfl,hS19⟩
    have hS38:=hS19.unpack []
    refine .inr ⟨_,rfl,?_⟩
    have hS39:=hS38.nil (α:=Int) 3
    have hS45:=((((hS39.nil (α:=SPut) 42).b 1).b 3).b 4).packN 4
    refine leaves_rec (f:=34) (caps:=#[pP b1 0,pP b2 0]) («as»:=#[]) (rs:=[.cell 6 28,.cell 7 31]) hD1 rfl (by kernel_rfl) (meaning_Run_1_p_okD Z p1 b1 ([]:List Int) none 0 ([]:List SPut) none 0 0 b2 0 0 _ _ _ hS45 (fun w L h w' k=>(hZ w' (h.subw.trans k))) _ rfl) ?_
    rintro _ w14 ⟨v4,v5,rfl,hS44⟩
    have hS46:=hS44.unpack [bk b1 #[v4,v5,vI ((meaning_Run_1_p.f p1 ([]:List Int) ([]:List SPut) 0 0 0).2.2.1)] 28,bk b2 #[vI ((meaning_Run_1_p.f p1 ([]:List Int) ([]:List SPut) 0 0 0).2.2.2.1),vI ((meaning_Run_1_p.f p1 ([]:List Int) ([]:List SPut) 0 0 0).2.2.2.2)] 31,Own.of v4 3 ((meaning_Run_1_p.f p1 ([]:List Int) ([]:List SPut) 0 0 0).1),Own.of v5 42 ((meaning_Run_1_p.f p1 ([]:List Int) ([]:List SPut) 0 0 0).2.1)]
    have hS49:=hS46.p [2,3] rfl
    obtain rfl:=si h
    exact ⟨⟨_,rfl⟩,[.val (v4),.val (v5),.val (vI ((meaning_Run_1_p.f p1 ([]:List Int) ([]:List SPut) 0 0 0).2.2.1)),.val (vI ((meaning_Run_1_p.f p1 ([]:List Int) ([]:List SPut) 0 0 0).2.2.2.1)),.val (vI ((meaning_Run_1_p.f p1 ([]:List Int) ([]:List SPut) 0 0 0).2.2.2.2))],[.agg #[v4,v5,vI ((meaning_Run_1_p.f p1 ([]:List Int) ([]:List SPut) 0 0 0).2.2.1)],.agg #[vI ((meaning_Run_1_p.f p1 ([]:List Int) ([]:List SPut) 0 0 0).2.2.2.1),vI ((meaning_Run_1_p.f p1 ([]:List Int) ([]:List SPut) 0 0 0).2.2.2.2)]],[ld b1 0 (v4),ld b1 1 (v5),ld b1 2 (vI ((meaning_Run_1_p.f p1 ([]:List Int) ([]:List SPut) 0 0 0).2.2.1)),ld b2 0 (vI ((meaning_Run_1_p.f p1 ([]:List Int) ([]:List SPut) 0 0 0).2.2.2.1)),ld b2 1 (vI ((meaning_Run_1_p.f p1 ([]:List Int) ([]:List SPut) 0 0 0).2.2.2.2))],(by kernel_rfl),⟨hS46.c 0,hS46.c 0,hS46.c 0,hS46.c 1,hS46.c 1,trivial⟩,⟨v4,v5,rfl,hS49⟩⟩
   try simp only [] at h
   have hS20:=(((hS15.nil (α:=SPut) 42).b 2).b 2).packN 3
   refine ge_callP (m:=0) (d:=some 35) (f:=36) (args:=#[pP b4 0,.slice A0 l0.length c0,vI 0]) (by kernel_rfl) (mr_list_ok K Z b4 r2 Z1 cz1 ([]:List SPut) none 0 0 l2 A2 c2 l0 A0 c0 0 _ _ _ hS20 (fun w L h w' k=>(hZ w' (h.subw.trans k))) hR2 hL2 hR0 hL0 _ hq4) ?_
   rintro _ w10 ⟨v2,v3,rfl,hS19⟩
   refine .inl ⟨_,rfl,?_⟩
   have hS21:=hS19.unpack [bk b4 #[v2,v3,vI r3.2.2,.slice A2 l2.length c2] 77,Own.of v2 3 r3.1,Own.of v3 42 r3.2.1]
   refine gn hK10<|ws fun K11 hK11=>wr [(0,0),(1,0),(2,0),(3,0),(4,0),(5,2),(6,2)]<|gb [0,1,2,3,4] [(40,.agg #[vI 0,vI 0]),(39,.agg #[v2,v3,vI r3.2.2]),(38,pP b4 0),(37,pP b4 0),(36,pP b4 0)] [ld b4 0 (v2),ld b4 1 (v3),ld b4 2 (vI r3.2.2)] ⟨hS21.c 0,hS21.c 0,hS21.c 0,trivial⟩ ?_
   obtain ⟨Z2,cz2,rfl⟩:=hS21.open 1 rfl
   obtain ⟨Z3,cz3,rfl⟩:=hS21.open 2 rfl
   have hS22:=hS21.b 5
   refine gs b1 0 #[.slice none 0 0,.slice none 0 0,vI 0] 28 [(.slice Z2 r3.1.length cz2),(.slice Z3 r3.2.1.length cz3),vI r3.2.2] hS22 fun w11 hS23=>?_
   have hS25:=(hS23.nc #[(.slice Z2 r3.1.length cz2),(.slice Z3 r3.2.1.length cz3),vI r3.2.2] (by kernel_rfl)).b 5
   refine gs b2 0 #[vI 0,vI 0] 31 [vI 0,vI 0] hS25 fun w12 hS26=>?_
   have hS27:=hS26.nc #[vI 0,vI 0] (by kernel_rfl)
   refine gn hK11 ?_
   have hS33:=((((hS27.b 4).b 4).b 2).b 3).packN 4
   refine we_ret (post_retL (f:=34) (caps:=#[pP b1 0,pP b2 0]) («as»:=#[]) (rs:=[.cell 6 28,.cell 7 31]) (ans:=[.val ((.slice Z2 r3.1.length cz2)),.val ((.slice Z3 r3.2.1.length cz3)),.val (vI r3.2.2),.val (vI 0),.val (vI 0)]) (vs:=[.agg #[(.slice Z2 r3.1.length cz2),(.slice Z3 r3.2.1.length cz3),vI r3.2.2],.agg #[vI 0,vI 0]]) (l:=[ld b1 0 ((.slice Z2 r3.1.length cz2)),ld b1 1 ((.slice Z3 r3.2.1.length cz3)),ld b1 2 (vI r3.2.2),ld b2 0 (vI 0),ld b2 1 (vI 0)]) hD1 rfl (by kernel_rfl) (by kernel_rfl) (meaning_Run_1_n_okD Z b1 r3.1 Z2 cz2 r3.2.1 Z3 cz3 r3.2.2 b2 0 0 _ _ _ hS33 (fun w L h w' k=>(hZ w' (h.subw.trans k))) _ rfl) ?_)
   rintro _ w13 ⟨rfl,hS32⟩
   have hS34:=hS32.unpack [bk b1 #[(.slice Z2 r3.1.length cz2),(.slice Z3 r3.2.1.length cz3),vI r3.2.2] 28,bk b2 #[vI 0,vI 0] 31,ro Z2 cz2 3 r3.1,ro Z3 cz3 42 r3.2.1]
   have hS37:=hS34.p [2,3] rfl
   obtain rfl:=si h
   exact ⟨⟨_,rfl⟩,⟨hS34.c 0,hS34.c 0,hS34.c 0,hS34.c 1,hS34.c 1,trivial⟩,⟨(.slice Z2 r3.1.length cz2),(.slice Z3 r3.2.1.length cz3),rfl,hS37⟩⟩
  rw [if_neg hc2] at h
  refine wk 20 (!(meaning_sizes.f l1 l2)) true (congrArg (fun z=>!z) (Bool.eq_false_iff.2 hc2))<|wt<|ws fun K12 hK12=>wr [(0,0),(1,0),(2,2),(3,2)]<|gb0 [0,1] [(22,.agg #[vI 3,vI 0]),(21,.agg #[.slice none 0 0,.slice none 0 0,vI 0])] ?_
  have hS50:=hS9.b 2
  refine gs b1 0 #[.slice none 0 0,.slice none 0 0,vI 0] 28 [.slice none 0 0,.slice none 0 0,vI 0] hS50 fun w15 hS51=>?_
  have hS53:=(hS51.nc #[.slice none 0 0,.slice none 0 0,vI 0] (by kernel_rfl)).b 2
  refine gs b2 0 #[vI 0,vI 0] 31 [vI 3,vI 0] hS53 fun w16 hS54=>?_
  have hS55:=hS54.nc #[vI 3,vI 0] (by kernel_rfl)
  refine gn hK12 ?_
  have hS56:=hS55.nil (α:=Int) 3
  have hS57:=hS56.nil (α:=SPut) 42
  have hS59:=hS57.p [1,0] rfl
  obtain rfl:=si h
  exact we_ret (post_retD (rs:=[.cell 6 28,.cell 7 31]) (ans:=[.val ((.slice none 0 0)),.val ((.slice none 0 0)),.val (vI 0),.val (vI 3),.val (vI 0)]) (vs:=[.agg #[(.slice none 0 0),(.slice none 0 0),vI 0],.agg #[vI 3,vI 0]]) (l:=[ld b1 0 ((.slice none 0 0)),ld b1 1 ((.slice none 0 0)),ld b1 2 (vI 0),ld b2 0 (vI 3),ld b2 1 (vI 0)]) rfl (by kernel_rfl) ⟨hS57.c 3,hS57.c 3,hS57.c 3,hS57.c 2,hS57.c 2,trivial⟩ ⟨(.slice none 0 0),(.slice none 0 0),rfl,hS59⟩)
 rw [if_neg hc1] at h
 refine wk 14 (r1.Code != 0) true (bne_iff_ne.2 hc1)<|wt<|ws fun K13 hK13=>?_
 rcases hq7:meaning_Run.p0 r1 with _ | (⟨z4,z5,m3,m4,z6⟩ | rr1)
 ·rw [hq7] at h; cases h
 ·rw [hq7] at h
  simp only [] at h
  refine kp (meaning_Run_p0 K w0 Z l0 A0 c0 l1 A1 c1 l2 A2 c2 hZ hR0 hL0 hR1 hL1 hR2 hL2 b1 b2 r1 b3 hc1 _ hq7 _ hS7 _ ?_)
  rintro _ a w19 ⟨rfl,v8,v9,hS73,hF⟩
  replace hS73:St w0 w19 [bk b2 #[vI z4,vI z5] 31,bk b1 #[v8,v9,vI z6] 28,Own.of v8 3 m3,Own.of v9 42 m4]:=hS73
  refine hK13 [(6,pP b1 0),(7,pP b2 0)] w19 ?_ a hF
  have hS76:=hS73.p [2,3] rfl
  obtain rfl:=si h
  exact we_ret (post_retD (rs:=[.cell 6 28,.cell 7 31]) (ans:=[.val (v8),.val (v9),.val (vI z6),.val (vI z4),.val (vI z5)]) (vs:=[.agg #[v8,v9,vI z6],.agg #[vI z4,vI z5]]) (l:=[ld b1 0 (v8),ld b1 1 (v9),ld b1 2 (vI z6),ld b2 0 (vI z4),ld b2 1 (vI z5)]) rfl (by kernel_rfl) ⟨hS73.c 1,hS73.c 1,hS73.c 1,hS73.c 0,hS73.c 0,trivial⟩ ⟨v8,v9,rfl,hS76⟩)
 rw [hq7] at h
 simp only [] at h
 refine kp (meaning_Run_p0 K w0 Z l0 A0 c0 l1 A1 c1 l2 A2 c2 hZ hR0 hL0 hR1 hL1 hR2 hL2 b1 b2 r1 b3 hc1 _ hq7 _ hS7 _ ?_)
 rintro _ a w1 ⟨_,rfl,hb⟩
 obtain rfl:=si h
 exact hb

/-! punctual/punctualsame.Same[punctual/api.Put] -/
abbrev ps_Same_api_Put.Post (w0:World) (r:Bool) (e:Ending) (w:World):Prop:=e=.returned (.bool r)∧St w0 w []
def ps_Same_api_Put.r0 (l0 : List SPut) (l1 : List SPut) : Nat → Option (Nat ⊕ (Unit ⊕ Bool))
 | i1 =>
  if (i1:Int)<(l0.length:Int) then
   match l0[i1]? with
   | none=>none
   | some e1 =>
    match l1[i1]? with
    | none=>none
    | some e2 =>
     if (SPut.eqb e1 e2)=true then
      some (.inl (i1+1))
     else
      some (.inr (.inr false))
  else
   some (.inr (.inl ()))
def ps_Same_api_Put.f (K : Nat) (l0 : List SPut) (l1 : List SPut) : Option Bool :=
 if (l0.length:Int)=(l1.length:Int) then
  match iter (ps_Same_api_Put.r0 l0 l1) K 0 with
  | none=>none
  | some (.inl _) =>
   some true
  | some (.inr rr1) =>
   some rr1
 else
  some false
abbrev ps_Same_api_Put.A0 (w0:World) (l0:List SPut) (A0:OA) (c0:Nat) (l1:List SPut) (A1:OA) (c1:Nat):Nat→Act→World→Prop:=fun (s:Nat) a w=>St w0 w []∧Frm 26 a [(0,.slice A0 l0.length c0),(1,.slice A1 l1.length c1),(12,vI (l0.length:Int)),(13,vI (s:Int))]
abbrev ps_Same_api_Put.B0 (w0:World):(Unit ⊕ Bool)→Exit→Act→World→Prop:=Exits 0 (fun (s:Unit) a w=>St w0 w []∧Frm 26 a []) (Rets Try.prog Try.f19 (ps_Same_api_Put.Post w0))
theorem ps_Same_api_Put_r0 (K:Nat) (w0:World) (l0:List SPut) (A0:OA) (c0:Nat) (l1:List SPut) (A1:OA) (c1:Nat) (hR0:RdL w0 A0 l0) (hL0:l0.length≤c0) (hR1:RdL w0 A1 l1) (hL1:l1.length≤c1) (hc1:(l0.length:Int)=(l1.length:Int)) (s:Nat) (o:Nat ⊕ (Unit ⊕ Bool)) (h:ps_Same_api_Put.r0 l0 l1 s=some o) (a:Act) (w:World) (hA:ps_Same_api_Put.A0 w0 l0 A0 c0 l1 A1 c1 s a w) (Q:Exit→Act→World→Prop) (hQ:∀ x a w,Outs (ps_Same_api_Put.A0 w0 l0 A0 c0 l1 A1 c1) (ps_Same_api_Put.B0 w0) o x a w→Q x a w):(subF Try.f19 [1,1,0,1,0,0]).wp Try.prog Q a w:=by
 obtain ⟨i1,hs⟩:∃ z,z=s:=⟨s,rfl⟩
 subst hs
 obtain ⟨hS,hF⟩:=hA
 replace hS:St w0 w []:=hS
 simp only [ps_Same_api_Put.r0] at h
 refine (?_:WE Try.prog 26 (subF Try.f19 [1,1,0,1,0,0]) Q [(0,.slice A0 l0.length c0),(1,.slice A1 l1.length c1),(12,vI (l0.length:Int)),(13,vI (i1:Int))] w) a hF
 clear hF a
 refine ws fun K6 hK6=>wr [(0,0)]<|gb0 [0] [(14,.bool (decide ((i1:Int)<(l0.length:Int))))]<|gn hK6<|ws fun K7 hK7=>?_
 by_cases hc2:(i1:Int)<(l0.length:Int)
 ·rw [if_pos hc2] at h
  refine wk 14 (decide ((i1:Int)<(l0.length:Int))) true (decide_eq_true hc2)<|wt<|we_skip fun a hF=>hK7 _ _ ?_ a hF
  refine ws fun K8 hK8=>we_block<|ws fun K9 hK9=>wr [(0,0),(1,0)]<|gb0 [0,1] [(5,vI (i1:Int)),(15,vI (i1:Int))]<|gn hK9<|ws fun K10 hK10=>we_draws (by kernel_rfl) [(0,0),(1,0),(2,0),(3,0),(4,0),(5,0),(6,0),(7,0),(8,0)] (by kernel_rfl) ?_
  have hS1:=hS.drew
  refine gb0 [0,1] [(17,vI (i1:Int)),(16,.slice A0 l0.length c0)] ?_
  rcases hx1:l0[i1]? with _ | e1
  ·rw [hx1] at h; cases h
  rw [hx1] at h
  simp only [] at h
  refine gi 18 0 26 42 2 l0.length c0 (.tmp 16) (.tmp 17) A0 .i64 (i1:Int) i1 ((hS1.rd hR0).eqSome (pos_of_get hx1)) rfl (lt_of_get hx1) ?_
  refine gb [3,4,5] [(21,vI (i1:Int)),(20,.slice A1 l1.length c1),(19,.agg #[vI e1.Port,vI e1.Value])] [.loaded ⟨blkOf A0,offOf A0+i1*2,none⟩ (vI e1.Port),.loaded ⟨blkOf A0,offOf A0+i1*2+1,none⟩ (vI e1.Value)] ⟨RdL.cell (j:=0) (hS1.rd hR0) hx1 rfl,RdL.cell (j:=1) (hS1.rd hR0) hx1 rfl,trivial⟩ ?_
  rcases hx2:l1[i1]? with _ | e2
  ·rw [hx2] at h; cases h
  rw [hx2] at h
  simp only [] at h
  refine gi 22 0 26 42 2 l1.length c1 (.tmp 20) (.tmp 21) A1 .i64 (i1:Int) i1 ((hS1.rd hR1).eqSome (pos_of_get hx2)) rfl (lt_of_get hx2) ?_
  refine gb [7] [(23,.agg #[vI e2.Port,vI e2.Value])] [.loaded ⟨blkOf A1,offOf A1+i1*2,none⟩ (vI e2.Port),.loaded ⟨blkOf A1,offOf A1+i1*2+1,none⟩ (vI e2.Value)] ⟨RdL.cell (j:=0) (hS1.rd hR1) hx2 rfl,RdL.cell (j:=1) (hS1.rd hR1) hx2 rfl,trivial⟩<|ge_eqs (d:=24) (ty:=4) (op:=.neq) (x:=(.tmp 19)) (y:=(.tmp 23)) (t:=42) (t2:=42) (xs:=#[vI e1.Port,vI e1.Value]) (ys:=#[vI e2.Port,vI e2.Value]) (r:=(SPut.eqb e1 e2)) (v:=!(SPut.eqb e1 e2)) (by kernel_rfl) (by kernel_rfl) (by kernel_rfl) (by kernel_rfl) (by kernel_rfl) rfl ?_
  refine gn hK10 ?_
  by_cases hc3:(SPut.eqb e1 e2)=true
  ·rw [if_pos hc3] at h
   refine wk 24 (!(SPut.eqb e1 e2)) false (congrArg (fun z=>!z) hc3)<|wf<|we_skip fun a hF=>hK8 _ _ ?_ a hF
   refine wr [(0,0),(1,0)]<|ge_addn (d:=25) (ty:=3) (x:=(.tmp 13)) (y:=(.const (vI 1))) (t:=3) (t2:=3) (k:=.i64) (m:=i1) (by kernel_rfl) (by kernel_rfl) (by kernel_rfl) (by have h0:=hR0.small; omega) ?_
   refine gb0 [1] [(13,vI ((i1+1:Nat):Int))] ?_
   obtain rfl:=si h
   exact ge_nil fun a hF=>hQ _ _ _ (Outs.again ⟨hS1,hF.weaken ea⟩)
  rw [if_neg hc3] at h
  refine wk 24 (!(SPut.eqb e1 e2)) true (congrArg (fun z=>!z) (Bool.eq_false_iff.2 hc3))<|wt<|ws fun K11 hK11=>wr [(0,0)]<|gb0 [0] [(4,.bool false)]<|gn hK11 ?_
  obtain rfl:=si h
  exact we_ret fun a hF=>hQ _ _ _ (Outs.out nofun (Exits.on ⟨rfl,(pr0 [.tmp 4] [.bool false] ⟨rfl,hS1⟩) a hF⟩))
 rw [if_neg hc2] at h
 refine wk 14 (decide ((i1:Int)<(l0.length:Int))) false (decide_eq_false hc2)<|wf ?_
 obtain rfl:=si h
 exact we_exit fun a hF=>hQ _ _ _ (Outs.out nofun (Exits.here ⟨hS,hF.weaken trivial⟩))
theorem ps_Same_api_Put_ok (K:Nat) (l0:List SPut) (A0:OA) (c0:Nat) (l1:List SPut) (A1:OA) (c1:Nat) (w0:World) (hR0:RdL w0 A0 l0) (hL0:l0.length≤c0) (hR1:RdL w0 A1 l1) (hL1:l1.length≤c1) (r:Bool) (h:ps_Same_api_Put.f K l0 l1=some r) :
  Calls Try.prog 19 #[.slice A0 l0.length c0,.slice A1 l1.length c1] w0 (ps_Same_api_Put.Post w0 r):=by
 have hS:=St.start w0
 unfold ps_Same_api_Put.f at h
 refine calls_enter (n:=26) (args:=[.slice A0 l0.length c0,.slice A1 l1.length c1]) (fn:=Try.f19) rfl rfl rfl rfl ?_
 show WE _ _ _ _ [(0,.slice A0 l0.length c0),(1,.slice A1 l1.length c1)] _
 refine ws fun K1 hK1=>wr [(0,0)]<|gb0 [0] [(4,.bool false)]<|gn hK1<|ws fun K2 hK2=>ws fun K3 hK3=>wr [(0,0),(1,0),(2,0),(3,0),(4,0)]<|gb0 [0,1,2,3,4] [(10,.bool ((l0.length:Int) != (l1.length:Int))),(9,vI (l1.length:Int)),(8,.slice A1 l1.length c1),(7,vI (l0.length:Int)),(6,.slice A0 l0.length c0)]<|gn hK3 ?_
 by_cases hc1:(l0.length:Int)=(l1.length:Int)
 ·rw [if_pos hc1] at h
  refine wk 10 ((l0.length:Int) != (l1.length:Int)) false (bne_eq_false_iff_eq.2 hc1)<|wf<|we_skip fun a hF=>hK2 _ _ ?_ a hF
  refine ws fun K4 hK4=>ws fun K5 hK5=>wr [(0,0),(1,0),(2,0)]<|gb0 [0,1,2] [(13,vI 0),(12,vI (l0.length:Int)),(11,.slice A0 l0.length c0)]<|gn hK5<|we_block ?_
  rcases hq1:iter (ps_Same_api_Put.r0 l0 l1) K 0 with _ | (_ | rr1)
  ·rw [hq1] at h; cases h
  ·rw [hq1] at h
   simp only [] at h
   refine we_iter (A:=ps_Same_api_Put.A0 w0 l0 A0 c0 l1 A1 c1) (B:=ps_Same_api_Put.B0 w0) hq1 (fun a hF=>⟨hS,hF.weaken ea⟩) (fun s o hf a w hA Q hQ=>ps_Same_api_Put_r0 K w0 l0 A0 c0 l1 A1 c1 hR0 hL0 hR1 hL1 hc1 s o hf a w hA Q hQ) ?_
   rintro _ a w1 _ ⟨rfl,hS2,hF⟩
   replace hS2:St w0 w1 []:=hS2
   refine hK4 [] w1 ?_ a hF
   refine ws fun K12 hK12=>wr [(0,0)]<|gb0 [0] [(4,.bool true)]<|gn hK12 ?_
   obtain rfl:=si h
   exact we_ret (pr0 [.tmp 4] [.bool true] ⟨rfl,hS2⟩)
  rw [hq1] at h
  simp only [] at h
  refine we_iter (A:=ps_Same_api_Put.A0 w0 l0 A0 c0 l1 A1 c1) (B:=ps_Same_api_Put.B0 w0) hq1 (fun a hF=>⟨hS,hF.weaken ea⟩) (fun s o hf a w hA Q hQ=>ps_Same_api_Put_r0 K w0 l0 A0 c0 l1 A1 c1 hR0 hL0 hR1 hL1 hc1 s o hf a w hA Q hQ) ?_
  rintro _ a w1 _ ⟨rfl,hb⟩
  obtain rfl:=si h
  exact hb
 rw [if_neg hc1] at h
 refine wk 10 ((l0.length:Int) != (l1.length:Int)) true (bne_iff_ne.2 hc1)<|wt<|ws fun K13 hK13=>wr [(0,0)]<|gb0 [0] [(4,.bool false)]<|gn hK13 ?_
 obtain rfl:=si h
 exact we_ret (pr0 [.tmp 4] [.bool false] ⟨rfl,hS⟩)

/-! punctual/punctuallaw.does -/
abbrev does.Post (w0:World) (r:Bool) (e:Ending) (w:World):Prop:=e=.returned (.bool r)∧St w0 w []
def does.p0 (K : Nat) : Option (((List Int) × (List SPut) × Int × Int × Int) ⊕ Bool) :=
  match meaning_Run.f K plain.f (List.replicate 8 (0:Int)) ([5,0,0,0]:List Int) with
  | none=>none
  | some r1 =>
   some (.inl (r1.1.Vars,r1.1.Puts,r1.1.Steps,r1.2.Code,r1.2.At))
def does.f (K : Nat) : Option Bool :=
 match does.p0 K with
 | none=>none
 | some (.inl (m3,m4,z4,z5,z6)) =>
  if z5=0 then
   if z4=5 then
    if (m3.length:Int)=8 then
     match m3[0]? with
     | none=>none
     | some e1 =>
      if e1=15 then
       match ps_Same_api_Put.f K m4 ([(⟨1,30⟩:SPut)]:List SPut) with
       | none=>none
       | some r1 =>
        some r1
      else
       some false
    else
     some false
   else
    some false
  else
   some false
 | some (.inr rr1) =>
  some rr1
abbrev does.t1_0:Ord:=(.alt 9 2 (.alt 10 2 .fin .nomore) .nomore)
abbrev does.t1_1:Ord:=(.alt 3 1 (.vals [4] (.vals [5] (.vals [6] does.t1_0))) .nomore)
abbrev does.t1_2:Ord:=(.alt 0 1 does.t1_1 .nomore)
abbrev does.t1_3:Ord:=(.alt 1 1 does.t1_1 .nomore)
abbrev does.t1_4:Ord:=(.alt 0 1 does.t1_3 (.alt 1 1 does.t1_2 .nomore))
abbrev does.t1_5:Ord:=(.alt 2 1 does.t1_1 .nomore)
abbrev does.t1_6:Ord:=(.alt 0 1 does.t1_5 (.alt 2 1 does.t1_2 .nomore))
abbrev does.t1_7:Ord:=(.alt 1 1 does.t1_5 (.alt 2 1 does.t1_3 .nomore))
abbrev does.t1_8:Ord:=(.alt 0 1 does.t1_7 (.alt 1 1 does.t1_6 (.alt 2 1 does.t1_4 .nomore)))
abbrev does.t1_9:Ord:=(.alt 7 1 does.t1_0 .nomore)
abbrev does.t1_10:Ord:=(.alt 3 1 (.vals [4] (.vals [5] (.vals [6] does.t1_9))) (.alt 7 1 does.t1_1 .nomore))
abbrev does.t1_11:Ord:=(.alt 0 1 does.t1_10 (.alt 7 1 does.t1_2 .nomore))
abbrev does.t1_12:Ord:=(.alt 1 1 does.t1_10 (.alt 7 1 does.t1_3 .nomore))
abbrev does.t1_13:Ord:=(.alt 0 1 does.t1_12 (.alt 1 1 does.t1_11 (.alt 7 1 does.t1_4 .nomore)))
abbrev does.t1_14:Ord:=(.alt 2 1 does.t1_10 (.alt 7 1 does.t1_5 .nomore))
abbrev does.t1_15:Ord:=(.alt 0 1 does.t1_14 (.alt 2 1 does.t1_11 (.alt 7 1 does.t1_6 .nomore)))
abbrev does.t1_16:Ord:=(.alt 1 1 does.t1_14 (.alt 2 1 does.t1_12 (.alt 7 1 does.t1_7 .nomore)))
abbrev does.t1_17:Ord:=(.alt 8 1 does.t1_0 .nomore)
abbrev does.t1_18:Ord:=(.alt 3 1 (.vals [4] (.vals [5] (.vals [6] does.t1_17))) (.alt 8 1 does.t1_1 .nomore))
abbrev does.t1_19:Ord:=(.alt 0 1 does.t1_18 (.alt 8 1 does.t1_2 .nomore))
abbrev does.t1_20:Ord:=(.alt 1 1 does.t1_18 (.alt 8 1 does.t1_3 .nomore))
abbrev does.t1_21:Ord:=(.alt 0 1 does.t1_20 (.alt 1 1 does.t1_19 (.alt 8 1 does.t1_4 .nomore)))
abbrev does.t1_22:Ord:=(.alt 2 1 does.t1_18 (.alt 8 1 does.t1_5 .nomore))
abbrev does.t1_23:Ord:=(.alt 0 1 does.t1_22 (.alt 2 1 does.t1_19 (.alt 8 1 does.t1_6 .nomore)))
abbrev does.t1_24:Ord:=(.alt 1 1 does.t1_22 (.alt 2 1 does.t1_20 (.alt 8 1 does.t1_7 .nomore)))
abbrev does.t1_25:Ord:=(.alt 3 1 (.vals [4] (.vals [5] (.vals [6] (.alt 7 1 does.t1_17 (.alt 8 1 does.t1_9 .nomore))))) (.alt 7 1 does.t1_18 (.alt 8 1 does.t1_10 .nomore)))
abbrev does.t1_26:Ord:=(.alt 0 1 does.t1_25 (.alt 7 1 does.t1_19 (.alt 8 1 does.t1_11 .nomore)))
abbrev does.t1_27:Ord:=(.alt 1 1 does.t1_25 (.alt 7 1 does.t1_20 (.alt 8 1 does.t1_12 .nomore)))
abbrev does.t1_28:Ord:=(.alt 2 1 does.t1_25 (.alt 7 1 does.t1_22 (.alt 8 1 does.t1_14 .nomore)))
abbrev does.A0 (w0 wf1:World):((List Int)×(List SPut)×Int×Int×Int)→Act→World→Prop:=fun (s:(List Int)×(List SPut)×Int×Int×Int) a w=>∃ (ft2:List Nat) (wf2:World) (b1:Nat) (b2:Nat) (v1:Value) (v2:Value),Sub wf1 wf2∧St w0 w [bk b1 #[v1,v2,vI s.2.2.1] 28,bk b2 #[vI s.2.2.2.1,vI s.2.2.2.2] 31,Own.of v1 3 s.1,Own.of v2 42 s.2.1,Own.frz ft2 wf2]∧Frm 38 a [(1,pP b1 0),(2,pP b2 0)]
abbrev does.B0 (w0:World):Bool→Exit→Act→World→Prop:=Rets Try.prog Try.f6 (does.Post w0)
theorem does_p0 (K:Nat) (w0:World) (Z:Zone) (hZ:∀ w,Sub w0 w→Z w) (ft1:List Nat) (wf1:World) (o:((List Int)×(List SPut)×Int×Int×Int) ⊕ Bool) (h:does.p0 K=some o) (w:World) (hS:St w0 w [Own.frz ft1 wf1]) (Q:Exit→Act→World→Prop) (hQ:∀ x a w,Outs (does.A0 w0 wf1) (does.B0 w0) o x a w→Q x a w):WE Try.prog 38 (subF Try.f6 [1,0]) Q [(0,.bool false)] w:=by
 simp only [does.p0] at h
 refine we_orders3 (by kernel_rfl) [] (.alt 0 1 (.alt 1 1 does.t1_28 (.alt 2 1 does.t1_27 (.alt 7 1 does.t1_24 (.alt 8 1 does.t1_16 .nomore)))) (.alt 1 1 (.alt 0 1 does.t1_28 (.alt 2 1 does.t1_26 (.alt 7 1 does.t1_23 (.alt 8 1 does.t1_15 .nomore)))) (.alt 2 1 (.alt 0 1 does.t1_27 (.alt 1 1 does.t1_26 (.alt 7 1 does.t1_21 (.alt 8 1 does.t1_13 .nomore)))) (.alt 7 1 (.alt 0 1 does.t1_24 (.alt 1 1 does.t1_23 (.alt 2 1 does.t1_21 (.alt 8 1 does.t1_8 .nomore)))) (.alt 8 1 (.alt 0 1 does.t1_16 (.alt 1 1 does.t1_15 (.alt 2 1 does.t1_13 (.alt 7 1 does.t1_8 .nomore)))) .nomore))))) (by kernel_rfl) (by kernel_rfl) ?_
 have hS2:=hS.drew
 refine go3_join does.t1_0 (fun (x:(List HStmt)×(List Nat)×World×(List Nat)×World×Nat×(Option Addr)×Nat×(List Nat)×World×(Option Addr)×Nat×(SEnded×SFault)×Value×Value×Nat×Nat) e w=>match x with | (hds1,ft3,wf3,ft4,wf4,b3,Z1,cz1,ft5,wf5,Z2,cz2,r1,v5,v6,b4,b5)=>e=[(0,.bool false),(1,pP b4 0),(2,pP b5 0),(8,.agg #[v5,v6,vI r1.1.Steps]),(9,.agg #[vI r1.2.Code,vI r1.2.At])]∧(Sub wf3 wf4)∧(Sub wf1 wf4)∧(DRows (Zand Z wf4) hds1 plain.f)∧(Sub wf4 wf5)∧(RdZ (Zand Z wf5) Z1 plain.f)∧(plain.f.length≤cz1)∧(meaning_Run.f K plain.f (List.replicate 8 (0:Int)) ([5,0,0,0]:List Int)=some r1)∧St w0 w [bk b5 #[vI 0,vI 0] 31,bk b4 #[.slice none 0 0,.slice none 0 0,vI 0] 28,Own.of v5 3 r1.1.Vars,Own.of v6 42 r1.1.Puts,Own.frz ft5 wf5,bk b3 #[vI 5,vI 0,vI 0,vI 0] 3,ro Z2 cz2 3 (List.replicate 8 (0:Int))]) ?_ fun hJ1_3=>?_
 ·rintro ⟨hds1,ft3,wf3,ft4,wf4,b3,Z1,cz1,ft5,wf5,Z2,cz2,r1,v5,v6,b4,b5⟩ _ W4 ⟨rfl,hsb2,hsb3,hd1,hsb4,hRd1,hLd1,hq2,hS20⟩
  replace hS20:St w0 W4 [bk b5 #[vI 0,vI 0] 31,bk b4 #[.slice none 0 0,.slice none 0 0,vI 0] 28,Own.of v5 3 r1.1.Vars,Own.of v6 42 r1.1.Puts,Own.frz ft5 wf5,bk b3 #[vI 5,vI 0,vI 0,vI 0] 3,ro Z2 cz2 3 (List.replicate 8 (0:Int))]:=hS20
  rw [hq2] at h
  simp only [] at h
  refine go_alt3 (fun KK hKK=>?_) ?_
  ·obtain ⟨Z3,cz3,rfl⟩:=hS20.open 2 rfl
   obtain ⟨Z4,cz4,rfl⟩:=hS20.open 3 rfl
   have hS21:=hS20.b 1
   refine gs b4 0 #[.slice none 0 0,.slice none 0 0,vI 0] 28 [(.slice Z3 r1.1.Vars.length cz3),(.slice Z4 r1.1.Puts.length cz4),vI r1.1.Steps] hS21 fun w7 hS22=>?_
   have hS23:=hS22.nc #[(.slice Z3 r1.1.Vars.length cz3),(.slice Z4 r1.1.Puts.length cz4),vI r1.1.Steps] (by kernel_rfl)
   refine g2 hKK<|go_alt3 (fun KK hKK=>?_) ?_
   ·have hS24:=hS23.b 1
    refine gs b5 0 #[vI 0,vI 0] 31 [vI r1.2.Code,vI r1.2.At] hS24 fun w8 hS25=>?_
    have hS26:=hS25.nc #[vI r1.2.Code,vI r1.2.At] (by kernel_rfl)
    refine g2 hKK ?_
    have hS32:=hS26.p [1,0,2,3,4] rfl
    obtain rfl:=si h
    exact go_fin3 fun a hF=>hQ _ _ _ (Outs.again ⟨ft5,wf5,b4,b5,(.slice Z3 r1.1.Vars.length cz3),(.slice Z4 r1.1.Puts.length cz4),(hsb3.trans hsb4),hS32,hF.weaken ea⟩)
   exact go_nomore3
  exact go_nomore3
 refine go3_join does.t1_17 (fun (x:(List HStmt)×(List Nat)×World×(List Nat)×World×Nat×(Option Addr)×Nat×(List Nat)×World×(Option Addr)×Nat×(SEnded×SFault)×Value×Value×Nat) e w=>match x with | (hds1,ft3,wf3,ft4,wf4,b3,Z1,cz1,ft5,wf5,Z2,cz2,r1,v5,v6,b4)=>e=[(0,.bool false),(1,pP b4 0),(8,.agg #[v5,v6,vI r1.1.Steps]),(9,.agg #[vI r1.2.Code,vI r1.2.At])]∧(Sub wf3 wf4)∧(Sub wf1 wf4)∧(DRows (Zand Z wf4) hds1 plain.f)∧(Sub wf4 wf5)∧(RdZ (Zand Z wf5) Z1 plain.f)∧(plain.f.length≤cz1)∧(meaning_Run.f K plain.f (List.replicate 8 (0:Int)) ([5,0,0,0]:List Int)=some r1)∧St w0 w [bk b4 #[.slice none 0 0,.slice none 0 0,vI 0] 28,Own.of v5 3 r1.1.Vars,Own.of v6 42 r1.1.Puts,Own.frz ft5 wf5,bk b3 #[vI 5,vI 0,vI 0,vI 0] 3,ro Z2 cz2 3 (List.replicate 8 (0:Int))]) ?_ fun hJ1_2=>?_
 ·rintro ⟨hds1,ft3,wf3,ft4,wf4,b3,Z1,cz1,ft5,wf5,Z2,cz2,r1,v5,v6,b4⟩ _ W3 ⟨rfl,hsb2,hsb3,hd1,hsb4,hRd1,hLd1,hq2,hS18⟩
  replace hS18:St w0 W3 [bk b4 #[.slice none 0 0,.slice none 0 0,vI 0] 28,Own.of v5 3 r1.1.Vars,Own.of v6 42 r1.1.Puts,Own.frz ft5 wf5,bk b3 #[vI 5,vI 0,vI 0,vI 0] 3,ro Z2 cz2 3 (List.replicate 8 (0:Int))]:=hS18
  rw [hq2] at h
  simp only [] at h
  refine go_alt3 (fun KK hKK=>?_) ?_
  ·refine ge_one2<|gw (some 2) (.cells #[vI 0,vI 0] 31) (fun b=>pP b 0) hS18 fun b5 w6 hx3 hS19=>?_
   refine g2 hKK ?_
   have hS39:=((((((hS19.b 6).b 6).b 6).b 6).b 6).b 6).b 6
   exact go3_keep [(0,.bool false),(1,pP b4 0),(2,pP b5 0),(8,.agg #[v5,v6,vI r1.1.Steps]),(9,.agg #[vI r1.2.Code,vI r1.2.At])] ea (hJ1_3 (hds1,ft3,wf3,ft4,wf4,b3,Z1,cz1,ft5,wf5,Z2,cz2,r1,v5,v6,b4,b5) _ _ ⟨rfl,hsb2,hsb3,hd1,hsb4,hRd1,hLd1,hq2,hS39⟩)
  exact go_nomore3
 refine go3_join does.t1_9 (fun (x:(List HStmt)×(List Nat)×World×(List Nat)×World×Nat×(Option Addr)×Nat×(List Nat)×World×(Option Addr)×Nat×(SEnded×SFault)×Value×Value×Nat) e w=>match x with | (hds1,ft3,wf3,ft4,wf4,b3,Z1,cz1,ft5,wf5,Z2,cz2,r1,v5,v6,b4)=>e=[(0,.bool false),(2,pP b4 0),(8,.agg #[v5,v6,vI r1.1.Steps]),(9,.agg #[vI r1.2.Code,vI r1.2.At])]∧(Sub wf3 wf4)∧(Sub wf1 wf4)∧(DRows (Zand Z wf4) hds1 plain.f)∧(Sub wf4 wf5)∧(RdZ (Zand Z wf5) Z1 plain.f)∧(plain.f.length≤cz1)∧(meaning_Run.f K plain.f (List.replicate 8 (0:Int)) ([5,0,0,0]:List Int)=some r1)∧St w0 w [bk b4 #[vI 0,vI 0] 31,Own.of v5 3 r1.1.Vars,Own.of v6 42 r1.1.Puts,Own.frz ft5 wf5,bk b3 #[vI 5,vI 0,vI 0,vI 0] 3,ro Z2 cz2 3 (List.replicate 8 (0:Int))]) ?_ fun hJ1_4=>?_
 ·rintro ⟨hds1,ft3,wf3,ft4,wf4,b3,Z1,cz1,ft5,wf5,Z2,cz2,r1,v5,v6,b4⟩ _ W3 ⟨rfl,hsb2,hsb3,hd1,hsb4,hRd1,hLd1,hq2,hS18⟩
  replace hS18:St w0 W3 [bk b4 #[vI 0,vI 0] 31,Own.of v5 3 r1.1.Vars,Own.of v6 42 r1.1.Puts,Own.frz ft5 wf5,bk b3 #[vI 5,vI 0,vI 0,vI 0] 3,ro Z2 cz2 3 (List.replicate 8 (0:Int))]:=hS18
  rw [hq2] at h
  simp only [] at h
  refine go_alt3 (fun KK hKK=>?_) ?_
  ·refine ge_one2<|gw (some 1) (.cells #[.slice none 0 0,.slice none 0 0,vI 0] 28) (fun b=>pP b 0) hS18 fun b5 w6 hx3 hS19=>?_
   refine g2 hKK ?_
   have hS26:=((((((hS19.b 6).b 6).b 6).b 6).b 6).b 5).b 6
   exact go3_keep [(0,.bool false),(1,pP b5 0),(2,pP b4 0),(8,.agg #[v5,v6,vI r1.1.Steps]),(9,.agg #[vI r1.2.Code,vI r1.2.At])] ea (hJ1_3 (hds1,ft3,wf3,ft4,wf4,b3,Z1,cz1,ft5,wf5,Z2,cz2,r1,v5,v6,b5,b4) _ _ ⟨rfl,hsb2,hsb3,hd1,hsb4,hRd1,hLd1,hq2,hS26⟩)
  exact go_nomore3
 refine go3_join does.t1_1 (fun (x:Value×(List HStmt)×(List Nat)×World×(List Nat)×World×Value×Nat×Nat×Nat) e w=>match x with | (v3,hds1,ft3,wf3,ft4,wf4,v4,b3,b4,b5)=>e=[(0,.bool false),(1,pP b4 0),(2,pP b5 0),(4,v3),(5,v4),(6,.slice (some ⟨b3,0,none⟩) 4 4)]∧(Sub wf3 wf4)∧(Sub wf1 wf4)∧(DRows (Zand Z wf4) hds1 plain.f)∧St w0 w [bk b5 #[vI 0,vI 0] 31,bk b4 #[.slice none 0 0,.slice none 0 0,vI 0] 28,bk b3 #[vI 5,vI 0,vI 0,vI 0] 3,Own.of v4 3 (List.replicate 8 (0:Int)),Own.frz ft4 wf4,Own.of v3 70 hds1]) ?_ fun hJ1_6=>?_
 ·rintro ⟨v3,hds1,ft3,wf3,ft4,wf4,v4,b3,b4,b5⟩ _ W4 ⟨rfl,hsb2,hsb3,hd1,hS15⟩
  replace hS15:St w0 W4 [bk b5 #[vI 0,vI 0] 31,bk b4 #[.slice none 0 0,.slice none 0 0,vI 0] 28,bk b3 #[vI 5,vI 0,vI 0,vI 0] 3,Own.of v4 3 (List.replicate 8 (0:Int)),Own.frz ft4 wf4,Own.of v3 70 hds1]:=hS15
  refine go_alt3 (fun KK hKK=>?_) ?_
  ·refine ge_one2 ?_
   obtain ⟨Z1,cz1,rfl⟩:=hS15.dopen 5 rfl hd1
   have hS17:=(hS15.b 4).b 5
   obtain ⟨ft5,wf5,hsb4,-,hRd1,hLd1,hS18⟩:=hS17.dfrz (Z:=Z) hd1
   obtain ⟨Z2,cz2,rfl⟩:=hS18.open 4 rfl
   rcases hq2:meaning_Run.f K plain.f (List.replicate 8 (0:Int)) ([5,0,0,0]:List Int) with _ | r1
   ·rw [hq2] at h; cases h
   rw [hq2] at h
   simp only [] at h
   refine ge_call (d:=some 7) (f:=11) (args:=#[.slice Z1 plain.f.length cz1,(.slice Z2 (List.replicate 8 (0:Int)).length cz2),.slice (some ⟨b3,0,none⟩) 4 4]) (by kernel_rfl) (meaning_Run_ok K (Zand Z wf5) plain.f Z1 cz1 (List.replicate 8 (0:Int)) Z2 cz2 ([5,0,0,0]:List Int) (some ⟨b3,0,none⟩) 4 _ (fun w' k=>⟨(hZ w' (hS18.subw.trans k)),(hS18.frzSub 0 rfl).trans k⟩) hRd1 hLd1 (hS18.rdAt 4 rfl) (hS18.capAt 4 rfl) (hS18.rdBlk 3 ([5,0,0,0]:List Int) rfl rfl rfl) (Nat.le_refl _) _ hq2) ?_
   rintro _ w6 ⟨v5,v6,rfl,hS19⟩
   refine ⟨_,rfl,hS19.below,?_⟩
   have hS20:=hS18.call hS19
   refine g2 hKK<|g30 [4,5,6] [(9,.agg #[vI r1.2.Code,vI r1.2.At]),(8,.agg #[v5,v6,vI r1.1.Steps]),(3,.tuple #[.agg #[v5,v6,vI r1.1.Steps],.agg #[vI r1.2.Code,vI r1.2.At]])] ?_
   have hS27:=((((((hS20.b 6).b 6).b 4).b 4).b 4).b 6).b 6
   exact go3_keep [(0,.bool false),(1,pP b4 0),(2,pP b5 0),(8,.agg #[v5,v6,vI r1.1.Steps]),(9,.agg #[vI r1.2.Code,vI r1.2.At])] ea (hJ1_3 (hds1,ft3,wf3,ft4,wf4,b3,Z1,cz1,ft5,wf5,Z2,cz2,r1,v5,v6,b4,b5) _ _ ⟨rfl,hsb2,hsb3,hd1,hsb4,hRd1,hLd1,hq2,hS27⟩)
  exact go_nomore3
 refine go3_join does.t1_18 (fun (x:Value×(List HStmt)×(List Nat)×World×(List Nat)×World×Value×Nat×Nat) e w=>match x with | (v3,hds1,ft3,wf3,ft4,wf4,v4,b3,b4)=>e=[(0,.bool false),(1,pP b4 0),(4,v3),(5,v4),(6,.slice (some ⟨b3,0,none⟩) 4 4)]∧(Sub wf3 wf4)∧(Sub wf1 wf4)∧(DRows (Zand Z wf4) hds1 plain.f)∧St w0 w [bk b4 #[.slice none 0 0,.slice none 0 0,vI 0] 28,bk b3 #[vI 5,vI 0,vI 0,vI 0] 3,Own.of v4 3 (List.replicate 8 (0:Int)),Own.frz ft4 wf4,Own.of v3 70 hds1]) ?_ fun hJ1_5=>?_
 ·rintro ⟨v3,hds1,ft3,wf3,ft4,wf4,v4,b3,b4⟩ _ W3 ⟨rfl,hsb2,hsb3,hd1,hS13⟩
  replace hS13:St w0 W3 [bk b4 #[.slice none 0 0,.slice none 0 0,vI 0] 28,bk b3 #[vI 5,vI 0,vI 0,vI 0] 3,Own.of v4 3 (List.replicate 8 (0:Int)),Own.frz ft4 wf4,Own.of v3 70 hds1]:=hS13
  refine go_alt3 (fun KK hKK=>?_) ?_
  ·refine ge_one2 ?_
   obtain ⟨Z1,cz1,rfl⟩:=hS13.dopen 4 rfl hd1
   have hS15:=(hS13.b 3).b 4
   obtain ⟨ft5,wf5,hsb4,-,hRd1,hLd1,hS16⟩:=hS15.dfrz (Z:=Z) hd1
   obtain ⟨Z2,cz2,rfl⟩:=hS16.open 3 rfl
   rcases hq2:meaning_Run.f K plain.f (List.replicate 8 (0:Int)) ([5,0,0,0]:List Int) with _ | r1
   ·rw [hq2] at h; cases h
   rw [hq2] at h
   simp only [] at h
   refine ge_call (d:=some 7) (f:=11) (args:=#[.slice Z1 plain.f.length cz1,(.slice Z2 (List.replicate 8 (0:Int)).length cz2),.slice (some ⟨b3,0,none⟩) 4 4]) (by kernel_rfl) (meaning_Run_ok K (Zand Z wf5) plain.f Z1 cz1 (List.replicate 8 (0:Int)) Z2 cz2 ([5,0,0,0]:List Int) (some ⟨b3,0,none⟩) 4 _ (fun w' k=>⟨(hZ w' (hS16.subw.trans k)),(hS16.frzSub 0 rfl).trans k⟩) hRd1 hLd1 (hS16.rdAt 3 rfl) (hS16.capAt 3 rfl) (hS16.rdBlk 2 ([5,0,0,0]:List Int) rfl rfl rfl) (Nat.le_refl _) _ hq2) ?_
   rintro _ w5 ⟨v5,v6,rfl,hS17⟩
   refine ⟨_,rfl,hS17.below,?_⟩
   have hS18:=hS16.call hS17
   refine g2 hKK<|g30 [4,5,6] [(9,.agg #[vI r1.2.Code,vI r1.2.At]),(8,.agg #[v5,v6,vI r1.1.Steps]),(3,.tuple #[.agg #[v5,v6,vI r1.1.Steps],.agg #[vI r1.2.Code,vI r1.2.At]])] ?_
   have hS24:=(((((hS18.b 5).b 5).b 4).b 4).b 4).b 5
   exact go3_keep [(0,.bool false),(1,pP b4 0),(8,.agg #[v5,v6,vI r1.1.Steps]),(9,.agg #[vI r1.2.Code,vI r1.2.At])] ea (hJ1_2 (hds1,ft3,wf3,ft4,wf4,b3,Z1,cz1,ft5,wf5,Z2,cz2,r1,v5,v6,b4) _ _ ⟨rfl,hsb2,hsb3,hd1,hsb4,hRd1,hLd1,hq2,hS24⟩)
  refine go_alt3 (fun KK hKK=>?_) ?_
  ·refine ge_one2<|gw (some 2) (.cells #[vI 0,vI 0] 31) (fun b=>pP b 0) hS13 fun b5 w5 hx3 hS14=>?_
   refine g2 hKK ?_
   have hS33:=(((((hS14.b 5).b 5).b 5).b 5).b 5).b 5
   exact go3_keep [(0,.bool false),(1,pP b4 0),(2,pP b5 0),(4,v3),(5,v4),(6,.slice (some ⟨b3,0,none⟩) 4 4)] ea (hJ1_6 (v3,hds1,ft3,wf3,ft4,wf4,v4,b3,b4,b5) _ _ ⟨rfl,hsb2,hsb3,hd1,hS33⟩)
  exact go_nomore3
 refine go3_join does.t1_10 (fun (x:Value×(List HStmt)×(List Nat)×World×(List Nat)×World×Value×Nat×Nat) e w=>match x with | (v3,hds1,ft3,wf3,ft4,wf4,v4,b3,b4)=>e=[(0,.bool false),(2,pP b4 0),(4,v3),(5,v4),(6,.slice (some ⟨b3,0,none⟩) 4 4)]∧(Sub wf3 wf4)∧(Sub wf1 wf4)∧(DRows (Zand Z wf4) hds1 plain.f)∧St w0 w [bk b4 #[vI 0,vI 0] 31,bk b3 #[vI 5,vI 0,vI 0,vI 0] 3,Own.of v4 3 (List.replicate 8 (0:Int)),Own.frz ft4 wf4,Own.of v3 70 hds1]) ?_ fun hJ1_7=>?_
 ·rintro ⟨v3,hds1,ft3,wf3,ft4,wf4,v4,b3,b4⟩ _ W3 ⟨rfl,hsb2,hsb3,hd1,hS13⟩
  replace hS13:St w0 W3 [bk b4 #[vI 0,vI 0] 31,bk b3 #[vI 5,vI 0,vI 0,vI 0] 3,Own.of v4 3 (List.replicate 8 (0:Int)),Own.frz ft4 wf4,Own.of v3 70 hds1]:=hS13
  refine go_alt3 (fun KK hKK=>?_) ?_
  ·refine ge_one2 ?_
   obtain ⟨Z1,cz1,rfl⟩:=hS13.dopen 4 rfl hd1
   have hS15:=(hS13.b 3).b 4
   obtain ⟨ft5,wf5,hsb4,-,hRd1,hLd1,hS16⟩:=hS15.dfrz (Z:=Z) hd1
   obtain ⟨Z2,cz2,rfl⟩:=hS16.open 3 rfl
   rcases hq2:meaning_Run.f K plain.f (List.replicate 8 (0:Int)) ([5,0,0,0]:List Int) with _ | r1
   ·rw [hq2] at h; cases h
   rw [hq2] at h
   simp only [] at h
   refine ge_call (d:=some 7) (f:=11) (args:=#[.slice Z1 plain.f.length cz1,(.slice Z2 (List.replicate 8 (0:Int)).length cz2),.slice (some ⟨b3,0,none⟩) 4 4]) (by kernel_rfl) (meaning_Run_ok K (Zand Z wf5) plain.f Z1 cz1 (List.replicate 8 (0:Int)) Z2 cz2 ([5,0,0,0]:List Int) (some ⟨b3,0,none⟩) 4 _ (fun w' k=>⟨(hZ w' (hS16.subw.trans k)),(hS16.frzSub 0 rfl).trans k⟩) hRd1 hLd1 (hS16.rdAt 3 rfl) (hS16.capAt 3 rfl) (hS16.rdBlk 2 ([5,0,0,0]:List Int) rfl rfl rfl) (Nat.le_refl _) _ hq2) ?_
   rintro _ w5 ⟨v5,v6,rfl,hS17⟩
   refine ⟨_,rfl,hS17.below,?_⟩
   have hS18:=hS16.call hS17
   refine g2 hKK<|g30 [4,5,6] [(9,.agg #[vI r1.2.Code,vI r1.2.At]),(8,.agg #[v5,v6,vI r1.1.Steps]),(3,.tuple #[.agg #[v5,v6,vI r1.1.Steps],.agg #[vI r1.2.Code,vI r1.2.At]])] ?_
   have hS24:=(((((hS18.b 5).b 5).b 4).b 4).b 4).b 5
   exact go3_keep [(0,.bool false),(2,pP b4 0),(8,.agg #[v5,v6,vI r1.1.Steps]),(9,.agg #[vI r1.2.Code,vI r1.2.At])] ea (hJ1_4 (hds1,ft3,wf3,ft4,wf4,b3,Z1,cz1,ft5,wf5,Z2,cz2,r1,v5,v6,b4) _ _ ⟨rfl,hsb2,hsb3,hd1,hsb4,hRd1,hLd1,hq2,hS24⟩)
  refine go_alt3 (fun KK hKK=>?_) ?_
  ·refine ge_one2<|gw (some 1) (.cells #[.slice none 0 0,.slice none 0 0,vI 0] 28) (fun b=>pP b 0) hS13 fun b5 w5 hx3 hS14=>?_
   refine g2 hKK ?_
   have hS20:=(((((hS14.b 5).b 5).b 5).b 5).b 4).b 5
   exact go3_keep [(0,.bool false),(1,pP b5 0),(2,pP b4 0),(4,v3),(5,v4),(6,.slice (some ⟨b3,0,none⟩) 4 4)] ea (hJ1_6 (v3,hds1,ft3,wf3,ft4,wf4,v4,b3,b5,b4) _ _ ⟨rfl,hsb2,hsb3,hd1,hS20⟩)
  exact go_nomore3
 refine go3_join does.t1_25 (fun (x:Value×(List HStmt)×(List Nat)×World×(List Nat)×World×Value×Nat) e w=>match x with | (v3,hds1,ft3,wf3,ft4,wf4,v4,b3)=>e=[(0,.bool false),(4,v3),(5,v4),(6,.slice (some ⟨b3,0,none⟩) 4 4)]∧(Sub wf3 wf4)∧(Sub wf1 wf4)∧(DRows (Zand Z wf4) hds1 plain.f)∧St w0 w [bk b3 #[vI 5,vI 0,vI 0,vI 0] 3,Own.of v4 3 (List.replicate 8 (0:Int)),Own.frz ft4 wf4,Own.of v3 70 hds1]) ?_ fun hJ1_1=>?_
 ·rintro ⟨v3,hds1,ft3,wf3,ft4,wf4,v4,b3⟩ _ W2 ⟨rfl,hsb2,hsb3,hd1,hS11⟩
  replace hS11:St w0 W2 [bk b3 #[vI 5,vI 0,vI 0,vI 0] 3,Own.of v4 3 (List.replicate 8 (0:Int)),Own.frz ft4 wf4,Own.of v3 70 hds1]:=hS11
  refine go_alt3 (fun KK hKK=>?_) ?_
  ·refine ge_one2 ?_
   obtain ⟨Z1,cz1,rfl⟩:=hS11.dopen 3 rfl hd1
   have hS13:=(hS11.b 2).b 3
   obtain ⟨ft5,wf5,hsb4,-,hRd1,hLd1,hS14⟩:=hS13.dfrz (Z:=Z) hd1
   obtain ⟨Z2,cz2,rfl⟩:=hS14.open 2 rfl
   rcases hq2:meaning_Run.f K plain.f (List.replicate 8 (0:Int)) ([5,0,0,0]:List Int) with _ | r1
   ·rw [hq2] at h; cases h
   rw [hq2] at h
   simp only [] at h
   refine ge_call (d:=some 7) (f:=11) (args:=#[.slice Z1 plain.f.length cz1,(.slice Z2 (List.replicate 8 (0:Int)).length cz2),.slice (some ⟨b3,0,none⟩) 4 4]) (by kernel_rfl) (meaning_Run_ok K (Zand Z wf5) plain.f Z1 cz1 (List.replicate 8 (0:Int)) Z2 cz2 ([5,0,0,0]:List Int) (some ⟨b3,0,none⟩) 4 _ (fun w' k=>⟨(hZ w' (hS14.subw.trans k)),(hS14.frzSub 0 rfl).trans k⟩) hRd1 hLd1 (hS14.rdAt 2 rfl) (hS14.capAt 2 rfl) (hS14.rdBlk 1 ([5,0,0,0]:List Int) rfl rfl rfl) (Nat.le_refl _) _ hq2) ?_
   rintro _ w4 ⟨v5,v6,rfl,hS15⟩
   refine ⟨_,rfl,hS15.below,?_⟩
   have hS16:=hS14.call hS15
   refine g2 hKK<|g30 [4,5,6] [(9,.agg #[vI r1.2.Code,vI r1.2.At]),(8,.agg #[v5,v6,vI r1.1.Steps]),(3,.tuple #[.agg #[v5,v6,vI r1.1.Steps],.agg #[vI r1.2.Code,vI r1.2.At]])]<|go_alt3 (fun KK hKK=>?_) ?_
   ·refine ge_one2<|gw (some 1) (.cells #[.slice none 0 0,.slice none 0 0,vI 0] 28) (fun b=>pP b 0) hS16 fun b4 w5 hx2 hS17=>?_
    refine g2 hKK ?_
    have hS45:=(((((hS17.b 5).b 5).b 5).b 5).b 5).b 5
    exact go3_keep [(0,.bool false),(1,pP b4 0),(8,.agg #[v5,v6,vI r1.1.Steps]),(9,.agg #[vI r1.2.Code,vI r1.2.At])] ea (hJ1_2 (hds1,ft3,wf3,ft4,wf4,b3,Z1,cz1,ft5,wf5,Z2,cz2,r1,v5,v6,b4) _ _ ⟨rfl,hsb2,hsb3,hd1,hsb4,hRd1,hLd1,hq2,hS45⟩)
   refine go_alt3 (fun KK hKK=>?_) ?_
   ·refine ge_one2<|gw (some 2) (.cells #[vI 0,vI 0] 31) (fun b=>pP b 0) hS16 fun b4 w5 hx2 hS17=>?_
    refine g2 hKK ?_
    have hS32:=(((((hS17.b 5).b 5).b 5).b 5).b 5).b 5
    exact go3_keep [(0,.bool false),(2,pP b4 0),(8,.agg #[v5,v6,vI r1.1.Steps]),(9,.agg #[vI r1.2.Code,vI r1.2.At])] ea (hJ1_4 (hds1,ft3,wf3,ft4,wf4,b3,Z1,cz1,ft5,wf5,Z2,cz2,r1,v5,v6,b4) _ _ ⟨rfl,hsb2,hsb3,hd1,hsb4,hRd1,hLd1,hq2,hS32⟩)
   exact go_nomore3
  refine go_alt3 (fun KK hKK=>?_) ?_
  ·refine ge_one2<|gw (some 1) (.cells #[.slice none 0 0,.slice none 0 0,vI 0] 28) (fun b=>pP b 0) hS11 fun b4 w4 hx2 hS12=>?_
   refine g2 hKK ?_
   have hS38:=((((hS12.b 4).b 4).b 4).b 4).b 4
   exact go3_keep [(0,.bool false),(1,pP b4 0),(4,v3),(5,v4),(6,.slice (some ⟨b3,0,none⟩) 4 4)] ea (hJ1_5 (v3,hds1,ft3,wf3,ft4,wf4,v4,b3,b4) _ _ ⟨rfl,hsb2,hsb3,hd1,hS38⟩)
  refine go_alt3 (fun KK hKK=>?_) ?_
  ·refine ge_one2<|gw (some 2) (.cells #[vI 0,vI 0] 31) (fun b=>pP b 0) hS11 fun b4 w4 hx2 hS12=>?_
   refine g2 hKK ?_
   have hS25:=((((hS12.b 4).b 4).b 4).b 4).b 4
   exact go3_keep [(0,.bool false),(2,pP b4 0),(4,v3),(5,v4),(6,.slice (some ⟨b3,0,none⟩) 4 4)] ea (hJ1_7 (v3,hds1,ft3,wf3,ft4,wf4,v4,b3,b4) _ _ ⟨rfl,hsb2,hsb3,hd1,hS25⟩)
  exact go_nomore3
 refine go3_join does.t1_5 (fun (x:Value×(List HStmt)×(List Nat)×World×(List Nat)×World×Value×Nat×Nat) e w=>match x with | (v3,hds1,ft3,wf3,ft4,wf4,v4,b3,b4)=>e=[(0,.bool false),(1,pP b3 0),(2,pP b4 0),(4,v3),(5,v4)]∧(Sub wf3 wf4)∧(Sub wf1 wf4)∧(DRows (Zand Z wf4) hds1 plain.f)∧St w0 w [bk b4 #[vI 0,vI 0] 31,bk b3 #[.slice none 0 0,.slice none 0 0,vI 0] 28,Own.of v4 3 (List.replicate 8 (0:Int)),Own.frz ft4 wf4,Own.of v3 70 hds1]) ?_ fun hJ1_9=>?_
 ·rintro ⟨v3,hds1,ft3,wf3,ft4,wf4,v4,b3,b4⟩ _ W3 ⟨rfl,hsb2,hsb3,hd1,hS13⟩
  replace hS13:St w0 W3 [bk b4 #[vI 0,vI 0] 31,bk b3 #[.slice none 0 0,.slice none 0 0,vI 0] 28,Own.of v4 3 (List.replicate 8 (0:Int)),Own.frz ft4 wf4,Own.of v3 70 hds1]:=hS13
  refine go_alt3 (fun KK hKK=>?_) ?_
  ·refine ge_one2<|gw (some 6) (.cells #[vI 5,vI 0,vI 0,vI 0] 3) (fun b=>.slice (some ⟨b,0,none⟩) 4 4) hS13 fun b5 w5 hx3 hS14=>?_
   refine g2 hKK ?_
   have hS20:=(((((hS14.b 5).b 5).b 5).b 3).b 5).b 5
   exact go3_keep [(0,.bool false),(1,pP b3 0),(2,pP b4 0),(4,v3),(5,v4),(6,.slice (some ⟨b5,0,none⟩) 4 4)] ea (hJ1_6 (v3,hds1,ft3,wf3,ft4,wf4,v4,b5,b3,b4) _ _ ⟨rfl,hsb2,hsb3,hd1,hS20⟩)
  exact go_nomore3
 refine go3_join does.t1_22 (fun (x:Value×(List HStmt)×(List Nat)×World×(List Nat)×World×Value×Nat) e w=>match x with | (v3,hds1,ft3,wf3,ft4,wf4,v4,b3)=>e=[(0,.bool false),(1,pP b3 0),(4,v3),(5,v4)]∧(Sub wf3 wf4)∧(Sub wf1 wf4)∧(DRows (Zand Z wf4) hds1 plain.f)∧St w0 w [bk b3 #[.slice none 0 0,.slice none 0 0,vI 0] 28,Own.of v4 3 (List.replicate 8 (0:Int)),Own.frz ft4 wf4,Own.of v3 70 hds1]) ?_ fun hJ1_8=>?_
 ·rintro ⟨v3,hds1,ft3,wf3,ft4,wf4,v4,b3⟩ _ W2 ⟨rfl,hsb2,hsb3,hd1,hS11⟩
  replace hS11:St w0 W2 [bk b3 #[.slice none 0 0,.slice none 0 0,vI 0] 28,Own.of v4 3 (List.replicate 8 (0:Int)),Own.frz ft4 wf4,Own.of v3 70 hds1]:=hS11
  refine go_alt3 (fun KK hKK=>?_) ?_
  ·refine ge_one2<|gw (some 6) (.cells #[vI 5,vI 0,vI 0,vI 0] 3) (fun b=>.slice (some ⟨b,0,none⟩) 4 4) hS11 fun b4 w4 hx2 hS12=>?_
   refine g2 hKK ?_
   have hS17:=((((hS12.b 4).b 4).b 4).b 3).b 4
   exact go3_keep [(0,.bool false),(1,pP b3 0),(4,v3),(5,v4),(6,.slice (some ⟨b4,0,none⟩) 4 4)] ea (hJ1_5 (v3,hds1,ft3,wf3,ft4,wf4,v4,b4,b3) _ _ ⟨rfl,hsb2,hsb3,hd1,hS17⟩)
  refine go_alt3 (fun KK hKK=>?_) ?_
  ·refine ge_one2<|gw (some 2) (.cells #[vI 0,vI 0] 31) (fun b=>pP b 0) hS11 fun b4 w4 hx2 hS12=>?_
   refine g2 hKK ?_
   have hS25:=((((hS12.b 4).b 4).b 4).b 4).b 4
   exact go3_keep [(0,.bool false),(1,pP b3 0),(2,pP b4 0),(4,v3),(5,v4)] ea (hJ1_9 (v3,hds1,ft3,wf3,ft4,wf4,v4,b3,b4) _ _ ⟨rfl,hsb2,hsb3,hd1,hS25⟩)
  exact go_nomore3
 refine go3_join does.t1_14 (fun (x:Value×(List HStmt)×(List Nat)×World×(List Nat)×World×Value×Nat) e w=>match x with | (v3,hds1,ft3,wf3,ft4,wf4,v4,b3)=>e=[(0,.bool false),(2,pP b3 0),(4,v3),(5,v4)]∧(Sub wf3 wf4)∧(Sub wf1 wf4)∧(DRows (Zand Z wf4) hds1 plain.f)∧St w0 w [bk b3 #[vI 0,vI 0] 31,Own.of v4 3 (List.replicate 8 (0:Int)),Own.frz ft4 wf4,Own.of v3 70 hds1]) ?_ fun hJ1_10=>?_
 ·rintro ⟨v3,hds1,ft3,wf3,ft4,wf4,v4,b3⟩ _ W2 ⟨rfl,hsb2,hsb3,hd1,hS11⟩
  replace hS11:St w0 W2 [bk b3 #[vI 0,vI 0] 31,Own.of v4 3 (List.replicate 8 (0:Int)),Own.frz ft4 wf4,Own.of v3 70 hds1]:=hS11
  refine go_alt3 (fun KK hKK=>?_) ?_
  ·refine ge_one2<|gw (some 6) (.cells #[vI 5,vI 0,vI 0,vI 0] 3) (fun b=>.slice (some ⟨b,0,none⟩) 4 4) hS11 fun b4 w4 hx2 hS12=>?_
   refine g2 hKK ?_
   have hS17:=((((hS12.b 4).b 4).b 4).b 3).b 4
   exact go3_keep [(0,.bool false),(2,pP b3 0),(4,v3),(5,v4),(6,.slice (some ⟨b4,0,none⟩) 4 4)] ea (hJ1_7 (v3,hds1,ft3,wf3,ft4,wf4,v4,b4,b3) _ _ ⟨rfl,hsb2,hsb3,hd1,hS17⟩)
  refine go_alt3 (fun KK hKK=>?_) ?_
  ·refine ge_one2<|gw (some 1) (.cells #[.slice none 0 0,.slice none 0 0,vI 0] 28) (fun b=>pP b 0) hS11 fun b4 w4 hx2 hS12=>?_
   refine g2 hKK ?_
   have hS17:=((((hS12.b 4).b 4).b 4).b 3).b 4
   exact go3_keep [(0,.bool false),(1,pP b4 0),(2,pP b3 0),(4,v3),(5,v4)] ea (hJ1_9 (v3,hds1,ft3,wf3,ft4,wf4,v4,b4,b3) _ _ ⟨rfl,hsb2,hsb3,hd1,hS17⟩)
  exact go_nomore3
 refine go3_join does.t1_28 (fun (x:Value×(List HStmt)×(List Nat)×World×(List Nat)×World×Value) e w=>match x with | (v3,hds1,ft3,wf3,ft4,wf4,v4)=>e=[(0,.bool false),(4,v3),(5,v4)]∧(Sub wf3 wf4)∧(Sub wf1 wf4)∧(DRows (Zand Z wf4) hds1 plain.f)∧St w0 w [Own.of v4 3 (List.replicate 8 (0:Int)),Own.frz ft4 wf4,Own.of v3 70 hds1]) ?_ fun hJ1_0=>?_
 ·rintro ⟨v3,hds1,ft3,wf3,ft4,wf4,v4⟩ _ W1 ⟨rfl,hsb2,hsb3,hd1,hS9⟩
  replace hS9:St w0 W1 [Own.of v4 3 (List.replicate 8 (0:Int)),Own.frz ft4 wf4,Own.of v3 70 hds1]:=hS9
  refine go_alt3 (fun KK hKK=>?_) ?_
  ·refine ge_one2<|gw (some 6) (.cells #[vI 5,vI 0,vI 0,vI 0] 3) (fun b=>.slice (some ⟨b,0,none⟩) 4 4) hS9 fun b3 w3 hx1 hS10=>?_
   refine g2 hKK ?_
   have hS29:=(((hS10.b 3).b 3).b 3).b 3
   exact go3_keep [(0,.bool false),(4,v3),(5,v4),(6,.slice (some ⟨b3,0,none⟩) 4 4)] ea (hJ1_1 (v3,hds1,ft3,wf3,ft4,wf4,v4,b3) _ _ ⟨rfl,hsb2,hsb3,hd1,hS29⟩)
  refine go_alt3 (fun KK hKK=>?_) ?_
  ·refine ge_one2<|gw (some 1) (.cells #[.slice none 0 0,.slice none 0 0,vI 0] 28) (fun b=>pP b 0) hS9 fun b3 w3 hx1 hS10=>?_
   refine g2 hKK ?_
   have hS29:=(((hS10.b 3).b 3).b 3).b 3
   exact go3_keep [(0,.bool false),(1,pP b3 0),(4,v3),(5,v4)] ea (hJ1_8 (v3,hds1,ft3,wf3,ft4,wf4,v4,b3) _ _ ⟨rfl,hsb2,hsb3,hd1,hS29⟩)
  refine go_alt3 (fun KK hKK=>?_) ?_
  ·refine ge_one2<|gw (some 2) (.cells #[vI 0,vI 0] 31) (fun b=>pP b 0) hS9 fun b3 w3 hx1 hS10=>?_
   refine g2 hKK ?_
   have hS21:=(((hS10.b 3).b 3).b 3).b 3
   exact go3_keep [(0,.bool false),(2,pP b3 0),(4,v3),(5,v4)] ea (hJ1_10 (v3,hds1,ft3,wf3,ft4,wf4,v4,b3) _ _ ⟨rfl,hsb2,hsb3,hd1,hS21⟩)
  exact go_nomore3
 refine go3_join does.t1_3 (fun (x:Value×(List HStmt)×(List Nat)×World×(List Nat)×World×Nat×Nat×Nat) e w=>match x with | (v3,hds1,ft3,wf3,ft4,wf4,b3,b4,b5)=>e=[(0,.bool false),(1,pP b4 0),(2,pP b5 0),(4,v3),(6,.slice (some ⟨b3,0,none⟩) 4 4)]∧(Sub wf3 wf4)∧(Sub wf1 wf4)∧(DRows (Zand Z wf4) hds1 plain.f)∧St w0 w [bk b5 #[vI 0,vI 0] 31,bk b4 #[.slice none 0 0,.slice none 0 0,vI 0] 28,bk b3 #[vI 5,vI 0,vI 0,vI 0] 3,Own.frz ft4 wf4,Own.of v3 70 hds1]) ?_ fun hJ1_13=>?_
 ·rintro ⟨v3,hds1,ft3,wf3,ft4,wf4,b3,b4,b5⟩ _ W3 ⟨rfl,hsb2,hsb3,hd1,hS13⟩
  replace hS13:St w0 W3 [bk b5 #[vI 0,vI 0] 31,bk b4 #[.slice none 0 0,.slice none 0 0,vI 0] 28,bk b3 #[vI 5,vI 0,vI 0,vI 0] 3,Own.frz ft4 wf4,Own.of v3 70 hds1]:=hS13
  refine go_alt3 (fun KK hKK=>?_) ?_
  ·refine ge_one2<|ge_make (α:=Int) (d:=5) (t:=23) (el:=3) (bytes:=8) (l:=8) (c:=8) (x:=(.const (vI 8))) (y:=(.const (vI 8))) (ty:=23) (k1:=.i64) (k2:=.i64) (li:=8) (ci:=8) (z:=vI 0) (z':=(0:Int)) (by kernel_rfl) (by kernel_rfl) (by kernel_rfl) rfl rfl (by kernel_rfl) (by kernel_rfl) rfl hS13 (Nat.le_refl _) rfl (by omega) fun v4 w5 _ hS14=>?_
   refine g2 hKK ?_
   have hS20:=(((((hS14.b 5).b 5).b 2).b 5).b 5).b 5
   exact go3_keep [(0,.bool false),(1,pP b4 0),(2,pP b5 0),(4,v3),(5,v4),(6,.slice (some ⟨b3,0,none⟩) 4 4)] ea (hJ1_6 (v3,hds1,ft3,wf3,ft4,wf4,v4,b3,b4,b5) _ _ ⟨rfl,hsb2,hsb3,hd1,hS20⟩)
  exact go_nomore3
 refine go3_join does.t1_20 (fun (x:Value×(List HStmt)×(List Nat)×World×(List Nat)×World×Nat×Nat) e w=>match x with | (v3,hds1,ft3,wf3,ft4,wf4,b3,b4)=>e=[(0,.bool false),(1,pP b4 0),(4,v3),(6,.slice (some ⟨b3,0,none⟩) 4 4)]∧(Sub wf3 wf4)∧(Sub wf1 wf4)∧(DRows (Zand Z wf4) hds1 plain.f)∧St w0 w [bk b4 #[.slice none 0 0,.slice none 0 0,vI 0] 28,bk b3 #[vI 5,vI 0,vI 0,vI 0] 3,Own.frz ft4 wf4,Own.of v3 70 hds1]) ?_ fun hJ1_12=>?_
 ·rintro ⟨v3,hds1,ft3,wf3,ft4,wf4,b3,b4⟩ _ W2 ⟨rfl,hsb2,hsb3,hd1,hS11⟩
  replace hS11:St w0 W2 [bk b4 #[.slice none 0 0,.slice none 0 0,vI 0] 28,bk b3 #[vI 5,vI 0,vI 0,vI 0] 3,Own.frz ft4 wf4,Own.of v3 70 hds1]:=hS11
  refine go_alt3 (fun KK hKK=>?_) ?_
  ·refine ge_one2<|ge_make (α:=Int) (d:=5) (t:=23) (el:=3) (bytes:=8) (l:=8) (c:=8) (x:=(.const (vI 8))) (y:=(.const (vI 8))) (ty:=23) (k1:=.i64) (k2:=.i64) (li:=8) (ci:=8) (z:=vI 0) (z':=(0:Int)) (by kernel_rfl) (by kernel_rfl) (by kernel_rfl) rfl rfl (by kernel_rfl) (by kernel_rfl) rfl hS11 (Nat.le_refl _) rfl (by omega) fun v4 w4 _ hS12=>?_
   refine g2 hKK ?_
   have hS17:=((((hS12.b 4).b 4).b 2).b 4).b 4
   exact go3_keep [(0,.bool false),(1,pP b4 0),(4,v3),(5,v4),(6,.slice (some ⟨b3,0,none⟩) 4 4)] ea (hJ1_5 (v3,hds1,ft3,wf3,ft4,wf4,v4,b3,b4) _ _ ⟨rfl,hsb2,hsb3,hd1,hS17⟩)
  refine go_alt3 (fun KK hKK=>?_) ?_
  ·refine ge_one2<|gw (some 2) (.cells #[vI 0,vI 0] 31) (fun b=>pP b 0) hS11 fun b5 w4 hx3 hS12=>?_
   refine g2 hKK ?_
   have hS25:=((((hS12.b 4).b 4).b 4).b 4).b 4
   exact go3_keep [(0,.bool false),(1,pP b4 0),(2,pP b5 0),(4,v3),(6,.slice (some ⟨b3,0,none⟩) 4 4)] ea (hJ1_13 (v3,hds1,ft3,wf3,ft4,wf4,b3,b4,b5) _ _ ⟨rfl,hsb2,hsb3,hd1,hS25⟩)
  exact go_nomore3
 refine go3_join does.t1_12 (fun (x:Value×(List HStmt)×(List Nat)×World×(List Nat)×World×Nat×Nat) e w=>match x with | (v3,hds1,ft3,wf3,ft4,wf4,b3,b4)=>e=[(0,.bool false),(2,pP b4 0),(4,v3),(6,.slice (some ⟨b3,0,none⟩) 4 4)]∧(Sub wf3 wf4)∧(Sub wf1 wf4)∧(DRows (Zand Z wf4) hds1 plain.f)∧St w0 w [bk b4 #[vI 0,vI 0] 31,bk b3 #[vI 5,vI 0,vI 0,vI 0] 3,Own.frz ft4 wf4,Own.of v3 70 hds1]) ?_ fun hJ1_14=>?_
 ·rintro ⟨v3,hds1,ft3,wf3,ft4,wf4,b3,b4⟩ _ W2 ⟨rfl,hsb2,hsb3,hd1,hS11⟩
  replace hS11:St w0 W2 [bk b4 #[vI 0,vI 0] 31,bk b3 #[vI 5,vI 0,vI 0,vI 0] 3,Own.frz ft4 wf4,Own.of v3 70 hds1]:=hS11
  refine go_alt3 (fun KK hKK=>?_) ?_
  ·refine ge_one2<|ge_make (α:=Int) (d:=5) (t:=23) (el:=3) (bytes:=8) (l:=8) (c:=8) (x:=(.const (vI 8))) (y:=(.const (vI 8))) (ty:=23) (k1:=.i64) (k2:=.i64) (li:=8) (ci:=8) (z:=vI 0) (z':=(0:Int)) (by kernel_rfl) (by kernel_rfl) (by kernel_rfl) rfl rfl (by kernel_rfl) (by kernel_rfl) rfl hS11 (Nat.le_refl _) rfl (by omega) fun v4 w4 _ hS12=>?_
   refine g2 hKK ?_
   have hS17:=((((hS12.b 4).b 4).b 2).b 4).b 4
   exact go3_keep [(0,.bool false),(2,pP b4 0),(4,v3),(5,v4),(6,.slice (some ⟨b3,0,none⟩) 4 4)] ea (hJ1_7 (v3,hds1,ft3,wf3,ft4,wf4,v4,b3,b4) _ _ ⟨rfl,hsb2,hsb3,hd1,hS17⟩)
  refine go_alt3 (fun KK hKK=>?_) ?_
  ·refine ge_one2<|gw (some 1) (.cells #[.slice none 0 0,.slice none 0 0,vI 0] 28) (fun b=>pP b 0) hS11 fun b5 w4 hx3 hS12=>?_
   refine g2 hKK ?_
   have hS17:=((((hS12.b 4).b 4).b 4).b 3).b 4
   exact go3_keep [(0,.bool false),(1,pP b5 0),(2,pP b4 0),(4,v3),(6,.slice (some ⟨b3,0,none⟩) 4 4)] ea (hJ1_13 (v3,hds1,ft3,wf3,ft4,wf4,b3,b5,b4) _ _ ⟨rfl,hsb2,hsb3,hd1,hS17⟩)
  exact go_nomore3
 refine go3_join does.t1_27 (fun (x:Value×(List HStmt)×(List Nat)×World×(List Nat)×World×Nat) e w=>match x with | (v3,hds1,ft3,wf3,ft4,wf4,b3)=>e=[(0,.bool false),(4,v3),(6,.slice (some ⟨b3,0,none⟩) 4 4)]∧(Sub wf3 wf4)∧(Sub wf1 wf4)∧(DRows (Zand Z wf4) hds1 plain.f)∧St w0 w [bk b3 #[vI 5,vI 0,vI 0,vI 0] 3,Own.frz ft4 wf4,Own.of v3 70 hds1]) ?_ fun hJ1_11=>?_
 ·rintro ⟨v3,hds1,ft3,wf3,ft4,wf4,b3⟩ _ W1 ⟨rfl,hsb2,hsb3,hd1,hS9⟩
  replace hS9:St w0 W1 [bk b3 #[vI 5,vI 0,vI 0,vI 0] 3,Own.frz ft4 wf4,Own.of v3 70 hds1]:=hS9
  refine go_alt3 (fun KK hKK=>?_) ?_
  ·refine ge_one2<|ge_make (α:=Int) (d:=5) (t:=23) (el:=3) (bytes:=8) (l:=8) (c:=8) (x:=(.const (vI 8))) (y:=(.const (vI 8))) (ty:=23) (k1:=.i64) (k2:=.i64) (li:=8) (ci:=8) (z:=vI 0) (z':=(0:Int)) (by kernel_rfl) (by kernel_rfl) (by kernel_rfl) rfl rfl (by kernel_rfl) (by kernel_rfl) rfl hS9 (Nat.le_refl _) rfl (by omega) fun v4 w3 _ hS10=>?_
   refine g2 hKK ?_
   have hS14:=(((hS10.b 3).b 3).b 2).b 3
   exact go3_keep [(0,.bool false),(4,v3),(5,v4),(6,.slice (some ⟨b3,0,none⟩) 4 4)] ea (hJ1_1 (v3,hds1,ft3,wf3,ft4,wf4,v4,b3) _ _ ⟨rfl,hsb2,hsb3,hd1,hS14⟩)
  refine go_alt3 (fun KK hKK=>?_) ?_
  ·refine ge_one2<|gw (some 1) (.cells #[.slice none 0 0,.slice none 0 0,vI 0] 28) (fun b=>pP b 0) hS9 fun b4 w3 hx2 hS10=>?_
   refine g2 hKK ?_
   have hS29:=(((hS10.b 3).b 3).b 3).b 3
   exact go3_keep [(0,.bool false),(1,pP b4 0),(4,v3),(6,.slice (some ⟨b3,0,none⟩) 4 4)] ea (hJ1_12 (v3,hds1,ft3,wf3,ft4,wf4,b3,b4) _ _ ⟨rfl,hsb2,hsb3,hd1,hS29⟩)
  refine go_alt3 (fun KK hKK=>?_) ?_
  ·refine ge_one2<|gw (some 2) (.cells #[vI 0,vI 0] 31) (fun b=>pP b 0) hS9 fun b4 w3 hx2 hS10=>?_
   refine g2 hKK ?_
   have hS21:=(((hS10.b 3).b 3).b 3).b 3
   exact go3_keep [(0,.bool false),(2,pP b4 0),(4,v3),(6,.slice (some ⟨b3,0,none⟩) 4 4)] ea (hJ1_14 (v3,hds1,ft3,wf3,ft4,wf4,b3,b4) _ _ ⟨rfl,hsb2,hsb3,hd1,hS21⟩)
  exact go_nomore3
 refine go3_join does.t1_7 (fun (x:Value×(List HStmt)×(List Nat)×World×(List Nat)×World×Nat×Nat) e w=>match x with | (v3,hds1,ft3,wf3,ft4,wf4,b3,b4)=>e=[(0,.bool false),(1,pP b3 0),(2,pP b4 0),(4,v3)]∧(Sub wf3 wf4)∧(Sub wf1 wf4)∧(DRows (Zand Z wf4) hds1 plain.f)∧St w0 w [bk b4 #[vI 0,vI 0] 31,bk b3 #[.slice none 0 0,.slice none 0 0,vI 0] 28,Own.frz ft4 wf4,Own.of v3 70 hds1]) ?_ fun hJ1_16=>?_
 ·rintro ⟨v3,hds1,ft3,wf3,ft4,wf4,b3,b4⟩ _ W2 ⟨rfl,hsb2,hsb3,hd1,hS11⟩
  replace hS11:St w0 W2 [bk b4 #[vI 0,vI 0] 31,bk b3 #[.slice none 0 0,.slice none 0 0,vI 0] 28,Own.frz ft4 wf4,Own.of v3 70 hds1]:=hS11
  refine go_alt3 (fun KK hKK=>?_) ?_
  ·refine ge_one2<|ge_make (α:=Int) (d:=5) (t:=23) (el:=3) (bytes:=8) (l:=8) (c:=8) (x:=(.const (vI 8))) (y:=(.const (vI 8))) (ty:=23) (k1:=.i64) (k2:=.i64) (li:=8) (ci:=8) (z:=vI 0) (z':=(0:Int)) (by kernel_rfl) (by kernel_rfl) (by kernel_rfl) rfl rfl (by kernel_rfl) (by kernel_rfl) rfl hS11 (Nat.le_refl _) rfl (by omega) fun v4 w4 _ hS12=>?_
   refine g2 hKK ?_
   have hS17:=((((hS12.b 4).b 4).b 2).b 4).b 4
   exact go3_keep [(0,.bool false),(1,pP b3 0),(2,pP b4 0),(4,v3),(5,v4)] ea (hJ1_9 (v3,hds1,ft3,wf3,ft4,wf4,v4,b3,b4) _ _ ⟨rfl,hsb2,hsb3,hd1,hS17⟩)
  refine go_alt3 (fun KK hKK=>?_) ?_
  ·refine ge_one2<|gw (some 6) (.cells #[vI 5,vI 0,vI 0,vI 0] 3) (fun b=>.slice (some ⟨b,0,none⟩) 4 4) hS11 fun b5 w4 hx3 hS12=>?_
   refine g2 hKK ?_
   have hS17:=((((hS12.b 4).b 4).b 2).b 4).b 4
   exact go3_keep [(0,.bool false),(1,pP b3 0),(2,pP b4 0),(4,v3),(6,.slice (some ⟨b5,0,none⟩) 4 4)] ea (hJ1_13 (v3,hds1,ft3,wf3,ft4,wf4,b5,b3,b4) _ _ ⟨rfl,hsb2,hsb3,hd1,hS17⟩)
  exact go_nomore3
 refine go3_join does.t1_24 (fun (x:Value×(List HStmt)×(List Nat)×World×(List Nat)×World×Nat) e w=>match x with | (v3,hds1,ft3,wf3,ft4,wf4,b3)=>e=[(0,.bool false),(1,pP b3 0),(4,v3)]∧(Sub wf3 wf4)∧(Sub wf1 wf4)∧(DRows (Zand Z wf4) hds1 plain.f)∧St w0 w [bk b3 #[.slice none 0 0,.slice none 0 0,vI 0] 28,Own.frz ft4 wf4,Own.of v3 70 hds1]) ?_ fun hJ1_15=>?_
 ·rintro ⟨v3,hds1,ft3,wf3,ft4,wf4,b3⟩ _ W1 ⟨rfl,hsb2,hsb3,hd1,hS9⟩
  replace hS9:St w0 W1 [bk b3 #[.slice none 0 0,.slice none 0 0,vI 0] 28,Own.frz ft4 wf4,Own.of v3 70 hds1]:=hS9
  refine go_alt3 (fun KK hKK=>?_) ?_
  ·refine ge_one2<|ge_make (α:=Int) (d:=5) (t:=23) (el:=3) (bytes:=8) (l:=8) (c:=8) (x:=(.const (vI 8))) (y:=(.const (vI 8))) (ty:=23) (k1:=.i64) (k2:=.i64) (li:=8) (ci:=8) (z:=vI 0) (z':=(0:Int)) (by kernel_rfl) (by kernel_rfl) (by kernel_rfl) rfl rfl (by kernel_rfl) (by kernel_rfl) rfl hS9 (Nat.le_refl _) rfl (by omega) fun v4 w3 _ hS10=>?_
   refine g2 hKK ?_
   have hS14:=(((hS10.b 3).b 3).b 2).b 3
   exact go3_keep [(0,.bool false),(1,pP b3 0),(4,v3),(5,v4)] ea (hJ1_8 (v3,hds1,ft3,wf3,ft4,wf4,v4,b3) _ _ ⟨rfl,hsb2,hsb3,hd1,hS14⟩)
  refine go_alt3 (fun KK hKK=>?_) ?_
  ·refine ge_one2<|gw (some 6) (.cells #[vI 5,vI 0,vI 0,vI 0] 3) (fun b=>.slice (some ⟨b,0,none⟩) 4 4) hS9 fun b4 w3 hx2 hS10=>?_
   refine g2 hKK ?_
   have hS14:=(((hS10.b 3).b 3).b 2).b 3
   exact go3_keep [(0,.bool false),(1,pP b3 0),(4,v3),(6,.slice (some ⟨b4,0,none⟩) 4 4)] ea (hJ1_12 (v3,hds1,ft3,wf3,ft4,wf4,b4,b3) _ _ ⟨rfl,hsb2,hsb3,hd1,hS14⟩)
  refine go_alt3 (fun KK hKK=>?_) ?_
  ·refine ge_one2<|gw (some 2) (.cells #[vI 0,vI 0] 31) (fun b=>pP b 0) hS9 fun b4 w3 hx2 hS10=>?_
   refine g2 hKK ?_
   have hS21:=(((hS10.b 3).b 3).b 3).b 3
   exact go3_keep [(0,.bool false),(1,pP b3 0),(2,pP b4 0),(4,v3)] ea (hJ1_16 (v3,hds1,ft3,wf3,ft4,wf4,b3,b4) _ _ ⟨rfl,hsb2,hsb3,hd1,hS21⟩)
  exact go_nomore3
 refine go3_join does.t1_16 (fun (x:Value×(List HStmt)×(List Nat)×World×(List Nat)×World×Nat) e w=>match x with | (v3,hds1,ft3,wf3,ft4,wf4,b3)=>e=[(0,.bool false),(2,pP b3 0),(4,v3)]∧(Sub wf3 wf4)∧(Sub wf1 wf4)∧(DRows (Zand Z wf4) hds1 plain.f)∧St w0 w [bk b3 #[vI 0,vI 0] 31,Own.frz ft4 wf4,Own.of v3 70 hds1]) ?_ fun hJ1_17=>?_
 ·rintro ⟨v3,hds1,ft3,wf3,ft4,wf4,b3⟩ _ W1 ⟨rfl,hsb2,hsb3,hd1,hS9⟩
  replace hS9:St w0 W1 [bk b3 #[vI 0,vI 0] 31,Own.frz ft4 wf4,Own.of v3 70 hds1]:=hS9
  refine go_alt3 (fun KK hKK=>?_) ?_
  ·refine ge_one2<|ge_make (α:=Int) (d:=5) (t:=23) (el:=3) (bytes:=8) (l:=8) (c:=8) (x:=(.const (vI 8))) (y:=(.const (vI 8))) (ty:=23) (k1:=.i64) (k2:=.i64) (li:=8) (ci:=8) (z:=vI 0) (z':=(0:Int)) (by kernel_rfl) (by kernel_rfl) (by kernel_rfl) rfl rfl (by kernel_rfl) (by kernel_rfl) rfl hS9 (Nat.le_refl _) rfl (by omega) fun v4 w3 _ hS10=>?_
   refine g2 hKK ?_
   have hS14:=(((hS10.b 3).b 3).b 2).b 3
   exact go3_keep [(0,.bool false),(2,pP b3 0),(4,v3),(5,v4)] ea (hJ1_10 (v3,hds1,ft3,wf3,ft4,wf4,v4,b3) _ _ ⟨rfl,hsb2,hsb3,hd1,hS14⟩)
  refine go_alt3 (fun KK hKK=>?_) ?_
  ·refine ge_one2<|gw (some 6) (.cells #[vI 5,vI 0,vI 0,vI 0] 3) (fun b=>.slice (some ⟨b,0,none⟩) 4 4) hS9 fun b4 w3 hx2 hS10=>?_
   refine g2 hKK ?_
   have hS14:=(((hS10.b 3).b 3).b 2).b 3
   exact go3_keep [(0,.bool false),(2,pP b3 0),(4,v3),(6,.slice (some ⟨b4,0,none⟩) 4 4)] ea (hJ1_14 (v3,hds1,ft3,wf3,ft4,wf4,b4,b3) _ _ ⟨rfl,hsb2,hsb3,hd1,hS14⟩)
  refine go_alt3 (fun KK hKK=>?_) ?_
  ·refine ge_one2<|gw (some 1) (.cells #[.slice none 0 0,.slice none 0 0,vI 0] 28) (fun b=>pP b 0) hS9 fun b4 w3 hx2 hS10=>?_
   refine g2 hKK ?_
   have hS14:=(((hS10.b 3).b 3).b 2).b 3
   exact go3_keep [(0,.bool false),(1,pP b4 0),(2,pP b3 0),(4,v3)] ea (hJ1_16 (v3,hds1,ft3,wf3,ft4,wf4,b4,b3) _ _ ⟨rfl,hsb2,hsb3,hd1,hS14⟩)
  exact go_nomore3
 refine go3_join does.t1_2 (fun (x:Value×Nat×Nat×Nat) e w=>match x with | (v3,b3,b4,b5)=>e=[(0,.bool false),(1,pP b4 0),(2,pP b5 0),(5,v3),(6,.slice (some ⟨b3,0,none⟩) 4 4)]∧St w0 w [bk b5 #[vI 0,vI 0] 31,bk b4 #[.slice none 0 0,.slice none 0 0,vI 0] 28,bk b3 #[vI 5,vI 0,vI 0,vI 0] 3,Own.of v3 3 (List.replicate 8 (0:Int)),Own.frz ft1 wf1]) ?_ fun hJ1_20=>?_
 ·rintro ⟨v3,b3,b4,b5⟩ _ W3 ⟨rfl,hS9⟩
  replace hS9:St w0 W3 [bk b5 #[vI 0,vI 0] 31,bk b4 #[.slice none 0 0,.slice none 0 0,vI 0] 28,bk b3 #[vI 5,vI 0,vI 0,vI 0] 3,Own.of v3 3 (List.replicate 8 (0:Int)),Own.frz ft1 wf1]:=hS9
  refine go_alt3 (fun KK hKK=>?_) ?_
  ·refine ge_one2<|ge_call (d:=some 4) (f:=21) (args:=#[]) (by kernel_rfl) (plain_ok (Zand Z wf1) _ (fun w' k=>⟨(hZ w' (hS9.subw.trans k)),(hS9.frzSub 4 rfl).trans k⟩) _ rfl) ?_
   rintro _ w5 ⟨v4,hds1,ft3,wf3,rfl,hd1,hS10⟩
   refine ⟨_,rfl,hS10.below,?_⟩
   have hS13:=((hS9.call hS10).b 6).b 2
   obtain ⟨ft4,wf4,hsb2,hsb3,hS14⟩:=hS13.frzMerge
   replace hd1:DRows (Zand Z wf4) hds1 plain.f:=hd1.up (ZLe.both hsb3 hsb2)
   refine g2 hKK ?_
   have hS20:=(((((hS14.b 1).b 1).b 5).b 5).b 5).b 5
   exact go3_keep [(0,.bool false),(1,pP b4 0),(2,pP b5 0),(4,v4),(5,v3),(6,.slice (some ⟨b3,0,none⟩) 4 4)] ea (hJ1_6 (v4,hds1,ft3,wf3,ft4,wf4,v3,b3,b4,b5) _ _ ⟨rfl,hsb2,hsb3,hd1,hS20⟩)
  exact go_nomore3
 refine go3_join does.t1_19 (fun (x:Value×Nat×Nat) e w=>match x with | (v3,b3,b4)=>e=[(0,.bool false),(1,pP b4 0),(5,v3),(6,.slice (some ⟨b3,0,none⟩) 4 4)]∧St w0 w [bk b4 #[.slice none 0 0,.slice none 0 0,vI 0] 28,bk b3 #[vI 5,vI 0,vI 0,vI 0] 3,Own.of v3 3 (List.replicate 8 (0:Int)),Own.frz ft1 wf1]) ?_ fun hJ1_19=>?_
 ·rintro ⟨v3,b3,b4⟩ _ W2 ⟨rfl,hS7⟩
  replace hS7:St w0 W2 [bk b4 #[.slice none 0 0,.slice none 0 0,vI 0] 28,bk b3 #[vI 5,vI 0,vI 0,vI 0] 3,Own.of v3 3 (List.replicate 8 (0:Int)),Own.frz ft1 wf1]:=hS7
  refine go_alt3 (fun KK hKK=>?_) ?_
  ·refine ge_one2<|ge_call (d:=some 4) (f:=21) (args:=#[]) (by kernel_rfl) (plain_ok (Zand Z wf1) _ (fun w' k=>⟨(hZ w' (hS7.subw.trans k)),(hS7.frzSub 3 rfl).trans k⟩) _ rfl) ?_
   rintro _ w4 ⟨v4,hds1,ft3,wf3,rfl,hd1,hS8⟩
   refine ⟨_,rfl,hS8.below,?_⟩
   have hS11:=((hS7.call hS8).b 5).b 2
   obtain ⟨ft4,wf4,hsb2,hsb3,hS12⟩:=hS11.frzMerge
   replace hd1:DRows (Zand Z wf4) hds1 plain.f:=hd1.up (ZLe.both hsb3 hsb2)
   refine g2 hKK ?_
   have hS17:=((((hS12.b 1).b 1).b 4).b 4).b 4
   exact go3_keep [(0,.bool false),(1,pP b4 0),(4,v4),(5,v3),(6,.slice (some ⟨b3,0,none⟩) 4 4)] ea (hJ1_5 (v4,hds1,ft3,wf3,ft4,wf4,v3,b3,b4) _ _ ⟨rfl,hsb2,hsb3,hd1,hS17⟩)
  refine go_alt3 (fun KK hKK=>?_) ?_
  ·refine ge_one2<|gw (some 2) (.cells #[vI 0,vI 0] 31) (fun b=>pP b 0) hS7 fun b5 w4 hx3 hS8=>?_
   refine g2 hKK ?_
   have hS25:=((((hS8.b 4).b 4).b 4).b 4).b 4
   exact go3_keep [(0,.bool false),(1,pP b4 0),(2,pP b5 0),(5,v3),(6,.slice (some ⟨b3,0,none⟩) 4 4)] ea (hJ1_20 (v3,b3,b4,b5) _ _ ⟨rfl,hS25⟩)
  exact go_nomore3
 refine go3_join does.t1_11 (fun (x:Value×Nat×Nat) e w=>match x with | (v3,b3,b4)=>e=[(0,.bool false),(2,pP b4 0),(5,v3),(6,.slice (some ⟨b3,0,none⟩) 4 4)]∧St w0 w [bk b4 #[vI 0,vI 0] 31,bk b3 #[vI 5,vI 0,vI 0,vI 0] 3,Own.of v3 3 (List.replicate 8 (0:Int)),Own.frz ft1 wf1]) ?_ fun hJ1_21=>?_
 ·rintro ⟨v3,b3,b4⟩ _ W2 ⟨rfl,hS7⟩
  replace hS7:St w0 W2 [bk b4 #[vI 0,vI 0] 31,bk b3 #[vI 5,vI 0,vI 0,vI 0] 3,Own.of v3 3 (List.replicate 8 (0:Int)),Own.frz ft1 wf1]:=hS7
  refine go_alt3 (fun KK hKK=>?_) ?_
  ·refine ge_one2<|ge_call (d:=some 4) (f:=21) (args:=#[]) (by kernel_rfl) (plain_ok (Zand Z wf1) _ (fun w' k=>⟨(hZ w' (hS7.subw.trans k)),(hS7.frzSub 3 rfl).trans k⟩) _ rfl) ?_
   rintro _ w4 ⟨v4,hds1,ft3,wf3,rfl,hd1,hS8⟩
   refine ⟨_,rfl,hS8.below,?_⟩
   have hS11:=((hS7.call hS8).b 5).b 2
   obtain ⟨ft4,wf4,hsb2,hsb3,hS12⟩:=hS11.frzMerge
   replace hd1:DRows (Zand Z wf4) hds1 plain.f:=hd1.up (ZLe.both hsb3 hsb2)
   refine g2 hKK ?_
   have hS17:=((((hS12.b 1).b 1).b 4).b 4).b 4
   exact go3_keep [(0,.bool false),(2,pP b4 0),(4,v4),(5,v3),(6,.slice (some ⟨b3,0,none⟩) 4 4)] ea (hJ1_7 (v4,hds1,ft3,wf3,ft4,wf4,v3,b3,b4) _ _ ⟨rfl,hsb2,hsb3,hd1,hS17⟩)
  refine go_alt3 (fun KK hKK=>?_) ?_
  ·refine ge_one2<|gw (some 1) (.cells #[.slice none 0 0,.slice none 0 0,vI 0] 28) (fun b=>pP b 0) hS7 fun b5 w4 hx3 hS8=>?_
   refine g2 hKK ?_
   have hS13:=((((hS8.b 4).b 4).b 4).b 3).b 4
   exact go3_keep [(0,.bool false),(1,pP b5 0),(2,pP b4 0),(5,v3),(6,.slice (some ⟨b3,0,none⟩) 4 4)] ea (hJ1_20 (v3,b3,b5,b4) _ _ ⟨rfl,hS13⟩)
  exact go_nomore3
 refine go3_join does.t1_26 (fun (x:Value×Nat) e w=>match x with | (v3,b3)=>e=[(0,.bool false),(5,v3),(6,.slice (some ⟨b3,0,none⟩) 4 4)]∧St w0 w [bk b3 #[vI 5,vI 0,vI 0,vI 0] 3,Own.of v3 3 (List.replicate 8 (0:Int)),Own.frz ft1 wf1]) ?_ fun hJ1_18=>?_
 ·rintro ⟨v3,b3⟩ _ W1 ⟨rfl,hS5⟩
  replace hS5:St w0 W1 [bk b3 #[vI 5,vI 0,vI 0,vI 0] 3,Own.of v3 3 (List.replicate 8 (0:Int)),Own.frz ft1 wf1]:=hS5
  refine go_alt3 (fun KK hKK=>?_) ?_
  ·refine ge_one2<|ge_call (d:=some 4) (f:=21) (args:=#[]) (by kernel_rfl) (plain_ok (Zand Z wf1) _ (fun w' k=>⟨(hZ w' (hS5.subw.trans k)),(hS5.frzSub 2 rfl).trans k⟩) _ rfl) ?_
   rintro _ w3 ⟨v4,hds1,ft3,wf3,rfl,hd1,hS6⟩
   refine ⟨_,rfl,hS6.below,?_⟩
   have hS9:=((hS5.call hS6).b 4).b 2
   obtain ⟨ft4,wf4,hsb2,hsb3,hS10⟩:=hS9.frzMerge
   replace hd1:DRows (Zand Z wf4) hds1 plain.f:=hd1.up (ZLe.both hsb3 hsb2)
   refine g2 hKK ?_
   have hS14:=(((hS10.b 1).b 1).b 3).b 3
   exact go3_keep [(0,.bool false),(4,v4),(5,v3),(6,.slice (some ⟨b3,0,none⟩) 4 4)] ea (hJ1_1 (v4,hds1,ft3,wf3,ft4,wf4,v3,b3) _ _ ⟨rfl,hsb2,hsb3,hd1,hS14⟩)
  refine go_alt3 (fun KK hKK=>?_) ?_
  ·refine ge_one2<|gw (some 1) (.cells #[.slice none 0 0,.slice none 0 0,vI 0] 28) (fun b=>pP b 0) hS5 fun b4 w3 hx2 hS6=>?_
   refine g2 hKK ?_
   have hS29:=(((hS6.b 3).b 3).b 3).b 3
   exact go3_keep [(0,.bool false),(1,pP b4 0),(5,v3),(6,.slice (some ⟨b3,0,none⟩) 4 4)] ea (hJ1_19 (v3,b3,b4) _ _ ⟨rfl,hS29⟩)
  refine go_alt3 (fun KK hKK=>?_) ?_
  ·refine ge_one2<|gw (some 2) (.cells #[vI 0,vI 0] 31) (fun b=>pP b 0) hS5 fun b4 w3 hx2 hS6=>?_
   refine g2 hKK ?_
   have hS17:=(((hS6.b 3).b 3).b 3).b 3
   exact go3_keep [(0,.bool false),(2,pP b4 0),(5,v3),(6,.slice (some ⟨b3,0,none⟩) 4 4)] ea (hJ1_21 (v3,b3,b4) _ _ ⟨rfl,hS17⟩)
  exact go_nomore3
 refine go3_join does.t1_6 (fun (x:Value×Nat×Nat) e w=>match x with | (v3,b3,b4)=>e=[(0,.bool false),(1,pP b3 0),(2,pP b4 0),(5,v3)]∧St w0 w [bk b4 #[vI 0,vI 0] 31,bk b3 #[.slice none 0 0,.slice none 0 0,vI 0] 28,Own.of v3 3 (List.replicate 8 (0:Int)),Own.frz ft1 wf1]) ?_ fun hJ1_23=>?_
 ·rintro ⟨v3,b3,b4⟩ _ W2 ⟨rfl,hS7⟩
  replace hS7:St w0 W2 [bk b4 #[vI 0,vI 0] 31,bk b3 #[.slice none 0 0,.slice none 0 0,vI 0] 28,Own.of v3 3 (List.replicate 8 (0:Int)),Own.frz ft1 wf1]:=hS7
  refine go_alt3 (fun KK hKK=>?_) ?_
  ·refine ge_one2<|ge_call (d:=some 4) (f:=21) (args:=#[]) (by kernel_rfl) (plain_ok (Zand Z wf1) _ (fun w' k=>⟨(hZ w' (hS7.subw.trans k)),(hS7.frzSub 3 rfl).trans k⟩) _ rfl) ?_
   rintro _ w4 ⟨v4,hds1,ft3,wf3,rfl,hd1,hS8⟩
   refine ⟨_,rfl,hS8.below,?_⟩
   have hS11:=((hS7.call hS8).b 5).b 2
   obtain ⟨ft4,wf4,hsb2,hsb3,hS12⟩:=hS11.frzMerge
   replace hd1:DRows (Zand Z wf4) hds1 plain.f:=hd1.up (ZLe.both hsb3 hsb2)
   refine g2 hKK ?_
   have hS17:=((((hS12.b 1).b 1).b 4).b 4).b 4
   exact go3_keep [(0,.bool false),(1,pP b3 0),(2,pP b4 0),(4,v4),(5,v3)] ea (hJ1_9 (v4,hds1,ft3,wf3,ft4,wf4,v3,b3,b4) _ _ ⟨rfl,hsb2,hsb3,hd1,hS17⟩)
  refine go_alt3 (fun KK hKK=>?_) ?_
  ·refine ge_one2<|gw (some 6) (.cells #[vI 5,vI 0,vI 0,vI 0] 3) (fun b=>.slice (some ⟨b,0,none⟩) 4 4) hS7 fun b5 w4 hx3 hS8=>?_
   refine g2 hKK ?_
   have hS13:=((((hS8.b 4).b 4).b 2).b 4).b 4
   exact go3_keep [(0,.bool false),(1,pP b3 0),(2,pP b4 0),(5,v3),(6,.slice (some ⟨b5,0,none⟩) 4 4)] ea (hJ1_20 (v3,b5,b3,b4) _ _ ⟨rfl,hS13⟩)
  exact go_nomore3
 refine go3_join does.t1_23 (fun (x:Value×Nat) e w=>match x with | (v3,b3)=>e=[(0,.bool false),(1,pP b3 0),(5,v3)]∧St w0 w [bk b3 #[.slice none 0 0,.slice none 0 0,vI 0] 28,Own.of v3 3 (List.replicate 8 (0:Int)),Own.frz ft1 wf1]) ?_ fun hJ1_22=>?_
 ·rintro ⟨v3,b3⟩ _ W1 ⟨rfl,hS5⟩
  replace hS5:St w0 W1 [bk b3 #[.slice none 0 0,.slice none 0 0,vI 0] 28,Own.of v3 3 (List.replicate 8 (0:Int)),Own.frz ft1 wf1]:=hS5
  refine go_alt3 (fun KK hKK=>?_) ?_
  ·refine ge_one2<|ge_call (d:=some 4) (f:=21) (args:=#[]) (by kernel_rfl) (plain_ok (Zand Z wf1) _ (fun w' k=>⟨(hZ w' (hS5.subw.trans k)),(hS5.frzSub 2 rfl).trans k⟩) _ rfl) ?_
   rintro _ w3 ⟨v4,hds1,ft3,wf3,rfl,hd1,hS6⟩
   refine ⟨_,rfl,hS6.below,?_⟩
   have hS9:=((hS5.call hS6).b 4).b 2
   obtain ⟨ft4,wf4,hsb2,hsb3,hS10⟩:=hS9.frzMerge
   replace hd1:DRows (Zand Z wf4) hds1 plain.f:=hd1.up (ZLe.both hsb3 hsb2)
   refine g2 hKK ?_
   have hS14:=(((hS10.b 1).b 1).b 3).b 3
   exact go3_keep [(0,.bool false),(1,pP b3 0),(4,v4),(5,v3)] ea (hJ1_8 (v4,hds1,ft3,wf3,ft4,wf4,v3,b3) _ _ ⟨rfl,hsb2,hsb3,hd1,hS14⟩)
  refine go_alt3 (fun KK hKK=>?_) ?_
  ·refine ge_one2<|gw (some 6) (.cells #[vI 5,vI 0,vI 0,vI 0] 3) (fun b=>.slice (some ⟨b,0,none⟩) 4 4) hS5 fun b4 w3 hx2 hS6=>?_
   refine g2 hKK ?_
   have hS10:=(((hS6.b 3).b 3).b 2).b 3
   exact go3_keep [(0,.bool false),(1,pP b3 0),(5,v3),(6,.slice (some ⟨b4,0,none⟩) 4 4)] ea (hJ1_19 (v3,b4,b3) _ _ ⟨rfl,hS10⟩)
  refine go_alt3 (fun KK hKK=>?_) ?_
  ·refine ge_one2<|gw (some 2) (.cells #[vI 0,vI 0] 31) (fun b=>pP b 0) hS5 fun b4 w3 hx2 hS6=>?_
   refine g2 hKK ?_
   have hS17:=(((hS6.b 3).b 3).b 3).b 3
   exact go3_keep [(0,.bool false),(1,pP b3 0),(2,pP b4 0),(5,v3)] ea (hJ1_23 (v3,b3,b4) _ _ ⟨rfl,hS17⟩)
  exact go_nomore3
 refine go3_join does.t1_15 (fun (x:Value×Nat) e w=>match x with | (v3,b3)=>e=[(0,.bool false),(2,pP b3 0),(5,v3)]∧St w0 w [bk b3 #[vI 0,vI 0] 31,Own.of v3 3 (List.replicate 8 (0:Int)),Own.frz ft1 wf1]) ?_ fun hJ1_24=>?_
 ·rintro ⟨v3,b3⟩ _ W1 ⟨rfl,hS5⟩
  replace hS5:St w0 W1 [bk b3 #[vI 0,vI 0] 31,Own.of v3 3 (List.replicate 8 (0:Int)),Own.frz ft1 wf1]:=hS5
  refine go_alt3 (fun KK hKK=>?_) ?_
  ·refine ge_one2<|ge_call (d:=some 4) (f:=21) (args:=#[]) (by kernel_rfl) (plain_ok (Zand Z wf1) _ (fun w' k=>⟨(hZ w' (hS5.subw.trans k)),(hS5.frzSub 2 rfl).trans k⟩) _ rfl) ?_
   rintro _ w3 ⟨v4,hds1,ft3,wf3,rfl,hd1,hS6⟩
   refine ⟨_,rfl,hS6.below,?_⟩
   have hS9:=((hS5.call hS6).b 4).b 2
   obtain ⟨ft4,wf4,hsb2,hsb3,hS10⟩:=hS9.frzMerge
   replace hd1:DRows (Zand Z wf4) hds1 plain.f:=hd1.up (ZLe.both hsb3 hsb2)
   refine g2 hKK ?_
   have hS14:=(((hS10.b 1).b 1).b 3).b 3
   exact go3_keep [(0,.bool false),(2,pP b3 0),(4,v4),(5,v3)] ea (hJ1_10 (v4,hds1,ft3,wf3,ft4,wf4,v3,b3) _ _ ⟨rfl,hsb2,hsb3,hd1,hS14⟩)
  refine go_alt3 (fun KK hKK=>?_) ?_
  ·refine ge_one2<|gw (some 6) (.cells #[vI 5,vI 0,vI 0,vI 0] 3) (fun b=>.slice (some ⟨b,0,none⟩) 4 4) hS5 fun b4 w3 hx2 hS6=>?_
   refine g2 hKK ?_
   have hS10:=(((hS6.b 3).b 3).b 2).b 3
   exact go3_keep [(0,.bool false),(2,pP b3 0),(5,v3),(6,.slice (some ⟨b4,0,none⟩) 4 4)] ea (hJ1_21 (v3,b4,b3) _ _ ⟨rfl,hS10⟩)
  refine go_alt3 (fun KK hKK=>?_) ?_
  ·refine ge_one2<|gw (some 1) (.cells #[.slice none 0 0,.slice none 0 0,vI 0] 28) (fun b=>pP b 0) hS5 fun b4 w3 hx2 hS6=>?_
   refine g2 hKK ?_
   have hS10:=(((hS6.b 3).b 3).b 2).b 3
   exact go3_keep [(0,.bool false),(1,pP b4 0),(2,pP b3 0),(5,v3)] ea (hJ1_23 (v3,b4,b3) _ _ ⟨rfl,hS10⟩)
  exact go_nomore3
 refine go3_join does.t1_4 (fun (x:Nat×Nat×Nat) e w=>match x with | (b3,b4,b5)=>e=[(0,.bool false),(1,pP b4 0),(2,pP b5 0),(6,.slice (some ⟨b3,0,none⟩) 4 4)]∧St w0 w [bk b5 #[vI 0,vI 0] 31,bk b4 #[.slice none 0 0,.slice none 0 0,vI 0] 28,bk b3 #[vI 5,vI 0,vI 0,vI 0] 3,Own.frz ft1 wf1]) ?_ fun hJ1_26=>?_
 ·rintro ⟨b3,b4,b5⟩ _ W2 ⟨rfl,hS7⟩
  replace hS7:St w0 W2 [bk b5 #[vI 0,vI 0] 31,bk b4 #[.slice none 0 0,.slice none 0 0,vI 0] 28,bk b3 #[vI 5,vI 0,vI 0,vI 0] 3,Own.frz ft1 wf1]:=hS7
  refine go_alt3 (fun KK hKK=>?_) ?_
  ·refine ge_one2<|ge_call (d:=some 4) (f:=21) (args:=#[]) (by kernel_rfl) (plain_ok (Zand Z wf1) _ (fun w' k=>⟨(hZ w' (hS7.subw.trans k)),(hS7.frzSub 3 rfl).trans k⟩) _ rfl) ?_
   rintro _ w4 ⟨v3,hds1,ft3,wf3,rfl,hd1,hS8⟩
   refine ⟨_,rfl,hS8.below,?_⟩
   have hS11:=((hS7.call hS8).b 5).b 2
   obtain ⟨ft4,wf4,hsb2,hsb3,hS12⟩:=hS11.frzMerge
   replace hd1:DRows (Zand Z wf4) hds1 plain.f:=hd1.up (ZLe.both hsb3 hsb2)
   refine g2 hKK ?_
   have hS17:=((((hS12.b 1).b 1).b 4).b 4).b 4
   exact go3_keep [(0,.bool false),(1,pP b4 0),(2,pP b5 0),(4,v3),(6,.slice (some ⟨b3,0,none⟩) 4 4)] ea (hJ1_13 (v3,hds1,ft3,wf3,ft4,wf4,b3,b4,b5) _ _ ⟨rfl,hsb2,hsb3,hd1,hS17⟩)
  refine go_alt3 (fun KK hKK=>?_) ?_
  ·refine ge_one2<|ge_make (α:=Int) (d:=5) (t:=23) (el:=3) (bytes:=8) (l:=8) (c:=8) (x:=(.const (vI 8))) (y:=(.const (vI 8))) (ty:=23) (k1:=.i64) (k2:=.i64) (li:=8) (ci:=8) (z:=vI 0) (z':=(0:Int)) (by kernel_rfl) (by kernel_rfl) (by kernel_rfl) rfl rfl (by kernel_rfl) (by kernel_rfl) rfl hS7 (Nat.le_refl _) rfl (by omega) fun v3 w4 _ hS8=>?_
   refine g2 hKK ?_
   have hS13:=((((hS8.b 4).b 1).b 4).b 4).b 4
   exact go3_keep [(0,.bool false),(1,pP b4 0),(2,pP b5 0),(5,v3),(6,.slice (some ⟨b3,0,none⟩) 4 4)] ea (hJ1_20 (v3,b3,b4,b5) _ _ ⟨rfl,hS13⟩)
  exact go_nomore3
 refine go3_join does.t1_21 (fun (x:Nat×Nat) e w=>match x with | (b3,b4)=>e=[(0,.bool false),(1,pP b4 0),(6,.slice (some ⟨b3,0,none⟩) 4 4)]∧St w0 w [bk b4 #[.slice none 0 0,.slice none 0 0,vI 0] 28,bk b3 #[vI 5,vI 0,vI 0,vI 0] 3,Own.frz ft1 wf1]) ?_ fun hJ1_25=>?_
 ·rintro ⟨b3,b4⟩ _ W1 ⟨rfl,hS5⟩
  replace hS5:St w0 W1 [bk b4 #[.slice none 0 0,.slice none 0 0,vI 0] 28,bk b3 #[vI 5,vI 0,vI 0,vI 0] 3,Own.frz ft1 wf1]:=hS5
  refine go_alt3 (fun KK hKK=>?_) ?_
  ·refine ge_one2<|ge_call (d:=some 4) (f:=21) (args:=#[]) (by kernel_rfl) (plain_ok (Zand Z wf1) _ (fun w' k=>⟨(hZ w' (hS5.subw.trans k)),(hS5.frzSub 2 rfl).trans k⟩) _ rfl) ?_
   rintro _ w3 ⟨v3,hds1,ft3,wf3,rfl,hd1,hS6⟩
   refine ⟨_,rfl,hS6.below,?_⟩
   have hS9:=((hS5.call hS6).b 4).b 2
   obtain ⟨ft4,wf4,hsb2,hsb3,hS10⟩:=hS9.frzMerge
   replace hd1:DRows (Zand Z wf4) hds1 plain.f:=hd1.up (ZLe.both hsb3 hsb2)
   refine g2 hKK ?_
   have hS14:=(((hS10.b 1).b 1).b 3).b 3
   exact go3_keep [(0,.bool false),(1,pP b4 0),(4,v3),(6,.slice (some ⟨b3,0,none⟩) 4 4)] ea (hJ1_12 (v3,hds1,ft3,wf3,ft4,wf4,b3,b4) _ _ ⟨rfl,hsb2,hsb3,hd1,hS14⟩)
  refine go_alt3 (fun KK hKK=>?_) ?_
  ·refine ge_one2<|ge_make (α:=Int) (d:=5) (t:=23) (el:=3) (bytes:=8) (l:=8) (c:=8) (x:=(.const (vI 8))) (y:=(.const (vI 8))) (ty:=23) (k1:=.i64) (k2:=.i64) (li:=8) (ci:=8) (z:=vI 0) (z':=(0:Int)) (by kernel_rfl) (by kernel_rfl) (by kernel_rfl) rfl rfl (by kernel_rfl) (by kernel_rfl) rfl hS5 (Nat.le_refl _) rfl (by omega) fun v3 w3 _ hS6=>?_
   refine g2 hKK ?_
   have hS10:=(((hS6.b 3).b 1).b 3).b 3
   exact go3_keep [(0,.bool false),(1,pP b4 0),(5,v3),(6,.slice (some ⟨b3,0,none⟩) 4 4)] ea (hJ1_19 (v3,b3,b4) _ _ ⟨rfl,hS10⟩)
  refine go_alt3 (fun KK hKK=>?_) ?_
  ·refine ge_one2<|gw (some 2) (.cells #[vI 0,vI 0] 31) (fun b=>pP b 0) hS5 fun b5 w3 hx3 hS6=>?_
   refine g2 hKK ?_
   have hS17:=(((hS6.b 3).b 3).b 3).b 3
   exact go3_keep [(0,.bool false),(1,pP b4 0),(2,pP b5 0),(6,.slice (some ⟨b3,0,none⟩) 4 4)] ea (hJ1_26 (b3,b4,b5) _ _ ⟨rfl,hS17⟩)
  exact go_nomore3
 refine go3_join does.t1_13 (fun (x:Nat×Nat) e w=>match x with | (b3,b4)=>e=[(0,.bool false),(2,pP b4 0),(6,.slice (some ⟨b3,0,none⟩) 4 4)]∧St w0 w [bk b4 #[vI 0,vI 0] 31,bk b3 #[vI 5,vI 0,vI 0,vI 0] 3,Own.frz ft1 wf1]) ?_ fun hJ1_27=>?_
 ·rintro ⟨b3,b4⟩ _ W1 ⟨rfl,hS5⟩
  replace hS5:St w0 W1 [bk b4 #[vI 0,vI 0] 31,bk b3 #[vI 5,vI 0,vI 0,vI 0] 3,Own.frz ft1 wf1]:=hS5
  refine go_alt3 (fun KK hKK=>?_) ?_
  ·refine ge_one2<|ge_call (d:=some 4) (f:=21) (args:=#[]) (by kernel_rfl) (plain_ok (Zand Z wf1) _ (fun w' k=>⟨(hZ w' (hS5.subw.trans k)),(hS5.frzSub 2 rfl).trans k⟩) _ rfl) ?_
   rintro _ w3 ⟨v3,hds1,ft3,wf3,rfl,hd1,hS6⟩
   refine ⟨_,rfl,hS6.below,?_⟩
   have hS9:=((hS5.call hS6).b 4).b 2
   obtain ⟨ft4,wf4,hsb2,hsb3,hS10⟩:=hS9.frzMerge
   replace hd1:DRows (Zand Z wf4) hds1 plain.f:=hd1.up (ZLe.both hsb3 hsb2)
   refine g2 hKK ?_
   have hS14:=(((hS10.b 1).b 1).b 3).b 3
   exact go3_keep [(0,.bool false),(2,pP b4 0),(4,v3),(6,.slice (some ⟨b3,0,none⟩) 4 4)] ea (hJ1_14 (v3,hds1,ft3,wf3,ft4,wf4,b3,b4) _ _ ⟨rfl,hsb2,hsb3,hd1,hS14⟩)
  refine go_alt3 (fun KK hKK=>?_) ?_
  ·refine ge_one2<|ge_make (α:=Int) (d:=5) (t:=23) (el:=3) (bytes:=8) (l:=8) (c:=8) (x:=(.const (vI 8))) (y:=(.const (vI 8))) (ty:=23) (k1:=.i64) (k2:=.i64) (li:=8) (ci:=8) (z:=vI 0) (z':=(0:Int)) (by kernel_rfl) (by kernel_rfl) (by kernel_rfl) rfl rfl (by kernel_rfl) (by kernel_rfl) rfl hS5 (Nat.le_refl _) rfl (by omega) fun v3 w3 _ hS6=>?_
   refine g2 hKK ?_
   have hS10:=(((hS6.b 3).b 1).b 3).b 3
   exact go3_keep [(0,.bool false),(2,pP b4 0),(5,v3),(6,.slice (some ⟨b3,0,none⟩) 4 4)] ea (hJ1_21 (v3,b3,b4) _ _ ⟨rfl,hS10⟩)
  refine go_alt3 (fun KK hKK=>?_) ?_
  ·refine ge_one2<|gw (some 1) (.cells #[.slice none 0 0,.slice none 0 0,vI 0] 28) (fun b=>pP b 0) hS5 fun b5 w3 hx3 hS6=>?_
   refine g2 hKK ?_
   have hS10:=(((hS6.b 3).b 3).b 2).b 3
   exact go3_keep [(0,.bool false),(1,pP b5 0),(2,pP b4 0),(6,.slice (some ⟨b3,0,none⟩) 4 4)] ea (hJ1_26 (b3,b5,b4) _ _ ⟨rfl,hS10⟩)
  exact go_nomore3
 refine go3_join does.t1_8 (fun (x:Nat×Nat) e w=>match x with | (b3,b4)=>e=[(0,.bool false),(1,pP b3 0),(2,pP b4 0)]∧St w0 w [bk b4 #[vI 0,vI 0] 31,bk b3 #[.slice none 0 0,.slice none 0 0,vI 0] 28,Own.frz ft1 wf1]) ?_ fun hJ1_28=>?_
 ·rintro ⟨b3,b4⟩ _ W1 ⟨rfl,hS5⟩
  replace hS5:St w0 W1 [bk b4 #[vI 0,vI 0] 31,bk b3 #[.slice none 0 0,.slice none 0 0,vI 0] 28,Own.frz ft1 wf1]:=hS5
  refine go_alt3 (fun KK hKK=>?_) ?_
  ·refine ge_one2<|ge_call (d:=some 4) (f:=21) (args:=#[]) (by kernel_rfl) (plain_ok (Zand Z wf1) _ (fun w' k=>⟨(hZ w' (hS5.subw.trans k)),(hS5.frzSub 2 rfl).trans k⟩) _ rfl) ?_
   rintro _ w3 ⟨v3,hds1,ft3,wf3,rfl,hd1,hS6⟩
   refine ⟨_,rfl,hS6.below,?_⟩
   have hS9:=((hS5.call hS6).b 4).b 2
   obtain ⟨ft4,wf4,hsb2,hsb3,hS10⟩:=hS9.frzMerge
   replace hd1:DRows (Zand Z wf4) hds1 plain.f:=hd1.up (ZLe.both hsb3 hsb2)
   refine g2 hKK ?_
   have hS14:=(((hS10.b 1).b 1).b 3).b 3
   exact go3_keep [(0,.bool false),(1,pP b3 0),(2,pP b4 0),(4,v3)] ea (hJ1_16 (v3,hds1,ft3,wf3,ft4,wf4,b3,b4) _ _ ⟨rfl,hsb2,hsb3,hd1,hS14⟩)
  refine go_alt3 (fun KK hKK=>?_) ?_
  ·refine ge_one2<|ge_make (α:=Int) (d:=5) (t:=23) (el:=3) (bytes:=8) (l:=8) (c:=8) (x:=(.const (vI 8))) (y:=(.const (vI 8))) (ty:=23) (k1:=.i64) (k2:=.i64) (li:=8) (ci:=8) (z:=vI 0) (z':=(0:Int)) (by kernel_rfl) (by kernel_rfl) (by kernel_rfl) rfl rfl (by kernel_rfl) (by kernel_rfl) rfl hS5 (Nat.le_refl _) rfl (by omega) fun v3 w3 _ hS6=>?_
   refine g2 hKK ?_
   have hS10:=(((hS6.b 3).b 1).b 3).b 3
   exact go3_keep [(0,.bool false),(1,pP b3 0),(2,pP b4 0),(5,v3)] ea (hJ1_23 (v3,b3,b4) _ _ ⟨rfl,hS10⟩)
  refine go_alt3 (fun KK hKK=>?_) ?_
  ·refine ge_one2<|gw (some 6) (.cells #[vI 5,vI 0,vI 0,vI 0] 3) (fun b=>.slice (some ⟨b,0,none⟩) 4 4) hS5 fun b5 w3 hx3 hS6=>?_
   refine g2 hKK ?_
   have hS10:=(((hS6.b 3).b 1).b 3).b 3
   exact go3_keep [(0,.bool false),(1,pP b3 0),(2,pP b4 0),(6,.slice (some ⟨b5,0,none⟩) 4 4)] ea (hJ1_26 (b5,b3,b4) _ _ ⟨rfl,hS10⟩)
  exact go_nomore3
 refine go_alt3 (fun KK hKK=>?_) ?_
 ·refine ge_one2<|ge_call (d:=some 4) (f:=21) (args:=#[]) (by kernel_rfl) (plain_ok (Zand Z wf1) _ (fun w' k=>⟨(hZ w' (hS2.subw.trans k)),(hS2.frzSub 0 rfl).trans k⟩) _ rfl) ?_
  rintro _ w1 ⟨v3,hds1,ft3,wf3,rfl,hd1,hS3⟩
  refine ⟨_,rfl,hS3.below,?_⟩
  have hS6:=((hS2.call hS3).b 2).b 2
  obtain ⟨ft4,wf4,hsb2,hsb3,hS7⟩:=hS6.frzMerge
  replace hd1:DRows (Zand Z wf4) hds1 plain.f:=hd1.up (ZLe.both hsb3 hsb2)
  refine g2 hKK<|go_alt3 (fun KK hKK=>?_) ?_
  ·refine ge_one2<|ge_make (α:=Int) (d:=5) (t:=23) (el:=3) (bytes:=8) (l:=8) (c:=8) (x:=(.const (vI 8))) (y:=(.const (vI 8))) (ty:=23) (k1:=.i64) (k2:=.i64) (li:=8) (ci:=8) (z:=vI 0) (z':=(0:Int)) (by kernel_rfl) (by kernel_rfl) (by kernel_rfl) rfl rfl (by kernel_rfl) (by kernel_rfl) rfl hS7 (Nat.le_refl _) rfl (by omega) fun v4 w2 _ hS8=>?_
   refine g2 hKK ?_
   have hS24:=((hS8.b 2).b 2).b 2
   exact go3_keep [(0,.bool false),(4,v3),(5,v4)] ea (hJ1_0 (v3,hds1,ft3,wf3,ft4,wf4,v4) _ _ ⟨rfl,hsb2,hsb3,hd1,hS24⟩)
  refine go_alt3 (fun KK hKK=>?_) ?_
  ·refine ge_one2<|gw (some 6) (.cells #[vI 5,vI 0,vI 0,vI 0] 3) (fun b=>.slice (some ⟨b,0,none⟩) 4 4) hS7 fun b3 w2 hx1 hS8=>?_
   refine g2 hKK ?_
   have hS24:=((hS8.b 2).b 2).b 2
   exact go3_keep [(0,.bool false),(4,v3),(6,.slice (some ⟨b3,0,none⟩) 4 4)] ea (hJ1_11 (v3,hds1,ft3,wf3,ft4,wf4,b3) _ _ ⟨rfl,hsb2,hsb3,hd1,hS24⟩)
  refine go_alt3 (fun KK hKK=>?_) ?_
  ·refine ge_one2<|gw (some 1) (.cells #[.slice none 0 0,.slice none 0 0,vI 0] 28) (fun b=>pP b 0) hS7 fun b3 w2 hx1 hS8=>?_
   refine g2 hKK ?_
   have hS24:=((hS8.b 2).b 2).b 2
   exact go3_keep [(0,.bool false),(1,pP b3 0),(4,v3)] ea (hJ1_15 (v3,hds1,ft3,wf3,ft4,wf4,b3) _ _ ⟨rfl,hsb2,hsb3,hd1,hS24⟩)
  refine go_alt3 (fun KK hKK=>?_) ?_
  ·refine ge_one2<|gw (some 2) (.cells #[vI 0,vI 0] 31) (fun b=>pP b 0) hS7 fun b3 w2 hx1 hS8=>?_
   refine g2 hKK ?_
   have hS17:=((hS8.b 2).b 2).b 2
   exact go3_keep [(0,.bool false),(2,pP b3 0),(4,v3)] ea (hJ1_17 (v3,hds1,ft3,wf3,ft4,wf4,b3) _ _ ⟨rfl,hsb2,hsb3,hd1,hS17⟩)
  exact go_nomore3
 refine go_alt3 (fun KK hKK=>?_) ?_
 ·refine ge_one2<|ge_make (α:=Int) (d:=5) (t:=23) (el:=3) (bytes:=8) (l:=8) (c:=8) (x:=(.const (vI 8))) (y:=(.const (vI 8))) (ty:=23) (k1:=.i64) (k2:=.i64) (li:=8) (ci:=8) (z:=vI 0) (z':=(0:Int)) (by kernel_rfl) (by kernel_rfl) (by kernel_rfl) rfl rfl (by kernel_rfl) (by kernel_rfl) rfl hS2 (Nat.le_refl _) rfl (by omega) fun v3 w1 _ hS3=>?_
  refine g2 hKK<|go_alt3 (fun KK hKK=>?_) ?_
  ·refine ge_one2<|ge_call (d:=some 4) (f:=21) (args:=#[]) (by kernel_rfl) (plain_ok (Zand Z wf1) _ (fun w' k=>⟨(hZ w' (hS3.subw.trans k)),(hS3.frzSub 1 rfl).trans k⟩) _ rfl) ?_
   rintro _ w2 ⟨v4,hds1,ft3,wf3,rfl,hd1,hS4⟩
   refine ⟨_,rfl,hS4.below,?_⟩
   have hS7:=((hS3.call hS4).b 3).b 2
   obtain ⟨ft4,wf4,hsb2,hsb3,hS8⟩:=hS7.frzMerge
   replace hd1:DRows (Zand Z wf4) hds1 plain.f:=hd1.up (ZLe.both hsb3 hsb2)
   refine g2 hKK ?_
   have hS11:=((hS8.b 1).b 1).b 2
   exact go3_keep [(0,.bool false),(4,v4),(5,v3)] ea (hJ1_0 (v4,hds1,ft3,wf3,ft4,wf4,v3) _ _ ⟨rfl,hsb2,hsb3,hd1,hS11⟩)
  refine go_alt3 (fun KK hKK=>?_) ?_
  ·refine ge_one2<|gw (some 6) (.cells #[vI 5,vI 0,vI 0,vI 0] 3) (fun b=>.slice (some ⟨b,0,none⟩) 4 4) hS3 fun b3 w2 hx1 hS4=>?_
   refine g2 hKK ?_
   have hS20:=((hS4.b 2).b 2).b 2
   exact go3_keep [(0,.bool false),(5,v3),(6,.slice (some ⟨b3,0,none⟩) 4 4)] ea (hJ1_18 (v3,b3) _ _ ⟨rfl,hS20⟩)
  refine go_alt3 (fun KK hKK=>?_) ?_
  ·refine ge_one2<|gw (some 1) (.cells #[.slice none 0 0,.slice none 0 0,vI 0] 28) (fun b=>pP b 0) hS3 fun b3 w2 hx1 hS4=>?_
   refine g2 hKK ?_
   have hS20:=((hS4.b 2).b 2).b 2
   exact go3_keep [(0,.bool false),(1,pP b3 0),(5,v3)] ea (hJ1_22 (v3,b3) _ _ ⟨rfl,hS20⟩)
  refine go_alt3 (fun KK hKK=>?_) ?_
  ·refine ge_one2<|gw (some 2) (.cells #[vI 0,vI 0] 31) (fun b=>pP b 0) hS3 fun b3 w2 hx1 hS4=>?_
   refine g2 hKK ?_
   have hS13:=((hS4.b 2).b 2).b 2
   exact go3_keep [(0,.bool false),(2,pP b3 0),(5,v3)] ea (hJ1_24 (v3,b3) _ _ ⟨rfl,hS13⟩)
  exact go_nomore3
 refine go_alt3 (fun KK hKK=>?_) ?_
 ·refine ge_one2<|gw (some 6) (.cells #[vI 5,vI 0,vI 0,vI 0] 3) (fun b=>.slice (some ⟨b,0,none⟩) 4 4) hS2 fun b3 w1 hx1 hS3=>?_
  refine g2 hKK<|go_alt3 (fun KK hKK=>?_) ?_
  ·refine ge_one2<|ge_call (d:=some 4) (f:=21) (args:=#[]) (by kernel_rfl) (plain_ok (Zand Z wf1) _ (fun w' k=>⟨(hZ w' (hS3.subw.trans k)),(hS3.frzSub 1 rfl).trans k⟩) _ rfl) ?_
   rintro _ w2 ⟨v3,hds1,ft3,wf3,rfl,hd1,hS4⟩
   refine ⟨_,rfl,hS4.below,?_⟩
   have hS7:=((hS3.call hS4).b 3).b 2
   obtain ⟨ft4,wf4,hsb2,hsb3,hS8⟩:=hS7.frzMerge
   replace hd1:DRows (Zand Z wf4) hds1 plain.f:=hd1.up (ZLe.both hsb3 hsb2)
   refine g2 hKK ?_
   have hS11:=((hS8.b 1).b 1).b 2
   exact go3_keep [(0,.bool false),(4,v3),(6,.slice (some ⟨b3,0,none⟩) 4 4)] ea (hJ1_11 (v3,hds1,ft3,wf3,ft4,wf4,b3) _ _ ⟨rfl,hsb2,hsb3,hd1,hS11⟩)
  refine go_alt3 (fun KK hKK=>?_) ?_
  ·refine ge_one2<|ge_make (α:=Int) (d:=5) (t:=23) (el:=3) (bytes:=8) (l:=8) (c:=8) (x:=(.const (vI 8))) (y:=(.const (vI 8))) (ty:=23) (k1:=.i64) (k2:=.i64) (li:=8) (ci:=8) (z:=vI 0) (z':=(0:Int)) (by kernel_rfl) (by kernel_rfl) (by kernel_rfl) rfl rfl (by kernel_rfl) (by kernel_rfl) rfl hS3 (Nat.le_refl _) rfl (by omega) fun v3 w2 _ hS4=>?_
   refine g2 hKK ?_
   have hS7:=((hS4.b 2).b 1).b 2
   exact go3_keep [(0,.bool false),(5,v3),(6,.slice (some ⟨b3,0,none⟩) 4 4)] ea (hJ1_18 (v3,b3) _ _ ⟨rfl,hS7⟩)
  refine go_alt3 (fun KK hKK=>?_) ?_
  ·refine ge_one2<|gw (some 1) (.cells #[.slice none 0 0,.slice none 0 0,vI 0] 28) (fun b=>pP b 0) hS3 fun b4 w2 hx2 hS4=>?_
   refine g2 hKK ?_
   have hS20:=((hS4.b 2).b 2).b 2
   exact go3_keep [(0,.bool false),(1,pP b4 0),(6,.slice (some ⟨b3,0,none⟩) 4 4)] ea (hJ1_25 (b3,b4) _ _ ⟨rfl,hS20⟩)
  refine go_alt3 (fun KK hKK=>?_) ?_
  ·refine ge_one2<|gw (some 2) (.cells #[vI 0,vI 0] 31) (fun b=>pP b 0) hS3 fun b4 w2 hx2 hS4=>?_
   refine g2 hKK ?_
   have hS13:=((hS4.b 2).b 2).b 2
   exact go3_keep [(0,.bool false),(2,pP b4 0),(6,.slice (some ⟨b3,0,none⟩) 4 4)] ea (hJ1_27 (b3,b4) _ _ ⟨rfl,hS13⟩)
  exact go_nomore3
 refine go_alt3 (fun KK hKK=>?_) ?_
 ·refine ge_one2<|gw (some 1) (.cells #[.slice none 0 0,.slice none 0 0,vI 0] 28) (fun b=>pP b 0) hS2 fun b3 w1 hx1 hS3=>?_
  refine g2 hKK<|go_alt3 (fun KK hKK=>?_) ?_
  ·refine ge_one2<|ge_call (d:=some 4) (f:=21) (args:=#[]) (by kernel_rfl) (plain_ok (Zand Z wf1) _ (fun w' k=>⟨(hZ w' (hS3.subw.trans k)),(hS3.frzSub 1 rfl).trans k⟩) _ rfl) ?_
   rintro _ w2 ⟨v3,hds1,ft3,wf3,rfl,hd1,hS4⟩
   refine ⟨_,rfl,hS4.below,?_⟩
   have hS7:=((hS3.call hS4).b 3).b 2
   obtain ⟨ft4,wf4,hsb2,hsb3,hS8⟩:=hS7.frzMerge
   replace hd1:DRows (Zand Z wf4) hds1 plain.f:=hd1.up (ZLe.both hsb3 hsb2)
   refine g2 hKK ?_
   have hS11:=((hS8.b 1).b 1).b 2
   exact go3_keep [(0,.bool false),(1,pP b3 0),(4,v3)] ea (hJ1_15 (v3,hds1,ft3,wf3,ft4,wf4,b3) _ _ ⟨rfl,hsb2,hsb3,hd1,hS11⟩)
  refine go_alt3 (fun KK hKK=>?_) ?_
  ·refine ge_one2<|ge_make (α:=Int) (d:=5) (t:=23) (el:=3) (bytes:=8) (l:=8) (c:=8) (x:=(.const (vI 8))) (y:=(.const (vI 8))) (ty:=23) (k1:=.i64) (k2:=.i64) (li:=8) (ci:=8) (z:=vI 0) (z':=(0:Int)) (by kernel_rfl) (by kernel_rfl) (by kernel_rfl) rfl rfl (by kernel_rfl) (by kernel_rfl) rfl hS3 (Nat.le_refl _) rfl (by omega) fun v3 w2 _ hS4=>?_
   refine g2 hKK ?_
   have hS7:=((hS4.b 2).b 1).b 2
   exact go3_keep [(0,.bool false),(1,pP b3 0),(5,v3)] ea (hJ1_22 (v3,b3) _ _ ⟨rfl,hS7⟩)
  refine go_alt3 (fun KK hKK=>?_) ?_
  ·refine ge_one2<|gw (some 6) (.cells #[vI 5,vI 0,vI 0,vI 0] 3) (fun b=>.slice (some ⟨b,0,none⟩) 4 4) hS3 fun b4 w2 hx2 hS4=>?_
   refine g2 hKK ?_
   have hS7:=((hS4.b 2).b 1).b 2
   exact go3_keep [(0,.bool false),(1,pP b3 0),(6,.slice (some ⟨b4,0,none⟩) 4 4)] ea (hJ1_25 (b4,b3) _ _ ⟨rfl,hS7⟩)
  refine go_alt3 (fun KK hKK=>?_) ?_
  ·refine ge_one2<|gw (some 2) (.cells #[vI 0,vI 0] 31) (fun b=>pP b 0) hS3 fun b4 w2 hx2 hS4=>?_
   refine g2 hKK ?_
   have hS13:=((hS4.b 2).b 2).b 2
   exact go3_keep [(0,.bool false),(1,pP b3 0),(2,pP b4 0)] ea (hJ1_28 (b3,b4) _ _ ⟨rfl,hS13⟩)
  exact go_nomore3
 refine go_alt3 (fun KK hKK=>?_) ?_
 ·refine ge_one2<|gw (some 2) (.cells #[vI 0,vI 0] 31) (fun b=>pP b 0) hS2 fun b3 w1 hx1 hS3=>?_
  refine g2 hKK<|go_alt3 (fun KK hKK=>?_) ?_
  ·refine ge_one2<|ge_call (d:=some 4) (f:=21) (args:=#[]) (by kernel_rfl) (plain_ok (Zand Z wf1) _ (fun w' k=>⟨(hZ w' (hS3.subw.trans k)),(hS3.frzSub 1 rfl).trans k⟩) _ rfl) ?_
   rintro _ w2 ⟨v3,hds1,ft3,wf3,rfl,hd1,hS4⟩
   refine ⟨_,rfl,hS4.below,?_⟩
   have hS7:=((hS3.call hS4).b 3).b 2
   obtain ⟨ft4,wf4,hsb2,hsb3,hS8⟩:=hS7.frzMerge
   replace hd1:DRows (Zand Z wf4) hds1 plain.f:=hd1.up (ZLe.both hsb3 hsb2)
   refine g2 hKK ?_
   have hS11:=((hS8.b 1).b 1).b 2
   exact go3_keep [(0,.bool false),(2,pP b3 0),(4,v3)] ea (hJ1_17 (v3,hds1,ft3,wf3,ft4,wf4,b3) _ _ ⟨rfl,hsb2,hsb3,hd1,hS11⟩)
  refine go_alt3 (fun KK hKK=>?_) ?_
  ·refine ge_one2<|ge_make (α:=Int) (d:=5) (t:=23) (el:=3) (bytes:=8) (l:=8) (c:=8) (x:=(.const (vI 8))) (y:=(.const (vI 8))) (ty:=23) (k1:=.i64) (k2:=.i64) (li:=8) (ci:=8) (z:=vI 0) (z':=(0:Int)) (by kernel_rfl) (by kernel_rfl) (by kernel_rfl) rfl rfl (by kernel_rfl) (by kernel_rfl) rfl hS3 (Nat.le_refl _) rfl (by omega) fun v3 w2 _ hS4=>?_
   refine g2 hKK ?_
   have hS7:=((hS4.b 2).b 1).b 2
   exact go3_keep [(0,.bool false),(2,pP b3 0),(5,v3)] ea (hJ1_24 (v3,b3) _ _ ⟨rfl,hS7⟩)
  refine go_alt3 (fun KK hKK=>?_) ?_
  ·refine ge_one2<|gw (some 6) (.cells #[vI 5,vI 0,vI 0,vI 0] 3) (fun b=>.slice (some ⟨b,0,none⟩) 4 4) hS3 fun b4 w2 hx2 hS4=>?_
   refine g2 hKK ?_
   have hS7:=((hS4.b 2).b 1).b 2
   exact go3_keep [(0,.bool false),(2,pP b3 0),(6,.slice (some ⟨b4,0,none⟩) 4 4)] ea (hJ1_27 (b4,b3) _ _ ⟨rfl,hS7⟩)
  refine go_alt3 (fun KK hKK=>?_) ?_
  ·refine ge_one2<|gw (some 1) (.cells #[.slice none 0 0,.slice none 0 0,vI 0] 28) (fun b=>pP b 0) hS3 fun b4 w2 hx2 hS4=>?_
   refine g2 hKK ?_
   have hS7:=((hS4.b 2).b 1).b 2
   exact go3_keep [(0,.bool false),(1,pP b4 0),(2,pP b3 0)] ea (hJ1_28 (b4,b3) _ _ ⟨rfl,hS7⟩)
  exact go_nomore3
 exact go_nomore3
theorem does_ok (K:Nat) (Z:Zone) (w0:World) (hZ:∀ w,Sub w0 w→Z w) (r:Bool) (h:does.f K=some r) :
  Calls Try.prog 6 #[] w0 (does.Post w0 r):=by
 have hS:=St.start w0
 unfold does.f at h
 refine calls_enter (n:=38) (args:=[]) (fn:=Try.f6) rfl rfl rfl rfl ?_
 show WE _ _ _ _ [] _
 obtain ⟨ft1,wf1,hS1⟩:=hS.frz0
 refine ws fun K1 hK1=>wr [(0,0)]<|gb0 [0] [(0,.bool false)]<|gn hK1<|ws fun K2 hK2=>?_
 rcases hq1:does.p0 K with _ | (⟨m3,m4,z4,z5,z6⟩ | rr1)
 ·rw [hq1] at h; cases h
 ·rw [hq1] at h
  simp only [] at h
  refine kp (does_p0 K w0 Z hZ ft1 wf1 _ hq1 _ hS1 _ ?_)
  rintro _ a w3 ⟨rfl,ft3,wf3,b5,b6,v3,v4,hRz1,hS8,hF⟩
  replace hS8:St w0 w3 [bk b5 #[v3,v4,vI z4] 28,bk b6 #[vI z5,vI z6] 31,Own.of v3 3 m3,Own.of v4 42 m4,Own.frz ft3 wf3]:=hS8
  refine hK2 [(1,pP b5 0),(2,pP b6 0)] w3 ?_ a hF
  refine ws fun K3 hK3=>wr [(0,0),(1,0),(2,0),(3,0),(4,0),(5,0),(6,0),(7,0),(8,0),(9,0),(10,0),(11,0),(12,0),(13,0),(14,0),(15,0),(16,0),(17,0),(18,0),(19,0),(20,0),(21,0),(22,0),(23,0),(24,0),(25,1),(26,1),(27,0),(28,0)]<|gb [0,1,2,3] [(13,.bool (z5==0)),(12,.bool (z5==0)),(11,vI z5),(10,pP b6 0)] [ld b6 0 (vI z5)] ⟨hS8.c 1,trivial⟩ ?_
  by_cases hc1:z5=0
  ·rw [if_pos hc1] at h
   refine gk 13 (z5==0) true (beq_iff_eq.2 hc1)<|gb [4,5,6,7,8] [(18,.bool (z4==5)),(17,.bool (z4==5)),(16,.bool (z4==5)),(15,vI z4),(14,pP b5 2)] [ld b5 2 (vI z4)] ⟨hS8.c 0,trivial⟩ ?_
   by_cases hc2:z4=5
   ·rw [if_pos hc2] at h
    refine gk 18 (z4==5) true (beq_iff_eq.2 hc2)<|gb [9,10] [(20,v3),(19,pP b5 0)] [ld b5 0 (v3)] ⟨hS8.c 0,trivial⟩ ?_
    obtain ⟨Z1,cz1,rfl⟩:=hS8.open 2 rfl
    refine gb0 [11,12,13,14] [(24,.bool ((m3.length:Int)==8)),(23,.bool ((m3.length:Int)==8)),(22,.bool ((m3.length:Int)==8)),(21,vI (m3.length:Int))] ?_
    by_cases hc3:(m3.length:Int)=8
    ·rw [if_pos hc3] at h
     refine gk 24 ((m3.length:Int)==8) true (beq_iff_eq.2 hc3)<|gb [15,16] [(26,(.slice Z1 m3.length cz1)),(25,pP b5 0)] [ld b5 0 ((.slice Z1 m3.length cz1))] ⟨hS8.c 0,trivial⟩ ?_
     rcases hx3:m3[0]? with _ | e1
     ·rw [hx3] at h; cases h
     rw [hx3] at h
     simp only [] at h
     refine gi 27 0 23 3 1 m3.length cz1 (.tmp 26) (.const (vI 0)) Z1 .i64 0 0 ((hS8.rdAt 2 rfl).eqSome (pos_of_get hx3)) rfl (lt_of_get hx3) ?_
     refine gb [18,19,20,21] [(31,.bool (e1==15)),(30,.bool (e1==15)),(29,.bool (e1==15)),(28,vI e1)] [.loaded ⟨blkOf Z1,offOf Z1+0*1,none⟩ (vI e1)] ⟨RdL.cell (j:=0) (hS8.rdAt 2 rfl) hx3 rfl,trivial⟩ ?_
     by_cases hc4:e1=15
     ·rw [if_pos hc4] at h
      refine gk 31 (e1==15) true (beq_iff_eq.2 hc4)<|gb [22,23,24] [(34,.agg #[vI 1,vI 30]),(33,v4),(32,pP b5 1)] [ld b5 1 (v4)] ⟨hS8.c 0,trivial⟩<|gw (some 35) (.cells #[vI 1,vI 30] 42) (fun b=>.slice (some ⟨b,0,none⟩) 1 1) hS8 fun b7 w4 hx4 hS9=>?_
      obtain ⟨Z2,cz2,rfl⟩:=hS9.open 4 rfl
      rcases hq2:ps_Same_api_Put.f K m4 ([(⟨1,30⟩:SPut)]:List SPut) with _ | r1
      ·rw [hq2] at h; cases h
      rw [hq2] at h
      simp only [] at h
      refine ge_call (d:=some 36) (f:=19) (args:=#[(.slice Z2 m4.length cz2),.slice (some ⟨b7,0,none⟩) 1 1]) (by kernel_rfl) (ps_Same_api_Put_ok K m4 Z2 cz2 ([(⟨1,30⟩:SPut)]:List SPut) (some ⟨b7,0,none⟩) 1 _ (hS9.rdAt 4 rfl) (hS9.capAt 4 rfl) (hS9.rdBlk 0 ([(⟨1,30⟩:SPut)]:List SPut) rfl rfl rfl) (Nat.le_refl _) _ hq2) ?_
      rintro _ w5 ⟨rfl,hS10⟩
      refine ⟨_,rfl,hS10.below,?_⟩
      have hS11:=hS9.call hS10
      refine gb0 [27,28] [(0,.bool r1),(37,.bool r1)]<|gn hK3 ?_
      have hS12:=hS11.takeN 0
      obtain rfl:=si h
      exact we_ret (pr0 [.tmp 0] [.bool r1] ⟨rfl,hS12⟩)
     rw [if_neg hc4] at h
     refine gk 31 (e1==15) false (beq_eq_false_iff_ne.2 hc4)<|gb0 [22,23,24] [(34,undef),(33,undef),(32,undef)]<|ge_off rfl rfl rfl (by kernel_rfl) ?_
     refine ge_off rfl rfl rfl (by kernel_rfl) ?_
     refine gb0 [27,28] [(0,.bool false),(37,.bool false)]<|gn hK3 ?_
     have hS13:=hS8.takeN 0
     obtain rfl:=si h
     exact we_ret (pr0 [.tmp 0] [.bool false] ⟨rfl,hS13⟩)
    rw [if_neg hc3] at h
    refine gk 24 ((m3.length:Int)==8) false (beq_eq_false_iff_ne.2 hc3)<|gb0 [15,16,17,18,19,20,21,22,23,24] [(34,undef),(33,undef),(32,undef),(31,.bool false),(30,.bool false),(29,undef),(28,undef),(27,undef),(26,undef),(25,undef)]<|ge_off rfl rfl rfl (by kernel_rfl) ?_
    refine ge_off rfl rfl rfl (by kernel_rfl) ?_
    refine gb0 [27,28] [(0,.bool false),(37,.bool false)]<|gn hK3 ?_
    have hS14:=hS8.takeN 0
    obtain rfl:=si h
    exact we_ret (pr0 [.tmp 0] [.bool false] ⟨rfl,hS14⟩)
   rw [if_neg hc2] at h
   refine gk 18 (z4==5) false (beq_eq_false_iff_ne.2 hc2)<|gb0 [9,10,11,12,13,14,15,16,17,18,19,20,21,22,23,24] [(34,undef),(33,undef),(32,undef),(31,.bool false),(30,.bool false),(29,undef),(28,undef),(27,undef),(26,undef),(25,undef),(24,.bool false),(23,.bool false),(22,undef),(21,undef),(20,undef),(19,undef)]<|ge_off rfl rfl rfl (by kernel_rfl) ?_
   refine ge_off rfl rfl rfl (by kernel_rfl) ?_
   refine gb0 [27,28] [(0,.bool false),(37,.bool false)]<|gn hK3 ?_
   have hS15:=hS8.takeN 0
   obtain rfl:=si h
   exact we_ret (pr0 [.tmp 0] [.bool false] ⟨rfl,hS15⟩)
  rw [if_neg hc1] at h
  refine gk 13 (z5==0) false (beq_eq_false_iff_ne.2 hc1)<|gb0 [4,5,6,7,8,9,10,11,12,13,14,15,16,17,18,19,20,21,22,23,24] [(34,undef),(33,undef),(32,undef),(31,.bool false),(30,.bool false),(29,undef),(28,undef),(27,undef),(26,undef),(25,undef),(24,.bool false),(23,.bool false),(22,undef),(21,undef),(20,undef),(19,undef),(18,.bool false),(17,.bool false),(16,undef),(15,undef),(14,undef)]<|ge_off rfl rfl rfl (by kernel_rfl) ?_
  refine ge_off rfl rfl rfl (by kernel_rfl) ?_
  refine gb0 [27,28] [(0,.bool false),(37,.bool false)]<|gn hK3 ?_
  have hS16:=hS8.takeN 0
  obtain rfl:=si h
  exact we_ret (pr0 [.tmp 0] [.bool false] ⟨rfl,hS16⟩)
 rw [hq1] at h
 simp only [] at h
 refine kp (does_p0 K w0 Z hZ ft1 wf1 _ hq1 _ hS1 _ ?_)
 rintro _ a w1 ⟨_,rfl,hb⟩
 obtain rfl:=si h
 exact hb

/-! punctual/punctualsame.deepExpr -/
abbrev ps_deepExpr.Post (w0:World) (r:Int) (e:Ending) (w:World):Prop:=e=.returned (vI r)∧St w0 w []
abbrev ps_deepExpr.Rec (rec_ps_deepExpr:Int→Int→(List SExpr)→Option Int):Prop:=∀ (Z:Zone) (x0_0:Int) (x0_1:Int) (l0_2:List SExpr) (A0_2:OA) (c0_2:Nat) (w0:World) (hZ:∀ w,Sub w0 w→Z w) (hR0_2:RdZ Z A0_2 l0_2) (hL0_2:l0_2.length≤c0_2) (r:Int) (h:rec_ps_deepExpr x0_0 x0_1 l0_2=some r),Calls Try.prog 43 #[.agg #[vI x0_0,vI x0_1,.slice A0_2 l0_2.length c0_2]] w0 (ps_deepExpr.Post w0 r)
def ps_deepExpr.r0 (l0_2 : List SExpr) (rec_ps_deepExpr : Int → Int → (List SExpr) → Option Int) : Int × Nat → Option ((Int × Nat) ⊕ (Int ⊕ Int))
 | (z1,i1) =>
  if (i1:Int)<(l0_2.length:Int) then
   match l0_2[i1]? with
   | none=>none
   | some e1 =>
    match rec_ps_deepExpr e1.Kind e1.N e1.A with
    | none=>none
    | some r1 =>
     some (.inl (gmax z1 (IntKind.i64.wrap (1+r1)),(i1+1)))
  else
   some (.inr (.inl z1))
def ps_deepExpr.b (K : Nat) (rec_ps_deepExpr : Int → Int → (List SExpr) → Option Int) (x0_0 : Int) (x0_1 : Int) (l0_2 : List SExpr) : Option Int :=
 match iter (ps_deepExpr.r0 l0_2 rec_ps_deepExpr) K (1,0) with
 | none=>none
 | some (.inl z3) =>
  some z3
 | some (.inr rr1) =>
  some rr1
abbrev ps_deepExpr.A0 (w0:World) (l0_2:List SExpr) (A0_2:OA) (c0_2:Nat):(Int×Nat)→Act→World→Prop:=fun (s:Int×Nat) a w=>St w0 w []∧Frm 20 a [(3,vI s.1),(7,.slice A0_2 l0_2.length c0_2),(8,vI (l0_2.length:Int)),(9,vI (s.2:Int))]
abbrev ps_deepExpr.B0 (w0:World):(Int ⊕ Int)→Exit→Act→World→Prop:=Exits 0 (fun (s:Int) a w=>St w0 w []∧Frm 20 a [(3,vI s)]) (Rets Try.prog Try.f43 (ps_deepExpr.Post w0))
theorem ps_deepExpr_r0 (K:Nat) (w0:World) (Z:Zone) (x0_0 x0_1:Int) (l0_2:List SExpr) (A0_2:OA) (c0_2:Nat) (hZ:∀ w,Sub w0 w→Z w) (hR0_2:RdZ Z A0_2 l0_2) (hL0_2:l0_2.length≤c0_2) (rec_ps_deepExpr:Int→Int→(List SExpr)→Option Int) (hr_ps_deepExpr:ps_deepExpr.Rec rec_ps_deepExpr) (b1:Nat) (s:Int×Nat) (o:(Int×Nat) ⊕ (Int ⊕ Int)) (h:ps_deepExpr.r0 l0_2 rec_ps_deepExpr s=some o) (a:Act) (w:World) (hA:ps_deepExpr.A0 w0 l0_2 A0_2 c0_2 s a w) (Q:Exit→Act→World→Prop) (hQ:∀ x a w,Outs (ps_deepExpr.A0 w0 l0_2 A0_2 c0_2) (ps_deepExpr.B0 w0) o x a w→Q x a w):(subF Try.f43 [1,1,0,1,0,0]).wp Try.prog Q a w:=by
 obtain ⟨z1,i1⟩:=s
 obtain ⟨hS,hF⟩:=hA
 replace hS:St w0 w []:=hS
 simp only [ps_deepExpr.r0] at h
 refine (?_:WE Try.prog 20 (subF Try.f43 [1,1,0,1,0,0]) Q [(3,vI z1),(7,.slice A0_2 l0_2.length c0_2),(8,vI (l0_2.length:Int)),(9,vI (i1:Int))] w) a hF
 clear hF a
 refine ws fun K5 hK5=>wr [(0,0)]<|gb0 [0] [(10,.bool (decide ((i1:Int)<(l0_2.length:Int))))]<|gn hK5<|ws fun K6 hK6=>?_
 by_cases hc1:(i1:Int)<(l0_2.length:Int)
 ·rw [if_pos hc1] at h
  refine wk 10 (decide ((i1:Int)<(l0_2.length:Int))) true (decide_eq_true hc1)<|wt<|we_skip fun a hF=>hK6 _ _ ?_ a hF
  refine ws fun K7 hK7=>we_block<|ws fun K8 hK8=>wr [(0,0),(1,0),(2,1),(3,2)] ?_
  rcases hx2:l0_2[i1]? with _ | e1
  ·rw [hx2] at h; cases h
  rw [hx2] at h
  simp only [] at h
  obtain ⟨An1,cn1,hCs1,hLn1,hRn1⟩:=SExpr.getZ hR0_2 hx2
  refine gi 11 0 64 66 3 l0_2.length c0_2 (.tmp 7) (.tmp 9) A0_2 .i64 (i1:Int) i1 (hR0_2.eqSome (hZ _ hS.subw) (pos_of_get hx2)) rfl (lt_of_get hx2) ?_
  refine gb [1] [(12,.agg #[vI e1.Kind,vI e1.N,.slice An1 e1.A.length cn1])] [.loaded ⟨blkOf A0_2,offOf A0_2+i1*3,none⟩ (vI e1.Kind),.loaded ⟨blkOf A0_2,offOf A0_2+i1*3+1,none⟩ (vI e1.N),.loaded ⟨blkOf A0_2,offOf A0_2+i1*3+2,none⟩ (.slice An1 e1.A.length cn1)] ⟨hCs1 _ (hZ _ hS.subw) 0 _ rfl,hCs1 _ (hZ _ hS.subw) 1 _ rfl,hCs1 _ (hZ _ hS.subw) 2 _ rfl,trivial⟩<|gw (some 5) (.cells #[vI 0,vI 0,.slice none 0 0] 66) (fun b=>pP b 0) hS fun b2 w2 hx3 hS3=>?_
  refine gs b2 0 #[vI 0,vI 0,.slice none 0 0] 66 [vI e1.Kind,vI e1.N,.slice An1 e1.A.length cn1] hS3 fun w3 hS4=>?_
  have hS5:=hS4.nc #[vI e1.Kind,vI e1.N,.slice An1 e1.A.length cn1] (by kernel_rfl)
  refine gn hK8<|wr [(0,0),(1,0),(2,1),(3,0),(4,0),(5,0)] ?_
  rcases hq1:rec_ps_deepExpr e1.Kind e1.N e1.A with _ | r1
  ·rw [hq1] at h; cases h
  rw [hq1] at h
  simp only [] at h
  refine gb [0,1] [(14,.agg #[vI e1.Kind,vI e1.N,.slice An1 e1.A.length cn1]),(13,vI z1)] [ld b2 0 (vI e1.Kind),ld b2 1 (vI e1.N),ld b2 2 (.slice An1 e1.A.length cn1)] ⟨hS5.c 0,hS5.c 0,hS5.c 0,trivial⟩<|ge_call (d:=some 15) (f:=43) (args:=#[.agg #[vI e1.Kind,vI e1.N,.slice An1 e1.A.length cn1]]) (by kernel_rfl) (hr_ps_deepExpr Z e1.Kind e1.N e1.A An1 cn1 _ (fun w' k=>(hZ w' (hS5.subw.trans k))) hRn1 hLn1 _ hq1) ?_
  rintro _ w4 ⟨rfl,hS6⟩
  refine ⟨_,rfl,hS6.below,?_⟩
  have hS7:=hS5.call hS6
  refine gb0 [3,4,5] [(3,vI (gmax z1 (IntKind.i64.wrap (1+r1)))),(17,vI (gmax z1 (IntKind.i64.wrap (1+r1)))),(16,vI (IntKind.i64.wrap (1+r1)))]<|gn hK7<|wr [(0,0),(1,0)]<|ge_addn (d:=18) (ty:=3) (x:=(.tmp 9)) (y:=(.const (vI 1))) (t:=3) (t2:=3) (k:=.i64) (m:=i1) (by kernel_rfl) (by kernel_rfl) (by kernel_rfl) (by have h0:=RdZ.small hR0_2 (hZ _ hS7.subw); omega) ?_
  refine gb0 [1] [(9,vI ((i1+1:Nat):Int))] ?_
  have hS8:=hS7.takeN 0
  obtain rfl:=si h
  exact ge_nil fun a hF=>hQ _ _ _ (Outs.again ⟨hS8,hF.weaken ea⟩)
 rw [if_neg hc1] at h
 refine wk 10 (decide ((i1:Int)<(l0_2.length:Int))) false (decide_eq_false hc1)<|wf ?_
 obtain rfl:=si h
 exact we_exit fun a hF=>hQ _ _ _ (Outs.out nofun (Exits.here ⟨hS,hF.weaken ea⟩))
theorem ps_deepExpr_step (K:Nat) (rec_ps_deepExpr:Int→Int→(List SExpr)→Option Int) (hr_ps_deepExpr:ps_deepExpr.Rec rec_ps_deepExpr) (Z:Zone) (x0_0 x0_1:Int) (l0_2:List SExpr) (A0_2:OA) (c0_2:Nat) (w0:World) (hZ:∀ w,Sub w0 w→Z w) (hR0_2:RdZ Z A0_2 l0_2) (hL0_2:l0_2.length≤c0_2) (r:Int) (h:ps_deepExpr.b K rec_ps_deepExpr x0_0 x0_1 l0_2=some r) :
  Calls Try.prog 43 #[.agg #[vI x0_0,vI x0_1,.slice A0_2 l0_2.length c0_2]] w0 (ps_deepExpr.Post w0 r):=by
 have hS:=St.start w0
 unfold ps_deepExpr.b at h
 refine calls_enter (n:=20) (args:=[.agg #[vI x0_0,vI x0_1,.slice A0_2 l0_2.length c0_2]]) (fn:=Try.f43) rfl rfl rfl rfl ?_
 show WE _ _ _ _ [(0,.agg #[vI x0_0,vI x0_1,.slice A0_2 l0_2.length c0_2])] _
 refine ws fun K1 hK1=>wr [(0,1),(1,0)]<|gw (some 1) (.cells #[vI x0_0,vI x0_1,.slice A0_2 l0_2.length c0_2] 66) (fun b=>pP b 0) hS fun b1 w1 hx1 hS1=>?_
 refine gb0 [1] [(2,vI 0)]<|gn hK1<|ws fun K2 hK2=>wr [(0,0)]<|gb0 [0] [(3,vI 1)]<|gn hK2<|ws fun K3 hK3=>ws fun K4 hK4=>wr [(0,0),(1,0),(2,0),(3,0)]<|gb [0,1,2,3] [(9,vI 0),(8,vI (l0_2.length:Int)),(7,.slice A0_2 l0_2.length c0_2),(6,pP b1 2)] [ld b1 2 (.slice A0_2 l0_2.length c0_2)] ⟨hS1.c 0,trivial⟩<|gn hK4<|we_block ?_
 have hS2:=hS1.takeN 0
 rcases hq2:iter (ps_deepExpr.r0 l0_2 rec_ps_deepExpr) K (1,0) with _ | (z3 | rr1)
 ·rw [hq2] at h; cases h
 ·rw [hq2] at h
  simp only [] at h
  refine we_iter (A:=ps_deepExpr.A0 w0 l0_2 A0_2 c0_2) (B:=ps_deepExpr.B0 w0) hq2 (fun a hF=>⟨hS2,hF.weaken ea⟩) (fun s o hf a w hA Q hQ=>ps_deepExpr_r0 K w0 Z x0_0 x0_1 l0_2 A0_2 c0_2 hZ hR0_2 hL0_2 rec_ps_deepExpr hr_ps_deepExpr b1 s o hf a w hA Q hQ) ?_
  rintro _ a w5 _ ⟨rfl,hS9,hF⟩
  replace hS9:St w0 w5 []:=hS9
  refine hK3 [(3,vI z3)] w5 ?_ a hF
  refine ws fun K9 hK9=>wr [(0,0),(1,0)]<|gb0 [0,1] [(2,vI z3),(19,vI z3)]<|gn hK9 ?_
  obtain rfl:=si h
  exact we_ret (pr0 [.tmp 2] [vI z3] ⟨rfl,hS9⟩)
 rw [hq2] at h
 simp only [] at h
 refine we_iter (A:=ps_deepExpr.A0 w0 l0_2 A0_2 c0_2) (B:=ps_deepExpr.B0 w0) hq2 (fun a hF=>⟨hS2,hF.weaken ea⟩) (fun s o hf a w hA Q hQ=>ps_deepExpr_r0 K w0 Z x0_0 x0_1 l0_2 A0_2 c0_2 hZ hR0_2 hL0_2 rec_ps_deepExpr hr_ps_deepExpr b1 s o hf a w hA Q hQ) ?_
 rintro _ a w1 _ ⟨rfl,hb⟩
 obtain rfl:=si h
 exact hb
def ps_deepExpr.recs (K : Nat) : Nat → (Int → Int → (List SExpr) → Option Int)
 | 0=>fun _ _ _=>none
 | n+1=>ps_deepExpr.b K (ps_deepExpr.recs K n)
theorem ps_deepExpr_all (K n:Nat):ps_deepExpr.Rec (ps_deepExpr.recs K n):=by
 induction n with
 | zero=>exact (by unfold ps_deepExpr.Rec; intros; rename_i h; cases (show none=some _ from h))
 | succ n ih=>exact ps_deepExpr_step K _ ih
def ps_deepExpr.f (K : Nat) (x0_0 : Int) (x0_1 : Int) (l0_2 : List SExpr) : Option Int := (ps_deepExpr.recs K K) x0_0 x0_1 l0_2
theorem ps_deepExpr_ok (K:Nat) (Z:Zone) (x0_0 x0_1:Int) (l0_2:List SExpr) (A0_2:OA) (c0_2:Nat) (w0:World) (hZ:∀ w,Sub w0 w→Z w) (hR0_2:RdZ Z A0_2 l0_2) (hL0_2:l0_2.length≤c0_2) (r:Int) (h:ps_deepExpr.f K x0_0 x0_1 l0_2=some r):Calls Try.prog 43 #[.agg #[vI x0_0,vI x0_1,.slice A0_2 l0_2.length c0_2]] w0 (ps_deepExpr.Post w0 r):=(ps_deepExpr_all K K) Z x0_0 x0_1 l0_2 A0_2 c0_2 w0 hZ hR0_2 hL0_2 r h

/-! punctual/punctualsame.Deep -/
abbrev ps_Deep.Post (w0:World) (r:Int) (e:Ending) (w:World):Prop:=e=.returned (vI r)∧St w0 w []
abbrev ps_Deep.Rec (rec_ps_Deep:(List SStmt)→Option Int):Prop:=∀ (Z:Zone) (l0:List SStmt) (A0:OA) (c0:Nat) (w0:World) (hZ:∀ w,Sub w0 w→Z w) (hR0:RdZ Z A0 l0) (hL0:l0.length≤c0) (r:Int) (h:rec_ps_Deep l0=some r),Calls Try.prog 27 #[.slice A0 l0.length c0] w0 (ps_Deep.Post w0 r)
def ps_Deep.r0 (K : Nat) (l0 : List SStmt) (rec_ps_Deep : (List SStmt) → Option Int) : Int × Nat → Option ((Int × Nat) ⊕ (Int ⊕ Int))
 | (z1,i1) =>
  if (i1:Int)<(l0.length:Int) then
   match l0[i1]? with
   | none=>none
   | some e1 =>
    match rec_ps_Deep e1.Body with
    | none=>none
    | some r1 =>
     match rec_ps_Deep e1.Else with
     | none=>none
     | some r2 =>
      match ps_deepExpr.f K e1.E.Kind e1.E.N e1.E.A with
      | none=>none
      | some r3 =>
       match ps_deepExpr.f K e1.If.A.Kind e1.If.A.N e1.If.A.A with
       | none=>none
       | some r4 =>
        match ps_deepExpr.f K e1.If.B.Kind e1.If.B.N e1.If.B.A with
        | none=>none
        | some r5 =>
         some (.inl (gmax (gmax (gmax (gmax z1 (IntKind.i64.wrap (1+(gmax r1 r2)))) r3) r4) r5,(i1+1)))
  else
   some (.inr (.inl z1))
def ps_Deep.b (K : Nat) (rec_ps_Deep : (List SStmt) → Option Int) (l0 : List SStmt) : Option Int :=
 match iter (ps_Deep.r0 K l0 rec_ps_Deep) K (0,0) with
 | none=>none
 | some (.inl z3) =>
  some z3
 | some (.inr rr1) =>
  some rr1
abbrev ps_Deep.A0 (w0:World) (l0:List SStmt) (A0:OA) (c0:Nat):(Int×Nat)→Act→World→Prop:=fun (s:Int×Nat) a w=>St w0 w []∧Frm 35 a [(3,vI s.1),(6,.slice A0 l0.length c0),(7,vI (l0.length:Int)),(8,vI (s.2:Int))]
abbrev ps_Deep.B0 (w0:World):(Int ⊕ Int)→Exit→Act→World→Prop:=Exits 0 (fun (s:Int) a w=>St w0 w []∧Frm 35 a [(3,vI s)]) (Rets Try.prog Try.f27 (ps_Deep.Post w0))
theorem ps_Deep_r0 (K:Nat) (w0:World) (Z:Zone) (l0:List SStmt) (A0:OA) (c0:Nat) (hZ:∀ w,Sub w0 w→Z w) (hR0:RdZ Z A0 l0) (hL0:l0.length≤c0) (rec_ps_Deep:(List SStmt)→Option Int) (hr_ps_Deep:ps_Deep.Rec rec_ps_Deep) (s:Int×Nat) (o:(Int×Nat) ⊕ (Int ⊕ Int)) (h:ps_Deep.r0 K l0 rec_ps_Deep s=some o) (a:Act) (w:World) (hA:ps_Deep.A0 w0 l0 A0 c0 s a w) (Q:Exit→Act→World→Prop) (hQ:∀ x a w,Outs (ps_Deep.A0 w0 l0 A0 c0) (ps_Deep.B0 w0) o x a w→Q x a w):(subF Try.f27 [1,1,0,1,0,0]).wp Try.prog Q a w:=by
 obtain ⟨z1,i1⟩:=s
 obtain ⟨hS,hF⟩:=hA
 replace hS:St w0 w []:=hS
 simp only [ps_Deep.r0] at h
 refine (?_:WE Try.prog 35 (subF Try.f27 [1,1,0,1,0,0]) Q [(3,vI z1),(6,.slice A0 l0.length c0),(7,vI (l0.length:Int)),(8,vI (i1:Int))] w) a hF
 clear hF a
 refine ws fun K5 hK5=>wr [(0,0)]<|gb0 [0] [(9,.bool (decide ((i1:Int)<(l0.length:Int))))]<|gn hK5<|ws fun K6 hK6=>?_
 by_cases hc1:(i1:Int)<(l0.length:Int)
 ·rw [if_pos hc1] at h
  refine wk 9 (decide ((i1:Int)<(l0.length:Int))) true (decide_eq_true hc1)<|wt<|we_skip fun a hF=>hK6 _ _ ?_ a hF
  refine ws fun K7 hK7=>we_block<|ws fun K8 hK8=>wr [(0,0),(1,0),(2,1),(3,2)] ?_
  rcases hx1:l0[i1]? with _ | e1
  ·rw [hx1] at h; cases h
  rw [hx1] at h
  simp only [] at h
  obtain ⟨An1,cn1,An2,cn2,An3,cn3,An4,cn4,An5,cn5,hCs1,hLn1,hRn1,hLn2,hRn2,hLn3,hRn3,hLn4,hRn4,hLn5,hRn5⟩:=SStmt.getZ hR0 hx1
  refine gi 10 0 22 70 14 l0.length c0 (.tmp 6) (.tmp 8) A0 .i64 (i1:Int) i1 (hR0.eqSome (hZ _ hS.subw) (pos_of_get hx1)) rfl (lt_of_get hx1) ?_
  refine gb [1] [(11,.agg #[vI e1.Kind,vI e1.N,vI e1.E.Kind,vI e1.E.N,.slice An1 e1.E.A.length cn1,vI e1.If.Kind,vI e1.If.A.Kind,vI e1.If.A.N,.slice An2 e1.If.A.A.length cn2,vI e1.If.B.Kind,vI e1.If.B.N,.slice An3 e1.If.B.A.length cn3,.slice An4 e1.Body.length cn4,.slice An5 e1.Else.length cn5])] [.loaded ⟨blkOf A0,offOf A0+i1*14,none⟩ (vI e1.Kind),.loaded ⟨blkOf A0,offOf A0+i1*14+1,none⟩ (vI e1.N),.loaded ⟨blkOf A0,offOf A0+i1*14+2,none⟩ (vI e1.E.Kind),.loaded ⟨blkOf A0,offOf A0+i1*14+3,none⟩ (vI e1.E.N),.loaded ⟨blkOf A0,offOf A0+i1*14+4,none⟩ (.slice An1 e1.E.A.length cn1),.loaded ⟨blkOf A0,offOf A0+i1*14+5,none⟩ (vI e1.If.Kind),.loaded ⟨blkOf A0,offOf A0+i1*14+6,none⟩ (vI e1.If.A.Kind),.loaded ⟨blkOf A0,offOf A0+i1*14+7,none⟩ (vI e1.If.A.N),.loaded ⟨blkOf A0,offOf A0+i1*14+8,none⟩ (.slice An2 e1.If.A.A.length cn2),.loaded ⟨blkOf A0,offOf A0+i1*14+9,none⟩ (vI e1.If.B.Kind),.loaded ⟨blkOf A0,offOf A0+i1*14+10,none⟩ (vI e1.If.B.N),.loaded ⟨blkOf A0,offOf A0+i1*14+11,none⟩ (.slice An3 e1.If.B.A.length cn3),.loaded ⟨blkOf A0,offOf A0+i1*14+12,none⟩ (.slice An4 e1.Body.length cn4),.loaded ⟨blkOf A0,offOf A0+i1*14+13,none⟩ (.slice An5 e1.Else.length cn5)] ⟨hCs1 _ (hZ _ hS.subw) 0 _ rfl,hCs1 _ (hZ _ hS.subw) 1 _ rfl,hCs1 _ (hZ _ hS.subw) 2 _ rfl,hCs1 _ (hZ _ hS.subw) 3 _ rfl,hCs1 _ (hZ _ hS.subw) 4 _ rfl,hCs1 _ (hZ _ hS.subw) 5 _ rfl,hCs1 _ (hZ _ hS.subw) 6 _ rfl,hCs1 _ (hZ _ hS.subw) 7 _ rfl,hCs1 _ (hZ _ hS.subw) 8 _ rfl,hCs1 _ (hZ _ hS.subw) 9 _ rfl,hCs1 _ (hZ _ hS.subw) 10 _ rfl,hCs1 _ (hZ _ hS.subw) 11 _ rfl,hCs1 _ (hZ _ hS.subw) 12 _ rfl,hCs1 _ (hZ _ hS.subw) 13 _ rfl,trivial⟩<|gw (some 5) (.cells #[vI 0,vI 0,vI 0,vI 0,.slice none 0 0,vI 0,vI 0,vI 0,.slice none 0 0,vI 0,vI 0,.slice none 0 0,.slice none 0 0,.slice none 0 0] 70) (fun b=>pP b 0) hS fun b1 w1 hx2 hS1=>?_
  refine gs b1 0 #[vI 0,vI 0,vI 0,vI 0,.slice none 0 0,vI 0,vI 0,vI 0,.slice none 0 0,vI 0,vI 0,.slice none 0 0,.slice none 0 0,.slice none 0 0] 70 [vI e1.Kind,vI e1.N,vI e1.E.Kind,vI e1.E.N,.slice An1 e1.E.A.length cn1,vI e1.If.Kind,vI e1.If.A.Kind,vI e1.If.A.N,.slice An2 e1.If.A.A.length cn2,vI e1.If.B.Kind,vI e1.If.B.N,.slice An3 e1.If.B.A.length cn3,.slice An4 e1.Body.length cn4,.slice An5 e1.Else.length cn5] hS1 fun w2 hS2=>?_
  have hS3:=hS2.nc #[vI e1.Kind,vI e1.N,vI e1.E.Kind,vI e1.E.N,.slice An1 e1.E.A.length cn1,vI e1.If.Kind,vI e1.If.A.Kind,vI e1.If.A.N,.slice An2 e1.If.A.A.length cn2,vI e1.If.B.Kind,vI e1.If.B.N,.slice An3 e1.If.B.A.length cn3,.slice An4 e1.Body.length cn4,.slice An5 e1.Else.length cn5] (by kernel_rfl)
  refine gn hK8<|we_draws (by kernel_rfl) [(0,0),(1,0),(2,0),(4,0),(5,0),(9,0),(10,0),(12,0),(13,0),(14,0),(16,0),(17,0),(18,0),(3,1),(6,1),(7,0),(8,0),(11,1),(15,1),(19,1),(20,0),(21,0)] (by kernel_rfl) ?_
  have hS4:=hS3.drew
  rcases hq1:rec_ps_Deep e1.Body with _ | r1
  ·rw [hq1] at h; cases h
  rw [hq1] at h
  simp only [] at h
  refine gb [0,1,2,4,5,9,10,12,13,14,16,17,18] [(30,.agg #[vI e1.If.B.Kind,vI e1.If.B.N,.slice An3 e1.If.B.A.length cn3]),(29,pP b1 9),(28,pP b1 5),(26,.agg #[vI e1.If.A.Kind,vI e1.If.A.N,.slice An2 e1.If.A.A.length cn2]),(25,pP b1 6),(24,pP b1 5),(22,.agg #[vI e1.E.Kind,vI e1.E.N,.slice An1 e1.E.A.length cn1]),(21,pP b1 2),(17,.slice An5 e1.Else.length cn5),(16,pP b1 13),(14,.slice An4 e1.Body.length cn4),(13,pP b1 12),(12,vI z1)] [ld b1 12 (.slice An4 e1.Body.length cn4),ld b1 13 (.slice An5 e1.Else.length cn5),ld b1 2 (vI e1.E.Kind),ld b1 3 (vI e1.E.N),ld b1 4 (.slice An1 e1.E.A.length cn1),ld b1 6 (vI e1.If.A.Kind),ld b1 7 (vI e1.If.A.N),ld b1 8 (.slice An2 e1.If.A.A.length cn2),ld b1 9 (vI e1.If.B.Kind),ld b1 10 (vI e1.If.B.N),ld b1 11 (.slice An3 e1.If.B.A.length cn3)] ⟨hS4.c 0,hS4.c 0,hS4.c 0,hS4.c 0,hS4.c 0,hS4.c 0,hS4.c 0,hS4.c 0,hS4.c 0,hS4.c 0,hS4.c 0,trivial⟩<|ge_call (d:=some 15) (f:=27) (args:=#[.slice An4 e1.Body.length cn4]) (by kernel_rfl) (hr_ps_Deep Z e1.Body An4 cn4 _ (fun w' k=>(hZ w' (hS4.subw.trans k))) hRn4 hLn4 _ hq1) ?_
  rintro _ w3 ⟨rfl,hS5⟩
  refine ⟨_,rfl,hS5.below,?_⟩
  have hS6:=hS4.call hS5
  rcases hq2:rec_ps_Deep e1.Else with _ | r2
  ·rw [hq2] at h; cases h
  rw [hq2] at h
  simp only [] at h
  refine ge_call (d:=some 18) (f:=27) (args:=#[.slice An5 e1.Else.length cn5]) (by kernel_rfl) (hr_ps_Deep Z e1.Else An5 cn5 _ (fun w' k=>(hZ w' (hS6.subw.trans k))) hRn5 hLn5 _ hq2) ?_
  rintro _ w4 ⟨rfl,hS7⟩
  refine ⟨_,rfl,hS7.below,?_⟩
  have hS8:=hS6.call hS7
  rcases hq3:ps_deepExpr.f K e1.E.Kind e1.E.N e1.E.A with _ | r3
  ·rw [hq3] at h; cases h
  rw [hq3] at h
  simp only [] at h
  refine gb0 [7,8] [(20,vI (IntKind.i64.wrap (1+(gmax r1 r2)))),(19,vI (gmax r1 r2))]<|ge_call (d:=some 23) (f:=43) (args:=#[.agg #[vI e1.E.Kind,vI e1.E.N,.slice An1 e1.E.A.length cn1]]) (by kernel_rfl) (ps_deepExpr_ok K Z e1.E.Kind e1.E.N e1.E.A An1 cn1 _ (fun w' k=>(hZ w' (hS8.subw.trans k))) hRn1 hLn1 _ hq3) ?_
  rintro _ w5 ⟨rfl,hS9⟩
  refine ⟨_,rfl,hS9.below,?_⟩
  have hS10:=hS8.call hS9
  rcases hq4:ps_deepExpr.f K e1.If.A.Kind e1.If.A.N e1.If.A.A with _ | r4
  ·rw [hq4] at h; cases h
  rw [hq4] at h
  simp only [] at h
  refine ge_call (d:=some 27) (f:=43) (args:=#[.agg #[vI e1.If.A.Kind,vI e1.If.A.N,.slice An2 e1.If.A.A.length cn2]]) (by kernel_rfl) (ps_deepExpr_ok K Z e1.If.A.Kind e1.If.A.N e1.If.A.A An2 cn2 _ (fun w' k=>(hZ w' (hS10.subw.trans k))) hRn2 hLn2 _ hq4) ?_
  rintro _ w6 ⟨rfl,hS11⟩
  refine ⟨_,rfl,hS11.below,?_⟩
  have hS12:=hS10.call hS11
  rcases hq5:ps_deepExpr.f K e1.If.B.Kind e1.If.B.N e1.If.B.A with _ | r5
  ·rw [hq5] at h; cases h
  rw [hq5] at h
  simp only [] at h
  refine ge_call (d:=some 31) (f:=43) (args:=#[.agg #[vI e1.If.B.Kind,vI e1.If.B.N,.slice An3 e1.If.B.A.length cn3]]) (by kernel_rfl) (ps_deepExpr_ok K Z e1.If.B.Kind e1.If.B.N e1.If.B.A An3 cn3 _ (fun w' k=>(hZ w' (hS12.subw.trans k))) hRn3 hLn3 _ hq5) ?_
  rintro _ w7 ⟨rfl,hS13⟩
  refine ⟨_,rfl,hS13.below,?_⟩
  have hS14:=hS12.call hS13
  refine gb0 [20,21] [(3,vI (gmax (gmax (gmax (gmax z1 (IntKind.i64.wrap (1+(gmax r1 r2)))) r3) r4) r5)),(32,vI (gmax (gmax (gmax (gmax z1 (IntKind.i64.wrap (1+(gmax r1 r2)))) r3) r4) r5))]<|gn hK7<|wr [(0,0),(1,0)]<|ge_addn (d:=33) (ty:=3) (x:=(.tmp 8)) (y:=(.const (vI 1))) (t:=3) (t2:=3) (k:=.i64) (m:=i1) (by kernel_rfl) (by kernel_rfl) (by kernel_rfl) (by have h0:=RdZ.small hR0 (hZ _ hS14.subw); omega) ?_
  refine gb0 [1] [(8,vI ((i1+1:Nat):Int))] ?_
  have hS15:=hS14.takeN 0
  obtain rfl:=si h
  exact ge_nil fun a hF=>hQ _ _ _ (Outs.again ⟨hS15,hF.weaken ea⟩)
 rw [if_neg hc1] at h
 refine wk 9 (decide ((i1:Int)<(l0.length:Int))) false (decide_eq_false hc1)<|wf ?_
 obtain rfl:=si h
 exact we_exit fun a hF=>hQ _ _ _ (Outs.out nofun (Exits.here ⟨hS,hF.weaken ea⟩))
theorem ps_Deep_step (K:Nat) (rec_ps_Deep:(List SStmt)→Option Int) (hr_ps_Deep:ps_Deep.Rec rec_ps_Deep) (Z:Zone) (l0:List SStmt) (A0:OA) (c0:Nat) (w0:World) (hZ:∀ w,Sub w0 w→Z w) (hR0:RdZ Z A0 l0) (hL0:l0.length≤c0) (r:Int) (h:ps_Deep.b K rec_ps_Deep l0=some r) :
  Calls Try.prog 27 #[.slice A0 l0.length c0] w0 (ps_Deep.Post w0 r):=by
 have hS:=St.start w0
 unfold ps_Deep.b at h
 refine calls_enter (n:=35) (args:=[.slice A0 l0.length c0]) (fn:=Try.f27) rfl rfl rfl rfl ?_
 show WE _ _ _ _ [(0,.slice A0 l0.length c0)] _
 refine ws fun K1 hK1=>wr [(0,0)]<|gb0 [0] [(2,vI 0)]<|gn hK1<|ws fun K2 hK2=>wr [(0,0)]<|gb0 [0] [(3,vI 0)]<|gn hK2<|ws fun K3 hK3=>ws fun K4 hK4=>wr [(0,0),(1,0),(2,0)]<|gb0 [0,1,2] [(8,vI 0),(7,vI (l0.length:Int)),(6,.slice A0 l0.length c0)]<|gn hK4<|we_block ?_
 rcases hq6:iter (ps_Deep.r0 K l0 rec_ps_Deep) K (0,0) with _ | (z3 | rr1)
 ·rw [hq6] at h; cases h
 ·rw [hq6] at h
  simp only [] at h
  refine we_iter (A:=ps_Deep.A0 w0 l0 A0 c0) (B:=ps_Deep.B0 w0) hq6 (fun a hF=>⟨hS,hF.weaken ea⟩) (fun s o hf a w hA Q hQ=>ps_Deep_r0 K w0 Z l0 A0 c0 hZ hR0 hL0 rec_ps_Deep hr_ps_Deep s o hf a w hA Q hQ) ?_
  rintro _ a w8 _ ⟨rfl,hS16,hF⟩
  replace hS16:St w0 w8 []:=hS16
  refine hK3 [(3,vI z3)] w8 ?_ a hF
  refine ws fun K9 hK9=>wr [(0,0),(1,0)]<|gb0 [0,1] [(2,vI z3),(34,vI z3)]<|gn hK9 ?_
  obtain rfl:=si h
  exact we_ret (pr0 [.tmp 2] [vI z3] ⟨rfl,hS16⟩)
 rw [hq6] at h
 simp only [] at h
 refine we_iter (A:=ps_Deep.A0 w0 l0 A0 c0) (B:=ps_Deep.B0 w0) hq6 (fun a hF=>⟨hS,hF.weaken ea⟩) (fun s o hf a w hA Q hQ=>ps_Deep_r0 K w0 Z l0 A0 c0 hZ hR0 hL0 rec_ps_Deep hr_ps_Deep s o hf a w hA Q hQ) ?_
 rintro _ a w1 _ ⟨rfl,hb⟩
 obtain rfl:=si h
 exact hb
def ps_Deep.recs (K : Nat) : Nat → ((List SStmt) → Option Int)
 | 0=>fun _=>none
 | n+1=>ps_Deep.b K (ps_Deep.recs K n)
theorem ps_Deep_all (K n:Nat):ps_Deep.Rec (ps_Deep.recs K n):=by
 induction n with
 | zero=>exact (by unfold ps_Deep.Rec; intros; rename_i h; cases (show none=some _ from h))
 | succ n ih=>exact ps_Deep_step K _ ih
def ps_Deep.f (K : Nat) (l0 : List SStmt) : Option Int := (ps_Deep.recs K K) l0
theorem ps_Deep_ok (K:Nat) (Z:Zone) (l0:List SStmt) (A0:OA) (c0:Nat) (w0:World) (hZ:∀ w,Sub w0 w→Z w) (hR0:RdZ Z A0 l0) (hL0:l0.length≤c0) (r:Int) (h:ps_Deep.f K l0=some r):Calls Try.prog 27 #[.slice A0 l0.length c0] w0 (ps_Deep.Post w0 r):=(ps_Deep_all K K) Z l0 A0 c0 w0 hZ hR0 hL0 r h

/-! punctual/punctualref.Size -/
abbrev pr_Size.Post (w0:World) (r:Int) (e:Ending) (w:World):Prop:=e=.returned (vI r)∧St w0 w []
abbrev pr_Size.Rec (rec_pr_Size:(List SStmt)→Option Int):Prop:=∀ (Z:Zone) (l0:List SStmt) (A0:OA) (c0:Nat) (w0:World) (hZ:∀ w,Sub w0 w→Z w) (hR0:RdZ Z A0 l0) (hL0:l0.length≤c0) (r:Int) (h:rec_pr_Size l0=some r),Calls Try.prog 17 #[.slice A0 l0.length c0] w0 (pr_Size.Post w0 r)
def pr_Size.r0 (l0 : List SStmt) (rec_pr_Size : (List SStmt) → Option Int) : Int × Nat → Option ((Int × Nat) ⊕ (Int ⊕ Int))
 | (z1,i1) =>
  if (i1:Int)<(l0.length:Int) then
   match l0[i1]? with
   | none=>none
   | some e1 =>
    match rec_pr_Size e1.Body with
    | none=>none
    | some r1 =>
     match rec_pr_Size e1.Else with
     | none=>none
     | some r2 =>
      some (.inl (IntKind.i64.wrap ((IntKind.i64.wrap ((IntKind.i64.wrap (z1+1))+r1))+r2),(i1+1)))
  else
   some (.inr (.inl z1))
def pr_Size.b (K : Nat) (rec_pr_Size : (List SStmt) → Option Int) (l0 : List SStmt) : Option Int :=
 match iter (pr_Size.r0 l0 rec_pr_Size) K (0,0) with
 | none=>none
 | some (.inl z3) =>
  some z3
 | some (.inr rr1) =>
  some rr1
abbrev pr_Size.A0 (w0:World) (l0:List SStmt) (A0:OA) (c0:Nat):(Int×Nat)→Act→World→Prop:=fun (s:Int×Nat) a w=>St w0 w []∧Frm 24 a [(3,vI s.1),(6,.slice A0 l0.length c0),(7,vI (l0.length:Int)),(8,vI (s.2:Int))]
abbrev pr_Size.B0 (w0:World):(Int ⊕ Int)→Exit→Act→World→Prop:=Exits 0 (fun (s:Int) a w=>St w0 w []∧Frm 24 a [(3,vI s)]) (Rets Try.prog Try.f17 (pr_Size.Post w0))
theorem pr_Size_r0 (K:Nat) (w0:World) (Z:Zone) (l0:List SStmt) (A0:OA) (c0:Nat) (hZ:∀ w,Sub w0 w→Z w) (hR0:RdZ Z A0 l0) (hL0:l0.length≤c0) (rec_pr_Size:(List SStmt)→Option Int) (hr_pr_Size:pr_Size.Rec rec_pr_Size) (s:Int×Nat) (o:(Int×Nat) ⊕ (Int ⊕ Int)) (h:pr_Size.r0 l0 rec_pr_Size s=some o) (a:Act) (w:World) (hA:pr_Size.A0 w0 l0 A0 c0 s a w) (Q:Exit→Act→World→Prop) (hQ:∀ x a w,Outs (pr_Size.A0 w0 l0 A0 c0) (pr_Size.B0 w0) o x a w→Q x a w):(subF Try.f17 [1,1,0,1,0,0]).wp Try.prog Q a w:=by
 obtain ⟨z1,i1⟩:=s
 obtain ⟨hS,hF⟩:=hA
 replace hS:St w0 w []:=hS
 simp only [pr_Size.r0] at h
 refine (?_:WE Try.prog 24 (subF Try.f17 [1,1,0,1,0,0]) Q [(3,vI z1),(6,.slice A0 l0.length c0),(7,vI (l0.length:Int)),(8,vI (i1:Int))] w) a hF
 clear hF a
 refine ws fun K5 hK5=>wr [(0,0)]<|gb0 [0] [(9,.bool (decide ((i1:Int)<(l0.length:Int))))]<|gn hK5<|ws fun K6 hK6=>?_
 by_cases hc1:(i1:Int)<(l0.length:Int)
 ·rw [if_pos hc1] at h
  refine wk 9 (decide ((i1:Int)<(l0.length:Int))) true (decide_eq_true hc1)<|wt<|we_skip fun a hF=>hK6 _ _ ?_ a hF
  refine ws fun K7 hK7=>we_block<|ws fun K8 hK8=>wr [(0,0),(1,0),(2,1),(3,2)] ?_
  rcases hx1:l0[i1]? with _ | e1
  ·rw [hx1] at h; cases h
  rw [hx1] at h
  simp only [] at h
  obtain ⟨An1,cn1,An2,cn2,An3,cn3,An4,cn4,An5,cn5,hCs1,hLn1,hRn1,hLn2,hRn2,hLn3,hRn3,hLn4,hRn4,hLn5,hRn5⟩:=SStmt.getZ hR0 hx1
  refine gi 10 0 22 70 14 l0.length c0 (.tmp 6) (.tmp 8) A0 .i64 (i1:Int) i1 (hR0.eqSome (hZ _ hS.subw) (pos_of_get hx1)) rfl (lt_of_get hx1) ?_
  refine gb [1] [(11,.agg #[vI e1.Kind,vI e1.N,vI e1.E.Kind,vI e1.E.N,.slice An1 e1.E.A.length cn1,vI e1.If.Kind,vI e1.If.A.Kind,vI e1.If.A.N,.slice An2 e1.If.A.A.length cn2,vI e1.If.B.Kind,vI e1.If.B.N,.slice An3 e1.If.B.A.length cn3,.slice An4 e1.Body.length cn4,.slice An5 e1.Else.length cn5])] [.loaded ⟨blkOf A0,offOf A0+i1*14,none⟩ (vI e1.Kind),.loaded ⟨blkOf A0,offOf A0+i1*14+1,none⟩ (vI e1.N),.loaded ⟨blkOf A0,offOf A0+i1*14+2,none⟩ (vI e1.E.Kind),.loaded ⟨blkOf A0,offOf A0+i1*14+3,none⟩ (vI e1.E.N),.loaded ⟨blkOf A0,offOf A0+i1*14+4,none⟩ (.slice An1 e1.E.A.length cn1),.loaded ⟨blkOf A0,offOf A0+i1*14+5,none⟩ (vI e1.If.Kind),.loaded ⟨blkOf A0,offOf A0+i1*14+6,none⟩ (vI e1.If.A.Kind),.loaded ⟨blkOf A0,offOf A0+i1*14+7,none⟩ (vI e1.If.A.N),.loaded ⟨blkOf A0,offOf A0+i1*14+8,none⟩ (.slice An2 e1.If.A.A.length cn2),.loaded ⟨blkOf A0,offOf A0+i1*14+9,none⟩ (vI e1.If.B.Kind),.loaded ⟨blkOf A0,offOf A0+i1*14+10,none⟩ (vI e1.If.B.N),.loaded ⟨blkOf A0,offOf A0+i1*14+11,none⟩ (.slice An3 e1.If.B.A.length cn3),.loaded ⟨blkOf A0,offOf A0+i1*14+12,none⟩ (.slice An4 e1.Body.length cn4),.loaded ⟨blkOf A0,offOf A0+i1*14+13,none⟩ (.slice An5 e1.Else.length cn5)] ⟨hCs1 _ (hZ _ hS.subw) 0 _ rfl,hCs1 _ (hZ _ hS.subw) 1 _ rfl,hCs1 _ (hZ _ hS.subw) 2 _ rfl,hCs1 _ (hZ _ hS.subw) 3 _ rfl,hCs1 _ (hZ _ hS.subw) 4 _ rfl,hCs1 _ (hZ _ hS.subw) 5 _ rfl,hCs1 _ (hZ _ hS.subw) 6 _ rfl,hCs1 _ (hZ _ hS.subw) 7 _ rfl,hCs1 _ (hZ _ hS.subw) 8 _ rfl,hCs1 _ (hZ _ hS.subw) 9 _ rfl,hCs1 _ (hZ _ hS.subw) 10 _ rfl,hCs1 _ (hZ _ hS.subw) 11 _ rfl,hCs1 _ (hZ _ hS.subw) 12 _ rfl,hCs1 _ (hZ _ hS.subw) 13 _ rfl,trivial⟩<|gw (some 5) (.cells #[vI 0,vI 0,vI 0,vI 0,.slice none 0 0,vI 0,vI 0,vI 0,.slice none 0 0,vI 0,vI 0,.slice none 0 0,.slice none 0 0,.slice none 0 0] 70) (fun b=>pP b 0) hS fun b1 w1 hx2 hS1=>?_
  refine gs b1 0 #[vI 0,vI 0,vI 0,vI 0,.slice none 0 0,vI 0,vI 0,vI 0,.slice none 0 0,vI 0,vI 0,.slice none 0 0,.slice none 0 0,.slice none 0 0] 70 [vI e1.Kind,vI e1.N,vI e1.E.Kind,vI e1.E.N,.slice An1 e1.E.A.length cn1,vI e1.If.Kind,vI e1.If.A.Kind,vI e1.If.A.N,.slice An2 e1.If.A.A.length cn2,vI e1.If.B.Kind,vI e1.If.B.N,.slice An3 e1.If.B.A.length cn3,.slice An4 e1.Body.length cn4,.slice An5 e1.Else.length cn5] hS1 fun w2 hS2=>?_
  have hS3:=hS2.nc #[vI e1.Kind,vI e1.N,vI e1.E.Kind,vI e1.E.N,.slice An1 e1.E.A.length cn1,vI e1.If.Kind,vI e1.If.A.Kind,vI e1.If.A.N,.slice An2 e1.If.A.A.length cn2,vI e1.If.B.Kind,vI e1.If.B.N,.slice An3 e1.If.B.A.length cn3,.slice An4 e1.Body.length cn4,.slice An5 e1.Else.length cn5] (by kernel_rfl)
  refine gn hK8<|we_draws (by kernel_rfl) [(0,0),(1,0),(2,0),(3,0),(6,0),(7,0),(4,1),(5,0),(8,1),(9,0),(10,0)] (by kernel_rfl) ?_
  have hS4:=hS3.drew
  rcases hq1:rec_pr_Size e1.Body with _ | r1
  ·rw [hq1] at h; cases h
  rw [hq1] at h
  simp only [] at h
  refine gb [0,1,2,3,6,7] [(19,.slice An5 e1.Else.length cn5),(18,pP b1 13),(15,.slice An4 e1.Body.length cn4),(14,pP b1 12),(13,vI (IntKind.i64.wrap (z1+1))),(12,vI z1)] [ld b1 12 (.slice An4 e1.Body.length cn4),ld b1 13 (.slice An5 e1.Else.length cn5)] ⟨hS4.c 0,hS4.c 0,trivial⟩<|ge_call (d:=some 16) (f:=17) (args:=#[.slice An4 e1.Body.length cn4]) (by kernel_rfl) (hr_pr_Size Z e1.Body An4 cn4 _ (fun w' k=>(hZ w' (hS4.subw.trans k))) hRn4 hLn4 _ hq1) ?_
  rintro _ w3 ⟨rfl,hS5⟩
  refine ⟨_,rfl,hS5.below,?_⟩
  have hS6:=hS4.call hS5
  rcases hq2:rec_pr_Size e1.Else with _ | r2
  ·rw [hq2] at h; cases h
  rw [hq2] at h
  simp only [] at h
  refine gb0 [5] [(17,vI (IntKind.i64.wrap ((IntKind.i64.wrap (z1+1))+r1)))]<|ge_call (d:=some 20) (f:=17) (args:=#[.slice An5 e1.Else.length cn5]) (by kernel_rfl) (hr_pr_Size Z e1.Else An5 cn5 _ (fun w' k=>(hZ w' (hS6.subw.trans k))) hRn5 hLn5 _ hq2) ?_
  rintro _ w4 ⟨rfl,hS7⟩
  refine ⟨_,rfl,hS7.below,?_⟩
  have hS8:=hS6.call hS7
  refine gb0 [9,10] [(3,vI (IntKind.i64.wrap ((IntKind.i64.wrap ((IntKind.i64.wrap (z1+1))+r1))+r2))),(21,vI (IntKind.i64.wrap ((IntKind.i64.wrap ((IntKind.i64.wrap (z1+1))+r1))+r2)))]<|gn hK7<|wr [(0,0),(1,0)]<|ge_addn (d:=22) (ty:=3) (x:=(.tmp 8)) (y:=(.const (vI 1))) (t:=3) (t2:=3) (k:=.i64) (m:=i1) (by kernel_rfl) (by kernel_rfl) (by kernel_rfl) (by have h0:=RdZ.small hR0 (hZ _ hS8.subw); omega) ?_
  refine gb0 [1] [(8,vI ((i1+1:Nat):Int))] ?_
  have hS9:=hS8.takeN 0
  obtain rfl:=si h
  exact ge_nil fun a hF=>hQ _ _ _ (Outs.again ⟨hS9,hF.weaken ea⟩)
 rw [if_neg hc1] at h
 refine wk 9 (decide ((i1:Int)<(l0.length:Int))) false (decide_eq_false hc1)<|wf ?_
 obtain rfl:=si h
 exact we_exit fun a hF=>hQ _ _ _ (Outs.out nofun (Exits.here ⟨hS,hF.weaken ea⟩))
theorem pr_Size_step (K:Nat) (rec_pr_Size:(List SStmt)→Option Int) (hr_pr_Size:pr_Size.Rec rec_pr_Size) (Z:Zone) (l0:List SStmt) (A0:OA) (c0:Nat) (w0:World) (hZ:∀ w,Sub w0 w→Z w) (hR0:RdZ Z A0 l0) (hL0:l0.length≤c0) (r:Int) (h:pr_Size.b K rec_pr_Size l0=some r) :
  Calls Try.prog 17 #[.slice A0 l0.length c0] w0 (pr_Size.Post w0 r):=by
 have hS:=St.start w0
 unfold pr_Size.b at h
 refine calls_enter (n:=24) (args:=[.slice A0 l0.length c0]) (fn:=Try.f17) rfl rfl rfl rfl ?_
 show WE _ _ _ _ [(0,.slice A0 l0.length c0)] _
 refine ws fun K1 hK1=>wr [(0,0)]<|gb0 [0] [(2,vI 0)]<|gn hK1<|ws fun K2 hK2=>wr [(0,0)]<|gb0 [0] [(3,vI 0)]<|gn hK2<|ws fun K3 hK3=>ws fun K4 hK4=>wr [(0,0),(1,0),(2,0)]<|gb0 [0,1,2] [(8,vI 0),(7,vI (l0.length:Int)),(6,.slice A0 l0.length c0)]<|gn hK4<|we_block ?_
 rcases hq3:iter (pr_Size.r0 l0 rec_pr_Size) K (0,0) with _ | (z3 | rr1)
 ·rw [hq3] at h; cases h
 ·rw [hq3] at h
  simp only [] at h
  refine we_iter (A:=pr_Size.A0 w0 l0 A0 c0) (B:=pr_Size.B0 w0) hq3 (fun a hF=>⟨hS,hF.weaken ea⟩) (fun s o hf a w hA Q hQ=>pr_Size_r0 K w0 Z l0 A0 c0 hZ hR0 hL0 rec_pr_Size hr_pr_Size s o hf a w hA Q hQ) ?_
  rintro _ a w5 _ ⟨rfl,hS10,hF⟩
  replace hS10:St w0 w5 []:=hS10
  refine hK3 [(3,vI z3)] w5 ?_ a hF
  refine ws fun K9 hK9=>wr [(0,0),(1,0)]<|gb0 [0,1] [(2,vI z3),(23,vI z3)]<|gn hK9 ?_
  obtain rfl:=si h
  exact we_ret (pr0 [.tmp 2] [vI z3] ⟨rfl,hS10⟩)
 rw [hq3] at h
 simp only [] at h
 refine we_iter (A:=pr_Size.A0 w0 l0 A0 c0) (B:=pr_Size.B0 w0) hq3 (fun a hF=>⟨hS,hF.weaken ea⟩) (fun s o hf a w hA Q hQ=>pr_Size_r0 K w0 Z l0 A0 c0 hZ hR0 hL0 rec_pr_Size hr_pr_Size s o hf a w hA Q hQ) ?_
 rintro _ a w1 _ ⟨rfl,hb⟩
 obtain rfl:=si h
 exact hb
def pr_Size.recs (K : Nat) : Nat → ((List SStmt) → Option Int)
 | 0=>fun _=>none
 | n+1=>pr_Size.b K (pr_Size.recs K n)
theorem pr_Size_all (K n:Nat):pr_Size.Rec (pr_Size.recs K n):=by
 induction n with
 | zero=>exact (by unfold pr_Size.Rec; intros; rename_i h; cases (show none=some _ from h))
 | succ n ih=>exact pr_Size_step K _ ih
def pr_Size.f (K : Nat) (l0 : List SStmt) : Option Int := (pr_Size.recs K K) l0
theorem pr_Size_ok (K:Nat) (Z:Zone) (l0:List SStmt) (A0:OA) (c0:Nat) (w0:World) (hZ:∀ w,Sub w0 w→Z w) (hR0:RdZ Z A0 l0) (hL0:l0.length≤c0) (r:Int) (h:pr_Size.f K l0=some r):Calls Try.prog 17 #[.slice A0 l0.length c0] w0 (pr_Size.Post w0 r):=(pr_Size_all K K) Z l0 A0 c0 w0 hZ hR0 hL0 r h
end Go.Proofs.Ytcjphfmmmlgcbaa.GV
