/- Walks of single functions, written by a program of this work. -/
import Derived.Test.YtgpolejhaglddaaDoorGWMachRuns4
namespace Go.Proofs.YtgpolejhaglddaaDoor.GV
open Go Go.RowKit
set_option linter.unusedVariables false
set_option linter.unusedSimpArgs false
set_option maxRecDepth 100000

/-! punctual/punctualref.Ticks -/
abbrev punctualref_Ticks.Post (w0:World) (r:Int) (e:Ending) (w:World):Prop:=e=.returned (vI r)∧St w0 w []
def punctualref_Ticks.f (x0 : SIns) (x1 : Bool) : Int :=
 if x0.Op=6 then
  3
 else
  if x0.Op=9 then
   2
  else
   if x0.Op=10 then
    2
   else
    if x0.Op=11 then
     2
    else
     if x1=true then
      if x0.Op=12 then
       2
      else
       if x0.Op=14 then
        2
       else
        if x0.Op=18 then
         x0.A
        else
         1
     else
      if x0.Op=18 then
       x0.A
      else
       1
theorem punctualref_Ticks_ok (x0:SIns) (x1:Bool) (w0:World) (r:Int) (h:punctualref_Ticks.f x0 x1=r) :
  Calls Tryd.prog 29 #[.agg #[vI x0.Op,vI x0.A,vI x0.B],.bool x1] w0 (punctualref_Ticks.Post w0 r):=by
 have hS:=St.start w0
 unfold punctualref_Ticks.f at h
 refine calls_enter (n:=42) (args:=[.agg #[vI x0.Op,vI x0.A,vI x0.B],.bool x1]) (fn:=Tryd.f29) rfl rfl rfl rfl ?_
 show WE _ _ _ _ [(0,.agg #[vI x0.Op,vI x0.A,vI x0.B]),(1,.bool x1)] _
 refine ws fun K1 hK1=>wr [(0,1),(1,0)]<|gw (some 2) (.cells #[vI x0.Op,vI x0.A,vI x0.B] 35) (fun b=>pP b 0) hS fun b1 w1 hx1 hS1=>?_
 refine gb0 [1] [(4,vI 0)] ?_
 refine gn hK1<|ws fun K2 hK2=>we_block<|ws fun K3 hK3=>wr [(0,0),(1,0),(2,0),(3,0)]<|gb [0,1,2,3] [(5,.bool (x0.Op==6)),(8,.bool (x0.Op==6)),(7,vI x0.Op),(6,pP b1 0)] [.loaded ⟨b1,0,none⟩ (vI x0.Op)] ⟨hS1.c 0,trivial⟩ ?_
 refine gn hK3 ?_
 by_cases hc1:x0.Op=6
 ·rw [if_pos hc1] at h
  refine wk 5 (x0.Op==6) true (beq_iff_eq.2 hc1) ?_
  refine we_true (by kernel_rfl) ?_
  refine ws fun K4 hK4=>wr [(0,0)]<|gb0 [0] [(4,vI 3)] ?_
  refine gn hK4 ?_
  have hS2:=hS1.takeN 0
  subst h
  exact we_ret (pr0 [.tmp 4] [vI 3] ⟨rfl,hS2⟩)
 rw [if_neg hc1] at h
 refine wk 5 (x0.Op==6) false (beq_eq_false_iff_ne.2 hc1) ?_
 refine we_false (by kernel_rfl) ?_
 refine ws fun K5 hK5=>wr [(0,0),(1,0),(2,0),(3,0),(4,0),(5,0),(6,0),(7,0),(8,0),(9,0),(10,0),(11,0),(12,0),(13,0),(14,0),(15,0),(16,0),(17,0),(18,0),(19,0),(20,0),(21,0),(22,0),(23,0),(24,0),(25,0),(26,0)]<|gb [0,1,2,3] [(13,.bool (x0.Op==9)),(12,.bool (x0.Op==9)),(11,vI x0.Op),(10,pP b1 0)] [.loaded ⟨b1,0,none⟩ (vI x0.Op)] ⟨hS1.c 0,trivial⟩ ?_
 by_cases hc2:x0.Op=9
 ·rw [if_pos hc2] at h
  refine gk 13 (x0.Op==9) true (beq_iff_eq.2 hc2) ?_
  refine gb0 [4,5,6,7,8,9,10,11,12,13,14,15,16,17,18,19,20,21,22,23,24,25,26] [(9,.bool true),(35,.bool true),(34,undef),(33,undef),(32,undef),(31,undef),(30,undef),(29,undef),(28,undef),(27,undef),(26,undef),(25,undef),(24,undef),(23,.bool true),(22,.bool true),(21,undef),(20,undef),(19,undef),(18,.bool true),(17,.bool true),(16,undef),(15,undef),(14,undef)] ?_
  refine gn hK5<|we_true (by kernel_rfl) ?_
  refine ws fun K6 hK6=>wr [(0,0)]<|gb0 [0] [(4,vI 2)] ?_
  refine gn hK6 ?_
  have hS3:=hS1.takeN 0
  subst h
  exact we_ret (pr0 [.tmp 4] [vI 2] ⟨rfl,hS3⟩)
 rw [if_neg hc2] at h
 refine gk 13 (x0.Op==9) false (beq_eq_false_iff_ne.2 hc2) ?_
 refine gb [4,5,6,7,8] [(18,.bool (x0.Op==10)),(17,.bool (x0.Op==10)),(16,.bool (x0.Op==10)),(15,vI x0.Op),(14,pP b1 0)] [.loaded ⟨b1,0,none⟩ (vI x0.Op)] ⟨hS1.c 0,trivial⟩ ?_
 by_cases hc3:x0.Op=10
 ·rw [if_pos hc3] at h
  refine gk 18 (x0.Op==10) true (beq_iff_eq.2 hc3) ?_
  refine gb0 [9,10,11,12,13,14,15,16,17,18,19,20,21,22,23,24,25,26] [(9,.bool true),(35,.bool true),(34,undef),(33,undef),(32,undef),(31,undef),(30,undef),(29,undef),(28,undef),(27,undef),(26,undef),(25,undef),(24,undef),(23,.bool true),(22,.bool true),(21,undef),(20,undef),(19,undef)] ?_
  refine gn hK5<|we_true (by kernel_rfl) ?_
  refine ws fun K7 hK7=>wr [(0,0)]<|gb0 [0] [(4,vI 2)] ?_
  refine gn hK7 ?_
  have hS4:=hS1.takeN 0
  subst h
  exact we_ret (pr0 [.tmp 4] [vI 2] ⟨rfl,hS4⟩)
 rw [if_neg hc3] at h
 refine gk 18 (x0.Op==10) false (beq_eq_false_iff_ne.2 hc3) ?_
 refine gb [9,10,11,12,13] [(23,.bool (x0.Op==11)),(22,.bool (x0.Op==11)),(21,.bool (x0.Op==11)),(20,vI x0.Op),(19,pP b1 0)] [.loaded ⟨b1,0,none⟩ (vI x0.Op)] ⟨hS1.c 0,trivial⟩ ?_
 by_cases hc4:x0.Op=11
 ·rw [if_pos hc4] at h
  refine gk 23 (x0.Op==11) true (beq_iff_eq.2 hc4) ?_
  refine gb0 [14,15,16,17,18,19,20,21,22,23,24,25,26] [(9,.bool true),(35,.bool true),(34,undef),(33,undef),(32,undef),(31,undef),(30,undef),(29,undef),(28,undef),(27,undef),(26,undef),(25,undef),(24,undef)] ?_
  refine gn hK5<|we_true (by kernel_rfl) ?_
  refine ws fun K8 hK8=>wr [(0,0)]<|gb0 [0] [(4,vI 2)] ?_
  refine gn hK8 ?_
  have hS5:=hS1.takeN 0
  subst h
  exact we_ret (pr0 [.tmp 4] [vI 2] ⟨rfl,hS5⟩)
 rw [if_neg hc4] at h
 refine gk 23 (x0.Op==11) false (beq_eq_false_iff_ne.2 hc4) ?_
 refine gb0 [14,15] [(25,.bool x1),(24,.bool x1)] ?_
 by_cases hc5:x1=true
 ·rw [if_pos hc5] at h
  refine gk 25 x1 true hc5 ?_
  refine gb [16,17,18,19] [(29,.bool (x0.Op==12)),(28,.bool (x0.Op==12)),(27,vI x0.Op),(26,pP b1 0)] [.loaded ⟨b1,0,none⟩ (vI x0.Op)] ⟨hS1.c 0,trivial⟩ ?_
  by_cases hc6:x0.Op=12
  ·rw [if_pos hc6] at h
   refine gk 29 (x0.Op==12) true (beq_iff_eq.2 hc6) ?_
   refine gb0 [20,21,22,23,24,25,26] [(9,.bool true),(35,.bool true),(34,.bool true),(33,.bool true),(32,undef),(31,undef),(30,undef)] ?_
   refine gn hK5<|we_true (by kernel_rfl) ?_
   refine ws fun K9 hK9=>wr [(0,0)]<|gb0 [0] [(4,vI 2)] ?_
   refine gn hK9 ?_
   have hS6:=hS1.takeN 0
   subst h
   exact we_ret (pr0 [.tmp 4] [vI 2] ⟨rfl,hS6⟩)
  rw [if_neg hc6] at h
  refine gk 29 (x0.Op==12) false (beq_eq_false_iff_ne.2 hc6) ?_
  refine gb [20,21,22,23,24,25,26] [(9,.bool (x0.Op==14)),(35,.bool (x0.Op==14)),(34,.bool (x0.Op==14)),(33,.bool (x0.Op==14)),(32,.bool (x0.Op==14)),(31,vI x0.Op),(30,pP b1 0)] [.loaded ⟨b1,0,none⟩ (vI x0.Op)] ⟨hS1.c 0,trivial⟩ ?_
  refine gn hK5 ?_
  by_cases hc7:x0.Op=14
  ·rw [if_pos hc7] at h
   refine wk 9 (x0.Op==14) true (beq_iff_eq.2 hc7) ?_
   refine we_true (by kernel_rfl) ?_
   refine ws fun K10 hK10=>wr [(0,0)]<|gb0 [0] [(4,vI 2)] ?_
   refine gn hK10 ?_
   have hS7:=hS1.takeN 0
   subst h
   exact we_ret (pr0 [.tmp 4] [vI 2] ⟨rfl,hS7⟩)
  rw [if_neg hc7] at h
  refine wk 9 (x0.Op==14) false (beq_eq_false_iff_ne.2 hc7) ?_
  refine we_false (by kernel_rfl) ?_
  refine ws fun K11 hK11=>wr [(0,0),(1,0),(2,0),(3,0)]<|gb [0,1,2,3] [(36,.bool (x0.Op==18)),(39,.bool (x0.Op==18)),(38,vI x0.Op),(37,pP b1 0)] [.loaded ⟨b1,0,none⟩ (vI x0.Op)] ⟨hS1.c 0,trivial⟩ ?_
  refine gn hK11 ?_
  by_cases hc8:x0.Op=18
  ·rw [if_pos hc8] at h
   refine wk 36 (x0.Op==18) true (beq_iff_eq.2 hc8) ?_
   refine we_true (by kernel_rfl) ?_
   refine ws fun K12 hK12=>wr [(0,0),(1,0),(2,0)]<|gb [0,1,2] [(4,vI x0.A),(41,vI x0.A),(40,pP b1 1)] [.loaded ⟨b1,1,none⟩ (vI x0.A)] ⟨hS1.c 0,trivial⟩ ?_
   refine gn hK12 ?_
   have hS8:=hS1.takeN 0
   subst h
   exact we_ret (pr0 [.tmp 4] [vI x0.A] ⟨rfl,hS8⟩)
  rw [if_neg hc8] at h
  refine wk 36 (x0.Op==18) false (beq_eq_false_iff_ne.2 hc8) ?_
  refine we_false (by kernel_rfl) ?_
  refine we_skip fun a hF=>hK2 _ _ ?_ a hF
  refine ws fun K13 hK13=>wr [(0,0)]<|gb0 [0] [(4,vI 1)] ?_
  refine gn hK13 ?_
  have hS9:=hS1.takeN 0
  subst h
  exact we_ret (pr0 [.tmp 4] [vI 1] ⟨rfl,hS9⟩)
 rw [if_neg hc5] at h
 refine gk 25 x1 false (Bool.eq_false_iff.2 hc5) ?_
 refine gb0 [16,17,18,19,20,21,22,23,24,25,26] [(9,.bool false),(35,.bool false),(34,.bool false),(33,undef),(32,undef),(31,undef),(30,undef),(29,undef),(28,undef),(27,undef),(26,undef)] ?_
 refine gn hK5<|we_false (by kernel_rfl) ?_
 refine ws fun K14 hK14=>wr [(0,0),(1,0),(2,0),(3,0)]<|gb [0,1,2,3] [(36,.bool (x0.Op==18)),(39,.bool (x0.Op==18)),(38,vI x0.Op),(37,pP b1 0)] [.loaded ⟨b1,0,none⟩ (vI x0.Op)] ⟨hS1.c 0,trivial⟩ ?_
 refine gn hK14 ?_
 by_cases hc9:x0.Op=18
 ·rw [if_pos hc9] at h
  refine wk 36 (x0.Op==18) true (beq_iff_eq.2 hc9) ?_
  refine we_true (by kernel_rfl) ?_
  refine ws fun K15 hK15=>wr [(0,0),(1,0),(2,0)]<|gb [0,1,2] [(4,vI x0.A),(41,vI x0.A),(40,pP b1 1)] [.loaded ⟨b1,1,none⟩ (vI x0.A)] ⟨hS1.c 0,trivial⟩ ?_
  refine gn hK15 ?_
  have hS10:=hS1.takeN 0
  subst h
  exact we_ret (pr0 [.tmp 4] [vI x0.A] ⟨rfl,hS10⟩)
 rw [if_neg hc9] at h
 refine wk 36 (x0.Op==18) false (beq_eq_false_iff_ne.2 hc9) ?_
 refine we_false (by kernel_rfl) ?_
 refine we_skip fun a hF=>hK2 _ _ ?_ a hF
 refine ws fun K16 hK16=>wr [(0,0)]<|gb0 [0] [(4,vI 1)] ?_
 refine gn hK16 ?_
 have hS11:=hS1.takeN 0
 subst h
 exact we_ret (pr0 [.tmp 4] [vI 1] ⟨rfl,hS11⟩)

structure SStep where
 At:Int
 Ticks:Int
def SStep.eqb (x y : SStep) : Bool := ((x.At == y.At) && ((x.Ticks == y.Ticks) && true))
instance : Ok SStep := ⟨fun x => Ok.ok x.At ∧ Ok.ok x.Ticks ∧ True⟩
instance : Flat SStep := ⟨2, fun x => [vI x.At, vI x.Ticks], fun _ => rfl, fun _ => rfl, by decide⟩

/-! punctual/punctualref.Steps -/
abbrev punctualref_Steps.Post (w0:World) (r:SEnded×(List SStep)×Bool) (e:Ending) (w:World):Prop:=∃ (v0:Value) (v1:Value) (v2:Value),e=.returned (.tuple #[.agg #[v0,v1,vI r.1.Steps],v2,.bool r.2.2])∧St w0 w [Own.of v0 3 r.1.Vars,Own.of v1 43 r.1.Puts,Own.of v2 55 r.2.1]
def punctualref_Steps.p1 (l2 : List Int) (z1 : Int) (m2 : List Int) (m3 : List Int) (m4 : List SPut) (mp1 : List (Int × Int)) (e1 : SIns) : Option ((Int × Bool × (List Int) × (List Int) × (List SPut) × (List (Int × Int))) ⊕ (SEnded × (List SStep) × Bool)) :=
  if e1.Op=1 then
   if m2.length<17592186044416 then
    some (.inl (IntKind.i64.wrap (z1+1),false,(m2++[e1.A]),m3,m4,mp1))
   else
    none
  else
   if e1.Op=2 then
    if 0≤e1.A then
     match m3[(e1.A).toNat]? with
     | none=>none
     | some e2 =>
      if m2.length<17592186044416 then
       some (.inl (IntKind.i64.wrap (z1+1),false,(m2++[e2]),m3,m4,mp1))
      else
       none
    else
     none
   else
    if e1.Op=3 then
     if 0≤(IntKind.i64.wrap ((m2.length:Int)-1)) then
      match m2[(IntKind.i64.wrap ((m2.length:Int)-1)).toNat]? with
      | none=>none
      | some e3 =>
       if 0≤e1.A then
        match m3[(e1.A).toNat]? with
        | none=>none
        | some e4 =>
         if ((IntKind.i64.wrap ((m2.length:Int)-1)).toNat)≤m2.length then
          some (.inl (IntKind.i64.wrap (z1+1),false,(m2.take ((IntKind.i64.wrap ((m2.length:Int)-1)).toNat)),(m3.set ((e1.A).toNat) e3),m4,mp1))
         else
          none
       else
        none
     else
      none
    else
     if e1.Op=4 then
      if 0≤(IntKind.i64.wrap ((m2.length:Int)-2)) then
       match m2[(IntKind.i64.wrap ((m2.length:Int)-2)).toNat]? with
       | none=>none
       | some e5 =>
        if 0≤(IntKind.i64.wrap ((m2.length:Int)-1)) then
         match m2[(IntKind.i64.wrap ((m2.length:Int)-1)).toNat]? with
         | none=>none
         | some e6 =>
          match punctualref_Steps_1.f (IntKind.i64.wrap (e5+e6)) m2 (m2.length:Int) with
          | none=>none
          | some r1 =>
           some (.inl (IntKind.i64.wrap (z1+1),false,r1,m3,m4,mp1))
        else
         none
      else
       none
     else
      if e1.Op=5 then
       if 0≤(IntKind.i64.wrap ((m2.length:Int)-2)) then
        match m2[(IntKind.i64.wrap ((m2.length:Int)-2)).toNat]? with
        | none=>none
        | some e7 =>
         if 0≤(IntKind.i64.wrap ((m2.length:Int)-1)) then
          match m2[(IntKind.i64.wrap ((m2.length:Int)-1)).toNat]? with
          | none=>none
          | some e8 =>
           match punctualref_Steps_1.f (IntKind.i64.wrap (e7-e8)) m2 (m2.length:Int) with
           | none=>none
           | some r2 =>
            some (.inl (IntKind.i64.wrap (z1+1),false,r2,m3,m4,mp1))
         else
          none
       else
        none
      else
       if e1.Op=6 then
        if 0≤(IntKind.i64.wrap ((m2.length:Int)-2)) then
         match m2[(IntKind.i64.wrap ((m2.length:Int)-2)).toNat]? with
         | none=>none
         | some e9 =>
          if 0≤(IntKind.i64.wrap ((m2.length:Int)-1)) then
           match m2[(IntKind.i64.wrap ((m2.length:Int)-1)).toNat]? with
           | none=>none
           | some e10 =>
            match punctualref_Steps_1.f (IntKind.i64.wrap (e9*e10)) m2 (m2.length:Int) with
            | none=>none
            | some r3 =>
             some (.inl (IntKind.i64.wrap (z1+1),false,r3,m3,m4,mp1))
          else
           none
        else
         none
       else
        if e1.Op=7 then
         if 0≤(IntKind.i64.wrap ((m2.length:Int)-2)) then
          match m2[(IntKind.i64.wrap ((m2.length:Int)-2)).toNat]? with
          | none=>none
          | some e11 =>
           if 0≤(IntKind.i64.wrap ((m2.length:Int)-1)) then
            match m2[(IntKind.i64.wrap ((m2.length:Int)-1)).toNat]? with
            | none=>none
            | some e12 =>
             match punctualref_Steps_1.f (punctualref_Steps_2.f (decide (e11<e12))) m2 (m2.length:Int) with
             | none=>none
             | some r4 =>
              some (.inl (IntKind.i64.wrap (z1+1),false,r4,m3,m4,mp1))
           else
            none
         else
          none
        else
         if e1.Op=8 then
          if 0≤(IntKind.i64.wrap ((m2.length:Int)-2)) then
           match m2[(IntKind.i64.wrap ((m2.length:Int)-2)).toNat]? with
           | none=>none
           | some e13 =>
            if 0≤(IntKind.i64.wrap ((m2.length:Int)-1)) then
             match m2[(IntKind.i64.wrap ((m2.length:Int)-1)).toNat]? with
             | none=>none
             | some e14 =>
              match punctualref_Steps_1.f (punctualref_Steps_2.f (e13==e14)) m2 (m2.length:Int) with
              | none=>none
              | some r5 =>
               some (.inl (IntKind.i64.wrap (z1+1),false,r5,m3,m4,mp1))
            else
             none
          else
           none
         else
          if e1.Op=9 then
           if 0≤e1.A then
            match l2[(e1.A).toNat]? with
            | none=>none
            | some e15 =>
             if m2.length<17592186044416 then
              some (.inl (IntKind.i64.wrap (z1+1),false,(m2++[e15]),m3,m4,mp1))
             else
              none
           else
            none
          else
           if e1.Op=10 then
            if 0≤(IntKind.i64.wrap ((m2.length:Int)-1)) then
             match m2[(IntKind.i64.wrap ((m2.length:Int)-1)).toNat]? with
             | none=>none
             | some e16 =>
              if m4.length<8796093022208 then
               if ((IntKind.i64.wrap ((m2.length:Int)-1)).toNat)≤m2.length then
                some (.inl (IntKind.i64.wrap (z1+1),false,(m2.take ((IntKind.i64.wrap ((m2.length:Int)-1)).toNat)),m3,(m4++[(⟨e1.A,e16⟩:SPut)]),mp1))
               else
                none
              else
               none
            else
             none
           else
            if e1.Op=11 then
             some (.inl (e1.A,false,m2,m3,m4,mp1))
            else
             if e1.Op=12 then
              if 0≤(IntKind.i64.wrap ((m2.length:Int)-1)) then
               match m2[(IntKind.i64.wrap ((m2.length:Int)-1)).toNat]? with
               | none=>none
               | some e17 =>
                if e17=0 then
                 if ((IntKind.i64.wrap ((m2.length:Int)-1)).toNat)≤m2.length then
                  some (.inl (e1.A,true,(m2.take ((IntKind.i64.wrap ((m2.length:Int)-1)).toNat)),m3,m4,mp1))
                 else
                  none
                else
                 if ((IntKind.i64.wrap ((m2.length:Int)-1)).toNat)≤m2.length then
                  some (.inl (IntKind.i64.wrap (z1+1),false,(m2.take ((IntKind.i64.wrap ((m2.length:Int)-1)).toNat)),m3,m4,mp1))
                 else
                  none
              else
               none
             else
              if e1.Op=13 then
               some (.inl (IntKind.i64.wrap (z1+1),false,m2,m3,m4,(mset mp1 e1.A e1.B)))
              else
               if e1.Op=14 then
                if ((mget mp1 e1.A).getD 0) > 0 then
                 some (.inl (e1.B,true,m2,m3,m4,(mset mp1 e1.A (IntKind.i64.wrap (((mget mp1 e1.A).getD 0)-1)))))
                else
                 some (.inl (IntKind.i64.wrap (z1+1),false,m2,m3,m4,mp1))
               else
                if e1.Op=15 then
                 some (.inl (IntKind.i64.wrap (z1+1),false,m2,m3,m4,(mset mp1 e1.A 0)))
                else
                 some (.inl (IntKind.i64.wrap (z1+1),false,m2,m3,m4,mp1))
def punctualref_Steps.r0 (l0 : List SIns) (l2 : List Int) (x3 : Int) : (List SStep) × Int × (List Int) × (List Int) × (List SPut) × Int × (List (Int × Int)) → Option (((List SStep) × Int × (List Int) × (List Int) × (List SPut) × Int × (List (Int × Int))) ⊕ (((List SStep) × (List Int) × (List SPut) × Int) ⊕ (SEnded × (List SStep) × Bool)))
 | (m1,z1,m2,m3,m4,z2,mp1) =>
  if z1<(l0.length:Int) then
   if (m1.length:Int)=x3 then
    some (.inr (.inr ((⟨m3,m4,z2⟩:SEnded),m1,false)))
   else
    if 0≤z1 then
     match l0[(z1).toNat]? with
     | none=>none
     | some e1 =>
      match punctualref_Steps.p1 l2 z1 m2 m3 m4 mp1 e1 with
      | none=>none
      | some (.inl (z5,q2,m11,m12,m13,mp3)) =>
       if m1.length<8796093022208 then
        some (.inl ((m1++[(⟨z1,(punctualref_Ticks.f e1 q2)⟩:SStep)]),z5,m11,m12,m13,IntKind.i64.wrap (z2+(punctualref_Ticks.f e1 q2)),mp3))
       else
        none
      | some (.inr rr1) =>
       some (.inr (.inr rr1))
    else
     none
  else
   some (.inr (.inl (m1,m3,m4,z2)))
def punctualref_Steps.f (K : Nat) (l0 : List SIns) (l1 : List Int) (l2 : List Int) (x3 : Int) : Option (SEnded × (List SStep) × Bool) :=
 if 0+l1.length≤17592186044416 then
  match iter (punctualref_Steps.r0 l0 l2 x3) K (([]:List SStep),0,([]:List Int),l1,([]:List SPut),0,([]:List (Int×Int))) with
  | none=>none
  | some (.inl (m14,m15,m16,z6)) =>
   some ((⟨m15,m16,z6⟩:SEnded),m14,true)
  | some (.inr rr2) =>
   some rr2
 else
  none
abbrev punctualref_Steps.A1 (w0:World) (l0:List SIns) (A0:Option Addr) (c0:Nat) (l2:List Int) (A2:Option Addr) (c2:Nat) (x3:Int) (b1:Nat) (Z1:Option Addr) (cz1:Nat) (b3:Nat) (b4:Nat) (b5:Nat) (m1:List SStep) (z1:Int) (z2:Int) (Z2:Option Addr) (cz2:Nat) (e1:SIns) (b6:Nat):(Int×Bool×(List Int)×(List Int)×(List SPut)×(List (Int×Int)))→Act→World→Prop:=fun (s:Int×Bool×(List Int)×(List Int)×(List SPut)×(List (Int×Int))) a w=>∃ (v7:Value) (v8:Value),St w0 w [Own.blk b6 (.cells #[vI e1.Op,vI e1.A,vI e1.B] 35 (0,0)),Own.blk b4 (.cells #[v7] 23 (0,0)),Own.blk b3 (.cells #[(.slice Z1 s.2.2.2.1.length cz1),v8,vI z2] 27 (0,0)),Own.blk b1 (.cells #[.slice none 0 0,.slice none 0 0,vI 0] 27 (0,0)),Own.of (.slice Z2 m1.length cz2) 55 m1,Own.of v7 3 s.2.2.1,Own.of (.slice Z1 s.2.2.2.1.length cz1) 3 s.2.2.2.1,Own.of v8 43 s.2.2.2.2.1,Own.map (κ:=Int) (ν:=Int) b5 s.2.2.2.2.2]∧Frm 252 a [(0,.slice A0 l0.length c0),(2,.slice A2 l2.length c2),(3,vI x3),(8,pP b1 0),(11,pP b3 0),(12,(.slice Z2 m1.length cz2)),(13,pP b4 0),(14,.map (some b5)),(15,vI z1),(16,pP b6 0),(17,vI s.1),(18,.bool s.2.1)]
abbrev punctualref_Steps.B1 (w0:World):(SEnded×(List SStep)×Bool)→Exit→Act→World→Prop:=Rets Tryd.prog Tryd.f18 (punctualref_Steps.Post w0)
theorem punctualref_Steps_p1 (K:Nat) (w0:World) (l0:List SIns) (A0:Option Addr) (c0:Nat) (l1:List Int) (A1:Option Addr) (c1:Nat) (l2:List Int) (A2:Option Addr) (c2:Nat) (x3:Int) (hR0:RdL w0 A0 l0) (hL0:l0.length≤c0) (hR1:RdL w0 A1 l1) (hL1:l1.length≤c1) (hR2:RdL w0 A2 l2) (hL2:l2.length≤c2) (b1:Nat) (b2:Nat) (hc1:0+l1.length≤17592186044416) (Z1:Option Addr) (cz1:Nat) (b3:Nat) (b4:Nat) (b5:Nat) (m1:List SStep) (z1:Int) (m2:List Int) (m3:List Int) (m4:List SPut) (z2:Int) (mp1:List (Int×Int)) (hc2:z1<(l0.length:Int)) (Z2:Option Addr) (cz2:Nat) (hc3:¬ ((m1.length:Int)=x3)) (hc4:0≤z1) (e1:SIns) (hx6:l0[(z1).toNat]?=some e1) (b6:Nat) (Z4:Option Addr) (cz4:Nat) (b7:Nat) (Z5:Option Addr) (cz5:Nat) (o:(Int×Bool×(List Int)×(List Int)×(List SPut)×(List (Int×Int))) ⊕ (SEnded×(List SStep)×Bool)) (h:punctualref_Steps.p1 l2 z1 m2 m3 m4 mp1 e1=some o) (w:World) (hS:St w0 w [Own.blk b7 (.cells #[vI (m2.length:Int)] 3 (0,0)),Own.blk b6 (.cells #[vI e1.Op,vI e1.A,vI e1.B] 35 (0,0)),Own.blk b4 (.cells #[(.slice Z4 m2.length cz4)] 23 (0,0)),Own.blk b3 (.cells #[(.slice Z1 m3.length cz1),(.slice Z5 m4.length cz5),vI z2] 27 (0,0)),Own.blk b1 (.cells #[.slice none 0 0,.slice none 0 0,vI 0] 27 (0,0)),Own.of (.slice Z2 m1.length cz2) 55 m1,Own.of (.slice Z4 m2.length cz4) 3 m2,Own.of (.slice Z1 m3.length cz1) 3 m3,Own.of (.slice Z5 m4.length cz5) 43 m4,Own.map (κ:=Int) (ν:=Int) b5 mp1]) (Q:Exit→Act→World→Prop) (hQ:∀ x a w,Outs (punctualref_Steps.A1 w0 l0 A0 c0 l2 A2 c2 x3 b1 Z1 cz1 b3 b4 b5 m1 z1 z2 Z2 cz2 e1 b6) (punctualref_Steps.B1 w0) o x a w→Q x a w):WE Tryd.prog 252 (subF Tryd.f18 [1,1,1,1,1,1,0,0,0,1,0,1,1,1,1,1,1,0]) Q ((0,.slice A0 l0.length c0)::(2,.slice A2 l2.length c2)::(3,vI x3)::(8,pP b1 0)::(11,pP b3 0)::(12,(.slice Z2 m1.length cz2))::(13,pP b4 0)::(14,.map (some b5))::(15,vI z1)::(16,pP b6 0)::(17,vI (IntKind.i64.wrap (z1+1)))::(18,.bool false)::(19,pP b7 0)::(20,.func (.func 27) #[] #[pP b4 0,pP b7 0])::(21,.func (.func 28) #[] #[])::(28,vI z1)::(29,.slice A0 l0.length c0)::(30,vI (l0.length:Int))::(31,.bool true)::(32,(.slice Z2 m1.length cz2))::(33,vI (m1.length:Int))::(34,vI x3)::(35,.bool false)::(38,.slice A0 l0.length c0)::(39,vI z1)::(40,.pointer (some ⟨blkOf A0,offOf A0+(z1).toNat*3,none⟩))::(41,.agg #[vI e1.Op,vI e1.A,vI e1.B])::(42,vI z1)::(43,vI (IntKind.i64.wrap (z1+1)))::(44,(.slice Z4 m2.length cz4))::(45,vI (m2.length:Int))::(46,.func (.func 27) #[] #[pP b4 0,pP b7 0])::[]) w:=by
 simp only [punctualref_Steps.p1] at h
 refine ws fun K19 hK19=>wr [(0,0),(1,0)]<|gb [0,1] [(48,vI e1.Op),(47,pP b6 0)] [.loaded ⟨b6,0,none⟩ (vI e1.Op)] ⟨hS.c 1,trivial⟩ ?_
 refine gn hK19<|we_block<|ws fun K20 hK20=>wr [(0,0),(1,0)]<|gb0 [0,1] [(49,.bool (e1.Op==1)),(50,.bool (e1.Op==1))] ?_
 refine gn hK20 ?_
 by_cases hc5:e1.Op=1
 ·rw [if_pos hc5] at h
  refine wk 49 (e1.Op==1) true (beq_iff_eq.2 hc5) ?_
  refine we_true (by kernel_rfl) ?_
  refine wr [(0,0),(1,0),(2,0),(3,1),(4,2),(5,2)]<|gb [0,1,2] [(53,vI e1.A),(52,pP b6 1),(51,(.slice Z4 m2.length cz4))] [.loaded ⟨b4,0,none⟩ ((.slice Z4 m2.length cz4)),.loaded ⟨b6,1,none⟩ (vI e1.A)] ⟨hS.c 2,hS.c 1,trivial⟩ ?_
  refine gw (some 54) (.cells #[vI e1.A] 3) (fun b=>.slice (some ⟨b,0,none⟩) 1 1) hS fun b8 w13 hx9 hS36=>?_
  have hS37:=hS36.b 7
  by_cases hc6:m2.length<17592186044416
  ·rw [if_pos hc6] at h
   refine ge_append (α:=Int) (m:=0) (d:=55) (t:=23) (el:=3) (bytes:=8) (c1:=1) (b1:=b8) (x:=(.tmp 51)) (y:=(.tmp 54)) (ty:=23) (v:=(.slice Z4 m2.length cz4)) (z:=vI 0) (l:=m2) (u:=e1.A) (by kernel_rfl) (by kernel_rfl) (by kernel_rfl) (by kernel_rfl) (by kernel_rfl) rfl hS37 rfl (by omega) fun v9 w14 hS38=>?_
   obtain ⟨Z6,cz6,rfl⟩:=hS38.open 0 rfl
   have hS39:=hS38.b 3
   refine gs b4 0 #[(.slice Z4 m2.length cz4)] 23 [(.slice Z6 (m2++[e1.A]).length cz6)] hS39 fun w15 hS40=>?_
   have hS51:=((((((((((hS40.nc #[(.slice Z6 (m2++[e1.A]).length cz6)] rfl).b 9).b 9).b 9).b 4).b 9).b 9).b 9).b 7).b 9).takeN 9
   obtain rfl:=si h
   exact ge_nil fun a hF=>hQ _ _ _ (Outs.again ⟨(.slice Z6 (m2++[e1.A]).length cz6),(.slice Z5 m4.length cz5),hS51,hF.weaken ea⟩)
  rw [if_neg hc6] at h
  cases h
 rw [if_neg hc5] at h
 refine wk 49 (e1.Op==1) false (beq_eq_false_iff_ne.2 hc5) ?_
 refine we_false (by kernel_rfl) ?_
 refine ws fun K21 hK21=>wr [(0,0),(1,0)]<|gb0 [0,1] [(56,.bool (e1.Op==2)),(57,.bool (e1.Op==2))] ?_
 refine gn hK21 ?_
 by_cases hc7:e1.Op=2
 ·rw [if_pos hc7] at h
  refine wk 56 (e1.Op==2) true (beq_iff_eq.2 hc7) ?_
  refine we_true (by kernel_rfl) ?_
  refine we_orders3 (by kernel_rfl) [(0,[⟨b4,0,none⟩],[],[]),(2,[⟨b3,0,none⟩],[5,6,7,8],[]),(4,[⟨b6,1,none⟩],[5,6,7,8],[]),(6,[⟨blkOf Z1,offOf Z1+((e1.A).toNat)*1,none⟩],[7,8],[])] (.vals [0] (.vals [1] (.vals [2] (.vals [3] (.vals [4] (.vals [5] (.vals [6] (.alt 7 1 (.alt 8 2 (.alt 9 2 .fin .nomore) .nomore) .nomore)))))))) (by kernel_rfl) (by kernel_rfl) ?_
  have hS52:=hS.drew
  refine g3 0 [(58,(.slice Z4 m2.length cz4))] [.loaded ⟨b4,0,none⟩ ((.slice Z4 m2.length cz4))] ⟨hS52.c 2,trivial⟩ ?_
  refine g30 [1] [(59,pP b3 0)] ?_
  refine g3 2 [(60,(.slice Z1 m3.length cz1))] [.loaded ⟨b3,0,none⟩ ((.slice Z1 m3.length cz1))] ⟨hS52.c 3,trivial⟩ ?_
  refine g30 [3] [(61,pP b6 1)] ?_
  refine g3 4 [(62,vI e1.A)] [.loaded ⟨b6,1,none⟩ (vI e1.A)] ⟨hS52.c 1,trivial⟩ ?_
  by_cases hc8:0≤e1.A
  ·rw [if_pos hc8] at h
   rcases hx10:m3[(e1.A).toNat]? with _ | e2
   ·rw [hx10] at h; cases h
   rw [hx10] at h
   simp only [] at h
   refine go3_index (d:=63) (ty:=0) (t:=23) (el:=3) (sz:=1) (m:=m3.length) (c:=cz1) (x:=(.tmp 60)) (y:=(.tmp 62)) (A:=Z1) (k':=.i64) (j:=e1.A) (jn:=((e1.A).toNat)) (b0:=blkOf Z1) (o0:=offOf Z1) (by kernel_rfl) (by kernel_rfl) (by kernel_rfl) (by kernel_rfl) (by kernel_rfl) ((hS52.rdAt 7 rfl).eqSome (pos_of_get hx10)) (Int.toNat_of_nonneg hc8).symm (lt_of_get hx10) ?_
   refine g3 6 [(64,vI e2)] [.loaded ⟨blkOf Z1,offOf Z1+((e1.A).toNat)*1,none⟩ (vI e2)] ⟨RdL.cell (j:=0) (hS52.rdAt 7 rfl) hx10 rfl,trivial⟩ ?_
   refine go_alt3 (fun KK hKK=>?_) ?_
   ·refine ge_one2<|gw (some 65) (.cells #[vI e2] 3) (fun b=>.slice (some ⟨b,0,none⟩) 1 1) hS52 fun b9 w16 hx11 hS53=>?_
    refine ge_nil fun a hF=>hKK _ _ (RS.of2 (l:=[.loaded ⟨b4,0,none⟩ ((.slice Z4 m2.length cz4))]) (by kernel_rfl) ⟨hS52.c 2,trivial⟩ ⟨hS53.c 3,trivial⟩) ?_ a hF
    refine go_alt3 (fun KK hKK=>?_) ?_
    ·have hS54:=hS53.b 7
     by_cases hc9:m2.length<17592186044416
     ·rw [if_pos hc9] at h
      refine ge_append (α:=Int) (m:=0) (d:=66) (t:=23) (el:=3) (bytes:=8) (c1:=1) (b1:=b9) (x:=(.tmp 58)) (y:=(.tmp 65)) (ty:=23) (v:=(.slice Z4 m2.length cz4)) (z:=vI 0) (l:=m2) (u:=e2) (by kernel_rfl) (by kernel_rfl) (by kernel_rfl) (by kernel_rfl) (by kernel_rfl) rfl hS54 rfl (by omega) fun v10 w17 hS55=>?_
      refine g2 hKK<|go_alt3 (fun KK hKK=>?_) ?_
      ·obtain ⟨Z7,cz7,rfl⟩:=hS55.open 0 rfl
       have hS56:=hS55.b 3
       refine gs b4 0 #[(.slice Z4 m2.length cz4)] 23 [(.slice Z7 (m2++[e2]).length cz7)] hS56 fun w18 hS57=>?_
       have hS58:=hS57.nc #[(.slice Z7 (m2++[e2]).length cz7)] rfl
       refine g2 hKK ?_
       have hS68:=(((((((((hS58.b 9).b 9).b 9).b 4).b 9).b 9).b 9).b 7).b 9).takeN 9
       obtain rfl:=si h
       exact go_fin3 fun a hF=>hQ _ _ _ (Outs.again ⟨(.slice Z7 (m2++[e2]).length cz7),(.slice Z5 m4.length cz5),hS68,hF.weaken ea⟩)
      exact go_nomore3
     rw [if_neg hc9] at h
     cases h
    exact go_nomore3
   exact go_nomore3
  rw [if_neg hc8] at h
  cases h
 rw [if_neg hc7] at h
 refine wk 56 (e1.Op==2) false (beq_eq_false_iff_ne.2 hc7) ?_
 refine we_false (by kernel_rfl) ?_
 refine ws fun K22 hK22=>wr [(0,0),(1,0)]<|gb0 [0,1] [(67,.bool (e1.Op==3)),(68,.bool (e1.Op==3))] ?_
 refine gn hK22 ?_
 by_cases hc10:e1.Op=3
 ·rw [if_pos hc10] at h
  refine wk 67 (e1.Op==3) true (beq_iff_eq.2 hc10) ?_
  refine we_true (by kernel_rfl) ?_
  refine ws fun K23 hK23=>we_draws (by kernel_rfl) [(0,0),(1,0),(2,0),(3,0),(4,0),(5,0),(6,0),(7,0),(8,0),(9,0),(10,2)] (by kernel_rfl) ?_
  have hS69:=hS.drew
  refine gb [0,1,2,3,4,5,6] [(75,vI (IntKind.i64.wrap ((m2.length:Int)-1))),(74,vI (m2.length:Int)),(73,(.slice Z4 m2.length cz4)),(72,vI e1.A),(71,pP b6 1),(70,(.slice Z1 m3.length cz1)),(69,pP b3 0)] [.loaded ⟨b3,0,none⟩ ((.slice Z1 m3.length cz1)),.loaded ⟨b6,1,none⟩ (vI e1.A),.loaded ⟨b4,0,none⟩ ((.slice Z4 m2.length cz4)),.loaded ⟨b7,0,none⟩ (vI (m2.length:Int))] ⟨hS69.c 3,hS69.c 1,hS69.c 2,hS69.c 0,trivial⟩ ?_
  by_cases hc11:0≤(IntKind.i64.wrap ((m2.length:Int)-1))
  ·rw [if_pos hc11] at h
   rcases hx12:m2[(IntKind.i64.wrap ((m2.length:Int)-1)).toNat]? with _ | e3
   ·rw [hx12] at h; cases h
   rw [hx12] at h
   simp only [] at h
   refine gi 76 0 23 3 1 m2.length cz4 (.tmp 73) (.tmp 75) Z4 .i64 (IntKind.i64.wrap ((m2.length:Int)-1)) ((IntKind.i64.wrap ((m2.length:Int)-1)).toNat) ((hS69.rdAt 6 rfl).eqSome (pos_of_get hx12)) (Int.toNat_of_nonneg hc11).symm (lt_of_get hx12) ?_
   refine gb [8] [(77,vI e3)] [.loaded ⟨blkOf Z4,offOf Z4+((IntKind.i64.wrap ((m2.length:Int)-1)).toNat)*1,none⟩ (vI e3)] ⟨RdL.cell (j:=0) (hS69.rdAt 6 rfl) hx12 rfl,trivial⟩ ?_
   by_cases hc12:0≤e1.A
   ·rw [if_pos hc12] at h
    rcases hx13:m3[(e1.A).toNat]? with _ | e4
    ·rw [hx13] at h; cases h
    rw [hx13] at h
    simp only [] at h
    refine gi 78 0 23 3 1 m3.length cz1 (.tmp 70) (.tmp 72) Z1 .i64 e1.A ((e1.A).toNat) ((hS69.rdAt 7 rfl).eqSome (pos_of_get hx13)) (Int.toNat_of_nonneg hc12).symm (lt_of_get hx13) ?_
    have hS70:=hS69.b 7
    refine ge_seti (α:=Int) (A:=Z1) (nn:=m3.length) (c:=cz1) (t:=3) (l:=m3) (x:=e4) (x':=e3) (jn:=((e1.A).toNat)) (j:=0) (vs:=[vI e3]) (l':=[.stored ⟨blkOf Z1,offOf Z1+((e1.A).toNat)*1,none⟩ (vI e3)]) hS70 (by kernel_rfl) (by kernel_rfl) hx13 rfl rfl rfl fun w19 hS71=>?_
    have hS72:St w0 w19 [Own.of (.slice Z1 m3.length cz1) 3 (m3.set ((e1.A).toNat) e3),Own.blk b7 (.cells #[vI (m2.length:Int)] 3 (0,0)),Own.blk b6 (.cells #[vI e1.Op,vI e1.A,vI e1.B] 35 (0,0)),Own.blk b4 (.cells #[(.slice Z4 m2.length cz4)] 23 (0,0)),Own.blk b3 (.cells #[(.slice Z1 m3.length cz1),(.slice Z5 m4.length cz5),vI z2] 27 (0,0)),Own.blk b1 (.cells #[.slice none 0 0,.slice none 0 0,vI 0] 27 (0,0)),Own.of (.slice Z2 m1.length cz2) 55 m1,Own.of (.slice Z4 m2.length cz4) 3 m2,Own.of (.slice Z5 m4.length cz5) 43 m4,Own.map (κ:=Int) (ν:=Int) b5 mp1]:=hS71
    have hE1:m3.length=(m3.set ((e1.A).toNat) e3).length:=hS72.lenAt 0 rfl
    have hS73:St w0 w19 [Own.of (.slice Z1 (m3.set ((e1.A).toNat) e3).length cz1) 3 (m3.set ((e1.A).toNat) e3),Own.blk b7 (.cells #[vI (m2.length:Int)] 3 (0,0)),Own.blk b6 (.cells #[vI e1.Op,vI e1.A,vI e1.B] 35 (0,0)),Own.blk b4 (.cells #[(.slice Z4 m2.length cz4)] 23 (0,0)),Own.blk b3 (.cells #[(.slice Z1 (m3.set ((e1.A).toNat) e3).length cz1),(.slice Z5 m4.length cz5),vI z2] 27 (0,0)),Own.blk b1 (.cells #[.slice none 0 0,.slice none 0 0,vI 0] 27 (0,0)),Own.of (.slice Z2 m1.length cz2) 55 m1,Own.of (.slice Z4 m2.length cz4) 3 m2,Own.of (.slice Z5 m4.length cz5) 43 m4,Own.map (κ:=Int) (ν:=Int) b5 mp1]:=by rw [← hE1]; exact hS72
    refine ge_same (t:=70) (v:=(.slice Z1 m3.length cz1)) (v':=(.slice Z1 (m3.set ((e1.A).toNat) e3).length cz1)) (by kernel_rfl) (by rw [hE1]) ?_
    refine gn hK23<|wr [(0,0),(1,0),(2,0),(3,0),(4,2)]<|gb [0,1,2] [(81,vI (IntKind.i64.wrap ((m2.length:Int)-1))),(80,vI (m2.length:Int)),(79,(.slice Z4 m2.length cz4))] [.loaded ⟨b4,0,none⟩ ((.slice Z4 m2.length cz4)),.loaded ⟨b7,0,none⟩ (vI (m2.length:Int))] ⟨hS73.c 3,hS73.c 1,trivial⟩ ?_
    by_cases hc13:((IntKind.i64.wrap ((m2.length:Int)-1)).toNat)≤m2.length
    ·rw [if_pos hc13] at h
     refine ge_sliceHi (d:=82) (ty:=23) (t:=23) (el:=3) (sz:=1) (m:=m2.length) (c:=cz4) (hn:=((IntKind.i64.wrap ((m2.length:Int)-1)).toNat)) (x:=(.tmp 79)) (y:=(.tmp 81)) (A:=Z4) (k':=.i64) (hi:=(IntKind.i64.wrap ((m2.length:Int)-1))) (by kernel_rfl) (by kernel_rfl) (by kernel_rfl) (Int.toNat_of_nonneg hc11).symm (by kernel_rfl) (by kernel_rfl) (by have f0:=hc13; have f1:=(hS73.capAt 7 rfl); omega) ?_
     refine ge_same (t:=82) (v:=.slice Z4 ((IntKind.i64.wrap ((m2.length:Int)-1)).toNat) cz4) (v':=.slice Z4 ((m2.take ((IntKind.i64.wrap ((m2.length:Int)-1)).toNat)).length) cz4) (by kernel_rfl) (congrArg (fun z=>Value.slice Z4 z cz4) (show (IntKind.i64.wrap ((m2.length:Int)-1)).toNat=(m2.take ((IntKind.i64.wrap ((m2.length:Int)-1)).toNat)).length by have f0:=hc13; have f1:=(hS73.capAt 7 rfl); simp only [List.length_take]; omega)) ?_
     have hS74:=hS73.b 3
     refine gs b4 0 #[(.slice Z4 m2.length cz4)] 23 [.slice Z4 ((m2.take ((IntKind.i64.wrap ((m2.length:Int)-1)).toNat)).length) cz4] hS74 fun w20 hS75=>?_
     have hS88:=((((((((((((hS75.nc #[.slice Z4 ((m2.take ((IntKind.i64.wrap ((m2.length:Int)-1)).toNat)).length) cz4] rfl).b 7).shrink ((IntKind.i64.wrap ((m2.length:Int)-1)).toNat)).b 9).b 9).b 4).b 3).b 9).b 9).b 9).b 7).b 9).takeN 9
     obtain rfl:=si h
     exact ge_nil fun a hF=>hQ _ _ _ (Outs.again ⟨(.slice Z4 (m2.take ((IntKind.i64.wrap ((m2.length:Int)-1)).toNat)).length cz4),(.slice Z5 m4.length cz5),hS88,hF.weaken ea⟩)
    rw [if_neg hc13] at h
    cases h
   rw [if_neg hc12] at h
   cases h
  rw [if_neg hc11] at h
  cases h
 rw [if_neg hc10] at h
 refine wk 67 (e1.Op==3) false (beq_eq_false_iff_ne.2 hc10) ?_
 refine we_false (by kernel_rfl) ?_
 refine ws fun K24 hK24=>wr [(0,0),(1,0)]<|gb0 [0,1] [(83,.bool (e1.Op==4)),(84,.bool (e1.Op==4))] ?_
 refine gn hK24 ?_
 by_cases hc14:e1.Op=4
 ·rw [if_pos hc14] at h
  refine wk 83 (e1.Op==4) true (beq_iff_eq.2 hc14) ?_
  refine we_true (by kernel_rfl) ?_
  refine we_orders3 (by kernel_rfl) [(1,[⟨b4,0,none⟩],[4,5,11,12],[]),(2,[⟨b7,0,none⟩],[3,4,5,11,12],[]),(5,[⟨blkOf Z4,offOf Z4+((IntKind.i64.wrap ((m2.length:Int)-2)).toNat)*1,none⟩],[11,12],[]),(6,[⟨b4,0,none⟩],[9,10,11,12],[]),(7,[⟨b7,0,none⟩],[8,9,10,11,12],[]),(10,[⟨blkOf Z4,offOf Z4+((IntKind.i64.wrap ((m2.length:Int)-1)).toNat)*1,none⟩],[11,12],[])] (.vals [0] (.vals [1] (.vals [2] (.vals [3] (.vals [4] (.vals [5] (.vals [6] (.vals [7] (.vals [8] (.vals [9] (.vals [10] (.vals [11] (.alt 12 2 .fin .nomore))))))))))))) (by kernel_rfl) (by kernel_rfl) ?_
  have hS89:=hS.drew
  refine g30 [0] [(85,.func (.func 27) #[] #[pP b4 0,pP b7 0])] ?_
  refine g3 1 [(86,(.slice Z4 m2.length cz4))] [.loaded ⟨b4,0,none⟩ ((.slice Z4 m2.length cz4))] ⟨hS89.c 2,trivial⟩ ?_
  refine g3 2 [(87,vI (m2.length:Int))] [.loaded ⟨b7,0,none⟩ (vI (m2.length:Int))] ⟨hS89.c 0,trivial⟩ ?_
  refine g30 [3] [(88,vI (IntKind.i64.wrap ((m2.length:Int)-2)))] ?_
  by_cases hc15:0≤(IntKind.i64.wrap ((m2.length:Int)-2))
  ·rw [if_pos hc15] at h
   rcases hx14:m2[(IntKind.i64.wrap ((m2.length:Int)-2)).toNat]? with _ | e5
   ·rw [hx14] at h; cases h
   rw [hx14] at h
   simp only [] at h
   refine go3_index (d:=89) (ty:=0) (t:=23) (el:=3) (sz:=1) (m:=m2.length) (c:=cz4) (x:=(.tmp 86)) (y:=(.tmp 88)) (A:=Z4) (k':=.i64) (j:=(IntKind.i64.wrap ((m2.length:Int)-2))) (jn:=((IntKind.i64.wrap ((m2.length:Int)-2)).toNat)) (b0:=blkOf Z4) (o0:=offOf Z4) (by kernel_rfl) (by kernel_rfl) (by kernel_rfl) (by kernel_rfl) (by kernel_rfl) ((hS89.rdAt 6 rfl).eqSome (pos_of_get hx14)) (Int.toNat_of_nonneg hc15).symm (lt_of_get hx14) ?_
   refine g3 5 [(90,vI e5)] [.loaded ⟨blkOf Z4,offOf Z4+((IntKind.i64.wrap ((m2.length:Int)-2)).toNat)*1,none⟩ (vI e5)] ⟨RdL.cell (j:=0) (hS89.rdAt 6 rfl) hx14 rfl,trivial⟩ ?_
   refine g3 6 [(91,(.slice Z4 m2.length cz4))] [.loaded ⟨b4,0,none⟩ ((.slice Z4 m2.length cz4))] ⟨hS89.c 2,trivial⟩ ?_
   refine g3 7 [(92,vI (m2.length:Int))] [.loaded ⟨b7,0,none⟩ (vI (m2.length:Int))] ⟨hS89.c 0,trivial⟩ ?_
   refine g30 [8] [(93,vI (IntKind.i64.wrap ((m2.length:Int)-1)))] ?_
   by_cases hc16:0≤(IntKind.i64.wrap ((m2.length:Int)-1))
   ·rw [if_pos hc16] at h
    rcases hx15:m2[(IntKind.i64.wrap ((m2.length:Int)-1)).toNat]? with _ | e6
    ·rw [hx15] at h; cases h
    rw [hx15] at h
    simp only [] at h
    refine go3_index (d:=94) (ty:=0) (t:=23) (el:=3) (sz:=1) (m:=m2.length) (c:=cz4) (x:=(.tmp 91)) (y:=(.tmp 93)) (A:=Z4) (k':=.i64) (j:=(IntKind.i64.wrap ((m2.length:Int)-1))) (jn:=((IntKind.i64.wrap ((m2.length:Int)-1)).toNat)) (b0:=blkOf Z4) (o0:=offOf Z4) (by kernel_rfl) (by kernel_rfl) (by kernel_rfl) (by kernel_rfl) (by kernel_rfl) ((hS89.rdAt 6 rfl).eqSome (pos_of_get hx15)) (Int.toNat_of_nonneg hc16).symm (lt_of_get hx15) ?_
    refine g3 10 [(95,vI e6)] [.loaded ⟨blkOf Z4,offOf Z4+((IntKind.i64.wrap ((m2.length:Int)-1)).toNat)*1,none⟩ (vI e6)] ⟨RdL.cell (j:=0) (hS89.rdAt 6 rfl) hx15 rfl,trivial⟩ ?_
    refine g30 [11] [(96,vI (IntKind.i64.wrap (e5+e6)))] ?_
    refine go_alt3 (fun KK hKK=>?_) ?_
    ·rcases hq1:punctualref_Steps_1.f (IntKind.i64.wrap (e5+e6)) m2 (m2.length:Int) with _ | r1
     ·rw [hq1] at h; cases h
     rw [hq1] at h
     simp only [] at h
     have hS94:=(((hS89.b 6).b 1).b 3).packN 3
     refine ge_call2 (m:=0) (d:=some 97) (f:=27) (args:=#[vI (IntKind.i64.wrap (e5+e6)),pP b4 0,pP b7 0]) (by kernel_rfl) (punctualref_Steps_1_ok (IntKind.i64.wrap (e5+e6)) b4 m2 Z4 cz4 b7 (m2.length:Int) _ _ _ hS94 _ hq1) ?_
     rintro _ w21 ⟨v11,rfl,hS93⟩
     refine ⟨_,rfl,?_⟩
     have hS95:=hS93.unpack [Own.blk b4 (.cells #[v11] 23 (0,0)),Own.blk b7 (.cells #[vI (m2.length:Int)] 3 (0,0)),Own.of v11 3 r1]
     refine g2 hKK ?_
     have hS105:=(((((((((hS95.b 9).b 9).b 9).b 5).b 9).b 9).b 9).b 7).b 9).takeN 9
     obtain rfl:=si h
     exact go_fin3 fun a hF=>hQ _ _ _ (Outs.again ⟨v11,(.slice Z5 m4.length cz5),hS105,hF.weaken ea⟩)
    exact go_nomore3
   rw [if_neg hc16] at h
   cases h
  rw [if_neg hc15] at h
  cases h
 rw [if_neg hc14] at h
 refine wk 83 (e1.Op==4) false (beq_eq_false_iff_ne.2 hc14) ?_
 refine we_false (by kernel_rfl) ?_
 refine ws fun K25 hK25=>wr [(0,0),(1,0)]<|gb0 [0,1] [(98,.bool (e1.Op==5)),(99,.bool (e1.Op==5))] ?_
 refine gn hK25 ?_
 by_cases hc17:e1.Op=5
 ·rw [if_pos hc17] at h
  refine wk 98 (e1.Op==5) true (beq_iff_eq.2 hc17) ?_
  refine we_true (by kernel_rfl) ?_
  refine we_orders3 (by kernel_rfl) [(1,[⟨b4,0,none⟩],[4,5,11,12],[]),(2,[⟨b7,0,none⟩],[3,4,5,11,12],[]),(5,[⟨blkOf Z4,offOf Z4+((IntKind.i64.wrap ((m2.length:Int)-2)).toNat)*1,none⟩],[11,12],[]),(6,[⟨b4,0,none⟩],[9,10,11,12],[]),(7,[⟨b7,0,none⟩],[8,9,10,11,12],[]),(10,[⟨blkOf Z4,offOf Z4+((IntKind.i64.wrap ((m2.length:Int)-1)).toNat)*1,none⟩],[11,12],[])] (.vals [0] (.vals [1] (.vals [2] (.vals [3] (.vals [4] (.vals [5] (.vals [6] (.vals [7] (.vals [8] (.vals [9] (.vals [10] (.vals [11] (.alt 12 2 .fin .nomore))))))))))))) (by kernel_rfl) (by kernel_rfl) ?_
  have hS106:=hS.drew
  refine g30 [0] [(100,.func (.func 27) #[] #[pP b4 0,pP b7 0])] ?_
  refine g3 1 [(101,(.slice Z4 m2.length cz4))] [.loaded ⟨b4,0,none⟩ ((.slice Z4 m2.length cz4))] ⟨hS106.c 2,trivial⟩ ?_
  refine g3 2 [(102,vI (m2.length:Int))] [.loaded ⟨b7,0,none⟩ (vI (m2.length:Int))] ⟨hS106.c 0,trivial⟩ ?_
  refine g30 [3] [(103,vI (IntKind.i64.wrap ((m2.length:Int)-2)))] ?_
  by_cases hc18:0≤(IntKind.i64.wrap ((m2.length:Int)-2))
  ·rw [if_pos hc18] at h
   rcases hx16:m2[(IntKind.i64.wrap ((m2.length:Int)-2)).toNat]? with _ | e7
   ·rw [hx16] at h; cases h
   rw [hx16] at h
   simp only [] at h
   refine go3_index (d:=104) (ty:=0) (t:=23) (el:=3) (sz:=1) (m:=m2.length) (c:=cz4) (x:=(.tmp 101)) (y:=(.tmp 103)) (A:=Z4) (k':=.i64) (j:=(IntKind.i64.wrap ((m2.length:Int)-2))) (jn:=((IntKind.i64.wrap ((m2.length:Int)-2)).toNat)) (b0:=blkOf Z4) (o0:=offOf Z4) (by kernel_rfl) (by kernel_rfl) (by kernel_rfl) (by kernel_rfl) (by kernel_rfl) ((hS106.rdAt 6 rfl).eqSome (pos_of_get hx16)) (Int.toNat_of_nonneg hc18).symm (lt_of_get hx16) ?_
   refine g3 5 [(105,vI e7)] [.loaded ⟨blkOf Z4,offOf Z4+((IntKind.i64.wrap ((m2.length:Int)-2)).toNat)*1,none⟩ (vI e7)] ⟨RdL.cell (j:=0) (hS106.rdAt 6 rfl) hx16 rfl,trivial⟩ ?_
   refine g3 6 [(106,(.slice Z4 m2.length cz4))] [.loaded ⟨b4,0,none⟩ ((.slice Z4 m2.length cz4))] ⟨hS106.c 2,trivial⟩ ?_
   refine g3 7 [(107,vI (m2.length:Int))] [.loaded ⟨b7,0,none⟩ (vI (m2.length:Int))] ⟨hS106.c 0,trivial⟩ ?_
   refine g30 [8] [(108,vI (IntKind.i64.wrap ((m2.length:Int)-1)))] ?_
   by_cases hc19:0≤(IntKind.i64.wrap ((m2.length:Int)-1))
   ·rw [if_pos hc19] at h
    rcases hx17:m2[(IntKind.i64.wrap ((m2.length:Int)-1)).toNat]? with _ | e8
    ·rw [hx17] at h; cases h
    rw [hx17] at h
    simp only [] at h
    refine go3_index (d:=109) (ty:=0) (t:=23) (el:=3) (sz:=1) (m:=m2.length) (c:=cz4) (x:=(.tmp 106)) (y:=(.tmp 108)) (A:=Z4) (k':=.i64) (j:=(IntKind.i64.wrap ((m2.length:Int)-1))) (jn:=((IntKind.i64.wrap ((m2.length:Int)-1)).toNat)) (b0:=blkOf Z4) (o0:=offOf Z4) (by kernel_rfl) (by kernel_rfl) (by kernel_rfl) (by kernel_rfl) (by kernel_rfl) ((hS106.rdAt 6 rfl).eqSome (pos_of_get hx17)) (Int.toNat_of_nonneg hc19).symm (lt_of_get hx17) ?_
    refine g3 10 [(110,vI e8)] [.loaded ⟨blkOf Z4,offOf Z4+((IntKind.i64.wrap ((m2.length:Int)-1)).toNat)*1,none⟩ (vI e8)] ⟨RdL.cell (j:=0) (hS106.rdAt 6 rfl) hx17 rfl,trivial⟩ ?_
    refine g30 [11] [(111,vI (IntKind.i64.wrap (e7-e8)))] ?_
    refine go_alt3 (fun KK hKK=>?_) ?_
    ·rcases hq2:punctualref_Steps_1.f (IntKind.i64.wrap (e7-e8)) m2 (m2.length:Int) with _ | r2
     ·rw [hq2] at h; cases h
     rw [hq2] at h
     simp only [] at h
     have hS111:=(((hS106.b 6).b 1).b 3).packN 3
     refine ge_call2 (m:=0) (d:=some 112) (f:=27) (args:=#[vI (IntKind.i64.wrap (e7-e8)),pP b4 0,pP b7 0]) (by kernel_rfl) (punctualref_Steps_1_ok (IntKind.i64.wrap (e7-e8)) b4 m2 Z4 cz4 b7 (m2.length:Int) _ _ _ hS111 _ hq2) ?_
     rintro _ w22 ⟨v12,rfl,hS110⟩
     refine ⟨_,rfl,?_⟩
     have hS112:=hS110.unpack [Own.blk b4 (.cells #[v12] 23 (0,0)),Own.blk b7 (.cells #[vI (m2.length:Int)] 3 (0,0)),Own.of v12 3 r2]
     refine g2 hKK ?_
     have hS122:=(((((((((hS112.b 9).b 9).b 9).b 5).b 9).b 9).b 9).b 7).b 9).takeN 9
     obtain rfl:=si h
     exact go_fin3 fun a hF=>hQ _ _ _ (Outs.again ⟨v12,(.slice Z5 m4.length cz5),hS122,hF.weaken ea⟩)
    exact go_nomore3
   rw [if_neg hc19] at h
   cases h
  rw [if_neg hc18] at h
  cases h
 rw [if_neg hc17] at h
 refine wk 98 (e1.Op==5) false (beq_eq_false_iff_ne.2 hc17) ?_
 refine we_false (by kernel_rfl) ?_
 refine ws fun K26 hK26=>wr [(0,0),(1,0)]<|gb0 [0,1] [(113,.bool (e1.Op==6)),(114,.bool (e1.Op==6))] ?_
 refine gn hK26 ?_
 by_cases hc20:e1.Op=6
 ·rw [if_pos hc20] at h
  refine wk 113 (e1.Op==6) true (beq_iff_eq.2 hc20) ?_
  refine we_true (by kernel_rfl) ?_
  refine we_orders3 (by kernel_rfl) [(1,[⟨b4,0,none⟩],[4,5,11,12],[]),(2,[⟨b7,0,none⟩],[3,4,5,11,12],[]),(5,[⟨blkOf Z4,offOf Z4+((IntKind.i64.wrap ((m2.length:Int)-2)).toNat)*1,none⟩],[11,12],[]),(6,[⟨b4,0,none⟩],[9,10,11,12],[]),(7,[⟨b7,0,none⟩],[8,9,10,11,12],[]),(10,[⟨blkOf Z4,offOf Z4+((IntKind.i64.wrap ((m2.length:Int)-1)).toNat)*1,none⟩],[11,12],[])] (.vals [0] (.vals [1] (.vals [2] (.vals [3] (.vals [4] (.vals [5] (.vals [6] (.vals [7] (.vals [8] (.vals [9] (.vals [10] (.vals [11] (.alt 12 2 .fin .nomore))))))))))))) (by kernel_rfl) (by kernel_rfl) ?_
  have hS123:=hS.drew
  refine g30 [0] [(115,.func (.func 27) #[] #[pP b4 0,pP b7 0])] ?_
  refine g3 1 [(116,(.slice Z4 m2.length cz4))] [.loaded ⟨b4,0,none⟩ ((.slice Z4 m2.length cz4))] ⟨hS123.c 2,trivial⟩ ?_
  refine g3 2 [(117,vI (m2.length:Int))] [.loaded ⟨b7,0,none⟩ (vI (m2.length:Int))] ⟨hS123.c 0,trivial⟩ ?_
  refine g30 [3] [(118,vI (IntKind.i64.wrap ((m2.length:Int)-2)))] ?_
  by_cases hc21:0≤(IntKind.i64.wrap ((m2.length:Int)-2))
  ·rw [if_pos hc21] at h
   rcases hx18:m2[(IntKind.i64.wrap ((m2.length:Int)-2)).toNat]? with _ | e9
   ·rw [hx18] at h; cases h
   rw [hx18] at h
   simp only [] at h
   refine go3_index (d:=119) (ty:=0) (t:=23) (el:=3) (sz:=1) (m:=m2.length) (c:=cz4) (x:=(.tmp 116)) (y:=(.tmp 118)) (A:=Z4) (k':=.i64) (j:=(IntKind.i64.wrap ((m2.length:Int)-2))) (jn:=((IntKind.i64.wrap ((m2.length:Int)-2)).toNat)) (b0:=blkOf Z4) (o0:=offOf Z4) (by kernel_rfl) (by kernel_rfl) (by kernel_rfl) (by kernel_rfl) (by kernel_rfl) ((hS123.rdAt 6 rfl).eqSome (pos_of_get hx18)) (Int.toNat_of_nonneg hc21).symm (lt_of_get hx18) ?_
   refine g3 5 [(120,vI e9)] [.loaded ⟨blkOf Z4,offOf Z4+((IntKind.i64.wrap ((m2.length:Int)-2)).toNat)*1,none⟩ (vI e9)] ⟨RdL.cell (j:=0) (hS123.rdAt 6 rfl) hx18 rfl,trivial⟩ ?_
   refine g3 6 [(121,(.slice Z4 m2.length cz4))] [.loaded ⟨b4,0,none⟩ ((.slice Z4 m2.length cz4))] ⟨hS123.c 2,trivial⟩ ?_
   refine g3 7 [(122,vI (m2.length:Int))] [.loaded ⟨b7,0,none⟩ (vI (m2.length:Int))] ⟨hS123.c 0,trivial⟩ ?_
   refine g30 [8] [(123,vI (IntKind.i64.wrap ((m2.length:Int)-1)))] ?_
   by_cases hc22:0≤(IntKind.i64.wrap ((m2.length:Int)-1))
   ·rw [if_pos hc22] at h
    rcases hx19:m2[(IntKind.i64.wrap ((m2.length:Int)-1)).toNat]? with _ | e10
    ·rw [hx19] at h; cases h
    rw [hx19] at h
    simp only [] at h
    refine go3_index (d:=124) (ty:=0) (t:=23) (el:=3) (sz:=1) (m:=m2.length) (c:=cz4) (x:=(.tmp 121)) (y:=(.tmp 123)) (A:=Z4) (k':=.i64) (j:=(IntKind.i64.wrap ((m2.length:Int)-1))) (jn:=((IntKind.i64.wrap ((m2.length:Int)-1)).toNat)) (b0:=blkOf Z4) (o0:=offOf Z4) (by kernel_rfl) (by kernel_rfl) (by kernel_rfl) (by kernel_rfl) (by kernel_rfl) ((hS123.rdAt 6 rfl).eqSome (pos_of_get hx19)) (Int.toNat_of_nonneg hc22).symm (lt_of_get hx19) ?_
    refine g3 10 [(125,vI e10)] [.loaded ⟨blkOf Z4,offOf Z4+((IntKind.i64.wrap ((m2.length:Int)-1)).toNat)*1,none⟩ (vI e10)] ⟨RdL.cell (j:=0) (hS123.rdAt 6 rfl) hx19 rfl,trivial⟩ ?_
    refine g30 [11] [(126,vI (IntKind.i64.wrap (e9*e10)))] ?_
    refine go_alt3 (fun KK hKK=>?_) ?_
    ·rcases hq3:punctualref_Steps_1.f (IntKind.i64.wrap (e9*e10)) m2 (m2.length:Int) with _ | r3
     ·rw [hq3] at h; cases h
     rw [hq3] at h
     simp only [] at h
     have hS128:=(((hS123.b 6).b 1).b 3).packN 3
     refine ge_call2 (m:=0) (d:=some 127) (f:=27) (args:=#[vI (IntKind.i64.wrap (e9*e10)),pP b4 0,pP b7 0]) (by kernel_rfl) (punctualref_Steps_1_ok (IntKind.i64.wrap (e9*e10)) b4 m2 Z4 cz4 b7 (m2.length:Int) _ _ _ hS128 _ hq3) ?_
     rintro _ w23 ⟨v13,rfl,hS127⟩
     refine ⟨_,rfl,?_⟩
     have hS129:=hS127.unpack [Own.blk b4 (.cells #[v13] 23 (0,0)),Own.blk b7 (.cells #[vI (m2.length:Int)] 3 (0,0)),Own.of v13 3 r3]
     refine g2 hKK ?_
     have hS139:=(((((((((hS129.b 9).b 9).b 9).b 5).b 9).b 9).b 9).b 7).b 9).takeN 9
     obtain rfl:=si h
     exact go_fin3 fun a hF=>hQ _ _ _ (Outs.again ⟨v13,(.slice Z5 m4.length cz5),hS139,hF.weaken ea⟩)
    exact go_nomore3
   rw [if_neg hc22] at h
   cases h
  rw [if_neg hc21] at h
  cases h
 rw [if_neg hc20] at h
 refine wk 113 (e1.Op==6) false (beq_eq_false_iff_ne.2 hc20) ?_
 refine we_false (by kernel_rfl) ?_
 refine ws fun K27 hK27=>wr [(0,0),(1,0)]<|gb0 [0,1] [(128,.bool (e1.Op==7)),(129,.bool (e1.Op==7))] ?_
 refine gn hK27 ?_
 by_cases hc23:e1.Op=7
 ·rw [if_pos hc23] at h
  refine wk 128 (e1.Op==7) true (beq_iff_eq.2 hc23) ?_
  refine we_true (by kernel_rfl) ?_
  refine we_orders3 (by kernel_rfl) [(2,[⟨b4,0,none⟩],[5,6,12,13,14],[]),(3,[⟨b7,0,none⟩],[4,5,6,12,13,14],[]),(6,[⟨blkOf Z4,offOf Z4+((IntKind.i64.wrap ((m2.length:Int)-2)).toNat)*1,none⟩],[12,13,14],[]),(7,[⟨b4,0,none⟩],[10,11,12,13,14],[]),(8,[⟨b7,0,none⟩],[9,10,11,12,13,14],[]),(11,[⟨blkOf Z4,offOf Z4+((IntKind.i64.wrap ((m2.length:Int)-1)).toNat)*1,none⟩],[12,13,14],[])] (.vals [0] (.vals [1] (.vals [2] (.vals [3] (.vals [4] (.vals [5] (.vals [6] (.vals [7] (.vals [8] (.vals [9] (.vals [10] (.vals [11] (.vals [12] (.alt 13 1 (.alt 14 2 .fin .nomore) .nomore)))))))))))))) (by kernel_rfl) (by kernel_rfl) ?_
  have hS140:=hS.drew
  refine g30 [0,1] [(131,.func (.func 28) #[] #[]),(130,.func (.func 27) #[] #[pP b4 0,pP b7 0])] ?_
  refine g3 2 [(132,(.slice Z4 m2.length cz4))] [.loaded ⟨b4,0,none⟩ ((.slice Z4 m2.length cz4))] ⟨hS140.c 2,trivial⟩ ?_
  refine g3 3 [(133,vI (m2.length:Int))] [.loaded ⟨b7,0,none⟩ (vI (m2.length:Int))] ⟨hS140.c 0,trivial⟩ ?_
  refine g30 [4] [(134,vI (IntKind.i64.wrap ((m2.length:Int)-2)))] ?_
  by_cases hc24:0≤(IntKind.i64.wrap ((m2.length:Int)-2))
  ·rw [if_pos hc24] at h
   rcases hx20:m2[(IntKind.i64.wrap ((m2.length:Int)-2)).toNat]? with _ | e11
   ·rw [hx20] at h; cases h
   rw [hx20] at h
   simp only [] at h
   refine go3_index (d:=135) (ty:=0) (t:=23) (el:=3) (sz:=1) (m:=m2.length) (c:=cz4) (x:=(.tmp 132)) (y:=(.tmp 134)) (A:=Z4) (k':=.i64) (j:=(IntKind.i64.wrap ((m2.length:Int)-2))) (jn:=((IntKind.i64.wrap ((m2.length:Int)-2)).toNat)) (b0:=blkOf Z4) (o0:=offOf Z4) (by kernel_rfl) (by kernel_rfl) (by kernel_rfl) (by kernel_rfl) (by kernel_rfl) ((hS140.rdAt 6 rfl).eqSome (pos_of_get hx20)) (Int.toNat_of_nonneg hc24).symm (lt_of_get hx20) ?_
   refine g3 6 [(136,vI e11)] [.loaded ⟨blkOf Z4,offOf Z4+((IntKind.i64.wrap ((m2.length:Int)-2)).toNat)*1,none⟩ (vI e11)] ⟨RdL.cell (j:=0) (hS140.rdAt 6 rfl) hx20 rfl,trivial⟩ ?_
   refine g3 7 [(137,(.slice Z4 m2.length cz4))] [.loaded ⟨b4,0,none⟩ ((.slice Z4 m2.length cz4))] ⟨hS140.c 2,trivial⟩ ?_
   refine g3 8 [(138,vI (m2.length:Int))] [.loaded ⟨b7,0,none⟩ (vI (m2.length:Int))] ⟨hS140.c 0,trivial⟩ ?_
   refine g30 [9] [(139,vI (IntKind.i64.wrap ((m2.length:Int)-1)))] ?_
   by_cases hc25:0≤(IntKind.i64.wrap ((m2.length:Int)-1))
   ·rw [if_pos hc25] at h
    rcases hx21:m2[(IntKind.i64.wrap ((m2.length:Int)-1)).toNat]? with _ | e12
    ·rw [hx21] at h; cases h
    rw [hx21] at h
    simp only [] at h
    refine go3_index (d:=140) (ty:=0) (t:=23) (el:=3) (sz:=1) (m:=m2.length) (c:=cz4) (x:=(.tmp 137)) (y:=(.tmp 139)) (A:=Z4) (k':=.i64) (j:=(IntKind.i64.wrap ((m2.length:Int)-1))) (jn:=((IntKind.i64.wrap ((m2.length:Int)-1)).toNat)) (b0:=blkOf Z4) (o0:=offOf Z4) (by kernel_rfl) (by kernel_rfl) (by kernel_rfl) (by kernel_rfl) (by kernel_rfl) ((hS140.rdAt 6 rfl).eqSome (pos_of_get hx21)) (Int.toNat_of_nonneg hc25).symm (lt_of_get hx21) ?_
    refine g3 11 [(141,vI e12)] [.loaded ⟨blkOf Z4,offOf Z4+((IntKind.i64.wrap ((m2.length:Int)-1)).toNat)*1,none⟩ (vI e12)] ⟨RdL.cell (j:=0) (hS140.rdAt 6 rfl) hx21 rfl,trivial⟩ ?_
    refine g30 [12] [(142,.bool (decide (e11<e12)))] ?_
    refine go_alt3 (fun KK hKK=>?_) ?_
    ·refine ge_one2<|ge_call (d:=some 143) (f:=28) (args:=#[.bool (decide (e11<e12))]) (by kernel_rfl) (punctualref_Steps_2_ok (decide (e11<e12)) _ _ rfl) ?_
     rintro _ w24 ⟨rfl,hS141⟩
     refine ⟨_,rfl,hS141.below,?_⟩
     have hS142:=hS140.call hS141
     refine g2 hKK<|go_alt3 (fun KK hKK=>?_) ?_
     ·rcases hq5:punctualref_Steps_1.f (punctualref_Steps_2.f (decide (e11<e12))) m2 (m2.length:Int) with _ | r4
      ·rw [hq5] at h; cases h
      rw [hq5] at h
      simp only [] at h
      have hS147:=(((hS142.b 6).b 1).b 3).packN 3
      refine ge_call2 (m:=0) (d:=some 144) (f:=27) (args:=#[vI (punctualref_Steps_2.f (decide (e11<e12))),pP b4 0,pP b7 0]) (by kernel_rfl) (punctualref_Steps_1_ok (punctualref_Steps_2.f (decide (e11<e12))) b4 m2 Z4 cz4 b7 (m2.length:Int) _ _ _ hS147 _ hq5) ?_
      rintro _ w25 ⟨v14,rfl,hS146⟩
      refine ⟨_,rfl,?_⟩
      have hS148:=hS146.unpack [Own.blk b4 (.cells #[v14] 23 (0,0)),Own.blk b7 (.cells #[vI (m2.length:Int)] 3 (0,0)),Own.of v14 3 r4]
      refine g2 hKK ?_
      have hS158:=(((((((((hS148.b 9).b 9).b 9).b 5).b 9).b 9).b 9).b 7).b 9).takeN 9
      obtain rfl:=si h
      exact go_fin3 fun a hF=>hQ _ _ _ (Outs.again ⟨v14,(.slice Z5 m4.length cz5),hS158,hF.weaken ea⟩)
     exact go_nomore3
    exact go_nomore3
   rw [if_neg hc25] at h
   cases h
  rw [if_neg hc24] at h
  cases h
 rw [if_neg hc23] at h
 refine wk 128 (e1.Op==7) false (beq_eq_false_iff_ne.2 hc23) ?_
 refine we_false (by kernel_rfl) ?_
 refine ws fun K28 hK28=>wr [(0,0),(1,0)]<|gb0 [0,1] [(145,.bool (e1.Op==8)),(146,.bool (e1.Op==8))] ?_
 refine gn hK28 ?_
 by_cases hc26:e1.Op=8
 ·rw [if_pos hc26] at h
  refine wk 145 (e1.Op==8) true (beq_iff_eq.2 hc26) ?_
  refine we_true (by kernel_rfl) ?_
  refine we_orders3 (by kernel_rfl) [(2,[⟨b4,0,none⟩],[5,6,12,13,14],[]),(3,[⟨b7,0,none⟩],[4,5,6,12,13,14],[]),(6,[⟨blkOf Z4,offOf Z4+((IntKind.i64.wrap ((m2.length:Int)-2)).toNat)*1,none⟩],[12,13,14],[]),(7,[⟨b4,0,none⟩],[10,11,12,13,14],[]),(8,[⟨b7,0,none⟩],[9,10,11,12,13,14],[]),(11,[⟨blkOf Z4,offOf Z4+((IntKind.i64.wrap ((m2.length:Int)-1)).toNat)*1,none⟩],[12,13,14],[])] (.vals [0] (.vals [1] (.vals [2] (.vals [3] (.vals [4] (.vals [5] (.vals [6] (.vals [7] (.vals [8] (.vals [9] (.vals [10] (.vals [11] (.vals [12] (.alt 13 1 (.alt 14 2 .fin .nomore) .nomore)))))))))))))) (by kernel_rfl) (by kernel_rfl) ?_
  have hS159:=hS.drew
  refine g30 [0,1] [(148,.func (.func 28) #[] #[]),(147,.func (.func 27) #[] #[pP b4 0,pP b7 0])] ?_
  refine g3 2 [(149,(.slice Z4 m2.length cz4))] [.loaded ⟨b4,0,none⟩ ((.slice Z4 m2.length cz4))] ⟨hS159.c 2,trivial⟩ ?_
  refine g3 3 [(150,vI (m2.length:Int))] [.loaded ⟨b7,0,none⟩ (vI (m2.length:Int))] ⟨hS159.c 0,trivial⟩ ?_
  refine g30 [4] [(151,vI (IntKind.i64.wrap ((m2.length:Int)-2)))] ?_
  by_cases hc27:0≤(IntKind.i64.wrap ((m2.length:Int)-2))
  ·rw [if_pos hc27] at h
   rcases hx22:m2[(IntKind.i64.wrap ((m2.length:Int)-2)).toNat]? with _ | e13
   ·rw [hx22] at h; cases h
   rw [hx22] at h
   simp only [] at h
   refine go3_index (d:=152) (ty:=0) (t:=23) (el:=3) (sz:=1) (m:=m2.length) (c:=cz4) (x:=(.tmp 149)) (y:=(.tmp 151)) (A:=Z4) (k':=.i64) (j:=(IntKind.i64.wrap ((m2.length:Int)-2))) (jn:=((IntKind.i64.wrap ((m2.length:Int)-2)).toNat)) (b0:=blkOf Z4) (o0:=offOf Z4) (by kernel_rfl) (by kernel_rfl) (by kernel_rfl) (by kernel_rfl) (by kernel_rfl) ((hS159.rdAt 6 rfl).eqSome (pos_of_get hx22)) (Int.toNat_of_nonneg hc27).symm (lt_of_get hx22) ?_
   refine g3 6 [(153,vI e13)] [.loaded ⟨blkOf Z4,offOf Z4+((IntKind.i64.wrap ((m2.length:Int)-2)).toNat)*1,none⟩ (vI e13)] ⟨RdL.cell (j:=0) (hS159.rdAt 6 rfl) hx22 rfl,trivial⟩ ?_
   refine g3 7 [(154,(.slice Z4 m2.length cz4))] [.loaded ⟨b4,0,none⟩ ((.slice Z4 m2.length cz4))] ⟨hS159.c 2,trivial⟩ ?_
   refine g3 8 [(155,vI (m2.length:Int))] [.loaded ⟨b7,0,none⟩ (vI (m2.length:Int))] ⟨hS159.c 0,trivial⟩ ?_
   refine g30 [9] [(156,vI (IntKind.i64.wrap ((m2.length:Int)-1)))] ?_
   by_cases hc28:0≤(IntKind.i64.wrap ((m2.length:Int)-1))
   ·rw [if_pos hc28] at h
    rcases hx23:m2[(IntKind.i64.wrap ((m2.length:Int)-1)).toNat]? with _ | e14
    ·rw [hx23] at h; cases h
    rw [hx23] at h
    simp only [] at h
    refine go3_index (d:=157) (ty:=0) (t:=23) (el:=3) (sz:=1) (m:=m2.length) (c:=cz4) (x:=(.tmp 154)) (y:=(.tmp 156)) (A:=Z4) (k':=.i64) (j:=(IntKind.i64.wrap ((m2.length:Int)-1))) (jn:=((IntKind.i64.wrap ((m2.length:Int)-1)).toNat)) (b0:=blkOf Z4) (o0:=offOf Z4) (by kernel_rfl) (by kernel_rfl) (by kernel_rfl) (by kernel_rfl) (by kernel_rfl) ((hS159.rdAt 6 rfl).eqSome (pos_of_get hx23)) (Int.toNat_of_nonneg hc28).symm (lt_of_get hx23) ?_
    refine g3 11 [(158,vI e14)] [.loaded ⟨blkOf Z4,offOf Z4+((IntKind.i64.wrap ((m2.length:Int)-1)).toNat)*1,none⟩ (vI e14)] ⟨RdL.cell (j:=0) (hS159.rdAt 6 rfl) hx23 rfl,trivial⟩ ?_
    refine g30 [12] [(159,.bool (e13==e14))] ?_
    refine go_alt3 (fun KK hKK=>?_) ?_
    ·refine ge_one2<|ge_call (d:=some 160) (f:=28) (args:=#[.bool (e13==e14)]) (by kernel_rfl) (punctualref_Steps_2_ok (e13==e14) _ _ rfl) ?_
     rintro _ w26 ⟨rfl,hS160⟩
     refine ⟨_,rfl,hS160.below,?_⟩
     have hS161:=hS159.call hS160
     refine g2 hKK<|go_alt3 (fun KK hKK=>?_) ?_
     ·rcases hq7:punctualref_Steps_1.f (punctualref_Steps_2.f (e13==e14)) m2 (m2.length:Int) with _ | r5
      ·rw [hq7] at h; cases h
      rw [hq7] at h
      simp only [] at h
      have hS166:=(((hS161.b 6).b 1).b 3).packN 3
      refine ge_call2 (m:=0) (d:=some 161) (f:=27) (args:=#[vI (punctualref_Steps_2.f (e13==e14)),pP b4 0,pP b7 0]) (by kernel_rfl) (punctualref_Steps_1_ok (punctualref_Steps_2.f (e13==e14)) b4 m2 Z4 cz4 b7 (m2.length:Int) _ _ _ hS166 _ hq7) ?_
      rintro _ w27 ⟨v15,rfl,hS165⟩
      refine ⟨_,rfl,?_⟩
      have hS167:=hS165.unpack [Own.blk b4 (.cells #[v15] 23 (0,0)),Own.blk b7 (.cells #[vI (m2.length:Int)] 3 (0,0)),Own.of v15 3 r5]
      refine g2 hKK ?_
      have hS177:=(((((((((hS167.b 9).b 9).b 9).b 5).b 9).b 9).b 9).b 7).b 9).takeN 9
      obtain rfl:=si h
      exact go_fin3 fun a hF=>hQ _ _ _ (Outs.again ⟨v15,(.slice Z5 m4.length cz5),hS177,hF.weaken ea⟩)
     exact go_nomore3
    exact go_nomore3
   rw [if_neg hc28] at h
   cases h
  rw [if_neg hc27] at h
  cases h
 rw [if_neg hc26] at h
 refine wk 145 (e1.Op==8) false (beq_eq_false_iff_ne.2 hc26) ?_
 refine we_false (by kernel_rfl) ?_
 refine ws fun K29 hK29=>wr [(0,0),(1,0)]<|gb0 [0,1] [(162,.bool (e1.Op==9)),(163,.bool (e1.Op==9))] ?_
 refine gn hK29 ?_
 by_cases hc29:e1.Op=9
 ·rw [if_pos hc29] at h
  refine wk 162 (e1.Op==9) true (beq_iff_eq.2 hc29) ?_
  refine we_true (by kernel_rfl) ?_
  refine we_orders3 (by kernel_rfl) [(0,[⟨b4,0,none⟩],[],[]),(3,[⟨b6,1,none⟩],[4,5,6,7],[]),(5,[⟨blkOf A2,offOf A2+((e1.A).toNat)*1,none⟩],[6,7],[])] (.vals [0] (.vals [1] (.vals [2] (.vals [3] (.vals [4] (.vals [5] (.alt 6 1 (.alt 7 2 (.alt 8 2 .fin .nomore) .nomore) .nomore))))))) (by kernel_rfl) (by kernel_rfl) ?_
  have hS178:=hS.drew
  refine g3 0 [(164,(.slice Z4 m2.length cz4))] [.loaded ⟨b4,0,none⟩ ((.slice Z4 m2.length cz4))] ⟨hS178.c 2,trivial⟩ ?_
  refine g30 [1,2] [(166,pP b6 1),(165,.slice A2 l2.length c2)] ?_
  refine g3 3 [(167,vI e1.A)] [.loaded ⟨b6,1,none⟩ (vI e1.A)] ⟨hS178.c 1,trivial⟩ ?_
  by_cases hc30:0≤e1.A
  ·rw [if_pos hc30] at h
   rcases hx24:l2[(e1.A).toNat]? with _ | e15
   ·rw [hx24] at h; cases h
   rw [hx24] at h
   simp only [] at h
   refine go3_index (d:=168) (ty:=0) (t:=23) (el:=3) (sz:=1) (m:=l2.length) (c:=c2) (x:=(.tmp 165)) (y:=(.tmp 167)) (A:=A2) (k':=.i64) (j:=e1.A) (jn:=((e1.A).toNat)) (b0:=blkOf A2) (o0:=offOf A2) (by kernel_rfl) (by kernel_rfl) (by kernel_rfl) (by kernel_rfl) (by kernel_rfl) ((hS178.rd hR2).eqSome (pos_of_get hx24)) (Int.toNat_of_nonneg hc30).symm (lt_of_get hx24) ?_
   refine g3 5 [(169,vI e15)] [.loaded ⟨blkOf A2,offOf A2+((e1.A).toNat)*1,none⟩ (vI e15)] ⟨RdL.cell (j:=0) (hS178.rd hR2) hx24 rfl,trivial⟩ ?_
   refine go_alt3 (fun KK hKK=>?_) ?_
   ·refine ge_one2<|gw (some 170) (.cells #[vI e15] 3) (fun b=>.slice (some ⟨b,0,none⟩) 1 1) hS178 fun b10 w28 hx25 hS179=>?_
    refine ge_nil fun a hF=>hKK _ _ (RS.of2 (l:=[.loaded ⟨b4,0,none⟩ ((.slice Z4 m2.length cz4))]) (by kernel_rfl) ⟨hS178.c 2,trivial⟩ ⟨hS179.c 3,trivial⟩) ?_ a hF
    refine go_alt3 (fun KK hKK=>?_) ?_
    ·have hS180:=hS179.b 7
     by_cases hc31:m2.length<17592186044416
     ·rw [if_pos hc31] at h
      refine ge_append (α:=Int) (m:=0) (d:=171) (t:=23) (el:=3) (bytes:=8) (c1:=1) (b1:=b10) (x:=(.tmp 164)) (y:=(.tmp 170)) (ty:=23) (v:=(.slice Z4 m2.length cz4)) (z:=vI 0) (l:=m2) (u:=e15) (by kernel_rfl) (by kernel_rfl) (by kernel_rfl) (by kernel_rfl) (by kernel_rfl) rfl hS180 rfl (by omega) fun v16 w29 hS181=>?_
      refine g2 hKK<|go_alt3 (fun KK hKK=>?_) ?_
      ·obtain ⟨Z8,cz8,rfl⟩:=hS181.open 0 rfl
       have hS182:=hS181.b 3
       refine gs b4 0 #[(.slice Z4 m2.length cz4)] 23 [(.slice Z8 (m2++[e15]).length cz8)] hS182 fun w30 hS183=>?_
       have hS184:=hS183.nc #[(.slice Z8 (m2++[e15]).length cz8)] rfl
       refine g2 hKK ?_
       have hS194:=(((((((((hS184.b 9).b 9).b 9).b 4).b 9).b 9).b 9).b 7).b 9).takeN 9
       obtain rfl:=si h
       exact go_fin3 fun a hF=>hQ _ _ _ (Outs.again ⟨(.slice Z8 (m2++[e15]).length cz8),(.slice Z5 m4.length cz5),hS194,hF.weaken ea⟩)
      exact go_nomore3
     rw [if_neg hc31] at h
     cases h
    exact go_nomore3
   exact go_nomore3
  rw [if_neg hc30] at h
  cases h
 rw [if_neg hc29] at h
 refine wk 162 (e1.Op==9) false (beq_eq_false_iff_ne.2 hc29) ?_
 refine we_false (by kernel_rfl) ?_
 refine ws fun K30 hK30=>wr [(0,0),(1,0)]<|gb0 [0,1] [(172,.bool (e1.Op==10)),(173,.bool (e1.Op==10))] ?_
 refine gn hK30 ?_
 by_cases hc32:e1.Op=10
 ·rw [if_pos hc32] at h
  refine wk 172 (e1.Op==10) true (beq_iff_eq.2 hc32) ?_
  refine we_true (by kernel_rfl) ?_
  refine ws fun K31 hK31=>we_orders3 (by kernel_rfl) [(1,[⟨b3,1,none⟩],[],[]),(3,[⟨b6,1,none⟩],[9,10,11],[]),(4,[⟨b4,0,none⟩],[7,8,9,10,11],[]),(5,[⟨b7,0,none⟩],[6,7,8,9,10,11],[]),(8,[⟨blkOf Z4,offOf Z4+((IntKind.i64.wrap ((m2.length:Int)-1)).toNat)*1,none⟩],[9,10,11],[])] (.vals [0] (.vals [1] (.vals [2] (.vals [3] (.vals [4] (.vals [5] (.vals [6] (.vals [7] (.vals [8] (.vals [9] (.alt 10 1 (.alt 11 2 (.vals [12] (.alt 13 2 .fin .nomore)) .nomore) .nomore))))))))))) (by kernel_rfl) (by kernel_rfl) ?_
  have hS195:=hS.drew
  refine g30 [0] [(174,pP b3 1)] ?_
  refine g3 1 [(175,(.slice Z5 m4.length cz5))] [.loaded ⟨b3,1,none⟩ ((.slice Z5 m4.length cz5))] ⟨hS195.c 3,trivial⟩ ?_
  refine g30 [2] [(176,pP b6 1)] ?_
  refine g3 3 [(177,vI e1.A)] [.loaded ⟨b6,1,none⟩ (vI e1.A)] ⟨hS195.c 1,trivial⟩ ?_
  refine g3 4 [(178,(.slice Z4 m2.length cz4))] [.loaded ⟨b4,0,none⟩ ((.slice Z4 m2.length cz4))] ⟨hS195.c 2,trivial⟩ ?_
  refine g3 5 [(179,vI (m2.length:Int))] [.loaded ⟨b7,0,none⟩ (vI (m2.length:Int))] ⟨hS195.c 0,trivial⟩ ?_
  refine g30 [6] [(180,vI (IntKind.i64.wrap ((m2.length:Int)-1)))] ?_
  by_cases hc33:0≤(IntKind.i64.wrap ((m2.length:Int)-1))
  ·rw [if_pos hc33] at h
   rcases hx26:m2[(IntKind.i64.wrap ((m2.length:Int)-1)).toNat]? with _ | e16
   ·rw [hx26] at h; cases h
   rw [hx26] at h
   simp only [] at h
   refine go3_index (d:=181) (ty:=0) (t:=23) (el:=3) (sz:=1) (m:=m2.length) (c:=cz4) (x:=(.tmp 178)) (y:=(.tmp 180)) (A:=Z4) (k':=.i64) (j:=(IntKind.i64.wrap ((m2.length:Int)-1))) (jn:=((IntKind.i64.wrap ((m2.length:Int)-1)).toNat)) (b0:=blkOf Z4) (o0:=offOf Z4) (by kernel_rfl) (by kernel_rfl) (by kernel_rfl) (by kernel_rfl) (by kernel_rfl) ((hS195.rdAt 6 rfl).eqSome (pos_of_get hx26)) (Int.toNat_of_nonneg hc33).symm (lt_of_get hx26) ?_
   refine g3 8 [(182,vI e16)] [.loaded ⟨blkOf Z4,offOf Z4+((IntKind.i64.wrap ((m2.length:Int)-1)).toNat)*1,none⟩ (vI e16)] ⟨RdL.cell (j:=0) (hS195.rdAt 6 rfl) hx26 rfl,trivial⟩ ?_
   refine g30 [9] [(183,.agg #[vI e1.A,vI e16])] ?_
   refine go_alt3 (fun KK hKK=>?_) ?_
   ·refine ge_one2<|gw (some 184) (.cells #[vI e1.A,vI e16] 43) (fun b=>.slice (some ⟨b,0,none⟩) 1 1) hS195 fun b11 w31 hx27 hS196=>?_
    refine ge_nil fun a hF=>hKK _ _ (RS.of2 (l:=[.loaded ⟨b3,1,none⟩ ((.slice Z5 m4.length cz5))]) (by kernel_rfl) ⟨hS195.c 3,trivial⟩ ⟨hS196.c 4,trivial⟩) ?_ a hF
    refine go_alt3 (fun KK hKK=>?_) ?_
    ·have hS197:=hS196.b 9
     by_cases hc34:m4.length<8796093022208
     ·rw [if_pos hc34] at h
      refine ge_append (α:=SPut) (m:=0) (d:=185) (t:=25) (el:=43) (bytes:=16) (c1:=1) (b1:=b11) (x:=(.tmp 175)) (y:=(.tmp 184)) (ty:=25) (v:=(.slice Z5 m4.length cz5)) (z:=.agg #[vI 0,vI 0]) (l:=m4) (u:=(⟨e1.A,e16⟩:SPut)) (by kernel_rfl) (by kernel_rfl) (by kernel_rfl) (by kernel_rfl) (by kernel_rfl) rfl hS197 rfl (by omega) fun v17 w32 hS198=>?_
      refine g2 hKK<|g30 [12] [(186,pP b3 1)] ?_
      refine go_alt3 (fun KK hKK=>?_) ?_
      ·obtain ⟨Z9,cz9,rfl⟩:=hS198.open 0 rfl
       have hS199:=hS198.b 4
       refine gs b3 1 #[(.slice Z1 m3.length cz1),(.slice Z5 m4.length cz5),vI z2] 27 [(.slice Z9 (m4++[(⟨e1.A,e16⟩:SPut)]).length cz9)] hS199 fun w33 hS200=>?_
       have hS201:=hS200.nc #[(.slice Z1 m3.length cz1),(.slice Z9 (m4++[(⟨e1.A,e16⟩:SPut)]).length cz9),vI z2] rfl
       refine g2 hKK<|go_fin3 fun a hF=>hK31 _ _ ?_ a hF
       refine wr [(0,0),(1,0),(2,0),(3,0),(4,2)]<|gb [0,1,2] [(189,vI (IntKind.i64.wrap ((m2.length:Int)-1))),(188,vI (m2.length:Int)),(187,(.slice Z4 m2.length cz4))] [.loaded ⟨b4,0,none⟩ ((.slice Z4 m2.length cz4)),.loaded ⟨b7,0,none⟩ (vI (m2.length:Int))] ⟨hS201.c 4,hS201.c 2,trivial⟩ ?_
       by_cases hc35:((IntKind.i64.wrap ((m2.length:Int)-1)).toNat)≤m2.length
       ·rw [if_pos hc35] at h
        refine ge_sliceHi (d:=190) (ty:=23) (t:=23) (el:=3) (sz:=1) (m:=m2.length) (c:=cz4) (hn:=((IntKind.i64.wrap ((m2.length:Int)-1)).toNat)) (x:=(.tmp 187)) (y:=(.tmp 189)) (A:=Z4) (k':=.i64) (hi:=(IntKind.i64.wrap ((m2.length:Int)-1))) (by kernel_rfl) (by kernel_rfl) (by kernel_rfl) (Int.toNat_of_nonneg hc33).symm (by kernel_rfl) (by kernel_rfl) (by have f0:=hc35; have f1:=(hS201.capAt 7 rfl); omega) ?_
        refine ge_same (t:=190) (v:=.slice Z4 ((IntKind.i64.wrap ((m2.length:Int)-1)).toNat) cz4) (v':=.slice Z4 ((m2.take ((IntKind.i64.wrap ((m2.length:Int)-1)).toNat)).length) cz4) (by kernel_rfl) (congrArg (fun z=>Value.slice Z4 z cz4) (show (IntKind.i64.wrap ((m2.length:Int)-1)).toNat=(m2.take ((IntKind.i64.wrap ((m2.length:Int)-1)).toNat)).length by have f0:=hc35; have f1:=(hS201.capAt 7 rfl); simp only [List.length_take]; omega)) ?_
        have hS202:=hS201.b 4
        refine gs b4 0 #[(.slice Z4 m2.length cz4)] 23 [.slice Z4 ((m2.take ((IntKind.i64.wrap ((m2.length:Int)-1)).toNat)).length) cz4] hS202 fun w34 hS203=>?_
        have hS216:=((((((((((((hS203.nc #[.slice Z4 ((m2.take ((IntKind.i64.wrap ((m2.length:Int)-1)).toNat)).length) cz4] rfl).b 7).shrink ((IntKind.i64.wrap ((m2.length:Int)-1)).toNat)).b 9).b 4).b 9).b 3).b 9).b 9).b 7).b 7).b 9).takeN 9
        obtain rfl:=si h
        exact ge_nil fun a hF=>hQ _ _ _ (Outs.again ⟨(.slice Z4 (m2.take ((IntKind.i64.wrap ((m2.length:Int)-1)).toNat)).length cz4),(.slice Z9 (m4++[(⟨e1.A,e16⟩:SPut)]).length cz9),hS216,hF.weaken ea⟩)
       rw [if_neg hc35] at h
       cases h
      exact go_nomore3
     rw [if_neg hc34] at h
     cases h
    exact go_nomore3
   exact go_nomore3
  rw [if_neg hc33] at h
  cases h
 rw [if_neg hc32] at h
 refine wk 172 (e1.Op==10) false (beq_eq_false_iff_ne.2 hc32) ?_
 refine we_false (by kernel_rfl) ?_
 refine ws fun K32 hK32=>wr [(0,0),(1,0)]<|gb0 [0,1] [(191,.bool (e1.Op==11)),(192,.bool (e1.Op==11))] ?_
 refine gn hK32 ?_
 by_cases hc36:e1.Op=11
 ·rw [if_pos hc36] at h
  refine wk 191 (e1.Op==11) true (beq_iff_eq.2 hc36) ?_
  refine we_true (by kernel_rfl) ?_
  refine wr [(0,0),(1,0),(2,0)]<|gb [0,1,2] [(17,vI e1.A),(194,vI e1.A),(193,pP b6 1)] [.loaded ⟨b6,1,none⟩ (vI e1.A)] ⟨hS.c 1,trivial⟩ ?_
  have hS226:=(((((((((hS.b 9).b 9).b 9).b 9).b 9).b 9).b 9).b 9).b 9).takeN 9
  obtain rfl:=si h
  exact ge_nil fun a hF=>hQ _ _ _ (Outs.again ⟨(.slice Z4 m2.length cz4),(.slice Z5 m4.length cz5),hS226,hF.weaken ea⟩)
 rw [if_neg hc36] at h
 refine wk 191 (e1.Op==11) false (beq_eq_false_iff_ne.2 hc36) ?_
 refine we_false (by kernel_rfl) ?_
 refine ws fun K33 hK33=>wr [(0,0),(1,0)]<|gb0 [0,1] [(195,.bool (e1.Op==12)),(196,.bool (e1.Op==12))] ?_
 refine gn hK33 ?_
 by_cases hc37:e1.Op=12
 ·rw [if_pos hc37] at h
  refine wk 195 (e1.Op==12) true (beq_iff_eq.2 hc37) ?_
  refine we_true (by kernel_rfl) ?_
  refine ws fun K34 hK34=>ws fun K35 hK35=>wr [(0,0),(1,0),(2,0),(3,0),(4,0),(5,0)]<|gb [0,1,2] [(199,vI (IntKind.i64.wrap ((m2.length:Int)-1))),(198,vI (m2.length:Int)),(197,(.slice Z4 m2.length cz4))] [.loaded ⟨b4,0,none⟩ ((.slice Z4 m2.length cz4)),.loaded ⟨b7,0,none⟩ (vI (m2.length:Int))] ⟨hS.c 2,hS.c 0,trivial⟩ ?_
  by_cases hc38:0≤(IntKind.i64.wrap ((m2.length:Int)-1))
  ·rw [if_pos hc38] at h
   rcases hx28:m2[(IntKind.i64.wrap ((m2.length:Int)-1)).toNat]? with _ | e17
   ·rw [hx28] at h; cases h
   rw [hx28] at h
   simp only [] at h
   refine gi 200 0 23 3 1 m2.length cz4 (.tmp 197) (.tmp 199) Z4 .i64 (IntKind.i64.wrap ((m2.length:Int)-1)) ((IntKind.i64.wrap ((m2.length:Int)-1)).toNat) ((hS.rdAt 6 rfl).eqSome (pos_of_get hx28)) (Int.toNat_of_nonneg hc38).symm (lt_of_get hx28) ?_
   refine gb [4,5] [(202,.bool (e17==0)),(201,vI e17)] [.loaded ⟨blkOf Z4,offOf Z4+((IntKind.i64.wrap ((m2.length:Int)-1)).toNat)*1,none⟩ (vI e17)] ⟨RdL.cell (j:=0) (hS.rdAt 6 rfl) hx28 rfl,trivial⟩ ?_
   refine gn hK35 ?_
   by_cases hc39:e17=0
   ·rw [if_pos hc39] at h
    refine wk 202 (e17==0) true (beq_iff_eq.2 hc39) ?_
    refine we_true (by kernel_rfl) ?_
    refine wr [(0,0),(1,0),(2,0),(3,0)]<|gb [0,1,2,3] [(18,.bool true),(17,vI e1.A),(204,vI e1.A),(203,pP b6 1)] [.loaded ⟨b6,1,none⟩ (vI e1.A)] ⟨hS.c 1,trivial⟩ ?_
    refine gn hK34<|wr [(0,0),(1,0),(2,0),(3,0),(4,2)]<|gb [0,1,2] [(207,vI (IntKind.i64.wrap ((m2.length:Int)-1))),(206,vI (m2.length:Int)),(205,(.slice Z4 m2.length cz4))] [.loaded ⟨b4,0,none⟩ ((.slice Z4 m2.length cz4)),.loaded ⟨b7,0,none⟩ (vI (m2.length:Int))] ⟨hS.c 2,hS.c 0,trivial⟩ ?_
    by_cases hc40:((IntKind.i64.wrap ((m2.length:Int)-1)).toNat)≤m2.length
    ·rw [if_pos hc40] at h
     refine ge_sliceHi (d:=208) (ty:=23) (t:=23) (el:=3) (sz:=1) (m:=m2.length) (c:=cz4) (hn:=((IntKind.i64.wrap ((m2.length:Int)-1)).toNat)) (x:=(.tmp 205)) (y:=(.tmp 207)) (A:=Z4) (k':=.i64) (hi:=(IntKind.i64.wrap ((m2.length:Int)-1))) (by kernel_rfl) (by kernel_rfl) (by kernel_rfl) (Int.toNat_of_nonneg hc38).symm (by kernel_rfl) (by kernel_rfl) (by have f0:=hc40; have f1:=(hS.capAt 6 rfl); omega) ?_
     refine ge_same (t:=208) (v:=.slice Z4 ((IntKind.i64.wrap ((m2.length:Int)-1)).toNat) cz4) (v':=.slice Z4 ((m2.take ((IntKind.i64.wrap ((m2.length:Int)-1)).toNat)).length) cz4) (by kernel_rfl) (congrArg (fun z=>Value.slice Z4 z cz4) (show (IntKind.i64.wrap ((m2.length:Int)-1)).toNat=(m2.take ((IntKind.i64.wrap ((m2.length:Int)-1)).toNat)).length by have f0:=hc40; have f1:=(hS.capAt 6 rfl); simp only [List.length_take]; omega)) ?_
     have hS227:=hS.b 2
     refine gs b4 0 #[(.slice Z4 m2.length cz4)] 23 [.slice Z4 ((m2.take ((IntKind.i64.wrap ((m2.length:Int)-1)).toNat)).length) cz4] hS227 fun w35 hS228=>?_
     have hS241:=((((((((((((hS228.nc #[.slice Z4 ((m2.take ((IntKind.i64.wrap ((m2.length:Int)-1)).toNat)).length) cz4] rfl).b 6).shrink ((IntKind.i64.wrap ((m2.length:Int)-1)).toNat)).b 9).b 9).b 9).b 3).b 9).b 9).b 9).b 7).b 9).takeN 9
     obtain rfl:=si h
     exact ge_nil fun a hF=>hQ _ _ _ (Outs.again ⟨(.slice Z4 (m2.take ((IntKind.i64.wrap ((m2.length:Int)-1)).toNat)).length cz4),(.slice Z5 m4.length cz5),hS241,hF.weaken ea⟩)
    rw [if_neg hc40] at h
    cases h
   rw [if_neg hc39] at h
   refine wk 202 (e17==0) false (beq_eq_false_iff_ne.2 hc39) ?_
   refine we_false (by kernel_rfl) ?_
   refine we_skip fun a hF=>hK34 _ _ ?_ a hF
   refine wr [(0,0),(1,0),(2,0),(3,0),(4,2)]<|gb [0,1,2] [(207,vI (IntKind.i64.wrap ((m2.length:Int)-1))),(206,vI (m2.length:Int)),(205,(.slice Z4 m2.length cz4))] [.loaded ⟨b4,0,none⟩ ((.slice Z4 m2.length cz4)),.loaded ⟨b7,0,none⟩ (vI (m2.length:Int))] ⟨hS.c 2,hS.c 0,trivial⟩ ?_
   by_cases hc41:((IntKind.i64.wrap ((m2.length:Int)-1)).toNat)≤m2.length
   ·rw [if_pos hc41] at h
    refine ge_sliceHi (d:=208) (ty:=23) (t:=23) (el:=3) (sz:=1) (m:=m2.length) (c:=cz4) (hn:=((IntKind.i64.wrap ((m2.length:Int)-1)).toNat)) (x:=(.tmp 205)) (y:=(.tmp 207)) (A:=Z4) (k':=.i64) (hi:=(IntKind.i64.wrap ((m2.length:Int)-1))) (by kernel_rfl) (by kernel_rfl) (by kernel_rfl) (Int.toNat_of_nonneg hc38).symm (by kernel_rfl) (by kernel_rfl) (by have f0:=hc41; have f1:=(hS.capAt 6 rfl); omega) ?_
    refine ge_same (t:=208) (v:=.slice Z4 ((IntKind.i64.wrap ((m2.length:Int)-1)).toNat) cz4) (v':=.slice Z4 ((m2.take ((IntKind.i64.wrap ((m2.length:Int)-1)).toNat)).length) cz4) (by kernel_rfl) (congrArg (fun z=>Value.slice Z4 z cz4) (show (IntKind.i64.wrap ((m2.length:Int)-1)).toNat=(m2.take ((IntKind.i64.wrap ((m2.length:Int)-1)).toNat)).length by have f0:=hc41; have f1:=(hS.capAt 6 rfl); simp only [List.length_take]; omega)) ?_
    have hS242:=hS.b 2
    refine gs b4 0 #[(.slice Z4 m2.length cz4)] 23 [.slice Z4 ((m2.take ((IntKind.i64.wrap ((m2.length:Int)-1)).toNat)).length) cz4] hS242 fun w36 hS243=>?_
    have hS256:=((((((((((((hS243.nc #[.slice Z4 ((m2.take ((IntKind.i64.wrap ((m2.length:Int)-1)).toNat)).length) cz4] rfl).b 6).shrink ((IntKind.i64.wrap ((m2.length:Int)-1)).toNat)).b 9).b 9).b 9).b 3).b 9).b 9).b 9).b 7).b 9).takeN 9
    obtain rfl:=si h
    exact ge_nil fun a hF=>hQ _ _ _ (Outs.again ⟨(.slice Z4 (m2.take ((IntKind.i64.wrap ((m2.length:Int)-1)).toNat)).length cz4),(.slice Z5 m4.length cz5),hS256,hF.weaken ea⟩)
   rw [if_neg hc41] at h
   cases h
  rw [if_neg hc38] at h
  cases h
 rw [if_neg hc37] at h
 refine wk 195 (e1.Op==12) false (beq_eq_false_iff_ne.2 hc37) ?_
 refine we_false (by kernel_rfl) ?_
 refine ws fun K36 hK36=>wr [(0,0),(1,0)]<|gb0 [0,1] [(209,.bool (e1.Op==13)),(210,.bool (e1.Op==13))] ?_
 refine gn hK36 ?_
 by_cases hc42:e1.Op=13
 ·rw [if_pos hc42] at h
  refine wk 209 (e1.Op==13) true (beq_iff_eq.2 hc42) ?_
  refine we_true (by kernel_rfl) ?_
  refine wr [(0,0),(1,0),(2,0),(3,0),(4,0),(5,2)]<|gb [0,1,2,3,4] [(215,vI e1.B),(214,pP b6 2),(213,vI e1.A),(212,pP b6 1),(211,.map (some b5))] [.loaded ⟨b6,1,none⟩ (vI e1.A),.loaded ⟨b6,2,none⟩ (vI e1.B)] ⟨hS.c 1,hS.c 1,trivial⟩ ?_
  have hS257:=hS.b 9
  refine ge_mapSet (κ:=Int) (ν:=Int) (b:=b5) (ins:=false) (mm:=0) (t:=71) (kt:=3) (et:=3) (x:=(.tmp 211)) (y:=(.tmp 213)) (u:=(.tmp 215)) (ty:=0) (m:=mp1) (k:=e1.A) (v:=e1.B) (vv:=vI e1.B) (by kernel_rfl) (by kernel_rfl) (by kernel_rfl) (by kernel_rfl) rfl (by kernel_rfl) (by kernel_rfl) hS257 fun w37 hS258=>?_
  have hS267:=((((((((hS258.b 9).b 9).b 9).b 9).b 9).b 9).b 9).b 9).takeN 9
  obtain rfl:=si h
  exact ge_nil fun a hF=>hQ _ _ _ (Outs.again ⟨(.slice Z4 m2.length cz4),(.slice Z5 m4.length cz5),hS267,hF.weaken ea⟩)
 rw [if_neg hc42] at h
 refine wk 209 (e1.Op==13) false (beq_eq_false_iff_ne.2 hc42) ?_
 refine we_false (by kernel_rfl) ?_
 refine ws fun K37 hK37=>wr [(0,0),(1,0)]<|gb0 [0,1] [(216,.bool (e1.Op==14)),(217,.bool (e1.Op==14))] ?_
 refine gn hK37 ?_
 by_cases hc43:e1.Op=14
 ·rw [if_pos hc43] at h
  refine wk 216 (e1.Op==14) true (beq_iff_eq.2 hc43) ?_
  refine we_true (by kernel_rfl) ?_
  refine ws fun K38 hK38=>wr [(0,0),(1,0),(2,0),(3,0),(4,0)]<|gb [0,1,2] [(220,vI e1.A),(219,pP b6 1),(218,.map (some b5))] [.loaded ⟨b6,1,none⟩ (vI e1.A)] ⟨hS.c 1,trivial⟩ ?_
  refine ge_lookup (κ:=Int) (ν:=Int) (d:=221) (b:=b5) (q:=9) (t:=71) (kt:=3) (et:=3) (x:=(.tmp 218)) (y:=(.tmp 220)) (ty:=3) (m:=mp1) (k:=e1.A) (z:=0) (v:=((mget mp1 e1.A).getD 0)) (zv:=vI 0) (vv:=vI ((mget mp1 e1.A).getD 0)) (by kernel_rfl) (by kernel_rfl) (by kernel_rfl) (by kernel_rfl) (by kernel_rfl) (fun w'=>by kernel_rfl) rfl hS rfl rfl rfl ?_
  refine gb0 [4] [(222,.bool (decide (((mget mp1 e1.A).getD 0) > 0)))] ?_
  refine gn hK38 ?_
  by_cases hc44:((mget mp1 e1.A).getD 0) > 0
  ·rw [if_pos hc44] at h
   refine wk 222 (decide (((mget mp1 e1.A).getD 0) > 0)) true (decide_eq_true hc44) ?_
   refine we_true (by kernel_rfl) ?_
   refine ws fun K39 hK39=>wr [(0,0),(1,0),(2,0),(3,0),(4,0),(5,2)]<|gb [0,1,2] [(225,vI e1.A),(224,pP b6 1),(223,.map (some b5))] [.loaded ⟨b6,1,none⟩ (vI e1.A)] ⟨hS.c 1,trivial⟩ ?_
   refine ge_lookup (κ:=Int) (ν:=Int) (d:=226) (b:=b5) (q:=9) (t:=71) (kt:=3) (et:=3) (x:=(.tmp 223)) (y:=(.tmp 225)) (ty:=3) (m:=mp1) (k:=e1.A) (z:=0) (v:=((mget mp1 e1.A).getD 0)) (zv:=vI 0) (vv:=vI ((mget mp1 e1.A).getD 0)) (by kernel_rfl) (by kernel_rfl) (by kernel_rfl) (by kernel_rfl) (by kernel_rfl) (fun w'=>by kernel_rfl) rfl hS rfl rfl rfl ?_
   refine gb0 [4] [(227,vI (IntKind.i64.wrap (((mget mp1 e1.A).getD 0)-1)))] ?_
   have hS268:=hS.b 9
   refine ge_mapSet (κ:=Int) (ν:=Int) (b:=b5) (ins:=false) (mm:=0) (t:=71) (kt:=3) (et:=3) (x:=(.tmp 223)) (y:=(.tmp 225)) (u:=(.tmp 227)) (ty:=0) (m:=mp1) (k:=e1.A) (v:=(IntKind.i64.wrap (((mget mp1 e1.A).getD 0)-1))) (vv:=vI (IntKind.i64.wrap (((mget mp1 e1.A).getD 0)-1))) (by kernel_rfl) (by kernel_rfl) (by kernel_rfl) (by kernel_rfl) rfl (by kernel_rfl) (by kernel_rfl) hS268 fun w38 hS269=>?_
   refine gn hK39<|wr [(0,0),(1,0),(2,0),(3,0)]<|gb [0,1,2,3] [(18,.bool true),(17,vI e1.B),(229,vI e1.B),(228,pP b6 2)] [.loaded ⟨b6,2,none⟩ (vI e1.B)] ⟨hS269.c 2,trivial⟩ ?_
   have hS278:=((((((((hS269.b 9).b 9).b 9).b 9).b 9).b 9).b 9).b 9).takeN 9
   obtain rfl:=si h
   exact ge_nil fun a hF=>hQ _ _ _ (Outs.again ⟨(.slice Z4 m2.length cz4),(.slice Z5 m4.length cz5),hS278,hF.weaken ea⟩)
  rw [if_neg hc44] at h
  refine wk 222 (decide (((mget mp1 e1.A).getD 0) > 0)) false (decide_eq_false hc44) ?_
  refine we_false (by kernel_rfl) ?_
  have hS288:=(((((((((hS.b 9).b 9).b 9).b 9).b 9).b 9).b 9).b 9).b 9).takeN 9
  obtain rfl:=si h
  exact we_skip fun a hF=>hQ _ _ _ (Outs.again ⟨(.slice Z4 m2.length cz4),(.slice Z5 m4.length cz5),hS288,hF.weaken ea⟩)
 rw [if_neg hc43] at h
 refine wk 216 (e1.Op==14) false (beq_eq_false_iff_ne.2 hc43) ?_
 refine we_false (by kernel_rfl) ?_
 refine ws fun K40 hK40=>wr [(0,0),(1,0)]<|gb0 [0,1] [(230,.bool (e1.Op==15)),(231,.bool (e1.Op==15))] ?_
 refine gn hK40 ?_
 by_cases hc45:e1.Op=15
 ·rw [if_pos hc45] at h
  refine wk 230 (e1.Op==15) true (beq_iff_eq.2 hc45) ?_
  refine we_true (by kernel_rfl) ?_
  refine wr [(0,0),(1,0),(2,0),(3,2)]<|gb [0,1,2] [(234,vI e1.A),(233,pP b6 1),(232,.map (some b5))] [.loaded ⟨b6,1,none⟩ (vI e1.A)] ⟨hS.c 1,trivial⟩ ?_
  have hS289:=hS.b 9
  refine ge_mapSet (κ:=Int) (ν:=Int) (b:=b5) (ins:=false) (mm:=0) (t:=71) (kt:=3) (et:=3) (x:=(.tmp 232)) (y:=(.tmp 234)) (u:=(.const (vI 0))) (ty:=0) (m:=mp1) (k:=e1.A) (v:=0) (vv:=vI 0) (by kernel_rfl) (by kernel_rfl) (by kernel_rfl) (by kernel_rfl) rfl (by kernel_rfl) (by kernel_rfl) hS289 fun w39 hS290=>?_
  have hS299:=((((((((hS290.b 9).b 9).b 9).b 9).b 9).b 9).b 9).b 9).takeN 9
  obtain rfl:=si h
  exact ge_nil fun a hF=>hQ _ _ _ (Outs.again ⟨(.slice Z4 m2.length cz4),(.slice Z5 m4.length cz5),hS299,hF.weaken ea⟩)
 rw [if_neg hc45] at h
 refine wk 230 (e1.Op==15) false (beq_eq_false_iff_ne.2 hc45) ?_
 refine we_false (by kernel_rfl) ?_
 have hS309:=(((((((((hS.b 9).b 9).b 9).b 9).b 9).b 9).b 9).b 9).b 9).takeN 9
 obtain rfl:=si h
 exact we_skip fun a hF=>hQ _ _ _ (Outs.again ⟨(.slice Z4 m2.length cz4),(.slice Z5 m4.length cz5),hS309,hF.weaken ea⟩)
abbrev punctualref_Steps.A0 (w0:World) (l0:List SIns) (A0:Option Addr) (c0:Nat) (l2:List Int) (A2:Option Addr) (c2:Nat) (x3:Int) (b1:Nat) (Z1:Option Addr) (cz1:Nat) (b3:Nat) (b4:Nat) (b5:Nat):((List SStep)×Int×(List Int)×(List Int)×(List SPut)×Int×(List (Int×Int)))→Act→World→Prop:=fun (s:(List SStep)×Int×(List Int)×(List Int)×(List SPut)×Int×(List (Int×Int))) a w=>∃ (v2:Value) (v3:Value) (v4:Value),St w0 w [Own.blk b4 (.cells #[v3] 23 (0,0)),Own.blk b3 (.cells #[(.slice Z1 s.2.2.2.1.length cz1),v4,vI s.2.2.2.2.2.1] 27 (0,0)),Own.blk b1 (.cells #[.slice none 0 0,.slice none 0 0,vI 0] 27 (0,0)),Own.of v2 55 s.1,Own.of v3 3 s.2.2.1,Own.of (.slice Z1 s.2.2.2.1.length cz1) 3 s.2.2.2.1,Own.of v4 43 s.2.2.2.2.1,Own.map (κ:=Int) (ν:=Int) b5 s.2.2.2.2.2.2]∧Frm 252 a [(0,.slice A0 l0.length c0),(2,.slice A2 l2.length c2),(3,vI x3),(8,pP b1 0),(11,pP b3 0),(12,v2),(13,pP b4 0),(14,.map (some b5)),(15,vI s.2.1)]
abbrev punctualref_Steps.B0 (w0:World) (b1:Nat) (Z1:Option Addr) (cz1:Nat) (b3:Nat):(((List SStep)×(List Int)×(List SPut)×Int) ⊕ (SEnded×(List SStep)×Bool))→Exit→Act→World→Prop:=Exits 0 (fun (s:(List SStep)×(List Int)×(List SPut)×Int) a w=>∃ (v5:Value) (v6:Value),St w0 w [Own.blk b3 (.cells #[(.slice Z1 s.2.1.length cz1),v6,vI s.2.2.2] 27 (0,0)),Own.blk b1 (.cells #[.slice none 0 0,.slice none 0 0,vI 0] 27 (0,0)),Own.of v5 55 s.1,Own.of (.slice Z1 s.2.1.length cz1) 3 s.2.1,Own.of v6 43 s.2.2.1]∧Frm 252 a [(8,pP b1 0),(11,pP b3 0),(12,v5)]) (Rets Tryd.prog Tryd.f18 (punctualref_Steps.Post w0))
theorem punctualref_Steps_r0 (K:Nat) (w0:World) (l0:List SIns) (A0:Option Addr) (c0:Nat) (l1:List Int) (A1:Option Addr) (c1:Nat) (l2:List Int) (A2:Option Addr) (c2:Nat) (x3:Int) (hR0:RdL w0 A0 l0) (hL0:l0.length≤c0) (hR1:RdL w0 A1 l1) (hL1:l1.length≤c1) (hR2:RdL w0 A2 l2) (hL2:l2.length≤c2) (b1:Nat) (b2:Nat) (hc1:0+l1.length≤17592186044416) (Z1:Option Addr) (cz1:Nat) (b3:Nat) (b4:Nat) (b5:Nat) (s:(List SStep)×Int×(List Int)×(List Int)×(List SPut)×Int×(List (Int×Int))) (o:((List SStep)×Int×(List Int)×(List Int)×(List SPut)×Int×(List (Int×Int))) ⊕ (((List SStep)×(List Int)×(List SPut)×Int) ⊕ (SEnded×(List SStep)×Bool))) (h:punctualref_Steps.r0 l0 l2 x3 s=some o) (a:Act) (w:World) (hA:punctualref_Steps.A0 w0 l0 A0 c0 l2 A2 c2 x3 b1 Z1 cz1 b3 b4 b5 s a w) (Q:Exit→Act→World→Prop) (hQ:∀ x a w,Outs (punctualref_Steps.A0 w0 l0 A0 c0 l2 A2 c2 x3 b1 Z1 cz1 b3 b4 b5) (punctualref_Steps.B0 w0 b1 Z1 cz1 b3) o x a w→Q x a w):(subF Tryd.f18 [1,1,1,1,1,1,0,0,0]).wp Tryd.prog Q a w:=by
 obtain ⟨m1,z1,m2,m3,m4,z2,mp1⟩:=s
 obtain ⟨v2,v3,v4,hS,hF⟩:=hA
 replace hS:St w0 w [Own.blk b4 (.cells #[v3] 23 (0,0)),Own.blk b3 (.cells #[(.slice Z1 m3.length cz1),v4,vI z2] 27 (0,0)),Own.blk b1 (.cells #[.slice none 0 0,.slice none 0 0,vI 0] 27 (0,0)),Own.of v2 55 m1,Own.of v3 3 m2,Own.of (.slice Z1 m3.length cz1) 3 m3,Own.of v4 43 m4,Own.map (κ:=Int) (ν:=Int) b5 mp1]:=hS
 simp only [punctualref_Steps.r0] at h
 refine (?_:WE Tryd.prog 252 (subF Tryd.f18 [1,1,1,1,1,1,0,0,0]) Q [(0,.slice A0 l0.length c0),(2,.slice A2 l2.length c2),(3,vI x3),(8,pP b1 0),(11,pP b3 0),(12,v2),(13,pP b4 0),(14,.map (some b5)),(15,vI z1)] w) a hF
 clear hF a
 refine ws fun K8 hK8=>ws fun K9 hK9=>wr [(0,0),(1,0),(2,0),(3,0)]<|gb0 [0,1,2,3] [(31,.bool (decide (z1<(l0.length:Int)))),(30,vI (l0.length:Int)),(29,.slice A0 l0.length c0),(28,vI z1)] ?_
 refine gn hK9 ?_
 by_cases hc2:z1<(l0.length:Int)
 ·rw [if_pos hc2] at h
  refine wk 31 (decide (z1<(l0.length:Int))) true (decide_eq_true hc2) ?_
  refine we_true (by kernel_rfl) ?_
  refine we_skip fun a hF=>hK8 _ _ ?_ a hF
  refine we_block<|ws fun K10 hK10=>ws fun K11 hK11=>wr [(0,0),(1,0),(2,0),(3,0)]<|gb0 [0] [(32,v2)] ?_
  obtain ⟨Z2,cz2,rfl⟩:=hS.open 3 rfl
  refine gb0 [1,2,3] [(35,.bool ((m1.length:Int)==x3)),(34,vI x3),(33,vI (m1.length:Int))] ?_
  refine gn hK11 ?_
  by_cases hc3:(m1.length:Int)=x3
  ·rw [if_pos hc3] at h
   refine wk 35 ((m1.length:Int)==x3) true (beq_iff_eq.2 hc3) ?_
   refine we_true (by kernel_rfl) ?_
   refine ws fun K12 hK12=>wr [(0,0),(1,0),(2,2),(3,0),(4,0)]<|gb [0,1] [(37,(.slice Z2 m1.length cz2)),(36,.agg #[(.slice Z1 m3.length cz1),v4,vI z2])] [.loaded ⟨b3,0,none⟩ ((.slice Z1 m3.length cz1)),.loaded ⟨b3,1,none⟩ (v4),.loaded ⟨b3,2,none⟩ (vI z2)] ⟨hS.c 1,hS.c 1,hS.c 1,trivial⟩ ?_
   obtain ⟨Z3,cz3,rfl⟩:=hS.open 6 rfl
   have hS23:=hS.b 2
   refine gs b1 0 #[.slice none 0 0,.slice none 0 0,vI 0] 27 [(.slice Z1 m3.length cz1),(.slice Z3 m4.length cz3),vI z2] hS23 fun w8 hS24=>?_
   have hS25:=hS24.nc #[(.slice Z1 m3.length cz1),(.slice Z3 m4.length cz3),vI z2] rfl
   refine gb0 [3,4] [(10,.bool false),(9,(.slice Z2 m1.length cz2))] ?_
   refine gn hK12 ?_
   have hS29:=(((hS25.b 3).b 6).b 6).takeN 3
   obtain rfl:=si h
   exact we_ret fun a hF=>hQ _ _ _ (Outs.out nofun (Exits.on ⟨rfl,(pr [.cell 8 27,.tmp 9,.tmp 10] [.agg #[(.slice Z1 m3.length cz1),(.slice Z3 m4.length cz3),vI z2],(.slice Z2 m1.length cz2),.bool false] [.loaded ⟨b1,0,none⟩ ((.slice Z1 m3.length cz1)),.loaded ⟨b1,1,none⟩ ((.slice Z3 m4.length cz3)),.loaded ⟨b1,2,none⟩ (vI z2)] ⟨hS25.c 0,hS25.c 0,hS25.c 0,trivial⟩ ⟨(.slice Z1 m3.length cz1),(.slice Z3 m4.length cz3),(.slice Z2 m1.length cz2),rfl,hS29⟩) a hF⟩))
  rw [if_neg hc3] at h
  refine wk 35 ((m1.length:Int)==x3) false (beq_eq_false_iff_ne.2 hc3) ?_
  refine we_false (by kernel_rfl) ?_
  refine we_skip fun a hF=>hK10 _ _ ?_ a hF
  refine ws fun K13 hK13=>wr [(0,0),(1,0),(2,0),(3,0),(4,1),(5,2)]<|gb0 [0,1] [(39,vI z1),(38,.slice A0 l0.length c0)] ?_
  by_cases hc4:0≤z1
  ·rw [if_pos hc4] at h
   rcases hx6:l0[(z1).toNat]? with _ | e1
   ·rw [hx6] at h; cases h
   rw [hx6] at h
   simp only [] at h
   refine gi 40 0 22 35 3 l0.length c0 (.tmp 38) (.tmp 39) A0 .i64 z1 ((z1).toNat) ((hS.rd hR0).eqSome (pos_of_get hx6)) (Int.toNat_of_nonneg hc4).symm (lt_of_get hx6) ?_
   refine gb [3] [(41,.agg #[vI e1.Op,vI e1.A,vI e1.B])] [.loaded ⟨blkOf A0,offOf A0+((z1).toNat)*3,none⟩ (vI e1.Op),.loaded ⟨blkOf A0,offOf A0+((z1).toNat)*3+1,none⟩ (vI e1.A),.loaded ⟨blkOf A0,offOf A0+((z1).toNat)*3+2,none⟩ (vI e1.B)] ⟨RdL.cell (j:=0) (hS.rd hR0) hx6 rfl,RdL.cell (j:=1) (hS.rd hR0) hx6 rfl,RdL.cell (j:=2) (hS.rd hR0) hx6 rfl,trivial⟩ ?_
   refine gw (some 16) (.cells #[vI 0,vI 0,vI 0] 35) (fun b=>pP b 0) hS fun b6 w9 hx7 hS30=>?_
   refine gs b6 0 #[vI 0,vI 0,vI 0] 35 [vI e1.Op,vI e1.A,vI e1.B] hS30 fun w10 hS31=>?_
   have hS32:=hS31.nc #[vI e1.Op,vI e1.A,vI e1.B] rfl
   refine gn hK13<|ws fun K14 hK14=>wr [(0,0),(1,0),(2,0),(3,0)]<|gb0 [0,1,2,3] [(18,.bool false),(17,vI (IntKind.i64.wrap (z1+1))),(43,vI (IntKind.i64.wrap (z1+1))),(42,vI z1)] ?_
   refine gn hK14<|ws fun K15 hK15=>wr [(0,0),(1,0),(2,1),(3,2)]<|gb [0] [(44,v3)] [.loaded ⟨b4,0,none⟩ (v3)] ⟨hS32.c 1,trivial⟩ ?_
   obtain ⟨Z4,cz4,rfl⟩:=hS32.open 5 rfl
   refine gb0 [1] [(45,vI (m2.length:Int))] ?_
   refine gw (some 19) (.cells #[vI 0] 3) (fun b=>pP b 0) hS32 fun b7 w11 hx8 hS33=>?_
   refine gs b7 0 #[vI 0] 3 [vI (m2.length:Int)] hS33 fun w12 hS34=>?_
   have hS35:=hS34.nc #[vI (m2.length:Int)] rfl
   refine gn hK15<|ws fun K16 hK16=>wr [(0,0),(1,0)]<|gb0 [0,1] [(20,.func (.func 27) #[] #[pP b4 0,pP b7 0]),(46,.func (.func 27) #[] #[pP b4 0,pP b7 0])] ?_
   refine gn hK16<|ws fun K17 hK17=>wr [(0,0)]<|gb0 [0] [(21,.func (.func 28) #[] #[])] ?_
   refine gn hK17<|ws fun K18 hK18=>?_
   obtain ⟨Z5,cz5,rfl⟩:=hS35.open 8 rfl
   rcases hq8:punctualref_Steps.p1 l2 z1 m2 m3 m4 mp1 e1 with _ | (⟨z5,q2,m11,m12,m13,mp3⟩ | rr1)
   ·rw [hq8] at h; cases h
   ·rw [hq8] at h
    simp only [] at h
    refine we_keep (e':=((0,.slice A0 l0.length c0)::(2,.slice A2 l2.length c2)::(3,vI x3)::(8,pP b1 0)::(11,pP b3 0)::(12,(.slice Z2 m1.length cz2))::(13,pP b4 0)::(14,.map (some b5))::(15,vI z1)::(16,pP b6 0)::(17,vI (IntKind.i64.wrap (z1+1)))::(18,.bool false)::(19,pP b7 0)::(20,.func (.func 27) #[] #[pP b4 0,pP b7 0])::(21,.func (.func 28) #[] #[])::(28,vI z1)::(29,.slice A0 l0.length c0)::(30,vI (l0.length:Int))::(31,.bool true)::(32,(.slice Z2 m1.length cz2))::(33,vI (m1.length:Int))::(34,vI x3)::(35,.bool false)::(38,.slice A0 l0.length c0)::(39,vI z1)::(40,.pointer (some ⟨blkOf A0,offOf A0+(z1).toNat*3,none⟩))::(41,.agg #[vI e1.Op,vI e1.A,vI e1.B])::(42,vI z1)::(43,vI (IntKind.i64.wrap (z1+1)))::(44,(.slice Z4 m2.length cz4))::(45,vI (m2.length:Int))::(46,.func (.func 27) #[] #[pP b4 0,pP b7 0])::[])) ea (punctualref_Steps_p1 K w0 l0 A0 c0 l1 A1 c1 l2 A2 c2 x3 hR0 hL0 hR1 hL1 hR2 hL2 b1 b2 hc1 Z1 cz1 b3 b4 b5 m1 z1 m2 m3 m4 z2 mp1 hc2 Z2 cz2 hc3 hc4 e1 hx6 b6 Z4 cz4 b7 Z5 cz5 _ hq8 _ hS35 _ ?_)
    rintro _ a w40 ⟨rfl,v18,v19,hS310,hF⟩
    replace hS310:St w0 w40 [Own.blk b6 (.cells #[vI e1.Op,vI e1.A,vI e1.B] 35 (0,0)),Own.blk b4 (.cells #[v18] 23 (0,0)),Own.blk b3 (.cells #[(.slice Z1 m12.length cz1),v19,vI z2] 27 (0,0)),Own.blk b1 (.cells #[.slice none 0 0,.slice none 0 0,vI 0] 27 (0,0)),Own.of (.slice Z2 m1.length cz2) 55 m1,Own.of v18 3 m11,Own.of (.slice Z1 m12.length cz1) 3 m12,Own.of v19 43 m13,Own.map (κ:=Int) (ν:=Int) b5 mp3]:=hS310
    refine hK18 [(0,.slice A0 l0.length c0),(2,.slice A2 l2.length c2),(3,vI x3),(8,pP b1 0),(11,pP b3 0),(12,(.slice Z2 m1.length cz2)),(13,pP b4 0),(14,.map (some b5)),(15,vI z1),(16,pP b6 0),(17,vI z5),(18,.bool q2)] w40 ?_ a hF
    refine ws fun K41 hK41=>wr [(0,0),(1,0),(2,1),(3,0)]<|gb [0,1] [(236,.bool q2),(235,.agg #[vI e1.Op,vI e1.A,vI e1.B])] [.loaded ⟨b6,0,none⟩ (vI e1.Op),.loaded ⟨b6,1,none⟩ (vI e1.A),.loaded ⟨b6,2,none⟩ (vI e1.B)] ⟨hS310.c 0,hS310.c 0,hS310.c 0,trivial⟩ ?_
    refine ge_call (d:=some 237) (f:=29) (args:=#[.agg #[vI e1.Op,vI e1.A,vI e1.B],.bool q2]) (by kernel_rfl) (punctualref_Ticks_ok e1 q2 _ _ rfl) ?_
    rintro _ w41 ⟨rfl,hS311⟩
    refine ⟨_,rfl,hS311.below,?_⟩
    have hS312:=hS310.call hS311
    refine gb0 [3] [(22,vI (punctualref_Ticks.f e1 q2))] ?_
    refine gn hK41<|ws fun K42 hK42=>wr [(0,0),(1,0),(2,0),(3,0),(4,1),(5,2),(6,0)]<|gb0 [0,1,2,3] [(241,.agg #[vI z1,vI (punctualref_Ticks.f e1 q2)]),(240,vI (punctualref_Ticks.f e1 q2)),(239,vI z1),(238,(.slice Z2 m1.length cz2))] ?_
    refine gw (some 242) (.cells #[vI z1,vI (punctualref_Ticks.f e1 q2)] 55) (fun b=>.slice (some ⟨b,0,none⟩) 1 1) hS312 fun b12 w42 hx29 hS313=>?_
    have hS314:=hS313.b 5
    by_cases hc46:m1.length<8796093022208
    ·rw [if_pos hc46] at h
     refine ge_append (α:=SStep) (m:=0) (d:=243) (t:=51) (el:=55) (bytes:=16) (c1:=1) (b1:=b12) (x:=(.tmp 238)) (y:=(.tmp 242)) (ty:=51) (v:=(.slice Z2 m1.length cz2)) (z:=.agg #[vI 0,vI 0]) (l:=m1) (u:=(⟨z1,(punctualref_Ticks.f e1 q2)⟩:SStep)) (by kernel_rfl) (by kernel_rfl) (by kernel_rfl) (by kernel_rfl) (by kernel_rfl) rfl hS314 rfl (by omega) fun v20 w43 hS315=>?_
     refine gb0 [6] [(12,v20)] ?_
     refine gn hK42<|ws fun K43 hK43=>wr [(0,0),(1,0),(2,0),(3,0),(4,0),(5,2)]<|gb [0,1,2,3,4] [(248,pP b3 2),(247,vI (IntKind.i64.wrap (z2+(punctualref_Ticks.f e1 q2)))),(246,vI (punctualref_Ticks.f e1 q2)),(245,vI z2),(244,pP b3 2)] [.loaded ⟨b3,2,none⟩ (vI z2)] ⟨hS315.c 3,trivial⟩ ?_
     have hS316:=hS315.b 3
     refine gs b3 2 #[(.slice Z1 m12.length cz1),v19,vI z2] 27 [vI (IntKind.i64.wrap (z2+(punctualref_Ticks.f e1 q2)))] hS316 fun w44 hS317=>?_
     have hS318:=hS317.nc #[(.slice Z1 m12.length cz1),v19,vI (IntKind.i64.wrap (z2+(punctualref_Ticks.f e1 q2)))] rfl
     refine gn hK43<|wr [(0,0),(1,0)]<|gb0 [0,1] [(15,vI z5),(249,vI z5)] ?_
     have hS327:=((((((((hS318.b 8).b 8).b 8).b 8).b 5).b 8).b 6).b 8).takeN 8
     obtain rfl:=si h
     exact ge_nil fun a hF=>hQ _ _ _ (Outs.again ⟨v20,v18,v19,hS327,hF.weaken ea⟩)
    rw [if_neg hc46] at h
    cases h
   rw [hq8] at h
   simp only [] at h
   refine we_keep (e':=((0,.slice A0 l0.length c0)::(2,.slice A2 l2.length c2)::(3,vI x3)::(8,pP b1 0)::(11,pP b3 0)::(12,(.slice Z2 m1.length cz2))::(13,pP b4 0)::(14,.map (some b5))::(15,vI z1)::(16,pP b6 0)::(17,vI (IntKind.i64.wrap (z1+1)))::(18,.bool false)::(19,pP b7 0)::(20,.func (.func 27) #[] #[pP b4 0,pP b7 0])::(21,.func (.func 28) #[] #[])::(28,vI z1)::(29,.slice A0 l0.length c0)::(30,vI (l0.length:Int))::(31,.bool true)::(32,(.slice Z2 m1.length cz2))::(33,vI (m1.length:Int))::(34,vI x3)::(35,.bool false)::(38,.slice A0 l0.length c0)::(39,vI z1)::(40,.pointer (some ⟨blkOf A0,offOf A0+(z1).toNat*3,none⟩))::(41,.agg #[vI e1.Op,vI e1.A,vI e1.B])::(42,vI z1)::(43,vI (IntKind.i64.wrap (z1+1)))::(44,(.slice Z4 m2.length cz4))::(45,vI (m2.length:Int))::(46,.func (.func 27) #[] #[pP b4 0,pP b7 0])::[])) ea (punctualref_Steps_p1 K w0 l0 A0 c0 l1 A1 c1 l2 A2 c2 x3 hR0 hL0 hR1 hL1 hR2 hL2 b1 b2 hc1 Z1 cz1 b3 b4 b5 m1 z1 m2 m3 m4 z2 mp1 hc2 Z2 cz2 hc3 hc4 e1 hx6 b6 Z4 cz4 b7 Z5 cz5 _ hq8 _ hS35 _ ?_)
   rintro _ a w1 ⟨_,rfl,hb⟩
   obtain rfl:=si h
   exact hQ _ _ _ (Outs.out nofun (Exits.on ⟨rfl,hb⟩))
  rw [if_neg hc4] at h
  cases h
 rw [if_neg hc2] at h
 refine wk 31 (decide (z1<(l0.length:Int))) false (decide_eq_false hc2) ?_
 refine we_false (by kernel_rfl) ?_
 have hS333:=(((((hS.b 6).b 6).b 5).b 5).b 5).takeN 5
 obtain rfl:=si h
 exact we_exit fun a hF=>hQ _ _ _ (Outs.out nofun (Exits.here ⟨v2,v4,hS333,hF.weaken ea⟩))
theorem punctualref_Steps_ok (K:Nat) (l0:List SIns) (A0:Option Addr) (c0:Nat) (l1:List Int) (A1:Option Addr) (c1:Nat) (l2:List Int) (A2:Option Addr) (c2:Nat) (x3:Int) (w0:World) (hR0:RdL w0 A0 l0) (hL0:l0.length≤c0) (hR1:RdL w0 A1 l1) (hL1:l1.length≤c1) (hR2:RdL w0 A2 l2) (hL2:l2.length≤c2) (r:SEnded×(List SStep)×Bool) (h:punctualref_Steps.f K l0 l1 l2 x3=some r) :
  Calls Tryd.prog 18 #[.slice A0 l0.length c0,.slice A1 l1.length c1,.slice A2 l2.length c2,vI x3] w0 (punctualref_Steps.Post w0 r):=by
 have hS:=St.start w0
 unfold punctualref_Steps.f at h
 refine calls_enter (n:=252) (args:=[.slice A0 l0.length c0,.slice A1 l1.length c1,.slice A2 l2.length c2,vI x3]) (fn:=Tryd.f18) rfl rfl rfl rfl ?_
 show WE _ _ _ _ [(0,.slice A0 l0.length c0),(1,.slice A1 l1.length c1),(2,.slice A2 l2.length c2),(3,vI x3)] _
 refine ws fun K1 hK1=>wr [(0,1),(1,0),(2,0)]<|gw (some 8) (.cells #[.slice none 0 0,.slice none 0 0,vI 0] 27) (fun b=>pP b 0) hS fun b1 w1 hx1 hS1=>?_
 refine gb0 [1,2] [(10,.bool false),(9,.slice none 0 0)] ?_
 refine gn hK1<|ws fun K2 hK2=>wr [(0,1),(1,0),(2,2),(3,0),(4,1),(5,2)]<|gw (some 23) (.cells #[] 3) (fun b=>.slice (some ⟨b,0,none⟩) 0 0) hS1 fun b2 w2 hx2 hS2=>?_
 refine gb0 [1] [(24,.slice A1 l1.length c1)] ?_
 have hS3:=hS2.asRow (α:=Int) (c:=0) ([]:List Int) (Nat.le_refl _) (by decide) rfl rfl
 by_cases hc1:0+l1.length≤17592186044416
 ·rw [if_pos hc1] at h
  refine ge_appendL (α:=Int) (m:=0) (d:=25) (t:=23) (el:=3) (bytes:=8) (c1:=c1) (A1:=A1) (x:=(.tmp 23)) (y:=(.tmp 24)) (ty:=23) (v:=(.slice (some ⟨b2,0,none⟩) 0 0)) (z:=vI 0) (l:=([]:List Int)) (us:=l1) (by kernel_rfl) (by kernel_rfl) (by kernel_rfl) (by kernel_rfl) (by kernel_rfl) rfl hS3 (hS3.rd hR1) rfl (Nat.mul_le_of_le_div _ _ _ hc1) fun v1 w3 hS4=>?_
  have hS5:St w0 w3 [Own.of v1 3 l1,Own.blk b1 (.cells #[.slice none 0 0,.slice none 0 0,vI 0] 27 (0,0))]:=hS4
  obtain ⟨Z1,cz1,rfl⟩:=hS5.open 0 rfl
  refine gb0 [3] [(26,.agg #[(.slice Z1 l1.length cz1),.slice none 0 0,vI 0])] ?_
  refine gw (some 11) (.cells #[.slice none 0 0,.slice none 0 0,vI 0] 27) (fun b=>pP b 0) hS5 fun b3 w4 hx3 hS6=>?_
  refine gs b3 0 #[.slice none 0 0,.slice none 0 0,vI 0] 27 [(.slice Z1 l1.length cz1),.slice none 0 0,vI 0] hS6 fun w5 hS7=>?_
  have hS8:=hS7.nc #[(.slice Z1 l1.length cz1),.slice none 0 0,vI 0] rfl
  refine gn hK2<|ws fun K3 hK3=>wr [(0,0)]<|gb0 [0] [(12,.slice none 0 0)] ?_
  refine gn hK3<|ws fun K4 hK4=>wr [(0,1)]<|gw (some 13) (.cells #[.slice none 0 0] 23) (fun b=>pP b 0) hS8 fun b4 w6 hx4 hS9=>?_
  refine gn hK4<|ws fun K5 hK5=>wr [(0,1),(1,0)]<|gw (some 27) (.map #[] 0) (fun b=>.map (some b)) hS9 fun b5 w7 hx5 hS10=>?_
  have hS11:=hS10.newMap (κ:=Int) (ν:=Int)
  refine gb0 [1] [(14,.map (some b5))] ?_
  refine gn hK5<|ws fun K6 hK6=>wr [(0,0)]<|gb0 [0] [(15,vI 0)] ?_
  refine gn hK6<|ws fun K7 hK7=>we_block ?_
  have hS12:=hS11.nil (α:=SStep) 55
  have hS13:=hS12.nil (α:=Int) 3
  have hS22:=((((((((hS13.nil (α:=SPut) 43).b 3).b 1).b 6).b 3).b 4).b 7).b 7).b 7
  rcases hq10:iter (punctualref_Steps.r0 l0 l2 x3) K (([]:List SStep),0,([]:List Int),l1,([]:List SPut),0,([]:List (Int×Int))) with _ | (⟨m14,m15,m16,z6⟩ | rr2)
  ·rw [hq10] at h; cases h
  ·rw [hq10] at h
   simp only [] at h
   refine we_iter (A:=punctualref_Steps.A0 w0 l0 A0 c0 l2 A2 c2 x3 b1 Z1 cz1 b3 b4 b5) (B:=punctualref_Steps.B0 w0 b1 Z1 cz1 b3) hq10 (fun a hF=>⟨(.slice none 0 0),(.slice none 0 0),(.slice none 0 0),hS22,hF.weaken ea⟩) (fun s o hf a w hA Q hQ=>punctualref_Steps_r0 K w0 l0 A0 c0 l1 A1 c1 l2 A2 c2 x3 hR0 hL0 hR1 hL1 hR2 hL2 b1 b2 hc1 Z1 cz1 b3 b4 b5 s o hf a w hA Q hQ) ?_
   rintro _ a w45 _ ⟨rfl,v21,v22,hS334,hF⟩
   replace hS334:St w0 w45 [Own.blk b3 (.cells #[(.slice Z1 m15.length cz1),v22,vI z6] 27 (0,0)),Own.blk b1 (.cells #[.slice none 0 0,.slice none 0 0,vI 0] 27 (0,0)),Own.of v21 55 m14,Own.of (.slice Z1 m15.length cz1) 3 m15,Own.of v22 43 m16]:=hS334
   refine hK7 [(8,pP b1 0),(11,pP b3 0),(12,v21)] w45 ?_ a hF
   refine ws fun K44 hK44=>wr [(0,0),(1,0),(2,2),(3,0),(4,0)]<|gb [0,1] [(251,v21),(250,.agg #[(.slice Z1 m15.length cz1),v22,vI z6])] [.loaded ⟨b3,0,none⟩ ((.slice Z1 m15.length cz1)),.loaded ⟨b3,1,none⟩ (v22),.loaded ⟨b3,2,none⟩ (vI z6)] ⟨hS334.c 0,hS334.c 0,hS334.c 0,trivial⟩ ?_
   obtain ⟨Z10,cz10,rfl⟩:=hS334.open 4 rfl
   have hS335:=hS334.b 1
   refine gs b1 0 #[.slice none 0 0,.slice none 0 0,vI 0] 27 [(.slice Z1 m15.length cz1),(.slice Z10 m16.length cz10),vI z6] hS335 fun w46 hS336=>?_
   have hS337:=hS336.nc #[(.slice Z1 m15.length cz1),(.slice Z10 m16.length cz10),vI z6] rfl
   refine gb0 [3,4] [(10,.bool true),(9,v21)] ?_
   refine gn hK44 ?_
   have hS341:=(((hS337.b 2).b 4).b 4).takeN 3
   obtain rfl:=si h
   exact we_ret (pr [.cell 8 27,.tmp 9,.tmp 10] [.agg #[(.slice Z1 m15.length cz1),(.slice Z10 m16.length cz10),vI z6],v21,.bool true] [.loaded ⟨b1,0,none⟩ ((.slice Z1 m15.length cz1)),.loaded ⟨b1,1,none⟩ ((.slice Z10 m16.length cz10)),.loaded ⟨b1,2,none⟩ (vI z6)] ⟨hS337.c 0,hS337.c 0,hS337.c 0,trivial⟩ ⟨(.slice Z1 m15.length cz1),(.slice Z10 m16.length cz10),v21,rfl,hS341⟩)
  rw [hq10] at h
  simp only [] at h
  refine we_iter (A:=punctualref_Steps.A0 w0 l0 A0 c0 l2 A2 c2 x3 b1 Z1 cz1 b3 b4 b5) (B:=punctualref_Steps.B0 w0 b1 Z1 cz1 b3) hq10 (fun a hF=>⟨(.slice none 0 0),(.slice none 0 0),(.slice none 0 0),hS22,hF.weaken ea⟩) (fun s o hf a w hA Q hQ=>punctualref_Steps_r0 K w0 l0 A0 c0 l1 A1 c1 l2 A2 c2 x3 hR0 hL0 hR1 hL1 hR2 hL2 b1 b2 hc1 Z1 cz1 b3 b4 b5 s o hf a w hA Q hQ) ?_
  rintro _ a w1 _ ⟨rfl,hb⟩
  obtain rfl:=si h
  exact hb
 rw [if_neg hc1] at h
 cases h

/-! punctual/punctualref.Execute -/
abbrev punctualref_Execute.Post (w0:World) (r:SEnded×SFault) (e:Ending) (w:World):Prop:=∃ (v0:Value) (v1:Value),e=.returned (.tuple #[.agg #[v0,v1,vI r.1.Steps],.agg #[vI r.2.Code,vI r.2.At]])∧St w0 w [Own.of v0 3 r.1.Vars,Own.of v1 43 r.1.Puts]
def punctualref_Execute.p0 (r1 : (Option PImage) × SFault) : Option ((Int × Int × (List Int) × (List SPut) × Int) ⊕ (SEnded × SFault)) :=
  some (.inl (r1.2.Code,r1.2.At,([]:List Int),([]:List SPut),0))
def punctualref_Execute.p1 (r1 : (Option PImage) × SFault) : Option ((Int × Int × (List Int) × (List SPut) × Int) ⊕ (SEnded × SFault)) :=
  some (.inl (r1.2.Code,r1.2.At,([]:List Int),([]:List SPut),0))
def punctualref_Execute.f (K : Nat) (l0 : List SIns) (l1 : List Int) (l2 : List Int) : Option (SEnded × SFault) :=
 match punctualref_ReadImage.f K l0 with
 | none=>none
 | some r1 =>
  match r1.1 with
  | none =>
   if r1.2.Code=0 then
    if (l1.length:Int)=8 then
     if (l2.length:Int)=4 then
      match punctualref_Steps.f K l0 l1 l2 20000 with
      | none=>none
      | some r2 =>
       if r2.2.2=true then
        some (r2.1,(⟨0,0⟩:SFault))
       else
        match punctualref_Steps.f K l0 l1 l2 20001 with
        | none=>none
        | some r3 =>
         match r3.2.1[r2.2.1.length]? with
         | none=>none
         | some e1 =>
          some ((⟨([]:List Int),([]:List SPut),0⟩:SEnded),(punctualref_F.f 11 e1.At))
     else
      some ((⟨([]:List Int),([]:List SPut),0⟩:SEnded),(punctualref_F.f 3 0))
    else
     some ((⟨([]:List Int),([]:List SPut),0⟩:SEnded),(punctualref_F.f 3 0))
   else
    match punctualref_Execute.p0 r1 with
    | none=>none
    | some (.inl (z4,z5,m3,m4,z6)) =>
     some ((⟨m3,m4,z6⟩:SEnded),(⟨z4,z5⟩:SFault))
    | some (.inr rr1) =>
     some rr1
  | some px1 =>
   if r1.2.Code=0 then
    if (l1.length:Int)=8 then
     if (l2.length:Int)=4 then
      match punctualref_Steps.f K l0 l1 l2 20000 with
      | none=>none
      | some r4 =>
       if r4.2.2=true then
        some (r4.1,(⟨0,0⟩:SFault))
       else
        match punctualref_Steps.f K l0 l1 l2 20001 with
        | none=>none
        | some r5 =>
         match r5.2.1[r4.2.1.length]? with
         | none=>none
         | some e2 =>
          some ((⟨([]:List Int),([]:List SPut),0⟩:SEnded),(punctualref_F.f 11 e2.At))
     else
      some ((⟨([]:List Int),([]:List SPut),0⟩:SEnded),(punctualref_F.f 3 0))
    else
     some ((⟨([]:List Int),([]:List SPut),0⟩:SEnded),(punctualref_F.f 3 0))
   else
    match punctualref_Execute.p1 r1 with
    | none=>none
    | some (.inl (z10,z11,m7,m8,z12)) =>
     some ((⟨m7,m8,z12⟩:SEnded),(⟨z10,z11⟩:SFault))
    | some (.inr rr2) =>
     some rr2
abbrev punctualref_Execute.A0 (w0:World) (b1:Nat) (b2:Nat):(Int×Int×(List Int)×(List SPut)×Int)→Act→World→Prop:=fun (s:Int×Int×(List Int)×(List SPut)×Int) a w=>∃ (v7:Value) (v8:Value),St w0 w [Own.blk b2 (.cells #[vI s.1,vI s.2.1] 30 (0,0)),Own.blk b1 (.cells #[v7,v8,vI s.2.2.2.2] 27 (0,0)),Own.of v7 3 s.2.2.1,Own.of v8 43 s.2.2.2.1]∧Frm 64 a [(6,pP b1 0),(7,pP b2 0)]
abbrev punctualref_Execute.B0 (w0:World):(SEnded×SFault)→Exit→Act→World→Prop:=Rets Tryd.prog Tryd.f5 (punctualref_Execute.Post w0)
theorem punctualref_Execute_p0 (K:Nat) (w0:World) (l0:List SIns) (A0:Option Addr) (c0:Nat) (l1:List Int) (A1:Option Addr) (c1:Nat) (l2:List Int) (A2:Option Addr) (c2:Nat) (hR0:RdL w0 A0 l0) (hL0:l0.length≤c0) (hR1:RdL w0 A1 l1) (hL1:l1.length≤c1) (hR2:RdL w0 A2 l2) (hL2:l2.length≤c2) (b1:Nat) (b2:Nat) (r1:(Option PImage)×SFault) (b3:Nat) (hc1:¬ (r1.2.Code=0)) (o:(Int×Int×(List Int)×(List SPut)×Int) ⊕ (SEnded×SFault)) (h:punctualref_Execute.p0 r1=some o) (w:World) (hS:St w0 w [Own.blk b3 (.cells #[vI r1.2.Code,vI r1.2.At] 30 (0,0)),Own.blk b2 (.cells #[vI 0,vI 0] 30 (0,0)),Own.blk b1 (.cells #[.slice none 0 0,.slice none 0 0,vI 0] 27 (0,0))]) (Q:Exit→Act→World→Prop) (hQ:∀ x a w,Outs (punctualref_Execute.A0 w0 b1 b2) (punctualref_Execute.B0 w0) o x a w→Q x a w):WE Tryd.prog 64 (subF Tryd.f5 [1,0,1,1,0,0]) Q [(0,.slice A0 l0.length c0),(1,.slice A1 l1.length c1),(2,.slice A2 l2.length c2),(6,pP b1 0),(7,pP b2 0),(8,.pointer none),(9,pP b3 0),(16,.tuple #[.pointer none,.agg #[vI r1.2.Code,vI r1.2.At]]),(17,.slice A0 l0.length c0),(18,.tuple #[.pointer none,.agg #[vI r1.2.Code,vI r1.2.At]]),(19,.pointer none),(20,.agg #[vI r1.2.Code,vI r1.2.At]),(21,pP b3 0),(22,vI r1.2.Code),(23,.bool true)] w:=by
 simp only [punctualref_Execute.p0] at h
 refine we_orders3 (by kernel_rfl) [(1,[⟨b3,0,none⟩,⟨b3,1,none⟩],[],[])] (.vals [0] (.vals [1] (.alt 2 2 (.alt 3 2 .fin .nomore) .nomore))) (by kernel_rfl) (by kernel_rfl) ?_
 have hS63:=hS.drew
 refine g30 [0] [(24,.agg #[.slice none 0 0,.slice none 0 0,vI 0])] ?_
 refine g3 1 [(25,.agg #[vI r1.2.Code,vI r1.2.At])] [.loaded ⟨b3,0,none⟩ (vI r1.2.Code),.loaded ⟨b3,1,none⟩ (vI r1.2.At)] ⟨hS63.c 0,hS63.c 0,trivial⟩ ?_
 refine go_alt3 (fun KK hKK=>?_) ?_
 ·have hS64:=hS63.b 2
  refine gs b1 0 #[.slice none 0 0,.slice none 0 0,vI 0] 27 [.slice none 0 0,.slice none 0 0,vI 0] hS64 fun w23 hS65=>?_
  have hS66:=hS65.nc #[.slice none 0 0,.slice none 0 0,vI 0] rfl
  refine ge_nil fun a hF=>hKK _ _ (RS.of2 (l:=[.loaded ⟨b3,0,none⟩ (vI r1.2.Code),.loaded ⟨b3,1,none⟩ (vI r1.2.At)]) (by kernel_rfl) ⟨hS63.c 0,hS63.c 0,trivial⟩ ⟨hS66.c 1,hS66.c 1,trivial⟩) ?_ a hF
  refine go_alt3 (fun KK hKK=>?_) ?_
  ·have hS67:=hS66.b 2
   refine gs b2 0 #[vI 0,vI 0] 30 [vI r1.2.Code,vI r1.2.At] hS67 fun w24 hS68=>?_
   have hS69:=hS68.nc #[vI r1.2.Code,vI r1.2.At] rfl
   refine g2 hKK ?_
   have hS70:=hS69.nil (α:=Int) 3
   have hS75:=((((hS70.nil (α:=SPut) 43).b 1).b 3).b 3).takeN 4
   obtain rfl:=si h
   exact go_fin3 fun a hF=>hQ _ _ _ (Outs.again ⟨(.slice none 0 0),(.slice none 0 0),hS75,hF.weaken ea⟩)
  exact go_nomore3
 exact go_nomore3
abbrev punctualref_Execute.A1 (w0:World) (b1:Nat) (b2:Nat):(Int×Int×(List Int)×(List SPut)×Int)→Act→World→Prop:=fun (s:Int×Int×(List Int)×(List SPut)×Int) a w=>∃ (v17:Value) (v18:Value),St w0 w [Own.blk b2 (.cells #[vI s.1,vI s.2.1] 30 (0,0)),Own.blk b1 (.cells #[v17,v18,vI s.2.2.2.2] 27 (0,0)),Own.of v17 3 s.2.2.1,Own.of v18 43 s.2.2.2.1]∧Frm 64 a [(6,pP b1 0),(7,pP b2 0)]
abbrev punctualref_Execute.B1 (w0:World):(SEnded×SFault)→Exit→Act→World→Prop:=Rets Tryd.prog Tryd.f5 (punctualref_Execute.Post w0)
theorem punctualref_Execute_p1 (K:Nat) (w0:World) (l0:List SIns) (A0:Option Addr) (c0:Nat) (l1:List Int) (A1:Option Addr) (c1:Nat) (l2:List Int) (A2:Option Addr) (c2:Nat) (hR0:RdL w0 A0 l0) (hL0:l0.length≤c0) (hR1:RdL w0 A1 l1) (hL1:l1.length≤c1) (hR2:RdL w0 A2 l2) (hL2:l2.length≤c2) (b1:Nat) (b2:Nat) (r1:(Option PImage)×SFault) (px1:PImage) (pb1:Nat) (b6:Nat) (hc5:¬ (r1.2.Code=0)) (Z13:Option Addr) (cz13:Nat) (o:(Int×Int×(List Int)×(List SPut)×Int) ⊕ (SEnded×SFault)) (h:punctualref_Execute.p1 r1=some o) (w:World) (hS:St w0 w [Own.blk b6 (.cells #[vI r1.2.Code,vI r1.2.At] 30 (0,0)),Own.blk pb1 (.cells #[.slice A0 l0.length c0,(.slice Z13 px1.m_Regions.length cz13)] 68 (0,0)),Own.of (.slice Z13 px1.m_Regions.length cz13) 73 px1.m_Regions,Own.blk b2 (.cells #[vI 0,vI 0] 30 (0,0)),Own.blk b1 (.cells #[.slice none 0 0,.slice none 0 0,vI 0] 27 (0,0))]) (Q:Exit→Act→World→Prop) (hQ:∀ x a w,Outs (punctualref_Execute.A1 w0 b1 b2) (punctualref_Execute.B1 w0) o x a w→Q x a w):WE Tryd.prog 64 (subF Tryd.f5 [1,0,1,1,0,0]) Q [(0,.slice A0 l0.length c0),(1,.slice A1 l1.length c1),(2,.slice A2 l2.length c2),(6,pP b1 0),(7,pP b2 0),(8,pP pb1 0),(9,pP b6 0),(16,.tuple #[pP pb1 0,.agg #[vI r1.2.Code,vI r1.2.At]]),(17,.slice A0 l0.length c0),(18,.tuple #[pP pb1 0,.agg #[vI r1.2.Code,vI r1.2.At]]),(19,pP pb1 0),(20,.agg #[vI r1.2.Code,vI r1.2.At]),(21,pP b6 0),(22,vI r1.2.Code),(23,.bool true)] w:=by
 simp only [punctualref_Execute.p1] at h
 refine we_orders3 (by kernel_rfl) [(1,[⟨b6,0,none⟩,⟨b6,1,none⟩],[],[])] (.vals [0] (.vals [1] (.alt 2 2 (.alt 3 2 .fin .nomore) .nomore))) (by kernel_rfl) (by kernel_rfl) ?_
 have hS140:=hS.drew
 refine g30 [0] [(24,.agg #[.slice none 0 0,.slice none 0 0,vI 0])] ?_
 refine g3 1 [(25,.agg #[vI r1.2.Code,vI r1.2.At])] [.loaded ⟨b6,0,none⟩ (vI r1.2.Code),.loaded ⟨b6,1,none⟩ (vI r1.2.At)] ⟨hS140.c 0,hS140.c 0,trivial⟩ ?_
 refine go_alt3 (fun KK hKK=>?_) ?_
 ·have hS141:=hS140.b 4
  refine gs b1 0 #[.slice none 0 0,.slice none 0 0,vI 0] 27 [.slice none 0 0,.slice none 0 0,vI 0] hS141 fun w45 hS142=>?_
  have hS143:=hS142.nc #[.slice none 0 0,.slice none 0 0,vI 0] rfl
  refine ge_nil fun a hF=>hKK _ _ (RS.of2 (l:=[.loaded ⟨b6,0,none⟩ (vI r1.2.Code),.loaded ⟨b6,1,none⟩ (vI r1.2.At)]) (by kernel_rfl) ⟨hS140.c 0,hS140.c 0,trivial⟩ ⟨hS143.c 1,hS143.c 1,trivial⟩) ?_ a hF
  refine go_alt3 (fun KK hKK=>?_) ?_
  ·have hS144:=hS143.b 4
   refine gs b2 0 #[vI 0,vI 0] 30 [vI r1.2.Code,vI r1.2.At] hS144 fun w46 hS145=>?_
   have hS146:=hS145.nc #[vI r1.2.Code,vI r1.2.At] rfl
   refine g2 hKK ?_
   have hS147:=hS146.nil (α:=Int) 3
   have hS152:=((((hS147.nil (α:=SPut) 43).b 1).b 3).b 3).takeN 4
   obtain rfl:=si h
   exact go_fin3 fun a hF=>hQ _ _ _ (Outs.again ⟨(.slice none 0 0),(.slice none 0 0),hS152,hF.weaken ea⟩)
  exact go_nomore3
 exact go_nomore3
theorem punctualref_Execute_ok (K:Nat) (l0:List SIns) (A0:Option Addr) (c0:Nat) (l1:List Int) (A1:Option Addr) (c1:Nat) (l2:List Int) (A2:Option Addr) (c2:Nat) (w0:World) (hR0:RdL w0 A0 l0) (hL0:l0.length≤c0) (hR1:RdL w0 A1 l1) (hL1:l1.length≤c1) (hR2:RdL w0 A2 l2) (hL2:l2.length≤c2) (r:SEnded×SFault) (h:punctualref_Execute.f K l0 l1 l2=some r) :
  Calls Tryd.prog 5 #[.slice A0 l0.length c0,.slice A1 l1.length c1,.slice A2 l2.length c2] w0 (punctualref_Execute.Post w0 r):=by
 have hS:=St.start w0
 unfold punctualref_Execute.f at h
 refine calls_enter (n:=64) (args:=[.slice A0 l0.length c0,.slice A1 l1.length c1,.slice A2 l2.length c2]) (fn:=Tryd.f5) rfl rfl rfl rfl ?_
 show WE _ _ _ _ [(0,.slice A0 l0.length c0),(1,.slice A1 l1.length c1),(2,.slice A2 l2.length c2)] _
 refine ws fun K1 hK1=>wr [(0,1),(1,1)]<|gw (some 6) (.cells #[.slice none 0 0,.slice none 0 0,vI 0] 27) (fun b=>pP b 0) hS fun b1 w1 hx1 hS1=>?_
 refine gw (some 7) (.cells #[vI 0,vI 0] 30) (fun b=>pP b 0) hS1 fun b2 w2 hx2 hS2=>?_
 refine gn hK1<|ws fun K2 hK2=>ws fun K3 hK3=>wr [(0,0),(1,1),(2,0),(3,0),(4,0),(5,1),(6,0),(7,2)] ?_
 rcases hq1:punctualref_ReadImage.f K l0 with _ | r1
 ·rw [hq1] at h; cases h
 rw [hq1] at h
 simp only [] at h
 refine gb0 [0] [(17,.slice A0 l0.length c0)] ?_
 refine ge_call (d:=some 18) (f:=16) (args:=#[.slice A0 l0.length c0]) (by kernel_rfl) (punctualref_ReadImage_ok K l0 A0 c0 _ (hS2.rd hR0) hL0 _ hq1) ?_
 rintro _ w3 hP1
 unfold punctualref_ReadImage.Post at hP1
 rcases hro1:r1.1 with _ | px1
 ·rw [hro1] at hP1 h
  simp only [] at hP1 h
  obtain ⟨rfl,hS3⟩:=hP1
  refine ⟨_,rfl,hS3.below,?_⟩
  have hS4:=hS2.call hS3
  refine gb0 [2,3,4] [(20,.agg #[vI r1.2.Code,vI r1.2.At]),(19,.pointer none),(16,.tuple #[.pointer none,.agg #[vI r1.2.Code,vI r1.2.At]])] ?_
  refine gw (some 9) (.cells #[vI 0,vI 0] 30) (fun b=>pP b 0) hS4 fun b3 w4 hx3 hS5=>?_
  refine gb0 [6] [(8,.pointer none)] ?_
  refine gs b3 0 #[vI 0,vI 0] 30 [vI r1.2.Code,vI r1.2.At] hS5 fun w5 hS6=>?_
  have hS7:=hS6.nc #[vI r1.2.Code,vI r1.2.At] rfl
  refine gn hK3<|ws fun K4 hK4=>wr [(0,0),(1,0),(2,0)]<|gb [0,1,2] [(23,.bool (r1.2.Code != 0)),(22,vI r1.2.Code),(21,pP b3 0)] [.loaded ⟨b3,0,none⟩ (vI r1.2.Code)] ⟨hS7.c 0,trivial⟩ ?_
  refine gn hK4 ?_
  by_cases hc1:r1.2.Code=0
  ·rw [if_pos hc1] at h
   refine wk 23 (r1.2.Code != 0) false (bne_eq_false_iff_eq.2 hc1) ?_
   refine we_false (by kernel_rfl) ?_
   refine we_skip fun a hF=>hK2 _ _ ?_ a hF
   refine ws fun K5 hK5=>ws fun K6 hK6=>wr [(0,0),(1,0),(2,0),(3,0),(4,0),(5,0),(6,0),(7,0)]<|gb0 [0,1,2,3] [(29,.bool ((l1.length:Int) != 8)),(28,.bool ((l1.length:Int) != 8)),(27,vI (l1.length:Int)),(26,.slice A1 l1.length c1)] ?_
   by_cases hc2:(l1.length:Int)=8
   ·rw [if_pos hc2] at h
    refine gk 29 ((l1.length:Int) != 8) false (bne_eq_false_iff_eq.2 hc2) ?_
    refine gb0 [4,5,6,7] [(33,.bool ((l2.length:Int) != 4)),(32,.bool ((l2.length:Int) != 4)),(31,vI (l2.length:Int)),(30,.slice A2 l2.length c2)] ?_
    refine gn hK6 ?_
    by_cases hc3:(l2.length:Int)=4
    ·rw [if_pos hc3] at h
     refine wk 33 ((l2.length:Int) != 4) false (bne_eq_false_iff_eq.2 hc3) ?_
     refine we_false (by kernel_rfl) ?_
     refine we_skip fun a hF=>hK5 _ _ ?_ a hF
     refine ws fun K7 hK7=>wr [(0,0),(1,0),(2,0),(3,1),(4,0),(5,0),(6,0),(7,0),(8,1),(9,2),(10,0),(11,0)] ?_
     rcases hq2:punctualref_Steps.f K l0 l1 l2 20000 with _ | r2
     ·rw [hq2] at h; cases h
     rw [hq2] at h
     simp only [] at h
     refine gb0 [0,1,2] [(39,.slice A2 l2.length c2),(38,.slice A1 l1.length c1),(37,.slice A0 l0.length c0)] ?_
     refine ge_call (d:=some 40) (f:=18) (args:=#[.slice A0 l0.length c0,.slice A1 l1.length c1,.slice A2 l2.length c2,vI 20000]) (by kernel_rfl) (punctualref_Steps_ok K l0 A0 c0 l1 A1 c1 l2 A2 c2 20000 _ (hS7.rd hR0) hL0 (hS7.rd hR1) hL1 (hS7.rd hR2) hL2 _ hq2) ?_
     rintro _ w6 ⟨v1,v2,v3,rfl,hS8⟩
     refine ⟨_,rfl,hS8.below,?_⟩
     have hS9:=hS7.call hS8
     refine gb0 [4,5,6,7] [(43,.bool r2.2.2),(42,v3),(41,.agg #[v1,v2,vI r2.1.Steps]),(36,.tuple #[.agg #[v1,v2,vI r2.1.Steps],v3,.bool r2.2.2])] ?_
     refine gw (some 10) (.cells #[.slice none 0 0,.slice none 0 0,vI 0] 27) (fun b=>pP b 0) hS9 fun b4 w7 hx4 hS10=>?_
     obtain ⟨Z1,cz1,rfl⟩:=hS10.open 1 rfl
     obtain ⟨Z2,cz2,rfl⟩:=hS10.open 2 rfl
     refine gs b4 0 #[.slice none 0 0,.slice none 0 0,vI 0] 27 [(.slice Z1 r2.1.Vars.length cz1),(.slice Z2 r2.1.Puts.length cz2),vI r2.1.Steps] hS10 fun w8 hS11=>?_
     have hS12:=hS11.nc #[(.slice Z1 r2.1.Vars.length cz1),(.slice Z2 r2.1.Puts.length cz2),vI r2.1.Steps] rfl
     refine gb0 [10,11] [(12,.bool r2.2.2),(11,v3)] ?_
     refine gn hK7<|ws fun K8 hK8=>ws fun K9 hK9=>wr [(0,0),(1,0)]<|gb0 [0,1] [(45,.bool (!r2.2.2)),(44,.bool r2.2.2)] ?_
     refine gn hK9 ?_
     by_cases hc4:r2.2.2=true
     ·rw [if_pos hc4] at h
      refine wk 45 (!r2.2.2) false (congrArg (fun z=>!z) hc4) ?_
      refine we_false (by kernel_rfl) ?_
      refine we_skip fun a hF=>hK8 _ _ ?_ a hF
      refine ws fun K10 hK10=>wr [(0,0),(1,0),(2,2),(3,2)]<|gb [0,1] [(63,.agg #[vI 0,vI 0]),(62,.agg #[(.slice Z1 r2.1.Vars.length cz1),(.slice Z2 r2.1.Puts.length cz2),vI r2.1.Steps])] [.loaded ⟨b4,0,none⟩ ((.slice Z1 r2.1.Vars.length cz1)),.loaded ⟨b4,1,none⟩ ((.slice Z2 r2.1.Puts.length cz2)),.loaded ⟨b4,2,none⟩ (vI r2.1.Steps)] ⟨hS12.c 0,hS12.c 0,hS12.c 0,trivial⟩ ?_
      have hS13:=hS12.b 6
      refine gs b1 0 #[.slice none 0 0,.slice none 0 0,vI 0] 27 [(.slice Z1 r2.1.Vars.length cz1),(.slice Z2 r2.1.Puts.length cz2),vI r2.1.Steps] hS13 fun w9 hS14=>?_
      have hS16:=(hS14.nc #[(.slice Z1 r2.1.Vars.length cz1),(.slice Z2 r2.1.Puts.length cz2),vI r2.1.Steps] rfl).b 6
      refine gs b2 0 #[vI 0,vI 0] 30 [vI 0,vI 0] hS16 fun w10 hS17=>?_
      have hS18:=hS17.nc #[vI 0,vI 0] rfl
      refine gn hK10 ?_
      have hS21:=((hS18.b 4).b 4).takeN 2
      obtain rfl:=si h
      exact we_ret (pr [.cell 6 27,.cell 7 30] [.agg #[(.slice Z1 r2.1.Vars.length cz1),(.slice Z2 r2.1.Puts.length cz2),vI r2.1.Steps],.agg #[vI 0,vI 0]] [.loaded ⟨b1,0,none⟩ ((.slice Z1 r2.1.Vars.length cz1)),.loaded ⟨b1,1,none⟩ ((.slice Z2 r2.1.Puts.length cz2)),.loaded ⟨b1,2,none⟩ (vI r2.1.Steps),.loaded ⟨b2,0,none⟩ (vI 0),.loaded ⟨b2,1,none⟩ (vI 0)] ⟨hS18.c 1,hS18.c 1,hS18.c 1,hS18.c 0,hS18.c 0,trivial⟩ ⟨(.slice Z1 r2.1.Vars.length cz1),(.slice Z2 r2.1.Puts.length cz2),rfl,hS21⟩)
     rw [if_neg hc4] at h
     refine wk 45 (!r2.2.2) true (congrArg (fun z=>!z) (Bool.eq_false_iff.2 hc4)) ?_
     refine we_true (by kernel_rfl) ?_
     refine ws fun K11 hK11=>wr [(0,0),(1,0),(2,0),(3,1),(4,0),(5,0),(6,0),(7,0),(8,1),(9,2),(10,0),(11,0)] ?_
     rcases hq3:punctualref_Steps.f K l0 l1 l2 20001 with _ | r3
     ·rw [hq3] at h; cases h
     rw [hq3] at h
     simp only [] at h
     refine gb0 [0,1,2] [(49,.slice A2 l2.length c2),(48,.slice A1 l1.length c1),(47,.slice A0 l0.length c0)] ?_
     refine ge_call (d:=some 50) (f:=18) (args:=#[.slice A0 l0.length c0,.slice A1 l1.length c1,.slice A2 l2.length c2,vI 20001]) (by kernel_rfl) (punctualref_Steps_ok K l0 A0 c0 l1 A1 c1 l2 A2 c2 20001 _ (hS12.rd hR0) hL0 (hS12.rd hR1) hL1 (hS12.rd hR2) hL2 _ hq3) ?_
     rintro _ w11 ⟨v4,v5,v6,rfl,hS22⟩
     refine ⟨_,rfl,hS22.below,?_⟩
     have hS23:=hS12.call hS22
     refine gb0 [4,5,6,7] [(53,.bool r3.2.2),(52,v6),(51,.agg #[v4,v5,vI r3.1.Steps]),(46,.tuple #[.agg #[v4,v5,vI r3.1.Steps],v6,.bool r3.2.2])] ?_
     refine gw (some 13) (.cells #[.slice none 0 0,.slice none 0 0,vI 0] 27) (fun b=>pP b 0) hS23 fun b5 w12 hx5 hS24=>?_
     obtain ⟨Z3,cz3,rfl⟩:=hS24.open 1 rfl
     obtain ⟨Z4,cz4,rfl⟩:=hS24.open 2 rfl
     refine gs b5 0 #[.slice none 0 0,.slice none 0 0,vI 0] 27 [(.slice Z3 r3.1.Vars.length cz3),(.slice Z4 r3.1.Puts.length cz4),vI r3.1.Steps] hS24 fun w13 hS25=>?_
     have hS26:=hS25.nc #[(.slice Z3 r3.1.Vars.length cz3),(.slice Z4 r3.1.Puts.length cz4),vI r3.1.Steps] rfl
     refine gb0 [10,11] [(15,.bool r3.2.2),(14,v6)] ?_
     refine gn hK11<|ws fun K12 hK12=>wr [(0,0),(1,0),(2,0),(3,0),(4,0),(5,0),(6,0),(7,1),(8,2),(9,2)]<|gb0 [0,1,2] [(56,v3),(55,v6),(54,.agg #[.slice none 0 0,.slice none 0 0,vI 0])] ?_
     obtain ⟨Z5,cz5,rfl⟩:=hS26.open 7 rfl
     refine gb0 [3] [(57,vI (r2.2.1.length:Int))] ?_
     obtain ⟨Z6,cz6,rfl⟩:=hS26.open 3 rfl
     rcases hx6:r3.2.1[r2.2.1.length]? with _ | e1
     ·rw [hx6] at h; cases h
     rw [hx6] at h
     simp only [] at h
     refine gi 58 0 51 55 2 r3.2.1.length cz6 (.tmp 55) (.tmp 57) Z6 .i64 (r2.2.1.length:Int) r2.2.1.length ((hS26.rdAt 3 rfl).eqSome (pos_of_get hx6)) rfl (lt_of_get hx6) ?_
     refine gb [5,6] [(60,vI e1.At),(59,.pointer (some ⟨blkOf Z6,offOf Z6+r2.2.1.length*2,none⟩))] [.loaded ⟨blkOf Z6,offOf Z6+r2.2.1.length*2,none⟩ (vI e1.At)] ⟨RdL.cell (j:=0) (hS26.rdAt 3 rfl) hx6 rfl,trivial⟩ ?_
     refine ge_call (d:=some 61) (f:=17) (args:=#[vI 11,vI e1.At]) (by kernel_rfl) (punctualref_F_ok 11 e1.At _ _ rfl) ?_
     rintro _ w14 ⟨rfl,hS27⟩
     refine ⟨_,rfl,hS27.below,?_⟩
     have hS29:=(hS26.call hS27).b 10
     refine gs b1 0 #[.slice none 0 0,.slice none 0 0,vI 0] 27 [.slice none 0 0,.slice none 0 0,vI 0] hS29 fun w15 hS30=>?_
     have hS32:=(hS30.nc #[.slice none 0 0,.slice none 0 0,vI 0] rfl).b 10
     refine gs b2 0 #[vI 0,vI 0] 30 [vI ((punctualref_F.f 11 e1.At).Code),vI ((punctualref_F.f 11 e1.At).At)] hS32 fun w16 hS33=>?_
     have hS34:=hS33.nc #[vI ((punctualref_F.f 11 e1.At).Code),vI ((punctualref_F.f 11 e1.At).At)] rfl
     refine gn hK12 ?_
     have hS35:=hS34.nil (α:=Int) 3
     have hS36:=hS35.nil (α:=SPut) 43
     have hS38:=(hS36.b 1).takeN 2
     obtain rfl:=si h
     exact we_ret (pr [.cell 6 27,.cell 7 30] [.agg #[(.slice none 0 0),(.slice none 0 0),vI 0],.agg #[vI ((punctualref_F.f 11 e1.At).Code),vI ((punctualref_F.f 11 e1.At).At)]] [.loaded ⟨b1,0,none⟩ ((.slice none 0 0)),.loaded ⟨b1,1,none⟩ ((.slice none 0 0)),.loaded ⟨b1,2,none⟩ (vI 0),.loaded ⟨b2,0,none⟩ (vI ((punctualref_F.f 11 e1.At).Code)),.loaded ⟨b2,1,none⟩ (vI ((punctualref_F.f 11 e1.At).At))] ⟨hS36.c 3,hS36.c 3,hS36.c 3,hS36.c 2,hS36.c 2,trivial⟩ ⟨(.slice none 0 0),(.slice none 0 0),rfl,hS38⟩)
    rw [if_neg hc3] at h
    refine wk 33 ((l2.length:Int) != 4) true (bne_iff_ne.2 hc3) ?_
    refine we_true (by kernel_rfl) ?_
    refine ws fun K13 hK13=>wr [(0,0),(1,1),(2,2),(3,2)]<|gb0 [0] [(34,.agg #[.slice none 0 0,.slice none 0 0,vI 0])] ?_
    refine ge_call (d:=some 35) (f:=17) (args:=#[vI 3,vI 0]) (by kernel_rfl) (punctualref_F_ok 3 0 _ _ rfl) ?_
    rintro _ w17 ⟨rfl,hS39⟩
    refine ⟨_,rfl,hS39.below,?_⟩
    have hS41:=(hS7.call hS39).b 2
    refine gs b1 0 #[.slice none 0 0,.slice none 0 0,vI 0] 27 [.slice none 0 0,.slice none 0 0,vI 0] hS41 fun w18 hS42=>?_
    have hS44:=(hS42.nc #[.slice none 0 0,.slice none 0 0,vI 0] rfl).b 2
    refine gs b2 0 #[vI 0,vI 0] 30 [vI ((punctualref_F.f 3 0).Code),vI ((punctualref_F.f 3 0).At)] hS44 fun w19 hS45=>?_
    have hS46:=hS45.nc #[vI ((punctualref_F.f 3 0).Code),vI ((punctualref_F.f 3 0).At)] rfl
    refine gn hK13 ?_
    have hS47:=hS46.nil (α:=Int) 3
    have hS48:=hS47.nil (α:=SPut) 43
    have hS50:=(hS48.b 1).takeN 2
    obtain rfl:=si h
    exact we_ret (pr [.cell 6 27,.cell 7 30] [.agg #[(.slice none 0 0),(.slice none 0 0),vI 0],.agg #[vI ((punctualref_F.f 3 0).Code),vI ((punctualref_F.f 3 0).At)]] [.loaded ⟨b1,0,none⟩ ((.slice none 0 0)),.loaded ⟨b1,1,none⟩ ((.slice none 0 0)),.loaded ⟨b1,2,none⟩ (vI 0),.loaded ⟨b2,0,none⟩ (vI ((punctualref_F.f 3 0).Code)),.loaded ⟨b2,1,none⟩ (vI ((punctualref_F.f 3 0).At))] ⟨hS48.c 3,hS48.c 3,hS48.c 3,hS48.c 2,hS48.c 2,trivial⟩ ⟨(.slice none 0 0),(.slice none 0 0),rfl,hS50⟩)
   rw [if_neg hc2] at h
   refine gk 29 ((l1.length:Int) != 8) true (bne_iff_ne.2 hc2) ?_
   refine gb0 [4,5,6,7] [(33,.bool true),(32,undef),(31,undef),(30,undef)] ?_
   refine gn hK6<|we_true (by kernel_rfl) ?_
   refine ws fun K14 hK14=>wr [(0,0),(1,1),(2,2),(3,2)]<|gb0 [0] [(34,.agg #[.slice none 0 0,.slice none 0 0,vI 0])] ?_
   refine ge_call (d:=some 35) (f:=17) (args:=#[vI 3,vI 0]) (by kernel_rfl) (punctualref_F_ok 3 0 _ _ rfl) ?_
   rintro _ w20 ⟨rfl,hS51⟩
   refine ⟨_,rfl,hS51.below,?_⟩
   have hS53:=(hS7.call hS51).b 2
   refine gs b1 0 #[.slice none 0 0,.slice none 0 0,vI 0] 27 [.slice none 0 0,.slice none 0 0,vI 0] hS53 fun w21 hS54=>?_
   have hS56:=(hS54.nc #[.slice none 0 0,.slice none 0 0,vI 0] rfl).b 2
   refine gs b2 0 #[vI 0,vI 0] 30 [vI ((punctualref_F.f 3 0).Code),vI ((punctualref_F.f 3 0).At)] hS56 fun w22 hS57=>?_
   have hS58:=hS57.nc #[vI ((punctualref_F.f 3 0).Code),vI ((punctualref_F.f 3 0).At)] rfl
   refine gn hK14 ?_
   have hS59:=hS58.nil (α:=Int) 3
   have hS60:=hS59.nil (α:=SPut) 43
   have hS62:=(hS60.b 1).takeN 2
   obtain rfl:=si h
   exact we_ret (pr [.cell 6 27,.cell 7 30] [.agg #[(.slice none 0 0),(.slice none 0 0),vI 0],.agg #[vI ((punctualref_F.f 3 0).Code),vI ((punctualref_F.f 3 0).At)]] [.loaded ⟨b1,0,none⟩ ((.slice none 0 0)),.loaded ⟨b1,1,none⟩ ((.slice none 0 0)),.loaded ⟨b1,2,none⟩ (vI 0),.loaded ⟨b2,0,none⟩ (vI ((punctualref_F.f 3 0).Code)),.loaded ⟨b2,1,none⟩ (vI ((punctualref_F.f 3 0).At))] ⟨hS60.c 3,hS60.c 3,hS60.c 3,hS60.c 2,hS60.c 2,trivial⟩ ⟨(.slice none 0 0),(.slice none 0 0),rfl,hS62⟩)
  rw [if_neg hc1] at h
  refine wk 23 (r1.2.Code != 0) true (bne_iff_ne.2 hc1) ?_
  refine we_true (by kernel_rfl) ?_
  refine ws fun K15 hK15=>?_
  rcases hq7:punctualref_Execute.p0 r1 with _ | (⟨z4,z5,m3,m4,z6⟩ | rr1)
  ·rw [hq7] at h; cases h
  ·rw [hq7] at h
   simp only [] at h
   refine we_keep (e':=[(0,.slice A0 l0.length c0),(1,.slice A1 l1.length c1),(2,.slice A2 l2.length c2),(6,pP b1 0),(7,pP b2 0),(8,.pointer none),(9,pP b3 0),(16,.tuple #[.pointer none,.agg #[vI r1.2.Code,vI r1.2.At]]),(17,.slice A0 l0.length c0),(18,.tuple #[.pointer none,.agg #[vI r1.2.Code,vI r1.2.At]]),(19,.pointer none),(20,.agg #[vI r1.2.Code,vI r1.2.At]),(21,pP b3 0),(22,vI r1.2.Code),(23,.bool true)]) ea (punctualref_Execute_p0 K w0 l0 A0 c0 l1 A1 c1 l2 A2 c2 hR0 hL0 hR1 hL1 hR2 hL2 b1 b2 r1 b3 hc1 _ hq7 _ hS7 _ ?_)
   rintro _ a w25 ⟨rfl,v9,v10,hS76,hF⟩
   replace hS76:St w0 w25 [Own.blk b2 (.cells #[vI z4,vI z5] 30 (0,0)),Own.blk b1 (.cells #[v9,v10,vI z6] 27 (0,0)),Own.of v9 3 m3,Own.of v10 43 m4]:=hS76
   refine hK15 [(6,pP b1 0),(7,pP b2 0)] w25 ?_ a hF
   have hS79:=((hS76.b 3).b 3).takeN 2
   obtain rfl:=si h
   exact we_ret (pr [.cell 6 27,.cell 7 30] [.agg #[v9,v10,vI z6],.agg #[vI z4,vI z5]] [.loaded ⟨b1,0,none⟩ (v9),.loaded ⟨b1,1,none⟩ (v10),.loaded ⟨b1,2,none⟩ (vI z6),.loaded ⟨b2,0,none⟩ (vI z4),.loaded ⟨b2,1,none⟩ (vI z5)] ⟨hS76.c 1,hS76.c 1,hS76.c 1,hS76.c 0,hS76.c 0,trivial⟩ ⟨v9,v10,rfl,hS79⟩)
  rw [hq7] at h
  simp only [] at h
  refine we_keep (e':=[(0,.slice A0 l0.length c0),(1,.slice A1 l1.length c1),(2,.slice A2 l2.length c2),(6,pP b1 0),(7,pP b2 0),(8,.pointer none),(9,pP b3 0),(16,.tuple #[.pointer none,.agg #[vI r1.2.Code,vI r1.2.At]]),(17,.slice A0 l0.length c0),(18,.tuple #[.pointer none,.agg #[vI r1.2.Code,vI r1.2.At]]),(19,.pointer none),(20,.agg #[vI r1.2.Code,vI r1.2.At]),(21,pP b3 0),(22,vI r1.2.Code),(23,.bool true)]) ea (punctualref_Execute_p0 K w0 l0 A0 c0 l1 A1 c1 l2 A2 c2 hR0 hL0 hR1 hL1 hR2 hL2 b1 b2 r1 b3 hc1 _ hq7 _ hS7 _ ?_)
  rintro _ a w1 ⟨_,rfl,hb⟩
  obtain rfl:=si h
  exact hb
 rw [hro1] at hP1 h
 simp only [] at hP1 h
 obtain ⟨pb1,pv1,rfl,hS80⟩:=hP1
 refine ⟨_,rfl,hS80.below,?_⟩
 have hS81:=hS2.call hS80
 refine gb0 [2,3,4] [(20,.agg #[vI r1.2.Code,vI r1.2.At]),(19,pP pb1 0),(16,.tuple #[pP pb1 0,.agg #[vI r1.2.Code,vI r1.2.At]])] ?_
 refine gw (some 9) (.cells #[vI 0,vI 0] 30) (fun b=>pP b 0) hS81 fun b6 w26 hx7 hS82=>?_
 refine gb0 [6] [(8,pP pb1 0)] ?_
 refine gs b6 0 #[vI 0,vI 0] 30 [vI r1.2.Code,vI r1.2.At] hS82 fun w27 hS83=>?_
 have hS84:=hS83.nc #[vI r1.2.Code,vI r1.2.At] rfl
 refine gn hK3<|ws fun K16 hK16=>wr [(0,0),(1,0),(2,0)]<|gb [0,1,2] [(23,.bool (r1.2.Code != 0)),(22,vI r1.2.Code),(21,pP b6 0)] [.loaded ⟨b6,0,none⟩ (vI r1.2.Code)] ⟨hS84.c 0,trivial⟩ ?_
 refine gn hK16 ?_
 by_cases hc5:r1.2.Code=0
 ·rw [if_pos hc5] at h
  refine wk 23 (r1.2.Code != 0) false (bne_eq_false_iff_eq.2 hc5) ?_
  refine we_false (by kernel_rfl) ?_
  refine we_skip fun a hF=>hK2 _ _ ?_ a hF
  refine ws fun K17 hK17=>ws fun K18 hK18=>wr [(0,0),(1,0),(2,0),(3,0),(4,0),(5,0),(6,0),(7,0)]<|gb0 [0,1,2,3] [(29,.bool ((l1.length:Int) != 8)),(28,.bool ((l1.length:Int) != 8)),(27,vI (l1.length:Int)),(26,.slice A1 l1.length c1)] ?_
  by_cases hc6:(l1.length:Int)=8
  ·rw [if_pos hc6] at h
   refine gk 29 ((l1.length:Int) != 8) false (bne_eq_false_iff_eq.2 hc6) ?_
   refine gb0 [4,5,6,7] [(33,.bool ((l2.length:Int) != 4)),(32,.bool ((l2.length:Int) != 4)),(31,vI (l2.length:Int)),(30,.slice A2 l2.length c2)] ?_
   refine gn hK18 ?_
   by_cases hc7:(l2.length:Int)=4
   ·rw [if_pos hc7] at h
    refine wk 33 ((l2.length:Int) != 4) false (bne_eq_false_iff_eq.2 hc7) ?_
    refine we_false (by kernel_rfl) ?_
    refine we_skip fun a hF=>hK17 _ _ ?_ a hF
    refine ws fun K19 hK19=>wr [(0,0),(1,0),(2,0),(3,1),(4,0),(5,0),(6,0),(7,0),(8,1),(9,2),(10,0),(11,0)] ?_
    rcases hq8:punctualref_Steps.f K l0 l1 l2 20000 with _ | r4
    ·rw [hq8] at h; cases h
    rw [hq8] at h
    simp only [] at h
    refine gb0 [0,1,2] [(39,.slice A2 l2.length c2),(38,.slice A1 l1.length c1),(37,.slice A0 l0.length c0)] ?_
    refine ge_call (d:=some 40) (f:=18) (args:=#[.slice A0 l0.length c0,.slice A1 l1.length c1,.slice A2 l2.length c2,vI 20000]) (by kernel_rfl) (punctualref_Steps_ok K l0 A0 c0 l1 A1 c1 l2 A2 c2 20000 _ (hS84.rd hR0) hL0 (hS84.rd hR1) hL1 (hS84.rd hR2) hL2 _ hq8) ?_
    rintro _ w28 ⟨v11,v12,v13,rfl,hS85⟩
    refine ⟨_,rfl,hS85.below,?_⟩
    have hS86:=hS84.call hS85
    refine gb0 [4,5,6,7] [(43,.bool r4.2.2),(42,v13),(41,.agg #[v11,v12,vI r4.1.Steps]),(36,.tuple #[.agg #[v11,v12,vI r4.1.Steps],v13,.bool r4.2.2])] ?_
    refine gw (some 10) (.cells #[.slice none 0 0,.slice none 0 0,vI 0] 27) (fun b=>pP b 0) hS86 fun b7 w29 hx8 hS87=>?_
    obtain ⟨Z7,cz7,rfl⟩:=hS87.open 1 rfl
    obtain ⟨Z8,cz8,rfl⟩:=hS87.open 2 rfl
    refine gs b7 0 #[.slice none 0 0,.slice none 0 0,vI 0] 27 [(.slice Z7 r4.1.Vars.length cz7),(.slice Z8 r4.1.Puts.length cz8),vI r4.1.Steps] hS87 fun w30 hS88=>?_
    have hS89:=hS88.nc #[(.slice Z7 r4.1.Vars.length cz7),(.slice Z8 r4.1.Puts.length cz8),vI r4.1.Steps] rfl
    refine gb0 [10,11] [(12,.bool r4.2.2),(11,v13)] ?_
    refine gn hK19<|ws fun K20 hK20=>ws fun K21 hK21=>wr [(0,0),(1,0)]<|gb0 [0,1] [(45,.bool (!r4.2.2)),(44,.bool r4.2.2)] ?_
    refine gn hK21 ?_
    by_cases hc8:r4.2.2=true
    ·rw [if_pos hc8] at h
     refine wk 45 (!r4.2.2) false (congrArg (fun z=>!z) hc8) ?_
     refine we_false (by kernel_rfl) ?_
     refine we_skip fun a hF=>hK20 _ _ ?_ a hF
     refine ws fun K22 hK22=>wr [(0,0),(1,0),(2,2),(3,2)]<|gb [0,1] [(63,.agg #[vI 0,vI 0]),(62,.agg #[(.slice Z7 r4.1.Vars.length cz7),(.slice Z8 r4.1.Puts.length cz8),vI r4.1.Steps])] [.loaded ⟨b7,0,none⟩ ((.slice Z7 r4.1.Vars.length cz7)),.loaded ⟨b7,1,none⟩ ((.slice Z8 r4.1.Puts.length cz8)),.loaded ⟨b7,2,none⟩ (vI r4.1.Steps)] ⟨hS89.c 0,hS89.c 0,hS89.c 0,trivial⟩ ?_
     have hS90:=hS89.b 8
     refine gs b1 0 #[.slice none 0 0,.slice none 0 0,vI 0] 27 [(.slice Z7 r4.1.Vars.length cz7),(.slice Z8 r4.1.Puts.length cz8),vI r4.1.Steps] hS90 fun w31 hS91=>?_
     have hS93:=(hS91.nc #[(.slice Z7 r4.1.Vars.length cz7),(.slice Z8 r4.1.Puts.length cz8),vI r4.1.Steps] rfl).b 8
     refine gs b2 0 #[vI 0,vI 0] 30 [vI 0,vI 0] hS93 fun w32 hS94=>?_
     have hS95:=hS94.nc #[vI 0,vI 0] rfl
     refine gn hK22 ?_
     have hS98:=((hS95.b 4).b 4).takeN 2
     obtain rfl:=si h
     exact we_ret (pr [.cell 6 27,.cell 7 30] [.agg #[(.slice Z7 r4.1.Vars.length cz7),(.slice Z8 r4.1.Puts.length cz8),vI r4.1.Steps],.agg #[vI 0,vI 0]] [.loaded ⟨b1,0,none⟩ ((.slice Z7 r4.1.Vars.length cz7)),.loaded ⟨b1,1,none⟩ ((.slice Z8 r4.1.Puts.length cz8)),.loaded ⟨b1,2,none⟩ (vI r4.1.Steps),.loaded ⟨b2,0,none⟩ (vI 0),.loaded ⟨b2,1,none⟩ (vI 0)] ⟨hS95.c 1,hS95.c 1,hS95.c 1,hS95.c 0,hS95.c 0,trivial⟩ ⟨(.slice Z7 r4.1.Vars.length cz7),(.slice Z8 r4.1.Puts.length cz8),rfl,hS98⟩)
    rw [if_neg hc8] at h
    refine wk 45 (!r4.2.2) true (congrArg (fun z=>!z) (Bool.eq_false_iff.2 hc8)) ?_
    refine we_true (by kernel_rfl) ?_
    refine ws fun K23 hK23=>wr [(0,0),(1,0),(2,0),(3,1),(4,0),(5,0),(6,0),(7,0),(8,1),(9,2),(10,0),(11,0)] ?_
    rcases hq9:punctualref_Steps.f K l0 l1 l2 20001 with _ | r5
    ·rw [hq9] at h; cases h
    rw [hq9] at h
    simp only [] at h
    refine gb0 [0,1,2] [(49,.slice A2 l2.length c2),(48,.slice A1 l1.length c1),(47,.slice A0 l0.length c0)] ?_
    refine ge_call (d:=some 50) (f:=18) (args:=#[.slice A0 l0.length c0,.slice A1 l1.length c1,.slice A2 l2.length c2,vI 20001]) (by kernel_rfl) (punctualref_Steps_ok K l0 A0 c0 l1 A1 c1 l2 A2 c2 20001 _ (hS89.rd hR0) hL0 (hS89.rd hR1) hL1 (hS89.rd hR2) hL2 _ hq9) ?_
    rintro _ w33 ⟨v14,v15,v16,rfl,hS99⟩
    refine ⟨_,rfl,hS99.below,?_⟩
    have hS100:=hS89.call hS99
    refine gb0 [4,5,6,7] [(53,.bool r5.2.2),(52,v16),(51,.agg #[v14,v15,vI r5.1.Steps]),(46,.tuple #[.agg #[v14,v15,vI r5.1.Steps],v16,.bool r5.2.2])] ?_
    refine gw (some 13) (.cells #[.slice none 0 0,.slice none 0 0,vI 0] 27) (fun b=>pP b 0) hS100 fun b8 w34 hx9 hS101=>?_
    obtain ⟨Z9,cz9,rfl⟩:=hS101.open 1 rfl
    obtain ⟨Z10,cz10,rfl⟩:=hS101.open 2 rfl
    refine gs b8 0 #[.slice none 0 0,.slice none 0 0,vI 0] 27 [(.slice Z9 r5.1.Vars.length cz9),(.slice Z10 r5.1.Puts.length cz10),vI r5.1.Steps] hS101 fun w35 hS102=>?_
    have hS103:=hS102.nc #[(.slice Z9 r5.1.Vars.length cz9),(.slice Z10 r5.1.Puts.length cz10),vI r5.1.Steps] rfl
    refine gb0 [10,11] [(15,.bool r5.2.2),(14,v16)] ?_
    refine gn hK23<|ws fun K24 hK24=>wr [(0,0),(1,0),(2,0),(3,0),(4,0),(5,0),(6,0),(7,1),(8,2),(9,2)]<|gb0 [0,1,2] [(56,v13),(55,v16),(54,.agg #[.slice none 0 0,.slice none 0 0,vI 0])] ?_
    obtain ⟨Z11,cz11,rfl⟩:=hS103.open 7 rfl
    refine gb0 [3] [(57,vI (r4.2.1.length:Int))] ?_
    obtain ⟨Z12,cz12,rfl⟩:=hS103.open 3 rfl
    rcases hx10:r5.2.1[r4.2.1.length]? with _ | e2
    ·rw [hx10] at h; cases h
    rw [hx10] at h
    simp only [] at h
    refine gi 58 0 51 55 2 r5.2.1.length cz12 (.tmp 55) (.tmp 57) Z12 .i64 (r4.2.1.length:Int) r4.2.1.length ((hS103.rdAt 3 rfl).eqSome (pos_of_get hx10)) rfl (lt_of_get hx10) ?_
    refine gb [5,6] [(60,vI e2.At),(59,.pointer (some ⟨blkOf Z12,offOf Z12+r4.2.1.length*2,none⟩))] [.loaded ⟨blkOf Z12,offOf Z12+r4.2.1.length*2,none⟩ (vI e2.At)] ⟨RdL.cell (j:=0) (hS103.rdAt 3 rfl) hx10 rfl,trivial⟩ ?_
    refine ge_call (d:=some 61) (f:=17) (args:=#[vI 11,vI e2.At]) (by kernel_rfl) (punctualref_F_ok 11 e2.At _ _ rfl) ?_
    rintro _ w36 ⟨rfl,hS104⟩
    refine ⟨_,rfl,hS104.below,?_⟩
    have hS106:=(hS103.call hS104).b 12
    refine gs b1 0 #[.slice none 0 0,.slice none 0 0,vI 0] 27 [.slice none 0 0,.slice none 0 0,vI 0] hS106 fun w37 hS107=>?_
    have hS109:=(hS107.nc #[.slice none 0 0,.slice none 0 0,vI 0] rfl).b 12
    refine gs b2 0 #[vI 0,vI 0] 30 [vI ((punctualref_F.f 11 e2.At).Code),vI ((punctualref_F.f 11 e2.At).At)] hS109 fun w38 hS110=>?_
    have hS111:=hS110.nc #[vI ((punctualref_F.f 11 e2.At).Code),vI ((punctualref_F.f 11 e2.At).At)] rfl
    refine gn hK24 ?_
    have hS112:=hS111.nil (α:=Int) 3
    have hS113:=hS112.nil (α:=SPut) 43
    have hS115:=(hS113.b 1).takeN 2
    obtain rfl:=si h
    exact we_ret (pr [.cell 6 27,.cell 7 30] [.agg #[(.slice none 0 0),(.slice none 0 0),vI 0],.agg #[vI ((punctualref_F.f 11 e2.At).Code),vI ((punctualref_F.f 11 e2.At).At)]] [.loaded ⟨b1,0,none⟩ ((.slice none 0 0)),.loaded ⟨b1,1,none⟩ ((.slice none 0 0)),.loaded ⟨b1,2,none⟩ (vI 0),.loaded ⟨b2,0,none⟩ (vI ((punctualref_F.f 11 e2.At).Code)),.loaded ⟨b2,1,none⟩ (vI ((punctualref_F.f 11 e2.At).At))] ⟨hS113.c 3,hS113.c 3,hS113.c 3,hS113.c 2,hS113.c 2,trivial⟩ ⟨(.slice none 0 0),(.slice none 0 0),rfl,hS115⟩)
   rw [if_neg hc7] at h
   refine wk 33 ((l2.length:Int) != 4) true (bne_iff_ne.2 hc7) ?_
   refine we_true (by kernel_rfl) ?_
   refine ws fun K25 hK25=>wr [(0,0),(1,1),(2,2),(3,2)]<|gb0 [0] [(34,.agg #[.slice none 0 0,.slice none 0 0,vI 0])] ?_
   refine ge_call (d:=some 35) (f:=17) (args:=#[vI 3,vI 0]) (by kernel_rfl) (punctualref_F_ok 3 0 _ _ rfl) ?_
   rintro _ w39 ⟨rfl,hS116⟩
   refine ⟨_,rfl,hS116.below,?_⟩
   have hS118:=(hS84.call hS116).b 4
   refine gs b1 0 #[.slice none 0 0,.slice none 0 0,vI 0] 27 [.slice none 0 0,.slice none 0 0,vI 0] hS118 fun w40 hS119=>?_
   have hS121:=(hS119.nc #[.slice none 0 0,.slice none 0 0,vI 0] rfl).b 4
   refine gs b2 0 #[vI 0,vI 0] 30 [vI ((punctualref_F.f 3 0).Code),vI ((punctualref_F.f 3 0).At)] hS121 fun w41 hS122=>?_
   have hS123:=hS122.nc #[vI ((punctualref_F.f 3 0).Code),vI ((punctualref_F.f 3 0).At)] rfl
   refine gn hK25 ?_
   have hS124:=hS123.nil (α:=Int) 3
   have hS125:=hS124.nil (α:=SPut) 43
   have hS127:=(hS125.b 1).takeN 2
   obtain rfl:=si h
   exact we_ret (pr [.cell 6 27,.cell 7 30] [.agg #[(.slice none 0 0),(.slice none 0 0),vI 0],.agg #[vI ((punctualref_F.f 3 0).Code),vI ((punctualref_F.f 3 0).At)]] [.loaded ⟨b1,0,none⟩ ((.slice none 0 0)),.loaded ⟨b1,1,none⟩ ((.slice none 0 0)),.loaded ⟨b1,2,none⟩ (vI 0),.loaded ⟨b2,0,none⟩ (vI ((punctualref_F.f 3 0).Code)),.loaded ⟨b2,1,none⟩ (vI ((punctualref_F.f 3 0).At))] ⟨hS125.c 3,hS125.c 3,hS125.c 3,hS125.c 2,hS125.c 2,trivial⟩ ⟨(.slice none 0 0),(.slice none 0 0),rfl,hS127⟩)
  rw [if_neg hc6] at h
  refine gk 29 ((l1.length:Int) != 8) true (bne_iff_ne.2 hc6) ?_
  refine gb0 [4,5,6,7] [(33,.bool true),(32,undef),(31,undef),(30,undef)] ?_
  refine gn hK18<|we_true (by kernel_rfl) ?_
  refine ws fun K26 hK26=>wr [(0,0),(1,1),(2,2),(3,2)]<|gb0 [0] [(34,.agg #[.slice none 0 0,.slice none 0 0,vI 0])] ?_
  refine ge_call (d:=some 35) (f:=17) (args:=#[vI 3,vI 0]) (by kernel_rfl) (punctualref_F_ok 3 0 _ _ rfl) ?_
  rintro _ w42 ⟨rfl,hS128⟩
  refine ⟨_,rfl,hS128.below,?_⟩
  have hS130:=(hS84.call hS128).b 4
  refine gs b1 0 #[.slice none 0 0,.slice none 0 0,vI 0] 27 [.slice none 0 0,.slice none 0 0,vI 0] hS130 fun w43 hS131=>?_
  have hS133:=(hS131.nc #[.slice none 0 0,.slice none 0 0,vI 0] rfl).b 4
  refine gs b2 0 #[vI 0,vI 0] 30 [vI ((punctualref_F.f 3 0).Code),vI ((punctualref_F.f 3 0).At)] hS133 fun w44 hS134=>?_
  have hS135:=hS134.nc #[vI ((punctualref_F.f 3 0).Code),vI ((punctualref_F.f 3 0).At)] rfl
  refine gn hK26 ?_
  have hS136:=hS135.nil (α:=Int) 3
  have hS137:=hS136.nil (α:=SPut) 43
  have hS139:=(hS137.b 1).takeN 2
  obtain rfl:=si h
  exact we_ret (pr [.cell 6 27,.cell 7 30] [.agg #[(.slice none 0 0),(.slice none 0 0),vI 0],.agg #[vI ((punctualref_F.f 3 0).Code),vI ((punctualref_F.f 3 0).At)]] [.loaded ⟨b1,0,none⟩ ((.slice none 0 0)),.loaded ⟨b1,1,none⟩ ((.slice none 0 0)),.loaded ⟨b1,2,none⟩ (vI 0),.loaded ⟨b2,0,none⟩ (vI ((punctualref_F.f 3 0).Code)),.loaded ⟨b2,1,none⟩ (vI ((punctualref_F.f 3 0).At))] ⟨hS137.c 3,hS137.c 3,hS137.c 3,hS137.c 2,hS137.c 2,trivial⟩ ⟨(.slice none 0 0),(.slice none 0 0),rfl,hS139⟩)
 rw [if_neg hc5] at h
 refine wk 23 (r1.2.Code != 0) true (bne_iff_ne.2 hc5) ?_
 refine we_true (by kernel_rfl) ?_
 refine ws fun K27 hK27=>?_
 obtain ⟨Z13,cz13,rfl⟩:=hS84.open 2 rfl
 rcases hq13:punctualref_Execute.p1 r1 with _ | (⟨z10,z11,m7,m8,z12⟩ | rr2)
 ·rw [hq13] at h; cases h
 ·rw [hq13] at h
  simp only [] at h
  refine we_keep (e':=[(0,.slice A0 l0.length c0),(1,.slice A1 l1.length c1),(2,.slice A2 l2.length c2),(6,pP b1 0),(7,pP b2 0),(8,pP pb1 0),(9,pP b6 0),(16,.tuple #[pP pb1 0,.agg #[vI r1.2.Code,vI r1.2.At]]),(17,.slice A0 l0.length c0),(18,.tuple #[pP pb1 0,.agg #[vI r1.2.Code,vI r1.2.At]]),(19,pP pb1 0),(20,.agg #[vI r1.2.Code,vI r1.2.At]),(21,pP b6 0),(22,vI r1.2.Code),(23,.bool true)]) ea (punctualref_Execute_p1 K w0 l0 A0 c0 l1 A1 c1 l2 A2 c2 hR0 hL0 hR1 hL1 hR2 hL2 b1 b2 r1 px1 pb1 b6 hc5 Z13 cz13 _ hq13 _ hS84 _ ?_)
  rintro _ a w47 ⟨rfl,v19,v20,hS153,hF⟩
  replace hS153:St w0 w47 [Own.blk b2 (.cells #[vI z10,vI z11] 30 (0,0)),Own.blk b1 (.cells #[v19,v20,vI z12] 27 (0,0)),Own.of v19 3 m7,Own.of v20 43 m8]:=hS153
  refine hK27 [(6,pP b1 0),(7,pP b2 0)] w47 ?_ a hF
  have hS156:=((hS153.b 3).b 3).takeN 2
  obtain rfl:=si h
  exact we_ret (pr [.cell 6 27,.cell 7 30] [.agg #[v19,v20,vI z12],.agg #[vI z10,vI z11]] [.loaded ⟨b1,0,none⟩ (v19),.loaded ⟨b1,1,none⟩ (v20),.loaded ⟨b1,2,none⟩ (vI z12),.loaded ⟨b2,0,none⟩ (vI z10),.loaded ⟨b2,1,none⟩ (vI z11)] ⟨hS153.c 1,hS153.c 1,hS153.c 1,hS153.c 0,hS153.c 0,trivial⟩ ⟨v19,v20,rfl,hS156⟩)
 rw [hq13] at h
 simp only [] at h
 refine we_keep (e':=[(0,.slice A0 l0.length c0),(1,.slice A1 l1.length c1),(2,.slice A2 l2.length c2),(6,pP b1 0),(7,pP b2 0),(8,pP pb1 0),(9,pP b6 0),(16,.tuple #[pP pb1 0,.agg #[vI r1.2.Code,vI r1.2.At]]),(17,.slice A0 l0.length c0),(18,.tuple #[pP pb1 0,.agg #[vI r1.2.Code,vI r1.2.At]]),(19,pP pb1 0),(20,.agg #[vI r1.2.Code,vI r1.2.At]),(21,pP b6 0),(22,vI r1.2.Code),(23,.bool true)]) ea (punctualref_Execute_p1 K w0 l0 A0 c0 l1 A1 c1 l2 A2 c2 hR0 hL0 hR1 hL1 hR2 hL2 b1 b2 r1 px1 pb1 b6 hc5 Z13 cz13 _ hq13 _ hS84 _ ?_)
 rintro _ a w1 ⟨_,rfl,hb⟩
 obtain rfl:=si h
 exact hb

/-! punctual/punctualsame.Lend[punctual/api.Ins] -/
abbrev punctualsame_Lend_api_Ins.Post (w0:World) (n:Nat) (r:List SIns) (e:Ending) (w:World):Prop:=∃ (A:Option Addr) (c:Nat),e=.returned (.slice A n c)∧r.length≤c∧St w0 w [Own.of (.slice A r.length c) 35 r]
def punctualsame_Lend_api_Ins.f (l0 : List SIns) (x1 : SIns) : Option (List SIns) :=
 if 0≤(IntKind.i64.wrap ((l0.length:Int)+3)) then
  if ((IntKind.i64.wrap ((l0.length:Int)+3)).toNat)≤5864062014805 then
   if (List.replicate 0 (⟨0,0,0⟩:SIns)).length+l0.length≤5864062014805 then
    if ((List.replicate 0 (⟨0,0,0⟩:SIns))++l0).length+3≤5864062014805 then
     some (((List.replicate 0 (⟨0,0,0⟩:SIns))++l0)++([x1,x1,x1]:List SIns))
    else
     none
   else
    none
  else
   none
 else
  none
theorem punctualsame_Lend_api_Ins_ok (l0:List SIns) (A0:Option Addr) (c0:Nat) (x1:SIns) (w0:World) (hR0:RdL w0 A0 l0) (hL0:l0.length≤c0) (r:List SIns) (h:punctualsame_Lend_api_Ins.f l0 x1=some r) :
  Calls Tryd.prog 6 #[.slice A0 l0.length c0,.agg #[vI x1.Op,vI x1.A,vI x1.B]] w0 (punctualsame_Lend_api_Ins.Post w0 l0.length r):=by
 have hS:=St.start w0
 unfold punctualsame_Lend_api_Ins.f at h
 refine calls_enter (n:=21) (args:=[.slice A0 l0.length c0,.agg #[vI x1.Op,vI x1.A,vI x1.B]]) (fn:=Tryd.f6) rfl rfl rfl rfl ?_
 show WE _ _ _ _ [(0,.slice A0 l0.length c0),(1,.agg #[vI x1.Op,vI x1.A,vI x1.B])] _
 refine ws fun K1 hK1=>wr [(0,1),(1,0)]<|gw (some 3) (.cells #[vI x1.Op,vI x1.A,vI x1.B] 35) (fun b=>pP b 0) hS fun b1 w1 hx1 hS1=>?_
 refine gb0 [1] [(4,.slice none 0 0)] ?_
 refine gn hK1<|ws fun K2 hK2=>we_orders3 (by kernel_rfl) [(6,[⟨b1,0,none⟩,⟨b1,1,none⟩,⟨b1,2,none⟩],[9,10],[]),(7,[⟨b1,0,none⟩,⟨b1,1,none⟩,⟨b1,2,none⟩],[9,10],[]),(8,[⟨b1,0,none⟩,⟨b1,1,none⟩,⟨b1,2,none⟩],[9,10],[])] (.vals [0] (.vals [1] (.vals [2] (.vals [4] (.vals [6] (.vals [7] (.vals [8] (.alt 3 1 (.alt 5 2 (.alt 9 1 (.alt 10 2 (.vals [11] .fin) .nomore) .nomore) (.alt 9 1 (.alt 5 2 (.alt 10 2 (.vals [11] .fin) .nomore) .nomore) .nomore)) (.alt 9 1 (.alt 3 1 (.alt 5 2 (.alt 10 2 (.vals [11] .fin) .nomore) .nomore) .nomore) .nomore))))))))) (by kernel_rfl) (by kernel_rfl) ?_
 have hS2:=hS1.drew
 refine g30 [0,1,2,4] [(10,.slice A0 l0.length c0),(8,vI (IntKind.i64.wrap ((l0.length:Int)+3))),(7,vI (l0.length:Int)),(6,.slice A0 l0.length c0)] ?_
 refine g3 6 [(12,.agg #[vI x1.Op,vI x1.A,vI x1.B])] [.loaded ⟨b1,0,none⟩ (vI x1.Op),.loaded ⟨b1,1,none⟩ (vI x1.A),.loaded ⟨b1,2,none⟩ (vI x1.B)] ⟨hS2.c 0,hS2.c 0,hS2.c 0,trivial⟩ ?_
 refine g3 7 [(13,.agg #[vI x1.Op,vI x1.A,vI x1.B])] [.loaded ⟨b1,0,none⟩ (vI x1.Op),.loaded ⟨b1,1,none⟩ (vI x1.A),.loaded ⟨b1,2,none⟩ (vI x1.B)] ⟨hS2.c 0,hS2.c 0,hS2.c 0,trivial⟩ ?_
 refine g3 8 [(14,.agg #[vI x1.Op,vI x1.A,vI x1.B])] [.loaded ⟨b1,0,none⟩ (vI x1.Op),.loaded ⟨b1,1,none⟩ (vI x1.A),.loaded ⟨b1,2,none⟩ (vI x1.B)] ⟨hS2.c 0,hS2.c 0,hS2.c 0,trivial⟩ ?_
 by_cases hc1:0≤(IntKind.i64.wrap ((l0.length:Int)+3))
 ·rw [if_pos hc1] at h
  by_cases hc2:((IntKind.i64.wrap ((l0.length:Int)+3)).toNat)≤5864062014805
  ·rw [if_pos hc2] at h
   refine go_alt3 (fun KK hKK=>?_) ?_
   ·refine ge_one2<|ge_make (α:=SIns) (d:=9) (t:=22) (el:=35) (bytes:=24) (l:=0) (c:=((IntKind.i64.wrap ((l0.length:Int)+3)).toNat)) (x:=(.const (vI 0))) (y:=(.tmp 8)) (ty:=22) (k1:=.i64) (k2:=.i64) (li:=0) (ci:=(IntKind.i64.wrap ((l0.length:Int)+3))) (z:=.agg #[vI 0,vI 0,vI 0]) (z':=(⟨0,0,0⟩:SIns)) (by kernel_rfl) (by kernel_rfl) (by kernel_rfl) rfl (Int.toNat_of_nonneg hc1).symm (by kernel_rfl) (by kernel_rfl) rfl hS2 (Nat.zero_le _) rfl (by omega) fun v1 w2 _ hS3=>?_
    refine ge_nil fun a hF=>hKK _ _ (RS.of2 (l:=[.loaded ⟨b1,0,none⟩ (vI x1.Op),.loaded ⟨b1,1,none⟩ (vI x1.A),.loaded ⟨b1,2,none⟩ (vI x1.B),.loaded ⟨b1,0,none⟩ (vI x1.Op),.loaded ⟨b1,1,none⟩ (vI x1.A),.loaded ⟨b1,2,none⟩ (vI x1.B),.loaded ⟨b1,0,none⟩ (vI x1.Op),.loaded ⟨b1,1,none⟩ (vI x1.A),.loaded ⟨b1,2,none⟩ (vI x1.B)]) (by kernel_rfl) ⟨hS2.c 0,hS2.c 0,hS2.c 0,hS2.c 0,hS2.c 0,hS2.c 0,hS2.c 0,hS2.c 0,hS2.c 0,trivial⟩ ⟨hS3.c 1,hS3.c 1,hS3.c 1,hS3.c 1,hS3.c 1,hS3.c 1,hS3.c 1,hS3.c 1,hS3.c 1,trivial⟩) ?_ a hF
    refine go_alt3 (fun KK hKK=>?_) ?_
    ·by_cases hc3:(List.replicate 0 (⟨0,0,0⟩:SIns)).length+l0.length≤5864062014805
     ·rw [if_pos hc3] at h
      refine ge_appendL (α:=SIns) (m:=0) (d:=11) (t:=22) (el:=35) (bytes:=24) (c1:=c0) (A1:=A0) (x:=(.tmp 9)) (y:=(.tmp 10)) (ty:=22) (v:=v1) (z:=.agg #[vI 0,vI 0,vI 0]) (l:=(List.replicate 0 (⟨0,0,0⟩:SIns))) (us:=l0) (by kernel_rfl) (by kernel_rfl) (by kernel_rfl) (by kernel_rfl) (by kernel_rfl) rfl hS3 (hS3.rd hR0) rfl (Nat.mul_le_of_le_div _ _ _ hc3) fun v2 w3 hS4=>?_
      have hS5:St w0 w3 [Own.of v2 35 ((List.replicate 0 (⟨0,0,0⟩:SIns))++l0),Own.blk b1 (.cells #[vI x1.Op,vI x1.A,vI x1.B] 35 (0,0))]:=hS4
      refine ge_nil fun a hF=>hKK _ _ (RS.of2 (l:=[.loaded ⟨b1,0,none⟩ (vI x1.Op),.loaded ⟨b1,1,none⟩ (vI x1.A),.loaded ⟨b1,2,none⟩ (vI x1.B),.loaded ⟨b1,0,none⟩ (vI x1.Op),.loaded ⟨b1,1,none⟩ (vI x1.A),.loaded ⟨b1,2,none⟩ (vI x1.B),.loaded ⟨b1,0,none⟩ (vI x1.Op),.loaded ⟨b1,1,none⟩ (vI x1.A),.loaded ⟨b1,2,none⟩ (vI x1.B)]) (by kernel_rfl) ⟨hS3.c 1,hS3.c 1,hS3.c 1,hS3.c 1,hS3.c 1,hS3.c 1,hS3.c 1,hS3.c 1,hS3.c 1,trivial⟩ ⟨hS5.c 1,hS5.c 1,hS5.c 1,hS5.c 1,hS5.c 1,hS5.c 1,hS5.c 1,hS5.c 1,hS5.c 1,trivial⟩) ?_ a hF
      refine go_alt3 (fun KK hKK=>?_) ?_
      ·refine ge_one2<|gw (some 15) (.cells #[vI x1.Op,vI x1.A,vI x1.B,vI x1.Op,vI x1.A,vI x1.B,vI x1.Op,vI x1.A,vI x1.B] 35) (fun b=>.slice (some ⟨b,0,none⟩) 3 3) hS5 fun b2 w4 hx2 hS6=>?_
       refine g2 hKK<|go_alt3 (fun KK hKK=>?_) ?_
       ·have hS7:=hS6.b 1
        by_cases hc4:((List.replicate 0 (⟨0,0,0⟩:SIns))++l0).length+3≤5864062014805
        ·rw [if_pos hc4] at h
         refine ge_appendL (α:=SIns) (m:=0) (d:=16) (t:=22) (el:=35) (bytes:=24) (c1:=3) (A1:=(some ⟨b2,0,none⟩)) (x:=(.tmp 11)) (y:=(.tmp 15)) (ty:=22) (v:=v2) (z:=.agg #[vI 0,vI 0,vI 0]) (l:=((List.replicate 0 (⟨0,0,0⟩:SIns))++l0)) (us:=([x1,x1,x1]:List SIns)) (by kernel_rfl) (by kernel_rfl) (by kernel_rfl) (by kernel_rfl) (by kernel_rfl) rfl hS7 (hS7.rdBlk 1 ([x1,x1,x1]:List SIns) rfl rfl rfl) rfl (Nat.mul_le_of_le_div _ _ _ hc4) fun v3 w5 hS8=>?_
         have hS9:St w0 w5 [Own.of v3 35 (((List.replicate 0 (⟨0,0,0⟩:SIns))++l0)++([x1,x1,x1]:List SIns)),Own.blk b2 (.cells #[vI x1.Op,vI x1.A,vI x1.B,vI x1.Op,vI x1.A,vI x1.B,vI x1.Op,vI x1.A,vI x1.B] 35 (0,0)),Own.blk b1 (.cells #[vI x1.Op,vI x1.A,vI x1.B] 35 (0,0))]:=hS8
         refine g2 hKK<|g30 [11] [(5,v3)] ?_
         refine go_fin3 fun a hF=>hK2 _ _ ?_ a hF
         refine ws fun K3 hK3=>wr [(0,0),(1,0),(2,0),(3,0),(4,0)]<|gb0 [0,1,2] [(19,vI (l0.length:Int)),(18,.slice A0 l0.length c0),(17,v3)] ?_
         obtain ⟨Z1,cz1,rfl,hcp1⟩:=hS9.open2 0 rfl
         refine ge_sliceHi (d:=20) (ty:=22) (t:=22) (el:=35) (sz:=3) (m:=((((List.replicate 0 (⟨0,0,0⟩:SIns))++l0)++([x1,x1,x1]:List SIns)).length)) (c:=cz1) (hn:=l0.length) (x:=(.tmp 17)) (y:=(.tmp 19)) (A:=Z1) (k':=.i64) (hi:=(l0.length:Int)) (by kernel_rfl) (by kernel_rfl) (by kernel_rfl) rfl (by kernel_rfl) (by kernel_rfl) (by have h0:=hcp1; simp only [List.length_append,List.length_cons,List.length_nil] at h0; omega) ?_
         refine gb0 [4] [(4,.slice Z1 l0.length cz1)] ?_
         refine gn hK3 ?_
         have hS10:=hS9.takeN 1
         obtain rfl:=si h
         exact we_ret (pr0 [.tmp 4] [.slice Z1 l0.length cz1] ⟨Z1,cz1,rfl,hcp1,hS10⟩)
        rw [if_neg hc4] at h
        cases h
       exact go_nomore3
      exact go_nomore3
     rw [if_neg hc3] at h
     cases h
    refine go_alt3 (fun KK hKK=>?_) ?_
    ·refine ge_one2<|gw (some 15) (.cells #[vI x1.Op,vI x1.A,vI x1.B,vI x1.Op,vI x1.A,vI x1.B,vI x1.Op,vI x1.A,vI x1.B] 35) (fun b=>.slice (some ⟨b,0,none⟩) 3 3) hS3 fun b2 w3 hx2 hS4=>?_
     refine g2 hKK<|go_alt3 (fun KK hKK=>?_) ?_
     ·have hS5:=hS4.b 1
      by_cases hc3:(List.replicate 0 (⟨0,0,0⟩:SIns)).length+l0.length≤5864062014805
      ·rw [if_pos hc3] at h
       refine ge_appendL (α:=SIns) (m:=0) (d:=11) (t:=22) (el:=35) (bytes:=24) (c1:=c0) (A1:=A0) (x:=(.tmp 9)) (y:=(.tmp 10)) (ty:=22) (v:=v1) (z:=.agg #[vI 0,vI 0,vI 0]) (l:=(List.replicate 0 (⟨0,0,0⟩:SIns))) (us:=l0) (by kernel_rfl) (by kernel_rfl) (by kernel_rfl) (by kernel_rfl) (by kernel_rfl) rfl hS5 (hS5.rd hR0) rfl (Nat.mul_le_of_le_div _ _ _ hc3) fun v2 w4 hS6=>?_
       have hS7:St w0 w4 [Own.of v2 35 ((List.replicate 0 (⟨0,0,0⟩:SIns))++l0),Own.blk b2 (.cells #[vI x1.Op,vI x1.A,vI x1.B,vI x1.Op,vI x1.A,vI x1.B,vI x1.Op,vI x1.A,vI x1.B] 35 (0,0)),Own.blk b1 (.cells #[vI x1.Op,vI x1.A,vI x1.B] 35 (0,0))]:=hS6
       refine ge_nil fun a hF=>hKK _ _ (RS.of2 (l:=[.loaded ⟨b1,0,none⟩ (vI x1.Op),.loaded ⟨b1,1,none⟩ (vI x1.A),.loaded ⟨b1,2,none⟩ (vI x1.B),.loaded ⟨b1,0,none⟩ (vI x1.Op),.loaded ⟨b1,1,none⟩ (vI x1.A),.loaded ⟨b1,2,none⟩ (vI x1.B),.loaded ⟨b1,0,none⟩ (vI x1.Op),.loaded ⟨b1,1,none⟩ (vI x1.A),.loaded ⟨b1,2,none⟩ (vI x1.B)]) (by kernel_rfl) ⟨hS4.c 2,hS4.c 2,hS4.c 2,hS4.c 2,hS4.c 2,hS4.c 2,hS4.c 2,hS4.c 2,hS4.c 2,trivial⟩ ⟨hS7.c 2,hS7.c 2,hS7.c 2,hS7.c 2,hS7.c 2,hS7.c 2,hS7.c 2,hS7.c 2,hS7.c 2,trivial⟩) ?_ a hF
       refine go_alt3 (fun KK hKK=>?_) ?_
       ·by_cases hc4:((List.replicate 0 (⟨0,0,0⟩:SIns))++l0).length+3≤5864062014805
        ·rw [if_pos hc4] at h
         refine ge_appendL (α:=SIns) (m:=0) (d:=16) (t:=22) (el:=35) (bytes:=24) (c1:=3) (A1:=(some ⟨b2,0,none⟩)) (x:=(.tmp 11)) (y:=(.tmp 15)) (ty:=22) (v:=v2) (z:=.agg #[vI 0,vI 0,vI 0]) (l:=((List.replicate 0 (⟨0,0,0⟩:SIns))++l0)) (us:=([x1,x1,x1]:List SIns)) (by kernel_rfl) (by kernel_rfl) (by kernel_rfl) (by kernel_rfl) (by kernel_rfl) rfl hS7 (hS7.rdBlk 1 ([x1,x1,x1]:List SIns) rfl rfl rfl) rfl (Nat.mul_le_of_le_div _ _ _ hc4) fun v3 w5 hS8=>?_
         have hS9:St w0 w5 [Own.of v3 35 (((List.replicate 0 (⟨0,0,0⟩:SIns))++l0)++([x1,x1,x1]:List SIns)),Own.blk b2 (.cells #[vI x1.Op,vI x1.A,vI x1.B,vI x1.Op,vI x1.A,vI x1.B,vI x1.Op,vI x1.A,vI x1.B] 35 (0,0)),Own.blk b1 (.cells #[vI x1.Op,vI x1.A,vI x1.B] 35 (0,0))]:=hS8
         refine g2 hKK<|g30 [11] [(5,v3)] ?_
         refine go_fin3 fun a hF=>hK2 _ _ ?_ a hF
         refine ws fun K3 hK3=>wr [(0,0),(1,0),(2,0),(3,0),(4,0)]<|gb0 [0,1,2] [(19,vI (l0.length:Int)),(18,.slice A0 l0.length c0),(17,v3)] ?_
         obtain ⟨Z1,cz1,rfl,hcp1⟩:=hS9.open2 0 rfl
         refine ge_sliceHi (d:=20) (ty:=22) (t:=22) (el:=35) (sz:=3) (m:=((((List.replicate 0 (⟨0,0,0⟩:SIns))++l0)++([x1,x1,x1]:List SIns)).length)) (c:=cz1) (hn:=l0.length) (x:=(.tmp 17)) (y:=(.tmp 19)) (A:=Z1) (k':=.i64) (hi:=(l0.length:Int)) (by kernel_rfl) (by kernel_rfl) (by kernel_rfl) rfl (by kernel_rfl) (by kernel_rfl) (by have h0:=hcp1; simp only [List.length_append,List.length_cons,List.length_nil] at h0; omega) ?_
         refine gb0 [4] [(4,.slice Z1 l0.length cz1)] ?_
         refine gn hK3 ?_
         have hS10:=hS9.takeN 1
         obtain rfl:=si h
         exact we_ret (pr0 [.tmp 4] [.slice Z1 l0.length cz1] ⟨Z1,cz1,rfl,hcp1,hS10⟩)
        rw [if_neg hc4] at h
        cases h
       exact go_nomore3
      rw [if_neg hc3] at h
      cases h
     exact go_nomore3
    exact go_nomore3
   refine go_alt3 (fun KK hKK=>?_) ?_
   ·refine ge_one2<|gw (some 15) (.cells #[vI x1.Op,vI x1.A,vI x1.B,vI x1.Op,vI x1.A,vI x1.B,vI x1.Op,vI x1.A,vI x1.B] 35) (fun b=>.slice (some ⟨b,0,none⟩) 3 3) hS2 fun b2 w2 hx2 hS3=>?_
    refine g2 hKK<|go_alt3 (fun KK hKK=>?_) ?_
    ·refine ge_one2<|ge_make (α:=SIns) (d:=9) (t:=22) (el:=35) (bytes:=24) (l:=0) (c:=((IntKind.i64.wrap ((l0.length:Int)+3)).toNat)) (x:=(.const (vI 0))) (y:=(.tmp 8)) (ty:=22) (k1:=.i64) (k2:=.i64) (li:=0) (ci:=(IntKind.i64.wrap ((l0.length:Int)+3))) (z:=.agg #[vI 0,vI 0,vI 0]) (z':=(⟨0,0,0⟩:SIns)) (by kernel_rfl) (by kernel_rfl) (by kernel_rfl) rfl (Int.toNat_of_nonneg hc1).symm (by kernel_rfl) (by kernel_rfl) rfl hS3 (Nat.zero_le _) rfl (by omega) fun v1 w3 _ hS4=>?_
     refine ge_nil fun a hF=>hKK _ _ (RS.of2 (l:=[.loaded ⟨b1,0,none⟩ (vI x1.Op),.loaded ⟨b1,1,none⟩ (vI x1.A),.loaded ⟨b1,2,none⟩ (vI x1.B),.loaded ⟨b1,0,none⟩ (vI x1.Op),.loaded ⟨b1,1,none⟩ (vI x1.A),.loaded ⟨b1,2,none⟩ (vI x1.B),.loaded ⟨b1,0,none⟩ (vI x1.Op),.loaded ⟨b1,1,none⟩ (vI x1.A),.loaded ⟨b1,2,none⟩ (vI x1.B)]) (by kernel_rfl) ⟨hS3.c 1,hS3.c 1,hS3.c 1,hS3.c 1,hS3.c 1,hS3.c 1,hS3.c 1,hS3.c 1,hS3.c 1,trivial⟩ ⟨hS4.c 2,hS4.c 2,hS4.c 2,hS4.c 2,hS4.c 2,hS4.c 2,hS4.c 2,hS4.c 2,hS4.c 2,trivial⟩) ?_ a hF
     refine go_alt3 (fun KK hKK=>?_) ?_
     ·by_cases hc3:(List.replicate 0 (⟨0,0,0⟩:SIns)).length+l0.length≤5864062014805
      ·rw [if_pos hc3] at h
       refine ge_appendL (α:=SIns) (m:=0) (d:=11) (t:=22) (el:=35) (bytes:=24) (c1:=c0) (A1:=A0) (x:=(.tmp 9)) (y:=(.tmp 10)) (ty:=22) (v:=v1) (z:=.agg #[vI 0,vI 0,vI 0]) (l:=(List.replicate 0 (⟨0,0,0⟩:SIns))) (us:=l0) (by kernel_rfl) (by kernel_rfl) (by kernel_rfl) (by kernel_rfl) (by kernel_rfl) rfl hS4 (hS4.rd hR0) rfl (Nat.mul_le_of_le_div _ _ _ hc3) fun v2 w4 hS5=>?_
       have hS6:St w0 w4 [Own.of v2 35 ((List.replicate 0 (⟨0,0,0⟩:SIns))++l0),Own.blk b2 (.cells #[vI x1.Op,vI x1.A,vI x1.B,vI x1.Op,vI x1.A,vI x1.B,vI x1.Op,vI x1.A,vI x1.B] 35 (0,0)),Own.blk b1 (.cells #[vI x1.Op,vI x1.A,vI x1.B] 35 (0,0))]:=hS5
       refine ge_nil fun a hF=>hKK _ _ (RS.of2 (l:=[.loaded ⟨b1,0,none⟩ (vI x1.Op),.loaded ⟨b1,1,none⟩ (vI x1.A),.loaded ⟨b1,2,none⟩ (vI x1.B),.loaded ⟨b1,0,none⟩ (vI x1.Op),.loaded ⟨b1,1,none⟩ (vI x1.A),.loaded ⟨b1,2,none⟩ (vI x1.B),.loaded ⟨b1,0,none⟩ (vI x1.Op),.loaded ⟨b1,1,none⟩ (vI x1.A),.loaded ⟨b1,2,none⟩ (vI x1.B)]) (by kernel_rfl) ⟨hS4.c 2,hS4.c 2,hS4.c 2,hS4.c 2,hS4.c 2,hS4.c 2,hS4.c 2,hS4.c 2,hS4.c 2,trivial⟩ ⟨hS6.c 2,hS6.c 2,hS6.c 2,hS6.c 2,hS6.c 2,hS6.c 2,hS6.c 2,hS6.c 2,hS6.c 2,trivial⟩) ?_ a hF
       refine go_alt3 (fun KK hKK=>?_) ?_
       ·by_cases hc4:((List.replicate 0 (⟨0,0,0⟩:SIns))++l0).length+3≤5864062014805
        ·rw [if_pos hc4] at h
         refine ge_appendL (α:=SIns) (m:=0) (d:=16) (t:=22) (el:=35) (bytes:=24) (c1:=3) (A1:=(some ⟨b2,0,none⟩)) (x:=(.tmp 11)) (y:=(.tmp 15)) (ty:=22) (v:=v2) (z:=.agg #[vI 0,vI 0,vI 0]) (l:=((List.replicate 0 (⟨0,0,0⟩:SIns))++l0)) (us:=([x1,x1,x1]:List SIns)) (by kernel_rfl) (by kernel_rfl) (by kernel_rfl) (by kernel_rfl) (by kernel_rfl) rfl hS6 (hS6.rdBlk 1 ([x1,x1,x1]:List SIns) rfl rfl rfl) rfl (Nat.mul_le_of_le_div _ _ _ hc4) fun v3 w5 hS7=>?_
         have hS8:St w0 w5 [Own.of v3 35 (((List.replicate 0 (⟨0,0,0⟩:SIns))++l0)++([x1,x1,x1]:List SIns)),Own.blk b2 (.cells #[vI x1.Op,vI x1.A,vI x1.B,vI x1.Op,vI x1.A,vI x1.B,vI x1.Op,vI x1.A,vI x1.B] 35 (0,0)),Own.blk b1 (.cells #[vI x1.Op,vI x1.A,vI x1.B] 35 (0,0))]:=hS7
         refine g2 hKK<|g30 [11] [(5,v3)] ?_
         refine go_fin3 fun a hF=>hK2 _ _ ?_ a hF
         refine ws fun K3 hK3=>wr [(0,0),(1,0),(2,0),(3,0),(4,0)]<|gb0 [0,1,2] [(19,vI (l0.length:Int)),(18,.slice A0 l0.length c0),(17,v3)] ?_
         obtain ⟨Z1,cz1,rfl,hcp1⟩:=hS8.open2 0 rfl
         refine ge_sliceHi (d:=20) (ty:=22) (t:=22) (el:=35) (sz:=3) (m:=((((List.replicate 0 (⟨0,0,0⟩:SIns))++l0)++([x1,x1,x1]:List SIns)).length)) (c:=cz1) (hn:=l0.length) (x:=(.tmp 17)) (y:=(.tmp 19)) (A:=Z1) (k':=.i64) (hi:=(l0.length:Int)) (by kernel_rfl) (by kernel_rfl) (by kernel_rfl) rfl (by kernel_rfl) (by kernel_rfl) (by have h0:=hcp1; simp only [List.length_append,List.length_cons,List.length_nil] at h0; omega) ?_
         refine gb0 [4] [(4,.slice Z1 l0.length cz1)] ?_
         refine gn hK3 ?_
         have hS9:=hS8.takeN 1
         obtain rfl:=si h
         exact we_ret (pr0 [.tmp 4] [.slice Z1 l0.length cz1] ⟨Z1,cz1,rfl,hcp1,hS9⟩)
        rw [if_neg hc4] at h
        cases h
       exact go_nomore3
      rw [if_neg hc3] at h
      cases h
     exact go_nomore3
    exact go_nomore3
   exact go_nomore3
  rw [if_neg hc2] at h
  cases h
 rw [if_neg hc1] at h
 cases h
theorem punctualsame_Lend_api_Ins_full (l0:List SIns) (x1:SIns) {r:List SIns} (h:punctualsame_Lend_api_Ins.f l0 x1=some r):r=l0++[x1,x1,x1]:=by
 unfold punctualsame_Lend_api_Ins.f at h
 repeat' split at h
 all_goals first | (exact (Option.some.inj h).symm) | cases h

/-! punctual/punctualsame.Lend[int] -/
abbrev punctualsame_Lend_int.Post (w0:World) (n:Nat) (r:List Int) (e:Ending) (w:World):Prop:=∃ (A:Option Addr) (c:Nat),e=.returned (.slice A n c)∧r.length≤c∧St w0 w [Own.of (.slice A r.length c) 3 r]
def punctualsame_Lend_int.f (l0 : List Int) (x1 : Int) : Option (List Int) :=
 if 0≤(IntKind.i64.wrap ((l0.length:Int)+3)) then
  if ((IntKind.i64.wrap ((l0.length:Int)+3)).toNat)≤17592186044416 then
   if (List.replicate 0 (0:Int)).length+l0.length≤17592186044416 then
    if ((List.replicate 0 (0:Int))++l0).length+3≤17592186044416 then
     some (((List.replicate 0 (0:Int))++l0)++([x1,x1,x1]:List Int))
    else
     none
   else
    none
  else
   none
 else
  none
theorem punctualsame_Lend_int_ok (l0:List Int) (A0:Option Addr) (c0:Nat) (x1:Int) (w0:World) (hR0:RdL w0 A0 l0) (hL0:l0.length≤c0) (r:List Int) (h:punctualsame_Lend_int.f l0 x1=some r) :
  Calls Tryd.prog 7 #[.slice A0 l0.length c0,vI x1] w0 (punctualsame_Lend_int.Post w0 l0.length r):=by
 have hS:=St.start w0
 unfold punctualsame_Lend_int.f at h
 refine calls_enter (n:=21) (args:=[.slice A0 l0.length c0,vI x1]) (fn:=Tryd.f7) rfl rfl rfl rfl ?_
 show WE _ _ _ _ [(0,.slice A0 l0.length c0),(1,vI x1)] _
 refine ws fun K1 hK1=>wr [(0,0)]<|gb0 [0] [(4,.slice none 0 0)] ?_
 refine gn hK1<|ws fun K2 hK2=>wr [(0,0),(1,0),(2,0),(3,1),(4,0),(5,2),(6,0),(7,0),(8,0),(9,1),(10,2),(11,0)]<|gb0 [0,1,2] [(8,vI (IntKind.i64.wrap ((l0.length:Int)+3))),(7,vI (l0.length:Int)),(6,.slice A0 l0.length c0)] ?_
 by_cases hc1:0≤(IntKind.i64.wrap ((l0.length:Int)+3))
 ·rw [if_pos hc1] at h
  by_cases hc2:((IntKind.i64.wrap ((l0.length:Int)+3)).toNat)≤17592186044416
  ·rw [if_pos hc2] at h
   refine ge_make (α:=Int) (d:=9) (t:=23) (el:=3) (bytes:=8) (l:=0) (c:=((IntKind.i64.wrap ((l0.length:Int)+3)).toNat)) (x:=(.const (vI 0))) (y:=(.tmp 8)) (ty:=23) (k1:=.i64) (k2:=.i64) (li:=0) (ci:=(IntKind.i64.wrap ((l0.length:Int)+3))) (z:=vI 0) (z':=(0:Int)) (by kernel_rfl) (by kernel_rfl) (by kernel_rfl) rfl (Int.toNat_of_nonneg hc1).symm (by kernel_rfl) (by kernel_rfl) rfl hS (Nat.zero_le _) rfl (by omega) fun v1 w1 _ hS1=>?_
   refine gb0 [4] [(10,.slice A0 l0.length c0)] ?_
   by_cases hc3:(List.replicate 0 (0:Int)).length+l0.length≤17592186044416
   ·rw [if_pos hc3] at h
    refine ge_appendL (α:=Int) (m:=0) (d:=11) (t:=23) (el:=3) (bytes:=8) (c1:=c0) (A1:=A0) (x:=(.tmp 9)) (y:=(.tmp 10)) (ty:=23) (v:=v1) (z:=vI 0) (l:=(List.replicate 0 (0:Int))) (us:=l0) (by kernel_rfl) (by kernel_rfl) (by kernel_rfl) (by kernel_rfl) (by kernel_rfl) rfl hS1 (hS1.rd hR0) rfl (Nat.mul_le_of_le_div _ _ _ hc3) fun v2 w2 hS2=>?_
    have hS3:St w0 w2 [Own.of v2 3 ((List.replicate 0 (0:Int))++l0)]:=hS2
    refine gb0 [6,7,8] [(14,vI x1),(13,vI x1),(12,vI x1)] ?_
    refine gw (some 15) (.cells #[vI x1,vI x1,vI x1] 3) (fun b=>.slice (some ⟨b,0,none⟩) 3 3) hS3 fun b1 w3 hx1 hS4=>?_
    have hS5:=hS4.b 1
    by_cases hc4:((List.replicate 0 (0:Int))++l0).length+3≤17592186044416
    ·rw [if_pos hc4] at h
     refine ge_appendL (α:=Int) (m:=0) (d:=16) (t:=23) (el:=3) (bytes:=8) (c1:=3) (A1:=(some ⟨b1,0,none⟩)) (x:=(.tmp 11)) (y:=(.tmp 15)) (ty:=23) (v:=v2) (z:=vI 0) (l:=((List.replicate 0 (0:Int))++l0)) (us:=([x1,x1,x1]:List Int)) (by kernel_rfl) (by kernel_rfl) (by kernel_rfl) (by kernel_rfl) (by kernel_rfl) rfl hS5 (hS5.rdBlk 1 ([x1,x1,x1]:List Int) rfl rfl rfl) rfl (Nat.mul_le_of_le_div _ _ _ hc4) fun v3 w4 hS6=>?_
     have hS7:St w0 w4 [Own.of v3 3 (((List.replicate 0 (0:Int))++l0)++([x1,x1,x1]:List Int)),Own.blk b1 (.cells #[vI x1,vI x1,vI x1] 3 (0,0))]:=hS6
     refine gb0 [11] [(5,v3)] ?_
     refine gn hK2<|ws fun K3 hK3=>wr [(0,0),(1,0),(2,0),(3,0),(4,0)]<|gb0 [0,1,2] [(19,vI (l0.length:Int)),(18,.slice A0 l0.length c0),(17,v3)] ?_
     obtain ⟨Z1,cz1,rfl,hcp1⟩:=hS7.open2 0 rfl
     refine ge_sliceHi (d:=20) (ty:=23) (t:=23) (el:=3) (sz:=1) (m:=((((List.replicate 0 (0:Int))++l0)++([x1,x1,x1]:List Int)).length)) (c:=cz1) (hn:=l0.length) (x:=(.tmp 17)) (y:=(.tmp 19)) (A:=Z1) (k':=.i64) (hi:=(l0.length:Int)) (by kernel_rfl) (by kernel_rfl) (by kernel_rfl) rfl (by kernel_rfl) (by kernel_rfl) (by have h0:=hcp1; simp only [List.length_append,List.length_cons,List.length_nil] at h0; omega) ?_
     refine gb0 [4] [(4,.slice Z1 l0.length cz1)] ?_
     refine gn hK3 ?_
     have hS8:=hS7.takeN 1
     obtain rfl:=si h
     exact we_ret (pr0 [.tmp 4] [.slice Z1 l0.length cz1] ⟨Z1,cz1,rfl,hcp1,hS8⟩)
    rw [if_neg hc4] at h
    cases h
   rw [if_neg hc3] at h
   cases h
  rw [if_neg hc2] at h
  cases h
 rw [if_neg hc1] at h
 cases h
theorem punctualsame_Lend_int_full (l0:List Int) (x1:Int) {r:List Int} (h:punctualsame_Lend_int.f l0 x1=some r):r=l0++[x1,x1,x1]:=by
 unfold punctualsame_Lend_int.f at h
 repeat' split at h
 all_goals first | (exact (Option.some.inj h).symm) | cases h

/-! punctual/punctualsame.Same[int] -/
abbrev punctualsame_Same_int.Post (w0:World) (r:Bool) (e:Ending) (w:World):Prop:=e=.returned (.bool r)∧St w0 w []
def punctualsame_Same_int.r0 (l0 : List Int) (l1 : List Int) : Nat → Option (Nat ⊕ (Unit ⊕ Bool))
 | i1 =>
  if (i1:Int)<(l0.length:Int) then
   match l0[i1]? with
   | none=>none
   | some e1 =>
    match l1[i1]? with
    | none=>none
    | some e2 =>
     if e1=e2 then
      some (.inl (i1+1))
     else
      some (.inr (.inr false))
  else
   some (.inr (.inl ()))
def punctualsame_Same_int.f (K : Nat) (l0 : List Int) (l1 : List Int) : Option Bool :=
 if (l0.length:Int)=(l1.length:Int) then
  match iter (punctualsame_Same_int.r0 l0 l1) K 0 with
  | none=>none
  | some (.inl _) =>
   some true
  | some (.inr rr1) =>
   some rr1
 else
  some false
abbrev punctualsame_Same_int.A0 (w0:World) (l0:List Int) (A0:Option Addr) (c0:Nat) (l1:List Int) (A1:Option Addr) (c1:Nat):Nat→Act→World→Prop:=fun (s:Nat) a w=>St w0 w []∧Frm 26 a [(0,.slice A0 l0.length c0),(1,.slice A1 l1.length c1),(12,vI (l0.length:Int)),(13,vI (s:Int))]
abbrev punctualsame_Same_int.B0 (w0:World):(Unit ⊕ Bool)→Exit→Act→World→Prop:=Exits 0 (fun (s:Unit) a w=>St w0 w []∧Frm 26 a []) (Rets Tryd.prog Tryd.f22 (punctualsame_Same_int.Post w0))
theorem punctualsame_Same_int_r0 (K:Nat) (w0:World) (l0:List Int) (A0:Option Addr) (c0:Nat) (l1:List Int) (A1:Option Addr) (c1:Nat) (hR0:RdL w0 A0 l0) (hL0:l0.length≤c0) (hR1:RdL w0 A1 l1) (hL1:l1.length≤c1) (hc1:(l0.length:Int)=(l1.length:Int)) (s:Nat) (o:Nat ⊕ (Unit ⊕ Bool)) (h:punctualsame_Same_int.r0 l0 l1 s=some o) (a:Act) (w:World) (hA:punctualsame_Same_int.A0 w0 l0 A0 c0 l1 A1 c1 s a w) (Q:Exit→Act→World→Prop) (hQ:∀ x a w,Outs (punctualsame_Same_int.A0 w0 l0 A0 c0 l1 A1 c1) (punctualsame_Same_int.B0 w0) o x a w→Q x a w):(subF Tryd.f22 [1,1,0,1,0,0]).wp Tryd.prog Q a w:=by
 obtain ⟨i1,hs⟩:∃ z,z=s:=⟨s,rfl⟩
 subst hs
 obtain ⟨hS,hF⟩:=hA
 replace hS:St w0 w []:=hS
 simp only [punctualsame_Same_int.r0] at h
 refine (?_:WE Tryd.prog 26 (subF Tryd.f22 [1,1,0,1,0,0]) Q [(0,.slice A0 l0.length c0),(1,.slice A1 l1.length c1),(12,vI (l0.length:Int)),(13,vI (i1:Int))] w) a hF
 clear hF a
 refine ws fun K6 hK6=>wr [(0,0)]<|gb0 [0] [(14,.bool (decide ((i1:Int)<(l0.length:Int))))] ?_
 refine gn hK6<|ws fun K7 hK7=>?_
 by_cases hc2:(i1:Int)<(l0.length:Int)
 ·rw [if_pos hc2] at h
  refine wk 14 (decide ((i1:Int)<(l0.length:Int))) true (decide_eq_true hc2) ?_
  refine we_true (by kernel_rfl) ?_
  refine we_skip fun a hF=>hK7 _ _ ?_ a hF
  refine ws fun K8 hK8=>we_block<|ws fun K9 hK9=>wr [(0,0),(1,0)]<|gb0 [0,1] [(5,vI (i1:Int)),(15,vI (i1:Int))] ?_
  refine gn hK9<|ws fun K10 hK10=>we_draws (by kernel_rfl) [(0,0),(1,0),(2,0),(3,0),(4,0),(5,0),(6,0),(7,0),(8,0)] (by kernel_rfl) ?_
  have hS1:=hS.drew
  refine gb0 [0,1] [(17,vI (i1:Int)),(16,.slice A0 l0.length c0)] ?_
  rcases hx1:l0[i1]? with _ | e1
  ·rw [hx1] at h; cases h
  rw [hx1] at h
  simp only [] at h
  refine gi 18 0 23 3 1 l0.length c0 (.tmp 16) (.tmp 17) A0 .i64 (i1:Int) i1 ((hS1.rd hR0).eqSome (pos_of_get hx1)) rfl (lt_of_get hx1) ?_
  refine gb [3,4,5] [(21,vI (i1:Int)),(20,.slice A1 l1.length c1),(19,vI e1)] [.loaded ⟨blkOf A0,offOf A0+i1*1,none⟩ (vI e1)] ⟨RdL.cell (j:=0) (hS1.rd hR0) hx1 rfl,trivial⟩ ?_
  rcases hx2:l1[i1]? with _ | e2
  ·rw [hx2] at h; cases h
  rw [hx2] at h
  simp only [] at h
  refine gi 22 0 23 3 1 l1.length c1 (.tmp 20) (.tmp 21) A1 .i64 (i1:Int) i1 ((hS1.rd hR1).eqSome (pos_of_get hx2)) rfl (lt_of_get hx2) ?_
  refine gb [7,8] [(24,.bool (e1 != e2)),(23,vI e2)] [.loaded ⟨blkOf A1,offOf A1+i1*1,none⟩ (vI e2)] ⟨RdL.cell (j:=0) (hS1.rd hR1) hx2 rfl,trivial⟩ ?_
  refine gn hK10 ?_
  by_cases hc3:e1=e2
  ·rw [if_pos hc3] at h
   refine wk 24 (e1 != e2) false (bne_eq_false_iff_eq.2 hc3) ?_
   refine we_false (by kernel_rfl) ?_
   refine we_skip fun a hF=>hK8 _ _ ?_ a hF
   refine wr [(0,0),(1,0)]<|ge_addn (d:=25) (ty:=3) (x:=(.tmp 13)) (y:=(.const (vI 1))) (t:=3) (t2:=3) (k:=.i64) (m:=i1) (by kernel_rfl) (by kernel_rfl) (by kernel_rfl) (by have h0:=hR0.small; omega) ?_
   refine gb0 [1] [(13,vI ((i1+1:Nat):Int))] ?_
   obtain rfl:=si h
   exact ge_nil fun a hF=>hQ _ _ _ (Outs.again ⟨hS1,hF.weaken ea⟩)
  rw [if_neg hc3] at h
  refine wk 24 (e1 != e2) true (bne_iff_ne.2 hc3) ?_
  refine we_true (by kernel_rfl) ?_
  refine ws fun K11 hK11=>wr [(0,0)]<|gb0 [0] [(4,.bool false)] ?_
  refine gn hK11 ?_
  obtain rfl:=si h
  exact we_ret fun a hF=>hQ _ _ _ (Outs.out nofun (Exits.on ⟨rfl,(pr0 [.tmp 4] [.bool false] ⟨rfl,hS1⟩) a hF⟩))
 rw [if_neg hc2] at h
 refine wk 14 (decide ((i1:Int)<(l0.length:Int))) false (decide_eq_false hc2) ?_
 refine we_false (by kernel_rfl) ?_
 obtain rfl:=si h
 exact we_exit fun a hF=>hQ _ _ _ (Outs.out nofun (Exits.here ⟨hS,hF.weaken trivial⟩))
theorem punctualsame_Same_int_ok (K:Nat) (l0:List Int) (A0:Option Addr) (c0:Nat) (l1:List Int) (A1:Option Addr) (c1:Nat) (w0:World) (hR0:RdL w0 A0 l0) (hL0:l0.length≤c0) (hR1:RdL w0 A1 l1) (hL1:l1.length≤c1) (r:Bool) (h:punctualsame_Same_int.f K l0 l1=some r) :
  Calls Tryd.prog 22 #[.slice A0 l0.length c0,.slice A1 l1.length c1] w0 (punctualsame_Same_int.Post w0 r):=by
 have hS:=St.start w0
 unfold punctualsame_Same_int.f at h
 refine calls_enter (n:=26) (args:=[.slice A0 l0.length c0,.slice A1 l1.length c1]) (fn:=Tryd.f22) rfl rfl rfl rfl ?_
 show WE _ _ _ _ [(0,.slice A0 l0.length c0),(1,.slice A1 l1.length c1)] _
 refine ws fun K1 hK1=>wr [(0,0)]<|gb0 [0] [(4,.bool false)] ?_
 refine gn hK1<|ws fun K2 hK2=>ws fun K3 hK3=>wr [(0,0),(1,0),(2,0),(3,0),(4,0)]<|gb0 [0,1,2,3,4] [(10,.bool ((l0.length:Int) != (l1.length:Int))),(9,vI (l1.length:Int)),(8,.slice A1 l1.length c1),(7,vI (l0.length:Int)),(6,.slice A0 l0.length c0)] ?_
 refine gn hK3 ?_
 by_cases hc1:(l0.length:Int)=(l1.length:Int)
 ·rw [if_pos hc1] at h
  refine wk 10 ((l0.length:Int) != (l1.length:Int)) false (bne_eq_false_iff_eq.2 hc1) ?_
  refine we_false (by kernel_rfl) ?_
  refine we_skip fun a hF=>hK2 _ _ ?_ a hF
  refine ws fun K4 hK4=>ws fun K5 hK5=>wr [(0,0),(1,0),(2,0)]<|gb0 [0,1,2] [(13,vI 0),(12,vI (l0.length:Int)),(11,.slice A0 l0.length c0)] ?_
  refine gn hK5<|we_block ?_
  rcases hq1:iter (punctualsame_Same_int.r0 l0 l1) K 0 with _ | (_ | rr1)
  ·rw [hq1] at h; cases h
  ·rw [hq1] at h
   simp only [] at h
   refine we_iter (A:=punctualsame_Same_int.A0 w0 l0 A0 c0 l1 A1 c1) (B:=punctualsame_Same_int.B0 w0) hq1 (fun a hF=>⟨hS,hF.weaken ea⟩) (fun s o hf a w hA Q hQ=>punctualsame_Same_int_r0 K w0 l0 A0 c0 l1 A1 c1 hR0 hL0 hR1 hL1 hc1 s o hf a w hA Q hQ) ?_
   rintro _ a w1 _ ⟨rfl,hS2,hF⟩
   replace hS2:St w0 w1 []:=hS2
   refine hK4 [] w1 ?_ a hF
   refine ws fun K12 hK12=>wr [(0,0)]<|gb0 [0] [(4,.bool true)] ?_
   refine gn hK12 ?_
   obtain rfl:=si h
   exact we_ret (pr0 [.tmp 4] [.bool true] ⟨rfl,hS2⟩)
  rw [hq1] at h
  simp only [] at h
  refine we_iter (A:=punctualsame_Same_int.A0 w0 l0 A0 c0 l1 A1 c1) (B:=punctualsame_Same_int.B0 w0) hq1 (fun a hF=>⟨hS,hF.weaken ea⟩) (fun s o hf a w hA Q hQ=>punctualsame_Same_int_r0 K w0 l0 A0 c0 l1 A1 c1 hR0 hL0 hR1 hL1 hc1 s o hf a w hA Q hQ) ?_
  rintro _ a w1 _ ⟨rfl,hb⟩
  obtain rfl:=si h
  exact hb
 rw [if_neg hc1] at h
 refine wk 10 ((l0.length:Int) != (l1.length:Int)) true (bne_iff_ne.2 hc1) ?_
 refine we_true (by kernel_rfl) ?_
 refine ws fun K13 hK13=>wr [(0,0)]<|gb0 [0] [(4,.bool false)] ?_
 refine gn hK13 ?_
 obtain rfl:=si h
 exact we_ret (pr0 [.tmp 4] [.bool false] ⟨rfl,hS⟩)

/-! punctual/punctualsame.Ends -/
abbrev punctualsame_Ends.Post (w0:World) (r:Bool) (e:Ending) (w:World):Prop:=e=.returned (.bool r)∧St w0 w []
def punctualsame_Ends.f (K : Nat) (l0_0 : List Int) (l0_1 : List SPut) (x0_2 : Int) (l1_0 : List Int) (l1_1 : List SPut) (x1_2 : Int) : Option Bool :=
 if x0_2=x1_2 then
  match punctualsame_Same_int.f K l0_0 l1_0 with
  | none=>none
  | some r1 =>
   if r1=true then
    match punctualsame_Same_api_Put.f K l0_1 l1_1 with
    | none=>none
    | some r2 =>
     some r2
   else
    some false
 else
  some false
theorem punctualsame_Ends_ok (K:Nat) (l0_0:List Int) (A0_0:Option Addr) (c0_0:Nat) (l0_1:List SPut) (A0_1:Option Addr) (c0_1:Nat) (x0_2:Int) (l1_0:List Int) (A1_0:Option Addr) (c1_0:Nat) (l1_1:List SPut) (A1_1:Option Addr) (c1_1:Nat) (x1_2:Int) (w0:World) (hR0_0:RdL w0 A0_0 l0_0) (hL0_0:l0_0.length≤c0_0) (hR0_1:RdL w0 A0_1 l0_1) (hL0_1:l0_1.length≤c0_1) (hR1_0:RdL w0 A1_0 l1_0) (hL1_0:l1_0.length≤c1_0) (hR1_1:RdL w0 A1_1 l1_1) (hL1_1:l1_1.length≤c1_1) (r:Bool) (h:punctualsame_Ends.f K l0_0 l0_1 x0_2 l1_0 l1_1 x1_2=some r) :
  Calls Tryd.prog 9 #[.agg #[.slice A0_0 l0_0.length c0_0,.slice A0_1 l0_1.length c0_1,vI x0_2],.agg #[.slice A1_0 l1_0.length c1_0,.slice A1_1 l1_1.length c1_1,vI x1_2]] w0 (punctualsame_Ends.Post w0 r):=by
 have hS:=St.start w0
 unfold punctualsame_Ends.f at h
 refine calls_enter (n:=24) (args:=[.agg #[.slice A0_0 l0_0.length c0_0,.slice A0_1 l0_1.length c0_1,vI x0_2],.agg #[.slice A1_0 l1_0.length c1_0,.slice A1_1 l1_1.length c1_1,vI x1_2]]) (fn:=Tryd.f9) rfl rfl rfl rfl ?_
 show WE _ _ _ _ [(0,.agg #[.slice A0_0 l0_0.length c0_0,.slice A0_1 l0_1.length c0_1,vI x0_2]),(1,.agg #[.slice A1_0 l1_0.length c1_0,.slice A1_1 l1_1.length c1_1,vI x1_2])] _
 refine ws fun K1 hK1=>wr [(0,1),(1,1),(2,0)]<|gw (some 2) (.cells #[.slice A0_0 l0_0.length c0_0,.slice A0_1 l0_1.length c0_1,vI x0_2] 27) (fun b=>pP b 0) hS fun b1 w1 hx1 hS1=>?_
 refine gw (some 3) (.cells #[.slice A1_0 l1_0.length c1_0,.slice A1_1 l1_1.length c1_1,vI x1_2] 27) (fun b=>pP b 0) hS1 fun b2 w2 hx2 hS2=>?_
 refine gb0 [2] [(4,.bool false)] ?_
 refine gn hK1<|ws fun K2 hK2=>wr [(0,0),(1,0),(2,0),(3,0),(4,0),(5,0),(6,0),(7,0),(8,0),(9,0),(10,1),(11,0),(12,0),(13,0),(14,0),(15,0),(16,0),(17,1),(18,0),(19,0)]<|gb [0,1,2,3,4,5] [(10,.bool (x0_2==x1_2)),(9,.bool (x0_2==x1_2)),(8,vI x1_2),(7,pP b2 2),(6,vI x0_2),(5,pP b1 2)] [.loaded ⟨b1,2,none⟩ (vI x0_2),.loaded ⟨b2,2,none⟩ (vI x1_2)] ⟨hS2.c 1,hS2.c 0,trivial⟩ ?_
 by_cases hc1:x0_2=x1_2
 ·rw [if_pos hc1] at h
  refine gk 10 (x0_2==x1_2) true (beq_iff_eq.2 hc1) ?_
  rcases hq1:punctualsame_Same_int.f K l0_0 l1_0 with _ | r1
  ·rw [hq1] at h; cases h
  rw [hq1] at h
  simp only [] at h
  refine gb [6,7,8,9] [(14,.slice A1_0 l1_0.length c1_0),(13,pP b2 0),(12,.slice A0_0 l0_0.length c0_0),(11,pP b1 0)] [.loaded ⟨b1,0,none⟩ (.slice A0_0 l0_0.length c0_0),.loaded ⟨b2,0,none⟩ (.slice A1_0 l1_0.length c1_0)] ⟨hS2.c 1,hS2.c 0,trivial⟩ ?_
  refine ge_call (d:=some 15) (f:=22) (args:=#[.slice A0_0 l0_0.length c0_0,.slice A1_0 l1_0.length c1_0]) (by kernel_rfl) (punctualsame_Same_int_ok K l0_0 A0_0 c0_0 l1_0 A1_0 c1_0 _ (hS2.rd hR0_0) hL0_0 (hS2.rd hR1_0) hL1_0 _ hq1) ?_
  rintro _ w3 ⟨rfl,hS3⟩
  refine ⟨_,rfl,hS3.below,?_⟩
  have hS4:=hS2.call hS3
  refine gb0 [11,12] [(17,.bool r1),(16,.bool r1)] ?_
  by_cases hc2:r1=true
  ·rw [if_pos hc2] at h
   refine gk 17 r1 true hc2 ?_
   rcases hq2:punctualsame_Same_api_Put.f K l0_1 l1_1 with _ | r2
   ·rw [hq2] at h; cases h
   rw [hq2] at h
   simp only [] at h
   refine gb [13,14,15,16] [(21,.slice A1_1 l1_1.length c1_1),(20,pP b2 1),(19,.slice A0_1 l0_1.length c0_1),(18,pP b1 1)] [.loaded ⟨b1,1,none⟩ (.slice A0_1 l0_1.length c0_1),.loaded ⟨b2,1,none⟩ (.slice A1_1 l1_1.length c1_1)] ⟨hS4.c 1,hS4.c 0,trivial⟩ ?_
   refine ge_call (d:=some 22) (f:=15) (args:=#[.slice A0_1 l0_1.length c0_1,.slice A1_1 l1_1.length c1_1]) (by kernel_rfl) (punctualsame_Same_api_Put_ok K l0_1 A0_1 c0_1 l1_1 A1_1 c1_1 _ (hS4.rd hR0_1) hL0_1 (hS4.rd hR1_1) hL1_1 _ hq2) ?_
   rintro _ w4 ⟨rfl,hS5⟩
   refine ⟨_,rfl,hS5.below,?_⟩
   have hS6:=hS4.call hS5
   refine gb0 [18,19] [(4,.bool r2),(23,.bool r2)] ?_
   refine gn hK2 ?_
   have hS7:=hS6.takeN 0
   obtain rfl:=si h
   exact we_ret (pr0 [.tmp 4] [.bool r2] ⟨rfl,hS7⟩)
  rw [if_neg hc2] at h
  refine gk 17 r1 false (Bool.eq_false_iff.2 hc2) ?_
  refine gb0 [13,14,15,16] [(21,undef),(20,undef),(19,undef),(18,undef)] ?_
  refine ge_off rfl rfl rfl (by kernel_rfl) ?_
  refine gb0 [18,19] [(4,.bool false),(23,.bool false)] ?_
  refine gn hK2 ?_
  have hS8:=hS4.takeN 0
  obtain rfl:=si h
  exact we_ret (pr0 [.tmp 4] [.bool false] ⟨rfl,hS8⟩)
 rw [if_neg hc1] at h
 refine gk 10 (x0_2==x1_2) false (beq_eq_false_iff_ne.2 hc1) ?_
 refine gb0 [6,7,8,9] [(14,undef),(13,undef),(12,undef),(11,undef)] ?_
 refine ge_off rfl rfl rfl (by kernel_rfl) ?_
 refine gb0 [11,12,13,14,15,16] [(21,undef),(20,undef),(19,undef),(18,undef),(17,.bool false),(16,.bool false)] ?_
 refine ge_off rfl rfl rfl (by kernel_rfl) ?_
 refine gb0 [18,19] [(4,.bool false),(23,.bool false)] ?_
 refine gn hK2 ?_
 have hS9:=hS2.takeN 0
 obtain rfl:=si h
 exact we_ret (pr0 [.tmp 4] [.bool false] ⟨rfl,hS9⟩)

/-! punctual/punctualsame.Still[punctual/api.Ins] -/
abbrev punctualsame_Still_api_Ins.Post (w0:World) (r:Bool) (e:Ending) (w:World):Prop:=e=.returned (.bool r)∧St w0 w []
def punctualsame_Still_api_Ins.r0 (f0 : List SIns) (l1 : List SIns) (x2 : SIns) : Nat → Option (Nat ⊕ (Unit ⊕ Bool))
 | i1 =>
  if (i1:Int)<(f0.length:Int) then
   match f0[i1]? with
   | none=>none
   | some e1 =>
    if (i1:Int)<(l1.length:Int) then
     match l1[i1]? with
     | none=>none
     | some e2 =>
      if (SIns.eqb e1 e2)=true then
       if (i1:Int) ≥ (l1.length:Int) then
        if (SIns.eqb e1 x2)=true then
         some (.inl (i1+1))
        else
         some (.inr (.inr false))
       else
        some (.inl (i1+1))
      else
       some (.inr (.inr false))
    else
     if (i1:Int) ≥ (l1.length:Int) then
      if (SIns.eqb e1 x2)=true then
       some (.inl (i1+1))
      else
       some (.inr (.inr false))
     else
      some (.inl (i1+1))
  else
   some (.inr (.inl ()))
def punctualsame_Still_api_Ins.f (K : Nat) (f0 : List SIns) (l1 : List SIns) (x2 : SIns) : Option Bool :=
 if (IntKind.i64.wrap ((l1.length:Int)+3))=(f0.length:Int) then
  match iter (punctualsame_Still_api_Ins.r0 f0 l1 x2) K 0 with
  | none=>none
  | some (.inl _) =>
   some true
  | some (.inr rr1) =>
   some rr1
 else
  none
abbrev punctualsame_Still_api_Ins.A0 (w0:World) (f0:List SIns) (A0:Option Addr) (c0:Nat) (l1:List SIns) (A1:Option Addr) (c1:Nat) (x2:SIns) (b1:Nat):Nat→Act→World→Prop:=fun (s:Nat) a w=>St w0 w [Own.blk b1 (.cells #[vI x2.Op,vI x2.A,vI x2.B] 35 (0,0))]∧Frm 46 a [(1,.slice A1 l1.length c1),(5,pP b1 0),(15,.slice A0 f0.length c0),(16,vI (f0.length:Int)),(17,vI (s:Int))]
abbrev punctualsame_Still_api_Ins.B0 (w0:World):(Unit ⊕ Bool)→Exit→Act→World→Prop:=Exits 0 (fun (s:Unit) a w=>St w0 w []∧Frm 46 a []) (Rets Tryd.prog Tryd.f10 (punctualsame_Still_api_Ins.Post w0))
theorem punctualsame_Still_api_Ins_r0 (K:Nat) (w0:World) (f0:List SIns) (A0:Option Addr) (n0:Nat) (c0:Nat) (l1:List SIns) (A1:Option Addr) (c1:Nat) (x2:SIns) (hR0:RdL w0 A0 f0) (hc0:f0.length≤c0) (hR1:RdL w0 A1 l1) (hL1:l1.length≤c1) (b1:Nat) (hc1:(IntKind.i64.wrap ((l1.length:Int)+3))=(f0.length:Int)) (s:Nat) (o:Nat ⊕ (Unit ⊕ Bool)) (h:punctualsame_Still_api_Ins.r0 f0 l1 x2 s=some o) (a:Act) (w:World) (hA:punctualsame_Still_api_Ins.A0 w0 f0 A0 c0 l1 A1 c1 x2 b1 s a w) (Q:Exit→Act→World→Prop) (hQ:∀ x a w,Outs (punctualsame_Still_api_Ins.A0 w0 f0 A0 c0 l1 A1 c1 x2 b1) (punctualsame_Still_api_Ins.B0 w0) o x a w→Q x a w):(subF Tryd.f10 [1,1,0,1,0,0]).wp Tryd.prog Q a w:=by
 obtain ⟨i1,hs⟩:∃ z,z=s:=⟨s,rfl⟩
 subst hs
 obtain ⟨hS,hF⟩:=hA
 replace hS:St w0 w [Own.blk b1 (.cells #[vI x2.Op,vI x2.A,vI x2.B] 35 (0,0))]:=hS
 simp only [punctualsame_Still_api_Ins.r0] at h
 refine (?_:WE Tryd.prog 46 (subF Tryd.f10 [1,1,0,1,0,0]) Q [(1,.slice A1 l1.length c1),(5,pP b1 0),(15,.slice A0 f0.length c0),(16,vI (f0.length:Int)),(17,vI (i1:Int))] w) a hF
 clear hF a
 refine ws fun K5 hK5=>wr [(0,0)]<|gb0 [0] [(18,.bool (decide ((i1:Int)<(f0.length:Int))))] ?_
 refine gn hK5<|ws fun K6 hK6=>?_
 by_cases hc2:(i1:Int)<(f0.length:Int)
 ·rw [if_pos hc2] at h
  refine wk 18 (decide ((i1:Int)<(f0.length:Int))) true (decide_eq_true hc2) ?_
  refine we_true (by kernel_rfl) ?_
  refine we_skip fun a hF=>hK6 _ _ ?_ a hF
  refine ws fun K7 hK7=>we_block<|ws fun K8 hK8=>wr [(0,0),(1,0),(2,0),(3,1),(4,0),(5,2)]<|gb0 [0] [(19,vI (i1:Int))] ?_
  rcases hx2:f0[i1]? with _ | e1
  ·rw [hx2] at h; cases h
  rw [hx2] at h
  simp only [] at h
  refine gi 20 0 22 35 3 f0.length c0 (.tmp 15) (.tmp 17) A0 .i64 (i1:Int) i1 ((hS.rd hR0).eqSome (pos_of_get hx2)) rfl (lt_of_get hx2) ?_
  refine gb [2] [(21,.agg #[vI e1.Op,vI e1.A,vI e1.B])] [.loaded ⟨blkOf A0,offOf A0+i1*3,none⟩ (vI e1.Op),.loaded ⟨blkOf A0,offOf A0+i1*3+1,none⟩ (vI e1.A),.loaded ⟨blkOf A0,offOf A0+i1*3+2,none⟩ (vI e1.B)] ⟨RdL.cell (j:=0) (hS.rd hR0) hx2 rfl,RdL.cell (j:=1) (hS.rd hR0) hx2 rfl,RdL.cell (j:=2) (hS.rd hR0) hx2 rfl,trivial⟩ ?_
  refine gw (some 9) (.cells #[vI 0,vI 0,vI 0] 35) (fun b=>pP b 0) hS fun b2 w2 hx3 hS2=>?_
  refine gb0 [4] [(8,vI (i1:Int))] ?_
  refine gs b2 0 #[vI 0,vI 0,vI 0] 35 [vI e1.Op,vI e1.A,vI e1.B] hS2 fun w3 hS3=>?_
  have hS4:=hS3.nc #[vI e1.Op,vI e1.A,vI e1.B] rfl
  refine gn hK8<|ws fun K9 hK9=>we_draws (by kernel_rfl) [(0,0),(1,0),(2,0),(3,0),(4,0),(5,0),(6,0),(7,0),(8,0),(9,0),(10,0),(11,0),(12,0),(13,0),(14,0),(15,0),(16,0),(17,0),(18,0),(19,0),(20,0),(21,0),(22,0)] (by kernel_rfl) ?_
  have hS5:=hS4.drew
  refine gb0 [0,1,2,3,4] [(26,.bool (decide ((i1:Int)<(l1.length:Int)))),(25,.bool (decide ((i1:Int)<(l1.length:Int)))),(24,vI (l1.length:Int)),(23,.slice A1 l1.length c1),(22,vI (i1:Int))] ?_
  by_cases hc3:(i1:Int)<(l1.length:Int)
  ·rw [if_pos hc3] at h
   refine gk 26 (decide ((i1:Int)<(l1.length:Int))) true (decide_eq_true hc3) ?_
   refine gb [5,6,7] [(29,vI (i1:Int)),(28,.slice A1 l1.length c1),(27,.agg #[vI e1.Op,vI e1.A,vI e1.B])] [.loaded ⟨b2,0,none⟩ (vI e1.Op),.loaded ⟨b2,1,none⟩ (vI e1.A),.loaded ⟨b2,2,none⟩ (vI e1.B)] ⟨hS5.c 0,hS5.c 0,hS5.c 0,trivial⟩ ?_
   rcases hx4:l1[i1]? with _ | e2
   ·rw [hx4] at h; cases h
   rw [hx4] at h
   simp only [] at h
   refine gi 30 0 22 35 3 l1.length c1 (.tmp 28) (.tmp 29) A1 .i64 (i1:Int) i1 ((hS5.rd hR1).eqSome (pos_of_get hx4)) rfl (lt_of_get hx4) ?_
   refine gb [9] [(31,.agg #[vI e2.Op,vI e2.A,vI e2.B])] [.loaded ⟨blkOf A1,offOf A1+i1*3,none⟩ (vI e2.Op),.loaded ⟨blkOf A1,offOf A1+i1*3+1,none⟩ (vI e2.A),.loaded ⟨blkOf A1,offOf A1+i1*3+2,none⟩ (vI e2.B)] ⟨RdL.cell (j:=0) (hS5.rd hR1) hx4 rfl,RdL.cell (j:=1) (hS5.rd hR1) hx4 rfl,RdL.cell (j:=2) (hS5.rd hR1) hx4 rfl,trivial⟩ ?_
   refine ge_eqs (d:=32) (ty:=4) (op:=.neq) (x:=(.tmp 27)) (y:=(.tmp 31)) (t:=35) (t2:=35) (xs:=#[vI e1.Op,vI e1.A,vI e1.B]) (ys:=#[vI e2.Op,vI e2.A,vI e2.B]) (r:=(SIns.eqb e1 e2)) (v:=!(SIns.eqb e1 e2)) (by kernel_rfl) (by kernel_rfl) (by kernel_rfl) (by kernel_rfl) (by kernel_rfl) rfl ?_
   refine gb0 [11,12] [(34,.bool (!(SIns.eqb e1 e2))),(33,.bool (!(SIns.eqb e1 e2)))] ?_
   by_cases hc4:(SIns.eqb e1 e2)=true
   ·rw [if_pos hc4] at h
    refine gk 34 (!(SIns.eqb e1 e2)) false (congrArg (fun z=>!z) hc4) ?_
    refine gb0 [13,14,15,16,17] [(39,.bool (decide ((i1:Int) ≥ (l1.length:Int)))),(38,.bool (decide ((i1:Int) ≥ (l1.length:Int)))),(37,vI (l1.length:Int)),(36,.slice A1 l1.length c1),(35,vI (i1:Int))] ?_
    by_cases hc5:(i1:Int) ≥ (l1.length:Int)
    ·rw [if_pos hc5] at h
     refine gk 39 (decide ((i1:Int) ≥ (l1.length:Int))) true (decide_eq_true hc5) ?_
     refine gb [18,19] [(41,.agg #[vI x2.Op,vI x2.A,vI x2.B]),(40,.agg #[vI e1.Op,vI e1.A,vI e1.B])] [.loaded ⟨b2,0,none⟩ (vI e1.Op),.loaded ⟨b2,1,none⟩ (vI e1.A),.loaded ⟨b2,2,none⟩ (vI e1.B),.loaded ⟨b1,0,none⟩ (vI x2.Op),.loaded ⟨b1,1,none⟩ (vI x2.A),.loaded ⟨b1,2,none⟩ (vI x2.B)] ⟨hS5.c 0,hS5.c 0,hS5.c 0,hS5.c 1,hS5.c 1,hS5.c 1,trivial⟩ ?_
     refine ge_eqs (d:=42) (ty:=4) (op:=.neq) (x:=(.tmp 40)) (y:=(.tmp 41)) (t:=35) (t2:=35) (xs:=#[vI e1.Op,vI e1.A,vI e1.B]) (ys:=#[vI x2.Op,vI x2.A,vI x2.B]) (r:=(SIns.eqb e1 x2)) (v:=!(SIns.eqb e1 x2)) (by kernel_rfl) (by kernel_rfl) (by kernel_rfl) (by kernel_rfl) (by kernel_rfl) rfl ?_
     refine gb0 [21,22] [(44,.bool (!(SIns.eqb e1 x2))),(43,.bool (!(SIns.eqb e1 x2)))] ?_
     refine gn hK9 ?_
     by_cases hc6:(SIns.eqb e1 x2)=true
     ·rw [if_pos hc6] at h
      refine wk 44 (!(SIns.eqb e1 x2)) false (congrArg (fun z=>!z) hc6) ?_
      refine we_false (by kernel_rfl) ?_
      refine we_skip fun a hF=>hK7 _ _ ?_ a hF
      refine wr [(0,0),(1,0)]<|ge_addn (d:=45) (ty:=3) (x:=(.tmp 17)) (y:=(.const (vI 1))) (t:=3) (t2:=3) (k:=.i64) (m:=i1) (by kernel_rfl) (by kernel_rfl) (by kernel_rfl) (by have h0:=hR0.small; omega) ?_
      refine gb0 [1] [(17,vI ((i1+1:Nat):Int))] ?_
      have hS7:=(hS5.b 1).takeN 1
      obtain rfl:=si h
      exact ge_nil fun a hF=>hQ _ _ _ (Outs.again ⟨hS7,hF.weaken ea⟩)
     rw [if_neg hc6] at h
     refine wk 44 (!(SIns.eqb e1 x2)) true (congrArg (fun z=>!z) (Bool.eq_false_iff.2 hc6)) ?_
     refine we_true (by kernel_rfl) ?_
     refine ws fun K10 hK10=>wr [(0,0)]<|gb0 [0] [(6,.bool false)] ?_
     refine gn hK10 ?_
     have hS8:=hS5.takeN 0
     obtain rfl:=si h
     exact we_ret fun a hF=>hQ _ _ _ (Outs.out nofun (Exits.on ⟨rfl,(pr0 [.tmp 6] [.bool false] ⟨rfl,hS8⟩) a hF⟩))
    rw [if_neg hc5] at h
    refine gk 39 (decide ((i1:Int) ≥ (l1.length:Int))) false (decide_eq_false hc5) ?_
    refine gb0 [18,19,20,21,22] [(44,.bool false),(43,.bool false),(42,undef),(41,undef),(40,undef)] ?_
    refine gn hK9<|we_false (by kernel_rfl) ?_
    refine we_skip fun a hF=>hK7 _ _ ?_ a hF
    refine wr [(0,0),(1,0)]<|ge_addn (d:=45) (ty:=3) (x:=(.tmp 17)) (y:=(.const (vI 1))) (t:=3) (t2:=3) (k:=.i64) (m:=i1) (by kernel_rfl) (by kernel_rfl) (by kernel_rfl) (by have h0:=hR0.small; omega) ?_
    refine gb0 [1] [(17,vI ((i1+1:Nat):Int))] ?_
    have hS10:=(hS5.b 1).takeN 1
    obtain rfl:=si h
    exact ge_nil fun a hF=>hQ _ _ _ (Outs.again ⟨hS10,hF.weaken ea⟩)
   rw [if_neg hc4] at h
   refine gk 34 (!(SIns.eqb e1 e2)) true (congrArg (fun z=>!z) (Bool.eq_false_iff.2 hc4)) ?_
   refine gb0 [13,14,15,16,17,18,19,20,21,22] [(44,.bool true),(43,undef),(42,undef),(41,undef),(40,undef),(39,undef),(38,undef),(37,undef),(36,undef),(35,undef)] ?_
   refine gn hK9<|we_true (by kernel_rfl) ?_
   refine ws fun K11 hK11=>wr [(0,0)]<|gb0 [0] [(6,.bool false)] ?_
   refine gn hK11 ?_
   have hS11:=hS5.takeN 0
   obtain rfl:=si h
   exact we_ret fun a hF=>hQ _ _ _ (Outs.out nofun (Exits.on ⟨rfl,(pr0 [.tmp 6] [.bool false] ⟨rfl,hS11⟩) a hF⟩))
  rw [if_neg hc3] at h
  refine gk 26 (decide ((i1:Int)<(l1.length:Int))) false (decide_eq_false hc3) ?_
  refine gb0 [5,6,7,8,9,10,11,12,13,14,15,16,17] [(39,.bool (decide ((i1:Int) ≥ (l1.length:Int)))),(38,.bool (decide ((i1:Int) ≥ (l1.length:Int)))),(37,vI (l1.length:Int)),(36,.slice A1 l1.length c1),(35,vI (i1:Int)),(34,.bool false),(33,.bool false),(32,undef),(31,undef),(30,undef),(29,undef),(28,undef),(27,undef)] ?_
  by_cases hc7:(i1:Int) ≥ (l1.length:Int)
  ·rw [if_pos hc7] at h
   refine gk 39 (decide ((i1:Int) ≥ (l1.length:Int))) true (decide_eq_true hc7) ?_
   refine gb [18,19] [(41,.agg #[vI x2.Op,vI x2.A,vI x2.B]),(40,.agg #[vI e1.Op,vI e1.A,vI e1.B])] [.loaded ⟨b2,0,none⟩ (vI e1.Op),.loaded ⟨b2,1,none⟩ (vI e1.A),.loaded ⟨b2,2,none⟩ (vI e1.B),.loaded ⟨b1,0,none⟩ (vI x2.Op),.loaded ⟨b1,1,none⟩ (vI x2.A),.loaded ⟨b1,2,none⟩ (vI x2.B)] ⟨hS5.c 0,hS5.c 0,hS5.c 0,hS5.c 1,hS5.c 1,hS5.c 1,trivial⟩ ?_
   refine ge_eqs (d:=42) (ty:=4) (op:=.neq) (x:=(.tmp 40)) (y:=(.tmp 41)) (t:=35) (t2:=35) (xs:=#[vI e1.Op,vI e1.A,vI e1.B]) (ys:=#[vI x2.Op,vI x2.A,vI x2.B]) (r:=(SIns.eqb e1 x2)) (v:=!(SIns.eqb e1 x2)) (by kernel_rfl) (by kernel_rfl) (by kernel_rfl) (by kernel_rfl) (by kernel_rfl) rfl ?_
   refine gb0 [21,22] [(44,.bool (!(SIns.eqb e1 x2))),(43,.bool (!(SIns.eqb e1 x2)))] ?_
   refine gn hK9 ?_
   by_cases hc8:(SIns.eqb e1 x2)=true
   ·rw [if_pos hc8] at h
    refine wk 44 (!(SIns.eqb e1 x2)) false (congrArg (fun z=>!z) hc8) ?_
    refine we_false (by kernel_rfl) ?_
    refine we_skip fun a hF=>hK7 _ _ ?_ a hF
    refine wr [(0,0),(1,0)]<|ge_addn (d:=45) (ty:=3) (x:=(.tmp 17)) (y:=(.const (vI 1))) (t:=3) (t2:=3) (k:=.i64) (m:=i1) (by kernel_rfl) (by kernel_rfl) (by kernel_rfl) (by have h0:=hR0.small; omega) ?_
    refine gb0 [1] [(17,vI ((i1+1:Nat):Int))] ?_
    have hS13:=(hS5.b 1).takeN 1
    obtain rfl:=si h
    exact ge_nil fun a hF=>hQ _ _ _ (Outs.again ⟨hS13,hF.weaken ea⟩)
   rw [if_neg hc8] at h
   refine wk 44 (!(SIns.eqb e1 x2)) true (congrArg (fun z=>!z) (Bool.eq_false_iff.2 hc8)) ?_
   refine we_true (by kernel_rfl) ?_
   refine ws fun K12 hK12=>wr [(0,0)]<|gb0 [0] [(6,.bool false)] ?_
   refine gn hK12 ?_
   have hS14:=hS5.takeN 0
   obtain rfl:=si h
   exact we_ret fun a hF=>hQ _ _ _ (Outs.out nofun (Exits.on ⟨rfl,(pr0 [.tmp 6] [.bool false] ⟨rfl,hS14⟩) a hF⟩))
  rw [if_neg hc7] at h
  refine gk 39 (decide ((i1:Int) ≥ (l1.length:Int))) false (decide_eq_false hc7) ?_
  refine gb0 [18,19,20,21,22] [(44,.bool false),(43,.bool false),(42,undef),(41,undef),(40,undef)] ?_
  refine gn hK9<|we_false (by kernel_rfl) ?_
  refine we_skip fun a hF=>hK7 _ _ ?_ a hF
  refine wr [(0,0),(1,0)]<|ge_addn (d:=45) (ty:=3) (x:=(.tmp 17)) (y:=(.const (vI 1))) (t:=3) (t2:=3) (k:=.i64) (m:=i1) (by kernel_rfl) (by kernel_rfl) (by kernel_rfl) (by have h0:=hR0.small; omega) ?_
  refine gb0 [1] [(17,vI ((i1+1:Nat):Int))] ?_
  have hS16:=(hS5.b 1).takeN 1
  obtain rfl:=si h
  exact ge_nil fun a hF=>hQ _ _ _ (Outs.again ⟨hS16,hF.weaken ea⟩)
 rw [if_neg hc2] at h
 refine wk 18 (decide ((i1:Int)<(f0.length:Int))) false (decide_eq_false hc2) ?_
 refine we_false (by kernel_rfl) ?_
 have hS17:=hS.takeN 0
 obtain rfl:=si h
 exact we_exit fun a hF=>hQ _ _ _ (Outs.out nofun (Exits.here ⟨hS17,hF.weaken trivial⟩))
theorem punctualsame_Still_api_Ins_ok (K:Nat) (f0:List SIns) (A0:Option Addr) (n0:Nat) (c0:Nat) (l1:List SIns) (A1:Option Addr) (c1:Nat) (x2:SIns) (w0:World) (hR0:RdL w0 A0 f0) (hc0:f0.length≤c0) (hR1:RdL w0 A1 l1) (hL1:l1.length≤c1) (r:Bool) (h:punctualsame_Still_api_Ins.f K f0 l1 x2=some r) :
  Calls Tryd.prog 10 #[.slice A0 n0 c0,.slice A1 l1.length c1,.agg #[vI x2.Op,vI x2.A,vI x2.B]] w0 (punctualsame_Still_api_Ins.Post w0 r):=by
 have hS:=St.start w0
 unfold punctualsame_Still_api_Ins.f at h
 refine calls_enter (n:=46) (args:=[.slice A0 n0 c0,.slice A1 l1.length c1,.agg #[vI x2.Op,vI x2.A,vI x2.B]]) (fn:=Tryd.f10) rfl rfl rfl rfl ?_
 show WE _ _ _ _ [(0,.slice A0 n0 c0),(1,.slice A1 l1.length c1),(2,.agg #[vI x2.Op,vI x2.A,vI x2.B])] _
 refine ws fun K1 hK1=>wr [(0,1),(1,0)]<|gw (some 5) (.cells #[vI x2.Op,vI x2.A,vI x2.B] 35) (fun b=>pP b 0) hS fun b1 w1 hx1 hS1=>?_
 refine gb0 [1] [(6,.bool false)] ?_
 refine gn hK1<|ws fun K2 hK2=>wr [(0,0),(1,0),(2,0),(3,0),(4,0),(5,0)]<|gb0 [0,1,2,3] [(13,vI (IntKind.i64.wrap ((l1.length:Int)+3))),(12,vI (l1.length:Int)),(11,.slice A1 l1.length c1),(10,.slice A0 n0 c0)] ?_
 by_cases hc1:(IntKind.i64.wrap ((l1.length:Int)+3))=(f0.length:Int)
 ·rw [if_pos hc1] at h
  refine ge_sliceHi (d:=14) (ty:=22) (t:=22) (el:=35) (sz:=3) (m:=n0) (c:=c0) (hn:=f0.length) (x:=(.tmp 10)) (y:=(.tmp 13)) (A:=A0) (k':=.i64) (hi:=(IntKind.i64.wrap ((l1.length:Int)+3))) (by kernel_rfl) (by kernel_rfl) (by kernel_rfl) hc1 (by kernel_rfl) (by kernel_rfl) hc0 ?_
  refine gb0 [5] [(7,.slice A0 f0.length c0)] ?_
  refine gn hK2<|ws fun K3 hK3=>ws fun K4 hK4=>wr [(0,0),(1,0),(2,0)]<|gb0 [0,1,2] [(17,vI 0),(16,vI (f0.length:Int)),(15,.slice A0 f0.length c0)] ?_
  refine gn hK4<|we_block ?_
  rcases hq1:iter (punctualsame_Still_api_Ins.r0 f0 l1 x2) K 0 with _ | (_ | rr1)
  ·rw [hq1] at h; cases h
  ·rw [hq1] at h
   simp only [] at h
   refine we_iter (A:=punctualsame_Still_api_Ins.A0 w0 f0 A0 c0 l1 A1 c1 x2 b1) (B:=punctualsame_Still_api_Ins.B0 w0) hq1 (fun a hF=>⟨hS1,hF.weaken ea⟩) (fun s o hf a w hA Q hQ=>punctualsame_Still_api_Ins_r0 K w0 f0 A0 n0 c0 l1 A1 c1 x2 hR0 hc0 hR1 hL1 b1 hc1 s o hf a w hA Q hQ) ?_
   rintro _ a w4 _ ⟨rfl,hS18,hF⟩
   replace hS18:St w0 w4 []:=hS18
   refine hK3 [] w4 ?_ a hF
   refine ws fun K13 hK13=>wr [(0,0)]<|gb0 [0] [(6,.bool true)] ?_
   refine gn hK13 ?_
   obtain rfl:=si h
   exact we_ret (pr0 [.tmp 6] [.bool true] ⟨rfl,hS18⟩)
  rw [hq1] at h
  simp only [] at h
  refine we_iter (A:=punctualsame_Still_api_Ins.A0 w0 f0 A0 c0 l1 A1 c1 x2 b1) (B:=punctualsame_Still_api_Ins.B0 w0) hq1 (fun a hF=>⟨hS1,hF.weaken ea⟩) (fun s o hf a w hA Q hQ=>punctualsame_Still_api_Ins_r0 K w0 f0 A0 n0 c0 l1 A1 c1 x2 hR0 hc0 hR1 hL1 b1 hc1 s o hf a w hA Q hQ) ?_
  rintro _ a w1 _ ⟨rfl,hb⟩
  obtain rfl:=si h
  exact hb
 rw [if_neg hc1] at h
 cases h

/-! punctual/punctualsame.Still[int] -/
abbrev punctualsame_Still_int.Post (w0:World) (r:Bool) (e:Ending) (w:World):Prop:=e=.returned (.bool r)∧St w0 w []
def punctualsame_Still_int.r0 (f0 : List Int) (l1 : List Int) (x2 : Int) : Nat → Option (Nat ⊕ (Unit ⊕ Bool))
 | i1 =>
  if (i1:Int)<(f0.length:Int) then
   match f0[i1]? with
   | none=>none
   | some e1 =>
    if (i1:Int)<(l1.length:Int) then
     match l1[i1]? with
     | none=>none
     | some e2 =>
      if e1=e2 then
       if (i1:Int) ≥ (l1.length:Int) then
        if e1=x2 then
         some (.inl (i1+1))
        else
         some (.inr (.inr false))
       else
        some (.inl (i1+1))
      else
       some (.inr (.inr false))
    else
     if (i1:Int) ≥ (l1.length:Int) then
      if e1=x2 then
       some (.inl (i1+1))
      else
       some (.inr (.inr false))
     else
      some (.inl (i1+1))
  else
   some (.inr (.inl ()))
def punctualsame_Still_int.f (K : Nat) (f0 : List Int) (l1 : List Int) (x2 : Int) : Option Bool :=
 if (IntKind.i64.wrap ((l1.length:Int)+3))=(f0.length:Int) then
  match iter (punctualsame_Still_int.r0 f0 l1 x2) K 0 with
  | none=>none
  | some (.inl _) =>
   some true
  | some (.inr rr1) =>
   some rr1
 else
  none
abbrev punctualsame_Still_int.A0 (w0:World) (f0:List Int) (A0:Option Addr) (c0:Nat) (l1:List Int) (A1:Option Addr) (c1:Nat) (x2:Int):Nat→Act→World→Prop:=fun (s:Nat) a w=>St w0 w []∧Frm 46 a [(1,.slice A1 l1.length c1),(2,vI x2),(15,.slice A0 f0.length c0),(16,vI (f0.length:Int)),(17,vI (s:Int))]
abbrev punctualsame_Still_int.B0 (w0:World):(Unit ⊕ Bool)→Exit→Act→World→Prop:=Exits 0 (fun (s:Unit) a w=>St w0 w []∧Frm 46 a []) (Rets Tryd.prog Tryd.f11 (punctualsame_Still_int.Post w0))
theorem punctualsame_Still_int_r0 (K:Nat) (w0:World) (f0:List Int) (A0:Option Addr) (n0:Nat) (c0:Nat) (l1:List Int) (A1:Option Addr) (c1:Nat) (x2:Int) (hR0:RdL w0 A0 f0) (hc0:f0.length≤c0) (hR1:RdL w0 A1 l1) (hL1:l1.length≤c1) (hc1:(IntKind.i64.wrap ((l1.length:Int)+3))=(f0.length:Int)) (s:Nat) (o:Nat ⊕ (Unit ⊕ Bool)) (h:punctualsame_Still_int.r0 f0 l1 x2 s=some o) (a:Act) (w:World) (hA:punctualsame_Still_int.A0 w0 f0 A0 c0 l1 A1 c1 x2 s a w) (Q:Exit→Act→World→Prop) (hQ:∀ x a w,Outs (punctualsame_Still_int.A0 w0 f0 A0 c0 l1 A1 c1 x2) (punctualsame_Still_int.B0 w0) o x a w→Q x a w):(subF Tryd.f11 [1,1,0,1,0,0]).wp Tryd.prog Q a w:=by
 obtain ⟨i1,hs⟩:∃ z,z=s:=⟨s,rfl⟩
 subst hs
 obtain ⟨hS,hF⟩:=hA
 replace hS:St w0 w []:=hS
 simp only [punctualsame_Still_int.r0] at h
 refine (?_:WE Tryd.prog 46 (subF Tryd.f11 [1,1,0,1,0,0]) Q [(1,.slice A1 l1.length c1),(2,vI x2),(15,.slice A0 f0.length c0),(16,vI (f0.length:Int)),(17,vI (i1:Int))] w) a hF
 clear hF a
 refine ws fun K5 hK5=>wr [(0,0)]<|gb0 [0] [(18,.bool (decide ((i1:Int)<(f0.length:Int))))] ?_
 refine gn hK5<|ws fun K6 hK6=>?_
 by_cases hc2:(i1:Int)<(f0.length:Int)
 ·rw [if_pos hc2] at h
  refine wk 18 (decide ((i1:Int)<(f0.length:Int))) true (decide_eq_true hc2) ?_
  refine we_true (by kernel_rfl) ?_
  refine we_skip fun a hF=>hK6 _ _ ?_ a hF
  refine ws fun K7 hK7=>we_block<|ws fun K8 hK8=>wr [(0,0),(1,0),(2,0),(3,0),(4,0)]<|gb0 [0] [(19,vI (i1:Int))] ?_
  rcases hx1:f0[i1]? with _ | e1
  ·rw [hx1] at h; cases h
  rw [hx1] at h
  simp only [] at h
  refine gi 20 0 23 3 1 f0.length c0 (.tmp 15) (.tmp 17) A0 .i64 (i1:Int) i1 ((hS.rd hR0).eqSome (pos_of_get hx1)) rfl (lt_of_get hx1) ?_
  refine gb [2,3,4] [(9,vI e1),(8,vI (i1:Int)),(21,vI e1)] [.loaded ⟨blkOf A0,offOf A0+i1*1,none⟩ (vI e1)] ⟨RdL.cell (j:=0) (hS.rd hR0) hx1 rfl,trivial⟩ ?_
  refine gn hK8<|ws fun K9 hK9=>wr [(0,0),(1,0),(2,0),(3,0),(4,0),(5,0),(6,0),(7,0),(8,0),(9,0),(10,0),(11,0),(12,0),(13,0),(14,0),(15,0),(16,0),(17,0),(18,0),(19,0),(20,0),(21,0),(22,0)]<|gb0 [0,1,2,3,4] [(26,.bool (decide ((i1:Int)<(l1.length:Int)))),(25,.bool (decide ((i1:Int)<(l1.length:Int)))),(24,vI (l1.length:Int)),(23,.slice A1 l1.length c1),(22,vI (i1:Int))] ?_
  by_cases hc3:(i1:Int)<(l1.length:Int)
  ·rw [if_pos hc3] at h
   refine gk 26 (decide ((i1:Int)<(l1.length:Int))) true (decide_eq_true hc3) ?_
   refine gb0 [5,6,7] [(29,vI (i1:Int)),(28,.slice A1 l1.length c1),(27,vI e1)] ?_
   rcases hx2:l1[i1]? with _ | e2
   ·rw [hx2] at h; cases h
   rw [hx2] at h
   simp only [] at h
   refine gi 30 0 23 3 1 l1.length c1 (.tmp 28) (.tmp 29) A1 .i64 (i1:Int) i1 ((hS.rd hR1).eqSome (pos_of_get hx2)) rfl (lt_of_get hx2) ?_
   refine gb [9,10,11,12] [(34,.bool (e1 != e2)),(33,.bool (e1 != e2)),(32,.bool (e1 != e2)),(31,vI e2)] [.loaded ⟨blkOf A1,offOf A1+i1*1,none⟩ (vI e2)] ⟨RdL.cell (j:=0) (hS.rd hR1) hx2 rfl,trivial⟩ ?_
   by_cases hc4:e1=e2
   ·rw [if_pos hc4] at h
    refine gk 34 (e1 != e2) false (bne_eq_false_iff_eq.2 hc4) ?_
    refine gb0 [13,14,15,16,17] [(39,.bool (decide ((i1:Int) ≥ (l1.length:Int)))),(38,.bool (decide ((i1:Int) ≥ (l1.length:Int)))),(37,vI (l1.length:Int)),(36,.slice A1 l1.length c1),(35,vI (i1:Int))] ?_
    by_cases hc5:(i1:Int) ≥ (l1.length:Int)
    ·rw [if_pos hc5] at h
     refine gk 39 (decide ((i1:Int) ≥ (l1.length:Int))) true (decide_eq_true hc5) ?_
     refine gb0 [18,19,20,21,22] [(44,.bool (e1 != x2)),(43,.bool (e1 != x2)),(42,.bool (e1 != x2)),(41,vI x2),(40,vI e1)] ?_
     refine gn hK9 ?_
     by_cases hc6:e1=x2
     ·rw [if_pos hc6] at h
      refine wk 44 (e1 != x2) false (bne_eq_false_iff_eq.2 hc6) ?_
      refine we_false (by kernel_rfl) ?_
      refine we_skip fun a hF=>hK7 _ _ ?_ a hF
      refine wr [(0,0),(1,0)]<|ge_addn (d:=45) (ty:=3) (x:=(.tmp 17)) (y:=(.const (vI 1))) (t:=3) (t2:=3) (k:=.i64) (m:=i1) (by kernel_rfl) (by kernel_rfl) (by kernel_rfl) (by have h0:=hR0.small; omega) ?_
      refine gb0 [1] [(17,vI ((i1+1:Nat):Int))] ?_
      obtain rfl:=si h
      exact ge_nil fun a hF=>hQ _ _ _ (Outs.again ⟨hS,hF.weaken ea⟩)
     rw [if_neg hc6] at h
     refine wk 44 (e1 != x2) true (bne_iff_ne.2 hc6) ?_
     refine we_true (by kernel_rfl) ?_
     refine ws fun K10 hK10=>wr [(0,0)]<|gb0 [0] [(6,.bool false)] ?_
     refine gn hK10 ?_
     obtain rfl:=si h
     exact we_ret fun a hF=>hQ _ _ _ (Outs.out nofun (Exits.on ⟨rfl,(pr0 [.tmp 6] [.bool false] ⟨rfl,hS⟩) a hF⟩))
    rw [if_neg hc5] at h
    refine gk 39 (decide ((i1:Int) ≥ (l1.length:Int))) false (decide_eq_false hc5) ?_
    refine gb0 [18,19,20,21,22] [(44,.bool false),(43,.bool false),(42,undef),(41,undef),(40,undef)] ?_
    refine gn hK9<|we_false (by kernel_rfl) ?_
    refine we_skip fun a hF=>hK7 _ _ ?_ a hF
    refine wr [(0,0),(1,0)]<|ge_addn (d:=45) (ty:=3) (x:=(.tmp 17)) (y:=(.const (vI 1))) (t:=3) (t2:=3) (k:=.i64) (m:=i1) (by kernel_rfl) (by kernel_rfl) (by kernel_rfl) (by have h0:=hR0.small; omega) ?_
    refine gb0 [1] [(17,vI ((i1+1:Nat):Int))] ?_
    obtain rfl:=si h
    exact ge_nil fun a hF=>hQ _ _ _ (Outs.again ⟨hS,hF.weaken ea⟩)
   rw [if_neg hc4] at h
   refine gk 34 (e1 != e2) true (bne_iff_ne.2 hc4) ?_
   refine gb0 [13,14,15,16,17,18,19,20,21,22] [(44,.bool true),(43,undef),(42,undef),(41,undef),(40,undef),(39,undef),(38,undef),(37,undef),(36,undef),(35,undef)] ?_
   refine gn hK9<|we_true (by kernel_rfl) ?_
   refine ws fun K11 hK11=>wr [(0,0)]<|gb0 [0] [(6,.bool false)] ?_
   refine gn hK11 ?_
   obtain rfl:=si h
   exact we_ret fun a hF=>hQ _ _ _ (Outs.out nofun (Exits.on ⟨rfl,(pr0 [.tmp 6] [.bool false] ⟨rfl,hS⟩) a hF⟩))
  rw [if_neg hc3] at h
  refine gk 26 (decide ((i1:Int)<(l1.length:Int))) false (decide_eq_false hc3) ?_
  refine gb0 [5,6,7,8,9,10,11,12,13,14,15,16,17] [(39,.bool (decide ((i1:Int) ≥ (l1.length:Int)))),(38,.bool (decide ((i1:Int) ≥ (l1.length:Int)))),(37,vI (l1.length:Int)),(36,.slice A1 l1.length c1),(35,vI (i1:Int)),(34,.bool false),(33,.bool false),(32,undef),(31,undef),(30,undef),(29,undef),(28,undef),(27,undef)] ?_
  by_cases hc7:(i1:Int) ≥ (l1.length:Int)
  ·rw [if_pos hc7] at h
   refine gk 39 (decide ((i1:Int) ≥ (l1.length:Int))) true (decide_eq_true hc7) ?_
   refine gb0 [18,19,20,21,22] [(44,.bool (e1 != x2)),(43,.bool (e1 != x2)),(42,.bool (e1 != x2)),(41,vI x2),(40,vI e1)] ?_
   refine gn hK9 ?_
   by_cases hc8:e1=x2
   ·rw [if_pos hc8] at h
    refine wk 44 (e1 != x2) false (bne_eq_false_iff_eq.2 hc8) ?_
    refine we_false (by kernel_rfl) ?_
    refine we_skip fun a hF=>hK7 _ _ ?_ a hF
    refine wr [(0,0),(1,0)]<|ge_addn (d:=45) (ty:=3) (x:=(.tmp 17)) (y:=(.const (vI 1))) (t:=3) (t2:=3) (k:=.i64) (m:=i1) (by kernel_rfl) (by kernel_rfl) (by kernel_rfl) (by have h0:=hR0.small; omega) ?_
    refine gb0 [1] [(17,vI ((i1+1:Nat):Int))] ?_
    obtain rfl:=si h
    exact ge_nil fun a hF=>hQ _ _ _ (Outs.again ⟨hS,hF.weaken ea⟩)
   rw [if_neg hc8] at h
   refine wk 44 (e1 != x2) true (bne_iff_ne.2 hc8) ?_
   refine we_true (by kernel_rfl) ?_
   refine ws fun K12 hK12=>wr [(0,0)]<|gb0 [0] [(6,.bool false)] ?_
   refine gn hK12 ?_
   obtain rfl:=si h
   exact we_ret fun a hF=>hQ _ _ _ (Outs.out nofun (Exits.on ⟨rfl,(pr0 [.tmp 6] [.bool false] ⟨rfl,hS⟩) a hF⟩))
  rw [if_neg hc7] at h
  refine gk 39 (decide ((i1:Int) ≥ (l1.length:Int))) false (decide_eq_false hc7) ?_
  refine gb0 [18,19,20,21,22] [(44,.bool false),(43,.bool false),(42,undef),(41,undef),(40,undef)] ?_
  refine gn hK9<|we_false (by kernel_rfl) ?_
  refine we_skip fun a hF=>hK7 _ _ ?_ a hF
  refine wr [(0,0),(1,0)]<|ge_addn (d:=45) (ty:=3) (x:=(.tmp 17)) (y:=(.const (vI 1))) (t:=3) (t2:=3) (k:=.i64) (m:=i1) (by kernel_rfl) (by kernel_rfl) (by kernel_rfl) (by have h0:=hR0.small; omega) ?_
  refine gb0 [1] [(17,vI ((i1+1:Nat):Int))] ?_
  obtain rfl:=si h
  exact ge_nil fun a hF=>hQ _ _ _ (Outs.again ⟨hS,hF.weaken ea⟩)
 rw [if_neg hc2] at h
 refine wk 18 (decide ((i1:Int)<(f0.length:Int))) false (decide_eq_false hc2) ?_
 refine we_false (by kernel_rfl) ?_
 obtain rfl:=si h
 exact we_exit fun a hF=>hQ _ _ _ (Outs.out nofun (Exits.here ⟨hS,hF.weaken trivial⟩))
theorem punctualsame_Still_int_ok (K:Nat) (f0:List Int) (A0:Option Addr) (n0:Nat) (c0:Nat) (l1:List Int) (A1:Option Addr) (c1:Nat) (x2:Int) (w0:World) (hR0:RdL w0 A0 f0) (hc0:f0.length≤c0) (hR1:RdL w0 A1 l1) (hL1:l1.length≤c1) (r:Bool) (h:punctualsame_Still_int.f K f0 l1 x2=some r) :
  Calls Tryd.prog 11 #[.slice A0 n0 c0,.slice A1 l1.length c1,vI x2] w0 (punctualsame_Still_int.Post w0 r):=by
 have hS:=St.start w0
 unfold punctualsame_Still_int.f at h
 refine calls_enter (n:=46) (args:=[.slice A0 n0 c0,.slice A1 l1.length c1,vI x2]) (fn:=Tryd.f11) rfl rfl rfl rfl ?_
 show WE _ _ _ _ [(0,.slice A0 n0 c0),(1,.slice A1 l1.length c1),(2,vI x2)] _
 refine ws fun K1 hK1=>wr [(0,0)]<|gb0 [0] [(6,.bool false)] ?_
 refine gn hK1<|ws fun K2 hK2=>wr [(0,0),(1,0),(2,0),(3,0),(4,0),(5,0)]<|gb0 [0,1,2,3] [(13,vI (IntKind.i64.wrap ((l1.length:Int)+3))),(12,vI (l1.length:Int)),(11,.slice A1 l1.length c1),(10,.slice A0 n0 c0)] ?_
 by_cases hc1:(IntKind.i64.wrap ((l1.length:Int)+3))=(f0.length:Int)
 ·rw [if_pos hc1] at h
  refine ge_sliceHi (d:=14) (ty:=23) (t:=23) (el:=3) (sz:=1) (m:=n0) (c:=c0) (hn:=f0.length) (x:=(.tmp 10)) (y:=(.tmp 13)) (A:=A0) (k':=.i64) (hi:=(IntKind.i64.wrap ((l1.length:Int)+3))) (by kernel_rfl) (by kernel_rfl) (by kernel_rfl) hc1 (by kernel_rfl) (by kernel_rfl) hc0 ?_
  refine gb0 [5] [(7,.slice A0 f0.length c0)] ?_
  refine gn hK2<|ws fun K3 hK3=>ws fun K4 hK4=>wr [(0,0),(1,0),(2,0)]<|gb0 [0,1,2] [(17,vI 0),(16,vI (f0.length:Int)),(15,.slice A0 f0.length c0)] ?_
  refine gn hK4<|we_block ?_
  rcases hq1:iter (punctualsame_Still_int.r0 f0 l1 x2) K 0 with _ | (_ | rr1)
  ·rw [hq1] at h; cases h
  ·rw [hq1] at h
   simp only [] at h
   refine we_iter (A:=punctualsame_Still_int.A0 w0 f0 A0 c0 l1 A1 c1 x2) (B:=punctualsame_Still_int.B0 w0) hq1 (fun a hF=>⟨hS,hF.weaken ea⟩) (fun s o hf a w hA Q hQ=>punctualsame_Still_int_r0 K w0 f0 A0 n0 c0 l1 A1 c1 x2 hR0 hc0 hR1 hL1 hc1 s o hf a w hA Q hQ) ?_
   rintro _ a w1 _ ⟨rfl,hS1,hF⟩
   replace hS1:St w0 w1 []:=hS1
   refine hK3 [] w1 ?_ a hF
   refine ws fun K13 hK13=>wr [(0,0)]<|gb0 [0] [(6,.bool true)] ?_
   refine gn hK13 ?_
   obtain rfl:=si h
   exact we_ret (pr0 [.tmp 6] [.bool true] ⟨rfl,hS1⟩)
  rw [hq1] at h
  simp only [] at h
  refine we_iter (A:=punctualsame_Still_int.A0 w0 f0 A0 c0 l1 A1 c1 x2) (B:=punctualsame_Still_int.B0 w0) hq1 (fun a hF=>⟨hS,hF.weaken ea⟩) (fun s o hf a w hA Q hQ=>punctualsame_Still_int_r0 K w0 f0 A0 n0 c0 l1 A1 c1 x2 hR0 hc0 hR1 hL1 hc1 s o hf a w hA Q hQ) ?_
  rintro _ a w1 _ ⟨rfl,hb⟩
  obtain rfl:=si h
  exact hb
 rw [if_neg hc1] at h
 cases h

/-! punctual/punctualsame.Spoil[int] -/
theorem punctualsame_Spoil_int_ok (w0 w:World) {L:List Own} (A:Option Addr) (n c:Nat) (l:List Int) (hS:St w0 w (Own.of (.slice A n c) 3 l::L)):Calls Tryd.prog 12 #[.slice A n c] w (fun e w'=>e=.returned (.tuple #[])∧St w0 w' L):=by
 refine calls_enter (n:=6) (args:=[.slice A n c]) (fn:=Tryd.f12) rfl rfl rfl rfl ?_
 show WE _ _ _ _ [(0,.slice A n c)] _
 refine wr [(0,0),(1,0),(2,0),(3,0),(4,2)]<|gb0 [0,1,2] [(4,vI (c:Int)),(3,.slice A n c),(2,.slice A n c)] ?_
 refine ge_sliceHi (d:=5) (ty:=23) (t:=23) (el:=3) (sz:=1) (m:=n) (c:=c) (hn:=c) (x:=(.tmp 2)) (y:=(.tmp 4)) (A:=A) (k':=.i64) (hi:=(c:Int)) (by kernel_rfl) (by kernel_rfl) (by kernel_rfl) rfl (by kernel_rfl) (by kernel_rfl) (Nat.le_refl _) ?_
 refine ge_clear (α:=Int) (m:=0) (t:=23) (el:=3) (c:=c) (k:=n) (bytes:=8) (x:=(.tmp 5)) (ty:=0) (A:=A) (z:=vI 0) (l:=l) (by kernel_rfl) (by kernel_rfl) (by kernel_rfl) (by kernel_rfl) rfl rfl hS fun w1 hS1=>?_
 exact ge_nil (pe0 [] [] ⟨rfl,hS1⟩)

/-! punctual/punctualsame.Spoil[punctual/api.Put] -/
theorem punctualsame_Spoil_api_Put_ok (w0 w:World) {L:List Own} (A:Option Addr) (n c:Nat) (l:List SPut) (hS:St w0 w (Own.of (.slice A n c) 43 l::L)):Calls Tryd.prog 13 #[.slice A n c] w (fun e w'=>e=.returned (.tuple #[])∧St w0 w' L):=by
 refine calls_enter (n:=6) (args:=[.slice A n c]) (fn:=Tryd.f13) rfl rfl rfl rfl ?_
 show WE _ _ _ _ [(0,.slice A n c)] _
 refine wr [(0,0),(1,0),(2,0),(3,0),(4,2)]<|gb0 [0,1,2] [(4,vI (c:Int)),(3,.slice A n c),(2,.slice A n c)] ?_
 refine ge_sliceHi (d:=5) (ty:=25) (t:=25) (el:=43) (sz:=2) (m:=n) (c:=c) (hn:=c) (x:=(.tmp 2)) (y:=(.tmp 4)) (A:=A) (k':=.i64) (hi:=(c:Int)) (by kernel_rfl) (by kernel_rfl) (by kernel_rfl) rfl (by kernel_rfl) (by kernel_rfl) (Nat.le_refl _) ?_
 refine ge_clear (α:=SPut) (m:=0) (t:=25) (el:=43) (c:=c) (k:=n) (bytes:=16) (x:=(.tmp 5)) (ty:=0) (A:=A) (z:=.agg #[vI 0,vI 0]) (l:=l) (by kernel_rfl) (by kernel_rfl) (by kernel_rfl) (by kernel_rfl) rfl rfl hS fun w1 hS1=>?_
 exact ge_nil (pe0 [] [] ⟨rfl,hS1⟩)

/-! punctual/punctuallaw.MachRuns -/
abbrev MachRuns.Post (w0:World) (r:Bool) (e:Ending) (w:World):Prop:=e=.returned (.bool r)∧St w0 w []
def MachRuns.r0 (K : Nat) (l0 : List SIns) (l1 : List Int) (l2 : List Int) (r2 : SEnded × SFault) : Nat → Option (Nat ⊕ (Unit ⊕ Bool))
 | i1 =>
  if (i1:Int)<2 then
   match mach_Run.f K l0 l1 l2 with
   | none=>none
   | some r6 =>
    if (SFault.eqb r6.2 r2.2)=true then
     match punctualsame_Ends.f K r6.1.Vars r6.1.Puts r6.1.Steps r2.1.Vars r2.1.Puts r2.1.Steps with
     | none=>none
     | some r7 =>
      if r7=true then
       match punctualsame_Still_api_Ins.f K (l0++[(⟨(-1),(-2),(-3)⟩:SIns),(⟨(-1),(-2),(-3)⟩:SIns),(⟨(-1),(-2),(-3)⟩:SIns)]) l0 (⟨(-1),(-2),(-3)⟩:SIns) with
       | none=>none
       | some r8 =>
        if r8=true then
         match punctualsame_Still_int.f K (l1++[(-9),(-9),(-9)]) l1 (-9) with
         | none=>none
         | some r9 =>
          if r9=true then
           match punctualsame_Still_int.f K (l2++[(-9),(-9),(-9)]) l2 (-9) with
           | none=>none
           | some r10 =>
            if r10=true then
             some (.inl (i1+1))
            else
             some (.inr (.inr false))
          else
           some (.inr (.inr false))
        else
         some (.inr (.inr false))
      else
       some (.inr (.inr false))
    else
     some (.inr (.inr false))
  else
   some (.inr (.inl ()))
def MachRuns.f (K : Nat) (l0 : List SIns) (l1 : List Int) (l2 : List Int) : Option Bool :=
 match works.f K with
 | none=>none
 | some r1 =>
  if r1=true then
   if (l0.length:Int) > 3000 then
    some true
   else
    match punctualref_Execute.f K l0 l1 l2 with
    | none=>none
    | some r2 =>
     match punctualsame_Lend_api_Ins.f l0 (⟨(-1),(-2),(-3)⟩:SIns) with
     | none=>none
     | some _ =>
      match punctualsame_Lend_int.f l1 (-9) with
      | none=>none
      | some _ =>
       match punctualsame_Lend_int.f l2 (-9) with
       | none=>none
       | some _ =>
        match iter (MachRuns.r0 K l0 l1 l2 r2) K 0 with
        | none=>none
        | some (.inl _) =>
         some true
        | some (.inr rr1) =>
         some rr1
  else
   some false
abbrev MachRuns.A0 (w0:World) (l0:List SIns) (A0:Option Addr) (c0:Nat) (l1:List Int) (A1:Option Addr) (c1:Nat) (l2:List Int) (A2:Option Addr) (c2:Nat) (r2:SEnded×SFault) (b1:Nat) (b2:Nat) (Z1:Option Addr) (cz1:Nat) (Z2:Option Addr) (cz2:Nat) (Z3:Option Addr) (cz3:Nat) (Z4:Option Addr) (cz4:Nat) (Z5:Option Addr) (cz5:Nat):Nat→Act→World→Prop:=fun (s:Nat) a w=>St w0 w [Own.blk b2 (.cells #[vI r2.2.Code,vI r2.2.At] 30 (0,0)),Own.blk b1 (.cells #[(.slice Z1 r2.1.Vars.length cz1),(.slice Z2 r2.1.Puts.length cz2),vI r2.1.Steps] 27 (0,0)),Own.of (.slice Z3 (l0++[(⟨(-1),(-2),(-3)⟩:SIns),(⟨(-1),(-2),(-3)⟩:SIns),(⟨(-1),(-2),(-3)⟩:SIns)]).length cz3) 35 (l0++[(⟨(-1),(-2),(-3)⟩:SIns),(⟨(-1),(-2),(-3)⟩:SIns),(⟨(-1),(-2),(-3)⟩:SIns)]),Own.of (.slice Z4 (l1++[(-9),(-9),(-9)]).length cz4) 3 (l1++[(-9),(-9),(-9)]),Own.of (.slice Z5 (l2++[(-9),(-9),(-9)]).length cz5) 3 (l2++[(-9),(-9),(-9)]),Own.of (.slice Z1 r2.1.Vars.length cz1) 3 r2.1.Vars,Own.of (.slice Z2 r2.1.Puts.length cz2) 43 r2.1.Puts]∧Frm 77 a [(0,.slice A0 l0.length c0),(1,.slice A1 l1.length c1),(2,.slice A2 l2.length c2),(7,pP b1 0),(8,pP b2 0),(9,.slice Z3 l0.length cz3),(10,.slice Z4 l1.length cz4),(11,.slice Z5 l2.length cz5),(33,vI (s:Int))]
abbrev MachRuns.B0 (w0:World):(Unit ⊕ Bool)→Exit→Act→World→Prop:=Exits 0 (fun (s:Unit) a w=>St w0 w []∧Frm 77 a []) (Rets Tryd.prog Tryd.f3 (MachRuns.Post w0))
theorem MachRuns_r0 (K:Nat) (w0:World) (l0:List SIns) (A0:Option Addr) (c0:Nat) (l1:List Int) (A1:Option Addr) (c1:Nat) (l2:List Int) (A2:Option Addr) (c2:Nat) (hR0:RdL w0 A0 l0) (hL0:l0.length≤c0) (hR1:RdL w0 A1 l1) (hL1:l1.length≤c1) (hR2:RdL w0 A2 l2) (hL2:l2.length≤c2) (hG0:Glob w0 0 [vI (-1),vI (-2),vI (-3)]) (r1:Bool) (hc1:r1=true) (hc2:¬ ((l0.length:Int) > 3000)) (r2:SEnded×SFault) (b1:Nat) (b2:Nat) (Z1:Option Addr) (cz1:Nat) (Z2:Option Addr) (cz2:Nat) (Z3:Option Addr) (cz3:Nat) (hcp1:(l0++[(⟨(-1),(-2),(-3)⟩:SIns),(⟨(-1),(-2),(-3)⟩:SIns),(⟨(-1),(-2),(-3)⟩:SIns)]).length≤cz3) (Z4:Option Addr) (cz4:Nat) (hcp2:(l1++[(-9),(-9),(-9)]).length≤cz4) (Z5:Option Addr) (cz5:Nat) (hcp3:(l2++[(-9),(-9),(-9)]).length≤cz5) (s:Nat) (o:Nat ⊕ (Unit ⊕ Bool)) (h:MachRuns.r0 K l0 l1 l2 r2 s=some o) (a:Act) (w:World) (hA:MachRuns.A0 w0 l0 A0 c0 l1 A1 c1 l2 A2 c2 r2 b1 b2 Z1 cz1 Z2 cz2 Z3 cz3 Z4 cz4 Z5 cz5 s a w) (Q:Exit→Act→World→Prop) (hQ:∀ x a w,Outs (MachRuns.A0 w0 l0 A0 c0 l1 A1 c1 l2 A2 c2 r2 b1 b2 Z1 cz1 Z2 cz2 Z3 cz3 Z4 cz4 Z5 cz5) (MachRuns.B0 w0) o x a w→Q x a w):(subF Tryd.f3 [1,1,1,1,1,0,1,0,0]).wp Tryd.prog Q a w:=by
 obtain ⟨i1,hs⟩:∃ z,z=s:=⟨s,rfl⟩
 subst hs
 obtain ⟨hS,hF⟩:=hA
 replace hS:St w0 w [Own.blk b2 (.cells #[vI r2.2.Code,vI r2.2.At] 30 (0,0)),Own.blk b1 (.cells #[(.slice Z1 r2.1.Vars.length cz1),(.slice Z2 r2.1.Puts.length cz2),vI r2.1.Steps] 27 (0,0)),Own.of (.slice Z3 (l0++[(⟨(-1),(-2),(-3)⟩:SIns),(⟨(-1),(-2),(-3)⟩:SIns),(⟨(-1),(-2),(-3)⟩:SIns)]).length cz3) 35 (l0++[(⟨(-1),(-2),(-3)⟩:SIns),(⟨(-1),(-2),(-3)⟩:SIns),(⟨(-1),(-2),(-3)⟩:SIns)]),Own.of (.slice Z4 (l1++[(-9),(-9),(-9)]).length cz4) 3 (l1++[(-9),(-9),(-9)]),Own.of (.slice Z5 (l2++[(-9),(-9),(-9)]).length cz5) 3 (l2++[(-9),(-9),(-9)]),Own.of (.slice Z1 r2.1.Vars.length cz1) 3 r2.1.Vars,Own.of (.slice Z2 r2.1.Puts.length cz2) 43 r2.1.Puts]:=hS
 simp only [MachRuns.r0] at h
 refine (?_:WE Tryd.prog 77 (subF Tryd.f3 [1,1,1,1,1,0,1,0,0]) Q [(0,.slice A0 l0.length c0),(1,.slice A1 l1.length c1),(2,.slice A2 l2.length c2),(7,pP b1 0),(8,pP b2 0),(9,.slice Z3 l0.length cz3),(10,.slice Z4 l1.length cz4),(11,.slice Z5 l2.length cz5),(33,vI (i1:Int))] w) a hF
 clear hF a
 refine ws fun K11 hK11=>wr [(0,0)]<|gb0 [0] [(34,.bool (decide ((i1:Int)<2)))] ?_
 refine gn hK11<|ws fun K12 hK12=>?_
 by_cases hc3:(i1:Int)<2
 ·rw [if_pos hc3] at h
  refine wk 34 (decide ((i1:Int)<2)) true (decide_eq_true hc3) ?_
  refine we_true (by kernel_rfl) ?_
  refine we_skip fun a hF=>hK12 _ _ ?_ a hF
  refine ws fun K13 hK13=>we_block<|ws fun K14 hK14=>wr [(0,0),(1,0),(2,0),(3,1),(4,0),(5,0),(6,0),(7,1),(8,1),(9,2),(10,2)] ?_
  rcases hq6:mach_Run.f K l0 l1 l2 with _ | r6
  ·rw [hq6] at h; cases h
  rw [hq6] at h
  simp only [] at h
  refine gb0 [0,1,2] [(38,.slice Z5 l2.length cz5),(37,.slice Z4 l1.length cz4),(36,.slice Z3 l0.length cz3)] ?_
  refine ge_call (d:=some 39) (f:=8) (args:=#[.slice Z3 l0.length cz3,.slice Z4 l1.length cz4,.slice Z5 l2.length cz5]) (by kernel_rfl) (mach_Run_ok K l0 Z3 cz3 l1 Z4 cz4 l2 Z5 cz5 _ ((hS.rdAt 2 rfl).pre) (by have h0:=hcp1; simp only [List.length_append,List.length_cons,List.length_nil] at h0; omega) ((hS.rdAt 3 rfl).pre) (by have h0:=hcp2; simp only [List.length_append,List.length_cons,List.length_nil] at h0; omega) ((hS.rdAt 4 rfl).pre) (by have h0:=hcp3; simp only [List.length_append,List.length_cons,List.length_nil] at h0; omega) _ hq6) ?_
  rintro _ w10 ⟨v3,v4,rfl,hS26⟩
  refine ⟨_,rfl,hS26.below,?_⟩
  have hS27:=hS.call hS26
  refine gb0 [4,5,6] [(41,.agg #[vI r6.2.Code,vI r6.2.At]),(40,.agg #[v3,v4,vI r6.1.Steps]),(35,.tuple #[.agg #[v3,v4,vI r6.1.Steps],.agg #[vI r6.2.Code,vI r6.2.At]])] ?_
  refine gw (some 12) (.cells #[.slice none 0 0,.slice none 0 0,vI 0] 27) (fun b=>pP b 0) hS27 fun b3 w11 hx3 hS28=>?_
  refine gw (some 13) (.cells #[vI 0,vI 0] 30) (fun b=>pP b 0) hS28 fun b4 w12 hx4 hS29=>?_
  obtain ⟨Z6,cz6,rfl⟩:=hS29.open 2 rfl
  obtain ⟨Z7,cz7,rfl⟩:=hS29.open 3 rfl
  have hS30:=hS29.b 1
  refine gs b3 0 #[.slice none 0 0,.slice none 0 0,vI 0] 27 [(.slice Z6 r6.1.Vars.length cz6),(.slice Z7 r6.1.Puts.length cz7),vI r6.1.Steps] hS30 fun w13 hS31=>?_
  have hS33:=(hS31.nc #[(.slice Z6 r6.1.Vars.length cz6),(.slice Z7 r6.1.Puts.length cz7),vI r6.1.Steps] rfl).b 1
  refine gs b4 0 #[vI 0,vI 0] 30 [vI r6.2.Code,vI r6.2.At] hS33 fun w14 hS34=>?_
  have hS35:=hS34.nc #[vI r6.2.Code,vI r6.2.At] rfl
  refine gn hK14<|ws fun K15 hK15=>ws fun K16 hK16=>wr [(0,0),(1,0),(2,0),(3,0),(4,0),(5,0),(6,1),(7,0),(8,0),(9,0),(10,0),(11,0),(12,0),(13,1),(14,0),(15,0),(16,0),(17,0),(18,0),(19,1),(20,0),(21,0),(22,0),(23,0),(24,0),(25,1),(26,0),(27,0)]<|gb [0,1] [(43,.agg #[vI r2.2.Code,vI r2.2.At]),(42,.agg #[vI r6.2.Code,vI r6.2.At])] [.loaded ⟨b4,0,none⟩ (vI r6.2.Code),.loaded ⟨b4,1,none⟩ (vI r6.2.At),.loaded ⟨b2,0,none⟩ (vI r2.2.Code),.loaded ⟨b2,1,none⟩ (vI r2.2.At)] ⟨hS35.c 0,hS35.c 0,hS35.c 4,hS35.c 4,trivial⟩ ?_
  refine ge_eqs (d:=44) (ty:=4) (op:=.neq) (x:=(.tmp 42)) (y:=(.tmp 43)) (t:=30) (t2:=30) (xs:=#[vI r6.2.Code,vI r6.2.At]) (ys:=#[vI r2.2.Code,vI r2.2.At]) (r:=(SFault.eqb r6.2 r2.2)) (v:=!(SFault.eqb r6.2 r2.2)) (by kernel_rfl) (by kernel_rfl) (by kernel_rfl) (by kernel_rfl) (by kernel_rfl) rfl ?_
  refine gb0 [3] [(45,.bool (!(SFault.eqb r6.2 r2.2)))] ?_
  by_cases hc4:(SFault.eqb r6.2 r2.2)=true
  ·rw [if_pos hc4] at h
   refine gk 45 (!(SFault.eqb r6.2 r2.2)) false (congrArg (fun z=>!z) hc4) ?_
   rcases hq7:punctualsame_Ends.f K r6.1.Vars r6.1.Puts r6.1.Steps r2.1.Vars r2.1.Puts r2.1.Steps with _ | r7
   ·rw [hq7] at h; cases h
   rw [hq7] at h
   simp only [] at h
   refine gb [4,5] [(47,.agg #[(.slice Z1 r2.1.Vars.length cz1),(.slice Z2 r2.1.Puts.length cz2),vI r2.1.Steps]),(46,.agg #[(.slice Z6 r6.1.Vars.length cz6),(.slice Z7 r6.1.Puts.length cz7),vI r6.1.Steps])] [.loaded ⟨b3,0,none⟩ ((.slice Z6 r6.1.Vars.length cz6)),.loaded ⟨b3,1,none⟩ ((.slice Z7 r6.1.Puts.length cz7)),.loaded ⟨b3,2,none⟩ (vI r6.1.Steps),.loaded ⟨b1,0,none⟩ ((.slice Z1 r2.1.Vars.length cz1)),.loaded ⟨b1,1,none⟩ ((.slice Z2 r2.1.Puts.length cz2)),.loaded ⟨b1,2,none⟩ (vI r2.1.Steps)] ⟨hS35.c 1,hS35.c 1,hS35.c 1,hS35.c 5,hS35.c 5,hS35.c 5,trivial⟩ ?_
   refine ge_call (d:=some 48) (f:=9) (args:=#[.agg #[(.slice Z6 r6.1.Vars.length cz6),(.slice Z7 r6.1.Puts.length cz7),vI r6.1.Steps],.agg #[(.slice Z1 r2.1.Vars.length cz1),(.slice Z2 r2.1.Puts.length cz2),vI r2.1.Steps]]) (by kernel_rfl) (punctualsame_Ends_ok K r6.1.Vars Z6 cz6 r6.1.Puts Z7 cz7 r6.1.Steps r2.1.Vars Z1 cz1 r2.1.Puts Z2 cz2 r2.1.Steps _ (hS35.rdAt 2 rfl) (hS35.capAt 2 rfl) (hS35.rdAt 3 rfl) (hS35.capAt 3 rfl) (hS35.rdAt 9 rfl) (hS35.capAt 9 rfl) (hS35.rdAt 10 rfl) (hS35.capAt 10 rfl) _ hq7) ?_
   rintro _ w15 ⟨rfl,hS36⟩
   refine ⟨_,rfl,hS36.below,?_⟩
   have hS37:=hS35.call hS36
   refine gb0 [7,8,9] [(51,.bool (!r7)),(50,.bool (!r7)),(49,.bool (!r7))] ?_
   by_cases hc5:r7=true
   ·rw [if_pos hc5] at h
    refine gk 51 (!r7) false (congrArg (fun z=>!z) hc5) ?_
    refine gb [10,11,12] [(54,.agg #[vI (-1),vI (-2),vI (-3)]),(53,.slice A0 l0.length c0),(52,.slice Z3 l0.length cz3)] [.loaded ⟨0,0,none⟩ (vI (-1)),.loaded ⟨0,1,none⟩ (vI (-2)),.loaded ⟨0,2,none⟩ (vI (-3))] ⟨hS37.glob hG0 rfl,hS37.glob hG0 rfl,hS37.glob hG0 rfl,trivial⟩ ?_
    rcases hq8:punctualsame_Still_api_Ins.f K (l0++[(⟨(-1),(-2),(-3)⟩:SIns),(⟨(-1),(-2),(-3)⟩:SIns),(⟨(-1),(-2),(-3)⟩:SIns)]) l0 (⟨(-1),(-2),(-3)⟩:SIns) with _ | r8
    ·rw [hq8] at h; cases h
    rw [hq8] at h
    simp only [] at h
    refine ge_call (d:=some 55) (f:=10) (args:=#[.slice Z3 l0.length cz3,.slice A0 l0.length c0,.agg #[vI (-1),vI (-2),vI (-3)]]) (by kernel_rfl) (punctualsame_Still_api_Ins_ok K (l0++[(⟨(-1),(-2),(-3)⟩:SIns),(⟨(-1),(-2),(-3)⟩:SIns),(⟨(-1),(-2),(-3)⟩:SIns)]) Z3 l0.length cz3 l0 A0 c0 (⟨(-1),(-2),(-3)⟩:SIns) _ (hS37.rdAt 6 rfl) hcp1 (hS37.rd hR0) hL0 _ hq8) ?_
    rintro _ w16 ⟨rfl,hS38⟩
    refine ⟨_,rfl,hS38.below,?_⟩
    have hS39:=hS37.call hS38
    refine gb0 [14,15,16] [(58,.bool (!r8)),(57,.bool (!r8)),(56,.bool (!r8))] ?_
    by_cases hc6:r8=true
    ·rw [if_pos hc6] at h
     refine gk 58 (!r8) false (congrArg (fun z=>!z) hc6) ?_
     refine gb0 [17,18] [(60,.slice A1 l1.length c1),(59,.slice Z4 l1.length cz4)] ?_
     rcases hq9:punctualsame_Still_int.f K (l1++[(-9),(-9),(-9)]) l1 (-9) with _ | r9
     ·rw [hq9] at h; cases h
     rw [hq9] at h
     simp only [] at h
     refine ge_call (d:=some 61) (f:=11) (args:=#[.slice Z4 l1.length cz4,.slice A1 l1.length c1,vI (-9)]) (by kernel_rfl) (punctualsame_Still_int_ok K (l1++[(-9),(-9),(-9)]) Z4 l1.length cz4 l1 A1 c1 (-9) _ (hS39.rdAt 7 rfl) hcp2 (hS39.rd hR1) hL1 _ hq9) ?_
     rintro _ w17 ⟨rfl,hS40⟩
     refine ⟨_,rfl,hS40.below,?_⟩
     have hS41:=hS39.call hS40
     refine gb0 [20,21,22] [(64,.bool (!r9)),(63,.bool (!r9)),(62,.bool (!r9))] ?_
     by_cases hc7:r9=true
     ·rw [if_pos hc7] at h
      refine gk 64 (!r9) false (congrArg (fun z=>!z) hc7) ?_
      refine gb0 [23,24] [(66,.slice A2 l2.length c2),(65,.slice Z5 l2.length cz5)] ?_
      rcases hq10:punctualsame_Still_int.f K (l2++[(-9),(-9),(-9)]) l2 (-9) with _ | r10
      ·rw [hq10] at h; cases h
      rw [hq10] at h
      simp only [] at h
      refine ge_call (d:=some 67) (f:=11) (args:=#[.slice Z5 l2.length cz5,.slice A2 l2.length c2,vI (-9)]) (by kernel_rfl) (punctualsame_Still_int_ok K (l2++[(-9),(-9),(-9)]) Z5 l2.length cz5 l2 A2 c2 (-9) _ (hS41.rdAt 8 rfl) hcp3 (hS41.rd hR2) hL2 _ hq10) ?_
      rintro _ w18 ⟨rfl,hS42⟩
      refine ⟨_,rfl,hS42.below,?_⟩
      have hS43:=hS41.call hS42
      refine gb0 [26,27] [(69,.bool (!r10)),(68,.bool (!r10))] ?_
      refine gn hK16 ?_
      by_cases hc8:r10=true
      ·rw [if_pos hc8] at h
       refine wk 69 (!r10) false (congrArg (fun z=>!z) hc8) ?_
       refine we_false (by kernel_rfl) ?_
       refine we_skip fun a hF=>hK15 _ _ ?_ a hF
       refine ws fun K17 hK17=>wr [(0,0),(1,0),(2,2)]<|gb [0,1] [(71,(.slice Z6 r6.1.Vars.length cz6)),(70,pP b3 0)] [.loaded ⟨b3,0,none⟩ ((.slice Z6 r6.1.Vars.length cz6))] ⟨hS43.c 1,trivial⟩ ?_
       have hS44:=hS43.b 2
       refine ge_call2 (m:=0) (d:=some 72) (f:=12) (args:=#[.slice Z6 r6.1.Vars.length cz6]) (by kernel_rfl) (punctualsame_Spoil_int_ok _ _ Z6 r6.1.Vars.length cz6 _ hS44) ?_
       rintro _ w19 ⟨rfl,hS45⟩
       refine ⟨_,rfl,?_⟩
       refine gn hK17<|wr [(0,0),(1,0),(2,2)]<|gb [0,1] [(74,(.slice Z7 r6.1.Puts.length cz7)),(73,pP b3 1)] [.loaded ⟨b3,1,none⟩ ((.slice Z7 r6.1.Puts.length cz7))] ⟨hS45.c 1,trivial⟩ ?_
       have hS46:=hS45.b 2
       refine ge_call2 (m:=0) (d:=some 75) (f:=13) (args:=#[.slice Z7 r6.1.Puts.length cz7]) (by kernel_rfl) (punctualsame_Spoil_api_Put_ok _ _ Z7 r6.1.Puts.length cz7 _ hS46) ?_
       rintro _ w20 ⟨rfl,hS47⟩
       refine ⟨_,rfl,?_⟩
       refine gn hK13<|wr [(0,0),(1,0)]<|ge_addn (d:=76) (ty:=3) (x:=(.tmp 33)) (y:=(.const (vI 1))) (t:=3) (t2:=3) (k:=.i64) (m:=i1) (by kernel_rfl) (by kernel_rfl) (by kernel_rfl) (by omega) ?_
       refine gb0 [1] [(33,vI ((i1+1:Nat):Int))] ?_
       have hS55:=(((((((hS47.b 8).b 8).b 8).b 8).b 8).b 8).b 8).takeN 7
       obtain rfl:=si h
       exact ge_nil fun a hF=>hQ _ _ _ (Outs.again ⟨hS55,hF.weaken ea⟩)
      rw [if_neg hc8] at h
      refine wk 69 (!r10) true (congrArg (fun z=>!z) (Bool.eq_false_iff.2 hc8)) ?_
      refine we_true (by kernel_rfl) ?_
      refine ws fun K18 hK18=>wr [(0,0)]<|gb0 [0] [(6,.bool false)] ?_
      refine gn hK18 ?_
      have hS56:=hS43.takeN 0
      obtain rfl:=si h
      exact we_ret fun a hF=>hQ _ _ _ (Outs.out nofun (Exits.on ⟨rfl,(pr0 [.tmp 6] [.bool false] ⟨rfl,hS56⟩) a hF⟩))
     rw [if_neg hc7] at h
     refine gk 64 (!r9) true (congrArg (fun z=>!z) (Bool.eq_false_iff.2 hc7)) ?_
     refine gb0 [23,24] [(66,undef),(65,undef)] ?_
     refine ge_off rfl rfl rfl (by kernel_rfl) ?_
     refine gb0 [26,27] [(69,.bool true),(68,undef)] ?_
     refine gn hK16<|we_true (by kernel_rfl) ?_
     refine ws fun K19 hK19=>wr [(0,0)]<|gb0 [0] [(6,.bool false)] ?_
     refine gn hK19 ?_
     have hS57:=hS41.takeN 0
     obtain rfl:=si h
     exact we_ret fun a hF=>hQ _ _ _ (Outs.out nofun (Exits.on ⟨rfl,(pr0 [.tmp 6] [.bool false] ⟨rfl,hS57⟩) a hF⟩))
    rw [if_neg hc6] at h
    refine gk 58 (!r8) true (congrArg (fun z=>!z) (Bool.eq_false_iff.2 hc6)) ?_
    refine gb0 [17,18] [(60,undef),(59,undef)] ?_
    refine ge_off rfl rfl rfl (by kernel_rfl) ?_
    refine gb0 [20,21,22,23,24] [(66,undef),(65,undef),(64,.bool true),(63,.bool true),(62,undef)] ?_
    refine ge_off rfl rfl rfl (by kernel_rfl) ?_
    refine gb0 [26,27] [(69,.bool true),(68,undef)] ?_
    refine gn hK16<|we_true (by kernel_rfl) ?_
    refine ws fun K20 hK20=>wr [(0,0)]<|gb0 [0] [(6,.bool false)] ?_
    refine gn hK20 ?_
    have hS58:=hS39.takeN 0
    obtain rfl:=si h
    exact we_ret fun a hF=>hQ _ _ _ (Outs.out nofun (Exits.on ⟨rfl,(pr0 [.tmp 6] [.bool false] ⟨rfl,hS58⟩) a hF⟩))
   rw [if_neg hc5] at h
   refine gk 51 (!r7) true (congrArg (fun z=>!z) (Bool.eq_false_iff.2 hc5)) ?_
   refine gb0 [10,11,12] [(54,undef),(53,undef),(52,undef)] ?_
   refine ge_off rfl rfl rfl (by kernel_rfl) ?_
   refine gb0 [14,15,16,17,18] [(60,undef),(59,undef),(58,.bool true),(57,.bool true),(56,undef)] ?_
   refine ge_off rfl rfl rfl (by kernel_rfl) ?_
   refine gb0 [20,21,22,23,24] [(66,undef),(65,undef),(64,.bool true),(63,.bool true),(62,undef)] ?_
   refine ge_off rfl rfl rfl (by kernel_rfl) ?_
   refine gb0 [26,27] [(69,.bool true),(68,undef)] ?_
   refine gn hK16<|we_true (by kernel_rfl) ?_
   refine ws fun K21 hK21=>wr [(0,0)]<|gb0 [0] [(6,.bool false)] ?_
   refine gn hK21 ?_
   have hS59:=hS37.takeN 0
   obtain rfl:=si h
   exact we_ret fun a hF=>hQ _ _ _ (Outs.out nofun (Exits.on ⟨rfl,(pr0 [.tmp 6] [.bool false] ⟨rfl,hS59⟩) a hF⟩))
  rw [if_neg hc4] at h
  refine gk 45 (!(SFault.eqb r6.2 r2.2)) true (congrArg (fun z=>!z) (Bool.eq_false_iff.2 hc4)) ?_
  refine gb0 [4,5] [(47,undef),(46,undef)] ?_
  refine ge_off rfl rfl rfl (by kernel_rfl) ?_
  refine gb0 [7,8,9,10,11,12] [(54,undef),(53,undef),(52,undef),(51,.bool true),(50,.bool true),(49,undef)] ?_
  refine ge_off rfl rfl rfl (by kernel_rfl) ?_
  refine gb0 [14,15,16,17,18] [(60,undef),(59,undef),(58,.bool true),(57,.bool true),(56,undef)] ?_
  refine ge_off rfl rfl rfl (by kernel_rfl) ?_
  refine gb0 [20,21,22,23,24] [(66,undef),(65,undef),(64,.bool true),(63,.bool true),(62,undef)] ?_
  refine ge_off rfl rfl rfl (by kernel_rfl) ?_
  refine gb0 [26,27] [(69,.bool true),(68,undef)] ?_
  refine gn hK16<|we_true (by kernel_rfl) ?_
  refine ws fun K22 hK22=>wr [(0,0)]<|gb0 [0] [(6,.bool false)] ?_
  refine gn hK22 ?_
  have hS60:=hS35.takeN 0
  obtain rfl:=si h
  exact we_ret fun a hF=>hQ _ _ _ (Outs.out nofun (Exits.on ⟨rfl,(pr0 [.tmp 6] [.bool false] ⟨rfl,hS60⟩) a hF⟩))
 rw [if_neg hc3] at h
 refine wk 34 (decide ((i1:Int)<2)) false (decide_eq_false hc3) ?_
 refine we_false (by kernel_rfl) ?_
 have hS61:=hS.takeN 0
 obtain rfl:=si h
 exact we_exit fun a hF=>hQ _ _ _ (Outs.out nofun (Exits.here ⟨hS61,hF.weaken trivial⟩))
theorem MachRuns_ok (K:Nat) (l0:List SIns) (A0:Option Addr) (c0:Nat) (l1:List Int) (A1:Option Addr) (c1:Nat) (l2:List Int) (A2:Option Addr) (c2:Nat) (w0:World) (hR0:RdL w0 A0 l0) (hL0:l0.length≤c0) (hR1:RdL w0 A1 l1) (hL1:l1.length≤c1) (hR2:RdL w0 A2 l2) (hL2:l2.length≤c2) (hG0:Glob w0 0 [vI (-1),vI (-2),vI (-3)]) (r:Bool) (h:MachRuns.f K l0 l1 l2=some r) :
  Calls Tryd.prog 3 #[.slice A0 l0.length c0,.slice A1 l1.length c1,.slice A2 l2.length c2] w0 (MachRuns.Post w0 r):=by
 have hS:=St.start w0
 unfold MachRuns.f at h
 refine calls_enter (n:=77) (args:=[.slice A0 l0.length c0,.slice A1 l1.length c1,.slice A2 l2.length c2]) (fn:=Tryd.f3) rfl rfl rfl rfl ?_
 show WE _ _ _ _ [(0,.slice A0 l0.length c0),(1,.slice A1 l1.length c1),(2,.slice A2 l2.length c2)] _
 refine ws fun K1 hK1=>wr [(0,0)]<|gb0 [0] [(6,.bool false)] ?_
 refine gn hK1<|ws fun K2 hK2=>ws fun K3 hK3=>wr [(0,1),(1,0)] ?_
 rcases hq1:works.f K with _ | r1
 ·rw [hq1] at h; cases h
 rw [hq1] at h
 simp only [] at h
 refine ge_call (d:=some 14) (f:=4) (args:=#[]) (by kernel_rfl) (works_ok K _ _ hq1) ?_
 rintro _ w1 ⟨rfl,hS1⟩
 refine ⟨_,rfl,hS1.below,?_⟩
 have hS2:=hS.call hS1
 refine gb0 [1] [(15,.bool (!r1))] ?_
 refine gn hK3 ?_
 by_cases hc1:r1=true
 ·rw [if_pos hc1] at h
  refine wk 15 (!r1) false (congrArg (fun z=>!z) hc1) ?_
  refine we_false (by kernel_rfl) ?_
  refine we_skip fun a hF=>hK2 _ _ ?_ a hF
  refine ws fun K4 hK4=>ws fun K5 hK5=>wr [(0,0),(1,0),(2,0)]<|gb0 [0,1,2] [(18,.bool (decide ((l0.length:Int) > 3000))),(17,vI (l0.length:Int)),(16,.slice A0 l0.length c0)] ?_
  refine gn hK5 ?_
  by_cases hc2:(l0.length:Int) > 3000
  ·rw [if_pos hc2] at h
   refine wk 18 (decide ((l0.length:Int) > 3000)) true (decide_eq_true hc2) ?_
   refine we_true (by kernel_rfl) ?_
   refine ws fun K6 hK6=>wr [(0,0)]<|gb0 [0] [(6,.bool true)] ?_
   refine gn hK6 ?_
   obtain rfl:=si h
   exact we_ret (pr0 [.tmp 6] [.bool true] ⟨rfl,hS2⟩)
  rw [if_neg hc2] at h
  refine wk 18 (decide ((l0.length:Int) > 3000)) false (decide_eq_false hc2) ?_
  refine we_false (by kernel_rfl) ?_
  refine we_skip fun a hF=>hK4 _ _ ?_ a hF
  refine ws fun K7 hK7=>wr [(0,0),(1,0),(2,0),(3,1),(4,0),(5,0),(6,0),(7,1),(8,1),(9,2),(10,2)] ?_
  rcases hq2:punctualref_Execute.f K l0 l1 l2 with _ | r2
  ·rw [hq2] at h; cases h
  rw [hq2] at h
  simp only [] at h
  refine gb0 [0,1,2] [(22,.slice A2 l2.length c2),(21,.slice A1 l1.length c1),(20,.slice A0 l0.length c0)] ?_
  refine ge_call (d:=some 23) (f:=5) (args:=#[.slice A0 l0.length c0,.slice A1 l1.length c1,.slice A2 l2.length c2]) (by kernel_rfl) (punctualref_Execute_ok K l0 A0 c0 l1 A1 c1 l2 A2 c2 _ (hS2.rd hR0) hL0 (hS2.rd hR1) hL1 (hS2.rd hR2) hL2 _ hq2) ?_
  rintro _ w2 ⟨v1,v2,rfl,hS3⟩
  refine ⟨_,rfl,hS3.below,?_⟩
  have hS4:=hS2.call hS3
  refine gb0 [4,5,6] [(25,.agg #[vI r2.2.Code,vI r2.2.At]),(24,.agg #[v1,v2,vI r2.1.Steps]),(19,.tuple #[.agg #[v1,v2,vI r2.1.Steps],.agg #[vI r2.2.Code,vI r2.2.At]])] ?_
  refine gw (some 7) (.cells #[.slice none 0 0,.slice none 0 0,vI 0] 27) (fun b=>pP b 0) hS4 fun b1 w3 hx1 hS5=>?_
  refine gw (some 8) (.cells #[vI 0,vI 0] 30) (fun b=>pP b 0) hS5 fun b2 w4 hx2 hS6=>?_
  obtain ⟨Z1,cz1,rfl⟩:=hS6.open 2 rfl
  obtain ⟨Z2,cz2,rfl⟩:=hS6.open 3 rfl
  have hS7:=hS6.b 1
  refine gs b1 0 #[.slice none 0 0,.slice none 0 0,vI 0] 27 [(.slice Z1 r2.1.Vars.length cz1),(.slice Z2 r2.1.Puts.length cz2),vI r2.1.Steps] hS7 fun w5 hS8=>?_
  have hS10:=(hS8.nc #[(.slice Z1 r2.1.Vars.length cz1),(.slice Z2 r2.1.Puts.length cz2),vI r2.1.Steps] rfl).b 1
  refine gs b2 0 #[vI 0,vI 0] 30 [vI r2.2.Code,vI r2.2.At] hS10 fun w6 hS11=>?_
  have hS12:=hS11.nc #[vI r2.2.Code,vI r2.2.At] rfl
  refine gn hK7<|ws fun K8 hK8=>wr [(0,0),(1,0),(2,1),(3,0),(4,1),(5,0),(6,1),(7,0),(8,0),(9,0)]<|gb [0,1] [(27,.agg #[vI (-1),vI (-2),vI (-3)]),(26,.slice A0 l0.length c0)] [.loaded ⟨0,0,none⟩ (vI (-1)),.loaded ⟨0,1,none⟩ (vI (-2)),.loaded ⟨0,2,none⟩ (vI (-3))] ⟨hS12.glob hG0 rfl,hS12.glob hG0 rfl,hS12.glob hG0 rfl,trivial⟩ ?_
  rcases hq3:punctualsame_Lend_api_Ins.f l0 (⟨(-1),(-2),(-3)⟩:SIns) with _ | r3
  ·rw [hq3] at h; cases h
  rw [hq3] at h
  simp only [] at h
  obtain rfl:=punctualsame_Lend_api_Ins_full _ _ hq3
  refine ge_call (d:=some 28) (f:=6) (args:=#[.slice A0 l0.length c0,.agg #[vI (-1),vI (-2),vI (-3)]]) (by kernel_rfl) (punctualsame_Lend_api_Ins_ok l0 A0 c0 (⟨(-1),(-2),(-3)⟩:SIns) _ (hS12.rd hR0) hL0 _ hq3) ?_
  rintro _ w7 ⟨Z3,cz3,rfl,hcp1,hS13⟩
  refine ⟨_,rfl,hS13.below,?_⟩
  have hS14:=hS12.call hS13
  refine gb0 [3] [(29,.slice A1 l1.length c1)] ?_
  rcases hq4:punctualsame_Lend_int.f l1 (-9) with _ | r4
  ·rw [hq4] at h; cases h
  rw [hq4] at h
  simp only [] at h
  obtain rfl:=punctualsame_Lend_int_full _ _ hq4
  refine ge_call (d:=some 30) (f:=7) (args:=#[.slice A1 l1.length c1,vI (-9)]) (by kernel_rfl) (punctualsame_Lend_int_ok l1 A1 c1 (-9) _ (hS14.rd hR1) hL1 _ hq4) ?_
  rintro _ w8 ⟨Z4,cz4,rfl,hcp2,hS15⟩
  refine ⟨_,rfl,hS15.below,?_⟩
  have hS16:=hS14.call hS15
  refine gb0 [5] [(31,.slice A2 l2.length c2)] ?_
  rcases hq5:punctualsame_Lend_int.f l2 (-9) with _ | r5
  ·rw [hq5] at h; cases h
  rw [hq5] at h
  simp only [] at h
  obtain rfl:=punctualsame_Lend_int_full _ _ hq5
  refine ge_call (d:=some 32) (f:=7) (args:=#[.slice A2 l2.length c2,vI (-9)]) (by kernel_rfl) (punctualsame_Lend_int_ok l2 A2 c2 (-9) _ (hS16.rd hR2) hL2 _ hq5) ?_
  rintro _ w9 ⟨Z5,cz5,rfl,hcp3,hS17⟩
  refine ⟨_,rfl,hS17.below,?_⟩
  have hS18:=hS16.call hS17
  refine gb0 [7,8,9] [(11,.slice Z5 l2.length cz5),(10,.slice Z4 l1.length cz4),(9,.slice Z3 l0.length cz3)] ?_
  refine gn hK8<|ws fun K9 hK9=>ws fun K10 hK10=>wr [(0,0)]<|gb0 [0] [(33,vI 0)] ?_
  refine gn hK10<|we_block ?_
  have hS25:=((((((hS18.b 6).b 6).b 2).b 3).b 4).b 6).b 6
  rcases hq11:iter (MachRuns.r0 K l0 l1 l2 r2) K 0 with _ | (_ | rr1)
  ·rw [hq11] at h; cases h
  ·rw [hq11] at h
   simp only [] at h
   refine we_iter (A:=MachRuns.A0 w0 l0 A0 c0 l1 A1 c1 l2 A2 c2 r2 b1 b2 Z1 cz1 Z2 cz2 Z3 cz3 Z4 cz4 Z5 cz5) (B:=MachRuns.B0 w0) hq11 (fun a hF=>⟨hS25,hF.weaken ea⟩) (fun s o hf a w hA Q hQ=>MachRuns_r0 K w0 l0 A0 c0 l1 A1 c1 l2 A2 c2 hR0 hL0 hR1 hL1 hR2 hL2 hG0 r1 hc1 hc2 r2 b1 b2 Z1 cz1 Z2 cz2 Z3 cz3 hcp1 Z4 cz4 hcp2 Z5 cz5 hcp3 s o hf a w hA Q hQ) ?_
   rintro _ a w21 _ ⟨rfl,hS62,hF⟩
   replace hS62:St w0 w21 []:=hS62
   refine hK9 [] w21 ?_ a hF
   refine ws fun K23 hK23=>wr [(0,0)]<|gb0 [0] [(6,.bool true)] ?_
   refine gn hK23 ?_
   obtain rfl:=si h
   exact we_ret (pr0 [.tmp 6] [.bool true] ⟨rfl,hS62⟩)
  rw [hq11] at h
  simp only [] at h
  refine we_iter (A:=MachRuns.A0 w0 l0 A0 c0 l1 A1 c1 l2 A2 c2 r2 b1 b2 Z1 cz1 Z2 cz2 Z3 cz3 Z4 cz4 Z5 cz5) (B:=MachRuns.B0 w0) hq11 (fun a hF=>⟨hS25,hF.weaken ea⟩) (fun s o hf a w hA Q hQ=>MachRuns_r0 K w0 l0 A0 c0 l1 A1 c1 l2 A2 c2 hR0 hL0 hR1 hL1 hR2 hL2 hG0 r1 hc1 hc2 r2 b1 b2 Z1 cz1 Z2 cz2 Z3 cz3 hcp1 Z4 cz4 hcp2 Z5 cz5 hcp3 s o hf a w hA Q hQ) ?_
  rintro _ a w1 _ ⟨rfl,hb⟩
  obtain rfl:=si h
  exact hb
 rw [if_neg hc1] at h
 refine wk 15 (!r1) true (congrArg (fun z=>!z) (Bool.eq_false_iff.2 hc1)) ?_
 refine we_true (by kernel_rfl) ?_
 refine ws fun K24 hK24=>wr [(0,0)]<|gb0 [0] [(6,.bool false)] ?_
 refine gn hK24 ?_
 obtain rfl:=si h
 exact we_ret (pr0 [.tmp 6] [.bool false] ⟨rfl,hS2⟩)
end Go.Proofs.YtgpolejhaglddaaDoor.GV
