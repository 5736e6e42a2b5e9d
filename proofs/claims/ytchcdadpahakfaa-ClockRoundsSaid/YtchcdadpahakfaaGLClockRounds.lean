/- Plain words: GvLClockRounds. -/
import Derived.Test.YtchcdadpahakfaaGWClockRounds2
import Derived.Test.YtchcdadpahakfaaGv17
namespace Go.Proofs.Ytchcdadpahakfaa.GV
open Go Go.RowKit
set_option linter.unusedVariables false
set_option linter.unusedSimpArgs false
theorem SFault.eqb_self (x:SFault):SFault.eqb x x=true:=by simp [SFault.eqb]
theorem ps_Lend_int_some (l:List Int) (a:Int) (h:l.length≤5000):∃ r,ps_Lend_int.f l a=some r:=by
  have hw:IntKind.i64.wrap ((l.length:Int)+3)=(l.length:Int)+3:=wrap64_small (by omega) (by omega)
  unfold ps_Lend_int.f
  rw [hw,if_pos (by omega),if_pos (by omega),if_pos (by simp; omega),if_pos (by simp; omega)]
  exact ⟨_,rfl⟩
theorem ps_Still_int_true (l:List Int) (a:Int) (K:Nat) (hl:l.length≤5000) (hK:5010≤K):ps_Still_int.f K (l++[a,a,a]) l a=some true:=by
  have hw:IntKind.i64.wrap ((l.length:Int)+3)=(l.length:Int)+3:=wrap64_small (by omega) (by omega)
  have hr:=iter_first0 (f:=ps_Still_int.r0 (l++[a,a,a]) l a) (fun _=>none) (l.length+3) (t:=()) (fun i hi=>by
    have h':(i:Int)<((l++[a,a,a]:List Int).length:Int):=by simp; omega
    simp only [ps_Still_int.r0,if_pos h']
    by_cases h2:i<l.length
    · have h2':(i:Int)<(l.length:Int):=by omega
      have h3:¬ (i:Int) ≥ (l.length:Int):=by omega
      rw [List.getElem?_append_left h2,List.getElem?_eq_getElem h2]
      simp only [if_pos h2',if_true,if_neg h3,onward]
    · have h2':¬ (i:Int)<(l.length:Int):=by omega
      have h3:(i:Int) ≥ (l.length:Int):=by omega
      rw [List.getElem?_append_right (by omega)]
      have:i-l.length=0 ∨ i-l.length=1 ∨ i-l.length=2:=by omega
      rcases this with e | e | e <;> simp [e,h2',h3,onward]) (by
    have h':¬ ((l.length+3:Nat):Int)<((l++[a,a,a]:List Int).length:Int):=by simp
    simp only [ps_Still_int.r0,if_neg h']) (K:=K) (by omega)
  rw [firstOf_none_of (fun _ _ _=>rfl)] at hr
  have hlen:IntKind.i64.wrap ((l.length:Int)+3)=((l++[a,a,a]:List Int).length:Int):=by rw [hw]; simp
  simp only [ps_Still_int.f,if_pos hlen,hr,leave]
theorem ps_Same_int_self (l:List Int) (K:Nat) (hK:l.length<K):ps_Same_int.f K l l=some true:=by
  have hr:=iter_first0 (f:=ps_Same_int.r0 l l) (fun _=>none) l.length (t:=()) (fun i hi=>by
    have h':(i:Int)<(l.length:Int):=by omega
    simp only [ps_Same_int.r0,if_pos h',List.getElem?_eq_getElem hi,if_true,onward]) (by
    have h':¬ (l.length:Int)<(l.length:Int):=by omega
    simp only [ps_Same_int.r0,if_neg h']) hK
  rw [firstOf_none_of (fun _ _ _=>rfl)] at hr
  simp only [ps_Same_int.f,if_true,hr,leave]
theorem few_true {n:Nat} (h:few.f (n:Int)=true):n≤5000:=by
  simp only [few.f,decide_eq_true_eq] at h; omega
def letterAt (x:ByteArray) (i:Nat):Bool:=match x[i]? with | some b=>decide (97≤b.toNat) && decide (b.toNat≤122) | none=>false
def allL (x:ByteArray) (n:Nat):Bool:=(List.range n).all (letterAt x)
def Good (x:ByteArray):Prop:=1≤x.size∧x.size≤10∧allL x x.size=true
instance (x : ByteArray) : Decidable (Good x) := by unfold Good; infer_instance
theorem middle_sum (s:Int) (h:-4398046511104≤s∧s≤4398046511104):Int.fdiv s (2 ^ 1)=if Int.tmod s 2=0 then IntKind.i64.wrap (Int.tdiv s 2) else if s<0 then IntKind.i64.wrap (Int.tdiv (IntKind.i64.wrap (s-1)) 2) else IntKind.i64.wrap (Int.tdiv s 2):=by
  have e0:(2:Int) ^ 1=2:=by decide
  rw [e0,Int.fdiv_eq_ediv_of_nonneg s (by decide)]
  have t:∀ z:Int,0≤z→Int.tdiv z 2=z / 2:=fun z hz=>Int.tdiv_eq_ediv_of_nonneg hz
  have tn:∀ z:Int,z<0→Int.tdiv z 2=-((-z) / 2):=fun z hz=>by
    have h1:=t (-z) (by omega)
    rw [Int.neg_tdiv] at h1
    omega
  have m:Int.tmod s 2=s-2*Int.tdiv s 2:=by have:=Int.mul_tdiv_add_tmod s 2; omega
  rw [m]
  by_cases hs:0≤s
  · rw [t s hs,if_neg (show ¬ s<0 by omega),wrap64_small (n:=s / 2) (by omega) (by omega)]
    split <;> rfl
  · rw [tn s (by omega),if_pos (show s<0 by omega),wrap64_small (n:=s-1) (by omega) (by omega),tn (s-1) (by omega),wrap64_small (n:=-(-(s-1) / 2)) (by omega) (by omega),wrap64_small (n:=-(-s / 2)) (by omega) (by omega)]
    split <;> omega
theorem sorted_len (l:List Int):(List.mergeSort l (fun x y=>decide (x≤y))).length=l.length:=List.length_mergeSort l
theorem sorted_mem {l:List Int} {x:Int} {i:Nat} (h:(List.mergeSort l (fun x y=>decide (x≤y)))[i]?=some x):x ∈ l:=by
  have:=List.mem_of_getElem? h
  exact (List.mergeSort_perm l _).mem_iff.1 this
theorem heard_iter (l:List Int) (K:Nat) (hK:l.length<K):(iter (net_Middle.r1 l) K 0=some (.inl ())∧∀ x ∈ l,-1099511627776≤x∧x≤1099511627776) ∨ (iter (net_Middle.r1 l) K 0=some (.inr (0,3))∧¬ ∀ x ∈ l,-1099511627776≤x∧x≤1099511627776):=by
  have hit:=iter_first0 (ρ:=Int×Int) (τ:=Unit) (f:=net_Middle.r1 l) (fun i=>match l[i]? with | some x=>if x< -1099511627776 ∨ x > 1099511627776 then some (0,3) else none | none=>none) l.length (t:=()) (fun i hi=>by
    have hi':(i:Int)<(l.length:Int):=by omega
    have hx:l[i]?=some l[i]:=List.getElem?_eq_getElem hi
    simp only [net_Middle.r1,if_pos hi',hx]
    by_cases h1:l[i]< -1099511627776
    · rw [if_pos h1,if_pos (.inl h1)]; rfl
    · rw [if_neg h1]
      by_cases h2:l[i] > 1099511627776
      · rw [if_pos h2,if_pos (.inr h2)]; rfl
      · rw [if_neg h2,if_neg (by omega)]; rfl) (by simp [net_Middle.r1]) (K:=K) hK
  rw [hit]
  cases hf:firstOf (fun i=>match l[i]? with | some x=>if x< -1099511627776 ∨ x > 1099511627776 then some ((0,3):Int×Int) else none | none=>none) l.length 0 with
  | some r =>
    right
    obtain ⟨i,_,hi,hg,_⟩:=firstOf_some hf
    rw [List.getElem?_eq_getElem hi] at hg
    simp only at hg
    by_cases h:l[i]< -1099511627776 ∨ l[i] > 1099511627776
    · rw [if_pos h] at hg
      cases hg
      exact ⟨rfl,fun hall=>by have:=hall _ (List.getElem_mem hi); omega⟩
    · rw [if_neg h] at hg; cases hg
  | none =>
    left
    refine ⟨rfl,fun x hx=>?_⟩
    obtain ⟨i,hi,rfl⟩:=List.getElem_of_mem hx
    have:=firstOf_none hf i (Nat.zero_le _) hi
    simp only [List.getElem?_eq_getElem hi] at this
    by_cases h:l[i]< -1099511627776 ∨ l[i] > 1099511627776
    · rw [if_pos h] at this; cases this
    · omega
theorem Middle_is (l:List Int) (x:Int) (K:Nat) (hK:20≤K):(∃ r:Int,net_Middle.f K l x=some (0,r)∧r ≠ 0∧¬ (1≤l.length∧l.length≤10∧(∀ y ∈ l,-1099511627776≤y∧y≤1099511627776)∧0≤x∧3*x<(l.length:Int))) ∨
    ((1≤l.length∧l.length≤10∧(∀ y ∈ l,-1099511627776≤y∧y≤1099511627776)∧0≤x∧3*x<(l.length:Int))∧∃ a b:Int,(List.mergeSort l (fun x y=>decide (x≤y)))[x.toNat]?=some a∧(List.mergeSort l (fun x y=>decide (x≤y)))[l.length-1-x.toNat]?=some b∧(-1099511627776≤a∧a≤1099511627776)∧(-1099511627776≤b∧b≤1099511627776)∧net_Middle.f K l x=some (Int.fdiv (a+b) (2 ^ 1),0)):=by
  unfold net_Middle.f net_Middle.p0
  by_cases h1:(l.length:Int)<1
  · rw [if_pos h1]; exact .inl ⟨_,rfl,by decide,by omega⟩
  rw [if_neg h1]
  by_cases h2:(l.length:Int) > 10
  · rw [if_pos h2]; exact .inl ⟨_,rfl,by decide,by omega⟩
  rw [if_neg h2]
  simp only
  rcases heard_iter l K (by omega) with ⟨hr,hall⟩ | ⟨hr,hall⟩
  · rw [hr]
    simp only
    by_cases h3:x<0
    · rw [if_pos h3]; exact .inl ⟨_,rfl,by decide,by omega⟩
    rw [if_neg h3]
    by_cases h4:x > 10
    · rw [if_pos h4]; exact .inl ⟨_,rfl,by decide,by omega⟩
    rw [if_neg h4,wrap64_small (n:=3*x) (by omega) (by omega),wrap64_small (n:=3*x+1) (by omega) (by omega)]
    by_cases h5:(l.length:Int)<3*x+1
    · rw [if_pos h5]; exact .inl ⟨_,rfl,by decide,by omega⟩
    rw [if_neg h5,if_pos (show 1≤l.length by omega),if_pos (show l.length≤1000 by omega),if_pos (show 0≤x by omega),sorted_len]
    right
    refine ⟨⟨by omega,by omega,hall,by omega,by omega⟩,?_⟩
    have hs:=sorted_len l
    generalize hS:List.mergeSort l (fun x y=>decide (x≤y))=S at hs
    have ha:S[x.toNat]?=some (S[x.toNat]'(by omega)):=List.getElem?_eq_getElem _
    have hb:S[l.length-1-x.toNat]?=some (S[l.length-1-x.toNat]'(by omega)):=List.getElem?_eq_getElem _
    have ma:S[x.toNat]'(by omega) ∈ l:=sorted_mem (i:=x.toNat) (by rw [hS]; exact ha)
    have mb:S[l.length-1-x.toNat]'(by omega) ∈ l:=sorted_mem (i:=l.length-1-x.toNat) (by rw [hS]; exact hb)
    generalize S[x.toNat]'(by omega)=a at ha ma
    generalize S[l.length-1-x.toNat]'(by omega)=b at hb mb
    have ra:=hall a ma
    have rb:=hall b mb
    refine ⟨a,b,ha,hb,ra,rb,?_⟩
    rw [ha]
    simp only
    have e1:IntKind.i64.wrap (IntKind.i64.wrap ((l.length:Int)-1)-x)=(l.length:Int)-1-x:=by
      rw [wrap64_small (n:=(l.length:Int)-1) (by omega) (by omega),wrap64_small (by omega) (by omega)]
    have e2:((l.length:Int)-1-x).toNat=l.length-1-x.toNat:=by omega
    rw [e1,if_pos (by omega),e2,hb]
    simp only
    rw [wrap64_small (n:=a+b) (by omega) (by omega)]
  · rw [hr]; exact .inl ⟨_,rfl,by decide,fun h=>hall h.2.2.1⟩

theorem MiddleOf_eq (l:List Int) (x:Int) (K:Nat) (hK:20≤K):pr_MiddleOf.f K l x=net_Middle.f K l x:=by
  have hM:=Middle_is l x K hK
  unfold net_Middle.f net_Middle.p0 at hM ⊢
  unfold pr_MiddleOf.f pr_MiddleOf.p0 pr_MiddleOf.p2
  by_cases h1:(l.length:Int)<1
  · rw [if_pos h1,if_pos (by omega)]
  rw [if_neg h1] at hM ⊢
  rw [if_neg (show ¬ (l.length:Int)=0 by omega)]
  by_cases h2:(l.length:Int) > 10
  · simp only [if_pos h2]
  simp only [if_neg h2] at hM ⊢
  have hr1:pr_MiddleOf.r1 l=net_Middle.r1 l:=rfl
  rw [hr1]
  rcases heard_iter l K (by omega) with ⟨hr,hall⟩ | ⟨hr,hall⟩
  · rw [hr] at hM ⊢
    simp only at hM ⊢
    by_cases h3:x<0
    · simp only [if_pos h3]
    simp only [if_neg h3] at hM ⊢
    by_cases h4:x > 10
    · simp only [if_pos h4]
    simp only [if_neg h4] at hM ⊢
    have w3:IntKind.i64.wrap (3*x)=3*x:=wrap64_small (by omega) (by omega)
    have w4:IntKind.i64.wrap (3*x+1)=3*x+1:=wrap64_small (by omega) (by omega)
    rw [w3,w4] at hM ⊢
    by_cases h5:(l.length:Int)<3*x+1
    · rw [if_pos h5,if_pos (by omega)]
    rcases hM with ⟨_,_,_,hno⟩ | ⟨_,a,b,ha,hb,ra,rb,hM⟩
    · exact absurd ⟨by omega,by omega,hall,by omega,by omega⟩ hno
    rw [hM,if_neg (show ¬ (l.length:Int)≤3*x by omega)]
    simp only [sortInts.f]
    rw [if_pos (by omega)]
    have hs:=sorted_len l
    generalize List.mergeSort l (fun x y=>decide (x≤y))=S at hs ha hb
    have w5:IntKind.i64.wrap ((S.length:Int)-x)=(S.length:Int)-x:=wrap64_small (by omega) (by omega)
    have w6:((S.length:Int)-x).toNat=S.length-x.toNat:=by omega
    have hlen:((S.take (S.length-x.toNat)).drop x.toNat).length=S.length-2*x.toNat:=by
      rw [List.length_drop,List.length_take]; omega
    have w7:IntKind.i64.wrap (((S.length-2*x.toNat:Nat):Int)-1)=((S.length-2*x.toNat:Nat):Int)-1:=wrap64_small (by omega) (by omega)
    have g0:((S.take (S.length-x.toNat)).drop x.toNat)[0]?=some a:=by
      rw [List.getElem?_drop,Nat.add_zero,List.getElem?_take_of_lt (by omega)]; exact ha
    have g1:((S.take (S.length-x.toNat)).drop x.toNat)[(((S.length-2*x.toNat:Nat):Int)-1).toNat]?=some b:=by
      rw [List.getElem?_drop,List.getElem?_take_of_lt (by omega),← hb]
      congr 1
      omega
    have w8:IntKind.i64.wrap (a+b)=a+b:=wrap64_small (by omega) (by omega)
    rw [w5,w6,hlen,w7,g0,g1,if_pos (by omega),if_pos (by omega),if_pos (by omega),if_pos (by omega)]
    simp only [w8]
    rw [if_pos (by omega)]
    have:=middle_sum (a+b) ⟨by omega,by omega⟩
    rw [this]
    repeat' split
    all_goals rfl
  · rw [hr]
theorem RoundOf_eq (l:List (List Int)) (x:Int) (d:List Int) (K:Nat) (hK:20≤K):pr_RoundOf.f K l x d=net_Round.f K l x d:=by
  unfold pr_RoundOf.f net_Round.f
  have hp:pr_RoundOf.p0 l d=net_Round.p0 l d:=by
    unfold pr_RoundOf.p0 net_Round.p0
    by_cases h1:(l.length:Int)<1
    · rw [if_pos h1,if_pos (by omega)]; rfl
    · rw [if_neg h1,if_neg (by omega)]; rfl
  have hr:pr_RoundOf.r1 K l x d=net_Round.r1 K l x d:=by
    funext s
    obtain ⟨m,z⟩:=s
    simp only [pr_RoundOf.r1,net_Round.r1,MiddleOf_eq _ _ K hK,pr_F.f]
    rfl
  rw [hp,hr]
  try rfl
theorem Round_len (l:List (List Int)) (x:Int) (d:List Int) (K:Nat) (hK:20≤K):∃ r,net_Round.f K l x d=some r∧r.1.length≤10:=by
  unfold net_Round.f net_Round.p0
  by_cases h1:(l.length:Int)<1
  · rw [if_pos h1]; exact ⟨_,rfl,by simp⟩
  rw [if_neg h1]
  by_cases h2:(l.length:Int) > 10
  · rw [if_pos h2]; exact ⟨_,rfl,by simp⟩
  rw [if_neg h2]
  by_cases h3:(d.length:Int)=(l.length:Int)
  · rw [if_pos h3]
    simp only
    obtain ⟨r,hr,hR⟩:=iter_total (f:=net_Round.r1 K l x d) (fun s=>0≤s.2∧s.2≤(l.length:Int)∧(s.1.length:Int)=s.2) (fun s=>l.length-s.2.toNat)
      (fun r=>(∃ m:List Int,r=.inl m∧m.length≤10) ∨ ∃ f:SFault,r=.inr ([],f)) (fun s hs=>by
        obtain ⟨m,z⟩:=s
        obtain ⟨g0,g1,g2⟩:=hs
        simp only at g0 g1 g2
        simp only [net_Round.r1]
        by_cases hz:z<(l.length:Int)
        · rw [if_pos hz,if_pos g0]
          have hx:l[z.toNat]?=some (l[z.toNat]'(by omega)):=List.getElem?_eq_getElem _
          have hd:d[z.toNat]?=some (d[z.toNat]'(by omega)):=List.getElem?_eq_getElem _
          generalize l[z.toNat]'(by omega)=e at hx
          generalize d[z.toNat]'(by omega)=v at hd
          rw [hx]
          simp only [net_Round.p2,hd]
          obtain ⟨q,hq⟩:∃ q:Bool,(if (e.length:Int)=(l.length:Int) then (if v< -1099511627776 then (some (.inl true):Option (Bool ⊕ (List Int×SFault))) else some (.inl (decide (v > 1099511627776)))) else some (.inl true))=some (.inl q):=by
            repeat' split
            all_goals exact ⟨_,rfl⟩
          rw [hq]
          simp only
          cases q with
          | true=>rw [if_pos rfl]; exact .inr ⟨_,rfl,.inr ⟨_,rfl⟩⟩
          | false =>
            rw [if_neg (by simp)]
            rcases Middle_is e x K hK with ⟨r,hM,hne,_⟩ | ⟨_,a,b,_,_,_,_,hM⟩
            · rw [hM]
              simp only
              rw [if_neg hne]
              exact .inr ⟨_,rfl,.inr ⟨_,rfl⟩⟩
            · rw [hM]
              simp only [if_true]
              rw [if_pos (by omega),wrap64_small (n:=z+1) (by omega) (by omega)]
              exact .inl ⟨_,rfl,⟨by simp only; omega,by simp only; omega,by simp only [List.length_append,List.length_cons,List.length_nil]; omega⟩,by simp only; omega⟩
        · rw [if_neg hz]
          exact .inr ⟨_,rfl,.inl ⟨_,rfl,by omega⟩⟩) K ([],0) ⟨by simp,by simp,by simp⟩ (by simp only; omega)
    rw [hr]
    rcases hR with ⟨m,rfl,hm⟩ | ⟨f,rfl⟩
    · exact ⟨_,rfl,hm⟩
    · exact ⟨_,rfl,by simp⟩
  · rw [if_neg h3]; exact ⟨_,rfl,by simp⟩
theorem Copy_eq (l:List (List Int)) (hl:∀ y ∈ l,y.length≤17592186044416) (hn:l.length≤5000) (K:Nat) (hK:5010≤K):ps_Copy.f K l=some l:=by
  unfold ps_Copy.f
  obtain ⟨r,hr,hR⟩:=iter_total (f:=ps_Copy.r0 l) (fun s=>0≤s.2∧s.2≤(l.length:Int)∧s.1=l.take s.2.toNat) (fun s=>l.length-s.2.toNat) (fun r=>r=.inl l) (fun s hs=>by
    obtain ⟨m,z⟩:=s
    obtain ⟨g0,g1,g2⟩:=hs
    simp only at g0 g1 g2
    simp only [ps_Copy.r0]
    by_cases hz:z<(l.length:Int)
    · left
      have hzn:z.toNat<l.length:=by omega
      have hx:l[z.toNat]?=some l[z.toNat]:=List.getElem?_eq_getElem hzn
      have hy:=hl _ (List.getElem_mem hzn)
      have hml:m.length≤l.length:=by rw [g2,List.length_take]; omega
      refine ⟨(l.take (z+1).toNat,z+1),?_,⟨by simp only; omega,by simp only; omega,rfl⟩,by simp only; omega⟩
      rw [if_pos hz,if_pos g0,hx]
      simp only
      rw [if_pos (by omega),if_pos (by omega),wrap64_small (n:=z+1) (by omega) (by omega),g2,show (z+1).toNat=z.toNat+1 by omega,List.take_succ_eq_append_getElem hzn]
    · right
      refine ⟨_,by rw [if_neg hz],?_⟩
      rw [g2,show z.toNat=l.length by omega,List.take_length]) K ([],0) ⟨by simp,by simp,by simp⟩ (by simp only; omega)
  rw [hr,hR]
theorem Tables_self (l:List (List Int)) (hl:∀ y ∈ l,y.length≤17592186044416) (hn:l.length≤5000) (K:Nat) (hK:17592186044417≤K):ps_Tables.f K l l=some true:=by
  unfold ps_Tables.f
  rw [if_pos rfl]
  obtain ⟨r,hr,hR⟩:=iter_total (f:=ps_Tables.r0 K l l) (fun z=>0≤z∧z≤(l.length:Int)) (fun z=>l.length-z.toNat) (fun r=>r=.inl ()) (fun z hs=>by
    obtain ⟨g0,g1⟩:=hs
    simp only [ps_Tables.r0]
    by_cases hz:z<(l.length:Int)
    · left
      have hzn:z.toNat<l.length:=by omega
      have hx:l[z.toNat]?=some l[z.toNat]:=List.getElem?_eq_getElem hzn
      have hy:=hl _ (List.getElem_mem hzn)
      refine ⟨z+1,?_,⟨by omega,by omega⟩,by omega⟩
      rw [if_pos hz,if_pos g0,hx]
      simp only [ps_Same_int_self l[z.toNat] K (by omega),if_true]
      rw [wrap64_small (n:=z+1) (by omega) (by omega)]
    · right
      exact ⟨_,by rw [if_neg hz],rfl⟩) K 0 ⟨by simp,by simp⟩ (by omega)
  rw [hr,hR]
theorem ClockRounds_law (l0:List (List Int)) (x1:Int) (l2:List Int) (ok0:∀ l ∈ l0,∀ y ∈ l,Ok.ok y) (len0:∀ l ∈ l0,l.length*8≤140737488351232) (ok1:In64 x1) (ok2:∀ y ∈ l2,Ok.ok y):∃ K,ClockRounds.f K l0 x1 l2=some true:=by
  refine ⟨18446744073709551616,?_⟩
  have ha:middle.f 18446744073709551616=some true:=by
    unfold middle.f
    rcases Middle_is [10,12,11,1000] 1 18446744073709551616 (by decide) with ⟨r,_,_,hno⟩ | ⟨_,a,b,h1,h2,_,_,h3⟩
    · exact absurd ⟨by decide,by decide,by decide,by decide,by decide⟩ hno
    · have hm:List.mergeSort [10,12,11,1000] (fun x y:Int=>decide (x≤y))=[10,11,12,1000]:=by simp [List.mergeSort,List.MergeSort.Internal.splitInTwo,List.splitAt,List.splitAt.go]
      rw [hm] at h1 h2
      simp at h1 h2
      subst h1 h2
      rw [h3]
      rfl
  have hlen:∀ y ∈ l0,y.length≤17592186044416:=fun y hy=>by have:=len0 y hy; omega
  unfold ClockRounds.f ClockRounds.p0
  simp only [ha,if_true]
  by_cases f0:few.f (l0.length:Int)=true
  · have g0:=few_true f0
    rw [if_pos f0]
    by_cases f2:few.f (l2.length:Int)=true
    · have g2:=few_true f2
      rw [if_pos f2]
      obtain ⟨r0,e0⟩:=ps_Lend_int_some l2 (-9) g2
      obtain ⟨r,hr,hrl⟩:=Round_len l0 x1 l2 18446744073709551616 (by decide)
      have hst:=ps_Still_int_true l2 (-9) 18446744073709551616 g2 (by decide)
      have hT:=Tables_self l0 hlen g0 18446744073709551616 (by decide)
      simp only [Copy_eq l0 hlen g0 18446744073709551616 (by decide),e0,RoundOf_eq l0 x1 l2 18446744073709551616 (by decide),hr,ClockRounds.p1,SFault.eqb_self,if_true,ps_Same_int_self r.1 18446744073709551616 (by omega),hT,hst]
      obtain ⟨q,hq,hQ⟩:=iter_total (f:=ClockRounds.r2 18446744073709551616 l0 x1 l0) (fun z=>0≤z∧z≤(l0.length:Int)) (fun z=>l0.length-z.toNat) (fun r=>r=.inl ()) (fun z hs=>by
        obtain ⟨h0,h1⟩:=hs
        simp only [ClockRounds.r2]
        by_cases hz:z<(l0.length:Int)
        · left
          have hx:l0[z.toNat]?=some (l0[z.toNat]'(by omega)):=List.getElem?_eq_getElem _
          generalize l0[z.toNat]'(by omega)=e at hx
          obtain ⟨m,hm⟩:∃ m,net_Middle.f 18446744073709551616 e x1=some m:=by
            rcases Middle_is e x1 18446744073709551616 (by decide) with ⟨r,hM,_⟩ | ⟨_,a,b,_,_,_,_,hM⟩
            · exact ⟨_,hM⟩
            · exact ⟨_,hM⟩
          refine ⟨z+1,?_,⟨by omega,by omega⟩,by omega⟩
          rw [if_pos hz,if_pos h0,hx]
          simp only [MiddleOf_eq e x1 18446744073709551616 (by decide),hm,if_true,hT]
          rw [wrap64_small (n:=z+1) (by omega) (by omega)]
        · right
          exact ⟨_,by rw [if_neg hz],rfl⟩) 18446744073709551616 0 ⟨by simp,by simp⟩ (by omega)
      rw [hq,hQ]
    · rw [if_neg f2]
  · rw [if_neg f0]

end Go.Proofs.Ytchcdadpahakfaa.GV
