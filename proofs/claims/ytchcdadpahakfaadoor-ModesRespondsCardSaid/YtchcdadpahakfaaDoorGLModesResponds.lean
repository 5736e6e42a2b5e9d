/- Plain words: GvLModesResponds. -/
import Derived.Test.YtchcdadpahakfaaDoorGWModesResponds4
import Derived.Test.YtchcdadpahakfaaDoorGv17
namespace Go.Proofs.YtchcdadpahakfaaDoor.GV
open Go Go.RowKit
set_option linter.unusedVariables false
set_option linter.unusedSimpArgs false
theorem SCrit.eqb_self (x:SCrit):SCrit.eqb x x=true:=by simp [SCrit.eqb]
theorem SFault.eqb_self (x:SFault):SFault.eqb x x=true:=by simp [SFault.eqb]
theorem SCome.eqb_self (x:SCome):SCome.eqb x x=true:=by simp [SCome.eqb]
theorem ps_Lend_api_Crit_some (l:List SCrit) (a:SCrit) (h:l.length≤5000):∃ r,ps_Lend_api_Crit.f l a=some r:=by
  have hw:IntKind.i64.wrap ((l.length:Int)+3)=(l.length:Int)+3:=wrap64_small (by omega) (by omega)
  unfold ps_Lend_api_Crit.f
  rw [hw,if_pos (by omega),if_pos (by omega),if_pos (by simp; omega),if_pos (by simp; omega)]
  exact ⟨_,rfl⟩
theorem ps_Still_api_Crit_true (l:List SCrit) (a:SCrit) (K:Nat) (hl:l.length≤5000) (hK:5010≤K):ps_Still_api_Crit.f K (l++[a,a,a]) l a=some true:=by
  have hw:IntKind.i64.wrap ((l.length:Int)+3)=(l.length:Int)+3:=wrap64_small (by omega) (by omega)
  have hr:=iter_first0 (f:=ps_Still_api_Crit.r0 (l++[a,a,a]) l a) (fun _=>none) (l.length+3) (t:=()) (fun i hi=>by
    have h':(i:Int)<((l++[a,a,a]:List SCrit).length:Int):=by simp; omega
    simp only [ps_Still_api_Crit.r0,if_pos h']
    by_cases h2:i<l.length
    · have h2':(i:Int)<(l.length:Int):=by omega
      have h3:¬ (i:Int) ≥ (l.length:Int):=by omega
      rw [List.getElem?_append_left h2,List.getElem?_eq_getElem h2]
      simp only [if_pos h2',SCrit.eqb_self,if_true,if_neg h3,onward]
    · have h2':¬ (i:Int)<(l.length:Int):=by omega
      have h3:(i:Int) ≥ (l.length:Int):=by omega
      rw [List.getElem?_append_right (by omega)]
      have:i-l.length=0 ∨ i-l.length=1 ∨ i-l.length=2:=by omega
      rcases this with e | e | e <;> simp [e,h2',h3,onward,SCrit.eqb_self]) (by
    have h':¬ ((l.length+3:Nat):Int)<((l++[a,a,a]:List SCrit).length:Int):=by simp
    simp only [ps_Still_api_Crit.r0,if_neg h']) (K:=K) (by omega)
  rw [firstOf_none_of (fun _ _ _=>rfl)] at hr
  have hlen:IntKind.i64.wrap ((l.length:Int)+3)=((l++[a,a,a]:List SCrit).length:Int):=by rw [hw]; simp
  simp only [ps_Still_api_Crit.f,if_pos hlen,hr,leave]
theorem ps_Same_int_self (l:List Int) (K:Nat) (hK:l.length<K):ps_Same_int.f K l l=some true:=by
  have hr:=iter_first0 (f:=ps_Same_int.r0 l l) (fun _=>none) l.length (t:=()) (fun i hi=>by
    have h':(i:Int)<(l.length:Int):=by omega
    simp only [ps_Same_int.r0,if_pos h',List.getElem?_eq_getElem hi,if_true,onward]) (by
    have h':¬ (l.length:Int)<(l.length:Int):=by omega
    simp only [ps_Same_int.r0,if_neg h']) hK
  rw [firstOf_none_of (fun _ _ _=>rfl)] at hr
  simp only [ps_Same_int.f,if_true,hr,leave]
theorem few_true {n:Nat} (h:few.f (n:Int)=true):n≤5000:=by
  simp only [few.f,decide_eq_true_eq] at h; omega
def letterAt (x:ByteArray) (i:Nat):Bool:=match x[i]? with | some b=>decide (97≤b.toNat) && decide (b.toNat≤122) | none=>false
def allL (x:ByteArray) (n:Nat):Bool:=(List.range n).all (letterAt x)
def Good (x:ByteArray):Prop:=1≤x.size∧x.size≤10∧allL x x.size=true
instance (x : ByteArray) : Decidable (Good x) := by unfold Good; infer_instance
def ceilD (a b:Int):Int:=(a+b-1) / b
theorem ceilD_mono {a a' b:Int} (hb:1≤b) (h:a≤a'):ceilD a b≤ceilD a' b:=Int.ediv_le_ediv (by omega) (by omega)
theorem ceilD_nonneg {a b:Int} (hb:1≤b) (h:0≤a):0≤ceilD a b:=Int.ediv_nonneg (by omega) (by omega)
theorem ceilD_le {a b:Int} (hb:1≤b) (h:0≤a):ceilD a b≤a:=by
  unfold ceilD
  rw [← Int.lt_add_one_iff]
  apply Int.ediv_lt_of_lt_mul (by omega)
  have:a*1≤a*b:=Int.mul_le_mul_of_nonneg_left hb h
  rw [Int.add_mul]
  omega
theorem up_eq {a b:Int} (ha:0≤a∧a≤100000) (hb:1≤b∧b≤100000):pr_up.f a b=some (ceilD a b):=by
  unfold pr_up.f
  rw [if_neg (by omega),Int.tdiv_eq_ediv_of_nonneg (by omega)]
  have h0:0≤a / b:=Int.ediv_nonneg ha.1 (by omega)
  have h1:a / b≤a:=Int.ediv_le_self b ha.1
  have h2:a / b*b≤a:=Int.ediv_mul_le a (by omega)
  have h2':0≤a / b*b:=Int.mul_nonneg h0 (by omega)
  rw [wrap64_small (n:=a / b) (by omega) (by omega),wrap64_small (n:=a / b*b) (by omega) (by omega),wrap64_small (n:=a / b+1) (by omega) (by omega)]
  have hm:=Int.emod_add_mul_ediv a b
  have hm1:0≤a % b:=Int.emod_nonneg a (by omega)
  have hm2:a % b<b:=Int.emod_lt_of_pos a (by omega)
  rw [Int.mul_comm] at hm
  unfold ceilD
  by_cases h:a / b*b<a
  · rw [if_pos h]
    congr 1
    symm
    have e:a+b-1=(a % b-1)+b*(a / b+1):=by rw [Int.mul_add,Int.mul_comm b]; omega
    rw [e,Int.add_mul_ediv_left _ _ (by omega),Int.ediv_eq_zero_of_lt (by omega) (by omega)]
    omega
  · rw [if_neg h]
    congr 1
    symm
    have e:a+b-1=(b-1)+b*(a / b):=by rw [Int.mul_comm b]; omega
    rw [e,Int.add_mul_ediv_left _ _ (by omega),Int.ediv_eq_zero_of_lt (by omega) (by omega)]
    omega
def settled (f:Int→Int) (most:Int):Int:=match firstOf (fun n:Nat=>if f n≤n then some (n:Int) else none) (most.toNat+1) 1 with
  | some n=>n
  | none=>0
theorem settled_some {f:Int→Int} {most:Int} {j:Nat} (h:firstOf (fun n:Nat=>if f n≤n then some (n:Int) else none) (most.toNat+1) 1=some (j:Int)):settled f most=j:=by unfold settled; rw [h]
theorem settled_none {f:Int→Int} {most:Int} (h:firstOf (fun n:Nat=>if f n≤n then some (n:Int) else none) (most.toNat+1) 1=none):settled f most=0:=by unfold settled; rw [h]
theorem settled_pos {f:Int→Int} {most:Int} (h:settled f most ≠ 0):1≤settled f most∧settled f most≤most∧f (settled f most)≤settled f most∧∀ n:Int,1≤n→n<settled f most→n<f n:=by
  cases hf:firstOf (fun n:Nat=>if f n≤n then some (n:Int) else none) (most.toNat+1) 1 with
  | none=>exact absurd (settled_none hf) h
  | some r =>
    obtain ⟨j,h1,h2,h3,h4⟩:=firstOf_some hf
    split at h3
    · cases h3
      rw [settled_some hf]
      refine ⟨by omega,by omega,by assumption,fun n hn1 hn2=>?_⟩
      have:=h4 n.toNat (by omega) (by omega)
      have e:((n.toNat:Nat):Int)=n:=Int.toNat_of_nonneg (by omega)
      simp only [e] at this
      split at this
      · cases this
      · omega
    · cases h3
theorem settled_zero {f:Int→Int} {most:Int} (h:settled f most=0):∀ n:Int,1≤n→n≤most→n<f n:=by
  cases hf:firstOf (fun n:Nat=>if f n≤n then some (n:Int) else none) (most.toNat+1) 1 with
  | some r =>
    obtain ⟨j,h1,h2,h3,h4⟩:=firstOf_some hf
    split at h3
    · cases h3; rw [settled_some hf] at h; omega
    · cases h3
  | none =>
    intro n h1 h2
    have:=firstOf_none hf n.toNat (by omega) (by omega)
    have e:((n.toNat:Nat):Int)=n:=Int.toNat_of_nonneg (by omega)
    simp only [e] at this
    split at this
    · cases this
    · omega
theorem settled_eq {f:Int→Int} {most w:Int} (h1:1≤w) (h2:w≤most) (h3:f w≤w) (h4:∀ n:Int,1≤n→n<w→n<f n):settled f most=w:=by
  by_cases h:settled f most=0
  · have:=settled_zero h w h1 h2; omega
  · obtain ⟨g1,g2,g3,g4⟩:=settled_pos h
    rcases Int.lt_trichotomy (settled f most) w with hl | hl | hl
    · have:=h4 _ g1 hl; omega
    · exact hl
    · have:=g4 _ h1 hl; omega
theorem settled_eq_zero {f:Int→Int} {most:Int} (h:∀ n:Int,1≤n→n≤most→n<f n):settled f most=0:=by
  apply Decidable.byContradiction
  intro hne
  obtain ⟨g1,g2,g3,g4⟩:=settled_pos hne
  have:=h _ g1 g2
  omega
def settleStep (d:Int→Option Int) (most:Int) (z:Int):Option (Int ⊕ (Unit ⊕ Int)) :=
  if z≤most then
    match d z with
    | none=>none
    | some r=>if r≤z then some (.inr (.inr z)) else some (.inl r)
  else some (.inr (.inl ()))
theorem settle_iter {d:Int→Option Int} {f:Int→Int} {most first:Int} (h1:1≤first) (hd:∀ z,first≤z→z≤most→d z=some (f z)) (hge:∀ z,1≤z→first≤f z) (hm:∀ z z',1≤z→z≤z'→f z≤f z') {K:Nat} (hK:most+2<K) (hK0:1≤K) :
    iter (settleStep d most) K first=some (if settled f most=0 then .inl () else .inr (settled f most)):=by
  obtain ⟨r,hr,hR⟩:=iter_total (f:=settleStep d most) (fun w=>first≤w∧∀ n:Int,1≤n→n<w→n<f n) (fun w=>(most+1-w).toNat)
    (fun r=>r=if settled f most=0 then .inl () else .inr (settled f most)) (fun w hI=>by
      obtain ⟨h2,h3⟩:=hI
      by_cases hw:w≤most
      · simp only [settleStep,if_pos hw,hd w h2 hw]
        by_cases hle:f w≤w
        · right
          have hs:=settled_eq (f:=f) (most:=most) (by omega) hw hle h3
          refine ⟨_,by rw [if_pos hle],?_⟩
          rw [hs,if_neg (by omega)]
        · left
          refine ⟨_,by rw [if_neg hle],⟨by omega,fun n hn1 hn2=>?_⟩,by omega⟩
          by_cases hnw:n<w
          · exact h3 n hn1 hnw
          · have:=hm w n (by omega) (by omega)
            omega
      · right
        refine ⟨.inl (),by simp only [settleStep,if_neg hw],?_⟩
        rw [settled_eq_zero (fun n h1 h2=>h3 n h1 (by omega)),if_pos rfl]) K first ⟨Int.le_refl _,fun n hn1 hn2=>by have:=hge n hn1; omega⟩ (by omega)
  rw [hr,hR]
def leastStep (d:Int→Option Int) (most:Int) (z:Int):Option (Int ⊕ (Unit ⊕ Int)) :=
  if z≤most then
    match d z with
    | none=>none
    | some r=>if r=z then some (.inr (.inr z)) else some (.inl (IntKind.i64.wrap (z+1)))
  else some (.inr (.inl ()))
theorem least_iter {d:Int→Option Int} {f:Int→Int} {most:Int} (hmost:most≤1000000000) (hd:∀ z,1≤z→z≤most→d z=some (f z)) (hge:∀ z,1≤z→1≤f z) (hm:∀ z z',1≤z→z≤z'→f z≤f z') {K:Nat} (hK:most+2<K) (hK0:1≤K) :
    iter (leastStep d most) K 1=some (if settled f most=0 then .inl () else .inr (settled f most)):=by
  obtain ⟨r,hr,hR⟩:=iter_total (f:=leastStep d most) (fun w=>1≤w∧(w≤1 ∨ w≤most+1)∧∀ n:Int,1≤n→n<w→n<f n) (fun w=>(most+1-w).toNat)
    (fun r=>r=if settled f most=0 then .inl () else .inr (settled f most)) (fun w hI=>by
      obtain ⟨h2,hwm,h3⟩:=hI
      by_cases hw:w≤most
      · simp only [leastStep,if_pos hw,hd w h2 hw]
        have hge:w≤f w:=by
          by_cases hw1:w=1
          · subst hw1; exact hge 1 (by omega)
          · have:=h3 (w-1) (by omega) (by omega)
            have:=hm (w-1) w (by omega) (by omega)
            omega
        by_cases hle:f w=w
        · right
          have hs:=settled_eq (f:=f) (most:=most) (by omega) hw (by omega) h3
          refine ⟨_,by rw [if_pos hle],?_⟩
          rw [hs,if_neg (by omega)]
        · left
          refine ⟨_,by rw [if_neg hle,wrap64_small (by omega) (by omega)],⟨by omega,by omega,fun n hn1 hn2=>?_⟩,by omega⟩
          by_cases hnw:n<w
          · exact h3 n hn1 hnw
          · have:n=w:=by omega
            subst this
            omega
      · right
        refine ⟨.inl (),by simp only [leastStep,if_neg hw],?_⟩
        rw [settled_eq_zero (fun n h1 h2=>h3 n h1 (by omega)),if_pos rfl]) K 1 ⟨Int.le_refl _,.inl (Int.le_refl _),fun n hn1 hn2=>by omega⟩ (by omega)
  rw [hr,hR]

structure Okc (t : SCrit) : Prop where
  C:1≤t.C∧t.C≤t.H
  H:t.H≤t.D
  D:t.D≤t.T
  T:t.T≤10000
  low:t.High=false→t.H=t.C
structure CritOk (l : List SCrit) : Prop where
  len:1≤l.length∧l.length≤8
  each:∀ t ∈ l,Okc t
  other:∀ (i j:Nat) (a b:SCrit),i<j→l[i]?=some a→l[j]?=some b→a.P ≠ b.P
theorem Okc.small {t:SCrit} (h:Okc t):(1≤t.C∧t.C≤10000)∧(1≤t.H∧t.H≤10000)∧(1≤t.D∧t.D≤10000)∧1≤t.T∧t.T≤10000:=by
  have:=h.C; have:=h.H; have:=h.D; have:=h.T
  omega
theorem critSame_eq (l:List SCrit) (x:SCrit) (K:Nat) (hK:l.length<K):∃ q,slices_ContainsFunc_api_Crit_api_Crit.f K l x=some q∧(q=false→∀ o ∈ l,o.P ≠ x.P):=by
  unfold slices_ContainsFunc_api_Crit_api_Crit.f slices_IndexFunc_api_Crit_api_Crit.f
  have hit:=iter_first0 (ρ:=Int) (τ:=Unit) (f:=slices_IndexFunc_api_Crit_api_Crit.r0 l x) (fun i=>match l[i]? with | some o=>if o.P=x.P then some (i:Int) else none | none=>none) l.length (t:=()) (fun i hi=>by
    have hi':(i:Int)<(l.length:Int):=by omega
    have hx:l[i]?=some l[i]:=List.getElem?_eq_getElem hi
    simp only [slices_IndexFunc_api_Crit_api_Crit.r0,if_pos hi',hx,modes_Check_1.f,beq_iff_eq]
    by_cases h:l[i].P=x.P
    · rw [if_pos h,if_pos h]; rfl
    · rw [if_neg h,if_neg h]; rfl) (by simp [slices_IndexFunc_api_Crit_api_Crit.r0]) (K:=K) hK
  rw [hit]
  cases hf:firstOf (fun i=>match l[i]? with | some o=>if o.P=x.P then some (i:Int) else none | none=>none) l.length 0 with
  | some r =>
    obtain ⟨i,_,hi,hg,_⟩:=firstOf_some hf
    have hr:0≤r:=by
      repeat' split at hg
      all_goals first | (cases hg; omega) | cases hg
    exact ⟨_,rfl,fun h=>by simp at h; omega⟩
  | none =>
    refine ⟨_,rfl,fun _ o ho hP=>?_⟩
    obtain ⟨i,hi,rfl⟩:=List.getElem_of_mem ho
    have:=firstOf_none hf i (Nat.zero_le _) hi
    simp only [List.getElem?_eq_getElem hi] at this
    rw [if_pos hP] at this
    cases this
theorem critCheck_eq (l:List SCrit) (K:Nat) (hK:20≤K):∃ f,modes_Check.f K l=some f∧(f.Code=0→f=⟨0,0⟩∧CritOk l):=by
  unfold modes_Check.f modes_Check.p0
  by_cases h1:(l.length:Int)<1
  · rw [if_pos h1]; exact ⟨_,rfl,fun h=>absurd h (by simp)⟩
  rw [if_neg h1]
  by_cases h2:(l.length:Int) > 8
  · rw [if_pos h2]; exact ⟨_,rfl,fun h=>absurd h (by simp)⟩
  rw [if_neg h2]
  simp only
  obtain ⟨r,hr,hR⟩:=iter_total (f:=modes_Check.r1 K l) (fun i=>i≤l.length∧(∀ (j:Nat) (t:SCrit),j<i→l[j]?=some t→Okc t)∧∀ (j k:Nat) (a b:SCrit),j<k→k<i→l[j]?=some a→l[k]?=some b→a.P ≠ b.P) (fun i=>l.length-i)
    (fun r=>(∃ f,r=.inr f∧f.Code ≠ 0) ∨ (r=.inl ()∧CritOk l)) (fun i hI=>by
      obtain ⟨hi0,hA,hB⟩:=hI
      by_cases hi:i<l.length
      · have hi':(i:Int)<(l.length:Int):=by omega
        have hx:l[i]?=some l[i]:=List.getElem?_eq_getElem hi
        simp only [modes_Check.r1,if_pos hi',hx]
        generalize l[i]=t at hx
        have hlen:((l.take i).drop 0).length=i:=by simp; omega
        obtain ⟨q,hq,hq2⟩:=critSame_eq ((l.take i).drop 0) t K (by omega)
        by_cases hr:t.C<1 ∨ t.H<t.C ∨ t.T<1 ∨ t.T > 10000 ∨ t.D<t.C ∨ t.P<0 ∨ t.P > 1000
        · have hp:modes_Check.p2 i t=some (.inr ⟨3,i⟩):=by
            unfold modes_Check.p2
            repeat' split
            all_goals first | rfl | omega
          rw [hp]
          exact .inr ⟨_,rfl,.inl ⟨_,rfl,by simp⟩⟩
        · have hp:modes_Check.p2 i t=some (.inl ()):=by
            unfold modes_Check.p2
            rw [if_neg (by omega),if_neg (by omega),if_neg (by omega),if_neg (by omega),if_neg (by omega),if_neg (by omega),if_neg (by omega)]
          rw [hp]
          simp only
          have hnext:(t.High=false→t.H=t.C)→¬ t.D > t.T→¬ t.H > t.D→q=false→(i+1≤l.length∧(∀ (j:Nat) (t:SCrit),j<i+1→l[j]?=some t→Okc t)∧∀ (j k:Nat) (a b:SCrit),j<k→k<i+1→l[j]?=some a→l[k]?=some b→a.P ≠ b.P):=fun hlow hd hh hqf=>by
            refine ⟨by omega,fun j t' hj ht'=>?_,fun j k a b hjk hk ha hb=>?_⟩
            · by_cases hji:j=i
              · subst hji
                rw [hx] at ht'
                cases ht'
                exact ⟨by omega,by omega,by omega,by omega,hlow⟩
              · exact hA j t' (by omega) ht'
            · by_cases hki:k=i
              · subst hki
                rw [hx] at hb
                cases hb
                refine hq2 hqf a ?_
                rw [List.drop_zero]
                exact List.mem_of_getElem? (i:=j) (by rw [List.getElem?_take_of_lt hjk]; exact ha)
              · exact hB j k a b hjk (by omega) ha hb
          by_cases hd:t.D > t.T
          · rw [if_pos hd]; exact .inr ⟨_,rfl,.inl ⟨_,rfl,by simp⟩⟩
          rw [if_neg hd]
          by_cases hh:t.H > t.D
          · rw [if_pos hh]; exact .inr ⟨_,rfl,.inl ⟨_,rfl,by simp⟩⟩
          rw [if_neg hh]
          by_cases hhi:t.High=true
          · rw [if_pos hhi,if_pos hi0,hq]
            simp only
            cases q with
            | true=>rw [if_pos rfl]; exact .inr ⟨_,rfl,.inl ⟨_,rfl,by simp⟩⟩
            | false =>
              rw [if_neg (by simp)]
              exact .inl ⟨_,rfl,hnext (fun h=>by rw [hhi] at h; cases h) hd hh rfl,by omega⟩
          · rw [if_neg hhi]
            by_cases hc:t.H=t.C
            · rw [if_pos hc,if_pos hi0,hq]
              simp only
              cases q with
              | true=>rw [if_pos rfl]; exact .inr ⟨_,rfl,.inl ⟨_,rfl,by simp⟩⟩
              | false =>
                rw [if_neg (by simp)]
                exact .inl ⟨_,rfl,hnext (fun _=>hc) hd hh rfl,by omega⟩
            · rw [if_neg hc]; exact .inr ⟨_,rfl,.inl ⟨_,rfl,by simp⟩⟩
      · right
        obtain rfl:i=l.length:=by omega
        refine ⟨_,by simp only [modes_Check.r1]; rw [if_neg (by omega)],.inr ⟨rfl,⟨by omega,by omega⟩,fun t ht=>?_,fun j k a b hjk ha hb=>hB j k a b hjk (lt_of_get hb) ha hb⟩⟩
        obtain ⟨j,hj⟩:=List.mem_iff_getElem?.1 ht
        exact hA j t (lt_of_get hj) hj) K 0 ⟨Nat.zero_le _,fun j t hj=>by omega,fun j k a b _ hk=>by omega⟩ (by omega)
  rw [hr]
  rcases hR with ⟨f,rfl,hf⟩ | ⟨rfl,hok⟩
  · exact ⟨_,rfl,fun h=>absurd h hf⟩
  · exact ⟨_,rfl,fun _=>⟨rfl,hok⟩⟩
theorem cceil_eq {a b:Int} (ha:0≤a∧a≤100000) (hb:1≤b∧b≤100000):modes_ceil.f a b=some (ceilD a b):=by
  unfold modes_ceil.f
  rw [if_neg (by omega),wrap64_small (n:=a+b) (by omega) (by omega),wrap64_small (n:=a+b-1) (by omega) (by omega),Int.tdiv_eq_ediv_of_nonneg (by omega)]
  have h1:=ceilD_nonneg hb.1 ha.1
  have h2:=ceilD_le hb.1 ha.1
  show some (IntKind.i64.wrap (ceilD a b))=_
  rw [wrap64_small (by omega) (by omega)]
def lowSum (l:List SCrit) (P w:Int):Nat→Int
  | 0=>0
  | n+1=>match l[n]? with
    | some o=>if o.P > P then lowSum l P w n+ceilD w o.T*o.C else lowSum l P w n
    | none=>lowSum l P w n
def highSum (l:List SCrit) (P w v:Int):Nat→Int
  | 0=>0
  | n+1=>match l[n]? with
    | some o=>if o.P≤P then highSum l P w v n else if o.High=true then highSum l P w v n+ceilD v o.T*o.H else highSum l P w v n+ceilD w o.T*o.C
    | none=>highSum l P w v n
theorem critTerm {o:SCrit} (h:Okc o) {w c:Int} (hw:0≤w∧w≤10000) (hc:0≤c∧c≤10000):(0≤ceilD w o.T∧ceilD w o.T≤10000)∧0≤ceilD w o.T*c∧ceilD w o.T*c≤100000000:=by
  have hT:=h.small.2.2.2
  have h1:=ceilD_nonneg hT.1 hw.1
  have h2:=ceilD_le hT.1 hw.1
  refine ⟨⟨h1,by omega⟩,Int.mul_nonneg h1 hc.1,?_⟩
  calc ceilD w o.T*c≤10000*c:=Int.mul_le_mul_of_nonneg_right (by omega) hc.1
    _≤10000*10000:=Int.mul_le_mul_of_nonneg_left hc.2 (by omega)
    _=100000000:=by decide
theorem lowSum_bounds {l:List SCrit} (h:∀ t ∈ l,Okc t) {P w:Int} (hw:0≤w∧w≤10000):∀ n:Nat,0≤lowSum l P w n∧lowSum l P w n≤100000000*(n:Int)
  | 0=>by simp [lowSum]
  | n+1=>by
    have ih:=lowSum_bounds h (P:=P) hw n
    simp only [lowSum]
    cases hn:l[n]? with
    | none=>simp only; omega
    | some o =>
      have ho:=h o (List.mem_of_getElem? hn)
      have:=(critTerm ho hw (c:=o.C) ⟨by have:=ho.small; omega,by have:=ho.small; omega⟩).2
      simp only
      split <;> omega
theorem highSum_bounds {l:List SCrit} (h:∀ t ∈ l,Okc t) {P w v:Int} (hw:0≤w∧w≤10000) (hv:0≤v∧v≤10000):∀ n:Nat,0≤highSum l P w v n∧highSum l P w v n≤100000000*(n:Int)
  | 0=>by simp [highSum]
  | n+1=>by
    have ih:=highSum_bounds h (P:=P) hw hv n
    simp only [highSum]
    cases hn:l[n]? with
    | none=>simp only; omega
    | some o =>
      have ho:=h o (List.mem_of_getElem? hn)
      have h1:=(critTerm ho hw (c:=o.C) ⟨by have:=ho.small; omega,by have:=ho.small; omega⟩).2
      have h2:=(critTerm ho hv (c:=o.H) ⟨by have:=ho.small; omega,by have:=ho.small; omega⟩).2
      simp only
      split
      · omega
      · split <;> omega
theorem lowSum_mono {l:List SCrit} (h:∀ t ∈ l,Okc t) {P w w':Int} (hw:w≤w'):∀ n:Nat,lowSum l P w n≤lowSum l P w' n
  | 0=>Int.le_refl _
  | n+1=>by
    have ih:=lowSum_mono h (P:=P) hw n
    simp only [lowSum]
    cases hn:l[n]? with
    | none=>exact ih
    | some o =>
      have ho:=h o (List.mem_of_getElem? hn)
      have h1:ceilD w o.T*o.C≤ceilD w' o.T*o.C:=Int.mul_le_mul_of_nonneg_right (ceilD_mono ho.small.2.2.2.1 hw) (by have:=ho.small; omega)
      simp only
      split <;> omega
theorem highSum_mono {l:List SCrit} (h:∀ t ∈ l,Okc t) {P w v v':Int} (hv:v≤v'):∀ n:Nat,highSum l P w v n≤highSum l P w v' n
  | 0=>Int.le_refl _
  | n+1=>by
    have ih:=highSum_mono h (P:=P) (w:=w) hv n
    simp only [highSum]
    cases hn:l[n]? with
    | none=>exact ih
    | some o =>
      have ho:=h o (List.mem_of_getElem? hn)
      have h1:ceilD v o.T*o.H≤ceilD v' o.T*o.H:=Int.mul_le_mul_of_nonneg_right (ceilD_mono ho.small.2.2.2.1 hv) (by have:=ho.small; omega)
      simp only
      split
      · exact ih
      · split <;> omega
theorem lowD_eq {l:List SCrit} (h:∀ t ∈ l,Okc t) (hl:l.length≤8) {t:SCrit} (ht:Okc t) {w:Int} (hw:0≤w∧w≤10000) (K:Nat) (hK:10≤K):modes_low_1.f K w t l=some (t.C+lowSum l t.P w l.length):=by
  unfold modes_low_1.f
  have hts:=ht.small
  have hit:=iter_states (ρ:=Int) (f:=modes_low_1.r0 w t l) (fun k=>(t.C+lowSum l t.P w k,k)) (fun _=>none) l.length (t:=t.C+lowSum l t.P w l.length) (fun k hk _=>by
    have hk':(k:Int)<(l.length:Int):=by omega
    have hkx:l[k]?=some l[k]:=List.getElem?_eq_getElem hk
    have ho:=h l[k] (List.getElem_mem hk)
    have hos:=ho.small
    have hb:=lowSum_bounds h (P:=t.P) hw k
    have hterm:=critTerm ho hw (c:=l[k].C) ⟨by omega,by omega⟩
    simp only [modes_low_1.r0,if_pos hk',hkx,lowSum,onwardS]
    by_cases hP:l[k].P > t.P
    · rw [if_pos hP,if_pos hP,cceil_eq ⟨by omega,by omega⟩ ⟨by omega,by omega⟩]
      simp only
      rw [wrap64_small (n:=ceilD w l[k].T*l[k].C) (by omega) (by omega),wrap64_small (by omega) (by omega)]
      congr 3
      omega
    · rw [if_neg hP,if_neg hP]) (fun _=>by simp [modes_low_1.r0]) (K:=K) (by omega)
  have h0:t.C+lowSum l t.P w 0=t.C:=by simp [lowSum]
  rw [h0] at hit
  rw [hit,firstOf_none_of (fun _ _ _=>rfl)]
  rfl
theorem highD_eq {l:List SCrit} (h:∀ t ∈ l,Okc t) (hl:l.length≤8) {t:SCrit} (ht:Okc t) {w v:Int} (hw:0≤w∧w≤10000) (hv:0≤v∧v≤10000) (K:Nat) (hK:10≤K):modes_high_1.f K v t l w=some (t.H+highSum l t.P w v l.length):=by
  unfold modes_high_1.f
  have hts:=ht.small
  have hit:=iter_states (ρ:=Int) (f:=modes_high_1.r0 v t l w) (fun k=>(t.H+highSum l t.P w v k,k)) (fun _=>none) l.length (t:=t.H+highSum l t.P w v l.length) (fun k hk _=>by
    have hk':(k:Int)<(l.length:Int):=by omega
    have hkx:l[k]?=some l[k]:=List.getElem?_eq_getElem hk
    have ho:=h l[k] (List.getElem_mem hk)
    have hos:=ho.small
    have hb:=highSum_bounds h (P:=t.P) hw hv k
    have hterm:=critTerm ho hw (c:=l[k].C) ⟨by omega,by omega⟩
    have hterm2:=critTerm ho hv (c:=l[k].H) ⟨by omega,by omega⟩
    simp only [modes_high_1.r0,if_pos hk',hkx,highSum,onwardS]
    by_cases hP:l[k].P≤t.P
    · rw [if_pos hP,if_pos hP]
    · rw [if_neg hP,if_neg hP]
      by_cases hH:l[k].High=true
      · rw [if_pos hH,if_pos hH,cceil_eq ⟨by omega,by omega⟩ ⟨by omega,by omega⟩]
        simp only
        rw [wrap64_small (n:=ceilD v l[k].T*l[k].H) (by omega) (by omega),wrap64_small (by omega) (by omega)]
        congr 3
        omega
      · rw [if_neg hH,if_neg hH,cceil_eq ⟨by omega,by omega⟩ ⟨by omega,by omega⟩]
        simp only
        rw [wrap64_small (n:=ceilD w l[k].T*l[k].C) (by omega) (by omega),wrap64_small (by omega) (by omega)]
        congr 3
        omega) (fun _=>by simp [modes_high_1.r0]) (K:=K) (by omega)
  have h0:t.H+highSum l t.P w v 0=t.H:=by simp [highSum]
  rw [h0] at hit
  rw [hit,firstOf_none_of (fun _ _ _=>rfl)]
  rfl
noncomputable def wellOf (l:List SCrit) (t:SCrit):Int:=settled (fun w=>t.C+lowSum l t.P w l.length) t.D
noncomputable def illOf (l:List SCrit) (t:SCrit):Int:=settled (fun v=>t.H+highSum l t.P (wellOf l t) v l.length) t.D
theorem low_eq {l:List SCrit} (h:∀ t ∈ l,Okc t) (hl:l.length≤8) {i:Nat} {t:SCrit} (hx:l[i]?=some t) (K:Nat) (hK:10100≤K):modes_low.f K l (i:Int)=some (wellOf l t):=by
  have ht:=h t (List.mem_of_getElem? hx)
  have hts:=ht.small
  unfold modes_low.f
  rw [if_pos (by omega),Int.toNat_natCast,hx]
  simp only
  have hit:=settle_iter (d:=fun z=>modes_low_1.f K z t l) (f:=fun w=>t.C+lowSum l t.P w l.length) (most:=t.D) (first:=t.C) ht.C.1 (fun z h1 h2=>lowD_eq h hl ht ⟨by omega,by omega⟩ K (by omega))
    (fun z h1=>by have h3:=lowSum_mono h (P:=t.P) (show 0≤z by omega) l.length; have h4:=lowSum_bounds h (P:=t.P) (w:=0) ⟨by omega,by omega⟩ l.length; omega) (fun z z' _ h2=>by have:=lowSum_mono h (P:=t.P) h2 l.length; omega) (K:=K) (by omega) (by omega)
  have e:fixed_Settle.r0 K t.D t l=settleStep (fun z=>modes_low_1.f K z t l) t.D:=rfl
  unfold fixed_Settle.f
  rw [e,hit]
  show _=some (settled _ _)
  by_cases hz:settled (fun w=>t.C+lowSum l t.P w l.length) t.D=0
  · rw [if_pos hz,hz]
  · rw [if_neg hz]
theorem high_eq {l:List SCrit} (h:∀ t ∈ l,Okc t) (hl:l.length≤8) {i:Nat} {t:SCrit} (hx:l[i]?=some t) (hw:wellOf l t ≠ 0) (K:Nat) (hK:10100≤K):modes_high.f K l (i:Int) (wellOf l t)=some (illOf l t):=by
  have ht:=h t (List.mem_of_getElem? hx)
  have hts:=ht.small
  have hwp:=settled_pos hw
  have hwb:1≤wellOf l t∧wellOf l t≤t.D:=⟨hwp.1,hwp.2.1⟩
  unfold modes_high.f
  rw [if_pos (by omega),Int.toNat_natCast,hx]
  simp only
  have hit:=settle_iter (d:=fun z=>modes_high_1.f K z t l (wellOf l t)) (f:=fun v=>t.H+highSum l t.P (wellOf l t) v l.length) (most:=t.D) (first:=t.H) (by omega) (fun z h1 h2=>highD_eq h hl ht ⟨by omega,by omega⟩ ⟨by omega,by omega⟩ K (by omega))
    (fun z h1=>by have h3:=highSum_mono h (P:=t.P) (w:=wellOf l t) (show 0≤z by omega) l.length; have h4:=highSum_bounds h (P:=t.P) (w:=wellOf l t) (v:=0) ⟨by omega,by omega⟩ ⟨by omega,by omega⟩ l.length; omega) (fun z z' _ h2=>by have:=highSum_mono h (P:=t.P) (w:=wellOf l t) h2 l.length; omega) (K:=K) (by omega) (by omega)
  have e:fixed_Settle_1.r0 K t.D t l (wellOf l t)=settleStep (fun z=>modes_high_1.f K z t l (wellOf l t)) t.D:=rfl
  unfold fixed_Settle_1.f
  rw [e,hit]
  show _=some (settled _ _)
  by_cases hz:settled (fun v=>t.H+highSum l t.P (wellOf l t) v l.length) t.D=0
  · rw [if_pos hz,hz]
  · rw [if_neg hz]
theorem critResp_eq (l:List SCrit) (K:Nat) (hK:10100≤K):∃ well ill f,modes_Responses.f K l=some (well,ill,f)∧(f.Code ≠ 0→well=[]∧ill=[]) ∧
    (f.Code=0→modes_Check.f K l=some ⟨0,0⟩∧CritOk l∧well.length=l.length∧ill.length=l.length∧∀ (i:Nat) (t:SCrit),l[i]?=some t→∃ v,well[i]?=some (wellOf l t)∧ill[i]?=some v∧wellOf l t ≠ 0∧(t.High=true→v=illOf l t∧illOf l t ≠ 0)):=by
  obtain ⟨f,hf,hf0⟩:=critCheck_eq l K (by omega)
  unfold modes_Responses.f
  rw [hf]
  simp only
  by_cases hc:f.Code=0
  · rw [if_pos hc]
    obtain ⟨hfe,hok⟩:=hf0 hc
    have hl:=hok.len
    obtain ⟨r,hr,hR⟩:=iter_total (f:=modes_Responses.r0 K l) (fun s=>s.2.2≤l.length∧s.1.length=s.2.2∧s.2.1.length=s.2.2∧∀ (i:Nat) (t:SCrit),i<s.2.2→l[i]?=some t→∃ v,s.1[i]?=some (wellOf l t)∧s.2.1[i]?=some v∧wellOf l t ≠ 0∧(t.High=true→v=illOf l t∧illOf l t ≠ 0)) (fun s=>l.length-s.2.2)
      (fun r=>(∃ f,r=.inr ([],[],f)∧f.Code ≠ 0) ∨ ∃ well ill,r=.inl (well,ill)∧well.length=l.length∧ill.length=l.length∧∀ (i:Nat) (t:SCrit),l[i]?=some t→∃ v,well[i]?=some (wellOf l t)∧ill[i]?=some v∧wellOf l t ≠ 0∧(t.High=true→v=illOf l t∧illOf l t ≠ 0)) (fun s hI=>by
        obtain ⟨m1,m2,i⟩:=s
        obtain ⟨hi0,hl1,hl2,hA⟩:=hI
        simp only at hi0 hl1 hl2 hA
        by_cases hi:i<l.length
        · have hi':(i:Int)<(l.length:Int):=by omega
          have hx:l[i]?=some l[i]:=List.getElem?_eq_getElem hi
          have ht:=hok.each _ (List.getElem_mem hi)
          generalize l[i]=t at hx ht
          have hts:=ht.small
          simp only [modes_Responses.r0,if_pos hi',hx,low_eq hok.each hl.2 hx K hK]
          have hnext:∀ v,wellOf l t ≠ 0→(t.High=true→v=illOf l t∧illOf l t ≠ 0)→(i+1≤l.length∧(m1++[wellOf l t]).length=i+1∧(m2++[v]).length=i+1∧∀ (j:Nat) (t':SCrit),j<i+1→l[j]?=some t'→∃ v',(m1++[wellOf l t])[j]?=some (wellOf l t')∧(m2++[v])[j]?=some v'∧wellOf l t' ≠ 0∧(t'.High=true→v'=illOf l t'∧illOf l t' ≠ 0)):=fun v hz hv=>by
            refine ⟨by omega,by simp [hl1],by simp [hl2],fun j t' hj ht'=>?_⟩
            by_cases hji:j=i
            · subst hji
              rw [hx] at ht'
              cases ht'
              refine ⟨v,?_,?_,hz,hv⟩
              · rw [List.getElem?_append_right (by omega),hl1,Nat.sub_self]; rfl
              · rw [List.getElem?_append_right (by omega),hl2,Nat.sub_self]; rfl
            · obtain ⟨v',g1,g2,g3,g4⟩:=hA j t' (by omega) ht'
              refine ⟨v',?_,?_,g3,g4⟩
              · rw [List.getElem?_append_left (by omega)]; exact g1
              · rw [List.getElem?_append_left (by omega)]; exact g2
          by_cases hz:wellOf l t=0
          · right
            have hp1:modes_Responses.p1 K l i t (wellOf l t)=some (.inl 0):=by
              unfold modes_Responses.p1
              rw [hz]
              split
              · rfl
              · rfl
            rw [hp1]
            simp only
            rw [if_pos hz]
            exact ⟨_,rfl,.inl ⟨_,rfl,by simp⟩⟩
          · have hzp:=settled_pos hz
            have hpos:wellOf l t > 0:=by have:1≤wellOf l t:=hzp.1; omega
            by_cases hH:t.High=true
            · have hp1:modes_Responses.p1 K l i t (wellOf l t)=some (.inl (illOf l t)):=by
                unfold modes_Responses.p1
                rw [if_pos hH,if_pos hpos,high_eq hok.each hl.2 hx hz K hK]
              rw [hp1]
              simp only
              rw [if_neg hz,if_pos hH]
              by_cases hv:illOf l t=0
              · rw [if_pos hv]; exact .inr ⟨_,rfl,.inl ⟨_,rfl,by simp⟩⟩
              · rw [if_neg hv,if_pos (by omega),if_pos (by omega)]
                exact .inl ⟨_,rfl,hnext _ hz (fun _=>⟨rfl,hv⟩),by simp only; omega⟩
            · have hp1:modes_Responses.p1 K l i t (wellOf l t)=some (.inl 0):=by
                unfold modes_Responses.p1
                rw [if_neg hH]
              rw [hp1]
              simp only
              rw [if_neg hz,if_neg hH,if_pos (by omega),if_pos (by omega)]
              exact .inl ⟨_,rfl,hnext _ hz (fun h=>absurd h hH),by simp only; omega⟩
        · right
          obtain rfl:i=l.length:=by omega
          refine ⟨_,by simp only [modes_Responses.r0]; rw [if_neg (by omega)],.inr ⟨m1,m2,rfl,hl1,hl2,fun j t hj=>hA j t (lt_of_get hj) hj⟩⟩) K ([],[],0) ⟨Nat.zero_le _,rfl,rfl,fun i t hi=>absurd hi (Nat.not_lt_zero _)⟩ (by simp only; omega)
    rw [hr]
    rcases hR with ⟨f',rfl,hf'⟩ | ⟨well,ill,rfl,g1,g2,g3⟩
    · exact ⟨_,_,_,rfl,fun _=>⟨rfl,rfl⟩,fun h=>absurd h hf'⟩
    · exact ⟨_,_,_,rfl,fun h=>absurd rfl h,fun _=>⟨by rw [hfe],hok,g1,g2,g3⟩⟩
  · rw [if_neg hc]
    exact ⟨_,_,_,rfl,fun _=>⟨rfl,rfl⟩,fun h=>absurd h hc⟩

theorem critSame_iff (l:List SCrit) (x:SCrit) (K:Nat) (hK:l.length<K):∃ q,slices_ContainsFunc_api_Crit_api_Crit.f K l x=some q∧(q=true ↔ ∃ o ∈ l,o.P=x.P):=by
  unfold slices_ContainsFunc_api_Crit_api_Crit.f slices_IndexFunc_api_Crit_api_Crit.f
  have hit:=iter_first0 (ρ:=Int) (τ:=Unit) (f:=slices_IndexFunc_api_Crit_api_Crit.r0 l x) (fun i=>match l[i]? with | some o=>if o.P=x.P then some (i:Int) else none | none=>none) l.length (t:=()) (fun i hi=>by
    have hi':(i:Int)<(l.length:Int):=by omega
    have hx:l[i]?=some l[i]:=List.getElem?_eq_getElem hi
    simp only [slices_IndexFunc_api_Crit_api_Crit.r0,if_pos hi',hx,modes_Check_1.f,beq_iff_eq]
    by_cases h:l[i].P=x.P
    · rw [if_pos h,if_pos h]; rfl
    · rw [if_neg h,if_neg h]; rfl) (by simp [slices_IndexFunc_api_Crit_api_Crit.r0]) (K:=K) hK
  rw [hit]
  cases hf:firstOf (fun i=>match l[i]? with | some o=>if o.P=x.P then some (i:Int) else none | none=>none) l.length 0 with
  | some r =>
    obtain ⟨i,_,hi,hg,_⟩:=firstOf_some hf
    rw [List.getElem?_eq_getElem hi] at hg
    simp only at hg
    by_cases h:l[i].P=x.P
    · rw [if_pos h] at hg
      have hr:0≤r:=by cases hg; omega
      exact ⟨_,rfl,fun _=>⟨_,List.getElem_mem hi,h⟩,fun _=>by simp; omega⟩
    · rw [if_neg h] at hg; cases hg
  | none =>
    refine ⟨_,rfl,fun h=>by simp at h,fun ⟨o,ho,hP⟩=>?_⟩
    obtain ⟨i,hi,rfl⟩:=List.getElem_of_mem ho
    have:=firstOf_none hf i (Nat.zero_le _) hi
    simp only [List.getElem?_eq_getElem hi] at this
    rw [if_pos hP] at this
    cases this
theorem refSame_iff (l:List SCrit) (i:Nat) (x:SCrit) (K:Nat) (hK:((l.take i).drop 0).length<K):∃ q:Bool,iter (pr_CheckCrit.r4 l i x) K 0=some (if q=true then .inr (pr_F.f 5 (i:Int)) else .inl ())∧(q=true ↔ ∃ o ∈ (l.take i).drop 0,o.P=x.P):=by
  have hit:=iter_first0 (ρ:=SFault) (τ:=Unit) (f:=pr_CheckCrit.r4 l i x) (fun j=>match ((l.take i).drop 0)[j]? with | some o=>if o.P=x.P then some (pr_F.f 5 (i:Int)) else none | none=>none) ((l.take i).drop 0).length (t:=()) (fun j hj=>by
    have hj':(j:Int)<(((l.take i).drop 0).length:Int):=by omega
    have hx:((l.take i).drop 0)[j]?=some ((l.take i).drop 0)[j]:=List.getElem?_eq_getElem hj
    simp only [pr_CheckCrit.r4,if_pos hj',hx]
    by_cases h:((l.take i).drop 0)[j].P=x.P
    · rw [if_pos h,if_pos h]; rfl
    · rw [if_neg h,if_neg h]; rfl) (by simp only [pr_CheckCrit.r4]; rw [if_neg (by omega)]) (K:=K) hK
  rw [hit]
  cases hf:firstOf (fun j=>match ((l.take i).drop 0)[j]? with | some o=>if o.P=x.P then some (pr_F.f 5 (i:Int)) else none | none=>none) ((l.take i).drop 0).length 0 with
  | some r =>
    obtain ⟨j,_,hj,hg,_⟩:=firstOf_some hf
    rw [List.getElem?_eq_getElem hj] at hg
    simp only at hg
    by_cases h:((l.take i).drop 0)[j].P=x.P
    · rw [if_pos h] at hg
      cases hg
      exact ⟨true,by simp [leave],fun _=>⟨_,List.getElem_mem hj,h⟩,fun _=>rfl⟩
    · rw [if_neg h] at hg; cases hg
  | none =>
    refine ⟨false,by simp [leave],fun h=>by simp at h,fun ⟨o,ho,hP⟩=>?_⟩
    obtain ⟨j,hj,rfl⟩:=List.getElem_of_mem ho
    have:=firstOf_none hf j (Nat.zero_le _) hj
    simp only [List.getElem?_eq_getElem hj] at this
    rw [if_pos hP] at this
    cases this
theorem CheckCrit_eq (l:List SCrit) (K:Nat) (hK:20≤K):pr_CheckCrit.f K l=modes_Check.f K l:=by
  unfold modes_Check.f modes_Check.p0 pr_CheckCrit.f pr_CheckCrit.p0
  by_cases h1:(l.length:Int)<1
  · rw [if_pos h1,if_pos (by omega)]; rfl
  rw [if_neg h1,if_neg (show ¬ (l.length:Int)=0 by omega)]
  by_cases h2:(l.length:Int) > 8
  · rw [if_pos h2,if_pos h2]; rfl
  rw [if_neg h2,if_neg h2]
  simp only
  have hr:pr_CheckCrit.r1 K l=modes_Check.r1 K l:=by
    funext i
    by_cases hi:i<l.length
    · have hi':(i:Int)<(l.length:Int):=by omega
      have hx:l[i]?=some l[i]:=List.getElem?_eq_getElem hi
      simp only [pr_CheckCrit.r1,modes_Check.r1,if_pos hi',hx]
      generalize l[i]=t
      have hp2:pr_CheckCrit.p2 i t=modes_Check.p2 i t:=rfl
      rw [hp2]
      have hpl:((l.take i).drop 0).length<K:=by simp; omega
      obtain ⟨q,hq,hq2⟩:=critSame_iff ((l.take i).drop 0) t K hpl
      obtain ⟨q',hq',hq2'⟩:=refSame_iff l i t K hpl
      have hqq:q'=q:=by
        cases q <;> cases q'
        · rfl
        · exact absurd (hq2.2 (hq2'.1 rfl)) (by simp)
        · exact absurd (hq2'.2 (hq2.1 rfl)) (by simp)
        · rfl
      subst hqq
      by_cases hc:t.C<1 ∨ t.H<t.C
      · have:∃ f,modes_Check.p2 i t=some (.inr f):=by
          unfold modes_Check.p2
          repeat' split
          all_goals first | exact ⟨_,rfl⟩ | omega
        obtain ⟨f,hf⟩:=this
        rw [hf]
      cases hp:modes_Check.p2 i t with
      | none=>rfl
      | some r =>
        cases r with
        | inr f=>rfl
        | inl u =>
          simp only [pr_CheckCrit.p3]
          by_cases hd:t.D > t.T
          · rw [if_pos hd,if_pos hd]; rfl
          rw [if_neg hd,if_neg hd]
          by_cases hh:t.H > t.D
          · rw [if_pos hh,if_pos hh]; rfl
          rw [if_neg hh,if_neg hh]
          by_cases hhi:t.High=true
          · rw [if_pos hhi,if_pos hhi]
            simp only
            rw [if_pos (by omega),if_pos (by omega),hq,hq']
            cases q' <;> rfl
          · rw [if_neg hhi,if_neg hhi]
            by_cases he:t.H=t.C
            · rw [if_pos he,if_neg (by omega)]
              simp only
              rw [if_pos (by omega),if_pos (by omega),hq,hq']
              cases q' <;> rfl
            · rw [if_neg he,if_pos (by omega)]
              rfl
    · have hi':¬ (i:Int)<(l.length:Int):=by omega
      simp only [pr_CheckCrit.r1,modes_Check.r1,if_neg hi']
  rw [hr]
  try rfl
theorem refLow_eq {l:List SCrit} (h:∀ t ∈ l,Okc t) (hl:l.length≤8) {t:SCrit} (ht:Okc t) {w:Int} (hw:0≤w∧w≤10000) (K:Nat) (hK:10≤K):pr_TwoResponses_1.f K w t l=some (t.C+lowSum l t.P w l.length):=by
  unfold pr_TwoResponses_1.f
  have hts:=ht.small
  have hit:=iter_states (ρ:=Int) (f:=pr_TwoResponses_1.r0 w t l) (fun k=>(t.C+lowSum l t.P w k,k)) (fun _=>none) l.length (t:=t.C+lowSum l t.P w l.length) (fun k hk _=>by
    have hk':(k:Int)<(l.length:Int):=by omega
    have hkx:l[k]?=some l[k]:=List.getElem?_eq_getElem hk
    have ho:=h l[k] (List.getElem_mem hk)
    have hos:=ho.small
    have hb:=lowSum_bounds h (P:=t.P) hw k
    have hterm:=critTerm ho hw (c:=l[k].C) ⟨by omega,by omega⟩
    simp only [pr_TwoResponses_1.r0,if_pos hk',hkx,lowSum,onwardS]
    by_cases hP:l[k].P > t.P
    · rw [if_pos hP,if_pos hP,up_eq ⟨by omega,by omega⟩ ⟨by omega,by omega⟩]
      simp only
      rw [wrap64_small (n:=ceilD w l[k].T*l[k].C) (by omega) (by omega),wrap64_small (by omega) (by omega)]
      congr 3
      omega
    · rw [if_neg hP,if_neg hP]) (fun _=>by simp [pr_TwoResponses_1.r0]) (K:=K) (by omega)
  have h0:t.C+lowSum l t.P w 0=t.C:=by simp [lowSum]
  rw [h0] at hit
  rw [hit,firstOf_none_of (fun _ _ _=>rfl)]
  rfl
theorem refHigh_eq {l:List SCrit} (h:∀ t ∈ l,Okc t) (hl:l.length≤8) {t:SCrit} (ht:Okc t) {w v:Int} (hw:0≤w∧w≤10000) (hv:0≤v∧v≤10000) (K:Nat) (hK:10≤K):pr_TwoResponses_2.f K v t l w=some (t.H+highSum l t.P w v l.length):=by
  unfold pr_TwoResponses_2.f
  have hts:=ht.small
  have hit:=iter_states (ρ:=Int) (f:=pr_TwoResponses_2.r0 v t l w) (fun k=>(t.H+highSum l t.P w v k,k)) (fun _=>none) l.length (t:=t.H+highSum l t.P w v l.length) (fun k hk _=>by
    have hk':(k:Int)<(l.length:Int):=by omega
    have hkx:l[k]?=some l[k]:=List.getElem?_eq_getElem hk
    have ho:=h l[k] (List.getElem_mem hk)
    have hos:=ho.small
    have hb:=highSum_bounds h (P:=t.P) hw hv k
    have hterm:=critTerm ho hw (c:=l[k].C) ⟨by omega,by omega⟩
    have hterm2:=critTerm ho hv (c:=l[k].H) ⟨by omega,by omega⟩
    simp only [pr_TwoResponses_2.r0,pr_TwoResponses_2.p1,if_pos hk',hkx,highSum,onwardS]
    by_cases hP:l[k].P > t.P
    · rw [if_pos hP,if_neg (show ¬ l[k].P≤t.P by omega)]
      by_cases hH:l[k].High=true
      · rw [if_pos hH,if_pos hH,up_eq ⟨by omega,by omega⟩ ⟨by omega,by omega⟩]
        simp only
        rw [if_pos hP,if_pos hH,wrap64_small (n:=ceilD v l[k].T*l[k].H) (by omega) (by omega),wrap64_small (by omega) (by omega)]
        congr 3
        omega
      · rw [if_neg hH,if_neg hH]
        simp only
        rw [if_pos hP,if_neg hH,up_eq ⟨by omega,by omega⟩ ⟨by omega,by omega⟩]
        simp only
        rw [wrap64_small (n:=ceilD w l[k].T*l[k].C) (by omega) (by omega),wrap64_small (by omega) (by omega)]
        congr 3
        omega
    · rw [if_neg hP,if_pos (show l[k].P≤t.P by omega)]
      simp only
      rw [if_neg hP]) (fun _=>by simp [pr_TwoResponses_2.r0]) (K:=K) (by omega)
  have h0:t.H+highSum l t.P w v 0=t.H:=by simp [highSum]
  rw [h0] at hit
  rw [hit,firstOf_none_of (fun _ _ _=>rfl)]
  rfl
theorem least1_eq {l:List SCrit} (h:∀ t ∈ l,Okc t) (hl:l.length≤8) {t:SCrit} (ht:Okc t) (K:Nat) (hK:10100≤K):pr_least.f K t.D t l=some (wellOf l t):=by
  have hts:=ht.small
  have hit:=least_iter (d:=fun z=>pr_TwoResponses_1.f K z t l) (f:=fun w=>t.C+lowSum l t.P w l.length) (most:=t.D) (by omega) (fun z h1 h2=>refLow_eq h hl ht ⟨by omega,by omega⟩ K (by omega))
    (fun z h1=>by have h3:=lowSum_mono h (P:=t.P) (show 0≤z by omega) l.length; have h4:=lowSum_bounds h (P:=t.P) (w:=0) ⟨by omega,by omega⟩ l.length; omega) (fun z z' _ h2=>by have:=lowSum_mono h (P:=t.P) h2 l.length; omega) (K:=K) (by omega) (by omega)
  have e:pr_least.r0 K t.D t l=leastStep (fun z=>pr_TwoResponses_1.f K z t l) t.D:=rfl
  unfold pr_least.f
  rw [e,hit]
  unfold wellOf
  split
  · rename_i he; split at he <;> cases he
  · rename_i he; split at he
    · rename_i hz; rw [hz]
    · cases he
  · rename_i he; split at he
    · cases he
    · cases he; rfl
theorem least2_eq {l:List SCrit} (h:∀ t ∈ l,Okc t) (hl:l.length≤8) {t:SCrit} (ht:Okc t) (hw:0≤wellOf l t∧wellOf l t≤10000) (K:Nat) (hK:10100≤K):pr_least_1.f K t.D t l (wellOf l t)=some (illOf l t):=by
  have hts:=ht.small
  have hit:=least_iter (d:=fun z=>pr_TwoResponses_2.f K z t l (wellOf l t)) (f:=fun v=>t.H+highSum l t.P (wellOf l t) v l.length) (most:=t.D) (by omega) (fun z h1 h2=>refHigh_eq h hl ht hw ⟨by omega,by omega⟩ K (by omega))
    (fun z h1=>by have h3:=highSum_mono h (P:=t.P) (w:=wellOf l t) (show 0≤z by omega) l.length; have h4:=highSum_bounds h (P:=t.P) hw (v:=0) ⟨by omega,by omega⟩ l.length; omega) (fun z z' _ h2=>by have:=highSum_mono h (P:=t.P) (w:=wellOf l t) h2 l.length; omega) (K:=K) (by omega) (by omega)
  have e:pr_least_1.r0 K t.D t l (wellOf l t)=leastStep (fun z=>pr_TwoResponses_2.f K z t l (wellOf l t)) t.D:=rfl
  unfold pr_least_1.f
  rw [e,hit]
  unfold illOf
  split
  · rename_i he; split at he <;> cases he
  · rename_i he; split at he
    · rename_i hz; rw [hz]
    · cases he
  · rename_i he; split at he
    · cases he
    · cases he; rfl
theorem wellOf_range {l:List SCrit} {t:SCrit} (ht:Okc t):0≤wellOf l t∧wellOf l t≤10000:=by
  have hts:=ht.small
  by_cases hz:wellOf l t=0
  · omega
  · have:=settled_pos hz
    have h1:1≤wellOf l t:=this.1
    have h2:wellOf l t≤t.D:=this.2.1
    omega
theorem TwoResponses_eq (l:List SCrit) (K:Nat) (hK:10100≤K):pr_TwoResponses.f K l=modes_Responses.f K l:=by
  obtain ⟨f,hf,hf0⟩:=critCheck_eq l K (by omega)
  unfold modes_Responses.f pr_TwoResponses.f
  rw [CheckCrit_eq l K (by omega),hf]
  simp only
  by_cases hc:f.Code=0
  · rw [if_pos hc,if_pos hc]
    obtain ⟨_,hok⟩:=hf0 hc
    have hr:pr_TwoResponses.r0 K l=modes_Responses.r0 K l:=by
      funext s
      obtain ⟨m1,m2,i⟩:=s
      by_cases hi:i<l.length
      · have hi':(i:Int)<(l.length:Int):=by omega
        have hx:l[i]?=some l[i]:=List.getElem?_eq_getElem hi
        have ht:=hok.each _ (List.getElem_mem hi)
        generalize l[i]=t at hx ht
        have hw:=wellOf_range (l:=l) ht
        simp only [pr_TwoResponses.r0,modes_Responses.r0,if_pos hi',hx,low_eq hok.each hok.len.2 hx K hK,least1_eq hok.each hok.len.2 ht K hK,least2_eq hok.each hok.len.2 ht hw K hK,modes_Responses.p1]
        by_cases hH:t.High=true
        · rw [if_pos hH,if_pos hH]
          by_cases hz:wellOf l t=0
          · rw [if_pos hz,if_neg (show ¬ wellOf l t > 0 by omega)]
            simp only
            rw [if_pos hz]; rfl
          · rw [if_neg hz,if_pos (show wellOf l t > 0 by omega),high_eq hok.each hok.len.2 hx hz K hK]
            simp only
            rw [if_neg hz,if_pos hH]
            rfl
        · rw [if_neg hH,if_neg hH]
          simp only
          rw [if_neg hH]
          rfl
      · have hi':¬ (i:Int)<(l.length:Int):=by omega
        simp only [pr_TwoResponses.r0,modes_Responses.r0,if_neg hi']
    rw [hr]
    try rfl
  · rw [if_neg hc,if_neg hc]
theorem apart_fill (a:List Int) (z:Int) (hz:0≤z) (m:List (List Int)) (hm:m[z.toNat]?=some a) (hl:a.length≤100000) (K:Nat) (hK:a.length<K):iter (ps_Apart.r2 z a) K (0,m)=some (.inl (m.set z.toNat (List.replicate a.length (IntKind.i64.wrap (-5-z))))):=by
  have hlt:=lt_of_get hm
  obtain ⟨r,hr,hR⟩:=iter_total (f:=ps_Apart.r2 z a) (fun s=>0≤s.1∧s.1≤(a.length:Int)∧s.2=m.set z.toNat (List.replicate s.1.toNat (IntKind.i64.wrap (-5-z))++a.drop s.1.toNat)) (fun s=>a.length-s.1.toNat)
    (fun r=>r=.inl (m.set z.toNat (List.replicate a.length (IntKind.i64.wrap (-5-z))))) (fun s hs=>by
      obtain ⟨k,m6⟩:=s
      obtain ⟨h0,h1,h2⟩:=hs
      simp only at h0 h1 h2
      subst h2
      by_cases hk:k<(a.length:Int)
      · left
        have hkn:k.toNat<a.length:=by omega
        refine ⟨(k+1,m.set z.toNat (List.replicate (k+1).toNat (IntKind.i64.wrap (-5-z))++a.drop (k+1).toNat)),?_,⟨by simp only; omega,by simp only; omega,rfl⟩,by simp only; omega⟩
        simp only [ps_Apart.r2,if_pos hk,List.getElem?_set_self hlt,if_pos h0]
        have hg:(List.replicate k.toNat (IntKind.i64.wrap (-5-z))++a.drop k.toNat)[k.toNat]?=some a[k.toNat]:=by
          rw [List.getElem?_append_right (by simp),List.length_replicate,Nat.sub_self,List.getElem?_drop,Nat.add_zero,List.getElem?_eq_getElem hkn]
        rw [hg,wrap64_small (n:=k+1) (by omega) (by omega)]
        simp only [List.set_set]
        congr 3
        rw [List.set_append_right _ _ (by simp),List.length_replicate,Nat.sub_self,List.drop_eq_getElem_cons hkn,List.set_cons_zero,show (k+1).toNat=k.toNat+1 by omega,List.replicate_succ',List.append_assoc]
        rfl
      · right
        refine ⟨_,by simp only [ps_Apart.r2,if_neg hk]; rfl,?_⟩
        have:k.toNat=a.length:=by omega
        rw [this,List.drop_length,List.append_nil]) K (0,m) ⟨by simp,by simp,by
          simp only [Int.toNat_zero,List.replicate_zero,List.nil_append,List.drop_zero]
          apply List.ext_getElem?
          intro q
          rw [List.getElem?_set]
          split
          · rename_i hq; subst hq; exact hm
          · rfl⟩ (by simp; omega)
  rw [hr,hR]
theorem apart_back (a:List Int) (z:Int) (hz:0≤z) (was m:List (List Int)) (hw:was[z.toNat]?=some a) (hm:m[z.toNat]?=some (List.replicate a.length (IntKind.i64.wrap (-5-z)))) (hl:a.length≤100000) (K:Nat) (hK:a.length<K):iter (ps_Apart.r4 was z (List.replicate a.length (IntKind.i64.wrap (-5-z)))) K (0,m)=some (.inl (m.set z.toNat a)):=by
  have hlt:=lt_of_get hm
  obtain ⟨r,hr,hR⟩:=iter_total (f:=ps_Apart.r4 was z (List.replicate a.length (IntKind.i64.wrap (-5-z)))) (fun s=>0≤s.1∧s.1≤(a.length:Int)∧s.2=m.set z.toNat (a.take s.1.toNat++List.replicate (a.length-s.1.toNat) (IntKind.i64.wrap (-5-z)))) (fun s=>a.length-s.1.toNat)
    (fun r=>r=.inl (m.set z.toNat a)) (fun s hs=>by
      obtain ⟨k,m6⟩:=s
      obtain ⟨h0,h1,h2⟩:=hs
      simp only at h0 h1 h2
      subst h2
      by_cases hk:k<(a.length:Int)
      · left
        have hkn:k.toNat<a.length:=by omega
        have hk':k<((List.replicate a.length (IntKind.i64.wrap (-5-z))).length:Int):=by simpa using hk
        refine ⟨(k+1,m.set z.toNat (a.take (k+1).toNat++List.replicate (a.length-(k+1).toNat) (IntKind.i64.wrap (-5-z)))),?_,⟨by simp only; omega,by simp only; omega,rfl⟩,by simp only; omega⟩
        simp only [ps_Apart.r4,if_pos hk',List.getElem?_set_self hlt,if_pos h0]
        have htl:(a.take k.toNat).length=k.toNat:=by simp; omega
        have hg:(a.take k.toNat++List.replicate (a.length-k.toNat) (IntKind.i64.wrap (-5-z)))[k.toNat]?=some (IntKind.i64.wrap (-5-z)):=by
          rw [List.getElem?_append_right (by omega),htl,Nat.sub_self,List.getElem?_replicate,if_pos (by omega)]
        rw [hg]
        simp only [if_true,hw,List.getElem?_eq_getElem hkn]
        rw [wrap64_small (n:=k+1) (by omega) (by omega)]
        simp only [List.set_set]
        congr 3
        rw [List.set_append_right _ _ (by omega),htl,Nat.sub_self,show a.length-k.toNat=(a.length-(k+1).toNat)+1 by omega,List.replicate_succ,List.set_cons_zero,show (k+1).toNat=k.toNat+1 by omega,List.take_succ_eq_append_getElem hkn,List.append_assoc]
        rfl
      · right
        have hk':¬ k<((List.replicate a.length (IntKind.i64.wrap (-5-z))).length:Int):=by simpa using hk
        refine ⟨_,by simp only [ps_Apart.r4,if_neg hk']; rfl,?_⟩
        have:k.toNat=a.length:=by omega
        rw [this,List.take_length,Nat.sub_self,List.replicate_zero,List.append_nil]) K (0,m) ⟨by simp,by simp,by
          simp only [Int.toNat_zero,List.take_zero,List.nil_append,Nat.sub_zero]
          apply List.ext_getElem?
          intro q
          rw [List.getElem?_set]
          split
          · rename_i hq; subst hq; exact hm
          · rfl⟩ (by simp; omega)
  rw [hr,hR]
theorem Apart_two (a b:List Int) (ha:a.length≤100000) (hb:b.length≤100000) (K:Nat) (hK:100010≤K):ps_Apart.f K [a,b]=some (true,[a,b]):=by
  have i0:iter (ps_Apart.r0 [a,b]) K ([],0)=some (.inl [a,b]):=by
    obtain ⟨k,rfl⟩:∃ k,K=k+3:=⟨K-3,by omega⟩
    have s0:ps_Apart.r0 [a,b] ([],0)=some (.inl ([a],1)):=by simp [ps_Apart.r0]; omega
    have s1:ps_Apart.r0 [a,b] ([a],1)=some (.inl ([a,b],2)):=by simp [ps_Apart.r0]; omega
    have s2:ps_Apart.r0 [a,b] ([a,b],2)=some (.inr (.inl [a,b])):=by simp [ps_Apart.r0]
    simp only [iter,s0,s1,s2]
  have f0:=apart_fill a 0 (by omega) [a,b] (by rfl) ha K (by omega)
  have f1:=apart_fill b 1 (by omega) [List.replicate a.length (IntKind.i64.wrap (-5-0)),b] (by rfl) hb K (by omega)
  have b0:=apart_back a 0 (by omega) [a,b] [List.replicate a.length (IntKind.i64.wrap (-5-0)),List.replicate b.length (IntKind.i64.wrap (-5-1))] (by rfl) (by rfl) ha K (by omega)
  have b1:=apart_back b 1 (by omega) [a,b] [a,List.replicate b.length (IntKind.i64.wrap (-5-1))] (by rfl) (by rfl) hb K (by omega)
  have w1:IntKind.i64.wrap (0+1)=1:=by decide
  have w2:IntKind.i64.wrap (1+1)=2:=by decide
  have i1:iter (ps_Apart.r1 K [a,b]) K (0,[a,b])=some (.inl [List.replicate a.length (IntKind.i64.wrap (-5-0)),List.replicate b.length (IntKind.i64.wrap (-5-1))]):=by
    have s0:ps_Apart.r1 K [a,b] (0,[a,b])=some (.inl (1,[List.replicate a.length (IntKind.i64.wrap (-5-0)),b])):=by
      have g:([a,b]:List (List Int))[(0:Int).toNat]?=some a:=rfl
      simp only [ps_Apart.r1,g,f0,w1]
      rw [if_pos (by simp),if_pos (by omega),if_pos (by omega)]
      rfl
    have s1:ps_Apart.r1 K [a,b] (1,[List.replicate a.length (IntKind.i64.wrap (-5-0)),b])=some (.inl (2,[List.replicate a.length (IntKind.i64.wrap (-5-0)),List.replicate b.length (IntKind.i64.wrap (-5-1))])):=by
      have g:([List.replicate a.length (IntKind.i64.wrap (-5-0)),b]:List (List Int))[(1:Int).toNat]?=some b:=rfl
      simp only [ps_Apart.r1,g,f1,w2]
      rw [if_pos (by simp),if_pos (by omega),if_pos (by omega)]
      rfl
    have s2:ps_Apart.r1 K [a,b] (2,[List.replicate a.length (IntKind.i64.wrap (-5-0)),List.replicate b.length (IntKind.i64.wrap (-5-1))])=some (.inr (.inl [List.replicate a.length (IntKind.i64.wrap (-5-0)),List.replicate b.length (IntKind.i64.wrap (-5-1))])):=by
      simp only [ps_Apart.r1]
      rw [if_neg (by simp)]
    clear f0 f1 b0 b1 i0
    generalize ps_Apart.r1 K [a,b]=f at s0 s1 s2
    obtain ⟨k,rfl⟩:∃ k,K=k+3:=⟨K-3,by omega⟩
    simp only [iter,s0,s1,s2]
  have i3:iter (ps_Apart.r3 K [a,b] [List.replicate a.length (IntKind.i64.wrap (-5-0)),List.replicate b.length (IntKind.i64.wrap (-5-1))]) K (0,[List.replicate a.length (IntKind.i64.wrap (-5-0)),List.replicate b.length (IntKind.i64.wrap (-5-1))])=some (.inl [a,b]):=by
    have s0:ps_Apart.r3 K [a,b] [List.replicate a.length (IntKind.i64.wrap (-5-0)),List.replicate b.length (IntKind.i64.wrap (-5-1))] (0,[List.replicate a.length (IntKind.i64.wrap (-5-0)),List.replicate b.length (IntKind.i64.wrap (-5-1))])=some (.inl (1,[a,List.replicate b.length (IntKind.i64.wrap (-5-1))])):=by
      have g:([List.replicate a.length (IntKind.i64.wrap (-5-0)),List.replicate b.length (IntKind.i64.wrap (-5-1))]:List (List Int))[(0:Int).toNat]?=some (List.replicate a.length (IntKind.i64.wrap (-5-0))):=rfl
      simp only [ps_Apart.r3,g,b0,w1]
      rw [if_pos (by simp),if_pos (by omega)]
      rfl
    have s1:ps_Apart.r3 K [a,b] [List.replicate a.length (IntKind.i64.wrap (-5-0)),List.replicate b.length (IntKind.i64.wrap (-5-1))] (1,[a,List.replicate b.length (IntKind.i64.wrap (-5-1))])=some (.inl (2,[a,b])):=by
      have g:([a,List.replicate b.length (IntKind.i64.wrap (-5-1))]:List (List Int))[(1:Int).toNat]?=some (List.replicate b.length (IntKind.i64.wrap (-5-1))):=rfl
      simp only [ps_Apart.r3,g,b1,w2]
      rw [if_pos (by simp),if_pos (by omega)]
      rfl
    have s2:ps_Apart.r3 K [a,b] [List.replicate a.length (IntKind.i64.wrap (-5-0)),List.replicate b.length (IntKind.i64.wrap (-5-1))] (2,[a,b])=some (.inr (.inl [a,b])):=by
      simp only [ps_Apart.r3]
      rw [if_neg (by simp)]
    clear f0 f1 b0 b1 i0 i1
    generalize ps_Apart.r3 K [a,b] [List.replicate a.length (IntKind.i64.wrap (-5-0)),List.replicate b.length (IntKind.i64.wrap (-5-1))]=f at s0 s1 s2
    obtain ⟨k,rfl⟩:∃ k,K=k+3:=⟨K-3,by omega⟩
    simp only [iter,s0,s1,s2]
  simp only [ps_Apart.f,i0,i1,i3]
theorem ModesResponds_law (l0:List SCrit) (ok0:∀ y ∈ l0,Ok.ok y):∃ K,ModesResponds.f K l0=some true:=by
  refine ⟨18446744073709551616,?_⟩
  have ha:turns.f 18446744073709551616=some true:=by kernel_rfl
  unfold ModesResponds.f
  simp only [ha,if_true]
  by_cases f0:few.f (l0.length:Int)=true
  · have g0:=few_true f0
    obtain ⟨r0,e0⟩:=ps_Lend_api_Crit_some l0 ⟨(-9),0,0,0,false,0⟩ g0
    have hst:=ps_Still_api_Crit_true l0 ⟨(-9),0,0,0,false,0⟩ 18446744073709551616 g0 (by omega)
    obtain ⟨f,hf,hfo⟩:=critCheck_eq l0 18446744073709551616 (by omega)
    obtain ⟨well,ill,g,hr,h1,h2⟩:=critResp_eq l0 18446744073709551616 (by omega)
    have hlen:well.length≤100000∧ill.length≤100000:=by
      by_cases hc:g.Code=0
      · obtain ⟨_,hok,e1,e2,_⟩:=h2 hc
        have:=hok.len
        omega
      · obtain ⟨e1,e2⟩:=h1 hc
        subst e1 e2
        simp
    have hap:=Apart_two well ill hlen.1 hlen.2 18446744073709551616 (by omega)
    have s1:=ps_Same_int_self well 18446744073709551616 (by omega)
    have s2:=ps_Same_int_self ill 18446744073709551616 (by omega)
    simp only [if_pos f0,e0,TwoResponses_eq l0 18446744073709551616 (by omega),CheckCrit_eq l0 18446744073709551616 (by omega),hr,hf,SFault.eqb_self,if_true,s1,s2,hap,hst]
  · simp only [if_neg f0]

end Go.Proofs.YtchcdadpahakfaaDoor.GV
