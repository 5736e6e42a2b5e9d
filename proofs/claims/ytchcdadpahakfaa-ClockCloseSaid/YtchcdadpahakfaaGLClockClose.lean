/- Plain words: GvLClockClose. -/
import Derived.Test.YtchcdadpahakfaaGWClockClose2
import Derived.Test.YtchcdadpahakfaaGv17
namespace Go.Proofs.Ytchcdadpahakfaa.GV
open Go Go.RowKit
set_option linter.unusedVariables false
set_option linter.unusedSimpArgs false
def letterAt (x:ByteArray) (i:Nat):Bool:=match x[i]? with | some b=>decide (97≤b.toNat) && decide (b.toNat≤122) | none=>false
def allL (x:ByteArray) (n:Nat):Bool:=(List.range n).all (letterAt x)
def Good (x:ByteArray):Prop:=1≤x.size∧x.size≤10∧allL x x.size=true
instance (x : ByteArray) : Decidable (Good x) := by unfold Good; infer_instance
theorem gmax_eq (x y:Int):gmax x y=max x y:=by unfold gmax; omega
theorem gmin_eq (x y:Int):gmin x y=min x y:=by unfold gmin; omega

theorem sorted_len (l:List Int):(List.mergeSort l (fun x y=>decide (x≤y))).length=l.length:=List.length_mergeSort l
theorem sorted_mem {l:List Int} {x:Int} {i:Nat} (h:(List.mergeSort l (fun x y=>decide (x≤y)))[i]?=some x):x ∈ l:=by
  have:=List.mem_of_getElem? h
  exact (List.mergeSort_perm l _).mem_iff.1 this
theorem heard_iter (l:List Int) (K:Nat) (hK:l.length<K):(iter (net_Middle.r1 l) K 0=some (.inl ())∧∀ x ∈ l,-1099511627776≤x∧x≤1099511627776) ∨ (iter (net_Middle.r1 l) K 0=some (.inr (0,3))∧¬ ∀ x ∈ l,-1099511627776≤x∧x≤1099511627776):=by
  have hit:=iter_first0 (ρ:=Int×Int) (τ:=Unit) (f:=net_Middle.r1 l) (fun i=>match l[i]? with | some x=>if x< -1099511627776 ∨ x > 1099511627776 then some (0,3) else none | none=>none) l.length (t:=()) (fun i hi=>by
    have hi':(i:Int)<(l.length:Int):=by omega
    have hx:l[i]?=some l[i]:=List.getElem?_eq_getElem hi
    simp only [net_Middle.r1,if_pos hi',hx]
    by_cases h1:l[i]< -1099511627776
    · rw [if_pos h1,if_pos (.inl h1)]; rfl
    · rw [if_neg h1]
      by_cases h2:l[i] > 1099511627776
      · rw [if_pos h2,if_pos (.inr h2)]; rfl
      · rw [if_neg h2,if_neg (by omega)]; rfl) (by simp [net_Middle.r1]) (K:=K) hK
  rw [hit]
  cases hf:firstOf (fun i=>match l[i]? with | some x=>if x< -1099511627776 ∨ x > 1099511627776 then some ((0,3):Int×Int) else none | none=>none) l.length 0 with
  | some r =>
    right
    obtain ⟨i,_,hi,hg,_⟩:=firstOf_some hf
    rw [List.getElem?_eq_getElem hi] at hg
    simp only at hg
    by_cases h:l[i]< -1099511627776 ∨ l[i] > 1099511627776
    · rw [if_pos h] at hg
      cases hg
      exact ⟨rfl,fun hall=>by have:=hall _ (List.getElem_mem hi); omega⟩
    · rw [if_neg h] at hg; cases hg
  | none =>
    left
    refine ⟨rfl,fun x hx=>?_⟩
    obtain ⟨i,hi,rfl⟩:=List.getElem_of_mem hx
    have:=firstOf_none hf i (Nat.zero_le _) hi
    simp only [List.getElem?_eq_getElem hi] at this
    by_cases h:l[i]< -1099511627776 ∨ l[i] > 1099511627776
    · rw [if_pos h] at this; cases this
    · omega
theorem Middle_is (l:List Int) (x:Int) (K:Nat) (hK:20≤K):(∃ r:Int,net_Middle.f K l x=some (0,r)∧r ≠ 0∧¬ (1≤l.length∧l.length≤10∧(∀ y ∈ l,-1099511627776≤y∧y≤1099511627776)∧0≤x∧3*x<(l.length:Int))) ∨
    ((1≤l.length∧l.length≤10∧(∀ y ∈ l,-1099511627776≤y∧y≤1099511627776)∧0≤x∧3*x<(l.length:Int))∧∃ a b:Int,(List.mergeSort l (fun x y=>decide (x≤y)))[x.toNat]?=some a∧(List.mergeSort l (fun x y=>decide (x≤y)))[l.length-1-x.toNat]?=some b∧(-1099511627776≤a∧a≤1099511627776)∧(-1099511627776≤b∧b≤1099511627776)∧net_Middle.f K l x=some (Int.fdiv (a+b) (2 ^ 1),0)):=by
  unfold net_Middle.f net_Middle.p0
  by_cases h1:(l.length:Int)<1
  · rw [if_pos h1]; exact .inl ⟨_,rfl,by decide,by omega⟩
  rw [if_neg h1]
  by_cases h2:(l.length:Int) > 10
  · rw [if_pos h2]; exact .inl ⟨_,rfl,by decide,by omega⟩
  rw [if_neg h2]
  simp only
  rcases heard_iter l K (by omega) with ⟨hr,hall⟩ | ⟨hr,hall⟩
  · rw [hr]
    simp only
    by_cases h3:x<0
    · rw [if_pos h3]; exact .inl ⟨_,rfl,by decide,by omega⟩
    rw [if_neg h3]
    by_cases h4:x > 10
    · rw [if_pos h4]; exact .inl ⟨_,rfl,by decide,by omega⟩
    rw [if_neg h4,wrap64_small (n:=3*x) (by omega) (by omega),wrap64_small (n:=3*x+1) (by omega) (by omega)]
    by_cases h5:(l.length:Int)<3*x+1
    · rw [if_pos h5]; exact .inl ⟨_,rfl,by decide,by omega⟩
    rw [if_neg h5,if_pos (show 1≤l.length by omega),if_pos (show l.length≤1000 by omega),if_pos (show 0≤x by omega),sorted_len]
    right
    refine ⟨⟨by omega,by omega,hall,by omega,by omega⟩,?_⟩
    have hs:=sorted_len l
    generalize hS:List.mergeSort l (fun x y=>decide (x≤y))=S at hs
    have ha:S[x.toNat]?=some (S[x.toNat]'(by omega)):=List.getElem?_eq_getElem _
    have hb:S[l.length-1-x.toNat]?=some (S[l.length-1-x.toNat]'(by omega)):=List.getElem?_eq_getElem _
    have ma:S[x.toNat]'(by omega) ∈ l:=sorted_mem (i:=x.toNat) (by rw [hS]; exact ha)
    have mb:S[l.length-1-x.toNat]'(by omega) ∈ l:=sorted_mem (i:=l.length-1-x.toNat) (by rw [hS]; exact hb)
    generalize S[x.toNat]'(by omega)=a at ha ma
    generalize S[l.length-1-x.toNat]'(by omega)=b at hb mb
    have ra:=hall a ma
    have rb:=hall b mb
    refine ⟨a,b,ha,hb,ra,rb,?_⟩
    rw [ha]
    simp only
    have e1:IntKind.i64.wrap (IntKind.i64.wrap ((l.length:Int)-1)-x)=(l.length:Int)-1-x:=by
      rw [wrap64_small (n:=(l.length:Int)-1) (by omega) (by omega),wrap64_small (by omega) (by omega)]
    have e2:((l.length:Int)-1-x).toNat=l.length-1-x.toNat:=by omega
    rw [e1,if_pos (by omega),e2,hb]
    simp only
    rw [wrap64_small (n:=a+b) (by omega) (by omega)]
  · rw [hr]; exact .inl ⟨_,rfl,by decide,fun h=>hall h.2.2.1⟩

theorem countP_pair {α:Type} {p q:α→Bool}:∀ {a b:List α},a.length=b.length→(∀ (k:Nat) (x y:α),a[k]?=some x→b[k]?=some y→q x=true→p y=true)→a.countP q≤b.countP p
  | [],[],_,_=>Nat.le_refl _
  | x::a,y::b,hl,h=>by
    have h1:=countP_pair (p:=p) (q:=q) (a:=a) (b:=b) (by simpa using hl) (fun k u v hu hv=>h (k+1) u v (by simpa using hu) (by simpa using hv))
    have h2:=h 0 x y (by simp) (by simp)
    rw [List.countP_cons,List.countP_cons]
    by_cases hx:q x=true
    · rw [if_pos hx,if_pos (h2 hx)]; omega
    · rw [if_neg hx]; omega
theorem sorted_le {S:List Int} (hS:S.Pairwise (·≤·)) {j k:Nat} {x y:Int} (hx:S[j]?=some x) (hy:S[k]?=some y) (h:j≤k):x≤y:=by
  by_cases e:j=k
  · subst e; rw [hx] at hy; cases hy; exact Int.le_refl _
  · have hj:=lt_of_get hx
    have hk:=lt_of_get hy
    have:=List.pairwise_iff_getElem.1 hS j k hj hk (by omega)
    rw [List.getElem?_eq_getElem hj] at hx
    rw [List.getElem?_eq_getElem hk] at hy
    cases hx; cases hy; exact this
theorem sorted_below {S:List Int} (hS:S.Pairwise (·≤·)) {j:Nat} {x v:Int} (hx:S[j]?=some x) (hc:j+1≤S.countP (fun y=>decide (y≤v))):x≤v:=by
  refine Int.not_lt.1 fun hv=>?_
  have e:S.countP (fun y=>decide (y≤v))=(S.take j).countP (fun y=>decide (y≤v))+(S.drop j).countP (fun y=>decide (y≤v)):=by rw [← List.countP_append,List.take_append_drop]
  have z:(S.drop j).countP (fun y=>decide (y≤v))=0:=by
    rw [List.countP_eq_zero]
    intro y hy
    obtain ⟨k,hk⟩:=List.mem_iff_getElem?.1 hy
    rw [List.getElem?_drop] at hk
    have:=sorted_le hS hx hk (by omega)
    simp; omega
  have l:=List.countP_le_length (p:=fun y=>decide (y≤v)) (l:=S.take j)
  rw [List.length_take] at l
  omega
theorem sorted_above {S:List Int} (hS:S.Pairwise (·≤·)) {j:Nat} {x v:Int} (hx:S[j]?=some x) (hc:S.length≤S.countP (fun y=>decide (v≤y))+j):v≤x:=by
  refine Int.not_lt.1 fun hv=>?_
  have hj:=lt_of_get hx
  have e:S.countP (fun y=>decide (v≤y))=(S.take (j+1)).countP (fun y=>decide (v≤y))+(S.drop (j+1)).countP (fun y=>decide (v≤y)):=by rw [← List.countP_append,List.take_append_drop]
  have z:(S.take (j+1)).countP (fun y=>decide (v≤y))=0:=by
    rw [List.countP_eq_zero]
    intro y hy
    obtain ⟨k,hk⟩:=List.mem_iff_getElem?.1 hy
    have hkj:k<j+1:=by have:=lt_of_get hk; rw [List.length_take] at this; omega
    rw [List.getElem?_take_of_lt hkj] at hk
    have:=sorted_le hS hk hx (by omega)
    simp; omega
  have l:=List.countP_le_length (p:=fun y=>decide (v≤y)) (l:=S.drop (j+1))
  rw [List.length_drop] at l
  omega
theorem mergeSort_le (l:List Int):(List.mergeSort l (fun x y=>decide (x≤y))).Pairwise (·≤·):=by
  have:=List.pairwise_mergeSort (le:=fun x y:Int=>decide (x≤y)) (fun a b c h1 h2=>by simp at *; omega) (fun a b=>by simp; omega) l
  exact this.imp (fun h=>by simpa using h)
theorem mergeSort_count (l:List Int) (p:Int→Bool):(List.mergeSort l (fun x y=>decide (x≤y))).countP p=l.countP p:=(List.mergeSort_perm l _).countP_eq p
theorem mid_exists (G:List Int) (f:Nat) (h:2*f+1≤G.length):∃ c ∈ G,f+1≤G.countP (fun y=>decide (y≤c))∧f+1≤G.countP (fun y=>decide (c≤y)):=by
  have hl:=sorted_len G
  have hp:=mergeSort_le G
  have c1:=mergeSort_count G
  have hm:∀ x,x ∈ List.mergeSort G (fun x y=>decide (x≤y))→x ∈ G:=fun x hx=>(List.mergeSort_perm G _).mem_iff.1 hx
  generalize List.mergeSort G (fun x y=>decide (x≤y))=T at hl hp c1 hm
  have hc:T[f]?=some (T[f]'(by omega)):=List.getElem?_eq_getElem _
  refine ⟨T[f]'(by omega),hm _ (List.getElem_mem _),?_,?_⟩
  · rw [← c1]
    generalize T[f]'(by omega)=c at hc
    have e:T.countP (fun y=>decide (y≤c))=(T.take (f+1)).countP (fun y=>decide (y≤c))+(T.drop (f+1)).countP (fun y=>decide (y≤c)):=by rw [← List.countP_append,List.take_append_drop]
    have z:(T.take (f+1)).countP (fun y=>decide (y≤c))=(T.take (f+1)).length:=by
      rw [List.countP_eq_length]
      intro y hy
      obtain ⟨k,hk⟩:=List.mem_iff_getElem?.1 hy
      have hkj:k<f+1:=by have:=lt_of_get hk; rw [List.length_take] at this; omega
      rw [List.getElem?_take_of_lt hkj] at hk
      have:=sorted_le hp hk hc (by omega)
      simpa using this
    rw [e,z,List.length_take]; omega
  · rw [← c1]
    generalize T[f]'(by omega)=c at hc
    have e:T.countP (fun y=>decide (c≤y))=(T.take f).countP (fun y=>decide (c≤y))+(T.drop f).countP (fun y=>decide (c≤y)):=by rw [← List.countP_append,List.take_append_drop]
    have z:(T.drop f).countP (fun y=>decide (c≤y))=(T.drop f).length:=by
      rw [List.countP_eq_length]
      intro y hy
      obtain ⟨k,hk⟩:=List.mem_iff_getElem?.1 hy
      rw [List.getElem?_drop] at hk
      have:=sorted_le hp hc hk (by omega)
      simpa using this
    rw [e,z,List.length_drop]; omega
structure HeardOk (now : List Int) (good : Nat) (most : Int) (l : List Int) : Prop where
  len:l.length=now.length
  near:∀ (k:Nat) (x y:Int),k<good→now[k]?=some x→l[k]?=some y→x-most≤y∧y≤x+most
  small:∀ y ∈ l,-1099511627776≤y∧y≤1099511627776
theorem heard_mid {now:List Int} {f:Nat} {most:Int} {l:List Int} {L H c a b:Int} (hn:3*f+1≤now.length) (h:HeardOk now (now.length-f) most l) (hL:∀ x ∈ now.take (now.length-f),L≤x∧x≤H)
    (hc1:f+1≤(now.take (now.length-f)).countP (fun y=>decide (y≤c))) (hc2:f+1≤(now.take (now.length-f)).countP (fun y=>decide (c≤y)))
    (ha:(List.mergeSort l (fun x y=>decide (x≤y)))[f]?=some a) (hb:(List.mergeSort l (fun x y=>decide (x≤y)))[l.length-1-f]?=some b) :
    (L-most≤a∧a≤c+most)∧(c-most≤b∧b≤H+most):=by
  have hs:=mergeSort_le l
  have hl:=sorted_len l
  have hcnt:=mergeSort_count l
  generalize List.mergeSort l (fun x y=>decide (x≤y))=S at *
  have hlen:=h.len
  have pre:∀ p:Int→Bool,(l.take (now.length-f)).countP p≤l.countP p:=fun p=>by
    have e:l.countP p=(l.take (now.length-f)).countP p+(l.drop (now.length-f)).countP p:=by rw [← List.countP_append,List.take_append_drop]
    omega
  have tk:∀ (q p:Int→Bool),(∀ x y,x ∈ now.take (now.length-f)→x-most≤y→y≤x+most→q x=true→p y=true)→(now.take (now.length-f)).countP q≤S.countP p:=fun q p hqp=>by
    rw [hcnt]
    refine Nat.le_trans (countP_pair (p:=p) (q:=q) (a:=now.take (now.length-f)) (b:=l.take (now.length-f)) (by rw [List.length_take,List.length_take]; omega) (fun k x y hx hy hq=>?_)) (pre p)
    have hk:k<now.length-f:=by have:=lt_of_get hx; rw [List.length_take] at this; omega
    have hm:x ∈ now.take (now.length-f):=List.mem_of_getElem? hx
    rw [List.getElem?_take_of_lt hk] at hx hy
    obtain ⟨g1,g2⟩:=h.near k x y hk hx hy
    exact hqp x y hm g1 g2 hq
  have all:(now.take (now.length-f)).countP (fun _=>true)=now.length-f:=by rw [List.countP_true,List.length_take]; omega
  refine ⟨⟨?_,?_⟩,?_,?_⟩
  · refine sorted_above hs ha ?_
    have:=tk (fun _=>true) (fun y=>decide (L-most≤y)) (fun x y hm g1 g2 _=>by have:=hL x hm; simp; omega)
    omega
  · refine sorted_below hs ha ?_
    have:=tk (fun y=>decide (y≤c)) (fun y=>decide (y≤c+most)) (fun x y hm g1 g2 hq=>by simp at hq ⊢; omega)
    omega
  · refine sorted_above hs hb ?_
    have:=tk (fun y=>decide (c≤y)) (fun y=>decide (c-most≤y)) (fun x y hm g1 g2 hq=>by simp at hq ⊢; omega)
    omega
  · refine sorted_below hs hb ?_
    have:=tk (fun _=>true) (fun y=>decide (y≤H+most)) (fun x y hm g1 g2 _=>by have:=hL x hm; simp; omega)
    omega
theorem tmod_near (v m:Int) (hm:0≤m):-m≤Int.tmod v (m+1)∧Int.tmod v (m+1)≤m:=by
  have h1:=Int.tmod_lt_of_pos v (show 0<m+1 by omega)
  have h2:=Int.tmod_lt_of_pos (-v) (show 0<m+1 by omega)
  rw [Int.neg_tmod] at h2
  omega
theorem at_some (l:List Int) (k:Int) (hk:0≤k):∃ v,ClockClose_2.f l k=some v:=by
  unfold ClockClose_2.f
  by_cases h:(l.length:Int)=0
  · rw [if_pos h]; exact ⟨_,rfl⟩
  · rw [if_neg h]
    have h1:=Int.tmod_nonneg (l.length:Int) hk
    have h2:=Int.tmod_lt_of_pos k (show (0:Int)<(l.length:Int) by omega)
    rw [if_pos h1,List.getElem?_eq_getElem (show (Int.tmod k (l.length:Int)).toNat<l.length by omega)]
    exact ⟨_,rfl⟩
theorem near_some (v m:Int) (hm:0≤m∧m≤1000):∃ d,ClockClose_1.f v m=some d∧-m≤d∧d≤m:=by
  unfold ClockClose_1.f
  rw [wrap64_small (n:=m+1) (by omega) (by omega),if_neg (by omega)]
  exact ⟨_,rfl,tmod_near v m hm.1⟩
theorem apart_eq (now:List Int) (good:Nat) (h1:1≤good) (h2:good≤now.length) (h3:now.length≤10) (hb:∀ x ∈ now,-2000000≤x∧x≤2000000) (K:Nat) (hK:20≤K) :
    ∃ L H:Int,ClockClose_3.f K now (good:Int)=some (H-L)∧(∀ x ∈ now.take good,L≤x∧x≤H)∧L ∈ now.take good∧H ∈ now.take good:=by
  unfold ClockClose_3.f
  have hx0:now[0]?=some (now[0]'(by omega)):=List.getElem?_eq_getElem _
  have hl:((now.take good).drop 0).length=good:=by rw [List.drop_zero,List.length_take]; omega
  rw [hx0]
  simp only
  rw [if_pos (by omega),Int.toNat_natCast,if_pos h2]
  have hmem0:now[0]'(by omega) ∈ now.take good:=List.mem_of_getElem? (i:=0) (by rw [List.getElem?_take_of_lt (by omega)]; exact hx0)
  generalize now[0]'(by omega)=x0 at hx0 hmem0
  obtain ⟨r,hr,hR⟩:=iter_total (f:=ClockClose_3.r0 now (good:Int)) (fun s=>s.2.2≤good∧s.1 ∈ now.take good∧s.2.1 ∈ now.take good∧s.1≤s.2.1∧∀ (k:Nat) (x:Int),k<s.2.2→(now.take good)[k]?=some x→s.1≤x∧x≤s.2.1) (fun s=>good-s.2.2)
    (fun r=>∃ L H:Int,r=.inl (L,H)∧(∀ x ∈ now.take good,L≤x∧x≤H)∧L ∈ now.take good∧H ∈ now.take good) (fun s hs=>by
      obtain ⟨a,b,i⟩:=s
      obtain ⟨g0,g1,g2,g3,g4⟩:=hs
      simp only at g0 g1 g2 g3 g4
      simp only [ClockClose_3.r0,Int.toNat_natCast,hl]
      by_cases hi:i<good
      · left
        rw [if_pos (by omega),List.drop_zero]
        have hx:(now.take good)[i]?=some ((now.take good)[i]'(by rw [List.length_take]; omega)):=List.getElem?_eq_getElem _
        generalize (now.take good)[i]'(by rw [List.length_take]; omega)=x at hx
        have hm:=List.mem_of_getElem? hx
        rw [hx]
        refine ⟨_,rfl,⟨by simp only; omega,?_,?_,?_,fun k y hk hy=>?_⟩,by simp only; omega⟩
        · simp only [gmin_eq]; rcases Int.le_total a x with h | h
          · rw [Int.min_eq_left h]; exact g1
          · rw [Int.min_eq_right h]; exact hm
        · simp only [gmax_eq]; rcases Int.le_total b x with h | h
          · rw [Int.max_eq_right h]; exact hm
          · rw [Int.max_eq_left h]; exact g2
        · simp only [gmin_eq,gmax_eq]; omega
        · simp only [gmin_eq,gmax_eq]
          simp only at hk
          by_cases e:k=i
          · subst e; rw [hx] at hy; cases hy; omega
          · have:=g4 k y (by omega) hy; omega
      · right
        rw [if_neg (by omega)]
        refine ⟨_,rfl,a,b,rfl,fun x hx=>?_,g1,g2⟩
        obtain ⟨k,hk⟩:=List.mem_iff_getElem?.1 hx
        have:=lt_of_get hk
        rw [List.length_take] at this
        exact g4 k x (by omega) hk) K (x0,x0,0) ⟨Nat.zero_le _,hmem0,hmem0,Int.le_refl _,fun k x hk=>absurd hk (Nat.not_lt_zero _)⟩ (by simp only; omega)
  obtain ⟨L,H,rfl,hA,hLm,hHm⟩:=hR
  rw [hr]
  refine ⟨L,H,?_,hA,hLm,hHm⟩
  have b1:=hb L (List.mem_of_mem_take hLm)
  have b2:=hb H (List.mem_of_mem_take hHm)
  simp only
  rw [wrap64_small (by omega) (by omega)]

theorem heard_eq (l0:List Int) (f:Nat) (l2:List (List Int)) (m z:Int) (now:List Int) (i:Nat) (hn:1≤l0.length∧l0.length≤10) (hf:f≤l0.length) (hm:0≤m∧m≤1000) (hz:0≤z∧z≤20) (hi:i≤10) (hnow:now.length=l0.length) (hb:∀ x ∈ now,-2000000≤x∧x≤2000000) (K:Nat) (hK:20≤K) :
    ∃ l,iter (ClockClose.r4 l0 (f:Int) l2 m z now i) K ([],0)=some (.inl l)∧HeardOk now (now.length-f) m l:=by
  have hg:IntKind.i64.wrap ((l0.length:Int)-(f:Int))=((l0.length-f:Nat):Int):=by rw [wrap64_small (by omega) (by omega)]; omega
  obtain ⟨r,hr,hR⟩:=iter_total (f:=ClockClose.r4 l0 (f:Int) l2 m z now i) (fun s=>s.2≤l0.length∧s.1.length=s.2∧(∀ (k:Nat) (x y:Int),k<s.2→k<now.length-f→now[k]?=some x→s.1[k]?=some y→x-m≤y∧y≤x+m)∧∀ y ∈ s.1,-1099511627776≤y∧y≤1099511627776) (fun s=>l0.length-s.2)
    (fun r=>∃ l,r=.inl l∧HeardOk now (now.length-f) m l) (fun s hs=>by
      obtain ⟨l,j⟩:=s
      obtain ⟨g0,g1,g2,g3⟩:=hs
      simp only at g0 g1 g2 g3
      simp only [ClockClose.r4,hg]
      by_cases hj:j<l0.length
      · left
        rw [if_pos (show (j:Int)<(l0.length:Int) by omega)]
        have hx:now[j]?=some (now[j]'(by omega)):=List.getElem?_eq_getElem _
        have hxm:=hb _ (List.getElem_mem (show j<now.length by omega))
        generalize now[j]'(by omega)=x at hx hxm
        have push:∀ y:Int,(j<now.length-f→x-m≤y∧y≤x+m)→(-1099511627776≤y∧y≤1099511627776)→(j+1≤l0.length∧(l++[y]).length=j+1∧(∀ (k:Nat) (x y':Int),k<j+1→k<now.length-f→now[k]?=some x→(l++[y])[k]?=some y'→x-m≤y'∧y'≤x+m)∧∀ y' ∈ l++[y],-1099511627776≤y'∧y'≤1099511627776):=fun y h1 h2=>by
          refine ⟨by omega,by simp; omega,fun k x' y' hk hkf hx' hy'=>?_,fun y' hy'=>?_⟩
          · by_cases e:k=j
            · subst e
              rw [hx] at hx'; cases hx'
              rw [List.getElem?_append_right (by omega),g1,Nat.sub_self] at hy'
              cases hy'
              exact h1 hkf
            · rw [List.getElem?_append_left (by omega)] at hy'
              exact g2 k x' y' (by omega) hkf hx' hy'
          · rcases List.mem_append.1 hy' with h | h
            · exact g3 y' h
            · rw [List.mem_singleton.1 h]; exact h2
        have goodv:∀ v:Int,j<now.length-f→∃ d,ClockClose_1.f v m=some d∧IntKind.i64.wrap (x+d)=x+d∧-m≤d∧d≤m:=fun v _=>by
          obtain ⟨d,hd,h1,h2⟩:=near_some v m hm
          exact ⟨d,hd,wrap64_small (by omega) (by omega),h1,h2⟩
        have liar:∀ v:Int,-1099511627776≤Int.tmod v 549755813888∧Int.tmod v 549755813888≤1099511627776:=fun v=>by
          have:=tmod_near v 549755813887 (by decide)
          have e:(549755813887:Int)+1=549755813888:=by decide
          rw [e] at this; omega
        by_cases hl2:(l2.length:Int) > 0
        · rw [if_pos hl2,if_neg (by omega)]
          have w1:IntKind.i64.wrap (z*(l0.length:Int))=z*(l0.length:Int):=by
            have:z*(l0.length:Int)≤20*10:=Int.mul_le_mul hz.2 (by omega) (by omega) (by omega)
            have:0≤z*(l0.length:Int):=Int.mul_nonneg hz.1 (by omega)
            exact wrap64_small (by omega) (by omega)
          have w3:z*(l0.length:Int)≤20*10:=Int.mul_le_mul hz.2 (by omega) (by omega) (by omega)
          have w2:0≤z*(l0.length:Int)∧z*(l0.length:Int)≤200:=⟨Int.mul_nonneg hz.1 (by omega),by omega⟩
          rw [w1,wrap64_small (n:=z*(l0.length:Int)+(i:Int)) (by omega) (by omega)]
          have t1:=Int.tmod_nonneg (l2.length:Int) (show 0≤z*(l0.length:Int)+(i:Int) by omega)
          have t2:=Int.tmod_lt_of_pos (z*(l0.length:Int)+(i:Int)) hl2
          rw [if_pos t1,List.getElem?_eq_getElem (show (Int.tmod (z*(l0.length:Int)+(i:Int)) (l2.length:Int)).toNat<l2.length by omega)]
          simp only
          obtain ⟨v,hv⟩:=at_some (l2[(Int.tmod (z*(l0.length:Int)+(i:Int)) (l2.length:Int)).toNat]'(by omega)) (j:Int) (by omega)
          rw [hv]
          simp only
          by_cases hgd:j<l0.length-f
          · obtain ⟨d,hd,hw,d1,d2⟩:=goodv v (by omega)
            rw [if_pos (by omega),hx]
            simp only [hd,hw]
            rw [if_pos (by omega)]
            exact ⟨_,rfl,push _ (fun _=>by omega) (by omega),by simp only; omega⟩
          · rw [if_neg (by omega),if_pos (by omega)]
            exact ⟨_,rfl,push _ (fun h=>by omega) (liar v),by simp only; omega⟩
        · rw [if_neg hl2]
          by_cases hgd:j<l0.length-f
          · obtain ⟨d,hd,hw,d1,d2⟩:=goodv 0 (by omega)
            rw [if_pos (by omega),hx]
            simp only [hd,hw]
            rw [if_pos (by omega)]
            exact ⟨_,rfl,push _ (fun _=>by omega) (by omega),by simp only; omega⟩
          · rw [if_neg (by omega),if_pos (by omega)]
            exact ⟨_,rfl,push _ (fun h=>by omega) (liar 0),by simp only; omega⟩
      · right
        rw [if_neg (by omega)]
        refine ⟨_,rfl,l,rfl,⟨by omega,fun k x y hk hx hy=>?_,g3⟩⟩
        have:=lt_of_get hx
        exact g2 k x y (by omega) hk hx hy) K ([],0) ⟨Nat.zero_le _,rfl,fun k x y hk=>absurd hk (Nat.not_lt_zero _),by simp⟩ (by simp only; omega)
  obtain ⟨l,rfl,hl⟩:=hR
  exact ⟨l,hr,hl⟩
theorem all_heard (l0:List Int) (f:Nat) (l2:List (List Int)) (m:Int) (l4:List Int) (w z:Int) (now:List Int) (hn:1≤l0.length∧l0.length≤10) (hf:f≤l0.length) (hm:0≤m∧m≤1000) (hw:0≤w∧w≤1000) (hz:0≤z∧z≤20) (hnow:now.length=l0.length) (hb:∀ x ∈ now,-2000000≤x∧x≤2000000) (K:Nat) (hK:20≤K) :
    ∃ h o,iter (ClockClose.r3 K l0 (f:Int) l2 m l4 w z now) K ([],[],0)=some (.inl (h,o))∧h.length=l0.length∧o.length=l0.length∧(∀ l ∈ h,HeardOk now (now.length-f) m l)∧∀ d ∈ o,-w≤d∧d≤w:=by
  obtain ⟨r,hr,hR⟩:=iter_total (f:=ClockClose.r3 K l0 (f:Int) l2 m l4 w z now) (fun s=>s.2.2≤l0.length∧s.1.length=s.2.2∧s.2.1.length=s.2.2∧(∀ l ∈ s.1,HeardOk now (now.length-f) m l)∧∀ d ∈ s.2.1,-w≤d∧d≤w) (fun s=>l0.length-s.2.2)
    (fun r=>∃ h o,r=.inl (h,o)∧h.length=l0.length∧o.length=l0.length∧(∀ l ∈ h,HeardOk now (now.length-f) m l)∧∀ d ∈ o,-w≤d∧d≤w) (fun s hs=>by
      obtain ⟨h,o,i⟩:=s
      obtain ⟨g0,g1,g2,g3,g4⟩:=hs
      simp only at g0 g1 g2 g3 g4
      simp only [ClockClose.r3]
      by_cases hi:i<l0.length
      · left
        rw [if_pos (show (i:Int)<(l0.length:Int) by omega)]
        obtain ⟨l,hl,hok⟩:=heard_eq l0 f l2 m z now i hn hf hm hz (by omega) hnow hb K hK
        rw [hl]
        simp only
        rw [if_pos (by omega)]
        have w3:z*(l0.length:Int)≤20*10:=Int.mul_le_mul hz.2 (by omega) (by omega) (by omega)
        have w2:0≤z*(l0.length:Int)∧z*(l0.length:Int)≤200:=⟨Int.mul_nonneg hz.1 (by omega),by omega⟩
        rw [wrap64_small (n:=z*(l0.length:Int)) (by omega) (by omega),wrap64_small (n:=z*(l0.length:Int)+(i:Int)) (by omega) (by omega)]
        obtain ⟨v,hv⟩:=at_some l4 (z*(l0.length:Int)+(i:Int)) (by omega)
        obtain ⟨d,hd,d1,d2⟩:=near_some v w hw
        rw [hv]
        simp only [hd]
        rw [if_pos (by omega)]
        refine ⟨_,rfl,⟨by simp only; omega,by simp; omega,by simp; omega,fun l' hl'=>?_,fun d' hd'=>?_⟩,by simp only; omega⟩
        · rcases List.mem_append.1 hl' with h | h
          · exact g3 l' h
          · rw [List.mem_singleton.1 h]; exact hok
        · rcases List.mem_append.1 hd' with h | h
          · exact g4 d' h
          · rw [List.mem_singleton.1 h]; exact ⟨d1,d2⟩
      · right
        rw [if_neg (by omega)]
        exact ⟨_,rfl,h,o,rfl,by omega,by omega,g3,g4⟩) K ([],[],0) ⟨Nat.zero_le _,rfl,rfl,by simp,by simp⟩ (by simp only; omega)
  obtain ⟨h,o,rfl,h1,h2,h3,h4⟩:=hR
  exact ⟨h,o,hr,h1,h2,h3,h4⟩
theorem round_eq (now:List Int) (f:Nat) (m w L H c:Int) (h:List (List Int)) (o:List Int) (hn:1≤now.length∧now.length≤10) (hf:3*f+1≤now.length) (hm:0≤m∧m≤1000) (hw:0≤w∧w≤1000) (hh:h.length=now.length) (ho:o.length=now.length) (hok:∀ l ∈ h,HeardOk now (now.length-f) m l) (hod:∀ d ∈ o,-w≤d∧d≤w)
    (hL:∀ x ∈ now.take (now.length-f),L≤x∧x≤H) (hLb:-2000000≤L∧H≤2000000) (hc1:f+1≤(now.take (now.length-f)).countP (fun y=>decide (y≤c))) (hc2:f+1≤(now.take (now.length-f)).countP (fun y=>decide (c≤y))) (hcb:L≤c∧c≤H) (K:Nat) (hK:20≤K) :
    ∃ out,net_Round.f K h (f:Int) o=some (out,⟨0,0⟩)∧out.length=now.length∧∀ y ∈ out,∃ a b d:Int,y=(a+b) / 2+d∧(L-m≤a∧a≤c+m)∧(c-m≤b∧b≤H+m)∧(-w≤d∧d≤w):=by
  unfold net_Round.f net_Round.p0
  rw [if_neg (by omega),if_neg (by omega),if_pos (by omega)]
  simp only
  obtain ⟨r,hr,hR⟩:=iter_total (f:=net_Round.r1 K h (f:Int) o) (fun s=>0≤s.2∧s.2≤(h.length:Int)∧(s.1.length:Int)=s.2∧∀ y ∈ s.1,∃ a b d:Int,y=(a+b) / 2+d∧(L-m≤a∧a≤c+m)∧(c-m≤b∧b≤H+m)∧(-w≤d∧d≤w)) (fun s=>h.length-s.2.toNat)
    (fun r=>∃ out:List Int,r=.inl out∧out.length=now.length∧∀ y ∈ out,∃ a b d:Int,y=(a+b) / 2+d∧(L-m≤a∧a≤c+m)∧(c-m≤b∧b≤H+m)∧(-w≤d∧d≤w)) (fun s hs=>by
      obtain ⟨q,z⟩:=s
      obtain ⟨g0,g1,g2,g3⟩:=hs
      simp only at g0 g1 g2 g3
      simp only [net_Round.r1]
      by_cases hz:z<(h.length:Int)
      · left
        rw [if_pos hz,if_pos g0]
        have hx:h[z.toNat]?=some (h[z.toNat]'(by omega)):=List.getElem?_eq_getElem _
        have hd:o[z.toNat]?=some (o[z.toNat]'(by omega)):=List.getElem?_eq_getElem _
        have hlo:=hok _ (List.getElem_mem (show z.toNat<h.length by omega))
        have hdo:=hod _ (List.getElem_mem (show z.toNat<o.length by omega))
        generalize h[z.toNat]'(by omega)=e at hx hlo
        generalize o[z.toNat]'(by omega)=d at hd hdo
        have hel:=hlo.len
        rw [hx]
        have hp2:net_Round.p2 h o z e=some (.inl false):=by
          unfold net_Round.p2
          rw [if_pos (by omega),hd]
          simp only
          rw [if_neg (by omega),decide_eq_false (by omega)]
        simp only [hp2,Bool.false_eq_true,if_false]
        rcases Middle_is e (f:Int) K hK with ⟨_,_,_,hno⟩ | ⟨_,a,b,ha,hb,ra,rb,hM⟩
        · exact absurd ⟨by omega,by omega,hlo.small,by omega,by omega⟩ hno
        · rw [Int.toNat_natCast] at ha hb
          obtain ⟨m1,m2⟩:=heard_mid (H:=H) (L:=L) (c:=c) hf hlo hL hc1 hc2 ha hb
          have e0:(2:Int) ^ 1=2:=by decide
          rw [e0,Int.fdiv_eq_ediv_of_nonneg _ (by decide)] at hM
          rw [hM]
          simp only [if_true,hd]
          rw [if_pos (by omega),wrap64_small (n:=(a+b) / 2+d) (by omega) (by omega),wrap64_small (n:=z+1) (by omega) (by omega)]
          refine ⟨_,rfl,⟨by simp only; omega,by simp only; omega,by simp only [List.length_append,List.length_cons,List.length_nil]; omega,fun y hy=>?_⟩,by simp only; omega⟩
          rcases List.mem_append.1 hy with h | h
          · exact g3 y h
          · rw [List.mem_singleton.1 h]; exact ⟨a,b,d,rfl,m1,m2,hdo⟩
      · right
        rw [if_neg hz]
        exact ⟨_,rfl,q,rfl,by omega,g3⟩) K ([],0) ⟨by simp,by simp,by simp,by simp⟩ (by simp only; omega)
  obtain ⟨out,rfl,h1,h2⟩:=hR
  rw [hr]
  exact ⟨out,rfl,h1,h2⟩
theorem liars_zero (l0 out:List Int) (good:Nat) (hg:good≤l0.length) (ho:out.length=l0.length) (hl:l0.length≤10) (K:Nat) (hK:20≤K) :
    ∃ q,iter (ClockClose.r6 l0) K ((good:Int),out)=some (.inl q)∧q.length=l0.length∧q.take good=out.take good∧∀ x ∈ q,x ∈ out ∨ x=0:=by
  obtain ⟨r,hr,hR⟩:=iter_total (f:=ClockClose.r6 l0) (fun s=>(good:Int)≤s.1∧s.1≤(l0.length:Int)∧s.2.length=l0.length∧s.2.take good=out.take good∧∀ x ∈ s.2,x ∈ out ∨ x=0) (fun s=>l0.length-s.1.toNat)
    (fun r=>∃ q,r=.inl q∧q.length=l0.length∧q.take good=out.take good∧∀ x ∈ q,x ∈ out ∨ x=0) (fun s hs=>by
      obtain ⟨z,q⟩:=s
      obtain ⟨g0,g1,g2,g3,g4⟩:=hs
      simp only at g0 g1 g2 g3 g4
      simp only [ClockClose.r6]
      by_cases hz:z<(l0.length:Int)
      · left
        rw [if_pos hz,if_pos (by omega),List.getElem?_eq_getElem (show z.toNat<q.length by omega)]
        simp only
        rw [wrap64_small (n:=z+1) (by omega) (by omega)]
        refine ⟨_,rfl,⟨by simp only; omega,by simp only; omega,by simp only [List.length_set]; omega,?_,fun x hx=>?_⟩,by simp only; omega⟩
        · simp only
          rw [← g3]
          apply List.ext_getElem?
          intro k
          by_cases hk:k<good
          · rw [List.getElem?_take_of_lt hk,List.getElem?_take_of_lt hk,List.getElem?_set_ne (by omega)]
          · rw [List.getElem?_take_eq_none (by omega),List.getElem?_take_eq_none (by omega)]
        · simp only at hx
          rcases List.mem_or_eq_of_mem_set hx with h | h
          · exact g4 x h
          · exact .inr h
      · right
        rw [if_neg hz]
        exact ⟨_,rfl,q,rfl,g2,g3,g4⟩) K ((good:Int),out) ⟨by simp only; omega,by simp only; omega,ho,rfl,fun x hx=>.inl hx⟩ (by simp only; omega)
  obtain ⟨q,rfl,h⟩:=hR
  exact ⟨q,hr,h⟩
theorem ClockClose_law (l0:List Int) (x1:Int) (l2:List (List Int)) (x3:Int) (l4:List Int) (x5 x6:Int) (ok0:∀ y ∈ l0,Ok.ok y) (ok1:In64 x1) (ok2:∀ l ∈ l2,∀ y ∈ l,Ok.ok y) (ok3:In64 x3) (ok4:∀ y ∈ l4,Ok.ok y) (ok5:In64 x5) (ok6:In64 x6):∃ K,ClockClose.f K l0 x1 l2 x3 l4 x5 x6=some true:=by
  refine ⟨18446744073709551616,?_⟩
  have ha:middle.f 18446744073709551616=some true:=by
    unfold middle.f
    rcases Middle_is [10,12,11,1000] 1 18446744073709551616 (by decide) with ⟨r,_,_,hno⟩ | ⟨_,a,b,h1,h2,_,_,h3⟩
    · exact absurd ⟨by decide,by decide,by decide,by decide,by decide⟩ hno
    · have hm:List.mergeSort [10,12,11,1000] (fun x y:Int=>decide (x≤y))=[10,11,12,1000]:=by simp [List.mergeSort,List.MergeSort.Internal.splitInTwo,List.splitAt,List.splitAt.go]
      rw [hm] at h1 h2
      simp at h1 h2
      subst h1 h2
      rw [h3]
      rfl
  have hK:100≤18446744073709551616:=by decide
  generalize (18446744073709551616:Nat)=K at *
  simp only [ClockClose.f,ha,if_true,ClockClose.p0]
  by_cases c1:(l0.length:Int)<1
  · simp only [if_pos c1]
  simp only [if_neg c1]
  by_cases c2:(l0.length:Int) > 10
  · simp only [if_pos c2]
  simp only [if_neg c2]
  by_cases c3:x1<0
  · simp only [if_pos c3]
  simp only [if_neg c3]
  by_cases c4:x1 > (l0.length:Int)
  · simp only [if_pos c4]
  simp only [if_neg c4]
  rw [wrap64_small (n:=3*x1) (by omega) (by omega),wrap64_small (n:=3*x1+1) (by omega) (by omega)]
  by_cases c5:(l0.length:Int)<3*x1+1
  · simp only [if_pos c5]
  simp only [if_neg c5]
  by_cases c6:x3<0
  · simp only [if_pos c6]
  simp only [if_neg c6]
  by_cases c7:x3 > 1000
  · simp only [if_pos c7]
  simp only [if_neg c7]
  by_cases c8:x5<0
  · simp only [if_pos c8]
  simp only [if_neg c8]
  by_cases c9:x5 > 1000
  · simp only [if_pos c9]
  simp only [if_neg c9]
  by_cases c10:x6<0
  · simp only [if_pos c10]
  simp only [if_neg c10]
  by_cases c11:x6 > 20
  · simp only [if_pos c11]
  simp only [if_neg c11]
  obtain ⟨f,rfl⟩:∃ f:Nat,x1=(f:Int):=⟨x1.toNat,by omega⟩
  rw [if_pos (show l0.length≤17592186044416 by omega)]
  have hgw:IntKind.i64.wrap ((l0.length:Int)-(f:Int))=((l0.length-f:Nat):Int):=by rw [wrap64_small (by omega) (by omega)]; omega
  -- at first
  obtain ⟨n0,hn0,hl0,hb0⟩:∃ n0,iter (ClockClose.r1 l0) K (0,List.replicate l0.length 0)=some (.inl n0)∧n0.length=l0.length∧∀ x ∈ n0,-1000000≤x∧x≤1000000:=by
    obtain ⟨r,hr,hR⟩:=iter_total (f:=ClockClose.r1 l0) (fun s=>s.1≤l0.length∧s.2.length=l0.length∧∀ x ∈ s.2,-1000000≤x∧x≤1000000) (fun s=>l0.length-s.1) (fun r=>∃ q,r=.inl q∧q.length=l0.length∧∀ x ∈ q,-1000000≤x∧x≤1000000) (fun s hs=>by
      obtain ⟨i,q⟩:=s
      obtain ⟨g0,g1,g2⟩:=hs
      simp only at g0 g1 g2
      simp only [ClockClose.r1]
      by_cases hi:i<l0.length
      · left
        rw [if_pos (by omega),List.getElem?_eq_getElem hi,List.getElem?_eq_getElem (show i<q.length by omega)]
        refine ⟨_,rfl,⟨by simp only; omega,by simp only [List.length_set]; omega,fun x hx=>?_⟩,by simp only; omega⟩
        rcases List.mem_or_eq_of_mem_set hx with h | h
        · exact g2 x h
        · have:=tmod_near l0[i] 999999 (by decide)
          have e:(999999:Int)+1=1000000:=by decide
          rw [e] at this
          omega
      · right
        rw [if_neg (by omega)]
        exact ⟨_,rfl,q,rfl,g1,g2⟩) K (0,List.replicate l0.length 0) ⟨Nat.zero_le _,by simp,fun x hx=>by rw [(List.mem_replicate.1 hx).2]; omega⟩ (by simp only; omega)
    obtain ⟨q,rfl,h⟩:=hR
    exact ⟨q,hr,h⟩
  rw [hn0]
  simp only [hgw]
  obtain ⟨L0,H0,e0,a0,-,-⟩:=apart_eq n0 (l0.length-f) (by omega) (by omega) (by omega) (fun x hx=>by have:=hb0 x hx; omega) K (by omega)
  rw [e0]
  simp only
  have w4:IntKind.i64.wrap (IntKind.i64.wrap (IntKind.i64.wrap (4*x3)+IntKind.i64.wrap (4*x5))+1)=4*x3+4*x5+1:=by
    rw [wrap64_small (n:=4*x3) (by omega) (by omega),wrap64_small (n:=4*x5) (by omega) (by omega),wrap64_small (n:=4*x3+4*x5) (by omega) (by omega),wrap64_small (by omega) (by omega)]
  obtain ⟨r,hr,hR⟩:=iter_total (f:=ClockClose.r2 K l0 (f:Int) l2 x3 l4 x5 x6 (H0-L0)) (fun s=>0≤s.1∧s.1≤x6∧s.2.length=l0.length∧(∀ x ∈ s.2,-(1000000+2000*s.1)≤x∧x≤1000000+2000*s.1)∧∀ x y,x ∈ s.2.take (l0.length-f)→y ∈ s.2.take (l0.length-f)→y-x≤gmax (H0-L0) (4*x3+4*x5+1)) (fun s=>(x6-s.1).toNat) (fun r=>r=.inl ()) (fun s hs=>by
    obtain ⟨z,now⟩:=s
    obtain ⟨g0,g1,g2,g3,g4⟩:=hs
    simp only at g0 g1 g2 g3 g4
    simp only [ClockClose.r2,hgw,w4]
    by_cases hz:z<x6
    · left
      rw [if_pos hz]
      have hb:∀ x ∈ now,-2000000≤x∧x≤2000000:=fun x hx=>by have:=g3 x hx; omega
      obtain ⟨h,o,hho,h1,h2,h3,h4⟩:=all_heard l0 f l2 x3 l4 x5 z now (by omega) (by omega) (by omega) (by omega) (by omega) g2 hb K (by omega)
      rw [hho]
      simp only
      obtain ⟨L,H,e1,a1,mL,mH⟩:=apart_eq now (l0.length-f) (by omega) (by omega) (by omega) hb K (by omega)
      rw [e1]
      simp only
      obtain ⟨c,cm,cc1,cc2⟩:=mid_exists (now.take (l0.length-f)) f (by rw [List.length_take]; omega)
      have hLb:=g3 L (List.mem_of_mem_take mL)
      have hHb:=g3 H (List.mem_of_mem_take mH)
      have hcb:=a1 c cm
      rw [← g2] at cc1 cc2 a1
      obtain ⟨out,ho,ol,oo⟩:=round_eq now f x3 x5 L H c h o (by omega) (by omega) (by omega) (by omega) (by omega) (by omega) h3 h4 a1 (by omega) cc1 cc2 hcb K (by omega)
      rw [ho]
      simp only [ClockClose.p5,if_true]
      rw [if_pos (by omega)]
      simp only
      have hcp:out.take now.length++now.drop out.length=out:=by rw [List.take_of_length_le (by omega),List.drop_of_length_le (by omega),List.append_nil]
      rw [hcp]
      obtain ⟨q,hq,ql,qt,qm⟩:=liars_zero l0 out (l0.length-f) (by omega) (by omega) (by omega) K (by omega)
      rw [hq]
      simp only
      have ob:∀ y ∈ out,-(1000000+2000*(z+1))≤y∧y≤1000000+2000*(z+1):=fun y hy=>by
        obtain ⟨a,b,d,rfl,g5,g6,g7⟩:=oo y hy
        omega
      have qb:∀ y ∈ q,-(1000000+2000*(z+1))≤y∧y≤1000000+2000*(z+1):=fun y hy=>by
        rcases qm y hy with h | h
        · exact ob y h
        · omega
      obtain ⟨L',H',e2,a2,mL',mH'⟩:=apart_eq q (l0.length-f) (by omega) (by omega) (by omega) (fun y hy=>by have:=qb y hy; omega) K (by omega)
      rw [e2]
      simp only
      have dist:∀ x y,x ∈ q.take (l0.length-f)→y ∈ q.take (l0.length-f)→y-x≤(H-L+4*x3+1) / 2+2*x5:=fun x y hx hy=>by
        rw [qt] at hx hy
        obtain ⟨a,b,d,rfl,g5,g6,g7⟩:=oo x (List.mem_of_mem_take hx)
        obtain ⟨a',b',d',rfl,g5',g6',g7'⟩:=oo y (List.mem_of_mem_take hy)
        omega
      have d1:=dist L' H' mL' mH'
      have g5:=g4 L H mL mH
      have hLH:=a1 c (by rw [g2]; exact cm)
      have sm:0≤H-L+4*x3+1:=by omega
      rw [wrap64_small (n:=4*x3) (by omega) (by omega),wrap64_small (n:=H-L+4*x3) (by omega) (by omega),wrap64_small (n:=H-L+4*x3+1) (by omega) (by omega),Int.tdiv_eq_ediv_of_nonneg sm,wrap64_small (n:=(H-L+4*x3+1) / 2) (by omega) (by omega),wrap64_small (n:=2*x5) (by omega) (by omega),wrap64_small (n:=(H-L+4*x3+1) / 2+2*x5) (by omega) (by omega),wrap64_small (n:=z+1) (by omega) (by omega)]
      rw [gmax_eq] at g5 ⊢
      rw [if_neg (by omega),if_neg (by omega)]
      refine ⟨_,rfl,⟨by simp only; omega,by simp only; omega,ql,qb,fun x y hx hy=>?_⟩,by simp only; omega⟩
      have:=dist x y hx hy
      omega
    · right
      exact ⟨_,by rw [if_neg hz],rfl⟩) K (0,n0) ⟨by simp,by simp only; omega,hl0,fun x hx=>by have:=hb0 x hx; simp only; omega,fun x y hx hy=>by
        simp only at hx hy
        have h1:=a0 x hx
        have h2:=a0 y hy
        rw [gmax_eq]
        omega⟩ (by simp only; omega)
  rw [hr,hR]

end Go.Proofs.Ytchcdadpahakfaa.GV
