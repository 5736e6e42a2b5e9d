/- Plain words: GvLMachTicks. -/
import Derived.Test.YtnckikjcjgmdlaaDoorGWMachTicks6
import Derived.Test.YtnckikjcjgmdlaaDoorGv17
namespace Go.Proofs.YtnckikjcjgmdlaaDoor.GV
open Go Go.RowKit
set_option linter.unusedVariables false
set_option linter.unusedSimpArgs false
theorem SIns.eqb_self (x:SIns):SIns.eqb x x=true:=by simp [SIns.eqb]
theorem SFault.eqb_self (x:SFault):SFault.eqb x x=true:=by simp [SFault.eqb]
theorem SPut.eqb_self (x:SPut):SPut.eqb x x=true:=by simp [SPut.eqb]
theorem Sregion.eqb_self (x:Sregion):Sregion.eqb x x=true:=by simp [Sregion.eqb]
theorem SStep.eqb_self (x:SStep):SStep.eqb x x=true:=by simp [SStep.eqb]
theorem punctualsame_Lend_api_Ins_some (l:List SIns) (a:SIns) (h:l.length≤5000):∃ r,punctualsame_Lend_api_Ins.f l a=some r:=by
  have hw:IntKind.i64.wrap ((l.length:Int)+3)=(l.length:Int)+3:=wrap64_small (by omega) (by omega)
  unfold punctualsame_Lend_api_Ins.f
  rw [hw,if_pos (by omega),if_pos (by omega),if_pos (by simp; omega),if_pos (by simp; omega)]
  exact ⟨_,rfl⟩
theorem punctualsame_Lend_int_someL (l:List Int) (a:Int) (h:l.length≤17592186044413):∃ r,punctualsame_Lend_int.f l a=some r:=by
  have hw:IntKind.i64.wrap ((l.length:Int)+3)=(l.length:Int)+3:=wrap64_small (by omega) (by omega)
  unfold punctualsame_Lend_int.f
  rw [hw,if_pos (by omega),if_pos (by omega),if_pos (by simp; omega),if_pos (by simp; omega)]
  exact ⟨_,rfl⟩
theorem punctualsame_Same_int_self (l:List Int) (K:Nat) (hK:l.length<K):punctualsame_Same_int.f K l l=some true:=by
  have hr:=iter_first0 (f:=punctualsame_Same_int.r0 l l) (fun _=>none) l.length (t:=()) (fun i hi=>by
    have h':(i:Int)<(l.length:Int):=by omega
    simp only [punctualsame_Same_int.r0,if_pos h',List.getElem?_eq_getElem hi,if_true,onward]) (by
    have h':¬ (l.length:Int)<(l.length:Int):=by omega
    simp only [punctualsame_Same_int.r0,if_neg h']) hK
  rw [firstOf_none_of (fun _ _ _=>rfl)] at hr
  simp only [punctualsame_Same_int.f,if_true,hr,leave]
theorem punctualsame_Same_api_Put_self (l:List SPut) (K:Nat) (hK:l.length<K):punctualsame_Same_api_Put.f K l l=some true:=by
  have hr:=iter_first0 (f:=punctualsame_Same_api_Put.r0 l l) (fun _=>none) l.length (t:=()) (fun i hi=>by
    have h':(i:Int)<(l.length:Int):=by omega
    simp only [punctualsame_Same_api_Put.r0,if_pos h',List.getElem?_eq_getElem hi,if_true,SPut.eqb_self,onward]) (by
    have h':¬ (l.length:Int)<(l.length:Int):=by omega
    simp only [punctualsame_Same_api_Put.r0,if_neg h']) hK
  rw [firstOf_none_of (fun _ _ _=>rfl)] at hr
  simp only [punctualsame_Same_api_Put.f,if_true,hr,leave]
def letterAt (x:ByteArray) (i:Nat):Bool:=match x[i]? with | some b=>decide (97≤b.toNat) && decide (b.toNat≤122) | none=>false
def allL (x:ByteArray) (n:Nat):Bool:=(List.range n).all (letterAt x)
def Good (x:ByteArray):Prop:=1≤x.size∧x.size≤10∧allL x x.size=true
instance (x : ByteArray) : Decidable (Good x) := by unfold Good; infer_instance
theorem iter_succ {σ ρ:Type} (f:σ→Option (σ ⊕ ρ)) (K:Nat) (s:σ):iter f (K+1) s=match f s with | none=>none | some (.inl s')=>iter f K s' | some (.inr r)=>some r:=rfl
structure OkI (e : SIns) : Prop where
  op:1≤e.Op∧e.Op≤18
  A:0≤e.A
  B:0≤e.B
  B13:e.B≤2000
  B1:e.Op=13→e.B≤1000
  A18:e.Op=18→1≤e.A∧e.A≤1000
  A3:e.Op=9 ∨ e.Op=10 ∨ e.Op=16 ∨ e.Op=17→e.A≤3
  A7:e.Op=2 ∨ e.Op=3 ∨ e.Op=13 ∨ e.Op=14 ∨ e.Op=15→e.A≤7
theorem fits_iff (v m:Int):mach_fits.f v m=true ↔ 0≤v∧v≤max m 0:=by
  unfold mach_fits.f gmax
  split
  · rw [decide_eq_true_eq]
    constructor
    · intro h; refine ⟨by omega,?_⟩; split at h <;> omega
    · intro h; split <;> omega
  · constructor
    · intro h; cases h
    · intro h; omega
def topOf (open_:List Int):Int:=open_.getLast?.getD (-1)
theorem top_eq (l:List SIns) (op inn:List Int) (m:List (Int×Int)) (hl:op.length≤5000):mach_looker_top.f l op inn m=some (topOf op):=by
  unfold mach_looker_top.f topOf
  rcases List.eq_nil_or_concat op with rfl | ⟨o,x,rfl⟩
  · rfl
  · simp only [List.concat_eq_append,List.length_append,List.length_cons,List.length_nil] at hl ⊢
    have e1:IntKind.i64.wrap (((o.length+(0+1):Nat):Int)-1)=(o.length:Int):=by rw [wrap64_small (by omega) (by omega)]; omega
    rw [if_neg (by omega),e1,if_pos (by omega),Int.toNat_natCast]
    simp
theorem holds_some (l:List SIns) (op inn:List Int) (m:List (Int×Int)) (x a:Int) (K:Nat) (hK:op.length<K) (ho:∀ o ∈ op,0≤o∧o<(l.length:Int)):∃ b,mach_looker_holds.f K l op inn m x a=some b:=by
  obtain ⟨r,hr,_⟩:=iter_total (f:=mach_looker_holds.r0 l op x a) (fun i=>i≤op.length) (fun i=>op.length-i) (fun _=>True) (fun i hi=>by
    by_cases hlt:i<op.length
    · obtain ⟨o,hoi⟩:∃ o,op[i]?=some o:=⟨op[i],List.getElem?_eq_getElem hlt⟩
      obtain ⟨h1,h2⟩:=ho o (List.mem_of_getElem? hoi)
      obtain ⟨e,he⟩:∃ e,l[o.toNat]?=some e:=⟨l[o.toNat]'(by omega),List.getElem?_eq_getElem (by omega)⟩
      simp only [mach_looker_holds.r0,hoi,he]
      rw [if_pos (by omega),if_pos h1]
      split
      · split
        · exact .inr ⟨_,rfl,trivial⟩
        · exact .inl ⟨_,rfl,hlt,by omega⟩
      · exact .inl ⟨_,rfl,hlt,by omega⟩
    · right
      simp only [mach_looker_holds.r0]
      rw [if_neg (by omega)]
      exact ⟨_,rfl,trivial⟩) K 0 (Nat.zero_le _) (by omega)
  unfold mach_looker_holds.f
  rw [hr]
  rcases r with r | r
  · exact ⟨_,rfl⟩
  · exact ⟨_,rfl⟩
theorem close_eq (l:List SIns) (o inn:List Int) (t:Int) (m:List (Int×Int)) (x:Int) (hl:o.length≤4000):mach_looker_close.f l (o++[t]) inn m x=some (o,mset m t x):=by
  unfold mach_looker_close.f mach_looker_close.p0
  rw [top_eq l _ inn m (by simp; omega)]
  have e1:IntKind.i64.wrap (((o++[t]).length:Int)-1)=(o.length:Int):=by
    simp only [List.length_append,List.length_cons,List.length_nil]
    rw [wrap64_small (by omega) (by omega)]; omega
  simp only [e1,Int.toNat_natCast]
  rw [if_pos (by omega),if_pos (by simp)]
  simp [topOf]
structure Regs (l : List SIns) (i : Nat) (op inn : List Int) (m : List (Int × Int)) : Prop where
  len:inn.length=l.length
  open_:∀ o ∈ op,∃ (k:Nat) (e:SIns),o=(k:Int)∧k<i∧l[k]?=some e∧(e.Op=13 ∨ e.Op=16)
  up:op.Pairwise (fun a b:Int=>a<b)
  small:op.length≤i
  shut:∀ (k:Nat) (e:SIns),k<i→l[k]?=some e→(e.Op=13 ∨ e.Op=16)→(k:Int) ∈ op ∨ ∃ c:Nat,mget m (k:Int)=some (c:Int)∧k<c∧c<i
  back:∀ (k:Nat) (e:SIns),k<i→l[k]?=some e→e.Op=14→0≤e.B∧e.B≤(k:Int)
theorem mget_mset' (m:List (Int×Int)) (k k' v:Int):mget (mset m k v) k'=if k'=k then some v else mget m k':=by
  induction m with
  | nil=>simp only [mset,mget]
  | cons a r ih =>
    obtain ⟨a,b⟩:=a
    simp only [mset]
    by_cases h:k=a
    · subst h
      simp only [if_true,mget]
      by_cases h2:k'=k
      · rw [if_pos h2,if_pos h2]
      · rw [if_neg h2,if_neg h2,if_neg h2]
    · rw [if_neg h]
      simp only [mget,ih]
      by_cases h2:k'=a
      · rw [if_pos h2,if_neg (fun e=>h (e.symm.trans h2)),if_pos h2]
      · rw [if_neg h2,if_neg h2]
def Jump (l:List SIns):Prop:=∀ (k:Nat) (e:SIns),l[k]?=some e→(e.Op=11 ∨ e.Op=12)→(k:Int)<e.A∧e.A≤(l.length:Int)
structure Told1 (n : Nat) (m : List Int) : Prop where
  len:m.length=n+1
  range:∀ (k:Nat) (v:Int),m[k]?=some v→-1≤v∧v≤20
def Keeps (m m':List Int):Prop:=∀ (k:Nat) (v:Int),0≤v→m[k]?=some v→m'[k]?=some v
def StepAt (m:List Int) (i:Nat) (e:SIns):Prop:=∃ v:Int,m[i]?=some v∧(mach_pops.f e.Op).1≤v∧v≤20∧v-(mach_pops.f e.Op).1+(mach_pops.f e.Op).2≤20 ∧
  ((e.Op=11 ∨ e.Op=12)→m[e.A.toNat]?=some (v-(mach_pops.f e.Op).1+(mach_pops.f e.Op).2))∧(e.Op=14→m[e.B.toNat]?=some (v-(mach_pops.f e.Op).1+(mach_pops.f e.Op).2))∧(e.Op ≠ 11→m[i+1]?=some (v-(mach_pops.f e.Op).1+(mach_pops.f e.Op).2))
theorem pops_range (op:Int):0≤(mach_pops.f op).1∧(mach_pops.f op).1≤2∧0≤(mach_pops.f op).2∧(mach_pops.f op).2≤1:=by
  unfold mach_pops.f
  repeat' split
  all_goals decide
theorem StepAt.keep {m m':List Int} {i:Nat} {e:SIns} (h:StepAt m i e) (k:Keeps m m'):StepAt m' i e:=by
  obtain ⟨v,h1,h2,h3,h4,h5,h6,h7⟩:=h
  have:=pops_range e.Op
  exact ⟨v,k _ _ (by omega) h1,h2,h3,h4,fun h=>k _ _ (by omega) (h5 h),fun h=>k _ _ (by omega) (h6 h),fun h=>k _ _ (by omega) (h7 h)⟩
theorem to_good {n:Nat} {m:List Int} (hm:Told1 n m) {x h:Int} (hx:0≤x∧x≤(n:Int)) (hh:0≤h∧h≤20):∃ b m',mach_heights_1.f x h m=some (b,m')∧Told1 n m'∧Keeps m m'∧(b=true→m'[x.toNat]?=some h):=by
  have hlen:=hm.len
  obtain ⟨y,hy⟩:∃ y,m[x.toNat]?=some y:=⟨m[x.toNat]'(by omega),List.getElem?_eq_getElem (by omega)⟩
  have hs:(m.set x.toNat h)[x.toNat]?=some h:=by rw [List.getElem?_set_self (by omega)]
  simp only [mach_heights_1.f,hy,hs]
  rw [if_pos hx.1]
  by_cases h0:y<0
  · rw [if_pos h0]
    refine ⟨_,_,rfl,⟨by rw [List.length_set]; exact hlen,fun k v hk=>?_⟩,fun k v hv hk=>?_,fun _=>hs⟩
    · by_cases hkx:k=x.toNat
      · rw [hkx,hs] at hk; cases hk; omega
      · rw [List.getElem?_set_ne (fun e=>hkx e.symm)] at hk; exact hm.range k v hk
    · by_cases hkx:k=x.toNat
      · rw [hkx,hy] at hk; cases hk; omega
      · rw [List.getElem?_set_ne (fun e=>hkx e.symm)]; exact hk
  · rw [if_neg h0]
    refine ⟨_,_,rfl,hm,fun k v _ hk=>hk,fun hb=>?_⟩
    rw [hy]
    simpa using hb
theorem heights_step (l:List SIns) (hl:l.length≤2000) (i:Nat) (hi:i<l.length) (m:List Int) (hm:Told1 l.length m) (hA:∀ e,l[i]?=some e→(e.Op=11 ∨ e.Op=12)→0≤e.A∧e.A≤(l.length:Int)) (hB:∀ e,l[i]?=some e→e.Op=14→0≤e.B∧e.B≤(l.length:Int)) :
    (∃ m' e,l[i]?=some e∧mach_heights.r1 l (i,m)=some (.inl (i+1,m'))∧Told1 l.length m'∧Keeps m m'∧StepAt m' i e) ∨ ∃ s:SFault,mach_heights.r1 l (i,m)=some (.inr (.inr s))∧s.Code ≠ 0:=by
  obtain ⟨e,he⟩:∃ e,l[i]?=some e:=⟨l[i],List.getElem?_eq_getElem hi⟩
  have hlen:=hm.len
  obtain ⟨v,hy⟩:∃ y,m[i]?=some y:=⟨m[i]'(by omega),List.getElem?_eq_getElem (by omega)⟩
  have hA:=hA e he
  have hB:=hB e he
  have hr:=hm.range i v hy
  obtain ⟨d1,d2,u1,u2⟩:=pops_range e.Op
  have hc:(i:Int)<(l.length:Int):=by omega
  simp only [mach_heights.r1,if_pos hc,he,hy]
  unfold StepAt
  generalize hd:(mach_pops.f e.Op).1=dn at *
  generalize hu:(mach_pops.f e.Op).2=up at *
  have bad8:∀ {A:Option ((Nat×(List Int)) ⊕ ((List Int) ⊕ SFault))} (x:SFault),x.Code ≠ 0→A=some (.inr (.inr x))→(∃ m' e',some e=some e'∧A=some (.inl (i+1,m'))∧Told1 l.length m'∧Keeps m m'∧∃ v:Int,m'[i]?=some v∧(mach_pops.f e'.Op).1≤v∧v≤20∧v-(mach_pops.f e'.Op).1+(mach_pops.f e'.Op).2≤20 ∧
      ((e'.Op=11 ∨ e'.Op=12)→m'[e'.A.toNat]?=some (v-(mach_pops.f e'.Op).1+(mach_pops.f e'.Op).2))∧(e'.Op=14→m'[e'.B.toNat]?=some (v-(mach_pops.f e'.Op).1+(mach_pops.f e'.Op).2))∧(e'.Op ≠ 11→m'[i+1]?=some (v-(mach_pops.f e'.Op).1+(mach_pops.f e'.Op).2))) ∨ ∃ s:SFault,A=some (.inr (.inr s))∧s.Code ≠ 0:=fun x hx hA=>.inr ⟨x,hA,hx⟩
  have fine:∀ {A:Option ((Nat×(List Int)) ⊕ ((List Int) ⊕ SFault))} (m':List Int),A=some (.inl (i+1,m'))→Told1 l.length m'→Keeps m m'→(dn≤v∧v-dn+up≤20∧((e.Op=11 ∨ e.Op=12)→m'[e.A.toNat]?=some (v-dn+up))∧(e.Op=14→m'[e.B.toNat]?=some (v-dn+up))∧(e.Op ≠ 11→m'[i+1]?=some (v-dn+up)))→(∃ m' e',some e=some e'∧A=some (.inl (i+1,m'))∧Told1 l.length m'∧Keeps m m'∧∃ v:Int,m'[i]?=some v∧(mach_pops.f e'.Op).1≤v∧v≤20∧v-(mach_pops.f e'.Op).1+(mach_pops.f e'.Op).2≤20 ∧
      ((e'.Op=11 ∨ e'.Op=12)→m'[e'.A.toNat]?=some (v-(mach_pops.f e'.Op).1+(mach_pops.f e'.Op).2))∧(e'.Op=14→m'[e'.B.toNat]?=some (v-(mach_pops.f e'.Op).1+(mach_pops.f e'.Op).2))∧(e'.Op ≠ 11→m'[i+1]?=some (v-(mach_pops.f e'.Op).1+(mach_pops.f e'.Op).2))) ∨ ∃ s:SFault,A=some (.inr (.inr s))∧s.Code ≠ 0:=fun m' hA hT hk ⟨q1,q2,q3,q4,q5⟩=>.inl ⟨m',e,rfl,hA,hT,hk,v,hk i v (by omega) hy,by rw [hd]; exact q1,by omega,by rw [hd,hu]; exact q2,by rw [hd,hu]; exact q3,by rw [hd,hu]; exact q4,by rw [hd,hu]; exact q5⟩
  by_cases h0:v<0
  · rw [if_pos h0]; exact bad8 ⟨7,(i:Int)⟩ (by simp) rfl
  rw [if_neg h0]
  have hp3:mach_heights.p3 m e=some (.inl (false,m)):=by
    unfold mach_heights.p3
    split
    · rfl
    · split <;> rfl
  by_cases hge:v ≥ dn
  case neg =>
    simp only [if_neg hge,hp3,Bool.false_eq_true,if_false]
    refine bad8 ⟨8,(i:Int)⟩ (by simp) ?_
    split <;> split <;> rfl
  have w1:IntKind.i64.wrap (IntKind.i64.wrap (v-dn)+up)=v-dn+up:=by rw [wrap64_small (n:=v-dn) (by omega) (by omega),wrap64_small (by omega) (by omega)]
  have w2:IntKind.i64.wrap (v+IntKind.i64.wrap (up-dn))=v-dn+up:=by rw [wrap64_small (n:=up-dn) (by omega) (by omega),wrap64_small (by omega) (by omega)]; omega
  simp only [if_pos hge,w2]
  by_cases h20:v-dn+up≤20
  case neg =>
    have hp2:mach_heights.p2 m e v=some (.inl (false,m)):=by
      unfold mach_heights.p2
      simp only [hd,hu,w1,if_neg h20]
      split
      · rfl
      · split
        · rfl
        · simp [h20]
    simp only [hp2,Bool.false_eq_true,if_false]
    refine bad8 ⟨8,(i:Int)⟩ (by simp) ?_
    split <;> split <;> rfl
  have hV:0≤v-dn+up∧v-dn+up≤20:=by omega
  have htn:((i+1:Nat):Int).toNat=i+1:=Int.toNat_natCast _
  by_cases h11:e.Op=11
  · have h14:¬ e.Op=14:=by omega
    obtain ⟨b,m',g1,g2,g3,g4⟩:=to_good hm (hA (.inl h11)) hV
    have hp2:mach_heights.p2 m e v=some (.inl (b,m')):=by
      unfold mach_heights.p2
      simp only [if_pos h11,hd,hu,w1,w2,if_pos h20,g1]
    simp only [hp2,if_neg h14,if_pos h11]
    cases b with
    | false=>simp only [Bool.false_eq_true,if_false]; exact bad8 ⟨8,(i:Int)⟩ (by simp) rfl
    | true=>simp only [if_true]; exact fine m' rfl g2 g3 ⟨hge,h20,fun _=>g4 rfl,fun h=>absurd h h14,fun h=>absurd h11 h⟩
  by_cases h12:e.Op=12
  · have h14:¬ e.Op=14:=by omega
    obtain ⟨b,m',g1,g2,g3,g4⟩:=to_good hm (hA (.inr h12)) hV
    have hp2:mach_heights.p2 m e v=some (.inl (b,m')):=by
      unfold mach_heights.p2
      simp only [if_neg h11,if_pos h12,hd,hu,w1,w2,if_pos h20,g1]
    simp only [hp2,if_neg h14,if_neg h11]
    cases b with
    | false=>simp only [Bool.false_eq_true,if_false]; exact bad8 ⟨8,(i:Int)⟩ (by simp) rfl
    | true =>
      obtain ⟨b,m2,k1,k2,k3,k4⟩:=to_good g2 (x:=((i+1:Nat):Int)) ⟨by omega,by omega⟩ hV
      simp only [if_true,k1]
      cases b with
      | false=>simp only [Bool.false_eq_true,if_false]; exact bad8 ⟨8,(i:Int)⟩ (by simp) rfl
      | true=>simp only [if_true]; exact fine m2 rfl k2 (fun k v hv hk=>k3 k v hv (g3 k v hv hk)) ⟨hge,h20,fun _=>k3 _ _ hV.1 (g4 rfl),fun h=>absurd h h14,fun _=>by have:=k4 rfl; rwa [htn] at this⟩
  have hp2:mach_heights.p2 m e v=some (.inl (true,m)):=by
    unfold mach_heights.p2
    simp only [if_neg h11,if_neg h12,hd,hu,w1]
    simp [h20]
  have hno:¬ (e.Op=11 ∨ e.Op=12):=by omega
  obtain ⟨b,m2,k1,k2,k3,k4⟩:=to_good hm (x:=((i+1:Nat):Int)) ⟨by omega,by omega⟩ hV
  by_cases h14:e.Op=14
  · obtain ⟨b1,b2⟩:=hB h14
    obtain ⟨w,hw⟩:∃ x,m[e.B.toNat]?=some x:=⟨m[e.B.toNat]'(by omega),List.getElem?_eq_getElem (by omega)⟩
    simp only [hp2,if_pos h14,if_true,if_pos b1,hw,if_neg h11]
    by_cases hwn:w=v-dn+up
    · rw [if_pos hwn,k1]
      simp only
      cases b with
      | false=>simp only [Bool.false_eq_true,if_false]; exact bad8 ⟨8,(i:Int)⟩ (by simp) rfl
      | true=>simp only [if_true]; exact fine m2 rfl k2 k3 ⟨hge,h20,fun h=>absurd h hno,fun _=>k3 _ _ hV.1 (by rw [hw,hwn]),fun _=>by have:=k4 rfl; rwa [htn] at this⟩
    · rw [if_neg hwn]; exact bad8 ⟨8,(i:Int)⟩ (by simp) rfl
  · simp only [hp2,if_neg h14,if_neg h11,if_true,k1]
    cases b with
    | false=>simp only [Bool.false_eq_true,if_false]; exact bad8 ⟨8,(i:Int)⟩ (by simp) rfl
    | true=>simp only [if_true]; exact fine m2 rfl k2 k3 ⟨hge,h20,fun h=>absurd h hno,fun h=>absurd h h14,fun _=>by have:=k4 rfl; rwa [htn] at this⟩
structure HeightsOK (l : List SIns) (H : List Int) : Prop where
  len:H.length=l.length+1
  start:H[0]?=some 0
  step:∀ (i:Nat) (e:SIns),l[i]?=some e→StepAt H i e
  stop:∀ v:Int,H[l.length]?=some v→v≤0
theorem heights_some (l:List SIns) (hl:l.length≤2000) (hJ:Jump l) (hB:∀ (k:Nat) (e:SIns),l[k]?=some e→e.Op=14→0≤e.B∧e.B≤(l.length:Int)) (K:Nat) (hK:4000<K):∃ r,mach_heights.f K l=some r∧(r.Code ≠ 0 ∨ (r=⟨0,0⟩∧∃ H,HeightsOK l H)):=by
  have e0:IntKind.i64.wrap ((l.length:Int)+1)=((l.length+1:Nat):Int):=by rw [wrap64_small (by omega) (by omega)]; omega
  obtain ⟨r0,hr0,m0,rfl,hm0,hm1⟩:=iter_total (f:=mach_heights.r0 l) (fun s=>∃ i:Nat,s.1=(i:Int)∧i≤l.length+1∧s.2.length=l.length+1∧∀ k,k<i→s.2[k]?=some (-1)) (fun s=>(l.length+1-s.1.toNat)) (fun r=>∃ m:List Int,r=.inl m∧m.length=l.length+1∧∀ k,k<l.length+1→m[k]?=some (-1)) (fun s ⟨i,h1,h2,h3,h4⟩=>by
    obtain ⟨z,m⟩:=s
    simp only at h1 h3 h4
    subst h1
    simp only [mach_heights.r0,e0,Int.toNat_natCast,List.length_replicate]
    by_cases hlt:i<l.length+1
    · obtain ⟨y,hy⟩:∃ y,m[i]?=some y:=⟨m[i]'(by omega),List.getElem?_eq_getElem (by omega)⟩
      have e1:IntKind.i64.wrap ((i:Int)+1)=((i+1:Nat):Int):=by rw [wrap64_small (by omega) (by omega)]; omega
      simp only [hy,e1]
      rw [if_pos (by omega),if_pos (by omega)]
      refine .inl ⟨_,rfl,⟨i+1,rfl,by omega,by simp only [List.length_set]; exact h3,fun k hk=>?_⟩,by simp only; omega⟩
      simp only
      by_cases hki:k=i
      · subst hki; rw [List.getElem?_set_self (by omega)]
      · rw [List.getElem?_set_ne (fun e=>hki e.symm)]; exact h4 k (by omega)
    · rw [if_neg (by omega)]
      exact .inr ⟨_,rfl,m,rfl,h3,fun k hk=>h4 k (by omega)⟩) K (0,List.replicate (l.length+1) 0) ⟨0,rfl,by omega,by simp,fun k hk=>by omega⟩ (by simp; omega)
  have hT0:Told1 l.length (m0.set 0 0):=⟨by rw [List.length_set]; exact hm0,fun k v hk=>by
    by_cases h0:k=0
    · subst h0; rw [List.getElem?_set_self (by omega)] at hk; cases hk; omega
    · rw [List.getElem?_set_ne (fun e=>h0 e.symm),hm1 k (by have:=lt_of_get hk; omega)] at hk; cases hk; omega⟩
  obtain ⟨r1,hr1,h1⟩:=iter_total (f:=mach_heights.r1 l) (fun s=>s.1≤l.length∧Told1 l.length s.2∧s.2[0]?=some 0∧∀ (k:Nat) (e:SIns),k<s.1→l[k]?=some e→StepAt s.2 k e) (fun s=>l.length-s.1) (fun r=>(∃ m:List Int,r=.inl m∧Told1 l.length m∧m[0]?=some 0∧∀ (k:Nat) (e:SIns),l[k]?=some e→StepAt m k e) ∨ ∃ s:SFault,r=.inr s∧s.Code ≠ 0) (fun s ⟨hi,hm,hz,hS⟩=>by
    obtain ⟨i,m⟩:=s
    simp only at hi hm hz hS
    by_cases hlt:i<l.length
    · have hlast:=fun (e:SIns) (he:l[i]?=some e) (ho:e.Op=11 ∨ e.Op=12)=>(by have:=hJ i e he ho; omega:0≤e.A∧e.A≤(l.length:Int))
      rcases heights_step l hl i hlt m hm hlast (fun e he h14=>hB i e he h14) with ⟨m',e,he,h1,h2,h3,h4⟩ | ⟨s,h1,h2⟩
      · refine .inl ⟨_,h1,⟨by simp only; omega,h2,h3 0 0 (by omega) hz,fun k f hk hf=>?_⟩,by simp only; omega⟩
        simp only at hk
        by_cases hki:k=i
        · subst hki; rw [he] at hf; cases hf; exact h4
        · exact (hS k f (by omega) hf).keep h3
      · exact .inr ⟨_,h1,.inr ⟨s,rfl,h2⟩⟩
    · right
      simp only [mach_heights.r1]
      rw [if_neg (by omega)]
      exact ⟨_,rfl,.inl ⟨m,rfl,hm,hz,fun k e he=>hS k e (by have:=lt_of_get he; omega) he⟩⟩) K (0,m0.set 0 0) ⟨Nat.zero_le _,hT0,by simp only; rw [List.getElem?_set_self (by omega)],fun k e hk=>by simp at hk⟩ (by simp only; omega)
  unfold mach_heights.f
  have hc1:(0:Int)≤((l.length+1:Nat):Int):=by omega
  have hc2:l.length+1≤17592186044416:=by omega
  simp only [e0,Int.toNat_natCast,if_pos hc1,if_pos hc2,hr0,hm1 0 (by omega),hr1]
  rcases h1 with ⟨m,rfl,hm,hz,hS⟩ | ⟨s,rfl,hs⟩
  · have hml:=hm.len
    obtain ⟨y,hy⟩:∃ y,m[l.length]?=some y:=⟨m[l.length]'(by omega),List.getElem?_eq_getElem (by omega)⟩
    simp only [hy]
    by_cases hy0:y > 0
    · rw [if_pos hy0]; exact ⟨_,rfl,.inl (by simp)⟩
    · rw [if_neg hy0]; exact ⟨_,rfl,.inr ⟨rfl,m,hml,hz,hS,fun v hv=>by rw [hy] at hv; cases hv; omega⟩⟩
  · exact ⟨s,rfl,.inl hs⟩
structure Facts (l : List SIns) (m : List (Int × Int)) : Prop where
  len:l.length≤2000
  ok:∀ (i:Nat) (e:SIns),l[i]?=some e→OkI e
  jump:Jump l
  shut:∀ (k:Nat) (e:SIns),l[k]?=some e→(e.Op=13 ∨ e.Op=16)→(k:Int)<(mget m (k:Int)).getD 0∧(mget m (k:Int)).getD 0<(l.length:Int)
  back:∀ (k:Nat) (e:SIns),l[k]?=some e→e.Op=14→0≤e.B∧e.B≤(k:Int)
  hts:∃ H,HeightsOK l H
theorem cost_range {e:SIns} (h:OkI e) (b:Bool):1≤mach_Cost.f e b∧mach_Cost.f e b≤1000:=by
  unfold mach_Cost.f
  repeat' split
  all_goals first | omega | (have:=h.A18 (by assumption); omega)
theorem iter_sim {σ τ ρ ρ':Type} {f:σ→Option (σ ⊕ ρ)} {g:τ→Option (τ ⊕ ρ')} (R:σ→τ→Prop) (μ:σ→Nat) (Q:ρ→ρ'→Prop)
    (step:∀ s t,R s t→(∃ s' t',f s=some (.inl s')∧g t=some (.inl t')∧R s' t'∧μ s'<μ s) ∨ (∃ r r',f s=some (.inr r)∧g t=some (.inr r')∧Q r r')) :
    ∀ (K:Nat) (s:σ) (t:τ),R s t→μ s<K→∃ r r',iter f K s=some r∧iter g K t=some r'∧Q r r'
  | 0,_,_,_,h=>absurd h (Nat.not_lt_zero _)
  | K+1,s,t,hR,h=>by
    rcases step s t hR with ⟨s',t',h1,h2,h3,h4⟩ | ⟨r,r',h1,h2,h3⟩
    · obtain ⟨r,r',g1,g2,g3⟩:=iter_sim R μ Q step K s' t' h3 (by omega)
      exact ⟨r,r',by simp only [iter,h1]; exact g1,by simp only [iter,h2]; exact g2,g3⟩
    · exact ⟨r,r',by simp only [iter,h1],by simp only [iter,h2],h3⟩
theorem operand_tab (op:Int) (h:1≤op∧op≤18):∃ a b,mach_operand.f op=some (a,b)∧([0,999999999,7,7,0,0,0,0,0,3,3,2000,2000,7,7,7,3,3,1000]:List Int)[op.toNat]?=some (max a 0)∧max b 0=(if op=13 then 1000 else if op=14 then 2000 else 0)∧b≤2000∧(op=13→b=1000)∧(op=18→a=1000)∧(op=9 ∨ op=10 ∨ op=16 ∨ op=17→a=3)∧(op=2 ∨ op=3 ∨ op=13 ∨ op=14 ∨ op=15→a=7):=by
  have:op=1 ∨ op=2 ∨ op=3 ∨ op=4 ∨ op=5 ∨ op=6 ∨ op=7 ∨ op=8 ∨ op=9 ∨ op=10 ∨ op=11 ∨ op=12 ∨ op=13 ∨ op=14 ∨ op=15 ∨ op=16 ∨ op=17 ∨ op=18:=by omega
  rcases this with rfl | rfl | rfl | rfl | rfl | rfl | rfl | rfl | rfl | rfl | rfl | rfl | rfl | rfl | rfl | rfl | rfl | rfl <;> exact ⟨_,_,rfl,rfl,by decide,by decide,by decide,by decide,by decide,by decide⟩
def BadIns (e:SIns) (a b:Int):Prop:=e.A<0 ∨ e.A > a ∨ e.B<0 ∨ e.B > b ∨ (e.Op=18∧e.A<1)
instance (e : SIns) (a b : Int) : Decidable (BadIns e a b) := by unfold BadIns; infer_instance
theorem wrongIns_eq (e:SIns) (h:1≤e.Op∧e.Op≤18) (a b:Int) (ht:([0,999999999,7,7,0,0,0,0,0,3,3,2000,2000,7,7,7,3,3,1000]:List Int)[e.Op.toNat]?=some a) (hb:b=(if e.Op=13 then 1000 else if e.Op=14 then 2000 else 0)) :
    punctualref_wrongIns.f e=some (if BadIns e a b then 3 else 0):=by
  have key:∀ r:Option Int,(BadIns e a b→r=some 3)→(¬ BadIns e a b→r=some 0)→r=some (if BadIns e a b then 3 else 0):=fun r h1 h2=>by
    by_cases h:BadIns e a b
    · rw [if_pos h]; exact h1 h
    · rw [if_neg h]; exact h2 h
  refine key _ (fun hB=>?_) (fun hB=>?_)
  all_goals
    unfold BadIns at hB
    unfold punctualref_wrongIns.f
    rw [if_neg (by omega),if_neg (by omega),if_pos (by omega),ht]
    simp only
    by_cases h13:e.Op=13
    · rw [if_pos h13] at hb
      subst hb
      rw [if_pos h13,if_neg (by omega)]
      repeat' split
      all_goals first | rfl | (exfalso; omega)
    · rw [if_neg h13] at hb
      rw [if_neg h13]
      by_cases h14:e.Op=14
      · rw [if_pos h14] at hb
        subst hb
        rw [if_pos h14]
        repeat' split
        all_goals first | rfl | (exfalso; omega)
      · rw [if_neg h14] at hb
        subst hb
        rw [if_neg h14]
        repeat' split
        all_goals first | rfl | (exfalso; omega)
theorem ins_both (l:List SIns) (K:Nat) (hK:l.length<K):∃ r r',iter (mach_Look.r0 l) K 0=some r∧iter (punctualref_ReadImage.r0 l) K 0=some r'∧((r=.inl ()∧r'=.inl ()∧∀ (i:Nat) (e:SIns),l[i]?=some e→OkI e) ∨ ∃ s x,r=.inr (s,x)∧r'=.inr (none,x)∧x.Code ≠ 0):=by
  obtain ⟨r,r',h1,h2,h3⟩:=iter_sim (f:=mach_Look.r0 l) (g:=punctualref_ReadImage.r0 l) (fun i j=>i=j∧i≤l.length∧∀ (k:Nat) (e:SIns),k<i→l[k]?=some e→OkI e) (fun i=>l.length-i)
    (fun r r'=>(r=.inl ()∧r'=.inl ()∧∀ (i:Nat) (e:SIns),l[i]?=some e→OkI e) ∨ ∃ s x,r=.inr (s,x)∧r'=.inr (none,x)∧x.Code ≠ 0) (fun i j ⟨hij,hi,hI⟩=>by
    subst hij
    by_cases hlt:i<l.length
    · obtain ⟨e,he⟩:∃ e,l[i]?=some e:=⟨l[i],List.getElem?_eq_getElem hlt⟩
      have hc:(i:Int)<(l.length:Int):=by omega
      simp only [mach_Look.r0,punctualref_ReadImage.r0,he,if_pos hc]
      have hbad6:(e.Op<1 ∨ e.Op > 18)→punctualref_wrongIns.f e=some 6:=fun h=>by
        unfold punctualref_wrongIns.f
        rcases h with h | h
        · rw [if_pos h]
        · rw [if_neg (by omega),if_pos h]
      by_cases h1:e.Op<1
      · rw [if_pos h1,hbad6 (.inl h1)]; exact .inr ⟨_,_,rfl,rfl,.inr ⟨_,_,rfl,rfl,by simp [mach_Look_1.f]⟩⟩
      rw [if_neg h1]
      by_cases h2:e.Op > 18
      · rw [if_pos h2,hbad6 (.inr h2)]; exact .inr ⟨_,_,rfl,rfl,.inr ⟨_,_,rfl,rfl,by simp [mach_Look_1.f]⟩⟩
      rw [if_neg h2]
      obtain ⟨a,b,ho,ht,hb',hb,hb13,ha18,ha3,ha7⟩:=operand_tab e.Op ⟨by omega,by omega⟩
      rw [wrongIns_eq e ⟨by omega,by omega⟩ _ _ ht hb']
      simp only [ho]
      have bad:BadIns e (max a 0) (max b 0)→(if (if BadIns e (max a 0) (max b 0) then (3:Int) else 0)=0 then (some (.inl (i+1)):Option (Nat ⊕ (Unit ⊕ ((Option PImage)×SFault)))) else some (.inr (.inr (none,punctualref_F.f (if BadIns e (max a 0) (max b 0) then (3:Int) else 0) (i:Int)))))=some (.inr (.inr (none,⟨3,(i:Int)⟩))):=fun h=>by
        rw [if_pos h,if_neg (by decide)]; rfl
      have good:¬ BadIns e (max a 0) (max b 0)→(if (if BadIns e (max a 0) (max b 0) then (3:Int) else 0)=0 then (some (.inl (i+1)):Option (Nat ⊕ (Unit ⊕ ((Option PImage)×SFault)))) else some (.inr (.inr (none,punctualref_F.f (if BadIns e (max a 0) (max b 0) then (3:Int) else 0) (i:Int)))))=some (.inl (i+1)):=fun h=>by
        rw [if_neg h,if_pos rfl]
      by_cases h3:mach_fits.f e.A a=true
      · rw [if_pos h3]
        by_cases h4:mach_fits.f e.B b=true
        · rw [if_pos h4]
          rw [fits_iff] at h3 h4
          have next:(e.Op=18→e.A ≠ 0)→i+1≤l.length∧∀ (k:Nat) (e:SIns),k<i+1→l[k]?=some e→OkI e:=fun h5=>⟨hlt,fun k f hk hf=>by
            by_cases hki:k=i
            · subst hki
              rw [he] at hf
              cases hf
              refine ⟨⟨by omega,by omega⟩,h3.1,h4.1,by omega,fun h6=>?_,fun h6=>?_,fun h6=>(by have:=ha3 h6; omega),fun h6=>(by have:=ha7 h6; omega)⟩
              · have:=hb13 h6; omega
              · have:=ha18 h6; have:=h5 h6; omega
            · exact hI k f (by omega) hf⟩
          by_cases h5:e.Op=18
          · rw [if_pos h5]
            by_cases h6:e.A=0
            · rw [if_pos h6,bad (by unfold BadIns; omega)]; exact .inr ⟨_,_,rfl,rfl,.inr ⟨_,_,rfl,rfl,by simp [mach_Look_1.f]⟩⟩
            · rw [if_neg h6,good (by unfold BadIns; omega)]; exact .inl ⟨_,_,rfl,rfl,⟨rfl,next (fun _=>h6)⟩,by omega⟩
          · rw [if_neg h5,good (by unfold BadIns; omega)]; exact .inl ⟨_,_,rfl,rfl,⟨rfl,next (fun h=>absurd h h5)⟩,by omega⟩
        · rw [if_neg h4,bad (by rw [fits_iff] at h4; unfold BadIns; omega)]; exact .inr ⟨_,_,rfl,rfl,.inr ⟨_,_,rfl,rfl,by simp [mach_Look_1.f]⟩⟩
      · rw [if_neg h3,bad (by rw [fits_iff] at h3; unfold BadIns; omega)]; exact .inr ⟨_,_,rfl,rfl,.inr ⟨_,_,rfl,rfl,by simp [mach_Look_1.f]⟩⟩
    · right
      have hc:¬ (i:Int)<(l.length:Int):=by omega
      simp only [mach_Look.r0,punctualref_ReadImage.r0,if_neg hc]
      exact ⟨_,_,rfl,rfl,.inl ⟨rfl,rfl,fun k e hk=>hI k e (by have:=lt_of_get hk; omega) hk⟩⟩) K 0 0 ⟨rfl,Nat.zero_le _,fun k e hk=>by omega⟩ (by omega)
  exact ⟨r,r',h1,h2,h3⟩
theorem among_eq (K:Nat) (l:List SIns) (op inn:List Int) (m:List (Int×Int)) (x:Int) (e:SIns):punctualref_ReadImage_1.f K x op l e=mach_looker_holds.f K l op inn m x e.A:=rfl
def Cont (op:List Int) (regs:List Sregion) (k:Nat) (o:Int):Prop:=o<(k:Int)∧(o ∈ op ∨ ∃ c:Int,(⟨o,c⟩:Sregion) ∈ regs∧(k:Int)≤c)
def InTop (op:List Int) (regs:List Sregion) (k:Nat) (t:Int):Prop:=(t=-1∧∀ o,¬ Cont op regs k o) ∨ (0≤t∧Cont op regs k t∧∀ o,Cont op regs k o→o≤t)
structure Both (l : List SIns) (i : Nat) (op inn : List Int) (m : List (Int × Int)) (regs : List Sregion) : Prop where
  R:Regs l i op inn m
  reg:∀ r ∈ regs,∃ o c:Nat,r=⟨(o:Int),(c:Int)⟩∧o<c∧c<i∧mget m (o:Int)=some (c:Int)
  shut:∀ o c:Int,mget m o=some c→(⟨o,c⟩:Sregion) ∈ regs
  fresh:∀ o ∈ op,mget m o=none
  few:regs.length≤i
  top:∀ (k:Nat) (t:Int),k<i→inn[k]?=some t→InTop op regs k t
  back:∀ (k:Nat) (e:SIns),k<i→l[k]?=some e→e.Op=14→0≤e.B∧e.B≤(k:Int)
theorem InTop.congr {op op':List Int} {regs regs':List Sregion} {k:Nat} {t:Int} (h:InTop op regs k t) (e:∀ o,Cont op regs k o ↔ Cont op' regs' k o):InTop op' regs' k t:=by
  rcases h with ⟨h1,h2⟩ | ⟨h1,h2,h3⟩
  · exact .inl ⟨h1,fun o ho=>h2 o ((e o).2 ho)⟩
  · exact .inr ⟨h1,(e t).1 h2,fun o ho=>h3 o ((e o).2 ho)⟩
theorem refTop_eq (op:List Int) (hl:op.length≤5000):punctualref_ReadImage.p2 op=some (.inl (topOf op)):=by
  unfold punctualref_ReadImage.p2 topOf
  rcases List.eq_nil_or_concat op with rfl | ⟨o,x,rfl⟩
  · rfl
  · simp only [List.concat_eq_append,List.length_append,List.length_cons,List.length_nil] at hl ⊢
    have e1:IntKind.i64.wrap (((o.length+(0+1):Nat):Int)-1)=(o.length:Int):=by rw [wrap64_small (by omega) (by omega)]; omega
    rw [if_pos (by omega),e1,if_pos (by omega),Int.toNat_natCast]
    simp
theorem region_both (l:List SIns) (i:Nat) (op inn:List Int) (m:List (Int×Int)) (regs:List Sregion) (H:Both l i op inn m regs) (hi:i<l.length) (hl:l.length≤2000) (K:Nat) (hK:4000<K) :
    ∃ c op' inn' m',mach_looker_region.f K l op inn m (i:Int)=some (c,op',inn',m')∧((c=0∧∃ regs',punctualref_ReadImage.r1 K l (i,op,regs)=some (.inl (i+1,op',regs'))∧Both l (i+1) op' inn' m' regs') ∨ (c ≠ 0∧punctualref_ReadImage.r1 K l (i,op,regs)=some (.inr (.inr (none,⟨c,(i:Int)⟩))))):=by
  obtain ⟨e,he⟩:∃ e,l[i]?=some e:=⟨l[i],List.getElem?_eq_getElem hi⟩
  have h:=H.R
  have hop:=h.small
  have hfew:=H.few
  have hp0:mach_looker_region.p0 l op inn m (i:Int)=some (.inl (topOf op,e.Op,e.A,e.B)):=by
    unfold mach_looker_region.p0
    rw [if_pos (by omega)]
    simp only [Int.toNat_natCast,he,top_eq l op inn m (by omega)]
  obtain ⟨y,hy⟩:∃ y,inn[i]?=some y:=⟨inn[i]'(by rw [h.len]; exact hi),List.getElem?_eq_getElem (by rw [h.len]; exact hi)⟩
  have hlen:(inn.set i (topOf op)).length=l.length:=by rw [List.length_set]; exact h.len
  have hob:∀ o ∈ op,0≤o∧o<(l.length:Int):=fun o ho=>by
    obtain ⟨k,e',rfl,hk,_⟩:=h.open_ o ho
    omega
  have hhold:=fun x a=>holds_some l op (inn.set i (topOf op)) m x a K (by omega) hob
  -- what lies where,ahead of i and at i
  have hatop:InTop op regs i (topOf op):=by
    rcases List.eq_nil_or_concat op with h0 | ⟨o,t,h0⟩
    · left
      refine ⟨by rw [h0]; rfl,fun x hx=>?_⟩
      obtain ⟨h1,h2 | ⟨c,h2,h3⟩⟩:=hx
      · rw [h0] at h2; cases h2
      · obtain ⟨o,c',hr,_,hc,_⟩:=H.reg _ h2
        injection hr with hr1 hr2
        omega
    · rw [List.concat_eq_append] at h0
      have htop:topOf op=t:=by rw [h0]; simp [topOf]
      have ht:t ∈ op:=by rw [h0]; simp
      obtain ⟨kt,_,hkt,hlt,_⟩:=h.open_ t ht
      right
      rw [htop]
      refine ⟨by omega,⟨by omega,.inl ht⟩,fun x hx=>?_⟩
      obtain ⟨h1,h2 | ⟨c,h2,h3⟩⟩:=hx
      · rw [h0] at h2
        rcases List.mem_append.1 h2 with h2 | h2
        · have hup:=h.up
          rw [h0] at hup
          have:=(List.pairwise_append.1 hup).2.2 x h2 t (by simp)
          omega
        · rw [List.mem_singleton.1 h2]; exact Int.le_refl _
      · obtain ⟨o,c',hr,_,hc,_⟩:=H.reg _ h2
        injection hr with hr1 hr2
        omega
  have tops:∀ {op':List Int} {regs':List Sregion},(∀ k,k≤i→∀ o,Cont op regs k o ↔ Cont op' regs' k o)→∀ (k:Nat) (t:Int),k<i+1→(inn.set i (topOf op))[k]?=some t→InTop op' regs' k t:=fun hc k t hk ht=>by
    by_cases hki:k=i
    · subst hki
      rw [List.getElem?_set_self (by rw [h.len]; exact hi)] at ht
      cases ht
      exact hatop.congr (hc k (Nat.le_refl _))
    · rw [List.getElem?_set_ne (fun e=>hki e.symm)] at ht
      exact (H.top k t (by omega) ht).congr (hc k (by omega))
  have regs1:∀ r ∈ regs,∃ o c:Nat,r=⟨(o:Int),(c:Int)⟩∧o<c∧c<i+1∧mget m (o:Int)=some (c:Int):=fun r hr=>by
    obtain ⟨o,c,h1,h2,h3,h4⟩:=H.reg r hr
    exact ⟨o,c,h1,h2,by omega,h4⟩
  -- one that opens none and closes none
  have stay:(e.Op ≠ 13∧e.Op ≠ 16∧e.Op ≠ 14)→Both l (i+1) op (inn.set i (topOf op)) m regs:=fun hne=>⟨⟨hlen,fun o ho=>by
      obtain ⟨k,e',h1,h2,h3⟩:=h.open_ o ho
      exact ⟨k,e',h1,by omega,h3⟩,h.up,by omega,fun k f hk hf hfo=>by
      by_cases hki:k=i
      · subst hki; rw [he] at hf; cases hf; omega
      · rcases h.shut k f (by omega) hf hfo with h1 | ⟨c,h1,h2,h3⟩
        · exact .inl h1
        · exact .inr ⟨c,h1,h2,by omega⟩,fun k f hk hf hf14=>by
      by_cases hki:k=i
      · subst hki; rw [he] at hf; cases hf; omega
      · exact h.back k f (by omega) hf hf14⟩,regs1,H.shut,H.fresh,by omega,tops (fun k hk o=>Iff.rfl),fun k f hk hf hf14=>by
      by_cases hki:k=i
      · subst hki; rw [he] at hf; cases hf; omega
      · exact H.back k f (by omega) hf hf14⟩
  -- one that opens one
  have opens:(e.Op=13 ∨ e.Op=16)→Both l (i+1) (op++[(i:Int)]) (inn.set i (topOf op)) m regs:=fun ho=>⟨⟨hlen,fun o ho'=>by
      rcases List.mem_append.1 ho' with h1 | h1
      · obtain ⟨k,e',h1,h2,h3⟩:=h.open_ o h1
        exact ⟨k,e',h1,by omega,h3⟩
      · exact ⟨i,e,List.mem_singleton.1 h1,by omega,he,ho⟩,List.pairwise_append.2 ⟨h.up,by simp,fun a ha b hb=>by
      rw [List.mem_singleton.1 hb]
      obtain ⟨k,_,rfl,hk,_⟩:=h.open_ a ha
      omega⟩,by simp; omega,fun k f hk hf hfo=>by
      by_cases hki:k=i
      · subst hki; exact .inl (by simp)
      · rcases h.shut k f (by omega) hf hfo with h1 | ⟨c,h1,h2,h3⟩
        · exact .inl (by simp [h1])
        · exact .inr ⟨c,h1,h2,by omega⟩,fun k f hk hf hf14=>by
      by_cases hki:k=i
      · subst hki; rw [he] at hf; cases hf; omega
      · exact h.back k f (by omega) hf hf14⟩,regs1,H.shut,fun o ho'=>by
      rcases List.mem_append.1 ho' with h1 | h1
      · exact H.fresh o h1
      · rw [List.mem_singleton.1 h1]
        cases hm:mget m (i:Int) with
        | none=>rfl
        | some c =>
          obtain ⟨o,c',hr,h2,h3,_⟩:=H.reg _ (H.shut _ _ hm)
          injection hr with hr1 hr2
          omega,by omega,tops (fun k hk o=>by
      unfold Cont
      constructor
      · rintro ⟨h1,h2 | h2⟩
        · exact ⟨h1,.inl (by simp [h2])⟩
        · exact ⟨h1,.inr h2⟩
      · rintro ⟨h1,h2 | h2⟩
        · rcases List.mem_append.1 h2 with h2 | h2
          · exact ⟨h1,.inl h2⟩
          · have:=List.mem_singleton.1 h2; omega
        · exact ⟨h1,.inr h2⟩),fun k f hk hf hf14=>by
      by_cases hki:k=i
      · subst hki; rw [he] at hf; cases hf; omega
      · exact H.back k f (by omega) hf hf14⟩
  -- one that closes one
  have closes:∀ (o:List Int) (t:Int),op=o++[t]→(e.Op=14∧e.B=t+1 ∨ e.Op=17)→Both l (i+1) o (inn.set i (topOf op)) (mset m t (i:Int)) (regs++[⟨t,(i:Int)⟩]):=fun o t hot hco=>by
    have hup:=h.up
    rw [hot] at hup
    have hup:=List.pairwise_append.1 hup
    have ht:t ∈ op:=by rw [hot]; simp
    obtain ⟨kt,et,hkt,hlt,_,_⟩:=h.open_ t ht
    have hfr:=H.fresh t ht
    have hsub:∀ x ∈ o,x ∈ op:=fun x hx=>by rw [hot]; simp [hx]
    have hno:∀ x ∈ o,x ≠ t:=fun x hx hxt=>by have:=hup.2.2 x hx t (by simp); omega
    refine ⟨⟨hlen,fun o' ho'=>by
      obtain ⟨k,e',h1,h2,h3⟩:=h.open_ o' (hsub o' ho')
      exact ⟨k, e', h1, by omega, h3⟩, hup.1, by have : op.length = o.length + 1 := by rw [hot]; simp
                                                 omega,fun k f hk hf hfo=>?_,fun k f hk hf hf14=>?_⟩,fun r hr=>?_,fun x c hx=>?_,fun x hx=>?_,by simp; omega,tops (fun k hk x=>?_),fun k f hk hf hf14=>?_⟩
    · rw [mget_mset']
      by_cases hki:k=i
      · subst hki; rw [he] at hf; cases hf; omega
      · rcases h.shut k f (by omega) hf hfo with h1 | ⟨c,h1,h2,h3⟩
        · rw [hot] at h1
          rcases List.mem_append.1 h1 with h1 | h1
          · exact .inl h1
          · have:=List.mem_singleton.1 h1
            rw [if_pos this]
            exact .inr ⟨i,rfl,by omega,by omega⟩
        · by_cases hkt':(k:Int)=t
          · rw [if_pos hkt']
            exact .inr ⟨i,rfl,by omega,by omega⟩
          · rw [if_neg hkt']
            exact .inr ⟨c,h1,h2,by omega⟩
    · by_cases hki:k=i
      · subst hki; rw [he] at hf; cases hf
        rcases hco with ⟨_,h1⟩ | h1
        · omega
        · omega
      · exact h.back k f (by omega) hf hf14
    · rcases List.mem_append.1 hr with hr | hr
      · obtain ⟨a,c,h1,h2,h3,h4⟩:=H.reg r hr
        refine ⟨a,c,h1,h2,by omega,?_⟩
        rw [mget_mset',if_neg (fun hat=>by rw [hat,hfr] at h4; cases h4)]
        exact h4
      · rw [List.mem_singleton.1 hr]
        exact ⟨kt,i,by rw [hkt],by omega,by omega,by rw [mget_mset',if_pos hkt.symm]⟩
    · rw [mget_mset'] at hx
      split at hx
      · rename_i hxt
        cases hx
        rw [hxt]; simp
      · exact List.mem_append_left _ (H.shut x c hx)
    · rw [mget_mset',if_neg (hno x hx)]
      exact H.fresh x (hsub x hx)
    · unfold Cont
      constructor
      · rintro ⟨h1,h2 | ⟨c,h2,h3⟩⟩
        · rw [hot] at h2
          rcases List.mem_append.1 h2 with h2 | h2
          · exact ⟨h1,.inl h2⟩
          · rw [List.mem_singleton.1 h2] at h1 ⊢
            exact ⟨h1,.inr ⟨(i:Int),by simp,by omega⟩⟩
        · exact ⟨h1,.inr ⟨c,by simp [h2],h3⟩⟩
      · rintro ⟨h1,h2 | ⟨c,h2,h3⟩⟩
        · exact ⟨h1,.inl (hsub x h2)⟩
        · rcases List.mem_append.1 h2 with h2 | h2
          · exact ⟨h1,.inr ⟨c,h2,h3⟩⟩
          · have hr:=List.mem_singleton.1 h2
            injection hr with hr1 hr2
            exact ⟨h1,.inl (by rw [hr1]; exact ht)⟩
    · by_cases hki:k=i
      · subst hki; rw [he] at hf; cases hf
        rcases hco with ⟨_,h1⟩ | h1
        · omega
        · omega
      · exact H.back k f (by omega) hf hf14
  have htop:∀ {z:Int},topOf op=z→¬ z<0→∃ o,op=o++[z]:=fun {z} hz h0=>by
    rcases List.eq_nil_or_concat op with rfl | ⟨o,t,rfl⟩
    · simp [topOf] at hz; omega
    · rw [List.concat_eq_append] at hz ⊢
      simp [topOf] at hz
      exact ⟨o,by rw [hz]⟩
  have hr2:=refTop_eq op (by omega)
  generalize hz:topOf op=z at *
  have hc1:(0:Int)≤(i:Int):=by omega
  have hc2:(i:Int)<(l.length:Int):=by omega
  have hc3:op.length<17592186044416:=by omega
  have hc4:regs.length<8796093022208:=by omega
  unfold mach_looker_region.f
  rw [hp0]
  simp only [Int.toNat_natCast,hy,punctualref_ReadImage.r1,he,hr2,if_pos hc1,if_pos hc2]
  by_cases h13:e.Op=13
  · have hp1:mach_looker_region.p1 e.Op=some (.inl true):=by unfold mach_looker_region.p1; rw [if_pos h13]
    have hp3:punctualref_ReadImage.p3 e=some (.inl true):=by unfold punctualref_ReadImage.p3; rw [if_pos h13]
    obtain ⟨b,hb⟩:=hhold e.Op e.A
    simp only [hp1,hp3,if_true,among_eq K l op (inn.set i z) m,hb]
    cases b with
    | true =>
      simp only [if_true,if_pos h13]
      refine ⟨_,_,_,_,rfl,.inr ⟨by decide,?_⟩⟩
      rw [h13]; rfl
    | false =>
      simp only [Bool.false_eq_true,if_false,if_pos hc3]
      exact ⟨_,_,_,_,rfl,.inl ⟨rfl,_,rfl,opens (.inl h13)⟩⟩
  by_cases h16:e.Op=16
  · have hp1:mach_looker_region.p1 e.Op=some (.inl true):=by unfold mach_looker_region.p1; rw [if_neg h13,h16]; rfl
    have hp3:punctualref_ReadImage.p3 e=some (.inl true):=by unfold punctualref_ReadImage.p3; rw [if_neg h13,h16]; rfl
    obtain ⟨b,hb⟩:=hhold e.Op e.A
    simp only [hp1,hp3,if_true,among_eq K l op (inn.set i z) m,hb]
    cases b with
    | true =>
      simp only [if_true,if_neg h13]
      refine ⟨_,_,_,_,rfl,.inr ⟨by decide,?_⟩⟩
      rw [h16]; rfl
    | false =>
      simp only [Bool.false_eq_true,if_false,if_pos hc3]
      exact ⟨_,_,_,_,rfl,.inl ⟨rfl,_,rfl,opens (.inr h16)⟩⟩
  have hp1:mach_looker_region.p1 e.Op=some (.inl false):=by
    unfold mach_looker_region.p1
    rw [if_neg h13]
    have:(e.Op==16)=false:=by simpa using h16
    rw [this]
  have hp3:punctualref_ReadImage.p3 e=some (.inl false):=by
    unfold punctualref_ReadImage.p3
    rw [if_neg h13]
    have:(e.Op==16)=false:=by simpa using h16
    rw [this]
  simp only [hp1,hp3,Bool.false_eq_true,if_false]
  have hcut:∀ o:List Int,op=o++[z]→IntKind.i64.wrap ((op.length:Int)-1)=(o.length:Int)∧op.take o.length=o∧o.length≤op.length:=fun o ho=>by
    have:op.length=o.length+1:=by rw [ho]; simp
    refine ⟨by rw [wrap64_small (by omega) (by omega)]; omega,by rw [ho]; simp,by omega⟩
  by_cases h14:e.Op=14
  · have hp4:punctualref_ReadImage.p4 e=some (.inl true):=by unfold punctualref_ReadImage.p4; rw [if_pos h14]
    have e9:((mget (mset (mset ([]:List (Int×Int)) 14 9) 17 10) e.Op).getD 0)=9:=by rw [h14]; rfl
    have e13:((mget (mset (mset ([]:List (Int×Int)) 14 13) 17 16) e.Op).getD 0)=13:=by rw [h14]; rfl
    simp only [hp4,if_true]
    rw [if_pos h14]
    unfold punctualref_ReadImage.p5
    simp only [e9,e13]
    by_cases hz0:z<0
    · rw [if_pos hz0,if_pos hz0]; exact ⟨_,_,_,_,rfl,.inr ⟨by decide,rfl⟩⟩
    have hz1:0≤z:=by omega
    rw [if_neg hz0,if_neg hz0,if_pos hz1,if_pos hz1]
    obtain ⟨o,hopo⟩:=htop rfl hz0
    obtain ⟨kt,et,hkt0,hkt,het,_⟩:=h.open_ z (by rw [hopo]; simp)
    have hzn:z.toNat=kt:=by omega
    simp only [hzn,het]
    by_cases g1:et.Op=13
    case neg=>rw [if_neg g1,if_neg g1]; exact ⟨_,_,_,_,rfl,.inr ⟨by decide,rfl⟩⟩
    rw [if_pos g1,if_pos g1]
    by_cases g2:et.A=e.A
    case neg=>rw [if_neg g2,if_neg g2]; exact ⟨_,_,_,_,rfl,.inr ⟨by decide,rfl⟩⟩
    rw [if_pos g2,if_pos g2,if_pos h14]
    by_cases g3:e.B=IntKind.i64.wrap (z+1)
    case neg=>rw [if_neg g3,if_neg g3]; exact ⟨_,_,_,_,rfl,.inr ⟨by decide,rfl⟩⟩
    rw [if_pos g3,if_pos g3]
    obtain ⟨c1,c2,c3⟩:=hcut o hopo
    rw [c1]
    have hc5:(0:Int)≤(o.length:Int):=by omega
    simp only [Int.toNat_natCast,c2,if_pos hc4,if_pos hc5,if_pos c3]
    rw [wrap64_small (by omega) (by omega)] at g3
    have hcl:=close_eq l o (inn.set i z) z m (i:Int) (by omega)
    rw [← hopo] at hcl
    rw [hcl]
    exact ⟨_,_,_,_,rfl,.inl ⟨rfl,_,rfl,closes o z hopo (.inl ⟨h14,g3⟩)⟩⟩
  rw [if_neg h14]
  by_cases h17:e.Op=17
  · have hp4:punctualref_ReadImage.p4 e=some (.inl true):=by unfold punctualref_ReadImage.p4; rw [if_neg h14,h17]; rfl
    have e9:((mget (mset (mset ([]:List (Int×Int)) 14 9) 17 10) e.Op).getD 0)=10:=by rw [h17]; rfl
    have e13:((mget (mset (mset ([]:List (Int×Int)) 14 13) 17 16) e.Op).getD 0)=16:=by rw [h17]; rfl
    simp only [hp4,if_true]
    rw [if_pos h17]
    unfold punctualref_ReadImage.p5
    simp only [e9,e13]
    by_cases hz0:z<0
    · rw [if_pos hz0,if_pos hz0]; exact ⟨_,_,_,_,rfl,.inr ⟨by decide,rfl⟩⟩
    have hz1:0≤z:=by omega
    rw [if_neg hz0,if_neg hz0,if_pos hz1,if_pos hz1]
    obtain ⟨o,hopo⟩:=htop rfl hz0
    obtain ⟨kt,et,hkt0,hkt,het,_⟩:=h.open_ z (by rw [hopo]; simp)
    have hzn:z.toNat=kt:=by omega
    simp only [hzn,het]
    by_cases g1:et.Op=16
    case neg=>rw [if_neg g1,if_neg g1]; exact ⟨_,_,_,_,rfl,.inr ⟨by decide,rfl⟩⟩
    rw [if_pos g1,if_pos g1]
    by_cases g2:et.A=e.A
    case neg=>rw [if_neg g2,if_neg g2]; exact ⟨_,_,_,_,rfl,.inr ⟨by decide,rfl⟩⟩
    rw [if_pos g2,if_pos g2,if_neg h14]
    obtain ⟨c1,c2,c3⟩:=hcut o hopo
    rw [c1]
    have hc5:(0:Int)≤(o.length:Int):=by omega
    simp only [Int.toNat_natCast,c2,if_pos hc4,if_pos hc5,if_pos c3]
    have hcl:=close_eq l o (inn.set i z) z m (i:Int) (by omega)
    rw [← hopo] at hcl
    rw [hcl]
    exact ⟨_,_,_,_,rfl,.inl ⟨rfl,_,rfl,closes o z hopo (.inr h17)⟩⟩
  rw [if_neg h17]
  have hp4:punctualref_ReadImage.p4 e=some (.inl false):=by
    unfold punctualref_ReadImage.p4
    rw [if_neg h14]
    have:(e.Op==17)=false:=by simpa using h17
    rw [this]
  simp only [hp4,Bool.false_eq_true,if_false]
  by_cases h15:e.Op=15
  · rw [if_pos h15,if_pos h15]
    obtain ⟨b,hb⟩:=hhold 13 e.A
    simp only [among_eq K l op (inn.set i z) m,hb]
    cases b with
    | true=>simp only [if_true]; exact ⟨_,_,_,_,rfl,.inl ⟨rfl,_,rfl,stay ⟨h13,h16,h14⟩⟩⟩
    | false=>simp only [Bool.false_eq_true,if_false]; exact ⟨_,_,_,_,rfl,.inr ⟨by decide,rfl⟩⟩
  · rw [if_neg h15,if_neg h15]
    exact ⟨_,_,_,_,rfl,.inl ⟨rfl,_,rfl,stay ⟨h13,h16,h14⟩⟩⟩

theorem inner_spec (l:List SIns) (K:Nat) (regs:List Sregion) (x:Int) (hK:regs.length<K):∃ r,punctualref_Image_inner.f K l regs x=some r∧((r=(⟨0,0⟩,false)∧∀ q ∈ regs,¬ (q.open_<x∧x≤q.close)) ∨ (r.2=true∧r.1 ∈ regs∧r.1.open_<x∧x≤r.1.close∧∀ q ∈ regs,q.open_<x→x≤q.close→q.open_≤r.1.open_)):=by
  obtain ⟨r,hr,h⟩:=iter_total (f:=punctualref_Image_inner.r0 regs x) (fun s=>s.2.1≤regs.length∧((s.1=false∧s.2.2=(0,0)∧∀ (j:Nat) (q:Sregion),j<s.2.1→regs[j]?=some q→¬ (q.open_<x∧x≤q.close)) ∨ (s.1=true∧(⟨s.2.2.1,s.2.2.2⟩:Sregion) ∈ regs∧s.2.2.1<x∧x≤s.2.2.2∧∀ (j:Nat) (q:Sregion),j<s.2.1→regs[j]?=some q→q.open_<x→x≤q.close→q.open_≤s.2.2.1))) (fun s=>regs.length-s.2.1)
    (fun r=>∃ b z1 z2,r=.inl (b,z1,z2)∧((b=false∧z1=0∧z2=0∧∀ q ∈ regs,¬ (q.open_<x∧x≤q.close)) ∨ (b=true∧(⟨z1,z2⟩:Sregion) ∈ regs∧z1<x∧x≤z2∧∀ q ∈ regs,q.open_<x→x≤q.close→q.open_≤z1))) (fun s ⟨hi,hI⟩=>by
      obtain ⟨b,i,z1,z2⟩:=s
      simp only at hi hI
      by_cases hlt:i<regs.length
      · obtain ⟨q,hq⟩:∃ q,regs[i]?=some q:=⟨regs[i],List.getElem?_eq_getElem hlt⟩
        have hc:(i:Int)<(regs.length:Int):=by omega
        have hmem:=List.mem_of_getElem? hq
        have skip:¬ (q.open_<x∧x≤q.close)→i+1≤regs.length∧((b=false∧(z1,z2)=(0,0)∧∀ (j:Nat) (q:Sregion),j<i+1→regs[j]?=some q→¬ (q.open_<x∧x≤q.close)) ∨ (b=true∧(⟨z1,z2⟩:Sregion) ∈ regs∧z1<x∧x≤z2∧∀ (j:Nat) (q:Sregion),j<i+1→regs[j]?=some q→q.open_<x→x≤q.close→q.open_≤z1)):=fun hn=>⟨hlt,by
          rcases hI with ⟨h1,h2,h3⟩ | ⟨h1,h2,h3,h4,h5⟩
          · refine .inl ⟨h1,h2,fun j p hj hp=>?_⟩
            by_cases hji:j=i
            · subst hji; rw [hq] at hp; cases hp; exact hn
            · exact h3 j p (by omega) hp
          · refine .inr ⟨h1,h2,h3,h4,fun j p hj hp g1 g2=>?_⟩
            by_cases hji:j=i
            · subst hji; rw [hq] at hp; cases hp; exact absurd ⟨g1,g2⟩ hn
            · exact h5 j p (by omega) hp g1 g2⟩
        have take:q.open_<x→x≤q.close→(b=true→z1<q.open_)→i+1≤regs.length∧((true=false∧(q.open_,q.close)=(0,0)∧∀ (j:Nat) (q:Sregion),j<i+1→regs[j]?=some q→¬ (q.open_<x∧x≤q.close)) ∨ (true=true∧(⟨q.open_,q.close⟩:Sregion) ∈ regs∧q.open_<x∧x≤q.close∧∀ (j:Nat) (p:Sregion),j<i+1→regs[j]?=some p→p.open_<x→x≤p.close→p.open_≤q.open_)):=fun g1 g2 g3=>⟨hlt,.inr ⟨rfl,hmem,g1,g2,fun j p hj hp k1 k2=>by
          by_cases hji:j=i
          · subst hji; rw [hq] at hp; cases hp; exact Int.le_refl _
          · rcases hI with ⟨h1,h2,h3⟩ | ⟨h1,h2,h3,h4,h5⟩
            · exact absurd ⟨k1,k2⟩ (h3 j p (by omega) hp)
            · have:=h5 j p (by omega) hp k1 k2
              have:=g3 h1
              omega⟩⟩
        left
        simp only [punctualref_Image_inner.r0,hq,if_pos hc]
        by_cases g1:q.open_<x
        · rw [if_pos g1]
          by_cases g2:x≤q.close
          · rw [if_pos g2]
            cases b with
            | true =>
              rw [if_pos rfl]
              by_cases g3:q.open_ > z1
              · rw [if_pos g3]; exact ⟨_,rfl,take g1 g2 (fun _=>g3),by simp only; omega⟩
              · rw [if_neg g3]
                refine ⟨_,rfl,⟨hlt,.inr ?_⟩,by simp only; omega⟩
                rcases hI with ⟨h1,h2,h3⟩ | ⟨h1,h2,h3,h4,h5⟩
                · cases h1
                · refine ⟨h1,h2,h3,h4,fun j p hj hp k1 k2=>?_⟩
                  simp only at hj ⊢
                  by_cases hji:j=i
                  · subst hji; rw [hq] at hp; cases hp; omega
                  · exact h5 j p (by omega) hp k1 k2
            | false =>
              rw [if_neg (by decide)]; exact ⟨_,rfl,take g1 g2 (fun h=>by cases h),by simp only; omega⟩
          · rw [if_neg g2]; exact ⟨_,rfl,skip (fun h=>g2 h.2),by simp only; omega⟩
        · rw [if_neg g1]; exact ⟨_,rfl,skip (fun h=>g1 h.1),by simp only; omega⟩
      · right
        have hc:¬ (i:Int)<(regs.length:Int):=by omega
        simp only [punctualref_Image_inner.r0,if_neg hc]
        refine ⟨_,rfl,_,_,_,rfl,?_⟩
        rcases hI with ⟨h1,h2,h3⟩ | ⟨h1,h2,h3,h4,h5⟩
        · cases h2
          refine .inl ⟨h1,rfl,rfl,fun q hq=>?_⟩
          obtain ⟨j,hj⟩:=List.mem_iff_getElem?.1 hq
          exact h3 j q (by have:=lt_of_get hj; omega) hj
        · refine .inr ⟨h1,h2,h3,h4,fun q hq=>?_⟩
          obtain ⟨j,hj⟩:=List.mem_iff_getElem?.1 hq
          exact h5 j q (by have:=lt_of_get hj; omega) hj) K (false,0,0,0) ⟨Nat.zero_le _,.inl ⟨rfl,rfl,fun j q hj=>by simp at hj⟩⟩ (by simp only; omega)
  obtain ⟨b,z1,z2,rfl,h⟩:=h
  unfold punctualref_Image_inner.f
  rw [hr]
  refine ⟨_,rfl,?_⟩
  rcases h with ⟨rfl,rfl,rfl,h⟩ | ⟨rfl,h1,h2,h3,h4⟩
  · exact .inl ⟨rfl,h⟩
  · exact .inr ⟨rfl,h1,h2,h3,h4⟩
theorem inner_at {l:List SIns} {n:Nat} {inn:List Int} {m:List (Int×Int)} {regs:List Sregion} (H:Both l n [] inn m regs) (K:Nat) (hK:regs.length<K) {k:Nat} {t:Int} (hk:k<n) (ht:inn[k]?=some t) :
    ∃ r,punctualref_Image_inner.f K l regs (k:Int)=some r∧((t=-1∧r=(⟨0,0⟩,false)) ∨ (0≤t∧∃ c,r=(⟨t,c⟩,true)∧mget m t=some c)):=by
  obtain ⟨r,hr,h⟩:=inner_spec l K regs (k:Int) hK
  refine ⟨r,hr,?_⟩
  have hreg:=fun (q:Sregion) (hq:q ∈ regs)=>H.reg q hq
  rcases H.top k t hk ht with ⟨h1,h2⟩ | ⟨h1,⟨h2,h3⟩,h4⟩
  · refine .inl ⟨h1,?_⟩
    rcases h with ⟨h,_⟩ | ⟨_,g2,g3,g4,_⟩
    · exact h
    · exact absurd ⟨g3,.inr ⟨r.1.close,g2,g4⟩⟩ (h2 r.1.open_)
  · obtain ⟨c,hc1,hc2⟩:=h3.resolve_left (by simp)
    refine .inr ⟨h1,?_⟩
    rcases h with ⟨_,h⟩ | ⟨g1,g2,g3,g4,g5⟩
    · exact absurd ⟨h2,hc2⟩ (h _ hc1)
    · obtain ⟨⟨a,b⟩,q⟩:=r
      simp only at g1 g2 g3 g4 g5
      subst g1
      have e1:=g5 _ hc1 h2 hc2
      have e2:=h4 a ⟨g3,.inr ⟨b,g2,g4⟩⟩
      simp only at e1
      have:a=t:=by omega
      subst this
      obtain ⟨o,c',q1,_,_,q2⟩:=hreg _ g2
      injection q1 with q3 q4
      exact ⟨b,rfl,by rw [q3,q4]; exact q2⟩
theorem inner_end {l:List SIns} {n:Nat} {inn:List Int} {m:List (Int×Int)} {regs:List Sregion} (H:Both l n [] inn m regs) (K:Nat) (hK:regs.length<K) :
    punctualref_Image_inner.f K l regs (n:Int)=some (⟨0,0⟩,false):=by
  obtain ⟨r,hr,h⟩:=inner_spec l K regs (n:Int) hK
  rcases h with ⟨h,_⟩ | ⟨_,g2,g3,g4,_⟩
  · rw [hr,h]
  · obtain ⟨o,c,q1,_,q3,_⟩:=H.reg _ g2
    rw [q1] at g4
    simp only at g4
    omega
theorem jumps_both {l:List SIns} {inn:List Int} {m:List (Int×Int)} {regs:List Sregion} (H:Both l l.length [] inn m regs) (hok:∀ (i:Nat) (e:SIns),l[i]?=some e→OkI e) (hl:l.length≤2000) (K:Nat) (hK:4000<K) :
    ∃ r r',iter (mach_Look.r2 l inn) K 0=some r∧iter (punctualref_ReadImage.r6 K l regs) K 0=some r'∧((r=.inl ()∧r'=.inl ()∧Jump l∧∀ (k:Nat) (e:SIns),l[k]?=some e→(e.Op=11 ∨ e.Op=12)→∃ t,inn[k]?=some t∧(e.A<(l.length:Int)→inn[e.A.toNat]?=some t)∧(e.A=(l.length:Int)→t=-1)) ∨ ∃ s x,r=.inr (s,x)∧r'=.inr (none,x)∧x.Code ≠ 0):=by
  have hin:=H.R.len
  have hfew:=H.few
  obtain ⟨r,r',h1,h2,h3⟩:=iter_sim (f:=mach_Look.r2 l inn) (g:=punctualref_ReadImage.r6 K l regs) (fun i j=>i=j∧i≤l.length∧∀ (k:Nat) (e:SIns),k<i→l[k]?=some e→(e.Op=11 ∨ e.Op=12)→((k:Int)<e.A∧e.A≤(l.length:Int))∧∃ t,inn[k]?=some t∧(e.A<(l.length:Int)→inn[e.A.toNat]?=some t)∧(e.A=(l.length:Int)→t=-1)) (fun i=>l.length-i)
    (fun r r'=>(r=.inl ()∧r'=.inl ()∧∀ (k:Nat) (e:SIns),l[k]?=some e→(e.Op=11 ∨ e.Op=12)→((k:Int)<e.A∧e.A≤(l.length:Int))∧∃ t,inn[k]?=some t∧(e.A<(l.length:Int)→inn[e.A.toNat]?=some t)∧(e.A=(l.length:Int)→t=-1)) ∨ ∃ s x,r=.inr (s,x)∧r'=.inr (none,x)∧x.Code ≠ 0) (fun i j ⟨hij,hi,hI⟩=>by
    subst hij
    by_cases hlt:i<l.length
    · obtain ⟨e,he⟩:∃ e,l[i]?=some e:=⟨l[i],List.getElem?_eq_getElem hlt⟩
      have hA:=(hok i e he).A
      have hc:(i:Int)<(l.length:Int):=by omega
      obtain ⟨y,hy⟩:∃ y,inn[i]?=some y:=⟨inn[i]'(by omega),List.getElem?_eq_getElem (by omega)⟩
      obtain ⟨ri,hri,hri2⟩:=inner_at H K (by omega) hlt hy
      have next:((e.Op=11 ∨ e.Op=12)→((i:Int)<e.A∧e.A≤(l.length:Int))∧∃ t,inn[i]?=some t∧(e.A<(l.length:Int)→inn[e.A.toNat]?=some t)∧(e.A=(l.length:Int)→t=-1))→i=i∧i+1≤l.length∧∀ (k:Nat) (e:SIns),k<i+1→l[k]?=some e→(e.Op=11 ∨ e.Op=12)→((k:Int)<e.A∧e.A≤(l.length:Int))∧∃ t,inn[k]?=some t∧(e.A<(l.length:Int)→inn[e.A.toNat]?=some t)∧(e.A=(l.length:Int)→t=-1):=fun h=>⟨rfl,hlt,fun k f hk hf hop=>by
        by_cases hki:k=i
        · subst hki; rw [he] at hf; cases hf; exact h hop
        · exact hI k f (by omega) hf hop⟩
      obtain ⟨ra,hra,hra2⟩:=inner_spec l K regs e.A (by omega)
      simp only [mach_Look.r2,punctualref_ReadImage.r6,he,hy,if_pos hc,hri,hra,if_pos hA]
      -- what the comparison comes to
      have cmpIn:(i:Int)<e.A→e.A<(l.length:Int)→∃ x,inn[e.A.toNat]?=some x∧((x=y∧ri.2=ra.2∧Sregion.eqb ri.1 ra.1=true) ∨ (x ≠ y∧¬ (ri.2=ra.2∧Sregion.eqb ri.1 ra.1=true))):=fun g1 g2=>by
        obtain ⟨x,hx⟩:∃ x,inn[e.A.toNat]?=some x:=⟨inn[e.A.toNat]'(by omega),List.getElem?_eq_getElem (by omega)⟩
        obtain ⟨rb,hrb,hrb2⟩:=inner_at H K (by omega) (k:=e.A.toNat) (by omega) hx
        have:((e.A.toNat:Nat):Int)=e.A:=by omega
        rw [this,hra] at hrb
        cases hrb
        refine ⟨x,hx,?_⟩
        rcases hri2 with ⟨a1,a2⟩ | ⟨a1,c,a2,a3⟩ <;> rcases hrb2 with ⟨b1,b2⟩ | ⟨b1,d,b2,b3⟩
        · left; subst a1; subst b1; subst a2; subst b2; exact ⟨rfl,rfl,rfl⟩
        · right; subst a2; subst b2; exact ⟨by omega,fun h=>by simp at h⟩
        · right; subst a2; subst b2; exact ⟨by omega,fun h=>by simp at h⟩
        · subst a2; subst b2
          by_cases hxy:x=y
          · left
            subst hxy
            rw [a3] at b3
            cases b3
            exact ⟨rfl,rfl,by simp [Sregion.eqb]⟩
          · right
            refine ⟨hxy,fun h=>?_⟩
            simp only [Sregion.eqb,Bool.and_eq_true,beq_iff_eq] at h
            exact hxy h.2.1.symm
      have cmpEnd:e.A=(l.length:Int)→((-1:Int)=y∧ri.2=ra.2∧Sregion.eqb ri.1 ra.1=true) ∨ ((-1:Int) ≠ y∧¬ (ri.2=ra.2∧Sregion.eqb ri.1 ra.1=true)):=fun g=>by
        have hend:=inner_end H K (by omega)
        rw [← g,hra] at hend
        cases hend
        rcases hri2 with ⟨a1,a2⟩ | ⟨a1,c,a2,a3⟩
        · left; subst a2; subst a1; exact ⟨rfl,rfl,rfl⟩
        · right; subst a2; exact ⟨by omega,fun h=>by simp at h⟩
      have bad:∀ (A B:Option (Nat ⊕ (Unit ⊕ (SShape×SFault)))) (C:Option (Nat ⊕ (Unit ⊕ ((Option PImage)×SFault)))),(∃ s,A=some (.inr (.inr (s,⟨7,(i:Int)⟩))))→C=some (.inr (.inr (none,⟨7,(i:Int)⟩)))→(∃ s' t',A=some (.inl s')∧C=some (.inl t')∧(s'=t'∧s'≤l.length∧∀ (k:Nat) (e:SIns),k<s'→l[k]?=some e→(e.Op=11 ∨ e.Op=12)→((k:Int)<e.A∧e.A≤(l.length:Int))∧∃ t,inn[k]?=some t∧(e.A<(l.length:Int)→inn[e.A.toNat]?=some t)∧(e.A=(l.length:Int)→t=-1))∧l.length-s'<l.length-i) ∨ (∃ r r',A=some (.inr r)∧C=some (.inr r')∧((r=.inl ()∧r'=.inl ()∧∀ (k:Nat) (e:SIns),l[k]?=some e→(e.Op=11 ∨ e.Op=12)→((k:Int)<e.A∧e.A≤(l.length:Int))∧∃ t,inn[k]?=some t∧(e.A<(l.length:Int)→inn[e.A.toNat]?=some t)∧(e.A=(l.length:Int)→t=-1)) ∨ ∃ s x,r=.inr (s,x)∧r'=.inr (none,x)∧x.Code ≠ 0)):=fun A B C ⟨s,hs⟩ hC=>.inr ⟨_,_,hs,hC,.inr ⟨_,_,rfl,rfl,by simp⟩⟩
      by_cases hAl:e.A<(l.length:Int)
      · obtain ⟨x,hx⟩:∃ x,inn[e.A.toNat]?=some x:=⟨inn[e.A.toNat]'(by omega),List.getElem?_eq_getElem (by omega)⟩
        simp only [hx,if_pos hAl]
        by_cases h11:e.Op=11
        · rw [if_pos h11,if_pos h11]
          by_cases g1:e.A≤(i:Int)
          · rw [if_pos g1,if_pos g1]; exact bad _ none _ ⟨_,rfl⟩ rfl
          rw [if_neg g1,if_neg g1]
          by_cases g2:e.A > (l.length:Int)
          · omega
          rw [if_neg g2,if_neg g2]
          obtain ⟨x',hx',hcmp⟩:=cmpIn (by omega) hAl
          rw [hx] at hx'
          cases hx'
          rcases hcmp with ⟨q1,q2,q3⟩ | ⟨q1,q2⟩
          · rw [if_pos q1,if_pos q2,if_pos q3]; exact .inl ⟨_,_,rfl,rfl,⟨rfl,(next (fun _=>⟨by omega,y,hy,fun _=>by rw [← q1]; exact hx,fun h=>by omega⟩)).2⟩,by omega⟩
          · rw [if_neg q1]
            refine bad _ none _ ⟨_,rfl⟩ ?_
            split
            · split
              · rename_i k1 k2; exact absurd ⟨k1,k2⟩ q2
              · rfl
            · rfl
        · rw [if_neg h11,if_neg h11]
          by_cases h12:e.Op=12
          · rw [if_pos h12,if_pos h12]
            by_cases g1:e.A≤(i:Int)
            · rw [if_pos g1,if_pos g1]; exact bad _ none _ ⟨_,rfl⟩ rfl
            rw [if_neg g1,if_neg g1]
            by_cases g2:e.A > (l.length:Int)
            · omega
            rw [if_neg g2,if_neg g2]
            obtain ⟨x',hx',hcmp⟩:=cmpIn (by omega) hAl
            rw [hx] at hx'
            cases hx'
            rcases hcmp with ⟨q1,q2,q3⟩ | ⟨q1,q2⟩
            · rw [if_pos q1,if_pos q2,if_pos q3]; exact .inl ⟨_,_,rfl,rfl,⟨rfl,(next (fun _=>⟨by omega,y,hy,fun _=>by rw [← q1]; exact hx,fun h=>by omega⟩)).2⟩,by omega⟩
            · rw [if_neg q1]
              refine bad _ none _ ⟨_,rfl⟩ ?_
              split
              · split
                · rename_i k1 k2; exact absurd ⟨k1,k2⟩ q2
                · rfl
              · rfl
          · rw [if_neg h12,if_neg h12]
            exact .inl ⟨_,_,rfl,rfl,⟨rfl,(next (fun h=>by omega)).2⟩,by omega⟩
      · simp only [if_neg hAl]
        by_cases h11:e.Op=11
        · rw [if_pos h11,if_pos h11]
          by_cases g1:e.A≤(i:Int)
          · omega
          rw [if_neg g1,if_neg g1]
          by_cases g2:e.A > (l.length:Int)
          · rw [if_pos g2,if_pos g2]; exact bad _ none _ ⟨_,rfl⟩ rfl
          rw [if_neg g2,if_neg g2]
          rcases cmpEnd (by omega) with ⟨q1,q2,q3⟩ | ⟨q1,q2⟩
          · rw [if_pos q1,if_pos q2,if_pos q3]; exact .inl ⟨_,_,rfl,rfl,⟨rfl,(next (fun _=>⟨by omega,y,hy,fun h=>absurd h hAl,fun _=>q1.symm⟩)).2⟩,by omega⟩
          · rw [if_neg q1]
            refine bad _ none _ ⟨_,rfl⟩ ?_
            split
            · split
              · rename_i k1 k2; exact absurd ⟨k1,k2⟩ q2
              · rfl
            · rfl
        · rw [if_neg h11,if_neg h11]
          by_cases h12:e.Op=12
          · rw [if_pos h12,if_pos h12]
            by_cases g1:e.A≤(i:Int)
            · omega
            rw [if_neg g1,if_neg g1]
            by_cases g2:e.A > (l.length:Int)
            · rw [if_pos g2,if_pos g2]; exact bad _ none _ ⟨_,rfl⟩ rfl
            rw [if_neg g2,if_neg g2]
            rcases cmpEnd (by omega) with ⟨q1,q2,q3⟩ | ⟨q1,q2⟩
            · rw [if_pos q1,if_pos q2,if_pos q3]; exact .inl ⟨_,_,rfl,rfl,⟨rfl,(next (fun _=>⟨by omega,y,hy,fun h=>absurd h hAl,fun _=>q1.symm⟩)).2⟩,by omega⟩
            · rw [if_neg q1]
              refine bad _ none _ ⟨_,rfl⟩ ?_
              split
              · split
                · rename_i k1 k2; exact absurd ⟨k1,k2⟩ q2
                · rfl
              · rfl
          · rw [if_neg h12,if_neg h12]
            exact .inl ⟨_,_,rfl,rfl,⟨rfl,(next (fun h=>by omega)).2⟩,by omega⟩
    · right
      have hc:¬ (i:Int)<(l.length:Int):=by omega
      simp only [mach_Look.r2,punctualref_ReadImage.r6,if_neg hc]
      exact ⟨_,_,rfl,rfl,.inl ⟨rfl,rfl,fun k e hk=>hI k e (by have:=lt_of_get hk; omega) hk⟩⟩) K 0 0 ⟨rfl,Nat.zero_le _,fun k e hk=>by omega⟩ (by omega)
  refine ⟨r,r',h1,h2,?_⟩
  rcases h3 with ⟨g1,g2,g3⟩ | h3
  · exact .inl ⟨g1,g2,fun k e he ho=>(g3 k e he ho).1,fun k e he ho=>(g3 k e he ho).2⟩
  · exact .inr h3

theorem pops_tab (op:Int) (h:1≤op∧op≤18):([0,0,0,1,2,2,2,2,2,0,1,0,1,0,0,0,0,0,0]:List Int)[op.toNat]?=some (mach_pops.f op).1∧([0,1,1,0,1,1,1,1,1,1,0,0,0,0,0,0,0,0,0]:List Int)[op.toNat]?=some (mach_pops.f op).2∧0≤(mach_pops.f op).1∧(mach_pops.f op).1≤2∧0≤(mach_pops.f op).2∧(mach_pops.f op).2≤1:=by
  have:op=1 ∨ op=2 ∨ op=3 ∨ op=4 ∨ op=5 ∨ op=6 ∨ op=7 ∨ op=8 ∨ op=9 ∨ op=10 ∨ op=11 ∨ op=12 ∨ op=13 ∨ op=14 ∨ op=15 ∨ op=16 ∨ op=17 ∨ op=18:=by omega
  rcases this with rfl | rfl | rfl | rfl | rfl | rfl | rfl | rfl | rfl | rfl | rfl | rfl | rfl | rfl | rfl | rfl | rfl | rfl <;> exact ⟨rfl,rfl,by decide,by decide,by decide,by decide⟩
structure Hgt (n i : Nat) (h : List Int) (mp : List (Int × Int)) : Prop where
  len:h.length=n+1
  at_:∀ k:Nat,k≤n→h[k]?=some ((mget mp (k:Int)).getD (-1))
  ok:∀ (k v:Int),mget mp k=some v→0≤v∧v≤20
  seen:∀ k:Nat,k<i→∃ v,mget mp (k:Int)=some v
theorem Hgt.put {n i:Nat} {h:List Int} {mp:List (Int×Int)} (H:Hgt n i h mp) {x:Nat} (hx:x≤n) {v:Int} (hv:0≤v∧v≤20):Hgt n i (h.set x v) (mset mp (x:Int) v):=by
  refine ⟨by rw [List.length_set]; exact H.len,fun k hk=>?_,fun k w hk=>?_,fun k hk=>?_⟩
  · rw [mget_mset']
    by_cases hkx:k=x
    · subst hkx; rw [List.getElem?_set_self (by rw [H.len]; omega),if_pos rfl]; rfl
    · rw [List.getElem?_set_ne (fun e=>hkx e.symm),if_neg (by omega)]; exact H.at_ k hk
  · rw [mget_mset'] at hk
    split at hk
    · cases hk; exact hv
    · exact H.ok k w hk
  · rw [mget_mset']
    split
    · exact ⟨_,rfl⟩
    · exact H.seen k hk
theorem Hgt.same {n i:Nat} {h:List Int} {mp:List (Int×Int)} (H:Hgt n i h mp) {x:Nat} (hx:x≤n) {v:Int} (hm:mget mp (x:Int)=some v):Hgt n i h (mset mp (x:Int) v):=by
  refine ⟨H.len,fun k hk=>?_,fun k w hk=>?_,fun k hk=>?_⟩
  · rw [mget_mset',H.at_ k hk]
    split
    · rename_i e; rw [e,hm]
    · rfl
  · rw [mget_mset'] at hk
    split at hk
    · cases hk; exact H.ok _ _ hm
    · exact H.ok k w hk
  · rw [mget_mset']
    split
    · exact ⟨_,rfl⟩
    · exact H.seen k hk
theorem to_both {n i:Nat} {h:List Int} {mp:List (Int×Int)} (H:Hgt n i h mp) {x:Int} (hx:0≤x∧x≤(n:Int)) {v:Int} (hv:0≤v∧v≤20) :
    (∃ w,mget mp x=some w∧w ≠ v∧mach_heights_1.f x v h=some (false,h)) ∨ ((∀ w,mget mp x=some w→w=v)∧∃ h',mach_heights_1.f x v h=some (true,h')∧Hgt n i h' (mset mp x v)):=by
  obtain ⟨k,rfl⟩:∃ k:Nat,x=(k:Int):=⟨x.toNat,by omega⟩
  have hk:=H.at_ k (by omega)
  have hs:(h.set k v)[k]?=some v:=by rw [List.getElem?_set_self (by rw [H.len]; omega)]
  simp only [mach_heights_1.f,if_pos hx.1,Int.toNat_natCast,hk,hs]
  cases hm:mget mp (k:Int) with
  | none =>
    right
    refine ⟨fun w hw=>(by cases hw),?_⟩
    simp only [Option.getD_none]
    rw [if_pos (by decide)]
    exact ⟨_,by simp,H.put (by omega) hv⟩
  | some w =>
    have:=H.ok _ _ hm
    simp only [Option.getD_some]
    rw [if_neg (by omega)]
    by_cases hw:w=v
    · right
      subst hw
      exact ⟨fun w' hw'=>by cases hw'; rfl,_,by simp,H.same (by omega) hm⟩
    · left
      exact ⟨w,rfl,hw,by simp [hw]⟩
def Clash (mp:List (Int×Int)) (x v:Int):Prop:=∃ w,mget mp x=some w∧w ≠ v
theorem r4_step {i:Nat} {mp mp3:List (Int×Int)} {e4 e5 v x:Int} {L:List Int} {j:Nat} (hj:L[j]?=some x) (hv:IntKind.i64.wrap (IntKind.i64.wrap (((mget mp (i:Int)).getD 0)-e4)+e5)=v) :
    (Clash mp3 x v→punctualref_stackFault.r4 i mp e4 e5 L (j,mp3)=some (.inr (.inr ⟨8,(i:Int)⟩)))∧(¬ Clash mp3 x v→punctualref_stackFault.r4 i mp e4 e5 L (j,mp3)=some (.inl (j+1,mset mp3 x v))):=by
  have hlt:=lt_of_get hj
  have hc:(j:Int)<(L.length:Int):=by omega
  simp only [punctualref_stackFault.r4,if_pos hc,hj,hv]
  constructor
  · rintro ⟨w,h1,h2⟩
    rw [h1]
    simp only [Option.isSome_some,if_true,Option.getD_some]
    rw [if_neg h2]; rfl
  · intro h
    cases hm:mget mp3 x with
    | none=>simp
    | some w =>
      have hw:w=v:=Classical.byContradiction fun hne=>h ⟨w,hm,hne⟩
      simp [hw]
theorem r4_end {i:Nat} {mp mp3:List (Int×Int)} {e4 e5:Int} {L:List Int}:punctualref_stackFault.r4 i mp e4 e5 L (L.length,mp3)=some (.inr (.inl mp3)):=by
  simp only [punctualref_stackFault.r4]
  rw [if_neg (by omega)]
theorem heights_both (l:List SIns) (hl:l.length≤2000) (hok:∀ (i:Nat) (e:SIns),l[i]?=some e→OkI e) (hJ:Jump l) (hB:∀ (k:Nat) (e:SIns),l[k]?=some e→e.Op=14→0≤e.B∧e.B≤(k:Int)) (K:Nat) (hK:4000<K) :
    ∃ x,mach_heights.f K l=some x∧punctualref_stackFault.f K l=some x∧(x.Code ≠ 0 ∨ x=⟨0,0⟩):=by
  have e0:IntKind.i64.wrap ((l.length:Int)+1)=((l.length+1:Nat):Int):=by rw [wrap64_small (by omega) (by omega)]; omega
  obtain ⟨r0,hr0,m0,rfl,hm0,hm1⟩:=iter_total (f:=mach_heights.r0 l) (fun s=>∃ i:Nat,s.1=(i:Int)∧i≤l.length+1∧s.2.length=l.length+1∧∀ k,k<i→s.2[k]?=some (-1)) (fun s=>(l.length+1-s.1.toNat)) (fun r=>∃ m:List Int,r=.inl m∧m.length=l.length+1∧∀ k,k<l.length+1→m[k]?=some (-1)) (fun s ⟨i,h1,h2,h3,h4⟩=>by
    obtain ⟨z,m⟩:=s
    simp only at h1 h3 h4
    subst h1
    simp only [mach_heights.r0,e0,Int.toNat_natCast,List.length_replicate]
    by_cases hlt:i<l.length+1
    · obtain ⟨y,hy⟩:∃ y,m[i]?=some y:=⟨m[i]'(by omega),List.getElem?_eq_getElem (by omega)⟩
      have e1:IntKind.i64.wrap ((i:Int)+1)=((i+1:Nat):Int):=by rw [wrap64_small (by omega) (by omega)]; omega
      simp only [hy,e1]
      rw [if_pos (by omega),if_pos (by omega)]
      refine .inl ⟨_,rfl,⟨i+1,rfl,by omega,by simp only [List.length_set]; exact h3,fun k hk=>?_⟩,by simp only; omega⟩
      simp only
      by_cases hki:k=i
      · subst hki; rw [List.getElem?_set_self (by omega)]
      · rw [List.getElem?_set_ne (fun e=>hki e.symm)]; exact h4 k (by omega)
    · rw [if_neg (by omega)]
      exact .inr ⟨_,rfl,m,rfl,h3,fun k hk=>h4 k (by omega)⟩) K (0,List.replicate (l.length+1) 0) ⟨0,rfl,by omega,by simp,fun k hk=>by omega⟩ (by simp; omega)
  obtain ⟨k3,hk3⟩:∃ k,K=k+3:=⟨K-3,by omega⟩
  have hstart:Hgt l.length 0 (m0.set 0 0) (mset ([]:List (Int×Int)) 0 0):=by
    refine ⟨by simp only [List.length_set]; exact hm0,fun k hk=>?_,fun k v hk=>?_,fun k hk=>by omega⟩
    · by_cases h0:k=0
      · subst h0; rw [List.getElem?_set_self (by omega)]; rfl
      · rw [List.getElem?_set_ne (fun e=>h0 e.symm),hm1 k (by omega)]
        simp [mset,mget,h0]
    · simp only [mset,mget] at hk
      split at hk
      · cases hk; omega
      · cases hk
  obtain ⟨r1,r1',hr1,hr1',h1⟩:=iter_sim (f:=mach_heights.r1 l) (g:=punctualref_stackFault.r0 K l) (fun s t=>s.1=t.1∧s.1≤l.length∧Hgt l.length s.1 s.2 t.2) (fun s=>l.length-s.1)
    (fun r r'=>(∃ m mp,r=.inl m∧r'=.inl mp∧Hgt l.length l.length m mp) ∨ ∃ x:SFault,r=.inr x∧r'=.inr x∧x.Code ≠ 0) (fun s t ⟨hst,hi,H⟩=>by
    obtain ⟨i,m⟩:=s
    obtain ⟨j,mp⟩:=t
    simp only at hst hi H
    subst hst
    by_cases hlt:i<l.length
    · obtain ⟨e,he⟩:∃ e,l[i]?=some e:=⟨l[i],List.getElem?_eq_getElem hlt⟩
      have hc:(i:Int)<(l.length:Int):=by omega
      have ho:=hok i e he
      have hop:=ho.op
      have hy:=H.at_ i (by omega)
      obtain ⟨t1,t2,d1,d2,u1,u2⟩:=pops_tab e.Op hop
      simp only [mach_heights.r1,punctualref_stackFault.r0,if_pos hc,he,hy]
      have bad8:∀ {A:Option ((Nat×(List Int)) ⊕ ((List Int) ⊕ SFault))} {C:Option ((Nat×(List (Int×Int))) ⊕ ((List (Int×Int)) ⊕ SFault))} (x:SFault),x.Code ≠ 0→A=some (.inr (.inr x))→C=some (.inr (.inr x))→(∃ s' t',A=some (.inl s')∧C=some (.inl t')∧(s'.1=t'.1∧s'.1≤l.length∧Hgt l.length s'.1 s'.2 t'.2)∧l.length-s'.1<l.length-i) ∨ ∃ r r',A=some (.inr r)∧C=some (.inr r')∧((∃ m mp,r=.inl m∧r'=.inl mp∧Hgt l.length l.length m mp) ∨ ∃ x:SFault,r=.inr x∧r'=.inr x∧x.Code ≠ 0):=fun x hx hA hC=>.inr ⟨_,_,hA,hC,.inr ⟨x,rfl,rfl,hx⟩⟩
      cases hmi:mget mp (i:Int) with
      | none =>
        simp only [Option.getD_none,Option.isSome_none]
        rw [if_pos (by decide),if_neg (by decide)]
        exact bad8 _ (by simp) rfl rfl
      | some v =>
        obtain ⟨v0,v20⟩:=H.ok _ _ hmi
        have hv0:¬ v<0:=by omega
        have hop0:0≤e.Op:=by omega
        simp only [Option.getD_some,Option.isSome_some,if_true,if_neg hv0,if_pos hop0,t1,t2]
        generalize hd:(mach_pops.f e.Op).1=dn at *
        generalize hu:(mach_pops.f e.Op).2=up at *
        by_cases hge:v ≥ dn
        case neg =>
          have hp1:punctualref_stackFault.p1 i mp e=some (.inr ⟨8,(i:Int)⟩):=by
            unfold punctualref_stackFault.p1
            simp only [if_pos hop0,t1,hmi,Option.getD_some]
            rw [if_pos (by omega)]; rfl
          have hp3:mach_heights.p3 m e=some (.inl (false,m)):=by
            unfold mach_heights.p3
            split
            · rfl
            · split <;> rfl
          simp only [if_neg hge,hp1,hp3,Bool.false_eq_true,if_false]
          refine bad8 ⟨8,(i:Int)⟩ (by simp) ?_ rfl
          split <;> split <;> rfl
        have w1:IntKind.i64.wrap (IntKind.i64.wrap (v-dn)+up)=v-dn+up:=by rw [wrap64_small (n:=v-dn) (by omega) (by omega),wrap64_small (by omega) (by omega)]
        have w2:IntKind.i64.wrap (v+IntKind.i64.wrap (up-dn))=v-dn+up:=by rw [wrap64_small (n:=up-dn) (by omega) (by omega),wrap64_small (by omega) (by omega)]; omega
        simp only [if_pos hge,w2]
        by_cases h20:v-dn+up≤20
        case neg =>
          have hp1:punctualref_stackFault.p1 i mp e=some (.inr ⟨8,(i:Int)⟩):=by
            unfold punctualref_stackFault.p1
            simp only [if_pos hop0,t1,t2,hmi,Option.getD_some,w1]
            rw [if_neg (by omega),if_pos (by omega)]; rfl
          have hp2:mach_heights.p2 m e v=some (.inl (false,m)):=by
            unfold mach_heights.p2
            simp only [hd,hu,w1,if_neg h20]
            split
            · rfl
            · split
              · rfl
              · simp [h20]
          simp only [hp1,hp2,Bool.false_eq_true,if_false]
          refine bad8 ⟨8,(i:Int)⟩ (by simp) ?_ rfl
          split <;> split <;> rfl
        have hp1:punctualref_stackFault.p1 i mp e=some (.inl ()):=by
          unfold punctualref_stackFault.p1
          simp only [if_pos hop0,t1,t2,hmi,Option.getD_some,w1]
          rw [if_neg (by omega),if_neg (by omega)]
        simp only [hp1]
        have hV:0≤v-dn+up∧v-dn+up≤20:=by omega
        have w3:IntKind.i64.wrap (IntKind.i64.wrap (((mget mp (i:Int)).getD 0)-dn)+up)=v-dn+up:=by rw [hmi]; exact w1
        generalize hh:v-dn+up=hn at *
        -- to the one behind
        have nxt:∀ {m':List Int} {mp':List (Int×Int)},Hgt l.length i m' mp'→(∃ v,mget mp' (i:Int)=some v)→Hgt l.length (i+1) m' mp':=fun H' hs=>⟨H'.len,H'.at_,H'.ok,fun k hk=>by
          by_cases hki:k=i
          · subst hki; exact hs
          · exact H'.seen k (by omega)⟩
        have keepi:∀ {mp':List (Int×Int)} (x w:Int),(∃ v,mget mp' (i:Int)=some v)→∃ v,mget (mset mp' x w) (i:Int)=some v:=fun x w hs=>by
          rw [mget_mset']
          split
          · exact ⟨_,rfl⟩
          · exact hs
        have small0:([]:List Int).length<17592186044416:=by decide
        have hstep:=fun (L:List Int) (mp3:List (Int×Int)) (j:Nat) (x:Int) (hj:L[j]?=some x)=>r4_step (i:=i) (mp:=mp) (mp3:=mp3) (e4:=dn) (e5:=up) hj w3
        -- the reference's round over one or two
        have one:∀ (x:Int),(Clash mp x hn→iter (punctualref_stackFault.r4 i mp dn up [x]) K (0,mp)=some (.inr ⟨8,(i:Int)⟩))∧(¬ Clash mp x hn→iter (punctualref_stackFault.r4 i mp dn up [x]) K (0,mp)=some (.inl (mset mp x hn))):=fun x=>by
          obtain ⟨s1,s2⟩:=hstep [x] mp 0 x rfl
          rw [hk3]
          refine ⟨fun h=>by simp only [iter,s1 h],fun h=>?_⟩
          have:=r4_end (i:=i) (mp:=mp) (mp3:=mset mp x hn) (e4:=dn) (e5:=up) (L:=[x])
          simp only [List.length_cons,List.length_nil,Nat.zero_add] at this
          simp only [iter,s2 h,Nat.zero_add,this]
        have two:∀ (x y:Int),(Clash mp x hn→iter (punctualref_stackFault.r4 i mp dn up [x,y]) K (0,mp)=some (.inr ⟨8,(i:Int)⟩))∧(¬ Clash mp x hn→Clash (mset mp x hn) y hn→iter (punctualref_stackFault.r4 i mp dn up [x,y]) K (0,mp)=some (.inr ⟨8,(i:Int)⟩))∧(¬ Clash mp x hn→¬ Clash (mset mp x hn) y hn→iter (punctualref_stackFault.r4 i mp dn up [x,y]) K (0,mp)=some (.inl (mset (mset mp x hn) y hn))):=fun x y=>by
          obtain ⟨s1,s2⟩:=hstep [x,y] mp 0 x rfl
          obtain ⟨s3,s4⟩:=hstep [x,y] (mset mp x hn) 1 y rfl
          rw [hk3]
          refine ⟨fun h=>by simp only [iter,s1 h],fun h g=>?_,fun h g=>?_⟩
          · simp only [iter,s2 h,Nat.zero_add,s3 g]
          · have:=r4_end (i:=i) (mp:=mp) (mp3:=mset (mset mp x hn) y hn) (e4:=dn) (e5:=up) (L:=[x,y])
            simp only [List.length_cons,List.length_nil,Nat.zero_add] at this
            simp only [iter,s2 h,Nat.zero_add,s4 g,this]
        have noclash:∀ {mp':List (Int×Int)} {x:Int},(∀ w,mget mp' x=some w→w=hn)→¬ Clash mp' x hn:=fun h ⟨w,h1,h2⟩=>h2 (h w h1)
        by_cases h11:e.Op=11
        · have hA:=hJ i e he (.inl h11)
          have h14:¬ e.Op=14:=by omega
          have hp2r:punctualref_stackFault.p2 e=some (.inl [e.A]):=by unfold punctualref_stackFault.p2; rw [if_pos h11,if_neg h14,if_pos small0]; rfl
          have hp3r:punctualref_stackFault.p3 i e [e.A]=some (.inl [e.A]):=by unfold punctualref_stackFault.p3; rw [if_pos h11]
          simp only [hp2r,hp3r]
          obtain ⟨o1,o2⟩:=one e.A
          rcases to_both H (x:=e.A) ⟨by omega,by omega⟩ hV with ⟨w,q1,q2,q3⟩ | ⟨q1,m',q3,q4⟩
          · have hp2:mach_heights.p2 m e v=some (.inl (false,m)):=by
              unfold mach_heights.p2
              simp only [if_pos h11,hd,hu,w1,w2,if_pos h20,q3]
            simp only [hp2,if_neg h14,if_pos h11,Bool.false_eq_true,if_false,o1 ⟨w,q1,q2⟩]
            exact bad8 ⟨8,(i:Int)⟩ (by simp) rfl rfl
          · have hp2:mach_heights.p2 m e v=some (.inl (true,m')):=by
              unfold mach_heights.p2
              simp only [if_pos h11,hd,hu,w1,w2,if_pos h20,q3]
            simp only [hp2,if_neg h14,if_pos h11,if_true,o2 (noclash q1)]
            exact .inl ⟨_,_,rfl,rfl,⟨rfl,by simp only; omega,nxt q4 (keepi _ _ ⟨v,hmi⟩)⟩,by simp only; omega⟩
        by_cases h12:e.Op=12
        · have hA:=hJ i e he (.inr h12)
          have h14:¬ e.Op=14:=by omega
          have hp2r:punctualref_stackFault.p2 e=some (.inl [e.A]):=by unfold punctualref_stackFault.p2; rw [if_neg h11,if_pos h12,if_neg h14,if_pos small0]; rfl
          have hp3r:punctualref_stackFault.p3 i e [e.A]=some (.inl [e.A,((i+1:Nat):Int)]):=by unfold punctualref_stackFault.p3; rw [if_neg h11,if_pos (by simp)]; rfl
          simp only [hp2r,hp3r]
          obtain ⟨o1,o2,o3⟩:=two e.A ((i+1:Nat):Int)
          rcases to_both H (x:=e.A) ⟨by omega,by omega⟩ hV with ⟨w,q1,q2,q3⟩ | ⟨q1,m',q3,q4⟩
          · have hp2:mach_heights.p2 m e v=some (.inl (false,m)):=by
              unfold mach_heights.p2
              simp only [if_neg h11,if_pos h12,hd,hu,w1,w2,if_pos h20,q3]
            simp only [hp2,if_neg h14,if_neg h11,Bool.false_eq_true,if_false,o1 ⟨w,q1,q2⟩]
            exact bad8 ⟨8,(i:Int)⟩ (by simp) rfl rfl
          · have hp2:mach_heights.p2 m e v=some (.inl (true,m')):=by
              unfold mach_heights.p2
              simp only [if_neg h11,if_pos h12,hd,hu,w1,w2,if_pos h20,q3]
            rcases to_both q4 (x:=((i+1:Nat):Int)) ⟨by omega,by omega⟩ hV with ⟨w,g1,g2,g3⟩ | ⟨g1,m2,g3,g4⟩
            · simp only [hp2,if_neg h14,if_neg h11,if_true,g3,Bool.false_eq_true,if_false,o2 (noclash q1) ⟨w,g1,g2⟩]
              exact bad8 ⟨8,(i:Int)⟩ (by simp) rfl rfl
            · simp only [hp2,if_neg h14,if_neg h11,if_true,g3,o3 (noclash q1) (noclash g1)]
              exact .inl ⟨_,_,rfl,rfl,⟨rfl,by simp only; omega,nxt g4 (keepi _ _ (keepi _ _ ⟨v,hmi⟩))⟩,by simp only; omega⟩
        have hp2:mach_heights.p2 m e v=some (.inl (true,m)):=by
          unfold mach_heights.p2
          simp only [if_neg h11,if_neg h12,hd,hu,w1]
          simp [h20]
        by_cases h14:e.Op=14
        · obtain ⟨b1,b2⟩:=hB i e he h14
          obtain ⟨kb,hkb⟩:∃ k:Nat,e.B=(k:Int):=⟨e.B.toNat,by omega⟩
          have hp2r:punctualref_stackFault.p2 e=some (.inl [e.B]):=by unfold punctualref_stackFault.p2; rw [if_neg h11,if_neg h12,if_pos h14,if_pos small0]; rfl
          have hp3r:punctualref_stackFault.p3 i e [e.B]=some (.inl [e.B,((i+1:Nat):Int)]):=by unfold punctualref_stackFault.p3; rw [if_neg h11,if_pos (by simp)]; rfl
          simp only [hp2r,hp3r]
          obtain ⟨o1,o2,o3⟩:=two e.B ((i+1:Nat):Int)
          have hknown:∃ w,mget mp e.B=some w:=by
            rw [hkb]
            by_cases hki:kb=i
            · subst hki; exact ⟨v,hmi⟩
            · exact H.seen kb (by omega)
          obtain ⟨w,hw⟩:=hknown
          have hyB:m[e.B.toNat]?=some w:=by
            have:=H.at_ kb (by omega)
            rw [hkb] at hw ⊢
            rw [Int.toNat_natCast,this,hw]; rfl
          simp only [hp2,if_pos h14,if_true,if_pos b1,hyB,if_neg h11]
          by_cases hwn:w=hn
          · subst hwn
            simp only [if_true]
            have H2:Hgt l.length i m (mset mp e.B w):=by
              rw [hkb]
              exact H.same (by omega) (by rw [← hkb]; exact hw)
            have hnc:¬ Clash mp e.B w:=fun ⟨z,z1,z2⟩=>by rw [hw] at z1; cases z1; exact z2 rfl
            rcases to_both H2 (x:=((i+1:Nat):Int)) ⟨by omega,by omega⟩ hV with ⟨z,g1,g2,g3⟩ | ⟨g1,m2,g3,g4⟩
            · simp only [g3,Bool.false_eq_true,if_false,o2 hnc ⟨z,g1,g2⟩]
              exact bad8 ⟨8,(i:Int)⟩ (by simp) rfl rfl
            · simp only [g3,if_true,o3 hnc (noclash g1)]
              exact .inl ⟨_,_,rfl,rfl,⟨rfl,by simp only; omega,nxt g4 (keepi _ _ (keepi _ _ ⟨v,hmi⟩))⟩,by simp only; omega⟩
          · simp only [if_neg hwn,o1 ⟨w,hw,hwn⟩]
            exact bad8 ⟨8,(i:Int)⟩ (by simp) rfl rfl
        · have hp2r:punctualref_stackFault.p2 e=some (.inl []):=by unfold punctualref_stackFault.p2; rw [if_neg h11,if_neg h12,if_neg h14]
          have hp3r:punctualref_stackFault.p3 i e []=some (.inl [((i+1:Nat):Int)]):=by unfold punctualref_stackFault.p3; rw [if_neg h11,if_pos small0]; rfl
          simp only [hp2r,hp3r]
          obtain ⟨o1,o2⟩:=one ((i+1:Nat):Int)
          rcases to_both H (x:=((i+1:Nat):Int)) ⟨by omega,by omega⟩ hV with ⟨w,q1,q2,q3⟩ | ⟨q1,m',q3,q4⟩
          · simp only [hp2,if_neg h14,if_neg h11,if_true,q3,Bool.false_eq_true,if_false,o1 ⟨w,q1,q2⟩]
            exact bad8 ⟨8,(i:Int)⟩ (by simp) rfl rfl
          · simp only [hp2,if_neg h14,if_neg h11,if_true,q3,o2 (noclash q1)]
            exact .inl ⟨_,_,rfl,rfl,⟨rfl,by simp only; omega,nxt q4 (keepi _ _ ⟨v,hmi⟩)⟩,by simp only; omega⟩
    · right
      obtain rfl:i=l.length:=by omega
      have hc:¬ (l.length:Int)<(l.length:Int):=by omega
      simp only [mach_heights.r1,punctualref_stackFault.r0,if_neg hc]
      exact ⟨_,_,rfl,rfl,.inl ⟨m,mp,rfl,rfl,H⟩⟩) K (0,m0.set 0 0) (0,mset [] 0 0) ⟨rfl,Nat.zero_le _,hstart⟩ (by simp only; omega)
  unfold mach_heights.f punctualref_stackFault.f
  have hc1:(0:Int)≤((l.length+1:Nat):Int):=by omega
  have hc2:l.length+1≤17592186044416:=by omega
  simp only [e0,Int.toNat_natCast,if_pos hc1,if_pos hc2,hr0,hm1 0 (by omega),hr1,hr1']
  rcases h1 with ⟨m,mp,rfl,rfl,H⟩ | ⟨x,rfl,rfl,hx⟩
  · have hend:=H.at_ l.length (Nat.le_refl _)
    simp only [hend]
    cases hm:mget mp (l.length:Int) with
    | none=>exact ⟨_,rfl,rfl,.inr rfl⟩
    | some v =>
      have:=H.ok _ _ hm
      simp only [Option.getD_some]
      by_cases hv:v > 0
      · rw [if_pos hv,if_neg (by omega)]; exact ⟨_,rfl,rfl,.inl (by simp)⟩
      · rw [if_neg hv,if_pos (by omega)]; exact ⟨_,rfl,rfl,.inr rfl⟩
  · exact ⟨x,rfl,rfl,.inl hx⟩
structure Facts2 (l : List SIns) (inn : List Int) (m : List (Int × Int)) (regs : List Sregion) : Prop where
  facts:Facts l m
  both:Both l l.length [] inn m regs
  at_:∀ (k:Nat) (e:SIns),l[k]?=some e→(e.Op=11 ∨ e.Op=12)→∃ t,inn[k]?=some t∧(e.A<(l.length:Int)→inn[e.A.toNat]?=some t)∧(e.A=(l.length:Int)→t=-1)
theorem Look_Read (l:List SIns) (K:Nat) (hK:4000<K):∃ r q,mach_Look.f K l=some r∧punctualref_ReadImage.f K l=some q∧r.2=q.2∧((r.2.Code ≠ 0∧q.1=none) ∨ (r.2=⟨0,0⟩∧∃ regs,q.1=some ⟨regs⟩∧Facts2 l r.1.In r.1.Close regs)):=by
  unfold mach_Look.f punctualref_ReadImage.f
  by_cases hn:(l.length:Int) > 2000
  · rw [if_pos hn,if_pos hn]; exact ⟨_,_,rfl,rfl,rfl,.inl ⟨by simp [mach_Look_1.f],rfl⟩⟩
  rw [if_neg hn,if_neg hn]
  obtain ⟨r,r',hr,hr',h⟩:=ins_both l K (by omega)
  rw [hr,hr']
  rcases h with ⟨rfl,rfl,hok⟩ | ⟨s,x,rfl,rfl,hs⟩
  case inr=>exact ⟨_,_,rfl,rfl,rfl,.inl ⟨hs,rfl⟩⟩
  simp only
  rw [if_pos (by omega)]
  obtain ⟨r1,r1',hr1,hr1',h1⟩:=iter_sim (f:=mach_Look.r1 K l) (g:=punctualref_ReadImage.r1 K l) (fun s t=>s.1=t.1∧s.1≤l.length∧s.2.1=t.2.1∧Both l s.1 s.2.1 s.2.2.1 s.2.2.2 t.2.2) (fun s=>l.length-s.1)
    (fun r r'=>(∃ op inn m regs,r=.inl (op,inn,m)∧r'=.inl (op,regs)∧Both l l.length op inn m regs) ∨ ∃ s x,r=.inr (s,x)∧r'=.inr (none,x)∧x.Code ≠ 0) (fun s t ⟨h1,h2,h3,h4⟩=>by
    obtain ⟨i,op,inn,m⟩:=s
    obtain ⟨j,op',regs⟩:=t
    simp only at h1 h2 h3 h4
    subst h1
    subst h3
    by_cases hlt:i<l.length
    · obtain ⟨c,o2,inn',m',g1,g2⟩:=region_both l i op inn m regs h4 hlt (by omega) K hK
      have hc:(i:Int)<(l.length:Int):=by omega
      have e1:mach_Look.r1 K l (i,op,inn,m)=(if c=0 then some (.inl (i+1,o2,inn',m')) else some (.inr (.inr ((mach_Look_1.f c (i:Int)).1,(mach_Look_1.f c (i:Int)).2)))):=by
        simp only [mach_Look.r1,if_pos hc,g1]
      rcases g2 with ⟨rfl,regs',g2,g3⟩ | ⟨g2,g3⟩
      · rw [if_pos rfl] at e1
        exact .inl ⟨_,_,e1,g2,⟨rfl,hlt,rfl,g3⟩,by simp only; omega⟩
      · rw [if_neg g2] at e1
        exact .inr ⟨_,_,e1,g3,.inr ⟨_,_,rfl,rfl,g2⟩⟩
    · right
      obtain rfl:i=l.length:=by omega
      have hc:¬ (l.length:Int)<(l.length:Int):=by omega
      simp only [mach_Look.r1,punctualref_ReadImage.r1,if_neg hc]
      exact ⟨_,_,rfl,rfl,.inl ⟨op,inn,m,regs,rfl,rfl,h4⟩⟩) K (0,[],List.replicate l.length 0,[]) (0,[],[]) ⟨rfl,Nat.zero_le _,rfl,⟨⟨by simp,by simp,by simp,by simp,fun k f hk=>by simp at hk,fun k f hk=>by simp at hk⟩,by simp,fun o c h=>by simp [mget] at h,by simp,by simp,fun k t hk=>by simp at hk,fun k f hk=>by simp at hk⟩⟩ (by simp only; omega)
  rw [hr1,hr1']
  rcases h1 with ⟨op,inn,m,regs,rfl,rfl,hR⟩ | ⟨s,x,rfl,rfl,hs⟩
  case inr=>exact ⟨_,_,rfl,rfl,rfl,.inl ⟨hs,rfl⟩⟩
  simp only
  rcases op with _ | ⟨o,op⟩
  case cons =>
    obtain ⟨k,e,rfl,hk,he,_⟩:=hR.R.open_ o (by simp)
    have hc1:(((k:Int)::op).length:Int) > 0:=by simp
    have hc2:(0:Int)≤(k:Int):=by omega
    simp only [if_pos hc1,List.getElem?_cons_zero,Int.toNat_natCast,he,if_pos hc2]
    by_cases h13:e.Op=13
    · rw [if_pos h13,if_pos h13]; exact ⟨_,_,rfl,rfl,rfl,.inl ⟨by simp [mach_Look_1.f],rfl⟩⟩
    · rw [if_neg h13,if_neg h13]; exact ⟨_,_,rfl,rfl,rfl,.inl ⟨by simp [mach_Look_1.f],rfl⟩⟩
  have hc0:¬ ((([]:List Int).length:Int) > 0):=by simp
  simp only [if_neg hc0]
  obtain ⟨r2,r2',hr2,hr2',h2⟩:=jumps_both hR hok (by omega) K hK
  rw [hr2,hr2']
  rcases h2 with ⟨rfl,rfl,hJ,hat⟩ | ⟨s,x,rfl,rfl,hs⟩
  case inr=>exact ⟨_,_,rfl,rfl,rfl,.inl ⟨hs,rfl⟩⟩
  simp only
  obtain ⟨x,hx1,hx2,hx3⟩:=heights_both l (by omega) hok hJ (fun k e he h14=>hR.back k e (lt_of_get he) he h14) K hK
  rw [hx1,hx2]
  simp only
  have hH:x.Code=0→∃ H,HeightsOK l H:=fun hx=>by
    obtain ⟨y,hy,h⟩:=heights_some l (by omega) hJ (fun k e he h14=>by have:=hR.back k e (lt_of_get he) he h14; have:=lt_of_get he; omega) K hK
    rw [hx1] at hy
    cases hy
    rcases h with h | ⟨_,h⟩
    · exact absurd hx h
    · exact h
  rcases hx3 with h3 | rfl
  · rw [if_neg h3,if_neg h3]; exact ⟨_,_,rfl,rfl,rfl,.inl ⟨h3,rfl⟩⟩
  · rw [if_pos rfl,if_pos rfl]
    refine ⟨_,_,rfl,rfl,rfl,.inr ⟨rfl,regs,rfl,⟨⟨by omega,hok,hJ,fun k e he ho=>?_,fun k e he=>hR.back k e (lt_of_get he) he,hH rfl⟩,hR,hat⟩⟩⟩
    rcases hR.R.shut k e (lt_of_get he) he ho with h4 | ⟨c,h4,h5,h6⟩
    · cases h4
    · simp only [h4,Option.getD_some]
      omega

structure MInv (l : List SIns) (H inp vars stack cnt : List Int) (pc : Nat) : Prop where
  at_:pc≤l.length
  vlen:vars.length=8
  ilen:inp.length=4
  clen:cnt.length=8
  range:∀ c ∈ cnt,0≤c∧c≤1000
  hgt:H[pc]?=some (stack.length:Int)
def Moves (e:SIns) (pc pc':Nat) (ov:Bool) (cnt cnt':List Int):Prop :=
  (e.Op=11∧(pc':Int)=e.A∧ov=false∧cnt'=cnt) ∨
  (e.Op=12∧cnt'=cnt∧((ov=true∧(pc':Int)=e.A) ∨ (ov=false∧pc'=pc+1))) ∨
  (e.Op=13∧pc'=pc+1∧ov=false∧cnt'=cnt.set e.A.toNat e.B) ∨
  (e.Op=14∧∃ c:Int,cnt[e.A.toNat]?=some c∧((0<c∧ov=true∧(pc':Int)=e.B∧cnt'=cnt.set e.A.toNat (c-1)) ∨ (c=0∧ov=false∧pc'=pc+1∧cnt'=cnt))) ∨
  (e.Op=15∧pc'=pc+1∧ov=false∧cnt'=cnt.set e.A.toNat 0) ∨
  (e.Op ≠ 11∧e.Op ≠ 12∧e.Op ≠ 13∧e.Op ≠ 14∧e.Op ≠ 15∧pc'=pc+1∧ov=false∧cnt'=cnt)
theorem last_one {s:List Int} {v:Int} (h:v=(s.length:Int)) (hv:1≤v):∃ t b,s=t++[b]:=by
  rcases List.eq_nil_or_concat s with rfl | ⟨t,b,h1⟩
  · simp at h; omega
  · exact ⟨t,b,by rw [h1,List.concat_eq_append]⟩
theorem last_two {s:List Int} {v:Int} (h:v=(s.length:Int)) (hv:2≤v):∃ t a b,s=t++[a,b]:=by
  obtain ⟨t,b,rfl⟩:=last_one h (by omega)
  obtain ⟨u,a,rfl⟩:=last_one (s:=t) (v:=v-1) (by simp at h; omega) (by omega)
  exact ⟨u,a,b,by simp⟩
theorem pop_eq (l:List SIns) (i v:List Int) (p:List SPut) (t:List Int) (b:Int) (c:List Int) (x y:Int) (ht:t.length≤5000):mach_Machine_pop.f l i v p (t++[b]) c x y=some (b,t):=by
  unfold mach_Machine_pop.f
  have e1:IntKind.i64.wrap (((t++[b]).length:Int)-1)=(t.length:Int):=by
    simp only [List.length_append,List.length_cons,List.length_nil]
    rw [wrap64_small (by omega) (by omega)]; omega
  simp only [e1,Int.toNat_natCast]
  rw [if_pos (by omega)]
  simp
theorem two_eq (l:List SIns) (i v:List Int) (p:List SPut) (t:List Int) (a b:Int) (c:List Int) (x y:Int) (ht:t.length≤4000) :
    mach_Machine_two.f l i v p (t++[a,b]) c x y=some (t++[IntKind.i64.wrap (a+b)])∧mach_Machine_two_1.f l i v p (t++[a,b]) c x y=some (t++[IntKind.i64.wrap (a-b)])∧mach_Machine_two_2.f l i v p (t++[a,b]) c x y=some (t++[IntKind.i64.wrap (a*b)]) ∧
    mach_Machine_two_3.f l i v p (t++[a,b]) c x y=some (t++[mach_truth.f (decide (a<b))])∧mach_Machine_two_4.f l i v p (t++[a,b]) c x y=some (t++[mach_truth.f (a==b)]):=by
  have e:t++[a,b]=(t++[a])++[b]:=by simp
  have h1:=pop_eq l i v p (t++[a]) b c x y (by simp; omega)
  have h2:=pop_eq l i v p t a c x y (by omega)
  have h3:t.length<17592186044416:=by omega
  unfold mach_Machine_two.f mach_Machine_two_1.f mach_Machine_two_2.f mach_Machine_two_3.f mach_Machine_two_4.f
  rw [e,h1]
  simp only [h2,if_pos h3]
  exact ⟨rfl,rfl,rfl,rfl,rfl⟩
theorem MInv.next {l:List SIns} {H inp vars stack cnt vars' stack' cnt':List Int} {pc pc':Nat} (I:MInv l H inp vars stack cnt pc) (h1:pc'≤l.length) (h2:vars'.length=8) (h3:cnt'.length=8) (h4:∀ c ∈ cnt',0≤c∧c≤1000) (h5:H[pc']?=some (stack'.length:Int)):MInv l H inp vars' stack' cnt' pc' :=
  ⟨h1,h2,I.ilen,h3,h4,h5⟩
theorem range_set {cnt:List Int} (h:∀ c ∈ cnt,0≤c∧c≤1000) (k:Nat) {v:Int} (hv:0≤v∧v≤1000):∀ c ∈ cnt.set k v,0≤c∧c≤1000:=fun c hc=>by
  rcases List.mem_or_eq_of_mem_set hc with h1 | h1
  · exact h c h1
  · rw [h1]; exact hv
theorem do_spec {l:List SIns} {m:List (Int×Int)} (F:Facts l m) {H:List Int} (hH:HeightsOK l H) {inp vars stack cnt:List Int} {pc:Nat} (I:MInv l H inp vars stack cnt pc) {e:SIns} (he:l[pc]?=some e) (puts:List SPut) (hp:puts.length≤8000000000000) (y z:Int) :
    ∃ (pc':Nat) (ov:Bool) (vars':List Int) (puts':List SPut) (stack' cnt':List Int),mach_Machine_over.f l inp vars puts stack cnt (pc:Int) z e=some ov∧mach_Machine_do.f l inp vars puts stack cnt (pc:Int) y e=some ((pc':Int),vars',puts',stack',cnt')∧MInv l H inp vars' stack' cnt' pc'∧puts'.length≤puts.length+1∧Moves e pc pc' ov cnt cnt':=by
  have hlt:=lt_of_get he
  have hlen:=F.len
  have ho:=F.ok pc e he
  have hop:=ho.op
  obtain ⟨v,g1,g2,g3,g4,g5,g6,g7⟩:=hH.step pc e he
  have hv:v=(stack.length:Int):=by have:=I.hgt; rw [g1] at this; exact Option.some.inj this
  have hst:stack.length≤20:=by omega
  have e1:IntKind.i64.wrap ((pc:Int)+1)=((pc+1:Nat):Int):=by rw [wrap64_small (by omega) (by omega)]; omega
  have hpush:stack.length<17592186044416:=by omega
  have hA:=ho.A
  have arr:arrN 8 cnt=cnt:=arrN_eq I.clen
  have fit:∀ (s:List Int),(s.length:Int)=v-(mach_pops.f e.Op).1+(mach_pops.f e.Op).2→(e.Op ≠ 11→H[pc+1]?=some (s.length:Int)):=fun s hs h=>by rw [hs]; exact g7 h
  have last1:1≤(mach_pops.f e.Op).1→∃ t b,stack=t++[b]:=fun h=>last_one hv (by omega)
  have last2:2≤(mach_pops.f e.Op).1→∃ t a b,stack=t++[a,b]:=fun h=>last_two hv (by omega)
  have over0:e.Op ≠ 12→e.Op ≠ 14→mach_Machine_over.f l inp vars puts stack cnt (pc:Int) z e=some false:=fun h1 h2=>by
    unfold mach_Machine_over.f; rw [if_neg h1,if_neg h2]
  have plain:e.Op ≠ 11→e.Op ≠ 12→e.Op ≠ 13→e.Op ≠ 14→e.Op ≠ 15→∀ vars' puts' (stack':List Int),mach_Machine_do.f l inp vars puts stack cnt (pc:Int) y e=some (((pc+1:Nat):Int),vars',puts',stack',cnt)→vars'.length=8→puts'.length≤puts.length+1→(stack'.length:Int)=v-(mach_pops.f e.Op).1+(mach_pops.f e.Op).2 →
      ∃ (pc':Nat) (ov:Bool) (vars':List Int) (puts':List SPut) (stack' cnt':List Int),mach_Machine_over.f l inp vars puts stack cnt (pc:Int) z e=some ov∧mach_Machine_do.f l inp vars puts stack cnt (pc:Int) y e=some ((pc':Int),vars',puts',stack',cnt')∧MInv l H inp vars' stack' cnt' pc'∧puts'.length≤puts.length+1∧Moves e pc pc' ov cnt cnt':=fun h11 h12 h13 h14 h15 vars' puts' stack' q1 q2 q3 q4 =>
    ⟨pc+1,false,vars',puts',stack',cnt,over0 h12 h14,q1,I.next (by omega) q2 I.clen I.range (fit _ q4 h11),q3,.inr (.inr (.inr (.inr (.inr ⟨h11,h12,h13,h14,h15,rfl,rfl,rfl⟩))))⟩
  by_cases h1:e.Op=1
  · have hpp:mach_pops.f e.Op=(0,1):=by rw [h1]; rfl
    refine plain (by omega) (by omega) (by omega) (by omega) (by omega) vars puts (stack++[e.A]) ?_ I.vlen (by omega) (by rw [hpp]; simp; omega)
    unfold mach_Machine_do.f; rw [if_pos h1,if_pos hpush,e1]
  by_cases h2:e.Op=2
  · have hpp:mach_pops.f e.Op=(0,1):=by rw [h2]; rfl
    have:=ho.A7 (by omega)
    have hiv:=I.vlen
    obtain ⟨x,hx⟩:∃ x,vars[e.A.toNat]?=some x:=⟨vars[e.A.toNat]'(by omega),List.getElem?_eq_getElem (by omega)⟩
    refine plain (by omega) (by omega) (by omega) (by omega) (by omega) vars puts (stack++[x]) ?_ I.vlen (by omega) (by rw [hpp]; simp; omega)
    unfold mach_Machine_do.f; rw [if_neg h1,if_pos h2,if_pos hA,hx]; simp only; rw [if_pos hpush,e1]
  by_cases h3:e.Op=3
  · have hpp:mach_pops.f e.Op=(1,0):=by rw [h3]; rfl
    have:=ho.A7 (by omega)
    have hiv:=I.vlen
    obtain ⟨x,hx⟩:∃ x,vars[e.A.toNat]?=some x:=⟨vars[e.A.toNat]'(by omega),List.getElem?_eq_getElem (by omega)⟩
    obtain ⟨t,b,rfl⟩:=last1 (by rw [hpp]; decide)
    refine plain (by omega) (by omega) (by omega) (by omega) (by omega) (vars.set e.A.toNat b) puts t ?_ (by rw [List.length_set]; exact I.vlen) (by omega) (by rw [hpp]; simp at hv ⊢; omega)
    unfold mach_Machine_do.f; rw [if_neg h1,if_neg h2,if_pos h3,pop_eq l inp vars puts t b cnt _ _ (by simp at hst; omega)]; simp only; rw [if_pos hA,hx]; simp only; rw [e1]
  by_cases h4:e.Op=4
  · have hpp:mach_pops.f e.Op=(2,1):=by rw [h4]; rfl
    obtain ⟨t,a,b,rfl⟩:=last2 (by rw [hpp]; decide)
    have ht:=two_eq l inp vars puts t a b cnt (pc:Int) y (by simp at hst; omega)
    refine plain (by omega) (by omega) (by omega) (by omega) (by omega) vars puts (t++[IntKind.i64.wrap (a+b)]) ?_ I.vlen (by omega) (by rw [hpp]; simp at hv ⊢; omega)
    unfold mach_Machine_do.f; rw [if_neg h1,if_neg h2,if_neg h3,if_pos h4,ht.1]; simp only; rw [e1]
  by_cases h5:e.Op=5
  · have hpp:mach_pops.f e.Op=(2,1):=by rw [h5]; rfl
    obtain ⟨t,a,b,rfl⟩:=last2 (by rw [hpp]; decide)
    have ht:=two_eq l inp vars puts t a b cnt (pc:Int) y (by simp at hst; omega)
    refine plain (by omega) (by omega) (by omega) (by omega) (by omega) vars puts (t++[IntKind.i64.wrap (a-b)]) ?_ I.vlen (by omega) (by rw [hpp]; simp at hv ⊢; omega)
    unfold mach_Machine_do.f; rw [if_neg h1,if_neg h2,if_neg h3,if_neg h4,if_pos h5,ht.2.1]; simp only; rw [e1]
  by_cases h6:e.Op=6
  · have hpp:mach_pops.f e.Op=(2,1):=by rw [h6]; rfl
    obtain ⟨t,a,b,rfl⟩:=last2 (by rw [hpp]; decide)
    have ht:=two_eq l inp vars puts t a b cnt (pc:Int) y (by simp at hst; omega)
    refine plain (by omega) (by omega) (by omega) (by omega) (by omega) vars puts (t++[IntKind.i64.wrap (a*b)]) ?_ I.vlen (by omega) (by rw [hpp]; simp at hv ⊢; omega)
    unfold mach_Machine_do.f; rw [if_neg h1,if_neg h2,if_neg h3,if_neg h4,if_neg h5,if_pos h6,ht.2.2.1]; simp only; rw [e1]
  by_cases h7:e.Op=7
  · have hpp:mach_pops.f e.Op=(2,1):=by rw [h7]; rfl
    obtain ⟨t,a,b,rfl⟩:=last2 (by rw [hpp]; decide)
    have ht:=two_eq l inp vars puts t a b cnt (pc:Int) y (by simp at hst; omega)
    refine plain (by omega) (by omega) (by omega) (by omega) (by omega) vars puts (t++[mach_truth.f (decide (a<b))]) ?_ I.vlen (by omega) (by rw [hpp]; simp at hv ⊢; omega)
    unfold mach_Machine_do.f; rw [if_neg h1,if_neg h2,if_neg h3,if_neg h4,if_neg h5,if_neg h6,if_pos h7,ht.2.2.2.1]; simp only; rw [e1]
  by_cases h8:e.Op=8
  · have hpp:mach_pops.f e.Op=(2,1):=by rw [h8]; rfl
    obtain ⟨t,a,b,rfl⟩:=last2 (by rw [hpp]; decide)
    have ht:=two_eq l inp vars puts t a b cnt (pc:Int) y (by simp at hst; omega)
    refine plain (by omega) (by omega) (by omega) (by omega) (by omega) vars puts (t++[mach_truth.f (a==b)]) ?_ I.vlen (by omega) (by rw [hpp]; simp at hv ⊢; omega)
    unfold mach_Machine_do.f; rw [if_neg h1,if_neg h2,if_neg h3,if_neg h4,if_neg h5,if_neg h6,if_neg h7,if_pos h8,ht.2.2.2.2]; simp only; rw [e1]
  by_cases h9:e.Op=9
  · have hpp:mach_pops.f e.Op=(0,1):=by rw [h9]; rfl
    have:=ho.A3 (by omega)
    have hii:=I.ilen
    obtain ⟨x,hx⟩:∃ x,inp[e.A.toNat]?=some x:=⟨inp[e.A.toNat]'(by omega),List.getElem?_eq_getElem (by omega)⟩
    refine plain (by omega) (by omega) (by omega) (by omega) (by omega) vars puts (stack++[x]) ?_ I.vlen (by omega) (by rw [hpp]; simp; omega)
    unfold mach_Machine_do.f; rw [if_neg h1,if_neg h2,if_neg h3,if_neg h4,if_neg h5,if_neg h6,if_neg h7,if_neg h8,if_pos h9,if_pos hA,hx]; simp only; rw [if_pos hpush,e1]
  by_cases h10:e.Op=10
  · have hpp:mach_pops.f e.Op=(1,0):=by rw [h10]; rfl
    obtain ⟨t,b,rfl⟩:=last1 (by rw [hpp]; decide)
    have hpl:puts.length<8796093022208:=by omega
    refine plain (by omega) (by omega) (by omega) (by omega) (by omega) vars (puts++[⟨e.A,b⟩]) t ?_ I.vlen (by simp) (by rw [hpp]; simp at hv ⊢; omega)
    unfold mach_Machine_do.f; rw [if_neg h1,if_neg h2,if_neg h3,if_neg h4,if_neg h5,if_neg h6,if_neg h7,if_neg h8,if_neg h9,if_pos h10,pop_eq l inp vars puts t b cnt _ _ (by simp at hst; omega)]; simp only; rw [if_pos hpl,e1]
  by_cases h11:e.Op=11
  · have hpp:mach_pops.f e.Op=(0,0):=by rw [h11]; rfl
    have hj:=F.jump pc e he (.inl h11)
    have hh:=g5 (.inl h11)
    refine ⟨e.A.toNat,false,vars,puts,stack,cnt,over0 (by omega) (by omega),?_,I.next (by omega) I.vlen I.clen I.range (by rw [hh,hpp,hv]; simp),by omega,.inl ⟨h11,by omega,rfl,rfl⟩⟩
    unfold mach_Machine_do.f; rw [if_neg h1,if_neg h2,if_neg h3,if_neg h4,if_neg h5,if_neg h6,if_neg h7,if_neg h8,if_neg h9,if_neg h10,if_pos h11,show ((e.A.toNat:Nat):Int)=e.A by omega]
  by_cases h12:e.Op=12
  · have hpp:mach_pops.f e.Op=(1,0):=by rw [h12]; rfl
    have hj:=F.jump pc e he (.inr h12)
    obtain ⟨t,b,rfl⟩:=last1 (by rw [hpp]; decide)
    have hpop:=pop_eq l inp vars puts t b cnt (pc:Int) y (by simp at hst; omega)
    have htl:(t.length:Int)=v-(mach_pops.f e.Op).1+(mach_pops.f e.Op).2:=by rw [hpp]; simp at hv ⊢; omega
    have hov:mach_Machine_over.f l inp vars puts (t++[b]) cnt (pc:Int) z e=some (b==0):=by
      have e2:IntKind.i64.wrap (((t++[b]).length:Int)-1)=(t.length:Int):=by
        simp only [List.length_append,List.length_cons,List.length_nil] at hst ⊢
        rw [wrap64_small (by omega) (by omega)]; omega
      unfold mach_Machine_over.f
      rw [if_pos h12,e2,if_pos (by omega),Int.toNat_natCast]
      simp
    by_cases hb:b=0
    · refine ⟨e.A.toNat,true,vars,puts,t,cnt,by rw [hov,hb]; rfl,?_,I.next (by omega) I.vlen I.clen I.range (by rw [g5 (.inr h12),htl]),by omega,.inr (.inl ⟨h12,rfl,.inl ⟨rfl,by omega⟩⟩)⟩
      unfold mach_Machine_do.f; rw [if_neg h1,if_neg h2,if_neg h3,if_neg h4,if_neg h5,if_neg h6,if_neg h7,if_neg h8,if_neg h9,if_neg h10,if_neg h11,if_pos h12,hpop]; simp only; rw [if_pos hb,show ((e.A.toNat:Nat):Int)=e.A by omega]
    · refine ⟨pc+1,false,vars,puts,t,cnt,by rw [hov]; simp [hb],?_,I.next (by omega) I.vlen I.clen I.range (fit _ htl h11),by omega,.inr (.inl ⟨h12,rfl,.inr ⟨rfl,rfl⟩⟩)⟩
      unfold mach_Machine_do.f; rw [if_neg h1,if_neg h2,if_neg h3,if_neg h4,if_neg h5,if_neg h6,if_neg h7,if_neg h8,if_neg h9,if_neg h10,if_neg h11,if_pos h12,hpop]; simp only; rw [if_neg hb,e1]
  have hcnt:=I.clen
  by_cases h13:e.Op=13
  · have hpp:mach_pops.f e.Op=(0,0):=by rw [h13]; rfl
    have:=ho.A7 (by omega)
    have hB1:=ho.B1 h13
    obtain ⟨c,hc⟩:∃ x,cnt[e.A.toNat]?=some x:=⟨cnt[e.A.toNat]'(by omega),List.getElem?_eq_getElem (by omega)⟩
    refine ⟨pc+1,false,vars,puts,stack,cnt.set e.A.toNat e.B,over0 h12 (by omega),?_,I.next (by omega) I.vlen (by rw [List.length_set]; exact I.clen) (range_set I.range _ ⟨ho.B,hB1⟩) (fit _ (by rw [hpp,hv]; simp) h11),by omega,.inr (.inr (.inl ⟨h13,rfl,rfl,rfl⟩))⟩
    unfold mach_Machine_do.f; rw [if_neg h1,if_neg h2,if_neg h3,if_neg h4,if_neg h5,if_neg h6,if_neg h7,if_neg h8,if_neg h9,if_neg h10,if_neg h11,if_neg h12,if_pos h13,if_pos hA,arr,hc]; simp only; rw [e1]
  by_cases h14:e.Op=14
  · have hpp:mach_pops.f e.Op=(0,0):=by rw [h14]; rfl
    have:=ho.A7 (by omega)
    obtain ⟨b1,b2⟩:=F.back pc e he h14
    obtain ⟨c,hc⟩:∃ x,cnt[e.A.toNat]?=some x:=⟨cnt[e.A.toNat]'(by omega),List.getElem?_eq_getElem (by omega)⟩
    have hcr:=I.range c (List.mem_of_getElem? hc)
    have hov:mach_Machine_over.f l inp vars puts stack cnt (pc:Int) z e=some (decide (c > 0)):=by
      unfold mach_Machine_over.f
      rw [if_neg h12,if_pos h14,if_pos hA,arr,hc]
    by_cases hc0:c > 0
    · refine ⟨e.B.toNat,true,vars,puts,stack,cnt.set e.A.toNat (c-1),by rw [hov]; simp [hc0],?_,I.next (by omega) I.vlen (by rw [List.length_set]; exact I.clen) (range_set I.range _ (by omega)) (by rw [g6 h14,hpp,hv]; simp),by omega,.inr (.inr (.inr (.inl ⟨h14,c,hc,.inl ⟨hc0,rfl,by omega,rfl⟩⟩)))⟩
      unfold mach_Machine_do.f; rw [if_neg h1,if_neg h2,if_neg h3,if_neg h4,if_neg h5,if_neg h6,if_neg h7,if_neg h8,if_neg h9,if_neg h10,if_neg h11,if_neg h12,if_neg h13,if_pos h14,if_pos hA,arr,hc]; simp only; rw [if_pos hc0,wrap64_small (by omega) (by omega),show ((e.B.toNat:Nat):Int)=e.B by omega]
    · refine ⟨pc+1,false,vars,puts,stack,cnt,by rw [hov]; simp [hc0],?_,I.next (by omega) I.vlen I.clen I.range (fit _ (by rw [hpp,hv]; simp) h11),by omega,.inr (.inr (.inr (.inl ⟨h14,c,hc,.inr ⟨by omega,rfl,rfl,rfl⟩⟩)))⟩
      unfold mach_Machine_do.f; rw [if_neg h1,if_neg h2,if_neg h3,if_neg h4,if_neg h5,if_neg h6,if_neg h7,if_neg h8,if_neg h9,if_neg h10,if_neg h11,if_neg h12,if_neg h13,if_pos h14,if_pos hA,arr,hc]; simp only; rw [if_neg hc0,e1]
  by_cases h15:e.Op=15
  · have hpp:mach_pops.f e.Op=(0,0):=by rw [h15]; rfl
    have:=ho.A7 (by omega)
    obtain ⟨c,hc⟩:∃ x,cnt[e.A.toNat]?=some x:=⟨cnt[e.A.toNat]'(by omega),List.getElem?_eq_getElem (by omega)⟩
    refine ⟨pc+1,false,vars,puts,stack,cnt.set e.A.toNat 0,over0 h12 h14,?_,I.next (by omega) I.vlen (by rw [List.length_set]; exact I.clen) (range_set I.range _ (by omega)) (fit _ (by rw [hpp,hv]; simp) h11),by omega,.inr (.inr (.inr (.inr (.inl ⟨h15,rfl,rfl,rfl⟩))))⟩
    unfold mach_Machine_do.f; rw [if_neg h1,if_neg h2,if_neg h3,if_neg h4,if_neg h5,if_neg h6,if_neg h7,if_neg h8,if_neg h9,if_neg h10,if_neg h11,if_neg h12,if_neg h13,if_neg h14,if_pos h15,if_pos hA,arr,hc]; simp only; rw [e1]
  have hpp:mach_pops.f e.Op=(0,0):=by
    have:e.Op=16 ∨ e.Op=17 ∨ e.Op=18:=by omega
    rcases this with h | h | h <;> (rw [h]; rfl)
  refine plain h11 h12 h13 h14 h15 vars puts stack ?_ I.vlen (by omega) (by rw [hpp,hv]; simp)
  unfold mach_Machine_do.f; rw [if_neg h1,if_neg h2,if_neg h3,if_neg h4,if_neg h5,if_neg h6,if_neg h7,if_neg h8,if_neg h9,if_neg h10,if_neg h11,if_neg h12,if_neg h13,if_neg h14,if_neg h15,e1]

theorem tick_p0 {l:List SIns} {inp vars stack cnt:List Int} {puts:List SPut} {x left:Int} {e:SIns} {ov:Bool} (hov:mach_Machine_over.f l inp vars puts stack cnt x 0 e=some ov) :
    mach_Machine_Tick.p0 l inp vars puts stack cnt x left e=some (.inl (if left=0 then mach_Cost.f e ov else left)):=by
  unfold mach_Machine_Tick.p0
  by_cases h:left=0
  · subst h
    rw [if_pos rfl,hov,if_pos rfl]
  · rw [if_neg h,if_neg h]
theorem tick_on {l:List SIns} {inp vars stack cnt:List Int} {puts:List SPut} {pc:Nat} {left:Int} {e:SIns} {ov:Bool} (he:l[pc]?=some e) (hov:mach_Machine_over.f l inp vars puts stack cnt (pc:Int) 0 e=some ov) {z:Int} (hz:z=if left=0 then mach_Cost.f e ov else left) (h1:1≤z) (h2:z≤1000) :
    (1<z→mach_Machine_Tick.f l inp vars puts stack cnt (pc:Int) left=some (e,false,vars,puts,stack,cnt,(pc:Int),z-1)) ∧
    (z=1→∀ x v p s c,mach_Machine_do.f l inp vars puts stack cnt (pc:Int) 0 e=some (x,v,p,s,c)→mach_Machine_Tick.f l inp vars puts stack cnt (pc:Int) left=some (e,true,v,p,s,c,x,0)):=by
  have hlt:=lt_of_get he
  have hd:mach_Machine_Done.f l inp vars puts stack cnt (pc:Int) left=false:=by
    unfold mach_Machine_Done.f
    rw [beq_eq_false_iff_ne]; omega
  have hp:=tick_p0 (left:=left) hov
  rw [← hz] at hp
  have hc:(0:Int)≤(pc:Int):=by omega
  have hw:IntKind.i64.wrap (z-1)=z-1:=wrap64_small (by omega) (by omega)
  constructor
  · intro h
    unfold mach_Machine_Tick.f
    rw [hd]
    simp only [Bool.false_eq_true,if_false,if_pos hc,Int.toNat_natCast,he,hp,hw]
    rw [if_pos (by omega)]
  · intro h x v p s c hdo
    subst h
    unfold mach_Machine_Tick.f
    rw [hd]
    simp only [Bool.false_eq_true,if_false,if_pos hc,Int.toNat_natCast,he,hp,hw]
    rw [if_neg (by omega)]
    simp only [Int.sub_self,hdo]

theorem cost_ticks {e:SIns} {ov:Bool} (h:ov=true→e.Op=12 ∨ e.Op=14):punctualref_Ticks.f e ov=mach_Cost.f e ov:=by
  unfold punctualref_Ticks.f mach_Cost.f
  cases ov with
  | false =>
    simp only [Bool.false_eq_true,if_false]
    by_cases h12:e.Op=12
    · simp [h12]
    · by_cases h14:e.Op=14
      · simp [h14]
      · simp [h12,h14]
  | true =>
    rcases h rfl with h | h <;> simp [h]
def Cnts (mp:List (Int×Int)) (cnt:List Int):Prop:=∀ a:Nat,a<8→cnt[a]?=some ((mget mp (a:Int)).getD 0)
theorem Cnts.set {mp:List (Int×Int)} {cnt:List Int} (h:Cnts mp cnt) (hl:cnt.length=8) {x:Int} (hx:0≤x∧x≤7) (v:Int):Cnts (mset mp x v) (cnt.set x.toNat v):=by
  intro a ha
  rw [mget_mset',List.getElem?_set]
  by_cases hax:(a:Int)=x
  · rw [if_pos hax,if_pos (by omega),if_pos (by omega)]; rfl
  · rw [if_neg hax,if_neg (by omega)]; exact h a ha
theorem wrap_len1 {t:List Int} {b:Int} (ht:t.length≤5000):IntKind.i64.wrap (((t++[b]).length:Int)-1)=(t.length:Int):=by
  simp only [List.length_append,List.length_cons,List.length_nil]
  rw [wrap64_small (by omega) (by omega)]; omega
theorem steps1_eq (x:Int) (t:List Int) (a b:Int) (ht:t.length≤4000):punctualref_Steps_1.f x (t++[a,b]) ((t++[a,b]).length:Int)=some (t++[x]):=by
  have e1:IntKind.i64.wrap (((t++[a,b]).length:Int)-2)=(t.length:Int):=by
    simp only [List.length_append,List.length_cons,List.length_nil]
    rw [wrap64_small (by omega) (by omega)]; omega
  have e2:(t++[a,b]).take t.length=t:=by simp
  unfold punctualref_Steps_1.f
  rw [e1]
  simp only [Int.toNat_natCast,e2]
  rw [if_pos (by omega),if_pos (by simp),if_pos (by omega)]
theorem ref_step {l:List SIns} {m:List (Int×Int)} (F:Facts l m) {H:List Int} (hH:HeightsOK l H) {inp vars stack cnt:List Int} {pc:Nat} (I:MInv l H inp vars stack cnt pc) {e:SIns} (he:l[pc]?=some e) (puts:List SPut) (hp:puts.length≤8000000000000) {mp:List (Int×Int)} (hC:Cnts mp cnt)
    {ov:Bool} {pc':Nat} {vars' stack' cnt':List Int} {puts':List SPut} (q1:mach_Machine_over.f l inp vars puts stack cnt (pc:Int) 0 e=some ov) (q2:mach_Machine_do.f l inp vars puts stack cnt (pc:Int) 0 e=some ((pc':Int),vars',puts',stack',cnt')) :
    ∃ mp',punctualref_Steps.p1 inp (pc:Int) stack vars puts mp e=some (.inl ((pc':Int),ov,stack',vars',puts',mp'))∧Cnts mp' cnt'∧(ov=true→e.Op=12 ∨ e.Op=14):=by
  have hlt:=lt_of_get he
  have hlen:=F.len
  have ho:=F.ok pc e he
  have hop:=ho.op
  obtain ⟨v,g1,g2,g3,g4,g5,g6,g7⟩:=hH.step pc e he
  have hv:v=(stack.length:Int):=by have:=I.hgt; rw [g1] at this; exact Option.some.inj this
  have hst:stack.length≤20:=by omega
  have hpush:stack.length<17592186044416:=by omega
  have hA:=ho.A
  have arr:arrN 8 cnt=cnt:=arrN_eq I.clen
  have last1:1≤(mach_pops.f e.Op).1→∃ t b,stack=t++[b]:=fun h=>last_one hv (by omega)
  have last2:2≤(mach_pops.f e.Op).1→∃ t a b,stack=t++[a,b]:=fun h=>last_two hv (by omega)
  have over0:e.Op ≠ 12→e.Op ≠ 14→ov=false:=fun h1 h2=>by
    unfold mach_Machine_over.f at q1; rw [if_neg h1,if_neg h2] at q1; exact (Option.some.inj q1).symm
  have ovt:ov=true→e.Op=12 ∨ e.Op=14:=fun h=>by
    by_cases h1:e.Op=12
    · exact .inl h1
    · by_cases h2:e.Op=14
      · exact .inr h2
      · rw [over0 h1 h2] at h; cases h
  suffices h:∃ mp',punctualref_Steps.p1 inp (pc:Int) stack vars puts mp e=some (.inl ((pc':Int),ov,stack',vars',puts',mp'))∧Cnts mp' cnt' by
    obtain ⟨mp',h1,h2⟩:=h; exact ⟨mp',h1,h2,ovt⟩
  have done1:∀ {x1 x2:Int} {a1 b1 a3 b3 a4 b4:List Int} {a2 b2:List SPut},some (x1,a1,a2,a3,a4)=some (x2,b1,b2,b3,b4)→x2=x1∧b1=a1∧b2=a2∧b3=a3∧b4=a4:=fun h=>by
    cases h; exact ⟨rfl,rfl,rfl,rfl,rfl⟩
  unfold mach_Machine_do.f at q2
  unfold punctualref_Steps.p1
  by_cases h1:e.Op=1
  · have hv0:=over0 (by omega) (by omega)
    rw [if_pos h1,if_pos hpush] at q2
    obtain ⟨d1,rfl,rfl,rfl,rfl⟩:=done1 q2
    rw [if_pos h1,if_pos hpush,hv0,d1]; exact ⟨_,rfl,hC⟩
  rw [if_neg h1] at q2 ⊢
  by_cases h2:e.Op=2
  · have hv0:=over0 (by omega) (by omega)
    have:=ho.A7 (by omega)
    have hiv:=I.vlen
    obtain ⟨x,hx⟩:∃ x,vars[e.A.toNat]?=some x:=⟨vars[e.A.toNat]'(by omega),List.getElem?_eq_getElem (by omega)⟩
    rw [if_pos h2,if_pos hA,hx] at q2 ⊢
    simp only [if_pos hpush] at q2 ⊢
    obtain ⟨d1,rfl,rfl,rfl,rfl⟩:=done1 q2
    rw [hv0,d1]; exact ⟨_,rfl,hC⟩
  rw [if_neg h2] at q2 ⊢
  by_cases h3:e.Op=3
  · have hpp:mach_pops.f e.Op=(1,0):=by rw [h3]; rfl
    have hv0:=over0 (by omega) (by omega)
    have:=ho.A7 (by omega)
    have hiv:=I.vlen
    obtain ⟨x,hx⟩:∃ x,vars[e.A.toNat]?=some x:=⟨vars[e.A.toNat]'(by omega),List.getElem?_eq_getElem (by omega)⟩
    obtain ⟨t,b,rfl⟩:=last1 (by rw [hpp]; decide)
    have htl:t.length≤20:=by simp at hst; omega
    rw [if_pos h3,pop_eq l inp vars puts t b cnt _ _ (by omega)] at q2
    simp only [if_pos hA,hx] at q2
    obtain ⟨d1,rfl,rfl,rfl,rfl⟩:=done1 q2
    rw [if_pos h3,wrap_len1 (by omega)]
    simp only [Int.toNat_natCast,List.getElem?_concat_length,if_pos hA,hx]
    rw [if_pos (by omega),if_pos (by simp),hv0,d1]
    exact ⟨_,by simp,hC⟩
  rw [if_neg h3] at q2 ⊢
  have two:2≤(mach_pops.f e.Op).1→∃ t a b,stack=t++[a,b]∧t.length≤4000∧0≤IntKind.i64.wrap (((t++[a,b]).length:Int)-2)∧(t++[a,b])[(IntKind.i64.wrap (((t++[a,b]).length:Int)-2)).toNat]?=some a∧0≤IntKind.i64.wrap (((t++[a,b]).length:Int)-1)∧(t++[a,b])[(IntKind.i64.wrap (((t++[a,b]).length:Int)-1)).toNat]?=some b:=fun h=>by
    obtain ⟨t,a,b,rfl⟩:=last2 h
    have htl:t.length≤20:=by simp at hst; omega
    have e1:IntKind.i64.wrap (((t++[a,b]).length:Int)-2)=(t.length:Int):=by
      simp only [List.length_append,List.length_cons,List.length_nil]
      rw [wrap64_small (by omega) (by omega)]; omega
    have e2:IntKind.i64.wrap (((t++[a,b]).length:Int)-1)=((t.length+1:Nat):Int):=by
      simp only [List.length_append,List.length_cons,List.length_nil]
      rw [wrap64_small (by omega) (by omega)]; omega
    refine ⟨t,a,b,rfl,by omega,by rw [e1]; omega,by rw [e1]; simp,by rw [e2]; omega,by rw [e2,Int.toNat_natCast]; simp⟩
  by_cases h4:e.Op=4
  · have hpp:mach_pops.f e.Op=(2,1):=by rw [h4]; rfl
    have hv0:=over0 (by omega) (by omega)
    obtain ⟨t,a,b,rfl,htl,k1,k2,k3,k4⟩:=two (by rw [hpp]; decide)
    rw [if_pos h4,(two_eq l inp vars puts t a b cnt (pc:Int) 0 htl).1] at q2
    obtain ⟨d1,rfl,rfl,rfl,rfl⟩:=done1 q2
    rw [if_pos h4,if_pos k1,k2]; simp only [if_pos k3,k4]
    rw [steps1_eq _ t a b htl,hv0,d1]; exact ⟨_,rfl,hC⟩
  rw [if_neg h4] at q2 ⊢
  by_cases h5:e.Op=5
  · have hpp:mach_pops.f e.Op=(2,1):=by rw [h5]; rfl
    have hv0:=over0 (by omega) (by omega)
    obtain ⟨t,a,b,rfl,htl,k1,k2,k3,k4⟩:=two (by rw [hpp]; decide)
    rw [if_pos h5,(two_eq l inp vars puts t a b cnt (pc:Int) 0 htl).2.1] at q2
    obtain ⟨d1,rfl,rfl,rfl,rfl⟩:=done1 q2
    rw [if_pos h5,if_pos k1,k2]; simp only [if_pos k3,k4]
    rw [steps1_eq _ t a b htl,hv0,d1]; exact ⟨_,rfl,hC⟩
  rw [if_neg h5] at q2 ⊢
  by_cases h6:e.Op=6
  · have hpp:mach_pops.f e.Op=(2,1):=by rw [h6]; rfl
    have hv0:=over0 (by omega) (by omega)
    obtain ⟨t,a,b,rfl,htl,k1,k2,k3,k4⟩:=two (by rw [hpp]; decide)
    rw [if_pos h6,(two_eq l inp vars puts t a b cnt (pc:Int) 0 htl).2.2.1] at q2
    obtain ⟨d1,rfl,rfl,rfl,rfl⟩:=done1 q2
    rw [if_pos h6,if_pos k1,k2]; simp only [if_pos k3,k4]
    rw [steps1_eq _ t a b htl,hv0,d1]; exact ⟨_,rfl,hC⟩
  rw [if_neg h6] at q2 ⊢
  by_cases h7:e.Op=7
  · have hpp:mach_pops.f e.Op=(2,1):=by rw [h7]; rfl
    have hv0:=over0 (by omega) (by omega)
    obtain ⟨t,a,b,rfl,htl,k1,k2,k3,k4⟩:=two (by rw [hpp]; decide)
    rw [if_pos h7,(two_eq l inp vars puts t a b cnt (pc:Int) 0 htl).2.2.2.1] at q2
    obtain ⟨d1,rfl,rfl,rfl,rfl⟩:=done1 q2
    rw [if_pos h7,if_pos k1,k2]; simp only [if_pos k3,k4]
    rw [steps1_eq _ t a b htl,hv0,d1]; exact ⟨_,rfl,hC⟩
  rw [if_neg h7] at q2 ⊢
  by_cases h8:e.Op=8
  · have hpp:mach_pops.f e.Op=(2,1):=by rw [h8]; rfl
    have hv0:=over0 (by omega) (by omega)
    obtain ⟨t,a,b,rfl,htl,k1,k2,k3,k4⟩:=two (by rw [hpp]; decide)
    rw [if_pos h8,(two_eq l inp vars puts t a b cnt (pc:Int) 0 htl).2.2.2.2] at q2
    obtain ⟨d1,rfl,rfl,rfl,rfl⟩:=done1 q2
    rw [if_pos h8,if_pos k1,k2]; simp only [if_pos k3,k4]
    rw [steps1_eq _ t a b htl,hv0,d1]; exact ⟨_,rfl,hC⟩
  rw [if_neg h8] at q2 ⊢
  by_cases h9:e.Op=9
  · have hv0:=over0 (by omega) (by omega)
    have:=ho.A3 (by omega)
    have hii:=I.ilen
    obtain ⟨x,hx⟩:∃ x,inp[e.A.toNat]?=some x:=⟨inp[e.A.toNat]'(by omega),List.getElem?_eq_getElem (by omega)⟩
    rw [if_pos h9,if_pos hA,hx] at q2 ⊢
    simp only [if_pos hpush] at q2 ⊢
    obtain ⟨d1,rfl,rfl,rfl,rfl⟩:=done1 q2
    rw [hv0,d1]; exact ⟨_,rfl,hC⟩
  rw [if_neg h9] at q2 ⊢
  by_cases h10:e.Op=10
  · have hpp:mach_pops.f e.Op=(1,0):=by rw [h10]; rfl
    have hv0:=over0 (by omega) (by omega)
    obtain ⟨t,b,rfl⟩:=last1 (by rw [hpp]; decide)
    have hpl:puts.length<8796093022208:=by omega
    have htl:t.length≤20:=by simp at hst; omega
    rw [if_pos h10,pop_eq l inp vars puts t b cnt _ _ (by omega)] at q2
    simp only [if_pos hpl] at q2
    obtain ⟨d1,rfl,rfl,rfl,rfl⟩:=done1 q2
    rw [if_pos h10,wrap_len1 (by omega)]
    simp only [Int.toNat_natCast,List.getElem?_concat_length,if_pos hpl]
    rw [if_pos (by omega),if_pos (by simp),hv0,d1]
    exact ⟨_,by simp,hC⟩
  rw [if_neg h10] at q2 ⊢
  by_cases h11:e.Op=11
  · have hv0:=over0 (by omega) (by omega)
    rw [if_pos h11] at q2 ⊢
    obtain ⟨d1,rfl,rfl,rfl,rfl⟩:=done1 q2
    rw [hv0,d1]; exact ⟨_,rfl,hC⟩
  rw [if_neg h11] at q2 ⊢
  by_cases h12:e.Op=12
  · have hpp:mach_pops.f e.Op=(1,0):=by rw [h12]; rfl
    obtain ⟨t,b,rfl⟩:=last1 (by rw [hpp]; decide)
    have htl:t.length≤20:=by simp at hst; omega
    have hov:ov=(b==0):=by
      unfold mach_Machine_over.f at q1
      rw [if_pos h12,wrap_len1 (by omega),if_pos (by omega),Int.toNat_natCast,List.getElem?_concat_length] at q1
      exact (Option.some.inj q1).symm
    rw [if_pos h12,pop_eq l inp vars puts t b cnt _ _ (by omega)] at q2
    rw [if_pos h12,wrap_len1 (by omega)]
    simp only [Int.toNat_natCast,List.getElem?_concat_length] at q2 ⊢
    rw [if_pos (by omega)]
    by_cases hb:b=0
    · rw [if_pos hb] at q2 ⊢
      obtain ⟨d1,rfl,rfl,rfl,rfl⟩:=done1 q2
      rw [if_pos (by simp),hov,d1,hb]; exact ⟨_,by simp,hC⟩
    · rw [if_neg hb] at q2 ⊢
      obtain ⟨d1,rfl,rfl,rfl,rfl⟩:=done1 q2
      rw [if_pos (by simp),hov,d1]; exact ⟨_,by simp [hb],hC⟩
  rw [if_neg h12] at q2 ⊢
  have hcnt:=I.clen
  have at7:e.A≤7→cnt[e.A.toNat]?=some ((mget mp e.A).getD 0):=fun h=>by
    have:=hC e.A.toNat (by omega)
    rwa [show ((e.A.toNat:Nat):Int)=e.A by omega] at this
  by_cases h13:e.Op=13
  · have hv0:=over0 (by omega) (by omega)
    have h7:=ho.A7 (by omega)
    rw [if_pos h13,if_pos hA,arr,at7 h7] at q2
    rw [if_pos h13]
    obtain ⟨d1,rfl,rfl,rfl,rfl⟩:=done1 q2
    rw [hv0,d1]; exact ⟨_,rfl,hC.set hcnt ⟨hA,h7⟩ _⟩
  rw [if_neg h13] at q2 ⊢
  by_cases h14:e.Op=14
  · have h7:=ho.A7 (by omega)
    have hov:ov=decide ((mget mp e.A).getD 0 > 0):=by
      unfold mach_Machine_over.f at q1
      rw [if_neg h12,if_pos h14,if_pos hA,arr,at7 h7] at q1
      exact (Option.some.inj q1).symm
    rw [if_pos h14,if_pos hA,arr,at7 h7] at q2
    rw [if_pos h14]
    simp only at q2
    by_cases hc:(mget mp e.A).getD 0 > 0
    · rw [if_pos hc] at q2 ⊢
      obtain ⟨d1,rfl,rfl,rfl,rfl⟩:=done1 q2
      rw [hov,d1]; exact ⟨_,by simp [hc],hC.set hcnt ⟨hA,h7⟩ _⟩
    · rw [if_neg hc] at q2 ⊢
      obtain ⟨d1,rfl,rfl,rfl,rfl⟩:=done1 q2
      rw [hov,d1]; exact ⟨_,by simp [hc],hC⟩
  rw [if_neg h14] at q2 ⊢
  have hv0:=over0 h12 h14
  by_cases h15:e.Op=15
  · have h7:=ho.A7 (by omega)
    rw [if_pos h15,if_pos hA,arr,at7 h7] at q2
    rw [if_pos h15]
    obtain ⟨d1,rfl,rfl,rfl,rfl⟩:=done1 q2
    rw [hv0,d1]; exact ⟨_,rfl,hC.set hcnt ⟨hA,h7⟩ _⟩
  rw [if_neg h15] at q2 ⊢
  obtain ⟨d1,rfl,rfl,rfl,rfl⟩:=done1 q2
  rw [hv0,d1]; exact ⟨_,rfl,hC⟩

structure Pos where
  pc:Nat
  vars:List Int
  stack:List Int
  cnt:List Int
  puts:List SPut
  mp:List (Int×Int)
  T:Int
  tr:List SStep
structure Next (l : List SIns) (inp : List Int) (s s' : Pos) : Prop where
  ex:∃ (e:SIns) (ov:Bool),l[s.pc]?=some e∧mach_Machine_over.f l inp s.vars s.puts s.stack s.cnt (s.pc:Int) 0 e=some ov∧mach_Machine_do.f l inp s.vars s.puts s.stack s.cnt (s.pc:Int) 0 e=some ((s'.pc:Int),s'.vars,s'.puts,s'.stack,s'.cnt)∧punctualref_Steps.p1 inp (s.pc:Int) s.stack s.vars s.puts s.mp e=some (.inl ((s'.pc:Int),ov,s'.stack,s'.vars,s'.puts,s'.mp)) ∧
    punctualref_Ticks.f e ov=mach_Cost.f e ov∧1≤mach_Cost.f e ov∧mach_Cost.f e ov≤1000∧s'.T=s.T+mach_Cost.f e ov∧s'.tr=s.tr++[⟨(s.pc:Int),mach_Cost.f e ov⟩]
structure Fine (l : List SIns) (H inp : List Int) (n : Nat) (s : Pos) : Prop where
  inv:MInv l H inp s.vars s.stack s.cnt s.pc
  puts:s.puts.length≤n
  T0:0≤s.T
  T1:s.T≤1000*(n:Int)
  cnts:Cnts s.mp s.cnt
  tr:s.tr.length=n
theorem next_of {l:List SIns} {m:List (Int×Int)} (F:Facts l m) {H:List Int} (hH:HeightsOK l H) {inp:List Int} {n:Nat} {s:Pos} (G:Fine l H inp n s) (hn:n≤20000) (hpc:s.pc<l.length):∃ s',Next l inp s s'∧Fine l H inp (n+1) s':=by
  obtain ⟨e,he⟩:∃ e,l[s.pc]?=some e:=⟨l[s.pc],List.getElem?_eq_getElem hpc⟩
  have h0:=G.puts
  have h1:=G.T0
  have h2:=G.T1
  have h3:=G.tr
  obtain ⟨pc',ov,vars',puts',stack',cnt',q1,q2,q3,q4,q5⟩:=do_spec F hH G.inv he s.puts (by omega) 0 0
  obtain ⟨mp',r1,r2,r3⟩:=ref_step F hH G.inv he s.puts (by omega) G.cnts q1 q2
  have hc:=cost_range (F.ok s.pc e he) ov
  exact ⟨⟨pc',vars',stack',cnt',puts',mp',s.T+mach_Cost.f e ov,s.tr++[⟨(s.pc:Int),mach_Cost.f e ov⟩]⟩,⟨e,ov,he,q1,q2,r1,cost_ticks r3,hc.1,hc.2,rfl,rfl⟩,⟨q3,by simp only; omega,by simp only; omega,by simp only; omega,r2,by simp [h3]⟩⟩
structure Path (l : List SIns) (H inp vars : List Int) (N : Nat) (P : Nat → Pos) : Prop where
  start:P 0=⟨0,vars,[],[0,0,0,0,0,0,0,0],[],[],0,[]⟩
  next:∀ n,n<N→Next l inp (P n) (P (n+1))
  fine:∀ n,n≤N→Fine l H inp n (P n)
theorem path_to {l:List SIns} {m:List (Int×Int)} (F:Facts l m) {H:List Int} (hH:HeightsOK l H) {inp vars:List Int} (hv:vars.length=8) (hi:inp.length=4) (x:Nat) (hx:x≤20000):∃ N P,N≤x∧Path l H inp vars N P∧(N=x ∨ (P N).pc=l.length):=by
  induction x with
  | zero =>
    refine ⟨0,fun _=>⟨0,vars,[],[0,0,0,0,0,0,0,0],[],[],0,[]⟩,Nat.le_refl _,⟨rfl,fun n hn=>by omega,fun n hn=>?_⟩,.inl rfl⟩
    obtain rfl:n=0:=by omega
    exact ⟨⟨Nat.zero_le _,hv,hi,rfl,by simp,by simpa using hH.start⟩,by simp,by simp,by simp,fun a ha=>by
      have:a=0 ∨ a=1 ∨ a=2 ∨ a=3 ∨ a=4 ∨ a=5 ∨ a=6 ∨ a=7:=by omega
      rcases this with rfl | rfl | rfl | rfl | rfl | rfl | rfl | rfl <;> rfl,rfl⟩
  | succ x ih =>
    obtain ⟨N,P,h1,h2,h3⟩:=ih (by omega)
    by_cases hend:(P N).pc=l.length
    · exact ⟨N,P,by omega,h2,.inr hend⟩
    · have hN : N = x := by rcases h3 with h3 | h3
                            · exact h3
                            · exact absurd h3 hend
      subst hN
      have G:=h2.fine N (Nat.le_refl _)
      have hle:=G.inv.at_
      obtain ⟨s',k1,k2⟩:=next_of F hH G (Nat.le_of_succ_le hx) (Nat.lt_of_le_of_ne hle hend)
      refine ⟨N+1,fun n=>if n=N+1 then s' else P n,Nat.le_refl _,⟨?_,fun n hn=>?_,fun n hn=>?_⟩,.inl rfl⟩
      · rw [if_neg (by omega)]; exact h2.start
      · rw [if_neg (by omega)]
        by_cases hn':n=N
        · subst hn'; rw [if_pos rfl]; exact k1
        · rw [if_neg (by omega)]; exact h2.next n (by omega)
      · by_cases hn':n=N+1
        · subst hn'; rw [if_pos rfl]; exact k2
        · rw [if_neg hn']; exact h2.fine n (by omega)
theorem path_ref {l:List SIns} {H inp vars:List Int} {N:Nat} {P:Nat→Pos} (hP:Path l H inp vars N P) (hN:N≤20000) (x:Nat):∀ n,n≤N→n≤x→∀ K,iter (punctualref_Steps.r0 l inp (x:Int)) (K+n) ([],0,[],vars,[],0,[])=iter (punctualref_Steps.r0 l inp (x:Int)) K ((P n).tr,((P n).pc:Int),(P n).stack,(P n).vars,(P n).puts,(P n).T,(P n).mp):=by
  intro n
  induction n with
  | zero=>intro _ _ K; rw [hP.start]; rfl
  | succ n ih =>
    intro h1 h2 K
    rw [show K+(n+1)=(K+1)+n by omega,ih (by omega) (by omega) (K+1),iter_succ]
    obtain ⟨e,ov,he,_,_,r1,hct,c1,c2,hT,htr⟩:=(hP.next n (by omega)).ex
    have G:=hP.fine n (by omega)
    have hlt:=lt_of_get he
    have hc:((P n).pc:Int)<(l.length:Int):=by omega
    have ht:=G.tr
    have hT0:=G.T0
    have hT1:=G.T1
    have hx:¬ ((P n).tr.length:Int)=(x:Int):=by omega
    have hm8:(P n).tr.length<8796093022208:=by omega
    have wt:IntKind.i64.wrap ((P n).T+mach_Cost.f e ov)=(P n).T+mach_Cost.f e ov:=wrap64_small (by omega) (by omega)
    simp only [punctualref_Steps.r0,if_pos hc,if_neg hx,if_pos (show (0:Int)≤((P n).pc:Int) by omega),Int.toNat_natCast,he,r1,if_pos hm8,hct,wt]
    rw [hT,htr]
theorem path_steps {l:List SIns} {H inp vars:List Int} {N:Nat} {P:Nat→Pos} (hP:Path l H inp vars N P) (hN:N≤20000) (hv:vars.length=8) (n:Nat) (hn:n≤N) (x:Nat) (hx:n≤x) (he:n=x ∨ (P n).pc=l.length) (K:Nat) (hK:30000≤K):∃ b,punctualref_Steps.f K l vars inp (x:Int)=some ((⟨(P n).vars,(P n).puts,(P n).T⟩:SEnded),(P n).tr,b):=by
  unfold punctualref_Steps.f
  rw [if_pos (by omega)]
  obtain ⟨K,rfl⟩:∃ K',K=(K'+1)+n:=⟨K-n-1,by omega⟩
  have h1:=path_ref hP hN x n hn hx (K+1)
  rw [h1,iter_succ]
  have G:=hP.fine n hn
  have hle:=G.inv.at_
  have ht:=G.tr
  by_cases hend:(P n).pc=l.length
  · have hc:¬ ((P n).pc:Int)<(l.length:Int):=by omega
    simp only [punctualref_Steps.r0,if_neg hc]
    exact ⟨_,rfl⟩
  · have hc:((P n).pc:Int)<(l.length:Int):=by omega
    have hx:((P n).tr.length:Int)=(x:Int):=by
      rcases he with he | he
      · omega
      · exact absurd he hend
    simp only [punctualref_Steps.r0,if_pos hc,if_pos hx]
    exact ⟨_,rfl⟩
theorem path_trace {l:List SIns} {H inp vars:List Int} {N:Nat} {P:Nat→Pos} (hP:Path l H inp vars N P) (n:Nat) {e:SIns} {ov:Bool} (he:l[(P n).pc]?=some e) (ho:mach_Machine_over.f l inp (P n).vars (P n).puts (P n).stack (P n).cnt ((P n).pc:Int) 0 e=some ov):∀ k,n<k→k≤N→(P k).tr[n]?=some ⟨((P n).pc:Int),mach_Cost.f e ov⟩:=by
  intro k
  induction k with
  | zero=>intro h; omega
  | succ k ih =>
    intro h1 h2
    obtain ⟨e',ov',he',ho',_,_,_,_,_,_,htr⟩:=(hP.next k (by omega)).ex
    have ht:=(hP.fine k (by omega)).tr
    rw [htr]
    by_cases hk:n=k
    · subst hk
      rw [he] at he'
      cases he'
      rw [ho] at ho'
      cases ho'
      rw [List.getElem?_append_right (by omega),ht]
      simp
    · rw [List.getElem?_append_left (by omega)]
      exact ih (by omega) (by omega)
theorem Vars_eq (l:List SIns) (inp v:List Int) (p:List SPut) (s c:List Int) (x y:Int) (hv:v.length≤100000):mach_Machine_Vars.f l inp v p s c x y=some v:=by
  unfold mach_Machine_Vars.f slices_Clone_int_int.f
  rw [if_pos (by omega)]
theorem Puts_eq (l:List SIns) (inp v:List Int) (p:List SPut) (s c:List Int) (x y:Int) (hv:p.length≤100000):mach_Machine_Puts.f l inp v p s c x y=some p:=by
  unfold mach_Machine_Puts.f slices_Clone_api_Put_api_Put.f
  rw [if_pos (by omega)]
def Midway (l:List SIns) (inp:List Int) (p:Pos) (z y:Int):Prop:=(z=0∧y=0) ∨ (0<y∧∃ e ov,l[p.pc]?=some e∧mach_Machine_over.f l inp p.vars p.puts p.stack p.cnt (p.pc:Int) 0 e=some ov∧z+y=mach_Cost.f e ov)
theorem ticked_true {l:List SIns} {m:List (Int×Int)} (F:Facts l m) {inp vars:List Int} (hv:vars.length=8) (hi:inp.length=4) (t:Int) (ht0:0≤t) (ht:t≤3000) (K:Nat) (hK:30000≤K):∃ r,ticked.f K l inp vars [] [] [0,0,0,0,0,0,0,0] 0 0 l vars inp t=some r∧r.1=true:=by
  obtain ⟨H,hH⟩:=F.hts
  have hlen:=F.len
  have hw1:IntKind.i64.wrap (t+1)=((t.toNat+1:Nat):Int):=by rw [wrap64_small (by omega) (by omega)]; omega
  obtain ⟨N,P,n1,hP,n2⟩:=path_to F hH hv hi (t.toNat+1) (by omega)
  obtain ⟨b,hb⟩:=path_steps hP (by omega) hv N (Nat.le_refl _) (t.toNat+1) n1 n2 K hK
  have htr:=(hP.fine N (Nat.le_refl _)).tr
  unfold ticked.f
  rw [hw1,hb]
  simp only
  obtain ⟨r,hr,n,k,hnN,rfl⟩:=iter_total (f:=ticked.r0 l inp l t ((⟨(P N).vars,(P N).puts,(P N).T⟩:SEnded),(P N).tr,b))
    (fun s=>∃ n:Nat,s.1=(n:Int)∧n≤N∧0≤s.2.1∧(n:Int)+s.2.1≤s.2.2.1∧s.2.2.1≤t∧s.2.2.2.1=(P n).vars∧s.2.2.2.2.1=(P n).puts∧s.2.2.2.2.2.1=(P n).stack∧s.2.2.2.2.2.2.1=(P n).cnt∧s.2.2.2.2.2.2.2.1=((P n).pc:Int) ∧
      Midway l inp (P n) s.2.1 s.2.2.2.2.2.2.2.2)
    (fun s=>(t-s.2.2.1).toNat) (fun r=>∃ (n:Nat) (left:Int),n≤N∧r=.inl ((n:Int),(P n).vars,(P n).puts,(P n).stack,(P n).cnt,((P n).pc:Int),left)) (fun s hI=>by
      obtain ⟨z1,z2,z3,m1,m2,m3,m4,z4,z5⟩:=s
      simp only at hI ⊢
      obtain ⟨n,rfl,i1,i2,i3,i4,rfl,rfl,rfl,rfl,rfl,hl⟩:=hI
      by_cases hz:z3<t
      · left
        have w3:IntKind.i64.wrap (z3+1)=z3+1:=wrap64_small (by omega) (by omega)
        by_cases hnN:n=N
        · subst hnN
          have hend:(P n).pc=l.length:=by
            rcases n2 with h | h
            · omega
            · exact h
          have h5:z2=0∧z5=0:=by
            rcases hl with h | ⟨_,e,ov,he,_⟩
            · exact h
            · have:=lt_of_get he; omega
          obtain ⟨rfl,rfl⟩:=h5
          have hd:mach_Machine_Done.f l inp (P n).vars (P n).puts (P n).stack (P n).cnt ((P n).pc:Int) 0=true:=by
            unfold mach_Machine_Done.f
            rw [hend]; simp
          have htk:mach_Machine_Tick.f l inp (P n).vars (P n).puts (P n).stack (P n).cnt ((P n).pc:Int) 0=some (⟨0,0,0⟩,false,(P n).vars,(P n).puts,(P n).stack,(P n).cnt,((P n).pc:Int),0):=by
            unfold mach_Machine_Tick.f
            rw [if_pos hd]
          have hn':(n:Int)=((P n).tr.length:Int):=by omega
          simp only [ticked.r0,if_pos hz,if_pos hn',htk,ticked.p1,hd,if_true,Bool.false_eq_true,if_false,SIns.eqb_self,w3]
          exact ⟨_,rfl,⟨n,rfl,by omega,by simp,by simp only; omega,by simp only; omega,rfl,rfl,rfl,rfl,rfl,.inl ⟨rfl,rfl⟩⟩,by simp only; omega⟩
        · obtain ⟨e,ov,he,ho,hdo,_,hct,c1,c2,_,_⟩:=(hP.next n (by omega)).ex
          have hlt:=lt_of_get he
          have htrn:=path_trace hP n he ho N (by omega) (Nat.le_refl _)
          have hd:mach_Machine_Done.f l inp (P n).vars (P n).puts (P n).stack (P n).cnt ((P n).pc:Int) z5=false:=by
            unfold mach_Machine_Done.f
            rw [beq_eq_false_iff_ne]; omega
          have hn':¬ (n:Int)=((P N).tr.length:Int):=by omega
          have hz5:∃ z:Int,z=(if z5=0 then mach_Cost.f e ov else z5)∧1≤z∧z≤1000∧z2+z=mach_Cost.f e ov:=by
            rcases hl with ⟨h1,h2⟩ | ⟨h1,e',ov',he',ho',h2⟩
            · exact ⟨_,by rw [if_pos h2],c1,c2,by omega⟩
            · rw [he] at he'
              cases he'
              rw [ho] at ho'
              cases ho'
              exact ⟨_,by rw [if_neg (by omega)],by omega,by omega,h2⟩
          obtain ⟨z,y1,y2,y3,y4⟩:=hz5
          obtain ⟨tk1,tk2⟩:=tick_on (left:=z5) he ho y1 y2 y3
          have w2:IntKind.i64.wrap (z2+1)=z2+1:=wrap64_small (by omega) (by omega)
          have w1:IntKind.i64.wrap ((n:Int)+1)=((n+1:Nat):Int):=by rw [wrap64_small (by omega) (by omega)]; omega
          have h0n:(0:Int)≤(n:Int):=by omega
          have h0p:(0:Int)≤((P n).pc:Int):=by omega
          by_cases hz1:z=1
          · have tk:=tk2 hz1 _ _ _ _ _ hdo
            have hwh:(true=(z2+1==mach_Cost.f e ov)):=by
              rw [eq_comm,beq_iff_eq]; omega
            simp only [ticked.r0,if_pos hz,if_neg hn',ticked.p2,hd,Bool.false_eq_true,if_false,if_pos h0n,Int.toNat_natCast,htrn,mach_Machine_At.f,if_true,tk,if_pos h0p,he,SIns.eqb_self,w2,← hwh,w1,w3]
            exact ⟨_,rfl,⟨n+1,rfl,by omega,by simp,by simp only; omega,by simp only; omega,rfl,rfl,rfl,rfl,rfl,.inl ⟨rfl,rfl⟩⟩,by simp only; omega⟩
          · have tk:=tk1 (by omega)
            have hwh:(false=(z2+1==mach_Cost.f e ov)):=by
              rw [eq_comm,beq_eq_false_iff_ne]; omega
            simp only [ticked.r0,if_pos hz,if_neg hn',ticked.p2,hd,Bool.false_eq_true,if_false,if_pos h0n,Int.toNat_natCast,htrn,mach_Machine_At.f,if_true,tk,if_pos h0p,he,SIns.eqb_self,w2,← hwh,w3]
            exact ⟨_,rfl,⟨n,rfl,i1,by simp only; omega,by simp only; omega,by simp only; omega,rfl,rfl,rfl,rfl,rfl,.inr ⟨by simp only; omega,e,ov,he,ho,by simp only; omega⟩⟩,by simp only; omega⟩
      · right
        simp only [ticked.r0,if_neg hz]
        exact ⟨_,rfl,n,_,i1,rfl⟩) K (0,0,0,vars,[],[],[0,0,0,0,0,0,0,0],0,0) ⟨0,rfl,Nat.zero_le _,by simp,by simp,by simp only; omega,by rw [hP.start],by rw [hP.start],by rw [hP.start],by rw [hP.start],by rw [hP.start]; rfl,.inl ⟨rfl,rfl⟩⟩ (by simp only; omega)
  rw [hr]
  obtain ⟨b',hb'⟩:=path_steps hP (by omega) hv n hnN n (Nat.le_refl _) (.inl rfl) K hK
  have G:=hP.fine n hnN
  have g1:=G.inv.vlen
  have g2:=G.puts
  simp only [hb',Vars_eq l inp (P n).vars (P n).puts (P n).stack (P n).cnt _ _ (by omega),Puts_eq l inp (P n).vars (P n).puts (P n).stack (P n).cnt _ _ (by omega),punctualsame_Same_int_self (P n).vars K (by omega),punctualsame_Same_api_Put_self (P n).puts K (by omega),if_true]
  exact ⟨_,rfl,rfl⟩

theorem New_cases (l:List SIns) (K:Nat) (hK:100000≤K):∃ q,punctualref_ReadImage.f K l=some q∧((q.2.Code ≠ 0∧∀ vars inp,mach_New.f K l vars inp=some (none,q.2)) ∨
    (q.2=⟨0,0⟩∧(∃ m,Facts l m)∧∀ vars inp:List Int,(¬ (vars.length=8∧inp.length=4)→mach_New.f K l vars inp=some (none,⟨3,0⟩))∧(vars.length=8→inp.length=4→mach_New.f K l vars inp=some (some ⟨l,inp,vars,[],[],[0,0,0,0,0,0,0,0],0,0⟩,⟨0,0⟩)))):=by
  obtain ⟨s,q,hs,hq,he,h⟩:=Look_Read l K (by omega)
  have hck:mach_Check.f K l=some s.2:=by unfold mach_Check.f; rw [hs]
  refine ⟨q,hq,?_⟩
  rcases h with ⟨h,hn⟩ | ⟨h,regs,hregs,F2⟩
  · left
    refine ⟨by rw [← he]; exact h,fun vars inp=>?_⟩
    unfold mach_New.f; rw [hck]; simp only; rw [if_neg h,he]
  · right
    have F:=F2.facts
    have hlen:=F.len
    have h0:s.2.Code=0:=by rw [h]
    refine ⟨by rw [← he]; exact h,⟨_,F⟩,fun vars inp=>⟨fun hno=>?_,fun hv hi=>?_⟩⟩
    · unfold mach_New.f; rw [hck]; simp only; rw [if_pos h0]
      by_cases hv:(vars.length:Int)=8
      · rw [if_pos hv,if_neg (by omega)]
      · rw [if_neg hv]
    · unfold mach_New.f slices_Clone_api_Ins_api_Ins.f slices_Clone_int_int.f
      rw [hck]
      simp only
      rw [if_pos h0,if_pos (by omega),if_pos (by omega),if_pos (by omega),if_pos (by omega),if_pos (by omega)]
theorem p2_eq (l1 l3:List Int) (q:(Option PImage)×SFault):(MachTicks.p2 l1 l3 q=some (.inl (if q.2.Code=0 then if l1.length=8∧l3.length=4 then (q.2.Code,q.2.At) else (3,0) else (q.2.Code,q.2.At))))∧MachTicks.p4 l1 l3 q=MachTicks.p2 l1 l3 q∧MachTicks.p8 l1 l3 q=MachTicks.p2 l1 l3 q:=by
  refine ⟨?_,rfl,rfl⟩
  unfold MachTicks.p2 punctualref_F.f
  by_cases h:q.2.Code=0
  · rw [if_pos h,if_pos h]
    by_cases h1:(l1.length:Int)=8
    · rw [if_pos h1]
      by_cases h2:(l3.length:Int)=4
      · rw [if_pos h2,if_pos (by omega)]
      · rw [if_neg h2,if_neg (by omega)]
    · rw [if_neg h1,if_neg (by omega)]
  · rw [if_neg h,if_neg h]
theorem MachTicks_law (l:List SIns) (l1 l2 l3:List Int) (t:Int) (hl:∀ y ∈ l,Ok.ok y) (h1:∀ y ∈ l1,Ok.ok y) (n1:l1.length*8≤140737488351232) (h2:∀ y ∈ l2,Ok.ok y) (n2:l2.length*8≤140737488351232) (h3:∀ y ∈ l3,Ok.ok y) (n3:l3.length*8≤140737488351232) (ht:In64 t):∃ K,MachTicks.f K l l1 l2 l3 t=some true:=by
  refine ⟨18446744073709551616,?_⟩
  have hN:mach_New.f 18446744073709551616 image.f (List.replicate 8 (0:Int)) ([5,0,0,0]:List Int)=some (some ⟨image.f,[5,0,0,0],[0,0,0,0,0,0,0,0],[],[],[0,0,0,0,0,0,0,0],0,0⟩,⟨0,0⟩):=by kernel_rfl
  have hp0:MachTicks.p0 ⟨image.f,[5,0,0,0],[0,0,0,0,0,0,0,0],[],[],[0,0,0,0,0,0,0,0],0,0⟩=some (.inl ()):=by kernel_rfl
  unfold MachTicks.f
  rw [hN]
  simp only [if_true,hp0]
  unfold MachTicks.p1
  by_cases c1:(l.length:Int) > 3000
  · rw [if_pos c1]
  by_cases c2:t<0
  · rw [if_neg c1,if_pos c2]
  by_cases c3:t > 3000
  · rw [if_neg c1,if_neg c2,if_pos c3]
  rw [if_neg c1,if_neg c2,if_neg c3]
  simp only
  have w:IntKind.i64.wrap (Int.tdiv t 2)=Int.tdiv t 2∧0≤Int.tdiv t 2∧Int.tdiv t 2≤3000:=by
    have e:Int.tdiv t 2=t / 2:=Int.tdiv_eq_ediv_of_nonneg (by omega)
    rw [e]
    exact ⟨wrap64_small (by omega) (by omega),by omega,by omega⟩
  obtain ⟨w0,w1,w2⟩:=w
  obtain ⟨q,hq,hN⟩:=New_cases l 18446744073709551616 (by decide)
  obtain ⟨a0,ha0⟩:=punctualsame_Lend_api_Ins_some l ⟨-1,-2,-3⟩ (by omega)
  obtain ⟨a1,ha1⟩:=punctualsame_Lend_int_someL l1 (-9) (by omega)
  obtain ⟨a2,ha2⟩:=punctualsame_Lend_int_someL l2 (-9) (by omega)
  obtain ⟨a3,ha3⟩:=punctualsame_Lend_int_someL l3 (-9) (by omega)
  obtain ⟨e1,_,_⟩:=p2_eq l1 l3 q
  obtain ⟨e2,e3,e4⟩:=p2_eq l2 l3 q
  rw [hq]
  simp only [e1,e3,e4,e2,ha0,ha1,ha2,ha3,w0]
  rcases hN with ⟨hc,hN⟩ | ⟨hz,⟨m,F⟩,hN⟩
  · simp only [if_neg hc,hN,MachTicks.p3,MachTicks.p5,SFault.eqb_self,if_true]
    have:(false=(q.2.Code==0)):=by rw [eq_comm,beq_eq_false_iff_ne]; exact hc
    simp only [← this,if_true]
  · have hc:q.2.Code=0:=by rw [hz]
    have k1:=hN l1 l3
    have k2:=hN l2 l3
    have T:=fun (v:List Int) (hv:v.length=8) (hi:l3.length=4)=>ticked_true F hv hi (Int.tdiv t 2) w1 w2 18446744073709551616 (by decide)
    simp only [if_pos hc]
    by_cases b1:l1.length=8∧l3.length=4
    · obtain ⟨r1,t1,u1⟩:=T l1 b1.1 b1.2
      simp only [if_pos b1,k1.2 b1.1 b1.2,MachTicks.p7,hz,SFault.eqb_self,if_true]
      by_cases b2:l2.length=8∧l3.length=4
      · obtain ⟨r2,t2,u2⟩:=T l2 b2.1 b2.2
        simp only [if_pos b2,k2.2 b2.1 b2.2,MachTicks.p10,SFault.eqb_self,if_true,t1,u1,t2,u2,beq_self_eq_true]
      · simp only [if_neg b2,k2.1 b2,MachTicks.p9,SFault.eqb_self,if_true,t1,u1]
        rfl
    · simp only [if_neg b1,k1.1 b1,MachTicks.p3,SFault.eqb_self,if_true]
      by_cases b2:l2.length=8∧l3.length=4
      · obtain ⟨r2,t2,u2⟩:=T l2 b2.1 b2.2
        simp only [if_pos b2,k2.2 b2.1 b2.2,MachTicks.p6,hz,SFault.eqb_self,if_true,t2,u2]
        rfl
      · simp only [if_neg b2,k2.1 b2,MachTicks.p5,SFault.eqb_self,if_true]
        rfl

end Go.Proofs.YtnckikjcjgmdlaaDoor.GV
