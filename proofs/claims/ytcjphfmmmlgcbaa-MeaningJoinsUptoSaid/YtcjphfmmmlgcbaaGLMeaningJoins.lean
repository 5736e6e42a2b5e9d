/- Plain words: GvLMeaningJoins. -/
import Derived.Test.YtcjphfmmmlgcbaaGWMeaningJoins4
import Derived.Test.YtcjphfmmmlgcbaaGv17
namespace Go.Proofs.Ytcjphfmmmlgcbaa.GV
open Go Go.RowKit
set_option linter.unusedVariables false
set_option linter.unusedSimpArgs false
theorem SFault.eqb_self (x:SFault):SFault.eqb x x=true:=by simp [SFault.eqb]
theorem SPut.eqb_self (x:SPut):SPut.eqb x x=true:=by simp [SPut.eqb]
theorem ps_Same_api_Put_self (l:List SPut) (K:Nat) (hK:l.length<K):ps_Same_api_Put.f K l l=some true:=by
  have hr:=iter_first0 (f:=ps_Same_api_Put.r0 l l) (fun _=>none) l.length (t:=()) (fun i hi=>by
    have h':(i:Int)<(l.length:Int):=by omega
    simp only [ps_Same_api_Put.r0,if_pos h',List.getElem?_eq_getElem hi,if_true,SPut.eqb_self,onward]) (by
    have h':¬ (l.length:Int)<(l.length:Int):=by omega
    simp only [ps_Same_api_Put.r0,if_neg h']) hK
  rw [firstOf_none_of (fun _ _ _=>rfl)] at hr
  simp only [ps_Same_api_Put.f,if_true,hr,leave]
theorem ps_Same_int_self (l:List Int) (K:Nat) (hK:l.length<K):ps_Same_int.f K l l=some true:=by
  have hr:=iter_first0 (f:=ps_Same_int.r0 l l) (fun _=>none) l.length (t:=()) (fun i hi=>by
    have h':(i:Int)<(l.length:Int):=by omega
    simp only [ps_Same_int.r0,if_pos h',List.getElem?_eq_getElem hi,if_true,onward]) (by
    have h':¬ (l.length:Int)<(l.length:Int):=by omega
    simp only [ps_Same_int.r0,if_neg h']) hK
  rw [firstOf_none_of (fun _ _ _=>rfl)] at hr
  simp only [ps_Same_int.f,if_true,hr,leave]
structure Sstatement where
  s:SStmt
  deep:Int
  locks:List Int

theorem iter_rows {α σ τ ρ:Type} {f:τ→Option (τ ⊕ ρ)} (st:σ→Nat→τ) (l:List α) (I:List α→σ→Prop) (R:List α→σ→ρ→Prop)
    (hn:∀ s,I [] s→∃ r,f (st s l.length)=some (.inr r)∧R [] s r)
    (hc:∀ a r s i,l[i]?=some a→i+r.length+1=l.length→I (a::r) s→(∃ s',f (st s i)=some (.inl (st s' (i+1)))∧I r s'∧∀ x,R r s' x→R (a::r) s x) ∨ ∃ x,f (st s i)=some (.inr x)∧R (a::r) s x)
    {s:σ} (h:I l s) {K:Nat} (hK:l.length<K):∃ x,iter f K (st s 0)=some x∧R l s x:=by
  have key:∀ (r:List α) (i:Nat),l.drop i=r→i+r.length=l.length→∀ (K:Nat),r.length<K→∀ s,I r s→∃ x,iter f K (st s i)=some x∧R r s x:=by
    intro r
    induction r with
    | nil =>
      intro i _ hi K hK s hs
      obtain ⟨K,rfl⟩:∃ k,K=k+1:=⟨K-1,by omega⟩
      obtain ⟨x,hx,hR⟩:=hn s hs
      have:i=l.length:=by simpa using hi
      subst this
      exact ⟨x,by simp only [iter,hx],hR⟩
    | cons a r ih =>
      intro i hd hi K hK s hs
      obtain ⟨K,rfl⟩:∃ k,K=k+1:=⟨K-1,by omega⟩
      simp only [List.length_cons] at hi hK
      have hlt:i<l.length:=by omega
      have hd':=hd
      rw [List.drop_eq_getElem_cons hlt] at hd'
      injection hd' with h1 h2
      have hg:l[i]?=some a:=by rw [List.getElem?_eq_getElem hlt,h1]
      rcases hc a r s i hg (by omega) hs with ⟨s',e,hI,hR⟩ | ⟨x,e,hR⟩
      · obtain ⟨x,hx,hx'⟩:=ih (i+1) h2 (by omega) K (by omega) s' hI
        exact ⟨x,by simp only [iter,e]; exact hx,hR x hx'⟩
      · exact ⟨x,by simp only [iter,e],hR⟩
  exact key l 0 rfl (by simp) K hK s h
theorem mem_of_at {α:Type} {l:List α} {i:Nat} {a:α} (h:l[i]?=some a):a ∈ l:=List.mem_of_getElem? h

theorem SExpr.blk_eq (x:SExpr):x.blk=1+SExpr.blkL x.A:=by cases x; simp only [SExpr.blk]
theorem SExpr.eta (a:SExpr):(⟨a.Kind,a.N,a.A⟩:SExpr)=a:=by cases a; rfl
theorem SStmt.eta (a:SStmt):(⟨a.Kind,a.N,a.E,⟨a.If.Kind,a.If.A,a.If.B⟩,a.Body,a.Else⟩:SStmt)=a:=by cases a; rfl
theorem SExpr.blkL_mem {x:SExpr}:∀ {l:List SExpr},x ∈ l→x.blk≤SExpr.blkL l
  | [],h=>by simp at h
  | y::l,h=>by
    simp only [SExpr.blkL]
    rcases List.mem_cons.1 h with rfl | h
    · omega
    · have:=SExpr.blkL_mem h; omega
theorem SExpr.blkL_len:∀ l:List SExpr,l.length≤SExpr.blkL l
  | []=>by simp
  | y::l=>by
    have:=SExpr.blkL_len l
    have:=y.blk_eq
    simp only [SExpr.blkL,List.length_cons]; omega
theorem SStmt.blk_eq (x:SStmt):x.blk=1+SExpr.blkL x.E.A+SExpr.blkL x.If.A.A+SExpr.blkL x.If.B.A+SStmt.blkL x.Body+SStmt.blkL x.Else:=by
  rcases x with ⟨_,_,⟨_,_,_⟩,⟨_,⟨_,_,_⟩,⟨_,_,_⟩⟩,_,_⟩; simp only [SStmt.blk]
theorem SStmt.blkL_mem {x:SStmt}:∀ {l:List SStmt},x ∈ l→x.blk≤SStmt.blkL l
  | [],h=>by simp at h
  | y::l,h=>by
    simp only [SStmt.blkL]
    rcases List.mem_cons.1 h with rfl | h
    · omega
    · have:=SStmt.blkL_mem h; omega
theorem SStmt.blkL_len:∀ l:List SStmt,l.length≤SStmt.blkL l
  | []=>by simp
  | y::l=>by
    have:=SStmt.blkL_len l
    have:=y.blk_eq
    simp only [SStmt.blkL,List.length_cons]; omega
mutual
def SStmt.cnt:SStmt→Nat
  | ⟨_,_,_,_,b,l⟩=>1+SStmt.cntL b+SStmt.cntL l
def SStmt.cntL:List SStmt→Nat
  | []=>0
  | x::l=>x.cnt+SStmt.cntL l
end
theorem SStmt.cnt_eq (x:SStmt):x.cnt=1+SStmt.cntL x.Body+SStmt.cntL x.Else:=by cases x; simp only [SStmt.cnt]
theorem SStmt.cntL_le:∀ (n:Nat) (l:List SStmt),SStmt.blkL l<n→SStmt.cntL l≤SStmt.blkL l
  | 0,l,h=>by omega
  | n+1,[],h=>by simp [SStmt.cntL]
  | n+1,x::l,h=>by
    have h1:=x.blk_eq
    have h2:=x.cnt_eq
    simp only [SStmt.blkL] at h
    have h3:=SStmt.cntL_le n x.Body (by omega)
    have h4:=SStmt.cntL_le n x.Else (by omega)
    have h5:=SStmt.cntL_le n l (by omega)
    simp only [SStmt.blkL,SStmt.cntL]
    omega
theorem SStmt.cntL_le' (l:List SStmt):SStmt.cntL l≤SStmt.blkL l:=SStmt.cntL_le _ l (Nat.lt_succ_self _)
theorem w64 {n:Int} (h1:0≤n) (h2:n≤4294967296):IntKind.i64.wrap n=n:=wrap64_small (by omega) (by omega)
theorem Count_eq (K:Nat) (hK:4194304<K):∀ (n:Nat) (l:List SStmt),SStmt.blkL l<n→SStmt.blkL l≤1048576→tongue_Count.recs K n l=some (SStmt.cntL l:Int)
  | 0,l,h,_=>by omega
  | n+1,l,h,hb=>by
    have hlen:=SStmt.blkL_len l
    have hcl:=SStmt.cntL_le' l
    obtain ⟨x,hx,hR⟩:=iter_rows (f:=tongue_Count.r0 l (tongue_Count.recs K n)) (fun z i=>(z,i)) l (fun r s=>∃ c:Nat,s=(c:Int)∧c+SStmt.cntL r=SStmt.cntL l) (fun r s x=>x=.inl (s+(SStmt.cntL r:Int)))
      (fun s hs=>by
        refine ⟨.inl s,?_,by simp [SStmt.cntL]⟩
        simp only [tongue_Count.r0,Int.lt_irrefl,if_false])
      (fun a r s i ha hi hs=>by
        left
        obtain ⟨c,rfl,hc⟩:=hs
        have h1:=SStmt.blkL_mem (mem_of_at ha)
        have h2:=a.blk_eq
        have h3:=a.cnt_eq
        simp only [SStmt.cntL] at hc
        have e1:=Count_eq K hK n a.Body (by omega) (by omega)
        have e2:=Count_eq K hK n a.Else (by omega) (by omega)
        have hi':(i:Int)<(l.length:Int):=by omega
        refine ⟨((c+a.cnt:Nat):Int),?_,⟨_,rfl,by omega⟩,fun x hx=>?_⟩
        · simp only [tongue_Count.r0,if_pos hi',ha,e1,e2]
          rw [w64 (n:=1+(SStmt.cntL a.Body:Int)) (by omega) (by omega),w64 (n:=1+(SStmt.cntL a.Body:Int)+(SStmt.cntL a.Else:Int)) (by omega) (by omega),w64 (by omega) (by omega)]
          congr 4
          omega
        · subst hx
          simp only [SStmt.cntL,Sum.inl.injEq]
          omega)
      (s:=(0:Int)) ⟨0,rfl,by simp⟩ (K:=K) (by omega)
    subst hR
    show tongue_Count.b K (tongue_Count.recs K n) l=_
    simp only [tongue_Count.b,hx]
    congr 1; omega
theorem Size_eq (K:Nat) (hK:4194304<K):∀ (n:Nat) (l:List SStmt),SStmt.blkL l<n→SStmt.blkL l≤1048576→pr_Size.recs K n l=some (SStmt.cntL l:Int)
  | 0,l,h,_=>by omega
  | n+1,l,h,hb=>by
    have hlen:=SStmt.blkL_len l
    have hcl:=SStmt.cntL_le' l
    obtain ⟨x,hx,hR⟩:=iter_rows (f:=pr_Size.r0 l (pr_Size.recs K n)) (fun z i=>(z,i)) l (fun r s=>∃ c:Nat,s=(c:Int)∧c+SStmt.cntL r=SStmt.cntL l) (fun r s x=>x=.inl (s+(SStmt.cntL r:Int)))
      (fun s hs=>by
        refine ⟨.inl s,?_,by simp [SStmt.cntL]⟩
        simp only [pr_Size.r0,Int.lt_irrefl,if_false])
      (fun a r s i ha hi hs=>by
        left
        obtain ⟨c,rfl,hc⟩:=hs
        have h1:=SStmt.blkL_mem (mem_of_at ha)
        have h2:=a.blk_eq
        have h3:=a.cnt_eq
        simp only [SStmt.cntL] at hc
        have e1:=Size_eq K hK n a.Body (by omega) (by omega)
        have e2:=Size_eq K hK n a.Else (by omega) (by omega)
        have hi':(i:Int)<(l.length:Int):=by omega
        refine ⟨((c+a.cnt:Nat):Int),?_,⟨_,rfl,by omega⟩,fun x hx=>?_⟩
        · simp only [pr_Size.r0,if_pos hi',ha,e1,e2]
          rw [w64 (n:=(c:Int)+1) (by omega) (by omega),w64 (n:=(c:Int)+1+(SStmt.cntL a.Body:Int)) (by omega) (by omega),w64 (by omega) (by omega)]
          congr 4
          omega
        · subst hx
          simp only [SStmt.cntL,Sum.inl.injEq]
          omega)
      (s:=(0:Int)) ⟨0,rfl,by simp⟩ (K:=K) (by omega)
    subst hR
    show pr_Size.b K (pr_Size.recs K n) l=_
    simp only [pr_Size.b,hx]
    congr 1; omega
theorem deepExpr_some (K:Nat) (hK:4194304<K):∀ (n:Nat) (k m:Int) (l:List SExpr),SExpr.blkL l<n→SExpr.blkL l≤1048576→∃ r,ps_deepExpr.recs K n k m l=some r
  | 0,_,_,l,h,_=>by omega
  | n+1,k,m,l,h,hb=>by
    have hlen:=SExpr.blkL_len l
    obtain ⟨x,hx,⟨z,rfl⟩⟩:=iter_rows (f:=ps_deepExpr.r0 l (ps_deepExpr.recs K n)) (fun z i=>(z,i)) l (fun r s=>True) (fun r s x=>∃ z,x=.inl z)
      (fun s hs=>by
        refine ⟨.inl s,?_,_,rfl⟩
        simp only [ps_deepExpr.r0,Int.lt_irrefl,if_false])
      (fun a r s i ha hi hs=>by
        left
        have h1:=SExpr.blkL_mem (mem_of_at ha)
        have h2:=a.blk_eq
        obtain ⟨x,e⟩:=deepExpr_some K hK n a.Kind a.N a.A (by omega) (by omega)
        have hi':(i:Int)<(l.length:Int):=by omega
        exact ⟨_,by simp only [ps_deepExpr.r0,if_pos hi',ha,e]; rfl,trivial,fun x hx=>hx⟩)
      (s:=(1:Int)) trivial (K:=K) (by omega)
    exact ⟨z,by show ps_deepExpr.b K (ps_deepExpr.recs K n) k m l=_; simp only [ps_deepExpr.b,hx]⟩
theorem Deep_some (K:Nat) (hK:4194304<K):∀ (n:Nat) (l:List SStmt),SStmt.blkL l<n→SStmt.blkL l≤1048576→∃ r,ps_Deep.recs K n l=some r
  | 0,l,h,_=>by omega
  | n+1,l,h,hb=>by
    have hlen:=SStmt.blkL_len l
    obtain ⟨x,hx,⟨z,rfl⟩⟩:=iter_rows (f:=ps_Deep.r0 K l (ps_Deep.recs K n)) (fun z i=>(z,i)) l (fun r s=>True) (fun r s x=>∃ z,x=.inl z)
      (fun s hs=>by
        refine ⟨.inl s,?_,_,rfl⟩
        simp only [ps_Deep.r0,Int.lt_irrefl,if_false])
      (fun a r s i ha hi hs=>by
        left
        have h1:=SStmt.blkL_mem (mem_of_at ha)
        have h2:=a.blk_eq
        obtain ⟨x1,e1⟩:=Deep_some K hK n a.Body (by omega) (by omega)
        obtain ⟨x2,e2⟩:=Deep_some K hK n a.Else (by omega) (by omega)
        obtain ⟨x3,e3⟩:=deepExpr_some K hK K a.E.Kind a.E.N a.E.A (by omega) (by omega)
        obtain ⟨x4,e4⟩:=deepExpr_some K hK K a.If.A.Kind a.If.A.N a.If.A.A (by omega) (by omega)
        obtain ⟨x5,e5⟩:=deepExpr_some K hK K a.If.B.Kind a.If.B.N a.If.B.A (by omega) (by omega)
        have hi':(i:Int)<(l.length:Int):=by omega
        exact ⟨_,by simp only [ps_Deep.r0,if_pos hi',ha,e1,e2,ps_deepExpr.f,e3,e4,e5]; rfl,trivial,fun x hx=>hx⟩)
      (s:=(0:Int)) trivial (K:=K) (by omega)
    exact ⟨z,by show ps_Deep.b K (ps_Deep.recs K n) l=_; simp only [ps_Deep.b,hx]⟩
theorem twinExpr_eq (K:Nat) (hK:4194304<K):∀ (n:Nat) (k m:Int) (l:List SExpr),SExpr.blkL l<n→SExpr.blkL l≤1048576→ps_twinExpr.recs K n k m l=some ⟨k,m,l⟩
  | 0,_,_,l,h,_=>by omega
  | n+1,k,m,l,h,hb=>by
    have hlen:=SExpr.blkL_len l
    obtain ⟨x,hx,hR⟩:=iter_rows (f:=ps_twinExpr.r0 l (ps_twinExpr.recs K n)) (fun z i=>(z,i)) l (fun r s=>s++r=l) (fun r s x=>x=.inl (s++r))
      (fun s hs=>by
        refine ⟨.inl s,?_,by simp⟩
        simp only [ps_twinExpr.r0,Int.lt_irrefl,if_false])
      (fun a r s i ha hi hs=>by
        left
        have h1:=SExpr.blkL_mem (mem_of_at ha)
        have h2:=a.blk_eq
        have e:=twinExpr_eq K hK n a.Kind a.N a.A (by omega) (by omega)
        have hi':(i:Int)<(l.length:Int):=by omega
        have hsl:s.length<3518437208883:=by
          have:=congrArg List.length hs
          simp only [List.length_append] at this
          omega
        exact ⟨s++[a],by simp only [ps_twinExpr.r0,if_pos hi',ha,e,if_pos hsl,SExpr.eta],by simpa using hs,fun x hx=>by simpa using hx⟩)
      (s:=([]:List SExpr)) rfl (K:=K) (by omega)
    subst hR
    show ps_twinExpr.b K (ps_twinExpr.recs K n) k m l=_
    simp only [ps_twinExpr.b,hx,List.nil_append]
theorem Twin_eq (K:Nat) (hK:4194304<K):∀ (n:Nat) (l:List SStmt),SStmt.blkL l<n→SStmt.blkL l≤1048576→ps_Twin.recs K n l=some l
  | 0,l,h,_=>by omega
  | n+1,l,h,hb=>by
    have hlen:=SStmt.blkL_len l
    obtain ⟨x,hx,hR⟩:=iter_rows (f:=ps_Twin.r0 K l (ps_Twin.recs K n)) (fun z i=>(z,i)) l (fun r s=>s++r=l) (fun r s x=>x=.inl (s++r))
      (fun s hs=>by
        refine ⟨.inl s,?_,by simp⟩
        simp only [ps_Twin.r0,Int.lt_irrefl,if_false])
      (fun a r s i ha hi hs=>by
        left
        have h1:=SStmt.blkL_mem (mem_of_at ha)
        have h2:=a.blk_eq
        have e1:=Twin_eq K hK n a.Body (by omega) (by omega)
        have e2:=Twin_eq K hK n a.Else (by omega) (by omega)
        have e3:=twinExpr_eq K hK K a.E.Kind a.E.N a.E.A (by omega) (by omega)
        have e4:=twinExpr_eq K hK K a.If.A.Kind a.If.A.N a.If.A.A (by omega) (by omega)
        have e5:=twinExpr_eq K hK K a.If.B.Kind a.If.B.N a.If.B.A (by omega) (by omega)
        have hi':(i:Int)<(l.length:Int):=by omega
        have hsl:s.length<733007751850:=by
          have:=congrArg List.length hs
          simp only [List.length_append] at this
          omega
        exact ⟨s++[a],by simp only [ps_Twin.r0,if_pos hi',ha,ps_Twin.p1,ps_twinExpr.f,e1,e2,e3,e4,e5,if_pos hsl,SExpr.eta]; rw [SStmt.eta],by simpa using hs,fun x hx=>by simpa using hx⟩)
      (s:=([]:List SStmt)) rfl (K:=K) (by omega)
    subst hR
    show ps_Twin.b K (ps_Twin.recs K n) l=_
    simp only [ps_Twin.b,hx,List.nil_append]
mutual
def SExpr.nds:SExpr→List SExpr
  | ⟨k,n,a⟩=>⟨k,n,a⟩::SExpr.ndsL a
def SExpr.ndsL:List SExpr→List SExpr
  | []=>[]
  | x::l=>x.nds++SExpr.ndsL l
end
theorem SExpr.nds_eq (x:SExpr):x.nds=x::SExpr.ndsL x.A:=by cases x; simp only [SExpr.nds]
def badE (x:SExpr):Int :=
  if x.Kind<1 ∨ x.Kind > 7 then 6
  else if (x.A.length:Int) ≠ (if x.Kind≤3 then 0 else if x.Kind=4 then 1 else 2) then 6
  else if x.N<0 ∨ x.N > (if x.Kind=1 then 999999999 else if x.Kind=2 then 7 else if x.Kind=3 then 3 else 0) then 3
  else 0
def scanE:List SExpr→Int→Int×Int
  | [],z=>(0,z)
  | x::l,z=>if z-1<0 then (2,z-1) else if badE x=0 then scanE l (z-1) else (badE x,z-1)
theorem scanE_append:∀ (a b:List SExpr) (z:Int),scanE (a++b) z=if (scanE a z).1=0 then scanE b (scanE a z).2 else scanE a z
  | [],b,z=>by simp [scanE]
  | x::a,b,z=>by
    simp only [List.cons_append,scanE]
    by_cases h:z-1<0
    · simp [h]
    · by_cases h2:badE x=0
      · simp only [if_neg h,if_pos h2]; exact scanE_append a b (z-1)
      · simp [h,h2]
theorem scanE_range:∀ (l:List SExpr) (z:Int),0≤z→z≤30→(-1≤(scanE l z).2∧(scanE l z).2≤30)∧((scanE l z).1=0→0≤(scanE l z).2)
  | [],z,h0,h1=>by simp only [scanE]; omega
  | x::l,z,h0,h1=>by
    simp only [scanE]
    by_cases h:z-1<0
    · simp only [if_pos h]; omega
    · by_cases h2:badE x=0
      · simp only [if_neg h,if_pos h2]; exact scanE_range l (z-1) (by omega) (by omega)
      · simp only [if_neg h,if_neg h2]; exact ⟨by omega,fun h=>absurd h h2⟩
theorem expr_head (k m:Int) (l:List SExpr) (z:Int):(if (tongue_arity.f k)=(l.length:Int) then tongue_expr.p0 k m z else some (.inr (6,IntKind.i64.wrap (z-1))))=some (if badE ⟨k,m,l⟩=0 then .inl () else .inr (badE ⟨k,m,l⟩,IntKind.i64.wrap (z-1))):=by
  by_cases hr:k<1 ∨ k > 7
  · have h1:tongue_arity.f k=-1:=by
      simp only [tongue_arity.f]
      rw [if_neg (by omega),if_neg (by omega),if_neg (by omega),if_neg (by omega),if_neg (by omega),if_neg (by omega),if_neg (by omega)]
    rw [h1,if_neg (by omega)]
    simp [badE,hr]
  · have hb : badE ⟨k, m, l⟩ = if (l.length : Int) ≠ (if k ≤ 3 then 0 else if k = 4 then 1 else 2) then 6
        else if m<0 ∨ m > (if k=1 then 999999999 else if k=2 then 7 else if k=3 then 3 else 0) then 3 else 0:=by
      simp only [badE,if_neg hr]
    rw [hb]
    have hk:k=1 ∨ k=2 ∨ k=3 ∨ k=4 ∨ k=5 ∨ k=6 ∨ k=7:=by omega
    have key:∀ A:Int,(if tongue_arity.f k=(l.length:Int) then tongue_expr.p0 k m z else some (.inr (6,IntKind.i64.wrap (z-1))))=some (if (if (l.length:Int) ≠ (if k≤3 then 0 else if k=4 then 1 else 2) then (6:Int)
        else if m<0 ∨ m > (if k=1 then 999999999 else if k=2 then 7 else if k=3 then 3 else 0) then 3 else 0)=0 then .inl () else .inr ((if (l.length:Int) ≠ (if k≤3 then 0 else if k=4 then 1 else 2) then (6:Int)
        else if m<0 ∨ m > (if k=1 then 999999999 else if k=2 then 7 else if k=3 then 3 else 0) then 3 else 0),IntKind.i64.wrap (z-1))):=by
      intro _
      have ha:tongue_arity.f k=(if k≤3 then 0 else if k=4 then 1 else 2):=by
        rcases hk with rfl | rfl | rfl | rfl | rfl | rfl | rfl <;> rfl
      rw [ha]
      by_cases hl:(if k≤3 then 0 else if k=4 then 1 else 2)=(l.length:Int)
      · have hne:¬ ((l.length:Int) ≠ (if k≤3 then 0 else if k=4 then 1 else 2)):=fun h=>h hl.symm
        simp only [if_neg hne]
        rw [if_pos hl]
        have hp:tongue_expr.p0 k m z=if m<0 ∨ m > (if k=1 then 999999999 else if k=2 then 7 else if k=3 then 3 else 0) then some (.inr (3,IntKind.i64.wrap (z-1))) else some (.inl ()):=by
          clear ha hl hb hr
          rcases hk with rfl | rfl | rfl | rfl | rfl | rfl | rfl <;>
            simp only [tongue_expr.p0,tongue_expr.p1,tongue_expr.p2,Int.reduceEq,Int.reduceLE,Int.reduceGT,Int.reduceNe,if_true,if_false,ne_eq] <;>
            (by_cases g1:m<0 <;> by_cases g2:m > 999999999 <;> by_cases g3:m > 7 <;> by_cases g4:m > 3 <;> by_cases g5:m=0 <;> (try omega) <;> simp [g1,g2,g3,g4,g5] <;> omega)
        rw [hp]
        by_cases hm:m<0 ∨ m > (if k=1 then 999999999 else if k=2 then 7 else if k=3 then 3 else 0)
        · simp only [if_pos hm]; rfl
        · simp only [if_neg hm,if_true]
      · simp only [if_pos (show (l.length:Int) ≠ (if k≤3 then 0 else if k=4 then 1 else 2) from fun h=>hl h.symm)]
        rw [if_neg hl]; rfl
    exact key 0
theorem expr_eq (K:Nat) (hK:4194304<K):∀ (n:Nat) (k m:Int) (l:List SExpr) (z:Int),SExpr.blkL l<n→SExpr.blkL l≤1048576→0≤z→z≤30→tongue_expr.recs K n k m l z=some (scanE (⟨k,m,l⟩::SExpr.ndsL l) z)
  | 0,_,_,l,_,h,_,_,_=>by omega
  | n+1,k,m,l,z,h,hb,hz0,hz1=>by
    have hlen:=SExpr.blkL_len l
    have hw:IntKind.i64.wrap (z-1)=z-1:=wrap64_small (by omega) (by omega)
    show tongue_expr.b K (tongue_expr.recs K n) k m l z=_
    have hh:=expr_head k m l z
    simp only [hw] at hh
    simp only [tongue_expr.b,scanE,hw]
    by_cases h0:z-1<0
    · simp only [if_pos h0]
    simp only [if_neg h0]
    by_cases ha:tongue_arity.f k=(l.length:Int)
    · rw [if_pos ha] at hh ⊢
      rw [hh]
      by_cases hb':badE ⟨k,m,l⟩=0
      · simp only [if_pos hb']
        obtain ⟨x,hx,hR⟩:=iter_rows (f:=tongue_expr.r3 l (tongue_expr.recs K n)) (fun z i=>(i,z)) l (fun r s=>0≤s∧s≤30) (fun r s x=>x=if (scanE (SExpr.ndsL r) s).1=0 then .inl (scanE (SExpr.ndsL r) s).2 else .inr (scanE (SExpr.ndsL r) s))
          (fun s hs=>by
            refine ⟨.inl s,?_,by simp [SExpr.ndsL,scanE]⟩
            simp only [tongue_expr.r3,Int.lt_irrefl,if_false])
          (fun a r s i ha hi hs=>by
            have h1:=SExpr.blkL_mem (mem_of_at ha)
            have h2:=a.blk_eq
            have e:=expr_eq K hK n a.Kind a.N a.A s (by omega) (by omega) hs.1 hs.2
            rw [SExpr.eta,← a.nds_eq] at e
            have hi':(i:Int)<(l.length:Int):=by omega
            have hr:=scanE_range a.nds s hs.1 hs.2
            by_cases hc:(scanE a.nds s).1=0
            · left
              refine ⟨(scanE a.nds s).2,by simp only [tongue_expr.r3,if_pos hi',ha,e,if_pos hc],⟨hr.2 hc,hr.1.2⟩,fun x hx=>?_⟩
              rw [hx]
              simp only [SExpr.ndsL,scanE_append,if_pos hc]
            · right
              refine ⟨_,by simp only [tongue_expr.r3,if_pos hi',ha,e,if_neg hc]; rfl,?_⟩
              simp only [SExpr.ndsL,scanE_append,if_neg hc])
          (s:=z-1) ⟨by omega,by omega⟩ (K:=K) (by omega)
        rw [hx,hR]
        by_cases hc:(scanE (SExpr.ndsL l) (z-1)).1=0
        · simp only [if_pos hc]
          rw [← hc]
        · simp only [if_neg hc]
      · simp only [if_neg hb']
    · rw [if_neg ha] at hh ⊢
      injection hh with hh
      by_cases hb':badE ⟨k,m,l⟩=0
      · rw [if_pos hb'] at hh; cases hh
      · rw [if_neg hb'] at hh ⊢
        injection hh with hh
        rw [hh]
theorem expr_f (K:Nat) (hK:4194304<K) (x:SExpr) (hb:x.blk≤1048576):tongue_expr.f K x.Kind x.N x.A 30=some (scanE x.nds 30):=by
  have h:=x.blk_eq
  rw [tongue_expr.f,expr_eq K hK K x.Kind x.N x.A 30 (by omega) (by omega) (by omega) (by omega),SExpr.eta,← x.nds_eq]
def within (x:SStmt) (ls:List Int):List Int:=if x.Kind=6 then ls++[x.N] else ls
mutual
def SStmt.fl:SStmt→Int→List Int→List Sstatement
  | ⟨k,n,e,i,b,l⟩,d,ls=>⟨⟨k,n,e,i,b,l⟩,d,ls⟩::(SStmt.flL b (d+1) (if k=6 then ls++[n] else ls)++SStmt.flL l (d+1) (if k=6 then ls++[n] else ls))
def SStmt.flL:List SStmt→Int→List Int→List Sstatement
  | [],_,_=>[]
  | x::l,d,ls=>x.fl d ls++SStmt.flL l d ls
end
theorem SStmt.fl_eq (x:SStmt) (d:Int) (ls:List Int):x.fl d ls=⟨x,d,ls⟩::(SStmt.flL x.Body (d+1) (within x ls)++SStmt.flL x.Else (d+1) (within x ls)):=by cases x; simp only [SStmt.fl,within]
theorem SStmt.flL_len:∀ (n:Nat) (l:List SStmt) (d:Int) (ls:List Int),SStmt.blkL l<n→(SStmt.flL l d ls).length=SStmt.cntL l
  | 0,l,_,_,h=>by omega
  | n+1,[],_,_,h=>by simp [SStmt.flL,SStmt.cntL]
  | n+1,x::l,d,ls,h=>by
    have h1:=x.blk_eq
    simp only [SStmt.blkL] at h
    have h3:=SStmt.flL_len n x.Body (d+1) (within x ls) (by omega)
    have h4:=SStmt.flL_len n x.Else (d+1) (within x ls) (by omega)
    have h5:=SStmt.flL_len n l d ls (by omega)
    simp only [SStmt.cntL,SStmt.flL,List.length_append,x.fl_eq,x.cnt_eq,List.length_cons]
    omega
def noE (x:SExpr):Bool:=decide (x.Kind=0) && (decide (x.N=0) && ((x.A.length:Int)==0))
theorem none_eq (x:SExpr):tongue_none.f x.Kind x.N x.A=noE x:=by
  simp only [tongue_none.f,noE]
  by_cases h1:x.Kind=0 <;> by_cases h2:x.N=0 <;> simp [h1,h2]
def headS (x:SStmt):Int :=
  if x.Kind<1 ∨ x.Kind > 7 then 6
  else if x.N<(if x.Kind=7 then 1 else 0) ∨ x.N > (if x.Kind=1 then 7 else if x.Kind=2 then 3 else if x.Kind=3 then 0 else if x.Kind=6 then 3 else 1000) then 3
  else if ¬ (x.Kind≤2)∧noE x.E=false then 6
  else if ¬ (x.Kind=3 ∨ x.Kind=5)∧¬ (x.If.Kind=0∧noE x.If.A=true∧noE x.If.B=true) then 6
  else if ¬ (3≤x.Kind∧x.Kind≤6)∧x.Body.length > 0 then 6
  else if x.Kind ≠ 3∧x.Else.length > 0 then 6
  else if x.Kind≤2∧(scanE x.E.nds 30).1 ≠ 0 then (scanE x.E.nds 30).1
  else if (x.Kind=3 ∨ x.Kind=5)∧(x.If.Kind<1 ∨ x.If.Kind > 4) then 6
  else if (x.Kind=3 ∨ x.Kind=5)∧(scanE x.If.A.nds 30).1 ≠ 0 then (scanE x.If.A.nds 30).1
  else if (x.Kind=3 ∨ x.Kind=5)∧(scanE x.If.B.nds 30).1 ≠ 0 then (scanE x.If.B.nds 30).1
  else 0
def wrongS (x:SStmt) (d:Int) (ls:List Int):Int :=
  if headS x ≠ 0 then headS x else if (3≤x.Kind∧x.Kind≤6)∧d ≥ 6 then 2 else if x.Kind=6∧x.N ∈ ls then 10 else 0
def firstW:List Sstatement→Int→Option (Int×Int)
  | [],_=>none
  | x::l,a=>if wrongS x.s x.deep x.locks ≠ 0 then some (wrongS x.s x.deep x.locks,a+1) else firstW l (a+1)
theorem firstW_append:∀ (p q:List Sstatement) (a:Int),firstW (p++q) a=match firstW p a with | some r=>some r | none=>firstW q (a+p.length)
  | [],q,a=>by simp [firstW]
  | x::p,q,a=>by
    simp only [List.cons_append,firstW]
    by_cases h:wrongS x.s x.deep x.locks ≠ 0
    · simp only [if_pos h]
    · simp only [if_neg h]
      rw [firstW_append p q (a+1)]
      have:a+1+(p.length:Int)=a+((x::p).length:Nat):=by simp only [List.length_cons]; omega
      rw [this]
abbrev Told:=Bool×Int×Int×Int×Bool×Bool×Bool×Bool
def GoodL (r:Told) (l:List Sstatement) (a c f:Int) (ls:List Int):Prop :=
  match firstW l a with
  | none=>r=(true,a+l.length,c,f,decide ((0:Int) ∈ ls),decide ((1:Int) ∈ ls),decide ((2:Int) ∈ ls),decide ((3:Int) ∈ ls))
  | some y=>r.1=false∧r.2.2.1=y.1∧r.2.2.2.1=y.2
theorem uses_eq {k:Int} (hk:¬ (k<1 ∨ k > 7)):tongue_uses.f k=(decide (k≤2),decide (k=3 ∨ k=5),decide (3≤k∧k≤6),if k=7 then 1 else 0,if k=1 then 7 else if k=2 then 3 else if k=3 then 0 else if k=6 then 3 else 1000):=by
  have hk':k=1 ∨ k=2 ∨ k=3 ∨ k=4 ∨ k=5 ∨ k=6 ∨ k=7:=by omega
  rcases hk' with e | e | e | e | e | e | e <;> rw [e] <;> rfl
def badP:List SExpr→Int
  | []=>0
  | x::l=>if (scanE x.nds 30).1=0 then badP l else (scanE x.nds 30).1
theorem part_eq (K:Nat) (hK:4194304<K) (a c f:Int) (q0 q1 q2 q3:Bool) (l:List SExpr) (hl:l.length≤2) (hb:∀ x ∈ l,x.blk≤1048576) :
    tc_part.f K a c f q0 q1 q2 q3 l=some (if badP l=0 then (true,c,f) else (false,badP l,a)):=by
  obtain ⟨x,hx,hR⟩:=iter_rows (f:=tc_part.r0 K a c f q0 q1 q2 q3 l) (fun (_:Unit) i=>i) l (fun r s=>True) (fun r s x=>x=if badP r=0 then .inl () else .inr (false,badP r,a))
    (fun s hs=>⟨.inl (),by simp only [tc_part.r0,Int.lt_irrefl,if_false],by simp [badP]⟩)
    (fun e r s i ha hi hs=>by
      have hi':(i:Int)<(l.length:Int):=by omega
      have he:=expr_f K hK e (hb e (mem_of_at ha))
      by_cases h:(scanE e.nds 30).1=0
      · left
        refine ⟨(),by simp only [tc_part.r0,if_pos hi',ha,he,if_pos h],trivial,fun x hx=>?_⟩
        rw [hx]; simp only [badP,if_pos h]
      · right
        refine ⟨_,by simp only [tc_part.r0,if_pos hi',ha,he,if_neg h]; rfl,?_⟩
        simp only [badP,if_neg h,tc_say.f])
    (s:=()) trivial (K:=K) (by omega)
  simp only [tc_part.f,hx,hR]
  by_cases h:badP l=0
  · simp only [if_pos h]
  · simp only [if_neg h]
theorem stmt_bad (K:Nat) (hK:4194304<K) (L:Int→Int→Int→Bool→Bool→Bool→Bool→(List SStmt)→Int→Option Told) (x:SStmt) (a c f d:Int) (q0 q1 q2 q3:Bool) (hb:x.blk≤1048576) :
    tc_stmt.b K L a c f q0 q1 q2 q3 x.Kind x.N x.E.Kind x.E.N x.E.A x.If.Kind x.If.A.Kind x.If.A.N x.If.A.A x.If.B.Kind x.If.B.N x.If.B.A x.Body x.Else d =
      if headS x ≠ 0 then some (false,a,headS x,a,q0,q1,q2,q3)
      else if (3≤x.Kind∧x.Kind≤6)∧d=6 then some (false,a,2,a,q0,q1,q2,q3)
      else if x.Kind=6 then
        match ([q0,q1,q2,q3]:List Bool)[(x.N).toNat]? with
        | none=>none
        | some e1=>if e1=true then some (false,a,10,a,q0,q1,q2,q3) else
          match L a c f (((([q0,q1,q2,q3]:List Bool).set ((x.N).toNat) true)[0]?).getD false) (((([q0,q1,q2,q3]:List Bool).set ((x.N).toNat) true)[1]?).getD false) (((([q0,q1,q2,q3]:List Bool).set ((x.N).toNat) true)[2]?).getD false) (((([q0,q1,q2,q3]:List Bool).set ((x.N).toNat) true)[3]?).getD false) x.Body (IntKind.i64.wrap (d+1)) with
          | none=>none
          | some r3=>match (if r3.1=true then L r3.2.1 r3.2.2.1 r3.2.2.2.1 r3.2.2.2.2.1 r3.2.2.2.2.2.1 r3.2.2.2.2.2.2.1 r3.2.2.2.2.2.2.2 x.Else (IntKind.i64.wrap (d+1)) else some (false,r3.2)) with
            | none=>none
            | some r4=>match tc_stmt_1.f r4.2.1 r4.2.2.1 r4.2.2.2.1 r4.2.2.2.2.1 r4.2.2.2.2.2.1 r4.2.2.2.2.2.2.1 r4.2.2.2.2.2.2.2 x.Kind x.N x.E.Kind x.E.N x.E.A x.If.Kind x.If.A.Kind x.If.A.N x.If.A.A x.If.B.Kind x.If.B.N x.If.B.A x.Body x.Else with
              | none=>none
              | some r5=>some (r4.1,r4.2.1,r4.2.2.1,r4.2.2.2.1,r5)
      else match L a c f q0 q1 q2 q3 x.Body (IntKind.i64.wrap (d+1)) with
        | none=>none
        | some r7=>if r7.1=true then L r7.2.1 r7.2.2.1 r7.2.2.2.1 r7.2.2.2.2.1 r7.2.2.2.2.2.1 r7.2.2.2.2.2.2.1 r7.2.2.2.2.2.2.2 x.Else (IntKind.i64.wrap (d+1)) else some (false,r7.2):=by
  have h:=x.blk_eq
  have k1:=x.E.blk_eq
  have k2:=x.If.A.blk_eq
  have k3:=x.If.B.blk_eq
  simp only [tc_stmt.b]
  by_cases hk:x.Kind<1 ∨ x.Kind > 7
  · have:tc_stmt.p0 a c f q0 q1 q2 q3 x.Kind=some (.inr (false,a,6,a,q0,q1,q2,q3)):=by
      simp only [tc_stmt.p0,tc_say.f]
      by_cases h1:x.Kind<1
      · rw [if_pos h1]
      · rw [if_neg h1,if_pos (by omega)]
    have hh:headS x=6:=by simp only [headS,if_pos hk]
    simp only [this,hh]
    rfl
  have h0:tc_stmt.p0 a c f q0 q1 q2 q3 x.Kind=some (.inl ()):=by
    simp only [tc_stmt.p0]
    rw [if_neg (by omega),if_neg (by omega)]
  have hu:=uses_eq hk
  simp only [h0]
  by_cases hn:x.N<(if x.Kind=7 then 1 else 0) ∨ x.N > (if x.Kind=1 then 7 else if x.Kind=2 then 3 else if x.Kind=3 then 0 else if x.Kind=6 then 3 else 1000)
  · have:tc_stmt.p1 a c f q0 q1 q2 q3 x.Kind x.N=some (.inr (false,a,3,a,q0,q1,q2,q3)):=by
      simp only [tc_stmt.p1,tc_say.f,hu]
      by_cases h1:x.N<(if x.Kind=7 then 1 else 0)
      · rw [if_pos h1]
      · rw [if_neg h1,if_pos (hn.resolve_left h1)]
    have hh:headS x=3:=by simp only [headS,if_neg hk,if_pos hn]
    simp only [this,hh]
    rfl
  have h1:tc_stmt.p1 a c f q0 q1 q2 q3 x.Kind x.N=some (.inl ()):=by
    simp only [tc_stmt.p1,hu]
    rw [if_neg (fun h=>hn (.inl h)),if_neg (fun h=>hn (.inr h))]
  have h2:tc_stmt.p2 x.If.Kind x.If.A.Kind x.If.A.N x.If.A.A x.If.B.Kind x.If.B.N x.If.B.A=some (.inl (decide (x.If.Kind=0∧noE x.If.A=true∧noE x.If.B=true))):=by
    simp only [tc_stmt.p2,none_eq]
    by_cases c':x.If.Kind=0 <;> cases noE x.If.A <;> cases noE x.If.B <;> simp [c']
  simp only [h1,h2]
  have h3:tc_stmt.p3 a c f q0 q1 q2 q3 x.Kind x.E.Kind x.E.N x.E.A x.Body x.Else (decide (x.If.Kind=0∧noE x.If.A=true∧noE x.If.B=true))=some (
      if ¬ (x.Kind≤2)∧noE x.E=false then .inr (false,a,6,a,q0,q1,q2,q3)
      else if ¬ (x.Kind=3 ∨ x.Kind=5)∧¬ (x.If.Kind=0∧noE x.If.A=true∧noE x.If.B=true) then .inr (false,a,6,a,q0,q1,q2,q3)
      else if ¬ (3≤x.Kind∧x.Kind≤6)∧x.Body.length > 0 then .inr (false,a,6,a,q0,q1,q2,q3)
      else if x.Kind ≠ 3∧x.Else.length > 0 then .inr (false,a,6,a,q0,q1,q2,q3) else .inl ()):=by
    simp only [tc_stmt.p3,tc_say.f,hu,none_eq,decide_eq_true_eq]
    have b1':((x.Body.length:Int) > 0)=(x.Body.length > 0):=by simp
    have b2':((x.Else.length:Int) > 0)=(x.Else.length > 0):=by simp
    simp only [b1',b2']
    have hk':x.Kind=1 ∨ x.Kind=2 ∨ x.Kind=3 ∨ x.Kind=4 ∨ x.Kind=5 ∨ x.Kind=6 ∨ x.Kind=7:=by omega
    rcases hk' with e | e | e | e | e | e | e <;> simp only [e,Int.reduceEq,Int.reduceLE,or_self,or_true,true_or,and_self,and_true,true_and,if_true,if_false,not_true,not_false_iff,false_and,and_false,ne_eq,Bool.false_eq_true,false_or,or_false] <;>
      by_cases b1:x.Body.length > 0 <;> by_cases b2:x.Else.length > 0 <;> by_cases c5:(x.If.Kind=0∧noE x.If.A=true∧noE x.If.B=true) <;> cases noE x.E <;> simp only [b1,b2,c5,if_true,if_false,not_true,not_false_iff,Bool.false_eq_true,Bool.true_eq_false,and_self]
  rw [h3]
  by_cases c5:¬ (x.Kind≤2)∧noE x.E=false
  · have hh:headS x=6:=by simp only [headS,if_neg hk,if_neg hn,if_pos c5]
    simp only [if_pos c5,hh]; rfl
  simp only [if_neg c5]
  by_cases c6:¬ (x.Kind=3 ∨ x.Kind=5)∧¬ (x.If.Kind=0∧noE x.If.A=true∧noE x.If.B=true)
  · have hh:headS x=6:=by simp only [headS,if_neg hk,if_neg hn,if_neg c5,if_pos c6]
    simp only [if_pos c6,hh]; rfl
  simp only [if_neg c6]
  by_cases c7:¬ (3≤x.Kind∧x.Kind≤6)∧x.Body.length > 0
  · have hh:headS x=6:=by simp only [headS,if_neg hk,if_neg hn,if_neg c5,if_neg c6,if_pos c7]
    simp only [if_pos c7,hh]; rfl
  simp only [if_neg c7]
  by_cases c8:x.Kind ≠ 3∧x.Else.length > 0
  · have hh:headS x=6:=by simp only [headS,if_neg hk,if_neg hn,if_neg c5,if_neg c6,if_neg c7,if_pos c8]
    simp only [if_pos c8,hh]; rfl
  simp only [if_neg c8]
  have p1:=part_eq K hK a c f q0 q1 q2 q3 [x.E] (by simp) (by simp; omega)
  have p2:=part_eq K hK a c f q0 q1 q2 q3 [x.If.A,x.If.B] (by simp) (by simp; omega)
  have h4:tc_stmt.p4 K a c f q0 q1 q2 q3 x.Kind x.E.Kind x.E.N x.E.A=some (if x.Kind≤2∧(scanE x.E.nds 30).1 ≠ 0 then .inr (false,a,(scanE x.E.nds 30).1,a,q0,q1,q2,q3) else .inl (c,f)):=by
    simp only [tc_stmt.p4,hu,SExpr.eta,p1,badP]
    by_cases c1:x.Kind≤2 <;> by_cases c':(scanE x.E.nds 30).1=0 <;> simp [c1,c']
  rw [h4]
  by_cases c9:x.Kind≤2∧(scanE x.E.nds 30).1 ≠ 0
  · have hh:headS x=(scanE x.E.nds 30).1:=by simp only [headS,if_neg hk,if_neg hn,if_neg c5,if_neg c6,if_neg c7,if_neg c8,if_pos c9]
    simp only [if_pos c9,hh,if_pos c9.2]
  simp only [if_neg c9]
  have h5:tc_stmt.p5 K a q0 q1 q2 q3 x.Kind x.If.Kind x.If.A.Kind x.If.A.N x.If.A.A x.If.B.Kind x.If.B.N x.If.B.A c f=some (if (x.Kind=3 ∨ x.Kind=5)∧(x.If.Kind<1 ∨ x.If.Kind > 4) then .inr (false,a,6,a,q0,q1,q2,q3) else if (x.Kind=3 ∨ x.Kind=5)∧(scanE x.If.A.nds 30).1 ≠ 0 then .inr (false,a,(scanE x.If.A.nds 30).1,a,q0,q1,q2,q3)
      else if (x.Kind=3 ∨ x.Kind=5)∧(scanE x.If.B.nds 30).1 ≠ 0 then .inr (false,a,(scanE x.If.B.nds 30).1,a,q0,q1,q2,q3) else .inl (c,f)):=by
    simp only [tc_stmt.p5,hu,SExpr.eta,p2,badP,tc_say.f]
    by_cases c1:x.Kind=3 ∨ x.Kind=5
    · simp only [c1,true_and,decide_true,if_true]
      by_cases c2:x.If.Kind<1
      · simp [c2]
      · by_cases c3:x.If.Kind > 4
        · simp [c2,c3]
        · by_cases c4:(scanE x.If.A.nds 30).1=0 <;> by_cases c5:(scanE x.If.B.nds 30).1=0 <;> simp [c2,c3,c4,c5]
    · simp [c1]
  rw [h5]
  by_cases c10:(x.Kind=3 ∨ x.Kind=5)∧(x.If.Kind<1 ∨ x.If.Kind > 4)
  · have hh:headS x=6:=by simp only [headS,if_neg hk,if_neg hn,if_neg c5,if_neg c6,if_neg c7,if_neg c8,if_neg c9,if_pos c10]
    simp only [if_pos c10,hh]; rfl
  simp only [if_neg c10]
  by_cases c11:(x.Kind=3 ∨ x.Kind=5)∧(scanE x.If.A.nds 30).1 ≠ 0
  · have hh:headS x=(scanE x.If.A.nds 30).1:=by simp only [headS,if_neg hk,if_neg hn,if_neg c5,if_neg c6,if_neg c7,if_neg c8,if_neg c9,if_neg c10,if_pos c11]
    simp only [if_pos c11,hh,if_pos c11.2]
  simp only [if_neg c11]
  by_cases c12:(x.Kind=3 ∨ x.Kind=5)∧(scanE x.If.B.nds 30).1 ≠ 0
  · have hh:headS x=(scanE x.If.B.nds 30).1:=by simp only [headS,if_neg hk,if_neg hn,if_neg c5,if_neg c6,if_neg c7,if_neg c8,if_neg c9,if_neg c10,if_neg c11,if_pos c12]
    simp only [if_pos c12,hh,if_pos c12.2]
  simp only [if_neg c12]
  have hh:headS x=0:=by simp only [headS,if_neg hk,if_neg hn,if_neg c5,if_neg c6,if_neg c7,if_neg c8,if_neg c9,if_neg c10,if_neg c11,if_neg c12]
  rw [if_neg (show ¬ headS x ≠ 0 from fun h=>h hh)]
  have hN:0≤x.N:=by
    have:¬ x.N<(if x.Kind=7 then 1 else 0):=fun h=>hn (.inl h)
    split at this <;> omega
  simp only [hu,decide_eq_true_eq,tc_say.f,tc_stmt.p6,tc_stmt.p7,if_pos hN]
  by_cases c13:3≤x.Kind∧x.Kind≤6
  · by_cases c14:d=6
    · simp only [c13,c14,and_self,if_true]
    · simp only [c13,c14,and_false,and_self,if_true,if_false]
      by_cases c15:x.Kind=6
      · simp only [c15,if_true]
        cases hq:([q0,q1,q2,q3]:List Bool)[(x.N).toNat]? with
        | none=>rfl
        | some e1 =>
          simp only
          cases e1 with
          | true=>rfl
          | false =>
            simp only [Bool.false_eq_true,if_false]
            cases hL1:L a c f (((([q0,q1,q2,q3]:List Bool).set ((x.N).toNat) true)[0]?).getD false) (((([q0,q1,q2,q3]:List Bool).set ((x.N).toNat) true)[1]?).getD false) (((([q0,q1,q2,q3]:List Bool).set ((x.N).toNat) true)[2]?).getD false) (((([q0,q1,q2,q3]:List Bool).set ((x.N).toNat) true)[3]?).getD false) x.Body (IntKind.i64.wrap (d+1)) with
            | none=>rfl
            | some r3 =>
              simp only
              cases c16:r3.1 with
              | true =>
                simp only [if_true]
                cases L r3.2.1 r3.2.2.1 r3.2.2.2.1 r3.2.2.2.2.1 r3.2.2.2.2.2.1 r3.2.2.2.2.2.2.1 r3.2.2.2.2.2.2.2 x.Else (IntKind.i64.wrap (d+1)) with
                | none=>rfl
                | some r4=>rfl
              | false =>
                simp only [Bool.false_eq_true,if_false]
                all_goals (cases tc_stmt_1.f r3.2.1 r3.2.2.1 r3.2.2.2.1 r3.2.2.2.2.1 r3.2.2.2.2.2.1 r3.2.2.2.2.2.2.1 r3.2.2.2.2.2.2.2 6 x.N x.E.Kind x.E.N x.E.A x.If.Kind x.If.A.Kind x.If.A.N x.If.A.A x.If.B.Kind x.If.B.N x.If.B.A x.Body x.Else <;> rfl)
      · simp only [c15,if_false]
        cases L a c f q0 q1 q2 q3 x.Body (IntKind.i64.wrap (d+1)) with
        | none=>rfl
        | some r7 =>
          simp only
          cases c16:r7.1 with
          | true =>
            simp only [if_true]
            cases L r7.2.1 r7.2.2.1 r7.2.2.2.1 r7.2.2.2.2.1 r7.2.2.2.2.2.1 r7.2.2.2.2.2.2.1 r7.2.2.2.2.2.2.2 x.Else (IntKind.i64.wrap (d+1)) <;> rfl
          | false=>rfl
  · have c15:¬ x.Kind=6:=by omega
    simp only [c13,false_and,if_false,c15]
    cases L a c f q0 q1 q2 q3 x.Body (IntKind.i64.wrap (d+1)) with
    | none=>rfl
    | some r7 =>
      simp only
      cases c16:r7.1 with
      | true =>
        simp only [if_true]
        cases L r7.2.1 r7.2.2.1 r7.2.2.2.1 r7.2.2.2.2.1 r7.2.2.2.2.2.1 r7.2.2.2.2.2.2.1 r7.2.2.2.2.2.2.2 x.Else (IntKind.i64.wrap (d+1)) <;> rfl
      | false=>rfl

theorem locks_set (ls:List Int) (n:Int) (h0:0≤n) (h1:n≤3) (q0 q1 q2 q3:Bool) (e0:q0=decide ((0:Int) ∈ ls)) (e1:q1=decide ((1:Int) ∈ ls)) (e2:q2=decide ((2:Int) ∈ ls)) (e3:q3=decide ((3:Int) ∈ ls)) :
    ([q0,q1,q2,q3]:List Bool)[n.toNat]?=some (decide (n ∈ ls)) ∧
    (((([q0,q1,q2,q3]:List Bool).set (n.toNat) true)[0]?).getD false)=decide ((0:Int) ∈ ls++[n]) ∧
    (((([q0,q1,q2,q3]:List Bool).set (n.toNat) true)[1]?).getD false)=decide ((1:Int) ∈ ls++[n]) ∧
    (((([q0,q1,q2,q3]:List Bool).set (n.toNat) true)[2]?).getD false)=decide ((2:Int) ∈ ls++[n]) ∧
    (((([q0,q1,q2,q3]:List Bool).set (n.toNat) true)[3]?).getD false)=decide ((3:Int) ∈ ls++[n]):=by
  have hn:n=0 ∨ n=1 ∨ n=2 ∨ n=3:=by omega
  rcases hn with rfl | rfl | rfl | rfl <;> simp [e0,e1,e2,e3]
theorem locks_back (ls:List Int) (n:Int) (h0:0≤n) (h1:n≤3) (hn:n ∉ ls) (x y z u v w s t o:Int) (l1 l2 l3:List SExpr) (l4 l5:List SStmt) (k1 k2 k3 k4 k5 k6 k7:Int) :
    tc_stmt_1.f x y z (decide ((0:Int) ∈ ls++[n])) (decide ((1:Int) ∈ ls++[n])) (decide ((2:Int) ∈ ls++[n])) (decide ((3:Int) ∈ ls++[n])) k1 n k2 k3 l1 k4 k5 k6 l2 k7 u l3 l4 l5
      = some (decide ((0:Int) ∈ ls),decide ((1:Int) ∈ ls),decide ((2:Int) ∈ ls),decide ((3:Int) ∈ ls)):=by
  have hn':n=0 ∨ n=1 ∨ n=2 ∨ n=3:=by omega
  rcases hn' with rfl | rfl | rfl | rfl <;> simp [tc_stmt_1.f,hn]
theorem back_some (n:Int) (h0:0≤n) (h1:n≤3) (x y z u:Int) (q0 q1 q2 q3:Bool) (l1 l2 l3:List SExpr) (l4 l5:List SStmt) (k1 k2 k3 k4 k5 k6 k7:Int) :
    ∃ r,tc_stmt_1.f x y z q0 q1 q2 q3 k1 n k2 k3 l1 k4 k5 k6 l2 k7 u l3 l4 l5=some r:=by
  have hn':n=0 ∨ n=1 ∨ n=2 ∨ n=3:=by omega
  rcases hn' with rfl | rfl | rfl | rfl <;> exact ⟨_,rfl⟩
theorem head_n {x:SStmt} (h:headS x=0):(1≤x.Kind∧x.Kind≤7)∧(x.Kind=6→0≤x.N∧x.N≤3)∧(¬ (3≤x.Kind∧x.Kind≤6)→x.Body=[]∧x.Else=[]):=by
  simp only [headS] at h
  by_cases hk:x.Kind<1 ∨ x.Kind > 7
  · rw [if_pos hk] at h; cases h
  rw [if_neg hk] at h
  by_cases hn:x.N<(if x.Kind=7 then 1 else 0) ∨ x.N > (if x.Kind=1 then 7 else if x.Kind=2 then 3 else if x.Kind=3 then 0 else if x.Kind=6 then 3 else 1000)
  · rw [if_pos hn] at h; cases h
  rw [if_neg hn] at h
  split at h
  · cases h
  split at h
  · cases h
  by_cases c7:¬ (3≤x.Kind∧x.Kind≤6)∧x.Body.length > 0
  · rw [if_pos c7] at h; cases h
  rw [if_neg c7] at h
  by_cases c8:x.Kind ≠ 3∧x.Else.length > 0
  · rw [if_pos c8] at h; cases h
  refine ⟨by omega,fun h6=>?_,fun hb=>⟨?_,?_⟩⟩
  · rw [h6] at hn
    simp only [Int.reduceEq,if_false,if_true] at hn
    omega
  · have:¬ x.Body.length > 0:=fun h=>c7 ⟨hb,h⟩
    exact List.length_eq_zero_iff.1 (by omega)
  · have:¬ x.Else.length > 0:=fun h=>c8 ⟨by omega,h⟩
    exact List.length_eq_zero_iff.1 (by omega)
theorem stmt_eq (K:Nat) (hK:4194304<K) (L:Int→Int→Int→Bool→Bool→Bool→Bool→(List SStmt)→Int→Option Told) (x:SStmt) (a c f d:Int) (ls:List Int) (hb:x.blk≤1048576) (hd0:0≤d) (hd:d≤6) (ha0:-1≤a) (ha:a-1+x.cnt≤4194304)
    (hL:∀ (l:List SStmt) (a':Int),l=x.Body ∨ l=x.Else→(d<6 ∨ l=[])→-1≤a'→a'+SStmt.cntL l≤4194304→∃ r,L a' c f (decide ((0:Int) ∈ within x ls)) (decide ((1:Int) ∈ within x ls)) (decide ((2:Int) ∈ within x ls)) (decide ((3:Int) ∈ within x ls)) l (d+1)=some r∧GoodL r (SStmt.flL l (d+1) (within x ls)) a' c f (within x ls)) :
    ∃ r,tc_stmt.b K L a c f (decide ((0:Int) ∈ ls)) (decide ((1:Int) ∈ ls)) (decide ((2:Int) ∈ ls)) (decide ((3:Int) ∈ ls)) x.Kind x.N x.E.Kind x.E.N x.E.A x.If.Kind x.If.A.Kind x.If.A.N x.If.A.A x.If.B.Kind x.If.B.N x.If.B.A x.Body x.Else d=some r∧GoodL r (x.fl d ls) (a-1) c f ls:=by
  have hc:=x.cnt_eq
  have hw:IntKind.i64.wrap (d+1)=d+1:=wrap64_small (by omega) (by omega)
  rw [stmt_bad K hK L x a c f d _ _ _ _ hb]
  simp only [GoodL,x.fl_eq,firstW,hw]
  have ha1:a-1+1=a:=by omega
  rw [ha1]
  by_cases h1:headS x ≠ 0
  · have hw:wrongS x d ls=headS x:=by simp only [wrongS,if_pos h1]
    rw [if_pos h1]
    refine ⟨_,rfl,?_⟩
    simp only [hw,if_pos h1]
    exact ⟨trivial,trivial,trivial⟩
  rw [if_neg h1]
  have h1':headS x=0:=Decidable.not_not.1 h1
  obtain ⟨hk,hN,hE⟩:=head_n h1'
  by_cases h2:(3≤x.Kind∧x.Kind≤6)∧d=6
  · have hw:wrongS x d ls=2:=by
      simp only [wrongS,if_neg h1]
      rw [if_pos ⟨h2.1,by omega⟩]
    rw [if_pos h2]
    refine ⟨_,rfl,?_⟩
    simp [hw]
  rw [if_neg h2]
  have h2':¬ ((3≤x.Kind∧x.Kind≤6)∧d ≥ 6):=fun h=>h2 ⟨h.1,by omega⟩
  have hw:wrongS x d ls=if x.Kind=6∧x.N ∈ ls then 10 else 0:=by simp only [wrongS,if_neg h1,if_neg h2']
  have hin:d<6 ∨ x.Body=[]:=by
    by_cases h3:3≤x.Kind∧x.Kind≤6
    · left; have:d ≠ 6:=fun e=>h2 ⟨h3,e⟩; omega
    · right; exact (hE h3).1
  have hin2:d<6 ∨ x.Else=[]:=by
    by_cases h3:3≤x.Kind∧x.Kind≤6
    · left; have:d ≠ 6:=fun e=>h2 ⟨h3,e⟩; omega
    · right; exact (hE h3).2
  have hcb:(SStmt.flL x.Body (d+1) (within x ls)).length=SStmt.cntL x.Body:=SStmt.flL_len _ _ _ _ (Nat.lt_succ_self _)
  have hce:(SStmt.flL x.Else (d+1) (within x ls)).length=SStmt.cntL x.Else:=SStmt.flL_len _ _ _ _ (Nat.lt_succ_self _)
  obtain ⟨r3,hr3,g3⟩:=hL x.Body a (.inl rfl) hin ha0 (by omega)
  obtain ⟨r4,hr4,g4⟩:=hL x.Else (a+SStmt.cntL x.Body) (.inr rfl) hin2 (by omega) (by omega)
  have hlen:(a-1+(((⟨x,d,ls⟩:Sstatement)::(SStmt.flL x.Body (d+1) (within x ls)++SStmt.flL x.Else (d+1) (within x ls))).length:Nat):Int)=a+SStmt.cntL x.Body+SStmt.cntL x.Else:=by
    simp only [List.length_cons,List.length_append,hcb,hce]; omega
  rw [hlen]
  simp only [GoodL,hcb,hce] at g3 g4
  simp only [firstW_append,hcb]
  by_cases h6:x.Kind=6
  · obtain ⟨hN0,hN1⟩:=hN h6
    obtain ⟨e0,e1,e2,e3,e4⟩:=locks_set ls x.N hN0 hN1 _ _ _ _ rfl rfl rfl rfl
    rw [if_pos h6,e0]
    simp only
    by_cases hin':x.N ∈ ls
    · have hw':wrongS x d ls=10:=by rw [hw,if_pos ⟨h6,hin'⟩]
      simp only [hin',decide_true,if_true]
      refine ⟨_,rfl,?_⟩
      simp [hw']
    · have hw':wrongS x d ls=0:=by rw [hw,if_neg (fun h=>hin' h.2)]
      have hwi:within x ls=ls++[x.N]:=by simp only [within,if_pos h6]
      simp only [hin',decide_false,Bool.false_eq_true,if_false,hw',ne_eq,not_true,e1,e2,e3,e4]
      rw [hwi] at hr3 hr4 g3 g4 ⊢
      rw [hr3]
      simp only
      cases hf:firstW (SStmt.flL x.Body (d+1) (ls++[x.N])) a with
      | some y =>
        rw [hf] at g3
        simp only at g3 ⊢
        rw [g3.1]
        simp only [Bool.false_eq_true,if_false]
        obtain ⟨r5,hr5⟩:=back_some x.N hN0 hN1 r3.2.1 r3.2.2.1 r3.2.2.2.1 x.If.B.N r3.2.2.2.2.1 r3.2.2.2.2.2.1 r3.2.2.2.2.2.2.1 r3.2.2.2.2.2.2.2 x.E.A x.If.A.A x.If.B.A x.Body x.Else x.Kind x.E.Kind x.E.N x.If.Kind x.If.A.Kind x.If.A.N x.If.B.Kind
        rw [hr5]
        exact ⟨_,rfl,rfl,g3.2⟩
      | none =>
        rw [hf] at g3
        simp only at g3 ⊢
        rw [g3]
        simp only [if_true]
        rw [hr4]
        simp only
        cases hf2:firstW (SStmt.flL x.Else (d+1) (ls++[x.N])) (a+SStmt.cntL x.Body) with
        | some y =>
          rw [hf2] at g4
          simp only at g4 ⊢
          obtain ⟨r5,hr5⟩:=back_some x.N hN0 hN1 r4.2.1 r4.2.2.1 r4.2.2.2.1 x.If.B.N r4.2.2.2.2.1 r4.2.2.2.2.2.1 r4.2.2.2.2.2.2.1 r4.2.2.2.2.2.2.2 x.E.A x.If.A.A x.If.B.A x.Body x.Else x.Kind x.E.Kind x.E.N x.If.Kind x.If.A.Kind x.If.A.N x.If.B.Kind
          rw [hr5]
          exact ⟨_,rfl,g4⟩
        | none =>
          rw [hf2] at g4
          simp only at g4 ⊢
          rw [g4]
          simp only
          rw [locks_back ls x.N hN0 hN1 hin' _ _ _ _ 0 0 0 0 0]
          exact ⟨_,rfl,rfl⟩
  · have hw':wrongS x d ls=0:=by rw [hw,if_neg (fun h=>h6 h.1)]
    have hwi:within x ls=ls:=by simp only [within,if_neg h6]
    rw [if_neg h6]
    simp only [hw',ne_eq,not_true,if_false]
    rw [hwi] at hr3 hr4 g3 g4 ⊢
    rw [hr3]
    simp only
    cases hf:firstW (SStmt.flL x.Body (d+1) ls) a with
    | some y =>
      rw [hf] at g3
      simp only at g3 ⊢
      rw [g3.1]
      simp only [Bool.false_eq_true,if_false]
      exact ⟨_,rfl,rfl,g3.2⟩
    | none =>
      rw [hf] at g3
      simp only at g3 ⊢
      rw [g3]
      simp only [if_true]
      rw [hr4]
      exact ⟨_,rfl,g4⟩

theorem fl_len (x:SStmt) (d:Int) (ls:List Int):(x.fl d ls).length=x.cnt:=by
  have h1:(SStmt.flL x.Body (d+1) (within x ls)).length=SStmt.cntL x.Body:=SStmt.flL_len _ _ _ _ (Nat.lt_succ_self _)
  have h2:(SStmt.flL x.Else (d+1) (within x ls)).length=SStmt.cntL x.Else:=SStmt.flL_len _ _ _ _ (Nat.lt_succ_self _)
  rw [x.fl_eq,x.cnt_eq]; simp only [List.length_cons,List.length_append,h1,h2]; omega
theorem list_eq (K:Nat) (hK:4194304<K):∀ (n:Nat) (l:List SStmt) (a c f d:Int) (ls:List Int),3*SStmt.blkL l<n→SStmt.blkL l≤1048576→0≤d→(d≤6 ∨ l=[])→-1≤a→a+SStmt.cntL l≤4194304 →
    ∃ r,(tc_list.recs K n).1 a c f (decide ((0:Int) ∈ ls)) (decide ((1:Int) ∈ ls)) (decide ((2:Int) ∈ ls)) (decide ((3:Int) ∈ ls)) l d=some r∧GoodL r (SStmt.flL l d ls) a c f ls:=by
  intro n
  induction n using Nat.strongRecOn with
  | ind n ih =>
    intro l a c f d ls hn hb hd0 hd ha0 ha
    obtain ⟨m,rfl⟩:∃ m,n=m+1:=⟨n-1,by omega⟩
    have hlen:=SStmt.blkL_len l
    obtain ⟨x,hx,hR⟩:=iter_rows (f:=tc_list.r0 l d ((tc_list.recs K m).2.1)) (fun (s:Int×Int×Int×Bool×Bool×Bool×Bool) i=>(i,s)) l
      (fun r s=>∃ b:Int,s=(b,c,f,decide ((0:Int) ∈ ls),decide ((1:Int) ∈ ls),decide ((2:Int) ∈ ls),decide ((3:Int) ∈ ls))∧-1≤b∧b+SStmt.cntL r≤4194304)
      (fun r s x=>match x with
        | .inl t=>GoodL (true,t) (SStmt.flL r d ls) s.1 c f ls
        | .inr t=>GoodL t (SStmt.flL r d ls) s.1 c f ls)
      (fun s hs=>by
        obtain ⟨b,rfl,_⟩:=hs
        refine ⟨.inl _,by simp only [tc_list.r0,Int.lt_irrefl,if_false]; rfl,?_⟩
        simp [GoodL,SStmt.flL,firstW])
      (fun e r s i he hi hs=>by
        obtain ⟨b,rfl,hb0,hb1⟩:=hs
        have h1:=SStmt.blkL_mem (mem_of_at he)
        have h2:=e.blk_eq
        have h3:=e.cnt_eq
        have hi':(i:Int)<(l.length:Int):=by omega
        have hd6:d≤6:=by
          rcases hd with hd | hd
          · exact hd
          · rw [hd] at hi; simp at hi
        simp only [SStmt.cntL] at hb1
        obtain ⟨m,rfl⟩:∃ k,m=k+2:=⟨m-2,by omega⟩
        have hw:IntKind.i64.wrap (b+1)=b+1:=wrap64_small (by omega) (by omega)
        obtain ⟨t,ht,hg⟩:=stmt_eq K hK ((tc_list.recs K m).1) e (b+1) c f d ls (by omega) hd0 hd6 (by omega) (by omega) (fun l' a' hl' hd' h0' h1'=>by
          refine ih m (by omega) l' a' c f (d+1) (within e ls) ?_ ?_ (by omega) ?_ h0' h1'
          · rcases hl' with rfl | rfl <;> omega
          · rcases hl' with rfl | rfl <;> omega
          · rcases hd' with h | h
            · left; omega
            · right; exact h)
        have hat:(tc_list.recs K (m+2)).2.1 b c f (decide ((0:Int) ∈ ls)) (decide ((1:Int) ∈ ls)) (decide ((2:Int) ∈ ls)) (decide ((3:Int) ∈ ls)) e.Kind e.N e.E.Kind e.E.N e.E.A e.If.Kind e.If.A.Kind e.If.A.N e.If.A.A e.If.B.Kind e.If.B.N e.If.B.A e.Body e.Else d=some t:=by
          show tc_stmtAt.b K ((tc_list.recs K (m+1)).2.2) _ _ _ _ _ _ _ _ _ _ _ _ _ _ _ _ _ _ _ _ _ _=_
          simp only [tc_stmtAt.b,hw]
          have:(tc_list.recs K (m+1)).2.2=tc_stmt.b K ((tc_list.recs K m).1):=rfl
          rw [this,ht]
        have hb2:b+1-1=b:=by omega
        rw [hb2] at hg
        cases hf:firstW (e.fl d ls) b with
        | none =>
          left
          simp only [GoodL,hf,fl_len] at hg
          refine ⟨(b+e.cnt,c,f,decide ((0:Int) ∈ ls),decide ((1:Int) ∈ ls),decide ((2:Int) ∈ ls),decide ((3:Int) ∈ ls)),?_,⟨_,rfl,by omega,by omega⟩,fun x hx=>?_⟩
          · simp only [tc_list.r0,if_pos hi',he]
            rw [hat,hg]
            rfl
          · have key:∀ t,GoodL t (SStmt.flL r d ls) (b+e.cnt) c f ls→GoodL t (SStmt.flL (e::r) d ls) b c f ls:=by
              intro t h
              simp only [GoodL,SStmt.flL,firstW_append,hf,fl_len,List.length_append] at h ⊢
              rw [show (b+((e.cnt+(SStmt.flL r d ls).length:Nat):Int))=b+e.cnt+(SStmt.flL r d ls).length by omega]
              exact h
            cases x with
            | inl t=>exact key _ hx
            | inr t=>exact key _ hx
        | some y =>
          right
          simp only [GoodL,hf] at hg
          refine ⟨.inr (false,t.2),?_,?_⟩
          · simp only [tc_list.r0,if_pos hi',he]
            rw [hat]
            simp only [hg.1,Bool.false_eq_true,if_false]
          · simp only [GoodL,SStmt.flL,firstW_append,hf]
            exact ⟨trivial,hg.2⟩)
      (s:=(a,c,f,decide ((0:Int) ∈ ls),decide ((1:Int) ∈ ls),decide ((2:Int) ∈ ls),decide ((3:Int) ∈ ls))) ⟨a,rfl,ha0,ha⟩ (K:=K) (by omega)
    show ∃ r,tc_list.b K ((tc_list.recs K m).2.1) _ _ _ _ _ _ _ _ _=some r∧_
    simp only [tc_list.b]
    rw [hx]
    cases x with
    | inl t=>exact ⟨_,rfl,hR⟩
    | inr t=>exact ⟨_,rfl,hR⟩
theorem scanE_all:∀ (l:List SExpr) (z:Int),(scanE l z).1=0→∀ x ∈ l,badE x=0
  | [],_,_,x,hx=>by simp at hx
  | y::l,z,h,x,hx=>by
    simp only [scanE] at h
    by_cases h0:z-1<0
    · simp [h0] at h
    · by_cases h1:badE y=0
      · simp only [if_neg h0,if_pos h1] at h
        rcases List.mem_cons.1 hx with rfl | hx
        · exact h1
        · exact scanE_all l (z-1) h x hx
      · simp only [if_neg h0,if_neg h1] at h; exact absurd h h1
def okE (l:List SExpr):Prop:=∀ x ∈ SExpr.ndsL l,badE x=0
theorem okE.head {x:SExpr} {l:List SExpr} (h:okE (x::l)):badE x=0∧okE x.A:=by
  refine ⟨h x ?_,fun y hy=>h y ?_⟩
  · simp [SExpr.ndsL,x.nds_eq]
  · simp [SExpr.ndsL,x.nds_eq,hy]
theorem okE.tail {x:SExpr} {l:List SExpr} (h:okE (x::l)):okE l:=fun y hy=>h y (by simp [SExpr.ndsL,hy])
theorem okE.one {x:SExpr} (h:(scanE x.nds 30).1=0):okE [x]:=fun y hy=>scanE_all _ _ h y (by simpa [SExpr.ndsL] using hy)
theorem badE_kind {x:SExpr} (h:badE x=0):(1≤x.Kind∧x.Kind≤7)∧(x.Kind≤3→x.A=[]):=by
  simp only [badE] at h
  by_cases hk:x.Kind<1 ∨ x.Kind > 7
  · rw [if_pos hk] at h; cases h
  rw [if_neg hk] at h
  by_cases hl:(x.A.length:Int) ≠ (if x.Kind≤3 then 0 else if x.Kind=4 then 1 else 2)
  · rw [if_pos hl] at h; cases h
  refine ⟨by omega,fun h3=>?_⟩
  rw [if_pos h3] at hl
  exact List.length_eq_zero_iff.1 (by omega)
theorem head_exprs {x:SStmt} (h:headS x=0):(x.Kind≤2→okE [x.E])∧(x.Kind=3 ∨ x.Kind=5→(1≤x.If.Kind∧x.If.Kind≤4)∧okE [x.If.A]∧okE [x.If.B]):=by
  simp only [headS] at h
  by_cases hk:x.Kind<1 ∨ x.Kind > 7
  · rw [if_pos hk] at h; cases h
  rw [if_neg hk] at h
  by_cases hn:x.N<(if x.Kind=7 then 1 else 0) ∨ x.N > (if x.Kind=1 then 7 else if x.Kind=2 then 3 else if x.Kind=3 then 0 else if x.Kind=6 then 3 else 1000)
  · rw [if_pos hn] at h; cases h
  rw [if_neg hn] at h
  by_cases c1:¬ (x.Kind≤2)∧noE x.E=false
  · rw [if_pos c1] at h; cases h
  rw [if_neg c1] at h
  by_cases c2:¬ (x.Kind=3 ∨ x.Kind=5)∧¬ (x.If.Kind=0∧noE x.If.A=true∧noE x.If.B=true)
  · rw [if_pos c2] at h; cases h
  rw [if_neg c2] at h
  by_cases c7:¬ (3≤x.Kind∧x.Kind≤6)∧x.Body.length > 0
  · rw [if_pos c7] at h; cases h
  rw [if_neg c7] at h
  by_cases c8:x.Kind ≠ 3∧x.Else.length > 0
  · rw [if_pos c8] at h; cases h
  rw [if_neg c8] at h
  by_cases c9:x.Kind≤2∧(scanE x.E.nds 30).1 ≠ 0
  · rw [if_pos c9] at h; exact absurd h c9.2
  rw [if_neg c9] at h
  by_cases c10:(x.Kind=3 ∨ x.Kind=5)∧(x.If.Kind<1 ∨ x.If.Kind > 4)
  · rw [if_pos c10] at h; cases h
  rw [if_neg c10] at h
  by_cases c11:(x.Kind=3 ∨ x.Kind=5)∧(scanE x.If.A.nds 30).1 ≠ 0
  · rw [if_pos c11] at h; exact absurd h c11.2
  rw [if_neg c11] at h
  by_cases c12:(x.Kind=3 ∨ x.Kind=5)∧(scanE x.If.B.nds 30).1 ≠ 0
  · rw [if_pos c12] at h; exact absurd h c12.2
  refine ⟨fun h2=>okE.one (Decidable.not_not.1 fun g=>c9 ⟨h2,g⟩),fun h3=>⟨?_,okE.one (Decidable.not_not.1 fun g=>c11 ⟨h3,g⟩),okE.one (Decidable.not_not.1 fun g=>c12 ⟨h3,g⟩)⟩⟩
  have:¬ (x.If.Kind<1 ∨ x.If.Kind > 4):=fun g=>c10 ⟨h3,g⟩
  omega
theorem head_range {x:SStmt} (h:headS x=0):0≤x.N∧x.N≤1000:=by
  simp only [headS] at h
  by_cases hk:x.Kind<1 ∨ x.Kind > 7
  · rw [if_pos hk] at h; cases h
  rw [if_neg hk] at h
  by_cases hn:x.N<(if x.Kind=7 then 1 else 0) ∨ x.N > (if x.Kind=1 then 7 else if x.Kind=2 then 3 else if x.Kind=3 then 0 else if x.Kind=6 then 3 else 1000)
  · rw [if_pos hn] at h; cases h
  have h1:¬ x.N<(if x.Kind=7 then 1 else 0):=fun g=>hn (.inl g)
  have h2:¬ x.N > (if x.Kind=1 then 7 else if x.Kind=2 then 3 else if x.Kind=3 then 0 else if x.Kind=6 then 3 else 1000):=fun g=>hn (.inr g)
  constructor
  · split at h1 <;> omega
  · repeat' split at h2
    all_goals omega
mutual
def SStmt.al:SStmt→List SStmt
  | ⟨k,n,e,i,b,l⟩=>⟨k,n,e,i,b,l⟩::(SStmt.alL b++SStmt.alL l)
def SStmt.alL:List SStmt→List SStmt
  | []=>[]
  | x::l=>x.al++SStmt.alL l
end
theorem SStmt.al_eq (x:SStmt):x.al=x::(SStmt.alL x.Body++SStmt.alL x.Else):=by cases x; simp only [SStmt.al]
def okS (l:List SStmt):Prop:=∀ x ∈ SStmt.alL l,headS x=0
theorem okS.head {x:SStmt} {l:List SStmt} (h:okS (x::l)):headS x=0∧okS x.Body∧okS x.Else:=by
  refine ⟨h x ?_,fun y hy=>h y ?_,fun y hy=>h y ?_⟩
  · simp [SStmt.alL,x.al_eq]
  · simp [SStmt.alL,x.al_eq,hy]
  · simp [SStmt.alL,x.al_eq,hy]
theorem okS.tail {x:SStmt} {l:List SStmt} (h:okS (x::l)):okS l:=fun y hy=>h y (by simp [SStmt.alL,hy])
theorem flL_al:∀ (n:Nat) (l:List SStmt) (d:Int) (ls:List Int),SStmt.blkL l<n→(SStmt.flL l d ls).map (·.s)=SStmt.alL l
  | 0,l,_,_,h=>by omega
  | n+1,[],_,_,h=>by simp [SStmt.flL,SStmt.alL]
  | n+1,x::l,d,ls,h=>by
    have h1:=x.blk_eq
    simp only [SStmt.blkL] at h
    have h3:=flL_al n x.Body (d+1) (within x ls) (by omega)
    have h4:=flL_al n x.Else (d+1) (within x ls) (by omega)
    have h5:=flL_al n l d ls (by omega)
    simp only [SStmt.alL,SStmt.flL,List.map_append,x.fl_eq,x.al_eq,List.map_cons,h3,h4,h5,List.cons_append,List.append_assoc]
theorem firstW_right:∀ (l:List Sstatement) (a:Int),firstW l a=none→∀ y ∈ l,headS y.s=0
  | [],_,_,y,hy=>by simp at hy
  | x::l,a,h,y,hy=>by
    simp only [firstW] at h
    by_cases hw:wrongS x.s x.deep x.locks ≠ 0
    · rw [if_pos hw] at h; cases h
    · rw [if_neg hw] at h
      rcases List.mem_cons.1 hy with rfl | hy
      · apply Decidable.not_not.1
        intro hh
        exact hw (by simp only [wrongS,if_pos hh]; exact hh)
      · exact firstW_right l (a+1) h y hy
theorem Check_right (K:Nat) (hK:4194304<K) (l:List SStmt) (hb:SStmt.blkL l≤1048576) {r:SFault} (h:tongue_Check.f K l=some r) (hr:r.Code=0):okS l:=by
  have e1:=Count_eq K hK K l (by omega) hb
  have hc:=SStmt.cntL_le' l
  simp only [tongue_Check.f,tongue_Count.f,e1] at h
  by_cases h2:(SStmt.cntL l:Int) > 200
  · rw [if_pos h2] at h
    have:=Option.some.inj h
    subst this; cases hr
  rw [if_neg h2] at h
  obtain ⟨t,ht,hg⟩:=list_eq K hK K l (-1) 0 0 0 [] (by omega) hb (by omega) (.inl (by omega)) (by omega) (by omega)
  have ht':tc_list.f K (-1) 0 0 false false false false l 0=some t:=ht
  simp only [ht',Option.some.injEq] at h
  subst h
  simp only [GoodL] at hg
  cases hf:firstW (SStmt.flL l 0 []) (-1) with
  | some y =>
    rw [hf] at hg
    simp only at hg hr
    exact absurd (hg.2.1.symm.trans hr) (by
      intro h0
      have key:∀ (l:List Sstatement) (a:Int) (y:Int×Int),firstW l a=some y→y.1 ≠ 0:=by
        intro l
        induction l with
        | nil=>intro a y h; cases h
        | cons x l ih =>
          intro a y h
          simp only [firstW] at h
          by_cases hw:wrongS x.s x.deep x.locks ≠ 0
          · rw [if_pos hw] at h
            have:=Option.some.inj h
            rw [← this]; exact hw
          · rw [if_neg hw] at h; exact ih _ _ h
      exact key _ _ _ hf h0)
  | none =>
    intro x hx
    rw [← flL_al _ l 0 [] (Nat.lt_succ_self _)] at hx
    obtain ⟨y,hy,rfl⟩:=List.mem_map.1 hx
    exact firstW_right _ _ hf y hy
abbrev MS:=List Int×List SPut×Int
def whil (c:MS→Bool) (f:MS→Int ⊕ MS):Nat→MS→Int ⊕ MS
  | 0,s=>.inr s
  | k+1,s=>if c s=true then (match f s with | .inl a=>.inl a | .inr s=>whil c f k s) else .inr s
mutual
def SExpr.val (V inn:List Int):SExpr→Int
  | ⟨k,n,a⟩=>if k=1 then n else if k=2 then (V[n.toNat]?).getD 0 else if k=3 then (inn[n.toNat]?).getD 0 else if k=4 then IntKind.i64.wrap (0-((SExpr.valL V inn a)[0]?).getD 0) else if k=5 then IntKind.i64.wrap (((SExpr.valL V inn a)[0]?).getD 0+((SExpr.valL V inn a)[1]?).getD 0) else if k=6 then IntKind.i64.wrap (((SExpr.valL V inn a)[0]?).getD 0-((SExpr.valL V inn a)[1]?).getD 0) else IntKind.i64.wrap (((SExpr.valL V inn a)[0]?).getD 0*((SExpr.valL V inn a)[1]?).getD 0)
def SExpr.valL (V inn:List Int):List SExpr→List Int
  | []=>[]
  | x::l=>SExpr.val V inn x::SExpr.valL V inn l
end
def SCond.yes (V inn:List Int) (c:SCond):Bool :=
  if c.Kind=1 then decide (c.A.val V inn<c.B.val V inn) else if c.Kind=2 then c.A.val V inn==c.B.val V inn else if c.Kind=3 then c.A.val V inn != c.B.val V inn else decide (c.A.val V inn ≥ c.B.val V inn)
mutual
def SStmt.run (inn:List Int):SStmt→Int→MS→Int ⊕ MS
  | ⟨k,n,e,c,b,l⟩,p,s =>
    if s.2.2=20000 then .inl p
    else if k=1 then .inr (s.1.set n.toNat (e.val s.1 inn),s.2.1,s.2.2+1)
    else if k=2 then .inr (s.1,s.2.1++[⟨n,e.val s.1 inn⟩],s.2.2+1)
    else if k=3 then (if c.yes s.1 inn=true then SStmt.runL inn b (p+1) (s.1,s.2.1,s.2.2+1) else SStmt.runL inn l (p+1+(SStmt.cntL b:Int)) (s.1,s.2.1,s.2.2+1))
    else if k=4 then whil (fun _=>true) (fun t=>SStmt.runL inn b (p+1) t) n.toNat (s.1,s.2.1,s.2.2+1)
    else if k=5 then whil (fun t=>c.yes t.1 inn) (fun t=>SStmt.runL inn b (p+1) t) n.toNat (s.1,s.2.1,s.2.2+1)
    else if k=6 then SStmt.runL inn b (p+1) (s.1,s.2.1,s.2.2+1)
    else .inr (s.1,s.2.1,s.2.2+1)
def SStmt.runL (inn:List Int):List SStmt→Int→MS→Int ⊕ MS
  | [],_,s=>.inr s
  | x::l,p,s=>match SStmt.run inn x p s with | .inl a=>.inl a | .inr t=>SStmt.runL inn l (p+(x.cnt:Int)) t
end
theorem SExpr.val_eq (V inn:List Int) (x:SExpr):x.val V inn=if x.Kind=1 then x.N else if x.Kind=2 then (V[x.N.toNat]?).getD 0 else if x.Kind=3 then (inn[x.N.toNat]?).getD 0 else if x.Kind=4 then IntKind.i64.wrap (0-((SExpr.valL V inn x.A)[0]?).getD 0) else if x.Kind=5 then IntKind.i64.wrap (((SExpr.valL V inn x.A)[0]?).getD 0+((SExpr.valL V inn x.A)[1]?).getD 0) else if x.Kind=6 then IntKind.i64.wrap (((SExpr.valL V inn x.A)[0]?).getD 0-((SExpr.valL V inn x.A)[1]?).getD 0) else IntKind.i64.wrap (((SExpr.valL V inn x.A)[0]?).getD 0*((SExpr.valL V inn x.A)[1]?).getD 0):=by cases x; simp only [SExpr.val]
theorem SStmt.run_eq (inn:List Int) (x:SStmt) (p:Int) (s:MS):x.run inn p s =
    if s.2.2=20000 then .inl p
    else if x.Kind=1 then .inr (s.1.set x.N.toNat (x.E.val s.1 inn),s.2.1,s.2.2+1)
    else if x.Kind=2 then .inr (s.1,s.2.1++[⟨x.N,x.E.val s.1 inn⟩],s.2.2+1)
    else if x.Kind=3 then (if x.If.yes s.1 inn=true then SStmt.runL inn x.Body (p+1) (s.1,s.2.1,s.2.2+1) else SStmt.runL inn x.Else (p+1+(SStmt.cntL x.Body:Int)) (s.1,s.2.1,s.2.2+1))
    else if x.Kind=4 then whil (fun _=>true) (fun t=>SStmt.runL inn x.Body (p+1) t) x.N.toNat (s.1,s.2.1,s.2.2+1)
    else if x.Kind=5 then whil (fun t=>x.If.yes t.1 inn) (fun t=>SStmt.runL inn x.Body (p+1) t) x.N.toNat (s.1,s.2.1,s.2.2+1)
    else if x.Kind=6 then SStmt.runL inn x.Body (p+1) (s.1,s.2.1,s.2.2+1)
    else .inr (s.1,s.2.1,s.2.2+1):=by cases x; simp only [SStmt.run]
structure MGood (s : MS) : Prop where
  V:s.1.length=8
  n0:0≤s.2.2
  n1:s.2.2≤20000
  P:(s.2.1.length:Int)≤s.2.2
def MRight (r:Int ⊕ MS):Prop:=∀ s,r=.inr s→MGood s
theorem whil_good {c:MS→Bool} {f:MS→Int ⊕ MS} (hf:∀ s,MGood s→MRight (f s)):∀ (k:Nat) (s:MS),MGood s→MRight (whil c f k s)
  | 0,s,h=>fun t e=>by simp only [whil,Sum.inr.injEq] at e; subst e; exact h
  | k+1,s,h=>by
    simp only [whil]
    split
    · cases e:f s with
      | inl a=>intro t e'; simp only at e'; cases e'
      | inr t=>exact whil_good hf k t (hf s h t e)
    · intro t e; simp only [Sum.inr.injEq] at e; subst e; exact h
theorem MGood.step {s:MS} (h:MGood s) (hn:¬ s.2.2=20000):MGood (s.1,s.2.1,s.2.2+1):=by
  obtain ⟨h1,h2,h3,h4⟩:=h
  exact ⟨h1,by simp only; omega,by simp only; omega,by simp only; omega⟩
theorem runL_good (inn:List Int):∀ (n:Nat) (l:List SStmt) (p:Int) (s:MS),SStmt.blkL l<n→MGood s→MRight (SStmt.runL inn l p s)
  | 0,l,_,_,h,_=>by omega
  | n+1,[],p,s,h,hs=>fun t e=>by simp only [SStmt.runL,Sum.inr.injEq] at e; subst e; exact hs
  | n+1,x::l,p,s,h,hs=>by
    have hx:=x.blk_eq
    simp only [SStmt.blkL] at h
    have key:MRight (x.run inn p s):=by
      rw [x.run_eq]
      split
      · intro t e; cases e
      rename_i hn
      have hst:=hs.step hn
      have hB:∀ q t,MGood t→MRight (SStmt.runL inn x.Body q t):=fun q t ht=>runL_good inn n x.Body q t (by omega) ht
      have hE:∀ q t,MGood t→MRight (SStmt.runL inn x.Else q t):=fun q t ht=>runL_good inn n x.Else q t (by omega) ht
      split
      · intro t e; simp only [Sum.inr.injEq] at e; subst e
        exact ⟨by simpa using hst.V,hst.n0,hst.n1,hst.P⟩
      split
      · intro t e; simp only [Sum.inr.injEq] at e; subst e
        have:=hs.P
        exact ⟨hst.V,hst.n0,hst.n1,by simp only [List.length_append,List.length_cons,List.length_nil]; omega⟩
      split
      · split
        · exact hB _ _ hst
        · exact hE _ _ hst
      split
      · exact whil_good (fun t ht=>hB _ t ht) _ _ hst
      split
      · exact whil_good (fun t ht=>hB _ t ht) _ _ hst
      split
      · exact hB _ _ hst
      · intro t e; simp only [Sum.inr.injEq] at e; subst e; exact hst
    simp only [SStmt.runL]
    cases e:x.run inn p s with
    | inl a=>intro t e'; simp only at e'; cases e'
    | inr t=>exact runL_good inn n l _ t (by omega) (key t e)
theorem runL_good' (inn:List Int) (l:List SStmt) (p:Int) (s:MS) (hs:MGood s):MRight (SStmt.runL inn l p s):=runL_good inn _ l p s (Nat.lt_succ_self _) hs
theorem badE_more {x:SExpr} (h:badE x=0):0≤x.N∧(x.Kind=2→x.N≤7)∧(x.Kind=3→x.N≤3)∧(x.Kind=1→x.N≤999999999)∧(x.Kind=4→x.A.length=1)∧(5≤x.Kind→x.A.length=2):=by
  simp only [badE] at h
  by_cases hk:x.Kind<1 ∨ x.Kind > 7
  · rw [if_pos hk] at h; cases h
  rw [if_neg hk] at h
  by_cases hl:(x.A.length:Int) ≠ (if x.Kind≤3 then 0 else if x.Kind=4 then 1 else 2)
  · rw [if_pos hl] at h; cases h
  rw [if_neg hl] at h
  by_cases hn:x.N<0 ∨ x.N > (if x.Kind=1 then 999999999 else if x.Kind=2 then 7 else if x.Kind=3 then 3 else 0)
  · rw [if_pos hn] at h; cases h
  have hn':¬ x.N > (if x.Kind=1 then 999999999 else if x.Kind=2 then 7 else if x.Kind=3 then 3 else 0):=fun g=>hn (.inr g)
  refine ⟨by omega,fun e=>?_,fun e=>?_,fun e=>?_,fun e=>?_,fun e=>?_⟩
  · simp [e] at hn'; omega
  · simp [e] at hn'; omega
  · simp [e] at hn'; omega
  · simp [e] at hl; omega
  · rw [if_neg (by omega),if_neg (by omega)] at hl; omega
theorem get8 {V:List Int} {n:Int} (hV:V.length=8) (h0:0≤n) (h1:n≤7):V[n.toNat]?=some ((V[n.toNat]?).getD 0):=by
  have:n.toNat<V.length:=by omega
  simp [List.getElem?_eq_getElem this]
theorem get4 {V:List Int} {n:Int} (hV:V.length=4) (h0:0≤n) (h1:n≤3):V[n.toNat]?=some ((V[n.toNat]?).getD 0):=by
  have:n.toNat<V.length:=by omega
  simp [List.getElem?_eq_getElem this]
theorem mvalue_eq (K:Nat) (V inn:List Int) (P:List SPut) (z:Int) (hV:V.length=8) (hi:inn.length=4):∀ (n:Nat) (x:SExpr),x.blk≤n→okE [x]→mr_value.recs K n V P z inn x.Kind x.N x.A=some (x.val V inn)
  | 0,x,h,_=>by have:=x.blk_eq; omega
  | n+1,x,h,hok=>by
    have hbx:=x.blk_eq
    obtain ⟨hk,hA⟩:=badE_kind hok.head.1
    obtain ⟨h0,h2,h3,h1,h4,h5⟩:=badE_more hok.head.1
    have hsub:∀ y ∈ x.A,mr_value.recs K n V P z inn y.Kind y.N y.A=some (y.val V inn):=fun y hy=>by
      have h1:=SExpr.blkL_mem hy
      refine mvalue_eq K V inn P z hV hi n y (by omega) fun w hw=>hok.head.2 w ?_
      clear h h1 h2 h3 h4 h5 hA hk h0 hbx hok
      have e:SExpr.ndsL [y]=y.nds:=by simp [SExpr.ndsL]
      rw [e] at hw
      generalize x.A=l at hy
      induction l with
      | nil=>cases hy
      | cons a l ih =>
        simp only [SExpr.ndsL,List.mem_append]
        rcases List.mem_cons.1 hy with rfl | hy
        · exact .inl hw
        · exact .inr (ih hy)
    show mr_value.b K (mr_value.recs K n) V P z inn x.Kind x.N x.A=_
    have hk':x.Kind=1 ∨ x.Kind=2 ∨ x.Kind=3 ∨ x.Kind=4 ∨ x.Kind=5 ∨ x.Kind=6 ∨ x.Kind=7:=by omega
    rw [x.val_eq]
    have two:5≤x.Kind→∃ a b,x.A=[a,b]:=fun h=>by
      have:=h5 h
      match hx:x.A with
      | [a,b]=>exact ⟨a,b,rfl⟩
      | []=>rw [hx] at this; simp at this
      | [_]=>rw [hx] at this; simp at this
      | _::_::_::_=>rw [hx] at this; simp at this
    rcases hk' with e | e | e | e | e | e | e <;> simp only [mr_value.b,e,Int.reduceEq,if_true,if_false]
    · rw [if_pos h0,get8 hV h0 (h2 e)]; rfl
    · rw [if_pos h0,get4 hi h0 (h3 e)]; rfl
    · obtain ⟨a,ha⟩:∃ a,x.A=[a]:=by
        have:=h4 e
        match hx:x.A with
        | [a]=>exact ⟨a,rfl⟩
        | []=>rw [hx] at this; simp at this
        | _::_::_=>rw [hx] at this; simp at this
      have:=hsub a (by simp [ha])
      simp [ha,this,SExpr.valL]
    all_goals
      obtain ⟨a,b,ha⟩:=two (by omega)
      have e1:=hsub a (by simp [ha])
      have e2:=hsub b (by simp [ha])
      simp [mr_value.p0,ha,e1,e2,SExpr.valL]
theorem mvalue_f (K:Nat) (V inn:List Int) (P:List SPut) (z:Int) (hV:V.length=8) (hi:inn.length=4) (x:SExpr) (hb:x.blk≤K) (hok:okE [x]):mr_value.f K V P z inn x.Kind x.N x.A=some (x.val V inn):=mvalue_eq K V inn P z hV hi K x hb hok
theorem mholds_f (K:Nat) (V inn:List Int) (P:List SPut) (z:Int) (hV:V.length=8) (hi:inn.length=4) (c:SCond) (ha:c.A.blk≤K) (hb:c.B.blk≤K) (oa:okE [c.A]) (ob:okE [c.B]):mr_holds.f K V P z inn c.Kind c.A.Kind c.A.N c.A.A c.B.Kind c.B.N c.B.A=some (c.yes V inn):=by
  simp only [mr_holds.f,mr_holds.p0,mvalue_f K V inn P z hV hi c.A ha oa,mvalue_f K V inn P z hV hi c.B hb ob,SCond.yes]
  repeat' split
  all_goals rfl

def unSt (r:Int ⊕ MS):MS ⊕ (Int ⊕ MS):=match r with | .inl a=>.inr (.inl a) | .inr t=>.inl t
theorem iter_whil {f:Int×MS→Option ((Int×MS) ⊕ (MS ⊕ (Int ⊕ MS)))} (c:MS→Bool) (g:MS→Int ⊕ MS) (N:Int) (I:MS→Prop)
    (h1:∀ z s,I s→0≤z→z<N→f (z,s)=if c s=true then (match g s with | .inl a=>some (.inr (.inr (.inl a))) | .inr t=>some (.inl (z+1,t))) else some (.inr (.inl s)))
    (h2:∀ z s,¬ z<N→f (z,s)=some (.inr (.inl s))) (hI:∀ s t,I s→g s=.inr t→I t) :
    ∀ (k:Nat) (z:Int) (s:MS) (K:Nat),I s→0≤z→(N-z).toNat=k→k<K→iter f K (z,s)=some (unSt (whil c g k s))
  | 0,z,s,K,hs,hz,hk,hK=>by
    obtain ⟨K,rfl⟩:∃ j,K=j+1:=⟨K-1,by omega⟩
    simp only [iter,h2 z s (by omega),whil,unSt]
  | k+1,z,s,K,hs,hz,hk,hK=>by
    obtain ⟨K,rfl⟩:∃ j,K=j+1:=⟨K-1,by omega⟩
    simp only [iter,h1 z s hs hz (by omega),whil]
    by_cases hc:c s=true
    · rw [if_pos hc,if_pos hc]
      cases hg:g s with
      | inl a=>simp only [unSt]
      | inr t =>
        simp only
        exact iter_whil c g N I h1 h2 hI k (z+1) t K (hI s t hs hg) (by omega) (by omega) (by omega)
    · rw [if_neg hc,if_neg hc]; rfl
theorem headN {x:SStmt} (h:headS x=0):(x.Kind=1→x.N≤7):=by
  intro e
  simp only [headS] at h
  by_cases hk:x.Kind<1 ∨ x.Kind > 7
  · rw [if_pos hk] at h; cases h
  rw [if_neg hk] at h
  by_cases hn:x.N<(if x.Kind=7 then 1 else 0) ∨ x.N > (if x.Kind=1 then 7 else if x.Kind=2 then 3 else if x.Kind=3 then 0 else if x.Kind=6 then 3 else 1000)
  · rw [if_pos hn] at h; cases h
  have hn':¬ x.N > (if x.Kind=1 then 7 else if x.Kind=2 then 3 else if x.Kind=3 then 0 else if x.Kind=6 then 3 else 1000):=fun g=>hn (.inr g)
  simp [e] at hn'; omega
theorem rstmt_eq (K:Nat) (hK:4194304<K) (inn:List Int) (hi:inn.length=4) (L:List Int→List SPut→Int→List Int→List SStmt→Int→Option (Int ⊕ (List Int×List SPut×Int))) (x:SStmt) (p:Int) (s:MS) (hs:MGood s) (hb:x.blk≤1048576) (hh:headS x=0) (hp0:0≤p) (hp:p≤1048576)
    (hL:∀ l t q,(l=x.Body∧q=p+1) ∨ (l=x.Else∧q=p+1+(SStmt.cntL x.Body:Int))→MGood t→L t.1 t.2.1 t.2.2 inn l q=some (SStmt.runL inn l q t)) :
    mr_stmt.b K L s.1 s.2.1 s.2.2 inn x.Kind x.N x.E.Kind x.E.N x.E.A x.If.Kind x.If.A.Kind x.If.A.N x.If.A.A x.If.B.Kind x.If.B.N x.If.B.A x.Body x.Else p=some (x.run inn p s):=by
  have hbx:=x.blk_eq
  have ba:=x.If.A.blk_eq
  have bb:=x.If.B.blk_eq
  have be:=x.E.blk_eq
  have hcl:=SStmt.cntL_le' x.Body
  obtain ⟨hx12,hx35⟩:=head_exprs hh
  obtain ⟨hN0,hN1⟩:=head_range hh
  rw [x.run_eq]
  simp only [mr_stmt.b,mr_stmt.p0]
  by_cases hn:s.2.2=20000
  · simp only [if_pos hn]
  simp only [if_neg hn]
  have hst:=hs.step hn
  have n0:=hs.n0
  have n1:=hs.n1
  have hw:IntKind.i64.wrap (s.2.2+1)=s.2.2+1:=w64 (by omega) (by omega)
  have hw1:IntKind.i64.wrap (p+1)=p+1:=w64 (by omega) (by omega)
  have hw2:IntKind.i64.wrap (p+1+(SStmt.cntL x.Body:Int))=p+1+(SStmt.cntL x.Body:Int):=w64 (by omega) (by omega)
  rw [hw,hw1]
  have hcnt:tongue_Count.f K x.Body=some (SStmt.cntL x.Body:Int):=Count_eq K hK K x.Body (by omega) (by omega)
  have hB:=fun (t:MS) (ht:MGood t)=>hL x.Body t (p+1) (.inl ⟨rfl,rfl⟩) ht
  by_cases e1:x.Kind=1
  · simp only [if_pos e1]
    have ev:=mvalue_f K s.1 inn s.2.1 (s.2.2+1) hs.V hi x.E (by omega) (hx12 (by omega))
    rw [ev]
    simp only
    rw [if_pos hN0,get8 hs.V hN0 (headN hh e1)]
  simp only [if_neg e1]
  by_cases e2:x.Kind=2
  · simp only [if_pos e2]
    have ev:=mvalue_f K s.1 inn s.2.1 (s.2.2+1) hs.V hi x.E (by omega) (hx12 (by omega))
    have:=hs.P
    rw [ev]
    simp only
    rw [if_pos (by omega)]
  simp only [if_neg e2]
  by_cases e3:x.Kind=3
  · simp only [if_pos e3]
    obtain ⟨_,oa,ob⟩:=hx35 (.inl e3)
    rw [mholds_f K s.1 inn s.2.1 (s.2.2+1) hs.V hi x.If (by omega) (by omega) oa ob]
    simp only
    by_cases hy:x.If.yes s.1 inn=true
    · simp only [if_pos hy]
      have:=hB _ hst
      simp only at this
      rw [this]
      cases SStmt.runL inn x.Body (p+1) (s.1,s.2.1,s.2.2+1) <;> rfl
    · simp only [if_neg hy,hcnt,hw2]
      have:=hL x.Else _ _ (.inr ⟨rfl,rfl⟩) hst
      simp only at this
      rw [this]
      cases SStmt.runL inn x.Else (p+1+(SStmt.cntL x.Body:Int)) (s.1,s.2.1,s.2.2+1) <;> rfl
  simp only [if_neg e3]
  by_cases e4:x.Kind=4
  · simp only [if_pos e4]
    have hit:=iter_whil (f:=mr_stmt.r1 inn x.N x.Body p L) (fun _=>true) (fun t=>SStmt.runL inn x.Body (p+1) t) x.N MGood (fun z t ht hz hzN=>by
        obtain ⟨v,q,m⟩:=t
        have:=hB _ ht
        simp only at this
        simp only [mr_stmt.r1,if_pos hzN,hw1,this,if_true]
        cases SStmt.runL inn x.Body (p+1) (v,q,m) with
        | inl a=>rfl
        | inr t=>simp only; rw [w64 (n:=z+1) (by omega) (by omega)])
      (fun z t hz=>by obtain ⟨v,q,m⟩:=t; simp only [mr_stmt.r1,if_neg hz]) (fun t u ht e=>runL_good' inn x.Body _ t ht u e) x.N.toNat 0 (s.1,s.2.1,s.2.2+1) K hst (by omega) (by omega) (by omega)
    rw [hit]
    cases whil (fun _=>true) (fun t=>SStmt.runL inn x.Body (p+1) t) x.N.toNat (s.1,s.2.1,s.2.2+1) <;> rfl
  simp only [if_neg e4]
  by_cases e5:x.Kind=5
  · simp only [if_pos e5]
    obtain ⟨_,oa,ob⟩:=hx35 (.inr e5)
    have hit:=iter_whil (f:=mr_stmt.r2 K inn x.N x.If.Kind x.If.A.Kind x.If.A.N x.If.A.A x.If.B.Kind x.If.B.N x.If.B.A x.Body p L) (fun t=>x.If.yes t.1 inn) (fun t=>SStmt.runL inn x.Body (p+1) t) x.N MGood (fun z t ht hz hzN=>by
        obtain ⟨v,q,m⟩:=t
        have:=hB _ ht
        simp only at this
        simp only [mr_stmt.r2,if_pos hzN,hw1,mholds_f K v inn q m ht.V hi x.If (by omega) (by omega) oa ob]
        by_cases hy:x.If.yes v inn=true
        · simp only [if_pos hy,this]
          cases SStmt.runL inn x.Body (p+1) (v,q,m) with
          | inl a=>rfl
          | inr t=>simp only; rw [w64 (n:=z+1) (by omega) (by omega)]
        · simp only [if_neg hy])
      (fun z t hz=>by obtain ⟨v,q,m⟩:=t; simp only [mr_stmt.r2,if_neg hz]) (fun t u ht e=>runL_good' inn x.Body _ t ht u e) x.N.toNat 0 (s.1,s.2.1,s.2.2+1) K hst (by omega) (by omega) (by omega)
    rw [hit]
    cases whil (fun t=>x.If.yes t.1 inn) (fun t=>SStmt.runL inn x.Body (p+1) t) x.N.toNat (s.1,s.2.1,s.2.2+1) <;> rfl
  simp only [if_neg e5]
  by_cases e6:x.Kind=6
  · simp only [if_pos e6]
    have:=hB _ hst
    simp only at this
    rw [this]
    cases SStmt.runL inn x.Body (p+1) (s.1,s.2.1,s.2.2+1) <;> rfl
  · simp only [if_neg e6]
theorem rlist_eq (K:Nat) (hK:4194304<K) (inn:List Int) (hi:inn.length=4):∀ (n:Nat) (l:List SStmt) (p:Int) (s:MS),4*SStmt.blkL l<n→SStmt.blkL l≤1048576→okS l→MGood s→0≤p→p+SStmt.blkL l≤1048576→(mr_list.recs K n).1 s.1 s.2.1 s.2.2 inn l p=some (SStmt.runL inn l p s):=by
  intro n
  induction n using Nat.strongRecOn with
  | ind n ih =>
    intro l p s hn hb ho hs hp0 hp
    obtain ⟨n,rfl⟩:∃ k,n=k+1:=⟨n-1,by omega⟩
    have hlen:=SStmt.blkL_len l
    obtain ⟨x,hx,hR⟩:=iter_rows (f:=mr_list.r0 K inn l ((mr_list.recs K n).2)) (fun (s:Int×MS) i=>(s.1,i,s.2)) l
      (fun r s'=>SStmt.runL inn r s'.1 s'.2=SStmt.runL inn l p s∧okS r∧MGood s'.2∧0≤s'.1∧s'.1+SStmt.blkL r≤1048576)
      (fun r s' x=>x=unSt (SStmt.runL inn r s'.1 s'.2))
      (fun s' hs'=>by
        obtain ⟨q,v,m,z⟩:=s'
        exact ⟨.inl (v,m,z),by simp only [mr_list.r0,Int.lt_irrefl,if_false],by simp only [SStmt.runL,unSt]⟩)
      (fun a r s' i ha hr hs'=>by
        obtain ⟨q,v,m,z⟩:=s'
        obtain ⟨hs1,hs2,hs3,hs4,hs5⟩:=hs'
        have h1:=SStmt.blkL_mem (mem_of_at ha)
        have h2:=a.blk_eq
        have h3:=a.cnt_eq
        have c1:=SStmt.cntL_le' a.Body
        have c2:=SStmt.cntL_le' a.Else
        simp only [SStmt.blkL] at hs5
        simp only at hs1 hs3 hs4
        have hi':(i:Int)<(l.length:Int):=by omega
        obtain ⟨n,rfl⟩:∃ k,n=k+1:=⟨n-1,by omega⟩
        have e:(mr_list.recs K (n+1)).2 v m z inn a.Kind a.N a.E.Kind a.E.N a.E.A a.If.Kind a.If.A.Kind a.If.A.N a.If.A.A a.If.B.Kind a.If.B.N a.If.B.A a.Body a.Else q=some (a.run inn q (v,m,z)) :=
          rstmt_eq K hK inn hi ((mr_list.recs K n).1) a q (v,m,z) hs3 (by omega) hs2.head.1 hs4 (by omega) (fun l' t q' hl' ht=>by
            have hok:okS l':=by
              rcases hl' with ⟨rfl,_⟩ | ⟨rfl,_⟩
              · exact hs2.head.2.1
              · exact hs2.head.2.2
            refine ih n (by omega) l' q' t ?_ ?_ hok ht ?_ ?_ <;> rcases hl' with ⟨rfl,_⟩ | ⟨rfl,_⟩ <;> omega)
        have hgood:MRight (a.run inn q (v,m,z)):=by
          have:=runL_good' inn [a] q (v,m,z) hs3
          simp only [SStmt.runL] at this
          cases hh:a.run inn q (v,m,z) with
          | inl b=>intro t e'; cases e'
          | inr t=>rw [hh] at this; exact this
        have ec1:tongue_Count.f K a.Body=some (SStmt.cntL a.Body:Int):=Count_eq K hK K a.Body (by omega) (by omega)
        have ec2:tongue_Count.f K a.Else=some (SStmt.cntL a.Else:Int):=Count_eq K hK K a.Else (by omega) (by omega)
        cases hh:a.run inn q (v,m,z) with
        | inl b =>
          rw [hh] at e
          refine .inr ⟨.inr (.inl b),by simp only [mr_list.r0,if_pos hi',ha,e],?_⟩
          simp only [SStmt.runL,hh,unSt]
        | inr t =>
          rw [hh] at e
          refine .inl ⟨(q+a.cnt,t),?_,⟨?_,hs2.tail,hgood t hh,by simp only; omega,by simp only; omega⟩,fun x hx=>?_⟩
          · simp only [mr_list.r0,if_pos hi',ha,e,ec1,ec2]
            rw [w64 (n:=1+(SStmt.cntL a.Body:Int)) (by omega) (by omega),w64 (n:=1+(SStmt.cntL a.Body:Int)+(SStmt.cntL a.Else:Int)) (by omega) (by omega),w64 (by omega) (by omega)]
            rw [show q+(1+(SStmt.cntL a.Body:Int)+(SStmt.cntL a.Else:Int))=q+(a.cnt:Int) by omega]
          · rw [← hs1]; simp only [SStmt.runL,hh]
          · rw [hx]; simp only [SStmt.runL,hh])
      (s:=(p,s)) ⟨rfl,ho,hs,hp0,hp⟩ (K:=K) (by omega)
    show mr_list.b K ((mr_list.recs K n).2) s.1 s.2.1 s.2.2 inn l p=_
    simp only [mr_list.b]
    have hx':iter (mr_list.r0 K inn l (mr_list.recs K n).2) K (p,0,s.1,s.2.1,s.2.2)=some x:=hx
    rw [hx',hR]
    simp only
    cases SStmt.runL inn l p s <;> rfl

theorem runL_append (inn:List Int):∀ (a b:List SStmt) (p:Int) (s:MS),SStmt.runL inn (a++b) p s=match SStmt.runL inn a p s with | .inl c=>.inl c | .inr t=>SStmt.runL inn b (p+(SStmt.cntL a:Int)) t
  | [],b,p,s=>by simp [SStmt.runL,SStmt.cntL]
  | x::a,b,p,s=>by
    simp only [List.cons_append,SStmt.runL]
    cases SStmt.run inn x p s with
    | inl c=>rfl
    | inr t =>
      simp only
      rw [runL_append inn a b (p+(x.cnt:Int)) t]
      have:p+(x.cnt:Int)+(SStmt.cntL a:Int)=p+(SStmt.cntL (x::a):Int):=by simp only [SStmt.cntL]; omega
      rw [this]
def Up (s:MS) (r:Int ⊕ MS):Prop:=∀ t,r=.inr t→s.2.2≤t.2.2
theorem whil_up {c:MS→Bool} {f:MS→Int ⊕ MS} (hf:∀ s,Up s (f s)):∀ (k:Nat) (s:MS),Up s (whil c f k s)
  | 0,s=>fun t e=>by
    simp only [whil,Sum.inr.injEq] at e
    subst e
    exact Int.le_refl _
  | k+1,s=>fun t e=>by
    simp only [whil] at e
    split at e
    · cases e1:f s with
      | inl a=>rw [e1] at e; cases e
      | inr u =>
        rw [e1] at e
        have h1:=hf s u e1
        have h2:=whil_up hf k u t e
        omega
    · simp only [Sum.inr.injEq] at e
      subst e
      exact Int.le_refl _
theorem runL_up (inn:List Int):∀ (n:Nat) (l:List SStmt) (p:Int) (s:MS),SStmt.blkL l<n→Up s (SStmt.runL inn l p s)
  | 0,l,_,_,h=>by omega
  | n+1,[],p,s,h=>fun t e=>by
    simp only [SStmt.runL,Sum.inr.injEq] at e
    subst e
    exact Int.le_refl _
  | n+1,x::l,p,s,h=>by
    have hx:=x.blk_eq
    simp only [SStmt.blkL] at h
    have key:∀ t,x.run inn p s=.inr t→s.2.2+1≤t.2.2:=by
      rw [x.run_eq]
      have hB:∀ q t,Up t (SStmt.runL inn x.Body q t):=fun q t=>runL_up inn n x.Body q t (by omega)
      have hE:∀ q t,Up t (SStmt.runL inn x.Else q t):=fun q t=>runL_up inn n x.Else q t (by omega)
      intro t
      split
      · intro e; cases e
      split
      · intro e; simp only [Sum.inr.injEq] at e; subst e; exact Int.le_refl _
      split
      · intro e; simp only [Sum.inr.injEq] at e; subst e; exact Int.le_refl _
      split
      · split
        · exact hB _ _ t
        · exact hE _ _ t
      split
      · exact whil_up (fun t=>hB _ t) _ _ t
      split
      · exact whil_up (fun t=>hB _ t) _ _ t
      split
      · exact hB _ _ t
      · intro e; simp only [Sum.inr.injEq] at e; subst e; exact Int.le_refl _
    intro t e
    simp only [SStmt.runL] at e
    cases e1:x.run inn p s with
    | inl a=>rw [e1] at e; cases e
    | inr u =>
      rw [e1] at e
      have h1:=key u e1
      have h2:=runL_up inn n l _ u (by omega) t e
      omega
theorem runL_up' (inn:List Int) (l:List SStmt) (p:Int) (s:MS):Up s (SStmt.runL inn l p s):=runL_up inn _ l p s (Nat.lt_succ_self _)
structure Sh (P0 : List SPut) (n0 : Int) (s s' : MS) : Prop where
  V:s'.1=s.1
  P:s'.2.1=P0++s.2.1
  n:s'.2.2=n0+s.2.2
def ShR (P0:List SPut) (n0:Int) (r r':Int ⊕ MS):Prop:=∀ t,r=.inr t→((∃ t',r'=.inr t'∧Sh P0 n0 t t') ∨ (∃ a,r'=.inl a∧20000<n0+t.2.2))
theorem whil_sh {P0:List SPut} {n0:Int} {c:MS→Bool} {f f':MS→Int ⊕ MS} (hc:∀ s s',Sh P0 n0 s s'→c s'=c s) (hf:∀ s s',Sh P0 n0 s s'→MGood s'→ShR P0 n0 (f s) (f' s')) (hg:∀ s,MGood s→MRight (f' s)) (hu:∀ s,Up s (f s)):∀ (k:Nat) (s s':MS),Sh P0 n0 s s'→MGood s'→ShR P0 n0 (whil c f k s) (whil c f' k s')
  | 0,s,s',h,hs=>fun t e=>by
    simp only [whil,Sum.inr.injEq] at e
    subst e
    exact .inl ⟨_,rfl,h⟩
  | k+1,s,s',h,hs=>by
    intro t e
    simp only [whil] at e ⊢
    rw [hc s s' h]
    by_cases hy:c s=true
    · rw [if_pos hy] at e ⊢
      cases e1:f s with
      | inl a=>rw [e1] at e; cases e
      | inr u =>
        rw [e1] at e
        simp only at e
        rcases hf s s' h hs u e1 with ⟨u',e2,h3⟩ | ⟨a,e2,h3⟩
        · rw [e2]
          exact whil_sh hc hf hg hu k u u' h3 (hg s' hs u' e2) t e
        · rw [e2]
          have:=whil_up (c:=c) hu k u t e
          exact .inr ⟨a,rfl,by omega⟩
    · rw [if_neg hy] at e ⊢
      simp only [Sum.inr.injEq] at e
      subst e
      exact .inl ⟨_,rfl,h⟩
theorem Sh.step {P0:List SPut} {n0:Int} {s s':MS} (h:Sh P0 n0 s s'):Sh P0 n0 (s.1,s.2.1,s.2.2+1) (s'.1,s'.2.1,s'.2.2+1):=⟨h.V,h.P,by have:=h.n; simp only; omega⟩
theorem runL_sh (inn:List Int) (P0:List SPut) (n0:Int) (hn0:0≤n0):∀ (n:Nat) (l:List SStmt) (p p':Int) (s s':MS),SStmt.blkL l<n→Sh P0 n0 s s'→MGood s'→ShR P0 n0 (SStmt.runL inn l p s) (SStmt.runL inn l p' s')
  | 0,l,_,_,_,_,h,_,_=>by omega
  | n+1,[],p,p',s,s',h,hs,hg=>fun t e=>by
    simp only [SStmt.runL,Sum.inr.injEq] at e
    subst e
    exact .inl ⟨_,rfl,hs⟩
  | n+1,x::l,p,p',s,s',h,hs,hg=>by
    have hx:=x.blk_eq
    simp only [SStmt.blkL] at h
    have up:=runL_up' inn [x] p s
    have good:=runL_good' inn [x] p' s' hg
    simp only [SStmt.runL] at up good
    have key:ShR P0 n0 (x.run inn p s) (x.run inn p' s'):=by
      rw [x.run_eq inn p s,x.run_eq inn p' s']
      by_cases hn:s.2.2=20000
      · rw [if_pos hn]
        intro t e; cases e
      rw [if_neg hn]
      by_cases hn':s'.2.2=20000
      · rw [if_pos hn']
        rw [x.run_eq,if_neg hn] at up
        intro t e
        refine .inr ⟨_,rfl,?_⟩
        have h1:=hs.n
        have h2:s.2.2+1≤t.2.2:=by
          have hB:∀ q t,Up t (SStmt.runL inn x.Body q t):=fun q t=>runL_up' inn x.Body q t
          have hE:∀ q t,Up t (SStmt.runL inn x.Else q t):=fun q t=>runL_up' inn x.Else q t
          revert e
          split
          · intro e; simp only [Sum.inr.injEq] at e; subst e; exact Int.le_refl _
          split
          · intro e; simp only [Sum.inr.injEq] at e; subst e; exact Int.le_refl _
          split
          · split
            · exact hB _ _ t
            · exact hE _ _ t
          split
          · exact whil_up (fun t=>hB _ t) _ _ t
          split
          · exact whil_up (fun t=>hB _ t) _ _ t
          split
          · exact hB _ _ t
          · intro e; simp only [Sum.inr.injEq] at e; subst e; exact Int.le_refl _
        omega
      rw [if_neg hn']
      have hst:=hs.step
      have hgt:=hg.step hn'
      have hB:∀ q q' t t',Sh P0 n0 t t'→MGood t'→ShR P0 n0 (SStmt.runL inn x.Body q t) (SStmt.runL inn x.Body q' t'):=fun q q' t t' h1 h2=>runL_sh inn P0 n0 hn0 n x.Body q q' t t' (by omega) h1 h2
      have hE:∀ q q' t t',Sh P0 n0 t t'→MGood t'→ShR P0 n0 (SStmt.runL inn x.Else q t) (SStmt.runL inn x.Else q' t'):=fun q q' t t' h1 h2=>runL_sh inn P0 n0 hn0 n x.Else q q' t t' (by omega) h1 h2
      by_cases e1:x.Kind=1
      · rw [if_pos e1,if_pos e1]
        intro t e; simp only [Sum.inr.injEq] at e; subst e
        exact .inl ⟨_,rfl,⟨by simp only [hs.V],hst.P,hst.n⟩⟩
      rw [if_neg e1,if_neg e1]
      by_cases e2:x.Kind=2
      · rw [if_pos e2,if_pos e2]
        intro t e; simp only [Sum.inr.injEq] at e; subst e
        exact .inl ⟨_,rfl,⟨hst.V,by simp only [hs.V,hs.P,List.append_assoc],hst.n⟩⟩
      rw [if_neg e2,if_neg e2]
      by_cases e3:x.Kind=3
      · rw [if_pos e3,if_pos e3,hs.V]
        have hst':Sh P0 n0 (s.1,s.2.1,s.2.2+1) (s.1,s'.2.1,s'.2.2+1):=⟨rfl,hst.P,hst.n⟩
        have hgt':MGood (s.1,s'.2.1,s'.2.2+1):=by rw [← hs.V]; exact hgt
        split
        · exact hB _ _ _ _ hst' hgt'
        · exact hE _ _ _ _ hst' hgt'
      rw [if_neg e3,if_neg e3]
      by_cases e4:x.Kind=4
      · rw [if_pos e4,if_pos e4]
        exact whil_sh (fun _ _ _=>rfl) (fun t t' h1 h2=>hB _ _ t t' h1 h2) (fun t ht=>runL_good' inn x.Body _ t ht) (fun t=>runL_up' inn x.Body _ t) _ _ _ hst hgt
      rw [if_neg e4,if_neg e4]
      by_cases e5:x.Kind=5
      · rw [if_pos e5,if_pos e5]
        exact whil_sh (fun t t' h1=>by simp only [h1.V]) (fun t t' h1 h2=>hB _ _ t t' h1 h2) (fun t ht=>runL_good' inn x.Body _ t ht) (fun t=>runL_up' inn x.Body _ t) _ _ _ hst hgt
      rw [if_neg e5,if_neg e5]
      by_cases e6:x.Kind=6
      · rw [if_pos e6,if_pos e6]
        exact hB _ _ _ _ hst hgt
      · rw [if_neg e6,if_neg e6]
        intro t e; simp only [Sum.inr.injEq] at e; subst e
        exact .inl ⟨_,rfl,hst⟩
    intro t e
    simp only [SStmt.runL] at e ⊢
    cases e1:x.run inn p s with
    | inl a=>rw [e1] at e; cases e
    | inr u =>
      rw [e1] at e
      simp only at e
      rcases key u e1 with ⟨u',e2,h3⟩ | ⟨a,e2,h3⟩
      · rw [e2]
        rw [e2] at good
        exact runL_sh inn P0 n0 hn0 n l _ _ u u' (by omega) h3 (good u' rfl) t e
      · rw [e2]
        have:=runL_up' inn l _ u t e
        exact .inr ⟨a,rfl,by omega⟩
structure RunIs (K : Nat) (l : List SStmt) (V inn : List Int) (r : SEnded × SFault) : Prop where
  run:meaning_Run.f K l V inn=some r
  bad:r.2.Code ≠ 0→r.1=⟨[],[],0⟩
  ok:r.2.Code=0→okS l∧tongue_Check.f K l=some r.2∧V.length=8∧inn.length=4∧SStmt.runL inn l 0 (V,[],0)=.inr (r.1.Vars,r.1.Puts,r.1.Steps)∧MGood (r.1.Vars,r.1.Puts,r.1.Steps)
theorem Run_is (K:Nat) (hK:4194304<K) (l:List SStmt) (V inn:List Int) (hb:SStmt.blkL l≤1048576) (hV:V.length≤17592186044416) (c:SFault) (h1:tongue_Check.f K l=some c) (h1':c.Code=0→c=⟨0,0⟩) :
    ∃ r,RunIs K l V inn r∧(c.Code ≠ 0→r.2=c)∧(c.Code=0→V.length=8→inn.length=4→r.2.Code=0 ∨ (r.2.Code=11∧∃ a,SStmt.runL inn l 0 (V,[],0)=.inl a)):=by
  by_cases hc:c.Code=0
  · have ho:=Check_right K hK l hb h1 hc
    by_cases hv:(V.length:Int)=8
    · by_cases hi:(inn.length:Int)=4
      · have hi':meaning_sizes.f V inn=true:=by simp [meaning_sizes.f,hv,hi]
        have hs:MGood (V,[],0):=⟨by simp only; omega,by simp,by simp,by simp⟩
        have e1:=rlist_eq K hK inn (by omega) K l 0 (V,[],0) (by omega) hb ho hs (by omega) (by omega)
        have e1':mr_list.f K V [] 0 inn l 0=some (SStmt.runL inn l 0 (V,[],0)):=e1
        have hcl:0+V.length≤17592186044416:=by omega
        have hg:=runL_good' inn l 0 (V,[],0) hs
        cases hr:SStmt.runL inn l 0 (V,[],0) with
        | inl a=>exact ⟨(⟨[],[],0⟩,⟨11,a⟩),⟨by simp only [meaning_Run.f,h1,if_pos hc,if_pos hi',slices_Clone_int_int.f,if_pos hcl,e1',hr,meaning_Run_1_p.f],fun _=>rfl,fun h=>by cases h⟩,fun h=>absurd hc h,fun _ _ _=>.inr ⟨rfl,a,rfl⟩⟩
        | inr t =>
          rw [hr] at hg
          exact ⟨(⟨t.1,t.2.1,t.2.2⟩,⟨0,0⟩),⟨by simp only [meaning_Run.f,h1,if_pos hc,if_pos hi',slices_Clone_int_int.f,if_pos hcl,e1',hr],fun h=>absurd rfl h,fun _=>⟨ho,by rw [h1,h1' hc],by omega,by omega,hr,hg t rfl⟩⟩,fun h=>absurd hc h,fun _ _ _=>.inl rfl⟩
      · have hi':¬ meaning_sizes.f V inn=true:=by simp [meaning_sizes.f,hi]
        exact ⟨(⟨[],[],0⟩,⟨3,0⟩),⟨by simp only [meaning_Run.f,h1,if_pos hc,if_neg hi'],fun _=>rfl,fun h=>by cases h⟩,fun h=>absurd hc h,fun _ _ h=>absurd h (by omega)⟩
    · have hi':¬ meaning_sizes.f V inn=true:=by simp [meaning_sizes.f,hv]
      exact ⟨(⟨[],[],0⟩,⟨3,0⟩),⟨by simp only [meaning_Run.f,h1,if_pos hc,if_neg hi'],fun _=>rfl,fun h=>by cases h⟩,fun h=>absurd hc h,fun _ h=>absurd h (by omega)⟩
  · exact ⟨(⟨[],[],0⟩,c),⟨by simp only [meaning_Run.f,h1,if_neg hc,meaning_Run.p0],fun _=>rfl,fun h=>absurd h hc⟩,fun _=>rfl,fun h=>absurd h hc⟩
theorem flL_append:∀ (a b:List SStmt) (d:Int) (ls:List Int),SStmt.flL (a++b) d ls=SStmt.flL a d ls++SStmt.flL b d ls
  | [],b,d,ls=>by simp [SStmt.flL]
  | x::a,b,d,ls=>by simp only [List.cons_append,SStmt.flL,flL_append a b,List.append_assoc]
theorem firstW_none:∀ (l:List Sstatement) (a b:Int),firstW l a=none→firstW l b=none
  | [],_,_,_=>rfl
  | x::l,a,b,h=>by
    simp only [firstW] at h ⊢
    split at h
    · cases h
    · rename_i h1
      rw [if_neg h1]
      exact firstW_none l _ _ h
theorem firstW_ne:∀ (l:List Sstatement) (a:Int) (y:Int×Int),firstW l a=some y→y.1 ≠ 0
  | [],_,_,h=>by cases h
  | x::l,a,y,h=>by
    simp only [firstW] at h
    by_cases hw:wrongS x.s x.deep x.locks ≠ 0
    · rw [if_pos hw] at h
      have:=Option.some.inj h
      rw [← this]; exact hw
    · rw [if_neg hw] at h; exact firstW_ne l _ y h
theorem Check_is (K:Nat) (hK:4194304<K) (l:List SStmt) (hb:SStmt.blkL l≤1048576):∃ c,tongue_Check.f K l=some c∧(200<SStmt.cntL l→c.Code=2)∧(SStmt.cntL l≤200→(c.Code=0 ↔ firstW (SStmt.flL l 0 []) (-1)=none))∧(c.Code=0→c=⟨0,0⟩∧SStmt.cntL l≤200):=by
  have e1:=Count_eq K hK K l (by omega) hb
  have hc:=SStmt.cntL_le' l
  simp only [tongue_Check.f,tongue_Count.f,e1]
  by_cases h2:(SStmt.cntL l:Int) > 200
  · rw [if_pos h2]
    exact ⟨_,rfl,fun _=>rfl,fun h=>absurd h2 (by omega),fun h=>by cases h⟩
  rw [if_neg h2]
  obtain ⟨t,ht,hg⟩:=list_eq K hK K l (-1) 0 0 0 [] (by omega) hb (by omega) (.inl (by omega)) (by omega) (by omega)
  have ht':tc_list.f K (-1) 0 0 false false false false l 0=some t:=ht
  simp only [ht']
  simp only [GoodL] at hg
  refine ⟨_,rfl,fun h=>absurd h (by omega),fun _=>?_,?_⟩
  · cases hf:firstW (SStmt.flL l 0 []) (-1) with
    | some y =>
      rw [hf] at hg
      simp only at hg
      exact ⟨fun h=>absurd (hg.2.1.symm.trans h) (firstW_ne _ _ _ hf),fun h=>by cases h⟩
    | none =>
      rw [hf] at hg
      simp only at hg
      exact ⟨fun _=>rfl,fun _=>by rw [hg]⟩
  · intro h
    cases hf:firstW (SStmt.flL l 0 []) (-1) with
    | some y =>
      rw [hf] at hg
      simp only at hg
      exact absurd (hg.2.1.symm.trans h) (firstW_ne _ _ _ hf)
    | none =>
      rw [hf] at hg
      simp only at hg
      rw [hg]
      exact ⟨rfl,by omega⟩
theorem blkL_append:∀ a b:List SStmt,SStmt.blkL (a++b)=SStmt.blkL a+SStmt.blkL b
  | [],b=>by simp [SStmt.blkL]
  | x::a,b=>by simp only [List.cons_append,SStmt.blkL,blkL_append a b]; omega
theorem does_true:does.f 18446744073709551616=some true:=by kernel_rfl
theorem MeaningJoins_law (l1 l2:List SStmt) (V inn:List Int) (hl1:∀ y ∈ l1,Ok.ok y) (hb1:SStmt.blkL l1≤1048576) (hl2:∀ y ∈ l2,Ok.ok y) (hb2:SStmt.blkL l2≤1048576) (h1:∀ y ∈ V,Ok.ok y) (n1:V.length*8≤140737488351232) (h2:∀ y ∈ inn,Ok.ok y) (n2:inn.length*8≤140737488351232) (hbt:SStmt.blkL l1+SStmt.blkL l2≤1048576):∃ K,MeaningJoins.f K l1 l2 V inn=some true:=by
  refine ⟨18446744073709551616,?_⟩
  have h0:=does_true
  have hK:4194304*16<18446744073709551616:=by decide
  have hK2:17592186044416+8<18446744073709551616:=by decide
  generalize (18446744073709551616:Nat)=K at *
  have len1:=SStmt.blkL_len l1
  have len2:=SStmt.blkL_len l2
  have hbb:=blkL_append l1 l2
  obtain ⟨d1,hd1⟩:=Deep_some K (by omega) K l1 (by omega) hb1
  obtain ⟨d2,hd2⟩:=Deep_some K (by omega) K l2 (by omega) hb2
  have s1:=Size_eq K (by omega) K l1 (by omega) hb1
  have s2:=Size_eq K (by omega) K l2 (by omega) hb2
  have s3:=Size_eq K (by omega) K (l1++l2) (by omega) (by omega)
  have t1:=Twin_eq K (by omega) K l1 (by omega) hb1
  have t2:=Twin_eq K (by omega) K l2 (by omega) hb2
  obtain ⟨c1,hc1,u1,v1,w1⟩:=Check_is K (by omega) l1 hb1
  obtain ⟨c2,hc2,u2,v2,w2⟩:=Check_is K (by omega) l2 hb2
  obtain ⟨c3,hc3,u3,v3,w3⟩:=Check_is K (by omega) (l1++l2) (by omega)
  obtain ⟨r1,hr1,-,-⟩:=Run_is K (by omega) l1 V inn hb1 (by omega) c1 hc1 (fun h=>(w1 h).1)
  simp only [MeaningJoins.f,h0,if_true]
  have claim:∀ (l:List SStmt) (d:Int),ps_Deep.recs K K l=some d→pr_Size.recs K K l=some (SStmt.cntL l:Int)→∃ b,claims.f K l=some b:=fun l d e1 e2=>by
    simp only [claims.f,ps_Deep.f,e1,pr_Size.f,e2]
    split <;> exact ⟨_,rfl⟩
  obtain ⟨q1,eq1⟩:=claim l1 d1 hd1 s1
  obtain ⟨q2,eq2⟩:=claim l2 d2 hd2 s2
  have hp0:MeaningJoins.p0 K l1 l2=some (.inr true) ∨ MeaningJoins.p0 K l1 l2=some (.inl ()):=by
    simp only [MeaningJoins.p0,eq1,eq2]
    cases q1 <;> cases q2 <;> simp
  rcases hp0 with hp0 | hp0
  · rw [hp0]
  rw [hp0]
  simp only [ps_Twin.f,t1,hr1.run]
  by_cases hf1:¬ r1.2.Code=0
  · rw [if_neg hf1]
    have e:=hr1.bad hf1
    simp only [MeaningJoins.p3,e,List.length_nil]
    rfl
  replace hf1:=Decidable.not_not.1 hf1
  rw [if_pos hf1]
  obtain ⟨ok1,ck1,lv,li,run1,g1⟩:=hr1.ok hf1
  have g1V:=g1.V
  simp only at g1V
  obtain ⟨r2,hr2,-,-⟩:=Run_is K (by omega) l2 r1.1.Vars inn hb2 (by omega) c2 hc2 (fun h=>(w2 h).1)
  simp only [MeaningJoins.p1,ps_Twin.f,t2,hr2.run]
  by_cases hf2:¬ r2.2.Code=0
  · rw [if_neg hf2]
  replace hf2:=Decidable.not_not.1 hf2
  rw [if_pos hf2]
  obtain ⟨ok2,ck2,lv2,li2,run2,g2⟩:=hr2.ok hf2
  have hc1':c1=r1.2:=by rw [ck1] at hc1; exact (Option.some.inj hc1).symm
  have hc2':c2=r2.2:=by rw [ck2] at hc2; exact (Option.some.inj hc2).symm
  subst hc1' hc2'
  obtain ⟨r3,hr3,cr3,cr3'⟩:=Run_is K (by omega) (l1++l2) V inn (by omega) (by omega) c3 hc3 (fun h=>(w3 h).1)
  rw [if_pos (by omega)]
  simp only [hr3.run,pr_Size.f,s3]
  have a1:=g1.n0
  have a2:=g1.n1
  have a3:=g1.P
  have b1:=g2.n0
  have b2:=g2.n1
  have b3:=g2.P
  simp only at a1 a2 a3 b1 b2 b3
  have hw:IntKind.i64.wrap (r1.1.Steps+r2.1.Steps)=r1.1.Steps+r2.1.Steps:=w64 (by omega) (by omega)
  rw [hw]
  by_cases big:200<SStmt.cntL (l1++l2)
  · have e3:=u3 big
    have e:=cr3 (by omega)
    rw [e,if_pos e3,if_pos (by omega)]
  have cc1:=(w1 hf1).2
  have cc2:=(w2 hf2).2
  have e3:c3.Code=0:=by
    rw [v3 (by omega),flL_append,firstW_append,(v1 (by omega)).1 hf1]
    exact firstW_none _ _ _ ((v2 (by omega)).1 hf2)
  have hjoin:=runL_append inn l1 l2 0 (V,[],0)
  rw [run1] at hjoin
  simp only at hjoin
  have hsh:=runL_sh inn r1.1.Puts r1.1.Steps a1 _ l2 0 (0+(SStmt.cntL l1:Int)) (r1.1.Vars,[],0) (r1.1.Vars,r1.1.Puts,r1.1.Steps) (Nat.lt_succ_self _) ⟨rfl,by simp,by simp⟩ g1 _ run2
  rw [← hjoin] at hsh
  rcases cr3' e3 lv li with h | ⟨h,a,ha⟩
  · rw [if_neg (by omega),if_neg (by omega)]
    obtain ⟨_,_,_,_,run3,g3⟩:=hr3.ok h
    rw [run3] at hsh
    rcases hsh.symm with ⟨a,e,_⟩ | ⟨t',e,hS⟩
    · cases e
    simp only [Sum.inr.injEq] at e
    subst e
    have e1:=hS.V
    have e2:=hS.P
    have e4:=hS.n
    simp only at e1 e2 e4
    simp only [MeaningJoins.p2]
    rw [if_pos (by omega),if_pos (by omega)]
    simp only
    rw [if_pos h,e1,e2,e4,ps_Same_int_self _ K (by have:=g2.V; simp only at this; omega)]
    simp only [if_true]
    rw [ps_Same_api_Put_self _ K (by simp only [List.length_append]; omega)]
    simp
  · rw [if_neg (by omega),if_pos h,if_neg (by omega)]
    rw [ha] at hsh
    rcases hsh with ⟨t',e,hS⟩ | ⟨b,e,h9⟩
    · cases e
    · simp only at h9
      rw [decide_eq_true (by omega)]

end Go.Proofs.Ytcjphfmmmlgcbaa.GV
