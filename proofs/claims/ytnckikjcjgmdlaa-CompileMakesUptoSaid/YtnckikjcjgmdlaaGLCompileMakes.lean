/- Plain words: GvLCompileMakes. -/
import Derived.Test.YtnckikjcjgmdlaaGWCompileMakes5
import Derived.Test.YtnckikjcjgmdlaaGv17
namespace Go.Proofs.Ytnckikjcjgmdlaa.GV
open Go Go.RowKit
set_option linter.unusedVariables false
set_option linter.unusedSimpArgs false
theorem SFault.eqb_self (x : SFault) : SFault.eqb x x = true := by simp [SFault.eqb]
theorem SIns.eqb_self (x : SIns) : SIns.eqb x x = true := by simp [SIns.eqb]
theorem punctualsame_Same_api_Ins_self (l : List SIns) (K : Nat) (hK : l.length < K) : punctualsame_Same_api_Ins.f K l l = some true := by
  have hr := iter_first0 (f := punctualsame_Same_api_Ins.r0 l l) (fun _ => none) l.length (t := ()) (fun i hi => by
    have h' : (i : Int) < (l.length : Int) := by omega
    simp only [punctualsame_Same_api_Ins.r0, if_pos h', List.getElem?_eq_getElem hi, if_true, SIns.eqb_self, onward]) (by
    have h' : ¬ (l.length : Int) < (l.length : Int) := by omega
    simp only [punctualsame_Same_api_Ins.r0, if_neg h']) hK
  rw [firstOf_none_of (fun _ _ _ => rfl)] at hr
  simp only [punctualsame_Same_api_Ins.f, if_true, hr, leave]
/-- a loop over a row, entry by entry -/
theorem iter_rows {α σ τ ρ : Type} {f : τ → Option (τ ⊕ ρ)} (st : σ → Nat → τ) (l : List α) (I : List α → σ → Prop) (R : List α → σ → ρ → Prop)
    (hn : ∀ s, I [] s → ∃ r, f (st s l.length) = some (.inr r) ∧ R [] s r)
    (hc : ∀ a r s i, l[i]? = some a → i + r.length + 1 = l.length → I (a :: r) s → (∃ s', f (st s i) = some (.inl (st s' (i + 1))) ∧ I r s' ∧ ∀ x, R r s' x → R (a :: r) s x) ∨ ∃ x, f (st s i) = some (.inr x) ∧ R (a :: r) s x)
    {s : σ} (h : I l s) {K : Nat} (hK : l.length < K) : ∃ x, iter f K (st s 0) = some x ∧ R l s x := by
  have key : ∀ (r : List α) (i : Nat), l.drop i = r → i + r.length = l.length → ∀ (K : Nat), r.length < K → ∀ s, I r s → ∃ x, iter f K (st s i) = some x ∧ R r s x := by
    intro r
    induction r with
    | nil =>
      intro i _ hi K hK s hs
      obtain ⟨K, rfl⟩ : ∃ k, K = k + 1 := ⟨K - 1, by omega⟩
      obtain ⟨x, hx, hR⟩ := hn s hs
      have : i = l.length := by simpa using hi
      subst this
      exact ⟨x, by simp only [iter, hx], hR⟩
    | cons a r ih =>
      intro i hd hi K hK s hs
      obtain ⟨K, rfl⟩ : ∃ k, K = k + 1 := ⟨K - 1, by omega⟩
      simp only [List.length_cons] at hi hK
      have hlt : i < l.length := by omega
      have hd' := hd
      rw [List.drop_eq_getElem_cons hlt] at hd'
      injection hd' with h1 h2
      have hg : l[i]? = some a := by rw [List.getElem?_eq_getElem hlt, h1]
      rcases hc a r s i hg (by omega) hs with ⟨s', e, hI, hR⟩ | ⟨x, e, hR⟩
      · obtain ⟨x, hx, hx'⟩ := ih (i + 1) h2 (by omega) K (by omega) s' hI
        exact ⟨x, by simp only [iter, e]; exact hx, hR x hx'⟩
      · exact ⟨x, by simp only [iter, e], hR⟩
  exact key l 0 rfl (by simp) K hK s h
theorem mem_of_at {α : Type} {l : List α} {i : Nat} {a : α} (h : l[i]? = some a) : a ∈ l := List.mem_of_getElem? h

theorem SExpr.blk_eq (x : SExpr) : x.blk = 1 + SExpr.blkL x.A := by cases x; simp only [SExpr.blk]
theorem SExpr.eta (a : SExpr) : (⟨a.Kind, a.N, a.A⟩ : SExpr) = a := by cases a; rfl
theorem SStmt.eta (a : SStmt) : (⟨a.Kind, a.N, a.E, ⟨a.If.Kind, a.If.A, a.If.B⟩, a.Body, a.Else⟩ : SStmt) = a := by cases a; rfl
theorem SExpr.blkL_mem {x : SExpr} : ∀ {l : List SExpr}, x ∈ l → x.blk ≤ SExpr.blkL l
  | [], h => by simp at h
  | y :: l, h => by
    simp only [SExpr.blkL]
    rcases List.mem_cons.1 h with rfl | h
    · omega
    · have := SExpr.blkL_mem h; omega
theorem SExpr.blkL_len : ∀ l : List SExpr, l.length ≤ SExpr.blkL l
  | [] => by simp
  | y :: l => by
    have := SExpr.blkL_len l
    have := y.blk_eq
    simp only [SExpr.blkL, List.length_cons]; omega
theorem SStmt.blk_eq (x : SStmt) : x.blk = 1 + SExpr.blkL x.E.A + SExpr.blkL x.If.A.A + SExpr.blkL x.If.B.A + SStmt.blkL x.Body + SStmt.blkL x.Else := by
  rcases x with ⟨_, _, ⟨_, _, _⟩, ⟨_, ⟨_, _, _⟩, ⟨_, _, _⟩⟩, _, _⟩; simp only [SStmt.blk]
theorem SStmt.blkL_mem {x : SStmt} : ∀ {l : List SStmt}, x ∈ l → x.blk ≤ SStmt.blkL l
  | [], h => by simp at h
  | y :: l, h => by
    simp only [SStmt.blkL]
    rcases List.mem_cons.1 h with rfl | h
    · omega
    · have := SStmt.blkL_mem h; omega
theorem SStmt.blkL_len : ∀ l : List SStmt, l.length ≤ SStmt.blkL l
  | [] => by simp
  | y :: l => by
    have := SStmt.blkL_len l
    have := y.blk_eq
    simp only [SStmt.blkL, List.length_cons]; omega
mutual
def SStmt.cnt : SStmt → Nat
  | ⟨_, _, _, _, b, l⟩ => 1 + SStmt.cntL b + SStmt.cntL l
def SStmt.cntL : List SStmt → Nat
  | [] => 0
  | x :: l => x.cnt + SStmt.cntL l
end
theorem SStmt.cnt_eq (x : SStmt) : x.cnt = 1 + SStmt.cntL x.Body + SStmt.cntL x.Else := by cases x; simp only [SStmt.cnt]
theorem SStmt.cntL_le : ∀ (n : Nat) (l : List SStmt), SStmt.blkL l < n → SStmt.cntL l ≤ SStmt.blkL l
  | 0, l, h => by omega
  | n + 1, [], h => by simp [SStmt.cntL]
  | n + 1, x :: l, h => by
    have h1 := x.blk_eq
    have h2 := x.cnt_eq
    simp only [SStmt.blkL] at h
    have h3 := SStmt.cntL_le n x.Body (by omega)
    have h4 := SStmt.cntL_le n x.Else (by omega)
    have h5 := SStmt.cntL_le n l (by omega)
    simp only [SStmt.blkL, SStmt.cntL]
    omega
theorem SStmt.cntL_le' (l : List SStmt) : SStmt.cntL l ≤ SStmt.blkL l := SStmt.cntL_le _ l (Nat.lt_succ_self _)
theorem w64 {n : Int} (h1 : 0 ≤ n) (h2 : n ≤ 4294967296) : IntKind.i64.wrap n = n := wrap64_small (by omega) (by omega)
theorem Count_eq (K : Nat) (hK : 4194304 < K) : ∀ (n : Nat) (l : List SStmt), SStmt.blkL l < n → SStmt.blkL l ≤ 1048576 → tongue_Count.recs K n l = some (SStmt.cntL l : Int)
  | 0, l, h, _ => by omega
  | n + 1, l, h, hb => by
    have hlen := SStmt.blkL_len l
    have hcl := SStmt.cntL_le' l
    obtain ⟨x, hx, hR⟩ := iter_rows (f := tongue_Count.r0 l (tongue_Count.recs K n)) (fun z i => (z, i)) l (fun r s => ∃ c : Nat, s = (c : Int) ∧ c + SStmt.cntL r = SStmt.cntL l) (fun r s x => x = .inl (s + (SStmt.cntL r : Int)))
      (fun s hs => by
        refine ⟨.inl s, ?_, by simp [SStmt.cntL]⟩
        simp only [tongue_Count.r0, Int.lt_irrefl, if_false])
      (fun a r s i ha hi hs => by
        left
        obtain ⟨c, rfl, hc⟩ := hs
        have h1 := SStmt.blkL_mem (mem_of_at ha)
        have h2 := a.blk_eq
        have h3 := a.cnt_eq
        simp only [SStmt.cntL] at hc
        have e1 := Count_eq K hK n a.Body (by omega) (by omega)
        have e2 := Count_eq K hK n a.Else (by omega) (by omega)
        have hi' : (i : Int) < (l.length : Int) := by omega
        refine ⟨((c + a.cnt : Nat) : Int), ?_, ⟨_, rfl, by omega⟩, fun x hx => ?_⟩
        · simp only [tongue_Count.r0, if_pos hi', ha, e1, e2]
          rw [w64 (n := 1 + (SStmt.cntL a.Body : Int)) (by omega) (by omega), w64 (n := 1 + (SStmt.cntL a.Body : Int) + (SStmt.cntL a.Else : Int)) (by omega) (by omega), w64 (by omega) (by omega)]
          congr 4
          omega
        · subst hx
          simp only [SStmt.cntL, Sum.inl.injEq]
          omega)
      (s := (0 : Int)) ⟨0, rfl, by simp⟩ (K := K) (by omega)
    subst hR
    show tongue_Count.b K (tongue_Count.recs K n) l = _
    simp only [tongue_Count.b, hx]
    congr 1; omega
theorem Size_eq (K : Nat) (hK : 4194304 < K) : ∀ (n : Nat) (l : List SStmt), SStmt.blkL l < n → SStmt.blkL l ≤ 1048576 → punctualref_Size.recs K n l = some (SStmt.cntL l : Int)
  | 0, l, h, _ => by omega
  | n + 1, l, h, hb => by
    have hlen := SStmt.blkL_len l
    have hcl := SStmt.cntL_le' l
    obtain ⟨x, hx, hR⟩ := iter_rows (f := punctualref_Size.r0 l (punctualref_Size.recs K n)) (fun z i => (z, i)) l (fun r s => ∃ c : Nat, s = (c : Int) ∧ c + SStmt.cntL r = SStmt.cntL l) (fun r s x => x = .inl (s + (SStmt.cntL r : Int)))
      (fun s hs => by
        refine ⟨.inl s, ?_, by simp [SStmt.cntL]⟩
        simp only [punctualref_Size.r0, Int.lt_irrefl, if_false])
      (fun a r s i ha hi hs => by
        left
        obtain ⟨c, rfl, hc⟩ := hs
        have h1 := SStmt.blkL_mem (mem_of_at ha)
        have h2 := a.blk_eq
        have h3 := a.cnt_eq
        simp only [SStmt.cntL] at hc
        have e1 := Size_eq K hK n a.Body (by omega) (by omega)
        have e2 := Size_eq K hK n a.Else (by omega) (by omega)
        have hi' : (i : Int) < (l.length : Int) := by omega
        refine ⟨((c + a.cnt : Nat) : Int), ?_, ⟨_, rfl, by omega⟩, fun x hx => ?_⟩
        · simp only [punctualref_Size.r0, if_pos hi', ha, e1, e2]
          rw [w64 (n := (c : Int) + 1) (by omega) (by omega), w64 (n := (c : Int) + 1 + (SStmt.cntL a.Body : Int)) (by omega) (by omega), w64 (by omega) (by omega)]
          congr 4
          omega
        · subst hx
          simp only [SStmt.cntL, Sum.inl.injEq]
          omega)
      (s := (0 : Int)) ⟨0, rfl, by simp⟩ (K := K) (by omega)
    subst hR
    show punctualref_Size.b K (punctualref_Size.recs K n) l = _
    simp only [punctualref_Size.b, hx]
    congr 1; omega
theorem deepExpr_some (K : Nat) (hK : 4194304 < K) : ∀ (n : Nat) (k m : Int) (l : List SExpr), SExpr.blkL l < n → SExpr.blkL l ≤ 1048576 → ∃ r, punctualsame_deepExpr.recs K n k m l = some r
  | 0, _, _, l, h, _ => by omega
  | n + 1, k, m, l, h, hb => by
    have hlen := SExpr.blkL_len l
    obtain ⟨x, hx, ⟨z, rfl⟩⟩ := iter_rows (f := punctualsame_deepExpr.r0 l (punctualsame_deepExpr.recs K n)) (fun z i => (z, i)) l (fun r s => True) (fun r s x => ∃ z, x = .inl z)
      (fun s hs => by
        refine ⟨.inl s, ?_, _, rfl⟩
        simp only [punctualsame_deepExpr.r0, Int.lt_irrefl, if_false])
      (fun a r s i ha hi hs => by
        left
        have h1 := SExpr.blkL_mem (mem_of_at ha)
        have h2 := a.blk_eq
        obtain ⟨x, e⟩ := deepExpr_some K hK n a.Kind a.N a.A (by omega) (by omega)
        have hi' : (i : Int) < (l.length : Int) := by omega
        exact ⟨_, by simp only [punctualsame_deepExpr.r0, if_pos hi', ha, e]; rfl, trivial, fun x hx => hx⟩)
      (s := (1 : Int)) trivial (K := K) (by omega)
    exact ⟨z, by show punctualsame_deepExpr.b K (punctualsame_deepExpr.recs K n) k m l = _; simp only [punctualsame_deepExpr.b, hx]⟩
theorem Deep_some (K : Nat) (hK : 4194304 < K) : ∀ (n : Nat) (l : List SStmt), SStmt.blkL l < n → SStmt.blkL l ≤ 1048576 → ∃ r, punctualsame_Deep.recs K n l = some r
  | 0, l, h, _ => by omega
  | n + 1, l, h, hb => by
    have hlen := SStmt.blkL_len l
    obtain ⟨x, hx, ⟨z, rfl⟩⟩ := iter_rows (f := punctualsame_Deep.r0 K l (punctualsame_Deep.recs K n)) (fun z i => (z, i)) l (fun r s => True) (fun r s x => ∃ z, x = .inl z)
      (fun s hs => by
        refine ⟨.inl s, ?_, _, rfl⟩
        simp only [punctualsame_Deep.r0, Int.lt_irrefl, if_false])
      (fun a r s i ha hi hs => by
        left
        have h1 := SStmt.blkL_mem (mem_of_at ha)
        have h2 := a.blk_eq
        obtain ⟨x1, e1⟩ := Deep_some K hK n a.Body (by omega) (by omega)
        obtain ⟨x2, e2⟩ := Deep_some K hK n a.Else (by omega) (by omega)
        obtain ⟨x3, e3⟩ := deepExpr_some K hK K a.E.Kind a.E.N a.E.A (by omega) (by omega)
        obtain ⟨x4, e4⟩ := deepExpr_some K hK K a.If.A.Kind a.If.A.N a.If.A.A (by omega) (by omega)
        obtain ⟨x5, e5⟩ := deepExpr_some K hK K a.If.B.Kind a.If.B.N a.If.B.A (by omega) (by omega)
        have hi' : (i : Int) < (l.length : Int) := by omega
        exact ⟨_, by simp only [punctualsame_Deep.r0, if_pos hi', ha, e1, e2, punctualsame_deepExpr.f, e3, e4, e5]; rfl, trivial, fun x hx => hx⟩)
      (s := (0 : Int)) trivial (K := K) (by omega)
    exact ⟨z, by show punctualsame_Deep.b K (punctualsame_Deep.recs K n) l = _; simp only [punctualsame_Deep.b, hx]⟩
theorem twinExpr_eq (K : Nat) (hK : 4194304 < K) : ∀ (n : Nat) (k m : Int) (l : List SExpr), SExpr.blkL l < n → SExpr.blkL l ≤ 1048576 → punctualsame_twinExpr.recs K n k m l = some ⟨k, m, l⟩
  | 0, _, _, l, h, _ => by omega
  | n + 1, k, m, l, h, hb => by
    have hlen := SExpr.blkL_len l
    obtain ⟨x, hx, hR⟩ := iter_rows (f := punctualsame_twinExpr.r0 l (punctualsame_twinExpr.recs K n)) (fun z i => (z, i)) l (fun r s => s ++ r = l) (fun r s x => x = .inl (s ++ r))
      (fun s hs => by
        refine ⟨.inl s, ?_, by simp⟩
        simp only [punctualsame_twinExpr.r0, Int.lt_irrefl, if_false])
      (fun a r s i ha hi hs => by
        left
        have h1 := SExpr.blkL_mem (mem_of_at ha)
        have h2 := a.blk_eq
        have e := twinExpr_eq K hK n a.Kind a.N a.A (by omega) (by omega)
        have hi' : (i : Int) < (l.length : Int) := by omega
        have hsl : s.length < 3518437208883 := by
          have := congrArg List.length hs
          simp only [List.length_append] at this
          omega
        exact ⟨s ++ [a], by simp only [punctualsame_twinExpr.r0, if_pos hi', ha, e, if_pos hsl, SExpr.eta], by simpa using hs, fun x hx => by simpa using hx⟩)
      (s := ([] : List SExpr)) rfl (K := K) (by omega)
    subst hR
    show punctualsame_twinExpr.b K (punctualsame_twinExpr.recs K n) k m l = _
    simp only [punctualsame_twinExpr.b, hx, List.nil_append]
theorem Twin_eq (K : Nat) (hK : 4194304 < K) : ∀ (n : Nat) (l : List SStmt), SStmt.blkL l < n → SStmt.blkL l ≤ 1048576 → punctualsame_Twin.recs K n l = some l
  | 0, l, h, _ => by omega
  | n + 1, l, h, hb => by
    have hlen := SStmt.blkL_len l
    obtain ⟨x, hx, hR⟩ := iter_rows (f := punctualsame_Twin.r0 K l (punctualsame_Twin.recs K n)) (fun z i => (z, i)) l (fun r s => s ++ r = l) (fun r s x => x = .inl (s ++ r))
      (fun s hs => by
        refine ⟨.inl s, ?_, by simp⟩
        simp only [punctualsame_Twin.r0, Int.lt_irrefl, if_false])
      (fun a r s i ha hi hs => by
        left
        have h1 := SStmt.blkL_mem (mem_of_at ha)
        have h2 := a.blk_eq
        have e1 := Twin_eq K hK n a.Body (by omega) (by omega)
        have e2 := Twin_eq K hK n a.Else (by omega) (by omega)
        have e3 := twinExpr_eq K hK K a.E.Kind a.E.N a.E.A (by omega) (by omega)
        have e4 := twinExpr_eq K hK K a.If.A.Kind a.If.A.N a.If.A.A (by omega) (by omega)
        have e5 := twinExpr_eq K hK K a.If.B.Kind a.If.B.N a.If.B.A (by omega) (by omega)
        have hi' : (i : Int) < (l.length : Int) := by omega
        have hsl : s.length < 733007751850 := by
          have := congrArg List.length hs
          simp only [List.length_append] at this
          omega
        exact ⟨s ++ [a], by simp only [punctualsame_Twin.r0, if_pos hi', ha, punctualsame_Twin.p1, punctualsame_twinExpr.f, e1, e2, e3, e4, e5, if_pos hsl, SExpr.eta]; rw [SStmt.eta], by simpa using hs, fun x hx => by simpa using hx⟩)
      (s := ([] : List SStmt)) rfl (K := K) (by omega)
    subst hR
    show punctualsame_Twin.b K (punctualsame_Twin.recs K n) l = _
    simp only [punctualsame_Twin.b, hx, List.nil_append]
theorem Exprs_self (K : Nat) (hK : 4194304 < K) : ∀ (n : Nat) (k m : Int) (l : List SExpr), SExpr.blkL l < n → SExpr.blkL l ≤ 1048576 → punctualsame_Exprs.recs K n k m l k m l = some true
  | 0, _, _, l, h, _ => by omega
  | n + 1, k, m, l, h, hb => by
    have hlen := SExpr.blkL_len l
    obtain ⟨x, hx, hR⟩ := iter_rows (f := punctualsame_Exprs.r1 l l (punctualsame_Exprs.recs K n)) (fun _ i => i) l (fun r s => True) (fun r s x => x = .inl ())
      (fun s hs => by
        refine ⟨.inl (), ?_, rfl⟩
        simp only [punctualsame_Exprs.r1, Int.lt_irrefl, if_false])
      (fun a r s i ha hi hs => by
        left
        have h1 := SExpr.blkL_mem (mem_of_at ha)
        have h2 := a.blk_eq
        have e := Exprs_self K hK n a.Kind a.N a.A (by omega) (by omega)
        have hi' : (i : Int) < (l.length : Int) := by omega
        exact ⟨(), by simp only [punctualsame_Exprs.r1, if_pos hi', ha, e, if_true], trivial, fun x hx => hx⟩)
      (s := ()) trivial (K := K) (by omega)
    subst hR
    show punctualsame_Exprs.b K (punctualsame_Exprs.recs K n) k m l k m l = _
    simp only [punctualsame_Exprs.b, punctualsame_Exprs.p0, if_true, hx]
theorem Bodies_self (K : Nat) (hK : 4194304 < K) : ∀ (n : Nat) (l : List SStmt), SStmt.blkL l < n → SStmt.blkL l ≤ 1048576 → punctualsame_Bodies.recs K n l l = some true
  | 0, l, h, _ => by omega
  | n + 1, l, h, hb => by
    have hlen := SStmt.blkL_len l
    obtain ⟨x, hx, hR⟩ := iter_rows (f := punctualsame_Bodies.r0 K l l (punctualsame_Bodies.recs K n)) (fun _ i => i) l (fun r s => True) (fun r s x => x = .inl ())
      (fun s hs => by
        refine ⟨.inl (), ?_, rfl⟩
        simp only [punctualsame_Bodies.r0, Int.lt_irrefl, if_false])
      (fun a r s i ha hi hs => by
        left
        have h1 := SStmt.blkL_mem (mem_of_at ha)
        have h2 := a.blk_eq
        have e1 := Bodies_self K hK n a.Body (by omega) (by omega)
        have e2 := Bodies_self K hK n a.Else (by omega) (by omega)
        have e3 := Exprs_self K hK K a.E.Kind a.E.N a.E.A (by omega) (by omega)
        have e4 := Exprs_self K hK K a.If.A.Kind a.If.A.N a.If.A.A (by omega) (by omega)
        have e5 := Exprs_self K hK K a.If.B.Kind a.If.B.N a.If.B.A (by omega) (by omega)
        have hi' : (i : Int) < (l.length : Int) := by omega
        exact ⟨(), by simp only [punctualsame_Bodies.r0, if_pos hi', ha, punctualsame_Exprs.f, e1, e2, e3, e4, e5, if_true], trivial, fun x hx => hx⟩)
      (s := ()) trivial (K := K) (by omega)
    subst hR
    show punctualsame_Bodies.b K (punctualsame_Bodies.recs K n) l l = _
    simp only [punctualsame_Bodies.b, if_true, hx]

mutual
def SExpr.nds : SExpr → List SExpr
  | ⟨k, n, a⟩ => ⟨k, n, a⟩ :: SExpr.ndsL a
def SExpr.ndsL : List SExpr → List SExpr
  | [] => []
  | x :: l => x.nds ++ SExpr.ndsL l
end
theorem SExpr.nds_eq (x : SExpr) : x.nds = x :: SExpr.ndsL x.A := by cases x; simp only [SExpr.nds]
theorem SExpr.ndsL_len : ∀ (n : Nat) (l : List SExpr), SExpr.blkL l < n → (SExpr.ndsL l).length = SExpr.blkL l
  | 0, l, h => by omega
  | n + 1, [], h => by simp [SExpr.ndsL, SExpr.blkL]
  | n + 1, x :: l, h => by
    have h1 := x.blk_eq
    simp only [SExpr.blkL] at h
    have h3 := SExpr.ndsL_len n x.A (by omega)
    have h5 := SExpr.ndsL_len n l (by omega)
    simp only [SExpr.blkL, SExpr.ndsL, List.length_append, x.nds_eq, List.length_cons]
    omega
theorem SExpr.nds_len (x : SExpr) : x.nds.length = x.blk := by rw [x.nds_eq, List.length_cons, SExpr.ndsL_len _ x.A (Nat.lt_succ_self _), x.blk_eq]; omega
/-- what is wrong with a node of its own -/
def badE (x : SExpr) : Int :=
  if x.Kind < 1 ∨ x.Kind > 7 then 6
  else if (x.A.length : Int) ≠ (if x.Kind ≤ 3 then 0 else if x.Kind = 4 then 1 else 2) then 6
  else if x.N < 0 ∨ x.N > (if x.Kind = 1 then 999999999 else if x.Kind = 2 then 7 else if x.Kind = 3 then 3 else 0) then 3
  else 0
/-- node by node, with so many left -/
def scanE : List SExpr → Int → Int × Int
  | [], z => (0, z)
  | x :: l, z => if z - 1 < 0 then (2, z - 1) else if badE x = 0 then scanE l (z - 1) else (badE x, z - 1)
theorem scanE_append : ∀ (a b : List SExpr) (z : Int), scanE (a ++ b) z = if (scanE a z).1 = 0 then scanE b (scanE a z).2 else scanE a z
  | [], b, z => by simp [scanE]
  | x :: a, b, z => by
    simp only [List.cons_append, scanE]
    by_cases h : z - 1 < 0
    · simp [h]
    · by_cases h2 : badE x = 0
      · simp only [if_neg h, if_pos h2]; exact scanE_append a b (z - 1)
      · simp [h, h2]
theorem scanE_range : ∀ (l : List SExpr) (z : Int), 0 ≤ z → z ≤ 30 → (-1 ≤ (scanE l z).2 ∧ (scanE l z).2 ≤ 30) ∧ ((scanE l z).1 = 0 → 0 ≤ (scanE l z).2)
  | [], z, h0, h1 => by simp only [scanE]; omega
  | x :: l, z, h0, h1 => by
    simp only [scanE]
    by_cases h : z - 1 < 0
    · simp only [if_pos h]; omega
    · by_cases h2 : badE x = 0
      · simp only [if_neg h, if_pos h2]; exact scanE_range l (z - 1) (by omega) (by omega)
      · simp only [if_neg h, if_neg h2]; exact ⟨by omega, fun h => absurd h h2⟩
theorem expr_head (k m : Int) (l : List SExpr) (z : Int) : (if (tongue_arity.f k) = (l.length : Int) then tongue_expr.p0 k m z else some (.inr (6, IntKind.i64.wrap (z - 1)))) = some (if badE ⟨k, m, l⟩ = 0 then .inl () else .inr (badE ⟨k, m, l⟩, IntKind.i64.wrap (z - 1))) := by
  by_cases hr : k < 1 ∨ k > 7
  · have h1 : tongue_arity.f k = -1 := by
      simp only [tongue_arity.f]
      rw [if_neg (by omega), if_neg (by omega), if_neg (by omega), if_neg (by omega), if_neg (by omega), if_neg (by omega), if_neg (by omega)]
    rw [h1, if_neg (by omega)]
    simp [badE, hr]
  · have hb : badE ⟨k, m, l⟩ = if (l.length : Int) ≠ (if k ≤ 3 then 0 else if k = 4 then 1 else 2) then 6
        else if m < 0 ∨ m > (if k = 1 then 999999999 else if k = 2 then 7 else if k = 3 then 3 else 0) then 3 else 0 := by
      simp only [badE, if_neg hr]
    rw [hb]
    have hk : k = 1 ∨ k = 2 ∨ k = 3 ∨ k = 4 ∨ k = 5 ∨ k = 6 ∨ k = 7 := by omega
    have key : ∀ A : Int, (if tongue_arity.f k = (l.length : Int) then tongue_expr.p0 k m z else some (.inr (6, IntKind.i64.wrap (z - 1)))) = some (if (if (l.length : Int) ≠ (if k ≤ 3 then 0 else if k = 4 then 1 else 2) then (6 : Int)
        else if m < 0 ∨ m > (if k = 1 then 999999999 else if k = 2 then 7 else if k = 3 then 3 else 0) then 3 else 0) = 0 then .inl () else .inr ((if (l.length : Int) ≠ (if k ≤ 3 then 0 else if k = 4 then 1 else 2) then (6 : Int)
        else if m < 0 ∨ m > (if k = 1 then 999999999 else if k = 2 then 7 else if k = 3 then 3 else 0) then 3 else 0), IntKind.i64.wrap (z - 1))) := by
      intro _
      have ha : tongue_arity.f k = (if k ≤ 3 then 0 else if k = 4 then 1 else 2) := by
        rcases hk with rfl | rfl | rfl | rfl | rfl | rfl | rfl <;> rfl
      rw [ha]
      by_cases hl : (if k ≤ 3 then 0 else if k = 4 then 1 else 2) = (l.length : Int)
      · have hne : ¬ ((l.length : Int) ≠ (if k ≤ 3 then 0 else if k = 4 then 1 else 2)) := fun h => h hl.symm
        simp only [if_neg hne]
        rw [if_pos hl]
        have hp : tongue_expr.p0 k m z = if m < 0 ∨ m > (if k = 1 then 999999999 else if k = 2 then 7 else if k = 3 then 3 else 0) then some (.inr (3, IntKind.i64.wrap (z - 1))) else some (.inl ()) := by
          clear ha hl hb hr
          rcases hk with rfl | rfl | rfl | rfl | rfl | rfl | rfl <;>
            simp only [tongue_expr.p0, tongue_expr.p1, tongue_expr.p2, Int.reduceEq, Int.reduceLE, Int.reduceGT, Int.reduceNe, if_true, if_false, ne_eq] <;>
            (by_cases g1 : m < 0 <;> by_cases g2 : m > 999999999 <;> by_cases g3 : m > 7 <;> by_cases g4 : m > 3 <;> by_cases g5 : m = 0 <;> (try omega) <;> simp [g1, g2, g3, g4, g5] <;> omega)
        rw [hp]
        by_cases hm : m < 0 ∨ m > (if k = 1 then 999999999 else if k = 2 then 7 else if k = 3 then 3 else 0)
        · simp only [if_pos hm]; rfl
        · simp only [if_neg hm, if_true]
      · simp only [if_pos (show (l.length : Int) ≠ (if k ≤ 3 then 0 else if k = 4 then 1 else 2) from fun h => hl h.symm)]
        rw [if_neg hl]; rfl
    exact key 0
theorem expr_eq (K : Nat) (hK : 4194304 < K) : ∀ (n : Nat) (k m : Int) (l : List SExpr) (z : Int), SExpr.blkL l < n → SExpr.blkL l ≤ 1048576 → 0 ≤ z → z ≤ 30 → tongue_expr.recs K n k m l z = some (scanE (⟨k, m, l⟩ :: SExpr.ndsL l) z)
  | 0, _, _, l, _, h, _, _, _ => by omega
  | n + 1, k, m, l, z, h, hb, hz0, hz1 => by
    have hlen := SExpr.blkL_len l
    have hw : IntKind.i64.wrap (z - 1) = z - 1 := wrap64_small (by omega) (by omega)
    show tongue_expr.b K (tongue_expr.recs K n) k m l z = _
    have hh := expr_head k m l z
    simp only [hw] at hh
    simp only [tongue_expr.b, scanE, hw]
    by_cases h0 : z - 1 < 0
    · simp only [if_pos h0]
    simp only [if_neg h0]
    by_cases ha : tongue_arity.f k = (l.length : Int)
    · rw [if_pos ha] at hh ⊢
      rw [hh]
      by_cases hb' : badE ⟨k, m, l⟩ = 0
      · simp only [if_pos hb']
        obtain ⟨x, hx, hR⟩ := iter_rows (f := tongue_expr.r3 l (tongue_expr.recs K n)) (fun z i => (i, z)) l (fun r s => 0 ≤ s ∧ s ≤ 30) (fun r s x => x = if (scanE (SExpr.ndsL r) s).1 = 0 then .inl (scanE (SExpr.ndsL r) s).2 else .inr (scanE (SExpr.ndsL r) s))
          (fun s hs => by
            refine ⟨.inl s, ?_, by simp [SExpr.ndsL, scanE]⟩
            simp only [tongue_expr.r3, Int.lt_irrefl, if_false])
          (fun a r s i ha hi hs => by
            have h1 := SExpr.blkL_mem (mem_of_at ha)
            have h2 := a.blk_eq
            have e := expr_eq K hK n a.Kind a.N a.A s (by omega) (by omega) hs.1 hs.2
            rw [SExpr.eta, ← a.nds_eq] at e
            have hi' : (i : Int) < (l.length : Int) := by omega
            have hr := scanE_range a.nds s hs.1 hs.2
            by_cases hc : (scanE a.nds s).1 = 0
            · left
              refine ⟨(scanE a.nds s).2, by simp only [tongue_expr.r3, if_pos hi', ha, e, if_pos hc], ⟨hr.2 hc, hr.1.2⟩, fun x hx => ?_⟩
              rw [hx]
              simp only [SExpr.ndsL, scanE_append, if_pos hc]
            · right
              refine ⟨_, by simp only [tongue_expr.r3, if_pos hi', ha, e, if_neg hc]; rfl, ?_⟩
              simp only [SExpr.ndsL, scanE_append, if_neg hc])
          (s := z - 1) ⟨by omega, by omega⟩ (K := K) (by omega)
        rw [hx, hR]
        by_cases hc : (scanE (SExpr.ndsL l) (z - 1)).1 = 0
        · simp only [if_pos hc]
          rw [← hc]
        · simp only [if_neg hc]
      · simp only [if_neg hb']
    · rw [if_neg ha] at hh ⊢
      injection hh with hh
      by_cases hb' : badE ⟨k, m, l⟩ = 0
      · rw [if_pos hb'] at hh; cases hh
      · rw [if_neg hb'] at hh ⊢
        injection hh with hh
        rw [hh]
theorem expr_f (K : Nat) (hK : 4194304 < K) (x : SExpr) (hb : x.blk ≤ 1048576) : tongue_expr.f K x.Kind x.N x.A 30 = some (scanE x.nds 30) := by
  have h := x.blk_eq
  rw [tongue_expr.f, expr_eq K hK K x.Kind x.N x.A 30 (by omega) (by omega) (by omega) (by omega), SExpr.eta, ← x.nds_eq]
/-- the reference: the nodes, so many at the most -/
theorem nodes_eq (K : Nat) (hK : 4194304 < K) : ∀ (n : Nat) (k m : Int) (l : List SExpr), SExpr.blkL l < n → SExpr.blkL l ≤ 1048576 → ∃ r, punctualref_nodes.recs K n k m l 31 = some r ∧ r <+: (⟨k, m, l⟩ :: SExpr.ndsL l) ∧ (r = (⟨k, m, l⟩ :: SExpr.ndsL l) ∨ 31 < r.length)
  | 0, _, _, l, h, _ => by omega
  | n + 1, k, m, l, h, hb => by
    have hlen := SExpr.blkL_len l
    have hnl := SExpr.ndsL_len _ l (Nat.lt_succ_self _)
    show ∃ r, punctualref_nodes.b K (punctualref_nodes.recs K n) k m l 31 = some r ∧ _
    obtain ⟨x, hx, hR⟩ := iter_rows (f := punctualref_nodes.r0 l 31 (punctualref_nodes.recs K n)) (fun z i => (z, i)) l
      (fun r s => (s ++ SExpr.ndsL r = (⟨k, m, l⟩ :: SExpr.ndsL l)) ∨ (s <+: (⟨k, m, l⟩ :: SExpr.ndsL l) ∧ 31 < s.length))
      (fun r s x => ∃ y, (x = .inl y ∨ x = .inr y) ∧ y <+: (⟨k, m, l⟩ :: SExpr.ndsL l) ∧ (y = (⟨k, m, l⟩ :: SExpr.ndsL l) ∨ 31 < y.length))
      (fun s hs => by
        refine ⟨.inl s, by simp only [punctualref_nodes.r0, Int.lt_irrefl, if_false], s, .inl rfl, ?_⟩
        rcases hs with hs | hs
        · simp only [SExpr.ndsL, List.append_nil] at hs
          rw [hs]
          exact ⟨List.prefix_refl _, .inl rfl⟩
        · exact ⟨hs.1, .inr hs.2⟩)
      (fun a r s i ha hi hs => by
        have h1 := SExpr.blkL_mem (mem_of_at ha)
        have h2 := a.blk_eq
        have hi' : (i : Int) < (l.length : Int) := by omega
        by_cases hs31 : (s.length : Int) > 31
        · right
          refine ⟨.inr s, by simp only [punctualref_nodes.r0, if_pos hi', ha, if_pos hs31], s, .inr rfl, ?_⟩
          rcases hs with hs | hs
          · exact ⟨⟨_, hs⟩, .inr (by omega)⟩
          · exact ⟨hs.1, .inr hs.2⟩
        · rcases hs with hs | hs
          · left
            obtain ⟨y, e, hp, hf⟩ := nodes_eq K hK n a.Kind a.N a.A (by omega) (by omega)
            rw [SExpr.eta, ← a.nds_eq] at hp hf
            have hyl : y.length ≤ a.nds.length := hp.length_le
            rw [a.nds_len] at hyl
            have hsl : s.length + y.length ≤ 3518437208883 := by omega
            simp only [SExpr.ndsL] at hs
            refine ⟨s ++ y, by simp only [punctualref_nodes.r0, if_pos hi', ha, if_neg hs31, e, if_pos hsl], ?_, fun x hx => hx⟩
            rcases hf with hf | hf
            · left
              rw [hf, List.append_assoc, hs]
            · right
              refine ⟨?_, by rw [List.length_append]; omega⟩
              rw [← hs]
              obtain ⟨t, ht⟩ := hp
              exact ⟨t ++ SExpr.ndsL r, by rw [← ht]; simp⟩
          · omega)
      (s := ([⟨k, m, l⟩] : List SExpr)) (.inl rfl) (K := K) (by omega)
    obtain ⟨y, hy, hp, hf⟩ := hR
    refine ⟨y, ?_, hp, hf⟩
    rcases hy with rfl | rfl <;> simp only [punctualref_nodes.b, hx]
theorem scanE_prefix : ∀ {r l : List SExpr} (z : Int), r <+: l → (r = l ∨ z < r.length) → 0 ≤ z → (scanE r z).1 = (scanE l z).1
  | [], l, z, hp, hf, hz => by
    rcases hf with rfl | hf
    · rfl
    · simp at hf; omega
  | x :: r, [], z, hp, hf, hz => by
    obtain ⟨t, ht⟩ := hp
    simp at ht
  | x :: r, y :: l, z, hp, hf, hz => by
    obtain ⟨t, ht⟩ := hp
    simp only [List.cons_append, List.cons.injEq] at ht
    obtain ⟨rfl, ht⟩ := ht
    simp only [scanE]
    by_cases h : z - 1 < 0
    · simp [h]
    · by_cases h2 : badE x = 0
      · simp only [if_neg h, if_pos h2]
        refine scanE_prefix (z - 1) ⟨t, ht⟩ ?_ (by omega)
        rcases hf with hf | hf
        · left; simpa using hf
        · right; simp only [List.length_cons] at hf; omega
      · simp [h, h2]
theorem badE_ref (x : SExpr) (X Y : List SExpr) (i : Nat) (hi : ¬ (i : Int) = 30) : (if ((mget (mset (mset (mset (mset (mset (mset (mset ([] : List (Int × Int)) 1 0) 2 0) 3 0) 4 1) 5 2) 6 2) 7 2) x.Kind).isSome) = true then
            if (x.A.length : Int) = ((mget (mset (mset (mset (mset (mset (mset (mset ([] : List (Int × Int)) 1 0) 2 0) 3 0) 4 1) 5 2) 6 2) 7 2) x.Kind).getD 0) then
              if x.N < 0 then
                some (.inr (.inr 3))
              else
                if x.N > ((mget (mset (mset (mset ([] : List (Int × Int)) 1 999999999) 2 7) 3 3) x.Kind).getD 0) then
                  some (.inr (.inr 3))
                else
                  some (.inl (i + 1))
            else
              some (.inr (.inr 6))
          else
            some (.inr (.inr 6))) = (some (if badE x = 0 then .inl (i + 1) else .inr (.inr (badE x))) : Option (Nat ⊕ (Unit ⊕ Int))) := by
  have e1 : mget (mset (mset (mset (mset (mset (mset (mset ([] : List (Int × Int)) 1 0) 2 0) 3 0) 4 1) 5 2) 6 2) 7 2) x.Kind = if x.Kind < 1 ∨ x.Kind > 7 then none else some (if x.Kind ≤ 3 then 0 else if x.Kind = 4 then 1 else 2) := by
    simp only [mget_mset, mget]
    by_cases h : x.Kind < 1 ∨ x.Kind > 7
    · rw [if_pos h, if_neg (by omega), if_neg (by omega), if_neg (by omega), if_neg (by omega), if_neg (by omega), if_neg (by omega), if_neg (by omega)]
    · rw [if_neg h]
      have hk : x.Kind = 1 ∨ x.Kind = 2 ∨ x.Kind = 3 ∨ x.Kind = 4 ∨ x.Kind = 5 ∨ x.Kind = 6 ∨ x.Kind = 7 := by omega
      rcases hk with e | e | e | e | e | e | e <;> rw [e] <;> rfl
  have e2 : (mget (mset (mset (mset ([] : List (Int × Int)) 1 999999999) 2 7) 3 3) x.Kind).getD 0 = (if x.Kind = 1 then 999999999 else if x.Kind = 2 then 7 else if x.Kind = 3 then 3 else 0) := by
    simp only [mget_mset, mget]
    by_cases h1 : x.Kind = 1
    · rw [h1]; rfl
    by_cases h2 : x.Kind = 2
    · rw [h2]; rfl
    by_cases h3 : x.Kind = 3
    · rw [h3]; rfl
    simp [h1, h2, h3]
  rw [e1, e2]
  simp only [badE]
  by_cases h : x.Kind < 1 ∨ x.Kind > 7
  · simp [h]
  · simp only [if_neg h, Option.isSome_some, if_true, Option.getD_some]
    by_cases hl : (x.A.length : Int) = (if x.Kind ≤ 3 then 0 else if x.Kind = 4 then 1 else 2)
    · rw [if_pos hl]
      have hne : ¬ ((x.A.length : Int) ≠ (if x.Kind ≤ 3 then 0 else if x.Kind = 4 then 1 else 2)) := fun h => h hl
      simp only [if_neg hne]
      by_cases g1 : x.N < 0
      · simp [g1]
      · by_cases g2 : x.N > (if x.Kind = 1 then 999999999 else if x.Kind = 2 then 7 else if x.Kind = 3 then 3 else 0)
        · rw [if_neg g1, if_pos g2, if_pos (Or.inr g2)]; rfl
        · rw [if_neg g1, if_neg g2, if_neg (not_or.2 ⟨g1, g2⟩)]; rfl
    · rw [if_neg hl]
      simp only [if_pos (show (x.A.length : Int) ≠ (if x.Kind ≤ 3 then 0 else if x.Kind = 4 then 1 else 2) from hl)]
      rfl
theorem wrongExpr_eq (K : Nat) (hK : 4194304 < K) (x : SExpr) (hb : x.blk ≤ 1048576) : punctualref_wrongExpr.f K x.Kind x.N x.A = some (scanE x.nds 30).1 := by
  have h := x.blk_eq
  obtain ⟨r, hr, hp, hf⟩ := nodes_eq K hK K x.Kind x.N x.A (by omega) (by omega)
  rw [SExpr.eta, ← x.nds_eq] at hp hf
  have hrl := hp.length_le
  rw [x.nds_len] at hrl
  rw [← scanE_prefix 30 hp (hf.imp id (fun h => by omega)) (by omega)]
  simp only [punctualref_wrongExpr.f, punctualref_nodes.f, hr]
  obtain ⟨y, hy, hR⟩ := iter_rows (f := punctualref_wrongExpr.r0 r) (fun (_ : Unit) i => i) r (fun q s => r.length ≤ q.length + 30) (fun q s x => x = if (scanE q (30 - ((r.length : Int) - q.length))).1 = 0 then .inl () else .inr (scanE q (30 - ((r.length : Int) - q.length))).1)
    (fun s hs => by
      refine ⟨.inl (), by simp only [punctualref_wrongExpr.r0, Int.lt_irrefl, if_false], by simp [scanE]⟩)
    (fun a q s i ha hi hs => by
      have hi' : (i : Int) < (r.length : Int) := by omega
      have hz : 30 - ((r.length : Int) - ((a :: q).length : Nat)) = 30 - (i : Int) := by simp only [List.length_cons]; omega
      have hz2 : 30 - ((r.length : Int) - (q.length : Nat)) = 30 - (i : Int) - 1 := by omega
      simp only [hz, hz2]
      by_cases h30 : (i : Int) = 30
      · right
        refine ⟨.inr 2, by simp only [punctualref_wrongExpr.r0, if_pos hi', ha, if_pos h30], ?_⟩
        simp only [scanE, h30]
        rfl
      · simp only [List.length_cons] at hs
        have hz3 : ¬ 30 - (i : Int) - 1 < 0 := by omega
        have hstep : punctualref_wrongExpr.r0 r i = some (if badE a = 0 then .inl (i + 1) else .inr (.inr (badE a))) := by
          rw [← badE_ref a r r i h30]
          simp only [punctualref_wrongExpr.r0, if_pos hi', ha, if_neg h30]
        by_cases hb : badE a = 0
        · left
          refine ⟨(), by rw [hstep, if_pos hb], by omega, fun x hx => ?_⟩
          rw [hx]
          simp only [scanE, if_neg hz3, if_pos hb]
        · right
          refine ⟨.inr (badE a), by rw [hstep, if_neg hb], ?_⟩
          simp only [scanE, if_neg hz3, if_neg hb])
    (s := ()) (by omega) (K := K) (by omega)
  have hz : 30 - ((r.length : Int) - (r.length : Nat)) = 30 := by omega
  rw [hz] at hR
  rw [hy, hR]
  by_cases hc : (scanE r 30).1 = 0
  · simp only [hc, if_true]
  · simp only [if_neg hc]

def within (x : SStmt) (ls : List Int) : List Int := if x.Kind = 6 then ls ++ [x.N] else ls
mutual
def SStmt.fl : SStmt → Int → List Int → List Sstatement
  | ⟨k, n, e, i, b, l⟩, d, ls => ⟨⟨k, n, e, i, b, l⟩, d, ls⟩ :: (SStmt.flL b (d + 1) (if k = 6 then ls ++ [n] else ls) ++ SStmt.flL l (d + 1) (if k = 6 then ls ++ [n] else ls))
def SStmt.flL : List SStmt → Int → List Int → List Sstatement
  | [], _, _ => []
  | x :: l, d, ls => x.fl d ls ++ SStmt.flL l d ls
end
theorem SStmt.fl_eq (x : SStmt) (d : Int) (ls : List Int) : x.fl d ls = ⟨x, d, ls⟩ :: (SStmt.flL x.Body (d + 1) (within x ls) ++ SStmt.flL x.Else (d + 1) (within x ls)) := by cases x; simp only [SStmt.fl, within]
theorem SStmt.flL_len : ∀ (n : Nat) (l : List SStmt) (d : Int) (ls : List Int), SStmt.blkL l < n → (SStmt.flL l d ls).length = SStmt.cntL l
  | 0, l, _, _, h => by omega
  | n + 1, [], _, _, h => by simp [SStmt.flL, SStmt.cntL]
  | n + 1, x :: l, d, ls, h => by
    have h1 := x.blk_eq
    simp only [SStmt.blkL] at h
    have h3 := SStmt.flL_len n x.Body (d + 1) (within x ls) (by omega)
    have h4 := SStmt.flL_len n x.Else (d + 1) (within x ls) (by omega)
    have h5 := SStmt.flL_len n l d ls (by omega)
    simp only [SStmt.cntL, SStmt.flL, List.length_append, x.fl_eq, x.cnt_eq, List.length_cons]
    omega
theorem Flat_eq (K : Nat) (hK : 4194304 < K) : ∀ (n : Nat) (l : List SStmt) (d : Int) (ls : List Int), SStmt.blkL l < n → SStmt.blkL l ≤ 1048576 → SStmt.cntL l ≤ 200 → 0 ≤ d → d + SStmt.blkL l ≤ 2097152 → ls.length + SStmt.blkL l ≤ 2097152 → punctualref_Flat.recs K n l d ls 200 = some (SStmt.flL l d ls)
  | 0, l, _, _, h, _, _, _, _, _ => by omega
  | n + 1, l, d, ls, h, hb, hc200, hd0, hd, hls => by
    have hlen := SStmt.blkL_len l
    have hcl := SStmt.flL_len _ l d ls (Nat.lt_succ_self _)
    obtain ⟨x, hx, hR⟩ := iter_rows (f := punctualref_Flat.r0 l d ls 200 (punctualref_Flat.recs K n)) (fun z i => (z, i)) l (fun r s => s ++ SStmt.flL r d ls = SStmt.flL l d ls) (fun r s x => x = .inl (s ++ SStmt.flL r d ls))
      (fun s hs => by
        refine ⟨.inl s, ?_, by simp [SStmt.flL]⟩
        simp only [punctualref_Flat.r0, Int.lt_irrefl, if_false])
      (fun a r s i ha hi hs => by
        left
        have h1 := SStmt.blkL_mem (mem_of_at ha)
        have h2 := a.blk_eq
        have hsz := congrArg List.length hs
        simp only [SStmt.flL, List.length_append, a.fl_eq, List.length_cons, hcl] at hsz
        have hcb := SStmt.flL_len _ a.Body (d + 1) (within a ls) (Nat.lt_succ_self _)
        have hce := SStmt.flL_len _ a.Else (d + 1) (within a ls) (Nat.lt_succ_self _)
        have hwl : (within a ls).length ≤ ls.length + 1 := by
          unfold within; split <;> simp
        have e1 := Flat_eq K hK n a.Body (d + 1) (within a ls) (by omega) (by omega) (by omega) (by omega) (by omega) (by omega)
        have e2 := Flat_eq K hK n a.Else (d + 1) (within a ls) (by omega) (by omega) (by omega) (by omega) (by omega) (by omega)
        have hi' : (i : Int) < (l.length : Int) := by omega
        have hw : IntKind.i64.wrap (d + 1) = d + 1 := wrap64_small (by omega) (by omega)
        have g1 : ¬ (s.length : Int) > 200 := by omega
        have g2 : s.length < 628292358729 := by omega
        have hp : punctualref_Flat.p1 ls a = some (.inl (within a ls)) := by
          simp only [punctualref_Flat.p1, within]
          by_cases h6 : a.Kind = 6
          · rw [if_pos h6, if_pos (by omega), if_pos (by omega), if_pos h6]
          · rw [if_neg h6, if_neg h6]
        have g3 : (s ++ [(⟨a, d, ls⟩ : Sstatement)]).length + (SStmt.flL a.Body (d + 1) (within a ls)).length ≤ 628292358729 := by
          simp only [List.length_append, List.length_cons, List.length_nil]; omega
        have g4 : ((s ++ [(⟨a, d, ls⟩ : Sstatement)]) ++ SStmt.flL a.Body (d + 1) (within a ls)).length + (SStmt.flL a.Else (d + 1) (within a ls)).length ≤ 628292358729 := by
          simp only [List.length_append, List.length_cons, List.length_nil]; omega
        have hq : ((s ++ [(⟨a, d, ls⟩ : Sstatement)]) ++ SStmt.flL a.Body (d + 1) (within a ls)) ++ SStmt.flL a.Else (d + 1) (within a ls) = s ++ a.fl d ls := by
          rw [a.fl_eq]; simp
        refine ⟨s ++ a.fl d ls, ?_, by rw [List.append_assoc]; exact hs, fun x hx => ?_⟩
        · simp only [punctualref_Flat.r0, if_pos hi', ha, if_neg g1, if_pos g2, hp, hw, e1, if_pos g3, e2, if_pos g4]
          rw [hq]
        · rw [hx]; simp only [SStmt.flL, List.append_assoc])
      (s := ([] : List Sstatement)) rfl (K := K) (by omega)
    subst hR
    show punctualref_Flat.b K (punctualref_Flat.recs K n) l d ls 200 = _
    simp only [punctualref_Flat.b, hx, List.nil_append]
def noE (x : SExpr) : Bool := decide (x.Kind = 0) && (decide (x.N = 0) && ((x.A.length : Int) == 0))
theorem none_eq (x : SExpr) : tongue_none.f x.Kind x.N x.A = noE x := by
  simp only [tongue_none.f, noE]
  by_cases h1 : x.Kind = 0 <;> by_cases h2 : x.N = 0 <;> simp [h1, h2]
theorem empty_eq (x : SExpr) : punctualref_emptyExpr.f x.Kind x.N x.A = noE x := by
  simp only [punctualref_emptyExpr.f, noE]
  by_cases h1 : x.Kind = 0 <;> by_cases h2 : x.N = 0 <;> simp [h1, h2]
/-- what is wrong with a statement, but for its depth and its lock -/
def headS (x : SStmt) : Int :=
  if x.Kind < 1 ∨ x.Kind > 7 then 6
  else if x.N < (if x.Kind = 7 then 1 else 0) ∨ x.N > (if x.Kind = 1 then 7 else if x.Kind = 2 then 3 else if x.Kind = 3 then 0 else if x.Kind = 6 then 3 else 1000) then 3
  else if ¬ (x.Kind ≤ 2) ∧ noE x.E = false then 6
  else if ¬ (x.Kind = 3 ∨ x.Kind = 5) ∧ ¬ (x.If.Kind = 0 ∧ noE x.If.A = true ∧ noE x.If.B = true) then 6
  else if ¬ (3 ≤ x.Kind ∧ x.Kind ≤ 6) ∧ x.Body.length > 0 then 6
  else if x.Kind ≠ 3 ∧ x.Else.length > 0 then 6
  else if x.Kind ≤ 2 ∧ (scanE x.E.nds 30).1 ≠ 0 then (scanE x.E.nds 30).1
  else if (x.Kind = 3 ∨ x.Kind = 5) ∧ (x.If.Kind < 1 ∨ x.If.Kind > 4) then 6
  else if (x.Kind = 3 ∨ x.Kind = 5) ∧ (scanE x.If.A.nds 30).1 ≠ 0 then (scanE x.If.A.nds 30).1
  else if (x.Kind = 3 ∨ x.Kind = 5) ∧ (scanE x.If.B.nds 30).1 ≠ 0 then (scanE x.If.B.nds 30).1
  else 0
def wrongS (x : SStmt) (d : Int) (ls : List Int) : Int :=
  if headS x ≠ 0 then headS x else if (3 ≤ x.Kind ∧ x.Kind ≤ 6) ∧ d ≥ 6 then 2 else if x.Kind = 6 ∧ x.N ∈ ls then 10 else 0
theorem search_lock {f : Nat → Option (Nat ⊕ (Unit ⊕ Int))} (n : Int) (ls : List Int) (K : Nat) (hK : ls.length < K)
    (hf : ∀ i, f i = if (i : Int) < (ls.length : Int) then (match ls[i]? with | none => none | some e => if e = n then some (.inr (.inr 10)) else some (.inl (i + 1))) else some (.inr (.inl ()))) :
    iter f K 0 = some (if n ∈ ls then .inr 10 else .inl ()) := by
  obtain ⟨x, hx, hR⟩ := iter_rows (f := f) (fun (_ : Unit) i => i) ls (fun q s => True) (fun q s x => x = if n ∈ q then .inr 10 else .inl ())
    (fun s hs => ⟨.inl (), by rw [hf, if_neg (Int.lt_irrefl _)], by simp⟩)
    (fun a q s i ha hi hs => by
      have hi' : (i : Int) < (ls.length : Int) := by omega
      by_cases h : a = n
      · right
        exact ⟨.inr 10, by rw [hf, if_pos hi']; simp only [ha, if_pos h], by rw [h, if_pos (by simp)]⟩
      · left
        refine ⟨(), by rw [hf, if_pos hi']; simp only [ha, if_neg h], trivial, fun x hx => ?_⟩
        rw [hx]
        have : n ≠ a := fun e => h e.symm
        simp [this])
    (s := ()) trivial (K := K) hK
  rw [hx, hR]
theorem wrongStatement_eq (K : Nat) (hK : 4194304 < K) (x : SStmt) (d : Int) (ls : List Int) (hb : x.blk ≤ 1048576) (hl : ls.length ≤ 2097152) :
    punctualref_wrongStatement.f K x.Kind x.N x.E.Kind x.E.N x.E.A x.If.Kind x.If.A.Kind x.If.A.N x.If.A.A x.If.B.Kind x.If.B.N x.If.B.A x.Body x.Else d ls = some (wrongS x d ls) := by
  have h := x.blk_eq
  have k1 := x.E.blk_eq
  have k2 := x.If.A.blk_eq
  have k3 := x.If.B.blk_eq
  have e1 := wrongExpr_eq K hK x.E (by omega)
  have e2 := wrongExpr_eq K hK x.If.A (by omega)
  have e3 := wrongExpr_eq K hK x.If.B (by omega)
  have s1 := search_lock (f := punctualref_wrongStatement.r10 x.N ls) x.N ls K (by omega) (fun i => rfl)
  have s2 := search_lock (f := punctualref_wrongStatement.r11 x.N ls) x.N ls K (by omega) (fun i => rfl)
  simp only [punctualref_wrongStatement.f, wrongS, headS]
  by_cases hk : x.Kind < 1 ∨ x.Kind > 7
  · have : punctualref_wrongStatement.p0 x.Kind = some (.inr 6) := by
      simp only [punctualref_wrongStatement.p0]
      by_cases h1 : x.Kind < 1
      · rw [if_pos h1]
      · rw [if_neg h1, if_pos (by omega)]
    simp only [this, if_pos hk]
    rfl
  have h0 : punctualref_wrongStatement.p0 x.Kind = some (.inl ()) := by
    simp only [punctualref_wrongStatement.p0]
    rw [if_neg (by omega), if_neg (by omega)]
  have hk' : x.Kind = 1 ∨ x.Kind = 2 ∨ x.Kind = 3 ∨ x.Kind = 4 ∨ x.Kind = 5 ∨ x.Kind = 6 ∨ x.Kind = 7 := by omega
  have g1 : ([0, 0, 0, 0, 0, 0, 0, 1] : List Int)[(x.Kind).toNat]? = some (if x.Kind = 7 then 1 else 0) := by
    rcases hk' with e | e | e | e | e | e | e <;> rw [e] <;> rfl
  have g2 : ([0, 7, 3, 0, 1000, 1000, 3, 1000] : List Int)[(x.Kind).toNat]? = some (if x.Kind = 1 then 7 else if x.Kind = 2 then 3 else if x.Kind = 3 then 0 else if x.Kind = 6 then 3 else 1000) := by
    rcases hk' with e | e | e | e | e | e | e <;> rw [e] <;> rfl
  have h2 : punctualref_wrongStatement.p2 x.Kind = some (.inl (decide (x.Kind ≤ 2))) := by
    rcases hk' with e | e | e | e | e | e | e <;> rw [e] <;> rfl
  have h3 : punctualref_wrongStatement.p3 x.Kind = some (.inl (decide (x.Kind = 3 ∨ x.Kind = 5))) := by
    rcases hk' with e | e | e | e | e | e | e <;> rw [e] <;> rfl
  have h4 : punctualref_wrongStatement.p4 x.Kind = some (.inl (decide (3 ≤ x.Kind ∧ x.Kind ≤ 6))) := by
    rcases hk' with e | e | e | e | e | e | e <;> rw [e] <;> rfl
  simp only [h0, if_pos (show 0 ≤ x.Kind by omega), g1, g2, h2, h3, h4, if_neg hk]
  by_cases hn : x.N < (if x.Kind = 7 then 1 else 0) ∨ x.N > (if x.Kind = 1 then 7 else if x.Kind = 2 then 3 else if x.Kind = 3 then 0 else if x.Kind = 6 then 3 else 1000)
  · have : punctualref_wrongStatement.p1 x.N (if x.Kind = 7 then 1 else 0) (if x.Kind = 1 then 7 else if x.Kind = 2 then 3 else if x.Kind = 3 then 0 else if x.Kind = 6 then 3 else 1000) = some (.inr 3) := by
      simp only [punctualref_wrongStatement.p1]
      by_cases h1 : x.N < (if x.Kind = 7 then 1 else 0)
      · rw [if_pos h1]
      · rw [if_neg h1, if_pos (hn.resolve_left h1)]
    simp only [this, if_pos hn]
    rfl
  have h1 : punctualref_wrongStatement.p1 x.N (if x.Kind = 7 then 1 else 0) (if x.Kind = 1 then 7 else if x.Kind = 2 then 3 else if x.Kind = 3 then 0 else if x.Kind = 6 then 3 else 1000) = some (.inl ()) := by
    simp only [punctualref_wrongStatement.p1]
    rw [if_neg (fun h => hn (.inl h)), if_neg (fun h => hn (.inr h))]
  simp only [h1, if_neg hn]
  have h5 : punctualref_wrongStatement.p5 x.E.Kind x.E.N x.E.A (decide (x.Kind ≤ 2)) = some (if ¬ (x.Kind ≤ 2) ∧ noE x.E = false then .inr 6 else .inl ()) := by
    simp only [punctualref_wrongStatement.p5, empty_eq]
    by_cases c : x.Kind ≤ 2 <;> cases noE x.E <;> simp [c]
  rw [h5]
  by_cases c5 : ¬ (x.Kind ≤ 2) ∧ noE x.E = false
  · simp only [if_pos c5]; rfl
  simp only [if_neg c5]
  have h6 : punctualref_wrongStatement.p6 x.If.Kind x.If.A.Kind x.If.A.N x.If.A.A x.If.B.Kind x.If.B.N x.If.B.A (decide (x.Kind = 3 ∨ x.Kind = 5)) = some (if ¬ (x.Kind = 3 ∨ x.Kind = 5) ∧ ¬ (x.If.Kind = 0 ∧ noE x.If.A = true ∧ noE x.If.B = true) then .inr 6 else .inl ()) := by
    simp only [punctualref_wrongStatement.p6, empty_eq]
    by_cases c : (x.Kind = 3 ∨ x.Kind = 5) <;> by_cases c' : x.If.Kind = 0 <;> cases noE x.If.A <;> cases noE x.If.B <;> simp [c, c']
  rw [h6]
  by_cases c6 : ¬ (x.Kind = 3 ∨ x.Kind = 5) ∧ ¬ (x.If.Kind = 0 ∧ noE x.If.A = true ∧ noE x.If.B = true)
  · simp only [if_pos c6]; rfl
  simp only [if_neg c6]
  have h7 : punctualref_wrongStatement.p7 x.Kind x.Body x.Else (decide (3 ≤ x.Kind ∧ x.Kind ≤ 6)) = some (if ¬ (3 ≤ x.Kind ∧ x.Kind ≤ 6) ∧ x.Body.length > 0 then .inr 6 else if x.Kind ≠ 3 ∧ x.Else.length > 0 then .inr 6 else .inl ()) := by
    simp only [punctualref_wrongStatement.p7]
    by_cases c : 3 ≤ x.Kind ∧ x.Kind ≤ 6 <;> by_cases c' : x.Kind = 3 <;> by_cases b1 : x.Body.length > 0 <;> by_cases b2 : x.Else.length > 0 <;>
      (have b1' : ((x.Body.length : Int) > 0) = (x.Body.length > 0) := by simp) <;> (have b2' : ((x.Else.length : Int) > 0) = (x.Else.length > 0) := by simp) <;> simp [c, c', b1, b2, b1', b2']
  rw [h7]
  by_cases c7 : ¬ (3 ≤ x.Kind ∧ x.Kind ≤ 6) ∧ x.Body.length > 0
  · simp only [if_pos c7]; rfl
  simp only [if_neg c7]
  by_cases c8 : x.Kind ≠ 3 ∧ x.Else.length > 0
  · simp only [if_pos c8]; rfl
  simp only [if_neg c8]
  have h8 : punctualref_wrongStatement.p8 K x.E.Kind x.E.N x.E.A (decide (x.Kind ≤ 2)) = some (if x.Kind ≤ 2 ∧ (scanE x.E.nds 30).1 ≠ 0 then .inr (scanE x.E.nds 30).1 else .inl ()) := by
    simp only [punctualref_wrongStatement.p8, e1]
    by_cases c : x.Kind ≤ 2 <;> by_cases c' : (scanE x.E.nds 30).1 = 0 <;> simp [c, c']
  rw [h8]
  by_cases c9 : x.Kind ≤ 2 ∧ (scanE x.E.nds 30).1 ≠ 0
  · simp only [if_pos c9, if_pos c9.2]
  simp only [if_neg c9]
  have h9 : punctualref_wrongStatement.p9 K x.If.Kind x.If.A.Kind x.If.A.N x.If.A.A x.If.B.Kind x.If.B.N x.If.B.A (decide (x.Kind = 3 ∨ x.Kind = 5)) = some (if (x.Kind = 3 ∨ x.Kind = 5) ∧ (x.If.Kind < 1 ∨ x.If.Kind > 4) then .inr 6 else if (x.Kind = 3 ∨ x.Kind = 5) ∧ (scanE x.If.A.nds 30).1 ≠ 0 then .inr (scanE x.If.A.nds 30).1
      else if (x.Kind = 3 ∨ x.Kind = 5) ∧ (scanE x.If.B.nds 30).1 ≠ 0 then .inr (scanE x.If.B.nds 30).1 else .inl ()) := by
    simp only [punctualref_wrongStatement.p9, e2, e3]
    by_cases c : x.Kind = 3 ∨ x.Kind = 5
    · simp only [c, true_and, decide_true, if_true]
      by_cases c1 : x.If.Kind < 1
      · simp [c1]
      · by_cases c2 : x.If.Kind > 4
        · simp [c1, c2]
        · by_cases c3 : (scanE x.If.A.nds 30).1 = 0 <;> by_cases c4 : (scanE x.If.B.nds 30).1 = 0 <;> simp [c1, c2, c3, c4]
    · simp [c]
  rw [h9]
  by_cases c10 : (x.Kind = 3 ∨ x.Kind = 5) ∧ (x.If.Kind < 1 ∨ x.If.Kind > 4)
  · simp only [if_pos c10]; rfl
  simp only [if_neg c10]
  by_cases c11 : (x.Kind = 3 ∨ x.Kind = 5) ∧ (scanE x.If.A.nds 30).1 ≠ 0
  · simp only [if_pos c11, if_pos c11.2]
  simp only [if_neg c11]
  by_cases c12 : (x.Kind = 3 ∨ x.Kind = 5) ∧ (scanE x.If.B.nds 30).1 ≠ 0
  · simp only [if_pos c12, if_pos c12.2]
  simp only [if_neg c12]
  rw [if_neg (show ¬ (0 : Int) ≠ 0 by simp)]
  by_cases c13 : 3 ≤ x.Kind ∧ x.Kind ≤ 6
  · simp only [c13, decide_true, if_true, true_and, and_self]
    by_cases c14 : d ≥ 6
    · simp only [c14, if_true]
    · simp only [c14, if_false]
      by_cases c15 : x.Kind = 6
      · simp only [c15, if_true, true_and]
        rw [s1]
        by_cases c16 : x.N ∈ ls <;> simp [c16]
      · simp [c15]
  · have c15 : x.Kind ≠ 6 := by omega
    simp [c13, c15]

/-- the first statement that is wrong, and where -/
def firstW : List Sstatement → Int → Option (Int × Int)
  | [], _ => none
  | x :: l, a => if wrongS x.s x.deep x.locks ≠ 0 then some (wrongS x.s x.deep x.locks, a + 1) else firstW l (a + 1)
theorem firstW_append : ∀ (p q : List Sstatement) (a : Int), firstW (p ++ q) a = match firstW p a with | some r => some r | none => firstW q (a + p.length)
  | [], q, a => by simp [firstW]
  | x :: p, q, a => by
    simp only [List.cons_append, firstW]
    by_cases h : wrongS x.s x.deep x.locks ≠ 0
    · simp only [if_pos h]
    · simp only [if_neg h]
      rw [firstW_append p q (a + 1)]
      have : a + 1 + (p.length : Int) = a + ((x :: p).length : Nat) := by simp only [List.length_cons]; omega
      rw [this]
abbrev Told := Bool × Int × Int × Int × Bool × Bool × Bool × Bool
def GoodL (r : Told) (l : List Sstatement) (a c f : Int) (ls : List Int) : Prop :=
  match firstW l a with
  | none => r = (true, a + l.length, c, f, decide ((0 : Int) ∈ ls), decide ((1 : Int) ∈ ls), decide ((2 : Int) ∈ ls), decide ((3 : Int) ∈ ls))
  | some y => r.1 = false ∧ r.2.2.1 = y.1 ∧ r.2.2.2.1 = y.2
theorem uses_eq {k : Int} (hk : ¬ (k < 1 ∨ k > 7)) : tongue_uses.f k = (decide (k ≤ 2), decide (k = 3 ∨ k = 5), decide (3 ≤ k ∧ k ≤ 6), if k = 7 then 1 else 0, if k = 1 then 7 else if k = 2 then 3 else if k = 3 then 0 else if k = 6 then 3 else 1000) := by
  have hk' : k = 1 ∨ k = 2 ∨ k = 3 ∨ k = 4 ∨ k = 5 ∨ k = 6 ∨ k = 7 := by omega
  rcases hk' with e | e | e | e | e | e | e <;> rw [e] <;> rfl
def badP : List SExpr → Int
  | [] => 0
  | x :: l => if (scanE x.nds 30).1 = 0 then badP l else (scanE x.nds 30).1
theorem part_eq (K : Nat) (hK : 4194304 < K) (a c f : Int) (q0 q1 q2 q3 : Bool) (l : List SExpr) (hl : l.length ≤ 2) (hb : ∀ x ∈ l, x.blk ≤ 1048576) :
    tongue_checker_part.f K a c f q0 q1 q2 q3 l = some (if badP l = 0 then (true, c, f) else (false, badP l, a)) := by
  obtain ⟨x, hx, hR⟩ := iter_rows (f := tongue_checker_part.r0 K a c f q0 q1 q2 q3 l) (fun (_ : Unit) i => i) l (fun r s => True) (fun r s x => x = if badP r = 0 then .inl () else .inr (false, badP r, a))
    (fun s hs => ⟨.inl (), by simp only [tongue_checker_part.r0, Int.lt_irrefl, if_false], by simp [badP]⟩)
    (fun e r s i ha hi hs => by
      have hi' : (i : Int) < (l.length : Int) := by omega
      have he := expr_f K hK e (hb e (mem_of_at ha))
      by_cases h : (scanE e.nds 30).1 = 0
      · left
        refine ⟨(), by simp only [tongue_checker_part.r0, if_pos hi', ha, he, if_pos h], trivial, fun x hx => ?_⟩
        rw [hx]; simp only [badP, if_pos h]
      · right
        refine ⟨_, by simp only [tongue_checker_part.r0, if_pos hi', ha, he, if_neg h]; rfl, ?_⟩
        simp only [badP, if_neg h, tongue_checker_say.f])
    (s := ()) trivial (K := K) (by omega)
  simp only [tongue_checker_part.f, hx, hR]
  by_cases h : badP l = 0
  · simp only [if_pos h]
  · simp only [if_neg h]
/-- one act of the checker's -/
theorem stmt_bad (K : Nat) (hK : 4194304 < K) (L : Int → Int → Int → Bool → Bool → Bool → Bool → (List SStmt) → Int → Option Told) (x : SStmt) (a c f d : Int) (q0 q1 q2 q3 : Bool) (hb : x.blk ≤ 1048576) :
    tongue_checker_stmt.b K L a c f q0 q1 q2 q3 x.Kind x.N x.E.Kind x.E.N x.E.A x.If.Kind x.If.A.Kind x.If.A.N x.If.A.A x.If.B.Kind x.If.B.N x.If.B.A x.Body x.Else d =
      if headS x ≠ 0 then some (false, a, headS x, a, q0, q1, q2, q3)
      else if (3 ≤ x.Kind ∧ x.Kind ≤ 6) ∧ d = 6 then some (false, a, 2, a, q0, q1, q2, q3)
      else if x.Kind = 6 then
        match ([q0, q1, q2, q3] : List Bool)[(x.N).toNat]? with
        | none => none
        | some e1 => if e1 = true then some (false, a, 10, a, q0, q1, q2, q3) else
          match L a c f (((([q0, q1, q2, q3] : List Bool).set ((x.N).toNat) true)[0]?).getD false) (((([q0, q1, q2, q3] : List Bool).set ((x.N).toNat) true)[1]?).getD false) (((([q0, q1, q2, q3] : List Bool).set ((x.N).toNat) true)[2]?).getD false) (((([q0, q1, q2, q3] : List Bool).set ((x.N).toNat) true)[3]?).getD false) x.Body (IntKind.i64.wrap (d + 1)) with
          | none => none
          | some r3 => match (if r3.1 = true then L r3.2.1 r3.2.2.1 r3.2.2.2.1 r3.2.2.2.2.1 r3.2.2.2.2.2.1 r3.2.2.2.2.2.2.1 r3.2.2.2.2.2.2.2 x.Else (IntKind.i64.wrap (d + 1)) else some (false, r3.2)) with
            | none => none
            | some r4 => match tongue_checker_stmt_1.f r4.2.1 r4.2.2.1 r4.2.2.2.1 r4.2.2.2.2.1 r4.2.2.2.2.2.1 r4.2.2.2.2.2.2.1 r4.2.2.2.2.2.2.2 x.Kind x.N x.E.Kind x.E.N x.E.A x.If.Kind x.If.A.Kind x.If.A.N x.If.A.A x.If.B.Kind x.If.B.N x.If.B.A x.Body x.Else with
              | none => none
              | some r5 => some (r4.1, r4.2.1, r4.2.2.1, r4.2.2.2.1, r5)
      else match L a c f q0 q1 q2 q3 x.Body (IntKind.i64.wrap (d + 1)) with
        | none => none
        | some r7 => if r7.1 = true then L r7.2.1 r7.2.2.1 r7.2.2.2.1 r7.2.2.2.2.1 r7.2.2.2.2.2.1 r7.2.2.2.2.2.2.1 r7.2.2.2.2.2.2.2 x.Else (IntKind.i64.wrap (d + 1)) else some (false, r7.2) := by
  have h := x.blk_eq
  have k1 := x.E.blk_eq
  have k2 := x.If.A.blk_eq
  have k3 := x.If.B.blk_eq
  simp only [tongue_checker_stmt.b]
  by_cases hk : x.Kind < 1 ∨ x.Kind > 7
  · have : tongue_checker_stmt.p0 a c f q0 q1 q2 q3 x.Kind = some (.inr (false, a, 6, a, q0, q1, q2, q3)) := by
      simp only [tongue_checker_stmt.p0, tongue_checker_say.f]
      by_cases h1 : x.Kind < 1
      · rw [if_pos h1]
      · rw [if_neg h1, if_pos (by omega)]
    have hh : headS x = 6 := by simp only [headS, if_pos hk]
    simp only [this, hh]
    rfl
  have h0 : tongue_checker_stmt.p0 a c f q0 q1 q2 q3 x.Kind = some (.inl ()) := by
    simp only [tongue_checker_stmt.p0]
    rw [if_neg (by omega), if_neg (by omega)]
  have hu := uses_eq hk
  simp only [h0]
  by_cases hn : x.N < (if x.Kind = 7 then 1 else 0) ∨ x.N > (if x.Kind = 1 then 7 else if x.Kind = 2 then 3 else if x.Kind = 3 then 0 else if x.Kind = 6 then 3 else 1000)
  · have : tongue_checker_stmt.p1 a c f q0 q1 q2 q3 x.Kind x.N = some (.inr (false, a, 3, a, q0, q1, q2, q3)) := by
      simp only [tongue_checker_stmt.p1, tongue_checker_say.f, hu]
      by_cases h1 : x.N < (if x.Kind = 7 then 1 else 0)
      · rw [if_pos h1]
      · rw [if_neg h1, if_pos (hn.resolve_left h1)]
    have hh : headS x = 3 := by simp only [headS, if_neg hk, if_pos hn]
    simp only [this, hh]
    rfl
  have h1 : tongue_checker_stmt.p1 a c f q0 q1 q2 q3 x.Kind x.N = some (.inl ()) := by
    simp only [tongue_checker_stmt.p1, hu]
    rw [if_neg (fun h => hn (.inl h)), if_neg (fun h => hn (.inr h))]
  have h2 : tongue_checker_stmt.p2 x.If.Kind x.If.A.Kind x.If.A.N x.If.A.A x.If.B.Kind x.If.B.N x.If.B.A = some (.inl (decide (x.If.Kind = 0 ∧ noE x.If.A = true ∧ noE x.If.B = true))) := by
    simp only [tongue_checker_stmt.p2, none_eq]
    by_cases c' : x.If.Kind = 0 <;> cases noE x.If.A <;> cases noE x.If.B <;> simp [c']
  simp only [h1, h2]
  have h3 : tongue_checker_stmt.p3 a c f q0 q1 q2 q3 x.Kind x.E.Kind x.E.N x.E.A x.Body x.Else (decide (x.If.Kind = 0 ∧ noE x.If.A = true ∧ noE x.If.B = true)) = some (
      if ¬ (x.Kind ≤ 2) ∧ noE x.E = false then .inr (false, a, 6, a, q0, q1, q2, q3)
      else if ¬ (x.Kind = 3 ∨ x.Kind = 5) ∧ ¬ (x.If.Kind = 0 ∧ noE x.If.A = true ∧ noE x.If.B = true) then .inr (false, a, 6, a, q0, q1, q2, q3)
      else if ¬ (3 ≤ x.Kind ∧ x.Kind ≤ 6) ∧ x.Body.length > 0 then .inr (false, a, 6, a, q0, q1, q2, q3)
      else if x.Kind ≠ 3 ∧ x.Else.length > 0 then .inr (false, a, 6, a, q0, q1, q2, q3) else .inl ()) := by
    simp only [tongue_checker_stmt.p3, tongue_checker_say.f, hu, none_eq, decide_eq_true_eq]
    have b1' : ((x.Body.length : Int) > 0) = (x.Body.length > 0) := by simp
    have b2' : ((x.Else.length : Int) > 0) = (x.Else.length > 0) := by simp
    simp only [b1', b2']
    have hk' : x.Kind = 1 ∨ x.Kind = 2 ∨ x.Kind = 3 ∨ x.Kind = 4 ∨ x.Kind = 5 ∨ x.Kind = 6 ∨ x.Kind = 7 := by omega
    rcases hk' with e | e | e | e | e | e | e <;> simp only [e, Int.reduceEq, Int.reduceLE, or_self, or_true, true_or, and_self, and_true, true_and, if_true, if_false, not_true, not_false_iff, false_and, and_false, ne_eq, Bool.false_eq_true, false_or, or_false] <;>
      by_cases b1 : x.Body.length > 0 <;> by_cases b2 : x.Else.length > 0 <;> by_cases c5 : (x.If.Kind = 0 ∧ noE x.If.A = true ∧ noE x.If.B = true) <;> cases noE x.E <;> simp only [b1, b2, c5, if_true, if_false, not_true, not_false_iff, Bool.false_eq_true, Bool.true_eq_false, and_self]
  rw [h3]
  by_cases c5 : ¬ (x.Kind ≤ 2) ∧ noE x.E = false
  · have hh : headS x = 6 := by simp only [headS, if_neg hk, if_neg hn, if_pos c5]
    simp only [if_pos c5, hh]; rfl
  simp only [if_neg c5]
  by_cases c6 : ¬ (x.Kind = 3 ∨ x.Kind = 5) ∧ ¬ (x.If.Kind = 0 ∧ noE x.If.A = true ∧ noE x.If.B = true)
  · have hh : headS x = 6 := by simp only [headS, if_neg hk, if_neg hn, if_neg c5, if_pos c6]
    simp only [if_pos c6, hh]; rfl
  simp only [if_neg c6]
  by_cases c7 : ¬ (3 ≤ x.Kind ∧ x.Kind ≤ 6) ∧ x.Body.length > 0
  · have hh : headS x = 6 := by simp only [headS, if_neg hk, if_neg hn, if_neg c5, if_neg c6, if_pos c7]
    simp only [if_pos c7, hh]; rfl
  simp only [if_neg c7]
  by_cases c8 : x.Kind ≠ 3 ∧ x.Else.length > 0
  · have hh : headS x = 6 := by simp only [headS, if_neg hk, if_neg hn, if_neg c5, if_neg c6, if_neg c7, if_pos c8]
    simp only [if_pos c8, hh]; rfl
  simp only [if_neg c8]
  have p1 := part_eq K hK a c f q0 q1 q2 q3 [x.E] (by simp) (by simp; omega)
  have p2 := part_eq K hK a c f q0 q1 q2 q3 [x.If.A, x.If.B] (by simp) (by simp; omega)
  have h4 : tongue_checker_stmt.p4 K a c f q0 q1 q2 q3 x.Kind x.E.Kind x.E.N x.E.A = some (if x.Kind ≤ 2 ∧ (scanE x.E.nds 30).1 ≠ 0 then .inr (false, a, (scanE x.E.nds 30).1, a, q0, q1, q2, q3) else .inl (c, f)) := by
    simp only [tongue_checker_stmt.p4, hu, SExpr.eta, p1, badP]
    by_cases c1 : x.Kind ≤ 2 <;> by_cases c' : (scanE x.E.nds 30).1 = 0 <;> simp [c1, c']
  rw [h4]
  by_cases c9 : x.Kind ≤ 2 ∧ (scanE x.E.nds 30).1 ≠ 0
  · have hh : headS x = (scanE x.E.nds 30).1 := by simp only [headS, if_neg hk, if_neg hn, if_neg c5, if_neg c6, if_neg c7, if_neg c8, if_pos c9]
    simp only [if_pos c9, hh, if_pos c9.2]
  simp only [if_neg c9]
  have h5 : tongue_checker_stmt.p5 K a q0 q1 q2 q3 x.Kind x.If.Kind x.If.A.Kind x.If.A.N x.If.A.A x.If.B.Kind x.If.B.N x.If.B.A c f = some (if (x.Kind = 3 ∨ x.Kind = 5) ∧ (x.If.Kind < 1 ∨ x.If.Kind > 4) then .inr (false, a, 6, a, q0, q1, q2, q3) else if (x.Kind = 3 ∨ x.Kind = 5) ∧ (scanE x.If.A.nds 30).1 ≠ 0 then .inr (false, a, (scanE x.If.A.nds 30).1, a, q0, q1, q2, q3)
      else if (x.Kind = 3 ∨ x.Kind = 5) ∧ (scanE x.If.B.nds 30).1 ≠ 0 then .inr (false, a, (scanE x.If.B.nds 30).1, a, q0, q1, q2, q3) else .inl (c, f)) := by
    simp only [tongue_checker_stmt.p5, hu, SExpr.eta, p2, badP, tongue_checker_say.f]
    by_cases c1 : x.Kind = 3 ∨ x.Kind = 5
    · simp only [c1, true_and, decide_true, if_true]
      by_cases c2 : x.If.Kind < 1
      · simp [c2]
      · by_cases c3 : x.If.Kind > 4
        · simp [c2, c3]
        · by_cases c4 : (scanE x.If.A.nds 30).1 = 0 <;> by_cases c5 : (scanE x.If.B.nds 30).1 = 0 <;> simp [c2, c3, c4, c5]
    · simp [c1]
  rw [h5]
  by_cases c10 : (x.Kind = 3 ∨ x.Kind = 5) ∧ (x.If.Kind < 1 ∨ x.If.Kind > 4)
  · have hh : headS x = 6 := by simp only [headS, if_neg hk, if_neg hn, if_neg c5, if_neg c6, if_neg c7, if_neg c8, if_neg c9, if_pos c10]
    simp only [if_pos c10, hh]; rfl
  simp only [if_neg c10]
  by_cases c11 : (x.Kind = 3 ∨ x.Kind = 5) ∧ (scanE x.If.A.nds 30).1 ≠ 0
  · have hh : headS x = (scanE x.If.A.nds 30).1 := by simp only [headS, if_neg hk, if_neg hn, if_neg c5, if_neg c6, if_neg c7, if_neg c8, if_neg c9, if_neg c10, if_pos c11]
    simp only [if_pos c11, hh, if_pos c11.2]
  simp only [if_neg c11]
  by_cases c12 : (x.Kind = 3 ∨ x.Kind = 5) ∧ (scanE x.If.B.nds 30).1 ≠ 0
  · have hh : headS x = (scanE x.If.B.nds 30).1 := by simp only [headS, if_neg hk, if_neg hn, if_neg c5, if_neg c6, if_neg c7, if_neg c8, if_neg c9, if_neg c10, if_neg c11, if_pos c12]
    simp only [if_pos c12, hh, if_pos c12.2]
  simp only [if_neg c12]
  have hh : headS x = 0 := by simp only [headS, if_neg hk, if_neg hn, if_neg c5, if_neg c6, if_neg c7, if_neg c8, if_neg c9, if_neg c10, if_neg c11, if_neg c12]
  rw [if_neg (show ¬ headS x ≠ 0 from fun h => h hh)]
  have hN : 0 ≤ x.N := by
    have : ¬ x.N < (if x.Kind = 7 then 1 else 0) := fun h => hn (.inl h)
    split at this <;> omega
  simp only [hu, decide_eq_true_eq, tongue_checker_say.f, tongue_checker_stmt.p6, tongue_checker_stmt.p7, if_pos hN]
  by_cases c13 : 3 ≤ x.Kind ∧ x.Kind ≤ 6
  · by_cases c14 : d = 6
    · simp only [c13, c14, and_self, if_true]
    · simp only [c13, c14, and_false, and_self, if_true, if_false]
      by_cases c15 : x.Kind = 6
      · simp only [c15, if_true]
        cases hq : ([q0, q1, q2, q3] : List Bool)[(x.N).toNat]? with
        | none => rfl
        | some e1 =>
          simp only
          cases e1 with
          | true => rfl
          | false =>
            simp only [Bool.false_eq_true, if_false]
            cases hL1 : L a c f (((([q0, q1, q2, q3] : List Bool).set ((x.N).toNat) true)[0]?).getD false) (((([q0, q1, q2, q3] : List Bool).set ((x.N).toNat) true)[1]?).getD false) (((([q0, q1, q2, q3] : List Bool).set ((x.N).toNat) true)[2]?).getD false) (((([q0, q1, q2, q3] : List Bool).set ((x.N).toNat) true)[3]?).getD false) x.Body (IntKind.i64.wrap (d + 1)) with
            | none => rfl
            | some r3 =>
              simp only
              cases c16 : r3.1 with
              | true =>
                simp only [if_true]
                cases L r3.2.1 r3.2.2.1 r3.2.2.2.1 r3.2.2.2.2.1 r3.2.2.2.2.2.1 r3.2.2.2.2.2.2.1 r3.2.2.2.2.2.2.2 x.Else (IntKind.i64.wrap (d + 1)) with
                | none => rfl
                | some r4 => rfl
              | false =>
                simp only [Bool.false_eq_true, if_false]
                all_goals (cases tongue_checker_stmt_1.f r3.2.1 r3.2.2.1 r3.2.2.2.1 r3.2.2.2.2.1 r3.2.2.2.2.2.1 r3.2.2.2.2.2.2.1 r3.2.2.2.2.2.2.2 6 x.N x.E.Kind x.E.N x.E.A x.If.Kind x.If.A.Kind x.If.A.N x.If.A.A x.If.B.Kind x.If.B.N x.If.B.A x.Body x.Else <;> rfl)
      · simp only [c15, if_false]
        cases L a c f q0 q1 q2 q3 x.Body (IntKind.i64.wrap (d + 1)) with
        | none => rfl
        | some r7 =>
          simp only
          cases c16 : r7.1 with
          | true =>
            simp only [if_true]
            cases L r7.2.1 r7.2.2.1 r7.2.2.2.1 r7.2.2.2.2.1 r7.2.2.2.2.2.1 r7.2.2.2.2.2.2.1 r7.2.2.2.2.2.2.2 x.Else (IntKind.i64.wrap (d + 1)) <;> rfl
          | false => rfl
  · have c15 : ¬ x.Kind = 6 := by omega
    simp only [c13, false_and, if_false, c15]
    cases L a c f q0 q1 q2 q3 x.Body (IntKind.i64.wrap (d + 1)) with
    | none => rfl
    | some r7 =>
      simp only
      cases c16 : r7.1 with
      | true =>
        simp only [if_true]
        cases L r7.2.1 r7.2.2.1 r7.2.2.2.1 r7.2.2.2.2.1 r7.2.2.2.2.2.1 r7.2.2.2.2.2.2.1 r7.2.2.2.2.2.2.2 x.Else (IntKind.i64.wrap (d + 1)) <;> rfl
      | false => rfl

theorem locks_set (ls : List Int) (n : Int) (h0 : 0 ≤ n) (h1 : n ≤ 3) (q0 q1 q2 q3 : Bool) (e0 : q0 = decide ((0 : Int) ∈ ls)) (e1 : q1 = decide ((1 : Int) ∈ ls)) (e2 : q2 = decide ((2 : Int) ∈ ls)) (e3 : q3 = decide ((3 : Int) ∈ ls)) :
    ([q0, q1, q2, q3] : List Bool)[n.toNat]? = some (decide (n ∈ ls)) ∧
    (((([q0, q1, q2, q3] : List Bool).set (n.toNat) true)[0]?).getD false) = decide ((0 : Int) ∈ ls ++ [n]) ∧
    (((([q0, q1, q2, q3] : List Bool).set (n.toNat) true)[1]?).getD false) = decide ((1 : Int) ∈ ls ++ [n]) ∧
    (((([q0, q1, q2, q3] : List Bool).set (n.toNat) true)[2]?).getD false) = decide ((2 : Int) ∈ ls ++ [n]) ∧
    (((([q0, q1, q2, q3] : List Bool).set (n.toNat) true)[3]?).getD false) = decide ((3 : Int) ∈ ls ++ [n]) := by
  have hn : n = 0 ∨ n = 1 ∨ n = 2 ∨ n = 3 := by omega
  rcases hn with rfl | rfl | rfl | rfl <;> simp [e0, e1, e2, e3]
theorem locks_back (ls : List Int) (n : Int) (h0 : 0 ≤ n) (h1 : n ≤ 3) (hn : n ∉ ls) (x y z u v w s t o : Int) (l1 l2 l3 : List SExpr) (l4 l5 : List SStmt) (k1 k2 k3 k4 k5 k6 k7 : Int) :
    tongue_checker_stmt_1.f x y z (decide ((0 : Int) ∈ ls ++ [n])) (decide ((1 : Int) ∈ ls ++ [n])) (decide ((2 : Int) ∈ ls ++ [n])) (decide ((3 : Int) ∈ ls ++ [n])) k1 n k2 k3 l1 k4 k5 k6 l2 k7 u l3 l4 l5
      = some (decide ((0 : Int) ∈ ls), decide ((1 : Int) ∈ ls), decide ((2 : Int) ∈ ls), decide ((3 : Int) ∈ ls)) := by
  have hn' : n = 0 ∨ n = 1 ∨ n = 2 ∨ n = 3 := by omega
  rcases hn' with rfl | rfl | rfl | rfl <;> simp [tongue_checker_stmt_1.f, hn]
theorem back_some (n : Int) (h0 : 0 ≤ n) (h1 : n ≤ 3) (x y z u : Int) (q0 q1 q2 q3 : Bool) (l1 l2 l3 : List SExpr) (l4 l5 : List SStmt) (k1 k2 k3 k4 k5 k6 k7 : Int) :
    ∃ r, tongue_checker_stmt_1.f x y z q0 q1 q2 q3 k1 n k2 k3 l1 k4 k5 k6 l2 k7 u l3 l4 l5 = some r := by
  have hn' : n = 0 ∨ n = 1 ∨ n = 2 ∨ n = 3 := by omega
  rcases hn' with rfl | rfl | rfl | rfl <;> exact ⟨_, rfl⟩
theorem head_n {x : SStmt} (h : headS x = 0) : (1 ≤ x.Kind ∧ x.Kind ≤ 7) ∧ (x.Kind = 6 → 0 ≤ x.N ∧ x.N ≤ 3) ∧ (¬ (3 ≤ x.Kind ∧ x.Kind ≤ 6) → x.Body = [] ∧ x.Else = []) := by
  simp only [headS] at h
  by_cases hk : x.Kind < 1 ∨ x.Kind > 7
  · rw [if_pos hk] at h; cases h
  rw [if_neg hk] at h
  by_cases hn : x.N < (if x.Kind = 7 then 1 else 0) ∨ x.N > (if x.Kind = 1 then 7 else if x.Kind = 2 then 3 else if x.Kind = 3 then 0 else if x.Kind = 6 then 3 else 1000)
  · rw [if_pos hn] at h; cases h
  rw [if_neg hn] at h
  split at h
  · cases h
  split at h
  · cases h
  by_cases c7 : ¬ (3 ≤ x.Kind ∧ x.Kind ≤ 6) ∧ x.Body.length > 0
  · rw [if_pos c7] at h; cases h
  rw [if_neg c7] at h
  by_cases c8 : x.Kind ≠ 3 ∧ x.Else.length > 0
  · rw [if_pos c8] at h; cases h
  refine ⟨by omega, fun h6 => ?_, fun hb => ⟨?_, ?_⟩⟩
  · rw [h6] at hn
    simp only [Int.reduceEq, if_false, if_true] at hn
    omega
  · have : ¬ x.Body.length > 0 := fun h => c7 ⟨hb, h⟩
    exact List.length_eq_zero_iff.1 (by omega)
  · have : ¬ x.Else.length > 0 := fun h => c8 ⟨by omega, h⟩
    exact List.length_eq_zero_iff.1 (by omega)
/-- a statement and what is in it -/
theorem stmt_eq (K : Nat) (hK : 4194304 < K) (L : Int → Int → Int → Bool → Bool → Bool → Bool → (List SStmt) → Int → Option Told) (x : SStmt) (a c f d : Int) (ls : List Int) (hb : x.blk ≤ 1048576) (hd0 : 0 ≤ d) (hd : d ≤ 6) (ha0 : -1 ≤ a) (ha : a - 1 + x.cnt ≤ 4194304)
    (hL : ∀ (l : List SStmt) (a' : Int), l = x.Body ∨ l = x.Else → (d < 6 ∨ l = []) → -1 ≤ a' → a' + SStmt.cntL l ≤ 4194304 → ∃ r, L a' c f (decide ((0 : Int) ∈ within x ls)) (decide ((1 : Int) ∈ within x ls)) (decide ((2 : Int) ∈ within x ls)) (decide ((3 : Int) ∈ within x ls)) l (d + 1) = some r ∧ GoodL r (SStmt.flL l (d + 1) (within x ls)) a' c f (within x ls)) :
    ∃ r, tongue_checker_stmt.b K L a c f (decide ((0 : Int) ∈ ls)) (decide ((1 : Int) ∈ ls)) (decide ((2 : Int) ∈ ls)) (decide ((3 : Int) ∈ ls)) x.Kind x.N x.E.Kind x.E.N x.E.A x.If.Kind x.If.A.Kind x.If.A.N x.If.A.A x.If.B.Kind x.If.B.N x.If.B.A x.Body x.Else d = some r ∧ GoodL r (x.fl d ls) (a - 1) c f ls := by
  have hc := x.cnt_eq
  have hw : IntKind.i64.wrap (d + 1) = d + 1 := wrap64_small (by omega) (by omega)
  rw [stmt_bad K hK L x a c f d _ _ _ _ hb]
  simp only [GoodL, x.fl_eq, firstW, hw]
  have ha1 : a - 1 + 1 = a := by omega
  rw [ha1]
  by_cases h1 : headS x ≠ 0
  · have hw : wrongS x d ls = headS x := by simp only [wrongS, if_pos h1]
    rw [if_pos h1]
    refine ⟨_, rfl, ?_⟩
    simp only [hw, if_pos h1]
    exact ⟨trivial, trivial, trivial⟩
  rw [if_neg h1]
  have h1' : headS x = 0 := Decidable.not_not.1 h1
  obtain ⟨hk, hN, hE⟩ := head_n h1'
  by_cases h2 : (3 ≤ x.Kind ∧ x.Kind ≤ 6) ∧ d = 6
  · have hw : wrongS x d ls = 2 := by
      simp only [wrongS, if_neg h1]
      rw [if_pos ⟨h2.1, by omega⟩]
    rw [if_pos h2]
    refine ⟨_, rfl, ?_⟩
    simp [hw]
  rw [if_neg h2]
  have h2' : ¬ ((3 ≤ x.Kind ∧ x.Kind ≤ 6) ∧ d ≥ 6) := fun h => h2 ⟨h.1, by omega⟩
  have hw : wrongS x d ls = if x.Kind = 6 ∧ x.N ∈ ls then 10 else 0 := by simp only [wrongS, if_neg h1, if_neg h2']
  have hin : d < 6 ∨ x.Body = [] := by
    by_cases h3 : 3 ≤ x.Kind ∧ x.Kind ≤ 6
    · left; have : d ≠ 6 := fun e => h2 ⟨h3, e⟩; omega
    · right; exact (hE h3).1
  have hin2 : d < 6 ∨ x.Else = [] := by
    by_cases h3 : 3 ≤ x.Kind ∧ x.Kind ≤ 6
    · left; have : d ≠ 6 := fun e => h2 ⟨h3, e⟩; omega
    · right; exact (hE h3).2
  have hcb : (SStmt.flL x.Body (d + 1) (within x ls)).length = SStmt.cntL x.Body := SStmt.flL_len _ _ _ _ (Nat.lt_succ_self _)
  have hce : (SStmt.flL x.Else (d + 1) (within x ls)).length = SStmt.cntL x.Else := SStmt.flL_len _ _ _ _ (Nat.lt_succ_self _)
  obtain ⟨r3, hr3, g3⟩ := hL x.Body a (.inl rfl) hin ha0 (by omega)
  obtain ⟨r4, hr4, g4⟩ := hL x.Else (a + SStmt.cntL x.Body) (.inr rfl) hin2 (by omega) (by omega)
  have hlen : (a - 1 + (((⟨x, d, ls⟩ : Sstatement) :: (SStmt.flL x.Body (d + 1) (within x ls) ++ SStmt.flL x.Else (d + 1) (within x ls))).length : Nat) : Int) = a + SStmt.cntL x.Body + SStmt.cntL x.Else := by
    simp only [List.length_cons, List.length_append, hcb, hce]; omega
  rw [hlen]
  simp only [GoodL, hcb, hce] at g3 g4
  simp only [firstW_append, hcb]
  by_cases h6 : x.Kind = 6
  · obtain ⟨hN0, hN1⟩ := hN h6
    obtain ⟨e0, e1, e2, e3, e4⟩ := locks_set ls x.N hN0 hN1 _ _ _ _ rfl rfl rfl rfl
    rw [if_pos h6, e0]
    simp only
    by_cases hin' : x.N ∈ ls
    · have hw' : wrongS x d ls = 10 := by rw [hw, if_pos ⟨h6, hin'⟩]
      simp only [hin', decide_true, if_true]
      refine ⟨_, rfl, ?_⟩
      simp [hw']
    · have hw' : wrongS x d ls = 0 := by rw [hw, if_neg (fun h => hin' h.2)]
      have hwi : within x ls = ls ++ [x.N] := by simp only [within, if_pos h6]
      simp only [hin', decide_false, Bool.false_eq_true, if_false, hw', ne_eq, not_true, e1, e2, e3, e4]
      rw [hwi] at hr3 hr4 g3 g4 ⊢
      rw [hr3]
      simp only
      cases hf : firstW (SStmt.flL x.Body (d + 1) (ls ++ [x.N])) a with
      | some y =>
        rw [hf] at g3
        simp only at g3 ⊢
        rw [g3.1]
        simp only [Bool.false_eq_true, if_false]
        obtain ⟨r5, hr5⟩ := back_some x.N hN0 hN1 r3.2.1 r3.2.2.1 r3.2.2.2.1 x.If.B.N r3.2.2.2.2.1 r3.2.2.2.2.2.1 r3.2.2.2.2.2.2.1 r3.2.2.2.2.2.2.2 x.E.A x.If.A.A x.If.B.A x.Body x.Else x.Kind x.E.Kind x.E.N x.If.Kind x.If.A.Kind x.If.A.N x.If.B.Kind
        rw [hr5]
        exact ⟨_, rfl, rfl, g3.2⟩
      | none =>
        rw [hf] at g3
        simp only at g3 ⊢
        rw [g3]
        simp only [if_true]
        rw [hr4]
        simp only
        cases hf2 : firstW (SStmt.flL x.Else (d + 1) (ls ++ [x.N])) (a + SStmt.cntL x.Body) with
        | some y =>
          rw [hf2] at g4
          simp only at g4 ⊢
          obtain ⟨r5, hr5⟩ := back_some x.N hN0 hN1 r4.2.1 r4.2.2.1 r4.2.2.2.1 x.If.B.N r4.2.2.2.2.1 r4.2.2.2.2.2.1 r4.2.2.2.2.2.2.1 r4.2.2.2.2.2.2.2 x.E.A x.If.A.A x.If.B.A x.Body x.Else x.Kind x.E.Kind x.E.N x.If.Kind x.If.A.Kind x.If.A.N x.If.B.Kind
          rw [hr5]
          exact ⟨_, rfl, g4⟩
        | none =>
          rw [hf2] at g4
          simp only at g4 ⊢
          rw [g4]
          simp only
          rw [locks_back ls x.N hN0 hN1 hin' _ _ _ _ 0 0 0 0 0]
          exact ⟨_, rfl, rfl⟩
  · have hw' : wrongS x d ls = 0 := by rw [hw, if_neg (fun h => h6 h.1)]
    have hwi : within x ls = ls := by simp only [within, if_neg h6]
    rw [if_neg h6]
    simp only [hw', ne_eq, not_true, if_false]
    rw [hwi] at hr3 hr4 g3 g4 ⊢
    rw [hr3]
    simp only
    cases hf : firstW (SStmt.flL x.Body (d + 1) ls) a with
    | some y =>
      rw [hf] at g3
      simp only at g3 ⊢
      rw [g3.1]
      simp only [Bool.false_eq_true, if_false]
      exact ⟨_, rfl, rfl, g3.2⟩
    | none =>
      rw [hf] at g3
      simp only at g3 ⊢
      rw [g3]
      simp only [if_true]
      rw [hr4]
      exact ⟨_, rfl, g4⟩

theorem fl_len (x : SStmt) (d : Int) (ls : List Int) : (x.fl d ls).length = x.cnt := by
  have h1 : (SStmt.flL x.Body (d + 1) (within x ls)).length = SStmt.cntL x.Body := SStmt.flL_len _ _ _ _ (Nat.lt_succ_self _)
  have h2 : (SStmt.flL x.Else (d + 1) (within x ls)).length = SStmt.cntL x.Else := SStmt.flL_len _ _ _ _ (Nat.lt_succ_self _)
  rw [x.fl_eq, x.cnt_eq]; simp only [List.length_cons, List.length_append, h1, h2]; omega
theorem list_eq (K : Nat) (hK : 4194304 < K) : ∀ (n : Nat) (l : List SStmt) (a c f d : Int) (ls : List Int), 3 * SStmt.blkL l < n → SStmt.blkL l ≤ 1048576 → 0 ≤ d → (d ≤ 6 ∨ l = []) → -1 ≤ a → a + SStmt.cntL l ≤ 4194304 →
    ∃ r, (tongue_checker_list.recs K n).1 a c f (decide ((0 : Int) ∈ ls)) (decide ((1 : Int) ∈ ls)) (decide ((2 : Int) ∈ ls)) (decide ((3 : Int) ∈ ls)) l d = some r ∧ GoodL r (SStmt.flL l d ls) a c f ls := by
  intro n
  induction n using Nat.strongRecOn with
  | ind n ih =>
    intro l a c f d ls hn hb hd0 hd ha0 ha
    obtain ⟨m, rfl⟩ : ∃ m, n = m + 1 := ⟨n - 1, by omega⟩
    have hlen := SStmt.blkL_len l
    obtain ⟨x, hx, hR⟩ := iter_rows (f := tongue_checker_list.r0 l d ((tongue_checker_list.recs K m).2.1)) (fun (s : Int × Int × Int × Bool × Bool × Bool × Bool) i => (i, s)) l
      (fun r s => ∃ b : Int, s = (b, c, f, decide ((0 : Int) ∈ ls), decide ((1 : Int) ∈ ls), decide ((2 : Int) ∈ ls), decide ((3 : Int) ∈ ls)) ∧ -1 ≤ b ∧ b + SStmt.cntL r ≤ 4194304)
      (fun r s x => match x with
        | .inl t => GoodL (true, t) (SStmt.flL r d ls) s.1 c f ls
        | .inr t => GoodL t (SStmt.flL r d ls) s.1 c f ls)
      (fun s hs => by
        obtain ⟨b, rfl, _⟩ := hs
        refine ⟨.inl _, by simp only [tongue_checker_list.r0, Int.lt_irrefl, if_false]; rfl, ?_⟩
        simp [GoodL, SStmt.flL, firstW])
      (fun e r s i he hi hs => by
        obtain ⟨b, rfl, hb0, hb1⟩ := hs
        have h1 := SStmt.blkL_mem (mem_of_at he)
        have h2 := e.blk_eq
        have h3 := e.cnt_eq
        have hi' : (i : Int) < (l.length : Int) := by omega
        have hd6 : d ≤ 6 := by
          rcases hd with hd | hd
          · exact hd
          · rw [hd] at hi; simp at hi
        simp only [SStmt.cntL] at hb1
        obtain ⟨m, rfl⟩ : ∃ k, m = k + 2 := ⟨m - 2, by omega⟩
        have hw : IntKind.i64.wrap (b + 1) = b + 1 := wrap64_small (by omega) (by omega)
        obtain ⟨t, ht, hg⟩ := stmt_eq K hK ((tongue_checker_list.recs K m).1) e (b + 1) c f d ls (by omega) hd0 hd6 (by omega) (by omega) (fun l' a' hl' hd' h0' h1' => by
          refine ih m (by omega) l' a' c f (d + 1) (within e ls) ?_ ?_ (by omega) ?_ h0' h1'
          · rcases hl' with rfl | rfl <;> omega
          · rcases hl' with rfl | rfl <;> omega
          · rcases hd' with h | h
            · left; omega
            · right; exact h)
        have hat : (tongue_checker_list.recs K (m + 2)).2.1 b c f (decide ((0 : Int) ∈ ls)) (decide ((1 : Int) ∈ ls)) (decide ((2 : Int) ∈ ls)) (decide ((3 : Int) ∈ ls)) e.Kind e.N e.E.Kind e.E.N e.E.A e.If.Kind e.If.A.Kind e.If.A.N e.If.A.A e.If.B.Kind e.If.B.N e.If.B.A e.Body e.Else d = some t := by
          show tongue_checker_stmtAt.b K ((tongue_checker_list.recs K (m + 1)).2.2) _ _ _ _ _ _ _ _ _ _ _ _ _ _ _ _ _ _ _ _ _ _ = _
          simp only [tongue_checker_stmtAt.b, hw]
          have : (tongue_checker_list.recs K (m + 1)).2.2 = tongue_checker_stmt.b K ((tongue_checker_list.recs K m).1) := rfl
          rw [this, ht]
        have hb2 : b + 1 - 1 = b := by omega
        rw [hb2] at hg
        cases hf : firstW (e.fl d ls) b with
        | none =>
          left
          simp only [GoodL, hf, fl_len] at hg
          refine ⟨(b + e.cnt, c, f, decide ((0 : Int) ∈ ls), decide ((1 : Int) ∈ ls), decide ((2 : Int) ∈ ls), decide ((3 : Int) ∈ ls)), ?_, ⟨_, rfl, by omega, by omega⟩, fun x hx => ?_⟩
          · simp only [tongue_checker_list.r0, if_pos hi', he]
            rw [hat, hg]
            rfl
          · have key : ∀ t, GoodL t (SStmt.flL r d ls) (b + e.cnt) c f ls → GoodL t (SStmt.flL (e :: r) d ls) b c f ls := by
              intro t h
              simp only [GoodL, SStmt.flL, firstW_append, hf, fl_len, List.length_append] at h ⊢
              rw [show (b + ((e.cnt + (SStmt.flL r d ls).length : Nat) : Int)) = b + e.cnt + (SStmt.flL r d ls).length by omega]
              exact h
            cases x with
            | inl t => exact key _ hx
            | inr t => exact key _ hx
        | some y =>
          right
          simp only [GoodL, hf] at hg
          refine ⟨.inr (false, t.2), ?_, ?_⟩
          · simp only [tongue_checker_list.r0, if_pos hi', he]
            rw [hat]
            simp only [hg.1, Bool.false_eq_true, if_false]
          · simp only [GoodL, SStmt.flL, firstW_append, hf]
            exact ⟨trivial, hg.2⟩)
      (s := (a, c, f, decide ((0 : Int) ∈ ls), decide ((1 : Int) ∈ ls), decide ((2 : Int) ∈ ls), decide ((3 : Int) ∈ ls))) ⟨a, rfl, ha0, ha⟩ (K := K) (by omega)
    show ∃ r, tongue_checker_list.b K ((tongue_checker_list.recs K m).2.1) _ _ _ _ _ _ _ _ _ = some r ∧ _
    simp only [tongue_checker_list.b]
    rw [hx]
    cases x with
    | inl t => exact ⟨_, rfl, hR⟩
    | inr t => exact ⟨_, rfl, hR⟩
/-- the reference's answer -/
theorem ref_eq (K : Nat) (hK : 4194304 < K) (l : List Sstatement) (hl : l.length ≤ 200) (hb : ∀ y ∈ l, y.s.blk ≤ 1048576 ∧ y.locks.length ≤ 2097152) :
    ∃ x, iter (punctualref_CheckBody.r0 K l) K 0 = some x ∧ x = (match firstW l (-1) with | none => .inl () | some y => .inr ⟨y.1, y.2⟩) := by
  obtain ⟨x, hx, hR⟩ := iter_rows (f := punctualref_CheckBody.r0 K l) (fun (_ : Unit) i => i) l (fun r s => True) (fun r s x => x = (match firstW r ((l.length : Int) - r.length - 1) with | none => .inl () | some y => .inr ⟨y.1, y.2⟩))
    (fun s hs => ⟨.inl (), by simp only [punctualref_CheckBody.r0, Int.lt_irrefl, if_false], by simp [firstW]⟩)
    (fun e r s i he hi hs => by
      have hi' : (i : Int) < (l.length : Int) := by omega
      obtain ⟨b1, b2⟩ := hb e (mem_of_at he)
      have hw := wrongStatement_eq K hK e.s e.deep e.locks b1 b2
      have hz : (l.length : Int) - ((e :: r).length : Nat) - 1 = (i : Int) - 1 := by simp only [List.length_cons]; omega
      have hz2 : (l.length : Int) - (r.length : Nat) - 1 = (i : Int) := by omega
      have hz3 : (i : Int) - 1 + 1 = i := by omega
      by_cases h : wrongS e.s e.deep e.locks = 0
      · left
        refine ⟨(), by simp only [punctualref_CheckBody.r0, if_pos hi', he, hw, if_pos h], trivial, fun x hx => ?_⟩
        rw [hx, hz, hz2]
        simp only [firstW, h, ne_eq, not_true, if_false, hz3]
      · right
        refine ⟨_, by simp only [punctualref_CheckBody.r0, if_pos hi', he, hw, if_neg h]; rfl, ?_⟩
        rw [hz]
        simp only [firstW, ne_eq, h, not_false_iff, if_true, hz3, punctualref_F.f])
    (s := ()) trivial (K := K) (by omega)
  have hz : (l.length : Int) - (l.length : Nat) - 1 = -1 := by omega
  rw [hz] at hR
  exact ⟨x, hx, hR⟩
theorem fl_mem : ∀ (n : Nat) (l : List SStmt) (d : Int) (ls : List Int), SStmt.blkL l < n → ls.length + SStmt.blkL l ≤ 2097152 → ∀ y ∈ SStmt.flL l d ls, y.s.blk ≤ SStmt.blkL l ∧ y.locks.length ≤ 2097152
  | 0, l, _, _, h, _, _, _ => by omega
  | n + 1, [], _, _, h, _, y, hy => by simp [SStmt.flL] at hy
  | n + 1, x :: l, d, ls, h, hl, y, hy => by
    have h1 := x.blk_eq
    simp only [SStmt.blkL] at h hl ⊢
    have hwl : (within x ls).length ≤ ls.length + 1 := by
      unfold within; split <;> simp
    simp only [SStmt.flL, x.fl_eq, List.mem_append, List.mem_cons] at hy
    rcases hy with (rfl | hy | hy) | hy
    · exact ⟨by show x.blk ≤ _; omega, by show ls.length ≤ _; omega⟩
    · have := fl_mem n x.Body (d + 1) (within x ls) (by omega) (by omega) y hy
      exact ⟨by omega, this.2⟩
    · have := fl_mem n x.Else (d + 1) (within x ls) (by omega) (by omega) y hy
      exact ⟨by omega, this.2⟩
    · have := fl_mem n l d ls (by omega) (by omega) y hy
      exact ⟨by omega, this.2⟩
theorem Check_eq (K : Nat) (hK : 4194304 < K) (l : List SStmt) (hb : SStmt.blkL l ≤ 1048576) : ∃ r, tongue_Check.f K l = some r ∧ punctualref_CheckBody.f K l = some r := by
  have e1 := Count_eq K hK K l (by omega) hb
  have e2 := Size_eq K hK K l (by omega) hb
  have hc := SStmt.cntL_le' l
  simp only [tongue_Check.f, punctualref_CheckBody.f, tongue_Count.f, punctualref_Size.f, e1, e2]
  by_cases h : (SStmt.cntL l : Int) > 200
  · exact ⟨⟨2, 0⟩, by rw [if_pos h], by rw [if_pos h]; rfl⟩
  rw [if_neg h, if_neg h]
  obtain ⟨r, hr, hg⟩ := list_eq K hK K l (-1) 0 0 0 [] (by omega) hb (by omega) (.inl (by omega)) (by omega) (by omega)
  have hr' : tongue_checker_list.f K (-1) 0 0 false false false false l 0 = some r := hr
  have e3 := Flat_eq K hK K l 0 [] (by omega) hb (by omega) (by omega) (by omega) (by simp; omega)
  have hfl : (SStmt.flL l 0 []).length = SStmt.cntL l := SStmt.flL_len _ _ _ _ (Nat.lt_succ_self _)
  obtain ⟨x, hx, hxe⟩ := ref_eq K hK (SStmt.flL l 0 []) (by omega) (fun y hy => by
    have := fl_mem _ l 0 [] (Nat.lt_succ_self _) (by simp; omega) y hy
    exact ⟨by omega, this.2⟩)
  simp only [hr', punctualref_Flat.f, e3, hx, hxe]
  simp only [GoodL] at hg
  cases hf : firstW (SStmt.flL l 0 []) (-1) with
  | none =>
    rw [hf] at hg
    simp only at hg ⊢
    rw [hg]
    exact ⟨_, rfl, rfl⟩
  | some y =>
    rw [hf] at hg
    simp only at hg ⊢
    rw [hg.2.1, hg.2.2]
    exact ⟨_, rfl, rfl⟩
theorem SFault.eqb_same (x : SFault) : SFault.eqb x x = true := by simp [SFault.eqb]

/-- a piece that begins so far on -/
def shift (p : Int) (x : SIns) : SIns :=
  if x.Op = 11 ∨ x.Op = 12 then ⟨x.Op, IntKind.i64.wrap (x.A + p), x.B⟩ else if x.Op = 14 then ⟨x.Op, x.A, IntKind.i64.wrap (x.B + p)⟩ else x
def mv (p : Int) (l : List SIns) : List SIns := l.map (shift p)
theorem mv_len (p : Int) (l : List SIns) : (mv p l).length = l.length := by simp [mv]
theorem mv_append (p : Int) (a b : List SIns) : mv p (a ++ b) = mv p a ++ mv p b := by simp [mv]
theorem mv_nil (p : Int) : mv p [] = [] := rfl
theorem wrap_wrap (x y : Int) : IntKind.i64.wrap (IntKind.i64.wrap x + y) = IntKind.i64.wrap (x + y) := by
  rw [IntKind.wrap_i64, IntKind.wrap_i64, IntKind.wrap_i64]; omega
theorem shift_shift (p q : Int) (x : SIns) : shift p (shift q x) = shift (q + p) x := by
  simp only [shift]
  by_cases h : x.Op = 11 ∨ x.Op = 12
  · simp only [if_pos h, wrap_wrap, Int.add_assoc]
  · by_cases h2 : x.Op = 14
    · simp only [if_neg h, if_pos h2, wrap_wrap, Int.add_assoc]
    · simp only [if_neg h, if_neg h2]
theorem mv_mv (p q : Int) (l : List SIns) : mv p (mv q l) = mv (q + p) l := by simp [mv, shift_shift]
def Fix (l : List SIns) : Prop := mv 0 l = l
theorem Fix.append {a b : List SIns} (h : Fix a) (k : Fix b) : Fix (a ++ b) := by unfold Fix at *; rw [mv_append, h, k]
theorem Fix.mv (p : Int) (l : List SIns) : Fix (mv p l) := by unfold Fix; rw [mv_mv, Int.add_zero]
theorem moved_eq (l : List SIns) (p : Int) (K : Nat) (hK : 4194304 * 16 < K) (hl : l.length ≤ 4194304 * 8) : punctualref_moved.f K l p = some (mv p l) := by
  obtain ⟨x, hx, hR⟩ := iter_rows (f := punctualref_moved.r0 l p) (fun z i => (z, i)) l (fun r s => s ++ mv p r = mv p l) (fun r s x => x = .inl (s ++ mv p r))
    (fun s hs => ⟨.inl s, by simp only [punctualref_moved.r0, Int.lt_irrefl, if_false], by simp [mv]⟩)
    (fun a r s i ha hi hs => by
      left
      have hi' : (i : Int) < (l.length : Int) := by omega
      have hsl : s.length < 5864062014805 := by
        have := congrArg List.length hs
        simp only [List.length_append, mv_len] at this
        omega
      refine ⟨s ++ [shift p a], ?_, by rw [← hs]; simp [mv], fun x hx => by rw [hx]; simp [mv]⟩
      simp only [punctualref_moved.r0, if_pos hi', ha, if_pos hsl, shift]
      by_cases h1 : a.Op = 11
      · simp [h1]
      · by_cases h2 : a.Op = 12
        · simp [h2]
        · by_cases h3 : a.Op = 14 <;> simp [h1, h2, h3])
    (s := ([] : List SIns)) rfl (K := K) (by omega)
  simp only [punctualref_moved.f, hx, hR, List.nil_append]
def joinP (a b : List SIns) : List SIns := a ++ mv a.length b
theorem join_eq (a b : List SIns) (K : Nat) (hK : 4194304 * 16 < K) (hl : a.length + b.length ≤ 4194304 * 8) : punctualref_join.f K a b = some (joinP a b) := by
  simp only [punctualref_join.f]
  rw [if_pos (by omega), moved_eq b _ K hK (by omega)]
  simp only [mv_len]
  rw [if_pos (by omega)]; rfl
theorem joinP_len (a b : List SIns) : (joinP a b).length = a.length + b.length := by simp [joinP, mv_len]
mutual
def SExpr.pc : SExpr → List SIns
  | ⟨k, n, a⟩ => if k = 1 then [⟨1, n, 0⟩] else if k = 2 then [⟨2, n, 0⟩] else if k = 3 then [⟨9, n, 0⟩] else if k = 4 then SExpr.pcL a ++ [⟨1, 0, 0⟩, ⟨1, 1, 0⟩, ⟨5, 0, 0⟩, ⟨6, 0, 0⟩] else SExpr.pcL a ++ [⟨k - 1, 0, 0⟩]
def SExpr.pcL : List SExpr → List SIns
  | [] => []
  | x :: l => x.pc ++ SExpr.pcL l
end
theorem SExpr.pc_eq (x : SExpr) : x.pc = if x.Kind = 1 then [⟨1, x.N, 0⟩] else if x.Kind = 2 then [⟨2, x.N, 0⟩] else if x.Kind = 3 then [⟨9, x.N, 0⟩] else if x.Kind = 4 then SExpr.pcL x.A ++ [⟨1, 0, 0⟩, ⟨1, 1, 0⟩, ⟨5, 0, 0⟩, ⟨6, 0, 0⟩] else SExpr.pcL x.A ++ [⟨x.Kind - 1, 0, 0⟩] := by cases x; simp only [SExpr.pc]
theorem SExpr.pc_len (x : SExpr) (h : (SExpr.pcL x.A).length ≤ 4 * SExpr.blkL x.A) : x.pc.length ≤ 4 * x.blk := by
  rw [x.pc_eq, x.blk_eq]
  repeat' split
  all_goals simp only [List.length_append, List.length_cons, List.length_nil]; omega
theorem SExpr.pcL_len : ∀ (n : Nat) (l : List SExpr), SExpr.blkL l < n → (SExpr.pcL l).length ≤ 4 * SExpr.blkL l
  | 0, l, h => by omega
  | n + 1, [], h => by simp [SExpr.pcL]
  | n + 1, x :: l, h => by
    have h1 := x.blk_eq
    simp only [SExpr.blkL] at h
    have h3 := x.pc_len (SExpr.pcL_len n x.A (by omega))
    have h5 := SExpr.pcL_len n l (by omega)
    simp only [SExpr.blkL, SExpr.pcL, List.length_append]
    omega
theorem SExpr.pc_len' (x : SExpr) : x.pc.length ≤ 4 * x.blk := x.pc_len (SExpr.pcL_len _ _ (Nat.lt_succ_self _))
theorem SExpr.pcL_len' (l : List SExpr) : (SExpr.pcL l).length ≤ 4 * SExpr.blkL l := SExpr.pcL_len _ _ (Nat.lt_succ_self _)
/-- an expression in which every node is right -/
theorem scanE_all : ∀ (l : List SExpr) (z : Int), (scanE l z).1 = 0 → ∀ x ∈ l, badE x = 0
  | [], _, _, x, hx => by simp at hx
  | y :: l, z, h, x, hx => by
    simp only [scanE] at h
    by_cases h0 : z - 1 < 0
    · simp [h0] at h
    · by_cases h1 : badE y = 0
      · simp only [if_neg h0, if_pos h1] at h
        rcases List.mem_cons.1 hx with rfl | hx
        · exact h1
        · exact scanE_all l (z - 1) h x hx
      · simp only [if_neg h0, if_neg h1] at h; exact absurd h h1
def okE (l : List SExpr) : Prop := ∀ x ∈ SExpr.ndsL l, badE x = 0
theorem okE.head {x : SExpr} {l : List SExpr} (h : okE (x :: l)) : badE x = 0 ∧ okE x.A := by
  refine ⟨h x ?_, fun y hy => h y ?_⟩
  · simp [SExpr.ndsL, x.nds_eq]
  · simp [SExpr.ndsL, x.nds_eq, hy]
theorem okE.tail {x : SExpr} {l : List SExpr} (h : okE (x :: l)) : okE l := fun y hy => h y (by simp [SExpr.ndsL, hy])
theorem okE.one {x : SExpr} (h : (scanE x.nds 30).1 = 0) : okE [x] := fun y hy => scanE_all _ _ h y (by simpa [SExpr.ndsL] using hy)
theorem badE_kind {x : SExpr} (h : badE x = 0) : (1 ≤ x.Kind ∧ x.Kind ≤ 7) ∧ (x.Kind ≤ 3 → x.A = []) := by
  simp only [badE] at h
  by_cases hk : x.Kind < 1 ∨ x.Kind > 7
  · rw [if_pos hk] at h; cases h
  rw [if_neg hk] at h
  by_cases hl : (x.A.length : Int) ≠ (if x.Kind ≤ 3 then 0 else if x.Kind = 4 then 1 else 2)
  · rw [if_pos hl] at h; cases h
  refine ⟨by omega, fun h3 => ?_⟩
  rw [if_pos h3] at hl
  exact List.length_eq_zero_iff.1 (by omega)
theorem put_eq (m : List SIns) (z a b c : Int) (h : m.length ≤ 4194304 * 8) : compile_maker_put.f m z a b c = some ((m.length : Int), m ++ [⟨a, b, c⟩]) := by
  simp only [compile_maker_put.f]
  rw [if_pos (by omega)]
  have : IntKind.i64.wrap (((m ++ [(⟨a, b, c⟩ : SIns)]).length : Int) - 1) = (m.length : Int) := by
    rw [wrap64_small] <;> simp only [List.length_append, List.length_cons, List.length_nil] <;> omega
  rw [this]
theorem here_eq (m r : List SIns) (x : SIns) (z : Int) (n : Int) (hn : n = (m.length : Int)) : compile_maker_here.f (m ++ x :: r) z n = some (m ++ ⟨x.Op, ((m ++ x :: r).length : Int), x.B⟩ :: r) := by
  subst hn
  simp only [compile_maker_here.f]
  rw [if_pos (by omega), Int.toNat_natCast, List.getElem?_append_right (Nat.le_refl _), Nat.sub_self]
  simp
theorem value_eq (K : Nat) (hK : 4194304 * 16 < K) : ∀ (n : Nat) (m : List SIns) (z : Int) (x : SExpr), x.blk ≤ n → x.blk ≤ 1048576 → okE [x] → m.length + 4 * x.blk ≤ 4194304 * 8 → compile_maker_value.recs K n m z x.Kind x.N x.A = some (m ++ x.pc)
  | 0, m, z, x, h, _, _, _ => by have := x.blk_eq; omega
  | n + 1, m, z, x, h, hb, hok, hm => by
    have hbx := x.blk_eq
    have hlen := SExpr.blkL_len x.A
    have hpl := SExpr.pcL_len' x.A
    obtain ⟨hk, hA⟩ := badE_kind hok.head.1
    show compile_maker_value.b K (compile_maker_value.recs K n) m z x.Kind x.N x.A = _
    obtain ⟨y, hy, hR⟩ := iter_rows (f := compile_maker_value.r0 z x.A (compile_maker_value.recs K n)) (fun z i => (i, z)) x.A (fun r s => s ++ SExpr.pcL r = m ++ SExpr.pcL x.A ∧ okE r ∧ s.length + 4 * SExpr.blkL r ≤ 4194304 * 8) (fun r s y => y = .inl (s ++ SExpr.pcL r))
      (fun s hs => ⟨.inl s, by simp only [compile_maker_value.r0, Int.lt_irrefl, if_false], by simp [SExpr.pcL]⟩)
      (fun a r s i ha hi hs => by
        left
        have h1 := SExpr.blkL_mem (mem_of_at ha)
        have hi' : (i : Int) < (x.A.length : Int) := by omega
        have hsl := hs.2.2
        simp only [SExpr.blkL] at hsl
        have hpa := a.pc_len'
        have e := value_eq K hK n s z a (by omega) (by omega) (fun y hy => hs.2.1 y (by simp only [SExpr.ndsL, List.append_nil] at hy; simp [SExpr.ndsL, hy])) (by omega)
        refine ⟨s ++ a.pc, by simp only [compile_maker_value.r0, if_pos hi', ha, e], ⟨by rw [← hs.1]; simp [SExpr.pcL], hs.2.1.tail, by rw [List.length_append]; omega⟩, fun x hx => by rw [hx]; simp [SExpr.pcL]⟩)
      (s := m) ⟨rfl, hok.head.2, by omega⟩ (K := K) (by omega)
    subst hR
    simp only [compile_maker_value.b, hy]
    have hk' : x.Kind = 1 ∨ x.Kind = 2 ∨ x.Kind = 3 ∨ x.Kind = 4 ∨ x.Kind = 5 ∨ x.Kind = 6 ∨ x.Kind = 7 := by omega
    rw [x.pc_eq]
    rcases hk' with e | e | e | e | e | e | e <;> simp only [e, Int.reduceEq, if_true, if_false]
    · rw [put_eq _ _ _ _ _ (by omega)]
    · rw [put_eq _ _ _ _ _ (by omega)]
    · rw [put_eq _ _ _ _ _ (by omega)]
    · rw [put_eq _ _ _ _ _ (by simp only [List.length_append]; omega)]
      simp only
      rw [put_eq _ _ _ _ _ (by simp only [List.length_append, List.length_cons, List.length_nil]; omega)]
      simp only
      rw [put_eq _ _ _ _ _ (by simp only [List.length_append, List.length_cons, List.length_nil]; omega)]
      simp only
      rw [put_eq _ _ _ _ _ (by simp only [List.length_append, List.length_cons, List.length_nil]; omega)]
      simp
    · rw [put_eq _ _ _ _ _ (by simp only [List.length_append]; omega)]
      simp
    · rw [put_eq _ _ _ _ _ (by simp only [List.length_append]; omega)]
      simp
    · rw [put_eq _ _ _ _ _ (by simp only [List.length_append]; omega)]
      simp
theorem exprPiece_eq (K : Nat) (hK : 4194304 * 16 < K) : ∀ (n : Nat) (x : SExpr), x.blk ≤ n → x.blk ≤ 1048576 → okE [x] → punctualref_exprPiece.recs K n x.Kind x.N x.A = some x.pc
  | 0, x, h, _, _ => by have := x.blk_eq; omega
  | n + 1, x, h, hb, hok => by
    have hbx := x.blk_eq
    have hlen := SExpr.blkL_len x.A
    have hpl := SExpr.pcL_len' x.A
    obtain ⟨hk, hA⟩ := badE_kind hok.head.1
    show punctualref_exprPiece.b K (punctualref_exprPiece.recs K n) x.Kind x.N x.A = _
    obtain ⟨y, hy, hR⟩ := iter_rows (f := punctualref_exprPiece.r0 x.A (punctualref_exprPiece.recs K n)) (fun z i => (z, i)) x.A (fun r s => s ++ SExpr.pcL r = SExpr.pcL x.A ∧ okE r) (fun r s y => y = .inl (s ++ SExpr.pcL r))
      (fun s hs => ⟨.inl s, by simp only [punctualref_exprPiece.r0, Int.lt_irrefl, if_false], by simp [SExpr.pcL]⟩)
      (fun a r s i ha hi hs => by
        left
        have h1 := SExpr.blkL_mem (mem_of_at ha)
        have hi' : (i : Int) < (x.A.length : Int) := by omega
        have hsl := congrArg List.length hs.1
        simp only [List.length_append, SExpr.pcL] at hsl
        have e := exprPiece_eq K hK n a (by omega) (by omega) (fun y hy => hs.2 y (by simp only [SExpr.ndsL, List.append_nil] at hy; simp [SExpr.ndsL, hy]))
        have hg : s.length + a.pc.length ≤ 5864062014805 := by omega
        refine ⟨s ++ a.pc, by simp only [punctualref_exprPiece.r0, if_pos hi', ha, e, if_pos hg], ⟨by rw [← hs.1]; simp [SExpr.pcL], hs.2.tail⟩, fun x hx => by rw [hx]; simp [SExpr.pcL]⟩)
      (s := ([] : List SIns)) ⟨rfl, hok.head.2⟩ (K := K) (by omega)
    subst hR
    simp only [punctualref_exprPiece.b, hy, List.nil_append]
    have hk' : x.Kind = 1 ∨ x.Kind = 2 ∨ x.Kind = 3 ∨ x.Kind = 4 ∨ x.Kind = 5 ∨ x.Kind = 6 ∨ x.Kind = 7 := by omega
    have g1 : (SExpr.pcL x.A).length + 4 ≤ 5864062014805 := by omega
    have g2 : (SExpr.pcL x.A).length < 5864062014805 := by omega
    rw [x.pc_eq]
    rcases hk' with e | e | e | e | e | e | e <;> simp only [e, Int.reduceEq, if_true, if_false, if_pos g1, if_pos g2]
    all_goals rfl

theorem value_f (K : Nat) (hK : 4194304 * 16 < K) (m : List SIns) (z : Int) (x : SExpr) (hb : x.blk ≤ 1048576) (hok : okE [x]) (hm : m.length + 4 * x.blk ≤ 4194304 * 8) : compile_maker_value.f K m z x.Kind x.N x.A = some (m ++ x.pc) := value_eq K hK K m z x (by omega) hb hok hm
theorem exprPiece_f (K : Nat) (hK : 4194304 * 16 < K) (x : SExpr) (hb : x.blk ≤ 1048576) (hok : okE [x]) : punctualref_exprPiece.f K x.Kind x.N x.A = some x.pc := exprPiece_eq K hK K x (by omega) hb hok
/-- a condition -/
def cpc (c : SCond) : List SIns := c.A.pc ++ c.B.pc ++ (if c.Kind = 2 ∨ c.Kind = 3 then [⟨8, 0, 0⟩] else [⟨7, 0, 0⟩]) ++ (if c.Kind ≥ 3 then [⟨1, 0, 0⟩, ⟨8, 0, 0⟩] else [])
theorem cpc_len (c : SCond) : (cpc c).length ≤ 4 * (c.A.blk + c.B.blk) + 3 := by
  have h1 := c.A.pc_len'
  have h2 := c.B.pc_len'
  unfold cpc
  repeat' split
  all_goals simp only [List.length_append, List.length_cons, List.length_nil]; omega
theorem unless_eq (K : Nat) (hK : 4194304 * 16 < K) (m : List SIns) (z : Int) (c : SCond) (hk : 1 ≤ c.Kind ∧ c.Kind ≤ 4) (ha : c.A.blk ≤ 1048576) (hb : c.B.blk ≤ 1048576) (oa : okE [c.A]) (ob : okE [c.B]) (hm : m.length + 4 * (c.A.blk + c.B.blk) + 4 ≤ 4194304 * 8) :
    compile_maker_unless.f K m z c.Kind c.A.Kind c.A.N c.A.A c.B.Kind c.B.N c.B.A = some (((m ++ cpc c).length : Int), m ++ cpc c ++ [⟨12, 0, 0⟩]) := by
  have h1 := c.A.pc_len'
  have h2 := c.B.pc_len'
  simp only [compile_maker_unless.f]
  rw [value_f K hK m z c.A ha oa (by omega)]
  simp only
  rw [value_f K hK _ z c.B hb ob (by rw [List.length_append]; omega)]
  simp only
  have hk' : c.Kind = 1 ∨ c.Kind = 2 ∨ c.Kind = 3 ∨ c.Kind = 4 := by omega
  rcases hk' with e | e | e | e <;> simp only [e, Int.reduceEq, if_true, if_false]
  · rw [put_eq _ _ _ _ _ (by simp only [List.length_append]; omega)]
    simp only
    rw [put_eq _ _ _ _ _ (by simp only [List.length_append, List.length_cons, List.length_nil]; omega)]
    simp [cpc, e]
  · rw [put_eq _ _ _ _ _ (by simp only [List.length_append]; omega)]
    simp only
    rw [put_eq _ _ _ _ _ (by simp only [List.length_append, List.length_cons, List.length_nil]; omega)]
    simp [cpc, e]
  · rw [put_eq _ _ _ _ _ (by simp only [List.length_append]; omega)]
    simp only
    rw [put_eq _ _ _ _ _ (by simp only [List.length_append, List.length_cons, List.length_nil]; omega)]
    simp only
    rw [put_eq _ _ _ _ _ (by simp only [List.length_append, List.length_cons, List.length_nil]; omega)]
    simp only
    rw [put_eq _ _ _ _ _ (by simp only [List.length_append, List.length_cons, List.length_nil]; omega)]
    simp [cpc, e]
  · rw [put_eq _ _ _ _ _ (by simp only [List.length_append]; omega)]
    simp only
    rw [put_eq _ _ _ _ _ (by simp only [List.length_append, List.length_cons, List.length_nil]; omega)]
    simp only
    rw [put_eq _ _ _ _ _ (by simp only [List.length_append, List.length_cons, List.length_nil]; omega)]
    simp only
    rw [put_eq _ _ _ _ _ (by simp only [List.length_append, List.length_cons, List.length_nil]; omega)]
    simp [cpc, e]
theorem condPiece_eq (K : Nat) (hK : 4194304 * 16 < K) (c : SCond) (hk : 1 ≤ c.Kind ∧ c.Kind ≤ 4) (ha : c.A.blk ≤ 1048576) (hb : c.B.blk ≤ 1048576) (oa : okE [c.A]) (ob : okE [c.B]) :
    punctualref_condPiece.f K c.Kind c.A.Kind c.A.N c.A.A c.B.Kind c.B.N c.B.A = some (cpc c) := by
  have h1 := c.A.pc_len'
  have h2 := c.B.pc_len'
  have g0 : c.A.pc.length + c.B.pc.length ≤ 5864062014805 := by omega
  have g1 : (c.A.pc ++ c.B.pc).length < 5864062014805 := by rw [List.length_append]; omega
  have g2 : (c.A.pc ++ c.B.pc ++ [(⟨8, 0, 0⟩ : SIns)]).length + 2 ≤ 5864062014805 := by simp only [List.length_append, List.length_cons, List.length_nil]; omega
  have g3 : (c.A.pc ++ c.B.pc ++ [(⟨7, 0, 0⟩ : SIns)]).length + 2 ≤ 5864062014805 := by simp only [List.length_append, List.length_cons, List.length_nil]; omega
  simp only [punctualref_condPiece.f, punctualref_condPiece.p0]
  rw [exprPiece_f K hK c.A ha oa, exprPiece_f K hK c.B hb ob]
  simp only [if_pos g0, if_pos g1, if_pos g2, if_pos g3]
  have hk' : c.Kind = 1 ∨ c.Kind = 2 ∨ c.Kind = 3 ∨ c.Kind = 4 := by omega
  rcases hk' with e | e | e | e <;> simp [cpc, e]
/-- no jumps -/
def NoJ (l : List SIns) : Prop := ∀ x ∈ l, x.Op ≠ 11 ∧ x.Op ≠ 12 ∧ x.Op ≠ 14
theorem NoJ.kept {l : List SIns} (h : NoJ l) (p : Int) : mv p l = l := by
  induction l with
  | nil => rfl
  | cons x l ih =>
    have hx := h x (by simp)
    show shift p x :: mv p l = _
    rw [ih (fun y hy => h y (by simp [hy]))]
    simp [shift, hx.1, hx.2.1, hx.2.2]
theorem NoJ.append {a b : List SIns} (h : NoJ a) (k : NoJ b) : NoJ (a ++ b) := fun x hx => by
  rcases List.mem_append.1 hx with hx | hx
  · exact h x hx
  · exact k x hx
theorem pcL_noJ : ∀ (n : Nat) (l : List SExpr), SExpr.blkL l < n → okE l → NoJ (SExpr.pcL l)
  | 0, l, h, _ => by omega
  | n + 1, [], h, _ => by intro x hx; simp [SExpr.pcL] at hx
  | n + 1, x :: l, h, hok => by
    have h1 := x.blk_eq
    simp only [SExpr.blkL] at h
    have h3 := pcL_noJ n x.A (by omega) hok.head.2
    have h5 := pcL_noJ n l (by omega) hok.tail
    obtain ⟨hk, _⟩ := badE_kind hok.head.1
    refine NoJ.append ?_ h5
    rw [x.pc_eq]
    have hk' : x.Kind = 1 ∨ x.Kind = 2 ∨ x.Kind = 3 ∨ x.Kind = 4 ∨ x.Kind = 5 ∨ x.Kind = 6 ∨ x.Kind = 7 := by omega
    rcases hk' with e | e | e | e | e | e | e <;> simp only [e, Int.reduceEq, if_true, if_false]
    all_goals first | (refine NoJ.append h3 ?_; intro y hy; simp at hy; rcases hy with rfl | rfl | rfl | rfl <;> decide) | (refine NoJ.append h3 ?_; intro y hy; simp at hy; subst hy; decide) | (intro y hy; simp at hy; subst hy; exact ⟨by simp, by simp, by simp⟩)
theorem pc_noJ {x : SExpr} (h : okE [x]) : NoJ x.pc := by
  have := pcL_noJ _ [x] (Nat.lt_succ_self _) h
  simpa [SExpr.pcL] using this
theorem cpc_noJ {c : SCond} (oa : okE [c.A]) (ob : okE [c.B]) : NoJ (cpc c) := by
  refine NoJ.append (NoJ.append (NoJ.append (pc_noJ oa) (pc_noJ ob)) ?_) ?_
  · intro y hy; split at hy <;> simp at hy <;> subst hy <;> decide
  · intro y hy
    split at hy
    · simp at hy; rcases hy with rfl | rfl <;> decide
    · simp at hy

mutual
def SStmt.pc : SStmt → Int → List SIns
  | ⟨k, n, e, i, b, l⟩, d =>
    if k ≤ 2 then e.pc ++ [⟨if k = 1 then 3 else 10, n, 0⟩]
    else if k = 3 then
      (if l.length = 0 then joinP (cpc i ++ [⟨12, ((cpc i).length : Int) + 1 + (SStmt.pcL b d).length, 0⟩]) (SStmt.pcL b d)
       else joinP (joinP (cpc i ++ [⟨12, ((cpc i).length : Int) + 1 + (SStmt.pcL b d).length + 1, 0⟩]) (SStmt.pcL b d) ++ [⟨11, ((cpc i).length : Int) + 1 + (SStmt.pcL b d).length + 1 + (SStmt.pcL l d).length, 0⟩]) (SStmt.pcL l d))
    else if k = 4 then (if n = 0 then [] else joinP [⟨13, d, n - 1⟩] (SStmt.pcL b (d + 1)) ++ [⟨14, d, 1⟩])
    else if k = 5 then (if n = 0 then [] else joinP [⟨13, d, n - 1⟩] (joinP (cpc i ++ [⟨12, ((cpc i).length : Int) + 1 + (SStmt.pcL b (d + 1)).length + 1, 0⟩]) (SStmt.pcL b (d + 1)) ++ [⟨11, ((cpc i).length : Int) + 1 + (SStmt.pcL b (d + 1)).length + 2, 0⟩, ⟨15, d, 0⟩]) ++ [⟨14, d, 1⟩])
    else if k = 6 then joinP [⟨16, n, 0⟩] (SStmt.pcL b d) ++ [⟨17, n, 0⟩]
    else [⟨18, n, 0⟩]
def SStmt.pcL : List SStmt → Int → List SIns
  | [], _ => []
  | x :: l, d => joinP (x.pc d) (SStmt.pcL l d)
end

theorem SStmt.pc_eq (x : SStmt) (d : Int) : x.pc d =
    if x.Kind ≤ 2 then x.E.pc ++ [⟨if x.Kind = 1 then 3 else 10, x.N, 0⟩]
    else if x.Kind = 3 then
      (if x.Else.length = 0 then joinP (cpc x.If ++ [⟨12, ((cpc x.If).length : Int) + 1 + (SStmt.pcL x.Body d).length, 0⟩]) (SStmt.pcL x.Body d)
       else joinP (joinP (cpc x.If ++ [⟨12, ((cpc x.If).length : Int) + 1 + (SStmt.pcL x.Body d).length + 1, 0⟩]) (SStmt.pcL x.Body d) ++ [⟨11, ((cpc x.If).length : Int) + 1 + (SStmt.pcL x.Body d).length + 1 + (SStmt.pcL x.Else d).length, 0⟩]) (SStmt.pcL x.Else d))
    else if x.Kind = 4 then (if x.N = 0 then [] else joinP [⟨13, d, x.N - 1⟩] (SStmt.pcL x.Body (d + 1)) ++ [⟨14, d, 1⟩])
    else if x.Kind = 5 then (if x.N = 0 then [] else joinP [⟨13, d, x.N - 1⟩] (joinP (cpc x.If ++ [⟨12, ((cpc x.If).length : Int) + 1 + (SStmt.pcL x.Body (d + 1)).length + 1, 0⟩]) (SStmt.pcL x.Body (d + 1)) ++ [⟨11, ((cpc x.If).length : Int) + 1 + (SStmt.pcL x.Body (d + 1)).length + 2, 0⟩, ⟨15, d, 0⟩]) ++ [⟨14, d, 1⟩])
    else if x.Kind = 6 then joinP [⟨16, x.N, 0⟩] (SStmt.pcL x.Body d) ++ [⟨17, x.N, 0⟩]
    else [⟨18, x.N, 0⟩] := by cases x; simp only [SStmt.pc]
theorem SStmt.pc_len (x : SStmt) (d : Int) (h : ∀ e, (SStmt.pcL x.Body e).length ≤ 16 * SStmt.blkL x.Body) (k : ∀ e, (SStmt.pcL x.Else e).length ≤ 16 * SStmt.blkL x.Else) : (x.pc d).length ≤ 16 * x.blk := by
  have h1 := x.E.pc_len'
  have h2 := cpc_len x.If
  have b := x.blk_eq
  have b1 := x.E.blk_eq
  have b2 := x.If.A.blk_eq
  have b3 := x.If.B.blk_eq
  have hd := h d
  have hd1 := h (d + 1)
  have kd := k d
  rw [x.pc_eq]
  repeat' split
  all_goals simp only [joinP_len, List.length_append, List.length_cons, List.length_nil]; omega
theorem SStmt.pcL_len : ∀ (n : Nat) (l : List SStmt) (d : Int), SStmt.blkL l < n → (SStmt.pcL l d).length ≤ 16 * SStmt.blkL l
  | 0, l, _, h => by omega
  | n + 1, [], d, h => by simp [SStmt.pcL]
  | n + 1, x :: l, d, h => by
    have h1 := x.blk_eq
    simp only [SStmt.blkL] at h
    have h3 := x.pc_len d (fun e => SStmt.pcL_len n x.Body e (by omega)) (fun e => SStmt.pcL_len n x.Else e (by omega))
    have h5 := SStmt.pcL_len n l d (by omega)
    simp only [SStmt.blkL, SStmt.pcL, joinP_len]
    omega
theorem SStmt.pcL_len' (l : List SStmt) (d : Int) : (SStmt.pcL l d).length ≤ 16 * SStmt.blkL l := SStmt.pcL_len _ _ _ (Nat.lt_succ_self _)
theorem SStmt.pc_len' (x : SStmt) (d : Int) : (x.pc d).length ≤ 16 * x.blk := x.pc_len d (fun e => SStmt.pcL_len' _ e) (fun e => SStmt.pcL_len' _ e)
theorem mv_cons (p : Int) (x : SIns) (l : List SIns) : mv p (x :: l) = shift p x :: mv p l := rfl
theorem shift12 {A p : Int} (h : 0 ≤ A + p ∧ A + p ≤ 4294967296) : shift p ⟨12, A, 0⟩ = ⟨12, A + p, 0⟩ := by
  show (⟨12, IntKind.i64.wrap (A + p), 0⟩ : SIns) = _
  rw [w64 h.1 h.2]
theorem shift11 {A p : Int} (h : 0 ≤ A + p ∧ A + p ≤ 4294967296) : shift p ⟨11, A, 0⟩ = ⟨11, A + p, 0⟩ := by
  show (⟨11, IntKind.i64.wrap (A + p), 0⟩ : SIns) = _
  rw [w64 h.1 h.2]
theorem shift14 {A p d : Int} (h : 0 ≤ A + p ∧ A + p ≤ 4294967296) : shift p ⟨14, d, A⟩ = ⟨14, d, A + p⟩ := by
  show (⟨14, d, IntKind.i64.wrap (A + p)⟩ : SIns) = _
  rw [w64 h.1 h.2]
theorem shift_other {p : Int} {x : SIns} (h : x.Op ≠ 11 ∧ x.Op ≠ 12 ∧ x.Op ≠ 14) : shift p x = x := by simp [shift, h.1, h.2.1, h.2.2]
/-- what a right statement has -/
theorem head_exprs {x : SStmt} (h : headS x = 0) : (x.Kind ≤ 2 → okE [x.E]) ∧ (x.Kind = 3 ∨ x.Kind = 5 → (1 ≤ x.If.Kind ∧ x.If.Kind ≤ 4) ∧ okE [x.If.A] ∧ okE [x.If.B]) := by
  simp only [headS] at h
  by_cases hk : x.Kind < 1 ∨ x.Kind > 7
  · rw [if_pos hk] at h; cases h
  rw [if_neg hk] at h
  by_cases hn : x.N < (if x.Kind = 7 then 1 else 0) ∨ x.N > (if x.Kind = 1 then 7 else if x.Kind = 2 then 3 else if x.Kind = 3 then 0 else if x.Kind = 6 then 3 else 1000)
  · rw [if_pos hn] at h; cases h
  rw [if_neg hn] at h
  by_cases c1 : ¬ (x.Kind ≤ 2) ∧ noE x.E = false
  · rw [if_pos c1] at h; cases h
  rw [if_neg c1] at h
  by_cases c2 : ¬ (x.Kind = 3 ∨ x.Kind = 5) ∧ ¬ (x.If.Kind = 0 ∧ noE x.If.A = true ∧ noE x.If.B = true)
  · rw [if_pos c2] at h; cases h
  rw [if_neg c2] at h
  by_cases c7 : ¬ (3 ≤ x.Kind ∧ x.Kind ≤ 6) ∧ x.Body.length > 0
  · rw [if_pos c7] at h; cases h
  rw [if_neg c7] at h
  by_cases c8 : x.Kind ≠ 3 ∧ x.Else.length > 0
  · rw [if_pos c8] at h; cases h
  rw [if_neg c8] at h
  by_cases c9 : x.Kind ≤ 2 ∧ (scanE x.E.nds 30).1 ≠ 0
  · rw [if_pos c9] at h; exact absurd h c9.2
  rw [if_neg c9] at h
  by_cases c10 : (x.Kind = 3 ∨ x.Kind = 5) ∧ (x.If.Kind < 1 ∨ x.If.Kind > 4)
  · rw [if_pos c10] at h; cases h
  rw [if_neg c10] at h
  by_cases c11 : (x.Kind = 3 ∨ x.Kind = 5) ∧ (scanE x.If.A.nds 30).1 ≠ 0
  · rw [if_pos c11] at h; exact absurd h c11.2
  rw [if_neg c11] at h
  by_cases c12 : (x.Kind = 3 ∨ x.Kind = 5) ∧ (scanE x.If.B.nds 30).1 ≠ 0
  · rw [if_pos c12] at h; exact absurd h c12.2
  refine ⟨fun h2 => okE.one (Decidable.not_not.1 fun g => c9 ⟨h2, g⟩), fun h3 => ⟨?_, okE.one (Decidable.not_not.1 fun g => c11 ⟨h3, g⟩), okE.one (Decidable.not_not.1 fun g => c12 ⟨h3, g⟩)⟩⟩
  have : ¬ (x.If.Kind < 1 ∨ x.If.Kind > 4) := fun g => c10 ⟨h3, g⟩
  omega
theorem head_range {x : SStmt} (h : headS x = 0) : 0 ≤ x.N ∧ x.N ≤ 1000 := by
  simp only [headS] at h
  by_cases hk : x.Kind < 1 ∨ x.Kind > 7
  · rw [if_pos hk] at h; cases h
  rw [if_neg hk] at h
  by_cases hn : x.N < (if x.Kind = 7 then 1 else 0) ∨ x.N > (if x.Kind = 1 then 7 else if x.Kind = 2 then 3 else if x.Kind = 3 then 0 else if x.Kind = 6 then 3 else 1000)
  · rw [if_pos hn] at h; cases h
  have h1 : ¬ x.N < (if x.Kind = 7 then 1 else 0) := fun g => hn (.inl g)
  have h2 : ¬ x.N > (if x.Kind = 1 then 7 else if x.Kind = 2 then 3 else if x.Kind = 3 then 0 else if x.Kind = 6 then 3 else 1000) := fun g => hn (.inr g)
  constructor
  · split at h1 <;> omega
  · repeat' split at h2
    all_goals omega
theorem within_else {x : SStmt} (h : headS x = 0) (h3 : x.Kind ≠ 3) : x.Else = [] := by
  simp only [headS] at h
  by_cases c8 : x.Kind ≠ 3 ∧ x.Else.length > 0
  · rw [if_pos c8] at h
    repeat' split at h
    all_goals cases h
  · have : ¬ x.Else.length > 0 := fun g => c8 ⟨h3, g⟩
    exact List.length_eq_zero_iff.1 (by omega)

mutual
def SStmt.al : SStmt → List SStmt
  | ⟨k, n, e, i, b, l⟩ => ⟨k, n, e, i, b, l⟩ :: (SStmt.alL b ++ SStmt.alL l)
def SStmt.alL : List SStmt → List SStmt
  | [] => []
  | x :: l => x.al ++ SStmt.alL l
end
theorem SStmt.al_eq (x : SStmt) : x.al = x :: (SStmt.alL x.Body ++ SStmt.alL x.Else) := by cases x; simp only [SStmt.al]
def okS (l : List SStmt) : Prop := ∀ x ∈ SStmt.alL l, headS x = 0
theorem okS.head {x : SStmt} {l : List SStmt} (h : okS (x :: l)) : headS x = 0 ∧ okS x.Body ∧ okS x.Else := by
  refine ⟨h x ?_, fun y hy => h y ?_, fun y hy => h y ?_⟩
  · simp [SStmt.alL, x.al_eq]
  · simp [SStmt.alL, x.al_eq, hy]
  · simp [SStmt.alL, x.al_eq, hy]
theorem okS.tail {x : SStmt} {l : List SStmt} (h : okS (x :: l)) : okS l := fun y hy => h y (by simp [SStmt.alL, hy])
theorem flL_al : ∀ (n : Nat) (l : List SStmt) (d : Int) (ls : List Int), SStmt.blkL l < n → (SStmt.flL l d ls).map (·.s) = SStmt.alL l
  | 0, l, _, _, h => by omega
  | n + 1, [], _, _, h => by simp [SStmt.flL, SStmt.alL]
  | n + 1, x :: l, d, ls, h => by
    have h1 := x.blk_eq
    simp only [SStmt.blkL] at h
    have h3 := flL_al n x.Body (d + 1) (within x ls) (by omega)
    have h4 := flL_al n x.Else (d + 1) (within x ls) (by omega)
    have h5 := flL_al n l d ls (by omega)
    simp only [SStmt.alL, SStmt.flL, List.map_append, x.fl_eq, x.al_eq, List.map_cons, h3, h4, h5, List.cons_append, List.append_assoc]
theorem NoJ.fix {l : List SIns} (h : NoJ l) : Fix l := h.kept 0
theorem joinP_fix {a : List SIns} (b : List SIns) (h : Fix a) : Fix (joinP a b) := h.append (Fix.mv _ _)
theorem fix12 {A : Int} (h : 0 ≤ A ∧ A ≤ 4294967296) : Fix [⟨12, A, 0⟩] := by
  unfold Fix; rw [mv_cons, shift12 (by omega), Int.add_zero]; rfl
theorem fix11 {A : Int} (h : 0 ≤ A ∧ A ≤ 4294967296) : Fix [⟨11, A, 0⟩] := by
  unfold Fix; rw [mv_cons, shift11 (by omega), Int.add_zero]; rfl
theorem fix14 {A d : Int} (h : 0 ≤ A ∧ A ≤ 4294967296) : Fix [⟨14, d, A⟩] := by
  unfold Fix; rw [mv_cons, shift14 (by omega), Int.add_zero]; rfl
theorem noJ_one {x : SIns} (h : x.Op ≠ 11 ∧ x.Op ≠ 12 ∧ x.Op ≠ 14) : NoJ [x] := fun y hy => by
  rw [List.mem_singleton] at hy; rw [hy]; exact h
theorem pc_fix (x : SStmt) (d : Int) (hb : x.blk ≤ 1048576) (hh : headS x = 0) : Fix (x.pc d) := by
  obtain ⟨h1, h2⟩ := head_exprs hh
  have b := x.blk_eq
  have b1 := x.E.blk_eq
  have b2 := x.If.A.blk_eq
  have b3 := x.If.B.blk_eq
  have l1 := cpc_len x.If
  have l2 := SStmt.pcL_len' x.Body d
  have l3 := SStmt.pcL_len' x.Body (d + 1)
  have l4 := SStmt.pcL_len' x.Else d
  rw [x.pc_eq]
  by_cases k2 : x.Kind ≤ 2
  · rw [if_pos k2]
    refine ((pc_noJ (h1 k2)).append (noJ_one ?_)).fix
    show (if x.Kind = 1 then (3 : Int) else 10) ≠ 11 ∧ (if x.Kind = 1 then (3 : Int) else 10) ≠ 12 ∧ (if x.Kind = 1 then (3 : Int) else 10) ≠ 14
    split <;> decide
  rw [if_neg k2]
  by_cases k3 : x.Kind = 3
  · rw [if_pos k3]
    obtain ⟨hc, oa, ob⟩ := h2 (.inl k3)
    split
    · exact joinP_fix _ ((cpc_noJ oa ob).fix.append (fix12 (by omega)))
    · exact joinP_fix _ ((joinP_fix _ ((cpc_noJ oa ob).fix.append (fix12 (by omega)))).append (fix11 (by omega)))
  rw [if_neg k3]
  by_cases k4 : x.Kind = 4
  · rw [if_pos k4]
    split
    · rfl
    · exact (joinP_fix _ (noJ_one ⟨by simp, by simp, by simp⟩).fix).append (fix14 (by omega))
  rw [if_neg k4]
  by_cases k5 : x.Kind = 5
  · rw [if_pos k5]
    split
    · rfl
    · exact (joinP_fix _ (noJ_one ⟨by simp, by simp, by simp⟩).fix).append (fix14 (by omega))
  rw [if_neg k5]
  split
  · exact (joinP_fix _ (noJ_one ⟨by simp, by simp, by simp⟩).fix).append (noJ_one ⟨by simp, by simp, by simp⟩).fix
  · exact (noJ_one ⟨by simp, by simp, by simp⟩).fix
theorem pcL_fix (l : List SStmt) (d : Int) (hb : SStmt.blkL l ≤ 1048576) (ho : okS l) : Fix (SStmt.pcL l d) := by
  cases l with
  | nil => rfl
  | cons x l =>
    simp only [SStmt.blkL] at hb
    simp only [SStmt.pcL]
    exact joinP_fix _ (pc_fix x d (by omega) ho.head.1)
theorem piece_eq (K : Nat) (hK : 4194304 * 16 < K) (L : List SStmt → Int → Option (List SIns)) (x : SStmt) (d : Int) (hb : x.blk ≤ 1048576) (hh : headS x = 0) (hd0 : 0 ≤ d) (hd : d ≤ 2097152)
    (hL : ∀ l' d', (l' = x.Body ∨ l' = x.Else) → (d' = d ∨ d' = d + 1) → L l' d' = some (SStmt.pcL l' d')) :
    punctualref_piece.b K L x.Kind x.N x.E.Kind x.E.N x.E.A x.If.Kind x.If.A.Kind x.If.A.N x.If.A.A x.If.B.Kind x.If.B.N x.If.B.A x.Body x.Else d = some (x.pc d) := by
  obtain ⟨h1, h2⟩ := head_exprs hh
  obtain ⟨hk, _, _⟩ := head_n hh
  obtain ⟨hN0, hN1⟩ := head_range hh
  have b := x.blk_eq
  have b1 := x.E.blk_eq
  have b2 := x.If.A.blk_eq
  have b3 := x.If.B.blk_eq
  have l1 := cpc_len x.If
  have l2 := SStmt.pcL_len' x.Body d
  have l3 := SStmt.pcL_len' x.Body (d + 1)
  have l4 := SStmt.pcL_len' x.Else d
  have l5 := x.E.pc_len'
  have hwd : IntKind.i64.wrap (d + 1) = d + 1 := wrap64_small (by omega) (by omega)
  have r1 := hL x.Body d (.inl rfl) (.inl rfl)
  have r2 := hL x.Body (d + 1) (.inl rfl) (.inr rfl)
  have r3 := hL x.Else d (.inr rfl) (.inl rfl)
  have hwn : IntKind.i64.wrap (x.N - 1) = x.N - 1 := wrap64_small (by omega) (by omega)
  rw [x.pc_eq]
  simp only [punctualref_piece.b]
  have hk' : (x.Kind = 1 ∨ x.Kind = 2) ∨ x.Kind = 3 ∨ x.Kind = 4 ∨ x.Kind = 5 ∨ x.Kind = 6 ∨ x.Kind = 7 := by omega
  rcases hk' with e | e | e | e | e | e
  · have hp : punctualref_piece.p0 x.Kind = some (.inl true) := by rcases e with e | e <;> rw [e] <;> rfl
    have ho : ((mget (mset (mset ([] : List (Int × Int)) 1 3) 2 10) x.Kind).getD 0) = if x.Kind = 1 then 3 else 10 := by rcases e with e | e <;> rw [e] <;> rfl
    have he := exprPiece_f K hK x.E (by omega) (h1 (by omega))
    have g : x.E.pc.length < 5864062014805 := by omega
    rw [if_pos (show x.Kind ≤ 2 by omega)]
    simp only [hp, if_true, he, if_pos g, ho]
  · obtain ⟨hc, oa, ob⟩ := h2 (.inl e)
    have he := condPiece_eq K hK x.If hc (by omega) (by omega) oa ob
    have g : (cpc x.If).length < 5864062014805 := by omega
    have hw1 : IntKind.i64.wrap (((cpc x.If).length : Int) + 1) = ((cpc x.If).length : Int) + 1 := w64 (by omega) (by omega)
    have hw2 : IntKind.i64.wrap (((cpc x.If).length : Int) + 1 + ((SStmt.pcL x.Body d).length : Int)) = ((cpc x.If).length : Int) + 1 + ((SStmt.pcL x.Body d).length : Int) := w64 (by omega) (by omega)
    have hw3 : IntKind.i64.wrap (((cpc x.If).length : Int) + 1 + ((SStmt.pcL x.Body d).length : Int) + 1) = ((cpc x.If).length : Int) + 1 + ((SStmt.pcL x.Body d).length : Int) + 1 := w64 (by omega) (by omega)
    rw [e]
    simp only [punctualref_piece.p0, Int.reduceEq, Int.reduceLE, if_false, if_true, Int.reduceBEq, Bool.false_eq_true, he, r1, r3, hw1, hw2, hw3, if_pos g]
    by_cases hl : x.Else.length = 0
    · have hl' : (x.Else.length : Int) = 0 := by omega
      rw [if_pos hl, if_pos hl', join_eq _ _ K hK (by simp only [List.length_append, List.length_cons, List.length_nil]; omega)]
    · have hl' : ¬ (x.Else.length : Int) = 0 := by omega
      rw [if_neg hl, if_neg hl', join_eq _ _ K hK (by simp only [List.length_append, List.length_cons, List.length_nil]; omega)]
      have g2 : (joinP (cpc x.If ++ [(⟨12, ((cpc x.If).length : Int) + 1 + ((SStmt.pcL x.Body d).length : Int) + 1, 0⟩ : SIns)]) (SStmt.pcL x.Body d)).length < 5864062014805 := by
        simp only [joinP_len, List.length_append, List.length_cons, List.length_nil]; omega
      have hj : ((joinP (cpc x.If ++ [(⟨12, ((cpc x.If).length : Int) + 1 + ((SStmt.pcL x.Body d).length : Int) + 1, 0⟩ : SIns)]) (SStmt.pcL x.Body d)).length : Int) = ((cpc x.If).length : Int) + 1 + ((SStmt.pcL x.Body d).length : Int) := by
        simp only [joinP_len, List.length_append, List.length_cons, List.length_nil]; omega
      have hw4 : IntKind.i64.wrap (((cpc x.If).length : Int) + 1 + ((SStmt.pcL x.Body d).length : Int) + 1 + ((SStmt.pcL x.Else d).length : Int)) = ((cpc x.If).length : Int) + 1 + ((SStmt.pcL x.Body d).length : Int) + 1 + ((SStmt.pcL x.Else d).length : Int) := w64 (by omega) (by omega)
      simp only [if_pos g2, hj, hw3, hw4]
      rw [join_eq _ _ K hK (by simp only [joinP_len, List.length_append, List.length_cons, List.length_nil]; omega)]
  · rw [e]
    simp only [punctualref_piece.p0, punctualref_piece.p1, Int.reduceEq, Int.reduceLE, if_false, if_true, Int.reduceBEq, Bool.false_eq_true, hwd, hwn, r2]
    by_cases hn : x.N = 0
    · rw [if_pos hn, if_pos hn]
    · have g2 : (joinP [(⟨13, d, x.N - 1⟩ : SIns)] (SStmt.pcL x.Body (d + 1))).length < 5864062014805 := by
        simp only [joinP_len, List.length_cons, List.length_nil]; omega
      rw [if_neg hn, if_neg hn, join_eq _ _ K hK (by simp only [List.length_cons, List.length_nil]; omega)]
      simp only [if_pos g2]
  · obtain ⟨hc, oa, ob⟩ := h2 (.inr e)
    have he := condPiece_eq K hK x.If hc (by omega) (by omega) oa ob
    have g : (cpc x.If).length < 5864062014805 := by omega
    have hw1 : IntKind.i64.wrap (((cpc x.If).length : Int) + 1) = ((cpc x.If).length : Int) + 1 := w64 (by omega) (by omega)
    have hw2 : IntKind.i64.wrap (((cpc x.If).length : Int) + 1 + ((SStmt.pcL x.Body (d + 1)).length : Int)) = ((cpc x.If).length : Int) + 1 + ((SStmt.pcL x.Body (d + 1)).length : Int) := w64 (by omega) (by omega)
    have hw3 : IntKind.i64.wrap (((cpc x.If).length : Int) + 1 + ((SStmt.pcL x.Body (d + 1)).length : Int) + 1) = ((cpc x.If).length : Int) + 1 + ((SStmt.pcL x.Body (d + 1)).length : Int) + 1 := w64 (by omega) (by omega)
    rw [e]
    simp only [punctualref_piece.p0, punctualref_piece.p1, Int.reduceEq, Int.reduceLE, if_false, if_true, Int.reduceBEq, Bool.false_eq_true, hwd, hwn, r2, he, hw1, hw2, hw3, if_pos g]
    by_cases hn : x.N = 0
    · rw [if_pos hn, if_pos hn]
    · rw [if_neg hn, if_neg hn, join_eq _ _ K hK (by simp only [List.length_append, List.length_cons, List.length_nil]; omega)]
      have g2 : (joinP (cpc x.If ++ [(⟨12, ((cpc x.If).length : Int) + 1 + ((SStmt.pcL x.Body (d + 1)).length : Int) + 1, 0⟩ : SIns)]) (SStmt.pcL x.Body (d + 1))).length + 2 ≤ 5864062014805 := by
        simp only [joinP_len, List.length_append, List.length_cons, List.length_nil]; omega
      have hj : ((joinP (cpc x.If ++ [(⟨12, ((cpc x.If).length : Int) + 1 + ((SStmt.pcL x.Body (d + 1)).length : Int) + 1, 0⟩ : SIns)]) (SStmt.pcL x.Body (d + 1))).length : Int) = ((cpc x.If).length : Int) + 1 + ((SStmt.pcL x.Body (d + 1)).length : Int) := by
        simp only [joinP_len, List.length_append, List.length_cons, List.length_nil]; omega
      have hw4 : IntKind.i64.wrap (((cpc x.If).length : Int) + 1 + ((SStmt.pcL x.Body (d + 1)).length : Int) + 2) = ((cpc x.If).length : Int) + 1 + ((SStmt.pcL x.Body (d + 1)).length : Int) + 2 := w64 (by omega) (by omega)
      simp only [if_pos g2, hj, hw4]
      rw [join_eq _ _ K hK (by simp only [joinP_len, List.length_append, List.length_cons, List.length_nil]; omega)]
      have g3 : (joinP [(⟨13, d, x.N - 1⟩ : SIns)] (joinP (cpc x.If ++ [(⟨12, ((cpc x.If).length : Int) + 1 + ((SStmt.pcL x.Body (d + 1)).length : Int) + 1, 0⟩ : SIns)]) (SStmt.pcL x.Body (d + 1)) ++ [(⟨11, ((cpc x.If).length : Int) + 1 + ((SStmt.pcL x.Body (d + 1)).length : Int) + 2, 0⟩ : SIns), (⟨15, d, 0⟩ : SIns)])).length < 5864062014805 := by
        simp only [joinP_len, List.length_append, List.length_cons, List.length_nil]; omega
      simp only [if_pos g3]
  · rw [e]
    simp only [punctualref_piece.p0, punctualref_piece.p1, Int.reduceEq, Int.reduceLE, if_false, if_true, Int.reduceBEq, Bool.false_eq_true, r1]
    rw [join_eq _ _ K hK (by simp only [List.length_cons, List.length_nil]; omega)]
    have g2 : (joinP [(⟨16, x.N, 0⟩ : SIns)] (SStmt.pcL x.Body d)).length < 5864062014805 := by
      simp only [joinP_len, List.length_cons, List.length_nil]; omega
    simp only [if_pos g2]
  · rw [e]
    simp only [punctualref_piece.p0, punctualref_piece.p1, Int.reduceEq, Int.reduceLE, if_false, if_true, Int.reduceBEq, Bool.false_eq_true]

theorem pieces_eq (K : Nat) (hK : 4194304 * 16 < K) : ∀ (n : Nat) (l : List SStmt) (d : Int), 2 * SStmt.blkL l < n → SStmt.blkL l ≤ 1048576 → okS l → 0 ≤ d → d + SStmt.blkL l ≤ 2097152 → (punctualref_pieces.recs K n).1 l d = some (SStmt.pcL l d) := by
  intro n
  induction n using Nat.strongRecOn with
  | ind n ih =>
    intro l d hn hb ho hd0 hd
    obtain ⟨m, rfl⟩ : ∃ m, n = m + 1 := ⟨n - 1, by omega⟩
    have hlen := SStmt.blkL_len l
    have hfix := pcL_fix l d hb ho
    obtain ⟨x, hx, hR⟩ := iter_rows (f := punctualref_pieces.r0 K l d ((punctualref_pieces.recs K m).2)) (fun s i => (s, i)) l
      (fun r s => s ++ mv s.length (SStmt.pcL r d) = SStmt.pcL l d ∧ okS r ∧ s.length + 16 * SStmt.blkL r ≤ 16 * SStmt.blkL l)
      (fun r s x => x = .inl (s ++ mv s.length (SStmt.pcL r d)))
      (fun s hs => ⟨.inl s, by simp only [punctualref_pieces.r0, Int.lt_irrefl, if_false], by simp [SStmt.pcL, mv]⟩)
      (fun a r s i ha hi hs => by
        left
        have h1 := SStmt.blkL_mem (mem_of_at ha)
        have h2 := a.blk_eq
        have hpl := a.pc_len' d
        obtain ⟨hs1, hs2, hs3⟩ := hs
        simp only [SStmt.blkL] at hs3
        have hi' : (i : Int) < (l.length : Int) := by omega
        obtain ⟨m, rfl⟩ : ∃ k, m = k + 1 := ⟨m - 1, by omega⟩
        have hp : (punctualref_pieces.recs K (m + 1)).2 a.Kind a.N a.E.Kind a.E.N a.E.A a.If.Kind a.If.A.Kind a.If.A.N a.If.A.A a.If.B.Kind a.If.B.N a.If.B.A a.Body a.Else d = some (a.pc d) :=
          piece_eq K hK ((punctualref_pieces.recs K m).1) a d (by omega) hs2.head.1 hd0 (by omega) (fun l' d' hl' hd' => by
            have hok : okS l' := by
              rcases hl' with rfl | rfl
              · exact hs2.head.2.1
              · exact hs2.head.2.2
            refine ih m (by omega) l' d' ?_ ?_ hok (by omega) ?_ <;> rcases hl' with rfl | rfl <;> omega)
        have hjoin : (s ++ mv s.length (a.pc d)) ++ mv ((s ++ mv s.length (a.pc d)).length) (SStmt.pcL r d) = s ++ mv s.length (SStmt.pcL (a :: r) d) := by
          simp only [SStmt.pcL, joinP, mv_append, mv_mv, List.length_append, mv_len, List.append_assoc]
          congr 3
          omega
        refine ⟨joinP s (a.pc d), ?_, ⟨?_, hs2.tail, ?_⟩, fun x hx => ?_⟩
        · simp only [punctualref_pieces.r0, if_pos hi', ha]
          rw [hp]
          simp only
          rw [join_eq _ _ K hK (by omega)]
        · rw [← hs1]; exact hjoin
        · rw [joinP_len]; omega
        · rw [hx]; exact congrArg Sum.inl hjoin)
      (s := ([] : List SIns)) ⟨by show [] ++ mv 0 _ = _; rw [hfix]; rfl, ho, by simp⟩ (K := K) (by omega)
    show punctualref_pieces.b K ((punctualref_pieces.recs K m).2) l d = _
    simp only [punctualref_pieces.b, hx, hR]
    show some ([] ++ mv 0 _) = _
    rw [hfix]; rfl
theorem here2 (X r : List SIns) (x : SIns) (l : List SIns) (z n : Int) (hl : l = X ++ x :: r) (hn : n = (X.length : Int)) : compile_maker_here.f l z n = some (X ++ ⟨x.Op, (l.length : Int), x.B⟩ :: r) := by
  subst hl; exact here_eq X r x z n hn
theorem eq4 {m c a b : List SIns} {T T' q q' U U' p p' : Int} (h1 : T = T') (h2 : q = q') (h3 : U = U') (h4 : p = p') : m ++ (c ++ (⟨12, T, 0⟩ :: (mv q a ++ ⟨11, U, 0⟩ :: mv p b))) = m ++ (c ++ (⟨12, T', 0⟩ :: (mv q' a ++ ⟨11, U', 0⟩ :: mv p' b))) := by
  subst h1 h2 h3 h4; rfl
theorem eq5 {m c a : List SIns} {x y : SIns} {T T' q q' U U' p p' d : Int} (h1 : T = T') (h2 : q = q') (h3 : U = U') (h4 : p = p') : m ++ (x :: (c ++ (⟨12, T, 0⟩ :: (mv q a ++ ⟨11, U, 0⟩ :: [y, ⟨14, d, p⟩])))) = m ++ (x :: (c ++ (⟨12, T', 0⟩ :: (mv q' a ++ ⟨11, U', 0⟩ :: [y, ⟨14, d, p'⟩])))) := by
  subst h1 h2 h3 h4; rfl
theorem cstmt_eq (K : Nat) (hK : 4194304 * 16 < K) (L L2 : List SIns → Int → List SStmt → Option (List SIns × Int)) (x : SStmt) (m : List SIns) (d : Int) (hb : x.blk ≤ 1048576) (hh : headS x = 0) (hd0 : 0 ≤ d) (hd : d ≤ 2097152) (hm : m.length + 16 * x.blk ≤ 4194304 * 8)
    (hL : ∀ l' m', (l' = x.Body ∨ l' = x.Else) → m'.length + 16 * SStmt.blkL l' ≤ 4194304 * 8 → L m' d l' = some (m' ++ mv m'.length (SStmt.pcL l' d), d))
    (hL2 : ∀ m', m'.length + 16 * SStmt.blkL x.Body ≤ 4194304 * 8 → L2 m' (d + 1) x.Body = some (m' ++ mv m'.length (SStmt.pcL x.Body (d + 1)), d + 1)) :
    compile_maker_stmt.b K L (compile_maker_loop_v1.b K (compile_maker_stmt_1.b K L2)) (compile_maker_loop_v2.b K (compile_maker_stmt_2.b K L2)) m d x.Kind x.N x.E.Kind x.E.N x.E.A x.If.Kind x.If.A.Kind x.If.A.N x.If.A.A x.If.B.Kind x.If.B.N x.If.B.A x.Body x.Else = some (m ++ mv m.length (x.pc d), d) := by
  obtain ⟨h1, h2⟩ := head_exprs hh
  obtain ⟨hk, _, _⟩ := head_n hh
  obtain ⟨hN0, hN1⟩ := head_range hh
  have b := x.blk_eq
  have b1 := x.E.blk_eq
  have b2 := x.If.A.blk_eq
  have b3 := x.If.B.blk_eq
  have l1 := cpc_len x.If
  have l2 := SStmt.pcL_len' x.Body d
  have l3 := SStmt.pcL_len' x.Body (d + 1)
  have l4 := SStmt.pcL_len' x.Else d
  have l5 := x.E.pc_len'
  have hwd : IntKind.i64.wrap (d + 1) = d + 1 := wrap64_small (by omega) (by omega)
  have hwd2 : IntKind.i64.wrap (d + 1 - 1) = d := by rw [show d + 1 - 1 = d by omega]; exact wrap64_small (by omega) (by omega)
  have hwn : IntKind.i64.wrap (x.N - 1) = x.N - 1 := wrap64_small (by omega) (by omega)
  rw [x.pc_eq]
  simp only [compile_maker_stmt.b]
  have hk' : x.Kind = 1 ∨ x.Kind = 2 ∨ x.Kind = 3 ∨ x.Kind = 4 ∨ x.Kind = 5 ∨ x.Kind = 6 ∨ x.Kind = 7 := by omega
  rcases hk' with e | e | e | e | e | e | e
  · rw [e]
    simp only [Int.reduceEq, Int.reduceLE, if_true, if_false]
    rw [value_f K hK m d x.E (by omega) (h1 (by omega)) (by omega)]
    simp only
    rw [put_eq _ _ _ _ _ (by rw [List.length_append]; omega)]
    simp only
    rw [mv_append, (pc_noJ (h1 (by omega))).kept, (noJ_one (x := ⟨3, x.N, 0⟩) ⟨by simp, by simp, by simp⟩).kept, List.append_assoc]
  · rw [e]
    simp only [Int.reduceEq, Int.reduceLE, if_true, if_false]
    rw [value_f K hK m d x.E (by omega) (h1 (by omega)) (by omega)]
    simp only
    rw [put_eq _ _ _ _ _ (by rw [List.length_append]; omega)]
    simp only
    rw [mv_append, (pc_noJ (h1 (by omega))).kept, (noJ_one (x := ⟨10, x.N, 0⟩) ⟨by simp, by simp, by simp⟩).kept, List.append_assoc]
  · obtain ⟨hc, oa, ob⟩ := h2 (.inl e)
    rw [e]
    simp only [Int.reduceEq, Int.reduceLE, if_true, if_false]
    rw [unless_eq K hK m d x.If hc (by omega) (by omega) oa ob (by omega)]
    simp only
    rw [hL x.Body _ (.inl rfl) (by simp only [List.length_append, List.length_cons, List.length_nil]; omega)]
    simp only
    by_cases hl : x.Else.length = 0
    · have hl' : ¬ (x.Else.length : Int) > 0 := by omega
      rw [if_pos hl, if_neg hl']
      rw [List.append_assoc (m ++ cpc x.If), List.singleton_append, here_eq _ _ _ _ _ rfl]
      simp only [joinP, mv_append, mv_mv, (cpc_noJ oa ob).kept, mv_cons, mv_nil]
      rw [shift12 (by omega)]
      simp only [List.append_assoc, List.cons_append, List.nil_append, List.length_append, List.length_cons, List.length_nil, mv_len]
      have q1 : ((m.length + ((cpc x.If).length + (0 + 1)) : Nat) : Int) = (((cpc x.If).length + (0 + 1) : Nat) : Int) + (m.length : Int) := by omega
      have q2 : ((m.length + ((cpc x.If).length + ((SStmt.pcL x.Body d).length + 1)) : Nat) : Int) = ((cpc x.If).length : Int) + 1 + ((SStmt.pcL x.Body d).length : Int) + (m.length : Int) := by omega
      rw [q1, q2]
    · have hl' : (x.Else.length : Int) > 0 := by omega
      rw [if_neg hl, if_pos hl']
      obtain ⟨q, hq⟩ : ∃ q : Int, q = ((m ++ cpc x.If ++ [(⟨12, 0, 0⟩ : SIns)]).length : Int) := ⟨_, rfl⟩
      rw [← hq]
      simp only [List.length_append, List.length_cons, List.length_nil] at hq
      rw [put_eq _ _ _ _ _ (by simp only [List.length_append, List.length_cons, List.length_nil, mv_len]; omega)]
      simp only
      rw [here2 (m ++ cpc x.If) (mv q (SStmt.pcL x.Body d) ++ [⟨11, 0, 0⟩]) ⟨12, 0, 0⟩ _ _ _ (by simp) rfl]
      simp only
      obtain ⟨T, hT⟩ : ∃ T : Int, T = ((m ++ cpc x.If ++ [(⟨12, 0, 0⟩ : SIns)] ++ mv q (SStmt.pcL x.Body d) ++ [(⟨11, 0, 0⟩ : SIns)]).length : Int) := ⟨_, rfl⟩
      rw [← hT]
      simp only [List.length_append, List.length_cons, List.length_nil, mv_len] at hT
      rw [hL x.Else _ (.inr rfl) (by simp only [List.length_append, List.length_cons, List.length_nil, mv_len]; omega)]
      simp only
      obtain ⟨p, hp⟩ : ∃ p : Int, p = ((m ++ cpc x.If ++ (⟨12, T, 0⟩ : SIns) :: (mv q (SStmt.pcL x.Body d) ++ [(⟨11, 0, 0⟩ : SIns)])).length : Int) := ⟨_, rfl⟩
      rw [← hp]
      simp only [List.length_append, List.length_cons, List.length_nil, mv_len] at hp
      rw [here2 (m ++ cpc x.If ++ (⟨12, T, 0⟩ : SIns) :: mv q (SStmt.pcL x.Body d)) (mv p (SStmt.pcL x.Else d)) ⟨11, 0, 0⟩ _ _ _ (by simp) (by simp only [List.length_append, List.length_cons, List.length_nil, mv_len]; omega)]
      simp only [joinP, mv_append, mv_mv, (cpc_noJ oa ob).kept, mv_cons, mv_nil]
      rw [shift12 (by omega), shift11 (by omega)]
      simp only [List.append_assoc, List.cons_append, List.nil_append, List.length_append, List.length_cons, List.length_nil, mv_len]
      exact congrArg (fun z => some (z, d)) (eq4 (by omega) (by omega) (by omega) (by omega))
  · rw [e]
    simp only [Int.reduceEq, Int.reduceLE, if_true, if_false, compile_maker_loop_v1.b, compile_maker_stmt_1.b]
    by_cases hn : x.N = 0
    · simp only [if_pos hn, mv_nil, List.append_nil]
    · simp only [if_neg hn]
      rw [put_eq _ _ _ _ _ (by omega)]
      simp only [hwd]
      rw [hL2 _ (by simp only [List.length_append, List.length_cons, List.length_nil]; omega)]
      simp only [hwd2]
      rw [put_eq _ _ _ _ _ (by simp only [List.length_append, List.length_cons, List.length_nil, mv_len]; omega)]
      simp only [joinP, mv_append, mv_mv, mv_cons, mv_nil]
      rw [shift14 (by omega), shift_other (x := ⟨13, d, x.N - 1⟩) ⟨by simp, by simp, by simp⟩, w64 (n := (m.length : Int) + 1) (by omega) (by omega), hwn]
      simp only [List.append_assoc, List.cons_append, List.nil_append, List.length_append, List.length_cons, List.length_nil, mv_len]
      have q1 : ((m.length + (0 + 1) : Nat) : Int) = ((0 + 1 : Nat) : Int) + (m.length : Int) := by omega
      have q2 : (m.length : Int) + 1 = 1 + (m.length : Int) := by omega
      rw [q1, q2]
  · obtain ⟨hc, oa, ob⟩ := h2 (.inr e)
    rw [e]
    simp only [Int.reduceEq, Int.reduceLE, if_true, if_false, compile_maker_loop_v2.b, compile_maker_stmt_2.b]
    by_cases hn : x.N = 0
    · simp only [if_pos hn, mv_nil, List.append_nil]
    · simp only [if_neg hn]
      rw [put_eq _ _ _ _ _ (by omega)]
      simp only [hwd, hwn]
      rw [unless_eq K hK _ _ x.If hc (by omega) (by omega) oa ob (by simp only [List.length_append, List.length_cons, List.length_nil]; omega)]
      simp only
      rw [hL2 _ (by simp only [List.length_append, List.length_cons, List.length_nil]; omega)]
      simp only
      obtain ⟨q, hq⟩ : ∃ q : Int, q = ((m ++ [(⟨13, d, x.N - 1⟩ : SIns)] ++ cpc x.If ++ [(⟨12, 0, 0⟩ : SIns)]).length : Int) := ⟨_, rfl⟩
      rw [← hq]
      simp only [List.length_append, List.length_cons, List.length_nil] at hq
      rw [put_eq _ _ _ _ _ (by simp only [List.length_append, List.length_cons, List.length_nil, mv_len]; omega)]
      simp only
      rw [here2 (m ++ [(⟨13, d, x.N - 1⟩ : SIns)] ++ cpc x.If) (mv q (SStmt.pcL x.Body (d + 1)) ++ [⟨11, 0, 0⟩]) ⟨12, 0, 0⟩ _ _ _ (by simp) rfl]
      simp only
      obtain ⟨T, hT⟩ : ∃ T : Int, T = ((m ++ [(⟨13, d, x.N - 1⟩ : SIns)] ++ cpc x.If ++ [(⟨12, 0, 0⟩ : SIns)] ++ mv q (SStmt.pcL x.Body (d + 1)) ++ [(⟨11, 0, 0⟩ : SIns)]).length : Int) := ⟨_, rfl⟩
      rw [← hT]
      simp only [List.length_append, List.length_cons, List.length_nil, mv_len] at hT
      rw [put_eq _ _ _ _ _ (by simp only [List.length_append, List.length_cons, List.length_nil, mv_len]; omega)]
      simp only [hwd2]
      rw [here2 (m ++ [(⟨13, d, x.N - 1⟩ : SIns)] ++ cpc x.If ++ (⟨12, T, 0⟩ : SIns) :: mv q (SStmt.pcL x.Body (d + 1))) [⟨15, d, 0⟩] ⟨11, 0, 0⟩ _ _ _ (by simp) (by simp only [List.length_append, List.length_cons, List.length_nil, mv_len]; omega)]
      simp only [hwd2]
      rw [put_eq _ _ _ _ _ (by simp only [List.length_append, List.length_cons, List.length_nil, mv_len]; omega)]
      simp only [joinP, mv_append, mv_mv, (cpc_noJ oa ob).kept, mv_cons, mv_nil, shift_shift]
      rw [shift12 (by simp only [List.length_cons, List.length_nil]; omega), shift11 (by simp only [List.length_cons, List.length_nil]; omega), shift14 (by omega), shift_other (x := ⟨13, d, x.N - 1⟩) ⟨by simp, by simp, by simp⟩, shift_other (x := ⟨15, d, 0⟩) ⟨by simp, by simp, by simp⟩, w64 (n := (m.length : Int) + 1) (by omega) (by omega)]
      simp only [List.append_assoc, List.cons_append, List.nil_append, List.length_append, List.length_cons, List.length_nil, mv_len]
      exact congrArg (fun z => some (z, d)) (eq5 (by omega) (by omega) (by omega) (by omega))
  · rw [e]
    simp only [Int.reduceEq, Int.reduceLE, if_true, if_false]
    rw [put_eq _ _ _ _ _ (by omega)]
    simp only
    rw [hL x.Body _ (.inl rfl) (by simp only [List.length_append, List.length_cons, List.length_nil]; omega)]
    simp only
    rw [put_eq _ _ _ _ _ (by simp only [List.length_append, List.length_cons, List.length_nil, mv_len]; omega)]
    simp only [joinP, mv_append, mv_mv, mv_cons, mv_nil]
    rw [shift_other (x := ⟨16, x.N, 0⟩) ⟨by simp, by simp, by simp⟩, shift_other (x := ⟨17, x.N, 0⟩) ⟨by simp, by simp, by simp⟩]
    simp only [List.append_assoc, List.cons_append, List.nil_append, List.length_append, List.length_cons, List.length_nil, mv_len]
    have q1 : ((m.length + (0 + 1) : Nat) : Int) = ((0 + 1 : Nat) : Int) + (m.length : Int) := by omega
    rw [q1]
  · rw [e]
    simp only [Int.reduceEq, Int.reduceLE, if_true, if_false]
    rw [put_eq _ _ _ _ _ (by omega)]
    simp only [mv_cons, mv_nil]
    rw [shift_other (x := ⟨18, x.N, 0⟩) ⟨by simp, by simp, by simp⟩]

theorem clist_eq (K : Nat) (hK : 4194304 * 16 < K) : ∀ (n : Nat) (l : List SStmt) (m : List SIns) (d : Int), 4 * SStmt.blkL l < n → SStmt.blkL l ≤ 1048576 → okS l → 0 ≤ d → d + SStmt.blkL l ≤ 2097152 → m.length + 16 * SStmt.blkL l ≤ 4194304 * 8 → (compile_maker_list.recs K n).1 m d l = some (m ++ mv m.length (SStmt.pcL l d), d) := by
  intro n
  induction n using Nat.strongRecOn with
  | ind n ih =>
    intro l m d hn hb ho hd0 hd hm
    obtain ⟨n, rfl⟩ : ∃ k, n = k + 1 := ⟨n - 1, by omega⟩
    have hlen := SStmt.blkL_len l
    obtain ⟨x, hx, hR⟩ := iter_rows (f := compile_maker_list.r0 l ((compile_maker_list.recs K n).2.1)) (fun (s : List SIns × Int) i => (i, s)) l
      (fun r s => s.2 = d ∧ s.1 ++ mv s.1.length (SStmt.pcL r d) = m ++ mv m.length (SStmt.pcL l d) ∧ okS r ∧ s.1.length + 16 * SStmt.blkL r ≤ 4194304 * 8)
      (fun r s x => x = .inl (s.1 ++ mv s.1.length (SStmt.pcL r d), d))
      (fun s hs => by
        obtain ⟨s, z⟩ := s
        obtain ⟨rfl, _⟩ := hs
        exact ⟨.inl (s, z), by simp only [compile_maker_list.r0, Int.lt_irrefl, if_false], by simp [SStmt.pcL, mv]⟩)
      (fun a r s i ha hi hs => by
        left
        obtain ⟨s, z⟩ := s
        obtain ⟨rfl, hs1, hs2, hs3⟩ := hs
        have h1 := SStmt.blkL_mem (mem_of_at ha)
        have h2 := a.blk_eq
        have hpl := a.pc_len' z
        simp only [SStmt.blkL] at hs3
        simp only at hs1
        have hi' : (i : Int) < (l.length : Int) := by omega
        obtain ⟨n, rfl⟩ : ∃ k, n = k + 3 := ⟨n - 3, by omega⟩
        have hp : (compile_maker_list.recs K (n + 3)).2.1 s z a.Kind a.N a.E.Kind a.E.N a.E.A a.If.Kind a.If.A.Kind a.If.A.N a.If.A.A a.If.B.Kind a.If.B.N a.If.B.A a.Body a.Else = some (s ++ mv s.length (a.pc z), z) :=
          cstmt_eq K hK ((compile_maker_list.recs K (n + 2)).1) ((compile_maker_list.recs K n).1) a s z (by omega) hs2.head.1 hd0 (by omega) (by omega) (fun l' m' hl' hm' => by
            have hok : okS l' := by
              rcases hl' with rfl | rfl
              · exact hs2.head.2.1
              · exact hs2.head.2.2
            refine ih (n + 2) (by omega) l' m' z ?_ ?_ hok hd0 ?_ hm' <;> rcases hl' with rfl | rfl <;> omega) (fun m' hm' => ih n (by omega) a.Body m' (z + 1) (by omega) (by omega) hs2.head.2.1 (by omega) (by omega) hm')
        have hjoin : (s ++ mv s.length (a.pc z)) ++ mv ((s ++ mv s.length (a.pc z)).length) (SStmt.pcL r z) = s ++ mv s.length (SStmt.pcL (a :: r) z) := by
          simp only [SStmt.pcL, joinP, mv_append, mv_mv, List.length_append, mv_len, List.append_assoc]
          congr 3
          omega
        refine ⟨(s ++ mv s.length (a.pc z), z), ?_, ⟨rfl, ?_, hs2.tail, ?_⟩, fun x hx => ?_⟩
        · simp only [compile_maker_list.r0, if_pos hi', ha]
          rw [hp]
        · rw [← hs1]; exact hjoin
        · simp only [List.length_append, mv_len]; omega
        · rw [hx]; exact congrArg (fun y => Sum.inl (y, z)) hjoin)
      (s := (m, d)) ⟨rfl, rfl, ho, by omega⟩ (K := K) (by omega)
    show compile_maker_list.b K ((compile_maker_list.recs K n).2.1) m d l = _
    simp only [compile_maker_list.b]
    rw [hx, hR]
theorem firstW_right : ∀ (l : List Sstatement) (a : Int), firstW l a = none → ∀ y ∈ l, headS y.s = 0
  | [], _, _, y, hy => by simp at hy
  | x :: l, a, h, y, hy => by
    simp only [firstW] at h
    by_cases hw : wrongS x.s x.deep x.locks ≠ 0
    · rw [if_pos hw] at h; cases h
    · rw [if_neg hw] at h
      rcases List.mem_cons.1 hy with rfl | hy
      · apply Decidable.not_not.1
        intro hh
        exact hw (by simp only [wrongS, if_pos hh]; exact hh)
      · exact firstW_right l (a + 1) h y hy
/-- where Check finds nothing wrong, every statement is right -/
theorem Check_right (K : Nat) (hK : 4194304 < K) (l : List SStmt) (hb : SStmt.blkL l ≤ 1048576) {r : SFault} (h : tongue_Check.f K l = some r) (hr : r.Code = 0) : okS l := by
  have e1 := Count_eq K hK K l (by omega) hb
  have hc := SStmt.cntL_le' l
  simp only [tongue_Check.f, tongue_Count.f, e1] at h
  by_cases h2 : (SStmt.cntL l : Int) > 200
  · rw [if_pos h2] at h
    have := Option.some.inj h
    subst this; cases hr
  rw [if_neg h2] at h
  obtain ⟨t, ht, hg⟩ := list_eq K hK K l (-1) 0 0 0 [] (by omega) hb (by omega) (.inl (by omega)) (by omega) (by omega)
  have ht' : tongue_checker_list.f K (-1) 0 0 false false false false l 0 = some t := ht
  simp only [ht', Option.some.injEq] at h
  subst h
  simp only [GoodL] at hg
  cases hf : firstW (SStmt.flL l 0 []) (-1) with
  | some y =>
    rw [hf] at hg
    simp only at hg hr
    exact absurd (hg.2.1.symm.trans hr) (by
      intro h0
      have key : ∀ (l : List Sstatement) (a : Int) (y : Int × Int), firstW l a = some y → y.1 ≠ 0 := by
        intro l
        induction l with
        | nil => intro a y h; cases h
        | cons x l ih =>
          intro a y h
          simp only [firstW] at h
          by_cases hw : wrongS x.s x.deep x.locks ≠ 0
          · rw [if_pos hw] at h
            have := Option.some.inj h
            rw [← this]; exact hw
          · rw [if_neg hw] at h; exact ih _ _ h
      exact key _ _ _ hf h0)
  | none =>
    intro x hx
    rw [← flL_al _ l 0 [] (Nat.lt_succ_self _)] at hx
    obtain ⟨y, hy, rfl⟩ := List.mem_map.1 hx
    exact firstW_right _ _ hf y hy
theorem Image_eq (K : Nat) (hK : 4194304 * 16 < K) (l : List SStmt) (hb : SStmt.blkL l ≤ 1048576) : ∃ r, compile_Image.f K l = some r ∧ punctualref_Compile.f K l = some r := by
  obtain ⟨c, h1, h2⟩ := Check_eq K (by omega) l hb
  simp only [compile_Image.f, punctualref_Compile.f, h1, h2]
  by_cases hc : c.Code = 0
  · have ho := Check_right K (by omega) l hb h1 hc
    have e1 := clist_eq K hK K l [] 0 (by omega) hb ho (by omega) (by omega) (by simp; omega)
    have e2 := pieces_eq K hK K l 0 (by omega) hb ho (by omega) (by omega)
    have hfix := pcL_fix l 0 hb ho
    have e1' : compile_maker_list.f K ([] : List SIns) 0 l = some (SStmt.pcL l 0, 0) := by
      have : ([] : List SIns) ++ mv (([] : List SIns).length : Int) (SStmt.pcL l 0) = SStmt.pcL l 0 := hfix
      rw [this] at e1; exact e1
    have e2' : punctualref_pieces.f K l 0 = some (SStmt.pcL l 0) := e2
    simp only [if_pos hc, e1', e2', punctualref_F.f]
    by_cases hl : ((SStmt.pcL l 0).length : Int) > 2000
    · exact ⟨_, by rw [if_pos hl], by rw [if_pos hl]⟩
    · exact ⟨_, by rw [if_neg hl], by rw [if_neg hl]⟩
  · exact ⟨_, by rw [if_neg hc], by rw [if_neg hc]⟩
theorem SIns.eqb_same (x : SIns) : SIns.eqb x x = true := by simp [SIns.eqb]
theorem SameIns_self (l : List SIns) (K : Nat) (hK : l.length < K) : punctualsame_Same_api_Ins.f K l l = some true := by
  obtain ⟨x, hx, hR⟩ := iter_rows (f := punctualsame_Same_api_Ins.r0 l l) (fun (_ : Unit) i => i) l (fun r s => True) (fun r s x => x = .inl ())
    (fun s hs => ⟨.inl (), by simp only [punctualsame_Same_api_Ins.r0, Int.lt_irrefl, if_false], rfl⟩)
    (fun a r s i ha hi hs => by
      left
      have hi' : (i : Int) < (l.length : Int) := by omega
      exact ⟨(), by simp only [punctualsame_Same_api_Ins.r0, if_pos hi', ha, SIns.eqb_same, if_true], trivial, fun x hx => hx⟩)
    (s := ()) trivial (K := K) hK
  simp only [punctualsame_Same_api_Ins.f, if_true, hx, hR]
theorem Image_len (K : Nat) (hK : 4194304 * 16 < K) (l : List SStmt) (hb : SStmt.blkL l ≤ 1048576) {r : List SIns × SFault} (h : compile_Image.f K l = some r) : r.1.length ≤ 2000 := by
  simp only [compile_Image.f] at h
  split at h
  · cases h
  · split at h
    · split at h
      · cases h
      · split at h
        · have := Option.some.inj h; subst this; simp
        · have := Option.some.inj h; subst this; simp only; omega
    · have := Option.some.inj h; subst this; simp

theorem comp_starts : CompileMakes.p0 18446744073709551616 = some (.inl ()) := by kernel_rfl
theorem CompileMakes_law (l : List SStmt) (hl : ∀ y ∈ l, Ok.ok y) (hb : SStmt.blkL l ≤ 1048576) : ∃ K, CompileMakes.f K l = some true := by
  refine ⟨18446744073709551616, ?_⟩
  have h0 := comp_starts
  have hK : 4194304 * 16 < 18446744073709551616 := by decide
  generalize (18446744073709551616 : Nat) = K at *
  obtain ⟨d, hd⟩ := Deep_some K (by omega) K l (by omega) hb
  have e2 := Size_eq K (by omega) K l (by omega) hb
  have e3 := Twin_eq K (by omega) K l (by omega) hb
  have e4 := Bodies_self K (by omega) K l (by omega) hb
  obtain ⟨r, hr1, hr2⟩ := Image_eq K hK l hb
  have hlen := Image_len K hK l hb hr1
  have hs := SameIns_self r.1 K (by omega)
  have hit : iter (CompileMakes.r1 K l r l) K 0 = some (.inl ()) := by
    have step : ∀ i : Nat, (i : Int) < 2 → CompileMakes.r1 K l r l i = some (.inl (i + 1)) := by
      intro i hi
      simp only [CompileMakes.r1, if_pos hi, hr1, SFault.eqb_same, if_true, hs, punctualsame_Bodies.f, e4]
    obtain ⟨k, rfl⟩ : ∃ k, K = k + 3 := ⟨K - 3, by omega⟩
    simp only [iter, step 0 (by omega), step 1 (by omega)]
    have : CompileMakes.r1 (k + 3) l r l 2 = some (.inr (.inl ())) := by
      simp only [CompileMakes.r1]
      rw [if_neg (by omega)]
    rw [this]
  simp only [CompileMakes.f, h0, claims.f, punctualsame_Deep.f, hd, punctualref_Size.f, e2, hr2, punctualsame_Twin.f, e3, hit]
  by_cases h : d ≤ 300
  · simp only [if_pos h, ite_self]
  · simp only [if_neg h, Bool.false_eq_true, if_false]

end Go.Proofs.Ytnckikjcjgmdlaa.GV
