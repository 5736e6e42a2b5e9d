/- Plain words: GvLSchedPlays. -/
import Derived.Test.YtlipdmblinjjaaaDoorGWSchedPlays4
import Derived.Test.YtlipdmblinjjaaaDoorGv17
namespace Go.Proofs.YtlipdmblinjjaaaDoor.GV
open Go Go.RowKit
set_option linter.unusedVariables false
set_option linter.unusedSimpArgs false
theorem SFault.eqb_self (x : SFault) : SFault.eqb x x = true := by simp [SFault.eqb]
theorem SJob.eqb_self (x : SJob) : SJob.eqb x x = true := by simp [SJob.eqb]
theorem punctualsame_Lend_api_Job_some (l : List SJob) (a : SJob) (h : l.length ≤ 5000) : ∃ r, punctualsame_Lend_api_Job.f l a = some r := by
  have hw : IntKind.i64.wrap ((l.length : Int) + 3) = (l.length : Int) + 3 := wrap64_small (by omega) (by omega)
  unfold punctualsame_Lend_api_Job.f
  rw [hw, if_pos (by omega), if_pos (by omega), if_pos (by simp; omega), if_pos (by simp; omega)]
  exact ⟨_, rfl⟩
theorem punctualsame_Still_api_Job_true (l : List SJob) (a : SJob) (K : Nat) (hl : l.length ≤ 5000) (hK : 5010 ≤ K) : punctualsame_Still_api_Job.f K (l ++ [a, a, a]) l a = some true := by
  have hw : IntKind.i64.wrap ((l.length : Int) + 3) = (l.length : Int) + 3 := wrap64_small (by omega) (by omega)
  have hr := iter_first0 (f := punctualsame_Still_api_Job.r0 (l ++ [a, a, a]) l a) (fun _ => none) (l.length + 3) (t := ()) (fun i hi => by
    have h' : (i : Int) < ((l ++ [a, a, a] : List SJob).length : Int) := by simp; omega
    simp only [punctualsame_Still_api_Job.r0, if_pos h']
    by_cases h2 : i < l.length
    · have h2' : (i : Int) < (l.length : Int) := by omega
      have h3 : ¬ (i : Int) ≥ (l.length : Int) := by omega
      rw [List.getElem?_append_left h2, List.getElem?_eq_getElem h2]
      simp only [if_pos h2', SJob.eqb_self, if_true, if_neg h3, onward]
    · have h2' : ¬ (i : Int) < (l.length : Int) := by omega
      have h3 : (i : Int) ≥ (l.length : Int) := by omega
      rw [List.getElem?_append_right (by omega)]
      have : i - l.length = 0 ∨ i - l.length = 1 ∨ i - l.length = 2 := by omega
      rcases this with e | e | e <;> simp [e, h2', h3, onward, SJob.eqb_self]) (by
    have h' : ¬ ((l.length + 3 : Nat) : Int) < ((l ++ [a, a, a] : List SJob).length : Int) := by simp
    simp only [punctualsame_Still_api_Job.r0, if_neg h']) (K := K) (by omega)
  rw [firstOf_none_of (fun _ _ _ => rfl)] at hr
  have hlen : IntKind.i64.wrap ((l.length : Int) + 3) = ((l ++ [a, a, a] : List SJob).length : Int) := by rw [hw]; simp
  simp only [punctualsame_Still_api_Job.f, if_pos hlen, hr, leave]
theorem punctualsame_Same_int_self (l : List Int) (K : Nat) (hK : l.length < K) : punctualsame_Same_int.f K l l = some true := by
  have hr := iter_first0 (f := punctualsame_Same_int.r0 l l) (fun _ => none) l.length (t := ()) (fun i hi => by
    have h' : (i : Int) < (l.length : Int) := by omega
    simp only [punctualsame_Same_int.r0, if_pos h', List.getElem?_eq_getElem hi, if_true, onward]) (by
    have h' : ¬ (l.length : Int) < (l.length : Int) := by omega
    simp only [punctualsame_Same_int.r0, if_neg h']) hK
  rw [firstOf_none_of (fun _ _ _ => rfl)] at hr
  simp only [punctualsame_Same_int.f, if_true, hr, leave]
theorem few_true {n : Nat} (h : few.f (n : Int) = true) : n ≤ 5000 := by
  simp only [few.f, decide_eq_true_eq] at h; omega
theorem few_false {n : Nat} (h : ¬ few.f (n : Int) = true) : 5000 < n := by
  simp only [few.f, decide_eq_true_eq] at h; omega
theorem exists_bound {α : Type} (f : α → Nat) : ∀ l : List α, ∃ B, ∀ x ∈ l, f x ≤ B
  | [] => ⟨0, by simp⟩
  | x :: l => by
    obtain ⟨B, h⟩ := exists_bound f l
    refine ⟨max (f x) B, fun y hy => ?_⟩
    rcases List.mem_cons.1 hy with rfl | hy
    · exact Nat.le_max_left _ _
    · exact Nat.le_trans (h y hy) (Nat.le_max_right _ _)
/-- a letter stands there -/
def letterAt (x : ByteArray) (i : Nat) : Bool := match x[i]? with | some b => decide (97 ≤ b.toNat) && decide (b.toNat ≤ 122) | none => false
def allL (x : ByteArray) (n : Nat) : Bool := (List.range n).all (letterAt x)
theorem allL_succ (x : ByteArray) (n : Nat) : allL x (n + 1) = (allL x n && letterAt x n) := by simp [allL, List.range_succ]
theorem allL_iff {x : ByteArray} {n : Nat} : allL x n = true ↔ ∀ i, i < n → letterAt x i = true := by simp [allL]
def Good (x : ByteArray) : Prop := 1 ≤ x.size ∧ x.size ≤ 10 ∧ allL x x.size = true
instance (x : ByteArray) : Decidable (Good x) := by unfold Good; infer_instance
theorem get!_of {x : ByteArray} {i : Nat} {b : UInt8} (h : x[i]? = some b) : x.get! i = b := by
  have hi : i < x.size := by
    rcases Nat.lt_or_ge i x.size with h' | h'
    · exact h'
    · rw [getElem?_neg x i (by omega)] at h; cases h
  rw [getElem?_pos x i hi] at h
  have := Option.some.inj h
  rw [← this]
  cases x with
  | mk bs => exact getElem!_pos bs i hi
theorem byte_some {x : ByteArray} {i : Nat} (h : i < x.size) : ∃ b, x[i]? = some b := ⟨x[i], getElem?_pos x i h⟩
theorem decode_letter {x : ByteArray} {i : Nat} (hi : i < x.size) (h : letterAt x i = true) : ∃ n : Nat, Utf8.decode x i = (n, 1) ∧ 97 ≤ n ∧ n ≤ 122 := by
  obtain ⟨b, hb⟩ := byte_some hi
  simp only [letterAt, hb, Bool.and_eq_true, decide_eq_true_eq] at h
  refine ⟨b.toNat, ?_, h⟩
  have := get!_of hb
  simp only [Utf8.decode, Nat.add_zero, this]
  rw [if_pos (by omega)]
theorem decode_other {x : ByteArray} {i : Nat} (hi : i < x.size) (h : letterAt x i = false) : (Utf8.decode x i).1 < 97 ∨ 122 < (Utf8.decode x i).1 := by
  obtain ⟨b, hb⟩ := byte_some hi
  simp only [letterAt, hb, Bool.and_eq_false_iff, decide_eq_false_iff_not] at h
  have := get!_of hb
  simp only [Utf8.decode, Nat.add_zero, this]
  have he : Utf8.runeError = 65533 := rfl
  repeat' split
  all_goals simp only [he, Bool.and_eq_true, decide_eq_true_eq, ge_iff_le] at *
  all_goals omega
theorem takedrop {α : Type} (l : List α) (i : Nat) : (l.take i).drop 0 = l.take i := by simp
theorem iter_succ {σ ρ : Type} (f : σ → Option (σ ⊕ ρ)) (K : Nat) (s : σ) : iter f (K + 1) s = match f s with | none => none | some (.inl s') => iter f K s' | some (.inr r) => some r := rfl
theorem getD_leave {ρ : Type} (o : Option ρ) (d : ρ) : (match leave (τ := Unit) () o with | .inl _ => d | .inr r => r) = o.getD d := by cases o <;> rfl
/-- a over b, rounded up -/
def ceilD (a b : Int) : Int := (a + b - 1) / b
theorem ceilD_mono {a a' b : Int} (hb : 1 ≤ b) (h : a ≤ a') : ceilD a b ≤ ceilD a' b := Int.ediv_le_ediv (by omega) (by omega)
theorem ceilD_nonneg {a b : Int} (hb : 1 ≤ b) (h : 0 ≤ a) : 0 ≤ ceilD a b := Int.ediv_nonneg (by omega) (by omega)
theorem ceilD_le {a b : Int} (hb : 1 ≤ b) (h : 0 ≤ a) : ceilD a b ≤ a := by
  unfold ceilD
  rw [← Int.lt_add_one_iff]
  apply Int.ediv_lt_of_lt_mul (by omega)
  have : a * 1 ≤ a * b := Int.mul_le_mul_of_nonneg_left hb h
  rw [Int.add_mul]
  omega
/-- the least n, 1 at least, in which all is done that is wanted; 0: there is none up to most -/
def settled (f : Int → Int) (most : Int) : Int := match firstOf (fun n : Nat => if f n ≤ n then some (n : Int) else none) (most.toNat + 1) 1 with
  | some n => n
  | none => 0
theorem settled_some {f : Int → Int} {most : Int} {j : Nat} (h : firstOf (fun n : Nat => if f n ≤ n then some (n : Int) else none) (most.toNat + 1) 1 = some (j : Int)) : settled f most = j := by unfold settled; rw [h]
theorem settled_none {f : Int → Int} {most : Int} (h : firstOf (fun n : Nat => if f n ≤ n then some (n : Int) else none) (most.toNat + 1) 1 = none) : settled f most = 0 := by unfold settled; rw [h]
theorem settled_pos {f : Int → Int} {most : Int} (h : settled f most ≠ 0) : 1 ≤ settled f most ∧ settled f most ≤ most ∧ f (settled f most) ≤ settled f most ∧ ∀ n : Int, 1 ≤ n → n < settled f most → n < f n := by
  cases hf : firstOf (fun n : Nat => if f n ≤ n then some (n : Int) else none) (most.toNat + 1) 1 with
  | none => exact absurd (settled_none hf) h
  | some r =>
    obtain ⟨j, h1, h2, h3, h4⟩ := firstOf_some hf
    split at h3
    · cases h3
      rw [settled_some hf]
      refine ⟨by omega, by omega, by assumption, fun n hn1 hn2 => ?_⟩
      have := h4 n.toNat (by omega) (by omega)
      have e : ((n.toNat : Nat) : Int) = n := Int.toNat_of_nonneg (by omega)
      simp only [e] at this
      split at this
      · cases this
      · omega
    · cases h3
theorem settled_zero {f : Int → Int} {most : Int} (h : settled f most = 0) : ∀ n : Int, 1 ≤ n → n ≤ most → n < f n := by
  cases hf : firstOf (fun n : Nat => if f n ≤ n then some (n : Int) else none) (most.toNat + 1) 1 with
  | some r =>
    obtain ⟨j, h1, h2, h3, h4⟩ := firstOf_some hf
    split at h3
    · cases h3; rw [settled_some hf] at h; omega
    · cases h3
  | none =>
    intro n h1 h2
    have := firstOf_none hf n.toNat (by omega) (by omega)
    have e : ((n.toNat : Nat) : Int) = n := Int.toNat_of_nonneg (by omega)
    simp only [e] at this
    split at this
    · cases this
    · omega
theorem settled_eq {f : Int → Int} {most w : Int} (h1 : 1 ≤ w) (h2 : w ≤ most) (h3 : f w ≤ w) (h4 : ∀ n : Int, 1 ≤ n → n < w → n < f n) : settled f most = w := by
  by_cases h : settled f most = 0
  · have := settled_zero h w h1 h2; omega
  · obtain ⟨g1, g2, g3, g4⟩ := settled_pos h
    rcases Int.lt_trichotomy (settled f most) w with hl | hl | hl
    · have := h4 _ g1 hl; omega
    · exact hl
    · have := g4 _ h1 hl; omega
theorem settled_eq_zero {f : Int → Int} {most : Int} (h : ∀ n : Int, 1 ≤ n → n ≤ most → n < f n) : settled f most = 0 := by
  apply Decidable.byContradiction
  intro hne
  obtain ⟨g1, g2, g3, g4⟩ := settled_pos hne
  have := h _ g1 g2
  omega
theorem gmax_eq (x y : Int) : gmax x y = max x y := by unfold gmax; omega
theorem gmin_eq (x y : Int) : gmin x y = min x y := by unfold gmin; omega

/-- what is wrong with the i-th job that is played -/
def playAt (l : List SJob) (i : Nat) : Option SFault := match l[i]? with
  | some e => if e.At < 0 ∨ e.At > 60000 ∨ e.C < 1 ∨ e.C > 10000 ∨ e.Due < 0 ∨ e.Due > 80000 then some ⟨3, (i : Int)⟩ else none
  | none => none
def playFault (l : List SJob) : SFault := if l.length > 4000 then ⟨2, 0⟩ else (firstOf (playAt l) l.length 0).getD ⟨0, 0⟩
theorem schedCheck_eq (l : List SJob) (K : Nat) (hK : 4010 ≤ K) : sched_Check.f K l = some (playFault l) := by
  unfold sched_Check.f playFault
  by_cases hl : (l.length : Int) > 4000
  · rw [if_pos hl, if_pos (by omega)]
  rw [if_neg hl, if_neg (by omega)]
  have hr := iter_first0 (f := sched_Check.r0 l) (playAt l) l.length (t := ()) (fun i hi => by
    have hi' : (i : Int) < (l.length : Int) := by omega
    simp only [sched_Check.r0, if_pos hi', List.getElem?_eq_getElem hi, playAt]
    generalize l[i] = e
    by_cases h : e.At < 0 ∨ e.At > 60000 ∨ e.C < 1 ∨ e.C > 10000 ∨ e.Due < 0 ∨ e.Due > 80000
    · rw [if_pos h]
      repeat' split
      all_goals first | rfl | omega
    · rw [if_neg h]
      rw [if_neg (by omega), if_neg (by omega), if_neg (by omega), if_neg (by omega), if_neg (by omega), if_neg (by omega)]
      rfl) (by simp [sched_Check.r0]) (K := K) (by omega)
  rw [hr]
  cases firstOf (playAt l) l.length 0 <;> rfl
structure Okj (e : SJob) : Prop where
  At : 0 ≤ e.At ∧ e.At ≤ 60000
  C : 1 ≤ e.C ∧ e.C ≤ 10000
  Due : 0 ≤ e.Due ∧ e.Due ≤ 80000
theorem playFault_ok {l : List SJob} (h : (playFault l).Code = 0) : l.length ≤ 4000 ∧ playFault l = ⟨0, 0⟩ ∧ ∀ e ∈ l, Okj e := by
  unfold playFault at h ⊢
  split at h
  · cases h
  rename_i hl
  cases hf : firstOf (playAt l) l.length 0 with
  | none =>
    refine ⟨by omega, by rw [if_neg hl]; rfl, fun e he => ?_⟩
    obtain ⟨i, hi⟩ := List.mem_iff_getElem?.1 he
    have := firstOf_none hf i (Nat.zero_le _) (lt_of_get hi)
    simp only [playAt, hi] at this
    split at this
    · cases this
    · exact ⟨by omega, by omega, by omega⟩
  | some r =>
    rw [hf] at h
    obtain ⟨j, _, hj, hg, _⟩ := firstOf_some hf
    exfalso
    simp only [playAt, List.getElem?_eq_getElem hj] at hg
    split at hg
    · cases hg; cases h
    · cases hg
theorem playFault_of {l : List SJob} (hl : l.length ≤ 4000) (h : ∀ e ∈ l, Okj e) : playFault l = ⟨0, 0⟩ := by
  unfold playFault
  rw [if_neg (by omega), firstOf_none_of]
  · rfl
  · intro j _ hj
    have he := h l[j] (List.getElem_mem hj)
    have := he.At; have := he.C; have := he.Due
    simp only [playAt, List.getElem?_eq_getElem hj]
    rw [if_neg (by omega)]
/-- job a goes ahead of job b, by a policy, then by their times -/
def aheadJ (p : Int) (a b : SJob) : Prop := if p = 1 then a.P > b.P ∨ (a.P = b.P ∧ a.At < b.At) else a.Due < b.Due ∨ (a.Due = b.Due ∧ a.At < b.At)
instance (p : Int) (a b : SJob) : Decidable (aheadJ p a b) := by unfold aheadJ; infer_instance
theorem compare_eq (x y : Int) : cmp_Compare_int.f x y = if x < y then -1 else if x > y then 1 else 0 := by simp [cmp_Compare_int.f, cmp_isNaN_int.f]
theorem or2_eq (x y : Int) (K : Nat) (hK : 3 ≤ K) : cmp_Or_int.f K [x, y] = some (if x = 0 then y else x) := by
  obtain ⟨K, rfl⟩ : ∃ k, K = k + 3 := ⟨K - 3, by omega⟩
  simp only [cmp_Or_int.f, iter, cmp_Or_int.r0]
  by_cases hx : x = 0 <;> by_cases hy : y = 0 <;> simp [hx, hy]
/-- can it run at t? -/
def canJ (jobs : List SJob) (left : List Int) (t : Int) (i : Nat) : Prop := match jobs[i]?, left[i]? with
  | some j, some x => j.At ≤ t ∧ 0 < x
  | _, _ => False
instance (jobs : List SJob) (left : List Int) (t : Int) (i : Nat) : Decidable (canJ jobs left t i) := by unfold canJ; split <;> infer_instance
/-- the first of the first n -/
def firstTo (p : Int) (jobs : List SJob) (left : List Int) (t : Int) : Nat → Int
  | 0 => -1
  | n + 1 =>
    let b := firstTo p jobs left t n
    if canJ jobs left t n then
      (if b < 0 then (n : Int) else match jobs[n]?, jobs[b.toNat]? with
        | some x, some y => if aheadJ p x y then (n : Int) else b
        | _, _ => b)
    else b
theorem firstTo_cases (p : Int) (jobs : List SJob) (left : List Int) (t : Int) : ∀ n, n ≤ jobs.length → (firstTo p jobs left t n = -1 ∧ ∀ i, i < n → ¬ canJ jobs left t i) ∨
    (∃ (b : Nat) (y : SJob), firstTo p jobs left t n = (b : Int) ∧ b < n ∧ jobs[b]? = some y ∧ canJ jobs left t b ∧ ∀ i x, i < n → jobs[i]? = some x → canJ jobs left t i → ¬ aheadJ p x y ∧ (i < b → aheadJ p y x))
  | 0, _ => .inl ⟨rfl, fun i h => by omega⟩
  | n + 1, hn => by
    have hnx : jobs[n]? = some jobs[n] := List.getElem?_eq_getElem (by omega)
    generalize jobs[n] = x at hnx
    have irr : ∀ x : SJob, ¬ aheadJ p x x := fun x h => by unfold aheadJ at h; split at h <;> omega
    have tr : ∀ x y z : SJob, aheadJ p x y → ¬ aheadJ p z y → ¬ aheadJ p z x := fun x y z h k hh => by
      unfold aheadJ at h k hh; split at h <;> simp_all <;> omega
    have tr2 : ∀ x y z : SJob, aheadJ p x y → aheadJ p y z → aheadJ p x z := fun x y z h k => by
      unfold aheadJ at h k ⊢; split at h <;> simp_all <;> omega
    have tr3 : ∀ x y z : SJob, aheadJ p x y → ¬ aheadJ p z y → aheadJ p x z := fun x y z h k => by
      unfold aheadJ at h k ⊢; split at h <;> simp_all <;> omega
    rcases firstTo_cases p jobs left t n (by omega) with ⟨h1, h2⟩ | ⟨b, y, h1, h2, h3, h4, h5⟩
    · by_cases hc : canJ jobs left t n
      · right
        refine ⟨n, x, by simp only [firstTo, if_pos hc, h1]; rfl, by omega, hnx, hc, fun i z hi hz hcz => ?_⟩
        by_cases hin : i = n
        · subst hin; rw [hnx] at hz; cases hz; exact ⟨irr _, fun h => by omega⟩
        · exact absurd hcz (h2 i (by omega))
      · left
        refine ⟨by simp only [firstTo, if_neg hc, h1], fun i hi => ?_⟩
        by_cases hin : i = n
        · subst hin; exact hc
        · exact h2 i (by omega)
    · right
      by_cases hc : canJ jobs left t n
      · by_cases ha : aheadJ p x y
        · refine ⟨n, x, by simp only [firstTo, if_pos hc, h1, Int.toNat_natCast, hnx, h3, if_pos ha]; rw [if_neg (by omega)], by omega, hnx, hc, fun i z hi hz hcz => ?_⟩
          by_cases hin : i = n
          · subst hin; rw [hnx] at hz; cases hz; exact ⟨irr _, fun h => by omega⟩
          · obtain ⟨g1, g2⟩ := h5 i z (by omega) hz hcz
            exact ⟨tr x y z ha g1, fun _ => tr3 x y z ha g1⟩
        · refine ⟨b, y, by simp only [firstTo, if_pos hc, h1, Int.toNat_natCast, hnx, h3, if_neg ha]; rw [if_neg (by omega)], by omega, h3, h4, fun i z hi hz hcz => ?_⟩
          by_cases hin : i = n
          · subst hin; rw [hnx] at hz; cases hz; exact ⟨ha, fun h => by omega⟩
          · exact h5 i z (by omega) hz hcz
      · refine ⟨b, y, by simp only [firstTo, if_neg hc, h1], by omega, h3, h4, fun i z hi hz hcz => ?_⟩
        by_cases hin : i = n
        · subst hin; exact absurd hcz hc
        · exact h5 i z (by omega) hz hcz
theorem can_eq (jobs : List SJob) (left : List Int) (t : Int) (i : Nat) (hi : i < jobs.length) (hl : left.length = jobs.length) : sched_Play_1.f (i : Int) jobs t left = some (decide (canJ jobs left t i)) := by
  have h1 : jobs[i]? = some jobs[i] := List.getElem?_eq_getElem hi
  have h2 : left[i]? = some (left[i]'(by omega)) := List.getElem?_eq_getElem (by omega)
  simp only [sched_Play_1.f, Int.toNat_natCast, h1, h2, canJ]
  rw [if_pos (by omega)]
  by_cases h : jobs[i].At ≤ t
  · simp [h]
  · simp [h]
theorem First_eq (p : Int) (hp : p = 1 ∨ p = 2) (jobs : List SJob) (left : List Int) (t : Int) (hl : left.length = jobs.length) (K : Nat) (hK : jobs.length + 5 ≤ K) : sched_First.f K jobs jobs t left p = some (firstTo p jobs left t jobs.length) := by
  unfold sched_First.f
  have hr := iter_states (ρ := Int) (f := sched_First.r0 K jobs jobs t left p) (fun i => (firstTo p jobs left t i, i)) (fun _ => none) jobs.length (t := firstTo p jobs left t jobs.length) (fun i hi _ => by
    have hi' : (i : Int) < (jobs.length : Int) := by omega
    have h1 : jobs[i]? = some jobs[i] := List.getElem?_eq_getElem hi
    simp only [sched_First.r0, if_pos hi', h1, can_eq jobs left t i hi hl, decide_eq_true_eq, onwardS]
    by_cases hc : canJ jobs left t i
    · rw [if_pos hc]
      rcases firstTo_cases p jobs left t i (by omega) with ⟨g1, _⟩ | ⟨b, y, g1, g2, g3, _, _⟩
      · rw [g1, if_pos (by omega)]
        simp only [firstTo, if_pos hc, g1]
        rfl
      · rw [g1, if_neg (by omega), if_pos (by omega)]
        simp only [Int.toNat_natCast, g3]
        have e1 : firstTo p jobs left t (i + 1) = if aheadJ p jobs[i] y then (i : Int) else (b : Int) := by
          simp only [firstTo, if_pos hc, g1, Int.toNat_natCast, h1, g3]
          rw [if_neg (by omega)]
        rw [e1]
        rcases hp with rfl | rfl
        · simp [sched_rule.f, or2_eq _ _ K (show 3 ≤ K by omega), sched_byPriority.f, compare_eq, aheadJ]
          repeat' split
          all_goals first | rfl | (exfalso; omega) | simp_all
        · simp [sched_rule.f, or2_eq _ _ K (show 3 ≤ K by omega), sched_byDue.f, compare_eq, aheadJ]
          repeat' split
          all_goals first | rfl | (exfalso; omega) | simp_all
    · rw [if_neg hc]
      simp only [firstTo, if_neg hc]) (fun _ => by simp [sched_First.r0]) (K := K) (by omega)
  have h0 : firstTo p jobs left t 0 = -1 := rfl
  rw [h0, firstOf_none_of (fun _ _ _ => rfl)] at hr
  rw [hr]; rfl

theorem getD_of {l : List Int} {i : Nat} {x : Int} (h : l[i]? = some x) : l.getD i 0 = x := by simp [List.getD, h]
theorem get_of_lt {l : List Int} {i : Nat} (h : i < l.length) : l[i]? = some (l.getD i 0) := by simp [List.getD, h]
theorem getD_set (l : List Int) (i j : Nat) (x : Int) (hi : i < l.length) : (l.set i x).getD j 0 = if i = j then x else l.getD j 0 := by
  simp only [List.getD, List.getElem?_set]
  by_cases h : i = j
  · subst h; simp [hi]
  · simp [h]
def atN (jobs : List SJob) (j : Nat) : Nat := match jobs[j]? with | some e => e.At.toNat | none => 0
def costOf (jobs : List SJob) (j : Nat) : Int := (jobs.map (·.C)).getD j 0
theorem costOf_some {jobs : List SJob} {j : Nat} {e : SJob} (h : jobs[j]? = some e) : costOf jobs j = e.C := by simp [costOf, List.getD, h]
theorem atN_some {jobs : List SJob} {j : Nat} {e : SJob} (h : jobs[j]? = some e) : atN jobs j = e.At.toNat := by simp [atN, h]

/-- who runs in a tick -/
def nowOf (p : Int) (pre : Bool) (jobs : List SJob) (t : Int) (now : Int) (left : List Int) : Int :=
  if pre = true ∨ now < 0 ∨ left.getD now.toNat 0 = 0 then firstTo p jobs left t jobs.length else now
/-- one tick -/
def tickP (p : Int) (pre : Bool) (jobs : List SJob) (t : Int) (s : Int × List Int × List Int) : Int × List Int × List Int :=
  let b := nowOf p pre jobs t s.1 s.2.1
  if b < 0 then (b, s.2.1, s.2.2)
  else
    let left' := s.2.1.set b.toNat (s.2.1.getD b.toNat 0 - 1)
    (b, left', if left'.getD b.toNat 0 = 0 then s.2.2.set b.toNat (t + 1) else s.2.2)
/-- how it stands behind so many ticks: who ran last, what is left, the ends -/
def simP (p : Int) (pre : Bool) (jobs : List SJob) : Nat → Int × List Int × List Int
  | 0 => (-1, jobs.map (·.C), List.replicate jobs.length (-1))
  | t + 1 => tickP p pre jobs (t : Int) (simP p pre jobs t)
/-- what is left of job j behind t ticks -/
def leftP (p : Int) (pre : Bool) (jobs : List SJob) (t j : Nat) : Int := (simP p pre jobs t).2.1.getD j 0
def endP (p : Int) (pre : Bool) (jobs : List SJob) (t j : Nat) : Int := (simP p pre jobs t).2.2.getD j 0
/-- who runs in tick t -/
def runP (p : Int) (pre : Bool) (jobs : List SJob) (t : Nat) : Int := (simP p pre jobs (t + 1)).1
structure SimOk (jobs : List SJob) (s : Int × List Int × List Int) : Prop where
  left : s.2.1.length = jobs.length
  ends : s.2.2.length = jobs.length
  now : s.1 = -1 ∨ ∃ b : Nat, s.1 = (b : Int) ∧ b < jobs.length
  nonneg : ∀ j, 0 ≤ s.2.1.getD j 0
  small : ∀ j, s.2.1.getD j 0 ≤ 10000
theorem nowOf_cases {p : Int} {pre : Bool} {jobs : List SJob} {s : Int × List Int × List Int} (h : SimOk jobs s) (t : Int) : (nowOf p pre jobs t s.1 s.2.1 = -1) ∨
    ∃ b : Nat, nowOf p pre jobs t s.1 s.2.1 = (b : Int) ∧ b < jobs.length ∧ 0 < s.2.1.getD b 0 := by
  unfold nowOf
  by_cases hc : pre = true ∨ s.1 < 0 ∨ s.2.1.getD s.1.toNat 0 = 0
  · rw [if_pos hc]
    rcases firstTo_cases p jobs s.2.1 t jobs.length (Nat.le_refl _) with ⟨h1, _⟩ | ⟨b, y, h1, h2, h3, h4, _⟩
    · exact .inl h1
    · refine .inr ⟨b, h1, h2, ?_⟩
      have hb : s.2.1[b]? = some (s.2.1.getD b 0) := get_of_lt (by rw [h.left]; exact h2)
      unfold canJ at h4
      rw [h3, hb] at h4
      exact h4.2
  · rw [if_neg hc]
    rcases h.now with h1 | ⟨b, h1, h2⟩
    · exact .inl h1
    · refine .inr ⟨b, h1, h2, ?_⟩
      have h3 : ¬ s.2.1.getD b 0 = 0 := fun h' => hc (.inr (.inr (by rw [h1]; exact h')))
      have := h.nonneg b
      omega
theorem tickP_ok {p : Int} {pre : Bool} {jobs : List SJob} {s : Int × List Int × List Int} (h : SimOk jobs s) (t : Int) : SimOk jobs (tickP p pre jobs t s) := by
  unfold tickP
  rcases nowOf_cases (p := p) (pre := pre) h t with h1 | ⟨b, h1, h2, h3⟩
  · simp only [h1]
    rw [if_pos (by omega)]
    exact ⟨h.left, h.ends, .inl rfl, h.nonneg, h.small⟩
  · simp only [h1, Int.toNat_natCast]
    rw [if_neg (by omega)]
    have hbl : b < s.2.1.length := by rw [h.left]; exact h2
    refine ⟨by simp [h.left], ?_, .inr ⟨b, rfl, h2⟩, fun j => ?_, fun j => ?_⟩
    · simp only
      split <;> simp [h.ends]
    · rw [getD_set _ _ _ _ hbl]
      split
      · omega
      · exact h.nonneg j
    · rw [getD_set _ _ _ _ hbl]
      have := h.small b
      split
      · omega
      · exact h.small j
theorem simP_ok (p : Int) (pre : Bool) {jobs : List SJob} (hj : ∀ e ∈ jobs, Okj e) : ∀ t, SimOk jobs (simP p pre jobs t)
  | 0 => by
    have key : ∀ j, 0 ≤ (jobs.map (·.C)).getD j 0 ∧ (jobs.map (·.C)).getD j 0 ≤ 10000 := fun j => by
      simp only [List.getD, List.getElem?_map]
      cases hx : jobs[j]? with
      | none => simp
      | some e => have := (hj e (List.mem_of_getElem? hx)).C; simp; omega
    exact ⟨by simp [simP], by simp [simP], .inl rfl, fun j => (key j).1, fun j => (key j).2⟩
  | t + 1 => tickP_ok (simP_ok p pre hj t) _
def runsTill (p : Int) (pre : Bool) (jobs : List SJob) (n t : Nat) : List Int := (List.range n).map fun s => if s < t then runP p pre jobs s else 0
theorem Sched_p5_eq (p : Int) (hp : p = 1 ∨ p = 2) (pre : Bool) (jobs : List SJob) (t : Int) (s : Int × List Int × List Int) (h : SimOk jobs s) (K : Nat) (hK : jobs.length + 5 ≤ K) : sched_Play.p5 K jobs p pre s.1 t s.2.1 = some (.inl (nowOf p pre jobs t s.1 s.2.1)) := by
  have hF := First_eq p hp jobs s.2.1 t h.left K hK
  unfold sched_Play.p5 nowOf
  by_cases h1 : pre = true
  · rw [if_pos h1, if_pos (.inl h1), hF]
  rw [if_neg h1]
  by_cases h2 : s.1 < 0
  · rw [if_pos h2, if_pos (.inr (.inl h2)), hF]
  rw [if_neg h2, if_pos (by omega)]
  rcases h.now with h3 | ⟨b, h3, h4⟩
  · omega
  · have hb : s.2.1[s.1.toNat]? = some (s.2.1.getD s.1.toNat 0) := get_of_lt (by rw [h.left, h3]; simpa using h4)
    rw [hb]
    simp only
    by_cases h5 : s.2.1.getD s.1.toNat 0 = 0
    · rw [if_pos h5, if_pos (.inr (.inr h5)), hF]
    · rw [if_neg h5, if_neg]
      rintro (h6 | h6 | h6)
      · exact h1 h6
      · exact h2 h6
      · exact h5 h6
theorem Play_r4_eq (p : Int) (hp : p = 1 ∨ p = 2) (pre : Bool) (jobs : List SJob) (hj : ∀ e ∈ jobs, Okj e) (n : Nat) (hn : n ≤ 20000) (K : Nat) (hK : jobs.length + 5 ≤ K) (hK2 : n < K) :
    iter (sched_Play.r4 K jobs p pre (n : Int)) K ((-1), 0, jobs.map (·.C), List.replicate n 0, List.replicate jobs.length (-1)) = some (.inl (runsTill p pre jobs n n, (simP p pre jobs n).2.2)) := by
  have hr := iter_states (ρ := SPlayed × SFault) (f := sched_Play.r4 K jobs p pre (n : Int)) (fun i => ((simP p pre jobs i).1, (i : Int), (simP p pre jobs i).2.1, runsTill p pre jobs n i, (simP p pre jobs i).2.2)) (fun _ => none) n (t := (runsTill p pre jobs n n, (simP p pre jobs n).2.2)) (fun i hi _ => by
    have hi' : (i : Int) < (n : Int) := by omega
    have hok := simP_ok p pre hj i
    have hw : IntKind.i64.wrap ((i : Int) + 1) = ((i + 1 : Nat) : Int) := by rw [wrap64_small (by omega) (by omega)]; rfl
    have hrl : (runsTill p pre jobs n i).length = n := by simp [runsTill]
    have hri : (runsTill p pre jobs n i)[i]? = some 0 := by simp [runsTill, hi]
    have hset : ∀ b : Int, runP p pre jobs i = b → (runsTill p pre jobs n i).set i b = runsTill p pre jobs n (i + 1) := fun b hb => by
      apply List.ext_getElem?
      intro q
      rw [List.getElem?_set, hrl]
      by_cases hq : i = q
      · subst hq
        rw [if_pos rfl, if_pos hi]
        simp [runsTill, hi, hb]
      · rw [if_neg hq]
        simp only [runsTill, List.getElem?_map]
        by_cases hqn : q < n
        · rw [List.getElem?_range hqn]
          simp only [Option.map_some]
          by_cases hqi : q < i
          · rw [if_pos hqi, if_pos (by omega)]
          · rw [if_neg hqi, if_neg (by omega)]
        · rw [List.getElem?_eq_none (by simp; omega)]; rfl
    simp only [sched_Play.r4, if_pos hi', Sched_p5_eq p hp pre jobs (i : Int) _ hok K hK, if_pos (show (0 : Int) ≤ (i : Int) by omega), Int.toNat_natCast, hri, hw, onwardS]
    have hs : simP p pre jobs (i + 1) = tickP p pre jobs (i : Int) (simP p pre jobs i) := rfl
    have hrun : runP p pre jobs i = (tickP p pre jobs (i : Int) (simP p pre jobs i)).1 := rfl
    rcases nowOf_cases (p := p) (pre := pre) hok (i : Int) with h1 | ⟨b, h1, h2, h3⟩
    · rw [h1, if_pos (by omega)]
      have ht : tickP p pre jobs (i : Int) (simP p pre jobs i) = (-1, (simP p pre jobs i).2.1, (simP p pre jobs i).2.2) := by
        unfold tickP; simp only [h1]; rw [if_pos (by omega)]
      rw [hset (-1) (by rw [hrun, ht]), hs, ht]
    · rw [h1, if_neg (by omega), if_pos (by omega)]
      have hbl : b < (simP p pre jobs i).2.1.length := by rw [hok.left]; exact h2
      have hbe : b < (simP p pre jobs i).2.2.length := by rw [hok.ends]; exact h2
      have hsm := hok.small b
      have hw2 : IntKind.i64.wrap ((simP p pre jobs i).2.1.getD b 0 - 1) = (simP p pre jobs i).2.1.getD b 0 - 1 := wrap64_small (by omega) (by omega)
      have hget : ((simP p pre jobs i).2.1.set b ((simP p pre jobs i).2.1.getD b 0 - 1))[b]? = some ((simP p pre jobs i).2.1.getD b 0 - 1) := by simp [hbl]
      simp only [Int.toNat_natCast, get_of_lt hbl, hw2, hget, get_of_lt hbe]
      have ht : tickP p pre jobs (i : Int) (simP p pre jobs i) = ((b : Int), (simP p pre jobs i).2.1.set b ((simP p pre jobs i).2.1.getD b 0 - 1), if (simP p pre jobs i).2.1.getD b 0 - 1 = 0 then (simP p pre jobs i).2.2.set b ((i : Int) + 1) else (simP p pre jobs i).2.2) := by
        unfold tickP
        simp only [h1, Int.toNat_natCast]
        rw [if_neg (by omega), getD_set _ _ _ _ hbl, if_pos rfl]
      rw [hset (b : Int) (by rw [hrun, ht]), hs, ht]
      by_cases h0 : (simP p pre jobs i).2.1.getD b 0 - 1 = 0
      · rw [if_pos h0]
        simp only [if_pos h0]
        rfl
      · rw [if_neg h0]
        simp only [if_neg h0]) (fun _ => by simp [sched_Play.r4]) (K := K) hK2
  rw [firstOf_none_of (fun _ _ _ => rfl)] at hr
  have h0 : runsTill p pre jobs n 0 = List.replicate n 0 := by
    apply List.ext_getElem
    · simp [runsTill]
    · intro i h1 h2; simp [runsTill]
  simp only [h0] at hr
  exact hr
/-- how jobs are played -/
def playOf (jobs : List SJob) (p : Int) (pre : Bool) (n : Int) : SPlayed × SFault :=
  if (playFault jobs).Code = 0 then
    (if p = 1 ∨ p = 2 then
      (if n < 0 ∨ n > 20000 then (⟨[], []⟩, ⟨3, 0⟩) else (⟨runsTill p pre jobs n.toNat n.toNat, (simP p pre jobs n.toNat).2.2⟩, ⟨0, 0⟩))
    else (⟨[], []⟩, ⟨6, 0⟩))
  else (⟨[], []⟩, playFault jobs)
theorem Play_eq (jobs : List SJob) (p : Int) (pre : Bool) (n : Int) (K : Nat) (hK : 20010 ≤ K) : sched_Play.f K jobs p pre n = some (playOf jobs p pre n) := by
  unfold sched_Play.f playOf
  rw [schedCheck_eq jobs K (by omega)]
  simp only
  by_cases hc : (playFault jobs).Code = 0
  · rw [if_pos hc, if_pos hc]
    obtain ⟨hl, _, hj⟩ := playFault_ok hc
    by_cases hp : p = 1 ∨ p = 2
    · have hp0 : sched_Play.p0 p = some (.inl ()) := by rcases hp with rfl | rfl <;> simp [sched_Play.p0, sched_rule.f]
      rw [hp0, if_pos hp]
      simp only
      by_cases hn : n < 0 ∨ n > 20000
      · have hp1 : sched_Play.p1 n = some (.inr (⟨[], []⟩, ⟨3, 0⟩)) := by
          unfold sched_Play.p1
          by_cases h1 : n < 0
          · rw [if_pos h1]
          · rw [if_neg h1, if_pos (by omega)]
        rw [hp1, if_pos hn]
      · have hp1 : sched_Play.p1 n = some (.inl ()) := by unfold sched_Play.p1; rw [if_neg (by omega), if_neg (by omega)]
        obtain ⟨m, rfl⟩ := Int.eq_ofNat_of_zero_le (show 0 ≤ n by omega)
        have hp2 : sched_Play.p2 jobs (m : Int) = some (.inl (List.replicate m 0, List.replicate jobs.length 0)) := by
          unfold sched_Play.p2
          simp only [Int.toNat_natCast]
          rw [if_pos (by omega), if_pos (by omega), if_pos (by omega)]
        rw [hp1, if_neg hn]
        simp only [hp2, Int.toNat_natCast]
        rw [if_pos (by omega)]
        have hr := iter_states (ρ := SPlayed × SFault) (f := sched_Play.r3 jobs) (fun i => (i, (List.range jobs.length).map (fun q => if q < i then (jobs.map (·.C)).getD q 0 else 0), (List.range jobs.length).map (fun q => if q < i then (-1 : Int) else 0))) (fun _ => none) jobs.length (t := (jobs.map (·.C), List.replicate jobs.length (-1))) (fun i hi _ => by
          have hi' : (i : Int) < (jobs.length : Int) := by omega
          simp only [sched_Play.r3, if_pos hi', List.getElem?_eq_getElem hi, onwardS, List.getElem?_map, List.getElem?_range hi, Option.map_some]
          congr 3
          refine Prod.ext ?_ ?_
          · apply List.ext_getElem?
            intro q
            simp only [List.getElem?_set, List.length_map, List.length_range, List.getElem?_map]
            by_cases hq : i = q
            · subst hq; simp [hi]
            · rw [if_neg hq]
              by_cases hqn : q < jobs.length
              · rw [List.getElem?_range hqn]
                simp only [Option.map_some]
                by_cases hqi : q < i
                · rw [if_pos hqi, if_pos (by omega)]
                · rw [if_neg hqi, if_neg (by omega)]
              · rw [List.getElem?_eq_none (by simp; omega)]; rfl
          · apply List.ext_getElem?
            intro q
            simp only [List.getElem?_set, List.length_map, List.length_range, List.getElem?_map]
            by_cases hq : i = q
            · subst hq; simp [hi]
            · rw [if_neg hq]
              by_cases hqn : q < jobs.length
              · rw [List.getElem?_range hqn]
                simp only [Option.map_some]
                by_cases hqi : q < i
                · rw [if_pos hqi, if_pos (by omega)]
                · rw [if_neg hqi, if_neg (by omega)]
              · rw [List.getElem?_eq_none (by simp; omega)]; rfl) (fun _ => by
          simp only [sched_Play.r3]
          rw [if_neg (by omega)]
          congr 4
          · apply List.ext_getElem
            · simp
            · intro q h1 h2
              have hq : q < jobs.length := by simpa using h1
              simp [hq]
          · apply List.ext_getElem
            · simp
            · intro q h1 h2
              have hq : q < jobs.length := by simpa using h1
              simp [hq]) (K := K) (by omega)
        rw [firstOf_none_of (fun _ _ _ => rfl)] at hr
        have e1 : (List.range jobs.length).map (fun q => if q < 0 then (jobs.map (·.C)).getD q 0 else 0) = List.replicate jobs.length (0 : Int) := by
          apply List.ext_getElem
          · simp
          · intro i h1 h2; simp
        have e2 : (List.range jobs.length).map (fun q => if q < 0 then (-1 : Int) else 0) = List.replicate jobs.length (0 : Int) := by
          apply List.ext_getElem
          · simp
          · intro i h1 h2; simp
        simp only [e1, e2] at hr
        rw [hr]
        simp only [leave, Play_r4_eq p hp pre jobs hj m (by omega) K (by omega) (by omega)]
    · have hp0 : sched_Play.p0 p = some (.inr (⟨[], []⟩, ⟨6, 0⟩)) := by
        unfold sched_Play.p0 sched_rule.f
        rw [if_neg (fun h => hp (.inl h)), if_neg (fun h => hp (.inr h)), if_pos rfl]
      rw [hp0, if_neg hp]
  · rw [if_neg hc, if_neg hc]
    rfl
/-- who isn't done when it is due -/
def lateAt (jobs : List SJob) (n : Nat) (ends : List Int) (i : Nat) : Bool := match jobs[i]?, ends[i]? with
  | some j, some e => decide (e > j.Due) || (decide (e < 0) && decide (j.Due ≤ (n : Int)))
  | _, _ => false
def lateTill (jobs : List SJob) (n : Nat) (ends : List Int) (k : Nat) : List Int := (List.range k).filterMap fun i => if lateAt jobs n ends i = true then some (i : Int) else none
theorem Late_eq (jobs : List SJob) (runs ends : List Int) (hl : jobs.length ≤ 5000) (K : Nat) (hK : 5010 ≤ K) : sched_Late.f K jobs runs ends = some (if ends.length = jobs.length then (lateTill jobs runs.length ends jobs.length, ⟨0, 0⟩) else ([], ⟨2, 0⟩)) := by
  unfold sched_Late.f
  by_cases h : (ends.length : Int) = (jobs.length : Int)
  · rw [if_pos h, if_pos (by omega)]
    have hr := iter_states (ρ := List Int × SFault) (f := sched_Late.r0 jobs runs ends) (fun i => (lateTill jobs runs.length ends i, i)) (fun _ => none) jobs.length (t := lateTill jobs runs.length ends jobs.length) (fun i hi _ => by
      have hi' : (i : Int) < (jobs.length : Int) := by omega
      have hie : i < ends.length := by omega
      have hlen : (lateTill jobs runs.length ends i).length < 17592186044416 := by
        have : (lateTill jobs runs.length ends i).length ≤ i := by unfold lateTill; exact Nat.le_trans (List.length_filterMap_le _ _) (by simp)
        omega
      have hs : lateTill jobs runs.length ends (i + 1) = lateTill jobs runs.length ends i ++ (if lateAt jobs runs.length ends i = true then [(i : Int)] else []) := by
        unfold lateTill
        rw [List.range_succ, List.filterMap_append]
        congr 1
        by_cases h : lateAt jobs runs.length ends i = true <;> simp [h]
      rw [hs]
      simp only [sched_Late.r0, if_pos hi', List.getElem?_eq_getElem hi, List.getElem?_eq_getElem hie, if_pos hlen, onwardS, lateAt]
      by_cases h1 : ends[i] > jobs[i].Due
      · rw [if_pos h1, if_pos (by simp; omega)]
      · rw [if_neg h1]
        by_cases h2 : ends[i] < 0
        · rw [if_pos h2]
          by_cases h3 : jobs[i].Due ≤ (runs.length : Int)
          · rw [if_pos h3, if_pos (by simp; omega)]
          · rw [if_neg h3, if_neg (by simp; omega), List.append_nil]
        · rw [if_neg h2, if_neg (by simp; omega), List.append_nil]) (fun _ => by simp [sched_Late.r0]) (K := K) (by omega)
    have h0 : lateTill jobs runs.length ends 0 = [] := rfl
    rw [h0, firstOf_none_of (fun _ _ _ => rfl)] at hr
    rw [hr]; rfl
  · rw [if_neg h, if_neg (by omega)]
theorem playOf_two : playOf [⟨0, 0, 3, 9, 1⟩, ⟨0, 1, 1, 3, 2⟩] 1 true 5 = (⟨[0, 1, 0, 0, -1], [4, 2]⟩, ⟨0, 0⟩) := by kernel_rfl
theorem runs_true (K : Nat) (hK : 20010 ≤ K) : runs.f K = some true := by
  unfold runs.f
  rw [Play_eq _ _ _ _ K hK, playOf_two]
  simp only [Late_eq _ _ _ (show ([⟨0, 0, 3, 9, 1⟩, ⟨0, 1, 1, 3, 2⟩] : List SJob).length ≤ 5000 by simp) K (by omega)]
  have h1 : lateTill [⟨0, 0, 3, 9, 1⟩, ⟨0, 1, 1, 3, 2⟩] ([0, 1, 0, 0, -1] : List Int).length [4, 2] ([⟨0, 0, 3, 9, 1⟩, ⟨0, 1, 1, 3, 2⟩] : List SJob).length = [] := by decide +kernel
  simp only [h1, punctualsame_Same_int_self _ K (show ([0, 1, 0, 0, -1] : List Int).length < K by simp; omega), punctualsame_Same_int_self _ K (show ([4, 2] : List Int).length < K by simp; omega)]
  rfl

theorem mget_mset {κ ν : Type} [DecidableEq κ] (k k' : κ) (v : ν) : ∀ m : List (κ × ν), mget (mset m k v) k' = if k' = k then some v else mget m k'
  | [] => by simp only [mset, mget]
  | (a, b) :: r => by
    simp only [mset]
    by_cases hk : k = a
    · subst hk
      rw [if_pos rfl]
      simp only [mget]
      by_cases h' : k' = k
      · rw [if_pos h', if_pos h']
      · rw [if_neg h', if_neg h', if_neg h']
    · rw [if_neg hk]
      simp only [mget]
      by_cases h' : k' = a
      · subst h'
        rw [if_pos rfl, if_neg (fun h => hk h.symm), if_pos rfl]
      · rw [if_neg h', if_neg h', mget_mset k k' v r]

/-- rounds that keep a relation -/
theorem iter_rel {σ τ ρ : Type} {f : σ → Option (σ ⊕ (τ ⊕ ρ))} (R : Nat → σ → Prop) (T : τ → Prop) (n : Nat) (h : ∀ i s, i < n → R i s → ∃ s', f s = some (.inl s') ∧ R (i + 1) s') (he : ∀ s, R n s → ∃ t, f s = some (.inr (.inl t)) ∧ T t) {K : Nat} (hK : n < K) {s : σ} (hs : R 0 s) : ∃ t, iter f K s = some (.inl t) ∧ T t := by
  have key : ∀ (K i : Nat) (s : σ), i ≤ n → n - i < K → R i s → ∃ t, iter f K s = some (.inl t) ∧ T t := by
    intro K
    induction K with
    | zero => intro i _ _ hK; omega
    | succ K ih =>
      intro i s hi hK hR
      rw [iter_succ]
      by_cases hin : i = n
      · subst hin
        obtain ⟨t, h1, h2⟩ := he s hR
        exact ⟨t, by rw [h1], h2⟩
      · obtain ⟨s', h1, h2⟩ := h i s (by omega) hR
        rw [h1]
        exact ih (i + 1) s' (by omega) (by omega) h2
  exact key K 0 s (Nat.zero_le _) (by omega) hs
/-- the document's order of jobs: a policy, their times, their places -/
def ltJ (p : Int) (jobs : List SJob) (a b : Nat) : Prop := match jobs[a]?, jobs[b]? with
  | some x, some y => aheadJ p x y ∨ (¬ aheadJ p y x ∧ a < b)
  | _, _ => False
instance (p : Int) (jobs : List SJob) (a b : Nat) : Decidable (ltJ p jobs a b) := by unfold ltJ; split <;> infer_instance
theorem ltJ_iff {p : Int} {jobs : List SJob} {a b : Nat} {x y : SJob} (hx : jobs[a]? = some x) (hy : jobs[b]? = some y) : ltJ p jobs a b ↔ aheadJ p x y ∨ (¬ aheadJ p y x ∧ a < b) := by simp only [ltJ, hx, hy]
theorem Goes_eq (p : Int) (hp : p = 1 ∨ p = 2) (jobs : List SJob) (a b : Nat) (ha : a < jobs.length) (hb : b < jobs.length) : punctualref_Goes.f jobs (a : Int) (b : Int) p = some (decide (ltJ p jobs a b)) := by
  have h1 : jobs[a]? = some jobs[a] := List.getElem?_eq_getElem ha
  have h2 : jobs[b]? = some jobs[b] := List.getElem?_eq_getElem hb
  have hl := ltJ_iff (p := p) h1 h2
  generalize jobs[a] = x at h1 hl
  generalize jobs[b] = y at h2 hl
  have e : punctualref_Goes.p0 jobs (a : Int) (b : Int) = some (.inl (x.Task, x.At, x.C, x.Due, x.P, y.Task, y.At, y.C, y.Due, y.P)) := by
    simp only [punctualref_Goes.p0, Int.toNat_natCast, h1, h2]
    rw [if_pos (by omega), if_pos (by omega)]
  unfold punctualref_Goes.f
  rw [e, show decide (ltJ p jobs a b) = decide (aheadJ p x y ∨ (¬ aheadJ p y x ∧ a < b)) from decide_eq_decide.2 hl]
  have k1 : ∀ u v : SJob, aheadJ 1 u v ↔ (u.P > v.P ∨ (u.P = v.P ∧ u.At < v.At)) := fun u v => by unfold aheadJ; rw [if_pos rfl]
  have k2 : ∀ u v : SJob, aheadJ 2 u v ↔ (u.Due < v.Due ∨ (u.Due = v.Due ∧ u.At < v.At)) := fun u v => by unfold aheadJ; rw [if_neg (by decide)]
  rcases hp with rfl | rfl
  · simp only [k1, if_pos rfl, show ¬ ((1 : Int) = 2) by decide, if_true, if_false]
    split
    · split
      · congr 1; rw [decide_eq_decide]; omega
      · congr 1; rw [decide_eq_decide]; omega
    · congr 1; rw [decide_eq_decide]; omega
  · simp only [k2, show ¬ ((2 : Int) = 1) by decide, if_true, if_false]
    split
    · split
      · congr 1; rw [decide_eq_decide]; omega
      · congr 1; rw [decide_eq_decide]; omega
    · congr 1; rw [decide_eq_decide]; omega
theorem ltJ_total {p : Int} {jobs : List SJob} {a b : Nat} (ha : a < jobs.length) (hb : b < jobs.length) (h : a ≠ b) : ltJ p jobs a b ∨ ltJ p jobs b a := by
  have h1 : jobs[a]? = some jobs[a] := List.getElem?_eq_getElem ha
  have h2 : jobs[b]? = some jobs[b] := List.getElem?_eq_getElem hb
  rw [ltJ_iff h1 h2, ltJ_iff h2 h1]
  by_cases g1 : aheadJ p jobs[a] jobs[b]
  · exact .inl (.inl g1)
  by_cases g2 : aheadJ p jobs[b] jobs[a]
  · exact .inr (.inl g2)
  by_cases g3 : a < b
  · exact .inl (.inr ⟨g2, g3⟩)
  · exact .inr (.inr ⟨g1, by omega⟩)
theorem ltJ_trans {p : Int} {jobs : List SJob} {a b c : Nat} (ha : a < jobs.length) (hb : b < jobs.length) (hc : c < jobs.length) (h : ltJ p jobs a b) (k : ltJ p jobs b c) : ltJ p jobs a c := by
  have h1 : jobs[a]? = some jobs[a] := List.getElem?_eq_getElem ha
  have h2 : jobs[b]? = some jobs[b] := List.getElem?_eq_getElem hb
  have h3 : jobs[c]? = some jobs[c] := List.getElem?_eq_getElem hc
  rw [ltJ_iff h1 h2] at h
  rw [ltJ_iff h2 h3] at k
  rw [ltJ_iff h1 h3]
  unfold aheadJ at *
  split at h <;> simp_all <;> omega
/-- where the i-th goes in among those that are there -/
theorem Played_r4_eq (p : Int) (hp : p = 1 ∨ p = 2) (jobs : List SJob) (L : List Nat) (i : Nat) (hi : i < jobs.length) (hL : ∀ q ∈ L, q < jobs.length) (hn : L.length ≤ 100000) : ∀ (k K : Nat), k ≤ L.length → k < K → (∀ q b, k ≤ q → L[q]? = some b → ltJ p jobs i b) →
    ∃ k' : Nat, iter (punctualref_Played.r4 jobs p (L.map fun q : Nat => (q : Int)) i) K (k : Int) = some (.inl (k' : Int)) ∧ k' ≤ L.length ∧ (∀ q b, k' ≤ q → L[q]? = some b → ltJ p jobs i b) ∧ (k' = 0 ∨ ∃ b, L[k' - 1]? = some b ∧ ¬ ltJ p jobs i b)
  | 0, K, _, hK, h => by
    obtain ⟨K, rfl⟩ : ∃ k, K = k + 1 := ⟨K - 1, by omega⟩
    refine ⟨0, ?_, Nat.zero_le _, h, .inl rfl⟩
    rw [iter_succ]
    simp [punctualref_Played.r4]
  | k + 1, K, hk, hK, h => by
    obtain ⟨K, rfl⟩ : ∃ k, K = k + 1 := ⟨K - 1, by omega⟩
    have hw : IntKind.i64.wrap (((k + 1 : Nat) : Int) - 1) = (k : Int) := by rw [wrap64_small (by omega) (by omega)]; omega
    have hb : L[k]? = some L[k] := List.getElem?_eq_getElem (by omega)
    have hbl : L[k] < jobs.length := hL _ (List.getElem_mem _)
    generalize L[k] = b at hb hbl
    have hget : (L.map fun q : Nat => (q : Int))[k]? = some (b : Int) := by rw [List.getElem?_map, hb]; rfl
    have e : punctualref_Played.r4 jobs p (L.map fun q : Nat => (q : Int)) i ((k + 1 : Nat) : Int) = if ltJ p jobs i b then some (.inl (k : Int)) else some (.inr (.inl ((k + 1 : Nat) : Int))) := by
      simp only [punctualref_Played.r4, hw, Int.toNat_natCast, hget, Goes_eq p hp jobs i b hi hbl, decide_eq_true_eq]
      rw [if_pos (by omega), if_pos (by omega)]
    rw [iter_succ, e]
    by_cases hl : ltJ p jobs i b
    · rw [if_pos hl]
      simp only
      refine Played_r4_eq p hp jobs L i hi hL hn k K (by omega) (by omega) fun q c hq hc => ?_
      by_cases hqk : q = k
      · subst hqk; rw [hb] at hc; cases hc; exact hl
      · exact h q c (by omega) hc
    · rw [if_neg hl]
      exact ⟨k + 1, rfl, hk, h, .inr ⟨b, by simpa using hb, hl⟩⟩
/-- the map of what is left -/
def Mp (mp : List (Int × Int)) (left : List Int) : Prop := ∀ j : Nat, (mget mp (j : Int)).getD 0 = left.getD j 0
/-- those of the first n that can run, in the document's order, begin with the first -/
structure There (p : Int) (jobs : List SJob) (left : List Int) (t : Int) (n : Nat) (L : List Nat) : Prop where
  lt : ∀ q ∈ L, q < n
  sorted : L.Pairwise (ltJ p jobs)
  head : (L = [] ∧ firstTo p jobs left t n = -1) ∨ ∃ b r, L = b :: r ∧ firstTo p jobs left t n = (b : Int)
  few : L.length ≤ n
theorem pairwise_insert {α : Type} {R : α → α → Prop} {L : List α} {k : Nat} {x : α} (h : L.Pairwise R) (h1 : ∀ y ∈ L.take k, R y x) (h2 : ∀ y ∈ L.drop k, R x y) : (L.take k ++ (x :: L.drop k)).Pairwise R := by
  rw [List.pairwise_append]
  have h0 := h
  rw [← List.take_append_drop k L, List.pairwise_append] at h0
  refine ⟨h0.1, List.pairwise_cons.2 ⟨h2, h0.2.1⟩, fun a ha b hb => ?_⟩
  rcases List.mem_cons.1 hb with rfl | hb
  · exact h1 a ha
  · exact h0.2.2 a ha b hb
theorem Played_r2_eq (p : Int) (hp : p = 1 ∨ p = 2) (jobs : List SJob) (left : List Int) (hl : left.length = jobs.length) (t : Int) (mp : List (Int × Int)) (hm : Mp mp left) (hj : jobs.length ≤ 4000) (K : Nat) (hK : jobs.length + 5 ≤ K) :
    ∃ L, iter (punctualref_Played.r2 K jobs p t mp) K ([], 0) = some (.inl (L.map fun q : Nat => (q : Int))) ∧ There p jobs left t jobs.length L := by
  have key := iter_rel (ρ := (List (List Int)) × (List Int)) (f := punctualref_Played.r2 K jobs p t mp) (fun i s => s.2 = i ∧ ∃ L : List Nat, s.1 = (L.map fun q : Nat => (q : Int)) ∧ There p jobs left t i L) (fun r => ∃ L : List Nat, r = (L.map fun q : Nat => (q : Int)) ∧ There p jobs left t jobs.length L) jobs.length (fun i s hi hR => by
    obtain ⟨m8, i2⟩ := s
    obtain ⟨rfl, L, rfl, hT⟩ := hR
    simp only at hi ⊢
    have hi' : (i2 : Int) < (jobs.length : Int) := by omega
    have hx : jobs[i2]? = some jobs[i2] := List.getElem?_eq_getElem hi
    have hy : left[i2]? = some (left.getD i2 0) := get_of_lt (by omega)
    have hp3 : punctualref_Played.p3 t mp i2 jobs[i2] = some (.inl (decide (canJ jobs left t i2))) := by
      simp only [punctualref_Played.p3, hm i2, canJ, hx, hy]
      by_cases h1 : jobs[i2].At ≤ t
      · simp [h1]
      · simp [h1]
    simp only [punctualref_Played.r2, if_pos hi', hx, hp3, decide_eq_true_eq]
    by_cases hc : canJ jobs left t i2
    · rw [if_pos hc]
      obtain ⟨k, e1, e2, e3, e4⟩ := Played_r4_eq p hp jobs L i2 hi (fun q hq => by have := hT.lt q hq; omega) (by have := hT.few; omega) L.length K (Nat.le_refl _) (by have := hT.few; omega) (fun q b hq hb => by have := lt_of_get hb; omega)
      have hle := hT.few
      simp only [List.length_map, e1, Int.toNat_natCast]
      rw [if_pos (by omega), if_pos e2]
      rw [show (List.take L.length (L.map fun q : Nat => (q : Int))) = L.map fun q : Nat => (q : Int) from List.take_of_length_le (by simp)]
      rw [if_pos (by simp; omega), if_pos (by simp; omega)]
      refine ⟨_, rfl, rfl, L.take k ++ (i2 :: L.drop k), by simp [List.map_take, List.map_drop], ?_⟩
      have hlt : ∀ q ∈ L, q < jobs.length := fun q hq => by have := hT.lt q hq; omega
      have hd : ∀ y ∈ L.drop k, ltJ p jobs i2 y := fun y hy => by
        obtain ⟨q, hq⟩ := List.mem_iff_getElem?.1 hy
        rw [List.getElem?_drop] at hq
        exact e3 (k + q) y (by omega) hq
      have hbefore : ∀ y ∈ L.take k, ltJ p jobs y i2 := fun y hy => by
        rcases e4 with h0 | ⟨b, hb, hnb⟩
        · subst h0; simp at hy
        · have hyL := List.mem_of_mem_take hy
          have hbL : b ∈ L := List.mem_of_getElem? hb
          have hbi : ltJ p jobs b i2 := (ltJ_total (hlt b hbL) hi (by have := hT.lt b hbL; omega)).resolve_right hnb
          obtain ⟨q, hq⟩ := List.mem_iff_getElem?.1 hy
          rw [List.getElem?_take] at hq
          split at hq
          · rename_i hqk
            by_cases hqe : q = k - 1
            · subst hqe; rw [hb] at hq; cases hq; exact hbi
            · have hpw := List.pairwise_iff_getElem.1 hT.sorted q (k - 1) (lt_of_get hq) (lt_of_get hb) (by omega)
              have g1 : L[q]'(lt_of_get hq) = y := by have := List.getElem?_eq_getElem (lt_of_get hq); rw [hq] at this; exact (Option.some.inj this).symm
              have g2 : L[k - 1]'(lt_of_get hb) = b := by have := List.getElem?_eq_getElem (lt_of_get hb); rw [hb] at this; exact (Option.some.inj this).symm
              rw [g1, g2] at hpw
              exact ltJ_trans (hlt y hyL) (hlt b hbL) hi hpw hbi
          · cases hq
      refine ⟨fun q hq => ?_, pairwise_insert hT.sorted hbefore hd, .inr ?_, by simp; omega⟩
      · rcases List.mem_append.1 hq with hq | hq
        · have := hT.lt q (List.mem_of_mem_take hq); omega
        · rcases List.mem_cons.1 hq with rfl | hq
          · omega
          · have := hT.lt q (List.mem_of_mem_drop hq); omega
      · simp only [firstTo, if_pos hc]
        rcases hT.head with ⟨rfl, h0⟩ | ⟨b, r, rfl, h0⟩
        · refine ⟨i2, [], by simp, ?_⟩
          rw [h0, if_pos (by omega)]
        · have hbi : b < i2 := hT.lt b (by simp)
          have hby : jobs[b]? = some jobs[b] := List.getElem?_eq_getElem (by omega)
          rw [h0, if_neg (by omega)]
          simp only [Int.toNat_natCast, hby, hx]
          rcases e4 with h4 | ⟨c, hcc, hnc⟩
          · subst h4
            have hlb : ltJ p jobs i2 b := hd b (by simp)
            rw [ltJ_iff hx hby] at hlb
            refine ⟨i2, b :: r, by simp, ?_⟩
            rw [if_pos (hlb.resolve_right (fun h => by omega))]
          · obtain ⟨k, rfl⟩ : ∃ j, k = j + 1 := ⟨k - 1, by
              rcases Nat.eq_zero_or_pos k with h | h
              · subst h
                simp only [Nat.zero_sub, List.getElem?_cons_zero, Option.some.injEq] at hcc
                subst hcc
                exact absurd (e3 0 b (Nat.le_refl _) rfl) hnc
              · omega⟩
            refine ⟨b, r.take k ++ (i2 :: r.drop k), by simp, ?_⟩
            have hbl : ltJ p jobs b i2 := hbefore b (by simp)
            rw [if_neg]
            intro ha
            rw [ltJ_iff hby hx] at hbl
            rcases hbl with h | h
            · unfold aheadJ at ha h
              by_cases hp1 : p = 1
              · rw [if_pos hp1] at ha h; omega
              · rw [if_neg hp1] at ha h; omega
            · exact h.1 ha
    · rw [if_neg hc]
      refine ⟨_, rfl, rfl, L, rfl, fun q hq => by have := hT.lt q hq; omega, hT.sorted, ?_, by have := hT.few; omega⟩
      simp only [firstTo, if_neg hc]
      exact hT.head) (fun s hR => by
    obtain ⟨m8, i2⟩ := s
    obtain ⟨rfl, L, rfl, hT⟩ := hR
    refine ⟨L.map fun q : Nat => (q : Int), by simp [punctualref_Played.r2], L, rfl, hT⟩) (K := K) (by omega) (s := ([], 0)) ⟨rfl, [], rfl, by simp, List.Pairwise.nil, .inl ⟨rfl, rfl⟩, Nat.le_refl _⟩
  obtain ⟨_, h1, L, rfl, h2⟩ := key
  exact ⟨L, h1, h2⟩
/-- who runs, as a list -/
def rowOf (b : Int) : List Int := if b < 0 then [] else [b]
/-- one tick as the document plays it -/
theorem Played_tick (p : Int) (hp : p = 1 ∨ p = 2) (pre : Bool) (jobs : List SJob) (s : Int × List Int × List Int) (h : SimOk jobs s) (t : Nat) (ht : t ≤ 100000) (rows : List (List Int)) (hr : t < rows.length) (hprev : (t = 0 ∧ s.1 = -1) ∨ (0 < t ∧ rows[t - 1]? = some (rowOf s.1))) (mp : List (Int × Int)) (hm : Mp mp s.2.1) (hj : jobs.length ≤ 4000) (K : Nat) (hK : jobs.length + 5 ≤ K) :
    ∃ L m12 mp', iter (punctualref_Played.r2 K jobs p (t : Int) mp) K ([], 0) = some (.inl L) ∧ punctualref_Played.p5 pre (t : Int) rows mp L = some (.inl m12) ∧ punctualref_Played.p6 1 m12 = some (.inl (rowOf (nowOf p pre jobs (t : Int) s.1 s.2.1))) ∧
      iter (punctualref_Played.r7 (t : Int) (rowOf (nowOf p pre jobs (t : Int) s.1 s.2.1))) K (0, s.2.2, mp) = some (.inl ((tickP p pre jobs (t : Int) s).2.2, mp')) ∧ Mp mp' (tickP p pre jobs (t : Int) s).2.1 := by
  obtain ⟨L, h1, hT⟩ := Played_r2_eq p hp jobs s.2.1 h.left (t : Int) mp hm hj K hK
  have hhead : ∃ m12, punctualref_Played.p5 pre (t : Int) rows mp (L.map fun q : Nat => (q : Int)) = some (.inl m12) ∧ ((m12 = [] ∧ nowOf p pre jobs (t : Int) s.1 s.2.1 = -1) ∨ ∃ (b : Nat) (r : List Int), m12 = (b : Int) :: r ∧ nowOf p pre jobs (t : Int) s.1 s.2.1 = (b : Int)) := by
    have hfirst : pre = true ∨ s.1 < 0 ∨ s.2.1.getD s.1.toNat 0 = 0 → (((L.map fun q : Nat => (q : Int)) = [] ∧ nowOf p pre jobs (t : Int) s.1 s.2.1 = -1) ∨ ∃ (b : Nat) (r : List Int), (L.map fun q : Nat => (q : Int)) = (b : Int) :: r ∧ nowOf p pre jobs (t : Int) s.1 s.2.1 = (b : Int)) := fun hc => by
      unfold nowOf
      rw [if_pos hc]
      rcases hT.head with ⟨rfl, g⟩ | ⟨b, r, rfl, g⟩
      · exact .inl ⟨rfl, g⟩
      · exact .inr ⟨b, r.map fun q : Nat => (q : Int), rfl, g⟩
    unfold punctualref_Played.p5
    by_cases hpre : pre = true
    · rw [if_pos hpre]
      exact ⟨_, rfl, hfirst (.inl hpre)⟩
    rw [if_neg hpre]
    rcases hprev with ⟨rfl, h0⟩ | ⟨hpos, hrow⟩
    · rw [if_neg (by omega)]
      exact ⟨_, rfl, hfirst (.inr (.inl (by omega)))⟩
    · have hw : IntKind.i64.wrap ((t : Int) - 1) = ((t - 1 : Nat) : Int) := by rw [wrap64_small (by omega) (by omega)]; omega
      rw [if_pos (by omega), hw, if_pos (by omega)]
      simp only [Int.toNat_natCast, hrow]
      by_cases hneg : s.1 < 0
      · have : rowOf s.1 = [] := by unfold rowOf; rw [if_pos hneg]
        rw [this, if_neg (by simp)]
        exact ⟨_, rfl, hfirst (.inr (.inl hneg))⟩
      · have : rowOf s.1 = [s.1] := by unfold rowOf; rw [if_neg hneg]
        rw [this, if_pos (by simp)]
        rcases h.now with h3 | ⟨b, h3, h4⟩
        · omega
        simp only [List.getElem?_cons_zero, h3, hm b]
        have hnn := h.nonneg b
        by_cases h5 : s.2.1.getD b 0 > 0
        · rw [if_pos h5]
          refine ⟨_, rfl, .inr ⟨b, [], rfl, ?_⟩⟩
          unfold nowOf
          rw [if_neg]
          rintro (h6 | h6 | h6)
          · exact hpre h6
          · omega
          · simp only [Int.toNat_natCast] at h6; omega
        · rw [if_neg h5]
          refine ⟨_, rfl, ?_⟩
          have := hfirst (.inr (.inr (by rw [h3]; simp only [Int.toNat_natCast]; omega)))
          rw [h3] at this
          exact this
  obtain ⟨m12, h2, h3⟩ := hhead
  have h4 : punctualref_Played.p6 1 m12 = some (.inl (rowOf (nowOf p pre jobs (t : Int) s.1 s.2.1))) := by
    unfold punctualref_Played.p6 rowOf
    rcases h3 with ⟨rfl, g⟩ | ⟨b, r, rfl, g⟩
    · rw [g]; simp
    · rw [g, if_neg (show ¬ ((b : Int) < 0) by omega)]
      cases r with
      | nil => simp
      | cons y r =>
        rw [if_pos (by simp only [List.length_cons]; omega), if_pos (by decide), if_pos (by simp)]
        rfl
  have h5 : ∃ mp', iter (punctualref_Played.r7 (t : Int) (rowOf (nowOf p pre jobs (t : Int) s.1 s.2.1))) K (0, s.2.2, mp) = some (.inl ((tickP p pre jobs (t : Int) s).2.2, mp')) ∧ Mp mp' (tickP p pre jobs (t : Int) s).2.1 := by
    obtain ⟨K, rfl⟩ : ∃ k, K = k + 2 := ⟨K - 2, by omega⟩
    rcases nowOf_cases (p := p) (pre := pre) h (t : Int) with g1 | ⟨b, g1, g2, g3⟩
    · have hrow : rowOf (nowOf p pre jobs (t : Int) s.1 s.2.1) = [] := by rw [g1]; rfl
      have htk : tickP p pre jobs (t : Int) s = (-1, s.2.1, s.2.2) := by unfold tickP; simp only [g1]; rw [if_pos (by omega)]
      rw [hrow, htk, iter_succ]
      exact ⟨mp, by simp [punctualref_Played.r7], hm⟩
    · have hrow : rowOf (nowOf p pre jobs (t : Int) s.1 s.2.1) = [(b : Int)] := by rw [g1]; unfold rowOf; rw [if_neg (by omega)]
      have hbl : b < s.2.1.length := by rw [h.left]; exact g2
      have hbe : b < s.2.2.length := by rw [h.ends]; exact g2
      have hsm := h.small b
      have hw : IntKind.i64.wrap (s.2.1.getD b 0 - 1) = s.2.1.getD b 0 - 1 := wrap64_small (by omega) (by omega)
      have hw1 : IntKind.i64.wrap ((t : Int) + 1) = (t : Int) + 1 := wrap64_small (by omega) (by omega)
      have hw2 : IntKind.i64.wrap ((0 : Int) + 1) = 1 := by decide
      have htk : tickP p pre jobs (t : Int) s = ((b : Int), s.2.1.set b (s.2.1.getD b 0 - 1), if s.2.1.getD b 0 - 1 = 0 then s.2.2.set b ((t : Int) + 1) else s.2.2) := by
        unfold tickP
        simp only [g1, Int.toNat_natCast]
        rw [if_neg (by omega), getD_set _ _ _ _ hbl, if_pos rfl]
      rw [hrow, htk]
      have hmp' : Mp (mset mp (b : Int) (s.2.1.getD b 0 - 1)) (s.2.1.set b (s.2.1.getD b 0 - 1)) := fun j => by
        rw [mget_mset, getD_set _ _ _ _ hbl]
        by_cases hjb : b = j
        · subst hjb; simp
        · rw [if_neg (by omega), if_neg hjb]; exact hm j
      refine ⟨_, ?_, hmp'⟩
      have e1 : punctualref_Played.r7 (t : Int) [(b : Int)] (0, s.2.2, mp) = some (.inl (1, (if s.2.1.getD b 0 - 1 = 0 then s.2.2.set b ((t : Int) + 1) else s.2.2), mset mp (b : Int) (s.2.1.getD b 0 - 1))) := by
        simp only [punctualref_Played.r7, List.length_cons, List.length_nil, Int.toNat_zero, List.getElem?_cons_zero, hm b, hw, hw1, hw2, mget_mset, if_true, Option.getD_some, Int.toNat_natCast, get_of_lt hbe]
        rw [if_pos (by decide), if_pos (by decide), if_pos (show (0 : Int) ≤ (b : Int) by omega)]
        split <;> rfl
      have e2 : ∀ q m, punctualref_Played.r7 (t : Int) [(b : Int)] (1, q, m) = some (.inr (.inl (q, m))) := fun q m => by simp [punctualref_Played.r7]
      rw [iter_succ, e1]
      simp only
      rw [iter_succ, e2]
  obtain ⟨mp', h6, h7⟩ := h5
  exact ⟨_, m12, mp', h1, h2, h4, h6, h7⟩

theorem CheckJobs_eq (l : List SJob) (K : Nat) (hK : 4010 ≤ K) : punctualref_CheckJobs.f K l = some (playFault l) := by
  unfold punctualref_CheckJobs.f playFault
  by_cases hl : (l.length : Int) > 4000
  · rw [if_pos hl, if_pos (by omega)]; rfl
  rw [if_neg hl, if_neg (by omega)]
  have hr := iter_first0 (f := punctualref_CheckJobs.r0 l) (playAt l) l.length (t := ()) (fun i hi => by
    have hi' : (i : Int) < (l.length : Int) := by omega
    simp only [punctualref_CheckJobs.r0, if_pos hi', List.getElem?_eq_getElem hi, playAt]
    generalize l[i] = e
    by_cases h : e.At < 0 ∨ e.At > 60000 ∨ e.C < 1 ∨ e.C > 10000 ∨ e.Due < 0 ∨ e.Due > 80000
    · rw [if_pos h]
      repeat' split
      all_goals first | rfl | omega
    · rw [if_neg h]
      rw [if_neg (by omega), if_neg (by omega), if_neg (by omega), if_neg (by omega), if_neg (by omega), if_neg (by omega)]
      rfl) (by simp [punctualref_CheckJobs.r0]) (K := K) (by omega)
  rw [hr]
  cases firstOf (playAt l) l.length 0 <;> rfl
/-- the map of the costs of the first n, and their ends -/
theorem Played_r0_eq (jobs : List SJob) (hj : jobs.length ≤ 4000) (K : Nat) (hK : jobs.length + 5 ≤ K) : ∃ mp, iter (punctualref_Played.r0 jobs) K (0, List.replicate jobs.length 0, []) = some (.inl (List.replicate jobs.length (-1), mp)) ∧ Mp mp (jobs.map (·.C)) := by
  have key := iter_rel (ρ := (List (List Int)) × (List Int)) (f := punctualref_Played.r0 jobs) (fun i s => s.1 = i ∧ s.2.1.length = jobs.length ∧ (∀ q, q < i → s.2.1[q]? = some (-1)) ∧ ∀ j : Nat, (mget s.2.2 (j : Int)).getD 0 = if j < i then (jobs.map (·.C)).getD j 0 else 0) (fun r => r.1 = List.replicate jobs.length (-1) ∧ Mp r.2 (jobs.map (·.C))) jobs.length (fun i s hi hR => by
    obtain ⟨i1, m1, mp⟩ := s
    obtain ⟨rfl, h1, h2, h3⟩ := hR
    simp only at hi h1 h2 h3 ⊢
    have hi' : (i1 : Int) < (jobs.length : Int) := by omega
    have hx : jobs[i1]? = some jobs[i1] := List.getElem?_eq_getElem hi
    have hy : m1[i1]? = some (m1.getD i1 0) := get_of_lt (by omega)
    simp only [punctualref_Played.r0, if_pos hi', hx, hy]
    refine ⟨_, rfl, rfl, by simp [h1], fun q hq => ?_, fun j => ?_⟩
    · simp only [List.getElem?_set]
      by_cases hqi : i1 = q
      · subst hqi; rw [if_pos rfl, if_pos (by omega)]
      · rw [if_neg hqi]; exact h2 q (by omega)
    · simp only [mget_mset]
      by_cases hji : j = i1
      · subst hji
        rw [if_pos rfl, if_pos (by omega)]
        simp [List.getD, hx]
      · rw [if_neg (by omega), h3 j]
        by_cases hjl : j < i1
        · rw [if_pos hjl, if_pos (by omega)]
        · rw [if_neg hjl, if_neg (by omega)]) (fun s hR => by
    obtain ⟨i1, m1, mp⟩ := s
    obtain ⟨rfl, h1, h2, h3⟩ := hR
    simp only at h1 h2 h3
    refine ⟨(m1, mp), by simp [punctualref_Played.r0], ?_, fun j => ?_⟩
    · apply List.ext_getElem?
      intro q
      by_cases hq : q < jobs.length
      · rw [h2 q hq]; simp [hq]
      · rw [List.getElem?_eq_none (show m1.length ≤ q by omega), List.getElem?_eq_none (by simp; omega)]
    · rw [h3 j]
      by_cases hjl : j < jobs.length
      · rw [if_pos hjl]
      · rw [if_neg hjl]; simp [List.getD, List.getElem?_eq_none (show jobs.length ≤ j by omega)]) (K := K) (by omega) (s := (0, List.replicate jobs.length 0, [])) ⟨rfl, by simp, fun q hq => by omega, fun j => by simp [mget]⟩
  obtain ⟨⟨a, mp⟩, h1, h2, h3⟩ := key
  simp only at h2 h3
  subst h2
  exact ⟨mp, h1, h3⟩
/-- of each row the first -/
def headOr (r : List Int) : Int := r.headD (-1)
theorem One_eq (rows : List (List Int)) (hn : rows.length ≤ 100000) (K : Nat) (hK : rows.length < K) : punctualref_One.f K rows = some (rows.map headOr) := by
  unfold punctualref_One.f
  rw [if_pos (by omega)]
  have key := iter_rel (ρ := List Int) (f := punctualref_One.r0 rows) (fun i s => s.1 = (i : Int) ∧ s.2.length = rows.length ∧ ∀ q, q < i → s.2[q]? = (rows.map headOr)[q]?) (fun r => r = rows.map headOr) rows.length (fun i s hi hR => by
    obtain ⟨z1, m1⟩ := s
    obtain ⟨rfl, h1, h2⟩ := hR
    simp only at hi h1 h2 ⊢
    have hi' : (i : Int) < (rows.length : Int) := by omega
    have hx : rows[i]? = some rows[i] := List.getElem?_eq_getElem hi
    have hy : m1[i]? = some (m1.getD i 0) := get_of_lt (by omega)
    have hw : IntKind.i64.wrap ((i : Int) + 1) = ((i + 1 : Nat) : Int) := by rw [wrap64_small (by omega) (by omega)]; omega
    have hset : ∀ v : Int, v = headOr rows[i] → ∀ q, q < i + 1 → (m1.set i v)[q]? = (rows.map headOr)[q]? := fun v hv q hq => by
      rw [List.getElem?_set]
      by_cases hqi : i = q
      · subst hqi
        rw [if_pos rfl, if_pos (by omega), List.getElem?_map, hx, hv]; rfl
      · rw [if_neg hqi]; exact h2 q (by omega)
    simp only [punctualref_One.r0, if_pos hi', if_pos (show (0 : Int) ≤ (i : Int) by omega), Int.toNat_natCast, hx, hy, hw]
    cases hr : rows[i] with
    | nil =>
      rw [if_neg (by simp)]
      exact ⟨_, rfl, rfl, by simp [h1], hset (-1) (by rw [hr]; rfl)⟩
    | cons x r =>
      rw [if_pos (by simp)]
      simp only [List.getElem?_cons_zero, List.getElem?_set_self (show i < m1.length by omega), List.set_set]
      exact ⟨_, rfl, rfl, by simp [h1], hset x (by rw [hr]; rfl)⟩) (fun s hR => by
    obtain ⟨z1, m1⟩ := s
    obtain ⟨rfl, h1, h2⟩ := hR
    simp only at h1 h2
    refine ⟨m1, by simp [punctualref_One.r0], ?_⟩
    apply List.ext_getElem?
    intro q
    by_cases hq : q < rows.length
    · exact h2 q hq
    · rw [List.getElem?_eq_none (by omega), List.getElem?_eq_none (by simp; omega)]) (K := K) hK (s := (0, List.replicate rows.length 0)) ⟨rfl, by simp, fun q hq => by omega⟩
  obtain ⟨_, h1, rfl⟩ := key
  rw [h1]

def rowsTill (p : Int) (pre : Bool) (jobs : List SJob) (n t : Nat) : List (List Int) := (List.range n).map fun s => if s < t then rowOf (runP p pre jobs s) else []
theorem rowsTill_get (p : Int) (pre : Bool) (jobs : List SJob) {n t s : Nat} (h : s < n) : (rowsTill p pre jobs n t)[s]? = some (if s < t then rowOf (runP p pre jobs s) else []) := by simp [rowsTill, h]
theorem runP_eq (p : Int) (pre : Bool) (jobs : List SJob) (t : Nat) : runP p pre jobs t = nowOf p pre jobs (t : Int) (simP p pre jobs t).1 (simP p pre jobs t).2.1 := by
  show (tickP p pre jobs (t : Int) (simP p pre jobs t)).1 = _
  unfold tickP
  simp only
  split <;> rfl
theorem Played_eq (p : Int) (hp : p = 1 ∨ p = 2) (pre : Bool) (jobs : List SJob) (hj : ∀ e ∈ jobs, Okj e) (hl : jobs.length ≤ 4000) (n : Nat) (hn : n ≤ 20000) (K : Nat) (hK : 20100 ≤ K) : punctualref_Played.f K jobs p pre 1 (n : Int) = some (rowsTill p pre jobs n n, (simP p pre jobs n).2.2) := by
  unfold punctualref_Played.f
  obtain ⟨mp, h1, h2⟩ := Played_r0_eq jobs hl K (by omega)
  rw [if_pos (by omega), h1]
  simp only [Int.toNat_natCast]
  rw [if_pos (by omega), if_pos (by omega)]
  have key := iter_rel (ρ := (List (List Int)) × (List Int)) (f := punctualref_Played.r1 K jobs p pre 1 (n : Int)) (fun t s => s.1 = (t : Int) ∧ s.2.1 = (simP p pre jobs t).2.2 ∧ s.2.2.1 = rowsTill p pre jobs n t ∧ Mp s.2.2.2 (simP p pre jobs t).2.1) (fun r => r = ((simP p pre jobs n).2.2, rowsTill p pre jobs n n)) n (fun t s ht hR => by
    obtain ⟨z1, m4, m5, mp⟩ := s
    obtain ⟨rfl, rfl, rfl, hm⟩ := hR
    simp only at hm ⊢
    have hok := simP_ok p pre hj t
    have hlen : (rowsTill p pre jobs n t).length = n := by simp [rowsTill]
    obtain ⟨L, m12, mp', e1, e2, e3, e4, e5⟩ := Played_tick p hp pre jobs (simP p pre jobs t) hok t (by omega) (rowsTill p pre jobs n t) (by omega) (by
      rcases Nat.eq_zero_or_pos t with h | h
      · subst h; exact .inl ⟨rfl, rfl⟩
      · refine .inr ⟨h, ?_⟩
        rw [rowsTill_get p pre jobs (by omega), if_pos (by omega)]
        unfold runP
        rw [show t - 1 + 1 = t by omega]) mp hm hl K (by omega)
    have hw : IntKind.i64.wrap ((t : Int) + 1) = ((t + 1 : Nat) : Int) := by rw [wrap64_small (by omega) (by omega)]; omega
    simp only [punctualref_Played.r1, punctualref_Always.f, if_true, if_pos (show (t : Int) < (n : Int) by omega), e1, e2, e3, e4, if_pos (show (0 : Int) ≤ (t : Int) by omega), Int.toNat_natCast, rowsTill_get p pre jobs ht, hw]
    refine ⟨_, rfl, rfl, rfl, ?_, e5⟩
    apply List.ext_getElem?
    intro q
    simp only [List.getElem?_set, hlen]
    by_cases hq : t = q
    · subst hq
      rw [if_pos rfl, if_pos ht, rowsTill_get p pre jobs ht, if_pos (by omega), runP_eq]
    · rw [if_neg hq]
      by_cases hqn : q < n
      · rw [rowsTill_get p pre jobs hqn, rowsTill_get p pre jobs hqn]
        by_cases hqt : q < t
        · rw [if_pos hqt, if_pos (by omega)]
        · rw [if_neg hqt, if_neg (by omega)]
      · rw [List.getElem?_eq_none (by omega), List.getElem?_eq_none (by simp [rowsTill]; omega)]) (fun s hR => by
    obtain ⟨z1, m4, m5, mp⟩ := s
    obtain ⟨rfl, rfl, rfl, hm⟩ := hR
    exact ⟨_, by simp [punctualref_Played.r1], rfl⟩) (K := K) (by omega) (s := (0, List.replicate jobs.length (-1), List.replicate n [], mp)) ⟨rfl, rfl, by
      apply List.ext_getElem?
      intro q
      by_cases hq : q < n
      · rw [rowsTill_get p pre jobs hq]; simp [hq]
      · rw [List.getElem?_eq_none (by simp; omega), List.getElem?_eq_none (by simp [rowsTill]; omega)], h2⟩
  obtain ⟨_, h3, rfl⟩ := key
  rw [h3]
theorem rowsTill_heads (p : Int) (pre : Bool) {jobs : List SJob} (hj : ∀ e ∈ jobs, Okj e) (n : Nat) : (rowsTill p pre jobs n n).map headOr = runsTill p pre jobs n n := by
  unfold rowsTill runsTill
  rw [List.map_map]
  apply List.map_congr_left
  intro s hs
  have hs' : s < n := by simpa using hs
  simp only [Function.comp_apply, if_pos hs']
  rw [runP_eq]
  rcases nowOf_cases (p := p) (pre := pre) (simP_ok p pre hj s) (s : Int) with h1 | ⟨b, h1, _⟩
  · rw [h1]; rfl
  · rw [h1]
    unfold rowOf
    rw [if_neg (by omega)]
    rfl
theorem PlayJobs_eq (jobs : List SJob) (p : Int) (pre : Bool) (n : Int) (K : Nat) (hK : 20100 ≤ K) : punctualref_PlayJobs.f K jobs p pre n = some (playOf jobs p pre n) := by
  unfold punctualref_PlayJobs.f playOf
  rw [CheckJobs_eq jobs K (by omega)]
  simp only
  by_cases hc : (playFault jobs).Code = 0
  · rw [if_pos hc, if_pos hc]
    obtain ⟨hl, _, hj⟩ := playFault_ok hc
    have main : ∀ q : Int, (q = 1 ∨ q = 2) → (if n < 0 then some ((⟨([] : List Int), ([] : List Int)⟩ : SPlayed), (punctualref_F.f 3 0)) else if n > 20000 then some ((⟨([] : List Int), ([] : List Int)⟩ : SPlayed), (punctualref_F.f 3 0)) else
        match punctualref_Played.f K jobs q pre 1 n with
        | none => none
        | some r4 => match punctualref_One.f K r4.1 with
          | none => none
          | some r5 => some ((⟨r5, r4.2⟩ : SPlayed), (⟨0, 0⟩ : SFault))) = some (if n < 0 ∨ n > 20000 then (⟨[], []⟩, ⟨3, 0⟩) else (⟨runsTill q pre jobs n.toNat n.toNat, (simP q pre jobs n.toNat).2.2⟩, ⟨0, 0⟩)) := fun q hq => by
      by_cases h1 : n < 0
      · rw [if_pos h1, if_pos (.inl h1)]; rfl
      by_cases h2 : n > 20000
      · rw [if_neg h1, if_pos h2, if_pos (.inr h2)]; rfl
      rw [if_neg h1, if_neg h2, if_neg (by omega)]
      obtain ⟨m, rfl⟩ := Int.eq_ofNat_of_zero_le (show 0 ≤ n by omega)
      simp only [Played_eq q hq pre jobs hj hl m (by omega) K hK, One_eq (rowsTill q pre jobs m m) (by simp [rowsTill]; omega) K (by simp [rowsTill]; omega), rowsTill_heads q pre hj m, Int.toNat_natCast]
    by_cases h1 : p = 1
    · subst h1
      rw [if_pos rfl, if_pos (show (1 : Int) = 1 ∨ (1 : Int) = 2 from .inl rfl)]
      exact main 1 (.inl rfl)
    rw [if_neg h1]
    by_cases h2 : p = 2
    · subst h2
      rw [if_pos rfl, if_pos (show (2 : Int) = 1 ∨ (2 : Int) = 2 from .inr rfl)]
      exact main 2 (.inr rfl)
    rw [if_neg h2, if_neg (by omega)]
    rfl
  · rw [if_neg hc, if_neg hc]
    rfl
theorem playOf_len (jobs : List SJob) (p : Int) (pre : Bool) (n : Int) : (playOf jobs p pre n).1.Runs.length ≤ 20000 ∧ (playOf jobs p pre n).1.Ends.length ≤ 4000 := by
  unfold playOf
  split
  · rename_i hc
    obtain ⟨hl, _, hj⟩ := playFault_ok hc
    split
    · split
      · simp
      · refine ⟨by simp [runsTill]; omega, ?_⟩
        rw [show (⟨runsTill p pre jobs n.toNat n.toNat, (simP p pre jobs n.toNat).2.2⟩ : SPlayed).Ends = (simP p pre jobs n.toNat).2.2 from rfl, (simP_ok p pre hj n.toNat).ends]
        exact hl
    · simp
  · simp
theorem SchedPlays_law (l0 : List SJob) (x1 : Int) (x2 : Bool) (x3 : Int) (ok0 : ∀ y ∈ l0, Ok.ok y) (ok1 : In64 x1) (ok3 : In64 x3) : ∃ K, SchedPlays.f K l0 x1 x2 x3 = some true := by
  refine ⟨30000, ?_⟩
  unfold SchedPlays.f
  rw [runs_true 30000 (by omega)]
  simp only [if_true]
  by_cases hf : few.f (l0.length : Int) = true ∧ small.f (l0.length : Int) x3 = true
  · obtain ⟨f0, f1⟩ := hf
    have hp0 : SchedPlays.p0 l0 x3 = some (.inl ()) := by unfold SchedPlays.p0; rw [if_pos f0, if_pos f1]
    have g0 := few_true f0
    obtain ⟨r0, e0⟩ := punctualsame_Lend_api_Job_some l0 ⟨(-9), 0, 0, 0, 0⟩ g0
    obtain ⟨q1, q2⟩ := playOf_len l0 x1 x2 x3
    have hr := iter_first0 (f := SchedPlays.r1 30000 l0 x1 x2 x3 (playOf l0 x1 x2 x3)) (fun _ => none) 2 (t := ()) (fun i hi => by
      have hi' : (i : Int) < 2 := by omega
      simp only [SchedPlays.r1, if_pos hi', Play_eq l0 x1 x2 x3 30000 (by omega), SFault.eqb_self, if_true, punctualsame_Played.f, punctualsame_Same_int_self _ 30000 (show (playOf l0 x1 x2 x3).1.Runs.length < 30000 by omega), punctualsame_Same_int_self _ 30000 (show (playOf l0 x1 x2 x3).1.Ends.length < 30000 by omega), punctualsame_Still_api_Job_true l0 _ 30000 g0 (by omega), onward]) (by simp [SchedPlays.r1]) (K := 30000) (by omega)
    rw [firstOf_none_of (fun _ _ _ => rfl)] at hr
    simp only [hp0, PlayJobs_eq l0 x1 x2 x3 30000 (by omega), e0, schedCheck_eq l0 30000 (by omega), CheckJobs_eq l0 30000 (by omega), SFault.eqb_self, if_true, hr, leave]
  · have hp0 : SchedPlays.p0 l0 x3 = some (.inr true) := by
      unfold SchedPlays.p0
      repeat' split
      all_goals first | rfl | (exfalso; exact hf ⟨by assumption, by assumption⟩)
    simp only [hp0]

end Go.Proofs.YtlipdmblinjjaaaDoor.GV
