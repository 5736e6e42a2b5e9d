/- Plain words: GvLEdfJudges. -/
import Derived.Test.YtlipdmblinjjaaaDoorGWEdfJudges2
import Derived.Test.YtlipdmblinjjaaaDoorGv17
namespace Go.Proofs.YtlipdmblinjjaaaDoor.GV
open Go Go.RowKit
set_option linter.unusedVariables false
set_option linter.unusedSimpArgs false
theorem SFault.eqb_self (x : SFault) : SFault.eqb x x = true := by simp [SFault.eqb]
theorem SJob.eqb_self (x : SJob) : SJob.eqb x x = true := by simp [SJob.eqb]
theorem punctualsame_Lend_api_Job_some (l : List SJob) (a : SJob) (h : l.length ≤ 5000) : ∃ r, punctualsame_Lend_api_Job.f l a = some r := by
  have hw : IntKind.i64.wrap ((l.length : Int) + 3) = (l.length : Int) + 3 := wrap64_small (by omega) (by omega)
  unfold punctualsame_Lend_api_Job.f
  rw [hw, if_pos (by omega), if_pos (by omega), if_pos (by simp; omega), if_pos (by simp; omega)]
  exact ⟨_, rfl⟩
theorem punctualsame_Still_api_Job_true (l : List SJob) (a : SJob) (K : Nat) (hl : l.length ≤ 5000) (hK : 5010 ≤ K) : punctualsame_Still_api_Job.f K (l ++ [a, a, a]) l a = some true := by
  have hw : IntKind.i64.wrap ((l.length : Int) + 3) = (l.length : Int) + 3 := wrap64_small (by omega) (by omega)
  have hr := iter_first0 (f := punctualsame_Still_api_Job.r0 (l ++ [a, a, a]) l a) (fun _ => none) (l.length + 3) (t := ()) (fun i hi => by
    have h' : (i : Int) < ((l ++ [a, a, a] : List SJob).length : Int) := by simp; omega
    simp only [punctualsame_Still_api_Job.r0, if_pos h']
    by_cases h2 : i < l.length
    · have h2' : (i : Int) < (l.length : Int) := by omega
      have h3 : ¬ (i : Int) ≥ (l.length : Int) := by omega
      rw [List.getElem?_append_left h2, List.getElem?_eq_getElem h2]
      simp only [if_pos h2', SJob.eqb_self, if_true, if_neg h3, onward]
    · have h2' : ¬ (i : Int) < (l.length : Int) := by omega
      have h3 : (i : Int) ≥ (l.length : Int) := by omega
      rw [List.getElem?_append_right (by omega)]
      have : i - l.length = 0 ∨ i - l.length = 1 ∨ i - l.length = 2 := by omega
      rcases this with e | e | e <;> simp [e, h2', h3, onward, SJob.eqb_self]) (by
    have h' : ¬ ((l.length + 3 : Nat) : Int) < ((l ++ [a, a, a] : List SJob).length : Int) := by simp
    simp only [punctualsame_Still_api_Job.r0, if_neg h']) (K := K) (by omega)
  rw [firstOf_none_of (fun _ _ _ => rfl)] at hr
  have hlen : IntKind.i64.wrap ((l.length : Int) + 3) = ((l ++ [a, a, a] : List SJob).length : Int) := by rw [hw]; simp
  simp only [punctualsame_Still_api_Job.f, if_pos hlen, hr, leave]
theorem few_true {n : Nat} (h : few.f (n : Int) = true) : n ≤ 5000 := by
  simp only [few.f, decide_eq_true_eq] at h; omega
theorem few_false {n : Nat} (h : ¬ few.f (n : Int) = true) : 5000 < n := by
  simp only [few.f, decide_eq_true_eq] at h; omega
theorem exists_bound {α : Type} (f : α → Nat) : ∀ l : List α, ∃ B, ∀ x ∈ l, f x ≤ B
  | [] => ⟨0, by simp⟩
  | x :: l => by
    obtain ⟨B, h⟩ := exists_bound f l
    refine ⟨max (f x) B, fun y hy => ?_⟩
    rcases List.mem_cons.1 hy with rfl | hy
    · exact Nat.le_max_left _ _
    · exact Nat.le_trans (h y hy) (Nat.le_max_right _ _)
/-- a letter stands there -/
def letterAt (x : ByteArray) (i : Nat) : Bool := match x[i]? with | some b => decide (97 ≤ b.toNat) && decide (b.toNat ≤ 122) | none => false
def allL (x : ByteArray) (n : Nat) : Bool := (List.range n).all (letterAt x)
theorem allL_succ (x : ByteArray) (n : Nat) : allL x (n + 1) = (allL x n && letterAt x n) := by simp [allL, List.range_succ]
theorem allL_iff {x : ByteArray} {n : Nat} : allL x n = true ↔ ∀ i, i < n → letterAt x i = true := by simp [allL]
def Good (x : ByteArray) : Prop := 1 ≤ x.size ∧ x.size ≤ 10 ∧ allL x x.size = true
instance (x : ByteArray) : Decidable (Good x) := by unfold Good; infer_instance
theorem get!_of {x : ByteArray} {i : Nat} {b : UInt8} (h : x[i]? = some b) : x.get! i = b := by
  have hi : i < x.size := by
    rcases Nat.lt_or_ge i x.size with h' | h'
    · exact h'
    · rw [getElem?_neg x i (by omega)] at h; cases h
  rw [getElem?_pos x i hi] at h
  have := Option.some.inj h
  rw [← this]
  cases x with
  | mk bs => exact getElem!_pos bs i hi
theorem byte_some {x : ByteArray} {i : Nat} (h : i < x.size) : ∃ b, x[i]? = some b := ⟨x[i], getElem?_pos x i h⟩
theorem decode_letter {x : ByteArray} {i : Nat} (hi : i < x.size) (h : letterAt x i = true) : ∃ n : Nat, Utf8.decode x i = (n, 1) ∧ 97 ≤ n ∧ n ≤ 122 := by
  obtain ⟨b, hb⟩ := byte_some hi
  simp only [letterAt, hb, Bool.and_eq_true, decide_eq_true_eq] at h
  refine ⟨b.toNat, ?_, h⟩
  have := get!_of hb
  simp only [Utf8.decode, Nat.add_zero, this]
  rw [if_pos (by omega)]
theorem decode_other {x : ByteArray} {i : Nat} (hi : i < x.size) (h : letterAt x i = false) : (Utf8.decode x i).1 < 97 ∨ 122 < (Utf8.decode x i).1 := by
  obtain ⟨b, hb⟩ := byte_some hi
  simp only [letterAt, hb, Bool.and_eq_false_iff, decide_eq_false_iff_not] at h
  have := get!_of hb
  simp only [Utf8.decode, Nat.add_zero, this]
  have he : Utf8.runeError = 65533 := rfl
  repeat' split
  all_goals simp only [he, Bool.and_eq_true, decide_eq_true_eq, ge_iff_le] at *
  all_goals omega
theorem takedrop {α : Type} (l : List α) (i : Nat) : (l.take i).drop 0 = l.take i := by simp
theorem iter_succ {σ ρ : Type} (f : σ → Option (σ ⊕ ρ)) (K : Nat) (s : σ) : iter f (K + 1) s = match f s with | none => none | some (.inl s') => iter f K s' | some (.inr r) => some r := rfl
theorem getD_leave {ρ : Type} (o : Option ρ) (d : ρ) : (match leave (τ := Unit) () o with | .inl _ => d | .inr r => r) = o.getD d := by cases o <;> rfl
/-- a over b, rounded up -/
def ceilD (a b : Int) : Int := (a + b - 1) / b
theorem ceilD_mono {a a' b : Int} (hb : 1 ≤ b) (h : a ≤ a') : ceilD a b ≤ ceilD a' b := Int.ediv_le_ediv (by omega) (by omega)
theorem ceilD_nonneg {a b : Int} (hb : 1 ≤ b) (h : 0 ≤ a) : 0 ≤ ceilD a b := Int.ediv_nonneg (by omega) (by omega)
theorem ceilD_le {a b : Int} (hb : 1 ≤ b) (h : 0 ≤ a) : ceilD a b ≤ a := by
  unfold ceilD
  rw [← Int.lt_add_one_iff]
  apply Int.ediv_lt_of_lt_mul (by omega)
  have : a * 1 ≤ a * b := Int.mul_le_mul_of_nonneg_left hb h
  rw [Int.add_mul]
  omega
/-- the least n, 1 at least, in which all is done that is wanted; 0: there is none up to most -/
def settled (f : Int → Int) (most : Int) : Int := match firstOf (fun n : Nat => if f n ≤ n then some (n : Int) else none) (most.toNat + 1) 1 with
  | some n => n
  | none => 0
theorem settled_some {f : Int → Int} {most : Int} {j : Nat} (h : firstOf (fun n : Nat => if f n ≤ n then some (n : Int) else none) (most.toNat + 1) 1 = some (j : Int)) : settled f most = j := by unfold settled; rw [h]
theorem settled_none {f : Int → Int} {most : Int} (h : firstOf (fun n : Nat => if f n ≤ n then some (n : Int) else none) (most.toNat + 1) 1 = none) : settled f most = 0 := by unfold settled; rw [h]
theorem settled_pos {f : Int → Int} {most : Int} (h : settled f most ≠ 0) : 1 ≤ settled f most ∧ settled f most ≤ most ∧ f (settled f most) ≤ settled f most ∧ ∀ n : Int, 1 ≤ n → n < settled f most → n < f n := by
  cases hf : firstOf (fun n : Nat => if f n ≤ n then some (n : Int) else none) (most.toNat + 1) 1 with
  | none => exact absurd (settled_none hf) h
  | some r =>
    obtain ⟨j, h1, h2, h3, h4⟩ := firstOf_some hf
    split at h3
    · cases h3
      rw [settled_some hf]
      refine ⟨by omega, by omega, by assumption, fun n hn1 hn2 => ?_⟩
      have := h4 n.toNat (by omega) (by omega)
      have e : ((n.toNat : Nat) : Int) = n := Int.toNat_of_nonneg (by omega)
      simp only [e] at this
      split at this
      · cases this
      · omega
    · cases h3
theorem settled_zero {f : Int → Int} {most : Int} (h : settled f most = 0) : ∀ n : Int, 1 ≤ n → n ≤ most → n < f n := by
  cases hf : firstOf (fun n : Nat => if f n ≤ n then some (n : Int) else none) (most.toNat + 1) 1 with
  | some r =>
    obtain ⟨j, h1, h2, h3, h4⟩ := firstOf_some hf
    split at h3
    · cases h3; rw [settled_some hf] at h; omega
    · cases h3
  | none =>
    intro n h1 h2
    have := firstOf_none hf n.toNat (by omega) (by omega)
    have e : ((n.toNat : Nat) : Int) = n := Int.toNat_of_nonneg (by omega)
    simp only [e] at this
    split at this
    · cases this
    · omega
theorem settled_eq {f : Int → Int} {most w : Int} (h1 : 1 ≤ w) (h2 : w ≤ most) (h3 : f w ≤ w) (h4 : ∀ n : Int, 1 ≤ n → n < w → n < f n) : settled f most = w := by
  by_cases h : settled f most = 0
  · have := settled_zero h w h1 h2; omega
  · obtain ⟨g1, g2, g3, g4⟩ := settled_pos h
    rcases Int.lt_trichotomy (settled f most) w with hl | hl | hl
    · have := h4 _ g1 hl; omega
    · exact hl
    · have := g4 _ h1 hl; omega
theorem settled_eq_zero {f : Int → Int} {most : Int} (h : ∀ n : Int, 1 ≤ n → n ≤ most → n < f n) : settled f most = 0 := by
  apply Decidable.byContradiction
  intro hne
  obtain ⟨g1, g2, g3, g4⟩ := settled_pos hne
  have := h _ g1 g2
  omega
theorem gmax_eq (x y : Int) : gmax x y = max x y := by unfold gmax; omega
theorem gmin_eq (x y : Int) : gmin x y = min x y := by unfold gmin; omega

/-- what is wrong with the i-th job that is played -/
def playAt (l : List SJob) (i : Nat) : Option SFault := match l[i]? with
  | some e => if e.At < 0 ∨ e.At > 60000 ∨ e.C < 1 ∨ e.C > 10000 ∨ e.Due < 0 ∨ e.Due > 80000 then some ⟨3, (i : Int)⟩ else none
  | none => none
def playFault (l : List SJob) : SFault := if l.length > 4000 then ⟨2, 0⟩ else (firstOf (playAt l) l.length 0).getD ⟨0, 0⟩
theorem schedCheck_eq (l : List SJob) (K : Nat) (hK : 4010 ≤ K) : sched_Check.f K l = some (playFault l) := by
  unfold sched_Check.f playFault
  by_cases hl : (l.length : Int) > 4000
  · rw [if_pos hl, if_pos (by omega)]
  rw [if_neg hl, if_neg (by omega)]
  have hr := iter_first0 (f := sched_Check.r0 l) (playAt l) l.length (t := ()) (fun i hi => by
    have hi' : (i : Int) < (l.length : Int) := by omega
    simp only [sched_Check.r0, if_pos hi', List.getElem?_eq_getElem hi, playAt]
    generalize l[i] = e
    by_cases h : e.At < 0 ∨ e.At > 60000 ∨ e.C < 1 ∨ e.C > 10000 ∨ e.Due < 0 ∨ e.Due > 80000
    · rw [if_pos h]
      repeat' split
      all_goals first | rfl | omega
    · rw [if_neg h]
      rw [if_neg (by omega), if_neg (by omega), if_neg (by omega), if_neg (by omega), if_neg (by omega), if_neg (by omega)]
      rfl) (by simp [sched_Check.r0]) (K := K) (by omega)
  rw [hr]
  cases firstOf (playAt l) l.length 0 <;> rfl
structure Okj (e : SJob) : Prop where
  At : 0 ≤ e.At ∧ e.At ≤ 60000
  C : 1 ≤ e.C ∧ e.C ≤ 10000
  Due : 0 ≤ e.Due ∧ e.Due ≤ 80000
theorem playFault_ok {l : List SJob} (h : (playFault l).Code = 0) : l.length ≤ 4000 ∧ playFault l = ⟨0, 0⟩ ∧ ∀ e ∈ l, Okj e := by
  unfold playFault at h ⊢
  split at h
  · cases h
  rename_i hl
  cases hf : firstOf (playAt l) l.length 0 with
  | none =>
    refine ⟨by omega, by rw [if_neg hl]; rfl, fun e he => ?_⟩
    obtain ⟨i, hi⟩ := List.mem_iff_getElem?.1 he
    have := firstOf_none hf i (Nat.zero_le _) (lt_of_get hi)
    simp only [playAt, hi] at this
    split at this
    · cases this
    · exact ⟨by omega, by omega, by omega⟩
  | some r =>
    rw [hf] at h
    obtain ⟨j, _, hj, hg, _⟩ := firstOf_some hf
    exfalso
    simp only [playAt, List.getElem?_eq_getElem hj] at hg
    split at hg
    · cases hg; cases h
    · cases hg
theorem playFault_of {l : List SJob} (hl : l.length ≤ 4000) (h : ∀ e ∈ l, Okj e) : playFault l = ⟨0, 0⟩ := by
  unfold playFault
  rw [if_neg (by omega), firstOf_none_of]
  · rfl
  · intro j _ hj
    have he := h l[j] (List.getElem_mem hj)
    have := he.At; have := he.C; have := he.Due
    simp only [playAt, List.getElem?_eq_getElem hj]
    rw [if_neg (by omega)]
/-- job a goes ahead of job b, by a policy, then by their times -/
def aheadJ (p : Int) (a b : SJob) : Prop := if p = 1 then a.P > b.P ∨ (a.P = b.P ∧ a.At < b.At) else a.Due < b.Due ∨ (a.Due = b.Due ∧ a.At < b.At)
instance (p : Int) (a b : SJob) : Decidable (aheadJ p a b) := by unfold aheadJ; infer_instance
theorem compare_eq (x y : Int) : cmp_Compare_int.f x y = if x < y then -1 else if x > y then 1 else 0 := by simp [cmp_Compare_int.f, cmp_isNaN_int.f]
theorem or2_eq (x y : Int) (K : Nat) (hK : 3 ≤ K) : cmp_Or_int.f K [x, y] = some (if x = 0 then y else x) := by
  obtain ⟨K, rfl⟩ : ∃ k, K = k + 3 := ⟨K - 3, by omega⟩
  simp only [cmp_Or_int.f, iter, cmp_Or_int.r0]
  by_cases hx : x = 0 <;> by_cases hy : y = 0 <;> simp [hx, hy]
/-- can it run at t? -/
def canJ (jobs : List SJob) (left : List Int) (t : Int) (i : Nat) : Prop := match jobs[i]?, left[i]? with
  | some j, some x => j.At ≤ t ∧ 0 < x
  | _, _ => False
instance (jobs : List SJob) (left : List Int) (t : Int) (i : Nat) : Decidable (canJ jobs left t i) := by unfold canJ; split <;> infer_instance
/-- the first of the first n -/
def firstTo (p : Int) (jobs : List SJob) (left : List Int) (t : Int) : Nat → Int
  | 0 => -1
  | n + 1 =>
    let b := firstTo p jobs left t n
    if canJ jobs left t n then
      (if b < 0 then (n : Int) else match jobs[n]?, jobs[b.toNat]? with
        | some x, some y => if aheadJ p x y then (n : Int) else b
        | _, _ => b)
    else b
theorem firstTo_cases (p : Int) (jobs : List SJob) (left : List Int) (t : Int) : ∀ n, n ≤ jobs.length → (firstTo p jobs left t n = -1 ∧ ∀ i, i < n → ¬ canJ jobs left t i) ∨
    (∃ (b : Nat) (y : SJob), firstTo p jobs left t n = (b : Int) ∧ b < n ∧ jobs[b]? = some y ∧ canJ jobs left t b ∧ ∀ i x, i < n → jobs[i]? = some x → canJ jobs left t i → ¬ aheadJ p x y ∧ (i < b → aheadJ p y x))
  | 0, _ => .inl ⟨rfl, fun i h => by omega⟩
  | n + 1, hn => by
    have hnx : jobs[n]? = some jobs[n] := List.getElem?_eq_getElem (by omega)
    generalize jobs[n] = x at hnx
    have irr : ∀ x : SJob, ¬ aheadJ p x x := fun x h => by unfold aheadJ at h; split at h <;> omega
    have tr : ∀ x y z : SJob, aheadJ p x y → ¬ aheadJ p z y → ¬ aheadJ p z x := fun x y z h k hh => by
      unfold aheadJ at h k hh; split at h <;> simp_all <;> omega
    have tr2 : ∀ x y z : SJob, aheadJ p x y → aheadJ p y z → aheadJ p x z := fun x y z h k => by
      unfold aheadJ at h k ⊢; split at h <;> simp_all <;> omega
    have tr3 : ∀ x y z : SJob, aheadJ p x y → ¬ aheadJ p z y → aheadJ p x z := fun x y z h k => by
      unfold aheadJ at h k ⊢; split at h <;> simp_all <;> omega
    rcases firstTo_cases p jobs left t n (by omega) with ⟨h1, h2⟩ | ⟨b, y, h1, h2, h3, h4, h5⟩
    · by_cases hc : canJ jobs left t n
      · right
        refine ⟨n, x, by simp only [firstTo, if_pos hc, h1]; rfl, by omega, hnx, hc, fun i z hi hz hcz => ?_⟩
        by_cases hin : i = n
        · subst hin; rw [hnx] at hz; cases hz; exact ⟨irr _, fun h => by omega⟩
        · exact absurd hcz (h2 i (by omega))
      · left
        refine ⟨by simp only [firstTo, if_neg hc, h1], fun i hi => ?_⟩
        by_cases hin : i = n
        · subst hin; exact hc
        · exact h2 i (by omega)
    · right
      by_cases hc : canJ jobs left t n
      · by_cases ha : aheadJ p x y
        · refine ⟨n, x, by simp only [firstTo, if_pos hc, h1, Int.toNat_natCast, hnx, h3, if_pos ha]; rw [if_neg (by omega)], by omega, hnx, hc, fun i z hi hz hcz => ?_⟩
          by_cases hin : i = n
          · subst hin; rw [hnx] at hz; cases hz; exact ⟨irr _, fun h => by omega⟩
          · obtain ⟨g1, g2⟩ := h5 i z (by omega) hz hcz
            exact ⟨tr x y z ha g1, fun _ => tr3 x y z ha g1⟩
        · refine ⟨b, y, by simp only [firstTo, if_pos hc, h1, Int.toNat_natCast, hnx, h3, if_neg ha]; rw [if_neg (by omega)], by omega, h3, h4, fun i z hi hz hcz => ?_⟩
          by_cases hin : i = n
          · subst hin; rw [hnx] at hz; cases hz; exact ⟨ha, fun h => by omega⟩
          · exact h5 i z (by omega) hz hcz
      · refine ⟨b, y, by simp only [firstTo, if_neg hc, h1], by omega, h3, h4, fun i z hi hz hcz => ?_⟩
        by_cases hin : i = n
        · subst hin; exact absurd hcz hc
        · exact h5 i z (by omega) hz hcz
theorem getD_of {l : List Int} {i : Nat} {x : Int} (h : l[i]? = some x) : l.getD i 0 = x := by simp [List.getD, h]
theorem get_of_lt {l : List Int} {i : Nat} (h : i < l.length) : l[i]? = some (l.getD i 0) := by simp [List.getD, h]
theorem getD_set (l : List Int) (i j : Nat) (x : Int) (hi : i < l.length) : (l.set i x).getD j 0 = if i = j then x else l.getD j 0 := by
  simp only [List.getD, List.getElem?_set]
  by_cases h : i = j
  · subst h; simp [hi]
  · simp [h]
def atN (jobs : List SJob) (j : Nat) : Nat := match jobs[j]? with | some e => e.At.toNat | none => 0
def costOf (jobs : List SJob) (j : Nat) : Int := (jobs.map (·.C)).getD j 0
theorem costOf_some {jobs : List SJob} {j : Nat} {e : SJob} (h : jobs[j]? = some e) : costOf jobs j = e.C := by simp [costOf, List.getD, h]
theorem atN_some {jobs : List SJob} {j : Nat} {e : SJob} (h : jobs[j]? = some e) : atN jobs j = e.At.toNat := by simp [atN, h]

theorem mget_mset {κ ν : Type} [DecidableEq κ] (k k' : κ) (v : ν) : ∀ m : List (κ × ν), mget (mset m k v) k' = if k' = k then some v else mget m k'
  | [] => by simp only [mset, mget]
  | (a, b) :: r => by
    simp only [mset]
    by_cases hk : k = a
    · subst hk
      rw [if_pos rfl]
      simp only [mget]
      by_cases h' : k' = k
      · rw [if_pos h', if_pos h']
      · rw [if_neg h', if_neg h', if_neg h']
    · rw [if_neg hk]
      simp only [mget]
      by_cases h' : k' = a
      · subst h'
        rw [if_pos rfl, if_neg (fun h => hk h.symm), if_pos rfl]
      · rw [if_neg h', if_neg h', mget_mset k k' v r]

/-- rounds that keep a relation -/
theorem iter_rel {σ τ ρ : Type} {f : σ → Option (σ ⊕ (τ ⊕ ρ))} (R : Nat → σ → Prop) (T : τ → Prop) (n : Nat) (h : ∀ i s, i < n → R i s → ∃ s', f s = some (.inl s') ∧ R (i + 1) s') (he : ∀ s, R n s → ∃ t, f s = some (.inr (.inl t)) ∧ T t) {K : Nat} (hK : n < K) {s : σ} (hs : R 0 s) : ∃ t, iter f K s = some (.inl t) ∧ T t := by
  have key : ∀ (K i : Nat) (s : σ), i ≤ n → n - i < K → R i s → ∃ t, iter f K s = some (.inl t) ∧ T t := by
    intro K
    induction K with
    | zero => intro i _ _ hK; omega
    | succ K ih =>
      intro i s hi hK hR
      rw [iter_succ]
      by_cases hin : i = n
      · subst hin
        obtain ⟨t, h1, h2⟩ := he s hR
        exact ⟨t, by rw [h1], h2⟩
      · obtain ⟨s', h1, h2⟩ := h i s (by omega) hR
        rw [h1]
        exact ih (i + 1) s' (by omega) (by omega) h2
  exact key K 0 s (Nat.zero_le _) (by omega) hs
/-- the document's order of jobs: a policy, their times, their places -/
def ltJ (p : Int) (jobs : List SJob) (a b : Nat) : Prop := match jobs[a]?, jobs[b]? with
  | some x, some y => aheadJ p x y ∨ (¬ aheadJ p y x ∧ a < b)
  | _, _ => False
instance (p : Int) (jobs : List SJob) (a b : Nat) : Decidable (ltJ p jobs a b) := by unfold ltJ; split <;> infer_instance
theorem ltJ_iff {p : Int} {jobs : List SJob} {a b : Nat} {x y : SJob} (hx : jobs[a]? = some x) (hy : jobs[b]? = some y) : ltJ p jobs a b ↔ aheadJ p x y ∨ (¬ aheadJ p y x ∧ a < b) := by simp only [ltJ, hx, hy]
theorem ltJ_total {p : Int} {jobs : List SJob} {a b : Nat} (ha : a < jobs.length) (hb : b < jobs.length) (h : a ≠ b) : ltJ p jobs a b ∨ ltJ p jobs b a := by
  have h1 : jobs[a]? = some jobs[a] := List.getElem?_eq_getElem ha
  have h2 : jobs[b]? = some jobs[b] := List.getElem?_eq_getElem hb
  rw [ltJ_iff h1 h2, ltJ_iff h2 h1]
  by_cases g1 : aheadJ p jobs[a] jobs[b]
  · exact .inl (.inl g1)
  by_cases g2 : aheadJ p jobs[b] jobs[a]
  · exact .inr (.inl g2)
  by_cases g3 : a < b
  · exact .inl (.inr ⟨g2, g3⟩)
  · exact .inr (.inr ⟨g1, by omega⟩)
theorem ltJ_trans {p : Int} {jobs : List SJob} {a b c : Nat} (ha : a < jobs.length) (hb : b < jobs.length) (hc : c < jobs.length) (h : ltJ p jobs a b) (k : ltJ p jobs b c) : ltJ p jobs a c := by
  have h1 : jobs[a]? = some jobs[a] := List.getElem?_eq_getElem ha
  have h2 : jobs[b]? = some jobs[b] := List.getElem?_eq_getElem hb
  have h3 : jobs[c]? = some jobs[c] := List.getElem?_eq_getElem hc
  rw [ltJ_iff h1 h2] at h
  rw [ltJ_iff h2 h3] at k
  rw [ltJ_iff h1 h3]
  unfold aheadJ at *
  split at h <;> simp_all <;> omega
/-- the map of what is left -/
def Mp (mp : List (Int × Int)) (left : List Int) : Prop := ∀ j : Nat, (mget mp (j : Int)).getD 0 = left.getD j 0
/-- those of the first n that can run, in the document's order, begin with the first -/
structure There (p : Int) (jobs : List SJob) (left : List Int) (t : Int) (n : Nat) (L : List Nat) : Prop where
  lt : ∀ q ∈ L, q < n
  sorted : L.Pairwise (ltJ p jobs)
  head : (L = [] ∧ firstTo p jobs left t n = -1) ∨ ∃ b r, L = b :: r ∧ firstTo p jobs left t n = (b : Int)
  few : L.length ≤ n
theorem pairwise_insert {α : Type} {R : α → α → Prop} {L : List α} {k : Nat} {x : α} (h : L.Pairwise R) (h1 : ∀ y ∈ L.take k, R y x) (h2 : ∀ y ∈ L.drop k, R x y) : (L.take k ++ (x :: L.drop k)).Pairwise R := by
  rw [List.pairwise_append]
  have h0 := h
  rw [← List.take_append_drop k L, List.pairwise_append] at h0
  refine ⟨h0.1, List.pairwise_cons.2 ⟨h2, h0.2.1⟩, fun a ha b hb => ?_⟩
  rcases List.mem_cons.1 hb with rfl | hb
  · exact h1 a ha
  · exact h0.2.2 a ha b hb
/-- who runs, as a list -/
def runRow (b : Int) : List Int := if b < 0 then [] else [b]
theorem CheckJobs_eq (l : List SJob) (K : Nat) (hK : 4010 ≤ K) : punctualref_CheckJobs.f K l = some (playFault l) := by
  unfold punctualref_CheckJobs.f playFault
  by_cases hl : (l.length : Int) > 4000
  · rw [if_pos hl, if_pos (by omega)]; rfl
  rw [if_neg hl, if_neg (by omega)]
  have hr := iter_first0 (f := punctualref_CheckJobs.r0 l) (playAt l) l.length (t := ()) (fun i hi => by
    have hi' : (i : Int) < (l.length : Int) := by omega
    simp only [punctualref_CheckJobs.r0, if_pos hi', List.getElem?_eq_getElem hi, playAt]
    generalize l[i] = e
    by_cases h : e.At < 0 ∨ e.At > 60000 ∨ e.C < 1 ∨ e.C > 10000 ∨ e.Due < 0 ∨ e.Due > 80000
    · rw [if_pos h]
      repeat' split
      all_goals first | rfl | omega
    · rw [if_neg h]
      rw [if_neg (by omega), if_neg (by omega), if_neg (by omega), if_neg (by omega), if_neg (by omega), if_neg (by omega)]
      rfl) (by simp [punctualref_CheckJobs.r0]) (K := K) (by omega)
  rw [hr]
  cases firstOf (playAt l) l.length 0 <;> rfl
/-- of each row the first -/
def headOr (r : List Int) : Int := r.headD (-1)
/-- the places of the first n -/
def idx (n : Nat) : List Int := (List.range n).map fun q : Nat => (q : Int)
theorem idx_succ (n : Nat) : idx (n + 1) = idx n ++ [(n : Int)] := by simp [idx, List.range_succ]
theorem mem_idx {n : Nat} {x : Int} : x ∈ idx n ↔ 0 ≤ x ∧ x < (n : Int) := by
  unfold idx
  rw [List.mem_map]
  constructor
  · rintro ⟨q, hq, rfl⟩
    rw [List.mem_range] at hq
    omega
  · rintro ⟨h1, h2⟩
    exact ⟨x.toNat, List.mem_range.2 (by omega), by omega⟩
def cJ (l : List SJob) (x : Int) : Int := match l[x.toNat]? with | some e => e.C | none => 0
def aJ (l : List SJob) (x : Int) : Int := match l[x.toNat]? with | some e => e.At | none => 0
def dJ (l : List SJob) (x : Int) : Int := match l[x.toNat]? with | some e => e.Due | none => 0
/-- the sum of what some of them say -/
def sumI (p : Int → Bool) (g : Int → Int) : List Int → Int
  | [] => 0
  | x :: r => (if p x = true then g x else 0) + sumI p g r
theorem sumI_append (p : Int → Bool) (g : Int → Int) : ∀ a b : List Int, sumI p g (a ++ b) = sumI p g a + sumI p g b
  | [], b => by simp [sumI]
  | x :: a, b => by
    have := sumI_append p g a b
    simp only [List.cons_append, sumI, this]
    omega
theorem sumI_perm (p : Int → Bool) (g : Int → Int) {a b : List Int} (h : a.Perm b) : sumI p g a = sumI p g b := by
  induction h with
  | nil => rfl
  | cons x _ ih => simp only [sumI, ih]
  | swap x y l => simp only [sumI]; omega
  | trans _ _ h1 h2 => exact h1.trans h2
theorem sumI_nonneg {p : Int → Bool} {g : Int → Int} : ∀ {a : List Int}, (∀ x ∈ a, 0 ≤ g x) → 0 ≤ sumI p g a
  | [], _ => Int.le_refl _
  | x :: a, h => by
    have h1 := sumI_nonneg (p := p) (fun y hy => h y (List.mem_cons_of_mem x hy))
    have h2 := h x (List.mem_cons_self ..)
    simp only [sumI]
    split <;> omega
theorem sumI_congr {p q : Int → Bool} {g : Int → Int} : ∀ {a : List Int}, (∀ x ∈ a, p x = q x) → sumI p g a = sumI q g a
  | [], _ => rfl
  | x :: a, h => by
    simp only [sumI, h x (List.mem_cons_self ..), sumI_congr (fun y hy => h y (List.mem_cons_of_mem x hy))]
theorem sumI_none {p : Int → Bool} {g : Int → Int} : ∀ {a : List Int}, (∀ x ∈ a, p x = false) → sumI p g a = 0
  | [], _ => rfl
  | x :: a, h => by
    have := sumI_none (g := g) (fun y hy => h y (List.mem_cons_of_mem x hy))
    simp [sumI, h x (List.mem_cons_self ..), this]
theorem sumI_le {p : Int → Bool} {g : Int → Int} {B : Int} (hB : 0 ≤ B) : ∀ {a : List Int}, (∀ x ∈ a, g x ≤ B) → sumI p g a ≤ B * (a.length : Int)
  | [], _ => by simp [sumI]
  | x :: a, h => by
    have h1 := sumI_le (p := p) hB (fun y hy => h y (List.mem_cons_of_mem x hy))
    have h2 := h x (List.mem_cons_self ..)
    simp only [sumI, List.length_cons]
    rw [show ((a.length + 1 : Nat) : Int) = (a.length : Int) + 1 by omega, Int.mul_add]
    split <;> omega
/-- the least of some pairs -/
def Rep (X : Int → Int → Prop) (a b : Int) (found : Bool) : Prop := (found = false ∧ ∀ p q, ¬ X p q) ∨ (found = true ∧ X a b ∧ ∀ p q, X p q → a < p ∨ (a = p ∧ b ≤ q))
theorem Rep.same {X : Int → Int → Prop} {a b a' b' : Int} {f f' : Bool} (h : Rep X a b f) (k : Rep X a' b' f') : f = f' ∧ (f = true → a = a' ∧ b = b') := by
  rcases h with ⟨rfl, h⟩ | ⟨rfl, h1, h2⟩ <;> rcases k with ⟨rfl, k⟩ | ⟨rfl, k1, k2⟩
  · exact ⟨rfl, fun h => by cases h⟩
  · exact absurd k1 (h _ _)
  · exact absurd h1 (k _ _)
  · have := h2 _ _ k1
    have := k2 _ _ h1
    exact ⟨rfl, fun _ => by omega⟩
theorem Rep.iff {X Y : Int → Int → Prop} {a b : Int} {f : Bool} (h : Rep X a b f) (k : ∀ p q, X p q ↔ Y p q) : Rep Y a b f := by
  rcases h with ⟨rfl, h⟩ | ⟨rfl, h1, h2⟩
  · exact .inl ⟨rfl, fun p q hy => h p q ((k p q).2 hy)⟩
  · exact .inr ⟨rfl, (k _ _).1 h1, fun p q hy => h2 p q ((k p q).2 hy)⟩
theorem Rep.dom {X Y : Int → Int → Prop} {a b : Int} {f : Bool} (h : Rep X a b f) (k1 : ∀ p q, X p q → Y p q) (k2 : ∀ p q, Y p q → ∃ q', q' ≤ q ∧ X p q') : Rep Y a b f := by
  rcases h with ⟨rfl, h⟩ | ⟨rfl, h1, h2⟩
  · refine .inl ⟨rfl, fun p q hy => ?_⟩
    obtain ⟨q', _, hx⟩ := k2 p q hy
    exact h p q' hx
  · refine .inr ⟨rfl, k1 _ _ h1, fun p q hy => ?_⟩
    obtain ⟨q', hq, hx⟩ := k2 p q hy
    have := h2 p q' hx
    omega
/-- one more pair -/
theorem Rep.keep {X : Int → Int → Prop} {a b : Int} {f : Bool} (h : Rep X a b f) {p q : Int} (k : f = true ∧ (a < p ∨ (a = p ∧ b ≤ q))) : Rep (fun x y => X x y ∨ (x = p ∧ y = q)) a b f := by
  rcases h with ⟨rfl, h⟩ | ⟨rfl, h1, h2⟩
  · cases k.1
  · refine .inr ⟨rfl, .inl h1, fun x y hx => ?_⟩
    rcases hx with hx | ⟨rfl, rfl⟩
    · exact h2 x y hx
    · exact k.2
theorem Rep.take {X : Int → Int → Prop} {a b : Int} {f : Bool} (h : Rep X a b f) {p q : Int} (k : f = true → p < a ∨ (p = a ∧ q < b)) : Rep (fun x y => X x y ∨ (x = p ∧ y = q)) p q true := by
  refine .inr ⟨rfl, .inr ⟨rfl, rfl⟩, fun x y hx => ?_⟩
  rcases hx with hx | ⟨rfl, rfl⟩
  · rcases h with ⟨rfl, h⟩ | ⟨rfl, h1, h2⟩
    · exact absurd hx (h _ _)
    · have := h2 x y hx
      have := k rfl
      omega
  · omega
/-- what both look for: a time from a to b in which more must be done than can -/
def Over (l : List SJob) (a b : Int) : Prop := ∃ i k : Nat, i < l.length ∧ k < l.length ∧ a = aJ l i ∧ b = dJ l k ∧ (∃ x ∈ idx l.length, a ≤ aJ l x ∧ dJ l x ≤ b) ∧ b - a < sumI (fun x => decide (a ≤ aJ l x) && decide (dJ l x ≤ b)) (cJ l) (idx l.length)
theorem aJ_some {l : List SJob} {x : Int} {e : SJob} (h : l[x.toNat]? = some e) : aJ l x = e.At ∧ dJ l x = e.Due ∧ cJ l x = e.C := by simp [aJ, dJ, cJ, h]
theorem cJ_bounds {l : List SJob} (hj : ∀ e ∈ l, Okj e) {x : Int} (hx : x ∈ idx l.length) : (1 ≤ cJ l x ∧ cJ l x ≤ 10000) ∧ (0 ≤ aJ l x ∧ aJ l x ≤ 60000) ∧ (0 ≤ dJ l x ∧ dJ l x ≤ 80000) := by
  have h := mem_idx.1 hx
  have he : l[x.toNat]? = some (l[x.toNat]'(by omega)) := List.getElem?_eq_getElem _
  have ho := hj _ (List.mem_of_getElem? he)
  obtain ⟨h1, h2, h3⟩ := aJ_some he
  rw [h1, h2, h3]
  exact ⟨ho.C, ho.At, ho.Due⟩
/-- the reference -/
theorem JudgeOf_r2_eq (l : List SJob) (hj : ∀ e ∈ l, Okj e) (hl : l.length ≤ 4000) (e1 e2 : SJob) (K : Nat) (hK : 4010 ≤ K) :
    ∃ q, iter (punctualref_JudgeOf.r2 l e1 e2) K (0, false, 0) = some (.inl (sumI (fun x => decide (e1.At ≤ aJ l x) && decide (dJ l x ≤ e2.Due)) (cJ l) (idx l.length), q)) ∧ (q = true ↔ ∃ x ∈ idx l.length, e1.At ≤ aJ l x ∧ dJ l x ≤ e2.Due) := by
  have key := iter_rel (ρ := Int × Int × SFault) (f := punctualref_JudgeOf.r2 l e1 e2) (fun i s => s.2.2 = i ∧ s.1 = sumI (fun x => decide (e1.At ≤ aJ l x) && decide (dJ l x ≤ e2.Due)) (cJ l) (idx i) ∧ (s.2.1 = true ↔ ∃ x ∈ idx i, e1.At ≤ aJ l x ∧ dJ l x ≤ e2.Due))
    (fun r => r.1 = sumI (fun x => decide (e1.At ≤ aJ l x) && decide (dJ l x ≤ e2.Due)) (cJ l) (idx l.length) ∧ (r.2 = true ↔ ∃ x ∈ idx l.length, e1.At ≤ aJ l x ∧ dJ l x ≤ e2.Due)) l.length (fun i s hi hR => by
      obtain ⟨z, q, i3⟩ := s
      obtain ⟨h0, hz, hq⟩ := hR
      simp only at hi h0 hz hq ⊢
      subst h0
      subst hz
      have hx : l[i3]? = some l[i3] := List.getElem?_eq_getElem hi
      have ho := hj _ (List.getElem_mem hi)
      have h3 := aJ_some (l := l) (x := (i3 : Int)) (e := l[i3]) (by rw [Int.toNat_natCast]; exact hx)
      have hC := ho.C
      have hb := sumI_le (p := fun x => decide (e1.At ≤ aJ l x) && decide (dJ l x ≤ e2.Due)) (g := cJ l) (B := 10000) (by omega) (a := idx i3) (fun x hxm => (cJ_bounds hj (mem_idx.2 (by have := mem_idx.1 hxm; omega))).1.2)
      have hn := sumI_nonneg (p := fun x => decide (e1.At ≤ aJ l x) && decide (dJ l x ≤ e2.Due)) (g := cJ l) (a := idx i3) (fun x hxm => by have := (cJ_bounds hj (x := x) (mem_idx.2 (by have := mem_idx.1 hxm; omega))).1.1; omega)
      have hlen : (idx i3).length = i3 := by simp [idx]
      rw [hlen] at hb
      have hw : IntKind.i64.wrap (sumI (fun x => decide (e1.At ≤ aJ l x) && decide (dJ l x ≤ e2.Due)) (cJ l) (idx i3) + l[i3].C) = sumI (fun x => decide (e1.At ≤ aJ l x) && decide (dJ l x ≤ e2.Due)) (cJ l) (idx i3) + l[i3].C := wrap64_small (by omega) (by omega)
      simp only [punctualref_JudgeOf.r2, if_pos (show (i3 : Int) < (l.length : Int) by omega), hx, hw, idx_succ, sumI_append, sumI, h3.1, h3.2.1, h3.2.2, List.mem_append, List.mem_singleton]
      by_cases g1 : l[i3].At ≥ e1.At
      · rw [if_pos g1]
        by_cases g2 : l[i3].Due ≤ e2.Due
        · rw [if_pos g2]
          refine ⟨_, rfl, rfl, by simp [g2, show e1.At ≤ l[i3].At from g1], ⟨fun _ => ⟨(i3 : Int), .inr rfl, by rw [h3.1, h3.2.1]; exact ⟨g1, g2⟩⟩, fun _ => rfl⟩⟩
        · rw [if_neg g2]
          refine ⟨_, rfl, rfl, by simp [g2], ?_⟩
          rw [hq]
          constructor
          · rintro ⟨x, hxm, hh⟩; exact ⟨x, .inl hxm, hh⟩
          · rintro ⟨x, hxm | rfl, hh⟩
            · exact ⟨x, hxm, hh⟩
            · rw [h3.2.1] at hh; exact absurd hh.2 g2
      · rw [if_neg g1]
        refine ⟨_, rfl, rfl, by simp [show ¬ e1.At ≤ l[i3].At from g1], ?_⟩
        rw [hq]
        constructor
        · rintro ⟨x, hxm, hh⟩; exact ⟨x, .inl hxm, hh⟩
        · rintro ⟨x, hxm | rfl, hh⟩
          · exact ⟨x, hxm, hh⟩
          · rw [h3.1] at hh; exact absurd hh.1 g1) (fun s hR => by
      obtain ⟨z, q, i3⟩ := s
      obtain ⟨h0, hz, hq⟩ := hR
      simp only at h0 hz hq
      subst h0
      exact ⟨(z, q), by simp [punctualref_JudgeOf.r2], hz, hq⟩) (K := K) (by omega) (s := (0, false, 0)) ⟨rfl, rfl, by simp [idx]⟩
  obtain ⟨⟨_, q⟩, h1, rfl, h2⟩ := key
  exact ⟨q, h1, h2⟩
/-- the pairs of the first i and all, and of the i-th and the first k -/
def OverTo (l : List SJob) (i k : Nat) (a b : Int) : Prop := ∃ i' k' : Nat, (i' < i ∧ k' < l.length ∨ i' = i ∧ k' < k) ∧ i' < l.length ∧ a = aJ l i' ∧ b = dJ l k' ∧ (∃ x ∈ idx l.length, a ≤ aJ l x ∧ dJ l x ≤ b) ∧ b - a < sumI (fun x => decide (a ≤ aJ l x) && decide (dJ l x ≤ b)) (cJ l) (idx l.length)
theorem JudgeOf_r1_eq (l : List SJob) (hj : ∀ e ∈ l, Okj e) (hl : l.length ≤ 4000) (i : Nat) (hi : i < l.length) (a b : Int) (f : Bool) (h : Rep (OverTo l i 0) a b f) (K : Nat) (hK : 4010 ≤ K) :
    ∃ a' b' f', iter (punctualref_JudgeOf.r1 K l l[i]) K (a, b, f, 0) = some (.inl (a', b', f')) ∧ Rep (OverTo l (i + 1) 0) a' b' f' := by
  have hxi : l[i]? = some l[i] := List.getElem?_eq_getElem hi
  have h3i := aJ_some (l := l) (x := (i : Int)) (e := l[i]) (by rw [Int.toNat_natCast]; exact hxi)
  have hoi := hj _ (List.getElem_mem hi)
  have key := iter_rel (ρ := Int × Int × SFault) (f := punctualref_JudgeOf.r1 K l l[i]) (fun k s => s.2.2.2 = k ∧ Rep (OverTo l i k) s.1 s.2.1 s.2.2.1) (fun r => Rep (OverTo l (i + 1) 0) r.1 r.2.1 r.2.2) l.length (fun k s hk hR => by
    obtain ⟨z5, z6, q3, i2⟩ := s
    obtain ⟨rfl, hR⟩ := hR
    simp only at hk hR ⊢
    have hx : l[i2]? = some l[i2] := List.getElem?_eq_getElem hk
    have h3 := aJ_some (l := l) (x := (i2 : Int)) (e := l[i2]) (by rw [Int.toNat_natCast]; exact hx)
    have ho := hj _ (List.getElem_mem hk)
    have hA := hoi.At; have hD := ho.Due
    obtain ⟨q7, e2, hq7⟩ := JudgeOf_r2_eq l hj hl l[i] l[i2] K hK
    have hw : IntKind.i64.wrap (l[i2].Due - l[i].At) = l[i2].Due - l[i].At := wrap64_small (by omega) (by omega)
    simp only [punctualref_JudgeOf.r1, if_pos (show (i2 : Int) < (l.length : Int) by omega), hx, e2, hw]
    -- the step's set
    have hset : ∀ p q, OverTo l i (i2 + 1) p q ↔ OverTo l i i2 p q ∨ (p = l[i].At ∧ q = l[i2].Due ∧ q7 = true ∧ l[i2].Due - l[i].At < sumI (fun x => decide (l[i].At ≤ aJ l x) && decide (dJ l x ≤ l[i2].Due)) (cJ l) (idx l.length)) := fun p q => by
      constructor
      · rintro ⟨i', k', hik, hi', rfl, rfl, hne, hs⟩
        by_cases hlast : i' = i ∧ k' = i2
        · obtain ⟨rfl, rfl⟩ := hlast
          rw [h3i.1, h3.2.1] at hne hs
          exact .inr ⟨h3i.1, h3.2.1, hq7.2 hne, hs⟩
        · exact .inl ⟨i', k', by omega, hi', rfl, rfl, hne, hs⟩
      · rintro (⟨i', k', hik, hi', hp, hq, hne, hs⟩ | ⟨rfl, rfl, hq, hs⟩)
        · exact ⟨i', k', by omega, hi', hp, hq, hne, hs⟩
        · exact ⟨i, i2, .inr ⟨rfl, by omega⟩, hi, h3i.1.symm, h3.2.1.symm, hq7.1 hq, hs⟩
    by_cases hq : q7 = true
    · rw [if_pos hq]
      by_cases hgt : sumI (fun x => decide (l[i].At ≤ aJ l x) && decide (dJ l x ≤ l[i2].Due)) (cJ l) (idx l.length) > l[i2].Due - l[i].At
      · rw [if_pos hgt]
        have hset' : ∀ p q, (OverTo l i i2 p q ∨ (p = l[i].At ∧ q = l[i2].Due)) ↔ OverTo l i (i2 + 1) p q := fun p q => by
          rw [hset p q]
          constructor
          · rintro (h | ⟨h1, h2⟩)
            · exact .inl h
            · exact .inr ⟨h1, h2, hq, hgt⟩
          · rintro (h | ⟨h1, h2, _⟩)
            · exact .inl h
            · exact .inr ⟨h1, h2⟩
        by_cases hf : q3 = true
        · rw [if_pos hf]
          by_cases c1 : l[i].At < z5
          · rw [if_pos c1]
            exact ⟨_, rfl, rfl, (hR.take (fun _ => .inl c1)).iff hset'⟩
          · rw [if_neg c1]
            by_cases c2 : l[i].At = z5
            · rw [if_pos c2]
              by_cases c3 : l[i2].Due < z6
              · rw [if_pos c3]
                exact ⟨_, rfl, rfl, (hR.take (fun _ => .inr ⟨c2, c3⟩)).iff hset'⟩
              · rw [if_neg c3]
                exact ⟨_, rfl, rfl, (hR.keep ⟨hf, .inr ⟨c2.symm, by omega⟩⟩).iff hset'⟩
            · rw [if_neg c2]
              exact ⟨_, rfl, rfl, (hR.keep ⟨hf, .inl (by omega)⟩).iff hset'⟩
        · rw [if_neg hf]
          exact ⟨_, rfl, rfl, (hR.take (fun h => absurd h hf)).iff hset'⟩
      · rw [if_neg hgt]
        exact ⟨_, rfl, rfl, hR.iff fun p q => by
          rw [hset p q]
          exact ⟨.inl, fun h => h.resolve_right (fun h => hgt h.2.2.2)⟩⟩
    · rw [if_neg hq]
      exact ⟨_, rfl, rfl, hR.iff fun p q => by
        rw [hset p q]
        exact ⟨.inl, fun h => h.resolve_right (fun h => hq h.2.2.1)⟩⟩) (fun s hR => by
    obtain ⟨z5, z6, q3, i2⟩ := s
    obtain ⟨rfl, hR⟩ := hR
    refine ⟨(z5, z6, q3), by simp [punctualref_JudgeOf.r1], hR.iff fun p q => ?_⟩
    constructor
    · rintro ⟨i', k', hik, rest⟩; exact ⟨i', k', by omega, rest⟩
    · rintro ⟨i', k', hik, rest⟩
      refine ⟨i', k', ?_, rest⟩
      omega) (K := K) (by omega) (s := (a, b, f, 0)) ⟨rfl, h⟩
  obtain ⟨⟨a', b', f'⟩, h1, h2⟩ := key
  exact ⟨a', b', f', h1, h2⟩
theorem Over_iff (l : List SJob) (p q : Int) : OverTo l l.length 0 p q ↔ Over l p q := by
  constructor
  · rintro ⟨i', k', hik, hi', h1, h2, h3, h4⟩; exact ⟨i', k', hi', by omega, h1, h2, h3, h4⟩
  · rintro ⟨i', k', hi', hk', h1, h2, h3, h4⟩; exact ⟨i', k', .inl ⟨hi', hk'⟩, hi', h1, h2, h3, h4⟩
theorem JudgeOf_eq (l : List SJob) (K : Nat) (hK : 5010 ≤ K) : ((playFault l).Code ≠ 0 ∧ punctualref_JudgeOf.f K l = some (0, 0, playFault l)) ∨
    ((playFault l).Code = 0 ∧ ∃ a b f, Rep (Over l) a b f ∧ punctualref_JudgeOf.f K l = some (if f = true then (a, b, ⟨13, 0⟩) else (0, 0, ⟨0, 0⟩))) := by
  unfold punctualref_JudgeOf.f
  rw [CheckJobs_eq l K (by omega)]
  simp only
  by_cases hc : (playFault l).Code = 0
  · right
    rw [if_pos hc]
    obtain ⟨hl, _, hj⟩ := playFault_ok hc
    refine ⟨hc, ?_⟩
    have key := iter_rel (ρ := Int × Int × SFault) (f := punctualref_JudgeOf.r0 K l (playFault l)) (fun i s => s.2.2.2 = i ∧ Rep (OverTo l i 0) s.1 s.2.1 s.2.2.1) (fun r => Rep (Over l) r.1 r.2.1 r.2.2) l.length (fun i s hi hR => by
      obtain ⟨z1, z2, q1, i1⟩ := s
      obtain ⟨rfl, hR⟩ := hR
      simp only at hi hR ⊢
      obtain ⟨a', b', f', e1, e2⟩ := JudgeOf_r1_eq l hj hl i1 hi z1 z2 q1 hR K (by omega)
      simp only [punctualref_JudgeOf.r0, if_pos (show (i1 : Int) < (l.length : Int) by omega), List.getElem?_eq_getElem hi, e1]
      exact ⟨_, rfl, rfl, e2⟩) (fun s hR => by
      obtain ⟨z1, z2, q1, i1⟩ := s
      obtain ⟨rfl, hR⟩ := hR
      exact ⟨(z1, z2, q1), by simp [punctualref_JudgeOf.r0], hR.iff (Over_iff l)⟩) (K := K) (by omega) (s := (0, 0, false, 0)) ⟨rfl, .inl ⟨rfl, fun p q h => by
        obtain ⟨i', k', hik, _⟩ := h
        omega⟩⟩
    obtain ⟨⟨a, b, f⟩, h1, h2⟩ := key
    refine ⟨a, b, f, h2, ?_⟩
    rw [h1]
    cases f <;> rfl
  · left
    rw [if_neg hc]
    exact ⟨hc, rfl⟩

def cmpD (l : List SJob) (x y : Int) : Int := if dJ l x < dJ l y then -1 else if dJ l x > dJ l y then 1 else if x < y then -1 else if x > y then 1 else 0
theorem cmpD_neg (l : List SJob) (x y : Int) : cmpD l x y < 0 ↔ (dJ l x < dJ l y ∨ (dJ l x = dJ l y ∧ x < y)) := by
  unfold cmpD
  split
  · omega
  · split
    · omega
    · split
      · omega
      · split <;> omega
theorem Judge_cmp_eq (l : List SJob) (K : Nat) (hK : 3 ≤ K) {x y : Int} (hx : x ∈ idx l.length) (hy : y ∈ idx l.length) : edf_Judge_1.f K x y l = some (cmpD l x y) := by
  have h1 := mem_idx.1 hx
  have h2 := mem_idx.1 hy
  have e1 : l[x.toNat]? = some (l[x.toNat]'(by omega)) := List.getElem?_eq_getElem _
  have e2 : l[y.toNat]? = some (l[y.toNat]'(by omega)) := List.getElem?_eq_getElem _
  obtain ⟨_, d1, _⟩ := aJ_some e1
  obtain ⟨_, d2, _⟩ := aJ_some e2
  simp only [edf_Judge_1.f, if_pos h1.1, e1, if_pos h2.1, e2, compare_eq, or2_eq _ _ K hK]
  rw [← d1, ← d2]
  unfold cmpD
  congr 1
  split
  · rfl
  · split
    · rfl
    · rfl
theorem Judge_okCmp (l : List SJob) (K : Nat) (hK : 3 ≤ K) : OkCmp (fun x y => edf_Judge_1.f K x y l) (idx l.length) := by
  have e : ∀ x ∈ idx l.length, ∀ y ∈ idx l.length, (edf_Judge_1.f K x y l).getD 0 = cmpD l x y := fun x hx y hy => by rw [Judge_cmp_eq l K hK hx hy]; rfl
  refine ⟨fun x hx y hy => ⟨_, Judge_cmp_eq l K hK hx hy⟩, fun x hx => ?_, fun x hx y hy z hz h1 h2 => ?_, fun x hx y hy z hz h1 h2 => ?_, fun x hx y hy h1 h2 => ?_⟩
  · simp only [e x hx x hx, cmpD_neg]; omega
  · simp only [e x hx y hy, e y hy z hz, e x hx z hz, cmpD_neg] at h1 h2 ⊢; omega
  · simp only [e x hx y hy, e y hy z hz, e x hx z hz, cmpD_neg] at h1 h2 ⊢; omega
  · simp only [e x hx y hy, e y hy x hx, cmpD_neg] at h1 h2; omega
def leD (l : List SJob) (x y : Int) : Bool := !(decide (dJ l y < dJ l x ∨ (dJ l y = dJ l x ∧ y < x)))
theorem leD_iff (l : List SJob) (x y : Int) : leD l x y = true ↔ ¬ (dJ l y < dJ l x ∨ (dJ l y = dJ l x ∧ y < x)) := by
  unfold leD
  rw [Bool.not_eq_true', decide_eq_false_iff_not]
/-- the jobs in the order of their due times -/
theorem Judge_sorted (l : List SJob) (K : Nat) (hK : 3 ≤ K) : ∃ R, sortF (fun x y => edf_Judge_1.f K x y l) (idx l.length) = some R ∧ R.Perm (idx l.length) ∧ R.Pairwise (fun x y => dJ l x ≤ dJ l y) := by
  have e : (idx l.length).mergeSort (fun x y => !(decide ((edf_Judge_1.f K y x l).getD 0 < 0))) = (idx l.length).mergeSort (leD l) := by
    have := List.map_mergeSort (f := fun x : Int => x) (r := fun x y => !(decide ((edf_Judge_1.f K y x l).getD 0 < 0))) (s := leD l) (l := idx l.length) (fun a ha b hb => by
      rw [Judge_cmp_eq l K hK hb ha]
      unfold leD
      congr 1
      exact decide_eq_decide.2 (cmpD_neg l b a))
    simpa using this
  refine ⟨(idx l.length).mergeSort (leD l), ?_, List.mergeSort_perm _ _, ?_⟩
  · unfold sortF
    rw [if_pos (Judge_okCmp l K hK), e]
  · have := List.pairwise_mergeSort (le := leD l) (fun a b c h1 h2 => by rw [leD_iff] at *; omega) (fun a b => by
      have h1 := leD_iff l a b
      have h2 := leD_iff l b a
      by_cases h : leD l a b = true
      · simp [h]
      · have : leD l b a = true := h2.2 (fun hh => h (h1.2 (by omega)))
        simp [this]) (idx l.length)
    exact this.imp (fun {a b} h => by rw [leD_iff] at h; omega)
theorem Judge_r0_eq (l : List SJob) (hl : l.length ≤ 4000) (K : Nat) (hK : 4010 ≤ K) : iter (edf_Judge.r0 l) K (0, List.replicate l.length 0) = some (.inl (idx l.length)) := by
  have key := iter_rel (ρ := Int × Int × SFault) (f := edf_Judge.r0 l) (fun i s => s.1 = (i : Int) ∧ s.2.length = l.length ∧ ∀ q : Nat, q < i → s.2[q]? = some (q : Int)) (fun r => r = idx l.length) l.length (fun i s hi hR => by
    obtain ⟨z1, m1⟩ := s
    obtain ⟨rfl, h1, h2⟩ := hR
    simp only at hi h1 h2 ⊢
    have hy : m1[i]? = some (m1.getD i 0) := get_of_lt (by omega)
    have hw : IntKind.i64.wrap ((i : Int) + 1) = ((i + 1 : Nat) : Int) := by rw [wrap64_small (by omega) (by omega)]; omega
    simp only [edf_Judge.r0, List.length_replicate, if_pos (show (i : Int) < (l.length : Int) by omega), if_pos (show (0 : Int) ≤ (i : Int) by omega), Int.toNat_natCast, hy, hw]
    refine ⟨_, rfl, rfl, by simp [h1], fun q hq => ?_⟩
    simp only [List.getElem?_set]
    by_cases hqi : i = q
    · subst hqi; rw [if_pos rfl, if_pos (by omega)]
    · rw [if_neg hqi]; exact h2 q (by omega)) (fun s hR => by
    obtain ⟨z1, m1⟩ := s
    obtain ⟨rfl, h1, h2⟩ := hR
    simp only at h1 h2
    refine ⟨m1, by simp [edf_Judge.r0], ?_⟩
    apply List.ext_getElem?
    intro q
    by_cases hq : q < l.length
    · rw [h2 q hq]; simp [idx, hq]
    · rw [List.getElem?_eq_none (show m1.length ≤ q by omega), List.getElem?_eq_none (by simp [idx]; omega)]) (K := K) (by omega) (s := (0, List.replicate l.length 0)) ⟨rfl, by simp, fun q hq => by omega⟩
  obtain ⟨_, h1, rfl⟩ := key
  exact h1
def OverS (l : List SJob) (R : List Int) (i m : Nat) (a b : Int) : Prop := ∃ (i' m' : Nat) (x : Int), (i' < i ∧ m' < R.length ∨ i' = i ∧ m' < m) ∧ i' < l.length ∧ R[m']? = some x ∧ a = aJ l i' ∧ b = dJ l x ∧ a ≤ aJ l x ∧ b - a < sumI (fun y => decide (a ≤ aJ l y)) (cJ l) (R.take (m' + 1))
theorem take_succ_get {R : List Int} {m : Nat} {x : Int} (h : R[m]? = some x) : R.take (m + 1) = R.take m ++ [x] := by rw [List.take_add_one, h]; rfl
theorem Judge_r2_eq (l : List SJob) (hj : ∀ e ∈ l, Okj e) (hl : l.length ≤ 4000) (R : List Int) (hR : R.Perm (idx l.length)) (i : Nat) (hi : i < l.length) (a b : Int) (f : Bool) (h : Rep (OverS l R i 0) a b f) (K : Nat) (hK : 4010 ≤ K) :
    ∃ a' b' f', iter (edf_Judge.r2 l R l[i]) K (a, b, f, 0, 0) = some (.inl (a', b', f')) ∧ Rep (OverS l R (i + 1) 0) a' b' f' := by
  have hxi : l[i]? = some l[i] := List.getElem?_eq_getElem hi
  have h3i := aJ_some (l := l) (x := (i : Int)) (e := l[i]) (by rw [Int.toNat_natCast]; exact hxi)
  have hoi := hj _ (List.getElem_mem hi)
  have hRl : R.length = l.length := by rw [hR.length_eq]; simp [idx]
  have key := iter_rel (ρ := Int × Int × SFault) (f := edf_Judge.r2 l R l[i]) (fun k s => s.2.2.2.2 = k ∧ s.2.2.2.1 = sumI (fun y => decide (l[i].At ≤ aJ l y)) (cJ l) (R.take k) ∧ Rep (OverS l R i k) s.1 s.2.1 s.2.2.1) (fun r => Rep (OverS l R (i + 1) 0) r.1 r.2.1 r.2.2) R.length (fun k s hk hS => by
    obtain ⟨z6, z7, q3, z8, i2⟩ := s
    obtain ⟨h0, hz, hS⟩ := hS
    simp only at hk h0 hz hS ⊢
    subst h0
    subst hz
    have hx : R[i2]? = some R[i2] := List.getElem?_eq_getElem hk
    have hxm : R[i2] ∈ idx l.length := hR.mem_iff.1 (List.getElem_mem hk)
    generalize R[i2] = x at hx hxm
    have hxr := mem_idx.1 hxm
    have he : l[x.toNat]? = some (l[x.toNat]'(by omega)) := List.getElem?_eq_getElem _
    have h3 := aJ_some he
    have ho := hj _ (List.mem_of_getElem? he)
    generalize l[x.toNat]'(by omega) = e at he h3 ho
    have hA := hoi.At; have hD := ho.Due; have hC := ho.C
    have hsub : ∀ y ∈ R.take i2, y ∈ idx l.length := fun y hy => hR.mem_iff.1 (List.mem_of_mem_take hy)
    have hb := sumI_le (p := fun y => decide (l[i].At ≤ aJ l y)) (g := cJ l) (B := 10000) (by omega) (a := R.take i2) (fun y hy => (cJ_bounds hj (hsub y hy)).1.2)
    have hn := sumI_nonneg (p := fun y => decide (l[i].At ≤ aJ l y)) (g := cJ l) (a := R.take i2) (fun y hy => by have := (cJ_bounds hj (hsub y hy)).1.1; omega)
    have hlen : (R.take i2).length ≤ 4000 := by simp only [List.length_take]; omega
    have hsum : sumI (fun y => decide (l[i].At ≤ aJ l y)) (cJ l) (R.take (i2 + 1)) = sumI (fun y => decide (l[i].At ≤ aJ l y)) (cJ l) (R.take i2) + (if l[i].At ≤ e.At then e.C else 0) := by
      rw [take_succ_get hx, sumI_append]
      simp only [sumI, h3.1, h3.2.2, decide_eq_true_eq, Int.add_zero]
    have hset : ∀ p q, OverS l R i (i2 + 1) p q ↔ OverS l R i i2 p q ∨ (p = l[i].At ∧ q = e.Due ∧ l[i].At ≤ e.At ∧ e.Due - l[i].At < sumI (fun y => decide (l[i].At ≤ aJ l y)) (cJ l) (R.take (i2 + 1))) := fun p q => by
      constructor
      · rintro ⟨i', m', x', him, hi', hx', rfl, rfl, hle, hs⟩
        by_cases hlast : i' = i ∧ m' = i2
        · obtain ⟨rfl, rfl⟩ := hlast
          rw [hx] at hx'
          cases hx'
          rw [h3i.1] at hle hs
          rw [h3.1] at hle
          rw [h3.2.1] at hs
          exact .inr ⟨h3i.1, h3.2.1, hle, hs⟩
        · exact .inl ⟨i', m', x', by omega, hi', hx', rfl, rfl, hle, hs⟩
      · rintro (⟨i', m', x', him, hi', hx', hp, hq, hle, hs⟩ | ⟨rfl, rfl, hle, hs⟩)
        · exact ⟨i', m', x', by omega, hi', hx', hp, hq, hle, hs⟩
        · exact ⟨i, i2, x, .inr ⟨rfl, by omega⟩, hi, hx, h3i.1.symm, h3.2.1.symm, by rw [h3.1]; exact hle, hs⟩
    simp only [edf_Judge.r2, if_pos (show (i2 : Int) < (R.length : Int) by omega), hx, if_pos hxr.1, he]
    by_cases hlt : e.At < l[i].At
    · rw [if_pos hlt]
      rw [if_neg (show ¬ l[i].At ≤ e.At by omega), Int.add_zero] at hsum
      exact ⟨_, rfl, rfl, hsum.symm, hS.iff fun p q => by
        rw [hset p q]
        exact ⟨.inl, fun h => h.resolve_right (fun h => by omega)⟩⟩
    · rw [if_neg hlt]
      rw [if_pos (show l[i].At ≤ e.At by omega)] at hsum
      have hw1 : IntKind.i64.wrap (sumI (fun y => decide (l[i].At ≤ aJ l y)) (cJ l) (R.take i2) + e.C) = sumI (fun y => decide (l[i].At ≤ aJ l y)) (cJ l) (R.take i2) + e.C := wrap64_small (by omega) (by omega)
      have hw2 : IntKind.i64.wrap (e.Due - l[i].At) = e.Due - l[i].At := wrap64_small (by omega) (by omega)
      rw [hw1, hw2, ← hsum]
      by_cases hgt : sumI (fun y => decide (l[i].At ≤ aJ l y)) (cJ l) (R.take (i2 + 1)) > e.Due - l[i].At
      · rw [if_pos hgt]
        have hset' : ∀ p q, (OverS l R i i2 p q ∨ (p = l[i].At ∧ q = e.Due)) ↔ OverS l R i (i2 + 1) p q := fun p q => by
          rw [hset p q]
          constructor
          · rintro (h | ⟨h1, h2⟩)
            · exact .inl h
            · exact .inr ⟨h1, h2, by omega, hgt⟩
          · rintro (h | ⟨h1, h2, _⟩)
            · exact .inl h
            · exact .inr ⟨h1, h2⟩
        by_cases hf : q3 = true
        · rw [if_pos hf]
          by_cases c1 : l[i].At < z6
          · rw [if_pos c1]
            exact ⟨_, rfl, rfl, rfl, (hS.take (fun _ => .inl c1)).iff hset'⟩
          · rw [if_neg c1]
            by_cases c2 : l[i].At = z6
            · rw [if_pos c2]
              by_cases c3 : e.Due < z7
              · rw [if_pos c3]
                exact ⟨_, rfl, rfl, rfl, (hS.take (fun _ => .inr ⟨c2, c3⟩)).iff hset'⟩
              · rw [if_neg c3]
                exact ⟨_, rfl, rfl, rfl, (hS.keep ⟨hf, .inr ⟨c2.symm, by omega⟩⟩).iff hset'⟩
            · rw [if_neg c2]
              exact ⟨_, rfl, rfl, rfl, (hS.keep ⟨hf, .inl (by omega)⟩).iff hset'⟩
        · rw [if_neg hf]
          exact ⟨_, rfl, rfl, rfl, (hS.take (fun h => absurd h hf)).iff hset'⟩
      · rw [if_neg hgt]
        exact ⟨_, rfl, rfl, rfl, hS.iff fun p q => by
          rw [hset p q]
          exact ⟨.inl, fun h => h.resolve_right (fun h => hgt h.2.2.2)⟩⟩) (fun s hS => by
    obtain ⟨z6, z7, q3, z8, i2⟩ := s
    obtain ⟨h0, hz, hS⟩ := hS
    simp only at h0 hz hS
    subst h0
    refine ⟨(z6, z7, q3), by simp [edf_Judge.r2], hS.iff fun p q => ?_⟩
    constructor
    · rintro ⟨i', m', x', him, rest⟩; exact ⟨i', m', x', by omega, rest⟩
    · rintro ⟨i', m', x', him, rest⟩
      refine ⟨i', m', x', ?_, rest⟩
      omega) (K := K) (by omega) (s := (a, b, f, 0, 0)) ⟨rfl, rfl, h⟩
  obtain ⟨⟨a', b', f'⟩, h1, h2⟩ := key
  exact ⟨a', b', f', h1, h2⟩
/-- the last of some -/
theorem last_of {p : Nat → Prop} (n m : Nat) (hm : m < n) (h : p m) : ∃ k, k < n ∧ p k ∧ ∀ j, k < j → j < n → ¬ p j := by
  induction n with
  | zero => omega
  | succ n ih =>
    by_cases hn : p n
    · exact ⟨n, by omega, hn, fun j h1 h2 => by omega⟩
    · have hmn : m < n := by
        by_cases e : m = n
        · subst e; exact absurd h hn
        · omega
      obtain ⟨k, h1, h2, h3⟩ := ih hmn
      refine ⟨k, by omega, h2, fun j h4 h5 => ?_⟩
      by_cases e : j = n
      · subst e; exact hn
      · exact h3 j h4 (by omega)
theorem OverS_over {l : List SJob} (hj : ∀ e ∈ l, Okj e) {R : List Int} (hR : R.Perm (idx l.length)) (hS : R.Pairwise (fun x y => dJ l x ≤ dJ l y)) : (∀ p q, OverS l R l.length 0 p q → Over l p q) ∧ (∀ p q, Over l p q → ∃ q', q' ≤ q ∧ OverS l R l.length 0 p q') := by
  have hRl : R.length = l.length := by rw [hR.length_eq]; simp [idx]
  have hmem : ∀ {m : Nat} {x : Int}, R[m]? = some x → x ∈ idx l.length := fun h => hR.mem_iff.1 (List.mem_of_getElem? h)
  have hord : ∀ {m m' : Nat} {x y : Int}, m ≤ m' → R[m]? = some x → R[m']? = some y → dJ l x ≤ dJ l y := fun {m m' x y} hle hx hy => by
    by_cases he : m = m'
    · subst he; rw [hx] at hy; cases hy; exact Int.le_refl _
    · have h := List.pairwise_iff_getElem.1 hS m m' (lt_of_get hx) (lt_of_get hy) (by omega)
      have g1 : R[m]'(lt_of_get hx) = x := by have := List.getElem?_eq_getElem (lt_of_get hx); rw [hx] at this; exact (Option.some.inj this).symm
      have g2 : R[m']'(lt_of_get hy) = y := by have := List.getElem?_eq_getElem (lt_of_get hy); rw [hy] at this; exact (Option.some.inj this).symm
      rw [g1, g2] at h
      exact h
  have htake : ∀ {m : Nat} {y : Int}, y ∈ R.take m → ∃ k, k < m ∧ R[k]? = some y := fun {m y} hy => by
    obtain ⟨k, hk⟩ := List.mem_iff_getElem?.1 hy
    rw [List.getElem?_take] at hk
    split at hk
    · exact ⟨k, by assumption, hk⟩
    · cases hk
  have hdrop : ∀ {m : Nat} {y : Int}, y ∈ R.drop m → ∃ k, m ≤ k ∧ R[k]? = some y := fun {m y} hy => by
    obtain ⟨k, hk⟩ := List.mem_iff_getElem?.1 hy
    rw [List.getElem?_drop] at hk
    exact ⟨m + k, by omega, hk⟩
  have hsplit : ∀ (p : Int → Bool) (m : Nat), sumI p (cJ l) (idx l.length) = sumI p (cJ l) (R.take m) + sumI p (cJ l) (R.drop m) := fun p m => by
    rw [← sumI_append, List.take_append_drop]
    exact (sumI_perm p (cJ l) hR).symm
  refine ⟨?_, ?_⟩
  · rintro p q ⟨i', m', x, him, hi', hx, rfl, rfl, hle, hs⟩
    have hxm := hmem hx
    have hxr := mem_idx.1 hxm
    have hxe : ((x.toNat : Nat) : Int) = x := by omega
    refine ⟨i', x.toNat, hi', by omega, rfl, by rw [hxe], ⟨x, hxm, hle, Int.le_refl _⟩, ?_⟩
    rw [hsplit _ (m' + 1)]
    have h1 : sumI (fun y => decide (aJ l i' ≤ aJ l y) && decide (dJ l y ≤ dJ l x)) (cJ l) (R.take (m' + 1)) = sumI (fun y => decide (aJ l i' ≤ aJ l y)) (cJ l) (R.take (m' + 1)) := sumI_congr (fun y hy => by
      obtain ⟨k, hk, hky⟩ := htake hy
      have := hord (show k ≤ m' by omega) hky hx
      simp [this])
    have h2 := sumI_nonneg (p := fun y => decide (aJ l i' ≤ aJ l y) && decide (dJ l y ≤ dJ l x)) (g := cJ l) (a := R.drop (m' + 1)) (fun y hy => by
      obtain ⟨k, _, hky⟩ := hdrop hy
      have := (cJ_bounds hj (hmem hky)).1.1
      omega)
    omega
  · rintro p q ⟨i', k', hi', hk', rfl, rfl, ⟨x0, hx0, hx1, hx2⟩, hs⟩
    have hx0R : x0 ∈ R := hR.mem_iff.2 hx0
    obtain ⟨m0, hm0⟩ := List.mem_iff_getElem?.1 hx0R
    obtain ⟨m, hm, ⟨x, hx, hxa, hxd⟩, hlast⟩ := last_of (p := fun m => ∃ x, R[m]? = some x ∧ aJ l i' ≤ aJ l x ∧ dJ l x ≤ dJ l k') R.length m0 (lt_of_get hm0) ⟨x0, hm0, hx1, hx2⟩
    refine ⟨dJ l x, hxd, i', m, x, .inl ⟨hi', hm⟩, hi', hx, rfl, rfl, hxa, ?_⟩
    rw [hsplit _ (m + 1)] at hs
    have h1 : sumI (fun y => decide (aJ l i' ≤ aJ l y) && decide (dJ l y ≤ dJ l k')) (cJ l) (R.take (m + 1)) = sumI (fun y => decide (aJ l i' ≤ aJ l y)) (cJ l) (R.take (m + 1)) := sumI_congr (fun y hy => by
      obtain ⟨k, hk, hky⟩ := htake hy
      have := hord (show k ≤ m by omega) hky hx
      simp [show dJ l y ≤ dJ l k' by omega])
    have h2 : sumI (fun y => decide (aJ l i' ≤ aJ l y) && decide (dJ l y ≤ dJ l k')) (cJ l) (R.drop (m + 1)) = 0 := sumI_none (fun y hy => by
      obtain ⟨k, hk, hky⟩ := hdrop hy
      have hno := hlast k (by omega) (lt_of_get hky)
      by_cases c1 : aJ l i' ≤ aJ l y
      · by_cases c2 : dJ l y ≤ dJ l k'
        · exact absurd ⟨y, hky, c1, c2⟩ hno
        · simp [c2]
      · simp [c1])
    omega
theorem Judge_eq (l : List SJob) (K : Nat) (hK : 5010 ≤ K) : ((playFault l).Code ≠ 0 ∧ edf_Judge.f K l = some (0, 0, playFault l)) ∨
    ((playFault l).Code = 0 ∧ ∃ a b f, Rep (Over l) a b f ∧ edf_Judge.f K l = some (if f = true then (a, b, ⟨13, 0⟩) else (0, 0, ⟨0, 0⟩))) := by
  unfold edf_Judge.f
  rw [schedCheck_eq l K (by omega)]
  simp only
  by_cases hc : (playFault l).Code = 0
  · right
    rw [if_pos hc]
    obtain ⟨hl, _, hj⟩ := playFault_ok hc
    refine ⟨hc, ?_⟩
    obtain ⟨R, hR1, hR2, hR3⟩ := Judge_sorted l K (by omega)
    have hRl : R.length = l.length := by rw [hR2.length_eq]; simp [idx]
    rw [if_pos (by omega), Judge_r0_eq l hl K (by omega)]
    simp only [hR1]
    have key := iter_rel (ρ := Int × Int × SFault) (f := edf_Judge.r1 K l R) (fun i s => s.2.2.2 = i ∧ Rep (OverS l R i 0) s.1 s.2.1 s.2.2.1) (fun r => Rep (Over l) r.1 r.2.1 r.2.2) l.length (fun i s hi hS => by
      obtain ⟨z1, z2, q1, i1⟩ := s
      obtain ⟨rfl, hS⟩ := hS
      simp only at hi hS ⊢
      obtain ⟨a', b', f', e1, e2⟩ := Judge_r2_eq l hj hl R hR2 i1 hi z1 z2 q1 hS K (by omega)
      simp only [edf_Judge.r1, if_pos (show (i1 : Int) < (l.length : Int) by omega), List.getElem?_eq_getElem hi, e1]
      exact ⟨_, rfl, rfl, e2⟩) (fun s hS => by
      obtain ⟨z1, z2, q1, i1⟩ := s
      obtain ⟨rfl, hS⟩ := hS
      obtain ⟨g1, g2⟩ := OverS_over hj hR2 hR3
      exact ⟨(z1, z2, q1), by simp [edf_Judge.r1], hS.dom g1 g2⟩) (K := K) (by omega) (s := (0, 0, false, 0)) ⟨rfl, .inl ⟨rfl, fun p q h => by
        obtain ⟨i', k', x, hik, _⟩ := h
        omega⟩⟩
    obtain ⟨⟨a, b, f⟩, h1, h2⟩ := key
    refine ⟨a, b, f, h2, ?_⟩
    rw [h1]
    cases f <;> rfl
  · left
    rw [if_neg hc]
    exact ⟨hc, rfl⟩
theorem Judge_same (l : List SJob) (K : Nat) (hK : 5010 ≤ K) : ∃ r, edf_Judge.f K l = some r ∧ punctualref_JudgeOf.f K l = some r := by
  rcases Judge_eq l K hK with ⟨h1, h2⟩ | ⟨h1, a, b, f, h2, h3⟩
  · rcases JudgeOf_eq l K hK with ⟨k1, k2⟩ | ⟨k1, _⟩
    · exact ⟨_, h2, k2⟩
    · exact absurd k1 h1
  · rcases JudgeOf_eq l K hK with ⟨k1, k2⟩ | ⟨k1, a', b', f', k2, k3⟩
    · exact absurd h1 k1
    · obtain ⟨rfl, g⟩ := h2.same k2
      refine ⟨_, h3, ?_⟩
      rw [k3]
      cases f with
      | false => rfl
      | true =>
        obtain ⟨rfl, rfl⟩ := g rfl
        rfl

theorem EdfJudges_law (l0 : List SJob) (ok0 : ∀ y ∈ l0, Ok.ok y) : ∃ K, EdfJudges.f K l0 = some true := by
  refine ⟨18446744073709551616, ?_⟩
  have ha : punctualref_JudgeOf.f 18446744073709551616 [⟨0, 1, 2, 4, 0⟩, ⟨0, 2, 2, 4, 0⟩] = some (1, 4, ⟨13, 0⟩) := by kernel_rfl
  generalize hKd : 18446744073709551616 = K at ha ⊢
  have hK : 30000 ≤ K := by omega
  have hp0 : EdfJudges.p0 K = some (.inl ()) := by
    obtain ⟨r, e1, e2⟩ := Judge_same [⟨0, 1, 2, 4, 0⟩, ⟨0, 2, 2, 4, 0⟩] K (by omega)
    rw [ha] at e2
    cases e2
    unfold EdfJudges.p0
    rw [e1]
    rfl
  unfold EdfJudges.f
  rw [hp0]
  simp only
  have hp1 : EdfJudges.p1 l0 = some (.inr true) ∨ (EdfJudges.p1 l0 = some (.inl ()) ∧ few.f (l0.length : Int) = true) := by
    unfold EdfJudges.p1
    repeat' split
    all_goals first | exact .inl rfl | exact .inr ⟨rfl, by assumption⟩
  rcases hp1 with hp1 | ⟨hp1, f0⟩
  · simp only [hp1]
  have g0 := few_true f0
  obtain ⟨r0, e0⟩ := punctualsame_Lend_api_Job_some l0 ⟨(-9), 0, 0, 0, 0⟩ g0
  obtain ⟨r, e1, e2⟩ := Judge_same l0 K (by omega)
  simp only [hp1, e0, e1, e2, SFault.eqb_self, if_true, punctualsame_Still_api_Job_true l0 _ K g0 (by omega)]

end Go.Proofs.YtlipdmblinjjaaaDoor.GV
