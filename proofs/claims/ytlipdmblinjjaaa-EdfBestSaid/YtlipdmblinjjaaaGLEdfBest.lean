/- Plain words: GvLEdfBest. -/
import Derived.Test.YtlipdmblinjjaaaGWEdfBest3
import Derived.Test.YtlipdmblinjjaaaGv17
namespace Go.Proofs.Ytlipdmblinjjaaa.GV
open Go Go.RowKit
set_option linter.unusedVariables false
set_option linter.unusedSimpArgs false
theorem SFault.eqb_self (x : SFault) : SFault.eqb x x = true := by simp [SFault.eqb]
theorem SJob.eqb_self (x : SJob) : SJob.eqb x x = true := by simp [SJob.eqb]
theorem punctualsame_Same_int_self (l : List Int) (K : Nat) (hK : l.length < K) : punctualsame_Same_int.f K l l = some true := by
  have hr := iter_first0 (f := punctualsame_Same_int.r0 l l) (fun _ => none) l.length (t := ()) (fun i hi => by
    have h' : (i : Int) < (l.length : Int) := by omega
    simp only [punctualsame_Same_int.r0, if_pos h', List.getElem?_eq_getElem hi, if_true, onward]) (by
    have h' : ¬ (l.length : Int) < (l.length : Int) := by omega
    simp only [punctualsame_Same_int.r0, if_neg h']) hK
  rw [firstOf_none_of (fun _ _ _ => rfl)] at hr
  simp only [punctualsame_Same_int.f, if_true, hr, leave]
theorem exists_bound {α : Type} (f : α → Nat) : ∀ l : List α, ∃ B, ∀ x ∈ l, f x ≤ B
  | [] => ⟨0, by simp⟩
  | x :: l => by
    obtain ⟨B, h⟩ := exists_bound f l
    refine ⟨max (f x) B, fun y hy => ?_⟩
    rcases List.mem_cons.1 hy with rfl | hy
    · exact Nat.le_max_left _ _
    · exact Nat.le_trans (h y hy) (Nat.le_max_right _ _)
/-- a letter stands there -/
def letterAt (x : ByteArray) (i : Nat) : Bool := match x[i]? with | some b => decide (97 ≤ b.toNat) && decide (b.toNat ≤ 122) | none => false
def allL (x : ByteArray) (n : Nat) : Bool := (List.range n).all (letterAt x)
theorem allL_succ (x : ByteArray) (n : Nat) : allL x (n + 1) = (allL x n && letterAt x n) := by simp [allL, List.range_succ]
theorem allL_iff {x : ByteArray} {n : Nat} : allL x n = true ↔ ∀ i, i < n → letterAt x i = true := by simp [allL]
def Good (x : ByteArray) : Prop := 1 ≤ x.size ∧ x.size ≤ 10 ∧ allL x x.size = true
instance (x : ByteArray) : Decidable (Good x) := by unfold Good; infer_instance
theorem get!_of {x : ByteArray} {i : Nat} {b : UInt8} (h : x[i]? = some b) : x.get! i = b := by
  have hi : i < x.size := by
    rcases Nat.lt_or_ge i x.size with h' | h'
    · exact h'
    · rw [getElem?_neg x i (by omega)] at h; cases h
  rw [getElem?_pos x i hi] at h
  have := Option.some.inj h
  rw [← this]
  cases x with
  | mk bs => exact getElem!_pos bs i hi
theorem byte_some {x : ByteArray} {i : Nat} (h : i < x.size) : ∃ b, x[i]? = some b := ⟨x[i], getElem?_pos x i h⟩
theorem decode_letter {x : ByteArray} {i : Nat} (hi : i < x.size) (h : letterAt x i = true) : ∃ n : Nat, Utf8.decode x i = (n, 1) ∧ 97 ≤ n ∧ n ≤ 122 := by
  obtain ⟨b, hb⟩ := byte_some hi
  simp only [letterAt, hb, Bool.and_eq_true, decide_eq_true_eq] at h
  refine ⟨b.toNat, ?_, h⟩
  have := get!_of hb
  simp only [Utf8.decode, Nat.add_zero, this]
  rw [if_pos (by omega)]
theorem decode_other {x : ByteArray} {i : Nat} (hi : i < x.size) (h : letterAt x i = false) : (Utf8.decode x i).1 < 97 ∨ 122 < (Utf8.decode x i).1 := by
  obtain ⟨b, hb⟩ := byte_some hi
  simp only [letterAt, hb, Bool.and_eq_false_iff, decide_eq_false_iff_not] at h
  have := get!_of hb
  simp only [Utf8.decode, Nat.add_zero, this]
  have he : Utf8.runeError = 65533 := rfl
  repeat' split
  all_goals simp only [he, Bool.and_eq_true, decide_eq_true_eq, ge_iff_le] at *
  all_goals omega
theorem takedrop {α : Type} (l : List α) (i : Nat) : (l.take i).drop 0 = l.take i := by simp
theorem iter_succ {σ ρ : Type} (f : σ → Option (σ ⊕ ρ)) (K : Nat) (s : σ) : iter f (K + 1) s = match f s with | none => none | some (.inl s') => iter f K s' | some (.inr r) => some r := rfl
theorem getD_leave {ρ : Type} (o : Option ρ) (d : ρ) : (match leave (τ := Unit) () o with | .inl _ => d | .inr r => r) = o.getD d := by cases o <;> rfl
/-- a over b, rounded up -/
def ceilD (a b : Int) : Int := (a + b - 1) / b
theorem ceilD_mono {a a' b : Int} (hb : 1 ≤ b) (h : a ≤ a') : ceilD a b ≤ ceilD a' b := Int.ediv_le_ediv (by omega) (by omega)
theorem ceilD_nonneg {a b : Int} (hb : 1 ≤ b) (h : 0 ≤ a) : 0 ≤ ceilD a b := Int.ediv_nonneg (by omega) (by omega)
theorem ceilD_le {a b : Int} (hb : 1 ≤ b) (h : 0 ≤ a) : ceilD a b ≤ a := by
  unfold ceilD
  rw [← Int.lt_add_one_iff]
  apply Int.ediv_lt_of_lt_mul (by omega)
  have : a * 1 ≤ a * b := Int.mul_le_mul_of_nonneg_left hb h
  rw [Int.add_mul]
  omega
/-- the least n, 1 at least, in which all is done that is wanted; 0: there is none up to most -/
def settled (f : Int → Int) (most : Int) : Int := match firstOf (fun n : Nat => if f n ≤ n then some (n : Int) else none) (most.toNat + 1) 1 with
  | some n => n
  | none => 0
theorem settled_some {f : Int → Int} {most : Int} {j : Nat} (h : firstOf (fun n : Nat => if f n ≤ n then some (n : Int) else none) (most.toNat + 1) 1 = some (j : Int)) : settled f most = j := by unfold settled; rw [h]
theorem settled_none {f : Int → Int} {most : Int} (h : firstOf (fun n : Nat => if f n ≤ n then some (n : Int) else none) (most.toNat + 1) 1 = none) : settled f most = 0 := by unfold settled; rw [h]
theorem settled_pos {f : Int → Int} {most : Int} (h : settled f most ≠ 0) : 1 ≤ settled f most ∧ settled f most ≤ most ∧ f (settled f most) ≤ settled f most ∧ ∀ n : Int, 1 ≤ n → n < settled f most → n < f n := by
  cases hf : firstOf (fun n : Nat => if f n ≤ n then some (n : Int) else none) (most.toNat + 1) 1 with
  | none => exact absurd (settled_none hf) h
  | some r =>
    obtain ⟨j, h1, h2, h3, h4⟩ := firstOf_some hf
    split at h3
    · cases h3
      rw [settled_some hf]
      refine ⟨by omega, by omega, by assumption, fun n hn1 hn2 => ?_⟩
      have := h4 n.toNat (by omega) (by omega)
      have e : ((n.toNat : Nat) : Int) = n := Int.toNat_of_nonneg (by omega)
      simp only [e] at this
      split at this
      · cases this
      · omega
    · cases h3
theorem settled_zero {f : Int → Int} {most : Int} (h : settled f most = 0) : ∀ n : Int, 1 ≤ n → n ≤ most → n < f n := by
  cases hf : firstOf (fun n : Nat => if f n ≤ n then some (n : Int) else none) (most.toNat + 1) 1 with
  | some r =>
    obtain ⟨j, h1, h2, h3, h4⟩ := firstOf_some hf
    split at h3
    · cases h3; rw [settled_some hf] at h; omega
    · cases h3
  | none =>
    intro n h1 h2
    have := firstOf_none hf n.toNat (by omega) (by omega)
    have e : ((n.toNat : Nat) : Int) = n := Int.toNat_of_nonneg (by omega)
    simp only [e] at this
    split at this
    · cases this
    · omega
theorem settled_eq {f : Int → Int} {most w : Int} (h1 : 1 ≤ w) (h2 : w ≤ most) (h3 : f w ≤ w) (h4 : ∀ n : Int, 1 ≤ n → n < w → n < f n) : settled f most = w := by
  by_cases h : settled f most = 0
  · have := settled_zero h w h1 h2; omega
  · obtain ⟨g1, g2, g3, g4⟩ := settled_pos h
    rcases Int.lt_trichotomy (settled f most) w with hl | hl | hl
    · have := h4 _ g1 hl; omega
    · exact hl
    · have := g4 _ h1 hl; omega
theorem settled_eq_zero {f : Int → Int} {most : Int} (h : ∀ n : Int, 1 ≤ n → n ≤ most → n < f n) : settled f most = 0 := by
  apply Decidable.byContradiction
  intro hne
  obtain ⟨g1, g2, g3, g4⟩ := settled_pos hne
  have := h _ g1 g2
  omega
theorem gmax_eq (x y : Int) : gmax x y = max x y := by unfold gmax; omega
theorem gmin_eq (x y : Int) : gmin x y = min x y := by unfold gmin; omega

/-- what is wrong with the i-th job that is played -/
def playAt (l : List SJob) (i : Nat) : Option SFault := match l[i]? with
  | some e => if e.At < 0 ∨ e.At > 60000 ∨ e.C < 1 ∨ e.C > 10000 ∨ e.Due < 0 ∨ e.Due > 80000 then some ⟨3, (i : Int)⟩ else none
  | none => none
def playFault (l : List SJob) : SFault := if l.length > 4000 then ⟨2, 0⟩ else (firstOf (playAt l) l.length 0).getD ⟨0, 0⟩
theorem schedCheck_eq (l : List SJob) (K : Nat) (hK : 4010 ≤ K) : sched_Check.f K l = some (playFault l) := by
  unfold sched_Check.f playFault
  by_cases hl : (l.length : Int) > 4000
  · rw [if_pos hl, if_pos (by omega)]
  rw [if_neg hl, if_neg (by omega)]
  have hr := iter_first0 (f := sched_Check.r0 l) (playAt l) l.length (t := ()) (fun i hi => by
    have hi' : (i : Int) < (l.length : Int) := by omega
    simp only [sched_Check.r0, if_pos hi', List.getElem?_eq_getElem hi, playAt]
    generalize l[i] = e
    by_cases h : e.At < 0 ∨ e.At > 60000 ∨ e.C < 1 ∨ e.C > 10000 ∨ e.Due < 0 ∨ e.Due > 80000
    · rw [if_pos h]
      repeat' split
      all_goals first | rfl | omega
    · rw [if_neg h]
      rw [if_neg (by omega), if_neg (by omega), if_neg (by omega), if_neg (by omega), if_neg (by omega), if_neg (by omega)]
      rfl) (by simp [sched_Check.r0]) (K := K) (by omega)
  rw [hr]
  cases firstOf (playAt l) l.length 0 <;> rfl
structure Okj (e : SJob) : Prop where
  At : 0 ≤ e.At ∧ e.At ≤ 60000
  C : 1 ≤ e.C ∧ e.C ≤ 10000
  Due : 0 ≤ e.Due ∧ e.Due ≤ 80000
theorem playFault_ok {l : List SJob} (h : (playFault l).Code = 0) : l.length ≤ 4000 ∧ playFault l = ⟨0, 0⟩ ∧ ∀ e ∈ l, Okj e := by
  unfold playFault at h ⊢
  split at h
  · cases h
  rename_i hl
  cases hf : firstOf (playAt l) l.length 0 with
  | none =>
    refine ⟨by omega, by rw [if_neg hl]; rfl, fun e he => ?_⟩
    obtain ⟨i, hi⟩ := List.mem_iff_getElem?.1 he
    have := firstOf_none hf i (Nat.zero_le _) (lt_of_get hi)
    simp only [playAt, hi] at this
    split at this
    · cases this
    · exact ⟨by omega, by omega, by omega⟩
  | some r =>
    rw [hf] at h
    obtain ⟨j, _, hj, hg, _⟩ := firstOf_some hf
    exfalso
    simp only [playAt, List.getElem?_eq_getElem hj] at hg
    split at hg
    · cases hg; cases h
    · cases hg
theorem playFault_of {l : List SJob} (hl : l.length ≤ 4000) (h : ∀ e ∈ l, Okj e) : playFault l = ⟨0, 0⟩ := by
  unfold playFault
  rw [if_neg (by omega), firstOf_none_of]
  · rfl
  · intro j _ hj
    have he := h l[j] (List.getElem_mem hj)
    have := he.At; have := he.C; have := he.Due
    simp only [playAt, List.getElem?_eq_getElem hj]
    rw [if_neg (by omega)]
/-- job a goes ahead of job b, by a policy, then by their times -/
def aheadJ (p : Int) (a b : SJob) : Prop := if p = 1 then a.P > b.P ∨ (a.P = b.P ∧ a.At < b.At) else a.Due < b.Due ∨ (a.Due = b.Due ∧ a.At < b.At)
instance (p : Int) (a b : SJob) : Decidable (aheadJ p a b) := by unfold aheadJ; infer_instance
theorem compare_eq (x y : Int) : cmp_Compare_int.f x y = if x < y then -1 else if x > y then 1 else 0 := by simp [cmp_Compare_int.f, cmp_isNaN_int.f]
theorem or2_eq (x y : Int) (K : Nat) (hK : 3 ≤ K) : cmp_Or_int.f K [x, y] = some (if x = 0 then y else x) := by
  obtain ⟨K, rfl⟩ : ∃ k, K = k + 3 := ⟨K - 3, by omega⟩
  simp only [cmp_Or_int.f, iter, cmp_Or_int.r0]
  by_cases hx : x = 0 <;> by_cases hy : y = 0 <;> simp [hx, hy]
/-- can it run at t? -/
def canJ (jobs : List SJob) (left : List Int) (t : Int) (i : Nat) : Prop := match jobs[i]?, left[i]? with
  | some j, some x => j.At ≤ t ∧ 0 < x
  | _, _ => False
instance (jobs : List SJob) (left : List Int) (t : Int) (i : Nat) : Decidable (canJ jobs left t i) := by unfold canJ; split <;> infer_instance
/-- the first of the first n -/
def firstTo (p : Int) (jobs : List SJob) (left : List Int) (t : Int) : Nat → Int
  | 0 => -1
  | n + 1 =>
    let b := firstTo p jobs left t n
    if canJ jobs left t n then
      (if b < 0 then (n : Int) else match jobs[n]?, jobs[b.toNat]? with
        | some x, some y => if aheadJ p x y then (n : Int) else b
        | _, _ => b)
    else b
theorem firstTo_cases (p : Int) (jobs : List SJob) (left : List Int) (t : Int) : ∀ n, n ≤ jobs.length → (firstTo p jobs left t n = -1 ∧ ∀ i, i < n → ¬ canJ jobs left t i) ∨
    (∃ (b : Nat) (y : SJob), firstTo p jobs left t n = (b : Int) ∧ b < n ∧ jobs[b]? = some y ∧ canJ jobs left t b ∧ ∀ i x, i < n → jobs[i]? = some x → canJ jobs left t i → ¬ aheadJ p x y ∧ (i < b → aheadJ p y x))
  | 0, _ => .inl ⟨rfl, fun i h => by omega⟩
  | n + 1, hn => by
    have hnx : jobs[n]? = some jobs[n] := List.getElem?_eq_getElem (by omega)
    generalize jobs[n] = x at hnx
    have irr : ∀ x : SJob, ¬ aheadJ p x x := fun x h => by unfold aheadJ at h; split at h <;> omega
    have tr : ∀ x y z : SJob, aheadJ p x y → ¬ aheadJ p z y → ¬ aheadJ p z x := fun x y z h k hh => by
      unfold aheadJ at h k hh; split at h <;> simp_all <;> omega
    have tr2 : ∀ x y z : SJob, aheadJ p x y → aheadJ p y z → aheadJ p x z := fun x y z h k => by
      unfold aheadJ at h k ⊢; split at h <;> simp_all <;> omega
    have tr3 : ∀ x y z : SJob, aheadJ p x y → ¬ aheadJ p z y → aheadJ p x z := fun x y z h k => by
      unfold aheadJ at h k ⊢; split at h <;> simp_all <;> omega
    rcases firstTo_cases p jobs left t n (by omega) with ⟨h1, h2⟩ | ⟨b, y, h1, h2, h3, h4, h5⟩
    · by_cases hc : canJ jobs left t n
      · right
        refine ⟨n, x, by simp only [firstTo, if_pos hc, h1]; rfl, by omega, hnx, hc, fun i z hi hz hcz => ?_⟩
        by_cases hin : i = n
        · subst hin; rw [hnx] at hz; cases hz; exact ⟨irr _, fun h => by omega⟩
        · exact absurd hcz (h2 i (by omega))
      · left
        refine ⟨by simp only [firstTo, if_neg hc, h1], fun i hi => ?_⟩
        by_cases hin : i = n
        · subst hin; exact hc
        · exact h2 i (by omega)
    · right
      by_cases hc : canJ jobs left t n
      · by_cases ha : aheadJ p x y
        · refine ⟨n, x, by simp only [firstTo, if_pos hc, h1, Int.toNat_natCast, hnx, h3, if_pos ha]; rw [if_neg (by omega)], by omega, hnx, hc, fun i z hi hz hcz => ?_⟩
          by_cases hin : i = n
          · subst hin; rw [hnx] at hz; cases hz; exact ⟨irr _, fun h => by omega⟩
          · obtain ⟨g1, g2⟩ := h5 i z (by omega) hz hcz
            exact ⟨tr x y z ha g1, fun _ => tr3 x y z ha g1⟩
        · refine ⟨b, y, by simp only [firstTo, if_pos hc, h1, Int.toNat_natCast, hnx, h3, if_neg ha]; rw [if_neg (by omega)], by omega, h3, h4, fun i z hi hz hcz => ?_⟩
          by_cases hin : i = n
          · subst hin; rw [hnx] at hz; cases hz; exact ⟨ha, fun h => by omega⟩
          · exact h5 i z (by omega) hz hcz
      · refine ⟨b, y, by simp only [firstTo, if_neg hc, h1], by omega, h3, h4, fun i z hi hz hcz => ?_⟩
        by_cases hin : i = n
        · subst hin; exact absurd hcz hc
        · exact h5 i z (by omega) hz hcz
theorem can_eq (jobs : List SJob) (left : List Int) (t : Int) (i : Nat) (hi : i < jobs.length) (hl : left.length = jobs.length) : sched_Play_1.f (i : Int) jobs t left = some (decide (canJ jobs left t i)) := by
  have h1 : jobs[i]? = some jobs[i] := List.getElem?_eq_getElem hi
  have h2 : left[i]? = some (left[i]'(by omega)) := List.getElem?_eq_getElem (by omega)
  simp only [sched_Play_1.f, Int.toNat_natCast, h1, h2, canJ]
  rw [if_pos (by omega)]
  by_cases h : jobs[i].At ≤ t
  · simp [h]
  · simp [h]
theorem First_eq (p : Int) (hp : p = 1 ∨ p = 2) (jobs : List SJob) (left : List Int) (t : Int) (hl : left.length = jobs.length) (K : Nat) (hK : jobs.length + 5 ≤ K) : sched_First.f K jobs jobs t left p = some (firstTo p jobs left t jobs.length) := by
  unfold sched_First.f
  have hr := iter_states (ρ := Int) (f := sched_First.r0 K jobs jobs t left p) (fun i => (firstTo p jobs left t i, i)) (fun _ => none) jobs.length (t := firstTo p jobs left t jobs.length) (fun i hi _ => by
    have hi' : (i : Int) < (jobs.length : Int) := by omega
    have h1 : jobs[i]? = some jobs[i] := List.getElem?_eq_getElem hi
    simp only [sched_First.r0, if_pos hi', h1, can_eq jobs left t i hi hl, decide_eq_true_eq, onwardS]
    by_cases hc : canJ jobs left t i
    · rw [if_pos hc]
      rcases firstTo_cases p jobs left t i (by omega) with ⟨g1, _⟩ | ⟨b, y, g1, g2, g3, _, _⟩
      · rw [g1, if_pos (by omega)]
        simp only [firstTo, if_pos hc, g1]
        rfl
      · rw [g1, if_neg (by omega), if_pos (by omega)]
        simp only [Int.toNat_natCast, g3]
        have e1 : firstTo p jobs left t (i + 1) = if aheadJ p jobs[i] y then (i : Int) else (b : Int) := by
          simp only [firstTo, if_pos hc, g1, Int.toNat_natCast, h1, g3]
          rw [if_neg (by omega)]
        rw [e1]
        rcases hp with rfl | rfl
        · simp [sched_rule.f, or2_eq _ _ K (show 3 ≤ K by omega), sched_byPriority.f, compare_eq, aheadJ]
          repeat' split
          all_goals first | rfl | (exfalso; omega) | simp_all
        · simp [sched_rule.f, or2_eq _ _ K (show 3 ≤ K by omega), sched_byDue.f, compare_eq, aheadJ]
          repeat' split
          all_goals first | rfl | (exfalso; omega) | simp_all
    · rw [if_neg hc]
      simp only [firstTo, if_neg hc]) (fun _ => by simp [sched_First.r0]) (K := K) (by omega)
  have h0 : firstTo p jobs left t 0 = -1 := rfl
  rw [h0, firstOf_none_of (fun _ _ _ => rfl)] at hr
  rw [hr]; rfl

theorem getD_of {l : List Int} {i : Nat} {x : Int} (h : l[i]? = some x) : l.getD i 0 = x := by simp [List.getD, h]
theorem get_of_lt {l : List Int} {i : Nat} (h : i < l.length) : l[i]? = some (l.getD i 0) := by simp [List.getD, h]
theorem getD_set (l : List Int) (i j : Nat) (x : Int) (hi : i < l.length) : (l.set i x).getD j 0 = if i = j then x else l.getD j 0 := by
  simp only [List.getD, List.getElem?_set]
  by_cases h : i = j
  · subst h; simp [hi]
  · simp [h]
def atN (jobs : List SJob) (j : Nat) : Nat := match jobs[j]? with | some e => e.At.toNat | none => 0
def costOf (jobs : List SJob) (j : Nat) : Int := (jobs.map (·.C)).getD j 0
theorem costOf_some {jobs : List SJob} {j : Nat} {e : SJob} (h : jobs[j]? = some e) : costOf jobs j = e.C := by simp [costOf, List.getD, h]
theorem atN_some {jobs : List SJob} {j : Nat} {e : SJob} (h : jobs[j]? = some e) : atN jobs j = e.At.toNat := by simp [atN, h]

/-- who runs in a tick -/
def nowOf (p : Int) (pre : Bool) (jobs : List SJob) (t : Int) (now : Int) (left : List Int) : Int :=
  if pre = true ∨ now < 0 ∨ left.getD now.toNat 0 = 0 then firstTo p jobs left t jobs.length else now
/-- one tick -/
def tickP (p : Int) (pre : Bool) (jobs : List SJob) (t : Int) (s : Int × List Int × List Int) : Int × List Int × List Int :=
  let b := nowOf p pre jobs t s.1 s.2.1
  if b < 0 then (b, s.2.1, s.2.2)
  else
    let left' := s.2.1.set b.toNat (s.2.1.getD b.toNat 0 - 1)
    (b, left', if left'.getD b.toNat 0 = 0 then s.2.2.set b.toNat (t + 1) else s.2.2)
/-- how it stands behind so many ticks: who ran last, what is left, the ends -/
def simP (p : Int) (pre : Bool) (jobs : List SJob) : Nat → Int × List Int × List Int
  | 0 => (-1, jobs.map (·.C), List.replicate jobs.length (-1))
  | t + 1 => tickP p pre jobs (t : Int) (simP p pre jobs t)
/-- what is left of job j behind t ticks -/
def leftP (p : Int) (pre : Bool) (jobs : List SJob) (t j : Nat) : Int := (simP p pre jobs t).2.1.getD j 0
def endP (p : Int) (pre : Bool) (jobs : List SJob) (t j : Nat) : Int := (simP p pre jobs t).2.2.getD j 0
/-- who runs in tick t -/
def runP (p : Int) (pre : Bool) (jobs : List SJob) (t : Nat) : Int := (simP p pre jobs (t + 1)).1
structure SimOk (jobs : List SJob) (s : Int × List Int × List Int) : Prop where
  left : s.2.1.length = jobs.length
  ends : s.2.2.length = jobs.length
  now : s.1 = -1 ∨ ∃ b : Nat, s.1 = (b : Int) ∧ b < jobs.length
  nonneg : ∀ j, 0 ≤ s.2.1.getD j 0
  small : ∀ j, s.2.1.getD j 0 ≤ 10000
theorem nowOf_cases {p : Int} {pre : Bool} {jobs : List SJob} {s : Int × List Int × List Int} (h : SimOk jobs s) (t : Int) : (nowOf p pre jobs t s.1 s.2.1 = -1) ∨
    ∃ b : Nat, nowOf p pre jobs t s.1 s.2.1 = (b : Int) ∧ b < jobs.length ∧ 0 < s.2.1.getD b 0 := by
  unfold nowOf
  by_cases hc : pre = true ∨ s.1 < 0 ∨ s.2.1.getD s.1.toNat 0 = 0
  · rw [if_pos hc]
    rcases firstTo_cases p jobs s.2.1 t jobs.length (Nat.le_refl _) with ⟨h1, _⟩ | ⟨b, y, h1, h2, h3, h4, _⟩
    · exact .inl h1
    · refine .inr ⟨b, h1, h2, ?_⟩
      have hb : s.2.1[b]? = some (s.2.1.getD b 0) := get_of_lt (by rw [h.left]; exact h2)
      unfold canJ at h4
      rw [h3, hb] at h4
      exact h4.2
  · rw [if_neg hc]
    rcases h.now with h1 | ⟨b, h1, h2⟩
    · exact .inl h1
    · refine .inr ⟨b, h1, h2, ?_⟩
      have h3 : ¬ s.2.1.getD b 0 = 0 := fun h' => hc (.inr (.inr (by rw [h1]; exact h')))
      have := h.nonneg b
      omega
theorem tickP_ok {p : Int} {pre : Bool} {jobs : List SJob} {s : Int × List Int × List Int} (h : SimOk jobs s) (t : Int) : SimOk jobs (tickP p pre jobs t s) := by
  unfold tickP
  rcases nowOf_cases (p := p) (pre := pre) h t with h1 | ⟨b, h1, h2, h3⟩
  · simp only [h1]
    rw [if_pos (by omega)]
    exact ⟨h.left, h.ends, .inl rfl, h.nonneg, h.small⟩
  · simp only [h1, Int.toNat_natCast]
    rw [if_neg (by omega)]
    have hbl : b < s.2.1.length := by rw [h.left]; exact h2
    refine ⟨by simp [h.left], ?_, .inr ⟨b, rfl, h2⟩, fun j => ?_, fun j => ?_⟩
    · simp only
      split <;> simp [h.ends]
    · rw [getD_set _ _ _ _ hbl]
      split
      · omega
      · exact h.nonneg j
    · rw [getD_set _ _ _ _ hbl]
      have := h.small b
      split
      · omega
      · exact h.small j
theorem simP_ok (p : Int) (pre : Bool) {jobs : List SJob} (hj : ∀ e ∈ jobs, Okj e) : ∀ t, SimOk jobs (simP p pre jobs t)
  | 0 => by
    have key : ∀ j, 0 ≤ (jobs.map (·.C)).getD j 0 ∧ (jobs.map (·.C)).getD j 0 ≤ 10000 := fun j => by
      simp only [List.getD, List.getElem?_map]
      cases hx : jobs[j]? with
      | none => simp
      | some e => have := (hj e (List.mem_of_getElem? hx)).C; simp; omega
    exact ⟨by simp [simP], by simp [simP], .inl rfl, fun j => (key j).1, fun j => (key j).2⟩
  | t + 1 => tickP_ok (simP_ok p pre hj t) _
def runsTill (p : Int) (pre : Bool) (jobs : List SJob) (n t : Nat) : List Int := (List.range n).map fun s => if s < t then runP p pre jobs s else 0
theorem Sched_p5_eq (p : Int) (hp : p = 1 ∨ p = 2) (pre : Bool) (jobs : List SJob) (t : Int) (s : Int × List Int × List Int) (h : SimOk jobs s) (K : Nat) (hK : jobs.length + 5 ≤ K) : sched_Play.p5 K jobs p pre s.1 t s.2.1 = some (.inl (nowOf p pre jobs t s.1 s.2.1)) := by
  have hF := First_eq p hp jobs s.2.1 t h.left K hK
  unfold sched_Play.p5 nowOf
  by_cases h1 : pre = true
  · rw [if_pos h1, if_pos (.inl h1), hF]
  rw [if_neg h1]
  by_cases h2 : s.1 < 0
  · rw [if_pos h2, if_pos (.inr (.inl h2)), hF]
  rw [if_neg h2, if_pos (by omega)]
  rcases h.now with h3 | ⟨b, h3, h4⟩
  · omega
  · have hb : s.2.1[s.1.toNat]? = some (s.2.1.getD s.1.toNat 0) := get_of_lt (by rw [h.left, h3]; simpa using h4)
    rw [hb]
    simp only
    by_cases h5 : s.2.1.getD s.1.toNat 0 = 0
    · rw [if_pos h5, if_pos (.inr (.inr h5)), hF]
    · rw [if_neg h5, if_neg]
      rintro (h6 | h6 | h6)
      · exact h1 h6
      · exact h2 h6
      · exact h5 h6
theorem Play_r4_eq (p : Int) (hp : p = 1 ∨ p = 2) (pre : Bool) (jobs : List SJob) (hj : ∀ e ∈ jobs, Okj e) (n : Nat) (hn : n ≤ 20000) (K : Nat) (hK : jobs.length + 5 ≤ K) (hK2 : n < K) :
    iter (sched_Play.r4 K jobs p pre (n : Int)) K ((-1), 0, jobs.map (·.C), List.replicate n 0, List.replicate jobs.length (-1)) = some (.inl (runsTill p pre jobs n n, (simP p pre jobs n).2.2)) := by
  have hr := iter_states (ρ := SPlayed × SFault) (f := sched_Play.r4 K jobs p pre (n : Int)) (fun i => ((simP p pre jobs i).1, (i : Int), (simP p pre jobs i).2.1, runsTill p pre jobs n i, (simP p pre jobs i).2.2)) (fun _ => none) n (t := (runsTill p pre jobs n n, (simP p pre jobs n).2.2)) (fun i hi _ => by
    have hi' : (i : Int) < (n : Int) := by omega
    have hok := simP_ok p pre hj i
    have hw : IntKind.i64.wrap ((i : Int) + 1) = ((i + 1 : Nat) : Int) := by rw [wrap64_small (by omega) (by omega)]; rfl
    have hrl : (runsTill p pre jobs n i).length = n := by simp [runsTill]
    have hri : (runsTill p pre jobs n i)[i]? = some 0 := by simp [runsTill, hi]
    have hset : ∀ b : Int, runP p pre jobs i = b → (runsTill p pre jobs n i).set i b = runsTill p pre jobs n (i + 1) := fun b hb => by
      apply List.ext_getElem?
      intro q
      rw [List.getElem?_set, hrl]
      by_cases hq : i = q
      · subst hq
        rw [if_pos rfl, if_pos hi]
        simp [runsTill, hi, hb]
      · rw [if_neg hq]
        simp only [runsTill, List.getElem?_map]
        by_cases hqn : q < n
        · rw [List.getElem?_range hqn]
          simp only [Option.map_some]
          by_cases hqi : q < i
          · rw [if_pos hqi, if_pos (by omega)]
          · rw [if_neg hqi, if_neg (by omega)]
        · rw [List.getElem?_eq_none (by simp; omega)]; rfl
    simp only [sched_Play.r4, if_pos hi', Sched_p5_eq p hp pre jobs (i : Int) _ hok K hK, if_pos (show (0 : Int) ≤ (i : Int) by omega), Int.toNat_natCast, hri, hw, onwardS]
    have hs : simP p pre jobs (i + 1) = tickP p pre jobs (i : Int) (simP p pre jobs i) := rfl
    have hrun : runP p pre jobs i = (tickP p pre jobs (i : Int) (simP p pre jobs i)).1 := rfl
    rcases nowOf_cases (p := p) (pre := pre) hok (i : Int) with h1 | ⟨b, h1, h2, h3⟩
    · rw [h1, if_pos (by omega)]
      have ht : tickP p pre jobs (i : Int) (simP p pre jobs i) = (-1, (simP p pre jobs i).2.1, (simP p pre jobs i).2.2) := by
        unfold tickP; simp only [h1]; rw [if_pos (by omega)]
      rw [hset (-1) (by rw [hrun, ht]), hs, ht]
    · rw [h1, if_neg (by omega), if_pos (by omega)]
      have hbl : b < (simP p pre jobs i).2.1.length := by rw [hok.left]; exact h2
      have hbe : b < (simP p pre jobs i).2.2.length := by rw [hok.ends]; exact h2
      have hsm := hok.small b
      have hw2 : IntKind.i64.wrap ((simP p pre jobs i).2.1.getD b 0 - 1) = (simP p pre jobs i).2.1.getD b 0 - 1 := wrap64_small (by omega) (by omega)
      have hget : ((simP p pre jobs i).2.1.set b ((simP p pre jobs i).2.1.getD b 0 - 1))[b]? = some ((simP p pre jobs i).2.1.getD b 0 - 1) := by simp [hbl]
      simp only [Int.toNat_natCast, get_of_lt hbl, hw2, hget, get_of_lt hbe]
      have ht : tickP p pre jobs (i : Int) (simP p pre jobs i) = ((b : Int), (simP p pre jobs i).2.1.set b ((simP p pre jobs i).2.1.getD b 0 - 1), if (simP p pre jobs i).2.1.getD b 0 - 1 = 0 then (simP p pre jobs i).2.2.set b ((i : Int) + 1) else (simP p pre jobs i).2.2) := by
        unfold tickP
        simp only [h1, Int.toNat_natCast]
        rw [if_neg (by omega), getD_set _ _ _ _ hbl, if_pos rfl]
      rw [hset (b : Int) (by rw [hrun, ht]), hs, ht]
      by_cases h0 : (simP p pre jobs i).2.1.getD b 0 - 1 = 0
      · rw [if_pos h0]
        simp only [if_pos h0]
        rfl
      · rw [if_neg h0]
        simp only [if_neg h0]) (fun _ => by simp [sched_Play.r4]) (K := K) hK2
  rw [firstOf_none_of (fun _ _ _ => rfl)] at hr
  have h0 : runsTill p pre jobs n 0 = List.replicate n 0 := by
    apply List.ext_getElem
    · simp [runsTill]
    · intro i h1 h2; simp [runsTill]
  simp only [h0] at hr
  exact hr
/-- how jobs are played -/
def playOf (jobs : List SJob) (p : Int) (pre : Bool) (n : Int) : SPlayed × SFault :=
  if (playFault jobs).Code = 0 then
    (if p = 1 ∨ p = 2 then
      (if n < 0 ∨ n > 20000 then (⟨[], []⟩, ⟨3, 0⟩) else (⟨runsTill p pre jobs n.toNat n.toNat, (simP p pre jobs n.toNat).2.2⟩, ⟨0, 0⟩))
    else (⟨[], []⟩, ⟨6, 0⟩))
  else (⟨[], []⟩, playFault jobs)
theorem Play_eq (jobs : List SJob) (p : Int) (pre : Bool) (n : Int) (K : Nat) (hK : 20010 ≤ K) : sched_Play.f K jobs p pre n = some (playOf jobs p pre n) := by
  unfold sched_Play.f playOf
  rw [schedCheck_eq jobs K (by omega)]
  simp only
  by_cases hc : (playFault jobs).Code = 0
  · rw [if_pos hc, if_pos hc]
    obtain ⟨hl, _, hj⟩ := playFault_ok hc
    by_cases hp : p = 1 ∨ p = 2
    · have hp0 : sched_Play.p0 p = some (.inl ()) := by rcases hp with rfl | rfl <;> simp [sched_Play.p0, sched_rule.f]
      rw [hp0, if_pos hp]
      simp only
      by_cases hn : n < 0 ∨ n > 20000
      · have hp1 : sched_Play.p1 n = some (.inr (⟨[], []⟩, ⟨3, 0⟩)) := by
          unfold sched_Play.p1
          by_cases h1 : n < 0
          · rw [if_pos h1]
          · rw [if_neg h1, if_pos (by omega)]
        rw [hp1, if_pos hn]
      · have hp1 : sched_Play.p1 n = some (.inl ()) := by unfold sched_Play.p1; rw [if_neg (by omega), if_neg (by omega)]
        obtain ⟨m, rfl⟩ := Int.eq_ofNat_of_zero_le (show 0 ≤ n by omega)
        have hp2 : sched_Play.p2 jobs (m : Int) = some (.inl (List.replicate m 0, List.replicate jobs.length 0)) := by
          unfold sched_Play.p2
          simp only [Int.toNat_natCast]
          rw [if_pos (by omega), if_pos (by omega), if_pos (by omega)]
        rw [hp1, if_neg hn]
        simp only [hp2, Int.toNat_natCast]
        rw [if_pos (by omega)]
        have hr := iter_states (ρ := SPlayed × SFault) (f := sched_Play.r3 jobs) (fun i => (i, (List.range jobs.length).map (fun q => if q < i then (jobs.map (·.C)).getD q 0 else 0), (List.range jobs.length).map (fun q => if q < i then (-1 : Int) else 0))) (fun _ => none) jobs.length (t := (jobs.map (·.C), List.replicate jobs.length (-1))) (fun i hi _ => by
          have hi' : (i : Int) < (jobs.length : Int) := by omega
          simp only [sched_Play.r3, if_pos hi', List.getElem?_eq_getElem hi, onwardS, List.getElem?_map, List.getElem?_range hi, Option.map_some]
          congr 3
          refine Prod.ext ?_ ?_
          · apply List.ext_getElem?
            intro q
            simp only [List.getElem?_set, List.length_map, List.length_range, List.getElem?_map]
            by_cases hq : i = q
            · subst hq; simp [hi]
            · rw [if_neg hq]
              by_cases hqn : q < jobs.length
              · rw [List.getElem?_range hqn]
                simp only [Option.map_some]
                by_cases hqi : q < i
                · rw [if_pos hqi, if_pos (by omega)]
                · rw [if_neg hqi, if_neg (by omega)]
              · rw [List.getElem?_eq_none (by simp; omega)]; rfl
          · apply List.ext_getElem?
            intro q
            simp only [List.getElem?_set, List.length_map, List.length_range, List.getElem?_map]
            by_cases hq : i = q
            · subst hq; simp [hi]
            · rw [if_neg hq]
              by_cases hqn : q < jobs.length
              · rw [List.getElem?_range hqn]
                simp only [Option.map_some]
                by_cases hqi : q < i
                · rw [if_pos hqi, if_pos (by omega)]
                · rw [if_neg hqi, if_neg (by omega)]
              · rw [List.getElem?_eq_none (by simp; omega)]; rfl) (fun _ => by
          simp only [sched_Play.r3]
          rw [if_neg (by omega)]
          congr 4
          · apply List.ext_getElem
            · simp
            · intro q h1 h2
              have hq : q < jobs.length := by simpa using h1
              simp [hq]
          · apply List.ext_getElem
            · simp
            · intro q h1 h2
              have hq : q < jobs.length := by simpa using h1
              simp [hq]) (K := K) (by omega)
        rw [firstOf_none_of (fun _ _ _ => rfl)] at hr
        have e1 : (List.range jobs.length).map (fun q => if q < 0 then (jobs.map (·.C)).getD q 0 else 0) = List.replicate jobs.length (0 : Int) := by
          apply List.ext_getElem
          · simp
          · intro i h1 h2; simp
        have e2 : (List.range jobs.length).map (fun q => if q < 0 then (-1 : Int) else 0) = List.replicate jobs.length (0 : Int) := by
          apply List.ext_getElem
          · simp
          · intro i h1 h2; simp
        simp only [e1, e2] at hr
        rw [hr]
        simp only [leave, Play_r4_eq p hp pre jobs hj m (by omega) K (by omega) (by omega)]
    · have hp0 : sched_Play.p0 p = some (.inr (⟨[], []⟩, ⟨6, 0⟩)) := by
        unfold sched_Play.p0 sched_rule.f
        rw [if_neg (fun h => hp (.inl h)), if_neg (fun h => hp (.inr h)), if_pos rfl]
      rw [hp0, if_neg hp]
  · rw [if_neg hc, if_neg hc]
    rfl
/-- who isn't done when it is due -/
def lateAt (jobs : List SJob) (n : Nat) (ends : List Int) (i : Nat) : Bool := match jobs[i]?, ends[i]? with
  | some j, some e => decide (e > j.Due) || (decide (e < 0) && decide (j.Due ≤ (n : Int)))
  | _, _ => false
def lateTill (jobs : List SJob) (n : Nat) (ends : List Int) (k : Nat) : List Int := (List.range k).filterMap fun i => if lateAt jobs n ends i = true then some (i : Int) else none
theorem Late_eq (jobs : List SJob) (runs ends : List Int) (hl : jobs.length ≤ 5000) (K : Nat) (hK : 5010 ≤ K) : sched_Late.f K jobs runs ends = some (if ends.length = jobs.length then (lateTill jobs runs.length ends jobs.length, ⟨0, 0⟩) else ([], ⟨2, 0⟩)) := by
  unfold sched_Late.f
  by_cases h : (ends.length : Int) = (jobs.length : Int)
  · rw [if_pos h, if_pos (by omega)]
    have hr := iter_states (ρ := List Int × SFault) (f := sched_Late.r0 jobs runs ends) (fun i => (lateTill jobs runs.length ends i, i)) (fun _ => none) jobs.length (t := lateTill jobs runs.length ends jobs.length) (fun i hi _ => by
      have hi' : (i : Int) < (jobs.length : Int) := by omega
      have hie : i < ends.length := by omega
      have hlen : (lateTill jobs runs.length ends i).length < 17592186044416 := by
        have : (lateTill jobs runs.length ends i).length ≤ i := by unfold lateTill; exact Nat.le_trans (List.length_filterMap_le _ _) (by simp)
        omega
      have hs : lateTill jobs runs.length ends (i + 1) = lateTill jobs runs.length ends i ++ (if lateAt jobs runs.length ends i = true then [(i : Int)] else []) := by
        unfold lateTill
        rw [List.range_succ, List.filterMap_append]
        congr 1
        by_cases h : lateAt jobs runs.length ends i = true <;> simp [h]
      rw [hs]
      simp only [sched_Late.r0, if_pos hi', List.getElem?_eq_getElem hi, List.getElem?_eq_getElem hie, if_pos hlen, onwardS, lateAt]
      by_cases h1 : ends[i] > jobs[i].Due
      · rw [if_pos h1, if_pos (by simp; omega)]
      · rw [if_neg h1]
        by_cases h2 : ends[i] < 0
        · rw [if_pos h2]
          by_cases h3 : jobs[i].Due ≤ (runs.length : Int)
          · rw [if_pos h3, if_pos (by simp; omega)]
          · rw [if_neg h3, if_neg (by simp; omega), List.append_nil]
        · rw [if_neg h2, if_neg (by simp; omega), List.append_nil]) (fun _ => by simp [sched_Late.r0]) (K := K) (by omega)
    have h0 : lateTill jobs runs.length ends 0 = [] := rfl
    rw [h0, firstOf_none_of (fun _ _ _ => rfl)] at hr
    rw [hr]; rfl
  · rw [if_neg h, if_neg (by omega)]
theorem playOf_two : playOf [⟨0, 0, 3, 9, 1⟩, ⟨0, 1, 1, 3, 2⟩] 1 true 5 = (⟨[0, 1, 0, 0, -1], [4, 2]⟩, ⟨0, 0⟩) := by kernel_rfl
theorem runs_true (K : Nat) (hK : 20010 ≤ K) : runs.f K = some true := by
  unfold runs.f
  rw [Play_eq _ _ _ _ K hK, playOf_two]
  simp only [Late_eq _ _ _ (show ([⟨0, 0, 3, 9, 1⟩, ⟨0, 1, 1, 3, 2⟩] : List SJob).length ≤ 5000 by simp) K (by omega)]
  have h1 : lateTill [⟨0, 0, 3, 9, 1⟩, ⟨0, 1, 1, 3, 2⟩] ([0, 1, 0, 0, -1] : List Int).length [4, 2] ([⟨0, 0, 3, 9, 1⟩, ⟨0, 1, 1, 3, 2⟩] : List SJob).length = [] := by decide +kernel
  simp only [h1, punctualsame_Same_int_self _ K (show ([0, 1, 0, 0, -1] : List Int).length < K by simp; omega), punctualsame_Same_int_self _ K (show ([4, 2] : List Int).length < K by simp; omega)]
  rfl

def sumN (f : Nat → Int) : Nat → Int
  | 0 => 0
  | n + 1 => sumN f n + f n
theorem sumN_congr {f g : Nat → Int} : ∀ {n : Nat}, (∀ j, j < n → f j = g j) → sumN f n = sumN g n
  | 0, _ => rfl
  | n + 1, h => by simp only [sumN]; rw [sumN_congr (fun j hj => h j (by omega)), h n (by omega)]
theorem sumN_le {f g : Nat → Int} : ∀ {n : Nat}, (∀ j, j < n → f j ≤ g j) → sumN f n ≤ sumN g n
  | 0, _ => Int.le_refl _
  | n + 1, h => by
    simp only [sumN]
    have := sumN_le (n := n) (fun j hj => h j (by omega))
    have := h n (by omega)
    omega
theorem sumN_nonneg {f : Nat → Int} : ∀ {n : Nat}, (∀ j, j < n → 0 ≤ f j) → 0 ≤ sumN f n
  | 0, _ => Int.le_refl _
  | n + 1, h => by
    simp only [sumN]
    have := sumN_nonneg (n := n) (fun j hj => h j (by omega))
    have := h n (by omega)
    omega
theorem sumN_zero {f : Nat → Int} {n : Nat} (h : ∀ j, j < n → f j = 0) : sumN f n = 0 := by
  rw [sumN_congr (g := fun _ => 0) h]
  induction n with
  | zero => rfl
  | succ n ih => simp only [sumN]; rw [ih (fun j hj => h j (by omega))]; rfl
theorem sumN_one {f g : Nat → Int} {b : Nat} {d : Int} : ∀ {n : Nat}, b < n → f b = g b + d → (∀ j, j < n → j ≠ b → f j = g j) → sumN f n = sumN g n + d
  | 0, h, _, _ => by omega
  | n + 1, h, hb, ho => by
    simp only [sumN]
    by_cases hn : n = b
    · subst hn
      rw [hb, sumN_congr (fun j hj => ho j (by omega) (by omega))]
      omega
    · rw [sumN_one (n := n) (by omega) hb (fun j hj hne => ho j (by omega) hne), ho n (by omega) hn]
      omega
theorem sumN_term {f : Nat → Int} {n k : Nat} (h : ∀ j, j < n → 0 ≤ f j) (hk : k < n) : f k ≤ sumN f n := by
  have h1 := sumN_one (f := f) (g := fun j => if j = k then 0 else f j) (b := k) (d := f k) hk (by simp) (fun j _ hne => by simp [hne])
  have h2 := sumN_nonneg (f := fun j => if j = k then 0 else f j) (n := n) (fun j hj => by show 0 ≤ (if j = k then 0 else f j); split; exact Int.le_refl _; exact h j hj)
  omega
theorem sumN_add (f g : Nat → Int) : ∀ n, sumN (fun j => f j + g j) n = sumN f n + sumN g n
  | 0 => rfl
  | n + 1 => by simp only [sumN]; rw [sumN_add f g n]; omega
theorem sumN_swap (f : Nat → Nat → Int) (m : Nat) : ∀ n, sumN (fun j => sumN (fun o => f o j) m) n = sumN (fun o => sumN (fun j => f o j) n) m
  | 0 => by
    show (0 : Int) = _
    symm
    exact sumN_zero (fun _ _ => rfl)
  | n + 1 => by
    simp only [sumN]
    rw [sumN_swap f m n, ← sumN_add]
theorem sumN_pick {f : Nat → Int} {n k : Nat} (hk : k < n) (h : ∀ j, j < n → j ≠ k → f j = 0) : sumN f n = f k := by
  have h1 := sumN_one (f := f) (g := fun _ => 0) (b := k) (d := f k) hk (by simp) (fun j hj hne => h j hj hne)
  rw [h1, sumN_zero (fun _ _ => rfl)]
  omega
/-- the greatest place up to m with a property -/
theorem exists_last {p : Nat → Prop} (m : Nat) (h0 : p 0) : ∃ t, t ≤ m ∧ p t ∧ ∀ s, t < s → s ≤ m → ¬ p s := by
  induction m with
  | zero => exact ⟨0, Nat.le_refl _, h0, fun s h1 h2 => by omega⟩
  | succ m ih =>
    by_cases h : p (m + 1)
    · exact ⟨m + 1, Nat.le_refl _, h, fun s h1 h2 => by omega⟩
    · obtain ⟨t, h1, h2, h3⟩ := ih
      refine ⟨t, by omega, h2, fun s h4 h5 => ?_⟩
      by_cases hs : s = m + 1
      · subst hs; exact h
      · exact h3 s h4 (by omega)
/-- work that is done tick by tick: what is left of n jobs; those of a level, which go ahead of all others -/
structure Level (n : Nat) (L : Nat → Nat → Int) (H : Nat → Prop) (r : Nat → Nat) (c : Nat → Int) : Prop where
  start : ∀ j, j < n → L 0 j = c j
  nonneg : ∀ t j, 0 ≤ L t j
  down : ∀ t j, L (t + 1) j ≤ L t j
  wait : ∀ t j, j < n → t < r j → L (t + 1) j = L t j
  runs : ∀ t, (∃ j, j < n ∧ H j ∧ r j ≤ t ∧ 0 < L t j) → ∃ b, b < n ∧ H b ∧ r b ≤ t ∧ 0 < L t b ∧ L (t + 1) b = L t b - 1 ∧ ∀ j, j < n → j ≠ b → L (t + 1) j = L t j
theorem Level.mono {n : Nat} {L : Nat → Nat → Int} {H : Nat → Prop} {r : Nat → Nat} {c : Nat → Int} (h : Level n L H r c) {t t' : Nat} (ht : t ≤ t') (j : Nat) : L t' j ≤ L t j := by
  induction t' with
  | zero => obtain rfl : t = 0 := by omega
            exact Int.le_refl _
  | succ t' ih =>
    by_cases he : t = t' + 1
    · subst he; exact Int.le_refl _
    · have := ih (by omega); have := h.down t' j; omega
theorem Level.still {n : Nat} {L : Nat → Nat → Int} {H : Nat → Prop} {r : Nat → Nat} {c : Nat → Int} (h : Level n L H r c) {t : Nat} {j : Nat} (hj : j < n) (ht : t ≤ r j) : L t j = c j := by
  induction t with
  | zero => exact h.start j hj
  | succ t ih => rw [h.wait t j hj (by omega)]; exact ih (by omega)
/-- if of a level never more comes in w ticks than can be done in them, then each of it is done w ticks behind its coming -/
theorem Level.done {n : Nat} {L : Nat → Nat → Int} {H : Nat → Prop} [DecidablePred H] {r : Nat → Nat} {c : Nat → Int} (h : Level n L H r c) (w : Nat) (hw : 1 ≤ w)
    (hsum : ∀ t0, sumN (fun j => if H j ∧ t0 ≤ r j ∧ r j < t0 + w then c j else 0) n ≤ w) {k : Nat} (hk : k < n) (hHk : H k) : L (r k + w) k = 0 := by
  obtain ⟨t0, ht0, hid, hlast⟩ := exists_last (p := fun t => ∀ j, j < n → H j → r j < t → L t j = 0) (r k) (fun j _ _ h => by omega)
  by_cases hall : ∀ t, t0 ≤ t → t < t0 + w → ∃ j, j < n ∧ H j ∧ r j ≤ t ∧ 0 < L t j
  · -- the core is never idle for this level
    have hA : ∀ d, d ≤ w → sumN (fun j => if H j ∧ t0 ≤ r j ∧ r j < t0 + w then L (t0 + d) j else 0) n ≤ (w : Int) - d := by
      intro d
      induction d with
      | zero =>
        intro _
        have := hsum t0
        rw [sumN_congr (g := fun j => if H j ∧ t0 ≤ r j ∧ r j < t0 + w then c j else 0) (fun j hj => by
          by_cases hc : H j ∧ t0 ≤ r j ∧ r j < t0 + w
          · rw [if_pos hc, if_pos hc]; exact h.still hj hc.2.1
          · rw [if_neg hc, if_neg hc])]
        omega
      | succ d ih =>
        intro hd
        have ih := ih (by omega)
        obtain ⟨b, hb, hHb, hrb, hLb, hstep, hoth⟩ := h.runs (t0 + d) (hall (t0 + d) (by omega) (by omega))
        have hrb0 : t0 ≤ r b := by
          apply Nat.le_of_not_lt
          intro hlt
          have h1 := hid b hb hHb hlt
          have h2 := h.mono (show t0 ≤ t0 + d by omega) b
          omega
        have := sumN_one (f := fun j => if H j ∧ t0 ≤ r j ∧ r j < t0 + w then L (t0 + (d + 1)) j else 0) (g := fun j => if H j ∧ t0 ≤ r j ∧ r j < t0 + w then L (t0 + d) j else 0) (b := b) (d := -1) hb (by
          rw [if_pos ⟨hHb, hrb0, by omega⟩, if_pos ⟨hHb, hrb0, by omega⟩]
          show L (t0 + d + 1) b = _
          rw [hstep]; omega) (fun j hj hne => by
          by_cases hc : H j ∧ t0 ≤ r j ∧ r j < t0 + w
          · rw [if_pos hc, if_pos hc]; exact hoth j hj hne
          · rw [if_neg hc, if_neg hc])
        rw [this]
        omega
    have hend := hA w (Nat.le_refl _)
    have hzero : ∀ j, j < n → H j → r j < t0 + w → L (t0 + w) j = 0 := by
      intro j hj hHj hrj
      by_cases hr0 : r j < t0
      · have h1 := hid j hj hHj hr0
        have h2 := h.mono (show t0 ≤ t0 + w by omega) j
        have h3 := h.nonneg (t0 + w) j
        omega
      · have h1 := sumN_term (f := fun j => if H j ∧ t0 ≤ r j ∧ r j < t0 + w then L (t0 + w) j else 0) (n := n) (k := j) (fun i _ => by
          by_cases hc : H i ∧ t0 ≤ r i ∧ r i < t0 + w
          · rw [if_pos hc]; exact h.nonneg _ _
          · rw [if_neg hc]; exact Int.le_refl _) hj
        rw [if_pos ⟨hHj, by omega, hrj⟩] at h1
        have h3 := h.nonneg (t0 + w) j
        omega
    by_cases hrk : r k < t0 + w
    · have h1 := hzero k hk hHk hrk
      have h2 := h.mono (show t0 + w ≤ r k + w by omega) k
      have h3 := h.nonneg (r k + w) k
      omega
    · exact absurd hzero (hlast (t0 + w) (by omega) (by omega))
  · have ⟨t, ht⟩ := Classical.not_forall.1 hall
    have ⟨ht1, ht⟩ := Classical.not_imp.1 ht
    have ⟨ht2, hnone⟩ := Classical.not_imp.1 ht
    have hz : ∀ j, j < n → H j → r j ≤ t → L t j = 0 := fun j hj hHj hrj => by
      have h1 := h.nonneg t j
      by_cases h0 : 0 < L t j
      · exact absurd ⟨j, hj, hHj, hrj, h0⟩ hnone
      · omega
    by_cases hrk : r k ≤ t
    · have h1 := hz k hk hHk hrk
      have h2 := h.mono (show t ≤ r k + w by omega) k
      have h3 := h.nonneg (r k + w) k
      omega
    · refine absurd (fun j hj hHj hrj => ?_) (hlast (t + 1) (by omega) (by omega))
      have h1 := hz j hj hHj (by omega)
      have h2 := h.down t j
      have h3 := h.nonneg (t + 1) j
      omega
/-- so much of one task lies in w ticks at most, if it comes T apart, J late at most -/
theorem spaced {n : Nat} {q : Nat → Prop} [DecidablePred q] {r : Nat → Nat} {a c : Nat → Int} {C T J : Int} (hT : 1 ≤ T) (hC : 0 ≤ C) (hc : ∀ j, j < n → q j → c j ≤ C) (hra : ∀ j, j < n → q j → a j ≤ r j ∧ (r j : Int) ≤ a j + J)
    (hsp : ∀ i j, i < j → j < n → q i → q j → a i + T ≤ a j) (t0 w : Nat) (hw : 1 ≤ w) (hJ : 0 ≤ J) :
    sumN (fun j => if q j ∧ t0 ≤ r j ∧ r j < t0 + w then c j else 0) n ≤ ((w + J + T - 1) / T) * C := by
  have key : ∀ m, m ≤ n → (sumN (fun j => if q j ∧ t0 ≤ r j ∧ r j < t0 + w then c j else 0) m ≤ 0 ∧ ∀ j, j < m → ¬ (q j ∧ t0 ≤ r j ∧ r j < t0 + w)) ∨
      ∃ j, j < m ∧ (q j ∧ t0 ≤ r j ∧ r j < t0 + w) ∧ sumN (fun j => if q j ∧ t0 ≤ r j ∧ r j < t0 + w then c j else 0) m ≤ ((a j - (t0 - J)) / T + 1) * C := by
    intro m
    induction m with
    | zero => intro _; exact .inl ⟨Int.le_refl _, fun j h => by omega⟩
    | succ m ih =>
      intro hm
      have ih := ih (by omega)
      simp only [sumN]
      by_cases hc' : q m ∧ t0 ≤ r m ∧ r m < t0 + w
      · right
        refine ⟨m, by omega, hc', ?_⟩
        rw [if_pos hc']
        have hcm := hc m (by omega) hc'.1
        have hrm := hra m (by omega) hc'.1
        rcases ih with ⟨h1, _⟩ | ⟨j, hj, hcj, h1⟩
        · have h0 : 0 ≤ (a m - (t0 - J)) / T := Int.ediv_nonneg (by omega) (by omega)
          have : 1 * C ≤ ((a m - (t0 - J)) / T + 1) * C := Int.mul_le_mul_of_nonneg_right (by omega) hC
          omega
        · have hs := hsp j m hj (by omega) hcj.1 hc'.1
          have h2 : (a j - (t0 - J)) / T + 1 ≤ (a m - (t0 - J)) / T := by
            have : (a j - (t0 - J) + T * 1) / T = (a j - (t0 - J)) / T + 1 := Int.add_mul_ediv_left _ _ (by omega)
            rw [← this]
            exact Int.ediv_le_ediv (by omega) (by omega)
          have h3 : ((a j - (t0 - J)) / T + 1 + 1) * C ≤ ((a m - (t0 - J)) / T + 1) * C := Int.mul_le_mul_of_nonneg_right (by omega) hC
          rw [Int.add_mul ((a j - (t0 - J)) / T + 1)] at h3
          omega
      · rw [if_neg hc']
        rcases ih with ⟨h1, h2⟩ | ⟨j, hj, hcj, h1⟩
        · left
          refine ⟨by omega, fun j hj => ?_⟩
          by_cases hjm : j = m
          · subst hjm; exact hc'
          · exact h2 j (by omega)
        · exact .inr ⟨j, by omega, hcj, by omega⟩
  have e : (w + J + T - 1) / T = (w + J - 1) / T + 1 := by
    have : (w + J - 1 + T * 1) / T = (w + J - 1) / T + 1 := Int.add_mul_ediv_left _ _ (by omega)
    rw [← this]; congr 1; omega
  rw [e]
  rcases key n (Nat.le_refl _) with ⟨h1, _⟩ | ⟨j, hj, hcj, h1⟩
  · have h0 : 0 ≤ ((w : Int) + J - 1) / T := Int.ediv_nonneg (by omega) (by omega)
    have : 0 ≤ ((w + J - 1) / T + 1) * C := Int.mul_nonneg (by omega) hC
    omega
  · have hrj := hra j hj hcj.1
    have : (a j - (t0 - J)) / T ≤ (w + J - 1) / T := Int.ediv_le_ediv (by omega) (by omega)
    have := Int.mul_le_mul_of_nonneg_right (show (a j - (t0 - J)) / T + 1 ≤ (w + J - 1) / T + 1 by omega) hC
    omega

/-- one tick, told of what is left -/
theorem leftP_step (p : Int) (pre : Bool) {jobs : List SJob} (hj : ∀ e ∈ jobs, Okj e) (t : Nat) :
    (runP p pre jobs t = -1 ∧ ∀ j, leftP p pre jobs (t + 1) j = leftP p pre jobs t j ∧ endP p pre jobs (t + 1) j = endP p pre jobs t j) ∨
    ∃ b : Nat, runP p pre jobs t = (b : Int) ∧ b < jobs.length ∧ 0 < leftP p pre jobs t b ∧ leftP p pre jobs (t + 1) b = leftP p pre jobs t b - 1 ∧ endP p pre jobs (t + 1) b = (if leftP p pre jobs t b = 1 then (t : Int) + 1 else endP p pre jobs t b) ∧
      ∀ j, j ≠ b → leftP p pre jobs (t + 1) j = leftP p pre jobs t j ∧ endP p pre jobs (t + 1) j = endP p pre jobs t j := by
  have hok := simP_ok p pre hj t
  have hs : simP p pre jobs (t + 1) = tickP p pre jobs (t : Int) (simP p pre jobs t) := rfl
  rcases nowOf_cases (p := p) (pre := pre) hok (t : Int) with h1 | ⟨b, h1, h2, h3⟩
  · have ht : tickP p pre jobs (t : Int) (simP p pre jobs t) = (-1, (simP p pre jobs t).2.1, (simP p pre jobs t).2.2) := by
      unfold tickP; simp only [h1]; rw [if_pos (by omega)]
    left
    unfold runP leftP endP
    rw [hs, ht]
    exact ⟨rfl, fun _ => ⟨rfl, rfl⟩⟩
  · have hbl : b < (simP p pre jobs t).2.1.length := by rw [hok.left]; exact h2
    have hbe : b < (simP p pre jobs t).2.2.length := by rw [hok.ends]; exact h2
    have ht : tickP p pre jobs (t : Int) (simP p pre jobs t) = ((b : Int), (simP p pre jobs t).2.1.set b ((simP p pre jobs t).2.1.getD b 0 - 1), if (simP p pre jobs t).2.1.getD b 0 - 1 = 0 then (simP p pre jobs t).2.2.set b ((t : Int) + 1) else (simP p pre jobs t).2.2) := by
      unfold tickP
      simp only [h1, Int.toNat_natCast]
      rw [if_neg (by omega), getD_set _ _ _ _ hbl, if_pos rfl]
    right
    refine ⟨b, ?_, h2, h3, ?_, ?_, fun j hne => ⟨?_, ?_⟩⟩
    · unfold runP; rw [hs, ht]
    · unfold leftP; rw [hs, ht]; simp only; rw [getD_set _ _ _ _ hbl, if_pos rfl]
    · unfold leftP endP; rw [hs, ht]
      simp only
      by_cases h0 : (simP p pre jobs t).2.1.getD b 0 = 1
      · rw [if_pos (by omega), if_pos h0, getD_set _ _ _ _ hbe, if_pos rfl]
      · rw [if_neg (by omega), if_neg h0]
    · unfold leftP; rw [hs, ht]; simp only; rw [getD_set _ _ _ _ hbl, if_neg (fun h => hne h.symm)]
    · unfold endP; rw [hs, ht]
      simp only
      split
      · rw [getD_set _ _ _ _ hbe, if_neg (fun h => hne h.symm)]
      · rfl
theorem leftP_zero (p : Int) (pre : Bool) (jobs : List SJob) (j : Nat) : leftP p pre jobs 0 j = costOf jobs j := rfl
theorem leftP_nonneg (p : Int) (pre : Bool) {jobs : List SJob} (hj : ∀ e ∈ jobs, Okj e) (t j : Nat) : 0 ≤ leftP p pre jobs t j := (simP_ok p pre hj t).nonneg j
theorem leftP_down (p : Int) (pre : Bool) {jobs : List SJob} (hj : ∀ e ∈ jobs, Okj e) (t j : Nat) : leftP p pre jobs (t + 1) j ≤ leftP p pre jobs t j := by
  rcases leftP_step p pre hj t with ⟨_, h⟩ | ⟨b, _, _, _, h1, _, h⟩
  · rw [(h j).1]; exact Int.le_refl _
  · by_cases hb : j = b
    · subst hb; omega
    · rw [(h j hb).1]; exact Int.le_refl _
theorem leftP_mono (p : Int) (pre : Bool) {jobs : List SJob} (hj : ∀ e ∈ jobs, Okj e) {t t' : Nat} (ht : t ≤ t') (j : Nat) : leftP p pre jobs t' j ≤ leftP p pre jobs t j := by
  induction t' with
  | zero => obtain rfl : t = 0 := by omega
            exact Int.le_refl _
  | succ t' ih =>
    by_cases he : t = t' + 1
    · subst he; exact Int.le_refl _
    · have := ih (by omega); have := leftP_down p pre hj t' j; omega
/-- when a job is done, its end says so -/
theorem endP_spec (p : Int) (pre : Bool) {jobs : List SJob} (hj : ∀ e ∈ jobs, Okj e) {j : Nat} (hjl : j < jobs.length) : ∀ t, (0 < leftP p pre jobs t j → endP p pre jobs t j = -1) ∧
    (leftP p pre jobs t j = 0 → ∃ s : Nat, 1 ≤ s ∧ s ≤ t ∧ endP p pre jobs t j = (s : Int) ∧ leftP p pre jobs s j = 0 ∧ 0 < leftP p pre jobs (s - 1) j)
  | 0 => by
    have he : jobs[j]? = some jobs[j] := List.getElem?_eq_getElem hjl
    have hC := (hj _ (List.getElem_mem hjl)).C
    have h0 : leftP p pre jobs 0 j = jobs[j].C := by rw [leftP_zero, costOf_some he]
    refine ⟨fun _ => ?_, fun h => by omega⟩
    simp [endP, simP, List.getD, List.getElem?_replicate, hjl]
  | t + 1 => by
    obtain ⟨ih1, ih2⟩ := endP_spec p pre hj hjl t
    have keep : leftP p pre jobs (t + 1) j = leftP p pre jobs t j → endP p pre jobs (t + 1) j = endP p pre jobs t j → (0 < leftP p pre jobs (t + 1) j → endP p pre jobs (t + 1) j = -1) ∧
        (leftP p pre jobs (t + 1) j = 0 → ∃ s : Nat, 1 ≤ s ∧ s ≤ t + 1 ∧ endP p pre jobs (t + 1) j = (s : Int) ∧ leftP p pre jobs s j = 0 ∧ 0 < leftP p pre jobs (s - 1) j) := fun h1 h2 => by
      rw [h1, h2]
      refine ⟨ih1, fun h => ?_⟩
      obtain ⟨s, a, b, c⟩ := ih2 h
      exact ⟨s, a, by omega, c⟩
    rcases leftP_step p pre hj t with ⟨_, h⟩ | ⟨b, _, _, hpos, h1, h2, h⟩
    · exact keep (h j).1 (h j).2
    · by_cases hb : j = b
      · subst hb
        by_cases h3 : leftP p pre jobs t j = 1
        · rw [if_pos h3] at h2
          refine ⟨fun h' => by omega, fun _ => ⟨t + 1, by omega, Nat.le_refl _, by rw [h2]; rfl, by omega, hpos⟩⟩
        · rw [if_neg h3] at h2
          exact ⟨fun _ => by rw [h2]; exact ih1 hpos, fun h' => by omega⟩
      · exact keep (h j hb).1 (h j hb).2
theorem endP_done (p : Int) (pre : Bool) {jobs : List SJob} (hj : ∀ e ∈ jobs, Okj e) {j : Nat} (hjl : j < jobs.length) {s t : Nat} (hs : leftP p pre jobs s j = 0) (ht : s ≤ t) : 1 ≤ endP p pre jobs t j ∧ endP p pre jobs t j ≤ s := by
  have hz : leftP p pre jobs t j = 0 := by have := leftP_mono p pre hj ht j; have := leftP_nonneg p pre hj t j; omega
  obtain ⟨u, h1, h2, h3, h4, h5⟩ := (endP_spec p pre hj hjl t).2 hz
  rw [h3]
  refine ⟨by omega, ?_⟩
  have : u ≤ s := by
    apply Nat.le_of_not_lt
    intro hlt
    have := leftP_mono p pre hj (show s ≤ u - 1 by omega) j
    omega
  omega
theorem ends_get (p : Int) (pre : Bool) {jobs : List SJob} (hj : ∀ e ∈ jobs, Okj e) {j : Nat} (hjl : j < jobs.length) (t : Nat) : (simP p pre jobs t).2.2[j]? = some (endP p pre jobs t j) := get_of_lt (by rw [(simP_ok p pre hj t).ends]; exact hjl)
/-- who goes first at a tick, where who goes first goes at once -/
theorem runP_first (p : Int) {jobs : List SJob} (hj : ∀ e ∈ jobs, Okj e) (t : Nat) : (runP p true jobs t = -1 ∧ ∀ j e, jobs[j]? = some e → ¬ (e.At ≤ (t : Int) ∧ 0 < leftP p true jobs t j)) ∨
    ∃ (b : Nat) (y : SJob), runP p true jobs t = (b : Int) ∧ jobs[b]? = some y ∧ y.At ≤ (t : Int) ∧ 0 < leftP p true jobs t b ∧ ∀ j x, jobs[j]? = some x → x.At ≤ (t : Int) → 0 < leftP p true jobs t j → ¬ aheadJ p x y ∧ (j < b → aheadJ p y x) := by
  have hok := simP_ok p true hj t
  have hnow : nowOf p true jobs (t : Int) (simP p true jobs t).1 (simP p true jobs t).2.1 = firstTo p jobs (simP p true jobs t).2.1 (t : Int) jobs.length := by unfold nowOf; rw [if_pos (.inl rfl)]
  have hrun : runP p true jobs t = firstTo p jobs (simP p true jobs t).2.1 (t : Int) jobs.length := by
    rw [← hnow]
    unfold runP
    show (tickP p true jobs (t : Int) (simP p true jobs t)).1 = _
    unfold tickP
    simp only
    split <;> rfl
  have hcan : ∀ j e, jobs[j]? = some e → (canJ jobs (simP p true jobs t).2.1 (t : Int) j ↔ e.At ≤ (t : Int) ∧ 0 < leftP p true jobs t j) := fun j e he => by
    unfold canJ
    rw [he, get_of_lt (by rw [hok.left]; exact lt_of_get he)]
    rfl
  rw [hrun]
  rcases firstTo_cases p jobs (simP p true jobs t).2.1 (t : Int) jobs.length (Nat.le_refl _) with ⟨h1, h2⟩ | ⟨b, y, h1, h2, h3, h4, h5⟩
  · exact .inl ⟨h1, fun j e he hc => h2 j (lt_of_get he) ((hcan j e he).2 hc)⟩
  · obtain ⟨g1, g2⟩ := (hcan b y h3).1 h4
    exact .inr ⟨b, y, h1, h3, g1, g2, fun j x hx ha hl => h5 j x (lt_of_get hx) hx ((hcan j x hx).2 ⟨ha, hl⟩)⟩
/-- jobs of a priority, or a greater one, as a level -/
theorem simP_level {jobs : List SJob} (hj : ∀ e ∈ jobs, Okj e) (Pi : Int) : Level jobs.length (leftP 1 true jobs) (fun j => ∃ e, jobs[j]? = some e ∧ Pi ≤ e.P) (atN jobs) (costOf jobs) := by
  refine ⟨fun j _ => leftP_zero 1 true jobs j, leftP_nonneg 1 true hj, leftP_down 1 true hj, fun t j hjl hr => ?_, fun t ⟨j, hjl, ⟨e, he, hP⟩, hr, hL⟩ => ?_⟩
  · have he : jobs[j]? = some jobs[j] := List.getElem?_eq_getElem hjl
    rw [atN_some he] at hr
    rcases leftP_step 1 true hj t with ⟨_, h⟩ | ⟨b, hb0, hb1, hpos, h1, _, h⟩
    · exact (h j).1
    · refine (h j ?_).1
      rintro rfl
      rcases runP_first 1 hj t with ⟨g1, _⟩ | ⟨b', y, g1, g2, g3, _⟩
      · omega
      · have : b' = j := by omega
        subst this
        rw [he] at g2
        cases g2
        omega
  · rw [atN_some he] at hr
    have hA := (hj e (List.mem_of_getElem? he)).At
    rcases runP_first 1 hj t with ⟨_, h⟩ | ⟨b, y, g1, g2, g3, g4, g5⟩
    · exact absurd ⟨by omega, hL⟩ (h j e he)
    · have hn := (g5 j e he (by omega) hL).1
      have hPb : Pi ≤ y.P := by
        unfold aheadJ at hn
        rw [if_pos rfl] at hn
        omega
      rcases leftP_step 1 true hj t with ⟨k1, _⟩ | ⟨b', k1, k2, k3, k4, _, k6⟩
      · omega
      · have : b' = b := by omega
        subst this
        have hAb := (hj y (List.mem_of_getElem? g2)).At
        exact ⟨b', k2, ⟨y, g2, hPb⟩, by rw [atN_some g2]; omega, k3, k4, fun i _ hne => (k6 i hne).1⟩

theorem mget_mset {κ ν : Type} [DecidableEq κ] (k k' : κ) (v : ν) : ∀ m : List (κ × ν), mget (mset m k v) k' = if k' = k then some v else mget m k'
  | [] => by simp only [mset, mget]
  | (a, b) :: r => by
    simp only [mset]
    by_cases hk : k = a
    · subst hk
      rw [if_pos rfl]
      simp only [mget]
      by_cases h' : k' = k
      · rw [if_pos h', if_pos h']
      · rw [if_neg h', if_neg h', if_neg h']
    · rw [if_neg hk]
      simp only [mget]
      by_cases h' : k' = a
      · subst h'
        rw [if_pos rfl, if_neg (fun h => hk h.symm), if_pos rfl]
      · rw [if_neg h', if_neg h', mget_mset k k' v r]

/-- rounds that keep a relation -/
theorem iter_rel {σ τ ρ : Type} {f : σ → Option (σ ⊕ (τ ⊕ ρ))} (R : Nat → σ → Prop) (T : τ → Prop) (n : Nat) (h : ∀ i s, i < n → R i s → ∃ s', f s = some (.inl s') ∧ R (i + 1) s') (he : ∀ s, R n s → ∃ t, f s = some (.inr (.inl t)) ∧ T t) {K : Nat} (hK : n < K) {s : σ} (hs : R 0 s) : ∃ t, iter f K s = some (.inl t) ∧ T t := by
  have key : ∀ (K i : Nat) (s : σ), i ≤ n → n - i < K → R i s → ∃ t, iter f K s = some (.inl t) ∧ T t := by
    intro K
    induction K with
    | zero => intro i _ _ hK; omega
    | succ K ih =>
      intro i s hi hK hR
      rw [iter_succ]
      by_cases hin : i = n
      · subst hin
        obtain ⟨t, h1, h2⟩ := he s hR
        exact ⟨t, by rw [h1], h2⟩
      · obtain ⟨s', h1, h2⟩ := h i s (by omega) hR
        rw [h1]
        exact ih (i + 1) s' (by omega) (by omega) h2
  exact key K 0 s (Nat.zero_le _) (by omega) hs
/-- the document's order of jobs: a policy, their times, their places -/
def ltJ (p : Int) (jobs : List SJob) (a b : Nat) : Prop := match jobs[a]?, jobs[b]? with
  | some x, some y => aheadJ p x y ∨ (¬ aheadJ p y x ∧ a < b)
  | _, _ => False
instance (p : Int) (jobs : List SJob) (a b : Nat) : Decidable (ltJ p jobs a b) := by unfold ltJ; split <;> infer_instance
theorem ltJ_iff {p : Int} {jobs : List SJob} {a b : Nat} {x y : SJob} (hx : jobs[a]? = some x) (hy : jobs[b]? = some y) : ltJ p jobs a b ↔ aheadJ p x y ∨ (¬ aheadJ p y x ∧ a < b) := by simp only [ltJ, hx, hy]
theorem ltJ_total {p : Int} {jobs : List SJob} {a b : Nat} (ha : a < jobs.length) (hb : b < jobs.length) (h : a ≠ b) : ltJ p jobs a b ∨ ltJ p jobs b a := by
  have h1 : jobs[a]? = some jobs[a] := List.getElem?_eq_getElem ha
  have h2 : jobs[b]? = some jobs[b] := List.getElem?_eq_getElem hb
  rw [ltJ_iff h1 h2, ltJ_iff h2 h1]
  by_cases g1 : aheadJ p jobs[a] jobs[b]
  · exact .inl (.inl g1)
  by_cases g2 : aheadJ p jobs[b] jobs[a]
  · exact .inr (.inl g2)
  by_cases g3 : a < b
  · exact .inl (.inr ⟨g2, g3⟩)
  · exact .inr (.inr ⟨g1, by omega⟩)
theorem ltJ_trans {p : Int} {jobs : List SJob} {a b c : Nat} (ha : a < jobs.length) (hb : b < jobs.length) (hc : c < jobs.length) (h : ltJ p jobs a b) (k : ltJ p jobs b c) : ltJ p jobs a c := by
  have h1 : jobs[a]? = some jobs[a] := List.getElem?_eq_getElem ha
  have h2 : jobs[b]? = some jobs[b] := List.getElem?_eq_getElem hb
  have h3 : jobs[c]? = some jobs[c] := List.getElem?_eq_getElem hc
  rw [ltJ_iff h1 h2] at h
  rw [ltJ_iff h2 h3] at k
  rw [ltJ_iff h1 h3]
  unfold aheadJ at *
  split at h <;> simp_all <;> omega
/-- the map of what is left -/
def Mp (mp : List (Int × Int)) (left : List Int) : Prop := ∀ j : Nat, (mget mp (j : Int)).getD 0 = left.getD j 0
/-- those of the first n that can run, in the document's order, begin with the first -/
structure There (p : Int) (jobs : List SJob) (left : List Int) (t : Int) (n : Nat) (L : List Nat) : Prop where
  lt : ∀ q ∈ L, q < n
  sorted : L.Pairwise (ltJ p jobs)
  head : (L = [] ∧ firstTo p jobs left t n = -1) ∨ ∃ b r, L = b :: r ∧ firstTo p jobs left t n = (b : Int)
  few : L.length ≤ n
theorem pairwise_insert {α : Type} {R : α → α → Prop} {L : List α} {k : Nat} {x : α} (h : L.Pairwise R) (h1 : ∀ y ∈ L.take k, R y x) (h2 : ∀ y ∈ L.drop k, R x y) : (L.take k ++ (x :: L.drop k)).Pairwise R := by
  rw [List.pairwise_append]
  have h0 := h
  rw [← List.take_append_drop k L, List.pairwise_append] at h0
  refine ⟨h0.1, List.pairwise_cons.2 ⟨h2, h0.2.1⟩, fun a ha b hb => ?_⟩
  rcases List.mem_cons.1 hb with rfl | hb
  · exact h1 a ha
  · exact h0.2.2 a ha b hb
/-- who runs, as a list -/
def runRow (b : Int) : List Int := if b < 0 then [] else [b]
theorem CheckJobs_eq (l : List SJob) (K : Nat) (hK : 4010 ≤ K) : punctualref_CheckJobs.f K l = some (playFault l) := by
  unfold punctualref_CheckJobs.f playFault
  by_cases hl : (l.length : Int) > 4000
  · rw [if_pos hl, if_pos (by omega)]; rfl
  rw [if_neg hl, if_neg (by omega)]
  have hr := iter_first0 (f := punctualref_CheckJobs.r0 l) (playAt l) l.length (t := ()) (fun i hi => by
    have hi' : (i : Int) < (l.length : Int) := by omega
    simp only [punctualref_CheckJobs.r0, if_pos hi', List.getElem?_eq_getElem hi, playAt]
    generalize l[i] = e
    by_cases h : e.At < 0 ∨ e.At > 60000 ∨ e.C < 1 ∨ e.C > 10000 ∨ e.Due < 0 ∨ e.Due > 80000
    · rw [if_pos h]
      repeat' split
      all_goals first | rfl | omega
    · rw [if_neg h]
      rw [if_neg (by omega), if_neg (by omega), if_neg (by omega), if_neg (by omega), if_neg (by omega), if_neg (by omega)]
      rfl) (by simp [punctualref_CheckJobs.r0]) (K := K) (by omega)
  rw [hr]
  cases firstOf (playAt l) l.length 0 <;> rfl
/-- of each row the first -/
def headOr (r : List Int) : Int := r.headD (-1)
/-- the places of the first n -/
def idx (n : Nat) : List Int := (List.range n).map fun q : Nat => (q : Int)
theorem idx_succ (n : Nat) : idx (n + 1) = idx n ++ [(n : Int)] := by simp [idx, List.range_succ]
theorem mem_idx {n : Nat} {x : Int} : x ∈ idx n ↔ 0 ≤ x ∧ x < (n : Int) := by
  unfold idx
  rw [List.mem_map]
  constructor
  · rintro ⟨q, hq, rfl⟩
    rw [List.mem_range] at hq
    omega
  · rintro ⟨h1, h2⟩
    exact ⟨x.toNat, List.mem_range.2 (by omega), by omega⟩
def cJ (l : List SJob) (x : Int) : Int := match l[x.toNat]? with | some e => e.C | none => 0
def aJ (l : List SJob) (x : Int) : Int := match l[x.toNat]? with | some e => e.At | none => 0
def dJ (l : List SJob) (x : Int) : Int := match l[x.toNat]? with | some e => e.Due | none => 0
/-- the sum of what some of them say -/
def sumI (p : Int → Bool) (g : Int → Int) : List Int → Int
  | [] => 0
  | x :: r => (if p x = true then g x else 0) + sumI p g r
theorem sumI_append (p : Int → Bool) (g : Int → Int) : ∀ a b : List Int, sumI p g (a ++ b) = sumI p g a + sumI p g b
  | [], b => by simp [sumI]
  | x :: a, b => by
    have := sumI_append p g a b
    simp only [List.cons_append, sumI, this]
    omega
theorem sumI_perm (p : Int → Bool) (g : Int → Int) {a b : List Int} (h : a.Perm b) : sumI p g a = sumI p g b := by
  induction h with
  | nil => rfl
  | cons x _ ih => simp only [sumI, ih]
  | swap x y l => simp only [sumI]; omega
  | trans _ _ h1 h2 => exact h1.trans h2
theorem sumI_nonneg {p : Int → Bool} {g : Int → Int} : ∀ {a : List Int}, (∀ x ∈ a, 0 ≤ g x) → 0 ≤ sumI p g a
  | [], _ => Int.le_refl _
  | x :: a, h => by
    have h1 := sumI_nonneg (p := p) (fun y hy => h y (List.mem_cons_of_mem x hy))
    have h2 := h x (List.mem_cons_self ..)
    simp only [sumI]
    split <;> omega
theorem sumI_congr {p q : Int → Bool} {g : Int → Int} : ∀ {a : List Int}, (∀ x ∈ a, p x = q x) → sumI p g a = sumI q g a
  | [], _ => rfl
  | x :: a, h => by
    simp only [sumI, h x (List.mem_cons_self ..), sumI_congr (fun y hy => h y (List.mem_cons_of_mem x hy))]
theorem sumI_none {p : Int → Bool} {g : Int → Int} : ∀ {a : List Int}, (∀ x ∈ a, p x = false) → sumI p g a = 0
  | [], _ => rfl
  | x :: a, h => by
    have := sumI_none (g := g) (fun y hy => h y (List.mem_cons_of_mem x hy))
    simp [sumI, h x (List.mem_cons_self ..), this]
theorem sumI_le {p : Int → Bool} {g : Int → Int} {B : Int} (hB : 0 ≤ B) : ∀ {a : List Int}, (∀ x ∈ a, g x ≤ B) → sumI p g a ≤ B * (a.length : Int)
  | [], _ => by simp [sumI]
  | x :: a, h => by
    have h1 := sumI_le (p := p) hB (fun y hy => h y (List.mem_cons_of_mem x hy))
    have h2 := h x (List.mem_cons_self ..)
    simp only [sumI, List.length_cons]
    rw [show ((a.length + 1 : Nat) : Int) = (a.length : Int) + 1 by omega, Int.mul_add]
    split <;> omega
/-- the least of some pairs -/
def Rep (X : Int → Int → Prop) (a b : Int) (found : Bool) : Prop := (found = false ∧ ∀ p q, ¬ X p q) ∨ (found = true ∧ X a b ∧ ∀ p q, X p q → a < p ∨ (a = p ∧ b ≤ q))
theorem Rep.same {X : Int → Int → Prop} {a b a' b' : Int} {f f' : Bool} (h : Rep X a b f) (k : Rep X a' b' f') : f = f' ∧ (f = true → a = a' ∧ b = b') := by
  rcases h with ⟨rfl, h⟩ | ⟨rfl, h1, h2⟩ <;> rcases k with ⟨rfl, k⟩ | ⟨rfl, k1, k2⟩
  · exact ⟨rfl, fun h => by cases h⟩
  · exact absurd k1 (h _ _)
  · exact absurd h1 (k _ _)
  · have := h2 _ _ k1
    have := k2 _ _ h1
    exact ⟨rfl, fun _ => by omega⟩
theorem Rep.iff {X Y : Int → Int → Prop} {a b : Int} {f : Bool} (h : Rep X a b f) (k : ∀ p q, X p q ↔ Y p q) : Rep Y a b f := by
  rcases h with ⟨rfl, h⟩ | ⟨rfl, h1, h2⟩
  · exact .inl ⟨rfl, fun p q hy => h p q ((k p q).2 hy)⟩
  · exact .inr ⟨rfl, (k _ _).1 h1, fun p q hy => h2 p q ((k p q).2 hy)⟩
theorem Rep.dom {X Y : Int → Int → Prop} {a b : Int} {f : Bool} (h : Rep X a b f) (k1 : ∀ p q, X p q → Y p q) (k2 : ∀ p q, Y p q → ∃ q', q' ≤ q ∧ X p q') : Rep Y a b f := by
  rcases h with ⟨rfl, h⟩ | ⟨rfl, h1, h2⟩
  · refine .inl ⟨rfl, fun p q hy => ?_⟩
    obtain ⟨q', _, hx⟩ := k2 p q hy
    exact h p q' hx
  · refine .inr ⟨rfl, k1 _ _ h1, fun p q hy => ?_⟩
    obtain ⟨q', hq, hx⟩ := k2 p q hy
    have := h2 p q' hx
    omega
/-- one more pair -/
theorem Rep.keep {X : Int → Int → Prop} {a b : Int} {f : Bool} (h : Rep X a b f) {p q : Int} (k : f = true ∧ (a < p ∨ (a = p ∧ b ≤ q))) : Rep (fun x y => X x y ∨ (x = p ∧ y = q)) a b f := by
  rcases h with ⟨rfl, h⟩ | ⟨rfl, h1, h2⟩
  · cases k.1
  · refine .inr ⟨rfl, .inl h1, fun x y hx => ?_⟩
    rcases hx with hx | ⟨rfl, rfl⟩
    · exact h2 x y hx
    · exact k.2
theorem Rep.take {X : Int → Int → Prop} {a b : Int} {f : Bool} (h : Rep X a b f) {p q : Int} (k : f = true → p < a ∨ (p = a ∧ q < b)) : Rep (fun x y => X x y ∨ (x = p ∧ y = q)) p q true := by
  refine .inr ⟨rfl, .inr ⟨rfl, rfl⟩, fun x y hx => ?_⟩
  rcases hx with hx | ⟨rfl, rfl⟩
  · rcases h with ⟨rfl, h⟩ | ⟨rfl, h1, h2⟩
    · exact absurd hx (h _ _)
    · have := h2 x y hx
      have := k rfl
      omega
  · omega
/-- what both look for: a time from a to b in which more must be done than can -/
def Over (l : List SJob) (a b : Int) : Prop := ∃ i k : Nat, i < l.length ∧ k < l.length ∧ a = aJ l i ∧ b = dJ l k ∧ (∃ x ∈ idx l.length, a ≤ aJ l x ∧ dJ l x ≤ b) ∧ b - a < sumI (fun x => decide (a ≤ aJ l x) && decide (dJ l x ≤ b)) (cJ l) (idx l.length)
theorem aJ_some {l : List SJob} {x : Int} {e : SJob} (h : l[x.toNat]? = some e) : aJ l x = e.At ∧ dJ l x = e.Due ∧ cJ l x = e.C := by simp [aJ, dJ, cJ, h]
theorem cJ_bounds {l : List SJob} (hj : ∀ e ∈ l, Okj e) {x : Int} (hx : x ∈ idx l.length) : (1 ≤ cJ l x ∧ cJ l x ≤ 10000) ∧ (0 ≤ aJ l x ∧ aJ l x ≤ 60000) ∧ (0 ≤ dJ l x ∧ dJ l x ≤ 80000) := by
  have h := mem_idx.1 hx
  have he : l[x.toNat]? = some (l[x.toNat]'(by omega)) := List.getElem?_eq_getElem _
  have ho := hj _ (List.mem_of_getElem? he)
  obtain ⟨h1, h2, h3⟩ := aJ_some he
  rw [h1, h2, h3]
  exact ⟨ho.C, ho.At, ho.Due⟩
/-- the pairs of the first i and all, and of the i-th and the first k -/
def OverTo (l : List SJob) (i k : Nat) (a b : Int) : Prop := ∃ i' k' : Nat, (i' < i ∧ k' < l.length ∨ i' = i ∧ k' < k) ∧ i' < l.length ∧ a = aJ l i' ∧ b = dJ l k' ∧ (∃ x ∈ idx l.length, a ≤ aJ l x ∧ dJ l x ≤ b) ∧ b - a < sumI (fun x => decide (a ≤ aJ l x) && decide (dJ l x ≤ b)) (cJ l) (idx l.length)
theorem Over_iff (l : List SJob) (p q : Int) : OverTo l l.length 0 p q ↔ Over l p q := by
  constructor
  · rintro ⟨i', k', hik, hi', h1, h2, h3, h4⟩; exact ⟨i', k', hi', by omega, h1, h2, h3, h4⟩
  · rintro ⟨i', k', hi', hk', h1, h2, h3, h4⟩; exact ⟨i', k', .inl ⟨hi', hk'⟩, hi', h1, h2, h3, h4⟩
def cmpD (l : List SJob) (x y : Int) : Int := if dJ l x < dJ l y then -1 else if dJ l x > dJ l y then 1 else if x < y then -1 else if x > y then 1 else 0
theorem cmpD_neg (l : List SJob) (x y : Int) : cmpD l x y < 0 ↔ (dJ l x < dJ l y ∨ (dJ l x = dJ l y ∧ x < y)) := by
  unfold cmpD
  split
  · omega
  · split
    · omega
    · split
      · omega
      · split <;> omega
theorem Judge_cmp_eq (l : List SJob) (K : Nat) (hK : 3 ≤ K) {x y : Int} (hx : x ∈ idx l.length) (hy : y ∈ idx l.length) : edf_Judge_1.f K x y l = some (cmpD l x y) := by
  have h1 := mem_idx.1 hx
  have h2 := mem_idx.1 hy
  have e1 : l[x.toNat]? = some (l[x.toNat]'(by omega)) := List.getElem?_eq_getElem _
  have e2 : l[y.toNat]? = some (l[y.toNat]'(by omega)) := List.getElem?_eq_getElem _
  obtain ⟨_, d1, _⟩ := aJ_some e1
  obtain ⟨_, d2, _⟩ := aJ_some e2
  simp only [edf_Judge_1.f, if_pos h1.1, e1, if_pos h2.1, e2, compare_eq, or2_eq _ _ K hK]
  rw [← d1, ← d2]
  unfold cmpD
  congr 1
  split
  · rfl
  · split
    · rfl
    · rfl
theorem Judge_okCmp (l : List SJob) (K : Nat) (hK : 3 ≤ K) : OkCmp (fun x y => edf_Judge_1.f K x y l) (idx l.length) := by
  have e : ∀ x ∈ idx l.length, ∀ y ∈ idx l.length, (edf_Judge_1.f K x y l).getD 0 = cmpD l x y := fun x hx y hy => by rw [Judge_cmp_eq l K hK hx hy]; rfl
  refine ⟨fun x hx y hy => ⟨_, Judge_cmp_eq l K hK hx hy⟩, fun x hx => ?_, fun x hx y hy z hz h1 h2 => ?_, fun x hx y hy z hz h1 h2 => ?_, fun x hx y hy h1 h2 => ?_⟩
  · simp only [e x hx x hx, cmpD_neg]; omega
  · simp only [e x hx y hy, e y hy z hz, e x hx z hz, cmpD_neg] at h1 h2 ⊢; omega
  · simp only [e x hx y hy, e y hy z hz, e x hx z hz, cmpD_neg] at h1 h2 ⊢; omega
  · simp only [e x hx y hy, e y hy x hx, cmpD_neg] at h1 h2; omega
def leD (l : List SJob) (x y : Int) : Bool := !(decide (dJ l y < dJ l x ∨ (dJ l y = dJ l x ∧ y < x)))
theorem leD_iff (l : List SJob) (x y : Int) : leD l x y = true ↔ ¬ (dJ l y < dJ l x ∨ (dJ l y = dJ l x ∧ y < x)) := by
  unfold leD
  rw [Bool.not_eq_true', decide_eq_false_iff_not]
/-- the jobs in the order of their due times -/
theorem Judge_sorted (l : List SJob) (K : Nat) (hK : 3 ≤ K) : ∃ R, sortF (fun x y => edf_Judge_1.f K x y l) (idx l.length) = some R ∧ R.Perm (idx l.length) ∧ R.Pairwise (fun x y => dJ l x ≤ dJ l y) := by
  have e : (idx l.length).mergeSort (fun x y => !(decide ((edf_Judge_1.f K y x l).getD 0 < 0))) = (idx l.length).mergeSort (leD l) := by
    have := List.map_mergeSort (f := fun x : Int => x) (r := fun x y => !(decide ((edf_Judge_1.f K y x l).getD 0 < 0))) (s := leD l) (l := idx l.length) (fun a ha b hb => by
      rw [Judge_cmp_eq l K hK hb ha]
      unfold leD
      congr 1
      exact decide_eq_decide.2 (cmpD_neg l b a))
    simpa using this
  refine ⟨(idx l.length).mergeSort (leD l), ?_, List.mergeSort_perm _ _, ?_⟩
  · unfold sortF
    rw [if_pos (Judge_okCmp l K hK), e]
  · have := List.pairwise_mergeSort (le := leD l) (fun a b c h1 h2 => by rw [leD_iff] at *; omega) (fun a b => by
      have h1 := leD_iff l a b
      have h2 := leD_iff l b a
      by_cases h : leD l a b = true
      · simp [h]
      · have : leD l b a = true := h2.2 (fun hh => h (h1.2 (by omega)))
        simp [this]) (idx l.length)
    exact this.imp (fun {a b} h => by rw [leD_iff] at h; omega)
theorem Judge_r0_eq (l : List SJob) (hl : l.length ≤ 4000) (K : Nat) (hK : 4010 ≤ K) : iter (edf_Judge.r0 l) K (0, List.replicate l.length 0) = some (.inl (idx l.length)) := by
  have key := iter_rel (ρ := Int × Int × SFault) (f := edf_Judge.r0 l) (fun i s => s.1 = (i : Int) ∧ s.2.length = l.length ∧ ∀ q : Nat, q < i → s.2[q]? = some (q : Int)) (fun r => r = idx l.length) l.length (fun i s hi hR => by
    obtain ⟨z1, m1⟩ := s
    obtain ⟨rfl, h1, h2⟩ := hR
    simp only at hi h1 h2 ⊢
    have hy : m1[i]? = some (m1.getD i 0) := get_of_lt (by omega)
    have hw : IntKind.i64.wrap ((i : Int) + 1) = ((i + 1 : Nat) : Int) := by rw [wrap64_small (by omega) (by omega)]; omega
    simp only [edf_Judge.r0, List.length_replicate, if_pos (show (i : Int) < (l.length : Int) by omega), if_pos (show (0 : Int) ≤ (i : Int) by omega), Int.toNat_natCast, hy, hw]
    refine ⟨_, rfl, rfl, by simp [h1], fun q hq => ?_⟩
    simp only [List.getElem?_set]
    by_cases hqi : i = q
    · subst hqi; rw [if_pos rfl, if_pos (by omega)]
    · rw [if_neg hqi]; exact h2 q (by omega)) (fun s hR => by
    obtain ⟨z1, m1⟩ := s
    obtain ⟨rfl, h1, h2⟩ := hR
    simp only at h1 h2
    refine ⟨m1, by simp [edf_Judge.r0], ?_⟩
    apply List.ext_getElem?
    intro q
    by_cases hq : q < l.length
    · rw [h2 q hq]; simp [idx, hq]
    · rw [List.getElem?_eq_none (show m1.length ≤ q by omega), List.getElem?_eq_none (by simp [idx]; omega)]) (K := K) (by omega) (s := (0, List.replicate l.length 0)) ⟨rfl, by simp, fun q hq => by omega⟩
  obtain ⟨_, h1, rfl⟩ := key
  exact h1
def OverS (l : List SJob) (R : List Int) (i m : Nat) (a b : Int) : Prop := ∃ (i' m' : Nat) (x : Int), (i' < i ∧ m' < R.length ∨ i' = i ∧ m' < m) ∧ i' < l.length ∧ R[m']? = some x ∧ a = aJ l i' ∧ b = dJ l x ∧ a ≤ aJ l x ∧ b - a < sumI (fun y => decide (a ≤ aJ l y)) (cJ l) (R.take (m' + 1))
theorem take_succ_get {R : List Int} {m : Nat} {x : Int} (h : R[m]? = some x) : R.take (m + 1) = R.take m ++ [x] := by rw [List.take_add_one, h]; rfl
theorem Judge_r2_eq (l : List SJob) (hj : ∀ e ∈ l, Okj e) (hl : l.length ≤ 4000) (R : List Int) (hR : R.Perm (idx l.length)) (i : Nat) (hi : i < l.length) (a b : Int) (f : Bool) (h : Rep (OverS l R i 0) a b f) (K : Nat) (hK : 4010 ≤ K) :
    ∃ a' b' f', iter (edf_Judge.r2 l R l[i]) K (a, b, f, 0, 0) = some (.inl (a', b', f')) ∧ Rep (OverS l R (i + 1) 0) a' b' f' := by
  have hxi : l[i]? = some l[i] := List.getElem?_eq_getElem hi
  have h3i := aJ_some (l := l) (x := (i : Int)) (e := l[i]) (by rw [Int.toNat_natCast]; exact hxi)
  have hoi := hj _ (List.getElem_mem hi)
  have hRl : R.length = l.length := by rw [hR.length_eq]; simp [idx]
  have key := iter_rel (ρ := Int × Int × SFault) (f := edf_Judge.r2 l R l[i]) (fun k s => s.2.2.2.2 = k ∧ s.2.2.2.1 = sumI (fun y => decide (l[i].At ≤ aJ l y)) (cJ l) (R.take k) ∧ Rep (OverS l R i k) s.1 s.2.1 s.2.2.1) (fun r => Rep (OverS l R (i + 1) 0) r.1 r.2.1 r.2.2) R.length (fun k s hk hS => by
    obtain ⟨z6, z7, q3, z8, i2⟩ := s
    obtain ⟨h0, hz, hS⟩ := hS
    simp only at hk h0 hz hS ⊢
    subst h0
    subst hz
    have hx : R[i2]? = some R[i2] := List.getElem?_eq_getElem hk
    have hxm : R[i2] ∈ idx l.length := hR.mem_iff.1 (List.getElem_mem hk)
    generalize R[i2] = x at hx hxm
    have hxr := mem_idx.1 hxm
    have he : l[x.toNat]? = some (l[x.toNat]'(by omega)) := List.getElem?_eq_getElem _
    have h3 := aJ_some he
    have ho := hj _ (List.mem_of_getElem? he)
    generalize l[x.toNat]'(by omega) = e at he h3 ho
    have hA := hoi.At; have hD := ho.Due; have hC := ho.C
    have hsub : ∀ y ∈ R.take i2, y ∈ idx l.length := fun y hy => hR.mem_iff.1 (List.mem_of_mem_take hy)
    have hb := sumI_le (p := fun y => decide (l[i].At ≤ aJ l y)) (g := cJ l) (B := 10000) (by omega) (a := R.take i2) (fun y hy => (cJ_bounds hj (hsub y hy)).1.2)
    have hn := sumI_nonneg (p := fun y => decide (l[i].At ≤ aJ l y)) (g := cJ l) (a := R.take i2) (fun y hy => by have := (cJ_bounds hj (hsub y hy)).1.1; omega)
    have hlen : (R.take i2).length ≤ 4000 := by simp only [List.length_take]; omega
    have hsum : sumI (fun y => decide (l[i].At ≤ aJ l y)) (cJ l) (R.take (i2 + 1)) = sumI (fun y => decide (l[i].At ≤ aJ l y)) (cJ l) (R.take i2) + (if l[i].At ≤ e.At then e.C else 0) := by
      rw [take_succ_get hx, sumI_append]
      simp only [sumI, h3.1, h3.2.2, decide_eq_true_eq, Int.add_zero]
    have hset : ∀ p q, OverS l R i (i2 + 1) p q ↔ OverS l R i i2 p q ∨ (p = l[i].At ∧ q = e.Due ∧ l[i].At ≤ e.At ∧ e.Due - l[i].At < sumI (fun y => decide (l[i].At ≤ aJ l y)) (cJ l) (R.take (i2 + 1))) := fun p q => by
      constructor
      · rintro ⟨i', m', x', him, hi', hx', rfl, rfl, hle, hs⟩
        by_cases hlast : i' = i ∧ m' = i2
        · obtain ⟨rfl, rfl⟩ := hlast
          rw [hx] at hx'
          cases hx'
          rw [h3i.1] at hle hs
          rw [h3.1] at hle
          rw [h3.2.1] at hs
          exact .inr ⟨h3i.1, h3.2.1, hle, hs⟩
        · exact .inl ⟨i', m', x', by omega, hi', hx', rfl, rfl, hle, hs⟩
      · rintro (⟨i', m', x', him, hi', hx', hp, hq, hle, hs⟩ | ⟨rfl, rfl, hle, hs⟩)
        · exact ⟨i', m', x', by omega, hi', hx', hp, hq, hle, hs⟩
        · exact ⟨i, i2, x, .inr ⟨rfl, by omega⟩, hi, hx, h3i.1.symm, h3.2.1.symm, by rw [h3.1]; exact hle, hs⟩
    simp only [edf_Judge.r2, if_pos (show (i2 : Int) < (R.length : Int) by omega), hx, if_pos hxr.1, he]
    by_cases hlt : e.At < l[i].At
    · rw [if_pos hlt]
      rw [if_neg (show ¬ l[i].At ≤ e.At by omega), Int.add_zero] at hsum
      exact ⟨_, rfl, rfl, hsum.symm, hS.iff fun p q => by
        rw [hset p q]
        exact ⟨.inl, fun h => h.resolve_right (fun h => by omega)⟩⟩
    · rw [if_neg hlt]
      rw [if_pos (show l[i].At ≤ e.At by omega)] at hsum
      have hw1 : IntKind.i64.wrap (sumI (fun y => decide (l[i].At ≤ aJ l y)) (cJ l) (R.take i2) + e.C) = sumI (fun y => decide (l[i].At ≤ aJ l y)) (cJ l) (R.take i2) + e.C := wrap64_small (by omega) (by omega)
      have hw2 : IntKind.i64.wrap (e.Due - l[i].At) = e.Due - l[i].At := wrap64_small (by omega) (by omega)
      rw [hw1, hw2, ← hsum]
      by_cases hgt : sumI (fun y => decide (l[i].At ≤ aJ l y)) (cJ l) (R.take (i2 + 1)) > e.Due - l[i].At
      · rw [if_pos hgt]
        have hset' : ∀ p q, (OverS l R i i2 p q ∨ (p = l[i].At ∧ q = e.Due)) ↔ OverS l R i (i2 + 1) p q := fun p q => by
          rw [hset p q]
          constructor
          · rintro (h | ⟨h1, h2⟩)
            · exact .inl h
            · exact .inr ⟨h1, h2, by omega, hgt⟩
          · rintro (h | ⟨h1, h2, _⟩)
            · exact .inl h
            · exact .inr ⟨h1, h2⟩
        by_cases hf : q3 = true
        · rw [if_pos hf]
          by_cases c1 : l[i].At < z6
          · rw [if_pos c1]
            exact ⟨_, rfl, rfl, rfl, (hS.take (fun _ => .inl c1)).iff hset'⟩
          · rw [if_neg c1]
            by_cases c2 : l[i].At = z6
            · rw [if_pos c2]
              by_cases c3 : e.Due < z7
              · rw [if_pos c3]
                exact ⟨_, rfl, rfl, rfl, (hS.take (fun _ => .inr ⟨c2, c3⟩)).iff hset'⟩
              · rw [if_neg c3]
                exact ⟨_, rfl, rfl, rfl, (hS.keep ⟨hf, .inr ⟨c2.symm, by omega⟩⟩).iff hset'⟩
            · rw [if_neg c2]
              exact ⟨_, rfl, rfl, rfl, (hS.keep ⟨hf, .inl (by omega)⟩).iff hset'⟩
        · rw [if_neg hf]
          exact ⟨_, rfl, rfl, rfl, (hS.take (fun h => absurd h hf)).iff hset'⟩
      · rw [if_neg hgt]
        exact ⟨_, rfl, rfl, rfl, hS.iff fun p q => by
          rw [hset p q]
          exact ⟨.inl, fun h => h.resolve_right (fun h => hgt h.2.2.2)⟩⟩) (fun s hS => by
    obtain ⟨z6, z7, q3, z8, i2⟩ := s
    obtain ⟨h0, hz, hS⟩ := hS
    simp only at h0 hz hS
    subst h0
    refine ⟨(z6, z7, q3), by simp [edf_Judge.r2], hS.iff fun p q => ?_⟩
    constructor
    · rintro ⟨i', m', x', him, rest⟩; exact ⟨i', m', x', by omega, rest⟩
    · rintro ⟨i', m', x', him, rest⟩
      refine ⟨i', m', x', ?_, rest⟩
      omega) (K := K) (by omega) (s := (a, b, f, 0, 0)) ⟨rfl, rfl, h⟩
  obtain ⟨⟨a', b', f'⟩, h1, h2⟩ := key
  exact ⟨a', b', f', h1, h2⟩
/-- the last of some -/
theorem last_of {p : Nat → Prop} (n m : Nat) (hm : m < n) (h : p m) : ∃ k, k < n ∧ p k ∧ ∀ j, k < j → j < n → ¬ p j := by
  induction n with
  | zero => omega
  | succ n ih =>
    by_cases hn : p n
    · exact ⟨n, by omega, hn, fun j h1 h2 => by omega⟩
    · have hmn : m < n := by
        by_cases e : m = n
        · subst e; exact absurd h hn
        · omega
      obtain ⟨k, h1, h2, h3⟩ := ih hmn
      refine ⟨k, by omega, h2, fun j h4 h5 => ?_⟩
      by_cases e : j = n
      · subst e; exact hn
      · exact h3 j h4 (by omega)
theorem OverS_over {l : List SJob} (hj : ∀ e ∈ l, Okj e) {R : List Int} (hR : R.Perm (idx l.length)) (hS : R.Pairwise (fun x y => dJ l x ≤ dJ l y)) : (∀ p q, OverS l R l.length 0 p q → Over l p q) ∧ (∀ p q, Over l p q → ∃ q', q' ≤ q ∧ OverS l R l.length 0 p q') := by
  have hRl : R.length = l.length := by rw [hR.length_eq]; simp [idx]
  have hmem : ∀ {m : Nat} {x : Int}, R[m]? = some x → x ∈ idx l.length := fun h => hR.mem_iff.1 (List.mem_of_getElem? h)
  have hord : ∀ {m m' : Nat} {x y : Int}, m ≤ m' → R[m]? = some x → R[m']? = some y → dJ l x ≤ dJ l y := fun {m m' x y} hle hx hy => by
    by_cases he : m = m'
    · subst he; rw [hx] at hy; cases hy; exact Int.le_refl _
    · have h := List.pairwise_iff_getElem.1 hS m m' (lt_of_get hx) (lt_of_get hy) (by omega)
      have g1 : R[m]'(lt_of_get hx) = x := by have := List.getElem?_eq_getElem (lt_of_get hx); rw [hx] at this; exact (Option.some.inj this).symm
      have g2 : R[m']'(lt_of_get hy) = y := by have := List.getElem?_eq_getElem (lt_of_get hy); rw [hy] at this; exact (Option.some.inj this).symm
      rw [g1, g2] at h
      exact h
  have htake : ∀ {m : Nat} {y : Int}, y ∈ R.take m → ∃ k, k < m ∧ R[k]? = some y := fun {m y} hy => by
    obtain ⟨k, hk⟩ := List.mem_iff_getElem?.1 hy
    rw [List.getElem?_take] at hk
    split at hk
    · exact ⟨k, by assumption, hk⟩
    · cases hk
  have hdrop : ∀ {m : Nat} {y : Int}, y ∈ R.drop m → ∃ k, m ≤ k ∧ R[k]? = some y := fun {m y} hy => by
    obtain ⟨k, hk⟩ := List.mem_iff_getElem?.1 hy
    rw [List.getElem?_drop] at hk
    exact ⟨m + k, by omega, hk⟩
  have hsplit : ∀ (p : Int → Bool) (m : Nat), sumI p (cJ l) (idx l.length) = sumI p (cJ l) (R.take m) + sumI p (cJ l) (R.drop m) := fun p m => by
    rw [← sumI_append, List.take_append_drop]
    exact (sumI_perm p (cJ l) hR).symm
  refine ⟨?_, ?_⟩
  · rintro p q ⟨i', m', x, him, hi', hx, rfl, rfl, hle, hs⟩
    have hxm := hmem hx
    have hxr := mem_idx.1 hxm
    have hxe : ((x.toNat : Nat) : Int) = x := by omega
    refine ⟨i', x.toNat, hi', by omega, rfl, by rw [hxe], ⟨x, hxm, hle, Int.le_refl _⟩, ?_⟩
    rw [hsplit _ (m' + 1)]
    have h1 : sumI (fun y => decide (aJ l i' ≤ aJ l y) && decide (dJ l y ≤ dJ l x)) (cJ l) (R.take (m' + 1)) = sumI (fun y => decide (aJ l i' ≤ aJ l y)) (cJ l) (R.take (m' + 1)) := sumI_congr (fun y hy => by
      obtain ⟨k, hk, hky⟩ := htake hy
      have := hord (show k ≤ m' by omega) hky hx
      simp [this])
    have h2 := sumI_nonneg (p := fun y => decide (aJ l i' ≤ aJ l y) && decide (dJ l y ≤ dJ l x)) (g := cJ l) (a := R.drop (m' + 1)) (fun y hy => by
      obtain ⟨k, _, hky⟩ := hdrop hy
      have := (cJ_bounds hj (hmem hky)).1.1
      omega)
    omega
  · rintro p q ⟨i', k', hi', hk', rfl, rfl, ⟨x0, hx0, hx1, hx2⟩, hs⟩
    have hx0R : x0 ∈ R := hR.mem_iff.2 hx0
    obtain ⟨m0, hm0⟩ := List.mem_iff_getElem?.1 hx0R
    obtain ⟨m, hm, ⟨x, hx, hxa, hxd⟩, hlast⟩ := last_of (p := fun m => ∃ x, R[m]? = some x ∧ aJ l i' ≤ aJ l x ∧ dJ l x ≤ dJ l k') R.length m0 (lt_of_get hm0) ⟨x0, hm0, hx1, hx2⟩
    refine ⟨dJ l x, hxd, i', m, x, .inl ⟨hi', hm⟩, hi', hx, rfl, rfl, hxa, ?_⟩
    rw [hsplit _ (m + 1)] at hs
    have h1 : sumI (fun y => decide (aJ l i' ≤ aJ l y) && decide (dJ l y ≤ dJ l k')) (cJ l) (R.take (m + 1)) = sumI (fun y => decide (aJ l i' ≤ aJ l y)) (cJ l) (R.take (m + 1)) := sumI_congr (fun y hy => by
      obtain ⟨k, hk, hky⟩ := htake hy
      have := hord (show k ≤ m by omega) hky hx
      simp [show dJ l y ≤ dJ l k' by omega])
    have h2 : sumI (fun y => decide (aJ l i' ≤ aJ l y) && decide (dJ l y ≤ dJ l k')) (cJ l) (R.drop (m + 1)) = 0 := sumI_none (fun y hy => by
      obtain ⟨k, hk, hky⟩ := hdrop hy
      have hno := hlast k (by omega) (lt_of_get hky)
      by_cases c1 : aJ l i' ≤ aJ l y
      · by_cases c2 : dJ l y ≤ dJ l k'
        · exact absurd ⟨y, hky, c1, c2⟩ hno
        · simp [c2]
      · simp [c1])
    omega
theorem Judge_eq (l : List SJob) (K : Nat) (hK : 5010 ≤ K) : ((playFault l).Code ≠ 0 ∧ edf_Judge.f K l = some (0, 0, playFault l)) ∨
    ((playFault l).Code = 0 ∧ ∃ a b f, Rep (Over l) a b f ∧ edf_Judge.f K l = some (if f = true then (a, b, ⟨13, 0⟩) else (0, 0, ⟨0, 0⟩))) := by
  unfold edf_Judge.f
  rw [schedCheck_eq l K (by omega)]
  simp only
  by_cases hc : (playFault l).Code = 0
  · right
    rw [if_pos hc]
    obtain ⟨hl, _, hj⟩ := playFault_ok hc
    refine ⟨hc, ?_⟩
    obtain ⟨R, hR1, hR2, hR3⟩ := Judge_sorted l K (by omega)
    have hRl : R.length = l.length := by rw [hR2.length_eq]; simp [idx]
    rw [if_pos (by omega), Judge_r0_eq l hl K (by omega)]
    simp only [hR1]
    have key := iter_rel (ρ := Int × Int × SFault) (f := edf_Judge.r1 K l R) (fun i s => s.2.2.2 = i ∧ Rep (OverS l R i 0) s.1 s.2.1 s.2.2.1) (fun r => Rep (Over l) r.1 r.2.1 r.2.2) l.length (fun i s hi hS => by
      obtain ⟨z1, z2, q1, i1⟩ := s
      obtain ⟨rfl, hS⟩ := hS
      simp only at hi hS ⊢
      obtain ⟨a', b', f', e1, e2⟩ := Judge_r2_eq l hj hl R hR2 i1 hi z1 z2 q1 hS K (by omega)
      simp only [edf_Judge.r1, if_pos (show (i1 : Int) < (l.length : Int) by omega), List.getElem?_eq_getElem hi, e1]
      exact ⟨_, rfl, rfl, e2⟩) (fun s hS => by
      obtain ⟨z1, z2, q1, i1⟩ := s
      obtain ⟨rfl, hS⟩ := hS
      obtain ⟨g1, g2⟩ := OverS_over hj hR2 hR3
      exact ⟨(z1, z2, q1), by simp [edf_Judge.r1], hS.dom g1 g2⟩) (K := K) (by omega) (s := (0, 0, false, 0)) ⟨rfl, .inl ⟨rfl, fun p q h => by
        obtain ⟨i', k', x, hik, _⟩ := h
        omega⟩⟩
    obtain ⟨⟨a, b, f⟩, h1, h2⟩ := key
    refine ⟨a, b, f, h2, ?_⟩
    rw [h1]
    cases f <;> rfl
  · left
    rw [if_neg hc]
    exact ⟨hc, rfl⟩
/-- jobs that are due till then, as a level -/
theorem simP_levelD {jobs : List SJob} (hj : ∀ e ∈ jobs, Okj e) (D : Int) : Level jobs.length (leftP 2 true jobs) (fun j => ∃ e, jobs[j]? = some e ∧ e.Due ≤ D) (atN jobs) (costOf jobs) := by
  refine ⟨fun j _ => leftP_zero 2 true jobs j, leftP_nonneg 2 true hj, leftP_down 2 true hj, fun t j hjl hr => ?_, fun t ⟨j, hjl, ⟨e, he, hP⟩, hr, hL⟩ => ?_⟩
  · have he : jobs[j]? = some jobs[j] := List.getElem?_eq_getElem hjl
    rw [atN_some he] at hr
    rcases leftP_step 2 true hj t with ⟨_, h⟩ | ⟨b, hb0, hb1, hpos, h1, _, h⟩
    · exact (h j).1
    · refine (h j ?_).1
      rintro rfl
      rcases runP_first 2 hj t with ⟨g1, _⟩ | ⟨b', y, g1, g2, g3, _⟩
      · omega
      · have : b' = j := by omega
        subst this
        rw [he] at g2
        cases g2
        omega
  · rw [atN_some he] at hr
    have hA := (hj e (List.mem_of_getElem? he)).At
    rcases runP_first 2 hj t with ⟨_, h⟩ | ⟨b, y, g1, g2, g3, g4, g5⟩
    · exact absurd ⟨by omega, hL⟩ (h j e he)
    · have hn := (g5 j e he (by omega) hL).1
      have hPb : y.Due ≤ D := by
        unfold aheadJ at hn
        rw [if_neg (by decide)] at hn
        omega
      rcases leftP_step 2 true hj t with ⟨k1, _⟩ | ⟨b', k1, k2, k3, k4, _, k6⟩
      · omega
      · have : b' = b := by omega
        subst this
        have hAb := (hj y (List.mem_of_getElem? g2)).At
        exact ⟨b', k2, ⟨y, g2, hPb⟩, by rw [atN_some g2]; omega, k3, k4, fun i _ hne => (k6 i hne).1⟩
/-- who of a level isn't done in time: more of it came behind some time than can be done till then -/
theorem Level.late {n : Nat} {L : Nat → Nat → Int} {H : Nat → Prop} [DecidablePred H] {r : Nat → Nat} {c : Nat → Int} (h : Level n L H r c) {d k : Nat} (hk : k < n) (hHk : H k) (hL : 0 < L d k) :
    ∃ t0, t0 ≤ r k ∧ (t0 ≤ d → (d : Int) - t0 < sumN (fun j => if H j ∧ t0 ≤ r j then c j else 0) n) := by
  obtain ⟨t0, ht0, hid, hlast⟩ := exists_last (p := fun t => ∀ j, j < n → H j → r j < t → L t j = 0) d (fun j _ _ h => by omega)
  have ht0k : t0 ≤ r k := by
    apply Nat.le_of_not_lt
    intro hlt
    have h1 := hid k hk hHk hlt
    have h2 := h.mono ht0 k
    omega
  refine ⟨t0, ht0k, fun _ => ?_⟩
  have hall : ∀ t, t0 ≤ t → t < d → ∃ j, j < n ∧ H j ∧ r j ≤ t ∧ 0 < L t j := fun t h1 h2 => Classical.byContradiction fun hno => hlast (t + 1) (by omega) (by omega) (fun j hj hHj hr => by
    have g1 := h.nonneg t j
    have g2 := h.nonneg (t + 1) j
    have g3 := h.down t j
    have : ¬ 0 < L t j := fun hp => hno ⟨j, hj, hHj, by omega, hp⟩
    omega)
  have hA : ∀ e, t0 + e ≤ d → sumN (fun j => if H j ∧ t0 ≤ r j then L (t0 + e) j else 0) n ≤ sumN (fun j => if H j ∧ t0 ≤ r j then c j else 0) n - e := by
    intro e
    induction e with
    | zero =>
      intro _
      rw [sumN_congr (g := fun j => if H j ∧ t0 ≤ r j then c j else 0) (fun j hj => by
        by_cases hc : H j ∧ t0 ≤ r j
        · rw [if_pos hc, if_pos hc]; exact h.still hj hc.2
        · rw [if_neg hc, if_neg hc])]
      omega
    | succ e ih =>
      intro he
      have ih := ih (by omega)
      obtain ⟨b, hb, hHb, hrb, hLb, hstep, hoth⟩ := h.runs (t0 + e) (hall (t0 + e) (by omega) (by omega))
      have hrb0 : t0 ≤ r b := by
        apply Nat.le_of_not_lt
        intro hlt
        have h1 := hid b hb hHb hlt
        have h2 := h.mono (show t0 ≤ t0 + e by omega) b
        omega
      have := sumN_one (f := fun j => if H j ∧ t0 ≤ r j then L (t0 + (e + 1)) j else 0) (g := fun j => if H j ∧ t0 ≤ r j then L (t0 + e) j else 0) (b := b) (d := -1) hb (by
        rw [if_pos ⟨hHb, hrb0⟩, if_pos ⟨hHb, hrb0⟩]
        show L (t0 + e + 1) b = _
        rw [hstep]; omega) (fun j hj hne => by
        by_cases hc : H j ∧ t0 ≤ r j
        · rw [if_pos hc, if_pos hc]; exact hoth j hj hne
        · rw [if_neg hc, if_neg hc])
      omega
  have hend := hA (d - t0) (by omega)
  have h1 := sumN_term (f := fun j => if H j ∧ t0 ≤ r j then L (t0 + (d - t0)) j else 0) (n := n) (k := k) (fun i _ => by
    by_cases hc : H i ∧ t0 ≤ r i
    · rw [if_pos hc]; exact h.nonneg _ _
    · rw [if_neg hc]; exact Int.le_refl _) hk
  rw [if_pos ⟨hHk, ht0k⟩, show t0 + (d - t0) = d by omega] at h1
  rw [show t0 + (d - t0) = d by omega] at hend
  omega
theorem sumI_idx (p : Int → Bool) (g : Int → Int) : ∀ n, sumI p g (idx n) = sumN (fun j => if p (j : Int) = true then g (j : Int) else 0) n
  | 0 => rfl
  | n + 1 => by
    rw [idx_succ, sumI_append, sumI_idx p g n]
    simp only [sumI, sumN, Int.add_zero]
theorem cost_cJ {l : List SJob} {j : Nat} {e : SJob} (h : l[j]? = some e) : costOf l j = cJ l (j : Int) ∧ aJ l (j : Int) = e.At ∧ dJ l (j : Int) = e.Due ∧ cJ l (j : Int) = e.C := by
  obtain ⟨h1, h2, h3⟩ := aJ_some (l := l) (x := (j : Int)) (e := e) (by rw [Int.toNat_natCast]; exact h)
  exact ⟨by rw [costOf_some h, h3], h1, h2, h3⟩
/-- who is late by the due times: there is a time in which more must be done than can -/
theorem late_over {l : List SJob} (hj : ∀ e ∈ l, Okj e) {k : Nat} {e : SJob} (he : l[k]? = some e) (hL : 0 < leftP 2 true l e.Due.toNat k) : ∃ a b, Over l a b := by
  have hk := lt_of_get he
  have ho := hj e (List.mem_of_getElem? he)
  have hA := ho.At; have hD := ho.Due; have hC := ho.C
  obtain ⟨_, ha, hd, hc⟩ := cost_cJ he
  have hkm : (k : Int) ∈ idx l.length := mem_idx.2 (by omega)
  have hnn : ∀ j, j < l.length → 0 ≤ cJ l (j : Int) := fun j hjl => by have := (cJ_bounds hj (x := (j : Int)) (mem_idx.2 (by omega))).1.1; omega
  haveI hdec : DecidablePred fun j : Nat => ∃ x : SJob, l[j]? = some x ∧ x.Due ≤ e.Due := fun _ => Classical.propDecidable _
  obtain ⟨t0, h1, h2⟩ := (simP_levelD hj e.Due).late (d := e.Due.toNat) hk ⟨e, he, Int.le_refl _⟩ hL
  rw [atN_some he] at h1
  by_cases hlt : e.At < e.Due
  · have h3 := h2 (by omega)
    obtain ⟨v, ⟨i, hi, ⟨y, hy, hyD⟩, hyt, rfl⟩, hmin⟩ := exists_least (S := fun v => ∃ i, i < l.length ∧ (∃ x, l[i]? = some x ∧ x.Due ≤ e.Due) ∧ t0 ≤ atN l i ∧ atN l i = v) ⟨atN l k, k, hk, ⟨e, he, Int.le_refl _⟩, by rw [atN_some he]; exact h1, rfl⟩
    obtain ⟨_, hya, _, _⟩ := cost_cJ hy
    have hyA := (hj y (List.mem_of_getElem? hy)).At
    rw [atN_some hy] at hyt hmin
    refine ⟨aJ l (i : Int), dJ l (k : Int), i, k, hi, hk, rfl, rfl, ⟨(k : Int), hkm, ?_, Int.le_refl _⟩, ?_⟩
    · have := hmin (atN l k) ⟨k, hk, ⟨e, he, Int.le_refl _⟩, by rw [atN_some he]; exact h1, rfl⟩
      rw [atN_some he] at this
      rw [hya, ha]; omega
    · rw [sumI_idx]
      have hle : sumN (fun j => if (∃ x, l[j]? = some x ∧ x.Due ≤ e.Due) ∧ t0 ≤ atN l j then costOf l j else 0) l.length ≤ sumN (fun j => if (decide (aJ l (i : Int) ≤ aJ l (j : Int)) && decide (dJ l (j : Int) ≤ dJ l (k : Int))) = true then cJ l (j : Int) else 0) l.length := sumN_le (fun j hjl => by
        have hx : l[j]? = some l[j] := List.getElem?_eq_getElem hjl
        obtain ⟨c1, c2, c3, c4⟩ := cost_cJ hx
        have hn := hnn j hjl
        have hxA := (hj _ (List.mem_of_getElem? hx)).At
        by_cases hc' : (∃ x, l[j]? = some x ∧ x.Due ≤ e.Due) ∧ t0 ≤ atN l j
        · obtain ⟨⟨x, hx', hxD⟩, hxt⟩ := hc'
          rw [hx] at hx'
          cases hx'
          have hm := hmin (atN l j) ⟨j, hjl, ⟨_, hx, hxD⟩, hxt, rfl⟩
          rw [atN_some hx] at hm
          rw [if_pos ⟨⟨_, hx, hxD⟩, hxt⟩, if_pos (by rw [Bool.and_eq_true, decide_eq_true_eq, decide_eq_true_eq, c2, c3, hya, hd]; omega), c1]
          exact Int.le_refl _
        · rw [if_neg hc']
          split
          · exact hn
          · exact Int.le_refl _)
      rw [hya, hd] at *
      omega
  · refine ⟨aJ l (k : Int), dJ l (k : Int), k, k, hk, hk, rfl, rfl, ⟨(k : Int), hkm, Int.le_refl _, Int.le_refl _⟩, ?_⟩
    rw [sumI_idx]
    have h4 := sumN_term (f := fun j => if (decide (aJ l (k : Int) ≤ aJ l (j : Int)) && decide (dJ l (j : Int) ≤ dJ l (k : Int))) = true then cJ l (j : Int) else 0) (n := l.length) (k := k) (fun i hi => by
      split
      · exact hnn i hi
      · exact Int.le_refl _) hk
    rw [if_pos (by simp)] at h4
    omega
/-- if all are done when they are due, then there is no time in which more must be done than can -/
theorem over_late {l : List SJob} (hj : ∀ e ∈ l, Okj e) (hdone : ∀ j, j < l.length → leftP 2 true l (dJ l (j : Int)).toNat j = 0) {a b : Int} (h : Over l a b) : False := by
  obtain ⟨i, k, hi, hk, rfl, rfl, ⟨x, hx, hx1, hx2⟩, hs⟩ := h
  have hbi := cJ_bounds hj (x := (i : Int)) (mem_idx.2 (by omega))
  have hbk := cJ_bounds hj (x := (k : Int)) (mem_idx.2 (by omega))
  have hlev := simP_levelD hj 80000
  have hat : ∀ j, j < l.length → (atN l j : Int) = aJ l (j : Int) := fun j hjl => by
    have hx : l[j]? = some l[j] := List.getElem?_eq_getElem hjl
    have := (hj _ (List.mem_of_getElem? hx)).At
    rw [atN_some hx, (cost_cJ hx).2.1]; omega
  by_cases hab : aJ l (i : Int) ≤ dJ l (k : Int)
  · have hstep : ∀ t, sumN (fun j => if (decide (aJ l (i : Int) ≤ aJ l (j : Int)) && decide (dJ l (j : Int) ≤ dJ l (k : Int))) = true then leftP 2 true l t j else 0) l.length ≤ sumN (fun j => if (decide (aJ l (i : Int) ≤ aJ l (j : Int)) && decide (dJ l (j : Int) ≤ dJ l (k : Int))) = true then leftP 2 true l (t + 1) j else 0) l.length + 1 := fun t => by
      rcases leftP_step 2 true hj t with ⟨_, g⟩ | ⟨c, _, hcl, _, g1, _, g⟩
      · rw [sumN_congr (g := fun j => if (decide (aJ l (i : Int) ≤ aJ l (j : Int)) && decide (dJ l (j : Int) ≤ dJ l (k : Int))) = true then leftP 2 true l (t + 1) j else 0) (fun j _ => by rw [(g j).1])]
        omega
      · by_cases hcS : (decide (aJ l (i : Int) ≤ aJ l (c : Int)) && decide (dJ l (c : Int) ≤ dJ l (k : Int))) = true
        · have := sumN_one (f := fun j => if (decide (aJ l (i : Int) ≤ aJ l (j : Int)) && decide (dJ l (j : Int) ≤ dJ l (k : Int))) = true then leftP 2 true l t j else 0) (g := fun j => if (decide (aJ l (i : Int) ≤ aJ l (j : Int)) && decide (dJ l (j : Int) ≤ dJ l (k : Int))) = true then leftP 2 true l (t + 1) j else 0) (b := c) (d := 1) hcl (by rw [if_pos hcS, if_pos hcS, g1]; omega) (fun j _ hne => by rw [(g j hne).1])
          omega
        · rw [sumN_congr (g := fun j => if (decide (aJ l (i : Int) ≤ aJ l (j : Int)) && decide (dJ l (j : Int) ≤ dJ l (k : Int))) = true then leftP 2 true l (t + 1) j else 0) (fun j _ => by
            by_cases hjc : j = c
            · subst hjc; rw [if_neg hcS, if_neg hcS]
            · rw [(g j hjc).1])]
          omega
    have hmany : ∀ d : Nat, sumN (fun j => if (decide (aJ l (i : Int) ≤ aJ l (j : Int)) && decide (dJ l (j : Int) ≤ dJ l (k : Int))) = true then leftP 2 true l (aJ l (i : Int)).toNat j else 0) l.length ≤ sumN (fun j => if (decide (aJ l (i : Int) ≤ aJ l (j : Int)) && decide (dJ l (j : Int) ≤ dJ l (k : Int))) = true then leftP 2 true l ((aJ l (i : Int)).toNat + d) j else 0) l.length + d := fun d => by
      induction d with
      | zero => simp
      | succ d ih =>
        have := hstep ((aJ l (i : Int)).toNat + d)
        rw [show (aJ l (i : Int)).toNat + d + 1 = (aJ l (i : Int)).toNat + (d + 1) by omega] at this
        omega
    have h1 := hmany ((dJ l (k : Int)).toNat - (aJ l (i : Int)).toNat)
    rw [show (aJ l (i : Int)).toNat + ((dJ l (k : Int)).toNat - (aJ l (i : Int)).toNat) = (dJ l (k : Int)).toNat by omega] at h1
    have h2 : sumN (fun j => if (decide (aJ l (i : Int) ≤ aJ l (j : Int)) && decide (dJ l (j : Int) ≤ dJ l (k : Int))) = true then leftP 2 true l (dJ l (k : Int)).toNat j else 0) l.length = 0 := sumN_zero (fun j hjl => by
      by_cases hS : (decide (aJ l (i : Int) ≤ aJ l (j : Int)) && decide (dJ l (j : Int) ≤ dJ l (k : Int))) = true
      · rw [if_pos hS]
        rw [Bool.and_eq_true, decide_eq_true_eq, decide_eq_true_eq] at hS
        have g1 := hdone j hjl
        have g2 := leftP_mono 2 true hj (show (dJ l (j : Int)).toNat ≤ (dJ l (k : Int)).toNat by omega) j
        have g3 := leftP_nonneg 2 true hj (dJ l (k : Int)).toNat j
        omega
      · rw [if_neg hS])
    have h3 : sumN (fun j => if (decide (aJ l (i : Int) ≤ aJ l (j : Int)) && decide (dJ l (j : Int) ≤ dJ l (k : Int))) = true then leftP 2 true l (aJ l (i : Int)).toNat j else 0) l.length = sumI (fun y => decide (aJ l (i : Int) ≤ aJ l y) && decide (dJ l y ≤ dJ l (k : Int))) (cJ l) (idx l.length) := by
      rw [sumI_idx]
      refine sumN_congr (fun j hjl => ?_)
      by_cases hS : (decide (aJ l (i : Int) ≤ aJ l (j : Int)) && decide (dJ l (j : Int) ≤ dJ l (k : Int))) = true
      · rw [if_pos hS, if_pos hS]
        rw [Bool.and_eq_true, decide_eq_true_eq, decide_eq_true_eq] at hS
        have hx : l[j]? = some l[j] := List.getElem?_eq_getElem hjl
        have h4 := hat j hjl
        rw [hlev.still hjl (by omega), (cost_cJ hx).1]
      · rw [if_neg hS, if_neg hS]
    omega
  · have hxr := mem_idx.1 hx
    obtain ⟨n, rfl⟩ := Int.eq_ofNat_of_zero_le hxr.1
    have hnl : n < l.length := by omega
    have hxe : l[n]? = some l[n] := List.getElem?_eq_getElem hnl
    have h4 := hat n hnl
    have hbn := cJ_bounds hj hx
    have g1 := hdone n hnl
    rw [hlev.still hnl (by omega), (cost_cJ hxe).1] at g1
    omega

theorem late_iff {l : List SJob} (hj : ∀ e ∈ l, Okj e) (E : Nat) (hE : ∀ j, j < l.length → dJ l (j : Int) ≤ (E : Int)) :
    lateTill l E (simP 2 true l E).2.2 l.length = [] ↔ ∀ j, j < l.length → leftP 2 true l (dJ l (j : Int)).toNat j = 0 := by
  have hat : ∀ j, (hjl : j < l.length) → (lateAt l E (simP 2 true l E).2.2 j = true ↔ leftP 2 true l (dJ l (j : Int)).toNat j ≠ 0) := fun j hjl => by
    have hx : l[j]? = some l[j] := List.getElem?_eq_getElem hjl
    obtain ⟨_, _, hd, _⟩ := cost_cJ hx
    have hD := (hj _ (List.mem_of_getElem? hx)).Due
    have hle := hE j hjl
    have hn := leftP_nonneg 2 true hj (dJ l (j : Int)).toNat j
    unfold lateAt
    rw [hx, ends_get 2 true hj hjl E]
    simp only [Bool.or_eq_true, Bool.and_eq_true, decide_eq_true_eq]
    constructor
    · intro h hz
      have := endP_done 2 true hj hjl hz (show (dJ l (j : Int)).toNat ≤ E by omega)
      omega
    · intro hne
      have hsp := endP_spec 2 true hj hjl E
      have hnE := leftP_nonneg 2 true hj E j
      by_cases hp : 0 < leftP 2 true l E j
      · have := hsp.1 hp
        right
        omega
      · obtain ⟨s, h1, h2, h3, h4, h5⟩ := hsp.2 (by omega)
        left
        rw [h3]
        apply Int.lt_of_not_ge
        intro hle2
        have := leftP_mono 2 true hj (show s ≤ (dJ l (j : Int)).toNat by omega) j
        omega
  unfold lateTill
  rw [List.filterMap_eq_nil_iff]
  constructor
  · intro h j hjl
    have := h j (List.mem_range.2 hjl)
    apply Classical.byContradiction
    intro hne
    rw [if_pos ((hat j hjl).2 hne)] at this
    cases this
  · intro h j hjl
    rw [if_neg (fun hl => (hat j (List.mem_range.1 hjl)).1 hl (h j (List.mem_range.1 hjl)))]
/-- ticks from a to b, of the first i -/
def ticksW (a b : Int) (i : Nat) : Int := max 0 (min (i : Int) b - a)
theorem Best_r6_eq (l : List SJob) (hj : ∀ e ∈ l, Okj e) (order : List Int) (ho : order.length ≤ 3000) (hl : l.length ≤ 4000) (K : Nat) (hK : 4010 ≤ K) :
    ∃ m, iter (EdfBest.r6 l order) K (0, l.map (·.C)) = some (.inl m) ∧ m.length = l.length ∧ (∀ a b, 0 ≤ a → sumN (fun j => if (decide (a ≤ aJ l (j : Int)) && decide (dJ l (j : Int) ≤ b)) = true then cJ l (j : Int) - m.getD j 0 else 0) l.length ≤ max 0 (b - a)) := by
  have key := iter_rel (ρ := Bool) (f := EdfBest.r6 l order) (fun i s => s.1 = i ∧ s.2.length = l.length ∧ (∀ j, j < l.length → s.2.getD j 0 ≤ cJ l (j : Int)) ∧ ∀ a b, 0 ≤ a → sumN (fun j => if (decide (a ≤ aJ l (j : Int)) && decide (dJ l (j : Int) ≤ b)) = true then cJ l (j : Int) - s.2.getD j 0 else 0) l.length ≤ ticksW a b i)
    (fun r => r.length = l.length ∧ (∀ a b, 0 ≤ a → sumN (fun j => if (decide (a ≤ aJ l (j : Int)) && decide (dJ l (j : Int) ≤ b)) = true then cJ l (j : Int) - r.getD j 0 else 0) l.length ≤ max 0 (b - a))) order.length (fun i s hi hS => by
    obtain ⟨i4, m⟩ := s
    obtain ⟨h0, h1, h2, h3⟩ := hS
    simp only at h0 h1 h2 h3 hi ⊢
    subst h0
    have hx : order[i4]? = some order[i4] := List.getElem?_eq_getElem hi
    have hmono : ∀ a b, ticksW a b i4 ≤ ticksW a b (i4 + 1) := fun a b => by unfold ticksW; omega
    have stay : ∃ s', some (Sum.inl (i4 + 1, m)) = some (Sum.inl s' : (Nat × List Int) ⊕ (List Int ⊕ Bool)) ∧ s'.1 = i4 + 1 ∧ s'.2.length = l.length ∧ (∀ j, j < l.length → s'.2.getD j 0 ≤ cJ l (j : Int)) ∧ ∀ a b, 0 ≤ a → sumN (fun j => if (decide (a ≤ aJ l (j : Int)) && decide (dJ l (j : Int) ≤ b)) = true then cJ l (j : Int) - s'.2.getD j 0 else 0) l.length ≤ ticksW a b (i4 + 1) :=
      ⟨(i4 + 1, m), rfl, rfl, h1, h2, fun a b ha => by have := h3 a b ha; have := hmono a b; simp only; omega⟩
    simp only [EdfBest.r6, if_pos (show (i4 : Int) < (order.length : Int) by omega), hx]
    generalize order[i4] = v
    by_cases c1 : v ≥ 0
    · rw [if_pos c1]
      by_cases c2 : v < (l.length : Int)
      · obtain ⟨c, rfl⟩ := Int.eq_ofNat_of_zero_le c1
        have hcl : c < l.length := by omega
        have hy : l[c]? = some l[c] := List.getElem?_eq_getElem hcl
        obtain ⟨_, ya, yd, yc⟩ := cost_cJ hy
        have hz : m[c]? = some (m.getD c 0) := get_of_lt (by omega)
        rw [if_pos c2, if_pos c1]
        simp only [Int.toNat_natCast, hy]
        by_cases c3 : l[c].At ≤ (i4 : Int)
        · rw [if_pos c3]
          by_cases c4 : (i4 : Int) < l[c].Due
          · rw [if_pos c4, hz]
            simp only
            by_cases c5 : m.getD c 0 > 0
            · have hC := (hj _ (List.mem_of_getElem? hy)).C
              have hmc := h2 c hcl
              have hw : IntKind.i64.wrap (m.getD c 0 - 1) = m.getD c 0 - 1 := wrap64_small (by omega) (by omega)
              rw [if_pos c5, hw]
              refine ⟨_, rfl, rfl, by simp [h1], fun j hjl => ?_, fun a b ha => ?_⟩
              · simp only
                rw [getD_set _ _ _ _ (by omega)]
                have := h2 j hjl
                split
                · rename_i hcj; subst hcj; omega
                · exact this
              · simp only
                have h3' := h3 a b ha
                by_cases hcS : (decide (a ≤ aJ l (c : Int)) && decide (dJ l (c : Int) ≤ b)) = true
                · have hone := sumN_one (f := fun j => if (decide (a ≤ aJ l (j : Int)) && decide (dJ l (j : Int) ≤ b)) = true then cJ l (j : Int) - (m.set c (m.getD c 0 - 1)).getD j 0 else 0) (g := fun j => if (decide (a ≤ aJ l (j : Int)) && decide (dJ l (j : Int) ≤ b)) = true then cJ l (j : Int) - m.getD j 0 else 0) (b := c) (d := 1) hcl (by
                    rw [if_pos hcS, if_pos hcS, getD_set _ _ _ _ (by omega), if_pos rfl]; omega) (fun j _ hne => by rw [getD_set _ _ _ _ (by omega), if_neg (show ¬ c = j from fun h => hne h.symm)])
                  rw [Bool.and_eq_true, decide_eq_true_eq, decide_eq_true_eq, ya, yd] at hcS
                  have : ticksW a b i4 + 1 ≤ ticksW a b (i4 + 1) := by unfold ticksW; omega
                  omega
                · rw [sumN_congr (g := fun j => if (decide (a ≤ aJ l (j : Int)) && decide (dJ l (j : Int) ≤ b)) = true then cJ l (j : Int) - m.getD j 0 else 0) (fun j _ => by
                    by_cases hcj : c = j
                    · subst hcj; rw [if_neg hcS, if_neg hcS]
                    · rw [getD_set _ _ _ _ (by omega), if_neg hcj])]
                  have := hmono a b
                  omega
            · rw [if_neg c5]; exact stay
          · rw [if_neg c4]; exact stay
        · rw [if_neg c3]; exact stay
      · rw [if_neg c2]; exact stay
    · rw [if_neg c1]; exact stay) (fun s hS => by
    obtain ⟨i4, m⟩ := s
    obtain ⟨h0, h1, h2, h3⟩ := hS
    simp only at h0 h1 h2 h3
    subst h0
    refine ⟨m, by simp [EdfBest.r6], h1, fun a b ha => ?_⟩
    have := h3 a b ha
    have : ticksW a b order.length ≤ max 0 (b - a) := by unfold ticksW; omega
    omega) (K := K) (by omega) (s := (0, l.map (·.C))) ⟨rfl, by simp, fun j hjl => by
      have hx : l[j]? = some l[j] := List.getElem?_eq_getElem hjl
      have e2 : (l.map (·.C)).getD j 0 = l[j].C := by simp [List.getD, hx]
      simp only
      rw [e2, (cost_cJ hx).2.2.2]
      exact Int.le_refl _, fun a b ha => by
      have : sumN (fun j => if (decide (a ≤ aJ l (j : Int)) && decide (dJ l (j : Int) ≤ b)) = true then cJ l (j : Int) - (l.map (·.C)).getD j 0 else 0) l.length = 0 := sumN_zero (fun j hjl => by
        have hx : l[j]? = some l[j] := List.getElem?_eq_getElem hjl
        have e2 : (l.map (·.C)).getD j 0 = l[j].C := by simp [List.getD, hx]
        rw [e2, (cost_cJ hx).2.2.2]
        split
        · omega
        · rfl)
      simp only
      rw [this]
      unfold ticksW
      omega⟩
  obtain ⟨m, e1, e2, e3⟩ := key
  exact ⟨m, e1, e2, e3⟩
theorem Best_r1_eq (l : List SJob) (hj : ∀ e ∈ l, Okj e) (hl : l.length ≤ 4000) (K : Nat) (hK : 4010 ≤ K) : ∃ z : Int, iter (EdfBest.r1 l) K (0, 0) = some (.inl z) ∧ 0 ≤ z ∧ z ≤ 80000 ∧ ∀ j, j < l.length → dJ l (j : Int) ≤ z := by
  have key := iter_rel (ρ := Bool) (f := EdfBest.r1 l) (fun i s => s.2 = i ∧ 0 ≤ s.1 ∧ s.1 ≤ 80000 ∧ ∀ j, j < i → dJ l (j : Int) ≤ s.1) (fun r => 0 ≤ r ∧ r ≤ 80000 ∧ ∀ j, j < l.length → dJ l (j : Int) ≤ r) l.length (fun i s hi hS => by
    obtain ⟨z, i1⟩ := s
    obtain ⟨h0, h1, h2, h3⟩ := hS
    simp only at h0 h1 h2 h3 ⊢
    subst h0
    have hx : l[i1]? = some l[i1] := List.getElem?_eq_getElem hi
    have hD := (hj _ (List.mem_of_getElem? hx)).Due
    obtain ⟨_, _, hd, _⟩ := cost_cJ hx
    simp only [EdfBest.r1, if_pos (show (i1 : Int) < (l.length : Int) by omega), hx]
    have hg : (gmax z l[i1].Due = z ∧ l[i1].Due ≤ z) ∨ (gmax z l[i1].Due = l[i1].Due ∧ z < l[i1].Due) := by unfold gmax; split <;> omega
    refine ⟨_, rfl, rfl, by simp only; omega, by simp only; omega, fun j hji => ?_⟩
    simp only
    by_cases hje : j = i1
    · subst hje; omega
    · have := h3 j (by omega); omega) (fun s hS => by
    obtain ⟨z, i1⟩ := s
    obtain ⟨h0, h1⟩ := hS
    simp only at h0 h1
    subst h0
    exact ⟨z, by simp [EdfBest.r1], h1⟩) (K := K) (by omega) (s := (0, 0)) ⟨rfl, Int.le_refl _, by omega, fun j h => by omega⟩
  obtain ⟨z, e1, e2⟩ := key
  exact ⟨z, e1, e2⟩
theorem Best_r4_eq (l : List SJob) (hj : ∀ e ∈ l, Okj e) (hl : l.length ≤ 4000) (r : Int × Int × SFault) (K : Nat) (hK : 4010 ≤ K) : iter (EdfBest.r4 l r) K (0, 0) = some (.inl (sumI (fun x => decide (r.1 ≤ aJ l x) && decide (dJ l x ≤ r.2.1)) (cJ l) (idx l.length))) := by
  have key := iter_rel (ρ := Bool) (f := EdfBest.r4 l r) (fun i s => s.2 = i ∧ s.1 = sumI (fun x => decide (r.1 ≤ aJ l x) && decide (dJ l x ≤ r.2.1)) (cJ l) (idx i)) (fun q => q = sumI (fun x => decide (r.1 ≤ aJ l x) && decide (dJ l x ≤ r.2.1)) (cJ l) (idx l.length)) l.length (fun i s hi hS => by
    obtain ⟨z, i2⟩ := s
    obtain ⟨h0, hz⟩ := hS
    simp only at h0 hz ⊢
    subst h0
    subst hz
    have hx : l[i2]? = some l[i2] := List.getElem?_eq_getElem hi
    have hC := (hj _ (List.mem_of_getElem? hx)).C
    obtain ⟨_, ha, hd, hc⟩ := cost_cJ hx
    have hb := sumI_le (p := fun x => decide (r.1 ≤ aJ l x) && decide (dJ l x ≤ r.2.1)) (g := cJ l) (B := 10000) (by omega) (a := idx i2) (fun x hxm => (cJ_bounds hj (mem_idx.2 (by have := mem_idx.1 hxm; omega))).1.2)
    have hn := sumI_nonneg (p := fun x => decide (r.1 ≤ aJ l x) && decide (dJ l x ≤ r.2.1)) (g := cJ l) (a := idx i2) (fun x hxm => by have := (cJ_bounds hj (x := x) (mem_idx.2 (by have := mem_idx.1 hxm; omega))).1.1; omega)
    have hlen : (idx i2).length = i2 := by simp [idx]
    rw [hlen] at hb
    have hw : IntKind.i64.wrap (sumI (fun x => decide (r.1 ≤ aJ l x) && decide (dJ l x ≤ r.2.1)) (cJ l) (idx i2) + l[i2].C) = sumI (fun x => decide (r.1 ≤ aJ l x) && decide (dJ l x ≤ r.2.1)) (cJ l) (idx i2) + l[i2].C := wrap64_small (by omega) (by omega)
    simp only [EdfBest.r4, if_pos (show (i2 : Int) < (l.length : Int) by omega), hx, hw, idx_succ, sumI_append, sumI, ha, hd, hc]
    by_cases g1 : l[i2].At ≥ r.1
    · rw [if_pos g1]
      by_cases g2 : l[i2].Due ≤ r.2.1
      · rw [if_pos g2]
        exact ⟨_, rfl, rfl, by simp [g2, show r.1 ≤ l[i2].At from g1]⟩
      · rw [if_neg g2]
        exact ⟨_, rfl, rfl, by simp [g2]⟩
    · rw [if_neg g1]
      exact ⟨_, rfl, rfl, by simp [show ¬ r.1 ≤ l[i2].At from g1]⟩) (fun s hS => by
    obtain ⟨z, i2⟩ := s
    obtain ⟨h0, hz⟩ := hS
    simp only at h0 hz
    subst h0
    exact ⟨z, by simp [EdfBest.r4], hz⟩) (K := K) (by omega) (s := (0, 0)) ⟨rfl, rfl⟩
  obtain ⟨_, e1, rfl⟩ := key
  exact e1
theorem Best_r5_eq (l : List SJob) (hl : l.length ≤ 4000) (K : Nat) (hK : 4010 ≤ K) : iter (EdfBest.r5 l) K (0, List.replicate l.length 0) = some (.inl (l.map (·.C))) := by
  have key := iter_rel (ρ := Bool) (f := EdfBest.r5 l) (fun i s => s.1 = i ∧ s.2.length = l.length ∧ ∀ q, q < i → s.2[q]? = (l.map (·.C))[q]?) (fun r => r = l.map (·.C)) l.length (fun i s hi hS => by
    obtain ⟨i3, m⟩ := s
    obtain ⟨h0, h1, h2⟩ := hS
    simp only at h0 h1 h2 ⊢
    subst h0
    have hx : l[i3]? = some l[i3] := List.getElem?_eq_getElem hi
    have hy : m[i3]? = some (m.getD i3 0) := get_of_lt (by omega)
    simp only [EdfBest.r5, if_pos (show (i3 : Int) < (l.length : Int) by omega), hx, hy]
    refine ⟨_, rfl, rfl, by simp [h1], fun q hq => ?_⟩
    simp only [List.getElem?_set]
    by_cases hqi : i3 = q
    · subst hqi; rw [if_pos rfl, if_pos (by omega), List.getElem?_map, hx]; rfl
    · rw [if_neg hqi]; exact h2 q (by omega)) (fun s hS => by
    obtain ⟨i3, m⟩ := s
    obtain ⟨h0, h1, h2⟩ := hS
    simp only at h0 h1 h2
    subst h0
    refine ⟨m, by simp [EdfBest.r5], ?_⟩
    apply List.ext_getElem?
    intro q
    by_cases hq : q < l.length
    · exact h2 q hq
    · rw [List.getElem?_eq_none (by omega), List.getElem?_eq_none (by simp; omega)]) (K := K) (by omega) (s := (0, List.replicate l.length 0)) ⟨rfl, by simp, fun q hq => by omega⟩
  obtain ⟨_, e1, rfl⟩ := key
  exact e1
theorem EdfBest_law (l0 : List SJob) (l1 : List Int) (ok0 : ∀ y ∈ l0, Ok.ok y) (ok1 : ∀ y ∈ l1, Ok.ok y) : ∃ K, EdfBest.f K l0 l1 = some true := by
  refine ⟨40000, ?_⟩
  generalize hKd : 40000 = K
  have hK : 40000 ≤ K := by omega
  unfold EdfBest.f
  rw [runs_true K (by omega)]
  simp only [if_true]
  by_cases h100 : (l0.length : Int) > 100
  · have hp0 : EdfBest.p0 K l0 l1 = some (.inr true) := by unfold EdfBest.p0; rw [if_pos h100]
    simp only [hp0]
  by_cases h3000 : (l1.length : Int) > 3000
  · have hp0 : EdfBest.p0 K l0 l1 = some (.inr true) := by unfold EdfBest.p0; rw [if_neg h100, if_pos h3000]
    simp only [hp0]
  by_cases hcn : ¬ (playFault l0).Code = 0
  · have hp0 : EdfBest.p0 K l0 l1 = some (.inr true) := by
      unfold EdfBest.p0
      rw [if_neg h100, if_neg h3000, schedCheck_eq l0 K (by omega)]
      simp only
      rw [if_neg hcn, CheckJobs_eq l0 K (by omega)]
      simp [hcn]
    simp only [hp0]
  have hc := Decidable.of_not_not hcn
  obtain ⟨hl, _, hj⟩ := playFault_ok hc
  have hp0 : EdfBest.p0 K l0 l1 = some (.inl ()) := by
    unfold EdfBest.p0
    rw [if_neg h100, if_neg h3000, schedCheck_eq l0 K (by omega)]
    simp only
    rw [if_pos hc]
  obtain ⟨z, hz1, hz2, hz3, hz4⟩ := Best_r1_eq l0 hj hl K (by omega)
  simp only [hp0, hz1]
  by_cases hzb : z > 3000
  · rw [if_pos hzb]
  rw [if_neg hzb]
  obtain ⟨E, rfl⟩ := Int.eq_ofNat_of_zero_le hz2
  rcases Judge_eq l0 K (by omega) with ⟨h1, _⟩ | ⟨_, a, b, f, hrep, hjud⟩
  · exact absurd hc h1
  have hplay : playOf l0 2 true (E : Int) = (⟨runsTill 2 true l0 E E, (simP 2 true l0 E).2.2⟩, ⟨0, 0⟩) := by
    unfold playOf
    rw [if_pos hc, if_pos (.inr rfl), if_neg (by omega), Int.toNat_natCast]
  have hrl : (runsTill 2 true l0 E E).length = E := by simp [runsTill]
  have hel : (simP 2 true l0 E).2.2.length = l0.length := (simP_ok 2 true hj E).ends
  have hli := late_iff hj E hz4
  have hfl : f = false ↔ lateTill l0 E (simP 2 true l0 E).2.2 l0.length = [] := by
    rw [hli]
    constructor
    · intro hf j hjl
      rcases hrep with ⟨_, hno⟩ | ⟨hf', _⟩
      · have hx : l0[j]? = some l0[j] := List.getElem?_eq_getElem hjl
        have hn := leftP_nonneg 2 true hj (dJ l0 (j : Int)).toNat j
        apply Classical.byContradiction
        intro hne
        rw [(cost_cJ hx).2.2.1] at hn hne
        obtain ⟨p, q, hov⟩ := late_over hj hx (by omega)
        exact hno p q hov
      · rw [hf] at hf'; cases hf'
    · intro hdone
      rcases hrep with ⟨hf, _⟩ | ⟨_, hov, _⟩
      · exact hf
      · exact absurd (over_late hj hdone hov) (fun h => h)
  have hlate : sched_Late.f K l0 (runsTill 2 true l0 E E) (simP 2 true l0 E).2.2 = some (lateTill l0 E (simP 2 true l0 E).2.2 l0.length, ⟨0, 0⟩) := by
    rw [Late_eq l0 _ _ (by omega) K (by omega), if_pos hel, hrl]
  rw [hjud]
  simp only [Play_eq l0 2 true (E : Int) K (by omega), hplay, hlate]
  have hp2 : ∀ r : Int × Int × SFault, ((r.2.2.Code == 0) = !f) → EdfBest.p2 l0 r (⟨runsTill 2 true l0 E E, (simP 2 true l0 E).2.2⟩, ⟨0, 0⟩) (lateTill l0 E (simP 2 true l0 E).2.2 l0.length, ⟨0, 0⟩) = some (.inl ()) := fun r hr => by
    unfold EdfBest.p2
    rw [if_pos rfl, if_pos rfl, hr]
    have : (!f) = (((lateTill l0 E (simP 2 true l0 E).2.2 l0.length).length : Int) == 0) := by
      cases f with
      | false =>
        rw [hfl.1 rfl]; rfl
      | true =>
        have hne : lateTill l0 E (simP 2 true l0 E).2.2 l0.length ≠ [] := fun h => by have := hfl.2 h; cases this
        have hpos := List.length_pos_iff.2 hne
        symm
        simp only [Bool.not_true, beq_eq_false_iff_ne]
        omega
    rw [if_pos this, if_pos (by simp only; omega)]
  obtain ⟨m, hm1, hm2, hm3⟩ := Best_r6_eq l0 hj l1 (by omega) hl K (by omega)
  have hr7 := iter_first0 (f := EdfBest.r7 m) (fun i => match m[i]? with | some e => if e > 0 then some true else none | none => none) m.length (t := ()) (fun i hi => by
    simp only [EdfBest.r7, if_pos (show (i : Int) < (m.length : Int) by omega), List.getElem?_eq_getElem hi]
    by_cases hpos : m[i] > 0
    · rw [if_pos hpos, if_pos hpos]; rfl
    · rw [if_neg hpos, if_neg hpos]; rfl) (by simp [EdfBest.r7]) (K := K) (by omega)
  have hend : f = true → firstOf (fun i => match m[i]? with | some e => if e > 0 then some true else none | none => none) m.length 0 ≠ none := fun hf hnone => by
    rcases hrep with ⟨hf', _⟩ | ⟨_, hov, _⟩
    · rw [hf] at hf'; cases hf'
    obtain ⟨i, k, hi, hk, rfl, rfl, ⟨x, hx, hx1, hx2⟩, hs⟩ := hov
    have hle : ∀ j, j < l0.length → m.getD j 0 ≤ 0 := fun j hjl => by
      have := firstOf_none hnone j (Nat.zero_le _) (by omega)
      rw [get_of_lt (show j < m.length by omega)] at this
      simp only at this
      split at this
      · cases this
      · omega
    have hbi := cJ_bounds hj (x := (i : Int)) (mem_idx.2 (by omega))
    have h4 := hm3 (aJ l0 (i : Int)) (dJ l0 (k : Int)) hbi.2.1.1
    rw [sumI_idx] at hs
    have h5 : sumN (fun j => if (decide (aJ l0 (i : Int) ≤ aJ l0 (j : Int)) && decide (dJ l0 (j : Int) ≤ dJ l0 (k : Int))) = true then cJ l0 (j : Int) else 0) l0.length ≤ sumN (fun j => if (decide (aJ l0 (i : Int) ≤ aJ l0 (j : Int)) && decide (dJ l0 (j : Int) ≤ dJ l0 (k : Int))) = true then cJ l0 (j : Int) - m.getD j 0 else 0) l0.length := sumN_le (fun j hjl => by
      have := hle j hjl
      split
      · omega
      · exact Int.le_refl _)
    have hxr := mem_idx.1 hx
    obtain ⟨n, rfl⟩ := Int.eq_ofNat_of_zero_le hxr.1
    have hnl : n < l0.length := by omega
    have h6 := sumN_term (f := fun j => if (decide (aJ l0 (i : Int) ≤ aJ l0 (j : Int)) && decide (dJ l0 (j : Int) ≤ dJ l0 (k : Int))) = true then cJ l0 (j : Int) else 0) (n := l0.length) (k := n) (fun j hjl => by
      have := (cJ_bounds hj (x := (j : Int)) (mem_idx.2 (by omega))).1.1
      split
      · omega
      · exact Int.le_refl _) hnl
    rw [if_pos (by rw [Bool.and_eq_true, decide_eq_true_eq, decide_eq_true_eq]; exact ⟨hx1, hx2⟩)] at h6
    have h7 := (cJ_bounds hj hx).1.1
    omega
  cases f with
  | false =>
    have hp3 : EdfBest.p3 K l0 (0, 0, ⟨0, 0⟩) = some (.inl ()) := by unfold EdfBest.p3; rw [if_pos rfl]
    rw [if_neg (by decide)]
    simp only [hp2 (0, 0, ⟨0, 0⟩) rfl, hp3]
    rw [if_pos (by omega), Best_r5_eq l0 hl K (by omega)]
    simp only [hm1, hr7]
    cases hfst : firstOf (fun i => match m[i]? with | some e => if e > 0 then some true else none | none => none) m.length 0 with
    | none => rfl
    | some r =>
      obtain ⟨i, _, hi, hg, _⟩ := firstOf_some hfst
      rw [List.getElem?_eq_getElem hi] at hg
      simp only at hg
      split at hg
      · cases hg; rfl
      · cases hg
  | true =>
    have hov : Over l0 a b := by
      rcases hrep with ⟨hf', _⟩ | ⟨_, hov, _⟩
      · cases hf'
      · exact hov
    have hp3 : EdfBest.p3 K l0 (a, b, ⟨13, 0⟩) = some (.inl ()) := by
      unfold EdfBest.p3
      rw [if_neg (show ¬ ((13 : Int) = 0) by decide), Best_r4_eq l0 hj hl _ K (by omega)]
      obtain ⟨i, k, hi, hk, rfl, rfl, _, hs⟩ := hov
      have hbi := cJ_bounds hj (x := (i : Int)) (mem_idx.2 (by omega))
      have hbk := cJ_bounds hj (x := (k : Int)) (mem_idx.2 (by omega))
      simp only
      rw [wrap64_small (by omega) (by omega), if_neg (by omega)]
    rw [if_pos rfl]
    simp only [hp2 (a, b, ⟨13, 0⟩) rfl, hp3]
    rw [if_pos (by omega), Best_r5_eq l0 hl K (by omega)]
    simp only [hm1, hr7]
    cases hfst : firstOf (fun i => match m[i]? with | some e => if e > 0 then some true else none | none => none) m.length 0 with
    | none => exact absurd hfst (hend rfl)
    | some r =>
      obtain ⟨i, _, hi, hg, _⟩ := firstOf_some hfst
      rw [List.getElem?_eq_getElem hi] at hg
      simp only at hg
      split at hg
      · cases hg; rfl
      · cases hg

end Go.Proofs.Ytlipdmblinjjaaa.GV
