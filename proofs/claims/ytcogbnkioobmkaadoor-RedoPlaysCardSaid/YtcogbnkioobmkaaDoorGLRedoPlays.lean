/- Plain words: GvLRedoPlays. -/
import Derived.Test.YtcogbnkioobmkaaDoorGWRedoPlays6
import Derived.Test.YtcogbnkioobmkaaDoorGv17
namespace Go.Proofs.YtcogbnkioobmkaaDoor.GV
open Go Go.RowKit
set_option linter.unusedVariables false
set_option linter.unusedSimpArgs false
theorem SFault.eqb_self (x : SFault) : SFault.eqb x x = true := by simp [SFault.eqb]
theorem SJob.eqb_self (x : SJob) : SJob.eqb x x = true := by simp [SJob.eqb]
theorem STask.eqb_self (x : STask) : STask.eqb x x = true := by simp [STask.eqb]
theorem punctualsame_Lend_api_Job_some (l : List SJob) (a : SJob) (h : l.length ≤ 5000) : ∃ r, punctualsame_Lend_api_Job.f l a = some r := by
  have hw : IntKind.i64.wrap ((l.length : Int) + 3) = (l.length : Int) + 3 := wrap64_small (by omega) (by omega)
  unfold punctualsame_Lend_api_Job.f
  rw [hw, if_pos (by omega), if_pos (by omega), if_pos (by simp; omega), if_pos (by simp; omega)]
  exact ⟨_, rfl⟩
theorem punctualsame_Lend_int_some (l : List Int) (a : Int) (h : l.length ≤ 5000) : ∃ r, punctualsame_Lend_int.f l a = some r := by
  have hw : IntKind.i64.wrap ((l.length : Int) + 3) = (l.length : Int) + 3 := wrap64_small (by omega) (by omega)
  unfold punctualsame_Lend_int.f
  rw [hw, if_pos (by omega), if_pos (by omega), if_pos (by simp; omega), if_pos (by simp; omega)]
  exact ⟨_, rfl⟩
theorem punctualsame_Still_api_Job_true (l : List SJob) (a : SJob) (K : Nat) (hl : l.length ≤ 5000) (hK : 5010 ≤ K) : punctualsame_Still_api_Job.f K (l ++ [a, a, a]) l a = some true := by
  have hw : IntKind.i64.wrap ((l.length : Int) + 3) = (l.length : Int) + 3 := wrap64_small (by omega) (by omega)
  have hr := iter_first0 (f := punctualsame_Still_api_Job.r0 (l ++ [a, a, a]) l a) (fun _ => none) (l.length + 3) (t := ()) (fun i hi => by
    have h' : (i : Int) < ((l ++ [a, a, a] : List SJob).length : Int) := by simp; omega
    simp only [punctualsame_Still_api_Job.r0, if_pos h']
    by_cases h2 : i < l.length
    · have h2' : (i : Int) < (l.length : Int) := by omega
      have h3 : ¬ (i : Int) ≥ (l.length : Int) := by omega
      rw [List.getElem?_append_left h2, List.getElem?_eq_getElem h2]
      simp only [if_pos h2', SJob.eqb_self, if_true, if_neg h3, onward]
    · have h2' : ¬ (i : Int) < (l.length : Int) := by omega
      have h3 : (i : Int) ≥ (l.length : Int) := by omega
      rw [List.getElem?_append_right (by omega)]
      have : i - l.length = 0 ∨ i - l.length = 1 ∨ i - l.length = 2 := by omega
      rcases this with e | e | e <;> simp [e, h2', h3, onward, SJob.eqb_self]) (by
    have h' : ¬ ((l.length + 3 : Nat) : Int) < ((l ++ [a, a, a] : List SJob).length : Int) := by simp
    simp only [punctualsame_Still_api_Job.r0, if_neg h']) (K := K) (by omega)
  rw [firstOf_none_of (fun _ _ _ => rfl)] at hr
  have hlen : IntKind.i64.wrap ((l.length : Int) + 3) = ((l ++ [a, a, a] : List SJob).length : Int) := by rw [hw]; simp
  simp only [punctualsame_Still_api_Job.f, if_pos hlen, hr, leave]
theorem punctualsame_Still_int_true (l : List Int) (a : Int) (K : Nat) (hl : l.length ≤ 5000) (hK : 5010 ≤ K) : punctualsame_Still_int.f K (l ++ [a, a, a]) l a = some true := by
  have hw : IntKind.i64.wrap ((l.length : Int) + 3) = (l.length : Int) + 3 := wrap64_small (by omega) (by omega)
  have hr := iter_first0 (f := punctualsame_Still_int.r0 (l ++ [a, a, a]) l a) (fun _ => none) (l.length + 3) (t := ()) (fun i hi => by
    have h' : (i : Int) < ((l ++ [a, a, a] : List Int).length : Int) := by simp; omega
    simp only [punctualsame_Still_int.r0, if_pos h']
    by_cases h2 : i < l.length
    · have h2' : (i : Int) < (l.length : Int) := by omega
      have h3 : ¬ (i : Int) ≥ (l.length : Int) := by omega
      rw [List.getElem?_append_left h2, List.getElem?_eq_getElem h2]
      simp only [if_pos h2', if_true, if_neg h3, onward]
    · have h2' : ¬ (i : Int) < (l.length : Int) := by omega
      have h3 : (i : Int) ≥ (l.length : Int) := by omega
      rw [List.getElem?_append_right (by omega)]
      have : i - l.length = 0 ∨ i - l.length = 1 ∨ i - l.length = 2 := by omega
      rcases this with e | e | e <;> simp [e, h2', h3, onward]) (by
    have h' : ¬ ((l.length + 3 : Nat) : Int) < ((l ++ [a, a, a] : List Int).length : Int) := by simp
    simp only [punctualsame_Still_int.r0, if_neg h']) (K := K) (by omega)
  rw [firstOf_none_of (fun _ _ _ => rfl)] at hr
  have hlen : IntKind.i64.wrap ((l.length : Int) + 3) = ((l ++ [a, a, a] : List Int).length : Int) := by rw [hw]; simp
  simp only [punctualsame_Still_int.f, if_pos hlen, hr, leave]
theorem punctualsame_Same_int_self (l : List Int) (K : Nat) (hK : l.length < K) : punctualsame_Same_int.f K l l = some true := by
  have hr := iter_first0 (f := punctualsame_Same_int.r0 l l) (fun _ => none) l.length (t := ()) (fun i hi => by
    have h' : (i : Int) < (l.length : Int) := by omega
    simp only [punctualsame_Same_int.r0, if_pos h', List.getElem?_eq_getElem hi, if_true, onward]) (by
    have h' : ¬ (l.length : Int) < (l.length : Int) := by omega
    simp only [punctualsame_Same_int.r0, if_neg h']) hK
  rw [firstOf_none_of (fun _ _ _ => rfl)] at hr
  simp only [punctualsame_Same_int.f, if_true, hr, leave]
theorem few_true {n : Nat} (h : few.f (n : Int) = true) : n ≤ 5000 := by
  simp only [few.f, decide_eq_true_eq] at h; omega
theorem few_false {n : Nat} (h : ¬ few.f (n : Int) = true) : 5000 < n := by
  simp only [few.f, decide_eq_true_eq] at h; omega
theorem exists_bound {α : Type} (f : α → Nat) : ∀ l : List α, ∃ B, ∀ x ∈ l, f x ≤ B
  | [] => ⟨0, by simp⟩
  | x :: l => by
    obtain ⟨B, h⟩ := exists_bound f l
    refine ⟨max (f x) B, fun y hy => ?_⟩
    rcases List.mem_cons.1 hy with rfl | hy
    · exact Nat.le_max_left _ _
    · exact Nat.le_trans (h y hy) (Nat.le_max_right _ _)
/-- a letter stands there -/
def letterAt (x : ByteArray) (i : Nat) : Bool := match x[i]? with | some b => decide (97 ≤ b.toNat) && decide (b.toNat ≤ 122) | none => false
def allL (x : ByteArray) (n : Nat) : Bool := (List.range n).all (letterAt x)
theorem allL_succ (x : ByteArray) (n : Nat) : allL x (n + 1) = (allL x n && letterAt x n) := by simp [allL, List.range_succ]
theorem allL_iff {x : ByteArray} {n : Nat} : allL x n = true ↔ ∀ i, i < n → letterAt x i = true := by simp [allL]
def Good (x : ByteArray) : Prop := 1 ≤ x.size ∧ x.size ≤ 10 ∧ allL x x.size = true
instance (x : ByteArray) : Decidable (Good x) := by unfold Good; infer_instance
theorem get!_of {x : ByteArray} {i : Nat} {b : UInt8} (h : x[i]? = some b) : x.get! i = b := by
  have hi : i < x.size := by
    rcases Nat.lt_or_ge i x.size with h' | h'
    · exact h'
    · rw [getElem?_neg x i (by omega)] at h; cases h
  rw [getElem?_pos x i hi] at h
  have := Option.some.inj h
  rw [← this]
  cases x with
  | mk bs => exact getElem!_pos bs i hi
theorem byte_some {x : ByteArray} {i : Nat} (h : i < x.size) : ∃ b, x[i]? = some b := ⟨x[i], getElem?_pos x i h⟩
theorem decode_letter {x : ByteArray} {i : Nat} (hi : i < x.size) (h : letterAt x i = true) : ∃ n : Nat, Utf8.decode x i = (n, 1) ∧ 97 ≤ n ∧ n ≤ 122 := by
  obtain ⟨b, hb⟩ := byte_some hi
  simp only [letterAt, hb, Bool.and_eq_true, decide_eq_true_eq] at h
  refine ⟨b.toNat, ?_, h⟩
  have := get!_of hb
  simp only [Utf8.decode, Nat.add_zero, this]
  rw [if_pos (by omega)]
theorem decode_other {x : ByteArray} {i : Nat} (hi : i < x.size) (h : letterAt x i = false) : (Utf8.decode x i).1 < 97 ∨ 122 < (Utf8.decode x i).1 := by
  obtain ⟨b, hb⟩ := byte_some hi
  simp only [letterAt, hb, Bool.and_eq_false_iff, decide_eq_false_iff_not] at h
  have := get!_of hb
  simp only [Utf8.decode, Nat.add_zero, this]
  have he : Utf8.runeError = 65533 := rfl
  repeat' split
  all_goals simp only [he, Bool.and_eq_true, decide_eq_true_eq, ge_iff_le] at *
  all_goals omega
theorem isName_eq (x : ByteArray) (K : Nat) (hK : 12 ≤ K) : tasks_isName.f K x = some (decide (Good x)) := by
  unfold tasks_isName.f
  by_cases h1 : (x.size : Int) < 1
  · rw [if_pos h1]; congr 1; symm; rw [decide_eq_false_iff_not]; intro h; have := h.1; omega
  rw [if_neg h1]
  by_cases h2 : (x.size : Int) > 10
  · rw [if_pos h2]; congr 1; symm; rw [decide_eq_false_iff_not]; intro h; have := h.2.1; omega
  rw [if_neg h2]
  have hr := iter_first0 (f := tasks_isName.r0 x) (fun i => if letterAt x i = true then none else some false) x.size (t := ()) (fun i hi => by
    simp only [tasks_isName.r0, if_pos hi]
    by_cases h : letterAt x i = true
    · obtain ⟨n, hd, ha, hb⟩ := decode_letter hi h
      simp only [hd, h, if_true]
      rw [if_neg (by omega), if_neg (by omega)]; rfl
    · simp only [h]
      rcases decode_other hi (by simpa using h) with h | h
      · rw [if_pos (by omega)]; simp [onward]
      · rw [if_neg (by omega), if_pos (by omega)]; simp [onward]) (by simp [tasks_isName.r0]) (K := K) (by omega)
  rw [hr]
  cases hf : firstOf (fun i => if letterAt x i = true then none else some false) x.size 0 with
  | none =>
    show some true = some _
    congr 1; symm
    rw [decide_eq_true_eq]
    refine ⟨by omega, by omega, allL_iff.2 fun i hi => ?_⟩
    have := firstOf_none hf i (Nat.zero_le _) hi
    split at this
    · assumption
    · cases this
  | some r =>
    obtain ⟨j, _, hj, hg, _⟩ := firstOf_some hf
    split at hg
    · cases hg
    · rename_i hn
      cases hg
      show some false = some _
      congr 1; symm
      rw [decide_eq_false_iff_not]
      intro h
      exact hn (allL_iff.1 h.2.2 j hj)
/-- the first of those ahead that bears the name -/
def dupAt (l : List STask) (i : Nat) (t : STask) : Prop := ∃ j e, j < i ∧ l[j]? = some e ∧ e.Name.toList = t.Name.toList
noncomputable instance (l : List STask) (i : Nat) (t : STask) : Decidable (dupAt l i t) := Classical.propDecidable _
theorem takedrop {α : Type} (l : List α) (i : Nat) : (l.take i).drop 0 = l.take i := by simp
theorem contains_eq (l : List STask) (i : Nat) (hi : i < l.length) (t : STask) (K : Nat) (hK : i < K) : slices_ContainsFunc_api_Task_api_Task.f K ((l.take i).drop 0) t = some (decide (dupAt l i t)) := by
  rw [takedrop]
  have hlen : (l.take i).length = i := by simp; omega
  let g : Nat → Option Int := fun j => match l[j]? with | some e => if e.Name.toList = t.Name.toList then some (j : Int) else none | none => none
  have hr := iter_first0 (f := slices_IndexFunc_api_Task_api_Task.r0 (l.take i) t) g i (t := ()) (fun j hj => by
    have hj' : (j : Int) < ((l.take i).length : Int) := by omega
    have hjl : j < l.length := by omega
    simp only [slices_IndexFunc_api_Task_api_Task.r0, if_pos hj', List.getElem?_take, if_pos hj, List.getElem?_eq_getElem hjl, g, tasks_Check_1.f, beq_iff_eq]
    split <;> rfl) (by
    have : ¬ (i : Int) < ((l.take i).length : Int) := by omega
    simp only [slices_IndexFunc_api_Task_api_Task.r0, if_neg this]) (K := K) hK
  unfold slices_ContainsFunc_api_Task_api_Task.f slices_IndexFunc_api_Task_api_Task.f
  rw [hr]
  cases hf : firstOf g i 0 with
  | none =>
    show some (decide ((-1 : Int) ≥ 0)) = _
    congr 1
    have : ¬ dupAt l i t := by
      rintro ⟨j, e, hj, he, hn⟩
      have := firstOf_none hf j (Nat.zero_le _) hj
      simp only [g, he, if_pos hn] at this
      cases this
    simp [this]
  | some r =>
    show some (decide (r ≥ 0)) = _
    obtain ⟨j, _, hj, hg, _⟩ := firstOf_some hf
    have hjl : j < l.length := by omega
    simp only [g, List.getElem?_eq_getElem hjl] at hg
    split at hg
    · rename_i hn
      cases hg
      have : dupAt l i t := ⟨j, l[j], hj, List.getElem?_eq_getElem hjl, hn⟩
      simp [this]
    · cases hg
theorem iter_succ {σ ρ : Type} (f : σ → Option (σ ⊕ ρ)) (K : Nat) (s : σ) : iter f (K + 1) s = match f s with | none => none | some (.inl s') => iter f K s' | some (.inr r) => some r := rfl
/-- a number lies out of its range -/
def rangeAt (i : Nat) (t : STask) (j : Nat) : Option SFault :=
  match ([t.C, t.T, t.D, t.J, t.O, t.P] : List Int)[j]? with
  | none => none
  | some v => match ([1, 1, 1, 0, 0, 0] : List Int)[j]? with
    | none => none
    | some a => if v < a then some ⟨3, (i : Int)⟩ else match ([10000, 10000, 10000, 10000, 10000, 1000] : List Int)[j]? with
      | none => none
      | some b => if v > b then some ⟨3, (i : Int)⟩ else none
theorem range_eq (i : Nat) (t : STask) (K : Nat) (hK : 7 ≤ K) : iter (tasks_Check.r2 i t) K 0 = some (leave () (firstOf (rangeAt i t) 6 0)) := by
  refine iter_first0 (f := tasks_Check.r2 i t) (rangeAt i t) 6 (t := ()) (fun j hj => ?_) (by simp [tasks_Check.r2, tasks_numbers.f]) (K := K) (by omega)
  have : j = 0 ∨ j = 1 ∨ j = 2 ∨ j = 3 ∨ j = 4 ∨ j = 5 := by omega
  rcases this with rfl | rfl | rfl | rfl | rfl | rfl <;> simp [tasks_Check.r2, tasks_numbers.f, tasks_bounds.f, rangeAt] <;> (repeat' split) <;> (try simp only [onward]) <;> first | rfl | contradiction | simp_all
/-- what is wrong with the i-th task -/
noncomputable def wrongAt (l : List STask) (i : Nat) : Option SFault :=
  match l[i]? with
  | none => none
  | some t => if Good t.Name then (if dupAt l i t then some ⟨5, (i : Int)⟩ else match firstOf (rangeAt i t) 6 0 with | some r => some r | none => if t.C > t.D then some ⟨12, (i : Int)⟩ else none) else some ⟨4, (i : Int)⟩
/-- what is wrong with a set -/
noncomputable def setFault (l : List STask) : SFault := if 1 ≤ l.length ∧ l.length ≤ 8 then (firstOf (wrongAt l) l.length 0).getD ⟨0, 0⟩ else ⟨2, 0⟩
theorem Check_eq (l : List STask) (K : Nat) (hK : 20 ≤ K) : tasks_Check.f K l = some (setFault l) := by
  unfold tasks_Check.f tasks_Check.p0 setFault
  by_cases h1 : (l.length : Int) < 1
  · rw [if_pos h1, if_neg (by omega)]
  rw [if_neg h1]
  by_cases h2 : (l.length : Int) > 8
  · rw [if_pos h2, if_neg (by omega)]
  rw [if_neg h2, if_pos (by omega)]
  have hr := iter_first0 (f := tasks_Check.r1 K l) (wrongAt l) l.length (t := ()) (fun i hi => by
    have hi' : (i : Int) < (l.length : Int) := by omega
    have hle : i ≤ l.length := by omega
    simp only [tasks_Check.r1, if_pos hi', List.getElem?_eq_getElem hi, isName_eq _ K (by omega), contains_eq l i hi _ K (by omega), range_eq i _ K (by omega), wrongAt, if_pos hle, decide_eq_true_eq]
    by_cases hg : Good l[i].Name
    · simp only [if_pos hg]
      by_cases hd : dupAt l i l[i]
      · simp only [if_pos hd, onward]
      · simp only [if_neg hd]
        cases firstOf (rangeAt i l[i]) 6 0 with
        | some r => rfl
        | none =>
          simp only [leave]
          split <;> rfl
    · simp only [if_neg hg, onward]) (by simp [tasks_Check.r1]) (K := K) (by omega)
  simp only [hr]
  cases firstOf (wrongAt l) l.length 0 <;> rfl
theorem setFault_ok {l : List STask} (h : (setFault l).Code = 0) : 1 ≤ l.length ∧ l.length ≤ 8 ∧ ∀ i t, l[i]? = some t → Good t.Name ∧ ¬ dupAt l i t ∧ (1 ≤ t.C ∧ t.C ≤ 10000) ∧ (1 ≤ t.T ∧ t.T ≤ 10000) ∧ (1 ≤ t.D ∧ t.D ≤ 10000) ∧ (0 ≤ t.J ∧ t.J ≤ 10000) ∧ (0 ≤ t.O ∧ t.O ≤ 10000) ∧ (0 ≤ t.P ∧ t.P ≤ 1000) ∧ t.C ≤ t.D := by
  unfold setFault at h
  split at h
  · rename_i hl
    refine ⟨hl.1, hl.2, fun i t ht => ?_⟩
    have hi := lt_of_get ht
    have hn : firstOf (wrongAt l) l.length 0 = none := by
      cases hf : firstOf (wrongAt l) l.length 0 with
      | none => rfl
      | some r =>
        rw [hf] at h
        obtain ⟨j, _, hj, hg, _⟩ := firstOf_some hf
        simp only [Option.getD_some] at h
        exfalso
        unfold wrongAt at hg
        rw [List.getElem?_eq_getElem hj] at hg
        simp only at hg
        split at hg
        · split at hg
          · cases hg; cases h
          · split at hg
            · rename_i r' hr'
              cases hg
              obtain ⟨q, _, hq, hg2, _⟩ := firstOf_some hr'
              unfold rangeAt at hg2
              repeat' split at hg2
              all_goals first | cases hg2; done | (cases hg2; cases h)
            · split at hg
              · cases hg; cases h
              · cases hg
        · cases hg; cases h
    have h0 := firstOf_none hn i (Nat.zero_le _) hi
    unfold wrongAt at h0
    rw [ht] at h0
    simp only at h0
    split at h0
    · rename_i hg
      split at h0
      · cases h0
      · rename_i hd
        split at h0
        · cases h0
        · rename_i hr
          split at h0
          · cases h0
          · rename_i hcd
            have hrr := firstOf_none hr
            have e0 := hrr 0 (by omega) (by omega)
            have e1 := hrr 1 (by omega) (by omega)
            have e2 := hrr 2 (by omega) (by omega)
            have e3 := hrr 3 (by omega) (by omega)
            have e4 := hrr 4 (by omega) (by omega)
            have e5 := hrr 5 (by omega) (by omega)
            simp only [rangeAt, List.getElem?_cons_zero, List.getElem?_cons_succ] at e0 e1 e2 e3 e4 e5
            refine ⟨hg, hd, ?_, ?_, ?_, ?_, ?_, ?_, by omega⟩
            · clear e1 e2 e3 e4 e5; split at e0; cases e0; split at e0; cases e0; omega
            · clear e0 e2 e3 e4 e5; split at e1; cases e1; split at e1; cases e1; omega
            · clear e1 e0 e3 e4 e5; split at e2; cases e2; split at e2; cases e2; omega
            · clear e1 e2 e0 e4 e5; split at e3; cases e3; split at e3; cases e3; omega
            · clear e1 e2 e3 e0 e5; split at e4; cases e4; split at e4; cases e4; omega
            · clear e1 e2 e3 e4 e0; split at e5; cases e5; split at e5; cases e5; omega
    · cases h0
  · cases h
theorem setFault_ok' {l : List STask} (h : (setFault l).Code = 0) : setFault l = ⟨0, 0⟩ := by
  unfold setFault at h ⊢
  split at h
  · rename_i hl
    rw [if_pos hl]
    cases hf : firstOf (wrongAt l) l.length 0 with
    | none => rfl
    | some r =>
      rw [hf] at h
      obtain ⟨j, _, hj, hg, _⟩ := firstOf_some hf
      simp only [Option.getD_some] at h
      exfalso
      unfold wrongAt at hg
      rw [List.getElem?_eq_getElem hj] at hg
      simp only at hg
      split at hg
      · split at hg
        · cases hg; cases h
        · split at hg
          · rename_i r' hr'
            cases hg
            obtain ⟨q, _, hq, hg2, _⟩ := firstOf_some hr'
            unfold rangeAt at hg2
            repeat' split at hg2
            all_goals first | cases hg2; done | (cases hg2; cases h)
          · split at hg
            · cases hg; cases h
            · cases hg
      · cases hg; cases h
  · cases h

theorem getD_leave {ρ : Type} (o : Option ρ) (d : ρ) : (match leave (τ := Unit) () o with | .inl _ => d | .inr r => r) = o.getD d := by cases o <;> rfl
/-- what a task of a set is -/
structure Okt (t : STask) : Prop where
  C : 1 ≤ t.C ∧ t.C ≤ 10000
  T : 1 ≤ t.T ∧ t.T ≤ 10000
  D : 1 ≤ t.D ∧ t.D ≤ 10000
  J : 0 ≤ t.J ∧ t.J ≤ 10000
  O : 0 ≤ t.O ∧ t.O ≤ 10000
  P : 0 ≤ t.P ∧ t.P ≤ 1000
  CD : t.C ≤ t.D
theorem okt_of {l : List STask} (h : (setFault l).Code = 0) : ∀ t ∈ l, Okt t := fun t ht => by
  obtain ⟨i, hi⟩ := List.mem_iff_getElem?.1 ht
  obtain ⟨_, _, h⟩ := setFault_ok h
  obtain ⟨_, _, h1, h2, h3, h4, h5, h6, h7⟩ := h i t hi
  exact ⟨h1, h2, h3, h4, h5, h6, h7⟩
/-- a over b, rounded up -/
def ceilD (a b : Int) : Int := (a + b - 1) / b
theorem ceilD_mono {a a' b : Int} (hb : 1 ≤ b) (h : a ≤ a') : ceilD a b ≤ ceilD a' b := Int.ediv_le_ediv (by omega) (by omega)
theorem ceilD_nonneg {a b : Int} (hb : 1 ≤ b) (h : 0 ≤ a) : 0 ≤ ceilD a b := Int.ediv_nonneg (by omega) (by omega)
theorem ceilD_le {a b : Int} (hb : 1 ≤ b) (h : 0 ≤ a) : ceilD a b ≤ a := by
  unfold ceilD
  rw [← Int.lt_add_one_iff]
  apply Int.ediv_lt_of_lt_mul (by omega)
  have : a * 1 ≤ a * b := Int.mul_le_mul_of_nonneg_left hb h
  rw [Int.add_mul]
  omega
theorem ceil_eq {a b : Int} (ha : 0 ≤ a ∧ a ≤ 100000) (hb : 1 ≤ b ∧ b ≤ 100000) : fixed_ceil.f a b = some (ceilD a b) := by
  unfold fixed_ceil.f
  rw [if_neg (by omega), wrap64_small (n := a + b) (by omega) (by omega), wrap64_small (n := a + b - 1) (by omega) (by omega), Int.tdiv_eq_ediv_of_nonneg (by omega)]
  have h1 := ceilD_nonneg hb.1 ha.1
  have h2 := ceilD_le hb.1 ha.1
  show some (IntKind.i64.wrap (ceilD a b)) = _
  rw [wrap64_small (by omega) (by omega)]
/-- what others want in so many ticks -/
def wants (os : List STask) (w : Int) : Int := (os.map fun o => ceilD (w + o.J) o.T * o.C).sum
def dem (t : STask) (b : Int) (os : List STask) (w : Int) : Int := t.C + b + wants os w
theorem wants_nil (w : Int) : wants [] w = 0 := rfl
theorem wants_cons (o : STask) (os : List STask) (w : Int) : wants (o :: os) w = ceilD (w + o.J) o.T * o.C + wants os w := by simp [wants]
theorem wants_append (os ps : List STask) (w : Int) : wants (os ++ ps) w = wants os w + wants ps w := by simp [wants]
theorem want_bounds {o : STask} (ho : Okt o) {w : Int} (hw : 0 ≤ w ∧ w ≤ 10000) : 0 ≤ ceilD (w + o.J) o.T * o.C ∧ ceilD (w + o.J) o.T * o.C ≤ 200000000 := by
  have := ho.C; have := ho.T; have := ho.J
  have h1 := ceilD_nonneg (a := w + o.J) (b := o.T) (by omega) (by omega)
  have h2 := ceilD_le (a := w + o.J) (b := o.T) (by omega) (by omega)
  refine ⟨Int.mul_nonneg h1 (by omega), ?_⟩
  calc ceilD (w + o.J) o.T * o.C ≤ 20000 * o.C := Int.mul_le_mul_of_nonneg_right (by omega) (by omega)
    _ ≤ 20000 * 10000 := Int.mul_le_mul_of_nonneg_left (by omega) (by omega)
    _ = 200000000 := by decide
theorem wants_bounds : ∀ {os : List STask}, (∀ o ∈ os, Okt o) → ∀ {w : Int}, (0 ≤ w ∧ w ≤ 10000) → 0 ≤ wants os w ∧ wants os w ≤ 200000000 * os.length
  | [], _, w, _ => by simp [wants_nil]
  | o :: os, h, w, hw => by
    have h1 := want_bounds (h o (by simp)) hw
    have h2 := wants_bounds (fun x hx => h x (List.mem_cons_of_mem _ hx)) hw
    rw [wants_cons, List.length_cons]
    omega
theorem wants_mono : ∀ {os : List STask}, (∀ o ∈ os, Okt o) → ∀ {w w' : Int}, w ≤ w' → wants os w ≤ wants os w'
  | [], _, w, w', _ => by simp [wants_nil]
  | o :: os, h, w, w', hw => by
    have ho := h o (by simp)
    have h2 := wants_mono (fun x hx => h x (List.mem_cons_of_mem _ hx)) hw
    have h1 : ceilD (w + o.J) o.T * o.C ≤ ceilD (w' + o.J) o.T * o.C := Int.mul_le_mul_of_nonneg_right (ceilD_mono ho.T.1 (by omega)) (by have := ho.C; omega)
    rw [wants_cons, wants_cons]
    omega
/-- the least n, 1 at least, in which all is done that is wanted; 0: there is none up to most -/
def settled (f : Int → Int) (most : Int) : Int := match firstOf (fun n : Nat => if f n ≤ n then some (n : Int) else none) (most.toNat + 1) 1 with
  | some n => n
  | none => 0
theorem settled_some {f : Int → Int} {most : Int} {j : Nat} (h : firstOf (fun n : Nat => if f n ≤ n then some (n : Int) else none) (most.toNat + 1) 1 = some (j : Int)) : settled f most = j := by unfold settled; rw [h]
theorem settled_none {f : Int → Int} {most : Int} (h : firstOf (fun n : Nat => if f n ≤ n then some (n : Int) else none) (most.toNat + 1) 1 = none) : settled f most = 0 := by unfold settled; rw [h]
theorem settled_pos {f : Int → Int} {most : Int} (h : settled f most ≠ 0) : 1 ≤ settled f most ∧ settled f most ≤ most ∧ f (settled f most) ≤ settled f most ∧ ∀ n : Int, 1 ≤ n → n < settled f most → n < f n := by
  cases hf : firstOf (fun n : Nat => if f n ≤ n then some (n : Int) else none) (most.toNat + 1) 1 with
  | none => exact absurd (settled_none hf) h
  | some r =>
    obtain ⟨j, h1, h2, h3, h4⟩ := firstOf_some hf
    split at h3
    · cases h3
      rw [settled_some hf]
      refine ⟨by omega, by omega, by assumption, fun n hn1 hn2 => ?_⟩
      have := h4 n.toNat (by omega) (by omega)
      have e : ((n.toNat : Nat) : Int) = n := Int.toNat_of_nonneg (by omega)
      simp only [e] at this
      split at this
      · cases this
      · omega
    · cases h3
theorem settled_zero {f : Int → Int} {most : Int} (h : settled f most = 0) : ∀ n : Int, 1 ≤ n → n ≤ most → n < f n := by
  cases hf : firstOf (fun n : Nat => if f n ≤ n then some (n : Int) else none) (most.toNat + 1) 1 with
  | some r =>
    obtain ⟨j, h1, h2, h3, h4⟩ := firstOf_some hf
    split at h3
    · cases h3; rw [settled_some hf] at h; omega
    · cases h3
  | none =>
    intro n h1 h2
    have := firstOf_none hf n.toNat (by omega) (by omega)
    have e : ((n.toNat : Nat) : Int) = n := Int.toNat_of_nonneg (by omega)
    simp only [e] at this
    split at this
    · cases this
    · omega
theorem settled_eq {f : Int → Int} {most w : Int} (h1 : 1 ≤ w) (h2 : w ≤ most) (h3 : f w ≤ w) (h4 : ∀ n : Int, 1 ≤ n → n < w → n < f n) : settled f most = w := by
  by_cases h : settled f most = 0
  · have := settled_zero h w h1 h2; omega
  · obtain ⟨g1, g2, g3, g4⟩ := settled_pos h
    rcases Int.lt_trichotomy (settled f most) w with hl | hl | hl
    · have := h4 _ g1 hl; omega
    · exact hl
    · have := g4 _ h1 hl; omega
theorem settled_eq_zero {f : Int → Int} {most : Int} (h : ∀ n : Int, 1 ≤ n → n ≤ most → n < f n) : settled f most = 0 := by
  apply Decidable.byContradiction
  intro hne
  obtain ⟨g1, g2, g3, g4⟩ := settled_pos hne
  have := h _ g1 g2
  omega
theorem demand_eq (t : STask) (b : Int) (os : List STask) (w : Int) (ht : Okt t) (hb : 0 ≤ b ∧ b ≤ 10000) (ho : ∀ o ∈ os, Okt o) (hl : os.length ≤ 8) (hw : 0 ≤ w ∧ w ≤ 10000) (K : Nat) (hK : 9 ≤ K) : fixed_response_1.f K w t b os = some (dem t b os w) := by
  unfold fixed_response_1.f
  have hC := ht.C
  have hr := iter_states (ρ := Int) (f := fixed_response_1.r0 w os) (fun i => (t.C + b + wants (os.take i) w, i)) (fun _ => none) os.length (t := dem t b os w) (fun i hi _ => by
    have hi' : (i : Int) < (os.length : Int) := by omega
    have hoi := ho os[i] (List.getElem_mem hi)
    have hT := hoi.T; have hJ := hoi.J
    have hwb := want_bounds hoi hw
    have hs := wants_bounds (os := os.take i) (fun o h => ho o (List.mem_of_mem_take h)) hw
    have hlen : (os.take i).length ≤ 8 := by simp; omega
    simp only [fixed_response_1.r0, if_pos hi', List.getElem?_eq_getElem hi]
    rw [wrap64_small (n := w + os[i].J) (by omega) (by omega), ceil_eq (by omega) (by omega)]
    simp only [onwardS]
    rw [wrap64_small (n := ceilD (w + os[i].J) os[i].T * os[i].C) (by omega) (by omega), wrap64_small (by omega) (by omega)]
    congr 3
    rw [List.take_succ_eq_append_getElem hi, wants_append, wants_cons, wants_nil]
    omega) (fun _ => by simp [fixed_response_1.r0, dem]) (K := K) (by omega)
  have h0 : t.C + b + wants (os.take 0) w = t.C + b := by simp [wants_nil]
  rw [h0] at hr
  rw [wrap64_small (by omega) (by omega), hr, firstOf_none_of (fun _ _ _ => rfl)]
  rfl
theorem dem_mono {t : STask} {b : Int} {os : List STask} (ho : ∀ o ∈ os, Okt o) {w w' : Int} (h : w ≤ w') : dem t b os w ≤ dem t b os w' := by
  have := wants_mono ho h
  unfold dem; omega
theorem settle_eq (t : STask) (b : Int) (os : List STask) (ht : Okt t) (hb : 0 ≤ b ∧ b ≤ 10000) (ho : ∀ o ∈ os, Okt o) (hl : os.length ≤ 8) (most : Int) (hm : most ≤ 10000) (K : Nat) (hK : 20100 ≤ K) : fixed_Settle.f K (t.C + b) most t b os = some (settled (dem t b os) most) := by
  unfold fixed_Settle.f
  have hC := ht.C
  obtain ⟨r, hr, hR⟩ := iter_total (f := fixed_Settle.r0 K most t b os) (fun w => t.C + b ≤ w ∧ w ≤ 1600000000 + 20000 ∧ ∀ n : Int, 1 ≤ n → n < w → n < dem t b os n) (fun w => (10001 - w).toNat)
    (fun r => r = if settled (dem t b os) most = 0 then .inl () else .inr (settled (dem t b os) most)) (fun w hI => by
      obtain ⟨h1, h2, h3⟩ := hI
      by_cases hw : w ≤ most
      · have hd := demand_eq t b os w ht hb ho hl ⟨by omega, by omega⟩ K (by omega)
        simp only [fixed_Settle.r0, if_pos hw, hd]
        by_cases hle : dem t b os w ≤ w
        · right
          have hs := settled_eq (f := dem t b os) (most := most) (by omega) hw hle h3
          refine ⟨_, by rw [if_pos hle], ?_⟩
          rw [hs, if_neg (by omega)]
        · left
          have hwb := wants_bounds ho (w := w) ⟨by omega, by omega⟩
          refine ⟨_, by rw [if_neg hle], ⟨by unfold dem; omega, by unfold dem; omega, fun n hn1 hn2 => ?_⟩, by omega⟩
          by_cases hnw : n < w
          · exact h3 n hn1 hnw
          · have := dem_mono (t := t) (b := b) ho (w := w) (w' := n) (by omega)
            omega
      · right
        refine ⟨.inl (), by simp only [fixed_Settle.r0, if_neg hw], ?_⟩
        rw [settled_eq_zero (fun n h1 h2 => h3 n h1 (by omega)), if_pos rfl]) K (t.C + b) ⟨Int.le_refl _, by omega, fun n h1 h2 => by
          by_cases hn : n ≤ 10000
          · have := wants_bounds ho (w := n) ⟨by omega, hn⟩
            unfold dem; omega
          · have := wants_mono ho (w := 10000) (w' := n) (by omega)
            have := wants_bounds ho (w := 10000) ⟨by omega, by omega⟩
            unfold dem; omega⟩ (by omega)
  rw [hr, hR]
  by_cases h : settled (dem t b os) most = 0
  · rw [if_pos h, h]
  · rw [if_neg h]
/-- how long a task takes; 0: too long -/
def respond (t : STask) (os : List STask) (b : Int) : Int := if settled (dem t b os) (t.D - t.J) = 0 then 0 else settled (dem t b os) (t.D - t.J) + t.J
theorem response_eq (t : STask) (b : Int) (os : List STask) (ht : Okt t) (hb : 0 ≤ b ∧ b ≤ 10000) (ho : ∀ o ∈ os, Okt o) (hl : os.length ≤ 8) (K : Nat) (hK : 20100 ≤ K) : fixed_response.f K t os b = some (respond t os b) := by
  have hC := ht.C; have hD := ht.D; have hJ := ht.J
  unfold fixed_response.f
  rw [wrap64_small (n := t.C + b) (by omega) (by omega), wrap64_small (n := t.D - t.J) (by omega) (by omega), settle_eq t b os ht hb ho hl _ (by omega) K hK]
  simp only
  unfold respond
  by_cases h : settled (dem t b os) (t.D - t.J) = 0
  · rw [if_pos h, if_pos h]
  · rw [if_neg h, if_neg h]
    have := settled_pos h
    rw [wrap64_small (by omega) (by omega)]
/-- what is wrong with a set whose tasks must be done ere they come again -/
noncomputable def fixedFault (l : List STask) : SFault :=
  if (setFault l).Code = 0 then (firstOf (fun i => match l[i]? with | some t => if t.D > t.T then some ⟨12, (i : Int)⟩ else none | none => none) l.length 0).getD ⟨0, 0⟩ else setFault l
theorem fixedFault_ok {l : List STask} (h : (fixedFault l).Code = 0) : (setFault l).Code = 0 ∧ fixedFault l = ⟨0, 0⟩ ∧ ∀ t ∈ l, t.D ≤ t.T := by
  unfold fixedFault at h ⊢
  split at h
  · rename_i hs
    cases hf : firstOf (fun i => match l[i]? with | some t => if t.D > t.T then some (⟨12, (i : Int)⟩ : SFault) else none | none => none) l.length 0 with
    | none =>
      refine ⟨hs, by rw [if_pos hs]; rfl, fun t ht => ?_⟩
      obtain ⟨i, hi⟩ := List.mem_iff_getElem?.1 ht
      have := firstOf_none hf i (Nat.zero_le _) (lt_of_get hi)
      simp only [hi] at this
      split at this
      · cases this
      · omega
    | some r =>
      rw [hf] at h
      obtain ⟨j, _, hj, hg, _⟩ := firstOf_some hf
      simp only [Option.getD_some] at h
      exfalso
      split at hg
      · split at hg
        · cases hg; cases h
        · cases hg
      · cases hg
  · contradiction
theorem check_eq (l : List STask) (K : Nat) (hK : 20 ≤ K) : fixed_check.f K l = some (fixedFault l) := by
  unfold fixed_check.f fixedFault
  rw [Check_eq l K hK]
  simp only
  by_cases h : (setFault l).Code = 0
  · rw [if_pos h, if_pos h]
    have hl := (setFault_ok h).2.1
    have hr := iter_first0 (f := fixed_check.r0 l) (fun i => match l[i]? with | some t => if t.D > t.T then some ⟨12, (i : Int)⟩ else none | none => none) l.length (t := ()) (fun i hi => by
      have hi' : (i : Int) < (l.length : Int) := by omega
      simp only [fixed_check.r0, if_pos hi', List.getElem?_eq_getElem hi]
      split <;> rfl) (by simp [fixed_check.r0]) (K := K) (by omega)
    rw [hr]
    cases firstOf (fun i => match l[i]? with | some t => if t.D > t.T then some (⟨12, (i : Int)⟩ : SFault) else none | none => none) l.length 0 <;> rfl
  · rw [if_neg h, if_neg h]
/-- those that go ahead of task i, up to place n -/
def aboveTill (l : List STask) (i : Nat) (n : Nat) : List STask := (List.range n).filterMap fun k => match l[k]?, l[i]? with
  | some a, some b => if k ≠ i ∧ a.P ≥ b.P then some a else none
  | _, _ => none
abbrev aboveOf (l : List STask) (i : Nat) : List STask := aboveTill l i l.length
theorem aboveTill_len (l : List STask) (i n : Nat) : (aboveTill l i n).length ≤ n := by
  unfold aboveTill
  exact Nat.le_trans (List.length_filterMap_le _ _) (by simp)
theorem aboveTill_mem {l : List STask} {i n : Nat} {a : STask} (h : a ∈ aboveTill l i n) : a ∈ l := by
  unfold aboveTill at h
  obtain ⟨k, _, hk⟩ := List.mem_filterMap.1 h
  split at hk
  · rename_i x y hx hy
    split at hk
    · cases hk; exact List.mem_of_getElem? hx
    · cases hk
  · cases hk
theorem aboveTill_succ {l : List STask} {i n : Nat} {a b : STask} (ha : l[n]? = some a) (hb : l[i]? = some b) : aboveTill l i (n + 1) = aboveTill l i n ++ (if n ≠ i ∧ a.P ≥ b.P then [a] else []) := by
  unfold aboveTill
  rw [List.range_succ, List.filterMap_append]
  congr 1
  simp only [List.filterMap_cons, List.filterMap_nil, ha, hb]
  split <;> rename_i h <;> split at h <;> simp_all
theorem above_eq (l : List STask) (i : Nat) (hi : i < l.length) (hl : l.length ≤ 8) (K : Nat) (hK : 9 ≤ K) : fixed_above.f K l (i : Int) = some (aboveOf l i) := by
  unfold fixed_above.f
  have hr := iter_states (ρ := List STask) (f := fixed_above.r0 l (i : Int)) (fun k => (aboveTill l i k, k)) (fun _ => none) l.length (t := aboveOf l i) (fun k hk _ => by
    have hk' : (k : Int) < (l.length : Int) := by omega
    have hlen := aboveTill_len l i k
    rw [aboveTill_succ (List.getElem?_eq_getElem hk) (List.getElem?_eq_getElem hi)]
    simp only [fixed_above.r0, if_pos hk', List.getElem?_eq_getElem hk, Int.toNat_natCast, List.getElem?_eq_getElem hi, onwardS]
    by_cases h1 : (k : Int) = (i : Int)
    · rw [if_pos h1, if_neg (by omega), List.append_nil]
    · rw [if_neg h1, if_pos (by omega)]
      by_cases h2 : l[k].P ≥ l[i].P
      · rw [if_pos h2, if_pos (by omega), if_pos ⟨by omega, h2⟩]
      · rw [if_neg h2, if_neg (fun h => h2 h.2), List.append_nil]) (fun _ => by simp [fixed_above.r0]) (K := K) (by omega)
  have h0 : aboveTill l i 0 = [] := rfl
  rw [h0, firstOf_none_of (fun _ _ _ => rfl)] at hr
  rw [hr]; rfl
/-- how long task i of a set takes at worst -/
noncomputable def respOf (l : List STask) (i b : Int) : Int × SFault :=
  if (fixedFault l).Code = 0 then
    (if i < 0 ∨ i ≥ (l.length : Int) ∨ b < 0 ∨ b > 10000 then (0, ⟨3, 0⟩)
    else match l[i.toNat]? with
      | none => (0, ⟨3, 0⟩)
      | some t => if respond t (aboveOf l i.toNat) b = 0 then (0, ⟨13, i⟩) else (respond t (aboveOf l i.toNat) b, ⟨0, 0⟩))
  else (0, fixedFault l)
theorem Response_eq (l : List STask) (i b : Int) (K : Nat) (hK : 20100 ≤ K) : fixed_Response.f K l i b = some (respOf l i b) := by
  unfold fixed_Response.f respOf
  rw [check_eq l K (by omega)]
  simp only
  by_cases hc : (fixedFault l).Code = 0
  · rw [if_pos hc, if_pos hc]
    have hs := (fixedFault_ok hc).1
    have hl := (setFault_ok hs).2.1
    have hp : fixed_Response.p0 l i b = some (.inl (decide (i < 0 ∨ i ≥ (l.length : Int) ∨ b < 0 ∨ b > 10000))) := by
      unfold fixed_Response.p0
      by_cases h1 : i < 0
      · rw [if_pos h1, decide_eq_true (.inl h1)]
      rw [if_neg h1]
      by_cases h2 : i ≥ (l.length : Int)
      · rw [if_pos h2, decide_eq_true (.inr (.inl h2))]
      rw [if_neg h2]
      by_cases h3 : b < 0
      · rw [if_pos h3, decide_eq_true (.inr (.inr (.inl h3)))]
      rw [if_neg h3]
      congr 2
      rw [Bool.eq_iff_iff, decide_eq_true_eq, decide_eq_true_eq]
      omega
    simp only [hp, decide_eq_true_eq]
    by_cases hbad : i < 0 ∨ i ≥ (l.length : Int) ∨ b < 0 ∨ b > 10000
    · rw [if_pos hbad, if_pos hbad]
    · rw [if_neg hbad, if_neg hbad, if_pos (by omega)]
      have hi : i.toNat < l.length := by omega
      have hcast : ((i.toNat : Nat) : Int) = i := Int.toNat_of_nonneg (by omega)
      have ha := above_eq l i.toNat hi hl K (by omega)
      rw [hcast] at ha
      have hok := okt_of hs
      have hlen := aboveTill_len l i.toNat l.length
      simp only [List.getElem?_eq_getElem hi, ha, response_eq _ b _ (hok _ (List.getElem_mem hi)) ⟨by omega, by omega⟩ (fun o ho => hok o (aboveTill_mem ho)) (Nat.le_trans hlen hl) K hK]
      split <;> rfl
  · rw [if_neg hc, if_neg hc]
/-- the first ones of what all take -/
noncomputable def respTill (l : List STask) (bs : List Int) (n : Nat) : List Int := (List.range n).map fun (i : Nat) => match bs[i]? with | some b => (respOf l (i : Int) b).1 | none => 0
noncomputable def respAt (l : List STask) (bs : List Int) (i : Nat) : Option SFault := match bs[i]? with | some b => if (respOf l (i : Int) b).2.Code = 0 then none else some (respOf l (i : Int) b).2 | none => none
noncomputable def respsOf (l : List STask) (bs : List Int) : List Int × SFault :=
  if (fixedFault l).Code = 0 then
    (if bs.length = l.length then
      (match firstOf (respAt l bs) l.length 0 with
      | some f => ([], f)
      | none => (respTill l bs l.length, ⟨0, 0⟩))
    else ([], ⟨2, 0⟩))
  else ([], fixedFault l)
theorem respsOf_len (l : List STask) (bs : List Int) : (respsOf l bs).1.length ≤ 8 := by
  unfold respsOf
  split
  · rename_i h
    have hl := (setFault_ok (fixedFault_ok h).1).2.1
    split
    · split
      · simp
      · simp [respTill]; exact hl
    · simp
  · simp
theorem gmax_eq (x y : Int) : gmax x y = max x y := by unfold gmax; omega
theorem gmin_eq (x y : Int) : gmin x y = min x y := by unfold gmin; omega

/-- one step towards the least time -/
def settleStep (d : Int → Option Int) (most : Int) (z : Int) : Option (Int ⊕ (Unit ⊕ Int)) :=
  if z ≤ most then
    match d z with
    | none => none
    | some r => if r ≤ z then some (.inr (.inr z)) else some (.inl r)
  else some (.inr (.inl ()))
theorem settle_iter {d : Int → Option Int} {f : Int → Int} {most first : Int} (h1 : 1 ≤ first) (hd : ∀ z, first ≤ z → z ≤ most → d z = some (f z)) (hge : ∀ z, 1 ≤ z → first ≤ f z) (hm : ∀ z z', 1 ≤ z → z ≤ z' → f z ≤ f z') {K : Nat} (hK : most + 2 < K) (hK0 : 1 ≤ K) :
    iter (settleStep d most) K first = some (if settled f most = 0 then .inl () else .inr (settled f most)) := by
  obtain ⟨r, hr, hR⟩ := iter_total (f := settleStep d most) (fun w => first ≤ w ∧ ∀ n : Int, 1 ≤ n → n < w → n < f n) (fun w => (most + 1 - w).toNat)
    (fun r => r = if settled f most = 0 then .inl () else .inr (settled f most)) (fun w hI => by
      obtain ⟨h2, h3⟩ := hI
      by_cases hw : w ≤ most
      · simp only [settleStep, if_pos hw, hd w h2 hw]
        by_cases hle : f w ≤ w
        · right
          have hs := settled_eq (f := f) (most := most) (by omega) hw hle h3
          refine ⟨_, by rw [if_pos hle], ?_⟩
          rw [hs, if_neg (by omega)]
        · left
          refine ⟨_, by rw [if_neg hle], ⟨by omega, fun n hn1 hn2 => ?_⟩, by omega⟩
          by_cases hnw : n < w
          · exact h3 n hn1 hnw
          · have := hm w n (by omega) (by omega)
            omega
      · right
        refine ⟨.inl (), by simp only [settleStep, if_neg hw], ?_⟩
        rw [settled_eq_zero (fun n h1 h2 => h3 n h1 (by omega)), if_pos rfl]) K first ⟨Int.le_refl _, fun n hn1 hn2 => by have := hge n hn1; omega⟩ (by omega)
  rw [hr, hR]
/-- one step of the search, time by time -/
def leastStep (d : Int → Option Int) (most : Int) (z : Int) : Option (Int ⊕ (Unit ⊕ Int)) :=
  if z ≤ most then
    match d z with
    | none => none
    | some r => if r = z then some (.inr (.inr z)) else some (.inl (IntKind.i64.wrap (z + 1)))
  else some (.inr (.inl ()))
theorem least_iter {d : Int → Option Int} {f : Int → Int} {most : Int} (hmost : most ≤ 1000000000) (hd : ∀ z, 1 ≤ z → z ≤ most → d z = some (f z)) (hge : ∀ z, 1 ≤ z → 1 ≤ f z) (hm : ∀ z z', 1 ≤ z → z ≤ z' → f z ≤ f z') {K : Nat} (hK : most + 2 < K) (hK0 : 1 ≤ K) :
    iter (leastStep d most) K 1 = some (if settled f most = 0 then .inl () else .inr (settled f most)) := by
  obtain ⟨r, hr, hR⟩ := iter_total (f := leastStep d most) (fun w => 1 ≤ w ∧ (w ≤ 1 ∨ w ≤ most + 1) ∧ ∀ n : Int, 1 ≤ n → n < w → n < f n) (fun w => (most + 1 - w).toNat)
    (fun r => r = if settled f most = 0 then .inl () else .inr (settled f most)) (fun w hI => by
      obtain ⟨h2, hwm, h3⟩ := hI
      by_cases hw : w ≤ most
      · simp only [leastStep, if_pos hw, hd w h2 hw]
        have hge : w ≤ f w := by
          by_cases hw1 : w = 1
          · subst hw1; exact hge 1 (by omega)
          · have := h3 (w - 1) (by omega) (by omega)
            have := hm (w - 1) w (by omega) (by omega)
            omega
        by_cases hle : f w = w
        · right
          have hs := settled_eq (f := f) (most := most) (by omega) hw (by omega) h3
          refine ⟨_, by rw [if_pos hle], ?_⟩
          rw [hs, if_neg (by omega)]
        · left
          refine ⟨_, by rw [if_neg hle, wrap64_small (by omega) (by omega)], ⟨by omega, by omega, fun n hn1 hn2 => ?_⟩, by omega⟩
          by_cases hnw : n < w
          · exact h3 n hn1 hnw
          · have : n = w := by omega
            subst this
            omega
      · right
        refine ⟨.inl (), by simp only [leastStep, if_neg hw], ?_⟩
        rw [settled_eq_zero (fun n h1 h2 => h3 n h1 (by omega)), if_pos rfl]) K 1 ⟨Int.le_refl _, .inl (Int.le_refl _), fun n hn1 hn2 => by omega⟩ (by omega)
  rw [hr, hR]

/-- what is wrong with the i-th job that is played -/
def playAt (l : List SJob) (i : Nat) : Option SFault := match l[i]? with
  | some e => if e.At < 0 ∨ e.At > 60000 ∨ e.C < 1 ∨ e.C > 10000 ∨ e.Due < 0 ∨ e.Due > 80000 then some ⟨3, (i : Int)⟩ else none
  | none => none
def playFault (l : List SJob) : SFault := if l.length > 4000 then ⟨2, 0⟩ else (firstOf (playAt l) l.length 0).getD ⟨0, 0⟩
theorem schedCheck_eq (l : List SJob) (K : Nat) (hK : 4010 ≤ K) : sched_Check.f K l = some (playFault l) := by
  unfold sched_Check.f playFault
  by_cases hl : (l.length : Int) > 4000
  · rw [if_pos hl, if_pos (by omega)]
  rw [if_neg hl, if_neg (by omega)]
  have hr := iter_first0 (f := sched_Check.r0 l) (playAt l) l.length (t := ()) (fun i hi => by
    have hi' : (i : Int) < (l.length : Int) := by omega
    simp only [sched_Check.r0, if_pos hi', List.getElem?_eq_getElem hi, playAt]
    generalize l[i] = e
    by_cases h : e.At < 0 ∨ e.At > 60000 ∨ e.C < 1 ∨ e.C > 10000 ∨ e.Due < 0 ∨ e.Due > 80000
    · rw [if_pos h]
      repeat' split
      all_goals first | rfl | omega
    · rw [if_neg h]
      rw [if_neg (by omega), if_neg (by omega), if_neg (by omega), if_neg (by omega), if_neg (by omega), if_neg (by omega)]
      rfl) (by simp [sched_Check.r0]) (K := K) (by omega)
  rw [hr]
  cases firstOf (playAt l) l.length 0 <;> rfl
structure Okj (e : SJob) : Prop where
  At : 0 ≤ e.At ∧ e.At ≤ 60000
  C : 1 ≤ e.C ∧ e.C ≤ 10000
  Due : 0 ≤ e.Due ∧ e.Due ≤ 80000
theorem playFault_ok {l : List SJob} (h : (playFault l).Code = 0) : l.length ≤ 4000 ∧ playFault l = ⟨0, 0⟩ ∧ ∀ e ∈ l, Okj e := by
  unfold playFault at h ⊢
  split at h
  · cases h
  rename_i hl
  cases hf : firstOf (playAt l) l.length 0 with
  | none =>
    refine ⟨by omega, by rw [if_neg hl]; rfl, fun e he => ?_⟩
    obtain ⟨i, hi⟩ := List.mem_iff_getElem?.1 he
    have := firstOf_none hf i (Nat.zero_le _) (lt_of_get hi)
    simp only [playAt, hi] at this
    split at this
    · cases this
    · exact ⟨by omega, by omega, by omega⟩
  | some r =>
    rw [hf] at h
    obtain ⟨j, _, hj, hg, _⟩ := firstOf_some hf
    exfalso
    simp only [playAt, List.getElem?_eq_getElem hj] at hg
    split at hg
    · cases hg; cases h
    · cases hg
theorem playFault_of {l : List SJob} (hl : l.length ≤ 4000) (h : ∀ e ∈ l, Okj e) : playFault l = ⟨0, 0⟩ := by
  unfold playFault
  rw [if_neg (by omega), firstOf_none_of]
  · rfl
  · intro j _ hj
    have he := h l[j] (List.getElem_mem hj)
    have := he.At; have := he.C; have := he.Due
    simp only [playAt, List.getElem?_eq_getElem hj]
    rw [if_neg (by omega)]
/-- job a goes ahead of job b, by a policy, then by their times -/
def aheadJ (p : Int) (a b : SJob) : Prop := if p = 1 then a.P > b.P ∨ (a.P = b.P ∧ a.At < b.At) else a.Due < b.Due ∨ (a.Due = b.Due ∧ a.At < b.At)
instance (p : Int) (a b : SJob) : Decidable (aheadJ p a b) := by unfold aheadJ; infer_instance
theorem compare_eq (x y : Int) : cmp_Compare_int.f x y = if x < y then -1 else if x > y then 1 else 0 := by simp [cmp_Compare_int.f, cmp_isNaN_int.f]
theorem or2_eq (x y : Int) (K : Nat) (hK : 3 ≤ K) : cmp_Or_int.f K [x, y] = some (if x = 0 then y else x) := by
  obtain ⟨K, rfl⟩ : ∃ k, K = k + 3 := ⟨K - 3, by omega⟩
  simp only [cmp_Or_int.f, iter, cmp_Or_int.r0]
  by_cases hx : x = 0 <;> by_cases hy : y = 0 <;> simp [hx, hy]
/-- can it run at t? -/
def canJ (jobs : List SJob) (left : List Int) (t : Int) (i : Nat) : Prop := match jobs[i]?, left[i]? with
  | some j, some x => j.At ≤ t ∧ 0 < x
  | _, _ => False
instance (jobs : List SJob) (left : List Int) (t : Int) (i : Nat) : Decidable (canJ jobs left t i) := by unfold canJ; split <;> infer_instance
/-- the first of the first n -/
def firstTo (p : Int) (jobs : List SJob) (left : List Int) (t : Int) : Nat → Int
  | 0 => -1
  | n + 1 =>
    let b := firstTo p jobs left t n
    if canJ jobs left t n then
      (if b < 0 then (n : Int) else match jobs[n]?, jobs[b.toNat]? with
        | some x, some y => if aheadJ p x y then (n : Int) else b
        | _, _ => b)
    else b
theorem firstTo_cases (p : Int) (jobs : List SJob) (left : List Int) (t : Int) : ∀ n, n ≤ jobs.length → (firstTo p jobs left t n = -1 ∧ ∀ i, i < n → ¬ canJ jobs left t i) ∨
    (∃ (b : Nat) (y : SJob), firstTo p jobs left t n = (b : Int) ∧ b < n ∧ jobs[b]? = some y ∧ canJ jobs left t b ∧ ∀ i x, i < n → jobs[i]? = some x → canJ jobs left t i → ¬ aheadJ p x y ∧ (i < b → aheadJ p y x))
  | 0, _ => .inl ⟨rfl, fun i h => by omega⟩
  | n + 1, hn => by
    have hnx : jobs[n]? = some jobs[n] := List.getElem?_eq_getElem (by omega)
    generalize jobs[n] = x at hnx
    have irr : ∀ x : SJob, ¬ aheadJ p x x := fun x h => by unfold aheadJ at h; split at h <;> omega
    have tr : ∀ x y z : SJob, aheadJ p x y → ¬ aheadJ p z y → ¬ aheadJ p z x := fun x y z h k hh => by
      unfold aheadJ at h k hh; split at h <;> simp_all <;> omega
    have tr2 : ∀ x y z : SJob, aheadJ p x y → aheadJ p y z → aheadJ p x z := fun x y z h k => by
      unfold aheadJ at h k ⊢; split at h <;> simp_all <;> omega
    have tr3 : ∀ x y z : SJob, aheadJ p x y → ¬ aheadJ p z y → aheadJ p x z := fun x y z h k => by
      unfold aheadJ at h k ⊢; split at h <;> simp_all <;> omega
    rcases firstTo_cases p jobs left t n (by omega) with ⟨h1, h2⟩ | ⟨b, y, h1, h2, h3, h4, h5⟩
    · by_cases hc : canJ jobs left t n
      · right
        refine ⟨n, x, by simp only [firstTo, if_pos hc, h1]; rfl, by omega, hnx, hc, fun i z hi hz hcz => ?_⟩
        by_cases hin : i = n
        · subst hin; rw [hnx] at hz; cases hz; exact ⟨irr _, fun h => by omega⟩
        · exact absurd hcz (h2 i (by omega))
      · left
        refine ⟨by simp only [firstTo, if_neg hc, h1], fun i hi => ?_⟩
        by_cases hin : i = n
        · subst hin; exact hc
        · exact h2 i (by omega)
    · right
      by_cases hc : canJ jobs left t n
      · by_cases ha : aheadJ p x y
        · refine ⟨n, x, by simp only [firstTo, if_pos hc, h1, Int.toNat_natCast, hnx, h3, if_pos ha]; rw [if_neg (by omega)], by omega, hnx, hc, fun i z hi hz hcz => ?_⟩
          by_cases hin : i = n
          · subst hin; rw [hnx] at hz; cases hz; exact ⟨irr _, fun h => by omega⟩
          · obtain ⟨g1, g2⟩ := h5 i z (by omega) hz hcz
            exact ⟨tr x y z ha g1, fun _ => tr3 x y z ha g1⟩
        · refine ⟨b, y, by simp only [firstTo, if_pos hc, h1, Int.toNat_natCast, hnx, h3, if_neg ha]; rw [if_neg (by omega)], by omega, h3, h4, fun i z hi hz hcz => ?_⟩
          by_cases hin : i = n
          · subst hin; rw [hnx] at hz; cases hz; exact ⟨ha, fun h => by omega⟩
          · exact h5 i z (by omega) hz hcz
      · refine ⟨b, y, by simp only [firstTo, if_neg hc, h1], by omega, h3, h4, fun i z hi hz hcz => ?_⟩
        by_cases hin : i = n
        · subst hin; exact absurd hcz hc
        · exact h5 i z (by omega) hz hcz
theorem getD_of {l : List Int} {i : Nat} {x : Int} (h : l[i]? = some x) : l.getD i 0 = x := by simp [List.getD, h]
theorem get_of_lt {l : List Int} {i : Nat} (h : i < l.length) : l[i]? = some (l.getD i 0) := by simp [List.getD, h]
theorem getD_set (l : List Int) (i j : Nat) (x : Int) (hi : i < l.length) : (l.set i x).getD j 0 = if i = j then x else l.getD j 0 := by
  simp only [List.getD, List.getElem?_set]
  by_cases h : i = j
  · subst h; simp [hi]
  · simp [h]
def atN (jobs : List SJob) (j : Nat) : Nat := match jobs[j]? with | some e => e.At.toNat | none => 0
def costOf (jobs : List SJob) (j : Nat) : Int := (jobs.map (·.C)).getD j 0
theorem costOf_some {jobs : List SJob} {j : Nat} {e : SJob} (h : jobs[j]? = some e) : costOf jobs j = e.C := by simp [costOf, List.getD, h]
theorem atN_some {jobs : List SJob} {j : Nat} {e : SJob} (h : jobs[j]? = some e) : atN jobs j = e.At.toNat := by simp [atN, h]

def sumN (f : Nat → Int) : Nat → Int
  | 0 => 0
  | n + 1 => sumN f n + f n
theorem sumN_congr {f g : Nat → Int} : ∀ {n : Nat}, (∀ j, j < n → f j = g j) → sumN f n = sumN g n
  | 0, _ => rfl
  | n + 1, h => by simp only [sumN]; rw [sumN_congr (fun j hj => h j (by omega)), h n (by omega)]
theorem sumN_le {f g : Nat → Int} : ∀ {n : Nat}, (∀ j, j < n → f j ≤ g j) → sumN f n ≤ sumN g n
  | 0, _ => Int.le_refl _
  | n + 1, h => by
    simp only [sumN]
    have := sumN_le (n := n) (fun j hj => h j (by omega))
    have := h n (by omega)
    omega
theorem sumN_nonneg {f : Nat → Int} : ∀ {n : Nat}, (∀ j, j < n → 0 ≤ f j) → 0 ≤ sumN f n
  | 0, _ => Int.le_refl _
  | n + 1, h => by
    simp only [sumN]
    have := sumN_nonneg (n := n) (fun j hj => h j (by omega))
    have := h n (by omega)
    omega
theorem sumN_zero {f : Nat → Int} {n : Nat} (h : ∀ j, j < n → f j = 0) : sumN f n = 0 := by
  rw [sumN_congr (g := fun _ => 0) h]
  induction n with
  | zero => rfl
  | succ n ih => simp only [sumN]; rw [ih (fun j hj => h j (by omega))]; rfl
theorem sumN_one {f g : Nat → Int} {b : Nat} {d : Int} : ∀ {n : Nat}, b < n → f b = g b + d → (∀ j, j < n → j ≠ b → f j = g j) → sumN f n = sumN g n + d
  | 0, h, _, _ => by omega
  | n + 1, h, hb, ho => by
    simp only [sumN]
    by_cases hn : n = b
    · subst hn
      rw [hb, sumN_congr (fun j hj => ho j (by omega) (by omega))]
      omega
    · rw [sumN_one (n := n) (by omega) hb (fun j hj hne => ho j (by omega) hne), ho n (by omega) hn]
      omega
theorem sumN_term {f : Nat → Int} {n k : Nat} (h : ∀ j, j < n → 0 ≤ f j) (hk : k < n) : f k ≤ sumN f n := by
  have h1 := sumN_one (f := f) (g := fun j => if j = k then 0 else f j) (b := k) (d := f k) hk (by simp) (fun j _ hne => by simp [hne])
  have h2 := sumN_nonneg (f := fun j => if j = k then 0 else f j) (n := n) (fun j hj => by show 0 ≤ (if j = k then 0 else f j); split; exact Int.le_refl _; exact h j hj)
  omega
theorem sumN_add (f g : Nat → Int) : ∀ n, sumN (fun j => f j + g j) n = sumN f n + sumN g n
  | 0 => rfl
  | n + 1 => by simp only [sumN]; rw [sumN_add f g n]; omega
theorem sumN_swap (f : Nat → Nat → Int) (m : Nat) : ∀ n, sumN (fun j => sumN (fun o => f o j) m) n = sumN (fun o => sumN (fun j => f o j) n) m
  | 0 => by
    show (0 : Int) = _
    symm
    exact sumN_zero (fun _ _ => rfl)
  | n + 1 => by
    simp only [sumN]
    rw [sumN_swap f m n, ← sumN_add]
theorem sumN_pick {f : Nat → Int} {n k : Nat} (hk : k < n) (h : ∀ j, j < n → j ≠ k → f j = 0) : sumN f n = f k := by
  have h1 := sumN_one (f := f) (g := fun _ => 0) (b := k) (d := f k) hk (by simp) (fun j hj hne => h j hj hne)
  rw [h1, sumN_zero (fun _ _ => rfl)]
  omega
/-- the greatest place up to m with a property -/
theorem exists_last {p : Nat → Prop} (m : Nat) (h0 : p 0) : ∃ t, t ≤ m ∧ p t ∧ ∀ s, t < s → s ≤ m → ¬ p s := by
  induction m with
  | zero => exact ⟨0, Nat.le_refl _, h0, fun s h1 h2 => by omega⟩
  | succ m ih =>
    by_cases h : p (m + 1)
    · exact ⟨m + 1, Nat.le_refl _, h, fun s h1 h2 => by omega⟩
    · obtain ⟨t, h1, h2, h3⟩ := ih
      refine ⟨t, by omega, h2, fun s h4 h5 => ?_⟩
      by_cases hs : s = m + 1
      · subst hs; exact h
      · exact h3 s h4 (by omega)
/-- work that is done tick by tick: what is left of n jobs; those of a level, which go ahead of all others -/
structure Level (n : Nat) (L : Nat → Nat → Int) (H : Nat → Prop) (r : Nat → Nat) (c : Nat → Int) : Prop where
  start : ∀ j, j < n → L 0 j = c j
  nonneg : ∀ t j, 0 ≤ L t j
  down : ∀ t j, L (t + 1) j ≤ L t j
  wait : ∀ t j, j < n → t < r j → L (t + 1) j = L t j
  runs : ∀ t, (∃ j, j < n ∧ H j ∧ r j ≤ t ∧ 0 < L t j) → ∃ b, b < n ∧ H b ∧ r b ≤ t ∧ 0 < L t b ∧ L (t + 1) b = L t b - 1 ∧ ∀ j, j < n → j ≠ b → L (t + 1) j = L t j
theorem Level.mono {n : Nat} {L : Nat → Nat → Int} {H : Nat → Prop} {r : Nat → Nat} {c : Nat → Int} (h : Level n L H r c) {t t' : Nat} (ht : t ≤ t') (j : Nat) : L t' j ≤ L t j := by
  induction t' with
  | zero => obtain rfl : t = 0 := by omega
            exact Int.le_refl _
  | succ t' ih =>
    by_cases he : t = t' + 1
    · subst he; exact Int.le_refl _
    · have := ih (by omega); have := h.down t' j; omega
theorem Level.still {n : Nat} {L : Nat → Nat → Int} {H : Nat → Prop} {r : Nat → Nat} {c : Nat → Int} (h : Level n L H r c) {t : Nat} {j : Nat} (hj : j < n) (ht : t ≤ r j) : L t j = c j := by
  induction t with
  | zero => exact h.start j hj
  | succ t ih => rw [h.wait t j hj (by omega)]; exact ih (by omega)
/-- if of a level never more comes in w ticks than can be done in them, then each of it is done w ticks behind its coming -/
theorem Level.done {n : Nat} {L : Nat → Nat → Int} {H : Nat → Prop} [DecidablePred H] {r : Nat → Nat} {c : Nat → Int} (h : Level n L H r c) (w : Nat) (hw : 1 ≤ w)
    (hsum : ∀ t0, sumN (fun j => if H j ∧ t0 ≤ r j ∧ r j < t0 + w then c j else 0) n ≤ w) {k : Nat} (hk : k < n) (hHk : H k) : L (r k + w) k = 0 := by
  obtain ⟨t0, ht0, hid, hlast⟩ := exists_last (p := fun t => ∀ j, j < n → H j → r j < t → L t j = 0) (r k) (fun j _ _ h => by omega)
  by_cases hall : ∀ t, t0 ≤ t → t < t0 + w → ∃ j, j < n ∧ H j ∧ r j ≤ t ∧ 0 < L t j
  · -- the core is never idle for this level
    have hA : ∀ d, d ≤ w → sumN (fun j => if H j ∧ t0 ≤ r j ∧ r j < t0 + w then L (t0 + d) j else 0) n ≤ (w : Int) - d := by
      intro d
      induction d with
      | zero =>
        intro _
        have := hsum t0
        rw [sumN_congr (g := fun j => if H j ∧ t0 ≤ r j ∧ r j < t0 + w then c j else 0) (fun j hj => by
          by_cases hc : H j ∧ t0 ≤ r j ∧ r j < t0 + w
          · rw [if_pos hc, if_pos hc]; exact h.still hj hc.2.1
          · rw [if_neg hc, if_neg hc])]
        omega
      | succ d ih =>
        intro hd
        have ih := ih (by omega)
        obtain ⟨b, hb, hHb, hrb, hLb, hstep, hoth⟩ := h.runs (t0 + d) (hall (t0 + d) (by omega) (by omega))
        have hrb0 : t0 ≤ r b := by
          apply Nat.le_of_not_lt
          intro hlt
          have h1 := hid b hb hHb hlt
          have h2 := h.mono (show t0 ≤ t0 + d by omega) b
          omega
        have := sumN_one (f := fun j => if H j ∧ t0 ≤ r j ∧ r j < t0 + w then L (t0 + (d + 1)) j else 0) (g := fun j => if H j ∧ t0 ≤ r j ∧ r j < t0 + w then L (t0 + d) j else 0) (b := b) (d := -1) hb (by
          rw [if_pos ⟨hHb, hrb0, by omega⟩, if_pos ⟨hHb, hrb0, by omega⟩]
          show L (t0 + d + 1) b = _
          rw [hstep]; omega) (fun j hj hne => by
          by_cases hc : H j ∧ t0 ≤ r j ∧ r j < t0 + w
          · rw [if_pos hc, if_pos hc]; exact hoth j hj hne
          · rw [if_neg hc, if_neg hc])
        rw [this]
        omega
    have hend := hA w (Nat.le_refl _)
    have hzero : ∀ j, j < n → H j → r j < t0 + w → L (t0 + w) j = 0 := by
      intro j hj hHj hrj
      by_cases hr0 : r j < t0
      · have h1 := hid j hj hHj hr0
        have h2 := h.mono (show t0 ≤ t0 + w by omega) j
        have h3 := h.nonneg (t0 + w) j
        omega
      · have h1 := sumN_term (f := fun j => if H j ∧ t0 ≤ r j ∧ r j < t0 + w then L (t0 + w) j else 0) (n := n) (k := j) (fun i _ => by
          by_cases hc : H i ∧ t0 ≤ r i ∧ r i < t0 + w
          · rw [if_pos hc]; exact h.nonneg _ _
          · rw [if_neg hc]; exact Int.le_refl _) hj
        rw [if_pos ⟨hHj, by omega, hrj⟩] at h1
        have h3 := h.nonneg (t0 + w) j
        omega
    by_cases hrk : r k < t0 + w
    · have h1 := hzero k hk hHk hrk
      have h2 := h.mono (show t0 + w ≤ r k + w by omega) k
      have h3 := h.nonneg (r k + w) k
      omega
    · exact absurd hzero (hlast (t0 + w) (by omega) (by omega))
  · have ⟨t, ht⟩ := Classical.not_forall.1 hall
    have ⟨ht1, ht⟩ := Classical.not_imp.1 ht
    have ⟨ht2, hnone⟩ := Classical.not_imp.1 ht
    have hz : ∀ j, j < n → H j → r j ≤ t → L t j = 0 := fun j hj hHj hrj => by
      have h1 := h.nonneg t j
      by_cases h0 : 0 < L t j
      · exact absurd ⟨j, hj, hHj, hrj, h0⟩ hnone
      · omega
    by_cases hrk : r k ≤ t
    · have h1 := hz k hk hHk hrk
      have h2 := h.mono (show t ≤ r k + w by omega) k
      have h3 := h.nonneg (r k + w) k
      omega
    · refine absurd (fun j hj hHj hrj => ?_) (hlast (t + 1) (by omega) (by omega))
      have h1 := hz j hj hHj (by omega)
      have h2 := h.down t j
      have h3 := h.nonneg (t + 1) j
      omega
/-- so much of one task lies in w ticks at most, if it comes T apart, J late at most -/
theorem spaced {n : Nat} {q : Nat → Prop} [DecidablePred q] {r : Nat → Nat} {a c : Nat → Int} {C T J : Int} (hT : 1 ≤ T) (hC : 0 ≤ C) (hc : ∀ j, j < n → q j → c j ≤ C) (hra : ∀ j, j < n → q j → a j ≤ r j ∧ (r j : Int) ≤ a j + J)
    (hsp : ∀ i j, i < j → j < n → q i → q j → a i + T ≤ a j) (t0 w : Nat) (hw : 1 ≤ w) (hJ : 0 ≤ J) :
    sumN (fun j => if q j ∧ t0 ≤ r j ∧ r j < t0 + w then c j else 0) n ≤ ((w + J + T - 1) / T) * C := by
  have key : ∀ m, m ≤ n → (sumN (fun j => if q j ∧ t0 ≤ r j ∧ r j < t0 + w then c j else 0) m ≤ 0 ∧ ∀ j, j < m → ¬ (q j ∧ t0 ≤ r j ∧ r j < t0 + w)) ∨
      ∃ j, j < m ∧ (q j ∧ t0 ≤ r j ∧ r j < t0 + w) ∧ sumN (fun j => if q j ∧ t0 ≤ r j ∧ r j < t0 + w then c j else 0) m ≤ ((a j - (t0 - J)) / T + 1) * C := by
    intro m
    induction m with
    | zero => intro _; exact .inl ⟨Int.le_refl _, fun j h => by omega⟩
    | succ m ih =>
      intro hm
      have ih := ih (by omega)
      simp only [sumN]
      by_cases hc' : q m ∧ t0 ≤ r m ∧ r m < t0 + w
      · right
        refine ⟨m, by omega, hc', ?_⟩
        rw [if_pos hc']
        have hcm := hc m (by omega) hc'.1
        have hrm := hra m (by omega) hc'.1
        rcases ih with ⟨h1, _⟩ | ⟨j, hj, hcj, h1⟩
        · have h0 : 0 ≤ (a m - (t0 - J)) / T := Int.ediv_nonneg (by omega) (by omega)
          have : 1 * C ≤ ((a m - (t0 - J)) / T + 1) * C := Int.mul_le_mul_of_nonneg_right (by omega) hC
          omega
        · have hs := hsp j m hj (by omega) hcj.1 hc'.1
          have h2 : (a j - (t0 - J)) / T + 1 ≤ (a m - (t0 - J)) / T := by
            have : (a j - (t0 - J) + T * 1) / T = (a j - (t0 - J)) / T + 1 := Int.add_mul_ediv_left _ _ (by omega)
            rw [← this]
            exact Int.ediv_le_ediv (by omega) (by omega)
          have h3 : ((a j - (t0 - J)) / T + 1 + 1) * C ≤ ((a m - (t0 - J)) / T + 1) * C := Int.mul_le_mul_of_nonneg_right (by omega) hC
          rw [Int.add_mul ((a j - (t0 - J)) / T + 1)] at h3
          omega
      · rw [if_neg hc']
        rcases ih with ⟨h1, h2⟩ | ⟨j, hj, hcj, h1⟩
        · left
          refine ⟨by omega, fun j hj => ?_⟩
          by_cases hjm : j = m
          · subst hjm; exact hc'
          · exact h2 j (by omega)
        · exact .inr ⟨j, by omega, hcj, by omega⟩
  have e : (w + J + T - 1) / T = (w + J - 1) / T + 1 := by
    have : (w + J - 1 + T * 1) / T = (w + J - 1) / T + 1 := Int.add_mul_ediv_left _ _ (by omega)
    rw [← this]; congr 1; omega
  rw [e]
  rcases key n (Nat.le_refl _) with ⟨h1, _⟩ | ⟨j, hj, hcj, h1⟩
  · have h0 : 0 ≤ ((w : Int) + J - 1) / T := Int.ediv_nonneg (by omega) (by omega)
    have : 0 ≤ ((w + J - 1) / T + 1) * C := Int.mul_nonneg (by omega) hC
    omega
  · have hrj := hra j hj hcj.1
    have : (a j - (t0 - J)) / T ≤ (w + J - 1) / T := Int.ediv_le_ediv (by omega) (by omega)
    have := Int.mul_le_mul_of_nonneg_right (show (a j - (t0 - J)) / T + 1 ≤ (w + J - 1) / T + 1 by omega) hC
    omega

/-- how much a fault undoes of a task at most -/
def undone (c step : Int) : Int := if step = 0 then c else min c step
/-- .. of those of a level, of the first n -/
def lossTill (l : List STask) (P step : Int) : Nat → Int
  | 0 => 0
  | n + 1 => match l[n]? with
    | some o => if o.P ≥ P then max (lossTill l P step n) (undone o.C step) else lossTill l P step n
    | none => lossTill l P step n
theorem undone_bounds {o : STask} (h : Okt o) {step : Int} (hs : 0 ≤ step) : 0 ≤ undone o.C step ∧ undone o.C step ≤ 10000 := by
  have := h.C
  unfold undone; split <;> omega
theorem lossTill_bounds {l : List STask} (h : ∀ o ∈ l, Okt o) {P step : Int} (hs : 0 ≤ step) : ∀ n, 0 ≤ lossTill l P step n ∧ lossTill l P step n ≤ 10000
  | 0 => by simp [lossTill]
  | n + 1 => by
    have ih := lossTill_bounds h (P := P) hs n
    simp only [lossTill]
    split
    · rename_i o ho
      have hu := undone_bounds (h o (List.mem_of_getElem? ho)) hs
      split <;> omega
    · exact ih
/-- a task's demand, faults and all -/
def demF (l : List STask) (i : Nat) (t : STask) (gap step : Int) (w : Int) : Int := t.C + ceilD w gap * lossTill l t.P step l.length + wants (aboveOf l i) w
theorem demF_mono {l : List STask} (h : ∀ o ∈ l, Okt o) {i : Nat} {t : STask} {gap step : Int} (hg : 1 ≤ gap) (hs : 0 ≤ step) {w w' : Int} (hw : w ≤ w') : demF l i t gap step w ≤ demF l i t gap step w' := by
  have h1 := wants_mono (os := aboveOf l i) (fun o ho => h o (aboveTill_mem ho)) hw
  have h2 := (lossTill_bounds h (P := t.P) hs l.length).1
  have h3 := Int.mul_le_mul_of_nonneg_right (ceilD_mono hg hw) h2
  unfold demF; omega
theorem demF_ge {l : List STask} (h : ∀ o ∈ l, Okt o) {i : Nat} {t : STask} {gap step : Int} (hg : 1 ≤ gap) (hs : 0 ≤ step) {w : Int} (hw : 1 ≤ w) : t.C ≤ demF l i t gap step w := by
  have h2 := (lossTill_bounds h (P := t.P) hs l.length).1
  have h3 := Int.mul_nonneg (ceilD_nonneg hg (show 0 ≤ w by omega)) h2
  have h0 := wants_bounds (os := aboveOf l i) (fun o ho => h o (aboveTill_mem ho)) (w := 0) ⟨by omega, by omega⟩
  have h1 := wants_mono (os := aboveOf l i) (fun o ho => h o (aboveTill_mem ho)) (show 0 ≤ w by omega)
  unfold demF; omega
theorem loss_prod {l : List STask} (h : ∀ o ∈ l, Okt o) {P gap step : Int} (hg : 1 ≤ gap) (hs : 0 ≤ step) {w : Int} (hw : 0 ≤ w ∧ w ≤ 10000) : 0 ≤ ceilD w gap * lossTill l P step l.length ∧ ceilD w gap * lossTill l P step l.length ≤ 100000000 := by
  have h2 := lossTill_bounds h (P := P) hs l.length
  have h3 := ceilD_nonneg hg hw.1
  have h4 := ceilD_le hg hw.1
  refine ⟨Int.mul_nonneg h3 h2.1, ?_⟩
  calc ceilD w gap * lossTill l P step l.length ≤ 10000 * lossTill l P step l.length := Int.mul_le_mul_of_nonneg_right (by omega) h2.1
    _ ≤ 10000 * 10000 := Int.mul_le_mul_of_nonneg_left h2.2 (by omega)
    _ = 100000000 := by decide
theorem redoDemand_eq (l : List STask) (h : ∀ o ∈ l, Okt o) (hl : l.length ≤ 8) (i : Nat) (t : STask) (ht : l[i]? = some t) (gap step w : Int) (hg : 1 ≤ gap ∧ gap ≤ 20000) (hs : 0 ≤ step) (hw : 1 ≤ w ∧ w ≤ 10000) (K : Nat) (hK : 9 ≤ K) :
    redo_Response_1.f K w t gap (lossTill l t.P step l.length) l (i : Int) = some (demF l i t gap step w) := by
  have htok := h t (List.mem_of_getElem? ht)
  have hC := htok.C
  have hp := loss_prod h (P := t.P) hg.1 hs (w := w) ⟨by omega, by omega⟩
  have hlb := lossTill_bounds h (P := t.P) hs l.length
  have hcn := ceilD_nonneg hg.1 (show 0 ≤ w by omega)
  have hcl := ceilD_le hg.1 (show 0 ≤ w by omega)
  have hceil : IntKind.i64.wrap (Int.tdiv (IntKind.i64.wrap ((IntKind.i64.wrap (w + gap)) - 1)) gap) = ceilD w gap := by
    rw [wrap64_small (n := w + gap) (by omega) (by omega), wrap64_small (n := w + gap - 1) (by omega) (by omega), Int.tdiv_eq_ediv_of_nonneg (by omega)]
    show IntKind.i64.wrap (ceilD w gap) = _
    rw [wrap64_small (by omega) (by omega)]
  unfold redo_Response_1.f
  rw [if_neg (by omega), hceil, wrap64_small (n := ceilD w gap * lossTill l t.P step l.length) (by omega) (by omega), wrap64_small (by omega) (by omega)]
  have hr := iter_states (ρ := Int) (f := redo_Response_1.r0 w t l (i : Int)) (fun k => (t.C + ceilD w gap * lossTill l t.P step l.length + wants (aboveTill l i k) w, k)) (fun _ => none) l.length (t := demF l i t gap step w) (fun k hk _ => by
    have hk' : (k : Int) < (l.length : Int) := by omega
    have hkx : l[k]? = some l[k] := List.getElem?_eq_getElem hk
    have hok := h l[k] (List.getElem_mem hk)
    have hwb := want_bounds hok (w := w) ⟨by omega, by omega⟩
    have hsb := wants_bounds (os := aboveTill l i k) (fun o ho => h o (aboveTill_mem ho)) (w := w) ⟨by omega, by omega⟩
    have hlen := aboveTill_len l i k
    rw [aboveTill_succ hkx ht, wants_append]
    simp only [redo_Response_1.r0, if_pos hk', hkx, onwardS]
    by_cases h1 : (k : Int) = (i : Int)
    · rw [if_pos h1, if_neg (by omega), wants_nil, Int.add_zero]
    · rw [if_neg h1]
      by_cases h2 : l[k].P ≥ t.P
      · have hT := hok.T; have hJ := hok.J
        have hcn := ceilD_nonneg hT.1 (show 0 ≤ w + l[k].J by omega)
        have hcl := ceilD_le hT.1 (show 0 ≤ w + l[k].J by omega)
        have hceil : IntKind.i64.wrap (Int.tdiv (IntKind.i64.wrap ((IntKind.i64.wrap ((IntKind.i64.wrap (w + l[k].J)) + l[k].T)) - 1)) l[k].T) = ceilD (w + l[k].J) l[k].T := by
          rw [wrap64_small (n := w + l[k].J) (by omega) (by omega), wrap64_small (n := w + l[k].J + l[k].T) (by omega) (by omega), wrap64_small (n := w + l[k].J + l[k].T - 1) (by omega) (by omega), Int.tdiv_eq_ediv_of_nonneg (by omega)]
          show IntKind.i64.wrap (ceilD (w + l[k].J) l[k].T) = _
          rw [wrap64_small (by omega) (by omega)]
        rw [if_pos h2, if_neg (by omega), hceil, wrap64_small (n := ceilD (w + l[k].J) l[k].T * l[k].C) (by omega) (by omega), wrap64_small (by omega) (by omega), if_pos ⟨by omega, h2⟩, wants_cons, wants_nil]
        congr 3
        omega
      · rw [if_neg h2, if_neg (fun h => h2 h.2), wants_nil, Int.add_zero]) (fun _ => by simp [redo_Response_1.r0, demF]) (K := K) (by omega)
  have h0 : t.C + ceilD w gap * lossTill l t.P step l.length + wants (aboveTill l i 0) w = t.C + ceilD w gap * lossTill l t.P step l.length := by
    show _ + wants [] w = _
    rw [wants_nil, Int.add_zero]
  rw [h0, firstOf_none_of (fun _ _ _ => rfl)] at hr
  rw [hr]; rfl
/-- how long a task takes where faults lie so far apart -/
noncomputable def anewOf (l : List STask) (i gap step : Int) : Int × SFault :=
  if (respOf l i 0).2.Code = 0 then
    (if gap < 1 ∨ gap > 20000 ∨ step < 0 ∨ step > 10000 then (0, ⟨3, 0⟩)
    else match l[i.toNat]? with
      | none => (0, ⟨3, 0⟩)
      | some t => if settled (demF l i.toNat t gap step) (t.D - t.J) = 0 then (0, ⟨13, i⟩) else (settled (demF l i.toNat t gap step) (t.D - t.J) + t.J, ⟨0, 0⟩))
  else (0, (respOf l i 0).2)
theorem respOf_range {l : List STask} {i b : Int} (h : (respOf l i b).2.Code = 0) : (fixedFault l).Code = 0 ∧ 0 ≤ i ∧ i < (l.length : Int) := by
  unfold respOf at h
  split at h
  · rename_i hc
    split at h
    · cases h
    · exact ⟨hc, by omega, by omega⟩
  · contradiction
theorem redoResponse_eq (l : List STask) (i gap step : Int) (K : Nat) (hK : 20100 ≤ K) : redo_Response.f K l i gap step = some (anewOf l i gap step) := by
  unfold redo_Response.f anewOf
  rw [Response_eq l i 0 K hK]
  simp only
  by_cases hr : (respOf l i 0).2.Code = 0
  · rw [if_pos hr, if_pos hr]
    obtain ⟨hc, hi0, hi1⟩ := respOf_range hr
    have hset := (fixedFault_ok hc).1
    have hok := okt_of hset
    have hl8 := (setFault_ok hset).2.1
    by_cases hb : gap < 1 ∨ gap > 20000 ∨ step < 0 ∨ step > 10000
    · have hp : redo_Response.p0 gap step = some (.inr (0, ⟨3, 0⟩)) := by
        unfold redo_Response.p0
        repeat' split
        all_goals first | rfl | omega
      rw [hp, if_pos hb]
    · have hp : redo_Response.p0 gap step = some (.inl ()) := by
        unfold redo_Response.p0
        rw [if_neg (by omega), if_neg (by omega), if_neg (by omega), if_neg (by omega)]
      rw [hp, if_neg hb]
      simp only
      obtain ⟨n, rfl⟩ := Int.eq_ofNat_of_zero_le hi0
      have hn : n < l.length := by omega
      have ht : l[n]? = some l[n] := List.getElem?_eq_getElem hn
      have htok := hok l[n] (List.getElem_mem hn)
      generalize l[n] = t at ht htok
      rw [if_pos hi0]
      simp only [Int.toNat_natCast, ht]
      have hloss := iter_states (ρ := Int × SFault) (f := redo_Response.r1 l step t) (fun k => (k, lossTill l t.P step k)) (fun _ => none) l.length (t := lossTill l t.P step l.length) (fun k hk _ => by
        have hk' : (k : Int) < (l.length : Int) := by omega
        have hu : redo_undone.f l[k].C step = undone l[k].C step := by unfold redo_undone.f undone; rw [gmin_eq]
        simp only [redo_Response.r1, if_pos hk', List.getElem?_eq_getElem hk, onwardS, lossTill, hu, gmax_eq]
        split <;> rfl) (fun _ => by simp [redo_Response.r1]) (K := K) (by omega)
      have h0 : lossTill l t.P step 0 = 0 := rfl
      rw [h0, firstOf_none_of (fun _ _ _ => rfl)] at hloss
      rw [hloss]
      simp only [leave]
      have hC := htok.C; have hD := htok.D; have hJ := htok.J
      rw [wrap64_small (n := t.D - t.J) (by omega) (by omega)]
      have hsettle : fixed_Settle_1.f K t.C (t.D - t.J) t gap (lossTill l t.P step l.length) l (n : Int) = some (settled (demF l n t gap step) (t.D - t.J)) := by
        unfold fixed_Settle_1.f
        have hit := settle_iter (d := fun z => redo_Response_1.f K z t gap (lossTill l t.P step l.length) l (n : Int)) (f := demF l n t gap step) (most := t.D - t.J) (first := t.C) hC.1 (fun z h1 h2 => redoDemand_eq l hok hl8 n t ht gap step z ⟨by omega, by omega⟩ (by omega) ⟨by omega, by omega⟩ K (by omega))
          (fun z h1 => demF_ge hok (by omega) (by omega) h1) (fun z z' _ h2 => demF_mono hok (by omega) (by omega) h2) (K := K) (by omega) (by omega)
        have e : fixed_Settle_1.r0 K (t.D - t.J) t gap (lossTill l t.P step l.length) l (n : Int) = settleStep (fun z => redo_Response_1.f K z t gap (lossTill l t.P step l.length) l (n : Int)) (t.D - t.J) := rfl
        rw [e, hit]
        by_cases hz : settled (demF l n t gap step) (t.D - t.J) = 0
        · rw [if_pos hz, hz]
        · rw [if_neg hz]
      rw [hsettle]
      simp only
      by_cases hz : settled (demF l n t gap step) (t.D - t.J) = 0
      · rw [if_pos hz, if_pos hz]
      · rw [if_neg hz, if_neg hz]
        have := settled_pos hz
        rw [wrap64_small (by omega) (by omega)]
  · rw [if_neg hr, if_neg hr]
/-- work that is done tick by tick, of which some ticks cost more: what is left of n jobs; those of a level go ahead of all others -/
structure LevelC (n : Nat) (L : Nat → Nat → Int) (H : Nat → Prop) (r : Nat → Nat) (c : Nat → Int) (e : Nat → Int) : Prop where
  start : ∀ j, j < n → L 0 j = c j
  nonneg : ∀ t j, j < n → 0 ≤ L t j
  done0 : ∀ t j, j < n → L t j = 0 → L (t + 1) j = 0
  wait : ∀ t j, j < n → t < r j → L (t + 1) j = L t j
  runs : ∀ t, (∃ j, j < n ∧ H j ∧ r j ≤ t ∧ 0 < L t j) → ∃ b, b < n ∧ H b ∧ r b ≤ t ∧ 0 < L t b ∧ L (t + 1) b ≤ L t b - 1 + e t ∧ ∀ j, j < n → j ≠ b → L (t + 1) j = L t j
theorem LevelC.stays {n : Nat} {L : Nat → Nat → Int} {H : Nat → Prop} {r : Nat → Nat} {c e : Nat → Int} (h : LevelC n L H r c e) {t t' : Nat} (ht : t ≤ t') {j : Nat} (hj : j < n) (h0 : L t j = 0) : L t' j = 0 := by
  induction t' with
  | zero => obtain rfl : t = 0 := by omega
            exact h0
  | succ t' ih =>
    by_cases he : t = t' + 1
    · subst he; exact h0
    · exact h.done0 t' j hj (ih (by omega))
theorem LevelC.still {n : Nat} {L : Nat → Nat → Int} {H : Nat → Prop} {r : Nat → Nat} {c e : Nat → Int} (h : LevelC n L H r c e) {t : Nat} {j : Nat} (hj : j < n) (ht : t ≤ r j) : L t j = c j := by
  induction t with
  | zero => exact h.start j hj
  | succ t ih => rw [h.wait t j hj (by omega)]; exact ih (by omega)
/-- if of a level never more comes in w ticks, with what its ticks cost more, than can be done in them, then each of it is done w ticks behind its coming -/
theorem LevelC.done {n : Nat} {L : Nat → Nat → Int} {H : Nat → Prop} [DecidablePred H] {r : Nat → Nat} {c e : Nat → Int} (h : LevelC n L H r c e) (w : Nat) (hw : 1 ≤ w)
    (hsum : ∀ t0, sumN (fun j => if H j ∧ t0 ≤ r j ∧ r j < t0 + w then c j else 0) n + sumN (fun s => e (t0 + s)) w ≤ w) {k : Nat} (hk : k < n) (hHk : H k) : L (r k + w) k = 0 := by
  obtain ⟨t0, ht0, hid, hlast⟩ := exists_last (p := fun t => ∀ j, j < n → H j → r j < t → L t j = 0) (r k) (fun j _ _ h => by omega)
  by_cases hall : ∀ t, t0 ≤ t → t < t0 + w → ∃ j, j < n ∧ H j ∧ r j ≤ t ∧ 0 < L t j
  · have hA : ∀ d, d ≤ w → sumN (fun j => if H j ∧ t0 ≤ r j ∧ r j < t0 + w then L (t0 + d) j else 0) n ≤ sumN (fun j => if H j ∧ t0 ≤ r j ∧ r j < t0 + w then c j else 0) n + sumN (fun s => e (t0 + s)) d - d := by
      intro d
      induction d with
      | zero =>
        intro _
        rw [sumN_congr (g := fun j => if H j ∧ t0 ≤ r j ∧ r j < t0 + w then c j else 0) (fun j hj => by
          by_cases hc : H j ∧ t0 ≤ r j ∧ r j < t0 + w
          · rw [if_pos hc, if_pos hc]; exact h.still hj hc.2.1
          · rw [if_neg hc, if_neg hc])]
        simp only [sumN]
        omega
      | succ d ih =>
        intro hd
        have ih := ih (by omega)
        obtain ⟨b, hb, hHb, hrb, hLb, hstep, hoth⟩ := h.runs (t0 + d) (hall (t0 + d) (by omega) (by omega))
        have hrb0 : t0 ≤ r b := by
          apply Nat.le_of_not_lt
          intro hlt
          have h1 := hid b hb hHb hlt
          have h2 := h.stays (show t0 ≤ t0 + d by omega) hb h1
          omega
        have := sumN_one (f := fun j => if H j ∧ t0 ≤ r j ∧ r j < t0 + w then L (t0 + (d + 1)) j else 0) (g := fun j => if H j ∧ t0 ≤ r j ∧ r j < t0 + w then L (t0 + d) j else 0) (b := b) (d := L (t0 + d + 1) b - L (t0 + d) b) hb (by
          rw [if_pos ⟨hHb, hrb0, by omega⟩, if_pos ⟨hHb, hrb0, by omega⟩]
          show L (t0 + d + 1) b = _
          omega) (fun j hj hne => by
          by_cases hc : H j ∧ t0 ≤ r j ∧ r j < t0 + w
          · rw [if_pos hc, if_pos hc]; exact hoth j hj hne
          · rw [if_neg hc, if_neg hc])
        rw [this]
        simp only [sumN]
        omega
    have hend := hA w (Nat.le_refl _)
    have hs0 := hsum t0
    have hzero : ∀ j, j < n → H j → r j < t0 + w → L (t0 + w) j = 0 := by
      intro j hj hHj hrj
      by_cases hr0 : r j < t0
      · exact h.stays (show t0 ≤ t0 + w by omega) hj (hid j hj hHj hr0)
      · have h1 := sumN_term (f := fun j => if H j ∧ t0 ≤ r j ∧ r j < t0 + w then L (t0 + w) j else 0) (n := n) (k := j) (fun i hi => by
          by_cases hc : H i ∧ t0 ≤ r i ∧ r i < t0 + w
          · rw [if_pos hc]; exact h.nonneg _ _ hi
          · rw [if_neg hc]; exact Int.le_refl _) hj
        rw [if_pos ⟨hHj, by omega, hrj⟩] at h1
        have h3 := h.nonneg (t0 + w) j hj
        omega
    by_cases hrk : r k < t0 + w
    · exact h.stays (show t0 + w ≤ r k + w by omega) hk (hzero k hk hHk hrk)
    · exact absurd hzero (hlast (t0 + w) (by omega) (by omega))
  · have ⟨t, ht⟩ := Classical.not_forall.1 hall
    have ⟨ht1, ht⟩ := Classical.not_imp.1 ht
    have ⟨ht2, hnone⟩ := Classical.not_imp.1 ht
    have hz : ∀ j, j < n → H j → r j ≤ t → L t j = 0 := fun j hj hHj hrj => by
      have h1 := h.nonneg t j hj
      by_cases h0 : 0 < L t j
      · exact absurd ⟨j, hj, hHj, hrj, h0⟩ hnone
      · omega
    by_cases hrk : r k ≤ t
    · exact h.stays (show t ≤ r k + w by omega) hk (hz k hk hHk hrk)
    · exact absurd (fun j hj hHj hrj => h.done0 t j hj (hz j hj hHj (by omega))) (hlast (t + 1) (by omega) (by omega))
/-- ends say when what was left was none -/
structure Ticks (n : Nat) (L E : Nat → Nat → Int) : Prop where
  pos : ∀ j, j < n → 0 < L 0 j
  none : ∀ j, j < n → E 0 j = -1
  nonneg : ∀ t j, j < n → 0 ≤ L t j
  step : ∀ t j, j < n → (L (t + 1) j = L t j ∧ E (t + 1) j = E t j) ∨ (0 < L t j ∧ E (t + 1) j = if L (t + 1) j = 0 then (t : Int) + 1 else E t j)
theorem Ticks.spec {n : Nat} {L E : Nat → Nat → Int} (h : Ticks n L E) {j : Nat} (hj : j < n) : ∀ t, (0 < L t j → E t j = -1) ∧ (L t j = 0 → ∃ s : Nat, 1 ≤ s ∧ s ≤ t ∧ E t j = (s : Int) ∧ L s j = 0 ∧ 0 < L (s - 1) j)
  | 0 => ⟨fun _ => h.none j hj, fun h0 => by have := h.pos j hj; omega⟩
  | t + 1 => by
    obtain ⟨ih1, ih2⟩ := h.spec hj t
    rcases h.step t j hj with ⟨h1, h2⟩ | ⟨h1, h2⟩
    · rw [h1, h2]
      refine ⟨ih1, fun h0 => ?_⟩
      obtain ⟨s, a, b, c⟩ := ih2 h0
      exact ⟨s, a, by omega, c⟩
    · by_cases h0 : L (t + 1) j = 0
      · rw [if_pos h0] at h2
        exact ⟨fun h' => by omega, fun _ => ⟨t + 1, by omega, Nat.le_refl _, by rw [h2]; rfl, h0, h1⟩⟩
      · rw [if_neg h0] at h2
        exact ⟨fun _ => by rw [h2]; exact ih1 h1, fun h' => absurd h' h0⟩
theorem Ticks.stays {n : Nat} {L E : Nat → Nat → Int} (h : Ticks n L E) {t t' : Nat} (ht : t ≤ t') {j : Nat} (hj : j < n) (h0 : L t j = 0) : L t' j = 0 := by
  induction t' with
  | zero => obtain rfl : t = 0 := by omega
            exact h0
  | succ t' ih =>
    by_cases he : t = t' + 1
    · subst he; exact h0
    · have := ih (by omega)
      rcases h.step t' j hj with ⟨h1, _⟩ | ⟨h1, _⟩ <;> omega
theorem Ticks.done {n : Nat} {L E : Nat → Nat → Int} (h : Ticks n L E) {j : Nat} (hj : j < n) {s t : Nat} (hs : L s j = 0) (ht : s ≤ t) : 1 ≤ E t j ∧ E t j ≤ s := by
  obtain ⟨u, h1, h2, h3, h4, h5⟩ := (h.spec hj t).2 (h.stays ht hj hs)
  rw [h3]
  refine ⟨by omega, ?_⟩
  have : u ≤ s := by
    apply Nat.le_of_not_lt
    intro hlt
    have := h.stays (show s ≤ u - 1 by omega) hj hs
    omega
  omega
theorem sumN_times (p : Nat → Prop) [DecidablePred p] (C : Int) : ∀ n, sumN (fun j => if p j then C else 0) n = sumN (fun j => if p j then 1 else 0) n * C
  | 0 => by simp [sumN]
  | n + 1 => by
    simp only [sumN]
    rw [sumN_times p C n, Int.add_mul]
    congr 1
    split <;> simp
/-- so many of what lies gap apart lie in w ticks at most -/
theorem spacedTicks {p : Nat → Prop} [DecidablePred p] {gap : Int} (hg : 1 ≤ gap) (hp : ∀ s t, s < t → p s → p t → gap ≤ (t : Int) - s) (t0 : Nat) : ∀ w : Nat, sumN (fun s => if p (t0 + s) then 1 else 0) w = 0 ∨ ∃ s, s < w ∧ p (t0 + s) ∧ (sumN (fun s => if p (t0 + s) then 1 else 0) w - 1) * gap ≤ s
  | 0 => .inl rfl
  | w + 1 => by
    simp only [sumN]
    by_cases hc : p (t0 + w)
    · right
      refine ⟨w, by omega, hc, ?_⟩
      rw [if_pos hc, Int.add_sub_cancel]
      rcases spacedTicks hg hp t0 w with h0 | ⟨s, h1, h2, h3⟩
      · rw [h0]; omega
      · have := hp (t0 + s) (t0 + w) (by omega) h2 hc
        rw [Int.sub_mul, Int.one_mul] at h3
        omega
    · rw [if_neg hc, Int.add_zero]
      rcases spacedTicks hg hp t0 w with h0 | ⟨s, h1, h2, h3⟩
      · exact .inl h0
      · exact .inr ⟨s, by omega, h2, h3⟩
theorem spacedTicks_le {p : Nat → Prop} [DecidablePred p] {gap : Int} (hg : 1 ≤ gap) (hp : ∀ s t, s < t → p s → p t → gap ≤ (t : Int) - s) (t0 w : Nat) : sumN (fun s => if p (t0 + s) then 1 else 0) w ≤ ceilD w gap := by
  rcases spacedTicks hg hp t0 w with h0 | ⟨s, h1, h2, h3⟩
  · rw [h0]; exact ceilD_nonneg hg (by omega)
  · unfold ceilD
    rw [Int.le_ediv_iff_mul_le (by omega)]
    rw [Int.sub_mul, Int.one_mul] at h3
    omega
theorem firstR (jobs : List SJob) (left : List Int) (t : Int) (hl : left.length = jobs.length) : (firstTo 1 jobs left t jobs.length = -1 ∧ ∀ j e, jobs[j]? = some e → ¬ (e.At ≤ t ∧ 0 < left.getD j 0)) ∨
    ∃ (b : Nat) (y : SJob), firstTo 1 jobs left t jobs.length = (b : Int) ∧ jobs[b]? = some y ∧ y.At ≤ t ∧ 0 < left.getD b 0 ∧ ∀ j x, jobs[j]? = some x → x.At ≤ t → 0 < left.getD j 0 → ¬ aheadJ 1 x y := by
  have hcan : ∀ j e, jobs[j]? = some e → (canJ jobs left t j ↔ e.At ≤ t ∧ 0 < left.getD j 0) := fun j e he => by
    unfold canJ
    rw [he, get_of_lt (by rw [hl]; exact lt_of_get he)]
  rcases firstTo_cases 1 jobs left t jobs.length (Nat.le_refl _) with ⟨h1, h2⟩ | ⟨b, y, h1, h2, h3, h4, h5⟩
  · exact .inl ⟨h1, fun j e he hc => h2 j (lt_of_get he) ((hcan j e he).2 hc)⟩
  · obtain ⟨g1, g2⟩ := (hcan b y h3).1 h4
    exact .inr ⟨b, y, h1, h3, g1, g2, fun j x hx ha hl => (h5 j x (lt_of_get hx) hx ((hcan j x hx).2 ⟨ha, hl⟩)).1⟩

theorem can_eqR (jobs : List SJob) (left : List Int) (t : Int) (i : Nat) (hi : i < jobs.length) (hl : left.length = jobs.length) : redo_Play_1.f (i : Int) jobs t left = some (decide (canJ jobs left t i)) := by
  have h1 : jobs[i]? = some jobs[i] := List.getElem?_eq_getElem hi
  have h2 : left[i]? = some (left[i]'(by omega)) := List.getElem?_eq_getElem (by omega)
  simp only [redo_Play_1.f, Int.toNat_natCast, h1, h2, canJ]
  rw [if_pos (by omega)]
  by_cases h : jobs[i].At ≤ t
  · simp [h]
  · simp [h]
theorem First_eqR (p : Int) (hp : p = 1 ∨ p = 2) (jobs : List SJob) (left : List Int) (t : Int) (hl : left.length = jobs.length) (K : Nat) (hK : jobs.length + 5 ≤ K) : sched_First.f K jobs jobs t left p = some (firstTo p jobs left t jobs.length) := by
  unfold sched_First.f
  have hr := iter_states (ρ := Int) (f := sched_First.r0 K jobs jobs t left p) (fun i => (firstTo p jobs left t i, i)) (fun _ => none) jobs.length (t := firstTo p jobs left t jobs.length) (fun i hi _ => by
    have hi' : (i : Int) < (jobs.length : Int) := by omega
    have h1 : jobs[i]? = some jobs[i] := List.getElem?_eq_getElem hi
    simp only [sched_First.r0, if_pos hi', h1, can_eqR jobs left t i hi hl, decide_eq_true_eq, onwardS]
    by_cases hc : canJ jobs left t i
    · rw [if_pos hc]
      rcases firstTo_cases p jobs left t i (by omega) with ⟨g1, _⟩ | ⟨b, y, g1, g2, g3, _, _⟩
      · rw [g1, if_pos (by omega)]
        simp only [firstTo, if_pos hc, g1]
        rfl
      · rw [g1, if_neg (by omega), if_pos (by omega)]
        simp only [Int.toNat_natCast, g3]
        have e1 : firstTo p jobs left t (i + 1) = if aheadJ p jobs[i] y then (i : Int) else (b : Int) := by
          simp only [firstTo, if_pos hc, g1, Int.toNat_natCast, h1, g3]
          rw [if_neg (by omega)]
        rw [e1]
        rcases hp with rfl | rfl
        · simp [sched_rule.f, or2_eq _ _ K (show 3 ≤ K by omega), sched_byPriority.f, compare_eq, aheadJ]
          repeat' split
          all_goals first | rfl | (exfalso; omega) | simp_all
        · simp [sched_rule.f, or2_eq _ _ K (show 3 ≤ K by omega), sched_byDue.f, compare_eq, aheadJ]
          repeat' split
          all_goals first | rfl | (exfalso; omega) | simp_all
    · rw [if_neg hc]
      simp only [firstTo, if_neg hc]) (fun _ => by simp [sched_First.r0]) (K := K) (by omega)
  have h0 : firstTo p jobs left t 0 = -1 := rfl
  rw [h0, firstOf_none_of (fun _ _ _ => rfl)] at hr
  rw [hr]; rfl

theorem mget_mset {κ ν : Type} [DecidableEq κ] (k k' : κ) (v : ν) : ∀ m : List (κ × ν), mget (mset m k v) k' = if k' = k then some v else mget m k'
  | [] => by simp only [mset, mget]
  | (a, b) :: r => by
    simp only [mset]
    by_cases hk : k = a
    · subst hk
      rw [if_pos rfl]
      simp only [mget]
      by_cases h' : k' = k
      · rw [if_pos h', if_pos h']
      · rw [if_neg h', if_neg h', if_neg h']
    · rw [if_neg hk]
      simp only [mget]
      by_cases h' : k' = a
      · subst h'
        rw [if_pos rfl, if_neg (fun h => hk h.symm), if_pos rfl]
      · rw [if_neg h', if_neg h', mget_mset k k' v r]
/-- the ticks that the first n faults hit -/
def hitsTill (l : List Int) : Nat → List (Int × Int)
  | 0 => []
  | n + 1 => match l[n]? with
    | some t => mset (hitsTill l n) t 1
    | none => hitsTill l n
theorem hits_iff (l : List Int) (t : Int) : ∀ n, (((mget (hitsTill l n) t).getD 0) = 1 ↔ ∃ k, k < n ∧ l[k]? = some t)
  | 0 => by simp [hitsTill, mget]
  | n + 1 => by
    have ih := hits_iff l t n
    simp only [hitsTill]
    cases hn : l[n]? with
    | none =>
      simp only
      rw [ih]
      constructor
      · rintro ⟨k, h1, h2⟩; exact ⟨k, by omega, h2⟩
      · rintro ⟨k, h1, h2⟩
        by_cases hk : k = n
        · subst hk; rw [hn] at h2; cases h2
        · exact ⟨k, by omega, h2⟩
    | some x =>
      simp only [mget_mset]
      by_cases hx : t = x
      · subst hx
        simp only [if_true, Option.getD_some, true_iff]
        exact ⟨n, by omega, hn⟩
      · rw [if_neg hx, ih]
        constructor
        · rintro ⟨k, h1, h2⟩; exact ⟨k, by omega, h2⟩
        · rintro ⟨k, h1, h2⟩
          by_cases hk : k = n
          · subst hk; rw [hn] at h2; cases h2; exact absurd rfl hx
          · exact ⟨k, by omega, h2⟩
/-- one tick, where faults may hit -/
def tickR (jobs : List SJob) (step : Int) (hit : List (Int × Int)) (t : Int) (s : List Int × List Int × List Int) : List Int × List Int × List Int :=
  let b := firstTo 1 jobs s.2.1 t jobs.length
  if b < 0 then s
  else if ((mget hit t).getD 0) = 1 then (s.1.set b.toNat 0, s.2.1.set b.toNat (s.2.1.getD b.toNat 0 + s.1.getD b.toNat 0), s.2.2)
  else
    (if s.1.getD b.toNat 0 + 1 = step then (s.1.set b.toNat (s.1.getD b.toNat 0 + 1)).set b.toNat 0 else s.1.set b.toNat (s.1.getD b.toNat 0 + 1),
      s.2.1.set b.toNat (s.2.1.getD b.toNat 0 - 1), if s.2.1.getD b.toNat 0 - 1 = 0 then s.2.2.set b.toNat (t + 1) else s.2.2)
/-- how it stands behind so many ticks: what may be undone, what is left, the ends -/
def simR (jobs : List SJob) (step : Int) (hit : List (Int × Int)) : Nat → List Int × List Int × List Int
  | 0 => (List.replicate jobs.length 0, jobs.map (·.C), List.replicate jobs.length (-1))
  | t + 1 => tickR jobs step hit (t : Int) (simR jobs step hit t)
def leftR (jobs : List SJob) (step : Int) (hit : List (Int × Int)) (t j : Nat) : Int := (simR jobs step hit t).2.1.getD j 0
def sinceR (jobs : List SJob) (step : Int) (hit : List (Int × Int)) (t j : Nat) : Int := (simR jobs step hit t).1.getD j 0
def endR (jobs : List SJob) (step : Int) (hit : List (Int × Int)) (t j : Nat) : Int := (simR jobs step hit t).2.2.getD j 0
structure SimROk (jobs : List SJob) (step : Int) (s : List Int × List Int × List Int) : Prop where
  since : s.1.length = jobs.length
  left : s.2.1.length = jobs.length
  ends : s.2.2.length = jobs.length
  each : ∀ j e, jobs[j]? = some e → 0 ≤ s.1.getD j 0 ∧ 0 ≤ s.2.1.getD j 0 ∧ s.1.getD j 0 + s.2.1.getD j 0 ≤ e.C ∧ (1 ≤ step → s.1.getD j 0 < step)
theorem tickR_ok {jobs : List SJob} {step : Int} (hs : 0 ≤ step) {hit : List (Int × Int)} {t : Int} {s : List Int × List Int × List Int} (h : SimROk jobs step s) : SimROk jobs step (tickR jobs step hit t s) := by
  unfold tickR
  rcases firstR jobs s.2.1 t h.left with ⟨h1, _⟩ | ⟨b, y, h1, h2, h3, h4, _⟩
  · simp only [h1]
    rw [if_pos (by omega)]
    exact h
  · simp only [h1, Int.toNat_natCast]
    rw [if_neg (by omega)]
    have hb := lt_of_get h2
    have hbs : b < s.1.length := by rw [h.since]; exact hb
    have hbl : b < s.2.1.length := by rw [h.left]; exact hb
    obtain ⟨g1, g2, g3, g4⟩ := h.each b y h2
    by_cases hh : ((mget hit t).getD 0) = 1
    · rw [if_pos hh]
      refine ⟨by simp [h.since], by simp [h.left], h.ends, fun j e he => ?_⟩
      simp only
      rw [getD_set _ _ _ _ hbs, getD_set _ _ _ _ hbl]
      by_cases hj : b = j
      · subst hj
        rw [h2] at he
        cases he
        rw [if_pos rfl, if_pos rfl]
        omega
      · rw [if_neg hj, if_neg hj]
        exact h.each j e he
    · rw [if_neg hh]
      refine ⟨by simp only; split <;> simp [h.since], by simp [h.left], by simp only; split <;> simp [h.ends], fun j e he => ?_⟩
      simp only
      rw [getD_set _ _ _ _ hbl]
      by_cases hj : b = j
      · subst hj
        rw [h2] at he
        cases he
        rw [if_pos rfl]
        by_cases hst : s.1.getD b 0 + 1 = step
        · rw [if_pos hst, getD_set _ _ _ _ (by simp [h.since]; exact hb), if_pos rfl]
          omega
        · rw [if_neg hst, getD_set _ _ _ _ hbs, if_pos rfl]
          omega
      · rw [if_neg hj]
        have := h.each j e he
        by_cases hst : s.1.getD b 0 + 1 = step
        · rw [if_pos hst, getD_set _ _ _ _ (by simp [h.since]; exact hb), if_neg hj, getD_set _ _ _ _ hbs, if_neg hj]
          exact this
        · rw [if_neg hst, getD_set _ _ _ _ hbs, if_neg hj]
          exact this
theorem simR_ok {jobs : List SJob} (hj : ∀ e ∈ jobs, Okj e) {step : Int} (hs : 0 ≤ step) (hit : List (Int × Int)) : ∀ t, SimROk jobs step (simR jobs step hit t)
  | 0 => by
    refine ⟨by simp [simR], by simp [simR], by simp [simR], fun j e he => ?_⟩
    have hlt := lt_of_get he
    have hC := (hj e (List.mem_of_getElem? he)).C
    have e1 : (List.replicate jobs.length (0 : Int)).getD j 0 = 0 := by simp [List.getD, hlt]
    have e2 : (jobs.map (·.C)).getD j 0 = e.C := by simp [List.getD, he]
    simp only [simR]
    rw [e1, e2]
    omega
  | t + 1 => tickR_ok hs (simR_ok hj hs hit t)
/-- one tick, told of what is left -/
theorem leftR_step {jobs : List SJob} (hj : ∀ e ∈ jobs, Okj e) {step : Int} (hs : 0 ≤ step) (hit : List (Int × Int)) (t : Nat) :
    ((∀ j e, jobs[j]? = some e → ¬ (e.At ≤ (t : Int) ∧ 0 < leftR jobs step hit t j)) ∧ ∀ j, leftR jobs step hit (t + 1) j = leftR jobs step hit t j ∧ endR jobs step hit (t + 1) j = endR jobs step hit t j) ∨
    ∃ (b : Nat) (y : SJob), jobs[b]? = some y ∧ y.At ≤ (t : Int) ∧ 0 < leftR jobs step hit t b ∧ (∀ j x, jobs[j]? = some x → x.At ≤ (t : Int) → 0 < leftR jobs step hit t j → ¬ aheadJ 1 x y) ∧
      leftR jobs step hit (t + 1) b = (if ((mget hit (t : Int)).getD 0) = 1 then leftR jobs step hit t b + sinceR jobs step hit t b else leftR jobs step hit t b - 1) ∧
      endR jobs step hit (t + 1) b = (if ((mget hit (t : Int)).getD 0) = 1 then endR jobs step hit t b else if leftR jobs step hit t b - 1 = 0 then (t : Int) + 1 else endR jobs step hit t b) ∧
      ∀ j, j ≠ b → leftR jobs step hit (t + 1) j = leftR jobs step hit t j ∧ endR jobs step hit (t + 1) j = endR jobs step hit t j := by
  have hok := simR_ok hj hs hit t
  have hst : simR jobs step hit (t + 1) = tickR jobs step hit (t : Int) (simR jobs step hit t) := rfl
  rcases firstR jobs (simR jobs step hit t).2.1 (t : Int) hok.left with ⟨h1, h2⟩ | ⟨b, y, h1, h2, h3, h4, h5⟩
  · left
    have ht : tickR jobs step hit (t : Int) (simR jobs step hit t) = simR jobs step hit t := by
      unfold tickR; simp only [h1]; rw [if_pos (by omega)]
    refine ⟨h2, fun j => ?_⟩
    unfold leftR endR
    rw [hst, ht]
    exact ⟨rfl, rfl⟩
  · right
    have hb := lt_of_get h2
    have hbl : b < (simR jobs step hit t).2.1.length := by rw [hok.left]; exact hb
    have hbe : b < (simR jobs step hit t).2.2.length := by rw [hok.ends]; exact hb
    refine ⟨b, y, h2, h3, h4, h5, ?_, ?_, fun j hne => ⟨?_, ?_⟩⟩
    · unfold leftR sinceR
      rw [hst]
      unfold tickR
      simp only [h1, Int.toNat_natCast]
      rw [if_neg (by omega)]
      by_cases hh : ((mget hit (t : Int)).getD 0) = 1
      · rw [if_pos hh, if_pos hh]
        simp only
        rw [getD_set _ _ _ _ hbl, if_pos rfl]
      · rw [if_neg hh, if_neg hh]
        simp only
        rw [getD_set _ _ _ _ hbl, if_pos rfl]
    · unfold leftR endR
      rw [hst]
      unfold tickR
      simp only [h1, Int.toNat_natCast]
      rw [if_neg (by omega)]
      by_cases hh : ((mget hit (t : Int)).getD 0) = 1
      · rw [if_pos hh, if_pos hh]
      · rw [if_neg hh, if_neg hh]
        simp only
        by_cases h0 : (simR jobs step hit t).2.1.getD b 0 - 1 = 0
        · rw [if_pos h0, if_pos h0, getD_set _ _ _ _ hbe, if_pos rfl]
        · rw [if_neg h0, if_neg h0]
    · unfold leftR
      rw [hst]
      unfold tickR
      simp only [h1, Int.toNat_natCast]
      rw [if_neg (by omega)]
      split <;> (simp only; rw [getD_set _ _ _ _ hbl, if_neg (fun h => hne h.symm)])
    · unfold endR
      rw [hst]
      unfold tickR
      simp only [h1, Int.toNat_natCast]
      rw [if_neg (by omega)]
      split
      · rfl
      · simp only
        split
        · rw [getD_set _ _ _ _ hbe, if_neg (fun h => hne h.symm)]
        · rfl
theorem leftR_nonneg {jobs : List SJob} (hj : ∀ e ∈ jobs, Okj e) {step : Int} (hs : 0 ≤ step) (hit : List (Int × Int)) (t j : Nat) (hjl : j < jobs.length) : 0 ≤ leftR jobs step hit t j :=
  ((simR_ok hj hs hit t).each j jobs[j] (List.getElem?_eq_getElem hjl)).2.1
theorem leftR_zero (jobs : List SJob) (step : Int) (hit : List (Int × Int)) (j : Nat) : leftR jobs step hit 0 j = costOf jobs j := rfl
theorem simR_ticks {jobs : List SJob} (hj : ∀ e ∈ jobs, Okj e) {step : Int} (hs : 0 ≤ step) (hit : List (Int × Int)) : Ticks jobs.length (leftR jobs step hit) (endR jobs step hit) := by
  refine ⟨fun j hjl => ?_, fun j hjl => ?_, fun t j hjl => leftR_nonneg hj hs hit t j hjl, fun t j hjl => ?_⟩
  · have he : jobs[j]? = some jobs[j] := List.getElem?_eq_getElem hjl
    rw [leftR_zero, costOf_some he]
    have := (hj _ (List.getElem_mem hjl)).C
    omega
  · simp [endR, simR, List.getD, List.getElem?_replicate, hjl]
  · rcases leftR_step hj hs hit t with ⟨_, h⟩ | ⟨b, y, h1, h2, h3, h4, h5, h6, h7⟩
    · exact .inl (h j)
    · by_cases hb : j = b
      · subst hb
        right
        refine ⟨h3, ?_⟩
        rw [h5, h6]
        by_cases hh : ((mget hit (t : Int)).getD 0) = 1
        · rw [if_pos hh, if_pos hh]
          have := ((simR_ok hj hs hit t).each j y h1).1
          have e : sinceR jobs step hit t j = (simR jobs step hit t).1.getD j 0 := rfl
          rw [if_neg (by omega)]
        · rw [if_neg hh, if_neg hh]
      · exact .inl (h7 j hb)
/-- jobs of a priority, or a greater one, as a level; a fault costs what it undoes, and its tick -/
theorem simR_level {jobs : List SJob} (hj : ∀ e ∈ jobs, Okj e) {step : Int} (hs : 0 ≤ step) (hit : List (Int × Int)) (Pi loss : Int) (hloss : ∀ e ∈ jobs, Pi ≤ e.P → undone e.C step ≤ loss) :
    LevelC jobs.length (leftR jobs step hit) (fun j => ∃ e, jobs[j]? = some e ∧ Pi ≤ e.P) (atN jobs) (costOf jobs) (fun t => if ((mget hit (t : Int)).getD 0) = 1 then loss else 0) := by
  have hT := simR_ticks hj hs hit
  refine ⟨fun j _ => leftR_zero jobs step hit j, fun t j hjl => leftR_nonneg hj hs hit t j hjl, fun t j hjl h0 => hT.stays (Nat.le_succ t) hjl h0, fun t j hjl hr => ?_, fun t ⟨j, hjl, ⟨e, he, hP⟩, hr, hL⟩ => ?_⟩
  · have he : jobs[j]? = some jobs[j] := List.getElem?_eq_getElem hjl
    rw [atN_some he] at hr
    rcases leftR_step hj hs hit t with ⟨_, h⟩ | ⟨b, y, h1, h2, h3, h4, h5, h6, h7⟩
    · exact (h j).1
    · refine (h7 j ?_).1
      rintro rfl
      rw [he] at h1
      cases h1
      omega
  · rw [atN_some he] at hr
    have hA := (hj e (List.mem_of_getElem? he)).At
    rcases leftR_step hj hs hit t with ⟨h, _⟩ | ⟨b, y, h1, h2, h3, h4, h5, h6, h7⟩
    · exact absurd ⟨by omega, hL⟩ (h j e he)
    · have hn := h4 j e he (by omega) hL
      have hPb : Pi ≤ y.P := by
        unfold aheadJ at hn
        rw [if_pos rfl] at hn
        omega
      have hAb := (hj y (List.mem_of_getElem? h1)).At
      refine ⟨b, lt_of_get h1, ⟨y, h1, hPb⟩, by rw [atN_some h1]; omega, h3, ?_, fun i _ hne => (h7 i hne).1⟩
      rw [h5]
      by_cases hh : ((mget hit (t : Int)).getD 0) = 1
      · rw [if_pos hh, if_pos hh]
        obtain ⟨k1, k2, k3, k4⟩ := (simR_ok hj hs hit t).each b y h1
        have e1 : sinceR jobs step hit t b = (simR jobs step hit t).1.getD b 0 := rfl
        have e2 : leftR jobs step hit t b = (simR jobs step hit t).2.1.getD b 0 := rfl
        have hl := hloss y (List.mem_of_getElem? h1) hPb
        unfold undone at hl
        by_cases h0 : step = 0
        · rw [if_pos h0] at hl; omega
        · rw [if_neg h0] at hl
          have := k4 (by omega)
          omega
      · rw [if_neg hh, if_neg hh]
        omega
/-- what is wrong with the i-th fault -/
def faultAt (l : List Int) (i : Nat) : Option SFault := match l[i]?, l[i - 1]? with
  | some a, some b => if 1 ≤ i ∧ a ≤ b then some ⟨12, i⟩ else none
  | _, _ => none
/-- how jobs are played where faults undo work -/
theorem redoPlay_eq (jobs : List SJob) (step : Int) (faults : List Int) (n : Int) (K : Nat) (hK : 20010 ≤ K) (hlen : faults.length ≤ 4000) :
    (((playFault jobs).Code ≠ 0 ∨ step < 0 ∨ step > 10000 ∨ n < 0 ∨ n > 20000 ∨ ∃ i, 1 ≤ i ∧ faultAt faults i ≠ none) ∧ ∃ q f, redo_Play.f K jobs step faults n = some (q, f) ∧ f.Code ≠ 0 ) ∨
    ((playFault jobs).Code = 0 ∧ 0 ≤ step ∧ step ≤ 10000 ∧ 0 ≤ n ∧ n ≤ 20000 ∧ (∀ i, i < faults.length → faultAt faults i = none) ∧ ∃ runs, redo_Play.f K jobs step faults n = some (⟨runs, (simR jobs step (hitsTill faults faults.length) n.toNat).2.2⟩, ⟨0, 0⟩)) := by
  unfold redo_Play.f
  rw [schedCheck_eq jobs K (by omega)]
  simp only
  by_cases hc : (playFault jobs).Code = 0
  · rw [if_pos hc]
    obtain ⟨hl, _, hj⟩ := playFault_ok hc
    by_cases hr : step < 0 ∨ step > 10000 ∨ n < 0 ∨ n > 20000
    · left
      have hp0 : redo_Play.p0 step n = some (.inr (⟨[], []⟩, ⟨3, 0⟩)) := by
        unfold redo_Play.p0
        repeat' split
        all_goals first | rfl | omega
      rw [hp0]
      exact ⟨by rcases hr with h | h | h | h <;> simp [h], _, _, rfl, by simp⟩
    · have hp0 : redo_Play.p0 step n = some (.inl ()) := by
        unfold redo_Play.p0
        rw [if_neg (by omega), if_neg (by omega), if_neg (by omega), if_neg (by omega)]
      rw [hp0]
      simp only
      rw [if_neg (by omega)]
      have hit1 := iter_states (ρ := SPlayed × SFault) (f := redo_Play.r1 faults) (fun k => (k, hitsTill faults k)) (fun i => (faultAt faults i).map fun f => (⟨[], []⟩, f)) faults.length (t := hitsTill faults faults.length) (fun i hi _ => by
        have hi' : (i : Int) < (faults.length : Int) := by omega
        have hx : faults[i]? = some faults[i] := List.getElem?_eq_getElem hi
        have hy : faults[i - 1]? = some faults[i - 1] := List.getElem?_eq_getElem (by omega)
        simp only [redo_Play.r1, if_pos hi', hx, hy, faultAt, hitsTill]
        by_cases h0 : (i : Int) > 0
        · have ew : (IntKind.i64.wrap ((i : Int) - 1)).toNat = i - 1 := by rw [wrap64_small (by omega) (by omega)]; omega
          rw [if_pos h0, if_pos (by rw [wrap64_small (by omega) (by omega)]; omega), ew, hy]
          simp only
          by_cases h1 : faults[i] ≤ faults[i - 1]
          · rw [if_pos h1, if_pos ⟨by omega, h1⟩]; rfl
          · rw [if_neg h1, if_neg (fun h => h1 h.2)]; rfl
        · rw [if_neg h0, if_neg (fun h => h0 (by omega))]; rfl) (fun _ => by simp [redo_Play.r1]) (K := K) (by omega)
      rw [show (0, ([] : List (Int × Int))) = (0, hitsTill faults 0) from rfl, hit1, firstOf_map]
      cases hf : firstOf (faultAt faults) faults.length 0 with
      | some f =>
        left
        obtain ⟨i, _, hi, hg, _⟩ := firstOf_some hf
        simp only [Option.map_some, leave]
        refine ⟨.inr (.inr (.inr (.inr (.inr ⟨i, ?_, by rw [hg]; simp⟩)))), _, _, rfl, ?_⟩
        · unfold faultAt at hg
          split at hg
          · split at hg
            · omega
            · cases hg
          · cases hg
        · unfold faultAt at hg
          split at hg
          · split at hg
            · cases hg; simp
            · cases hg
          · cases hg
      | none =>
        right
        refine ⟨hc, by omega, by omega, by omega, by omega, fun i hi => firstOf_none hf i (Nat.zero_le _) hi, ?_⟩
        obtain ⟨en, rfl⟩ := Int.eq_ofNat_of_zero_le (show 0 ≤ n by omega)
        simp only [Option.map_none, leave]
        have hp2 : redo_Play.p2 jobs (en : Int) = some (.inl (List.replicate en 0, List.replicate jobs.length 0)) := by
          unfold redo_Play.p2
          rw [if_pos (by omega), if_pos (by omega), if_pos (by omega), Int.toNat_natCast]
        have hp3 : redo_Play.p3 jobs = some (.inl (List.replicate jobs.length 0, List.replicate jobs.length 0)) := by
          unfold redo_Play.p3
          rw [if_pos (by omega)]
        rw [hp2]
        simp only
        rw [hp3]
        simp only
        have hit2 := iter_states (ρ := SPlayed × SFault) (f := redo_Play.r4 jobs) (fun k => (k, (jobs.take k).map (·.C) ++ List.replicate (jobs.length - k) 0, List.replicate k (-1) ++ List.replicate (jobs.length - k) 0)) (fun _ => none) jobs.length (t := (jobs.map (·.C), List.replicate jobs.length (-1))) (fun i hi _ => by
          have hi' : (i : Int) < (jobs.length : Int) := by omega
          have hx : jobs[i]? = some jobs[i] := List.getElem?_eq_getElem hi
          have hlt : ((jobs.take i).map (·.C)).length = i := by simp; omega
          have e1 : ((jobs.take i).map (·.C) ++ List.replicate (jobs.length - i) (0 : Int))[i]? = some 0 := by
            rw [List.getElem?_append_right (by omega), hlt, Nat.sub_self, show jobs.length - i = (jobs.length - (i + 1)) + 1 by omega, List.replicate_succ]; rfl
          have e2 : (List.replicate i (-1) ++ List.replicate (jobs.length - i) (0 : Int))[i]? = some 0 := by
            rw [List.getElem?_append_right (by simp), List.length_replicate, Nat.sub_self, show jobs.length - i = (jobs.length - (i + 1)) + 1 by omega, List.replicate_succ]; rfl
          have e3 : ((jobs.take i).map (·.C) ++ List.replicate (jobs.length - i) (0 : Int)).set i jobs[i].C = (jobs.take (i + 1)).map (·.C) ++ List.replicate (jobs.length - (i + 1)) 0 := by
            rw [List.set_append_right _ _ (by omega), hlt, Nat.sub_self, show jobs.length - i = (jobs.length - (i + 1)) + 1 by omega, List.replicate_succ, List.set_cons_zero, List.take_add_one, hx, List.map_append, List.append_assoc]
            rfl
          have e4 : (List.replicate i (-1) ++ List.replicate (jobs.length - i) (0 : Int)).set i (-1) = List.replicate (i + 1) (-1) ++ List.replicate (jobs.length - (i + 1)) 0 := by
            rw [List.set_append_right _ _ (by simp), List.length_replicate, Nat.sub_self, show jobs.length - i = (jobs.length - (i + 1)) + 1 by omega, List.replicate_succ (n := jobs.length - (i + 1)), List.set_cons_zero, List.replicate_succ' (n := i)]
            simp
          simp only [redo_Play.r4, if_pos hi', hx, e1, e2, e3, e4, onwardS]) (fun _ => by simp [redo_Play.r4]) (K := K) (by omega)
        have h0 : (0, List.replicate jobs.length (0 : Int), List.replicate jobs.length (0 : Int)) = (0, (jobs.take 0).map (·.C) ++ List.replicate (jobs.length - 0) 0, List.replicate 0 (-1) ++ List.replicate (jobs.length - 0) 0) := by simp
        rw [h0, hit2, firstOf_none_of (fun _ _ _ => rfl)]
        simp only [leave]
        generalize hhit : hitsTill faults faults.length = hit
        obtain ⟨r, hr1, runs, rfl⟩ := iter_total (f := redo_Play.r5 K jobs step (en : Int) hit)
          (fun s => ∃ t : Nat, t ≤ en ∧ s.1 = (t : Int) ∧ s.2.1 = (simR jobs step hit t).1 ∧ s.2.2.1 = (simR jobs step hit t).2.1 ∧ s.2.2.2.1.length = en ∧ s.2.2.2.2 = (simR jobs step hit t).2.2)
          (fun s => ((en : Int) - s.1).toNat) (fun r => ∃ runs, r = .inl (runs, (simR jobs step hit en).2.2)) (fun s hs => by
            obtain ⟨z, m15, m16, m17, m18⟩ := s
            obtain ⟨t, hte, rfl, rfl, rfl, hrl, rfl⟩ := hs
            simp only at hrl
            have hok := simR_ok hj (show 0 ≤ step by omega) hit t
            have hw : IntKind.i64.wrap ((t : Int) + 1) = ((t + 1 : Nat) : Int) := by rw [wrap64_small (by omega) (by omega)]; rfl
            by_cases hlt : t < en
            · left
              have hlt' : (t : Int) < (en : Int) := by omega
              have hrx : m17[t]? = some (m17[t]'(by omega)) := List.getElem?_eq_getElem _
              have hst : simR jobs step hit (t + 1) = tickR jobs step hit (t : Int) (simR jobs step hit t) := rfl
              simp only [redo_Play.r5, if_pos hlt', First_eqR 1 (.inl rfl) jobs _ (t : Int) hok.left K (by omega), if_pos (show (0 : Int) ≤ (t : Int) by omega), Int.toNat_natCast, hrx, hw]
              rcases firstR jobs (simR jobs step hit t).2.1 (t : Int) hok.left with ⟨h1, _⟩ | ⟨b, y, h1, h2, h3, h4, _⟩
              · simp only [h1]
                rw [if_pos (by omega)]
                have ht : tickR jobs step hit (t : Int) (simR jobs step hit t) = simR jobs step hit t := by
                  unfold tickR; simp only [h1]; rw [if_pos (by omega)]
                refine ⟨_, rfl, ⟨t + 1, by omega, rfl, ?_, ?_, by simp [hrl], ?_⟩, by simp only; omega⟩ <;> rw [hst, ht]
              · have hb := lt_of_get h2
                have hbs : b < (simR jobs step hit t).1.length := by rw [hok.since]; exact hb
                have hbl : b < (simR jobs step hit t).2.1.length := by rw [hok.left]; exact hb
                have hbe : b < (simR jobs step hit t).2.2.length := by rw [hok.ends]; exact hb
                obtain ⟨k1, k2, k3, k4⟩ := hok.each b y h2
                have hC := (hj y (List.mem_of_getElem? h2)).C
                simp only [h1]
                rw [if_neg (by omega)]
                by_cases hh : ((mget hit (t : Int)).getD 0) = 1
                · have hp6 : redo_Play.p6 (simR jobs step hit t).1 (simR jobs step hit t).2.1 (b : Int) = some (.inl ((simR jobs step hit t).1.set b 0, (simR jobs step hit t).2.1.set b ((simR jobs step hit t).2.1.getD b 0 + (simR jobs step hit t).1.getD b 0))) := by
                    unfold redo_Play.p6
                    rw [if_pos (by omega), Int.toNat_natCast, get_of_lt hbl]
                    simp only [get_of_lt hbs]
                    rw [wrap64_small (by omega) (by omega)]
                  rw [if_pos hh, hp6]
                  have ht : tickR jobs step hit (t : Int) (simR jobs step hit t) = ((simR jobs step hit t).1.set b 0, (simR jobs step hit t).2.1.set b ((simR jobs step hit t).2.1.getD b 0 + (simR jobs step hit t).1.getD b 0), (simR jobs step hit t).2.2) := by
                    unfold tickR; simp only [h1, Int.toNat_natCast]; rw [if_neg (by omega), if_pos hh]
                  refine ⟨_, rfl, ⟨t + 1, by omega, rfl, ?_, ?_, by simp [hrl], ?_⟩, by simp only; omega⟩ <;> rw [hst, ht]
                · have hp7 : redo_Play.p7 (simR jobs step hit t).1 (simR jobs step hit t).2.1 (b : Int) = some (.inl ((simR jobs step hit t).1.set b ((simR jobs step hit t).1.getD b 0 + 1), (simR jobs step hit t).2.1.set b ((simR jobs step hit t).2.1.getD b 0 - 1))) := by
                    unfold redo_Play.p7
                    rw [if_pos (by omega), Int.toNat_natCast, get_of_lt hbl]
                    simp only [get_of_lt hbs]
                    rw [wrap64_small (n := (simR jobs step hit t).1.getD b 0 + 1) (by omega) (by omega), wrap64_small (n := (simR jobs step hit t).2.1.getD b 0 - 1) (by omega) (by omega)]
                  have g1 : ((simR jobs step hit t).1.set b ((simR jobs step hit t).1.getD b 0 + 1))[b]? = some ((simR jobs step hit t).1.getD b 0 + 1) := by simp [hbs]
                  have g2 : ((simR jobs step hit t).2.1.set b ((simR jobs step hit t).2.1.getD b 0 - 1))[b]? = some ((simR jobs step hit t).2.1.getD b 0 - 1) := by simp [hbl]
                  rw [if_neg hh, hp7]
                  simp only [if_pos (show (0 : Int) ≤ (b : Int) by omega), Int.toNat_natCast, g1, g2]
                  have ht : tickR jobs step hit (t : Int) (simR jobs step hit t) = (if (simR jobs step hit t).1.getD b 0 + 1 = step then ((simR jobs step hit t).1.set b ((simR jobs step hit t).1.getD b 0 + 1)).set b 0 else (simR jobs step hit t).1.set b ((simR jobs step hit t).1.getD b 0 + 1),
                      (simR jobs step hit t).2.1.set b ((simR jobs step hit t).2.1.getD b 0 - 1), if (simR jobs step hit t).2.1.getD b 0 - 1 = 0 then (simR jobs step hit t).2.2.set b ((t : Int) + 1) else (simR jobs step hit t).2.2) := by
                    unfold tickR; simp only [h1, Int.toNat_natCast]; rw [if_neg (by omega), if_neg hh]
                  by_cases hs1 : (simR jobs step hit t).1.getD b 0 + 1 = step
                  · rw [if_pos hs1]
                    rw [if_pos hs1] at ht
                    by_cases hs2 : (simR jobs step hit t).2.1.getD b 0 - 1 = 0
                    · rw [if_pos hs2, get_of_lt hbe]
                      rw [if_pos hs2] at ht
                      refine ⟨_, rfl, ⟨t + 1, by omega, rfl, ?_, ?_, by simp [hrl], ?_⟩, by simp only; omega⟩ <;> (rw [hst, ht] <;> rfl)
                    · rw [if_neg hs2]
                      rw [if_neg hs2] at ht
                      refine ⟨_, rfl, ⟨t + 1, by omega, rfl, ?_, ?_, by simp [hrl], ?_⟩, by simp only; omega⟩ <;> rw [hst, ht]
                  · rw [if_neg hs1]
                    rw [if_neg hs1] at ht
                    by_cases hs2 : (simR jobs step hit t).2.1.getD b 0 - 1 = 0
                    · rw [if_pos hs2, get_of_lt hbe]
                      rw [if_pos hs2] at ht
                      refine ⟨_, rfl, ⟨t + 1, by omega, rfl, ?_, ?_, by simp [hrl], ?_⟩, by simp only; omega⟩ <;> (rw [hst, ht] <;> rfl)
                    · rw [if_neg hs2]
                      rw [if_neg hs2] at ht
                      refine ⟨_, rfl, ⟨t + 1, by omega, rfl, ?_, ?_, by simp [hrl], ?_⟩, by simp only; omega⟩ <;> rw [hst, ht]
            · right
              obtain rfl : t = en := by omega
              refine ⟨_, by simp only [redo_Play.r5]; rw [if_neg (by omega)], m17, rfl⟩) K (0, List.replicate jobs.length 0, jobs.map (·.C), List.replicate en 0, List.replicate jobs.length (-1)) ⟨0, Nat.zero_le _, rfl, rfl, rfl, by simp, rfl⟩ (by simp only; omega)
        rw [hr1]
        exact ⟨runs, rfl⟩
  · rw [if_neg hc]
    left
    exact ⟨.inl hc, _, _, rfl, hc⟩

/-- rounds that keep a relation -/
theorem iter_rel {σ τ ρ : Type} {f : σ → Option (σ ⊕ (τ ⊕ ρ))} (R : Nat → σ → Prop) (T : τ → Prop) (n : Nat) (h : ∀ i s, i < n → R i s → ∃ s', f s = some (.inl s') ∧ R (i + 1) s') (he : ∀ s, R n s → ∃ t, f s = some (.inr (.inl t)) ∧ T t) {K : Nat} (hK : n < K) {s : σ} (hs : R 0 s) : ∃ t, iter f K s = some (.inl t) ∧ T t := by
  have key : ∀ (K i : Nat) (s : σ), i ≤ n → n - i < K → R i s → ∃ t, iter f K s = some (.inl t) ∧ T t := by
    intro K
    induction K with
    | zero => intro i _ _ hK; omega
    | succ K ih =>
      intro i s hi hK hR
      rw [iter_succ]
      by_cases hin : i = n
      · subst hin
        obtain ⟨t, h1, h2⟩ := he s hR
        exact ⟨t, by rw [h1], h2⟩
      · obtain ⟨s', h1, h2⟩ := h i s (by omega) hR
        rw [h1]
        exact ih (i + 1) s' (by omega) (by omega) h2
  exact key K 0 s (Nat.zero_le _) (by omega) hs
/-- the document's order of jobs: a policy, their times, their places -/
def ltJ (p : Int) (jobs : List SJob) (a b : Nat) : Prop := match jobs[a]?, jobs[b]? with
  | some x, some y => aheadJ p x y ∨ (¬ aheadJ p y x ∧ a < b)
  | _, _ => False
instance (p : Int) (jobs : List SJob) (a b : Nat) : Decidable (ltJ p jobs a b) := by unfold ltJ; split <;> infer_instance
theorem ltJ_iff {p : Int} {jobs : List SJob} {a b : Nat} {x y : SJob} (hx : jobs[a]? = some x) (hy : jobs[b]? = some y) : ltJ p jobs a b ↔ aheadJ p x y ∨ (¬ aheadJ p y x ∧ a < b) := by simp only [ltJ, hx, hy]
theorem Goes_eq (p : Int) (hp : p = 1 ∨ p = 2) (jobs : List SJob) (a b : Nat) (ha : a < jobs.length) (hb : b < jobs.length) : punctualref_Goes.f jobs (a : Int) (b : Int) p = some (decide (ltJ p jobs a b)) := by
  have h1 : jobs[a]? = some jobs[a] := List.getElem?_eq_getElem ha
  have h2 : jobs[b]? = some jobs[b] := List.getElem?_eq_getElem hb
  have hl := ltJ_iff (p := p) h1 h2
  generalize jobs[a] = x at h1 hl
  generalize jobs[b] = y at h2 hl
  have e : punctualref_Goes.p0 jobs (a : Int) (b : Int) = some (.inl (x.Task, x.At, x.C, x.Due, x.P, y.Task, y.At, y.C, y.Due, y.P)) := by
    simp only [punctualref_Goes.p0, Int.toNat_natCast, h1, h2]
    rw [if_pos (by omega), if_pos (by omega)]
  unfold punctualref_Goes.f
  rw [e, show decide (ltJ p jobs a b) = decide (aheadJ p x y ∨ (¬ aheadJ p y x ∧ a < b)) from decide_eq_decide.2 hl]
  have k1 : ∀ u v : SJob, aheadJ 1 u v ↔ (u.P > v.P ∨ (u.P = v.P ∧ u.At < v.At)) := fun u v => by unfold aheadJ; rw [if_pos rfl]
  have k2 : ∀ u v : SJob, aheadJ 2 u v ↔ (u.Due < v.Due ∨ (u.Due = v.Due ∧ u.At < v.At)) := fun u v => by unfold aheadJ; rw [if_neg (by decide)]
  rcases hp with rfl | rfl
  · simp only [k1, if_pos rfl, show ¬ ((1 : Int) = 2) by decide, if_true, if_false]
    split
    · split
      · congr 1; rw [decide_eq_decide]; omega
      · congr 1; rw [decide_eq_decide]; omega
    · congr 1; rw [decide_eq_decide]; omega
  · simp only [k2, show ¬ ((2 : Int) = 1) by decide, if_true, if_false]
    split
    · split
      · congr 1; rw [decide_eq_decide]; omega
      · congr 1; rw [decide_eq_decide]; omega
    · congr 1; rw [decide_eq_decide]; omega
theorem ltJ_total {p : Int} {jobs : List SJob} {a b : Nat} (ha : a < jobs.length) (hb : b < jobs.length) (h : a ≠ b) : ltJ p jobs a b ∨ ltJ p jobs b a := by
  have h1 : jobs[a]? = some jobs[a] := List.getElem?_eq_getElem ha
  have h2 : jobs[b]? = some jobs[b] := List.getElem?_eq_getElem hb
  rw [ltJ_iff h1 h2, ltJ_iff h2 h1]
  by_cases g1 : aheadJ p jobs[a] jobs[b]
  · exact .inl (.inl g1)
  by_cases g2 : aheadJ p jobs[b] jobs[a]
  · exact .inr (.inl g2)
  by_cases g3 : a < b
  · exact .inl (.inr ⟨g2, g3⟩)
  · exact .inr (.inr ⟨g1, by omega⟩)
theorem ltJ_trans {p : Int} {jobs : List SJob} {a b c : Nat} (ha : a < jobs.length) (hb : b < jobs.length) (hc : c < jobs.length) (h : ltJ p jobs a b) (k : ltJ p jobs b c) : ltJ p jobs a c := by
  have h1 : jobs[a]? = some jobs[a] := List.getElem?_eq_getElem ha
  have h2 : jobs[b]? = some jobs[b] := List.getElem?_eq_getElem hb
  have h3 : jobs[c]? = some jobs[c] := List.getElem?_eq_getElem hc
  rw [ltJ_iff h1 h2] at h
  rw [ltJ_iff h2 h3] at k
  rw [ltJ_iff h1 h3]
  unfold aheadJ at *
  split at h <;> simp_all <;> omega
/-- the map of what is left -/
def Mp (mp : List (Int × Int)) (left : List Int) : Prop := ∀ j : Nat, (mget mp (j : Int)).getD 0 = left.getD j 0
/-- those of the first n that can run, in the document's order, begin with the first -/
structure There (p : Int) (jobs : List SJob) (left : List Int) (t : Int) (n : Nat) (L : List Nat) : Prop where
  lt : ∀ q ∈ L, q < n
  sorted : L.Pairwise (ltJ p jobs)
  head : (L = [] ∧ firstTo p jobs left t n = -1) ∨ ∃ b r, L = b :: r ∧ firstTo p jobs left t n = (b : Int)
  few : L.length ≤ n
theorem pairwise_insert {α : Type} {R : α → α → Prop} {L : List α} {k : Nat} {x : α} (h : L.Pairwise R) (h1 : ∀ y ∈ L.take k, R y x) (h2 : ∀ y ∈ L.drop k, R x y) : (L.take k ++ (x :: L.drop k)).Pairwise R := by
  rw [List.pairwise_append]
  have h0 := h
  rw [← List.take_append_drop k L, List.pairwise_append] at h0
  refine ⟨h0.1, List.pairwise_cons.2 ⟨h2, h0.2.1⟩, fun a ha b hb => ?_⟩
  rcases List.mem_cons.1 hb with rfl | hb
  · exact h1 a ha
  · exact h0.2.2 a ha b hb
/-- who runs, as a list -/
def runRow (b : Int) : List Int := if b < 0 then [] else [b]
theorem CheckJobs_eq (l : List SJob) (K : Nat) (hK : 4010 ≤ K) : punctualref_CheckJobs.f K l = some (playFault l) := by
  unfold punctualref_CheckJobs.f playFault
  by_cases hl : (l.length : Int) > 4000
  · rw [if_pos hl, if_pos (by omega)]; rfl
  rw [if_neg hl, if_neg (by omega)]
  have hr := iter_first0 (f := punctualref_CheckJobs.r0 l) (playAt l) l.length (t := ()) (fun i hi => by
    have hi' : (i : Int) < (l.length : Int) := by omega
    simp only [punctualref_CheckJobs.r0, if_pos hi', List.getElem?_eq_getElem hi, playAt]
    generalize l[i] = e
    by_cases h : e.At < 0 ∨ e.At > 60000 ∨ e.C < 1 ∨ e.C > 10000 ∨ e.Due < 0 ∨ e.Due > 80000
    · rw [if_pos h]
      repeat' split
      all_goals first | rfl | omega
    · rw [if_neg h]
      rw [if_neg (by omega), if_neg (by omega), if_neg (by omega), if_neg (by omega), if_neg (by omega), if_neg (by omega)]
      rfl) (by simp [punctualref_CheckJobs.r0]) (K := K) (by omega)
  rw [hr]
  cases firstOf (playAt l) l.length 0 <;> rfl
/-- of each row the first -/
def headOr (r : List Int) : Int := r.headD (-1)
theorem u64_small {n : Int} (h1 : 0 ≤ n) (h2 : n ≤ 9223372036854775807) : IntKind.u64.wrap n = n := by
  simp [IntKind.wrap, IntKind.bits, IntKind.signed]; omega
theorem mid_eq {i j : Nat} (h : i + j ≤ 100000) : IntKind.i64.wrap (Int.fdiv (IntKind.u64.wrap (IntKind.i64.wrap ((i : Int) + (j : Int)))) (2 ^ 1)) = (((i + j) / 2 : Nat) : Int) := by
  rw [wrap64_small (n := (i : Int) + (j : Int)) (by omega) (by omega), u64_small (by omega) (by omega)]
  have e : Int.fdiv ((i : Int) + (j : Int)) (2 ^ 1) = (((i + j) / 2 : Nat) : Int) := by
    rw [Int.fdiv_eq_ediv_of_nonneg _ (by decide)]
    omega
  rw [e, wrap64_small (by omega) (by omega)]
/-- where a number stands, or would stand, among numbers that rise -/
theorem Search_eq (l : List Int) (t : Int) (hl : l.length ≤ 5000) (hs : ∀ (i j : Nat) (a b : Int), i < j → l[i]? = some a → l[j]? = some b → a < b) (K : Nat) (hK : 5010 ≤ K) :
    ∃ z : Nat, sort_SearchInts.f K l t = some (z : Int) ∧ z ≤ l.length ∧ (l[z]? = some t ↔ ∃ k, k < l.length ∧ l[k]? = some t) := by
  obtain ⟨r, hr, z, rfl, hz, h1, h2⟩ := iter_total (f := sort_Search.r0 l t) (fun s => ∃ i j : Nat, s = ((i : Int), (j : Int)) ∧ i ≤ j ∧ j ≤ l.length ∧ (∀ k a, k < i → l[k]? = some a → a < t) ∧ (∀ k a, j ≤ k → l[k]? = some a → t ≤ a)) (fun s => (s.2 - s.1).toNat)
    (fun r => ∃ z : Nat, r = .inl (z : Int) ∧ z ≤ l.length ∧ (∀ k a, k < z → l[k]? = some a → a < t) ∧ (∀ k a, z ≤ k → l[k]? = some a → t ≤ a)) (fun s hI => by
      obtain ⟨i, j, rfl, hij, hj, g1, g2⟩ := hI
      simp only [sort_Search.r0, mid_eq (show i + j ≤ 100000 by omega)]
      by_cases hlt : i < j
      · left
        rw [if_pos (by omega)]
        have hm : (i + j) / 2 < l.length := by omega
        have hx : l[(i + j) / 2]? = some l[(i + j) / 2] := List.getElem?_eq_getElem hm
        generalize l[(i + j) / 2] = a at hx
        have hf : sort_SearchInts_1.f (((i + j) / 2 : Nat) : Int) l t = some (decide (a ≥ t)) := by
          simp only [sort_SearchInts_1.f, Int.toNat_natCast, hx]
          rw [if_pos (by omega)]
        rw [hf]
        simp only [decide_eq_true_eq]
        by_cases ha : a ≥ t
        · rw [if_pos ha]
          refine ⟨_, rfl, ⟨i, (i + j) / 2, rfl, by omega, by omega, g1, fun k b hk hb => ?_⟩, by simp only; omega⟩
          by_cases hkm : k = (i + j) / 2
          · subst hkm; rw [hx] at hb; cases hb; exact ha
          · have := hs _ _ _ _ (show (i + j) / 2 < k by omega) hx hb; omega
        · rw [if_neg ha, wrap64_small (by omega) (by omega)]
          refine ⟨_, rfl, ⟨(i + j) / 2 + 1, j, by simp, by omega, hj, fun k b hk hb => ?_, g2⟩, by simp only; omega⟩
          by_cases hkm : k = (i + j) / 2
          · subst hkm; rw [hx] at hb; cases hb; omega
          · have := hs _ _ _ _ (show k < (i + j) / 2 by omega) hb hx; omega
      · right
        obtain rfl : i = j := by omega
        rw [if_neg (by omega)]
        exact ⟨_, rfl, i, rfl, by omega, g1, g2⟩) K (0, (l.length : Int)) ⟨0, l.length, rfl, Nat.zero_le _, Nat.le_refl _, fun k a hk => by omega, fun k a hk ha => by have := lt_of_get ha; omega⟩ (by simp only; omega)
  refine ⟨z, by simp only [sort_SearchInts.f, sort_Search.f, hr], hz, fun h => ⟨z, lt_of_get h, h⟩, fun ⟨k, _, hk⟩ => ?_⟩
  by_cases hkz : k < z
  · have := h1 k t hkz hk; omega
  · by_cases hke : k = z
    · subst hke; exact hk
    · have hzl := lt_of_get hk
      have hx : l[z]? = some (l[z]'(by omega)) := List.getElem?_eq_getElem _
      have e1 := h2 z _ (Nat.le_refl _) hx
      have e2 := hs z k _ _ (by omega) hx hk
      omega

/-- who runs in a tick -/
def runR (jobs : List SJob) (step : Int) (hit : List (Int × Int)) (t : Nat) : Int := firstTo 1 jobs (simR jobs step hit t).2.1 (t : Int) jobs.length
def runsR (jobs : List SJob) (step : Int) (hit : List (Int × Int)) (n t : Nat) : List Int := (List.range n).map fun s => if s < t then runR jobs step hit s else 0
theorem runsR_len (jobs : List SJob) (step : Int) (hit : List (Int × Int)) (n t : Nat) : (runsR jobs step hit n t).length = n := by simp [runsR]
theorem runsR_set (jobs : List SJob) (step : Int) (hit : List (Int × Int)) {n t : Nat} (h : t < n) : (runsR jobs step hit n t).set t (runR jobs step hit t) = runsR jobs step hit n (t + 1) := by
  apply List.ext_getElem?
  intro q
  rw [List.getElem?_set, runsR_len]
  by_cases hq : t = q
  · subst hq
    rw [if_pos rfl, if_pos h]
    simp [runsR, h]
  · rw [if_neg hq]
    simp only [runsR, List.getElem?_map]
    by_cases hqn : q < n
    · rw [List.getElem?_range hqn]
      simp only [Option.map_some]
      by_cases hqi : q < t
      · rw [if_pos hqi, if_pos (by omega)]
      · rw [if_neg hqi, if_neg (by omega)]
    · rw [List.getElem?_eq_none (by simp; omega)]; rfl
/-- jobs played where faults undo work -/
def redoOf (jobs : List SJob) (step : Int) (faults : List Int) (n : Int) : SPlayed × SFault :=
  if (playFault jobs).Code = 0 then
    (if step < 0 ∨ step > 10000 ∨ n < 0 ∨ n > 20000 then (⟨[], []⟩, ⟨3, 0⟩)
    else if (faults.length : Int) > 4000 then (⟨[], []⟩, ⟨2, 0⟩)
    else match firstOf (faultAt faults) faults.length 0 with
      | some f => (⟨[], []⟩, f)
      | none => (⟨runsR jobs step (hitsTill faults faults.length) n.toNat n.toNat, (simR jobs step (hitsTill faults faults.length) n.toNat).2.2⟩, ⟨0, 0⟩))
  else (⟨[], []⟩, playFault jobs)
theorem redoPlay_full (jobs : List SJob) (step : Int) (faults : List Int) (n : Int) (K : Nat) (hK : 20010 ≤ K) : redo_Play.f K jobs step faults n = some (redoOf jobs step faults n) := by
  unfold redo_Play.f redoOf
  rw [schedCheck_eq jobs K (by omega)]
  simp only
  by_cases hc : (playFault jobs).Code = 0
  · rw [if_pos hc, if_pos hc]
    obtain ⟨hl, _, hj⟩ := playFault_ok hc
    by_cases hr : step < 0 ∨ step > 10000 ∨ n < 0 ∨ n > 20000
    · have hp0 : redo_Play.p0 step n = some (.inr (⟨[], []⟩, ⟨3, 0⟩)) := by
        unfold redo_Play.p0
        repeat' split
        all_goals first | rfl | omega
      rw [hp0, if_pos hr]
    · have hp0 : redo_Play.p0 step n = some (.inl ()) := by
        unfold redo_Play.p0
        rw [if_neg (by omega), if_neg (by omega), if_neg (by omega), if_neg (by omega)]
      rw [hp0, if_neg hr]
      simp only
      by_cases hmany : (faults.length : Int) > 4000
      · rw [if_pos hmany, if_pos hmany]
      rw [if_neg hmany, if_neg hmany]
      have hit1 := iter_states (ρ := SPlayed × SFault) (f := redo_Play.r1 faults) (fun k => (k, hitsTill faults k)) (fun i => (faultAt faults i).map fun f => (⟨[], []⟩, f)) faults.length (t := hitsTill faults faults.length) (fun i hi _ => by
        have hi' : (i : Int) < (faults.length : Int) := by omega
        have hx : faults[i]? = some faults[i] := List.getElem?_eq_getElem hi
        have hy : faults[i - 1]? = some faults[i - 1] := List.getElem?_eq_getElem (by omega)
        simp only [redo_Play.r1, if_pos hi', hx, hy, faultAt, hitsTill]
        by_cases h0 : (i : Int) > 0
        · have ew : (IntKind.i64.wrap ((i : Int) - 1)).toNat = i - 1 := by rw [wrap64_small (by omega) (by omega)]; omega
          rw [if_pos h0, if_pos (by rw [wrap64_small (by omega) (by omega)]; omega), ew, hy]
          simp only
          by_cases h1 : faults[i] ≤ faults[i - 1]
          · rw [if_pos h1, if_pos ⟨by omega, h1⟩]; rfl
          · rw [if_neg h1, if_neg (fun h => h1 h.2)]; rfl
        · rw [if_neg h0, if_neg (fun h => h0 (by omega))]; rfl) (fun _ => by simp [redo_Play.r1]) (K := K) (by omega)
      rw [show (0, ([] : List (Int × Int))) = (0, hitsTill faults 0) from rfl, hit1, firstOf_map]
      cases hf : firstOf (faultAt faults) faults.length 0 with
      | some f =>
        simp only [Option.map_some, leave]
      | none =>
        obtain ⟨en, rfl⟩ := Int.eq_ofNat_of_zero_le (show 0 ≤ n by omega)
        simp only [Option.map_none, leave]
        have hp2 : redo_Play.p2 jobs (en : Int) = some (.inl (List.replicate en 0, List.replicate jobs.length 0)) := by
          unfold redo_Play.p2
          rw [if_pos (by omega), if_pos (by omega), if_pos (by omega), Int.toNat_natCast]
        have hp3 : redo_Play.p3 jobs = some (.inl (List.replicate jobs.length 0, List.replicate jobs.length 0)) := by
          unfold redo_Play.p3
          rw [if_pos (by omega)]
        rw [hp2]
        simp only
        rw [hp3]
        simp only
        have hit2 := iter_states (ρ := SPlayed × SFault) (f := redo_Play.r4 jobs) (fun k => (k, (jobs.take k).map (·.C) ++ List.replicate (jobs.length - k) 0, List.replicate k (-1) ++ List.replicate (jobs.length - k) 0)) (fun _ => none) jobs.length (t := (jobs.map (·.C), List.replicate jobs.length (-1))) (fun i hi _ => by
          have hi' : (i : Int) < (jobs.length : Int) := by omega
          have hx : jobs[i]? = some jobs[i] := List.getElem?_eq_getElem hi
          have hlt : ((jobs.take i).map (·.C)).length = i := by simp; omega
          have e1 : ((jobs.take i).map (·.C) ++ List.replicate (jobs.length - i) (0 : Int))[i]? = some 0 := by
            rw [List.getElem?_append_right (by omega), hlt, Nat.sub_self, show jobs.length - i = (jobs.length - (i + 1)) + 1 by omega, List.replicate_succ]; rfl
          have e2 : (List.replicate i (-1) ++ List.replicate (jobs.length - i) (0 : Int))[i]? = some 0 := by
            rw [List.getElem?_append_right (by simp), List.length_replicate, Nat.sub_self, show jobs.length - i = (jobs.length - (i + 1)) + 1 by omega, List.replicate_succ]; rfl
          have e3 : ((jobs.take i).map (·.C) ++ List.replicate (jobs.length - i) (0 : Int)).set i jobs[i].C = (jobs.take (i + 1)).map (·.C) ++ List.replicate (jobs.length - (i + 1)) 0 := by
            rw [List.set_append_right _ _ (by omega), hlt, Nat.sub_self, show jobs.length - i = (jobs.length - (i + 1)) + 1 by omega, List.replicate_succ, List.set_cons_zero, List.take_add_one, hx, List.map_append, List.append_assoc]
            rfl
          have e4 : (List.replicate i (-1) ++ List.replicate (jobs.length - i) (0 : Int)).set i (-1) = List.replicate (i + 1) (-1) ++ List.replicate (jobs.length - (i + 1)) 0 := by
            rw [List.set_append_right _ _ (by simp), List.length_replicate, Nat.sub_self, show jobs.length - i = (jobs.length - (i + 1)) + 1 by omega, List.replicate_succ (n := jobs.length - (i + 1)), List.set_cons_zero, List.replicate_succ' (n := i)]
            simp
          simp only [redo_Play.r4, if_pos hi', hx, e1, e2, e3, e4, onwardS]) (fun _ => by simp [redo_Play.r4]) (K := K) (by omega)
        have h0 : (0, List.replicate jobs.length (0 : Int), List.replicate jobs.length (0 : Int)) = (0, (jobs.take 0).map (·.C) ++ List.replicate (jobs.length - 0) 0, List.replicate 0 (-1) ++ List.replicate (jobs.length - 0) 0) := by simp
        rw [h0, hit2, firstOf_none_of (fun _ _ _ => rfl)]
        simp only [leave]
        generalize hhit : hitsTill faults faults.length = hit
        obtain ⟨r, hr1, rfl⟩ := iter_total (f := redo_Play.r5 K jobs step (en : Int) hit)
          (fun s => ∃ t : Nat, t ≤ en ∧ s.1 = (t : Int) ∧ s.2.1 = (simR jobs step hit t).1 ∧ s.2.2.1 = (simR jobs step hit t).2.1 ∧ s.2.2.2.1 = runsR jobs step hit en t ∧ s.2.2.2.2 = (simR jobs step hit t).2.2)
          (fun s => ((en : Int) - s.1).toNat) (fun r => r = .inl (runsR jobs step hit en en, (simR jobs step hit en).2.2)) (fun s hs => by
            obtain ⟨z, m15, m16, m17, m18⟩ := s
            obtain ⟨t, hte, rfl, rfl, rfl, rfl, rfl⟩ := hs
            have hrl := runsR_len jobs step hit en t
            have hok := simR_ok hj (show 0 ≤ step by omega) hit t
            have hw : IntKind.i64.wrap ((t : Int) + 1) = ((t + 1 : Nat) : Int) := by rw [wrap64_small (by omega) (by omega)]; rfl
            by_cases hlt : t < en
            · left
              have hlt' : (t : Int) < (en : Int) := by omega
              have hrx : (runsR jobs step hit en t)[t]? = some ((runsR jobs step hit en t)[t]'(by omega)) := List.getElem?_eq_getElem _
              have hrs := runsR_set jobs step hit hlt
              unfold runR at hrs
              have hst : simR jobs step hit (t + 1) = tickR jobs step hit (t : Int) (simR jobs step hit t) := rfl
              simp only [redo_Play.r5, if_pos hlt', First_eqR 1 (.inl rfl) jobs _ (t : Int) hok.left K (by omega), if_pos (show (0 : Int) ≤ (t : Int) by omega), Int.toNat_natCast, hrx, hw]
              rcases firstR jobs (simR jobs step hit t).2.1 (t : Int) hok.left with ⟨h1, _⟩ | ⟨b, y, h1, h2, h3, h4, _⟩
              · rw [h1] at hrs
                simp only [h1]
                rw [if_pos (by omega)]
                have ht : tickR jobs step hit (t : Int) (simR jobs step hit t) = simR jobs step hit t := by
                  unfold tickR; simp only [h1]; rw [if_pos (by omega)]
                refine ⟨_, rfl, ⟨t + 1, by omega, rfl, ?_, ?_, hrs, ?_⟩, by simp only; omega⟩ <;> rw [hst, ht]
              · have hb := lt_of_get h2
                have hbs : b < (simR jobs step hit t).1.length := by rw [hok.since]; exact hb
                have hbl : b < (simR jobs step hit t).2.1.length := by rw [hok.left]; exact hb
                have hbe : b < (simR jobs step hit t).2.2.length := by rw [hok.ends]; exact hb
                obtain ⟨k1, k2, k3, k4⟩ := hok.each b y h2
                have hC := (hj y (List.mem_of_getElem? h2)).C
                rw [h1] at hrs
                simp only [h1]
                rw [if_neg (by omega)]
                by_cases hh : ((mget hit (t : Int)).getD 0) = 1
                · have hp6 : redo_Play.p6 (simR jobs step hit t).1 (simR jobs step hit t).2.1 (b : Int) = some (.inl ((simR jobs step hit t).1.set b 0, (simR jobs step hit t).2.1.set b ((simR jobs step hit t).2.1.getD b 0 + (simR jobs step hit t).1.getD b 0))) := by
                    unfold redo_Play.p6
                    rw [if_pos (by omega), Int.toNat_natCast, get_of_lt hbl]
                    simp only [get_of_lt hbs]
                    rw [wrap64_small (by omega) (by omega)]
                  rw [if_pos hh, hp6]
                  have ht : tickR jobs step hit (t : Int) (simR jobs step hit t) = ((simR jobs step hit t).1.set b 0, (simR jobs step hit t).2.1.set b ((simR jobs step hit t).2.1.getD b 0 + (simR jobs step hit t).1.getD b 0), (simR jobs step hit t).2.2) := by
                    unfold tickR; simp only [h1, Int.toNat_natCast]; rw [if_neg (by omega), if_pos hh]
                  refine ⟨_, rfl, ⟨t + 1, by omega, rfl, ?_, ?_, hrs, ?_⟩, by simp only; omega⟩ <;> rw [hst, ht]
                · have hp7 : redo_Play.p7 (simR jobs step hit t).1 (simR jobs step hit t).2.1 (b : Int) = some (.inl ((simR jobs step hit t).1.set b ((simR jobs step hit t).1.getD b 0 + 1), (simR jobs step hit t).2.1.set b ((simR jobs step hit t).2.1.getD b 0 - 1))) := by
                    unfold redo_Play.p7
                    rw [if_pos (by omega), Int.toNat_natCast, get_of_lt hbl]
                    simp only [get_of_lt hbs]
                    rw [wrap64_small (n := (simR jobs step hit t).1.getD b 0 + 1) (by omega) (by omega), wrap64_small (n := (simR jobs step hit t).2.1.getD b 0 - 1) (by omega) (by omega)]
                  have g1 : ((simR jobs step hit t).1.set b ((simR jobs step hit t).1.getD b 0 + 1))[b]? = some ((simR jobs step hit t).1.getD b 0 + 1) := by simp [hbs]
                  have g2 : ((simR jobs step hit t).2.1.set b ((simR jobs step hit t).2.1.getD b 0 - 1))[b]? = some ((simR jobs step hit t).2.1.getD b 0 - 1) := by simp [hbl]
                  rw [if_neg hh, hp7]
                  simp only [if_pos (show (0 : Int) ≤ (b : Int) by omega), Int.toNat_natCast, g1, g2]
                  have ht : tickR jobs step hit (t : Int) (simR jobs step hit t) = (if (simR jobs step hit t).1.getD b 0 + 1 = step then ((simR jobs step hit t).1.set b ((simR jobs step hit t).1.getD b 0 + 1)).set b 0 else (simR jobs step hit t).1.set b ((simR jobs step hit t).1.getD b 0 + 1),
                      (simR jobs step hit t).2.1.set b ((simR jobs step hit t).2.1.getD b 0 - 1), if (simR jobs step hit t).2.1.getD b 0 - 1 = 0 then (simR jobs step hit t).2.2.set b ((t : Int) + 1) else (simR jobs step hit t).2.2) := by
                    unfold tickR; simp only [h1, Int.toNat_natCast]; rw [if_neg (by omega), if_neg hh]
                  by_cases hs1 : (simR jobs step hit t).1.getD b 0 + 1 = step
                  · rw [if_pos hs1]
                    rw [if_pos hs1] at ht
                    by_cases hs2 : (simR jobs step hit t).2.1.getD b 0 - 1 = 0
                    · rw [if_pos hs2, get_of_lt hbe]
                      rw [if_pos hs2] at ht
                      refine ⟨_, rfl, ⟨t + 1, by omega, rfl, ?_, ?_, hrs, ?_⟩, by simp only; omega⟩ <;> (rw [hst, ht] <;> rfl)
                    · rw [if_neg hs2]
                      rw [if_neg hs2] at ht
                      refine ⟨_, rfl, ⟨t + 1, by omega, rfl, ?_, ?_, hrs, ?_⟩, by simp only; omega⟩ <;> rw [hst, ht]
                  · rw [if_neg hs1]
                    rw [if_neg hs1] at ht
                    by_cases hs2 : (simR jobs step hit t).2.1.getD b 0 - 1 = 0
                    · rw [if_pos hs2, get_of_lt hbe]
                      rw [if_pos hs2] at ht
                      refine ⟨_, rfl, ⟨t + 1, by omega, rfl, ?_, ?_, hrs, ?_⟩, by simp only; omega⟩ <;> (rw [hst, ht] <;> rfl)
                    · rw [if_neg hs2]
                      rw [if_neg hs2] at ht
                      refine ⟨_, rfl, ⟨t + 1, by omega, rfl, ?_, ?_, hrs, ?_⟩, by simp only; omega⟩ <;> rw [hst, ht]
            · right
              obtain rfl : t = en := by omega
              refine ⟨_, by simp only [redo_Play.r5]; rw [if_neg (by omega)], rfl⟩) K (0, List.replicate jobs.length 0, jobs.map (·.C), List.replicate en 0, List.replicate jobs.length (-1)) ⟨0, Nat.zero_le _, rfl, rfl, rfl, by
          apply List.ext_getElem
          · simp [runsR]
          · intro i h1 h2; simp [runsR], rfl⟩ (by simp only; omega)
        rw [hr1]
        simp only [Int.toNat_natCast]
  · rw [if_neg hc, if_neg hc]
    rfl
theorem Anew_r5_eq (jobs : List SJob) (left ends : List Int) (hl : left.length = jobs.length) (he : ends.length = jobs.length) (hne : ∀ j, j < jobs.length → (ends.getD j 0 < 0 ↔ 0 < left.getD j 0)) (t : Int) (K : Nat) (hK : jobs.length + 5 ≤ K) : iter (punctualref_PlayAnew.r5 jobs t ends) K (-1, 0) = some (.inl (firstTo 1 jobs left t jobs.length)) := by
  have hr := iter_states (ρ := SPlayed × SFault) (f := punctualref_PlayAnew.r5 jobs t ends) (fun i => (firstTo 1 jobs left t i, i)) (fun _ => none) jobs.length (t := firstTo 1 jobs left t jobs.length) (fun i hi _ => by
    have hi' : (i : Int) < (jobs.length : Int) := by omega
    have h1 : jobs[i]? = some jobs[i] := List.getElem?_eq_getElem hi
    have h2 : left[i]? = some (left.getD i 0) := get_of_lt (by omega)
    have h3 : ends[i]? = some (ends.getD i 0) := get_of_lt (by omega)
    have hcan : canJ jobs left t i ↔ (jobs[i].At ≤ t ∧ 0 < left.getD i 0) := by unfold canJ; rw [h1, h2]
    have hn := hne i hi
    simp only [punctualref_PlayAnew.r5, if_pos hi', h1, h3, onwardS]
    by_cases hc : canJ jobs left t i
    · obtain ⟨c1, c2⟩ := hcan.1 hc
      rw [if_pos c1, if_pos (hn.2 c2)]
      rcases firstTo_cases 1 jobs left t i (by omega) with ⟨g1, _⟩ | ⟨b, y, g1, g2, g3, _, _⟩
      · rw [g1, if_pos (by omega)]
        simp only [firstTo, if_pos hc, g1]
        rfl
      · rw [g1, if_neg (by omega), Goes_eq 1 (.inl rfl) jobs i b hi (by omega)]
        have e1 : firstTo 1 jobs left t (i + 1) = if aheadJ 1 jobs[i] y then (i : Int) else (b : Int) := by
          simp only [firstTo, if_pos hc, g1, Int.toNat_natCast, h1, g3]
          rw [if_neg (by omega)]
        have e2 : ltJ 1 jobs i b ↔ aheadJ 1 jobs[i] y := by
          rw [ltJ_iff h1 g3]
          exact ⟨fun h => h.resolve_right (fun h => by omega), .inl⟩
        rw [e1]
        simp only [decide_eq_true_eq, e2]
        split <;> rfl
    · have e1 : firstTo 1 jobs left t (i + 1) = firstTo 1 jobs left t i := by simp only [firstTo, if_neg hc]
      rw [e1]
      by_cases c1 : jobs[i].At ≤ t
      · rw [if_pos c1, if_neg (fun h => hc (hcan.2 ⟨c1, hn.1 h⟩))]
      · rw [if_neg c1]) (fun _ => by simp [punctualref_PlayAnew.r5]) (K := K) (by omega)
  rw [firstOf_none_of (fun _ _ _ => rfl)] at hr
  exact hr
theorem faults_rise {l : List Int} (h : ∀ i, i < l.length → faultAt l i = none) : ∀ (i j : Nat) (a b : Int), i < j → l[i]? = some a → l[j]? = some b → a < b := by
  have step : ∀ (i : Nat) (a b : Int), l[i]? = some a → l[i + 1]? = some b → a < b := fun i a b ha hb => by
    have := h (i + 1) (lt_of_get hb)
    unfold faultAt at this
    rw [hb, Nat.add_sub_cancel, ha] at this
    simp only at this
    split at this
    · cases this
    · omega
  intro i j a b hij ha hb
  obtain ⟨d, rfl⟩ : ∃ d, j = i + 1 + d := ⟨j - (i + 1), by omega⟩
  clear hij
  induction d generalizing b with
  | zero => exact step i a b ha hb
  | succ d ih =>
    have hx : l[i + 1 + d]? = some (l[i + 1 + d]'(by have := lt_of_get hb; omega)) := List.getElem?_eq_getElem _
    have h1 := ih _ hx
    have h2 := step (i + 1 + d) _ b hx hb
    omega
/-- what stays the same in the document's play -/
structure AnewOk (jobs : List SJob) (safe : List Int) (s : List Int × List Int × List Int) : Prop where
  len : safe.length = jobs.length
  all : ∀ j e, jobs[j]? = some e → safe.getD j 0 + s.1.getD j 0 + s.2.1.getD j 0 = e.C
  ends : ∀ j, j < jobs.length → (s.2.2.getD j 0 < 0 ↔ 0 < s.2.1.getD j 0)
theorem Anew_tick (jobs : List SJob) (hj : ∀ e ∈ jobs, Okj e) (hjl : jobs.length ≤ 4000) (step : Int) (hs : 0 ≤ step) (faults : List Int) (hfl : faults.length ≤ 4000) (hf : ∀ i, i < faults.length → faultAt faults i = none) (en t : Nat) (hte : t < en) (hen : en ≤ 20000) (safe runs : List Int) (hr : runs.length = t) (K : Nat) (hK : 20100 ≤ K)
    (hA : AnewOk jobs safe (simR jobs step (hitsTill faults faults.length) t)) :
    ∃ safe', punctualref_PlayAnew.r4 K jobs step faults (en : Int) ((t : Int), safe, (simR jobs step (hitsTill faults faults.length) t).1, runs, (simR jobs step (hitsTill faults faults.length) t).2.2) =
      some (.inl (((t + 1 : Nat) : Int), safe', (simR jobs step (hitsTill faults faults.length) (t + 1)).1, runs ++ [runR jobs step (hitsTill faults faults.length) t], (simR jobs step (hitsTill faults faults.length) (t + 1)).2.2)) ∧
      AnewOk jobs safe' (simR jobs step (hitsTill faults faults.length) (t + 1)) := by
  have hhit := hits_iff faults (t : Int) faults.length
  generalize hhd : hitsTill faults faults.length = hit at hA hhit ⊢
  have hok := simR_ok hj hs hit t
  have hst : simR jobs step hit (t + 1) = tickR jobs step hit (t : Int) (simR jobs step hit t) := rfl
  have hw : IntKind.i64.wrap ((t : Int) + 1) = ((t + 1 : Nat) : Int) := by rw [wrap64_small (by omega) (by omega)]; rfl
  have h5 := Anew_r5_eq jobs (simR jobs step hit t).2.1 (simR jobs step hit t).2.2 hok.left hok.ends hA.ends (t : Int) K (by omega)
  simp only [punctualref_PlayAnew.r4, if_pos (show (t : Int) < (en : Int) by omega), h5, if_pos (show runs.length < 17592186044416 by omega), hw, runR]
  rcases firstR jobs (simR jobs step hit t).2.1 (t : Int) hok.left with ⟨h1, _⟩ | ⟨b, y, h1, h2, h3, h4, _⟩
  · simp only [h1]
    rw [if_pos (by omega)]
    have ht : tickR jobs step hit (t : Int) (simR jobs step hit t) = simR jobs step hit t := by
      unfold tickR; simp only [h1]; rw [if_pos (by omega)]
    refine ⟨safe, ?_, by rw [hst, ht]; exact hA⟩
    rw [hst, ht]
  · have hb := lt_of_get h2
    generalize hsim : simR jobs step hit t = s at *
    obtain ⟨since, left, ends⟩ := s
    have hbs : b < since.length := by rw [hok.since]; exact hb
    have hbl : b < left.length := by rw [hok.left]; exact hb
    have hbe : b < ends.length := by rw [hok.ends]; exact hb
    have hbf : b < safe.length := by rw [hA.len]; exact hb
    obtain ⟨k1, k2, k3, k4⟩ := hok.each b y h2
    have hall := hA.all b y h2
    have hC := (hj y (List.mem_of_getElem? h2)).C
    simp only at k1 k2 k3 k4 hall h4 h1 ⊢
    obtain ⟨z, hz1, hz2, hz3⟩ := Search_eq faults (t : Int) (by omega) (faults_rise hf) K (by omega)
    have hzh : faults[z]? = some (t : Int) ↔ (mget hit (t : Int)).getD 0 = 1 := hz3.trans hhit.symm
    simp only [h1]
    rw [if_neg (by omega)]
    simp only [hz1, Int.toNat_natCast, if_pos (show (0 : Int) ≤ (z : Int) by omega), if_pos (show (0 : Int) ≤ (b : Int) by omega)]
    have e1 := get_of_lt hbs
    have e2 := get_of_lt hbf
    have e3 := get_of_lt hbe
    by_cases hh : (mget hit (t : Int)).getD 0 = 1
    · have hzt := hzh.2 hh
      rw [if_pos (by have := lt_of_get hzt; omega), hzt]
      simp only [if_true, e1]
      have ht : tickR jobs step hit (t : Int) (since, left, ends) = (since.set b 0, left.set b (left.getD b 0 + since.getD b 0), ends) := by
        unfold tickR; simp only [h1, Int.toNat_natCast]; rw [if_neg (by omega), if_pos hh]
      refine ⟨safe, by rw [hst, ht], ?_⟩
      rw [hst, ht]
      refine ⟨hA.len, fun j e he => ?_, fun j hj' => ?_⟩
      · simp only
        rw [getD_set _ _ _ _ hbs, getD_set _ _ _ _ hbl]
        have := hA.all j e he
        simp only at this
        by_cases hbj : b = j
        · subst hbj; rw [if_pos rfl, if_pos rfl]; omega
        · rw [if_neg hbj, if_neg hbj]; exact this
      · simp only
        rw [getD_set _ _ _ _ hbl]
        have := hA.ends j hj'
        simp only at this
        by_cases hbj : b = j
        · subst hbj; rw [if_pos rfl]; omega
        · rw [if_neg hbj]; exact this
    · have g1 : (since.set b (since.getD b 0 + 1))[b]? = some (since.getD b 0 + 1) := by simp [hbs]
      have hw1 : IntKind.i64.wrap (since.getD b 0 + 1) = since.getD b 0 + 1 := wrap64_small (by omega) (by omega)
      have hw2 : IntKind.i64.wrap (safe.getD b 0 + (since.getD b 0 + 1)) = safe.getD b 0 + (since.getD b 0 + 1) := wrap64_small (by omega) (by omega)
      have ht : tickR jobs step hit (t : Int) (since, left, ends) = (if since.getD b 0 + 1 = step then (since.set b (since.getD b 0 + 1)).set b 0 else since.set b (since.getD b 0 + 1), left.set b (left.getD b 0 - 1), if left.getD b 0 - 1 = 0 then ends.set b ((t : Int) + 1) else ends) := by
        unfold tickR; simp only [h1, Int.toNat_natCast]; rw [if_neg (by omega), if_neg hh]
      have hdone : safe.getD b 0 + (since.getD b 0 + 1) = y.C ↔ left.getD b 0 - 1 = 0 := by omega
      have hends : ∀ j, j < jobs.length → ((if left.getD b 0 - 1 = 0 then ends.set b ((t : Int) + 1) else ends).getD j 0 < 0 ↔ 0 < (left.set b (left.getD b 0 - 1)).getD j 0) := fun j hj' => by
        rw [getD_set _ _ _ _ hbl]
        have h0 := hA.ends j hj'
        simp only at h0
        by_cases hbj : b = j
        · subst hbj
          rw [if_pos rfl]
          by_cases hl0 : left.getD b 0 - 1 = 0
          · rw [if_pos hl0, getD_set _ _ _ _ hbe, if_pos rfl]; omega
          · rw [if_neg hl0]; omega
        · rw [if_neg hbj]
          by_cases hl0 : left.getD b 0 - 1 = 0
          · rw [if_pos hl0, getD_set _ _ _ _ hbe, if_neg hbj]; exact h0
          · rw [if_neg hl0]; exact h0
      have main : (match since[b]? with
          | none => (none : Option ((Int × List Int × List Int × List Int × List Int) ⊕ ((List Int × List Int) ⊕ (SPlayed × SFault))))
          | some e8 => match safe[b]? with
            | none => none
            | some e9 => match (since.set b (IntKind.i64.wrap (e8 + 1)))[b]? with
              | none => none
              | some e10 => match jobs[b]? with
                | none => none
                | some e11 =>
                  if IntKind.i64.wrap (e9 + e10) = e11.C then
                    match ends[b]? with
                    | none => none
                    | some e12 =>
                      if e10 = step then some (.inl (((t + 1 : Nat) : Int), safe.set b (IntKind.i64.wrap (e9 + step)), (since.set b (IntKind.i64.wrap (e8 + 1))).set b 0, runs ++ [(b : Int)], ends.set b (((t + 1 : Nat) : Int))))
                      else some (.inl (((t + 1 : Nat) : Int), safe, since.set b (IntKind.i64.wrap (e8 + 1)), runs ++ [(b : Int)], ends.set b (((t + 1 : Nat) : Int))))
                  else
                    if e10 = step then some (.inl (((t + 1 : Nat) : Int), safe.set b (IntKind.i64.wrap (e9 + step)), (since.set b (IntKind.i64.wrap (e8 + 1))).set b 0, runs ++ [(b : Int)], ends))
                    else some (.inl (((t + 1 : Nat) : Int), safe, since.set b (IntKind.i64.wrap (e8 + 1)), runs ++ [(b : Int)], ends))) =
          some (.inl (((t + 1 : Nat) : Int), (if since.getD b 0 + 1 = step then safe.set b (safe.getD b 0 + step) else safe), (if since.getD b 0 + 1 = step then (since.set b (since.getD b 0 + 1)).set b 0 else since.set b (since.getD b 0 + 1)), runs ++ [(b : Int)], (if left.getD b 0 - 1 = 0 then ends.set b ((t : Int) + 1) else ends))) := by
        have hw3 : since.getD b 0 + 1 = step → IntKind.i64.wrap (safe.getD b 0 + step) = safe.getD b 0 + step := fun hs1 => wrap64_small (by omega) (by omega)
        simp only [e1, e2, hw1, g1, h2, hw2, e3]
        by_cases hd : left.getD b 0 - 1 = 0
        · rw [if_pos (hdone.2 hd), if_pos hd]
          by_cases hs1 : since.getD b 0 + 1 = step
          · rw [if_pos hs1, if_pos hs1, if_pos hs1, hw3 hs1]; rfl
          · rw [if_neg hs1, if_neg hs1, if_neg hs1]; rfl
        · rw [if_neg (fun h => hd (hdone.1 h)), if_neg hd]
          by_cases hs1 : since.getD b 0 + 1 = step
          · rw [if_pos hs1, if_pos hs1, if_pos hs1, hw3 hs1]
          · rw [if_neg hs1, if_neg hs1, if_neg hs1]
      refine ⟨if since.getD b 0 + 1 = step then safe.set b (safe.getD b 0 + step) else safe, ?_, ?_⟩
      · rw [hst, ht]
        by_cases hzl : z < faults.length
        · have hx : faults[z]? = some faults[z] := List.getElem?_eq_getElem hzl
          rw [if_pos (by omega), hx]
          simp only
          rw [if_neg (fun h => hh (hzh.1 (by rw [hx, h])))]
          exact main
        · rw [if_neg (by omega)]
          exact main
      · rw [hst, ht]
        refine ⟨by split <;> simp [hA.len], fun j e he => ?_, hends⟩
        simp only
        rw [getD_set _ _ _ _ hbl]
        have h0 := hA.all j e he
        simp only at h0
        by_cases hs1 : since.getD b 0 + 1 = step
        · rw [if_pos hs1, if_pos hs1, getD_set _ _ _ _ hbf, getD_set _ _ _ _ (by simp; exact hbs), getD_set _ _ _ _ hbs]
          by_cases hbj : b = j
          · subst hbj; rw [if_pos rfl, if_pos rfl, if_pos rfl]; omega
          · rw [if_neg hbj, if_neg hbj, if_neg hbj, if_neg hbj]; exact h0
        · rw [if_neg hs1, if_neg hs1, getD_set _ _ _ _ hbs]
          by_cases hbj : b = j
          · subst hbj; rw [if_pos rfl, if_pos rfl]; omega
          · rw [if_neg hbj, if_neg hbj]; exact h0
theorem Anew_r1_eq (faults : List Int) (hfl : faults.length ≤ 4000) (K : Nat) (hK : 4010 ≤ K) : iter (punctualref_PlayAnew.r1 faults) K 1 = some (leave () ((firstOf (faultAt faults) faults.length 0).map fun f => ((⟨[], []⟩ : SPlayed), f))) := by
  have hfirst : ∀ n, firstOf (faultAt faults) n 0 = firstOf (faultAt faults) n 1 := fun n => by
    by_cases hn : n = 0
    · subst hn; rfl
    have h0 : faultAt faults 0 = none := by
      unfold faultAt
      split
      · rw [if_neg (by omega)]
      · rfl
    unfold firstOf
    rw [Nat.sub_zero, show n = (n - 1) + 1 by omega, List.range'_succ, List.findSome?_cons, h0]
    simp
  have key : ∀ (d i K : Nat), i + d = faults.length ∨ (faults.length < i ∧ d = 0) → 1 ≤ i → d < K → iter (punctualref_PlayAnew.r1 faults) K (i : Int) = some (leave () ((firstOf (faultAt faults) faults.length i).map fun f => ((⟨[], []⟩ : SPlayed), f))) := by
    intro d
    induction d with
    | zero =>
      intro i K hi h1 hK
      obtain ⟨K, rfl⟩ : ∃ k, K = k + 1 := ⟨K - 1, by omega⟩
      have hnone : firstOf (faultAt faults) faults.length i = none := firstOf_none_of (fun j h1 h2 => by omega)
      rw [iter_succ, hnone]
      simp only [punctualref_PlayAnew.r1]
      rw [if_neg (by omega)]
      rfl
    | succ d ih =>
      intro i K hi h1 hK
      obtain ⟨K, rfl⟩ : ∃ k, K = k + 1 := ⟨K - 1, by omega⟩
      have hil : i < faults.length := by omega
      have hx : faults[i]? = some faults[i] := List.getElem?_eq_getElem hil
      have hy : faults[i - 1]? = some (faults[i - 1]'(by omega)) := List.getElem?_eq_getElem _
      have hw : IntKind.i64.wrap ((i : Int) - 1) = ((i - 1 : Nat) : Int) := by rw [wrap64_small (by omega) (by omega)]; omega
      have hw1 : IntKind.i64.wrap ((i : Int) + 1) = ((i + 1 : Nat) : Int) := by rw [wrap64_small (by omega) (by omega)]; rfl
      have hstep : firstOf (faultAt faults) faults.length i = match faultAt faults i with | some f => some f | none => firstOf (faultAt faults) faults.length (i + 1) := by
        unfold firstOf
        rw [show faults.length - i = (faults.length - (i + 1)) + 1 by omega, List.range'_succ, List.findSome?_cons]
        cases faultAt faults i <;> rfl
      rw [iter_succ, hstep]
      simp only [punctualref_PlayAnew.r1, if_pos (show (i : Int) < (faults.length : Int) by omega), if_pos (show (0 : Int) ≤ (i : Int) by omega), Int.toNat_natCast, hx, hw, if_pos (show (0 : Int) ≤ ((i - 1 : Nat) : Int) by omega), hy, hw1]
      by_cases hle : faults[i] ≤ faults[i - 1]
      · have hf : faultAt faults i = some ⟨12, i⟩ := by unfold faultAt; rw [hx, hy]; simp only; rw [if_pos ⟨h1, hle⟩]
        rw [if_pos hle, hf]
        rfl
      · have hf : faultAt faults i = none := by unfold faultAt; rw [hx, hy]; simp only; rw [if_neg (fun h => hle h.2)]
        rw [if_neg hle, hf]
        exact ih (i + 1) K (by omega) (by omega) (by omega)
  rw [hfirst]
  exact key (faults.length - 1) 1 K (by omega) (Nat.le_refl _) (by omega)
theorem PlayAnew_eq (jobs : List SJob) (step : Int) (faults : List Int) (n : Int) (K : Nat) (hK : 20100 ≤ K) : punctualref_PlayAnew.f K jobs step faults n = some (redoOf jobs step faults n) := by
  unfold punctualref_PlayAnew.f redoOf
  rw [CheckJobs_eq jobs K (by omega)]
  simp only
  by_cases hc : (playFault jobs).Code = 0
  · rw [if_pos hc, if_pos hc]
    obtain ⟨hl, _, hj⟩ := playFault_ok hc
    by_cases hr : step < 0 ∨ step > 10000 ∨ n < 0 ∨ n > 20000
    · have hp0 : punctualref_PlayAnew.p0 step n = some (.inr (⟨[], []⟩, ⟨3, 0⟩)) := by
        unfold punctualref_PlayAnew.p0
        repeat' split
        all_goals first | rfl | omega
      rw [hp0, if_pos hr]
    have hp0 : punctualref_PlayAnew.p0 step n = some (.inl ()) := by
      unfold punctualref_PlayAnew.p0
      rw [if_neg (by omega), if_neg (by omega), if_neg (by omega), if_neg (by omega)]
    rw [hp0, if_neg hr]
    simp only
    by_cases hmany : (faults.length : Int) > 4000
    · rw [if_pos hmany, if_pos hmany]; rfl
    rw [if_neg hmany, if_neg hmany, Anew_r1_eq faults (by omega) K (by omega)]
    cases hf : firstOf (faultAt faults) faults.length 0 with
    | some f => rfl
    | none =>
      simp only [Option.map_none, leave]
      have hfn : ∀ i, i < faults.length → faultAt faults i = none := fun i hi => firstOf_none hf i (Nat.zero_le _) hi
      have hp2 : punctualref_PlayAnew.p2 jobs = some (.inl (List.replicate jobs.length 0, List.replicate jobs.length 0)) := by
        unfold punctualref_PlayAnew.p2
        rw [if_pos (by omega)]
      rw [hp2]
      simp only
      rw [if_pos (by omega)]
      have hr3 := iter_rel (ρ := SPlayed × SFault) (f := punctualref_PlayAnew.r3 jobs) (fun i s => s.1 = i ∧ s.2.length = jobs.length ∧ ∀ q, q < i → s.2[q]? = some (-1)) (fun r => r = List.replicate jobs.length (-1)) jobs.length (fun i s hi hR => by
        obtain ⟨i1, m1⟩ := s
        obtain ⟨rfl, h1, h2⟩ := hR
        simp only at hi h1 h2 ⊢
        have hi' : (i1 : Int) < (jobs.length : Int) := by omega
        have hy : m1[i1]? = some (m1.getD i1 0) := get_of_lt (by omega)
        simp only [punctualref_PlayAnew.r3, if_pos hi', hy]
        refine ⟨_, rfl, rfl, by simp [h1], fun q hq => ?_⟩
        simp only [List.getElem?_set]
        by_cases hqi : i1 = q
        · subst hqi; rw [if_pos rfl, if_pos (by omega)]
        · rw [if_neg hqi]; exact h2 q (by omega)) (fun s hR => by
        obtain ⟨i1, m1⟩ := s
        obtain ⟨rfl, h1, h2⟩ := hR
        simp only at h1 h2
        refine ⟨m1, by simp [punctualref_PlayAnew.r3], ?_⟩
        apply List.ext_getElem?
        intro q
        by_cases hq : q < jobs.length
        · rw [h2 q hq]; simp [hq]
        · rw [List.getElem?_eq_none (show m1.length ≤ q by omega), List.getElem?_eq_none (by simp; omega)]) (K := K) (by omega) (s := (0, List.replicate jobs.length 0)) ⟨rfl, by simp, fun q hq => by omega⟩
      obtain ⟨_, h3, rfl⟩ := hr3
      rw [h3]
      simp only
      obtain ⟨en, rfl⟩ := Int.eq_ofNat_of_zero_le (show 0 ≤ n by omega)
      have hr4 := iter_rel (ρ := SPlayed × SFault) (f := punctualref_PlayAnew.r4 K jobs step faults (en : Int)) (fun t s => s.1 = (t : Int) ∧ s.2.2.1 = (simR jobs step (hitsTill faults faults.length) t).1 ∧ s.2.2.2.1 = (List.range t).map (runR jobs step (hitsTill faults faults.length)) ∧ s.2.2.2.2 = (simR jobs step (hitsTill faults faults.length) t).2.2 ∧ AnewOk jobs s.2.1 (simR jobs step (hitsTill faults faults.length) t))
        (fun r => r = ((List.range en).map (runR jobs step (hitsTill faults faults.length)), (simR jobs step (hitsTill faults faults.length) en).2.2)) en (fun t s ht hR => by
        obtain ⟨z, safe, m9, m10, m11⟩ := s
        obtain ⟨rfl, rfl, rfl, rfl, hA⟩ := hR
        simp only at hA ⊢
        obtain ⟨safe', e1, e2⟩ := Anew_tick jobs hj hl step (by omega) faults (by omega) hfn en t ht (by omega) safe ((List.range t).map (runR jobs step (hitsTill faults faults.length))) (by simp) K hK hA
        exact ⟨_, e1, rfl, rfl, by simp [List.range_succ], rfl, e2⟩) (fun s hR => by
        obtain ⟨z, safe, m9, m10, m11⟩ := s
        obtain ⟨rfl, rfl, rfl, rfl, hA⟩ := hR
        exact ⟨_, by simp [punctualref_PlayAnew.r4], rfl⟩) (K := K) (by omega) (s := (0, List.replicate jobs.length 0, List.replicate jobs.length 0, [], List.replicate jobs.length (-1))) ⟨rfl, rfl, rfl, rfl, by simp, fun j e he => by
          have hlt := lt_of_get he
          have e1 : (List.replicate jobs.length (0 : Int)).getD j 0 = 0 := by simp [List.getD, hlt]
          have e2 : (jobs.map (·.C)).getD j 0 = e.C := by simp [List.getD, he]
          simp only [simR]
          rw [e1, e2]; omega, fun j hjl => by
          have he : jobs[j]? = some jobs[j] := List.getElem?_eq_getElem hjl
          have e1 : (List.replicate jobs.length (-1 : Int)).getD j 0 = -1 := by simp [List.getD, hjl]
          have e2 : (jobs.map (·.C)).getD j 0 = jobs[j].C := by simp [List.getD, he]
          have hC := (hj _ (List.mem_of_getElem? he)).C
          simp only [simR]
          rw [e1, e2]; omega⟩
      obtain ⟨_, h4, rfl⟩ := hr4
      rw [h4]
      simp only [Int.toNat_natCast]
      have e : (List.range en).map (runR jobs step (hitsTill faults faults.length)) = runsR jobs step (hitsTill faults faults.length) en en := by
        unfold runsR
        apply List.map_congr_left
        intro s hs
        have hs' : s < en := by simpa using hs
        rw [if_pos hs']
      rw [e]
  · rw [if_neg hc, if_neg hc]
    rfl

theorem redoOf_len (jobs : List SJob) (step : Int) (faults : List Int) (n : Int) : (redoOf jobs step faults n).1.Runs.length ≤ 20000 ∧ (redoOf jobs step faults n).1.Ends.length ≤ 4000 := by
  unfold redoOf
  split
  · rename_i hc
    obtain ⟨hl, _, hj⟩ := playFault_ok hc
    split
    · simp
    · split
      · simp
      · split
        · simp
        · rename_i h1 _ _ _
          refine ⟨by simp only [runsR_len]; omega, ?_⟩
          simp only
          rw [(simR_ok hj (show 0 ≤ step by omega) _ n.toNat).ends]
          exact hl
  · simp
theorem RedoPlays_law (l0 : List SJob) (x1 : Int) (l2 : List Int) (x3 : Int) (ok0 : ∀ y ∈ l0, Ok.ok y) (ok1 : In64 x1) (ok2 : ∀ y ∈ l2, Ok.ok y) (ok3 : In64 x3) : ∃ K, RedoPlays.f K l0 x1 l2 x3 = some true := by
  refine ⟨18446744073709551616, ?_⟩
  have ha : anew.f 18446744073709551616 = some true := by kernel_rfl
  generalize hKd : 18446744073709551616 = K at ha ⊢
  have hK : 30000 ≤ K := by omega
  unfold RedoPlays.f
  rw [ha]
  simp only [if_true]
  by_cases hf : few.f (l0.length : Int) = true ∧ few.f (l2.length : Int) = true ∧ small.f (l0.length : Int) x3 = true
  · obtain ⟨f0, f1, f2⟩ := hf
    have hp0 : RedoPlays.p0 l0 l2 x3 = some (.inl ()) := by unfold RedoPlays.p0; rw [if_pos f0, if_pos f1, if_pos f2]
    have g0 := few_true f0
    have g1 := few_true f1
    obtain ⟨r0, e0⟩ := punctualsame_Lend_api_Job_some l0 ⟨(-9), 0, 0, 0, 0⟩ g0
    obtain ⟨r1, e1⟩ := punctualsame_Lend_int_some l2 (-9) g1
    obtain ⟨q1, q2⟩ := redoOf_len l0 x1 l2 x3
    have hr := iter_first0 (f := RedoPlays.r1 K l0 x1 l2 x3 (redoOf l0 x1 l2 x3)) (fun _ => none) 2 (t := ()) (fun i hi => by
      have hi' : (i : Int) < 2 := by omega
      simp only [RedoPlays.r1, if_pos hi', redoPlay_full l0 x1 l2 x3 K (by omega), SFault.eqb_self, if_true, punctualsame_Played.f, punctualsame_Same_int_self _ K (show (redoOf l0 x1 l2 x3).1.Runs.length < K by omega), punctualsame_Same_int_self _ K (show (redoOf l0 x1 l2 x3).1.Ends.length < K by omega), punctualsame_Still_api_Job_true l0 _ K g0 (by omega), punctualsame_Still_int_true l2 _ K g1 (by omega), onward]) (by simp [RedoPlays.r1]) (K := K) (by omega)
    rw [firstOf_none_of (fun _ _ _ => rfl)] at hr
    simp only [hp0, PlayAnew_eq l0 x1 l2 x3 K (by omega), e0, e1, hr, leave]
  · have hp0 : RedoPlays.p0 l0 l2 x3 = some (.inr true) := by
      unfold RedoPlays.p0
      repeat' split
      all_goals first | rfl | (exfalso; exact hf ⟨by assumption, by assumption, by assumption⟩)
    simp only [hp0]

end Go.Proofs.YtcogbnkioobmkaaDoor.GV
