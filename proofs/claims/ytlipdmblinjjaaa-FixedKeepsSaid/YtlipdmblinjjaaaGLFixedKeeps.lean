/- Plain words: GvLFixedKeeps. -/
import Derived.Test.YtlipdmblinjjaaaGWFixedKeeps3
import Derived.Test.YtlipdmblinjjaaaGv17
namespace Go.Proofs.Ytlipdmblinjjaaa.GV
open Go Go.RowKit
set_option linter.unusedVariables false
set_option linter.unusedSimpArgs false
theorem STask.eqb_self (x : STask) : STask.eqb x x = true := by simp [STask.eqb]
theorem SFault.eqb_self (x : SFault) : SFault.eqb x x = true := by simp [SFault.eqb]
theorem SJob.eqb_self (x : SJob) : SJob.eqb x x = true := by simp [SJob.eqb]
theorem SCome.eqb_self (x : SCome) : SCome.eqb x x = true := by simp [SCome.eqb]
theorem punctualsame_Same_int_self (l : List Int) (K : Nat) (hK : l.length < K) : punctualsame_Same_int.f K l l = some true := by
  have hr := iter_first0 (f := punctualsame_Same_int.r0 l l) (fun _ => none) l.length (t := ()) (fun i hi => by
    have h' : (i : Int) < (l.length : Int) := by omega
    simp only [punctualsame_Same_int.r0, if_pos h', List.getElem?_eq_getElem hi, if_true, onward]) (by
    have h' : ¬ (l.length : Int) < (l.length : Int) := by omega
    simp only [punctualsame_Same_int.r0, if_neg h']) hK
  rw [firstOf_none_of (fun _ _ _ => rfl)] at hr
  simp only [punctualsame_Same_int.f, if_true, hr, leave]
theorem few_true {n : Nat} (h : few.f (n : Int) = true) : n ≤ 5000 := by
  simp only [few.f, decide_eq_true_eq] at h; omega
theorem few_false {n : Nat} (h : ¬ few.f (n : Int) = true) : 5000 < n := by
  simp only [few.f, decide_eq_true_eq] at h; omega
theorem exists_bound {α : Type} (f : α → Nat) : ∀ l : List α, ∃ B, ∀ x ∈ l, f x ≤ B
  | [] => ⟨0, by simp⟩
  | x :: l => by
    obtain ⟨B, h⟩ := exists_bound f l
    refine ⟨max (f x) B, fun y hy => ?_⟩
    rcases List.mem_cons.1 hy with rfl | hy
    · exact Nat.le_max_left _ _
    · exact Nat.le_trans (h y hy) (Nat.le_max_right _ _)
/-- a letter stands there -/
def letterAt (x : ByteArray) (i : Nat) : Bool := match x[i]? with | some b => decide (97 ≤ b.toNat) && decide (b.toNat ≤ 122) | none => false
def allL (x : ByteArray) (n : Nat) : Bool := (List.range n).all (letterAt x)
theorem allL_succ (x : ByteArray) (n : Nat) : allL x (n + 1) = (allL x n && letterAt x n) := by simp [allL, List.range_succ]
theorem allL_iff {x : ByteArray} {n : Nat} : allL x n = true ↔ ∀ i, i < n → letterAt x i = true := by simp [allL]
def Good (x : ByteArray) : Prop := 1 ≤ x.size ∧ x.size ≤ 10 ∧ allL x x.size = true
instance (x : ByteArray) : Decidable (Good x) := by unfold Good; infer_instance
theorem get!_of {x : ByteArray} {i : Nat} {b : UInt8} (h : x[i]? = some b) : x.get! i = b := by
  have hi : i < x.size := by
    rcases Nat.lt_or_ge i x.size with h' | h'
    · exact h'
    · rw [getElem?_neg x i (by omega)] at h; cases h
  rw [getElem?_pos x i hi] at h
  have := Option.some.inj h
  rw [← this]
  cases x with
  | mk bs => exact getElem!_pos bs i hi
theorem byte_some {x : ByteArray} {i : Nat} (h : i < x.size) : ∃ b, x[i]? = some b := ⟨x[i], getElem?_pos x i h⟩
theorem decode_letter {x : ByteArray} {i : Nat} (hi : i < x.size) (h : letterAt x i = true) : ∃ n : Nat, Utf8.decode x i = (n, 1) ∧ 97 ≤ n ∧ n ≤ 122 := by
  obtain ⟨b, hb⟩ := byte_some hi
  simp only [letterAt, hb, Bool.and_eq_true, decide_eq_true_eq] at h
  refine ⟨b.toNat, ?_, h⟩
  have := get!_of hb
  simp only [Utf8.decode, Nat.add_zero, this]
  rw [if_pos (by omega)]
theorem decode_other {x : ByteArray} {i : Nat} (hi : i < x.size) (h : letterAt x i = false) : (Utf8.decode x i).1 < 97 ∨ 122 < (Utf8.decode x i).1 := by
  obtain ⟨b, hb⟩ := byte_some hi
  simp only [letterAt, hb, Bool.and_eq_false_iff, decide_eq_false_iff_not] at h
  have := get!_of hb
  simp only [Utf8.decode, Nat.add_zero, this]
  have he : Utf8.runeError = 65533 := rfl
  repeat' split
  all_goals simp only [he, Bool.and_eq_true, decide_eq_true_eq, ge_iff_le] at *
  all_goals omega
theorem isName_eq (x : ByteArray) (K : Nat) (hK : 12 ≤ K) : tasks_isName.f K x = some (decide (Good x)) := by
  unfold tasks_isName.f
  by_cases h1 : (x.size : Int) < 1
  · rw [if_pos h1]; congr 1; symm; rw [decide_eq_false_iff_not]; intro h; have := h.1; omega
  rw [if_neg h1]
  by_cases h2 : (x.size : Int) > 10
  · rw [if_pos h2]; congr 1; symm; rw [decide_eq_false_iff_not]; intro h; have := h.2.1; omega
  rw [if_neg h2]
  have hr := iter_first0 (f := tasks_isName.r0 x) (fun i => if letterAt x i = true then none else some false) x.size (t := ()) (fun i hi => by
    simp only [tasks_isName.r0, if_pos hi]
    by_cases h : letterAt x i = true
    · obtain ⟨n, hd, ha, hb⟩ := decode_letter hi h
      simp only [hd, h, if_true]
      rw [if_neg (by omega), if_neg (by omega)]; rfl
    · simp only [h]
      rcases decode_other hi (by simpa using h) with h | h
      · rw [if_pos (by omega)]; simp [onward]
      · rw [if_neg (by omega), if_pos (by omega)]; simp [onward]) (by simp [tasks_isName.r0]) (K := K) (by omega)
  rw [hr]
  cases hf : firstOf (fun i => if letterAt x i = true then none else some false) x.size 0 with
  | none =>
    show some true = some _
    congr 1; symm
    rw [decide_eq_true_eq]
    refine ⟨by omega, by omega, allL_iff.2 fun i hi => ?_⟩
    have := firstOf_none hf i (Nat.zero_le _) hi
    split at this
    · assumption
    · cases this
  | some r =>
    obtain ⟨j, _, hj, hg, _⟩ := firstOf_some hf
    split at hg
    · cases hg
    · rename_i hn
      cases hg
      show some false = some _
      congr 1; symm
      rw [decide_eq_false_iff_not]
      intro h
      exact hn (allL_iff.1 h.2.2 j hj)
/-- the first of those ahead that bears the name -/
def dupAt (l : List STask) (i : Nat) (t : STask) : Prop := ∃ j e, j < i ∧ l[j]? = some e ∧ e.Name.toList = t.Name.toList
noncomputable instance (l : List STask) (i : Nat) (t : STask) : Decidable (dupAt l i t) := Classical.propDecidable _
theorem takedrop {α : Type} (l : List α) (i : Nat) : (l.take i).drop 0 = l.take i := by simp
theorem contains_eq (l : List STask) (i : Nat) (hi : i < l.length) (t : STask) (K : Nat) (hK : i < K) : slices_ContainsFunc_api_Task_api_Task.f K ((l.take i).drop 0) t = some (decide (dupAt l i t)) := by
  rw [takedrop]
  have hlen : (l.take i).length = i := by simp; omega
  let g : Nat → Option Int := fun j => match l[j]? with | some e => if e.Name.toList = t.Name.toList then some (j : Int) else none | none => none
  have hr := iter_first0 (f := slices_IndexFunc_api_Task_api_Task.r0 (l.take i) t) g i (t := ()) (fun j hj => by
    have hj' : (j : Int) < ((l.take i).length : Int) := by omega
    have hjl : j < l.length := by omega
    simp only [slices_IndexFunc_api_Task_api_Task.r0, if_pos hj', List.getElem?_take, if_pos hj, List.getElem?_eq_getElem hjl, g, tasks_Check_1.f, beq_iff_eq]
    split <;> rfl) (by
    have : ¬ (i : Int) < ((l.take i).length : Int) := by omega
    simp only [slices_IndexFunc_api_Task_api_Task.r0, if_neg this]) (K := K) hK
  unfold slices_ContainsFunc_api_Task_api_Task.f slices_IndexFunc_api_Task_api_Task.f
  rw [hr]
  cases hf : firstOf g i 0 with
  | none =>
    show some (decide ((-1 : Int) ≥ 0)) = _
    congr 1
    have : ¬ dupAt l i t := by
      rintro ⟨j, e, hj, he, hn⟩
      have := firstOf_none hf j (Nat.zero_le _) hj
      simp only [g, he, if_pos hn] at this
      cases this
    simp [this]
  | some r =>
    show some (decide (r ≥ 0)) = _
    obtain ⟨j, _, hj, hg, _⟩ := firstOf_some hf
    have hjl : j < l.length := by omega
    simp only [g, List.getElem?_eq_getElem hjl] at hg
    split at hg
    · rename_i hn
      cases hg
      have : dupAt l i t := ⟨j, l[j], hj, List.getElem?_eq_getElem hjl, hn⟩
      simp [this]
    · cases hg
theorem iter_succ {σ ρ : Type} (f : σ → Option (σ ⊕ ρ)) (K : Nat) (s : σ) : iter f (K + 1) s = match f s with | none => none | some (.inl s') => iter f K s' | some (.inr r) => some r := rfl
/-- a number lies out of its range -/
def rangeAt (i : Nat) (t : STask) (j : Nat) : Option SFault :=
  match ([t.C, t.T, t.D, t.J, t.O, t.P] : List Int)[j]? with
  | none => none
  | some v => match ([1, 1, 1, 0, 0, 0] : List Int)[j]? with
    | none => none
    | some a => if v < a then some ⟨3, (i : Int)⟩ else match ([10000, 10000, 10000, 10000, 10000, 1000] : List Int)[j]? with
      | none => none
      | some b => if v > b then some ⟨3, (i : Int)⟩ else none
theorem range_eq (i : Nat) (t : STask) (K : Nat) (hK : 7 ≤ K) : iter (tasks_Check.r2 i t) K 0 = some (leave () (firstOf (rangeAt i t) 6 0)) := by
  refine iter_first0 (f := tasks_Check.r2 i t) (rangeAt i t) 6 (t := ()) (fun j hj => ?_) (by simp [tasks_Check.r2, tasks_numbers.f]) (K := K) (by omega)
  have : j = 0 ∨ j = 1 ∨ j = 2 ∨ j = 3 ∨ j = 4 ∨ j = 5 := by omega
  rcases this with rfl | rfl | rfl | rfl | rfl | rfl <;> simp [tasks_Check.r2, tasks_numbers.f, tasks_bounds.f, rangeAt] <;> (repeat' split) <;> (try simp only [onward]) <;> first | rfl | contradiction | simp_all
/-- what is wrong with the i-th task -/
noncomputable def wrongAt (l : List STask) (i : Nat) : Option SFault :=
  match l[i]? with
  | none => none
  | some t => if Good t.Name then (if dupAt l i t then some ⟨5, (i : Int)⟩ else match firstOf (rangeAt i t) 6 0 with | some r => some r | none => if t.C > t.D then some ⟨12, (i : Int)⟩ else none) else some ⟨4, (i : Int)⟩
/-- what is wrong with a set -/
noncomputable def setFault (l : List STask) : SFault := if 1 ≤ l.length ∧ l.length ≤ 8 then (firstOf (wrongAt l) l.length 0).getD ⟨0, 0⟩ else ⟨2, 0⟩
theorem Check_eq (l : List STask) (K : Nat) (hK : 20 ≤ K) : tasks_Check.f K l = some (setFault l) := by
  unfold tasks_Check.f tasks_Check.p0 setFault
  by_cases h1 : (l.length : Int) < 1
  · rw [if_pos h1, if_neg (by omega)]
  rw [if_neg h1]
  by_cases h2 : (l.length : Int) > 8
  · rw [if_pos h2, if_neg (by omega)]
  rw [if_neg h2, if_pos (by omega)]
  have hr := iter_first0 (f := tasks_Check.r1 K l) (wrongAt l) l.length (t := ()) (fun i hi => by
    have hi' : (i : Int) < (l.length : Int) := by omega
    have hle : i ≤ l.length := by omega
    simp only [tasks_Check.r1, if_pos hi', List.getElem?_eq_getElem hi, isName_eq _ K (by omega), contains_eq l i hi _ K (by omega), range_eq i _ K (by omega), wrongAt, if_pos hle, decide_eq_true_eq]
    by_cases hg : Good l[i].Name
    · simp only [if_pos hg]
      by_cases hd : dupAt l i l[i]
      · simp only [if_pos hd, onward]
      · simp only [if_neg hd]
        cases firstOf (rangeAt i l[i]) 6 0 with
        | some r => rfl
        | none =>
          simp only [leave]
          split <;> rfl
    · simp only [if_neg hg, onward]) (by simp [tasks_Check.r1]) (K := K) (by omega)
  simp only [hr]
  cases firstOf (wrongAt l) l.length 0 <;> rfl
theorem setFault_ok {l : List STask} (h : (setFault l).Code = 0) : 1 ≤ l.length ∧ l.length ≤ 8 ∧ ∀ i t, l[i]? = some t → Good t.Name ∧ ¬ dupAt l i t ∧ (1 ≤ t.C ∧ t.C ≤ 10000) ∧ (1 ≤ t.T ∧ t.T ≤ 10000) ∧ (1 ≤ t.D ∧ t.D ≤ 10000) ∧ (0 ≤ t.J ∧ t.J ≤ 10000) ∧ (0 ≤ t.O ∧ t.O ≤ 10000) ∧ (0 ≤ t.P ∧ t.P ≤ 1000) ∧ t.C ≤ t.D := by
  unfold setFault at h
  split at h
  · rename_i hl
    refine ⟨hl.1, hl.2, fun i t ht => ?_⟩
    have hi := lt_of_get ht
    have hn : firstOf (wrongAt l) l.length 0 = none := by
      cases hf : firstOf (wrongAt l) l.length 0 with
      | none => rfl
      | some r =>
        rw [hf] at h
        obtain ⟨j, _, hj, hg, _⟩ := firstOf_some hf
        simp only [Option.getD_some] at h
        exfalso
        unfold wrongAt at hg
        rw [List.getElem?_eq_getElem hj] at hg
        simp only at hg
        split at hg
        · split at hg
          · cases hg; cases h
          · split at hg
            · rename_i r' hr'
              cases hg
              obtain ⟨q, _, hq, hg2, _⟩ := firstOf_some hr'
              unfold rangeAt at hg2
              repeat' split at hg2
              all_goals first | cases hg2; done | (cases hg2; cases h)
            · split at hg
              · cases hg; cases h
              · cases hg
        · cases hg; cases h
    have h0 := firstOf_none hn i (Nat.zero_le _) hi
    unfold wrongAt at h0
    rw [ht] at h0
    simp only at h0
    split at h0
    · rename_i hg
      split at h0
      · cases h0
      · rename_i hd
        split at h0
        · cases h0
        · rename_i hr
          split at h0
          · cases h0
          · rename_i hcd
            have hrr := firstOf_none hr
            have e0 := hrr 0 (by omega) (by omega)
            have e1 := hrr 1 (by omega) (by omega)
            have e2 := hrr 2 (by omega) (by omega)
            have e3 := hrr 3 (by omega) (by omega)
            have e4 := hrr 4 (by omega) (by omega)
            have e5 := hrr 5 (by omega) (by omega)
            simp only [rangeAt, List.getElem?_cons_zero, List.getElem?_cons_succ] at e0 e1 e2 e3 e4 e5
            refine ⟨hg, hd, ?_, ?_, ?_, ?_, ?_, ?_, by omega⟩
            · clear e1 e2 e3 e4 e5; split at e0; cases e0; split at e0; cases e0; omega
            · clear e0 e2 e3 e4 e5; split at e1; cases e1; split at e1; cases e1; omega
            · clear e1 e0 e3 e4 e5; split at e2; cases e2; split at e2; cases e2; omega
            · clear e1 e2 e0 e4 e5; split at e3; cases e3; split at e3; cases e3; omega
            · clear e1 e2 e3 e0 e5; split at e4; cases e4; split at e4; cases e4; omega
            · clear e1 e2 e3 e4 e0; split at e5; cases e5; split at e5; cases e5; omega
    · cases h0
  · cases h
theorem setFault_ok' {l : List STask} (h : (setFault l).Code = 0) : setFault l = ⟨0, 0⟩ := by
  unfold setFault at h ⊢
  split at h
  · rename_i hl
    rw [if_pos hl]
    cases hf : firstOf (wrongAt l) l.length 0 with
    | none => rfl
    | some r =>
      rw [hf] at h
      obtain ⟨j, _, hj, hg, _⟩ := firstOf_some hf
      simp only [Option.getD_some] at h
      exfalso
      unfold wrongAt at hg
      rw [List.getElem?_eq_getElem hj] at hg
      simp only at hg
      split at hg
      · split at hg
        · cases hg; cases h
        · split at hg
          · rename_i r' hr'
            cases hg
            obtain ⟨q, _, hq, hg2, _⟩ := firstOf_some hr'
            unfold rangeAt at hg2
            repeat' split at hg2
            all_goals first | cases hg2; done | (cases hg2; cases h)
          · split at hg
            · cases hg; cases h
            · cases hg
      · cases hg; cases h
  · cases h

/-- the last one ahead of i that is of task t -/
def lastOf (l : List SCome) (t : Int) : Nat → Option Nat
  | 0 => none
  | i + 1 => match l[i]? with
    | some c => if c.Task = t then some i else lastOf l t i
    | none => lastOf l t i
theorem lastOf_lt {l : List SCome} {t : Int} : ∀ {i k : Nat}, lastOf l t i = some k → k < i
  | 0, k, h => by cases h
  | i + 1, k, h => by
    simp only [lastOf] at h
    split at h
    · split at h
      · cases h; omega
      · have := lastOf_lt h; omega
    · have := lastOf_lt h; omega
theorem lastOf_task {l : List SCome} {t : Int} : ∀ {i k : Nat}, lastOf l t i = some k → ∃ c, l[k]? = some c ∧ c.Task = t
  | 0, k, h => by cases h
  | i + 1, k, h => by
    simp only [lastOf] at h
    split at h
    · rename_i c hc
      split at h
      · cases h; exact ⟨c, hc, by assumption⟩
      · exact lastOf_task h
    · exact lastOf_task h
/-- it comes sooner than the one ahead of it -/
def sooner (l1 : List SCome) (i : Nat) (c : SCome) : Prop := ∃ b, 0 < i ∧ l1[i - 1]? = some b ∧ c.At < b.At
noncomputable instance (l1 : List SCome) (i : Nat) (c : SCome) : Decidable (sooner l1 i c) := Classical.propDecidable _
theorem sooner_mk {l1 : List SCome} {i : Nat} {c b : SCome} (h0 : 0 < i) (hb : l1[i - 1]? = some b) (h : c.At < b.At) : sooner l1 i c := ⟨b, h0, hb, h⟩
/-- what is wrong with the i-th coming -/
noncomputable def comeAt (l0 : List STask) (l1 : List SCome) (i : Nat) : Option SFault :=
  match l1[i]? with
  | none => none
  | some c =>
    if c.Task < 0 ∨ c.Task ≥ (l0.length : Int) then some ⟨4, (i : Int)⟩
    else if c.At < 0 ∨ c.At > 20000 then some ⟨3, (i : Int)⟩
    else if sooner l1 i c then some ⟨12, (i : Int)⟩
    else match lastOf l1 c.Task i with
      | none => none
      | some k => match l1[k]?, l0[c.Task.toNat]? with
        | some b, some t => if c.At - b.At < t.T then some ⟨12, (i : Int)⟩ else none
        | _, _ => none
/-- what is wrong with comings -/
noncomputable def comesFault (l0 : List STask) (l1 : List SCome) : SFault :=
  if (setFault l0).Code = 0 then (if l1.length > 4000 then ⟨2, 0⟩ else (firstOf (comeAt l0 l1) l1.length 0).getD ⟨0, 0⟩) else setFault l0
theorem getD_leave {ρ : Type} (o : Option ρ) (d : ρ) : (match leave (τ := Unit) () o with | .inl _ => d | .inr r => r) = o.getD d := by cases o <;> rfl
/-- when each task may come next -/
def nexts (l0 : List STask) (l1 : List SCome) (i : Nat) : List Int :=
  (List.range l0.length).map fun (t : Nat) => match lastOf l1 (t : Int) i with
    | none => 0
    | some k => match l1[k]?, l0[t]? with
      | some b, some x => b.At + x.T
      | _, _ => 0
theorem nexts_len (l0 : List STask) (l1 : List SCome) (i : Nat) : (nexts l0 l1 i).length = l0.length := by simp [nexts]
theorem nexts_zero (l0 : List STask) (l1 : List SCome) : nexts l0 l1 0 = List.replicate l0.length (0 : Int) := by
  apply List.ext_getElem
  · simp [nexts]
  · intro i h1 h2
    simp [nexts, lastOf]
theorem comeAt_none {l0 : List STask} {l1 : List SCome} {i : Nat} {c : SCome} (hc : l1[i]? = some c) (h : comeAt l0 l1 i = none) : 0 ≤ c.Task ∧ c.Task < (l0.length : Int) ∧ 0 ≤ c.At ∧ c.At ≤ 20000 ∧ (∀ b, 0 < i → l1[i - 1]? = some b → b.At ≤ c.At) ∧
    (∀ k b t, lastOf l1 c.Task i = some k → l1[k]? = some b → l0[c.Task.toNat]? = some t → t.T ≤ c.At - b.At) := by
  unfold comeAt at h
  rw [hc] at h
  simp only at h
  split at h
  · cases h
  rename_i h1
  split at h
  · cases h
  rename_i h2
  split at h
  · cases h
  rename_i h3
  refine ⟨by omega, by omega, by omega, by omega, fun b hb hbb => ?_, fun k b t hk hb ht => ?_⟩
  · apply Int.not_lt.1
    intro hlt
    exact h3 (sooner_mk hb hbb hlt)
  · rw [hk] at h
    simp only [hb, ht] at h
    split at h
    · cases h
    · omega
theorem Legal_eq (l0 : List STask) (l1 : List SCome) (K : Nat) (hK : 4020 ≤ K) : tasks_Legal.f K l0 l1 = some (comesFault l0 l1) := by
  unfold tasks_Legal.f comesFault
  rw [Check_eq l0 K (by omega)]
  simp only
  by_cases hc : (setFault l0).Code = 0
  · rw [if_pos hc, if_pos hc]
    obtain ⟨hl1, hl8, hset⟩ := setFault_ok hc
    by_cases hlen : (l1.length : Int) > 4000
    · rw [if_pos hlen, if_pos (by omega)]
    rw [if_neg hlen, if_pos (show l0.length ≤ 17592186044416 by omega), if_neg (show ¬ l1.length > 4000 by omega), ← nexts_zero l0 l1]
    have hr := iter_states (f := tasks_Legal.r0 l0 l1) (fun i => (i, nexts l0 l1 i)) (comeAt l0 l1) l1.length (t := ()) (fun i hi hp => by
      have hi' : (i : Int) < (l1.length : Int) := by omega
      have hi4 : (i : Int) ≤ 4000 := by omega
      simp only [tasks_Legal.r0, if_pos hi', List.getElem?_eq_getElem hi]
      have hce : l1[i]? = some l1[i] := List.getElem?_eq_getElem hi
      generalize l1[i] = c at hce ⊢
      have hw : 0 < i → IntKind.i64.wrap ((i : Int) - 1) = ((i - 1 : Nat) : Int) := fun h0 => by rw [wrap64_small (by omega) (by omega)]; omega
      by_cases h1 : c.Task < 0 ∨ c.Task ≥ (l0.length : Int)
      · have hA : comeAt l0 l1 i = some ⟨4, (i : Int)⟩ := by simp only [comeAt, hce, if_pos h1]
        rw [hA]
        unfold tasks_Legal.p1
        by_cases h1' : c.Task < 0
        · rw [if_pos h1']; rfl
        · rw [if_neg h1', if_pos (by omega)]; rfl
      have h1a : ¬ c.Task < 0 := by omega
      have h1b : ¬ c.Task ≥ (l0.length : Int) := by omega
      by_cases h2 : c.At < 0 ∨ c.At > 20000
      · have hA : comeAt l0 l1 i = some ⟨3, (i : Int)⟩ := by simp only [comeAt, hce, if_neg h1, if_pos h2]
        rw [hA]
        unfold tasks_Legal.p1
        rw [if_neg h1a, if_neg h1b]
        by_cases h2' : c.At < 0
        · rw [if_pos h2']; rfl
        · rw [if_neg h2', if_pos (by omega)]; rfl
      have h2a : ¬ c.At < 0 := by omega
      have h2b : ¬ c.At > 20000 := by omega
      have h0t : 0 ≤ c.Task := by omega
      have htl : c.Task.toNat < l0.length := by omega
      have hnx : (nexts l0 l1 i)[c.Task.toNat]? = some (match lastOf l1 c.Task i with
          | none => 0
          | some k => match l1[k]?, l0[c.Task.toNat]? with
            | some b, some x => b.At + x.T
            | _, _ => 0) := by
        have : ((c.Task.toNat : Nat) : Int) = c.Task := Int.toNat_of_nonneg h0t
        simp only [nexts, List.getElem?_map, List.getElem?_range htl, Option.map_some, this]
      obtain ⟨x, hx⟩ : ∃ x, l0[c.Task.toNat]? = some x := ⟨l0[c.Task.toNat], List.getElem?_eq_getElem htl⟩
      obtain ⟨_, _, _, hxT, _⟩ := hset _ _ hx
      -- what the table says
      have htab : ∀ nx, (nexts l0 l1 i)[c.Task.toNat]? = some nx → ((c.At < nx) ↔ ∃ k b, lastOf l1 c.Task i = some k ∧ l1[k]? = some b ∧ c.At - b.At < x.T) := by
        intro nx hn
        rw [hnx] at hn
        have hn := Option.some.inj hn
        subst hn
        cases hk : lastOf l1 c.Task i with
        | none => simp only; constructor
                  · intro h; omega
                  · rintro ⟨k, b, h, _⟩; cases h
        | some k =>
          obtain ⟨b, hb, _⟩ := lastOf_task hk
          simp only [hb, hx]
          constructor
          · intro h; exact ⟨k, b, rfl, hb, by omega⟩
          · rintro ⟨k', b', h1, h2, h3⟩
            cases h1
            rw [hb] at h2
            cases h2
            omega
      obtain ⟨nx, hnx'⟩ : ∃ nx, (nexts l0 l1 i)[c.Task.toNat]? = some nx := ⟨_, hnx⟩
      have hP : tasks_Legal.p1 l0 l1 i (nexts l0 l1 i) c = some (if sooner l1 i c ∨ c.At < nx then .inr ⟨12, (i : Int)⟩ else .inl ()) := by
        unfold tasks_Legal.p1
        rw [if_neg h1a, if_neg h1b, if_neg h2a, if_neg h2b]
        by_cases hi0 : 0 < i
        · have hb : l1[i - 1]? = some l1[i - 1] := List.getElem?_eq_getElem (by omega)
          rw [if_pos (by omega), hw hi0, if_pos (by omega), Int.toNat_natCast, hb]
          simp only [if_pos h0t, hnx']
          by_cases hlt : c.At < l1[i - 1].At
          · rw [if_pos hlt, if_pos (.inl (sooner_mk hi0 hb hlt))]
          · rw [if_neg hlt]
            by_cases hn : c.At < nx
            · rw [if_pos hn, if_pos (.inr hn)]
            · rw [if_neg hn, if_neg]
              rintro (⟨b, _, hb', h⟩ | h)
              · rw [hb] at hb'; cases hb'; exact hlt h
              · exact hn h
        · rw [if_neg (by omega)]
          simp only [if_pos h0t, hnx']
          by_cases hn : c.At < nx
          · rw [if_pos hn, if_pos (.inr hn)]
          · rw [if_neg hn, if_neg]
            rintro (⟨b, h, _⟩ | h)
            · exact hi0 h
            · exact hn h
      rw [hP]
      by_cases hbad : sooner l1 i c ∨ c.At < nx
      · rw [if_pos hbad]
        have hA : comeAt l0 l1 i = some ⟨12, (i : Int)⟩ := by
          simp only [comeAt, hce, if_neg h1, if_neg h2]
          by_cases hb1 : sooner l1 i c
          · rw [if_pos hb1]
          · rw [if_neg hb1]
            rcases hbad with h | h
            · exact absurd h hb1
            · obtain ⟨k, b, hk, hb, h3⟩ := (htab nx hnx').1 h
              simp only [hk, hb, hx, if_pos h3]
        rw [hA]; rfl
      · rw [if_neg hbad]
        have hA : comeAt l0 l1 i = none := by
          simp only [comeAt, hce, if_neg h1, if_neg h2]
          rw [if_neg (fun h => hbad (.inl h))]
          cases hk : lastOf l1 c.Task i with
          | none => rfl
          | some k =>
            obtain ⟨b, hb, _⟩ := lastOf_task hk
            simp only [hb, hx]
            rw [if_neg]
            intro h3
            exact hbad (.inr ((htab nx hnx').2 ⟨k, b, hk, hb, h3⟩))
        rw [hA]
        simp only [if_pos h0t, hx, hnx', onwardS]
        congr 3
        -- the table's next state
        rw [wrap64_small (by omega) (by omega)]
        apply List.ext_getElem?
        intro q
        rw [List.getElem?_set, nexts_len]
        by_cases hq : c.Task.toNat = q
        · subst hq
          rw [if_pos rfl, if_pos htl]
          have hcast : ((c.Task.toNat : Nat) : Int) = c.Task := Int.toNat_of_nonneg h0t
          simp only [nexts, List.getElem?_map, List.getElem?_range htl, Option.map_some, hcast, lastOf, hce, if_true, hx]
        · rw [if_neg hq]
          have hne : ¬ c.Task = (q : Int) := fun h => hq (by omega)
          simp only [nexts, List.getElem?_map, lastOf, hce]
          by_cases hql : q < l0.length
          · rw [List.getElem?_range hql]
            simp only [Option.map_some, if_neg hne]
          · rw [List.getElem?_eq_none (by simp; omega)]; rfl) (fun _ => by simp [tasks_Legal.r0]) (K := K) (by omega)
    simp only [hr]
    cases firstOf (comeAt l0 l1) l1.length 0 <;> rfl
  · rw [if_neg hc, if_neg hc]
/-- the i-th job -/
def jobOf (l0 : List STask) (l1 : List SCome) (l2 l3 : List Int) (i : Nat) : SJob :=
  match l1[i]?, l2[i]?, l3[i]? with
  | some c, some a, some b => match l0[c.Task.toNat]? with
    | some t => ⟨c.Task, c.At + a, b, c.At + t.D, t.P⟩
    | none => ⟨0, 0, 0, 0, 0⟩
  | _, _, _ => ⟨0, 0, 0, 0, 0⟩
/-- what is wrong with the i-th job -/
def jobAt (l0 : List STask) (l1 : List SCome) (l2 l3 : List Int) (i : Nat) : Option SFault :=
  match l1[i]?, l2[i]?, l3[i]? with
  | some c, some a, some b => match l0[c.Task.toNat]? with
    | some t => if a < 0 ∨ a > t.J ∨ b < 1 ∨ b > t.C then some ⟨3, (i : Int)⟩ else none
    | none => none
  | _, _, _ => none
def jobsTill (l0 : List STask) (l1 : List SCome) (l2 l3 : List Int) (i : Nat) : List SJob := (List.range i).map (jobOf l0 l1 l2 l3)
/-- the jobs, or what is wrong -/
noncomputable def jobsOf (l0 : List STask) (l1 : List SCome) (l2 l3 : List Int) : List SJob × SFault :=
  if (comesFault l0 l1).Code = 0 then
    (if l2.length = l1.length ∧ l3.length = l1.length then
      (match firstOf (jobAt l0 l1 l2 l3) l1.length 0 with
      | some f => ([], f)
      | none => (jobsTill l0 l1 l2 l3 l1.length, ⟨0, 0⟩))
    else ([], ⟨2, 0⟩))
  else ([], comesFault l0 l1)
theorem comesFault_ok {l0 : List STask} {l1 : List SCome} (h : (comesFault l0 l1).Code = 0) : (setFault l0).Code = 0 ∧ l1.length ≤ 4000 ∧ ∀ i, i < l1.length → comeAt l0 l1 i = none := by
  unfold comesFault at h
  split at h
  · rename_i hs
    split at h
    · cases h
    · rename_i hl
      refine ⟨hs, by omega, fun i hi => ?_⟩
      cases hf : firstOf (comeAt l0 l1) l1.length 0 with
      | none => exact firstOf_none hf i (Nat.zero_le _) hi
      | some r =>
        rw [hf] at h
        obtain ⟨j, _, hj, hg, _⟩ := firstOf_some hf
        simp only [Option.getD_some] at h
        exfalso
        unfold comeAt at hg
        rw [List.getElem?_eq_getElem hj] at hg
        simp only at hg
        repeat' split at hg
        all_goals first | (cases hg; done) | (cases hg; cases h)
  · contradiction
theorem Jobs_eq0 (l0 : List STask) (l1 : List SCome) (l2 l3 : List Int) (K : Nat) (hK : 4020 ≤ K) : tasks_Jobs.f K l0 l1 l2 l3 = some (jobsOf l0 l1 l2 l3) := by
  unfold tasks_Jobs.f jobsOf
  rw [Legal_eq l0 l1 K hK]
  simp only
  by_cases hc : (comesFault l0 l1).Code = 0
  · rw [if_pos hc, if_pos hc]
    obtain ⟨hs, hl, hcomes⟩ := comesFault_ok hc
    obtain ⟨_, hl8, hset⟩ := setFault_ok hs
    unfold tasks_Jobs.p0
    by_cases hla : (l2.length : Int) = (l1.length : Int)
    · rw [if_pos hla]
      by_cases hlb : (l3.length : Int) = (l1.length : Int)
      · rw [if_pos hlb, if_pos (by omega)]
        have hr := iter_states (f := tasks_Jobs.r1 l0 l1 l2 l3) (fun i => (jobsTill l0 l1 l2 l3 i, i)) (fun i => (jobAt l0 l1 l2 l3 i).map fun f => (([] : List SJob), f)) l1.length (t := jobsTill l0 l1 l2 l3 l1.length) (fun i hi hp => by
          have hi' : (i : Int) < (l1.length : Int) := by omega
          have hi2 : i < l2.length := by omega
          have hi3 : i < l3.length := by omega
          have hc1 : l1[i]? = some l1[i] := List.getElem?_eq_getElem hi
          obtain ⟨ht0, ht1, ha0, ha1, _⟩ := comeAt_none hc1 (hcomes i hi)
          obtain ⟨t, ht⟩ : ∃ t, l0[l1[i].Task.toNat]? = some t := ⟨l0[l1[i].Task.toNat]'(by omega), List.getElem?_eq_getElem (by omega)⟩
          obtain ⟨_, _, htC, htT, htD, htJ, _⟩ := hset _ _ ht
          have hJ : jobAt l0 l1 l2 l3 i = if l2[i] < 0 ∨ l2[i] > t.J ∨ l3[i] < 1 ∨ l3[i] > t.C then some ⟨3, (i : Int)⟩ else none := by
            simp only [jobAt, hc1, List.getElem?_eq_getElem hi2, List.getElem?_eq_getElem hi3, ht]
          have hP : tasks_Jobs.p2 l2 l3 i t = some (if l2[i] < 0 ∨ l2[i] > t.J ∨ l3[i] < 1 ∨ l3[i] > t.C then .inr ([], ⟨3, (i : Int)⟩) else .inl ()) := by
            simp only [tasks_Jobs.p2, List.getElem?_eq_getElem hi2, List.getElem?_eq_getElem hi3]
            by_cases h1 : l2[i] < 0
            · rw [if_pos h1, if_pos (.inl h1)]
            rw [if_neg h1]
            by_cases h2 : l2[i] > t.J
            · rw [if_pos h2, if_pos (.inr (.inl h2))]
            rw [if_neg h2]
            by_cases h3 : l3[i] < 1
            · rw [if_pos h3, if_pos (.inr (.inr (.inl h3)))]
            rw [if_neg h3]
            by_cases h4 : l3[i] > t.C
            · rw [if_pos h4, if_pos (.inr (.inr (.inr h4)))]
            rw [if_neg h4, if_neg (by omega)]
          have hlen : (jobsTill l0 l1 l2 l3 i).length < 3518437208883 := by simp [jobsTill]; omega
          simp only [tasks_Jobs.r1, if_pos hi', hc1, if_pos ht0, ht, hP, hJ, List.getElem?_eq_getElem hi2, List.getElem?_eq_getElem hi3]
          by_cases hbad : l2[i] < 0 ∨ l2[i] > t.J ∨ l3[i] < 1 ∨ l3[i] > t.C
          · simp only [if_pos hbad]; rfl
          simp only [if_neg hbad, if_pos hlen, Option.map_none, onwardS]
          congr 3
          rw [wrap64_small (by omega) (by omega), wrap64_small (by omega) (by omega)]
          unfold jobsTill
          rw [List.range_succ, List.map_append]
          congr 1
          simp only [List.map_cons, List.map_nil, jobOf, hc1, List.getElem?_eq_getElem hi2, List.getElem?_eq_getElem hi3, ht]) (fun _ => by simp [tasks_Jobs.r1]) (K := K) (by omega)
        have h0 : jobsTill l0 l1 l2 l3 0 = [] := rfl
        simp only [h0] at hr
        simp only [hr]
        rw [firstOf_map]
        cases firstOf (jobAt l0 l1 l2 l3) l1.length 0 <;> rfl
      · rw [if_neg hlb, if_neg (by omega)]
    · rw [if_neg hla, if_neg (by omega)]
  · rw [if_neg hc, if_neg hc]
theorem Jobs_eq (l0 : List STask) (l1 : List SCome) (l2 l3 : List Int) (K : Nat) (hK : 4020 ≤ K) (h2 : l2.length ≤ 5000) (h3 : l3.length ≤ 5000) : tasks_Jobs.f K l0 l1 l2 l3 = some (jobsOf l0 l1 l2 l3) := Jobs_eq0 l0 l1 l2 l3 K hK
/-- what a task of a set is -/
structure Okt (t : STask) : Prop where
  C : 1 ≤ t.C ∧ t.C ≤ 10000
  T : 1 ≤ t.T ∧ t.T ≤ 10000
  D : 1 ≤ t.D ∧ t.D ≤ 10000
  J : 0 ≤ t.J ∧ t.J ≤ 10000
  O : 0 ≤ t.O ∧ t.O ≤ 10000
  P : 0 ≤ t.P ∧ t.P ≤ 1000
  CD : t.C ≤ t.D
theorem okt_of {l : List STask} (h : (setFault l).Code = 0) : ∀ t ∈ l, Okt t := fun t ht => by
  obtain ⟨i, hi⟩ := List.mem_iff_getElem?.1 ht
  obtain ⟨_, _, h⟩ := setFault_ok h
  obtain ⟨_, _, h1, h2, h3, h4, h5, h6, h7⟩ := h i t hi
  exact ⟨h1, h2, h3, h4, h5, h6, h7⟩
/-- a over b, rounded up -/
def ceilD (a b : Int) : Int := (a + b - 1) / b
theorem ceilD_mono {a a' b : Int} (hb : 1 ≤ b) (h : a ≤ a') : ceilD a b ≤ ceilD a' b := Int.ediv_le_ediv (by omega) (by omega)
theorem ceilD_nonneg {a b : Int} (hb : 1 ≤ b) (h : 0 ≤ a) : 0 ≤ ceilD a b := Int.ediv_nonneg (by omega) (by omega)
theorem ceilD_le {a b : Int} (hb : 1 ≤ b) (h : 0 ≤ a) : ceilD a b ≤ a := by
  unfold ceilD
  rw [← Int.lt_add_one_iff]
  apply Int.ediv_lt_of_lt_mul (by omega)
  have : a * 1 ≤ a * b := Int.mul_le_mul_of_nonneg_left hb h
  rw [Int.add_mul]
  omega
theorem ceil_eq {a b : Int} (ha : 0 ≤ a ∧ a ≤ 100000) (hb : 1 ≤ b ∧ b ≤ 100000) : fixed_ceil.f a b = some (ceilD a b) := by
  unfold fixed_ceil.f
  rw [if_neg (by omega), wrap64_small (n := a + b) (by omega) (by omega), wrap64_small (n := a + b - 1) (by omega) (by omega), Int.tdiv_eq_ediv_of_nonneg (by omega)]
  have h1 := ceilD_nonneg hb.1 ha.1
  have h2 := ceilD_le hb.1 ha.1
  show some (IntKind.i64.wrap (ceilD a b)) = _
  rw [wrap64_small (by omega) (by omega)]
/-- what others want in so many ticks -/
def wants (os : List STask) (w : Int) : Int := (os.map fun o => ceilD (w + o.J) o.T * o.C).sum
def dem (t : STask) (b : Int) (os : List STask) (w : Int) : Int := t.C + b + wants os w
theorem wants_nil (w : Int) : wants [] w = 0 := rfl
theorem wants_cons (o : STask) (os : List STask) (w : Int) : wants (o :: os) w = ceilD (w + o.J) o.T * o.C + wants os w := by simp [wants]
theorem wants_append (os ps : List STask) (w : Int) : wants (os ++ ps) w = wants os w + wants ps w := by simp [wants]
theorem want_bounds {o : STask} (ho : Okt o) {w : Int} (hw : 0 ≤ w ∧ w ≤ 10000) : 0 ≤ ceilD (w + o.J) o.T * o.C ∧ ceilD (w + o.J) o.T * o.C ≤ 200000000 := by
  have := ho.C; have := ho.T; have := ho.J
  have h1 := ceilD_nonneg (a := w + o.J) (b := o.T) (by omega) (by omega)
  have h2 := ceilD_le (a := w + o.J) (b := o.T) (by omega) (by omega)
  refine ⟨Int.mul_nonneg h1 (by omega), ?_⟩
  calc ceilD (w + o.J) o.T * o.C ≤ 20000 * o.C := Int.mul_le_mul_of_nonneg_right (by omega) (by omega)
    _ ≤ 20000 * 10000 := Int.mul_le_mul_of_nonneg_left (by omega) (by omega)
    _ = 200000000 := by decide
theorem wants_bounds : ∀ {os : List STask}, (∀ o ∈ os, Okt o) → ∀ {w : Int}, (0 ≤ w ∧ w ≤ 10000) → 0 ≤ wants os w ∧ wants os w ≤ 200000000 * os.length
  | [], _, w, _ => by simp [wants_nil]
  | o :: os, h, w, hw => by
    have h1 := want_bounds (h o (by simp)) hw
    have h2 := wants_bounds (fun x hx => h x (List.mem_cons_of_mem _ hx)) hw
    rw [wants_cons, List.length_cons]
    omega
theorem wants_mono : ∀ {os : List STask}, (∀ o ∈ os, Okt o) → ∀ {w w' : Int}, w ≤ w' → wants os w ≤ wants os w'
  | [], _, w, w', _ => by simp [wants_nil]
  | o :: os, h, w, w', hw => by
    have ho := h o (by simp)
    have h2 := wants_mono (fun x hx => h x (List.mem_cons_of_mem _ hx)) hw
    have h1 : ceilD (w + o.J) o.T * o.C ≤ ceilD (w' + o.J) o.T * o.C := Int.mul_le_mul_of_nonneg_right (ceilD_mono ho.T.1 (by omega)) (by have := ho.C; omega)
    rw [wants_cons, wants_cons]
    omega
/-- the least n, 1 at least, in which all is done that is wanted; 0: there is none up to most -/
def settled (f : Int → Int) (most : Int) : Int := match firstOf (fun n : Nat => if f n ≤ n then some (n : Int) else none) (most.toNat + 1) 1 with
  | some n => n
  | none => 0
theorem settled_some {f : Int → Int} {most : Int} {j : Nat} (h : firstOf (fun n : Nat => if f n ≤ n then some (n : Int) else none) (most.toNat + 1) 1 = some (j : Int)) : settled f most = j := by unfold settled; rw [h]
theorem settled_none {f : Int → Int} {most : Int} (h : firstOf (fun n : Nat => if f n ≤ n then some (n : Int) else none) (most.toNat + 1) 1 = none) : settled f most = 0 := by unfold settled; rw [h]
theorem settled_pos {f : Int → Int} {most : Int} (h : settled f most ≠ 0) : 1 ≤ settled f most ∧ settled f most ≤ most ∧ f (settled f most) ≤ settled f most ∧ ∀ n : Int, 1 ≤ n → n < settled f most → n < f n := by
  cases hf : firstOf (fun n : Nat => if f n ≤ n then some (n : Int) else none) (most.toNat + 1) 1 with
  | none => exact absurd (settled_none hf) h
  | some r =>
    obtain ⟨j, h1, h2, h3, h4⟩ := firstOf_some hf
    split at h3
    · cases h3
      rw [settled_some hf]
      refine ⟨by omega, by omega, by assumption, fun n hn1 hn2 => ?_⟩
      have := h4 n.toNat (by omega) (by omega)
      have e : ((n.toNat : Nat) : Int) = n := Int.toNat_of_nonneg (by omega)
      simp only [e] at this
      split at this
      · cases this
      · omega
    · cases h3
theorem settled_zero {f : Int → Int} {most : Int} (h : settled f most = 0) : ∀ n : Int, 1 ≤ n → n ≤ most → n < f n := by
  cases hf : firstOf (fun n : Nat => if f n ≤ n then some (n : Int) else none) (most.toNat + 1) 1 with
  | some r =>
    obtain ⟨j, h1, h2, h3, h4⟩ := firstOf_some hf
    split at h3
    · cases h3; rw [settled_some hf] at h; omega
    · cases h3
  | none =>
    intro n h1 h2
    have := firstOf_none hf n.toNat (by omega) (by omega)
    have e : ((n.toNat : Nat) : Int) = n := Int.toNat_of_nonneg (by omega)
    simp only [e] at this
    split at this
    · cases this
    · omega
theorem settled_eq {f : Int → Int} {most w : Int} (h1 : 1 ≤ w) (h2 : w ≤ most) (h3 : f w ≤ w) (h4 : ∀ n : Int, 1 ≤ n → n < w → n < f n) : settled f most = w := by
  by_cases h : settled f most = 0
  · have := settled_zero h w h1 h2; omega
  · obtain ⟨g1, g2, g3, g4⟩ := settled_pos h
    rcases Int.lt_trichotomy (settled f most) w with hl | hl | hl
    · have := h4 _ g1 hl; omega
    · exact hl
    · have := g4 _ h1 hl; omega
theorem settled_eq_zero {f : Int → Int} {most : Int} (h : ∀ n : Int, 1 ≤ n → n ≤ most → n < f n) : settled f most = 0 := by
  apply Decidable.byContradiction
  intro hne
  obtain ⟨g1, g2, g3, g4⟩ := settled_pos hne
  have := h _ g1 g2
  omega
theorem demand_eq (t : STask) (b : Int) (os : List STask) (w : Int) (ht : Okt t) (hb : 0 ≤ b ∧ b ≤ 10000) (ho : ∀ o ∈ os, Okt o) (hl : os.length ≤ 8) (hw : 0 ≤ w ∧ w ≤ 10000) (K : Nat) (hK : 9 ≤ K) : fixed_response_1.f K w t b os = some (dem t b os w) := by
  unfold fixed_response_1.f
  have hC := ht.C
  have hr := iter_states (ρ := Int) (f := fixed_response_1.r0 w os) (fun i => (t.C + b + wants (os.take i) w, i)) (fun _ => none) os.length (t := dem t b os w) (fun i hi _ => by
    have hi' : (i : Int) < (os.length : Int) := by omega
    have hoi := ho os[i] (List.getElem_mem hi)
    have hT := hoi.T; have hJ := hoi.J
    have hwb := want_bounds hoi hw
    have hs := wants_bounds (os := os.take i) (fun o h => ho o (List.mem_of_mem_take h)) hw
    have hlen : (os.take i).length ≤ 8 := by simp; omega
    simp only [fixed_response_1.r0, if_pos hi', List.getElem?_eq_getElem hi]
    rw [wrap64_small (n := w + os[i].J) (by omega) (by omega), ceil_eq (by omega) (by omega)]
    simp only [onwardS]
    rw [wrap64_small (n := ceilD (w + os[i].J) os[i].T * os[i].C) (by omega) (by omega), wrap64_small (by omega) (by omega)]
    congr 3
    rw [List.take_succ_eq_append_getElem hi, wants_append, wants_cons, wants_nil]
    omega) (fun _ => by simp [fixed_response_1.r0, dem]) (K := K) (by omega)
  have h0 : t.C + b + wants (os.take 0) w = t.C + b := by simp [wants_nil]
  rw [h0] at hr
  rw [wrap64_small (by omega) (by omega), hr, firstOf_none_of (fun _ _ _ => rfl)]
  rfl
theorem dem_mono {t : STask} {b : Int} {os : List STask} (ho : ∀ o ∈ os, Okt o) {w w' : Int} (h : w ≤ w') : dem t b os w ≤ dem t b os w' := by
  have := wants_mono ho h
  unfold dem; omega
theorem settle_eq (t : STask) (b : Int) (os : List STask) (ht : Okt t) (hb : 0 ≤ b ∧ b ≤ 10000) (ho : ∀ o ∈ os, Okt o) (hl : os.length ≤ 8) (most : Int) (hm : most ≤ 10000) (K : Nat) (hK : 20100 ≤ K) : fixed_Settle.f K (t.C + b) most t b os = some (settled (dem t b os) most) := by
  unfold fixed_Settle.f
  have hC := ht.C
  obtain ⟨r, hr, hR⟩ := iter_total (f := fixed_Settle.r0 K most t b os) (fun w => t.C + b ≤ w ∧ w ≤ 1600000000 + 20000 ∧ ∀ n : Int, 1 ≤ n → n < w → n < dem t b os n) (fun w => (10001 - w).toNat)
    (fun r => r = if settled (dem t b os) most = 0 then .inl () else .inr (settled (dem t b os) most)) (fun w hI => by
      obtain ⟨h1, h2, h3⟩ := hI
      by_cases hw : w ≤ most
      · have hd := demand_eq t b os w ht hb ho hl ⟨by omega, by omega⟩ K (by omega)
        simp only [fixed_Settle.r0, if_pos hw, hd]
        by_cases hle : dem t b os w ≤ w
        · right
          have hs := settled_eq (f := dem t b os) (most := most) (by omega) hw hle h3
          refine ⟨_, by rw [if_pos hle], ?_⟩
          rw [hs, if_neg (by omega)]
        · left
          have hwb := wants_bounds ho (w := w) ⟨by omega, by omega⟩
          refine ⟨_, by rw [if_neg hle], ⟨by unfold dem; omega, by unfold dem; omega, fun n hn1 hn2 => ?_⟩, by omega⟩
          by_cases hnw : n < w
          · exact h3 n hn1 hnw
          · have := dem_mono (t := t) (b := b) ho (w := w) (w' := n) (by omega)
            omega
      · right
        refine ⟨.inl (), by simp only [fixed_Settle.r0, if_neg hw], ?_⟩
        rw [settled_eq_zero (fun n h1 h2 => h3 n h1 (by omega)), if_pos rfl]) K (t.C + b) ⟨Int.le_refl _, by omega, fun n h1 h2 => by
          by_cases hn : n ≤ 10000
          · have := wants_bounds ho (w := n) ⟨by omega, hn⟩
            unfold dem; omega
          · have := wants_mono ho (w := 10000) (w' := n) (by omega)
            have := wants_bounds ho (w := 10000) ⟨by omega, by omega⟩
            unfold dem; omega⟩ (by omega)
  rw [hr, hR]
  by_cases h : settled (dem t b os) most = 0
  · rw [if_pos h, h]
  · rw [if_neg h]
/-- how long a task takes; 0: too long -/
def respond (t : STask) (os : List STask) (b : Int) : Int := if settled (dem t b os) (t.D - t.J) = 0 then 0 else settled (dem t b os) (t.D - t.J) + t.J
theorem response_eq (t : STask) (b : Int) (os : List STask) (ht : Okt t) (hb : 0 ≤ b ∧ b ≤ 10000) (ho : ∀ o ∈ os, Okt o) (hl : os.length ≤ 8) (K : Nat) (hK : 20100 ≤ K) : fixed_response.f K t os b = some (respond t os b) := by
  have hC := ht.C; have hD := ht.D; have hJ := ht.J
  unfold fixed_response.f
  rw [wrap64_small (n := t.C + b) (by omega) (by omega), wrap64_small (n := t.D - t.J) (by omega) (by omega), settle_eq t b os ht hb ho hl _ (by omega) K hK]
  simp only
  unfold respond
  by_cases h : settled (dem t b os) (t.D - t.J) = 0
  · rw [if_pos h, if_pos h]
  · rw [if_neg h, if_neg h]
    have := settled_pos h
    rw [wrap64_small (by omega) (by omega)]
/-- what is wrong with a set whose tasks must be done ere they come again -/
noncomputable def fixedFault (l : List STask) : SFault :=
  if (setFault l).Code = 0 then (firstOf (fun i => match l[i]? with | some t => if t.D > t.T then some ⟨12, (i : Int)⟩ else none | none => none) l.length 0).getD ⟨0, 0⟩ else setFault l
theorem fixedFault_ok {l : List STask} (h : (fixedFault l).Code = 0) : (setFault l).Code = 0 ∧ fixedFault l = ⟨0, 0⟩ ∧ ∀ t ∈ l, t.D ≤ t.T := by
  unfold fixedFault at h ⊢
  split at h
  · rename_i hs
    cases hf : firstOf (fun i => match l[i]? with | some t => if t.D > t.T then some (⟨12, (i : Int)⟩ : SFault) else none | none => none) l.length 0 with
    | none =>
      refine ⟨hs, by rw [if_pos hs]; rfl, fun t ht => ?_⟩
      obtain ⟨i, hi⟩ := List.mem_iff_getElem?.1 ht
      have := firstOf_none hf i (Nat.zero_le _) (lt_of_get hi)
      simp only [hi] at this
      split at this
      · cases this
      · omega
    | some r =>
      rw [hf] at h
      obtain ⟨j, _, hj, hg, _⟩ := firstOf_some hf
      simp only [Option.getD_some] at h
      exfalso
      split at hg
      · split at hg
        · cases hg; cases h
        · cases hg
      · cases hg
  · contradiction
theorem check_eq (l : List STask) (K : Nat) (hK : 20 ≤ K) : fixed_check.f K l = some (fixedFault l) := by
  unfold fixed_check.f fixedFault
  rw [Check_eq l K hK]
  simp only
  by_cases h : (setFault l).Code = 0
  · rw [if_pos h, if_pos h]
    have hl := (setFault_ok h).2.1
    have hr := iter_first0 (f := fixed_check.r0 l) (fun i => match l[i]? with | some t => if t.D > t.T then some ⟨12, (i : Int)⟩ else none | none => none) l.length (t := ()) (fun i hi => by
      have hi' : (i : Int) < (l.length : Int) := by omega
      simp only [fixed_check.r0, if_pos hi', List.getElem?_eq_getElem hi]
      split <;> rfl) (by simp [fixed_check.r0]) (K := K) (by omega)
    rw [hr]
    cases firstOf (fun i => match l[i]? with | some t => if t.D > t.T then some (⟨12, (i : Int)⟩ : SFault) else none | none => none) l.length 0 <;> rfl
  · rw [if_neg h, if_neg h]
/-- those that go ahead of task i, up to place n -/
def aboveTill (l : List STask) (i : Nat) (n : Nat) : List STask := (List.range n).filterMap fun k => match l[k]?, l[i]? with
  | some a, some b => if k ≠ i ∧ a.P ≥ b.P then some a else none
  | _, _ => none
abbrev aboveOf (l : List STask) (i : Nat) : List STask := aboveTill l i l.length
theorem aboveTill_len (l : List STask) (i n : Nat) : (aboveTill l i n).length ≤ n := by
  unfold aboveTill
  exact Nat.le_trans (List.length_filterMap_le _ _) (by simp)
theorem aboveTill_mem {l : List STask} {i n : Nat} {a : STask} (h : a ∈ aboveTill l i n) : a ∈ l := by
  unfold aboveTill at h
  obtain ⟨k, _, hk⟩ := List.mem_filterMap.1 h
  split at hk
  · rename_i x y hx hy
    split at hk
    · cases hk; exact List.mem_of_getElem? hx
    · cases hk
  · cases hk
theorem aboveTill_succ {l : List STask} {i n : Nat} {a b : STask} (ha : l[n]? = some a) (hb : l[i]? = some b) : aboveTill l i (n + 1) = aboveTill l i n ++ (if n ≠ i ∧ a.P ≥ b.P then [a] else []) := by
  unfold aboveTill
  rw [List.range_succ, List.filterMap_append]
  congr 1
  simp only [List.filterMap_cons, List.filterMap_nil, ha, hb]
  split <;> rename_i h <;> split at h <;> simp_all
theorem above_eq (l : List STask) (i : Nat) (hi : i < l.length) (hl : l.length ≤ 8) (K : Nat) (hK : 9 ≤ K) : fixed_above.f K l (i : Int) = some (aboveOf l i) := by
  unfold fixed_above.f
  have hr := iter_states (ρ := List STask) (f := fixed_above.r0 l (i : Int)) (fun k => (aboveTill l i k, k)) (fun _ => none) l.length (t := aboveOf l i) (fun k hk _ => by
    have hk' : (k : Int) < (l.length : Int) := by omega
    have hlen := aboveTill_len l i k
    rw [aboveTill_succ (List.getElem?_eq_getElem hk) (List.getElem?_eq_getElem hi)]
    simp only [fixed_above.r0, if_pos hk', List.getElem?_eq_getElem hk, Int.toNat_natCast, List.getElem?_eq_getElem hi, onwardS]
    by_cases h1 : (k : Int) = (i : Int)
    · rw [if_pos h1, if_neg (by omega), List.append_nil]
    · rw [if_neg h1, if_pos (by omega)]
      by_cases h2 : l[k].P ≥ l[i].P
      · rw [if_pos h2, if_pos (by omega), if_pos ⟨by omega, h2⟩]
      · rw [if_neg h2, if_neg (fun h => h2 h.2), List.append_nil]) (fun _ => by simp [fixed_above.r0]) (K := K) (by omega)
  have h0 : aboveTill l i 0 = [] := rfl
  rw [h0, firstOf_none_of (fun _ _ _ => rfl)] at hr
  rw [hr]; rfl
/-- how long task i of a set takes at worst -/
noncomputable def respOf (l : List STask) (i b : Int) : Int × SFault :=
  if (fixedFault l).Code = 0 then
    (if i < 0 ∨ i ≥ (l.length : Int) ∨ b < 0 ∨ b > 10000 then (0, ⟨3, 0⟩)
    else match l[i.toNat]? with
      | none => (0, ⟨3, 0⟩)
      | some t => if respond t (aboveOf l i.toNat) b = 0 then (0, ⟨13, i⟩) else (respond t (aboveOf l i.toNat) b, ⟨0, 0⟩))
  else (0, fixedFault l)
theorem Response_eq (l : List STask) (i b : Int) (K : Nat) (hK : 20100 ≤ K) : fixed_Response.f K l i b = some (respOf l i b) := by
  unfold fixed_Response.f respOf
  rw [check_eq l K (by omega)]
  simp only
  by_cases hc : (fixedFault l).Code = 0
  · rw [if_pos hc, if_pos hc]
    have hs := (fixedFault_ok hc).1
    have hl := (setFault_ok hs).2.1
    have hp : fixed_Response.p0 l i b = some (.inl (decide (i < 0 ∨ i ≥ (l.length : Int) ∨ b < 0 ∨ b > 10000))) := by
      unfold fixed_Response.p0
      by_cases h1 : i < 0
      · rw [if_pos h1, decide_eq_true (.inl h1)]
      rw [if_neg h1]
      by_cases h2 : i ≥ (l.length : Int)
      · rw [if_pos h2, decide_eq_true (.inr (.inl h2))]
      rw [if_neg h2]
      by_cases h3 : b < 0
      · rw [if_pos h3, decide_eq_true (.inr (.inr (.inl h3)))]
      rw [if_neg h3]
      congr 2
      rw [Bool.eq_iff_iff, decide_eq_true_eq, decide_eq_true_eq]
      omega
    simp only [hp, decide_eq_true_eq]
    by_cases hbad : i < 0 ∨ i ≥ (l.length : Int) ∨ b < 0 ∨ b > 10000
    · rw [if_pos hbad, if_pos hbad]
    · rw [if_neg hbad, if_neg hbad, if_pos (by omega)]
      have hi : i.toNat < l.length := by omega
      have hcast : ((i.toNat : Nat) : Int) = i := Int.toNat_of_nonneg (by omega)
      have ha := above_eq l i.toNat hi hl K (by omega)
      rw [hcast] at ha
      have hok := okt_of hs
      have hlen := aboveTill_len l i.toNat l.length
      simp only [List.getElem?_eq_getElem hi, ha, response_eq _ b _ (hok _ (List.getElem_mem hi)) ⟨by omega, by omega⟩ (fun o ho => hok o (aboveTill_mem ho)) (Nat.le_trans hlen hl) K hK]
      split <;> rfl
  · rw [if_neg hc, if_neg hc]
/-- the first ones of what all take -/
noncomputable def respTill (l : List STask) (bs : List Int) (n : Nat) : List Int := (List.range n).map fun (i : Nat) => match bs[i]? with | some b => (respOf l (i : Int) b).1 | none => 0
noncomputable def respAt (l : List STask) (bs : List Int) (i : Nat) : Option SFault := match bs[i]? with | some b => if (respOf l (i : Int) b).2.Code = 0 then none else some (respOf l (i : Int) b).2 | none => none
noncomputable def respsOf (l : List STask) (bs : List Int) : List Int × SFault :=
  if (fixedFault l).Code = 0 then
    (if bs.length = l.length then
      (match firstOf (respAt l bs) l.length 0 with
      | some f => ([], f)
      | none => (respTill l bs l.length, ⟨0, 0⟩))
    else ([], ⟨2, 0⟩))
  else ([], fixedFault l)
theorem Responses_eq (l : List STask) (bs : List Int) (K : Nat) (hK : 20100 ≤ K) : fixed_Responses.f K l bs = some (respsOf l bs) := by
  unfold fixed_Responses.f respsOf
  rw [check_eq l K (by omega)]
  simp only
  by_cases hc : (fixedFault l).Code = 0
  · rw [if_pos hc, if_pos hc]
    have hl := (setFault_ok (fixedFault_ok hc).1).2.1
    by_cases hlen : (bs.length : Int) = (l.length : Int)
    · rw [if_pos hlen, if_pos (by omega)]
      have hr := iter_states (f := fixed_Responses.r0 K l bs) (fun k => (respTill l bs k, k)) (fun i => (respAt l bs i).map fun f => (([] : List Int), f)) l.length (t := respTill l bs l.length) (fun i hi _ => by
        have hi' : (i : Int) < (bs.length : Int) := by omega
        have hib : i < bs.length := by omega
        have hlt : (respTill l bs i).length < 17592186044416 := by simp [respTill]; omega
        simp only [fixed_Responses.r0, if_pos hi', List.getElem?_eq_getElem hib, Response_eq l _ _ K hK, respAt]
        by_cases h0 : (respOf l (i : Int) bs[i]).2.Code = 0
        · simp only [if_pos h0, if_pos hlt, Option.map_none, onwardS]
          congr 3
          unfold respTill
          rw [List.range_succ, List.map_append]
          congr 1
          simp only [List.map_cons, List.map_nil, List.getElem?_eq_getElem hib]
        · simp only [if_neg h0]; rfl) (fun _ => by simp [fixed_Responses.r0, hlen]) (K := K) (by omega)
      have h0 : respTill l bs 0 = [] := rfl
      rw [h0, firstOf_map] at hr
      rw [hr]
      cases firstOf (respAt l bs) l.length 0 <;> rfl
    · rw [if_neg hlen, if_neg (by omega)]
  · rw [if_neg hc, if_neg hc]
theorem respsOf_len (l : List STask) (bs : List Int) : (respsOf l bs).1.length ≤ 8 := by
  unfold respsOf
  split
  · rename_i h
    have hl := (setFault_ok (fixedFault_ok h).1).2.1
    split
    · split
      · simp
      · simp [respTill]; exact hl
    · simp
  · simp
theorem respsOf_three : respsOf three.f [0, 0, 0] = ([1, 3, 10], ⟨0, 0⟩) := by
  have := Responses_eq three.f [0, 0, 0] 20100 (Nat.le_refl _)
  have h : fixed_Responses.f 20100 three.f [0, 0, 0] = some ([1, 3, 10], ⟨0, 0⟩) := by kernel_rfl
  rw [h] at this
  exact (Option.some.inj this).symm
theorem responds_true (K : Nat) (hK : 20100 ≤ K) : responds.f K = some true := by
  unfold responds.f
  rw [Responses_eq three.f [0, 0, 0] K hK, respsOf_three]
  simp only [if_true, punctualsame_Same_int_self _ K (show ([1, 3, 10] : List Int).length < K by simp; omega)]

/-- what is wrong with the i-th job that is played -/
def playAt (l : List SJob) (i : Nat) : Option SFault := match l[i]? with
  | some e => if e.At < 0 ∨ e.At > 60000 ∨ e.C < 1 ∨ e.C > 10000 ∨ e.Due < 0 ∨ e.Due > 80000 then some ⟨3, (i : Int)⟩ else none
  | none => none
def playFault (l : List SJob) : SFault := if l.length > 4000 then ⟨2, 0⟩ else (firstOf (playAt l) l.length 0).getD ⟨0, 0⟩
theorem schedCheck_eq (l : List SJob) (K : Nat) (hK : 4010 ≤ K) : sched_Check.f K l = some (playFault l) := by
  unfold sched_Check.f playFault
  by_cases hl : (l.length : Int) > 4000
  · rw [if_pos hl, if_pos (by omega)]
  rw [if_neg hl, if_neg (by omega)]
  have hr := iter_first0 (f := sched_Check.r0 l) (playAt l) l.length (t := ()) (fun i hi => by
    have hi' : (i : Int) < (l.length : Int) := by omega
    simp only [sched_Check.r0, if_pos hi', List.getElem?_eq_getElem hi, playAt]
    generalize l[i] = e
    by_cases h : e.At < 0 ∨ e.At > 60000 ∨ e.C < 1 ∨ e.C > 10000 ∨ e.Due < 0 ∨ e.Due > 80000
    · rw [if_pos h]
      repeat' split
      all_goals first | rfl | omega
    · rw [if_neg h]
      rw [if_neg (by omega), if_neg (by omega), if_neg (by omega), if_neg (by omega), if_neg (by omega), if_neg (by omega)]
      rfl) (by simp [sched_Check.r0]) (K := K) (by omega)
  rw [hr]
  cases firstOf (playAt l) l.length 0 <;> rfl
structure Okj (e : SJob) : Prop where
  At : 0 ≤ e.At ∧ e.At ≤ 60000
  C : 1 ≤ e.C ∧ e.C ≤ 10000
  Due : 0 ≤ e.Due ∧ e.Due ≤ 80000
theorem playFault_ok {l : List SJob} (h : (playFault l).Code = 0) : l.length ≤ 4000 ∧ playFault l = ⟨0, 0⟩ ∧ ∀ e ∈ l, Okj e := by
  unfold playFault at h ⊢
  split at h
  · cases h
  rename_i hl
  cases hf : firstOf (playAt l) l.length 0 with
  | none =>
    refine ⟨by omega, by rw [if_neg hl]; rfl, fun e he => ?_⟩
    obtain ⟨i, hi⟩ := List.mem_iff_getElem?.1 he
    have := firstOf_none hf i (Nat.zero_le _) (lt_of_get hi)
    simp only [playAt, hi] at this
    split at this
    · cases this
    · exact ⟨by omega, by omega, by omega⟩
  | some r =>
    rw [hf] at h
    obtain ⟨j, _, hj, hg, _⟩ := firstOf_some hf
    exfalso
    simp only [playAt, List.getElem?_eq_getElem hj] at hg
    split at hg
    · cases hg; cases h
    · cases hg
theorem playFault_of {l : List SJob} (hl : l.length ≤ 4000) (h : ∀ e ∈ l, Okj e) : playFault l = ⟨0, 0⟩ := by
  unfold playFault
  rw [if_neg (by omega), firstOf_none_of]
  · rfl
  · intro j _ hj
    have he := h l[j] (List.getElem_mem hj)
    have := he.At; have := he.C; have := he.Due
    simp only [playAt, List.getElem?_eq_getElem hj]
    rw [if_neg (by omega)]
/-- job a goes ahead of job b, by a policy, then by their times -/
def aheadJ (p : Int) (a b : SJob) : Prop := if p = 1 then a.P > b.P ∨ (a.P = b.P ∧ a.At < b.At) else a.Due < b.Due ∨ (a.Due = b.Due ∧ a.At < b.At)
instance (p : Int) (a b : SJob) : Decidable (aheadJ p a b) := by unfold aheadJ; infer_instance
theorem compare_eq (x y : Int) : cmp_Compare_int.f x y = if x < y then -1 else if x > y then 1 else 0 := by simp [cmp_Compare_int.f, cmp_isNaN_int.f]
theorem or2_eq (x y : Int) (K : Nat) (hK : 3 ≤ K) : cmp_Or_int.f K [x, y] = some (if x = 0 then y else x) := by
  obtain ⟨K, rfl⟩ : ∃ k, K = k + 3 := ⟨K - 3, by omega⟩
  simp only [cmp_Or_int.f, iter, cmp_Or_int.r0]
  by_cases hx : x = 0 <;> by_cases hy : y = 0 <;> simp [hx, hy]
/-- can it run at t? -/
def canJ (jobs : List SJob) (left : List Int) (t : Int) (i : Nat) : Prop := match jobs[i]?, left[i]? with
  | some j, some x => j.At ≤ t ∧ 0 < x
  | _, _ => False
instance (jobs : List SJob) (left : List Int) (t : Int) (i : Nat) : Decidable (canJ jobs left t i) := by unfold canJ; split <;> infer_instance
/-- the first of the first n -/
def firstTo (p : Int) (jobs : List SJob) (left : List Int) (t : Int) : Nat → Int
  | 0 => -1
  | n + 1 =>
    let b := firstTo p jobs left t n
    if canJ jobs left t n then
      (if b < 0 then (n : Int) else match jobs[n]?, jobs[b.toNat]? with
        | some x, some y => if aheadJ p x y then (n : Int) else b
        | _, _ => b)
    else b
theorem firstTo_cases (p : Int) (jobs : List SJob) (left : List Int) (t : Int) : ∀ n, n ≤ jobs.length → (firstTo p jobs left t n = -1 ∧ ∀ i, i < n → ¬ canJ jobs left t i) ∨
    (∃ (b : Nat) (y : SJob), firstTo p jobs left t n = (b : Int) ∧ b < n ∧ jobs[b]? = some y ∧ canJ jobs left t b ∧ ∀ i x, i < n → jobs[i]? = some x → canJ jobs left t i → ¬ aheadJ p x y ∧ (i < b → aheadJ p y x))
  | 0, _ => .inl ⟨rfl, fun i h => by omega⟩
  | n + 1, hn => by
    have hnx : jobs[n]? = some jobs[n] := List.getElem?_eq_getElem (by omega)
    generalize jobs[n] = x at hnx
    have irr : ∀ x : SJob, ¬ aheadJ p x x := fun x h => by unfold aheadJ at h; split at h <;> omega
    have tr : ∀ x y z : SJob, aheadJ p x y → ¬ aheadJ p z y → ¬ aheadJ p z x := fun x y z h k hh => by
      unfold aheadJ at h k hh; split at h <;> simp_all <;> omega
    have tr2 : ∀ x y z : SJob, aheadJ p x y → aheadJ p y z → aheadJ p x z := fun x y z h k => by
      unfold aheadJ at h k ⊢; split at h <;> simp_all <;> omega
    have tr3 : ∀ x y z : SJob, aheadJ p x y → ¬ aheadJ p z y → aheadJ p x z := fun x y z h k => by
      unfold aheadJ at h k ⊢; split at h <;> simp_all <;> omega
    rcases firstTo_cases p jobs left t n (by omega) with ⟨h1, h2⟩ | ⟨b, y, h1, h2, h3, h4, h5⟩
    · by_cases hc : canJ jobs left t n
      · right
        refine ⟨n, x, by simp only [firstTo, if_pos hc, h1]; rfl, by omega, hnx, hc, fun i z hi hz hcz => ?_⟩
        by_cases hin : i = n
        · subst hin; rw [hnx] at hz; cases hz; exact ⟨irr _, fun h => by omega⟩
        · exact absurd hcz (h2 i (by omega))
      · left
        refine ⟨by simp only [firstTo, if_neg hc, h1], fun i hi => ?_⟩
        by_cases hin : i = n
        · subst hin; exact hc
        · exact h2 i (by omega)
    · right
      by_cases hc : canJ jobs left t n
      · by_cases ha : aheadJ p x y
        · refine ⟨n, x, by simp only [firstTo, if_pos hc, h1, Int.toNat_natCast, hnx, h3, if_pos ha]; rw [if_neg (by omega)], by omega, hnx, hc, fun i z hi hz hcz => ?_⟩
          by_cases hin : i = n
          · subst hin; rw [hnx] at hz; cases hz; exact ⟨irr _, fun h => by omega⟩
          · obtain ⟨g1, g2⟩ := h5 i z (by omega) hz hcz
            exact ⟨tr x y z ha g1, fun _ => tr3 x y z ha g1⟩
        · refine ⟨b, y, by simp only [firstTo, if_pos hc, h1, Int.toNat_natCast, hnx, h3, if_neg ha]; rw [if_neg (by omega)], by omega, h3, h4, fun i z hi hz hcz => ?_⟩
          by_cases hin : i = n
          · subst hin; rw [hnx] at hz; cases hz; exact ⟨ha, fun h => by omega⟩
          · exact h5 i z (by omega) hz hcz
      · refine ⟨b, y, by simp only [firstTo, if_neg hc, h1], by omega, h3, h4, fun i z hi hz hcz => ?_⟩
        by_cases hin : i = n
        · subst hin; exact absurd hcz hc
        · exact h5 i z (by omega) hz hcz
theorem can_eq (jobs : List SJob) (left : List Int) (t : Int) (i : Nat) (hi : i < jobs.length) (hl : left.length = jobs.length) : sched_Play_1.f (i : Int) jobs t left = some (decide (canJ jobs left t i)) := by
  have h1 : jobs[i]? = some jobs[i] := List.getElem?_eq_getElem hi
  have h2 : left[i]? = some (left[i]'(by omega)) := List.getElem?_eq_getElem (by omega)
  simp only [sched_Play_1.f, Int.toNat_natCast, h1, h2, canJ]
  rw [if_pos (by omega)]
  by_cases h : jobs[i].At ≤ t
  · simp [h]
  · simp [h]
theorem First_eq (p : Int) (hp : p = 1 ∨ p = 2) (jobs : List SJob) (left : List Int) (t : Int) (hl : left.length = jobs.length) (K : Nat) (hK : jobs.length + 5 ≤ K) : sched_First.f K jobs jobs t left p = some (firstTo p jobs left t jobs.length) := by
  unfold sched_First.f
  have hr := iter_states (ρ := Int) (f := sched_First.r0 K jobs jobs t left p) (fun i => (firstTo p jobs left t i, i)) (fun _ => none) jobs.length (t := firstTo p jobs left t jobs.length) (fun i hi _ => by
    have hi' : (i : Int) < (jobs.length : Int) := by omega
    have h1 : jobs[i]? = some jobs[i] := List.getElem?_eq_getElem hi
    simp only [sched_First.r0, if_pos hi', h1, can_eq jobs left t i hi hl, decide_eq_true_eq, onwardS]
    by_cases hc : canJ jobs left t i
    · rw [if_pos hc]
      rcases firstTo_cases p jobs left t i (by omega) with ⟨g1, _⟩ | ⟨b, y, g1, g2, g3, _, _⟩
      · rw [g1, if_pos (by omega)]
        simp only [firstTo, if_pos hc, g1]
        rfl
      · rw [g1, if_neg (by omega), if_pos (by omega)]
        simp only [Int.toNat_natCast, g3]
        have e1 : firstTo p jobs left t (i + 1) = if aheadJ p jobs[i] y then (i : Int) else (b : Int) := by
          simp only [firstTo, if_pos hc, g1, Int.toNat_natCast, h1, g3]
          rw [if_neg (by omega)]
        rw [e1]
        rcases hp with rfl | rfl
        · simp [sched_rule.f, or2_eq _ _ K (show 3 ≤ K by omega), sched_byPriority.f, compare_eq, aheadJ]
          repeat' split
          all_goals first | rfl | (exfalso; omega) | simp_all
        · simp [sched_rule.f, or2_eq _ _ K (show 3 ≤ K by omega), sched_byDue.f, compare_eq, aheadJ]
          repeat' split
          all_goals first | rfl | (exfalso; omega) | simp_all
    · rw [if_neg hc]
      simp only [firstTo, if_neg hc]) (fun _ => by simp [sched_First.r0]) (K := K) (by omega)
  have h0 : firstTo p jobs left t 0 = -1 := rfl
  rw [h0, firstOf_none_of (fun _ _ _ => rfl)] at hr
  rw [hr]; rfl

/-- who runs in a tick -/
def nowOf (p : Int) (pre : Bool) (jobs : List SJob) (t : Int) (now : Int) (left : List Int) : Int :=
  if pre = true ∨ now < 0 ∨ left.getD now.toNat 0 = 0 then firstTo p jobs left t jobs.length else now
/-- one tick -/
def tickP (p : Int) (pre : Bool) (jobs : List SJob) (t : Int) (s : Int × List Int × List Int) : Int × List Int × List Int :=
  let b := nowOf p pre jobs t s.1 s.2.1
  if b < 0 then (b, s.2.1, s.2.2)
  else
    let left' := s.2.1.set b.toNat (s.2.1.getD b.toNat 0 - 1)
    (b, left', if left'.getD b.toNat 0 = 0 then s.2.2.set b.toNat (t + 1) else s.2.2)
/-- how it stands behind so many ticks: who ran last, what is left, the ends -/
def simP (p : Int) (pre : Bool) (jobs : List SJob) : Nat → Int × List Int × List Int
  | 0 => (-1, jobs.map (·.C), List.replicate jobs.length (-1))
  | t + 1 => tickP p pre jobs (t : Int) (simP p pre jobs t)
/-- what is left of job j behind t ticks -/
def leftP (p : Int) (pre : Bool) (jobs : List SJob) (t j : Nat) : Int := (simP p pre jobs t).2.1.getD j 0
def endP (p : Int) (pre : Bool) (jobs : List SJob) (t j : Nat) : Int := (simP p pre jobs t).2.2.getD j 0
/-- who runs in tick t -/
def runP (p : Int) (pre : Bool) (jobs : List SJob) (t : Nat) : Int := (simP p pre jobs (t + 1)).1
theorem getD_of {l : List Int} {i : Nat} {x : Int} (h : l[i]? = some x) : l.getD i 0 = x := by simp [List.getD, h]
theorem get_of_lt {l : List Int} {i : Nat} (h : i < l.length) : l[i]? = some (l.getD i 0) := by simp [List.getD, h]
structure SimOk (jobs : List SJob) (s : Int × List Int × List Int) : Prop where
  left : s.2.1.length = jobs.length
  ends : s.2.2.length = jobs.length
  now : s.1 = -1 ∨ ∃ b : Nat, s.1 = (b : Int) ∧ b < jobs.length
  nonneg : ∀ j, 0 ≤ s.2.1.getD j 0
  small : ∀ j, s.2.1.getD j 0 ≤ 10000
theorem nowOf_cases {p : Int} {pre : Bool} {jobs : List SJob} {s : Int × List Int × List Int} (h : SimOk jobs s) (t : Int) : (nowOf p pre jobs t s.1 s.2.1 = -1) ∨
    ∃ b : Nat, nowOf p pre jobs t s.1 s.2.1 = (b : Int) ∧ b < jobs.length ∧ 0 < s.2.1.getD b 0 := by
  unfold nowOf
  by_cases hc : pre = true ∨ s.1 < 0 ∨ s.2.1.getD s.1.toNat 0 = 0
  · rw [if_pos hc]
    rcases firstTo_cases p jobs s.2.1 t jobs.length (Nat.le_refl _) with ⟨h1, _⟩ | ⟨b, y, h1, h2, h3, h4, _⟩
    · exact .inl h1
    · refine .inr ⟨b, h1, h2, ?_⟩
      have hb : s.2.1[b]? = some (s.2.1.getD b 0) := get_of_lt (by rw [h.left]; exact h2)
      unfold canJ at h4
      rw [h3, hb] at h4
      exact h4.2
  · rw [if_neg hc]
    rcases h.now with h1 | ⟨b, h1, h2⟩
    · exact .inl h1
    · refine .inr ⟨b, h1, h2, ?_⟩
      have h3 : ¬ s.2.1.getD b 0 = 0 := fun h' => hc (.inr (.inr (by rw [h1]; exact h')))
      have := h.nonneg b
      omega
theorem getD_set (l : List Int) (i j : Nat) (x : Int) (hi : i < l.length) : (l.set i x).getD j 0 = if i = j then x else l.getD j 0 := by
  simp only [List.getD, List.getElem?_set]
  by_cases h : i = j
  · subst h; simp [hi]
  · simp [h]
theorem tickP_ok {p : Int} {pre : Bool} {jobs : List SJob} {s : Int × List Int × List Int} (h : SimOk jobs s) (t : Int) : SimOk jobs (tickP p pre jobs t s) := by
  unfold tickP
  rcases nowOf_cases (p := p) (pre := pre) h t with h1 | ⟨b, h1, h2, h3⟩
  · simp only [h1]
    rw [if_pos (by omega)]
    exact ⟨h.left, h.ends, .inl rfl, h.nonneg, h.small⟩
  · simp only [h1, Int.toNat_natCast]
    rw [if_neg (by omega)]
    have hbl : b < s.2.1.length := by rw [h.left]; exact h2
    refine ⟨by simp [h.left], ?_, .inr ⟨b, rfl, h2⟩, fun j => ?_, fun j => ?_⟩
    · simp only
      split <;> simp [h.ends]
    · rw [getD_set _ _ _ _ hbl]
      split
      · omega
      · exact h.nonneg j
    · rw [getD_set _ _ _ _ hbl]
      have := h.small b
      split
      · omega
      · exact h.small j
theorem simP_ok (p : Int) (pre : Bool) {jobs : List SJob} (hj : ∀ e ∈ jobs, Okj e) : ∀ t, SimOk jobs (simP p pre jobs t)
  | 0 => by
    have key : ∀ j, 0 ≤ (jobs.map (·.C)).getD j 0 ∧ (jobs.map (·.C)).getD j 0 ≤ 10000 := fun j => by
      simp only [List.getD, List.getElem?_map]
      cases hx : jobs[j]? with
      | none => simp
      | some e => have := (hj e (List.mem_of_getElem? hx)).C; simp; omega
    exact ⟨by simp [simP], by simp [simP], .inl rfl, fun j => (key j).1, fun j => (key j).2⟩
  | t + 1 => tickP_ok (simP_ok p pre hj t) _
def runsTill (p : Int) (pre : Bool) (jobs : List SJob) (n t : Nat) : List Int := (List.range n).map fun s => if s < t then runP p pre jobs s else 0
theorem Sched_p5_eq (p : Int) (hp : p = 1 ∨ p = 2) (pre : Bool) (jobs : List SJob) (t : Int) (s : Int × List Int × List Int) (h : SimOk jobs s) (K : Nat) (hK : jobs.length + 5 ≤ K) : sched_Play.p5 K jobs p pre s.1 t s.2.1 = some (.inl (nowOf p pre jobs t s.1 s.2.1)) := by
  have hF := First_eq p hp jobs s.2.1 t h.left K hK
  unfold sched_Play.p5 nowOf
  by_cases h1 : pre = true
  · rw [if_pos h1, if_pos (.inl h1), hF]
  rw [if_neg h1]
  by_cases h2 : s.1 < 0
  · rw [if_pos h2, if_pos (.inr (.inl h2)), hF]
  rw [if_neg h2, if_pos (by omega)]
  rcases h.now with h3 | ⟨b, h3, h4⟩
  · omega
  · have hb : s.2.1[s.1.toNat]? = some (s.2.1.getD s.1.toNat 0) := get_of_lt (by rw [h.left, h3]; simpa using h4)
    rw [hb]
    simp only
    by_cases h5 : s.2.1.getD s.1.toNat 0 = 0
    · rw [if_pos h5, if_pos (.inr (.inr h5)), hF]
    · rw [if_neg h5, if_neg]
      rintro (h6 | h6 | h6)
      · exact h1 h6
      · exact h2 h6
      · exact h5 h6
theorem Play_r4_eq (p : Int) (hp : p = 1 ∨ p = 2) (pre : Bool) (jobs : List SJob) (hj : ∀ e ∈ jobs, Okj e) (n : Nat) (hn : n ≤ 20000) (K : Nat) (hK : jobs.length + 5 ≤ K) (hK2 : n < K) :
    iter (sched_Play.r4 K jobs p pre (n : Int)) K ((-1), 0, jobs.map (·.C), List.replicate n 0, List.replicate jobs.length (-1)) = some (.inl (runsTill p pre jobs n n, (simP p pre jobs n).2.2)) := by
  have hr := iter_states (ρ := SPlayed × SFault) (f := sched_Play.r4 K jobs p pre (n : Int)) (fun i => ((simP p pre jobs i).1, (i : Int), (simP p pre jobs i).2.1, runsTill p pre jobs n i, (simP p pre jobs i).2.2)) (fun _ => none) n (t := (runsTill p pre jobs n n, (simP p pre jobs n).2.2)) (fun i hi _ => by
    have hi' : (i : Int) < (n : Int) := by omega
    have hok := simP_ok p pre hj i
    have hw : IntKind.i64.wrap ((i : Int) + 1) = ((i + 1 : Nat) : Int) := by rw [wrap64_small (by omega) (by omega)]; rfl
    have hrl : (runsTill p pre jobs n i).length = n := by simp [runsTill]
    have hri : (runsTill p pre jobs n i)[i]? = some 0 := by simp [runsTill, hi]
    have hset : ∀ b : Int, runP p pre jobs i = b → (runsTill p pre jobs n i).set i b = runsTill p pre jobs n (i + 1) := fun b hb => by
      apply List.ext_getElem?
      intro q
      rw [List.getElem?_set, hrl]
      by_cases hq : i = q
      · subst hq
        rw [if_pos rfl, if_pos hi]
        simp [runsTill, hi, hb]
      · rw [if_neg hq]
        simp only [runsTill, List.getElem?_map]
        by_cases hqn : q < n
        · rw [List.getElem?_range hqn]
          simp only [Option.map_some]
          by_cases hqi : q < i
          · rw [if_pos hqi, if_pos (by omega)]
          · rw [if_neg hqi, if_neg (by omega)]
        · rw [List.getElem?_eq_none (by simp; omega)]; rfl
    simp only [sched_Play.r4, if_pos hi', Sched_p5_eq p hp pre jobs (i : Int) _ hok K hK, if_pos (show (0 : Int) ≤ (i : Int) by omega), Int.toNat_natCast, hri, hw, onwardS]
    have hs : simP p pre jobs (i + 1) = tickP p pre jobs (i : Int) (simP p pre jobs i) := rfl
    have hrun : runP p pre jobs i = (tickP p pre jobs (i : Int) (simP p pre jobs i)).1 := rfl
    rcases nowOf_cases (p := p) (pre := pre) hok (i : Int) with h1 | ⟨b, h1, h2, h3⟩
    · rw [h1, if_pos (by omega)]
      have ht : tickP p pre jobs (i : Int) (simP p pre jobs i) = (-1, (simP p pre jobs i).2.1, (simP p pre jobs i).2.2) := by
        unfold tickP; simp only [h1]; rw [if_pos (by omega)]
      rw [hset (-1) (by rw [hrun, ht]), hs, ht]
    · rw [h1, if_neg (by omega), if_pos (by omega)]
      have hbl : b < (simP p pre jobs i).2.1.length := by rw [hok.left]; exact h2
      have hbe : b < (simP p pre jobs i).2.2.length := by rw [hok.ends]; exact h2
      have hsm := hok.small b
      have hw2 : IntKind.i64.wrap ((simP p pre jobs i).2.1.getD b 0 - 1) = (simP p pre jobs i).2.1.getD b 0 - 1 := wrap64_small (by omega) (by omega)
      have hget : ((simP p pre jobs i).2.1.set b ((simP p pre jobs i).2.1.getD b 0 - 1))[b]? = some ((simP p pre jobs i).2.1.getD b 0 - 1) := by simp [hbl]
      simp only [Int.toNat_natCast, get_of_lt hbl, hw2, hget, get_of_lt hbe]
      have ht : tickP p pre jobs (i : Int) (simP p pre jobs i) = ((b : Int), (simP p pre jobs i).2.1.set b ((simP p pre jobs i).2.1.getD b 0 - 1), if (simP p pre jobs i).2.1.getD b 0 - 1 = 0 then (simP p pre jobs i).2.2.set b ((i : Int) + 1) else (simP p pre jobs i).2.2) := by
        unfold tickP
        simp only [h1, Int.toNat_natCast]
        rw [if_neg (by omega), getD_set _ _ _ _ hbl, if_pos rfl]
      rw [hset (b : Int) (by rw [hrun, ht]), hs, ht]
      by_cases h0 : (simP p pre jobs i).2.1.getD b 0 - 1 = 0
      · rw [if_pos h0]
        simp only [if_pos h0]
        rfl
      · rw [if_neg h0]
        simp only [if_neg h0]) (fun _ => by simp [sched_Play.r4]) (K := K) hK2
  rw [firstOf_none_of (fun _ _ _ => rfl)] at hr
  have h0 : runsTill p pre jobs n 0 = List.replicate n 0 := by
    apply List.ext_getElem
    · simp [runsTill]
    · intro i h1 h2; simp [runsTill]
  simp only [h0] at hr
  exact hr
/-- how jobs are played -/
def playOf (jobs : List SJob) (p : Int) (pre : Bool) (n : Int) : SPlayed × SFault :=
  if (playFault jobs).Code = 0 then
    (if p = 1 ∨ p = 2 then
      (if n < 0 ∨ n > 20000 then (⟨[], []⟩, ⟨3, 0⟩) else (⟨runsTill p pre jobs n.toNat n.toNat, (simP p pre jobs n.toNat).2.2⟩, ⟨0, 0⟩))
    else (⟨[], []⟩, ⟨6, 0⟩))
  else (⟨[], []⟩, playFault jobs)
theorem Play_eq (jobs : List SJob) (p : Int) (pre : Bool) (n : Int) (K : Nat) (hK : 20010 ≤ K) : sched_Play.f K jobs p pre n = some (playOf jobs p pre n) := by
  unfold sched_Play.f playOf
  rw [schedCheck_eq jobs K (by omega)]
  simp only
  by_cases hc : (playFault jobs).Code = 0
  · rw [if_pos hc, if_pos hc]
    obtain ⟨hl, _, hj⟩ := playFault_ok hc
    by_cases hp : p = 1 ∨ p = 2
    · have hp0 : sched_Play.p0 p = some (.inl ()) := by rcases hp with rfl | rfl <;> simp [sched_Play.p0, sched_rule.f]
      rw [hp0, if_pos hp]
      simp only
      by_cases hn : n < 0 ∨ n > 20000
      · have hp1 : sched_Play.p1 n = some (.inr (⟨[], []⟩, ⟨3, 0⟩)) := by
          unfold sched_Play.p1
          by_cases h1 : n < 0
          · rw [if_pos h1]
          · rw [if_neg h1, if_pos (by omega)]
        rw [hp1, if_pos hn]
      · have hp1 : sched_Play.p1 n = some (.inl ()) := by unfold sched_Play.p1; rw [if_neg (by omega), if_neg (by omega)]
        obtain ⟨m, rfl⟩ := Int.eq_ofNat_of_zero_le (show 0 ≤ n by omega)
        have hp2 : sched_Play.p2 jobs (m : Int) = some (.inl (List.replicate m 0, List.replicate jobs.length 0)) := by
          unfold sched_Play.p2
          simp only [Int.toNat_natCast]
          rw [if_pos (by omega), if_pos (by omega), if_pos (by omega)]
        rw [hp1, if_neg hn]
        simp only [hp2, Int.toNat_natCast]
        rw [if_pos (by omega)]
        have hr := iter_states (ρ := SPlayed × SFault) (f := sched_Play.r3 jobs) (fun i => (i, (List.range jobs.length).map (fun q => if q < i then (jobs.map (·.C)).getD q 0 else 0), (List.range jobs.length).map (fun q => if q < i then (-1 : Int) else 0))) (fun _ => none) jobs.length (t := (jobs.map (·.C), List.replicate jobs.length (-1))) (fun i hi _ => by
          have hi' : (i : Int) < (jobs.length : Int) := by omega
          simp only [sched_Play.r3, if_pos hi', List.getElem?_eq_getElem hi, onwardS, List.getElem?_map, List.getElem?_range hi, Option.map_some]
          congr 3
          refine Prod.ext ?_ ?_
          · apply List.ext_getElem?
            intro q
            simp only [List.getElem?_set, List.length_map, List.length_range, List.getElem?_map]
            by_cases hq : i = q
            · subst hq; simp [hi]
            · rw [if_neg hq]
              by_cases hqn : q < jobs.length
              · rw [List.getElem?_range hqn]
                simp only [Option.map_some]
                by_cases hqi : q < i
                · rw [if_pos hqi, if_pos (by omega)]
                · rw [if_neg hqi, if_neg (by omega)]
              · rw [List.getElem?_eq_none (by simp; omega)]; rfl
          · apply List.ext_getElem?
            intro q
            simp only [List.getElem?_set, List.length_map, List.length_range, List.getElem?_map]
            by_cases hq : i = q
            · subst hq; simp [hi]
            · rw [if_neg hq]
              by_cases hqn : q < jobs.length
              · rw [List.getElem?_range hqn]
                simp only [Option.map_some]
                by_cases hqi : q < i
                · rw [if_pos hqi, if_pos (by omega)]
                · rw [if_neg hqi, if_neg (by omega)]
              · rw [List.getElem?_eq_none (by simp; omega)]; rfl) (fun _ => by
          simp only [sched_Play.r3]
          rw [if_neg (by omega)]
          congr 4
          · apply List.ext_getElem
            · simp
            · intro q h1 h2
              have hq : q < jobs.length := by simpa using h1
              simp [hq]
          · apply List.ext_getElem
            · simp
            · intro q h1 h2
              have hq : q < jobs.length := by simpa using h1
              simp [hq]) (K := K) (by omega)
        rw [firstOf_none_of (fun _ _ _ => rfl)] at hr
        have e1 : (List.range jobs.length).map (fun q => if q < 0 then (jobs.map (·.C)).getD q 0 else 0) = List.replicate jobs.length (0 : Int) := by
          apply List.ext_getElem
          · simp
          · intro i h1 h2; simp
        have e2 : (List.range jobs.length).map (fun q => if q < 0 then (-1 : Int) else 0) = List.replicate jobs.length (0 : Int) := by
          apply List.ext_getElem
          · simp
          · intro i h1 h2; simp
        simp only [e1, e2] at hr
        rw [hr]
        simp only [leave, Play_r4_eq p hp pre jobs hj m (by omega) K (by omega) (by omega)]
    · have hp0 : sched_Play.p0 p = some (.inr (⟨[], []⟩, ⟨6, 0⟩)) := by
        unfold sched_Play.p0 sched_rule.f
        rw [if_neg (fun h => hp (.inl h)), if_neg (fun h => hp (.inr h)), if_pos rfl]
      rw [hp0, if_neg hp]
  · rw [if_neg hc, if_neg hc]
    rfl
/-- who isn't done when it is due -/
def lateAt (jobs : List SJob) (n : Nat) (ends : List Int) (i : Nat) : Bool := match jobs[i]?, ends[i]? with
  | some j, some e => decide (e > j.Due) || (decide (e < 0) && decide (j.Due ≤ (n : Int)))
  | _, _ => false
def lateTill (jobs : List SJob) (n : Nat) (ends : List Int) (k : Nat) : List Int := (List.range k).filterMap fun i => if lateAt jobs n ends i = true then some (i : Int) else none
theorem Late_eq (jobs : List SJob) (runs ends : List Int) (hl : jobs.length ≤ 5000) (K : Nat) (hK : 5010 ≤ K) : sched_Late.f K jobs runs ends = some (if ends.length = jobs.length then (lateTill jobs runs.length ends jobs.length, ⟨0, 0⟩) else ([], ⟨2, 0⟩)) := by
  unfold sched_Late.f
  by_cases h : (ends.length : Int) = (jobs.length : Int)
  · rw [if_pos h, if_pos (by omega)]
    have hr := iter_states (ρ := List Int × SFault) (f := sched_Late.r0 jobs runs ends) (fun i => (lateTill jobs runs.length ends i, i)) (fun _ => none) jobs.length (t := lateTill jobs runs.length ends jobs.length) (fun i hi _ => by
      have hi' : (i : Int) < (jobs.length : Int) := by omega
      have hie : i < ends.length := by omega
      have hlen : (lateTill jobs runs.length ends i).length < 17592186044416 := by
        have : (lateTill jobs runs.length ends i).length ≤ i := by unfold lateTill; exact Nat.le_trans (List.length_filterMap_le _ _) (by simp)
        omega
      have hs : lateTill jobs runs.length ends (i + 1) = lateTill jobs runs.length ends i ++ (if lateAt jobs runs.length ends i = true then [(i : Int)] else []) := by
        unfold lateTill
        rw [List.range_succ, List.filterMap_append]
        congr 1
        by_cases h : lateAt jobs runs.length ends i = true <;> simp [h]
      rw [hs]
      simp only [sched_Late.r0, if_pos hi', List.getElem?_eq_getElem hi, List.getElem?_eq_getElem hie, if_pos hlen, onwardS, lateAt]
      by_cases h1 : ends[i] > jobs[i].Due
      · rw [if_pos h1, if_pos (by simp; omega)]
      · rw [if_neg h1]
        by_cases h2 : ends[i] < 0
        · rw [if_pos h2]
          by_cases h3 : jobs[i].Due ≤ (runs.length : Int)
          · rw [if_pos h3, if_pos (by simp; omega)]
          · rw [if_neg h3, if_neg (by simp; omega), List.append_nil]
        · rw [if_neg h2, if_neg (by simp; omega), List.append_nil]) (fun _ => by simp [sched_Late.r0]) (K := K) (by omega)
    have h0 : lateTill jobs runs.length ends 0 = [] := rfl
    rw [h0, firstOf_none_of (fun _ _ _ => rfl)] at hr
    rw [hr]; rfl
  · rw [if_neg h, if_neg (by omega)]
theorem playOf_two : playOf [⟨0, 0, 3, 9, 1⟩, ⟨0, 1, 1, 3, 2⟩] 1 true 5 = (⟨[0, 1, 0, 0, -1], [4, 2]⟩, ⟨0, 0⟩) := by kernel_rfl
theorem runs_true (K : Nat) (hK : 20010 ≤ K) : runs.f K = some true := by
  unfold runs.f
  rw [Play_eq _ _ _ _ K hK, playOf_two]
  simp only [Late_eq _ _ _ (show ([⟨0, 0, 3, 9, 1⟩, ⟨0, 1, 1, 3, 2⟩] : List SJob).length ≤ 5000 by simp) K (by omega)]
  have h1 : lateTill [⟨0, 0, 3, 9, 1⟩, ⟨0, 1, 1, 3, 2⟩] ([0, 1, 0, 0, -1] : List Int).length [4, 2] ([⟨0, 0, 3, 9, 1⟩, ⟨0, 1, 1, 3, 2⟩] : List SJob).length = [] := by decide +kernel
  simp only [h1, punctualsame_Same_int_self _ K (show ([0, 1, 0, 0, -1] : List Int).length < K by simp; omega), punctualsame_Same_int_self _ K (show ([4, 2] : List Int).length < K by simp; omega)]
  rfl

def sumN (f : Nat → Int) : Nat → Int
  | 0 => 0
  | n + 1 => sumN f n + f n
theorem sumN_congr {f g : Nat → Int} : ∀ {n : Nat}, (∀ j, j < n → f j = g j) → sumN f n = sumN g n
  | 0, _ => rfl
  | n + 1, h => by simp only [sumN]; rw [sumN_congr (fun j hj => h j (by omega)), h n (by omega)]
theorem sumN_le {f g : Nat → Int} : ∀ {n : Nat}, (∀ j, j < n → f j ≤ g j) → sumN f n ≤ sumN g n
  | 0, _ => Int.le_refl _
  | n + 1, h => by
    simp only [sumN]
    have := sumN_le (n := n) (fun j hj => h j (by omega))
    have := h n (by omega)
    omega
theorem sumN_nonneg {f : Nat → Int} : ∀ {n : Nat}, (∀ j, j < n → 0 ≤ f j) → 0 ≤ sumN f n
  | 0, _ => Int.le_refl _
  | n + 1, h => by
    simp only [sumN]
    have := sumN_nonneg (n := n) (fun j hj => h j (by omega))
    have := h n (by omega)
    omega
theorem sumN_zero {f : Nat → Int} {n : Nat} (h : ∀ j, j < n → f j = 0) : sumN f n = 0 := by
  rw [sumN_congr (g := fun _ => 0) h]
  induction n with
  | zero => rfl
  | succ n ih => simp only [sumN]; rw [ih (fun j hj => h j (by omega))]; rfl
theorem sumN_one {f g : Nat → Int} {b : Nat} {d : Int} : ∀ {n : Nat}, b < n → f b = g b + d → (∀ j, j < n → j ≠ b → f j = g j) → sumN f n = sumN g n + d
  | 0, h, _, _ => by omega
  | n + 1, h, hb, ho => by
    simp only [sumN]
    by_cases hn : n = b
    · subst hn
      rw [hb, sumN_congr (fun j hj => ho j (by omega) (by omega))]
      omega
    · rw [sumN_one (n := n) (by omega) hb (fun j hj hne => ho j (by omega) hne), ho n (by omega) hn]
      omega
theorem sumN_term {f : Nat → Int} {n k : Nat} (h : ∀ j, j < n → 0 ≤ f j) (hk : k < n) : f k ≤ sumN f n := by
  have h1 := sumN_one (f := f) (g := fun j => if j = k then 0 else f j) (b := k) (d := f k) hk (by simp) (fun j _ hne => by simp [hne])
  have h2 := sumN_nonneg (f := fun j => if j = k then 0 else f j) (n := n) (fun j hj => by show 0 ≤ (if j = k then 0 else f j); split; exact Int.le_refl _; exact h j hj)
  omega
theorem sumN_add (f g : Nat → Int) : ∀ n, sumN (fun j => f j + g j) n = sumN f n + sumN g n
  | 0 => rfl
  | n + 1 => by simp only [sumN]; rw [sumN_add f g n]; omega
theorem sumN_swap (f : Nat → Nat → Int) (m : Nat) : ∀ n, sumN (fun j => sumN (fun o => f o j) m) n = sumN (fun o => sumN (fun j => f o j) n) m
  | 0 => by
    show (0 : Int) = _
    symm
    exact sumN_zero (fun _ _ => rfl)
  | n + 1 => by
    simp only [sumN]
    rw [sumN_swap f m n, ← sumN_add]
theorem sumN_pick {f : Nat → Int} {n k : Nat} (hk : k < n) (h : ∀ j, j < n → j ≠ k → f j = 0) : sumN f n = f k := by
  have h1 := sumN_one (f := f) (g := fun _ => 0) (b := k) (d := f k) hk (by simp) (fun j hj hne => h j hj hne)
  rw [h1, sumN_zero (fun _ _ => rfl)]
  omega
/-- the greatest place up to m with a property -/
theorem exists_last {p : Nat → Prop} (m : Nat) (h0 : p 0) : ∃ t, t ≤ m ∧ p t ∧ ∀ s, t < s → s ≤ m → ¬ p s := by
  induction m with
  | zero => exact ⟨0, Nat.le_refl _, h0, fun s h1 h2 => by omega⟩
  | succ m ih =>
    by_cases h : p (m + 1)
    · exact ⟨m + 1, Nat.le_refl _, h, fun s h1 h2 => by omega⟩
    · obtain ⟨t, h1, h2, h3⟩ := ih
      refine ⟨t, by omega, h2, fun s h4 h5 => ?_⟩
      by_cases hs : s = m + 1
      · subst hs; exact h
      · exact h3 s h4 (by omega)
/-- work that is done tick by tick: what is left of n jobs; those of a level, which go ahead of all others -/
structure Level (n : Nat) (L : Nat → Nat → Int) (H : Nat → Prop) (r : Nat → Nat) (c : Nat → Int) : Prop where
  start : ∀ j, j < n → L 0 j = c j
  nonneg : ∀ t j, 0 ≤ L t j
  down : ∀ t j, L (t + 1) j ≤ L t j
  wait : ∀ t j, j < n → t < r j → L (t + 1) j = L t j
  runs : ∀ t, (∃ j, j < n ∧ H j ∧ r j ≤ t ∧ 0 < L t j) → ∃ b, b < n ∧ H b ∧ r b ≤ t ∧ 0 < L t b ∧ L (t + 1) b = L t b - 1 ∧ ∀ j, j < n → j ≠ b → L (t + 1) j = L t j
theorem Level.mono {n : Nat} {L : Nat → Nat → Int} {H : Nat → Prop} {r : Nat → Nat} {c : Nat → Int} (h : Level n L H r c) {t t' : Nat} (ht : t ≤ t') (j : Nat) : L t' j ≤ L t j := by
  induction t' with
  | zero => obtain rfl : t = 0 := by omega
            exact Int.le_refl _
  | succ t' ih =>
    by_cases he : t = t' + 1
    · subst he; exact Int.le_refl _
    · have := ih (by omega); have := h.down t' j; omega
theorem Level.still {n : Nat} {L : Nat → Nat → Int} {H : Nat → Prop} {r : Nat → Nat} {c : Nat → Int} (h : Level n L H r c) {t : Nat} {j : Nat} (hj : j < n) (ht : t ≤ r j) : L t j = c j := by
  induction t with
  | zero => exact h.start j hj
  | succ t ih => rw [h.wait t j hj (by omega)]; exact ih (by omega)
/-- if of a level never more comes in w ticks than can be done in them, then each of it is done w ticks behind its coming -/
theorem Level.done {n : Nat} {L : Nat → Nat → Int} {H : Nat → Prop} [DecidablePred H] {r : Nat → Nat} {c : Nat → Int} (h : Level n L H r c) (w : Nat) (hw : 1 ≤ w)
    (hsum : ∀ t0, sumN (fun j => if H j ∧ t0 ≤ r j ∧ r j < t0 + w then c j else 0) n ≤ w) {k : Nat} (hk : k < n) (hHk : H k) : L (r k + w) k = 0 := by
  obtain ⟨t0, ht0, hid, hlast⟩ := exists_last (p := fun t => ∀ j, j < n → H j → r j < t → L t j = 0) (r k) (fun j _ _ h => by omega)
  by_cases hall : ∀ t, t0 ≤ t → t < t0 + w → ∃ j, j < n ∧ H j ∧ r j ≤ t ∧ 0 < L t j
  · -- the core is never idle for this level
    have hA : ∀ d, d ≤ w → sumN (fun j => if H j ∧ t0 ≤ r j ∧ r j < t0 + w then L (t0 + d) j else 0) n ≤ (w : Int) - d := by
      intro d
      induction d with
      | zero =>
        intro _
        have := hsum t0
        rw [sumN_congr (g := fun j => if H j ∧ t0 ≤ r j ∧ r j < t0 + w then c j else 0) (fun j hj => by
          by_cases hc : H j ∧ t0 ≤ r j ∧ r j < t0 + w
          · rw [if_pos hc, if_pos hc]; exact h.still hj hc.2.1
          · rw [if_neg hc, if_neg hc])]
        omega
      | succ d ih =>
        intro hd
        have ih := ih (by omega)
        obtain ⟨b, hb, hHb, hrb, hLb, hstep, hoth⟩ := h.runs (t0 + d) (hall (t0 + d) (by omega) (by omega))
        have hrb0 : t0 ≤ r b := by
          apply Nat.le_of_not_lt
          intro hlt
          have h1 := hid b hb hHb hlt
          have h2 := h.mono (show t0 ≤ t0 + d by omega) b
          omega
        have := sumN_one (f := fun j => if H j ∧ t0 ≤ r j ∧ r j < t0 + w then L (t0 + (d + 1)) j else 0) (g := fun j => if H j ∧ t0 ≤ r j ∧ r j < t0 + w then L (t0 + d) j else 0) (b := b) (d := -1) hb (by
          rw [if_pos ⟨hHb, hrb0, by omega⟩, if_pos ⟨hHb, hrb0, by omega⟩]
          show L (t0 + d + 1) b = _
          rw [hstep]; omega) (fun j hj hne => by
          by_cases hc : H j ∧ t0 ≤ r j ∧ r j < t0 + w
          · rw [if_pos hc, if_pos hc]; exact hoth j hj hne
          · rw [if_neg hc, if_neg hc])
        rw [this]
        omega
    have hend := hA w (Nat.le_refl _)
    have hzero : ∀ j, j < n → H j → r j < t0 + w → L (t0 + w) j = 0 := by
      intro j hj hHj hrj
      by_cases hr0 : r j < t0
      · have h1 := hid j hj hHj hr0
        have h2 := h.mono (show t0 ≤ t0 + w by omega) j
        have h3 := h.nonneg (t0 + w) j
        omega
      · have h1 := sumN_term (f := fun j => if H j ∧ t0 ≤ r j ∧ r j < t0 + w then L (t0 + w) j else 0) (n := n) (k := j) (fun i _ => by
          by_cases hc : H i ∧ t0 ≤ r i ∧ r i < t0 + w
          · rw [if_pos hc]; exact h.nonneg _ _
          · rw [if_neg hc]; exact Int.le_refl _) hj
        rw [if_pos ⟨hHj, by omega, hrj⟩] at h1
        have h3 := h.nonneg (t0 + w) j
        omega
    by_cases hrk : r k < t0 + w
    · have h1 := hzero k hk hHk hrk
      have h2 := h.mono (show t0 + w ≤ r k + w by omega) k
      have h3 := h.nonneg (r k + w) k
      omega
    · exact absurd hzero (hlast (t0 + w) (by omega) (by omega))
  · have ⟨t, ht⟩ := Classical.not_forall.1 hall
    have ⟨ht1, ht⟩ := Classical.not_imp.1 ht
    have ⟨ht2, hnone⟩ := Classical.not_imp.1 ht
    have hz : ∀ j, j < n → H j → r j ≤ t → L t j = 0 := fun j hj hHj hrj => by
      have h1 := h.nonneg t j
      by_cases h0 : 0 < L t j
      · exact absurd ⟨j, hj, hHj, hrj, h0⟩ hnone
      · omega
    by_cases hrk : r k ≤ t
    · have h1 := hz k hk hHk hrk
      have h2 := h.mono (show t ≤ r k + w by omega) k
      have h3 := h.nonneg (r k + w) k
      omega
    · refine absurd (fun j hj hHj hrj => ?_) (hlast (t + 1) (by omega) (by omega))
      have h1 := hz j hj hHj (by omega)
      have h2 := h.down t j
      have h3 := h.nonneg (t + 1) j
      omega
/-- so much of one task lies in w ticks at most, if it comes T apart, J late at most -/
theorem spaced {n : Nat} {q : Nat → Prop} [DecidablePred q] {r : Nat → Nat} {a c : Nat → Int} {C T J : Int} (hT : 1 ≤ T) (hC : 0 ≤ C) (hc : ∀ j, j < n → q j → c j ≤ C) (hra : ∀ j, j < n → q j → a j ≤ r j ∧ (r j : Int) ≤ a j + J)
    (hsp : ∀ i j, i < j → j < n → q i → q j → a i + T ≤ a j) (t0 w : Nat) (hw : 1 ≤ w) (hJ : 0 ≤ J) :
    sumN (fun j => if q j ∧ t0 ≤ r j ∧ r j < t0 + w then c j else 0) n ≤ ((w + J + T - 1) / T) * C := by
  have key : ∀ m, m ≤ n → (sumN (fun j => if q j ∧ t0 ≤ r j ∧ r j < t0 + w then c j else 0) m ≤ 0 ∧ ∀ j, j < m → ¬ (q j ∧ t0 ≤ r j ∧ r j < t0 + w)) ∨
      ∃ j, j < m ∧ (q j ∧ t0 ≤ r j ∧ r j < t0 + w) ∧ sumN (fun j => if q j ∧ t0 ≤ r j ∧ r j < t0 + w then c j else 0) m ≤ ((a j - (t0 - J)) / T + 1) * C := by
    intro m
    induction m with
    | zero => intro _; exact .inl ⟨Int.le_refl _, fun j h => by omega⟩
    | succ m ih =>
      intro hm
      have ih := ih (by omega)
      simp only [sumN]
      by_cases hc' : q m ∧ t0 ≤ r m ∧ r m < t0 + w
      · right
        refine ⟨m, by omega, hc', ?_⟩
        rw [if_pos hc']
        have hcm := hc m (by omega) hc'.1
        have hrm := hra m (by omega) hc'.1
        rcases ih with ⟨h1, _⟩ | ⟨j, hj, hcj, h1⟩
        · have h0 : 0 ≤ (a m - (t0 - J)) / T := Int.ediv_nonneg (by omega) (by omega)
          have : 1 * C ≤ ((a m - (t0 - J)) / T + 1) * C := Int.mul_le_mul_of_nonneg_right (by omega) hC
          omega
        · have hs := hsp j m hj (by omega) hcj.1 hc'.1
          have h2 : (a j - (t0 - J)) / T + 1 ≤ (a m - (t0 - J)) / T := by
            have : (a j - (t0 - J) + T * 1) / T = (a j - (t0 - J)) / T + 1 := Int.add_mul_ediv_left _ _ (by omega)
            rw [← this]
            exact Int.ediv_le_ediv (by omega) (by omega)
          have h3 : ((a j - (t0 - J)) / T + 1 + 1) * C ≤ ((a m - (t0 - J)) / T + 1) * C := Int.mul_le_mul_of_nonneg_right (by omega) hC
          rw [Int.add_mul ((a j - (t0 - J)) / T + 1)] at h3
          omega
      · rw [if_neg hc']
        rcases ih with ⟨h1, h2⟩ | ⟨j, hj, hcj, h1⟩
        · left
          refine ⟨by omega, fun j hj => ?_⟩
          by_cases hjm : j = m
          · subst hjm; exact hc'
          · exact h2 j (by omega)
        · exact .inr ⟨j, by omega, hcj, by omega⟩
  have e : (w + J + T - 1) / T = (w + J - 1) / T + 1 := by
    have : (w + J - 1 + T * 1) / T = (w + J - 1) / T + 1 := Int.add_mul_ediv_left _ _ (by omega)
    rw [← this]; congr 1; omega
  rw [e]
  rcases key n (Nat.le_refl _) with ⟨h1, _⟩ | ⟨j, hj, hcj, h1⟩
  · have h0 : 0 ≤ ((w : Int) + J - 1) / T := Int.ediv_nonneg (by omega) (by omega)
    have : 0 ≤ ((w + J - 1) / T + 1) * C := Int.mul_nonneg (by omega) hC
    omega
  · have hrj := hra j hj hcj.1
    have : (a j - (t0 - J)) / T ≤ (w + J - 1) / T := Int.ediv_le_ediv (by omega) (by omega)
    have := Int.mul_le_mul_of_nonneg_right (show (a j - (t0 - J)) / T + 1 ≤ (w + J - 1) / T + 1 by omega) hC
    omega

def atN (jobs : List SJob) (j : Nat) : Nat := match jobs[j]? with | some e => e.At.toNat | none => 0
def costOf (jobs : List SJob) (j : Nat) : Int := (jobs.map (·.C)).getD j 0
theorem costOf_some {jobs : List SJob} {j : Nat} {e : SJob} (h : jobs[j]? = some e) : costOf jobs j = e.C := by simp [costOf, List.getD, h]
theorem atN_some {jobs : List SJob} {j : Nat} {e : SJob} (h : jobs[j]? = some e) : atN jobs j = e.At.toNat := by simp [atN, h]
/-- one tick, told of what is left -/
theorem leftP_step (p : Int) (pre : Bool) {jobs : List SJob} (hj : ∀ e ∈ jobs, Okj e) (t : Nat) :
    (runP p pre jobs t = -1 ∧ ∀ j, leftP p pre jobs (t + 1) j = leftP p pre jobs t j ∧ endP p pre jobs (t + 1) j = endP p pre jobs t j) ∨
    ∃ b : Nat, runP p pre jobs t = (b : Int) ∧ b < jobs.length ∧ 0 < leftP p pre jobs t b ∧ leftP p pre jobs (t + 1) b = leftP p pre jobs t b - 1 ∧ endP p pre jobs (t + 1) b = (if leftP p pre jobs t b = 1 then (t : Int) + 1 else endP p pre jobs t b) ∧
      ∀ j, j ≠ b → leftP p pre jobs (t + 1) j = leftP p pre jobs t j ∧ endP p pre jobs (t + 1) j = endP p pre jobs t j := by
  have hok := simP_ok p pre hj t
  have hs : simP p pre jobs (t + 1) = tickP p pre jobs (t : Int) (simP p pre jobs t) := rfl
  rcases nowOf_cases (p := p) (pre := pre) hok (t : Int) with h1 | ⟨b, h1, h2, h3⟩
  · have ht : tickP p pre jobs (t : Int) (simP p pre jobs t) = (-1, (simP p pre jobs t).2.1, (simP p pre jobs t).2.2) := by
      unfold tickP; simp only [h1]; rw [if_pos (by omega)]
    left
    unfold runP leftP endP
    rw [hs, ht]
    exact ⟨rfl, fun _ => ⟨rfl, rfl⟩⟩
  · have hbl : b < (simP p pre jobs t).2.1.length := by rw [hok.left]; exact h2
    have hbe : b < (simP p pre jobs t).2.2.length := by rw [hok.ends]; exact h2
    have ht : tickP p pre jobs (t : Int) (simP p pre jobs t) = ((b : Int), (simP p pre jobs t).2.1.set b ((simP p pre jobs t).2.1.getD b 0 - 1), if (simP p pre jobs t).2.1.getD b 0 - 1 = 0 then (simP p pre jobs t).2.2.set b ((t : Int) + 1) else (simP p pre jobs t).2.2) := by
      unfold tickP
      simp only [h1, Int.toNat_natCast]
      rw [if_neg (by omega), getD_set _ _ _ _ hbl, if_pos rfl]
    right
    refine ⟨b, ?_, h2, h3, ?_, ?_, fun j hne => ⟨?_, ?_⟩⟩
    · unfold runP; rw [hs, ht]
    · unfold leftP; rw [hs, ht]; simp only; rw [getD_set _ _ _ _ hbl, if_pos rfl]
    · unfold leftP endP; rw [hs, ht]
      simp only
      by_cases h0 : (simP p pre jobs t).2.1.getD b 0 = 1
      · rw [if_pos (by omega), if_pos h0, getD_set _ _ _ _ hbe, if_pos rfl]
      · rw [if_neg (by omega), if_neg h0]
    · unfold leftP; rw [hs, ht]; simp only; rw [getD_set _ _ _ _ hbl, if_neg (fun h => hne h.symm)]
    · unfold endP; rw [hs, ht]
      simp only
      split
      · rw [getD_set _ _ _ _ hbe, if_neg (fun h => hne h.symm)]
      · rfl
theorem leftP_zero (p : Int) (pre : Bool) (jobs : List SJob) (j : Nat) : leftP p pre jobs 0 j = costOf jobs j := rfl
theorem leftP_nonneg (p : Int) (pre : Bool) {jobs : List SJob} (hj : ∀ e ∈ jobs, Okj e) (t j : Nat) : 0 ≤ leftP p pre jobs t j := (simP_ok p pre hj t).nonneg j
theorem leftP_down (p : Int) (pre : Bool) {jobs : List SJob} (hj : ∀ e ∈ jobs, Okj e) (t j : Nat) : leftP p pre jobs (t + 1) j ≤ leftP p pre jobs t j := by
  rcases leftP_step p pre hj t with ⟨_, h⟩ | ⟨b, _, _, _, h1, _, h⟩
  · rw [(h j).1]; exact Int.le_refl _
  · by_cases hb : j = b
    · subst hb; omega
    · rw [(h j hb).1]; exact Int.le_refl _
theorem leftP_mono (p : Int) (pre : Bool) {jobs : List SJob} (hj : ∀ e ∈ jobs, Okj e) {t t' : Nat} (ht : t ≤ t') (j : Nat) : leftP p pre jobs t' j ≤ leftP p pre jobs t j := by
  induction t' with
  | zero => obtain rfl : t = 0 := by omega
            exact Int.le_refl _
  | succ t' ih =>
    by_cases he : t = t' + 1
    · subst he; exact Int.le_refl _
    · have := ih (by omega); have := leftP_down p pre hj t' j; omega
/-- when a job is done, its end says so -/
theorem endP_spec (p : Int) (pre : Bool) {jobs : List SJob} (hj : ∀ e ∈ jobs, Okj e) {j : Nat} (hjl : j < jobs.length) : ∀ t, (0 < leftP p pre jobs t j → endP p pre jobs t j = -1) ∧
    (leftP p pre jobs t j = 0 → ∃ s : Nat, 1 ≤ s ∧ s ≤ t ∧ endP p pre jobs t j = (s : Int) ∧ leftP p pre jobs s j = 0 ∧ 0 < leftP p pre jobs (s - 1) j)
  | 0 => by
    have he : jobs[j]? = some jobs[j] := List.getElem?_eq_getElem hjl
    have hC := (hj _ (List.getElem_mem hjl)).C
    have h0 : leftP p pre jobs 0 j = jobs[j].C := by rw [leftP_zero, costOf_some he]
    refine ⟨fun _ => ?_, fun h => by omega⟩
    simp [endP, simP, List.getD, List.getElem?_replicate, hjl]
  | t + 1 => by
    obtain ⟨ih1, ih2⟩ := endP_spec p pre hj hjl t
    have keep : leftP p pre jobs (t + 1) j = leftP p pre jobs t j → endP p pre jobs (t + 1) j = endP p pre jobs t j → (0 < leftP p pre jobs (t + 1) j → endP p pre jobs (t + 1) j = -1) ∧
        (leftP p pre jobs (t + 1) j = 0 → ∃ s : Nat, 1 ≤ s ∧ s ≤ t + 1 ∧ endP p pre jobs (t + 1) j = (s : Int) ∧ leftP p pre jobs s j = 0 ∧ 0 < leftP p pre jobs (s - 1) j) := fun h1 h2 => by
      rw [h1, h2]
      refine ⟨ih1, fun h => ?_⟩
      obtain ⟨s, a, b, c⟩ := ih2 h
      exact ⟨s, a, by omega, c⟩
    rcases leftP_step p pre hj t with ⟨_, h⟩ | ⟨b, _, _, hpos, h1, h2, h⟩
    · exact keep (h j).1 (h j).2
    · by_cases hb : j = b
      · subst hb
        by_cases h3 : leftP p pre jobs t j = 1
        · rw [if_pos h3] at h2
          refine ⟨fun h' => by omega, fun _ => ⟨t + 1, by omega, Nat.le_refl _, by rw [h2]; rfl, by omega, hpos⟩⟩
        · rw [if_neg h3] at h2
          exact ⟨fun _ => by rw [h2]; exact ih1 hpos, fun h' => by omega⟩
      · exact keep (h j hb).1 (h j hb).2
theorem endP_done (p : Int) (pre : Bool) {jobs : List SJob} (hj : ∀ e ∈ jobs, Okj e) {j : Nat} (hjl : j < jobs.length) {s t : Nat} (hs : leftP p pre jobs s j = 0) (ht : s ≤ t) : 1 ≤ endP p pre jobs t j ∧ endP p pre jobs t j ≤ s := by
  have hz : leftP p pre jobs t j = 0 := by have := leftP_mono p pre hj ht j; have := leftP_nonneg p pre hj t j; omega
  obtain ⟨u, h1, h2, h3, h4, h5⟩ := (endP_spec p pre hj hjl t).2 hz
  rw [h3]
  refine ⟨by omega, ?_⟩
  have : u ≤ s := by
    apply Nat.le_of_not_lt
    intro hlt
    have := leftP_mono p pre hj (show s ≤ u - 1 by omega) j
    omega
  omega
theorem ends_get (p : Int) (pre : Bool) {jobs : List SJob} (hj : ∀ e ∈ jobs, Okj e) {j : Nat} (hjl : j < jobs.length) (t : Nat) : (simP p pre jobs t).2.2[j]? = some (endP p pre jobs t j) := get_of_lt (by rw [(simP_ok p pre hj t).ends]; exact hjl)
/-- who goes first at a tick, where who goes first goes at once -/
theorem runP_first (p : Int) {jobs : List SJob} (hj : ∀ e ∈ jobs, Okj e) (t : Nat) : (runP p true jobs t = -1 ∧ ∀ j e, jobs[j]? = some e → ¬ (e.At ≤ (t : Int) ∧ 0 < leftP p true jobs t j)) ∨
    ∃ (b : Nat) (y : SJob), runP p true jobs t = (b : Int) ∧ jobs[b]? = some y ∧ y.At ≤ (t : Int) ∧ 0 < leftP p true jobs t b ∧ ∀ j x, jobs[j]? = some x → x.At ≤ (t : Int) → 0 < leftP p true jobs t j → ¬ aheadJ p x y ∧ (j < b → aheadJ p y x) := by
  have hok := simP_ok p true hj t
  have hnow : nowOf p true jobs (t : Int) (simP p true jobs t).1 (simP p true jobs t).2.1 = firstTo p jobs (simP p true jobs t).2.1 (t : Int) jobs.length := by unfold nowOf; rw [if_pos (.inl rfl)]
  have hrun : runP p true jobs t = firstTo p jobs (simP p true jobs t).2.1 (t : Int) jobs.length := by
    rw [← hnow]
    unfold runP
    show (tickP p true jobs (t : Int) (simP p true jobs t)).1 = _
    unfold tickP
    simp only
    split <;> rfl
  have hcan : ∀ j e, jobs[j]? = some e → (canJ jobs (simP p true jobs t).2.1 (t : Int) j ↔ e.At ≤ (t : Int) ∧ 0 < leftP p true jobs t j) := fun j e he => by
    unfold canJ
    rw [he, get_of_lt (by rw [hok.left]; exact lt_of_get he)]
    rfl
  rw [hrun]
  rcases firstTo_cases p jobs (simP p true jobs t).2.1 (t : Int) jobs.length (Nat.le_refl _) with ⟨h1, h2⟩ | ⟨b, y, h1, h2, h3, h4, h5⟩
  · exact .inl ⟨h1, fun j e he hc => h2 j (lt_of_get he) ((hcan j e he).2 hc)⟩
  · obtain ⟨g1, g2⟩ := (hcan b y h3).1 h4
    exact .inr ⟨b, y, h1, h3, g1, g2, fun j x hx ha hl => h5 j x (lt_of_get hx) hx ((hcan j x hx).2 ⟨ha, hl⟩)⟩
/-- jobs of a priority, or a greater one, as a level -/
theorem simP_level {jobs : List SJob} (hj : ∀ e ∈ jobs, Okj e) (Pi : Int) : Level jobs.length (leftP 1 true jobs) (fun j => ∃ e, jobs[j]? = some e ∧ Pi ≤ e.P) (atN jobs) (costOf jobs) := by
  refine ⟨fun j _ => leftP_zero 1 true jobs j, leftP_nonneg 1 true hj, leftP_down 1 true hj, fun t j hjl hr => ?_, fun t ⟨j, hjl, ⟨e, he, hP⟩, hr, hL⟩ => ?_⟩
  · have he : jobs[j]? = some jobs[j] := List.getElem?_eq_getElem hjl
    rw [atN_some he] at hr
    rcases leftP_step 1 true hj t with ⟨_, h⟩ | ⟨b, hb0, hb1, hpos, h1, _, h⟩
    · exact (h j).1
    · refine (h j ?_).1
      rintro rfl
      rcases runP_first 1 hj t with ⟨g1, _⟩ | ⟨b', y, g1, g2, g3, _⟩
      · omega
      · have : b' = j := by omega
        subst this
        rw [he] at g2
        cases g2
        omega
  · rw [atN_some he] at hr
    have hA := (hj e (List.mem_of_getElem? he)).At
    rcases runP_first 1 hj t with ⟨_, h⟩ | ⟨b, y, g1, g2, g3, g4, g5⟩
    · exact absurd ⟨by omega, hL⟩ (h j e he)
    · have hn := (g5 j e he (by omega) hL).1
      have hPb : Pi ≤ y.P := by
        unfold aheadJ at hn
        rw [if_pos rfl] at hn
        omega
      rcases leftP_step 1 true hj t with ⟨k1, _⟩ | ⟨b', k1, k2, k3, k4, _, k6⟩
      · omega
      · have : b' = b := by omega
        subst this
        have hAb := (hj y (List.mem_of_getElem? g2)).At
        exact ⟨b', k2, ⟨y, g2, hPb⟩, by rw [atN_some g2]; omega, k3, k4, fun i _ hne => (k6 i hne).1⟩

/-- what is known of the j-th job -/
structure JobAt (l0 : List STask) (l1 : List SCome) (l2 l3 : List Int) (j : Nat) (c : SCome) (t : STask) (a b : Int) : Prop where
  come : l1[j]? = some c
  task : l0[c.Task.toNat]? = some t
  task0 : 0 ≤ c.Task
  late : l2[j]? = some a
  takes : l3[j]? = some b
  job : (jobsTill l0 l1 l2 l3 l1.length)[j]? = some ⟨c.Task, c.At + a, b, c.At + t.D, t.P⟩
  at_ : 0 ≤ c.At ∧ c.At ≤ 20000
  a : 0 ≤ a ∧ a ≤ t.J
  b : 1 ≤ b ∧ b ≤ t.C
  ok : Okt t
structure JobsOk (l0 : List STask) (l1 : List SCome) (l2 l3 : List Int) : Prop where
  set : (setFault l0).Code = 0
  len : l1.length ≤ 4000
  len2 : l2.length = l1.length
  len3 : l3.length = l1.length
  comes : ∀ i, i < l1.length → comeAt l0 l1 i = none
  jobs : ∀ i, i < l1.length → jobAt l0 l1 l2 l3 i = none
  eq : jobsOf l0 l1 l2 l3 = (jobsTill l0 l1 l2 l3 l1.length, ⟨0, 0⟩)
theorem jobsOf_ok {l0 : List STask} {l1 : List SCome} {l2 l3 : List Int} (h : (jobsOf l0 l1 l2 l3).2.Code = 0) : JobsOk l0 l1 l2 l3 := by
  unfold jobsOf at h
  split at h
  · rename_i hc
    split at h
    · rename_i hl
      obtain ⟨hs, hl1, hcomes⟩ := comesFault_ok hc
      cases hf : firstOf (jobAt l0 l1 l2 l3) l1.length 0 with
      | none =>
        refine ⟨hs, hl1, hl.1, hl.2, hcomes, fun i hi => firstOf_none hf i (Nat.zero_le _) hi, ?_⟩
        unfold jobsOf
        rw [if_pos hc, if_pos hl, hf]
      | some r =>
        rw [hf] at h
        obtain ⟨j, _, hj, hg, _⟩ := firstOf_some hf
        exfalso
        unfold jobAt at hg
        repeat' split at hg
        all_goals first | (cases hg; done) | (cases hg; cases h)
    · cases h
  · contradiction
theorem JobsOk.at {l0 : List STask} {l1 : List SCome} {l2 l3 : List Int} (h : JobsOk l0 l1 l2 l3) {j : Nat} (hj : j < l1.length) : ∃ c t a b, JobAt l0 l1 l2 l3 j c t a b := by
  have hc : l1[j]? = some l1[j] := List.getElem?_eq_getElem hj
  obtain ⟨h1, h2, h3, h4, _⟩ := comeAt_none hc (h.comes j hj)
  obtain ⟨t, ht⟩ : ∃ t, l0[l1[j].Task.toNat]? = some t := ⟨l0[l1[j].Task.toNat]'(by omega), List.getElem?_eq_getElem (by omega)⟩
  have ha : l2[j]? = some (l2[j]'(by have := h.len2; omega)) := List.getElem?_eq_getElem _
  have hb : l3[j]? = some (l3[j]'(by have := h.len3; omega)) := List.getElem?_eq_getElem _
  have hJ := h.jobs j hj
  simp only [jobAt, hc, ha, hb, ht] at hJ
  split at hJ
  · cases hJ
  refine ⟨_, t, _, _, hc, ht, h1, ha, hb, ?_, ⟨h3, h4⟩, by omega, by omega, okt_of h.set t (List.mem_of_getElem? ht)⟩
  simp only [jobsTill, List.getElem?_map, List.getElem?_range hj, Option.map_some, jobOf, hc, ha, hb, ht]
theorem jobsTill_len (l0 : List STask) (l1 : List SCome) (l2 l3 : List Int) (n : Nat) : (jobsTill l0 l1 l2 l3 n).length = n := by simp [jobsTill]
theorem JobsOk.okj {l0 : List STask} {l1 : List SCome} {l2 l3 : List Int} (h : JobsOk l0 l1 l2 l3) : ∀ e ∈ jobsTill l0 l1 l2 l3 l1.length, Okj e := fun e he => by
  obtain ⟨j, hj⟩ := List.mem_iff_getElem?.1 he
  have hlt := lt_of_get hj
  rw [jobsTill_len] at hlt
  obtain ⟨c, t, a, b, hJ⟩ := h.at hlt
  rw [hJ.job] at hj
  cases hj
  have := hJ.at_; have := hJ.a; have := hJ.b; have := hJ.ok.J; have := hJ.ok.C; have := hJ.ok.D
  exact ⟨by simp only; omega, by simp only; omega, by simp only; omega⟩
theorem lastOf_ge {l : List SCome} {t : Int} {k j : Nat} {b : SCome} (hj : j < k) (hb : l[j]? = some b) (ht : b.Task = t) : ∃ m, lastOf l t k = some m ∧ j ≤ m := by
  induction k with
  | zero => omega
  | succ k ih =>
    by_cases hjk : j = k
    · subst hjk
      exact ⟨j, by simp only [lastOf, hb, if_pos ht], Nat.le_refl _⟩
    · obtain ⟨m, h1, h2⟩ := ih (by omega)
      have hmk := lastOf_lt h1
      simp only [lastOf]
      split
      · split
        · exact ⟨k, rfl, by omega⟩
        · exact ⟨m, h1, h2⟩
      · exact ⟨m, h1, h2⟩
/-- comings stand in their order -/
theorem JobsOk.order {l0 : List STask} {l1 : List SCome} {l2 l3 : List Int} (h : JobsOk l0 l1 l2 l3) : ∀ {i j : Nat} {a b : SCome}, i ≤ j → l1[i]? = some a → l1[j]? = some b → a.At ≤ b.At := by
  intro i j
  induction j with
  | zero => intro a b hij ha hb; obtain rfl : i = 0 := by omega
            rw [ha] at hb; cases hb; exact Int.le_refl _
  | succ j ih =>
    intro a b hij ha hb
    by_cases he : i = j + 1
    · subst he; rw [ha] at hb; cases hb; exact Int.le_refl _
    · have hlt := lt_of_get hb
      have hp : l1[j]? = some l1[j] := List.getElem?_eq_getElem (by omega)
      have h1 := ih (by omega) ha hp
      have h2 := (comeAt_none hb (h.comes _ hlt)).2.2.2.2.1 l1[j] (by omega) hp
      omega
/-- comings of one task are so far apart -/
theorem JobsOk.apart {l0 : List STask} {l1 : List SCome} {l2 l3 : List Int} (h : JobsOk l0 l1 l2 l3) {i j : Nat} {a b : SCome} {t : STask} (hij : i < j) (ha : l1[i]? = some a) (hb : l1[j]? = some b) (hab : a.Task = b.Task) (ht : l0[b.Task.toNat]? = some t) : a.At + t.T ≤ b.At := by
  obtain ⟨m, h1, h2⟩ := lastOf_ge hij ha hab
  obtain ⟨c, hc, _⟩ := lastOf_task h1
  have h3 := (comeAt_none hb (h.comes _ (lt_of_get hb))).2.2.2.2.2 m c t h1 hc ht
  have h4 := h.order h2 ha hc
  omega
theorem wants_above {l : List STask} {i : Nat} {x : STask} (hx : l[i]? = some x) (w : Int) : ∀ m, m ≤ l.length → wants (aboveTill l i m) w = sumN (fun o => match l[o]? with | some t => if o ≠ i ∧ t.P ≥ x.P then ceilD (w + t.J) t.T * t.C else 0 | none => 0) m
  | 0, _ => rfl
  | m + 1, hm => by
    have hmx : l[m]? = some l[m] := List.getElem?_eq_getElem (by omega)
    rw [aboveTill_succ hmx hx, wants_append, wants_above hx w m (by omega)]
    simp only [sumN, hmx]
    by_cases h : m ≠ i ∧ l[m].P ≥ x.P
    · rw [if_pos h, if_pos h, wants_cons, wants_nil]; omega
    · rw [if_neg h, if_neg h, wants_nil]
/-- of the jobs of a task's level never more comes in w ticks than its demand says -/
theorem JobsOk.demand {l0 : List STask} {l1 : List SCome} {l2 l3 : List Int} (h : JobsOk l0 l1 l2 l3) {i : Nat} {x : STask} (hx : l0[i]? = some x) (w : Nat) (hw : 1 ≤ w) (hwT : (w : Int) + x.J ≤ x.T) (H : Nat → Prop) [DecidablePred H]
    (hH : ∀ j c t a b, JobAt l0 l1 l2 l3 j c t a b → H j → x.P ≤ t.P) (t0 : Nat) :
    sumN (fun j => if H j ∧ t0 ≤ atN (jobsTill l0 l1 l2 l3 l1.length) j ∧ atN (jobsTill l0 l1 l2 l3 l1.length) j < t0 + w then costOf (jobsTill l0 l1 l2 l3 l1.length) j else 0) l1.length ≤ dem x 0 (aboveOf l0 i) w := by
  generalize hjobs : jobsTill l0 l1 l2 l3 l1.length = jobs
  let q : Nat → Nat → Prop := fun o j => ∃ c, l1[j]? = some c ∧ c.Task = (o : Int)
  haveI : ∀ o, DecidablePred (q o) := fun o j => Classical.propDecidable _
  have hil := lt_of_get hx
  -- task by task
  have h1 : sumN (fun j => if H j ∧ t0 ≤ atN jobs j ∧ atN jobs j < t0 + w then costOf jobs j else 0) l1.length ≤ sumN (fun j => sumN (fun o => match l0[o]? with | some t => if t.P ≥ x.P then (if q o j ∧ t0 ≤ atN jobs j ∧ atN jobs j < t0 + w then costOf jobs j else 0) else 0 | none => 0) l0.length) l1.length := by
    refine sumN_le fun j hj => ?_
    obtain ⟨c, t, a, b, hJ⟩ := h.at hj
    have hb := hJ.b
    have hcost : costOf jobs j = b := by rw [← hjobs]; exact costOf_some hJ.job
    have hnn : ∀ o, o < l0.length → 0 ≤ (match l0[o]? with | some t => if t.P ≥ x.P then (if q o j ∧ t0 ≤ atN jobs j ∧ atN jobs j < t0 + w then costOf jobs j else 0) else 0 | none => 0) := fun o _ => by
      split
      · split
        · split <;> omega
        · exact Int.le_refl _
      · exact Int.le_refl _
    by_cases hc : H j ∧ t0 ≤ atN jobs j ∧ atN jobs j < t0 + w
    · rw [if_pos hc]
      have h2 := sumN_term (n := l0.length) hnn (k := c.Task.toNat) (lt_of_get hJ.task)
      have hP := hH j c t a b hJ hc.1
      have hq : q c.Task.toNat j := ⟨c, hJ.come, (Int.toNat_of_nonneg hJ.task0).symm⟩
      simp only [hJ.task] at h2
      rw [if_pos hP, if_pos ⟨hq, hc.2⟩] at h2
      exact h2
    · rw [if_neg hc]
      exact sumN_nonneg hnn
  rw [sumN_swap (fun o j => match l0[o]? with | some t => if t.P ≥ x.P then (if q o j ∧ t0 ≤ atN jobs j ∧ atN jobs j < t0 + w then costOf jobs j else 0) else 0 | none => 0)] at h1
  have h2 : sumN (fun o => sumN (fun j => match l0[o]? with | some t => if t.P ≥ x.P then (if q o j ∧ t0 ≤ atN jobs j ∧ atN jobs j < t0 + w then costOf jobs j else 0) else 0 | none => 0) l1.length) l0.length ≤
      sumN (fun o => (if o = i then x.C else 0) + (match l0[o]? with | some t => if o ≠ i ∧ t.P ≥ x.P then ceilD (w + t.J) t.T * t.C else 0 | none => 0)) l0.length := by
    refine sumN_le fun o ho => ?_
    have hto : l0[o]? = some l0[o] := List.getElem?_eq_getElem ho
    have hok := okt_of h.set l0[o] (List.getElem_mem ho)
    generalize l0[o] = t at hto hok
    simp only [hto]
    have hCt := hok.C; have hTt := hok.T; have hJt := hok.J
    by_cases hP : t.P ≥ x.P
    · simp only [if_pos hP]
      have hsp := spaced (n := l1.length) (q := q o) (r := atN jobs) (a := fun j => match l1[j]? with | some c => c.At | none => 0) (c := costOf jobs) (C := t.C) (T := t.T) (J := t.J) (by omega) (by omega) (fun j hj ⟨c', hc', he⟩ => by
        obtain ⟨c, t', a, b, hJ⟩ := h.at hj
        have : c = c' := by have := hJ.come; rw [hc'] at this; exact (Option.some.inj this).symm
        subst this
        have hb := hJ.b
        have ht' := hJ.task
        rw [he, Int.toNat_natCast, hto] at ht'
        cases ht'
        rw [← hjobs, costOf_some hJ.job]
        exact hb.2) (fun j hj ⟨c', hc', he⟩ => by
        obtain ⟨c, t', a, b, hJ⟩ := h.at hj
        have : c = c' := by have := hJ.come; rw [hc'] at this; exact (Option.some.inj this).symm
        subst this
        have ht' := hJ.task
        rw [he, Int.toNat_natCast, hto] at ht'
        cases ht'
        have ha := hJ.a; have hA := hJ.at_
        rw [← hjobs, atN_some hJ.job, hc']
        simp only
        omega) (fun j k hjk hk ⟨c1, hc1, he1⟩ ⟨c2, hc2, he2⟩ => by
        have := h.apart hjk hc1 hc2 (by omega) (t := t) (by rw [he2, Int.toNat_natCast]; exact hto)
        simp only [hc1, hc2]
        exact this) t0 w hw (by omega)
      by_cases hoi : o = i
      · subst hoi
        rw [hx] at hto
        cases hto
        rw [if_pos rfl, if_neg (fun h => h.1 rfl)]
        have hceil : ((w : Int) + x.J + x.T - 1) / x.T = 1 := by
          have e : (w : Int) + x.J + x.T - 1 = (w + x.J - 1) + x.T * 1 := by omega
          rw [e, Int.add_mul_ediv_left _ _ (by omega), Int.ediv_eq_zero_of_lt (by omega) (by omega)]
          rfl
        rw [hceil, Int.one_mul] at hsp
        omega
      · rw [if_neg hoi, if_pos ⟨hoi, hP⟩]
        unfold ceilD
        omega
    · have hz : sumN (fun j => if t.P ≥ x.P then (if q o j ∧ t0 ≤ atN jobs j ∧ atN jobs j < t0 + w then costOf jobs j else 0) else 0) l1.length = 0 := sumN_zero (fun j _ => if_neg hP)
      rw [hz]
      by_cases hoi : o = i
      · subst hoi
        rw [hx] at hto
        cases hto
        omega
      · rw [if_neg hoi, if_neg (fun h => hP h.2)]
        exact Int.le_refl _
  rw [sumN_add, sumN_pick (f := fun o => if o = i then x.C else 0) (k := i) hil (fun j _ hne => if_neg hne), if_pos rfl, ← wants_above hx w l0.length (Nat.le_refl _)] at h2
  show _ ≤ x.C + 0 + wants (aboveTill l0 i l0.length) w
  omega

theorem lasts_eq (l0 : List STask) (l1 : List SCome) (l2 l3 : List Int) (h : JobsOk l0 l1 l2 l3) (K : Nat) (hK : 4010 ≤ K) : ∃ e, lasts.f K l0 l1 = some e ∧ (0 ≤ e → e ≤ 3000 ∧ l1.length ≤ 300 ∧ ∀ (j : Nat) (c : SCome) (t : STask), l1[j]? = some c → l0[c.Task.toNat]? = some t → c.At + t.D ≤ e) := by
  obtain ⟨r, hr, e, rfl, hR⟩ := iter_count (f := fun s => lasts.r0 l0 l1 s) (fun z i => 0 ≤ z ∧ z ≤ 30000 ∧ ∀ (j : Nat) (c : SCome) (t : STask), j < i → l1[j]? = some c → l0[c.Task.toNat]? = some t → c.At + t.D ≤ z) l1.length (fun r => ∃ e, r = .inl e ∧ 0 ≤ e ∧ ∀ (j : Nat) (c : SCome) (t : STask), l1[j]? = some c → l0[c.Task.toNat]? = some t → c.At + t.D ≤ e) (fun (z : Int) i hi ⟨hz0, hz1, hI⟩ => by
    left
    have hi' : (i : Int) < (l1.length : Int) := by omega
    obtain ⟨c, t, a, b, hJ⟩ := h.at hi
    have := hJ.at_; have := hJ.ok.D
    have hw : IntKind.i64.wrap (c.At + t.D) = c.At + t.D := wrap64_small (by omega) (by omega)
    refine ⟨gmax z (c.At + t.D), ?_, ?_, ?_, fun j c' t' hj hc' ht' => ?_⟩
    · simp only [lasts.r0, if_pos hi', hJ.come, if_pos hJ.task0, hJ.task, hw]
    · unfold gmax; split <;> omega
    · unfold gmax; split <;> omega
    · by_cases hji : j = i
      · subst hji
        rw [hJ.come] at hc'
        cases hc'
        rw [hJ.task] at ht'
        cases ht'
        unfold gmax; split <;> omega
      · have := hI j c' t' (by omega) hc' ht'
        unfold gmax; split <;> omega) (fun z ⟨hz0, hz1, hI⟩ => by
    refine ⟨.inl z, by simp [lasts.r0], z, rfl, hz0, fun j c t hc ht => hI j c t (lt_of_get hc) hc ht⟩) K 0 0 (Nat.zero_le _) ⟨by omega, by omega, fun j c t hj => by omega⟩ (by have := h.len; omega)
  unfold lasts.f
  rw [hr]
  simp only
  by_cases h1 : e > 3000
  · rw [if_pos h1]; exact ⟨-1, rfl, fun h => by omega⟩
  rw [if_neg h1]
  by_cases h2 : (l1.length : Int) > 300
  · rw [if_pos h2]; exact ⟨-1, rfl, fun h => by omega⟩
  rw [if_neg h2]
  exact ⟨e, rfl, fun _ => ⟨by omega, by omega, hR.2⟩⟩
theorem respsOf_ok {l : List STask} {bs : List Int} (h : (respsOf l bs).2.Code = 0) : (fixedFault l).Code = 0 ∧ bs.length = l.length ∧ respsOf l bs = (respTill l bs l.length, ⟨0, 0⟩) ∧ ∀ i b, i < l.length → bs[i]? = some b → (respOf l (i : Int) b).2.Code = 0 := by
  unfold respsOf at h
  split at h
  · rename_i hc
    split at h
    · rename_i hl
      cases hf : firstOf (respAt l bs) l.length 0 with
      | none =>
        refine ⟨hc, hl, by unfold respsOf; rw [if_pos hc, if_pos hl, hf], fun i b hi hb => ?_⟩
        have := firstOf_none hf i (Nat.zero_le _) hi
        simp only [respAt, hb] at this
        split at this
        · assumption
        · cases this
      | some r =>
        rw [hf] at h
        obtain ⟨j, _, hj, hg, _⟩ := firstOf_some hf
        exfalso
        unfold respAt at hg
        split at hg
        · split at hg
          · cases hg
          · cases hg; contradiction
        · cases hg
    · cases h
  · contradiction
theorem respOf_ok {l : List STask} {i : Nat} {b : Int} {t : STask} (ht : l[i]? = some t) (h : (respOf l (i : Int) b).2.Code = 0) : settled (dem t b (aboveOf l i)) (t.D - t.J) ≠ 0 ∧ (respOf l (i : Int) b).1 = settled (dem t b (aboveOf l i)) (t.D - t.J) + t.J := by
  unfold respOf at h ⊢
  split at h
  · rename_i hc
    split at h
    · cases h
    · rename_i hb
      rw [if_pos hc, if_neg hb]
      simp only [Int.toNat_natCast, ht] at h ⊢
      split at h
      · cases h
      · rename_i hr
        rw [if_neg hr]
        have hr' := hr
        unfold respond at hr
        split at hr
        · exact absurd rfl hr
        · rename_i h0
          refine ⟨h0, ?_⟩
          show respond t (aboveOf l i) b = _
          unfold respond
          rw [if_neg h0]
  · contradiction
/-- each job is done so soon -/
theorem keeps {l0 : List STask} {l1 : List SCome} {l2 l3 : List Int} (h : JobsOk l0 l1 l2 l3) {j : Nat} {c : SCome} {t : STask} {a b : Int} (hJ : JobAt l0 l1 l2 l3 j c t a b) (hDT : t.D ≤ t.T) (hs : settled (dem t 0 (aboveOf l0 c.Task.toNat)) (t.D - t.J) ≠ 0) (e : Nat) (he : c.At + t.D ≤ e) :
    1 ≤ endP 1 true (jobsTill l0 l1 l2 l3 l1.length) e j ∧ endP 1 true (jobsTill l0 l1 l2 l3 l1.length) e j ≤ c.At + (settled (dem t 0 (aboveOf l0 c.Task.toNat)) (t.D - t.J) + t.J) := by
  obtain ⟨g1, g2, g3, _⟩ := settled_pos hs
  obtain ⟨w, hw⟩ := Int.eq_ofNat_of_zero_le (show 0 ≤ settled (dem t 0 (aboveOf l0 c.Task.toNat)) (t.D - t.J) by omega)
  rw [hw] at g1 g2 g3 ⊢
  have hjl := lt_of_get hJ.come
  have hok := h.okj
  have hlev := simP_level hok t.P
  rw [jobsTill_len] at hlev
  haveI : DecidablePred (fun (j : Nat) => ∃ e : SJob, (jobsTill l0 l1 l2 l3 l1.length)[j]? = some e ∧ t.P ≤ e.P) := fun _ => Classical.propDecidable _
  have hdone := hlev.done w (by omega) (fun t0 => by
    have := h.demand hJ.task w (by omega) (by omega) (fun (j : Nat) => ∃ e : SJob, (jobsTill l0 l1 l2 l3 l1.length)[j]? = some e ∧ t.P ≤ e.P) (fun j' c' t' a' b' hJ' ⟨e', he', hP'⟩ => by
      rw [hJ'.job] at he'
      cases he'
      exact hP') t0
    omega) (k := j) hjl ⟨_, hJ.job, Int.le_refl _⟩
  rw [atN_some hJ.job] at hdone
  have hA := hJ.at_; have ha := hJ.a
  simp only at hdone
  have hend := endP_done 1 true hok (j := j) (by rw [jobsTill_len]; exact hjl) hdone (t := e) (by omega)
  omega
theorem FixedKeeps_law (l0 : List STask) (l1 : List SCome) (l2 l3 : List Int) (ok0 : ∀ y ∈ l0, Ok.ok y) (ok1 : ∀ y ∈ l1, Ok.ok y) (ok2 : ∀ y ∈ l2, Ok.ok y) (ok3 : ∀ y ∈ l3, Ok.ok y) : ∃ K, FixedKeeps.f K l0 l1 l2 l3 = some true := by
  refine ⟨20100 + l2.length + l3.length, ?_⟩
  generalize hKd : 20100 + l2.length + l3.length = K
  have hK : 20100 ≤ K := by omega
  have hp0 : FixedKeeps.p0 K = some (.inl ()) := by unfold FixedKeeps.p0; simp only [responds_true K hK, runs_true K (by omega), if_true]
  unfold FixedKeeps.f
  simp only [hp0]
  by_cases hf : few.f (l0.length : Int) = true ∧ few.f (l1.length : Int) = true
  · obtain ⟨f0, f1⟩ := hf
    have hp1 : FixedKeeps.p1 l0 l1 = some (.inl ()) := by unfold FixedKeeps.p1; rw [if_pos f0, if_pos f1]
    have g0 := few_true f0
    simp only [hp1]
    rw [if_pos (by omega)]
    simp only [Responses_eq l0 _ K hK, Jobs_eq0 l0 l1 l2 l3 K (by omega)]
    by_cases hr : (respsOf l0 (List.replicate l0.length 0)).2.Code = 0
    · rw [if_pos hr]
      by_cases hj : (jobsOf l0 l1 l2 l3).2.Code = 0
      · rw [if_pos hj]
        have h := jobsOf_ok hj
        obtain ⟨e, he, hlast⟩ := lasts_eq l0 l1 l2 l3 h K (by omega)
        rw [he]
        simp only
        by_cases he0 : e < 0
        · rw [if_pos he0]
        · rw [if_neg he0]
          obtain ⟨h3000, h300, hlast⟩ := hlast (by omega)
          obtain ⟨en, rfl⟩ := Int.eq_ofNat_of_zero_le (show 0 ≤ e by omega)
          obtain ⟨hff, _, hreq, hresp⟩ := respsOf_ok hr
          have hDT := (fixedFault_ok hff).2.2
          have hok := h.okj
          have hpf := playFault_of (l := jobsTill l0 l1 l2 l3 l1.length) (by rw [jobsTill_len]; omega) hok
          rw [h.eq, Play_eq _ _ _ _ K (by omega)]
          have hplay : playOf (jobsTill l0 l1 l2 l3 l1.length) 1 true (en : Int) = (⟨runsTill 1 true (jobsTill l0 l1 l2 l3 l1.length) en en, (simP 1 true (jobsTill l0 l1 l2 l3 l1.length) en).2.2⟩, ⟨0, 0⟩) := by
            unfold playOf
            rw [hpf, if_pos rfl, if_pos (.inl rfl), if_neg (by omega)]
            rfl
          rw [hplay]
          have hsim := simP_ok 1 true hok en
          have hel : (simP 1 true (jobsTill l0 l1 l2 l3 l1.length) en).2.2.length = l1.length := by rw [hsim.ends, jobsTill_len]
          have hlate := Late_eq (jobsTill l0 l1 l2 l3 l1.length) (runsTill 1 true (jobsTill l0 l1 l2 l3 l1.length) en en) (simP 1 true (jobsTill l0 l1 l2 l3 l1.length) en).2.2 (show (jobsTill l0 l1 l2 l3 l1.length).length ≤ 5000 by rw [jobsTill_len]; omega) K (by omega)
          rw [if_pos (by rw [hel, jobsTill_len])] at hlate
          simp only [hlate]
          have hkeep : ∀ j c t a b, JobAt l0 l1 l2 l3 j c t a b → 1 ≤ endP 1 true (jobsTill l0 l1 l2 l3 l1.length) en j ∧ endP 1 true (jobsTill l0 l1 l2 l3 l1.length) en j ≤ c.At + (settled (dem t 0 (aboveOf l0 c.Task.toNat)) (t.D - t.J) + t.J) ∧ settled (dem t 0 (aboveOf l0 c.Task.toNat)) (t.D - t.J) + t.J ≤ t.D ∧ (respTill l0 (List.replicate l0.length 0) l0.length)[c.Task.toNat]? = some (settled (dem t 0 (aboveOf l0 c.Task.toNat)) (t.D - t.J) + t.J) := fun j c t a b hJ => by
            have htl := lt_of_get hJ.task
            have hb : (List.replicate l0.length (0 : Int))[c.Task.toNat]? = some 0 := by simp [htl]
            obtain ⟨hs, hs2⟩ := respOf_ok hJ.task (hresp _ 0 htl hb)
            have hk := keeps h hJ (hDT t (List.mem_of_getElem? hJ.task)) hs en (hlast j c t hJ.come hJ.task)
            have hsp := settled_pos hs
            refine ⟨hk.1, hk.2, by omega, ?_⟩
            simp only [respTill, List.getElem?_map, List.getElem?_range htl, Option.map_some, hb]
            rw [hs2]
          have htardy : lateTill (jobsTill l0 l1 l2 l3 l1.length) (runsTill 1 true (jobsTill l0 l1 l2 l3 l1.length) en en).length (simP 1 true (jobsTill l0 l1 l2 l3 l1.length) en).2.2 (jobsTill l0 l1 l2 l3 l1.length).length = [] := by
            unfold lateTill
            rw [List.filterMap_eq_nil_iff]
            intro j hj
            rw [jobsTill_len, List.mem_range] at hj
            obtain ⟨c, t, a, b, hJ⟩ := h.at hj
            obtain ⟨k1, k2, k3, _⟩ := hkeep j c t a b hJ
            simp only [lateAt, hJ.job, ends_get 1 true hok (show j < (jobsTill l0 l1 l2 l3 l1.length).length by rw [jobsTill_len]; exact hj) en]
            rw [if_neg]
            simp only [Bool.or_eq_true, Bool.and_eq_true, decide_eq_true_eq]
            omega
          simp only [htardy, if_true, List.length_nil, Int.ofNat_zero, hreq]
          have hsoon := iter_first0 (f := soon.r0 l1 (simP 1 true (jobsTill l0 l1 l2 l3 l1.length) en).2.2 (respTill l0 (List.replicate l0.length 0) l0.length)) (fun _ => none) l1.length (t := ()) (fun j hj => by
            have hj' : (j : Int) < (l1.length : Int) := by omega
            obtain ⟨c, t, a, b, hJ⟩ := h.at hj
            obtain ⟨k1, k2, k3, k4⟩ := hkeep j c t a b hJ
            have hA := hJ.at_; have hD := hJ.ok.D
            simp only [soon.r0, if_pos hj', hJ.come, ends_get 1 true hok (show j < (jobsTill l0 l1 l2 l3 l1.length).length by rw [jobsTill_len]; exact hj) en, if_pos hJ.task0, k4]
            rw [if_neg (by omega), wrap64_small (by omega) (by omega), if_neg (by omega)]
            rfl) (by simp [soon.r0]) (K := K) (by omega)
          unfold soon.f
          rw [if_pos (by omega), hsoon, firstOf_none_of (fun _ _ _ => rfl)]
          rfl
      · rw [if_neg hj]
    · rw [if_neg hr]
  · have hp1 : FixedKeeps.p1 l0 l1 = some (.inr true) := by
      unfold FixedKeeps.p1
      repeat' split
      all_goals first | rfl | (exfalso; exact hf ⟨by assumption, by assumption⟩)
    simp only [hp1]

end Go.Proofs.Ytlipdmblinjjaaa.GV
