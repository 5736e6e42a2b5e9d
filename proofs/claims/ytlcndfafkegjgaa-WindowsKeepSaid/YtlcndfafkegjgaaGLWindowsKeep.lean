/- Plain words: GvLWindowsKeep. -/
import Derived.Test.YtlcndfafkegjgaaGWWindowsKeep4
import Derived.Test.YtlcndfafkegjgaaGv17
namespace Go.Proofs.Ytlcndfafkegjgaa.GV
open Go Go.RowKit
set_option linter.unusedVariables false
set_option linter.unusedSimpArgs false
theorem SFault.eqb_self (x : SFault) : SFault.eqb x x = true := by simp [SFault.eqb]
theorem SWindow.eqb_self (x : SWindow) : SWindow.eqb x x = true := by simp [SWindow.eqb]
theorem STask.eqb_self (x : STask) : STask.eqb x x = true := by simp [STask.eqb]
theorem SCome.eqb_self (x : SCome) : SCome.eqb x x = true := by simp [SCome.eqb]
theorem SJob.eqb_self (x : SJob) : SJob.eqb x x = true := by simp [SJob.eqb]
theorem few_true {n : Nat} (h : few.f (n : Int) = true) : n ≤ 5000 := by
  simp only [few.f, decide_eq_true_eq] at h; omega
theorem few_false {n : Nat} (h : ¬ few.f (n : Int) = true) : 5000 < n := by
  simp only [few.f, decide_eq_true_eq] at h; omega
theorem exists_bound {α : Type} (f : α → Nat) : ∀ l : List α, ∃ B, ∀ x ∈ l, f x ≤ B
  | [] => ⟨0, by simp⟩
  | x :: l => by
    obtain ⟨B, h⟩ := exists_bound f l
    refine ⟨max (f x) B, fun y hy => ?_⟩
    rcases List.mem_cons.1 hy with rfl | hy
    · exact Nat.le_max_left _ _
    · exact Nat.le_trans (h y hy) (Nat.le_max_right _ _)
/-- a letter stands there -/
def letterAt (x : ByteArray) (i : Nat) : Bool := match x[i]? with | some b => decide (97 ≤ b.toNat) && decide (b.toNat ≤ 122) | none => false
def allL (x : ByteArray) (n : Nat) : Bool := (List.range n).all (letterAt x)
theorem allL_succ (x : ByteArray) (n : Nat) : allL x (n + 1) = (allL x n && letterAt x n) := by simp [allL, List.range_succ]
theorem allL_iff {x : ByteArray} {n : Nat} : allL x n = true ↔ ∀ i, i < n → letterAt x i = true := by simp [allL]
def Good (x : ByteArray) : Prop := 1 ≤ x.size ∧ x.size ≤ 10 ∧ allL x x.size = true
instance (x : ByteArray) : Decidable (Good x) := by unfold Good; infer_instance
theorem get!_of {x : ByteArray} {i : Nat} {b : UInt8} (h : x[i]? = some b) : x.get! i = b := by
  have hi : i < x.size := by
    rcases Nat.lt_or_ge i x.size with h' | h'
    · exact h'
    · rw [getElem?_neg x i (by omega)] at h; cases h
  rw [getElem?_pos x i hi] at h
  have := Option.some.inj h
  rw [← this]
  cases x with
  | mk bs => exact getElem!_pos bs i hi
theorem byte_some {x : ByteArray} {i : Nat} (h : i < x.size) : ∃ b, x[i]? = some b := ⟨x[i], getElem?_pos x i h⟩
theorem decode_letter {x : ByteArray} {i : Nat} (hi : i < x.size) (h : letterAt x i = true) : ∃ n : Nat, Utf8.decode x i = (n, 1) ∧ 97 ≤ n ∧ n ≤ 122 := by
  obtain ⟨b, hb⟩ := byte_some hi
  simp only [letterAt, hb, Bool.and_eq_true, decide_eq_true_eq] at h
  refine ⟨b.toNat, ?_, h⟩
  have := get!_of hb
  simp only [Utf8.decode, Nat.add_zero, this]
  rw [if_pos (by omega)]
theorem decode_other {x : ByteArray} {i : Nat} (hi : i < x.size) (h : letterAt x i = false) : (Utf8.decode x i).1 < 97 ∨ 122 < (Utf8.decode x i).1 := by
  obtain ⟨b, hb⟩ := byte_some hi
  simp only [letterAt, hb, Bool.and_eq_false_iff, decide_eq_false_iff_not] at h
  have := get!_of hb
  simp only [Utf8.decode, Nat.add_zero, this]
  have he : Utf8.runeError = 65533 := rfl
  repeat' split
  all_goals simp only [he, Bool.and_eq_true, decide_eq_true_eq, ge_iff_le] at *
  all_goals omega
theorem isName_eq (x : ByteArray) (K : Nat) (hK : 12 ≤ K) : tasks_isName.f K x = some (decide (Good x)) := by
  unfold tasks_isName.f
  by_cases h1 : (x.size : Int) < 1
  · rw [if_pos h1]; congr 1; symm; rw [decide_eq_false_iff_not]; intro h; have := h.1; omega
  rw [if_neg h1]
  by_cases h2 : (x.size : Int) > 10
  · rw [if_pos h2]; congr 1; symm; rw [decide_eq_false_iff_not]; intro h; have := h.2.1; omega
  rw [if_neg h2]
  have hr := iter_first0 (f := tasks_isName.r0 x) (fun i => if letterAt x i = true then none else some false) x.size (t := ()) (fun i hi => by
    simp only [tasks_isName.r0, if_pos hi]
    by_cases h : letterAt x i = true
    · obtain ⟨n, hd, ha, hb⟩ := decode_letter hi h
      simp only [hd, h, if_true]
      rw [if_neg (by omega), if_neg (by omega)]; rfl
    · simp only [h]
      rcases decode_other hi (by simpa using h) with h | h
      · rw [if_pos (by omega)]; simp [onward]
      · rw [if_neg (by omega), if_pos (by omega)]; simp [onward]) (by simp [tasks_isName.r0]) (K := K) (by omega)
  rw [hr]
  cases hf : firstOf (fun i => if letterAt x i = true then none else some false) x.size 0 with
  | none =>
    show some true = some _
    congr 1; symm
    rw [decide_eq_true_eq]
    refine ⟨by omega, by omega, allL_iff.2 fun i hi => ?_⟩
    have := firstOf_none hf i (Nat.zero_le _) hi
    split at this
    · assumption
    · cases this
  | some r =>
    obtain ⟨j, _, hj, hg, _⟩ := firstOf_some hf
    split at hg
    · cases hg
    · rename_i hn
      cases hg
      show some false = some _
      congr 1; symm
      rw [decide_eq_false_iff_not]
      intro h
      exact hn (allL_iff.1 h.2.2 j hj)
/-- the first of those ahead that bears the name -/
def dupAt (l : List STask) (i : Nat) (t : STask) : Prop := ∃ j e, j < i ∧ l[j]? = some e ∧ e.Name.toList = t.Name.toList
noncomputable instance (l : List STask) (i : Nat) (t : STask) : Decidable (dupAt l i t) := Classical.propDecidable _
theorem takedrop {α : Type} (l : List α) (i : Nat) : (l.take i).drop 0 = l.take i := by simp
theorem contains_eq (l : List STask) (i : Nat) (hi : i < l.length) (t : STask) (K : Nat) (hK : i < K) : slices_ContainsFunc_api_Task_api_Task.f K ((l.take i).drop 0) t = some (decide (dupAt l i t)) := by
  rw [takedrop]
  have hlen : (l.take i).length = i := by simp; omega
  let g : Nat → Option Int := fun j => match l[j]? with | some e => if e.Name.toList = t.Name.toList then some (j : Int) else none | none => none
  have hr := iter_first0 (f := slices_IndexFunc_api_Task_api_Task.r0 (l.take i) t) g i (t := ()) (fun j hj => by
    have hj' : (j : Int) < ((l.take i).length : Int) := by omega
    have hjl : j < l.length := by omega
    simp only [slices_IndexFunc_api_Task_api_Task.r0, if_pos hj', List.getElem?_take, if_pos hj, List.getElem?_eq_getElem hjl, g, tasks_Check_1.f, beq_iff_eq]
    split <;> rfl) (by
    have : ¬ (i : Int) < ((l.take i).length : Int) := by omega
    simp only [slices_IndexFunc_api_Task_api_Task.r0, if_neg this]) (K := K) hK
  unfold slices_ContainsFunc_api_Task_api_Task.f slices_IndexFunc_api_Task_api_Task.f
  rw [hr]
  cases hf : firstOf g i 0 with
  | none =>
    show some (decide ((-1 : Int) ≥ 0)) = _
    congr 1
    have : ¬ dupAt l i t := by
      rintro ⟨j, e, hj, he, hn⟩
      have := firstOf_none hf j (Nat.zero_le _) hj
      simp only [g, he, if_pos hn] at this
      cases this
    simp [this]
  | some r =>
    show some (decide (r ≥ 0)) = _
    obtain ⟨j, _, hj, hg, _⟩ := firstOf_some hf
    have hjl : j < l.length := by omega
    simp only [g, List.getElem?_eq_getElem hjl] at hg
    split at hg
    · rename_i hn
      cases hg
      have : dupAt l i t := ⟨j, l[j], hj, List.getElem?_eq_getElem hjl, hn⟩
      simp [this]
    · cases hg
theorem iter_succ {σ ρ : Type} (f : σ → Option (σ ⊕ ρ)) (K : Nat) (s : σ) : iter f (K + 1) s = match f s with | none => none | some (.inl s') => iter f K s' | some (.inr r) => some r := rfl
/-- a number lies out of its range -/
def rangeAt (i : Nat) (t : STask) (j : Nat) : Option SFault :=
  match ([t.C, t.T, t.D, t.J, t.O, t.P] : List Int)[j]? with
  | none => none
  | some v => match ([1, 1, 1, 0, 0, 0] : List Int)[j]? with
    | none => none
    | some a => if v < a then some ⟨3, (i : Int)⟩ else match ([10000, 10000, 10000, 10000, 10000, 1000] : List Int)[j]? with
      | none => none
      | some b => if v > b then some ⟨3, (i : Int)⟩ else none
theorem range_eq (i : Nat) (t : STask) (K : Nat) (hK : 7 ≤ K) : iter (tasks_Check.r2 i t) K 0 = some (leave () (firstOf (rangeAt i t) 6 0)) := by
  refine iter_first0 (f := tasks_Check.r2 i t) (rangeAt i t) 6 (t := ()) (fun j hj => ?_) (by simp [tasks_Check.r2, tasks_numbers.f]) (K := K) (by omega)
  have : j = 0 ∨ j = 1 ∨ j = 2 ∨ j = 3 ∨ j = 4 ∨ j = 5 := by omega
  rcases this with rfl | rfl | rfl | rfl | rfl | rfl <;> simp [tasks_Check.r2, tasks_numbers.f, tasks_bounds.f, rangeAt] <;> (repeat' split) <;> (try simp only [onward]) <;> first | rfl | contradiction | simp_all
/-- what is wrong with the i-th task -/
noncomputable def wrongAt (l : List STask) (i : Nat) : Option SFault :=
  match l[i]? with
  | none => none
  | some t => if Good t.Name then (if dupAt l i t then some ⟨5, (i : Int)⟩ else match firstOf (rangeAt i t) 6 0 with | some r => some r | none => if t.C > t.D then some ⟨12, (i : Int)⟩ else none) else some ⟨4, (i : Int)⟩
/-- what is wrong with a set -/
noncomputable def setFault (l : List STask) : SFault := if 1 ≤ l.length ∧ l.length ≤ 8 then (firstOf (wrongAt l) l.length 0).getD ⟨0, 0⟩ else ⟨2, 0⟩
theorem Check_eq (l : List STask) (K : Nat) (hK : 20 ≤ K) : tasks_Check.f K l = some (setFault l) := by
  unfold tasks_Check.f tasks_Check.p0 setFault
  by_cases h1 : (l.length : Int) < 1
  · rw [if_pos h1, if_neg (by omega)]
  rw [if_neg h1]
  by_cases h2 : (l.length : Int) > 8
  · rw [if_pos h2, if_neg (by omega)]
  rw [if_neg h2, if_pos (by omega)]
  have hr := iter_first0 (f := tasks_Check.r1 K l) (wrongAt l) l.length (t := ()) (fun i hi => by
    have hi' : (i : Int) < (l.length : Int) := by omega
    have hle : i ≤ l.length := by omega
    simp only [tasks_Check.r1, if_pos hi', List.getElem?_eq_getElem hi, isName_eq _ K (by omega), contains_eq l i hi _ K (by omega), range_eq i _ K (by omega), wrongAt, if_pos hle, decide_eq_true_eq]
    by_cases hg : Good l[i].Name
    · simp only [if_pos hg]
      by_cases hd : dupAt l i l[i]
      · simp only [if_pos hd, onward]
      · simp only [if_neg hd]
        cases firstOf (rangeAt i l[i]) 6 0 with
        | some r => rfl
        | none =>
          simp only [leave]
          split <;> rfl
    · simp only [if_neg hg, onward]) (by simp [tasks_Check.r1]) (K := K) (by omega)
  simp only [hr]
  cases firstOf (wrongAt l) l.length 0 <;> rfl
theorem setFault_ok {l : List STask} (h : (setFault l).Code = 0) : 1 ≤ l.length ∧ l.length ≤ 8 ∧ ∀ i t, l[i]? = some t → Good t.Name ∧ ¬ dupAt l i t ∧ (1 ≤ t.C ∧ t.C ≤ 10000) ∧ (1 ≤ t.T ∧ t.T ≤ 10000) ∧ (1 ≤ t.D ∧ t.D ≤ 10000) ∧ (0 ≤ t.J ∧ t.J ≤ 10000) ∧ (0 ≤ t.O ∧ t.O ≤ 10000) ∧ (0 ≤ t.P ∧ t.P ≤ 1000) ∧ t.C ≤ t.D := by
  unfold setFault at h
  split at h
  · rename_i hl
    refine ⟨hl.1, hl.2, fun i t ht => ?_⟩
    have hi := lt_of_get ht
    have hn : firstOf (wrongAt l) l.length 0 = none := by
      cases hf : firstOf (wrongAt l) l.length 0 with
      | none => rfl
      | some r =>
        rw [hf] at h
        obtain ⟨j, _, hj, hg, _⟩ := firstOf_some hf
        simp only [Option.getD_some] at h
        exfalso
        unfold wrongAt at hg
        rw [List.getElem?_eq_getElem hj] at hg
        simp only at hg
        split at hg
        · split at hg
          · cases hg; cases h
          · split at hg
            · rename_i r' hr'
              cases hg
              obtain ⟨q, _, hq, hg2, _⟩ := firstOf_some hr'
              unfold rangeAt at hg2
              repeat' split at hg2
              all_goals first | cases hg2; done | (cases hg2; cases h)
            · split at hg
              · cases hg; cases h
              · cases hg
        · cases hg; cases h
    have h0 := firstOf_none hn i (Nat.zero_le _) hi
    unfold wrongAt at h0
    rw [ht] at h0
    simp only at h0
    split at h0
    · rename_i hg
      split at h0
      · cases h0
      · rename_i hd
        split at h0
        · cases h0
        · rename_i hr
          split at h0
          · cases h0
          · rename_i hcd
            have hrr := firstOf_none hr
            have e0 := hrr 0 (by omega) (by omega)
            have e1 := hrr 1 (by omega) (by omega)
            have e2 := hrr 2 (by omega) (by omega)
            have e3 := hrr 3 (by omega) (by omega)
            have e4 := hrr 4 (by omega) (by omega)
            have e5 := hrr 5 (by omega) (by omega)
            simp only [rangeAt, List.getElem?_cons_zero, List.getElem?_cons_succ] at e0 e1 e2 e3 e4 e5
            refine ⟨hg, hd, ?_, ?_, ?_, ?_, ?_, ?_, by omega⟩
            · clear e1 e2 e3 e4 e5; split at e0; cases e0; split at e0; cases e0; omega
            · clear e0 e2 e3 e4 e5; split at e1; cases e1; split at e1; cases e1; omega
            · clear e1 e0 e3 e4 e5; split at e2; cases e2; split at e2; cases e2; omega
            · clear e1 e2 e0 e4 e5; split at e3; cases e3; split at e3; cases e3; omega
            · clear e1 e2 e3 e0 e5; split at e4; cases e4; split at e4; cases e4; omega
            · clear e1 e2 e3 e4 e0; split at e5; cases e5; split at e5; cases e5; omega
    · cases h0
  · cases h
theorem setFault_ok' {l : List STask} (h : (setFault l).Code = 0) : setFault l = ⟨0, 0⟩ := by
  unfold setFault at h ⊢
  split at h
  · rename_i hl
    rw [if_pos hl]
    cases hf : firstOf (wrongAt l) l.length 0 with
    | none => rfl
    | some r =>
      rw [hf] at h
      obtain ⟨j, _, hj, hg, _⟩ := firstOf_some hf
      simp only [Option.getD_some] at h
      exfalso
      unfold wrongAt at hg
      rw [List.getElem?_eq_getElem hj] at hg
      simp only at hg
      split at hg
      · split at hg
        · cases hg; cases h
        · split at hg
          · rename_i r' hr'
            cases hg
            obtain ⟨q, _, hq, hg2, _⟩ := firstOf_some hr'
            unfold rangeAt at hg2
            repeat' split at hg2
            all_goals first | cases hg2; done | (cases hg2; cases h)
          · split at hg
            · cases hg; cases h
            · cases hg
      · cases hg; cases h
  · cases h

/-- the last one ahead of i that is of task t -/
def lastOf (l : List SCome) (t : Int) : Nat → Option Nat
  | 0 => none
  | i + 1 => match l[i]? with
    | some c => if c.Task = t then some i else lastOf l t i
    | none => lastOf l t i
theorem lastOf_lt {l : List SCome} {t : Int} : ∀ {i k : Nat}, lastOf l t i = some k → k < i
  | 0, k, h => by cases h
  | i + 1, k, h => by
    simp only [lastOf] at h
    split at h
    · split at h
      · cases h; omega
      · have := lastOf_lt h; omega
    · have := lastOf_lt h; omega
theorem lastOf_task {l : List SCome} {t : Int} : ∀ {i k : Nat}, lastOf l t i = some k → ∃ c, l[k]? = some c ∧ c.Task = t
  | 0, k, h => by cases h
  | i + 1, k, h => by
    simp only [lastOf] at h
    split at h
    · rename_i c hc
      split at h
      · cases h; exact ⟨c, hc, by assumption⟩
      · exact lastOf_task h
    · exact lastOf_task h
/-- it comes sooner than the one ahead of it -/
def sooner (l1 : List SCome) (i : Nat) (c : SCome) : Prop := ∃ b, 0 < i ∧ l1[i - 1]? = some b ∧ c.At < b.At
noncomputable instance (l1 : List SCome) (i : Nat) (c : SCome) : Decidable (sooner l1 i c) := Classical.propDecidable _
theorem sooner_mk {l1 : List SCome} {i : Nat} {c b : SCome} (h0 : 0 < i) (hb : l1[i - 1]? = some b) (h : c.At < b.At) : sooner l1 i c := ⟨b, h0, hb, h⟩
/-- what is wrong with the i-th coming -/
noncomputable def comeAt (l0 : List STask) (l1 : List SCome) (i : Nat) : Option SFault :=
  match l1[i]? with
  | none => none
  | some c =>
    if c.Task < 0 ∨ c.Task ≥ (l0.length : Int) then some ⟨4, (i : Int)⟩
    else if c.At < 0 ∨ c.At > 20000 then some ⟨3, (i : Int)⟩
    else if sooner l1 i c then some ⟨12, (i : Int)⟩
    else match lastOf l1 c.Task i with
      | none => none
      | some k => match l1[k]?, l0[c.Task.toNat]? with
        | some b, some t => if c.At - b.At < t.T then some ⟨12, (i : Int)⟩ else none
        | _, _ => none
/-- what is wrong with comings -/
noncomputable def comesFault (l0 : List STask) (l1 : List SCome) : SFault :=
  if (setFault l0).Code = 0 then (if l1.length > 4000 then ⟨2, 0⟩ else (firstOf (comeAt l0 l1) l1.length 0).getD ⟨0, 0⟩) else setFault l0
theorem getD_leave {ρ : Type} (o : Option ρ) (d : ρ) : (match leave (τ := Unit) () o with | .inl _ => d | .inr r => r) = o.getD d := by cases o <;> rfl
/-- when each task may come next -/
def nexts (l0 : List STask) (l1 : List SCome) (i : Nat) : List Int :=
  (List.range l0.length).map fun (t : Nat) => match lastOf l1 (t : Int) i with
    | none => 0
    | some k => match l1[k]?, l0[t]? with
      | some b, some x => b.At + x.T
      | _, _ => 0
theorem nexts_len (l0 : List STask) (l1 : List SCome) (i : Nat) : (nexts l0 l1 i).length = l0.length := by simp [nexts]
theorem nexts_zero (l0 : List STask) (l1 : List SCome) : nexts l0 l1 0 = List.replicate l0.length (0 : Int) := by
  apply List.ext_getElem
  · simp [nexts]
  · intro i h1 h2
    simp [nexts, lastOf]
theorem comeAt_none {l0 : List STask} {l1 : List SCome} {i : Nat} {c : SCome} (hc : l1[i]? = some c) (h : comeAt l0 l1 i = none) : 0 ≤ c.Task ∧ c.Task < (l0.length : Int) ∧ 0 ≤ c.At ∧ c.At ≤ 20000 ∧ (∀ b, 0 < i → l1[i - 1]? = some b → b.At ≤ c.At) ∧
    (∀ k b t, lastOf l1 c.Task i = some k → l1[k]? = some b → l0[c.Task.toNat]? = some t → t.T ≤ c.At - b.At) := by
  unfold comeAt at h
  rw [hc] at h
  simp only at h
  split at h
  · cases h
  rename_i h1
  split at h
  · cases h
  rename_i h2
  split at h
  · cases h
  rename_i h3
  refine ⟨by omega, by omega, by omega, by omega, fun b hb hbb => ?_, fun k b t hk hb ht => ?_⟩
  · apply Int.not_lt.1
    intro hlt
    exact h3 (sooner_mk hb hbb hlt)
  · rw [hk] at h
    simp only [hb, ht] at h
    split at h
    · cases h
    · omega
theorem Legal_eq (l0 : List STask) (l1 : List SCome) (K : Nat) (hK : 4020 ≤ K) : tasks_Legal.f K l0 l1 = some (comesFault l0 l1) := by
  unfold tasks_Legal.f comesFault
  rw [Check_eq l0 K (by omega)]
  simp only
  by_cases hc : (setFault l0).Code = 0
  · rw [if_pos hc, if_pos hc]
    obtain ⟨hl1, hl8, hset⟩ := setFault_ok hc
    by_cases hlen : (l1.length : Int) > 4000
    · rw [if_pos hlen, if_pos (by omega)]
    rw [if_neg hlen, if_pos (show l0.length ≤ 17592186044416 by omega), if_neg (show ¬ l1.length > 4000 by omega), ← nexts_zero l0 l1]
    have hr := iter_states (f := tasks_Legal.r0 l0 l1) (fun i => (i, nexts l0 l1 i)) (comeAt l0 l1) l1.length (t := ()) (fun i hi hp => by
      have hi' : (i : Int) < (l1.length : Int) := by omega
      have hi4 : (i : Int) ≤ 4000 := by omega
      simp only [tasks_Legal.r0, if_pos hi', List.getElem?_eq_getElem hi]
      have hce : l1[i]? = some l1[i] := List.getElem?_eq_getElem hi
      generalize l1[i] = c at hce ⊢
      have hw : 0 < i → IntKind.i64.wrap ((i : Int) - 1) = ((i - 1 : Nat) : Int) := fun h0 => by rw [wrap64_small (by omega) (by omega)]; omega
      by_cases h1 : c.Task < 0 ∨ c.Task ≥ (l0.length : Int)
      · have hA : comeAt l0 l1 i = some ⟨4, (i : Int)⟩ := by simp only [comeAt, hce, if_pos h1]
        rw [hA]
        unfold tasks_Legal.p1
        by_cases h1' : c.Task < 0
        · rw [if_pos h1']; rfl
        · rw [if_neg h1', if_pos (by omega)]; rfl
      have h1a : ¬ c.Task < 0 := by omega
      have h1b : ¬ c.Task ≥ (l0.length : Int) := by omega
      by_cases h2 : c.At < 0 ∨ c.At > 20000
      · have hA : comeAt l0 l1 i = some ⟨3, (i : Int)⟩ := by simp only [comeAt, hce, if_neg h1, if_pos h2]
        rw [hA]
        unfold tasks_Legal.p1
        rw [if_neg h1a, if_neg h1b]
        by_cases h2' : c.At < 0
        · rw [if_pos h2']; rfl
        · rw [if_neg h2', if_pos (by omega)]; rfl
      have h2a : ¬ c.At < 0 := by omega
      have h2b : ¬ c.At > 20000 := by omega
      have h0t : 0 ≤ c.Task := by omega
      have htl : c.Task.toNat < l0.length := by omega
      have hnx : (nexts l0 l1 i)[c.Task.toNat]? = some (match lastOf l1 c.Task i with
          | none => 0
          | some k => match l1[k]?, l0[c.Task.toNat]? with
            | some b, some x => b.At + x.T
            | _, _ => 0) := by
        have : ((c.Task.toNat : Nat) : Int) = c.Task := Int.toNat_of_nonneg h0t
        simp only [nexts, List.getElem?_map, List.getElem?_range htl, Option.map_some, this]
      obtain ⟨x, hx⟩ : ∃ x, l0[c.Task.toNat]? = some x := ⟨l0[c.Task.toNat], List.getElem?_eq_getElem htl⟩
      obtain ⟨_, _, _, hxT, _⟩ := hset _ _ hx
      -- what the table says
      have htab : ∀ nx, (nexts l0 l1 i)[c.Task.toNat]? = some nx → ((c.At < nx) ↔ ∃ k b, lastOf l1 c.Task i = some k ∧ l1[k]? = some b ∧ c.At - b.At < x.T) := by
        intro nx hn
        rw [hnx] at hn
        have hn := Option.some.inj hn
        subst hn
        cases hk : lastOf l1 c.Task i with
        | none => simp only; constructor
                  · intro h; omega
                  · rintro ⟨k, b, h, _⟩; cases h
        | some k =>
          obtain ⟨b, hb, _⟩ := lastOf_task hk
          simp only [hb, hx]
          constructor
          · intro h; exact ⟨k, b, rfl, hb, by omega⟩
          · rintro ⟨k', b', h1, h2, h3⟩
            cases h1
            rw [hb] at h2
            cases h2
            omega
      obtain ⟨nx, hnx'⟩ : ∃ nx, (nexts l0 l1 i)[c.Task.toNat]? = some nx := ⟨_, hnx⟩
      have hP : tasks_Legal.p1 l0 l1 i (nexts l0 l1 i) c = some (if sooner l1 i c ∨ c.At < nx then .inr ⟨12, (i : Int)⟩ else .inl ()) := by
        unfold tasks_Legal.p1
        rw [if_neg h1a, if_neg h1b, if_neg h2a, if_neg h2b]
        by_cases hi0 : 0 < i
        · have hb : l1[i - 1]? = some l1[i - 1] := List.getElem?_eq_getElem (by omega)
          rw [if_pos (by omega), hw hi0, if_pos (by omega), Int.toNat_natCast, hb]
          simp only [if_pos h0t, hnx']
          by_cases hlt : c.At < l1[i - 1].At
          · rw [if_pos hlt, if_pos (.inl (sooner_mk hi0 hb hlt))]
          · rw [if_neg hlt]
            by_cases hn : c.At < nx
            · rw [if_pos hn, if_pos (.inr hn)]
            · rw [if_neg hn, if_neg]
              rintro (⟨b, _, hb', h⟩ | h)
              · rw [hb] at hb'; cases hb'; exact hlt h
              · exact hn h
        · rw [if_neg (by omega)]
          simp only [if_pos h0t, hnx']
          by_cases hn : c.At < nx
          · rw [if_pos hn, if_pos (.inr hn)]
          · rw [if_neg hn, if_neg]
            rintro (⟨b, h, _⟩ | h)
            · exact hi0 h
            · exact hn h
      rw [hP]
      by_cases hbad : sooner l1 i c ∨ c.At < nx
      · rw [if_pos hbad]
        have hA : comeAt l0 l1 i = some ⟨12, (i : Int)⟩ := by
          simp only [comeAt, hce, if_neg h1, if_neg h2]
          by_cases hb1 : sooner l1 i c
          · rw [if_pos hb1]
          · rw [if_neg hb1]
            rcases hbad with h | h
            · exact absurd h hb1
            · obtain ⟨k, b, hk, hb, h3⟩ := (htab nx hnx').1 h
              simp only [hk, hb, hx, if_pos h3]
        rw [hA]; rfl
      · rw [if_neg hbad]
        have hA : comeAt l0 l1 i = none := by
          simp only [comeAt, hce, if_neg h1, if_neg h2]
          rw [if_neg (fun h => hbad (.inl h))]
          cases hk : lastOf l1 c.Task i with
          | none => rfl
          | some k =>
            obtain ⟨b, hb, _⟩ := lastOf_task hk
            simp only [hb, hx]
            rw [if_neg]
            intro h3
            exact hbad (.inr ((htab nx hnx').2 ⟨k, b, hk, hb, h3⟩))
        rw [hA]
        simp only [if_pos h0t, hx, hnx', onwardS]
        congr 3
        -- the table's next state
        rw [wrap64_small (by omega) (by omega)]
        apply List.ext_getElem?
        intro q
        rw [List.getElem?_set, nexts_len]
        by_cases hq : c.Task.toNat = q
        · subst hq
          rw [if_pos rfl, if_pos htl]
          have hcast : ((c.Task.toNat : Nat) : Int) = c.Task := Int.toNat_of_nonneg h0t
          simp only [nexts, List.getElem?_map, List.getElem?_range htl, Option.map_some, hcast, lastOf, hce, if_true, hx]
        · rw [if_neg hq]
          have hne : ¬ c.Task = (q : Int) := fun h => hq (by omega)
          simp only [nexts, List.getElem?_map, lastOf, hce]
          by_cases hql : q < l0.length
          · rw [List.getElem?_range hql]
            simp only [Option.map_some, if_neg hne]
          · rw [List.getElem?_eq_none (by simp; omega)]; rfl) (fun _ => by simp [tasks_Legal.r0]) (K := K) (by omega)
    simp only [hr]
    cases firstOf (comeAt l0 l1) l1.length 0 <;> rfl
  · rw [if_neg hc, if_neg hc]
/-- the i-th job -/
def jobOf (l0 : List STask) (l1 : List SCome) (l2 l3 : List Int) (i : Nat) : SJob :=
  match l1[i]?, l2[i]?, l3[i]? with
  | some c, some a, some b => match l0[c.Task.toNat]? with
    | some t => ⟨c.Task, c.At + a, b, c.At + t.D, t.P⟩
    | none => ⟨0, 0, 0, 0, 0⟩
  | _, _, _ => ⟨0, 0, 0, 0, 0⟩
/-- what is wrong with the i-th job -/
def jobAt (l0 : List STask) (l1 : List SCome) (l2 l3 : List Int) (i : Nat) : Option SFault :=
  match l1[i]?, l2[i]?, l3[i]? with
  | some c, some a, some b => match l0[c.Task.toNat]? with
    | some t => if a < 0 ∨ a > t.J ∨ b < 1 ∨ b > t.C then some ⟨3, (i : Int)⟩ else none
    | none => none
  | _, _, _ => none
def jobsTill (l0 : List STask) (l1 : List SCome) (l2 l3 : List Int) (i : Nat) : List SJob := (List.range i).map (jobOf l0 l1 l2 l3)
/-- the jobs, or what is wrong -/
noncomputable def jobsOf (l0 : List STask) (l1 : List SCome) (l2 l3 : List Int) : List SJob × SFault :=
  if (comesFault l0 l1).Code = 0 then
    (if l2.length = l1.length ∧ l3.length = l1.length then
      (match firstOf (jobAt l0 l1 l2 l3) l1.length 0 with
      | some f => ([], f)
      | none => (jobsTill l0 l1 l2 l3 l1.length, ⟨0, 0⟩))
    else ([], ⟨2, 0⟩))
  else ([], comesFault l0 l1)
theorem comesFault_ok {l0 : List STask} {l1 : List SCome} (h : (comesFault l0 l1).Code = 0) : (setFault l0).Code = 0 ∧ l1.length ≤ 4000 ∧ ∀ i, i < l1.length → comeAt l0 l1 i = none := by
  unfold comesFault at h
  split at h
  · rename_i hs
    split at h
    · cases h
    · rename_i hl
      refine ⟨hs, by omega, fun i hi => ?_⟩
      cases hf : firstOf (comeAt l0 l1) l1.length 0 with
      | none => exact firstOf_none hf i (Nat.zero_le _) hi
      | some r =>
        rw [hf] at h
        obtain ⟨j, _, hj, hg, _⟩ := firstOf_some hf
        simp only [Option.getD_some] at h
        exfalso
        unfold comeAt at hg
        rw [List.getElem?_eq_getElem hj] at hg
        simp only at hg
        repeat' split at hg
        all_goals first | (cases hg; done) | (cases hg; cases h)
  · contradiction
theorem Jobs_eq0 (l0 : List STask) (l1 : List SCome) (l2 l3 : List Int) (K : Nat) (hK : 4020 ≤ K) : tasks_Jobs.f K l0 l1 l2 l3 = some (jobsOf l0 l1 l2 l3) := by
  unfold tasks_Jobs.f jobsOf
  rw [Legal_eq l0 l1 K hK]
  simp only
  by_cases hc : (comesFault l0 l1).Code = 0
  · rw [if_pos hc, if_pos hc]
    obtain ⟨hs, hl, hcomes⟩ := comesFault_ok hc
    obtain ⟨_, hl8, hset⟩ := setFault_ok hs
    unfold tasks_Jobs.p0
    by_cases hla : (l2.length : Int) = (l1.length : Int)
    · rw [if_pos hla]
      by_cases hlb : (l3.length : Int) = (l1.length : Int)
      · rw [if_pos hlb, if_pos (by omega)]
        have hr := iter_states (f := tasks_Jobs.r1 l0 l1 l2 l3) (fun i => (jobsTill l0 l1 l2 l3 i, i)) (fun i => (jobAt l0 l1 l2 l3 i).map fun f => (([] : List SJob), f)) l1.length (t := jobsTill l0 l1 l2 l3 l1.length) (fun i hi hp => by
          have hi' : (i : Int) < (l1.length : Int) := by omega
          have hi2 : i < l2.length := by omega
          have hi3 : i < l3.length := by omega
          have hc1 : l1[i]? = some l1[i] := List.getElem?_eq_getElem hi
          obtain ⟨ht0, ht1, ha0, ha1, _⟩ := comeAt_none hc1 (hcomes i hi)
          obtain ⟨t, ht⟩ : ∃ t, l0[l1[i].Task.toNat]? = some t := ⟨l0[l1[i].Task.toNat]'(by omega), List.getElem?_eq_getElem (by omega)⟩
          obtain ⟨_, _, htC, htT, htD, htJ, _⟩ := hset _ _ ht
          have hJ : jobAt l0 l1 l2 l3 i = if l2[i] < 0 ∨ l2[i] > t.J ∨ l3[i] < 1 ∨ l3[i] > t.C then some ⟨3, (i : Int)⟩ else none := by
            simp only [jobAt, hc1, List.getElem?_eq_getElem hi2, List.getElem?_eq_getElem hi3, ht]
          have hP : tasks_Jobs.p2 l2 l3 i t = some (if l2[i] < 0 ∨ l2[i] > t.J ∨ l3[i] < 1 ∨ l3[i] > t.C then .inr ([], ⟨3, (i : Int)⟩) else .inl ()) := by
            simp only [tasks_Jobs.p2, List.getElem?_eq_getElem hi2, List.getElem?_eq_getElem hi3]
            by_cases h1 : l2[i] < 0
            · rw [if_pos h1, if_pos (.inl h1)]
            rw [if_neg h1]
            by_cases h2 : l2[i] > t.J
            · rw [if_pos h2, if_pos (.inr (.inl h2))]
            rw [if_neg h2]
            by_cases h3 : l3[i] < 1
            · rw [if_pos h3, if_pos (.inr (.inr (.inl h3)))]
            rw [if_neg h3]
            by_cases h4 : l3[i] > t.C
            · rw [if_pos h4, if_pos (.inr (.inr (.inr h4)))]
            rw [if_neg h4, if_neg (by omega)]
          have hlen : (jobsTill l0 l1 l2 l3 i).length < 3518437208883 := by simp [jobsTill]; omega
          simp only [tasks_Jobs.r1, if_pos hi', hc1, if_pos ht0, ht, hP, hJ, List.getElem?_eq_getElem hi2, List.getElem?_eq_getElem hi3]
          by_cases hbad : l2[i] < 0 ∨ l2[i] > t.J ∨ l3[i] < 1 ∨ l3[i] > t.C
          · simp only [if_pos hbad]; rfl
          simp only [if_neg hbad, if_pos hlen, Option.map_none, onwardS]
          congr 3
          rw [wrap64_small (by omega) (by omega), wrap64_small (by omega) (by omega)]
          unfold jobsTill
          rw [List.range_succ, List.map_append]
          congr 1
          simp only [List.map_cons, List.map_nil, jobOf, hc1, List.getElem?_eq_getElem hi2, List.getElem?_eq_getElem hi3, ht]) (fun _ => by simp [tasks_Jobs.r1]) (K := K) (by omega)
        have h0 : jobsTill l0 l1 l2 l3 0 = [] := rfl
        simp only [h0] at hr
        simp only [hr]
        rw [firstOf_map]
        cases firstOf (jobAt l0 l1 l2 l3) l1.length 0 <;> rfl
      · rw [if_neg hlb, if_neg (by omega)]
    · rw [if_neg hla, if_neg (by omega)]
  · rw [if_neg hc, if_neg hc]
theorem Jobs_eq (l0 : List STask) (l1 : List SCome) (l2 l3 : List Int) (K : Nat) (hK : 4020 ≤ K) (h2 : l2.length ≤ 5000) (h3 : l3.length ≤ 5000) : tasks_Jobs.f K l0 l1 l2 l3 = some (jobsOf l0 l1 l2 l3) := Jobs_eq0 l0 l1 l2 l3 K hK
/-- what a task of a set is -/
structure Okt (t : STask) : Prop where
  C : 1 ≤ t.C ∧ t.C ≤ 10000
  T : 1 ≤ t.T ∧ t.T ≤ 10000
  D : 1 ≤ t.D ∧ t.D ≤ 10000
  J : 0 ≤ t.J ∧ t.J ≤ 10000
  O : 0 ≤ t.O ∧ t.O ≤ 10000
  P : 0 ≤ t.P ∧ t.P ≤ 1000
  CD : t.C ≤ t.D
theorem okt_of {l : List STask} (h : (setFault l).Code = 0) : ∀ t ∈ l, Okt t := fun t ht => by
  obtain ⟨i, hi⟩ := List.mem_iff_getElem?.1 ht
  obtain ⟨_, _, h⟩ := setFault_ok h
  obtain ⟨_, _, h1, h2, h3, h4, h5, h6, h7⟩ := h i t hi
  exact ⟨h1, h2, h3, h4, h5, h6, h7⟩
/-- a over b, rounded up -/
def ceilD (a b : Int) : Int := (a + b - 1) / b
theorem ceilD_mono {a a' b : Int} (hb : 1 ≤ b) (h : a ≤ a') : ceilD a b ≤ ceilD a' b := Int.ediv_le_ediv (by omega) (by omega)
theorem ceilD_nonneg {a b : Int} (hb : 1 ≤ b) (h : 0 ≤ a) : 0 ≤ ceilD a b := Int.ediv_nonneg (by omega) (by omega)
theorem ceilD_le {a b : Int} (hb : 1 ≤ b) (h : 0 ≤ a) : ceilD a b ≤ a := by
  unfold ceilD
  rw [← Int.lt_add_one_iff]
  apply Int.ediv_lt_of_lt_mul (by omega)
  have : a * 1 ≤ a * b := Int.mul_le_mul_of_nonneg_left hb h
  rw [Int.add_mul]
  omega
theorem ceil_eq {a b : Int} (ha : 0 ≤ a ∧ a ≤ 100000) (hb : 1 ≤ b ∧ b ≤ 100000) : fixed_ceil.f a b = some (ceilD a b) := by
  unfold fixed_ceil.f
  rw [if_neg (by omega), wrap64_small (n := a + b) (by omega) (by omega), wrap64_small (n := a + b - 1) (by omega) (by omega), Int.tdiv_eq_ediv_of_nonneg (by omega)]
  have h1 := ceilD_nonneg hb.1 ha.1
  have h2 := ceilD_le hb.1 ha.1
  show some (IntKind.i64.wrap (ceilD a b)) = _
  rw [wrap64_small (by omega) (by omega)]
/-- what others want in so many ticks -/
def wants (os : List STask) (w : Int) : Int := (os.map fun o => ceilD (w + o.J) o.T * o.C).sum
def dem (t : STask) (b : Int) (os : List STask) (w : Int) : Int := t.C + b + wants os w
theorem wants_nil (w : Int) : wants [] w = 0 := rfl
theorem wants_cons (o : STask) (os : List STask) (w : Int) : wants (o :: os) w = ceilD (w + o.J) o.T * o.C + wants os w := by simp [wants]
theorem wants_append (os ps : List STask) (w : Int) : wants (os ++ ps) w = wants os w + wants ps w := by simp [wants]
theorem want_bounds {o : STask} (ho : Okt o) {w : Int} (hw : 0 ≤ w ∧ w ≤ 10000) : 0 ≤ ceilD (w + o.J) o.T * o.C ∧ ceilD (w + o.J) o.T * o.C ≤ 200000000 := by
  have := ho.C; have := ho.T; have := ho.J
  have h1 := ceilD_nonneg (a := w + o.J) (b := o.T) (by omega) (by omega)
  have h2 := ceilD_le (a := w + o.J) (b := o.T) (by omega) (by omega)
  refine ⟨Int.mul_nonneg h1 (by omega), ?_⟩
  calc ceilD (w + o.J) o.T * o.C ≤ 20000 * o.C := Int.mul_le_mul_of_nonneg_right (by omega) (by omega)
    _ ≤ 20000 * 10000 := Int.mul_le_mul_of_nonneg_left (by omega) (by omega)
    _ = 200000000 := by decide
theorem wants_bounds : ∀ {os : List STask}, (∀ o ∈ os, Okt o) → ∀ {w : Int}, (0 ≤ w ∧ w ≤ 10000) → 0 ≤ wants os w ∧ wants os w ≤ 200000000 * os.length
  | [], _, w, _ => by simp [wants_nil]
  | o :: os, h, w, hw => by
    have h1 := want_bounds (h o (by simp)) hw
    have h2 := wants_bounds (fun x hx => h x (List.mem_cons_of_mem _ hx)) hw
    rw [wants_cons, List.length_cons]
    omega
theorem wants_mono : ∀ {os : List STask}, (∀ o ∈ os, Okt o) → ∀ {w w' : Int}, w ≤ w' → wants os w ≤ wants os w'
  | [], _, w, w', _ => by simp [wants_nil]
  | o :: os, h, w, w', hw => by
    have ho := h o (by simp)
    have h2 := wants_mono (fun x hx => h x (List.mem_cons_of_mem _ hx)) hw
    have h1 : ceilD (w + o.J) o.T * o.C ≤ ceilD (w' + o.J) o.T * o.C := Int.mul_le_mul_of_nonneg_right (ceilD_mono ho.T.1 (by omega)) (by have := ho.C; omega)
    rw [wants_cons, wants_cons]
    omega
/-- the least n, 1 at least, in which all is done that is wanted; 0: there is none up to most -/
def settled (f : Int → Int) (most : Int) : Int := match firstOf (fun n : Nat => if f n ≤ n then some (n : Int) else none) (most.toNat + 1) 1 with
  | some n => n
  | none => 0
theorem settled_some {f : Int → Int} {most : Int} {j : Nat} (h : firstOf (fun n : Nat => if f n ≤ n then some (n : Int) else none) (most.toNat + 1) 1 = some (j : Int)) : settled f most = j := by unfold settled; rw [h]
theorem settled_none {f : Int → Int} {most : Int} (h : firstOf (fun n : Nat => if f n ≤ n then some (n : Int) else none) (most.toNat + 1) 1 = none) : settled f most = 0 := by unfold settled; rw [h]
theorem settled_pos {f : Int → Int} {most : Int} (h : settled f most ≠ 0) : 1 ≤ settled f most ∧ settled f most ≤ most ∧ f (settled f most) ≤ settled f most ∧ ∀ n : Int, 1 ≤ n → n < settled f most → n < f n := by
  cases hf : firstOf (fun n : Nat => if f n ≤ n then some (n : Int) else none) (most.toNat + 1) 1 with
  | none => exact absurd (settled_none hf) h
  | some r =>
    obtain ⟨j, h1, h2, h3, h4⟩ := firstOf_some hf
    split at h3
    · cases h3
      rw [settled_some hf]
      refine ⟨by omega, by omega, by assumption, fun n hn1 hn2 => ?_⟩
      have := h4 n.toNat (by omega) (by omega)
      have e : ((n.toNat : Nat) : Int) = n := Int.toNat_of_nonneg (by omega)
      simp only [e] at this
      split at this
      · cases this
      · omega
    · cases h3
theorem settled_zero {f : Int → Int} {most : Int} (h : settled f most = 0) : ∀ n : Int, 1 ≤ n → n ≤ most → n < f n := by
  cases hf : firstOf (fun n : Nat => if f n ≤ n then some (n : Int) else none) (most.toNat + 1) 1 with
  | some r =>
    obtain ⟨j, h1, h2, h3, h4⟩ := firstOf_some hf
    split at h3
    · cases h3; rw [settled_some hf] at h; omega
    · cases h3
  | none =>
    intro n h1 h2
    have := firstOf_none hf n.toNat (by omega) (by omega)
    have e : ((n.toNat : Nat) : Int) = n := Int.toNat_of_nonneg (by omega)
    simp only [e] at this
    split at this
    · cases this
    · omega
theorem settled_eq {f : Int → Int} {most w : Int} (h1 : 1 ≤ w) (h2 : w ≤ most) (h3 : f w ≤ w) (h4 : ∀ n : Int, 1 ≤ n → n < w → n < f n) : settled f most = w := by
  by_cases h : settled f most = 0
  · have := settled_zero h w h1 h2; omega
  · obtain ⟨g1, g2, g3, g4⟩ := settled_pos h
    rcases Int.lt_trichotomy (settled f most) w with hl | hl | hl
    · have := h4 _ g1 hl; omega
    · exact hl
    · have := g4 _ h1 hl; omega
theorem settled_eq_zero {f : Int → Int} {most : Int} (h : ∀ n : Int, 1 ≤ n → n ≤ most → n < f n) : settled f most = 0 := by
  apply Decidable.byContradiction
  intro hne
  obtain ⟨g1, g2, g3, g4⟩ := settled_pos hne
  have := h _ g1 g2
  omega
theorem demand_eq (t : STask) (b : Int) (os : List STask) (w : Int) (ht : Okt t) (hb : 0 ≤ b ∧ b ≤ 10000) (ho : ∀ o ∈ os, Okt o) (hl : os.length ≤ 8) (hw : 0 ≤ w ∧ w ≤ 10000) (K : Nat) (hK : 9 ≤ K) : fixed_response_1.f K w t b os = some (dem t b os w) := by
  unfold fixed_response_1.f
  have hC := ht.C
  have hr := iter_states (ρ := Int) (f := fixed_response_1.r0 w os) (fun i => (t.C + b + wants (os.take i) w, i)) (fun _ => none) os.length (t := dem t b os w) (fun i hi _ => by
    have hi' : (i : Int) < (os.length : Int) := by omega
    have hoi := ho os[i] (List.getElem_mem hi)
    have hT := hoi.T; have hJ := hoi.J
    have hwb := want_bounds hoi hw
    have hs := wants_bounds (os := os.take i) (fun o h => ho o (List.mem_of_mem_take h)) hw
    have hlen : (os.take i).length ≤ 8 := by simp; omega
    simp only [fixed_response_1.r0, if_pos hi', List.getElem?_eq_getElem hi]
    rw [wrap64_small (n := w + os[i].J) (by omega) (by omega), ceil_eq (by omega) (by omega)]
    simp only [onwardS]
    rw [wrap64_small (n := ceilD (w + os[i].J) os[i].T * os[i].C) (by omega) (by omega), wrap64_small (by omega) (by omega)]
    congr 3
    rw [List.take_succ_eq_append_getElem hi, wants_append, wants_cons, wants_nil]
    omega) (fun _ => by simp [fixed_response_1.r0, dem]) (K := K) (by omega)
  have h0 : t.C + b + wants (os.take 0) w = t.C + b := by simp [wants_nil]
  rw [h0] at hr
  rw [wrap64_small (by omega) (by omega), hr, firstOf_none_of (fun _ _ _ => rfl)]
  rfl
theorem dem_mono {t : STask} {b : Int} {os : List STask} (ho : ∀ o ∈ os, Okt o) {w w' : Int} (h : w ≤ w') : dem t b os w ≤ dem t b os w' := by
  have := wants_mono ho h
  unfold dem; omega
theorem settle_eq (t : STask) (b : Int) (os : List STask) (ht : Okt t) (hb : 0 ≤ b ∧ b ≤ 10000) (ho : ∀ o ∈ os, Okt o) (hl : os.length ≤ 8) (most : Int) (hm : most ≤ 10000) (K : Nat) (hK : 20100 ≤ K) : fixed_Settle.f K (t.C + b) most t b os = some (settled (dem t b os) most) := by
  unfold fixed_Settle.f
  have hC := ht.C
  obtain ⟨r, hr, hR⟩ := iter_total (f := fixed_Settle.r0 K most t b os) (fun w => t.C + b ≤ w ∧ w ≤ 1600000000 + 20000 ∧ ∀ n : Int, 1 ≤ n → n < w → n < dem t b os n) (fun w => (10001 - w).toNat)
    (fun r => r = if settled (dem t b os) most = 0 then .inl () else .inr (settled (dem t b os) most)) (fun w hI => by
      obtain ⟨h1, h2, h3⟩ := hI
      by_cases hw : w ≤ most
      · have hd := demand_eq t b os w ht hb ho hl ⟨by omega, by omega⟩ K (by omega)
        simp only [fixed_Settle.r0, if_pos hw, hd]
        by_cases hle : dem t b os w ≤ w
        · right
          have hs := settled_eq (f := dem t b os) (most := most) (by omega) hw hle h3
          refine ⟨_, by rw [if_pos hle], ?_⟩
          rw [hs, if_neg (by omega)]
        · left
          have hwb := wants_bounds ho (w := w) ⟨by omega, by omega⟩
          refine ⟨_, by rw [if_neg hle], ⟨by unfold dem; omega, by unfold dem; omega, fun n hn1 hn2 => ?_⟩, by omega⟩
          by_cases hnw : n < w
          · exact h3 n hn1 hnw
          · have := dem_mono (t := t) (b := b) ho (w := w) (w' := n) (by omega)
            omega
      · right
        refine ⟨.inl (), by simp only [fixed_Settle.r0, if_neg hw], ?_⟩
        rw [settled_eq_zero (fun n h1 h2 => h3 n h1 (by omega)), if_pos rfl]) K (t.C + b) ⟨Int.le_refl _, by omega, fun n h1 h2 => by
          by_cases hn : n ≤ 10000
          · have := wants_bounds ho (w := n) ⟨by omega, hn⟩
            unfold dem; omega
          · have := wants_mono ho (w := 10000) (w' := n) (by omega)
            have := wants_bounds ho (w := 10000) ⟨by omega, by omega⟩
            unfold dem; omega⟩ (by omega)
  rw [hr, hR]
  by_cases h : settled (dem t b os) most = 0
  · rw [if_pos h, h]
  · rw [if_neg h]
/-- how long a task takes; 0: too long -/
def respond (t : STask) (os : List STask) (b : Int) : Int := if settled (dem t b os) (t.D - t.J) = 0 then 0 else settled (dem t b os) (t.D - t.J) + t.J
theorem response_eq (t : STask) (b : Int) (os : List STask) (ht : Okt t) (hb : 0 ≤ b ∧ b ≤ 10000) (ho : ∀ o ∈ os, Okt o) (hl : os.length ≤ 8) (K : Nat) (hK : 20100 ≤ K) : fixed_response.f K t os b = some (respond t os b) := by
  have hC := ht.C; have hD := ht.D; have hJ := ht.J
  unfold fixed_response.f
  rw [wrap64_small (n := t.C + b) (by omega) (by omega), wrap64_small (n := t.D - t.J) (by omega) (by omega), settle_eq t b os ht hb ho hl _ (by omega) K hK]
  simp only
  unfold respond
  by_cases h : settled (dem t b os) (t.D - t.J) = 0
  · rw [if_pos h, if_pos h]
  · rw [if_neg h, if_neg h]
    have := settled_pos h
    rw [wrap64_small (by omega) (by omega)]
/-- what is wrong with a set whose tasks must be done ere they come again -/
noncomputable def fixedFault (l : List STask) : SFault :=
  if (setFault l).Code = 0 then (firstOf (fun i => match l[i]? with | some t => if t.D > t.T then some ⟨12, (i : Int)⟩ else none | none => none) l.length 0).getD ⟨0, 0⟩ else setFault l
theorem fixedFault_ok {l : List STask} (h : (fixedFault l).Code = 0) : (setFault l).Code = 0 ∧ fixedFault l = ⟨0, 0⟩ ∧ ∀ t ∈ l, t.D ≤ t.T := by
  unfold fixedFault at h ⊢
  split at h
  · rename_i hs
    cases hf : firstOf (fun i => match l[i]? with | some t => if t.D > t.T then some (⟨12, (i : Int)⟩ : SFault) else none | none => none) l.length 0 with
    | none =>
      refine ⟨hs, by rw [if_pos hs]; rfl, fun t ht => ?_⟩
      obtain ⟨i, hi⟩ := List.mem_iff_getElem?.1 ht
      have := firstOf_none hf i (Nat.zero_le _) (lt_of_get hi)
      simp only [hi] at this
      split at this
      · cases this
      · omega
    | some r =>
      rw [hf] at h
      obtain ⟨j, _, hj, hg, _⟩ := firstOf_some hf
      simp only [Option.getD_some] at h
      exfalso
      split at hg
      · split at hg
        · cases hg; cases h
        · cases hg
      · cases hg
  · contradiction
theorem check_eq (l : List STask) (K : Nat) (hK : 20 ≤ K) : fixed_check.f K l = some (fixedFault l) := by
  unfold fixed_check.f fixedFault
  rw [Check_eq l K hK]
  simp only
  by_cases h : (setFault l).Code = 0
  · rw [if_pos h, if_pos h]
    have hl := (setFault_ok h).2.1
    have hr := iter_first0 (f := fixed_check.r0 l) (fun i => match l[i]? with | some t => if t.D > t.T then some ⟨12, (i : Int)⟩ else none | none => none) l.length (t := ()) (fun i hi => by
      have hi' : (i : Int) < (l.length : Int) := by omega
      simp only [fixed_check.r0, if_pos hi', List.getElem?_eq_getElem hi]
      split <;> rfl) (by simp [fixed_check.r0]) (K := K) (by omega)
    rw [hr]
    cases firstOf (fun i => match l[i]? with | some t => if t.D > t.T then some (⟨12, (i : Int)⟩ : SFault) else none | none => none) l.length 0 <;> rfl
  · rw [if_neg h, if_neg h]
/-- those that go ahead of task i, up to place n -/
def aboveTill (l : List STask) (i : Nat) (n : Nat) : List STask := (List.range n).filterMap fun k => match l[k]?, l[i]? with
  | some a, some b => if k ≠ i ∧ a.P ≥ b.P then some a else none
  | _, _ => none
abbrev aboveOf (l : List STask) (i : Nat) : List STask := aboveTill l i l.length
theorem aboveTill_len (l : List STask) (i n : Nat) : (aboveTill l i n).length ≤ n := by
  unfold aboveTill
  exact Nat.le_trans (List.length_filterMap_le _ _) (by simp)
theorem aboveTill_mem {l : List STask} {i n : Nat} {a : STask} (h : a ∈ aboveTill l i n) : a ∈ l := by
  unfold aboveTill at h
  obtain ⟨k, _, hk⟩ := List.mem_filterMap.1 h
  split at hk
  · rename_i x y hx hy
    split at hk
    · cases hk; exact List.mem_of_getElem? hx
    · cases hk
  · cases hk
theorem aboveTill_succ {l : List STask} {i n : Nat} {a b : STask} (ha : l[n]? = some a) (hb : l[i]? = some b) : aboveTill l i (n + 1) = aboveTill l i n ++ (if n ≠ i ∧ a.P ≥ b.P then [a] else []) := by
  unfold aboveTill
  rw [List.range_succ, List.filterMap_append]
  congr 1
  simp only [List.filterMap_cons, List.filterMap_nil, ha, hb]
  split <;> rename_i h <;> split at h <;> simp_all
theorem above_eq (l : List STask) (i : Nat) (hi : i < l.length) (hl : l.length ≤ 8) (K : Nat) (hK : 9 ≤ K) : fixed_above.f K l (i : Int) = some (aboveOf l i) := by
  unfold fixed_above.f
  have hr := iter_states (ρ := List STask) (f := fixed_above.r0 l (i : Int)) (fun k => (aboveTill l i k, k)) (fun _ => none) l.length (t := aboveOf l i) (fun k hk _ => by
    have hk' : (k : Int) < (l.length : Int) := by omega
    have hlen := aboveTill_len l i k
    rw [aboveTill_succ (List.getElem?_eq_getElem hk) (List.getElem?_eq_getElem hi)]
    simp only [fixed_above.r0, if_pos hk', List.getElem?_eq_getElem hk, Int.toNat_natCast, List.getElem?_eq_getElem hi, onwardS]
    by_cases h1 : (k : Int) = (i : Int)
    · rw [if_pos h1, if_neg (by omega), List.append_nil]
    · rw [if_neg h1, if_pos (by omega)]
      by_cases h2 : l[k].P ≥ l[i].P
      · rw [if_pos h2, if_pos (by omega), if_pos ⟨by omega, h2⟩]
      · rw [if_neg h2, if_neg (fun h => h2 h.2), List.append_nil]) (fun _ => by simp [fixed_above.r0]) (K := K) (by omega)
  have h0 : aboveTill l i 0 = [] := rfl
  rw [h0, firstOf_none_of (fun _ _ _ => rfl)] at hr
  rw [hr]; rfl
/-- how long task i of a set takes at worst -/
noncomputable def respOf (l : List STask) (i b : Int) : Int × SFault :=
  if (fixedFault l).Code = 0 then
    (if i < 0 ∨ i ≥ (l.length : Int) ∨ b < 0 ∨ b > 10000 then (0, ⟨3, 0⟩)
    else match l[i.toNat]? with
      | none => (0, ⟨3, 0⟩)
      | some t => if respond t (aboveOf l i.toNat) b = 0 then (0, ⟨13, i⟩) else (respond t (aboveOf l i.toNat) b, ⟨0, 0⟩))
  else (0, fixedFault l)
theorem Response_eq (l : List STask) (i b : Int) (K : Nat) (hK : 20100 ≤ K) : fixed_Response.f K l i b = some (respOf l i b) := by
  unfold fixed_Response.f respOf
  rw [check_eq l K (by omega)]
  simp only
  by_cases hc : (fixedFault l).Code = 0
  · rw [if_pos hc, if_pos hc]
    have hs := (fixedFault_ok hc).1
    have hl := (setFault_ok hs).2.1
    have hp : fixed_Response.p0 l i b = some (.inl (decide (i < 0 ∨ i ≥ (l.length : Int) ∨ b < 0 ∨ b > 10000))) := by
      unfold fixed_Response.p0
      by_cases h1 : i < 0
      · rw [if_pos h1, decide_eq_true (.inl h1)]
      rw [if_neg h1]
      by_cases h2 : i ≥ (l.length : Int)
      · rw [if_pos h2, decide_eq_true (.inr (.inl h2))]
      rw [if_neg h2]
      by_cases h3 : b < 0
      · rw [if_pos h3, decide_eq_true (.inr (.inr (.inl h3)))]
      rw [if_neg h3]
      congr 2
      rw [Bool.eq_iff_iff, decide_eq_true_eq, decide_eq_true_eq]
      omega
    simp only [hp, decide_eq_true_eq]
    by_cases hbad : i < 0 ∨ i ≥ (l.length : Int) ∨ b < 0 ∨ b > 10000
    · rw [if_pos hbad, if_pos hbad]
    · rw [if_neg hbad, if_neg hbad, if_pos (by omega)]
      have hi : i.toNat < l.length := by omega
      have hcast : ((i.toNat : Nat) : Int) = i := Int.toNat_of_nonneg (by omega)
      have ha := above_eq l i.toNat hi hl K (by omega)
      rw [hcast] at ha
      have hok := okt_of hs
      have hlen := aboveTill_len l i.toNat l.length
      simp only [List.getElem?_eq_getElem hi, ha, response_eq _ b _ (hok _ (List.getElem_mem hi)) ⟨by omega, by omega⟩ (fun o ho => hok o (aboveTill_mem ho)) (Nat.le_trans hlen hl) K hK]
      split <;> rfl
  · rw [if_neg hc, if_neg hc]
/-- the first ones of what all take -/
noncomputable def respTill (l : List STask) (bs : List Int) (n : Nat) : List Int := (List.range n).map fun (i : Nat) => match bs[i]? with | some b => (respOf l (i : Int) b).1 | none => 0
noncomputable def respAt (l : List STask) (bs : List Int) (i : Nat) : Option SFault := match bs[i]? with | some b => if (respOf l (i : Int) b).2.Code = 0 then none else some (respOf l (i : Int) b).2 | none => none
noncomputable def respsOf (l : List STask) (bs : List Int) : List Int × SFault :=
  if (fixedFault l).Code = 0 then
    (if bs.length = l.length then
      (match firstOf (respAt l bs) l.length 0 with
      | some f => ([], f)
      | none => (respTill l bs l.length, ⟨0, 0⟩))
    else ([], ⟨2, 0⟩))
  else ([], fixedFault l)
theorem respsOf_len (l : List STask) (bs : List Int) : (respsOf l bs).1.length ≤ 8 := by
  unfold respsOf
  split
  · rename_i h
    have hl := (setFault_ok (fixedFault_ok h).1).2.1
    split
    · split
      · simp
      · simp [respTill]; exact hl
    · simp
  · simp
theorem gmax_eq (x y : Int) : gmax x y = max x y := by unfold gmax; omega
theorem gmin_eq (x y : Int) : gmin x y = min x y := by unfold gmin; omega

/-- what is wrong with the i-th job that is played -/
def playAt (l : List SJob) (i : Nat) : Option SFault := match l[i]? with
  | some e => if e.At < 0 ∨ e.At > 60000 ∨ e.C < 1 ∨ e.C > 10000 ∨ e.Due < 0 ∨ e.Due > 80000 then some ⟨3, (i : Int)⟩ else none
  | none => none
def playFault (l : List SJob) : SFault := if l.length > 4000 then ⟨2, 0⟩ else (firstOf (playAt l) l.length 0).getD ⟨0, 0⟩
theorem schedCheck_eq (l : List SJob) (K : Nat) (hK : 4010 ≤ K) : sched_Check.f K l = some (playFault l) := by
  unfold sched_Check.f playFault
  by_cases hl : (l.length : Int) > 4000
  · rw [if_pos hl, if_pos (by omega)]
  rw [if_neg hl, if_neg (by omega)]
  have hr := iter_first0 (f := sched_Check.r0 l) (playAt l) l.length (t := ()) (fun i hi => by
    have hi' : (i : Int) < (l.length : Int) := by omega
    simp only [sched_Check.r0, if_pos hi', List.getElem?_eq_getElem hi, playAt]
    generalize l[i] = e
    by_cases h : e.At < 0 ∨ e.At > 60000 ∨ e.C < 1 ∨ e.C > 10000 ∨ e.Due < 0 ∨ e.Due > 80000
    · rw [if_pos h]
      repeat' split
      all_goals first | rfl | omega
    · rw [if_neg h]
      rw [if_neg (by omega), if_neg (by omega), if_neg (by omega), if_neg (by omega), if_neg (by omega), if_neg (by omega)]
      rfl) (by simp [sched_Check.r0]) (K := K) (by omega)
  rw [hr]
  cases firstOf (playAt l) l.length 0 <;> rfl
structure Okj (e : SJob) : Prop where
  At : 0 ≤ e.At ∧ e.At ≤ 60000
  C : 1 ≤ e.C ∧ e.C ≤ 10000
  Due : 0 ≤ e.Due ∧ e.Due ≤ 80000
theorem playFault_ok {l : List SJob} (h : (playFault l).Code = 0) : l.length ≤ 4000 ∧ playFault l = ⟨0, 0⟩ ∧ ∀ e ∈ l, Okj e := by
  unfold playFault at h ⊢
  split at h
  · cases h
  rename_i hl
  cases hf : firstOf (playAt l) l.length 0 with
  | none =>
    refine ⟨by omega, by rw [if_neg hl]; rfl, fun e he => ?_⟩
    obtain ⟨i, hi⟩ := List.mem_iff_getElem?.1 he
    have := firstOf_none hf i (Nat.zero_le _) (lt_of_get hi)
    simp only [playAt, hi] at this
    split at this
    · cases this
    · exact ⟨by omega, by omega, by omega⟩
  | some r =>
    rw [hf] at h
    obtain ⟨j, _, hj, hg, _⟩ := firstOf_some hf
    exfalso
    simp only [playAt, List.getElem?_eq_getElem hj] at hg
    split at hg
    · cases hg; cases h
    · cases hg
theorem playFault_of {l : List SJob} (hl : l.length ≤ 4000) (h : ∀ e ∈ l, Okj e) : playFault l = ⟨0, 0⟩ := by
  unfold playFault
  rw [if_neg (by omega), firstOf_none_of]
  · rfl
  · intro j _ hj
    have he := h l[j] (List.getElem_mem hj)
    have := he.At; have := he.C; have := he.Due
    simp only [playAt, List.getElem?_eq_getElem hj]
    rw [if_neg (by omega)]
/-- job a goes ahead of job b, by a policy, then by their times -/
def aheadJ (p : Int) (a b : SJob) : Prop := if p = 1 then a.P > b.P ∨ (a.P = b.P ∧ a.At < b.At) else a.Due < b.Due ∨ (a.Due = b.Due ∧ a.At < b.At)
instance (p : Int) (a b : SJob) : Decidable (aheadJ p a b) := by unfold aheadJ; infer_instance
theorem compare_eq (x y : Int) : cmp_Compare_int.f x y = if x < y then -1 else if x > y then 1 else 0 := by simp [cmp_Compare_int.f, cmp_isNaN_int.f]
theorem or2_eq (x y : Int) (K : Nat) (hK : 3 ≤ K) : cmp_Or_int.f K [x, y] = some (if x = 0 then y else x) := by
  obtain ⟨K, rfl⟩ : ∃ k, K = k + 3 := ⟨K - 3, by omega⟩
  simp only [cmp_Or_int.f, iter, cmp_Or_int.r0]
  by_cases hx : x = 0 <;> by_cases hy : y = 0 <;> simp [hx, hy]
/-- can it run at t? -/
def canJ (jobs : List SJob) (left : List Int) (t : Int) (i : Nat) : Prop := match jobs[i]?, left[i]? with
  | some j, some x => j.At ≤ t ∧ 0 < x
  | _, _ => False
instance (jobs : List SJob) (left : List Int) (t : Int) (i : Nat) : Decidable (canJ jobs left t i) := by unfold canJ; split <;> infer_instance
/-- the first of the first n -/
def firstTo (p : Int) (jobs : List SJob) (left : List Int) (t : Int) : Nat → Int
  | 0 => -1
  | n + 1 =>
    let b := firstTo p jobs left t n
    if canJ jobs left t n then
      (if b < 0 then (n : Int) else match jobs[n]?, jobs[b.toNat]? with
        | some x, some y => if aheadJ p x y then (n : Int) else b
        | _, _ => b)
    else b
theorem firstTo_cases (p : Int) (jobs : List SJob) (left : List Int) (t : Int) : ∀ n, n ≤ jobs.length → (firstTo p jobs left t n = -1 ∧ ∀ i, i < n → ¬ canJ jobs left t i) ∨
    (∃ (b : Nat) (y : SJob), firstTo p jobs left t n = (b : Int) ∧ b < n ∧ jobs[b]? = some y ∧ canJ jobs left t b ∧ ∀ i x, i < n → jobs[i]? = some x → canJ jobs left t i → ¬ aheadJ p x y ∧ (i < b → aheadJ p y x))
  | 0, _ => .inl ⟨rfl, fun i h => by omega⟩
  | n + 1, hn => by
    have hnx : jobs[n]? = some jobs[n] := List.getElem?_eq_getElem (by omega)
    generalize jobs[n] = x at hnx
    have irr : ∀ x : SJob, ¬ aheadJ p x x := fun x h => by unfold aheadJ at h; split at h <;> omega
    have tr : ∀ x y z : SJob, aheadJ p x y → ¬ aheadJ p z y → ¬ aheadJ p z x := fun x y z h k hh => by
      unfold aheadJ at h k hh; split at h <;> simp_all <;> omega
    have tr2 : ∀ x y z : SJob, aheadJ p x y → aheadJ p y z → aheadJ p x z := fun x y z h k => by
      unfold aheadJ at h k ⊢; split at h <;> simp_all <;> omega
    have tr3 : ∀ x y z : SJob, aheadJ p x y → ¬ aheadJ p z y → aheadJ p x z := fun x y z h k => by
      unfold aheadJ at h k ⊢; split at h <;> simp_all <;> omega
    rcases firstTo_cases p jobs left t n (by omega) with ⟨h1, h2⟩ | ⟨b, y, h1, h2, h3, h4, h5⟩
    · by_cases hc : canJ jobs left t n
      · right
        refine ⟨n, x, by simp only [firstTo, if_pos hc, h1]; rfl, by omega, hnx, hc, fun i z hi hz hcz => ?_⟩
        by_cases hin : i = n
        · subst hin; rw [hnx] at hz; cases hz; exact ⟨irr _, fun h => by omega⟩
        · exact absurd hcz (h2 i (by omega))
      · left
        refine ⟨by simp only [firstTo, if_neg hc, h1], fun i hi => ?_⟩
        by_cases hin : i = n
        · subst hin; exact hc
        · exact h2 i (by omega)
    · right
      by_cases hc : canJ jobs left t n
      · by_cases ha : aheadJ p x y
        · refine ⟨n, x, by simp only [firstTo, if_pos hc, h1, Int.toNat_natCast, hnx, h3, if_pos ha]; rw [if_neg (by omega)], by omega, hnx, hc, fun i z hi hz hcz => ?_⟩
          by_cases hin : i = n
          · subst hin; rw [hnx] at hz; cases hz; exact ⟨irr _, fun h => by omega⟩
          · obtain ⟨g1, g2⟩ := h5 i z (by omega) hz hcz
            exact ⟨tr x y z ha g1, fun _ => tr3 x y z ha g1⟩
        · refine ⟨b, y, by simp only [firstTo, if_pos hc, h1, Int.toNat_natCast, hnx, h3, if_neg ha]; rw [if_neg (by omega)], by omega, h3, h4, fun i z hi hz hcz => ?_⟩
          by_cases hin : i = n
          · subst hin; rw [hnx] at hz; cases hz; exact ⟨ha, fun h => by omega⟩
          · exact h5 i z (by omega) hz hcz
      · refine ⟨b, y, by simp only [firstTo, if_neg hc, h1], by omega, h3, h4, fun i z hi hz hcz => ?_⟩
        by_cases hin : i = n
        · subst hin; exact absurd hcz hc
        · exact h5 i z (by omega) hz hcz
theorem getD_of {l : List Int} {i : Nat} {x : Int} (h : l[i]? = some x) : l.getD i 0 = x := by simp [List.getD, h]
theorem get_of_lt {l : List Int} {i : Nat} (h : i < l.length) : l[i]? = some (l.getD i 0) := by simp [List.getD, h]
theorem getD_set (l : List Int) (i j : Nat) (x : Int) (hi : i < l.length) : (l.set i x).getD j 0 = if i = j then x else l.getD j 0 := by
  simp only [List.getD, List.getElem?_set]
  by_cases h : i = j
  · subst h; simp [hi]
  · simp [h]
def atN (jobs : List SJob) (j : Nat) : Nat := match jobs[j]? with | some e => e.At.toNat | none => 0
def costOf (jobs : List SJob) (j : Nat) : Int := (jobs.map (·.C)).getD j 0
theorem costOf_some {jobs : List SJob} {j : Nat} {e : SJob} (h : jobs[j]? = some e) : costOf jobs j = e.C := by simp [costOf, List.getD, h]
theorem atN_some {jobs : List SJob} {j : Nat} {e : SJob} (h : jobs[j]? = some e) : atN jobs j = e.At.toNat := by simp [atN, h]

def sumN (f : Nat → Int) : Nat → Int
  | 0 => 0
  | n + 1 => sumN f n + f n
theorem sumN_congr {f g : Nat → Int} : ∀ {n : Nat}, (∀ j, j < n → f j = g j) → sumN f n = sumN g n
  | 0, _ => rfl
  | n + 1, h => by simp only [sumN]; rw [sumN_congr (fun j hj => h j (by omega)), h n (by omega)]
theorem sumN_le {f g : Nat → Int} : ∀ {n : Nat}, (∀ j, j < n → f j ≤ g j) → sumN f n ≤ sumN g n
  | 0, _ => Int.le_refl _
  | n + 1, h => by
    simp only [sumN]
    have := sumN_le (n := n) (fun j hj => h j (by omega))
    have := h n (by omega)
    omega
theorem sumN_nonneg {f : Nat → Int} : ∀ {n : Nat}, (∀ j, j < n → 0 ≤ f j) → 0 ≤ sumN f n
  | 0, _ => Int.le_refl _
  | n + 1, h => by
    simp only [sumN]
    have := sumN_nonneg (n := n) (fun j hj => h j (by omega))
    have := h n (by omega)
    omega
theorem sumN_zero {f : Nat → Int} {n : Nat} (h : ∀ j, j < n → f j = 0) : sumN f n = 0 := by
  rw [sumN_congr (g := fun _ => 0) h]
  induction n with
  | zero => rfl
  | succ n ih => simp only [sumN]; rw [ih (fun j hj => h j (by omega))]; rfl
theorem sumN_one {f g : Nat → Int} {b : Nat} {d : Int} : ∀ {n : Nat}, b < n → f b = g b + d → (∀ j, j < n → j ≠ b → f j = g j) → sumN f n = sumN g n + d
  | 0, h, _, _ => by omega
  | n + 1, h, hb, ho => by
    simp only [sumN]
    by_cases hn : n = b
    · subst hn
      rw [hb, sumN_congr (fun j hj => ho j (by omega) (by omega))]
      omega
    · rw [sumN_one (n := n) (by omega) hb (fun j hj hne => ho j (by omega) hne), ho n (by omega) hn]
      omega
theorem sumN_term {f : Nat → Int} {n k : Nat} (h : ∀ j, j < n → 0 ≤ f j) (hk : k < n) : f k ≤ sumN f n := by
  have h1 := sumN_one (f := f) (g := fun j => if j = k then 0 else f j) (b := k) (d := f k) hk (by simp) (fun j _ hne => by simp [hne])
  have h2 := sumN_nonneg (f := fun j => if j = k then 0 else f j) (n := n) (fun j hj => by show 0 ≤ (if j = k then 0 else f j); split; exact Int.le_refl _; exact h j hj)
  omega
theorem sumN_add (f g : Nat → Int) : ∀ n, sumN (fun j => f j + g j) n = sumN f n + sumN g n
  | 0 => rfl
  | n + 1 => by simp only [sumN]; rw [sumN_add f g n]; omega
theorem sumN_swap (f : Nat → Nat → Int) (m : Nat) : ∀ n, sumN (fun j => sumN (fun o => f o j) m) n = sumN (fun o => sumN (fun j => f o j) n) m
  | 0 => by
    show (0 : Int) = _
    symm
    exact sumN_zero (fun _ _ => rfl)
  | n + 1 => by
    simp only [sumN]
    rw [sumN_swap f m n, ← sumN_add]
theorem sumN_pick {f : Nat → Int} {n k : Nat} (hk : k < n) (h : ∀ j, j < n → j ≠ k → f j = 0) : sumN f n = f k := by
  have h1 := sumN_one (f := f) (g := fun _ => 0) (b := k) (d := f k) hk (by simp) (fun j hj hne => h j hj hne)
  rw [h1, sumN_zero (fun _ _ => rfl)]
  omega
/-- the greatest place up to m with a property -/
theorem exists_last {p : Nat → Prop} (m : Nat) (h0 : p 0) : ∃ t, t ≤ m ∧ p t ∧ ∀ s, t < s → s ≤ m → ¬ p s := by
  induction m with
  | zero => exact ⟨0, Nat.le_refl _, h0, fun s h1 h2 => by omega⟩
  | succ m ih =>
    by_cases h : p (m + 1)
    · exact ⟨m + 1, Nat.le_refl _, h, fun s h1 h2 => by omega⟩
    · obtain ⟨t, h1, h2, h3⟩ := ih
      refine ⟨t, by omega, h2, fun s h4 h5 => ?_⟩
      by_cases hs : s = m + 1
      · subst hs; exact h
      · exact h3 s h4 (by omega)
/-- work that is done tick by tick: what is left of n jobs; those of a level, which go ahead of all others -/
structure Level (n : Nat) (L : Nat → Nat → Int) (H : Nat → Prop) (r : Nat → Nat) (c : Nat → Int) : Prop where
  start : ∀ j, j < n → L 0 j = c j
  nonneg : ∀ t j, 0 ≤ L t j
  down : ∀ t j, L (t + 1) j ≤ L t j
  wait : ∀ t j, j < n → t < r j → L (t + 1) j = L t j
  runs : ∀ t, (∃ j, j < n ∧ H j ∧ r j ≤ t ∧ 0 < L t j) → ∃ b, b < n ∧ H b ∧ r b ≤ t ∧ 0 < L t b ∧ L (t + 1) b = L t b - 1 ∧ ∀ j, j < n → j ≠ b → L (t + 1) j = L t j
theorem Level.mono {n : Nat} {L : Nat → Nat → Int} {H : Nat → Prop} {r : Nat → Nat} {c : Nat → Int} (h : Level n L H r c) {t t' : Nat} (ht : t ≤ t') (j : Nat) : L t' j ≤ L t j := by
  induction t' with
  | zero => obtain rfl : t = 0 := by omega
            exact Int.le_refl _
  | succ t' ih =>
    by_cases he : t = t' + 1
    · subst he; exact Int.le_refl _
    · have := ih (by omega); have := h.down t' j; omega
theorem Level.still {n : Nat} {L : Nat → Nat → Int} {H : Nat → Prop} {r : Nat → Nat} {c : Nat → Int} (h : Level n L H r c) {t : Nat} {j : Nat} (hj : j < n) (ht : t ≤ r j) : L t j = c j := by
  induction t with
  | zero => exact h.start j hj
  | succ t ih => rw [h.wait t j hj (by omega)]; exact ih (by omega)
/-- if of a level never more comes in w ticks than can be done in them, then each of it is done w ticks behind its coming -/
theorem Level.done {n : Nat} {L : Nat → Nat → Int} {H : Nat → Prop} [DecidablePred H] {r : Nat → Nat} {c : Nat → Int} (h : Level n L H r c) (w : Nat) (hw : 1 ≤ w)
    (hsum : ∀ t0, sumN (fun j => if H j ∧ t0 ≤ r j ∧ r j < t0 + w then c j else 0) n ≤ w) {k : Nat} (hk : k < n) (hHk : H k) : L (r k + w) k = 0 := by
  obtain ⟨t0, ht0, hid, hlast⟩ := exists_last (p := fun t => ∀ j, j < n → H j → r j < t → L t j = 0) (r k) (fun j _ _ h => by omega)
  by_cases hall : ∀ t, t0 ≤ t → t < t0 + w → ∃ j, j < n ∧ H j ∧ r j ≤ t ∧ 0 < L t j
  · -- the core is never idle for this level
    have hA : ∀ d, d ≤ w → sumN (fun j => if H j ∧ t0 ≤ r j ∧ r j < t0 + w then L (t0 + d) j else 0) n ≤ (w : Int) - d := by
      intro d
      induction d with
      | zero =>
        intro _
        have := hsum t0
        rw [sumN_congr (g := fun j => if H j ∧ t0 ≤ r j ∧ r j < t0 + w then c j else 0) (fun j hj => by
          by_cases hc : H j ∧ t0 ≤ r j ∧ r j < t0 + w
          · rw [if_pos hc, if_pos hc]; exact h.still hj hc.2.1
          · rw [if_neg hc, if_neg hc])]
        omega
      | succ d ih =>
        intro hd
        have ih := ih (by omega)
        obtain ⟨b, hb, hHb, hrb, hLb, hstep, hoth⟩ := h.runs (t0 + d) (hall (t0 + d) (by omega) (by omega))
        have hrb0 : t0 ≤ r b := by
          apply Nat.le_of_not_lt
          intro hlt
          have h1 := hid b hb hHb hlt
          have h2 := h.mono (show t0 ≤ t0 + d by omega) b
          omega
        have := sumN_one (f := fun j => if H j ∧ t0 ≤ r j ∧ r j < t0 + w then L (t0 + (d + 1)) j else 0) (g := fun j => if H j ∧ t0 ≤ r j ∧ r j < t0 + w then L (t0 + d) j else 0) (b := b) (d := -1) hb (by
          rw [if_pos ⟨hHb, hrb0, by omega⟩, if_pos ⟨hHb, hrb0, by omega⟩]
          show L (t0 + d + 1) b = _
          rw [hstep]; omega) (fun j hj hne => by
          by_cases hc : H j ∧ t0 ≤ r j ∧ r j < t0 + w
          · rw [if_pos hc, if_pos hc]; exact hoth j hj hne
          · rw [if_neg hc, if_neg hc])
        rw [this]
        omega
    have hend := hA w (Nat.le_refl _)
    have hzero : ∀ j, j < n → H j → r j < t0 + w → L (t0 + w) j = 0 := by
      intro j hj hHj hrj
      by_cases hr0 : r j < t0
      · have h1 := hid j hj hHj hr0
        have h2 := h.mono (show t0 ≤ t0 + w by omega) j
        have h3 := h.nonneg (t0 + w) j
        omega
      · have h1 := sumN_term (f := fun j => if H j ∧ t0 ≤ r j ∧ r j < t0 + w then L (t0 + w) j else 0) (n := n) (k := j) (fun i _ => by
          by_cases hc : H i ∧ t0 ≤ r i ∧ r i < t0 + w
          · rw [if_pos hc]; exact h.nonneg _ _
          · rw [if_neg hc]; exact Int.le_refl _) hj
        rw [if_pos ⟨hHj, by omega, hrj⟩] at h1
        have h3 := h.nonneg (t0 + w) j
        omega
    by_cases hrk : r k < t0 + w
    · have h1 := hzero k hk hHk hrk
      have h2 := h.mono (show t0 + w ≤ r k + w by omega) k
      have h3 := h.nonneg (r k + w) k
      omega
    · exact absurd hzero (hlast (t0 + w) (by omega) (by omega))
  · have ⟨t, ht⟩ := Classical.not_forall.1 hall
    have ⟨ht1, ht⟩ := Classical.not_imp.1 ht
    have ⟨ht2, hnone⟩ := Classical.not_imp.1 ht
    have hz : ∀ j, j < n → H j → r j ≤ t → L t j = 0 := fun j hj hHj hrj => by
      have h1 := h.nonneg t j
      by_cases h0 : 0 < L t j
      · exact absurd ⟨j, hj, hHj, hrj, h0⟩ hnone
      · omega
    by_cases hrk : r k ≤ t
    · have h1 := hz k hk hHk hrk
      have h2 := h.mono (show t ≤ r k + w by omega) k
      have h3 := h.nonneg (r k + w) k
      omega
    · refine absurd (fun j hj hHj hrj => ?_) (hlast (t + 1) (by omega) (by omega))
      have h1 := hz j hj hHj (by omega)
      have h2 := h.down t j
      have h3 := h.nonneg (t + 1) j
      omega
/-- so much of one task lies in w ticks at most, if it comes T apart, J late at most -/
theorem spaced {n : Nat} {q : Nat → Prop} [DecidablePred q] {r : Nat → Nat} {a c : Nat → Int} {C T J : Int} (hT : 1 ≤ T) (hC : 0 ≤ C) (hc : ∀ j, j < n → q j → c j ≤ C) (hra : ∀ j, j < n → q j → a j ≤ r j ∧ (r j : Int) ≤ a j + J)
    (hsp : ∀ i j, i < j → j < n → q i → q j → a i + T ≤ a j) (t0 w : Nat) (hw : 1 ≤ w) (hJ : 0 ≤ J) :
    sumN (fun j => if q j ∧ t0 ≤ r j ∧ r j < t0 + w then c j else 0) n ≤ ((w + J + T - 1) / T) * C := by
  have key : ∀ m, m ≤ n → (sumN (fun j => if q j ∧ t0 ≤ r j ∧ r j < t0 + w then c j else 0) m ≤ 0 ∧ ∀ j, j < m → ¬ (q j ∧ t0 ≤ r j ∧ r j < t0 + w)) ∨
      ∃ j, j < m ∧ (q j ∧ t0 ≤ r j ∧ r j < t0 + w) ∧ sumN (fun j => if q j ∧ t0 ≤ r j ∧ r j < t0 + w then c j else 0) m ≤ ((a j - (t0 - J)) / T + 1) * C := by
    intro m
    induction m with
    | zero => intro _; exact .inl ⟨Int.le_refl _, fun j h => by omega⟩
    | succ m ih =>
      intro hm
      have ih := ih (by omega)
      simp only [sumN]
      by_cases hc' : q m ∧ t0 ≤ r m ∧ r m < t0 + w
      · right
        refine ⟨m, by omega, hc', ?_⟩
        rw [if_pos hc']
        have hcm := hc m (by omega) hc'.1
        have hrm := hra m (by omega) hc'.1
        rcases ih with ⟨h1, _⟩ | ⟨j, hj, hcj, h1⟩
        · have h0 : 0 ≤ (a m - (t0 - J)) / T := Int.ediv_nonneg (by omega) (by omega)
          have : 1 * C ≤ ((a m - (t0 - J)) / T + 1) * C := Int.mul_le_mul_of_nonneg_right (by omega) hC
          omega
        · have hs := hsp j m hj (by omega) hcj.1 hc'.1
          have h2 : (a j - (t0 - J)) / T + 1 ≤ (a m - (t0 - J)) / T := by
            have : (a j - (t0 - J) + T * 1) / T = (a j - (t0 - J)) / T + 1 := Int.add_mul_ediv_left _ _ (by omega)
            rw [← this]
            exact Int.ediv_le_ediv (by omega) (by omega)
          have h3 : ((a j - (t0 - J)) / T + 1 + 1) * C ≤ ((a m - (t0 - J)) / T + 1) * C := Int.mul_le_mul_of_nonneg_right (by omega) hC
          rw [Int.add_mul ((a j - (t0 - J)) / T + 1)] at h3
          omega
      · rw [if_neg hc']
        rcases ih with ⟨h1, h2⟩ | ⟨j, hj, hcj, h1⟩
        · left
          refine ⟨by omega, fun j hj => ?_⟩
          by_cases hjm : j = m
          · subst hjm; exact hc'
          · exact h2 j (by omega)
        · exact .inr ⟨j, by omega, hcj, by omega⟩
  have e : (w + J + T - 1) / T = (w + J - 1) / T + 1 := by
    have : (w + J - 1 + T * 1) / T = (w + J - 1) / T + 1 := Int.add_mul_ediv_left _ _ (by omega)
    rw [← this]; congr 1; omega
  rw [e]
  rcases key n (Nat.le_refl _) with ⟨h1, _⟩ | ⟨j, hj, hcj, h1⟩
  · have h0 : 0 ≤ ((w : Int) + J - 1) / T := Int.ediv_nonneg (by omega) (by omega)
    have : 0 ≤ ((w + J - 1) / T + 1) * C := Int.mul_nonneg (by omega) hC
    omega
  · have hrj := hra j hj hcj.1
    have : (a j - (t0 - J)) / T ≤ (w + J - 1) / T := Int.ediv_le_ediv (by omega) (by omega)
    have := Int.mul_le_mul_of_nonneg_right (show (a j - (t0 - J)) / T + 1 ≤ (w + J - 1) / T + 1 by omega) hC
    omega

/-- what is known of the j-th job -/
structure JobAt (l0 : List STask) (l1 : List SCome) (l2 l3 : List Int) (j : Nat) (c : SCome) (t : STask) (a b : Int) : Prop where
  come : l1[j]? = some c
  task : l0[c.Task.toNat]? = some t
  task0 : 0 ≤ c.Task
  late : l2[j]? = some a
  takes : l3[j]? = some b
  job : (jobsTill l0 l1 l2 l3 l1.length)[j]? = some ⟨c.Task, c.At + a, b, c.At + t.D, t.P⟩
  at_ : 0 ≤ c.At ∧ c.At ≤ 20000
  a : 0 ≤ a ∧ a ≤ t.J
  b : 1 ≤ b ∧ b ≤ t.C
  ok : Okt t
structure JobsOk (l0 : List STask) (l1 : List SCome) (l2 l3 : List Int) : Prop where
  set : (setFault l0).Code = 0
  len : l1.length ≤ 4000
  len2 : l2.length = l1.length
  len3 : l3.length = l1.length
  comes : ∀ i, i < l1.length → comeAt l0 l1 i = none
  jobs : ∀ i, i < l1.length → jobAt l0 l1 l2 l3 i = none
  eq : jobsOf l0 l1 l2 l3 = (jobsTill l0 l1 l2 l3 l1.length, ⟨0, 0⟩)
theorem jobsOf_ok {l0 : List STask} {l1 : List SCome} {l2 l3 : List Int} (h : (jobsOf l0 l1 l2 l3).2.Code = 0) : JobsOk l0 l1 l2 l3 := by
  unfold jobsOf at h
  split at h
  · rename_i hc
    split at h
    · rename_i hl
      obtain ⟨hs, hl1, hcomes⟩ := comesFault_ok hc
      cases hf : firstOf (jobAt l0 l1 l2 l3) l1.length 0 with
      | none =>
        refine ⟨hs, hl1, hl.1, hl.2, hcomes, fun i hi => firstOf_none hf i (Nat.zero_le _) hi, ?_⟩
        unfold jobsOf
        rw [if_pos hc, if_pos hl, hf]
      | some r =>
        rw [hf] at h
        obtain ⟨j, _, hj, hg, _⟩ := firstOf_some hf
        exfalso
        unfold jobAt at hg
        repeat' split at hg
        all_goals first | (cases hg; done) | (cases hg; cases h)
    · cases h
  · contradiction
theorem JobsOk.at {l0 : List STask} {l1 : List SCome} {l2 l3 : List Int} (h : JobsOk l0 l1 l2 l3) {j : Nat} (hj : j < l1.length) : ∃ c t a b, JobAt l0 l1 l2 l3 j c t a b := by
  have hc : l1[j]? = some l1[j] := List.getElem?_eq_getElem hj
  obtain ⟨h1, h2, h3, h4, _⟩ := comeAt_none hc (h.comes j hj)
  obtain ⟨t, ht⟩ : ∃ t, l0[l1[j].Task.toNat]? = some t := ⟨l0[l1[j].Task.toNat]'(by omega), List.getElem?_eq_getElem (by omega)⟩
  have ha : l2[j]? = some (l2[j]'(by have := h.len2; omega)) := List.getElem?_eq_getElem _
  have hb : l3[j]? = some (l3[j]'(by have := h.len3; omega)) := List.getElem?_eq_getElem _
  have hJ := h.jobs j hj
  simp only [jobAt, hc, ha, hb, ht] at hJ
  split at hJ
  · cases hJ
  refine ⟨_, t, _, _, hc, ht, h1, ha, hb, ?_, ⟨h3, h4⟩, by omega, by omega, okt_of h.set t (List.mem_of_getElem? ht)⟩
  simp only [jobsTill, List.getElem?_map, List.getElem?_range hj, Option.map_some, jobOf, hc, ha, hb, ht]
theorem jobsTill_len (l0 : List STask) (l1 : List SCome) (l2 l3 : List Int) (n : Nat) : (jobsTill l0 l1 l2 l3 n).length = n := by simp [jobsTill]
theorem JobsOk.okj {l0 : List STask} {l1 : List SCome} {l2 l3 : List Int} (h : JobsOk l0 l1 l2 l3) : ∀ e ∈ jobsTill l0 l1 l2 l3 l1.length, Okj e := fun e he => by
  obtain ⟨j, hj⟩ := List.mem_iff_getElem?.1 he
  have hlt := lt_of_get hj
  rw [jobsTill_len] at hlt
  obtain ⟨c, t, a, b, hJ⟩ := h.at hlt
  rw [hJ.job] at hj
  cases hj
  have := hJ.at_; have := hJ.a; have := hJ.b; have := hJ.ok.J; have := hJ.ok.C; have := hJ.ok.D
  exact ⟨by simp only; omega, by simp only; omega, by simp only; omega⟩
theorem lastOf_ge {l : List SCome} {t : Int} {k j : Nat} {b : SCome} (hj : j < k) (hb : l[j]? = some b) (ht : b.Task = t) : ∃ m, lastOf l t k = some m ∧ j ≤ m := by
  induction k with
  | zero => omega
  | succ k ih =>
    by_cases hjk : j = k
    · subst hjk
      exact ⟨j, by simp only [lastOf, hb, if_pos ht], Nat.le_refl _⟩
    · obtain ⟨m, h1, h2⟩ := ih (by omega)
      have hmk := lastOf_lt h1
      simp only [lastOf]
      split
      · split
        · exact ⟨k, rfl, by omega⟩
        · exact ⟨m, h1, h2⟩
      · exact ⟨m, h1, h2⟩
/-- comings stand in their order -/
theorem JobsOk.order {l0 : List STask} {l1 : List SCome} {l2 l3 : List Int} (h : JobsOk l0 l1 l2 l3) : ∀ {i j : Nat} {a b : SCome}, i ≤ j → l1[i]? = some a → l1[j]? = some b → a.At ≤ b.At := by
  intro i j
  induction j with
  | zero => intro a b hij ha hb; obtain rfl : i = 0 := by omega
            rw [ha] at hb; cases hb; exact Int.le_refl _
  | succ j ih =>
    intro a b hij ha hb
    by_cases he : i = j + 1
    · subst he; rw [ha] at hb; cases hb; exact Int.le_refl _
    · have hlt := lt_of_get hb
      have hp : l1[j]? = some l1[j] := List.getElem?_eq_getElem (by omega)
      have h1 := ih (by omega) ha hp
      have h2 := (comeAt_none hb (h.comes _ hlt)).2.2.2.2.1 l1[j] (by omega) hp
      omega
/-- comings of one task are so far apart -/
theorem JobsOk.apart {l0 : List STask} {l1 : List SCome} {l2 l3 : List Int} (h : JobsOk l0 l1 l2 l3) {i j : Nat} {a b : SCome} {t : STask} (hij : i < j) (ha : l1[i]? = some a) (hb : l1[j]? = some b) (hab : a.Task = b.Task) (ht : l0[b.Task.toNat]? = some t) : a.At + t.T ≤ b.At := by
  obtain ⟨m, h1, h2⟩ := lastOf_ge hij ha hab
  obtain ⟨c, hc, _⟩ := lastOf_task h1
  have h3 := (comeAt_none hb (h.comes _ (lt_of_get hb))).2.2.2.2.2 m c t h1 hc ht
  have h4 := h.order h2 ha hc
  omega
theorem wants_above {l : List STask} {i : Nat} {x : STask} (hx : l[i]? = some x) (w : Int) : ∀ m, m ≤ l.length → wants (aboveTill l i m) w = sumN (fun o => match l[o]? with | some t => if o ≠ i ∧ t.P ≥ x.P then ceilD (w + t.J) t.T * t.C else 0 | none => 0) m
  | 0, _ => rfl
  | m + 1, hm => by
    have hmx : l[m]? = some l[m] := List.getElem?_eq_getElem (by omega)
    rw [aboveTill_succ hmx hx, wants_append, wants_above hx w m (by omega)]
    simp only [sumN, hmx]
    by_cases h : m ≠ i ∧ l[m].P ≥ x.P
    · rw [if_pos h, if_pos h, wants_cons, wants_nil]; omega
    · rw [if_neg h, if_neg h, wants_nil]
/-- of the jobs of a task's level never more comes in w ticks than its demand says -/
theorem JobsOk.demand {l0 : List STask} {l1 : List SCome} {l2 l3 : List Int} (h : JobsOk l0 l1 l2 l3) {i : Nat} {x : STask} (hx : l0[i]? = some x) (w : Nat) (hw : 1 ≤ w) (hwT : (w : Int) + x.J ≤ x.T) (H : Nat → Prop) [DecidablePred H]
    (hH : ∀ j c t a b, JobAt l0 l1 l2 l3 j c t a b → H j → x.P ≤ t.P) (t0 : Nat) :
    sumN (fun j => if H j ∧ t0 ≤ atN (jobsTill l0 l1 l2 l3 l1.length) j ∧ atN (jobsTill l0 l1 l2 l3 l1.length) j < t0 + w then costOf (jobsTill l0 l1 l2 l3 l1.length) j else 0) l1.length ≤ dem x 0 (aboveOf l0 i) w := by
  generalize hjobs : jobsTill l0 l1 l2 l3 l1.length = jobs
  let q : Nat → Nat → Prop := fun o j => ∃ c, l1[j]? = some c ∧ c.Task = (o : Int)
  haveI : ∀ o, DecidablePred (q o) := fun o j => Classical.propDecidable _
  have hil := lt_of_get hx
  -- task by task
  have h1 : sumN (fun j => if H j ∧ t0 ≤ atN jobs j ∧ atN jobs j < t0 + w then costOf jobs j else 0) l1.length ≤ sumN (fun j => sumN (fun o => match l0[o]? with | some t => if t.P ≥ x.P then (if q o j ∧ t0 ≤ atN jobs j ∧ atN jobs j < t0 + w then costOf jobs j else 0) else 0 | none => 0) l0.length) l1.length := by
    refine sumN_le fun j hj => ?_
    obtain ⟨c, t, a, b, hJ⟩ := h.at hj
    have hb := hJ.b
    have hcost : costOf jobs j = b := by rw [← hjobs]; exact costOf_some hJ.job
    have hnn : ∀ o, o < l0.length → 0 ≤ (match l0[o]? with | some t => if t.P ≥ x.P then (if q o j ∧ t0 ≤ atN jobs j ∧ atN jobs j < t0 + w then costOf jobs j else 0) else 0 | none => 0) := fun o _ => by
      split
      · split
        · split <;> omega
        · exact Int.le_refl _
      · exact Int.le_refl _
    by_cases hc : H j ∧ t0 ≤ atN jobs j ∧ atN jobs j < t0 + w
    · rw [if_pos hc]
      have h2 := sumN_term (n := l0.length) hnn (k := c.Task.toNat) (lt_of_get hJ.task)
      have hP := hH j c t a b hJ hc.1
      have hq : q c.Task.toNat j := ⟨c, hJ.come, (Int.toNat_of_nonneg hJ.task0).symm⟩
      simp only [hJ.task] at h2
      rw [if_pos hP, if_pos ⟨hq, hc.2⟩] at h2
      exact h2
    · rw [if_neg hc]
      exact sumN_nonneg hnn
  rw [sumN_swap (fun o j => match l0[o]? with | some t => if t.P ≥ x.P then (if q o j ∧ t0 ≤ atN jobs j ∧ atN jobs j < t0 + w then costOf jobs j else 0) else 0 | none => 0)] at h1
  have h2 : sumN (fun o => sumN (fun j => match l0[o]? with | some t => if t.P ≥ x.P then (if q o j ∧ t0 ≤ atN jobs j ∧ atN jobs j < t0 + w then costOf jobs j else 0) else 0 | none => 0) l1.length) l0.length ≤
      sumN (fun o => (if o = i then x.C else 0) + (match l0[o]? with | some t => if o ≠ i ∧ t.P ≥ x.P then ceilD (w + t.J) t.T * t.C else 0 | none => 0)) l0.length := by
    refine sumN_le fun o ho => ?_
    have hto : l0[o]? = some l0[o] := List.getElem?_eq_getElem ho
    have hok := okt_of h.set l0[o] (List.getElem_mem ho)
    generalize l0[o] = t at hto hok
    simp only [hto]
    have hCt := hok.C; have hTt := hok.T; have hJt := hok.J
    by_cases hP : t.P ≥ x.P
    · simp only [if_pos hP]
      have hsp := spaced (n := l1.length) (q := q o) (r := atN jobs) (a := fun j => match l1[j]? with | some c => c.At | none => 0) (c := costOf jobs) (C := t.C) (T := t.T) (J := t.J) (by omega) (by omega) (fun j hj ⟨c', hc', he⟩ => by
        obtain ⟨c, t', a, b, hJ⟩ := h.at hj
        have : c = c' := by have := hJ.come; rw [hc'] at this; exact (Option.some.inj this).symm
        subst this
        have hb := hJ.b
        have ht' := hJ.task
        rw [he, Int.toNat_natCast, hto] at ht'
        cases ht'
        rw [← hjobs, costOf_some hJ.job]
        exact hb.2) (fun j hj ⟨c', hc', he⟩ => by
        obtain ⟨c, t', a, b, hJ⟩ := h.at hj
        have : c = c' := by have := hJ.come; rw [hc'] at this; exact (Option.some.inj this).symm
        subst this
        have ht' := hJ.task
        rw [he, Int.toNat_natCast, hto] at ht'
        cases ht'
        have ha := hJ.a; have hA := hJ.at_
        rw [← hjobs, atN_some hJ.job, hc']
        simp only
        omega) (fun j k hjk hk ⟨c1, hc1, he1⟩ ⟨c2, hc2, he2⟩ => by
        have := h.apart hjk hc1 hc2 (by omega) (t := t) (by rw [he2, Int.toNat_natCast]; exact hto)
        simp only [hc1, hc2]
        exact this) t0 w hw (by omega)
      by_cases hoi : o = i
      · subst hoi
        rw [hx] at hto
        cases hto
        rw [if_pos rfl, if_neg (fun h => h.1 rfl)]
        have hceil : ((w : Int) + x.J + x.T - 1) / x.T = 1 := by
          have e : (w : Int) + x.J + x.T - 1 = (w + x.J - 1) + x.T * 1 := by omega
          rw [e, Int.add_mul_ediv_left _ _ (by omega), Int.ediv_eq_zero_of_lt (by omega) (by omega)]
          rfl
        rw [hceil, Int.one_mul] at hsp
        omega
      · rw [if_neg hoi, if_pos ⟨hoi, hP⟩]
        unfold ceilD
        omega
    · have hz : sumN (fun j => if t.P ≥ x.P then (if q o j ∧ t0 ≤ atN jobs j ∧ atN jobs j < t0 + w then costOf jobs j else 0) else 0) l1.length = 0 := sumN_zero (fun j _ => if_neg hP)
      rw [hz]
      by_cases hoi : o = i
      · subst hoi
        rw [hx] at hto
        cases hto
        omega
      · rw [if_neg hoi, if_neg (fun h => hP h.2)]
        exact Int.le_refl _
  rw [sumN_add, sumN_pick (f := fun o => if o = i then x.C else 0) (k := i) hil (fun j _ hne => if_neg hne), if_pos rfl, ← wants_above hx w l0.length (Nat.le_refl _)] at h2
  show _ ≤ x.C + 0 + wants (aboveTill l0 i l0.length) w
  omega

theorem lasts_eq (l0 : List STask) (l1 : List SCome) (l2 l3 : List Int) (h : JobsOk l0 l1 l2 l3) (K : Nat) (hK : 4010 ≤ K) : ∃ e, lasts.f K l0 l1 = some e ∧ (0 ≤ e → e ≤ 3000 ∧ l1.length ≤ 300 ∧ ∀ (j : Nat) (c : SCome) (t : STask), l1[j]? = some c → l0[c.Task.toNat]? = some t → c.At + t.D ≤ e) := by
  obtain ⟨r, hr, e, rfl, hR⟩ := iter_count (f := fun s => lasts.r0 l0 l1 s) (fun z i => 0 ≤ z ∧ z ≤ 30000 ∧ ∀ (j : Nat) (c : SCome) (t : STask), j < i → l1[j]? = some c → l0[c.Task.toNat]? = some t → c.At + t.D ≤ z) l1.length (fun r => ∃ e, r = .inl e ∧ 0 ≤ e ∧ ∀ (j : Nat) (c : SCome) (t : STask), l1[j]? = some c → l0[c.Task.toNat]? = some t → c.At + t.D ≤ e) (fun (z : Int) i hi ⟨hz0, hz1, hI⟩ => by
    left
    have hi' : (i : Int) < (l1.length : Int) := by omega
    obtain ⟨c, t, a, b, hJ⟩ := h.at hi
    have := hJ.at_; have := hJ.ok.D
    have hw : IntKind.i64.wrap (c.At + t.D) = c.At + t.D := wrap64_small (by omega) (by omega)
    refine ⟨gmax z (c.At + t.D), ?_, ?_, ?_, fun j c' t' hj hc' ht' => ?_⟩
    · simp only [lasts.r0, if_pos hi', hJ.come, if_pos hJ.task0, hJ.task, hw]
    · unfold gmax; split <;> omega
    · unfold gmax; split <;> omega
    · by_cases hji : j = i
      · subst hji
        rw [hJ.come] at hc'
        cases hc'
        rw [hJ.task] at ht'
        cases ht'
        unfold gmax; split <;> omega
      · have := hI j c' t' (by omega) hc' ht'
        unfold gmax; split <;> omega) (fun z ⟨hz0, hz1, hI⟩ => by
    refine ⟨.inl z, by simp [lasts.r0], z, rfl, hz0, fun j c t hc ht => hI j c t (lt_of_get hc) hc ht⟩) K 0 0 (Nat.zero_le _) ⟨by omega, by omega, fun j c t hj => by omega⟩ (by have := h.len; omega)
  unfold lasts.f
  rw [hr]
  simp only
  by_cases h1 : e > 3000
  · rw [if_pos h1]; exact ⟨-1, rfl, fun h => by omega⟩
  rw [if_neg h1]
  by_cases h2 : (l1.length : Int) > 300
  · rw [if_pos h2]; exact ⟨-1, rfl, fun h => by omega⟩
  rw [if_neg h2]
  exact ⟨e, rfl, fun _ => ⟨by omega, by omega, hR.2⟩⟩

/-- work that is done tick by tick, of which some ticks cost more: what is left of n jobs; those of a level go ahead of all others -/
structure LevelC (n : Nat) (L : Nat → Nat → Int) (H : Nat → Prop) (r : Nat → Nat) (c : Nat → Int) (e : Nat → Int) : Prop where
  start : ∀ j, j < n → L 0 j = c j
  nonneg : ∀ t j, j < n → 0 ≤ L t j
  done0 : ∀ t j, j < n → L t j = 0 → L (t + 1) j = 0
  wait : ∀ t j, j < n → t < r j → L (t + 1) j = L t j
  runs : ∀ t, (∃ j, j < n ∧ H j ∧ r j ≤ t ∧ 0 < L t j) → ∃ b, b < n ∧ H b ∧ r b ≤ t ∧ 0 < L t b ∧ L (t + 1) b ≤ L t b - 1 + e t ∧ ∀ j, j < n → j ≠ b → L (t + 1) j = L t j
theorem LevelC.stays {n : Nat} {L : Nat → Nat → Int} {H : Nat → Prop} {r : Nat → Nat} {c e : Nat → Int} (h : LevelC n L H r c e) {t t' : Nat} (ht : t ≤ t') {j : Nat} (hj : j < n) (h0 : L t j = 0) : L t' j = 0 := by
  induction t' with
  | zero => obtain rfl : t = 0 := by omega
            exact h0
  | succ t' ih =>
    by_cases he : t = t' + 1
    · subst he; exact h0
    · exact h.done0 t' j hj (ih (by omega))
theorem LevelC.still {n : Nat} {L : Nat → Nat → Int} {H : Nat → Prop} {r : Nat → Nat} {c e : Nat → Int} (h : LevelC n L H r c e) {t : Nat} {j : Nat} (hj : j < n) (ht : t ≤ r j) : L t j = c j := by
  induction t with
  | zero => exact h.start j hj
  | succ t ih => rw [h.wait t j hj (by omega)]; exact ih (by omega)
/-- if of a level never more comes in w ticks, with what its ticks cost more, than can be done in them, then each of it is done w ticks behind its coming -/
theorem LevelC.done {n : Nat} {L : Nat → Nat → Int} {H : Nat → Prop} [DecidablePred H] {r : Nat → Nat} {c e : Nat → Int} (h : LevelC n L H r c e) (w : Nat) (hw : 1 ≤ w)
    (hsum : ∀ t0, sumN (fun j => if H j ∧ t0 ≤ r j ∧ r j < t0 + w then c j else 0) n + sumN (fun s => e (t0 + s)) w ≤ w) {k : Nat} (hk : k < n) (hHk : H k) : L (r k + w) k = 0 := by
  obtain ⟨t0, ht0, hid, hlast⟩ := exists_last (p := fun t => ∀ j, j < n → H j → r j < t → L t j = 0) (r k) (fun j _ _ h => by omega)
  by_cases hall : ∀ t, t0 ≤ t → t < t0 + w → ∃ j, j < n ∧ H j ∧ r j ≤ t ∧ 0 < L t j
  · have hA : ∀ d, d ≤ w → sumN (fun j => if H j ∧ t0 ≤ r j ∧ r j < t0 + w then L (t0 + d) j else 0) n ≤ sumN (fun j => if H j ∧ t0 ≤ r j ∧ r j < t0 + w then c j else 0) n + sumN (fun s => e (t0 + s)) d - d := by
      intro d
      induction d with
      | zero =>
        intro _
        rw [sumN_congr (g := fun j => if H j ∧ t0 ≤ r j ∧ r j < t0 + w then c j else 0) (fun j hj => by
          by_cases hc : H j ∧ t0 ≤ r j ∧ r j < t0 + w
          · rw [if_pos hc, if_pos hc]; exact h.still hj hc.2.1
          · rw [if_neg hc, if_neg hc])]
        simp only [sumN]
        omega
      | succ d ih =>
        intro hd
        have ih := ih (by omega)
        obtain ⟨b, hb, hHb, hrb, hLb, hstep, hoth⟩ := h.runs (t0 + d) (hall (t0 + d) (by omega) (by omega))
        have hrb0 : t0 ≤ r b := by
          apply Nat.le_of_not_lt
          intro hlt
          have h1 := hid b hb hHb hlt
          have h2 := h.stays (show t0 ≤ t0 + d by omega) hb h1
          omega
        have := sumN_one (f := fun j => if H j ∧ t0 ≤ r j ∧ r j < t0 + w then L (t0 + (d + 1)) j else 0) (g := fun j => if H j ∧ t0 ≤ r j ∧ r j < t0 + w then L (t0 + d) j else 0) (b := b) (d := L (t0 + d + 1) b - L (t0 + d) b) hb (by
          rw [if_pos ⟨hHb, hrb0, by omega⟩, if_pos ⟨hHb, hrb0, by omega⟩]
          show L (t0 + d + 1) b = _
          omega) (fun j hj hne => by
          by_cases hc : H j ∧ t0 ≤ r j ∧ r j < t0 + w
          · rw [if_pos hc, if_pos hc]; exact hoth j hj hne
          · rw [if_neg hc, if_neg hc])
        rw [this]
        simp only [sumN]
        omega
    have hend := hA w (Nat.le_refl _)
    have hs0 := hsum t0
    have hzero : ∀ j, j < n → H j → r j < t0 + w → L (t0 + w) j = 0 := by
      intro j hj hHj hrj
      by_cases hr0 : r j < t0
      · exact h.stays (show t0 ≤ t0 + w by omega) hj (hid j hj hHj hr0)
      · have h1 := sumN_term (f := fun j => if H j ∧ t0 ≤ r j ∧ r j < t0 + w then L (t0 + w) j else 0) (n := n) (k := j) (fun i hi => by
          by_cases hc : H i ∧ t0 ≤ r i ∧ r i < t0 + w
          · rw [if_pos hc]; exact h.nonneg _ _ hi
          · rw [if_neg hc]; exact Int.le_refl _) hj
        rw [if_pos ⟨hHj, by omega, hrj⟩] at h1
        have h3 := h.nonneg (t0 + w) j hj
        omega
    by_cases hrk : r k < t0 + w
    · exact h.stays (show t0 + w ≤ r k + w by omega) hk (hzero k hk hHk hrk)
    · exact absurd hzero (hlast (t0 + w) (by omega) (by omega))
  · have ⟨t, ht⟩ := Classical.not_forall.1 hall
    have ⟨ht1, ht⟩ := Classical.not_imp.1 ht
    have ⟨ht2, hnone⟩ := Classical.not_imp.1 ht
    have hz : ∀ j, j < n → H j → r j ≤ t → L t j = 0 := fun j hj hHj hrj => by
      have h1 := h.nonneg t j hj
      by_cases h0 : 0 < L t j
      · exact absurd ⟨j, hj, hHj, hrj, h0⟩ hnone
      · omega
    by_cases hrk : r k ≤ t
    · exact h.stays (show t ≤ r k + w by omega) hk (hz k hk hHk hrk)
    · exact absurd (fun j hj hHj hrj => h.done0 t j hj (hz j hj hHj (by omega))) (hlast (t + 1) (by omega) (by omega))
/-- ends say when what was left was none -/
structure Ticks (n : Nat) (L E : Nat → Nat → Int) : Prop where
  pos : ∀ j, j < n → 0 < L 0 j
  none : ∀ j, j < n → E 0 j = -1
  nonneg : ∀ t j, j < n → 0 ≤ L t j
  step : ∀ t j, j < n → (L (t + 1) j = L t j ∧ E (t + 1) j = E t j) ∨ (0 < L t j ∧ E (t + 1) j = if L (t + 1) j = 0 then (t : Int) + 1 else E t j)
theorem Ticks.spec {n : Nat} {L E : Nat → Nat → Int} (h : Ticks n L E) {j : Nat} (hj : j < n) : ∀ t, (0 < L t j → E t j = -1) ∧ (L t j = 0 → ∃ s : Nat, 1 ≤ s ∧ s ≤ t ∧ E t j = (s : Int) ∧ L s j = 0 ∧ 0 < L (s - 1) j)
  | 0 => ⟨fun _ => h.none j hj, fun h0 => by have := h.pos j hj; omega⟩
  | t + 1 => by
    obtain ⟨ih1, ih2⟩ := h.spec hj t
    rcases h.step t j hj with ⟨h1, h2⟩ | ⟨h1, h2⟩
    · rw [h1, h2]
      refine ⟨ih1, fun h0 => ?_⟩
      obtain ⟨s, a, b, c⟩ := ih2 h0
      exact ⟨s, a, by omega, c⟩
    · by_cases h0 : L (t + 1) j = 0
      · rw [if_pos h0] at h2
        exact ⟨fun h' => by omega, fun _ => ⟨t + 1, by omega, Nat.le_refl _, by rw [h2]; rfl, h0, h1⟩⟩
      · rw [if_neg h0] at h2
        exact ⟨fun _ => by rw [h2]; exact ih1 h1, fun h' => absurd h' h0⟩
theorem Ticks.stays {n : Nat} {L E : Nat → Nat → Int} (h : Ticks n L E) {t t' : Nat} (ht : t ≤ t') {j : Nat} (hj : j < n) (h0 : L t j = 0) : L t' j = 0 := by
  induction t' with
  | zero => obtain rfl : t = 0 := by omega
            exact h0
  | succ t' ih =>
    by_cases he : t = t' + 1
    · subst he; exact h0
    · have := ih (by omega)
      rcases h.step t' j hj with ⟨h1, _⟩ | ⟨h1, _⟩ <;> omega
theorem Ticks.done {n : Nat} {L E : Nat → Nat → Int} (h : Ticks n L E) {j : Nat} (hj : j < n) {s t : Nat} (hs : L s j = 0) (ht : s ≤ t) : 1 ≤ E t j ∧ E t j ≤ s := by
  obtain ⟨u, h1, h2, h3, h4, h5⟩ := (h.spec hj t).2 (h.stays ht hj hs)
  rw [h3]
  refine ⟨by omega, ?_⟩
  have : u ≤ s := by
    apply Nat.le_of_not_lt
    intro hlt
    have := h.stays (show s ≤ u - 1 by omega) hj hs
    omega
  omega
theorem sumN_times (p : Nat → Prop) [DecidablePred p] (C : Int) : ∀ n, sumN (fun j => if p j then C else 0) n = sumN (fun j => if p j then 1 else 0) n * C
  | 0 => by simp [sumN]
  | n + 1 => by
    simp only [sumN]
    rw [sumN_times p C n, Int.add_mul]
    congr 1
    split <;> simp
/-- so many of what lies gap apart lie in w ticks at most -/
theorem spacedTicks {p : Nat → Prop} [DecidablePred p] {gap : Int} (hg : 1 ≤ gap) (hp : ∀ s t, s < t → p s → p t → gap ≤ (t : Int) - s) (t0 : Nat) : ∀ w : Nat, sumN (fun s => if p (t0 + s) then 1 else 0) w = 0 ∨ ∃ s, s < w ∧ p (t0 + s) ∧ (sumN (fun s => if p (t0 + s) then 1 else 0) w - 1) * gap ≤ s
  | 0 => .inl rfl
  | w + 1 => by
    simp only [sumN]
    by_cases hc : p (t0 + w)
    · right
      refine ⟨w, by omega, hc, ?_⟩
      rw [if_pos hc, Int.add_sub_cancel]
      rcases spacedTicks hg hp t0 w with h0 | ⟨s, h1, h2, h3⟩
      · rw [h0]; omega
      · have := hp (t0 + s) (t0 + w) (by omega) h2 hc
        rw [Int.sub_mul, Int.one_mul] at h3
        omega
    · rw [if_neg hc, Int.add_zero]
      rcases spacedTicks hg hp t0 w with h0 | ⟨s, h1, h2, h3⟩
      · exact .inl h0
      · exact .inr ⟨s, by omega, h2, h3⟩
theorem spacedTicks_le {p : Nat → Prop} [DecidablePred p] {gap : Int} (hg : 1 ≤ gap) (hp : ∀ s t, s < t → p s → p t → gap ≤ (t : Int) - s) (t0 w : Nat) : sumN (fun s => if p (t0 + s) then 1 else 0) w ≤ ceilD w gap := by
  rcases spacedTicks hg hp t0 w with h0 | ⟨s, h1, h2, h3⟩
  · rw [h0]; exact ceilD_nonneg hg (by omega)
  · unfold ceilD
    rw [Int.le_ediv_iff_mul_le (by omega)]
    rw [Int.sub_mul, Int.one_mul] at h3
    omega
theorem firstR (jobs : List SJob) (left : List Int) (t : Int) (hl : left.length = jobs.length) : (firstTo 1 jobs left t jobs.length = -1 ∧ ∀ j e, jobs[j]? = some e → ¬ (e.At ≤ t ∧ 0 < left.getD j 0)) ∨
    ∃ (b : Nat) (y : SJob), firstTo 1 jobs left t jobs.length = (b : Int) ∧ jobs[b]? = some y ∧ y.At ≤ t ∧ 0 < left.getD b 0 ∧ ∀ j x, jobs[j]? = some x → x.At ≤ t → 0 < left.getD j 0 → ¬ aheadJ 1 x y := by
  have hcan : ∀ j e, jobs[j]? = some e → (canJ jobs left t j ↔ e.At ≤ t ∧ 0 < left.getD j 0) := fun j e he => by
    unfold canJ
    rw [he, get_of_lt (by rw [hl]; exact lt_of_get he)]
  rcases firstTo_cases 1 jobs left t jobs.length (Nat.le_refl _) with ⟨h1, h2⟩ | ⟨b, y, h1, h2, h3, h4, h5⟩
  · exact .inl ⟨h1, fun j e he hc => h2 j (lt_of_get he) ((hcan j e he).2 hc)⟩
  · obtain ⟨g1, g2⟩ := (hcan b y h3).1 h4
    exact .inr ⟨b, y, h1, h3, g1, g2, fun j x hx ha hl => (h5 j x (lt_of_get hx) hx ((hcan j x hx).2 ⟨ha, hl⟩)).1⟩

theorem can_eqW (jobs : List SJob) (left : List Int) (t : Int) (i : Nat) (hi : i < jobs.length) (hl : left.length = jobs.length) : modes_hosted_1.f (i : Int) jobs t left = some (decide (canJ jobs left t i)) := by
  have h1 : jobs[i]? = some jobs[i] := List.getElem?_eq_getElem hi
  have h2 : left[i]? = some (left[i]'(by omega)) := List.getElem?_eq_getElem (by omega)
  simp only [modes_hosted_1.f, Int.toNat_natCast, h1, h2, canJ]
  rw [if_pos (by omega)]
  by_cases h : jobs[i].At ≤ t
  · simp [h]
  · simp [h]
theorem First_eqW (p : Int) (hp : p = 1 ∨ p = 2) (jobs : List SJob) (left : List Int) (t : Int) (hl : left.length = jobs.length) (K : Nat) (hK : jobs.length + 5 ≤ K) : sched_First.f K jobs jobs t left p = some (firstTo p jobs left t jobs.length) := by
  unfold sched_First.f
  have hr := iter_states (ρ := Int) (f := sched_First.r0 K jobs jobs t left p) (fun i => (firstTo p jobs left t i, i)) (fun _ => none) jobs.length (t := firstTo p jobs left t jobs.length) (fun i hi _ => by
    have hi' : (i : Int) < (jobs.length : Int) := by omega
    have h1 : jobs[i]? = some jobs[i] := List.getElem?_eq_getElem hi
    simp only [sched_First.r0, if_pos hi', h1, can_eqW jobs left t i hi hl, decide_eq_true_eq, onwardS]
    by_cases hc : canJ jobs left t i
    · rw [if_pos hc]
      rcases firstTo_cases p jobs left t i (by omega) with ⟨g1, _⟩ | ⟨b, y, g1, g2, g3, _, _⟩
      · rw [g1, if_pos (by omega)]
        simp only [firstTo, if_pos hc, g1]
        rfl
      · rw [g1, if_neg (by omega), if_pos (by omega)]
        simp only [Int.toNat_natCast, g3]
        have e1 : firstTo p jobs left t (i + 1) = if aheadJ p jobs[i] y then (i : Int) else (b : Int) := by
          simp only [firstTo, if_pos hc, g1, Int.toNat_natCast, h1, g3]
          rw [if_neg (by omega)]
        rw [e1]
        rcases hp with rfl | rfl
        · simp [sched_rule.f, or2_eq _ _ K (show 3 ≤ K by omega), sched_byPriority.f, compare_eq, aheadJ]
          repeat' split
          all_goals first | rfl | (exfalso; omega) | simp_all
        · simp [sched_rule.f, or2_eq _ _ K (show 3 ≤ K by omega), sched_byDue.f, compare_eq, aheadJ]
          repeat' split
          all_goals first | rfl | (exfalso; omega) | simp_all
    · rw [if_neg hc]
      simp only [firstTo, if_neg hc]) (fun _ => by simp [sched_First.r0]) (K := K) (by omega)
  have h0 : firstTo p jobs left t 0 = -1 := rfl
  rw [h0, firstOf_none_of (fun _ _ _ => rfl)] at hr
  rw [hr]; rfl

/-- where the window ahead ends -/
def endTo (ws : List SWindow) : Nat → Int
  | 0 => 0
  | n + 1 => match ws[n]? with
    | some w => w.At + w.Len
    | none => 0
/-- what is wrong with window i -/
def windowAt (len : Int) (ws : List SWindow) (i : Nat) : Option SFault := match ws[i]? with
  | none => none
  | some w => if w.At < 0 ∨ w.At > len ∨ w.Len < 1 ∨ w.Len > len - w.At then some ⟨3, i⟩ else if w.At < endTo ws i then some ⟨12, i⟩ else none
noncomputable def frameFault (len : Int) (ws : List SWindow) : SFault :=
  if len < 1 ∨ len > 10000 then ⟨3, 0⟩ else if ws.length > 20 then ⟨2, 0⟩ else (firstOf (windowAt len ws) ws.length 0).getD ⟨0, 0⟩
theorem windowAt_none {len : Int} {ws : List SWindow} {i : Nat} {w : SWindow} (hw : ws[i]? = some w) (h : windowAt len ws i = none) : 0 ≤ w.At ∧ 1 ≤ w.Len ∧ w.At + w.Len ≤ len ∧ endTo ws i ≤ w.At := by
  unfold windowAt at h
  simp only [hw] at h
  split at h
  · cases h
  · split at h
    · cases h
    · omega
theorem Frame_eq (len : Int) (ws : List SWindow) (K : Nat) (hK : 30 ≤ K) : modes_Frame.f K len ws = some (frameFault len ws) := by
  unfold modes_Frame.f frameFault
  by_cases hl : len < 1 ∨ len > 10000
  · have hp : modes_Frame.p0 len = some (.inr ⟨3, 0⟩) := by
      unfold modes_Frame.p0
      repeat' split
      all_goals first | rfl | omega
    rw [hp, if_pos hl]
  · have hp : modes_Frame.p0 len = some (.inl ()) := by
      unfold modes_Frame.p0
      rw [if_neg (by omega), if_neg (by omega)]
    rw [hp, if_neg hl]
    simp only
    by_cases hn : ws.length > 20
    · rw [if_pos (by omega), if_pos hn]
    · rw [if_neg (by omega), if_neg hn]
      have hit := iter_states (ρ := SFault) (f := modes_Frame.r1 len ws) (fun i => (endTo ws i, i)) (windowAt len ws) ws.length (t := ()) (fun i hi _ => by
        have hi' : (i : Int) < (ws.length : Int) := by omega
        have hx : ws[i]? = some ws[i] := List.getElem?_eq_getElem hi
        have hend : endTo ws (i + 1) = ws[i].At + ws[i].Len := by simp only [endTo, hx]
        simp only [modes_Frame.r1, if_pos hi', hx, windowAt, hend]
        by_cases h1 : ws[i].At < 0
        · rw [if_pos h1, if_pos (.inl h1)]; rfl
        rw [if_neg h1]
        by_cases h2 : ws[i].At > len
        · rw [if_pos h2, if_pos (.inr (.inl h2))]; rfl
        rw [if_neg h2]
        by_cases h3 : ws[i].Len < 1
        · rw [if_pos h3, if_pos (.inr (.inr (.inl h3)))]; rfl
        rw [if_neg h3, wrap64_small (n := len - ws[i].At) (by omega) (by omega)]
        by_cases h4 : ws[i].Len > len - ws[i].At
        · rw [if_pos h4, if_pos (.inr (.inr (.inr h4)))]; rfl
        have hb : ¬ (ws[i].At < 0 ∨ ws[i].At > len ∨ ws[i].Len < 1 ∨ ws[i].Len > len - ws[i].At) := by omega
        rw [if_neg h4, if_neg hb]
        by_cases h5 : ws[i].At < endTo ws i
        · rw [if_pos h5, if_pos h5]; rfl
        · rw [if_neg h5, if_neg h5, wrap64_small (n := ws[i].At + ws[i].Len) (by omega) (by omega)]; rfl) (fun _ => by simp [modes_Frame.r1]) (K := K) (by omega)
      rw [show ((0 : Int), 0) = (endTo ws 0, 0) from rfl, hit]
      cases firstOf (windowAt len ws) ws.length 0 <;> rfl
theorem CheckFrame_eq (len : Int) (ws : List SWindow) (hin : ∀ w ∈ ws, Ok.ok w) (K : Nat) (hK : 30 ≤ K) : punctualref_CheckFrame.f K len ws = some (frameFault len ws) := by
  unfold punctualref_CheckFrame.f frameFault
  by_cases hl : len < 1 ∨ len > 10000
  · have hp : punctualref_CheckFrame.p0 len = some (.inr ⟨3, 0⟩) := by
      unfold punctualref_CheckFrame.p0
      repeat' split
      all_goals first | rfl | omega
    rw [hp, if_pos hl]
  · have hp : punctualref_CheckFrame.p0 len = some (.inl ()) := by
      unfold punctualref_CheckFrame.p0
      rw [if_neg (by omega), if_neg (by omega)]
    rw [hp, if_neg hl]
    simp only
    by_cases hn : ws.length > 20
    · rw [if_pos (by omega), if_pos hn]; rfl
    · rw [if_neg (by omega), if_neg hn]
      have hit := iter_states (ρ := SFault) (f := punctualref_CheckFrame.r1 len ws) (fun i => i) (windowAt len ws) ws.length (t := ()) (fun i hi hbef => by
        have hi' : (i : Int) < (ws.length : Int) := by omega
        have hx : ws[i]? = some ws[i] := List.getElem?_eq_getElem hi
        simp only [punctualref_CheckFrame.r1, if_pos hi', hx, windowAt]
        by_cases hb : ws[i].At < 0 ∨ ws[i].At > len ∨ ws[i].Len < 1 ∨ ws[i].Len > len - ws[i].At
        · have hp2 : punctualref_CheckFrame.p2 len i ws[i] = some (.inr ⟨3, i⟩) := by
            unfold punctualref_CheckFrame.p2
            by_cases h1 : ws[i].At < 0
            · rw [if_pos h1]; rfl
            rw [if_neg h1]
            by_cases h2 : ws[i].At > len
            · rw [if_pos h2]; rfl
            rw [if_neg h2]
            by_cases h3 : ws[i].Len < 1
            · rw [if_pos h3]; rfl
            rw [if_neg h3]
            by_cases h4 : ws[i].Len > len
            · rw [if_pos h4]; rfl
            rw [if_neg h4, wrap64_small (by omega) (by omega), if_pos (by omega)]; rfl
          rw [hp2, if_pos hb]; rfl
        · have hp2 : punctualref_CheckFrame.p2 len i ws[i] = some (.inl ()) := by
            unfold punctualref_CheckFrame.p2
            rw [if_neg (by omega), if_neg (by omega), if_neg (by omega), if_neg (by omega), wrap64_small (by omega) (by omega), if_neg (by omega)]
          rw [hp2, if_neg hb]
          simp only
          by_cases h0 : (i : Int) > 0
          · obtain ⟨k, rfl⟩ : ∃ k, i = k + 1 := ⟨i - 1, by omega⟩
            have hy : ws[k]? = some ws[k] := List.getElem?_eq_getElem (by omega)
            have hk := windowAt_none hy (hbef k (by omega))
            have ew : (IntKind.i64.wrap (((k + 1 : Nat) : Int) - 1)).toNat = k := by rw [wrap64_small (by omega) (by omega)]; omega
            rw [if_pos h0, if_pos (by rw [wrap64_small (by omega) (by omega)]; omega), ew, hy]
            simp only
            rw [wrap64_small (n := ws[k].At + ws[k].Len) (by omega) (by omega)]
            have hend : endTo ws (k + 1) = ws[k].At + ws[k].Len := by simp only [endTo, hy]
            rw [hend]
            by_cases h5 : ws[k + 1].At < ws[k].At + ws[k].Len
            · rw [if_pos h5, if_pos h5]; rfl
            · rw [if_neg h5, if_neg h5]; rfl
          · obtain rfl : i = 0 := by omega
            have hend : endTo ws 0 = 0 := rfl
            rw [if_neg h0, hend, if_neg (by omega)]; rfl) (fun _ => by simp [punctualref_CheckFrame.r1]) (K := K) (by omega)
      rw [hit]
      cases firstOf (windowAt len ws) ws.length 0 <;> rfl
/-- windows of a frame that are right -/
structure FrameOk (len : Int) (ws : List SWindow) : Prop where
  frame : 1 ≤ len ∧ len ≤ 10000
  many : ws.length ≤ 20
  each : ∀ (i : Nat) (w : SWindow), ws[i]? = some w → 0 ≤ w.At ∧ 1 ≤ w.Len ∧ w.At + w.Len ≤ len ∧ endTo ws i ≤ w.At
theorem frameFault_ok {len : Int} {ws : List SWindow} (h : (frameFault len ws).Code = 0) : frameFault len ws = ⟨0, 0⟩ ∧ FrameOk len ws := by
  unfold frameFault at h ⊢
  by_cases hl : len < 1 ∨ len > 10000
  · rw [if_pos hl] at h; exact absurd h (by simp)
  rw [if_neg hl] at h ⊢
  by_cases hn : ws.length > 20
  · rw [if_pos hn] at h; exact absurd h (by simp)
  rw [if_neg hn] at h ⊢
  cases hf : firstOf (windowAt len ws) ws.length 0 with
  | none => exact ⟨rfl, by omega, by omega, fun i w hw => windowAt_none hw (firstOf_none hf i (Nat.zero_le _) (lt_of_get hw))⟩
  | some r =>
    rw [hf] at h
    obtain ⟨j, _, hj, hg, _⟩ := firstOf_some hf
    exfalso
    unfold windowAt at hg
    split at hg
    · cases hg
    · split at hg
      · cases hg; exact absurd h (by simp)
      · split at hg
        · cases hg; exact absurd h (by simp)
        · cases hg
/-- windows don't lie over one another -/
theorem FrameOk.order {len : Int} {ws : List SWindow} (h : FrameOk len ws) : ∀ (d i : Nat) (a b : SWindow), ws[i]? = some a → ws[i + (d + 1)]? = some b → a.At + a.Len ≤ b.At
  | 0, i, a, b, ha, hb => by
    have := (h.each _ b hb).2.2.2
    simp only [Nat.zero_add, endTo, ha] at this
    exact this
  | d + 1, i, a, b, ha, hb => by
    have hm : ws[i + (d + 1)]? = some (ws[i + (d + 1)]'(by have := lt_of_get hb; omega)) := List.getElem?_eq_getElem _
    have h1 := h.order d i a _ ha hm
    have h2 := (h.each _ b hb).2.2.2
    rw [show i + (d + 1 + 1) = (i + (d + 1)) + 1 by omega] at h2
    simp only [endTo, hm] at h2
    have h3 := h.each _ _ hm
    omega
/-- is the core there at a time of the frame? -/
def openAt (ws : List SWindow) (u : Int) : Prop := ∃ (i : Nat) (w : SWindow), ws[i]? = some w ∧ w.At ≤ u ∧ u < w.At + w.Len
/-- how many ticks the core is there ahead of a time of the frame, of the first n windows -/
def tillTo (ws : List SWindow) (t : Int) : Nat → Int
  | 0 => 0
  | n + 1 => match ws[n]? with
    | some w => tillTo ws t n + min (max (t - w.At) 0) w.Len
    | none => tillTo ws t n
def tillW (ws : List SWindow) (t : Int) : Int := tillTo ws t ws.length
theorem tillTo_bounds {len : Int} {ws : List SWindow} (h : FrameOk len ws) (t : Int) : ∀ n : Nat, 0 ≤ tillTo ws t n ∧ tillTo ws t n ≤ 10000 * (n : Int)
  | 0 => by simp [tillTo]
  | n + 1 => by
    have ih := tillTo_bounds h t n
    simp only [tillTo]
    split
    · rename_i w hw
      have := h.each n w hw
      have := h.frame
      omega
    · omega
theorem tillTo_zero {len : Int} {ws : List SWindow} (h : FrameOk len ws) : ∀ n : Nat, tillTo ws 0 n = 0
  | 0 => rfl
  | n + 1 => by
    have ih := tillTo_zero h n
    simp only [tillTo]
    split
    · rename_i w hw
      have := h.each n w hw
      omega
    · exact ih
theorem tillTo_succ {len : Int} {ws : List SWindow} (h : FrameOk len ws) (u : Int) : ∀ n : Nat, ((∃ (i : Nat) (w : SWindow), i < n ∧ ws[i]? = some w ∧ w.At ≤ u ∧ u < w.At + w.Len) ∧ tillTo ws (u + 1) n = tillTo ws u n + 1) ∨ ((¬ ∃ (i : Nat) (w : SWindow), i < n ∧ ws[i]? = some w ∧ w.At ≤ u ∧ u < w.At + w.Len) ∧ tillTo ws (u + 1) n = tillTo ws u n)
  | 0 => .inr ⟨fun ⟨i, w, hi, _⟩ => by omega, rfl⟩
  | n + 1 => by
    simp only [tillTo]
    cases hw : ws[n]? with
    | none =>
      rcases tillTo_succ h u n with ⟨⟨i, w, h1, h2⟩, h3⟩ | ⟨h1, h2⟩
      · exact .inl ⟨⟨i, w, by omega, h2⟩, h3⟩
      · refine .inr ⟨fun ⟨i, w, g1, g2, g3⟩ => ?_, h2⟩
        by_cases hin : i = n
        · subst hin; rw [hw] at g2; cases g2
        · exact h1 ⟨i, w, by omega, g2, g3⟩
    | some w =>
      simp only
      have hn := h.each n w hw
      rcases tillTo_succ h u n with ⟨⟨i, v, h1, h2, h3, h4⟩, h5⟩ | ⟨h1, h2⟩
      · left
        refine ⟨⟨i, v, by omega, h2, h3, h4⟩, ?_⟩
        have := h.order (n - i - 1) i v w h2 (by rw [show i + (n - i - 1 + 1) = n by omega]; exact hw)
        omega
      · by_cases hc : w.At ≤ u ∧ u < w.At + w.Len
        · left
          exact ⟨⟨n, w, by omega, hw, hc⟩, by omega⟩
        · right
          refine ⟨fun ⟨i, v, g1, g2, g3⟩ => ?_, by omega⟩
          by_cases hin : i = n
          · subst hin; rw [hw] at g2; cases g2; exact hc g3
          · exact h1 ⟨i, v, by omega, g2, g3⟩
/-- how many ticks the core is there ahead of a time -/
def sumW (len : Int) (ws : List SWindow) (t : Int) : Int := t / len * tillW ws len + tillW ws (t % len)
noncomputable def opensAt (len : Int) (ws : List SWindow) (s : Nat) : Int := open Classical in if openAt ws ((s : Int) % len) then 1 else 0
theorem tillW_succ {len : Int} {ws : List SWindow} (h : FrameOk len ws) (u : Int) : tillW ws (u + 1) = tillW ws u + (open Classical in if openAt ws u then 1 else 0) := by
  unfold tillW
  rcases tillTo_succ h u ws.length with ⟨⟨i, w, h1, h2, h3⟩, h4⟩ | ⟨h1, h2⟩
  · rw [if_pos ⟨i, w, h2, h3⟩]; exact h4
  · rw [if_neg (fun ⟨i, w, g1, g2⟩ => h1 ⟨i, w, lt_of_get g1, g1, g2⟩)]; omega
theorem sumW_eq {len : Int} {ws : List SWindow} (h : FrameOk len ws) : ∀ t : Nat, sumW len ws (t : Int) = sumN (opensAt len ws) t
  | 0 => by
    have : tillW ws 0 = 0 := tillTo_zero h _
    simp [sumW, sumN, this]
  | t + 1 => by
    have ih := sumW_eq h t
    have hl := h.frame
    simp only [sumN]
    rw [← ih]
    have hm := Int.emod_add_mul_ediv (t : Int) len
    have hm1 : 0 ≤ (t : Int) % len := Int.emod_nonneg _ (by omega)
    have hm2 : (t : Int) % len < len := Int.emod_lt_of_pos _ (by omega)
    have hs := tillW_succ h ((t : Int) % len)
    have ho : opensAt len ws t = (open Classical in if openAt ws ((t : Int) % len) then 1 else 0) := rfl
    unfold sumW
    by_cases hlast : (t : Int) % len + 1 = len
    · have e : ((t + 1 : Nat) : Int) = 0 + len * ((t : Int) / len + 1) := by rw [Int.mul_add]; omega
      have hz : tillW ws 0 = 0 := tillTo_zero h _
      have e1 : ((t + 1 : Nat) : Int) / len = (t : Int) / len + 1 := by rw [e, Int.add_mul_ediv_left _ _ (by omega)]; simp
      have e2 : ((t + 1 : Nat) : Int) % len = 0 := by rw [e, Int.add_mul_emod_self_left]; simp
      rw [e1, e2, hz, Int.add_mul, Int.one_mul, Int.add_zero]
      rw [hlast] at hs
      omega
    · have e : ((t + 1 : Nat) : Int) = ((t : Int) % len + 1) + len * ((t : Int) / len) := by omega
      have e1 : ((t + 1 : Nat) : Int) / len = (t : Int) / len := by
        rw [e, Int.add_mul_ediv_left _ _ (by omega), Int.ediv_eq_zero_of_lt (by omega) (by omega)]; omega
      have e2 : ((t + 1 : Nat) : Int) % len = (t : Int) % len + 1 := by
        rw [e, Int.add_mul_emod_self_left, Int.emod_eq_of_lt (by omega) (by omega)]
      rw [e1, e2]
      omega
theorem sumN_shift (f : Nat → Int) (a : Nat) : ∀ b, sumN f (a + b) = sumN f a + sumN (fun s => f (a + s)) b
  | 0 => by simp [sumN]
  | b + 1 => by
    show sumN f (a + b) + f (a + b) = _
    rw [sumN_shift f a b]
    simp only [sumN]
    omega
/-- how many ticks the core is there, from a time on -/
def supplyOf (len : Int) (ws : List SWindow) (a b : Int) : Int := sumW len ws (a + b) - sumW len ws a
theorem supplyOf_eq {len : Int} {ws : List SWindow} (h : FrameOk len ws) (a b : Nat) : supplyOf len ws a b = sumN (fun s => opensAt len ws (a + s)) b := by
  unfold supplyOf
  have e : (a : Int) + (b : Int) = ((a + b : Nat) : Int) := by omega
  rw [e, sumW_eq h, sumW_eq h, sumN_shift]
  omega
theorem supply_step (len : Int) (ws : List SWindow) (a b : Nat) : sumN (fun s => opensAt len ws (a + 1 + s)) b + opensAt len ws a = sumN (fun s => opensAt len ws (a + s)) b + opensAt len ws (a + b) := by
  induction b with
  | zero => simp [sumN]
  | succ b ih =>
    simp only [sumN]
    rw [show a + 1 + b = a + (b + 1) by omega]
    omega
theorem opensAt_range (len : Int) (ws : List SWindow) (s : Nat) : 0 ≤ opensAt len ws s ∧ opensAt len ws s ≤ 1 := by
  unfold opensAt; split <;> omega
/-- the least of the first n -/
def leastTo (len : Int) (ws : List SWindow) (b : Int) : Nat → Int
  | 0 => supplyOf len ws 0 b
  | n + 1 => match ws[n]? with
    | some w => min (leastTo len ws b n) (supplyOf len ws (w.At + w.Len) b)
    | none => leastTo len ws b n
theorem leastTo_le (len : Int) (ws : List SWindow) (b : Int) : ∀ n, leastTo len ws b n ≤ supplyOf len ws 0 b ∧ ∀ (k : Nat) (w : SWindow), k < n → ws[k]? = some w → leastTo len ws b n ≤ supplyOf len ws (w.At + w.Len) b
  | 0 => ⟨Int.le_refl _, fun k w hk _ => by omega⟩
  | n + 1 => by
    obtain ⟨h1, h2⟩ := leastTo_le len ws b n
    simp only [leastTo]
    cases hn : ws[n]? with
    | none =>
      refine ⟨h1, fun k w hk hw => ?_⟩
      by_cases hkn : k = n
      · subst hkn; rw [hn] at hw; cases hw
      · exact h2 k w (by omega) hw
    | some v =>
      simp only
      refine ⟨by omega, fun k w hk hw => ?_⟩
      by_cases hkn : k = n
      · subst hkn; rw [hn] at hw; cases hw; omega
      · have := h2 k w (by omega) hw; omega
/-- nowhere is the core there for fewer ticks -/
theorem leastTo_all {len : Int} {ws : List SWindow} (h : FrameOk len ws) (b a : Nat) : leastTo len ws b ws.length ≤ sumN (fun s => opensAt len ws (a + s)) b := by
  obtain ⟨hl0, hlw⟩ := leastTo_le len ws b ws.length
  have hl := h.frame
  -- from the frame's beginning, and from where a window ends
  have h0 : leastTo len ws b ws.length ≤ sumN (fun s => opensAt len ws (0 + s)) b := by
    have := supplyOf_eq h 0 b
    rw [← this]; exact hl0
  have hend : ∀ (k : Nat) (w : SWindow), ws[k]? = some w → leastTo len ws b ws.length ≤ sumN (fun s => opensAt len ws ((w.At + w.Len).toNat + s)) b := fun k w hw => by
    have h1 := h.each k w hw
    have h2 := hlw k w (lt_of_get hw) hw
    have h3 := supplyOf_eq h (w.At + w.Len).toNat b
    rw [Int.toNat_of_nonneg (by omega)] at h3
    rw [← h3]; exact h2
  have hopen : ∀ f : Nat, (f : Int) < len → (opensAt len ws f = 1 ∧ openAt ws (f : Int) ∨ opensAt len ws f = 0 ∧ ¬ openAt ws (f : Int)) := fun f hf => by
    unfold opensAt
    rw [Int.emod_eq_of_lt (by omega) hf]
    by_cases ho : openAt ws (f : Int)
    · rw [if_pos ho]; exact .inl ⟨rfl, ho⟩
    · rw [if_neg ho]; exact .inr ⟨rfl, ho⟩
  -- within a window: onwards to its end
  have hfwd : ∀ (k : Nat) (w : SWindow), ws[k]? = some w → ∀ d f : Nat, (f : Int) + d = w.At + w.Len → w.At ≤ f → leastTo len ws b ws.length ≤ sumN (fun s => opensAt len ws (f + s)) b := by
    intro k w hw d
    induction d with
    | zero =>
      intro f hf _
      have := hend k w hw
      rw [show (w.At + w.Len).toNat = f by omega] at this
      exact this
    | succ d ih =>
      intro f hf hfa
      have h1 := h.each k w hw
      have h2 := ih (f + 1) (by omega) (by omega)
      have h3 := supply_step len ws f b
      have h4 := opensAt_range len ws (f + b)
      rcases hopen f (by omega) with ⟨h5, _⟩ | ⟨_, h5⟩
      · omega
      · exact absurd ⟨k, w, hw, hfa, by omega⟩ h5
  -- where it isn't there: back to where it was
  have hback : ∀ f : Nat, (f : Int) < len → leastTo len ws b ws.length ≤ sumN (fun s => opensAt len ws (f + s)) b := by
    intro f
    induction f with
    | zero => intro _; exact h0
    | succ f ih =>
      intro hf
      rcases hopen (f + 1) hf with ⟨_, ⟨k, w, hw, g1, g2⟩⟩ | ⟨_, hno⟩
      · exact hfwd k w hw (w.At + w.Len - ((f + 1 : Nat) : Int)).toNat (f + 1) (by omega) g1
      · rcases hopen f (by omega) with ⟨_, ⟨k, w, hw, g1, g2⟩⟩ | ⟨hz, _⟩
        · have : w.At + w.Len = ((f + 1 : Nat) : Int) := by
            by_cases hlt : ((f + 1 : Nat) : Int) < w.At + w.Len
            · exact absurd ⟨k, w, hw, by omega, hlt⟩ hno
            · omega
          have h1 := hend k w hw
          rw [this, Int.toNat_natCast] at h1
          exact h1
        · have h2 := ih (by omega)
          have h3 := supply_step len ws f b
          have h4 := opensAt_range len ws (f + b)
          omega
  -- frame by frame
  have hper : sumN (fun s => opensAt len ws (a + s)) b = sumN (fun s => opensAt len ws (((a : Int) % len).toNat + s)) b := sumN_congr fun s _ => by
    unfold opensAt
    have hm1 : 0 ≤ (a : Int) % len := Int.emod_nonneg _ (by omega)
    have e : ((a + s : Nat) : Int) % len = (((((a : Int) % len).toNat + s : Nat)) : Int) % len := by
      have e1 : (((((a : Int) % len).toNat + s : Nat)) : Int) = (a : Int) % len + s := by omega
      have e2 : ((a + s : Nat) : Int) = (a : Int) + s := by omega
      rw [e1, e2, Int.emod_add_emod]
    rw [e]
  rw [hper]
  have hm2 : (a : Int) % len < len := Int.emod_lt_of_pos _ (by omega)
  have hm1 : 0 ≤ (a : Int) % len := Int.emod_nonneg _ (by omega)
  exact hback _ (by omega)

theorem till_eq {len : Int} {ws : List SWindow} (h : FrameOk len ws) {t : Int} (ht : 0 ≤ t ∧ t ≤ 10000) (K : Nat) (hK : 30 ≤ K) : modes_till.f K ws t = some (tillW ws t) := by
  unfold modes_till.f
  have hm := h.many
  have hit := iter_states (ρ := Int) (f := modes_till.r0 ws t) (fun i => (tillTo ws t i, i)) (fun _ => none) ws.length (t := tillW ws t) (fun i hi _ => by
    have hi' : (i : Int) < (ws.length : Int) := by omega
    have hx : ws[i]? = some ws[i] := List.getElem?_eq_getElem hi
    have hw := h.each i _ hx
    have hf := h.frame
    have hb := tillTo_bounds h t i
    simp only [modes_till.r0, if_pos hi', hx, tillTo, onwardS, gmin_eq, gmax_eq]
    rw [wrap64_small (n := t - ws[i].At) (by omega) (by omega), wrap64_small (by omega) (by omega)]) (fun _ => by simp [modes_till.r0, tillW]) (K := K) (by omega)
  rw [show ((0 : Int), 0) = (tillTo ws t 0, 0) from rfl, hit, firstOf_none_of (fun _ _ _ => rfl)]
  rfl
theorem tillW_bounds {len : Int} {ws : List SWindow} (h : FrameOk len ws) (t : Int) : 0 ≤ tillW ws t ∧ tillW ws t ≤ 200000 := by
  have h1 := tillTo_bounds h t ws.length
  have h2 := h.many
  unfold tillW
  omega
theorem sumW_bounds {len : Int} {ws : List SWindow} (h : FrameOk len ws) {t : Int} (ht : 0 ≤ t ∧ t ≤ 40000) : (0 ≤ t / len * tillW ws len ∧ t / len * tillW ws len ≤ 8000000000) ∧ 0 ≤ sumW len ws t ∧ sumW len ws t ≤ 8000200000 := by
  have hf := h.frame
  have h1 : 0 ≤ t / len := Int.ediv_nonneg ht.1 (by omega)
  have h2 : t / len ≤ t := Int.ediv_le_self _ ht.1
  have h3 := tillW_bounds h len
  have h4 := tillW_bounds h (t % len)
  have h5 : 0 ≤ t / len * tillW ws len := Int.mul_nonneg h1 h3.1
  have h6 : t / len * tillW ws len ≤ 8000000000 := by
    calc t / len * tillW ws len ≤ 40000 * tillW ws len := Int.mul_le_mul_of_nonneg_right (by omega) h3.1
      _ ≤ 40000 * 200000 := Int.mul_le_mul_of_nonneg_left h3.2 (by omega)
      _ = 8000000000 := by decide
  unfold sumW
  omega
theorem sum_eq {len : Int} {ws : List SWindow} (h : FrameOk len ws) {t : Int} (ht : 0 ≤ t ∧ t ≤ 40000) (K : Nat) (hK : 30 ≤ K) : modes_supply_1.f K t len ws = some (sumW len ws t) := by
  have hf := h.frame
  have hb := sumW_bounds h ht
  have hm1 : 0 ≤ t % len := Int.emod_nonneg _ (by omega)
  have hm2 : t % len < len := Int.emod_lt_of_pos _ (by omega)
  have h1 : 0 ≤ t / len := Int.ediv_nonneg ht.1 (by omega)
  have h2 : t / len ≤ t := Int.ediv_le_self _ ht.1
  unfold modes_supply_1.f
  rw [if_neg (by omega), till_eq h ⟨by omega, by omega⟩ K hK]
  simp only
  rw [Int.tmod_eq_emod_of_nonneg ht.1, till_eq h ⟨by omega, by omega⟩ K hK]
  simp only
  rw [Int.tdiv_eq_ediv_of_nonneg ht.1, wrap64_small (n := t / len) (by omega) (by omega), wrap64_small (n := t / len * tillW ws len) (by omega) (by omega), wrap64_small (by unfold sumW at hb; omega) (by unfold sumW at hb; omega)]
  rfl
theorem supply_eq {len : Int} {ws : List SWindow} (h : FrameOk len ws) {a b : Int} (ha : 0 ≤ a ∧ a ≤ 20000) (hb : 0 ≤ b ∧ b ≤ 20000) (K : Nat) (hK : 30 ≤ K) : modes_supply.f K len ws a b = some (supplyOf len ws a b) := by
  have h1 := sumW_bounds h (t := a + b) ⟨by omega, by omega⟩
  have h2 := sumW_bounds h (t := a) ⟨by omega, by omega⟩
  unfold modes_supply.f
  rw [wrap64_small (n := a + b) (by omega) (by omega), sum_eq h ⟨by omega, by omega⟩ K hK]
  simp only
  rw [sum_eq h ⟨by omega, by omega⟩ K hK]
  simp only
  rw [wrap64_small (by omega) (by omega)]
  rfl
theorem least_eq {len : Int} {ws : List SWindow} (h : FrameOk len ws) {b : Int} (hb : 0 ≤ b ∧ b ≤ 20000) (K : Nat) (hK : 30 ≤ K) : modes_least.f K len ws b = some (leastTo len ws b ws.length) := by
  have hm := h.many
  unfold modes_least.f
  rw [supply_eq h ⟨by omega, by omega⟩ hb K hK]
  simp only
  have hit := iter_states (ρ := Int) (f := modes_least.r0 K len ws b) (fun i => (leastTo len ws b i, i)) (fun _ => none) ws.length (t := leastTo len ws b ws.length) (fun i hi _ => by
    have hi' : (i : Int) < (ws.length : Int) := by omega
    have hx : ws[i]? = some ws[i] := List.getElem?_eq_getElem hi
    have hw := h.each i _ hx
    have hf := h.frame
    simp only [modes_least.r0, if_pos hi', hx, leastTo, onwardS, gmin_eq]
    rw [wrap64_small (n := ws[i].At + ws[i].Len) (by omega) (by omega), supply_eq h ⟨by omega, by omega⟩ hb K hK]) (fun _ => by simp [modes_least.r0]) (K := K) (by omega)
  rw [show (supplyOf len ws 0 b, 0) = (leastTo len ws b 0, 0) from rfl, hit, firstOf_none_of (fun _ _ _ => rfl)]
  rfl
theorem wceil_eq {a b : Int} (ha : 0 ≤ a ∧ a ≤ 100000) (hb : 1 ≤ b ∧ b ≤ 100000) : modes_ceil.f a b = some (ceilD a b) := by
  unfold modes_ceil.f
  rw [if_neg (by omega), wrap64_small (n := a + b) (by omega) (by omega), wrap64_small (n := a + b - 1) (by omega) (by omega), Int.tdiv_eq_ediv_of_nonneg (by omega)]
  have h1 := ceilD_nonneg hb.1 ha.1
  have h2 := ceilD_le hb.1 ha.1
  show some (IntKind.i64.wrap (ceilD a b)) = _
  rw [wrap64_small (by omega) (by omega)]
theorem need_eq (l : List STask) (h : ∀ o ∈ l, Okt o) (hl : l.length ≤ 8) (i : Nat) (t : STask) (ht : l[i]? = some t) (w : Int) (hw : 1 ≤ w ∧ w ≤ 10000) (K : Nat) (hK : 9 ≤ K) : iter (modes_Within.r1 l (i : Int) t w) K (t.C, 0) = some (.inl (dem t 0 (aboveOf l i) w)) := by
  have htok := h t (List.mem_of_getElem? ht)
  have hC := htok.C
  have hr := iter_states (ρ := Int × SFault) (f := modes_Within.r1 l (i : Int) t w) (fun k => (t.C + wants (aboveTill l i k) w, k)) (fun _ => none) l.length (t := dem t 0 (aboveOf l i) w) (fun k hk _ => by
    have hk' : (k : Int) < (l.length : Int) := by omega
    have hkx : l[k]? = some l[k] := List.getElem?_eq_getElem hk
    have hok := h l[k] (List.getElem_mem hk)
    have hwb := want_bounds hok (w := w) ⟨by omega, by omega⟩
    have hsb := wants_bounds (os := aboveTill l i k) (fun o ho => h o (aboveTill_mem ho)) (w := w) ⟨by omega, by omega⟩
    have hlen := aboveTill_len l i k
    rw [aboveTill_succ hkx ht, wants_append]
    simp only [modes_Within.r1, if_pos hk', hkx, onwardS]
    by_cases h1 : (k : Int) = (i : Int)
    · rw [if_pos h1, if_neg (by omega), wants_nil, Int.add_zero]
    · rw [if_neg h1]
      by_cases h2 : l[k].P ≥ t.P
      · have hT := hok.T; have hJ := hok.J
        rw [if_pos h2, wrap64_small (n := w + l[k].J) (by omega) (by omega), wceil_eq ⟨by omega, by omega⟩ ⟨by omega, by omega⟩]
        simp only
        rw [wrap64_small (n := ceilD (w + l[k].J) l[k].T * l[k].C) (by omega) (by omega), wrap64_small (by omega) (by omega), if_pos ⟨by omega, h2⟩, wants_cons, wants_nil]
        congr 3
        omega
      · rw [if_neg h2, if_neg (fun h => h2 h.2), wants_nil, Int.add_zero]) (fun _ => by simp [modes_Within.r1, dem, aboveOf]) (K := K) (by omega)
  have h0 : t.C + wants (aboveTill l i 0) w = t.C := by
    show _ + wants [] w = _
    rw [wants_nil, Int.add_zero]
  rw [h0, firstOf_none_of (fun _ _ _ => rfl)] at hr
  rw [hr]; rfl
/-- what Within says: a fault, or a time in which all is done that is wanted -/
theorem Within_eq (l : List STask) (i : Nat) (t : STask) (ht : l[i]? = some t) (len : Int) (ws : List SWindow) (K : Nat) (hK : 20100 ≤ K) :
    ∃ n f, modes_Within.f K l (i : Int) len ws = some (n, f) ∧ (f.Code = 0 → (fixedFault l).Code = 0 ∧ FrameOk len ws ∧ ∃ w, 1 ≤ w ∧ w ≤ t.D - t.J ∧ dem t 0 (aboveOf l i) w ≤ leastTo len ws w ws.length ∧ n = w + t.J) := by
  unfold modes_Within.f
  rw [Response_eq l (i : Int) 0 K hK]
  simp only
  by_cases hr : (respOf l (i : Int) 0).2.Code = 0
  · rw [if_pos hr, Frame_eq len ws K (by omega)]
    simp only
    by_cases hc : (frameFault len ws).Code = 0
    · rw [if_pos hc, if_pos (by omega), Int.toNat_natCast, ht]
      simp only
      have hff : (fixedFault l).Code = 0 := by
        unfold respOf at hr
        split at hr
        · assumption
        · contradiction
      have hset := (fixedFault_ok hff).1
      have hok := okt_of hset
      have hl8 := (setFault_ok hset).2.1
      have hto := hok t (List.mem_of_getElem? ht)
      have hC := hto.C; have hD := hto.D; have hJ := hto.J
      obtain ⟨_, hfr⟩ := frameFault_ok hc
      obtain ⟨r, hr1, hR⟩ := iter_total (f := modes_Within.r0 K l (i : Int) len ws (respOf l (i : Int) 0) t) (fun z => 1 ≤ z) (fun z => (t.D - t.J + 1 - z).toNat)
        (fun r => r = .inl () ∨ ∃ w, 1 ≤ w ∧ w ≤ t.D - t.J ∧ dem t 0 (aboveOf l i) w ≤ leastTo len ws w ws.length ∧ r = .inr (w + t.J, ⟨0, 0⟩)) (fun z hz => by
          simp only [modes_Within.r0]
          rw [wrap64_small (n := t.D - t.J) (by omega) (by omega)]
          by_cases hle : z ≤ t.D - t.J
          · rw [if_pos hle, need_eq l hok hl8 i t ht z ⟨hz, by omega⟩ K (by omega)]
            simp only
            rw [least_eq hfr ⟨by omega, by omega⟩ K (by omega)]
            simp only
            by_cases hge : leastTo len ws z ws.length ≥ dem t 0 (aboveOf l i) z
            · rw [if_pos hge]
              right
              refine ⟨_, rfl, .inr ⟨z, hz, hle, hge, ?_⟩⟩
              rw [wrap64_small (by omega) (by omega)]
            · rw [if_neg hge]
              left
              refine ⟨_, rfl, ?_, ?_⟩ <;> rw [wrap64_small (by omega) (by omega)] <;> omega
          · rw [if_neg hle]
            exact .inr ⟨_, rfl, .inl rfl⟩) K t.C hC.1 (by omega)
      rw [hr1]
      rcases hR with rfl | ⟨w, h1, h2, h3, rfl⟩
      · exact ⟨_, _, rfl, fun h => absurd h (by simp)⟩
      · exact ⟨_, _, rfl, fun _ => ⟨hff, hfr, w, h1, h2, h3, rfl⟩⟩
    · rw [if_neg hc]
      exact ⟨_, _, rfl, fun h => absurd h hc⟩
  · rw [if_neg hr]
    exact ⟨_, _, rfl, fun h => absurd h hr⟩
theorem Open_eq {len : Int} {ws : List SWindow} (hc : (frameFault len ws).Code = 0) (t : Nat) (K : Nat) (hK : 30 ≤ K) : modes_Hosted_1.f K (t : Int) len ws = some (decide (opensAt len ws t = 1)) := by
  obtain ⟨_, h⟩ := frameFault_ok hc
  have hf := h.frame; have hm := h.many
  have hp0 : modes_Open.p0 K len ws (t : Int) = some (.inl ()) := by
    unfold modes_Open.p0
    rw [if_neg (by omega), Frame_eq len ws K (by omega)]
    simp only
    rw [if_pos hc]
  unfold modes_Hosted_1.f modes_Open.f
  rw [hp0]
  simp only
  rw [if_neg (by omega)]
  have hit := iter_first0 (ρ := Bool) (τ := Unit) (f := modes_Open.r1 len ws (t : Int)) (fun i => match ws[i]? with | some w => if w.At ≤ (t : Int) % len ∧ (t : Int) % len < w.At + w.Len then some true else none | none => none) ws.length (t := ()) (fun i hi => by
    have hi' : (i : Int) < (ws.length : Int) := by omega
    have hx : ws[i]? = some ws[i] := List.getElem?_eq_getElem hi
    have hw := h.each i _ hx
    simp only [modes_Open.r1, if_pos hi', hx]
    rw [Int.tmod_eq_emod_of_nonneg (by omega), wrap64_small (n := ws[i].At + ws[i].Len) (by omega) (by omega)]
    by_cases h1 : (t : Int) % len ≥ ws[i].At
    · rw [if_pos h1]
      by_cases h2 : (t : Int) % len < ws[i].At + ws[i].Len
      · rw [if_pos h2, if_pos ⟨h1, h2⟩]; rfl
      · rw [if_neg h2, if_neg (fun h => h2 h.2)]; rfl
    · rw [if_neg h1, if_neg (fun h => h1 h.1)]; rfl) (by simp [modes_Open.r1]) (K := K) (by omega)
  rw [hit]
  cases hfst : firstOf (fun i => match ws[i]? with | some w => if w.At ≤ (t : Int) % len ∧ (t : Int) % len < w.At + w.Len then some true else none | none => none) ws.length 0 with
  | some r =>
    obtain ⟨i, _, hi, hg, _⟩ := firstOf_some hfst
    have hx : ws[i]? = some ws[i] := List.getElem?_eq_getElem hi
    simp only [hx] at hg
    split at hg
    · rename_i hh
      cases hg
      have : opensAt len ws t = 1 := by unfold opensAt; rw [if_pos ⟨i, _, hx, hh⟩]
      simp [leave, this]
    · cases hg
  | none =>
    have : opensAt len ws t = 0 := by
      unfold opensAt
      rw [if_neg]
      rintro ⟨i, w, hw, hh⟩
      have := firstOf_none hfst i (Nat.zero_le _) (lt_of_get hw)
      simp only [hw] at this
      rw [if_pos hh] at this
      cases this
    simp [leave, this]
/-- one tick, where the core may not be there -/
noncomputable def tickW (jobs : List SJob) (len : Int) (ws : List SWindow) (t : Nat) (s : List Int × List Int) : List Int × List Int :=
  if opensAt len ws t = 1 then
    (if firstTo 1 jobs s.1 t jobs.length < 0 then s
    else (s.1.set (firstTo 1 jobs s.1 t jobs.length).toNat (s.1.getD (firstTo 1 jobs s.1 t jobs.length).toNat 0 - 1), if s.1.getD (firstTo 1 jobs s.1 t jobs.length).toNat 0 - 1 = 0 then s.2.set (firstTo 1 jobs s.1 t jobs.length).toNat ((t : Int) + 1) else s.2))
  else s
/-- how it stands behind so many ticks: what is left, the ends -/
noncomputable def simW (jobs : List SJob) (len : Int) (ws : List SWindow) : Nat → List Int × List Int
  | 0 => (jobs.map (·.C), List.replicate jobs.length (-1))
  | t + 1 => tickW jobs len ws t (simW jobs len ws t)
noncomputable def leftW (jobs : List SJob) (len : Int) (ws : List SWindow) (t j : Nat) : Int := (simW jobs len ws t).1.getD j 0
noncomputable def endW (jobs : List SJob) (len : Int) (ws : List SWindow) (t j : Nat) : Int := (simW jobs len ws t).2.getD j 0
structure SimWOk (jobs : List SJob) (s : List Int × List Int) : Prop where
  left : s.1.length = jobs.length
  ends : s.2.length = jobs.length
  each : ∀ (j : Nat), j < jobs.length → 0 ≤ s.1.getD j 0 ∧ s.1.getD j 0 ≤ 10000
theorem simW_ok {jobs : List SJob} (hj : ∀ e ∈ jobs, Okj e) (len : Int) (ws : List SWindow) : ∀ t, SimWOk jobs (simW jobs len ws t)
  | 0 => by
    refine ⟨by simp [simW], by simp [simW], fun j hjl => ?_⟩
    have he : jobs[j]? = some jobs[j] := List.getElem?_eq_getElem hjl
    have hC := (hj _ (List.getElem_mem hjl)).C
    have e2 : (jobs.map (·.C)).getD j 0 = jobs[j].C := by simp [List.getD, he]
    simp only [simW]
    rw [e2]
    omega
  | t + 1 => by
    have h := simW_ok hj len ws t
    show SimWOk jobs (tickW jobs len ws t (simW jobs len ws t))
    unfold tickW
    by_cases ho : opensAt len ws t = 1
    · rw [if_pos ho]
      rcases firstR jobs (simW jobs len ws t).1 (t : Int) h.left with ⟨h1, _⟩ | ⟨b, y, h1, h2, h3, h4, _⟩
      · simp only [h1]
        rw [if_pos (by omega)]
        exact h
      · simp only [h1, Int.toNat_natCast]
        rw [if_neg (by omega)]
        have hb := lt_of_get h2
        have hbl : b < (simW jobs len ws t).1.length := by rw [h.left]; exact hb
        refine ⟨by simp [h.left], by split <;> simp [h.ends], fun j hjl => ?_⟩
        simp only
        rw [getD_set _ _ _ _ hbl]
        have := h.each j hjl
        by_cases hbj : b = j
        · subst hbj; rw [if_pos rfl]; omega
        · rw [if_neg hbj]; exact this
    · rw [if_neg ho]; exact h
/-- one tick, told of what is left -/
theorem leftW_step {jobs : List SJob} (hj : ∀ e ∈ jobs, Okj e) (len : Int) (ws : List SWindow) (t : Nat) :
    ((opensAt len ws t = 0 ∨ ∀ j e, jobs[j]? = some e → ¬ (e.At ≤ (t : Int) ∧ 0 < leftW jobs len ws t j)) ∧ ∀ j, leftW jobs len ws (t + 1) j = leftW jobs len ws t j ∧ endW jobs len ws (t + 1) j = endW jobs len ws t j) ∨
    ∃ (b : Nat) (y : SJob), opensAt len ws t = 1 ∧ jobs[b]? = some y ∧ y.At ≤ (t : Int) ∧ 0 < leftW jobs len ws t b ∧ (∀ j x, jobs[j]? = some x → x.At ≤ (t : Int) → 0 < leftW jobs len ws t j → ¬ aheadJ 1 x y) ∧
      leftW jobs len ws (t + 1) b = leftW jobs len ws t b - 1 ∧ endW jobs len ws (t + 1) b = (if leftW jobs len ws t b - 1 = 0 then (t : Int) + 1 else endW jobs len ws t b) ∧
      ∀ j, j ≠ b → leftW jobs len ws (t + 1) j = leftW jobs len ws t j ∧ endW jobs len ws (t + 1) j = endW jobs len ws t j := by
  have hok := simW_ok hj len ws t
  have hst : simW jobs len ws (t + 1) = tickW jobs len ws t (simW jobs len ws t) := rfl
  by_cases ho : opensAt len ws t = 1
  · rcases firstR jobs (simW jobs len ws t).1 (t : Int) hok.left with ⟨h1, h2⟩ | ⟨b, y, h1, h2, h3, h4, h5⟩
    · left
      have ht : tickW jobs len ws t (simW jobs len ws t) = simW jobs len ws t := by
        unfold tickW; rw [if_pos ho]; simp only [h1]; rw [if_pos (by omega)]
      refine ⟨.inr h2, fun j => ?_⟩
      unfold leftW endW
      rw [hst, ht]
      exact ⟨rfl, rfl⟩
    · right
      have hb := lt_of_get h2
      have hbl : b < (simW jobs len ws t).1.length := by rw [hok.left]; exact hb
      have hbe : b < (simW jobs len ws t).2.length := by rw [hok.ends]; exact hb
      have ht : tickW jobs len ws t (simW jobs len ws t) = ((simW jobs len ws t).1.set b ((simW jobs len ws t).1.getD b 0 - 1), if (simW jobs len ws t).1.getD b 0 - 1 = 0 then (simW jobs len ws t).2.set b ((t : Int) + 1) else (simW jobs len ws t).2) := by
        unfold tickW; rw [if_pos ho]; simp only [h1, Int.toNat_natCast]; rw [if_neg (by omega)]
      refine ⟨b, y, ho, h2, h3, h4, h5, ?_, ?_, fun j hne => ⟨?_, ?_⟩⟩
      · unfold leftW
        rw [hst, ht]
        simp only
        rw [getD_set _ _ _ _ hbl, if_pos rfl]
      · unfold leftW endW
        rw [hst, ht]
        simp only
        by_cases h0 : (simW jobs len ws t).1.getD b 0 - 1 = 0
        · rw [if_pos h0, if_pos h0, getD_set _ _ _ _ hbe, if_pos rfl]
        · rw [if_neg h0, if_neg h0]
      · unfold leftW
        rw [hst, ht]
        simp only
        rw [getD_set _ _ _ _ hbl, if_neg (fun h => hne h.symm)]
      · unfold endW
        rw [hst, ht]
        simp only
        split
        · rw [getD_set _ _ _ _ hbe, if_neg (fun h => hne h.symm)]
        · rfl
  · left
    have ht : tickW jobs len ws t (simW jobs len ws t) = simW jobs len ws t := by
      unfold tickW; rw [if_neg ho]
    have hr := opensAt_range len ws t
    refine ⟨.inl (by omega), fun j => ?_⟩
    unfold leftW endW
    rw [hst, ht]
    exact ⟨rfl, rfl⟩
theorem leftW_zero (jobs : List SJob) (len : Int) (ws : List SWindow) (j : Nat) : leftW jobs len ws 0 j = costOf jobs j := rfl
theorem simW_ticks {jobs : List SJob} (hj : ∀ e ∈ jobs, Okj e) (len : Int) (ws : List SWindow) : Ticks jobs.length (leftW jobs len ws) (endW jobs len ws) := by
  refine ⟨fun j hjl => ?_, fun j hjl => ?_, fun t j hjl => ((simW_ok hj len ws t).each j hjl).1, fun t j hjl => ?_⟩
  · have he : jobs[j]? = some jobs[j] := List.getElem?_eq_getElem hjl
    rw [leftW_zero, costOf_some he]
    have := (hj _ (List.getElem_mem hjl)).C
    omega
  · simp [endW, simW, List.getD, List.getElem?_replicate, hjl]
  · rcases leftW_step hj len ws t with ⟨_, h⟩ | ⟨b, y, _, h1, h2, h3, h4, h5, h6, h7⟩
    · exact .inl (h j)
    · by_cases hb : j = b
      · subst hb
        right
        refine ⟨h3, ?_⟩
        rw [h5, h6]
      · exact .inl (h7 j hb)
/-- jobs of a priority, or a greater one, as a level; a tick in which the core isn't there costs itself -/
theorem simW_level {jobs : List SJob} (hj : ∀ e ∈ jobs, Okj e) (len : Int) (ws : List SWindow) (Pi : Int) :
    LevelC jobs.length (leftW jobs len ws) (fun j => ∃ e, jobs[j]? = some e ∧ Pi ≤ e.P) (atN jobs) (costOf jobs) (fun t => 1 - opensAt len ws t) := by
  have hT := simW_ticks hj len ws
  refine ⟨fun j _ => leftW_zero jobs len ws j, hT.nonneg, fun t j hjl h0 => hT.stays (Nat.le_succ t) hjl h0, fun t j hjl hr => ?_, fun t ⟨j, hjl, ⟨e, he, hP⟩, hr, hL⟩ => ?_⟩
  · have he : jobs[j]? = some jobs[j] := List.getElem?_eq_getElem hjl
    rw [atN_some he] at hr
    rcases leftW_step hj len ws t with ⟨_, h⟩ | ⟨b, y, _, h1, h2, h3, h4, h5, h6, h7⟩
    · exact (h j).1
    · refine (h7 j ?_).1
      rintro rfl
      rw [he] at h1
      cases h1
      omega
  · have hr' := hr
    rw [atN_some he] at hr
    have hA := (hj e (List.mem_of_getElem? he)).At
    rcases leftW_step hj len ws t with ⟨h, hs⟩ | ⟨b, y, ho, h1, h2, h3, h4, h5, h6, h7⟩
    · rcases h with h | h
      · refine ⟨j, hjl, ⟨e, he, hP⟩, hr', hL, ?_, fun i _ _ => (hs i).1⟩
        rw [(hs j).1, h]
        omega
      · exact absurd ⟨by omega, hL⟩ (h j e he)
    · have hn := h4 j e he (by omega) hL
      have hPb : Pi ≤ y.P := by
        unfold aheadJ at hn
        rw [if_pos rfl] at hn
        omega
      have hAb := (hj y (List.mem_of_getElem? h1)).At
      refine ⟨b, lt_of_get h1, ⟨y, h1, hPb⟩, by rw [atN_some h1]; omega, h3, ?_, fun i _ hne => (h7 i hne).1⟩
      rw [h5, ho]
      omega
/-- how jobs are played on a core that is there in windows alone -/
theorem Hosted_eq (jobs : List SJob) (hpf : playFault jobs = ⟨0, 0⟩) (len : Int) (ws : List SWindow) (en : Nat) (hen : en ≤ 20000) (K : Nat) (hK : 20010 ≤ K) :
    ((frameFault len ws).Code ≠ 0 ∧ modes_Hosted.f K jobs len ws (en : Int) = some (⟨[], []⟩, frameFault len ws)) ∨
    ((frameFault len ws).Code = 0 ∧ ∃ runs, modes_Hosted.f K jobs len ws (en : Int) = some (⟨runs, (simW jobs len ws en).2⟩, ⟨0, 0⟩)) := by
  unfold modes_Hosted.f
  rw [Frame_eq len ws K (by omega)]
  simp only
  by_cases hc : (frameFault len ws).Code = 0
  · right
    refine ⟨hc, ?_⟩
    rw [if_pos hc]
    have hpc : (playFault jobs).Code = 0 := by rw [hpf]
    obtain ⟨hl, _, hj⟩ := playFault_ok hpc
    unfold modes_hosted.f
    rw [schedCheck_eq jobs K (by omega)]
    simp only
    rw [if_pos hpc]
    have hp0 : modes_hosted.p0 (en : Int) = some (.inl ()) := by
      unfold modes_hosted.p0
      rw [if_neg (by omega), if_neg (by omega)]
    have hp1 : modes_hosted.p1 jobs (en : Int) = some (.inl (List.replicate en 0, List.replicate jobs.length 0)) := by
      unfold modes_hosted.p1
      rw [if_pos (by omega), if_pos (by omega), if_pos (by omega), Int.toNat_natCast]
    rw [hp0]
    simp only
    rw [hp1]
    simp only
    rw [if_pos (by omega)]
    have hit2 := iter_states (ρ := SPlayed × SFault) (f := modes_hosted.r2 jobs) (fun k => (k, (jobs.take k).map (·.C) ++ List.replicate (jobs.length - k) 0, List.replicate k (-1) ++ List.replicate (jobs.length - k) 0)) (fun _ => none) jobs.length (t := (jobs.map (·.C), List.replicate jobs.length (-1))) (fun i hi _ => by
      have hi' : (i : Int) < (jobs.length : Int) := by omega
      have hx : jobs[i]? = some jobs[i] := List.getElem?_eq_getElem hi
      have hlt : ((jobs.take i).map (·.C)).length = i := by simp; omega
      have e1 : ((jobs.take i).map (·.C) ++ List.replicate (jobs.length - i) (0 : Int))[i]? = some 0 := by
        rw [List.getElem?_append_right (by omega), hlt, Nat.sub_self, show jobs.length - i = (jobs.length - (i + 1)) + 1 by omega, List.replicate_succ]; rfl
      have e2 : (List.replicate i (-1) ++ List.replicate (jobs.length - i) (0 : Int))[i]? = some 0 := by
        rw [List.getElem?_append_right (by simp), List.length_replicate, Nat.sub_self, show jobs.length - i = (jobs.length - (i + 1)) + 1 by omega, List.replicate_succ]; rfl
      have e3 : ((jobs.take i).map (·.C) ++ List.replicate (jobs.length - i) (0 : Int)).set i jobs[i].C = (jobs.take (i + 1)).map (·.C) ++ List.replicate (jobs.length - (i + 1)) 0 := by
        rw [List.set_append_right _ _ (by omega), hlt, Nat.sub_self, show jobs.length - i = (jobs.length - (i + 1)) + 1 by omega, List.replicate_succ, List.set_cons_zero, List.take_add_one, hx, List.map_append, List.append_assoc]
        rfl
      have e4 : (List.replicate i (-1) ++ List.replicate (jobs.length - i) (0 : Int)).set i (-1) = List.replicate (i + 1) (-1) ++ List.replicate (jobs.length - (i + 1)) 0 := by
        rw [List.set_append_right _ _ (by simp), List.length_replicate, Nat.sub_self, show jobs.length - i = (jobs.length - (i + 1)) + 1 by omega, List.replicate_succ (n := jobs.length - (i + 1)), List.set_cons_zero, List.replicate_succ' (n := i)]
        simp
      simp only [modes_hosted.r2, if_pos hi', hx, e1, e2, e3, e4, onwardS]) (fun _ => by simp [modes_hosted.r2]) (K := K) (by omega)
    have h0 : (0, List.replicate jobs.length (0 : Int), List.replicate jobs.length (0 : Int)) = (0, (jobs.take 0).map (·.C) ++ List.replicate (jobs.length - 0) 0, List.replicate 0 (-1) ++ List.replicate (jobs.length - 0) 0) := by simp
    rw [h0, hit2, firstOf_none_of (fun _ _ _ => rfl)]
    simp only [leave]
    obtain ⟨r, hr1, runs, rfl⟩ := iter_total (f := modes_hosted.r3 K jobs len ws (en : Int))
      (fun s => ∃ t : Nat, t ≤ en ∧ s.1 = (t : Int) ∧ s.2.1 = (simW jobs len ws t).1 ∧ s.2.2.1.length = en ∧ s.2.2.2 = (simW jobs len ws t).2)
      (fun s => ((en : Int) - s.1).toNat) (fun r => ∃ runs, r = .inl (runs, (simW jobs len ws en).2)) (fun s hs => by
        obtain ⟨z, m11, m12, m13⟩ := s
        obtain ⟨t, hte, rfl, rfl, hrl, rfl⟩ := hs
        simp only at hrl
        have hok := simW_ok hj len ws t
        have hw : IntKind.i64.wrap ((t : Int) + 1) = ((t + 1 : Nat) : Int) := by rw [wrap64_small (by omega) (by omega)]; rfl
        by_cases hlt : t < en
        · left
          have hlt' : (t : Int) < (en : Int) := by omega
          have hrx : m12[t]? = some (m12[t]'(by omega)) := List.getElem?_eq_getElem _
          have hrx2 : (m12.set t (-1))[t]? = some (-1) := by rw [List.getElem?_set, if_pos rfl, if_pos (by omega)]
          have hst : simW jobs len ws (t + 1) = tickW jobs len ws t (simW jobs len ws t) := rfl
          simp only [modes_hosted.r3, if_pos hlt', if_pos (show (0 : Int) ≤ (t : Int) by omega), Int.toNat_natCast, hrx, hrx2, hw, Open_eq hc t K (by omega), decide_eq_true_eq]
          by_cases ho : opensAt len ws t = 1
          · rw [if_pos ho, First_eqW 1 (.inl rfl) jobs _ (t : Int) hok.left K (by omega)]
            rcases firstR jobs (simW jobs len ws t).1 (t : Int) hok.left with ⟨h1, _⟩ | ⟨b, y, h1, h2, h3, h4, _⟩
            · simp only [h1]
              rw [if_pos (by omega)]
              have ht : tickW jobs len ws t (simW jobs len ws t) = simW jobs len ws t := by
                unfold tickW; rw [if_pos ho]; simp only [h1]; rw [if_pos (by omega)]
              refine ⟨_, rfl, ⟨t + 1, by omega, rfl, ?_, by simp [hrl], ?_⟩, by simp only; omega⟩ <;> rw [hst, ht]
            · have hb := lt_of_get h2
              have hbl : b < (simW jobs len ws t).1.length := by rw [hok.left]; exact hb
              have hbe : b < (simW jobs len ws t).2.length := by rw [hok.ends]; exact hb
              have k1 := hok.each b hb
              have g2 : ((simW jobs len ws t).1.set b ((simW jobs len ws t).1.getD b 0 - 1))[b]? = some ((simW jobs len ws t).1.getD b 0 - 1) := by simp [hbl]
              simp only [h1]
              rw [if_neg (by omega), if_pos (by omega)]
              simp only [Int.toNat_natCast, get_of_lt hbl]
              rw [wrap64_small (n := (simW jobs len ws t).1.getD b 0 - 1) (by omega) (by omega)]
              simp only [g2]
              have ht : tickW jobs len ws t (simW jobs len ws t) = ((simW jobs len ws t).1.set b ((simW jobs len ws t).1.getD b 0 - 1), if (simW jobs len ws t).1.getD b 0 - 1 = 0 then (simW jobs len ws t).2.set b ((t : Int) + 1) else (simW jobs len ws t).2) := by
                unfold tickW; rw [if_pos ho]; simp only [h1, Int.toNat_natCast]; rw [if_neg (by omega)]
              by_cases hs2 : (simW jobs len ws t).1.getD b 0 - 1 = 0
              · rw [if_pos hs2, get_of_lt hbe]
                rw [if_pos hs2] at ht
                refine ⟨_, rfl, ⟨t + 1, by omega, rfl, ?_, by simp [hrl], ?_⟩, by simp only; omega⟩ <;> (rw [hst, ht] <;> rfl)
              · rw [if_neg hs2]
                rw [if_neg hs2] at ht
                refine ⟨_, rfl, ⟨t + 1, by omega, rfl, ?_, by simp [hrl], ?_⟩, by simp only; omega⟩ <;> rw [hst, ht]
          · rw [if_neg ho]
            have ht : tickW jobs len ws t (simW jobs len ws t) = simW jobs len ws t := by
              unfold tickW; rw [if_neg ho]
            refine ⟨_, rfl, ⟨t + 1, by omega, rfl, ?_, by simp [hrl], ?_⟩, by simp only; omega⟩ <;> rw [hst, ht]
        · right
          obtain rfl : t = en := by omega
          refine ⟨_, by simp only [modes_hosted.r3]; rw [if_neg (by omega)], m12, rfl⟩) K (0, jobs.map (·.C), List.replicate en 0, List.replicate jobs.length (-1)) ⟨0, Nat.zero_le _, rfl, rfl, by simp, rfl⟩ (by simp only; omega)
    rw [hr1]
    exact ⟨runs, rfl⟩
  · left
    rw [if_neg hc]
    exact ⟨hc, rfl⟩

theorem keepsW {l0 : List STask} {l1 : List SCome} {l2 l3 : List Int} (h : JobsOk l0 l1 l2 l3) {len : Int} {ws : List SWindow} (hfr : FrameOk len ws) {j : Nat} {c : SCome} {t : STask} {a b : Int} (hJ : JobAt l0 l1 l2 l3 j c t a b) (hDT : t.D ≤ t.T) {wi : Int} (hw1 : 1 ≤ wi) (hw2 : wi ≤ t.D - t.J) (hneed : dem t 0 (aboveOf l0 c.Task.toNat) wi ≤ leastTo len ws wi ws.length) (e : Nat) (he : c.At + t.D ≤ e) :
    1 ≤ endW (jobsTill l0 l1 l2 l3 l1.length) len ws e j ∧ endW (jobsTill l0 l1 l2 l3 l1.length) len ws e j ≤ c.At + (wi + t.J) := by
  obtain ⟨w, rfl⟩ := Int.eq_ofNat_of_zero_le (show 0 ≤ wi by omega)
  have hjl := lt_of_get hJ.come
  have hok := h.okj
  have hlev := simW_level hok len ws t.P
  rw [jobsTill_len] at hlev
  haveI : DecidablePred (fun (j : Nat) => ∃ e : SJob, (jobsTill l0 l1 l2 l3 l1.length)[j]? = some e ∧ t.P ≤ e.P) := fun _ => Classical.propDecidable _
  have hdone := hlev.done w (by omega) (fun t0 => by
    have h1 := h.demand hJ.task w (by omega) (by omega) (fun (j : Nat) => ∃ e : SJob, (jobsTill l0 l1 l2 l3 l1.length)[j]? = some e ∧ t.P ≤ e.P) (fun j' c' t' a' b' hJ' ⟨e', he', hP'⟩ => by
      rw [hJ'.job] at he'
      cases he'
      exact hP') t0
    have h2 := leastTo_all hfr w t0
    have h3 : ∀ m : Nat, sumN (fun s => 1 - opensAt len ws (t0 + s)) m = m - sumN (fun s => opensAt len ws (t0 + s)) m := by
      intro m
      induction m with
      | zero => rfl
      | succ m ih => simp only [sumN]; rw [ih]; omega
    have h4 := h3 w
    omega) (k := j) hjl ⟨_, hJ.job, Int.le_refl _⟩
  rw [atN_some hJ.job] at hdone
  have hA := hJ.at_; have ha := hJ.a
  simp only at hdone
  have hend := (simW_ticks hok len ws).done (j := j) (by rw [jobsTill_len]; exact hjl) hdone (t := e) (by omega)
  omega
theorem WindowsKeep_law (l0 : List STask) (x1 : Int) (l2 : List SWindow) (l3 : List SCome) (l4 l5 : List Int) (ok0 : ∀ y ∈ l0, Ok.ok y) (ok1 : In64 x1) (ok2 : ∀ y ∈ l2, Ok.ok y) (ok3 : ∀ y ∈ l3, Ok.ok y) (ok4 : ∀ y ∈ l4, Ok.ok y) (ok5 : ∀ y ∈ l5, Ok.ok y) : ∃ K, WindowsKeep.f K l0 x1 l2 l3 l4 l5 = some true := by
  refine ⟨18446744073709551616, ?_⟩
  have ha : opens.f 18446744073709551616 = some true := by kernel_rfl
  unfold WindowsKeep.f
  simp only [ha, if_true]
  generalize hKd : 18446744073709551616 = K
  have hK : 20100 ≤ K := by omega
  clear hKd ha
  by_cases hf : few.f (l0.length : Int) = true ∧ few.f (l3.length : Int) = true ∧ few.f (l2.length : Int) = true
  · obtain ⟨f0, f1, f2⟩ := hf
    have hp0 : WindowsKeep.p0 l0 l2 l3 = some (.inl ()) := by unfold WindowsKeep.p0; rw [if_pos f0, if_pos f1, if_pos f2]
    simp only [hp0, Jobs_eq0 l0 l3 l4 l5 K (by omega)]
    by_cases hj : (jobsOf l0 l3 l4 l5).2.Code = 0
    · rw [if_pos hj]
      have h := jobsOf_ok hj
      obtain ⟨e, he, hlast⟩ := lasts_eq l0 l3 l4 l5 h K (by omega)
      rw [he]
      simp only
      by_cases he0 : e < 0
      · rw [if_pos he0]
      · rw [if_neg he0]
        obtain ⟨h3000, h300, hlast⟩ := hlast (by omega)
        obtain ⟨en, rfl⟩ := Int.eq_ofNat_of_zero_le (show 0 ≤ e by omega)
        have hok := h.okj
        have hpf := playFault_of (l := jobsTill l0 l3 l4 l5 l3.length) (by rw [jobsTill_len]; omega) hok
        rw [h.eq]
        simp only
        rcases Hosted_eq (jobsTill l0 l3 l4 l5 l3.length) hpf x1 l2 en (by omega) K (by omega) with ⟨hbad, hq⟩ | ⟨hgood, runs, hq⟩
        · rw [hq]
          simp only
          rw [if_neg hbad, CheckFrame_eq x1 l2 ok2 K (by omega)]
          simp [hbad]
        · rw [hq]
          obtain ⟨_, hfr⟩ := frameFault_ok hgood
          have hsim := simW_ok hok x1 l2 en
          have hel : (simW (jobsTill l0 l3 l4 l5 l3.length) x1 l2 en).2.length = l3.length := by rw [hsim.ends, jobsTill_len]
          simp only [if_true, hel]
          have hget : ∀ j, j < l3.length → (simW (jobsTill l0 l3 l4 l5 l3.length) x1 l2 en).2[j]? = some (endW (jobsTill l0 l3 l4 l5 l3.length) x1 l2 en j) := fun j hj => get_of_lt (by rw [hel]; exact hj)
          have hr2 := iter_first0 (ρ := Bool) (τ := Unit) (f := WindowsKeep.r1 K l0 x1 l2 l3 (jobsTill l0 l3 l4 l5 l3.length, ⟨0, 0⟩) (⟨runs, (simW (jobsTill l0 l3 l4 l5 l3.length) x1 l2 en).2⟩, ⟨0, 0⟩)) (fun _ => none) l0.length (t := ()) (fun i hi => by
            have hi' : (i : Int) < (l0.length : Int) := by omega
            have hx : l0[i]? = some l0[i] := List.getElem?_eq_getElem hi
            obtain ⟨n, f, hwq, hwf⟩ := Within_eq l0 i l0[i] hx x1 l2 K hK
            simp only [WindowsKeep.r1, if_pos hi', hwq]
            by_cases hc : f.Code = 0
            · rw [if_pos hc]
              obtain ⟨hff, _, w, hw1, hw2, hw3, hn⟩ := hwf hc
              have hDT := (fixedFault_ok hff).2.2 _ (List.getElem_mem hi)
              have hr3 := iter_first0 (ρ := Bool) (τ := Unit) (f := WindowsKeep.r2 l3 (⟨runs, (simW (jobsTill l0 l3 l4 l5 l3.length) x1 l2 en).2⟩, ⟨0, 0⟩) i (n, f)) (fun _ => none) l3.length (t := ()) (fun j hj => by
                have hj' : (j : Int) < (l3.length : Int) := by omega
                obtain ⟨c, t, a, b, hJ⟩ := h.at hj
                simp only [WindowsKeep.r2, if_pos hj', hJ.come]
                by_cases hci : c.Task = (i : Int)
                · rw [if_pos hci, hget j hj]
                  have ht := hJ.task
                  have hin : c.Task.toNat = i := by omega
                  rw [hin, hx] at ht
                  cases ht
                  have hk := keepsW h hfr hJ hDT hw1 hw2 (by rw [hin]; exact hw3) en (hlast j c _ hJ.come hJ.task)
                  have hA := hJ.at_; have hD := hJ.ok.D; have hJ2 := hJ.ok.J
                  simp only [hn]
                  rw [if_neg (by omega), wrap64_small (by omega) (by omega), if_neg (by omega)]
                  rfl
                · rw [if_neg hci]; rfl) (by simp [WindowsKeep.r2]) (K := K) (by omega)
              rw [hr3, firstOf_none_of (fun _ _ _ => rfl)]
              rfl
            · rw [if_neg hc]; rfl) (by simp [WindowsKeep.r1]) (K := K) (by have := few_true f0; omega)
          rw [hr2, firstOf_none_of (fun _ _ _ => rfl)]
          rfl
    · rw [if_neg hj]
  · have hp0 : WindowsKeep.p0 l0 l2 l3 = some (.inr true) := by
      unfold WindowsKeep.p0
      repeat' split
      all_goals first | rfl | (exfalso; exact hf ⟨by assumption, by assumption, by assumption⟩)
    simp only [hp0]

end Go.Proofs.Ytlcndfafkegjgaa.GV
