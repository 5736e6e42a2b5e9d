/- Plain words: GvLWindowsPlay. -/
import Derived.Test.YtcogbnkioobmkaaDoorGWWindowsPlay5
import Derived.Test.YtcogbnkioobmkaaDoorGv17
namespace Go.Proofs.YtcogbnkioobmkaaDoor.GV
open Go Go.RowKit
set_option linter.unusedVariables false
set_option linter.unusedSimpArgs false
theorem SFault.eqb_self (x : SFault) : SFault.eqb x x = true := by simp [SFault.eqb]
theorem SWindow.eqb_self (x : SWindow) : SWindow.eqb x x = true := by simp [SWindow.eqb]
theorem STask.eqb_self (x : STask) : STask.eqb x x = true := by simp [STask.eqb]
theorem SJob.eqb_self (x : SJob) : SJob.eqb x x = true := by simp [SJob.eqb]
theorem A6Int.eqb_self (x : A6Int) : A6Int.eqb x x = true := by simp [A6Int.eqb]
theorem punctualsame_Lend_api_Task_some (l : List STask) (a : STask) (h : l.length ≤ 5000) : ∃ r, punctualsame_Lend_api_Task.f l a = some r := by
  have hw : IntKind.i64.wrap ((l.length : Int) + 3) = (l.length : Int) + 3 := wrap64_small (by omega) (by omega)
  unfold punctualsame_Lend_api_Task.f
  rw [hw, if_pos (by omega), if_pos (by omega), if_pos (by simp; omega), if_pos (by simp; omega)]
  exact ⟨_, rfl⟩
theorem punctualsame_Lend_api_Window_some (l : List SWindow) (a : SWindow) (h : l.length ≤ 5000) : ∃ r, punctualsame_Lend_api_Window.f l a = some r := by
  have hw : IntKind.i64.wrap ((l.length : Int) + 3) = (l.length : Int) + 3 := wrap64_small (by omega) (by omega)
  unfold punctualsame_Lend_api_Window.f
  rw [hw, if_pos (by omega), if_pos (by omega), if_pos (by simp; omega), if_pos (by simp; omega)]
  exact ⟨_, rfl⟩
theorem punctualsame_Lend_api_Job_some (l : List SJob) (a : SJob) (h : l.length ≤ 5000) : ∃ r, punctualsame_Lend_api_Job.f l a = some r := by
  have hw : IntKind.i64.wrap ((l.length : Int) + 3) = (l.length : Int) + 3 := wrap64_small (by omega) (by omega)
  unfold punctualsame_Lend_api_Job.f
  rw [hw, if_pos (by omega), if_pos (by omega), if_pos (by simp; omega), if_pos (by simp; omega)]
  exact ⟨_, rfl⟩
theorem punctualsame_Still_api_Task_true (l : List STask) (a : STask) (K : Nat) (hl : l.length ≤ 5000) (hK : 5010 ≤ K) : punctualsame_Still_api_Task.f K (l ++ [a, a, a]) l a = some true := by
  have hw : IntKind.i64.wrap ((l.length : Int) + 3) = (l.length : Int) + 3 := wrap64_small (by omega) (by omega)
  have hr := iter_first0 (f := punctualsame_Still_api_Task.r0 (l ++ [a, a, a]) l a) (fun _ => none) (l.length + 3) (t := ()) (fun i hi => by
    have h' : (i : Int) < ((l ++ [a, a, a] : List STask).length : Int) := by simp; omega
    simp only [punctualsame_Still_api_Task.r0, if_pos h']
    by_cases h2 : i < l.length
    · have h2' : (i : Int) < (l.length : Int) := by omega
      have h3 : ¬ (i : Int) ≥ (l.length : Int) := by omega
      rw [List.getElem?_append_left h2, List.getElem?_eq_getElem h2]
      simp only [if_pos h2', STask.eqb_self, if_true, if_neg h3, onward]
    · have h2' : ¬ (i : Int) < (l.length : Int) := by omega
      have h3 : (i : Int) ≥ (l.length : Int) := by omega
      rw [List.getElem?_append_right (by omega)]
      have : i - l.length = 0 ∨ i - l.length = 1 ∨ i - l.length = 2 := by omega
      rcases this with e | e | e <;> simp [e, h2', h3, onward, STask.eqb_self]) (by
    have h' : ¬ ((l.length + 3 : Nat) : Int) < ((l ++ [a, a, a] : List STask).length : Int) := by simp
    simp only [punctualsame_Still_api_Task.r0, if_neg h']) (K := K) (by omega)
  rw [firstOf_none_of (fun _ _ _ => rfl)] at hr
  have hlen : IntKind.i64.wrap ((l.length : Int) + 3) = ((l ++ [a, a, a] : List STask).length : Int) := by rw [hw]; simp
  simp only [punctualsame_Still_api_Task.f, if_pos hlen, hr, leave]
theorem punctualsame_Still_api_Window_true (l : List SWindow) (a : SWindow) (K : Nat) (hl : l.length ≤ 5000) (hK : 5010 ≤ K) : punctualsame_Still_api_Window.f K (l ++ [a, a, a]) l a = some true := by
  have hw : IntKind.i64.wrap ((l.length : Int) + 3) = (l.length : Int) + 3 := wrap64_small (by omega) (by omega)
  have hr := iter_first0 (f := punctualsame_Still_api_Window.r0 (l ++ [a, a, a]) l a) (fun _ => none) (l.length + 3) (t := ()) (fun i hi => by
    have h' : (i : Int) < ((l ++ [a, a, a] : List SWindow).length : Int) := by simp; omega
    simp only [punctualsame_Still_api_Window.r0, if_pos h']
    by_cases h2 : i < l.length
    · have h2' : (i : Int) < (l.length : Int) := by omega
      have h3 : ¬ (i : Int) ≥ (l.length : Int) := by omega
      rw [List.getElem?_append_left h2, List.getElem?_eq_getElem h2]
      simp only [if_pos h2', SWindow.eqb_self, if_true, if_neg h3, onward]
    · have h2' : ¬ (i : Int) < (l.length : Int) := by omega
      have h3 : (i : Int) ≥ (l.length : Int) := by omega
      rw [List.getElem?_append_right (by omega)]
      have : i - l.length = 0 ∨ i - l.length = 1 ∨ i - l.length = 2 := by omega
      rcases this with e | e | e <;> simp [e, h2', h3, onward, SWindow.eqb_self]) (by
    have h' : ¬ ((l.length + 3 : Nat) : Int) < ((l ++ [a, a, a] : List SWindow).length : Int) := by simp
    simp only [punctualsame_Still_api_Window.r0, if_neg h']) (K := K) (by omega)
  rw [firstOf_none_of (fun _ _ _ => rfl)] at hr
  have hlen : IntKind.i64.wrap ((l.length : Int) + 3) = ((l ++ [a, a, a] : List SWindow).length : Int) := by rw [hw]; simp
  simp only [punctualsame_Still_api_Window.f, if_pos hlen, hr, leave]
theorem punctualsame_Still_api_Job_true (l : List SJob) (a : SJob) (K : Nat) (hl : l.length ≤ 5000) (hK : 5010 ≤ K) : punctualsame_Still_api_Job.f K (l ++ [a, a, a]) l a = some true := by
  have hw : IntKind.i64.wrap ((l.length : Int) + 3) = (l.length : Int) + 3 := wrap64_small (by omega) (by omega)
  have hr := iter_first0 (f := punctualsame_Still_api_Job.r0 (l ++ [a, a, a]) l a) (fun _ => none) (l.length + 3) (t := ()) (fun i hi => by
    have h' : (i : Int) < ((l ++ [a, a, a] : List SJob).length : Int) := by simp; omega
    simp only [punctualsame_Still_api_Job.r0, if_pos h']
    by_cases h2 : i < l.length
    · have h2' : (i : Int) < (l.length : Int) := by omega
      have h3 : ¬ (i : Int) ≥ (l.length : Int) := by omega
      rw [List.getElem?_append_left h2, List.getElem?_eq_getElem h2]
      simp only [if_pos h2', SJob.eqb_self, if_true, if_neg h3, onward]
    · have h2' : ¬ (i : Int) < (l.length : Int) := by omega
      have h3 : (i : Int) ≥ (l.length : Int) := by omega
      rw [List.getElem?_append_right (by omega)]
      have : i - l.length = 0 ∨ i - l.length = 1 ∨ i - l.length = 2 := by omega
      rcases this with e | e | e <;> simp [e, h2', h3, onward, SJob.eqb_self]) (by
    have h' : ¬ ((l.length + 3 : Nat) : Int) < ((l ++ [a, a, a] : List SJob).length : Int) := by simp
    simp only [punctualsame_Still_api_Job.r0, if_neg h']) (K := K) (by omega)
  rw [firstOf_none_of (fun _ _ _ => rfl)] at hr
  have hlen : IntKind.i64.wrap ((l.length : Int) + 3) = ((l ++ [a, a, a] : List SJob).length : Int) := by rw [hw]; simp
  simp only [punctualsame_Still_api_Job.f, if_pos hlen, hr, leave]
theorem punctualsame_Same_int_self (l : List Int) (K : Nat) (hK : l.length < K) : punctualsame_Same_int.f K l l = some true := by
  have hr := iter_first0 (f := punctualsame_Same_int.r0 l l) (fun _ => none) l.length (t := ()) (fun i hi => by
    have h' : (i : Int) < (l.length : Int) := by omega
    simp only [punctualsame_Same_int.r0, if_pos h', List.getElem?_eq_getElem hi, if_true, onward]) (by
    have h' : ¬ (l.length : Int) < (l.length : Int) := by omega
    simp only [punctualsame_Same_int.r0, if_neg h']) hK
  rw [firstOf_none_of (fun _ _ _ => rfl)] at hr
  simp only [punctualsame_Same_int.f, if_true, hr, leave]
theorem few_true {n : Nat} (h : few.f (n : Int) = true) : n ≤ 5000 := by
  simp only [few.f, decide_eq_true_eq] at h; omega
def letterAt (x : ByteArray) (i : Nat) : Bool := match x[i]? with | some b => decide (97 ≤ b.toNat) && decide (b.toNat ≤ 122) | none => false
def allL (x : ByteArray) (n : Nat) : Bool := (List.range n).all (letterAt x)
theorem allL_succ (x : ByteArray) (n : Nat) : allL x (n + 1) = (allL x n && letterAt x n) := by simp [allL, List.range_succ]
theorem allL_iff {x : ByteArray} {n : Nat} : allL x n = true ↔ ∀ i, i < n → letterAt x i = true := by simp [allL]
def Good (x : ByteArray) : Prop := 1 ≤ x.size ∧ x.size ≤ 10 ∧ allL x x.size = true
instance (x : ByteArray) : Decidable (Good x) := by unfold Good; infer_instance
theorem get!_of {x : ByteArray} {i : Nat} {b : UInt8} (h : x[i]? = some b) : x.get! i = b := by
  have hi : i < x.size := by
    rcases Nat.lt_or_ge i x.size with h' | h'
    · exact h'
    · rw [getElem?_neg x i (by omega)] at h; cases h
  rw [getElem?_pos x i hi] at h
  have := Option.some.inj h
  rw [← this]
  cases x with
  | mk bs => exact getElem!_pos bs i hi
theorem byte_some {x : ByteArray} {i : Nat} (h : i < x.size) : ∃ b, x[i]? = some b := ⟨x[i], getElem?_pos x i h⟩
theorem decode_letter {x : ByteArray} {i : Nat} (hi : i < x.size) (h : letterAt x i = true) : ∃ n : Nat, Utf8.decode x i = (n, 1) ∧ 97 ≤ n ∧ n ≤ 122 := by
  obtain ⟨b, hb⟩ := byte_some hi
  simp only [letterAt, hb, Bool.and_eq_true, decide_eq_true_eq] at h
  refine ⟨b.toNat, ?_, h⟩
  have := get!_of hb
  simp only [Utf8.decode, Nat.add_zero, this]
  rw [if_pos (by omega)]
theorem decode_other {x : ByteArray} {i : Nat} (hi : i < x.size) (h : letterAt x i = false) : (Utf8.decode x i).1 < 97 ∨ 122 < (Utf8.decode x i).1 := by
  obtain ⟨b, hb⟩ := byte_some hi
  simp only [letterAt, hb, Bool.and_eq_false_iff, decide_eq_false_iff_not] at h
  have := get!_of hb
  simp only [Utf8.decode, Nat.add_zero, this]
  have he : Utf8.runeError = 65533 := rfl
  repeat' split
  all_goals simp only [he, Bool.and_eq_true, decide_eq_true_eq, ge_iff_le] at *
  all_goals omega
theorem isName_eq (x : ByteArray) (K : Nat) (hK : 12 ≤ K) : tasks_isName.f K x = some (decide (Good x)) := by
  unfold tasks_isName.f
  by_cases h1 : (x.size : Int) < 1
  · rw [if_pos h1]; congr 1; symm; rw [decide_eq_false_iff_not]; intro h; have := h.1; omega
  rw [if_neg h1]
  by_cases h2 : (x.size : Int) > 10
  · rw [if_pos h2]; congr 1; symm; rw [decide_eq_false_iff_not]; intro h; have := h.2.1; omega
  rw [if_neg h2]
  have hr := iter_first0 (f := tasks_isName.r0 x) (fun i => if letterAt x i = true then none else some false) x.size (t := ()) (fun i hi => by
    simp only [tasks_isName.r0, if_pos hi]
    by_cases h : letterAt x i = true
    · obtain ⟨n, hd, ha, hb⟩ := decode_letter hi h
      simp only [hd, h, if_true]
      rw [if_neg (by omega), if_neg (by omega)]; rfl
    · simp only [h]
      rcases decode_other hi (by simpa using h) with h | h
      · rw [if_pos (by omega)]; simp [onward]
      · rw [if_neg (by omega), if_pos (by omega)]; simp [onward]) (by simp [tasks_isName.r0]) (K := K) (by omega)
  rw [hr]
  cases hf : firstOf (fun i => if letterAt x i = true then none else some false) x.size 0 with
  | none =>
    show some true = some _
    congr 1; symm
    rw [decide_eq_true_eq]
    refine ⟨by omega, by omega, allL_iff.2 fun i hi => ?_⟩
    have := firstOf_none hf i (Nat.zero_le _) hi
    split at this
    · assumption
    · cases this
  | some r =>
    obtain ⟨j, _, hj, hg, _⟩ := firstOf_some hf
    split at hg
    · cases hg
    · rename_i hn
      cases hg
      show some false = some _
      congr 1; symm
      rw [decide_eq_false_iff_not]
      intro h
      exact hn (allL_iff.1 h.2.2 j hj)
theorem refName_eq (e : STask) (hs : Ok.ok e) (K : Nat) (hK : e.Name.size < K) : ∃ q, punctualref_CheckSet.p2 e = some (.inl q) ∧ iter (punctualref_CheckSet.r3 e) K (q, 0) = some (.inl (decide (Good e.Name))) := by
  have hsm : e.Name.size ≤ 9223372036854775807 := hs.1
  have key : ∀ q : Bool, iter (punctualref_CheckSet.r3 e) K (q, 0) = some (.inl (q && allL e.Name e.Name.size)) := by
    intro q
    obtain ⟨r, hr, hR⟩ := iter_total (f := punctualref_CheckSet.r3 e) (fun s => 0 ≤ s.2 ∧ s.2 ≤ e.Name.size ∧ s.1 = (q && allL e.Name s.2.toNat)) (fun s => e.Name.size - s.2.toNat)
      (fun r => r = .inl (q && allL e.Name e.Name.size)) (fun s hI => by
        obtain ⟨p, z⟩ := s
        obtain ⟨h1, h2, h3⟩ := hI
        simp only at h1 h2 h3
        obtain ⟨n, rfl⟩ := Int.eq_ofNat_of_zero_le h1
        by_cases hz : (n : Int) < (e.Name.size : Int)
        · left
          have hn : n < e.Name.size := by omega
          obtain ⟨b, hb⟩ := byte_some hn
          have hw : IntKind.i64.wrap ((n : Int) + 1) = ((n + 1 : Nat) : Int) := by rw [wrap64_small (by omega) (by omega)]; rfl
          have hstep : punctualref_CheckSet.r3 e (p, (n : Int)) = some (.inl (p && letterAt e.Name n, ((n + 1 : Nat) : Int))) := by
            simp only [punctualref_CheckSet.r3, if_pos hz, hw, Int.toNat_natCast, hb, letterAt, if_pos h1]
            cases p with
            | false => simp
            | true =>
              simp only [if_true, Bool.true_and]
              by_cases ha : (b.toNat : Int) ≥ 97
              · rw [if_pos ha]
                have : (97 ≤ b.toNat) := by omega
                simp only [this, decide_true, Bool.true_and, Option.some.injEq, Sum.inl.injEq, Prod.mk.injEq, and_true]
                rw [Bool.eq_iff_iff, decide_eq_true_eq, decide_eq_true_eq]
                omega
              · rw [if_neg ha]
                have : ¬ (97 ≤ b.toNat) := by omega
                simp [this]
          refine ⟨_, hstep, ⟨by simp only; omega, by simp only; omega, ?_⟩, by simp only; omega⟩
          simp only [h3, Int.toNat_natCast]
          rw [allL_succ, Bool.and_assoc]
        · right
          obtain rfl : n = e.Name.size := by omega
          refine ⟨.inl p, by simp only [punctualref_CheckSet.r3, if_neg hz], ?_⟩
          rw [h3]
          rfl) K (q, 0) ⟨by simp, by simp, by simp [allL]⟩ (by simpa using hK)
    rw [hr, hR]
  unfold punctualref_CheckSet.p2
  by_cases h1 : (e.Name.size : Int) ≥ 1
  · rw [if_pos h1]
    refine ⟨_, rfl, ?_⟩
    rw [key]
    congr 2
    rw [Bool.eq_iff_iff]
    rw [Bool.and_eq_true, decide_eq_true_eq, decide_eq_true_eq]
    constructor
    · rintro ⟨ha, hb⟩; exact ⟨by omega, by omega, hb⟩
    · rintro ⟨ha, hb, hc⟩; exact ⟨by omega, hc⟩
  · rw [if_neg h1]
    refine ⟨_, rfl, ?_⟩
    rw [key]
    congr 2
    rw [Bool.false_and, eq_comm, decide_eq_false_iff_not]
    intro h; have := h.1; omega
def dupAt (l : List STask) (i : Nat) (t : STask) : Prop := ∃ j e, j < i ∧ l[j]? = some e ∧ e.Name.toList = t.Name.toList
noncomputable instance (l : List STask) (i : Nat) (t : STask) : Decidable (dupAt l i t) := Classical.propDecidable _
theorem takedrop {α : Type} (l : List α) (i : Nat) : (l.take i).drop 0 = l.take i := by simp
theorem contains_eq (l : List STask) (i : Nat) (hi : i < l.length) (t : STask) (K : Nat) (hK : i < K) : slices_ContainsFunc_api_Task_api_Task.f K ((l.take i).drop 0) t = some (decide (dupAt l i t)) := by
  rw [takedrop]
  have hlen : (l.take i).length = i := by simp; omega
  let g : Nat → Option Int := fun j => match l[j]? with | some e => if e.Name.toList = t.Name.toList then some (j : Int) else none | none => none
  have hr := iter_first0 (f := slices_IndexFunc_api_Task_api_Task.r0 (l.take i) t) g i (t := ()) (fun j hj => by
    have hj' : (j : Int) < ((l.take i).length : Int) := by omega
    have hjl : j < l.length := by omega
    simp only [slices_IndexFunc_api_Task_api_Task.r0, if_pos hj', List.getElem?_take, if_pos hj, List.getElem?_eq_getElem hjl, g, tasks_Check_1.f, beq_iff_eq]
    split <;> rfl) (by
    have : ¬ (i : Int) < ((l.take i).length : Int) := by omega
    simp only [slices_IndexFunc_api_Task_api_Task.r0, if_neg this]) (K := K) hK
  unfold slices_ContainsFunc_api_Task_api_Task.f slices_IndexFunc_api_Task_api_Task.f
  rw [hr]
  cases hf : firstOf g i 0 with
  | none =>
    show some (decide ((-1 : Int) ≥ 0)) = _
    congr 1
    have : ¬ dupAt l i t := by
      rintro ⟨j, e, hj, he, hn⟩
      have := firstOf_none hf j (Nat.zero_le _) hj
      simp only [g, he, if_pos hn] at this
      cases this
    simp [this]
  | some r =>
    show some (decide (r ≥ 0)) = _
    obtain ⟨j, _, hj, hg, _⟩ := firstOf_some hf
    have hjl : j < l.length := by omega
    simp only [g, List.getElem?_eq_getElem hjl] at hg
    split at hg
    · rename_i hn
      cases hg
      have : dupAt l i t := ⟨j, l[j], hj, List.getElem?_eq_getElem hjl, hn⟩
      simp [this]
    · cases hg
theorem refDup_eq (l : List STask) (i : Nat) (hi : i < l.length) (t : STask) (K : Nat) (hK : i < K) : iter (punctualref_CheckSet.r4 l i t) K 0 = some (if dupAt l i t then .inr ⟨5, (i : Int)⟩ else .inl ()) := by
  have hlen : ((l.take i).drop 0).length = i := by simp; omega
  let g : Nat → Option SFault := fun j => match l[j]? with | some e => if e.Name.toList = t.Name.toList then some ⟨5, (i : Int)⟩ else none | none => none
  have hr := iter_first0 (f := punctualref_CheckSet.r4 l i t) g i (t := ()) (fun j hj => by
    have hj' : (j : Int) < (((l.take i).drop 0).length : Int) := by omega
    have hjl : j < l.length := by omega
    simp only [punctualref_CheckSet.r4, if_pos hj']
    rw [takedrop]
    simp only [List.getElem?_take, if_pos hj, List.getElem?_eq_getElem hjl, g, punctualref_F.f]
    split <;> rfl) (by
    have : ¬ (i : Int) < (((l.take i).drop 0).length : Int) := by omega
    simp only [punctualref_CheckSet.r4, if_neg this]) (K := K) hK
  rw [hr]
  cases hf : firstOf g i 0 with
  | none =>
    have : ¬ dupAt l i t := by
      rintro ⟨j, e, hj, he, hn⟩
      have := firstOf_none hf j (Nat.zero_le _) hj
      simp only [g, he, if_pos hn] at this
      cases this
    simp [this, leave]
  | some r =>
    obtain ⟨j, _, hj, hg, _⟩ := firstOf_some hf
    have hjl : j < l.length := by omega
    simp only [g, List.getElem?_eq_getElem hjl] at hg
    split at hg
    · rename_i hn
      cases hg
      have : dupAt l i t := ⟨j, l[j], hj, List.getElem?_eq_getElem hjl, hn⟩
      simp [this, leave]
    · cases hg
theorem iter_succ {σ ρ : Type} (f : σ → Option (σ ⊕ ρ)) (K : Nat) (s : σ) : iter f (K + 1) s = match f s with | none => none | some (.inl s') => iter f K s' | some (.inr r) => some r := rfl
def rangeAt (i : Nat) (t : STask) (j : Nat) : Option SFault :=
  match ([t.C, t.T, t.D, t.J, t.O, t.P] : List Int)[j]? with
  | none => none
  | some v => match ([1, 1, 1, 0, 0, 0] : List Int)[j]? with
    | none => none
    | some a => if v < a then some ⟨3, (i : Int)⟩ else match ([10000, 10000, 10000, 10000, 10000, 1000] : List Int)[j]? with
      | none => none
      | some b => if v > b then some ⟨3, (i : Int)⟩ else none
theorem range_eq (i : Nat) (t : STask) (K : Nat) (hK : 7 ≤ K) : iter (tasks_Check.r2 i t) K 0 = some (leave () (firstOf (rangeAt i t) 6 0)) := by
  refine iter_first0 (f := tasks_Check.r2 i t) (rangeAt i t) 6 (t := ()) (fun j hj => ?_) (by simp [tasks_Check.r2, tasks_numbers.f]) (K := K) (by omega)
  have : j = 0 ∨ j = 1 ∨ j = 2 ∨ j = 3 ∨ j = 4 ∨ j = 5 := by omega
  rcases this with rfl | rfl | rfl | rfl | rfl | rfl <;> simp [tasks_Check.r2, tasks_numbers.f, tasks_bounds.f, rangeAt] <;> (repeat' split) <;> (try simp only [onward]) <;> first | rfl | contradiction | simp_all
theorem refRange_eq (i : Nat) (t : STask) (K : Nat) (hK : 7 ≤ K) : iter (punctualref_CheckSet.r5 i t) K 0 = some (leave () (firstOf (rangeAt i t) 6 0)) := by
  refine iter_first0 (f := punctualref_CheckSet.r5 i t) (rangeAt i t) 6 (t := ()) (fun j hj => ?_) (by simp [punctualref_CheckSet.r5]) (K := K) (by omega)
  have : j = 0 ∨ j = 1 ∨ j = 2 ∨ j = 3 ∨ j = 4 ∨ j = 5 := by omega
  rcases this with rfl | rfl | rfl | rfl | rfl | rfl <;> simp [punctualref_CheckSet.r5, punctualref_sixOf.f, punctualref_F.f, rangeAt] <;> (repeat' split) <;> (try simp only [onward]) <;> first | rfl | contradiction | simp_all
noncomputable def wrongAt (l : List STask) (i : Nat) : Option SFault :=
  match l[i]? with
  | none => none
  | some t => if Good t.Name then (if dupAt l i t then some ⟨5, (i : Int)⟩ else match firstOf (rangeAt i t) 6 0 with | some r => some r | none => if t.C > t.D then some ⟨12, (i : Int)⟩ else none) else some ⟨4, (i : Int)⟩
noncomputable def setFault (l : List STask) : SFault := if 1 ≤ l.length ∧ l.length ≤ 8 then (firstOf (wrongAt l) l.length 0).getD ⟨0, 0⟩ else ⟨2, 0⟩
theorem Check_eq (l : List STask) (K : Nat) (hK : 20 ≤ K) : tasks_Check.f K l = some (setFault l) := by
  unfold tasks_Check.f tasks_Check.p0 setFault
  by_cases h1 : (l.length : Int) < 1
  · rw [if_pos h1, if_neg (by omega)]
  rw [if_neg h1]
  by_cases h2 : (l.length : Int) > 8
  · rw [if_pos h2, if_neg (by omega)]
  rw [if_neg h2, if_pos (by omega)]
  have hr := iter_first0 (f := tasks_Check.r1 K l) (wrongAt l) l.length (t := ()) (fun i hi => by
    have hi' : (i : Int) < (l.length : Int) := by omega
    have hle : i ≤ l.length := by omega
    simp only [tasks_Check.r1, if_pos hi', List.getElem?_eq_getElem hi, isName_eq _ K (by omega), contains_eq l i hi _ K (by omega), range_eq i _ K (by omega), wrongAt, if_pos hle, decide_eq_true_eq]
    by_cases hg : Good l[i].Name
    · simp only [if_pos hg]
      by_cases hd : dupAt l i l[i]
      · simp only [if_pos hd, onward]
      · simp only [if_neg hd]
        cases firstOf (rangeAt i l[i]) 6 0 with
        | some r => rfl
        | none =>
          simp only [leave]
          split <;> rfl
    · simp only [if_neg hg, onward]) (by simp [tasks_Check.r1]) (K := K) (by omega)
  simp only [hr]
  cases firstOf (wrongAt l) l.length 0 <;> rfl
theorem CheckSet_eq (l : List STask) (hl : ∀ t ∈ l, Ok.ok t) (K : Nat) (hK : 20 ≤ K) (hs : ∀ t ∈ l, t.Name.size < K) : punctualref_CheckSet.f K l = some (setFault l) := by
  unfold punctualref_CheckSet.f punctualref_CheckSet.p0 setFault
  by_cases h1 : (l.length : Int) = 0
  · rw [if_pos h1, if_neg (by omega)]; rfl
  rw [if_neg h1]
  by_cases h2 : (l.length : Int) > 8
  · rw [if_pos h2, if_neg (by omega)]; rfl
  rw [if_neg h2, if_pos (by omega)]
  have hr := iter_first0 (f := punctualref_CheckSet.r1 K l) (wrongAt l) l.length (t := ()) (fun i hi => by
    have hi' : (i : Int) < (l.length : Int) := by omega
    have hle : i ≤ l.length := by omega
    obtain ⟨q, hq1, hq2⟩ := refName_eq l[i] (hl _ (List.getElem_mem hi)) K (hs _ (List.getElem_mem hi))
    simp only [punctualref_CheckSet.r1, if_pos hi', List.getElem?_eq_getElem hi, hq1, hq2, refDup_eq l i hi _ K (by omega), refRange_eq i _ K (by omega), wrongAt, if_pos hle, decide_eq_true_eq]
    by_cases hg : Good l[i].Name
    · simp only [if_pos hg]
      by_cases hd : dupAt l i l[i]
      · simp only [if_pos hd, onward]
      · simp only [if_neg hd]
        cases firstOf (rangeAt i l[i]) 6 0 with
        | some r => rfl
        | none =>
          simp only [gt_iff_lt, leave]
          split <;> rfl
    · simp only [if_neg hg]; rfl) (by simp [punctualref_CheckSet.r1]) (K := K) (by omega)
  simp only [hr]
  cases firstOf (wrongAt l) l.length 0 <;> rfl
theorem setFault_ok {l : List STask} (h : (setFault l).Code = 0) : 1 ≤ l.length ∧ l.length ≤ 8 ∧ ∀ i t, l[i]? = some t → Good t.Name ∧ ¬ dupAt l i t ∧ (1 ≤ t.C ∧ t.C ≤ 10000) ∧ (1 ≤ t.T ∧ t.T ≤ 10000) ∧ (1 ≤ t.D ∧ t.D ≤ 10000) ∧ (0 ≤ t.J ∧ t.J ≤ 10000) ∧ (0 ≤ t.O ∧ t.O ≤ 10000) ∧ (0 ≤ t.P ∧ t.P ≤ 1000) ∧ t.C ≤ t.D := by
  unfold setFault at h
  split at h
  · rename_i hl
    refine ⟨hl.1, hl.2, fun i t ht => ?_⟩
    have hi := lt_of_get ht
    have hn : firstOf (wrongAt l) l.length 0 = none := by
      cases hf : firstOf (wrongAt l) l.length 0 with
      | none => rfl
      | some r =>
        rw [hf] at h
        obtain ⟨j, _, hj, hg, _⟩ := firstOf_some hf
        simp only [Option.getD_some] at h
        exfalso
        unfold wrongAt at hg
        rw [List.getElem?_eq_getElem hj] at hg
        simp only at hg
        split at hg
        · split at hg
          · cases hg; cases h
          · split at hg
            · rename_i r' hr'
              cases hg
              obtain ⟨q, _, hq, hg2, _⟩ := firstOf_some hr'
              unfold rangeAt at hg2
              repeat' split at hg2
              all_goals first | cases hg2; done | (cases hg2; cases h)
            · split at hg
              · cases hg; cases h
              · cases hg
        · cases hg; cases h
    have h0 := firstOf_none hn i (Nat.zero_le _) hi
    unfold wrongAt at h0
    rw [ht] at h0
    simp only at h0
    split at h0
    · rename_i hg
      split at h0
      · cases h0
      · rename_i hd
        split at h0
        · cases h0
        · rename_i hr
          split at h0
          · cases h0
          · rename_i hcd
            have hrr := firstOf_none hr
            have e0 := hrr 0 (by omega) (by omega)
            have e1 := hrr 1 (by omega) (by omega)
            have e2 := hrr 2 (by omega) (by omega)
            have e3 := hrr 3 (by omega) (by omega)
            have e4 := hrr 4 (by omega) (by omega)
            have e5 := hrr 5 (by omega) (by omega)
            simp only [rangeAt, List.getElem?_cons_zero, List.getElem?_cons_succ] at e0 e1 e2 e3 e4 e5
            refine ⟨hg, hd, ?_, ?_, ?_, ?_, ?_, ?_, by omega⟩
            · clear e1 e2 e3 e4 e5; split at e0; cases e0; split at e0; cases e0; omega
            · clear e0 e2 e3 e4 e5; split at e1; cases e1; split at e1; cases e1; omega
            · clear e1 e0 e3 e4 e5; split at e2; cases e2; split at e2; cases e2; omega
            · clear e1 e2 e0 e4 e5; split at e3; cases e3; split at e3; cases e3; omega
            · clear e1 e2 e3 e0 e5; split at e4; cases e4; split at e4; cases e4; omega
            · clear e1 e2 e3 e4 e0; split at e5; cases e5; split at e5; cases e5; omega
    · cases h0
  · cases h
structure Okt (t : STask) : Prop where
  C : 1 ≤ t.C ∧ t.C ≤ 10000
  T : 1 ≤ t.T ∧ t.T ≤ 10000
  D : 1 ≤ t.D ∧ t.D ≤ 10000
  J : 0 ≤ t.J ∧ t.J ≤ 10000
  O : 0 ≤ t.O ∧ t.O ≤ 10000
  P : 0 ≤ t.P ∧ t.P ≤ 1000
  CD : t.C ≤ t.D
theorem okt_of {l : List STask} (h : (setFault l).Code = 0) : ∀ t ∈ l, Okt t := fun t ht => by
  obtain ⟨i, hi⟩ := List.mem_iff_getElem?.1 ht
  obtain ⟨_, _, h⟩ := setFault_ok h
  obtain ⟨_, _, h1, h2, h3, h4, h5, h6, h7⟩ := h i t hi
  exact ⟨h1, h2, h3, h4, h5, h6, h7⟩
def ceilD (a b : Int) : Int := (a + b - 1) / b
theorem ceilD_mono {a a' b : Int} (hb : 1 ≤ b) (h : a ≤ a') : ceilD a b ≤ ceilD a' b := Int.ediv_le_ediv (by omega) (by omega)
theorem ceilD_nonneg {a b : Int} (hb : 1 ≤ b) (h : 0 ≤ a) : 0 ≤ ceilD a b := Int.ediv_nonneg (by omega) (by omega)
theorem ceilD_le {a b : Int} (hb : 1 ≤ b) (h : 0 ≤ a) : ceilD a b ≤ a := by
  unfold ceilD
  rw [← Int.lt_add_one_iff]
  apply Int.ediv_lt_of_lt_mul (by omega)
  have : a * 1 ≤ a * b := Int.mul_le_mul_of_nonneg_left hb h
  rw [Int.add_mul]
  omega
theorem ceil_eq {a b : Int} (ha : 0 ≤ a ∧ a ≤ 100000) (hb : 1 ≤ b ∧ b ≤ 100000) : fixed_ceil.f a b = some (ceilD a b) := by
  unfold fixed_ceil.f
  rw [if_neg (by omega), wrap64_small (n := a + b) (by omega) (by omega), wrap64_small (n := a + b - 1) (by omega) (by omega), Int.tdiv_eq_ediv_of_nonneg (by omega)]
  have h1 := ceilD_nonneg hb.1 ha.1
  have h2 := ceilD_le hb.1 ha.1
  show some (IntKind.i64.wrap (ceilD a b)) = _
  rw [wrap64_small (by omega) (by omega)]
theorem up_eq {a b : Int} (ha : 0 ≤ a ∧ a ≤ 100000) (hb : 1 ≤ b ∧ b ≤ 100000) : punctualref_up.f a b = some (ceilD a b) := by
  unfold punctualref_up.f
  rw [if_neg (by omega), Int.tdiv_eq_ediv_of_nonneg (by omega)]
  have h0 : 0 ≤ a / b := Int.ediv_nonneg ha.1 (by omega)
  have h1 : a / b ≤ a := Int.ediv_le_self b ha.1
  have h2 : a / b * b ≤ a := Int.ediv_mul_le a (by omega)
  have h2' : 0 ≤ a / b * b := Int.mul_nonneg h0 (by omega)
  rw [wrap64_small (n := a / b) (by omega) (by omega), wrap64_small (n := a / b * b) (by omega) (by omega), wrap64_small (n := a / b + 1) (by omega) (by omega)]
  have hm := Int.emod_add_mul_ediv a b
  have hm1 : 0 ≤ a % b := Int.emod_nonneg a (by omega)
  have hm2 : a % b < b := Int.emod_lt_of_pos a (by omega)
  rw [Int.mul_comm] at hm
  unfold ceilD
  by_cases h : a / b * b < a
  · rw [if_pos h]
    congr 1
    symm
    have e : a + b - 1 = (a % b - 1) + b * (a / b + 1) := by rw [Int.mul_add, Int.mul_comm b]; omega
    rw [e, Int.add_mul_ediv_left _ _ (by omega), Int.ediv_eq_zero_of_lt (by omega) (by omega)]
    omega
  · rw [if_neg h]
    congr 1
    symm
    have e : a + b - 1 = (b - 1) + b * (a / b) := by rw [Int.mul_comm b]; omega
    rw [e, Int.add_mul_ediv_left _ _ (by omega), Int.ediv_eq_zero_of_lt (by omega) (by omega)]
    omega
def wants (os : List STask) (w : Int) : Int := (os.map fun o => ceilD (w + o.J) o.T * o.C).sum
def dem (t : STask) (b : Int) (os : List STask) (w : Int) : Int := t.C + b + wants os w
theorem wants_nil (w : Int) : wants [] w = 0 := rfl
theorem wants_cons (o : STask) (os : List STask) (w : Int) : wants (o :: os) w = ceilD (w + o.J) o.T * o.C + wants os w := by simp [wants]
theorem wants_append (os ps : List STask) (w : Int) : wants (os ++ ps) w = wants os w + wants ps w := by simp [wants]
theorem want_bounds {o : STask} (ho : Okt o) {w : Int} (hw : 0 ≤ w ∧ w ≤ 10000) : 0 ≤ ceilD (w + o.J) o.T * o.C ∧ ceilD (w + o.J) o.T * o.C ≤ 200000000 := by
  have := ho.C; have := ho.T; have := ho.J
  have h1 := ceilD_nonneg (a := w + o.J) (b := o.T) (by omega) (by omega)
  have h2 := ceilD_le (a := w + o.J) (b := o.T) (by omega) (by omega)
  refine ⟨Int.mul_nonneg h1 (by omega), ?_⟩
  calc ceilD (w + o.J) o.T * o.C ≤ 20000 * o.C := Int.mul_le_mul_of_nonneg_right (by omega) (by omega)
    _ ≤ 20000 * 10000 := Int.mul_le_mul_of_nonneg_left (by omega) (by omega)
    _ = 200000000 := by decide
theorem wants_bounds : ∀ {os : List STask}, (∀ o ∈ os, Okt o) → ∀ {w : Int}, (0 ≤ w ∧ w ≤ 10000) → 0 ≤ wants os w ∧ wants os w ≤ 200000000 * os.length
  | [], _, w, _ => by simp [wants_nil]
  | o :: os, h, w, hw => by
    have h1 := want_bounds (h o (by simp)) hw
    have h2 := wants_bounds (fun x hx => h x (List.mem_cons_of_mem _ hx)) hw
    rw [wants_cons, List.length_cons]
    omega
theorem wants_mono : ∀ {os : List STask}, (∀ o ∈ os, Okt o) → ∀ {w w' : Int}, w ≤ w' → wants os w ≤ wants os w'
  | [], _, w, w', _ => by simp [wants_nil]
  | o :: os, h, w, w', hw => by
    have ho := h o (by simp)
    have h2 := wants_mono (fun x hx => h x (List.mem_cons_of_mem _ hx)) hw
    have h1 : ceilD (w + o.J) o.T * o.C ≤ ceilD (w' + o.J) o.T * o.C := Int.mul_le_mul_of_nonneg_right (ceilD_mono ho.T.1 (by omega)) (by have := ho.C; omega)
    rw [wants_cons, wants_cons]
    omega
def settled (f : Int → Int) (most : Int) : Int := match firstOf (fun n : Nat => if f n ≤ n then some (n : Int) else none) (most.toNat + 1) 1 with
  | some n => n
  | none => 0
theorem settled_some {f : Int → Int} {most : Int} {j : Nat} (h : firstOf (fun n : Nat => if f n ≤ n then some (n : Int) else none) (most.toNat + 1) 1 = some (j : Int)) : settled f most = j := by unfold settled; rw [h]
theorem settled_none {f : Int → Int} {most : Int} (h : firstOf (fun n : Nat => if f n ≤ n then some (n : Int) else none) (most.toNat + 1) 1 = none) : settled f most = 0 := by unfold settled; rw [h]
theorem settled_pos {f : Int → Int} {most : Int} (h : settled f most ≠ 0) : 1 ≤ settled f most ∧ settled f most ≤ most ∧ f (settled f most) ≤ settled f most ∧ ∀ n : Int, 1 ≤ n → n < settled f most → n < f n := by
  cases hf : firstOf (fun n : Nat => if f n ≤ n then some (n : Int) else none) (most.toNat + 1) 1 with
  | none => exact absurd (settled_none hf) h
  | some r =>
    obtain ⟨j, h1, h2, h3, h4⟩ := firstOf_some hf
    split at h3
    · cases h3
      rw [settled_some hf]
      refine ⟨by omega, by omega, by assumption, fun n hn1 hn2 => ?_⟩
      have := h4 n.toNat (by omega) (by omega)
      have e : ((n.toNat : Nat) : Int) = n := Int.toNat_of_nonneg (by omega)
      simp only [e] at this
      split at this
      · cases this
      · omega
    · cases h3
theorem settled_zero {f : Int → Int} {most : Int} (h : settled f most = 0) : ∀ n : Int, 1 ≤ n → n ≤ most → n < f n := by
  cases hf : firstOf (fun n : Nat => if f n ≤ n then some (n : Int) else none) (most.toNat + 1) 1 with
  | some r =>
    obtain ⟨j, h1, h2, h3, h4⟩ := firstOf_some hf
    split at h3
    · cases h3; rw [settled_some hf] at h; omega
    · cases h3
  | none =>
    intro n h1 h2
    have := firstOf_none hf n.toNat (by omega) (by omega)
    have e : ((n.toNat : Nat) : Int) = n := Int.toNat_of_nonneg (by omega)
    simp only [e] at this
    split at this
    · cases this
    · omega
theorem settled_eq {f : Int → Int} {most w : Int} (h1 : 1 ≤ w) (h2 : w ≤ most) (h3 : f w ≤ w) (h4 : ∀ n : Int, 1 ≤ n → n < w → n < f n) : settled f most = w := by
  by_cases h : settled f most = 0
  · have := settled_zero h w h1 h2; omega
  · obtain ⟨g1, g2, g3, g4⟩ := settled_pos h
    rcases Int.lt_trichotomy (settled f most) w with hl | hl | hl
    · have := h4 _ g1 hl; omega
    · exact hl
    · have := g4 _ h1 hl; omega
theorem settled_eq_zero {f : Int → Int} {most : Int} (h : ∀ n : Int, 1 ≤ n → n ≤ most → n < f n) : settled f most = 0 := by
  apply Decidable.byContradiction
  intro hne
  obtain ⟨g1, g2, g3, g4⟩ := settled_pos hne
  have := h _ g1 g2
  omega
theorem demand_eq (t : STask) (b : Int) (os : List STask) (w : Int) (ht : Okt t) (hb : 0 ≤ b ∧ b ≤ 10000) (ho : ∀ o ∈ os, Okt o) (hl : os.length ≤ 8) (hw : 0 ≤ w ∧ w ≤ 10000) (K : Nat) (hK : 9 ≤ K) : fixed_response_1.f K w t b os = some (dem t b os w) := by
  unfold fixed_response_1.f
  have hC := ht.C
  have hr := iter_states (ρ := Int) (f := fixed_response_1.r0 w os) (fun i => (t.C + b + wants (os.take i) w, i)) (fun _ => none) os.length (t := dem t b os w) (fun i hi _ => by
    have hi' : (i : Int) < (os.length : Int) := by omega
    have hoi := ho os[i] (List.getElem_mem hi)
    have hT := hoi.T; have hJ := hoi.J
    have hwb := want_bounds hoi hw
    have hs := wants_bounds (os := os.take i) (fun o h => ho o (List.mem_of_mem_take h)) hw
    have hlen : (os.take i).length ≤ 8 := by simp; omega
    simp only [fixed_response_1.r0, if_pos hi', List.getElem?_eq_getElem hi]
    rw [wrap64_small (n := w + os[i].J) (by omega) (by omega), ceil_eq (by omega) (by omega)]
    simp only [onwardS]
    rw [wrap64_small (n := ceilD (w + os[i].J) os[i].T * os[i].C) (by omega) (by omega), wrap64_small (by omega) (by omega)]
    congr 3
    rw [List.take_succ_eq_append_getElem hi, wants_append, wants_cons, wants_nil]
    omega) (fun _ => by simp [fixed_response_1.r0, dem]) (K := K) (by omega)
  have h0 : t.C + b + wants (os.take 0) w = t.C + b := by simp [wants_nil]
  rw [h0] at hr
  rw [wrap64_small (by omega) (by omega), hr, firstOf_none_of (fun _ _ _ => rfl)]
  rfl
theorem dem_mono {t : STask} {b : Int} {os : List STask} (ho : ∀ o ∈ os, Okt o) {w w' : Int} (h : w ≤ w') : dem t b os w ≤ dem t b os w' := by
  have := wants_mono ho h
  unfold dem; omega
theorem settle_eq (t : STask) (b : Int) (os : List STask) (ht : Okt t) (hb : 0 ≤ b ∧ b ≤ 10000) (ho : ∀ o ∈ os, Okt o) (hl : os.length ≤ 8) (most : Int) (hm : most ≤ 10000) (K : Nat) (hK : 20100 ≤ K) : fixed_Settle.f K (t.C + b) most t b os = some (settled (dem t b os) most) := by
  unfold fixed_Settle.f
  have hC := ht.C
  obtain ⟨r, hr, hR⟩ := iter_total (f := fixed_Settle.r0 K most t b os) (fun w => t.C + b ≤ w ∧ w ≤ 1600000000 + 20000 ∧ ∀ n : Int, 1 ≤ n → n < w → n < dem t b os n) (fun w => (10001 - w).toNat)
    (fun r => r = if settled (dem t b os) most = 0 then .inl () else .inr (settled (dem t b os) most)) (fun w hI => by
      obtain ⟨h1, h2, h3⟩ := hI
      by_cases hw : w ≤ most
      · have hd := demand_eq t b os w ht hb ho hl ⟨by omega, by omega⟩ K (by omega)
        simp only [fixed_Settle.r0, if_pos hw, hd]
        by_cases hle : dem t b os w ≤ w
        · right
          have hs := settled_eq (f := dem t b os) (most := most) (by omega) hw hle h3
          refine ⟨_, by rw [if_pos hle], ?_⟩
          rw [hs, if_neg (by omega)]
        · left
          have hwb := wants_bounds ho (w := w) ⟨by omega, by omega⟩
          refine ⟨_, by rw [if_neg hle], ⟨by unfold dem; omega, by unfold dem; omega, fun n hn1 hn2 => ?_⟩, by omega⟩
          by_cases hnw : n < w
          · exact h3 n hn1 hnw
          · have := dem_mono (t := t) (b := b) ho (w := w) (w' := n) (by omega)
            omega
      · right
        refine ⟨.inl (), by simp only [fixed_Settle.r0, if_neg hw], ?_⟩
        rw [settled_eq_zero (fun n h1 h2 => h3 n h1 (by omega)), if_pos rfl]) K (t.C + b) ⟨Int.le_refl _, by omega, fun n h1 h2 => by
          by_cases hn : n ≤ 10000
          · have := wants_bounds ho (w := n) ⟨by omega, hn⟩
            unfold dem; omega
          · have := wants_mono ho (w := 10000) (w' := n) (by omega)
            have := wants_bounds ho (w := 10000) ⟨by omega, by omega⟩
            unfold dem; omega⟩ (by omega)
  rw [hr, hR]
  by_cases h : settled (dem t b os) most = 0
  · rw [if_pos h, h]
  · rw [if_neg h]
def respond (t : STask) (os : List STask) (b : Int) : Int := if settled (dem t b os) (t.D - t.J) = 0 then 0 else settled (dem t b os) (t.D - t.J) + t.J
theorem response_eq (t : STask) (b : Int) (os : List STask) (ht : Okt t) (hb : 0 ≤ b ∧ b ≤ 10000) (ho : ∀ o ∈ os, Okt o) (hl : os.length ≤ 8) (K : Nat) (hK : 20100 ≤ K) : fixed_response.f K t os b = some (respond t os b) := by
  have hC := ht.C; have hD := ht.D; have hJ := ht.J
  unfold fixed_response.f
  rw [wrap64_small (n := t.C + b) (by omega) (by omega), wrap64_small (n := t.D - t.J) (by omega) (by omega), settle_eq t b os ht hb ho hl _ (by omega) K hK]
  simp only
  unfold respond
  by_cases h : settled (dem t b os) (t.D - t.J) = 0
  · rw [if_pos h, if_pos h]
  · rw [if_neg h, if_neg h]
    have := settled_pos h
    rw [wrap64_small (by omega) (by omega)]
theorem worst_eq (t : STask) (b : Int) (os : List STask) (ht : Okt t) (hb : 0 ≤ b ∧ b ≤ 10000) (ho : ∀ o ∈ os, Okt o) (hl : os.length ≤ 8) (K : Nat) (hK : 20100 ≤ K) : punctualref_AtWorst.f K t os b = some (respond t os b) := by
  have hC := ht.C; have hD := ht.D; have hJ := ht.J
  unfold punctualref_AtWorst.f
  obtain ⟨r, hr, hR⟩ := iter_total (f := punctualref_AtWorst.r0 K t os b) (fun w => 1 ≤ w ∧ w ≤ 10001 ∧ ∀ n : Int, 1 ≤ n → n < w → n < dem t b os n) (fun w => (10001 - w).toNat)
    (fun r => r = if settled (dem t b os) (t.D - t.J) = 0 then .inl () else .inr (settled (dem t b os) (t.D - t.J) + t.J)) (fun w hI => by
      obtain ⟨h1, h2, h3⟩ := hI
      have e1 : IntKind.i64.wrap (w + t.J) = w + t.J := wrap64_small (by omega) (by omega)
      simp only [punctualref_AtWorst.r0, e1]
      by_cases hw : w + t.J ≤ t.D
      · rw [if_pos hw]
        have hin := iter_states (ρ := Int) (f := punctualref_AtWorst.r1 os w) (fun i => (t.C + b + wants (os.take i) w, i)) (fun _ => none) os.length (t := dem t b os w) (fun i hi _ => by
          have hi' : (i : Int) < (os.length : Int) := by omega
          have hoi := ho os[i] (List.getElem_mem hi)
          have hT := hoi.T; have hJ := hoi.J
          have hw0 : 0 ≤ w ∧ w ≤ 10000 := ⟨by omega, by omega⟩
          have hwb := want_bounds hoi hw0
          have hs := wants_bounds (os := os.take i) (fun o h => ho o (List.mem_of_mem_take h)) hw0
          have hlen : (os.take i).length ≤ 8 := by simp; omega
          simp only [punctualref_AtWorst.r1, if_pos hi', List.getElem?_eq_getElem hi]
          rw [wrap64_small (n := w + os[i].J) (by omega) (by omega), up_eq (by omega) (by omega)]
          simp only [onwardS]
          rw [wrap64_small (n := ceilD (w + os[i].J) os[i].T * os[i].C) (by omega) (by omega), wrap64_small (by omega) (by omega)]
          congr 3
          rw [List.take_succ_eq_append_getElem hi, wants_append, wants_cons, wants_nil]
          omega) (fun _ => by simp [punctualref_AtWorst.r1, dem]) (K := K) (by omega)
        have h0 : t.C + b + wants (os.take 0) w = t.C + b := by simp [wants_nil]
        rw [h0, firstOf_none_of (fun _ _ _ => rfl)] at hin
        rw [wrap64_small (n := t.C + b) (by omega) (by omega), hin]
        simp only [leave]
        have hge : w ≤ dem t b os w := by
          by_cases hw1 : w = 1
          · have := wants_bounds ho (w := w) ⟨by omega, by omega⟩
            unfold dem; omega
          · have := h3 (w - 1) (by omega) (by omega)
            have := dem_mono (t := t) (b := b) ho (w := w - 1) (w' := w) (by omega)
            omega
        by_cases hle : dem t b os w = w
        · right
          have hs := settled_eq (f := dem t b os) (most := t.D - t.J) (by omega) (by omega) (by omega) h3
          refine ⟨_, by rw [if_pos hle], ?_⟩
          rw [hs, if_neg (by omega)]
        · left
          refine ⟨_, by rw [if_neg hle, wrap64_small (by omega) (by omega)], ⟨by omega, by omega, fun n hn1 hn2 => ?_⟩, by omega⟩
          by_cases hnw : n < w
          · exact h3 n hn1 hnw
          · have : n = w := by omega
            subst this
            omega
      · right
        refine ⟨.inl (), by rw [if_neg hw], ?_⟩
        rw [settled_eq_zero (fun n h1 h2 => h3 n h1 (by omega)), if_pos rfl]) K 1 ⟨by omega, by omega, fun n h1 h2 => by omega⟩ (by omega)
  rw [hr, hR]
  unfold respond
  by_cases h : settled (dem t b os) (t.D - t.J) = 0
  · rw [if_pos h, if_pos h]
  · rw [if_neg h, if_neg h]
noncomputable def fixedFault (l : List STask) : SFault :=
  if (setFault l).Code = 0 then (firstOf (fun i => match l[i]? with | some t => if t.D > t.T then some ⟨12, (i : Int)⟩ else none | none => none) l.length 0).getD ⟨0, 0⟩ else setFault l
theorem fixedFault_ok {l : List STask} (h : (fixedFault l).Code = 0) : (setFault l).Code = 0 ∧ fixedFault l = ⟨0, 0⟩ ∧ ∀ t ∈ l, t.D ≤ t.T := by
  unfold fixedFault at h ⊢
  split at h
  · rename_i hs
    cases hf : firstOf (fun i => match l[i]? with | some t => if t.D > t.T then some (⟨12, (i : Int)⟩ : SFault) else none | none => none) l.length 0 with
    | none =>
      refine ⟨hs, by rw [if_pos hs]; rfl, fun t ht => ?_⟩
      obtain ⟨i, hi⟩ := List.mem_iff_getElem?.1 ht
      have := firstOf_none hf i (Nat.zero_le _) (lt_of_get hi)
      simp only [hi] at this
      split at this
      · cases this
      · omega
    | some r =>
      rw [hf] at h
      obtain ⟨j, _, hj, hg, _⟩ := firstOf_some hf
      simp only [Option.getD_some] at h
      exfalso
      split at hg
      · split at hg
        · cases hg; cases h
        · cases hg
      · cases hg
  · contradiction
theorem check_eq (l : List STask) (K : Nat) (hK : 20 ≤ K) : fixed_check.f K l = some (fixedFault l) := by
  unfold fixed_check.f fixedFault
  rw [Check_eq l K hK]
  simp only
  by_cases h : (setFault l).Code = 0
  · rw [if_pos h, if_pos h]
    have hl := (setFault_ok h).2.1
    have hr := iter_first0 (f := fixed_check.r0 l) (fun i => match l[i]? with | some t => if t.D > t.T then some ⟨12, (i : Int)⟩ else none | none => none) l.length (t := ()) (fun i hi => by
      have hi' : (i : Int) < (l.length : Int) := by omega
      simp only [fixed_check.r0, if_pos hi', List.getElem?_eq_getElem hi]
      split <;> rfl) (by simp [fixed_check.r0]) (K := K) (by omega)
    rw [hr]
    cases firstOf (fun i => match l[i]? with | some t => if t.D > t.T then some (⟨12, (i : Int)⟩ : SFault) else none | none => none) l.length 0 <;> rfl
  · rw [if_neg h, if_neg h]
theorem CheckFixed_eq (l : List STask) (hl : ∀ t ∈ l, Ok.ok t) (K : Nat) (hK : 20 ≤ K) (hs : ∀ t ∈ l, t.Name.size < K) : punctualref_CheckFixed.f K l = some (fixedFault l) := by
  rw [← check_eq l K hK]
  unfold punctualref_CheckFixed.f fixed_check.f
  rw [CheckSet_eq l hl K hK hs, Check_eq l K hK]
  rfl
def aboveTill (l : List STask) (i : Nat) (n : Nat) : List STask := (List.range n).filterMap fun k => match l[k]?, l[i]? with
  | some a, some b => if k ≠ i ∧ a.P ≥ b.P then some a else none
  | _, _ => none
abbrev aboveOf (l : List STask) (i : Nat) : List STask := aboveTill l i l.length
theorem aboveTill_len (l : List STask) (i n : Nat) : (aboveTill l i n).length ≤ n := by
  unfold aboveTill
  exact Nat.le_trans (List.length_filterMap_le _ _) (by simp)
theorem aboveTill_mem {l : List STask} {i n : Nat} {a : STask} (h : a ∈ aboveTill l i n) : a ∈ l := by
  unfold aboveTill at h
  obtain ⟨k, _, hk⟩ := List.mem_filterMap.1 h
  split at hk
  · rename_i x y hx hy
    split at hk
    · cases hk; exact List.mem_of_getElem? hx
    · cases hk
  · cases hk
theorem aboveTill_succ {l : List STask} {i n : Nat} {a b : STask} (ha : l[n]? = some a) (hb : l[i]? = some b) : aboveTill l i (n + 1) = aboveTill l i n ++ (if n ≠ i ∧ a.P ≥ b.P then [a] else []) := by
  unfold aboveTill
  rw [List.range_succ, List.filterMap_append]
  congr 1
  simp only [List.filterMap_cons, List.filterMap_nil, ha, hb]
  split <;> rename_i h <;> split at h <;> simp_all
theorem above_eq (l : List STask) (i : Nat) (hi : i < l.length) (hl : l.length ≤ 8) (K : Nat) (hK : 9 ≤ K) : fixed_above.f K l (i : Int) = some (aboveOf l i) := by
  unfold fixed_above.f
  have hr := iter_states (ρ := List STask) (f := fixed_above.r0 l (i : Int)) (fun k => (aboveTill l i k, k)) (fun _ => none) l.length (t := aboveOf l i) (fun k hk _ => by
    have hk' : (k : Int) < (l.length : Int) := by omega
    have hlen := aboveTill_len l i k
    rw [aboveTill_succ (List.getElem?_eq_getElem hk) (List.getElem?_eq_getElem hi)]
    simp only [fixed_above.r0, if_pos hk', List.getElem?_eq_getElem hk, Int.toNat_natCast, List.getElem?_eq_getElem hi, onwardS]
    by_cases h1 : (k : Int) = (i : Int)
    · rw [if_pos h1, if_neg (by omega), List.append_nil]
    · rw [if_neg h1, if_pos (by omega)]
      by_cases h2 : l[k].P ≥ l[i].P
      · rw [if_pos h2, if_pos (by omega), if_pos ⟨by omega, h2⟩]
      · rw [if_neg h2, if_neg (fun h => h2 h.2), List.append_nil]) (fun _ => by simp [fixed_above.r0]) (K := K) (by omega)
  have h0 : aboveTill l i 0 = [] := rfl
  rw [h0, firstOf_none_of (fun _ _ _ => rfl)] at hr
  rw [hr]; rfl
noncomputable def respOf (l : List STask) (i b : Int) : Int × SFault :=
  if (fixedFault l).Code = 0 then
    (if i < 0 ∨ i ≥ (l.length : Int) ∨ b < 0 ∨ b > 10000 then (0, ⟨3, 0⟩)
    else match l[i.toNat]? with
      | none => (0, ⟨3, 0⟩)
      | some t => if respond t (aboveOf l i.toNat) b = 0 then (0, ⟨13, i⟩) else (respond t (aboveOf l i.toNat) b, ⟨0, 0⟩))
  else (0, fixedFault l)
theorem Response_eq (l : List STask) (i b : Int) (K : Nat) (hK : 20100 ≤ K) : fixed_Response.f K l i b = some (respOf l i b) := by
  unfold fixed_Response.f respOf
  rw [check_eq l K (by omega)]
  simp only
  by_cases hc : (fixedFault l).Code = 0
  · rw [if_pos hc, if_pos hc]
    have hs := (fixedFault_ok hc).1
    have hl := (setFault_ok hs).2.1
    have hp : fixed_Response.p0 l i b = some (.inl (decide (i < 0 ∨ i ≥ (l.length : Int) ∨ b < 0 ∨ b > 10000))) := by
      unfold fixed_Response.p0
      by_cases h1 : i < 0
      · rw [if_pos h1, decide_eq_true (.inl h1)]
      rw [if_neg h1]
      by_cases h2 : i ≥ (l.length : Int)
      · rw [if_pos h2, decide_eq_true (.inr (.inl h2))]
      rw [if_neg h2]
      by_cases h3 : b < 0
      · rw [if_pos h3, decide_eq_true (.inr (.inr (.inl h3)))]
      rw [if_neg h3]
      congr 2
      rw [Bool.eq_iff_iff, decide_eq_true_eq, decide_eq_true_eq]
      omega
    simp only [hp, decide_eq_true_eq]
    by_cases hbad : i < 0 ∨ i ≥ (l.length : Int) ∨ b < 0 ∨ b > 10000
    · rw [if_pos hbad, if_pos hbad]
    · rw [if_neg hbad, if_neg hbad, if_pos (by omega)]
      have hi : i.toNat < l.length := by omega
      have hcast : ((i.toNat : Nat) : Int) = i := Int.toNat_of_nonneg (by omega)
      have ha := above_eq l i.toNat hi hl K (by omega)
      rw [hcast] at ha
      have hok := okt_of hs
      have hlen := aboveTill_len l i.toNat l.length
      simp only [List.getElem?_eq_getElem hi, ha, response_eq _ b _ (hok _ (List.getElem_mem hi)) ⟨by omega, by omega⟩ (fun o ho => hok o (aboveTill_mem ho)) (Nat.le_trans hlen hl) K hK]
      split <;> rfl
  · rw [if_neg hc, if_neg hc]
theorem ResponseOf_eq (l : List STask) (hl : ∀ t ∈ l, Ok.ok t) (i b : Int) (K : Nat) (hK : 20100 ≤ K) (hs : ∀ t ∈ l, t.Name.size < K) : punctualref_ResponseOf.f K l i b = some (respOf l i b) := by
  unfold punctualref_ResponseOf.f respOf
  rw [CheckFixed_eq l hl K (by omega) hs]
  simp only
  by_cases hc : (fixedFault l).Code = 0
  · rw [if_pos hc, if_pos hc]
    have hs := (fixedFault_ok hc).1
    have hl := (setFault_ok hs).2.1
    have hp : punctualref_ResponseOf.p0 l i b = some (if i < 0 ∨ i ≥ (l.length : Int) ∨ b < 0 ∨ b > 10000 then .inr (0, ⟨3, 0⟩) else .inl ()) := by
      unfold punctualref_ResponseOf.p0
      by_cases h1 : i < 0
      · rw [if_pos h1, if_pos (.inl h1)]; rfl
      rw [if_neg h1]
      by_cases h2 : i ≥ (l.length : Int)
      · rw [if_pos h2, if_pos (.inr (.inl h2))]; rfl
      rw [if_neg h2]
      by_cases h3 : b < 0
      · rw [if_pos h3, if_pos (.inr (.inr (.inl h3)))]; rfl
      rw [if_neg h3]
      by_cases h4 : b > 10000
      · rw [if_pos h4, if_pos (.inr (.inr (.inr h4)))]; rfl
      rw [if_neg h4, if_neg (by omega)]
    simp only [hp]
    by_cases hbad : i < 0 ∨ i ≥ (l.length : Int) ∨ b < 0 ∨ b > 10000
    · simp only [if_pos hbad]
    · simp only [if_neg hbad]
      have hi : i.toNat < l.length := by omega
      obtain ⟨n, rfl⟩ := Int.eq_ofNat_of_zero_le (show 0 ≤ i by omega)
      simp only [Int.toNat_natCast] at hi ⊢
      have hr := iter_states (ρ := Int × SFault) (f := punctualref_ResponseOf.r1 l (n : Int)) (fun k => (aboveTill l n k, k)) (fun _ => none) l.length (t := aboveOf l n) (fun k hk _ => by
        have hk' : (k : Int) < (l.length : Int) := by omega
        have hlen := aboveTill_len l n k
        rw [aboveTill_succ (List.getElem?_eq_getElem hk) (List.getElem?_eq_getElem hi)]
        simp only [punctualref_ResponseOf.r1, if_pos hk', List.getElem?_eq_getElem hk, Int.toNat_natCast, List.getElem?_eq_getElem hi, onwardS]
        by_cases h1 : (k : Int) = (n : Int)
        · rw [if_pos h1, if_neg (by omega), List.append_nil]
        · rw [if_neg h1, if_pos (by omega)]
          by_cases h2 : l[k].P ≥ l[n].P
          · rw [if_pos h2, if_pos (by omega), if_pos ⟨by omega, h2⟩]
          · rw [if_neg h2, if_neg (fun h => h2 h.2), List.append_nil]) (fun _ => by simp [punctualref_ResponseOf.r1]) (K := K) (by omega)
      have h0 : aboveTill l n 0 = [] := rfl
      rw [h0, firstOf_none_of (fun _ _ _ => rfl)] at hr
      have hok := okt_of hs
      have hlen := aboveTill_len l n l.length
      simp only [hr, leave, if_pos (show (0 : Int) ≤ (n : Int) by omega), List.getElem?_eq_getElem hi, worst_eq _ b _ (hok _ (List.getElem_mem hi)) ⟨by omega, by omega⟩ (fun o ho => hok o (aboveTill_mem ho)) (Nat.le_trans hlen hl) K hK]
      split <;> rfl
  · rw [if_neg hc, if_neg hc]
theorem gmax_eq (x y : Int) : gmax x y = max x y := by unfold gmax; omega
theorem gmin_eq (x y : Int) : gmin x y = min x y := by unfold gmin; omega

def playAt (l : List SJob) (i : Nat) : Option SFault := match l[i]? with
  | some e => if e.At < 0 ∨ e.At > 60000 ∨ e.C < 1 ∨ e.C > 10000 ∨ e.Due < 0 ∨ e.Due > 80000 then some ⟨3, (i : Int)⟩ else none
  | none => none
def playFault (l : List SJob) : SFault := if l.length > 4000 then ⟨2, 0⟩ else (firstOf (playAt l) l.length 0).getD ⟨0, 0⟩
theorem schedCheck_eq (l : List SJob) (K : Nat) (hK : 4010 ≤ K) : sched_Check.f K l = some (playFault l) := by
  unfold sched_Check.f playFault
  by_cases hl : (l.length : Int) > 4000
  · rw [if_pos hl, if_pos (by omega)]
  rw [if_neg hl, if_neg (by omega)]
  have hr := iter_first0 (f := sched_Check.r0 l) (playAt l) l.length (t := ()) (fun i hi => by
    have hi' : (i : Int) < (l.length : Int) := by omega
    simp only [sched_Check.r0, if_pos hi', List.getElem?_eq_getElem hi, playAt]
    generalize l[i] = e
    by_cases h : e.At < 0 ∨ e.At > 60000 ∨ e.C < 1 ∨ e.C > 10000 ∨ e.Due < 0 ∨ e.Due > 80000
    · rw [if_pos h]
      repeat' split
      all_goals first | rfl | omega
    · rw [if_neg h]
      rw [if_neg (by omega), if_neg (by omega), if_neg (by omega), if_neg (by omega), if_neg (by omega), if_neg (by omega)]
      rfl) (by simp [sched_Check.r0]) (K := K) (by omega)
  rw [hr]
  cases firstOf (playAt l) l.length 0 <;> rfl
structure Okj (e : SJob) : Prop where
  At : 0 ≤ e.At ∧ e.At ≤ 60000
  C : 1 ≤ e.C ∧ e.C ≤ 10000
  Due : 0 ≤ e.Due ∧ e.Due ≤ 80000
theorem playFault_ok {l : List SJob} (h : (playFault l).Code = 0) : l.length ≤ 4000 ∧ playFault l = ⟨0, 0⟩ ∧ ∀ e ∈ l, Okj e := by
  unfold playFault at h ⊢
  split at h
  · cases h
  rename_i hl
  cases hf : firstOf (playAt l) l.length 0 with
  | none =>
    refine ⟨by omega, by rw [if_neg hl]; rfl, fun e he => ?_⟩
    obtain ⟨i, hi⟩ := List.mem_iff_getElem?.1 he
    have := firstOf_none hf i (Nat.zero_le _) (lt_of_get hi)
    simp only [playAt, hi] at this
    split at this
    · cases this
    · exact ⟨by omega, by omega, by omega⟩
  | some r =>
    rw [hf] at h
    obtain ⟨j, _, hj, hg, _⟩ := firstOf_some hf
    exfalso
    simp only [playAt, List.getElem?_eq_getElem hj] at hg
    split at hg
    · cases hg; cases h
    · cases hg
def aheadJ (p : Int) (a b : SJob) : Prop := if p = 1 then a.P > b.P ∨ (a.P = b.P ∧ a.At < b.At) else a.Due < b.Due ∨ (a.Due = b.Due ∧ a.At < b.At)
instance (p : Int) (a b : SJob) : Decidable (aheadJ p a b) := by unfold aheadJ; infer_instance
theorem compare_eq (x y : Int) : cmp_Compare_int.f x y = if x < y then -1 else if x > y then 1 else 0 := by simp [cmp_Compare_int.f, cmp_isNaN_int.f]
theorem or2_eq (x y : Int) (K : Nat) (hK : 3 ≤ K) : cmp_Or_int.f K [x, y] = some (if x = 0 then y else x) := by
  obtain ⟨K, rfl⟩ : ∃ k, K = k + 3 := ⟨K - 3, by omega⟩
  simp only [cmp_Or_int.f, iter, cmp_Or_int.r0]
  by_cases hx : x = 0 <;> by_cases hy : y = 0 <;> simp [hx, hy]
def canJ (jobs : List SJob) (left : List Int) (t : Int) (i : Nat) : Prop := match jobs[i]?, left[i]? with
  | some j, some x => j.At ≤ t ∧ 0 < x
  | _, _ => False
instance (jobs : List SJob) (left : List Int) (t : Int) (i : Nat) : Decidable (canJ jobs left t i) := by unfold canJ; split <;> infer_instance
def firstTo (p : Int) (jobs : List SJob) (left : List Int) (t : Int) : Nat → Int
  | 0 => -1
  | n + 1 =>
    let b := firstTo p jobs left t n
    if canJ jobs left t n then
      (if b < 0 then (n : Int) else match jobs[n]?, jobs[b.toNat]? with
        | some x, some y => if aheadJ p x y then (n : Int) else b
        | _, _ => b)
    else b
theorem firstTo_cases (p : Int) (jobs : List SJob) (left : List Int) (t : Int) : ∀ n, n ≤ jobs.length → (firstTo p jobs left t n = -1 ∧ ∀ i, i < n → ¬ canJ jobs left t i) ∨
    (∃ (b : Nat) (y : SJob), firstTo p jobs left t n = (b : Int) ∧ b < n ∧ jobs[b]? = some y ∧ canJ jobs left t b ∧ ∀ i x, i < n → jobs[i]? = some x → canJ jobs left t i → ¬ aheadJ p x y ∧ (i < b → aheadJ p y x))
  | 0, _ => .inl ⟨rfl, fun i h => by omega⟩
  | n + 1, hn => by
    have hnx : jobs[n]? = some jobs[n] := List.getElem?_eq_getElem (by omega)
    generalize jobs[n] = x at hnx
    have irr : ∀ x : SJob, ¬ aheadJ p x x := fun x h => by unfold aheadJ at h; split at h <;> omega
    have tr : ∀ x y z : SJob, aheadJ p x y → ¬ aheadJ p z y → ¬ aheadJ p z x := fun x y z h k hh => by
      unfold aheadJ at h k hh; split at h <;> simp_all <;> omega
    have tr2 : ∀ x y z : SJob, aheadJ p x y → aheadJ p y z → aheadJ p x z := fun x y z h k => by
      unfold aheadJ at h k ⊢; split at h <;> simp_all <;> omega
    have tr3 : ∀ x y z : SJob, aheadJ p x y → ¬ aheadJ p z y → aheadJ p x z := fun x y z h k => by
      unfold aheadJ at h k ⊢; split at h <;> simp_all <;> omega
    rcases firstTo_cases p jobs left t n (by omega) with ⟨h1, h2⟩ | ⟨b, y, h1, h2, h3, h4, h5⟩
    · by_cases hc : canJ jobs left t n
      · right
        refine ⟨n, x, by simp only [firstTo, if_pos hc, h1]; rfl, by omega, hnx, hc, fun i z hi hz hcz => ?_⟩
        by_cases hin : i = n
        · subst hin; rw [hnx] at hz; cases hz; exact ⟨irr _, fun h => by omega⟩
        · exact absurd hcz (h2 i (by omega))
      · left
        refine ⟨by simp only [firstTo, if_neg hc, h1], fun i hi => ?_⟩
        by_cases hin : i = n
        · subst hin; exact hc
        · exact h2 i (by omega)
    · right
      by_cases hc : canJ jobs left t n
      · by_cases ha : aheadJ p x y
        · refine ⟨n, x, by simp only [firstTo, if_pos hc, h1, Int.toNat_natCast, hnx, h3, if_pos ha]; rw [if_neg (by omega)], by omega, hnx, hc, fun i z hi hz hcz => ?_⟩
          by_cases hin : i = n
          · subst hin; rw [hnx] at hz; cases hz; exact ⟨irr _, fun h => by omega⟩
          · obtain ⟨g1, g2⟩ := h5 i z (by omega) hz hcz
            exact ⟨tr x y z ha g1, fun _ => tr3 x y z ha g1⟩
        · refine ⟨b, y, by simp only [firstTo, if_pos hc, h1, Int.toNat_natCast, hnx, h3, if_neg ha]; rw [if_neg (by omega)], by omega, h3, h4, fun i z hi hz hcz => ?_⟩
          by_cases hin : i = n
          · subst hin; rw [hnx] at hz; cases hz; exact ⟨ha, fun h => by omega⟩
          · exact h5 i z (by omega) hz hcz
      · refine ⟨b, y, by simp only [firstTo, if_neg hc, h1], by omega, h3, h4, fun i z hi hz hcz => ?_⟩
        by_cases hin : i = n
        · subst hin; exact absurd hcz hc
        · exact h5 i z (by omega) hz hcz
theorem get_of_lt {l : List Int} {i : Nat} (h : i < l.length) : l[i]? = some (l.getD i 0) := by simp [List.getD, h]
theorem getD_set (l : List Int) (i j : Nat) (x : Int) (hi : i < l.length) : (l.set i x).getD j 0 = if i = j then x else l.getD j 0 := by
  simp only [List.getD, List.getElem?_set]
  by_cases h : i = j
  · subst h; simp [hi]
  · simp [h]
def sumN (f : Nat → Int) : Nat → Int
  | 0 => 0
  | n + 1 => sumN f n + f n
theorem sumN_congr {f g : Nat → Int} : ∀ {n : Nat}, (∀ j, j < n → f j = g j) → sumN f n = sumN g n
  | 0, _ => rfl
  | n + 1, h => by simp only [sumN]; rw [sumN_congr (fun j hj => h j (by omega)), h n (by omega)]
theorem sumN_nonneg {f : Nat → Int} : ∀ {n : Nat}, (∀ j, j < n → 0 ≤ f j) → 0 ≤ sumN f n
  | 0, _ => Int.le_refl _
  | n + 1, h => by
    simp only [sumN]
    have := sumN_nonneg (n := n) (fun j hj => h j (by omega))
    have := h n (by omega)
    omega
theorem sumN_one {f g : Nat → Int} {b : Nat} {d : Int} : ∀ {n : Nat}, b < n → f b = g b + d → (∀ j, j < n → j ≠ b → f j = g j) → sumN f n = sumN g n + d
  | 0, h, _, _ => by omega
  | n + 1, h, hb, ho => by
    simp only [sumN]
    by_cases hn : n = b
    · subst hn
      rw [hb, sumN_congr (fun j hj => ho j (by omega) (by omega))]
      omega
    · rw [sumN_one (n := n) (by omega) hb (fun j hj hne => ho j (by omega) hne), ho n (by omega) hn]
      omega
theorem sumN_term {f : Nat → Int} {n k : Nat} (h : ∀ j, j < n → 0 ≤ f j) (hk : k < n) : f k ≤ sumN f n := by
  have h1 := sumN_one (f := f) (g := fun j => if j = k then 0 else f j) (b := k) (d := f k) hk (by simp) (fun j _ hne => by simp [hne])
  have h2 := sumN_nonneg (f := fun j => if j = k then 0 else f j) (n := n) (fun j hj => by show 0 ≤ (if j = k then 0 else f j); split; exact Int.le_refl _; exact h j hj)
  omega
theorem exists_last {p : Nat → Prop} (m : Nat) (h0 : p 0) : ∃ t, t ≤ m ∧ p t ∧ ∀ s, t < s → s ≤ m → ¬ p s := by
  induction m with
  | zero => exact ⟨0, Nat.le_refl _, h0, fun s h1 h2 => by omega⟩
  | succ m ih =>
    by_cases h : p (m + 1)
    · exact ⟨m + 1, Nat.le_refl _, h, fun s h1 h2 => by omega⟩
    · obtain ⟨t, h1, h2, h3⟩ := ih
      refine ⟨t, by omega, h2, fun s h4 h5 => ?_⟩
      by_cases hs : s = m + 1
      · subst hs; exact h
      · exact h3 s h4 (by omega)
structure Level (n : Nat) (L : Nat → Nat → Int) (H : Nat → Prop) (r : Nat → Nat) (c : Nat → Int) : Prop where
  start : ∀ j, j < n → L 0 j = c j
  nonneg : ∀ t j, 0 ≤ L t j
  down : ∀ t j, L (t + 1) j ≤ L t j
  wait : ∀ t j, j < n → t < r j → L (t + 1) j = L t j
  runs : ∀ t, (∃ j, j < n ∧ H j ∧ r j ≤ t ∧ 0 < L t j) → ∃ b, b < n ∧ H b ∧ r b ≤ t ∧ 0 < L t b ∧ L (t + 1) b = L t b - 1 ∧ ∀ j, j < n → j ≠ b → L (t + 1) j = L t j
theorem Level.mono {n : Nat} {L : Nat → Nat → Int} {H : Nat → Prop} {r : Nat → Nat} {c : Nat → Int} (h : Level n L H r c) {t t' : Nat} (ht : t ≤ t') (j : Nat) : L t' j ≤ L t j := by
  induction t' with
  | zero => obtain rfl : t = 0 := by omega
            exact Int.le_refl _
  | succ t' ih =>
    by_cases he : t = t' + 1
    · subst he; exact Int.le_refl _
    · have := ih (by omega); have := h.down t' j; omega
theorem Level.still {n : Nat} {L : Nat → Nat → Int} {H : Nat → Prop} {r : Nat → Nat} {c : Nat → Int} (h : Level n L H r c) {t : Nat} {j : Nat} (hj : j < n) (ht : t ≤ r j) : L t j = c j := by
  induction t with
  | zero => exact h.start j hj
  | succ t ih => rw [h.wait t j hj (by omega)]; exact ih (by omega)
theorem Level.done {n : Nat} {L : Nat → Nat → Int} {H : Nat → Prop} [DecidablePred H] {r : Nat → Nat} {c : Nat → Int} (h : Level n L H r c) (w : Nat) (hw : 1 ≤ w)
    (hsum : ∀ t0, sumN (fun j => if H j ∧ t0 ≤ r j ∧ r j < t0 + w then c j else 0) n ≤ w) {k : Nat} (hk : k < n) (hHk : H k) : L (r k + w) k = 0 := by
  obtain ⟨t0, ht0, hid, hlast⟩ := exists_last (p := fun t => ∀ j, j < n → H j → r j < t → L t j = 0) (r k) (fun j _ _ h => by omega)
  by_cases hall : ∀ t, t0 ≤ t → t < t0 + w → ∃ j, j < n ∧ H j ∧ r j ≤ t ∧ 0 < L t j
  · -- the core is never idle for this level
    have hA : ∀ d, d ≤ w → sumN (fun j => if H j ∧ t0 ≤ r j ∧ r j < t0 + w then L (t0 + d) j else 0) n ≤ (w : Int) - d := by
      intro d
      induction d with
      | zero =>
        intro _
        have := hsum t0
        rw [sumN_congr (g := fun j => if H j ∧ t0 ≤ r j ∧ r j < t0 + w then c j else 0) (fun j hj => by
          by_cases hc : H j ∧ t0 ≤ r j ∧ r j < t0 + w
          · rw [if_pos hc, if_pos hc]; exact h.still hj hc.2.1
          · rw [if_neg hc, if_neg hc])]
        omega
      | succ d ih =>
        intro hd
        have ih := ih (by omega)
        obtain ⟨b, hb, hHb, hrb, hLb, hstep, hoth⟩ := h.runs (t0 + d) (hall (t0 + d) (by omega) (by omega))
        have hrb0 : t0 ≤ r b := by
          apply Nat.le_of_not_lt
          intro hlt
          have h1 := hid b hb hHb hlt
          have h2 := h.mono (show t0 ≤ t0 + d by omega) b
          omega
        have := sumN_one (f := fun j => if H j ∧ t0 ≤ r j ∧ r j < t0 + w then L (t0 + (d + 1)) j else 0) (g := fun j => if H j ∧ t0 ≤ r j ∧ r j < t0 + w then L (t0 + d) j else 0) (b := b) (d := -1) hb (by
          rw [if_pos ⟨hHb, hrb0, by omega⟩, if_pos ⟨hHb, hrb0, by omega⟩]
          show L (t0 + d + 1) b = _
          rw [hstep]; omega) (fun j hj hne => by
          by_cases hc : H j ∧ t0 ≤ r j ∧ r j < t0 + w
          · rw [if_pos hc, if_pos hc]; exact hoth j hj hne
          · rw [if_neg hc, if_neg hc])
        rw [this]
        omega
    have hend := hA w (Nat.le_refl _)
    have hzero : ∀ j, j < n → H j → r j < t0 + w → L (t0 + w) j = 0 := by
      intro j hj hHj hrj
      by_cases hr0 : r j < t0
      · have h1 := hid j hj hHj hr0
        have h2 := h.mono (show t0 ≤ t0 + w by omega) j
        have h3 := h.nonneg (t0 + w) j
        omega
      · have h1 := sumN_term (f := fun j => if H j ∧ t0 ≤ r j ∧ r j < t0 + w then L (t0 + w) j else 0) (n := n) (k := j) (fun i _ => by
          by_cases hc : H i ∧ t0 ≤ r i ∧ r i < t0 + w
          · rw [if_pos hc]; exact h.nonneg _ _
          · rw [if_neg hc]; exact Int.le_refl _) hj
        rw [if_pos ⟨hHj, by omega, hrj⟩] at h1
        have h3 := h.nonneg (t0 + w) j
        omega
    by_cases hrk : r k < t0 + w
    · have h1 := hzero k hk hHk hrk
      have h2 := h.mono (show t0 + w ≤ r k + w by omega) k
      have h3 := h.nonneg (r k + w) k
      omega
    · exact absurd hzero (hlast (t0 + w) (by omega) (by omega))
  · have ⟨t, ht⟩ := Classical.not_forall.1 hall
    have ⟨ht1, ht⟩ := Classical.not_imp.1 ht
    have ⟨ht2, hnone⟩ := Classical.not_imp.1 ht
    have hz : ∀ j, j < n → H j → r j ≤ t → L t j = 0 := fun j hj hHj hrj => by
      have h1 := h.nonneg t j
      by_cases h0 : 0 < L t j
      · exact absurd ⟨j, hj, hHj, hrj, h0⟩ hnone
      · omega
    by_cases hrk : r k ≤ t
    · have h1 := hz k hk hHk hrk
      have h2 := h.mono (show t ≤ r k + w by omega) k
      have h3 := h.nonneg (r k + w) k
      omega
    · refine absurd (fun j hj hHj hrj => ?_) (hlast (t + 1) (by omega) (by omega))
      have h1 := hz j hj hHj (by omega)
      have h2 := h.down t j
      have h3 := h.nonneg (t + 1) j
      omega
theorem respOf_range {l : List STask} {i b : Int} (h : (respOf l i b).2.Code = 0) : (fixedFault l).Code = 0 ∧ 0 ≤ i ∧ i < (l.length : Int) := by
  unfold respOf at h
  split at h
  · rename_i hc
    split at h
    · cases h
    · exact ⟨hc, by omega, by omega⟩
  · contradiction
structure LevelC (n : Nat) (L : Nat → Nat → Int) (H : Nat → Prop) (r : Nat → Nat) (c : Nat → Int) (e : Nat → Int) : Prop where
  start : ∀ j, j < n → L 0 j = c j
  nonneg : ∀ t j, j < n → 0 ≤ L t j
  done0 : ∀ t j, j < n → L t j = 0 → L (t + 1) j = 0
  wait : ∀ t j, j < n → t < r j → L (t + 1) j = L t j
  runs : ∀ t, (∃ j, j < n ∧ H j ∧ r j ≤ t ∧ 0 < L t j) → ∃ b, b < n ∧ H b ∧ r b ≤ t ∧ 0 < L t b ∧ L (t + 1) b ≤ L t b - 1 + e t ∧ ∀ j, j < n → j ≠ b → L (t + 1) j = L t j
theorem LevelC.stays {n : Nat} {L : Nat → Nat → Int} {H : Nat → Prop} {r : Nat → Nat} {c e : Nat → Int} (h : LevelC n L H r c e) {t t' : Nat} (ht : t ≤ t') {j : Nat} (hj : j < n) (h0 : L t j = 0) : L t' j = 0 := by
  induction t' with
  | zero => obtain rfl : t = 0 := by omega
            exact h0
  | succ t' ih =>
    by_cases he : t = t' + 1
    · subst he; exact h0
    · exact h.done0 t' j hj (ih (by omega))
theorem LevelC.still {n : Nat} {L : Nat → Nat → Int} {H : Nat → Prop} {r : Nat → Nat} {c e : Nat → Int} (h : LevelC n L H r c e) {t : Nat} {j : Nat} (hj : j < n) (ht : t ≤ r j) : L t j = c j := by
  induction t with
  | zero => exact h.start j hj
  | succ t ih => rw [h.wait t j hj (by omega)]; exact ih (by omega)
theorem LevelC.done {n : Nat} {L : Nat → Nat → Int} {H : Nat → Prop} [DecidablePred H] {r : Nat → Nat} {c e : Nat → Int} (h : LevelC n L H r c e) (w : Nat) (hw : 1 ≤ w)
    (hsum : ∀ t0, sumN (fun j => if H j ∧ t0 ≤ r j ∧ r j < t0 + w then c j else 0) n + sumN (fun s => e (t0 + s)) w ≤ w) {k : Nat} (hk : k < n) (hHk : H k) : L (r k + w) k = 0 := by
  obtain ⟨t0, ht0, hid, hlast⟩ := exists_last (p := fun t => ∀ j, j < n → H j → r j < t → L t j = 0) (r k) (fun j _ _ h => by omega)
  by_cases hall : ∀ t, t0 ≤ t → t < t0 + w → ∃ j, j < n ∧ H j ∧ r j ≤ t ∧ 0 < L t j
  · have hA : ∀ d, d ≤ w → sumN (fun j => if H j ∧ t0 ≤ r j ∧ r j < t0 + w then L (t0 + d) j else 0) n ≤ sumN (fun j => if H j ∧ t0 ≤ r j ∧ r j < t0 + w then c j else 0) n + sumN (fun s => e (t0 + s)) d - d := by
      intro d
      induction d with
      | zero =>
        intro _
        rw [sumN_congr (g := fun j => if H j ∧ t0 ≤ r j ∧ r j < t0 + w then c j else 0) (fun j hj => by
          by_cases hc : H j ∧ t0 ≤ r j ∧ r j < t0 + w
          · rw [if_pos hc, if_pos hc]; exact h.still hj hc.2.1
          · rw [if_neg hc, if_neg hc])]
        simp only [sumN]
        omega
      | succ d ih =>
        intro hd
        have ih := ih (by omega)
        obtain ⟨b, hb, hHb, hrb, hLb, hstep, hoth⟩ := h.runs (t0 + d) (hall (t0 + d) (by omega) (by omega))
        have hrb0 : t0 ≤ r b := by
          apply Nat.le_of_not_lt
          intro hlt
          have h1 := hid b hb hHb hlt
          have h2 := h.stays (show t0 ≤ t0 + d by omega) hb h1
          omega
        have := sumN_one (f := fun j => if H j ∧ t0 ≤ r j ∧ r j < t0 + w then L (t0 + (d + 1)) j else 0) (g := fun j => if H j ∧ t0 ≤ r j ∧ r j < t0 + w then L (t0 + d) j else 0) (b := b) (d := L (t0 + d + 1) b - L (t0 + d) b) hb (by
          rw [if_pos ⟨hHb, hrb0, by omega⟩, if_pos ⟨hHb, hrb0, by omega⟩]
          show L (t0 + d + 1) b = _
          omega) (fun j hj hne => by
          by_cases hc : H j ∧ t0 ≤ r j ∧ r j < t0 + w
          · rw [if_pos hc, if_pos hc]; exact hoth j hj hne
          · rw [if_neg hc, if_neg hc])
        rw [this]
        simp only [sumN]
        omega
    have hend := hA w (Nat.le_refl _)
    have hs0 := hsum t0
    have hzero : ∀ j, j < n → H j → r j < t0 + w → L (t0 + w) j = 0 := by
      intro j hj hHj hrj
      by_cases hr0 : r j < t0
      · exact h.stays (show t0 ≤ t0 + w by omega) hj (hid j hj hHj hr0)
      · have h1 := sumN_term (f := fun j => if H j ∧ t0 ≤ r j ∧ r j < t0 + w then L (t0 + w) j else 0) (n := n) (k := j) (fun i hi => by
          by_cases hc : H i ∧ t0 ≤ r i ∧ r i < t0 + w
          · rw [if_pos hc]; exact h.nonneg _ _ hi
          · rw [if_neg hc]; exact Int.le_refl _) hj
        rw [if_pos ⟨hHj, by omega, hrj⟩] at h1
        have h3 := h.nonneg (t0 + w) j hj
        omega
    by_cases hrk : r k < t0 + w
    · exact h.stays (show t0 + w ≤ r k + w by omega) hk (hzero k hk hHk hrk)
    · exact absurd hzero (hlast (t0 + w) (by omega) (by omega))
  · have ⟨t, ht⟩ := Classical.not_forall.1 hall
    have ⟨ht1, ht⟩ := Classical.not_imp.1 ht
    have ⟨ht2, hnone⟩ := Classical.not_imp.1 ht
    have hz : ∀ j, j < n → H j → r j ≤ t → L t j = 0 := fun j hj hHj hrj => by
      have h1 := h.nonneg t j hj
      by_cases h0 : 0 < L t j
      · exact absurd ⟨j, hj, hHj, hrj, h0⟩ hnone
      · omega
    by_cases hrk : r k ≤ t
    · exact h.stays (show t ≤ r k + w by omega) hk (hz k hk hHk hrk)
    · exact absurd (fun j hj hHj hrj => h.done0 t j hj (hz j hj hHj (by omega))) (hlast (t + 1) (by omega) (by omega))
structure Ticks (n : Nat) (L E : Nat → Nat → Int) : Prop where
  pos : ∀ j, j < n → 0 < L 0 j
  none : ∀ j, j < n → E 0 j = -1
  nonneg : ∀ t j, j < n → 0 ≤ L t j
  step : ∀ t j, j < n → (L (t + 1) j = L t j ∧ E (t + 1) j = E t j) ∨ (0 < L t j ∧ E (t + 1) j = if L (t + 1) j = 0 then (t : Int) + 1 else E t j)
theorem Ticks.spec {n : Nat} {L E : Nat → Nat → Int} (h : Ticks n L E) {j : Nat} (hj : j < n) : ∀ t, (0 < L t j → E t j = -1) ∧ (L t j = 0 → ∃ s : Nat, 1 ≤ s ∧ s ≤ t ∧ E t j = (s : Int) ∧ L s j = 0 ∧ 0 < L (s - 1) j)
  | 0 => ⟨fun _ => h.none j hj, fun h0 => by have := h.pos j hj; omega⟩
  | t + 1 => by
    obtain ⟨ih1, ih2⟩ := h.spec hj t
    rcases h.step t j hj with ⟨h1, h2⟩ | ⟨h1, h2⟩
    · rw [h1, h2]
      refine ⟨ih1, fun h0 => ?_⟩
      obtain ⟨s, a, b, c⟩ := ih2 h0
      exact ⟨s, a, by omega, c⟩
    · by_cases h0 : L (t + 1) j = 0
      · rw [if_pos h0] at h2
        exact ⟨fun h' => by omega, fun _ => ⟨t + 1, by omega, Nat.le_refl _, by rw [h2]; rfl, h0, h1⟩⟩
      · rw [if_neg h0] at h2
        exact ⟨fun _ => by rw [h2]; exact ih1 h1, fun h' => absurd h' h0⟩
theorem Ticks.stays {n : Nat} {L E : Nat → Nat → Int} (h : Ticks n L E) {t t' : Nat} (ht : t ≤ t') {j : Nat} (hj : j < n) (h0 : L t j = 0) : L t' j = 0 := by
  induction t' with
  | zero => obtain rfl : t = 0 := by omega
            exact h0
  | succ t' ih =>
    by_cases he : t = t' + 1
    · subst he; exact h0
    · have := ih (by omega)
      rcases h.step t' j hj with ⟨h1, _⟩ | ⟨h1, _⟩ <;> omega
theorem Ticks.done {n : Nat} {L E : Nat → Nat → Int} (h : Ticks n L E) {j : Nat} (hj : j < n) {s t : Nat} (hs : L s j = 0) (ht : s ≤ t) : 1 ≤ E t j ∧ E t j ≤ s := by
  obtain ⟨u, h1, h2, h3, h4, h5⟩ := (h.spec hj t).2 (h.stays ht hj hs)
  rw [h3]
  refine ⟨by omega, ?_⟩
  have : u ≤ s := by
    apply Nat.le_of_not_lt
    intro hlt
    have := h.stays (show s ≤ u - 1 by omega) hj hs
    omega
  omega
theorem firstR (jobs : List SJob) (left : List Int) (t : Int) (hl : left.length = jobs.length) : (firstTo 1 jobs left t jobs.length = -1 ∧ ∀ j e, jobs[j]? = some e → ¬ (e.At ≤ t ∧ 0 < left.getD j 0)) ∨
    ∃ (b : Nat) (y : SJob), firstTo 1 jobs left t jobs.length = (b : Int) ∧ jobs[b]? = some y ∧ y.At ≤ t ∧ 0 < left.getD b 0 ∧ ∀ j x, jobs[j]? = some x → x.At ≤ t → 0 < left.getD j 0 → ¬ aheadJ 1 x y := by
  have hcan : ∀ j e, jobs[j]? = some e → (canJ jobs left t j ↔ e.At ≤ t ∧ 0 < left.getD j 0) := fun j e he => by
    unfold canJ
    rw [he, get_of_lt (by rw [hl]; exact lt_of_get he)]
  rcases firstTo_cases 1 jobs left t jobs.length (Nat.le_refl _) with ⟨h1, h2⟩ | ⟨b, y, h1, h2, h3, h4, h5⟩
  · exact .inl ⟨h1, fun j e he hc => h2 j (lt_of_get he) ((hcan j e he).2 hc)⟩
  · obtain ⟨g1, g2⟩ := (hcan b y h3).1 h4
    exact .inr ⟨b, y, h1, h3, g1, g2, fun j x hx ha hl => (h5 j x (lt_of_get hx) hx ((hcan j x hx).2 ⟨ha, hl⟩)).1⟩

theorem can_eqW (jobs : List SJob) (left : List Int) (t : Int) (i : Nat) (hi : i < jobs.length) (hl : left.length = jobs.length) : modes_hosted_1.f (i : Int) jobs t left = some (decide (canJ jobs left t i)) := by
  have h1 : jobs[i]? = some jobs[i] := List.getElem?_eq_getElem hi
  have h2 : left[i]? = some (left[i]'(by omega)) := List.getElem?_eq_getElem (by omega)
  simp only [modes_hosted_1.f, Int.toNat_natCast, h1, h2, canJ]
  rw [if_pos (by omega)]
  by_cases h : jobs[i].At ≤ t
  · simp [h]
  · simp [h]
theorem First_eqW (p : Int) (hp : p = 1 ∨ p = 2) (jobs : List SJob) (left : List Int) (t : Int) (hl : left.length = jobs.length) (K : Nat) (hK : jobs.length + 5 ≤ K) : sched_First.f K jobs jobs t left p = some (firstTo p jobs left t jobs.length) := by
  unfold sched_First.f
  have hr := iter_states (ρ := Int) (f := sched_First.r0 K jobs jobs t left p) (fun i => (firstTo p jobs left t i, i)) (fun _ => none) jobs.length (t := firstTo p jobs left t jobs.length) (fun i hi _ => by
    have hi' : (i : Int) < (jobs.length : Int) := by omega
    have h1 : jobs[i]? = some jobs[i] := List.getElem?_eq_getElem hi
    simp only [sched_First.r0, if_pos hi', h1, can_eqW jobs left t i hi hl, decide_eq_true_eq, onwardS]
    by_cases hc : canJ jobs left t i
    · rw [if_pos hc]
      rcases firstTo_cases p jobs left t i (by omega) with ⟨g1, _⟩ | ⟨b, y, g1, g2, g3, _, _⟩
      · rw [g1, if_pos (by omega)]
        simp only [firstTo, if_pos hc, g1]
        rfl
      · rw [g1, if_neg (by omega), if_pos (by omega)]
        simp only [Int.toNat_natCast, g3]
        have e1 : firstTo p jobs left t (i + 1) = if aheadJ p jobs[i] y then (i : Int) else (b : Int) := by
          simp only [firstTo, if_pos hc, g1, Int.toNat_natCast, h1, g3]
          rw [if_neg (by omega)]
        rw [e1]
        rcases hp with rfl | rfl
        · simp [sched_rule.f, or2_eq _ _ K (show 3 ≤ K by omega), sched_byPriority.f, compare_eq, aheadJ]
          repeat' split
          all_goals first | rfl | (exfalso; omega) | simp_all
        · simp [sched_rule.f, or2_eq _ _ K (show 3 ≤ K by omega), sched_byDue.f, compare_eq, aheadJ]
          repeat' split
          all_goals first | rfl | (exfalso; omega) | simp_all
    · rw [if_neg hc]
      simp only [firstTo, if_neg hc]) (fun _ => by simp [sched_First.r0]) (K := K) (by omega)
  have h0 : firstTo p jobs left t 0 = -1 := rfl
  rw [h0, firstOf_none_of (fun _ _ _ => rfl)] at hr
  rw [hr]; rfl

def endTo (ws : List SWindow) : Nat → Int
  | 0 => 0
  | n + 1 => match ws[n]? with
    | some w => w.At + w.Len
    | none => 0
def windowAt (len : Int) (ws : List SWindow) (i : Nat) : Option SFault := match ws[i]? with
  | none => none
  | some w => if w.At < 0 ∨ w.At > len ∨ w.Len < 1 ∨ w.Len > len - w.At then some ⟨3, i⟩ else if w.At < endTo ws i then some ⟨12, i⟩ else none
noncomputable def frameFault (len : Int) (ws : List SWindow) : SFault :=
  if len < 1 ∨ len > 10000 then ⟨3, 0⟩ else if ws.length > 20 then ⟨2, 0⟩ else (firstOf (windowAt len ws) ws.length 0).getD ⟨0, 0⟩
theorem windowAt_none {len : Int} {ws : List SWindow} {i : Nat} {w : SWindow} (hw : ws[i]? = some w) (h : windowAt len ws i = none) : 0 ≤ w.At ∧ 1 ≤ w.Len ∧ w.At + w.Len ≤ len ∧ endTo ws i ≤ w.At := by
  unfold windowAt at h
  simp only [hw] at h
  split at h
  · cases h
  · split at h
    · cases h
    · omega
theorem Frame_eq (len : Int) (ws : List SWindow) (K : Nat) (hK : 30 ≤ K) : modes_Frame.f K len ws = some (frameFault len ws) := by
  unfold modes_Frame.f frameFault
  by_cases hl : len < 1 ∨ len > 10000
  · have hp : modes_Frame.p0 len = some (.inr ⟨3, 0⟩) := by
      unfold modes_Frame.p0
      repeat' split
      all_goals first | rfl | omega
    rw [hp, if_pos hl]
  · have hp : modes_Frame.p0 len = some (.inl ()) := by
      unfold modes_Frame.p0
      rw [if_neg (by omega), if_neg (by omega)]
    rw [hp, if_neg hl]
    simp only
    by_cases hn : ws.length > 20
    · rw [if_pos (by omega), if_pos hn]
    · rw [if_neg (by omega), if_neg hn]
      have hit := iter_states (ρ := SFault) (f := modes_Frame.r1 len ws) (fun i => (endTo ws i, i)) (windowAt len ws) ws.length (t := ()) (fun i hi _ => by
        have hi' : (i : Int) < (ws.length : Int) := by omega
        have hx : ws[i]? = some ws[i] := List.getElem?_eq_getElem hi
        have hend : endTo ws (i + 1) = ws[i].At + ws[i].Len := by simp only [endTo, hx]
        simp only [modes_Frame.r1, if_pos hi', hx, windowAt, hend]
        by_cases h1 : ws[i].At < 0
        · rw [if_pos h1, if_pos (.inl h1)]; rfl
        rw [if_neg h1]
        by_cases h2 : ws[i].At > len
        · rw [if_pos h2, if_pos (.inr (.inl h2))]; rfl
        rw [if_neg h2]
        by_cases h3 : ws[i].Len < 1
        · rw [if_pos h3, if_pos (.inr (.inr (.inl h3)))]; rfl
        rw [if_neg h3, wrap64_small (n := len - ws[i].At) (by omega) (by omega)]
        by_cases h4 : ws[i].Len > len - ws[i].At
        · rw [if_pos h4, if_pos (.inr (.inr (.inr h4)))]; rfl
        have hb : ¬ (ws[i].At < 0 ∨ ws[i].At > len ∨ ws[i].Len < 1 ∨ ws[i].Len > len - ws[i].At) := by omega
        rw [if_neg h4, if_neg hb]
        by_cases h5 : ws[i].At < endTo ws i
        · rw [if_pos h5, if_pos h5]; rfl
        · rw [if_neg h5, if_neg h5, wrap64_small (n := ws[i].At + ws[i].Len) (by omega) (by omega)]; rfl) (fun _ => by simp [modes_Frame.r1]) (K := K) (by omega)
      rw [show ((0 : Int), 0) = (endTo ws 0, 0) from rfl, hit]
      cases firstOf (windowAt len ws) ws.length 0 <;> rfl
theorem CheckFrame_eq (len : Int) (ws : List SWindow) (hin : ∀ w ∈ ws, Ok.ok w) (K : Nat) (hK : 30 ≤ K) : punctualref_CheckFrame.f K len ws = some (frameFault len ws) := by
  unfold punctualref_CheckFrame.f frameFault
  by_cases hl : len < 1 ∨ len > 10000
  · have hp : punctualref_CheckFrame.p0 len = some (.inr ⟨3, 0⟩) := by
      unfold punctualref_CheckFrame.p0
      repeat' split
      all_goals first | rfl | omega
    rw [hp, if_pos hl]
  · have hp : punctualref_CheckFrame.p0 len = some (.inl ()) := by
      unfold punctualref_CheckFrame.p0
      rw [if_neg (by omega), if_neg (by omega)]
    rw [hp, if_neg hl]
    simp only
    by_cases hn : ws.length > 20
    · rw [if_pos (by omega), if_pos hn]; rfl
    · rw [if_neg (by omega), if_neg hn]
      have hit := iter_states (ρ := SFault) (f := punctualref_CheckFrame.r1 len ws) (fun i => i) (windowAt len ws) ws.length (t := ()) (fun i hi hbef => by
        have hi' : (i : Int) < (ws.length : Int) := by omega
        have hx : ws[i]? = some ws[i] := List.getElem?_eq_getElem hi
        simp only [punctualref_CheckFrame.r1, if_pos hi', hx, windowAt]
        by_cases hb : ws[i].At < 0 ∨ ws[i].At > len ∨ ws[i].Len < 1 ∨ ws[i].Len > len - ws[i].At
        · have hp2 : punctualref_CheckFrame.p2 len i ws[i] = some (.inr ⟨3, i⟩) := by
            unfold punctualref_CheckFrame.p2
            by_cases h1 : ws[i].At < 0
            · rw [if_pos h1]; rfl
            rw [if_neg h1]
            by_cases h2 : ws[i].At > len
            · rw [if_pos h2]; rfl
            rw [if_neg h2]
            by_cases h3 : ws[i].Len < 1
            · rw [if_pos h3]; rfl
            rw [if_neg h3]
            by_cases h4 : ws[i].Len > len
            · rw [if_pos h4]; rfl
            rw [if_neg h4, wrap64_small (by omega) (by omega), if_pos (by omega)]; rfl
          rw [hp2, if_pos hb]; rfl
        · have hp2 : punctualref_CheckFrame.p2 len i ws[i] = some (.inl ()) := by
            unfold punctualref_CheckFrame.p2
            rw [if_neg (by omega), if_neg (by omega), if_neg (by omega), if_neg (by omega), wrap64_small (by omega) (by omega), if_neg (by omega)]
          rw [hp2, if_neg hb]
          simp only
          by_cases h0 : (i : Int) > 0
          · obtain ⟨k, rfl⟩ : ∃ k, i = k + 1 := ⟨i - 1, by omega⟩
            have hy : ws[k]? = some ws[k] := List.getElem?_eq_getElem (by omega)
            have hk := windowAt_none hy (hbef k (by omega))
            have ew : (IntKind.i64.wrap (((k + 1 : Nat) : Int) - 1)).toNat = k := by rw [wrap64_small (by omega) (by omega)]; omega
            rw [if_pos h0, if_pos (by rw [wrap64_small (by omega) (by omega)]; omega), ew, hy]
            simp only
            rw [wrap64_small (n := ws[k].At + ws[k].Len) (by omega) (by omega)]
            have hend : endTo ws (k + 1) = ws[k].At + ws[k].Len := by simp only [endTo, hy]
            rw [hend]
            by_cases h5 : ws[k + 1].At < ws[k].At + ws[k].Len
            · rw [if_pos h5, if_pos h5]; rfl
            · rw [if_neg h5, if_neg h5]; rfl
          · obtain rfl : i = 0 := by omega
            have hend : endTo ws 0 = 0 := rfl
            rw [if_neg h0, hend, if_neg (by omega)]; rfl) (fun _ => by simp [punctualref_CheckFrame.r1]) (K := K) (by omega)
      rw [hit]
      cases firstOf (windowAt len ws) ws.length 0 <;> rfl
structure FrameOk (len : Int) (ws : List SWindow) : Prop where
  frame : 1 ≤ len ∧ len ≤ 10000
  many : ws.length ≤ 20
  each : ∀ (i : Nat) (w : SWindow), ws[i]? = some w → 0 ≤ w.At ∧ 1 ≤ w.Len ∧ w.At + w.Len ≤ len ∧ endTo ws i ≤ w.At
theorem frameFault_ok {len : Int} {ws : List SWindow} (h : (frameFault len ws).Code = 0) : frameFault len ws = ⟨0, 0⟩ ∧ FrameOk len ws := by
  unfold frameFault at h ⊢
  by_cases hl : len < 1 ∨ len > 10000
  · rw [if_pos hl] at h; exact absurd h (by simp)
  rw [if_neg hl] at h ⊢
  by_cases hn : ws.length > 20
  · rw [if_pos hn] at h; exact absurd h (by simp)
  rw [if_neg hn] at h ⊢
  cases hf : firstOf (windowAt len ws) ws.length 0 with
  | none => exact ⟨rfl, by omega, by omega, fun i w hw => windowAt_none hw (firstOf_none hf i (Nat.zero_le _) (lt_of_get hw))⟩
  | some r =>
    rw [hf] at h
    obtain ⟨j, _, hj, hg, _⟩ := firstOf_some hf
    exfalso
    unfold windowAt at hg
    split at hg
    · cases hg
    · split at hg
      · cases hg; exact absurd h (by simp)
      · split at hg
        · cases hg; exact absurd h (by simp)
        · cases hg
theorem FrameOk.order {len : Int} {ws : List SWindow} (h : FrameOk len ws) : ∀ (d i : Nat) (a b : SWindow), ws[i]? = some a → ws[i + (d + 1)]? = some b → a.At + a.Len ≤ b.At
  | 0, i, a, b, ha, hb => by
    have := (h.each _ b hb).2.2.2
    simp only [Nat.zero_add, endTo, ha] at this
    exact this
  | d + 1, i, a, b, ha, hb => by
    have hm : ws[i + (d + 1)]? = some (ws[i + (d + 1)]'(by have := lt_of_get hb; omega)) := List.getElem?_eq_getElem _
    have h1 := h.order d i a _ ha hm
    have h2 := (h.each _ b hb).2.2.2
    rw [show i + (d + 1 + 1) = (i + (d + 1)) + 1 by omega] at h2
    simp only [endTo, hm] at h2
    have h3 := h.each _ _ hm
    omega
def openAt (ws : List SWindow) (u : Int) : Prop := ∃ (i : Nat) (w : SWindow), ws[i]? = some w ∧ w.At ≤ u ∧ u < w.At + w.Len
def tillTo (ws : List SWindow) (t : Int) : Nat → Int
  | 0 => 0
  | n + 1 => match ws[n]? with
    | some w => tillTo ws t n + min (max (t - w.At) 0) w.Len
    | none => tillTo ws t n
def tillW (ws : List SWindow) (t : Int) : Int := tillTo ws t ws.length
theorem tillTo_bounds {len : Int} {ws : List SWindow} (h : FrameOk len ws) (t : Int) : ∀ n : Nat, 0 ≤ tillTo ws t n ∧ tillTo ws t n ≤ 10000 * (n : Int)
  | 0 => by simp [tillTo]
  | n + 1 => by
    have ih := tillTo_bounds h t n
    simp only [tillTo]
    split
    · rename_i w hw
      have := h.each n w hw
      have := h.frame
      omega
    · omega
theorem tillTo_zero {len : Int} {ws : List SWindow} (h : FrameOk len ws) : ∀ n : Nat, tillTo ws 0 n = 0
  | 0 => rfl
  | n + 1 => by
    have ih := tillTo_zero h n
    simp only [tillTo]
    split
    · rename_i w hw
      have := h.each n w hw
      omega
    · exact ih
theorem tillTo_succ {len : Int} {ws : List SWindow} (h : FrameOk len ws) (u : Int) : ∀ n : Nat, ((∃ (i : Nat) (w : SWindow), i < n ∧ ws[i]? = some w ∧ w.At ≤ u ∧ u < w.At + w.Len) ∧ tillTo ws (u + 1) n = tillTo ws u n + 1) ∨ ((¬ ∃ (i : Nat) (w : SWindow), i < n ∧ ws[i]? = some w ∧ w.At ≤ u ∧ u < w.At + w.Len) ∧ tillTo ws (u + 1) n = tillTo ws u n)
  | 0 => .inr ⟨fun ⟨i, w, hi, _⟩ => by omega, rfl⟩
  | n + 1 => by
    simp only [tillTo]
    cases hw : ws[n]? with
    | none =>
      rcases tillTo_succ h u n with ⟨⟨i, w, h1, h2⟩, h3⟩ | ⟨h1, h2⟩
      · exact .inl ⟨⟨i, w, by omega, h2⟩, h3⟩
      · refine .inr ⟨fun ⟨i, w, g1, g2, g3⟩ => ?_, h2⟩
        by_cases hin : i = n
        · subst hin; rw [hw] at g2; cases g2
        · exact h1 ⟨i, w, by omega, g2, g3⟩
    | some w =>
      simp only
      have hn := h.each n w hw
      rcases tillTo_succ h u n with ⟨⟨i, v, h1, h2, h3, h4⟩, h5⟩ | ⟨h1, h2⟩
      · left
        refine ⟨⟨i, v, by omega, h2, h3, h4⟩, ?_⟩
        have := h.order (n - i - 1) i v w h2 (by rw [show i + (n - i - 1 + 1) = n by omega]; exact hw)
        omega
      · by_cases hc : w.At ≤ u ∧ u < w.At + w.Len
        · left
          exact ⟨⟨n, w, by omega, hw, hc⟩, by omega⟩
        · right
          refine ⟨fun ⟨i, v, g1, g2, g3⟩ => ?_, by omega⟩
          by_cases hin : i = n
          · subst hin; rw [hw] at g2; cases g2; exact hc g3
          · exact h1 ⟨i, v, by omega, g2, g3⟩
def sumW (len : Int) (ws : List SWindow) (t : Int) : Int := t / len * tillW ws len + tillW ws (t % len)
noncomputable def opensAt (len : Int) (ws : List SWindow) (s : Nat) : Int := open Classical in if openAt ws ((s : Int) % len) then 1 else 0
theorem tillW_succ {len : Int} {ws : List SWindow} (h : FrameOk len ws) (u : Int) : tillW ws (u + 1) = tillW ws u + (open Classical in if openAt ws u then 1 else 0) := by
  unfold tillW
  rcases tillTo_succ h u ws.length with ⟨⟨i, w, h1, h2, h3⟩, h4⟩ | ⟨h1, h2⟩
  · rw [if_pos ⟨i, w, h2, h3⟩]; exact h4
  · rw [if_neg (fun ⟨i, w, g1, g2⟩ => h1 ⟨i, w, lt_of_get g1, g1, g2⟩)]; omega
theorem sumW_eq {len : Int} {ws : List SWindow} (h : FrameOk len ws) : ∀ t : Nat, sumW len ws (t : Int) = sumN (opensAt len ws) t
  | 0 => by
    have : tillW ws 0 = 0 := tillTo_zero h _
    simp [sumW, sumN, this]
  | t + 1 => by
    have ih := sumW_eq h t
    have hl := h.frame
    simp only [sumN]
    rw [← ih]
    have hm := Int.emod_add_mul_ediv (t : Int) len
    have hm1 : 0 ≤ (t : Int) % len := Int.emod_nonneg _ (by omega)
    have hm2 : (t : Int) % len < len := Int.emod_lt_of_pos _ (by omega)
    have hs := tillW_succ h ((t : Int) % len)
    have ho : opensAt len ws t = (open Classical in if openAt ws ((t : Int) % len) then 1 else 0) := rfl
    unfold sumW
    by_cases hlast : (t : Int) % len + 1 = len
    · have e : ((t + 1 : Nat) : Int) = 0 + len * ((t : Int) / len + 1) := by rw [Int.mul_add]; omega
      have hz : tillW ws 0 = 0 := tillTo_zero h _
      have e1 : ((t + 1 : Nat) : Int) / len = (t : Int) / len + 1 := by rw [e, Int.add_mul_ediv_left _ _ (by omega)]; simp
      have e2 : ((t + 1 : Nat) : Int) % len = 0 := by rw [e, Int.add_mul_emod_self_left]; simp
      rw [e1, e2, hz, Int.add_mul, Int.one_mul, Int.add_zero]
      rw [hlast] at hs
      omega
    · have e : ((t + 1 : Nat) : Int) = ((t : Int) % len + 1) + len * ((t : Int) / len) := by omega
      have e1 : ((t + 1 : Nat) : Int) / len = (t : Int) / len := by
        rw [e, Int.add_mul_ediv_left _ _ (by omega), Int.ediv_eq_zero_of_lt (by omega) (by omega)]; omega
      have e2 : ((t + 1 : Nat) : Int) % len = (t : Int) % len + 1 := by
        rw [e, Int.add_mul_emod_self_left, Int.emod_eq_of_lt (by omega) (by omega)]
      rw [e1, e2]
      omega
theorem sumN_shift (f : Nat → Int) (a : Nat) : ∀ b, sumN f (a + b) = sumN f a + sumN (fun s => f (a + s)) b
  | 0 => by simp [sumN]
  | b + 1 => by
    show sumN f (a + b) + f (a + b) = _
    rw [sumN_shift f a b]
    simp only [sumN]
    omega
def supplyOf (len : Int) (ws : List SWindow) (a b : Int) : Int := sumW len ws (a + b) - sumW len ws a
theorem supplyOf_eq {len : Int} {ws : List SWindow} (h : FrameOk len ws) (a b : Nat) : supplyOf len ws a b = sumN (fun s => opensAt len ws (a + s)) b := by
  unfold supplyOf
  have e : (a : Int) + (b : Int) = ((a + b : Nat) : Int) := by omega
  rw [e, sumW_eq h, sumW_eq h, sumN_shift]
  omega
theorem supply_step (len : Int) (ws : List SWindow) (a b : Nat) : sumN (fun s => opensAt len ws (a + 1 + s)) b + opensAt len ws a = sumN (fun s => opensAt len ws (a + s)) b + opensAt len ws (a + b) := by
  induction b with
  | zero => simp [sumN]
  | succ b ih =>
    simp only [sumN]
    rw [show a + 1 + b = a + (b + 1) by omega]
    omega
theorem opensAt_range (len : Int) (ws : List SWindow) (s : Nat) : 0 ≤ opensAt len ws s ∧ opensAt len ws s ≤ 1 := by
  unfold opensAt; split <;> omega
def leastTo (len : Int) (ws : List SWindow) (b : Int) : Nat → Int
  | 0 => supplyOf len ws 0 b
  | n + 1 => match ws[n]? with
    | some w => min (leastTo len ws b n) (supplyOf len ws (w.At + w.Len) b)
    | none => leastTo len ws b n
theorem leastTo_le (len : Int) (ws : List SWindow) (b : Int) : ∀ n, leastTo len ws b n ≤ supplyOf len ws 0 b ∧ ∀ (k : Nat) (w : SWindow), k < n → ws[k]? = some w → leastTo len ws b n ≤ supplyOf len ws (w.At + w.Len) b
  | 0 => ⟨Int.le_refl _, fun k w hk _ => by omega⟩
  | n + 1 => by
    obtain ⟨h1, h2⟩ := leastTo_le len ws b n
    simp only [leastTo]
    cases hn : ws[n]? with
    | none =>
      refine ⟨h1, fun k w hk hw => ?_⟩
      by_cases hkn : k = n
      · subst hkn; rw [hn] at hw; cases hw
      · exact h2 k w (by omega) hw
    | some v =>
      simp only
      refine ⟨by omega, fun k w hk hw => ?_⟩
      by_cases hkn : k = n
      · subst hkn; rw [hn] at hw; cases hw; omega
      · have := h2 k w (by omega) hw; omega
theorem leastTo_all {len : Int} {ws : List SWindow} (h : FrameOk len ws) (b a : Nat) : leastTo len ws b ws.length ≤ sumN (fun s => opensAt len ws (a + s)) b := by
  obtain ⟨hl0, hlw⟩ := leastTo_le len ws b ws.length
  have hl := h.frame
  -- from the frame's beginning, and from where a window ends
  have h0 : leastTo len ws b ws.length ≤ sumN (fun s => opensAt len ws (0 + s)) b := by
    have := supplyOf_eq h 0 b
    rw [← this]; exact hl0
  have hend : ∀ (k : Nat) (w : SWindow), ws[k]? = some w → leastTo len ws b ws.length ≤ sumN (fun s => opensAt len ws ((w.At + w.Len).toNat + s)) b := fun k w hw => by
    have h1 := h.each k w hw
    have h2 := hlw k w (lt_of_get hw) hw
    have h3 := supplyOf_eq h (w.At + w.Len).toNat b
    rw [Int.toNat_of_nonneg (by omega)] at h3
    rw [← h3]; exact h2
  have hopen : ∀ f : Nat, (f : Int) < len → (opensAt len ws f = 1 ∧ openAt ws (f : Int) ∨ opensAt len ws f = 0 ∧ ¬ openAt ws (f : Int)) := fun f hf => by
    unfold opensAt
    rw [Int.emod_eq_of_lt (by omega) hf]
    by_cases ho : openAt ws (f : Int)
    · rw [if_pos ho]; exact .inl ⟨rfl, ho⟩
    · rw [if_neg ho]; exact .inr ⟨rfl, ho⟩
  -- within a window: onwards to its end
  have hfwd : ∀ (k : Nat) (w : SWindow), ws[k]? = some w → ∀ d f : Nat, (f : Int) + d = w.At + w.Len → w.At ≤ f → leastTo len ws b ws.length ≤ sumN (fun s => opensAt len ws (f + s)) b := by
    intro k w hw d
    induction d with
    | zero =>
      intro f hf _
      have := hend k w hw
      rw [show (w.At + w.Len).toNat = f by omega] at this
      exact this
    | succ d ih =>
      intro f hf hfa
      have h1 := h.each k w hw
      have h2 := ih (f + 1) (by omega) (by omega)
      have h3 := supply_step len ws f b
      have h4 := opensAt_range len ws (f + b)
      rcases hopen f (by omega) with ⟨h5, _⟩ | ⟨_, h5⟩
      · omega
      · exact absurd ⟨k, w, hw, hfa, by omega⟩ h5
  -- where it isn't there: back to where it was
  have hback : ∀ f : Nat, (f : Int) < len → leastTo len ws b ws.length ≤ sumN (fun s => opensAt len ws (f + s)) b := by
    intro f
    induction f with
    | zero => intro _; exact h0
    | succ f ih =>
      intro hf
      rcases hopen (f + 1) hf with ⟨_, ⟨k, w, hw, g1, g2⟩⟩ | ⟨_, hno⟩
      · exact hfwd k w hw (w.At + w.Len - ((f + 1 : Nat) : Int)).toNat (f + 1) (by omega) g1
      · rcases hopen f (by omega) with ⟨_, ⟨k, w, hw, g1, g2⟩⟩ | ⟨hz, _⟩
        · have : w.At + w.Len = ((f + 1 : Nat) : Int) := by
            by_cases hlt : ((f + 1 : Nat) : Int) < w.At + w.Len
            · exact absurd ⟨k, w, hw, by omega, hlt⟩ hno
            · omega
          have h1 := hend k w hw
          rw [this, Int.toNat_natCast] at h1
          exact h1
        · have h2 := ih (by omega)
          have h3 := supply_step len ws f b
          have h4 := opensAt_range len ws (f + b)
          omega
  -- frame by frame
  have hper : sumN (fun s => opensAt len ws (a + s)) b = sumN (fun s => opensAt len ws (((a : Int) % len).toNat + s)) b := sumN_congr fun s _ => by
    unfold opensAt
    have hm1 : 0 ≤ (a : Int) % len := Int.emod_nonneg _ (by omega)
    have e : ((a + s : Nat) : Int) % len = (((((a : Int) % len).toNat + s : Nat)) : Int) % len := by
      have e1 : (((((a : Int) % len).toNat + s : Nat)) : Int) = (a : Int) % len + s := by omega
      have e2 : ((a + s : Nat) : Int) = (a : Int) + s := by omega
      rw [e1, e2, Int.emod_add_emod]
    rw [e]
  rw [hper]
  have hm2 : (a : Int) % len < len := Int.emod_lt_of_pos _ (by omega)
  have hm1 : 0 ≤ (a : Int) % len := Int.emod_nonneg _ (by omega)
  exact hback _ (by omega)

theorem till_eq {len : Int} {ws : List SWindow} (h : FrameOk len ws) {t : Int} (ht : 0 ≤ t ∧ t ≤ 10000) (K : Nat) (hK : 30 ≤ K) : modes_till.f K ws t = some (tillW ws t) := by
  unfold modes_till.f
  have hm := h.many
  have hit := iter_states (ρ := Int) (f := modes_till.r0 ws t) (fun i => (tillTo ws t i, i)) (fun _ => none) ws.length (t := tillW ws t) (fun i hi _ => by
    have hi' : (i : Int) < (ws.length : Int) := by omega
    have hx : ws[i]? = some ws[i] := List.getElem?_eq_getElem hi
    have hw := h.each i _ hx
    have hf := h.frame
    have hb := tillTo_bounds h t i
    simp only [modes_till.r0, if_pos hi', hx, tillTo, onwardS, gmin_eq, gmax_eq]
    rw [wrap64_small (n := t - ws[i].At) (by omega) (by omega), wrap64_small (by omega) (by omega)]) (fun _ => by simp [modes_till.r0, tillW]) (K := K) (by omega)
  rw [show ((0 : Int), 0) = (tillTo ws t 0, 0) from rfl, hit, firstOf_none_of (fun _ _ _ => rfl)]
  rfl
theorem tillW_bounds {len : Int} {ws : List SWindow} (h : FrameOk len ws) (t : Int) : 0 ≤ tillW ws t ∧ tillW ws t ≤ 200000 := by
  have h1 := tillTo_bounds h t ws.length
  have h2 := h.many
  unfold tillW
  omega
theorem sumW_bounds {len : Int} {ws : List SWindow} (h : FrameOk len ws) {t : Int} (ht : 0 ≤ t ∧ t ≤ 40000) : (0 ≤ t / len * tillW ws len ∧ t / len * tillW ws len ≤ 8000000000) ∧ 0 ≤ sumW len ws t ∧ sumW len ws t ≤ 8000200000 := by
  have hf := h.frame
  have h1 : 0 ≤ t / len := Int.ediv_nonneg ht.1 (by omega)
  have h2 : t / len ≤ t := Int.ediv_le_self _ ht.1
  have h3 := tillW_bounds h len
  have h4 := tillW_bounds h (t % len)
  have h5 : 0 ≤ t / len * tillW ws len := Int.mul_nonneg h1 h3.1
  have h6 : t / len * tillW ws len ≤ 8000000000 := by
    calc t / len * tillW ws len ≤ 40000 * tillW ws len := Int.mul_le_mul_of_nonneg_right (by omega) h3.1
      _ ≤ 40000 * 200000 := Int.mul_le_mul_of_nonneg_left h3.2 (by omega)
      _ = 8000000000 := by decide
  unfold sumW
  omega
theorem sum_eq {len : Int} {ws : List SWindow} (h : FrameOk len ws) {t : Int} (ht : 0 ≤ t ∧ t ≤ 40000) (K : Nat) (hK : 30 ≤ K) : modes_supply_1.f K t len ws = some (sumW len ws t) := by
  have hf := h.frame
  have hb := sumW_bounds h ht
  have hm1 : 0 ≤ t % len := Int.emod_nonneg _ (by omega)
  have hm2 : t % len < len := Int.emod_lt_of_pos _ (by omega)
  have h1 : 0 ≤ t / len := Int.ediv_nonneg ht.1 (by omega)
  have h2 : t / len ≤ t := Int.ediv_le_self _ ht.1
  unfold modes_supply_1.f
  rw [if_neg (by omega), till_eq h ⟨by omega, by omega⟩ K hK]
  simp only
  rw [Int.tmod_eq_emod_of_nonneg ht.1, till_eq h ⟨by omega, by omega⟩ K hK]
  simp only
  rw [Int.tdiv_eq_ediv_of_nonneg ht.1, wrap64_small (n := t / len) (by omega) (by omega), wrap64_small (n := t / len * tillW ws len) (by omega) (by omega), wrap64_small (by unfold sumW at hb; omega) (by unfold sumW at hb; omega)]
  rfl
theorem supply_eq {len : Int} {ws : List SWindow} (h : FrameOk len ws) {a b : Int} (ha : 0 ≤ a ∧ a ≤ 20000) (hb : 0 ≤ b ∧ b ≤ 20000) (K : Nat) (hK : 30 ≤ K) : modes_supply.f K len ws a b = some (supplyOf len ws a b) := by
  have h1 := sumW_bounds h (t := a + b) ⟨by omega, by omega⟩
  have h2 := sumW_bounds h (t := a) ⟨by omega, by omega⟩
  unfold modes_supply.f
  rw [wrap64_small (n := a + b) (by omega) (by omega), sum_eq h ⟨by omega, by omega⟩ K hK]
  simp only
  rw [sum_eq h ⟨by omega, by omega⟩ K hK]
  simp only
  rw [wrap64_small (by omega) (by omega)]
  rfl
theorem least_eq {len : Int} {ws : List SWindow} (h : FrameOk len ws) {b : Int} (hb : 0 ≤ b ∧ b ≤ 20000) (K : Nat) (hK : 30 ≤ K) : modes_least.f K len ws b = some (leastTo len ws b ws.length) := by
  have hm := h.many
  unfold modes_least.f
  rw [supply_eq h ⟨by omega, by omega⟩ hb K hK]
  simp only
  have hit := iter_states (ρ := Int) (f := modes_least.r0 K len ws b) (fun i => (leastTo len ws b i, i)) (fun _ => none) ws.length (t := leastTo len ws b ws.length) (fun i hi _ => by
    have hi' : (i : Int) < (ws.length : Int) := by omega
    have hx : ws[i]? = some ws[i] := List.getElem?_eq_getElem hi
    have hw := h.each i _ hx
    have hf := h.frame
    simp only [modes_least.r0, if_pos hi', hx, leastTo, onwardS, gmin_eq]
    rw [wrap64_small (n := ws[i].At + ws[i].Len) (by omega) (by omega), supply_eq h ⟨by omega, by omega⟩ hb K hK]) (fun _ => by simp [modes_least.r0]) (K := K) (by omega)
  rw [show (supplyOf len ws 0 b, 0) = (leastTo len ws b 0, 0) from rfl, hit, firstOf_none_of (fun _ _ _ => rfl)]
  rfl
theorem wceil_eq {a b : Int} (ha : 0 ≤ a ∧ a ≤ 100000) (hb : 1 ≤ b ∧ b ≤ 100000) : modes_ceil.f a b = some (ceilD a b) := by
  unfold modes_ceil.f
  rw [if_neg (by omega), wrap64_small (n := a + b) (by omega) (by omega), wrap64_small (n := a + b - 1) (by omega) (by omega), Int.tdiv_eq_ediv_of_nonneg (by omega)]
  have h1 := ceilD_nonneg hb.1 ha.1
  have h2 := ceilD_le hb.1 ha.1
  show some (IntKind.i64.wrap (ceilD a b)) = _
  rw [wrap64_small (by omega) (by omega)]
theorem need_eq (l : List STask) (h : ∀ o ∈ l, Okt o) (hl : l.length ≤ 8) (i : Nat) (t : STask) (ht : l[i]? = some t) (w : Int) (hw : 1 ≤ w ∧ w ≤ 10000) (K : Nat) (hK : 9 ≤ K) : iter (modes_Within.r1 l (i : Int) t w) K (t.C, 0) = some (.inl (dem t 0 (aboveOf l i) w)) := by
  have htok := h t (List.mem_of_getElem? ht)
  have hC := htok.C
  have hr := iter_states (ρ := Int × SFault) (f := modes_Within.r1 l (i : Int) t w) (fun k => (t.C + wants (aboveTill l i k) w, k)) (fun _ => none) l.length (t := dem t 0 (aboveOf l i) w) (fun k hk _ => by
    have hk' : (k : Int) < (l.length : Int) := by omega
    have hkx : l[k]? = some l[k] := List.getElem?_eq_getElem hk
    have hok := h l[k] (List.getElem_mem hk)
    have hwb := want_bounds hok (w := w) ⟨by omega, by omega⟩
    have hsb := wants_bounds (os := aboveTill l i k) (fun o ho => h o (aboveTill_mem ho)) (w := w) ⟨by omega, by omega⟩
    have hlen := aboveTill_len l i k
    rw [aboveTill_succ hkx ht, wants_append]
    simp only [modes_Within.r1, if_pos hk', hkx, onwardS]
    by_cases h1 : (k : Int) = (i : Int)
    · rw [if_pos h1, if_neg (by omega), wants_nil, Int.add_zero]
    · rw [if_neg h1]
      by_cases h2 : l[k].P ≥ t.P
      · have hT := hok.T; have hJ := hok.J
        rw [if_pos h2, wrap64_small (n := w + l[k].J) (by omega) (by omega), wceil_eq ⟨by omega, by omega⟩ ⟨by omega, by omega⟩]
        simp only
        rw [wrap64_small (n := ceilD (w + l[k].J) l[k].T * l[k].C) (by omega) (by omega), wrap64_small (by omega) (by omega), if_pos ⟨by omega, h2⟩, wants_cons, wants_nil]
        congr 3
        omega
      · rw [if_neg h2, if_neg (fun h => h2 h.2), wants_nil, Int.add_zero]) (fun _ => by simp [modes_Within.r1, dem, aboveOf]) (K := K) (by omega)
  have h0 : t.C + wants (aboveTill l i 0) w = t.C := by
    show _ + wants [] w = _
    rw [wants_nil, Int.add_zero]
  rw [h0, firstOf_none_of (fun _ _ _ => rfl)] at hr
  rw [hr]; rfl
theorem Open_eq {len : Int} {ws : List SWindow} (hc : (frameFault len ws).Code = 0) (t : Nat) (K : Nat) (hK : 30 ≤ K) : modes_Hosted_1.f K (t : Int) len ws = some (decide (opensAt len ws t = 1)) := by
  obtain ⟨_, h⟩ := frameFault_ok hc
  have hf := h.frame; have hm := h.many
  have hp0 : modes_Open.p0 K len ws (t : Int) = some (.inl ()) := by
    unfold modes_Open.p0
    rw [if_neg (by omega), Frame_eq len ws K (by omega)]
    simp only
    rw [if_pos hc]
  unfold modes_Hosted_1.f modes_Open.f
  rw [hp0]
  simp only
  rw [if_neg (by omega)]
  have hit := iter_first0 (ρ := Bool) (τ := Unit) (f := modes_Open.r1 len ws (t : Int)) (fun i => match ws[i]? with | some w => if w.At ≤ (t : Int) % len ∧ (t : Int) % len < w.At + w.Len then some true else none | none => none) ws.length (t := ()) (fun i hi => by
    have hi' : (i : Int) < (ws.length : Int) := by omega
    have hx : ws[i]? = some ws[i] := List.getElem?_eq_getElem hi
    have hw := h.each i _ hx
    simp only [modes_Open.r1, if_pos hi', hx]
    rw [Int.tmod_eq_emod_of_nonneg (by omega), wrap64_small (n := ws[i].At + ws[i].Len) (by omega) (by omega)]
    by_cases h1 : (t : Int) % len ≥ ws[i].At
    · rw [if_pos h1]
      by_cases h2 : (t : Int) % len < ws[i].At + ws[i].Len
      · rw [if_pos h2, if_pos ⟨h1, h2⟩]; rfl
      · rw [if_neg h2, if_neg (fun h => h2 h.2)]; rfl
    · rw [if_neg h1, if_neg (fun h => h1 h.1)]; rfl) (by simp [modes_Open.r1]) (K := K) (by omega)
  rw [hit]
  cases hfst : firstOf (fun i => match ws[i]? with | some w => if w.At ≤ (t : Int) % len ∧ (t : Int) % len < w.At + w.Len then some true else none | none => none) ws.length 0 with
  | some r =>
    obtain ⟨i, _, hi, hg, _⟩ := firstOf_some hfst
    have hx : ws[i]? = some ws[i] := List.getElem?_eq_getElem hi
    simp only [hx] at hg
    split at hg
    · rename_i hh
      cases hg
      have : opensAt len ws t = 1 := by unfold opensAt; rw [if_pos ⟨i, _, hx, hh⟩]
      simp [leave, this]
    · cases hg
  | none =>
    have : opensAt len ws t = 0 := by
      unfold opensAt
      rw [if_neg]
      rintro ⟨i, w, hw, hh⟩
      have := firstOf_none hfst i (Nat.zero_le _) (lt_of_get hw)
      simp only [hw] at this
      rw [if_pos hh] at this
      cases this
    simp [leave, this]
noncomputable def tickW (jobs : List SJob) (len : Int) (ws : List SWindow) (t : Nat) (s : List Int × List Int) : List Int × List Int :=
  if opensAt len ws t = 1 then
    (if firstTo 1 jobs s.1 t jobs.length < 0 then s
    else (s.1.set (firstTo 1 jobs s.1 t jobs.length).toNat (s.1.getD (firstTo 1 jobs s.1 t jobs.length).toNat 0 - 1), if s.1.getD (firstTo 1 jobs s.1 t jobs.length).toNat 0 - 1 = 0 then s.2.set (firstTo 1 jobs s.1 t jobs.length).toNat ((t : Int) + 1) else s.2))
  else s
noncomputable def simW (jobs : List SJob) (len : Int) (ws : List SWindow) : Nat → List Int × List Int
  | 0 => (jobs.map (·.C), List.replicate jobs.length (-1))
  | t + 1 => tickW jobs len ws t (simW jobs len ws t)
structure SimWOk (jobs : List SJob) (s : List Int × List Int) : Prop where
  left : s.1.length = jobs.length
  ends : s.2.length = jobs.length
  each : ∀ (j : Nat), j < jobs.length → 0 ≤ s.1.getD j 0 ∧ s.1.getD j 0 ≤ 10000
theorem simW_ok {jobs : List SJob} (hj : ∀ e ∈ jobs, Okj e) (len : Int) (ws : List SWindow) : ∀ t, SimWOk jobs (simW jobs len ws t)
  | 0 => by
    refine ⟨by simp [simW], by simp [simW], fun j hjl => ?_⟩
    have he : jobs[j]? = some jobs[j] := List.getElem?_eq_getElem hjl
    have hC := (hj _ (List.getElem_mem hjl)).C
    have e2 : (jobs.map (·.C)).getD j 0 = jobs[j].C := by simp [List.getD, he]
    simp only [simW]
    rw [e2]
    omega
  | t + 1 => by
    have h := simW_ok hj len ws t
    show SimWOk jobs (tickW jobs len ws t (simW jobs len ws t))
    unfold tickW
    by_cases ho : opensAt len ws t = 1
    · rw [if_pos ho]
      rcases firstR jobs (simW jobs len ws t).1 (t : Int) h.left with ⟨h1, _⟩ | ⟨b, y, h1, h2, h3, h4, _⟩
      · simp only [h1]
        rw [if_pos (by omega)]
        exact h
      · simp only [h1, Int.toNat_natCast]
        rw [if_neg (by omega)]
        have hb := lt_of_get h2
        have hbl : b < (simW jobs len ws t).1.length := by rw [h.left]; exact hb
        refine ⟨by simp [h.left], by split <;> simp [h.ends], fun j hjl => ?_⟩
        simp only
        rw [getD_set _ _ _ _ hbl]
        have := h.each j hjl
        by_cases hbj : b = j
        · subst hbj; rw [if_pos rfl]; omega
        · rw [if_neg hbj]; exact this
    · rw [if_neg ho]; exact h
def nowOf (p : Int) (pre : Bool) (jobs : List SJob) (t : Int) (now : Int) (left : List Int) : Int :=
  if pre = true ∨ now < 0 ∨ left.getD now.toNat 0 = 0 then firstTo p jobs left t jobs.length else now
def tickP (p : Int) (pre : Bool) (jobs : List SJob) (t : Int) (s : Int × List Int × List Int) : Int × List Int × List Int :=
  let b := nowOf p pre jobs t s.1 s.2.1
  if b < 0 then (b, s.2.1, s.2.2)
  else
    let left' := s.2.1.set b.toNat (s.2.1.getD b.toNat 0 - 1)
    (b, left', if left'.getD b.toNat 0 = 0 then s.2.2.set b.toNat (t + 1) else s.2.2)
structure SimOk (jobs : List SJob) (s : Int × List Int × List Int) : Prop where
  left : s.2.1.length = jobs.length
  ends : s.2.2.length = jobs.length
  now : s.1 = -1 ∨ ∃ b : Nat, s.1 = (b : Int) ∧ b < jobs.length
  nonneg : ∀ j, 0 ≤ s.2.1.getD j 0
  small : ∀ j, s.2.1.getD j 0 ≤ 10000
theorem nowOf_cases {p : Int} {pre : Bool} {jobs : List SJob} {s : Int × List Int × List Int} (h : SimOk jobs s) (t : Int) : (nowOf p pre jobs t s.1 s.2.1 = -1) ∨
    ∃ b : Nat, nowOf p pre jobs t s.1 s.2.1 = (b : Int) ∧ b < jobs.length ∧ 0 < s.2.1.getD b 0 := by
  unfold nowOf
  by_cases hc : pre = true ∨ s.1 < 0 ∨ s.2.1.getD s.1.toNat 0 = 0
  · rw [if_pos hc]
    rcases firstTo_cases p jobs s.2.1 t jobs.length (Nat.le_refl _) with ⟨h1, _⟩ | ⟨b, y, h1, h2, h3, h4, _⟩
    · exact .inl h1
    · refine .inr ⟨b, h1, h2, ?_⟩
      have hb : s.2.1[b]? = some (s.2.1.getD b 0) := get_of_lt (by rw [h.left]; exact h2)
      unfold canJ at h4
      rw [h3, hb] at h4
      exact h4.2
  · rw [if_neg hc]
    rcases h.now with h1 | ⟨b, h1, h2⟩
    · exact .inl h1
    · refine .inr ⟨b, h1, h2, ?_⟩
      have h3 : ¬ s.2.1.getD b 0 = 0 := fun h' => hc (.inr (.inr (by rw [h1]; exact h')))
      have := h.nonneg b
      omega
theorem mget_mset {κ ν : Type} [DecidableEq κ] (k k' : κ) (v : ν) : ∀ m : List (κ × ν), mget (mset m k v) k' = if k' = k then some v else mget m k'
  | [] => by simp only [mset, mget]
  | (a, b) :: r => by
    simp only [mset]
    by_cases hk : k = a
    · subst hk
      rw [if_pos rfl]
      simp only [mget]
      by_cases h' : k' = k
      · rw [if_pos h', if_pos h']
      · rw [if_neg h', if_neg h', if_neg h']
    · rw [if_neg hk]
      simp only [mget]
      by_cases h' : k' = a
      · subst h'
        rw [if_pos rfl, if_neg (fun h => hk h.symm), if_pos rfl]
      · rw [if_neg h', if_neg h', mget_mset k k' v r]

theorem iter_rel {σ τ ρ : Type} {f : σ → Option (σ ⊕ (τ ⊕ ρ))} (R : Nat → σ → Prop) (T : τ → Prop) (n : Nat) (h : ∀ i s, i < n → R i s → ∃ s', f s = some (.inl s') ∧ R (i + 1) s') (he : ∀ s, R n s → ∃ t, f s = some (.inr (.inl t)) ∧ T t) {K : Nat} (hK : n < K) {s : σ} (hs : R 0 s) : ∃ t, iter f K s = some (.inl t) ∧ T t := by
  have key : ∀ (K i : Nat) (s : σ), i ≤ n → n - i < K → R i s → ∃ t, iter f K s = some (.inl t) ∧ T t := by
    intro K
    induction K with
    | zero => intro i _ _ hK; omega
    | succ K ih =>
      intro i s hi hK hR
      rw [iter_succ]
      by_cases hin : i = n
      · subst hin
        obtain ⟨t, h1, h2⟩ := he s hR
        exact ⟨t, by rw [h1], h2⟩
      · obtain ⟨s', h1, h2⟩ := h i s (by omega) hR
        rw [h1]
        exact ih (i + 1) s' (by omega) (by omega) h2
  exact key K 0 s (Nat.zero_le _) (by omega) hs
def ltJ (p : Int) (jobs : List SJob) (a b : Nat) : Prop := match jobs[a]?, jobs[b]? with
  | some x, some y => aheadJ p x y ∨ (¬ aheadJ p y x ∧ a < b)
  | _, _ => False
instance (p : Int) (jobs : List SJob) (a b : Nat) : Decidable (ltJ p jobs a b) := by unfold ltJ; split <;> infer_instance
theorem ltJ_iff {p : Int} {jobs : List SJob} {a b : Nat} {x y : SJob} (hx : jobs[a]? = some x) (hy : jobs[b]? = some y) : ltJ p jobs a b ↔ aheadJ p x y ∨ (¬ aheadJ p y x ∧ a < b) := by simp only [ltJ, hx, hy]
theorem Goes_eq (p : Int) (hp : p = 1 ∨ p = 2) (jobs : List SJob) (a b : Nat) (ha : a < jobs.length) (hb : b < jobs.length) : punctualref_Goes.f jobs (a : Int) (b : Int) p = some (decide (ltJ p jobs a b)) := by
  have h1 : jobs[a]? = some jobs[a] := List.getElem?_eq_getElem ha
  have h2 : jobs[b]? = some jobs[b] := List.getElem?_eq_getElem hb
  have hl := ltJ_iff (p := p) h1 h2
  generalize jobs[a] = x at h1 hl
  generalize jobs[b] = y at h2 hl
  have e : punctualref_Goes.p0 jobs (a : Int) (b : Int) = some (.inl (x.Task, x.At, x.C, x.Due, x.P, y.Task, y.At, y.C, y.Due, y.P)) := by
    simp only [punctualref_Goes.p0, Int.toNat_natCast, h1, h2]
    rw [if_pos (by omega), if_pos (by omega)]
  unfold punctualref_Goes.f
  rw [e, show decide (ltJ p jobs a b) = decide (aheadJ p x y ∨ (¬ aheadJ p y x ∧ a < b)) from decide_eq_decide.2 hl]
  have k1 : ∀ u v : SJob, aheadJ 1 u v ↔ (u.P > v.P ∨ (u.P = v.P ∧ u.At < v.At)) := fun u v => by unfold aheadJ; rw [if_pos rfl]
  have k2 : ∀ u v : SJob, aheadJ 2 u v ↔ (u.Due < v.Due ∨ (u.Due = v.Due ∧ u.At < v.At)) := fun u v => by unfold aheadJ; rw [if_neg (by decide)]
  rcases hp with rfl | rfl
  · simp only [k1, if_pos rfl, show ¬ ((1 : Int) = 2) by decide, if_true, if_false]
    split
    · split
      · congr 1; rw [decide_eq_decide]; omega
      · congr 1; rw [decide_eq_decide]; omega
    · congr 1; rw [decide_eq_decide]; omega
  · simp only [k2, show ¬ ((2 : Int) = 1) by decide, if_true, if_false]
    split
    · split
      · congr 1; rw [decide_eq_decide]; omega
      · congr 1; rw [decide_eq_decide]; omega
    · congr 1; rw [decide_eq_decide]; omega
theorem ltJ_total {p : Int} {jobs : List SJob} {a b : Nat} (ha : a < jobs.length) (hb : b < jobs.length) (h : a ≠ b) : ltJ p jobs a b ∨ ltJ p jobs b a := by
  have h1 : jobs[a]? = some jobs[a] := List.getElem?_eq_getElem ha
  have h2 : jobs[b]? = some jobs[b] := List.getElem?_eq_getElem hb
  rw [ltJ_iff h1 h2, ltJ_iff h2 h1]
  by_cases g1 : aheadJ p jobs[a] jobs[b]
  · exact .inl (.inl g1)
  by_cases g2 : aheadJ p jobs[b] jobs[a]
  · exact .inr (.inl g2)
  by_cases g3 : a < b
  · exact .inl (.inr ⟨g2, g3⟩)
  · exact .inr (.inr ⟨g1, by omega⟩)
theorem ltJ_trans {p : Int} {jobs : List SJob} {a b c : Nat} (ha : a < jobs.length) (hb : b < jobs.length) (hc : c < jobs.length) (h : ltJ p jobs a b) (k : ltJ p jobs b c) : ltJ p jobs a c := by
  have h1 : jobs[a]? = some jobs[a] := List.getElem?_eq_getElem ha
  have h2 : jobs[b]? = some jobs[b] := List.getElem?_eq_getElem hb
  have h3 : jobs[c]? = some jobs[c] := List.getElem?_eq_getElem hc
  rw [ltJ_iff h1 h2] at h
  rw [ltJ_iff h2 h3] at k
  rw [ltJ_iff h1 h3]
  unfold aheadJ at *
  split at h <;> simp_all <;> omega
theorem Played_r4_eq (p : Int) (hp : p = 1 ∨ p = 2) (jobs : List SJob) (L : List Nat) (i : Nat) (hi : i < jobs.length) (hL : ∀ q ∈ L, q < jobs.length) (hn : L.length ≤ 100000) : ∀ (k K : Nat), k ≤ L.length → k < K → (∀ q b, k ≤ q → L[q]? = some b → ltJ p jobs i b) →
    ∃ k' : Nat, iter (punctualref_Played.r4 jobs p (L.map fun q : Nat => (q : Int)) i) K (k : Int) = some (.inl (k' : Int)) ∧ k' ≤ L.length ∧ (∀ q b, k' ≤ q → L[q]? = some b → ltJ p jobs i b) ∧ (k' = 0 ∨ ∃ b, L[k' - 1]? = some b ∧ ¬ ltJ p jobs i b)
  | 0, K, _, hK, h => by
    obtain ⟨K, rfl⟩ : ∃ k, K = k + 1 := ⟨K - 1, by omega⟩
    refine ⟨0, ?_, Nat.zero_le _, h, .inl rfl⟩
    rw [iter_succ]
    simp [punctualref_Played.r4]
  | k + 1, K, hk, hK, h => by
    obtain ⟨K, rfl⟩ : ∃ k, K = k + 1 := ⟨K - 1, by omega⟩
    have hw : IntKind.i64.wrap (((k + 1 : Nat) : Int) - 1) = (k : Int) := by rw [wrap64_small (by omega) (by omega)]; omega
    have hb : L[k]? = some L[k] := List.getElem?_eq_getElem (by omega)
    have hbl : L[k] < jobs.length := hL _ (List.getElem_mem _)
    generalize L[k] = b at hb hbl
    have hget : (L.map fun q : Nat => (q : Int))[k]? = some (b : Int) := by rw [List.getElem?_map, hb]; rfl
    have e : punctualref_Played.r4 jobs p (L.map fun q : Nat => (q : Int)) i ((k + 1 : Nat) : Int) = if ltJ p jobs i b then some (.inl (k : Int)) else some (.inr (.inl ((k + 1 : Nat) : Int))) := by
      simp only [punctualref_Played.r4, hw, Int.toNat_natCast, hget, Goes_eq p hp jobs i b hi hbl, decide_eq_true_eq]
      rw [if_pos (by omega), if_pos (by omega)]
    rw [iter_succ, e]
    by_cases hl : ltJ p jobs i b
    · rw [if_pos hl]
      simp only
      refine Played_r4_eq p hp jobs L i hi hL hn k K (by omega) (by omega) fun q c hq hc => ?_
      by_cases hqk : q = k
      · subst hqk; rw [hb] at hc; cases hc; exact hl
      · exact h q c (by omega) hc
    · rw [if_neg hl]
      exact ⟨k + 1, rfl, hk, h, .inr ⟨b, by simpa using hb, hl⟩⟩
def Mp (mp : List (Int × Int)) (left : List Int) : Prop := ∀ j : Nat, (mget mp (j : Int)).getD 0 = left.getD j 0
structure There (p : Int) (jobs : List SJob) (left : List Int) (t : Int) (n : Nat) (L : List Nat) : Prop where
  lt : ∀ q ∈ L, q < n
  sorted : L.Pairwise (ltJ p jobs)
  head : (L = [] ∧ firstTo p jobs left t n = -1) ∨ ∃ b r, L = b :: r ∧ firstTo p jobs left t n = (b : Int)
  few : L.length ≤ n
theorem pairwise_insert {α : Type} {R : α → α → Prop} {L : List α} {k : Nat} {x : α} (h : L.Pairwise R) (h1 : ∀ y ∈ L.take k, R y x) (h2 : ∀ y ∈ L.drop k, R x y) : (L.take k ++ (x :: L.drop k)).Pairwise R := by
  rw [List.pairwise_append]
  have h0 := h
  rw [← List.take_append_drop k L, List.pairwise_append] at h0
  refine ⟨h0.1, List.pairwise_cons.2 ⟨h2, h0.2.1⟩, fun a ha b hb => ?_⟩
  rcases List.mem_cons.1 hb with rfl | hb
  · exact h1 a ha
  · exact h0.2.2 a ha b hb
theorem Played_r2_eq (p : Int) (hp : p = 1 ∨ p = 2) (jobs : List SJob) (left : List Int) (hl : left.length = jobs.length) (t : Int) (mp : List (Int × Int)) (hm : Mp mp left) (hj : jobs.length ≤ 4000) (K : Nat) (hK : jobs.length + 5 ≤ K) :
    ∃ L, iter (punctualref_Played.r2 K jobs p t mp) K ([], 0) = some (.inl (L.map fun q : Nat => (q : Int))) ∧ There p jobs left t jobs.length L := by
  have key := iter_rel (ρ := (List (List Int)) × (List Int)) (f := punctualref_Played.r2 K jobs p t mp) (fun i s => s.2 = i ∧ ∃ L : List Nat, s.1 = (L.map fun q : Nat => (q : Int)) ∧ There p jobs left t i L) (fun r => ∃ L : List Nat, r = (L.map fun q : Nat => (q : Int)) ∧ There p jobs left t jobs.length L) jobs.length (fun i s hi hR => by
    obtain ⟨m8, i2⟩ := s
    obtain ⟨rfl, L, rfl, hT⟩ := hR
    simp only at hi ⊢
    have hi' : (i2 : Int) < (jobs.length : Int) := by omega
    have hx : jobs[i2]? = some jobs[i2] := List.getElem?_eq_getElem hi
    have hy : left[i2]? = some (left.getD i2 0) := get_of_lt (by omega)
    have hp3 : punctualref_Played.p3 t mp i2 jobs[i2] = some (.inl (decide (canJ jobs left t i2))) := by
      simp only [punctualref_Played.p3, hm i2, canJ, hx, hy]
      by_cases h1 : jobs[i2].At ≤ t
      · simp [h1]
      · simp [h1]
    simp only [punctualref_Played.r2, if_pos hi', hx, hp3, decide_eq_true_eq]
    by_cases hc : canJ jobs left t i2
    · rw [if_pos hc]
      obtain ⟨k, e1, e2, e3, e4⟩ := Played_r4_eq p hp jobs L i2 hi (fun q hq => by have := hT.lt q hq; omega) (by have := hT.few; omega) L.length K (Nat.le_refl _) (by have := hT.few; omega) (fun q b hq hb => by have := lt_of_get hb; omega)
      have hle := hT.few
      simp only [List.length_map, e1, Int.toNat_natCast]
      rw [if_pos (by omega), if_pos e2]
      rw [show (List.take L.length (L.map fun q : Nat => (q : Int))) = L.map fun q : Nat => (q : Int) from List.take_of_length_le (by simp)]
      rw [if_pos (by simp; omega), if_pos (by simp; omega)]
      refine ⟨_, rfl, rfl, L.take k ++ (i2 :: L.drop k), by simp [List.map_take, List.map_drop], ?_⟩
      have hlt : ∀ q ∈ L, q < jobs.length := fun q hq => by have := hT.lt q hq; omega
      have hd : ∀ y ∈ L.drop k, ltJ p jobs i2 y := fun y hy => by
        obtain ⟨q, hq⟩ := List.mem_iff_getElem?.1 hy
        rw [List.getElem?_drop] at hq
        exact e3 (k + q) y (by omega) hq
      have hbefore : ∀ y ∈ L.take k, ltJ p jobs y i2 := fun y hy => by
        rcases e4 with h0 | ⟨b, hb, hnb⟩
        · subst h0; simp at hy
        · have hyL := List.mem_of_mem_take hy
          have hbL : b ∈ L := List.mem_of_getElem? hb
          have hbi : ltJ p jobs b i2 := (ltJ_total (hlt b hbL) hi (by have := hT.lt b hbL; omega)).resolve_right hnb
          obtain ⟨q, hq⟩ := List.mem_iff_getElem?.1 hy
          rw [List.getElem?_take] at hq
          split at hq
          · rename_i hqk
            by_cases hqe : q = k - 1
            · subst hqe; rw [hb] at hq; cases hq; exact hbi
            · have hpw := List.pairwise_iff_getElem.1 hT.sorted q (k - 1) (lt_of_get hq) (lt_of_get hb) (by omega)
              have g1 : L[q]'(lt_of_get hq) = y := by have := List.getElem?_eq_getElem (lt_of_get hq); rw [hq] at this; exact (Option.some.inj this).symm
              have g2 : L[k - 1]'(lt_of_get hb) = b := by have := List.getElem?_eq_getElem (lt_of_get hb); rw [hb] at this; exact (Option.some.inj this).symm
              rw [g1, g2] at hpw
              exact ltJ_trans (hlt y hyL) (hlt b hbL) hi hpw hbi
          · cases hq
      refine ⟨fun q hq => ?_, pairwise_insert hT.sorted hbefore hd, .inr ?_, by simp; omega⟩
      · rcases List.mem_append.1 hq with hq | hq
        · have := hT.lt q (List.mem_of_mem_take hq); omega
        · rcases List.mem_cons.1 hq with rfl | hq
          · omega
          · have := hT.lt q (List.mem_of_mem_drop hq); omega
      · simp only [firstTo, if_pos hc]
        rcases hT.head with ⟨rfl, h0⟩ | ⟨b, r, rfl, h0⟩
        · refine ⟨i2, [], by simp, ?_⟩
          rw [h0, if_pos (by omega)]
        · have hbi : b < i2 := hT.lt b (by simp)
          have hby : jobs[b]? = some jobs[b] := List.getElem?_eq_getElem (by omega)
          rw [h0, if_neg (by omega)]
          simp only [Int.toNat_natCast, hby, hx]
          rcases e4 with h4 | ⟨c, hcc, hnc⟩
          · subst h4
            have hlb : ltJ p jobs i2 b := hd b (by simp)
            rw [ltJ_iff hx hby] at hlb
            refine ⟨i2, b :: r, by simp, ?_⟩
            rw [if_pos (hlb.resolve_right (fun h => by omega))]
          · obtain ⟨k, rfl⟩ : ∃ j, k = j + 1 := ⟨k - 1, by
              rcases Nat.eq_zero_or_pos k with h | h
              · subst h
                simp only [Nat.zero_sub, List.getElem?_cons_zero, Option.some.injEq] at hcc
                subst hcc
                exact absurd (e3 0 b (Nat.le_refl _) rfl) hnc
              · omega⟩
            refine ⟨b, r.take k ++ (i2 :: r.drop k), by simp, ?_⟩
            have hbl : ltJ p jobs b i2 := hbefore b (by simp)
            rw [if_neg]
            intro ha
            rw [ltJ_iff hby hx] at hbl
            rcases hbl with h | h
            · unfold aheadJ at ha h
              by_cases hp1 : p = 1
              · rw [if_pos hp1] at ha h; omega
              · rw [if_neg hp1] at ha h; omega
            · exact h.1 ha
    · rw [if_neg hc]
      refine ⟨_, rfl, rfl, L, rfl, fun q hq => by have := hT.lt q hq; omega, hT.sorted, ?_, by have := hT.few; omega⟩
      simp only [firstTo, if_neg hc]
      exact hT.head) (fun s hR => by
    obtain ⟨m8, i2⟩ := s
    obtain ⟨rfl, L, rfl, hT⟩ := hR
    refine ⟨L.map fun q : Nat => (q : Int), by simp [punctualref_Played.r2], L, rfl, hT⟩) (K := K) (by omega) (s := ([], 0)) ⟨rfl, [], rfl, by simp, List.Pairwise.nil, .inl ⟨rfl, rfl⟩, Nat.le_refl _⟩
  obtain ⟨_, h1, L, rfl, h2⟩ := key
  exact ⟨L, h1, h2⟩
def runRow (b : Int) : List Int := if b < 0 then [] else [b]
theorem Played_tick (p : Int) (hp : p = 1 ∨ p = 2) (pre : Bool) (jobs : List SJob) (s : Int × List Int × List Int) (h : SimOk jobs s) (t : Nat) (ht : t ≤ 100000) (rows : List (List Int)) (hr : t < rows.length) (hprev : (t = 0 ∧ s.1 = -1) ∨ (0 < t ∧ rows[t - 1]? = some (runRow s.1))) (mp : List (Int × Int)) (hm : Mp mp s.2.1) (hj : jobs.length ≤ 4000) (K : Nat) (hK : jobs.length + 5 ≤ K) :
    ∃ L m12 mp', iter (punctualref_Played.r2 K jobs p (t : Int) mp) K ([], 0) = some (.inl L) ∧ punctualref_Played.p5 pre (t : Int) rows mp L = some (.inl m12) ∧ punctualref_Played.p6 1 m12 = some (.inl (runRow (nowOf p pre jobs (t : Int) s.1 s.2.1))) ∧
      iter (punctualref_Played.r7 (t : Int) (runRow (nowOf p pre jobs (t : Int) s.1 s.2.1))) K (0, s.2.2, mp) = some (.inl ((tickP p pre jobs (t : Int) s).2.2, mp')) ∧ Mp mp' (tickP p pre jobs (t : Int) s).2.1 := by
  obtain ⟨L, h1, hT⟩ := Played_r2_eq p hp jobs s.2.1 h.left (t : Int) mp hm hj K hK
  have hhead : ∃ m12, punctualref_Played.p5 pre (t : Int) rows mp (L.map fun q : Nat => (q : Int)) = some (.inl m12) ∧ ((m12 = [] ∧ nowOf p pre jobs (t : Int) s.1 s.2.1 = -1) ∨ ∃ (b : Nat) (r : List Int), m12 = (b : Int) :: r ∧ nowOf p pre jobs (t : Int) s.1 s.2.1 = (b : Int)) := by
    have hfirst : pre = true ∨ s.1 < 0 ∨ s.2.1.getD s.1.toNat 0 = 0 → (((L.map fun q : Nat => (q : Int)) = [] ∧ nowOf p pre jobs (t : Int) s.1 s.2.1 = -1) ∨ ∃ (b : Nat) (r : List Int), (L.map fun q : Nat => (q : Int)) = (b : Int) :: r ∧ nowOf p pre jobs (t : Int) s.1 s.2.1 = (b : Int)) := fun hc => by
      unfold nowOf
      rw [if_pos hc]
      rcases hT.head with ⟨rfl, g⟩ | ⟨b, r, rfl, g⟩
      · exact .inl ⟨rfl, g⟩
      · exact .inr ⟨b, r.map fun q : Nat => (q : Int), rfl, g⟩
    unfold punctualref_Played.p5
    by_cases hpre : pre = true
    · rw [if_pos hpre]
      exact ⟨_, rfl, hfirst (.inl hpre)⟩
    rw [if_neg hpre]
    rcases hprev with ⟨rfl, h0⟩ | ⟨hpos, hrow⟩
    · rw [if_neg (by omega)]
      exact ⟨_, rfl, hfirst (.inr (.inl (by omega)))⟩
    · have hw : IntKind.i64.wrap ((t : Int) - 1) = ((t - 1 : Nat) : Int) := by rw [wrap64_small (by omega) (by omega)]; omega
      rw [if_pos (by omega), hw, if_pos (by omega)]
      simp only [Int.toNat_natCast, hrow]
      by_cases hneg : s.1 < 0
      · have : runRow s.1 = [] := by unfold runRow; rw [if_pos hneg]
        rw [this, if_neg (by simp)]
        exact ⟨_, rfl, hfirst (.inr (.inl hneg))⟩
      · have : runRow s.1 = [s.1] := by unfold runRow; rw [if_neg hneg]
        rw [this, if_pos (by simp)]
        rcases h.now with h3 | ⟨b, h3, h4⟩
        · omega
        simp only [List.getElem?_cons_zero, h3, hm b]
        have hnn := h.nonneg b
        by_cases h5 : s.2.1.getD b 0 > 0
        · rw [if_pos h5]
          refine ⟨_, rfl, .inr ⟨b, [], rfl, ?_⟩⟩
          unfold nowOf
          rw [if_neg]
          rintro (h6 | h6 | h6)
          · exact hpre h6
          · omega
          · simp only [Int.toNat_natCast] at h6; omega
        · rw [if_neg h5]
          refine ⟨_, rfl, ?_⟩
          have := hfirst (.inr (.inr (by rw [h3]; simp only [Int.toNat_natCast]; omega)))
          rw [h3] at this
          exact this
  obtain ⟨m12, h2, h3⟩ := hhead
  have h4 : punctualref_Played.p6 1 m12 = some (.inl (runRow (nowOf p pre jobs (t : Int) s.1 s.2.1))) := by
    unfold punctualref_Played.p6 runRow
    rcases h3 with ⟨rfl, g⟩ | ⟨b, r, rfl, g⟩
    · rw [g]; simp
    · rw [g, if_neg (show ¬ ((b : Int) < 0) by omega)]
      cases r with
      | nil => simp
      | cons y r =>
        rw [if_pos (by simp only [List.length_cons]; omega), if_pos (by decide), if_pos (by simp)]
        rfl
  have h5 : ∃ mp', iter (punctualref_Played.r7 (t : Int) (runRow (nowOf p pre jobs (t : Int) s.1 s.2.1))) K (0, s.2.2, mp) = some (.inl ((tickP p pre jobs (t : Int) s).2.2, mp')) ∧ Mp mp' (tickP p pre jobs (t : Int) s).2.1 := by
    obtain ⟨K, rfl⟩ : ∃ k, K = k + 2 := ⟨K - 2, by omega⟩
    rcases nowOf_cases (p := p) (pre := pre) h (t : Int) with g1 | ⟨b, g1, g2, g3⟩
    · have hrow : runRow (nowOf p pre jobs (t : Int) s.1 s.2.1) = [] := by rw [g1]; rfl
      have htk : tickP p pre jobs (t : Int) s = (-1, s.2.1, s.2.2) := by unfold tickP; simp only [g1]; rw [if_pos (by omega)]
      rw [hrow, htk, iter_succ]
      exact ⟨mp, by simp [punctualref_Played.r7], hm⟩
    · have hrow : runRow (nowOf p pre jobs (t : Int) s.1 s.2.1) = [(b : Int)] := by rw [g1]; unfold runRow; rw [if_neg (by omega)]
      have hbl : b < s.2.1.length := by rw [h.left]; exact g2
      have hbe : b < s.2.2.length := by rw [h.ends]; exact g2
      have hsm := h.small b
      have hw : IntKind.i64.wrap (s.2.1.getD b 0 - 1) = s.2.1.getD b 0 - 1 := wrap64_small (by omega) (by omega)
      have hw1 : IntKind.i64.wrap ((t : Int) + 1) = (t : Int) + 1 := wrap64_small (by omega) (by omega)
      have hw2 : IntKind.i64.wrap ((0 : Int) + 1) = 1 := by decide
      have htk : tickP p pre jobs (t : Int) s = ((b : Int), s.2.1.set b (s.2.1.getD b 0 - 1), if s.2.1.getD b 0 - 1 = 0 then s.2.2.set b ((t : Int) + 1) else s.2.2) := by
        unfold tickP
        simp only [g1, Int.toNat_natCast]
        rw [if_neg (by omega), getD_set _ _ _ _ hbl, if_pos rfl]
      rw [hrow, htk]
      have hmp' : Mp (mset mp (b : Int) (s.2.1.getD b 0 - 1)) (s.2.1.set b (s.2.1.getD b 0 - 1)) := fun j => by
        rw [mget_mset, getD_set _ _ _ _ hbl]
        by_cases hjb : b = j
        · subst hjb; simp
        · rw [if_neg (by omega), if_neg hjb]; exact hm j
      refine ⟨_, ?_, hmp'⟩
      have e1 : punctualref_Played.r7 (t : Int) [(b : Int)] (0, s.2.2, mp) = some (.inl (1, (if s.2.1.getD b 0 - 1 = 0 then s.2.2.set b ((t : Int) + 1) else s.2.2), mset mp (b : Int) (s.2.1.getD b 0 - 1))) := by
        simp only [punctualref_Played.r7, List.length_cons, List.length_nil, Int.toNat_zero, List.getElem?_cons_zero, hm b, hw, hw1, hw2, mget_mset, if_true, Option.getD_some, Int.toNat_natCast, get_of_lt hbe]
        rw [if_pos (by decide), if_pos (by decide), if_pos (show (0 : Int) ≤ (b : Int) by omega)]
        split <;> rfl
      have e2 : ∀ q m, punctualref_Played.r7 (t : Int) [(b : Int)] (1, q, m) = some (.inr (.inl (q, m))) := fun q m => by simp [punctualref_Played.r7]
      rw [iter_succ, e1]
      simp only
      rw [iter_succ, e2]
  obtain ⟨mp', h6, h7⟩ := h5
  exact ⟨_, m12, mp', h1, h2, h4, h6, h7⟩

theorem CheckJobs_eq (l : List SJob) (K : Nat) (hK : 4010 ≤ K) : punctualref_CheckJobs.f K l = some (playFault l) := by
  unfold punctualref_CheckJobs.f playFault
  by_cases hl : (l.length : Int) > 4000
  · rw [if_pos hl, if_pos (by omega)]; rfl
  rw [if_neg hl, if_neg (by omega)]
  have hr := iter_first0 (f := punctualref_CheckJobs.r0 l) (playAt l) l.length (t := ()) (fun i hi => by
    have hi' : (i : Int) < (l.length : Int) := by omega
    simp only [punctualref_CheckJobs.r0, if_pos hi', List.getElem?_eq_getElem hi, playAt]
    generalize l[i] = e
    by_cases h : e.At < 0 ∨ e.At > 60000 ∨ e.C < 1 ∨ e.C > 10000 ∨ e.Due < 0 ∨ e.Due > 80000
    · rw [if_pos h]
      repeat' split
      all_goals first | rfl | omega
    · rw [if_neg h]
      rw [if_neg (by omega), if_neg (by omega), if_neg (by omega), if_neg (by omega), if_neg (by omega), if_neg (by omega)]
      rfl) (by simp [punctualref_CheckJobs.r0]) (K := K) (by omega)
  rw [hr]
  cases firstOf (playAt l) l.length 0 <;> rfl
theorem Played_r0_eq (jobs : List SJob) (hj : jobs.length ≤ 4000) (K : Nat) (hK : jobs.length + 5 ≤ K) : ∃ mp, iter (punctualref_Played.r0 jobs) K (0, List.replicate jobs.length 0, []) = some (.inl (List.replicate jobs.length (-1), mp)) ∧ Mp mp (jobs.map (·.C)) := by
  have key := iter_rel (ρ := (List (List Int)) × (List Int)) (f := punctualref_Played.r0 jobs) (fun i s => s.1 = i ∧ s.2.1.length = jobs.length ∧ (∀ q, q < i → s.2.1[q]? = some (-1)) ∧ ∀ j : Nat, (mget s.2.2 (j : Int)).getD 0 = if j < i then (jobs.map (·.C)).getD j 0 else 0) (fun r => r.1 = List.replicate jobs.length (-1) ∧ Mp r.2 (jobs.map (·.C))) jobs.length (fun i s hi hR => by
    obtain ⟨i1, m1, mp⟩ := s
    obtain ⟨rfl, h1, h2, h3⟩ := hR
    simp only at hi h1 h2 h3 ⊢
    have hi' : (i1 : Int) < (jobs.length : Int) := by omega
    have hx : jobs[i1]? = some jobs[i1] := List.getElem?_eq_getElem hi
    have hy : m1[i1]? = some (m1.getD i1 0) := get_of_lt (by omega)
    simp only [punctualref_Played.r0, if_pos hi', hx, hy]
    refine ⟨_, rfl, rfl, by simp [h1], fun q hq => ?_, fun j => ?_⟩
    · simp only [List.getElem?_set]
      by_cases hqi : i1 = q
      · subst hqi; rw [if_pos rfl, if_pos (by omega)]
      · rw [if_neg hqi]; exact h2 q (by omega)
    · simp only [mget_mset]
      by_cases hji : j = i1
      · subst hji
        rw [if_pos rfl, if_pos (by omega)]
        simp [List.getD, hx]
      · rw [if_neg (by omega), h3 j]
        by_cases hjl : j < i1
        · rw [if_pos hjl, if_pos (by omega)]
        · rw [if_neg hjl, if_neg (by omega)]) (fun s hR => by
    obtain ⟨i1, m1, mp⟩ := s
    obtain ⟨rfl, h1, h2, h3⟩ := hR
    simp only at h1 h2 h3
    refine ⟨(m1, mp), by simp [punctualref_Played.r0], ?_, fun j => ?_⟩
    · apply List.ext_getElem?
      intro q
      by_cases hq : q < jobs.length
      · rw [h2 q hq]; simp [hq]
      · rw [List.getElem?_eq_none (show m1.length ≤ q by omega), List.getElem?_eq_none (by simp; omega)]
    · rw [h3 j]
      by_cases hjl : j < jobs.length
      · rw [if_pos hjl]
      · rw [if_neg hjl]; simp [List.getD, List.getElem?_eq_none (show jobs.length ≤ j by omega)]) (K := K) (by omega) (s := (0, List.replicate jobs.length 0, [])) ⟨rfl, by simp, fun q hq => by omega, fun j => by simp [mget]⟩
  obtain ⟨⟨a, mp⟩, h1, h2, h3⟩ := key
  simp only at h2 h3
  subst h2
  exact ⟨mp, h1, h3⟩
def headOr (r : List Int) : Int := r.headD (-1)
theorem One_eq (rows : List (List Int)) (hn : rows.length ≤ 100000) (K : Nat) (hK : rows.length < K) : punctualref_One.f K rows = some (rows.map headOr) := by
  unfold punctualref_One.f
  rw [if_pos (by omega)]
  have key := iter_rel (ρ := List Int) (f := punctualref_One.r0 rows) (fun i s => s.1 = (i : Int) ∧ s.2.length = rows.length ∧ ∀ q, q < i → s.2[q]? = (rows.map headOr)[q]?) (fun r => r = rows.map headOr) rows.length (fun i s hi hR => by
    obtain ⟨z1, m1⟩ := s
    obtain ⟨rfl, h1, h2⟩ := hR
    simp only at hi h1 h2 ⊢
    have hi' : (i : Int) < (rows.length : Int) := by omega
    have hx : rows[i]? = some rows[i] := List.getElem?_eq_getElem hi
    have hy : m1[i]? = some (m1.getD i 0) := get_of_lt (by omega)
    have hw : IntKind.i64.wrap ((i : Int) + 1) = ((i + 1 : Nat) : Int) := by rw [wrap64_small (by omega) (by omega)]; omega
    have hset : ∀ v : Int, v = headOr rows[i] → ∀ q, q < i + 1 → (m1.set i v)[q]? = (rows.map headOr)[q]? := fun v hv q hq => by
      rw [List.getElem?_set]
      by_cases hqi : i = q
      · subst hqi
        rw [if_pos rfl, if_pos (by omega), List.getElem?_map, hx, hv]; rfl
      · rw [if_neg hqi]; exact h2 q (by omega)
    simp only [punctualref_One.r0, if_pos hi', if_pos (show (0 : Int) ≤ (i : Int) by omega), Int.toNat_natCast, hx, hy, hw]
    cases hr : rows[i] with
    | nil =>
      rw [if_neg (by simp)]
      exact ⟨_, rfl, rfl, by simp [h1], hset (-1) (by rw [hr]; rfl)⟩
    | cons x r =>
      rw [if_pos (by simp)]
      simp only [List.getElem?_cons_zero, List.getElem?_set_self (show i < m1.length by omega), List.set_set]
      exact ⟨_, rfl, rfl, by simp [h1], hset x (by rw [hr]; rfl)⟩) (fun s hR => by
    obtain ⟨z1, m1⟩ := s
    obtain ⟨rfl, h1, h2⟩ := hR
    simp only at h1 h2
    refine ⟨m1, by simp [punctualref_One.r0], ?_⟩
    apply List.ext_getElem?
    intro q
    by_cases hq : q < rows.length
    · exact h2 q hq
    · rw [List.getElem?_eq_none (by omega), List.getElem?_eq_none (by simp; omega)]) (K := K) hK (s := (0, List.replicate rows.length 0)) ⟨rfl, by simp, fun q hq => by omega⟩
  obtain ⟨_, h1, rfl⟩ := key
  rw [h1]

theorem There_eq {len : Int} {ws : List SWindow} (h : FrameOk len ws) (t : Nat) (K : Nat) (hK : 30 ≤ K) : punctualref_There.f K len ws (t : Int) = some (decide (opensAt len ws t = 1)) := by
  have hf := h.frame; have hm := h.many
  unfold punctualref_There.f
  have hit := iter_first0 (ρ := Bool) (τ := Unit) (f := punctualref_There.r0 len ws (t : Int)) (fun i => match ws[i]? with | some w => if w.At ≤ (t : Int) % len ∧ (t : Int) % len < w.At + w.Len then some true else none | none => none) ws.length (t := ()) (fun i hi => by
    have hi' : (i : Int) < (ws.length : Int) := by omega
    have hx : ws[i]? = some ws[i] := List.getElem?_eq_getElem hi
    have hw := h.each i _ hx
    simp only [punctualref_There.r0, if_pos hi', hx]
    rw [if_neg (by omega), Int.tmod_eq_emod_of_nonneg (by omega), wrap64_small (n := ws[i].At + ws[i].Len) (by omega) (by omega)]
    by_cases h1 : (t : Int) % len ≥ ws[i].At
    · rw [if_pos h1]
      by_cases h2 : (t : Int) % len < ws[i].At + ws[i].Len
      · rw [if_pos h2, if_pos ⟨h1, h2⟩]; rfl
      · rw [if_neg h2, if_neg (fun h => h2 h.2)]; rfl
    · rw [if_neg h1, if_neg (fun h => h1 h.1)]; rfl) (by simp [punctualref_There.r0]) (K := K) (by omega)
  rw [hit]
  cases hfst : firstOf (fun i => match ws[i]? with | some w => if w.At ≤ (t : Int) % len ∧ (t : Int) % len < w.At + w.Len then some true else none | none => none) ws.length 0 with
  | some r =>
    obtain ⟨i, _, hi, hg, _⟩ := firstOf_some hfst
    have hx : ws[i]? = some ws[i] := List.getElem?_eq_getElem hi
    simp only [hx] at hg
    split at hg
    · rename_i hh
      cases hg
      have : opensAt len ws t = 1 := by unfold opensAt; rw [if_pos ⟨i, _, hx, hh⟩]
      simp [leave, this]
    · cases hg
  | none =>
    have : opensAt len ws t = 0 := by
      unfold opensAt
      rw [if_neg]
      rintro ⟨i, w, hw, hh⟩
      have := firstOf_none hfst i (Nat.zero_le _) (lt_of_get hw)
      simp only [hw] at this
      rw [if_pos hh] at this
      cases this
    simp [leave, this]
theorem opens_cases (len : Int) (ws : List SWindow) (t : Nat) : opensAt len ws t = 1 ∨ (opensAt len ws t = 0 ∧ ¬ opensAt len ws t = 1) := by
  have := opensAt_range len ws t
  omega
noncomputable def sup (len : Int) (ws : List SWindow) (a b : Nat) : Int := sumN (fun s => opensAt len ws (a + s)) b
theorem sup_bounds (len : Int) (ws : List SWindow) (a : Nat) : ∀ b : Nat, 0 ≤ sup len ws a b ∧ sup len ws a b ≤ b
  | 0 => by simp [sup, sumN]
  | b + 1 => by
    have ih := sup_bounds len ws a b
    have := opensAt_range len ws (a + b)
    unfold sup at ih ⊢
    simp only [sumN]
    omega
noncomputable def leanTo (len : Int) (ws : List SWindow) (k : Nat) : Nat → Int
  | 0 => k
  | f + 1 => if sup len ws f k < leanTo len ws k f then sup len ws f k else leanTo len ws k f
theorem leanTo_facts (len : Int) (ws : List SWindow) (k : Nat) {M : Int} (hk : M ≤ k) : ∀ n, (∀ f, f < n → M ≤ sup len ws f k) → M ≤ leanTo len ws k n
  | 0, _ => hk
  | n + 1, h => by
    have ih := leanTo_facts len ws k hk n (fun f hf => h f (by omega))
    have := h n (by omega)
    simp only [leanTo]
    split <;> assumption
theorem leanTo_le (len : Int) (ws : List SWindow) (k : Nat) : ∀ n f, f < n → leanTo len ws k n ≤ sup len ws f k
  | 0, f, h => by omega
  | n + 1, f, h => by
    simp only [leanTo]
    by_cases hf : f = n
    · subst hf; split <;> omega
    · have := leanTo_le len ws k n f (by omega)
      split <;> omega
theorem sup_period {len : Int} {ws : List SWindow} (h : FrameOk len ws) (k : Nat) : sup len ws len.toNat k = sup len ws 0 k := by
  have hf := h.frame
  unfold sup
  refine sumN_congr fun s _ => ?_
  unfold opensAt
  have e : ((len.toNat + s : Nat) : Int) = (s : Int) + len * 1 := by omega
  rw [e, Int.add_mul_emod_self_left, Nat.zero_add]
theorem leastTo_sup {len : Int} {ws : List SWindow} (h : FrameOk len ws) (k : Nat) {M : Int} (hM : ∀ f : Nat, (f : Int) < len → M ≤ sup len ws f k) : ∀ n, M ≤ leastTo len ws k n
  | 0 => by
    have := supplyOf_eq h 0 k
    have h0 := hM 0 (by have := h.frame; omega)
    simp only [leastTo]
    simp only [Int.natCast_zero] at this
    rw [this]; exact h0
  | n + 1 => by
    have ih := leastTo_sup h k hM n
    simp only [leastTo]
    cases hn : ws[n]? with
    | none => exact ih
    | some w =>
      have hw := h.each n w hn
      have he := supplyOf_eq h (w.At + w.Len).toNat k
      rw [Int.toNat_of_nonneg (by omega)] at he
      have hf := h.frame
      have : M ≤ sup len ws (w.At + w.Len).toNat k := by
        by_cases hlt : w.At + w.Len < len
        · exact hM _ (by omega)
        · rw [show (w.At + w.Len).toNat = len.toNat by omega, sup_period h]
          exact hM 0 (by omega)
      simp only
      rw [he]
      have e : sumN (fun s => opensAt len ws ((w.At + w.Len).toNat + s)) k = sup len ws (w.At + w.Len).toNat k := rfl
      omega
theorem lean_least {len : Int} {ws : List SWindow} (h : FrameOk len ws) (k : Nat) : leanTo len ws k len.toNat = leastTo len ws k ws.length := by
  have hf := h.frame
  have h1 : leastTo len ws k ws.length ≤ leanTo len ws k len.toNat := by
    refine leanTo_facts len ws k ?_ _ (fun f _ => leastTo_all h k f)
    have := leastTo_all h k 0
    have := (sup_bounds len ws 0 k).2
    unfold sup at this
    omega
  have h2 : leanTo len ws k len.toNat ≤ leastTo len ws k ws.length := leastTo_sup h k (fun f hf' => leanTo_le len ws k _ f (by omega)) _
  omega
theorem Lean_eq {len : Int} {ws : List SWindow} (h : FrameOk len ws) (b : Nat) (hb : b ≤ 20000) (K : Nat) (hK : 20100 ≤ K) : ∃ l, punctualref_Lean.f K len ws (b : Int) = some l ∧ ∀ j : Nat, j ≤ b → l[j]? = some (leastTo len ws j ws.length) := by
  have hf := h.frame
  unfold punctualref_Lean.f
  have ew : (IntKind.i64.wrap ((b : Int) + 1)).toNat = b + 1 := by rw [wrap64_small (by omega) (by omega)]; omega
  rw [if_pos (by rw [wrap64_small (by omega) (by omega)]; omega), ew, if_pos (by omega)]
  obtain ⟨r, hr, m, rfl, hm1, hm2⟩ := iter_total (f := punctualref_Lean.r0 (b : Int)) (fun s => ∃ i : Nat, s.1 = (i : Int) ∧ i ≤ b + 1 ∧ s.2.length = b + 1 ∧ ∀ j, j < i → s.2[j]? = some (j : Int)) (fun s => ((b : Int) + 1 - s.1).toNat)
    (fun r => ∃ m, r = .inl m ∧ m.length = b + 1 ∧ ∀ j, j < b + 1 → m[j]? = some (j : Int)) (fun s hs => by
      obtain ⟨z, m⟩ := s
      obtain ⟨i, rfl, hi, hl, hj⟩ := hs
      simp only at hl hj
      simp only [punctualref_Lean.r0, ew, List.length_replicate]
      by_cases hlt : i < b + 1
      · left
        have hx : m[i]? = some (m[i]'(by omega)) := List.getElem?_eq_getElem _
        rw [if_pos (by omega), if_pos (by omega), Int.toNat_natCast, hx]
        have hw : IntKind.i64.wrap ((i : Int) + 1) = ((i + 1 : Nat) : Int) := by rw [wrap64_small (by omega) (by omega)]; rfl
        refine ⟨_, rfl, ⟨i + 1, hw, by omega, by simp [hl], fun j hji => ?_⟩, by simp only; rw [hw]; omega⟩
        simp only
        rw [List.getElem?_set]
        by_cases hij : i = j
        · subst hij; rw [if_pos rfl, if_pos (by omega)]
        · rw [if_neg hij]; exact hj j (by omega)
      · right
        obtain rfl : i = b + 1 := by omega
        rw [if_neg (by omega)]
        exact ⟨_, rfl, m, rfl, hl, hj⟩) K (0, List.replicate (b + 1) 0) ⟨0, rfl, Nat.zero_le _, by simp, fun j hj => by omega⟩ (by simp only; omega)
  rw [hr]
  simp only
  obtain ⟨r', hr', m', rfl, hm1', hm2'⟩ := iter_total (f := punctualref_Lean.r1 K len ws (b : Int)) (fun s => ∃ f : Nat, s.1 = (f : Int) ∧ (f : Int) ≤ len ∧ s.2.length = b + 1 ∧ ∀ j, j < b + 1 → s.2[j]? = some (leanTo len ws j f)) (fun s => (len - s.1).toNat)
    (fun r => ∃ m, r = .inl m ∧ m.length = b + 1 ∧ ∀ j, j < b + 1 → m[j]? = some (leanTo len ws j len.toNat)) (fun s hs => by
      obtain ⟨z, m⟩ := s
      obtain ⟨f, rfl, hfl, hl, hj⟩ := hs
      simp only at hl hj
      simp only [punctualref_Lean.r1]
      by_cases hlt : (f : Int) < len
      · left
        rw [if_pos hlt]
        obtain ⟨q, hq, m2, rfl, hq1, hq2⟩ := iter_total (f := punctualref_Lean.r2 K len ws (b : Int) (f : Int)) (fun s => ∃ k : Nat, s.1 = sup len ws f k ∧ s.2.1 = (k : Int) ∧ k ≤ b + 1 ∧ s.2.2.length = b + 1 ∧ ∀ j, j < b + 1 → s.2.2[j]? = some (if j < k then leanTo len ws j (f + 1) else leanTo len ws j f)) (fun s => ((b : Int) + 1 - s.2.1).toNat)
          (fun r => ∃ m2, r = .inl m2 ∧ m2.length = b + 1 ∧ ∀ j, j < b + 1 → m2[j]? = some (leanTo len ws j (f + 1))) (fun s hs => by
            obtain ⟨z3, z4, m6⟩ := s
            obtain ⟨k, rfl, rfl, hk, hl6, hj6⟩ := hs
            simp only at hl6 hj6
            have hs := sup_bounds len ws f k
            have hr := opensAt_range len ws (f + k)
            simp only [punctualref_Lean.r2]
            by_cases hkb : k < b + 1
            · left
              have hx := hj6 k hkb
              rw [if_neg (by omega)] at hx
              have hth := There_eq h (f + k) K (by omega)
              have hw1 : IntKind.i64.wrap ((f : Int) + k) = ((f + k : Nat) : Int) := by rw [wrap64_small (by omega) (by omega)]; omega
              have hw2 : IntKind.i64.wrap ((k : Int) + 1) = ((k + 1 : Nat) : Int) := by rw [wrap64_small (by omega) (by omega)]; rfl
              have hw3 : IntKind.i64.wrap (sup len ws f k + 1) = sup len ws f k + 1 := wrap64_small (by omega) (by omega)
              have e : sup len ws f (k + 1) = sup len ws f k + opensAt len ws (f + k) := rfl
              rw [if_pos (by omega), if_pos (by omega), Int.toNat_natCast, hx, hw1, hw2, hw3, hth]
              simp only [decide_eq_true_eq]
              have hset : sup len ws f k < leanTo len ws k f → ∀ j, j < b + 1 → (m6.set k (sup len ws f k))[j]? = some (if j < k + 1 then leanTo len ws j (f + 1) else leanTo len ws j f) := fun hlt' j hjb => by
                rw [List.getElem?_set]
                by_cases hkj : k = j
                · subst hkj
                  rw [if_pos rfl, if_pos (by omega), if_pos (by omega)]
                  simp only [leanTo]
                  rw [if_pos hlt']
                · rw [if_neg hkj, hj6 j hjb]
                  by_cases hjk : j < k
                  · rw [if_pos hjk, if_pos (by omega)]
                  · rw [if_neg hjk, if_neg (by omega)]
              have hkeep : ¬ sup len ws f k < leanTo len ws k f → ∀ j, j < b + 1 → m6[j]? = some (if j < k + 1 then leanTo len ws j (f + 1) else leanTo len ws j f) := fun hlt' j hjb => by
                rw [hj6 j hjb]
                by_cases hkj : k = j
                · subst hkj
                  rw [if_neg (by omega), if_pos (by omega)]
                  simp only [leanTo]
                  rw [if_neg hlt']
                · by_cases hjk : j < k
                  · rw [if_pos hjk, if_pos (by omega)]
                  · rw [if_neg hjk, if_neg (by omega)]
              by_cases hless : sup len ws f k < leanTo len ws k f
              · rw [if_pos hless]
                rcases opens_cases len ws (f + k) with ho | ⟨ho, hno⟩
                · rw [if_pos ho]
                  exact ⟨_, rfl, ⟨k + 1, by rw [e, ho], rfl, by omega, by simp [hl6], hset hless⟩, by simp only; omega⟩
                · rw [if_neg hno]
                  exact ⟨_, rfl, ⟨k + 1, by rw [e, ho, Int.add_zero], rfl, by omega, by simp [hl6], hset hless⟩, by simp only; omega⟩
              · rw [if_neg hless]
                rcases opens_cases len ws (f + k) with ho | ⟨ho, hno⟩
                · rw [if_pos ho]
                  exact ⟨_, rfl, ⟨k + 1, by rw [e, ho], rfl, by omega, hl6, hkeep hless⟩, by simp only; omega⟩
                · rw [if_neg hno]
                  exact ⟨_, rfl, ⟨k + 1, by rw [e, ho, Int.add_zero], rfl, by omega, hl6, hkeep hless⟩, by simp only; omega⟩
            · right
              obtain rfl : k = b + 1 := by omega
              rw [if_neg (by omega)]
              exact ⟨_, rfl, m6, rfl, hl6, fun j hjb => by rw [hj6 j hjb, if_pos hjb]⟩) K (0, 0, m) ⟨0, rfl, rfl, Nat.zero_le _, hl, fun j hjb => by rw [hj j hjb, if_neg (by omega)]⟩ (by simp only; omega)
        rw [hq]
        have hw : IntKind.i64.wrap ((f : Int) + 1) = ((f + 1 : Nat) : Int) := by rw [wrap64_small (by omega) (by omega)]; rfl
        exact ⟨_, rfl, ⟨f + 1, hw, by omega, hq1, hq2⟩, by simp only; rw [hw]; omega⟩
      · right
        rw [if_neg hlt]
        have : len.toNat = f := by omega
        exact ⟨_, rfl, m, rfl, hl, by rw [this]; exact hj⟩) K (0, m) ⟨0, rfl, by omega, hm1, fun j hj => hm2 j hj⟩ (by simp only; omega)
  rw [hr']
  exact ⟨m', rfl, fun j hj => by rw [hm2' j (by omega), lean_least h j]⟩

noncomputable def runW (jobs : List SJob) (len : Int) (ws : List SWindow) (t : Nat) : Int := if opensAt len ws t = 1 then firstTo 1 jobs (simW jobs len ws t).1 (t : Int) jobs.length else -1
noncomputable def runsW (jobs : List SJob) (len : Int) (ws : List SWindow) (n t : Nat) : List Int := (List.range n).map fun s => if s < t then runW jobs len ws s else 0
theorem runsW_len (jobs : List SJob) (len : Int) (ws : List SWindow) (n t : Nat) : (runsW jobs len ws n t).length = n := by simp [runsW]
theorem runsW_set (jobs : List SJob) (len : Int) (ws : List SWindow) {n t : Nat} (h : t < n) : (runsW jobs len ws n t).set t (runW jobs len ws t) = runsW jobs len ws n (t + 1) := by
  apply List.ext_getElem?
  intro q
  rw [List.getElem?_set, runsW_len]
  by_cases hq : t = q
  · subst hq
    rw [if_pos rfl, if_pos h]
    simp [runsW, h]
  · rw [if_neg hq]
    simp only [runsW, List.getElem?_map]
    by_cases hqn : q < n
    · rw [List.getElem?_range hqn]
      simp only [Option.map_some]
      by_cases hqi : q < t
      · rw [if_pos hqi, if_pos (by omega)]
      · rw [if_neg hqi, if_neg (by omega)]
    · rw [List.getElem?_eq_none (by simp; omega)]; rfl
noncomputable def hostedOf (jobs : List SJob) (len : Int) (ws : List SWindow) (n : Int) : SPlayed × SFault :=
  if (frameFault len ws).Code = 0 then
    (if (playFault jobs).Code = 0 then
      (if n < 0 ∨ n > 20000 then (⟨[], []⟩, ⟨3, 0⟩) else (⟨runsW jobs len ws n.toNat n.toNat, (simW jobs len ws n.toNat).2⟩, ⟨0, 0⟩))
    else (⟨[], []⟩, playFault jobs))
  else (⟨[], []⟩, frameFault len ws)
theorem Hosted_full (jobs : List SJob) (len : Int) (ws : List SWindow) (n : Int) (K : Nat) (hK : 20010 ≤ K) : modes_Hosted.f K jobs len ws n = some (hostedOf jobs len ws n) := by
  unfold modes_Hosted.f hostedOf
  rw [Frame_eq len ws K (by omega)]
  simp only
  by_cases hc : (frameFault len ws).Code = 0
  · rw [if_pos hc, if_pos hc]
    unfold modes_hosted.f
    rw [schedCheck_eq jobs K (by omega)]
    simp only
    by_cases hpn : ¬ (playFault jobs).Code = 0
    · rw [if_neg hpn, if_neg hpn]
      rfl
    have hpc := Decidable.of_not_not hpn
    rw [if_pos hpc, if_pos hpc]
    by_cases hn : n < 0 ∨ n > 20000
    · have hp0 : modes_hosted.p0 n = some (.inr (⟨[], []⟩, ⟨3, 0⟩)) := by
        unfold modes_hosted.p0
        repeat' split
        all_goals first | rfl | omega
      rw [hp0, if_pos hn]
    rw [if_neg hn]
    obtain ⟨en, rfl⟩ := Int.eq_ofNat_of_zero_le (show 0 ≤ n by omega)
    have hen : en ≤ 20000 := by omega
    obtain ⟨hl, _, hj⟩ := playFault_ok hpc
    have hp0 : modes_hosted.p0 (en : Int) = some (.inl ()) := by
      unfold modes_hosted.p0
      rw [if_neg (by omega), if_neg (by omega)]
    have hp1 : modes_hosted.p1 jobs (en : Int) = some (.inl (List.replicate en 0, List.replicate jobs.length 0)) := by
      unfold modes_hosted.p1
      rw [if_pos (by omega), if_pos (by omega), if_pos (by omega), Int.toNat_natCast]
    rw [hp0]
    simp only
    rw [hp1]
    simp only
    rw [if_pos (by omega)]
    have hit2 := iter_states (ρ := SPlayed × SFault) (f := modes_hosted.r2 jobs) (fun k => (k, (jobs.take k).map (·.C) ++ List.replicate (jobs.length - k) 0, List.replicate k (-1) ++ List.replicate (jobs.length - k) 0)) (fun _ => none) jobs.length (t := (jobs.map (·.C), List.replicate jobs.length (-1))) (fun i hi _ => by
      have hi' : (i : Int) < (jobs.length : Int) := by omega
      have hx : jobs[i]? = some jobs[i] := List.getElem?_eq_getElem hi
      have hlt : ((jobs.take i).map (·.C)).length = i := by simp; omega
      have e1 : ((jobs.take i).map (·.C) ++ List.replicate (jobs.length - i) (0 : Int))[i]? = some 0 := by
        rw [List.getElem?_append_right (by omega), hlt, Nat.sub_self, show jobs.length - i = (jobs.length - (i + 1)) + 1 by omega, List.replicate_succ]; rfl
      have e2 : (List.replicate i (-1) ++ List.replicate (jobs.length - i) (0 : Int))[i]? = some 0 := by
        rw [List.getElem?_append_right (by simp), List.length_replicate, Nat.sub_self, show jobs.length - i = (jobs.length - (i + 1)) + 1 by omega, List.replicate_succ]; rfl
      have e3 : ((jobs.take i).map (·.C) ++ List.replicate (jobs.length - i) (0 : Int)).set i jobs[i].C = (jobs.take (i + 1)).map (·.C) ++ List.replicate (jobs.length - (i + 1)) 0 := by
        rw [List.set_append_right _ _ (by omega), hlt, Nat.sub_self, show jobs.length - i = (jobs.length - (i + 1)) + 1 by omega, List.replicate_succ, List.set_cons_zero, List.take_add_one, hx, List.map_append, List.append_assoc]
        rfl
      have e4 : (List.replicate i (-1) ++ List.replicate (jobs.length - i) (0 : Int)).set i (-1) = List.replicate (i + 1) (-1) ++ List.replicate (jobs.length - (i + 1)) 0 := by
        rw [List.set_append_right _ _ (by simp), List.length_replicate, Nat.sub_self, show jobs.length - i = (jobs.length - (i + 1)) + 1 by omega, List.replicate_succ (n := jobs.length - (i + 1)), List.set_cons_zero, List.replicate_succ' (n := i)]
        simp
      simp only [modes_hosted.r2, if_pos hi', hx, e1, e2, e3, e4, onwardS]) (fun _ => by simp [modes_hosted.r2]) (K := K) (by omega)
    have h0 : (0, List.replicate jobs.length (0 : Int), List.replicate jobs.length (0 : Int)) = (0, (jobs.take 0).map (·.C) ++ List.replicate (jobs.length - 0) 0, List.replicate 0 (-1) ++ List.replicate (jobs.length - 0) 0) := by simp
    rw [h0, hit2, firstOf_none_of (fun _ _ _ => rfl)]
    simp only [leave]
    obtain ⟨r, hr1, rfl⟩ := iter_total (f := modes_hosted.r3 K jobs len ws (en : Int))
      (fun s => ∃ t : Nat, t ≤ en ∧ s.1 = (t : Int) ∧ s.2.1 = (simW jobs len ws t).1 ∧ s.2.2.1 = runsW jobs len ws en t ∧ s.2.2.2 = (simW jobs len ws t).2)
      (fun s => ((en : Int) - s.1).toNat) (fun r => r = .inl (runsW jobs len ws en en, (simW jobs len ws en).2)) (fun s hs => by
        obtain ⟨z, m11, m12, m13⟩ := s
        obtain ⟨t, hte, rfl, rfl, rfl, rfl⟩ := hs
        have hrl := runsW_len jobs len ws en t
        have hok := simW_ok hj len ws t
        have hw : IntKind.i64.wrap ((t : Int) + 1) = ((t + 1 : Nat) : Int) := by rw [wrap64_small (by omega) (by omega)]; rfl
        by_cases hlt : t < en
        · left
          have hlt' : (t : Int) < (en : Int) := by omega
          have hrs := runsW_set jobs len ws hlt
          unfold runW at hrs
          have hrx : (runsW jobs len ws en t)[t]? = some ((runsW jobs len ws en t)[t]'(by omega)) := List.getElem?_eq_getElem _
          have hrx2 : ((runsW jobs len ws en t).set t (-1))[t]? = some (-1) := by rw [List.getElem?_set, if_pos rfl, if_pos (by omega)]
          have hst : simW jobs len ws (t + 1) = tickW jobs len ws t (simW jobs len ws t) := rfl
          simp only [modes_hosted.r3, if_pos hlt', if_pos (show (0 : Int) ≤ (t : Int) by omega), Int.toNat_natCast, hrx, hrx2, hw, Open_eq hc t K (by omega), decide_eq_true_eq]
          by_cases ho : opensAt len ws t = 1
          · rw [if_pos ho] at hrs
            rw [if_pos ho, First_eqW 1 (.inl rfl) jobs _ (t : Int) hok.left K (by omega)]
            rcases firstR jobs (simW jobs len ws t).1 (t : Int) hok.left with ⟨h1, _⟩ | ⟨b, y, h1, h2, h3, h4, _⟩
            · rw [h1] at hrs
              simp only [h1]
              rw [if_pos (by omega)]
              have ht : tickW jobs len ws t (simW jobs len ws t) = simW jobs len ws t := by
                unfold tickW; rw [if_pos ho]; simp only [h1]; rw [if_pos (by omega)]
              refine ⟨_, rfl, ⟨t + 1, by omega, rfl, ?_, by simp only [List.set_set]; exact hrs, ?_⟩, by simp only; omega⟩ <;> rw [hst, ht]
            · have hb := lt_of_get h2
              have hbl : b < (simW jobs len ws t).1.length := by rw [hok.left]; exact hb
              have hbe : b < (simW jobs len ws t).2.length := by rw [hok.ends]; exact hb
              have k1 := hok.each b hb
              have g2 : ((simW jobs len ws t).1.set b ((simW jobs len ws t).1.getD b 0 - 1))[b]? = some ((simW jobs len ws t).1.getD b 0 - 1) := by simp [hbl]
              rw [h1] at hrs
              simp only [h1]
              rw [if_neg (by omega), if_pos (by omega)]
              simp only [Int.toNat_natCast, get_of_lt hbl]
              rw [wrap64_small (n := (simW jobs len ws t).1.getD b 0 - 1) (by omega) (by omega)]
              simp only [g2]
              have ht : tickW jobs len ws t (simW jobs len ws t) = ((simW jobs len ws t).1.set b ((simW jobs len ws t).1.getD b 0 - 1), if (simW jobs len ws t).1.getD b 0 - 1 = 0 then (simW jobs len ws t).2.set b ((t : Int) + 1) else (simW jobs len ws t).2) := by
                unfold tickW; rw [if_pos ho]; simp only [h1, Int.toNat_natCast]; rw [if_neg (by omega)]
              by_cases hs2 : (simW jobs len ws t).1.getD b 0 - 1 = 0
              · rw [if_pos hs2, get_of_lt hbe]
                rw [if_pos hs2] at ht
                refine ⟨_, rfl, ⟨t + 1, by omega, rfl, ?_, by simp only [List.set_set]; exact hrs, ?_⟩, by simp only; omega⟩ <;> (rw [hst, ht] <;> rfl)
              · rw [if_neg hs2]
                rw [if_neg hs2] at ht
                refine ⟨_, rfl, ⟨t + 1, by omega, rfl, ?_, by simp only [List.set_set]; exact hrs, ?_⟩, by simp only; omega⟩ <;> rw [hst, ht]
          · rw [if_neg ho] at hrs
            rw [if_neg ho]
            have ht : tickW jobs len ws t (simW jobs len ws t) = simW jobs len ws t := by
              unfold tickW; rw [if_neg ho]
            refine ⟨_, rfl, ⟨t + 1, by omega, rfl, ?_, by simp only [List.set_set]; exact hrs, ?_⟩, by simp only; omega⟩ <;> rw [hst, ht]
        · right
          obtain rfl : t = en := by omega
          refine ⟨_, by simp only [modes_hosted.r3]; rw [if_neg (by omega)], rfl⟩) K (0, jobs.map (·.C), List.replicate en 0, List.replicate jobs.length (-1)) ⟨0, Nat.zero_le _, rfl, rfl, by
        apply List.ext_getElem
        · simp [runsW]
        · intro i h1 h2; simp [runsW], rfl⟩ (by simp only; omega)
    rw [hr1]
    simp only [Int.toNat_natCast]
  · rw [if_neg hc, if_neg hc]
noncomputable def rowsW (jobs : List SJob) (len : Int) (ws : List SWindow) (n t : Nat) : List (List Int) := (List.range n).map fun s => if s < t then runRow (runW jobs len ws s) else []
theorem rowsW_get (jobs : List SJob) (len : Int) (ws : List SWindow) {n t s : Nat} (h : s < n) : (rowsW jobs len ws n t)[s]? = some (if s < t then runRow (runW jobs len ws s) else []) := by simp [rowsW, h]
theorem runW_cases {jobs : List SJob} (hj : ∀ e ∈ jobs, Okj e) (len : Int) (ws : List SWindow) (t : Nat) : runW jobs len ws t = -1 ∨ ∃ b : Nat, runW jobs len ws t = (b : Int) ∧ b < jobs.length := by
  unfold runW
  split
  · rcases firstTo_cases 1 jobs (simW jobs len ws t).1 (t : Int) jobs.length (Nat.le_refl _) with ⟨h1, _⟩ | ⟨b, y, h1, h2, _⟩
    · exact .inl h1
    · exact .inr ⟨b, h1, h2⟩
  · exact .inl rfl
theorem HostedPlayed_eq (jobs : List SJob) (hj : ∀ e ∈ jobs, Okj e) (hl : jobs.length ≤ 4000) {len : Int} {ws : List SWindow} (hw : FrameOk len ws) (n : Nat) (hn : n ≤ 20000) (K : Nat) (hK : 20100 ≤ K) : punctualref_Played.f K jobs 1 true 1 (n : Int) len ws = some (rowsW jobs len ws n n, (simW jobs len ws n).2) := by
  unfold punctualref_Played.f
  obtain ⟨mp, h1, h2⟩ := Played_r0_eq jobs hl K (by omega)
  rw [if_pos (by omega), h1]
  simp only [Int.toNat_natCast]
  rw [if_pos (by omega), if_pos (by omega)]
  have key := iter_rel (ρ := (List (List Int)) × (List Int)) (f := punctualref_Played.r1 K jobs 1 true 1 (n : Int) len ws) (fun t s => s.1 = (t : Int) ∧ s.2.1 = (simW jobs len ws t).2 ∧ s.2.2.1 = rowsW jobs len ws n t ∧ Mp s.2.2.2 (simW jobs len ws t).1) (fun r => r = ((simW jobs len ws n).2, rowsW jobs len ws n n)) n (fun t s ht hR => by
    obtain ⟨z1, m4, m5, mp⟩ := s
    obtain ⟨rfl, rfl, rfl, hm⟩ := hR
    simp only at hm ⊢
    have hok := simW_ok hj len ws t
    have hlen : (rowsW jobs len ws n t).length = n := by simp [rowsW]
    have hw1 : IntKind.i64.wrap ((t : Int) + 1) = ((t + 1 : Nat) : Int) := by rw [wrap64_small (by omega) (by omega)]; omega
    have hset : ∀ r, r = runRow (runW jobs len ws t) → (rowsW jobs len ws n t).set t r = rowsW jobs len ws n (t + 1) := fun r hr => by
      apply List.ext_getElem?
      intro q
      simp only [List.getElem?_set, hlen]
      by_cases hq : t = q
      · subst hq
        rw [if_pos rfl, if_pos ht, rowsW_get jobs len ws ht, if_pos (by omega), hr]
      · rw [if_neg hq]
        by_cases hqn : q < n
        · rw [rowsW_get jobs len ws hqn, rowsW_get jobs len ws hqn]
          by_cases hqt : q < t
          · rw [if_pos hqt, if_pos (by omega)]
          · rw [if_neg hqt, if_neg (by omega)]
        · rw [List.getElem?_eq_none (by omega), List.getElem?_eq_none (by simp [rowsW]; omega)]
    have hth : punctualref_HostedOf_1.f K (t : Int) len ws = some (decide (opensAt len ws t = 1)) := by
      unfold punctualref_HostedOf_1.f
      rw [There_eq hw t K (by omega)]
    have hst : simW jobs len ws (t + 1) = tickW jobs len ws t (simW jobs len ws t) := rfl
    simp only [punctualref_Played.r1, if_pos (show (t : Int) < (n : Int) by omega), hth, decide_eq_true_eq]
    by_cases ho : opensAt len ws t = 1
    · rw [if_pos ho]
      have hprev : ∃ now : Int, (now = -1 ∨ ∃ b : Nat, now = (b : Int) ∧ b < jobs.length) ∧ ((t = 0 ∧ now = -1) ∨ (0 < t ∧ (rowsW jobs len ws n t)[t - 1]? = some (runRow now))) := by
        rcases Nat.eq_zero_or_pos t with h | h
        · exact ⟨-1, .inl rfl, .inl ⟨h, rfl⟩⟩
        · exact ⟨runW jobs len ws (t - 1), runW_cases hj len ws (t - 1), .inr ⟨h, by rw [rowsW_get jobs len ws (by omega), if_pos (by omega)]⟩⟩
      obtain ⟨now, hnow, hprev⟩ := hprev
      have hso : SimOk jobs (now, (simW jobs len ws t).1, (simW jobs len ws t).2) := ⟨hok.left, hok.ends, hnow, fun j => by
        by_cases hjl : j < jobs.length
        · exact (hok.each j hjl).1
        · simp only [List.getD]; rw [List.getElem?_eq_none (by rw [hok.left]; omega)]; simp, fun j => by
        by_cases hjl : j < jobs.length
        · exact (hok.each j hjl).2
        · simp only [List.getD]; rw [List.getElem?_eq_none (by rw [hok.left]; omega)]; simp⟩
      obtain ⟨L, m12, mp', e1, e2, e3, e4, e5⟩ := Played_tick 1 (.inl rfl) true jobs (now, (simW jobs len ws t).1, (simW jobs len ws t).2) hso t (by omega) (rowsW jobs len ws n t) (by omega) hprev mp hm hl K (by omega)
      have hnf : nowOf 1 true jobs (t : Int) now (simW jobs len ws t).1 = runW jobs len ws t := by
        unfold nowOf runW
        rw [if_pos (.inl rfl), if_pos ho]
      have htk : (tickP 1 true jobs (t : Int) (now, (simW jobs len ws t).1, (simW jobs len ws t).2)).2 = simW jobs len ws (t + 1) := by
        rw [hst]
        unfold tickP tickW
        simp only [hnf]
        unfold runW
        rw [if_pos ho, if_pos ho]
        rcases firstR jobs (simW jobs len ws t).1 (t : Int) hok.left with ⟨g1, _⟩ | ⟨b, y, g1, g2, _⟩
        · rw [g1, if_pos (show (-1 : Int) < 0 by omega), if_pos (show (-1 : Int) < 0 by omega)]
        · have hbl : b < (simW jobs len ws t).1.length := by rw [hok.left]; exact lt_of_get g2
          rw [g1, if_neg (show ¬ ((b : Int) < 0) by omega), if_neg (show ¬ ((b : Int) < 0) by omega)]
          simp only [Int.toNat_natCast]
          rw [getD_set _ _ _ _ hbl, if_pos rfl]
      simp only [hnf] at e3 e4
      simp only [e1, e2, e3, e4, if_pos (show (0 : Int) ≤ (t : Int) by omega), Int.toNat_natCast, rowsW_get jobs len ws ht, hw1]
      refine ⟨_, rfl, rfl, ?_, hset _ rfl, ?_⟩
      · simp only; rw [htk]
      · simp only; rw [← htk]; exact e5
    · rw [if_neg ho, hw1]
      have hrun : runW jobs len ws t = -1 := by unfold runW; rw [if_neg ho]
      have htk : simW jobs len ws (t + 1) = simW jobs len ws t := by rw [hst]; unfold tickW; rw [if_neg ho]
      refine ⟨_, rfl, rfl, by simp only; rw [htk], ?_, by simp only; rw [htk]; exact hm⟩
      simp only
      rw [← hset [] (by rw [hrun]; rfl)]
      apply List.ext_getElem?
      intro q
      simp only [List.getElem?_set, hlen]
      by_cases hq : t = q
      · subst hq
        rw [if_pos rfl, if_pos ht, rowsW_get jobs len ws ht, if_neg (by omega)]
      · rw [if_neg hq]) (fun s hR => by
    obtain ⟨z1, m4, m5, mp⟩ := s
    obtain ⟨rfl, rfl, rfl, hm⟩ := hR
    exact ⟨_, by simp [punctualref_Played.r1], rfl⟩) (K := K) (by omega) (s := (0, List.replicate jobs.length (-1), List.replicate n [], mp)) ⟨rfl, rfl, by
      apply List.ext_getElem?
      intro q
      by_cases hq : q < n
      · rw [rowsW_get jobs len ws hq]; simp [hq]
      · rw [List.getElem?_eq_none (by simp; omega), List.getElem?_eq_none (by simp [rowsW]; omega)], h2⟩
  obtain ⟨_, h3, rfl⟩ := key
  rw [h3]
theorem rowsW_heads {jobs : List SJob} (hj : ∀ e ∈ jobs, Okj e) (len : Int) (ws : List SWindow) (n : Nat) : (rowsW jobs len ws n n).map headOr = runsW jobs len ws n n := by
  unfold rowsW runsW
  rw [List.map_map]
  apply List.map_congr_left
  intro s hs
  have hs' : s < n := by simpa using hs
  simp only [Function.comp_apply, if_pos hs']
  rcases runW_cases hj len ws s with h1 | ⟨b, h1, _⟩
  · rw [h1]; rfl
  · rw [h1]
    unfold runRow
    rw [if_neg (by omega)]
    rfl
theorem HostedOf_eq (jobs : List SJob) (len : Int) (ws : List SWindow) (hin : ∀ w ∈ ws, Ok.ok w) (n : Int) (K : Nat) (hK : 20100 ≤ K) : punctualref_HostedOf.f K jobs len ws n = some (hostedOf jobs len ws n) := by
  unfold punctualref_HostedOf.f hostedOf
  rw [CheckFrame_eq len ws hin K (by omega)]
  simp only
  by_cases hc : (frameFault len ws).Code = 0
  · rw [if_pos hc, if_pos hc, CheckJobs_eq jobs K (by omega)]
    simp only
    by_cases hpc : (playFault jobs).Code = 0
    · rw [if_pos hpc, if_pos hpc]
      obtain ⟨hl, _, hj⟩ := playFault_ok hpc
      obtain ⟨_, hfr⟩ := frameFault_ok hc
      by_cases h1 : n < 0
      · rw [if_pos h1, if_pos (.inl h1)]; rfl
      by_cases h2 : n > 20000
      · rw [if_neg h1, if_pos h2, if_pos (.inr h2)]; rfl
      rw [if_neg h1, if_neg h2, if_neg (by omega)]
      obtain ⟨m, rfl⟩ := Int.eq_ofNat_of_zero_le (show 0 ≤ n by omega)
      simp only [HostedPlayed_eq jobs hj hl hfr m (by omega) K hK, One_eq (rowsW jobs len ws m m) (by simp [rowsW]; omega) K (by simp [rowsW]; omega), rowsW_heads hj len ws m, Int.toNat_natCast]
    · rw [if_neg hpc, if_neg hpc]
      rfl
  · rw [if_neg hc, if_neg hc]
    rfl

noncomputable def withinAt (l : List STask) (i : Nat) (t : STask) (len : Int) (ws : List SWindow) (k : Nat) : Option (Int × SFault) :=
  if dem t 0 (aboveOf l i) (t.C + k) ≤ leastTo len ws (t.C + k) ws.length then some (t.C + k + t.J, ⟨0, 0⟩) else none
noncomputable def withinOf (l : List STask) (i : Int) (len : Int) (ws : List SWindow) : Int × SFault :=
  if (respOf l i 0).2.Code = 0 then
    (if (frameFault len ws).Code = 0 then
      (match l[i.toNat]? with
      | some t => (firstOf (withinAt l i.toNat t len ws) (t.D - t.J - t.C + 1).toNat 0).getD (0, ⟨13, i⟩)
      | none => (0, ⟨0, 0⟩))
    else (0, frameFault len ws))
  else (0, (respOf l i 0).2)
theorem Within_full (l : List STask) (i : Int) (len : Int) (ws : List SWindow) (K : Nat) (hK : 20100 ≤ K) : modes_Within.f K l i len ws = some (withinOf l i len ws) := by
  unfold modes_Within.f withinOf
  rw [Response_eq l i 0 K hK]
  simp only
  by_cases hr : (respOf l i 0).2.Code = 0
  · rw [if_pos hr, if_pos hr, Frame_eq len ws K (by omega)]
    simp only
    by_cases hc : (frameFault len ws).Code = 0
    · obtain ⟨hff, hi0, hil⟩ := respOf_range hr
      obtain ⟨n, rfl⟩ := Int.eq_ofNat_of_zero_le hi0
      have hnl : n < l.length := by omega
      have ht : l[n]? = some l[n] := List.getElem?_eq_getElem hnl
      rw [if_pos hc, if_pos hc, if_pos hi0, Int.toNat_natCast, ht]
      simp only
      generalize l[n] = t at ht
      have hset := (fixedFault_ok hff).1
      have hok := okt_of hset
      have hl8 := (setFault_ok hset).2.1
      have hto := hok t (List.mem_of_getElem? ht)
      have hC := hto.C; have hD := hto.D; have hJ := hto.J
      obtain ⟨_, hfr⟩ := frameFault_ok hc
      have hw0 : IntKind.i64.wrap (t.D - t.J) = t.D - t.J := wrap64_small (by omega) (by omega)
      have hit := iter_states (ρ := Int × SFault) (f := modes_Within.r0 K l (n : Int) len ws (respOf l (n : Int) 0) t) (fun k => t.C + (k : Int)) (withinAt l n t len ws) (t.D - t.J - t.C + 1).toNat (t := ()) (fun k hk _ => by
        have hwr : IntKind.i64.wrap (t.C + (k : Int) + 1) = t.C + ((k + 1 : Nat) : Int) := by rw [wrap64_small (by omega) (by omega)]; omega
        simp only [modes_Within.r0, hw0, if_pos (show t.C + (k : Int) ≤ t.D - t.J by omega), need_eq l hok hl8 n t ht (t.C + (k : Int)) ⟨by omega, by omega⟩ K (by omega), least_eq hfr (b := t.C + (k : Int)) ⟨by omega, by omega⟩ K (by omega), withinAt, hwr]
        by_cases hge : dem t 0 (aboveOf l n) (t.C + (k : Int)) ≤ leastTo len ws (t.C + (k : Int)) ws.length
        · rw [if_pos hge, if_pos hge, wrap64_small (by omega) (by omega)]
          rfl
        · rw [if_neg hge, if_neg hge]
          rfl) (fun _ => by
        simp only [modes_Within.r0, hw0]
        rw [if_neg (by omega)]) (K := K) (by omega)
      have h0 : t.C + ((0 : Nat) : Int) = t.C := by omega
      rw [h0] at hit
      rw [hit]
      cases firstOf (withinAt l n t len ws) (t.D - t.J - t.C + 1).toNat 0 <;> rfl
    · rw [if_neg hc, if_neg hc]
  · rw [if_neg hr, if_neg hr]
theorem needR_eq (l : List STask) (h : ∀ o ∈ l, Okt o) (hl : l.length ≤ 8) (i : Nat) (t : STask) (ht : l[i]? = some t) (w : Int) (hw : 1 ≤ w ∧ w ≤ 10000) (K : Nat) (hK : 9 ≤ K) : iter (punctualref_WithinOf.r1 l (i : Int) t w) K (t.C, 0) = some (.inl (dem t 0 (aboveOf l i) w)) := by
  have htok := h t (List.mem_of_getElem? ht)
  have hC := htok.C
  have hr := iter_states (ρ := Int × SFault) (f := punctualref_WithinOf.r1 l (i : Int) t w) (fun k => (t.C + wants (aboveTill l i k) w, k)) (fun _ => none) l.length (t := dem t 0 (aboveOf l i) w) (fun k hk _ => by
    have hk' : (k : Int) < (l.length : Int) := by omega
    have hkx : l[k]? = some l[k] := List.getElem?_eq_getElem hk
    have hok := h l[k] (List.getElem_mem hk)
    have hwb := want_bounds hok (w := w) ⟨by omega, by omega⟩
    have hsb := wants_bounds (os := aboveTill l i k) (fun o ho => h o (aboveTill_mem ho)) (w := w) ⟨by omega, by omega⟩
    have hlen := aboveTill_len l i k
    rw [aboveTill_succ hkx ht, wants_append]
    simp only [punctualref_WithinOf.r1, if_pos hk', hkx, onwardS]
    by_cases h1 : (k : Int) = (i : Int)
    · rw [if_pos h1, if_neg (by omega), wants_nil, Int.add_zero]
    · rw [if_neg h1]
      by_cases h2 : l[k].P ≥ t.P
      · have hT := hok.T; have hJ := hok.J
        rw [if_pos h2, wrap64_small (n := w + l[k].J) (by omega) (by omega), up_eq ⟨by omega, by omega⟩ ⟨by omega, by omega⟩]
        simp only
        rw [wrap64_small (n := ceilD (w + l[k].J) l[k].T * l[k].C) (by omega) (by omega), wrap64_small (by omega) (by omega), if_pos ⟨by omega, h2⟩, wants_cons, wants_nil]
        congr 3
        omega
      · rw [if_neg h2, if_neg (fun h => h2 h.2), wants_nil, Int.add_zero]) (fun _ => by simp [punctualref_WithinOf.r1, dem, aboveOf]) (K := K) (by omega)
  have h0 : t.C + wants (aboveTill l i 0) w = t.C := by
    show _ + wants [] w = _
    rw [wants_nil, Int.add_zero]
  rw [h0, firstOf_none_of (fun _ _ _ => rfl)] at hr
  rw [hr]; rfl
theorem WithinOf_full (l : List STask) (hl : ∀ t ∈ l, Ok.ok t) (i : Int) (len : Int) (ws : List SWindow) (hin : ∀ w ∈ ws, Ok.ok w) (K : Nat) (hK : 20100 ≤ K) (hs : ∀ t ∈ l, t.Name.size < K) : punctualref_WithinOf.f K l i len ws = some (withinOf l i len ws) := by
  unfold punctualref_WithinOf.f withinOf
  rw [ResponseOf_eq l hl i 0 K hK hs]
  simp only
  by_cases hr : (respOf l i 0).2.Code = 0
  · rw [if_pos hr, if_pos hr, CheckFrame_eq len ws hin K (by omega)]
    simp only
    by_cases hc : (frameFault len ws).Code = 0
    · obtain ⟨hff, hi0, hil⟩ := respOf_range hr
      obtain ⟨n, rfl⟩ := Int.eq_ofNat_of_zero_le hi0
      have hnl : n < l.length := by omega
      have ht : l[n]? = some l[n] := List.getElem?_eq_getElem hnl
      rw [if_pos hc, if_pos hc, if_pos hi0, Int.toNat_natCast, ht]
      simp only
      generalize l[n] = t at ht
      have hset := (fixedFault_ok hff).1
      have hok := okt_of hset
      have hl8 := (setFault_ok hset).2.1
      have hto := hok t (List.mem_of_getElem? ht)
      have hC := hto.C; have hD := hto.D; have hJ := hto.J
      obtain ⟨_, hfr⟩ := frameFault_ok hc
      obtain ⟨d, hd⟩ := Int.eq_ofNat_of_zero_le (show 0 ≤ t.D by omega)
      obtain ⟨lean, e1, e2⟩ := Lean_eq hfr d (by omega) K hK
      rw [hd, e1]
      simp only
      rw [← hd]
      have hit := iter_states (ρ := Int × SFault) (f := punctualref_WithinOf.r0 K l (n : Int) (respOf l (n : Int) 0) t lean) (fun k => t.C + (k : Int)) (withinAt l n t len ws) (t.D - t.J - t.C + 1).toNat (t := ()) (fun k hk _ => by
        have hwr : IntKind.i64.wrap (t.C + (k : Int) + 1) = t.C + ((k + 1 : Nat) : Int) := by rw [wrap64_small (by omega) (by omega)]; omega
        have hw0 : IntKind.i64.wrap (t.C + (k : Int) + t.J) = t.C + (k : Int) + t.J := wrap64_small (by omega) (by omega)
        have hle : lean[(t.C + (k : Int)).toNat]? = some (leastTo len ws (t.C + (k : Int)) ws.length) := by
          rw [e2 (t.C + (k : Int)).toNat (by omega), show (((t.C + (k : Int)).toNat : Nat) : Int) = t.C + (k : Int) by omega]
        simp only [punctualref_WithinOf.r0, hw0, if_pos (show t.C + (k : Int) + t.J ≤ t.D by omega), needR_eq l hok hl8 n t ht (t.C + (k : Int)) ⟨by omega, by omega⟩ K (by omega), if_pos (show 0 ≤ t.C + (k : Int) by omega), hle, withinAt, hwr]
        by_cases hge : dem t 0 (aboveOf l n) (t.C + (k : Int)) ≤ leastTo len ws (t.C + (k : Int)) ws.length
        · rw [if_pos hge, if_pos hge]
          rfl
        · rw [if_neg hge, if_neg hge]
          rfl) (fun _ => by
        simp only [punctualref_WithinOf.r0]
        rw [wrap64_small (by omega) (by omega), if_neg (by omega)]) (K := K) (by omega)
      have h0 : t.C + ((0 : Nat) : Int) = t.C := by omega
      rw [h0] at hit
      rw [hit]
      cases firstOf (withinAt l n t len ws) (t.D - t.J - t.C + 1).toNat 0 <;> rfl
    · rw [if_neg hc, if_neg hc]
  · rw [if_neg hr, if_neg hr]
theorem hostedOf_len (jobs : List SJob) (len : Int) (ws : List SWindow) (n : Int) : (hostedOf jobs len ws n).1.Runs.length ≤ 20000 ∧ (hostedOf jobs len ws n).1.Ends.length ≤ 4000 := by
  unfold hostedOf
  split
  · split
    · rename_i hpc
      obtain ⟨hl, _, hj⟩ := playFault_ok hpc
      split
      · simp
      · refine ⟨by simp only [runsW_len]; omega, ?_⟩
        simp only
        rw [(simW_ok hj len ws n.toNat).ends]
        exact hl
    · simp
  · simp
theorem WindowsPlay_law (l0 : List STask) (x1 x2 : Int) (l3 : List SWindow) (l4 : List SJob) (x5 : Int) (ok0 : ∀ y ∈ l0, Ok.ok y) (ok1 : In64 x1) (ok2 : In64 x2) (ok3 : ∀ y ∈ l3, Ok.ok y) (ok4 : ∀ y ∈ l4, Ok.ok y) (ok5 : In64 x5) : ∃ K, WindowsPlay.f K l0 x1 x2 l3 l4 x5 = some true := by
  refine ⟨18446744073709551616, ?_⟩
  have ha : opens.f 18446744073709551616 = some true := by kernel_rfl
  have hs : ∀ t ∈ l0, t.Name.size < 18446744073709551616 := fun t ht => by have : t.Name.size ≤ 9223372036854775807 := (ok0 t ht).1; omega
  generalize hKd : 18446744073709551616 = K at ha hs ⊢
  have hK : 30000 ≤ K := by omega
  unfold WindowsPlay.f
  rw [ha]
  simp only [if_true]
  have hp0 : WindowsPlay.p0 l0 x2 l3 l4 x5 = some (.inr true) ∨ (WindowsPlay.p0 l0 x2 l3 l4 x5 = some (.inl ()) ∧ few.f (l0.length : Int) = true ∧ few.f (l3.length : Int) = true ∧ few.f (l4.length : Int) = true) := by
    unfold WindowsPlay.p0
    repeat' split
    all_goals first | exact .inl rfl | exact .inr ⟨rfl, by assumption, by assumption, by assumption⟩
  rcases hp0 with hp0 | ⟨hp0, f0, f1, f2⟩
  · simp only [hp0]
  have g0 := few_true f0
  have g1 := few_true f1
  have g2 := few_true f2
  have hr1 := iter_first0 (f := WindowsPlay.r1 l0) (fun i => match l0[i]? with | some e => if e.D > 500 ∧ e.D ≤ 10000 then some true else none | none => none) l0.length (t := ()) (fun i hi => by
    have hi' : (i : Int) < (l0.length : Int) := by omega
    simp only [WindowsPlay.r1, if_pos hi', List.getElem?_eq_getElem hi]
    by_cases h1 : l0[i].D > 500
    · rw [if_pos h1]
      by_cases h2 : l0[i].D ≤ 10000
      · rw [if_pos h2, if_pos ⟨h1, h2⟩]; rfl
      · rw [if_neg h2, if_neg (fun h => h2 h.2)]; rfl
    · rw [if_neg h1, if_neg (fun h => h1 h.1)]; rfl) (by simp [WindowsPlay.r1]) (K := K) (by omega)
  simp only [hp0, hr1]
  cases hf : firstOf (fun i => match l0[i]? with | some e => if e.D > 500 ∧ e.D ≤ 10000 then some true else none | none => none) l0.length 0 with
  | some r =>
    obtain ⟨i, _, hi, hg, _⟩ := firstOf_some hf
    simp only [List.getElem?_eq_getElem hi] at hg
    split at hg
    · cases hg; rfl
    · cases hg
  | none =>
    obtain ⟨r0, e0⟩ := punctualsame_Lend_api_Task_some l0 ⟨⟨#[63]⟩, (-9), 0, 0, 0, 0, 0⟩ g0
    obtain ⟨r1, e1⟩ := punctualsame_Lend_api_Window_some l3 ⟨(-9), 0⟩ g1
    obtain ⟨r2, e2⟩ := punctualsame_Lend_api_Job_some l4 ⟨(-9), 0, 0, 0, 0⟩ g2
    obtain ⟨q1, q2⟩ := hostedOf_len l4 x2 l3 x5
    have hp2 : WindowsPlay.p2 (withinOf l0 x1 x2 l3) (withinOf l0 x1 x2 l3) = some (.inl ()) := by
      unfold WindowsPlay.p2
      rw [if_pos rfl, if_pos (SFault.eqb_self _)]
    have hr := iter_first0 (f := WindowsPlay.r3 K x2 l3 l4 x5 (hostedOf l4 x2 l3 x5)) (fun _ => none) 2 (t := ()) (fun i hi => by
      have hi' : (i : Int) < 2 := by omega
      simp only [WindowsPlay.r3, if_pos hi', Hosted_full l4 x2 l3 x5 K (by omega), SFault.eqb_self, if_true, punctualsame_Played.f, punctualsame_Same_int_self _ K (show (hostedOf l4 x2 l3 x5).1.Runs.length < K by omega), punctualsame_Same_int_self _ K (show (hostedOf l4 x2 l3 x5).1.Ends.length < K by omega), onward]) (by simp [WindowsPlay.r3]) (K := K) (by omega)
    rw [firstOf_none_of (fun _ _ _ => rfl)] at hr
    simp only [leave, e0, e1, e2, Within_full l0 x1 x2 l3 K (by omega), WithinOf_full l0 ok0 x1 x2 l3 ok3 K (by omega) hs, hp2, HostedOf_eq l4 x2 l3 ok3 x5 K (by omega), hr,
      punctualsame_Still_api_Task_true l0 _ K g0 (by omega), punctualsame_Still_api_Window_true l3 _ K g1 (by omega), punctualsame_Still_api_Job_true l4 _ K g2 (by omega), if_true]

end Go.Proofs.YtcogbnkioobmkaaDoor.GV
