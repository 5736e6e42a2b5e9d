/- Plain words: GvLTasksJobs. -/
import Derived.Test.YtlipdmblinjjaaaDoorGWTasksJobs3
import Derived.Test.YtlipdmblinjjaaaDoorGv17
namespace Go.Proofs.YtlipdmblinjjaaaDoor.GV
open Go Go.RowKit
set_option linter.unusedVariables false
set_option linter.unusedSimpArgs false
theorem STask.eqb_self (x : STask) : STask.eqb x x = true := by simp [STask.eqb]
theorem SFault.eqb_self (x : SFault) : SFault.eqb x x = true := by simp [SFault.eqb]
theorem SCome.eqb_self (x : SCome) : SCome.eqb x x = true := by simp [SCome.eqb]
theorem SJob.eqb_self (x : SJob) : SJob.eqb x x = true := by simp [SJob.eqb]
theorem A6Int.eqb_self (x : A6Int) : A6Int.eqb x x = true := by simp [A6Int.eqb]
theorem punctualsame_Lend_api_Task_some (l : List STask) (a : STask) (h : l.length ≤ 5000) : ∃ r, punctualsame_Lend_api_Task.f l a = some r := by
  have hw : IntKind.i64.wrap ((l.length : Int) + 3) = (l.length : Int) + 3 := wrap64_small (by omega) (by omega)
  unfold punctualsame_Lend_api_Task.f
  rw [hw, if_pos (by omega), if_pos (by omega), if_pos (by simp; omega), if_pos (by simp; omega)]
  exact ⟨_, rfl⟩
theorem punctualsame_Lend_api_Come_some (l : List SCome) (a : SCome) (h : l.length ≤ 5000) : ∃ r, punctualsame_Lend_api_Come.f l a = some r := by
  have hw : IntKind.i64.wrap ((l.length : Int) + 3) = (l.length : Int) + 3 := wrap64_small (by omega) (by omega)
  unfold punctualsame_Lend_api_Come.f
  rw [hw, if_pos (by omega), if_pos (by omega), if_pos (by simp; omega), if_pos (by simp; omega)]
  exact ⟨_, rfl⟩
theorem punctualsame_Lend_int_some (l : List Int) (a : Int) (h : l.length ≤ 5000) : ∃ r, punctualsame_Lend_int.f l a = some r := by
  have hw : IntKind.i64.wrap ((l.length : Int) + 3) = (l.length : Int) + 3 := wrap64_small (by omega) (by omega)
  unfold punctualsame_Lend_int.f
  rw [hw, if_pos (by omega), if_pos (by omega), if_pos (by simp; omega), if_pos (by simp; omega)]
  exact ⟨_, rfl⟩
theorem punctualsame_Still_api_Task_true (l : List STask) (a : STask) (K : Nat) (hl : l.length ≤ 5000) (hK : 5010 ≤ K) : punctualsame_Still_api_Task.f K (l ++ [a, a, a]) l a = some true := by
  have hw : IntKind.i64.wrap ((l.length : Int) + 3) = (l.length : Int) + 3 := wrap64_small (by omega) (by omega)
  have hr := iter_first0 (f := punctualsame_Still_api_Task.r0 (l ++ [a, a, a]) l a) (fun _ => none) (l.length + 3) (t := ()) (fun i hi => by
    have h' : (i : Int) < ((l ++ [a, a, a] : List STask).length : Int) := by simp; omega
    simp only [punctualsame_Still_api_Task.r0, if_pos h']
    by_cases h2 : i < l.length
    · have h2' : (i : Int) < (l.length : Int) := by omega
      have h3 : ¬ (i : Int) ≥ (l.length : Int) := by omega
      rw [List.getElem?_append_left h2, List.getElem?_eq_getElem h2]
      simp only [if_pos h2', STask.eqb_self, if_true, if_neg h3, onward]
    · have h2' : ¬ (i : Int) < (l.length : Int) := by omega
      have h3 : (i : Int) ≥ (l.length : Int) := by omega
      rw [List.getElem?_append_right (by omega)]
      have : i - l.length = 0 ∨ i - l.length = 1 ∨ i - l.length = 2 := by omega
      rcases this with e | e | e <;> simp [e, h2', h3, onward, STask.eqb_self]) (by
    have h' : ¬ ((l.length + 3 : Nat) : Int) < ((l ++ [a, a, a] : List STask).length : Int) := by simp
    simp only [punctualsame_Still_api_Task.r0, if_neg h']) (K := K) (by omega)
  rw [firstOf_none_of (fun _ _ _ => rfl)] at hr
  have hlen : IntKind.i64.wrap ((l.length : Int) + 3) = ((l ++ [a, a, a] : List STask).length : Int) := by rw [hw]; simp
  simp only [punctualsame_Still_api_Task.f, if_pos hlen, hr, leave]
theorem punctualsame_Still_api_Come_true (l : List SCome) (a : SCome) (K : Nat) (hl : l.length ≤ 5000) (hK : 5010 ≤ K) : punctualsame_Still_api_Come.f K (l ++ [a, a, a]) l a = some true := by
  have hw : IntKind.i64.wrap ((l.length : Int) + 3) = (l.length : Int) + 3 := wrap64_small (by omega) (by omega)
  have hr := iter_first0 (f := punctualsame_Still_api_Come.r0 (l ++ [a, a, a]) l a) (fun _ => none) (l.length + 3) (t := ()) (fun i hi => by
    have h' : (i : Int) < ((l ++ [a, a, a] : List SCome).length : Int) := by simp; omega
    simp only [punctualsame_Still_api_Come.r0, if_pos h']
    by_cases h2 : i < l.length
    · have h2' : (i : Int) < (l.length : Int) := by omega
      have h3 : ¬ (i : Int) ≥ (l.length : Int) := by omega
      rw [List.getElem?_append_left h2, List.getElem?_eq_getElem h2]
      simp only [if_pos h2', SCome.eqb_self, if_true, if_neg h3, onward]
    · have h2' : ¬ (i : Int) < (l.length : Int) := by omega
      have h3 : (i : Int) ≥ (l.length : Int) := by omega
      rw [List.getElem?_append_right (by omega)]
      have : i - l.length = 0 ∨ i - l.length = 1 ∨ i - l.length = 2 := by omega
      rcases this with e | e | e <;> simp [e, h2', h3, onward, SCome.eqb_self]) (by
    have h' : ¬ ((l.length + 3 : Nat) : Int) < ((l ++ [a, a, a] : List SCome).length : Int) := by simp
    simp only [punctualsame_Still_api_Come.r0, if_neg h']) (K := K) (by omega)
  rw [firstOf_none_of (fun _ _ _ => rfl)] at hr
  have hlen : IntKind.i64.wrap ((l.length : Int) + 3) = ((l ++ [a, a, a] : List SCome).length : Int) := by rw [hw]; simp
  simp only [punctualsame_Still_api_Come.f, if_pos hlen, hr, leave]
theorem punctualsame_Still_int_true (l : List Int) (a : Int) (K : Nat) (hl : l.length ≤ 5000) (hK : 5010 ≤ K) : punctualsame_Still_int.f K (l ++ [a, a, a]) l a = some true := by
  have hw : IntKind.i64.wrap ((l.length : Int) + 3) = (l.length : Int) + 3 := wrap64_small (by omega) (by omega)
  have hr := iter_first0 (f := punctualsame_Still_int.r0 (l ++ [a, a, a]) l a) (fun _ => none) (l.length + 3) (t := ()) (fun i hi => by
    have h' : (i : Int) < ((l ++ [a, a, a] : List Int).length : Int) := by simp; omega
    simp only [punctualsame_Still_int.r0, if_pos h']
    by_cases h2 : i < l.length
    · have h2' : (i : Int) < (l.length : Int) := by omega
      have h3 : ¬ (i : Int) ≥ (l.length : Int) := by omega
      rw [List.getElem?_append_left h2, List.getElem?_eq_getElem h2]
      simp only [if_pos h2', if_true, if_neg h3, onward]
    · have h2' : ¬ (i : Int) < (l.length : Int) := by omega
      have h3 : (i : Int) ≥ (l.length : Int) := by omega
      rw [List.getElem?_append_right (by omega)]
      have : i - l.length = 0 ∨ i - l.length = 1 ∨ i - l.length = 2 := by omega
      rcases this with e | e | e <;> simp [e, h2', h3, onward]) (by
    have h' : ¬ ((l.length + 3 : Nat) : Int) < ((l ++ [a, a, a] : List Int).length : Int) := by simp
    simp only [punctualsame_Still_int.r0, if_neg h']) (K := K) (by omega)
  rw [firstOf_none_of (fun _ _ _ => rfl)] at hr
  have hlen : IntKind.i64.wrap ((l.length : Int) + 3) = ((l ++ [a, a, a] : List Int).length : Int) := by rw [hw]; simp
  simp only [punctualsame_Still_int.f, if_pos hlen, hr, leave]
theorem punctualsame_Same_api_Job_self (l : List SJob) (K : Nat) (hK : l.length < K) : punctualsame_Same_api_Job.f K l l = some true := by
  have hr := iter_first0 (f := punctualsame_Same_api_Job.r0 l l) (fun _ => none) l.length (t := ()) (fun i hi => by
    have h' : (i : Int) < (l.length : Int) := by omega
    simp only [punctualsame_Same_api_Job.r0, if_pos h', List.getElem?_eq_getElem hi, if_true, SJob.eqb_self, onward]) (by
    have h' : ¬ (l.length : Int) < (l.length : Int) := by omega
    simp only [punctualsame_Same_api_Job.r0, if_neg h']) hK
  rw [firstOf_none_of (fun _ _ _ => rfl)] at hr
  simp only [punctualsame_Same_api_Job.f, if_true, hr, leave]
theorem few_true {n : Nat} (h : few.f (n : Int) = true) : n ≤ 5000 := by
  simp only [few.f, decide_eq_true_eq] at h; omega
theorem few_false {n : Nat} (h : ¬ few.f (n : Int) = true) : 5000 < n := by
  simp only [few.f, decide_eq_true_eq] at h; omega
theorem exists_bound {α : Type} (f : α → Nat) : ∀ l : List α, ∃ B, ∀ x ∈ l, f x ≤ B
  | [] => ⟨0, by simp⟩
  | x :: l => by
    obtain ⟨B, h⟩ := exists_bound f l
    refine ⟨max (f x) B, fun y hy => ?_⟩
    rcases List.mem_cons.1 hy with rfl | hy
    · exact Nat.le_max_left _ _
    · exact Nat.le_trans (h y hy) (Nat.le_max_right _ _)
/-- a letter stands there -/
def letterAt (x : ByteArray) (i : Nat) : Bool := match x[i]? with | some b => decide (97 ≤ b.toNat) && decide (b.toNat ≤ 122) | none => false
def allL (x : ByteArray) (n : Nat) : Bool := (List.range n).all (letterAt x)
theorem allL_succ (x : ByteArray) (n : Nat) : allL x (n + 1) = (allL x n && letterAt x n) := by simp [allL, List.range_succ]
theorem allL_iff {x : ByteArray} {n : Nat} : allL x n = true ↔ ∀ i, i < n → letterAt x i = true := by simp [allL]
def Good (x : ByteArray) : Prop := 1 ≤ x.size ∧ x.size ≤ 10 ∧ allL x x.size = true
instance (x : ByteArray) : Decidable (Good x) := by unfold Good; infer_instance
theorem get!_of {x : ByteArray} {i : Nat} {b : UInt8} (h : x[i]? = some b) : x.get! i = b := by
  have hi : i < x.size := by
    rcases Nat.lt_or_ge i x.size with h' | h'
    · exact h'
    · rw [getElem?_neg x i (by omega)] at h; cases h
  rw [getElem?_pos x i hi] at h
  have := Option.some.inj h
  rw [← this]
  cases x with
  | mk bs => exact getElem!_pos bs i hi
theorem byte_some {x : ByteArray} {i : Nat} (h : i < x.size) : ∃ b, x[i]? = some b := ⟨x[i], getElem?_pos x i h⟩
theorem decode_letter {x : ByteArray} {i : Nat} (hi : i < x.size) (h : letterAt x i = true) : ∃ n : Nat, Utf8.decode x i = (n, 1) ∧ 97 ≤ n ∧ n ≤ 122 := by
  obtain ⟨b, hb⟩ := byte_some hi
  simp only [letterAt, hb, Bool.and_eq_true, decide_eq_true_eq] at h
  refine ⟨b.toNat, ?_, h⟩
  have := get!_of hb
  simp only [Utf8.decode, Nat.add_zero, this]
  rw [if_pos (by omega)]
theorem decode_other {x : ByteArray} {i : Nat} (hi : i < x.size) (h : letterAt x i = false) : (Utf8.decode x i).1 < 97 ∨ 122 < (Utf8.decode x i).1 := by
  obtain ⟨b, hb⟩ := byte_some hi
  simp only [letterAt, hb, Bool.and_eq_false_iff, decide_eq_false_iff_not] at h
  have := get!_of hb
  simp only [Utf8.decode, Nat.add_zero, this]
  have he : Utf8.runeError = 65533 := rfl
  repeat' split
  all_goals simp only [he, Bool.and_eq_true, decide_eq_true_eq, ge_iff_le] at *
  all_goals omega
theorem isName_eq (x : ByteArray) (K : Nat) (hK : 12 ≤ K) : tasks_isName.f K x = some (decide (Good x)) := by
  unfold tasks_isName.f
  by_cases h1 : (x.size : Int) < 1
  · rw [if_pos h1]; congr 1; symm; rw [decide_eq_false_iff_not]; intro h; have := h.1; omega
  rw [if_neg h1]
  by_cases h2 : (x.size : Int) > 10
  · rw [if_pos h2]; congr 1; symm; rw [decide_eq_false_iff_not]; intro h; have := h.2.1; omega
  rw [if_neg h2]
  have hr := iter_first0 (f := tasks_isName.r0 x) (fun i => if letterAt x i = true then none else some false) x.size (t := ()) (fun i hi => by
    simp only [tasks_isName.r0, if_pos hi]
    by_cases h : letterAt x i = true
    · obtain ⟨n, hd, ha, hb⟩ := decode_letter hi h
      simp only [hd, h, if_true]
      rw [if_neg (by omega), if_neg (by omega)]; rfl
    · simp only [h]
      rcases decode_other hi (by simpa using h) with h | h
      · rw [if_pos (by omega)]; simp [onward]
      · rw [if_neg (by omega), if_pos (by omega)]; simp [onward]) (by simp [tasks_isName.r0]) (K := K) (by omega)
  rw [hr]
  cases hf : firstOf (fun i => if letterAt x i = true then none else some false) x.size 0 with
  | none =>
    show some true = some _
    congr 1; symm
    rw [decide_eq_true_eq]
    refine ⟨by omega, by omega, allL_iff.2 fun i hi => ?_⟩
    have := firstOf_none hf i (Nat.zero_le _) hi
    split at this
    · assumption
    · cases this
  | some r =>
    obtain ⟨j, _, hj, hg, _⟩ := firstOf_some hf
    split at hg
    · cases hg
    · rename_i hn
      cases hg
      show some false = some _
      congr 1; symm
      rw [decide_eq_false_iff_not]
      intro h
      exact hn (allL_iff.1 h.2.2 j hj)
theorem refName_eq (e : STask) (hs : Ok.ok e) (K : Nat) (hK : e.Name.size < K) : ∃ q, punctualref_CheckSet.p2 e = some (.inl q) ∧ iter (punctualref_CheckSet.r3 e) K (q, 0) = some (.inl (decide (Good e.Name))) := by
  have hsm : e.Name.size ≤ 9223372036854775807 := hs.1
  have key : ∀ q : Bool, iter (punctualref_CheckSet.r3 e) K (q, 0) = some (.inl (q && allL e.Name e.Name.size)) := by
    intro q
    obtain ⟨r, hr, hR⟩ := iter_total (f := punctualref_CheckSet.r3 e) (fun s => 0 ≤ s.2 ∧ s.2 ≤ e.Name.size ∧ s.1 = (q && allL e.Name s.2.toNat)) (fun s => e.Name.size - s.2.toNat)
      (fun r => r = .inl (q && allL e.Name e.Name.size)) (fun s hI => by
        obtain ⟨p, z⟩ := s
        obtain ⟨h1, h2, h3⟩ := hI
        simp only at h1 h2 h3
        obtain ⟨n, rfl⟩ := Int.eq_ofNat_of_zero_le h1
        by_cases hz : (n : Int) < (e.Name.size : Int)
        · left
          have hn : n < e.Name.size := by omega
          obtain ⟨b, hb⟩ := byte_some hn
          have hw : IntKind.i64.wrap ((n : Int) + 1) = ((n + 1 : Nat) : Int) := by rw [wrap64_small (by omega) (by omega)]; rfl
          have hstep : punctualref_CheckSet.r3 e (p, (n : Int)) = some (.inl (p && letterAt e.Name n, ((n + 1 : Nat) : Int))) := by
            simp only [punctualref_CheckSet.r3, if_pos hz, hw, Int.toNat_natCast, hb, letterAt, if_pos h1]
            cases p with
            | false => simp
            | true =>
              simp only [if_true, Bool.true_and]
              by_cases ha : (b.toNat : Int) ≥ 97
              · rw [if_pos ha]
                have : (97 ≤ b.toNat) := by omega
                simp only [this, decide_true, Bool.true_and, Option.some.injEq, Sum.inl.injEq, Prod.mk.injEq, and_true]
                rw [Bool.eq_iff_iff, decide_eq_true_eq, decide_eq_true_eq]
                omega
              · rw [if_neg ha]
                have : ¬ (97 ≤ b.toNat) := by omega
                simp [this]
          refine ⟨_, hstep, ⟨by simp only; omega, by simp only; omega, ?_⟩, by simp only; omega⟩
          simp only [h3, Int.toNat_natCast]
          rw [allL_succ, Bool.and_assoc]
        · right
          obtain rfl : n = e.Name.size := by omega
          refine ⟨.inl p, by simp only [punctualref_CheckSet.r3, if_neg hz], ?_⟩
          rw [h3]
          rfl) K (q, 0) ⟨by simp, by simp, by simp [allL]⟩ (by simpa using hK)
    rw [hr, hR]
  unfold punctualref_CheckSet.p2
  by_cases h1 : (e.Name.size : Int) ≥ 1
  · rw [if_pos h1]
    refine ⟨_, rfl, ?_⟩
    rw [key]
    congr 2
    rw [Bool.eq_iff_iff]
    rw [Bool.and_eq_true, decide_eq_true_eq, decide_eq_true_eq]
    constructor
    · rintro ⟨ha, hb⟩; exact ⟨by omega, by omega, hb⟩
    · rintro ⟨ha, hb, hc⟩; exact ⟨by omega, hc⟩
  · rw [if_neg h1]
    refine ⟨_, rfl, ?_⟩
    rw [key]
    congr 2
    rw [Bool.false_and, eq_comm, decide_eq_false_iff_not]
    intro h; have := h.1; omega
/-- the first of those ahead that bears the name -/
def dupAt (l : List STask) (i : Nat) (t : STask) : Prop := ∃ j e, j < i ∧ l[j]? = some e ∧ e.Name.toList = t.Name.toList
noncomputable instance (l : List STask) (i : Nat) (t : STask) : Decidable (dupAt l i t) := Classical.propDecidable _
theorem takedrop {α : Type} (l : List α) (i : Nat) : (l.take i).drop 0 = l.take i := by simp
theorem contains_eq (l : List STask) (i : Nat) (hi : i < l.length) (t : STask) (K : Nat) (hK : i < K) : slices_ContainsFunc_api_Task_api_Task.f K ((l.take i).drop 0) t = some (decide (dupAt l i t)) := by
  rw [takedrop]
  have hlen : (l.take i).length = i := by simp; omega
  let g : Nat → Option Int := fun j => match l[j]? with | some e => if e.Name.toList = t.Name.toList then some (j : Int) else none | none => none
  have hr := iter_first0 (f := slices_IndexFunc_api_Task_api_Task.r0 (l.take i) t) g i (t := ()) (fun j hj => by
    have hj' : (j : Int) < ((l.take i).length : Int) := by omega
    have hjl : j < l.length := by omega
    simp only [slices_IndexFunc_api_Task_api_Task.r0, if_pos hj', List.getElem?_take, if_pos hj, List.getElem?_eq_getElem hjl, g, tasks_Check_1.f, beq_iff_eq]
    split <;> rfl) (by
    have : ¬ (i : Int) < ((l.take i).length : Int) := by omega
    simp only [slices_IndexFunc_api_Task_api_Task.r0, if_neg this]) (K := K) hK
  unfold slices_ContainsFunc_api_Task_api_Task.f slices_IndexFunc_api_Task_api_Task.f
  rw [hr]
  cases hf : firstOf g i 0 with
  | none =>
    show some (decide ((-1 : Int) ≥ 0)) = _
    congr 1
    have : ¬ dupAt l i t := by
      rintro ⟨j, e, hj, he, hn⟩
      have := firstOf_none hf j (Nat.zero_le _) hj
      simp only [g, he, if_pos hn] at this
      cases this
    simp [this]
  | some r =>
    show some (decide (r ≥ 0)) = _
    obtain ⟨j, _, hj, hg, _⟩ := firstOf_some hf
    have hjl : j < l.length := by omega
    simp only [g, List.getElem?_eq_getElem hjl] at hg
    split at hg
    · rename_i hn
      cases hg
      have : dupAt l i t := ⟨j, l[j], hj, List.getElem?_eq_getElem hjl, hn⟩
      simp [this]
    · cases hg
theorem refDup_eq (l : List STask) (i : Nat) (hi : i < l.length) (t : STask) (K : Nat) (hK : i < K) : iter (punctualref_CheckSet.r4 l i t) K 0 = some (if dupAt l i t then .inr ⟨5, (i : Int)⟩ else .inl ()) := by
  have hlen : ((l.take i).drop 0).length = i := by simp; omega
  let g : Nat → Option SFault := fun j => match l[j]? with | some e => if e.Name.toList = t.Name.toList then some ⟨5, (i : Int)⟩ else none | none => none
  have hr := iter_first0 (f := punctualref_CheckSet.r4 l i t) g i (t := ()) (fun j hj => by
    have hj' : (j : Int) < (((l.take i).drop 0).length : Int) := by omega
    have hjl : j < l.length := by omega
    simp only [punctualref_CheckSet.r4, if_pos hj']
    rw [takedrop]
    simp only [List.getElem?_take, if_pos hj, List.getElem?_eq_getElem hjl, g, punctualref_F.f]
    split <;> rfl) (by
    have : ¬ (i : Int) < (((l.take i).drop 0).length : Int) := by omega
    simp only [punctualref_CheckSet.r4, if_neg this]) (K := K) hK
  rw [hr]
  cases hf : firstOf g i 0 with
  | none =>
    have : ¬ dupAt l i t := by
      rintro ⟨j, e, hj, he, hn⟩
      have := firstOf_none hf j (Nat.zero_le _) hj
      simp only [g, he, if_pos hn] at this
      cases this
    simp [this, leave]
  | some r =>
    obtain ⟨j, _, hj, hg, _⟩ := firstOf_some hf
    have hjl : j < l.length := by omega
    simp only [g, List.getElem?_eq_getElem hjl] at hg
    split at hg
    · rename_i hn
      cases hg
      have : dupAt l i t := ⟨j, l[j], hj, List.getElem?_eq_getElem hjl, hn⟩
      simp [this, leave]
    · cases hg
theorem iter_succ {σ ρ : Type} (f : σ → Option (σ ⊕ ρ)) (K : Nat) (s : σ) : iter f (K + 1) s = match f s with | none => none | some (.inl s') => iter f K s' | some (.inr r) => some r := rfl
/-- a number lies out of its range -/
def rangeAt (i : Nat) (t : STask) (j : Nat) : Option SFault :=
  match ([t.C, t.T, t.D, t.J, t.O, t.P] : List Int)[j]? with
  | none => none
  | some v => match ([1, 1, 1, 0, 0, 0] : List Int)[j]? with
    | none => none
    | some a => if v < a then some ⟨3, (i : Int)⟩ else match ([10000, 10000, 10000, 10000, 10000, 1000] : List Int)[j]? with
      | none => none
      | some b => if v > b then some ⟨3, (i : Int)⟩ else none
theorem range_eq (i : Nat) (t : STask) (K : Nat) (hK : 7 ≤ K) : iter (tasks_Check.r2 i t) K 0 = some (leave () (firstOf (rangeAt i t) 6 0)) := by
  refine iter_first0 (f := tasks_Check.r2 i t) (rangeAt i t) 6 (t := ()) (fun j hj => ?_) (by simp [tasks_Check.r2, tasks_numbers.f]) (K := K) (by omega)
  have : j = 0 ∨ j = 1 ∨ j = 2 ∨ j = 3 ∨ j = 4 ∨ j = 5 := by omega
  rcases this with rfl | rfl | rfl | rfl | rfl | rfl <;> simp [tasks_Check.r2, tasks_numbers.f, tasks_bounds.f, rangeAt] <;> (repeat' split) <;> (try simp only [onward]) <;> first | rfl | contradiction | simp_all
theorem refRange_eq (i : Nat) (t : STask) (K : Nat) (hK : 7 ≤ K) : iter (punctualref_CheckSet.r5 i t) K 0 = some (leave () (firstOf (rangeAt i t) 6 0)) := by
  refine iter_first0 (f := punctualref_CheckSet.r5 i t) (rangeAt i t) 6 (t := ()) (fun j hj => ?_) (by simp [punctualref_CheckSet.r5]) (K := K) (by omega)
  have : j = 0 ∨ j = 1 ∨ j = 2 ∨ j = 3 ∨ j = 4 ∨ j = 5 := by omega
  rcases this with rfl | rfl | rfl | rfl | rfl | rfl <;> simp [punctualref_CheckSet.r5, punctualref_sixOf.f, punctualref_F.f, rangeAt] <;> (repeat' split) <;> (try simp only [onward]) <;> first | rfl | contradiction | simp_all
/-- what is wrong with the i-th task -/
noncomputable def wrongAt (l : List STask) (i : Nat) : Option SFault :=
  match l[i]? with
  | none => none
  | some t => if Good t.Name then (if dupAt l i t then some ⟨5, (i : Int)⟩ else match firstOf (rangeAt i t) 6 0 with | some r => some r | none => if t.C > t.D then some ⟨12, (i : Int)⟩ else none) else some ⟨4, (i : Int)⟩
/-- what is wrong with a set -/
noncomputable def setFault (l : List STask) : SFault := if 1 ≤ l.length ∧ l.length ≤ 8 then (firstOf (wrongAt l) l.length 0).getD ⟨0, 0⟩ else ⟨2, 0⟩
theorem Check_eq (l : List STask) (K : Nat) (hK : 20 ≤ K) : tasks_Check.f K l = some (setFault l) := by
  unfold tasks_Check.f tasks_Check.p0 setFault
  by_cases h1 : (l.length : Int) < 1
  · rw [if_pos h1, if_neg (by omega)]
  rw [if_neg h1]
  by_cases h2 : (l.length : Int) > 8
  · rw [if_pos h2, if_neg (by omega)]
  rw [if_neg h2, if_pos (by omega)]
  have hr := iter_first0 (f := tasks_Check.r1 K l) (wrongAt l) l.length (t := ()) (fun i hi => by
    have hi' : (i : Int) < (l.length : Int) := by omega
    have hle : i ≤ l.length := by omega
    simp only [tasks_Check.r1, if_pos hi', List.getElem?_eq_getElem hi, isName_eq _ K (by omega), contains_eq l i hi _ K (by omega), range_eq i _ K (by omega), wrongAt, if_pos hle, decide_eq_true_eq]
    by_cases hg : Good l[i].Name
    · simp only [if_pos hg]
      by_cases hd : dupAt l i l[i]
      · simp only [if_pos hd, onward]
      · simp only [if_neg hd]
        cases firstOf (rangeAt i l[i]) 6 0 with
        | some r => rfl
        | none =>
          simp only [leave]
          split <;> rfl
    · simp only [if_neg hg, onward]) (by simp [tasks_Check.r1]) (K := K) (by omega)
  simp only [hr]
  cases firstOf (wrongAt l) l.length 0 <;> rfl
theorem CheckSet_eq (l : List STask) (hl : ∀ t ∈ l, Ok.ok t) (K : Nat) (hK : 20 ≤ K) (hs : ∀ t ∈ l, t.Name.size < K) : punctualref_CheckSet.f K l = some (setFault l) := by
  unfold punctualref_CheckSet.f punctualref_CheckSet.p0 setFault
  by_cases h1 : (l.length : Int) = 0
  · rw [if_pos h1, if_neg (by omega)]; rfl
  rw [if_neg h1]
  by_cases h2 : (l.length : Int) > 8
  · rw [if_pos h2, if_neg (by omega)]; rfl
  rw [if_neg h2, if_pos (by omega)]
  have hr := iter_first0 (f := punctualref_CheckSet.r1 K l) (wrongAt l) l.length (t := ()) (fun i hi => by
    have hi' : (i : Int) < (l.length : Int) := by omega
    have hle : i ≤ l.length := by omega
    obtain ⟨q, hq1, hq2⟩ := refName_eq l[i] (hl _ (List.getElem_mem hi)) K (hs _ (List.getElem_mem hi))
    simp only [punctualref_CheckSet.r1, if_pos hi', List.getElem?_eq_getElem hi, hq1, hq2, refDup_eq l i hi _ K (by omega), refRange_eq i _ K (by omega), wrongAt, if_pos hle, decide_eq_true_eq]
    by_cases hg : Good l[i].Name
    · simp only [if_pos hg]
      by_cases hd : dupAt l i l[i]
      · simp only [if_pos hd, onward]
      · simp only [if_neg hd]
        cases firstOf (rangeAt i l[i]) 6 0 with
        | some r => rfl
        | none =>
          simp only [gt_iff_lt, leave]
          split <;> rfl
    · simp only [if_neg hg]; rfl) (by simp [punctualref_CheckSet.r1]) (K := K) (by omega)
  simp only [hr]
  cases firstOf (wrongAt l) l.length 0 <;> rfl

/-- the last one ahead of i that is of task t -/
def lastOf (l : List SCome) (t : Int) : Nat → Option Nat
  | 0 => none
  | i + 1 => match l[i]? with
    | some c => if c.Task = t then some i else lastOf l t i
    | none => lastOf l t i
theorem lastOf_lt {l : List SCome} {t : Int} : ∀ {i k : Nat}, lastOf l t i = some k → k < i
  | 0, k, h => by cases h
  | i + 1, k, h => by
    simp only [lastOf] at h
    split at h
    · split at h
      · cases h; omega
      · have := lastOf_lt h; omega
    · have := lastOf_lt h; omega
theorem lastOf_task {l : List SCome} {t : Int} : ∀ {i k : Nat}, lastOf l t i = some k → ∃ c, l[k]? = some c ∧ c.Task = t
  | 0, k, h => by cases h
  | i + 1, k, h => by
    simp only [lastOf] at h
    split at h
    · rename_i c hc
      split at h
      · cases h; exact ⟨c, hc, by assumption⟩
      · exact lastOf_task h
    · exact lastOf_task h
/-- it comes sooner than the one ahead of it -/
def sooner (l1 : List SCome) (i : Nat) (c : SCome) : Prop := ∃ b, 0 < i ∧ l1[i - 1]? = some b ∧ c.At < b.At
noncomputable instance (l1 : List SCome) (i : Nat) (c : SCome) : Decidable (sooner l1 i c) := Classical.propDecidable _
theorem sooner_mk {l1 : List SCome} {i : Nat} {c b : SCome} (h0 : 0 < i) (hb : l1[i - 1]? = some b) (h : c.At < b.At) : sooner l1 i c := ⟨b, h0, hb, h⟩
/-- what is wrong with the i-th coming -/
noncomputable def comeAt (l0 : List STask) (l1 : List SCome) (i : Nat) : Option SFault :=
  match l1[i]? with
  | none => none
  | some c =>
    if c.Task < 0 ∨ c.Task ≥ (l0.length : Int) then some ⟨4, (i : Int)⟩
    else if c.At < 0 ∨ c.At > 20000 then some ⟨3, (i : Int)⟩
    else if sooner l1 i c then some ⟨12, (i : Int)⟩
    else match lastOf l1 c.Task i with
      | none => none
      | some k => match l1[k]?, l0[c.Task.toNat]? with
        | some b, some t => if c.At - b.At < t.T then some ⟨12, (i : Int)⟩ else none
        | _, _ => none
/-- what is wrong with comings -/
noncomputable def comesFault (l0 : List STask) (l1 : List SCome) : SFault :=
  if (setFault l0).Code = 0 then (if l1.length > 4000 then ⟨2, 0⟩ else (firstOf (comeAt l0 l1) l1.length 0).getD ⟨0, 0⟩) else setFault l0
theorem getD_leave {ρ : Type} (o : Option ρ) (d : ρ) : (match leave (τ := Unit) () o with | .inl _ => d | .inr r => r) = o.getD d := by cases o <;> rfl
theorem setFault_ok {l : List STask} (h : (setFault l).Code = 0) : 1 ≤ l.length ∧ l.length ≤ 8 ∧ ∀ i t, l[i]? = some t → Good t.Name ∧ ¬ dupAt l i t ∧ (1 ≤ t.C ∧ t.C ≤ 10000) ∧ (1 ≤ t.T ∧ t.T ≤ 10000) ∧ (1 ≤ t.D ∧ t.D ≤ 10000) ∧ (0 ≤ t.J ∧ t.J ≤ 10000) ∧ (0 ≤ t.O ∧ t.O ≤ 10000) ∧ (0 ≤ t.P ∧ t.P ≤ 1000) ∧ t.C ≤ t.D := by
  unfold setFault at h
  split at h
  · rename_i hl
    refine ⟨hl.1, hl.2, fun i t ht => ?_⟩
    have hi := lt_of_get ht
    have hn : firstOf (wrongAt l) l.length 0 = none := by
      cases hf : firstOf (wrongAt l) l.length 0 with
      | none => rfl
      | some r =>
        rw [hf] at h
        obtain ⟨j, _, hj, hg, _⟩ := firstOf_some hf
        simp only [Option.getD_some] at h
        exfalso
        unfold wrongAt at hg
        rw [List.getElem?_eq_getElem hj] at hg
        simp only at hg
        split at hg
        · split at hg
          · cases hg; cases h
          · split at hg
            · rename_i r' hr'
              cases hg
              obtain ⟨q, _, hq, hg2, _⟩ := firstOf_some hr'
              unfold rangeAt at hg2
              repeat' split at hg2
              all_goals first | cases hg2; done | (cases hg2; cases h)
            · split at hg
              · cases hg; cases h
              · cases hg
        · cases hg; cases h
    have h0 := firstOf_none hn i (Nat.zero_le _) hi
    unfold wrongAt at h0
    rw [ht] at h0
    simp only at h0
    split at h0
    · rename_i hg
      split at h0
      · cases h0
      · rename_i hd
        split at h0
        · cases h0
        · rename_i hr
          split at h0
          · cases h0
          · rename_i hcd
            have hrr := firstOf_none hr
            have e0 := hrr 0 (by omega) (by omega)
            have e1 := hrr 1 (by omega) (by omega)
            have e2 := hrr 2 (by omega) (by omega)
            have e3 := hrr 3 (by omega) (by omega)
            have e4 := hrr 4 (by omega) (by omega)
            have e5 := hrr 5 (by omega) (by omega)
            simp only [rangeAt, List.getElem?_cons_zero, List.getElem?_cons_succ] at e0 e1 e2 e3 e4 e5
            refine ⟨hg, hd, ?_, ?_, ?_, ?_, ?_, ?_, by omega⟩
            · clear e1 e2 e3 e4 e5; split at e0; cases e0; split at e0; cases e0; omega
            · clear e0 e2 e3 e4 e5; split at e1; cases e1; split at e1; cases e1; omega
            · clear e1 e0 e3 e4 e5; split at e2; cases e2; split at e2; cases e2; omega
            · clear e1 e2 e0 e4 e5; split at e3; cases e3; split at e3; cases e3; omega
            · clear e1 e2 e3 e0 e5; split at e4; cases e4; split at e4; cases e4; omega
            · clear e1 e2 e3 e4 e0; split at e5; cases e5; split at e5; cases e5; omega
    · cases h0
  · cases h
theorem setFault_ok' {l : List STask} (h : (setFault l).Code = 0) : setFault l = ⟨0, 0⟩ := by
  unfold setFault at h ⊢
  split at h
  · rename_i hl
    rw [if_pos hl]
    cases hf : firstOf (wrongAt l) l.length 0 with
    | none => rfl
    | some r =>
      rw [hf] at h
      obtain ⟨j, _, hj, hg, _⟩ := firstOf_some hf
      simp only [Option.getD_some] at h
      exfalso
      unfold wrongAt at hg
      rw [List.getElem?_eq_getElem hj] at hg
      simp only at hg
      split at hg
      · split at hg
        · cases hg; cases h
        · split at hg
          · rename_i r' hr'
            cases hg
            obtain ⟨q, _, hq, hg2, _⟩ := firstOf_some hr'
            unfold rangeAt at hg2
            repeat' split at hg2
            all_goals first | cases hg2; done | (cases hg2; cases h)
          · split at hg
            · cases hg; cases h
            · cases hg
      · cases hg; cases h
  · cases h
/-- when each task may come next -/
def nexts (l0 : List STask) (l1 : List SCome) (i : Nat) : List Int :=
  (List.range l0.length).map fun (t : Nat) => match lastOf l1 (t : Int) i with
    | none => 0
    | some k => match l1[k]?, l0[t]? with
      | some b, some x => b.At + x.T
      | _, _ => 0
theorem nexts_len (l0 : List STask) (l1 : List SCome) (i : Nat) : (nexts l0 l1 i).length = l0.length := by simp [nexts]
theorem nexts_zero (l0 : List STask) (l1 : List SCome) : nexts l0 l1 0 = List.replicate l0.length (0 : Int) := by
  apply List.ext_getElem
  · simp [nexts]
  · intro i h1 h2
    simp [nexts, lastOf]
theorem comeAt_none {l0 : List STask} {l1 : List SCome} {i : Nat} {c : SCome} (hc : l1[i]? = some c) (h : comeAt l0 l1 i = none) : 0 ≤ c.Task ∧ c.Task < (l0.length : Int) ∧ 0 ≤ c.At ∧ c.At ≤ 20000 ∧ (∀ b, 0 < i → l1[i - 1]? = some b → b.At ≤ c.At) ∧
    (∀ k b t, lastOf l1 c.Task i = some k → l1[k]? = some b → l0[c.Task.toNat]? = some t → t.T ≤ c.At - b.At) := by
  unfold comeAt at h
  rw [hc] at h
  simp only at h
  split at h
  · cases h
  rename_i h1
  split at h
  · cases h
  rename_i h2
  split at h
  · cases h
  rename_i h3
  refine ⟨by omega, by omega, by omega, by omega, fun b hb hbb => ?_, fun k b t hk hb ht => ?_⟩
  · apply Int.not_lt.1
    intro hlt
    exact h3 (sooner_mk hb hbb hlt)
  · rw [hk] at h
    simp only [hb, ht] at h
    split at h
    · cases h
    · omega
theorem Legal_eq (l0 : List STask) (l1 : List SCome) (K : Nat) (hK : 4020 ≤ K) : tasks_Legal.f K l0 l1 = some (comesFault l0 l1) := by
  unfold tasks_Legal.f comesFault
  rw [Check_eq l0 K (by omega)]
  simp only
  by_cases hc : (setFault l0).Code = 0
  · rw [if_pos hc, if_pos hc]
    obtain ⟨hl1, hl8, hset⟩ := setFault_ok hc
    by_cases hlen : (l1.length : Int) > 4000
    · rw [if_pos hlen, if_pos (by omega)]
    rw [if_neg hlen, if_pos (show l0.length ≤ 17592186044416 by omega), if_neg (show ¬ l1.length > 4000 by omega), ← nexts_zero l0 l1]
    have hr := iter_states (f := tasks_Legal.r0 l0 l1) (fun i => (i, nexts l0 l1 i)) (comeAt l0 l1) l1.length (t := ()) (fun i hi hp => by
      have hi' : (i : Int) < (l1.length : Int) := by omega
      have hi4 : (i : Int) ≤ 4000 := by omega
      simp only [tasks_Legal.r0, if_pos hi', List.getElem?_eq_getElem hi]
      have hce : l1[i]? = some l1[i] := List.getElem?_eq_getElem hi
      generalize l1[i] = c at hce ⊢
      have hw : 0 < i → IntKind.i64.wrap ((i : Int) - 1) = ((i - 1 : Nat) : Int) := fun h0 => by rw [wrap64_small (by omega) (by omega)]; omega
      by_cases h1 : c.Task < 0 ∨ c.Task ≥ (l0.length : Int)
      · have hA : comeAt l0 l1 i = some ⟨4, (i : Int)⟩ := by simp only [comeAt, hce, if_pos h1]
        rw [hA]
        unfold tasks_Legal.p1
        by_cases h1' : c.Task < 0
        · rw [if_pos h1']; rfl
        · rw [if_neg h1', if_pos (by omega)]; rfl
      have h1a : ¬ c.Task < 0 := by omega
      have h1b : ¬ c.Task ≥ (l0.length : Int) := by omega
      by_cases h2 : c.At < 0 ∨ c.At > 20000
      · have hA : comeAt l0 l1 i = some ⟨3, (i : Int)⟩ := by simp only [comeAt, hce, if_neg h1, if_pos h2]
        rw [hA]
        unfold tasks_Legal.p1
        rw [if_neg h1a, if_neg h1b]
        by_cases h2' : c.At < 0
        · rw [if_pos h2']; rfl
        · rw [if_neg h2', if_pos (by omega)]; rfl
      have h2a : ¬ c.At < 0 := by omega
      have h2b : ¬ c.At > 20000 := by omega
      have h0t : 0 ≤ c.Task := by omega
      have htl : c.Task.toNat < l0.length := by omega
      have hnx : (nexts l0 l1 i)[c.Task.toNat]? = some (match lastOf l1 c.Task i with
          | none => 0
          | some k => match l1[k]?, l0[c.Task.toNat]? with
            | some b, some x => b.At + x.T
            | _, _ => 0) := by
        have : ((c.Task.toNat : Nat) : Int) = c.Task := Int.toNat_of_nonneg h0t
        simp only [nexts, List.getElem?_map, List.getElem?_range htl, Option.map_some, this]
      obtain ⟨x, hx⟩ : ∃ x, l0[c.Task.toNat]? = some x := ⟨l0[c.Task.toNat], List.getElem?_eq_getElem htl⟩
      obtain ⟨_, _, _, hxT, _⟩ := hset _ _ hx
      -- what the table says
      have htab : ∀ nx, (nexts l0 l1 i)[c.Task.toNat]? = some nx → ((c.At < nx) ↔ ∃ k b, lastOf l1 c.Task i = some k ∧ l1[k]? = some b ∧ c.At - b.At < x.T) := by
        intro nx hn
        rw [hnx] at hn
        have hn := Option.some.inj hn
        subst hn
        cases hk : lastOf l1 c.Task i with
        | none => simp only; constructor
                  · intro h; omega
                  · rintro ⟨k, b, h, _⟩; cases h
        | some k =>
          obtain ⟨b, hb, _⟩ := lastOf_task hk
          simp only [hb, hx]
          constructor
          · intro h; exact ⟨k, b, rfl, hb, by omega⟩
          · rintro ⟨k', b', h1, h2, h3⟩
            cases h1
            rw [hb] at h2
            cases h2
            omega
      obtain ⟨nx, hnx'⟩ : ∃ nx, (nexts l0 l1 i)[c.Task.toNat]? = some nx := ⟨_, hnx⟩
      have hP : tasks_Legal.p1 l0 l1 i (nexts l0 l1 i) c = some (if sooner l1 i c ∨ c.At < nx then .inr ⟨12, (i : Int)⟩ else .inl ()) := by
        unfold tasks_Legal.p1
        rw [if_neg h1a, if_neg h1b, if_neg h2a, if_neg h2b]
        by_cases hi0 : 0 < i
        · have hb : l1[i - 1]? = some l1[i - 1] := List.getElem?_eq_getElem (by omega)
          rw [if_pos (by omega), hw hi0, if_pos (by omega), Int.toNat_natCast, hb]
          simp only [if_pos h0t, hnx']
          by_cases hlt : c.At < l1[i - 1].At
          · rw [if_pos hlt, if_pos (.inl (sooner_mk hi0 hb hlt))]
          · rw [if_neg hlt]
            by_cases hn : c.At < nx
            · rw [if_pos hn, if_pos (.inr hn)]
            · rw [if_neg hn, if_neg]
              rintro (⟨b, _, hb', h⟩ | h)
              · rw [hb] at hb'; cases hb'; exact hlt h
              · exact hn h
        · rw [if_neg (by omega)]
          simp only [if_pos h0t, hnx']
          by_cases hn : c.At < nx
          · rw [if_pos hn, if_pos (.inr hn)]
          · rw [if_neg hn, if_neg]
            rintro (⟨b, h, _⟩ | h)
            · exact hi0 h
            · exact hn h
      rw [hP]
      by_cases hbad : sooner l1 i c ∨ c.At < nx
      · rw [if_pos hbad]
        have hA : comeAt l0 l1 i = some ⟨12, (i : Int)⟩ := by
          simp only [comeAt, hce, if_neg h1, if_neg h2]
          by_cases hb1 : sooner l1 i c
          · rw [if_pos hb1]
          · rw [if_neg hb1]
            rcases hbad with h | h
            · exact absurd h hb1
            · obtain ⟨k, b, hk, hb, h3⟩ := (htab nx hnx').1 h
              simp only [hk, hb, hx, if_pos h3]
        rw [hA]; rfl
      · rw [if_neg hbad]
        have hA : comeAt l0 l1 i = none := by
          simp only [comeAt, hce, if_neg h1, if_neg h2]
          rw [if_neg (fun h => hbad (.inl h))]
          cases hk : lastOf l1 c.Task i with
          | none => rfl
          | some k =>
            obtain ⟨b, hb, _⟩ := lastOf_task hk
            simp only [hb, hx]
            rw [if_neg]
            intro h3
            exact hbad (.inr ((htab nx hnx').2 ⟨k, b, hk, hb, h3⟩))
        rw [hA]
        simp only [if_pos h0t, hx, hnx', onwardS]
        congr 3
        -- the table's next state
        rw [wrap64_small (by omega) (by omega)]
        apply List.ext_getElem?
        intro q
        rw [List.getElem?_set, nexts_len]
        by_cases hq : c.Task.toNat = q
        · subst hq
          rw [if_pos rfl, if_pos htl]
          have hcast : ((c.Task.toNat : Nat) : Int) = c.Task := Int.toNat_of_nonneg h0t
          simp only [nexts, List.getElem?_map, List.getElem?_range htl, Option.map_some, hcast, lastOf, hce, if_true, hx]
        · rw [if_neg hq]
          have hne : ¬ c.Task = (q : Int) := fun h => hq (by omega)
          simp only [nexts, List.getElem?_map, lastOf, hce]
          by_cases hql : q < l0.length
          · rw [List.getElem?_range hql]
            simp only [Option.map_some, if_neg hne]
          · rw [List.getElem?_eq_none (by simp; omega)]; rfl) (fun _ => by simp [tasks_Legal.r0]) (K := K) (by omega)
    simp only [hr]
    cases firstOf (comeAt l0 l1) l1.length 0 <;> rfl
  · rw [if_neg hc, if_neg hc]
theorem back_eq (l0 : List STask) (l1 : List SCome) (i : Nat) (c : SCome) (x : STask) (hx : l0[c.Task.toNat]? = some x) (h0t : 0 ≤ c.Task) (hca : 0 ≤ c.At ∧ c.At ≤ 20000) (hi : i ≤ 4000) (hil : i < l1.length) (hat : ∀ j b, j < i → l1[j]? = some b → 0 ≤ b.At ∧ b.At ≤ 20000) :
    ∀ (n K : Nat), n ≤ i → n < K → iter (punctualref_Lawful.r4 l0 l1 i c) K ((n : Int) - 1) = some (match lastOf l1 c.Task n with
      | none => .inl ()
      | some k => match l1[k]? with
        | some b => if c.At - b.At < x.T then .inr ⟨12, (i : Int)⟩ else .inl ()
        | none => .inl ())
  | n, 0, _, h => by omega
  | 0, K + 1, _, _ => by
    simp [iter, punctualref_Lawful.r4, lastOf]
  | n + 1, K + 1, hn, hK => by
    have hnl : n < l1.length := by omega
    obtain ⟨b, hb⟩ : ∃ b, l1[n]? = some b := ⟨_, List.getElem?_eq_getElem hnl⟩
    have hba := hat n b (by omega) hb
    have e1 : ((n + 1 : Nat) : Int) - 1 = (n : Int) := by omega
    have hw : IntKind.i64.wrap ((n : Int) - 1) = (n : Int) - 1 := wrap64_small (by omega) (by omega)
    have hw2 : IntKind.i64.wrap (c.At - b.At) = c.At - b.At := wrap64_small (by omega) (by omega)
    rw [e1]
    simp only [iter, punctualref_Lawful.r4, lastOf, hb, Int.toNat_natCast, hw, hw2, hx, if_pos h0t]
    rw [if_pos (by omega), if_pos (by omega)]
    by_cases ht : b.Task = c.Task
    · simp only [if_pos ht, hb]
      by_cases hlt : c.At - b.At < x.T
      · simp only [if_pos hlt]; rfl
      · simp only [if_neg hlt]
    · simp only [if_neg ht]
      exact back_eq l0 l1 i c x hx h0t hca hi hil hat n K (by omega) (by omega)
theorem Lawful_eq (l0 : List STask) (l1 : List SCome) (hl : ∀ t ∈ l0, Ok.ok t) (K : Nat) (hK : 4020 ≤ K) (hs : ∀ t ∈ l0, t.Name.size < K) : punctualref_Lawful.f K l0 l1 = some (comesFault l0 l1) := by
  unfold punctualref_Lawful.f comesFault
  rw [CheckSet_eq l0 hl K (by omega) hs]
  simp only
  by_cases hc : (setFault l0).Code = 0
  · rw [if_pos hc, if_pos hc]
    obtain ⟨hl1, hl8, hset⟩ := setFault_ok hc
    by_cases hlen : (l1.length : Int) > 4000
    · rw [if_pos hlen, if_pos (by omega)]; rfl
    rw [if_neg hlen, if_neg (by omega)]
    have hr := iter_states (f := punctualref_Lawful.r0 K l0 l1) (fun i => i) (comeAt l0 l1) l1.length (t := ()) (fun i hi hp => by
      have hi' : (i : Int) < (l1.length : Int) := by omega
      have hi4 : (i : Int) ≤ 4000 := by omega
      have hat : ∀ j b, j < i → l1[j]? = some b → 0 ≤ b.At ∧ b.At ≤ 20000 := fun j b hj hb => by
        obtain ⟨_, _, h1, h2, _⟩ := comeAt_none hb (hp j hj)
        exact ⟨h1, h2⟩
      simp only [punctualref_Lawful.r0, if_pos hi', List.getElem?_eq_getElem hi]
      have hce : l1[i]? = some l1[i] := List.getElem?_eq_getElem hi
      generalize l1[i] = c at hce ⊢
      by_cases h1 : c.Task < 0 ∨ c.Task ≥ (l0.length : Int)
      · have hA : comeAt l0 l1 i = some ⟨4, (i : Int)⟩ := by simp only [comeAt, hce, if_pos h1]
        rw [hA]
        unfold punctualref_Lawful.p1
        by_cases h1' : c.Task < 0
        · rw [if_pos h1']; rfl
        · rw [if_neg h1', if_pos (by omega)]; rfl
      have h1a : ¬ c.Task < 0 := by omega
      have h1b : ¬ c.Task ≥ (l0.length : Int) := by omega
      have hp1 : punctualref_Lawful.p1 l0 i c = some (.inl ()) := by unfold punctualref_Lawful.p1; rw [if_neg h1a, if_neg h1b]
      simp only [hp1]
      by_cases h2 : c.At < 0 ∨ c.At > 20000
      · have hA : comeAt l0 l1 i = some ⟨3, (i : Int)⟩ := by simp only [comeAt, hce, if_neg h1, if_pos h2]
        rw [hA]
        unfold punctualref_Lawful.p2
        by_cases h2' : c.At < 0
        · rw [if_pos h2']; rfl
        · rw [if_neg h2', if_pos (by omega)]; rfl
      have hp2 : punctualref_Lawful.p2 i c = some (.inl ()) := by unfold punctualref_Lawful.p2; rw [if_neg (by omega), if_neg (by omega)]
      simp only [hp2]
      have hp3 : punctualref_Lawful.p3 l1 i c = some (if sooner l1 i c then .inr ⟨12, (i : Int)⟩ else .inl ()) := by
        unfold punctualref_Lawful.p3
        by_cases hi0 : 0 < i
        · have hb : l1[i - 1]? = some l1[i - 1] := List.getElem?_eq_getElem (by omega)
          have hw : IntKind.i64.wrap ((i : Int) - 1) = ((i - 1 : Nat) : Int) := by rw [wrap64_small (by omega) (by omega)]; omega
          rw [if_pos (by omega), hw, if_pos (by omega), Int.toNat_natCast, hb]
          simp only [gt_iff_lt]
          by_cases hlt : c.At < l1[i - 1].At
          · rw [if_pos hlt, if_pos (sooner_mk hi0 hb hlt)]; rfl
          · rw [if_neg hlt, if_neg]
            rintro ⟨b, _, hb', h⟩
            rw [hb] at hb'; cases hb'; exact hlt h
        · rw [if_neg (by omega), if_neg]
          rintro ⟨b, h, _⟩
          exact hi0 h
      simp only [hp3]
      by_cases h3 : sooner l1 i c
      · have hA : comeAt l0 l1 i = some ⟨12, (i : Int)⟩ := by simp only [comeAt, hce, if_neg h1, if_neg h2, if_pos h3]
        rw [hA, if_pos h3]; rfl
      rw [if_neg h3]
      obtain ⟨x, hx⟩ : ∃ x, l0[c.Task.toNat]? = some x := ⟨l0[c.Task.toNat]'(by omega), List.getElem?_eq_getElem (by omega)⟩
      have hw : IntKind.i64.wrap ((i : Int) - 1) = (i : Int) - 1 := wrap64_small (by omega) (by omega)
      rw [hw]
      simp only [back_eq l0 l1 i c x hx (by omega) ⟨by omega, by omega⟩ (by omega) hi hat i K (Nat.le_refl _) (by omega)]
      have hA : comeAt l0 l1 i = match lastOf l1 c.Task i with
          | none => none
          | some k => match l1[k]? with
            | some b => if c.At - b.At < x.T then some ⟨12, (i : Int)⟩ else none
            | none => none := by
        simp only [comeAt, hce, if_neg h1, if_neg h2, if_neg h3, hx]
        cases hk : lastOf l1 c.Task i with
        | none => rfl
        | some k =>
          obtain ⟨b, hb, _⟩ := lastOf_task hk
          simp only [hb]
      rw [hA]
      cases hk : lastOf l1 c.Task i with
      | none => rfl
      | some k =>
        obtain ⟨b, hb, _⟩ := lastOf_task hk
        simp only [hb]
        by_cases hlt : c.At - b.At < x.T
        · simp only [if_pos hlt]; rfl
        · simp only [if_neg hlt]; rfl) (fun _ => by simp [punctualref_Lawful.r0]) (K := K) (by omega)
    simp only [hr]
    cases firstOf (comeAt l0 l1) l1.length 0 <;> rfl
  · rw [if_neg hc, if_neg hc]
/-- the i-th job -/
def jobOf (l0 : List STask) (l1 : List SCome) (l2 l3 : List Int) (i : Nat) : SJob :=
  match l1[i]?, l2[i]?, l3[i]? with
  | some c, some a, some b => match l0[c.Task.toNat]? with
    | some t => ⟨c.Task, c.At + a, b, c.At + t.D, t.P⟩
    | none => ⟨0, 0, 0, 0, 0⟩
  | _, _, _ => ⟨0, 0, 0, 0, 0⟩
/-- what is wrong with the i-th job -/
def jobAt (l0 : List STask) (l1 : List SCome) (l2 l3 : List Int) (i : Nat) : Option SFault :=
  match l1[i]?, l2[i]?, l3[i]? with
  | some c, some a, some b => match l0[c.Task.toNat]? with
    | some t => if a < 0 ∨ a > t.J ∨ b < 1 ∨ b > t.C then some ⟨3, (i : Int)⟩ else none
    | none => none
  | _, _, _ => none
def jobsTill (l0 : List STask) (l1 : List SCome) (l2 l3 : List Int) (i : Nat) : List SJob := (List.range i).map (jobOf l0 l1 l2 l3)
/-- the jobs, or what is wrong -/
noncomputable def jobsOf (l0 : List STask) (l1 : List SCome) (l2 l3 : List Int) : List SJob × SFault :=
  if (comesFault l0 l1).Code = 0 then
    (if l2.length = l1.length ∧ l3.length = l1.length then
      (match firstOf (jobAt l0 l1 l2 l3) l1.length 0 with
      | some f => ([], f)
      | none => (jobsTill l0 l1 l2 l3 l1.length, ⟨0, 0⟩))
    else ([], ⟨2, 0⟩))
  else ([], comesFault l0 l1)
theorem comesFault_ok {l0 : List STask} {l1 : List SCome} (h : (comesFault l0 l1).Code = 0) : (setFault l0).Code = 0 ∧ l1.length ≤ 4000 ∧ ∀ i, i < l1.length → comeAt l0 l1 i = none := by
  unfold comesFault at h
  split at h
  · rename_i hs
    split at h
    · cases h
    · rename_i hl
      refine ⟨hs, by omega, fun i hi => ?_⟩
      cases hf : firstOf (comeAt l0 l1) l1.length 0 with
      | none => exact firstOf_none hf i (Nat.zero_le _) hi
      | some r =>
        rw [hf] at h
        obtain ⟨j, _, hj, hg, _⟩ := firstOf_some hf
        simp only [Option.getD_some] at h
        exfalso
        unfold comeAt at hg
        rw [List.getElem?_eq_getElem hj] at hg
        simp only at hg
        repeat' split at hg
        all_goals first | (cases hg; done) | (cases hg; cases h)
  · contradiction
theorem Jobs_eq (l0 : List STask) (l1 : List SCome) (l2 l3 : List Int) (K : Nat) (hK : 4020 ≤ K) (h2 : l2.length ≤ 5000) (h3 : l3.length ≤ 5000) : tasks_Jobs.f K l0 l1 l2 l3 = some (jobsOf l0 l1 l2 l3) := by
  unfold tasks_Jobs.f jobsOf
  rw [Legal_eq l0 l1 K hK]
  simp only
  by_cases hc : (comesFault l0 l1).Code = 0
  · rw [if_pos hc, if_pos hc]
    obtain ⟨hs, hl, hcomes⟩ := comesFault_ok hc
    obtain ⟨_, hl8, hset⟩ := setFault_ok hs
    unfold tasks_Jobs.p0
    by_cases hla : (l2.length : Int) = (l1.length : Int)
    · rw [if_pos hla]
      by_cases hlb : (l3.length : Int) = (l1.length : Int)
      · rw [if_pos hlb, if_pos (by omega)]
        have hr := iter_states (f := tasks_Jobs.r1 l0 l1 l2 l3) (fun i => (jobsTill l0 l1 l2 l3 i, i)) (fun i => (jobAt l0 l1 l2 l3 i).map fun f => (([] : List SJob), f)) l1.length (t := jobsTill l0 l1 l2 l3 l1.length) (fun i hi hp => by
          have hi' : (i : Int) < (l1.length : Int) := by omega
          have hi2 : i < l2.length := by omega
          have hi3 : i < l3.length := by omega
          have hc1 : l1[i]? = some l1[i] := List.getElem?_eq_getElem hi
          obtain ⟨ht0, ht1, ha0, ha1, _⟩ := comeAt_none hc1 (hcomes i hi)
          obtain ⟨t, ht⟩ : ∃ t, l0[l1[i].Task.toNat]? = some t := ⟨l0[l1[i].Task.toNat]'(by omega), List.getElem?_eq_getElem (by omega)⟩
          obtain ⟨_, _, htC, htT, htD, htJ, _⟩ := hset _ _ ht
          have hJ : jobAt l0 l1 l2 l3 i = if l2[i] < 0 ∨ l2[i] > t.J ∨ l3[i] < 1 ∨ l3[i] > t.C then some ⟨3, (i : Int)⟩ else none := by
            simp only [jobAt, hc1, List.getElem?_eq_getElem hi2, List.getElem?_eq_getElem hi3, ht]
          have hP : tasks_Jobs.p2 l2 l3 i t = some (if l2[i] < 0 ∨ l2[i] > t.J ∨ l3[i] < 1 ∨ l3[i] > t.C then .inr ([], ⟨3, (i : Int)⟩) else .inl ()) := by
            simp only [tasks_Jobs.p2, List.getElem?_eq_getElem hi2, List.getElem?_eq_getElem hi3]
            by_cases h1 : l2[i] < 0
            · rw [if_pos h1, if_pos (.inl h1)]
            rw [if_neg h1]
            by_cases h2 : l2[i] > t.J
            · rw [if_pos h2, if_pos (.inr (.inl h2))]
            rw [if_neg h2]
            by_cases h3 : l3[i] < 1
            · rw [if_pos h3, if_pos (.inr (.inr (.inl h3)))]
            rw [if_neg h3]
            by_cases h4 : l3[i] > t.C
            · rw [if_pos h4, if_pos (.inr (.inr (.inr h4)))]
            rw [if_neg h4, if_neg (by omega)]
          have hlen : (jobsTill l0 l1 l2 l3 i).length < 3518437208883 := by simp [jobsTill]; omega
          simp only [tasks_Jobs.r1, if_pos hi', hc1, if_pos ht0, ht, hP, hJ, List.getElem?_eq_getElem hi2, List.getElem?_eq_getElem hi3]
          by_cases hbad : l2[i] < 0 ∨ l2[i] > t.J ∨ l3[i] < 1 ∨ l3[i] > t.C
          · simp only [if_pos hbad]; rfl
          simp only [if_neg hbad, if_pos hlen, Option.map_none, onwardS]
          congr 3
          rw [wrap64_small (by omega) (by omega), wrap64_small (by omega) (by omega)]
          unfold jobsTill
          rw [List.range_succ, List.map_append]
          congr 1
          simp only [List.map_cons, List.map_nil, jobOf, hc1, List.getElem?_eq_getElem hi2, List.getElem?_eq_getElem hi3, ht]) (fun _ => by simp [tasks_Jobs.r1]) (K := K) (by omega)
        have h0 : jobsTill l0 l1 l2 l3 0 = [] := rfl
        simp only [h0] at hr
        simp only [hr]
        rw [firstOf_map]
        cases firstOf (jobAt l0 l1 l2 l3) l1.length 0 <;> rfl
      · rw [if_neg hlb, if_neg (by omega)]
    · rw [if_neg hla, if_neg (by omega)]
  · rw [if_neg hc, if_neg hc]
theorem JobsOf_eq (l0 : List STask) (l1 : List SCome) (l2 l3 : List Int) (hl : ∀ t ∈ l0, Ok.ok t) (K : Nat) (hK : 4020 ≤ K) (hs : ∀ t ∈ l0, t.Name.size < K) (h2 : l2.length ≤ 5000) (h3 : l3.length ≤ 5000) : punctualref_JobsOf.f K l0 l1 l2 l3 = some (jobsOf l0 l1 l2 l3) := by
  rw [← Jobs_eq l0 l1 l2 l3 K hK h2 h3]
  unfold punctualref_JobsOf.f tasks_Jobs.f
  rw [Lawful_eq l0 l1 hl K hK hs, Legal_eq l0 l1 K hK]
  rfl
theorem jobsOf_len (l0 : List STask) (l1 : List SCome) (l2 l3 : List Int) : (jobsOf l0 l1 l2 l3).1.length ≤ 4000 := by
  unfold jobsOf
  split
  · rename_i h
    obtain ⟨_, hl, _⟩ := comesFault_ok h
    split
    · split
      · simp
      · simp [jobsTill]; exact hl
    · simp
  · simp
theorem TasksJobs_law (l0 : List STask) (l1 : List SCome) (l2 l3 : List Int) (ok0 : ∀ y ∈ l0, Ok.ok y) (ok1 : ∀ y ∈ l1, Ok.ok y) (ok2 : ∀ y ∈ l2, Ok.ok y) (ok3 : ∀ y ∈ l3, Ok.ok y) : ∃ K, TasksJobs.f K l0 l1 l2 l3 = some true := by
  obtain ⟨B, hB⟩ := exists_bound (fun t : STask => t.Name.size) l0
  refine ⟨B + 5020, ?_⟩
  have h1 : jobsOf three.f [⟨1, 5⟩] [0] [2] = ([⟨1, 5, 2, 11, 2⟩], ⟨0, 0⟩) := by
    have := Jobs_eq three.f [⟨1, 5⟩] [0] [2] 4020 (Nat.le_refl _) (by simp) (by simp)
    have h : tasks_Jobs.f 4020 three.f [⟨1, 5⟩] [0] [2] = some ([⟨1, 5, 2, 11, 2⟩], ⟨0, 0⟩) := by kernel_rfl
    rw [h] at this
    exact (Option.some.inj this).symm
  have hp0 : TasksJobs.p0 (B + 5020) ([⟨1, 5, 2, 11, 2⟩], ⟨0, 0⟩) = some (.inl ()) := by
    unfold TasksJobs.p0
    rw [if_pos rfl, punctualsame_Same_api_Job_self _ _ (by simp)]
    rfl
  unfold TasksJobs.f
  rw [Jobs_eq three.f [⟨1, 5⟩] [0] [2] (B + 5020) (by omega) (by simp) (by simp), h1]
  simp only [hp0]
  by_cases hf : few.f (l0.length : Int) = true ∧ few.f (l1.length : Int) = true ∧ few.f (l2.length : Int) = true ∧ few.f (l3.length : Int) = true
  · obtain ⟨f0, f1, f2, f3⟩ := hf
    have hp1 : TasksJobs.p1 l0 l1 l2 l3 = some (.inl ()) := by unfold TasksJobs.p1; rw [if_pos f0, if_pos f1, if_pos f2, if_pos f3]
    have g0 := few_true f0
    have g1 := few_true f1
    have g2 := few_true f2
    have g3 := few_true f3
    obtain ⟨r0, e0⟩ := punctualsame_Lend_api_Task_some l0 ⟨⟨#[63]⟩, (-9), 0, 0, 0, 0, 0⟩ g0
    obtain ⟨r1, e1⟩ := punctualsame_Lend_api_Come_some l1 ⟨(-9), 0⟩ g1
    obtain ⟨r2, e2⟩ := punctualsame_Lend_int_some l2 (-9) g2
    obtain ⟨r3, e3⟩ := punctualsame_Lend_int_some l3 (-9) g3
    have hj := jobsOf_len l0 l1 l2 l3
    have hr := iter_first0 (f := TasksJobs.r2 (B + 5020) l0 l1 l2 l3 (jobsOf l0 l1 l2 l3)) (fun _ => none) 2 (t := ()) (fun i hi => by
      have hi' : (i : Int) < 2 := by omega
      simp only [TasksJobs.r2, if_pos hi', Jobs_eq l0 l1 l2 l3 (B + 5020) (by omega) g2 g3, SFault.eqb_self, if_true, punctualsame_Same_api_Job_self _ (B + 5020) (show (jobsOf l0 l1 l2 l3).1.length < B + 5020 by omega), onward]) (by simp [TasksJobs.r2]) (K := B + 5020) (by omega)
    rw [firstOf_none_of (fun _ _ _ => rfl)] at hr
    simp only [hp1, JobsOf_eq l0 l1 l2 l3 ok0 (B + 5020) (by omega) (fun t ht => by have := hB t ht; omega) g2 g3, e0, e1, e2, e3, hr, leave,
      punctualsame_Still_api_Task_true l0 _ (B + 5020) g0 (by omega), punctualsame_Still_api_Come_true l1 _ (B + 5020) g1 (by omega), punctualsame_Still_int_true l2 _ (B + 5020) g2 (by omega), punctualsame_Still_int_true l3 _ (B + 5020) g3 (by omega), if_true]
  · have hp1 : TasksJobs.p1 l0 l1 l2 l3 = some (.inr true) := by
      unfold TasksJobs.p1
      repeat' split
      all_goals first | rfl | (exfalso; exact hf ⟨by assumption, by assumption, by assumption, by assumption⟩)
    simp only [hp1]
end Go.Proofs.YtlipdmblinjjaaaDoor.GV
