/- Plain words: GvLRedoResponds. -/
import Derived.Test.YtccfilmiboepjaaDoorGWRedoResponds5
import Derived.Test.YtccfilmiboepjaaDoorGv17
namespace Go.Proofs.YtccfilmiboepjaaDoor.GV
open Go Go.RowKit
set_option linter.unusedVariables false
set_option linter.unusedSimpArgs false
theorem SFault.eqb_self (x : SFault) : SFault.eqb x x = true := by simp [SFault.eqb]
theorem SJob.eqb_self (x : SJob) : SJob.eqb x x = true := by simp [SJob.eqb]
theorem STask.eqb_self (x : STask) : STask.eqb x x = true := by simp [STask.eqb]
theorem A6Int.eqb_self (x : A6Int) : A6Int.eqb x x = true := by simp [A6Int.eqb]
theorem punctualsame_Lend_api_Task_some (l : List STask) (a : STask) (h : l.length ≤ 5000) : ∃ r, punctualsame_Lend_api_Task.f l a = some r := by
  have hw : IntKind.i64.wrap ((l.length : Int) + 3) = (l.length : Int) + 3 := wrap64_small (by omega) (by omega)
  unfold punctualsame_Lend_api_Task.f
  rw [hw, if_pos (by omega), if_pos (by omega), if_pos (by simp; omega), if_pos (by simp; omega)]
  exact ⟨_, rfl⟩
theorem punctualsame_Still_api_Task_true (l : List STask) (a : STask) (K : Nat) (hl : l.length ≤ 5000) (hK : 5010 ≤ K) : punctualsame_Still_api_Task.f K (l ++ [a, a, a]) l a = some true := by
  have hw : IntKind.i64.wrap ((l.length : Int) + 3) = (l.length : Int) + 3 := wrap64_small (by omega) (by omega)
  have hr := iter_first0 (f := punctualsame_Still_api_Task.r0 (l ++ [a, a, a]) l a) (fun _ => none) (l.length + 3) (t := ()) (fun i hi => by
    have h' : (i : Int) < ((l ++ [a, a, a] : List STask).length : Int) := by simp; omega
    simp only [punctualsame_Still_api_Task.r0, if_pos h']
    by_cases h2 : i < l.length
    · have h2' : (i : Int) < (l.length : Int) := by omega
      have h3 : ¬ (i : Int) ≥ (l.length : Int) := by omega
      rw [List.getElem?_append_left h2, List.getElem?_eq_getElem h2]
      simp only [if_pos h2', STask.eqb_self, if_true, if_neg h3, onward]
    · have h2' : ¬ (i : Int) < (l.length : Int) := by omega
      have h3 : (i : Int) ≥ (l.length : Int) := by omega
      rw [List.getElem?_append_right (by omega)]
      have : i - l.length = 0 ∨ i - l.length = 1 ∨ i - l.length = 2 := by omega
      rcases this with e | e | e <;> simp [e, h2', h3, onward, STask.eqb_self]) (by
    have h' : ¬ ((l.length + 3 : Nat) : Int) < ((l ++ [a, a, a] : List STask).length : Int) := by simp
    simp only [punctualsame_Still_api_Task.r0, if_neg h']) (K := K) (by omega)
  rw [firstOf_none_of (fun _ _ _ => rfl)] at hr
  have hlen : IntKind.i64.wrap ((l.length : Int) + 3) = ((l ++ [a, a, a] : List STask).length : Int) := by rw [hw]; simp
  simp only [punctualsame_Still_api_Task.f, if_pos hlen, hr, leave]
theorem punctualsame_Same_int_self (l : List Int) (K : Nat) (hK : l.length < K) : punctualsame_Same_int.f K l l = some true := by
  have hr := iter_first0 (f := punctualsame_Same_int.r0 l l) (fun _ => none) l.length (t := ()) (fun i hi => by
    have h' : (i : Int) < (l.length : Int) := by omega
    simp only [punctualsame_Same_int.r0, if_pos h', List.getElem?_eq_getElem hi, if_true, onward]) (by
    have h' : ¬ (l.length : Int) < (l.length : Int) := by omega
    simp only [punctualsame_Same_int.r0, if_neg h']) hK
  rw [firstOf_none_of (fun _ _ _ => rfl)] at hr
  simp only [punctualsame_Same_int.f, if_true, hr, leave]
theorem few_true {n : Nat} (h : few.f (n : Int) = true) : n ≤ 5000 := by
  simp only [few.f, decide_eq_true_eq] at h; omega
theorem few_false {n : Nat} (h : ¬ few.f (n : Int) = true) : 5000 < n := by
  simp only [few.f, decide_eq_true_eq] at h; omega
theorem exists_bound {α : Type} (f : α → Nat) : ∀ l : List α, ∃ B, ∀ x ∈ l, f x ≤ B
  | [] => ⟨0, by simp⟩
  | x :: l => by
    obtain ⟨B, h⟩ := exists_bound f l
    refine ⟨max (f x) B, fun y hy => ?_⟩
    rcases List.mem_cons.1 hy with rfl | hy
    · exact Nat.le_max_left _ _
    · exact Nat.le_trans (h y hy) (Nat.le_max_right _ _)
/-- a letter stands there -/
def letterAt (x : ByteArray) (i : Nat) : Bool := match x[i]? with | some b => decide (97 ≤ b.toNat) && decide (b.toNat ≤ 122) | none => false
def allL (x : ByteArray) (n : Nat) : Bool := (List.range n).all (letterAt x)
theorem allL_succ (x : ByteArray) (n : Nat) : allL x (n + 1) = (allL x n && letterAt x n) := by simp [allL, List.range_succ]
theorem allL_iff {x : ByteArray} {n : Nat} : allL x n = true ↔ ∀ i, i < n → letterAt x i = true := by simp [allL]
def Good (x : ByteArray) : Prop := 1 ≤ x.size ∧ x.size ≤ 10 ∧ allL x x.size = true
instance (x : ByteArray) : Decidable (Good x) := by unfold Good; infer_instance
theorem get!_of {x : ByteArray} {i : Nat} {b : UInt8} (h : x[i]? = some b) : x.get! i = b := by
  have hi : i < x.size := by
    rcases Nat.lt_or_ge i x.size with h' | h'
    · exact h'
    · rw [getElem?_neg x i (by omega)] at h; cases h
  rw [getElem?_pos x i hi] at h
  have := Option.some.inj h
  rw [← this]
  cases x with
  | mk bs => exact getElem!_pos bs i hi
theorem byte_some {x : ByteArray} {i : Nat} (h : i < x.size) : ∃ b, x[i]? = some b := ⟨x[i], getElem?_pos x i h⟩
theorem decode_letter {x : ByteArray} {i : Nat} (hi : i < x.size) (h : letterAt x i = true) : ∃ n : Nat, Utf8.decode x i = (n, 1) ∧ 97 ≤ n ∧ n ≤ 122 := by
  obtain ⟨b, hb⟩ := byte_some hi
  simp only [letterAt, hb, Bool.and_eq_true, decide_eq_true_eq] at h
  refine ⟨b.toNat, ?_, h⟩
  have := get!_of hb
  simp only [Utf8.decode, Nat.add_zero, this]
  rw [if_pos (by omega)]
theorem decode_other {x : ByteArray} {i : Nat} (hi : i < x.size) (h : letterAt x i = false) : (Utf8.decode x i).1 < 97 ∨ 122 < (Utf8.decode x i).1 := by
  obtain ⟨b, hb⟩ := byte_some hi
  simp only [letterAt, hb, Bool.and_eq_false_iff, decide_eq_false_iff_not] at h
  have := get!_of hb
  simp only [Utf8.decode, Nat.add_zero, this]
  have he : Utf8.runeError = 65533 := rfl
  repeat' split
  all_goals simp only [he, Bool.and_eq_true, decide_eq_true_eq, ge_iff_le] at *
  all_goals omega
theorem isName_eq (x : ByteArray) (K : Nat) (hK : 12 ≤ K) : tasks_isName.f K x = some (decide (Good x)) := by
  unfold tasks_isName.f
  by_cases h1 : (x.size : Int) < 1
  · rw [if_pos h1]; congr 1; symm; rw [decide_eq_false_iff_not]; intro h; have := h.1; omega
  rw [if_neg h1]
  by_cases h2 : (x.size : Int) > 10
  · rw [if_pos h2]; congr 1; symm; rw [decide_eq_false_iff_not]; intro h; have := h.2.1; omega
  rw [if_neg h2]
  have hr := iter_first0 (f := tasks_isName.r0 x) (fun i => if letterAt x i = true then none else some false) x.size (t := ()) (fun i hi => by
    simp only [tasks_isName.r0, if_pos hi]
    by_cases h : letterAt x i = true
    · obtain ⟨n, hd, ha, hb⟩ := decode_letter hi h
      simp only [hd, h, if_true]
      rw [if_neg (by omega), if_neg (by omega)]; rfl
    · simp only [h]
      rcases decode_other hi (by simpa using h) with h | h
      · rw [if_pos (by omega)]; simp [onward]
      · rw [if_neg (by omega), if_pos (by omega)]; simp [onward]) (by simp [tasks_isName.r0]) (K := K) (by omega)
  rw [hr]
  cases hf : firstOf (fun i => if letterAt x i = true then none else some false) x.size 0 with
  | none =>
    show some true = some _
    congr 1; symm
    rw [decide_eq_true_eq]
    refine ⟨by omega, by omega, allL_iff.2 fun i hi => ?_⟩
    have := firstOf_none hf i (Nat.zero_le _) hi
    split at this
    · assumption
    · cases this
  | some r =>
    obtain ⟨j, _, hj, hg, _⟩ := firstOf_some hf
    split at hg
    · cases hg
    · rename_i hn
      cases hg
      show some false = some _
      congr 1; symm
      rw [decide_eq_false_iff_not]
      intro h
      exact hn (allL_iff.1 h.2.2 j hj)
theorem refName_eq (e : STask) (hs : Ok.ok e) (K : Nat) (hK : e.Name.size < K) : ∃ q, punctualref_CheckSet.p2 e = some (.inl q) ∧ iter (punctualref_CheckSet.r3 e) K (q, 0) = some (.inl (decide (Good e.Name))) := by
  have hsm : e.Name.size ≤ 9223372036854775807 := hs.1
  have key : ∀ q : Bool, iter (punctualref_CheckSet.r3 e) K (q, 0) = some (.inl (q && allL e.Name e.Name.size)) := by
    intro q
    obtain ⟨r, hr, hR⟩ := iter_total (f := punctualref_CheckSet.r3 e) (fun s => 0 ≤ s.2 ∧ s.2 ≤ e.Name.size ∧ s.1 = (q && allL e.Name s.2.toNat)) (fun s => e.Name.size - s.2.toNat)
      (fun r => r = .inl (q && allL e.Name e.Name.size)) (fun s hI => by
        obtain ⟨p, z⟩ := s
        obtain ⟨h1, h2, h3⟩ := hI
        simp only at h1 h2 h3
        obtain ⟨n, rfl⟩ := Int.eq_ofNat_of_zero_le h1
        by_cases hz : (n : Int) < (e.Name.size : Int)
        · left
          have hn : n < e.Name.size := by omega
          obtain ⟨b, hb⟩ := byte_some hn
          have hw : IntKind.i64.wrap ((n : Int) + 1) = ((n + 1 : Nat) : Int) := by rw [wrap64_small (by omega) (by omega)]; rfl
          have hstep : punctualref_CheckSet.r3 e (p, (n : Int)) = some (.inl (p && letterAt e.Name n, ((n + 1 : Nat) : Int))) := by
            simp only [punctualref_CheckSet.r3, if_pos hz, hw, Int.toNat_natCast, hb, letterAt, if_pos h1]
            cases p with
            | false => simp
            | true =>
              simp only [if_true, Bool.true_and]
              by_cases ha : (b.toNat : Int) ≥ 97
              · rw [if_pos ha]
                have : (97 ≤ b.toNat) := by omega
                simp only [this, decide_true, Bool.true_and, Option.some.injEq, Sum.inl.injEq, Prod.mk.injEq, and_true]
                rw [Bool.eq_iff_iff, decide_eq_true_eq, decide_eq_true_eq]
                omega
              · rw [if_neg ha]
                have : ¬ (97 ≤ b.toNat) := by omega
                simp [this]
          refine ⟨_, hstep, ⟨by simp only; omega, by simp only; omega, ?_⟩, by simp only; omega⟩
          simp only [h3, Int.toNat_natCast]
          rw [allL_succ, Bool.and_assoc]
        · right
          obtain rfl : n = e.Name.size := by omega
          refine ⟨.inl p, by simp only [punctualref_CheckSet.r3, if_neg hz], ?_⟩
          rw [h3]
          rfl) K (q, 0) ⟨by simp, by simp, by simp [allL]⟩ (by simpa using hK)
    rw [hr, hR]
  unfold punctualref_CheckSet.p2
  by_cases h1 : (e.Name.size : Int) ≥ 1
  · rw [if_pos h1]
    refine ⟨_, rfl, ?_⟩
    rw [key]
    congr 2
    rw [Bool.eq_iff_iff]
    rw [Bool.and_eq_true, decide_eq_true_eq, decide_eq_true_eq]
    constructor
    · rintro ⟨ha, hb⟩; exact ⟨by omega, by omega, hb⟩
    · rintro ⟨ha, hb, hc⟩; exact ⟨by omega, hc⟩
  · rw [if_neg h1]
    refine ⟨_, rfl, ?_⟩
    rw [key]
    congr 2
    rw [Bool.false_and, eq_comm, decide_eq_false_iff_not]
    intro h; have := h.1; omega
/-- the first of those ahead that bears the name -/
def dupAt (l : List STask) (i : Nat) (t : STask) : Prop := ∃ j e, j < i ∧ l[j]? = some e ∧ e.Name.toList = t.Name.toList
noncomputable instance (l : List STask) (i : Nat) (t : STask) : Decidable (dupAt l i t) := Classical.propDecidable _
theorem takedrop {α : Type} (l : List α) (i : Nat) : (l.take i).drop 0 = l.take i := by simp
theorem contains_eq (l : List STask) (i : Nat) (hi : i < l.length) (t : STask) (K : Nat) (hK : i < K) : slices_ContainsFunc_api_Task_api_Task.f K ((l.take i).drop 0) t = some (decide (dupAt l i t)) := by
  rw [takedrop]
  have hlen : (l.take i).length = i := by simp; omega
  let g : Nat → Option Int := fun j => match l[j]? with | some e => if e.Name.toList = t.Name.toList then some (j : Int) else none | none => none
  have hr := iter_first0 (f := slices_IndexFunc_api_Task_api_Task.r0 (l.take i) t) g i (t := ()) (fun j hj => by
    have hj' : (j : Int) < ((l.take i).length : Int) := by omega
    have hjl : j < l.length := by omega
    simp only [slices_IndexFunc_api_Task_api_Task.r0, if_pos hj', List.getElem?_take, if_pos hj, List.getElem?_eq_getElem hjl, g, tasks_Check_1.f, beq_iff_eq]
    split <;> rfl) (by
    have : ¬ (i : Int) < ((l.take i).length : Int) := by omega
    simp only [slices_IndexFunc_api_Task_api_Task.r0, if_neg this]) (K := K) hK
  unfold slices_ContainsFunc_api_Task_api_Task.f slices_IndexFunc_api_Task_api_Task.f
  rw [hr]
  cases hf : firstOf g i 0 with
  | none =>
    show some (decide ((-1 : Int) ≥ 0)) = _
    congr 1
    have : ¬ dupAt l i t := by
      rintro ⟨j, e, hj, he, hn⟩
      have := firstOf_none hf j (Nat.zero_le _) hj
      simp only [g, he, if_pos hn] at this
      cases this
    simp [this]
  | some r =>
    show some (decide (r ≥ 0)) = _
    obtain ⟨j, _, hj, hg, _⟩ := firstOf_some hf
    have hjl : j < l.length := by omega
    simp only [g, List.getElem?_eq_getElem hjl] at hg
    split at hg
    · rename_i hn
      cases hg
      have : dupAt l i t := ⟨j, l[j], hj, List.getElem?_eq_getElem hjl, hn⟩
      simp [this]
    · cases hg
theorem refDup_eq (l : List STask) (i : Nat) (hi : i < l.length) (t : STask) (K : Nat) (hK : i < K) : iter (punctualref_CheckSet.r4 l i t) K 0 = some (if dupAt l i t then .inr ⟨5, (i : Int)⟩ else .inl ()) := by
  have hlen : ((l.take i).drop 0).length = i := by simp; omega
  let g : Nat → Option SFault := fun j => match l[j]? with | some e => if e.Name.toList = t.Name.toList then some ⟨5, (i : Int)⟩ else none | none => none
  have hr := iter_first0 (f := punctualref_CheckSet.r4 l i t) g i (t := ()) (fun j hj => by
    have hj' : (j : Int) < (((l.take i).drop 0).length : Int) := by omega
    have hjl : j < l.length := by omega
    simp only [punctualref_CheckSet.r4, if_pos hj']
    rw [takedrop]
    simp only [List.getElem?_take, if_pos hj, List.getElem?_eq_getElem hjl, g, punctualref_F.f]
    split <;> rfl) (by
    have : ¬ (i : Int) < (((l.take i).drop 0).length : Int) := by omega
    simp only [punctualref_CheckSet.r4, if_neg this]) (K := K) hK
  rw [hr]
  cases hf : firstOf g i 0 with
  | none =>
    have : ¬ dupAt l i t := by
      rintro ⟨j, e, hj, he, hn⟩
      have := firstOf_none hf j (Nat.zero_le _) hj
      simp only [g, he, if_pos hn] at this
      cases this
    simp [this, leave]
  | some r =>
    obtain ⟨j, _, hj, hg, _⟩ := firstOf_some hf
    have hjl : j < l.length := by omega
    simp only [g, List.getElem?_eq_getElem hjl] at hg
    split at hg
    · rename_i hn
      cases hg
      have : dupAt l i t := ⟨j, l[j], hj, List.getElem?_eq_getElem hjl, hn⟩
      simp [this, leave]
    · cases hg
theorem iter_succ {σ ρ : Type} (f : σ → Option (σ ⊕ ρ)) (K : Nat) (s : σ) : iter f (K + 1) s = match f s with | none => none | some (.inl s') => iter f K s' | some (.inr r) => some r := rfl
/-- a number lies out of its range -/
def rangeAt (i : Nat) (t : STask) (j : Nat) : Option SFault :=
  match ([t.C, t.T, t.D, t.J, t.O, t.P] : List Int)[j]? with
  | none => none
  | some v => match ([1, 1, 1, 0, 0, 0] : List Int)[j]? with
    | none => none
    | some a => if v < a then some ⟨3, (i : Int)⟩ else match ([10000, 10000, 10000, 10000, 10000, 1000] : List Int)[j]? with
      | none => none
      | some b => if v > b then some ⟨3, (i : Int)⟩ else none
theorem range_eq (i : Nat) (t : STask) (K : Nat) (hK : 7 ≤ K) : iter (tasks_Check.r2 i t) K 0 = some (leave () (firstOf (rangeAt i t) 6 0)) := by
  refine iter_first0 (f := tasks_Check.r2 i t) (rangeAt i t) 6 (t := ()) (fun j hj => ?_) (by simp [tasks_Check.r2, tasks_numbers.f]) (K := K) (by omega)
  have : j = 0 ∨ j = 1 ∨ j = 2 ∨ j = 3 ∨ j = 4 ∨ j = 5 := by omega
  rcases this with rfl | rfl | rfl | rfl | rfl | rfl <;> simp [tasks_Check.r2, tasks_numbers.f, tasks_bounds.f, rangeAt] <;> (repeat' split) <;> (try simp only [onward]) <;> first | rfl | contradiction | simp_all
theorem refRange_eq (i : Nat) (t : STask) (K : Nat) (hK : 7 ≤ K) : iter (punctualref_CheckSet.r5 i t) K 0 = some (leave () (firstOf (rangeAt i t) 6 0)) := by
  refine iter_first0 (f := punctualref_CheckSet.r5 i t) (rangeAt i t) 6 (t := ()) (fun j hj => ?_) (by simp [punctualref_CheckSet.r5]) (K := K) (by omega)
  have : j = 0 ∨ j = 1 ∨ j = 2 ∨ j = 3 ∨ j = 4 ∨ j = 5 := by omega
  rcases this with rfl | rfl | rfl | rfl | rfl | rfl <;> simp [punctualref_CheckSet.r5, punctualref_sixOf.f, punctualref_F.f, rangeAt] <;> (repeat' split) <;> (try simp only [onward]) <;> first | rfl | contradiction | simp_all
/-- what is wrong with the i-th task -/
noncomputable def wrongAt (l : List STask) (i : Nat) : Option SFault :=
  match l[i]? with
  | none => none
  | some t => if Good t.Name then (if dupAt l i t then some ⟨5, (i : Int)⟩ else match firstOf (rangeAt i t) 6 0 with | some r => some r | none => if t.C > t.D then some ⟨12, (i : Int)⟩ else none) else some ⟨4, (i : Int)⟩
/-- what is wrong with a set -/
noncomputable def setFault (l : List STask) : SFault := if 1 ≤ l.length ∧ l.length ≤ 8 then (firstOf (wrongAt l) l.length 0).getD ⟨0, 0⟩ else ⟨2, 0⟩
theorem Check_eq (l : List STask) (K : Nat) (hK : 20 ≤ K) : tasks_Check.f K l = some (setFault l) := by
  unfold tasks_Check.f tasks_Check.p0 setFault
  by_cases h1 : (l.length : Int) < 1
  · rw [if_pos h1, if_neg (by omega)]
  rw [if_neg h1]
  by_cases h2 : (l.length : Int) > 8
  · rw [if_pos h2, if_neg (by omega)]
  rw [if_neg h2, if_pos (by omega)]
  have hr := iter_first0 (f := tasks_Check.r1 K l) (wrongAt l) l.length (t := ()) (fun i hi => by
    have hi' : (i : Int) < (l.length : Int) := by omega
    have hle : i ≤ l.length := by omega
    simp only [tasks_Check.r1, if_pos hi', List.getElem?_eq_getElem hi, isName_eq _ K (by omega), contains_eq l i hi _ K (by omega), range_eq i _ K (by omega), wrongAt, if_pos hle, decide_eq_true_eq]
    by_cases hg : Good l[i].Name
    · simp only [if_pos hg]
      by_cases hd : dupAt l i l[i]
      · simp only [if_pos hd, onward]
      · simp only [if_neg hd]
        cases firstOf (rangeAt i l[i]) 6 0 with
        | some r => rfl
        | none =>
          simp only [leave]
          split <;> rfl
    · simp only [if_neg hg, onward]) (by simp [tasks_Check.r1]) (K := K) (by omega)
  simp only [hr]
  cases firstOf (wrongAt l) l.length 0 <;> rfl
theorem CheckSet_eq (l : List STask) (hl : ∀ t ∈ l, Ok.ok t) (K : Nat) (hK : 20 ≤ K) (hs : ∀ t ∈ l, t.Name.size < K) : punctualref_CheckSet.f K l = some (setFault l) := by
  unfold punctualref_CheckSet.f punctualref_CheckSet.p0 setFault
  by_cases h1 : (l.length : Int) = 0
  · rw [if_pos h1, if_neg (by omega)]; rfl
  rw [if_neg h1]
  by_cases h2 : (l.length : Int) > 8
  · rw [if_pos h2, if_neg (by omega)]; rfl
  rw [if_neg h2, if_pos (by omega)]
  have hr := iter_first0 (f := punctualref_CheckSet.r1 K l) (wrongAt l) l.length (t := ()) (fun i hi => by
    have hi' : (i : Int) < (l.length : Int) := by omega
    have hle : i ≤ l.length := by omega
    obtain ⟨q, hq1, hq2⟩ := refName_eq l[i] (hl _ (List.getElem_mem hi)) K (hs _ (List.getElem_mem hi))
    simp only [punctualref_CheckSet.r1, if_pos hi', List.getElem?_eq_getElem hi, hq1, hq2, refDup_eq l i hi _ K (by omega), refRange_eq i _ K (by omega), wrongAt, if_pos hle, decide_eq_true_eq]
    by_cases hg : Good l[i].Name
    · simp only [if_pos hg]
      by_cases hd : dupAt l i l[i]
      · simp only [if_pos hd, onward]
      · simp only [if_neg hd]
        cases firstOf (rangeAt i l[i]) 6 0 with
        | some r => rfl
        | none =>
          simp only [gt_iff_lt, leave]
          split <;> rfl
    · simp only [if_neg hg]; rfl) (by simp [punctualref_CheckSet.r1]) (K := K) (by omega)
  simp only [hr]
  cases firstOf (wrongAt l) l.length 0 <;> rfl
theorem setFault_ok {l : List STask} (h : (setFault l).Code = 0) : 1 ≤ l.length ∧ l.length ≤ 8 ∧ ∀ i t, l[i]? = some t → Good t.Name ∧ ¬ dupAt l i t ∧ (1 ≤ t.C ∧ t.C ≤ 10000) ∧ (1 ≤ t.T ∧ t.T ≤ 10000) ∧ (1 ≤ t.D ∧ t.D ≤ 10000) ∧ (0 ≤ t.J ∧ t.J ≤ 10000) ∧ (0 ≤ t.O ∧ t.O ≤ 10000) ∧ (0 ≤ t.P ∧ t.P ≤ 1000) ∧ t.C ≤ t.D := by
  unfold setFault at h
  split at h
  · rename_i hl
    refine ⟨hl.1, hl.2, fun i t ht => ?_⟩
    have hi := lt_of_get ht
    have hn : firstOf (wrongAt l) l.length 0 = none := by
      cases hf : firstOf (wrongAt l) l.length 0 with
      | none => rfl
      | some r =>
        rw [hf] at h
        obtain ⟨j, _, hj, hg, _⟩ := firstOf_some hf
        simp only [Option.getD_some] at h
        exfalso
        unfold wrongAt at hg
        rw [List.getElem?_eq_getElem hj] at hg
        simp only at hg
        split at hg
        · split at hg
          · cases hg; cases h
          · split at hg
            · rename_i r' hr'
              cases hg
              obtain ⟨q, _, hq, hg2, _⟩ := firstOf_some hr'
              unfold rangeAt at hg2
              repeat' split at hg2
              all_goals first | cases hg2; done | (cases hg2; cases h)
            · split at hg
              · cases hg; cases h
              · cases hg
        · cases hg; cases h
    have h0 := firstOf_none hn i (Nat.zero_le _) hi
    unfold wrongAt at h0
    rw [ht] at h0
    simp only at h0
    split at h0
    · rename_i hg
      split at h0
      · cases h0
      · rename_i hd
        split at h0
        · cases h0
        · rename_i hr
          split at h0
          · cases h0
          · rename_i hcd
            have hrr := firstOf_none hr
            have e0 := hrr 0 (by omega) (by omega)
            have e1 := hrr 1 (by omega) (by omega)
            have e2 := hrr 2 (by omega) (by omega)
            have e3 := hrr 3 (by omega) (by omega)
            have e4 := hrr 4 (by omega) (by omega)
            have e5 := hrr 5 (by omega) (by omega)
            simp only [rangeAt, List.getElem?_cons_zero, List.getElem?_cons_succ] at e0 e1 e2 e3 e4 e5
            refine ⟨hg, hd, ?_, ?_, ?_, ?_, ?_, ?_, by omega⟩
            · clear e1 e2 e3 e4 e5; split at e0; cases e0; split at e0; cases e0; omega
            · clear e0 e2 e3 e4 e5; split at e1; cases e1; split at e1; cases e1; omega
            · clear e1 e0 e3 e4 e5; split at e2; cases e2; split at e2; cases e2; omega
            · clear e1 e2 e0 e4 e5; split at e3; cases e3; split at e3; cases e3; omega
            · clear e1 e2 e3 e0 e5; split at e4; cases e4; split at e4; cases e4; omega
            · clear e1 e2 e3 e4 e0; split at e5; cases e5; split at e5; cases e5; omega
    · cases h0
  · cases h
theorem setFault_ok' {l : List STask} (h : (setFault l).Code = 0) : setFault l = ⟨0, 0⟩ := by
  unfold setFault at h ⊢
  split at h
  · rename_i hl
    rw [if_pos hl]
    cases hf : firstOf (wrongAt l) l.length 0 with
    | none => rfl
    | some r =>
      rw [hf] at h
      obtain ⟨j, _, hj, hg, _⟩ := firstOf_some hf
      simp only [Option.getD_some] at h
      exfalso
      unfold wrongAt at hg
      rw [List.getElem?_eq_getElem hj] at hg
      simp only at hg
      split at hg
      · split at hg
        · cases hg; cases h
        · split at hg
          · rename_i r' hr'
            cases hg
            obtain ⟨q, _, hq, hg2, _⟩ := firstOf_some hr'
            unfold rangeAt at hg2
            repeat' split at hg2
            all_goals first | cases hg2; done | (cases hg2; cases h)
          · split at hg
            · cases hg; cases h
            · cases hg
      · cases hg; cases h
  · cases h

/-- what a task of a set is -/
structure Okt (t : STask) : Prop where
  C : 1 ≤ t.C ∧ t.C ≤ 10000
  T : 1 ≤ t.T ∧ t.T ≤ 10000
  D : 1 ≤ t.D ∧ t.D ≤ 10000
  J : 0 ≤ t.J ∧ t.J ≤ 10000
  O : 0 ≤ t.O ∧ t.O ≤ 10000
  P : 0 ≤ t.P ∧ t.P ≤ 1000
  CD : t.C ≤ t.D
theorem okt_of {l : List STask} (h : (setFault l).Code = 0) : ∀ t ∈ l, Okt t := fun t ht => by
  obtain ⟨i, hi⟩ := List.mem_iff_getElem?.1 ht
  obtain ⟨_, _, h⟩ := setFault_ok h
  obtain ⟨_, _, h1, h2, h3, h4, h5, h6, h7⟩ := h i t hi
  exact ⟨h1, h2, h3, h4, h5, h6, h7⟩
/-- a over b, rounded up -/
def ceilD (a b : Int) : Int := (a + b - 1) / b
theorem ceilD_mono {a a' b : Int} (hb : 1 ≤ b) (h : a ≤ a') : ceilD a b ≤ ceilD a' b := Int.ediv_le_ediv (by omega) (by omega)
theorem ceilD_nonneg {a b : Int} (hb : 1 ≤ b) (h : 0 ≤ a) : 0 ≤ ceilD a b := Int.ediv_nonneg (by omega) (by omega)
theorem ceilD_le {a b : Int} (hb : 1 ≤ b) (h : 0 ≤ a) : ceilD a b ≤ a := by
  unfold ceilD
  rw [← Int.lt_add_one_iff]
  apply Int.ediv_lt_of_lt_mul (by omega)
  have : a * 1 ≤ a * b := Int.mul_le_mul_of_nonneg_left hb h
  rw [Int.add_mul]
  omega
theorem ceil_eq {a b : Int} (ha : 0 ≤ a ∧ a ≤ 100000) (hb : 1 ≤ b ∧ b ≤ 100000) : fixed_ceil.f a b = some (ceilD a b) := by
  unfold fixed_ceil.f
  rw [if_neg (by omega), wrap64_small (n := a + b) (by omega) (by omega), wrap64_small (n := a + b - 1) (by omega) (by omega), Int.tdiv_eq_ediv_of_nonneg (by omega)]
  have h1 := ceilD_nonneg hb.1 ha.1
  have h2 := ceilD_le hb.1 ha.1
  show some (IntKind.i64.wrap (ceilD a b)) = _
  rw [wrap64_small (by omega) (by omega)]
theorem up_eq {a b : Int} (ha : 0 ≤ a ∧ a ≤ 100000) (hb : 1 ≤ b ∧ b ≤ 100000) : punctualref_up.f a b = some (ceilD a b) := by
  unfold punctualref_up.f
  rw [if_neg (by omega), Int.tdiv_eq_ediv_of_nonneg (by omega)]
  have h0 : 0 ≤ a / b := Int.ediv_nonneg ha.1 (by omega)
  have h1 : a / b ≤ a := Int.ediv_le_self b ha.1
  have h2 : a / b * b ≤ a := Int.ediv_mul_le a (by omega)
  have h2' : 0 ≤ a / b * b := Int.mul_nonneg h0 (by omega)
  rw [wrap64_small (n := a / b) (by omega) (by omega), wrap64_small (n := a / b * b) (by omega) (by omega), wrap64_small (n := a / b + 1) (by omega) (by omega)]
  have hm := Int.emod_add_mul_ediv a b
  have hm1 : 0 ≤ a % b := Int.emod_nonneg a (by omega)
  have hm2 : a % b < b := Int.emod_lt_of_pos a (by omega)
  rw [Int.mul_comm] at hm
  unfold ceilD
  by_cases h : a / b * b < a
  · rw [if_pos h]
    congr 1
    symm
    have e : a + b - 1 = (a % b - 1) + b * (a / b + 1) := by rw [Int.mul_add, Int.mul_comm b]; omega
    rw [e, Int.add_mul_ediv_left _ _ (by omega), Int.ediv_eq_zero_of_lt (by omega) (by omega)]
    omega
  · rw [if_neg h]
    congr 1
    symm
    have e : a + b - 1 = (b - 1) + b * (a / b) := by rw [Int.mul_comm b]; omega
    rw [e, Int.add_mul_ediv_left _ _ (by omega), Int.ediv_eq_zero_of_lt (by omega) (by omega)]
    omega
/-- what others want in so many ticks -/
def wants (os : List STask) (w : Int) : Int := (os.map fun o => ceilD (w + o.J) o.T * o.C).sum
def dem (t : STask) (b : Int) (os : List STask) (w : Int) : Int := t.C + b + wants os w
theorem wants_nil (w : Int) : wants [] w = 0 := rfl
theorem wants_cons (o : STask) (os : List STask) (w : Int) : wants (o :: os) w = ceilD (w + o.J) o.T * o.C + wants os w := by simp [wants]
theorem wants_append (os ps : List STask) (w : Int) : wants (os ++ ps) w = wants os w + wants ps w := by simp [wants]
theorem want_bounds {o : STask} (ho : Okt o) {w : Int} (hw : 0 ≤ w ∧ w ≤ 10000) : 0 ≤ ceilD (w + o.J) o.T * o.C ∧ ceilD (w + o.J) o.T * o.C ≤ 200000000 := by
  have := ho.C; have := ho.T; have := ho.J
  have h1 := ceilD_nonneg (a := w + o.J) (b := o.T) (by omega) (by omega)
  have h2 := ceilD_le (a := w + o.J) (b := o.T) (by omega) (by omega)
  refine ⟨Int.mul_nonneg h1 (by omega), ?_⟩
  calc ceilD (w + o.J) o.T * o.C ≤ 20000 * o.C := Int.mul_le_mul_of_nonneg_right (by omega) (by omega)
    _ ≤ 20000 * 10000 := Int.mul_le_mul_of_nonneg_left (by omega) (by omega)
    _ = 200000000 := by decide
theorem wants_bounds : ∀ {os : List STask}, (∀ o ∈ os, Okt o) → ∀ {w : Int}, (0 ≤ w ∧ w ≤ 10000) → 0 ≤ wants os w ∧ wants os w ≤ 200000000 * os.length
  | [], _, w, _ => by simp [wants_nil]
  | o :: os, h, w, hw => by
    have h1 := want_bounds (h o (by simp)) hw
    have h2 := wants_bounds (fun x hx => h x (List.mem_cons_of_mem _ hx)) hw
    rw [wants_cons, List.length_cons]
    omega
theorem wants_mono : ∀ {os : List STask}, (∀ o ∈ os, Okt o) → ∀ {w w' : Int}, w ≤ w' → wants os w ≤ wants os w'
  | [], _, w, w', _ => by simp [wants_nil]
  | o :: os, h, w, w', hw => by
    have ho := h o (by simp)
    have h2 := wants_mono (fun x hx => h x (List.mem_cons_of_mem _ hx)) hw
    have h1 : ceilD (w + o.J) o.T * o.C ≤ ceilD (w' + o.J) o.T * o.C := Int.mul_le_mul_of_nonneg_right (ceilD_mono ho.T.1 (by omega)) (by have := ho.C; omega)
    rw [wants_cons, wants_cons]
    omega
/-- the least n, 1 at least, in which all is done that is wanted; 0: there is none up to most -/
def settled (f : Int → Int) (most : Int) : Int := match firstOf (fun n : Nat => if f n ≤ n then some (n : Int) else none) (most.toNat + 1) 1 with
  | some n => n
  | none => 0
theorem settled_some {f : Int → Int} {most : Int} {j : Nat} (h : firstOf (fun n : Nat => if f n ≤ n then some (n : Int) else none) (most.toNat + 1) 1 = some (j : Int)) : settled f most = j := by unfold settled; rw [h]
theorem settled_none {f : Int → Int} {most : Int} (h : firstOf (fun n : Nat => if f n ≤ n then some (n : Int) else none) (most.toNat + 1) 1 = none) : settled f most = 0 := by unfold settled; rw [h]
theorem settled_pos {f : Int → Int} {most : Int} (h : settled f most ≠ 0) : 1 ≤ settled f most ∧ settled f most ≤ most ∧ f (settled f most) ≤ settled f most ∧ ∀ n : Int, 1 ≤ n → n < settled f most → n < f n := by
  cases hf : firstOf (fun n : Nat => if f n ≤ n then some (n : Int) else none) (most.toNat + 1) 1 with
  | none => exact absurd (settled_none hf) h
  | some r =>
    obtain ⟨j, h1, h2, h3, h4⟩ := firstOf_some hf
    split at h3
    · cases h3
      rw [settled_some hf]
      refine ⟨by omega, by omega, by assumption, fun n hn1 hn2 => ?_⟩
      have := h4 n.toNat (by omega) (by omega)
      have e : ((n.toNat : Nat) : Int) = n := Int.toNat_of_nonneg (by omega)
      simp only [e] at this
      split at this
      · cases this
      · omega
    · cases h3
theorem settled_zero {f : Int → Int} {most : Int} (h : settled f most = 0) : ∀ n : Int, 1 ≤ n → n ≤ most → n < f n := by
  cases hf : firstOf (fun n : Nat => if f n ≤ n then some (n : Int) else none) (most.toNat + 1) 1 with
  | some r =>
    obtain ⟨j, h1, h2, h3, h4⟩ := firstOf_some hf
    split at h3
    · cases h3; rw [settled_some hf] at h; omega
    · cases h3
  | none =>
    intro n h1 h2
    have := firstOf_none hf n.toNat (by omega) (by omega)
    have e : ((n.toNat : Nat) : Int) = n := Int.toNat_of_nonneg (by omega)
    simp only [e] at this
    split at this
    · cases this
    · omega
theorem settled_eq {f : Int → Int} {most w : Int} (h1 : 1 ≤ w) (h2 : w ≤ most) (h3 : f w ≤ w) (h4 : ∀ n : Int, 1 ≤ n → n < w → n < f n) : settled f most = w := by
  by_cases h : settled f most = 0
  · have := settled_zero h w h1 h2; omega
  · obtain ⟨g1, g2, g3, g4⟩ := settled_pos h
    rcases Int.lt_trichotomy (settled f most) w with hl | hl | hl
    · have := h4 _ g1 hl; omega
    · exact hl
    · have := g4 _ h1 hl; omega
theorem settled_eq_zero {f : Int → Int} {most : Int} (h : ∀ n : Int, 1 ≤ n → n ≤ most → n < f n) : settled f most = 0 := by
  apply Decidable.byContradiction
  intro hne
  obtain ⟨g1, g2, g3, g4⟩ := settled_pos hne
  have := h _ g1 g2
  omega
theorem demand_eq (t : STask) (b : Int) (os : List STask) (w : Int) (ht : Okt t) (hb : 0 ≤ b ∧ b ≤ 10000) (ho : ∀ o ∈ os, Okt o) (hl : os.length ≤ 8) (hw : 0 ≤ w ∧ w ≤ 10000) (K : Nat) (hK : 9 ≤ K) : fixed_response_1.f K w t b os = some (dem t b os w) := by
  unfold fixed_response_1.f
  have hC := ht.C
  have hr := iter_states (ρ := Int) (f := fixed_response_1.r0 w os) (fun i => (t.C + b + wants (os.take i) w, i)) (fun _ => none) os.length (t := dem t b os w) (fun i hi _ => by
    have hi' : (i : Int) < (os.length : Int) := by omega
    have hoi := ho os[i] (List.getElem_mem hi)
    have hT := hoi.T; have hJ := hoi.J
    have hwb := want_bounds hoi hw
    have hs := wants_bounds (os := os.take i) (fun o h => ho o (List.mem_of_mem_take h)) hw
    have hlen : (os.take i).length ≤ 8 := by simp; omega
    simp only [fixed_response_1.r0, if_pos hi', List.getElem?_eq_getElem hi]
    rw [wrap64_small (n := w + os[i].J) (by omega) (by omega), ceil_eq (by omega) (by omega)]
    simp only [onwardS]
    rw [wrap64_small (n := ceilD (w + os[i].J) os[i].T * os[i].C) (by omega) (by omega), wrap64_small (by omega) (by omega)]
    congr 3
    rw [List.take_succ_eq_append_getElem hi, wants_append, wants_cons, wants_nil]
    omega) (fun _ => by simp [fixed_response_1.r0, dem]) (K := K) (by omega)
  have h0 : t.C + b + wants (os.take 0) w = t.C + b := by simp [wants_nil]
  rw [h0] at hr
  rw [wrap64_small (by omega) (by omega), hr, firstOf_none_of (fun _ _ _ => rfl)]
  rfl
theorem dem_mono {t : STask} {b : Int} {os : List STask} (ho : ∀ o ∈ os, Okt o) {w w' : Int} (h : w ≤ w') : dem t b os w ≤ dem t b os w' := by
  have := wants_mono ho h
  unfold dem; omega
theorem settle_eq (t : STask) (b : Int) (os : List STask) (ht : Okt t) (hb : 0 ≤ b ∧ b ≤ 10000) (ho : ∀ o ∈ os, Okt o) (hl : os.length ≤ 8) (most : Int) (hm : most ≤ 10000) (K : Nat) (hK : 20100 ≤ K) : fixed_Settle.f K (t.C + b) most t b os = some (settled (dem t b os) most) := by
  unfold fixed_Settle.f
  have hC := ht.C
  obtain ⟨r, hr, hR⟩ := iter_total (f := fixed_Settle.r0 K most t b os) (fun w => t.C + b ≤ w ∧ w ≤ 1600000000 + 20000 ∧ ∀ n : Int, 1 ≤ n → n < w → n < dem t b os n) (fun w => (10001 - w).toNat)
    (fun r => r = if settled (dem t b os) most = 0 then .inl () else .inr (settled (dem t b os) most)) (fun w hI => by
      obtain ⟨h1, h2, h3⟩ := hI
      by_cases hw : w ≤ most
      · have hd := demand_eq t b os w ht hb ho hl ⟨by omega, by omega⟩ K (by omega)
        simp only [fixed_Settle.r0, if_pos hw, hd]
        by_cases hle : dem t b os w ≤ w
        · right
          have hs := settled_eq (f := dem t b os) (most := most) (by omega) hw hle h3
          refine ⟨_, by rw [if_pos hle], ?_⟩
          rw [hs, if_neg (by omega)]
        · left
          have hwb := wants_bounds ho (w := w) ⟨by omega, by omega⟩
          refine ⟨_, by rw [if_neg hle], ⟨by unfold dem; omega, by unfold dem; omega, fun n hn1 hn2 => ?_⟩, by omega⟩
          by_cases hnw : n < w
          · exact h3 n hn1 hnw
          · have := dem_mono (t := t) (b := b) ho (w := w) (w' := n) (by omega)
            omega
      · right
        refine ⟨.inl (), by simp only [fixed_Settle.r0, if_neg hw], ?_⟩
        rw [settled_eq_zero (fun n h1 h2 => h3 n h1 (by omega)), if_pos rfl]) K (t.C + b) ⟨Int.le_refl _, by omega, fun n h1 h2 => by
          by_cases hn : n ≤ 10000
          · have := wants_bounds ho (w := n) ⟨by omega, hn⟩
            unfold dem; omega
          · have := wants_mono ho (w := 10000) (w' := n) (by omega)
            have := wants_bounds ho (w := 10000) ⟨by omega, by omega⟩
            unfold dem; omega⟩ (by omega)
  rw [hr, hR]
  by_cases h : settled (dem t b os) most = 0
  · rw [if_pos h, h]
  · rw [if_neg h]
/-- how long a task takes; 0: too long -/
def respond (t : STask) (os : List STask) (b : Int) : Int := if settled (dem t b os) (t.D - t.J) = 0 then 0 else settled (dem t b os) (t.D - t.J) + t.J
theorem response_eq (t : STask) (b : Int) (os : List STask) (ht : Okt t) (hb : 0 ≤ b ∧ b ≤ 10000) (ho : ∀ o ∈ os, Okt o) (hl : os.length ≤ 8) (K : Nat) (hK : 20100 ≤ K) : fixed_response.f K t os b = some (respond t os b) := by
  have hC := ht.C; have hD := ht.D; have hJ := ht.J
  unfold fixed_response.f
  rw [wrap64_small (n := t.C + b) (by omega) (by omega), wrap64_small (n := t.D - t.J) (by omega) (by omega), settle_eq t b os ht hb ho hl _ (by omega) K hK]
  simp only
  unfold respond
  by_cases h : settled (dem t b os) (t.D - t.J) = 0
  · rw [if_pos h, if_pos h]
  · rw [if_neg h, if_neg h]
    have := settled_pos h
    rw [wrap64_small (by omega) (by omega)]
theorem worst_eq (t : STask) (b : Int) (os : List STask) (ht : Okt t) (hb : 0 ≤ b ∧ b ≤ 10000) (ho : ∀ o ∈ os, Okt o) (hl : os.length ≤ 8) (K : Nat) (hK : 20100 ≤ K) : punctualref_AtWorst.f K t os b = some (respond t os b) := by
  have hC := ht.C; have hD := ht.D; have hJ := ht.J
  unfold punctualref_AtWorst.f
  obtain ⟨r, hr, hR⟩ := iter_total (f := punctualref_AtWorst.r0 K t os b) (fun w => 1 ≤ w ∧ w ≤ 10001 ∧ ∀ n : Int, 1 ≤ n → n < w → n < dem t b os n) (fun w => (10001 - w).toNat)
    (fun r => r = if settled (dem t b os) (t.D - t.J) = 0 then .inl () else .inr (settled (dem t b os) (t.D - t.J) + t.J)) (fun w hI => by
      obtain ⟨h1, h2, h3⟩ := hI
      have e1 : IntKind.i64.wrap (w + t.J) = w + t.J := wrap64_small (by omega) (by omega)
      simp only [punctualref_AtWorst.r0, e1]
      by_cases hw : w + t.J ≤ t.D
      · rw [if_pos hw]
        have hin := iter_states (ρ := Int) (f := punctualref_AtWorst.r1 os w) (fun i => (t.C + b + wants (os.take i) w, i)) (fun _ => none) os.length (t := dem t b os w) (fun i hi _ => by
          have hi' : (i : Int) < (os.length : Int) := by omega
          have hoi := ho os[i] (List.getElem_mem hi)
          have hT := hoi.T; have hJ := hoi.J
          have hw0 : 0 ≤ w ∧ w ≤ 10000 := ⟨by omega, by omega⟩
          have hwb := want_bounds hoi hw0
          have hs := wants_bounds (os := os.take i) (fun o h => ho o (List.mem_of_mem_take h)) hw0
          have hlen : (os.take i).length ≤ 8 := by simp; omega
          simp only [punctualref_AtWorst.r1, if_pos hi', List.getElem?_eq_getElem hi]
          rw [wrap64_small (n := w + os[i].J) (by omega) (by omega), up_eq (by omega) (by omega)]
          simp only [onwardS]
          rw [wrap64_small (n := ceilD (w + os[i].J) os[i].T * os[i].C) (by omega) (by omega), wrap64_small (by omega) (by omega)]
          congr 3
          rw [List.take_succ_eq_append_getElem hi, wants_append, wants_cons, wants_nil]
          omega) (fun _ => by simp [punctualref_AtWorst.r1, dem]) (K := K) (by omega)
        have h0 : t.C + b + wants (os.take 0) w = t.C + b := by simp [wants_nil]
        rw [h0, firstOf_none_of (fun _ _ _ => rfl)] at hin
        rw [wrap64_small (n := t.C + b) (by omega) (by omega), hin]
        simp only [leave]
        have hge : w ≤ dem t b os w := by
          by_cases hw1 : w = 1
          · have := wants_bounds ho (w := w) ⟨by omega, by omega⟩
            unfold dem; omega
          · have := h3 (w - 1) (by omega) (by omega)
            have := dem_mono (t := t) (b := b) ho (w := w - 1) (w' := w) (by omega)
            omega
        by_cases hle : dem t b os w = w
        · right
          have hs := settled_eq (f := dem t b os) (most := t.D - t.J) (by omega) (by omega) (by omega) h3
          refine ⟨_, by rw [if_pos hle], ?_⟩
          rw [hs, if_neg (by omega)]
        · left
          refine ⟨_, by rw [if_neg hle, wrap64_small (by omega) (by omega)], ⟨by omega, by omega, fun n hn1 hn2 => ?_⟩, by omega⟩
          by_cases hnw : n < w
          · exact h3 n hn1 hnw
          · have : n = w := by omega
            subst this
            omega
      · right
        refine ⟨.inl (), by rw [if_neg hw], ?_⟩
        rw [settled_eq_zero (fun n h1 h2 => h3 n h1 (by omega)), if_pos rfl]) K 1 ⟨by omega, by omega, fun n h1 h2 => by omega⟩ (by omega)
  rw [hr, hR]
  unfold respond
  by_cases h : settled (dem t b os) (t.D - t.J) = 0
  · rw [if_pos h, if_pos h]
  · rw [if_neg h, if_neg h]
/-- what is wrong with a set whose tasks must be done ere they come again -/
noncomputable def fixedFault (l : List STask) : SFault :=
  if (setFault l).Code = 0 then (firstOf (fun i => match l[i]? with | some t => if t.D > t.T then some ⟨12, (i : Int)⟩ else none | none => none) l.length 0).getD ⟨0, 0⟩ else setFault l
theorem fixedFault_ok {l : List STask} (h : (fixedFault l).Code = 0) : (setFault l).Code = 0 ∧ fixedFault l = ⟨0, 0⟩ ∧ ∀ t ∈ l, t.D ≤ t.T := by
  unfold fixedFault at h ⊢
  split at h
  · rename_i hs
    cases hf : firstOf (fun i => match l[i]? with | some t => if t.D > t.T then some (⟨12, (i : Int)⟩ : SFault) else none | none => none) l.length 0 with
    | none =>
      refine ⟨hs, by rw [if_pos hs]; rfl, fun t ht => ?_⟩
      obtain ⟨i, hi⟩ := List.mem_iff_getElem?.1 ht
      have := firstOf_none hf i (Nat.zero_le _) (lt_of_get hi)
      simp only [hi] at this
      split at this
      · cases this
      · omega
    | some r =>
      rw [hf] at h
      obtain ⟨j, _, hj, hg, _⟩ := firstOf_some hf
      simp only [Option.getD_some] at h
      exfalso
      split at hg
      · split at hg
        · cases hg; cases h
        · cases hg
      · cases hg
  · contradiction
theorem check_eq (l : List STask) (K : Nat) (hK : 20 ≤ K) : fixed_check.f K l = some (fixedFault l) := by
  unfold fixed_check.f fixedFault
  rw [Check_eq l K hK]
  simp only
  by_cases h : (setFault l).Code = 0
  · rw [if_pos h, if_pos h]
    have hl := (setFault_ok h).2.1
    have hr := iter_first0 (f := fixed_check.r0 l) (fun i => match l[i]? with | some t => if t.D > t.T then some ⟨12, (i : Int)⟩ else none | none => none) l.length (t := ()) (fun i hi => by
      have hi' : (i : Int) < (l.length : Int) := by omega
      simp only [fixed_check.r0, if_pos hi', List.getElem?_eq_getElem hi]
      split <;> rfl) (by simp [fixed_check.r0]) (K := K) (by omega)
    rw [hr]
    cases firstOf (fun i => match l[i]? with | some t => if t.D > t.T then some (⟨12, (i : Int)⟩ : SFault) else none | none => none) l.length 0 <;> rfl
  · rw [if_neg h, if_neg h]
theorem CheckFixed_eq (l : List STask) (hl : ∀ t ∈ l, Ok.ok t) (K : Nat) (hK : 20 ≤ K) (hs : ∀ t ∈ l, t.Name.size < K) : punctualref_CheckFixed.f K l = some (fixedFault l) := by
  rw [← check_eq l K hK]
  unfold punctualref_CheckFixed.f fixed_check.f
  rw [CheckSet_eq l hl K hK hs, Check_eq l K hK]
  rfl
/-- those that go ahead of task i, up to place n -/
def aboveTill (l : List STask) (i : Nat) (n : Nat) : List STask := (List.range n).filterMap fun k => match l[k]?, l[i]? with
  | some a, some b => if k ≠ i ∧ a.P ≥ b.P then some a else none
  | _, _ => none
abbrev aboveOf (l : List STask) (i : Nat) : List STask := aboveTill l i l.length
theorem aboveTill_len (l : List STask) (i n : Nat) : (aboveTill l i n).length ≤ n := by
  unfold aboveTill
  exact Nat.le_trans (List.length_filterMap_le _ _) (by simp)
theorem aboveTill_mem {l : List STask} {i n : Nat} {a : STask} (h : a ∈ aboveTill l i n) : a ∈ l := by
  unfold aboveTill at h
  obtain ⟨k, _, hk⟩ := List.mem_filterMap.1 h
  split at hk
  · rename_i x y hx hy
    split at hk
    · cases hk; exact List.mem_of_getElem? hx
    · cases hk
  · cases hk
theorem aboveTill_succ {l : List STask} {i n : Nat} {a b : STask} (ha : l[n]? = some a) (hb : l[i]? = some b) : aboveTill l i (n + 1) = aboveTill l i n ++ (if n ≠ i ∧ a.P ≥ b.P then [a] else []) := by
  unfold aboveTill
  rw [List.range_succ, List.filterMap_append]
  congr 1
  simp only [List.filterMap_cons, List.filterMap_nil, ha, hb]
  split <;> rename_i h <;> split at h <;> simp_all
theorem above_eq (l : List STask) (i : Nat) (hi : i < l.length) (hl : l.length ≤ 8) (K : Nat) (hK : 9 ≤ K) : fixed_above.f K l (i : Int) = some (aboveOf l i) := by
  unfold fixed_above.f
  have hr := iter_states (ρ := List STask) (f := fixed_above.r0 l (i : Int)) (fun k => (aboveTill l i k, k)) (fun _ => none) l.length (t := aboveOf l i) (fun k hk _ => by
    have hk' : (k : Int) < (l.length : Int) := by omega
    have hlen := aboveTill_len l i k
    rw [aboveTill_succ (List.getElem?_eq_getElem hk) (List.getElem?_eq_getElem hi)]
    simp only [fixed_above.r0, if_pos hk', List.getElem?_eq_getElem hk, Int.toNat_natCast, List.getElem?_eq_getElem hi, onwardS]
    by_cases h1 : (k : Int) = (i : Int)
    · rw [if_pos h1, if_neg (by omega), List.append_nil]
    · rw [if_neg h1, if_pos (by omega)]
      by_cases h2 : l[k].P ≥ l[i].P
      · rw [if_pos h2, if_pos (by omega), if_pos ⟨by omega, h2⟩]
      · rw [if_neg h2, if_neg (fun h => h2 h.2), List.append_nil]) (fun _ => by simp [fixed_above.r0]) (K := K) (by omega)
  have h0 : aboveTill l i 0 = [] := rfl
  rw [h0, firstOf_none_of (fun _ _ _ => rfl)] at hr
  rw [hr]; rfl
/-- how long task i of a set takes at worst -/
noncomputable def respOf (l : List STask) (i b : Int) : Int × SFault :=
  if (fixedFault l).Code = 0 then
    (if i < 0 ∨ i ≥ (l.length : Int) ∨ b < 0 ∨ b > 10000 then (0, ⟨3, 0⟩)
    else match l[i.toNat]? with
      | none => (0, ⟨3, 0⟩)
      | some t => if respond t (aboveOf l i.toNat) b = 0 then (0, ⟨13, i⟩) else (respond t (aboveOf l i.toNat) b, ⟨0, 0⟩))
  else (0, fixedFault l)
theorem Response_eq (l : List STask) (i b : Int) (K : Nat) (hK : 20100 ≤ K) : fixed_Response.f K l i b = some (respOf l i b) := by
  unfold fixed_Response.f respOf
  rw [check_eq l K (by omega)]
  simp only
  by_cases hc : (fixedFault l).Code = 0
  · rw [if_pos hc, if_pos hc]
    have hs := (fixedFault_ok hc).1
    have hl := (setFault_ok hs).2.1
    have hp : fixed_Response.p0 l i b = some (.inl (decide (i < 0 ∨ i ≥ (l.length : Int) ∨ b < 0 ∨ b > 10000))) := by
      unfold fixed_Response.p0
      by_cases h1 : i < 0
      · rw [if_pos h1, decide_eq_true (.inl h1)]
      rw [if_neg h1]
      by_cases h2 : i ≥ (l.length : Int)
      · rw [if_pos h2, decide_eq_true (.inr (.inl h2))]
      rw [if_neg h2]
      by_cases h3 : b < 0
      · rw [if_pos h3, decide_eq_true (.inr (.inr (.inl h3)))]
      rw [if_neg h3]
      congr 2
      rw [Bool.eq_iff_iff, decide_eq_true_eq, decide_eq_true_eq]
      omega
    simp only [hp, decide_eq_true_eq]
    by_cases hbad : i < 0 ∨ i ≥ (l.length : Int) ∨ b < 0 ∨ b > 10000
    · rw [if_pos hbad, if_pos hbad]
    · rw [if_neg hbad, if_neg hbad, if_pos (by omega)]
      have hi : i.toNat < l.length := by omega
      have hcast : ((i.toNat : Nat) : Int) = i := Int.toNat_of_nonneg (by omega)
      have ha := above_eq l i.toNat hi hl K (by omega)
      rw [hcast] at ha
      have hok := okt_of hs
      have hlen := aboveTill_len l i.toNat l.length
      simp only [List.getElem?_eq_getElem hi, ha, response_eq _ b _ (hok _ (List.getElem_mem hi)) ⟨by omega, by omega⟩ (fun o ho => hok o (aboveTill_mem ho)) (Nat.le_trans hlen hl) K hK]
      split <;> rfl
  · rw [if_neg hc, if_neg hc]
theorem ResponseOf_eq (l : List STask) (hl : ∀ t ∈ l, Ok.ok t) (i b : Int) (K : Nat) (hK : 20100 ≤ K) (hs : ∀ t ∈ l, t.Name.size < K) : punctualref_ResponseOf.f K l i b = some (respOf l i b) := by
  unfold punctualref_ResponseOf.f respOf
  rw [CheckFixed_eq l hl K (by omega) hs]
  simp only
  by_cases hc : (fixedFault l).Code = 0
  · rw [if_pos hc, if_pos hc]
    have hs := (fixedFault_ok hc).1
    have hl := (setFault_ok hs).2.1
    have hp : punctualref_ResponseOf.p0 l i b = some (if i < 0 ∨ i ≥ (l.length : Int) ∨ b < 0 ∨ b > 10000 then .inr (0, ⟨3, 0⟩) else .inl ()) := by
      unfold punctualref_ResponseOf.p0
      by_cases h1 : i < 0
      · rw [if_pos h1, if_pos (.inl h1)]; rfl
      rw [if_neg h1]
      by_cases h2 : i ≥ (l.length : Int)
      · rw [if_pos h2, if_pos (.inr (.inl h2))]; rfl
      rw [if_neg h2]
      by_cases h3 : b < 0
      · rw [if_pos h3, if_pos (.inr (.inr (.inl h3)))]; rfl
      rw [if_neg h3]
      by_cases h4 : b > 10000
      · rw [if_pos h4, if_pos (.inr (.inr (.inr h4)))]; rfl
      rw [if_neg h4, if_neg (by omega)]
    simp only [hp]
    by_cases hbad : i < 0 ∨ i ≥ (l.length : Int) ∨ b < 0 ∨ b > 10000
    · simp only [if_pos hbad]
    · simp only [if_neg hbad]
      have hi : i.toNat < l.length := by omega
      obtain ⟨n, rfl⟩ := Int.eq_ofNat_of_zero_le (show 0 ≤ i by omega)
      simp only [Int.toNat_natCast] at hi ⊢
      have hr := iter_states (ρ := Int × SFault) (f := punctualref_ResponseOf.r1 l (n : Int)) (fun k => (aboveTill l n k, k)) (fun _ => none) l.length (t := aboveOf l n) (fun k hk _ => by
        have hk' : (k : Int) < (l.length : Int) := by omega
        have hlen := aboveTill_len l n k
        rw [aboveTill_succ (List.getElem?_eq_getElem hk) (List.getElem?_eq_getElem hi)]
        simp only [punctualref_ResponseOf.r1, if_pos hk', List.getElem?_eq_getElem hk, Int.toNat_natCast, List.getElem?_eq_getElem hi, onwardS]
        by_cases h1 : (k : Int) = (n : Int)
        · rw [if_pos h1, if_neg (by omega), List.append_nil]
        · rw [if_neg h1, if_pos (by omega)]
          by_cases h2 : l[k].P ≥ l[n].P
          · rw [if_pos h2, if_pos (by omega), if_pos ⟨by omega, h2⟩]
          · rw [if_neg h2, if_neg (fun h => h2 h.2), List.append_nil]) (fun _ => by simp [punctualref_ResponseOf.r1]) (K := K) (by omega)
      have h0 : aboveTill l n 0 = [] := rfl
      rw [h0, firstOf_none_of (fun _ _ _ => rfl)] at hr
      have hok := okt_of hs
      have hlen := aboveTill_len l n l.length
      simp only [hr, leave, if_pos (show (0 : Int) ≤ (n : Int) by omega), List.getElem?_eq_getElem hi, worst_eq _ b _ (hok _ (List.getElem_mem hi)) ⟨by omega, by omega⟩ (fun o ho => hok o (aboveTill_mem ho)) (Nat.le_trans hlen hl) K hK]
      split <;> rfl
  · rw [if_neg hc, if_neg hc]
/-- the first ones of what all take -/
noncomputable def respTill (l : List STask) (bs : List Int) (n : Nat) : List Int := (List.range n).map fun (i : Nat) => match bs[i]? with | some b => (respOf l (i : Int) b).1 | none => 0
noncomputable def respAt (l : List STask) (bs : List Int) (i : Nat) : Option SFault := match bs[i]? with | some b => if (respOf l (i : Int) b).2.Code = 0 then none else some (respOf l (i : Int) b).2 | none => none
noncomputable def respsOf (l : List STask) (bs : List Int) : List Int × SFault :=
  if (fixedFault l).Code = 0 then
    (if bs.length = l.length then
      (match firstOf (respAt l bs) l.length 0 with
      | some f => ([], f)
      | none => (respTill l bs l.length, ⟨0, 0⟩))
    else ([], ⟨2, 0⟩))
  else ([], fixedFault l)
theorem respsOf_len (l : List STask) (bs : List Int) : (respsOf l bs).1.length ≤ 8 := by
  unfold respsOf
  split
  · rename_i h
    have hl := (setFault_ok (fixedFault_ok h).1).2.1
    split
    · split
      · simp
      · simp [respTill]; exact hl
    · simp
  · simp
/-- one step towards the least time -/
def settleStep (d : Int → Option Int) (most : Int) (z : Int) : Option (Int ⊕ (Unit ⊕ Int)) :=
  if z ≤ most then
    match d z with
    | none => none
    | some r => if r ≤ z then some (.inr (.inr z)) else some (.inl r)
  else some (.inr (.inl ()))
theorem settle_iter {d : Int → Option Int} {f : Int → Int} {most first : Int} (h1 : 1 ≤ first) (hd : ∀ z, first ≤ z → z ≤ most → d z = some (f z)) (hge : ∀ z, 1 ≤ z → first ≤ f z) (hm : ∀ z z', 1 ≤ z → z ≤ z' → f z ≤ f z') {K : Nat} (hK : most + 2 < K) (hK0 : 1 ≤ K) :
    iter (settleStep d most) K first = some (if settled f most = 0 then .inl () else .inr (settled f most)) := by
  obtain ⟨r, hr, hR⟩ := iter_total (f := settleStep d most) (fun w => first ≤ w ∧ ∀ n : Int, 1 ≤ n → n < w → n < f n) (fun w => (most + 1 - w).toNat)
    (fun r => r = if settled f most = 0 then .inl () else .inr (settled f most)) (fun w hI => by
      obtain ⟨h2, h3⟩ := hI
      by_cases hw : w ≤ most
      · simp only [settleStep, if_pos hw, hd w h2 hw]
        by_cases hle : f w ≤ w
        · right
          have hs := settled_eq (f := f) (most := most) (by omega) hw hle h3
          refine ⟨_, by rw [if_pos hle], ?_⟩
          rw [hs, if_neg (by omega)]
        · left
          refine ⟨_, by rw [if_neg hle], ⟨by omega, fun n hn1 hn2 => ?_⟩, by omega⟩
          by_cases hnw : n < w
          · exact h3 n hn1 hnw
          · have := hm w n (by omega) (by omega)
            omega
      · right
        refine ⟨.inl (), by simp only [settleStep, if_neg hw], ?_⟩
        rw [settled_eq_zero (fun n h1 h2 => h3 n h1 (by omega)), if_pos rfl]) K first ⟨Int.le_refl _, fun n hn1 hn2 => by have := hge n hn1; omega⟩ (by omega)
  rw [hr, hR]
/-- one step of the search, time by time -/
def leastStep (d : Int → Option Int) (most : Int) (z : Int) : Option (Int ⊕ (Unit ⊕ Int)) :=
  if z ≤ most then
    match d z with
    | none => none
    | some r => if r = z then some (.inr (.inr z)) else some (.inl (IntKind.i64.wrap (z + 1)))
  else some (.inr (.inl ()))
theorem least_iter {d : Int → Option Int} {f : Int → Int} {most : Int} (hmost : most ≤ 1000000000) (hd : ∀ z, 1 ≤ z → z ≤ most → d z = some (f z)) (hge : ∀ z, 1 ≤ z → 1 ≤ f z) (hm : ∀ z z', 1 ≤ z → z ≤ z' → f z ≤ f z') {K : Nat} (hK : most + 2 < K) (hK0 : 1 ≤ K) :
    iter (leastStep d most) K 1 = some (if settled f most = 0 then .inl () else .inr (settled f most)) := by
  obtain ⟨r, hr, hR⟩ := iter_total (f := leastStep d most) (fun w => 1 ≤ w ∧ (w ≤ 1 ∨ w ≤ most + 1) ∧ ∀ n : Int, 1 ≤ n → n < w → n < f n) (fun w => (most + 1 - w).toNat)
    (fun r => r = if settled f most = 0 then .inl () else .inr (settled f most)) (fun w hI => by
      obtain ⟨h2, hwm, h3⟩ := hI
      by_cases hw : w ≤ most
      · simp only [leastStep, if_pos hw, hd w h2 hw]
        have hge : w ≤ f w := by
          by_cases hw1 : w = 1
          · subst hw1; exact hge 1 (by omega)
          · have := h3 (w - 1) (by omega) (by omega)
            have := hm (w - 1) w (by omega) (by omega)
            omega
        by_cases hle : f w = w
        · right
          have hs := settled_eq (f := f) (most := most) (by omega) hw (by omega) h3
          refine ⟨_, by rw [if_pos hle], ?_⟩
          rw [hs, if_neg (by omega)]
        · left
          refine ⟨_, by rw [if_neg hle, wrap64_small (by omega) (by omega)], ⟨by omega, by omega, fun n hn1 hn2 => ?_⟩, by omega⟩
          by_cases hnw : n < w
          · exact h3 n hn1 hnw
          · have : n = w := by omega
            subst this
            omega
      · right
        refine ⟨.inl (), by simp only [leastStep, if_neg hw], ?_⟩
        rw [settled_eq_zero (fun n h1 h2 => h3 n h1 (by omega)), if_pos rfl]) K 1 ⟨Int.le_refl _, .inl (Int.le_refl _), fun n hn1 hn2 => by omega⟩ (by omega)
  rw [hr, hR]

theorem gmax_eq (x y : Int) : gmax x y = max x y := by unfold gmax; omega
theorem gmin_eq (x y : Int) : gmin x y = min x y := by unfold gmin; omega
/-- how much a fault undoes of a task at most -/
def undone (c step : Int) : Int := if step = 0 then c else min c step
/-- .. of those of a level, of the first n -/
def lossTill (l : List STask) (P step : Int) : Nat → Int
  | 0 => 0
  | n + 1 => match l[n]? with
    | some o => if o.P ≥ P then max (lossTill l P step n) (undone o.C step) else lossTill l P step n
    | none => lossTill l P step n
theorem undone_bounds {o : STask} (h : Okt o) {step : Int} (hs : 0 ≤ step) : 0 ≤ undone o.C step ∧ undone o.C step ≤ 10000 := by
  have := h.C
  unfold undone; split <;> omega
theorem lossTill_bounds {l : List STask} (h : ∀ o ∈ l, Okt o) {P step : Int} (hs : 0 ≤ step) : ∀ n, 0 ≤ lossTill l P step n ∧ lossTill l P step n ≤ 10000
  | 0 => by simp [lossTill]
  | n + 1 => by
    have ih := lossTill_bounds h (P := P) hs n
    simp only [lossTill]
    split
    · rename_i o ho
      have hu := undone_bounds (h o (List.mem_of_getElem? ho)) hs
      split <;> omega
    · exact ih
/-- a task's demand, faults and all -/
def demF (l : List STask) (i : Nat) (t : STask) (gap step : Int) (w : Int) : Int := t.C + ceilD w gap * lossTill l t.P step l.length + wants (aboveOf l i) w
theorem demF_mono {l : List STask} (h : ∀ o ∈ l, Okt o) {i : Nat} {t : STask} {gap step : Int} (hg : 1 ≤ gap) (hs : 0 ≤ step) {w w' : Int} (hw : w ≤ w') : demF l i t gap step w ≤ demF l i t gap step w' := by
  have h1 := wants_mono (os := aboveOf l i) (fun o ho => h o (aboveTill_mem ho)) hw
  have h2 := (lossTill_bounds h (P := t.P) hs l.length).1
  have h3 := Int.mul_le_mul_of_nonneg_right (ceilD_mono hg hw) h2
  unfold demF; omega
theorem demF_ge {l : List STask} (h : ∀ o ∈ l, Okt o) {i : Nat} {t : STask} {gap step : Int} (hg : 1 ≤ gap) (hs : 0 ≤ step) {w : Int} (hw : 1 ≤ w) : t.C ≤ demF l i t gap step w := by
  have h2 := (lossTill_bounds h (P := t.P) hs l.length).1
  have h3 := Int.mul_nonneg (ceilD_nonneg hg (show 0 ≤ w by omega)) h2
  have h0 := wants_bounds (os := aboveOf l i) (fun o ho => h o (aboveTill_mem ho)) (w := 0) ⟨by omega, by omega⟩
  have h1 := wants_mono (os := aboveOf l i) (fun o ho => h o (aboveTill_mem ho)) (show 0 ≤ w by omega)
  unfold demF; omega
theorem loss_prod {l : List STask} (h : ∀ o ∈ l, Okt o) {P gap step : Int} (hg : 1 ≤ gap) (hs : 0 ≤ step) {w : Int} (hw : 0 ≤ w ∧ w ≤ 10000) : 0 ≤ ceilD w gap * lossTill l P step l.length ∧ ceilD w gap * lossTill l P step l.length ≤ 100000000 := by
  have h2 := lossTill_bounds h (P := P) hs l.length
  have h3 := ceilD_nonneg hg hw.1
  have h4 := ceilD_le hg hw.1
  refine ⟨Int.mul_nonneg h3 h2.1, ?_⟩
  calc ceilD w gap * lossTill l P step l.length ≤ 10000 * lossTill l P step l.length := Int.mul_le_mul_of_nonneg_right (by omega) h2.1
    _ ≤ 10000 * 10000 := Int.mul_le_mul_of_nonneg_left h2.2 (by omega)
    _ = 100000000 := by decide
theorem redoDemand_eq (l : List STask) (h : ∀ o ∈ l, Okt o) (hl : l.length ≤ 8) (i : Nat) (t : STask) (ht : l[i]? = some t) (gap step w : Int) (hg : 1 ≤ gap ∧ gap ≤ 20000) (hs : 0 ≤ step) (hw : 1 ≤ w ∧ w ≤ 10000) (K : Nat) (hK : 9 ≤ K) :
    redo_Response_1.f K w t gap (lossTill l t.P step l.length) l (i : Int) = some (demF l i t gap step w) := by
  have htok := h t (List.mem_of_getElem? ht)
  have hC := htok.C
  have hp := loss_prod h (P := t.P) hg.1 hs (w := w) ⟨by omega, by omega⟩
  have hlb := lossTill_bounds h (P := t.P) hs l.length
  have hcn := ceilD_nonneg hg.1 (show 0 ≤ w by omega)
  have hcl := ceilD_le hg.1 (show 0 ≤ w by omega)
  have hceil : IntKind.i64.wrap (Int.tdiv (IntKind.i64.wrap ((IntKind.i64.wrap (w + gap)) - 1)) gap) = ceilD w gap := by
    rw [wrap64_small (n := w + gap) (by omega) (by omega), wrap64_small (n := w + gap - 1) (by omega) (by omega), Int.tdiv_eq_ediv_of_nonneg (by omega)]
    show IntKind.i64.wrap (ceilD w gap) = _
    rw [wrap64_small (by omega) (by omega)]
  unfold redo_Response_1.f
  rw [if_neg (by omega), hceil, wrap64_small (n := ceilD w gap * lossTill l t.P step l.length) (by omega) (by omega), wrap64_small (by omega) (by omega)]
  have hr := iter_states (ρ := Int) (f := redo_Response_1.r0 w t l (i : Int)) (fun k => (t.C + ceilD w gap * lossTill l t.P step l.length + wants (aboveTill l i k) w, k)) (fun _ => none) l.length (t := demF l i t gap step w) (fun k hk _ => by
    have hk' : (k : Int) < (l.length : Int) := by omega
    have hkx : l[k]? = some l[k] := List.getElem?_eq_getElem hk
    have hok := h l[k] (List.getElem_mem hk)
    have hwb := want_bounds hok (w := w) ⟨by omega, by omega⟩
    have hsb := wants_bounds (os := aboveTill l i k) (fun o ho => h o (aboveTill_mem ho)) (w := w) ⟨by omega, by omega⟩
    have hlen := aboveTill_len l i k
    rw [aboveTill_succ hkx ht, wants_append]
    simp only [redo_Response_1.r0, if_pos hk', hkx, onwardS]
    by_cases h1 : (k : Int) = (i : Int)
    · rw [if_pos h1, if_neg (by omega), wants_nil, Int.add_zero]
    · rw [if_neg h1]
      by_cases h2 : l[k].P ≥ t.P
      · have hT := hok.T; have hJ := hok.J
        have hcn := ceilD_nonneg hT.1 (show 0 ≤ w + l[k].J by omega)
        have hcl := ceilD_le hT.1 (show 0 ≤ w + l[k].J by omega)
        have hceil : IntKind.i64.wrap (Int.tdiv (IntKind.i64.wrap ((IntKind.i64.wrap ((IntKind.i64.wrap (w + l[k].J)) + l[k].T)) - 1)) l[k].T) = ceilD (w + l[k].J) l[k].T := by
          rw [wrap64_small (n := w + l[k].J) (by omega) (by omega), wrap64_small (n := w + l[k].J + l[k].T) (by omega) (by omega), wrap64_small (n := w + l[k].J + l[k].T - 1) (by omega) (by omega), Int.tdiv_eq_ediv_of_nonneg (by omega)]
          show IntKind.i64.wrap (ceilD (w + l[k].J) l[k].T) = _
          rw [wrap64_small (by omega) (by omega)]
        rw [if_pos h2, if_neg (by omega), hceil, wrap64_small (n := ceilD (w + l[k].J) l[k].T * l[k].C) (by omega) (by omega), wrap64_small (by omega) (by omega), if_pos ⟨by omega, h2⟩, wants_cons, wants_nil]
        congr 3
        omega
      · rw [if_neg h2, if_neg (fun h => h2 h.2), wants_nil, Int.add_zero]) (fun _ => by simp [redo_Response_1.r0, demF]) (K := K) (by omega)
  have h0 : t.C + ceilD w gap * lossTill l t.P step l.length + wants (aboveTill l i 0) w = t.C + ceilD w gap * lossTill l t.P step l.length := by
    show _ + wants [] w = _
    rw [wants_nil, Int.add_zero]
  rw [h0, firstOf_none_of (fun _ _ _ => rfl)] at hr
  rw [hr]; rfl
theorem refDemand_eq (l : List STask) (h : ∀ o ∈ l, Okt o) (hl : l.length ≤ 8) (i : Nat) (t : STask) (ht : l[i]? = some t) (gap step w : Int) (hg : 1 ≤ gap ∧ gap ≤ 20000) (hs : 0 ≤ step) (hw : 1 ≤ w ∧ w ≤ 10000) (K : Nat) (hK : 9 ≤ K) :
    punctualref_AnewWorst_1.f K w t gap (lossTill l t.P step l.length) l (i : Int) = some (demF l i t gap step w) := by
  have htok := h t (List.mem_of_getElem? ht)
  have hC := htok.C
  have hp := loss_prod h (P := t.P) hg.1 hs (w := w) ⟨by omega, by omega⟩
  unfold punctualref_AnewWorst_1.f
  rw [up_eq ⟨by omega, by omega⟩ ⟨by omega, by omega⟩]
  simp only
  rw [wrap64_small (n := ceilD w gap * lossTill l t.P step l.length) (by omega) (by omega), wrap64_small (by omega) (by omega)]
  have hr := iter_states (ρ := Int) (f := punctualref_AnewWorst_1.r0 w t l (i : Int)) (fun k => (t.C + ceilD w gap * lossTill l t.P step l.length + wants (aboveTill l i k) w, k)) (fun _ => none) l.length (t := demF l i t gap step w) (fun k hk _ => by
    have hk' : (k : Int) < (l.length : Int) := by omega
    have hkx : l[k]? = some l[k] := List.getElem?_eq_getElem hk
    have hok := h l[k] (List.getElem_mem hk)
    have hwb := want_bounds hok (w := w) ⟨by omega, by omega⟩
    have hsb := wants_bounds (os := aboveTill l i k) (fun o ho => h o (aboveTill_mem ho)) (w := w) ⟨by omega, by omega⟩
    have hlen := aboveTill_len l i k
    rw [aboveTill_succ hkx ht, wants_append]
    simp only [punctualref_AnewWorst_1.r0, if_pos hk', hkx, onwardS]
    by_cases h1 : (k : Int) = (i : Int)
    · rw [if_pos h1, if_neg (by omega), wants_nil, Int.add_zero]
    · rw [if_neg h1]
      by_cases h2 : l[k].P ≥ t.P
      · have hT := hok.T; have hJ := hok.J
        rw [if_pos h2, wrap64_small (n := w + l[k].J) (by omega) (by omega), up_eq ⟨by omega, by omega⟩ ⟨by omega, by omega⟩]
        simp only
        rw [wrap64_small (n := ceilD (w + l[k].J) l[k].T * l[k].C) (by omega) (by omega), wrap64_small (by omega) (by omega), if_pos ⟨by omega, h2⟩, wants_cons, wants_nil]
        congr 3
        omega
      · rw [if_neg h2, if_neg (fun h => h2 h.2), wants_nil, Int.add_zero]) (fun _ => by simp [punctualref_AnewWorst_1.r0, demF]) (K := K) (by omega)
  have h0 : t.C + ceilD w gap * lossTill l t.P step l.length + wants (aboveTill l i 0) w = t.C + ceilD w gap * lossTill l t.P step l.length := by
    show _ + wants [] w = _
    rw [wants_nil, Int.add_zero]
  rw [h0, firstOf_none_of (fun _ _ _ => rfl)] at hr
  rw [hr]; rfl
/-- how long a task takes where faults lie so far apart -/
noncomputable def anewOf (l : List STask) (i gap step : Int) : Int × SFault :=
  if (respOf l i 0).2.Code = 0 then
    (if gap < 1 ∨ gap > 20000 ∨ step < 0 ∨ step > 10000 then (0, ⟨3, 0⟩)
    else match l[i.toNat]? with
      | none => (0, ⟨3, 0⟩)
      | some t => if settled (demF l i.toNat t gap step) (t.D - t.J) = 0 then (0, ⟨13, i⟩) else (settled (demF l i.toNat t gap step) (t.D - t.J) + t.J, ⟨0, 0⟩))
  else (0, (respOf l i 0).2)
theorem respOf_range {l : List STask} {i b : Int} (h : (respOf l i b).2.Code = 0) : (fixedFault l).Code = 0 ∧ 0 ≤ i ∧ i < (l.length : Int) := by
  unfold respOf at h
  split at h
  · rename_i hc
    split at h
    · cases h
    · exact ⟨hc, by omega, by omega⟩
  · contradiction
theorem redoResponse_eq (l : List STask) (i gap step : Int) (K : Nat) (hK : 20100 ≤ K) : redo_Response.f K l i gap step = some (anewOf l i gap step) := by
  unfold redo_Response.f anewOf
  rw [Response_eq l i 0 K hK]
  simp only
  by_cases hr : (respOf l i 0).2.Code = 0
  · rw [if_pos hr, if_pos hr]
    obtain ⟨hc, hi0, hi1⟩ := respOf_range hr
    have hset := (fixedFault_ok hc).1
    have hok := okt_of hset
    have hl8 := (setFault_ok hset).2.1
    by_cases hb : gap < 1 ∨ gap > 20000 ∨ step < 0 ∨ step > 10000
    · have hp : redo_Response.p0 gap step = some (.inr (0, ⟨3, 0⟩)) := by
        unfold redo_Response.p0
        repeat' split
        all_goals first | rfl | omega
      rw [hp, if_pos hb]
    · have hp : redo_Response.p0 gap step = some (.inl ()) := by
        unfold redo_Response.p0
        rw [if_neg (by omega), if_neg (by omega), if_neg (by omega), if_neg (by omega)]
      rw [hp, if_neg hb]
      simp only
      obtain ⟨n, rfl⟩ := Int.eq_ofNat_of_zero_le hi0
      have hn : n < l.length := by omega
      have ht : l[n]? = some l[n] := List.getElem?_eq_getElem hn
      have htok := hok l[n] (List.getElem_mem hn)
      generalize l[n] = t at ht htok
      rw [if_pos hi0]
      simp only [Int.toNat_natCast, ht]
      have hloss := iter_states (ρ := Int × SFault) (f := redo_Response.r1 l step t) (fun k => (k, lossTill l t.P step k)) (fun _ => none) l.length (t := lossTill l t.P step l.length) (fun k hk _ => by
        have hk' : (k : Int) < (l.length : Int) := by omega
        have hu : redo_undone.f l[k].C step = undone l[k].C step := by unfold redo_undone.f undone; rw [gmin_eq]
        simp only [redo_Response.r1, if_pos hk', List.getElem?_eq_getElem hk, onwardS, lossTill, hu, gmax_eq]
        split <;> rfl) (fun _ => by simp [redo_Response.r1]) (K := K) (by omega)
      have h0 : lossTill l t.P step 0 = 0 := rfl
      rw [h0, firstOf_none_of (fun _ _ _ => rfl)] at hloss
      rw [hloss]
      simp only [leave]
      have hC := htok.C; have hD := htok.D; have hJ := htok.J
      rw [wrap64_small (n := t.D - t.J) (by omega) (by omega)]
      have hsettle : fixed_Settle_1.f K t.C (t.D - t.J) t gap (lossTill l t.P step l.length) l (n : Int) = some (settled (demF l n t gap step) (t.D - t.J)) := by
        unfold fixed_Settle_1.f
        have hit := settle_iter (d := fun z => redo_Response_1.f K z t gap (lossTill l t.P step l.length) l (n : Int)) (f := demF l n t gap step) (most := t.D - t.J) (first := t.C) hC.1 (fun z h1 h2 => redoDemand_eq l hok hl8 n t ht gap step z ⟨by omega, by omega⟩ (by omega) ⟨by omega, by omega⟩ K (by omega))
          (fun z h1 => demF_ge hok (by omega) (by omega) h1) (fun z z' _ h2 => demF_mono hok (by omega) (by omega) h2) (K := K) (by omega) (by omega)
        have e : fixed_Settle_1.r0 K (t.D - t.J) t gap (lossTill l t.P step l.length) l (n : Int) = settleStep (fun z => redo_Response_1.f K z t gap (lossTill l t.P step l.length) l (n : Int)) (t.D - t.J) := rfl
        rw [e, hit]
        by_cases hz : settled (demF l n t gap step) (t.D - t.J) = 0
        · rw [if_pos hz, hz]
        · rw [if_neg hz]
      rw [hsettle]
      simp only
      by_cases hz : settled (demF l n t gap step) (t.D - t.J) = 0
      · rw [if_pos hz, if_pos hz]
      · rw [if_neg hz, if_neg hz]
        have := settled_pos hz
        rw [wrap64_small (by omega) (by omega)]
  · rw [if_neg hr, if_neg hr]
theorem AnewWorst_eq (l : List STask) (ok : ∀ t ∈ l, Ok.ok t) (i gap step : Int) (K : Nat) (hK : 20100 ≤ K) (hs : ∀ t ∈ l, t.Name.size < K) : punctualref_AnewWorst.f K l i gap step = some (anewOf l i gap step) := by
  unfold punctualref_AnewWorst.f anewOf
  rw [ResponseOf_eq l ok i 0 K hK hs]
  simp only
  by_cases hr : (respOf l i 0).2.Code = 0
  · rw [if_pos hr, if_pos hr]
    obtain ⟨hc, hi0, hi1⟩ := respOf_range hr
    have hset := (fixedFault_ok hc).1
    have hok := okt_of hset
    have hl8 := (setFault_ok hset).2.1
    by_cases hb : gap < 1 ∨ gap > 20000 ∨ step < 0 ∨ step > 10000
    · have hp : punctualref_AnewWorst.p0 gap step = some (.inr (0, ⟨3, 0⟩)) := by
        unfold punctualref_AnewWorst.p0
        repeat' split
        all_goals first | rfl | omega
      rw [hp, if_pos hb]
    · have hp : punctualref_AnewWorst.p0 gap step = some (.inl ()) := by
        unfold punctualref_AnewWorst.p0
        rw [if_neg (by omega), if_neg (by omega), if_neg (by omega), if_neg (by omega)]
      rw [hp, if_neg hb]
      simp only
      obtain ⟨n, rfl⟩ := Int.eq_ofNat_of_zero_le hi0
      have hn : n < l.length := by omega
      have ht : l[n]? = some l[n] := List.getElem?_eq_getElem hn
      have htok := hok l[n] (List.getElem_mem hn)
      generalize l[n] = t at ht htok
      rw [if_pos hi0]
      simp only [Int.toNat_natCast, ht]
      have hloss := iter_states (ρ := Int × SFault) (f := punctualref_AnewWorst.r1 l step t) (fun k => (k, lossTill l t.P step k)) (fun _ => none) l.length (t := lossTill l t.P step l.length) (fun k hk _ => by
        have hk' : (k : Int) < (l.length : Int) := by omega
        simp only [punctualref_AnewWorst.r1, if_pos hk', List.getElem?_eq_getElem hk, onwardS, lossTill]
        have hmax : ∀ x y : Int, max x y = if y > x then y else x := fun x y => by split <;> omega
        by_cases hP : l[k].P ≥ t.P
        · simp only [if_pos hP, hmax]
          by_cases h1 : step > 0
          · rw [if_pos h1]
            by_cases h2 : step < l[k].C
            · have hu : undone l[k].C step = step := by unfold undone; rw [if_neg (by omega)]; omega
              rw [if_pos h2, hu]
              split <;> rfl
            · have hu : undone l[k].C step = l[k].C := by unfold undone; rw [if_neg (by omega)]; omega
              rw [if_neg h2, hu]
              split <;> rfl
          · have hu : undone l[k].C step = l[k].C := by unfold undone; rw [if_pos (by omega)]
            rw [if_neg h1, hu]
            split <;> rfl
        · simp only [if_neg hP]
          repeat' split
          all_goals rfl) (fun _ => by simp [punctualref_AnewWorst.r1]) (K := K) (by omega)
      have h0 : lossTill l t.P step 0 = 0 := rfl
      rw [h0, firstOf_none_of (fun _ _ _ => rfl)] at hloss
      rw [hloss]
      simp only [leave]
      have hC := htok.C; have hD := htok.D; have hJ := htok.J
      rw [wrap64_small (n := t.D - t.J) (by omega) (by omega)]
      have hsettle : punctualref_least.f K (t.D - t.J) t gap (lossTill l t.P step l.length) l (n : Int) = some (settled (demF l n t gap step) (t.D - t.J)) := by
        unfold punctualref_least.f
        have hit := least_iter (d := fun z => punctualref_AnewWorst_1.f K z t gap (lossTill l t.P step l.length) l (n : Int)) (f := demF l n t gap step) (most := t.D - t.J) (by omega) (fun z h1 h2 => refDemand_eq l hok hl8 n t ht gap step z ⟨by omega, by omega⟩ (by omega) ⟨by omega, by omega⟩ K (by omega))
          (fun z h1 => by have := demF_ge hok (i := n) (t := t) (gap := gap) (step := step) (by omega) (by omega) h1; omega) (fun z z' _ h2 => demF_mono hok (by omega) (by omega) h2) (K := K) (by omega) (by omega)
        have e : punctualref_least.r0 K (t.D - t.J) t gap (lossTill l t.P step l.length) l (n : Int) = leastStep (fun z => punctualref_AnewWorst_1.f K z t gap (lossTill l t.P step l.length) l (n : Int)) (t.D - t.J) := rfl
        rw [e, hit]
        by_cases hz : settled (demF l n t gap step) (t.D - t.J) = 0
        · rw [if_pos hz, hz]
        · rw [if_neg hz]
      rw [hsettle]
      simp only
      by_cases hz : settled (demF l n t gap step) (t.D - t.J) = 0
      · rw [if_pos hz, if_pos hz]; rfl
      · rw [if_neg hz, if_neg hz]
        have := settled_pos hz
        rw [wrap64_small (by omega) (by omega)]
  · rw [if_neg hr, if_neg hr]

theorem RedoResponds_law (l0 : List STask) (x1 x2 x3 : Int) (ok0 : ∀ y ∈ l0, Ok.ok y) (ok1 : In64 x1) (ok2 : In64 x2) (ok3 : In64 x3) : ∃ K, RedoResponds.f K l0 x1 x2 x3 = some true := by
  refine ⟨18446744073709551616, ?_⟩
  have hs : ∀ t ∈ l0, t.Name.size < 18446744073709551616 := fun t ht => by have : t.Name.size ≤ 9223372036854775807 := (ok0 t ht).1; omega
  have ha : anew.f 18446744073709551616 = some true := by kernel_rfl
  unfold RedoResponds.f
  simp only [ha, if_true]
  by_cases f0 : few.f (l0.length : Int) = true
  · have g0 := few_true f0
    obtain ⟨r0, e0⟩ := punctualsame_Lend_api_Task_some l0 ⟨⟨#[63]⟩, (-9), 0, 0, 0, 0, 0⟩ g0
    simp only [if_pos f0, e0, redoResponse_eq l0 x1 x2 x3 _ (show 20100 ≤ 18446744073709551616 by omega), AnewWorst_eq l0 ok0 x1 x2 x3 _ (show 20100 ≤ 18446744073709551616 by omega) hs, SFault.eqb_self, if_true, punctualsame_Still_api_Task_true l0 _ _ g0 (show 5010 ≤ 18446744073709551616 by omega)]
  · simp only [if_neg f0]

end Go.Proofs.YtccfilmiboepjaaDoor.GV
