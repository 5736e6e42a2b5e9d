/- Plain words: GvLFixedResponds. -/
import Derived.Test.YtlipdmblinjjaaaDoorGWFixedResponds3
import Derived.Test.YtlipdmblinjjaaaDoorGv17
namespace Go.Proofs.YtlipdmblinjjaaaDoor.GV
open Go Go.RowKit
set_option linter.unusedVariables false
set_option linter.unusedSimpArgs false
theorem STask.eqb_self (x : STask) : STask.eqb x x = true := by simp [STask.eqb]
theorem SFault.eqb_self (x : SFault) : SFault.eqb x x = true := by simp [SFault.eqb]
theorem A6Int.eqb_self (x : A6Int) : A6Int.eqb x x = true := by simp [A6Int.eqb]
theorem punctualsame_Lend_api_Task_some (l : List STask) (a : STask) (h : l.length ≤ 5000) : ∃ r, punctualsame_Lend_api_Task.f l a = some r := by
  have hw : IntKind.i64.wrap ((l.length : Int) + 3) = (l.length : Int) + 3 := wrap64_small (by omega) (by omega)
  unfold punctualsame_Lend_api_Task.f
  rw [hw, if_pos (by omega), if_pos (by omega), if_pos (by simp; omega), if_pos (by simp; omega)]
  exact ⟨_, rfl⟩
theorem punctualsame_Lend_int_some (l : List Int) (a : Int) (h : l.length ≤ 5000) : ∃ r, punctualsame_Lend_int.f l a = some r := by
  have hw : IntKind.i64.wrap ((l.length : Int) + 3) = (l.length : Int) + 3 := wrap64_small (by omega) (by omega)
  unfold punctualsame_Lend_int.f
  rw [hw, if_pos (by omega), if_pos (by omega), if_pos (by simp; omega), if_pos (by simp; omega)]
  exact ⟨_, rfl⟩
theorem punctualsame_Still_api_Task_true (l : List STask) (a : STask) (K : Nat) (hl : l.length ≤ 5000) (hK : 5010 ≤ K) : punctualsame_Still_api_Task.f K (l ++ [a, a, a]) l a = some true := by
  have hw : IntKind.i64.wrap ((l.length : Int) + 3) = (l.length : Int) + 3 := wrap64_small (by omega) (by omega)
  have hr := iter_first0 (f := punctualsame_Still_api_Task.r0 (l ++ [a, a, a]) l a) (fun _ => none) (l.length + 3) (t := ()) (fun i hi => by
    have h' : (i : Int) < ((l ++ [a, a, a] : List STask).length : Int) := by simp; omega
    simp only [punctualsame_Still_api_Task.r0, if_pos h']
    by_cases h2 : i < l.length
    · have h2' : (i : Int) < (l.length : Int) := by omega
      have h3 : ¬ (i : Int) ≥ (l.length : Int) := by omega
      rw [List.getElem?_append_left h2, List.getElem?_eq_getElem h2]
      simp only [if_pos h2', STask.eqb_self, if_true, if_neg h3, onward]
    · have h2' : ¬ (i : Int) < (l.length : Int) := by omega
      have h3 : (i : Int) ≥ (l.length : Int) := by omega
      rw [List.getElem?_append_right (by omega)]
      have : i - l.length = 0 ∨ i - l.length = 1 ∨ i - l.length = 2 := by omega
      rcases this with e | e | e <;> simp [e, h2', h3, onward, STask.eqb_self]) (by
    have h' : ¬ ((l.length + 3 : Nat) : Int) < ((l ++ [a, a, a] : List STask).length : Int) := by simp
    simp only [punctualsame_Still_api_Task.r0, if_neg h']) (K := K) (by omega)
  rw [firstOf_none_of (fun _ _ _ => rfl)] at hr
  have hlen : IntKind.i64.wrap ((l.length : Int) + 3) = ((l ++ [a, a, a] : List STask).length : Int) := by rw [hw]; simp
  simp only [punctualsame_Still_api_Task.f, if_pos hlen, hr, leave]
theorem punctualsame_Still_int_true (l : List Int) (a : Int) (K : Nat) (hl : l.length ≤ 5000) (hK : 5010 ≤ K) : punctualsame_Still_int.f K (l ++ [a, a, a]) l a = some true := by
  have hw : IntKind.i64.wrap ((l.length : Int) + 3) = (l.length : Int) + 3 := wrap64_small (by omega) (by omega)
  have hr := iter_first0 (f := punctualsame_Still_int.r0 (l ++ [a, a, a]) l a) (fun _ => none) (l.length + 3) (t := ()) (fun i hi => by
    have h' : (i : Int) < ((l ++ [a, a, a] : List Int).length : Int) := by simp; omega
    simp only [punctualsame_Still_int.r0, if_pos h']
    by_cases h2 : i < l.length
    · have h2' : (i : Int) < (l.length : Int) := by omega
      have h3 : ¬ (i : Int) ≥ (l.length : Int) := by omega
      rw [List.getElem?_append_left h2, List.getElem?_eq_getElem h2]
      simp only [if_pos h2', if_true, if_neg h3, onward]
    · have h2' : ¬ (i : Int) < (l.length : Int) := by omega
      have h3 : (i : Int) ≥ (l.length : Int) := by omega
      rw [List.getElem?_append_right (by omega)]
      have : i - l.length = 0 ∨ i - l.length = 1 ∨ i - l.length = 2 := by omega
      rcases this with e | e | e <;> simp [e, h2', h3, onward]) (by
    have h' : ¬ ((l.length + 3 : Nat) : Int) < ((l ++ [a, a, a] : List Int).length : Int) := by simp
    simp only [punctualsame_Still_int.r0, if_neg h']) (K := K) (by omega)
  rw [firstOf_none_of (fun _ _ _ => rfl)] at hr
  have hlen : IntKind.i64.wrap ((l.length : Int) + 3) = ((l ++ [a, a, a] : List Int).length : Int) := by rw [hw]; simp
  simp only [punctualsame_Still_int.f, if_pos hlen, hr, leave]
theorem punctualsame_Same_int_self (l : List Int) (K : Nat) (hK : l.length < K) : punctualsame_Same_int.f K l l = some true := by
  have hr := iter_first0 (f := punctualsame_Same_int.r0 l l) (fun _ => none) l.length (t := ()) (fun i hi => by
    have h' : (i : Int) < (l.length : Int) := by omega
    simp only [punctualsame_Same_int.r0, if_pos h', List.getElem?_eq_getElem hi, if_true, onward]) (by
    have h' : ¬ (l.length : Int) < (l.length : Int) := by omega
    simp only [punctualsame_Same_int.r0, if_neg h']) hK
  rw [firstOf_none_of (fun _ _ _ => rfl)] at hr
  simp only [punctualsame_Same_int.f, if_true, hr, leave]
theorem few_true {n : Nat} (h : few.f (n : Int) = true) : n ≤ 5000 := by
  simp only [few.f, decide_eq_true_eq] at h; omega
theorem few_false {n : Nat} (h : ¬ few.f (n : Int) = true) : 5000 < n := by
  simp only [few.f, decide_eq_true_eq] at h; omega
theorem exists_bound {α : Type} (f : α → Nat) : ∀ l : List α, ∃ B, ∀ x ∈ l, f x ≤ B
  | [] => ⟨0, by simp⟩
  | x :: l => by
    obtain ⟨B, h⟩ := exists_bound f l
    refine ⟨max (f x) B, fun y hy => ?_⟩
    rcases List.mem_cons.1 hy with rfl | hy
    · exact Nat.le_max_left _ _
    · exact Nat.le_trans (h y hy) (Nat.le_max_right _ _)
/-- a letter stands there -/
def letterAt (x : ByteArray) (i : Nat) : Bool := match x[i]? with | some b => decide (97 ≤ b.toNat) && decide (b.toNat ≤ 122) | none => false
def allL (x : ByteArray) (n : Nat) : Bool := (List.range n).all (letterAt x)
theorem allL_succ (x : ByteArray) (n : Nat) : allL x (n + 1) = (allL x n && letterAt x n) := by simp [allL, List.range_succ]
theorem allL_iff {x : ByteArray} {n : Nat} : allL x n = true ↔ ∀ i, i < n → letterAt x i = true := by simp [allL]
def Good (x : ByteArray) : Prop := 1 ≤ x.size ∧ x.size ≤ 10 ∧ allL x x.size = true
instance (x : ByteArray) : Decidable (Good x) := by unfold Good; infer_instance
theorem get!_of {x : ByteArray} {i : Nat} {b : UInt8} (h : x[i]? = some b) : x.get! i = b := by
  have hi : i < x.size := by
    rcases Nat.lt_or_ge i x.size with h' | h'
    · exact h'
    · rw [getElem?_neg x i (by omega)] at h; cases h
  rw [getElem?_pos x i hi] at h
  have := Option.some.inj h
  rw [← this]
  cases x with
  | mk bs => exact getElem!_pos bs i hi
theorem byte_some {x : ByteArray} {i : Nat} (h : i < x.size) : ∃ b, x[i]? = some b := ⟨x[i], getElem?_pos x i h⟩
theorem decode_letter {x : ByteArray} {i : Nat} (hi : i < x.size) (h : letterAt x i = true) : ∃ n : Nat, Utf8.decode x i = (n, 1) ∧ 97 ≤ n ∧ n ≤ 122 := by
  obtain ⟨b, hb⟩ := byte_some hi
  simp only [letterAt, hb, Bool.and_eq_true, decide_eq_true_eq] at h
  refine ⟨b.toNat, ?_, h⟩
  have := get!_of hb
  simp only [Utf8.decode, Nat.add_zero, this]
  rw [if_pos (by omega)]
theorem decode_other {x : ByteArray} {i : Nat} (hi : i < x.size) (h : letterAt x i = false) : (Utf8.decode x i).1 < 97 ∨ 122 < (Utf8.decode x i).1 := by
  obtain ⟨b, hb⟩ := byte_some hi
  simp only [letterAt, hb, Bool.and_eq_false_iff, decide_eq_false_iff_not] at h
  have := get!_of hb
  simp only [Utf8.decode, Nat.add_zero, this]
  have he : Utf8.runeError = 65533 := rfl
  repeat' split
  all_goals simp only [he, Bool.and_eq_true, decide_eq_true_eq, ge_iff_le] at *
  all_goals omega
theorem isName_eq (x : ByteArray) (K : Nat) (hK : 12 ≤ K) : tasks_isName.f K x = some (decide (Good x)) := by
  unfold tasks_isName.f
  by_cases h1 : (x.size : Int) < 1
  · rw [if_pos h1]; congr 1; symm; rw [decide_eq_false_iff_not]; intro h; have := h.1; omega
  rw [if_neg h1]
  by_cases h2 : (x.size : Int) > 10
  · rw [if_pos h2]; congr 1; symm; rw [decide_eq_false_iff_not]; intro h; have := h.2.1; omega
  rw [if_neg h2]
  have hr := iter_first0 (f := tasks_isName.r0 x) (fun i => if letterAt x i = true then none else some false) x.size (t := ()) (fun i hi => by
    simp only [tasks_isName.r0, if_pos hi]
    by_cases h : letterAt x i = true
    · obtain ⟨n, hd, ha, hb⟩ := decode_letter hi h
      simp only [hd, h, if_true]
      rw [if_neg (by omega), if_neg (by omega)]; rfl
    · simp only [h]
      rcases decode_other hi (by simpa using h) with h | h
      · rw [if_pos (by omega)]; simp [onward]
      · rw [if_neg (by omega), if_pos (by omega)]; simp [onward]) (by simp [tasks_isName.r0]) (K := K) (by omega)
  rw [hr]
  cases hf : firstOf (fun i => if letterAt x i = true then none else some false) x.size 0 with
  | none =>
    show some true = some _
    congr 1; symm
    rw [decide_eq_true_eq]
    refine ⟨by omega, by omega, allL_iff.2 fun i hi => ?_⟩
    have := firstOf_none hf i (Nat.zero_le _) hi
    split at this
    · assumption
    · cases this
  | some r =>
    obtain ⟨j, _, hj, hg, _⟩ := firstOf_some hf
    split at hg
    · cases hg
    · rename_i hn
      cases hg
      show some false = some _
      congr 1; symm
      rw [decide_eq_false_iff_not]
      intro h
      exact hn (allL_iff.1 h.2.2 j hj)
theorem refName_eq (e : STask) (hs : Ok.ok e) (K : Nat) (hK : e.Name.size < K) : ∃ q, punctualref_CheckSet.p2 e = some (.inl q) ∧ iter (punctualref_CheckSet.r3 e) K (q, 0) = some (.inl (decide (Good e.Name))) := by
  have hsm : e.Name.size ≤ 9223372036854775807 := hs.1
  have key : ∀ q : Bool, iter (punctualref_CheckSet.r3 e) K (q, 0) = some (.inl (q && allL e.Name e.Name.size)) := by
    intro q
    obtain ⟨r, hr, hR⟩ := iter_total (f := punctualref_CheckSet.r3 e) (fun s => 0 ≤ s.2 ∧ s.2 ≤ e.Name.size ∧ s.1 = (q && allL e.Name s.2.toNat)) (fun s => e.Name.size - s.2.toNat)
      (fun r => r = .inl (q && allL e.Name e.Name.size)) (fun s hI => by
        obtain ⟨p, z⟩ := s
        obtain ⟨h1, h2, h3⟩ := hI
        simp only at h1 h2 h3
        obtain ⟨n, rfl⟩ := Int.eq_ofNat_of_zero_le h1
        by_cases hz : (n : Int) < (e.Name.size : Int)
        · left
          have hn : n < e.Name.size := by omega
          obtain ⟨b, hb⟩ := byte_some hn
          have hw : IntKind.i64.wrap ((n : Int) + 1) = ((n + 1 : Nat) : Int) := by rw [wrap64_small (by omega) (by omega)]; rfl
          have hstep : punctualref_CheckSet.r3 e (p, (n : Int)) = some (.inl (p && letterAt e.Name n, ((n + 1 : Nat) : Int))) := by
            simp only [punctualref_CheckSet.r3, if_pos hz, hw, Int.toNat_natCast, hb, letterAt, if_pos h1]
            cases p with
            | false => simp
            | true =>
              simp only [if_true, Bool.true_and]
              by_cases ha : (b.toNat : Int) ≥ 97
              · rw [if_pos ha]
                have : (97 ≤ b.toNat) := by omega
                simp only [this, decide_true, Bool.true_and, Option.some.injEq, Sum.inl.injEq, Prod.mk.injEq, and_true]
                rw [Bool.eq_iff_iff, decide_eq_true_eq, decide_eq_true_eq]
                omega
              · rw [if_neg ha]
                have : ¬ (97 ≤ b.toNat) := by omega
                simp [this]
          refine ⟨_, hstep, ⟨by simp only; omega, by simp only; omega, ?_⟩, by simp only; omega⟩
          simp only [h3, Int.toNat_natCast]
          rw [allL_succ, Bool.and_assoc]
        · right
          obtain rfl : n = e.Name.size := by omega
          refine ⟨.inl p, by simp only [punctualref_CheckSet.r3, if_neg hz], ?_⟩
          rw [h3]
          rfl) K (q, 0) ⟨by simp, by simp, by simp [allL]⟩ (by simpa using hK)
    rw [hr, hR]
  unfold punctualref_CheckSet.p2
  by_cases h1 : (e.Name.size : Int) ≥ 1
  · rw [if_pos h1]
    refine ⟨_, rfl, ?_⟩
    rw [key]
    congr 2
    rw [Bool.eq_iff_iff]
    rw [Bool.and_eq_true, decide_eq_true_eq, decide_eq_true_eq]
    constructor
    · rintro ⟨ha, hb⟩; exact ⟨by omega, by omega, hb⟩
    · rintro ⟨ha, hb, hc⟩; exact ⟨by omega, hc⟩
  · rw [if_neg h1]
    refine ⟨_, rfl, ?_⟩
    rw [key]
    congr 2
    rw [Bool.false_and, eq_comm, decide_eq_false_iff_not]
    intro h; have := h.1; omega
/-- the first of those ahead that bears the name -/
def dupAt (l : List STask) (i : Nat) (t : STask) : Prop := ∃ j e, j < i ∧ l[j]? = some e ∧ e.Name.toList = t.Name.toList
noncomputable instance (l : List STask) (i : Nat) (t : STask) : Decidable (dupAt l i t) := Classical.propDecidable _
theorem takedrop {α : Type} (l : List α) (i : Nat) : (l.take i).drop 0 = l.take i := by simp
theorem contains_eq (l : List STask) (i : Nat) (hi : i < l.length) (t : STask) (K : Nat) (hK : i < K) : slices_ContainsFunc_api_Task_api_Task.f K ((l.take i).drop 0) t = some (decide (dupAt l i t)) := by
  rw [takedrop]
  have hlen : (l.take i).length = i := by simp; omega
  let g : Nat → Option Int := fun j => match l[j]? with | some e => if e.Name.toList = t.Name.toList then some (j : Int) else none | none => none
  have hr := iter_first0 (f := slices_IndexFunc_api_Task_api_Task.r0 (l.take i) t) g i (t := ()) (fun j hj => by
    have hj' : (j : Int) < ((l.take i).length : Int) := by omega
    have hjl : j < l.length := by omega
    simp only [slices_IndexFunc_api_Task_api_Task.r0, if_pos hj', List.getElem?_take, if_pos hj, List.getElem?_eq_getElem hjl, g, tasks_Check_1.f, beq_iff_eq]
    split <;> rfl) (by
    have : ¬ (i : Int) < ((l.take i).length : Int) := by omega
    simp only [slices_IndexFunc_api_Task_api_Task.r0, if_neg this]) (K := K) hK
  unfold slices_ContainsFunc_api_Task_api_Task.f slices_IndexFunc_api_Task_api_Task.f
  rw [hr]
  cases hf : firstOf g i 0 with
  | none =>
    show some (decide ((-1 : Int) ≥ 0)) = _
    congr 1
    have : ¬ dupAt l i t := by
      rintro ⟨j, e, hj, he, hn⟩
      have := firstOf_none hf j (Nat.zero_le _) hj
      simp only [g, he, if_pos hn] at this
      cases this
    simp [this]
  | some r =>
    show some (decide (r ≥ 0)) = _
    obtain ⟨j, _, hj, hg, _⟩ := firstOf_some hf
    have hjl : j < l.length := by omega
    simp only [g, List.getElem?_eq_getElem hjl] at hg
    split at hg
    · rename_i hn
      cases hg
      have : dupAt l i t := ⟨j, l[j], hj, List.getElem?_eq_getElem hjl, hn⟩
      simp [this]
    · cases hg
theorem refDup_eq (l : List STask) (i : Nat) (hi : i < l.length) (t : STask) (K : Nat) (hK : i < K) : iter (punctualref_CheckSet.r4 l i t) K 0 = some (if dupAt l i t then .inr ⟨5, (i : Int)⟩ else .inl ()) := by
  have hlen : ((l.take i).drop 0).length = i := by simp; omega
  let g : Nat → Option SFault := fun j => match l[j]? with | some e => if e.Name.toList = t.Name.toList then some ⟨5, (i : Int)⟩ else none | none => none
  have hr := iter_first0 (f := punctualref_CheckSet.r4 l i t) g i (t := ()) (fun j hj => by
    have hj' : (j : Int) < (((l.take i).drop 0).length : Int) := by omega
    have hjl : j < l.length := by omega
    simp only [punctualref_CheckSet.r4, if_pos hj']
    rw [takedrop]
    simp only [List.getElem?_take, if_pos hj, List.getElem?_eq_getElem hjl, g, punctualref_F.f]
    split <;> rfl) (by
    have : ¬ (i : Int) < (((l.take i).drop 0).length : Int) := by omega
    simp only [punctualref_CheckSet.r4, if_neg this]) (K := K) hK
  rw [hr]
  cases hf : firstOf g i 0 with
  | none =>
    have : ¬ dupAt l i t := by
      rintro ⟨j, e, hj, he, hn⟩
      have := firstOf_none hf j (Nat.zero_le _) hj
      simp only [g, he, if_pos hn] at this
      cases this
    simp [this, leave]
  | some r =>
    obtain ⟨j, _, hj, hg, _⟩ := firstOf_some hf
    have hjl : j < l.length := by omega
    simp only [g, List.getElem?_eq_getElem hjl] at hg
    split at hg
    · rename_i hn
      cases hg
      have : dupAt l i t := ⟨j, l[j], hj, List.getElem?_eq_getElem hjl, hn⟩
      simp [this, leave]
    · cases hg
theorem iter_succ {σ ρ : Type} (f : σ → Option (σ ⊕ ρ)) (K : Nat) (s : σ) : iter f (K + 1) s = match f s with | none => none | some (.inl s') => iter f K s' | some (.inr r) => some r := rfl
/-- a number lies out of its range -/
def rangeAt (i : Nat) (t : STask) (j : Nat) : Option SFault :=
  match ([t.C, t.T, t.D, t.J, t.O, t.P] : List Int)[j]? with
  | none => none
  | some v => match ([1, 1, 1, 0, 0, 0] : List Int)[j]? with
    | none => none
    | some a => if v < a then some ⟨3, (i : Int)⟩ else match ([10000, 10000, 10000, 10000, 10000, 1000] : List Int)[j]? with
      | none => none
      | some b => if v > b then some ⟨3, (i : Int)⟩ else none
theorem range_eq (i : Nat) (t : STask) (K : Nat) (hK : 7 ≤ K) : iter (tasks_Check.r2 i t) K 0 = some (leave () (firstOf (rangeAt i t) 6 0)) := by
  refine iter_first0 (f := tasks_Check.r2 i t) (rangeAt i t) 6 (t := ()) (fun j hj => ?_) (by simp [tasks_Check.r2, tasks_numbers.f]) (K := K) (by omega)
  have : j = 0 ∨ j = 1 ∨ j = 2 ∨ j = 3 ∨ j = 4 ∨ j = 5 := by omega
  rcases this with rfl | rfl | rfl | rfl | rfl | rfl <;> simp [tasks_Check.r2, tasks_numbers.f, tasks_bounds.f, rangeAt] <;> (repeat' split) <;> (try simp only [onward]) <;> first | rfl | contradiction | simp_all
theorem refRange_eq (i : Nat) (t : STask) (K : Nat) (hK : 7 ≤ K) : iter (punctualref_CheckSet.r5 i t) K 0 = some (leave () (firstOf (rangeAt i t) 6 0)) := by
  refine iter_first0 (f := punctualref_CheckSet.r5 i t) (rangeAt i t) 6 (t := ()) (fun j hj => ?_) (by simp [punctualref_CheckSet.r5]) (K := K) (by omega)
  have : j = 0 ∨ j = 1 ∨ j = 2 ∨ j = 3 ∨ j = 4 ∨ j = 5 := by omega
  rcases this with rfl | rfl | rfl | rfl | rfl | rfl <;> simp [punctualref_CheckSet.r5, punctualref_sixOf.f, punctualref_F.f, rangeAt] <;> (repeat' split) <;> (try simp only [onward]) <;> first | rfl | contradiction | simp_all
/-- what is wrong with the i-th task -/
noncomputable def wrongAt (l : List STask) (i : Nat) : Option SFault :=
  match l[i]? with
  | none => none
  | some t => if Good t.Name then (if dupAt l i t then some ⟨5, (i : Int)⟩ else match firstOf (rangeAt i t) 6 0 with | some r => some r | none => if t.C > t.D then some ⟨12, (i : Int)⟩ else none) else some ⟨4, (i : Int)⟩
/-- what is wrong with a set -/
noncomputable def setFault (l : List STask) : SFault := if 1 ≤ l.length ∧ l.length ≤ 8 then (firstOf (wrongAt l) l.length 0).getD ⟨0, 0⟩ else ⟨2, 0⟩
theorem Check_eq (l : List STask) (K : Nat) (hK : 20 ≤ K) : tasks_Check.f K l = some (setFault l) := by
  unfold tasks_Check.f tasks_Check.p0 setFault
  by_cases h1 : (l.length : Int) < 1
  · rw [if_pos h1, if_neg (by omega)]
  rw [if_neg h1]
  by_cases h2 : (l.length : Int) > 8
  · rw [if_pos h2, if_neg (by omega)]
  rw [if_neg h2, if_pos (by omega)]
  have hr := iter_first0 (f := tasks_Check.r1 K l) (wrongAt l) l.length (t := ()) (fun i hi => by
    have hi' : (i : Int) < (l.length : Int) := by omega
    have hle : i ≤ l.length := by omega
    simp only [tasks_Check.r1, if_pos hi', List.getElem?_eq_getElem hi, isName_eq _ K (by omega), contains_eq l i hi _ K (by omega), range_eq i _ K (by omega), wrongAt, if_pos hle, decide_eq_true_eq]
    by_cases hg : Good l[i].Name
    · simp only [if_pos hg]
      by_cases hd : dupAt l i l[i]
      · simp only [if_pos hd, onward]
      · simp only [if_neg hd]
        cases firstOf (rangeAt i l[i]) 6 0 with
        | some r => rfl
        | none =>
          simp only [leave]
          split <;> rfl
    · simp only [if_neg hg, onward]) (by simp [tasks_Check.r1]) (K := K) (by omega)
  simp only [hr]
  cases firstOf (wrongAt l) l.length 0 <;> rfl
theorem CheckSet_eq (l : List STask) (hl : ∀ t ∈ l, Ok.ok t) (K : Nat) (hK : 20 ≤ K) (hs : ∀ t ∈ l, t.Name.size < K) : punctualref_CheckSet.f K l = some (setFault l) := by
  unfold punctualref_CheckSet.f punctualref_CheckSet.p0 setFault
  by_cases h1 : (l.length : Int) = 0
  · rw [if_pos h1, if_neg (by omega)]; rfl
  rw [if_neg h1]
  by_cases h2 : (l.length : Int) > 8
  · rw [if_pos h2, if_neg (by omega)]; rfl
  rw [if_neg h2, if_pos (by omega)]
  have hr := iter_first0 (f := punctualref_CheckSet.r1 K l) (wrongAt l) l.length (t := ()) (fun i hi => by
    have hi' : (i : Int) < (l.length : Int) := by omega
    have hle : i ≤ l.length := by omega
    obtain ⟨q, hq1, hq2⟩ := refName_eq l[i] (hl _ (List.getElem_mem hi)) K (hs _ (List.getElem_mem hi))
    simp only [punctualref_CheckSet.r1, if_pos hi', List.getElem?_eq_getElem hi, hq1, hq2, refDup_eq l i hi _ K (by omega), refRange_eq i _ K (by omega), wrongAt, if_pos hle, decide_eq_true_eq]
    by_cases hg : Good l[i].Name
    · simp only [if_pos hg]
      by_cases hd : dupAt l i l[i]
      · simp only [if_pos hd, onward]
      · simp only [if_neg hd]
        cases firstOf (rangeAt i l[i]) 6 0 with
        | some r => rfl
        | none =>
          simp only [gt_iff_lt, leave]
          split <;> rfl
    · simp only [if_neg hg]; rfl) (by simp [punctualref_CheckSet.r1]) (K := K) (by omega)
  simp only [hr]
  cases firstOf (wrongAt l) l.length 0 <;> rfl
theorem setFault_ok {l : List STask} (h : (setFault l).Code = 0) : 1 ≤ l.length ∧ l.length ≤ 8 ∧ ∀ i t, l[i]? = some t → Good t.Name ∧ ¬ dupAt l i t ∧ (1 ≤ t.C ∧ t.C ≤ 10000) ∧ (1 ≤ t.T ∧ t.T ≤ 10000) ∧ (1 ≤ t.D ∧ t.D ≤ 10000) ∧ (0 ≤ t.J ∧ t.J ≤ 10000) ∧ (0 ≤ t.O ∧ t.O ≤ 10000) ∧ (0 ≤ t.P ∧ t.P ≤ 1000) ∧ t.C ≤ t.D := by
  unfold setFault at h
  split at h
  · rename_i hl
    refine ⟨hl.1, hl.2, fun i t ht => ?_⟩
    have hi := lt_of_get ht
    have hn : firstOf (wrongAt l) l.length 0 = none := by
      cases hf : firstOf (wrongAt l) l.length 0 with
      | none => rfl
      | some r =>
        rw [hf] at h
        obtain ⟨j, _, hj, hg, _⟩ := firstOf_some hf
        simp only [Option.getD_some] at h
        exfalso
        unfold wrongAt at hg
        rw [List.getElem?_eq_getElem hj] at hg
        simp only at hg
        split at hg
        · split at hg
          · cases hg; cases h
          · split at hg
            · rename_i r' hr'
              cases hg
              obtain ⟨q, _, hq, hg2, _⟩ := firstOf_some hr'
              unfold rangeAt at hg2
              repeat' split at hg2
              all_goals first | cases hg2; done | (cases hg2; cases h)
            · split at hg
              · cases hg; cases h
              · cases hg
        · cases hg; cases h
    have h0 := firstOf_none hn i (Nat.zero_le _) hi
    unfold wrongAt at h0
    rw [ht] at h0
    simp only at h0
    split at h0
    · rename_i hg
      split at h0
      · cases h0
      · rename_i hd
        split at h0
        · cases h0
        · rename_i hr
          split at h0
          · cases h0
          · rename_i hcd
            have hrr := firstOf_none hr
            have e0 := hrr 0 (by omega) (by omega)
            have e1 := hrr 1 (by omega) (by omega)
            have e2 := hrr 2 (by omega) (by omega)
            have e3 := hrr 3 (by omega) (by omega)
            have e4 := hrr 4 (by omega) (by omega)
            have e5 := hrr 5 (by omega) (by omega)
            simp only [rangeAt, List.getElem?_cons_zero, List.getElem?_cons_succ] at e0 e1 e2 e3 e4 e5
            refine ⟨hg, hd, ?_, ?_, ?_, ?_, ?_, ?_, by omega⟩
            · clear e1 e2 e3 e4 e5; split at e0; cases e0; split at e0; cases e0; omega
            · clear e0 e2 e3 e4 e5; split at e1; cases e1; split at e1; cases e1; omega
            · clear e1 e0 e3 e4 e5; split at e2; cases e2; split at e2; cases e2; omega
            · clear e1 e2 e0 e4 e5; split at e3; cases e3; split at e3; cases e3; omega
            · clear e1 e2 e3 e0 e5; split at e4; cases e4; split at e4; cases e4; omega
            · clear e1 e2 e3 e4 e0; split at e5; cases e5; split at e5; cases e5; omega
    · cases h0
  · cases h
theorem setFault_ok' {l : List STask} (h : (setFault l).Code = 0) : setFault l = ⟨0, 0⟩ := by
  unfold setFault at h ⊢
  split at h
  · rename_i hl
    rw [if_pos hl]
    cases hf : firstOf (wrongAt l) l.length 0 with
    | none => rfl
    | some r =>
      rw [hf] at h
      obtain ⟨j, _, hj, hg, _⟩ := firstOf_some hf
      simp only [Option.getD_some] at h
      exfalso
      unfold wrongAt at hg
      rw [List.getElem?_eq_getElem hj] at hg
      simp only at hg
      split at hg
      · split at hg
        · cases hg; cases h
        · split at hg
          · rename_i r' hr'
            cases hg
            obtain ⟨q, _, hq, hg2, _⟩ := firstOf_some hr'
            unfold rangeAt at hg2
            repeat' split at hg2
            all_goals first | cases hg2; done | (cases hg2; cases h)
          · split at hg
            · cases hg; cases h
            · cases hg
      · cases hg; cases h
  · cases h
/-- what a task of a set is -/
structure Okt (t : STask) : Prop where
  C : 1 ≤ t.C ∧ t.C ≤ 10000
  T : 1 ≤ t.T ∧ t.T ≤ 10000
  D : 1 ≤ t.D ∧ t.D ≤ 10000
  J : 0 ≤ t.J ∧ t.J ≤ 10000
  O : 0 ≤ t.O ∧ t.O ≤ 10000
  P : 0 ≤ t.P ∧ t.P ≤ 1000
  CD : t.C ≤ t.D
theorem okt_of {l : List STask} (h : (setFault l).Code = 0) : ∀ t ∈ l, Okt t := fun t ht => by
  obtain ⟨i, hi⟩ := List.mem_iff_getElem?.1 ht
  obtain ⟨_, _, h⟩ := setFault_ok h
  obtain ⟨_, _, h1, h2, h3, h4, h5, h6, h7⟩ := h i t hi
  exact ⟨h1, h2, h3, h4, h5, h6, h7⟩
/-- a over b, rounded up -/
def ceilD (a b : Int) : Int := (a + b - 1) / b
theorem ceilD_mono {a a' b : Int} (hb : 1 ≤ b) (h : a ≤ a') : ceilD a b ≤ ceilD a' b := Int.ediv_le_ediv (by omega) (by omega)
theorem ceilD_nonneg {a b : Int} (hb : 1 ≤ b) (h : 0 ≤ a) : 0 ≤ ceilD a b := Int.ediv_nonneg (by omega) (by omega)
theorem ceilD_le {a b : Int} (hb : 1 ≤ b) (h : 0 ≤ a) : ceilD a b ≤ a := by
  unfold ceilD
  rw [← Int.lt_add_one_iff]
  apply Int.ediv_lt_of_lt_mul (by omega)
  have : a * 1 ≤ a * b := Int.mul_le_mul_of_nonneg_left hb h
  rw [Int.add_mul]
  omega
theorem ceil_eq {a b : Int} (ha : 0 ≤ a ∧ a ≤ 100000) (hb : 1 ≤ b ∧ b ≤ 100000) : fixed_ceil.f a b = some (ceilD a b) := by
  unfold fixed_ceil.f
  rw [if_neg (by omega), wrap64_small (n := a + b) (by omega) (by omega), wrap64_small (n := a + b - 1) (by omega) (by omega), Int.tdiv_eq_ediv_of_nonneg (by omega)]
  have h1 := ceilD_nonneg hb.1 ha.1
  have h2 := ceilD_le hb.1 ha.1
  show some (IntKind.i64.wrap (ceilD a b)) = _
  rw [wrap64_small (by omega) (by omega)]
theorem up_eq {a b : Int} (ha : 0 ≤ a ∧ a ≤ 100000) (hb : 1 ≤ b ∧ b ≤ 100000) : punctualref_up.f a b = some (ceilD a b) := by
  unfold punctualref_up.f
  rw [if_neg (by omega), Int.tdiv_eq_ediv_of_nonneg (by omega)]
  have h0 : 0 ≤ a / b := Int.ediv_nonneg ha.1 (by omega)
  have h1 : a / b ≤ a := Int.ediv_le_self b ha.1
  have h2 : a / b * b ≤ a := Int.ediv_mul_le a (by omega)
  have h2' : 0 ≤ a / b * b := Int.mul_nonneg h0 (by omega)
  rw [wrap64_small (n := a / b) (by omega) (by omega), wrap64_small (n := a / b * b) (by omega) (by omega), wrap64_small (n := a / b + 1) (by omega) (by omega)]
  have hm := Int.emod_add_mul_ediv a b
  have hm1 : 0 ≤ a % b := Int.emod_nonneg a (by omega)
  have hm2 : a % b < b := Int.emod_lt_of_pos a (by omega)
  rw [Int.mul_comm] at hm
  unfold ceilD
  by_cases h : a / b * b < a
  · rw [if_pos h]
    congr 1
    symm
    have e : a + b - 1 = (a % b - 1) + b * (a / b + 1) := by rw [Int.mul_add, Int.mul_comm b]; omega
    rw [e, Int.add_mul_ediv_left _ _ (by omega), Int.ediv_eq_zero_of_lt (by omega) (by omega)]
    omega
  · rw [if_neg h]
    congr 1
    symm
    have e : a + b - 1 = (b - 1) + b * (a / b) := by rw [Int.mul_comm b]; omega
    rw [e, Int.add_mul_ediv_left _ _ (by omega), Int.ediv_eq_zero_of_lt (by omega) (by omega)]
    omega
/-- what others want in so many ticks -/
def wants (os : List STask) (w : Int) : Int := (os.map fun o => ceilD (w + o.J) o.T * o.C).sum
def dem (t : STask) (b : Int) (os : List STask) (w : Int) : Int := t.C + b + wants os w
theorem wants_nil (w : Int) : wants [] w = 0 := rfl
theorem wants_cons (o : STask) (os : List STask) (w : Int) : wants (o :: os) w = ceilD (w + o.J) o.T * o.C + wants os w := by simp [wants]
theorem wants_append (os ps : List STask) (w : Int) : wants (os ++ ps) w = wants os w + wants ps w := by simp [wants]
theorem want_bounds {o : STask} (ho : Okt o) {w : Int} (hw : 0 ≤ w ∧ w ≤ 10000) : 0 ≤ ceilD (w + o.J) o.T * o.C ∧ ceilD (w + o.J) o.T * o.C ≤ 200000000 := by
  have := ho.C; have := ho.T; have := ho.J
  have h1 := ceilD_nonneg (a := w + o.J) (b := o.T) (by omega) (by omega)
  have h2 := ceilD_le (a := w + o.J) (b := o.T) (by omega) (by omega)
  refine ⟨Int.mul_nonneg h1 (by omega), ?_⟩
  calc ceilD (w + o.J) o.T * o.C ≤ 20000 * o.C := Int.mul_le_mul_of_nonneg_right (by omega) (by omega)
    _ ≤ 20000 * 10000 := Int.mul_le_mul_of_nonneg_left (by omega) (by omega)
    _ = 200000000 := by decide
theorem wants_bounds : ∀ {os : List STask}, (∀ o ∈ os, Okt o) → ∀ {w : Int}, (0 ≤ w ∧ w ≤ 10000) → 0 ≤ wants os w ∧ wants os w ≤ 200000000 * os.length
  | [], _, w, _ => by simp [wants_nil]
  | o :: os, h, w, hw => by
    have h1 := want_bounds (h o (by simp)) hw
    have h2 := wants_bounds (fun x hx => h x (List.mem_cons_of_mem _ hx)) hw
    rw [wants_cons, List.length_cons]
    omega
theorem wants_mono : ∀ {os : List STask}, (∀ o ∈ os, Okt o) → ∀ {w w' : Int}, w ≤ w' → wants os w ≤ wants os w'
  | [], _, w, w', _ => by simp [wants_nil]
  | o :: os, h, w, w', hw => by
    have ho := h o (by simp)
    have h2 := wants_mono (fun x hx => h x (List.mem_cons_of_mem _ hx)) hw
    have h1 : ceilD (w + o.J) o.T * o.C ≤ ceilD (w' + o.J) o.T * o.C := Int.mul_le_mul_of_nonneg_right (ceilD_mono ho.T.1 (by omega)) (by have := ho.C; omega)
    rw [wants_cons, wants_cons]
    omega
/-- the least n, 1 at least, in which all is done that is wanted; 0: there is none up to most -/
def settled (f : Int → Int) (most : Int) : Int := match firstOf (fun n : Nat => if f n ≤ n then some (n : Int) else none) (most.toNat + 1) 1 with
  | some n => n
  | none => 0
theorem settled_some {f : Int → Int} {most : Int} {j : Nat} (h : firstOf (fun n : Nat => if f n ≤ n then some (n : Int) else none) (most.toNat + 1) 1 = some (j : Int)) : settled f most = j := by unfold settled; rw [h]
theorem settled_none {f : Int → Int} {most : Int} (h : firstOf (fun n : Nat => if f n ≤ n then some (n : Int) else none) (most.toNat + 1) 1 = none) : settled f most = 0 := by unfold settled; rw [h]
theorem settled_pos {f : Int → Int} {most : Int} (h : settled f most ≠ 0) : 1 ≤ settled f most ∧ settled f most ≤ most ∧ f (settled f most) ≤ settled f most ∧ ∀ n : Int, 1 ≤ n → n < settled f most → n < f n := by
  cases hf : firstOf (fun n : Nat => if f n ≤ n then some (n : Int) else none) (most.toNat + 1) 1 with
  | none => exact absurd (settled_none hf) h
  | some r =>
    obtain ⟨j, h1, h2, h3, h4⟩ := firstOf_some hf
    split at h3
    · cases h3
      rw [settled_some hf]
      refine ⟨by omega, by omega, by assumption, fun n hn1 hn2 => ?_⟩
      have := h4 n.toNat (by omega) (by omega)
      have e : ((n.toNat : Nat) : Int) = n := Int.toNat_of_nonneg (by omega)
      simp only [e] at this
      split at this
      · cases this
      · omega
    · cases h3
theorem settled_zero {f : Int → Int} {most : Int} (h : settled f most = 0) : ∀ n : Int, 1 ≤ n → n ≤ most → n < f n := by
  cases hf : firstOf (fun n : Nat => if f n ≤ n then some (n : Int) else none) (most.toNat + 1) 1 with
  | some r =>
    obtain ⟨j, h1, h2, h3, h4⟩ := firstOf_some hf
    split at h3
    · cases h3; rw [settled_some hf] at h; omega
    · cases h3
  | none =>
    intro n h1 h2
    have := firstOf_none hf n.toNat (by omega) (by omega)
    have e : ((n.toNat : Nat) : Int) = n := Int.toNat_of_nonneg (by omega)
    simp only [e] at this
    split at this
    · cases this
    · omega
theorem settled_eq {f : Int → Int} {most w : Int} (h1 : 1 ≤ w) (h2 : w ≤ most) (h3 : f w ≤ w) (h4 : ∀ n : Int, 1 ≤ n → n < w → n < f n) : settled f most = w := by
  by_cases h : settled f most = 0
  · have := settled_zero h w h1 h2; omega
  · obtain ⟨g1, g2, g3, g4⟩ := settled_pos h
    rcases Int.lt_trichotomy (settled f most) w with hl | hl | hl
    · have := h4 _ g1 hl; omega
    · exact hl
    · have := g4 _ h1 hl; omega
theorem settled_eq_zero {f : Int → Int} {most : Int} (h : ∀ n : Int, 1 ≤ n → n ≤ most → n < f n) : settled f most = 0 := by
  apply Decidable.byContradiction
  intro hne
  obtain ⟨g1, g2, g3, g4⟩ := settled_pos hne
  have := h _ g1 g2
  omega
theorem demand_eq (t : STask) (b : Int) (os : List STask) (w : Int) (ht : Okt t) (hb : 0 ≤ b ∧ b ≤ 10000) (ho : ∀ o ∈ os, Okt o) (hl : os.length ≤ 8) (hw : 0 ≤ w ∧ w ≤ 10000) (K : Nat) (hK : 9 ≤ K) : fixed_response_1.f K w t b os = some (dem t b os w) := by
  unfold fixed_response_1.f
  have hC := ht.C
  have hr := iter_states (ρ := Int) (f := fixed_response_1.r0 w os) (fun i => (t.C + b + wants (os.take i) w, i)) (fun _ => none) os.length (t := dem t b os w) (fun i hi _ => by
    have hi' : (i : Int) < (os.length : Int) := by omega
    have hoi := ho os[i] (List.getElem_mem hi)
    have hT := hoi.T; have hJ := hoi.J
    have hwb := want_bounds hoi hw
    have hs := wants_bounds (os := os.take i) (fun o h => ho o (List.mem_of_mem_take h)) hw
    have hlen : (os.take i).length ≤ 8 := by simp; omega
    simp only [fixed_response_1.r0, if_pos hi', List.getElem?_eq_getElem hi]
    rw [wrap64_small (n := w + os[i].J) (by omega) (by omega), ceil_eq (by omega) (by omega)]
    simp only [onwardS]
    rw [wrap64_small (n := ceilD (w + os[i].J) os[i].T * os[i].C) (by omega) (by omega), wrap64_small (by omega) (by omega)]
    congr 3
    rw [List.take_succ_eq_append_getElem hi, wants_append, wants_cons, wants_nil]
    omega) (fun _ => by simp [fixed_response_1.r0, dem]) (K := K) (by omega)
  have h0 : t.C + b + wants (os.take 0) w = t.C + b := by simp [wants_nil]
  rw [h0] at hr
  rw [wrap64_small (by omega) (by omega), hr, firstOf_none_of (fun _ _ _ => rfl)]
  rfl
theorem dem_mono {t : STask} {b : Int} {os : List STask} (ho : ∀ o ∈ os, Okt o) {w w' : Int} (h : w ≤ w') : dem t b os w ≤ dem t b os w' := by
  have := wants_mono ho h
  unfold dem; omega
theorem settle_eq (t : STask) (b : Int) (os : List STask) (ht : Okt t) (hb : 0 ≤ b ∧ b ≤ 10000) (ho : ∀ o ∈ os, Okt o) (hl : os.length ≤ 8) (most : Int) (hm : most ≤ 10000) (K : Nat) (hK : 20100 ≤ K) : fixed_Settle.f K (t.C + b) most t b os = some (settled (dem t b os) most) := by
  unfold fixed_Settle.f
  have hC := ht.C
  obtain ⟨r, hr, hR⟩ := iter_total (f := fixed_Settle.r0 K most t b os) (fun w => t.C + b ≤ w ∧ w ≤ 1600000000 + 20000 ∧ ∀ n : Int, 1 ≤ n → n < w → n < dem t b os n) (fun w => (10001 - w).toNat)
    (fun r => r = if settled (dem t b os) most = 0 then .inl () else .inr (settled (dem t b os) most)) (fun w hI => by
      obtain ⟨h1, h2, h3⟩ := hI
      by_cases hw : w ≤ most
      · have hd := demand_eq t b os w ht hb ho hl ⟨by omega, by omega⟩ K (by omega)
        simp only [fixed_Settle.r0, if_pos hw, hd]
        by_cases hle : dem t b os w ≤ w
        · right
          have hs := settled_eq (f := dem t b os) (most := most) (by omega) hw hle h3
          refine ⟨_, by rw [if_pos hle], ?_⟩
          rw [hs, if_neg (by omega)]
        · left
          have hwb := wants_bounds ho (w := w) ⟨by omega, by omega⟩
          refine ⟨_, by rw [if_neg hle], ⟨by unfold dem; omega, by unfold dem; omega, fun n hn1 hn2 => ?_⟩, by omega⟩
          by_cases hnw : n < w
          · exact h3 n hn1 hnw
          · have := dem_mono (t := t) (b := b) ho (w := w) (w' := n) (by omega)
            omega
      · right
        refine ⟨.inl (), by simp only [fixed_Settle.r0, if_neg hw], ?_⟩
        rw [settled_eq_zero (fun n h1 h2 => h3 n h1 (by omega)), if_pos rfl]) K (t.C + b) ⟨Int.le_refl _, by omega, fun n h1 h2 => by
          by_cases hn : n ≤ 10000
          · have := wants_bounds ho (w := n) ⟨by omega, hn⟩
            unfold dem; omega
          · have := wants_mono ho (w := 10000) (w' := n) (by omega)
            have := wants_bounds ho (w := 10000) ⟨by omega, by omega⟩
            unfold dem; omega⟩ (by omega)
  rw [hr, hR]
  by_cases h : settled (dem t b os) most = 0
  · rw [if_pos h, h]
  · rw [if_neg h]
/-- how long a task takes; 0: too long -/
def respond (t : STask) (os : List STask) (b : Int) : Int := if settled (dem t b os) (t.D - t.J) = 0 then 0 else settled (dem t b os) (t.D - t.J) + t.J
theorem response_eq (t : STask) (b : Int) (os : List STask) (ht : Okt t) (hb : 0 ≤ b ∧ b ≤ 10000) (ho : ∀ o ∈ os, Okt o) (hl : os.length ≤ 8) (K : Nat) (hK : 20100 ≤ K) : fixed_response.f K t os b = some (respond t os b) := by
  have hC := ht.C; have hD := ht.D; have hJ := ht.J
  unfold fixed_response.f
  rw [wrap64_small (n := t.C + b) (by omega) (by omega), wrap64_small (n := t.D - t.J) (by omega) (by omega), settle_eq t b os ht hb ho hl _ (by omega) K hK]
  simp only
  unfold respond
  by_cases h : settled (dem t b os) (t.D - t.J) = 0
  · rw [if_pos h, if_pos h]
  · rw [if_neg h, if_neg h]
    have := settled_pos h
    rw [wrap64_small (by omega) (by omega)]
theorem worst_eq (t : STask) (b : Int) (os : List STask) (ht : Okt t) (hb : 0 ≤ b ∧ b ≤ 10000) (ho : ∀ o ∈ os, Okt o) (hl : os.length ≤ 8) (K : Nat) (hK : 20100 ≤ K) : punctualref_AtWorst.f K t os b = some (respond t os b) := by
  have hC := ht.C; have hD := ht.D; have hJ := ht.J
  unfold punctualref_AtWorst.f
  obtain ⟨r, hr, hR⟩ := iter_total (f := punctualref_AtWorst.r0 K t os b) (fun w => 1 ≤ w ∧ w ≤ 10001 ∧ ∀ n : Int, 1 ≤ n → n < w → n < dem t b os n) (fun w => (10001 - w).toNat)
    (fun r => r = if settled (dem t b os) (t.D - t.J) = 0 then .inl () else .inr (settled (dem t b os) (t.D - t.J) + t.J)) (fun w hI => by
      obtain ⟨h1, h2, h3⟩ := hI
      have e1 : IntKind.i64.wrap (w + t.J) = w + t.J := wrap64_small (by omega) (by omega)
      simp only [punctualref_AtWorst.r0, e1]
      by_cases hw : w + t.J ≤ t.D
      · rw [if_pos hw]
        have hin := iter_states (ρ := Int) (f := punctualref_AtWorst.r1 os w) (fun i => (t.C + b + wants (os.take i) w, i)) (fun _ => none) os.length (t := dem t b os w) (fun i hi _ => by
          have hi' : (i : Int) < (os.length : Int) := by omega
          have hoi := ho os[i] (List.getElem_mem hi)
          have hT := hoi.T; have hJ := hoi.J
          have hw0 : 0 ≤ w ∧ w ≤ 10000 := ⟨by omega, by omega⟩
          have hwb := want_bounds hoi hw0
          have hs := wants_bounds (os := os.take i) (fun o h => ho o (List.mem_of_mem_take h)) hw0
          have hlen : (os.take i).length ≤ 8 := by simp; omega
          simp only [punctualref_AtWorst.r1, if_pos hi', List.getElem?_eq_getElem hi]
          rw [wrap64_small (n := w + os[i].J) (by omega) (by omega), up_eq (by omega) (by omega)]
          simp only [onwardS]
          rw [wrap64_small (n := ceilD (w + os[i].J) os[i].T * os[i].C) (by omega) (by omega), wrap64_small (by omega) (by omega)]
          congr 3
          rw [List.take_succ_eq_append_getElem hi, wants_append, wants_cons, wants_nil]
          omega) (fun _ => by simp [punctualref_AtWorst.r1, dem]) (K := K) (by omega)
        have h0 : t.C + b + wants (os.take 0) w = t.C + b := by simp [wants_nil]
        rw [h0, firstOf_none_of (fun _ _ _ => rfl)] at hin
        rw [wrap64_small (n := t.C + b) (by omega) (by omega), hin]
        simp only [leave]
        have hge : w ≤ dem t b os w := by
          by_cases hw1 : w = 1
          · have := wants_bounds ho (w := w) ⟨by omega, by omega⟩
            unfold dem; omega
          · have := h3 (w - 1) (by omega) (by omega)
            have := dem_mono (t := t) (b := b) ho (w := w - 1) (w' := w) (by omega)
            omega
        by_cases hle : dem t b os w = w
        · right
          have hs := settled_eq (f := dem t b os) (most := t.D - t.J) (by omega) (by omega) (by omega) h3
          refine ⟨_, by rw [if_pos hle], ?_⟩
          rw [hs, if_neg (by omega)]
        · left
          refine ⟨_, by rw [if_neg hle, wrap64_small (by omega) (by omega)], ⟨by omega, by omega, fun n hn1 hn2 => ?_⟩, by omega⟩
          by_cases hnw : n < w
          · exact h3 n hn1 hnw
          · have : n = w := by omega
            subst this
            omega
      · right
        refine ⟨.inl (), by rw [if_neg hw], ?_⟩
        rw [settled_eq_zero (fun n h1 h2 => h3 n h1 (by omega)), if_pos rfl]) K 1 ⟨by omega, by omega, fun n h1 h2 => by omega⟩ (by omega)
  rw [hr, hR]
  unfold respond
  by_cases h : settled (dem t b os) (t.D - t.J) = 0
  · rw [if_pos h, if_pos h]
  · rw [if_neg h, if_neg h]
/-- what is wrong with a set whose tasks must be done ere they come again -/
noncomputable def fixedFault (l : List STask) : SFault :=
  if (setFault l).Code = 0 then (firstOf (fun i => match l[i]? with | some t => if t.D > t.T then some ⟨12, (i : Int)⟩ else none | none => none) l.length 0).getD ⟨0, 0⟩ else setFault l
theorem fixedFault_ok {l : List STask} (h : (fixedFault l).Code = 0) : (setFault l).Code = 0 ∧ fixedFault l = ⟨0, 0⟩ ∧ ∀ t ∈ l, t.D ≤ t.T := by
  unfold fixedFault at h ⊢
  split at h
  · rename_i hs
    cases hf : firstOf (fun i => match l[i]? with | some t => if t.D > t.T then some (⟨12, (i : Int)⟩ : SFault) else none | none => none) l.length 0 with
    | none =>
      refine ⟨hs, by rw [if_pos hs]; rfl, fun t ht => ?_⟩
      obtain ⟨i, hi⟩ := List.mem_iff_getElem?.1 ht
      have := firstOf_none hf i (Nat.zero_le _) (lt_of_get hi)
      simp only [hi] at this
      split at this
      · cases this
      · omega
    | some r =>
      rw [hf] at h
      obtain ⟨j, _, hj, hg, _⟩ := firstOf_some hf
      simp only [Option.getD_some] at h
      exfalso
      split at hg
      · split at hg
        · cases hg; cases h
        · cases hg
      · cases hg
  · contradiction
theorem check_eq (l : List STask) (K : Nat) (hK : 20 ≤ K) : fixed_check.f K l = some (fixedFault l) := by
  unfold fixed_check.f fixedFault
  rw [Check_eq l K hK]
  simp only
  by_cases h : (setFault l).Code = 0
  · rw [if_pos h, if_pos h]
    have hl := (setFault_ok h).2.1
    have hr := iter_first0 (f := fixed_check.r0 l) (fun i => match l[i]? with | some t => if t.D > t.T then some ⟨12, (i : Int)⟩ else none | none => none) l.length (t := ()) (fun i hi => by
      have hi' : (i : Int) < (l.length : Int) := by omega
      simp only [fixed_check.r0, if_pos hi', List.getElem?_eq_getElem hi]
      split <;> rfl) (by simp [fixed_check.r0]) (K := K) (by omega)
    rw [hr]
    cases firstOf (fun i => match l[i]? with | some t => if t.D > t.T then some (⟨12, (i : Int)⟩ : SFault) else none | none => none) l.length 0 <;> rfl
  · rw [if_neg h, if_neg h]
theorem CheckFixed_eq (l : List STask) (hl : ∀ t ∈ l, Ok.ok t) (K : Nat) (hK : 20 ≤ K) (hs : ∀ t ∈ l, t.Name.size < K) : punctualref_CheckFixed.f K l = some (fixedFault l) := by
  rw [← check_eq l K hK]
  unfold punctualref_CheckFixed.f fixed_check.f
  rw [CheckSet_eq l hl K hK hs, Check_eq l K hK]
  rfl
/-- those that go ahead of task i, up to place n -/
def aboveTill (l : List STask) (i : Nat) (n : Nat) : List STask := (List.range n).filterMap fun k => match l[k]?, l[i]? with
  | some a, some b => if k ≠ i ∧ a.P ≥ b.P then some a else none
  | _, _ => none
abbrev aboveOf (l : List STask) (i : Nat) : List STask := aboveTill l i l.length
theorem aboveTill_len (l : List STask) (i n : Nat) : (aboveTill l i n).length ≤ n := by
  unfold aboveTill
  exact Nat.le_trans (List.length_filterMap_le _ _) (by simp)
theorem aboveTill_mem {l : List STask} {i n : Nat} {a : STask} (h : a ∈ aboveTill l i n) : a ∈ l := by
  unfold aboveTill at h
  obtain ⟨k, _, hk⟩ := List.mem_filterMap.1 h
  split at hk
  · rename_i x y hx hy
    split at hk
    · cases hk; exact List.mem_of_getElem? hx
    · cases hk
  · cases hk
theorem aboveTill_succ {l : List STask} {i n : Nat} {a b : STask} (ha : l[n]? = some a) (hb : l[i]? = some b) : aboveTill l i (n + 1) = aboveTill l i n ++ (if n ≠ i ∧ a.P ≥ b.P then [a] else []) := by
  unfold aboveTill
  rw [List.range_succ, List.filterMap_append]
  congr 1
  simp only [List.filterMap_cons, List.filterMap_nil, ha, hb]
  split <;> rename_i h <;> split at h <;> simp_all
theorem above_eq (l : List STask) (i : Nat) (hi : i < l.length) (hl : l.length ≤ 8) (K : Nat) (hK : 9 ≤ K) : fixed_above.f K l (i : Int) = some (aboveOf l i) := by
  unfold fixed_above.f
  have hr := iter_states (ρ := List STask) (f := fixed_above.r0 l (i : Int)) (fun k => (aboveTill l i k, k)) (fun _ => none) l.length (t := aboveOf l i) (fun k hk _ => by
    have hk' : (k : Int) < (l.length : Int) := by omega
    have hlen := aboveTill_len l i k
    rw [aboveTill_succ (List.getElem?_eq_getElem hk) (List.getElem?_eq_getElem hi)]
    simp only [fixed_above.r0, if_pos hk', List.getElem?_eq_getElem hk, Int.toNat_natCast, List.getElem?_eq_getElem hi, onwardS]
    by_cases h1 : (k : Int) = (i : Int)
    · rw [if_pos h1, if_neg (by omega), List.append_nil]
    · rw [if_neg h1, if_pos (by omega)]
      by_cases h2 : l[k].P ≥ l[i].P
      · rw [if_pos h2, if_pos (by omega), if_pos ⟨by omega, h2⟩]
      · rw [if_neg h2, if_neg (fun h => h2 h.2), List.append_nil]) (fun _ => by simp [fixed_above.r0]) (K := K) (by omega)
  have h0 : aboveTill l i 0 = [] := rfl
  rw [h0, firstOf_none_of (fun _ _ _ => rfl)] at hr
  rw [hr]; rfl
/-- how long task i of a set takes at worst -/
noncomputable def respOf (l : List STask) (i b : Int) : Int × SFault :=
  if (fixedFault l).Code = 0 then
    (if i < 0 ∨ i ≥ (l.length : Int) ∨ b < 0 ∨ b > 10000 then (0, ⟨3, 0⟩)
    else match l[i.toNat]? with
      | none => (0, ⟨3, 0⟩)
      | some t => if respond t (aboveOf l i.toNat) b = 0 then (0, ⟨13, i⟩) else (respond t (aboveOf l i.toNat) b, ⟨0, 0⟩))
  else (0, fixedFault l)
theorem Response_eq (l : List STask) (i b : Int) (K : Nat) (hK : 20100 ≤ K) : fixed_Response.f K l i b = some (respOf l i b) := by
  unfold fixed_Response.f respOf
  rw [check_eq l K (by omega)]
  simp only
  by_cases hc : (fixedFault l).Code = 0
  · rw [if_pos hc, if_pos hc]
    have hs := (fixedFault_ok hc).1
    have hl := (setFault_ok hs).2.1
    have hp : fixed_Response.p0 l i b = some (.inl (decide (i < 0 ∨ i ≥ (l.length : Int) ∨ b < 0 ∨ b > 10000))) := by
      unfold fixed_Response.p0
      by_cases h1 : i < 0
      · rw [if_pos h1, decide_eq_true (.inl h1)]
      rw [if_neg h1]
      by_cases h2 : i ≥ (l.length : Int)
      · rw [if_pos h2, decide_eq_true (.inr (.inl h2))]
      rw [if_neg h2]
      by_cases h3 : b < 0
      · rw [if_pos h3, decide_eq_true (.inr (.inr (.inl h3)))]
      rw [if_neg h3]
      congr 2
      rw [Bool.eq_iff_iff, decide_eq_true_eq, decide_eq_true_eq]
      omega
    simp only [hp, decide_eq_true_eq]
    by_cases hbad : i < 0 ∨ i ≥ (l.length : Int) ∨ b < 0 ∨ b > 10000
    · rw [if_pos hbad, if_pos hbad]
    · rw [if_neg hbad, if_neg hbad, if_pos (by omega)]
      have hi : i.toNat < l.length := by omega
      have hcast : ((i.toNat : Nat) : Int) = i := Int.toNat_of_nonneg (by omega)
      have ha := above_eq l i.toNat hi hl K (by omega)
      rw [hcast] at ha
      have hok := okt_of hs
      have hlen := aboveTill_len l i.toNat l.length
      simp only [List.getElem?_eq_getElem hi, ha, response_eq _ b _ (hok _ (List.getElem_mem hi)) ⟨by omega, by omega⟩ (fun o ho => hok o (aboveTill_mem ho)) (Nat.le_trans hlen hl) K hK]
      split <;> rfl
  · rw [if_neg hc, if_neg hc]
theorem ResponseOf_eq (l : List STask) (hl : ∀ t ∈ l, Ok.ok t) (i b : Int) (K : Nat) (hK : 20100 ≤ K) (hs : ∀ t ∈ l, t.Name.size < K) : punctualref_ResponseOf.f K l i b = some (respOf l i b) := by
  unfold punctualref_ResponseOf.f respOf
  rw [CheckFixed_eq l hl K (by omega) hs]
  simp only
  by_cases hc : (fixedFault l).Code = 0
  · rw [if_pos hc, if_pos hc]
    have hs := (fixedFault_ok hc).1
    have hl := (setFault_ok hs).2.1
    have hp : punctualref_ResponseOf.p0 l i b = some (if i < 0 ∨ i ≥ (l.length : Int) ∨ b < 0 ∨ b > 10000 then .inr (0, ⟨3, 0⟩) else .inl ()) := by
      unfold punctualref_ResponseOf.p0
      by_cases h1 : i < 0
      · rw [if_pos h1, if_pos (.inl h1)]; rfl
      rw [if_neg h1]
      by_cases h2 : i ≥ (l.length : Int)
      · rw [if_pos h2, if_pos (.inr (.inl h2))]; rfl
      rw [if_neg h2]
      by_cases h3 : b < 0
      · rw [if_pos h3, if_pos (.inr (.inr (.inl h3)))]; rfl
      rw [if_neg h3]
      by_cases h4 : b > 10000
      · rw [if_pos h4, if_pos (.inr (.inr (.inr h4)))]; rfl
      rw [if_neg h4, if_neg (by omega)]
    simp only [hp]
    by_cases hbad : i < 0 ∨ i ≥ (l.length : Int) ∨ b < 0 ∨ b > 10000
    · simp only [if_pos hbad]
    · simp only [if_neg hbad]
      have hi : i.toNat < l.length := by omega
      obtain ⟨n, rfl⟩ := Int.eq_ofNat_of_zero_le (show 0 ≤ i by omega)
      simp only [Int.toNat_natCast] at hi ⊢
      have hr := iter_states (ρ := Int × SFault) (f := punctualref_ResponseOf.r1 l (n : Int)) (fun k => (aboveTill l n k, k)) (fun _ => none) l.length (t := aboveOf l n) (fun k hk _ => by
        have hk' : (k : Int) < (l.length : Int) := by omega
        have hlen := aboveTill_len l n k
        rw [aboveTill_succ (List.getElem?_eq_getElem hk) (List.getElem?_eq_getElem hi)]
        simp only [punctualref_ResponseOf.r1, if_pos hk', List.getElem?_eq_getElem hk, Int.toNat_natCast, List.getElem?_eq_getElem hi, onwardS]
        by_cases h1 : (k : Int) = (n : Int)
        · rw [if_pos h1, if_neg (by omega), List.append_nil]
        · rw [if_neg h1, if_pos (by omega)]
          by_cases h2 : l[k].P ≥ l[n].P
          · rw [if_pos h2, if_pos (by omega), if_pos ⟨by omega, h2⟩]
          · rw [if_neg h2, if_neg (fun h => h2 h.2), List.append_nil]) (fun _ => by simp [punctualref_ResponseOf.r1]) (K := K) (by omega)
      have h0 : aboveTill l n 0 = [] := rfl
      rw [h0, firstOf_none_of (fun _ _ _ => rfl)] at hr
      have hok := okt_of hs
      have hlen := aboveTill_len l n l.length
      simp only [hr, leave, if_pos (show (0 : Int) ≤ (n : Int) by omega), List.getElem?_eq_getElem hi, worst_eq _ b _ (hok _ (List.getElem_mem hi)) ⟨by omega, by omega⟩ (fun o ho => hok o (aboveTill_mem ho)) (Nat.le_trans hlen hl) K hK]
      split <;> rfl
  · rw [if_neg hc, if_neg hc]
/-- the first ones of what all take -/
noncomputable def respTill (l : List STask) (bs : List Int) (n : Nat) : List Int := (List.range n).map fun (i : Nat) => match bs[i]? with | some b => (respOf l (i : Int) b).1 | none => 0
noncomputable def respAt (l : List STask) (bs : List Int) (i : Nat) : Option SFault := match bs[i]? with | some b => if (respOf l (i : Int) b).2.Code = 0 then none else some (respOf l (i : Int) b).2 | none => none
noncomputable def respsOf (l : List STask) (bs : List Int) : List Int × SFault :=
  if (fixedFault l).Code = 0 then
    (if bs.length = l.length then
      (match firstOf (respAt l bs) l.length 0 with
      | some f => ([], f)
      | none => (respTill l bs l.length, ⟨0, 0⟩))
    else ([], ⟨2, 0⟩))
  else ([], fixedFault l)
theorem Responses_eq (l : List STask) (bs : List Int) (K : Nat) (hK : 20100 ≤ K) : fixed_Responses.f K l bs = some (respsOf l bs) := by
  unfold fixed_Responses.f respsOf
  rw [check_eq l K (by omega)]
  simp only
  by_cases hc : (fixedFault l).Code = 0
  · rw [if_pos hc, if_pos hc]
    have hl := (setFault_ok (fixedFault_ok hc).1).2.1
    by_cases hlen : (bs.length : Int) = (l.length : Int)
    · rw [if_pos hlen, if_pos (by omega)]
      have hr := iter_states (f := fixed_Responses.r0 K l bs) (fun k => (respTill l bs k, k)) (fun i => (respAt l bs i).map fun f => (([] : List Int), f)) l.length (t := respTill l bs l.length) (fun i hi _ => by
        have hi' : (i : Int) < (bs.length : Int) := by omega
        have hib : i < bs.length := by omega
        have hlt : (respTill l bs i).length < 17592186044416 := by simp [respTill]; omega
        simp only [fixed_Responses.r0, if_pos hi', List.getElem?_eq_getElem hib, Response_eq l _ _ K hK, respAt]
        by_cases h0 : (respOf l (i : Int) bs[i]).2.Code = 0
        · simp only [if_pos h0, if_pos hlt, Option.map_none, onwardS]
          congr 3
          unfold respTill
          rw [List.range_succ, List.map_append]
          congr 1
          simp only [List.map_cons, List.map_nil, List.getElem?_eq_getElem hib]
        · simp only [if_neg h0]; rfl) (fun _ => by simp [fixed_Responses.r0, hlen]) (K := K) (by omega)
      have h0 : respTill l bs 0 = [] := rfl
      rw [h0, firstOf_map] at hr
      rw [hr]
      cases firstOf (respAt l bs) l.length 0 <;> rfl
    · rw [if_neg hlen, if_neg (by omega)]
  · rw [if_neg hc, if_neg hc]
theorem ResponsesOf_eq (l : List STask) (bs : List Int) (ok : ∀ t ∈ l, Ok.ok t) (K : Nat) (hK : 20100 ≤ K) (hs : ∀ t ∈ l, t.Name.size < K) : punctualref_ResponsesOf.f K l bs = some (respsOf l bs) := by
  unfold punctualref_ResponsesOf.f respsOf
  rw [CheckFixed_eq l ok K (by omega) hs]
  simp only
  by_cases hc : (fixedFault l).Code = 0
  · rw [if_pos hc, if_pos hc]
    have hl := (setFault_ok (fixedFault_ok hc).1).2.1
    by_cases hlen : (bs.length : Int) = (l.length : Int)
    · rw [if_pos hlen, if_pos (by omega)]
      have hr := iter_states (f := punctualref_ResponsesOf.r0 K l bs) (fun k => (respTill l bs k, k)) (fun i => (respAt l bs i).map fun f => (([] : List Int), f)) l.length (t := respTill l bs l.length) (fun i hi _ => by
        have hi' : (i : Int) < (l.length : Int) := by omega
        have hib : i < bs.length := by omega
        have hlt : (respTill l bs i).length < 17592186044416 := by simp [respTill]; omega
        simp only [punctualref_ResponsesOf.r0, if_pos hi', List.getElem?_eq_getElem hib, ResponseOf_eq l ok _ _ K hK hs, respAt]
        by_cases h0 : (respOf l (i : Int) bs[i]).2.Code = 0
        · simp only [if_pos h0, if_pos hlt, Option.map_none, onwardS]
          congr 3
          unfold respTill
          rw [List.range_succ, List.map_append]
          congr 1
          simp only [List.map_cons, List.map_nil, List.getElem?_eq_getElem hib]
        · simp only [if_neg h0]; rfl) (fun _ => by simp [punctualref_ResponsesOf.r0]) (K := K) (by omega)
      have h0 : respTill l bs 0 = [] := rfl
      rw [h0, firstOf_map] at hr
      rw [hr]
      cases firstOf (respAt l bs) l.length 0 <;> rfl
    · rw [if_neg hlen, if_neg (by omega)]; rfl
  · rw [if_neg hc, if_neg hc]
theorem respsOf_len (l : List STask) (bs : List Int) : (respsOf l bs).1.length ≤ 8 := by
  unfold respsOf
  split
  · rename_i h
    have hl := (setFault_ok (fixedFault_ok h).1).2.1
    split
    · split
      · simp
      · simp [respTill]; exact hl
    · simp
  · simp
theorem respsOf_three : respsOf three.f [0, 0, 0] = ([1, 3, 10], ⟨0, 0⟩) := by
  have := Responses_eq three.f [0, 0, 0] 20100 (Nat.le_refl _)
  have h : fixed_Responses.f 20100 three.f [0, 0, 0] = some ([1, 3, 10], ⟨0, 0⟩) := by kernel_rfl
  rw [h] at this
  exact (Option.some.inj this).symm
theorem responds_true (K : Nat) (hK : 20100 ≤ K) : responds.f K = some true := by
  unfold responds.f
  rw [Responses_eq three.f [0, 0, 0] K hK, respsOf_three]
  simp only [if_true, punctualsame_Same_int_self _ K (show ([1, 3, 10] : List Int).length < K by simp; omega)]
theorem FixedResponds_law (l0 : List STask) (x1 x2 : Int) (l3 : List Int) (ok0 : ∀ y ∈ l0, Ok.ok y) (ok1 : In64 x1) (ok2 : In64 x2) (ok3 : ∀ y ∈ l3, Ok.ok y) : ∃ K, FixedResponds.f K l0 x1 x2 l3 = some true := by
  obtain ⟨B, hB⟩ := exists_bound (fun t : STask => t.Name.size) l0
  refine ⟨B + 20100, ?_⟩
  have hK : 20100 ≤ B + 20100 := by omega
  have hs : ∀ t ∈ l0, t.Name.size < B + 20100 := fun t ht => by have := hB t ht; omega
  unfold FixedResponds.f
  simp only [responds_true _ hK, if_true]
  by_cases hf : few.f (l0.length : Int) = true ∧ few.f (l3.length : Int) = true
  · obtain ⟨f0, f3⟩ := hf
    have hp0 : FixedResponds.p0 l0 l3 = some (.inl ()) := by unfold FixedResponds.p0; rw [if_pos f0, if_pos f3]
    have g0 := few_true f0
    have g3 := few_true f3
    obtain ⟨r0, e0⟩ := punctualsame_Lend_api_Task_some l0 ⟨⟨#[63]⟩, (-9), 0, 0, 0, 0, 0⟩ g0
    obtain ⟨r3, e3⟩ := punctualsame_Lend_int_some l3 (-9) g3
    have hlen := respsOf_len l0 l3
    simp only [hp0, e0, e3, Response_eq l0 x1 x2 _ hK, ResponseOf_eq l0 ok0 x1 x2 _ hK hs, Responses_eq l0 l3 _ hK, ResponsesOf_eq l0 l3 ok0 _ hK hs, SFault.eqb_self, if_true,
      punctualsame_Same_int_self _ (B + 20100) (show (respsOf l0 l3).1.length < B + 20100 by omega), punctualsame_Still_api_Task_true l0 _ (B + 20100) g0 (by omega), punctualsame_Still_int_true l3 _ (B + 20100) g3 (by omega)]
  · have hp0 : FixedResponds.p0 l0 l3 = some (.inr true) := by
      unfold FixedResponds.p0
      repeat' split
      all_goals first | rfl | (exfalso; exact hf ⟨by assumption, by assumption⟩)
    simp only [hp0]
end Go.Proofs.YtlipdmblinjjaaaDoor.GV
