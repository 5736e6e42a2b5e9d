/- Plain words: GvLFixedRanks. -/
import Derived.Test.YtlipdmblinjjaaaDoorGWFixedRanks6
import Derived.Test.YtlipdmblinjjaaaDoorGv17
namespace Go.Proofs.YtlipdmblinjjaaaDoor.GV
open Go Go.RowKit
set_option linter.unusedVariables false
set_option linter.unusedSimpArgs false
theorem STask.eqb_self (x : STask) : STask.eqb x x = true := by simp [STask.eqb]
theorem SFault.eqb_self (x : SFault) : SFault.eqb x x = true := by simp [SFault.eqb]
theorem A6Int.eqb_self (x : A6Int) : A6Int.eqb x x = true := by simp [A6Int.eqb]
theorem punctualsame_Lend_api_Task_some (l : List STask) (a : STask) (h : l.length ≤ 5000) : ∃ r, punctualsame_Lend_api_Task.f l a = some r := by
  have hw : IntKind.i64.wrap ((l.length : Int) + 3) = (l.length : Int) + 3 := wrap64_small (by omega) (by omega)
  unfold punctualsame_Lend_api_Task.f
  rw [hw, if_pos (by omega), if_pos (by omega), if_pos (by simp; omega), if_pos (by simp; omega)]
  exact ⟨_, rfl⟩
theorem punctualsame_Lend_int_some (l : List Int) (a : Int) (h : l.length ≤ 5000) : ∃ r, punctualsame_Lend_int.f l a = some r := by
  have hw : IntKind.i64.wrap ((l.length : Int) + 3) = (l.length : Int) + 3 := wrap64_small (by omega) (by omega)
  unfold punctualsame_Lend_int.f
  rw [hw, if_pos (by omega), if_pos (by omega), if_pos (by simp; omega), if_pos (by simp; omega)]
  exact ⟨_, rfl⟩
theorem punctualsame_Still_api_Task_true (l : List STask) (a : STask) (K : Nat) (hl : l.length ≤ 5000) (hK : 5010 ≤ K) : punctualsame_Still_api_Task.f K (l ++ [a, a, a]) l a = some true := by
  have hw : IntKind.i64.wrap ((l.length : Int) + 3) = (l.length : Int) + 3 := wrap64_small (by omega) (by omega)
  have hr := iter_first0 (f := punctualsame_Still_api_Task.r0 (l ++ [a, a, a]) l a) (fun _ => none) (l.length + 3) (t := ()) (fun i hi => by
    have h' : (i : Int) < ((l ++ [a, a, a] : List STask).length : Int) := by simp; omega
    simp only [punctualsame_Still_api_Task.r0, if_pos h']
    by_cases h2 : i < l.length
    · have h2' : (i : Int) < (l.length : Int) := by omega
      have h3 : ¬ (i : Int) ≥ (l.length : Int) := by omega
      rw [List.getElem?_append_left h2, List.getElem?_eq_getElem h2]
      simp only [if_pos h2', STask.eqb_self, if_true, if_neg h3, onward]
    · have h2' : ¬ (i : Int) < (l.length : Int) := by omega
      have h3 : (i : Int) ≥ (l.length : Int) := by omega
      rw [List.getElem?_append_right (by omega)]
      have : i - l.length = 0 ∨ i - l.length = 1 ∨ i - l.length = 2 := by omega
      rcases this with e | e | e <;> simp [e, h2', h3, onward, STask.eqb_self]) (by
    have h' : ¬ ((l.length + 3 : Nat) : Int) < ((l ++ [a, a, a] : List STask).length : Int) := by simp
    simp only [punctualsame_Still_api_Task.r0, if_neg h']) (K := K) (by omega)
  rw [firstOf_none_of (fun _ _ _ => rfl)] at hr
  have hlen : IntKind.i64.wrap ((l.length : Int) + 3) = ((l ++ [a, a, a] : List STask).length : Int) := by rw [hw]; simp
  simp only [punctualsame_Still_api_Task.f, if_pos hlen, hr, leave]
theorem punctualsame_Still_int_true (l : List Int) (a : Int) (K : Nat) (hl : l.length ≤ 5000) (hK : 5010 ≤ K) : punctualsame_Still_int.f K (l ++ [a, a, a]) l a = some true := by
  have hw : IntKind.i64.wrap ((l.length : Int) + 3) = (l.length : Int) + 3 := wrap64_small (by omega) (by omega)
  have hr := iter_first0 (f := punctualsame_Still_int.r0 (l ++ [a, a, a]) l a) (fun _ => none) (l.length + 3) (t := ()) (fun i hi => by
    have h' : (i : Int) < ((l ++ [a, a, a] : List Int).length : Int) := by simp; omega
    simp only [punctualsame_Still_int.r0, if_pos h']
    by_cases h2 : i < l.length
    · have h2' : (i : Int) < (l.length : Int) := by omega
      have h3 : ¬ (i : Int) ≥ (l.length : Int) := by omega
      rw [List.getElem?_append_left h2, List.getElem?_eq_getElem h2]
      simp only [if_pos h2', if_true, if_neg h3, onward]
    · have h2' : ¬ (i : Int) < (l.length : Int) := by omega
      have h3 : (i : Int) ≥ (l.length : Int) := by omega
      rw [List.getElem?_append_right (by omega)]
      have : i - l.length = 0 ∨ i - l.length = 1 ∨ i - l.length = 2 := by omega
      rcases this with e | e | e <;> simp [e, h2', h3, onward]) (by
    have h' : ¬ ((l.length + 3 : Nat) : Int) < ((l ++ [a, a, a] : List Int).length : Int) := by simp
    simp only [punctualsame_Still_int.r0, if_neg h']) (K := K) (by omega)
  rw [firstOf_none_of (fun _ _ _ => rfl)] at hr
  have hlen : IntKind.i64.wrap ((l.length : Int) + 3) = ((l ++ [a, a, a] : List Int).length : Int) := by rw [hw]; simp
  simp only [punctualsame_Still_int.f, if_pos hlen, hr, leave]
theorem punctualsame_Same_api_Task_self (l : List STask) (K : Nat) (hK : l.length < K) : punctualsame_Same_api_Task.f K l l = some true := by
  have hr := iter_first0 (f := punctualsame_Same_api_Task.r0 l l) (fun _ => none) l.length (t := ()) (fun i hi => by
    have h' : (i : Int) < (l.length : Int) := by omega
    simp only [punctualsame_Same_api_Task.r0, if_pos h', List.getElem?_eq_getElem hi, if_true, STask.eqb_self, onward]) (by
    have h' : ¬ (l.length : Int) < (l.length : Int) := by omega
    simp only [punctualsame_Same_api_Task.r0, if_neg h']) hK
  rw [firstOf_none_of (fun _ _ _ => rfl)] at hr
  simp only [punctualsame_Same_api_Task.f, if_true, hr, leave]
theorem few_true {n : Nat} (h : few.f (n : Int) = true) : n ≤ 5000 := by
  simp only [few.f, decide_eq_true_eq] at h; omega
theorem few_false {n : Nat} (h : ¬ few.f (n : Int) = true) : 5000 < n := by
  simp only [few.f, decide_eq_true_eq] at h; omega
theorem exists_bound {α : Type} (f : α → Nat) : ∀ l : List α, ∃ B, ∀ x ∈ l, f x ≤ B
  | [] => ⟨0, by simp⟩
  | x :: l => by
    obtain ⟨B, h⟩ := exists_bound f l
    refine ⟨max (f x) B, fun y hy => ?_⟩
    rcases List.mem_cons.1 hy with rfl | hy
    · exact Nat.le_max_left _ _
    · exact Nat.le_trans (h y hy) (Nat.le_max_right _ _)
/-- a letter stands there -/
def letterAt (x : ByteArray) (i : Nat) : Bool := match x[i]? with | some b => decide (97 ≤ b.toNat) && decide (b.toNat ≤ 122) | none => false
def allL (x : ByteArray) (n : Nat) : Bool := (List.range n).all (letterAt x)
theorem allL_succ (x : ByteArray) (n : Nat) : allL x (n + 1) = (allL x n && letterAt x n) := by simp [allL, List.range_succ]
theorem allL_iff {x : ByteArray} {n : Nat} : allL x n = true ↔ ∀ i, i < n → letterAt x i = true := by simp [allL]
def Good (x : ByteArray) : Prop := 1 ≤ x.size ∧ x.size ≤ 10 ∧ allL x x.size = true
instance (x : ByteArray) : Decidable (Good x) := by unfold Good; infer_instance
theorem get!_of {x : ByteArray} {i : Nat} {b : UInt8} (h : x[i]? = some b) : x.get! i = b := by
  have hi : i < x.size := by
    rcases Nat.lt_or_ge i x.size with h' | h'
    · exact h'
    · rw [getElem?_neg x i (by omega)] at h; cases h
  rw [getElem?_pos x i hi] at h
  have := Option.some.inj h
  rw [← this]
  cases x with
  | mk bs => exact getElem!_pos bs i hi
theorem byte_some {x : ByteArray} {i : Nat} (h : i < x.size) : ∃ b, x[i]? = some b := ⟨x[i], getElem?_pos x i h⟩
theorem decode_letter {x : ByteArray} {i : Nat} (hi : i < x.size) (h : letterAt x i = true) : ∃ n : Nat, Utf8.decode x i = (n, 1) ∧ 97 ≤ n ∧ n ≤ 122 := by
  obtain ⟨b, hb⟩ := byte_some hi
  simp only [letterAt, hb, Bool.and_eq_true, decide_eq_true_eq] at h
  refine ⟨b.toNat, ?_, h⟩
  have := get!_of hb
  simp only [Utf8.decode, Nat.add_zero, this]
  rw [if_pos (by omega)]
theorem decode_other {x : ByteArray} {i : Nat} (hi : i < x.size) (h : letterAt x i = false) : (Utf8.decode x i).1 < 97 ∨ 122 < (Utf8.decode x i).1 := by
  obtain ⟨b, hb⟩ := byte_some hi
  simp only [letterAt, hb, Bool.and_eq_false_iff, decide_eq_false_iff_not] at h
  have := get!_of hb
  simp only [Utf8.decode, Nat.add_zero, this]
  have he : Utf8.runeError = 65533 := rfl
  repeat' split
  all_goals simp only [he, Bool.and_eq_true, decide_eq_true_eq, ge_iff_le] at *
  all_goals omega
theorem isName_eq (x : ByteArray) (K : Nat) (hK : 12 ≤ K) : tasks_isName.f K x = some (decide (Good x)) := by
  unfold tasks_isName.f
  by_cases h1 : (x.size : Int) < 1
  · rw [if_pos h1]; congr 1; symm; rw [decide_eq_false_iff_not]; intro h; have := h.1; omega
  rw [if_neg h1]
  by_cases h2 : (x.size : Int) > 10
  · rw [if_pos h2]; congr 1; symm; rw [decide_eq_false_iff_not]; intro h; have := h.2.1; omega
  rw [if_neg h2]
  have hr := iter_first0 (f := tasks_isName.r0 x) (fun i => if letterAt x i = true then none else some false) x.size (t := ()) (fun i hi => by
    simp only [tasks_isName.r0, if_pos hi]
    by_cases h : letterAt x i = true
    · obtain ⟨n, hd, ha, hb⟩ := decode_letter hi h
      simp only [hd, h, if_true]
      rw [if_neg (by omega), if_neg (by omega)]; rfl
    · simp only [h]
      rcases decode_other hi (by simpa using h) with h | h
      · rw [if_pos (by omega)]; simp [onward]
      · rw [if_neg (by omega), if_pos (by omega)]; simp [onward]) (by simp [tasks_isName.r0]) (K := K) (by omega)
  rw [hr]
  cases hf : firstOf (fun i => if letterAt x i = true then none else some false) x.size 0 with
  | none =>
    show some true = some _
    congr 1; symm
    rw [decide_eq_true_eq]
    refine ⟨by omega, by omega, allL_iff.2 fun i hi => ?_⟩
    have := firstOf_none hf i (Nat.zero_le _) hi
    split at this
    · assumption
    · cases this
  | some r =>
    obtain ⟨j, _, hj, hg, _⟩ := firstOf_some hf
    split at hg
    · cases hg
    · rename_i hn
      cases hg
      show some false = some _
      congr 1; symm
      rw [decide_eq_false_iff_not]
      intro h
      exact hn (allL_iff.1 h.2.2 j hj)
theorem refName_eq (e : STask) (hs : Ok.ok e) (K : Nat) (hK : e.Name.size < K) : ∃ q, punctualref_CheckSet.p2 e = some (.inl q) ∧ iter (punctualref_CheckSet.r3 e) K (q, 0) = some (.inl (decide (Good e.Name))) := by
  have hsm : e.Name.size ≤ 9223372036854775807 := hs.1
  have key : ∀ q : Bool, iter (punctualref_CheckSet.r3 e) K (q, 0) = some (.inl (q && allL e.Name e.Name.size)) := by
    intro q
    obtain ⟨r, hr, hR⟩ := iter_total (f := punctualref_CheckSet.r3 e) (fun s => 0 ≤ s.2 ∧ s.2 ≤ e.Name.size ∧ s.1 = (q && allL e.Name s.2.toNat)) (fun s => e.Name.size - s.2.toNat)
      (fun r => r = .inl (q && allL e.Name e.Name.size)) (fun s hI => by
        obtain ⟨p, z⟩ := s
        obtain ⟨h1, h2, h3⟩ := hI
        simp only at h1 h2 h3
        obtain ⟨n, rfl⟩ := Int.eq_ofNat_of_zero_le h1
        by_cases hz : (n : Int) < (e.Name.size : Int)
        · left
          have hn : n < e.Name.size := by omega
          obtain ⟨b, hb⟩ := byte_some hn
          have hw : IntKind.i64.wrap ((n : Int) + 1) = ((n + 1 : Nat) : Int) := by rw [wrap64_small (by omega) (by omega)]; rfl
          have hstep : punctualref_CheckSet.r3 e (p, (n : Int)) = some (.inl (p && letterAt e.Name n, ((n + 1 : Nat) : Int))) := by
            simp only [punctualref_CheckSet.r3, if_pos hz, hw, Int.toNat_natCast, hb, letterAt, if_pos h1]
            cases p with
            | false => simp
            | true =>
              simp only [if_true, Bool.true_and]
              by_cases ha : (b.toNat : Int) ≥ 97
              · rw [if_pos ha]
                have : (97 ≤ b.toNat) := by omega
                simp only [this, decide_true, Bool.true_and, Option.some.injEq, Sum.inl.injEq, Prod.mk.injEq, and_true]
                rw [Bool.eq_iff_iff, decide_eq_true_eq, decide_eq_true_eq]
                omega
              · rw [if_neg ha]
                have : ¬ (97 ≤ b.toNat) := by omega
                simp [this]
          refine ⟨_, hstep, ⟨by simp only; omega, by simp only; omega, ?_⟩, by simp only; omega⟩
          simp only [h3, Int.toNat_natCast]
          rw [allL_succ, Bool.and_assoc]
        · right
          obtain rfl : n = e.Name.size := by omega
          refine ⟨.inl p, by simp only [punctualref_CheckSet.r3, if_neg hz], ?_⟩
          rw [h3]
          rfl) K (q, 0) ⟨by simp, by simp, by simp [allL]⟩ (by simpa using hK)
    rw [hr, hR]
  unfold punctualref_CheckSet.p2
  by_cases h1 : (e.Name.size : Int) ≥ 1
  · rw [if_pos h1]
    refine ⟨_, rfl, ?_⟩
    rw [key]
    congr 2
    rw [Bool.eq_iff_iff]
    rw [Bool.and_eq_true, decide_eq_true_eq, decide_eq_true_eq]
    constructor
    · rintro ⟨ha, hb⟩; exact ⟨by omega, by omega, hb⟩
    · rintro ⟨ha, hb, hc⟩; exact ⟨by omega, hc⟩
  · rw [if_neg h1]
    refine ⟨_, rfl, ?_⟩
    rw [key]
    congr 2
    rw [Bool.false_and, eq_comm, decide_eq_false_iff_not]
    intro h; have := h.1; omega
/-- the first of those ahead that bears the name -/
def dupAt (l : List STask) (i : Nat) (t : STask) : Prop := ∃ j e, j < i ∧ l[j]? = some e ∧ e.Name.toList = t.Name.toList
noncomputable instance (l : List STask) (i : Nat) (t : STask) : Decidable (dupAt l i t) := Classical.propDecidable _
theorem takedrop {α : Type} (l : List α) (i : Nat) : (l.take i).drop 0 = l.take i := by simp
theorem contains_eq (l : List STask) (i : Nat) (hi : i < l.length) (t : STask) (K : Nat) (hK : i < K) : slices_ContainsFunc_api_Task_api_Task.f K ((l.take i).drop 0) t = some (decide (dupAt l i t)) := by
  rw [takedrop]
  have hlen : (l.take i).length = i := by simp; omega
  let g : Nat → Option Int := fun j => match l[j]? with | some e => if e.Name.toList = t.Name.toList then some (j : Int) else none | none => none
  have hr := iter_first0 (f := slices_IndexFunc_api_Task_api_Task.r0 (l.take i) t) g i (t := ()) (fun j hj => by
    have hj' : (j : Int) < ((l.take i).length : Int) := by omega
    have hjl : j < l.length := by omega
    simp only [slices_IndexFunc_api_Task_api_Task.r0, if_pos hj', List.getElem?_take, if_pos hj, List.getElem?_eq_getElem hjl, g, tasks_Check_1.f, beq_iff_eq]
    split <;> rfl) (by
    have : ¬ (i : Int) < ((l.take i).length : Int) := by omega
    simp only [slices_IndexFunc_api_Task_api_Task.r0, if_neg this]) (K := K) hK
  unfold slices_ContainsFunc_api_Task_api_Task.f slices_IndexFunc_api_Task_api_Task.f
  rw [hr]
  cases hf : firstOf g i 0 with
  | none =>
    show some (decide ((-1 : Int) ≥ 0)) = _
    congr 1
    have : ¬ dupAt l i t := by
      rintro ⟨j, e, hj, he, hn⟩
      have := firstOf_none hf j (Nat.zero_le _) hj
      simp only [g, he, if_pos hn] at this
      cases this
    simp [this]
  | some r =>
    show some (decide (r ≥ 0)) = _
    obtain ⟨j, _, hj, hg, _⟩ := firstOf_some hf
    have hjl : j < l.length := by omega
    simp only [g, List.getElem?_eq_getElem hjl] at hg
    split at hg
    · rename_i hn
      cases hg
      have : dupAt l i t := ⟨j, l[j], hj, List.getElem?_eq_getElem hjl, hn⟩
      simp [this]
    · cases hg
theorem refDup_eq (l : List STask) (i : Nat) (hi : i < l.length) (t : STask) (K : Nat) (hK : i < K) : iter (punctualref_CheckSet.r4 l i t) K 0 = some (if dupAt l i t then .inr ⟨5, (i : Int)⟩ else .inl ()) := by
  have hlen : ((l.take i).drop 0).length = i := by simp; omega
  let g : Nat → Option SFault := fun j => match l[j]? with | some e => if e.Name.toList = t.Name.toList then some ⟨5, (i : Int)⟩ else none | none => none
  have hr := iter_first0 (f := punctualref_CheckSet.r4 l i t) g i (t := ()) (fun j hj => by
    have hj' : (j : Int) < (((l.take i).drop 0).length : Int) := by omega
    have hjl : j < l.length := by omega
    simp only [punctualref_CheckSet.r4, if_pos hj']
    rw [takedrop]
    simp only [List.getElem?_take, if_pos hj, List.getElem?_eq_getElem hjl, g, punctualref_F.f]
    split <;> rfl) (by
    have : ¬ (i : Int) < (((l.take i).drop 0).length : Int) := by omega
    simp only [punctualref_CheckSet.r4, if_neg this]) (K := K) hK
  rw [hr]
  cases hf : firstOf g i 0 with
  | none =>
    have : ¬ dupAt l i t := by
      rintro ⟨j, e, hj, he, hn⟩
      have := firstOf_none hf j (Nat.zero_le _) hj
      simp only [g, he, if_pos hn] at this
      cases this
    simp [this, leave]
  | some r =>
    obtain ⟨j, _, hj, hg, _⟩ := firstOf_some hf
    have hjl : j < l.length := by omega
    simp only [g, List.getElem?_eq_getElem hjl] at hg
    split at hg
    · rename_i hn
      cases hg
      have : dupAt l i t := ⟨j, l[j], hj, List.getElem?_eq_getElem hjl, hn⟩
      simp [this, leave]
    · cases hg
theorem iter_succ {σ ρ : Type} (f : σ → Option (σ ⊕ ρ)) (K : Nat) (s : σ) : iter f (K + 1) s = match f s with | none => none | some (.inl s') => iter f K s' | some (.inr r) => some r := rfl
/-- a number lies out of its range -/
def rangeAt (i : Nat) (t : STask) (j : Nat) : Option SFault :=
  match ([t.C, t.T, t.D, t.J, t.O, t.P] : List Int)[j]? with
  | none => none
  | some v => match ([1, 1, 1, 0, 0, 0] : List Int)[j]? with
    | none => none
    | some a => if v < a then some ⟨3, (i : Int)⟩ else match ([10000, 10000, 10000, 10000, 10000, 1000] : List Int)[j]? with
      | none => none
      | some b => if v > b then some ⟨3, (i : Int)⟩ else none
theorem range_eq (i : Nat) (t : STask) (K : Nat) (hK : 7 ≤ K) : iter (tasks_Check.r2 i t) K 0 = some (leave () (firstOf (rangeAt i t) 6 0)) := by
  refine iter_first0 (f := tasks_Check.r2 i t) (rangeAt i t) 6 (t := ()) (fun j hj => ?_) (by simp [tasks_Check.r2, tasks_numbers.f]) (K := K) (by omega)
  have : j = 0 ∨ j = 1 ∨ j = 2 ∨ j = 3 ∨ j = 4 ∨ j = 5 := by omega
  rcases this with rfl | rfl | rfl | rfl | rfl | rfl <;> simp [tasks_Check.r2, tasks_numbers.f, tasks_bounds.f, rangeAt] <;> (repeat' split) <;> (try simp only [onward]) <;> first | rfl | contradiction | simp_all
theorem refRange_eq (i : Nat) (t : STask) (K : Nat) (hK : 7 ≤ K) : iter (punctualref_CheckSet.r5 i t) K 0 = some (leave () (firstOf (rangeAt i t) 6 0)) := by
  refine iter_first0 (f := punctualref_CheckSet.r5 i t) (rangeAt i t) 6 (t := ()) (fun j hj => ?_) (by simp [punctualref_CheckSet.r5]) (K := K) (by omega)
  have : j = 0 ∨ j = 1 ∨ j = 2 ∨ j = 3 ∨ j = 4 ∨ j = 5 := by omega
  rcases this with rfl | rfl | rfl | rfl | rfl | rfl <;> simp [punctualref_CheckSet.r5, punctualref_sixOf.f, punctualref_F.f, rangeAt] <;> (repeat' split) <;> (try simp only [onward]) <;> first | rfl | contradiction | simp_all
/-- what is wrong with the i-th task -/
noncomputable def wrongAt (l : List STask) (i : Nat) : Option SFault :=
  match l[i]? with
  | none => none
  | some t => if Good t.Name then (if dupAt l i t then some ⟨5, (i : Int)⟩ else match firstOf (rangeAt i t) 6 0 with | some r => some r | none => if t.C > t.D then some ⟨12, (i : Int)⟩ else none) else some ⟨4, (i : Int)⟩
/-- what is wrong with a set -/
noncomputable def setFault (l : List STask) : SFault := if 1 ≤ l.length ∧ l.length ≤ 8 then (firstOf (wrongAt l) l.length 0).getD ⟨0, 0⟩ else ⟨2, 0⟩
theorem Check_eq (l : List STask) (K : Nat) (hK : 20 ≤ K) : tasks_Check.f K l = some (setFault l) := by
  unfold tasks_Check.f tasks_Check.p0 setFault
  by_cases h1 : (l.length : Int) < 1
  · rw [if_pos h1, if_neg (by omega)]
  rw [if_neg h1]
  by_cases h2 : (l.length : Int) > 8
  · rw [if_pos h2, if_neg (by omega)]
  rw [if_neg h2, if_pos (by omega)]
  have hr := iter_first0 (f := tasks_Check.r1 K l) (wrongAt l) l.length (t := ()) (fun i hi => by
    have hi' : (i : Int) < (l.length : Int) := by omega
    have hle : i ≤ l.length := by omega
    simp only [tasks_Check.r1, if_pos hi', List.getElem?_eq_getElem hi, isName_eq _ K (by omega), contains_eq l i hi _ K (by omega), range_eq i _ K (by omega), wrongAt, if_pos hle, decide_eq_true_eq]
    by_cases hg : Good l[i].Name
    · simp only [if_pos hg]
      by_cases hd : dupAt l i l[i]
      · simp only [if_pos hd, onward]
      · simp only [if_neg hd]
        cases firstOf (rangeAt i l[i]) 6 0 with
        | some r => rfl
        | none =>
          simp only [leave]
          split <;> rfl
    · simp only [if_neg hg, onward]) (by simp [tasks_Check.r1]) (K := K) (by omega)
  simp only [hr]
  cases firstOf (wrongAt l) l.length 0 <;> rfl
theorem CheckSet_eq (l : List STask) (hl : ∀ t ∈ l, Ok.ok t) (K : Nat) (hK : 20 ≤ K) (hs : ∀ t ∈ l, t.Name.size < K) : punctualref_CheckSet.f K l = some (setFault l) := by
  unfold punctualref_CheckSet.f punctualref_CheckSet.p0 setFault
  by_cases h1 : (l.length : Int) = 0
  · rw [if_pos h1, if_neg (by omega)]; rfl
  rw [if_neg h1]
  by_cases h2 : (l.length : Int) > 8
  · rw [if_pos h2, if_neg (by omega)]; rfl
  rw [if_neg h2, if_pos (by omega)]
  have hr := iter_first0 (f := punctualref_CheckSet.r1 K l) (wrongAt l) l.length (t := ()) (fun i hi => by
    have hi' : (i : Int) < (l.length : Int) := by omega
    have hle : i ≤ l.length := by omega
    obtain ⟨q, hq1, hq2⟩ := refName_eq l[i] (hl _ (List.getElem_mem hi)) K (hs _ (List.getElem_mem hi))
    simp only [punctualref_CheckSet.r1, if_pos hi', List.getElem?_eq_getElem hi, hq1, hq2, refDup_eq l i hi _ K (by omega), refRange_eq i _ K (by omega), wrongAt, if_pos hle, decide_eq_true_eq]
    by_cases hg : Good l[i].Name
    · simp only [if_pos hg]
      by_cases hd : dupAt l i l[i]
      · simp only [if_pos hd, onward]
      · simp only [if_neg hd]
        cases firstOf (rangeAt i l[i]) 6 0 with
        | some r => rfl
        | none =>
          simp only [gt_iff_lt, leave]
          split <;> rfl
    · simp only [if_neg hg]; rfl) (by simp [punctualref_CheckSet.r1]) (K := K) (by omega)
  simp only [hr]
  cases firstOf (wrongAt l) l.length 0 <;> rfl
theorem setFault_ok {l : List STask} (h : (setFault l).Code = 0) : 1 ≤ l.length ∧ l.length ≤ 8 ∧ ∀ i t, l[i]? = some t → Good t.Name ∧ ¬ dupAt l i t ∧ (1 ≤ t.C ∧ t.C ≤ 10000) ∧ (1 ≤ t.T ∧ t.T ≤ 10000) ∧ (1 ≤ t.D ∧ t.D ≤ 10000) ∧ (0 ≤ t.J ∧ t.J ≤ 10000) ∧ (0 ≤ t.O ∧ t.O ≤ 10000) ∧ (0 ≤ t.P ∧ t.P ≤ 1000) ∧ t.C ≤ t.D := by
  unfold setFault at h
  split at h
  · rename_i hl
    refine ⟨hl.1, hl.2, fun i t ht => ?_⟩
    have hi := lt_of_get ht
    have hn : firstOf (wrongAt l) l.length 0 = none := by
      cases hf : firstOf (wrongAt l) l.length 0 with
      | none => rfl
      | some r =>
        rw [hf] at h
        obtain ⟨j, _, hj, hg, _⟩ := firstOf_some hf
        simp only [Option.getD_some] at h
        exfalso
        unfold wrongAt at hg
        rw [List.getElem?_eq_getElem hj] at hg
        simp only at hg
        split at hg
        · split at hg
          · cases hg; cases h
          · split at hg
            · rename_i r' hr'
              cases hg
              obtain ⟨q, _, hq, hg2, _⟩ := firstOf_some hr'
              unfold rangeAt at hg2
              repeat' split at hg2
              all_goals first | cases hg2; done | (cases hg2; cases h)
            · split at hg
              · cases hg; cases h
              · cases hg
        · cases hg; cases h
    have h0 := firstOf_none hn i (Nat.zero_le _) hi
    unfold wrongAt at h0
    rw [ht] at h0
    simp only at h0
    split at h0
    · rename_i hg
      split at h0
      · cases h0
      · rename_i hd
        split at h0
        · cases h0
        · rename_i hr
          split at h0
          · cases h0
          · rename_i hcd
            have hrr := firstOf_none hr
            have e0 := hrr 0 (by omega) (by omega)
            have e1 := hrr 1 (by omega) (by omega)
            have e2 := hrr 2 (by omega) (by omega)
            have e3 := hrr 3 (by omega) (by omega)
            have e4 := hrr 4 (by omega) (by omega)
            have e5 := hrr 5 (by omega) (by omega)
            simp only [rangeAt, List.getElem?_cons_zero, List.getElem?_cons_succ] at e0 e1 e2 e3 e4 e5
            refine ⟨hg, hd, ?_, ?_, ?_, ?_, ?_, ?_, by omega⟩
            · clear e1 e2 e3 e4 e5; split at e0; cases e0; split at e0; cases e0; omega
            · clear e0 e2 e3 e4 e5; split at e1; cases e1; split at e1; cases e1; omega
            · clear e1 e0 e3 e4 e5; split at e2; cases e2; split at e2; cases e2; omega
            · clear e1 e2 e0 e4 e5; split at e3; cases e3; split at e3; cases e3; omega
            · clear e1 e2 e3 e0 e5; split at e4; cases e4; split at e4; cases e4; omega
            · clear e1 e2 e3 e4 e0; split at e5; cases e5; split at e5; cases e5; omega
    · cases h0
  · cases h
theorem setFault_ok' {l : List STask} (h : (setFault l).Code = 0) : setFault l = ⟨0, 0⟩ := by
  unfold setFault at h ⊢
  split at h
  · rename_i hl
    rw [if_pos hl]
    cases hf : firstOf (wrongAt l) l.length 0 with
    | none => rfl
    | some r =>
      rw [hf] at h
      obtain ⟨j, _, hj, hg, _⟩ := firstOf_some hf
      simp only [Option.getD_some] at h
      exfalso
      unfold wrongAt at hg
      rw [List.getElem?_eq_getElem hj] at hg
      simp only at hg
      split at hg
      · split at hg
        · cases hg; cases h
        · split at hg
          · rename_i r' hr'
            cases hg
            obtain ⟨q, _, hq, hg2, _⟩ := firstOf_some hr'
            unfold rangeAt at hg2
            repeat' split at hg2
            all_goals first | cases hg2; done | (cases hg2; cases h)
          · split at hg
            · cases hg; cases h
            · cases hg
      · cases hg; cases h
  · cases h

/-- what a task of a set is -/
structure Okt (t : STask) : Prop where
  C : 1 ≤ t.C ∧ t.C ≤ 10000
  T : 1 ≤ t.T ∧ t.T ≤ 10000
  D : 1 ≤ t.D ∧ t.D ≤ 10000
  J : 0 ≤ t.J ∧ t.J ≤ 10000
  O : 0 ≤ t.O ∧ t.O ≤ 10000
  P : 0 ≤ t.P ∧ t.P ≤ 1000
  CD : t.C ≤ t.D
theorem okt_of {l : List STask} (h : (setFault l).Code = 0) : ∀ t ∈ l, Okt t := fun t ht => by
  obtain ⟨i, hi⟩ := List.mem_iff_getElem?.1 ht
  obtain ⟨_, _, h⟩ := setFault_ok h
  obtain ⟨_, _, h1, h2, h3, h4, h5, h6, h7⟩ := h i t hi
  exact ⟨h1, h2, h3, h4, h5, h6, h7⟩
/-- a over b, rounded up -/
def ceilD (a b : Int) : Int := (a + b - 1) / b
theorem ceilD_mono {a a' b : Int} (hb : 1 ≤ b) (h : a ≤ a') : ceilD a b ≤ ceilD a' b := Int.ediv_le_ediv (by omega) (by omega)
theorem ceilD_nonneg {a b : Int} (hb : 1 ≤ b) (h : 0 ≤ a) : 0 ≤ ceilD a b := Int.ediv_nonneg (by omega) (by omega)
theorem ceilD_le {a b : Int} (hb : 1 ≤ b) (h : 0 ≤ a) : ceilD a b ≤ a := by
  unfold ceilD
  rw [← Int.lt_add_one_iff]
  apply Int.ediv_lt_of_lt_mul (by omega)
  have : a * 1 ≤ a * b := Int.mul_le_mul_of_nonneg_left hb h
  rw [Int.add_mul]
  omega
theorem ceil_eq {a b : Int} (ha : 0 ≤ a ∧ a ≤ 100000) (hb : 1 ≤ b ∧ b ≤ 100000) : fixed_ceil.f a b = some (ceilD a b) := by
  unfold fixed_ceil.f
  rw [if_neg (by omega), wrap64_small (n := a + b) (by omega) (by omega), wrap64_small (n := a + b - 1) (by omega) (by omega), Int.tdiv_eq_ediv_of_nonneg (by omega)]
  have h1 := ceilD_nonneg hb.1 ha.1
  have h2 := ceilD_le hb.1 ha.1
  show some (IntKind.i64.wrap (ceilD a b)) = _
  rw [wrap64_small (by omega) (by omega)]
theorem up_eq {a b : Int} (ha : 0 ≤ a ∧ a ≤ 100000) (hb : 1 ≤ b ∧ b ≤ 100000) : punctualref_up.f a b = some (ceilD a b) := by
  unfold punctualref_up.f
  rw [if_neg (by omega), Int.tdiv_eq_ediv_of_nonneg (by omega)]
  have h0 : 0 ≤ a / b := Int.ediv_nonneg ha.1 (by omega)
  have h1 : a / b ≤ a := Int.ediv_le_self b ha.1
  have h2 : a / b * b ≤ a := Int.ediv_mul_le a (by omega)
  have h2' : 0 ≤ a / b * b := Int.mul_nonneg h0 (by omega)
  rw [wrap64_small (n := a / b) (by omega) (by omega), wrap64_small (n := a / b * b) (by omega) (by omega), wrap64_small (n := a / b + 1) (by omega) (by omega)]
  have hm := Int.emod_add_mul_ediv a b
  have hm1 : 0 ≤ a % b := Int.emod_nonneg a (by omega)
  have hm2 : a % b < b := Int.emod_lt_of_pos a (by omega)
  rw [Int.mul_comm] at hm
  unfold ceilD
  by_cases h : a / b * b < a
  · rw [if_pos h]
    congr 1
    symm
    have e : a + b - 1 = (a % b - 1) + b * (a / b + 1) := by rw [Int.mul_add, Int.mul_comm b]; omega
    rw [e, Int.add_mul_ediv_left _ _ (by omega), Int.ediv_eq_zero_of_lt (by omega) (by omega)]
    omega
  · rw [if_neg h]
    congr 1
    symm
    have e : a + b - 1 = (b - 1) + b * (a / b) := by rw [Int.mul_comm b]; omega
    rw [e, Int.add_mul_ediv_left _ _ (by omega), Int.ediv_eq_zero_of_lt (by omega) (by omega)]
    omega
/-- what others want in so many ticks -/
def wants (os : List STask) (w : Int) : Int := (os.map fun o => ceilD (w + o.J) o.T * o.C).sum
def dem (t : STask) (b : Int) (os : List STask) (w : Int) : Int := t.C + b + wants os w
theorem wants_nil (w : Int) : wants [] w = 0 := rfl
theorem wants_cons (o : STask) (os : List STask) (w : Int) : wants (o :: os) w = ceilD (w + o.J) o.T * o.C + wants os w := by simp [wants]
theorem wants_append (os ps : List STask) (w : Int) : wants (os ++ ps) w = wants os w + wants ps w := by simp [wants]
theorem want_bounds {o : STask} (ho : Okt o) {w : Int} (hw : 0 ≤ w ∧ w ≤ 10000) : 0 ≤ ceilD (w + o.J) o.T * o.C ∧ ceilD (w + o.J) o.T * o.C ≤ 200000000 := by
  have := ho.C; have := ho.T; have := ho.J
  have h1 := ceilD_nonneg (a := w + o.J) (b := o.T) (by omega) (by omega)
  have h2 := ceilD_le (a := w + o.J) (b := o.T) (by omega) (by omega)
  refine ⟨Int.mul_nonneg h1 (by omega), ?_⟩
  calc ceilD (w + o.J) o.T * o.C ≤ 20000 * o.C := Int.mul_le_mul_of_nonneg_right (by omega) (by omega)
    _ ≤ 20000 * 10000 := Int.mul_le_mul_of_nonneg_left (by omega) (by omega)
    _ = 200000000 := by decide
theorem wants_bounds : ∀ {os : List STask}, (∀ o ∈ os, Okt o) → ∀ {w : Int}, (0 ≤ w ∧ w ≤ 10000) → 0 ≤ wants os w ∧ wants os w ≤ 200000000 * os.length
  | [], _, w, _ => by simp [wants_nil]
  | o :: os, h, w, hw => by
    have h1 := want_bounds (h o (by simp)) hw
    have h2 := wants_bounds (fun x hx => h x (List.mem_cons_of_mem _ hx)) hw
    rw [wants_cons, List.length_cons]
    omega
theorem wants_mono : ∀ {os : List STask}, (∀ o ∈ os, Okt o) → ∀ {w w' : Int}, w ≤ w' → wants os w ≤ wants os w'
  | [], _, w, w', _ => by simp [wants_nil]
  | o :: os, h, w, w', hw => by
    have ho := h o (by simp)
    have h2 := wants_mono (fun x hx => h x (List.mem_cons_of_mem _ hx)) hw
    have h1 : ceilD (w + o.J) o.T * o.C ≤ ceilD (w' + o.J) o.T * o.C := Int.mul_le_mul_of_nonneg_right (ceilD_mono ho.T.1 (by omega)) (by have := ho.C; omega)
    rw [wants_cons, wants_cons]
    omega
/-- the least n, 1 at least, in which all is done that is wanted; 0: there is none up to most -/
def settled (f : Int → Int) (most : Int) : Int := match firstOf (fun n : Nat => if f n ≤ n then some (n : Int) else none) (most.toNat + 1) 1 with
  | some n => n
  | none => 0
theorem settled_some {f : Int → Int} {most : Int} {j : Nat} (h : firstOf (fun n : Nat => if f n ≤ n then some (n : Int) else none) (most.toNat + 1) 1 = some (j : Int)) : settled f most = j := by unfold settled; rw [h]
theorem settled_none {f : Int → Int} {most : Int} (h : firstOf (fun n : Nat => if f n ≤ n then some (n : Int) else none) (most.toNat + 1) 1 = none) : settled f most = 0 := by unfold settled; rw [h]
theorem settled_pos {f : Int → Int} {most : Int} (h : settled f most ≠ 0) : 1 ≤ settled f most ∧ settled f most ≤ most ∧ f (settled f most) ≤ settled f most ∧ ∀ n : Int, 1 ≤ n → n < settled f most → n < f n := by
  cases hf : firstOf (fun n : Nat => if f n ≤ n then some (n : Int) else none) (most.toNat + 1) 1 with
  | none => exact absurd (settled_none hf) h
  | some r =>
    obtain ⟨j, h1, h2, h3, h4⟩ := firstOf_some hf
    split at h3
    · cases h3
      rw [settled_some hf]
      refine ⟨by omega, by omega, by assumption, fun n hn1 hn2 => ?_⟩
      have := h4 n.toNat (by omega) (by omega)
      have e : ((n.toNat : Nat) : Int) = n := Int.toNat_of_nonneg (by omega)
      simp only [e] at this
      split at this
      · cases this
      · omega
    · cases h3
theorem settled_zero {f : Int → Int} {most : Int} (h : settled f most = 0) : ∀ n : Int, 1 ≤ n → n ≤ most → n < f n := by
  cases hf : firstOf (fun n : Nat => if f n ≤ n then some (n : Int) else none) (most.toNat + 1) 1 with
  | some r =>
    obtain ⟨j, h1, h2, h3, h4⟩ := firstOf_some hf
    split at h3
    · cases h3; rw [settled_some hf] at h; omega
    · cases h3
  | none =>
    intro n h1 h2
    have := firstOf_none hf n.toNat (by omega) (by omega)
    have e : ((n.toNat : Nat) : Int) = n := Int.toNat_of_nonneg (by omega)
    simp only [e] at this
    split at this
    · cases this
    · omega
theorem settled_eq {f : Int → Int} {most w : Int} (h1 : 1 ≤ w) (h2 : w ≤ most) (h3 : f w ≤ w) (h4 : ∀ n : Int, 1 ≤ n → n < w → n < f n) : settled f most = w := by
  by_cases h : settled f most = 0
  · have := settled_zero h w h1 h2; omega
  · obtain ⟨g1, g2, g3, g4⟩ := settled_pos h
    rcases Int.lt_trichotomy (settled f most) w with hl | hl | hl
    · have := h4 _ g1 hl; omega
    · exact hl
    · have := g4 _ h1 hl; omega
theorem settled_eq_zero {f : Int → Int} {most : Int} (h : ∀ n : Int, 1 ≤ n → n ≤ most → n < f n) : settled f most = 0 := by
  apply Decidable.byContradiction
  intro hne
  obtain ⟨g1, g2, g3, g4⟩ := settled_pos hne
  have := h _ g1 g2
  omega
theorem demand_eq (t : STask) (b : Int) (os : List STask) (w : Int) (ht : Okt t) (hb : 0 ≤ b ∧ b ≤ 10000) (ho : ∀ o ∈ os, Okt o) (hl : os.length ≤ 8) (hw : 0 ≤ w ∧ w ≤ 10000) (K : Nat) (hK : 9 ≤ K) : fixed_response_1.f K w t b os = some (dem t b os w) := by
  unfold fixed_response_1.f
  have hC := ht.C
  have hr := iter_states (ρ := Int) (f := fixed_response_1.r0 w os) (fun i => (t.C + b + wants (os.take i) w, i)) (fun _ => none) os.length (t := dem t b os w) (fun i hi _ => by
    have hi' : (i : Int) < (os.length : Int) := by omega
    have hoi := ho os[i] (List.getElem_mem hi)
    have hT := hoi.T; have hJ := hoi.J
    have hwb := want_bounds hoi hw
    have hs := wants_bounds (os := os.take i) (fun o h => ho o (List.mem_of_mem_take h)) hw
    have hlen : (os.take i).length ≤ 8 := by simp; omega
    simp only [fixed_response_1.r0, if_pos hi', List.getElem?_eq_getElem hi]
    rw [wrap64_small (n := w + os[i].J) (by omega) (by omega), ceil_eq (by omega) (by omega)]
    simp only [onwardS]
    rw [wrap64_small (n := ceilD (w + os[i].J) os[i].T * os[i].C) (by omega) (by omega), wrap64_small (by omega) (by omega)]
    congr 3
    rw [List.take_succ_eq_append_getElem hi, wants_append, wants_cons, wants_nil]
    omega) (fun _ => by simp [fixed_response_1.r0, dem]) (K := K) (by omega)
  have h0 : t.C + b + wants (os.take 0) w = t.C + b := by simp [wants_nil]
  rw [h0] at hr
  rw [wrap64_small (by omega) (by omega), hr, firstOf_none_of (fun _ _ _ => rfl)]
  rfl
theorem dem_mono {t : STask} {b : Int} {os : List STask} (ho : ∀ o ∈ os, Okt o) {w w' : Int} (h : w ≤ w') : dem t b os w ≤ dem t b os w' := by
  have := wants_mono ho h
  unfold dem; omega
theorem settle_eq (t : STask) (b : Int) (os : List STask) (ht : Okt t) (hb : 0 ≤ b ∧ b ≤ 10000) (ho : ∀ o ∈ os, Okt o) (hl : os.length ≤ 8) (most : Int) (hm : most ≤ 10000) (K : Nat) (hK : 20100 ≤ K) : fixed_Settle.f K (t.C + b) most t b os = some (settled (dem t b os) most) := by
  unfold fixed_Settle.f
  have hC := ht.C
  obtain ⟨r, hr, hR⟩ := iter_total (f := fixed_Settle.r0 K most t b os) (fun w => t.C + b ≤ w ∧ w ≤ 1600000000 + 20000 ∧ ∀ n : Int, 1 ≤ n → n < w → n < dem t b os n) (fun w => (10001 - w).toNat)
    (fun r => r = if settled (dem t b os) most = 0 then .inl () else .inr (settled (dem t b os) most)) (fun w hI => by
      obtain ⟨h1, h2, h3⟩ := hI
      by_cases hw : w ≤ most
      · have hd := demand_eq t b os w ht hb ho hl ⟨by omega, by omega⟩ K (by omega)
        simp only [fixed_Settle.r0, if_pos hw, hd]
        by_cases hle : dem t b os w ≤ w
        · right
          have hs := settled_eq (f := dem t b os) (most := most) (by omega) hw hle h3
          refine ⟨_, by rw [if_pos hle], ?_⟩
          rw [hs, if_neg (by omega)]
        · left
          have hwb := wants_bounds ho (w := w) ⟨by omega, by omega⟩
          refine ⟨_, by rw [if_neg hle], ⟨by unfold dem; omega, by unfold dem; omega, fun n hn1 hn2 => ?_⟩, by omega⟩
          by_cases hnw : n < w
          · exact h3 n hn1 hnw
          · have := dem_mono (t := t) (b := b) ho (w := w) (w' := n) (by omega)
            omega
      · right
        refine ⟨.inl (), by simp only [fixed_Settle.r0, if_neg hw], ?_⟩
        rw [settled_eq_zero (fun n h1 h2 => h3 n h1 (by omega)), if_pos rfl]) K (t.C + b) ⟨Int.le_refl _, by omega, fun n h1 h2 => by
          by_cases hn : n ≤ 10000
          · have := wants_bounds ho (w := n) ⟨by omega, hn⟩
            unfold dem; omega
          · have := wants_mono ho (w := 10000) (w' := n) (by omega)
            have := wants_bounds ho (w := 10000) ⟨by omega, by omega⟩
            unfold dem; omega⟩ (by omega)
  rw [hr, hR]
  by_cases h : settled (dem t b os) most = 0
  · rw [if_pos h, h]
  · rw [if_neg h]
/-- how long a task takes; 0: too long -/
def respond (t : STask) (os : List STask) (b : Int) : Int := if settled (dem t b os) (t.D - t.J) = 0 then 0 else settled (dem t b os) (t.D - t.J) + t.J
theorem response_eq (t : STask) (b : Int) (os : List STask) (ht : Okt t) (hb : 0 ≤ b ∧ b ≤ 10000) (ho : ∀ o ∈ os, Okt o) (hl : os.length ≤ 8) (K : Nat) (hK : 20100 ≤ K) : fixed_response.f K t os b = some (respond t os b) := by
  have hC := ht.C; have hD := ht.D; have hJ := ht.J
  unfold fixed_response.f
  rw [wrap64_small (n := t.C + b) (by omega) (by omega), wrap64_small (n := t.D - t.J) (by omega) (by omega), settle_eq t b os ht hb ho hl _ (by omega) K hK]
  simp only
  unfold respond
  by_cases h : settled (dem t b os) (t.D - t.J) = 0
  · rw [if_pos h, if_pos h]
  · rw [if_neg h, if_neg h]
    have := settled_pos h
    rw [wrap64_small (by omega) (by omega)]
theorem worst_eq (t : STask) (b : Int) (os : List STask) (ht : Okt t) (hb : 0 ≤ b ∧ b ≤ 10000) (ho : ∀ o ∈ os, Okt o) (hl : os.length ≤ 8) (K : Nat) (hK : 20100 ≤ K) : punctualref_AtWorst.f K t os b = some (respond t os b) := by
  have hC := ht.C; have hD := ht.D; have hJ := ht.J
  unfold punctualref_AtWorst.f
  obtain ⟨r, hr, hR⟩ := iter_total (f := punctualref_AtWorst.r0 K t os b) (fun w => 1 ≤ w ∧ w ≤ 10001 ∧ ∀ n : Int, 1 ≤ n → n < w → n < dem t b os n) (fun w => (10001 - w).toNat)
    (fun r => r = if settled (dem t b os) (t.D - t.J) = 0 then .inl () else .inr (settled (dem t b os) (t.D - t.J) + t.J)) (fun w hI => by
      obtain ⟨h1, h2, h3⟩ := hI
      have e1 : IntKind.i64.wrap (w + t.J) = w + t.J := wrap64_small (by omega) (by omega)
      simp only [punctualref_AtWorst.r0, e1]
      by_cases hw : w + t.J ≤ t.D
      · rw [if_pos hw]
        have hin := iter_states (ρ := Int) (f := punctualref_AtWorst.r1 os w) (fun i => (t.C + b + wants (os.take i) w, i)) (fun _ => none) os.length (t := dem t b os w) (fun i hi _ => by
          have hi' : (i : Int) < (os.length : Int) := by omega
          have hoi := ho os[i] (List.getElem_mem hi)
          have hT := hoi.T; have hJ := hoi.J
          have hw0 : 0 ≤ w ∧ w ≤ 10000 := ⟨by omega, by omega⟩
          have hwb := want_bounds hoi hw0
          have hs := wants_bounds (os := os.take i) (fun o h => ho o (List.mem_of_mem_take h)) hw0
          have hlen : (os.take i).length ≤ 8 := by simp; omega
          simp only [punctualref_AtWorst.r1, if_pos hi', List.getElem?_eq_getElem hi]
          rw [wrap64_small (n := w + os[i].J) (by omega) (by omega), up_eq (by omega) (by omega)]
          simp only [onwardS]
          rw [wrap64_small (n := ceilD (w + os[i].J) os[i].T * os[i].C) (by omega) (by omega), wrap64_small (by omega) (by omega)]
          congr 3
          rw [List.take_succ_eq_append_getElem hi, wants_append, wants_cons, wants_nil]
          omega) (fun _ => by simp [punctualref_AtWorst.r1, dem]) (K := K) (by omega)
        have h0 : t.C + b + wants (os.take 0) w = t.C + b := by simp [wants_nil]
        rw [h0, firstOf_none_of (fun _ _ _ => rfl)] at hin
        rw [wrap64_small (n := t.C + b) (by omega) (by omega), hin]
        simp only [leave]
        have hge : w ≤ dem t b os w := by
          by_cases hw1 : w = 1
          · have := wants_bounds ho (w := w) ⟨by omega, by omega⟩
            unfold dem; omega
          · have := h3 (w - 1) (by omega) (by omega)
            have := dem_mono (t := t) (b := b) ho (w := w - 1) (w' := w) (by omega)
            omega
        by_cases hle : dem t b os w = w
        · right
          have hs := settled_eq (f := dem t b os) (most := t.D - t.J) (by omega) (by omega) (by omega) h3
          refine ⟨_, by rw [if_pos hle], ?_⟩
          rw [hs, if_neg (by omega)]
        · left
          refine ⟨_, by rw [if_neg hle, wrap64_small (by omega) (by omega)], ⟨by omega, by omega, fun n hn1 hn2 => ?_⟩, by omega⟩
          by_cases hnw : n < w
          · exact h3 n hn1 hnw
          · have : n = w := by omega
            subst this
            omega
      · right
        refine ⟨.inl (), by rw [if_neg hw], ?_⟩
        rw [settled_eq_zero (fun n h1 h2 => h3 n h1 (by omega)), if_pos rfl]) K 1 ⟨by omega, by omega, fun n h1 h2 => by omega⟩ (by omega)
  rw [hr, hR]
  unfold respond
  by_cases h : settled (dem t b os) (t.D - t.J) = 0
  · rw [if_pos h, if_pos h]
  · rw [if_neg h, if_neg h]
/-- what is wrong with a set whose tasks must be done ere they come again -/
noncomputable def fixedFault (l : List STask) : SFault :=
  if (setFault l).Code = 0 then (firstOf (fun i => match l[i]? with | some t => if t.D > t.T then some ⟨12, (i : Int)⟩ else none | none => none) l.length 0).getD ⟨0, 0⟩ else setFault l
theorem fixedFault_ok {l : List STask} (h : (fixedFault l).Code = 0) : (setFault l).Code = 0 ∧ fixedFault l = ⟨0, 0⟩ ∧ ∀ t ∈ l, t.D ≤ t.T := by
  unfold fixedFault at h ⊢
  split at h
  · rename_i hs
    cases hf : firstOf (fun i => match l[i]? with | some t => if t.D > t.T then some (⟨12, (i : Int)⟩ : SFault) else none | none => none) l.length 0 with
    | none =>
      refine ⟨hs, by rw [if_pos hs]; rfl, fun t ht => ?_⟩
      obtain ⟨i, hi⟩ := List.mem_iff_getElem?.1 ht
      have := firstOf_none hf i (Nat.zero_le _) (lt_of_get hi)
      simp only [hi] at this
      split at this
      · cases this
      · omega
    | some r =>
      rw [hf] at h
      obtain ⟨j, _, hj, hg, _⟩ := firstOf_some hf
      simp only [Option.getD_some] at h
      exfalso
      split at hg
      · split at hg
        · cases hg; cases h
        · cases hg
      · cases hg
  · contradiction
theorem check_eq (l : List STask) (K : Nat) (hK : 20 ≤ K) : fixed_check.f K l = some (fixedFault l) := by
  unfold fixed_check.f fixedFault
  rw [Check_eq l K hK]
  simp only
  by_cases h : (setFault l).Code = 0
  · rw [if_pos h, if_pos h]
    have hl := (setFault_ok h).2.1
    have hr := iter_first0 (f := fixed_check.r0 l) (fun i => match l[i]? with | some t => if t.D > t.T then some ⟨12, (i : Int)⟩ else none | none => none) l.length (t := ()) (fun i hi => by
      have hi' : (i : Int) < (l.length : Int) := by omega
      simp only [fixed_check.r0, if_pos hi', List.getElem?_eq_getElem hi]
      split <;> rfl) (by simp [fixed_check.r0]) (K := K) (by omega)
    rw [hr]
    cases firstOf (fun i => match l[i]? with | some t => if t.D > t.T then some (⟨12, (i : Int)⟩ : SFault) else none | none => none) l.length 0 <;> rfl
  · rw [if_neg h, if_neg h]
theorem CheckFixed_eq (l : List STask) (hl : ∀ t ∈ l, Ok.ok t) (K : Nat) (hK : 20 ≤ K) (hs : ∀ t ∈ l, t.Name.size < K) : punctualref_CheckFixed.f K l = some (fixedFault l) := by
  rw [← check_eq l K hK]
  unfold punctualref_CheckFixed.f fixed_check.f
  rw [CheckSet_eq l hl K hK hs, Check_eq l K hK]
  rfl
/-- those that go ahead of task i, up to place n -/
def aboveTill (l : List STask) (i : Nat) (n : Nat) : List STask := (List.range n).filterMap fun k => match l[k]?, l[i]? with
  | some a, some b => if k ≠ i ∧ a.P ≥ b.P then some a else none
  | _, _ => none
abbrev aboveOf (l : List STask) (i : Nat) : List STask := aboveTill l i l.length
theorem aboveTill_len (l : List STask) (i n : Nat) : (aboveTill l i n).length ≤ n := by
  unfold aboveTill
  exact Nat.le_trans (List.length_filterMap_le _ _) (by simp)
theorem aboveTill_mem {l : List STask} {i n : Nat} {a : STask} (h : a ∈ aboveTill l i n) : a ∈ l := by
  unfold aboveTill at h
  obtain ⟨k, _, hk⟩ := List.mem_filterMap.1 h
  split at hk
  · rename_i x y hx hy
    split at hk
    · cases hk; exact List.mem_of_getElem? hx
    · cases hk
  · cases hk
theorem aboveTill_succ {l : List STask} {i n : Nat} {a b : STask} (ha : l[n]? = some a) (hb : l[i]? = some b) : aboveTill l i (n + 1) = aboveTill l i n ++ (if n ≠ i ∧ a.P ≥ b.P then [a] else []) := by
  unfold aboveTill
  rw [List.range_succ, List.filterMap_append]
  congr 1
  simp only [List.filterMap_cons, List.filterMap_nil, ha, hb]
  split <;> rename_i h <;> split at h <;> simp_all
/-- how long task i of a set takes at worst -/
noncomputable def respOf (l : List STask) (i b : Int) : Int × SFault :=
  if (fixedFault l).Code = 0 then
    (if i < 0 ∨ i ≥ (l.length : Int) ∨ b < 0 ∨ b > 10000 then (0, ⟨3, 0⟩)
    else match l[i.toNat]? with
      | none => (0, ⟨3, 0⟩)
      | some t => if respond t (aboveOf l i.toNat) b = 0 then (0, ⟨13, i⟩) else (respond t (aboveOf l i.toNat) b, ⟨0, 0⟩))
  else (0, fixedFault l)
/-- the first ones of what all take -/
noncomputable def respTill (l : List STask) (bs : List Int) (n : Nat) : List Int := (List.range n).map fun (i : Nat) => match bs[i]? with | some b => (respOf l (i : Int) b).1 | none => 0
noncomputable def respAt (l : List STask) (bs : List Int) (i : Nat) : Option SFault := match bs[i]? with | some b => if (respOf l (i : Int) b).2.Code = 0 then none else some (respOf l (i : Int) b).2 | none => none
noncomputable def respsOf (l : List STask) (bs : List Int) : List Int × SFault :=
  if (fixedFault l).Code = 0 then
    (if bs.length = l.length then
      (match firstOf (respAt l bs) l.length 0 with
      | some f => ([], f)
      | none => (respTill l bs l.length, ⟨0, 0⟩))
    else ([], ⟨2, 0⟩))
  else ([], fixedFault l)
theorem respsOf_len (l : List STask) (bs : List Int) : (respsOf l bs).1.length ≤ 8 := by
  unfold respsOf
  split
  · rename_i h
    have hl := (setFault_ok (fixedFault_ok h).1).2.1
    split
    · split
      · simp
      · simp [respTill]; exact hl
    · simp
  · simp
theorem gmax_eq (x y : Int) : gmax x y = max x y := by unfold gmax; omega
theorem gmin_eq (x y : Int) : gmin x y = min x y := by unfold gmin; omega

/-- by key, and by tie where the keys are alike -/
def Lex {α : Type} (key tie : α → Int) (x y : α) : Prop := key x < key y ∨ (key x = key y ∧ tie x < tie y)
/-- where the keys are alike: by tie -/
def Qq {α : Type} (key tie : α → Int) (x y : α) : Prop := key x = key y → tie x < tie y
theorem Lex.qq {α : Type} {key tie : α → Int} {x y : α} (h : Lex key tie x y) : Qq key tie x y := fun e => by rcases h with h | h <;> omega
theorem set_mid {α : Type} (A B : List α) (x y : α) : (A ++ x :: B).set A.length y = A ++ y :: B := by
  rw [List.set_append_right _ _ (Nat.le_refl _)]
  simp
theorem get_mid {α : Type} (A B : List α) (x : α) : (A ++ x :: B)[A.length]? = some x := by
  rw [List.getElem?_append_right (Nat.le_refl _)]
  simp
/-- one goes down to its place -/
theorem down {α ρ : Type} (ok : α → Prop) (lt : α → α → Prop) [∀ x y, Decidable (lt x y)] (f : Int × List α → Option ((Int × List α) ⊕ (List α ⊕ ρ))) (pre : List α) (x : α) (N : Nat)
    (hs : ∀ (m : List α), m.length = N → f ((pre.length : Int), m) = some (.inr (.inl m)))
    (hf : ∀ (s post : List α) (y : α), ok y → (pre ++ s ++ y :: x :: post).length = N → f (((pre.length + s.length + 1 : Nat) : Int), pre ++ s ++ y :: x :: post) = some (if lt x y then .inl (((pre.length + s.length : Nat) : Int), pre ++ s ++ x :: y :: post) else .inr (.inl (pre ++ s ++ y :: x :: post)))) :
    ∀ (n : Nat) (s post : List α) (K : Nat), (∀ y ∈ s, ok y) → s.length = n → n < K → (pre ++ s ++ x :: post).length = N →
      ∃ s1 s2, s = s1 ++ s2 ∧ (∀ y ∈ s2, lt x y) ∧ (∀ y ∈ s1.getLast?, ¬ lt x y) ∧ iter f K (((pre.length + s.length : Nat) : Int), pre ++ s ++ x :: post) = some (.inl (pre ++ s1 ++ x :: s2 ++ post))
  | 0, s, post, K + 1, hs0, hn, hK, hN => by
    obtain rfl := List.length_eq_zero_iff.1 hn
    refine ⟨[], [], rfl, by simp, by simp, ?_⟩
    simp only [iter, List.append_nil, List.length_nil, Nat.add_zero] at hN ⊢
    rw [hs _ hN]
    simp
  | n + 1, s, post, K + 1, hs0, hn, hK, hN => by
    rcases List.eq_nil_or_concat s with rfl | ⟨s', y, rfl⟩
    · simp at hn
    simp only [List.concat_eq_append] at hn hN hs0 ⊢
    have hn' : s'.length = n := by simpa using hn
    have e : pre ++ (s' ++ [y]) ++ x :: post = pre ++ s' ++ y :: x :: post := by simp
    have e2 : pre.length + (s' ++ [y]).length = pre.length + s'.length + 1 := by simp; omega
    rw [e] at hN
    simp only [iter]
    rw [e, e2, hf s' post y (hs0 y (by simp)) hN]
    by_cases h : lt x y
    · rw [if_pos h]
      obtain ⟨s1, s2, rfl, h1, h2, h3⟩ := down ok lt f pre x N hs hf n s' (y :: post) K (fun z hz => hs0 z (by simp [hz])) hn' (by omega) (by simp at hN ⊢; omega)
      refine ⟨s1, s2 ++ [y], by simp, ?_, h2, ?_⟩
      · intro z hz
        rcases List.mem_append.1 hz with hz | hz
        · exact h1 z hz
        · rw [List.mem_singleton.1 hz]; exact h
      · simp only
        rw [h3]
        simp
    · rw [if_neg h]
      refine ⟨s' ++ [y], [], by simp, by simp, ?_, ?_⟩
      · intro z hz
        rw [List.getLast?_concat] at hz
        obtain rfl := Option.some.inj hz
        exact h
      · simp
theorem down_lex {α : Type} {key tie : α → Int} {s1 s2 : List α} {x : α} (hs : (s1 ++ s2).Pairwise (Lex key tie)) (hq : ∀ y ∈ s1 ++ s2, Qq key tie y x) (h1 : ∀ y ∈ s2, key x < key y) (h2 : ∀ y ∈ s1.getLast?, ¬ key x < key y) :
    (s1 ++ x :: s2).Pairwise (Lex key tie) := by
  rw [List.pairwise_append] at hs ⊢
  obtain ⟨p1, p2, p3⟩ := hs
  have hle : ∀ y ∈ s1, Lex key tie y x := by
    intro y hy
    have hq' := hq y (List.mem_append_left _ hy)
    rcases List.eq_nil_or_concat s1 with rfl | ⟨t, z, rfl⟩
    · cases hy
    simp only [List.concat_eq_append] at hy p1 h2
    have hz : ¬ key x < key z := h2 z (by simp)
    have hyz : key y ≤ key z := by
      rcases List.mem_append.1 hy with hy | hy
      · rcases (List.pairwise_append.1 p1).2.2 y hy z (by simp) with h | h <;> omega
      · rw [List.mem_singleton.1 hy]; omega
    by_cases he : key y = key x
    · exact .inr ⟨he, hq' he⟩
    · exact .inl (by omega)
  refine ⟨p1, List.pairwise_cons.2 ⟨fun y hy => .inl (h1 y hy), p2⟩, fun y hy z hz => ?_⟩
  rcases List.mem_cons.1 hz with rfl | hz
  · exact hle y hy
  · exact p3 y hy z hz
/-- one after the other -/
theorem insOuter {α ρ : Type} (ok : α → Prop) {key tie : α → Int} (g : Int × List α → Option ((Int × List α) ⊕ (List α ⊕ ρ))) (pre post : List α) (N : Nat)
    (hg : ∀ (s rest : List α) (x : α), (∀ y ∈ s ++ [x], ok y) → s ≠ [] → (pre ++ s ++ x :: rest ++ post).length = N → s.Pairwise (Lex key tie) → (∀ y ∈ s, Qq key tie y x) → ∃ s', s'.Perm (s ++ [x]) ∧ s'.Pairwise (Lex key tie) ∧ g (((pre.length + s.length : Nat) : Int), pre ++ s ++ x :: rest ++ post) = some (.inl (((pre.length + s.length + 1 : Nat) : Int), pre ++ s' ++ rest ++ post)))
    (he : ∀ (z : Int) (m : List α), m.length = N → ((N : Int) - post.length) ≤ z → g (z, m) = some (.inr (.inl m))) :
    ∀ (rest s : List α) (K : Nat), (∀ y ∈ s ++ rest, ok y) → s ≠ [] → rest.length < K → (pre ++ s ++ rest ++ post).length = N → s.Pairwise (Lex key tie) → (s ++ rest).Pairwise (Qq key tie) →
      ∃ s', s'.Perm (s ++ rest) ∧ s'.Pairwise (Lex key tie) ∧ iter g K (((pre.length + s.length : Nat) : Int), pre ++ s ++ rest ++ post) = some (.inl (pre ++ s' ++ post))
  | [], s, K + 1, hok, h0, hK, hN, hs, hq => by
    refine ⟨s, by simp, hs, ?_⟩
    simp only [iter, List.append_nil] at hN ⊢
    rw [he _ _ hN (by simp at hN; omega)]
  | x :: rest, s, K + 1, hok, h0, hK, hN, hs, hq => by
    have hq' := List.pairwise_append.1 hq
    obtain ⟨s', p, hs', hr⟩ := hg s rest x (fun z hz => hok z (by rcases List.mem_append.1 hz with h | h; exact List.mem_append_left _ h; simp [List.mem_singleton.1 h])) h0 hN hs (fun y hy => hq'.2.2 y hy x (by simp))
    have hl : s'.length = s.length + 1 := by have := p.length_eq; simpa using this
    obtain ⟨s'', p2, hs'', hr2⟩ := insOuter ok g pre post N hg he rest s' K (fun z hz => hok z (by rcases List.mem_append.1 hz with h | h; (rcases List.mem_append.1 (p.mem_iff.1 h) with h | h; exact List.mem_append_left _ h; simp [List.mem_singleton.1 h]); simp [h])) (by intro h; simp [h] at hl) (by simp at hK; omega) (by simp at hN ⊢; omega) hs' (by
      rw [List.pairwise_append]
      refine ⟨hs'.imp fun h => h.qq, (List.pairwise_cons.1 hq'.2.1).2, fun y hy z hz => ?_⟩
      have := p.mem_iff.1 hy
      rcases List.mem_append.1 this with h | h
      · exact hq'.2.2 y h z (by simp [hz])
      · rw [List.mem_singleton.1 h]; exact (List.pairwise_cons.1 hq'.2.1).1 z hz)
    refine ⟨s'', p2.trans ((p.append_right rest).trans (by simp)), hs'', ?_⟩
    simp only [iter]
    rw [hr]
    simp only
    rw [← hr2, hl]
    congr 3
theorem get_atL {α : Type} (A B : List α) (x : α) {n : Nat} {L : List α} (hL : L = A ++ x :: B) (h : n = A.length) : L[n]? = some x := by subst hL; subst h; exact get_mid A B x
theorem set_atL {α : Type} (A B : List α) (x y : α) {n : Nat} {L : List α} (hL : L = A ++ x :: B) (h : n = A.length) : L.set n y = A ++ y :: B := by subst hL; subst h; exact set_mid A B x y
theorem comp_lt (a b : Int) : cmp_Compare_int.f a b < 0 ↔ a < b := by
  have h : ∀ x, cmp_isNaN_int.f x = false := fun x => by simp [cmp_isNaN_int.f]
  simp only [cmp_Compare_int.f, h]
  simp
  split
  · simp [*]
  · split <;> omega
theorem wrapN {n : Nat} (h : n ≤ 1000000) : IntKind.i64.wrap ((n : Int)) = (n : Int) := wrap64_small (by omega) (by omega)
/-- a search by halves -/
theorem halves {ρ : Type} (f : Int × Int → Option ((Int × Int) ⊕ (Int ⊕ ρ))) (p : Nat → Prop) [DecidablePred p] (lo hi : Nat) (hlh : lo ≤ hi)
    (hf : ∀ i j : Nat, lo ≤ i → i < j → j ≤ hi → f ((i : Int), (j : Int)) = some (.inl (if p ((i + j) / 2) then ((((i + j) / 2 + 1 : Nat) : Int), (j : Int)) else ((i : Int), (((i + j) / 2 : Nat) : Int)))))
    (he : ∀ i : Nat, f ((i : Int), (i : Int)) = some (.inr (.inl (i : Int)))) (hm : ∀ h h' : Nat, lo ≤ h → h ≤ h' → h' < hi → p h' → p h) (K : Nat) (hK : hi - lo < K) :
    ∃ r : Nat, lo ≤ r ∧ r ≤ hi ∧ (∀ h : Nat, lo ≤ h → h < r → p h) ∧ (∀ h : Nat, r ≤ h → h < hi → ¬ p h) ∧ iter f K ((lo : Int), (hi : Int)) = some (.inl (r : Int)) := by
  obtain ⟨r, hr, z, rfl, h0, h1, h2, h3⟩ := iter_total (f := f) (fun s => ∃ i j : Nat, s = ((i : Int), (j : Int)) ∧ lo ≤ i ∧ i ≤ j ∧ j ≤ hi ∧ (∀ h : Nat, lo ≤ h → h < i → p h) ∧ (∀ h : Nat, j ≤ h → h < hi → ¬ p h)) (fun s => (s.2 - s.1).toNat)
    (fun r => ∃ z : Nat, r = .inl (z : Int) ∧ lo ≤ z ∧ z ≤ hi ∧ (∀ h : Nat, lo ≤ h → h < z → p h) ∧ (∀ h : Nat, z ≤ h → h < hi → ¬ p h)) (fun s hI => by
      obtain ⟨i, j, rfl, hl, hij, hj, g1, g2⟩ := hI
      by_cases hlt : i < j
      · left
        rw [hf i j hl hlt hj]
        by_cases hp : p ((i + j) / 2)
        · rw [if_pos hp]
          exact ⟨_, rfl, ⟨_, _, rfl, by omega, by omega, hj, fun h h1 h2 => hm h _ h1 (by omega) (by omega) hp, g2⟩, by simp only; omega⟩
        · rw [if_neg hp]
          exact ⟨_, rfl, ⟨_, _, rfl, hl, by omega, by omega, g1, fun h h1 h2 hh => hp (hm _ h (by omega) h1 h2 hh)⟩, by simp only; omega⟩
      · right
        obtain rfl : i = j := by omega
        rw [he]
        exact ⟨_, rfl, i, rfl, hl, hj, g1, g2⟩) K ((lo : Int), (hi : Int)) ⟨lo, hi, rfl, Nat.le_refl _, hlh, Nat.le_refl _, fun h _ _ => by omega, fun h _ _ => by omega⟩ (by simp only; omega)
  exact ⟨z, h0, h1, h2, h3, hr⟩
/-- a task with another priority -/
def withP (t : STask) (p : Int) : STask := ⟨t.Name, t.C, t.T, t.D, t.J, t.O, p⟩
/-- a set with other priorities -/
def prio (l : List STask) (f : Nat → Int) : List STask := l.mapIdx fun i t => withP t (f i)
theorem prio_get (l : List STask) (f : Nat → Int) (i : Nat) : (prio l f)[i]? = (l[i]?).map fun t => withP t (f i) := by simp [prio]
theorem prio_len (l : List STask) (f : Nat → Int) : (prio l f).length = l.length := by simp [prio]
theorem prio_set {l : List STask} {f : Nat → Int} {i : Nat} {t : STask} (p : Int) (h : l[i]? = some t) : (prio l f).set i (withP t p) = prio l (fun j => if j = i then p else f j) := by
  apply List.ext_getElem?
  intro j
  rw [List.getElem?_set, prio_get, prio_get]
  by_cases e : i = j
  · subst e
    rw [if_pos rfl, if_pos (by rw [prio_len]; exact lt_of_get h), h]
    simp
  · rw [if_neg e]
    cases l[j]? with
    | none => rfl
    | some u => simp [show ¬ j = i by omega]
theorem prio_congr {l : List STask} {f g : Nat → Int} (h : ∀ i, i < l.length → f i = g i) : prio l f = prio l g := by
  apply List.ext_getElem?
  intro j
  rw [prio_get, prio_get]
  cases hj : l[j]? with
  | none => rfl
  | some u => simp [h j (lt_of_get hj)]
/-- some of them, in their order -/
def sel (l : List STask) (p : Nat → Bool) : Nat → List STask
  | 0 => []
  | n + 1 => sel l p n ++ (match l[n]? with | some t => if p n then [t] else [] | none => [])
theorem sel_len (l : List STask) (p : Nat → Bool) : ∀ n, (sel l p n).length ≤ n
  | 0 => Nat.le_refl _
  | n + 1 => by
    have := sel_len l p n
    simp only [sel, List.length_append]
    split
    · split <;> simp <;> omega
    · simp; omega
theorem sel_mem {l : List STask} {p : Nat → Bool} {a : STask} : ∀ {n}, a ∈ sel l p n → a ∈ l
  | 0, h => by cases h
  | n + 1, h => by
    simp only [sel] at h
    rcases List.mem_append.1 h with h | h
    · exact sel_mem h
    · split at h
      · rename_i t ht
        split at h
        · rw [List.mem_singleton.1 h]; exact List.mem_of_getElem? ht
        · cases h
      · cases h
theorem sel_congr {l : List STask} {p q : Nat → Bool} : ∀ {n}, (∀ k, k < n → p k = q k) → sel l p n = sel l q n
  | 0, _ => rfl
  | n + 1, h => by simp only [sel, sel_congr (n := n) (fun k hk => h k (by omega)), h n (by omega)]
theorem wants_mono_sel {l : List STask} (hl : ∀ t ∈ l, Okt t) {p q : Nat → Bool} {w : Int} (hw : 0 ≤ w) : ∀ {n}, (∀ k, k < n → p k = true → q k = true) → wants (sel l p n) w ≤ wants (sel l q n) w
  | 0, _ => Int.le_refl _
  | n + 1, h => by
    have ih := wants_mono_sel hl hw (p := p) (q := q) (n := n) (fun k hk => h k (by omega))
    simp only [sel, wants_append]
    cases ht : l[n]? with
    | none => simp only; omega
    | some t =>
      have ho := hl t (List.mem_of_getElem? ht)
      have h1 := ho.T; have h2 := ho.J; have h3 := ho.C
      have hc : 0 ≤ ceilD (w + t.J) t.T * t.C := Int.mul_nonneg (ceilD_nonneg h1.1 (by omega)) (by omega)
      simp only
      by_cases hp : p n = true
      · rw [if_pos hp, if_pos (h n (by omega) hp)]; omega
      · rw [if_neg hp]
        split
        · simp only [wants_cons, wants_nil]; omega
        · omega
/-- only what others want counts -/
theorem respond_congr {t t' : STask} {os os' : List STask} {b : Int} (hC : t.C = t'.C) (hD : t.D = t'.D) (hJ : t.J = t'.J) (h : ∀ w, wants os w = wants os' w) : respond t os b = respond t' os' b := by
  have e : dem t b os = dem t' b os' := by
    funext w
    simp only [dem, h w, hC]
  unfold respond
  rw [e, hD, hJ]
theorem respond_pos {t : STask} {os : List STask} {b : Int} (ht : Okt t) : respond t os b > 0 ↔ ∃ w, 1 ≤ w ∧ w ≤ t.D - t.J ∧ dem t b os w ≤ w := by
  have hJ := ht.J
  unfold respond
  constructor
  · intro h
    split at h
    · omega
    · rename_i hs
      obtain ⟨h1, h2, h3, _⟩ := settled_pos hs
      exact ⟨_, h1, h2, h3⟩
  · rintro ⟨w, h1, h2, h3⟩
    split
    · rename_i hs
      have := settled_zero hs w h1 h2
      omega
    · rename_i hs
      have := (settled_pos hs).1
      omega
theorem respond_ge (t : STask) (os : List STask) (b : Int) (ht : Okt t) : 0 ≤ respond t os b := by
  have hJ := ht.J
  unfold respond
  split
  · omega
  · rename_i hs
    have := (settled_pos hs).1
    omega
theorem respond_mono {l : List STask} (hl : ∀ t ∈ l, Okt t) {t : STask} (ht : Okt t) {p q : Nat → Bool} {n : Nat} {b : Int} (h : ∀ k, k < n → p k = true → q k = true) (hr : respond t (sel l q n) b > 0) : respond t (sel l p n) b > 0 := by
  obtain ⟨w, h1, h2, h3⟩ := (respond_pos ht).1 hr
  refine (respond_pos ht).2 ⟨w, h1, h2, ?_⟩
  have := wants_mono_sel hl (w := w) (by omega) h
  unfold dem at h3 ⊢
  omega
/-- may this one come last now? -/
def canB (l : List STask) (bs : List Int) (f : Nat → Int) (i : Nat) : Bool :=
  match l[i]?, bs[i]? with
  | some t, some b => decide (f i = 0) && decide (respond t (sel l (fun k => decide (k ≠ i) && decide (f k = 0)) l.length) b > 0)
  | _, _ => false
/-- the first one, from i on; below 0: none -/
def least (c : Nat → Bool) : Nat → Nat → Int
  | 0, _ => -1
  | d + 1, i => if c i then (i : Int) else least c d (i + 1)
theorem least_spec (c : Nat → Bool) : ∀ (d i : Nat), (least c d i = -1 ∧ ∀ k, i ≤ k → k < i + d → c k = false) ∨ (∃ k : Nat, i ≤ k ∧ k < i + d ∧ c k = true ∧ least c d i = (k : Int))
  | 0, i => .inl ⟨rfl, fun k h1 h2 => by omega⟩
  | d + 1, i => by
    unfold least
    by_cases h : c i = true
    · rw [if_pos h]; exact .inr ⟨i, by omega, by omega, h, rfl⟩
    · rw [if_neg h]
      rcases least_spec c d (i + 1) with ⟨h1, h2⟩ | ⟨k, h1, h2, h3, h4⟩
      · refine .inl ⟨h1, fun k hk1 hk2 => ?_⟩
        by_cases e : k = i
        · subst e; simpa using h
        · exact h2 k (by omega) (by omega)
      · exact .inr ⟨k, by omega, by omega, h3, h4⟩
/-- one after the other gets its priority, the least first -/
def asg (l : List STask) (bs : List Int) : Nat → Nat → (Nat → Int) → Option (Nat → Int)
  | 0, _, f => some f
  | d + 1, p, f => if least (canB l bs f) l.length 0 < 0 then none else asg l bs d (p + 1) (fun j => if j = (least (canB l bs f) l.length 0).toNat then (p : Int) else f j)
noncomputable def assignOf (l : List STask) (bs : List Int) : List STask × SFault :=
  if (fixedFault l).Code = 0 then
    (if bs.length = l.length ∧ ∀ b ∈ bs, 0 ≤ b ∧ b ≤ 10000 then (match asg l bs l.length 1 (fun _ => 0) with | some f => (prio l f, ⟨0, 0⟩) | none => ([], ⟨13, 0⟩)) else ([], ⟨2, 0⟩))
  else ([], fixedFault l)
theorem bad_eq (b : Int) : fixed_Assign_1.f b = decide (¬ (0 ≤ b ∧ b ≤ 10000)) := by
  unfold fixed_Assign_1.f
  by_cases h1 : b < 0
  · rw [if_pos h1, decide_eq_true (by omega)]
  · rw [if_neg h1]
    by_cases h2 : b > 10000
    · rw [decide_eq_true h2, decide_eq_true (by omega)]
    · rw [decide_eq_false h2, decide_eq_false (by omega)]
theorem contains_bad (bs : List Int) (K : Nat) (hK : bs.length < K) : slices_ContainsFunc_int_int.f K bs = some (decide (¬ ∀ b ∈ bs, 0 ≤ b ∧ b ≤ 10000)) := by
  have hr := iter_first0 (f := slices_IndexFunc_int_int.r0 bs) (fun i => match bs[i]? with | some b => if 0 ≤ b ∧ b ≤ 10000 then none else some (i : Int) | none => none) bs.length (t := ()) (fun i hi => by
    have hi' : (i : Int) < (bs.length : Int) := by omega
    simp only [slices_IndexFunc_int_int.r0, if_pos hi', List.getElem?_eq_getElem hi, bad_eq, decide_eq_true_eq]
    by_cases h1 : 0 ≤ bs[i] ∧ bs[i] ≤ 10000
    · rw [if_neg (fun h => h h1), if_pos h1]; rfl
    · rw [if_pos h1, if_neg h1]; rfl) (by simp [slices_IndexFunc_int_int.r0]) hK
  unfold slices_ContainsFunc_int_int.f slices_IndexFunc_int_int.f
  rw [hr]
  cases hf : firstOf (fun i => match bs[i]? with | some b => if 0 ≤ b ∧ b ≤ 10000 then none else some (i : Int) | none => none) bs.length 0 with
  | none =>
    have hall : ∀ b ∈ bs, 0 ≤ b ∧ b ≤ 10000 := fun b hb => by
      obtain ⟨i, hi⟩ := List.mem_iff_getElem?.1 hb
      have := firstOf_none hf i (Nat.zero_le _) (lt_of_get hi)
      simp only [hi] at this
      split at this
      · assumption
      · cases this
    simp only [leave]
    rw [show decide (¬ ∀ b ∈ bs, 0 ≤ b ∧ b ≤ 10000) = false from decide_eq_false (fun h => h hall)]
    rfl
  | some r =>
    obtain ⟨j, _, hj, hg, _⟩ := firstOf_some hf
    have hnot : ¬ ∀ b ∈ bs, 0 ≤ b ∧ b ≤ 10000 := fun hall => by
      simp only [List.getElem?_eq_getElem hj, if_pos (hall _ (List.getElem_mem hj))] at hg
      cases hg
    have hr0 : r ≥ 0 := by
      split at hg
      · split at hg
        · cases hg
        · cases hg; omega
      · cases hg
    simp only [leave]
    rw [decide_eq_true hr0, decide_eq_true hnot]
theorem asg_others (l : List STask) (f : Nat → Int) (i : Nat) (hl8 : l.length ≤ 8) : ∀ (d k K : Nat), d < K → k + d = l.length →
    iter (fixed_Assign.r5 (prio l f) (i : Int)) K ((sel l (fun k => decide (k ≠ i) && decide (f k = 0)) k).map (fun t => withP t 0), k) = some (.inl ((sel l (fun k => decide (k ≠ i) && decide (f k = 0)) l.length).map (fun t => withP t 0)))
  | 0, k, K + 1, hK, hk => by
    obtain rfl : k = l.length := by omega
    simp only [iter, fixed_Assign.r5, prio_len]
    rw [if_neg (by omega)]
  | d + 1, k, K + 1, hK, hk => by
    have hkl : k < l.length := by omega
    obtain ⟨t, ht⟩ : ∃ t, l[k]? = some t := ⟨l[k], List.getElem?_eq_getElem hkl⟩
    have ih := asg_others l f i hl8 d (k + 1) K (by omega) (by omega)
    have hlen := sel_len l (fun k => decide (k ≠ i) && decide (f k = 0)) k
    have es : sel l (fun k => decide (k ≠ i) && decide (f k = 0)) (k + 1) = sel l (fun k => decide (k ≠ i) && decide (f k = 0)) k ++ (if (decide (k ≠ i) && decide (f k = 0)) = true then [t] else []) := by simp only [sel, ht]
    rw [es] at ih
    simp only [iter, fixed_Assign.r5, prio_len, prio_get, ht, Option.map_some]
    rw [if_pos (by omega)]
    by_cases h1 : k = i
    · rw [if_pos (by omega)]
      rw [if_neg (by simp [h1]), List.append_nil] at ih
      exact ih
    · rw [if_neg (by omega)]
      by_cases h2 : f k = 0
      · rw [if_pos (by simp [withP, h2]), if_pos (by rw [List.length_map]; omega)]
        rw [if_pos (by simp [h1, h2])] at ih
        simp only [List.map_append, List.map_cons, List.map_nil] at ih
        simp only
        rw [show withP t (f k) = withP t 0 by rw [h2]]
        exact ih
      · rw [if_neg (by simp [withP, h2])]
        rw [if_neg (by simp [h2]), List.append_nil] at ih
        exact ih
theorem wants_withP (os : List STask) (w : Int) : wants (os.map fun t => withP t 0) w = wants os w := by
  induction os with
  | nil => rfl
  | cons o os ih => rw [List.map_cons, wants_cons, wants_cons, ih]; rfl
theorem okt_withP {t : STask} (h : Okt t) : Okt (withP t 0) := ⟨h.C, h.T, h.D, h.J, h.O, ⟨by simp [withP], by simp [withP]⟩, h.CD⟩
theorem asg_scan (l : List STask) (bs : List Int) (f : Nat → Int) (hl : ∀ t ∈ l, Okt t) (hl8 : l.length ≤ 8) (hbl : bs.length = l.length) (hb : ∀ b ∈ bs, 0 ≤ b ∧ b ≤ 10000) (hf : ∀ i, 0 ≤ f i) (K : Nat) (hK : 20100 ≤ K) : ∀ (d i K' : Nat), d + 1 < K' → i + d = l.length →
    iter (fixed_Assign.r3 K bs (prio l f)) K' (-1, (i : Int)) = some (.inl (least (canB l bs f) d i))
  | d, i, 0, hK', hi => by omega
  | 0, i, K' + 1, hK', hi => by
    simp only [iter, fixed_Assign.r3, fixed_Assign.p4, prio_len]
    rw [if_neg (by omega)]
    rfl
  | d + 1, i, K' + 1, hK', hi => by
    have hil : i < l.length := by omega
    obtain ⟨t, ht⟩ : ∃ t, l[i]? = some t := ⟨l[i], List.getElem?_eq_getElem hil⟩
    obtain ⟨b, hbi⟩ : ∃ b, bs[i]? = some b := ⟨bs[i]'(by omega), List.getElem?_eq_getElem (by omega)⟩
    have hto := hl t (List.mem_of_getElem? ht)
    have hbo := hb b (List.mem_of_getElem? hbi)
    have e1 : IntKind.i64.wrap ((i : Int) + 1) = ((i + 1 : Nat) : Int) := by rw [wrap64_small (by omega) (by omega)]; omega
    have ih := asg_scan l bs f hl hl8 hbl hb hf K hK d (i + 1) K' (by omega) (by omega)
    have hoth := asg_others l f i hl8 l.length 0 K (by omega) (by omega)
    simp only [sel, List.map_nil] at hoth
    have hfi := hf i
    simp only [iter, fixed_Assign.r3, fixed_Assign.p4, prio_len, prio_get, ht, Int.toNat_natCast, Option.map_some, e1, hbi, hoth]
    rw [if_pos (by omega), if_pos (by omega)]
    simp only
    rw [if_pos (by omega)]
    by_cases h0 : f i > 0
    · rw [if_pos (by simpa [withP] using h0)]
      have hc : canB l bs f i = false := by simp [canB, ht, hbi]; intro h; omega
      simp only [least, hc]
      exact ih
    · have h00 : f i = 0 := by omega
      rw [if_neg (by simp [withP]; omega), h00]
      have hlen := sel_len l (fun k => decide (k ≠ i) && decide (f k = 0)) l.length
      have hresp := response_eq (withP t 0) b ((sel l (fun k => decide (k ≠ i) && decide (f k = 0)) l.length).map fun t => withP t 0) (okt_withP hto) hbo (fun o ho => by obtain ⟨o', ho', rfl⟩ := List.mem_map.1 ho; exact okt_withP (hl o' (sel_mem ho'))) (by rw [List.length_map]; omega) K hK
      have er : respond (withP t 0) ((sel l (fun k => decide (k ≠ i) && decide (f k = 0)) l.length).map fun t => withP t 0) b = respond t (sel l (fun k => decide (k ≠ i) && decide (f k = 0)) l.length) b := respond_congr rfl rfl rfl (fun w => wants_withP _ w)
      rw [er] at hresp
      simp only [hresp]
      by_cases hr : respond t (sel l (fun k => decide (k ≠ i) && decide (f k = 0)) l.length) b > 0
      · rw [if_pos hr]
        have hc : canB l bs f i = true := by simp only [canB, ht, hbi]; simp [h00]; simpa using hr
        simp only [least, hc, if_true]
        rcases K' with _ | K'
        · omega
        simp only [iter, fixed_Assign.r3, fixed_Assign.p4, prio_len]
        by_cases hlt : ((i + 1 : Nat) : Int) < (l.length : Int)
        · rw [if_pos hlt, if_neg (by omega)]
        · rw [if_neg hlt]
      · rw [if_neg hr]
        have hc : canB l bs f i = false := by
          simp only [canB, ht, hbi, decide_eq_false hr, Bool.and_false]
        simp only [least, hc]
        exact ih
theorem asg_loop (l : List STask) (bs : List Int) (hl : ∀ t ∈ l, Okt t) (hl8 : l.length ≤ 8) (hbl : bs.length = l.length) (hb : ∀ b ∈ bs, 0 ≤ b ∧ b ≤ 10000) (K : Nat) (hK : 20100 ≤ K) (x : List STask) : ∀ (d p K' : Nat) (f : Nat → Int), d < K' → p + d = l.length + 1 → (∀ i, 0 ≤ f i) →
    iter (fixed_Assign.r2 K bs x) K' ((p : Int), prio l f) = some (match asg l bs d p f with | some g => .inl (prio l g) | none => .inr ([], ⟨13, 0⟩))
  | d, p, 0, f, hK', hp, hf => by omega
  | 0, p, K' + 1, f, hK', hp, hf => by
    simp only [iter, fixed_Assign.r2, prio_len, asg]
    rw [if_neg (by omega)]
  | d + 1, p, K' + 1, f, hK', hp, hf => by
    have hs := asg_scan l bs f hl hl8 hbl hb hf K hK l.length 0 K (by omega) (by omega)
    rw [show ((0 : Nat) : Int) = 0 from rfl] at hs
    simp only [iter, fixed_Assign.r2, prio_len]
    rw [if_pos (by omega), hs]
    simp only [asg]
    rcases least_spec (canB l bs f) l.length 0 with ⟨h1, h2⟩ | ⟨k, h1, h2, h3, h4⟩
    · rw [h1]
      simp
    · rw [h4, if_neg (by omega), if_pos (by omega), if_neg (by omega)]
      have hkl : k < l.length := by omega
      obtain ⟨t, ht⟩ : ∃ t, l[k]? = some t := ⟨l[k], List.getElem?_eq_getElem hkl⟩
      have e1 : IntKind.i64.wrap ((p : Int) + 1) = ((p + 1 : Nat) : Int) := by rw [wrap64_small (by omega) (by omega)]; omega
      simp only [Int.toNat_natCast, prio_get, ht, Option.map_some, e1]
      rw [show (⟨(withP t (f k)).Name, (withP t (f k)).C, (withP t (f k)).T, (withP t (f k)).D, (withP t (f k)).J, (withP t (f k)).O, (p : Int)⟩ : STask) = withP t (p : Int) from rfl, prio_set _ ht]
      exact asg_loop l bs hl hl8 hbl hb K hK x d (p + 1) K' _ (by omega) (by omega) (fun i => by split; omega; exact hf i)
theorem asg_clear (l x : List STask) (hx : x = l) (K0 : Nat) : ∀ (d i K : Nat), d < K → i + d = l.length → l.length ≤ 8 →
    iter (fixed_Assign.r1 x) K ((i : Int), l.mapIdx fun j t => if j < i then withP t 0 else t) = some (.inl (prio l (fun _ => 0)))
  | 0, i, K + 1, hK, hi, h8 => by
    subst hx
    obtain rfl : i = x.length := by omega
    simp only [iter, fixed_Assign.r1]
    rw [if_neg (by omega)]
    refine congrArg (fun z => some (Sum.inl z)) ?_
    apply List.ext_getElem?
    intro j
    rw [prio_get, List.getElem?_mapIdx]
    cases hj : x[j]? with
    | none => rfl
    | some u => simp [lt_of_get hj]
  | d + 1, i, K + 1, hK, hi, h8 => by
    subst hx
    have hil : i < x.length := by omega
    obtain ⟨t, ht⟩ : ∃ t, x[i]? = some t := ⟨x[i], List.getElem?_eq_getElem hil⟩
    have e1 : IntKind.i64.wrap ((i : Int) + 1) = ((i + 1 : Nat) : Int) := by rw [wrap64_small (by omega) (by omega)]; omega
    simp only [iter, fixed_Assign.r1, Int.toNat_natCast, List.getElem?_mapIdx, ht, Option.map_some, e1]
    rw [if_pos (by omega), if_pos (by omega)]
    simp only [Nat.lt_irrefl, if_false]
    rw [show (x.mapIdx fun j t => if j < i then withP t 0 else t).set i (⟨t.Name, t.C, t.T, t.D, t.J, t.O, 0⟩ : STask) = x.mapIdx fun j t => if j < i + 1 then withP t 0 else t from ?_]
    · exact asg_clear x x rfl K0 d (i + 1) K (by omega) (by omega) h8
    · apply List.ext_getElem?
      intro j
      rw [List.getElem?_set, List.getElem?_mapIdx, List.getElem?_mapIdx]
      by_cases e : i = j
      · subst e
        rw [if_pos rfl, if_pos (by simpa using hil), ht]
        simp [withP]
      · rw [if_neg e]
        cases x[j]? with
        | none => rfl
        | some u => simp [show (j < i) = (j < i + 1) from propext (by omega)]
theorem Assign_eq (l : List STask) (bs : List Int) (K : Nat) (hK : 20100 ≤ K) : fixed_Assign.f K l bs = some (assignOf l bs) := by
  unfold fixed_Assign.f assignOf
  rw [check_eq l K (by omega)]
  simp only
  by_cases hc : (fixedFault l).Code = 0
  · rw [if_pos hc, if_pos hc]
    have hset := (fixedFault_ok hc).1
    have hl := okt_of hset
    have hl8 := (setFault_ok hset).2.1
    by_cases hlen : bs.length = l.length
    · have hcb := contains_bad bs K (by omega)
      by_cases hb : ∀ b ∈ bs, 0 ≤ b ∧ b ≤ 10000
      · rw [if_pos ⟨hlen, hb⟩]
        have hp0 : fixed_Assign.p0 K l bs = some (.inl ()) := by
          unfold fixed_Assign.p0
          rw [show decide (¬ ∀ b ∈ bs, 0 ≤ b ∧ b ≤ 10000) = false from decide_eq_false (fun h => h hb)] at hcb
          rw [if_pos (by omega), hcb]
          rfl
        have hcl : slices_Clone_api_Task_api_Task.f l = some l := by unfold slices_Clone_api_Task_api_Task.f; rw [if_pos (by omega)]
        have h1 := asg_clear l l rfl 0 l.length 0 K (by omega) (by omega) hl8
        have e0 : (l.mapIdx fun j t => if j < 0 then withP t 0 else t) = l := by
          apply List.ext_getElem?
          intro j
          rw [List.getElem?_mapIdx]
          cases l[j]? <;> simp
        rw [e0, show ((0 : Nat) : Int) = 0 from rfl] at h1
        have h2 := asg_loop l bs hl hl8 hlen hb K hK l l.length 1 K (fun _ => 0) (by omega) (by omega) (fun _ => Int.le_refl _)
        rw [show ((1 : Nat) : Int) = 1 from rfl] at h2
        simp only [hp0, hcl, h1, h2]
        cases asg l bs l.length 1 (fun _ => 0) <;> rfl
      · rw [if_neg (fun h => hb h.2)]
        have hp0 : fixed_Assign.p0 K l bs = some (.inr ([], ⟨2, 0⟩)) := by
          unfold fixed_Assign.p0
          rw [if_pos (by omega), hcb]
          simp only [decide_eq_true hb, if_true]
        simp only [hp0]
    · rw [if_neg (fun h => hlen h.1)]
      have hp0 : fixed_Assign.p0 K l bs = some (.inr ([], ⟨2, 0⟩)) := by
        unfold fixed_Assign.p0
        rw [if_neg (by omega)]
      simp only [hp0]
  · rw [if_neg hc, if_neg hc]

/-- the places of a set -/
def iota (n : Nat) : List Int := (List.range n).map fun (i : Nat) => (i : Int)
theorem mem_iota {n : Nat} {x : Int} : x ∈ iota n ↔ ∃ k : Nat, k < n ∧ x = (k : Int) := by
  unfold iota
  rw [List.mem_map]
  constructor
  · rintro ⟨k, hk, rfl⟩; exact ⟨k, List.mem_range.1 hk, rfl⟩
  · rintro ⟨k, hk, rfl⟩; exact ⟨k, List.mem_range.2 hk, rfl⟩
theorem iota_lt {n : Nat} : (iota n).Pairwise (fun x y : Int => x < y) := by
  unfold iota
  rw [List.pairwise_map]
  exact List.pairwise_lt_range.imp fun h => by omega
/-- how many go behind it, and one -/
def rk (key : Int → Int) (n : Nat) (x : Int) : Int := 1 + (((iota n).countP fun y => decide (key x < key y ∨ (key x = key y ∧ x < y)) : Nat) : Int)
theorem rk_at {key : Int → Int} {n : Nat} {s : List Int} (p : s.Perm (iota n)) (hs : s.Pairwise (Lex key (fun x => x))) {k : Nat} {x : Int} (hx : s[k]? = some x) : rk key n x = (n : Int) - (k : Int) := by
  have hk := lt_of_get hx
  have hn : s.length = n := by rw [p.length_eq]; simp [iota]
  have e : s = s.take k ++ x :: s.drop (k + 1) := by
    have h1 : s.drop k = x :: s.drop (k + 1) := by
      rw [List.drop_eq_getElem_cons hk]
      congr 1
      exact (List.getElem?_eq_some_iff.1 hx).2
    rw [← h1, List.take_append_drop]
  rw [e] at hs
  obtain ⟨p1, p2, p3⟩ := List.pairwise_append.1 hs
  have p4 := (List.pairwise_cons.1 p2).1
  have h1 : (s.take k).countP (fun y => decide (key x < key y ∨ (key x = key y ∧ x < y))) = 0 := by
    rw [List.countP_eq_zero]
    intro y hy
    have := p3 y hy x (by simp)
    rw [decide_eq_true_eq]
    simp only [Lex] at this
    rcases this with h | ⟨h, h'⟩ <;> omega
  have h2 : (s.drop (k + 1)).countP (fun y => decide (key x < key y ∨ (key x = key y ∧ x < y))) = (s.drop (k + 1)).length := by
    rw [List.countP_eq_length]
    intro y hy
    rw [decide_eq_true_eq]
    exact p4 y hy
  unfold rk
  rw [← p.countP_eq, e, List.countP_append, List.countP_cons, h1, h2]
  have h3 : decide (key x < key x ∨ (key x = key x ∧ x < x)) = false := decide_eq_false (by omega)
  rw [h3]
  simp only [List.length_drop]
  simp
  omega

/-- is it a place in the set? -/
def okIT (l : List STask) (x : Int) : Prop := 0 ≤ x ∧ x < (l.length : Int)
def keyT (l : List STask) (x : Int) : Int := match l[x.toNat]? with | some t => t.T | none => 0
theorem cmpT_eq {l : List STask} {x y : Int} (hx : okIT l x) (hy : okIT l y) : fixed_ranked_1.f x y l = some (cmp_Compare_int.f (keyT l x) (keyT l y)) := by
  have h1 : x.toNat < l.length := by have := hx.1; have := hx.2; omega
  have h2 : y.toNat < l.length := by have := hy.1; have := hy.2; omega
  simp only [fixed_ranked_1.f, keyT, List.getElem?_eq_getElem h1, List.getElem?_eq_getElem h2]
  rw [if_pos hx.1, if_pos hy.1]
  rfl
theorem insT_down (l0 : List STask) (pre : List Int) (x : Int) (N : Nat) (hN : N ≤ 100000) (hx : okIT l0 x) (n : Nat) (s post : List Int) (K : Nat) (hok : ∀ y ∈ s, okIT l0 y) (hn : s.length = n) (hK : n < K) (hL : (pre ++ s ++ x :: post).length = N) :
    ∃ s1 s2, s = s1 ++ s2 ∧ (∀ y ∈ s2, keyT l0 x < keyT l0 y) ∧ (∀ y ∈ s1.getLast?, ¬ keyT l0 x < keyT l0 y) ∧ iter (slices_insertionSortCmpFunc_int.r1 (pre.length : Int) l0) K (((pre.length + s.length : Nat) : Int), pre ++ s ++ x :: post) = some (.inl (pre ++ s1 ++ x :: s2 ++ post)) := by
  refine down (okIT l0) (lt := fun x y : Int => keyT l0 x < keyT l0 y) (slices_insertionSortCmpFunc_int.r1 (pre.length : Int) l0) pre x N (fun m hm => ?_) (fun s post y hy hm => ?_) n s post K hok hn hK hL
  · simp only [slices_insertionSortCmpFunc_int.r1]
    rw [if_neg (by omega)]
  · have hb : pre.length + s.length + 2 ≤ 100000 := by simp at hm; omega
    have e1 : IntKind.i64.wrap (((pre.length + s.length + 1 : Nat) : Int) - 1) = ((pre.length + s.length : Nat) : Int) := by rw [wrap64_small (by omega) (by omega)]; omega
    have g1 : (pre ++ s ++ y :: x :: post)[pre.length + s.length + 1]? = some x := get_atL (pre ++ s ++ [y]) post x (by simp) (by simp; omega)
    have g2 : (pre ++ s ++ y :: x :: post)[pre.length + s.length]? = some y := get_atL (pre ++ s) (x :: post) y (by simp) (by simp)
    have s1 : (pre ++ s ++ y :: x :: post).set (pre.length + s.length + 1) y = pre ++ s ++ [y] ++ y :: post := set_atL (pre ++ s ++ [y]) post x y (by simp) (by simp; omega)
    have g3 : (pre ++ s ++ [y] ++ y :: post)[pre.length + s.length]? = some y := get_atL (pre ++ s) (y :: post) y (by simp) (by simp)
    have s2 : (pre ++ s ++ [y] ++ y :: post).set (pre.length + s.length) x = pre ++ s ++ x :: y :: post := set_atL (pre ++ s) (y :: post) y x (by simp) (by simp)
    simp only [slices_insertionSortCmpFunc_int.r1, e1, Int.toNat_natCast, g1, g2, s1, g3, s2, cmpT_eq hx hy, comp_lt]
    rw [if_pos (by omega), if_pos (by omega), if_pos (by omega)]
    by_cases h : keyT l0 x < keyT l0 y <;> simp [h]
theorem insT_eq (l0 : List STask) (seg : List Int) (K : Nat) (hN : seg.length ≤ 100000) (hK : seg.length < K) (hok : ∀ y ∈ seg, okIT l0 y) (hq : seg.Pairwise (Qq (keyT l0) (fun x => x))) :
    ∃ s', s'.Perm seg ∧ s'.Pairwise (Lex (keyT l0) (fun x => x)) ∧ slices_insertionSortCmpFunc_int.f K seg 0 (seg.length : Int) l0 = some s' := by
  have e0 : IntKind.i64.wrap ((0 : Int) + 1) = ((0 + 1 : Nat) : Int) := by rw [wrap64_small (by omega) (by omega)]; rfl
  rcases seg with _ | ⟨x, rest⟩
  · refine ⟨[], by simp, by simp, ?_⟩
    cases K with
    | zero => simp at hK
    | succ K =>
      simp only [slices_insertionSortCmpFunc_int.f, iter, slices_insertionSortCmpFunc_int.r0, e0]
      rw [if_neg (by simp)]
  · obtain ⟨s', p, hs, hr⟩ := insOuter (okIT l0) (key := keyT l0) (tie := fun x => x) (slices_insertionSortCmpFunc_int.r0 K 0 ((x :: rest).length : Int) l0) [] [] (x :: rest).length
      (fun s rest' y hoks h0 hL hs hq' => by
        simp only [List.nil_append, List.append_nil, List.length_nil, Nat.zero_add] at hL ⊢
        have hl : s.length + 1 ≤ (x :: rest).length := by simp at hL ⊢; omega
        have hK' : s.length < K := by simp at hK hl; omega
        obtain ⟨s1, s2, rfl, h1, h2, h3⟩ := insT_down l0 [] y _ hN (hoks y (by simp)) s.length s rest' K (fun z hz => hoks z (by simp [hz])) rfl hK' (by rw [← hL]; simp)
        simp only [List.nil_append, List.length_nil, Nat.zero_add] at h3
        rw [show ((0 : Nat) : Int) = 0 from rfl] at h3
        refine ⟨s1 ++ y :: s2, by rw [List.append_assoc]; exact (List.Perm.append_left s1 (List.perm_append_comm (l₁ := [y]) (l₂ := s2))), down_lex hs hq' h1 h2, ?_⟩
        simp only [slices_insertionSortCmpFunc_int.r0]
        rw [if_pos (by simp only [List.length_append] at hl ⊢; omega), h3]
        have e1 : IntKind.i64.wrap (((s1 ++ s2).length : Int) + 1) = (((s1 ++ s2).length + 1 : Nat) : Int) := by rw [wrap64_small (by omega) (by omega)]; omega
        simp only [e1])
      (fun z m hm hz => by
        simp only [slices_insertionSortCmpFunc_int.r0]
        rw [if_neg (by simp at hz ⊢; omega)]) rest [x] K (by simpa using hok) (by simp) (by simp at hK; omega) (by simp) (by simp) (by simpa using hq)
    simp only [List.nil_append, List.append_nil, List.length_nil, List.length_cons, Nat.zero_add, List.singleton_append] at hr p
    refine ⟨s', p, hs, ?_⟩
    simp only [slices_insertionSortCmpFunc_int.f, e0, List.length_cons]
    rw [hr]
theorem sortT_eq (l0 : List STask) (seg : List Int) (K : Nat) (hN : seg.length ≤ 19) (hK : 20 < K) (hok : ∀ y ∈ seg, okIT l0 y) (hq : seg.Pairwise (Qq (keyT l0) (fun x => x))) :
    ∃ s', s'.Perm seg ∧ s'.Pairwise (Lex (keyT l0) (fun x => x)) ∧ slices_SortStableFunc_int_int.f K seg l0 = some s' := by
  obtain ⟨s', p, hs, hr⟩ := insT_eq l0 seg K (by omega) (by omega) hok hq
  refine ⟨s', p, hs, ?_⟩
  rcases K with _ | K
  · omega
  have h1 : iter (slices_stableCmpFunc_int.r0 (K + 1) (seg.length : Int) l0) (K + 1) (0, 20, seg) = some (.inl (0, seg)) := by
    simp only [iter, slices_stableCmpFunc_int.r0]
    rw [if_neg (by omega)]
  have h2 : iter (slices_stableCmpFunc_int.r1 (K + 1) (seg.length : Int) l0 s') (K + 1) (20, s') = some (.inl s') := by
    simp only [iter, slices_stableCmpFunc_int.r1]
    rw [if_neg (by omega)]
  simp only [slices_SortStableFunc_int_int.f, slices_stableCmpFunc_int.f, h1, hr, h2]
theorem rankedT_init (l0 : List STask) (h8 : l0.length ≤ 8) : ∀ (d i K : Nat), d < K → i + d = l0.length →
    iter (fixed_ranked.r0 l0) K ((i : Int), (List.range l0.length).map fun (j : Nat) => if j < i then (j : Int) else 0) = some (.inl (iota l0.length))
  | 0, i, K + 1, hK, hi => by
    obtain rfl : i = l0.length := by omega
    simp only [iter, fixed_ranked.r0, List.length_replicate]
    rw [if_neg (by omega)]
    refine congrArg (fun z => some (Sum.inl z)) ?_
    unfold iota
    refine List.map_congr_left fun j hj => ?_
    rw [if_pos (List.mem_range.1 hj)]
  | d + 1, i, K + 1, hK, hi => by
    have hil : i < l0.length := by omega
    have e1 : IntKind.i64.wrap ((i : Int) + 1) = ((i + 1 : Nat) : Int) := by rw [wrap64_small (by omega) (by omega)]; omega
    have ih := rankedT_init l0 h8 d (i + 1) K (by omega) (by omega)
    simp only [iter, fixed_ranked.r0, List.length_replicate, Int.toNat_natCast, List.getElem?_map, List.getElem?_range hil, Option.map_some, e1]
    rw [if_pos (by omega), if_pos (by omega)]
    simp only
    rw [← ih]
    congr 2
    apply List.ext_getElem?
    intro j
    rw [List.getElem?_set, List.getElem?_map, List.getElem?_map]
    by_cases e : i = j
    · subst e
      rw [if_pos rfl, if_pos (by simpa using hil), List.getElem?_range hil]
      simp
    · rw [if_neg e]
      by_cases hj : j < l0.length
      · rw [List.getElem?_range hj]
        simp [show (j < i) = (j < i + 1) from propext (by omega)]
      · rw [List.getElem?_eq_none (by simpa using hj)]
        rfl
theorem rankedT_put (l0 : List STask) (h8 : l0.length ≤ 8) (s : List Int) (hs : s.Perm (iota l0.length)) (f : Nat → Int) (hf : ∀ (k : Nat) (x : Int), s[k]? = some x → f x.toNat = (l0.length : Int) - (k : Int)) : ∀ (d i K : Nat), d < K → i + d = s.length →
    iter (fixed_ranked.r1 l0 s) K (i, l0.mapIdx fun j t => if (j : Int) ∈ s.take i then withP t (f j) else t) = some (.inl (prio l0 f))
  | 0, i, K + 1, hK, hi => by
    obtain rfl : i = s.length := by omega
    simp only [iter, fixed_ranked.r1]
    rw [if_neg (by omega)]
    refine congrArg (fun z => some (Sum.inl z)) ?_
    apply List.ext_getElem?
    intro j
    rw [prio_get, List.getElem?_mapIdx]
    cases hj : l0[j]? with
    | none => rfl
    | some u =>
      have hm : (j : Int) ∈ s := hs.mem_iff.2 (mem_iota.2 ⟨j, lt_of_get hj, rfl⟩)
      simp [hm]
  | d + 1, i, K + 1, hK, hi => by
    have hil : i < s.length := by omega
    have hsl : s.length = l0.length := by rw [hs.length_eq]; simp [iota]
    obtain ⟨x, hx⟩ : ∃ x, s[i]? = some x := ⟨s[i], List.getElem?_eq_getElem hil⟩
    obtain ⟨n, hn, rfl⟩ := mem_iota.1 (hs.mem_iff.1 (List.mem_of_getElem? hx))
    obtain ⟨t, ht⟩ : ∃ t, l0[n]? = some t := ⟨l0[n], List.getElem?_eq_getElem hn⟩
    have e1 : IntKind.i64.wrap ((l0.length : Int) - (i : Int)) = (l0.length : Int) - (i : Int) := wrap64_small (by omega) (by omega)
    have ih := rankedT_put l0 h8 s hs f hf d (i + 1) K (by omega) (by omega)
    have hfx := hf i (n : Int) hx
    rw [Int.toNat_natCast] at hfx
    simp only [iter, fixed_ranked.r1, hx, Int.toNat_natCast, List.getElem?_mapIdx, ht, Option.map_some, e1]
    rw [if_pos (by omega), if_pos (by omega)]
    simp only
    rw [← ih]
    congr 2
    apply List.ext_getElem?
    intro j
    rw [List.getElem?_set, List.getElem?_mapIdx, List.getElem?_mapIdx]
    have htk : s.take (i + 1) = s.take i ++ [(n : Int)] := by rw [List.take_add_one, hx]; rfl
    by_cases e : n = j
    · subst e
      rw [if_pos rfl, if_pos (by simpa using hn), ht]
      simp only [Option.map_some, htk, List.mem_append, List.mem_singleton, or_true, if_true]
      rw [← hfx]
      split <;> rfl
    · rw [if_neg e]
      cases l0[j]? with
      | none => rfl
      | some u =>
        simp only [Option.map_some, htk, List.mem_append, List.mem_singleton]
        have : ((j : Int) ∈ s.take i ∨ (j : Int) = (n : Int)) ↔ ((j : Int) ∈ s.take i) := ⟨fun h => h.elim id (fun h => by omega), .inl⟩
        simp only [this]
theorem rankedT_eq (l0 : List STask) (h8 : l0.length ≤ 8) (K : Nat) (hK : 100 ≤ K) : fixed_ranked.f K l0 = some (prio l0 fun i => rk (keyT l0) l0.length (i : Int)) := by
  have h1 := rankedT_init l0 h8 l0.length 0 K (by omega) (by omega)
  have e0 : ((List.range l0.length).map fun (j : Nat) => if j < 0 then (j : Int) else 0) = List.replicate l0.length (0 : Int) := by
    apply List.ext_getElem
    · simp
    · intro i h1 h2; simp
  rw [e0, show ((0 : Nat) : Int) = 0 from rfl] at h1
  obtain ⟨s, p, hs, hr⟩ := sortT_eq l0 (iota l0.length) K (by simp [iota]; omega) (by omega) (fun y hy => by obtain ⟨n, hn, rfl⟩ := mem_iota.1 hy; exact ⟨by omega, by omega⟩) (iota_lt.imp (S := Qq (keyT l0) (fun x => x)) fun h => fun _ => h)
  have hcl : slices_Clone_api_Task_api_Task.f l0 = some l0 := by unfold slices_Clone_api_Task_api_Task.f; rw [if_pos (by omega)]
  have h2 := rankedT_put l0 h8 s p (fun i => rk (keyT l0) l0.length (i : Int)) (fun k x hx => by
    obtain ⟨n, hn, rfl⟩ := mem_iota.1 (p.mem_iff.1 (List.mem_of_getElem? hx))
    rw [Int.toNat_natCast]
    exact rk_at p hs hx) s.length 0 K (by rw [p.length_eq]; simp [iota]; omega) (by omega)
  have e2 : (l0.mapIdx fun j t => if (j : Int) ∈ s.take 0 then withP t (rk (keyT l0) l0.length (j : Int)) else t) = l0 := by
    apply List.ext_getElem?
    intro j
    rw [List.getElem?_mapIdx]
    cases l0[j]? <;> simp
  rw [e2] at h2
  unfold fixed_ranked.f
  rw [if_pos (by omega)]
  simp only [h1, hr, hcl, h2]

/-- is it a place in the set? -/
def okID (l : List STask) (x : Int) : Prop := 0 ≤ x ∧ x < (l.length : Int)
def keyD (l : List STask) (x : Int) : Int := match l[x.toNat]? with | some t => t.D | none => 0
theorem cmpD_eq {l : List STask} {x y : Int} (hx : okID l x) (hy : okID l y) : fixed_ranked_1_1.f x y l = some (cmp_Compare_int.f (keyD l x) (keyD l y)) := by
  have h1 : x.toNat < l.length := by have := hx.1; have := hx.2; omega
  have h2 : y.toNat < l.length := by have := hy.1; have := hy.2; omega
  simp only [fixed_ranked_1_1.f, keyD, List.getElem?_eq_getElem h1, List.getElem?_eq_getElem h2]
  rw [if_pos hx.1, if_pos hy.1]
  rfl
theorem insD_down (l0 : List STask) (pre : List Int) (x : Int) (N : Nat) (hN : N ≤ 100000) (hx : okID l0 x) (n : Nat) (s post : List Int) (K : Nat) (hok : ∀ y ∈ s, okID l0 y) (hn : s.length = n) (hK : n < K) (hL : (pre ++ s ++ x :: post).length = N) :
    ∃ s1 s2, s = s1 ++ s2 ∧ (∀ y ∈ s2, keyD l0 x < keyD l0 y) ∧ (∀ y ∈ s1.getLast?, ¬ keyD l0 x < keyD l0 y) ∧ iter (slices_insertionSortCmpFunc_int_1.r1 (pre.length : Int) l0) K (((pre.length + s.length : Nat) : Int), pre ++ s ++ x :: post) = some (.inl (pre ++ s1 ++ x :: s2 ++ post)) := by
  refine down (okID l0) (lt := fun x y : Int => keyD l0 x < keyD l0 y) (slices_insertionSortCmpFunc_int_1.r1 (pre.length : Int) l0) pre x N (fun m hm => ?_) (fun s post y hy hm => ?_) n s post K hok hn hK hL
  · simp only [slices_insertionSortCmpFunc_int_1.r1]
    rw [if_neg (by omega)]
  · have hb : pre.length + s.length + 2 ≤ 100000 := by simp at hm; omega
    have e1 : IntKind.i64.wrap (((pre.length + s.length + 1 : Nat) : Int) - 1) = ((pre.length + s.length : Nat) : Int) := by rw [wrap64_small (by omega) (by omega)]; omega
    have g1 : (pre ++ s ++ y :: x :: post)[pre.length + s.length + 1]? = some x := get_atL (pre ++ s ++ [y]) post x (by simp) (by simp; omega)
    have g2 : (pre ++ s ++ y :: x :: post)[pre.length + s.length]? = some y := get_atL (pre ++ s) (x :: post) y (by simp) (by simp)
    have s1 : (pre ++ s ++ y :: x :: post).set (pre.length + s.length + 1) y = pre ++ s ++ [y] ++ y :: post := set_atL (pre ++ s ++ [y]) post x y (by simp) (by simp; omega)
    have g3 : (pre ++ s ++ [y] ++ y :: post)[pre.length + s.length]? = some y := get_atL (pre ++ s) (y :: post) y (by simp) (by simp)
    have s2 : (pre ++ s ++ [y] ++ y :: post).set (pre.length + s.length) x = pre ++ s ++ x :: y :: post := set_atL (pre ++ s) (y :: post) y x (by simp) (by simp)
    simp only [slices_insertionSortCmpFunc_int_1.r1, e1, Int.toNat_natCast, g1, g2, s1, g3, s2, cmpD_eq hx hy, comp_lt]
    rw [if_pos (by omega), if_pos (by omega), if_pos (by omega)]
    by_cases h : keyD l0 x < keyD l0 y <;> simp [h]
theorem insD_eq (l0 : List STask) (seg : List Int) (K : Nat) (hN : seg.length ≤ 100000) (hK : seg.length < K) (hok : ∀ y ∈ seg, okID l0 y) (hq : seg.Pairwise (Qq (keyD l0) (fun x => x))) :
    ∃ s', s'.Perm seg ∧ s'.Pairwise (Lex (keyD l0) (fun x => x)) ∧ slices_insertionSortCmpFunc_int_1.f K seg 0 (seg.length : Int) l0 = some s' := by
  have e0 : IntKind.i64.wrap ((0 : Int) + 1) = ((0 + 1 : Nat) : Int) := by rw [wrap64_small (by omega) (by omega)]; rfl
  rcases seg with _ | ⟨x, rest⟩
  · refine ⟨[], by simp, by simp, ?_⟩
    cases K with
    | zero => simp at hK
    | succ K =>
      simp only [slices_insertionSortCmpFunc_int_1.f, iter, slices_insertionSortCmpFunc_int_1.r0, e0]
      rw [if_neg (by simp)]
  · obtain ⟨s', p, hs, hr⟩ := insOuter (okID l0) (key := keyD l0) (tie := fun x => x) (slices_insertionSortCmpFunc_int_1.r0 K 0 ((x :: rest).length : Int) l0) [] [] (x :: rest).length
      (fun s rest' y hoks h0 hL hs hq' => by
        simp only [List.nil_append, List.append_nil, List.length_nil, Nat.zero_add] at hL ⊢
        have hl : s.length + 1 ≤ (x :: rest).length := by simp at hL ⊢; omega
        have hK' : s.length < K := by simp at hK hl; omega
        obtain ⟨s1, s2, rfl, h1, h2, h3⟩ := insD_down l0 [] y _ hN (hoks y (by simp)) s.length s rest' K (fun z hz => hoks z (by simp [hz])) rfl hK' (by rw [← hL]; simp)
        simp only [List.nil_append, List.length_nil, Nat.zero_add] at h3
        rw [show ((0 : Nat) : Int) = 0 from rfl] at h3
        refine ⟨s1 ++ y :: s2, by rw [List.append_assoc]; exact (List.Perm.append_left s1 (List.perm_append_comm (l₁ := [y]) (l₂ := s2))), down_lex hs hq' h1 h2, ?_⟩
        simp only [slices_insertionSortCmpFunc_int_1.r0]
        rw [if_pos (by simp only [List.length_append] at hl ⊢; omega), h3]
        have e1 : IntKind.i64.wrap (((s1 ++ s2).length : Int) + 1) = (((s1 ++ s2).length + 1 : Nat) : Int) := by rw [wrap64_small (by omega) (by omega)]; omega
        simp only [e1])
      (fun z m hm hz => by
        simp only [slices_insertionSortCmpFunc_int_1.r0]
        rw [if_neg (by simp at hz ⊢; omega)]) rest [x] K (by simpa using hok) (by simp) (by simp at hK; omega) (by simp) (by simp) (by simpa using hq)
    simp only [List.nil_append, List.append_nil, List.length_nil, List.length_cons, Nat.zero_add, List.singleton_append] at hr p
    refine ⟨s', p, hs, ?_⟩
    simp only [slices_insertionSortCmpFunc_int_1.f, e0, List.length_cons]
    rw [hr]
theorem sortD_eq (l0 : List STask) (seg : List Int) (K : Nat) (hN : seg.length ≤ 19) (hK : 20 < K) (hok : ∀ y ∈ seg, okID l0 y) (hq : seg.Pairwise (Qq (keyD l0) (fun x => x))) :
    ∃ s', s'.Perm seg ∧ s'.Pairwise (Lex (keyD l0) (fun x => x)) ∧ slices_SortStableFunc_int_int_1.f K seg l0 = some s' := by
  obtain ⟨s', p, hs, hr⟩ := insD_eq l0 seg K (by omega) (by omega) hok hq
  refine ⟨s', p, hs, ?_⟩
  rcases K with _ | K
  · omega
  have h1 : iter (slices_stableCmpFunc_int_1.r0 (K + 1) (seg.length : Int) l0) (K + 1) (0, 20, seg) = some (.inl (0, seg)) := by
    simp only [iter, slices_stableCmpFunc_int_1.r0]
    rw [if_neg (by omega)]
  have h2 : iter (slices_stableCmpFunc_int_1.r1 (K + 1) (seg.length : Int) l0 s') (K + 1) (20, s') = some (.inl s') := by
    simp only [iter, slices_stableCmpFunc_int_1.r1]
    rw [if_neg (by omega)]
  simp only [slices_SortStableFunc_int_int_1.f, slices_stableCmpFunc_int_1.f, h1, hr, h2]
theorem rankedD_init (l0 : List STask) (h8 : l0.length ≤ 8) : ∀ (d i K : Nat), d < K → i + d = l0.length →
    iter (fixed_ranked_v1.r0 l0) K ((i : Int), (List.range l0.length).map fun (j : Nat) => if j < i then (j : Int) else 0) = some (.inl (iota l0.length))
  | 0, i, K + 1, hK, hi => by
    obtain rfl : i = l0.length := by omega
    simp only [iter, fixed_ranked_v1.r0, List.length_replicate]
    rw [if_neg (by omega)]
    refine congrArg (fun z => some (Sum.inl z)) ?_
    unfold iota
    refine List.map_congr_left fun j hj => ?_
    rw [if_pos (List.mem_range.1 hj)]
  | d + 1, i, K + 1, hK, hi => by
    have hil : i < l0.length := by omega
    have e1 : IntKind.i64.wrap ((i : Int) + 1) = ((i + 1 : Nat) : Int) := by rw [wrap64_small (by omega) (by omega)]; omega
    have ih := rankedD_init l0 h8 d (i + 1) K (by omega) (by omega)
    simp only [iter, fixed_ranked_v1.r0, List.length_replicate, Int.toNat_natCast, List.getElem?_map, List.getElem?_range hil, Option.map_some, e1]
    rw [if_pos (by omega), if_pos (by omega)]
    simp only
    rw [← ih]
    congr 2
    apply List.ext_getElem?
    intro j
    rw [List.getElem?_set, List.getElem?_map, List.getElem?_map]
    by_cases e : i = j
    · subst e
      rw [if_pos rfl, if_pos (by simpa using hil), List.getElem?_range hil]
      simp
    · rw [if_neg e]
      by_cases hj : j < l0.length
      · rw [List.getElem?_range hj]
        simp [show (j < i) = (j < i + 1) from propext (by omega)]
      · rw [List.getElem?_eq_none (by simpa using hj)]
        rfl
theorem rankedD_put (l0 : List STask) (h8 : l0.length ≤ 8) (s : List Int) (hs : s.Perm (iota l0.length)) (f : Nat → Int) (hf : ∀ (k : Nat) (x : Int), s[k]? = some x → f x.toNat = (l0.length : Int) - (k : Int)) : ∀ (d i K : Nat), d < K → i + d = s.length →
    iter (fixed_ranked_v1.r1 l0 s) K (i, l0.mapIdx fun j t => if (j : Int) ∈ s.take i then withP t (f j) else t) = some (.inl (prio l0 f))
  | 0, i, K + 1, hK, hi => by
    obtain rfl : i = s.length := by omega
    simp only [iter, fixed_ranked_v1.r1]
    rw [if_neg (by omega)]
    refine congrArg (fun z => some (Sum.inl z)) ?_
    apply List.ext_getElem?
    intro j
    rw [prio_get, List.getElem?_mapIdx]
    cases hj : l0[j]? with
    | none => rfl
    | some u =>
      have hm : (j : Int) ∈ s := hs.mem_iff.2 (mem_iota.2 ⟨j, lt_of_get hj, rfl⟩)
      simp [hm]
  | d + 1, i, K + 1, hK, hi => by
    have hil : i < s.length := by omega
    have hsl : s.length = l0.length := by rw [hs.length_eq]; simp [iota]
    obtain ⟨x, hx⟩ : ∃ x, s[i]? = some x := ⟨s[i], List.getElem?_eq_getElem hil⟩
    obtain ⟨n, hn, rfl⟩ := mem_iota.1 (hs.mem_iff.1 (List.mem_of_getElem? hx))
    obtain ⟨t, ht⟩ : ∃ t, l0[n]? = some t := ⟨l0[n], List.getElem?_eq_getElem hn⟩
    have e1 : IntKind.i64.wrap ((l0.length : Int) - (i : Int)) = (l0.length : Int) - (i : Int) := wrap64_small (by omega) (by omega)
    have ih := rankedD_put l0 h8 s hs f hf d (i + 1) K (by omega) (by omega)
    have hfx := hf i (n : Int) hx
    rw [Int.toNat_natCast] at hfx
    simp only [iter, fixed_ranked_v1.r1, hx, Int.toNat_natCast, List.getElem?_mapIdx, ht, Option.map_some, e1]
    rw [if_pos (by omega), if_pos (by omega)]
    simp only
    rw [← ih]
    congr 2
    apply List.ext_getElem?
    intro j
    rw [List.getElem?_set, List.getElem?_mapIdx, List.getElem?_mapIdx]
    have htk : s.take (i + 1) = s.take i ++ [(n : Int)] := by rw [List.take_add_one, hx]; rfl
    by_cases e : n = j
    · subst e
      rw [if_pos rfl, if_pos (by simpa using hn), ht]
      simp only [Option.map_some, htk, List.mem_append, List.mem_singleton, or_true, if_true]
      rw [← hfx]
      split <;> rfl
    · rw [if_neg e]
      cases l0[j]? with
      | none => rfl
      | some u =>
        simp only [Option.map_some, htk, List.mem_append, List.mem_singleton]
        have : ((j : Int) ∈ s.take i ∨ (j : Int) = (n : Int)) ↔ ((j : Int) ∈ s.take i) := ⟨fun h => h.elim id (fun h => by omega), .inl⟩
        simp only [this]
theorem rankedD_eq (l0 : List STask) (h8 : l0.length ≤ 8) (K : Nat) (hK : 100 ≤ K) : fixed_ranked_v1.f K l0 = some (prio l0 fun i => rk (keyD l0) l0.length (i : Int)) := by
  have h1 := rankedD_init l0 h8 l0.length 0 K (by omega) (by omega)
  have e0 : ((List.range l0.length).map fun (j : Nat) => if j < 0 then (j : Int) else 0) = List.replicate l0.length (0 : Int) := by
    apply List.ext_getElem
    · simp
    · intro i h1 h2; simp
  rw [e0, show ((0 : Nat) : Int) = 0 from rfl] at h1
  obtain ⟨s, p, hs, hr⟩ := sortD_eq l0 (iota l0.length) K (by simp [iota]; omega) (by omega) (fun y hy => by obtain ⟨n, hn, rfl⟩ := mem_iota.1 hy; exact ⟨by omega, by omega⟩) (iota_lt.imp (S := Qq (keyD l0) (fun x => x)) fun h => fun _ => h)
  have hcl : slices_Clone_api_Task_api_Task.f l0 = some l0 := by unfold slices_Clone_api_Task_api_Task.f; rw [if_pos (by omega)]
  have h2 := rankedD_put l0 h8 s p (fun i => rk (keyD l0) l0.length (i : Int)) (fun k x hx => by
    obtain ⟨n, hn, rfl⟩ := mem_iota.1 (p.mem_iff.1 (List.mem_of_getElem? hx))
    rw [Int.toNat_natCast]
    exact rk_at p hs hx) s.length 0 K (by rw [p.length_eq]; simp [iota]; omega) (by omega)
  have e2 : (l0.mapIdx fun j t => if (j : Int) ∈ s.take 0 then withP t (rk (keyD l0) l0.length (j : Int)) else t) = l0 := by
    apply List.ext_getElem?
    intro j
    rw [List.getElem?_mapIdx]
    cases l0[j]? <;> simp
  rw [e2] at h2
  unfold fixed_ranked_v1.f
  rw [if_pos (by omega)]
  simp only [h1, hr, hcl, h2]

theorem rankcT (l0 : List STask) (h8 : l0.length ≤ 8) (i : Nat) (t : STask) (ht : l0[i]? = some t) : ∀ (d m K : Nat), d < K → m + d = l0.length →
    iter (punctualref_Ranked.r1 l0 i t) K (1 + (((iota m).countP fun y => decide (keyT l0 (i : Int) < keyT l0 y ∨ (keyT l0 (i : Int) = keyT l0 y ∧ (i : Int) < y)) : Nat) : Int), m) = some (.inl (rk (keyT l0) l0.length (i : Int)))
  | 0, m, K + 1, hK, hm => by
    obtain rfl : m = l0.length := by omega
    simp only [iter, punctualref_Ranked.r1]
    rw [if_neg (by omega)]
    rfl
  | d + 1, m, K + 1, hK, hm => by
    have hml : m < l0.length := by omega
    obtain ⟨u, hu⟩ : ∃ u, l0[m]? = some u := ⟨l0[m], List.getElem?_eq_getElem hml⟩
    have ih := rankcT l0 h8 i t ht d (m + 1) K (by omega) (by omega)
    have e : iota (m + 1) = iota m ++ [(m : Int)] := by simp [iota, List.range_succ]
    have k1 : keyT l0 (i : Int) = t.T := by simp only [keyT, Int.toNat_natCast, ht]
    have k2 : keyT l0 (m : Int) = u.T := by simp only [keyT, Int.toNat_natCast, hu]
    have hcm : (iota m).countP (fun y => decide (keyT l0 (i : Int) < keyT l0 y ∨ (keyT l0 (i : Int) = keyT l0 y ∧ (i : Int) < y))) ≤ m := by
      refine Nat.le_trans List.countP_le_length ?_
      simp [iota]
    rw [e, List.countP_append, List.countP_cons, List.countP_nil, k2] at ih
    simp only [iter, punctualref_Ranked.r1, hu]
    rw [if_pos (by omega)]
    generalize (iota m).countP (fun y => decide (keyT l0 (i : Int) < keyT l0 y ∨ (keyT l0 (i : Int) = keyT l0 y ∧ (i : Int) < y))) = c at *
    rw [k1] at ih
    have e1 : IntKind.i64.wrap (1 + (c : Int) + 1) = 1 + ((c + 1 : Nat) : Int) := by rw [wrap64_small (by omega) (by omega)]; omega
    rw [e1]
    by_cases h1 : FixedRanks_1.f u > FixedRanks_1.f t
    · rw [if_pos h1]
      rw [decide_eq_true (show t.T < u.T ∨ (t.T = u.T ∧ (i : Int) < (m : Int)) from .inl h1)] at ih
      exact ih
    · rw [if_neg h1]
      have h1' : ¬ u.T > t.T := h1
      by_cases h2 : FixedRanks_1.f u = FixedRanks_1.f t
      · have h2' : u.T = t.T := h2
        rw [if_pos h2]
        by_cases h3 : (m : Int) > (i : Int)
        · rw [if_pos h3]
          rw [decide_eq_true (show t.T < u.T ∨ (t.T = u.T ∧ (i : Int) < (m : Int)) from .inr ⟨h2'.symm, h3⟩)] at ih
          exact ih
        · rw [if_neg h3]
          rw [decide_eq_false (show ¬ (t.T < u.T ∨ (t.T = u.T ∧ (i : Int) < (m : Int))) by omega)] at ih
          exact ih
      · have h2' : ¬ u.T = t.T := h2
        rw [if_neg h2]
        rw [decide_eq_false (show ¬ (t.T < u.T ∨ (t.T = u.T ∧ (i : Int) < (m : Int))) by omega)] at ih
        exact ih
theorem ranklT (l0 : List STask) (h8 : l0.length ≤ 8) (x : SFault) (K : Nat) (hK : 20 ≤ K) : ∀ (d i K' : Nat), d < K' → i + d = l0.length →
    iter (punctualref_Ranked.r0 K l0 x) K' (i, l0.mapIdx fun j t => if j < i then withP t (rk (keyT l0) l0.length (j : Int)) else t) = some (.inl (prio l0 fun i => rk (keyT l0) l0.length (i : Int)))
  | 0, i, K' + 1, hK', hi => by
    obtain rfl : i = l0.length := by omega
    simp only [iter, punctualref_Ranked.r0]
    rw [if_neg (by omega)]
    refine congrArg (fun z => some (Sum.inl z)) ?_
    apply List.ext_getElem?
    intro j
    rw [prio_get, List.getElem?_mapIdx]
    cases hj : l0[j]? with
    | none => rfl
    | some u => simp [lt_of_get hj]
  | d + 1, i, K' + 1, hK', hi => by
    have hil : i < l0.length := by omega
    obtain ⟨t, ht⟩ : ∃ t, l0[i]? = some t := ⟨l0[i], List.getElem?_eq_getElem hil⟩
    have hc := rankcT l0 h8 i t ht l0.length 0 K (by omega) (by omega)
    simp only [iota, List.range_zero, List.map_nil, List.countP_nil] at hc
    rw [show (1 : Int) + ((0 : Nat) : Int) = 1 from rfl] at hc
    have ih := ranklT l0 h8 x K hK d (i + 1) K' (by omega) (by omega)
    simp only [iter, punctualref_Ranked.r0, ht, hc, List.getElem?_mapIdx, Option.map_some, Nat.lt_irrefl, if_false]
    rw [if_pos (by omega)]
    simp only
    rw [← ih]
    congr 2
    apply List.ext_getElem?
    intro j
    rw [List.getElem?_set, List.getElem?_mapIdx, List.getElem?_mapIdx]
    by_cases e : i = j
    · subst e
      rw [if_pos rfl, if_pos (by simpa using hil), ht]
      simp [withP]
    · rw [if_neg e]
      cases l0[j]? with
      | none => rfl
      | some u => simp [show (j < i) = (j < i + 1) from propext (by omega)]
theorem RankedT_eq (l0 : List STask) (hok : ∀ t ∈ l0, Ok.ok t) (K : Nat) (hK : 100 ≤ K) (hs : ∀ t ∈ l0, t.Name.size < K) : punctualref_Ranked.f K l0 = some (if (setFault l0).Code = 0 then (prio l0 fun i => rk (keyT l0) l0.length (i : Int), ⟨0, 0⟩) else ([], setFault l0)) := by
  unfold punctualref_Ranked.f
  rw [CheckSet_eq l0 hok K (by omega) hs]
  simp only
  by_cases h : (setFault l0).Code = 0
  · have h8 := (setFault_ok h).2.1
    have hl := ranklT l0 h8 (setFault l0) K (by omega) l0.length 0 K (by omega) (by omega)
    have e2 : (l0.mapIdx fun j t => if j < 0 then withP t (rk (keyT l0) l0.length (j : Int)) else t) = l0 := by
      apply List.ext_getElem?
      intro j
      rw [List.getElem?_mapIdx]
      cases l0[j]? <;> simp
    rw [e2] at hl
    rw [if_pos h, if_pos h, if_pos (by omega), hl]
  · rw [if_neg h, if_neg h]
theorem fixed_Rates_eq (l : List STask) (K : Nat) (hK : 100 ≤ K) : fixed_Rates.f K l = some (if (setFault l).Code = 0 then (prio l fun i => rk (keyT l) l.length (i : Int), ⟨0, 0⟩) else ([], setFault l)) := by
  unfold fixed_Rates.f
  rw [Check_eq l K (by omega)]
  simp only
  by_cases h : (setFault l).Code = 0
  · rw [if_pos h, if_pos h, rankedT_eq l (setFault_ok h).2.1 K hK]
  · rw [if_neg h, if_neg h]

theorem rankcD (l0 : List STask) (h8 : l0.length ≤ 8) (i : Nat) (t : STask) (ht : l0[i]? = some t) : ∀ (d m K : Nat), d < K → m + d = l0.length →
    iter (punctualref_Ranked_1.r1 l0 i t) K (1 + (((iota m).countP fun y => decide (keyD l0 (i : Int) < keyD l0 y ∨ (keyD l0 (i : Int) = keyD l0 y ∧ (i : Int) < y)) : Nat) : Int), m) = some (.inl (rk (keyD l0) l0.length (i : Int)))
  | 0, m, K + 1, hK, hm => by
    obtain rfl : m = l0.length := by omega
    simp only [iter, punctualref_Ranked_1.r1]
    rw [if_neg (by omega)]
    rfl
  | d + 1, m, K + 1, hK, hm => by
    have hml : m < l0.length := by omega
    obtain ⟨u, hu⟩ : ∃ u, l0[m]? = some u := ⟨l0[m], List.getElem?_eq_getElem hml⟩
    have ih := rankcD l0 h8 i t ht d (m + 1) K (by omega) (by omega)
    have e : iota (m + 1) = iota m ++ [(m : Int)] := by simp [iota, List.range_succ]
    have k1 : keyD l0 (i : Int) = t.D := by simp only [keyD, Int.toNat_natCast, ht]
    have k2 : keyD l0 (m : Int) = u.D := by simp only [keyD, Int.toNat_natCast, hu]
    have hcm : (iota m).countP (fun y => decide (keyD l0 (i : Int) < keyD l0 y ∨ (keyD l0 (i : Int) = keyD l0 y ∧ (i : Int) < y))) ≤ m := by
      refine Nat.le_trans List.countP_le_length ?_
      simp [iota]
    rw [e, List.countP_append, List.countP_cons, List.countP_nil, k2] at ih
    simp only [iter, punctualref_Ranked_1.r1, hu]
    rw [if_pos (by omega)]
    generalize (iota m).countP (fun y => decide (keyD l0 (i : Int) < keyD l0 y ∨ (keyD l0 (i : Int) = keyD l0 y ∧ (i : Int) < y))) = c at *
    rw [k1] at ih
    have e1 : IntKind.i64.wrap (1 + (c : Int) + 1) = 1 + ((c + 1 : Nat) : Int) := by rw [wrap64_small (by omega) (by omega)]; omega
    rw [e1]
    by_cases h1 : FixedRanks_2.f u > FixedRanks_2.f t
    · rw [if_pos h1]
      rw [decide_eq_true (show t.D < u.D ∨ (t.D = u.D ∧ (i : Int) < (m : Int)) from .inl h1)] at ih
      exact ih
    · rw [if_neg h1]
      have h1' : ¬ u.D > t.D := h1
      by_cases h2 : FixedRanks_2.f u = FixedRanks_2.f t
      · have h2' : u.D = t.D := h2
        rw [if_pos h2]
        by_cases h3 : (m : Int) > (i : Int)
        · rw [if_pos h3]
          rw [decide_eq_true (show t.D < u.D ∨ (t.D = u.D ∧ (i : Int) < (m : Int)) from .inr ⟨h2'.symm, h3⟩)] at ih
          exact ih
        · rw [if_neg h3]
          rw [decide_eq_false (show ¬ (t.D < u.D ∨ (t.D = u.D ∧ (i : Int) < (m : Int))) by omega)] at ih
          exact ih
      · have h2' : ¬ u.D = t.D := h2
        rw [if_neg h2]
        rw [decide_eq_false (show ¬ (t.D < u.D ∨ (t.D = u.D ∧ (i : Int) < (m : Int))) by omega)] at ih
        exact ih
theorem ranklD (l0 : List STask) (h8 : l0.length ≤ 8) (x : SFault) (K : Nat) (hK : 20 ≤ K) : ∀ (d i K' : Nat), d < K' → i + d = l0.length →
    iter (punctualref_Ranked_1.r0 K l0 x) K' (i, l0.mapIdx fun j t => if j < i then withP t (rk (keyD l0) l0.length (j : Int)) else t) = some (.inl (prio l0 fun i => rk (keyD l0) l0.length (i : Int)))
  | 0, i, K' + 1, hK', hi => by
    obtain rfl : i = l0.length := by omega
    simp only [iter, punctualref_Ranked_1.r0]
    rw [if_neg (by omega)]
    refine congrArg (fun z => some (Sum.inl z)) ?_
    apply List.ext_getElem?
    intro j
    rw [prio_get, List.getElem?_mapIdx]
    cases hj : l0[j]? with
    | none => rfl
    | some u => simp [lt_of_get hj]
  | d + 1, i, K' + 1, hK', hi => by
    have hil : i < l0.length := by omega
    obtain ⟨t, ht⟩ : ∃ t, l0[i]? = some t := ⟨l0[i], List.getElem?_eq_getElem hil⟩
    have hc := rankcD l0 h8 i t ht l0.length 0 K (by omega) (by omega)
    simp only [iota, List.range_zero, List.map_nil, List.countP_nil] at hc
    rw [show (1 : Int) + ((0 : Nat) : Int) = 1 from rfl] at hc
    have ih := ranklD l0 h8 x K hK d (i + 1) K' (by omega) (by omega)
    simp only [iter, punctualref_Ranked_1.r0, ht, hc, List.getElem?_mapIdx, Option.map_some, Nat.lt_irrefl, if_false]
    rw [if_pos (by omega)]
    simp only
    rw [← ih]
    congr 2
    apply List.ext_getElem?
    intro j
    rw [List.getElem?_set, List.getElem?_mapIdx, List.getElem?_mapIdx]
    by_cases e : i = j
    · subst e
      rw [if_pos rfl, if_pos (by simpa using hil), ht]
      simp [withP]
    · rw [if_neg e]
      cases l0[j]? with
      | none => rfl
      | some u => simp [show (j < i) = (j < i + 1) from propext (by omega)]
theorem RankedD_eq (l0 : List STask) (hok : ∀ t ∈ l0, Ok.ok t) (K : Nat) (hK : 100 ≤ K) (hs : ∀ t ∈ l0, t.Name.size < K) : punctualref_Ranked_1.f K l0 = some (if (setFault l0).Code = 0 then (prio l0 fun i => rk (keyD l0) l0.length (i : Int), ⟨0, 0⟩) else ([], setFault l0)) := by
  unfold punctualref_Ranked_1.f
  rw [CheckSet_eq l0 hok K (by omega) hs]
  simp only
  by_cases h : (setFault l0).Code = 0
  · have h8 := (setFault_ok h).2.1
    have hl := ranklD l0 h8 (setFault l0) K (by omega) l0.length 0 K (by omega) (by omega)
    have e2 : (l0.mapIdx fun j t => if j < 0 then withP t (rk (keyD l0) l0.length (j : Int)) else t) = l0 := by
      apply List.ext_getElem?
      intro j
      rw [List.getElem?_mapIdx]
      cases l0[j]? <;> simp
    rw [e2] at hl
    rw [if_pos h, if_pos h, if_pos (by omega), hl]
  · rw [if_neg h, if_neg h]
theorem fixed_Deadlines_eq (l : List STask) (K : Nat) (hK : 100 ≤ K) : fixed_Deadlines.f K l = some (if (setFault l).Code = 0 then (prio l fun i => rk (keyD l) l.length (i : Int), ⟨0, 0⟩) else ([], setFault l)) := by
  unfold fixed_Deadlines.f
  rw [Check_eq l K (by omega)]
  simp only
  by_cases h : (setFault l).Code = 0
  · rw [if_pos h, if_pos h, rankedD_eq l (setFault_ok h).2.1 K hK]
  · rw [if_neg h, if_neg h]

theorem mget_mset {κ ν : Type} [DecidableEq κ] (k k' : κ) (v : ν) : ∀ m : List (κ × ν), mget (mset m k v) k' = if k' = k then some v else mget m k'
  | [] => by simp only [mset, mget]
  | (a, b) :: r => by
    simp only [mset]
    by_cases h : k = a
    · subst h
      simp only [if_true, mget]
      by_cases h2 : k' = k
      · rw [if_pos h2, if_pos h2]
      · rw [if_neg h2, if_neg h2, if_neg h2]
    · rw [if_neg h]
      simp only [mget, mget_mset k k' v r]
      by_cases h2 : k' = a
      · rw [if_pos h2, if_neg (fun e => h (e.symm.trans h2)), if_pos h2]
      · rw [if_neg h2, if_neg h2]
/-- the map says what has been given -/
def Given (mp : List (Int × Int)) (f : Nat → Int) : Prop := ∀ i : Nat, mget mp (i : Int) = if f i = 0 then none else some (f i)
theorem Given.getD {mp : List (Int × Int)} {f : Nat → Int} (h : Given mp f) (i : Nat) : (mget mp (i : Int)).getD 0 = f i := by
  rw [h i]
  split
  · rename_i h0; rw [h0]; rfl
  · rfl
theorem ref_others (l : List STask) (mp : List (Int × Int)) (f : Nat → Int) (hg : Given mp f) (i : Nat) (hl8 : l.length ≤ 8) : ∀ (d k K : Nat), d < K → k + d = l.length →
    iter (punctualref_Assigned.r3 l mp (i : Int)) K (sel l (fun k => decide (k ≠ i) && decide (f k = 0)) k, k) = some (.inl (sel l (fun k => decide (k ≠ i) && decide (f k = 0)) l.length))
  | 0, k, K + 1, hK, hk => by
    obtain rfl : k = l.length := by omega
    simp only [iter, punctualref_Assigned.r3]
    rw [if_neg (by omega)]
  | d + 1, k, K + 1, hK, hk => by
    have hkl : k < l.length := by omega
    obtain ⟨t, ht⟩ : ∃ t, l[k]? = some t := ⟨l[k], List.getElem?_eq_getElem hkl⟩
    have ih := ref_others l mp f hg i hl8 d (k + 1) K (by omega) (by omega)
    have hlen := sel_len l (fun k => decide (k ≠ i) && decide (f k = 0)) k
    have es : sel l (fun k => decide (k ≠ i) && decide (f k = 0)) (k + 1) = sel l (fun k => decide (k ≠ i) && decide (f k = 0)) k ++ (if (decide (k ≠ i) && decide (f k = 0)) = true then [t] else []) := by simp only [sel, ht]
    rw [es] at ih
    simp only [iter, punctualref_Assigned.r3, ht, hg.getD]
    rw [if_pos (by omega)]
    by_cases h1 : k = i
    · rw [if_pos (by omega)]
      rw [if_neg (by simp [h1]), List.append_nil] at ih
      exact ih
    · rw [if_neg (by omega)]
      by_cases h2 : f k = 0
      · rw [if_pos h2, if_pos (by omega)]
        rw [if_pos (by simp [h1, h2])] at ih
        exact ih
      · rw [if_neg h2]
        rw [if_neg (by simp [h2]), List.append_nil] at ih
        exact ih
theorem ref_scan (l : List STask) (bs : List Int) (mp : List (Int × Int)) (f : Nat → Int) (hg : Given mp f) (hl : ∀ t ∈ l, Okt t) (hl8 : l.length ≤ 8) (hbl : bs.length = l.length) (hb : ∀ b ∈ bs, 0 ≤ b ∧ b ≤ 10000) (hf : ∀ i, 0 ≤ f i) (K : Nat) (hK : 20100 ≤ K) : ∀ (i K' : Nat), i < K' → i ≤ l.length →
    iter (punctualref_Assigned.r2 K l bs mp) K' (least (canB l bs f) (l.length - i) i, (i : Int) - 1) = some (.inl (least (canB l bs f) l.length 0))
  | 0, K' + 1, hK', hi => by
    simp only [iter, punctualref_Assigned.r2]
    rw [if_neg (by omega)]
    rfl
  | i + 1, K' + 1, hK', hi => by
    have hil : i < l.length := by omega
    obtain ⟨t, ht⟩ : ∃ t, l[i]? = some t := ⟨l[i], List.getElem?_eq_getElem hil⟩
    obtain ⟨b, hbi⟩ : ∃ b, bs[i]? = some b := ⟨bs[i]'(by omega), List.getElem?_eq_getElem (by omega)⟩
    have hto := hl t (List.mem_of_getElem? ht)
    have hbo := hb b (List.mem_of_getElem? hbi)
    have e0 : ((i + 1 : Nat) : Int) - 1 = (i : Int) := by omega
    have e1 : IntKind.i64.wrap ((i : Int) - 1) = (i : Int) - 1 := wrap64_small (by omega) (by omega)
    have ih := ref_scan l bs mp f hg hl hl8 hbl hb hf K hK i K' (by omega) (by omega)
    have hoth := ref_others l mp f hg i hl8 l.length 0 K (by omega) (by omega)
    simp only [sel] at hoth
    have hfi := hf i
    have el : l.length - i = (l.length - (i + 1)) + 1 := by omega
    rw [el] at ih
    simp only [iter, punctualref_Assigned.r2, e0, hg.getD, e1, hoth, Int.toNat_natCast, ht, hbi]
    rw [if_pos (by omega)]
    simp only [least] at ih
    by_cases h0 : f i > 0
    · rw [if_pos h0]
      have hc : canB l bs f i = false := by simp [canB, ht, hbi]; intro h; omega
      rw [hc] at ih
      exact ih
    · have h00 : f i = 0 := by omega
      rw [if_neg h0, if_pos (by omega)]
      have hlen := sel_len l (fun k => decide (k ≠ i) && decide (f k = 0)) l.length
      simp only [worst_eq t b (sel l (fun k => decide (k ≠ i) && decide (f k = 0)) l.length) hto hbo (fun o ho => hl o (sel_mem ho)) (by omega) K hK]
      by_cases hr : respond t (sel l (fun k => decide (k ≠ i) && decide (f k = 0)) l.length) b > 0
      · have hc : canB l bs f i = true := by simp only [canB, ht, hbi, Bool.and_eq_true, decide_eq_true_eq]; exact ⟨h00, hr⟩
        rw [hc, if_pos rfl] at ih
        rw [if_pos hr]
        exact ih
      · have hc : canB l bs f i = false := by simp only [canB, ht, hbi, decide_eq_false hr, Bool.and_false]
        rw [hc] at ih
        rw [if_neg hr]
        exact ih
theorem ref_loop (l : List STask) (bs : List Int) (hl : ∀ t ∈ l, Okt t) (hl8 : l.length ≤ 8) (hbl : bs.length = l.length) (hb : ∀ b ∈ bs, 0 ≤ b ∧ b ≤ 10000) (K : Nat) (hK : 20100 ≤ K) : ∀ (d p K' : Nat) (mp : List (Int × Int)) (f : Nat → Int), d < K' → p + d = l.length + 1 → 1 ≤ p → mp.length + 1 = p → Given mp f → (∀ i, 0 ≤ f i) →
    match asg l bs d p f with
    | some g => ∃ mp', iter (punctualref_Assigned.r1 K l bs) K' mp = some (.inl mp') ∧ ∀ i : Nat, (mget mp' (i : Int)).getD 0 = g i
    | none => iter (punctualref_Assigned.r1 K l bs) K' mp = some (.inr ([], ⟨13, 0⟩))
  | 0, p, K' + 1, mp, f, hK', hp, hp1, hm, hg, hf => by
    have hmp : ¬ (mp.length : Int) < (l.length : Int) := by omega
    simp only [asg, iter, punctualref_Assigned.r1]
    rw [if_neg hmp]
    exact ⟨mp, rfl, fun i => hg.getD i⟩
  | d + 1, p, K' + 1, mp, f, hK', hp, hp1, hm, hg, hf => by
    have hs := ref_scan l bs mp f hg hl hl8 hbl hb hf K hK l.length K (by omega) (Nat.le_refl _)
    rw [Nat.sub_self] at hs
    simp only [least] at hs
    have e0 : IntKind.i64.wrap ((l.length : Int) - 1) = (l.length : Int) - 1 := wrap64_small (by omega) (by omega)
    have hmp : (mp.length : Int) < (l.length : Int) := by omega
    simp only [asg, iter, punctualref_Assigned.r1, e0, hs]
    rw [if_pos hmp]
    rcases least_spec (canB l bs f) l.length 0 with ⟨h1, h2⟩ | ⟨k, h1, h2, h3, h4⟩
    · simp only [h1, show (-1 : Int) < 0 by decide, if_true]
      rfl
    · simp only [h4, show ¬ ((k : Int) < 0) by omega, if_false, Int.toNat_natCast]
      have hk0 : f k = 0 := by
        simp only [canB] at h3
        split at h3
        · simp only [Bool.and_eq_true, decide_eq_true_eq] at h3; exact h3.1
        · cases h3
      have hnone : mget mp (k : Int) = none := by rw [hg k, if_pos hk0]
      have hlen : (mset mp (k : Int) ((mp.length + 1 : Nat) : Int)).length + 1 = p + 1 := by rw [mset_none hnone]; simp; omega
      have hgv : Given (mset mp (k : Int) ((mp.length + 1 : Nat) : Int)) (fun j => if j = k then (p : Int) else f j) := fun i => by
        rw [mget_mset]
        by_cases e : i = k
        · subst e
          rw [if_pos rfl]
          simp only [if_true]
          rw [if_neg (by omega), hm]
        · rw [if_neg (by omega)]
          simp only [e, if_false]
          exact hg i
      have ih := ref_loop l bs hl hl8 hbl hb K hK d (p + 1) K' _ _ (by omega) (by omega) (by omega) hlen hgv (fun i => by split; omega; exact hf i)
      exact ih
theorem ref_put (l : List STask) (mp : List (Int × Int)) (g : Nat → Int) (hg : ∀ i : Nat, (mget mp (i : Int)).getD 0 = g i) (h8 : l.length ≤ 8) : ∀ (d i K' : Nat), d < K' → i + d = l.length →
    iter (punctualref_Assigned.r4 l mp) K' (i, l.mapIdx fun j t => if j < i then withP t (g j) else t) = some (.inl (prio l g))
  | 0, i, K' + 1, hK', hi => by
    obtain rfl : i = l.length := by omega
    simp only [iter, punctualref_Assigned.r4]
    rw [if_neg (by omega)]
    refine congrArg (fun z => some (Sum.inl z)) ?_
    apply List.ext_getElem?
    intro j
    rw [prio_get, List.getElem?_mapIdx]
    cases hj : l[j]? with
    | none => rfl
    | some u => simp [lt_of_get hj]
  | d + 1, i, K' + 1, hK', hi => by
    have hil : i < l.length := by omega
    obtain ⟨t, ht⟩ : ∃ t, l[i]? = some t := ⟨l[i], List.getElem?_eq_getElem hil⟩
    have ih := ref_put l mp g hg h8 d (i + 1) K' (by omega) (by omega)
    simp only [iter, punctualref_Assigned.r4, List.getElem?_mapIdx, ht, Option.map_some, Nat.lt_irrefl, if_false, hg]
    rw [if_pos (by omega)]
    simp only
    rw [← ih]
    congr 2
    apply List.ext_getElem?
    intro j
    rw [List.getElem?_set, List.getElem?_mapIdx, List.getElem?_mapIdx]
    by_cases e : i = j
    · subst e
      rw [if_pos rfl, if_pos (by simpa using hil), ht]
      simp [withP]
    · rw [if_neg e]
      cases l[j]? with
      | none => rfl
      | some u => simp [show (j < i) = (j < i + 1) from propext (by omega)]
theorem ref_blocks (bs : List Int) (K : Nat) (hK : bs.length < K) : iter (punctualref_Assigned.r0 bs) K 0 = some (if ∀ b ∈ bs, 0 ≤ b ∧ b ≤ 10000 then .inl () else .inr ([], ⟨2, 0⟩)) := by
  have hr := iter_first0 (f := punctualref_Assigned.r0 bs) (fun i => match bs[i]? with | some b => if 0 ≤ b ∧ b ≤ 10000 then none else some (([] : List STask), (⟨2, 0⟩ : SFault)) | none => none) bs.length (t := ()) (fun i hi => by
    have hi' : (i : Int) < (bs.length : Int) := by omega
    simp only [punctualref_Assigned.r0, if_pos hi', List.getElem?_eq_getElem hi]
    by_cases h1 : bs[i] < 0
    · rw [if_pos h1, if_neg (by omega)]; rfl
    · rw [if_neg h1]
      by_cases h2 : bs[i] > 10000
      · rw [if_pos h2, if_neg (by omega)]; rfl
      · rw [if_neg h2, if_pos (by omega)]; rfl) (by simp [punctualref_Assigned.r0]) hK
  rw [hr]
  cases hf : firstOf (fun i => match bs[i]? with | some b => if 0 ≤ b ∧ b ≤ 10000 then none else some (([] : List STask), (⟨2, 0⟩ : SFault)) | none => none) bs.length 0 with
  | none =>
    rw [if_pos]
    · rfl
    · intro b hb
      obtain ⟨i, hi⟩ := List.mem_iff_getElem?.1 hb
      have := firstOf_none hf i (Nat.zero_le _) (lt_of_get hi)
      simp only [hi] at this
      split at this
      · assumption
      · cases this
  | some r =>
    obtain ⟨j, _, hj, hg, _⟩ := firstOf_some hf
    rw [if_neg]
    · simp only [List.getElem?_eq_getElem hj] at hg
      split at hg
      · cases hg
      · cases hg; rfl
    · intro hall
      simp only [List.getElem?_eq_getElem hj, if_pos (hall _ (List.getElem_mem hj))] at hg
      cases hg
theorem Assigned_eq (l : List STask) (hok : ∀ t ∈ l, Ok.ok t) (bs : List Int) (K : Nat) (hK : 20100 ≤ K) (hs : ∀ t ∈ l, t.Name.size < K) : punctualref_Assigned.f K l bs = some (assignOf l bs) := by
  unfold punctualref_Assigned.f assignOf
  rw [CheckFixed_eq l hok K (by omega) hs]
  simp only
  by_cases hc : (fixedFault l).Code = 0
  · rw [if_pos hc, if_pos hc]
    have hset := (fixedFault_ok hc).1
    have hl := okt_of hset
    have hl8 := (setFault_ok hset).2.1
    by_cases hlen : bs.length = l.length
    · rw [if_pos (by omega), ref_blocks bs K (by omega)]
      by_cases hb : ∀ b ∈ bs, 0 ≤ b ∧ b ≤ 10000
      · rw [if_pos hb, if_pos ⟨hlen, hb⟩]
        have h2 := ref_loop l bs hl hl8 hlen hb K hK l.length 1 K [] (fun _ => 0) (by omega) (by omega) (Nat.le_refl _) rfl (fun i => by simp [mget]) (fun _ => Int.le_refl _)
        cases ha : asg l bs l.length 1 (fun _ => 0) with
        | none =>
          rw [ha] at h2
          simp only at h2
          simp only [h2]
        | some g =>
          rw [ha] at h2
          obtain ⟨mp', h3, h4⟩ := h2
          have h5 := ref_put l mp' g h4 hl8 l.length 0 K (by omega) (by omega)
          have e2 : (l.mapIdx fun j t => if j < 0 then withP t (g j) else t) = l := by
            apply List.ext_getElem?
            intro j
            rw [List.getElem?_mapIdx]
            cases l[j]? <;> simp
          rw [e2] at h5
          simp only [h3, h5]
          rw [if_pos (by omega)]
      · rw [if_neg hb, if_neg (fun h => hb h.2)]
    · rw [if_neg (by omega), if_neg (fun h => hlen h.1)]
      rfl
  · rw [if_neg hc, if_neg hc]
theorem FixedRanks_law (l0 : List STask) (l1 : List Int) (ok0 : ∀ y ∈ l0, Ok.ok y) (ok1 : ∀ y ∈ l1, Ok.ok y) : ∃ K, FixedRanks.f K l0 l1 = some true := by
  obtain ⟨B, hB⟩ := exists_bound (fun t : STask => t.Name.size) l0
  refine ⟨B + 20100, ?_⟩
  have hab : ∀ K, 100 ≤ K → fixed_Rates.f K [⟨⟨#[97]⟩, 1, 9, 9, 0, 0, 0⟩, ⟨⟨#[98]⟩, 1, 5, 5, 0, 0, 0⟩] = some ([⟨⟨#[97]⟩, 1, 9, 9, 0, 0, 1⟩, ⟨⟨#[98]⟩, 1, 5, 5, 0, 0, 2⟩], ⟨0, 0⟩) := fun K hK => by
    have h := fixed_Rates_eq [⟨⟨#[97]⟩, 1, 9, 9, 0, 0, 0⟩, ⟨⟨#[98]⟩, 1, 5, 5, 0, 0, 0⟩] 100 (Nat.le_refl _)
    have h2 : fixed_Rates.f 100 [⟨⟨#[97]⟩, 1, 9, 9, 0, 0, 0⟩, ⟨⟨#[98]⟩, 1, 5, 5, 0, 0, 0⟩] = some ([⟨⟨#[97]⟩, 1, 9, 9, 0, 0, 1⟩, ⟨⟨#[98]⟩, 1, 5, 5, 0, 0, 2⟩], ⟨0, 0⟩) := by kernel_rfl
    rw [h2] at h
    rw [fixed_Rates_eq _ K hK, ← h]
  unfold FixedRanks.f
  rw [hab (B + 20100) (by omega)]
  have hp0 : FixedRanks.p0 ([⟨⟨#[97]⟩, 1, 9, 9, 0, 0, 1⟩, ⟨⟨#[98]⟩, 1, 5, 5, 0, 0, 2⟩], ⟨0, 0⟩) = some (.inl ()) := rfl
  simp only [hp0]
  by_cases hf : few.f (l0.length : Int) = true ∧ few.f (l1.length : Int) = true
  · obtain ⟨f0, f1⟩ := hf
    have hp1 : FixedRanks.p1 l0 l1 = some (.inl ()) := by unfold FixedRanks.p1; rw [if_pos f0, if_pos f1]
    have g0 := few_true f0
    have g1 := few_true f1
    obtain ⟨r0, e0⟩ := punctualsame_Lend_api_Task_some l0 ⟨⟨#[63]⟩, (-9), 0, 0, 0, 0, 0⟩ g0
    obtain ⟨r1, e1⟩ := punctualsame_Lend_int_some l1 (-9) g1
    have hs : ∀ t ∈ l0, t.Name.size < B + 20100 := fun t ht => by have := hB t ht; omega
    have hpl : ∀ (g : Nat → Int) (x : SFault), ((if (setFault l0).Code = 0 then (prio l0 g, ⟨0, 0⟩) else ([], x)) : List STask × SFault).1.length < B + 20100 := fun g x => by
      split
      · simp only [prio_len]; omega
      · simp
    have hal : (assignOf l0 l1).1.length < B + 20100 := by
      unfold assignOf
      repeat' split
      all_goals first | (simp only [prio_len]; omega) | (simp; done) | skip
      all_goals (simp only [List.length_nil]; omega)
    have hr := iter_first0 (f := FixedRanks.r2 (B + 20100) l0 l1) (fun _ => none) 2 (t := ()) (fun i hi => by
      have hi' : (i : Int) < 2 := by omega
      simp only [FixedRanks.r2, if_pos hi', fixed_Rates_eq l0 (B + 20100) (by omega), RankedT_eq l0 ok0 (B + 20100) (by omega) hs, SFault.eqb_self, if_true, punctualsame_Same_api_Task_self _ (B + 20100) (hpl _ _), fixed_Deadlines_eq l0 (B + 20100) (by omega), RankedD_eq l0 ok0 (B + 20100) (by omega) hs,
        Assign_eq l0 l1 (B + 20100) (by omega), Assigned_eq l0 ok0 l1 (B + 20100) (by omega) hs, punctualsame_Same_api_Task_self _ (B + 20100) hal, onward]) (by simp [FixedRanks.r2]) (K := B + 20100) (by omega)
    rw [firstOf_none_of (fun _ _ _ => rfl)] at hr
    simp only [hp1, e0, e1, hr, leave, punctualsame_Still_api_Task_true l0 _ (B + 20100) g0 (by omega), punctualsame_Still_int_true l1 _ (B + 20100) g1 (by omega), if_true]
  · have hp1 : FixedRanks.p1 l0 l1 = some (.inr true) := by
      unfold FixedRanks.p1
      repeat' split
      all_goals first | rfl | (exfalso; exact hf ⟨by assumption, by assumption⟩)
    simp only [hp1]

end Go.Proofs.YtlipdmblinjjaaaDoor.GV
