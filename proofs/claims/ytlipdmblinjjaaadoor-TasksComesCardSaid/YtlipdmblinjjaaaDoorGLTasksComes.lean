/- Plain words: GvLTasksComes. -/
import Derived.Test.YtlipdmblinjjaaaDoorGWTasksComes4
import Derived.Test.YtlipdmblinjjaaaDoorGv17
namespace Go.Proofs.YtlipdmblinjjaaaDoor.GV
open Go Go.RowKit
set_option linter.unusedVariables false
set_option linter.unusedSimpArgs false
theorem STask.eqb_self (x : STask) : STask.eqb x x = true := by simp [STask.eqb]
theorem SFault.eqb_self (x : SFault) : SFault.eqb x x = true := by simp [SFault.eqb]
theorem SCome.eqb_self (x : SCome) : SCome.eqb x x = true := by simp [SCome.eqb]
theorem A6Int.eqb_self (x : A6Int) : A6Int.eqb x x = true := by simp [A6Int.eqb]
theorem punctualsame_Lend_api_Task_some (l : List STask) (a : STask) (h : l.length ≤ 5000) : ∃ r, punctualsame_Lend_api_Task.f l a = some r := by
  have hw : IntKind.i64.wrap ((l.length : Int) + 3) = (l.length : Int) + 3 := wrap64_small (by omega) (by omega)
  unfold punctualsame_Lend_api_Task.f
  rw [hw, if_pos (by omega), if_pos (by omega), if_pos (by simp; omega), if_pos (by simp; omega)]
  exact ⟨_, rfl⟩
theorem punctualsame_Lend_api_Come_some (l : List SCome) (a : SCome) (h : l.length ≤ 5000) : ∃ r, punctualsame_Lend_api_Come.f l a = some r := by
  have hw : IntKind.i64.wrap ((l.length : Int) + 3) = (l.length : Int) + 3 := wrap64_small (by omega) (by omega)
  unfold punctualsame_Lend_api_Come.f
  rw [hw, if_pos (by omega), if_pos (by omega), if_pos (by simp; omega), if_pos (by simp; omega)]
  exact ⟨_, rfl⟩
theorem punctualsame_Still_api_Task_true (l : List STask) (a : STask) (K : Nat) (hl : l.length ≤ 5000) (hK : 5010 ≤ K) : punctualsame_Still_api_Task.f K (l ++ [a, a, a]) l a = some true := by
  have hw : IntKind.i64.wrap ((l.length : Int) + 3) = (l.length : Int) + 3 := wrap64_small (by omega) (by omega)
  have hr := iter_first0 (f := punctualsame_Still_api_Task.r0 (l ++ [a, a, a]) l a) (fun _ => none) (l.length + 3) (t := ()) (fun i hi => by
    have h' : (i : Int) < ((l ++ [a, a, a] : List STask).length : Int) := by simp; omega
    simp only [punctualsame_Still_api_Task.r0, if_pos h']
    by_cases h2 : i < l.length
    · have h2' : (i : Int) < (l.length : Int) := by omega
      have h3 : ¬ (i : Int) ≥ (l.length : Int) := by omega
      rw [List.getElem?_append_left h2, List.getElem?_eq_getElem h2]
      simp only [if_pos h2', STask.eqb_self, if_true, if_neg h3, onward]
    · have h2' : ¬ (i : Int) < (l.length : Int) := by omega
      have h3 : (i : Int) ≥ (l.length : Int) := by omega
      rw [List.getElem?_append_right (by omega)]
      have : i - l.length = 0 ∨ i - l.length = 1 ∨ i - l.length = 2 := by omega
      rcases this with e | e | e <;> simp [e, h2', h3, onward, STask.eqb_self]) (by
    have h' : ¬ ((l.length + 3 : Nat) : Int) < ((l ++ [a, a, a] : List STask).length : Int) := by simp
    simp only [punctualsame_Still_api_Task.r0, if_neg h']) (K := K) (by omega)
  rw [firstOf_none_of (fun _ _ _ => rfl)] at hr
  have hlen : IntKind.i64.wrap ((l.length : Int) + 3) = ((l ++ [a, a, a] : List STask).length : Int) := by rw [hw]; simp
  simp only [punctualsame_Still_api_Task.f, if_pos hlen, hr, leave]
theorem punctualsame_Still_api_Come_true (l : List SCome) (a : SCome) (K : Nat) (hl : l.length ≤ 5000) (hK : 5010 ≤ K) : punctualsame_Still_api_Come.f K (l ++ [a, a, a]) l a = some true := by
  have hw : IntKind.i64.wrap ((l.length : Int) + 3) = (l.length : Int) + 3 := wrap64_small (by omega) (by omega)
  have hr := iter_first0 (f := punctualsame_Still_api_Come.r0 (l ++ [a, a, a]) l a) (fun _ => none) (l.length + 3) (t := ()) (fun i hi => by
    have h' : (i : Int) < ((l ++ [a, a, a] : List SCome).length : Int) := by simp; omega
    simp only [punctualsame_Still_api_Come.r0, if_pos h']
    by_cases h2 : i < l.length
    · have h2' : (i : Int) < (l.length : Int) := by omega
      have h3 : ¬ (i : Int) ≥ (l.length : Int) := by omega
      rw [List.getElem?_append_left h2, List.getElem?_eq_getElem h2]
      simp only [if_pos h2', SCome.eqb_self, if_true, if_neg h3, onward]
    · have h2' : ¬ (i : Int) < (l.length : Int) := by omega
      have h3 : (i : Int) ≥ (l.length : Int) := by omega
      rw [List.getElem?_append_right (by omega)]
      have : i - l.length = 0 ∨ i - l.length = 1 ∨ i - l.length = 2 := by omega
      rcases this with e | e | e <;> simp [e, h2', h3, onward, SCome.eqb_self]) (by
    have h' : ¬ ((l.length + 3 : Nat) : Int) < ((l ++ [a, a, a] : List SCome).length : Int) := by simp
    simp only [punctualsame_Still_api_Come.r0, if_neg h']) (K := K) (by omega)
  rw [firstOf_none_of (fun _ _ _ => rfl)] at hr
  have hlen : IntKind.i64.wrap ((l.length : Int) + 3) = ((l ++ [a, a, a] : List SCome).length : Int) := by rw [hw]; simp
  simp only [punctualsame_Still_api_Come.f, if_pos hlen, hr, leave]
theorem punctualsame_Same_api_Come_self (l : List SCome) (K : Nat) (hK : l.length < K) : punctualsame_Same_api_Come.f K l l = some true := by
  have hr := iter_first0 (f := punctualsame_Same_api_Come.r0 l l) (fun _ => none) l.length (t := ()) (fun i hi => by
    have h' : (i : Int) < (l.length : Int) := by omega
    simp only [punctualsame_Same_api_Come.r0, if_pos h', List.getElem?_eq_getElem hi, if_true, SCome.eqb_self, onward]) (by
    have h' : ¬ (l.length : Int) < (l.length : Int) := by omega
    simp only [punctualsame_Same_api_Come.r0, if_neg h']) hK
  rw [firstOf_none_of (fun _ _ _ => rfl)] at hr
  simp only [punctualsame_Same_api_Come.f, if_true, hr, leave]
theorem few_true {n : Nat} (h : few.f (n : Int) = true) : n ≤ 5000 := by
  simp only [few.f, decide_eq_true_eq] at h; omega
theorem few_false {n : Nat} (h : ¬ few.f (n : Int) = true) : 5000 < n := by
  simp only [few.f, decide_eq_true_eq] at h; omega
theorem exists_bound {α : Type} (f : α → Nat) : ∀ l : List α, ∃ B, ∀ x ∈ l, f x ≤ B
  | [] => ⟨0, by simp⟩
  | x :: l => by
    obtain ⟨B, h⟩ := exists_bound f l
    refine ⟨max (f x) B, fun y hy => ?_⟩
    rcases List.mem_cons.1 hy with rfl | hy
    · exact Nat.le_max_left _ _
    · exact Nat.le_trans (h y hy) (Nat.le_max_right _ _)
/-- a letter stands there -/
def letterAt (x : ByteArray) (i : Nat) : Bool := match x[i]? with | some b => decide (97 ≤ b.toNat) && decide (b.toNat ≤ 122) | none => false
def allL (x : ByteArray) (n : Nat) : Bool := (List.range n).all (letterAt x)
theorem allL_succ (x : ByteArray) (n : Nat) : allL x (n + 1) = (allL x n && letterAt x n) := by simp [allL, List.range_succ]
theorem allL_iff {x : ByteArray} {n : Nat} : allL x n = true ↔ ∀ i, i < n → letterAt x i = true := by simp [allL]
def Good (x : ByteArray) : Prop := 1 ≤ x.size ∧ x.size ≤ 10 ∧ allL x x.size = true
instance (x : ByteArray) : Decidable (Good x) := by unfold Good; infer_instance
theorem get!_of {x : ByteArray} {i : Nat} {b : UInt8} (h : x[i]? = some b) : x.get! i = b := by
  have hi : i < x.size := by
    rcases Nat.lt_or_ge i x.size with h' | h'
    · exact h'
    · rw [getElem?_neg x i (by omega)] at h; cases h
  rw [getElem?_pos x i hi] at h
  have := Option.some.inj h
  rw [← this]
  cases x with
  | mk bs => exact getElem!_pos bs i hi
theorem byte_some {x : ByteArray} {i : Nat} (h : i < x.size) : ∃ b, x[i]? = some b := ⟨x[i], getElem?_pos x i h⟩
theorem decode_letter {x : ByteArray} {i : Nat} (hi : i < x.size) (h : letterAt x i = true) : ∃ n : Nat, Utf8.decode x i = (n, 1) ∧ 97 ≤ n ∧ n ≤ 122 := by
  obtain ⟨b, hb⟩ := byte_some hi
  simp only [letterAt, hb, Bool.and_eq_true, decide_eq_true_eq] at h
  refine ⟨b.toNat, ?_, h⟩
  have := get!_of hb
  simp only [Utf8.decode, Nat.add_zero, this]
  rw [if_pos (by omega)]
theorem decode_other {x : ByteArray} {i : Nat} (hi : i < x.size) (h : letterAt x i = false) : (Utf8.decode x i).1 < 97 ∨ 122 < (Utf8.decode x i).1 := by
  obtain ⟨b, hb⟩ := byte_some hi
  simp only [letterAt, hb, Bool.and_eq_false_iff, decide_eq_false_iff_not] at h
  have := get!_of hb
  simp only [Utf8.decode, Nat.add_zero, this]
  have he : Utf8.runeError = 65533 := rfl
  repeat' split
  all_goals simp only [he, Bool.and_eq_true, decide_eq_true_eq, ge_iff_le] at *
  all_goals omega
theorem isName_eq (x : ByteArray) (K : Nat) (hK : 12 ≤ K) : tasks_isName.f K x = some (decide (Good x)) := by
  unfold tasks_isName.f
  by_cases h1 : (x.size : Int) < 1
  · rw [if_pos h1]; congr 1; symm; rw [decide_eq_false_iff_not]; intro h; have := h.1; omega
  rw [if_neg h1]
  by_cases h2 : (x.size : Int) > 10
  · rw [if_pos h2]; congr 1; symm; rw [decide_eq_false_iff_not]; intro h; have := h.2.1; omega
  rw [if_neg h2]
  have hr := iter_first0 (f := tasks_isName.r0 x) (fun i => if letterAt x i = true then none else some false) x.size (t := ()) (fun i hi => by
    simp only [tasks_isName.r0, if_pos hi]
    by_cases h : letterAt x i = true
    · obtain ⟨n, hd, ha, hb⟩ := decode_letter hi h
      simp only [hd, h, if_true]
      rw [if_neg (by omega), if_neg (by omega)]; rfl
    · simp only [h]
      rcases decode_other hi (by simpa using h) with h | h
      · rw [if_pos (by omega)]; simp [onward]
      · rw [if_neg (by omega), if_pos (by omega)]; simp [onward]) (by simp [tasks_isName.r0]) (K := K) (by omega)
  rw [hr]
  cases hf : firstOf (fun i => if letterAt x i = true then none else some false) x.size 0 with
  | none =>
    show some true = some _
    congr 1; symm
    rw [decide_eq_true_eq]
    refine ⟨by omega, by omega, allL_iff.2 fun i hi => ?_⟩
    have := firstOf_none hf i (Nat.zero_le _) hi
    split at this
    · assumption
    · cases this
  | some r =>
    obtain ⟨j, _, hj, hg, _⟩ := firstOf_some hf
    split at hg
    · cases hg
    · rename_i hn
      cases hg
      show some false = some _
      congr 1; symm
      rw [decide_eq_false_iff_not]
      intro h
      exact hn (allL_iff.1 h.2.2 j hj)
theorem refName_eq (e : STask) (hs : Ok.ok e) (K : Nat) (hK : e.Name.size < K) : ∃ q, punctualref_CheckSet.p2 e = some (.inl q) ∧ iter (punctualref_CheckSet.r3 e) K (q, 0) = some (.inl (decide (Good e.Name))) := by
  have hsm : e.Name.size ≤ 9223372036854775807 := hs.1
  have key : ∀ q : Bool, iter (punctualref_CheckSet.r3 e) K (q, 0) = some (.inl (q && allL e.Name e.Name.size)) := by
    intro q
    obtain ⟨r, hr, hR⟩ := iter_total (f := punctualref_CheckSet.r3 e) (fun s => 0 ≤ s.2 ∧ s.2 ≤ e.Name.size ∧ s.1 = (q && allL e.Name s.2.toNat)) (fun s => e.Name.size - s.2.toNat)
      (fun r => r = .inl (q && allL e.Name e.Name.size)) (fun s hI => by
        obtain ⟨p, z⟩ := s
        obtain ⟨h1, h2, h3⟩ := hI
        simp only at h1 h2 h3
        obtain ⟨n, rfl⟩ := Int.eq_ofNat_of_zero_le h1
        by_cases hz : (n : Int) < (e.Name.size : Int)
        · left
          have hn : n < e.Name.size := by omega
          obtain ⟨b, hb⟩ := byte_some hn
          have hw : IntKind.i64.wrap ((n : Int) + 1) = ((n + 1 : Nat) : Int) := by rw [wrap64_small (by omega) (by omega)]; rfl
          have hstep : punctualref_CheckSet.r3 e (p, (n : Int)) = some (.inl (p && letterAt e.Name n, ((n + 1 : Nat) : Int))) := by
            simp only [punctualref_CheckSet.r3, if_pos hz, hw, Int.toNat_natCast, hb, letterAt, if_pos h1]
            cases p with
            | false => simp
            | true =>
              simp only [if_true, Bool.true_and]
              by_cases ha : (b.toNat : Int) ≥ 97
              · rw [if_pos ha]
                have : (97 ≤ b.toNat) := by omega
                simp only [this, decide_true, Bool.true_and, Option.some.injEq, Sum.inl.injEq, Prod.mk.injEq, and_true]
                rw [Bool.eq_iff_iff, decide_eq_true_eq, decide_eq_true_eq]
                omega
              · rw [if_neg ha]
                have : ¬ (97 ≤ b.toNat) := by omega
                simp [this]
          refine ⟨_, hstep, ⟨by simp only; omega, by simp only; omega, ?_⟩, by simp only; omega⟩
          simp only [h3, Int.toNat_natCast]
          rw [allL_succ, Bool.and_assoc]
        · right
          obtain rfl : n = e.Name.size := by omega
          refine ⟨.inl p, by simp only [punctualref_CheckSet.r3, if_neg hz], ?_⟩
          rw [h3]
          rfl) K (q, 0) ⟨by simp, by simp, by simp [allL]⟩ (by simpa using hK)
    rw [hr, hR]
  unfold punctualref_CheckSet.p2
  by_cases h1 : (e.Name.size : Int) ≥ 1
  · rw [if_pos h1]
    refine ⟨_, rfl, ?_⟩
    rw [key]
    congr 2
    rw [Bool.eq_iff_iff]
    rw [Bool.and_eq_true, decide_eq_true_eq, decide_eq_true_eq]
    constructor
    · rintro ⟨ha, hb⟩; exact ⟨by omega, by omega, hb⟩
    · rintro ⟨ha, hb, hc⟩; exact ⟨by omega, hc⟩
  · rw [if_neg h1]
    refine ⟨_, rfl, ?_⟩
    rw [key]
    congr 2
    rw [Bool.false_and, eq_comm, decide_eq_false_iff_not]
    intro h; have := h.1; omega
/-- the first of those ahead that bears the name -/
def dupAt (l : List STask) (i : Nat) (t : STask) : Prop := ∃ j e, j < i ∧ l[j]? = some e ∧ e.Name.toList = t.Name.toList
noncomputable instance (l : List STask) (i : Nat) (t : STask) : Decidable (dupAt l i t) := Classical.propDecidable _
theorem takedrop {α : Type} (l : List α) (i : Nat) : (l.take i).drop 0 = l.take i := by simp
theorem contains_eq (l : List STask) (i : Nat) (hi : i < l.length) (t : STask) (K : Nat) (hK : i < K) : slices_ContainsFunc_api_Task_api_Task.f K ((l.take i).drop 0) t = some (decide (dupAt l i t)) := by
  rw [takedrop]
  have hlen : (l.take i).length = i := by simp; omega
  let g : Nat → Option Int := fun j => match l[j]? with | some e => if e.Name.toList = t.Name.toList then some (j : Int) else none | none => none
  have hr := iter_first0 (f := slices_IndexFunc_api_Task_api_Task.r0 (l.take i) t) g i (t := ()) (fun j hj => by
    have hj' : (j : Int) < ((l.take i).length : Int) := by omega
    have hjl : j < l.length := by omega
    simp only [slices_IndexFunc_api_Task_api_Task.r0, if_pos hj', List.getElem?_take, if_pos hj, List.getElem?_eq_getElem hjl, g, tasks_Check_1.f, beq_iff_eq]
    split <;> rfl) (by
    have : ¬ (i : Int) < ((l.take i).length : Int) := by omega
    simp only [slices_IndexFunc_api_Task_api_Task.r0, if_neg this]) (K := K) hK
  unfold slices_ContainsFunc_api_Task_api_Task.f slices_IndexFunc_api_Task_api_Task.f
  rw [hr]
  cases hf : firstOf g i 0 with
  | none =>
    show some (decide ((-1 : Int) ≥ 0)) = _
    congr 1
    have : ¬ dupAt l i t := by
      rintro ⟨j, e, hj, he, hn⟩
      have := firstOf_none hf j (Nat.zero_le _) hj
      simp only [g, he, if_pos hn] at this
      cases this
    simp [this]
  | some r =>
    show some (decide (r ≥ 0)) = _
    obtain ⟨j, _, hj, hg, _⟩ := firstOf_some hf
    have hjl : j < l.length := by omega
    simp only [g, List.getElem?_eq_getElem hjl] at hg
    split at hg
    · rename_i hn
      cases hg
      have : dupAt l i t := ⟨j, l[j], hj, List.getElem?_eq_getElem hjl, hn⟩
      simp [this]
    · cases hg
theorem refDup_eq (l : List STask) (i : Nat) (hi : i < l.length) (t : STask) (K : Nat) (hK : i < K) : iter (punctualref_CheckSet.r4 l i t) K 0 = some (if dupAt l i t then .inr ⟨5, (i : Int)⟩ else .inl ()) := by
  have hlen : ((l.take i).drop 0).length = i := by simp; omega
  let g : Nat → Option SFault := fun j => match l[j]? with | some e => if e.Name.toList = t.Name.toList then some ⟨5, (i : Int)⟩ else none | none => none
  have hr := iter_first0 (f := punctualref_CheckSet.r4 l i t) g i (t := ()) (fun j hj => by
    have hj' : (j : Int) < (((l.take i).drop 0).length : Int) := by omega
    have hjl : j < l.length := by omega
    simp only [punctualref_CheckSet.r4, if_pos hj']
    rw [takedrop]
    simp only [List.getElem?_take, if_pos hj, List.getElem?_eq_getElem hjl, g, punctualref_F.f]
    split <;> rfl) (by
    have : ¬ (i : Int) < (((l.take i).drop 0).length : Int) := by omega
    simp only [punctualref_CheckSet.r4, if_neg this]) (K := K) hK
  rw [hr]
  cases hf : firstOf g i 0 with
  | none =>
    have : ¬ dupAt l i t := by
      rintro ⟨j, e, hj, he, hn⟩
      have := firstOf_none hf j (Nat.zero_le _) hj
      simp only [g, he, if_pos hn] at this
      cases this
    simp [this, leave]
  | some r =>
    obtain ⟨j, _, hj, hg, _⟩ := firstOf_some hf
    have hjl : j < l.length := by omega
    simp only [g, List.getElem?_eq_getElem hjl] at hg
    split at hg
    · rename_i hn
      cases hg
      have : dupAt l i t := ⟨j, l[j], hj, List.getElem?_eq_getElem hjl, hn⟩
      simp [this, leave]
    · cases hg
theorem iter_succ {σ ρ : Type} (f : σ → Option (σ ⊕ ρ)) (K : Nat) (s : σ) : iter f (K + 1) s = match f s with | none => none | some (.inl s') => iter f K s' | some (.inr r) => some r := rfl
/-- a number lies out of its range -/
def rangeAt (i : Nat) (t : STask) (j : Nat) : Option SFault :=
  match ([t.C, t.T, t.D, t.J, t.O, t.P] : List Int)[j]? with
  | none => none
  | some v => match ([1, 1, 1, 0, 0, 0] : List Int)[j]? with
    | none => none
    | some a => if v < a then some ⟨3, (i : Int)⟩ else match ([10000, 10000, 10000, 10000, 10000, 1000] : List Int)[j]? with
      | none => none
      | some b => if v > b then some ⟨3, (i : Int)⟩ else none
theorem range_eq (i : Nat) (t : STask) (K : Nat) (hK : 7 ≤ K) : iter (tasks_Check.r2 i t) K 0 = some (leave () (firstOf (rangeAt i t) 6 0)) := by
  refine iter_first0 (f := tasks_Check.r2 i t) (rangeAt i t) 6 (t := ()) (fun j hj => ?_) (by simp [tasks_Check.r2, tasks_numbers.f]) (K := K) (by omega)
  have : j = 0 ∨ j = 1 ∨ j = 2 ∨ j = 3 ∨ j = 4 ∨ j = 5 := by omega
  rcases this with rfl | rfl | rfl | rfl | rfl | rfl <;> simp [tasks_Check.r2, tasks_numbers.f, tasks_bounds.f, rangeAt] <;> (repeat' split) <;> (try simp only [onward]) <;> first | rfl | contradiction | simp_all
theorem refRange_eq (i : Nat) (t : STask) (K : Nat) (hK : 7 ≤ K) : iter (punctualref_CheckSet.r5 i t) K 0 = some (leave () (firstOf (rangeAt i t) 6 0)) := by
  refine iter_first0 (f := punctualref_CheckSet.r5 i t) (rangeAt i t) 6 (t := ()) (fun j hj => ?_) (by simp [punctualref_CheckSet.r5]) (K := K) (by omega)
  have : j = 0 ∨ j = 1 ∨ j = 2 ∨ j = 3 ∨ j = 4 ∨ j = 5 := by omega
  rcases this with rfl | rfl | rfl | rfl | rfl | rfl <;> simp [punctualref_CheckSet.r5, punctualref_sixOf.f, punctualref_F.f, rangeAt] <;> (repeat' split) <;> (try simp only [onward]) <;> first | rfl | contradiction | simp_all
/-- what is wrong with the i-th task -/
noncomputable def wrongAt (l : List STask) (i : Nat) : Option SFault :=
  match l[i]? with
  | none => none
  | some t => if Good t.Name then (if dupAt l i t then some ⟨5, (i : Int)⟩ else match firstOf (rangeAt i t) 6 0 with | some r => some r | none => if t.C > t.D then some ⟨12, (i : Int)⟩ else none) else some ⟨4, (i : Int)⟩
/-- what is wrong with a set -/
noncomputable def setFault (l : List STask) : SFault := if 1 ≤ l.length ∧ l.length ≤ 8 then (firstOf (wrongAt l) l.length 0).getD ⟨0, 0⟩ else ⟨2, 0⟩
theorem Check_eq (l : List STask) (K : Nat) (hK : 20 ≤ K) : tasks_Check.f K l = some (setFault l) := by
  unfold tasks_Check.f tasks_Check.p0 setFault
  by_cases h1 : (l.length : Int) < 1
  · rw [if_pos h1, if_neg (by omega)]
  rw [if_neg h1]
  by_cases h2 : (l.length : Int) > 8
  · rw [if_pos h2, if_neg (by omega)]
  rw [if_neg h2, if_pos (by omega)]
  have hr := iter_first0 (f := tasks_Check.r1 K l) (wrongAt l) l.length (t := ()) (fun i hi => by
    have hi' : (i : Int) < (l.length : Int) := by omega
    have hle : i ≤ l.length := by omega
    simp only [tasks_Check.r1, if_pos hi', List.getElem?_eq_getElem hi, isName_eq _ K (by omega), contains_eq l i hi _ K (by omega), range_eq i _ K (by omega), wrongAt, if_pos hle, decide_eq_true_eq]
    by_cases hg : Good l[i].Name
    · simp only [if_pos hg]
      by_cases hd : dupAt l i l[i]
      · simp only [if_pos hd, onward]
      · simp only [if_neg hd]
        cases firstOf (rangeAt i l[i]) 6 0 with
        | some r => rfl
        | none =>
          simp only [leave]
          split <;> rfl
    · simp only [if_neg hg, onward]) (by simp [tasks_Check.r1]) (K := K) (by omega)
  simp only [hr]
  cases firstOf (wrongAt l) l.length 0 <;> rfl
theorem CheckSet_eq (l : List STask) (hl : ∀ t ∈ l, Ok.ok t) (K : Nat) (hK : 20 ≤ K) (hs : ∀ t ∈ l, t.Name.size < K) : punctualref_CheckSet.f K l = some (setFault l) := by
  unfold punctualref_CheckSet.f punctualref_CheckSet.p0 setFault
  by_cases h1 : (l.length : Int) = 0
  · rw [if_pos h1, if_neg (by omega)]; rfl
  rw [if_neg h1]
  by_cases h2 : (l.length : Int) > 8
  · rw [if_pos h2, if_neg (by omega)]; rfl
  rw [if_neg h2, if_pos (by omega)]
  have hr := iter_first0 (f := punctualref_CheckSet.r1 K l) (wrongAt l) l.length (t := ()) (fun i hi => by
    have hi' : (i : Int) < (l.length : Int) := by omega
    have hle : i ≤ l.length := by omega
    obtain ⟨q, hq1, hq2⟩ := refName_eq l[i] (hl _ (List.getElem_mem hi)) K (hs _ (List.getElem_mem hi))
    simp only [punctualref_CheckSet.r1, if_pos hi', List.getElem?_eq_getElem hi, hq1, hq2, refDup_eq l i hi _ K (by omega), refRange_eq i _ K (by omega), wrongAt, if_pos hle, decide_eq_true_eq]
    by_cases hg : Good l[i].Name
    · simp only [if_pos hg]
      by_cases hd : dupAt l i l[i]
      · simp only [if_pos hd, onward]
      · simp only [if_neg hd]
        cases firstOf (rangeAt i l[i]) 6 0 with
        | some r => rfl
        | none =>
          simp only [gt_iff_lt, leave]
          split <;> rfl
    · simp only [if_neg hg]; rfl) (by simp [punctualref_CheckSet.r1]) (K := K) (by omega)
  simp only [hr]
  cases firstOf (wrongAt l) l.length 0 <;> rfl
theorem setFault_ok {l : List STask} (h : (setFault l).Code = 0) : 1 ≤ l.length ∧ l.length ≤ 8 ∧ ∀ i t, l[i]? = some t → Good t.Name ∧ ¬ dupAt l i t ∧ (1 ≤ t.C ∧ t.C ≤ 10000) ∧ (1 ≤ t.T ∧ t.T ≤ 10000) ∧ (1 ≤ t.D ∧ t.D ≤ 10000) ∧ (0 ≤ t.J ∧ t.J ≤ 10000) ∧ (0 ≤ t.O ∧ t.O ≤ 10000) ∧ (0 ≤ t.P ∧ t.P ≤ 1000) ∧ t.C ≤ t.D := by
  unfold setFault at h
  split at h
  · rename_i hl
    refine ⟨hl.1, hl.2, fun i t ht => ?_⟩
    have hi := lt_of_get ht
    have hn : firstOf (wrongAt l) l.length 0 = none := by
      cases hf : firstOf (wrongAt l) l.length 0 with
      | none => rfl
      | some r =>
        rw [hf] at h
        obtain ⟨j, _, hj, hg, _⟩ := firstOf_some hf
        simp only [Option.getD_some] at h
        exfalso
        unfold wrongAt at hg
        rw [List.getElem?_eq_getElem hj] at hg
        simp only at hg
        split at hg
        · split at hg
          · cases hg; cases h
          · split at hg
            · rename_i r' hr'
              cases hg
              obtain ⟨q, _, hq, hg2, _⟩ := firstOf_some hr'
              unfold rangeAt at hg2
              repeat' split at hg2
              all_goals first | cases hg2; done | (cases hg2; cases h)
            · split at hg
              · cases hg; cases h
              · cases hg
        · cases hg; cases h
    have h0 := firstOf_none hn i (Nat.zero_le _) hi
    unfold wrongAt at h0
    rw [ht] at h0
    simp only at h0
    split at h0
    · rename_i hg
      split at h0
      · cases h0
      · rename_i hd
        split at h0
        · cases h0
        · rename_i hr
          split at h0
          · cases h0
          · rename_i hcd
            have hrr := firstOf_none hr
            have e0 := hrr 0 (by omega) (by omega)
            have e1 := hrr 1 (by omega) (by omega)
            have e2 := hrr 2 (by omega) (by omega)
            have e3 := hrr 3 (by omega) (by omega)
            have e4 := hrr 4 (by omega) (by omega)
            have e5 := hrr 5 (by omega) (by omega)
            simp only [rangeAt, List.getElem?_cons_zero, List.getElem?_cons_succ] at e0 e1 e2 e3 e4 e5
            refine ⟨hg, hd, ?_, ?_, ?_, ?_, ?_, ?_, by omega⟩
            · clear e1 e2 e3 e4 e5; split at e0; cases e0; split at e0; cases e0; omega
            · clear e0 e2 e3 e4 e5; split at e1; cases e1; split at e1; cases e1; omega
            · clear e1 e0 e3 e4 e5; split at e2; cases e2; split at e2; cases e2; omega
            · clear e1 e2 e0 e4 e5; split at e3; cases e3; split at e3; cases e3; omega
            · clear e1 e2 e3 e0 e5; split at e4; cases e4; split at e4; cases e4; omega
            · clear e1 e2 e3 e4 e0; split at e5; cases e5; split at e5; cases e5; omega
    · cases h0
  · cases h
theorem setFault_ok' {l : List STask} (h : (setFault l).Code = 0) : setFault l = ⟨0, 0⟩ := by
  unfold setFault at h ⊢
  split at h
  · rename_i hl
    rw [if_pos hl]
    cases hf : firstOf (wrongAt l) l.length 0 with
    | none => rfl
    | some r =>
      rw [hf] at h
      obtain ⟨j, _, hj, hg, _⟩ := firstOf_some hf
      simp only [Option.getD_some] at h
      exfalso
      unfold wrongAt at hg
      rw [List.getElem?_eq_getElem hj] at hg
      simp only at hg
      split at hg
      · split at hg
        · cases hg; cases h
        · split at hg
          · rename_i r' hr'
            cases hg
            obtain ⟨q, _, hq, hg2, _⟩ := firstOf_some hr'
            unfold rangeAt at hg2
            repeat' split at hg2
            all_goals first | cases hg2; done | (cases hg2; cases h)
          · split at hg
            · cases hg; cases h
            · cases hg
      · cases hg; cases h
  · cases h

/-- the last one ahead of i that is of task t -/
def lastOf (l : List SCome) (t : Int) : Nat → Option Nat
  | 0 => none
  | i + 1 => match l[i]? with
    | some c => if c.Task = t then some i else lastOf l t i
    | none => lastOf l t i
theorem lastOf_lt {l : List SCome} {t : Int} : ∀ {i k : Nat}, lastOf l t i = some k → k < i
  | 0, k, h => by cases h
  | i + 1, k, h => by
    simp only [lastOf] at h
    split at h
    · split at h
      · cases h; omega
      · have := lastOf_lt h; omega
    · have := lastOf_lt h; omega
theorem lastOf_task {l : List SCome} {t : Int} : ∀ {i k : Nat}, lastOf l t i = some k → ∃ c, l[k]? = some c ∧ c.Task = t
  | 0, k, h => by cases h
  | i + 1, k, h => by
    simp only [lastOf] at h
    split at h
    · rename_i c hc
      split at h
      · cases h; exact ⟨c, hc, by assumption⟩
      · exact lastOf_task h
    · exact lastOf_task h
/-- it comes sooner than the one ahead of it -/
def sooner (l1 : List SCome) (i : Nat) (c : SCome) : Prop := ∃ b, 0 < i ∧ l1[i - 1]? = some b ∧ c.At < b.At
noncomputable instance (l1 : List SCome) (i : Nat) (c : SCome) : Decidable (sooner l1 i c) := Classical.propDecidable _
theorem sooner_mk {l1 : List SCome} {i : Nat} {c b : SCome} (h0 : 0 < i) (hb : l1[i - 1]? = some b) (h : c.At < b.At) : sooner l1 i c := ⟨b, h0, hb, h⟩
/-- what is wrong with the i-th coming -/
noncomputable def comeAt (l0 : List STask) (l1 : List SCome) (i : Nat) : Option SFault :=
  match l1[i]? with
  | none => none
  | some c =>
    if c.Task < 0 ∨ c.Task ≥ (l0.length : Int) then some ⟨4, (i : Int)⟩
    else if c.At < 0 ∨ c.At > 20000 then some ⟨3, (i : Int)⟩
    else if sooner l1 i c then some ⟨12, (i : Int)⟩
    else match lastOf l1 c.Task i with
      | none => none
      | some k => match l1[k]?, l0[c.Task.toNat]? with
        | some b, some t => if c.At - b.At < t.T then some ⟨12, (i : Int)⟩ else none
        | _, _ => none
/-- what is wrong with comings -/
noncomputable def comesFault (l0 : List STask) (l1 : List SCome) : SFault :=
  if (setFault l0).Code = 0 then (if l1.length > 4000 then ⟨2, 0⟩ else (firstOf (comeAt l0 l1) l1.length 0).getD ⟨0, 0⟩) else setFault l0
theorem getD_leave {ρ : Type} (o : Option ρ) (d : ρ) : (match leave (τ := Unit) () o with | .inl _ => d | .inr r => r) = o.getD d := by cases o <;> rfl
/-- when each task may come next -/
def nexts (l0 : List STask) (l1 : List SCome) (i : Nat) : List Int :=
  (List.range l0.length).map fun (t : Nat) => match lastOf l1 (t : Int) i with
    | none => 0
    | some k => match l1[k]?, l0[t]? with
      | some b, some x => b.At + x.T
      | _, _ => 0
theorem nexts_len (l0 : List STask) (l1 : List SCome) (i : Nat) : (nexts l0 l1 i).length = l0.length := by simp [nexts]
theorem nexts_zero (l0 : List STask) (l1 : List SCome) : nexts l0 l1 0 = List.replicate l0.length (0 : Int) := by
  apply List.ext_getElem
  · simp [nexts]
  · intro i h1 h2
    simp [nexts, lastOf]
theorem comeAt_none {l0 : List STask} {l1 : List SCome} {i : Nat} {c : SCome} (hc : l1[i]? = some c) (h : comeAt l0 l1 i = none) : 0 ≤ c.Task ∧ c.Task < (l0.length : Int) ∧ 0 ≤ c.At ∧ c.At ≤ 20000 ∧ (∀ b, 0 < i → l1[i - 1]? = some b → b.At ≤ c.At) ∧
    (∀ k b t, lastOf l1 c.Task i = some k → l1[k]? = some b → l0[c.Task.toNat]? = some t → t.T ≤ c.At - b.At) := by
  unfold comeAt at h
  rw [hc] at h
  simp only at h
  split at h
  · cases h
  rename_i h1
  split at h
  · cases h
  rename_i h2
  split at h
  · cases h
  rename_i h3
  refine ⟨by omega, by omega, by omega, by omega, fun b hb hbb => ?_, fun k b t hk hb ht => ?_⟩
  · apply Int.not_lt.1
    intro hlt
    exact h3 (sooner_mk hb hbb hlt)
  · rw [hk] at h
    simp only [hb, ht] at h
    split at h
    · cases h
    · omega
theorem Legal_eq (l0 : List STask) (l1 : List SCome) (K : Nat) (hK : 4020 ≤ K) : tasks_Legal.f K l0 l1 = some (comesFault l0 l1) := by
  unfold tasks_Legal.f comesFault
  rw [Check_eq l0 K (by omega)]
  simp only
  by_cases hc : (setFault l0).Code = 0
  · rw [if_pos hc, if_pos hc]
    obtain ⟨hl1, hl8, hset⟩ := setFault_ok hc
    by_cases hlen : (l1.length : Int) > 4000
    · rw [if_pos hlen, if_pos (by omega)]
    rw [if_neg hlen, if_pos (show l0.length ≤ 17592186044416 by omega), if_neg (show ¬ l1.length > 4000 by omega), ← nexts_zero l0 l1]
    have hr := iter_states (f := tasks_Legal.r0 l0 l1) (fun i => (i, nexts l0 l1 i)) (comeAt l0 l1) l1.length (t := ()) (fun i hi hp => by
      have hi' : (i : Int) < (l1.length : Int) := by omega
      have hi4 : (i : Int) ≤ 4000 := by omega
      simp only [tasks_Legal.r0, if_pos hi', List.getElem?_eq_getElem hi]
      have hce : l1[i]? = some l1[i] := List.getElem?_eq_getElem hi
      generalize l1[i] = c at hce ⊢
      have hw : 0 < i → IntKind.i64.wrap ((i : Int) - 1) = ((i - 1 : Nat) : Int) := fun h0 => by rw [wrap64_small (by omega) (by omega)]; omega
      by_cases h1 : c.Task < 0 ∨ c.Task ≥ (l0.length : Int)
      · have hA : comeAt l0 l1 i = some ⟨4, (i : Int)⟩ := by simp only [comeAt, hce, if_pos h1]
        rw [hA]
        unfold tasks_Legal.p1
        by_cases h1' : c.Task < 0
        · rw [if_pos h1']; rfl
        · rw [if_neg h1', if_pos (by omega)]; rfl
      have h1a : ¬ c.Task < 0 := by omega
      have h1b : ¬ c.Task ≥ (l0.length : Int) := by omega
      by_cases h2 : c.At < 0 ∨ c.At > 20000
      · have hA : comeAt l0 l1 i = some ⟨3, (i : Int)⟩ := by simp only [comeAt, hce, if_neg h1, if_pos h2]
        rw [hA]
        unfold tasks_Legal.p1
        rw [if_neg h1a, if_neg h1b]
        by_cases h2' : c.At < 0
        · rw [if_pos h2']; rfl
        · rw [if_neg h2', if_pos (by omega)]; rfl
      have h2a : ¬ c.At < 0 := by omega
      have h2b : ¬ c.At > 20000 := by omega
      have h0t : 0 ≤ c.Task := by omega
      have htl : c.Task.toNat < l0.length := by omega
      have hnx : (nexts l0 l1 i)[c.Task.toNat]? = some (match lastOf l1 c.Task i with
          | none => 0
          | some k => match l1[k]?, l0[c.Task.toNat]? with
            | some b, some x => b.At + x.T
            | _, _ => 0) := by
        have : ((c.Task.toNat : Nat) : Int) = c.Task := Int.toNat_of_nonneg h0t
        simp only [nexts, List.getElem?_map, List.getElem?_range htl, Option.map_some, this]
      obtain ⟨x, hx⟩ : ∃ x, l0[c.Task.toNat]? = some x := ⟨l0[c.Task.toNat], List.getElem?_eq_getElem htl⟩
      obtain ⟨_, _, _, hxT, _⟩ := hset _ _ hx
      -- what the table says
      have htab : ∀ nx, (nexts l0 l1 i)[c.Task.toNat]? = some nx → ((c.At < nx) ↔ ∃ k b, lastOf l1 c.Task i = some k ∧ l1[k]? = some b ∧ c.At - b.At < x.T) := by
        intro nx hn
        rw [hnx] at hn
        have hn := Option.some.inj hn
        subst hn
        cases hk : lastOf l1 c.Task i with
        | none => simp only; constructor
                  · intro h; omega
                  · rintro ⟨k, b, h, _⟩; cases h
        | some k =>
          obtain ⟨b, hb, _⟩ := lastOf_task hk
          simp only [hb, hx]
          constructor
          · intro h; exact ⟨k, b, rfl, hb, by omega⟩
          · rintro ⟨k', b', h1, h2, h3⟩
            cases h1
            rw [hb] at h2
            cases h2
            omega
      obtain ⟨nx, hnx'⟩ : ∃ nx, (nexts l0 l1 i)[c.Task.toNat]? = some nx := ⟨_, hnx⟩
      have hP : tasks_Legal.p1 l0 l1 i (nexts l0 l1 i) c = some (if sooner l1 i c ∨ c.At < nx then .inr ⟨12, (i : Int)⟩ else .inl ()) := by
        unfold tasks_Legal.p1
        rw [if_neg h1a, if_neg h1b, if_neg h2a, if_neg h2b]
        by_cases hi0 : 0 < i
        · have hb : l1[i - 1]? = some l1[i - 1] := List.getElem?_eq_getElem (by omega)
          rw [if_pos (by omega), hw hi0, if_pos (by omega), Int.toNat_natCast, hb]
          simp only [if_pos h0t, hnx']
          by_cases hlt : c.At < l1[i - 1].At
          · rw [if_pos hlt, if_pos (.inl (sooner_mk hi0 hb hlt))]
          · rw [if_neg hlt]
            by_cases hn : c.At < nx
            · rw [if_pos hn, if_pos (.inr hn)]
            · rw [if_neg hn, if_neg]
              rintro (⟨b, _, hb', h⟩ | h)
              · rw [hb] at hb'; cases hb'; exact hlt h
              · exact hn h
        · rw [if_neg (by omega)]
          simp only [if_pos h0t, hnx']
          by_cases hn : c.At < nx
          · rw [if_pos hn, if_pos (.inr hn)]
          · rw [if_neg hn, if_neg]
            rintro (⟨b, h, _⟩ | h)
            · exact hi0 h
            · exact hn h
      rw [hP]
      by_cases hbad : sooner l1 i c ∨ c.At < nx
      · rw [if_pos hbad]
        have hA : comeAt l0 l1 i = some ⟨12, (i : Int)⟩ := by
          simp only [comeAt, hce, if_neg h1, if_neg h2]
          by_cases hb1 : sooner l1 i c
          · rw [if_pos hb1]
          · rw [if_neg hb1]
            rcases hbad with h | h
            · exact absurd h hb1
            · obtain ⟨k, b, hk, hb, h3⟩ := (htab nx hnx').1 h
              simp only [hk, hb, hx, if_pos h3]
        rw [hA]; rfl
      · rw [if_neg hbad]
        have hA : comeAt l0 l1 i = none := by
          simp only [comeAt, hce, if_neg h1, if_neg h2]
          rw [if_neg (fun h => hbad (.inl h))]
          cases hk : lastOf l1 c.Task i with
          | none => rfl
          | some k =>
            obtain ⟨b, hb, _⟩ := lastOf_task hk
            simp only [hb, hx]
            rw [if_neg]
            intro h3
            exact hbad (.inr ((htab nx hnx').2 ⟨k, b, hk, hb, h3⟩))
        rw [hA]
        simp only [if_pos h0t, hx, hnx', onwardS]
        congr 3
        -- the table's next state
        rw [wrap64_small (by omega) (by omega)]
        apply List.ext_getElem?
        intro q
        rw [List.getElem?_set, nexts_len]
        by_cases hq : c.Task.toNat = q
        · subst hq
          rw [if_pos rfl, if_pos htl]
          have hcast : ((c.Task.toNat : Nat) : Int) = c.Task := Int.toNat_of_nonneg h0t
          simp only [nexts, List.getElem?_map, List.getElem?_range htl, Option.map_some, hcast, lastOf, hce, if_true, hx]
        · rw [if_neg hq]
          have hne : ¬ c.Task = (q : Int) := fun h => hq (by omega)
          simp only [nexts, List.getElem?_map, lastOf, hce]
          by_cases hql : q < l0.length
          · rw [List.getElem?_range hql]
            simp only [Option.map_some, if_neg hne]
          · rw [List.getElem?_eq_none (by simp; omega)]; rfl) (fun _ => by simp [tasks_Legal.r0]) (K := K) (by omega)
    simp only [hr]
    cases firstOf (comeAt l0 l1) l1.length 0 <;> rfl
  · rw [if_neg hc, if_neg hc]
theorem back_eq (l0 : List STask) (l1 : List SCome) (i : Nat) (c : SCome) (x : STask) (hx : l0[c.Task.toNat]? = some x) (h0t : 0 ≤ c.Task) (hca : 0 ≤ c.At ∧ c.At ≤ 20000) (hi : i ≤ 4000) (hil : i < l1.length) (hat : ∀ j b, j < i → l1[j]? = some b → 0 ≤ b.At ∧ b.At ≤ 20000) :
    ∀ (n K : Nat), n ≤ i → n < K → iter (punctualref_Lawful.r4 l0 l1 i c) K ((n : Int) - 1) = some (match lastOf l1 c.Task n with
      | none => .inl ()
      | some k => match l1[k]? with
        | some b => if c.At - b.At < x.T then .inr ⟨12, (i : Int)⟩ else .inl ()
        | none => .inl ())
  | n, 0, _, h => by omega
  | 0, K + 1, _, _ => by
    simp [iter, punctualref_Lawful.r4, lastOf]
  | n + 1, K + 1, hn, hK => by
    have hnl : n < l1.length := by omega
    obtain ⟨b, hb⟩ : ∃ b, l1[n]? = some b := ⟨_, List.getElem?_eq_getElem hnl⟩
    have hba := hat n b (by omega) hb
    have e1 : ((n + 1 : Nat) : Int) - 1 = (n : Int) := by omega
    have hw : IntKind.i64.wrap ((n : Int) - 1) = (n : Int) - 1 := wrap64_small (by omega) (by omega)
    have hw2 : IntKind.i64.wrap (c.At - b.At) = c.At - b.At := wrap64_small (by omega) (by omega)
    rw [e1]
    simp only [iter, punctualref_Lawful.r4, lastOf, hb, Int.toNat_natCast, hw, hw2, hx, if_pos h0t]
    rw [if_pos (by omega), if_pos (by omega)]
    by_cases ht : b.Task = c.Task
    · simp only [if_pos ht, hb]
      by_cases hlt : c.At - b.At < x.T
      · simp only [if_pos hlt]; rfl
      · simp only [if_neg hlt]
    · simp only [if_neg ht]
      exact back_eq l0 l1 i c x hx h0t hca hi hil hat n K (by omega) (by omega)
theorem Lawful_eq (l0 : List STask) (l1 : List SCome) (hl : ∀ t ∈ l0, Ok.ok t) (K : Nat) (hK : 4020 ≤ K) (hs : ∀ t ∈ l0, t.Name.size < K) : punctualref_Lawful.f K l0 l1 = some (comesFault l0 l1) := by
  unfold punctualref_Lawful.f comesFault
  rw [CheckSet_eq l0 hl K (by omega) hs]
  simp only
  by_cases hc : (setFault l0).Code = 0
  · rw [if_pos hc, if_pos hc]
    obtain ⟨hl1, hl8, hset⟩ := setFault_ok hc
    by_cases hlen : (l1.length : Int) > 4000
    · rw [if_pos hlen, if_pos (by omega)]; rfl
    rw [if_neg hlen, if_neg (by omega)]
    have hr := iter_states (f := punctualref_Lawful.r0 K l0 l1) (fun i => i) (comeAt l0 l1) l1.length (t := ()) (fun i hi hp => by
      have hi' : (i : Int) < (l1.length : Int) := by omega
      have hi4 : (i : Int) ≤ 4000 := by omega
      have hat : ∀ j b, j < i → l1[j]? = some b → 0 ≤ b.At ∧ b.At ≤ 20000 := fun j b hj hb => by
        obtain ⟨_, _, h1, h2, _⟩ := comeAt_none hb (hp j hj)
        exact ⟨h1, h2⟩
      simp only [punctualref_Lawful.r0, if_pos hi', List.getElem?_eq_getElem hi]
      have hce : l1[i]? = some l1[i] := List.getElem?_eq_getElem hi
      generalize l1[i] = c at hce ⊢
      by_cases h1 : c.Task < 0 ∨ c.Task ≥ (l0.length : Int)
      · have hA : comeAt l0 l1 i = some ⟨4, (i : Int)⟩ := by simp only [comeAt, hce, if_pos h1]
        rw [hA]
        unfold punctualref_Lawful.p1
        by_cases h1' : c.Task < 0
        · rw [if_pos h1']; rfl
        · rw [if_neg h1', if_pos (by omega)]; rfl
      have h1a : ¬ c.Task < 0 := by omega
      have h1b : ¬ c.Task ≥ (l0.length : Int) := by omega
      have hp1 : punctualref_Lawful.p1 l0 i c = some (.inl ()) := by unfold punctualref_Lawful.p1; rw [if_neg h1a, if_neg h1b]
      simp only [hp1]
      by_cases h2 : c.At < 0 ∨ c.At > 20000
      · have hA : comeAt l0 l1 i = some ⟨3, (i : Int)⟩ := by simp only [comeAt, hce, if_neg h1, if_pos h2]
        rw [hA]
        unfold punctualref_Lawful.p2
        by_cases h2' : c.At < 0
        · rw [if_pos h2']; rfl
        · rw [if_neg h2', if_pos (by omega)]; rfl
      have hp2 : punctualref_Lawful.p2 i c = some (.inl ()) := by unfold punctualref_Lawful.p2; rw [if_neg (by omega), if_neg (by omega)]
      simp only [hp2]
      have hp3 : punctualref_Lawful.p3 l1 i c = some (if sooner l1 i c then .inr ⟨12, (i : Int)⟩ else .inl ()) := by
        unfold punctualref_Lawful.p3
        by_cases hi0 : 0 < i
        · have hb : l1[i - 1]? = some l1[i - 1] := List.getElem?_eq_getElem (by omega)
          have hw : IntKind.i64.wrap ((i : Int) - 1) = ((i - 1 : Nat) : Int) := by rw [wrap64_small (by omega) (by omega)]; omega
          rw [if_pos (by omega), hw, if_pos (by omega), Int.toNat_natCast, hb]
          simp only [gt_iff_lt]
          by_cases hlt : c.At < l1[i - 1].At
          · rw [if_pos hlt, if_pos (sooner_mk hi0 hb hlt)]; rfl
          · rw [if_neg hlt, if_neg]
            rintro ⟨b, _, hb', h⟩
            rw [hb] at hb'; cases hb'; exact hlt h
        · rw [if_neg (by omega), if_neg]
          rintro ⟨b, h, _⟩
          exact hi0 h
      simp only [hp3]
      by_cases h3 : sooner l1 i c
      · have hA : comeAt l0 l1 i = some ⟨12, (i : Int)⟩ := by simp only [comeAt, hce, if_neg h1, if_neg h2, if_pos h3]
        rw [hA, if_pos h3]; rfl
      rw [if_neg h3]
      obtain ⟨x, hx⟩ : ∃ x, l0[c.Task.toNat]? = some x := ⟨l0[c.Task.toNat]'(by omega), List.getElem?_eq_getElem (by omega)⟩
      have hw : IntKind.i64.wrap ((i : Int) - 1) = (i : Int) - 1 := wrap64_small (by omega) (by omega)
      rw [hw]
      simp only [back_eq l0 l1 i c x hx (by omega) ⟨by omega, by omega⟩ (by omega) hi hat i K (Nat.le_refl _) (by omega)]
      have hA : comeAt l0 l1 i = match lastOf l1 c.Task i with
          | none => none
          | some k => match l1[k]? with
            | some b => if c.At - b.At < x.T then some ⟨12, (i : Int)⟩ else none
            | none => none := by
        simp only [comeAt, hce, if_neg h1, if_neg h2, if_neg h3, hx]
        cases hk : lastOf l1 c.Task i with
        | none => rfl
        | some k =>
          obtain ⟨b, hb, _⟩ := lastOf_task hk
          simp only [hb]
      rw [hA]
      cases hk : lastOf l1 c.Task i with
      | none => rfl
      | some k =>
        obtain ⟨b, hb, _⟩ := lastOf_task hk
        simp only [hb]
        by_cases hlt : c.At - b.At < x.T
        · simp only [if_pos hlt]; rfl
        · simp only [if_neg hlt]; rfl) (fun _ => by simp [punctualref_Lawful.r0]) (K := K) (by omega)
    simp only [hr]
    cases firstOf (comeAt l0 l1) l1.length 0 <;> rfl
  · rw [if_neg hc, if_neg hc]
/-- what is wrong with the i-th job -/
def jobAt (l0 : List STask) (l1 : List SCome) (l2 l3 : List Int) (i : Nat) : Option SFault :=
  match l1[i]?, l2[i]?, l3[i]? with
  | some c, some a, some b => match l0[c.Task.toNat]? with
    | some t => if a < 0 ∨ a > t.J ∨ b < 1 ∨ b > t.C then some ⟨3, (i : Int)⟩ else none
    | none => none
  | _, _, _ => none
theorem comesFault_ok {l0 : List STask} {l1 : List SCome} (h : (comesFault l0 l1).Code = 0) : (setFault l0).Code = 0 ∧ l1.length ≤ 4000 ∧ ∀ i, i < l1.length → comeAt l0 l1 i = none := by
  unfold comesFault at h
  split at h
  · rename_i hs
    split at h
    · cases h
    · rename_i hl
      refine ⟨hs, by omega, fun i hi => ?_⟩
      cases hf : firstOf (comeAt l0 l1) l1.length 0 with
      | none => exact firstOf_none hf i (Nat.zero_le _) hi
      | some r =>
        rw [hf] at h
        obtain ⟨j, _, hj, hg, _⟩ := firstOf_some hf
        simp only [Option.getD_some] at h
        exfalso
        unfold comeAt at hg
        rw [List.getElem?_eq_getElem hj] at hg
        simp only at hg
        repeat' split at hg
        all_goals first | (cases hg; done) | (cases hg; cases h)
  · contradiction
/-- what a task of a set is -/
structure Okt (t : STask) : Prop where
  C : 1 ≤ t.C ∧ t.C ≤ 10000
  T : 1 ≤ t.T ∧ t.T ≤ 10000
  D : 1 ≤ t.D ∧ t.D ≤ 10000
  J : 0 ≤ t.J ∧ t.J ≤ 10000
  O : 0 ≤ t.O ∧ t.O ≤ 10000
  P : 0 ≤ t.P ∧ t.P ≤ 1000
  CD : t.C ≤ t.D
theorem okt_of {l : List STask} (h : (setFault l).Code = 0) : ∀ t ∈ l, Okt t := fun t ht => by
  obtain ⟨i, hi⟩ := List.mem_iff_getElem?.1 ht
  obtain ⟨_, _, h⟩ := setFault_ok h
  obtain ⟨_, _, h1, h2, h3, h4, h5, h6, h7⟩ := h i t hi
  exact ⟨h1, h2, h3, h4, h5, h6, h7⟩
/-- a over b, rounded up -/
def ceilD (a b : Int) : Int := (a + b - 1) / b
theorem ceilD_mono {a a' b : Int} (hb : 1 ≤ b) (h : a ≤ a') : ceilD a b ≤ ceilD a' b := Int.ediv_le_ediv (by omega) (by omega)
theorem ceilD_nonneg {a b : Int} (hb : 1 ≤ b) (h : 0 ≤ a) : 0 ≤ ceilD a b := Int.ediv_nonneg (by omega) (by omega)
theorem ceilD_le {a b : Int} (hb : 1 ≤ b) (h : 0 ≤ a) : ceilD a b ≤ a := by
  unfold ceilD
  rw [← Int.lt_add_one_iff]
  apply Int.ediv_lt_of_lt_mul (by omega)
  have : a * 1 ≤ a * b := Int.mul_le_mul_of_nonneg_left hb h
  rw [Int.add_mul]
  omega
/-- what others want in so many ticks -/
def wants (os : List STask) (w : Int) : Int := (os.map fun o => ceilD (w + o.J) o.T * o.C).sum
def dem (t : STask) (b : Int) (os : List STask) (w : Int) : Int := t.C + b + wants os w
theorem wants_nil (w : Int) : wants [] w = 0 := rfl
theorem wants_cons (o : STask) (os : List STask) (w : Int) : wants (o :: os) w = ceilD (w + o.J) o.T * o.C + wants os w := by simp [wants]
theorem wants_append (os ps : List STask) (w : Int) : wants (os ++ ps) w = wants os w + wants ps w := by simp [wants]
theorem want_bounds {o : STask} (ho : Okt o) {w : Int} (hw : 0 ≤ w ∧ w ≤ 10000) : 0 ≤ ceilD (w + o.J) o.T * o.C ∧ ceilD (w + o.J) o.T * o.C ≤ 200000000 := by
  have := ho.C; have := ho.T; have := ho.J
  have h1 := ceilD_nonneg (a := w + o.J) (b := o.T) (by omega) (by omega)
  have h2 := ceilD_le (a := w + o.J) (b := o.T) (by omega) (by omega)
  refine ⟨Int.mul_nonneg h1 (by omega), ?_⟩
  calc ceilD (w + o.J) o.T * o.C ≤ 20000 * o.C := Int.mul_le_mul_of_nonneg_right (by omega) (by omega)
    _ ≤ 20000 * 10000 := Int.mul_le_mul_of_nonneg_left (by omega) (by omega)
    _ = 200000000 := by decide
theorem wants_bounds : ∀ {os : List STask}, (∀ o ∈ os, Okt o) → ∀ {w : Int}, (0 ≤ w ∧ w ≤ 10000) → 0 ≤ wants os w ∧ wants os w ≤ 200000000 * os.length
  | [], _, w, _ => by simp [wants_nil]
  | o :: os, h, w, hw => by
    have h1 := want_bounds (h o (by simp)) hw
    have h2 := wants_bounds (fun x hx => h x (List.mem_cons_of_mem _ hx)) hw
    rw [wants_cons, List.length_cons]
    omega
theorem wants_mono : ∀ {os : List STask}, (∀ o ∈ os, Okt o) → ∀ {w w' : Int}, w ≤ w' → wants os w ≤ wants os w'
  | [], _, w, w', _ => by simp [wants_nil]
  | o :: os, h, w, w', hw => by
    have ho := h o (by simp)
    have h2 := wants_mono (fun x hx => h x (List.mem_cons_of_mem _ hx)) hw
    have h1 : ceilD (w + o.J) o.T * o.C ≤ ceilD (w' + o.J) o.T * o.C := Int.mul_le_mul_of_nonneg_right (ceilD_mono ho.T.1 (by omega)) (by have := ho.C; omega)
    rw [wants_cons, wants_cons]
    omega
/-- the least n, 1 at least, in which all is done that is wanted; 0: there is none up to most -/
def settled (f : Int → Int) (most : Int) : Int := match firstOf (fun n : Nat => if f n ≤ n then some (n : Int) else none) (most.toNat + 1) 1 with
  | some n => n
  | none => 0
theorem settled_some {f : Int → Int} {most : Int} {j : Nat} (h : firstOf (fun n : Nat => if f n ≤ n then some (n : Int) else none) (most.toNat + 1) 1 = some (j : Int)) : settled f most = j := by unfold settled; rw [h]
theorem settled_none {f : Int → Int} {most : Int} (h : firstOf (fun n : Nat => if f n ≤ n then some (n : Int) else none) (most.toNat + 1) 1 = none) : settled f most = 0 := by unfold settled; rw [h]
theorem settled_pos {f : Int → Int} {most : Int} (h : settled f most ≠ 0) : 1 ≤ settled f most ∧ settled f most ≤ most ∧ f (settled f most) ≤ settled f most ∧ ∀ n : Int, 1 ≤ n → n < settled f most → n < f n := by
  cases hf : firstOf (fun n : Nat => if f n ≤ n then some (n : Int) else none) (most.toNat + 1) 1 with
  | none => exact absurd (settled_none hf) h
  | some r =>
    obtain ⟨j, h1, h2, h3, h4⟩ := firstOf_some hf
    split at h3
    · cases h3
      rw [settled_some hf]
      refine ⟨by omega, by omega, by assumption, fun n hn1 hn2 => ?_⟩
      have := h4 n.toNat (by omega) (by omega)
      have e : ((n.toNat : Nat) : Int) = n := Int.toNat_of_nonneg (by omega)
      simp only [e] at this
      split at this
      · cases this
      · omega
    · cases h3
theorem settled_zero {f : Int → Int} {most : Int} (h : settled f most = 0) : ∀ n : Int, 1 ≤ n → n ≤ most → n < f n := by
  cases hf : firstOf (fun n : Nat => if f n ≤ n then some (n : Int) else none) (most.toNat + 1) 1 with
  | some r =>
    obtain ⟨j, h1, h2, h3, h4⟩ := firstOf_some hf
    split at h3
    · cases h3; rw [settled_some hf] at h; omega
    · cases h3
  | none =>
    intro n h1 h2
    have := firstOf_none hf n.toNat (by omega) (by omega)
    have e : ((n.toNat : Nat) : Int) = n := Int.toNat_of_nonneg (by omega)
    simp only [e] at this
    split at this
    · cases this
    · omega
theorem settled_eq {f : Int → Int} {most w : Int} (h1 : 1 ≤ w) (h2 : w ≤ most) (h3 : f w ≤ w) (h4 : ∀ n : Int, 1 ≤ n → n < w → n < f n) : settled f most = w := by
  by_cases h : settled f most = 0
  · have := settled_zero h w h1 h2; omega
  · obtain ⟨g1, g2, g3, g4⟩ := settled_pos h
    rcases Int.lt_trichotomy (settled f most) w with hl | hl | hl
    · have := h4 _ g1 hl; omega
    · exact hl
    · have := g4 _ h1 hl; omega
theorem settled_eq_zero {f : Int → Int} {most : Int} (h : ∀ n : Int, 1 ≤ n → n ≤ most → n < f n) : settled f most = 0 := by
  apply Decidable.byContradiction
  intro hne
  obtain ⟨g1, g2, g3, g4⟩ := settled_pos hne
  have := h _ g1 g2
  omega
theorem dem_mono {t : STask} {b : Int} {os : List STask} (ho : ∀ o ∈ os, Okt o) {w w' : Int} (h : w ≤ w') : dem t b os w ≤ dem t b os w' := by
  have := wants_mono ho h
  unfold dem; omega
/-- how long a task takes; 0: too long -/
def respond (t : STask) (os : List STask) (b : Int) : Int := if settled (dem t b os) (t.D - t.J) = 0 then 0 else settled (dem t b os) (t.D - t.J) + t.J
/-- what is wrong with a set whose tasks must be done ere they come again -/
noncomputable def fixedFault (l : List STask) : SFault :=
  if (setFault l).Code = 0 then (firstOf (fun i => match l[i]? with | some t => if t.D > t.T then some ⟨12, (i : Int)⟩ else none | none => none) l.length 0).getD ⟨0, 0⟩ else setFault l
theorem fixedFault_ok {l : List STask} (h : (fixedFault l).Code = 0) : (setFault l).Code = 0 ∧ fixedFault l = ⟨0, 0⟩ ∧ ∀ t ∈ l, t.D ≤ t.T := by
  unfold fixedFault at h ⊢
  split at h
  · rename_i hs
    cases hf : firstOf (fun i => match l[i]? with | some t => if t.D > t.T then some (⟨12, (i : Int)⟩ : SFault) else none | none => none) l.length 0 with
    | none =>
      refine ⟨hs, by rw [if_pos hs]; rfl, fun t ht => ?_⟩
      obtain ⟨i, hi⟩ := List.mem_iff_getElem?.1 ht
      have := firstOf_none hf i (Nat.zero_le _) (lt_of_get hi)
      simp only [hi] at this
      split at this
      · cases this
      · omega
    | some r =>
      rw [hf] at h
      obtain ⟨j, _, hj, hg, _⟩ := firstOf_some hf
      simp only [Option.getD_some] at h
      exfalso
      split at hg
      · split at hg
        · cases hg; cases h
        · cases hg
      · cases hg
  · contradiction
/-- those that go ahead of task i, up to place n -/
def aboveTill (l : List STask) (i : Nat) (n : Nat) : List STask := (List.range n).filterMap fun k => match l[k]?, l[i]? with
  | some a, some b => if k ≠ i ∧ a.P ≥ b.P then some a else none
  | _, _ => none
abbrev aboveOf (l : List STask) (i : Nat) : List STask := aboveTill l i l.length
theorem aboveTill_len (l : List STask) (i n : Nat) : (aboveTill l i n).length ≤ n := by
  unfold aboveTill
  exact Nat.le_trans (List.length_filterMap_le _ _) (by simp)
theorem aboveTill_mem {l : List STask} {i n : Nat} {a : STask} (h : a ∈ aboveTill l i n) : a ∈ l := by
  unfold aboveTill at h
  obtain ⟨k, _, hk⟩ := List.mem_filterMap.1 h
  split at hk
  · rename_i x y hx hy
    split at hk
    · cases hk; exact List.mem_of_getElem? hx
    · cases hk
  · cases hk
theorem aboveTill_succ {l : List STask} {i n : Nat} {a b : STask} (ha : l[n]? = some a) (hb : l[i]? = some b) : aboveTill l i (n + 1) = aboveTill l i n ++ (if n ≠ i ∧ a.P ≥ b.P then [a] else []) := by
  unfold aboveTill
  rw [List.range_succ, List.filterMap_append]
  congr 1
  simp only [List.filterMap_cons, List.filterMap_nil, ha, hb]
  split <;> rename_i h <;> split at h <;> simp_all
/-- how long task i of a set takes at worst -/
noncomputable def respOf (l : List STask) (i b : Int) : Int × SFault :=
  if (fixedFault l).Code = 0 then
    (if i < 0 ∨ i ≥ (l.length : Int) ∨ b < 0 ∨ b > 10000 then (0, ⟨3, 0⟩)
    else match l[i.toNat]? with
      | none => (0, ⟨3, 0⟩)
      | some t => if respond t (aboveOf l i.toNat) b = 0 then (0, ⟨13, i⟩) else (respond t (aboveOf l i.toNat) b, ⟨0, 0⟩))
  else (0, fixedFault l)
/-- the first ones of what all take -/
noncomputable def respTill (l : List STask) (bs : List Int) (n : Nat) : List Int := (List.range n).map fun (i : Nat) => match bs[i]? with | some b => (respOf l (i : Int) b).1 | none => 0
noncomputable def respAt (l : List STask) (bs : List Int) (i : Nat) : Option SFault := match bs[i]? with | some b => if (respOf l (i : Int) b).2.Code = 0 then none else some (respOf l (i : Int) b).2 | none => none
noncomputable def respsOf (l : List STask) (bs : List Int) : List Int × SFault :=
  if (fixedFault l).Code = 0 then
    (if bs.length = l.length then
      (match firstOf (respAt l bs) l.length 0 with
      | some f => ([], f)
      | none => (respTill l bs l.length, ⟨0, 0⟩))
    else ([], ⟨2, 0⟩))
  else ([], fixedFault l)
theorem respsOf_len (l : List STask) (bs : List Int) : (respsOf l bs).1.length ≤ 8 := by
  unfold respsOf
  split
  · rename_i h
    have hl := (setFault_ok (fixedFault_ok h).1).2.1
    split
    · split
      · simp
      · simp [respTill]; exact hl
    · simp
  · simp
theorem gmax_eq (x y : Int) : gmax x y = max x y := by unfold gmax; omega
theorem gmin_eq (x y : Int) : gmin x y = min x y := by unfold gmin; omega

theorem u64_small {n : Int} (h1 : 0 ≤ n) (h2 : n ≤ 9223372036854775807) : IntKind.u64.wrap n = n := by
  simp [IntKind.wrap, IntKind.bits, IntKind.signed]; omega
theorem mid_eq {i j : Nat} (h : i + j ≤ 100000) : IntKind.i64.wrap (Int.fdiv (IntKind.u64.wrap (IntKind.i64.wrap ((i : Int) + (j : Int)))) (2 ^ 1)) = (((i + j) / 2 : Nat) : Int) := by
  rw [wrap64_small (n := (i : Int) + (j : Int)) (by omega) (by omega), u64_small (by omega) (by omega)]
  have e : Int.fdiv ((i : Int) + (j : Int)) (2 ^ 1) = (((i + j) / 2 : Nat) : Int) := by
    rw [Int.fdiv_eq_ediv_of_nonneg _ (by decide)]
    omega
  rw [e, wrap64_small (by omega) (by omega)]

/-- by key, and by tie where the keys are alike -/
def Lex {α : Type} (key tie : α → Int) (x y : α) : Prop := key x < key y ∨ (key x = key y ∧ tie x < tie y)
/-- where the keys are alike: by tie -/
def Qq {α : Type} (key tie : α → Int) (x y : α) : Prop := key x = key y → tie x < tie y
theorem Lex.qq {α : Type} {key tie : α → Int} {x y : α} (h : Lex key tie x y) : Qq key tie x y := fun e => by rcases h with h | h <;> omega
theorem set_mid {α : Type} (A B : List α) (x y : α) : (A ++ x :: B).set A.length y = A ++ y :: B := by
  rw [List.set_append_right _ _ (Nat.le_refl _)]
  simp
theorem get_mid {α : Type} (A B : List α) (x : α) : (A ++ x :: B)[A.length]? = some x := by
  rw [List.getElem?_append_right (Nat.le_refl _)]
  simp
/-- one goes down to its place -/
theorem down {α ρ : Type} (lt : α → α → Prop) [∀ x y, Decidable (lt x y)] (f : Int × List α → Option ((Int × List α) ⊕ (List α ⊕ ρ))) (pre : List α) (x : α) (N : Nat)
    (hs : ∀ (m : List α), m.length = N → f ((pre.length : Int), m) = some (.inr (.inl m)))
    (hf : ∀ (s post : List α) (y : α), (pre ++ s ++ y :: x :: post).length = N → f (((pre.length + s.length + 1 : Nat) : Int), pre ++ s ++ y :: x :: post) = some (if lt x y then .inl (((pre.length + s.length : Nat) : Int), pre ++ s ++ x :: y :: post) else .inr (.inl (pre ++ s ++ y :: x :: post)))) :
    ∀ (n : Nat) (s post : List α) (K : Nat), s.length = n → n < K → (pre ++ s ++ x :: post).length = N →
      ∃ s1 s2, s = s1 ++ s2 ∧ (∀ y ∈ s2, lt x y) ∧ (∀ y ∈ s1.getLast?, ¬ lt x y) ∧ iter f K (((pre.length + s.length : Nat) : Int), pre ++ s ++ x :: post) = some (.inl (pre ++ s1 ++ x :: s2 ++ post))
  | 0, s, post, K + 1, hn, hK, hN => by
    obtain rfl := List.length_eq_zero_iff.1 hn
    refine ⟨[], [], rfl, by simp, by simp, ?_⟩
    simp only [iter, List.append_nil, List.length_nil, Nat.add_zero] at hN ⊢
    rw [hs _ hN]
    simp
  | n + 1, s, post, K + 1, hn, hK, hN => by
    rcases List.eq_nil_or_concat s with rfl | ⟨s', y, rfl⟩
    · simp at hn
    simp only [List.concat_eq_append] at hn hN ⊢
    have hn' : s'.length = n := by simpa using hn
    have e : pre ++ (s' ++ [y]) ++ x :: post = pre ++ s' ++ y :: x :: post := by simp
    have e2 : pre.length + (s' ++ [y]).length = pre.length + s'.length + 1 := by simp; omega
    rw [e] at hN
    simp only [iter]
    rw [e, e2, hf s' post y hN]
    by_cases h : lt x y
    · rw [if_pos h]
      obtain ⟨s1, s2, rfl, h1, h2, h3⟩ := down lt f pre x N hs hf n s' (y :: post) K hn' (by omega) (by simp at hN ⊢; omega)
      refine ⟨s1, s2 ++ [y], by simp, ?_, h2, ?_⟩
      · intro z hz
        rcases List.mem_append.1 hz with hz | hz
        · exact h1 z hz
        · rw [List.mem_singleton.1 hz]; exact h
      · simp only
        rw [h3]
        simp
    · rw [if_neg h]
      refine ⟨s' ++ [y], [], by simp, by simp, ?_, ?_⟩
      · intro z hz
        rw [List.getLast?_concat] at hz
        obtain rfl := Option.some.inj hz
        exact h
      · simp
theorem down_lex {α : Type} {key tie : α → Int} {s1 s2 : List α} {x : α} (hs : (s1 ++ s2).Pairwise (Lex key tie)) (hq : ∀ y ∈ s1 ++ s2, Qq key tie y x) (h1 : ∀ y ∈ s2, key x < key y) (h2 : ∀ y ∈ s1.getLast?, ¬ key x < key y) :
    (s1 ++ x :: s2).Pairwise (Lex key tie) := by
  rw [List.pairwise_append] at hs ⊢
  obtain ⟨p1, p2, p3⟩ := hs
  have hle : ∀ y ∈ s1, Lex key tie y x := by
    intro y hy
    have hq' := hq y (List.mem_append_left _ hy)
    rcases List.eq_nil_or_concat s1 with rfl | ⟨t, z, rfl⟩
    · cases hy
    simp only [List.concat_eq_append] at hy p1 h2
    have hz : ¬ key x < key z := h2 z (by simp)
    have hyz : key y ≤ key z := by
      rcases List.mem_append.1 hy with hy | hy
      · rcases (List.pairwise_append.1 p1).2.2 y hy z (by simp) with h | h <;> omega
      · rw [List.mem_singleton.1 hy]; omega
    by_cases he : key y = key x
    · exact .inr ⟨he, hq' he⟩
    · exact .inl (by omega)
  refine ⟨p1, List.pairwise_cons.2 ⟨fun y hy => .inl (h1 y hy), p2⟩, fun y hy z hz => ?_⟩
  rcases List.mem_cons.1 hz with rfl | hz
  · exact hle y hy
  · exact p3 y hy z hz
/-- one after the other -/
theorem insOuter {α ρ : Type} {key tie : α → Int} (g : Int × List α → Option ((Int × List α) ⊕ (List α ⊕ ρ))) (pre post : List α) (N : Nat)
    (hg : ∀ (s rest : List α) (x : α), s ≠ [] → (pre ++ s ++ x :: rest ++ post).length = N → s.Pairwise (Lex key tie) → (∀ y ∈ s, Qq key tie y x) → ∃ s', s'.Perm (s ++ [x]) ∧ s'.Pairwise (Lex key tie) ∧ g (((pre.length + s.length : Nat) : Int), pre ++ s ++ x :: rest ++ post) = some (.inl (((pre.length + s.length + 1 : Nat) : Int), pre ++ s' ++ rest ++ post)))
    (he : ∀ (z : Int) (m : List α), m.length = N → ((N : Int) - post.length) ≤ z → g (z, m) = some (.inr (.inl m))) :
    ∀ (rest s : List α) (K : Nat), s ≠ [] → rest.length < K → (pre ++ s ++ rest ++ post).length = N → s.Pairwise (Lex key tie) → (s ++ rest).Pairwise (Qq key tie) →
      ∃ s', s'.Perm (s ++ rest) ∧ s'.Pairwise (Lex key tie) ∧ iter g K (((pre.length + s.length : Nat) : Int), pre ++ s ++ rest ++ post) = some (.inl (pre ++ s' ++ post))
  | [], s, K + 1, h0, hK, hN, hs, hq => by
    refine ⟨s, by simp, hs, ?_⟩
    simp only [iter, List.append_nil] at hN ⊢
    rw [he _ _ hN (by simp at hN; omega)]
  | x :: rest, s, K + 1, h0, hK, hN, hs, hq => by
    have hq' := List.pairwise_append.1 hq
    obtain ⟨s', p, hs', hr⟩ := hg s rest x h0 hN hs (fun y hy => hq'.2.2 y hy x (by simp))
    have hl : s'.length = s.length + 1 := by have := p.length_eq; simpa using this
    obtain ⟨s'', p2, hs'', hr2⟩ := insOuter g pre post N hg he rest s' K (by intro h; simp [h] at hl) (by simp at hK; omega) (by simp at hN ⊢; omega) hs' (by
      rw [List.pairwise_append]
      refine ⟨hs'.imp fun h => h.qq, (List.pairwise_cons.1 hq'.2.1).2, fun y hy z hz => ?_⟩
      have := p.mem_iff.1 hy
      rcases List.mem_append.1 this with h | h
      · exact hq'.2.2 y h z (by simp [hz])
      · rw [List.mem_singleton.1 h]; exact (List.pairwise_cons.1 hq'.2.1).1 z hz)
    refine ⟨s'', p2.trans ((p.append_right rest).trans (by simp)), hs'', ?_⟩
    simp only [iter]
    rw [hr]
    simp only
    rw [← hr2, hl]
    congr 3
theorem get_atL {α : Type} (A B : List α) (x : α) {n : Nat} {L : List α} (hL : L = A ++ x :: B) (h : n = A.length) : L[n]? = some x := by subst hL; subst h; exact get_mid A B x
theorem set_atL {α : Type} (A B : List α) (x y : α) {n : Nat} {L : List α} (hL : L = A ++ x :: B) (h : n = A.length) : L.set n y = A ++ y :: B := by subst hL; subst h; exact set_mid A B x y
theorem comp_lt (a b : Int) : cmp_Compare_int.f a b < 0 ↔ a < b := by
  have h : ∀ x, cmp_isNaN_int.f x = false := fun x => by simp [cmp_isNaN_int.f]
  simp only [cmp_Compare_int.f, h]
  simp
  split
  · simp [*]
  · split <;> omega
theorem wrapN {n : Nat} (h : n ≤ 1000000) : IntKind.i64.wrap ((n : Int)) = (n : Int) := wrap64_small (by omega) (by omega)
theorem insCome_down (pre : List SCome) (x : SCome) (N : Nat) (hN : N ≤ 100000) (n : Nat) (s post : List SCome) (K : Nat) (hn : s.length = n) (hK : n < K) (hL : (pre ++ s ++ x :: post).length = N) :
    ∃ s1 s2, s = s1 ++ s2 ∧ (∀ y ∈ s2, x.At < y.At) ∧ (∀ y ∈ s1.getLast?, ¬ x.At < y.At) ∧ iter (slices_insertionSortCmpFunc_api_Come.r1 (pre.length : Int)) K (((pre.length + s.length : Nat) : Int), pre ++ s ++ x :: post) = some (.inl (pre ++ s1 ++ x :: s2 ++ post)) := by
  refine down (lt := fun x y : SCome => x.At < y.At) (slices_insertionSortCmpFunc_api_Come.r1 (pre.length : Int)) pre x N (fun m hm => ?_) (fun s post y hm => ?_) n s post K hn hK hL
  · simp only [slices_insertionSortCmpFunc_api_Come.r1]
    rw [if_neg (by omega)]
  · have hb : pre.length + s.length + 2 ≤ 100000 := by simp at hm; omega
    have e1 : IntKind.i64.wrap (((pre.length + s.length + 1 : Nat) : Int) - 1) = ((pre.length + s.length : Nat) : Int) := by rw [wrap64_small (by omega) (by omega)]; omega
    have g1 : (pre ++ s ++ y :: x :: post)[pre.length + s.length + 1]? = some x := get_atL (pre ++ s ++ [y]) post x (by simp) (by simp; omega)
    have g2 : (pre ++ s ++ y :: x :: post)[pre.length + s.length]? = some y := get_atL (pre ++ s) (x :: post) y (by simp) (by simp)
    have s1 : (pre ++ s ++ y :: x :: post).set (pre.length + s.length + 1) y = pre ++ s ++ [y] ++ y :: post := set_atL (pre ++ s ++ [y]) post x y (by simp) (by simp; omega)
    have g3 : (pre ++ s ++ [y] ++ y :: post)[pre.length + s.length]? = some y := get_atL (pre ++ s) (y :: post) y (by simp) (by simp)
    have s2 : (pre ++ s ++ [y] ++ y :: post).set (pre.length + s.length) x = pre ++ s ++ x :: y :: post := set_atL (pre ++ s) (y :: post) y x (by simp) (by simp)
    simp only [slices_insertionSortCmpFunc_api_Come.r1, e1, Int.toNat_natCast, g1, g2, s1, g3, s2, tasks_Comes_1.f, comp_lt]
    rw [if_pos (by omega), if_pos (by omega), if_pos (by omega)]
    by_cases h : x.At < y.At <;> simp [h]
abbrev cAt (c : SCome) : Int := c.At
abbrev cTask (c : SCome) : Int := c.Task
theorem insCome_eq (pre seg post : List SCome) (K : Nat) (hN : (pre ++ seg ++ post).length ≤ 100000) (hK : seg.length < K) (hq : seg.Pairwise (Qq cAt cTask)) :
    ∃ s', s'.Perm seg ∧ s'.Pairwise (Lex cAt cTask) ∧ slices_insertionSortCmpFunc_api_Come.f K (pre ++ seg ++ post) (pre.length : Int) ((pre.length + seg.length : Nat) : Int) = some (pre ++ s' ++ post) := by
  have hb : pre.length + seg.length ≤ 100000 := by simp at hN; omega
  have e0 : IntKind.i64.wrap ((pre.length : Int) + 1) = ((pre.length + 1 : Nat) : Int) := by rw [wrap64_small (by omega) (by omega)]; omega
  rcases seg with _ | ⟨x, rest⟩
  · refine ⟨[], by simp, by simp, ?_⟩
    cases K with
    | zero => simp at hK
    | succ K =>
      simp only [slices_insertionSortCmpFunc_api_Come.f, iter, slices_insertionSortCmpFunc_api_Come.r0, e0]
      rw [if_neg (by simp; omega)]
  · obtain ⟨s', p, hs, hr⟩ := insOuter (key := cAt) (tie := cTask) (slices_insertionSortCmpFunc_api_Come.r0 K (pre.length : Int) ((pre.length + (x :: rest).length : Nat) : Int)) pre post (pre ++ (x :: rest) ++ post).length
      (fun s rest' y h0 hL hs hq' => by
        have hl : pre.length + s.length + 1 ≤ pre.length + (x :: rest).length := by simp at hL ⊢; omega
        have hK' : s.length < K := by simp at hK hl; omega
        have eL : pre ++ s ++ y :: rest' ++ post = pre ++ s ++ y :: (rest' ++ post) := by simp
        obtain ⟨s1, s2, rfl, h1, h2, h3⟩ := insCome_down pre y _ hN s.length s (rest' ++ post) K rfl hK' (by rw [← hL]; simp)
        refine ⟨s1 ++ y :: s2, by rw [List.append_assoc]; exact (List.Perm.append_left s1 (List.perm_append_comm (l₁ := [y]) (l₂ := s2))), down_lex hs hq' h1 h2, ?_⟩
        simp only [slices_insertionSortCmpFunc_api_Come.r0]
        rw [if_pos (by simp only [List.length_append] at hl ⊢; omega), eL, h3]
        have e1 : IntKind.i64.wrap (((pre.length + (s1 ++ s2).length : Nat) : Int) + 1) = ((pre.length + (s1 ++ s2).length + 1 : Nat) : Int) := by rw [wrap64_small (by omega) (by omega)]; omega
        simp only [e1]
        simp)
      (fun z m hm hz => by
        simp only [slices_insertionSortCmpFunc_api_Come.r0]
        rw [if_neg (by simp at hz ⊢; omega)]) rest [x] K (by simp) (by simp at hK; omega) (by simp) (by simp) (by simpa using hq)
    refine ⟨s', by simpa using p, hs, ?_⟩
    simp only [slices_insertionSortCmpFunc_api_Come.f, e0]
    have e2 : pre ++ x :: rest ++ post = pre ++ [x] ++ rest ++ post := by simp
    rw [e2]
    simp only [List.length_cons, List.length_nil, Nat.zero_add] at hr ⊢
    rw [hr]
theorem swap_inner (P w Q : List SCome) (N : Nat) (hN : N ≤ 100000) (K0 : Nat) : ∀ (u v vd ud : List SCome) (K : Nat), u.length = v.length → vd.length = ud.length → u.length < K → (P ++ vd ++ u ++ w ++ ud ++ v ++ Q).length = N →
    iter (slices_swapRangeCmpFunc_api_Come.r0 (P.length : Int) ((P.length + (vd.length + u.length) + w.length : Nat) : Int) ((vd.length + u.length : Nat) : Int)) K ((vd.length : Int), P ++ vd ++ u ++ w ++ ud ++ v ++ Q) = some (.inl (P ++ (vd ++ v) ++ w ++ (ud ++ u) ++ Q))
  | [], v, vd, ud, K + 1, h1, h2, hK, hL => by
    obtain rfl := List.length_eq_zero_iff.1 h1.symm
    simp only [iter, slices_swapRangeCmpFunc_api_Come.r0]
    rw [if_neg (by simp)]
    simp
  | x :: u, v, vd, ud, K + 1, h1, h2, hK, hL => by
    rcases v with _ | ⟨y, v⟩
    · simp at h1
    simp only [List.length_append, List.length_cons] at hL h1
    have e1 : IntKind.i64.wrap (((P.length + (vd.length + (x :: u).length) + w.length : Nat) : Int) + (vd.length : Int)) = ((P.length + (vd.length + (x :: u).length) + w.length + vd.length : Nat) : Int) := by rw [wrap64_small (by simp; omega) (by simp; omega)]; omega
    have e2 : IntKind.i64.wrap ((P.length : Int) + (vd.length : Int)) = ((P.length + vd.length : Nat) : Int) := by rw [wrap64_small (by omega) (by omega)]; omega
    have e3 : IntKind.i64.wrap ((vd.length : Int) + 1) = ((vd.length + 1 : Nat) : Int) := by rw [wrap64_small (by omega) (by omega)]; omega
    have g1 : (P ++ vd ++ (x :: u) ++ w ++ ud ++ (y :: v) ++ Q)[P.length + (vd.length + (x :: u).length) + w.length + vd.length]? = some y := get_atL (P ++ vd ++ (x :: u) ++ w ++ ud) (v ++ Q) y (by simp) (by simp; omega)
    have g2 : (P ++ vd ++ (x :: u) ++ w ++ ud ++ (y :: v) ++ Q)[P.length + vd.length]? = some x := get_atL (P ++ vd) (u ++ w ++ ud ++ (y :: v) ++ Q) x (by simp) (by simp)
    have s1 : (P ++ vd ++ (x :: u) ++ w ++ ud ++ (y :: v) ++ Q).set (P.length + vd.length) y = P ++ vd ++ y :: (u ++ w ++ ud ++ (y :: v) ++ Q) := set_atL (P ++ vd) (u ++ w ++ ud ++ (y :: v) ++ Q) x y (by simp) (by simp)
    have g3 : (P ++ vd ++ y :: (u ++ w ++ ud ++ (y :: v) ++ Q))[P.length + (vd.length + (x :: u).length) + w.length + vd.length]? = some y := get_atL (P ++ vd ++ (y :: u) ++ w ++ ud) (v ++ Q) y (by simp) (by simp; omega)
    have s2 : (P ++ vd ++ y :: (u ++ w ++ ud ++ (y :: v) ++ Q)).set (P.length + (vd.length + (x :: u).length) + w.length + vd.length) x = P ++ (vd ++ [y]) ++ u ++ w ++ (ud ++ [x]) ++ v ++ Q := by
      rw [set_atL (P ++ vd ++ (y :: u) ++ w ++ ud) (v ++ Q) y x (by simp) (by simp; omega)]
      simp
    have ih := swap_inner P w Q N hN K0 u v (vd ++ [y]) (ud ++ [x]) K (by omega) (by simp; omega) (by simp at hK; omega) (by simp; omega)
    simp only [iter, slices_swapRangeCmpFunc_api_Come.r0, e1, e2, e3, Int.toNat_natCast, g1, g2, s1, g3, s2]
    rw [if_pos (by simp; omega), if_pos (by omega), if_pos (by omega)]
    simp only
    have e4 : vd.length + (x :: u).length = (vd ++ [y]).length + u.length := by simp; omega
    rw [e4, show vd.length + 1 = (vd ++ [y]).length by simp, ih]
    simp
theorem swap_eq (P u w v Q : List SCome) (K : Nat) (hN : (P ++ u ++ w ++ v ++ Q).length ≤ 100000) (hl : u.length = v.length) (hK : u.length < K) :
    slices_swapRangeCmpFunc_api_Come.f K (P ++ u ++ w ++ v ++ Q) (P.length : Int) ((P.length + u.length + w.length : Nat) : Int) (u.length : Int) = some (P ++ v ++ w ++ u ++ Q) := by
  have h := swap_inner P w Q _ hN K u v [] [] K hl rfl hK (by simp)
  simp only [List.length_nil, Nat.zero_add, List.append_nil, List.nil_append] at h
  simp only [slices_swapRangeCmpFunc_api_Come.f]
  rw [show ((0 : Nat) : Int) = 0 from rfl] at h
  rw [h]
theorem rot_inner (m Kc : Nat) (hKc : 100000 < Kc) : ∀ (n : Nat) (u v P Q : List SCome) (K : Nat), u.length + v.length ≤ n → u ≠ [] → v ≠ [] → n < K → P.length + u.length = m → (P ++ u ++ v ++ Q).length ≤ 100000 →
    ∃ (z : Int) (l : List SCome), iter (slices_rotateCmpFunc_api_Come.r0 Kc (m : Int)) K ((u.length : Int), (v.length : Int), P ++ u ++ v ++ Q) = some (.inl (z, l)) ∧ slices_swapRangeCmpFunc_api_Come.f Kc l (IntKind.i64.wrap ((m : Int) - z)) (m : Int) z = some (P ++ v ++ u ++ Q)
  | n, u, v, P, Q, 0, hn, hu, hv, hK, hm, hN => by omega
  | n, u, v, P, Q, K + 1, hn, hu, hv, hK, hm, hN => by
    have hlu := List.length_pos_iff.2 hu
    have hlv := List.length_pos_iff.2 hv
    have hb : P.length + u.length + v.length ≤ 100000 := by simp at hN; omega
    have e1 : IntKind.i64.wrap ((m : Int) - (u.length : Int)) = (P.length : Int) := by rw [wrap64_small (by omega) (by omega)]; omega
    simp only [iter, slices_rotateCmpFunc_api_Come.r0]
    by_cases h1 : u.length = v.length
    · rw [if_pos (by omega)]
      refine ⟨_, _, rfl, ?_⟩
      have h := swap_eq P u [] v Q Kc (by simpa using hN) h1 (by omega)
      simp only [List.length_nil, Nat.add_zero, List.append_nil] at h
      rw [e1, ← hm, h]
    · rw [if_neg (by omega)]
      by_cases h2 : u.length > v.length
      · rw [if_pos (by omega)]
        have eu : u = u.take v.length ++ u.drop v.length := (List.take_append_drop _ _).symm
        have l1 : (u.take v.length).length = v.length := by simp; omega
        have l2 : (u.drop v.length).length = u.length - v.length := by simp
        generalize u.take v.length = u1 at eu l1
        generalize u.drop v.length = u2 at eu l2
        have h := swap_eq P u1 u2 v Q Kc (by rw [eu] at hN; simpa using hN) l1 (by omega)
        have e3 : P ++ u1 ++ u2 ++ v ++ Q = P ++ u ++ v ++ Q := by rw [eu]; simp
        have e4 : P.length + u1.length + u2.length = m := by omega
        rw [e3, e4, l1] at h
        rw [e1, h]
        obtain ⟨z, l, hr1, hr2⟩ := rot_inner m Kc hKc (n - 1) u2 u1 (P ++ v) Q K (by omega) (by intro h; simp [h] at l2; omega) (by intro h; simp [h] at l1; omega) (by omega) (by simp; omega) (by rw [eu] at hN; simp at hN ⊢; omega)
        refine ⟨z, l, ?_, ?_⟩
        · simp only
          rw [show IntKind.i64.wrap ((u.length : Int) - (v.length : Int)) = (u2.length : Int) by rw [wrap64_small (by omega) (by omega)]; omega, ← hr1, l1]
        · rw [hr2, eu]; simp
      · rw [if_neg (by omega)]
        have ev : v = v.take (v.length - u.length) ++ v.drop (v.length - u.length) := (List.take_append_drop _ _).symm
        have l1 : (v.take (v.length - u.length)).length = v.length - u.length := by simp
        have l2 : (v.drop (v.length - u.length)).length = u.length := by simp; omega
        generalize v.take (v.length - u.length) = v1 at ev l1
        generalize v.drop (v.length - u.length) = v2 at ev l2
        have h := swap_eq P u v1 v2 Q Kc (by rw [ev] at hN; simpa using hN) l2.symm (by omega)
        have e3 : P ++ u ++ v1 ++ v2 ++ Q = P ++ u ++ v ++ Q := by rw [ev]; simp
        have e4 : IntKind.i64.wrap (IntKind.i64.wrap ((m : Int) + (v.length : Int)) - (u.length : Int)) = ((P.length + u.length + v1.length : Nat) : Int) := by rw [wrap64_small (n := (m : Int) + (v.length : Int)) (by omega) (by omega), wrap64_small (by omega) (by omega)]; omega
        rw [e3] at h
        rw [e1, e4, h]
        obtain ⟨z, l, hr1, hr2⟩ := rot_inner m Kc hKc (n - 1) v2 v1 P (u ++ Q) K (by omega) (by intro h; simp [h] at l2; omega) (by intro h; simp [h] at l1; omega) (by omega) (by omega) (by rw [ev] at hN; simp at hN ⊢; omega)
        refine ⟨z, l, ?_, ?_⟩
        · simp only
          rw [show IntKind.i64.wrap ((v.length : Int) - (u.length : Int)) = (v1.length : Int) by rw [wrap64_small (by omega) (by omega)]; omega, ← l2]
          simpa using hr1
        · rw [hr2, ev]; simp
theorem rot_eq (u v P Q : List SCome) (K : Nat) (hu : u ≠ []) (hv : v ≠ []) (hN : (P ++ u ++ v ++ Q).length ≤ 100000) (hK : 100010 ≤ K) :
    slices_rotateCmpFunc_api_Come.f K (P ++ u ++ v ++ Q) (P.length : Int) ((P.length + u.length : Nat) : Int) ((P.length + u.length + v.length : Nat) : Int) = some (P ++ v ++ u ++ Q) := by
  have hb : P.length + u.length + v.length ≤ 100000 := by simp at hN; omega
  obtain ⟨z, l, h1, h2⟩ := rot_inner (P.length + u.length) K (by omega) 100000 u v P Q K (by omega) hu hv (by omega) rfl hN
  have e1 : IntKind.i64.wrap (((P.length + u.length : Nat) : Int) - (P.length : Int)) = (u.length : Int) := by rw [wrap64_small (by omega) (by omega)]; omega
  have e2 : IntKind.i64.wrap (((P.length + u.length + v.length : Nat) : Int) - ((P.length + u.length : Nat) : Int)) = (v.length : Int) := by rw [wrap64_small (by omega) (by omega)]; omega
  simp only [slices_rotateCmpFunc_api_Come.f, e1, e2, h1, h2]
/-- a search by halves -/
theorem halves {ρ : Type} (f : Int × Int → Option ((Int × Int) ⊕ (Int ⊕ ρ))) (p : Nat → Prop) [DecidablePred p] (lo hi : Nat) (hlh : lo ≤ hi)
    (hf : ∀ i j : Nat, lo ≤ i → i < j → j ≤ hi → f ((i : Int), (j : Int)) = some (.inl (if p ((i + j) / 2) then ((((i + j) / 2 + 1 : Nat) : Int), (j : Int)) else ((i : Int), (((i + j) / 2 : Nat) : Int)))))
    (he : ∀ i : Nat, f ((i : Int), (i : Int)) = some (.inr (.inl (i : Int)))) (hm : ∀ h h' : Nat, lo ≤ h → h ≤ h' → h' < hi → p h' → p h) (K : Nat) (hK : hi - lo < K) :
    ∃ r : Nat, lo ≤ r ∧ r ≤ hi ∧ (∀ h : Nat, lo ≤ h → h < r → p h) ∧ (∀ h : Nat, r ≤ h → h < hi → ¬ p h) ∧ iter f K ((lo : Int), (hi : Int)) = some (.inl (r : Int)) := by
  obtain ⟨r, hr, z, rfl, h0, h1, h2, h3⟩ := iter_total (f := f) (fun s => ∃ i j : Nat, s = ((i : Int), (j : Int)) ∧ lo ≤ i ∧ i ≤ j ∧ j ≤ hi ∧ (∀ h : Nat, lo ≤ h → h < i → p h) ∧ (∀ h : Nat, j ≤ h → h < hi → ¬ p h)) (fun s => (s.2 - s.1).toNat)
    (fun r => ∃ z : Nat, r = .inl (z : Int) ∧ lo ≤ z ∧ z ≤ hi ∧ (∀ h : Nat, lo ≤ h → h < z → p h) ∧ (∀ h : Nat, z ≤ h → h < hi → ¬ p h)) (fun s hI => by
      obtain ⟨i, j, rfl, hl, hij, hj, g1, g2⟩ := hI
      by_cases hlt : i < j
      · left
        rw [hf i j hl hlt hj]
        by_cases hp : p ((i + j) / 2)
        · rw [if_pos hp]
          exact ⟨_, rfl, ⟨_, _, rfl, by omega, by omega, hj, fun h h1 h2 => hm h _ h1 (by omega) (by omega) hp, g2⟩, by simp only; omega⟩
        · rw [if_neg hp]
          exact ⟨_, rfl, ⟨_, _, rfl, hl, by omega, by omega, g1, fun h h1 h2 hh => hp (hm _ h (by omega) h1 h2 hh)⟩, by simp only; omega⟩
      · right
        obtain rfl : i = j := by omega
        rw [he]
        exact ⟨_, rfl, i, rfl, hl, hj, g1, g2⟩) K ((lo : Int), (hi : Int)) ⟨lo, hi, rfl, Nat.le_refl _, hlh, Nat.le_refl _, fun h _ _ => by omega, fun h _ _ => by omega⟩ (by simp only; omega)
  exact ⟨z, h0, h1, h2, h3, hr⟩
/-- one goes up -/
theorem up_eq' (x : SCome) (z : Nat) (N : Nat) (hN : N ≤ 100000) : ∀ (s P Q : List SCome) (K : Nat), s.length < K → P.length + s.length + 1 = z → (P ++ x :: s ++ Q).length = N →
    iter (slices_symMergeCmpFunc_api_Come.r1 (z : Int)) K ((P.length : Int), P ++ x :: s ++ Q) = some (.inl (P ++ s ++ x :: Q))
  | [], P, Q, K + 1, hK, hz, hL => by
    simp only [List.length_append, List.length_cons, List.length_nil] at hL
    have e0 : IntKind.i64.wrap ((z : Int) - 1) = (P.length : Int) := by rw [wrap64_small (by simp at hz; omega) (by simp at hz; omega)]; simp at hz; omega
    simp only [iter, slices_symMergeCmpFunc_api_Come.r1, e0]
    rw [if_neg (by omega)]
    simp
  | y :: s, P, Q, K + 1, hK, hz, hL => by
    simp only [List.length_append, List.length_cons] at hL hz hK
    have e0 : IntKind.i64.wrap ((z : Int) - 1) = ((z - 1 : Nat) : Int) := by rw [wrap64_small (by omega) (by omega)]; omega
    have e1 : IntKind.i64.wrap ((P.length : Int) + 1) = ((P.length + 1 : Nat) : Int) := by rw [wrap64_small (by omega) (by omega)]; omega
    have g1 : (P ++ x :: y :: s ++ Q)[P.length + 1]? = some y := get_atL (P ++ [x]) (s ++ Q) y (by simp) (by simp)
    have g2 : (P ++ x :: y :: s ++ Q)[P.length]? = some x := get_atL P (y :: s ++ Q) x (by simp) rfl
    have s1 : (P ++ x :: y :: s ++ Q).set P.length y = P ++ y :: (y :: s ++ Q) := set_atL P (y :: s ++ Q) x y (by simp) rfl
    have g3 : (P ++ y :: (y :: s ++ Q))[P.length + 1]? = some y := get_atL (P ++ [y]) (s ++ Q) y (by simp) (by simp)
    have s2 : (P ++ y :: (y :: s ++ Q)).set (P.length + 1) x = P ++ [y] ++ x :: s ++ Q := by rw [set_atL (P ++ [y]) (s ++ Q) y x (by simp) (by simp)]; simp
    simp only [iter, slices_symMergeCmpFunc_api_Come.r1, e0, e1, Int.toNat_natCast, g1, g2, s1, g3, s2]
    rw [if_pos (by omega), if_pos (by omega), if_pos (by omega)]
    have ih := up_eq' x z N hN s (P ++ [y]) Q K (by omega) (by simp; omega) (by simp; omega)
    simp only [List.length_append, List.length_cons, List.length_nil, Nat.zero_add] at ih
    simp only
    rw [ih]
    simp
theorem dn_eq' (y : SCome) (z : Nat) (N : Nat) (hN : N ≤ 100000) (P : List SCome) (hz : P.length = z) : ∀ (n : Nat) (s Q : List SCome) (K : Nat), s.length = n → n < K → (P ++ s ++ y :: Q).length = N →
    iter (slices_symMergeCmpFunc_api_Come.r3 (z : Int)) K (((P.length + s.length : Nat) : Int), P ++ s ++ y :: Q) = some (.inl (P ++ y :: s ++ Q))
  | 0, s, Q, K + 1, hn, hK, hL => by
    obtain rfl := List.length_eq_zero_iff.1 hn
    simp only [iter, slices_symMergeCmpFunc_api_Come.r3]
    rw [if_neg (by simp; omega)]
    simp
  | n + 1, s, Q, K + 1, hn, hK, hL => by
    rcases List.eq_nil_or_concat s with rfl | ⟨t, x, rfl⟩
    · simp at hn
    simp only [List.concat_eq_append] at hn hL ⊢
    have hn' : t.length = n := by simpa using hn
    simp only [List.length_append, List.length_cons, List.length_nil] at hL
    have eL : P ++ (t ++ [x]) ++ y :: Q = P ++ t ++ x :: y :: Q := by simp
    have ez : P.length + (t ++ [x]).length = P.length + t.length + 1 := by simp; omega
    have e1 : IntKind.i64.wrap (((P.length + t.length + 1 : Nat) : Int) - 1) = ((P.length + t.length : Nat) : Int) := by rw [wrap64_small (by omega) (by omega)]; omega
    have g1 : (P ++ t ++ x :: y :: Q)[P.length + t.length]? = some x := get_atL (P ++ t) (y :: Q) x rfl (by simp)
    have g2 : (P ++ t ++ x :: y :: Q)[P.length + t.length + 1]? = some y := get_atL (P ++ t ++ [x]) Q y (by simp) (by simp; omega)
    have s1 : (P ++ t ++ x :: y :: Q).set (P.length + t.length + 1) x = P ++ t ++ [x] ++ x :: Q := set_atL (P ++ t ++ [x]) Q y x (by simp) (by simp; omega)
    have g3 : (P ++ t ++ [x] ++ x :: Q)[P.length + t.length]? = some x := get_atL (P ++ t) (x :: Q) x (by simp) (by simp)
    have s2 : (P ++ t ++ [x] ++ x :: Q).set (P.length + t.length) y = P ++ t ++ y :: (x :: Q) := set_atL (P ++ t) (x :: Q) x y (by simp) (by simp)
    rw [eL, ez]
    simp only [iter, slices_symMergeCmpFunc_api_Come.r3, e1, Int.toNat_natCast, g1, g2, s1, g3, s2]
    rw [if_pos (by omega), if_pos (by omega), if_pos (by omega)]
    have ih := dn_eq' y z N hN P hz n t (x :: Q) K hn' (by omega) (by simp; omega)
    simp only
    rw [ih]
    simp
abbrev lexC : SCome → SCome → Prop := Lex cAt cTask
abbrev qqC : SCome → SCome → Prop := Qq cAt cTask
theorem lexC_of_le {x y : SCome} (h : ¬ y.At < x.At) (hq : qqC x y) : lexC x y := by
  by_cases e : x.At = y.At
  · exact .inr ⟨e, hq e⟩
  · exact .inl (show x.At < y.At by omega)
theorem lexC_le {x y : SCome} (h : lexC x y) : x.At ≤ y.At := by rcases h with h | ⟨h, _⟩ <;> simp only [cAt] at h <;> omega
/-- the k-th of what lies behind P -/
theorem get_part (P s Q : List SCome) {k : Nat} {x : SCome} (hk : s[k]? = some x) : (P ++ s ++ Q)[P.length + k]? = some x := by
  have hl := lt_of_get hk
  rw [List.append_assoc, List.getElem?_append_right (by omega), Nat.add_sub_cancel_left, List.getElem?_append_left hl, hk]
theorem part_get (s : List SCome) {k : Nat} (h : k < s.length) : ∃ x, s[k]? = some x := ⟨s[k], List.getElem?_eq_getElem h⟩
theorem lexC_get {s : List SCome} (hs : s.Pairwise lexC) {i j : Nat} {x y : SCome} (hij : i ≤ j) (hx : s[i]? = some x) (hy : s[j]? = some y) : x.At ≤ y.At := by
  by_cases e : i = j
  · subst e; rw [hx] at hy; cases hy; exact Int.le_refl _
  · obtain ⟨hi, rfl⟩ := List.getElem?_eq_some_iff.1 hx
    obtain ⟨hj, rfl⟩ := List.getElem?_eq_some_iff.1 hy
    exact lexC_le (List.pairwise_iff_getElem.1 hs i j hi hj (by omega))
theorem split_at (s : List SCome) (k : Nat) (h : k ≤ s.length) : ∃ t1 t2, s = t1 ++ t2 ∧ t1.length = k := ⟨s.take k, s.drop k, (List.take_append_drop _ _).symm, by simp; omega⟩
theorem comp_come (x y : SCome) : tasks_Comes_1.f x y < 0 ↔ x.At < y.At := by simp only [tasks_Comes_1.f, comp_lt]
/-- one against many -/
theorem sym_one (K : Nat) (recf : List SCome → Int → Int → Int → Option (List SCome)) (P s2 Q : List SCome) (x : SCome) (hN : (P ++ [x] ++ s2 ++ Q).length ≤ 40000) (hK : 100010 ≤ K) (hs : s2.Pairwise lexC) (hq : ∀ y ∈ s2, qqC x y) :
    ∃ s', s'.Perm ([x] ++ s2) ∧ s'.Pairwise lexC ∧ slices_symMergeCmpFunc_api_Come.b K recf (P ++ [x] ++ s2 ++ Q) (P.length : Int) ((P.length + 1 : Nat) : Int) ((P.length + 1 + s2.length : Nat) : Int) = some (P ++ s' ++ Q) := by
  have hb : P.length + 1 + s2.length ≤ 40000 := by simp at hN; omega
  have e1 : IntKind.i64.wrap (((P.length + 1 : Nat) : Int) - (P.length : Int)) = 1 := by rw [wrap64_small (by omega) (by omega)]; omega
  have g0 : (P ++ [x] ++ s2 ++ Q)[P.length]? = some x := get_atL P (s2 ++ Q) x (by simp) rfl
  obtain ⟨r, h1, h2, h3, h4, h5⟩ := halves (slices_symMergeCmpFunc_api_Come.r0 (P ++ [x] ++ s2 ++ Q) (P.length : Int)) (fun h => ∀ y, s2[h - (P.length + 1)]? = some y → y.At < x.At) (P.length + 1) (P.length + 1 + s2.length) (by omega)
    (fun i j hi hij hj => by
      simp only [slices_symMergeCmpFunc_api_Come.r0, mid_eq (show i + j ≤ 100000 by omega)]
      obtain ⟨y, hy⟩ := part_get s2 (show (i + j) / 2 - (P.length + 1) < s2.length by omega)
      have g1 : (P ++ [x] ++ s2 ++ Q)[(i + j) / 2]? = some y := by
        have := get_part (P ++ [x]) s2 Q hy
        rw [← this]; congr 1; simp; omega
      rw [if_pos (by omega), if_pos (by omega)]
      simp only [Int.toNat_natCast, g1, g0, comp_come]
      rw [if_pos (by omega)]
      by_cases hp : y.At < x.At
      · rw [if_pos hp, if_pos (fun z hz => by rw [hy] at hz; cases hz; exact hp), wrap64_small (by omega) (by omega)]
        simp
      · rw [if_neg hp, if_neg (fun hh => hp (hh y hy))])
    (fun i => by simp [slices_symMergeCmpFunc_api_Come.r0])
    (fun h h' h1 h2 h3 hp y hy => by
      obtain ⟨z, hz⟩ := part_get s2 (show h' - (P.length + 1) < s2.length by omega)
      have := lexC_get hs (show h - (P.length + 1) ≤ h' - (P.length + 1) by omega) hy hz
      have := hp z hz
      omega) K (by omega)
  obtain ⟨t1, t2, rfl, hl⟩ := split_at s2 (r - (P.length + 1)) (by omega)
  have f1 : ∀ y ∈ t1, y.At < x.At := fun y hy => by
    obtain ⟨k, hk⟩ := List.getElem?_of_mem hy
    have hkl := lt_of_get hk
    refine h3 (P.length + 1 + k) (by omega) (by omega) y ?_
    rw [show P.length + 1 + k - (P.length + 1) = k by omega, List.getElem?_append_left hkl, hk]
  have f2 : ∀ y ∈ t2, ¬ y.At < x.At := fun y hy hlt => by
    obtain ⟨k, hk⟩ := List.getElem?_of_mem hy
    have hkl := lt_of_get hk
    refine h4 (r + k) (by omega) (by simp; omega) fun z hz => ?_
    rw [show r + k - (P.length + 1) = t1.length + k by omega, List.getElem?_append_right (by omega), Nat.add_sub_cancel_left, hk] at hz
    cases hz; exact hlt
  have hp := List.pairwise_append.1 hs
  refine ⟨t1 ++ x :: t2, by simp, ?_, ?_⟩
  · refine List.pairwise_append.2 ⟨hp.1, List.pairwise_cons.2 ⟨fun y hy => lexC_of_le (f2 y hy) (hq y (by simp [hy])), hp.2.1⟩, fun y hy z hz => ?_⟩
    rcases List.mem_cons.1 hz with rfl | hz
    · exact .inl (f1 y hy)
    · exact hp.2.2 y hy z hz
  · have hu := up_eq' x r (P ++ x :: t1 ++ (t2 ++ Q)).length (by simp at hN ⊢; omega) t1 P (t2 ++ Q) K (by simp at hb; omega) (by omega) rfl
    have eL : P ++ [x] ++ (t1 ++ t2) ++ Q = P ++ x :: t1 ++ (t2 ++ Q) := by simp
    simp only [slices_symMergeCmpFunc_api_Come.b, e1, if_true, h5]
    rw [eL, hu]
    simp
/-- many against one -/
theorem one_sym (K : Nat) (recf : List SCome → Int → Int → Int → Option (List SCome)) (P s1 Q : List SCome) (y : SCome) (hN : (P ++ s1 ++ [y] ++ Q).length ≤ 40000) (hK : 100010 ≤ K) (hl1 : s1.length ≠ 1) (hs : s1.Pairwise lexC) (hq : ∀ x ∈ s1, qqC x y) :
    ∃ s', s'.Perm (s1 ++ [y]) ∧ s'.Pairwise lexC ∧ slices_symMergeCmpFunc_api_Come.b K recf (P ++ s1 ++ [y] ++ Q) (P.length : Int) ((P.length + s1.length : Nat) : Int) ((P.length + s1.length + 1 : Nat) : Int) = some (P ++ s' ++ Q) := by
  have hb : P.length + s1.length + 1 ≤ 40000 := by simp at hN; omega
  have e0 : IntKind.i64.wrap (((P.length + s1.length : Nat) : Int) - (P.length : Int)) = (s1.length : Int) := by rw [wrap64_small (by omega) (by omega)]; omega
  have e1 : IntKind.i64.wrap (((P.length + s1.length + 1 : Nat) : Int) - ((P.length + s1.length : Nat) : Int)) = 1 := by rw [wrap64_small (by omega) (by omega)]; omega
  have g0 : (P ++ s1 ++ [y] ++ Q)[P.length + s1.length]? = some y := get_atL (P ++ s1) Q y (by simp) (by simp)
  obtain ⟨r, h1, h2, h3, h4, h5⟩ := halves (slices_symMergeCmpFunc_api_Come.r2 (P ++ s1 ++ [y] ++ Q) ((P.length + s1.length : Nat) : Int)) (fun h => ∀ x, s1[h - P.length]? = some x → ¬ y.At < x.At) P.length (P.length + s1.length) (by omega)
    (fun i j hi hij hj => by
      simp only [slices_symMergeCmpFunc_api_Come.r2, mid_eq (show i + j ≤ 100000 by omega)]
      obtain ⟨x, hx⟩ := part_get s1 (show (i + j) / 2 - P.length < s1.length by omega)
      have g1 : (P ++ s1 ++ [y] ++ Q)[(i + j) / 2]? = some x := by
        have := get_part P s1 ([y] ++ Q) hx
        rw [List.append_assoc (P ++ s1), ← this]; congr 1; omega
      rw [if_pos (by omega), if_pos (by omega)]
      simp only [Int.toNat_natCast, g1, g0, comp_come]
      rw [if_pos (by omega)]
      by_cases hp : y.At < x.At
      · rw [if_pos hp, if_neg (fun hh => hh x hx hp)]
      · rw [if_neg hp, if_pos (fun z hz => by rw [hx] at hz; cases hz; exact hp), wrap64_small (by omega) (by omega)]
        simp)
    (fun i => by simp [slices_symMergeCmpFunc_api_Come.r2])
    (fun h h' h1 h2 h3 hp x hx hlt => by
      obtain ⟨z, hz⟩ := part_get s1 (show h' - P.length < s1.length by omega)
      have := lexC_get hs (show h - P.length ≤ h' - P.length by omega) hx hz
      exact hp z hz (by omega)) K (by omega)
  obtain ⟨t1, t2, rfl, hl⟩ := split_at s1 (r - P.length) (by omega)
  have f1 : ∀ x ∈ t1, ¬ y.At < x.At := fun x hx => by
    obtain ⟨k, hk⟩ := List.getElem?_of_mem hx
    have hkl := lt_of_get hk
    refine h3 (P.length + k) (by omega) (by omega) x ?_
    rw [Nat.add_sub_cancel_left, List.getElem?_append_left hkl, hk]
  have f2 : ∀ x ∈ t2, y.At < x.At := fun x hx => by
    obtain ⟨k, hk⟩ := List.getElem?_of_mem hx
    have hkl := lt_of_get hk
    by_cases hlt : y.At < x.At
    · exact hlt
    refine absurd (fun z hz => ?_) (h4 (r + k) (by omega) (by simp; omega))
    rw [show r + k - P.length = t1.length + k by omega, List.getElem?_append_right (by omega), Nat.add_sub_cancel_left, hk] at hz
    cases hz; exact hlt
  have hp := List.pairwise_append.1 hs
  refine ⟨t1 ++ y :: t2, ?_, ?_, ?_⟩
  · have h0 : (t1 ++ y :: t2).Perm (y :: (t1 ++ t2)) := List.perm_middle
    exact h0.trans (List.perm_append_comm (l₁ := [y]) (l₂ := t1 ++ t2))
  · refine List.pairwise_append.2 ⟨hp.1, List.pairwise_cons.2 ⟨fun z hz => .inl (f2 z hz), hp.2.1⟩, fun x hx z hz => ?_⟩
    rcases List.mem_cons.1 hz with rfl | hz
    · exact lexC_of_le (f1 x hx) (hq x (by simp [hx]))
    · exact hp.2.2 x hx z hz
  · have hd := dn_eq' y r (P ++ t1 ++ t2 ++ y :: Q).length (by simp at hN ⊢; omega) (P ++ t1) (by simp; omega) t2.length t2 Q K rfl (by simp at hb; omega) rfl
    have eL : P ++ (t1 ++ t2) ++ [y] ++ Q = P ++ t1 ++ t2 ++ y :: Q := by simp
    have ez : P.length + (t1 ++ t2).length = (P ++ t1).length + t2.length := by simp; omega
    simp only [slices_symMergeCmpFunc_api_Come.b, e0, e1, if_true]
    rw [if_neg (by omega), h5, eL, ez]
    simp only
    rw [hd]
    simp
/-- two runs that rise become one, where the halves do -/
theorem sym_step (K : Nat) (recf : List SCome → Int → Int → Int → Option (List SCome)) (P s1 s2 Q : List SCome) (hN : (P ++ s1 ++ s2 ++ Q).length ≤ 40000) (hK : 100010 ≤ K) (h1 : s1 ≠ []) (h2 : s2 ≠ []) (hs1 : s1.Pairwise lexC) (hs2 : s2.Pairwise lexC) (hq : ∀ x ∈ s1, ∀ y ∈ s2, qqC x y)
    (hrec : ∀ (P' u v Q' : List SCome), u ≠ [] → v ≠ [] → u.length + v.length < s1.length + s2.length → (P' ++ u ++ v ++ Q').length ≤ 40000 → u.Pairwise lexC → v.Pairwise lexC → (∀ x ∈ u, ∀ y ∈ v, qqC x y) →
      ∃ s', s'.Perm (u ++ v) ∧ s'.Pairwise lexC ∧ recf (P' ++ u ++ v ++ Q') (P'.length : Int) ((P'.length + u.length : Nat) : Int) ((P'.length + u.length + v.length : Nat) : Int) = some (P' ++ s' ++ Q')) :
    ∃ s', s'.Perm (s1 ++ s2) ∧ s'.Pairwise lexC ∧ slices_symMergeCmpFunc_api_Come.b K recf (P ++ s1 ++ s2 ++ Q) (P.length : Int) ((P.length + s1.length : Nat) : Int) ((P.length + s1.length + s2.length : Nat) : Int) = some (P ++ s' ++ Q) := by
  classical
  have hb : P.length + s1.length + s2.length ≤ 40000 := by simp at hN; omega
  have hl1 := List.length_pos_iff.2 h1
  have hl2 := List.length_pos_iff.2 h2
  by_cases c1 : s1.length = 1
  · obtain ⟨x, rfl⟩ := List.length_eq_one_iff.1 c1
    exact sym_one K recf P s2 Q x hN hK hs2 (fun y hy => hq x (by simp) y hy)
  by_cases c2 : s2.length = 1
  · obtain ⟨y, rfl⟩ := List.length_eq_one_iff.1 c2
    exact one_sym K recf P s1 Q y hN hK c1 hs1 (fun x hx => hq x hx y (by simp))
  generalize ha : P.length = a at *
  generalize hm : a + s1.length = m at *
  generalize hbb : m + s2.length = b at *
  have emid : IntKind.i64.wrap (Int.fdiv (IntKind.u64.wrap (IntKind.i64.wrap ((a : Int) + (b : Int)))) (2 ^ 1)) = (((a + b) / 2 : Nat) : Int) := mid_eq (by omega)
  have e0 : IntKind.i64.wrap ((m : Int) - (a : Int)) = (s1.length : Int) := by rw [wrap64_small (by omega) (by omega)]; omega
  have e1 : IntKind.i64.wrap ((b : Int) - (m : Int)) = (s2.length : Int) := by rw [wrap64_small (by omega) (by omega)]; omega
  generalize hmid : (a + b) / 2 = mid at *
  have en : IntKind.i64.wrap ((mid : Int) + (m : Int)) = ((mid + m : Nat) : Int) := by rw [wrap64_small (by omega) (by omega)]; omega
  have en1 : IntKind.i64.wrap (((mid + m : Nat) : Int) - 1) = ((mid + m - 1 : Nat) : Int) := by rw [wrap64_small (by omega) (by omega)]; omega
  have g1 : ∀ {i : Nat} {x : SCome}, a ≤ i → s1[i - a]? = some x → (P ++ s1 ++ s2 ++ Q)[i]? = some x := fun {i x} hi hx => by
    have := get_part P s1 (s2 ++ Q) hx
    rw [List.append_assoc (P ++ s1), ← this]; congr 1; omega
  have g2 : ∀ {i : Nat} {x : SCome}, m ≤ i → s2[i - m]? = some x → (P ++ s1 ++ s2 ++ Q)[i]? = some x := fun {i x} hi hx => by
    have := get_part (P ++ s1) s2 Q hx
    rw [← this]; congr 1; simp; omega
  -- where the search goes from and to
  obtain ⟨lo, hi, hp4, hlh, hmm, hlo1, hhi, hlo2, hlo3⟩ : ∃ lo hi : Nat, slices_symMergeCmpFunc_api_Come.p4 (a : Int) (m : Int) (b : Int) = some (.inl ((lo : Int), (hi : Int))) ∧ lo ≤ hi ∧ (hi = m ∨ hi = mid) ∧ a ≤ lo ∧ (hi ≤ m ∧ hi ≤ mid) ∧ mid + m ≤ lo + b ∧ (lo = a ∨ lo + b = mid + m) := by
    simp only [slices_symMergeCmpFunc_api_Come.p4, emid, en]
    by_cases hgt : m > mid
    · have enb : IntKind.i64.wrap (((mid + m : Nat) : Int) - (b : Int)) = ((mid + m - b : Nat) : Int) := by rw [wrap64_small (by omega) (by omega)]; omega
      rw [if_pos (by omega), enb]
      exact ⟨_, _, rfl, by omega, .inr rfl, by omega, by omega, by omega, .inr (by omega)⟩
    · rw [if_neg (by omega)]
      exact ⟨_, _, rfl, by omega, .inl rfl, by omega, by omega, by omega, .inl rfl⟩
  obtain ⟨r, hr1, hr2, hr3, hr4, hr5⟩ := halves (slices_symMergeCmpFunc_api_Come.r5 (P ++ s1 ++ s2 ++ Q) (a : Int) (m : Int) (b : Int)) (fun h => ∀ x y, s1[h - a]? = some x → s2[mid + m - 1 - h - m]? = some y → ¬ y.At < x.At) lo hi hlh
    (fun i j hi' hij hj => by
      simp only [slices_symMergeCmpFunc_api_Come.r5, emid, en, en1, mid_eq (show i + j ≤ 100000 by omega)]
      obtain ⟨x, hx⟩ := part_get s1 (show (i + j) / 2 - a < s1.length by omega)
      obtain ⟨y, hy⟩ := part_get s2 (show mid + m - 1 - (i + j) / 2 - m < s2.length by omega)
      have k1 := g1 (show a ≤ (i + j) / 2 by omega) hx
      have k2 := g2 (show m ≤ mid + m - 1 - (i + j) / 2 by omega) hy
      have ec : IntKind.i64.wrap (((mid + m - 1 : Nat) : Int) - (((i + j) / 2 : Nat) : Int)) = ((mid + m - 1 - (i + j) / 2 : Nat) : Int) := by rw [wrap64_small (by omega) (by omega)]; omega
      simp only [ec, Int.toNat_natCast, k1, k2, comp_come]
      rw [if_pos (by omega), if_pos (by omega), if_pos (by omega)]
      by_cases hp : y.At < x.At
      · rw [if_pos hp, if_neg (fun hh => hh x y hx hy hp)]
      · rw [if_neg hp, if_pos (fun x' y' hx' hy' => by rw [hx] at hx'; cases hx'; rw [hy] at hy'; cases hy'; exact hp), wrap64_small (by omega) (by omega)]
        simp)
    (fun i => by simp [slices_symMergeCmpFunc_api_Come.r5])
    (fun h h' q1 q2 q3 hp x y hx hy hlt => by
      obtain ⟨x', hx'⟩ := part_get s1 (show h' - a < s1.length by omega)
      obtain ⟨y', hy'⟩ := part_get s2 (show mid + m - 1 - h' - m < s2.length by omega)
      have i1 := lexC_get hs1 (show h - a ≤ h' - a by omega) hx hx'
      have i2 := lexC_get hs2 (show mid + m - 1 - h' - m ≤ mid + m - 1 - h - m by omega) hy' hy
      exact hp x' y' hx' hy' (by omega)) K (by omega)
  obtain ⟨t1, t2, rfl, hlt⟩ := split_at s1 (r - a) (by omega)
  obtain ⟨w1, w2, rfl, hlw⟩ := split_at s2 (mid - r) (by omega)
  simp only [List.length_append] at hm hbb hb hl1 hl2
  have eend : IntKind.i64.wrap (((mid + m : Nat) : Int) - (r : Int)) = ((mid + m - r : Nat) : Int) := by rw [wrap64_small (by omega) (by omega)]; omega
  generalize hend : mid + m - r = en' at *
  have p1 := List.pairwise_append.1 hs1
  have p2 := List.pairwise_append.1 hs2
  -- what goes back is less
  have f1 : ∀ x ∈ w1, ∀ y ∈ t2, x.At < y.At := fun x hx y hy => by
    obtain ⟨i, hi'⟩ := List.getElem?_of_mem hx
    obtain ⟨j, hj⟩ := List.getElem?_of_mem hy
    have hil := lt_of_get hi'
    have hjl := lt_of_get hj
    by_cases hxy : x.At < y.At
    · exact hxy
    refine absurd (fun x' y' hx' hy' => ?_) (hr4 r (Nat.le_refl _) (by rcases hmm with h | h <;> omega))
    have k1 : (t1 ++ t2)[r - a + j]? = some y := by rw [List.getElem?_append_right (by omega), show r - a + j - t1.length = j by omega]; exact hj
    have k2 : (w1 ++ w2)[i]? = some x := by rw [List.getElem?_append_left hil]; exact hi'
    have i1 := lexC_get hs1 (show r - a ≤ r - a + j by omega) hx' k1
    have i2 := lexC_get hs2 (show i ≤ mid + m - 1 - r - m by omega) k2 hy'
    omega
  have f2 : ∀ x ∈ t1, ∀ y ∈ w2, ¬ y.At < x.At := fun x hx y hy => by
    obtain ⟨i, hi'⟩ := List.getElem?_of_mem hx
    obtain ⟨j, hj⟩ := List.getElem?_of_mem hy
    have hil := lt_of_get hi'
    have hjl := lt_of_get hj
    have hrl : lo < r := by rcases hlo3 with h | h <;> omega
    have hp := hr3 (r - 1) (by omega) (by omega)
    obtain ⟨x', hx'⟩ := part_get (t1 ++ t2) (show r - 1 - a < (t1 ++ t2).length by simp; omega)
    obtain ⟨y', hy'⟩ := part_get (w1 ++ w2) (show mid + m - 1 - (r - 1) - m < (w1 ++ w2).length by simp; omega)
    have k1 : (t1 ++ t2)[i]? = some x := by rw [List.getElem?_append_left hil]; exact hi'
    have k2 : (w1 ++ w2)[w1.length + j]? = some y := by rw [List.getElem?_append_right (by omega), Nat.add_sub_cancel_left]; exact hj
    have i1 := lexC_get hs1 (show i ≤ r - 1 - a by omega) k1 hx'
    have i2 := lexC_get hs2 (show mid + m - 1 - (r - 1) - m ≤ w1.length + j by omega) hy' k2
    have := hp x' y' hx' hy'
    omega
  -- behind the turn
  have hrot : slices_symMergeCmpFunc_api_Come.p6 K (P ++ (t1 ++ t2) ++ (w1 ++ w2) ++ Q) (a : Int) (m : Int) (b : Int) (r : Int) = some (.inl (P ++ t1 ++ w1 ++ t2 ++ w2 ++ Q)) := by
    simp only [slices_symMergeCmpFunc_api_Come.p6, emid, en, eend]
    by_cases q1 : r < m
    · rw [if_pos (by omega)]
      by_cases q2 : m < en'
      · rw [if_pos (by omega)]
        have h := rot_eq t2 w1 (P ++ t1) (w2 ++ Q) K (by intro h; subst h; simp at hm; omega) (by intro h; subst h; simp at hlw; omega) (by simp at hN ⊢; omega) hK
        have k1 : (P ++ t1).length = r := by simp; omega
        have k2 : (P ++ t1).length + t2.length = m := by simp; omega
        have k3 : (P ++ t1).length + t2.length + w1.length = en' := by simp; omega
        rw [k3, k2, k1] at h
        have eL : P ++ (t1 ++ t2) ++ (w1 ++ w2) ++ Q = P ++ t1 ++ t2 ++ w1 ++ (w2 ++ Q) := by simp
        rw [eL, h]
        simp
      · rw [if_neg (by omega)]
        have : w1 = [] := List.length_eq_zero_iff.1 (by omega)
        subst this
        simp
    · rw [if_neg (by omega)]
      have : t2 = [] := List.length_eq_zero_iff.1 (by omega)
      subst this
      simp
  -- the halves
  have hA : ∃ u, u.Perm (t1 ++ w1) ∧ u.Pairwise lexC ∧ (if a < r ∧ r < mid then recf (P ++ t1 ++ w1 ++ t2 ++ w2 ++ Q) (a : Int) (r : Int) (mid : Int) else some (P ++ t1 ++ w1 ++ t2 ++ w2 ++ Q)) = some (P ++ u ++ t2 ++ w2 ++ Q) := by
    by_cases hc : a < r ∧ r < mid
    · rw [if_pos hc]
      obtain ⟨u, hu1, hu2, hu3⟩ := hrec P t1 w1 (t2 ++ w2 ++ Q) (by intro h; subst h; simp at hlt; omega) (by intro h; subst h; simp at hlw; omega) (by simp; omega) (by simp at hN ⊢; omega) p1.1 p2.1 (fun x hx y hy => hq x (by simp [hx]) y (by simp [hy]))
      refine ⟨u, hu1, hu2, ?_⟩
      rw [ha, show a + t1.length = r by omega, show r + w1.length = mid by omega] at hu3
      have eL : P ++ t1 ++ w1 ++ t2 ++ w2 ++ Q = P ++ t1 ++ w1 ++ (t2 ++ w2 ++ Q) := by simp
      rw [eL, hu3]
      simp
    · rw [if_neg hc]
      refine ⟨t1 ++ w1, List.Perm.refl _, ?_, by simp⟩
      by_cases hc1 : a < r
      · have : w1 = [] := List.length_eq_zero_iff.1 (by omega)
        subst this; simpa using p1.1
      · have : t1 = [] := List.length_eq_zero_iff.1 (by omega)
        subst this; simpa using p2.1
  obtain ⟨u, hu1, hu2, hu3⟩ := hA
  have hul : u.length = t1.length + w1.length := by rw [hu1.length_eq]; simp
  have hB : ∃ v, v.Perm (t2 ++ w2) ∧ v.Pairwise lexC ∧ (if mid < en' ∧ en' < b then recf (P ++ u ++ t2 ++ w2 ++ Q) (mid : Int) (en' : Int) (b : Int) else some (P ++ u ++ t2 ++ w2 ++ Q)) = some (P ++ u ++ v ++ Q) := by
    by_cases hc : mid < en' ∧ en' < b
    · rw [if_pos hc]
      obtain ⟨v, hv1, hv2, hv3⟩ := hrec (P ++ u) t2 w2 Q (by intro h; subst h; simp at hm; omega) (by intro h; subst h; simp at hbb; omega) (by simp; omega) (by simp at hN ⊢; omega) p1.2.1 p2.2.1 (fun x hx y hy => hq x (by simp [hx]) y (by simp [hy]))
      refine ⟨v, hv1, hv2, ?_⟩
      rw [show (P ++ u).length = mid by simp; omega, show mid + t2.length = en' by omega, show en' + w2.length = b by omega] at hv3
      rw [hv3]
    · rw [if_neg hc]
      refine ⟨t2 ++ w2, List.Perm.refl _, ?_, by simp⟩
      by_cases hc1 : mid < en'
      · have : w2 = [] := List.length_eq_zero_iff.1 (by omega)
        subst this; simpa using p1.2.1
      · have : t2 = [] := List.length_eq_zero_iff.1 (by omega)
        subst this; simpa using p2.2.1
  obtain ⟨v, hv1, hv2, hv3⟩ := hB
  refine ⟨u ++ v, ?_, ?_, ?_⟩
  · have h3 : (u ++ v).Perm ((t1 ++ w1) ++ (t2 ++ w2)) := hu1.append hv1
    refine h3.trans ?_
    have h4 : (w1 ++ (t2 ++ w2)).Perm (t2 ++ (w1 ++ w2)) := by
      rw [← List.append_assoc, ← List.append_assoc]
      exact (List.perm_append_comm (l₁ := w1) (l₂ := t2)).append_right w2
    simpa using h4.append_left t1
  · refine List.pairwise_append.2 ⟨hu2, hv2, fun x hx y hy => ?_⟩
    rcases List.mem_append.1 (hu1.mem_iff.1 hx) with hx | hx <;> rcases List.mem_append.1 (hv1.mem_iff.1 hy) with hy | hy
    · exact p1.2.2 x hx y hy
    · exact lexC_of_le (f2 x hx y hy) (hq x (by simp [hx]) y (by simp [hy]))
    · exact .inl (f1 x hx y hy)
    · exact p2.2.2 x hx y hy
  · simp only [slices_symMergeCmpFunc_api_Come.b, e0, e1, hp4, hr5, hrot, emid, en, eend]
    rw [if_neg (by simp at c1 ⊢; omega), if_neg (by simp at c2 ⊢; omega)]
    have hfin : P ++ u ++ v ++ Q = P ++ (u ++ v) ++ Q := by simp
    rw [← hfin]
    generalize P ++ t1 ++ w1 ++ t2 ++ w2 ++ Q = L1 at hu3 ⊢
    generalize P ++ u ++ t2 ++ w2 ++ Q = L2 at hu3 hv3
    generalize P ++ u ++ v ++ Q = L3 at hv3 ⊢
    by_cases q1 : a < r <;> by_cases q2 : r < mid <;> by_cases q3 : mid < en' <;> by_cases q4 : en' < b <;>
      simp only [q1, q2, q3, q4, and_true, and_false, true_and, false_and, if_true, if_false, Int.ofNat_lt] at hu3 hv3 ⊢ <;>
      first
      | (obtain rfl := Option.some.inj hu3; obtain rfl := Option.some.inj hv3; rfl)
      | (obtain rfl := Option.some.inj hu3; simp only [hv3])
      | (obtain rfl := Option.some.inj hv3; simp only [hu3])
      | simp only [hu3, hv3]
theorem symMerge_rec (K : Nat) (hK : 100010 ≤ K) : ∀ (n : Nat) (P s1 s2 Q : List SCome), s1.length + s2.length ≤ n → (P ++ s1 ++ s2 ++ Q).length ≤ 40000 → s1 ≠ [] → s2 ≠ [] → s1.Pairwise lexC → s2.Pairwise lexC → (∀ x ∈ s1, ∀ y ∈ s2, qqC x y) →
    ∃ s', s'.Perm (s1 ++ s2) ∧ s'.Pairwise lexC ∧ slices_symMergeCmpFunc_api_Come.rec K n (P ++ s1 ++ s2 ++ Q) (P.length : Int) ((P.length + s1.length : Nat) : Int) ((P.length + s1.length + s2.length : Nat) : Int) = some (P ++ s' ++ Q)
  | 0, P, s1, s2, Q, hn, hN, h1, h2, _, _, _ => by
    have := List.length_pos_iff.2 h1
    omega
  | n + 1, P, s1, s2, Q, hn, hN, h1, h2, hs1, hs2, hq =>
    sym_step K (slices_symMergeCmpFunc_api_Come.rec K n) P s1 s2 Q hN hK h1 h2 hs1 hs2 hq (fun P' u v Q' g1 g2 g3 g4 g5 g6 g7 => symMerge_rec K hK n P' u v Q' (by omega) g4 g1 g2 g5 g6 g7)
theorem symMerge_eq (K : Nat) (hK : 100010 ≤ K) (P s1 s2 Q : List SCome) (hN : (P ++ s1 ++ s2 ++ Q).length ≤ 40000) (h1 : s1 ≠ []) (h2 : s2 ≠ []) (hs1 : s1.Pairwise lexC) (hs2 : s2.Pairwise lexC) (hq : ∀ x ∈ s1, ∀ y ∈ s2, qqC x y) :
    ∃ s', s'.Perm (s1 ++ s2) ∧ s'.Pairwise lexC ∧ slices_symMergeCmpFunc_api_Come.f K (P ++ s1 ++ s2 ++ Q) (P.length : Int) ((P.length + s1.length : Nat) : Int) ((P.length + s1.length + s2.length : Nat) : Int) = some (P ++ s' ++ Q) :=
  symMerge_rec K hK K P s1 s2 Q (by simp at hN; omega) hN h1 h2 hs1 hs2 hq
/-- all blocks but the last one are whole -/
def Full (bs : Nat) : List (List SCome) → Prop
  | [] => True
  | [b] => b.length ≤ bs
  | b :: c :: r => b.length = bs ∧ Full bs (c :: r)
theorem full_add (bs : Nat) (s : List SCome) (hs : s.length ≤ bs) : ∀ Bd : List (List SCome), (∀ B ∈ Bd, B.length = bs) → Full bs (Bd ++ [s])
  | [], _ => hs
  | [b], h => ⟨h b (by simp), hs⟩
  | b :: c :: r, h => ⟨h b (by simp), full_add bs s hs (c :: r) (fun B hB => h B (List.mem_cons_of_mem _ hB))⟩
theorem stable_blocks (n : Nat) (hn : n ≤ 20000) (K : Nat) (hK : 100010 ≤ K) : ∀ (k : Nat) (rest : List SCome) (Bd : List (List SCome)) (K' : Nat), rest.length ≤ k → k < K' → (∀ B ∈ Bd, B.length = 20 ∧ B.Pairwise lexC) → (Bd.flatten ++ rest).Pairwise qqC → (Bd.flatten ++ rest).length = n →
    ∃ (z : Int) (m : List SCome) (Bs : List (List SCome)), iter (slices_stableCmpFunc_api_Come.r0 K (n : Int)) K' ((Bd.flatten.length : Int), ((Bd.flatten.length + 20 : Nat) : Int), Bd.flatten ++ rest) = some (.inl (z, m)) ∧ slices_insertionSortCmpFunc_api_Come.f K m z (n : Int) = some Bs.flatten ∧ Full 20 Bs ∧ (∀ B ∈ Bs, B.Pairwise lexC) ∧ Bs.flatten.Perm (Bd.flatten ++ rest) ∧ Bs.flatten.Pairwise qqC
  | k, rest, Bd, 0, h1, h2, h3, h4, h5 => by omega
  | k, rest, Bd, K' + 1, h1, h2, h3, h4, h5 => by
    simp only [List.length_append] at h5
    have hq := List.pairwise_append.1 h4
    by_cases hr : 20 ≤ rest.length
    · obtain ⟨s, rest', rfl, hs⟩ := split_at rest 20 hr
      simp only [List.length_append] at h5 h1
      have hqs := List.pairwise_append.1 hq.2.1
      obtain ⟨s', p, hs', hr'⟩ := insCome_eq Bd.flatten s rest' K (by simp only [List.length_append]; omega) (by omega) hqs.1
      have hl' : s'.length = 20 := by rw [p.length_eq]; exact hs
      have ef : (Bd ++ [s']).flatten = Bd.flatten ++ s' := by simp
      obtain ⟨z, m, Bs, i1, i2, i3, i4, i5, i6⟩ := stable_blocks n hn K hK (k - 1) rest' (Bd ++ [s']) K' (by omega) (by omega)
        (fun B hB => by rcases List.mem_append.1 hB with hB | hB; exact h3 B hB; rw [List.mem_singleton.1 hB]; exact ⟨hl', hs'⟩)
        (by
          rw [ef, List.append_assoc]
          refine List.pairwise_append.2 ⟨hq.1, List.pairwise_append.2 ⟨hs'.imp fun h => h.qq, hqs.2.1, fun x hx y hy => hqs.2.2 x (p.mem_iff.1 hx) y hy⟩, fun x hx y hy => ?_⟩
          rcases List.mem_append.1 hy with hy | hy
          · exact hq.2.2 x hx y (List.mem_append_left _ (p.mem_iff.1 hy))
          · exact hq.2.2 x hx y (List.mem_append_right _ hy)) (by rw [ef]; simp only [List.length_append]; omega)
      refine ⟨z, m, Bs, ?_, i2, i3, i4, ?_, i6⟩
      · simp only [iter, slices_stableCmpFunc_api_Come.r0]
        rw [if_pos (by omega), ← hs, ← List.append_assoc, hr', hs]
        have e : IntKind.i64.wrap (((Bd.flatten.length + 20 : Nat) : Int) + 20) = ((Bd.flatten.length + 20 + 20 : Nat) : Int) := by rw [wrap64_small (by omega) (by omega)]; omega
        simp only [e]
        rw [ef, List.length_append, hl'] at i1
        exact i1
      · refine i5.trans ?_
        rw [ef, List.append_assoc]
        exact (p.append_right rest').append_left _
    · obtain ⟨s', p, hs', hr'⟩ := insCome_eq Bd.flatten rest [] K (by simp only [List.length_append, List.length_nil]; omega) (by omega) hq.2.1
      refine ⟨(Bd.flatten.length : Int), Bd.flatten ++ rest, Bd ++ [s'], ?_, ?_, full_add 20 s' (by rw [p.length_eq]; omega) Bd (fun B hB => (h3 B hB).1), ?_, ?_, ?_⟩
      · simp only [iter, slices_stableCmpFunc_api_Come.r0]
        rw [if_neg (by omega)]
      · simp only [List.append_nil, h5] at hr'
        rw [hr']
        simp
      · intro B hB
        rcases List.mem_append.1 hB with hB | hB
        · exact (h3 B hB).2
        · rw [List.mem_singleton.1 hB]; exact hs'
      · simpa using p.append_left Bd.flatten
      · simp only [List.flatten_append, List.flatten_cons, List.flatten_nil, List.append_nil]
        exact List.pairwise_append.2 ⟨hq.1, hs'.imp fun h => h.qq, fun x hx y hy => hq.2.2 x hx y (p.mem_iff.1 hy)⟩
theorem full_len {bs : Nat} : ∀ {Bs : List (List SCome)}, Full bs Bs → ∀ B ∈ Bs, B.length ≤ bs
  | [], _, B, hB => by cases hB
  | [b], h, B, hB => by rw [List.mem_singleton.1 hB]; exact h
  | b :: c :: r, h, B, hB => by
    rcases List.mem_cons.1 hB with rfl | hB
    · exact Nat.le_of_eq h.1
    · exact full_len h.2 B hB
/-- one pass: two blocks become one -/
theorem stable_pass (n bs : Nat) (hn : n ≤ 20000) (hbs : 1 ≤ bs ∧ bs ≤ 20000) (K : Nat) (hK : 100010 ≤ K) : ∀ (k : Nat) (Bs : List (List SCome)) (D : List SCome) (K' : Nat), Bs.length ≤ k → k < K' → Full bs Bs → (∀ B ∈ Bs, B.Pairwise lexC) → Bs.flatten.Pairwise qqC → D.length + Bs.flatten.length = n →
    ∃ (z : Int) (m : List SCome) (Bs' : List (List SCome)), iter (slices_stableCmpFunc_api_Come.r2 K (n : Int) (bs : Int)) K' ((D.length : Int), ((D.length + 2 * bs : Nat) : Int), D ++ Bs.flatten) = some (.inl (z, m)) ∧
      (if IntKind.i64.wrap (z + (bs : Int)) < (n : Int) then slices_symMergeCmpFunc_api_Come.f K m z (IntKind.i64.wrap (z + (bs : Int))) (n : Int) else some m) = some (D ++ Bs'.flatten) ∧ Full (2 * bs) Bs' ∧ (∀ B ∈ Bs', B.Pairwise lexC) ∧ Bs'.flatten.Perm Bs.flatten ∧ Bs'.flatten.Pairwise qqC
  | k, Bs, D, 0, h1, h2, h3, h4, h5, h6 => by omega
  | k, [], D, K' + 1, h1, h2, h3, h4, h5, h6 => by
    simp only [List.flatten_nil, List.length_nil, Nat.add_zero] at h6
    refine ⟨(D.length : Int), D ++ [].flatten, [], ?_, ?_, trivial, h4, List.Perm.refl _, h5⟩
    · simp only [iter, slices_stableCmpFunc_api_Come.r2]
      rw [if_neg (by omega)]
    · rw [wrap64_small (by omega) (by omega), if_neg (by omega)]
  | k, [b], D, K' + 1, h1, h2, h3, h4, h5, h6 => by
    simp only [List.flatten_cons, List.flatten_nil, List.append_nil] at h6
    have hb : b.length ≤ bs := h3
    refine ⟨(D.length : Int), D ++ [b].flatten, [b], ?_, ?_, (show b.length ≤ 2 * bs by omega), h4, List.Perm.refl _, h5⟩
    · simp only [iter, slices_stableCmpFunc_api_Come.r2]
      rw [if_neg (by omega)]
    · rw [wrap64_small (by omega) (by omega), if_neg (by omega)]
  | k, b :: c :: r, D, K' + 1, h1, h2, h3, h4, h5, h6 => by
    obtain ⟨hb, h3'⟩ := h3
    have hc : c.length ≤ bs := full_len h3' c (by simp)
    have ef : (b :: c :: r).flatten = b ++ c ++ r.flatten := by simp
    rw [ef] at h5 h6
    simp only [List.length_append] at h6
    have hq := List.pairwise_append.1 h5
    have hq1 := List.pairwise_append.1 hq.1
    have hbne : b ≠ [] := List.length_pos_iff.1 (by omega)
    by_cases hcb : c.length = bs
    · -- two whole ones
      have hcne : c ≠ [] := List.length_pos_iff.1 (by omega)
      obtain ⟨s, p, hs, hm⟩ := symMerge_eq K hK D b c r.flatten (by simp only [List.length_append]; omega) hbne hcne (h4 b (by simp)) (h4 c (by simp)) hq1.2.2
      have hsl : s.length = 2 * bs := by rw [p.length_eq]; simp; omega
      have h3'' : Full bs r := by
        cases r with
        | nil => trivial
        | cons d r => exact h3'.2
      obtain ⟨z, m, Bs', i1, i2, i3, i4, i5, i6⟩ := stable_pass n bs hn hbs K hK (k - 1) r (D ++ s) K' (by simp at h1; omega) (by simp at h1; omega) h3'' (fun B hB => h4 B (by simp [hB])) hq.2.1 (by simp only [List.length_append]; omega)
      refine ⟨z, m, s :: Bs', ?_, by rw [i2]; simp, ?_, ?_, ?_, ?_⟩
      · simp only [iter, slices_stableCmpFunc_api_Come.r2]
        have e1 : IntKind.i64.wrap ((D.length : Int) + (bs : Int)) = ((D.length + b.length : Nat) : Int) := by rw [wrap64_small (by omega) (by omega)]; omega
        have e2 : ((D.length + 2 * bs : Nat) : Int) = ((D.length + b.length + c.length : Nat) : Int) := by omega
        have e3 : IntKind.i64.wrap (((D.length + b.length + c.length : Nat) : Int) + IntKind.i64.wrap (2 * (bs : Int))) = ((D.length + b.length + c.length + 2 * bs : Nat) : Int) := by
          rw [wrap64_small (n := 2 * (bs : Int)) (by omega) (by omega), wrap64_small (by omega) (by omega)]; omega
        have eL : D ++ (b :: c :: r).flatten = D ++ b ++ c ++ r.flatten := by simp
        rw [if_pos (by omega), e1, e2, eL, hm]
        simp only [e3]
        have e4 : (D ++ s).length = D.length + b.length + c.length := by simp; omega
        rw [e4] at i1
        exact i1
      · cases Bs' with
        | nil => exact (show s.length ≤ 2 * bs by omega)
        | cons B r' => exact ⟨hsl, i3⟩
      · intro B hB
        rcases List.mem_cons.1 hB with rfl | hB
        · exact hs
        · exact i4 B hB
      · rw [ef, List.flatten_cons]
        exact p.append i5
      · rw [List.flatten_cons]
        refine List.pairwise_append.2 ⟨hs.imp fun h => h.qq, i6, fun x hx y hy => hq.2.2 x (p.mem_iff.1 hx) y (i5.mem_iff.1 hy)⟩
    · -- the last one is short
      have hr : r = [] := by
        cases r with
        | nil => rfl
        | cons d r => exact absurd h3'.1 hcb
      subst hr
      simp only [List.flatten_nil, List.length_nil, Nat.add_zero, List.append_nil] at h6 h5 hq ef
      have hex : iter (slices_stableCmpFunc_api_Come.r2 K (n : Int) (bs : Int)) (K' + 1) ((D.length : Int), ((D.length + 2 * bs : Nat) : Int), D ++ [b, c].flatten) = some (.inl ((D.length : Int), D ++ [b, c].flatten)) := by
        simp only [iter, slices_stableCmpFunc_api_Come.r2]
        rw [if_neg (by omega)]
      have e1 : IntKind.i64.wrap ((D.length : Int) + (bs : Int)) = ((D.length + b.length : Nat) : Int) := by rw [wrap64_small (by omega) (by omega)]; omega
      by_cases hcne : c = []
      · subst hcne
        refine ⟨(D.length : Int), D ++ [b, []].flatten, [b], hex, ?_, (show b.length ≤ 2 * bs by omega), fun B hB => h4 B (by rw [List.mem_singleton.1 hB]; simp), by simp, by simpa using h5⟩
        rw [e1, if_neg (by simp at h6; omega)]
        simp
      · have hcl := List.length_pos_iff.2 hcne
        obtain ⟨s, p, hs, hm⟩ := symMerge_eq K hK D b c [] (by simp only [List.length_append, List.length_nil]; omega) hbne hcne (h4 b (by simp)) (h4 c (by simp)) hq1.2.2
        refine ⟨(D.length : Int), D ++ [b, c].flatten, [s], hex, ?_, (show s.length ≤ 2 * bs by rw [p.length_eq]; simp; omega), fun B hB => by rw [List.mem_singleton.1 hB]; exact hs, by simpa using p, by simpa using (hs.imp fun h => h.qq : s.Pairwise qqC)⟩
        rw [e1, if_pos (by omega), show (n : Int) = ((D.length + b.length + c.length : Nat) : Int) by omega, show D ++ [b, c].flatten = D ++ b ++ c ++ [] by simp, hm]
        simp
theorem stable_outer (n : Nat) (hn : n ≤ 20000) (K : Nat) (hK : 100010 ≤ K) (x : List SCome) : ∀ (k bs : Nat) (Bs : List (List SCome)) (K' : Nat), n - bs ≤ k → k < K' → 1 ≤ bs → bs ≤ 40000 → Full bs Bs → (∀ B ∈ Bs, B.Pairwise lexC) → Bs.flatten.Pairwise qqC → Bs.flatten.length = n →
    ∃ s, s.Perm Bs.flatten ∧ s.Pairwise lexC ∧ iter (slices_stableCmpFunc_api_Come.r1 K (n : Int) x) K' ((bs : Int), Bs.flatten) = some (.inl s)
  | k, bs, Bs, 0, h1, h2, _, _, _, _, _, _ => by omega
  | k, bs, Bs, K' + 1, h1, h2, h3, h3', h4, h5, h6, h7 => by
    by_cases hlt : bs < n
    · obtain ⟨z, m, Bs', i1, i2, i3, i4, i5, i6⟩ := stable_pass n bs hn ⟨h3, by omega⟩ K hK Bs.length Bs [] K (Nat.le_refl _) (by
          have : ∀ Bs : List (List SCome), Full bs Bs → Bs.length ≤ Bs.flatten.length + 1 := fun Bs => by
            induction Bs with
            | nil => simp
            | cons b r ih =>
              intro hf
              cases r with
              | nil => simp
              | cons c r =>
                have i0 := ih hf.2
                have i1 := hf.1
                rw [List.flatten_cons, List.length_append]
                simp only [List.length_cons] at i0 ⊢
                omega
          have := this Bs h4
          omega) h4 h5 h6 (by simpa using h7)
      obtain ⟨s, p, hs, hr⟩ := stable_outer n hn K hK x (k - 1) (bs * 2) Bs' K' (by omega) (by omega) (by omega) (by omega) (by rw [Nat.mul_comm]; exact i3) i4 i6 (by rw [i5.length_eq]; exact h7)
      refine ⟨s, p.trans i5, hs, ?_⟩
      have e1 : IntKind.i64.wrap (2 * (bs : Int)) = ((0 + 2 * bs : Nat) : Int) := by rw [wrap64_small (by omega) (by omega)]; omega
      have e2 : IntKind.i64.wrap ((bs : Int) * 2) = ((bs * 2 : Nat) : Int) := by rw [wrap64_small (by omega) (by omega)]; omega
      simp only [List.length_nil, List.nil_append] at i1 i2
      rw [show ((0 : Nat) : Int) = 0 from rfl] at i1
      simp only [iter, slices_stableCmpFunc_api_Come.r1]
      rw [if_pos (by omega), e1, i1]
      simp only
      by_cases hz : IntKind.i64.wrap (z + (bs : Int)) < (n : Int)
      · rw [if_pos hz] at i2 ⊢
        rw [i2]
        simp only [e2]
        exact hr
      · rw [if_neg hz] at i2 ⊢
        rw [Option.some.inj i2]
        simp only [e2]
        exact hr
    · refine ⟨Bs.flatten, List.Perm.refl _, ?_, ?_⟩
      · cases Bs with
        | nil => simp
        | cons b r =>
          cases r with
          | nil => simpa using h5 b (by simp)
          | cons c r =>
            have hb := h4.1
            simp only [List.flatten_cons, List.length_append] at h7
            have hz : c ++ r.flatten = [] := List.length_eq_zero_iff.1 (by simp only [List.length_append]; omega)
            rw [List.flatten_cons, List.flatten_cons, hz, List.append_nil]
            exact h5 b (by simp)
      · simp only [iter, slices_stableCmpFunc_api_Come.r1]
        rw [if_neg (by omega)]
/-- the library's sort that keeps what is alike in its order -/
theorem stable_eq (l : List SCome) (hl : l.length ≤ 20000) (hq : l.Pairwise qqC) (K : Nat) (hK : 100010 ≤ K) : ∃ s, s.Perm l ∧ s.Pairwise lexC ∧ slices_SortStableFunc_api_Come_api_Come.f K l = some s := by
  obtain ⟨z, m, Bs, i1, i2, i3, i4, i5, i6⟩ := stable_blocks l.length hl K hK l.length l [] K (Nat.le_refl _) (by omega) (fun B hB => by cases hB) (by simpa using hq) (by simp)
  simp only [List.flatten_nil, List.length_nil, List.nil_append, Nat.zero_add] at i1 i5
  rw [show ((0 : Nat) : Int) = 0 from rfl, show ((20 : Nat) : Int) = 20 from rfl] at i1
  obtain ⟨s, p, hs, hr⟩ := stable_outer l.length hl K hK Bs.flatten l.length 20 Bs K (by omega) (by omega) (by omega) (by omega) i3 i4 i6 i5.length_eq
  rw [show ((20 : Nat) : Int) = 20 from rfl] at hr
  exact ⟨s, p.trans i5, hs, by simp only [slices_SortStableFunc_api_Come_api_Come.f, slices_stableCmpFunc_api_Come.f, i1, i2, hr]⟩

/-- so often does a task come ahead of a time -/
def cnt (t : STask) (u : Int) : Int := if u > t.O then (u - t.O + t.T - 1) / t.T else 0
/-- how a task comes -/
def rowC (i : Nat) (t : STask) (a : Nat) : Nat → List SCome
  | 0 => []
  | c + 1 => ⟨(i : Int), t.O + t.T * (a : Int)⟩ :: rowC i t (a + 1) c
theorem rowC_len (i : Nat) (t : STask) : ∀ (c a : Nat), (rowC i t a c).length = c
  | 0, a => rfl
  | c + 1, a => by simp [rowC, rowC_len i t c]
theorem rowC_mem {i : Nat} {t : STask} {x : SCome} : ∀ {c a : Nat}, x ∈ rowC i t a c ↔ ∃ j : Nat, a ≤ j ∧ j < a + c ∧ x = ⟨(i : Int), t.O + t.T * (j : Int)⟩
  | 0, a => by simp [rowC]; intro j h1 h2; omega
  | c + 1, a => by
    simp only [rowC, List.mem_cons, rowC_mem (c := c)]
    constructor
    · rintro (rfl | ⟨j, h1, h2, rfl⟩)
      · exact ⟨a, Nat.le_refl _, by omega, rfl⟩
      · exact ⟨j, by omega, by omega, rfl⟩
    · rintro ⟨j, h1, h2, rfl⟩
      by_cases e : j = a
      · subst e; exact .inl rfl
      · exact .inr ⟨j, by omega, by omega, rfl⟩
def rawTill (l : List STask) (u : Int) : Nat → List SCome
  | 0 => []
  | n + 1 => rawTill l u n ++ (match l[n]? with | some t => rowC n t 0 (cnt t u).toNat | none => [])
def totalTill (l : List STask) (u : Int) : Nat → Int
  | 0 => 0
  | n + 1 => totalTill l u n + (match l[n]? with | some t => cnt t u | none => 0)
theorem cnt_bounds {t : STask} {u : Int} (h : Okt t) (hu : 0 ≤ u ∧ u ≤ 20000) : 0 ≤ cnt t u ∧ cnt t u ≤ 20000 ∧ u ≤ t.O + t.T * cnt t u ∧ (1 ≤ cnt t u → t.O + t.T * (cnt t u - 1) < u) := by
  obtain ⟨h1, h2, h3, h4, h5, h6⟩ := h
  unfold cnt
  split
  · have hd := Int.emod_add_mul_ediv (u - t.O + t.T - 1) t.T
    have hm1 := Int.emod_nonneg (u - t.O + t.T - 1) (show t.T ≠ 0 by omega)
    have hm2 := Int.emod_lt_of_pos (u - t.O + t.T - 1) (show 0 < t.T by omega)
    have hn : 0 ≤ (u - t.O + t.T - 1) / t.T := Int.ediv_nonneg (by omega) (by omega)
    generalize (u - t.O + t.T - 1) / t.T = q at *
    generalize (u - t.O + t.T - 1) % t.T = r at *
    refine ⟨hn, ?_, by omega, fun _ => by rw [Int.mul_sub]; omega⟩
    have : q ≤ t.T * q := by
      have := Int.mul_le_mul_of_nonneg_right (show (1 : Int) ≤ t.T by omega) hn
      omega
    by_cases hq : q ≤ 20000
    · exact hq
    have h20 : t.T * (q - 1) ≥ q - 1 := by
      have := Int.mul_le_mul_of_nonneg_right (show (1 : Int) ≤ t.T by omega) (show 0 ≤ q - 1 by omega)
      omega
    rw [Int.mul_sub] at h20
    omega
  · exact ⟨by omega, by omega, by omega, fun h => by omega⟩
theorem raw_total {l : List STask} {u : Int} (hl : ∀ t ∈ l, Okt t) (hu : 0 ≤ u ∧ u ≤ 20000) : ∀ n, ((rawTill l u n).length : Int) = totalTill l u n
  | 0 => rfl
  | n + 1 => by
    simp only [rawTill, totalTill, List.length_append]
    have := raw_total hl hu n
    cases h : l[n]? with
    | none => simp; omega
    | some t =>
      have := (cnt_bounds (hl t (List.mem_of_getElem? h)) hu).1
      simp only [rowC_len]
      omega
theorem raw_mono (l : List STask) (u : Int) {n m : Nat} (h : n ≤ m) : (rawTill l u n).length ≤ (rawTill l u m).length := by
  induction h with
  | refl => exact Nat.le_refl _
  | step h ih => simp only [rawTill, List.length_append]; omega
theorem comes_inner (u : Int) (hu : u ≤ 20000) (i : Nat) (t : STask) (ht : Okt t) : ∀ (c a : Nat) (m : List SCome) (K : Nat), c < K → m.length ≤ 4000 → u ≤ t.O + t.T * ((a + c : Nat) : Int) → (1 ≤ c → t.O + t.T * ((a + c - 1 : Nat) : Int) < u) →
    iter (tasks_Comes.r2 u i t) K (m, t.O + t.T * (a : Int)) = some (if m.length + c ≤ 4000 then .inl (m ++ rowC i t a c) else .inr ([], ⟨2, 0⟩))
  | 0, a, m, K + 1, hK, hm, h1, h2 => by
    simp only [iter, tasks_Comes.r2]
    rw [if_neg (by simpa using h1), if_pos (by omega)]
    simp [rowC]
  | c + 1, a, m, K + 1, hK, hm, h1, h2 => by
    have ht0 := ht
    obtain ⟨t1, t2, t3, t4, t5, t6⟩ := ht
    have h2' := h2 (by omega)
    have hle : t.T * (a : Int) ≤ t.T * ((a + (c + 1) - 1 : Nat) : Int) := Int.mul_le_mul_of_nonneg_left (by omega) (by omega)
    have hnn : 0 ≤ t.T * (a : Int) := Int.mul_nonneg (by omega) (by omega)
    simp only [iter, tasks_Comes.r2]
    rw [if_pos (by omega), if_pos (by omega)]
    simp only [List.length_append, List.length_cons, List.length_nil]
    by_cases hlen : m.length = 4000
    · rw [if_pos (by omega), if_neg (by omega)]
    · rw [if_neg (by omega)]
      have e : IntKind.i64.wrap (t.O + t.T * (a : Int) + t.T) = t.O + t.T * ((a + 1 : Nat) : Int) := by
        rw [wrap64_small (by omega) (by omega), show ((a + 1 : Nat) : Int) = (a : Int) + 1 by omega, Int.mul_add]
        omega
      simp only [e]
      rw [comes_inner u hu i t ht0 c (a + 1) (m ++ [(⟨(i : Int), t.O + t.T * (a : Int)⟩ : SCome)]) K (by omega) (by simp; omega) (by rw [show a + 1 + c = a + (c + 1) by omega]; exact h1) (fun h => by rw [show a + 1 + c - 1 = a + (c + 1) - 1 by omega]; exact h2')]
      simp only [List.length_append, List.length_cons, List.length_nil, rowC, List.append_assoc, List.singleton_append]
      rw [show m.length + (0 + 1) + c = m.length + (c + 1) by omega]
theorem comes_outer (l : List STask) (u : Int) (hl : ∀ t ∈ l, Okt t) (hu : 0 ≤ u ∧ u ≤ 20000) (K : Nat) (hK : 20010 ≤ K) : ∀ (d i : Nat) (K' : Nat), d < K' → i + d = l.length → (rawTill l u i).length ≤ 4000 →
    iter (tasks_Comes.r1 K l u) K' (rawTill l u i, i) = some (if (rawTill l u l.length).length ≤ 4000 then .inl (rawTill l u l.length) else .inr ([], ⟨2, 0⟩))
  | 0, i, K' + 1, hK', hi, hm => by
    obtain rfl : i = l.length := by omega
    simp only [iter, tasks_Comes.r1]
    rw [if_neg (by omega), if_pos hm]
  | d + 1, i, K' + 1, hK', hi, hm => by
    have hil : i < l.length := by omega
    obtain ⟨t, ht⟩ : ∃ t, l[i]? = some t := ⟨l[i], List.getElem?_eq_getElem hil⟩
    have hto := hl t (List.mem_of_getElem? ht)
    obtain ⟨c1, c2, c3, c4⟩ := cnt_bounds hto hu
    have hin := comes_inner u hu.2 i t hto (cnt t u).toNat 0 (rawTill l u i) K (by omega) hm (by rw [show ((0 + (cnt t u).toNat : Nat) : Int) = cnt t u by omega]; exact c3) (fun h => by rw [show ((0 + (cnt t u).toNat - 1 : Nat) : Int) = cnt t u - 1 by omega]; exact c4 (by omega))
    rw [show t.O + t.T * ((0 : Nat) : Int) = t.O by simp] at hin
    have er : rawTill l u (i + 1) = rawTill l u i ++ rowC i t 0 (cnt t u).toNat := by simp only [rawTill, ht]
    have el : (rawTill l u (i + 1)).length = (rawTill l u i).length + (cnt t u).toNat := by rw [er]; simp [rowC_len]
    simp only [iter, tasks_Comes.r1, ht]
    rw [if_pos (by omega), hin]
    by_cases hc : (rawTill l u i).length + (cnt t u).toNat ≤ 4000
    · rw [if_pos hc]
      simp only [← er]
      exact comes_outer l u hl hu K hK d (i + 1) K' (by omega) (by omega) (by omega)
    · rw [if_neg hc, if_neg (by have := raw_mono l u (show i + 1 ≤ l.length by omega); omega)]
/-- those that come at a time -/
def rowAt (l : List STask) (z : Int) : Nat → List SCome
  | 0 => []
  | n + 1 => rowAt l z n ++ (match l[n]? with | some t => if t.O ≤ z ∧ (z - t.O) % t.T = 0 then [⟨(n : Int), z⟩] else [] | none => [])
def soonTo (l : List STask) : Nat → List SCome
  | 0 => []
  | n + 1 => soonTo l n ++ rowAt l (n : Int) l.length
theorem rowAt_mem {l : List STask} {z : Int} {x : SCome} : ∀ {n : Nat}, x ∈ rowAt l z n ↔ ∃ (i : Nat) (t : STask), i < n ∧ l[i]? = some t ∧ t.O ≤ z ∧ (z - t.O) % t.T = 0 ∧ x = ⟨(i : Int), z⟩
  | 0 => by simp [rowAt]
  | n + 1 => by
    simp only [rowAt, List.mem_append, rowAt_mem (n := n)]
    constructor
    · rintro (⟨i, t, h1, h2⟩ | h)
      · exact ⟨i, t, by omega, h2⟩
      · split at h
        · rename_i t ht
          split at h
          · rename_i hc
            exact ⟨n, t, by omega, ht, hc.1, hc.2, List.mem_singleton.1 h⟩
          · cases h
        · cases h
    · rintro ⟨i, t, h1, h2, h3, h4, rfl⟩
      by_cases e : i = n
      · subst e
        right
        simp only [h2]
        rw [if_pos ⟨h3, h4⟩]
        exact List.mem_singleton.2 rfl
      · exact .inl ⟨i, t, by omega, h2, h3, h4, rfl⟩
theorem soonTo_mem {l : List STask} {x : SCome} : ∀ {n : Nat}, x ∈ soonTo l n ↔ ∃ (z i : Nat) (t : STask), z < n ∧ l[i]? = some t ∧ t.O ≤ (z : Int) ∧ ((z : Int) - t.O) % t.T = 0 ∧ x = ⟨(i : Int), (z : Int)⟩
  | 0 => by simp [soonTo]
  | n + 1 => by
    simp only [soonTo, List.mem_append, soonTo_mem (n := n), rowAt_mem]
    constructor
    · rintro (⟨z, i, t, h1, h2⟩ | ⟨i, t, h1, h2, h3, h4, rfl⟩)
      · exact ⟨z, i, t, by omega, h2⟩
      · exact ⟨n, i, t, by omega, h2, h3, h4, rfl⟩
    · rintro ⟨z, i, t, h1, h2, h3, h4, rfl⟩
      by_cases e : z = n
      · subst e; exact .inr ⟨i, t, lt_of_get h2, h2, h3, h4, rfl⟩
      · exact .inl ⟨z, i, t, by omega, h2, h3, h4, rfl⟩
theorem rowAt_lex (l : List STask) (z : Int) : ∀ n, (rowAt l z n).Pairwise lexC
  | 0 => by simp [rowAt]
  | n + 1 => by
    simp only [rowAt]
    refine List.pairwise_append.2 ⟨rowAt_lex l z n, ?_, fun x hx y hy => ?_⟩
    · split
      · split <;> simp
      · simp
    · obtain ⟨i, t, h1, h2, h3, h4, rfl⟩ := rowAt_mem.1 hx
      split at hy
      · split at hy
        · rw [List.mem_singleton.1 hy]
          exact .inr ⟨rfl, show (i : Int) < (n : Int) by omega⟩
        · cases hy
      · cases hy
theorem soonTo_lex (l : List STask) : ∀ n, (soonTo l n).Pairwise lexC
  | 0 => by simp [soonTo]
  | n + 1 => by
    simp only [soonTo]
    refine List.pairwise_append.2 ⟨soonTo_lex l n, rowAt_lex l _ _, fun x hx y hy => ?_⟩
    obtain ⟨z, i, t, h1, h2, h3, h4, rfl⟩ := soonTo_mem.1 hx
    obtain ⟨i', t', g1, g2, g3, g4, rfl⟩ := rowAt_mem.1 hy
    exact .inl (show (z : Int) < (n : Int) by omega)
theorem lexC_asymm {x y : SCome} (h : lexC x y) (h2 : lexC y x) : False := by
  rcases h with h | ⟨h, h'⟩ <;> rcases h2 with g | ⟨g, g'⟩ <;> simp only [cAt, cTask] at * <;> omega
theorem lex_unique : ∀ {s t : List SCome}, s.Pairwise lexC → t.Pairwise lexC → (∀ c, c ∈ s ↔ c ∈ t) → s = t
  | [], [], _, _, _ => rfl
  | [], y :: t, _, _, h => by have := (h y).2 (by simp); cases this
  | x :: s, [], _, _, h => by have := (h x).1 (by simp); cases this
  | x :: s, y :: t, hs, ht, h => by
    obtain ⟨s1, s2⟩ := List.pairwise_cons.1 hs
    obtain ⟨t1, t2⟩ := List.pairwise_cons.1 ht
    have e : x = y := by
      rcases List.mem_cons.1 ((h x).1 (by simp)) with h1 | h1
      · exact h1
      · rcases List.mem_cons.1 ((h y).2 (by simp)) with h2 | h2
        · exact h2.symm
        · exact (lexC_asymm (t1 x h1) (s1 y h2)).elim
    subst e
    have hirr : ∀ z, z ∈ s → z ≠ x := fun z hz e => by subst e; exact lexC_asymm (s1 z hz) (s1 z hz)
    have hirr' : ∀ z, z ∈ t → z ≠ x := fun z hz e => by subst e; exact lexC_asymm (t1 z hz) (t1 z hz)
    rw [lex_unique s2 t2 (fun c => ⟨fun hc => by
      rcases List.mem_cons.1 ((h c).1 (by simp [hc])) with h1 | h1
      · exact absurd h1 (hirr c hc)
      · exact h1, fun hc => by
      rcases List.mem_cons.1 ((h c).2 (by simp [hc])) with h1 | h1
      · exact absurd h1 (hirr' c hc)
      · exact h1⟩)]
theorem raw_mem {l : List STask} {u : Int} {x : SCome} : ∀ {n : Nat}, x ∈ rawTill l u n ↔ ∃ (i : Nat) (t : STask) (j : Nat), i < n ∧ l[i]? = some t ∧ j < (cnt t u).toNat ∧ x = ⟨(i : Int), t.O + t.T * (j : Int)⟩
  | 0 => by simp [rawTill]
  | n + 1 => by
    simp only [rawTill, List.mem_append, raw_mem (n := n)]
    constructor
    · rintro (⟨i, t, j, h1, h2⟩ | h)
      · exact ⟨i, t, j, by omega, h2⟩
      · split at h
        · rename_i t ht
          obtain ⟨j, h1, h2, rfl⟩ := rowC_mem.1 h
          exact ⟨n, t, j, by omega, ht, by omega, rfl⟩
        · cases h
    · rintro ⟨i, t, j, h1, h2, h3, rfl⟩
      by_cases e : i = n
      · subst e
        right
        simp only [h2]
        exact rowC_mem.2 ⟨j, by omega, by omega, rfl⟩
      · exact .inl ⟨i, t, j, by omega, h2, h3, rfl⟩
theorem rowC_qq (i : Nat) (t : STask) (ht : 1 ≤ t.T) : ∀ (c a : Nat), (rowC i t a c).Pairwise qqC
  | 0, a => by simp [rowC]
  | c + 1, a => by
    simp only [rowC, List.pairwise_cons]
    refine ⟨fun x hx => ?_, rowC_qq i t ht c (a + 1)⟩
    obtain ⟨j, h1, h2, rfl⟩ := rowC_mem.1 hx
    intro e
    simp only [cAt] at e
    have : t.T * ((j : Int) - (a : Int)) > 0 := Int.mul_pos (by omega) (by omega)
    rw [Int.mul_sub] at this
    omega
theorem raw_qq (l : List STask) (u : Int) (hl : ∀ t ∈ l, Okt t) : ∀ n, (rawTill l u n).Pairwise qqC
  | 0 => by simp [rawTill]
  | n + 1 => by
    simp only [rawTill]
    refine List.pairwise_append.2 ⟨raw_qq l u hl n, ?_, fun x hx y hy => ?_⟩
    · split
      · rename_i t ht
        exact rowC_qq n t (hl t (List.mem_of_getElem? ht)).T.1 _ _
      · simp
    · obtain ⟨i, t, j, h1, h2, h3, rfl⟩ := raw_mem.1 hx
      split at hy
      · obtain ⟨k, g1, g2, rfl⟩ := rowC_mem.1 hy
        exact fun _ => show (i : Int) < (n : Int) by omega
      · cases hy
theorem raw_soon {l : List STask} {u : Int} (hl : ∀ t ∈ l, Okt t) (hu : 0 ≤ u ∧ u ≤ 20000) (c : SCome) : c ∈ rawTill l u l.length ↔ c ∈ soonTo l u.toNat := by
  rw [raw_mem, soonTo_mem]
  constructor
  · rintro ⟨i, t, j, h1, h2, h3, rfl⟩
    have ho := hl t (List.mem_of_getElem? h2)
    obtain ⟨c1, c2, c3, c4⟩ := cnt_bounds ho hu
    obtain ⟨t1, t2, t3, t4, t5, t6⟩ := ho
    have hnn : 0 ≤ t.T * (j : Int) := Int.mul_nonneg (by omega) (by omega)
    have hle : t.T * (j : Int) ≤ t.T * (cnt t u - 1) := Int.mul_le_mul_of_nonneg_left (by omega) (by omega)
    have := c4 (by omega)
    refine ⟨(t.O + t.T * (j : Int)).toNat, i, t, by omega, h2, by omega, ?_, ?_⟩
    · rw [show (((t.O + t.T * (j : Int)).toNat : Nat) : Int) - t.O = t.T * (j : Int) by omega]
      exact Int.mul_emod_right _ _
    · rw [show (((t.O + t.T * (j : Int)).toNat : Nat) : Int) = t.O + t.T * (j : Int) by omega]
  · rintro ⟨z, i, t, h1, h2, h3, h4, rfl⟩
    have ho := hl t (List.mem_of_getElem? h2)
    obtain ⟨c1, c2, c3, c4⟩ := cnt_bounds ho hu
    obtain ⟨t1, t2, t3, t4, t5, t6⟩ := ho
    have hd := Int.emod_add_mul_ediv ((z : Int) - t.O) t.T
    have hn : 0 ≤ ((z : Int) - t.O) / t.T := Int.ediv_nonneg (by omega) (by omega)
    rw [h4] at hd
    generalize ((z : Int) - t.O) / t.T = q at *
    refine ⟨i, t, q.toNat, lt_of_get h2, h2, ?_, ?_⟩
    · have : t.T * q < t.T * cnt t u := by omega
      have := Int.lt_of_mul_lt_mul_left this (by omega)
      omega
    · rw [show ((q.toNat : Nat) : Int) = q by omega, show t.O + t.T * q = (z : Int) by omega]
/-- how tasks come that come as soon as they may -/
noncomputable def soonOf (l : List STask) (u : Int) : List SCome × SFault :=
  if (setFault l).Code = 0 then (if u < 0 ∨ u > 20000 then ([], ⟨3, 0⟩) else if totalTill l u l.length > 4000 then ([], ⟨2, 0⟩) else (soonTo l u.toNat, ⟨0, 0⟩)) else ([], setFault l)
theorem Comes_eq (l : List STask) (u : Int) (K : Nat) (hK : 100010 ≤ K) : tasks_Comes.f K l u = some (soonOf l u) := by
  unfold tasks_Comes.f soonOf
  rw [Check_eq l K (by omega)]
  simp only
  by_cases h0 : (setFault l).Code = 0
  · rw [if_pos h0, if_pos h0]
    have hl := okt_of h0
    have hlen := (setFault_ok h0).2.1
    by_cases h1 : u < 0 ∨ u > 20000
    · rw [if_pos h1]
      rcases h1 with h1 | h1
      · simp only [tasks_Comes.p0, if_pos h1]
      · have h1' : ¬ u < 0 := by omega
        simp only [tasks_Comes.p0, if_neg h1', if_pos h1]
    · rw [if_neg h1]
      have hu : 0 ≤ u ∧ u ≤ 20000 := by omega
      have h1' : ¬ u < 0 := by omega
      have h1'' : ¬ u > 20000 := by omega
      have ho := comes_outer l u hl hu K (by omega) l.length 0 K (by omega) (by omega) (by simp [rawTill])
      have ht := raw_total hl hu l.length
      simp only [rawTill] at ho
      simp only [tasks_Comes.p0, if_neg h1', if_neg h1'', ho]
      by_cases h2 : totalTill l u l.length > 4000
      · rw [if_pos h2, if_neg (by omega)]
      · rw [if_neg h2, if_pos (by omega)]
        obtain ⟨s, p, hs, hr⟩ := stable_eq (rawTill l u l.length) (by omega) (raw_qq l u hl l.length) K hK
        simp only [hr]
        rw [lex_unique hs (soonTo_lex l u.toNat) (fun c => by rw [p.mem_iff]; exact raw_soon hl hu c)]
  · rw [if_neg h0, if_neg h0]
theorem soon_row (l : List STask) (hl : ∀ t ∈ l, Okt t) (z : Int) (hz : 0 ≤ z ∧ z ≤ 20000) (m : List SCome) (hm : m.length ≤ 1000000) (h8 : l.length ≤ 8) : ∀ (d i : Nat) (K : Nat), d < K → i + d = l.length →
    iter (punctualref_Soon.r3 l z) K (m ++ rowAt l z i, i) = some (.inl (m ++ rowAt l z l.length))
  | 0, i, K + 1, hK, hi => by
    obtain rfl : i = l.length := by omega
    simp only [iter, punctualref_Soon.r3]
    rw [if_neg (by omega)]
  | d + 1, i, K + 1, hK, hi => by
    have hil : i < l.length := by omega
    obtain ⟨t, ht⟩ : ∃ t, l[i]? = some t := ⟨l[i], List.getElem?_eq_getElem hil⟩
    obtain ⟨t1, t2, t3, t4, t5, t6⟩ := hl t (List.mem_of_getElem? ht)
    have hlen : ∀ n, (rowAt l z n).length ≤ n := fun n => by
      induction n with
      | zero => simp [rowAt]
      | succ n ih =>
        simp only [rowAt, List.length_append]
        split
        · split <;> simp <;> omega
        · simp; omega
    have hli := hlen i
    have er : rowAt l z (i + 1) = rowAt l z i ++ (if t.O ≤ z ∧ (z - t.O) % t.T = 0 then [⟨(i : Int), z⟩] else []) := by simp only [rowAt, ht]
    have ih := soon_row l hl z hz m hm h8 d (i + 1) K (by omega) (by omega)
    rw [er] at ih
    simp only [iter, punctualref_Soon.r3, ht]
    rw [if_pos (by omega)]
    by_cases h1 : z ≥ t.O
    · have e : IntKind.i64.wrap (z - t.O) = z - t.O := wrap64_small (by omega) (by omega)
      have e2 : Int.tmod (z - t.O) t.T = (z - t.O) % t.T := Int.tmod_eq_emod_of_nonneg (by omega)
      rw [if_pos h1, if_neg (by omega), e, e2]
      by_cases h2 : (z - t.O) % t.T = 0
      · rw [if_pos ⟨h1, h2⟩] at ih
        rw [if_pos h2, if_pos (by simp only [List.length_append]; omega)]
        simp only
        rw [List.append_assoc]
        exact ih
      · rw [if_neg (fun h => h2 h.2), List.append_nil] at ih
        rw [if_neg h2]
        exact ih
    · rw [if_neg (fun h => h1 h.1), List.append_nil] at ih
      rw [if_neg h1]
      exact ih
theorem soonTo_len (l : List STask) : ∀ n, (soonTo l n).length ≤ n * l.length
  | 0 => by simp [soonTo]
  | n + 1 => by
    have hlen : ∀ z n, (rowAt l z n).length ≤ n := fun z n => by
      induction n with
      | zero => simp [rowAt]
      | succ n ih =>
        simp only [rowAt, List.length_append]
        split
        · split <;> simp <;> omega
        · simp; omega
    have := hlen (n : Int) l.length
    have := soonTo_len l n
    simp only [soonTo, List.length_append, Nat.succ_mul]
    omega
theorem soon_outer (l : List STask) (hl : ∀ t ∈ l, Okt t) (h8 : l.length ≤ 8) (u : Int) (hu : 0 ≤ u ∧ u ≤ 20000) (K : Nat) (hK : 20 ≤ K) : ∀ (d n : Nat) (K' : Nat), d < K' → n + d = u.toNat →
    iter (punctualref_Soon.r2 K l u) K' (soonTo l n, (n : Int)) = some (.inl (soonTo l u.toNat))
  | 0, n, K' + 1, hK', hn => by
    obtain rfl : n = u.toNat := by omega
    simp only [iter, punctualref_Soon.r2]
    rw [if_neg (by omega)]
  | d + 1, n, K' + 1, hK', hn => by
    have hlen := soonTo_len l n
    have : n * l.length ≤ 20000 * 8 := Nat.mul_le_mul (by omega) h8
    have hr := soon_row l hl (n : Int) (by omega) (soonTo l n) (by omega) h8 l.length 0 K (by omega) (by omega)
    simp only [rowAt, List.append_nil] at hr
    have e : IntKind.i64.wrap ((n : Int) + 1) = ((n + 1 : Nat) : Int) := by rw [wrap64_small (by omega) (by omega)]; omega
    simp only [iter, punctualref_Soon.r2]
    rw [if_pos (by omega), hr]
    simp only [e]
    exact soon_outer l hl h8 u hu K hK d (n + 1) K' (by omega) (by omega)
theorem soon_count (l : List STask) (hl : ∀ t ∈ l, Okt t) (h8 : l.length ≤ 8) (u : Int) (hu : 0 ≤ u ∧ u ≤ 20000) : ∀ (d i : Nat) (K : Nat), d < K → i + d = l.length → (0 ≤ totalTill l u i ∧ totalTill l u i ≤ 20000 * (i : Int)) →
    iter (punctualref_Soon.r1 l u) K (totalTill l u i, i) = some (.inl (totalTill l u l.length))
  | 0, i, K + 1, hK, hi, hb => by
    obtain rfl : i = l.length := by omega
    simp only [iter, punctualref_Soon.r1]
    rw [if_neg (by omega)]
  | d + 1, i, K + 1, hK, hi, hb => by
    have hil : i < l.length := by omega
    obtain ⟨t, ht⟩ : ∃ t, l[i]? = some t := ⟨l[i], List.getElem?_eq_getElem hil⟩
    have hto := hl t (List.mem_of_getElem? ht)
    obtain ⟨c1, c2, c3, c4⟩ := cnt_bounds hto hu
    obtain ⟨t1, t2, t3, t4, t5, t6⟩ := hto
    have er : totalTill l u (i + 1) = totalTill l u i + cnt t u := by simp only [totalTill, ht]
    have ih := soon_count l hl h8 u hu d (i + 1) K (by omega) (by omega) (by rw [er, show ((i + 1 : Nat) : Int) = (i : Int) + 1 by omega]; omega)
    simp only [iter, punctualref_Soon.r1, ht]
    rw [if_pos (by omega)]
    by_cases h1 : u > t.O
    · have ec : cnt t u = (u - t.O + t.T - 1) / t.T := by simp only [cnt, if_pos h1]
      rw [if_pos h1, if_neg (by omega), wrap64_small (n := u - t.O) (by omega) (by omega), wrap64_small (n := u - t.O + t.T) (by omega) (by omega), wrap64_small (n := u - t.O + t.T - 1) (by omega) (by omega), Int.tdiv_eq_ediv_of_nonneg (by omega), ← ec,
        wrap64_small (n := cnt t u) (by omega) (by omega), wrap64_small (by omega) (by omega), ← er]
      exact ih
    · have ec : cnt t u = 0 := by simp only [cnt, if_neg h1]
      rw [ec, Int.add_zero] at er
      rw [if_neg h1, ← er]
      exact ih
theorem Soon_eq (l : List STask) (hok : ∀ t ∈ l, Ok.ok t) (u : Int) (K : Nat) (hK : 20010 ≤ K) (hs : ∀ t ∈ l, t.Name.size < K) : punctualref_Soon.f K l u = some (soonOf l u) := by
  unfold punctualref_Soon.f soonOf
  rw [CheckSet_eq l hok K (by omega) hs]
  simp only
  by_cases h0 : (setFault l).Code = 0
  · rw [if_pos h0, if_pos h0]
    have hl := okt_of h0
    have hlen := (setFault_ok h0).2.1
    by_cases h1 : u < 0 ∨ u > 20000
    · rw [if_pos h1]
      rcases h1 with h1 | h1
      · simp only [punctualref_Soon.p0, if_pos h1]; rfl
      · have h1' : ¬ u < 0 := by omega
        simp only [punctualref_Soon.p0, if_neg h1', if_pos h1]; rfl
    · rw [if_neg h1]
      have hu : 0 ≤ u ∧ u ≤ 20000 := by omega
      have h1' : ¬ u < 0 := by omega
      have h1'' : ¬ u > 20000 := by omega
      have hc := soon_count l hl hlen u hu l.length 0 K (by omega) (by omega) (by simp [totalTill])
      simp only [totalTill] at hc
      simp only [punctualref_Soon.p0, if_neg h1', if_neg h1'', hc]
      by_cases h2 : totalTill l u l.length > 4000
      · rw [if_pos h2, if_pos h2]; rfl
      · rw [if_neg h2, if_neg h2]
        have ho := soon_outer l hl hlen u hu K (by omega) u.toNat 0 K (by omega) (by omega)
        simp only [soonTo] at ho
        rw [show ((0 : Nat) : Int) = 0 from rfl] at ho
        simp only [ho]
  · rw [if_neg h0, if_neg h0]
theorem soon_len {l : List STask} {u : Int} (hl : ∀ t ∈ l, Okt t) (hu : 0 ≤ u ∧ u ≤ 20000) (h : totalTill l u l.length ≤ 4000) : (soonTo l u.toNat).length ≤ 4000 := by
  have ht := raw_total hl hu l.length
  obtain ⟨s, p, hs, hr⟩ := stable_eq (rawTill l u l.length) (by omega) (raw_qq l u hl l.length) 100010 (Nat.le_refl _)
  rw [← lex_unique hs (soonTo_lex l u.toNat) (fun c => by rw [p.mem_iff]; exact raw_soon hl hu c), p.length_eq]
  omega
theorem soonOf_len (l : List STask) (u : Int) : (soonOf l u).1.length ≤ 4000 := by
  unfold soonOf
  split
  · rename_i h0
    split
    · simp
    · rename_i h1
      split
      · simp
      · rename_i h2
        exact soon_len (okt_of h0) (by omega) (by omega)
  · simp
/-- they may come so -/
theorem soon_legal {l : List STask} {u : Int} (h : (soonOf l u).2.Code = 0) : (comesFault l (soonOf l u).1).Code = 0 := by
  unfold soonOf at h ⊢
  by_cases h0 : (setFault l).Code = 0
  · rw [if_pos h0] at h ⊢
    by_cases h1 : u < 0 ∨ u > 20000
    · rw [if_pos h1] at h; cases h
    rw [if_neg h1] at h ⊢
    have hu : 0 ≤ u ∧ u ≤ 20000 := by omega
    by_cases h2 : totalTill l u l.length > 4000
    · rw [if_pos h2] at h; cases h
    rw [if_neg h2]
    have hl := okt_of h0
    have hlen := soon_len hl hu (by omega)
    have hlx := soonTo_lex l u.toNat
    simp only
    generalize hc : soonTo l u.toNat = s at *
    have hmem : ∀ c ∈ s, ∃ (z i : Nat) (t : STask), z < u.toNat ∧ l[i]? = some t ∧ t.O ≤ (z : Int) ∧ ((z : Int) - t.O) % t.T = 0 ∧ c = ⟨(i : Int), (z : Int)⟩ := fun c hcs => soonTo_mem.1 (by rw [hc]; exact hcs)
    unfold comesFault
    rw [if_pos h0, if_neg (by omega), firstOf_none_of (fun i _ hi => ?_)]
    · rfl
    have hx : s[i]? = some s[i] := List.getElem?_eq_getElem hi
    generalize s[i] = c at hx
    obtain ⟨z, ti, t, g1, g2, g3, g4, rfl⟩ := hmem c (List.mem_of_getElem? hx)
    have htl := lt_of_get g2
    unfold comeAt
    rw [hx]
    simp only
    rw [if_neg (by omega), if_neg (by omega), if_neg ?_]
    · cases hlo : lastOf s (ti : Int) i with
      | none => rfl
      | some k =>
        have hk := lastOf_lt hlo
        obtain ⟨b, hb, hbt⟩ := lastOf_task hlo
        simp only [hb, Int.toNat_natCast, g2]
        rw [if_neg]
        obtain ⟨z', ti', t', e1, e2, e3, e4, rfl⟩ := hmem b (List.mem_of_getElem? hb)
        simp only at hbt
        obtain rfl : ti' = ti := by omega
        rw [g2] at e2
        cases e2
        have hlt : lexC (⟨(ti' : Int), (z' : Int)⟩ : SCome) ⟨(ti' : Int), (z : Int)⟩ := by
          obtain ⟨hk1, hk2⟩ := List.getElem?_eq_some_iff.1 hb
          obtain ⟨hi1, hi2⟩ := List.getElem?_eq_some_iff.1 hx
          rw [← hk2, ← hi2]
          exact List.pairwise_iff_getElem.1 hlx k i hk1 hi1 hk
        have hz : (z' : Int) < (z : Int) := by rcases hlt with h | ⟨_, h⟩ <;> simp only [cAt, cTask] at h <;> omega
        have d1 := Int.dvd_of_emod_eq_zero g4
        have d2 := Int.dvd_of_emod_eq_zero e4
        have d3 := Int.dvd_sub d1 d2
        rw [show (z : Int) - t.O - ((z' : Int) - t.O) = (z : Int) - z' by omega] at d3
        have := Int.le_of_dvd (by omega) d3
        simp only
        omega
    · rintro ⟨b, hb0, hb, hlt⟩
      obtain ⟨hk1, hk2⟩ := List.getElem?_eq_some_iff.1 hb
      obtain ⟨hi1, hi2⟩ := List.getElem?_eq_some_iff.1 hx
      have := List.pairwise_iff_getElem.1 hlx (i - 1) i hk1 hi1 (by omega)
      rw [hk2, hi2] at this
      have := lexC_le this
      omega
  · rw [if_neg h0] at h
    exact absurd h h0

theorem soonOf_three : soonOf three.f 7 = ([⟨0, 0⟩, ⟨1, 0⟩, ⟨2, 0⟩, ⟨0, 4⟩, ⟨1, 6⟩], ⟨0, 0⟩) := by
  have h := Comes_eq three.f 7 100010 (Nat.le_refl _)
  have h2 : tasks_Comes.f 100010 three.f 7 = some ([⟨0, 0⟩, ⟨1, 0⟩, ⟨2, 0⟩, ⟨0, 4⟩, ⟨1, 6⟩], ⟨0, 0⟩) := by kernel_rfl
  rw [h2] at h
  exact (Option.some.inj h).symm
theorem TasksComes_law (l0 : List STask) (x1 : Int) (l2 : List SCome) (ok0 : ∀ y ∈ l0, Ok.ok y) (ok1 : In64 x1) (ok2 : ∀ y ∈ l2, Ok.ok y) : ∃ K, TasksComes.f K l0 x1 l2 = some true := by
  obtain ⟨B, hB⟩ := exists_bound (fun t : STask => t.Name.size) l0
  refine ⟨B + 100010, ?_⟩
  have hp0 : TasksComes.p0 (B + 100010) ([⟨0, 0⟩, ⟨1, 0⟩, ⟨2, 0⟩, ⟨0, 4⟩, ⟨1, 6⟩], ⟨0, 0⟩) = some (.inl ()) := by
    unfold TasksComes.p0
    rw [if_pos rfl, punctualsame_Same_api_Come_self _ _ (by simp)]
    rfl
  unfold TasksComes.f
  rw [Comes_eq three.f 7 (B + 100010) (by omega), soonOf_three]
  simp only [hp0]
  by_cases hf : few.f (l0.length : Int) = true ∧ few.f (l2.length : Int) = true
  · obtain ⟨f0, f1⟩ := hf
    have hp1 : TasksComes.p1 l0 l2 = some (.inl ()) := by unfold TasksComes.p1; rw [if_pos f0, if_pos f1]
    have g0 := few_true f0
    have g1 := few_true f1
    obtain ⟨r0, e0⟩ := punctualsame_Lend_api_Task_some l0 ⟨⟨#[63]⟩, (-9), 0, 0, 0, 0, 0⟩ g0
    obtain ⟨r1, e1⟩ := punctualsame_Lend_api_Come_some l2 ⟨(-9), 0⟩ g1
    have hj := soonOf_len l0 x1
    have hr := iter_first0 (f := TasksComes.r2 (B + 100010) l0 x1 (soonOf l0 x1)) (fun _ => none) 2 (t := ()) (fun i hi => by
      have hi' : (i : Int) < 2 := by omega
      simp only [TasksComes.r2, if_pos hi', Comes_eq l0 x1 (B + 100010) (by omega), SFault.eqb_self, if_true, punctualsame_Same_api_Come_self _ (B + 100010) (show (soonOf l0 x1).1.length < B + 100010 by omega), onward]) (by simp [TasksComes.r2]) (K := B + 100010) (by omega)
    rw [firstOf_none_of (fun _ _ _ => rfl)] at hr
    have hs : ∀ t ∈ l0, t.Name.size < B + 100010 := fun t ht => by have := hB t ht; omega
    simp only [hp1, Soon_eq l0 ok0 x1 (B + 100010) (by omega) hs, e0, e1, hr, leave, Legal_eq l0 _ (B + 100010) (by omega), Lawful_eq l0 l2 ok0 (B + 100010) (by omega) hs, SFault.eqb_self, if_true,
      punctualsame_Still_api_Task_true l0 _ (B + 100010) g0 (by omega), punctualsame_Still_api_Come_true l2 _ (B + 100010) g1 (by omega)]
    by_cases hc : (soonOf l0 x1).2.Code = 0
    · rw [if_pos hc, if_pos (soon_legal hc)]
    · rw [if_neg hc]
  · have hp1 : TasksComes.p1 l0 l2 = some (.inr true) := by
      unfold TasksComes.p1
      repeat' split
      all_goals first | rfl | (exfalso; exact hf ⟨by assumption, by assumption⟩)
    simp only [hp1]

end Go.Proofs.YtlipdmblinjjaaaDoor.GV
