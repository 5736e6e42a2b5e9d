/- Plain words: GvLFixedExact. -/
import Derived.Test.YtlipdmblinjjaaaGWFixedExact4
import Derived.Test.YtlipdmblinjjaaaGv17
namespace Go.Proofs.Ytlipdmblinjjaaa.GV
open Go Go.RowKit
set_option linter.unusedVariables false
set_option linter.unusedSimpArgs false
theorem STask.eqb_self (x : STask) : STask.eqb x x = true := by simp [STask.eqb]
theorem SFault.eqb_self (x : SFault) : SFault.eqb x x = true := by simp [SFault.eqb]
theorem SJob.eqb_self (x : SJob) : SJob.eqb x x = true := by simp [SJob.eqb]
theorem A6Int.eqb_self (x : A6Int) : A6Int.eqb x x = true := by simp [A6Int.eqb]
theorem SCome.eqb_self (x : SCome) : SCome.eqb x x = true := by simp [SCome.eqb]
theorem punctualsame_Same_int_self (l : List Int) (K : Nat) (hK : l.length < K) : punctualsame_Same_int.f K l l = some true := by
  have hr := iter_first0 (f := punctualsame_Same_int.r0 l l) (fun _ => none) l.length (t := ()) (fun i hi => by
    have h' : (i : Int) < (l.length : Int) := by omega
    simp only [punctualsame_Same_int.r0, if_pos h', List.getElem?_eq_getElem hi, if_true, onward]) (by
    have h' : ¬ (l.length : Int) < (l.length : Int) := by omega
    simp only [punctualsame_Same_int.r0, if_neg h']) hK
  rw [firstOf_none_of (fun _ _ _ => rfl)] at hr
  simp only [punctualsame_Same_int.f, if_true, hr, leave]
theorem exists_bound {α : Type} (f : α → Nat) : ∀ l : List α, ∃ B, ∀ x ∈ l, f x ≤ B
  | [] => ⟨0, by simp⟩
  | x :: l => by
    obtain ⟨B, h⟩ := exists_bound f l
    refine ⟨max (f x) B, fun y hy => ?_⟩
    rcases List.mem_cons.1 hy with rfl | hy
    · exact Nat.le_max_left _ _
    · exact Nat.le_trans (h y hy) (Nat.le_max_right _ _)
/-- a letter stands there -/
def letterAt (x : ByteArray) (i : Nat) : Bool := match x[i]? with | some b => decide (97 ≤ b.toNat) && decide (b.toNat ≤ 122) | none => false
def allL (x : ByteArray) (n : Nat) : Bool := (List.range n).all (letterAt x)
theorem allL_succ (x : ByteArray) (n : Nat) : allL x (n + 1) = (allL x n && letterAt x n) := by simp [allL, List.range_succ]
theorem allL_iff {x : ByteArray} {n : Nat} : allL x n = true ↔ ∀ i, i < n → letterAt x i = true := by simp [allL]
def Good (x : ByteArray) : Prop := 1 ≤ x.size ∧ x.size ≤ 10 ∧ allL x x.size = true
instance (x : ByteArray) : Decidable (Good x) := by unfold Good; infer_instance
theorem get!_of {x : ByteArray} {i : Nat} {b : UInt8} (h : x[i]? = some b) : x.get! i = b := by
  have hi : i < x.size := by
    rcases Nat.lt_or_ge i x.size with h' | h'
    · exact h'
    · rw [getElem?_neg x i (by omega)] at h; cases h
  rw [getElem?_pos x i hi] at h
  have := Option.some.inj h
  rw [← this]
  cases x with
  | mk bs => exact getElem!_pos bs i hi
theorem byte_some {x : ByteArray} {i : Nat} (h : i < x.size) : ∃ b, x[i]? = some b := ⟨x[i], getElem?_pos x i h⟩
theorem decode_letter {x : ByteArray} {i : Nat} (hi : i < x.size) (h : letterAt x i = true) : ∃ n : Nat, Utf8.decode x i = (n, 1) ∧ 97 ≤ n ∧ n ≤ 122 := by
  obtain ⟨b, hb⟩ := byte_some hi
  simp only [letterAt, hb, Bool.and_eq_true, decide_eq_true_eq] at h
  refine ⟨b.toNat, ?_, h⟩
  have := get!_of hb
  simp only [Utf8.decode, Nat.add_zero, this]
  rw [if_pos (by omega)]
theorem decode_other {x : ByteArray} {i : Nat} (hi : i < x.size) (h : letterAt x i = false) : (Utf8.decode x i).1 < 97 ∨ 122 < (Utf8.decode x i).1 := by
  obtain ⟨b, hb⟩ := byte_some hi
  simp only [letterAt, hb, Bool.and_eq_false_iff, decide_eq_false_iff_not] at h
  have := get!_of hb
  simp only [Utf8.decode, Nat.add_zero, this]
  have he : Utf8.runeError = 65533 := rfl
  repeat' split
  all_goals simp only [he, Bool.and_eq_true, decide_eq_true_eq, ge_iff_le] at *
  all_goals omega
theorem isName_eq (x : ByteArray) (K : Nat) (hK : 12 ≤ K) : tasks_isName.f K x = some (decide (Good x)) := by
  unfold tasks_isName.f
  by_cases h1 : (x.size : Int) < 1
  · rw [if_pos h1]; congr 1; symm; rw [decide_eq_false_iff_not]; intro h; have := h.1; omega
  rw [if_neg h1]
  by_cases h2 : (x.size : Int) > 10
  · rw [if_pos h2]; congr 1; symm; rw [decide_eq_false_iff_not]; intro h; have := h.2.1; omega
  rw [if_neg h2]
  have hr := iter_first0 (f := tasks_isName.r0 x) (fun i => if letterAt x i = true then none else some false) x.size (t := ()) (fun i hi => by
    simp only [tasks_isName.r0, if_pos hi]
    by_cases h : letterAt x i = true
    · obtain ⟨n, hd, ha, hb⟩ := decode_letter hi h
      simp only [hd, h, if_true]
      rw [if_neg (by omega), if_neg (by omega)]; rfl
    · simp only [h]
      rcases decode_other hi (by simpa using h) with h | h
      · rw [if_pos (by omega)]; simp [onward]
      · rw [if_neg (by omega), if_pos (by omega)]; simp [onward]) (by simp [tasks_isName.r0]) (K := K) (by omega)
  rw [hr]
  cases hf : firstOf (fun i => if letterAt x i = true then none else some false) x.size 0 with
  | none =>
    show some true = some _
    congr 1; symm
    rw [decide_eq_true_eq]
    refine ⟨by omega, by omega, allL_iff.2 fun i hi => ?_⟩
    have := firstOf_none hf i (Nat.zero_le _) hi
    split at this
    · assumption
    · cases this
  | some r =>
    obtain ⟨j, _, hj, hg, _⟩ := firstOf_some hf
    split at hg
    · cases hg
    · rename_i hn
      cases hg
      show some false = some _
      congr 1; symm
      rw [decide_eq_false_iff_not]
      intro h
      exact hn (allL_iff.1 h.2.2 j hj)
theorem refName_eq (e : STask) (hs : Ok.ok e) (K : Nat) (hK : e.Name.size < K) : ∃ q, punctualref_CheckSet.p2 e = some (.inl q) ∧ iter (punctualref_CheckSet.r3 e) K (q, 0) = some (.inl (decide (Good e.Name))) := by
  have hsm : e.Name.size ≤ 9223372036854775807 := hs.1
  have key : ∀ q : Bool, iter (punctualref_CheckSet.r3 e) K (q, 0) = some (.inl (q && allL e.Name e.Name.size)) := by
    intro q
    obtain ⟨r, hr, hR⟩ := iter_total (f := punctualref_CheckSet.r3 e) (fun s => 0 ≤ s.2 ∧ s.2 ≤ e.Name.size ∧ s.1 = (q && allL e.Name s.2.toNat)) (fun s => e.Name.size - s.2.toNat)
      (fun r => r = .inl (q && allL e.Name e.Name.size)) (fun s hI => by
        obtain ⟨p, z⟩ := s
        obtain ⟨h1, h2, h3⟩ := hI
        simp only at h1 h2 h3
        obtain ⟨n, rfl⟩ := Int.eq_ofNat_of_zero_le h1
        by_cases hz : (n : Int) < (e.Name.size : Int)
        · left
          have hn : n < e.Name.size := by omega
          obtain ⟨b, hb⟩ := byte_some hn
          have hw : IntKind.i64.wrap ((n : Int) + 1) = ((n + 1 : Nat) : Int) := by rw [wrap64_small (by omega) (by omega)]; rfl
          have hstep : punctualref_CheckSet.r3 e (p, (n : Int)) = some (.inl (p && letterAt e.Name n, ((n + 1 : Nat) : Int))) := by
            simp only [punctualref_CheckSet.r3, if_pos hz, hw, Int.toNat_natCast, hb, letterAt, if_pos h1]
            cases p with
            | false => simp
            | true =>
              simp only [if_true, Bool.true_and]
              by_cases ha : (b.toNat : Int) ≥ 97
              · rw [if_pos ha]
                have : (97 ≤ b.toNat) := by omega
                simp only [this, decide_true, Bool.true_and, Option.some.injEq, Sum.inl.injEq, Prod.mk.injEq, and_true]
                rw [Bool.eq_iff_iff, decide_eq_true_eq, decide_eq_true_eq]
                omega
              · rw [if_neg ha]
                have : ¬ (97 ≤ b.toNat) := by omega
                simp [this]
          refine ⟨_, hstep, ⟨by simp only; omega, by simp only; omega, ?_⟩, by simp only; omega⟩
          simp only [h3, Int.toNat_natCast]
          rw [allL_succ, Bool.and_assoc]
        · right
          obtain rfl : n = e.Name.size := by omega
          refine ⟨.inl p, by simp only [punctualref_CheckSet.r3, if_neg hz], ?_⟩
          rw [h3]
          rfl) K (q, 0) ⟨by simp, by simp, by simp [allL]⟩ (by simpa using hK)
    rw [hr, hR]
  unfold punctualref_CheckSet.p2
  by_cases h1 : (e.Name.size : Int) ≥ 1
  · rw [if_pos h1]
    refine ⟨_, rfl, ?_⟩
    rw [key]
    congr 2
    rw [Bool.eq_iff_iff]
    rw [Bool.and_eq_true, decide_eq_true_eq, decide_eq_true_eq]
    constructor
    · rintro ⟨ha, hb⟩; exact ⟨by omega, by omega, hb⟩
    · rintro ⟨ha, hb, hc⟩; exact ⟨by omega, hc⟩
  · rw [if_neg h1]
    refine ⟨_, rfl, ?_⟩
    rw [key]
    congr 2
    rw [Bool.false_and, eq_comm, decide_eq_false_iff_not]
    intro h; have := h.1; omega
/-- the first of those ahead that bears the name -/
def dupAt (l : List STask) (i : Nat) (t : STask) : Prop := ∃ j e, j < i ∧ l[j]? = some e ∧ e.Name.toList = t.Name.toList
noncomputable instance (l : List STask) (i : Nat) (t : STask) : Decidable (dupAt l i t) := Classical.propDecidable _
theorem takedrop {α : Type} (l : List α) (i : Nat) : (l.take i).drop 0 = l.take i := by simp
theorem contains_eq (l : List STask) (i : Nat) (hi : i < l.length) (t : STask) (K : Nat) (hK : i < K) : slices_ContainsFunc_api_Task_api_Task.f K ((l.take i).drop 0) t = some (decide (dupAt l i t)) := by
  rw [takedrop]
  have hlen : (l.take i).length = i := by simp; omega
  let g : Nat → Option Int := fun j => match l[j]? with | some e => if e.Name.toList = t.Name.toList then some (j : Int) else none | none => none
  have hr := iter_first0 (f := slices_IndexFunc_api_Task_api_Task.r0 (l.take i) t) g i (t := ()) (fun j hj => by
    have hj' : (j : Int) < ((l.take i).length : Int) := by omega
    have hjl : j < l.length := by omega
    simp only [slices_IndexFunc_api_Task_api_Task.r0, if_pos hj', List.getElem?_take, if_pos hj, List.getElem?_eq_getElem hjl, g, tasks_Check_1.f, beq_iff_eq]
    split <;> rfl) (by
    have : ¬ (i : Int) < ((l.take i).length : Int) := by omega
    simp only [slices_IndexFunc_api_Task_api_Task.r0, if_neg this]) (K := K) hK
  unfold slices_ContainsFunc_api_Task_api_Task.f slices_IndexFunc_api_Task_api_Task.f
  rw [hr]
  cases hf : firstOf g i 0 with
  | none =>
    show some (decide ((-1 : Int) ≥ 0)) = _
    congr 1
    have : ¬ dupAt l i t := by
      rintro ⟨j, e, hj, he, hn⟩
      have := firstOf_none hf j (Nat.zero_le _) hj
      simp only [g, he, if_pos hn] at this
      cases this
    simp [this]
  | some r =>
    show some (decide (r ≥ 0)) = _
    obtain ⟨j, _, hj, hg, _⟩ := firstOf_some hf
    have hjl : j < l.length := by omega
    simp only [g, List.getElem?_eq_getElem hjl] at hg
    split at hg
    · rename_i hn
      cases hg
      have : dupAt l i t := ⟨j, l[j], hj, List.getElem?_eq_getElem hjl, hn⟩
      simp [this]
    · cases hg
theorem refDup_eq (l : List STask) (i : Nat) (hi : i < l.length) (t : STask) (K : Nat) (hK : i < K) : iter (punctualref_CheckSet.r4 l i t) K 0 = some (if dupAt l i t then .inr ⟨5, (i : Int)⟩ else .inl ()) := by
  have hlen : ((l.take i).drop 0).length = i := by simp; omega
  let g : Nat → Option SFault := fun j => match l[j]? with | some e => if e.Name.toList = t.Name.toList then some ⟨5, (i : Int)⟩ else none | none => none
  have hr := iter_first0 (f := punctualref_CheckSet.r4 l i t) g i (t := ()) (fun j hj => by
    have hj' : (j : Int) < (((l.take i).drop 0).length : Int) := by omega
    have hjl : j < l.length := by omega
    simp only [punctualref_CheckSet.r4, if_pos hj']
    rw [takedrop]
    simp only [List.getElem?_take, if_pos hj, List.getElem?_eq_getElem hjl, g, punctualref_F.f]
    split <;> rfl) (by
    have : ¬ (i : Int) < (((l.take i).drop 0).length : Int) := by omega
    simp only [punctualref_CheckSet.r4, if_neg this]) (K := K) hK
  rw [hr]
  cases hf : firstOf g i 0 with
  | none =>
    have : ¬ dupAt l i t := by
      rintro ⟨j, e, hj, he, hn⟩
      have := firstOf_none hf j (Nat.zero_le _) hj
      simp only [g, he, if_pos hn] at this
      cases this
    simp [this, leave]
  | some r =>
    obtain ⟨j, _, hj, hg, _⟩ := firstOf_some hf
    have hjl : j < l.length := by omega
    simp only [g, List.getElem?_eq_getElem hjl] at hg
    split at hg
    · rename_i hn
      cases hg
      have : dupAt l i t := ⟨j, l[j], hj, List.getElem?_eq_getElem hjl, hn⟩
      simp [this, leave]
    · cases hg
theorem iter_succ {σ ρ : Type} (f : σ → Option (σ ⊕ ρ)) (K : Nat) (s : σ) : iter f (K + 1) s = match f s with | none => none | some (.inl s') => iter f K s' | some (.inr r) => some r := rfl
/-- a number lies out of its range -/
def rangeAt (i : Nat) (t : STask) (j : Nat) : Option SFault :=
  match ([t.C, t.T, t.D, t.J, t.O, t.P] : List Int)[j]? with
  | none => none
  | some v => match ([1, 1, 1, 0, 0, 0] : List Int)[j]? with
    | none => none
    | some a => if v < a then some ⟨3, (i : Int)⟩ else match ([10000, 10000, 10000, 10000, 10000, 1000] : List Int)[j]? with
      | none => none
      | some b => if v > b then some ⟨3, (i : Int)⟩ else none
theorem range_eq (i : Nat) (t : STask) (K : Nat) (hK : 7 ≤ K) : iter (tasks_Check.r2 i t) K 0 = some (leave () (firstOf (rangeAt i t) 6 0)) := by
  refine iter_first0 (f := tasks_Check.r2 i t) (rangeAt i t) 6 (t := ()) (fun j hj => ?_) (by simp [tasks_Check.r2, tasks_numbers.f]) (K := K) (by omega)
  have : j = 0 ∨ j = 1 ∨ j = 2 ∨ j = 3 ∨ j = 4 ∨ j = 5 := by omega
  rcases this with rfl | rfl | rfl | rfl | rfl | rfl <;> simp [tasks_Check.r2, tasks_numbers.f, tasks_bounds.f, rangeAt] <;> (repeat' split) <;> (try simp only [onward]) <;> first | rfl | contradiction | simp_all
theorem refRange_eq (i : Nat) (t : STask) (K : Nat) (hK : 7 ≤ K) : iter (punctualref_CheckSet.r5 i t) K 0 = some (leave () (firstOf (rangeAt i t) 6 0)) := by
  refine iter_first0 (f := punctualref_CheckSet.r5 i t) (rangeAt i t) 6 (t := ()) (fun j hj => ?_) (by simp [punctualref_CheckSet.r5]) (K := K) (by omega)
  have : j = 0 ∨ j = 1 ∨ j = 2 ∨ j = 3 ∨ j = 4 ∨ j = 5 := by omega
  rcases this with rfl | rfl | rfl | rfl | rfl | rfl <;> simp [punctualref_CheckSet.r5, punctualref_sixOf.f, punctualref_F.f, rangeAt] <;> (repeat' split) <;> (try simp only [onward]) <;> first | rfl | contradiction | simp_all
/-- what is wrong with the i-th task -/
noncomputable def wrongAt (l : List STask) (i : Nat) : Option SFault :=
  match l[i]? with
  | none => none
  | some t => if Good t.Name then (if dupAt l i t then some ⟨5, (i : Int)⟩ else match firstOf (rangeAt i t) 6 0 with | some r => some r | none => if t.C > t.D then some ⟨12, (i : Int)⟩ else none) else some ⟨4, (i : Int)⟩
/-- what is wrong with a set -/
noncomputable def setFault (l : List STask) : SFault := if 1 ≤ l.length ∧ l.length ≤ 8 then (firstOf (wrongAt l) l.length 0).getD ⟨0, 0⟩ else ⟨2, 0⟩
theorem Check_eq (l : List STask) (K : Nat) (hK : 20 ≤ K) : tasks_Check.f K l = some (setFault l) := by
  unfold tasks_Check.f tasks_Check.p0 setFault
  by_cases h1 : (l.length : Int) < 1
  · rw [if_pos h1, if_neg (by omega)]
  rw [if_neg h1]
  by_cases h2 : (l.length : Int) > 8
  · rw [if_pos h2, if_neg (by omega)]
  rw [if_neg h2, if_pos (by omega)]
  have hr := iter_first0 (f := tasks_Check.r1 K l) (wrongAt l) l.length (t := ()) (fun i hi => by
    have hi' : (i : Int) < (l.length : Int) := by omega
    have hle : i ≤ l.length := by omega
    simp only [tasks_Check.r1, if_pos hi', List.getElem?_eq_getElem hi, isName_eq _ K (by omega), contains_eq l i hi _ K (by omega), range_eq i _ K (by omega), wrongAt, if_pos hle, decide_eq_true_eq]
    by_cases hg : Good l[i].Name
    · simp only [if_pos hg]
      by_cases hd : dupAt l i l[i]
      · simp only [if_pos hd, onward]
      · simp only [if_neg hd]
        cases firstOf (rangeAt i l[i]) 6 0 with
        | some r => rfl
        | none =>
          simp only [leave]
          split <;> rfl
    · simp only [if_neg hg, onward]) (by simp [tasks_Check.r1]) (K := K) (by omega)
  simp only [hr]
  cases firstOf (wrongAt l) l.length 0 <;> rfl
theorem CheckSet_eq (l : List STask) (hl : ∀ t ∈ l, Ok.ok t) (K : Nat) (hK : 20 ≤ K) (hs : ∀ t ∈ l, t.Name.size < K) : punctualref_CheckSet.f K l = some (setFault l) := by
  unfold punctualref_CheckSet.f punctualref_CheckSet.p0 setFault
  by_cases h1 : (l.length : Int) = 0
  · rw [if_pos h1, if_neg (by omega)]; rfl
  rw [if_neg h1]
  by_cases h2 : (l.length : Int) > 8
  · rw [if_pos h2, if_neg (by omega)]; rfl
  rw [if_neg h2, if_pos (by omega)]
  have hr := iter_first0 (f := punctualref_CheckSet.r1 K l) (wrongAt l) l.length (t := ()) (fun i hi => by
    have hi' : (i : Int) < (l.length : Int) := by omega
    have hle : i ≤ l.length := by omega
    obtain ⟨q, hq1, hq2⟩ := refName_eq l[i] (hl _ (List.getElem_mem hi)) K (hs _ (List.getElem_mem hi))
    simp only [punctualref_CheckSet.r1, if_pos hi', List.getElem?_eq_getElem hi, hq1, hq2, refDup_eq l i hi _ K (by omega), refRange_eq i _ K (by omega), wrongAt, if_pos hle, decide_eq_true_eq]
    by_cases hg : Good l[i].Name
    · simp only [if_pos hg]
      by_cases hd : dupAt l i l[i]
      · simp only [if_pos hd, onward]
      · simp only [if_neg hd]
        cases firstOf (rangeAt i l[i]) 6 0 with
        | some r => rfl
        | none =>
          simp only [gt_iff_lt, leave]
          split <;> rfl
    · simp only [if_neg hg]; rfl) (by simp [punctualref_CheckSet.r1]) (K := K) (by omega)
  simp only [hr]
  cases firstOf (wrongAt l) l.length 0 <;> rfl
theorem setFault_ok {l : List STask} (h : (setFault l).Code = 0) : 1 ≤ l.length ∧ l.length ≤ 8 ∧ ∀ i t, l[i]? = some t → Good t.Name ∧ ¬ dupAt l i t ∧ (1 ≤ t.C ∧ t.C ≤ 10000) ∧ (1 ≤ t.T ∧ t.T ≤ 10000) ∧ (1 ≤ t.D ∧ t.D ≤ 10000) ∧ (0 ≤ t.J ∧ t.J ≤ 10000) ∧ (0 ≤ t.O ∧ t.O ≤ 10000) ∧ (0 ≤ t.P ∧ t.P ≤ 1000) ∧ t.C ≤ t.D := by
  unfold setFault at h
  split at h
  · rename_i hl
    refine ⟨hl.1, hl.2, fun i t ht => ?_⟩
    have hi := lt_of_get ht
    have hn : firstOf (wrongAt l) l.length 0 = none := by
      cases hf : firstOf (wrongAt l) l.length 0 with
      | none => rfl
      | some r =>
        rw [hf] at h
        obtain ⟨j, _, hj, hg, _⟩ := firstOf_some hf
        simp only [Option.getD_some] at h
        exfalso
        unfold wrongAt at hg
        rw [List.getElem?_eq_getElem hj] at hg
        simp only at hg
        split at hg
        · split at hg
          · cases hg; cases h
          · split at hg
            · rename_i r' hr'
              cases hg
              obtain ⟨q, _, hq, hg2, _⟩ := firstOf_some hr'
              unfold rangeAt at hg2
              repeat' split at hg2
              all_goals first | cases hg2; done | (cases hg2; cases h)
            · split at hg
              · cases hg; cases h
              · cases hg
        · cases hg; cases h
    have h0 := firstOf_none hn i (Nat.zero_le _) hi
    unfold wrongAt at h0
    rw [ht] at h0
    simp only at h0
    split at h0
    · rename_i hg
      split at h0
      · cases h0
      · rename_i hd
        split at h0
        · cases h0
        · rename_i hr
          split at h0
          · cases h0
          · rename_i hcd
            have hrr := firstOf_none hr
            have e0 := hrr 0 (by omega) (by omega)
            have e1 := hrr 1 (by omega) (by omega)
            have e2 := hrr 2 (by omega) (by omega)
            have e3 := hrr 3 (by omega) (by omega)
            have e4 := hrr 4 (by omega) (by omega)
            have e5 := hrr 5 (by omega) (by omega)
            simp only [rangeAt, List.getElem?_cons_zero, List.getElem?_cons_succ] at e0 e1 e2 e3 e4 e5
            refine ⟨hg, hd, ?_, ?_, ?_, ?_, ?_, ?_, by omega⟩
            · clear e1 e2 e3 e4 e5; split at e0; cases e0; split at e0; cases e0; omega
            · clear e0 e2 e3 e4 e5; split at e1; cases e1; split at e1; cases e1; omega
            · clear e1 e0 e3 e4 e5; split at e2; cases e2; split at e2; cases e2; omega
            · clear e1 e2 e0 e4 e5; split at e3; cases e3; split at e3; cases e3; omega
            · clear e1 e2 e3 e0 e5; split at e4; cases e4; split at e4; cases e4; omega
            · clear e1 e2 e3 e4 e0; split at e5; cases e5; split at e5; cases e5; omega
    · cases h0
  · cases h
theorem setFault_ok' {l : List STask} (h : (setFault l).Code = 0) : setFault l = ⟨0, 0⟩ := by
  unfold setFault at h ⊢
  split at h
  · rename_i hl
    rw [if_pos hl]
    cases hf : firstOf (wrongAt l) l.length 0 with
    | none => rfl
    | some r =>
      rw [hf] at h
      obtain ⟨j, _, hj, hg, _⟩ := firstOf_some hf
      simp only [Option.getD_some] at h
      exfalso
      unfold wrongAt at hg
      rw [List.getElem?_eq_getElem hj] at hg
      simp only at hg
      split at hg
      · split at hg
        · cases hg; cases h
        · split at hg
          · rename_i r' hr'
            cases hg
            obtain ⟨q, _, hq, hg2, _⟩ := firstOf_some hr'
            unfold rangeAt at hg2
            repeat' split at hg2
            all_goals first | cases hg2; done | (cases hg2; cases h)
          · split at hg
            · cases hg; cases h
            · cases hg
      · cases hg; cases h
  · cases h

/-- the last one ahead of i that is of task t -/
def lastOf (l : List SCome) (t : Int) : Nat → Option Nat
  | 0 => none
  | i + 1 => match l[i]? with
    | some c => if c.Task = t then some i else lastOf l t i
    | none => lastOf l t i
theorem lastOf_lt {l : List SCome} {t : Int} : ∀ {i k : Nat}, lastOf l t i = some k → k < i
  | 0, k, h => by cases h
  | i + 1, k, h => by
    simp only [lastOf] at h
    split at h
    · split at h
      · cases h; omega
      · have := lastOf_lt h; omega
    · have := lastOf_lt h; omega
theorem lastOf_task {l : List SCome} {t : Int} : ∀ {i k : Nat}, lastOf l t i = some k → ∃ c, l[k]? = some c ∧ c.Task = t
  | 0, k, h => by cases h
  | i + 1, k, h => by
    simp only [lastOf] at h
    split at h
    · rename_i c hc
      split at h
      · cases h; exact ⟨c, hc, by assumption⟩
      · exact lastOf_task h
    · exact lastOf_task h
/-- it comes sooner than the one ahead of it -/
def sooner (l1 : List SCome) (i : Nat) (c : SCome) : Prop := ∃ b, 0 < i ∧ l1[i - 1]? = some b ∧ c.At < b.At
noncomputable instance (l1 : List SCome) (i : Nat) (c : SCome) : Decidable (sooner l1 i c) := Classical.propDecidable _
theorem sooner_mk {l1 : List SCome} {i : Nat} {c b : SCome} (h0 : 0 < i) (hb : l1[i - 1]? = some b) (h : c.At < b.At) : sooner l1 i c := ⟨b, h0, hb, h⟩
/-- what is wrong with the i-th coming -/
noncomputable def comeAt (l0 : List STask) (l1 : List SCome) (i : Nat) : Option SFault :=
  match l1[i]? with
  | none => none
  | some c =>
    if c.Task < 0 ∨ c.Task ≥ (l0.length : Int) then some ⟨4, (i : Int)⟩
    else if c.At < 0 ∨ c.At > 20000 then some ⟨3, (i : Int)⟩
    else if sooner l1 i c then some ⟨12, (i : Int)⟩
    else match lastOf l1 c.Task i with
      | none => none
      | some k => match l1[k]?, l0[c.Task.toNat]? with
        | some b, some t => if c.At - b.At < t.T then some ⟨12, (i : Int)⟩ else none
        | _, _ => none
/-- what is wrong with comings -/
noncomputable def comesFault (l0 : List STask) (l1 : List SCome) : SFault :=
  if (setFault l0).Code = 0 then (if l1.length > 4000 then ⟨2, 0⟩ else (firstOf (comeAt l0 l1) l1.length 0).getD ⟨0, 0⟩) else setFault l0
theorem getD_leave {ρ : Type} (o : Option ρ) (d : ρ) : (match leave (τ := Unit) () o with | .inl _ => d | .inr r => r) = o.getD d := by cases o <;> rfl
/-- when each task may come next -/
def nexts (l0 : List STask) (l1 : List SCome) (i : Nat) : List Int :=
  (List.range l0.length).map fun (t : Nat) => match lastOf l1 (t : Int) i with
    | none => 0
    | some k => match l1[k]?, l0[t]? with
      | some b, some x => b.At + x.T
      | _, _ => 0
theorem nexts_len (l0 : List STask) (l1 : List SCome) (i : Nat) : (nexts l0 l1 i).length = l0.length := by simp [nexts]
theorem nexts_zero (l0 : List STask) (l1 : List SCome) : nexts l0 l1 0 = List.replicate l0.length (0 : Int) := by
  apply List.ext_getElem
  · simp [nexts]
  · intro i h1 h2
    simp [nexts, lastOf]
theorem comeAt_none {l0 : List STask} {l1 : List SCome} {i : Nat} {c : SCome} (hc : l1[i]? = some c) (h : comeAt l0 l1 i = none) : 0 ≤ c.Task ∧ c.Task < (l0.length : Int) ∧ 0 ≤ c.At ∧ c.At ≤ 20000 ∧ (∀ b, 0 < i → l1[i - 1]? = some b → b.At ≤ c.At) ∧
    (∀ k b t, lastOf l1 c.Task i = some k → l1[k]? = some b → l0[c.Task.toNat]? = some t → t.T ≤ c.At - b.At) := by
  unfold comeAt at h
  rw [hc] at h
  simp only at h
  split at h
  · cases h
  rename_i h1
  split at h
  · cases h
  rename_i h2
  split at h
  · cases h
  rename_i h3
  refine ⟨by omega, by omega, by omega, by omega, fun b hb hbb => ?_, fun k b t hk hb ht => ?_⟩
  · apply Int.not_lt.1
    intro hlt
    exact h3 (sooner_mk hb hbb hlt)
  · rw [hk] at h
    simp only [hb, ht] at h
    split at h
    · cases h
    · omega
theorem Legal_eq (l0 : List STask) (l1 : List SCome) (K : Nat) (hK : 4020 ≤ K) : tasks_Legal.f K l0 l1 = some (comesFault l0 l1) := by
  unfold tasks_Legal.f comesFault
  rw [Check_eq l0 K (by omega)]
  simp only
  by_cases hc : (setFault l0).Code = 0
  · rw [if_pos hc, if_pos hc]
    obtain ⟨hl1, hl8, hset⟩ := setFault_ok hc
    by_cases hlen : (l1.length : Int) > 4000
    · rw [if_pos hlen, if_pos (by omega)]
    rw [if_neg hlen, if_pos (show l0.length ≤ 17592186044416 by omega), if_neg (show ¬ l1.length > 4000 by omega), ← nexts_zero l0 l1]
    have hr := iter_states (f := tasks_Legal.r0 l0 l1) (fun i => (i, nexts l0 l1 i)) (comeAt l0 l1) l1.length (t := ()) (fun i hi hp => by
      have hi' : (i : Int) < (l1.length : Int) := by omega
      have hi4 : (i : Int) ≤ 4000 := by omega
      simp only [tasks_Legal.r0, if_pos hi', List.getElem?_eq_getElem hi]
      have hce : l1[i]? = some l1[i] := List.getElem?_eq_getElem hi
      generalize l1[i] = c at hce ⊢
      have hw : 0 < i → IntKind.i64.wrap ((i : Int) - 1) = ((i - 1 : Nat) : Int) := fun h0 => by rw [wrap64_small (by omega) (by omega)]; omega
      by_cases h1 : c.Task < 0 ∨ c.Task ≥ (l0.length : Int)
      · have hA : comeAt l0 l1 i = some ⟨4, (i : Int)⟩ := by simp only [comeAt, hce, if_pos h1]
        rw [hA]
        unfold tasks_Legal.p1
        by_cases h1' : c.Task < 0
        · rw [if_pos h1']; rfl
        · rw [if_neg h1', if_pos (by omega)]; rfl
      have h1a : ¬ c.Task < 0 := by omega
      have h1b : ¬ c.Task ≥ (l0.length : Int) := by omega
      by_cases h2 : c.At < 0 ∨ c.At > 20000
      · have hA : comeAt l0 l1 i = some ⟨3, (i : Int)⟩ := by simp only [comeAt, hce, if_neg h1, if_pos h2]
        rw [hA]
        unfold tasks_Legal.p1
        rw [if_neg h1a, if_neg h1b]
        by_cases h2' : c.At < 0
        · rw [if_pos h2']; rfl
        · rw [if_neg h2', if_pos (by omega)]; rfl
      have h2a : ¬ c.At < 0 := by omega
      have h2b : ¬ c.At > 20000 := by omega
      have h0t : 0 ≤ c.Task := by omega
      have htl : c.Task.toNat < l0.length := by omega
      have hnx : (nexts l0 l1 i)[c.Task.toNat]? = some (match lastOf l1 c.Task i with
          | none => 0
          | some k => match l1[k]?, l0[c.Task.toNat]? with
            | some b, some x => b.At + x.T
            | _, _ => 0) := by
        have : ((c.Task.toNat : Nat) : Int) = c.Task := Int.toNat_of_nonneg h0t
        simp only [nexts, List.getElem?_map, List.getElem?_range htl, Option.map_some, this]
      obtain ⟨x, hx⟩ : ∃ x, l0[c.Task.toNat]? = some x := ⟨l0[c.Task.toNat], List.getElem?_eq_getElem htl⟩
      obtain ⟨_, _, _, hxT, _⟩ := hset _ _ hx
      -- what the table says
      have htab : ∀ nx, (nexts l0 l1 i)[c.Task.toNat]? = some nx → ((c.At < nx) ↔ ∃ k b, lastOf l1 c.Task i = some k ∧ l1[k]? = some b ∧ c.At - b.At < x.T) := by
        intro nx hn
        rw [hnx] at hn
        have hn := Option.some.inj hn
        subst hn
        cases hk : lastOf l1 c.Task i with
        | none => simp only; constructor
                  · intro h; omega
                  · rintro ⟨k, b, h, _⟩; cases h
        | some k =>
          obtain ⟨b, hb, _⟩ := lastOf_task hk
          simp only [hb, hx]
          constructor
          · intro h; exact ⟨k, b, rfl, hb, by omega⟩
          · rintro ⟨k', b', h1, h2, h3⟩
            cases h1
            rw [hb] at h2
            cases h2
            omega
      obtain ⟨nx, hnx'⟩ : ∃ nx, (nexts l0 l1 i)[c.Task.toNat]? = some nx := ⟨_, hnx⟩
      have hP : tasks_Legal.p1 l0 l1 i (nexts l0 l1 i) c = some (if sooner l1 i c ∨ c.At < nx then .inr ⟨12, (i : Int)⟩ else .inl ()) := by
        unfold tasks_Legal.p1
        rw [if_neg h1a, if_neg h1b, if_neg h2a, if_neg h2b]
        by_cases hi0 : 0 < i
        · have hb : l1[i - 1]? = some l1[i - 1] := List.getElem?_eq_getElem (by omega)
          rw [if_pos (by omega), hw hi0, if_pos (by omega), Int.toNat_natCast, hb]
          simp only [if_pos h0t, hnx']
          by_cases hlt : c.At < l1[i - 1].At
          · rw [if_pos hlt, if_pos (.inl (sooner_mk hi0 hb hlt))]
          · rw [if_neg hlt]
            by_cases hn : c.At < nx
            · rw [if_pos hn, if_pos (.inr hn)]
            · rw [if_neg hn, if_neg]
              rintro (⟨b, _, hb', h⟩ | h)
              · rw [hb] at hb'; cases hb'; exact hlt h
              · exact hn h
        · rw [if_neg (by omega)]
          simp only [if_pos h0t, hnx']
          by_cases hn : c.At < nx
          · rw [if_pos hn, if_pos (.inr hn)]
          · rw [if_neg hn, if_neg]
            rintro (⟨b, h, _⟩ | h)
            · exact hi0 h
            · exact hn h
      rw [hP]
      by_cases hbad : sooner l1 i c ∨ c.At < nx
      · rw [if_pos hbad]
        have hA : comeAt l0 l1 i = some ⟨12, (i : Int)⟩ := by
          simp only [comeAt, hce, if_neg h1, if_neg h2]
          by_cases hb1 : sooner l1 i c
          · rw [if_pos hb1]
          · rw [if_neg hb1]
            rcases hbad with h | h
            · exact absurd h hb1
            · obtain ⟨k, b, hk, hb, h3⟩ := (htab nx hnx').1 h
              simp only [hk, hb, hx, if_pos h3]
        rw [hA]; rfl
      · rw [if_neg hbad]
        have hA : comeAt l0 l1 i = none := by
          simp only [comeAt, hce, if_neg h1, if_neg h2]
          rw [if_neg (fun h => hbad (.inl h))]
          cases hk : lastOf l1 c.Task i with
          | none => rfl
          | some k =>
            obtain ⟨b, hb, _⟩ := lastOf_task hk
            simp only [hb, hx]
            rw [if_neg]
            intro h3
            exact hbad (.inr ((htab nx hnx').2 ⟨k, b, hk, hb, h3⟩))
        rw [hA]
        simp only [if_pos h0t, hx, hnx', onwardS]
        congr 3
        -- the table's next state
        rw [wrap64_small (by omega) (by omega)]
        apply List.ext_getElem?
        intro q
        rw [List.getElem?_set, nexts_len]
        by_cases hq : c.Task.toNat = q
        · subst hq
          rw [if_pos rfl, if_pos htl]
          have hcast : ((c.Task.toNat : Nat) : Int) = c.Task := Int.toNat_of_nonneg h0t
          simp only [nexts, List.getElem?_map, List.getElem?_range htl, Option.map_some, hcast, lastOf, hce, if_true, hx]
        · rw [if_neg hq]
          have hne : ¬ c.Task = (q : Int) := fun h => hq (by omega)
          simp only [nexts, List.getElem?_map, lastOf, hce]
          by_cases hql : q < l0.length
          · rw [List.getElem?_range hql]
            simp only [Option.map_some, if_neg hne]
          · rw [List.getElem?_eq_none (by simp; omega)]; rfl) (fun _ => by simp [tasks_Legal.r0]) (K := K) (by omega)
    simp only [hr]
    cases firstOf (comeAt l0 l1) l1.length 0 <;> rfl
  · rw [if_neg hc, if_neg hc]
/-- the i-th job -/
def jobOf (l0 : List STask) (l1 : List SCome) (l2 l3 : List Int) (i : Nat) : SJob :=
  match l1[i]?, l2[i]?, l3[i]? with
  | some c, some a, some b => match l0[c.Task.toNat]? with
    | some t => ⟨c.Task, c.At + a, b, c.At + t.D, t.P⟩
    | none => ⟨0, 0, 0, 0, 0⟩
  | _, _, _ => ⟨0, 0, 0, 0, 0⟩
/-- what is wrong with the i-th job -/
def jobAt (l0 : List STask) (l1 : List SCome) (l2 l3 : List Int) (i : Nat) : Option SFault :=
  match l1[i]?, l2[i]?, l3[i]? with
  | some c, some a, some b => match l0[c.Task.toNat]? with
    | some t => if a < 0 ∨ a > t.J ∨ b < 1 ∨ b > t.C then some ⟨3, (i : Int)⟩ else none
    | none => none
  | _, _, _ => none
def jobsTill (l0 : List STask) (l1 : List SCome) (l2 l3 : List Int) (i : Nat) : List SJob := (List.range i).map (jobOf l0 l1 l2 l3)
/-- the jobs, or what is wrong -/
noncomputable def jobsOf (l0 : List STask) (l1 : List SCome) (l2 l3 : List Int) : List SJob × SFault :=
  if (comesFault l0 l1).Code = 0 then
    (if l2.length = l1.length ∧ l3.length = l1.length then
      (match firstOf (jobAt l0 l1 l2 l3) l1.length 0 with
      | some f => ([], f)
      | none => (jobsTill l0 l1 l2 l3 l1.length, ⟨0, 0⟩))
    else ([], ⟨2, 0⟩))
  else ([], comesFault l0 l1)
theorem comesFault_ok {l0 : List STask} {l1 : List SCome} (h : (comesFault l0 l1).Code = 0) : (setFault l0).Code = 0 ∧ l1.length ≤ 4000 ∧ ∀ i, i < l1.length → comeAt l0 l1 i = none := by
  unfold comesFault at h
  split at h
  · rename_i hs
    split at h
    · cases h
    · rename_i hl
      refine ⟨hs, by omega, fun i hi => ?_⟩
      cases hf : firstOf (comeAt l0 l1) l1.length 0 with
      | none => exact firstOf_none hf i (Nat.zero_le _) hi
      | some r =>
        rw [hf] at h
        obtain ⟨j, _, hj, hg, _⟩ := firstOf_some hf
        simp only [Option.getD_some] at h
        exfalso
        unfold comeAt at hg
        rw [List.getElem?_eq_getElem hj] at hg
        simp only at hg
        repeat' split at hg
        all_goals first | (cases hg; done) | (cases hg; cases h)
  · contradiction
theorem Jobs_eq0 (l0 : List STask) (l1 : List SCome) (l2 l3 : List Int) (K : Nat) (hK : 4020 ≤ K) : tasks_Jobs.f K l0 l1 l2 l3 = some (jobsOf l0 l1 l2 l3) := by
  unfold tasks_Jobs.f jobsOf
  rw [Legal_eq l0 l1 K hK]
  simp only
  by_cases hc : (comesFault l0 l1).Code = 0
  · rw [if_pos hc, if_pos hc]
    obtain ⟨hs, hl, hcomes⟩ := comesFault_ok hc
    obtain ⟨_, hl8, hset⟩ := setFault_ok hs
    unfold tasks_Jobs.p0
    by_cases hla : (l2.length : Int) = (l1.length : Int)
    · rw [if_pos hla]
      by_cases hlb : (l3.length : Int) = (l1.length : Int)
      · rw [if_pos hlb, if_pos (by omega)]
        have hr := iter_states (f := tasks_Jobs.r1 l0 l1 l2 l3) (fun i => (jobsTill l0 l1 l2 l3 i, i)) (fun i => (jobAt l0 l1 l2 l3 i).map fun f => (([] : List SJob), f)) l1.length (t := jobsTill l0 l1 l2 l3 l1.length) (fun i hi hp => by
          have hi' : (i : Int) < (l1.length : Int) := by omega
          have hi2 : i < l2.length := by omega
          have hi3 : i < l3.length := by omega
          have hc1 : l1[i]? = some l1[i] := List.getElem?_eq_getElem hi
          obtain ⟨ht0, ht1, ha0, ha1, _⟩ := comeAt_none hc1 (hcomes i hi)
          obtain ⟨t, ht⟩ : ∃ t, l0[l1[i].Task.toNat]? = some t := ⟨l0[l1[i].Task.toNat]'(by omega), List.getElem?_eq_getElem (by omega)⟩
          obtain ⟨_, _, htC, htT, htD, htJ, _⟩ := hset _ _ ht
          have hJ : jobAt l0 l1 l2 l3 i = if l2[i] < 0 ∨ l2[i] > t.J ∨ l3[i] < 1 ∨ l3[i] > t.C then some ⟨3, (i : Int)⟩ else none := by
            simp only [jobAt, hc1, List.getElem?_eq_getElem hi2, List.getElem?_eq_getElem hi3, ht]
          have hP : tasks_Jobs.p2 l2 l3 i t = some (if l2[i] < 0 ∨ l2[i] > t.J ∨ l3[i] < 1 ∨ l3[i] > t.C then .inr ([], ⟨3, (i : Int)⟩) else .inl ()) := by
            simp only [tasks_Jobs.p2, List.getElem?_eq_getElem hi2, List.getElem?_eq_getElem hi3]
            by_cases h1 : l2[i] < 0
            · rw [if_pos h1, if_pos (.inl h1)]
            rw [if_neg h1]
            by_cases h2 : l2[i] > t.J
            · rw [if_pos h2, if_pos (.inr (.inl h2))]
            rw [if_neg h2]
            by_cases h3 : l3[i] < 1
            · rw [if_pos h3, if_pos (.inr (.inr (.inl h3)))]
            rw [if_neg h3]
            by_cases h4 : l3[i] > t.C
            · rw [if_pos h4, if_pos (.inr (.inr (.inr h4)))]
            rw [if_neg h4, if_neg (by omega)]
          have hlen : (jobsTill l0 l1 l2 l3 i).length < 3518437208883 := by simp [jobsTill]; omega
          simp only [tasks_Jobs.r1, if_pos hi', hc1, if_pos ht0, ht, hP, hJ, List.getElem?_eq_getElem hi2, List.getElem?_eq_getElem hi3]
          by_cases hbad : l2[i] < 0 ∨ l2[i] > t.J ∨ l3[i] < 1 ∨ l3[i] > t.C
          · simp only [if_pos hbad]; rfl
          simp only [if_neg hbad, if_pos hlen, Option.map_none, onwardS]
          congr 3
          rw [wrap64_small (by omega) (by omega), wrap64_small (by omega) (by omega)]
          unfold jobsTill
          rw [List.range_succ, List.map_append]
          congr 1
          simp only [List.map_cons, List.map_nil, jobOf, hc1, List.getElem?_eq_getElem hi2, List.getElem?_eq_getElem hi3, ht]) (fun _ => by simp [tasks_Jobs.r1]) (K := K) (by omega)
        have h0 : jobsTill l0 l1 l2 l3 0 = [] := rfl
        simp only [h0] at hr
        simp only [hr]
        rw [firstOf_map]
        cases firstOf (jobAt l0 l1 l2 l3) l1.length 0 <;> rfl
      · rw [if_neg hlb, if_neg (by omega)]
    · rw [if_neg hla, if_neg (by omega)]
  · rw [if_neg hc, if_neg hc]
theorem Jobs_eq (l0 : List STask) (l1 : List SCome) (l2 l3 : List Int) (K : Nat) (hK : 4020 ≤ K) (h2 : l2.length ≤ 5000) (h3 : l3.length ≤ 5000) : tasks_Jobs.f K l0 l1 l2 l3 = some (jobsOf l0 l1 l2 l3) := Jobs_eq0 l0 l1 l2 l3 K hK
/-- what a task of a set is -/
structure Okt (t : STask) : Prop where
  C : 1 ≤ t.C ∧ t.C ≤ 10000
  T : 1 ≤ t.T ∧ t.T ≤ 10000
  D : 1 ≤ t.D ∧ t.D ≤ 10000
  J : 0 ≤ t.J ∧ t.J ≤ 10000
  O : 0 ≤ t.O ∧ t.O ≤ 10000
  P : 0 ≤ t.P ∧ t.P ≤ 1000
  CD : t.C ≤ t.D
theorem okt_of {l : List STask} (h : (setFault l).Code = 0) : ∀ t ∈ l, Okt t := fun t ht => by
  obtain ⟨i, hi⟩ := List.mem_iff_getElem?.1 ht
  obtain ⟨_, _, h⟩ := setFault_ok h
  obtain ⟨_, _, h1, h2, h3, h4, h5, h6, h7⟩ := h i t hi
  exact ⟨h1, h2, h3, h4, h5, h6, h7⟩
/-- a over b, rounded up -/
def ceilD (a b : Int) : Int := (a + b - 1) / b
theorem ceilD_mono {a a' b : Int} (hb : 1 ≤ b) (h : a ≤ a') : ceilD a b ≤ ceilD a' b := Int.ediv_le_ediv (by omega) (by omega)
theorem ceilD_nonneg {a b : Int} (hb : 1 ≤ b) (h : 0 ≤ a) : 0 ≤ ceilD a b := Int.ediv_nonneg (by omega) (by omega)
theorem ceilD_le {a b : Int} (hb : 1 ≤ b) (h : 0 ≤ a) : ceilD a b ≤ a := by
  unfold ceilD
  rw [← Int.lt_add_one_iff]
  apply Int.ediv_lt_of_lt_mul (by omega)
  have : a * 1 ≤ a * b := Int.mul_le_mul_of_nonneg_left hb h
  rw [Int.add_mul]
  omega
theorem ceil_eq {a b : Int} (ha : 0 ≤ a ∧ a ≤ 100000) (hb : 1 ≤ b ∧ b ≤ 100000) : fixed_ceil.f a b = some (ceilD a b) := by
  unfold fixed_ceil.f
  rw [if_neg (by omega), wrap64_small (n := a + b) (by omega) (by omega), wrap64_small (n := a + b - 1) (by omega) (by omega), Int.tdiv_eq_ediv_of_nonneg (by omega)]
  have h1 := ceilD_nonneg hb.1 ha.1
  have h2 := ceilD_le hb.1 ha.1
  show some (IntKind.i64.wrap (ceilD a b)) = _
  rw [wrap64_small (by omega) (by omega)]
/-- what others want in so many ticks -/
def wants (os : List STask) (w : Int) : Int := (os.map fun o => ceilD (w + o.J) o.T * o.C).sum
def dem (t : STask) (b : Int) (os : List STask) (w : Int) : Int := t.C + b + wants os w
theorem wants_nil (w : Int) : wants [] w = 0 := rfl
theorem wants_cons (o : STask) (os : List STask) (w : Int) : wants (o :: os) w = ceilD (w + o.J) o.T * o.C + wants os w := by simp [wants]
theorem wants_append (os ps : List STask) (w : Int) : wants (os ++ ps) w = wants os w + wants ps w := by simp [wants]
theorem want_bounds {o : STask} (ho : Okt o) {w : Int} (hw : 0 ≤ w ∧ w ≤ 10000) : 0 ≤ ceilD (w + o.J) o.T * o.C ∧ ceilD (w + o.J) o.T * o.C ≤ 200000000 := by
  have := ho.C; have := ho.T; have := ho.J
  have h1 := ceilD_nonneg (a := w + o.J) (b := o.T) (by omega) (by omega)
  have h2 := ceilD_le (a := w + o.J) (b := o.T) (by omega) (by omega)
  refine ⟨Int.mul_nonneg h1 (by omega), ?_⟩
  calc ceilD (w + o.J) o.T * o.C ≤ 20000 * o.C := Int.mul_le_mul_of_nonneg_right (by omega) (by omega)
    _ ≤ 20000 * 10000 := Int.mul_le_mul_of_nonneg_left (by omega) (by omega)
    _ = 200000000 := by decide
theorem wants_bounds : ∀ {os : List STask}, (∀ o ∈ os, Okt o) → ∀ {w : Int}, (0 ≤ w ∧ w ≤ 10000) → 0 ≤ wants os w ∧ wants os w ≤ 200000000 * os.length
  | [], _, w, _ => by simp [wants_nil]
  | o :: os, h, w, hw => by
    have h1 := want_bounds (h o (by simp)) hw
    have h2 := wants_bounds (fun x hx => h x (List.mem_cons_of_mem _ hx)) hw
    rw [wants_cons, List.length_cons]
    omega
theorem wants_mono : ∀ {os : List STask}, (∀ o ∈ os, Okt o) → ∀ {w w' : Int}, w ≤ w' → wants os w ≤ wants os w'
  | [], _, w, w', _ => by simp [wants_nil]
  | o :: os, h, w, w', hw => by
    have ho := h o (by simp)
    have h2 := wants_mono (fun x hx => h x (List.mem_cons_of_mem _ hx)) hw
    have h1 : ceilD (w + o.J) o.T * o.C ≤ ceilD (w' + o.J) o.T * o.C := Int.mul_le_mul_of_nonneg_right (ceilD_mono ho.T.1 (by omega)) (by have := ho.C; omega)
    rw [wants_cons, wants_cons]
    omega
/-- the least n, 1 at least, in which all is done that is wanted; 0: there is none up to most -/
def settled (f : Int → Int) (most : Int) : Int := match firstOf (fun n : Nat => if f n ≤ n then some (n : Int) else none) (most.toNat + 1) 1 with
  | some n => n
  | none => 0
theorem settled_some {f : Int → Int} {most : Int} {j : Nat} (h : firstOf (fun n : Nat => if f n ≤ n then some (n : Int) else none) (most.toNat + 1) 1 = some (j : Int)) : settled f most = j := by unfold settled; rw [h]
theorem settled_none {f : Int → Int} {most : Int} (h : firstOf (fun n : Nat => if f n ≤ n then some (n : Int) else none) (most.toNat + 1) 1 = none) : settled f most = 0 := by unfold settled; rw [h]
theorem settled_pos {f : Int → Int} {most : Int} (h : settled f most ≠ 0) : 1 ≤ settled f most ∧ settled f most ≤ most ∧ f (settled f most) ≤ settled f most ∧ ∀ n : Int, 1 ≤ n → n < settled f most → n < f n := by
  cases hf : firstOf (fun n : Nat => if f n ≤ n then some (n : Int) else none) (most.toNat + 1) 1 with
  | none => exact absurd (settled_none hf) h
  | some r =>
    obtain ⟨j, h1, h2, h3, h4⟩ := firstOf_some hf
    split at h3
    · cases h3
      rw [settled_some hf]
      refine ⟨by omega, by omega, by assumption, fun n hn1 hn2 => ?_⟩
      have := h4 n.toNat (by omega) (by omega)
      have e : ((n.toNat : Nat) : Int) = n := Int.toNat_of_nonneg (by omega)
      simp only [e] at this
      split at this
      · cases this
      · omega
    · cases h3
theorem settled_zero {f : Int → Int} {most : Int} (h : settled f most = 0) : ∀ n : Int, 1 ≤ n → n ≤ most → n < f n := by
  cases hf : firstOf (fun n : Nat => if f n ≤ n then some (n : Int) else none) (most.toNat + 1) 1 with
  | some r =>
    obtain ⟨j, h1, h2, h3, h4⟩ := firstOf_some hf
    split at h3
    · cases h3; rw [settled_some hf] at h; omega
    · cases h3
  | none =>
    intro n h1 h2
    have := firstOf_none hf n.toNat (by omega) (by omega)
    have e : ((n.toNat : Nat) : Int) = n := Int.toNat_of_nonneg (by omega)
    simp only [e] at this
    split at this
    · cases this
    · omega
theorem settled_eq {f : Int → Int} {most w : Int} (h1 : 1 ≤ w) (h2 : w ≤ most) (h3 : f w ≤ w) (h4 : ∀ n : Int, 1 ≤ n → n < w → n < f n) : settled f most = w := by
  by_cases h : settled f most = 0
  · have := settled_zero h w h1 h2; omega
  · obtain ⟨g1, g2, g3, g4⟩ := settled_pos h
    rcases Int.lt_trichotomy (settled f most) w with hl | hl | hl
    · have := h4 _ g1 hl; omega
    · exact hl
    · have := g4 _ h1 hl; omega
theorem settled_eq_zero {f : Int → Int} {most : Int} (h : ∀ n : Int, 1 ≤ n → n ≤ most → n < f n) : settled f most = 0 := by
  apply Decidable.byContradiction
  intro hne
  obtain ⟨g1, g2, g3, g4⟩ := settled_pos hne
  have := h _ g1 g2
  omega
theorem demand_eq (t : STask) (b : Int) (os : List STask) (w : Int) (ht : Okt t) (hb : 0 ≤ b ∧ b ≤ 10000) (ho : ∀ o ∈ os, Okt o) (hl : os.length ≤ 8) (hw : 0 ≤ w ∧ w ≤ 10000) (K : Nat) (hK : 9 ≤ K) : fixed_response_1.f K w t b os = some (dem t b os w) := by
  unfold fixed_response_1.f
  have hC := ht.C
  have hr := iter_states (ρ := Int) (f := fixed_response_1.r0 w os) (fun i => (t.C + b + wants (os.take i) w, i)) (fun _ => none) os.length (t := dem t b os w) (fun i hi _ => by
    have hi' : (i : Int) < (os.length : Int) := by omega
    have hoi := ho os[i] (List.getElem_mem hi)
    have hT := hoi.T; have hJ := hoi.J
    have hwb := want_bounds hoi hw
    have hs := wants_bounds (os := os.take i) (fun o h => ho o (List.mem_of_mem_take h)) hw
    have hlen : (os.take i).length ≤ 8 := by simp; omega
    simp only [fixed_response_1.r0, if_pos hi', List.getElem?_eq_getElem hi]
    rw [wrap64_small (n := w + os[i].J) (by omega) (by omega), ceil_eq (by omega) (by omega)]
    simp only [onwardS]
    rw [wrap64_small (n := ceilD (w + os[i].J) os[i].T * os[i].C) (by omega) (by omega), wrap64_small (by omega) (by omega)]
    congr 3
    rw [List.take_succ_eq_append_getElem hi, wants_append, wants_cons, wants_nil]
    omega) (fun _ => by simp [fixed_response_1.r0, dem]) (K := K) (by omega)
  have h0 : t.C + b + wants (os.take 0) w = t.C + b := by simp [wants_nil]
  rw [h0] at hr
  rw [wrap64_small (by omega) (by omega), hr, firstOf_none_of (fun _ _ _ => rfl)]
  rfl
theorem dem_mono {t : STask} {b : Int} {os : List STask} (ho : ∀ o ∈ os, Okt o) {w w' : Int} (h : w ≤ w') : dem t b os w ≤ dem t b os w' := by
  have := wants_mono ho h
  unfold dem; omega
theorem settle_eq (t : STask) (b : Int) (os : List STask) (ht : Okt t) (hb : 0 ≤ b ∧ b ≤ 10000) (ho : ∀ o ∈ os, Okt o) (hl : os.length ≤ 8) (most : Int) (hm : most ≤ 10000) (K : Nat) (hK : 20100 ≤ K) : fixed_Settle.f K (t.C + b) most t b os = some (settled (dem t b os) most) := by
  unfold fixed_Settle.f
  have hC := ht.C
  obtain ⟨r, hr, hR⟩ := iter_total (f := fixed_Settle.r0 K most t b os) (fun w => t.C + b ≤ w ∧ w ≤ 1600000000 + 20000 ∧ ∀ n : Int, 1 ≤ n → n < w → n < dem t b os n) (fun w => (10001 - w).toNat)
    (fun r => r = if settled (dem t b os) most = 0 then .inl () else .inr (settled (dem t b os) most)) (fun w hI => by
      obtain ⟨h1, h2, h3⟩ := hI
      by_cases hw : w ≤ most
      · have hd := demand_eq t b os w ht hb ho hl ⟨by omega, by omega⟩ K (by omega)
        simp only [fixed_Settle.r0, if_pos hw, hd]
        by_cases hle : dem t b os w ≤ w
        · right
          have hs := settled_eq (f := dem t b os) (most := most) (by omega) hw hle h3
          refine ⟨_, by rw [if_pos hle], ?_⟩
          rw [hs, if_neg (by omega)]
        · left
          have hwb := wants_bounds ho (w := w) ⟨by omega, by omega⟩
          refine ⟨_, by rw [if_neg hle], ⟨by unfold dem; omega, by unfold dem; omega, fun n hn1 hn2 => ?_⟩, by omega⟩
          by_cases hnw : n < w
          · exact h3 n hn1 hnw
          · have := dem_mono (t := t) (b := b) ho (w := w) (w' := n) (by omega)
            omega
      · right
        refine ⟨.inl (), by simp only [fixed_Settle.r0, if_neg hw], ?_⟩
        rw [settled_eq_zero (fun n h1 h2 => h3 n h1 (by omega)), if_pos rfl]) K (t.C + b) ⟨Int.le_refl _, by omega, fun n h1 h2 => by
          by_cases hn : n ≤ 10000
          · have := wants_bounds ho (w := n) ⟨by omega, hn⟩
            unfold dem; omega
          · have := wants_mono ho (w := 10000) (w' := n) (by omega)
            have := wants_bounds ho (w := 10000) ⟨by omega, by omega⟩
            unfold dem; omega⟩ (by omega)
  rw [hr, hR]
  by_cases h : settled (dem t b os) most = 0
  · rw [if_pos h, h]
  · rw [if_neg h]
/-- how long a task takes; 0: too long -/
def respond (t : STask) (os : List STask) (b : Int) : Int := if settled (dem t b os) (t.D - t.J) = 0 then 0 else settled (dem t b os) (t.D - t.J) + t.J
theorem response_eq (t : STask) (b : Int) (os : List STask) (ht : Okt t) (hb : 0 ≤ b ∧ b ≤ 10000) (ho : ∀ o ∈ os, Okt o) (hl : os.length ≤ 8) (K : Nat) (hK : 20100 ≤ K) : fixed_response.f K t os b = some (respond t os b) := by
  have hC := ht.C; have hD := ht.D; have hJ := ht.J
  unfold fixed_response.f
  rw [wrap64_small (n := t.C + b) (by omega) (by omega), wrap64_small (n := t.D - t.J) (by omega) (by omega), settle_eq t b os ht hb ho hl _ (by omega) K hK]
  simp only
  unfold respond
  by_cases h : settled (dem t b os) (t.D - t.J) = 0
  · rw [if_pos h, if_pos h]
  · rw [if_neg h, if_neg h]
    have := settled_pos h
    rw [wrap64_small (by omega) (by omega)]
/-- what is wrong with a set whose tasks must be done ere they come again -/
noncomputable def fixedFault (l : List STask) : SFault :=
  if (setFault l).Code = 0 then (firstOf (fun i => match l[i]? with | some t => if t.D > t.T then some ⟨12, (i : Int)⟩ else none | none => none) l.length 0).getD ⟨0, 0⟩ else setFault l
theorem fixedFault_ok {l : List STask} (h : (fixedFault l).Code = 0) : (setFault l).Code = 0 ∧ fixedFault l = ⟨0, 0⟩ ∧ ∀ t ∈ l, t.D ≤ t.T := by
  unfold fixedFault at h ⊢
  split at h
  · rename_i hs
    cases hf : firstOf (fun i => match l[i]? with | some t => if t.D > t.T then some (⟨12, (i : Int)⟩ : SFault) else none | none => none) l.length 0 with
    | none =>
      refine ⟨hs, by rw [if_pos hs]; rfl, fun t ht => ?_⟩
      obtain ⟨i, hi⟩ := List.mem_iff_getElem?.1 ht
      have := firstOf_none hf i (Nat.zero_le _) (lt_of_get hi)
      simp only [hi] at this
      split at this
      · cases this
      · omega
    | some r =>
      rw [hf] at h
      obtain ⟨j, _, hj, hg, _⟩ := firstOf_some hf
      simp only [Option.getD_some] at h
      exfalso
      split at hg
      · split at hg
        · cases hg; cases h
        · cases hg
      · cases hg
  · contradiction
theorem check_eq (l : List STask) (K : Nat) (hK : 20 ≤ K) : fixed_check.f K l = some (fixedFault l) := by
  unfold fixed_check.f fixedFault
  rw [Check_eq l K hK]
  simp only
  by_cases h : (setFault l).Code = 0
  · rw [if_pos h, if_pos h]
    have hl := (setFault_ok h).2.1
    have hr := iter_first0 (f := fixed_check.r0 l) (fun i => match l[i]? with | some t => if t.D > t.T then some ⟨12, (i : Int)⟩ else none | none => none) l.length (t := ()) (fun i hi => by
      have hi' : (i : Int) < (l.length : Int) := by omega
      simp only [fixed_check.r0, if_pos hi', List.getElem?_eq_getElem hi]
      split <;> rfl) (by simp [fixed_check.r0]) (K := K) (by omega)
    rw [hr]
    cases firstOf (fun i => match l[i]? with | some t => if t.D > t.T then some (⟨12, (i : Int)⟩ : SFault) else none | none => none) l.length 0 <;> rfl
  · rw [if_neg h, if_neg h]
theorem CheckFixed_eq (l : List STask) (hl : ∀ t ∈ l, Ok.ok t) (K : Nat) (hK : 20 ≤ K) (hs : ∀ t ∈ l, t.Name.size < K) : punctualref_CheckFixed.f K l = some (fixedFault l) := by
  rw [← check_eq l K hK]
  unfold punctualref_CheckFixed.f fixed_check.f
  rw [CheckSet_eq l hl K hK hs, Check_eq l K hK]
  rfl
/-- those that go ahead of task i, up to place n -/
def aboveTill (l : List STask) (i : Nat) (n : Nat) : List STask := (List.range n).filterMap fun k => match l[k]?, l[i]? with
  | some a, some b => if k ≠ i ∧ a.P ≥ b.P then some a else none
  | _, _ => none
abbrev aboveOf (l : List STask) (i : Nat) : List STask := aboveTill l i l.length
theorem aboveTill_len (l : List STask) (i n : Nat) : (aboveTill l i n).length ≤ n := by
  unfold aboveTill
  exact Nat.le_trans (List.length_filterMap_le _ _) (by simp)
theorem aboveTill_mem {l : List STask} {i n : Nat} {a : STask} (h : a ∈ aboveTill l i n) : a ∈ l := by
  unfold aboveTill at h
  obtain ⟨k, _, hk⟩ := List.mem_filterMap.1 h
  split at hk
  · rename_i x y hx hy
    split at hk
    · cases hk; exact List.mem_of_getElem? hx
    · cases hk
  · cases hk
theorem aboveTill_succ {l : List STask} {i n : Nat} {a b : STask} (ha : l[n]? = some a) (hb : l[i]? = some b) : aboveTill l i (n + 1) = aboveTill l i n ++ (if n ≠ i ∧ a.P ≥ b.P then [a] else []) := by
  unfold aboveTill
  rw [List.range_succ, List.filterMap_append]
  congr 1
  simp only [List.filterMap_cons, List.filterMap_nil, ha, hb]
  split <;> rename_i h <;> split at h <;> simp_all
theorem above_eq (l : List STask) (i : Nat) (hi : i < l.length) (hl : l.length ≤ 8) (K : Nat) (hK : 9 ≤ K) : fixed_above.f K l (i : Int) = some (aboveOf l i) := by
  unfold fixed_above.f
  have hr := iter_states (ρ := List STask) (f := fixed_above.r0 l (i : Int)) (fun k => (aboveTill l i k, k)) (fun _ => none) l.length (t := aboveOf l i) (fun k hk _ => by
    have hk' : (k : Int) < (l.length : Int) := by omega
    have hlen := aboveTill_len l i k
    rw [aboveTill_succ (List.getElem?_eq_getElem hk) (List.getElem?_eq_getElem hi)]
    simp only [fixed_above.r0, if_pos hk', List.getElem?_eq_getElem hk, Int.toNat_natCast, List.getElem?_eq_getElem hi, onwardS]
    by_cases h1 : (k : Int) = (i : Int)
    · rw [if_pos h1, if_neg (by omega), List.append_nil]
    · rw [if_neg h1, if_pos (by omega)]
      by_cases h2 : l[k].P ≥ l[i].P
      · rw [if_pos h2, if_pos (by omega), if_pos ⟨by omega, h2⟩]
      · rw [if_neg h2, if_neg (fun h => h2 h.2), List.append_nil]) (fun _ => by simp [fixed_above.r0]) (K := K) (by omega)
  have h0 : aboveTill l i 0 = [] := rfl
  rw [h0, firstOf_none_of (fun _ _ _ => rfl)] at hr
  rw [hr]; rfl
/-- how long task i of a set takes at worst -/
noncomputable def respOf (l : List STask) (i b : Int) : Int × SFault :=
  if (fixedFault l).Code = 0 then
    (if i < 0 ∨ i ≥ (l.length : Int) ∨ b < 0 ∨ b > 10000 then (0, ⟨3, 0⟩)
    else match l[i.toNat]? with
      | none => (0, ⟨3, 0⟩)
      | some t => if respond t (aboveOf l i.toNat) b = 0 then (0, ⟨13, i⟩) else (respond t (aboveOf l i.toNat) b, ⟨0, 0⟩))
  else (0, fixedFault l)
theorem Response_eq (l : List STask) (i b : Int) (K : Nat) (hK : 20100 ≤ K) : fixed_Response.f K l i b = some (respOf l i b) := by
  unfold fixed_Response.f respOf
  rw [check_eq l K (by omega)]
  simp only
  by_cases hc : (fixedFault l).Code = 0
  · rw [if_pos hc, if_pos hc]
    have hs := (fixedFault_ok hc).1
    have hl := (setFault_ok hs).2.1
    have hp : fixed_Response.p0 l i b = some (.inl (decide (i < 0 ∨ i ≥ (l.length : Int) ∨ b < 0 ∨ b > 10000))) := by
      unfold fixed_Response.p0
      by_cases h1 : i < 0
      · rw [if_pos h1, decide_eq_true (.inl h1)]
      rw [if_neg h1]
      by_cases h2 : i ≥ (l.length : Int)
      · rw [if_pos h2, decide_eq_true (.inr (.inl h2))]
      rw [if_neg h2]
      by_cases h3 : b < 0
      · rw [if_pos h3, decide_eq_true (.inr (.inr (.inl h3)))]
      rw [if_neg h3]
      congr 2
      rw [Bool.eq_iff_iff, decide_eq_true_eq, decide_eq_true_eq]
      omega
    simp only [hp, decide_eq_true_eq]
    by_cases hbad : i < 0 ∨ i ≥ (l.length : Int) ∨ b < 0 ∨ b > 10000
    · rw [if_pos hbad, if_pos hbad]
    · rw [if_neg hbad, if_neg hbad, if_pos (by omega)]
      have hi : i.toNat < l.length := by omega
      have hcast : ((i.toNat : Nat) : Int) = i := Int.toNat_of_nonneg (by omega)
      have ha := above_eq l i.toNat hi hl K (by omega)
      rw [hcast] at ha
      have hok := okt_of hs
      have hlen := aboveTill_len l i.toNat l.length
      simp only [List.getElem?_eq_getElem hi, ha, response_eq _ b _ (hok _ (List.getElem_mem hi)) ⟨by omega, by omega⟩ (fun o ho => hok o (aboveTill_mem ho)) (Nat.le_trans hlen hl) K hK]
      split <;> rfl
  · rw [if_neg hc, if_neg hc]
/-- the first ones of what all take -/
noncomputable def respTill (l : List STask) (bs : List Int) (n : Nat) : List Int := (List.range n).map fun (i : Nat) => match bs[i]? with | some b => (respOf l (i : Int) b).1 | none => 0
noncomputable def respAt (l : List STask) (bs : List Int) (i : Nat) : Option SFault := match bs[i]? with | some b => if (respOf l (i : Int) b).2.Code = 0 then none else some (respOf l (i : Int) b).2 | none => none
noncomputable def respsOf (l : List STask) (bs : List Int) : List Int × SFault :=
  if (fixedFault l).Code = 0 then
    (if bs.length = l.length then
      (match firstOf (respAt l bs) l.length 0 with
      | some f => ([], f)
      | none => (respTill l bs l.length, ⟨0, 0⟩))
    else ([], ⟨2, 0⟩))
  else ([], fixedFault l)
theorem Responses_eq (l : List STask) (bs : List Int) (K : Nat) (hK : 20100 ≤ K) : fixed_Responses.f K l bs = some (respsOf l bs) := by
  unfold fixed_Responses.f respsOf
  rw [check_eq l K (by omega)]
  simp only
  by_cases hc : (fixedFault l).Code = 0
  · rw [if_pos hc, if_pos hc]
    have hl := (setFault_ok (fixedFault_ok hc).1).2.1
    by_cases hlen : (bs.length : Int) = (l.length : Int)
    · rw [if_pos hlen, if_pos (by omega)]
      have hr := iter_states (f := fixed_Responses.r0 K l bs) (fun k => (respTill l bs k, k)) (fun i => (respAt l bs i).map fun f => (([] : List Int), f)) l.length (t := respTill l bs l.length) (fun i hi _ => by
        have hi' : (i : Int) < (bs.length : Int) := by omega
        have hib : i < bs.length := by omega
        have hlt : (respTill l bs i).length < 17592186044416 := by simp [respTill]; omega
        simp only [fixed_Responses.r0, if_pos hi', List.getElem?_eq_getElem hib, Response_eq l _ _ K hK, respAt]
        by_cases h0 : (respOf l (i : Int) bs[i]).2.Code = 0
        · simp only [if_pos h0, if_pos hlt, Option.map_none, onwardS]
          congr 3
          unfold respTill
          rw [List.range_succ, List.map_append]
          congr 1
          simp only [List.map_cons, List.map_nil, List.getElem?_eq_getElem hib]
        · simp only [if_neg h0]; rfl) (fun _ => by simp [fixed_Responses.r0, hlen]) (K := K) (by omega)
      have h0 : respTill l bs 0 = [] := rfl
      rw [h0, firstOf_map] at hr
      rw [hr]
      cases firstOf (respAt l bs) l.length 0 <;> rfl
    · rw [if_neg hlen, if_neg (by omega)]
  · rw [if_neg hc, if_neg hc]
theorem respsOf_len (l : List STask) (bs : List Int) : (respsOf l bs).1.length ≤ 8 := by
  unfold respsOf
  split
  · rename_i h
    have hl := (setFault_ok (fixedFault_ok h).1).2.1
    split
    · split
      · simp
      · simp [respTill]; exact hl
    · simp
  · simp
theorem respsOf_three : respsOf three.f [0, 0, 0] = ([1, 3, 10], ⟨0, 0⟩) := by
  have := Responses_eq three.f [0, 0, 0] 20100 (Nat.le_refl _)
  have h : fixed_Responses.f 20100 three.f [0, 0, 0] = some ([1, 3, 10], ⟨0, 0⟩) := by kernel_rfl
  rw [h] at this
  exact (Option.some.inj this).symm
theorem responds_true (K : Nat) (hK : 20100 ≤ K) : responds.f K = some true := by
  unfold responds.f
  rw [Responses_eq three.f [0, 0, 0] K hK, respsOf_three]
  simp only [if_true, punctualsame_Same_int_self _ K (show ([1, 3, 10] : List Int).length < K by simp; omega)]
theorem gmax_eq (x y : Int) : gmax x y = max x y := by unfold gmax; omega
theorem gmin_eq (x y : Int) : gmin x y = min x y := by unfold gmin; omega

theorem u64_small {n : Int} (h1 : 0 ≤ n) (h2 : n ≤ 9223372036854775807) : IntKind.u64.wrap n = n := by
  simp [IntKind.wrap, IntKind.bits, IntKind.signed]; omega
theorem mid_eq {i j : Nat} (h : i + j ≤ 100000) : IntKind.i64.wrap (Int.fdiv (IntKind.u64.wrap (IntKind.i64.wrap ((i : Int) + (j : Int)))) (2 ^ 1)) = (((i + j) / 2 : Nat) : Int) := by
  rw [wrap64_small (n := (i : Int) + (j : Int)) (by omega) (by omega), u64_small (by omega) (by omega)]
  have e : Int.fdiv ((i : Int) + (j : Int)) (2 ^ 1) = (((i + j) / 2 : Nat) : Int) := by
    rw [Int.fdiv_eq_ediv_of_nonneg _ (by decide)]
    omega
  rw [e, wrap64_small (by omega) (by omega)]

/-- by key, and by tie where the keys are alike -/
def Lex {α : Type} (key tie : α → Int) (x y : α) : Prop := key x < key y ∨ (key x = key y ∧ tie x < tie y)
/-- where the keys are alike: by tie -/
def Qq {α : Type} (key tie : α → Int) (x y : α) : Prop := key x = key y → tie x < tie y
theorem Lex.qq {α : Type} {key tie : α → Int} {x y : α} (h : Lex key tie x y) : Qq key tie x y := fun e => by rcases h with h | h <;> omega
theorem set_mid {α : Type} (A B : List α) (x y : α) : (A ++ x :: B).set A.length y = A ++ y :: B := by
  rw [List.set_append_right _ _ (Nat.le_refl _)]
  simp
theorem get_mid {α : Type} (A B : List α) (x : α) : (A ++ x :: B)[A.length]? = some x := by
  rw [List.getElem?_append_right (Nat.le_refl _)]
  simp
/-- one goes down to its place -/
theorem down {α ρ : Type} (ok : α → Prop) (lt : α → α → Prop) [∀ x y, Decidable (lt x y)] (f : Int × List α → Option ((Int × List α) ⊕ (List α ⊕ ρ))) (pre : List α) (x : α) (N : Nat)
    (hs : ∀ (m : List α), m.length = N → f ((pre.length : Int), m) = some (.inr (.inl m)))
    (hf : ∀ (s post : List α) (y : α), ok y → (pre ++ s ++ y :: x :: post).length = N → f (((pre.length + s.length + 1 : Nat) : Int), pre ++ s ++ y :: x :: post) = some (if lt x y then .inl (((pre.length + s.length : Nat) : Int), pre ++ s ++ x :: y :: post) else .inr (.inl (pre ++ s ++ y :: x :: post)))) :
    ∀ (n : Nat) (s post : List α) (K : Nat), (∀ y ∈ s, ok y) → s.length = n → n < K → (pre ++ s ++ x :: post).length = N →
      ∃ s1 s2, s = s1 ++ s2 ∧ (∀ y ∈ s2, lt x y) ∧ (∀ y ∈ s1.getLast?, ¬ lt x y) ∧ iter f K (((pre.length + s.length : Nat) : Int), pre ++ s ++ x :: post) = some (.inl (pre ++ s1 ++ x :: s2 ++ post))
  | 0, s, post, K + 1, hs0, hn, hK, hN => by
    obtain rfl := List.length_eq_zero_iff.1 hn
    refine ⟨[], [], rfl, by simp, by simp, ?_⟩
    simp only [iter, List.append_nil, List.length_nil, Nat.add_zero] at hN ⊢
    rw [hs _ hN]
    simp
  | n + 1, s, post, K + 1, hs0, hn, hK, hN => by
    rcases List.eq_nil_or_concat s with rfl | ⟨s', y, rfl⟩
    · simp at hn
    simp only [List.concat_eq_append] at hn hN hs0 ⊢
    have hn' : s'.length = n := by simpa using hn
    have e : pre ++ (s' ++ [y]) ++ x :: post = pre ++ s' ++ y :: x :: post := by simp
    have e2 : pre.length + (s' ++ [y]).length = pre.length + s'.length + 1 := by simp; omega
    rw [e] at hN
    simp only [iter]
    rw [e, e2, hf s' post y (hs0 y (by simp)) hN]
    by_cases h : lt x y
    · rw [if_pos h]
      obtain ⟨s1, s2, rfl, h1, h2, h3⟩ := down ok lt f pre x N hs hf n s' (y :: post) K (fun z hz => hs0 z (by simp [hz])) hn' (by omega) (by simp at hN ⊢; omega)
      refine ⟨s1, s2 ++ [y], by simp, ?_, h2, ?_⟩
      · intro z hz
        rcases List.mem_append.1 hz with hz | hz
        · exact h1 z hz
        · rw [List.mem_singleton.1 hz]; exact h
      · simp only
        rw [h3]
        simp
    · rw [if_neg h]
      refine ⟨s' ++ [y], [], by simp, by simp, ?_, ?_⟩
      · intro z hz
        rw [List.getLast?_concat] at hz
        obtain rfl := Option.some.inj hz
        exact h
      · simp
theorem down_lex {α : Type} {key tie : α → Int} {s1 s2 : List α} {x : α} (hs : (s1 ++ s2).Pairwise (Lex key tie)) (hq : ∀ y ∈ s1 ++ s2, Qq key tie y x) (h1 : ∀ y ∈ s2, key x < key y) (h2 : ∀ y ∈ s1.getLast?, ¬ key x < key y) :
    (s1 ++ x :: s2).Pairwise (Lex key tie) := by
  rw [List.pairwise_append] at hs ⊢
  obtain ⟨p1, p2, p3⟩ := hs
  have hle : ∀ y ∈ s1, Lex key tie y x := by
    intro y hy
    have hq' := hq y (List.mem_append_left _ hy)
    rcases List.eq_nil_or_concat s1 with rfl | ⟨t, z, rfl⟩
    · cases hy
    simp only [List.concat_eq_append] at hy p1 h2
    have hz : ¬ key x < key z := h2 z (by simp)
    have hyz : key y ≤ key z := by
      rcases List.mem_append.1 hy with hy | hy
      · rcases (List.pairwise_append.1 p1).2.2 y hy z (by simp) with h | h <;> omega
      · rw [List.mem_singleton.1 hy]; omega
    by_cases he : key y = key x
    · exact .inr ⟨he, hq' he⟩
    · exact .inl (by omega)
  refine ⟨p1, List.pairwise_cons.2 ⟨fun y hy => .inl (h1 y hy), p2⟩, fun y hy z hz => ?_⟩
  rcases List.mem_cons.1 hz with rfl | hz
  · exact hle y hy
  · exact p3 y hy z hz
/-- one after the other -/
theorem insOuter {α ρ : Type} (ok : α → Prop) {key tie : α → Int} (g : Int × List α → Option ((Int × List α) ⊕ (List α ⊕ ρ))) (pre post : List α) (N : Nat)
    (hg : ∀ (s rest : List α) (x : α), (∀ y ∈ s ++ [x], ok y) → s ≠ [] → (pre ++ s ++ x :: rest ++ post).length = N → s.Pairwise (Lex key tie) → (∀ y ∈ s, Qq key tie y x) → ∃ s', s'.Perm (s ++ [x]) ∧ s'.Pairwise (Lex key tie) ∧ g (((pre.length + s.length : Nat) : Int), pre ++ s ++ x :: rest ++ post) = some (.inl (((pre.length + s.length + 1 : Nat) : Int), pre ++ s' ++ rest ++ post)))
    (he : ∀ (z : Int) (m : List α), m.length = N → ((N : Int) - post.length) ≤ z → g (z, m) = some (.inr (.inl m))) :
    ∀ (rest s : List α) (K : Nat), (∀ y ∈ s ++ rest, ok y) → s ≠ [] → rest.length < K → (pre ++ s ++ rest ++ post).length = N → s.Pairwise (Lex key tie) → (s ++ rest).Pairwise (Qq key tie) →
      ∃ s', s'.Perm (s ++ rest) ∧ s'.Pairwise (Lex key tie) ∧ iter g K (((pre.length + s.length : Nat) : Int), pre ++ s ++ rest ++ post) = some (.inl (pre ++ s' ++ post))
  | [], s, K + 1, hok, h0, hK, hN, hs, hq => by
    refine ⟨s, by simp, hs, ?_⟩
    simp only [iter, List.append_nil] at hN ⊢
    rw [he _ _ hN (by simp at hN; omega)]
  | x :: rest, s, K + 1, hok, h0, hK, hN, hs, hq => by
    have hq' := List.pairwise_append.1 hq
    obtain ⟨s', p, hs', hr⟩ := hg s rest x (fun z hz => hok z (by rcases List.mem_append.1 hz with h | h; exact List.mem_append_left _ h; simp [List.mem_singleton.1 h])) h0 hN hs (fun y hy => hq'.2.2 y hy x (by simp))
    have hl : s'.length = s.length + 1 := by have := p.length_eq; simpa using this
    obtain ⟨s'', p2, hs'', hr2⟩ := insOuter ok g pre post N hg he rest s' K (fun z hz => hok z (by rcases List.mem_append.1 hz with h | h; (rcases List.mem_append.1 (p.mem_iff.1 h) with h | h; exact List.mem_append_left _ h; simp [List.mem_singleton.1 h]); simp [h])) (by intro h; simp [h] at hl) (by simp at hK; omega) (by simp at hN ⊢; omega) hs' (by
      rw [List.pairwise_append]
      refine ⟨hs'.imp fun h => h.qq, (List.pairwise_cons.1 hq'.2.1).2, fun y hy z hz => ?_⟩
      have := p.mem_iff.1 hy
      rcases List.mem_append.1 this with h | h
      · exact hq'.2.2 y h z (by simp [hz])
      · rw [List.mem_singleton.1 h]; exact (List.pairwise_cons.1 hq'.2.1).1 z hz)
    refine ⟨s'', p2.trans ((p.append_right rest).trans (by simp)), hs'', ?_⟩
    simp only [iter]
    rw [hr]
    simp only
    rw [← hr2, hl]
    congr 3
theorem get_atL {α : Type} (A B : List α) (x : α) {n : Nat} {L : List α} (hL : L = A ++ x :: B) (h : n = A.length) : L[n]? = some x := by subst hL; subst h; exact get_mid A B x
theorem set_atL {α : Type} (A B : List α) (x y : α) {n : Nat} {L : List α} (hL : L = A ++ x :: B) (h : n = A.length) : L.set n y = A ++ y :: B := by subst hL; subst h; exact set_mid A B x y
theorem comp_lt (a b : Int) : cmp_Compare_int.f a b < 0 ↔ a < b := by
  have h : ∀ x, cmp_isNaN_int.f x = false := fun x => by simp [cmp_isNaN_int.f]
  simp only [cmp_Compare_int.f, h]
  simp
  split
  · simp [*]
  · split <;> omega
theorem wrapN {n : Nat} (h : n ≤ 1000000) : IntKind.i64.wrap ((n : Int)) = (n : Int) := wrap64_small (by omega) (by omega)
theorem insCome_down (pre : List SCome) (x : SCome) (N : Nat) (hN : N ≤ 100000) (n : Nat) (s post : List SCome) (K : Nat) (hn : s.length = n) (hK : n < K) (hL : (pre ++ s ++ x :: post).length = N) :
    ∃ s1 s2, s = s1 ++ s2 ∧ (∀ y ∈ s2, x.At < y.At) ∧ (∀ y ∈ s1.getLast?, ¬ x.At < y.At) ∧ iter (slices_insertionSortCmpFunc_api_Come.r1 (pre.length : Int)) K (((pre.length + s.length : Nat) : Int), pre ++ s ++ x :: post) = some (.inl (pre ++ s1 ++ x :: s2 ++ post)) := by
  refine down (fun _ => True) (lt := fun x y : SCome => x.At < y.At) (slices_insertionSortCmpFunc_api_Come.r1 (pre.length : Int)) pre x N (fun m hm => ?_) (fun s post y _ hm => ?_) n s post K (fun _ _ => trivial) hn hK hL
  · simp only [slices_insertionSortCmpFunc_api_Come.r1]
    rw [if_neg (by omega)]
  · have hb : pre.length + s.length + 2 ≤ 100000 := by simp at hm; omega
    have e1 : IntKind.i64.wrap (((pre.length + s.length + 1 : Nat) : Int) - 1) = ((pre.length + s.length : Nat) : Int) := by rw [wrap64_small (by omega) (by omega)]; omega
    have g1 : (pre ++ s ++ y :: x :: post)[pre.length + s.length + 1]? = some x := get_atL (pre ++ s ++ [y]) post x (by simp) (by simp; omega)
    have g2 : (pre ++ s ++ y :: x :: post)[pre.length + s.length]? = some y := get_atL (pre ++ s) (x :: post) y (by simp) (by simp)
    have s1 : (pre ++ s ++ y :: x :: post).set (pre.length + s.length + 1) y = pre ++ s ++ [y] ++ y :: post := set_atL (pre ++ s ++ [y]) post x y (by simp) (by simp; omega)
    have g3 : (pre ++ s ++ [y] ++ y :: post)[pre.length + s.length]? = some y := get_atL (pre ++ s) (y :: post) y (by simp) (by simp)
    have s2 : (pre ++ s ++ [y] ++ y :: post).set (pre.length + s.length) x = pre ++ s ++ x :: y :: post := set_atL (pre ++ s) (y :: post) y x (by simp) (by simp)
    simp only [slices_insertionSortCmpFunc_api_Come.r1, e1, Int.toNat_natCast, g1, g2, s1, g3, s2, tasks_Comes_1.f, comp_lt]
    rw [if_pos (by omega), if_pos (by omega), if_pos (by omega)]
    by_cases h : x.At < y.At <;> simp [h]
abbrev cAt (c : SCome) : Int := c.At
abbrev cTask (c : SCome) : Int := c.Task
theorem insCome_eq (pre seg post : List SCome) (K : Nat) (hN : (pre ++ seg ++ post).length ≤ 100000) (hK : seg.length < K) (hq : seg.Pairwise (Qq cAt cTask)) :
    ∃ s', s'.Perm seg ∧ s'.Pairwise (Lex cAt cTask) ∧ slices_insertionSortCmpFunc_api_Come.f K (pre ++ seg ++ post) (pre.length : Int) ((pre.length + seg.length : Nat) : Int) = some (pre ++ s' ++ post) := by
  have hb : pre.length + seg.length ≤ 100000 := by simp at hN; omega
  have e0 : IntKind.i64.wrap ((pre.length : Int) + 1) = ((pre.length + 1 : Nat) : Int) := by rw [wrap64_small (by omega) (by omega)]; omega
  rcases seg with _ | ⟨x, rest⟩
  · refine ⟨[], by simp, by simp, ?_⟩
    cases K with
    | zero => simp at hK
    | succ K =>
      simp only [slices_insertionSortCmpFunc_api_Come.f, iter, slices_insertionSortCmpFunc_api_Come.r0, e0]
      rw [if_neg (by simp; omega)]
  · obtain ⟨s', p, hs, hr⟩ := insOuter (fun _ => True) (key := cAt) (tie := cTask) (slices_insertionSortCmpFunc_api_Come.r0 K (pre.length : Int) ((pre.length + (x :: rest).length : Nat) : Int)) pre post (pre ++ (x :: rest) ++ post).length
      (fun s rest' y _ h0 hL hs hq' => by
        have hl : pre.length + s.length + 1 ≤ pre.length + (x :: rest).length := by simp at hL ⊢; omega
        have hK' : s.length < K := by simp at hK hl; omega
        have eL : pre ++ s ++ y :: rest' ++ post = pre ++ s ++ y :: (rest' ++ post) := by simp
        obtain ⟨s1, s2, rfl, h1, h2, h3⟩ := insCome_down pre y _ hN s.length s (rest' ++ post) K rfl hK' (by rw [← hL]; simp)
        refine ⟨s1 ++ y :: s2, by rw [List.append_assoc]; exact (List.Perm.append_left s1 (List.perm_append_comm (l₁ := [y]) (l₂ := s2))), down_lex hs hq' h1 h2, ?_⟩
        simp only [slices_insertionSortCmpFunc_api_Come.r0]
        rw [if_pos (by simp only [List.length_append] at hl ⊢; omega), eL, h3]
        have e1 : IntKind.i64.wrap (((pre.length + (s1 ++ s2).length : Nat) : Int) + 1) = ((pre.length + (s1 ++ s2).length + 1 : Nat) : Int) := by rw [wrap64_small (by omega) (by omega)]; omega
        simp only [e1]
        simp)
      (fun z m hm hz => by
        simp only [slices_insertionSortCmpFunc_api_Come.r0]
        rw [if_neg (by simp at hz ⊢; omega)]) rest [x] K (fun _ _ => trivial) (by simp) (by simp at hK; omega) (by simp) (by simp) (by simpa using hq)
    refine ⟨s', by simpa using p, hs, ?_⟩
    simp only [slices_insertionSortCmpFunc_api_Come.f, e0]
    have e2 : pre ++ x :: rest ++ post = pre ++ [x] ++ rest ++ post := by simp
    rw [e2]
    simp only [List.length_cons, List.length_nil, Nat.zero_add] at hr ⊢
    rw [hr]
theorem swap_inner (P w Q : List SCome) (N : Nat) (hN : N ≤ 100000) (K0 : Nat) : ∀ (u v vd ud : List SCome) (K : Nat), u.length = v.length → vd.length = ud.length → u.length < K → (P ++ vd ++ u ++ w ++ ud ++ v ++ Q).length = N →
    iter (slices_swapRangeCmpFunc_api_Come.r0 (P.length : Int) ((P.length + (vd.length + u.length) + w.length : Nat) : Int) ((vd.length + u.length : Nat) : Int)) K ((vd.length : Int), P ++ vd ++ u ++ w ++ ud ++ v ++ Q) = some (.inl (P ++ (vd ++ v) ++ w ++ (ud ++ u) ++ Q))
  | [], v, vd, ud, K + 1, h1, h2, hK, hL => by
    obtain rfl := List.length_eq_zero_iff.1 h1.symm
    simp only [iter, slices_swapRangeCmpFunc_api_Come.r0]
    rw [if_neg (by simp)]
    simp
  | x :: u, v, vd, ud, K + 1, h1, h2, hK, hL => by
    rcases v with _ | ⟨y, v⟩
    · simp at h1
    simp only [List.length_append, List.length_cons] at hL h1
    have e1 : IntKind.i64.wrap (((P.length + (vd.length + (x :: u).length) + w.length : Nat) : Int) + (vd.length : Int)) = ((P.length + (vd.length + (x :: u).length) + w.length + vd.length : Nat) : Int) := by rw [wrap64_small (by simp; omega) (by simp; omega)]; omega
    have e2 : IntKind.i64.wrap ((P.length : Int) + (vd.length : Int)) = ((P.length + vd.length : Nat) : Int) := by rw [wrap64_small (by omega) (by omega)]; omega
    have e3 : IntKind.i64.wrap ((vd.length : Int) + 1) = ((vd.length + 1 : Nat) : Int) := by rw [wrap64_small (by omega) (by omega)]; omega
    have g1 : (P ++ vd ++ (x :: u) ++ w ++ ud ++ (y :: v) ++ Q)[P.length + (vd.length + (x :: u).length) + w.length + vd.length]? = some y := get_atL (P ++ vd ++ (x :: u) ++ w ++ ud) (v ++ Q) y (by simp) (by simp; omega)
    have g2 : (P ++ vd ++ (x :: u) ++ w ++ ud ++ (y :: v) ++ Q)[P.length + vd.length]? = some x := get_atL (P ++ vd) (u ++ w ++ ud ++ (y :: v) ++ Q) x (by simp) (by simp)
    have s1 : (P ++ vd ++ (x :: u) ++ w ++ ud ++ (y :: v) ++ Q).set (P.length + vd.length) y = P ++ vd ++ y :: (u ++ w ++ ud ++ (y :: v) ++ Q) := set_atL (P ++ vd) (u ++ w ++ ud ++ (y :: v) ++ Q) x y (by simp) (by simp)
    have g3 : (P ++ vd ++ y :: (u ++ w ++ ud ++ (y :: v) ++ Q))[P.length + (vd.length + (x :: u).length) + w.length + vd.length]? = some y := get_atL (P ++ vd ++ (y :: u) ++ w ++ ud) (v ++ Q) y (by simp) (by simp; omega)
    have s2 : (P ++ vd ++ y :: (u ++ w ++ ud ++ (y :: v) ++ Q)).set (P.length + (vd.length + (x :: u).length) + w.length + vd.length) x = P ++ (vd ++ [y]) ++ u ++ w ++ (ud ++ [x]) ++ v ++ Q := by
      rw [set_atL (P ++ vd ++ (y :: u) ++ w ++ ud) (v ++ Q) y x (by simp) (by simp; omega)]
      simp
    have ih := swap_inner P w Q N hN K0 u v (vd ++ [y]) (ud ++ [x]) K (by omega) (by simp; omega) (by simp at hK; omega) (by simp; omega)
    simp only [iter, slices_swapRangeCmpFunc_api_Come.r0, e1, e2, e3, Int.toNat_natCast, g1, g2, s1, g3, s2]
    rw [if_pos (by simp; omega), if_pos (by omega), if_pos (by omega)]
    simp only
    have e4 : vd.length + (x :: u).length = (vd ++ [y]).length + u.length := by simp; omega
    rw [e4, show vd.length + 1 = (vd ++ [y]).length by simp, ih]
    simp
theorem swap_eq (P u w v Q : List SCome) (K : Nat) (hN : (P ++ u ++ w ++ v ++ Q).length ≤ 100000) (hl : u.length = v.length) (hK : u.length < K) :
    slices_swapRangeCmpFunc_api_Come.f K (P ++ u ++ w ++ v ++ Q) (P.length : Int) ((P.length + u.length + w.length : Nat) : Int) (u.length : Int) = some (P ++ v ++ w ++ u ++ Q) := by
  have h := swap_inner P w Q _ hN K u v [] [] K hl rfl hK (by simp)
  simp only [List.length_nil, Nat.zero_add, List.append_nil, List.nil_append] at h
  simp only [slices_swapRangeCmpFunc_api_Come.f]
  rw [show ((0 : Nat) : Int) = 0 from rfl] at h
  rw [h]
theorem rot_inner (m Kc : Nat) (hKc : 100000 < Kc) : ∀ (n : Nat) (u v P Q : List SCome) (K : Nat), u.length + v.length ≤ n → u ≠ [] → v ≠ [] → n < K → P.length + u.length = m → (P ++ u ++ v ++ Q).length ≤ 100000 →
    ∃ (z : Int) (l : List SCome), iter (slices_rotateCmpFunc_api_Come.r0 Kc (m : Int)) K ((u.length : Int), (v.length : Int), P ++ u ++ v ++ Q) = some (.inl (z, l)) ∧ slices_swapRangeCmpFunc_api_Come.f Kc l (IntKind.i64.wrap ((m : Int) - z)) (m : Int) z = some (P ++ v ++ u ++ Q)
  | n, u, v, P, Q, 0, hn, hu, hv, hK, hm, hN => by omega
  | n, u, v, P, Q, K + 1, hn, hu, hv, hK, hm, hN => by
    have hlu := List.length_pos_iff.2 hu
    have hlv := List.length_pos_iff.2 hv
    have hb : P.length + u.length + v.length ≤ 100000 := by simp at hN; omega
    have e1 : IntKind.i64.wrap ((m : Int) - (u.length : Int)) = (P.length : Int) := by rw [wrap64_small (by omega) (by omega)]; omega
    simp only [iter, slices_rotateCmpFunc_api_Come.r0]
    by_cases h1 : u.length = v.length
    · rw [if_pos (by omega)]
      refine ⟨_, _, rfl, ?_⟩
      have h := swap_eq P u [] v Q Kc (by simpa using hN) h1 (by omega)
      simp only [List.length_nil, Nat.add_zero, List.append_nil] at h
      rw [e1, ← hm, h]
    · rw [if_neg (by omega)]
      by_cases h2 : u.length > v.length
      · rw [if_pos (by omega)]
        have eu : u = u.take v.length ++ u.drop v.length := (List.take_append_drop _ _).symm
        have l1 : (u.take v.length).length = v.length := by simp; omega
        have l2 : (u.drop v.length).length = u.length - v.length := by simp
        generalize u.take v.length = u1 at eu l1
        generalize u.drop v.length = u2 at eu l2
        have h := swap_eq P u1 u2 v Q Kc (by rw [eu] at hN; simpa using hN) l1 (by omega)
        have e3 : P ++ u1 ++ u2 ++ v ++ Q = P ++ u ++ v ++ Q := by rw [eu]; simp
        have e4 : P.length + u1.length + u2.length = m := by omega
        rw [e3, e4, l1] at h
        rw [e1, h]
        obtain ⟨z, l, hr1, hr2⟩ := rot_inner m Kc hKc (n - 1) u2 u1 (P ++ v) Q K (by omega) (by intro h; simp [h] at l2; omega) (by intro h; simp [h] at l1; omega) (by omega) (by simp; omega) (by rw [eu] at hN; simp at hN ⊢; omega)
        refine ⟨z, l, ?_, ?_⟩
        · simp only
          rw [show IntKind.i64.wrap ((u.length : Int) - (v.length : Int)) = (u2.length : Int) by rw [wrap64_small (by omega) (by omega)]; omega, ← hr1, l1]
        · rw [hr2, eu]; simp
      · rw [if_neg (by omega)]
        have ev : v = v.take (v.length - u.length) ++ v.drop (v.length - u.length) := (List.take_append_drop _ _).symm
        have l1 : (v.take (v.length - u.length)).length = v.length - u.length := by simp
        have l2 : (v.drop (v.length - u.length)).length = u.length := by simp; omega
        generalize v.take (v.length - u.length) = v1 at ev l1
        generalize v.drop (v.length - u.length) = v2 at ev l2
        have h := swap_eq P u v1 v2 Q Kc (by rw [ev] at hN; simpa using hN) l2.symm (by omega)
        have e3 : P ++ u ++ v1 ++ v2 ++ Q = P ++ u ++ v ++ Q := by rw [ev]; simp
        have e4 : IntKind.i64.wrap (IntKind.i64.wrap ((m : Int) + (v.length : Int)) - (u.length : Int)) = ((P.length + u.length + v1.length : Nat) : Int) := by rw [wrap64_small (n := (m : Int) + (v.length : Int)) (by omega) (by omega), wrap64_small (by omega) (by omega)]; omega
        rw [e3] at h
        rw [e1, e4, h]
        obtain ⟨z, l, hr1, hr2⟩ := rot_inner m Kc hKc (n - 1) v2 v1 P (u ++ Q) K (by omega) (by intro h; simp [h] at l2; omega) (by intro h; simp [h] at l1; omega) (by omega) (by omega) (by rw [ev] at hN; simp at hN ⊢; omega)
        refine ⟨z, l, ?_, ?_⟩
        · simp only
          rw [show IntKind.i64.wrap ((v.length : Int) - (u.length : Int)) = (v1.length : Int) by rw [wrap64_small (by omega) (by omega)]; omega, ← l2]
          simpa using hr1
        · rw [hr2, ev]; simp
theorem rot_eq (u v P Q : List SCome) (K : Nat) (hu : u ≠ []) (hv : v ≠ []) (hN : (P ++ u ++ v ++ Q).length ≤ 100000) (hK : 100010 ≤ K) :
    slices_rotateCmpFunc_api_Come.f K (P ++ u ++ v ++ Q) (P.length : Int) ((P.length + u.length : Nat) : Int) ((P.length + u.length + v.length : Nat) : Int) = some (P ++ v ++ u ++ Q) := by
  have hb : P.length + u.length + v.length ≤ 100000 := by simp at hN; omega
  obtain ⟨z, l, h1, h2⟩ := rot_inner (P.length + u.length) K (by omega) 100000 u v P Q K (by omega) hu hv (by omega) rfl hN
  have e1 : IntKind.i64.wrap (((P.length + u.length : Nat) : Int) - (P.length : Int)) = (u.length : Int) := by rw [wrap64_small (by omega) (by omega)]; omega
  have e2 : IntKind.i64.wrap (((P.length + u.length + v.length : Nat) : Int) - ((P.length + u.length : Nat) : Int)) = (v.length : Int) := by rw [wrap64_small (by omega) (by omega)]; omega
  simp only [slices_rotateCmpFunc_api_Come.f, e1, e2, h1, h2]
/-- a search by halves -/
theorem halves {ρ : Type} (f : Int × Int → Option ((Int × Int) ⊕ (Int ⊕ ρ))) (p : Nat → Prop) [DecidablePred p] (lo hi : Nat) (hlh : lo ≤ hi)
    (hf : ∀ i j : Nat, lo ≤ i → i < j → j ≤ hi → f ((i : Int), (j : Int)) = some (.inl (if p ((i + j) / 2) then ((((i + j) / 2 + 1 : Nat) : Int), (j : Int)) else ((i : Int), (((i + j) / 2 : Nat) : Int)))))
    (he : ∀ i : Nat, f ((i : Int), (i : Int)) = some (.inr (.inl (i : Int)))) (hm : ∀ h h' : Nat, lo ≤ h → h ≤ h' → h' < hi → p h' → p h) (K : Nat) (hK : hi - lo < K) :
    ∃ r : Nat, lo ≤ r ∧ r ≤ hi ∧ (∀ h : Nat, lo ≤ h → h < r → p h) ∧ (∀ h : Nat, r ≤ h → h < hi → ¬ p h) ∧ iter f K ((lo : Int), (hi : Int)) = some (.inl (r : Int)) := by
  obtain ⟨r, hr, z, rfl, h0, h1, h2, h3⟩ := iter_total (f := f) (fun s => ∃ i j : Nat, s = ((i : Int), (j : Int)) ∧ lo ≤ i ∧ i ≤ j ∧ j ≤ hi ∧ (∀ h : Nat, lo ≤ h → h < i → p h) ∧ (∀ h : Nat, j ≤ h → h < hi → ¬ p h)) (fun s => (s.2 - s.1).toNat)
    (fun r => ∃ z : Nat, r = .inl (z : Int) ∧ lo ≤ z ∧ z ≤ hi ∧ (∀ h : Nat, lo ≤ h → h < z → p h) ∧ (∀ h : Nat, z ≤ h → h < hi → ¬ p h)) (fun s hI => by
      obtain ⟨i, j, rfl, hl, hij, hj, g1, g2⟩ := hI
      by_cases hlt : i < j
      · left
        rw [hf i j hl hlt hj]
        by_cases hp : p ((i + j) / 2)
        · rw [if_pos hp]
          exact ⟨_, rfl, ⟨_, _, rfl, by omega, by omega, hj, fun h h1 h2 => hm h _ h1 (by omega) (by omega) hp, g2⟩, by simp only; omega⟩
        · rw [if_neg hp]
          exact ⟨_, rfl, ⟨_, _, rfl, hl, by omega, by omega, g1, fun h h1 h2 hh => hp (hm _ h (by omega) h1 h2 hh)⟩, by simp only; omega⟩
      · right
        obtain rfl : i = j := by omega
        rw [he]
        exact ⟨_, rfl, i, rfl, hl, hj, g1, g2⟩) K ((lo : Int), (hi : Int)) ⟨lo, hi, rfl, Nat.le_refl _, hlh, Nat.le_refl _, fun h _ _ => by omega, fun h _ _ => by omega⟩ (by simp only; omega)
  exact ⟨z, h0, h1, h2, h3, hr⟩
/-- one goes up -/
theorem up_eq' (x : SCome) (z : Nat) (N : Nat) (hN : N ≤ 100000) : ∀ (s P Q : List SCome) (K : Nat), s.length < K → P.length + s.length + 1 = z → (P ++ x :: s ++ Q).length = N →
    iter (slices_symMergeCmpFunc_api_Come.r1 (z : Int)) K ((P.length : Int), P ++ x :: s ++ Q) = some (.inl (P ++ s ++ x :: Q))
  | [], P, Q, K + 1, hK, hz, hL => by
    simp only [List.length_append, List.length_cons, List.length_nil] at hL
    have e0 : IntKind.i64.wrap ((z : Int) - 1) = (P.length : Int) := by rw [wrap64_small (by simp at hz; omega) (by simp at hz; omega)]; simp at hz; omega
    simp only [iter, slices_symMergeCmpFunc_api_Come.r1, e0]
    rw [if_neg (by omega)]
    simp
  | y :: s, P, Q, K + 1, hK, hz, hL => by
    simp only [List.length_append, List.length_cons] at hL hz hK
    have e0 : IntKind.i64.wrap ((z : Int) - 1) = ((z - 1 : Nat) : Int) := by rw [wrap64_small (by omega) (by omega)]; omega
    have e1 : IntKind.i64.wrap ((P.length : Int) + 1) = ((P.length + 1 : Nat) : Int) := by rw [wrap64_small (by omega) (by omega)]; omega
    have g1 : (P ++ x :: y :: s ++ Q)[P.length + 1]? = some y := get_atL (P ++ [x]) (s ++ Q) y (by simp) (by simp)
    have g2 : (P ++ x :: y :: s ++ Q)[P.length]? = some x := get_atL P (y :: s ++ Q) x (by simp) rfl
    have s1 : (P ++ x :: y :: s ++ Q).set P.length y = P ++ y :: (y :: s ++ Q) := set_atL P (y :: s ++ Q) x y (by simp) rfl
    have g3 : (P ++ y :: (y :: s ++ Q))[P.length + 1]? = some y := get_atL (P ++ [y]) (s ++ Q) y (by simp) (by simp)
    have s2 : (P ++ y :: (y :: s ++ Q)).set (P.length + 1) x = P ++ [y] ++ x :: s ++ Q := by rw [set_atL (P ++ [y]) (s ++ Q) y x (by simp) (by simp)]; simp
    simp only [iter, slices_symMergeCmpFunc_api_Come.r1, e0, e1, Int.toNat_natCast, g1, g2, s1, g3, s2]
    rw [if_pos (by omega), if_pos (by omega), if_pos (by omega)]
    have ih := up_eq' x z N hN s (P ++ [y]) Q K (by omega) (by simp; omega) (by simp; omega)
    simp only [List.length_append, List.length_cons, List.length_nil, Nat.zero_add] at ih
    simp only
    rw [ih]
    simp
theorem dn_eq' (y : SCome) (z : Nat) (N : Nat) (hN : N ≤ 100000) (P : List SCome) (hz : P.length = z) : ∀ (n : Nat) (s Q : List SCome) (K : Nat), s.length = n → n < K → (P ++ s ++ y :: Q).length = N →
    iter (slices_symMergeCmpFunc_api_Come.r3 (z : Int)) K (((P.length + s.length : Nat) : Int), P ++ s ++ y :: Q) = some (.inl (P ++ y :: s ++ Q))
  | 0, s, Q, K + 1, hn, hK, hL => by
    obtain rfl := List.length_eq_zero_iff.1 hn
    simp only [iter, slices_symMergeCmpFunc_api_Come.r3]
    rw [if_neg (by simp; omega)]
    simp
  | n + 1, s, Q, K + 1, hn, hK, hL => by
    rcases List.eq_nil_or_concat s with rfl | ⟨t, x, rfl⟩
    · simp at hn
    simp only [List.concat_eq_append] at hn hL ⊢
    have hn' : t.length = n := by simpa using hn
    simp only [List.length_append, List.length_cons, List.length_nil] at hL
    have eL : P ++ (t ++ [x]) ++ y :: Q = P ++ t ++ x :: y :: Q := by simp
    have ez : P.length + (t ++ [x]).length = P.length + t.length + 1 := by simp; omega
    have e1 : IntKind.i64.wrap (((P.length + t.length + 1 : Nat) : Int) - 1) = ((P.length + t.length : Nat) : Int) := by rw [wrap64_small (by omega) (by omega)]; omega
    have g1 : (P ++ t ++ x :: y :: Q)[P.length + t.length]? = some x := get_atL (P ++ t) (y :: Q) x rfl (by simp)
    have g2 : (P ++ t ++ x :: y :: Q)[P.length + t.length + 1]? = some y := get_atL (P ++ t ++ [x]) Q y (by simp) (by simp; omega)
    have s1 : (P ++ t ++ x :: y :: Q).set (P.length + t.length + 1) x = P ++ t ++ [x] ++ x :: Q := set_atL (P ++ t ++ [x]) Q y x (by simp) (by simp; omega)
    have g3 : (P ++ t ++ [x] ++ x :: Q)[P.length + t.length]? = some x := get_atL (P ++ t) (x :: Q) x (by simp) (by simp)
    have s2 : (P ++ t ++ [x] ++ x :: Q).set (P.length + t.length) y = P ++ t ++ y :: (x :: Q) := set_atL (P ++ t) (x :: Q) x y (by simp) (by simp)
    rw [eL, ez]
    simp only [iter, slices_symMergeCmpFunc_api_Come.r3, e1, Int.toNat_natCast, g1, g2, s1, g3, s2]
    rw [if_pos (by omega), if_pos (by omega), if_pos (by omega)]
    have ih := dn_eq' y z N hN P hz n t (x :: Q) K hn' (by omega) (by simp; omega)
    simp only
    rw [ih]
    simp
abbrev lexC : SCome → SCome → Prop := Lex cAt cTask
abbrev qqC : SCome → SCome → Prop := Qq cAt cTask
theorem lexC_of_le {x y : SCome} (h : ¬ y.At < x.At) (hq : qqC x y) : lexC x y := by
  by_cases e : x.At = y.At
  · exact .inr ⟨e, hq e⟩
  · exact .inl (show x.At < y.At by omega)
theorem lexC_le {x y : SCome} (h : lexC x y) : x.At ≤ y.At := by rcases h with h | ⟨h, _⟩ <;> simp only [cAt] at h <;> omega
/-- the k-th of what lies behind P -/
theorem get_part (P s Q : List SCome) {k : Nat} {x : SCome} (hk : s[k]? = some x) : (P ++ s ++ Q)[P.length + k]? = some x := by
  have hl := lt_of_get hk
  rw [List.append_assoc, List.getElem?_append_right (by omega), Nat.add_sub_cancel_left, List.getElem?_append_left hl, hk]
theorem part_get (s : List SCome) {k : Nat} (h : k < s.length) : ∃ x, s[k]? = some x := ⟨s[k], List.getElem?_eq_getElem h⟩
theorem lexC_get {s : List SCome} (hs : s.Pairwise lexC) {i j : Nat} {x y : SCome} (hij : i ≤ j) (hx : s[i]? = some x) (hy : s[j]? = some y) : x.At ≤ y.At := by
  by_cases e : i = j
  · subst e; rw [hx] at hy; cases hy; exact Int.le_refl _
  · obtain ⟨hi, rfl⟩ := List.getElem?_eq_some_iff.1 hx
    obtain ⟨hj, rfl⟩ := List.getElem?_eq_some_iff.1 hy
    exact lexC_le (List.pairwise_iff_getElem.1 hs i j hi hj (by omega))
theorem split_at (s : List SCome) (k : Nat) (h : k ≤ s.length) : ∃ t1 t2, s = t1 ++ t2 ∧ t1.length = k := ⟨s.take k, s.drop k, (List.take_append_drop _ _).symm, by simp; omega⟩
theorem comp_come (x y : SCome) : tasks_Comes_1.f x y < 0 ↔ x.At < y.At := by simp only [tasks_Comes_1.f, comp_lt]
/-- one against many -/
theorem sym_one (K : Nat) (recf : List SCome → Int → Int → Int → Option (List SCome)) (P s2 Q : List SCome) (x : SCome) (hN : (P ++ [x] ++ s2 ++ Q).length ≤ 40000) (hK : 100010 ≤ K) (hs : s2.Pairwise lexC) (hq : ∀ y ∈ s2, qqC x y) :
    ∃ s', s'.Perm ([x] ++ s2) ∧ s'.Pairwise lexC ∧ slices_symMergeCmpFunc_api_Come.b K recf (P ++ [x] ++ s2 ++ Q) (P.length : Int) ((P.length + 1 : Nat) : Int) ((P.length + 1 + s2.length : Nat) : Int) = some (P ++ s' ++ Q) := by
  have hb : P.length + 1 + s2.length ≤ 40000 := by simp at hN; omega
  have e1 : IntKind.i64.wrap (((P.length + 1 : Nat) : Int) - (P.length : Int)) = 1 := by rw [wrap64_small (by omega) (by omega)]; omega
  have g0 : (P ++ [x] ++ s2 ++ Q)[P.length]? = some x := get_atL P (s2 ++ Q) x (by simp) rfl
  obtain ⟨r, h1, h2, h3, h4, h5⟩ := halves (slices_symMergeCmpFunc_api_Come.r0 (P ++ [x] ++ s2 ++ Q) (P.length : Int)) (fun h => ∀ y, s2[h - (P.length + 1)]? = some y → y.At < x.At) (P.length + 1) (P.length + 1 + s2.length) (by omega)
    (fun i j hi hij hj => by
      simp only [slices_symMergeCmpFunc_api_Come.r0, mid_eq (show i + j ≤ 100000 by omega)]
      obtain ⟨y, hy⟩ := part_get s2 (show (i + j) / 2 - (P.length + 1) < s2.length by omega)
      have g1 : (P ++ [x] ++ s2 ++ Q)[(i + j) / 2]? = some y := by
        have := get_part (P ++ [x]) s2 Q hy
        rw [← this]; congr 1; simp; omega
      rw [if_pos (by omega), if_pos (by omega)]
      simp only [Int.toNat_natCast, g1, g0, comp_come]
      rw [if_pos (by omega)]
      by_cases hp : y.At < x.At
      · rw [if_pos hp, if_pos (fun z hz => by rw [hy] at hz; cases hz; exact hp), wrap64_small (by omega) (by omega)]
        simp
      · rw [if_neg hp, if_neg (fun hh => hp (hh y hy))])
    (fun i => by simp [slices_symMergeCmpFunc_api_Come.r0])
    (fun h h' h1 h2 h3 hp y hy => by
      obtain ⟨z, hz⟩ := part_get s2 (show h' - (P.length + 1) < s2.length by omega)
      have := lexC_get hs (show h - (P.length + 1) ≤ h' - (P.length + 1) by omega) hy hz
      have := hp z hz
      omega) K (by omega)
  obtain ⟨t1, t2, rfl, hl⟩ := split_at s2 (r - (P.length + 1)) (by omega)
  have f1 : ∀ y ∈ t1, y.At < x.At := fun y hy => by
    obtain ⟨k, hk⟩ := List.getElem?_of_mem hy
    have hkl := lt_of_get hk
    refine h3 (P.length + 1 + k) (by omega) (by omega) y ?_
    rw [show P.length + 1 + k - (P.length + 1) = k by omega, List.getElem?_append_left hkl, hk]
  have f2 : ∀ y ∈ t2, ¬ y.At < x.At := fun y hy hlt => by
    obtain ⟨k, hk⟩ := List.getElem?_of_mem hy
    have hkl := lt_of_get hk
    refine h4 (r + k) (by omega) (by simp; omega) fun z hz => ?_
    rw [show r + k - (P.length + 1) = t1.length + k by omega, List.getElem?_append_right (by omega), Nat.add_sub_cancel_left, hk] at hz
    cases hz; exact hlt
  have hp := List.pairwise_append.1 hs
  refine ⟨t1 ++ x :: t2, by simp, ?_, ?_⟩
  · refine List.pairwise_append.2 ⟨hp.1, List.pairwise_cons.2 ⟨fun y hy => lexC_of_le (f2 y hy) (hq y (by simp [hy])), hp.2.1⟩, fun y hy z hz => ?_⟩
    rcases List.mem_cons.1 hz with rfl | hz
    · exact .inl (f1 y hy)
    · exact hp.2.2 y hy z hz
  · have hu := up_eq' x r (P ++ x :: t1 ++ (t2 ++ Q)).length (by simp at hN ⊢; omega) t1 P (t2 ++ Q) K (by simp at hb; omega) (by omega) rfl
    have eL : P ++ [x] ++ (t1 ++ t2) ++ Q = P ++ x :: t1 ++ (t2 ++ Q) := by simp
    simp only [slices_symMergeCmpFunc_api_Come.b, e1, if_true, h5]
    rw [eL, hu]
    simp
/-- many against one -/
theorem one_sym (K : Nat) (recf : List SCome → Int → Int → Int → Option (List SCome)) (P s1 Q : List SCome) (y : SCome) (hN : (P ++ s1 ++ [y] ++ Q).length ≤ 40000) (hK : 100010 ≤ K) (hl1 : s1.length ≠ 1) (hs : s1.Pairwise lexC) (hq : ∀ x ∈ s1, qqC x y) :
    ∃ s', s'.Perm (s1 ++ [y]) ∧ s'.Pairwise lexC ∧ slices_symMergeCmpFunc_api_Come.b K recf (P ++ s1 ++ [y] ++ Q) (P.length : Int) ((P.length + s1.length : Nat) : Int) ((P.length + s1.length + 1 : Nat) : Int) = some (P ++ s' ++ Q) := by
  have hb : P.length + s1.length + 1 ≤ 40000 := by simp at hN; omega
  have e0 : IntKind.i64.wrap (((P.length + s1.length : Nat) : Int) - (P.length : Int)) = (s1.length : Int) := by rw [wrap64_small (by omega) (by omega)]; omega
  have e1 : IntKind.i64.wrap (((P.length + s1.length + 1 : Nat) : Int) - ((P.length + s1.length : Nat) : Int)) = 1 := by rw [wrap64_small (by omega) (by omega)]; omega
  have g0 : (P ++ s1 ++ [y] ++ Q)[P.length + s1.length]? = some y := get_atL (P ++ s1) Q y (by simp) (by simp)
  obtain ⟨r, h1, h2, h3, h4, h5⟩ := halves (slices_symMergeCmpFunc_api_Come.r2 (P ++ s1 ++ [y] ++ Q) ((P.length + s1.length : Nat) : Int)) (fun h => ∀ x, s1[h - P.length]? = some x → ¬ y.At < x.At) P.length (P.length + s1.length) (by omega)
    (fun i j hi hij hj => by
      simp only [slices_symMergeCmpFunc_api_Come.r2, mid_eq (show i + j ≤ 100000 by omega)]
      obtain ⟨x, hx⟩ := part_get s1 (show (i + j) / 2 - P.length < s1.length by omega)
      have g1 : (P ++ s1 ++ [y] ++ Q)[(i + j) / 2]? = some x := by
        have := get_part P s1 ([y] ++ Q) hx
        rw [List.append_assoc (P ++ s1), ← this]; congr 1; omega
      rw [if_pos (by omega), if_pos (by omega)]
      simp only [Int.toNat_natCast, g1, g0, comp_come]
      rw [if_pos (by omega)]
      by_cases hp : y.At < x.At
      · rw [if_pos hp, if_neg (fun hh => hh x hx hp)]
      · rw [if_neg hp, if_pos (fun z hz => by rw [hx] at hz; cases hz; exact hp), wrap64_small (by omega) (by omega)]
        simp)
    (fun i => by simp [slices_symMergeCmpFunc_api_Come.r2])
    (fun h h' h1 h2 h3 hp x hx hlt => by
      obtain ⟨z, hz⟩ := part_get s1 (show h' - P.length < s1.length by omega)
      have := lexC_get hs (show h - P.length ≤ h' - P.length by omega) hx hz
      exact hp z hz (by omega)) K (by omega)
  obtain ⟨t1, t2, rfl, hl⟩ := split_at s1 (r - P.length) (by omega)
  have f1 : ∀ x ∈ t1, ¬ y.At < x.At := fun x hx => by
    obtain ⟨k, hk⟩ := List.getElem?_of_mem hx
    have hkl := lt_of_get hk
    refine h3 (P.length + k) (by omega) (by omega) x ?_
    rw [Nat.add_sub_cancel_left, List.getElem?_append_left hkl, hk]
  have f2 : ∀ x ∈ t2, y.At < x.At := fun x hx => by
    obtain ⟨k, hk⟩ := List.getElem?_of_mem hx
    have hkl := lt_of_get hk
    by_cases hlt : y.At < x.At
    · exact hlt
    refine absurd (fun z hz => ?_) (h4 (r + k) (by omega) (by simp; omega))
    rw [show r + k - P.length = t1.length + k by omega, List.getElem?_append_right (by omega), Nat.add_sub_cancel_left, hk] at hz
    cases hz; exact hlt
  have hp := List.pairwise_append.1 hs
  refine ⟨t1 ++ y :: t2, ?_, ?_, ?_⟩
  · have h0 : (t1 ++ y :: t2).Perm (y :: (t1 ++ t2)) := List.perm_middle
    exact h0.trans (List.perm_append_comm (l₁ := [y]) (l₂ := t1 ++ t2))
  · refine List.pairwise_append.2 ⟨hp.1, List.pairwise_cons.2 ⟨fun z hz => .inl (f2 z hz), hp.2.1⟩, fun x hx z hz => ?_⟩
    rcases List.mem_cons.1 hz with rfl | hz
    · exact lexC_of_le (f1 x hx) (hq x (by simp [hx]))
    · exact hp.2.2 x hx z hz
  · have hd := dn_eq' y r (P ++ t1 ++ t2 ++ y :: Q).length (by simp at hN ⊢; omega) (P ++ t1) (by simp; omega) t2.length t2 Q K rfl (by simp at hb; omega) rfl
    have eL : P ++ (t1 ++ t2) ++ [y] ++ Q = P ++ t1 ++ t2 ++ y :: Q := by simp
    have ez : P.length + (t1 ++ t2).length = (P ++ t1).length + t2.length := by simp; omega
    simp only [slices_symMergeCmpFunc_api_Come.b, e0, e1, if_true]
    rw [if_neg (by omega), h5, eL, ez]
    simp only
    rw [hd]
    simp
/-- two runs that rise become one, where the halves do -/
theorem sym_step (K : Nat) (recf : List SCome → Int → Int → Int → Option (List SCome)) (P s1 s2 Q : List SCome) (hN : (P ++ s1 ++ s2 ++ Q).length ≤ 40000) (hK : 100010 ≤ K) (h1 : s1 ≠ []) (h2 : s2 ≠ []) (hs1 : s1.Pairwise lexC) (hs2 : s2.Pairwise lexC) (hq : ∀ x ∈ s1, ∀ y ∈ s2, qqC x y)
    (hrec : ∀ (P' u v Q' : List SCome), u ≠ [] → v ≠ [] → u.length + v.length < s1.length + s2.length → (P' ++ u ++ v ++ Q').length ≤ 40000 → u.Pairwise lexC → v.Pairwise lexC → (∀ x ∈ u, ∀ y ∈ v, qqC x y) →
      ∃ s', s'.Perm (u ++ v) ∧ s'.Pairwise lexC ∧ recf (P' ++ u ++ v ++ Q') (P'.length : Int) ((P'.length + u.length : Nat) : Int) ((P'.length + u.length + v.length : Nat) : Int) = some (P' ++ s' ++ Q')) :
    ∃ s', s'.Perm (s1 ++ s2) ∧ s'.Pairwise lexC ∧ slices_symMergeCmpFunc_api_Come.b K recf (P ++ s1 ++ s2 ++ Q) (P.length : Int) ((P.length + s1.length : Nat) : Int) ((P.length + s1.length + s2.length : Nat) : Int) = some (P ++ s' ++ Q) := by
  classical
  have hb : P.length + s1.length + s2.length ≤ 40000 := by simp at hN; omega
  have hl1 := List.length_pos_iff.2 h1
  have hl2 := List.length_pos_iff.2 h2
  by_cases c1 : s1.length = 1
  · obtain ⟨x, rfl⟩ := List.length_eq_one_iff.1 c1
    exact sym_one K recf P s2 Q x hN hK hs2 (fun y hy => hq x (by simp) y hy)
  by_cases c2 : s2.length = 1
  · obtain ⟨y, rfl⟩ := List.length_eq_one_iff.1 c2
    exact one_sym K recf P s1 Q y hN hK c1 hs1 (fun x hx => hq x hx y (by simp))
  generalize ha : P.length = a at *
  generalize hm : a + s1.length = m at *
  generalize hbb : m + s2.length = b at *
  have emid : IntKind.i64.wrap (Int.fdiv (IntKind.u64.wrap (IntKind.i64.wrap ((a : Int) + (b : Int)))) (2 ^ 1)) = (((a + b) / 2 : Nat) : Int) := mid_eq (by omega)
  have e0 : IntKind.i64.wrap ((m : Int) - (a : Int)) = (s1.length : Int) := by rw [wrap64_small (by omega) (by omega)]; omega
  have e1 : IntKind.i64.wrap ((b : Int) - (m : Int)) = (s2.length : Int) := by rw [wrap64_small (by omega) (by omega)]; omega
  generalize hmid : (a + b) / 2 = mid at *
  have en : IntKind.i64.wrap ((mid : Int) + (m : Int)) = ((mid + m : Nat) : Int) := by rw [wrap64_small (by omega) (by omega)]; omega
  have en1 : IntKind.i64.wrap (((mid + m : Nat) : Int) - 1) = ((mid + m - 1 : Nat) : Int) := by rw [wrap64_small (by omega) (by omega)]; omega
  have g1 : ∀ {i : Nat} {x : SCome}, a ≤ i → s1[i - a]? = some x → (P ++ s1 ++ s2 ++ Q)[i]? = some x := fun {i x} hi hx => by
    have := get_part P s1 (s2 ++ Q) hx
    rw [List.append_assoc (P ++ s1), ← this]; congr 1; omega
  have g2 : ∀ {i : Nat} {x : SCome}, m ≤ i → s2[i - m]? = some x → (P ++ s1 ++ s2 ++ Q)[i]? = some x := fun {i x} hi hx => by
    have := get_part (P ++ s1) s2 Q hx
    rw [← this]; congr 1; simp; omega
  -- where the search goes from and to
  obtain ⟨lo, hi, hp4, hlh, hmm, hlo1, hhi, hlo2, hlo3⟩ : ∃ lo hi : Nat, slices_symMergeCmpFunc_api_Come.p4 (a : Int) (m : Int) (b : Int) = some (.inl ((lo : Int), (hi : Int))) ∧ lo ≤ hi ∧ (hi = m ∨ hi = mid) ∧ a ≤ lo ∧ (hi ≤ m ∧ hi ≤ mid) ∧ mid + m ≤ lo + b ∧ (lo = a ∨ lo + b = mid + m) := by
    simp only [slices_symMergeCmpFunc_api_Come.p4, emid, en]
    by_cases hgt : m > mid
    · have enb : IntKind.i64.wrap (((mid + m : Nat) : Int) - (b : Int)) = ((mid + m - b : Nat) : Int) := by rw [wrap64_small (by omega) (by omega)]; omega
      rw [if_pos (by omega), enb]
      exact ⟨_, _, rfl, by omega, .inr rfl, by omega, by omega, by omega, .inr (by omega)⟩
    · rw [if_neg (by omega)]
      exact ⟨_, _, rfl, by omega, .inl rfl, by omega, by omega, by omega, .inl rfl⟩
  obtain ⟨r, hr1, hr2, hr3, hr4, hr5⟩ := halves (slices_symMergeCmpFunc_api_Come.r5 (P ++ s1 ++ s2 ++ Q) (a : Int) (m : Int) (b : Int)) (fun h => ∀ x y, s1[h - a]? = some x → s2[mid + m - 1 - h - m]? = some y → ¬ y.At < x.At) lo hi hlh
    (fun i j hi' hij hj => by
      simp only [slices_symMergeCmpFunc_api_Come.r5, emid, en, en1, mid_eq (show i + j ≤ 100000 by omega)]
      obtain ⟨x, hx⟩ := part_get s1 (show (i + j) / 2 - a < s1.length by omega)
      obtain ⟨y, hy⟩ := part_get s2 (show mid + m - 1 - (i + j) / 2 - m < s2.length by omega)
      have k1 := g1 (show a ≤ (i + j) / 2 by omega) hx
      have k2 := g2 (show m ≤ mid + m - 1 - (i + j) / 2 by omega) hy
      have ec : IntKind.i64.wrap (((mid + m - 1 : Nat) : Int) - (((i + j) / 2 : Nat) : Int)) = ((mid + m - 1 - (i + j) / 2 : Nat) : Int) := by rw [wrap64_small (by omega) (by omega)]; omega
      simp only [ec, Int.toNat_natCast, k1, k2, comp_come]
      rw [if_pos (by omega), if_pos (by omega), if_pos (by omega)]
      by_cases hp : y.At < x.At
      · rw [if_pos hp, if_neg (fun hh => hh x y hx hy hp)]
      · rw [if_neg hp, if_pos (fun x' y' hx' hy' => by rw [hx] at hx'; cases hx'; rw [hy] at hy'; cases hy'; exact hp), wrap64_small (by omega) (by omega)]
        simp)
    (fun i => by simp [slices_symMergeCmpFunc_api_Come.r5])
    (fun h h' q1 q2 q3 hp x y hx hy hlt => by
      obtain ⟨x', hx'⟩ := part_get s1 (show h' - a < s1.length by omega)
      obtain ⟨y', hy'⟩ := part_get s2 (show mid + m - 1 - h' - m < s2.length by omega)
      have i1 := lexC_get hs1 (show h - a ≤ h' - a by omega) hx hx'
      have i2 := lexC_get hs2 (show mid + m - 1 - h' - m ≤ mid + m - 1 - h - m by omega) hy' hy
      exact hp x' y' hx' hy' (by omega)) K (by omega)
  obtain ⟨t1, t2, rfl, hlt⟩ := split_at s1 (r - a) (by omega)
  obtain ⟨w1, w2, rfl, hlw⟩ := split_at s2 (mid - r) (by omega)
  simp only [List.length_append] at hm hbb hb hl1 hl2
  have eend : IntKind.i64.wrap (((mid + m : Nat) : Int) - (r : Int)) = ((mid + m - r : Nat) : Int) := by rw [wrap64_small (by omega) (by omega)]; omega
  generalize hend : mid + m - r = en' at *
  have p1 := List.pairwise_append.1 hs1
  have p2 := List.pairwise_append.1 hs2
  -- what goes back is less
  have f1 : ∀ x ∈ w1, ∀ y ∈ t2, x.At < y.At := fun x hx y hy => by
    obtain ⟨i, hi'⟩ := List.getElem?_of_mem hx
    obtain ⟨j, hj⟩ := List.getElem?_of_mem hy
    have hil := lt_of_get hi'
    have hjl := lt_of_get hj
    by_cases hxy : x.At < y.At
    · exact hxy
    refine absurd (fun x' y' hx' hy' => ?_) (hr4 r (Nat.le_refl _) (by rcases hmm with h | h <;> omega))
    have k1 : (t1 ++ t2)[r - a + j]? = some y := by rw [List.getElem?_append_right (by omega), show r - a + j - t1.length = j by omega]; exact hj
    have k2 : (w1 ++ w2)[i]? = some x := by rw [List.getElem?_append_left hil]; exact hi'
    have i1 := lexC_get hs1 (show r - a ≤ r - a + j by omega) hx' k1
    have i2 := lexC_get hs2 (show i ≤ mid + m - 1 - r - m by omega) k2 hy'
    omega
  have f2 : ∀ x ∈ t1, ∀ y ∈ w2, ¬ y.At < x.At := fun x hx y hy => by
    obtain ⟨i, hi'⟩ := List.getElem?_of_mem hx
    obtain ⟨j, hj⟩ := List.getElem?_of_mem hy
    have hil := lt_of_get hi'
    have hjl := lt_of_get hj
    have hrl : lo < r := by rcases hlo3 with h | h <;> omega
    have hp := hr3 (r - 1) (by omega) (by omega)
    obtain ⟨x', hx'⟩ := part_get (t1 ++ t2) (show r - 1 - a < (t1 ++ t2).length by simp; omega)
    obtain ⟨y', hy'⟩ := part_get (w1 ++ w2) (show mid + m - 1 - (r - 1) - m < (w1 ++ w2).length by simp; omega)
    have k1 : (t1 ++ t2)[i]? = some x := by rw [List.getElem?_append_left hil]; exact hi'
    have k2 : (w1 ++ w2)[w1.length + j]? = some y := by rw [List.getElem?_append_right (by omega), Nat.add_sub_cancel_left]; exact hj
    have i1 := lexC_get hs1 (show i ≤ r - 1 - a by omega) k1 hx'
    have i2 := lexC_get hs2 (show mid + m - 1 - (r - 1) - m ≤ w1.length + j by omega) hy' k2
    have := hp x' y' hx' hy'
    omega
  -- behind the turn
  have hrot : slices_symMergeCmpFunc_api_Come.p6 K (P ++ (t1 ++ t2) ++ (w1 ++ w2) ++ Q) (a : Int) (m : Int) (b : Int) (r : Int) = some (.inl (P ++ t1 ++ w1 ++ t2 ++ w2 ++ Q)) := by
    simp only [slices_symMergeCmpFunc_api_Come.p6, emid, en, eend]
    by_cases q1 : r < m
    · rw [if_pos (by omega)]
      by_cases q2 : m < en'
      · rw [if_pos (by omega)]
        have h := rot_eq t2 w1 (P ++ t1) (w2 ++ Q) K (by intro h; subst h; simp at hm; omega) (by intro h; subst h; simp at hlw; omega) (by simp at hN ⊢; omega) hK
        have k1 : (P ++ t1).length = r := by simp; omega
        have k2 : (P ++ t1).length + t2.length = m := by simp; omega
        have k3 : (P ++ t1).length + t2.length + w1.length = en' := by simp; omega
        rw [k3, k2, k1] at h
        have eL : P ++ (t1 ++ t2) ++ (w1 ++ w2) ++ Q = P ++ t1 ++ t2 ++ w1 ++ (w2 ++ Q) := by simp
        rw [eL, h]
        simp
      · rw [if_neg (by omega)]
        have : w1 = [] := List.length_eq_zero_iff.1 (by omega)
        subst this
        simp
    · rw [if_neg (by omega)]
      have : t2 = [] := List.length_eq_zero_iff.1 (by omega)
      subst this
      simp
  -- the halves
  have hA : ∃ u, u.Perm (t1 ++ w1) ∧ u.Pairwise lexC ∧ (if a < r ∧ r < mid then recf (P ++ t1 ++ w1 ++ t2 ++ w2 ++ Q) (a : Int) (r : Int) (mid : Int) else some (P ++ t1 ++ w1 ++ t2 ++ w2 ++ Q)) = some (P ++ u ++ t2 ++ w2 ++ Q) := by
    by_cases hc : a < r ∧ r < mid
    · rw [if_pos hc]
      obtain ⟨u, hu1, hu2, hu3⟩ := hrec P t1 w1 (t2 ++ w2 ++ Q) (by intro h; subst h; simp at hlt; omega) (by intro h; subst h; simp at hlw; omega) (by simp; omega) (by simp at hN ⊢; omega) p1.1 p2.1 (fun x hx y hy => hq x (by simp [hx]) y (by simp [hy]))
      refine ⟨u, hu1, hu2, ?_⟩
      rw [ha, show a + t1.length = r by omega, show r + w1.length = mid by omega] at hu3
      have eL : P ++ t1 ++ w1 ++ t2 ++ w2 ++ Q = P ++ t1 ++ w1 ++ (t2 ++ w2 ++ Q) := by simp
      rw [eL, hu3]
      simp
    · rw [if_neg hc]
      refine ⟨t1 ++ w1, List.Perm.refl _, ?_, by simp⟩
      by_cases hc1 : a < r
      · have : w1 = [] := List.length_eq_zero_iff.1 (by omega)
        subst this; simpa using p1.1
      · have : t1 = [] := List.length_eq_zero_iff.1 (by omega)
        subst this; simpa using p2.1
  obtain ⟨u, hu1, hu2, hu3⟩ := hA
  have hul : u.length = t1.length + w1.length := by rw [hu1.length_eq]; simp
  have hB : ∃ v, v.Perm (t2 ++ w2) ∧ v.Pairwise lexC ∧ (if mid < en' ∧ en' < b then recf (P ++ u ++ t2 ++ w2 ++ Q) (mid : Int) (en' : Int) (b : Int) else some (P ++ u ++ t2 ++ w2 ++ Q)) = some (P ++ u ++ v ++ Q) := by
    by_cases hc : mid < en' ∧ en' < b
    · rw [if_pos hc]
      obtain ⟨v, hv1, hv2, hv3⟩ := hrec (P ++ u) t2 w2 Q (by intro h; subst h; simp at hm; omega) (by intro h; subst h; simp at hbb; omega) (by simp; omega) (by simp at hN ⊢; omega) p1.2.1 p2.2.1 (fun x hx y hy => hq x (by simp [hx]) y (by simp [hy]))
      refine ⟨v, hv1, hv2, ?_⟩
      rw [show (P ++ u).length = mid by simp; omega, show mid + t2.length = en' by omega, show en' + w2.length = b by omega] at hv3
      rw [hv3]
    · rw [if_neg hc]
      refine ⟨t2 ++ w2, List.Perm.refl _, ?_, by simp⟩
      by_cases hc1 : mid < en'
      · have : w2 = [] := List.length_eq_zero_iff.1 (by omega)
        subst this; simpa using p1.2.1
      · have : t2 = [] := List.length_eq_zero_iff.1 (by omega)
        subst this; simpa using p2.2.1
  obtain ⟨v, hv1, hv2, hv3⟩ := hB
  refine ⟨u ++ v, ?_, ?_, ?_⟩
  · have h3 : (u ++ v).Perm ((t1 ++ w1) ++ (t2 ++ w2)) := hu1.append hv1
    refine h3.trans ?_
    have h4 : (w1 ++ (t2 ++ w2)).Perm (t2 ++ (w1 ++ w2)) := by
      rw [← List.append_assoc, ← List.append_assoc]
      exact (List.perm_append_comm (l₁ := w1) (l₂ := t2)).append_right w2
    simpa using h4.append_left t1
  · refine List.pairwise_append.2 ⟨hu2, hv2, fun x hx y hy => ?_⟩
    rcases List.mem_append.1 (hu1.mem_iff.1 hx) with hx | hx <;> rcases List.mem_append.1 (hv1.mem_iff.1 hy) with hy | hy
    · exact p1.2.2 x hx y hy
    · exact lexC_of_le (f2 x hx y hy) (hq x (by simp [hx]) y (by simp [hy]))
    · exact .inl (f1 x hx y hy)
    · exact p2.2.2 x hx y hy
  · simp only [slices_symMergeCmpFunc_api_Come.b, e0, e1, hp4, hr5, hrot, emid, en, eend]
    rw [if_neg (by simp at c1 ⊢; omega), if_neg (by simp at c2 ⊢; omega)]
    have hfin : P ++ u ++ v ++ Q = P ++ (u ++ v) ++ Q := by simp
    rw [← hfin]
    generalize P ++ t1 ++ w1 ++ t2 ++ w2 ++ Q = L1 at hu3 ⊢
    generalize P ++ u ++ t2 ++ w2 ++ Q = L2 at hu3 hv3
    generalize P ++ u ++ v ++ Q = L3 at hv3 ⊢
    by_cases q1 : a < r <;> by_cases q2 : r < mid <;> by_cases q3 : mid < en' <;> by_cases q4 : en' < b <;>
      simp only [q1, q2, q3, q4, and_true, and_false, true_and, false_and, if_true, if_false, Int.ofNat_lt] at hu3 hv3 ⊢ <;>
      first
      | (obtain rfl := Option.some.inj hu3; obtain rfl := Option.some.inj hv3; rfl)
      | (obtain rfl := Option.some.inj hu3; simp only [hv3])
      | (obtain rfl := Option.some.inj hv3; simp only [hu3])
      | simp only [hu3, hv3]
theorem symMerge_rec (K : Nat) (hK : 100010 ≤ K) : ∀ (n : Nat) (P s1 s2 Q : List SCome), s1.length + s2.length ≤ n → (P ++ s1 ++ s2 ++ Q).length ≤ 40000 → s1 ≠ [] → s2 ≠ [] → s1.Pairwise lexC → s2.Pairwise lexC → (∀ x ∈ s1, ∀ y ∈ s2, qqC x y) →
    ∃ s', s'.Perm (s1 ++ s2) ∧ s'.Pairwise lexC ∧ slices_symMergeCmpFunc_api_Come.rec K n (P ++ s1 ++ s2 ++ Q) (P.length : Int) ((P.length + s1.length : Nat) : Int) ((P.length + s1.length + s2.length : Nat) : Int) = some (P ++ s' ++ Q)
  | 0, P, s1, s2, Q, hn, hN, h1, h2, _, _, _ => by
    have := List.length_pos_iff.2 h1
    omega
  | n + 1, P, s1, s2, Q, hn, hN, h1, h2, hs1, hs2, hq =>
    sym_step K (slices_symMergeCmpFunc_api_Come.rec K n) P s1 s2 Q hN hK h1 h2 hs1 hs2 hq (fun P' u v Q' g1 g2 g3 g4 g5 g6 g7 => symMerge_rec K hK n P' u v Q' (by omega) g4 g1 g2 g5 g6 g7)
theorem symMerge_eq (K : Nat) (hK : 100010 ≤ K) (P s1 s2 Q : List SCome) (hN : (P ++ s1 ++ s2 ++ Q).length ≤ 40000) (h1 : s1 ≠ []) (h2 : s2 ≠ []) (hs1 : s1.Pairwise lexC) (hs2 : s2.Pairwise lexC) (hq : ∀ x ∈ s1, ∀ y ∈ s2, qqC x y) :
    ∃ s', s'.Perm (s1 ++ s2) ∧ s'.Pairwise lexC ∧ slices_symMergeCmpFunc_api_Come.f K (P ++ s1 ++ s2 ++ Q) (P.length : Int) ((P.length + s1.length : Nat) : Int) ((P.length + s1.length + s2.length : Nat) : Int) = some (P ++ s' ++ Q) :=
  symMerge_rec K hK K P s1 s2 Q (by simp at hN; omega) hN h1 h2 hs1 hs2 hq
/-- all blocks but the last one are whole -/
def Full (bs : Nat) : List (List SCome) → Prop
  | [] => True
  | [b] => b.length ≤ bs
  | b :: c :: r => b.length = bs ∧ Full bs (c :: r)
theorem full_add (bs : Nat) (s : List SCome) (hs : s.length ≤ bs) : ∀ Bd : List (List SCome), (∀ B ∈ Bd, B.length = bs) → Full bs (Bd ++ [s])
  | [], _ => hs
  | [b], h => ⟨h b (by simp), hs⟩
  | b :: c :: r, h => ⟨h b (by simp), full_add bs s hs (c :: r) (fun B hB => h B (List.mem_cons_of_mem _ hB))⟩
theorem stable_blocks (n : Nat) (hn : n ≤ 20000) (K : Nat) (hK : 100010 ≤ K) : ∀ (k : Nat) (rest : List SCome) (Bd : List (List SCome)) (K' : Nat), rest.length ≤ k → k < K' → (∀ B ∈ Bd, B.length = 20 ∧ B.Pairwise lexC) → (Bd.flatten ++ rest).Pairwise qqC → (Bd.flatten ++ rest).length = n →
    ∃ (z : Int) (m : List SCome) (Bs : List (List SCome)), iter (slices_stableCmpFunc_api_Come.r0 K (n : Int)) K' ((Bd.flatten.length : Int), ((Bd.flatten.length + 20 : Nat) : Int), Bd.flatten ++ rest) = some (.inl (z, m)) ∧ slices_insertionSortCmpFunc_api_Come.f K m z (n : Int) = some Bs.flatten ∧ Full 20 Bs ∧ (∀ B ∈ Bs, B.Pairwise lexC) ∧ Bs.flatten.Perm (Bd.flatten ++ rest) ∧ Bs.flatten.Pairwise qqC
  | k, rest, Bd, 0, h1, h2, h3, h4, h5 => by omega
  | k, rest, Bd, K' + 1, h1, h2, h3, h4, h5 => by
    simp only [List.length_append] at h5
    have hq := List.pairwise_append.1 h4
    by_cases hr : 20 ≤ rest.length
    · obtain ⟨s, rest', rfl, hs⟩ := split_at rest 20 hr
      simp only [List.length_append] at h5 h1
      have hqs := List.pairwise_append.1 hq.2.1
      obtain ⟨s', p, hs', hr'⟩ := insCome_eq Bd.flatten s rest' K (by simp only [List.length_append]; omega) (by omega) hqs.1
      have hl' : s'.length = 20 := by rw [p.length_eq]; exact hs
      have ef : (Bd ++ [s']).flatten = Bd.flatten ++ s' := by simp
      obtain ⟨z, m, Bs, i1, i2, i3, i4, i5, i6⟩ := stable_blocks n hn K hK (k - 1) rest' (Bd ++ [s']) K' (by omega) (by omega)
        (fun B hB => by rcases List.mem_append.1 hB with hB | hB; exact h3 B hB; rw [List.mem_singleton.1 hB]; exact ⟨hl', hs'⟩)
        (by
          rw [ef, List.append_assoc]
          refine List.pairwise_append.2 ⟨hq.1, List.pairwise_append.2 ⟨hs'.imp fun h => h.qq, hqs.2.1, fun x hx y hy => hqs.2.2 x (p.mem_iff.1 hx) y hy⟩, fun x hx y hy => ?_⟩
          rcases List.mem_append.1 hy with hy | hy
          · exact hq.2.2 x hx y (List.mem_append_left _ (p.mem_iff.1 hy))
          · exact hq.2.2 x hx y (List.mem_append_right _ hy)) (by rw [ef]; simp only [List.length_append]; omega)
      refine ⟨z, m, Bs, ?_, i2, i3, i4, ?_, i6⟩
      · simp only [iter, slices_stableCmpFunc_api_Come.r0]
        rw [if_pos (by omega), ← hs, ← List.append_assoc, hr', hs]
        have e : IntKind.i64.wrap (((Bd.flatten.length + 20 : Nat) : Int) + 20) = ((Bd.flatten.length + 20 + 20 : Nat) : Int) := by rw [wrap64_small (by omega) (by omega)]; omega
        simp only [e]
        rw [ef, List.length_append, hl'] at i1
        exact i1
      · refine i5.trans ?_
        rw [ef, List.append_assoc]
        exact (p.append_right rest').append_left _
    · obtain ⟨s', p, hs', hr'⟩ := insCome_eq Bd.flatten rest [] K (by simp only [List.length_append, List.length_nil]; omega) (by omega) hq.2.1
      refine ⟨(Bd.flatten.length : Int), Bd.flatten ++ rest, Bd ++ [s'], ?_, ?_, full_add 20 s' (by rw [p.length_eq]; omega) Bd (fun B hB => (h3 B hB).1), ?_, ?_, ?_⟩
      · simp only [iter, slices_stableCmpFunc_api_Come.r0]
        rw [if_neg (by omega)]
      · simp only [List.append_nil, h5] at hr'
        rw [hr']
        simp
      · intro B hB
        rcases List.mem_append.1 hB with hB | hB
        · exact (h3 B hB).2
        · rw [List.mem_singleton.1 hB]; exact hs'
      · simpa using p.append_left Bd.flatten
      · simp only [List.flatten_append, List.flatten_cons, List.flatten_nil, List.append_nil]
        exact List.pairwise_append.2 ⟨hq.1, hs'.imp fun h => h.qq, fun x hx y hy => hq.2.2 x hx y (p.mem_iff.1 hy)⟩
theorem full_len {bs : Nat} : ∀ {Bs : List (List SCome)}, Full bs Bs → ∀ B ∈ Bs, B.length ≤ bs
  | [], _, B, hB => by cases hB
  | [b], h, B, hB => by rw [List.mem_singleton.1 hB]; exact h
  | b :: c :: r, h, B, hB => by
    rcases List.mem_cons.1 hB with rfl | hB
    · exact Nat.le_of_eq h.1
    · exact full_len h.2 B hB
/-- one pass: two blocks become one -/
theorem stable_pass (n bs : Nat) (hn : n ≤ 20000) (hbs : 1 ≤ bs ∧ bs ≤ 20000) (K : Nat) (hK : 100010 ≤ K) : ∀ (k : Nat) (Bs : List (List SCome)) (D : List SCome) (K' : Nat), Bs.length ≤ k → k < K' → Full bs Bs → (∀ B ∈ Bs, B.Pairwise lexC) → Bs.flatten.Pairwise qqC → D.length + Bs.flatten.length = n →
    ∃ (z : Int) (m : List SCome) (Bs' : List (List SCome)), iter (slices_stableCmpFunc_api_Come.r2 K (n : Int) (bs : Int)) K' ((D.length : Int), ((D.length + 2 * bs : Nat) : Int), D ++ Bs.flatten) = some (.inl (z, m)) ∧
      (if IntKind.i64.wrap (z + (bs : Int)) < (n : Int) then slices_symMergeCmpFunc_api_Come.f K m z (IntKind.i64.wrap (z + (bs : Int))) (n : Int) else some m) = some (D ++ Bs'.flatten) ∧ Full (2 * bs) Bs' ∧ (∀ B ∈ Bs', B.Pairwise lexC) ∧ Bs'.flatten.Perm Bs.flatten ∧ Bs'.flatten.Pairwise qqC
  | k, Bs, D, 0, h1, h2, h3, h4, h5, h6 => by omega
  | k, [], D, K' + 1, h1, h2, h3, h4, h5, h6 => by
    simp only [List.flatten_nil, List.length_nil, Nat.add_zero] at h6
    refine ⟨(D.length : Int), D ++ [].flatten, [], ?_, ?_, trivial, h4, List.Perm.refl _, h5⟩
    · simp only [iter, slices_stableCmpFunc_api_Come.r2]
      rw [if_neg (by omega)]
    · rw [wrap64_small (by omega) (by omega), if_neg (by omega)]
  | k, [b], D, K' + 1, h1, h2, h3, h4, h5, h6 => by
    simp only [List.flatten_cons, List.flatten_nil, List.append_nil] at h6
    have hb : b.length ≤ bs := h3
    refine ⟨(D.length : Int), D ++ [b].flatten, [b], ?_, ?_, (show b.length ≤ 2 * bs by omega), h4, List.Perm.refl _, h5⟩
    · simp only [iter, slices_stableCmpFunc_api_Come.r2]
      rw [if_neg (by omega)]
    · rw [wrap64_small (by omega) (by omega), if_neg (by omega)]
  | k, b :: c :: r, D, K' + 1, h1, h2, h3, h4, h5, h6 => by
    obtain ⟨hb, h3'⟩ := h3
    have hc : c.length ≤ bs := full_len h3' c (by simp)
    have ef : (b :: c :: r).flatten = b ++ c ++ r.flatten := by simp
    rw [ef] at h5 h6
    simp only [List.length_append] at h6
    have hq := List.pairwise_append.1 h5
    have hq1 := List.pairwise_append.1 hq.1
    have hbne : b ≠ [] := List.length_pos_iff.1 (by omega)
    by_cases hcb : c.length = bs
    · -- two whole ones
      have hcne : c ≠ [] := List.length_pos_iff.1 (by omega)
      obtain ⟨s, p, hs, hm⟩ := symMerge_eq K hK D b c r.flatten (by simp only [List.length_append]; omega) hbne hcne (h4 b (by simp)) (h4 c (by simp)) hq1.2.2
      have hsl : s.length = 2 * bs := by rw [p.length_eq]; simp; omega
      have h3'' : Full bs r := by
        cases r with
        | nil => trivial
        | cons d r => exact h3'.2
      obtain ⟨z, m, Bs', i1, i2, i3, i4, i5, i6⟩ := stable_pass n bs hn hbs K hK (k - 1) r (D ++ s) K' (by simp at h1; omega) (by simp at h1; omega) h3'' (fun B hB => h4 B (by simp [hB])) hq.2.1 (by simp only [List.length_append]; omega)
      refine ⟨z, m, s :: Bs', ?_, by rw [i2]; simp, ?_, ?_, ?_, ?_⟩
      · simp only [iter, slices_stableCmpFunc_api_Come.r2]
        have e1 : IntKind.i64.wrap ((D.length : Int) + (bs : Int)) = ((D.length + b.length : Nat) : Int) := by rw [wrap64_small (by omega) (by omega)]; omega
        have e2 : ((D.length + 2 * bs : Nat) : Int) = ((D.length + b.length + c.length : Nat) : Int) := by omega
        have e3 : IntKind.i64.wrap (((D.length + b.length + c.length : Nat) : Int) + IntKind.i64.wrap (2 * (bs : Int))) = ((D.length + b.length + c.length + 2 * bs : Nat) : Int) := by
          rw [wrap64_small (n := 2 * (bs : Int)) (by omega) (by omega), wrap64_small (by omega) (by omega)]; omega
        have eL : D ++ (b :: c :: r).flatten = D ++ b ++ c ++ r.flatten := by simp
        rw [if_pos (by omega), e1, e2, eL, hm]
        simp only [e3]
        have e4 : (D ++ s).length = D.length + b.length + c.length := by simp; omega
        rw [e4] at i1
        exact i1
      · cases Bs' with
        | nil => exact (show s.length ≤ 2 * bs by omega)
        | cons B r' => exact ⟨hsl, i3⟩
      · intro B hB
        rcases List.mem_cons.1 hB with rfl | hB
        · exact hs
        · exact i4 B hB
      · rw [ef, List.flatten_cons]
        exact p.append i5
      · rw [List.flatten_cons]
        refine List.pairwise_append.2 ⟨hs.imp fun h => h.qq, i6, fun x hx y hy => hq.2.2 x (p.mem_iff.1 hx) y (i5.mem_iff.1 hy)⟩
    · -- the last one is short
      have hr : r = [] := by
        cases r with
        | nil => rfl
        | cons d r => exact absurd h3'.1 hcb
      subst hr
      simp only [List.flatten_nil, List.length_nil, Nat.add_zero, List.append_nil] at h6 h5 hq ef
      have hex : iter (slices_stableCmpFunc_api_Come.r2 K (n : Int) (bs : Int)) (K' + 1) ((D.length : Int), ((D.length + 2 * bs : Nat) : Int), D ++ [b, c].flatten) = some (.inl ((D.length : Int), D ++ [b, c].flatten)) := by
        simp only [iter, slices_stableCmpFunc_api_Come.r2]
        rw [if_neg (by omega)]
      have e1 : IntKind.i64.wrap ((D.length : Int) + (bs : Int)) = ((D.length + b.length : Nat) : Int) := by rw [wrap64_small (by omega) (by omega)]; omega
      by_cases hcne : c = []
      · subst hcne
        refine ⟨(D.length : Int), D ++ [b, []].flatten, [b], hex, ?_, (show b.length ≤ 2 * bs by omega), fun B hB => h4 B (by rw [List.mem_singleton.1 hB]; simp), by simp, by simpa using h5⟩
        rw [e1, if_neg (by simp at h6; omega)]
        simp
      · have hcl := List.length_pos_iff.2 hcne
        obtain ⟨s, p, hs, hm⟩ := symMerge_eq K hK D b c [] (by simp only [List.length_append, List.length_nil]; omega) hbne hcne (h4 b (by simp)) (h4 c (by simp)) hq1.2.2
        refine ⟨(D.length : Int), D ++ [b, c].flatten, [s], hex, ?_, (show s.length ≤ 2 * bs by rw [p.length_eq]; simp; omega), fun B hB => by rw [List.mem_singleton.1 hB]; exact hs, by simpa using p, by simpa using (hs.imp fun h => h.qq : s.Pairwise qqC)⟩
        rw [e1, if_pos (by omega), show (n : Int) = ((D.length + b.length + c.length : Nat) : Int) by omega, show D ++ [b, c].flatten = D ++ b ++ c ++ [] by simp, hm]
        simp
theorem stable_outer (n : Nat) (hn : n ≤ 20000) (K : Nat) (hK : 100010 ≤ K) (x : List SCome) : ∀ (k bs : Nat) (Bs : List (List SCome)) (K' : Nat), n - bs ≤ k → k < K' → 1 ≤ bs → bs ≤ 40000 → Full bs Bs → (∀ B ∈ Bs, B.Pairwise lexC) → Bs.flatten.Pairwise qqC → Bs.flatten.length = n →
    ∃ s, s.Perm Bs.flatten ∧ s.Pairwise lexC ∧ iter (slices_stableCmpFunc_api_Come.r1 K (n : Int) x) K' ((bs : Int), Bs.flatten) = some (.inl s)
  | k, bs, Bs, 0, h1, h2, _, _, _, _, _, _ => by omega
  | k, bs, Bs, K' + 1, h1, h2, h3, h3', h4, h5, h6, h7 => by
    by_cases hlt : bs < n
    · obtain ⟨z, m, Bs', i1, i2, i3, i4, i5, i6⟩ := stable_pass n bs hn ⟨h3, by omega⟩ K hK Bs.length Bs [] K (Nat.le_refl _) (by
          have : ∀ Bs : List (List SCome), Full bs Bs → Bs.length ≤ Bs.flatten.length + 1 := fun Bs => by
            induction Bs with
            | nil => simp
            | cons b r ih =>
              intro hf
              cases r with
              | nil => simp
              | cons c r =>
                have i0 := ih hf.2
                have i1 := hf.1
                rw [List.flatten_cons, List.length_append]
                simp only [List.length_cons] at i0 ⊢
                omega
          have := this Bs h4
          omega) h4 h5 h6 (by simpa using h7)
      obtain ⟨s, p, hs, hr⟩ := stable_outer n hn K hK x (k - 1) (bs * 2) Bs' K' (by omega) (by omega) (by omega) (by omega) (by rw [Nat.mul_comm]; exact i3) i4 i6 (by rw [i5.length_eq]; exact h7)
      refine ⟨s, p.trans i5, hs, ?_⟩
      have e1 : IntKind.i64.wrap (2 * (bs : Int)) = ((0 + 2 * bs : Nat) : Int) := by rw [wrap64_small (by omega) (by omega)]; omega
      have e2 : IntKind.i64.wrap ((bs : Int) * 2) = ((bs * 2 : Nat) : Int) := by rw [wrap64_small (by omega) (by omega)]; omega
      simp only [List.length_nil, List.nil_append] at i1 i2
      rw [show ((0 : Nat) : Int) = 0 from rfl] at i1
      simp only [iter, slices_stableCmpFunc_api_Come.r1]
      rw [if_pos (by omega), e1, i1]
      simp only
      by_cases hz : IntKind.i64.wrap (z + (bs : Int)) < (n : Int)
      · rw [if_pos hz] at i2 ⊢
        rw [i2]
        simp only [e2]
        exact hr
      · rw [if_neg hz] at i2 ⊢
        rw [Option.some.inj i2]
        simp only [e2]
        exact hr
    · refine ⟨Bs.flatten, List.Perm.refl _, ?_, ?_⟩
      · cases Bs with
        | nil => simp
        | cons b r =>
          cases r with
          | nil => simpa using h5 b (by simp)
          | cons c r =>
            have hb := h4.1
            simp only [List.flatten_cons, List.length_append] at h7
            have hz : c ++ r.flatten = [] := List.length_eq_zero_iff.1 (by simp only [List.length_append]; omega)
            rw [List.flatten_cons, List.flatten_cons, hz, List.append_nil]
            exact h5 b (by simp)
      · simp only [iter, slices_stableCmpFunc_api_Come.r1]
        rw [if_neg (by omega)]
/-- the library's sort that keeps what is alike in its order -/
theorem stable_eq (l : List SCome) (hl : l.length ≤ 20000) (hq : l.Pairwise qqC) (K : Nat) (hK : 100010 ≤ K) : ∃ s, s.Perm l ∧ s.Pairwise lexC ∧ slices_SortStableFunc_api_Come_api_Come.f K l = some s := by
  obtain ⟨z, m, Bs, i1, i2, i3, i4, i5, i6⟩ := stable_blocks l.length hl K hK l.length l [] K (Nat.le_refl _) (by omega) (fun B hB => by cases hB) (by simpa using hq) (by simp)
  simp only [List.flatten_nil, List.length_nil, List.nil_append, Nat.zero_add] at i1 i5
  rw [show ((0 : Nat) : Int) = 0 from rfl, show ((20 : Nat) : Int) = 20 from rfl] at i1
  obtain ⟨s, p, hs, hr⟩ := stable_outer l.length hl K hK Bs.flatten l.length 20 Bs K (by omega) (by omega) (by omega) (by omega) i3 i4 i6 i5.length_eq
  rw [show ((20 : Nat) : Int) = 20 from rfl] at hr
  exact ⟨s, p.trans i5, hs, by simp only [slices_SortStableFunc_api_Come_api_Come.f, slices_stableCmpFunc_api_Come.f, i1, i2, hr]⟩

/-- so often does a task come ahead of a time -/
def cnt (t : STask) (u : Int) : Int := if u > t.O then (u - t.O + t.T - 1) / t.T else 0
/-- how a task comes -/
def rowC (i : Nat) (t : STask) (a : Nat) : Nat → List SCome
  | 0 => []
  | c + 1 => ⟨(i : Int), t.O + t.T * (a : Int)⟩ :: rowC i t (a + 1) c
theorem rowC_len (i : Nat) (t : STask) : ∀ (c a : Nat), (rowC i t a c).length = c
  | 0, a => rfl
  | c + 1, a => by simp [rowC, rowC_len i t c]
theorem rowC_mem {i : Nat} {t : STask} {x : SCome} : ∀ {c a : Nat}, x ∈ rowC i t a c ↔ ∃ j : Nat, a ≤ j ∧ j < a + c ∧ x = ⟨(i : Int), t.O + t.T * (j : Int)⟩
  | 0, a => by simp [rowC]; intro j h1 h2; omega
  | c + 1, a => by
    simp only [rowC, List.mem_cons, rowC_mem (c := c)]
    constructor
    · rintro (rfl | ⟨j, h1, h2, rfl⟩)
      · exact ⟨a, Nat.le_refl _, by omega, rfl⟩
      · exact ⟨j, by omega, by omega, rfl⟩
    · rintro ⟨j, h1, h2, rfl⟩
      by_cases e : j = a
      · subst e; exact .inl rfl
      · exact .inr ⟨j, by omega, by omega, rfl⟩
def rawTill (l : List STask) (u : Int) : Nat → List SCome
  | 0 => []
  | n + 1 => rawTill l u n ++ (match l[n]? with | some t => rowC n t 0 (cnt t u).toNat | none => [])
def totalTill (l : List STask) (u : Int) : Nat → Int
  | 0 => 0
  | n + 1 => totalTill l u n + (match l[n]? with | some t => cnt t u | none => 0)
theorem cnt_bounds {t : STask} {u : Int} (h : Okt t) (hu : 0 ≤ u ∧ u ≤ 20000) : 0 ≤ cnt t u ∧ cnt t u ≤ 20000 ∧ u ≤ t.O + t.T * cnt t u ∧ (1 ≤ cnt t u → t.O + t.T * (cnt t u - 1) < u) := by
  obtain ⟨h1, h2, h3, h4, h5, h6⟩ := h
  unfold cnt
  split
  · have hd := Int.emod_add_mul_ediv (u - t.O + t.T - 1) t.T
    have hm1 := Int.emod_nonneg (u - t.O + t.T - 1) (show t.T ≠ 0 by omega)
    have hm2 := Int.emod_lt_of_pos (u - t.O + t.T - 1) (show 0 < t.T by omega)
    have hn : 0 ≤ (u - t.O + t.T - 1) / t.T := Int.ediv_nonneg (by omega) (by omega)
    generalize (u - t.O + t.T - 1) / t.T = q at *
    generalize (u - t.O + t.T - 1) % t.T = r at *
    refine ⟨hn, ?_, by omega, fun _ => by rw [Int.mul_sub]; omega⟩
    have : q ≤ t.T * q := by
      have := Int.mul_le_mul_of_nonneg_right (show (1 : Int) ≤ t.T by omega) hn
      omega
    by_cases hq : q ≤ 20000
    · exact hq
    have h20 : t.T * (q - 1) ≥ q - 1 := by
      have := Int.mul_le_mul_of_nonneg_right (show (1 : Int) ≤ t.T by omega) (show 0 ≤ q - 1 by omega)
      omega
    rw [Int.mul_sub] at h20
    omega
  · exact ⟨by omega, by omega, by omega, fun h => by omega⟩
theorem raw_total {l : List STask} {u : Int} (hl : ∀ t ∈ l, Okt t) (hu : 0 ≤ u ∧ u ≤ 20000) : ∀ n, ((rawTill l u n).length : Int) = totalTill l u n
  | 0 => rfl
  | n + 1 => by
    simp only [rawTill, totalTill, List.length_append]
    have := raw_total hl hu n
    cases h : l[n]? with
    | none => simp; omega
    | some t =>
      have := (cnt_bounds (hl t (List.mem_of_getElem? h)) hu).1
      simp only [rowC_len]
      omega
theorem raw_mono (l : List STask) (u : Int) {n m : Nat} (h : n ≤ m) : (rawTill l u n).length ≤ (rawTill l u m).length := by
  induction h with
  | refl => exact Nat.le_refl _
  | step h ih => simp only [rawTill, List.length_append]; omega
theorem comes_inner (u : Int) (hu : u ≤ 20000) (i : Nat) (t : STask) (ht : Okt t) : ∀ (c a : Nat) (m : List SCome) (K : Nat), c < K → m.length ≤ 4000 → u ≤ t.O + t.T * ((a + c : Nat) : Int) → (1 ≤ c → t.O + t.T * ((a + c - 1 : Nat) : Int) < u) →
    iter (tasks_Comes.r2 u i t) K (m, t.O + t.T * (a : Int)) = some (if m.length + c ≤ 4000 then .inl (m ++ rowC i t a c) else .inr ([], ⟨2, 0⟩))
  | 0, a, m, K + 1, hK, hm, h1, h2 => by
    simp only [iter, tasks_Comes.r2]
    rw [if_neg (by simpa using h1), if_pos (by omega)]
    simp [rowC]
  | c + 1, a, m, K + 1, hK, hm, h1, h2 => by
    have ht0 := ht
    obtain ⟨t1, t2, t3, t4, t5, t6⟩ := ht
    have h2' := h2 (by omega)
    have hle : t.T * (a : Int) ≤ t.T * ((a + (c + 1) - 1 : Nat) : Int) := Int.mul_le_mul_of_nonneg_left (by omega) (by omega)
    have hnn : 0 ≤ t.T * (a : Int) := Int.mul_nonneg (by omega) (by omega)
    simp only [iter, tasks_Comes.r2]
    rw [if_pos (by omega), if_pos (by omega)]
    simp only [List.length_append, List.length_cons, List.length_nil]
    by_cases hlen : m.length = 4000
    · rw [if_pos (by omega), if_neg (by omega)]
    · rw [if_neg (by omega)]
      have e : IntKind.i64.wrap (t.O + t.T * (a : Int) + t.T) = t.O + t.T * ((a + 1 : Nat) : Int) := by
        rw [wrap64_small (by omega) (by omega), show ((a + 1 : Nat) : Int) = (a : Int) + 1 by omega, Int.mul_add]
        omega
      simp only [e]
      rw [comes_inner u hu i t ht0 c (a + 1) (m ++ [(⟨(i : Int), t.O + t.T * (a : Int)⟩ : SCome)]) K (by omega) (by simp; omega) (by rw [show a + 1 + c = a + (c + 1) by omega]; exact h1) (fun h => by rw [show a + 1 + c - 1 = a + (c + 1) - 1 by omega]; exact h2')]
      simp only [List.length_append, List.length_cons, List.length_nil, rowC, List.append_assoc, List.singleton_append]
      rw [show m.length + (0 + 1) + c = m.length + (c + 1) by omega]
theorem comes_outer (l : List STask) (u : Int) (hl : ∀ t ∈ l, Okt t) (hu : 0 ≤ u ∧ u ≤ 20000) (K : Nat) (hK : 20010 ≤ K) : ∀ (d i : Nat) (K' : Nat), d < K' → i + d = l.length → (rawTill l u i).length ≤ 4000 →
    iter (tasks_Comes.r1 K l u) K' (rawTill l u i, i) = some (if (rawTill l u l.length).length ≤ 4000 then .inl (rawTill l u l.length) else .inr ([], ⟨2, 0⟩))
  | 0, i, K' + 1, hK', hi, hm => by
    obtain rfl : i = l.length := by omega
    simp only [iter, tasks_Comes.r1]
    rw [if_neg (by omega), if_pos hm]
  | d + 1, i, K' + 1, hK', hi, hm => by
    have hil : i < l.length := by omega
    obtain ⟨t, ht⟩ : ∃ t, l[i]? = some t := ⟨l[i], List.getElem?_eq_getElem hil⟩
    have hto := hl t (List.mem_of_getElem? ht)
    obtain ⟨c1, c2, c3, c4⟩ := cnt_bounds hto hu
    have hin := comes_inner u hu.2 i t hto (cnt t u).toNat 0 (rawTill l u i) K (by omega) hm (by rw [show ((0 + (cnt t u).toNat : Nat) : Int) = cnt t u by omega]; exact c3) (fun h => by rw [show ((0 + (cnt t u).toNat - 1 : Nat) : Int) = cnt t u - 1 by omega]; exact c4 (by omega))
    rw [show t.O + t.T * ((0 : Nat) : Int) = t.O by simp] at hin
    have er : rawTill l u (i + 1) = rawTill l u i ++ rowC i t 0 (cnt t u).toNat := by simp only [rawTill, ht]
    have el : (rawTill l u (i + 1)).length = (rawTill l u i).length + (cnt t u).toNat := by rw [er]; simp [rowC_len]
    simp only [iter, tasks_Comes.r1, ht]
    rw [if_pos (by omega), hin]
    by_cases hc : (rawTill l u i).length + (cnt t u).toNat ≤ 4000
    · rw [if_pos hc]
      simp only [← er]
      exact comes_outer l u hl hu K hK d (i + 1) K' (by omega) (by omega) (by omega)
    · rw [if_neg hc, if_neg (by have := raw_mono l u (show i + 1 ≤ l.length by omega); omega)]
/-- those that come at a time -/
def rowAt (l : List STask) (z : Int) : Nat → List SCome
  | 0 => []
  | n + 1 => rowAt l z n ++ (match l[n]? with | some t => if t.O ≤ z ∧ (z - t.O) % t.T = 0 then [⟨(n : Int), z⟩] else [] | none => [])
def soonTo (l : List STask) : Nat → List SCome
  | 0 => []
  | n + 1 => soonTo l n ++ rowAt l (n : Int) l.length
theorem rowAt_mem {l : List STask} {z : Int} {x : SCome} : ∀ {n : Nat}, x ∈ rowAt l z n ↔ ∃ (i : Nat) (t : STask), i < n ∧ l[i]? = some t ∧ t.O ≤ z ∧ (z - t.O) % t.T = 0 ∧ x = ⟨(i : Int), z⟩
  | 0 => by simp [rowAt]
  | n + 1 => by
    simp only [rowAt, List.mem_append, rowAt_mem (n := n)]
    constructor
    · rintro (⟨i, t, h1, h2⟩ | h)
      · exact ⟨i, t, by omega, h2⟩
      · split at h
        · rename_i t ht
          split at h
          · rename_i hc
            exact ⟨n, t, by omega, ht, hc.1, hc.2, List.mem_singleton.1 h⟩
          · cases h
        · cases h
    · rintro ⟨i, t, h1, h2, h3, h4, rfl⟩
      by_cases e : i = n
      · subst e
        right
        simp only [h2]
        rw [if_pos ⟨h3, h4⟩]
        exact List.mem_singleton.2 rfl
      · exact .inl ⟨i, t, by omega, h2, h3, h4, rfl⟩
theorem soonTo_mem {l : List STask} {x : SCome} : ∀ {n : Nat}, x ∈ soonTo l n ↔ ∃ (z i : Nat) (t : STask), z < n ∧ l[i]? = some t ∧ t.O ≤ (z : Int) ∧ ((z : Int) - t.O) % t.T = 0 ∧ x = ⟨(i : Int), (z : Int)⟩
  | 0 => by simp [soonTo]
  | n + 1 => by
    simp only [soonTo, List.mem_append, soonTo_mem (n := n), rowAt_mem]
    constructor
    · rintro (⟨z, i, t, h1, h2⟩ | ⟨i, t, h1, h2, h3, h4, rfl⟩)
      · exact ⟨z, i, t, by omega, h2⟩
      · exact ⟨n, i, t, by omega, h2, h3, h4, rfl⟩
    · rintro ⟨z, i, t, h1, h2, h3, h4, rfl⟩
      by_cases e : z = n
      · subst e; exact .inr ⟨i, t, lt_of_get h2, h2, h3, h4, rfl⟩
      · exact .inl ⟨z, i, t, by omega, h2, h3, h4, rfl⟩
theorem rowAt_lex (l : List STask) (z : Int) : ∀ n, (rowAt l z n).Pairwise lexC
  | 0 => by simp [rowAt]
  | n + 1 => by
    simp only [rowAt]
    refine List.pairwise_append.2 ⟨rowAt_lex l z n, ?_, fun x hx y hy => ?_⟩
    · split
      · split <;> simp
      · simp
    · obtain ⟨i, t, h1, h2, h3, h4, rfl⟩ := rowAt_mem.1 hx
      split at hy
      · split at hy
        · rw [List.mem_singleton.1 hy]
          exact .inr ⟨rfl, show (i : Int) < (n : Int) by omega⟩
        · cases hy
      · cases hy
theorem soonTo_lex (l : List STask) : ∀ n, (soonTo l n).Pairwise lexC
  | 0 => by simp [soonTo]
  | n + 1 => by
    simp only [soonTo]
    refine List.pairwise_append.2 ⟨soonTo_lex l n, rowAt_lex l _ _, fun x hx y hy => ?_⟩
    obtain ⟨z, i, t, h1, h2, h3, h4, rfl⟩ := soonTo_mem.1 hx
    obtain ⟨i', t', g1, g2, g3, g4, rfl⟩ := rowAt_mem.1 hy
    exact .inl (show (z : Int) < (n : Int) by omega)
theorem lexC_asymm {x y : SCome} (h : lexC x y) (h2 : lexC y x) : False := by
  rcases h with h | ⟨h, h'⟩ <;> rcases h2 with g | ⟨g, g'⟩ <;> simp only [cAt, cTask] at * <;> omega
theorem lex_unique : ∀ {s t : List SCome}, s.Pairwise lexC → t.Pairwise lexC → (∀ c, c ∈ s ↔ c ∈ t) → s = t
  | [], [], _, _, _ => rfl
  | [], y :: t, _, _, h => by have := (h y).2 (by simp); cases this
  | x :: s, [], _, _, h => by have := (h x).1 (by simp); cases this
  | x :: s, y :: t, hs, ht, h => by
    obtain ⟨s1, s2⟩ := List.pairwise_cons.1 hs
    obtain ⟨t1, t2⟩ := List.pairwise_cons.1 ht
    have e : x = y := by
      rcases List.mem_cons.1 ((h x).1 (by simp)) with h1 | h1
      · exact h1
      · rcases List.mem_cons.1 ((h y).2 (by simp)) with h2 | h2
        · exact h2.symm
        · exact (lexC_asymm (t1 x h1) (s1 y h2)).elim
    subst e
    have hirr : ∀ z, z ∈ s → z ≠ x := fun z hz e => by subst e; exact lexC_asymm (s1 z hz) (s1 z hz)
    have hirr' : ∀ z, z ∈ t → z ≠ x := fun z hz e => by subst e; exact lexC_asymm (t1 z hz) (t1 z hz)
    rw [lex_unique s2 t2 (fun c => ⟨fun hc => by
      rcases List.mem_cons.1 ((h c).1 (by simp [hc])) with h1 | h1
      · exact absurd h1 (hirr c hc)
      · exact h1, fun hc => by
      rcases List.mem_cons.1 ((h c).2 (by simp [hc])) with h1 | h1
      · exact absurd h1 (hirr' c hc)
      · exact h1⟩)]
theorem raw_mem {l : List STask} {u : Int} {x : SCome} : ∀ {n : Nat}, x ∈ rawTill l u n ↔ ∃ (i : Nat) (t : STask) (j : Nat), i < n ∧ l[i]? = some t ∧ j < (cnt t u).toNat ∧ x = ⟨(i : Int), t.O + t.T * (j : Int)⟩
  | 0 => by simp [rawTill]
  | n + 1 => by
    simp only [rawTill, List.mem_append, raw_mem (n := n)]
    constructor
    · rintro (⟨i, t, j, h1, h2⟩ | h)
      · exact ⟨i, t, j, by omega, h2⟩
      · split at h
        · rename_i t ht
          obtain ⟨j, h1, h2, rfl⟩ := rowC_mem.1 h
          exact ⟨n, t, j, by omega, ht, by omega, rfl⟩
        · cases h
    · rintro ⟨i, t, j, h1, h2, h3, rfl⟩
      by_cases e : i = n
      · subst e
        right
        simp only [h2]
        exact rowC_mem.2 ⟨j, by omega, by omega, rfl⟩
      · exact .inl ⟨i, t, j, by omega, h2, h3, rfl⟩
theorem rowC_qq (i : Nat) (t : STask) (ht : 1 ≤ t.T) : ∀ (c a : Nat), (rowC i t a c).Pairwise qqC
  | 0, a => by simp [rowC]
  | c + 1, a => by
    simp only [rowC, List.pairwise_cons]
    refine ⟨fun x hx => ?_, rowC_qq i t ht c (a + 1)⟩
    obtain ⟨j, h1, h2, rfl⟩ := rowC_mem.1 hx
    intro e
    simp only [cAt] at e
    have : t.T * ((j : Int) - (a : Int)) > 0 := Int.mul_pos (by omega) (by omega)
    rw [Int.mul_sub] at this
    omega
theorem raw_qq (l : List STask) (u : Int) (hl : ∀ t ∈ l, Okt t) : ∀ n, (rawTill l u n).Pairwise qqC
  | 0 => by simp [rawTill]
  | n + 1 => by
    simp only [rawTill]
    refine List.pairwise_append.2 ⟨raw_qq l u hl n, ?_, fun x hx y hy => ?_⟩
    · split
      · rename_i t ht
        exact rowC_qq n t (hl t (List.mem_of_getElem? ht)).T.1 _ _
      · simp
    · obtain ⟨i, t, j, h1, h2, h3, rfl⟩ := raw_mem.1 hx
      split at hy
      · obtain ⟨k, g1, g2, rfl⟩ := rowC_mem.1 hy
        exact fun _ => show (i : Int) < (n : Int) by omega
      · cases hy
theorem raw_soon {l : List STask} {u : Int} (hl : ∀ t ∈ l, Okt t) (hu : 0 ≤ u ∧ u ≤ 20000) (c : SCome) : c ∈ rawTill l u l.length ↔ c ∈ soonTo l u.toNat := by
  rw [raw_mem, soonTo_mem]
  constructor
  · rintro ⟨i, t, j, h1, h2, h3, rfl⟩
    have ho := hl t (List.mem_of_getElem? h2)
    obtain ⟨c1, c2, c3, c4⟩ := cnt_bounds ho hu
    obtain ⟨t1, t2, t3, t4, t5, t6⟩ := ho
    have hnn : 0 ≤ t.T * (j : Int) := Int.mul_nonneg (by omega) (by omega)
    have hle : t.T * (j : Int) ≤ t.T * (cnt t u - 1) := Int.mul_le_mul_of_nonneg_left (by omega) (by omega)
    have := c4 (by omega)
    refine ⟨(t.O + t.T * (j : Int)).toNat, i, t, by omega, h2, by omega, ?_, ?_⟩
    · rw [show (((t.O + t.T * (j : Int)).toNat : Nat) : Int) - t.O = t.T * (j : Int) by omega]
      exact Int.mul_emod_right _ _
    · rw [show (((t.O + t.T * (j : Int)).toNat : Nat) : Int) = t.O + t.T * (j : Int) by omega]
  · rintro ⟨z, i, t, h1, h2, h3, h4, rfl⟩
    have ho := hl t (List.mem_of_getElem? h2)
    obtain ⟨c1, c2, c3, c4⟩ := cnt_bounds ho hu
    obtain ⟨t1, t2, t3, t4, t5, t6⟩ := ho
    have hd := Int.emod_add_mul_ediv ((z : Int) - t.O) t.T
    have hn : 0 ≤ ((z : Int) - t.O) / t.T := Int.ediv_nonneg (by omega) (by omega)
    rw [h4] at hd
    generalize ((z : Int) - t.O) / t.T = q at *
    refine ⟨i, t, q.toNat, lt_of_get h2, h2, ?_, ?_⟩
    · have : t.T * q < t.T * cnt t u := by omega
      have := Int.lt_of_mul_lt_mul_left this (by omega)
      omega
    · rw [show ((q.toNat : Nat) : Int) = q by omega, show t.O + t.T * q = (z : Int) by omega]
/-- how tasks come that come as soon as they may -/
noncomputable def soonOf (l : List STask) (u : Int) : List SCome × SFault :=
  if (setFault l).Code = 0 then (if u < 0 ∨ u > 20000 then ([], ⟨3, 0⟩) else if totalTill l u l.length > 4000 then ([], ⟨2, 0⟩) else (soonTo l u.toNat, ⟨0, 0⟩)) else ([], setFault l)
theorem Comes_eq (l : List STask) (u : Int) (K : Nat) (hK : 100010 ≤ K) : tasks_Comes.f K l u = some (soonOf l u) := by
  unfold tasks_Comes.f soonOf
  rw [Check_eq l K (by omega)]
  simp only
  by_cases h0 : (setFault l).Code = 0
  · rw [if_pos h0, if_pos h0]
    have hl := okt_of h0
    have hlen := (setFault_ok h0).2.1
    by_cases h1 : u < 0 ∨ u > 20000
    · rw [if_pos h1]
      rcases h1 with h1 | h1
      · simp only [tasks_Comes.p0, if_pos h1]
      · have h1' : ¬ u < 0 := by omega
        simp only [tasks_Comes.p0, if_neg h1', if_pos h1]
    · rw [if_neg h1]
      have hu : 0 ≤ u ∧ u ≤ 20000 := by omega
      have h1' : ¬ u < 0 := by omega
      have h1'' : ¬ u > 20000 := by omega
      have ho := comes_outer l u hl hu K (by omega) l.length 0 K (by omega) (by omega) (by simp [rawTill])
      have ht := raw_total hl hu l.length
      simp only [rawTill] at ho
      simp only [tasks_Comes.p0, if_neg h1', if_neg h1'', ho]
      by_cases h2 : totalTill l u l.length > 4000
      · rw [if_pos h2, if_neg (by omega)]
      · rw [if_neg h2, if_pos (by omega)]
        obtain ⟨s, p, hs, hr⟩ := stable_eq (rawTill l u l.length) (by omega) (raw_qq l u hl l.length) K hK
        simp only [hr]
        rw [lex_unique hs (soonTo_lex l u.toNat) (fun c => by rw [p.mem_iff]; exact raw_soon hl hu c)]
  · rw [if_neg h0, if_neg h0]
theorem soonTo_len (l : List STask) : ∀ n, (soonTo l n).length ≤ n * l.length
  | 0 => by simp [soonTo]
  | n + 1 => by
    have hlen : ∀ z n, (rowAt l z n).length ≤ n := fun z n => by
      induction n with
      | zero => simp [rowAt]
      | succ n ih =>
        simp only [rowAt, List.length_append]
        split
        · split <;> simp <;> omega
        · simp; omega
    have := hlen (n : Int) l.length
    have := soonTo_len l n
    simp only [soonTo, List.length_append, Nat.succ_mul]
    omega
theorem soon_len {l : List STask} {u : Int} (hl : ∀ t ∈ l, Okt t) (hu : 0 ≤ u ∧ u ≤ 20000) (h : totalTill l u l.length ≤ 4000) : (soonTo l u.toNat).length ≤ 4000 := by
  have ht := raw_total hl hu l.length
  obtain ⟨s, p, hs, hr⟩ := stable_eq (rawTill l u l.length) (by omega) (raw_qq l u hl l.length) 100010 (Nat.le_refl _)
  rw [← lex_unique hs (soonTo_lex l u.toNat) (fun c => by rw [p.mem_iff]; exact raw_soon hl hu c), p.length_eq]
  omega
theorem soonOf_len (l : List STask) (u : Int) : (soonOf l u).1.length ≤ 4000 := by
  unfold soonOf
  split
  · rename_i h0
    split
    · simp
    · rename_i h1
      split
      · simp
      · rename_i h2
        exact soon_len (okt_of h0) (by omega) (by omega)
  · simp
/-- they may come so -/
theorem soon_legal {l : List STask} {u : Int} (h : (soonOf l u).2.Code = 0) : (comesFault l (soonOf l u).1).Code = 0 := by
  unfold soonOf at h ⊢
  by_cases h0 : (setFault l).Code = 0
  · rw [if_pos h0] at h ⊢
    by_cases h1 : u < 0 ∨ u > 20000
    · rw [if_pos h1] at h; cases h
    rw [if_neg h1] at h ⊢
    have hu : 0 ≤ u ∧ u ≤ 20000 := by omega
    by_cases h2 : totalTill l u l.length > 4000
    · rw [if_pos h2] at h; cases h
    rw [if_neg h2]
    have hl := okt_of h0
    have hlen := soon_len hl hu (by omega)
    have hlx := soonTo_lex l u.toNat
    simp only
    generalize hc : soonTo l u.toNat = s at *
    have hmem : ∀ c ∈ s, ∃ (z i : Nat) (t : STask), z < u.toNat ∧ l[i]? = some t ∧ t.O ≤ (z : Int) ∧ ((z : Int) - t.O) % t.T = 0 ∧ c = ⟨(i : Int), (z : Int)⟩ := fun c hcs => soonTo_mem.1 (by rw [hc]; exact hcs)
    unfold comesFault
    rw [if_pos h0, if_neg (by omega), firstOf_none_of (fun i _ hi => ?_)]
    · rfl
    have hx : s[i]? = some s[i] := List.getElem?_eq_getElem hi
    generalize s[i] = c at hx
    obtain ⟨z, ti, t, g1, g2, g3, g4, rfl⟩ := hmem c (List.mem_of_getElem? hx)
    have htl := lt_of_get g2
    unfold comeAt
    rw [hx]
    simp only
    rw [if_neg (by omega), if_neg (by omega), if_neg ?_]
    · cases hlo : lastOf s (ti : Int) i with
      | none => rfl
      | some k =>
        have hk := lastOf_lt hlo
        obtain ⟨b, hb, hbt⟩ := lastOf_task hlo
        simp only [hb, Int.toNat_natCast, g2]
        rw [if_neg]
        obtain ⟨z', ti', t', e1, e2, e3, e4, rfl⟩ := hmem b (List.mem_of_getElem? hb)
        simp only at hbt
        obtain rfl : ti' = ti := by omega
        rw [g2] at e2
        cases e2
        have hlt : lexC (⟨(ti' : Int), (z' : Int)⟩ : SCome) ⟨(ti' : Int), (z : Int)⟩ := by
          obtain ⟨hk1, hk2⟩ := List.getElem?_eq_some_iff.1 hb
          obtain ⟨hi1, hi2⟩ := List.getElem?_eq_some_iff.1 hx
          rw [← hk2, ← hi2]
          exact List.pairwise_iff_getElem.1 hlx k i hk1 hi1 hk
        have hz : (z' : Int) < (z : Int) := by rcases hlt with h | ⟨_, h⟩ <;> simp only [cAt, cTask] at h <;> omega
        have d1 := Int.dvd_of_emod_eq_zero g4
        have d2 := Int.dvd_of_emod_eq_zero e4
        have d3 := Int.dvd_sub d1 d2
        rw [show (z : Int) - t.O - ((z' : Int) - t.O) = (z : Int) - z' by omega] at d3
        have := Int.le_of_dvd (by omega) d3
        simp only
        omega
    · rintro ⟨b, hb0, hb, hlt⟩
      obtain ⟨hk1, hk2⟩ := List.getElem?_eq_some_iff.1 hb
      obtain ⟨hi1, hi2⟩ := List.getElem?_eq_some_iff.1 hx
      have := List.pairwise_iff_getElem.1 hlx (i - 1) i hk1 hi1 (by omega)
      rw [hk2, hi2] at this
      have := lexC_le this
      omega
  · rw [if_neg h0] at h
    exact absurd h h0

/-- what is wrong with the i-th job that is played -/
def playAt (l : List SJob) (i : Nat) : Option SFault := match l[i]? with
  | some e => if e.At < 0 ∨ e.At > 60000 ∨ e.C < 1 ∨ e.C > 10000 ∨ e.Due < 0 ∨ e.Due > 80000 then some ⟨3, (i : Int)⟩ else none
  | none => none
def playFault (l : List SJob) : SFault := if l.length > 4000 then ⟨2, 0⟩ else (firstOf (playAt l) l.length 0).getD ⟨0, 0⟩
theorem schedCheck_eq (l : List SJob) (K : Nat) (hK : 4010 ≤ K) : sched_Check.f K l = some (playFault l) := by
  unfold sched_Check.f playFault
  by_cases hl : (l.length : Int) > 4000
  · rw [if_pos hl, if_pos (by omega)]
  rw [if_neg hl, if_neg (by omega)]
  have hr := iter_first0 (f := sched_Check.r0 l) (playAt l) l.length (t := ()) (fun i hi => by
    have hi' : (i : Int) < (l.length : Int) := by omega
    simp only [sched_Check.r0, if_pos hi', List.getElem?_eq_getElem hi, playAt]
    generalize l[i] = e
    by_cases h : e.At < 0 ∨ e.At > 60000 ∨ e.C < 1 ∨ e.C > 10000 ∨ e.Due < 0 ∨ e.Due > 80000
    · rw [if_pos h]
      repeat' split
      all_goals first | rfl | omega
    · rw [if_neg h]
      rw [if_neg (by omega), if_neg (by omega), if_neg (by omega), if_neg (by omega), if_neg (by omega), if_neg (by omega)]
      rfl) (by simp [sched_Check.r0]) (K := K) (by omega)
  rw [hr]
  cases firstOf (playAt l) l.length 0 <;> rfl
structure Okj (e : SJob) : Prop where
  At : 0 ≤ e.At ∧ e.At ≤ 60000
  C : 1 ≤ e.C ∧ e.C ≤ 10000
  Due : 0 ≤ e.Due ∧ e.Due ≤ 80000
theorem playFault_ok {l : List SJob} (h : (playFault l).Code = 0) : l.length ≤ 4000 ∧ playFault l = ⟨0, 0⟩ ∧ ∀ e ∈ l, Okj e := by
  unfold playFault at h ⊢
  split at h
  · cases h
  rename_i hl
  cases hf : firstOf (playAt l) l.length 0 with
  | none =>
    refine ⟨by omega, by rw [if_neg hl]; rfl, fun e he => ?_⟩
    obtain ⟨i, hi⟩ := List.mem_iff_getElem?.1 he
    have := firstOf_none hf i (Nat.zero_le _) (lt_of_get hi)
    simp only [playAt, hi] at this
    split at this
    · cases this
    · exact ⟨by omega, by omega, by omega⟩
  | some r =>
    rw [hf] at h
    obtain ⟨j, _, hj, hg, _⟩ := firstOf_some hf
    exfalso
    simp only [playAt, List.getElem?_eq_getElem hj] at hg
    split at hg
    · cases hg; cases h
    · cases hg
theorem playFault_of {l : List SJob} (hl : l.length ≤ 4000) (h : ∀ e ∈ l, Okj e) : playFault l = ⟨0, 0⟩ := by
  unfold playFault
  rw [if_neg (by omega), firstOf_none_of]
  · rfl
  · intro j _ hj
    have he := h l[j] (List.getElem_mem hj)
    have := he.At; have := he.C; have := he.Due
    simp only [playAt, List.getElem?_eq_getElem hj]
    rw [if_neg (by omega)]
/-- job a goes ahead of job b, by a policy, then by their times -/
def aheadJ (p : Int) (a b : SJob) : Prop := if p = 1 then a.P > b.P ∨ (a.P = b.P ∧ a.At < b.At) else a.Due < b.Due ∨ (a.Due = b.Due ∧ a.At < b.At)
instance (p : Int) (a b : SJob) : Decidable (aheadJ p a b) := by unfold aheadJ; infer_instance
theorem compare_eq (x y : Int) : cmp_Compare_int.f x y = if x < y then -1 else if x > y then 1 else 0 := by simp [cmp_Compare_int.f, cmp_isNaN_int.f]
theorem or2_eq (x y : Int) (K : Nat) (hK : 3 ≤ K) : cmp_Or_int.f K [x, y] = some (if x = 0 then y else x) := by
  obtain ⟨K, rfl⟩ : ∃ k, K = k + 3 := ⟨K - 3, by omega⟩
  simp only [cmp_Or_int.f, iter, cmp_Or_int.r0]
  by_cases hx : x = 0 <;> by_cases hy : y = 0 <;> simp [hx, hy]
/-- can it run at t? -/
def canJ (jobs : List SJob) (left : List Int) (t : Int) (i : Nat) : Prop := match jobs[i]?, left[i]? with
  | some j, some x => j.At ≤ t ∧ 0 < x
  | _, _ => False
instance (jobs : List SJob) (left : List Int) (t : Int) (i : Nat) : Decidable (canJ jobs left t i) := by unfold canJ; split <;> infer_instance
/-- the first of the first n -/
def firstTo (p : Int) (jobs : List SJob) (left : List Int) (t : Int) : Nat → Int
  | 0 => -1
  | n + 1 =>
    let b := firstTo p jobs left t n
    if canJ jobs left t n then
      (if b < 0 then (n : Int) else match jobs[n]?, jobs[b.toNat]? with
        | some x, some y => if aheadJ p x y then (n : Int) else b
        | _, _ => b)
    else b
theorem firstTo_cases (p : Int) (jobs : List SJob) (left : List Int) (t : Int) : ∀ n, n ≤ jobs.length → (firstTo p jobs left t n = -1 ∧ ∀ i, i < n → ¬ canJ jobs left t i) ∨
    (∃ (b : Nat) (y : SJob), firstTo p jobs left t n = (b : Int) ∧ b < n ∧ jobs[b]? = some y ∧ canJ jobs left t b ∧ ∀ i x, i < n → jobs[i]? = some x → canJ jobs left t i → ¬ aheadJ p x y ∧ (i < b → aheadJ p y x))
  | 0, _ => .inl ⟨rfl, fun i h => by omega⟩
  | n + 1, hn => by
    have hnx : jobs[n]? = some jobs[n] := List.getElem?_eq_getElem (by omega)
    generalize jobs[n] = x at hnx
    have irr : ∀ x : SJob, ¬ aheadJ p x x := fun x h => by unfold aheadJ at h; split at h <;> omega
    have tr : ∀ x y z : SJob, aheadJ p x y → ¬ aheadJ p z y → ¬ aheadJ p z x := fun x y z h k hh => by
      unfold aheadJ at h k hh; split at h <;> simp_all <;> omega
    have tr2 : ∀ x y z : SJob, aheadJ p x y → aheadJ p y z → aheadJ p x z := fun x y z h k => by
      unfold aheadJ at h k ⊢; split at h <;> simp_all <;> omega
    have tr3 : ∀ x y z : SJob, aheadJ p x y → ¬ aheadJ p z y → aheadJ p x z := fun x y z h k => by
      unfold aheadJ at h k ⊢; split at h <;> simp_all <;> omega
    rcases firstTo_cases p jobs left t n (by omega) with ⟨h1, h2⟩ | ⟨b, y, h1, h2, h3, h4, h5⟩
    · by_cases hc : canJ jobs left t n
      · right
        refine ⟨n, x, by simp only [firstTo, if_pos hc, h1]; rfl, by omega, hnx, hc, fun i z hi hz hcz => ?_⟩
        by_cases hin : i = n
        · subst hin; rw [hnx] at hz; cases hz; exact ⟨irr _, fun h => by omega⟩
        · exact absurd hcz (h2 i (by omega))
      · left
        refine ⟨by simp only [firstTo, if_neg hc, h1], fun i hi => ?_⟩
        by_cases hin : i = n
        · subst hin; exact hc
        · exact h2 i (by omega)
    · right
      by_cases hc : canJ jobs left t n
      · by_cases ha : aheadJ p x y
        · refine ⟨n, x, by simp only [firstTo, if_pos hc, h1, Int.toNat_natCast, hnx, h3, if_pos ha]; rw [if_neg (by omega)], by omega, hnx, hc, fun i z hi hz hcz => ?_⟩
          by_cases hin : i = n
          · subst hin; rw [hnx] at hz; cases hz; exact ⟨irr _, fun h => by omega⟩
          · obtain ⟨g1, g2⟩ := h5 i z (by omega) hz hcz
            exact ⟨tr x y z ha g1, fun _ => tr3 x y z ha g1⟩
        · refine ⟨b, y, by simp only [firstTo, if_pos hc, h1, Int.toNat_natCast, hnx, h3, if_neg ha]; rw [if_neg (by omega)], by omega, h3, h4, fun i z hi hz hcz => ?_⟩
          by_cases hin : i = n
          · subst hin; rw [hnx] at hz; cases hz; exact ⟨ha, fun h => by omega⟩
          · exact h5 i z (by omega) hz hcz
      · refine ⟨b, y, by simp only [firstTo, if_neg hc, h1], by omega, h3, h4, fun i z hi hz hcz => ?_⟩
        by_cases hin : i = n
        · subst hin; exact absurd hcz hc
        · exact h5 i z (by omega) hz hcz
theorem can_eq (jobs : List SJob) (left : List Int) (t : Int) (i : Nat) (hi : i < jobs.length) (hl : left.length = jobs.length) : sched_Play_1.f (i : Int) jobs t left = some (decide (canJ jobs left t i)) := by
  have h1 : jobs[i]? = some jobs[i] := List.getElem?_eq_getElem hi
  have h2 : left[i]? = some (left[i]'(by omega)) := List.getElem?_eq_getElem (by omega)
  simp only [sched_Play_1.f, Int.toNat_natCast, h1, h2, canJ]
  rw [if_pos (by omega)]
  by_cases h : jobs[i].At ≤ t
  · simp [h]
  · simp [h]
theorem First_eq (p : Int) (hp : p = 1 ∨ p = 2) (jobs : List SJob) (left : List Int) (t : Int) (hl : left.length = jobs.length) (K : Nat) (hK : jobs.length + 5 ≤ K) : sched_First.f K jobs jobs t left p = some (firstTo p jobs left t jobs.length) := by
  unfold sched_First.f
  have hr := iter_states (ρ := Int) (f := sched_First.r0 K jobs jobs t left p) (fun i => (firstTo p jobs left t i, i)) (fun _ => none) jobs.length (t := firstTo p jobs left t jobs.length) (fun i hi _ => by
    have hi' : (i : Int) < (jobs.length : Int) := by omega
    have h1 : jobs[i]? = some jobs[i] := List.getElem?_eq_getElem hi
    simp only [sched_First.r0, if_pos hi', h1, can_eq jobs left t i hi hl, decide_eq_true_eq, onwardS]
    by_cases hc : canJ jobs left t i
    · rw [if_pos hc]
      rcases firstTo_cases p jobs left t i (by omega) with ⟨g1, _⟩ | ⟨b, y, g1, g2, g3, _, _⟩
      · rw [g1, if_pos (by omega)]
        simp only [firstTo, if_pos hc, g1]
        rfl
      · rw [g1, if_neg (by omega), if_pos (by omega)]
        simp only [Int.toNat_natCast, g3]
        have e1 : firstTo p jobs left t (i + 1) = if aheadJ p jobs[i] y then (i : Int) else (b : Int) := by
          simp only [firstTo, if_pos hc, g1, Int.toNat_natCast, h1, g3]
          rw [if_neg (by omega)]
        rw [e1]
        rcases hp with rfl | rfl
        · simp [sched_rule.f, or2_eq _ _ K (show 3 ≤ K by omega), sched_byPriority.f, compare_eq, aheadJ]
          repeat' split
          all_goals first | rfl | (exfalso; omega) | simp_all
        · simp [sched_rule.f, or2_eq _ _ K (show 3 ≤ K by omega), sched_byDue.f, compare_eq, aheadJ]
          repeat' split
          all_goals first | rfl | (exfalso; omega) | simp_all
    · rw [if_neg hc]
      simp only [firstTo, if_neg hc]) (fun _ => by simp [sched_First.r0]) (K := K) (by omega)
  have h0 : firstTo p jobs left t 0 = -1 := rfl
  rw [h0, firstOf_none_of (fun _ _ _ => rfl)] at hr
  rw [hr]; rfl

theorem getD_of {l : List Int} {i : Nat} {x : Int} (h : l[i]? = some x) : l.getD i 0 = x := by simp [List.getD, h]
theorem get_of_lt {l : List Int} {i : Nat} (h : i < l.length) : l[i]? = some (l.getD i 0) := by simp [List.getD, h]
theorem getD_set (l : List Int) (i j : Nat) (x : Int) (hi : i < l.length) : (l.set i x).getD j 0 = if i = j then x else l.getD j 0 := by
  simp only [List.getD, List.getElem?_set]
  by_cases h : i = j
  · subst h; simp [hi]
  · simp [h]
def atN (jobs : List SJob) (j : Nat) : Nat := match jobs[j]? with | some e => e.At.toNat | none => 0
def costOf (jobs : List SJob) (j : Nat) : Int := (jobs.map (·.C)).getD j 0
theorem costOf_some {jobs : List SJob} {j : Nat} {e : SJob} (h : jobs[j]? = some e) : costOf jobs j = e.C := by simp [costOf, List.getD, h]
theorem atN_some {jobs : List SJob} {j : Nat} {e : SJob} (h : jobs[j]? = some e) : atN jobs j = e.At.toNat := by simp [atN, h]

/-- who runs in a tick -/
def nowOf (p : Int) (pre : Bool) (jobs : List SJob) (t : Int) (now : Int) (left : List Int) : Int :=
  if pre = true ∨ now < 0 ∨ left.getD now.toNat 0 = 0 then firstTo p jobs left t jobs.length else now
/-- one tick -/
def tickP (p : Int) (pre : Bool) (jobs : List SJob) (t : Int) (s : Int × List Int × List Int) : Int × List Int × List Int :=
  let b := nowOf p pre jobs t s.1 s.2.1
  if b < 0 then (b, s.2.1, s.2.2)
  else
    let left' := s.2.1.set b.toNat (s.2.1.getD b.toNat 0 - 1)
    (b, left', if left'.getD b.toNat 0 = 0 then s.2.2.set b.toNat (t + 1) else s.2.2)
/-- how it stands behind so many ticks: who ran last, what is left, the ends -/
def simP (p : Int) (pre : Bool) (jobs : List SJob) : Nat → Int × List Int × List Int
  | 0 => (-1, jobs.map (·.C), List.replicate jobs.length (-1))
  | t + 1 => tickP p pre jobs (t : Int) (simP p pre jobs t)
/-- what is left of job j behind t ticks -/
def leftP (p : Int) (pre : Bool) (jobs : List SJob) (t j : Nat) : Int := (simP p pre jobs t).2.1.getD j 0
def endP (p : Int) (pre : Bool) (jobs : List SJob) (t j : Nat) : Int := (simP p pre jobs t).2.2.getD j 0
/-- who runs in tick t -/
def runP (p : Int) (pre : Bool) (jobs : List SJob) (t : Nat) : Int := (simP p pre jobs (t + 1)).1
structure SimOk (jobs : List SJob) (s : Int × List Int × List Int) : Prop where
  left : s.2.1.length = jobs.length
  ends : s.2.2.length = jobs.length
  now : s.1 = -1 ∨ ∃ b : Nat, s.1 = (b : Int) ∧ b < jobs.length
  nonneg : ∀ j, 0 ≤ s.2.1.getD j 0
  small : ∀ j, s.2.1.getD j 0 ≤ 10000
theorem nowOf_cases {p : Int} {pre : Bool} {jobs : List SJob} {s : Int × List Int × List Int} (h : SimOk jobs s) (t : Int) : (nowOf p pre jobs t s.1 s.2.1 = -1) ∨
    ∃ b : Nat, nowOf p pre jobs t s.1 s.2.1 = (b : Int) ∧ b < jobs.length ∧ 0 < s.2.1.getD b 0 := by
  unfold nowOf
  by_cases hc : pre = true ∨ s.1 < 0 ∨ s.2.1.getD s.1.toNat 0 = 0
  · rw [if_pos hc]
    rcases firstTo_cases p jobs s.2.1 t jobs.length (Nat.le_refl _) with ⟨h1, _⟩ | ⟨b, y, h1, h2, h3, h4, _⟩
    · exact .inl h1
    · refine .inr ⟨b, h1, h2, ?_⟩
      have hb : s.2.1[b]? = some (s.2.1.getD b 0) := get_of_lt (by rw [h.left]; exact h2)
      unfold canJ at h4
      rw [h3, hb] at h4
      exact h4.2
  · rw [if_neg hc]
    rcases h.now with h1 | ⟨b, h1, h2⟩
    · exact .inl h1
    · refine .inr ⟨b, h1, h2, ?_⟩
      have h3 : ¬ s.2.1.getD b 0 = 0 := fun h' => hc (.inr (.inr (by rw [h1]; exact h')))
      have := h.nonneg b
      omega
theorem tickP_ok {p : Int} {pre : Bool} {jobs : List SJob} {s : Int × List Int × List Int} (h : SimOk jobs s) (t : Int) : SimOk jobs (tickP p pre jobs t s) := by
  unfold tickP
  rcases nowOf_cases (p := p) (pre := pre) h t with h1 | ⟨b, h1, h2, h3⟩
  · simp only [h1]
    rw [if_pos (by omega)]
    exact ⟨h.left, h.ends, .inl rfl, h.nonneg, h.small⟩
  · simp only [h1, Int.toNat_natCast]
    rw [if_neg (by omega)]
    have hbl : b < s.2.1.length := by rw [h.left]; exact h2
    refine ⟨by simp [h.left], ?_, .inr ⟨b, rfl, h2⟩, fun j => ?_, fun j => ?_⟩
    · simp only
      split <;> simp [h.ends]
    · rw [getD_set _ _ _ _ hbl]
      split
      · omega
      · exact h.nonneg j
    · rw [getD_set _ _ _ _ hbl]
      have := h.small b
      split
      · omega
      · exact h.small j
theorem simP_ok (p : Int) (pre : Bool) {jobs : List SJob} (hj : ∀ e ∈ jobs, Okj e) : ∀ t, SimOk jobs (simP p pre jobs t)
  | 0 => by
    have key : ∀ j, 0 ≤ (jobs.map (·.C)).getD j 0 ∧ (jobs.map (·.C)).getD j 0 ≤ 10000 := fun j => by
      simp only [List.getD, List.getElem?_map]
      cases hx : jobs[j]? with
      | none => simp
      | some e => have := (hj e (List.mem_of_getElem? hx)).C; simp; omega
    exact ⟨by simp [simP], by simp [simP], .inl rfl, fun j => (key j).1, fun j => (key j).2⟩
  | t + 1 => tickP_ok (simP_ok p pre hj t) _
def runsTill (p : Int) (pre : Bool) (jobs : List SJob) (n t : Nat) : List Int := (List.range n).map fun s => if s < t then runP p pre jobs s else 0
theorem Sched_p5_eq (p : Int) (hp : p = 1 ∨ p = 2) (pre : Bool) (jobs : List SJob) (t : Int) (s : Int × List Int × List Int) (h : SimOk jobs s) (K : Nat) (hK : jobs.length + 5 ≤ K) : sched_Play.p5 K jobs p pre s.1 t s.2.1 = some (.inl (nowOf p pre jobs t s.1 s.2.1)) := by
  have hF := First_eq p hp jobs s.2.1 t h.left K hK
  unfold sched_Play.p5 nowOf
  by_cases h1 : pre = true
  · rw [if_pos h1, if_pos (.inl h1), hF]
  rw [if_neg h1]
  by_cases h2 : s.1 < 0
  · rw [if_pos h2, if_pos (.inr (.inl h2)), hF]
  rw [if_neg h2, if_pos (by omega)]
  rcases h.now with h3 | ⟨b, h3, h4⟩
  · omega
  · have hb : s.2.1[s.1.toNat]? = some (s.2.1.getD s.1.toNat 0) := get_of_lt (by rw [h.left, h3]; simpa using h4)
    rw [hb]
    simp only
    by_cases h5 : s.2.1.getD s.1.toNat 0 = 0
    · rw [if_pos h5, if_pos (.inr (.inr h5)), hF]
    · rw [if_neg h5, if_neg]
      rintro (h6 | h6 | h6)
      · exact h1 h6
      · exact h2 h6
      · exact h5 h6
theorem Play_r4_eq (p : Int) (hp : p = 1 ∨ p = 2) (pre : Bool) (jobs : List SJob) (hj : ∀ e ∈ jobs, Okj e) (n : Nat) (hn : n ≤ 20000) (K : Nat) (hK : jobs.length + 5 ≤ K) (hK2 : n < K) :
    iter (sched_Play.r4 K jobs p pre (n : Int)) K ((-1), 0, jobs.map (·.C), List.replicate n 0, List.replicate jobs.length (-1)) = some (.inl (runsTill p pre jobs n n, (simP p pre jobs n).2.2)) := by
  have hr := iter_states (ρ := SPlayed × SFault) (f := sched_Play.r4 K jobs p pre (n : Int)) (fun i => ((simP p pre jobs i).1, (i : Int), (simP p pre jobs i).2.1, runsTill p pre jobs n i, (simP p pre jobs i).2.2)) (fun _ => none) n (t := (runsTill p pre jobs n n, (simP p pre jobs n).2.2)) (fun i hi _ => by
    have hi' : (i : Int) < (n : Int) := by omega
    have hok := simP_ok p pre hj i
    have hw : IntKind.i64.wrap ((i : Int) + 1) = ((i + 1 : Nat) : Int) := by rw [wrap64_small (by omega) (by omega)]; rfl
    have hrl : (runsTill p pre jobs n i).length = n := by simp [runsTill]
    have hri : (runsTill p pre jobs n i)[i]? = some 0 := by simp [runsTill, hi]
    have hset : ∀ b : Int, runP p pre jobs i = b → (runsTill p pre jobs n i).set i b = runsTill p pre jobs n (i + 1) := fun b hb => by
      apply List.ext_getElem?
      intro q
      rw [List.getElem?_set, hrl]
      by_cases hq : i = q
      · subst hq
        rw [if_pos rfl, if_pos hi]
        simp [runsTill, hi, hb]
      · rw [if_neg hq]
        simp only [runsTill, List.getElem?_map]
        by_cases hqn : q < n
        · rw [List.getElem?_range hqn]
          simp only [Option.map_some]
          by_cases hqi : q < i
          · rw [if_pos hqi, if_pos (by omega)]
          · rw [if_neg hqi, if_neg (by omega)]
        · rw [List.getElem?_eq_none (by simp; omega)]; rfl
    simp only [sched_Play.r4, if_pos hi', Sched_p5_eq p hp pre jobs (i : Int) _ hok K hK, if_pos (show (0 : Int) ≤ (i : Int) by omega), Int.toNat_natCast, hri, hw, onwardS]
    have hs : simP p pre jobs (i + 1) = tickP p pre jobs (i : Int) (simP p pre jobs i) := rfl
    have hrun : runP p pre jobs i = (tickP p pre jobs (i : Int) (simP p pre jobs i)).1 := rfl
    rcases nowOf_cases (p := p) (pre := pre) hok (i : Int) with h1 | ⟨b, h1, h2, h3⟩
    · rw [h1, if_pos (by omega)]
      have ht : tickP p pre jobs (i : Int) (simP p pre jobs i) = (-1, (simP p pre jobs i).2.1, (simP p pre jobs i).2.2) := by
        unfold tickP; simp only [h1]; rw [if_pos (by omega)]
      rw [hset (-1) (by rw [hrun, ht]), hs, ht]
    · rw [h1, if_neg (by omega), if_pos (by omega)]
      have hbl : b < (simP p pre jobs i).2.1.length := by rw [hok.left]; exact h2
      have hbe : b < (simP p pre jobs i).2.2.length := by rw [hok.ends]; exact h2
      have hsm := hok.small b
      have hw2 : IntKind.i64.wrap ((simP p pre jobs i).2.1.getD b 0 - 1) = (simP p pre jobs i).2.1.getD b 0 - 1 := wrap64_small (by omega) (by omega)
      have hget : ((simP p pre jobs i).2.1.set b ((simP p pre jobs i).2.1.getD b 0 - 1))[b]? = some ((simP p pre jobs i).2.1.getD b 0 - 1) := by simp [hbl]
      simp only [Int.toNat_natCast, get_of_lt hbl, hw2, hget, get_of_lt hbe]
      have ht : tickP p pre jobs (i : Int) (simP p pre jobs i) = ((b : Int), (simP p pre jobs i).2.1.set b ((simP p pre jobs i).2.1.getD b 0 - 1), if (simP p pre jobs i).2.1.getD b 0 - 1 = 0 then (simP p pre jobs i).2.2.set b ((i : Int) + 1) else (simP p pre jobs i).2.2) := by
        unfold tickP
        simp only [h1, Int.toNat_natCast]
        rw [if_neg (by omega), getD_set _ _ _ _ hbl, if_pos rfl]
      rw [hset (b : Int) (by rw [hrun, ht]), hs, ht]
      by_cases h0 : (simP p pre jobs i).2.1.getD b 0 - 1 = 0
      · rw [if_pos h0]
        simp only [if_pos h0]
        rfl
      · rw [if_neg h0]
        simp only [if_neg h0]) (fun _ => by simp [sched_Play.r4]) (K := K) hK2
  rw [firstOf_none_of (fun _ _ _ => rfl)] at hr
  have h0 : runsTill p pre jobs n 0 = List.replicate n 0 := by
    apply List.ext_getElem
    · simp [runsTill]
    · intro i h1 h2; simp [runsTill]
  simp only [h0] at hr
  exact hr
/-- how jobs are played -/
def playOf (jobs : List SJob) (p : Int) (pre : Bool) (n : Int) : SPlayed × SFault :=
  if (playFault jobs).Code = 0 then
    (if p = 1 ∨ p = 2 then
      (if n < 0 ∨ n > 20000 then (⟨[], []⟩, ⟨3, 0⟩) else (⟨runsTill p pre jobs n.toNat n.toNat, (simP p pre jobs n.toNat).2.2⟩, ⟨0, 0⟩))
    else (⟨[], []⟩, ⟨6, 0⟩))
  else (⟨[], []⟩, playFault jobs)
theorem Play_eq (jobs : List SJob) (p : Int) (pre : Bool) (n : Int) (K : Nat) (hK : 20010 ≤ K) : sched_Play.f K jobs p pre n = some (playOf jobs p pre n) := by
  unfold sched_Play.f playOf
  rw [schedCheck_eq jobs K (by omega)]
  simp only
  by_cases hc : (playFault jobs).Code = 0
  · rw [if_pos hc, if_pos hc]
    obtain ⟨hl, _, hj⟩ := playFault_ok hc
    by_cases hp : p = 1 ∨ p = 2
    · have hp0 : sched_Play.p0 p = some (.inl ()) := by rcases hp with rfl | rfl <;> simp [sched_Play.p0, sched_rule.f]
      rw [hp0, if_pos hp]
      simp only
      by_cases hn : n < 0 ∨ n > 20000
      · have hp1 : sched_Play.p1 n = some (.inr (⟨[], []⟩, ⟨3, 0⟩)) := by
          unfold sched_Play.p1
          by_cases h1 : n < 0
          · rw [if_pos h1]
          · rw [if_neg h1, if_pos (by omega)]
        rw [hp1, if_pos hn]
      · have hp1 : sched_Play.p1 n = some (.inl ()) := by unfold sched_Play.p1; rw [if_neg (by omega), if_neg (by omega)]
        obtain ⟨m, rfl⟩ := Int.eq_ofNat_of_zero_le (show 0 ≤ n by omega)
        have hp2 : sched_Play.p2 jobs (m : Int) = some (.inl (List.replicate m 0, List.replicate jobs.length 0)) := by
          unfold sched_Play.p2
          simp only [Int.toNat_natCast]
          rw [if_pos (by omega), if_pos (by omega), if_pos (by omega)]
        rw [hp1, if_neg hn]
        simp only [hp2, Int.toNat_natCast]
        rw [if_pos (by omega)]
        have hr := iter_states (ρ := SPlayed × SFault) (f := sched_Play.r3 jobs) (fun i => (i, (List.range jobs.length).map (fun q => if q < i then (jobs.map (·.C)).getD q 0 else 0), (List.range jobs.length).map (fun q => if q < i then (-1 : Int) else 0))) (fun _ => none) jobs.length (t := (jobs.map (·.C), List.replicate jobs.length (-1))) (fun i hi _ => by
          have hi' : (i : Int) < (jobs.length : Int) := by omega
          simp only [sched_Play.r3, if_pos hi', List.getElem?_eq_getElem hi, onwardS, List.getElem?_map, List.getElem?_range hi, Option.map_some]
          congr 3
          refine Prod.ext ?_ ?_
          · apply List.ext_getElem?
            intro q
            simp only [List.getElem?_set, List.length_map, List.length_range, List.getElem?_map]
            by_cases hq : i = q
            · subst hq; simp [hi]
            · rw [if_neg hq]
              by_cases hqn : q < jobs.length
              · rw [List.getElem?_range hqn]
                simp only [Option.map_some]
                by_cases hqi : q < i
                · rw [if_pos hqi, if_pos (by omega)]
                · rw [if_neg hqi, if_neg (by omega)]
              · rw [List.getElem?_eq_none (by simp; omega)]; rfl
          · apply List.ext_getElem?
            intro q
            simp only [List.getElem?_set, List.length_map, List.length_range, List.getElem?_map]
            by_cases hq : i = q
            · subst hq; simp [hi]
            · rw [if_neg hq]
              by_cases hqn : q < jobs.length
              · rw [List.getElem?_range hqn]
                simp only [Option.map_some]
                by_cases hqi : q < i
                · rw [if_pos hqi, if_pos (by omega)]
                · rw [if_neg hqi, if_neg (by omega)]
              · rw [List.getElem?_eq_none (by simp; omega)]; rfl) (fun _ => by
          simp only [sched_Play.r3]
          rw [if_neg (by omega)]
          congr 4
          · apply List.ext_getElem
            · simp
            · intro q h1 h2
              have hq : q < jobs.length := by simpa using h1
              simp [hq]
          · apply List.ext_getElem
            · simp
            · intro q h1 h2
              have hq : q < jobs.length := by simpa using h1
              simp [hq]) (K := K) (by omega)
        rw [firstOf_none_of (fun _ _ _ => rfl)] at hr
        have e1 : (List.range jobs.length).map (fun q => if q < 0 then (jobs.map (·.C)).getD q 0 else 0) = List.replicate jobs.length (0 : Int) := by
          apply List.ext_getElem
          · simp
          · intro i h1 h2; simp
        have e2 : (List.range jobs.length).map (fun q => if q < 0 then (-1 : Int) else 0) = List.replicate jobs.length (0 : Int) := by
          apply List.ext_getElem
          · simp
          · intro i h1 h2; simp
        simp only [e1, e2] at hr
        rw [hr]
        simp only [leave, Play_r4_eq p hp pre jobs hj m (by omega) K (by omega) (by omega)]
    · have hp0 : sched_Play.p0 p = some (.inr (⟨[], []⟩, ⟨6, 0⟩)) := by
        unfold sched_Play.p0 sched_rule.f
        rw [if_neg (fun h => hp (.inl h)), if_neg (fun h => hp (.inr h)), if_pos rfl]
      rw [hp0, if_neg hp]
  · rw [if_neg hc, if_neg hc]
    rfl
/-- who isn't done when it is due -/
def lateAt (jobs : List SJob) (n : Nat) (ends : List Int) (i : Nat) : Bool := match jobs[i]?, ends[i]? with
  | some j, some e => decide (e > j.Due) || (decide (e < 0) && decide (j.Due ≤ (n : Int)))
  | _, _ => false
def lateTill (jobs : List SJob) (n : Nat) (ends : List Int) (k : Nat) : List Int := (List.range k).filterMap fun i => if lateAt jobs n ends i = true then some (i : Int) else none
theorem Late_eq (jobs : List SJob) (runs ends : List Int) (hl : jobs.length ≤ 5000) (K : Nat) (hK : 5010 ≤ K) : sched_Late.f K jobs runs ends = some (if ends.length = jobs.length then (lateTill jobs runs.length ends jobs.length, ⟨0, 0⟩) else ([], ⟨2, 0⟩)) := by
  unfold sched_Late.f
  by_cases h : (ends.length : Int) = (jobs.length : Int)
  · rw [if_pos h, if_pos (by omega)]
    have hr := iter_states (ρ := List Int × SFault) (f := sched_Late.r0 jobs runs ends) (fun i => (lateTill jobs runs.length ends i, i)) (fun _ => none) jobs.length (t := lateTill jobs runs.length ends jobs.length) (fun i hi _ => by
      have hi' : (i : Int) < (jobs.length : Int) := by omega
      have hie : i < ends.length := by omega
      have hlen : (lateTill jobs runs.length ends i).length < 17592186044416 := by
        have : (lateTill jobs runs.length ends i).length ≤ i := by unfold lateTill; exact Nat.le_trans (List.length_filterMap_le _ _) (by simp)
        omega
      have hs : lateTill jobs runs.length ends (i + 1) = lateTill jobs runs.length ends i ++ (if lateAt jobs runs.length ends i = true then [(i : Int)] else []) := by
        unfold lateTill
        rw [List.range_succ, List.filterMap_append]
        congr 1
        by_cases h : lateAt jobs runs.length ends i = true <;> simp [h]
      rw [hs]
      simp only [sched_Late.r0, if_pos hi', List.getElem?_eq_getElem hi, List.getElem?_eq_getElem hie, if_pos hlen, onwardS, lateAt]
      by_cases h1 : ends[i] > jobs[i].Due
      · rw [if_pos h1, if_pos (by simp; omega)]
      · rw [if_neg h1]
        by_cases h2 : ends[i] < 0
        · rw [if_pos h2]
          by_cases h3 : jobs[i].Due ≤ (runs.length : Int)
          · rw [if_pos h3, if_pos (by simp; omega)]
          · rw [if_neg h3, if_neg (by simp; omega), List.append_nil]
        · rw [if_neg h2, if_neg (by simp; omega), List.append_nil]) (fun _ => by simp [sched_Late.r0]) (K := K) (by omega)
    have h0 : lateTill jobs runs.length ends 0 = [] := rfl
    rw [h0, firstOf_none_of (fun _ _ _ => rfl)] at hr
    rw [hr]; rfl
  · rw [if_neg h, if_neg (by omega)]
theorem playOf_two : playOf [⟨0, 0, 3, 9, 1⟩, ⟨0, 1, 1, 3, 2⟩] 1 true 5 = (⟨[0, 1, 0, 0, -1], [4, 2]⟩, ⟨0, 0⟩) := by kernel_rfl
theorem runs_true (K : Nat) (hK : 20010 ≤ K) : runs.f K = some true := by
  unfold runs.f
  rw [Play_eq _ _ _ _ K hK, playOf_two]
  simp only [Late_eq _ _ _ (show ([⟨0, 0, 3, 9, 1⟩, ⟨0, 1, 1, 3, 2⟩] : List SJob).length ≤ 5000 by simp) K (by omega)]
  have h1 : lateTill [⟨0, 0, 3, 9, 1⟩, ⟨0, 1, 1, 3, 2⟩] ([0, 1, 0, 0, -1] : List Int).length [4, 2] ([⟨0, 0, 3, 9, 1⟩, ⟨0, 1, 1, 3, 2⟩] : List SJob).length = [] := by decide +kernel
  simp only [h1, punctualsame_Same_int_self _ K (show ([0, 1, 0, 0, -1] : List Int).length < K by simp; omega), punctualsame_Same_int_self _ K (show ([4, 2] : List Int).length < K by simp; omega)]
  rfl

def sumN (f : Nat → Int) : Nat → Int
  | 0 => 0
  | n + 1 => sumN f n + f n
theorem sumN_congr {f g : Nat → Int} : ∀ {n : Nat}, (∀ j, j < n → f j = g j) → sumN f n = sumN g n
  | 0, _ => rfl
  | n + 1, h => by simp only [sumN]; rw [sumN_congr (fun j hj => h j (by omega)), h n (by omega)]
theorem sumN_le {f g : Nat → Int} : ∀ {n : Nat}, (∀ j, j < n → f j ≤ g j) → sumN f n ≤ sumN g n
  | 0, _ => Int.le_refl _
  | n + 1, h => by
    simp only [sumN]
    have := sumN_le (n := n) (fun j hj => h j (by omega))
    have := h n (by omega)
    omega
theorem sumN_nonneg {f : Nat → Int} : ∀ {n : Nat}, (∀ j, j < n → 0 ≤ f j) → 0 ≤ sumN f n
  | 0, _ => Int.le_refl _
  | n + 1, h => by
    simp only [sumN]
    have := sumN_nonneg (n := n) (fun j hj => h j (by omega))
    have := h n (by omega)
    omega
theorem sumN_zero {f : Nat → Int} {n : Nat} (h : ∀ j, j < n → f j = 0) : sumN f n = 0 := by
  rw [sumN_congr (g := fun _ => 0) h]
  induction n with
  | zero => rfl
  | succ n ih => simp only [sumN]; rw [ih (fun j hj => h j (by omega))]; rfl
theorem sumN_one {f g : Nat → Int} {b : Nat} {d : Int} : ∀ {n : Nat}, b < n → f b = g b + d → (∀ j, j < n → j ≠ b → f j = g j) → sumN f n = sumN g n + d
  | 0, h, _, _ => by omega
  | n + 1, h, hb, ho => by
    simp only [sumN]
    by_cases hn : n = b
    · subst hn
      rw [hb, sumN_congr (fun j hj => ho j (by omega) (by omega))]
      omega
    · rw [sumN_one (n := n) (by omega) hb (fun j hj hne => ho j (by omega) hne), ho n (by omega) hn]
      omega
theorem sumN_term {f : Nat → Int} {n k : Nat} (h : ∀ j, j < n → 0 ≤ f j) (hk : k < n) : f k ≤ sumN f n := by
  have h1 := sumN_one (f := f) (g := fun j => if j = k then 0 else f j) (b := k) (d := f k) hk (by simp) (fun j _ hne => by simp [hne])
  have h2 := sumN_nonneg (f := fun j => if j = k then 0 else f j) (n := n) (fun j hj => by show 0 ≤ (if j = k then 0 else f j); split; exact Int.le_refl _; exact h j hj)
  omega
theorem sumN_add (f g : Nat → Int) : ∀ n, sumN (fun j => f j + g j) n = sumN f n + sumN g n
  | 0 => rfl
  | n + 1 => by simp only [sumN]; rw [sumN_add f g n]; omega
theorem sumN_swap (f : Nat → Nat → Int) (m : Nat) : ∀ n, sumN (fun j => sumN (fun o => f o j) m) n = sumN (fun o => sumN (fun j => f o j) n) m
  | 0 => by
    show (0 : Int) = _
    symm
    exact sumN_zero (fun _ _ => rfl)
  | n + 1 => by
    simp only [sumN]
    rw [sumN_swap f m n, ← sumN_add]
theorem sumN_pick {f : Nat → Int} {n k : Nat} (hk : k < n) (h : ∀ j, j < n → j ≠ k → f j = 0) : sumN f n = f k := by
  have h1 := sumN_one (f := f) (g := fun _ => 0) (b := k) (d := f k) hk (by simp) (fun j hj hne => h j hj hne)
  rw [h1, sumN_zero (fun _ _ => rfl)]
  omega
/-- the greatest place up to m with a property -/
theorem exists_last {p : Nat → Prop} (m : Nat) (h0 : p 0) : ∃ t, t ≤ m ∧ p t ∧ ∀ s, t < s → s ≤ m → ¬ p s := by
  induction m with
  | zero => exact ⟨0, Nat.le_refl _, h0, fun s h1 h2 => by omega⟩
  | succ m ih =>
    by_cases h : p (m + 1)
    · exact ⟨m + 1, Nat.le_refl _, h, fun s h1 h2 => by omega⟩
    · obtain ⟨t, h1, h2, h3⟩ := ih
      refine ⟨t, by omega, h2, fun s h4 h5 => ?_⟩
      by_cases hs : s = m + 1
      · subst hs; exact h
      · exact h3 s h4 (by omega)
/-- work that is done tick by tick: what is left of n jobs; those of a level, which go ahead of all others -/
structure Level (n : Nat) (L : Nat → Nat → Int) (H : Nat → Prop) (r : Nat → Nat) (c : Nat → Int) : Prop where
  start : ∀ j, j < n → L 0 j = c j
  nonneg : ∀ t j, 0 ≤ L t j
  down : ∀ t j, L (t + 1) j ≤ L t j
  wait : ∀ t j, j < n → t < r j → L (t + 1) j = L t j
  runs : ∀ t, (∃ j, j < n ∧ H j ∧ r j ≤ t ∧ 0 < L t j) → ∃ b, b < n ∧ H b ∧ r b ≤ t ∧ 0 < L t b ∧ L (t + 1) b = L t b - 1 ∧ ∀ j, j < n → j ≠ b → L (t + 1) j = L t j
theorem Level.mono {n : Nat} {L : Nat → Nat → Int} {H : Nat → Prop} {r : Nat → Nat} {c : Nat → Int} (h : Level n L H r c) {t t' : Nat} (ht : t ≤ t') (j : Nat) : L t' j ≤ L t j := by
  induction t' with
  | zero => obtain rfl : t = 0 := by omega
            exact Int.le_refl _
  | succ t' ih =>
    by_cases he : t = t' + 1
    · subst he; exact Int.le_refl _
    · have := ih (by omega); have := h.down t' j; omega
theorem Level.still {n : Nat} {L : Nat → Nat → Int} {H : Nat → Prop} {r : Nat → Nat} {c : Nat → Int} (h : Level n L H r c) {t : Nat} {j : Nat} (hj : j < n) (ht : t ≤ r j) : L t j = c j := by
  induction t with
  | zero => exact h.start j hj
  | succ t ih => rw [h.wait t j hj (by omega)]; exact ih (by omega)
/-- if of a level never more comes in w ticks than can be done in them, then each of it is done w ticks behind its coming -/
theorem Level.done {n : Nat} {L : Nat → Nat → Int} {H : Nat → Prop} [DecidablePred H] {r : Nat → Nat} {c : Nat → Int} (h : Level n L H r c) (w : Nat) (hw : 1 ≤ w)
    (hsum : ∀ t0, sumN (fun j => if H j ∧ t0 ≤ r j ∧ r j < t0 + w then c j else 0) n ≤ w) {k : Nat} (hk : k < n) (hHk : H k) : L (r k + w) k = 0 := by
  obtain ⟨t0, ht0, hid, hlast⟩ := exists_last (p := fun t => ∀ j, j < n → H j → r j < t → L t j = 0) (r k) (fun j _ _ h => by omega)
  by_cases hall : ∀ t, t0 ≤ t → t < t0 + w → ∃ j, j < n ∧ H j ∧ r j ≤ t ∧ 0 < L t j
  · -- the core is never idle for this level
    have hA : ∀ d, d ≤ w → sumN (fun j => if H j ∧ t0 ≤ r j ∧ r j < t0 + w then L (t0 + d) j else 0) n ≤ (w : Int) - d := by
      intro d
      induction d with
      | zero =>
        intro _
        have := hsum t0
        rw [sumN_congr (g := fun j => if H j ∧ t0 ≤ r j ∧ r j < t0 + w then c j else 0) (fun j hj => by
          by_cases hc : H j ∧ t0 ≤ r j ∧ r j < t0 + w
          · rw [if_pos hc, if_pos hc]; exact h.still hj hc.2.1
          · rw [if_neg hc, if_neg hc])]
        omega
      | succ d ih =>
        intro hd
        have ih := ih (by omega)
        obtain ⟨b, hb, hHb, hrb, hLb, hstep, hoth⟩ := h.runs (t0 + d) (hall (t0 + d) (by omega) (by omega))
        have hrb0 : t0 ≤ r b := by
          apply Nat.le_of_not_lt
          intro hlt
          have h1 := hid b hb hHb hlt
          have h2 := h.mono (show t0 ≤ t0 + d by omega) b
          omega
        have := sumN_one (f := fun j => if H j ∧ t0 ≤ r j ∧ r j < t0 + w then L (t0 + (d + 1)) j else 0) (g := fun j => if H j ∧ t0 ≤ r j ∧ r j < t0 + w then L (t0 + d) j else 0) (b := b) (d := -1) hb (by
          rw [if_pos ⟨hHb, hrb0, by omega⟩, if_pos ⟨hHb, hrb0, by omega⟩]
          show L (t0 + d + 1) b = _
          rw [hstep]; omega) (fun j hj hne => by
          by_cases hc : H j ∧ t0 ≤ r j ∧ r j < t0 + w
          · rw [if_pos hc, if_pos hc]; exact hoth j hj hne
          · rw [if_neg hc, if_neg hc])
        rw [this]
        omega
    have hend := hA w (Nat.le_refl _)
    have hzero : ∀ j, j < n → H j → r j < t0 + w → L (t0 + w) j = 0 := by
      intro j hj hHj hrj
      by_cases hr0 : r j < t0
      · have h1 := hid j hj hHj hr0
        have h2 := h.mono (show t0 ≤ t0 + w by omega) j
        have h3 := h.nonneg (t0 + w) j
        omega
      · have h1 := sumN_term (f := fun j => if H j ∧ t0 ≤ r j ∧ r j < t0 + w then L (t0 + w) j else 0) (n := n) (k := j) (fun i _ => by
          by_cases hc : H i ∧ t0 ≤ r i ∧ r i < t0 + w
          · rw [if_pos hc]; exact h.nonneg _ _
          · rw [if_neg hc]; exact Int.le_refl _) hj
        rw [if_pos ⟨hHj, by omega, hrj⟩] at h1
        have h3 := h.nonneg (t0 + w) j
        omega
    by_cases hrk : r k < t0 + w
    · have h1 := hzero k hk hHk hrk
      have h2 := h.mono (show t0 + w ≤ r k + w by omega) k
      have h3 := h.nonneg (r k + w) k
      omega
    · exact absurd hzero (hlast (t0 + w) (by omega) (by omega))
  · have ⟨t, ht⟩ := Classical.not_forall.1 hall
    have ⟨ht1, ht⟩ := Classical.not_imp.1 ht
    have ⟨ht2, hnone⟩ := Classical.not_imp.1 ht
    have hz : ∀ j, j < n → H j → r j ≤ t → L t j = 0 := fun j hj hHj hrj => by
      have h1 := h.nonneg t j
      by_cases h0 : 0 < L t j
      · exact absurd ⟨j, hj, hHj, hrj, h0⟩ hnone
      · omega
    by_cases hrk : r k ≤ t
    · have h1 := hz k hk hHk hrk
      have h2 := h.mono (show t ≤ r k + w by omega) k
      have h3 := h.nonneg (r k + w) k
      omega
    · refine absurd (fun j hj hHj hrj => ?_) (hlast (t + 1) (by omega) (by omega))
      have h1 := hz j hj hHj (by omega)
      have h2 := h.down t j
      have h3 := h.nonneg (t + 1) j
      omega
/-- so much of one task lies in w ticks at most, if it comes T apart, J late at most -/
theorem spaced {n : Nat} {q : Nat → Prop} [DecidablePred q] {r : Nat → Nat} {a c : Nat → Int} {C T J : Int} (hT : 1 ≤ T) (hC : 0 ≤ C) (hc : ∀ j, j < n → q j → c j ≤ C) (hra : ∀ j, j < n → q j → a j ≤ r j ∧ (r j : Int) ≤ a j + J)
    (hsp : ∀ i j, i < j → j < n → q i → q j → a i + T ≤ a j) (t0 w : Nat) (hw : 1 ≤ w) (hJ : 0 ≤ J) :
    sumN (fun j => if q j ∧ t0 ≤ r j ∧ r j < t0 + w then c j else 0) n ≤ ((w + J + T - 1) / T) * C := by
  have key : ∀ m, m ≤ n → (sumN (fun j => if q j ∧ t0 ≤ r j ∧ r j < t0 + w then c j else 0) m ≤ 0 ∧ ∀ j, j < m → ¬ (q j ∧ t0 ≤ r j ∧ r j < t0 + w)) ∨
      ∃ j, j < m ∧ (q j ∧ t0 ≤ r j ∧ r j < t0 + w) ∧ sumN (fun j => if q j ∧ t0 ≤ r j ∧ r j < t0 + w then c j else 0) m ≤ ((a j - (t0 - J)) / T + 1) * C := by
    intro m
    induction m with
    | zero => intro _; exact .inl ⟨Int.le_refl _, fun j h => by omega⟩
    | succ m ih =>
      intro hm
      have ih := ih (by omega)
      simp only [sumN]
      by_cases hc' : q m ∧ t0 ≤ r m ∧ r m < t0 + w
      · right
        refine ⟨m, by omega, hc', ?_⟩
        rw [if_pos hc']
        have hcm := hc m (by omega) hc'.1
        have hrm := hra m (by omega) hc'.1
        rcases ih with ⟨h1, _⟩ | ⟨j, hj, hcj, h1⟩
        · have h0 : 0 ≤ (a m - (t0 - J)) / T := Int.ediv_nonneg (by omega) (by omega)
          have : 1 * C ≤ ((a m - (t0 - J)) / T + 1) * C := Int.mul_le_mul_of_nonneg_right (by omega) hC
          omega
        · have hs := hsp j m hj (by omega) hcj.1 hc'.1
          have h2 : (a j - (t0 - J)) / T + 1 ≤ (a m - (t0 - J)) / T := by
            have : (a j - (t0 - J) + T * 1) / T = (a j - (t0 - J)) / T + 1 := Int.add_mul_ediv_left _ _ (by omega)
            rw [← this]
            exact Int.ediv_le_ediv (by omega) (by omega)
          have h3 : ((a j - (t0 - J)) / T + 1 + 1) * C ≤ ((a m - (t0 - J)) / T + 1) * C := Int.mul_le_mul_of_nonneg_right (by omega) hC
          rw [Int.add_mul ((a j - (t0 - J)) / T + 1)] at h3
          omega
      · rw [if_neg hc']
        rcases ih with ⟨h1, h2⟩ | ⟨j, hj, hcj, h1⟩
        · left
          refine ⟨by omega, fun j hj => ?_⟩
          by_cases hjm : j = m
          · subst hjm; exact hc'
          · exact h2 j (by omega)
        · exact .inr ⟨j, by omega, hcj, by omega⟩
  have e : (w + J + T - 1) / T = (w + J - 1) / T + 1 := by
    have : (w + J - 1 + T * 1) / T = (w + J - 1) / T + 1 := Int.add_mul_ediv_left _ _ (by omega)
    rw [← this]; congr 1; omega
  rw [e]
  rcases key n (Nat.le_refl _) with ⟨h1, _⟩ | ⟨j, hj, hcj, h1⟩
  · have h0 : 0 ≤ ((w : Int) + J - 1) / T := Int.ediv_nonneg (by omega) (by omega)
    have : 0 ≤ ((w + J - 1) / T + 1) * C := Int.mul_nonneg (by omega) hC
    omega
  · have hrj := hra j hj hcj.1
    have : (a j - (t0 - J)) / T ≤ (w + J - 1) / T := Int.ediv_le_ediv (by omega) (by omega)
    have := Int.mul_le_mul_of_nonneg_right (show (a j - (t0 - J)) / T + 1 ≤ (w + J - 1) / T + 1 by omega) hC
    omega

/-- one tick, told of what is left -/
theorem leftP_step (p : Int) (pre : Bool) {jobs : List SJob} (hj : ∀ e ∈ jobs, Okj e) (t : Nat) :
    (runP p pre jobs t = -1 ∧ ∀ j, leftP p pre jobs (t + 1) j = leftP p pre jobs t j ∧ endP p pre jobs (t + 1) j = endP p pre jobs t j) ∨
    ∃ b : Nat, runP p pre jobs t = (b : Int) ∧ b < jobs.length ∧ 0 < leftP p pre jobs t b ∧ leftP p pre jobs (t + 1) b = leftP p pre jobs t b - 1 ∧ endP p pre jobs (t + 1) b = (if leftP p pre jobs t b = 1 then (t : Int) + 1 else endP p pre jobs t b) ∧
      ∀ j, j ≠ b → leftP p pre jobs (t + 1) j = leftP p pre jobs t j ∧ endP p pre jobs (t + 1) j = endP p pre jobs t j := by
  have hok := simP_ok p pre hj t
  have hs : simP p pre jobs (t + 1) = tickP p pre jobs (t : Int) (simP p pre jobs t) := rfl
  rcases nowOf_cases (p := p) (pre := pre) hok (t : Int) with h1 | ⟨b, h1, h2, h3⟩
  · have ht : tickP p pre jobs (t : Int) (simP p pre jobs t) = (-1, (simP p pre jobs t).2.1, (simP p pre jobs t).2.2) := by
      unfold tickP; simp only [h1]; rw [if_pos (by omega)]
    left
    unfold runP leftP endP
    rw [hs, ht]
    exact ⟨rfl, fun _ => ⟨rfl, rfl⟩⟩
  · have hbl : b < (simP p pre jobs t).2.1.length := by rw [hok.left]; exact h2
    have hbe : b < (simP p pre jobs t).2.2.length := by rw [hok.ends]; exact h2
    have ht : tickP p pre jobs (t : Int) (simP p pre jobs t) = ((b : Int), (simP p pre jobs t).2.1.set b ((simP p pre jobs t).2.1.getD b 0 - 1), if (simP p pre jobs t).2.1.getD b 0 - 1 = 0 then (simP p pre jobs t).2.2.set b ((t : Int) + 1) else (simP p pre jobs t).2.2) := by
      unfold tickP
      simp only [h1, Int.toNat_natCast]
      rw [if_neg (by omega), getD_set _ _ _ _ hbl, if_pos rfl]
    right
    refine ⟨b, ?_, h2, h3, ?_, ?_, fun j hne => ⟨?_, ?_⟩⟩
    · unfold runP; rw [hs, ht]
    · unfold leftP; rw [hs, ht]; simp only; rw [getD_set _ _ _ _ hbl, if_pos rfl]
    · unfold leftP endP; rw [hs, ht]
      simp only
      by_cases h0 : (simP p pre jobs t).2.1.getD b 0 = 1
      · rw [if_pos (by omega), if_pos h0, getD_set _ _ _ _ hbe, if_pos rfl]
      · rw [if_neg (by omega), if_neg h0]
    · unfold leftP; rw [hs, ht]; simp only; rw [getD_set _ _ _ _ hbl, if_neg (fun h => hne h.symm)]
    · unfold endP; rw [hs, ht]
      simp only
      split
      · rw [getD_set _ _ _ _ hbe, if_neg (fun h => hne h.symm)]
      · rfl
theorem leftP_zero (p : Int) (pre : Bool) (jobs : List SJob) (j : Nat) : leftP p pre jobs 0 j = costOf jobs j := rfl
theorem leftP_nonneg (p : Int) (pre : Bool) {jobs : List SJob} (hj : ∀ e ∈ jobs, Okj e) (t j : Nat) : 0 ≤ leftP p pre jobs t j := (simP_ok p pre hj t).nonneg j
theorem leftP_down (p : Int) (pre : Bool) {jobs : List SJob} (hj : ∀ e ∈ jobs, Okj e) (t j : Nat) : leftP p pre jobs (t + 1) j ≤ leftP p pre jobs t j := by
  rcases leftP_step p pre hj t with ⟨_, h⟩ | ⟨b, _, _, _, h1, _, h⟩
  · rw [(h j).1]; exact Int.le_refl _
  · by_cases hb : j = b
    · subst hb; omega
    · rw [(h j hb).1]; exact Int.le_refl _
theorem leftP_mono (p : Int) (pre : Bool) {jobs : List SJob} (hj : ∀ e ∈ jobs, Okj e) {t t' : Nat} (ht : t ≤ t') (j : Nat) : leftP p pre jobs t' j ≤ leftP p pre jobs t j := by
  induction t' with
  | zero => obtain rfl : t = 0 := by omega
            exact Int.le_refl _
  | succ t' ih =>
    by_cases he : t = t' + 1
    · subst he; exact Int.le_refl _
    · have := ih (by omega); have := leftP_down p pre hj t' j; omega
/-- when a job is done, its end says so -/
theorem endP_spec (p : Int) (pre : Bool) {jobs : List SJob} (hj : ∀ e ∈ jobs, Okj e) {j : Nat} (hjl : j < jobs.length) : ∀ t, (0 < leftP p pre jobs t j → endP p pre jobs t j = -1) ∧
    (leftP p pre jobs t j = 0 → ∃ s : Nat, 1 ≤ s ∧ s ≤ t ∧ endP p pre jobs t j = (s : Int) ∧ leftP p pre jobs s j = 0 ∧ 0 < leftP p pre jobs (s - 1) j)
  | 0 => by
    have he : jobs[j]? = some jobs[j] := List.getElem?_eq_getElem hjl
    have hC := (hj _ (List.getElem_mem hjl)).C
    have h0 : leftP p pre jobs 0 j = jobs[j].C := by rw [leftP_zero, costOf_some he]
    refine ⟨fun _ => ?_, fun h => by omega⟩
    simp [endP, simP, List.getD, List.getElem?_replicate, hjl]
  | t + 1 => by
    obtain ⟨ih1, ih2⟩ := endP_spec p pre hj hjl t
    have keep : leftP p pre jobs (t + 1) j = leftP p pre jobs t j → endP p pre jobs (t + 1) j = endP p pre jobs t j → (0 < leftP p pre jobs (t + 1) j → endP p pre jobs (t + 1) j = -1) ∧
        (leftP p pre jobs (t + 1) j = 0 → ∃ s : Nat, 1 ≤ s ∧ s ≤ t + 1 ∧ endP p pre jobs (t + 1) j = (s : Int) ∧ leftP p pre jobs s j = 0 ∧ 0 < leftP p pre jobs (s - 1) j) := fun h1 h2 => by
      rw [h1, h2]
      refine ⟨ih1, fun h => ?_⟩
      obtain ⟨s, a, b, c⟩ := ih2 h
      exact ⟨s, a, by omega, c⟩
    rcases leftP_step p pre hj t with ⟨_, h⟩ | ⟨b, _, _, hpos, h1, h2, h⟩
    · exact keep (h j).1 (h j).2
    · by_cases hb : j = b
      · subst hb
        by_cases h3 : leftP p pre jobs t j = 1
        · rw [if_pos h3] at h2
          refine ⟨fun h' => by omega, fun _ => ⟨t + 1, by omega, Nat.le_refl _, by rw [h2]; rfl, by omega, hpos⟩⟩
        · rw [if_neg h3] at h2
          exact ⟨fun _ => by rw [h2]; exact ih1 hpos, fun h' => by omega⟩
      · exact keep (h j hb).1 (h j hb).2
theorem endP_done (p : Int) (pre : Bool) {jobs : List SJob} (hj : ∀ e ∈ jobs, Okj e) {j : Nat} (hjl : j < jobs.length) {s t : Nat} (hs : leftP p pre jobs s j = 0) (ht : s ≤ t) : 1 ≤ endP p pre jobs t j ∧ endP p pre jobs t j ≤ s := by
  have hz : leftP p pre jobs t j = 0 := by have := leftP_mono p pre hj ht j; have := leftP_nonneg p pre hj t j; omega
  obtain ⟨u, h1, h2, h3, h4, h5⟩ := (endP_spec p pre hj hjl t).2 hz
  rw [h3]
  refine ⟨by omega, ?_⟩
  have : u ≤ s := by
    apply Nat.le_of_not_lt
    intro hlt
    have := leftP_mono p pre hj (show s ≤ u - 1 by omega) j
    omega
  omega
theorem ends_get (p : Int) (pre : Bool) {jobs : List SJob} (hj : ∀ e ∈ jobs, Okj e) {j : Nat} (hjl : j < jobs.length) (t : Nat) : (simP p pre jobs t).2.2[j]? = some (endP p pre jobs t j) := get_of_lt (by rw [(simP_ok p pre hj t).ends]; exact hjl)
/-- who goes first at a tick, where who goes first goes at once -/
theorem runP_first (p : Int) {jobs : List SJob} (hj : ∀ e ∈ jobs, Okj e) (t : Nat) : (runP p true jobs t = -1 ∧ ∀ j e, jobs[j]? = some e → ¬ (e.At ≤ (t : Int) ∧ 0 < leftP p true jobs t j)) ∨
    ∃ (b : Nat) (y : SJob), runP p true jobs t = (b : Int) ∧ jobs[b]? = some y ∧ y.At ≤ (t : Int) ∧ 0 < leftP p true jobs t b ∧ ∀ j x, jobs[j]? = some x → x.At ≤ (t : Int) → 0 < leftP p true jobs t j → ¬ aheadJ p x y ∧ (j < b → aheadJ p y x) := by
  have hok := simP_ok p true hj t
  have hnow : nowOf p true jobs (t : Int) (simP p true jobs t).1 (simP p true jobs t).2.1 = firstTo p jobs (simP p true jobs t).2.1 (t : Int) jobs.length := by unfold nowOf; rw [if_pos (.inl rfl)]
  have hrun : runP p true jobs t = firstTo p jobs (simP p true jobs t).2.1 (t : Int) jobs.length := by
    rw [← hnow]
    unfold runP
    show (tickP p true jobs (t : Int) (simP p true jobs t)).1 = _
    unfold tickP
    simp only
    split <;> rfl
  have hcan : ∀ j e, jobs[j]? = some e → (canJ jobs (simP p true jobs t).2.1 (t : Int) j ↔ e.At ≤ (t : Int) ∧ 0 < leftP p true jobs t j) := fun j e he => by
    unfold canJ
    rw [he, get_of_lt (by rw [hok.left]; exact lt_of_get he)]
    rfl
  rw [hrun]
  rcases firstTo_cases p jobs (simP p true jobs t).2.1 (t : Int) jobs.length (Nat.le_refl _) with ⟨h1, h2⟩ | ⟨b, y, h1, h2, h3, h4, h5⟩
  · exact .inl ⟨h1, fun j e he hc => h2 j (lt_of_get he) ((hcan j e he).2 hc)⟩
  · obtain ⟨g1, g2⟩ := (hcan b y h3).1 h4
    exact .inr ⟨b, y, h1, h3, g1, g2, fun j x hx ha hl => h5 j x (lt_of_get hx) hx ((hcan j x hx).2 ⟨ha, hl⟩)⟩
/-- jobs of a priority, or a greater one, as a level -/
theorem simP_level {jobs : List SJob} (hj : ∀ e ∈ jobs, Okj e) (Pi : Int) : Level jobs.length (leftP 1 true jobs) (fun j => ∃ e, jobs[j]? = some e ∧ Pi ≤ e.P) (atN jobs) (costOf jobs) := by
  refine ⟨fun j _ => leftP_zero 1 true jobs j, leftP_nonneg 1 true hj, leftP_down 1 true hj, fun t j hjl hr => ?_, fun t ⟨j, hjl, ⟨e, he, hP⟩, hr, hL⟩ => ?_⟩
  · have he : jobs[j]? = some jobs[j] := List.getElem?_eq_getElem hjl
    rw [atN_some he] at hr
    rcases leftP_step 1 true hj t with ⟨_, h⟩ | ⟨b, hb0, hb1, hpos, h1, _, h⟩
    · exact (h j).1
    · refine (h j ?_).1
      rintro rfl
      rcases runP_first 1 hj t with ⟨g1, _⟩ | ⟨b', y, g1, g2, g3, _⟩
      · omega
      · have : b' = j := by omega
        subst this
        rw [he] at g2
        cases g2
        omega
  · rw [atN_some he] at hr
    have hA := (hj e (List.mem_of_getElem? he)).At
    rcases runP_first 1 hj t with ⟨_, h⟩ | ⟨b, y, g1, g2, g3, g4, g5⟩
    · exact absurd ⟨by omega, hL⟩ (h j e he)
    · have hn := (g5 j e he (by omega) hL).1
      have hPb : Pi ≤ y.P := by
        unfold aheadJ at hn
        rw [if_pos rfl] at hn
        omega
      rcases leftP_step 1 true hj t with ⟨k1, _⟩ | ⟨b', k1, k2, k3, k4, _, k6⟩
      · omega
      · have : b' = b := by omega
        subst this
        have hAb := (hj y (List.mem_of_getElem? g2)).At
        exact ⟨b', k2, ⟨y, g2, hPb⟩, by rw [atN_some g2]; omega, k3, k4, fun i _ hne => (k6 i hne).1⟩

/-- what is known of the j-th job -/
structure JobAt (l0 : List STask) (l1 : List SCome) (l2 l3 : List Int) (j : Nat) (c : SCome) (t : STask) (a b : Int) : Prop where
  come : l1[j]? = some c
  task : l0[c.Task.toNat]? = some t
  task0 : 0 ≤ c.Task
  late : l2[j]? = some a
  takes : l3[j]? = some b
  job : (jobsTill l0 l1 l2 l3 l1.length)[j]? = some ⟨c.Task, c.At + a, b, c.At + t.D, t.P⟩
  at_ : 0 ≤ c.At ∧ c.At ≤ 20000
  a : 0 ≤ a ∧ a ≤ t.J
  b : 1 ≤ b ∧ b ≤ t.C
  ok : Okt t
structure JobsOk (l0 : List STask) (l1 : List SCome) (l2 l3 : List Int) : Prop where
  set : (setFault l0).Code = 0
  len : l1.length ≤ 4000
  len2 : l2.length = l1.length
  len3 : l3.length = l1.length
  comes : ∀ i, i < l1.length → comeAt l0 l1 i = none
  jobs : ∀ i, i < l1.length → jobAt l0 l1 l2 l3 i = none
  eq : jobsOf l0 l1 l2 l3 = (jobsTill l0 l1 l2 l3 l1.length, ⟨0, 0⟩)
theorem jobsOf_ok {l0 : List STask} {l1 : List SCome} {l2 l3 : List Int} (h : (jobsOf l0 l1 l2 l3).2.Code = 0) : JobsOk l0 l1 l2 l3 := by
  unfold jobsOf at h
  split at h
  · rename_i hc
    split at h
    · rename_i hl
      obtain ⟨hs, hl1, hcomes⟩ := comesFault_ok hc
      cases hf : firstOf (jobAt l0 l1 l2 l3) l1.length 0 with
      | none =>
        refine ⟨hs, hl1, hl.1, hl.2, hcomes, fun i hi => firstOf_none hf i (Nat.zero_le _) hi, ?_⟩
        unfold jobsOf
        rw [if_pos hc, if_pos hl, hf]
      | some r =>
        rw [hf] at h
        obtain ⟨j, _, hj, hg, _⟩ := firstOf_some hf
        exfalso
        unfold jobAt at hg
        repeat' split at hg
        all_goals first | (cases hg; done) | (cases hg; cases h)
    · cases h
  · contradiction
theorem JobsOk.at {l0 : List STask} {l1 : List SCome} {l2 l3 : List Int} (h : JobsOk l0 l1 l2 l3) {j : Nat} (hj : j < l1.length) : ∃ c t a b, JobAt l0 l1 l2 l3 j c t a b := by
  have hc : l1[j]? = some l1[j] := List.getElem?_eq_getElem hj
  obtain ⟨h1, h2, h3, h4, _⟩ := comeAt_none hc (h.comes j hj)
  obtain ⟨t, ht⟩ : ∃ t, l0[l1[j].Task.toNat]? = some t := ⟨l0[l1[j].Task.toNat]'(by omega), List.getElem?_eq_getElem (by omega)⟩
  have ha : l2[j]? = some (l2[j]'(by have := h.len2; omega)) := List.getElem?_eq_getElem _
  have hb : l3[j]? = some (l3[j]'(by have := h.len3; omega)) := List.getElem?_eq_getElem _
  have hJ := h.jobs j hj
  simp only [jobAt, hc, ha, hb, ht] at hJ
  split at hJ
  · cases hJ
  refine ⟨_, t, _, _, hc, ht, h1, ha, hb, ?_, ⟨h3, h4⟩, by omega, by omega, okt_of h.set t (List.mem_of_getElem? ht)⟩
  simp only [jobsTill, List.getElem?_map, List.getElem?_range hj, Option.map_some, jobOf, hc, ha, hb, ht]
theorem jobsTill_len (l0 : List STask) (l1 : List SCome) (l2 l3 : List Int) (n : Nat) : (jobsTill l0 l1 l2 l3 n).length = n := by simp [jobsTill]
theorem JobsOk.okj {l0 : List STask} {l1 : List SCome} {l2 l3 : List Int} (h : JobsOk l0 l1 l2 l3) : ∀ e ∈ jobsTill l0 l1 l2 l3 l1.length, Okj e := fun e he => by
  obtain ⟨j, hj⟩ := List.mem_iff_getElem?.1 he
  have hlt := lt_of_get hj
  rw [jobsTill_len] at hlt
  obtain ⟨c, t, a, b, hJ⟩ := h.at hlt
  rw [hJ.job] at hj
  cases hj
  have := hJ.at_; have := hJ.a; have := hJ.b; have := hJ.ok.J; have := hJ.ok.C; have := hJ.ok.D
  exact ⟨by simp only; omega, by simp only; omega, by simp only; omega⟩
theorem lastOf_ge {l : List SCome} {t : Int} {k j : Nat} {b : SCome} (hj : j < k) (hb : l[j]? = some b) (ht : b.Task = t) : ∃ m, lastOf l t k = some m ∧ j ≤ m := by
  induction k with
  | zero => omega
  | succ k ih =>
    by_cases hjk : j = k
    · subst hjk
      exact ⟨j, by simp only [lastOf, hb, if_pos ht], Nat.le_refl _⟩
    · obtain ⟨m, h1, h2⟩ := ih (by omega)
      have hmk := lastOf_lt h1
      simp only [lastOf]
      split
      · split
        · exact ⟨k, rfl, by omega⟩
        · exact ⟨m, h1, h2⟩
      · exact ⟨m, h1, h2⟩
/-- comings stand in their order -/
theorem JobsOk.order {l0 : List STask} {l1 : List SCome} {l2 l3 : List Int} (h : JobsOk l0 l1 l2 l3) : ∀ {i j : Nat} {a b : SCome}, i ≤ j → l1[i]? = some a → l1[j]? = some b → a.At ≤ b.At := by
  intro i j
  induction j with
  | zero => intro a b hij ha hb; obtain rfl : i = 0 := by omega
            rw [ha] at hb; cases hb; exact Int.le_refl _
  | succ j ih =>
    intro a b hij ha hb
    by_cases he : i = j + 1
    · subst he; rw [ha] at hb; cases hb; exact Int.le_refl _
    · have hlt := lt_of_get hb
      have hp : l1[j]? = some l1[j] := List.getElem?_eq_getElem (by omega)
      have h1 := ih (by omega) ha hp
      have h2 := (comeAt_none hb (h.comes _ hlt)).2.2.2.2.1 l1[j] (by omega) hp
      omega
/-- comings of one task are so far apart -/
theorem JobsOk.apart {l0 : List STask} {l1 : List SCome} {l2 l3 : List Int} (h : JobsOk l0 l1 l2 l3) {i j : Nat} {a b : SCome} {t : STask} (hij : i < j) (ha : l1[i]? = some a) (hb : l1[j]? = some b) (hab : a.Task = b.Task) (ht : l0[b.Task.toNat]? = some t) : a.At + t.T ≤ b.At := by
  obtain ⟨m, h1, h2⟩ := lastOf_ge hij ha hab
  obtain ⟨c, hc, _⟩ := lastOf_task h1
  have h3 := (comeAt_none hb (h.comes _ (lt_of_get hb))).2.2.2.2.2 m c t h1 hc ht
  have h4 := h.order h2 ha hc
  omega
theorem wants_above {l : List STask} {i : Nat} {x : STask} (hx : l[i]? = some x) (w : Int) : ∀ m, m ≤ l.length → wants (aboveTill l i m) w = sumN (fun o => match l[o]? with | some t => if o ≠ i ∧ t.P ≥ x.P then ceilD (w + t.J) t.T * t.C else 0 | none => 0) m
  | 0, _ => rfl
  | m + 1, hm => by
    have hmx : l[m]? = some l[m] := List.getElem?_eq_getElem (by omega)
    rw [aboveTill_succ hmx hx, wants_append, wants_above hx w m (by omega)]
    simp only [sumN, hmx]
    by_cases h : m ≠ i ∧ l[m].P ≥ x.P
    · rw [if_pos h, if_pos h, wants_cons, wants_nil]; omega
    · rw [if_neg h, if_neg h, wants_nil]
/-- of the jobs of a task's level never more comes in w ticks than its demand says -/
theorem JobsOk.demand {l0 : List STask} {l1 : List SCome} {l2 l3 : List Int} (h : JobsOk l0 l1 l2 l3) {i : Nat} {x : STask} (hx : l0[i]? = some x) (w : Nat) (hw : 1 ≤ w) (hwT : (w : Int) + x.J ≤ x.T) (H : Nat → Prop) [DecidablePred H]
    (hH : ∀ j c t a b, JobAt l0 l1 l2 l3 j c t a b → H j → x.P ≤ t.P) (t0 : Nat) :
    sumN (fun j => if H j ∧ t0 ≤ atN (jobsTill l0 l1 l2 l3 l1.length) j ∧ atN (jobsTill l0 l1 l2 l3 l1.length) j < t0 + w then costOf (jobsTill l0 l1 l2 l3 l1.length) j else 0) l1.length ≤ dem x 0 (aboveOf l0 i) w := by
  generalize hjobs : jobsTill l0 l1 l2 l3 l1.length = jobs
  let q : Nat → Nat → Prop := fun o j => ∃ c, l1[j]? = some c ∧ c.Task = (o : Int)
  haveI : ∀ o, DecidablePred (q o) := fun o j => Classical.propDecidable _
  have hil := lt_of_get hx
  -- task by task
  have h1 : sumN (fun j => if H j ∧ t0 ≤ atN jobs j ∧ atN jobs j < t0 + w then costOf jobs j else 0) l1.length ≤ sumN (fun j => sumN (fun o => match l0[o]? with | some t => if t.P ≥ x.P then (if q o j ∧ t0 ≤ atN jobs j ∧ atN jobs j < t0 + w then costOf jobs j else 0) else 0 | none => 0) l0.length) l1.length := by
    refine sumN_le fun j hj => ?_
    obtain ⟨c, t, a, b, hJ⟩ := h.at hj
    have hb := hJ.b
    have hcost : costOf jobs j = b := by rw [← hjobs]; exact costOf_some hJ.job
    have hnn : ∀ o, o < l0.length → 0 ≤ (match l0[o]? with | some t => if t.P ≥ x.P then (if q o j ∧ t0 ≤ atN jobs j ∧ atN jobs j < t0 + w then costOf jobs j else 0) else 0 | none => 0) := fun o _ => by
      split
      · split
        · split <;> omega
        · exact Int.le_refl _
      · exact Int.le_refl _
    by_cases hc : H j ∧ t0 ≤ atN jobs j ∧ atN jobs j < t0 + w
    · rw [if_pos hc]
      have h2 := sumN_term (n := l0.length) hnn (k := c.Task.toNat) (lt_of_get hJ.task)
      have hP := hH j c t a b hJ hc.1
      have hq : q c.Task.toNat j := ⟨c, hJ.come, (Int.toNat_of_nonneg hJ.task0).symm⟩
      simp only [hJ.task] at h2
      rw [if_pos hP, if_pos ⟨hq, hc.2⟩] at h2
      exact h2
    · rw [if_neg hc]
      exact sumN_nonneg hnn
  rw [sumN_swap (fun o j => match l0[o]? with | some t => if t.P ≥ x.P then (if q o j ∧ t0 ≤ atN jobs j ∧ atN jobs j < t0 + w then costOf jobs j else 0) else 0 | none => 0)] at h1
  have h2 : sumN (fun o => sumN (fun j => match l0[o]? with | some t => if t.P ≥ x.P then (if q o j ∧ t0 ≤ atN jobs j ∧ atN jobs j < t0 + w then costOf jobs j else 0) else 0 | none => 0) l1.length) l0.length ≤
      sumN (fun o => (if o = i then x.C else 0) + (match l0[o]? with | some t => if o ≠ i ∧ t.P ≥ x.P then ceilD (w + t.J) t.T * t.C else 0 | none => 0)) l0.length := by
    refine sumN_le fun o ho => ?_
    have hto : l0[o]? = some l0[o] := List.getElem?_eq_getElem ho
    have hok := okt_of h.set l0[o] (List.getElem_mem ho)
    generalize l0[o] = t at hto hok
    simp only [hto]
    have hCt := hok.C; have hTt := hok.T; have hJt := hok.J
    by_cases hP : t.P ≥ x.P
    · simp only [if_pos hP]
      have hsp := spaced (n := l1.length) (q := q o) (r := atN jobs) (a := fun j => match l1[j]? with | some c => c.At | none => 0) (c := costOf jobs) (C := t.C) (T := t.T) (J := t.J) (by omega) (by omega) (fun j hj ⟨c', hc', he⟩ => by
        obtain ⟨c, t', a, b, hJ⟩ := h.at hj
        have : c = c' := by have := hJ.come; rw [hc'] at this; exact (Option.some.inj this).symm
        subst this
        have hb := hJ.b
        have ht' := hJ.task
        rw [he, Int.toNat_natCast, hto] at ht'
        cases ht'
        rw [← hjobs, costOf_some hJ.job]
        exact hb.2) (fun j hj ⟨c', hc', he⟩ => by
        obtain ⟨c, t', a, b, hJ⟩ := h.at hj
        have : c = c' := by have := hJ.come; rw [hc'] at this; exact (Option.some.inj this).symm
        subst this
        have ht' := hJ.task
        rw [he, Int.toNat_natCast, hto] at ht'
        cases ht'
        have ha := hJ.a; have hA := hJ.at_
        rw [← hjobs, atN_some hJ.job, hc']
        simp only
        omega) (fun j k hjk hk ⟨c1, hc1, he1⟩ ⟨c2, hc2, he2⟩ => by
        have := h.apart hjk hc1 hc2 (by omega) (t := t) (by rw [he2, Int.toNat_natCast]; exact hto)
        simp only [hc1, hc2]
        exact this) t0 w hw (by omega)
      by_cases hoi : o = i
      · subst hoi
        rw [hx] at hto
        cases hto
        rw [if_pos rfl, if_neg (fun h => h.1 rfl)]
        have hceil : ((w : Int) + x.J + x.T - 1) / x.T = 1 := by
          have e : (w : Int) + x.J + x.T - 1 = (w + x.J - 1) + x.T * 1 := by omega
          rw [e, Int.add_mul_ediv_left _ _ (by omega), Int.ediv_eq_zero_of_lt (by omega) (by omega)]
          rfl
        rw [hceil, Int.one_mul] at hsp
        omega
      · rw [if_neg hoi, if_pos ⟨hoi, hP⟩]
        unfold ceilD
        omega
    · have hz : sumN (fun j => if t.P ≥ x.P then (if q o j ∧ t0 ≤ atN jobs j ∧ atN jobs j < t0 + w then costOf jobs j else 0) else 0) l1.length = 0 := sumN_zero (fun j _ => if_neg hP)
      rw [hz]
      by_cases hoi : o = i
      · subst hoi
        rw [hx] at hto
        cases hto
        omega
      · rw [if_neg hoi, if_neg (fun h => hP h.2)]
        exact Int.le_refl _
  rw [sumN_add, sumN_pick (f := fun o => if o = i then x.C else 0) (k := i) hil (fun j _ hne => if_neg hne), if_pos rfl, ← wants_above hx w l0.length (Nat.le_refl _)] at h2
  show _ ≤ x.C + 0 + wants (aboveTill l0 i l0.length) w
  omega

/-- while one of a level waits, each tick does one tick's work of it -/
theorem Level.exact {n : Nat} {L : Nat → Nat → Int} {H : Nat → Prop} [DecidablePred H] {r : Nat → Nat} {c : Nat → Int} (h : Level n L H r c) {k : Nat} (hk : k < n) (hHk : H k) (hrk : r k = 0) (e : Nat) (hpend : ∀ t, t < e → 0 < L t k) : ∀ d, d ≤ e →
    sumN (fun j => if H j ∧ r j < e then L d j else 0) n + (d : Int) = sumN (fun j => if H j ∧ r j < e then c j else 0) n
  | 0, _ => by
    rw [sumN_congr (g := fun j => if H j ∧ r j < e then c j else 0) (fun j hj => by rw [h.start j hj])]
    simp
  | d + 1, hd => by
    have ih := Level.exact h hk hHk hrk e hpend d (by omega)
    obtain ⟨b, hb, hHb, hrb, hLb, hstep, hoth⟩ := h.runs d ⟨k, hk, hHk, by omega, hpend d (by omega)⟩
    have := sumN_one (f := fun j => if H j ∧ r j < e then L (d + 1) j else 0) (g := fun j => if H j ∧ r j < e then L d j else 0) (b := b) (d := -1) hb (by
      rw [if_pos ⟨hHb, by omega⟩, if_pos ⟨hHb, by omega⟩, hstep]; omega) (fun j hj hne => by
      by_cases hc : H j ∧ r j < e
      · rw [if_pos hc, if_pos hc]; exact hoth j hj hne
      · rw [if_neg hc, if_neg hc])
    rw [this]
    omega
/-- of the jobs of a task's level as much comes as its demand says, where all come as soon as they may -/
theorem JobsOk.demand_ge {l0 : List STask} {l1 : List SCome} {l2 l3 : List Int} (h : JobsOk l0 l1 l2 l3) {i : Nat} {x : STask} (hx : l0[i]? = some x) (e u : Nat) (he : 1 ≤ e) (heu : e ≤ u) (hs : l1 = soonTo l0 u) (hO : ∀ t ∈ l0, t.O = 0) (hJ0 : ∀ t ∈ l0, t.J = 0)
    (htk : ∀ j c t a b, JobAt l0 l1 l2 l3 j c t a b → b = t.C) (H : Nat → Prop) [DecidablePred H] (hH : ∀ j c t a b, JobAt l0 l1 l2 l3 j c t a b → x.P ≤ t.P → H j) :
    dem x 0 (aboveOf l0 i) e ≤ sumN (fun j => if H j ∧ atN (jobsTill l0 l1 l2 l3 l1.length) j < e then costOf (jobsTill l0 l1 l2 l3 l1.length) j else 0) l1.length := by
  generalize hjobs : jobsTill l0 l1 l2 l3 l1.length = jobs
  let q : Nat → Nat → Prop := fun o j => ∃ c, l1[j]? = some c ∧ c.Task = (o : Int)
  haveI : ∀ o, DecidablePred (q o) := fun o j => Classical.propDecidable _
  have hil := lt_of_get hx
  have hl := okt_of h.set
  have hcost : ∀ {j c t a b}, JobAt l0 l1 l2 l3 j c t a b → costOf jobs j = t.C ∧ (atN jobs j : Int) = c.At := fun {j c t a b} hJ => by
    have hb := htk j c t a b hJ
    have ha := hJ.a
    have hj := hJ0 t (List.mem_of_getElem? hJ.task)
    have hA := hJ.at_
    rw [← hjobs, costOf_some hJ.job, atN_some hJ.job]
    exact ⟨hb, by simp only; omega⟩
  -- task by task
  have h1 : sumN (fun j => sumN (fun o => match l0[o]? with | some t => if t.P ≥ x.P then (if q o j ∧ atN jobs j < e then costOf jobs j else 0) else 0 | none => 0) l0.length) l1.length ≤ sumN (fun j => if H j ∧ atN jobs j < e then costOf jobs j else 0) l1.length := by
    refine sumN_le fun j hj => ?_
    obtain ⟨c, t, a, b, hJ⟩ := h.at hj
    have hc0 := (hcost hJ).1
    have hC := hJ.ok.C
    have hq : q c.Task.toNat j := ⟨c, hJ.come, (Int.toNat_of_nonneg hJ.task0).symm⟩
    rw [sumN_pick (k := c.Task.toNat) (lt_of_get hJ.task) (fun o ho hne => by
      split
      · split
        · rw [if_neg]
          rintro ⟨⟨c', hc', he'⟩, _⟩
          have := hJ.come
          rw [hc'] at this
          cases this
          have := hJ.task0
          omega
        · rfl
      · rfl)]
    simp only [hJ.task]
    by_cases hP : t.P ≥ x.P
    · rw [if_pos hP]
      by_cases hlt : atN jobs j < e
      · rw [if_pos ⟨hq, hlt⟩, if_pos ⟨hH j c t a b hJ hP, hlt⟩]
        exact Int.le_refl _
      · rw [if_neg (fun h => hlt h.2), if_neg (fun h => hlt h.2)]
        exact Int.le_refl _
    · rw [if_neg hP]
      split <;> omega
  rw [sumN_swap (fun o j => match l0[o]? with | some t => if t.P ≥ x.P then (if q o j ∧ atN jobs j < e then costOf jobs j else 0) else 0 | none => 0)] at h1
  refine Int.le_trans ?_ h1
  -- of one task
  have h3 : ∀ (o : Nat) (t : STask), l0[o]? = some t → ∀ m : Nat, (1 ≤ m → t.T * ((m - 1 : Nat) : Int) < e) → (m : Int) * t.C ≤ sumN (fun j => if q o j ∧ atN jobs j < e ∧ (atN jobs j : Int) < t.T * (m : Int) then costOf jobs j else 0) l1.length := by
    intro o t ht m
    have hok := hl t (List.mem_of_getElem? ht)
    have hC := hok.C; have hT := hok.T
    induction m with
    | zero =>
      intro _
      rw [show ((0 : Nat) : Int) * t.C = 0 by simp]
      refine sumN_nonneg fun j hj => ?_
      obtain ⟨c, t', a, b, hJ⟩ := h.at hj
      have := (hcost hJ).1; have := hJ.ok.C
      split <;> omega
    | succ m ih =>
      intro hm
      have hme := hm (by omega)
      rw [show m + 1 - 1 = m by omega] at hme
      have hnn : 0 ≤ t.T * (m : Int) := Int.mul_nonneg (by omega) (by omega)
      have ih := ih (fun h1 => by
        have : t.T * ((m - 1 : Nat) : Int) ≤ t.T * (m : Int) := Int.mul_le_mul_of_nonneg_left (by omega) (by omega)
        omega)
      have hmem : (⟨(o : Int), t.T * (m : Int)⟩ : SCome) ∈ l1 := by
        rw [hs]
        refine soonTo_mem.2 ⟨(t.T * (m : Int)).toNat, o, t, by omega, ht, ?_, ?_, ?_⟩
        · rw [hO t (List.mem_of_getElem? ht)]; omega
        · rw [hO t (List.mem_of_getElem? ht), show (((t.T * (m : Int)).toNat : Nat) : Int) - 0 = t.T * (m : Int) by omega]
          exact Int.mul_emod_right _ _
        · rw [show (((t.T * (m : Int)).toNat : Nat) : Int) = t.T * (m : Int) by omega]
      obtain ⟨k, hk⟩ := List.mem_iff_getElem?.1 hmem
      have hkl := lt_of_get hk
      obtain ⟨c, t', a, b, hJ⟩ := h.at hkl
      have : c = ⟨(o : Int), t.T * (m : Int)⟩ := by have := hJ.come; rw [hk] at this; exact (Option.some.inj this).symm
      subst this
      have ht' := hJ.task
      simp only [Int.toNat_natCast, ht] at ht'
      cases ht'
      obtain ⟨k1, k2⟩ := hcost hJ
      simp only at k2
      have hstep : t.T * ((m + 1 : Nat) : Int) = t.T * (m : Int) + t.T := by rw [show ((m + 1 : Nat) : Int) = (m : Int) + 1 by omega, Int.mul_add]; omega
      have h4 : sumN (fun j => (if q o j ∧ atN jobs j < e ∧ (atN jobs j : Int) < t.T * (m : Int) then costOf jobs j else 0) + (if j = k then t.C else 0)) l1.length ≤ sumN (fun j => if q o j ∧ atN jobs j < e ∧ (atN jobs j : Int) < t.T * ((m + 1 : Nat) : Int) then costOf jobs j else 0) l1.length := by
        refine sumN_le fun j hj => ?_
        obtain ⟨c', t'', a', b', hJ'⟩ := h.at hj
        have hc0 := (hcost hJ').1; have hC' := hJ'.ok.C
        by_cases hjk : j = k
        · subst hjk
          rw [if_neg (by omega), if_pos rfl, if_pos ⟨⟨_, hk, rfl⟩, by omega, by omega⟩, k1]
          omega
        · rw [if_neg hjk]
          by_cases hc : q o j ∧ atN jobs j < e ∧ (atN jobs j : Int) < t.T * (m : Int)
          · rw [if_pos hc, if_pos ⟨hc.1, hc.2.1, by omega⟩]; omega
          · rw [if_neg hc]
            split <;> omega
      rw [sumN_add, sumN_pick (f := fun j => if j = k then t.C else 0) (k := k) hkl (fun j _ hne => if_neg hne), if_pos rfl] at h4
      rw [show ((m + 1 : Nat) : Int) * t.C = (m : Int) * t.C + t.C by rw [show ((m + 1 : Nat) : Int) = (m : Int) + 1 by omega, Int.add_mul]; omega]
      omega
  have h4 : ∀ (o : Nat) (t : STask), l0[o]? = some t → ceilD ((e : Int) + t.J) t.T * t.C ≤ sumN (fun j => if q o j ∧ atN jobs j < e then costOf jobs j else 0) l1.length := by
    intro o t ht
    have hok := hl t (List.mem_of_getElem? ht)
    have hC := hok.C; have hT := hok.T
    have hJt := hJ0 t (List.mem_of_getElem? ht)
    have hd := Int.emod_add_mul_ediv ((e : Int) + t.J + t.T - 1) t.T
    have hm1 := Int.emod_nonneg ((e : Int) + t.J + t.T - 1) (show t.T ≠ 0 by omega)
    have hm2 := Int.emod_lt_of_pos ((e : Int) + t.J + t.T - 1) (show 0 < t.T by omega)
    have hn : 0 ≤ ((e : Int) + t.J + t.T - 1) / t.T := Int.ediv_nonneg (by omega) (by omega)
    have hcd : ceilD ((e : Int) + t.J) t.T = ((e : Int) + t.J + t.T - 1) / t.T := rfl
    rw [hcd]
    generalize ((e : Int) + t.J + t.T - 1) / t.T = m at *
    have h5 := h3 o t ht m.toNat (fun h1 => by
      rw [show ((m.toNat - 1 : Nat) : Int) = m - 1 by omega, Int.mul_sub]
      omega)
    rw [show ((m.toNat : Nat) : Int) = m by omega] at h5
    refine Int.le_trans h5 (sumN_le fun j hj => ?_)
    obtain ⟨c', t'', a', b', hJ'⟩ := h.at hj
    have hc0 := (hcost hJ').1; have hC' := hJ'.ok.C
    by_cases hc : q o j ∧ atN jobs j < e
    · rw [if_pos hc]; split <;> omega
    · rw [if_neg hc, if_neg (fun h => hc ⟨h.1, h.2.1⟩)]; exact Int.le_refl _
  have h5 : sumN (fun o => (if o = i then x.C else 0) + (match l0[o]? with | some t => if o ≠ i ∧ t.P ≥ x.P then ceilD (e + t.J) t.T * t.C else 0 | none => 0)) l0.length ≤
      sumN (fun o => sumN (fun j => match l0[o]? with | some t => if t.P ≥ x.P then (if q o j ∧ atN jobs j < e then costOf jobs j else 0) else 0 | none => 0) l1.length) l0.length := by
    refine sumN_le fun o ho => ?_
    obtain ⟨t, ht⟩ : ∃ t, l0[o]? = some t := ⟨l0[o], List.getElem?_eq_getElem ho⟩
    have hok := hl t (List.mem_of_getElem? ht)
    have hC := hok.C; have hT := hok.T
    have hJt := hJ0 t (List.mem_of_getElem? ht)
    have h6 := h4 o t ht
    simp only [ht]
    by_cases hP : t.P ≥ x.P
    · simp only [if_pos hP]
      by_cases hoi : o = i
      · subst hoi
        rw [hx] at ht; cases ht
        rw [if_pos rfl, if_neg (fun h => h.1 rfl)]
        have hc1 : 1 ≤ ceilD ((e : Int) + x.J) x.T := by
          unfold ceilD
          exact (Int.le_ediv_iff_mul_le (by omega)).2 (by omega)
        have := Int.mul_le_mul_of_nonneg_right hc1 (show 0 ≤ x.C by omega)
        omega
      · rw [if_neg hoi, if_pos ⟨hoi, hP⟩]
        omega
    · have hoi : o ≠ i := fun e' => by subst e'; rw [hx] at ht; cases ht; omega
      rw [if_neg hoi, if_neg (fun h => hP h.2)]
      simp only [if_neg hP]
      rw [sumN_zero (fun _ _ => rfl)]
      exact Int.le_refl _
  rw [sumN_add, sumN_pick (f := fun o => if o = i then x.C else 0) (k := i) hil (fun j _ hne => if_neg hne), if_pos rfl, ← wants_above hx e l0.length (Nat.le_refl _)] at h5
  show x.C + 0 + wants (aboveTill l0 i l0.length) e ≤ _
  omega

theorem rowAt_zero {l : List STask} (hO : ∀ t ∈ l, t.O = 0) : ∀ n, n ≤ l.length → rowAt l 0 n = (List.range n).map fun (i : Nat) => (⟨(i : Int), 0⟩ : SCome)
  | 0, _ => rfl
  | n + 1, hn => by
    obtain ⟨t, ht⟩ : ∃ t, l[n]? = some t := ⟨l[n]'(by omega), List.getElem?_eq_getElem (by omega)⟩
    have h0 := hO t (List.mem_of_getElem? ht)
    simp only [rowAt, ht, rowAt_zero hO n (by omega), List.range_succ, List.map_append, List.map_cons, List.map_nil]
    rw [if_pos ⟨by omega, by rw [h0]; simp⟩]
theorem soonTo_first (l : List STask) : ∀ n, 1 ≤ n → ∃ r, soonTo l n = rowAt l 0 l.length ++ r
  | 0, h => by omega
  | 1, _ => ⟨[], by simp [soonTo]⟩
  | n + 2, _ => by
    obtain ⟨r, hr⟩ := soonTo_first l (n + 1) (by omega)
    refine ⟨r ++ rowAt l ((n + 1 : Nat) : Int) l.length, ?_⟩
    rw [soonTo, hr, List.append_assoc]
theorem soonTo_get {l : List STask} (hO : ∀ t ∈ l, t.O = 0) {u : Nat} (hu : 1 ≤ u) {i : Nat} (hi : i < l.length) : (soonTo l u)[i]? = some ⟨(i : Int), 0⟩ := by
  obtain ⟨r, hr⟩ := soonTo_first l u hu
  rw [hr, rowAt_zero hO l.length (Nat.le_refl _), List.getElem?_append_left (by simpa using hi), List.getElem?_map, List.getElem?_range hi]
  rfl
/-- what is known where all come at 0 -/
structure Exact (l0 : List STask) (l1 : List SCome) (l2 l3 : List Int) (u : Nat) : Prop where
  ok : JobsOk l0 l1 l2 l3
  come : l1 = soonTo l0 u
  O : ∀ t ∈ l0, t.O = 0
  J : ∀ t ∈ l0, t.J = 0
  DT : ∀ t ∈ l0, t.D ≤ t.T
  Du : ∀ t ∈ l0, t.D ≤ (u : Int)
  P : ∀ (i j : Nat) (t s : STask), l0[i]? = some t → l0[j]? = some s → t.P = s.P → i = j
  tk : ∀ j c t a b, JobAt l0 l1 l2 l3 j c t a b → b = t.C
section
variable {l0 : List STask} {l1 : List SCome} {l2 l3 : List Int} {u : Nat}
theorem Exact.job (h : Exact l0 l1 l2 l3 u) {i : Nat} {x : STask} (hx : l0[i]? = some x) : JobAt l0 l1 l2 l3 i ⟨(i : Int), 0⟩ x 0 x.C ∧ i < l1.length := by
  have hm := List.mem_of_getElem? hx
  have hD := (okt_of h.ok.set x hm).D
  have hu := h.Du x hm
  have hc := soonTo_get h.O (u := u) (by omega) (lt_of_get hx)
  rw [← h.come] at hc
  obtain ⟨c, t, a, b, hJ⟩ := h.ok.at (lt_of_get hc)
  have : c = ⟨(i : Int), 0⟩ := by have := hJ.come; rw [hc] at this; exact (Option.some.inj this).symm
  subst this
  have ht := hJ.task
  simp only [Int.toNat_natCast, hx] at ht
  cases ht
  have ha := hJ.a
  have hj := h.J x hm
  obtain rfl : a = 0 := by omega
  obtain rfl : b = x.C := h.tk _ _ _ _ _ hJ
  exact ⟨hJ, lt_of_get hc⟩
theorem Exact.level (h : Exact l0 l1 l2 l3 u) (x : STask) : Level l1.length (leftP 1 true (jobsTill l0 l1 l2 l3 l1.length)) (fun j => ∃ e, (jobsTill l0 l1 l2 l3 l1.length)[j]? = some e ∧ x.P ≤ e.P) (atN (jobsTill l0 l1 l2 l3 l1.length)) (costOf (jobsTill l0 l1 l2 l3 l1.length)) := by
  have := simP_level h.ok.okj x.P
  rw [jobsTill_len] at this
  exact this
theorem Exact.waits (h : Exact l0 l1 l2 l3 u) {i : Nat} {x : STask} (hx : l0[i]? = some x) {w : Nat} (hw : 1 ≤ w) (hwD : (w : Int) ≤ x.D) (hp : 0 < leftP 1 true (jobsTill l0 l1 l2 l3 l1.length) w i) : (w : Int) < dem x 0 (aboveOf l0 i) w := by
  haveI : DecidablePred (fun (j : Nat) => ∃ e : SJob, (jobsTill l0 l1 l2 l3 l1.length)[j]? = some e ∧ x.P ≤ e.P) := fun _ => Classical.propDecidable _
  obtain ⟨hJ, hil⟩ := h.job hx
  have hL := h.level x
  have hm := List.mem_of_getElem? hx
  have hHi : ∃ e, (jobsTill l0 l1 l2 l3 l1.length)[i]? = some e ∧ x.P ≤ e.P := ⟨_, hJ.job, Int.le_refl _⟩
  have hr : atN (jobsTill l0 l1 l2 l3 l1.length) i = 0 := by rw [atN_some hJ.job]; rfl
  have he := hL.exact hil hHi hr w (fun t ht => by have := hL.mono (show t ≤ w by omega) i; omega) w (Nat.le_refl _)
  have hterm := sumN_term (f := fun j => if (∃ e, (jobsTill l0 l1 l2 l3 l1.length)[j]? = some e ∧ x.P ≤ e.P) ∧ atN (jobsTill l0 l1 l2 l3 l1.length) j < w then leftP 1 true (jobsTill l0 l1 l2 l3 l1.length) w j else 0) (n := l1.length) (k := i) (fun j _ => by
    split
    · exact hL.nonneg _ _
    · exact Int.le_refl _) hil
  rw [if_pos ⟨hHi, by omega⟩] at hterm
  have hdem := h.ok.demand hx w hw (by have := h.DT x hm; have := h.J x hm; omega) (fun j => ∃ e, (jobsTill l0 l1 l2 l3 l1.length)[j]? = some e ∧ x.P ≤ e.P) (fun j c t a b hJ' ⟨e, he', hP⟩ => by
    have := hJ'.job
    rw [he'] at this
    cases this
    exact hP) 0
  rw [sumN_congr (g := fun j => if (∃ e, (jobsTill l0 l1 l2 l3 l1.length)[j]? = some e ∧ x.P ≤ e.P) ∧ atN (jobsTill l0 l1 l2 l3 l1.length) j < w then costOf (jobsTill l0 l1 l2 l3 l1.length) j else 0) (fun j hj => by
    by_cases hc : (∃ e, (jobsTill l0 l1 l2 l3 l1.length)[j]? = some e ∧ x.P ≤ e.P) ∧ atN (jobsTill l0 l1 l2 l3 l1.length) j < w
    · rw [if_pos hc, if_pos ⟨hc.1, by omega, by omega⟩]
    · rw [if_neg hc, if_neg (fun h => hc ⟨h.1, by omega⟩)])] at hdem
  omega
theorem Exact.ends (h : Exact l0 l1 l2 l3 u) {i : Nat} {x : STask} (hx : l0[i]? = some x) {s : Nat} (hs : 1 ≤ s) (hsD : (s : Int) ≤ x.D) (h0 : leftP 1 true (jobsTill l0 l1 l2 l3 l1.length) s i = 0) (hp : 0 < leftP 1 true (jobsTill l0 l1 l2 l3 l1.length) (s - 1) i) : dem x 0 (aboveOf l0 i) s ≤ s := by
  haveI : DecidablePred (fun (j : Nat) => ∃ e : SJob, (jobsTill l0 l1 l2 l3 l1.length)[j]? = some e ∧ x.P ≤ e.P) := fun _ => Classical.propDecidable _
  obtain ⟨hJ, hil⟩ := h.job hx
  have hL := h.level x
  have hm := List.mem_of_getElem? hx
  have hokj := h.ok.okj
  have hHi : ∃ e, (jobsTill l0 l1 l2 l3 l1.length)[i]? = some e ∧ x.P ≤ e.P := ⟨_, hJ.job, Int.le_refl _⟩
  have hr : atN (jobsTill l0 l1 l2 l3 l1.length) i = 0 := by rw [atN_some hJ.job]; rfl
  have he := hL.exact hil hHi hr s (fun t ht => by have := hL.mono (show t ≤ s - 1 by omega) i; omega) s (Nat.le_refl _)
  -- who runs last is the job itself
  obtain ⟨t, rfl⟩ : ∃ t, s = t + 1 := ⟨s - 1, by omega⟩
  rw [show t + 1 - 1 = t by omega] at hp
  have hfirst : ∀ j y, (jobsTill l0 l1 l2 l3 l1.length)[j]? = some y → y.At ≤ (t : Int) → 0 < leftP 1 true (jobsTill l0 l1 l2 l3 l1.length) t j → ¬ aheadJ 1 y ⟨(i : Int), 0 + 0, x.C, 0 + x.D, x.P⟩ := by
    intro j y hy hA hl
    rcases runP_first 1 hokj t with ⟨_, g⟩ | ⟨b, z, g1, g2, g3, g4, g5⟩
    · exact absurd ⟨by simp only; omega, hp⟩ (g i _ hJ.job)
    · have hbi : b = i := by
        rcases leftP_step 1 true hokj t with ⟨k1, _⟩ | ⟨b', k1, k2, k3, k4, _, k6⟩
        · omega
        · have hb' : b' = b := by omega
          subst hb'
          apply Decidable.byContradiction
          intro hne
          have := (k6 i (fun e => hne e.symm)).1
          omega
      subst hbi
      have hz := hJ.job
      rw [g2] at hz
      cases hz
      exact (g5 j y hy hA hl).1
  have hzero : ∀ j, j < l1.length → (if (∃ e, (jobsTill l0 l1 l2 l3 l1.length)[j]? = some e ∧ x.P ≤ e.P) ∧ atN (jobsTill l0 l1 l2 l3 l1.length) j < t + 1 then leftP 1 true (jobsTill l0 l1 l2 l3 l1.length) (t + 1) j else 0) = 0 := by
    intro j hj
    by_cases hc : (∃ e, (jobsTill l0 l1 l2 l3 l1.length)[j]? = some e ∧ x.P ≤ e.P) ∧ atN (jobsTill l0 l1 l2 l3 l1.length) j < t + 1
    · rw [if_pos hc]
      obtain ⟨⟨e, he1, he2⟩, hlt⟩ := hc
      by_cases hji : j = i
      · subst hji; exact h0
      obtain ⟨c, tt, a, b, hJ'⟩ := h.ok.at hj
      have heq := hJ'.job
      rw [he1] at heq
      cases heq
      have hA := hJ'.at_; have ha := hJ'.a; have hjt := h.J tt (List.mem_of_getElem? hJ'.task)
      rw [atN_some hJ'.job] at hlt
      simp only at he2 hlt
      have hnn := hL.nonneg (t + 1) j
      have hdn := hL.down t j
      by_cases hpos : 0 < leftP 1 true (jobsTill l0 l1 l2 l3 l1.length) t j
      · exfalso
        have hna := hfirst j _ hJ'.job (by simp only; omega) hpos
        unfold aheadJ at hna
        rw [if_pos rfl] at hna
        simp only at hna
        have hPe : tt.P = x.P := by omega
        have hti := h.P _ _ _ _ hJ'.task hx hPe
        have hct : c.Task = (i : Int) := by have := hJ'.task0; omega
        have hDT := h.DT x hm
        have hxT := hJ.task
        rcases Nat.lt_or_gt_of_ne hji with hlt' | hgt
        · have := h.ok.apart hlt' hJ'.come hJ.come hct hxT
          have := hJ.ok.T
          simp only at *
          omega
        · have := h.ok.apart hgt hJ.come hJ'.come hct.symm (t := x) (by rw [hct]; exact hx)
          simp only at *
          omega
      · omega
    · rw [if_neg hc]
  rw [sumN_zero hzero] at he
  have hge := h.ok.demand_ge hx (t + 1) u hs (by have := h.Du x hm; omega) h.come h.O h.J h.tk (fun j => ∃ e, (jobsTill l0 l1 l2 l3 l1.length)[j]? = some e ∧ x.P ≤ e.P) (fun j c t a b hJ' hP => ⟨_, hJ'.job, hP⟩)
  omega
end
/-- some earlier one has the same priority -/
def dupP (l : List STask) (i : Nat) (t : STask) : Prop := ∃ (j : Nat) (e : STask), j < i ∧ l[j]? = some e ∧ e.P = t.P
theorem dup_loop (l : List STask) (i : Nat) (hi : i ≤ l.length) (t : STask) (K : Nat) (hK : i < K) : iter (FixedExact.r2 l i t) K 0 = some (.inr true) ∧ dupP l i t ∨ iter (FixedExact.r2 l i t) K 0 = some (.inl ()) ∧ ¬ dupP l i t := by
  classical
  have hr := iter_first0 (f := FixedExact.r2 l i t) (fun j => match l[j]? with | some e => if e.P = t.P then some true else none | none => none) i (t := ()) (fun j hj => by
    have hj' : (j : Int) < (((l.take i).drop 0).length : Int) := by simp; omega
    have hg : ((l.take i).drop 0)[j]? = some (l[j]'(by omega)) := by rw [takedrop, List.getElem?_take_of_lt hj]; exact List.getElem?_eq_getElem _
    have hg2 : l[j]? = some (l[j]'(by omega)) := List.getElem?_eq_getElem _
    simp only [FixedExact.r2, if_pos hj', hg, hg2]
    by_cases h : (l[j]'(by omega)).P = t.P
    · rw [if_pos h, if_pos h]; rfl
    · rw [if_neg h, if_neg h]; rfl) (by simp [FixedExact.r2]; omega) hK
  rw [hr]
  cases hf : firstOf (fun j => match l[j]? with | some e => if e.P = t.P then some true else none | none => none) i 0 with
  | none =>
    right
    refine ⟨rfl, ?_⟩
    rintro ⟨j, e, hj, he, hP⟩
    have := firstOf_none hf j (Nat.zero_le _) hj
    simp only [he, if_pos hP] at this
    cases this
  | some r =>
    left
    obtain ⟨j, _, hj, hg, _⟩ := firstOf_some hf
    have hg2 : l[j]? = some (l[j]'(by omega)) := List.getElem?_eq_getElem _
    simp only [hg2] at hg
    split at hg
    · rename_i hP
      cases hg
      exact ⟨rfl, j, _, hj, hg2, hP⟩
    · cases hg
/-- what the first loop has seen -/
def Seen (l : List STask) (i : Nat) (z : Int) : Prop := 0 ≤ z ∧ ∀ (k : Nat) (t : STask), k < i → l[k]? = some t → t.J = 0 ∧ t.O = 0 ∧ t.D ≤ z ∧ ¬ dupP l k t
theorem seen_loop (l : List STask) (K : Nat) (hK : 20 ≤ K) (h8 : l.length ≤ 8) : ∀ (d i : Nat) (z : Int) (K' : Nat), d < K' → i + d = l.length → Seen l i z → iter (FixedExact.r1 K l) K' (z, i) = some (.inr true) ∨ ∃ z3, iter (FixedExact.r1 K l) K' (z, i) = some (.inl z3) ∧ Seen l l.length z3
  | 0, i, z, K' + 1, hK', hi, hs => by
    obtain rfl : i = l.length := by omega
    right
    refine ⟨z, ?_, hs⟩
    simp only [iter, FixedExact.r1]
    rw [if_neg (by omega)]
  | d + 1, i, z, K' + 1, hK', hi, hs => by
    have hil : i < l.length := by omega
    obtain ⟨t, ht⟩ : ∃ t, l[i]? = some t := ⟨l[i], List.getElem?_eq_getElem hil⟩
    simp only [iter, FixedExact.r1, ht]
    rw [if_pos (by omega), if_pos (by omega)]
    rcases dup_loop l i (by omega) t K (by omega) with ⟨h1, _⟩ | ⟨h1, h2⟩
    · left; rw [h1]
    · rw [h1]
      simp only
      by_cases hJ : t.J = 0
      · rw [if_pos hJ]
        by_cases hO : t.O = 0
        · rw [if_pos hO]
          simp only
          refine seen_loop l K hK h8 d (i + 1) (gmax z t.D) K' (by omega) (by omega) ⟨by rw [gmax_eq]; have := hs.1; omega, fun k s hk hsk => ?_⟩
          rw [gmax_eq]
          by_cases e : k = i
          · subst e
            rw [ht] at hsk; cases hsk
            exact ⟨hJ, hO, by omega, h2⟩
          · obtain ⟨a, b, c, d⟩ := hs.2 k s (by omega) hsk
            exact ⟨a, b, by omega, d⟩
        · left; rw [if_neg hO]
      · left; rw [if_neg hJ]
def takesOf (l0 : List STask) (l1 : List SCome) : List Int := l1.map fun c => match l0[c.Task.toNat]? with | some t => t.C | none => 0
theorem takes_loop (l0 : List STask) (l1 : List SCome) (y : SFault) (hc : ∀ c ∈ l1, 0 ≤ c.Task ∧ c.Task < (l0.length : Int)) (hl : l1.length ≤ 600) : ∀ (d i K : Nat), d < K → i + d = l1.length → iter (FixedExact.r4 l0 (l1, y)) K ((takesOf l0 l1).take i, i) = some (.inl (takesOf l0 l1))
  | 0, i, K + 1, hK, hi => by
    obtain rfl : i = l1.length := by omega
    simp only [iter, FixedExact.r4]
    rw [if_neg (by omega), List.take_of_length_le (by simp [takesOf])]
  | d + 1, i, K + 1, hK, hi => by
    have hil : i < l1.length := by omega
    obtain ⟨c, hci⟩ : ∃ c, l1[i]? = some c := ⟨l1[i], List.getElem?_eq_getElem hil⟩
    obtain ⟨h1, h2⟩ := hc c (List.mem_of_getElem? hci)
    obtain ⟨t, ht⟩ : ∃ t, l0[c.Task.toNat]? = some t := ⟨l0[c.Task.toNat]'(by omega), List.getElem?_eq_getElem (by omega)⟩
    have htk : (takesOf l0 l1)[i]? = some t.C := by simp [takesOf, hci, ht]
    have ih := takes_loop l0 l1 y hc hl d (i + 1) K (by omega) (by omega)
    rw [List.take_add_one, htk] at ih
    simp only [iter, FixedExact.r4, hci, ht]
    rw [if_pos (by omega), if_pos h1, if_pos (by simp [takesOf]; omega)]
    exact ih
theorem FixedExact_law (l0 : List STask) (ok0 : ∀ y ∈ l0, Ok.ok y) : ∃ K, FixedExact.f K l0 = some true := by
  obtain ⟨B, hB⟩ := exists_bound (fun t : STask => t.Name.size) l0
  refine ⟨B + 100010, ?_⟩
  have hp0 : FixedExact.p0 (B + 100010) = some (.inl ()) := by
    unfold FixedExact.p0
    rw [responds_true (B + 100010) (by omega)]
    simp only [if_true]
    rw [runs_true (B + 100010) (by omega)]
    rfl
  have hsz : ∀ t ∈ l0, t.Name.size < B + 100010 := fun t ht => by have := hB t ht; omega
  unfold FixedExact.f
  simp only [hp0, CheckFixed_eq l0 ok0 (B + 100010) (by omega) hsz]
  by_cases hff : (fixedFault l0).Code = 0
  case neg => rw [if_neg hff]
  rw [if_pos hff]
  obtain ⟨hset, hffe, hDT⟩ := fixedFault_ok hff
  have hl := okt_of hset
  have h8 := (setFault_ok hset).2.1
  rcases seen_loop l0 (B + 100010) (by omega) h8 l0.length 0 0 (B + 100010) (by omega) (by omega) ⟨Int.le_refl _, fun k t hk _ => by omega⟩ with hr | ⟨z3, hr, hz0, hz⟩
  · simp only [hr]
  simp only [hr]
  by_cases hz15 : z3 > 1500
  · rw [if_pos hz15]
  rw [if_neg hz15, Comes_eq l0 z3 (B + 100010) (by omega)]
  simp only
  have hso : soonOf l0 z3 = if totalTill l0 z3 l0.length > 4000 then ([], ⟨2, 0⟩) else (soonTo l0 z3.toNat, ⟨0, 0⟩) := by
    unfold soonOf
    rw [if_pos hset, if_neg (by omega)]
  by_cases htot : totalTill l0 z3 l0.length > 4000
  · rw [hso, if_pos htot]
    rfl
  have hlegal : (comesFault l0 (soonOf l0 z3).1).Code = 0 := soon_legal (by rw [hso, if_neg htot])
  rw [hso, if_neg htot] at hlegal ⊢
  simp only at hlegal
  obtain ⟨u, rfl⟩ := Int.eq_ofNat_of_zero_le hz0
  rw [Int.toNat_natCast] at hlegal ⊢
  by_cases h600 : (soonTo l0 u).length > 600
  · have hp3 : FixedExact.p3 (soonTo l0 u, ⟨0, 0⟩) = some (.inr true) := by
      have h1 : ((soonTo l0 u).length : Int) > 600 := by omega
      have h2 : ¬ ((soonTo l0 u).length : Int) = 0 := by omega
      simp only [FixedExact.p3, if_true, if_pos h1, if_neg h2]
      rw [decide_eq_true h1]
    simp only [hp3]
  have hp3 : FixedExact.p3 (soonTo l0 u, ⟨0, 0⟩) = some (.inl ()) := by
    have h1 : ¬ ((soonTo l0 u).length : Int) > 600 := by omega
    simp only [FixedExact.p3, if_true, if_neg h1]
  obtain ⟨_, hl4, hca⟩ := comesFault_ok hlegal
  generalize hl1 : soonTo l0 u = l1 at *
  have htask : ∀ c ∈ l1, 0 ≤ c.Task ∧ c.Task < (l0.length : Int) := fun c hc => by
    obtain ⟨k, hk⟩ := List.mem_iff_getElem?.1 hc
    have := comeAt_none hk (hca k (lt_of_get hk))
    exact ⟨this.1, this.2.1⟩
  have htk := takes_loop l0 l1 ⟨0, 0⟩ htask (by omega) l1.length 0 (B + 100010) (by omega) (by omega)
  rw [List.take_zero] at htk
  have hjo : (jobsOf l0 l1 (List.replicate l1.length 0) (takesOf l0 l1)).2.Code = 0 := by
    unfold jobsOf
    rw [if_pos hlegal, if_pos ⟨by simp, by simp [takesOf]⟩, firstOf_none_of (fun i _ hi => ?_)]
    obtain ⟨c, hc⟩ : ∃ c, l1[i]? = some c := ⟨l1[i], List.getElem?_eq_getElem hi⟩
    obtain ⟨h1, h2⟩ := htask c (List.mem_of_getElem? hc)
    obtain ⟨t, ht⟩ : ∃ t, l0[c.Task.toNat]? = some t := ⟨l0[c.Task.toNat]'(by omega), List.getElem?_eq_getElem (by omega)⟩
    have hto := hl t (List.mem_of_getElem? ht)
    have ha : (List.replicate l1.length (0 : Int))[i]? = some 0 := by simp [hi]
    have hb : (takesOf l0 l1)[i]? = some t.C := by simp [takesOf, hc, ht]
    have hJ := hto.J; have hC := hto.C
    simp only [jobAt, hc, ha, hb, ht]
    rw [if_neg (by omega)]
  have h := jobsOf_ok hjo
  have hExact : Exact l0 l1 (List.replicate l1.length 0) (takesOf l0 l1) u := ⟨h, hl1.symm, fun t ht => by
      obtain ⟨k, hk⟩ := List.mem_iff_getElem?.1 ht
      exact (hz k t (lt_of_get hk) hk).2.1, fun t ht => by
      obtain ⟨k, hk⟩ := List.mem_iff_getElem?.1 ht
      exact (hz k t (lt_of_get hk) hk).1, hDT, fun t ht => by
      obtain ⟨k, hk⟩ := List.mem_iff_getElem?.1 ht
      exact (hz k t (lt_of_get hk) hk).2.2.1, fun i j t s hi hj hP => by
      rcases Nat.lt_trichotomy i j with hlt | he | hgt
      · exact absurd ⟨i, t, hlt, hi, hP⟩ (hz j s (lt_of_get hj) hj).2.2.2
      · exact he
      · exact absurd ⟨j, s, hgt, hj, hP.symm⟩ (hz i t (lt_of_get hi) hi).2.2.2, fun j c t a b hJ => by
      have h1 := hJ.takes
      have : (takesOf l0 l1)[j]? = some t.C := by simp [takesOf, hJ.come, hJ.task]
      rw [this] at h1
      exact (Option.some.inj h1).symm⟩
  simp only [hp3, htk]
  rw [if_pos (by omega), Jobs_eq0 l0 l1 _ _ (B + 100010) (by omega), h.eq]
  simp only
  rw [if_pos trivial, Play_eq _ _ _ _ (B + 100010) (by omega)]
  have hok := h.okj
  have hpf := playFault_of (l := jobsTill l0 l1 (List.replicate l1.length 0) (takesOf l0 l1) l1.length) (by rw [jobsTill_len]; omega) hok
  have hplay : playOf (jobsTill l0 l1 (List.replicate l1.length 0) (takesOf l0 l1) l1.length) 1 true (u : Int) = (⟨runsTill 1 true (jobsTill l0 l1 (List.replicate l1.length 0) (takesOf l0 l1) l1.length) u u, (simP 1 true (jobsTill l0 l1 (List.replicate l1.length 0) (takesOf l0 l1) l1.length) u).2.2⟩, ⟨0, 0⟩) := by
    unfold playOf
    rw [hpf, if_pos rfl, if_pos (.inl rfl), if_neg (by omega)]
    rfl
  rw [hplay]
  have hsim := simP_ok 1 true hok u
  have hel : (simP 1 true (jobsTill l0 l1 (List.replicate l1.length 0) (takesOf l0 l1) l1.length) u).2.2.length = l1.length := by rw [hsim.ends, jobsTill_len]
  have hp5 : ∀ x, FixedExact.p5 (l1, ⟨0, 0⟩) (⟨x, (simP 1 true (jobsTill l0 l1 (List.replicate l1.length 0) (takesOf l0 l1) l1.length) u).2.2⟩, ⟨0, 0⟩) = some (.inl ()) := fun x => by
    have h1 : ((simP 1 true (jobsTill l0 l1 (List.replicate l1.length 0) (takesOf l0 l1) l1.length) u).2.2.length : Int) = (l1.length : Int) := by omega
    simp only [FixedExact.p5, if_true, if_pos h1]
  simp only [hp5]
  have hloop := iter_first0 (f := FixedExact.r6 (B + 100010) l0 (l1, ⟨0, 0⟩) (⟨runsTill 1 true (jobsTill l0 l1 (List.replicate l1.length 0) (takesOf l0 l1) l1.length) u u, (simP 1 true (jobsTill l0 l1 (List.replicate l1.length 0) (takesOf l0 l1) l1.length) u).2.2⟩, ⟨0, 0⟩)) (fun _ => none) l0.length (t := ()) (fun i hi => by
    have hi' : (i : Int) < (l0.length : Int) := by omega
    obtain ⟨x, hx⟩ : ∃ x, l0[i]? = some x := ⟨l0[i], List.getElem?_eq_getElem hi⟩
    obtain ⟨hJ, hil⟩ := hExact.job hx
    have hm := List.mem_of_getElem? hx
    have hJ0 := hExact.J x hm
    have hDu := hExact.Du x hm
    have hend := ends_get 1 true hok (show i < (jobsTill l0 l1 (List.replicate l1.length 0) (takesOf l0 l1) l1.length).length by rw [jobsTill_len]; exact hil) u
    have hspec := endP_spec 1 true hok (show i < (jobsTill l0 l1 (List.replicate l1.length 0) (takesOf l0 l1) l1.length).length by rw [jobsTill_len]; exact hil) u
    have hresp : respOf l0 (i : Int) 0 = if respond x (aboveOf l0 i) 0 = 0 then (0, ⟨13, (i : Int)⟩) else (respond x (aboveOf l0 i) 0, ⟨0, 0⟩) := by
      unfold respOf
      rw [if_pos hff, if_neg (by omega)]
      simp only [Int.toNat_natCast, hx]
    simp only [FixedExact.r6, if_pos hi', Response_eq l0 _ _ (B + 100010) (by omega), hJ.come, hend]
    rw [if_pos trivial, if_pos trivial, hresp]
    by_cases hset0 : settled (dem x 0 (aboveOf l0 i)) (x.D - x.J) = 0
    · have hr0 : respond x (aboveOf l0 i) 0 = 0 := by unfold respond; rw [if_pos hset0]
      rw [if_pos hr0]
      simp only [show ¬ ((13 : Int) = 0) by decide, if_false, hx]
      have hno := settled_zero hset0
      by_cases hge : endP 1 true (jobsTill l0 l1 (List.replicate l1.length 0) (takesOf l0 l1) l1.length) u i ≥ 0
      · rw [if_pos hge, if_neg]
        · rfl
        · intro hle
          by_cases hpos : 0 < leftP 1 true (jobsTill l0 l1 (List.replicate l1.length 0) (takesOf l0 l1) l1.length) u i
          · have := hspec.1 hpos; omega
          · have hnn := leftP_nonneg 1 true hok u i
            obtain ⟨s, s1, s2, s3, s4, s5⟩ := hspec.2 (by omega)
            have h1 := hExact.ends hx s1 (by omega) s4 s5
            have h2 := hno (s : Int) (by omega) (by omega)
            omega
      · rw [if_neg hge]; rfl
    · obtain ⟨r1, r2, r3, r4⟩ := settled_pos hset0
      have hr0 : respond x (aboveOf l0 i) 0 = settled (dem x 0 (aboveOf l0 i)) (x.D - x.J) := by unfold respond; rw [if_neg hset0]; omega
      generalize settled (dem x 0 (aboveOf l0 i)) (x.D - x.J) = r at *
      rw [hr0, if_neg (show ¬ r = 0 by omega)]
      simp only [if_true]
      obtain ⟨rn, rfl⟩ := Int.eq_ofNat_of_zero_le (show 0 ≤ r by omega)
      have hdone : leftP 1 true (jobsTill l0 l1 (List.replicate l1.length 0) (takesOf l0 l1) l1.length) rn i = 0 := by
        have hnn := leftP_nonneg 1 true hok rn i
        by_cases hpos : 0 < leftP 1 true (jobsTill l0 l1 (List.replicate l1.length 0) (takesOf l0 l1) l1.length) rn i
        · have := hExact.waits hx (w := rn) (by omega) (by omega) hpos
          omega
        · omega
      have hdu : leftP 1 true (jobsTill l0 l1 (List.replicate l1.length 0) (takesOf l0 l1) l1.length) u i = 0 := by
        have := leftP_mono 1 true hok (show rn ≤ u by omega) i
        have := leftP_nonneg 1 true hok u i
        omega
      have hed := endP_done 1 true hok (show i < (jobsTill l0 l1 (List.replicate l1.length 0) (takesOf l0 l1) l1.length).length by rw [jobsTill_len]; exact hil) hdone (show rn ≤ u by omega)
      obtain ⟨s, s1, s2, s3, s4, s5⟩ := hspec.2 hdu
      have h1 := hExact.ends hx s1 (by omega) s4 s5
      have hsr : (s : Int) = (rn : Int) := by
        by_cases hlt : (s : Int) < (rn : Int)
        · have := r4 (s : Int) (by omega) hlt; omega
        · omega
      rw [s3, hsr, if_pos rfl]
      rfl) (by simp [FixedExact.r6]) (K := B + 100010) (by omega)
  rw [hloop, firstOf_none_of (fun _ _ _ => rfl)]
  rfl

end Go.Proofs.Ytlipdmblinjjaaa.GV
