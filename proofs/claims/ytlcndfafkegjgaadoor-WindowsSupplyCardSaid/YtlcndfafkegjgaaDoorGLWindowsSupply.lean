/- Plain words: GvLWindowsSupply. -/
import Derived.Test.YtlcndfafkegjgaaDoorGWWindowsSupply3
import Derived.Test.YtlcndfafkegjgaaDoorGv17
namespace Go.Proofs.YtlcndfafkegjgaaDoor.GV
open Go Go.RowKit
set_option linter.unusedVariables false
set_option linter.unusedSimpArgs false
theorem SFault.eqb_self (x : SFault) : SFault.eqb x x = true := by simp [SFault.eqb]
theorem SWindow.eqb_self (x : SWindow) : SWindow.eqb x x = true := by simp [SWindow.eqb]
theorem STask.eqb_self (x : STask) : STask.eqb x x = true := by simp [STask.eqb]
theorem punctualsame_Lend_api_Window_some (l : List SWindow) (a : SWindow) (h : l.length ≤ 5000) : ∃ r, punctualsame_Lend_api_Window.f l a = some r := by
  have hw : IntKind.i64.wrap ((l.length : Int) + 3) = (l.length : Int) + 3 := wrap64_small (by omega) (by omega)
  unfold punctualsame_Lend_api_Window.f
  rw [hw, if_pos (by omega), if_pos (by omega), if_pos (by simp; omega), if_pos (by simp; omega)]
  exact ⟨_, rfl⟩
theorem punctualsame_Still_api_Window_true (l : List SWindow) (a : SWindow) (K : Nat) (hl : l.length ≤ 5000) (hK : 5010 ≤ K) : punctualsame_Still_api_Window.f K (l ++ [a, a, a]) l a = some true := by
  have hw : IntKind.i64.wrap ((l.length : Int) + 3) = (l.length : Int) + 3 := wrap64_small (by omega) (by omega)
  have hr := iter_first0 (f := punctualsame_Still_api_Window.r0 (l ++ [a, a, a]) l a) (fun _ => none) (l.length + 3) (t := ()) (fun i hi => by
    have h' : (i : Int) < ((l ++ [a, a, a] : List SWindow).length : Int) := by simp; omega
    simp only [punctualsame_Still_api_Window.r0, if_pos h']
    by_cases h2 : i < l.length
    · have h2' : (i : Int) < (l.length : Int) := by omega
      have h3 : ¬ (i : Int) ≥ (l.length : Int) := by omega
      rw [List.getElem?_append_left h2, List.getElem?_eq_getElem h2]
      simp only [if_pos h2', SWindow.eqb_self, if_true, if_neg h3, onward]
    · have h2' : ¬ (i : Int) < (l.length : Int) := by omega
      have h3 : (i : Int) ≥ (l.length : Int) := by omega
      rw [List.getElem?_append_right (by omega)]
      have : i - l.length = 0 ∨ i - l.length = 1 ∨ i - l.length = 2 := by omega
      rcases this with e | e | e <;> simp [e, h2', h3, onward, SWindow.eqb_self]) (by
    have h' : ¬ ((l.length + 3 : Nat) : Int) < ((l ++ [a, a, a] : List SWindow).length : Int) := by simp
    simp only [punctualsame_Still_api_Window.r0, if_neg h']) (K := K) (by omega)
  rw [firstOf_none_of (fun _ _ _ => rfl)] at hr
  have hlen : IntKind.i64.wrap ((l.length : Int) + 3) = ((l ++ [a, a, a] : List SWindow).length : Int) := by rw [hw]; simp
  simp only [punctualsame_Still_api_Window.f, if_pos hlen, hr, leave]
theorem few_true {n : Nat} (h : few.f (n : Int) = true) : n ≤ 5000 := by
  simp only [few.f, decide_eq_true_eq] at h; omega
theorem few_false {n : Nat} (h : ¬ few.f (n : Int) = true) : 5000 < n := by
  simp only [few.f, decide_eq_true_eq] at h; omega
theorem exists_bound {α : Type} (f : α → Nat) : ∀ l : List α, ∃ B, ∀ x ∈ l, f x ≤ B
  | [] => ⟨0, by simp⟩
  | x :: l => by
    obtain ⟨B, h⟩ := exists_bound f l
    refine ⟨max (f x) B, fun y hy => ?_⟩
    rcases List.mem_cons.1 hy with rfl | hy
    · exact Nat.le_max_left _ _
    · exact Nat.le_trans (h y hy) (Nat.le_max_right _ _)
/-- a letter stands there -/
def letterAt (x : ByteArray) (i : Nat) : Bool := match x[i]? with | some b => decide (97 ≤ b.toNat) && decide (b.toNat ≤ 122) | none => false
def allL (x : ByteArray) (n : Nat) : Bool := (List.range n).all (letterAt x)
theorem allL_succ (x : ByteArray) (n : Nat) : allL x (n + 1) = (allL x n && letterAt x n) := by simp [allL, List.range_succ]
theorem allL_iff {x : ByteArray} {n : Nat} : allL x n = true ↔ ∀ i, i < n → letterAt x i = true := by simp [allL]
def Good (x : ByteArray) : Prop := 1 ≤ x.size ∧ x.size ≤ 10 ∧ allL x x.size = true
instance (x : ByteArray) : Decidable (Good x) := by unfold Good; infer_instance
theorem get!_of {x : ByteArray} {i : Nat} {b : UInt8} (h : x[i]? = some b) : x.get! i = b := by
  have hi : i < x.size := by
    rcases Nat.lt_or_ge i x.size with h' | h'
    · exact h'
    · rw [getElem?_neg x i (by omega)] at h; cases h
  rw [getElem?_pos x i hi] at h
  have := Option.some.inj h
  rw [← this]
  cases x with
  | mk bs => exact getElem!_pos bs i hi
theorem byte_some {x : ByteArray} {i : Nat} (h : i < x.size) : ∃ b, x[i]? = some b := ⟨x[i], getElem?_pos x i h⟩
theorem decode_letter {x : ByteArray} {i : Nat} (hi : i < x.size) (h : letterAt x i = true) : ∃ n : Nat, Utf8.decode x i = (n, 1) ∧ 97 ≤ n ∧ n ≤ 122 := by
  obtain ⟨b, hb⟩ := byte_some hi
  simp only [letterAt, hb, Bool.and_eq_true, decide_eq_true_eq] at h
  refine ⟨b.toNat, ?_, h⟩
  have := get!_of hb
  simp only [Utf8.decode, Nat.add_zero, this]
  rw [if_pos (by omega)]
theorem decode_other {x : ByteArray} {i : Nat} (hi : i < x.size) (h : letterAt x i = false) : (Utf8.decode x i).1 < 97 ∨ 122 < (Utf8.decode x i).1 := by
  obtain ⟨b, hb⟩ := byte_some hi
  simp only [letterAt, hb, Bool.and_eq_false_iff, decide_eq_false_iff_not] at h
  have := get!_of hb
  simp only [Utf8.decode, Nat.add_zero, this]
  have he : Utf8.runeError = 65533 := rfl
  repeat' split
  all_goals simp only [he, Bool.and_eq_true, decide_eq_true_eq, ge_iff_le] at *
  all_goals omega
theorem isName_eq (x : ByteArray) (K : Nat) (hK : 12 ≤ K) : tasks_isName.f K x = some (decide (Good x)) := by
  unfold tasks_isName.f
  by_cases h1 : (x.size : Int) < 1
  · rw [if_pos h1]; congr 1; symm; rw [decide_eq_false_iff_not]; intro h; have := h.1; omega
  rw [if_neg h1]
  by_cases h2 : (x.size : Int) > 10
  · rw [if_pos h2]; congr 1; symm; rw [decide_eq_false_iff_not]; intro h; have := h.2.1; omega
  rw [if_neg h2]
  have hr := iter_first0 (f := tasks_isName.r0 x) (fun i => if letterAt x i = true then none else some false) x.size (t := ()) (fun i hi => by
    simp only [tasks_isName.r0, if_pos hi]
    by_cases h : letterAt x i = true
    · obtain ⟨n, hd, ha, hb⟩ := decode_letter hi h
      simp only [hd, h, if_true]
      rw [if_neg (by omega), if_neg (by omega)]; rfl
    · simp only [h]
      rcases decode_other hi (by simpa using h) with h | h
      · rw [if_pos (by omega)]; simp [onward]
      · rw [if_neg (by omega), if_pos (by omega)]; simp [onward]) (by simp [tasks_isName.r0]) (K := K) (by omega)
  rw [hr]
  cases hf : firstOf (fun i => if letterAt x i = true then none else some false) x.size 0 with
  | none =>
    show some true = some _
    congr 1; symm
    rw [decide_eq_true_eq]
    refine ⟨by omega, by omega, allL_iff.2 fun i hi => ?_⟩
    have := firstOf_none hf i (Nat.zero_le _) hi
    split at this
    · assumption
    · cases this
  | some r =>
    obtain ⟨j, _, hj, hg, _⟩ := firstOf_some hf
    split at hg
    · cases hg
    · rename_i hn
      cases hg
      show some false = some _
      congr 1; symm
      rw [decide_eq_false_iff_not]
      intro h
      exact hn (allL_iff.1 h.2.2 j hj)
/-- the first of those ahead that bears the name -/
def dupAt (l : List STask) (i : Nat) (t : STask) : Prop := ∃ j e, j < i ∧ l[j]? = some e ∧ e.Name.toList = t.Name.toList
noncomputable instance (l : List STask) (i : Nat) (t : STask) : Decidable (dupAt l i t) := Classical.propDecidable _
theorem takedrop {α : Type} (l : List α) (i : Nat) : (l.take i).drop 0 = l.take i := by simp
theorem contains_eq (l : List STask) (i : Nat) (hi : i < l.length) (t : STask) (K : Nat) (hK : i < K) : slices_ContainsFunc_api_Task_api_Task.f K ((l.take i).drop 0) t = some (decide (dupAt l i t)) := by
  rw [takedrop]
  have hlen : (l.take i).length = i := by simp; omega
  let g : Nat → Option Int := fun j => match l[j]? with | some e => if e.Name.toList = t.Name.toList then some (j : Int) else none | none => none
  have hr := iter_first0 (f := slices_IndexFunc_api_Task_api_Task.r0 (l.take i) t) g i (t := ()) (fun j hj => by
    have hj' : (j : Int) < ((l.take i).length : Int) := by omega
    have hjl : j < l.length := by omega
    simp only [slices_IndexFunc_api_Task_api_Task.r0, if_pos hj', List.getElem?_take, if_pos hj, List.getElem?_eq_getElem hjl, g, tasks_Check_1.f, beq_iff_eq]
    split <;> rfl) (by
    have : ¬ (i : Int) < ((l.take i).length : Int) := by omega
    simp only [slices_IndexFunc_api_Task_api_Task.r0, if_neg this]) (K := K) hK
  unfold slices_ContainsFunc_api_Task_api_Task.f slices_IndexFunc_api_Task_api_Task.f
  rw [hr]
  cases hf : firstOf g i 0 with
  | none =>
    show some (decide ((-1 : Int) ≥ 0)) = _
    congr 1
    have : ¬ dupAt l i t := by
      rintro ⟨j, e, hj, he, hn⟩
      have := firstOf_none hf j (Nat.zero_le _) hj
      simp only [g, he, if_pos hn] at this
      cases this
    simp [this]
  | some r =>
    show some (decide (r ≥ 0)) = _
    obtain ⟨j, _, hj, hg, _⟩ := firstOf_some hf
    have hjl : j < l.length := by omega
    simp only [g, List.getElem?_eq_getElem hjl] at hg
    split at hg
    · rename_i hn
      cases hg
      have : dupAt l i t := ⟨j, l[j], hj, List.getElem?_eq_getElem hjl, hn⟩
      simp [this]
    · cases hg
theorem iter_succ {σ ρ : Type} (f : σ → Option (σ ⊕ ρ)) (K : Nat) (s : σ) : iter f (K + 1) s = match f s with | none => none | some (.inl s') => iter f K s' | some (.inr r) => some r := rfl
/-- a number lies out of its range -/
def rangeAt (i : Nat) (t : STask) (j : Nat) : Option SFault :=
  match ([t.C, t.T, t.D, t.J, t.O, t.P] : List Int)[j]? with
  | none => none
  | some v => match ([1, 1, 1, 0, 0, 0] : List Int)[j]? with
    | none => none
    | some a => if v < a then some ⟨3, (i : Int)⟩ else match ([10000, 10000, 10000, 10000, 10000, 1000] : List Int)[j]? with
      | none => none
      | some b => if v > b then some ⟨3, (i : Int)⟩ else none
theorem range_eq (i : Nat) (t : STask) (K : Nat) (hK : 7 ≤ K) : iter (tasks_Check.r2 i t) K 0 = some (leave () (firstOf (rangeAt i t) 6 0)) := by
  refine iter_first0 (f := tasks_Check.r2 i t) (rangeAt i t) 6 (t := ()) (fun j hj => ?_) (by simp [tasks_Check.r2, tasks_numbers.f]) (K := K) (by omega)
  have : j = 0 ∨ j = 1 ∨ j = 2 ∨ j = 3 ∨ j = 4 ∨ j = 5 := by omega
  rcases this with rfl | rfl | rfl | rfl | rfl | rfl <;> simp [tasks_Check.r2, tasks_numbers.f, tasks_bounds.f, rangeAt] <;> (repeat' split) <;> (try simp only [onward]) <;> first | rfl | contradiction | simp_all
/-- what is wrong with the i-th task -/
noncomputable def wrongAt (l : List STask) (i : Nat) : Option SFault :=
  match l[i]? with
  | none => none
  | some t => if Good t.Name then (if dupAt l i t then some ⟨5, (i : Int)⟩ else match firstOf (rangeAt i t) 6 0 with | some r => some r | none => if t.C > t.D then some ⟨12, (i : Int)⟩ else none) else some ⟨4, (i : Int)⟩
/-- what is wrong with a set -/
noncomputable def setFault (l : List STask) : SFault := if 1 ≤ l.length ∧ l.length ≤ 8 then (firstOf (wrongAt l) l.length 0).getD ⟨0, 0⟩ else ⟨2, 0⟩
theorem Check_eq (l : List STask) (K : Nat) (hK : 20 ≤ K) : tasks_Check.f K l = some (setFault l) := by
  unfold tasks_Check.f tasks_Check.p0 setFault
  by_cases h1 : (l.length : Int) < 1
  · rw [if_pos h1, if_neg (by omega)]
  rw [if_neg h1]
  by_cases h2 : (l.length : Int) > 8
  · rw [if_pos h2, if_neg (by omega)]
  rw [if_neg h2, if_pos (by omega)]
  have hr := iter_first0 (f := tasks_Check.r1 K l) (wrongAt l) l.length (t := ()) (fun i hi => by
    have hi' : (i : Int) < (l.length : Int) := by omega
    have hle : i ≤ l.length := by omega
    simp only [tasks_Check.r1, if_pos hi', List.getElem?_eq_getElem hi, isName_eq _ K (by omega), contains_eq l i hi _ K (by omega), range_eq i _ K (by omega), wrongAt, if_pos hle, decide_eq_true_eq]
    by_cases hg : Good l[i].Name
    · simp only [if_pos hg]
      by_cases hd : dupAt l i l[i]
      · simp only [if_pos hd, onward]
      · simp only [if_neg hd]
        cases firstOf (rangeAt i l[i]) 6 0 with
        | some r => rfl
        | none =>
          simp only [leave]
          split <;> rfl
    · simp only [if_neg hg, onward]) (by simp [tasks_Check.r1]) (K := K) (by omega)
  simp only [hr]
  cases firstOf (wrongAt l) l.length 0 <;> rfl
theorem setFault_ok {l : List STask} (h : (setFault l).Code = 0) : 1 ≤ l.length ∧ l.length ≤ 8 ∧ ∀ i t, l[i]? = some t → Good t.Name ∧ ¬ dupAt l i t ∧ (1 ≤ t.C ∧ t.C ≤ 10000) ∧ (1 ≤ t.T ∧ t.T ≤ 10000) ∧ (1 ≤ t.D ∧ t.D ≤ 10000) ∧ (0 ≤ t.J ∧ t.J ≤ 10000) ∧ (0 ≤ t.O ∧ t.O ≤ 10000) ∧ (0 ≤ t.P ∧ t.P ≤ 1000) ∧ t.C ≤ t.D := by
  unfold setFault at h
  split at h
  · rename_i hl
    refine ⟨hl.1, hl.2, fun i t ht => ?_⟩
    have hi := lt_of_get ht
    have hn : firstOf (wrongAt l) l.length 0 = none := by
      cases hf : firstOf (wrongAt l) l.length 0 with
      | none => rfl
      | some r =>
        rw [hf] at h
        obtain ⟨j, _, hj, hg, _⟩ := firstOf_some hf
        simp only [Option.getD_some] at h
        exfalso
        unfold wrongAt at hg
        rw [List.getElem?_eq_getElem hj] at hg
        simp only at hg
        split at hg
        · split at hg
          · cases hg; cases h
          · split at hg
            · rename_i r' hr'
              cases hg
              obtain ⟨q, _, hq, hg2, _⟩ := firstOf_some hr'
              unfold rangeAt at hg2
              repeat' split at hg2
              all_goals first | cases hg2; done | (cases hg2; cases h)
            · split at hg
              · cases hg; cases h
              · cases hg
        · cases hg; cases h
    have h0 := firstOf_none hn i (Nat.zero_le _) hi
    unfold wrongAt at h0
    rw [ht] at h0
    simp only at h0
    split at h0
    · rename_i hg
      split at h0
      · cases h0
      · rename_i hd
        split at h0
        · cases h0
        · rename_i hr
          split at h0
          · cases h0
          · rename_i hcd
            have hrr := firstOf_none hr
            have e0 := hrr 0 (by omega) (by omega)
            have e1 := hrr 1 (by omega) (by omega)
            have e2 := hrr 2 (by omega) (by omega)
            have e3 := hrr 3 (by omega) (by omega)
            have e4 := hrr 4 (by omega) (by omega)
            have e5 := hrr 5 (by omega) (by omega)
            simp only [rangeAt, List.getElem?_cons_zero, List.getElem?_cons_succ] at e0 e1 e2 e3 e4 e5
            refine ⟨hg, hd, ?_, ?_, ?_, ?_, ?_, ?_, by omega⟩
            · clear e1 e2 e3 e4 e5; split at e0; cases e0; split at e0; cases e0; omega
            · clear e0 e2 e3 e4 e5; split at e1; cases e1; split at e1; cases e1; omega
            · clear e1 e0 e3 e4 e5; split at e2; cases e2; split at e2; cases e2; omega
            · clear e1 e2 e0 e4 e5; split at e3; cases e3; split at e3; cases e3; omega
            · clear e1 e2 e3 e0 e5; split at e4; cases e4; split at e4; cases e4; omega
            · clear e1 e2 e3 e4 e0; split at e5; cases e5; split at e5; cases e5; omega
    · cases h0
  · cases h
theorem setFault_ok' {l : List STask} (h : (setFault l).Code = 0) : setFault l = ⟨0, 0⟩ := by
  unfold setFault at h ⊢
  split at h
  · rename_i hl
    rw [if_pos hl]
    cases hf : firstOf (wrongAt l) l.length 0 with
    | none => rfl
    | some r =>
      rw [hf] at h
      obtain ⟨j, _, hj, hg, _⟩ := firstOf_some hf
      simp only [Option.getD_some] at h
      exfalso
      unfold wrongAt at hg
      rw [List.getElem?_eq_getElem hj] at hg
      simp only at hg
      split at hg
      · split at hg
        · cases hg; cases h
        · split at hg
          · rename_i r' hr'
            cases hg
            obtain ⟨q, _, hq, hg2, _⟩ := firstOf_some hr'
            unfold rangeAt at hg2
            repeat' split at hg2
            all_goals first | cases hg2; done | (cases hg2; cases h)
          · split at hg
            · cases hg; cases h
            · cases hg
      · cases hg; cases h
  · cases h

/-- what a task of a set is -/
structure Okt (t : STask) : Prop where
  C : 1 ≤ t.C ∧ t.C ≤ 10000
  T : 1 ≤ t.T ∧ t.T ≤ 10000
  D : 1 ≤ t.D ∧ t.D ≤ 10000
  J : 0 ≤ t.J ∧ t.J ≤ 10000
  O : 0 ≤ t.O ∧ t.O ≤ 10000
  P : 0 ≤ t.P ∧ t.P ≤ 1000
  CD : t.C ≤ t.D
theorem okt_of {l : List STask} (h : (setFault l).Code = 0) : ∀ t ∈ l, Okt t := fun t ht => by
  obtain ⟨i, hi⟩ := List.mem_iff_getElem?.1 ht
  obtain ⟨_, _, h⟩ := setFault_ok h
  obtain ⟨_, _, h1, h2, h3, h4, h5, h6, h7⟩ := h i t hi
  exact ⟨h1, h2, h3, h4, h5, h6, h7⟩
/-- a over b, rounded up -/
def ceilD (a b : Int) : Int := (a + b - 1) / b
theorem ceilD_mono {a a' b : Int} (hb : 1 ≤ b) (h : a ≤ a') : ceilD a b ≤ ceilD a' b := Int.ediv_le_ediv (by omega) (by omega)
theorem ceilD_nonneg {a b : Int} (hb : 1 ≤ b) (h : 0 ≤ a) : 0 ≤ ceilD a b := Int.ediv_nonneg (by omega) (by omega)
theorem ceilD_le {a b : Int} (hb : 1 ≤ b) (h : 0 ≤ a) : ceilD a b ≤ a := by
  unfold ceilD
  rw [← Int.lt_add_one_iff]
  apply Int.ediv_lt_of_lt_mul (by omega)
  have : a * 1 ≤ a * b := Int.mul_le_mul_of_nonneg_left hb h
  rw [Int.add_mul]
  omega
theorem ceil_eq {a b : Int} (ha : 0 ≤ a ∧ a ≤ 100000) (hb : 1 ≤ b ∧ b ≤ 100000) : fixed_ceil.f a b = some (ceilD a b) := by
  unfold fixed_ceil.f
  rw [if_neg (by omega), wrap64_small (n := a + b) (by omega) (by omega), wrap64_small (n := a + b - 1) (by omega) (by omega), Int.tdiv_eq_ediv_of_nonneg (by omega)]
  have h1 := ceilD_nonneg hb.1 ha.1
  have h2 := ceilD_le hb.1 ha.1
  show some (IntKind.i64.wrap (ceilD a b)) = _
  rw [wrap64_small (by omega) (by omega)]
/-- what others want in so many ticks -/
def wants (os : List STask) (w : Int) : Int := (os.map fun o => ceilD (w + o.J) o.T * o.C).sum
def dem (t : STask) (b : Int) (os : List STask) (w : Int) : Int := t.C + b + wants os w
theorem wants_nil (w : Int) : wants [] w = 0 := rfl
theorem wants_cons (o : STask) (os : List STask) (w : Int) : wants (o :: os) w = ceilD (w + o.J) o.T * o.C + wants os w := by simp [wants]
theorem wants_append (os ps : List STask) (w : Int) : wants (os ++ ps) w = wants os w + wants ps w := by simp [wants]
theorem want_bounds {o : STask} (ho : Okt o) {w : Int} (hw : 0 ≤ w ∧ w ≤ 10000) : 0 ≤ ceilD (w + o.J) o.T * o.C ∧ ceilD (w + o.J) o.T * o.C ≤ 200000000 := by
  have := ho.C; have := ho.T; have := ho.J
  have h1 := ceilD_nonneg (a := w + o.J) (b := o.T) (by omega) (by omega)
  have h2 := ceilD_le (a := w + o.J) (b := o.T) (by omega) (by omega)
  refine ⟨Int.mul_nonneg h1 (by omega), ?_⟩
  calc ceilD (w + o.J) o.T * o.C ≤ 20000 * o.C := Int.mul_le_mul_of_nonneg_right (by omega) (by omega)
    _ ≤ 20000 * 10000 := Int.mul_le_mul_of_nonneg_left (by omega) (by omega)
    _ = 200000000 := by decide
theorem wants_bounds : ∀ {os : List STask}, (∀ o ∈ os, Okt o) → ∀ {w : Int}, (0 ≤ w ∧ w ≤ 10000) → 0 ≤ wants os w ∧ wants os w ≤ 200000000 * os.length
  | [], _, w, _ => by simp [wants_nil]
  | o :: os, h, w, hw => by
    have h1 := want_bounds (h o (by simp)) hw
    have h2 := wants_bounds (fun x hx => h x (List.mem_cons_of_mem _ hx)) hw
    rw [wants_cons, List.length_cons]
    omega
theorem wants_mono : ∀ {os : List STask}, (∀ o ∈ os, Okt o) → ∀ {w w' : Int}, w ≤ w' → wants os w ≤ wants os w'
  | [], _, w, w', _ => by simp [wants_nil]
  | o :: os, h, w, w', hw => by
    have ho := h o (by simp)
    have h2 := wants_mono (fun x hx => h x (List.mem_cons_of_mem _ hx)) hw
    have h1 : ceilD (w + o.J) o.T * o.C ≤ ceilD (w' + o.J) o.T * o.C := Int.mul_le_mul_of_nonneg_right (ceilD_mono ho.T.1 (by omega)) (by have := ho.C; omega)
    rw [wants_cons, wants_cons]
    omega
/-- the least n, 1 at least, in which all is done that is wanted; 0: there is none up to most -/
def settled (f : Int → Int) (most : Int) : Int := match firstOf (fun n : Nat => if f n ≤ n then some (n : Int) else none) (most.toNat + 1) 1 with
  | some n => n
  | none => 0
theorem settled_some {f : Int → Int} {most : Int} {j : Nat} (h : firstOf (fun n : Nat => if f n ≤ n then some (n : Int) else none) (most.toNat + 1) 1 = some (j : Int)) : settled f most = j := by unfold settled; rw [h]
theorem settled_none {f : Int → Int} {most : Int} (h : firstOf (fun n : Nat => if f n ≤ n then some (n : Int) else none) (most.toNat + 1) 1 = none) : settled f most = 0 := by unfold settled; rw [h]
theorem settled_pos {f : Int → Int} {most : Int} (h : settled f most ≠ 0) : 1 ≤ settled f most ∧ settled f most ≤ most ∧ f (settled f most) ≤ settled f most ∧ ∀ n : Int, 1 ≤ n → n < settled f most → n < f n := by
  cases hf : firstOf (fun n : Nat => if f n ≤ n then some (n : Int) else none) (most.toNat + 1) 1 with
  | none => exact absurd (settled_none hf) h
  | some r =>
    obtain ⟨j, h1, h2, h3, h4⟩ := firstOf_some hf
    split at h3
    · cases h3
      rw [settled_some hf]
      refine ⟨by omega, by omega, by assumption, fun n hn1 hn2 => ?_⟩
      have := h4 n.toNat (by omega) (by omega)
      have e : ((n.toNat : Nat) : Int) = n := Int.toNat_of_nonneg (by omega)
      simp only [e] at this
      split at this
      · cases this
      · omega
    · cases h3
theorem settled_zero {f : Int → Int} {most : Int} (h : settled f most = 0) : ∀ n : Int, 1 ≤ n → n ≤ most → n < f n := by
  cases hf : firstOf (fun n : Nat => if f n ≤ n then some (n : Int) else none) (most.toNat + 1) 1 with
  | some r =>
    obtain ⟨j, h1, h2, h3, h4⟩ := firstOf_some hf
    split at h3
    · cases h3; rw [settled_some hf] at h; omega
    · cases h3
  | none =>
    intro n h1 h2
    have := firstOf_none hf n.toNat (by omega) (by omega)
    have e : ((n.toNat : Nat) : Int) = n := Int.toNat_of_nonneg (by omega)
    simp only [e] at this
    split at this
    · cases this
    · omega
theorem settled_eq {f : Int → Int} {most w : Int} (h1 : 1 ≤ w) (h2 : w ≤ most) (h3 : f w ≤ w) (h4 : ∀ n : Int, 1 ≤ n → n < w → n < f n) : settled f most = w := by
  by_cases h : settled f most = 0
  · have := settled_zero h w h1 h2; omega
  · obtain ⟨g1, g2, g3, g4⟩ := settled_pos h
    rcases Int.lt_trichotomy (settled f most) w with hl | hl | hl
    · have := h4 _ g1 hl; omega
    · exact hl
    · have := g4 _ h1 hl; omega
theorem settled_eq_zero {f : Int → Int} {most : Int} (h : ∀ n : Int, 1 ≤ n → n ≤ most → n < f n) : settled f most = 0 := by
  apply Decidable.byContradiction
  intro hne
  obtain ⟨g1, g2, g3, g4⟩ := settled_pos hne
  have := h _ g1 g2
  omega
theorem demand_eq (t : STask) (b : Int) (os : List STask) (w : Int) (ht : Okt t) (hb : 0 ≤ b ∧ b ≤ 10000) (ho : ∀ o ∈ os, Okt o) (hl : os.length ≤ 8) (hw : 0 ≤ w ∧ w ≤ 10000) (K : Nat) (hK : 9 ≤ K) : fixed_response_1.f K w t b os = some (dem t b os w) := by
  unfold fixed_response_1.f
  have hC := ht.C
  have hr := iter_states (ρ := Int) (f := fixed_response_1.r0 w os) (fun i => (t.C + b + wants (os.take i) w, i)) (fun _ => none) os.length (t := dem t b os w) (fun i hi _ => by
    have hi' : (i : Int) < (os.length : Int) := by omega
    have hoi := ho os[i] (List.getElem_mem hi)
    have hT := hoi.T; have hJ := hoi.J
    have hwb := want_bounds hoi hw
    have hs := wants_bounds (os := os.take i) (fun o h => ho o (List.mem_of_mem_take h)) hw
    have hlen : (os.take i).length ≤ 8 := by simp; omega
    simp only [fixed_response_1.r0, if_pos hi', List.getElem?_eq_getElem hi]
    rw [wrap64_small (n := w + os[i].J) (by omega) (by omega), ceil_eq (by omega) (by omega)]
    simp only [onwardS]
    rw [wrap64_small (n := ceilD (w + os[i].J) os[i].T * os[i].C) (by omega) (by omega), wrap64_small (by omega) (by omega)]
    congr 3
    rw [List.take_succ_eq_append_getElem hi, wants_append, wants_cons, wants_nil]
    omega) (fun _ => by simp [fixed_response_1.r0, dem]) (K := K) (by omega)
  have h0 : t.C + b + wants (os.take 0) w = t.C + b := by simp [wants_nil]
  rw [h0] at hr
  rw [wrap64_small (by omega) (by omega), hr, firstOf_none_of (fun _ _ _ => rfl)]
  rfl
theorem dem_mono {t : STask} {b : Int} {os : List STask} (ho : ∀ o ∈ os, Okt o) {w w' : Int} (h : w ≤ w') : dem t b os w ≤ dem t b os w' := by
  have := wants_mono ho h
  unfold dem; omega
theorem settle_eq (t : STask) (b : Int) (os : List STask) (ht : Okt t) (hb : 0 ≤ b ∧ b ≤ 10000) (ho : ∀ o ∈ os, Okt o) (hl : os.length ≤ 8) (most : Int) (hm : most ≤ 10000) (K : Nat) (hK : 20100 ≤ K) : fixed_Settle.f K (t.C + b) most t b os = some (settled (dem t b os) most) := by
  unfold fixed_Settle.f
  have hC := ht.C
  obtain ⟨r, hr, hR⟩ := iter_total (f := fixed_Settle.r0 K most t b os) (fun w => t.C + b ≤ w ∧ w ≤ 1600000000 + 20000 ∧ ∀ n : Int, 1 ≤ n → n < w → n < dem t b os n) (fun w => (10001 - w).toNat)
    (fun r => r = if settled (dem t b os) most = 0 then .inl () else .inr (settled (dem t b os) most)) (fun w hI => by
      obtain ⟨h1, h2, h3⟩ := hI
      by_cases hw : w ≤ most
      · have hd := demand_eq t b os w ht hb ho hl ⟨by omega, by omega⟩ K (by omega)
        simp only [fixed_Settle.r0, if_pos hw, hd]
        by_cases hle : dem t b os w ≤ w
        · right
          have hs := settled_eq (f := dem t b os) (most := most) (by omega) hw hle h3
          refine ⟨_, by rw [if_pos hle], ?_⟩
          rw [hs, if_neg (by omega)]
        · left
          have hwb := wants_bounds ho (w := w) ⟨by omega, by omega⟩
          refine ⟨_, by rw [if_neg hle], ⟨by unfold dem; omega, by unfold dem; omega, fun n hn1 hn2 => ?_⟩, by omega⟩
          by_cases hnw : n < w
          · exact h3 n hn1 hnw
          · have := dem_mono (t := t) (b := b) ho (w := w) (w' := n) (by omega)
            omega
      · right
        refine ⟨.inl (), by simp only [fixed_Settle.r0, if_neg hw], ?_⟩
        rw [settled_eq_zero (fun n h1 h2 => h3 n h1 (by omega)), if_pos rfl]) K (t.C + b) ⟨Int.le_refl _, by omega, fun n h1 h2 => by
          by_cases hn : n ≤ 10000
          · have := wants_bounds ho (w := n) ⟨by omega, hn⟩
            unfold dem; omega
          · have := wants_mono ho (w := 10000) (w' := n) (by omega)
            have := wants_bounds ho (w := 10000) ⟨by omega, by omega⟩
            unfold dem; omega⟩ (by omega)
  rw [hr, hR]
  by_cases h : settled (dem t b os) most = 0
  · rw [if_pos h, h]
  · rw [if_neg h]
/-- how long a task takes; 0: too long -/
def respond (t : STask) (os : List STask) (b : Int) : Int := if settled (dem t b os) (t.D - t.J) = 0 then 0 else settled (dem t b os) (t.D - t.J) + t.J
theorem response_eq (t : STask) (b : Int) (os : List STask) (ht : Okt t) (hb : 0 ≤ b ∧ b ≤ 10000) (ho : ∀ o ∈ os, Okt o) (hl : os.length ≤ 8) (K : Nat) (hK : 20100 ≤ K) : fixed_response.f K t os b = some (respond t os b) := by
  have hC := ht.C; have hD := ht.D; have hJ := ht.J
  unfold fixed_response.f
  rw [wrap64_small (n := t.C + b) (by omega) (by omega), wrap64_small (n := t.D - t.J) (by omega) (by omega), settle_eq t b os ht hb ho hl _ (by omega) K hK]
  simp only
  unfold respond
  by_cases h : settled (dem t b os) (t.D - t.J) = 0
  · rw [if_pos h, if_pos h]
  · rw [if_neg h, if_neg h]
    have := settled_pos h
    rw [wrap64_small (by omega) (by omega)]
/-- what is wrong with a set whose tasks must be done ere they come again -/
noncomputable def fixedFault (l : List STask) : SFault :=
  if (setFault l).Code = 0 then (firstOf (fun i => match l[i]? with | some t => if t.D > t.T then some ⟨12, (i : Int)⟩ else none | none => none) l.length 0).getD ⟨0, 0⟩ else setFault l
theorem fixedFault_ok {l : List STask} (h : (fixedFault l).Code = 0) : (setFault l).Code = 0 ∧ fixedFault l = ⟨0, 0⟩ ∧ ∀ t ∈ l, t.D ≤ t.T := by
  unfold fixedFault at h ⊢
  split at h
  · rename_i hs
    cases hf : firstOf (fun i => match l[i]? with | some t => if t.D > t.T then some (⟨12, (i : Int)⟩ : SFault) else none | none => none) l.length 0 with
    | none =>
      refine ⟨hs, by rw [if_pos hs]; rfl, fun t ht => ?_⟩
      obtain ⟨i, hi⟩ := List.mem_iff_getElem?.1 ht
      have := firstOf_none hf i (Nat.zero_le _) (lt_of_get hi)
      simp only [hi] at this
      split at this
      · cases this
      · omega
    | some r =>
      rw [hf] at h
      obtain ⟨j, _, hj, hg, _⟩ := firstOf_some hf
      simp only [Option.getD_some] at h
      exfalso
      split at hg
      · split at hg
        · cases hg; cases h
        · cases hg
      · cases hg
  · contradiction
theorem check_eq (l : List STask) (K : Nat) (hK : 20 ≤ K) : fixed_check.f K l = some (fixedFault l) := by
  unfold fixed_check.f fixedFault
  rw [Check_eq l K hK]
  simp only
  by_cases h : (setFault l).Code = 0
  · rw [if_pos h, if_pos h]
    have hl := (setFault_ok h).2.1
    have hr := iter_first0 (f := fixed_check.r0 l) (fun i => match l[i]? with | some t => if t.D > t.T then some ⟨12, (i : Int)⟩ else none | none => none) l.length (t := ()) (fun i hi => by
      have hi' : (i : Int) < (l.length : Int) := by omega
      simp only [fixed_check.r0, if_pos hi', List.getElem?_eq_getElem hi]
      split <;> rfl) (by simp [fixed_check.r0]) (K := K) (by omega)
    rw [hr]
    cases firstOf (fun i => match l[i]? with | some t => if t.D > t.T then some (⟨12, (i : Int)⟩ : SFault) else none | none => none) l.length 0 <;> rfl
  · rw [if_neg h, if_neg h]
/-- those that go ahead of task i, up to place n -/
def aboveTill (l : List STask) (i : Nat) (n : Nat) : List STask := (List.range n).filterMap fun k => match l[k]?, l[i]? with
  | some a, some b => if k ≠ i ∧ a.P ≥ b.P then some a else none
  | _, _ => none
abbrev aboveOf (l : List STask) (i : Nat) : List STask := aboveTill l i l.length
theorem aboveTill_len (l : List STask) (i n : Nat) : (aboveTill l i n).length ≤ n := by
  unfold aboveTill
  exact Nat.le_trans (List.length_filterMap_le _ _) (by simp)
theorem aboveTill_mem {l : List STask} {i n : Nat} {a : STask} (h : a ∈ aboveTill l i n) : a ∈ l := by
  unfold aboveTill at h
  obtain ⟨k, _, hk⟩ := List.mem_filterMap.1 h
  split at hk
  · rename_i x y hx hy
    split at hk
    · cases hk; exact List.mem_of_getElem? hx
    · cases hk
  · cases hk
theorem aboveTill_succ {l : List STask} {i n : Nat} {a b : STask} (ha : l[n]? = some a) (hb : l[i]? = some b) : aboveTill l i (n + 1) = aboveTill l i n ++ (if n ≠ i ∧ a.P ≥ b.P then [a] else []) := by
  unfold aboveTill
  rw [List.range_succ, List.filterMap_append]
  congr 1
  simp only [List.filterMap_cons, List.filterMap_nil, ha, hb]
  split <;> rename_i h <;> split at h <;> simp_all
theorem above_eq (l : List STask) (i : Nat) (hi : i < l.length) (hl : l.length ≤ 8) (K : Nat) (hK : 9 ≤ K) : fixed_above.f K l (i : Int) = some (aboveOf l i) := by
  unfold fixed_above.f
  have hr := iter_states (ρ := List STask) (f := fixed_above.r0 l (i : Int)) (fun k => (aboveTill l i k, k)) (fun _ => none) l.length (t := aboveOf l i) (fun k hk _ => by
    have hk' : (k : Int) < (l.length : Int) := by omega
    have hlen := aboveTill_len l i k
    rw [aboveTill_succ (List.getElem?_eq_getElem hk) (List.getElem?_eq_getElem hi)]
    simp only [fixed_above.r0, if_pos hk', List.getElem?_eq_getElem hk, Int.toNat_natCast, List.getElem?_eq_getElem hi, onwardS]
    by_cases h1 : (k : Int) = (i : Int)
    · rw [if_pos h1, if_neg (by omega), List.append_nil]
    · rw [if_neg h1, if_pos (by omega)]
      by_cases h2 : l[k].P ≥ l[i].P
      · rw [if_pos h2, if_pos (by omega), if_pos ⟨by omega, h2⟩]
      · rw [if_neg h2, if_neg (fun h => h2 h.2), List.append_nil]) (fun _ => by simp [fixed_above.r0]) (K := K) (by omega)
  have h0 : aboveTill l i 0 = [] := rfl
  rw [h0, firstOf_none_of (fun _ _ _ => rfl)] at hr
  rw [hr]; rfl
/-- how long task i of a set takes at worst -/
noncomputable def respOf (l : List STask) (i b : Int) : Int × SFault :=
  if (fixedFault l).Code = 0 then
    (if i < 0 ∨ i ≥ (l.length : Int) ∨ b < 0 ∨ b > 10000 then (0, ⟨3, 0⟩)
    else match l[i.toNat]? with
      | none => (0, ⟨3, 0⟩)
      | some t => if respond t (aboveOf l i.toNat) b = 0 then (0, ⟨13, i⟩) else (respond t (aboveOf l i.toNat) b, ⟨0, 0⟩))
  else (0, fixedFault l)
theorem Response_eq (l : List STask) (i b : Int) (K : Nat) (hK : 20100 ≤ K) : fixed_Response.f K l i b = some (respOf l i b) := by
  unfold fixed_Response.f respOf
  rw [check_eq l K (by omega)]
  simp only
  by_cases hc : (fixedFault l).Code = 0
  · rw [if_pos hc, if_pos hc]
    have hs := (fixedFault_ok hc).1
    have hl := (setFault_ok hs).2.1
    have hp : fixed_Response.p0 l i b = some (.inl (decide (i < 0 ∨ i ≥ (l.length : Int) ∨ b < 0 ∨ b > 10000))) := by
      unfold fixed_Response.p0
      by_cases h1 : i < 0
      · rw [if_pos h1, decide_eq_true (.inl h1)]
      rw [if_neg h1]
      by_cases h2 : i ≥ (l.length : Int)
      · rw [if_pos h2, decide_eq_true (.inr (.inl h2))]
      rw [if_neg h2]
      by_cases h3 : b < 0
      · rw [if_pos h3, decide_eq_true (.inr (.inr (.inl h3)))]
      rw [if_neg h3]
      congr 2
      rw [Bool.eq_iff_iff, decide_eq_true_eq, decide_eq_true_eq]
      omega
    simp only [hp, decide_eq_true_eq]
    by_cases hbad : i < 0 ∨ i ≥ (l.length : Int) ∨ b < 0 ∨ b > 10000
    · rw [if_pos hbad, if_pos hbad]
    · rw [if_neg hbad, if_neg hbad, if_pos (by omega)]
      have hi : i.toNat < l.length := by omega
      have hcast : ((i.toNat : Nat) : Int) = i := Int.toNat_of_nonneg (by omega)
      have ha := above_eq l i.toNat hi hl K (by omega)
      rw [hcast] at ha
      have hok := okt_of hs
      have hlen := aboveTill_len l i.toNat l.length
      simp only [List.getElem?_eq_getElem hi, ha, response_eq _ b _ (hok _ (List.getElem_mem hi)) ⟨by omega, by omega⟩ (fun o ho => hok o (aboveTill_mem ho)) (Nat.le_trans hlen hl) K hK]
      split <;> rfl
  · rw [if_neg hc, if_neg hc]
/-- the first ones of what all take -/
noncomputable def respTill (l : List STask) (bs : List Int) (n : Nat) : List Int := (List.range n).map fun (i : Nat) => match bs[i]? with | some b => (respOf l (i : Int) b).1 | none => 0
noncomputable def respAt (l : List STask) (bs : List Int) (i : Nat) : Option SFault := match bs[i]? with | some b => if (respOf l (i : Int) b).2.Code = 0 then none else some (respOf l (i : Int) b).2 | none => none
noncomputable def respsOf (l : List STask) (bs : List Int) : List Int × SFault :=
  if (fixedFault l).Code = 0 then
    (if bs.length = l.length then
      (match firstOf (respAt l bs) l.length 0 with
      | some f => ([], f)
      | none => (respTill l bs l.length, ⟨0, 0⟩))
    else ([], ⟨2, 0⟩))
  else ([], fixedFault l)
theorem respsOf_len (l : List STask) (bs : List Int) : (respsOf l bs).1.length ≤ 8 := by
  unfold respsOf
  split
  · rename_i h
    have hl := (setFault_ok (fixedFault_ok h).1).2.1
    split
    · split
      · simp
      · simp [respTill]; exact hl
    · simp
  · simp
theorem gmax_eq (x y : Int) : gmax x y = max x y := by unfold gmax; omega
theorem gmin_eq (x y : Int) : gmin x y = min x y := by unfold gmin; omega

theorem getD_of {l : List Int} {i : Nat} {x : Int} (h : l[i]? = some x) : l.getD i 0 = x := by simp [List.getD, h]
theorem get_of_lt {l : List Int} {i : Nat} (h : i < l.length) : l[i]? = some (l.getD i 0) := by simp [List.getD, h]
theorem getD_set (l : List Int) (i j : Nat) (x : Int) (hi : i < l.length) : (l.set i x).getD j 0 = if i = j then x else l.getD j 0 := by
  simp only [List.getD, List.getElem?_set]
  by_cases h : i = j
  · subst h; simp [hi]
  · simp [h]
def sumN (f : Nat → Int) : Nat → Int
  | 0 => 0
  | n + 1 => sumN f n + f n
theorem sumN_congr {f g : Nat → Int} : ∀ {n : Nat}, (∀ j, j < n → f j = g j) → sumN f n = sumN g n
  | 0, _ => rfl
  | n + 1, h => by simp only [sumN]; rw [sumN_congr (fun j hj => h j (by omega)), h n (by omega)]
theorem sumN_le {f g : Nat → Int} : ∀ {n : Nat}, (∀ j, j < n → f j ≤ g j) → sumN f n ≤ sumN g n
  | 0, _ => Int.le_refl _
  | n + 1, h => by
    simp only [sumN]
    have := sumN_le (n := n) (fun j hj => h j (by omega))
    have := h n (by omega)
    omega
theorem sumN_nonneg {f : Nat → Int} : ∀ {n : Nat}, (∀ j, j < n → 0 ≤ f j) → 0 ≤ sumN f n
  | 0, _ => Int.le_refl _
  | n + 1, h => by
    simp only [sumN]
    have := sumN_nonneg (n := n) (fun j hj => h j (by omega))
    have := h n (by omega)
    omega
theorem sumN_zero {f : Nat → Int} {n : Nat} (h : ∀ j, j < n → f j = 0) : sumN f n = 0 := by
  rw [sumN_congr (g := fun _ => 0) h]
  induction n with
  | zero => rfl
  | succ n ih => simp only [sumN]; rw [ih (fun j hj => h j (by omega))]; rfl
theorem sumN_one {f g : Nat → Int} {b : Nat} {d : Int} : ∀ {n : Nat}, b < n → f b = g b + d → (∀ j, j < n → j ≠ b → f j = g j) → sumN f n = sumN g n + d
  | 0, h, _, _ => by omega
  | n + 1, h, hb, ho => by
    simp only [sumN]
    by_cases hn : n = b
    · subst hn
      rw [hb, sumN_congr (fun j hj => ho j (by omega) (by omega))]
      omega
    · rw [sumN_one (n := n) (by omega) hb (fun j hj hne => ho j (by omega) hne), ho n (by omega) hn]
      omega
theorem sumN_term {f : Nat → Int} {n k : Nat} (h : ∀ j, j < n → 0 ≤ f j) (hk : k < n) : f k ≤ sumN f n := by
  have h1 := sumN_one (f := f) (g := fun j => if j = k then 0 else f j) (b := k) (d := f k) hk (by simp) (fun j _ hne => by simp [hne])
  have h2 := sumN_nonneg (f := fun j => if j = k then 0 else f j) (n := n) (fun j hj => by show 0 ≤ (if j = k then 0 else f j); split; exact Int.le_refl _; exact h j hj)
  omega
theorem sumN_add (f g : Nat → Int) : ∀ n, sumN (fun j => f j + g j) n = sumN f n + sumN g n
  | 0 => rfl
  | n + 1 => by simp only [sumN]; rw [sumN_add f g n]; omega
theorem sumN_swap (f : Nat → Nat → Int) (m : Nat) : ∀ n, sumN (fun j => sumN (fun o => f o j) m) n = sumN (fun o => sumN (fun j => f o j) n) m
  | 0 => by
    show (0 : Int) = _
    symm
    exact sumN_zero (fun _ _ => rfl)
  | n + 1 => by
    simp only [sumN]
    rw [sumN_swap f m n, ← sumN_add]
theorem sumN_pick {f : Nat → Int} {n k : Nat} (hk : k < n) (h : ∀ j, j < n → j ≠ k → f j = 0) : sumN f n = f k := by
  have h1 := sumN_one (f := f) (g := fun _ => 0) (b := k) (d := f k) hk (by simp) (fun j hj hne => h j hj hne)
  rw [h1, sumN_zero (fun _ _ => rfl)]
  omega
/-- the greatest place up to m with a property -/
theorem exists_last {p : Nat → Prop} (m : Nat) (h0 : p 0) : ∃ t, t ≤ m ∧ p t ∧ ∀ s, t < s → s ≤ m → ¬ p s := by
  induction m with
  | zero => exact ⟨0, Nat.le_refl _, h0, fun s h1 h2 => by omega⟩
  | succ m ih =>
    by_cases h : p (m + 1)
    · exact ⟨m + 1, Nat.le_refl _, h, fun s h1 h2 => by omega⟩
    · obtain ⟨t, h1, h2, h3⟩ := ih
      refine ⟨t, by omega, h2, fun s h4 h5 => ?_⟩
      by_cases hs : s = m + 1
      · subst hs; exact h
      · exact h3 s h4 (by omega)
/-- work that is done tick by tick: what is left of n jobs; those of a level, which go ahead of all others -/
structure Level (n : Nat) (L : Nat → Nat → Int) (H : Nat → Prop) (r : Nat → Nat) (c : Nat → Int) : Prop where
  start : ∀ j, j < n → L 0 j = c j
  nonneg : ∀ t j, 0 ≤ L t j
  down : ∀ t j, L (t + 1) j ≤ L t j
  wait : ∀ t j, j < n → t < r j → L (t + 1) j = L t j
  runs : ∀ t, (∃ j, j < n ∧ H j ∧ r j ≤ t ∧ 0 < L t j) → ∃ b, b < n ∧ H b ∧ r b ≤ t ∧ 0 < L t b ∧ L (t + 1) b = L t b - 1 ∧ ∀ j, j < n → j ≠ b → L (t + 1) j = L t j
theorem Level.mono {n : Nat} {L : Nat → Nat → Int} {H : Nat → Prop} {r : Nat → Nat} {c : Nat → Int} (h : Level n L H r c) {t t' : Nat} (ht : t ≤ t') (j : Nat) : L t' j ≤ L t j := by
  induction t' with
  | zero => obtain rfl : t = 0 := by omega
            exact Int.le_refl _
  | succ t' ih =>
    by_cases he : t = t' + 1
    · subst he; exact Int.le_refl _
    · have := ih (by omega); have := h.down t' j; omega
theorem Level.still {n : Nat} {L : Nat → Nat → Int} {H : Nat → Prop} {r : Nat → Nat} {c : Nat → Int} (h : Level n L H r c) {t : Nat} {j : Nat} (hj : j < n) (ht : t ≤ r j) : L t j = c j := by
  induction t with
  | zero => exact h.start j hj
  | succ t ih => rw [h.wait t j hj (by omega)]; exact ih (by omega)
/-- if of a level never more comes in w ticks than can be done in them, then each of it is done w ticks behind its coming -/
theorem Level.done {n : Nat} {L : Nat → Nat → Int} {H : Nat → Prop} [DecidablePred H] {r : Nat → Nat} {c : Nat → Int} (h : Level n L H r c) (w : Nat) (hw : 1 ≤ w)
    (hsum : ∀ t0, sumN (fun j => if H j ∧ t0 ≤ r j ∧ r j < t0 + w then c j else 0) n ≤ w) {k : Nat} (hk : k < n) (hHk : H k) : L (r k + w) k = 0 := by
  obtain ⟨t0, ht0, hid, hlast⟩ := exists_last (p := fun t => ∀ j, j < n → H j → r j < t → L t j = 0) (r k) (fun j _ _ h => by omega)
  by_cases hall : ∀ t, t0 ≤ t → t < t0 + w → ∃ j, j < n ∧ H j ∧ r j ≤ t ∧ 0 < L t j
  · -- the core is never idle for this level
    have hA : ∀ d, d ≤ w → sumN (fun j => if H j ∧ t0 ≤ r j ∧ r j < t0 + w then L (t0 + d) j else 0) n ≤ (w : Int) - d := by
      intro d
      induction d with
      | zero =>
        intro _
        have := hsum t0
        rw [sumN_congr (g := fun j => if H j ∧ t0 ≤ r j ∧ r j < t0 + w then c j else 0) (fun j hj => by
          by_cases hc : H j ∧ t0 ≤ r j ∧ r j < t0 + w
          · rw [if_pos hc, if_pos hc]; exact h.still hj hc.2.1
          · rw [if_neg hc, if_neg hc])]
        omega
      | succ d ih =>
        intro hd
        have ih := ih (by omega)
        obtain ⟨b, hb, hHb, hrb, hLb, hstep, hoth⟩ := h.runs (t0 + d) (hall (t0 + d) (by omega) (by omega))
        have hrb0 : t0 ≤ r b := by
          apply Nat.le_of_not_lt
          intro hlt
          have h1 := hid b hb hHb hlt
          have h2 := h.mono (show t0 ≤ t0 + d by omega) b
          omega
        have := sumN_one (f := fun j => if H j ∧ t0 ≤ r j ∧ r j < t0 + w then L (t0 + (d + 1)) j else 0) (g := fun j => if H j ∧ t0 ≤ r j ∧ r j < t0 + w then L (t0 + d) j else 0) (b := b) (d := -1) hb (by
          rw [if_pos ⟨hHb, hrb0, by omega⟩, if_pos ⟨hHb, hrb0, by omega⟩]
          show L (t0 + d + 1) b = _
          rw [hstep]; omega) (fun j hj hne => by
          by_cases hc : H j ∧ t0 ≤ r j ∧ r j < t0 + w
          · rw [if_pos hc, if_pos hc]; exact hoth j hj hne
          · rw [if_neg hc, if_neg hc])
        rw [this]
        omega
    have hend := hA w (Nat.le_refl _)
    have hzero : ∀ j, j < n → H j → r j < t0 + w → L (t0 + w) j = 0 := by
      intro j hj hHj hrj
      by_cases hr0 : r j < t0
      · have h1 := hid j hj hHj hr0
        have h2 := h.mono (show t0 ≤ t0 + w by omega) j
        have h3 := h.nonneg (t0 + w) j
        omega
      · have h1 := sumN_term (f := fun j => if H j ∧ t0 ≤ r j ∧ r j < t0 + w then L (t0 + w) j else 0) (n := n) (k := j) (fun i _ => by
          by_cases hc : H i ∧ t0 ≤ r i ∧ r i < t0 + w
          · rw [if_pos hc]; exact h.nonneg _ _
          · rw [if_neg hc]; exact Int.le_refl _) hj
        rw [if_pos ⟨hHj, by omega, hrj⟩] at h1
        have h3 := h.nonneg (t0 + w) j
        omega
    by_cases hrk : r k < t0 + w
    · have h1 := hzero k hk hHk hrk
      have h2 := h.mono (show t0 + w ≤ r k + w by omega) k
      have h3 := h.nonneg (r k + w) k
      omega
    · exact absurd hzero (hlast (t0 + w) (by omega) (by omega))
  · have ⟨t, ht⟩ := Classical.not_forall.1 hall
    have ⟨ht1, ht⟩ := Classical.not_imp.1 ht
    have ⟨ht2, hnone⟩ := Classical.not_imp.1 ht
    have hz : ∀ j, j < n → H j → r j ≤ t → L t j = 0 := fun j hj hHj hrj => by
      have h1 := h.nonneg t j
      by_cases h0 : 0 < L t j
      · exact absurd ⟨j, hj, hHj, hrj, h0⟩ hnone
      · omega
    by_cases hrk : r k ≤ t
    · have h1 := hz k hk hHk hrk
      have h2 := h.mono (show t ≤ r k + w by omega) k
      have h3 := h.nonneg (r k + w) k
      omega
    · refine absurd (fun j hj hHj hrj => ?_) (hlast (t + 1) (by omega) (by omega))
      have h1 := hz j hj hHj (by omega)
      have h2 := h.down t j
      have h3 := h.nonneg (t + 1) j
      omega
/-- so much of one task lies in w ticks at most, if it comes T apart, J late at most -/
theorem spaced {n : Nat} {q : Nat → Prop} [DecidablePred q] {r : Nat → Nat} {a c : Nat → Int} {C T J : Int} (hT : 1 ≤ T) (hC : 0 ≤ C) (hc : ∀ j, j < n → q j → c j ≤ C) (hra : ∀ j, j < n → q j → a j ≤ r j ∧ (r j : Int) ≤ a j + J)
    (hsp : ∀ i j, i < j → j < n → q i → q j → a i + T ≤ a j) (t0 w : Nat) (hw : 1 ≤ w) (hJ : 0 ≤ J) :
    sumN (fun j => if q j ∧ t0 ≤ r j ∧ r j < t0 + w then c j else 0) n ≤ ((w + J + T - 1) / T) * C := by
  have key : ∀ m, m ≤ n → (sumN (fun j => if q j ∧ t0 ≤ r j ∧ r j < t0 + w then c j else 0) m ≤ 0 ∧ ∀ j, j < m → ¬ (q j ∧ t0 ≤ r j ∧ r j < t0 + w)) ∨
      ∃ j, j < m ∧ (q j ∧ t0 ≤ r j ∧ r j < t0 + w) ∧ sumN (fun j => if q j ∧ t0 ≤ r j ∧ r j < t0 + w then c j else 0) m ≤ ((a j - (t0 - J)) / T + 1) * C := by
    intro m
    induction m with
    | zero => intro _; exact .inl ⟨Int.le_refl _, fun j h => by omega⟩
    | succ m ih =>
      intro hm
      have ih := ih (by omega)
      simp only [sumN]
      by_cases hc' : q m ∧ t0 ≤ r m ∧ r m < t0 + w
      · right
        refine ⟨m, by omega, hc', ?_⟩
        rw [if_pos hc']
        have hcm := hc m (by omega) hc'.1
        have hrm := hra m (by omega) hc'.1
        rcases ih with ⟨h1, _⟩ | ⟨j, hj, hcj, h1⟩
        · have h0 : 0 ≤ (a m - (t0 - J)) / T := Int.ediv_nonneg (by omega) (by omega)
          have : 1 * C ≤ ((a m - (t0 - J)) / T + 1) * C := Int.mul_le_mul_of_nonneg_right (by omega) hC
          omega
        · have hs := hsp j m hj (by omega) hcj.1 hc'.1
          have h2 : (a j - (t0 - J)) / T + 1 ≤ (a m - (t0 - J)) / T := by
            have : (a j - (t0 - J) + T * 1) / T = (a j - (t0 - J)) / T + 1 := Int.add_mul_ediv_left _ _ (by omega)
            rw [← this]
            exact Int.ediv_le_ediv (by omega) (by omega)
          have h3 : ((a j - (t0 - J)) / T + 1 + 1) * C ≤ ((a m - (t0 - J)) / T + 1) * C := Int.mul_le_mul_of_nonneg_right (by omega) hC
          rw [Int.add_mul ((a j - (t0 - J)) / T + 1)] at h3
          omega
      · rw [if_neg hc']
        rcases ih with ⟨h1, h2⟩ | ⟨j, hj, hcj, h1⟩
        · left
          refine ⟨by omega, fun j hj => ?_⟩
          by_cases hjm : j = m
          · subst hjm; exact hc'
          · exact h2 j (by omega)
        · exact .inr ⟨j, by omega, hcj, by omega⟩
  have e : (w + J + T - 1) / T = (w + J - 1) / T + 1 := by
    have : (w + J - 1 + T * 1) / T = (w + J - 1) / T + 1 := Int.add_mul_ediv_left _ _ (by omega)
    rw [← this]; congr 1; omega
  rw [e]
  rcases key n (Nat.le_refl _) with ⟨h1, _⟩ | ⟨j, hj, hcj, h1⟩
  · have h0 : 0 ≤ ((w : Int) + J - 1) / T := Int.ediv_nonneg (by omega) (by omega)
    have : 0 ≤ ((w + J - 1) / T + 1) * C := Int.mul_nonneg (by omega) hC
    omega
  · have hrj := hra j hj hcj.1
    have : (a j - (t0 - J)) / T ≤ (w + J - 1) / T := Int.ediv_le_ediv (by omega) (by omega)
    have := Int.mul_le_mul_of_nonneg_right (show (a j - (t0 - J)) / T + 1 ≤ (w + J - 1) / T + 1 by omega) hC
    omega

/-- where the window ahead ends -/
def endTo (ws : List SWindow) : Nat → Int
  | 0 => 0
  | n + 1 => match ws[n]? with
    | some w => w.At + w.Len
    | none => 0
/-- what is wrong with window i -/
def windowAt (len : Int) (ws : List SWindow) (i : Nat) : Option SFault := match ws[i]? with
  | none => none
  | some w => if w.At < 0 ∨ w.At > len ∨ w.Len < 1 ∨ w.Len > len - w.At then some ⟨3, i⟩ else if w.At < endTo ws i then some ⟨12, i⟩ else none
noncomputable def frameFault (len : Int) (ws : List SWindow) : SFault :=
  if len < 1 ∨ len > 10000 then ⟨3, 0⟩ else if ws.length > 20 then ⟨2, 0⟩ else (firstOf (windowAt len ws) ws.length 0).getD ⟨0, 0⟩
theorem windowAt_none {len : Int} {ws : List SWindow} {i : Nat} {w : SWindow} (hw : ws[i]? = some w) (h : windowAt len ws i = none) : 0 ≤ w.At ∧ 1 ≤ w.Len ∧ w.At + w.Len ≤ len ∧ endTo ws i ≤ w.At := by
  unfold windowAt at h
  simp only [hw] at h
  split at h
  · cases h
  · split at h
    · cases h
    · omega
theorem Frame_eq (len : Int) (ws : List SWindow) (K : Nat) (hK : 30 ≤ K) : modes_Frame.f K len ws = some (frameFault len ws) := by
  unfold modes_Frame.f frameFault
  by_cases hl : len < 1 ∨ len > 10000
  · have hp : modes_Frame.p0 len = some (.inr ⟨3, 0⟩) := by
      unfold modes_Frame.p0
      repeat' split
      all_goals first | rfl | omega
    rw [hp, if_pos hl]
  · have hp : modes_Frame.p0 len = some (.inl ()) := by
      unfold modes_Frame.p0
      rw [if_neg (by omega), if_neg (by omega)]
    rw [hp, if_neg hl]
    simp only
    by_cases hn : ws.length > 20
    · rw [if_pos (by omega), if_pos hn]
    · rw [if_neg (by omega), if_neg hn]
      have hit := iter_states (ρ := SFault) (f := modes_Frame.r1 len ws) (fun i => (endTo ws i, i)) (windowAt len ws) ws.length (t := ()) (fun i hi _ => by
        have hi' : (i : Int) < (ws.length : Int) := by omega
        have hx : ws[i]? = some ws[i] := List.getElem?_eq_getElem hi
        have hend : endTo ws (i + 1) = ws[i].At + ws[i].Len := by simp only [endTo, hx]
        simp only [modes_Frame.r1, if_pos hi', hx, windowAt, hend]
        by_cases h1 : ws[i].At < 0
        · rw [if_pos h1, if_pos (.inl h1)]; rfl
        rw [if_neg h1]
        by_cases h2 : ws[i].At > len
        · rw [if_pos h2, if_pos (.inr (.inl h2))]; rfl
        rw [if_neg h2]
        by_cases h3 : ws[i].Len < 1
        · rw [if_pos h3, if_pos (.inr (.inr (.inl h3)))]; rfl
        rw [if_neg h3, wrap64_small (n := len - ws[i].At) (by omega) (by omega)]
        by_cases h4 : ws[i].Len > len - ws[i].At
        · rw [if_pos h4, if_pos (.inr (.inr (.inr h4)))]; rfl
        have hb : ¬ (ws[i].At < 0 ∨ ws[i].At > len ∨ ws[i].Len < 1 ∨ ws[i].Len > len - ws[i].At) := by omega
        rw [if_neg h4, if_neg hb]
        by_cases h5 : ws[i].At < endTo ws i
        · rw [if_pos h5, if_pos h5]; rfl
        · rw [if_neg h5, if_neg h5, wrap64_small (n := ws[i].At + ws[i].Len) (by omega) (by omega)]; rfl) (fun _ => by simp [modes_Frame.r1]) (K := K) (by omega)
      rw [show ((0 : Int), 0) = (endTo ws 0, 0) from rfl, hit]
      cases firstOf (windowAt len ws) ws.length 0 <;> rfl
theorem CheckFrame_eq (len : Int) (ws : List SWindow) (hin : ∀ w ∈ ws, Ok.ok w) (K : Nat) (hK : 30 ≤ K) : punctualref_CheckFrame.f K len ws = some (frameFault len ws) := by
  unfold punctualref_CheckFrame.f frameFault
  by_cases hl : len < 1 ∨ len > 10000
  · have hp : punctualref_CheckFrame.p0 len = some (.inr ⟨3, 0⟩) := by
      unfold punctualref_CheckFrame.p0
      repeat' split
      all_goals first | rfl | omega
    rw [hp, if_pos hl]
  · have hp : punctualref_CheckFrame.p0 len = some (.inl ()) := by
      unfold punctualref_CheckFrame.p0
      rw [if_neg (by omega), if_neg (by omega)]
    rw [hp, if_neg hl]
    simp only
    by_cases hn : ws.length > 20
    · rw [if_pos (by omega), if_pos hn]; rfl
    · rw [if_neg (by omega), if_neg hn]
      have hit := iter_states (ρ := SFault) (f := punctualref_CheckFrame.r1 len ws) (fun i => i) (windowAt len ws) ws.length (t := ()) (fun i hi hbef => by
        have hi' : (i : Int) < (ws.length : Int) := by omega
        have hx : ws[i]? = some ws[i] := List.getElem?_eq_getElem hi
        simp only [punctualref_CheckFrame.r1, if_pos hi', hx, windowAt]
        by_cases hb : ws[i].At < 0 ∨ ws[i].At > len ∨ ws[i].Len < 1 ∨ ws[i].Len > len - ws[i].At
        · have hp2 : punctualref_CheckFrame.p2 len i ws[i] = some (.inr ⟨3, i⟩) := by
            unfold punctualref_CheckFrame.p2
            by_cases h1 : ws[i].At < 0
            · rw [if_pos h1]; rfl
            rw [if_neg h1]
            by_cases h2 : ws[i].At > len
            · rw [if_pos h2]; rfl
            rw [if_neg h2]
            by_cases h3 : ws[i].Len < 1
            · rw [if_pos h3]; rfl
            rw [if_neg h3]
            by_cases h4 : ws[i].Len > len
            · rw [if_pos h4]; rfl
            rw [if_neg h4, wrap64_small (by omega) (by omega), if_pos (by omega)]; rfl
          rw [hp2, if_pos hb]; rfl
        · have hp2 : punctualref_CheckFrame.p2 len i ws[i] = some (.inl ()) := by
            unfold punctualref_CheckFrame.p2
            rw [if_neg (by omega), if_neg (by omega), if_neg (by omega), if_neg (by omega), wrap64_small (by omega) (by omega), if_neg (by omega)]
          rw [hp2, if_neg hb]
          simp only
          by_cases h0 : (i : Int) > 0
          · obtain ⟨k, rfl⟩ : ∃ k, i = k + 1 := ⟨i - 1, by omega⟩
            have hy : ws[k]? = some ws[k] := List.getElem?_eq_getElem (by omega)
            have hk := windowAt_none hy (hbef k (by omega))
            have ew : (IntKind.i64.wrap (((k + 1 : Nat) : Int) - 1)).toNat = k := by rw [wrap64_small (by omega) (by omega)]; omega
            rw [if_pos h0, if_pos (by rw [wrap64_small (by omega) (by omega)]; omega), ew, hy]
            simp only
            rw [wrap64_small (n := ws[k].At + ws[k].Len) (by omega) (by omega)]
            have hend : endTo ws (k + 1) = ws[k].At + ws[k].Len := by simp only [endTo, hy]
            rw [hend]
            by_cases h5 : ws[k + 1].At < ws[k].At + ws[k].Len
            · rw [if_pos h5, if_pos h5]; rfl
            · rw [if_neg h5, if_neg h5]; rfl
          · obtain rfl : i = 0 := by omega
            have hend : endTo ws 0 = 0 := rfl
            rw [if_neg h0, hend, if_neg (by omega)]; rfl) (fun _ => by simp [punctualref_CheckFrame.r1]) (K := K) (by omega)
      rw [hit]
      cases firstOf (windowAt len ws) ws.length 0 <;> rfl
/-- windows of a frame that are right -/
structure FrameOk (len : Int) (ws : List SWindow) : Prop where
  frame : 1 ≤ len ∧ len ≤ 10000
  many : ws.length ≤ 20
  each : ∀ (i : Nat) (w : SWindow), ws[i]? = some w → 0 ≤ w.At ∧ 1 ≤ w.Len ∧ w.At + w.Len ≤ len ∧ endTo ws i ≤ w.At
theorem frameFault_ok {len : Int} {ws : List SWindow} (h : (frameFault len ws).Code = 0) : frameFault len ws = ⟨0, 0⟩ ∧ FrameOk len ws := by
  unfold frameFault at h ⊢
  by_cases hl : len < 1 ∨ len > 10000
  · rw [if_pos hl] at h; exact absurd h (by simp)
  rw [if_neg hl] at h ⊢
  by_cases hn : ws.length > 20
  · rw [if_pos hn] at h; exact absurd h (by simp)
  rw [if_neg hn] at h ⊢
  cases hf : firstOf (windowAt len ws) ws.length 0 with
  | none => exact ⟨rfl, by omega, by omega, fun i w hw => windowAt_none hw (firstOf_none hf i (Nat.zero_le _) (lt_of_get hw))⟩
  | some r =>
    rw [hf] at h
    obtain ⟨j, _, hj, hg, _⟩ := firstOf_some hf
    exfalso
    unfold windowAt at hg
    split at hg
    · cases hg
    · split at hg
      · cases hg; exact absurd h (by simp)
      · split at hg
        · cases hg; exact absurd h (by simp)
        · cases hg
/-- windows don't lie over one another -/
theorem FrameOk.order {len : Int} {ws : List SWindow} (h : FrameOk len ws) : ∀ (d i : Nat) (a b : SWindow), ws[i]? = some a → ws[i + (d + 1)]? = some b → a.At + a.Len ≤ b.At
  | 0, i, a, b, ha, hb => by
    have := (h.each _ b hb).2.2.2
    simp only [Nat.zero_add, endTo, ha] at this
    exact this
  | d + 1, i, a, b, ha, hb => by
    have hm : ws[i + (d + 1)]? = some (ws[i + (d + 1)]'(by have := lt_of_get hb; omega)) := List.getElem?_eq_getElem _
    have h1 := h.order d i a _ ha hm
    have h2 := (h.each _ b hb).2.2.2
    rw [show i + (d + 1 + 1) = (i + (d + 1)) + 1 by omega] at h2
    simp only [endTo, hm] at h2
    have h3 := h.each _ _ hm
    omega
/-- is the core there at a time of the frame? -/
def openAt (ws : List SWindow) (u : Int) : Prop := ∃ (i : Nat) (w : SWindow), ws[i]? = some w ∧ w.At ≤ u ∧ u < w.At + w.Len
/-- how many ticks the core is there ahead of a time of the frame, of the first n windows -/
def tillTo (ws : List SWindow) (t : Int) : Nat → Int
  | 0 => 0
  | n + 1 => match ws[n]? with
    | some w => tillTo ws t n + min (max (t - w.At) 0) w.Len
    | none => tillTo ws t n
def tillW (ws : List SWindow) (t : Int) : Int := tillTo ws t ws.length
theorem tillTo_bounds {len : Int} {ws : List SWindow} (h : FrameOk len ws) (t : Int) : ∀ n : Nat, 0 ≤ tillTo ws t n ∧ tillTo ws t n ≤ 10000 * (n : Int)
  | 0 => by simp [tillTo]
  | n + 1 => by
    have ih := tillTo_bounds h t n
    simp only [tillTo]
    split
    · rename_i w hw
      have := h.each n w hw
      have := h.frame
      omega
    · omega
theorem tillTo_zero {len : Int} {ws : List SWindow} (h : FrameOk len ws) : ∀ n : Nat, tillTo ws 0 n = 0
  | 0 => rfl
  | n + 1 => by
    have ih := tillTo_zero h n
    simp only [tillTo]
    split
    · rename_i w hw
      have := h.each n w hw
      omega
    · exact ih
theorem tillTo_succ {len : Int} {ws : List SWindow} (h : FrameOk len ws) (u : Int) : ∀ n : Nat, ((∃ (i : Nat) (w : SWindow), i < n ∧ ws[i]? = some w ∧ w.At ≤ u ∧ u < w.At + w.Len) ∧ tillTo ws (u + 1) n = tillTo ws u n + 1) ∨ ((¬ ∃ (i : Nat) (w : SWindow), i < n ∧ ws[i]? = some w ∧ w.At ≤ u ∧ u < w.At + w.Len) ∧ tillTo ws (u + 1) n = tillTo ws u n)
  | 0 => .inr ⟨fun ⟨i, w, hi, _⟩ => by omega, rfl⟩
  | n + 1 => by
    simp only [tillTo]
    cases hw : ws[n]? with
    | none =>
      rcases tillTo_succ h u n with ⟨⟨i, w, h1, h2⟩, h3⟩ | ⟨h1, h2⟩
      · exact .inl ⟨⟨i, w, by omega, h2⟩, h3⟩
      · refine .inr ⟨fun ⟨i, w, g1, g2, g3⟩ => ?_, h2⟩
        by_cases hin : i = n
        · subst hin; rw [hw] at g2; cases g2
        · exact h1 ⟨i, w, by omega, g2, g3⟩
    | some w =>
      simp only
      have hn := h.each n w hw
      rcases tillTo_succ h u n with ⟨⟨i, v, h1, h2, h3, h4⟩, h5⟩ | ⟨h1, h2⟩
      · left
        refine ⟨⟨i, v, by omega, h2, h3, h4⟩, ?_⟩
        have := h.order (n - i - 1) i v w h2 (by rw [show i + (n - i - 1 + 1) = n by omega]; exact hw)
        omega
      · by_cases hc : w.At ≤ u ∧ u < w.At + w.Len
        · left
          exact ⟨⟨n, w, by omega, hw, hc⟩, by omega⟩
        · right
          refine ⟨fun ⟨i, v, g1, g2, g3⟩ => ?_, by omega⟩
          by_cases hin : i = n
          · subst hin; rw [hw] at g2; cases g2; exact hc g3
          · exact h1 ⟨i, v, by omega, g2, g3⟩
/-- how many ticks the core is there ahead of a time -/
def sumW (len : Int) (ws : List SWindow) (t : Int) : Int := t / len * tillW ws len + tillW ws (t % len)
noncomputable def opensAt (len : Int) (ws : List SWindow) (s : Nat) : Int := open Classical in if openAt ws ((s : Int) % len) then 1 else 0
theorem tillW_succ {len : Int} {ws : List SWindow} (h : FrameOk len ws) (u : Int) : tillW ws (u + 1) = tillW ws u + (open Classical in if openAt ws u then 1 else 0) := by
  unfold tillW
  rcases tillTo_succ h u ws.length with ⟨⟨i, w, h1, h2, h3⟩, h4⟩ | ⟨h1, h2⟩
  · rw [if_pos ⟨i, w, h2, h3⟩]; exact h4
  · rw [if_neg (fun ⟨i, w, g1, g2⟩ => h1 ⟨i, w, lt_of_get g1, g1, g2⟩)]; omega
theorem sumW_eq {len : Int} {ws : List SWindow} (h : FrameOk len ws) : ∀ t : Nat, sumW len ws (t : Int) = sumN (opensAt len ws) t
  | 0 => by
    have : tillW ws 0 = 0 := tillTo_zero h _
    simp [sumW, sumN, this]
  | t + 1 => by
    have ih := sumW_eq h t
    have hl := h.frame
    simp only [sumN]
    rw [← ih]
    have hm := Int.emod_add_mul_ediv (t : Int) len
    have hm1 : 0 ≤ (t : Int) % len := Int.emod_nonneg _ (by omega)
    have hm2 : (t : Int) % len < len := Int.emod_lt_of_pos _ (by omega)
    have hs := tillW_succ h ((t : Int) % len)
    have ho : opensAt len ws t = (open Classical in if openAt ws ((t : Int) % len) then 1 else 0) := rfl
    unfold sumW
    by_cases hlast : (t : Int) % len + 1 = len
    · have e : ((t + 1 : Nat) : Int) = 0 + len * ((t : Int) / len + 1) := by rw [Int.mul_add]; omega
      have hz : tillW ws 0 = 0 := tillTo_zero h _
      have e1 : ((t + 1 : Nat) : Int) / len = (t : Int) / len + 1 := by rw [e, Int.add_mul_ediv_left _ _ (by omega)]; simp
      have e2 : ((t + 1 : Nat) : Int) % len = 0 := by rw [e, Int.add_mul_emod_self_left]; simp
      rw [e1, e2, hz, Int.add_mul, Int.one_mul, Int.add_zero]
      rw [hlast] at hs
      omega
    · have e : ((t + 1 : Nat) : Int) = ((t : Int) % len + 1) + len * ((t : Int) / len) := by omega
      have e1 : ((t + 1 : Nat) : Int) / len = (t : Int) / len := by
        rw [e, Int.add_mul_ediv_left _ _ (by omega), Int.ediv_eq_zero_of_lt (by omega) (by omega)]; omega
      have e2 : ((t + 1 : Nat) : Int) % len = (t : Int) % len + 1 := by
        rw [e, Int.add_mul_emod_self_left, Int.emod_eq_of_lt (by omega) (by omega)]
      rw [e1, e2]
      omega
theorem sumN_shift (f : Nat → Int) (a : Nat) : ∀ b, sumN f (a + b) = sumN f a + sumN (fun s => f (a + s)) b
  | 0 => by simp [sumN]
  | b + 1 => by
    show sumN f (a + b) + f (a + b) = _
    rw [sumN_shift f a b]
    simp only [sumN]
    omega
/-- how many ticks the core is there, from a time on -/
def supplyOf (len : Int) (ws : List SWindow) (a b : Int) : Int := sumW len ws (a + b) - sumW len ws a
theorem supplyOf_eq {len : Int} {ws : List SWindow} (h : FrameOk len ws) (a b : Nat) : supplyOf len ws a b = sumN (fun s => opensAt len ws (a + s)) b := by
  unfold supplyOf
  have e : (a : Int) + (b : Int) = ((a + b : Nat) : Int) := by omega
  rw [e, sumW_eq h, sumW_eq h, sumN_shift]
  omega
theorem supply_step (len : Int) (ws : List SWindow) (a b : Nat) : sumN (fun s => opensAt len ws (a + 1 + s)) b + opensAt len ws a = sumN (fun s => opensAt len ws (a + s)) b + opensAt len ws (a + b) := by
  induction b with
  | zero => simp [sumN]
  | succ b ih =>
    simp only [sumN]
    rw [show a + 1 + b = a + (b + 1) by omega]
    omega
theorem opensAt_range (len : Int) (ws : List SWindow) (s : Nat) : 0 ≤ opensAt len ws s ∧ opensAt len ws s ≤ 1 := by
  unfold opensAt; split <;> omega
/-- the least of the first n -/
def leastTo (len : Int) (ws : List SWindow) (b : Int) : Nat → Int
  | 0 => supplyOf len ws 0 b
  | n + 1 => match ws[n]? with
    | some w => min (leastTo len ws b n) (supplyOf len ws (w.At + w.Len) b)
    | none => leastTo len ws b n
theorem leastTo_le (len : Int) (ws : List SWindow) (b : Int) : ∀ n, leastTo len ws b n ≤ supplyOf len ws 0 b ∧ ∀ (k : Nat) (w : SWindow), k < n → ws[k]? = some w → leastTo len ws b n ≤ supplyOf len ws (w.At + w.Len) b
  | 0 => ⟨Int.le_refl _, fun k w hk _ => by omega⟩
  | n + 1 => by
    obtain ⟨h1, h2⟩ := leastTo_le len ws b n
    simp only [leastTo]
    cases hn : ws[n]? with
    | none =>
      refine ⟨h1, fun k w hk hw => ?_⟩
      by_cases hkn : k = n
      · subst hkn; rw [hn] at hw; cases hw
      · exact h2 k w (by omega) hw
    | some v =>
      simp only
      refine ⟨by omega, fun k w hk hw => ?_⟩
      by_cases hkn : k = n
      · subst hkn; rw [hn] at hw; cases hw; omega
      · have := h2 k w (by omega) hw; omega
/-- nowhere is the core there for fewer ticks -/
theorem leastTo_all {len : Int} {ws : List SWindow} (h : FrameOk len ws) (b a : Nat) : leastTo len ws b ws.length ≤ sumN (fun s => opensAt len ws (a + s)) b := by
  obtain ⟨hl0, hlw⟩ := leastTo_le len ws b ws.length
  have hl := h.frame
  -- from the frame's beginning, and from where a window ends
  have h0 : leastTo len ws b ws.length ≤ sumN (fun s => opensAt len ws (0 + s)) b := by
    have := supplyOf_eq h 0 b
    rw [← this]; exact hl0
  have hend : ∀ (k : Nat) (w : SWindow), ws[k]? = some w → leastTo len ws b ws.length ≤ sumN (fun s => opensAt len ws ((w.At + w.Len).toNat + s)) b := fun k w hw => by
    have h1 := h.each k w hw
    have h2 := hlw k w (lt_of_get hw) hw
    have h3 := supplyOf_eq h (w.At + w.Len).toNat b
    rw [Int.toNat_of_nonneg (by omega)] at h3
    rw [← h3]; exact h2
  have hopen : ∀ f : Nat, (f : Int) < len → (opensAt len ws f = 1 ∧ openAt ws (f : Int) ∨ opensAt len ws f = 0 ∧ ¬ openAt ws (f : Int)) := fun f hf => by
    unfold opensAt
    rw [Int.emod_eq_of_lt (by omega) hf]
    by_cases ho : openAt ws (f : Int)
    · rw [if_pos ho]; exact .inl ⟨rfl, ho⟩
    · rw [if_neg ho]; exact .inr ⟨rfl, ho⟩
  -- within a window: onwards to its end
  have hfwd : ∀ (k : Nat) (w : SWindow), ws[k]? = some w → ∀ d f : Nat, (f : Int) + d = w.At + w.Len → w.At ≤ f → leastTo len ws b ws.length ≤ sumN (fun s => opensAt len ws (f + s)) b := by
    intro k w hw d
    induction d with
    | zero =>
      intro f hf _
      have := hend k w hw
      rw [show (w.At + w.Len).toNat = f by omega] at this
      exact this
    | succ d ih =>
      intro f hf hfa
      have h1 := h.each k w hw
      have h2 := ih (f + 1) (by omega) (by omega)
      have h3 := supply_step len ws f b
      have h4 := opensAt_range len ws (f + b)
      rcases hopen f (by omega) with ⟨h5, _⟩ | ⟨_, h5⟩
      · omega
      · exact absurd ⟨k, w, hw, hfa, by omega⟩ h5
  -- where it isn't there: back to where it was
  have hback : ∀ f : Nat, (f : Int) < len → leastTo len ws b ws.length ≤ sumN (fun s => opensAt len ws (f + s)) b := by
    intro f
    induction f with
    | zero => intro _; exact h0
    | succ f ih =>
      intro hf
      rcases hopen (f + 1) hf with ⟨_, ⟨k, w, hw, g1, g2⟩⟩ | ⟨_, hno⟩
      · exact hfwd k w hw (w.At + w.Len - ((f + 1 : Nat) : Int)).toNat (f + 1) (by omega) g1
      · rcases hopen f (by omega) with ⟨_, ⟨k, w, hw, g1, g2⟩⟩ | ⟨hz, _⟩
        · have : w.At + w.Len = ((f + 1 : Nat) : Int) := by
            by_cases hlt : ((f + 1 : Nat) : Int) < w.At + w.Len
            · exact absurd ⟨k, w, hw, by omega, hlt⟩ hno
            · omega
          have h1 := hend k w hw
          rw [this, Int.toNat_natCast] at h1
          exact h1
        · have h2 := ih (by omega)
          have h3 := supply_step len ws f b
          have h4 := opensAt_range len ws (f + b)
          omega
  -- frame by frame
  have hper : sumN (fun s => opensAt len ws (a + s)) b = sumN (fun s => opensAt len ws (((a : Int) % len).toNat + s)) b := sumN_congr fun s _ => by
    unfold opensAt
    have hm1 : 0 ≤ (a : Int) % len := Int.emod_nonneg _ (by omega)
    have e : ((a + s : Nat) : Int) % len = (((((a : Int) % len).toNat + s : Nat)) : Int) % len := by
      have e1 : (((((a : Int) % len).toNat + s : Nat)) : Int) = (a : Int) % len + s := by omega
      have e2 : ((a + s : Nat) : Int) = (a : Int) + s := by omega
      rw [e1, e2, Int.emod_add_emod]
    rw [e]
  rw [hper]
  have hm2 : (a : Int) % len < len := Int.emod_lt_of_pos _ (by omega)
  have hm1 : 0 ≤ (a : Int) % len := Int.emod_nonneg _ (by omega)
  exact hback _ (by omega)

theorem till_eq {len : Int} {ws : List SWindow} (h : FrameOk len ws) {t : Int} (ht : 0 ≤ t ∧ t ≤ 10000) (K : Nat) (hK : 30 ≤ K) : modes_till.f K ws t = some (tillW ws t) := by
  unfold modes_till.f
  have hm := h.many
  have hit := iter_states (ρ := Int) (f := modes_till.r0 ws t) (fun i => (tillTo ws t i, i)) (fun _ => none) ws.length (t := tillW ws t) (fun i hi _ => by
    have hi' : (i : Int) < (ws.length : Int) := by omega
    have hx : ws[i]? = some ws[i] := List.getElem?_eq_getElem hi
    have hw := h.each i _ hx
    have hf := h.frame
    have hb := tillTo_bounds h t i
    simp only [modes_till.r0, if_pos hi', hx, tillTo, onwardS, gmin_eq, gmax_eq]
    rw [wrap64_small (n := t - ws[i].At) (by omega) (by omega), wrap64_small (by omega) (by omega)]) (fun _ => by simp [modes_till.r0, tillW]) (K := K) (by omega)
  rw [show ((0 : Int), 0) = (tillTo ws t 0, 0) from rfl, hit, firstOf_none_of (fun _ _ _ => rfl)]
  rfl
theorem tillW_bounds {len : Int} {ws : List SWindow} (h : FrameOk len ws) (t : Int) : 0 ≤ tillW ws t ∧ tillW ws t ≤ 200000 := by
  have h1 := tillTo_bounds h t ws.length
  have h2 := h.many
  unfold tillW
  omega
theorem sumW_bounds {len : Int} {ws : List SWindow} (h : FrameOk len ws) {t : Int} (ht : 0 ≤ t ∧ t ≤ 40000) : (0 ≤ t / len * tillW ws len ∧ t / len * tillW ws len ≤ 8000000000) ∧ 0 ≤ sumW len ws t ∧ sumW len ws t ≤ 8000200000 := by
  have hf := h.frame
  have h1 : 0 ≤ t / len := Int.ediv_nonneg ht.1 (by omega)
  have h2 : t / len ≤ t := Int.ediv_le_self _ ht.1
  have h3 := tillW_bounds h len
  have h4 := tillW_bounds h (t % len)
  have h5 : 0 ≤ t / len * tillW ws len := Int.mul_nonneg h1 h3.1
  have h6 : t / len * tillW ws len ≤ 8000000000 := by
    calc t / len * tillW ws len ≤ 40000 * tillW ws len := Int.mul_le_mul_of_nonneg_right (by omega) h3.1
      _ ≤ 40000 * 200000 := Int.mul_le_mul_of_nonneg_left h3.2 (by omega)
      _ = 8000000000 := by decide
  unfold sumW
  omega
theorem sum_eq {len : Int} {ws : List SWindow} (h : FrameOk len ws) {t : Int} (ht : 0 ≤ t ∧ t ≤ 40000) (K : Nat) (hK : 30 ≤ K) : modes_supply_1.f K t len ws = some (sumW len ws t) := by
  have hf := h.frame
  have hb := sumW_bounds h ht
  have hm1 : 0 ≤ t % len := Int.emod_nonneg _ (by omega)
  have hm2 : t % len < len := Int.emod_lt_of_pos _ (by omega)
  have h1 : 0 ≤ t / len := Int.ediv_nonneg ht.1 (by omega)
  have h2 : t / len ≤ t := Int.ediv_le_self _ ht.1
  unfold modes_supply_1.f
  rw [if_neg (by omega), till_eq h ⟨by omega, by omega⟩ K hK]
  simp only
  rw [Int.tmod_eq_emod_of_nonneg ht.1, till_eq h ⟨by omega, by omega⟩ K hK]
  simp only
  rw [Int.tdiv_eq_ediv_of_nonneg ht.1, wrap64_small (n := t / len) (by omega) (by omega), wrap64_small (n := t / len * tillW ws len) (by omega) (by omega), wrap64_small (by unfold sumW at hb; omega) (by unfold sumW at hb; omega)]
  rfl
theorem supply_eq {len : Int} {ws : List SWindow} (h : FrameOk len ws) {a b : Int} (ha : 0 ≤ a ∧ a ≤ 20000) (hb : 0 ≤ b ∧ b ≤ 20000) (K : Nat) (hK : 30 ≤ K) : modes_supply.f K len ws a b = some (supplyOf len ws a b) := by
  have h1 := sumW_bounds h (t := a + b) ⟨by omega, by omega⟩
  have h2 := sumW_bounds h (t := a) ⟨by omega, by omega⟩
  unfold modes_supply.f
  rw [wrap64_small (n := a + b) (by omega) (by omega), sum_eq h ⟨by omega, by omega⟩ K hK]
  simp only
  rw [sum_eq h ⟨by omega, by omega⟩ K hK]
  simp only
  rw [wrap64_small (by omega) (by omega)]
  rfl
theorem least_eq {len : Int} {ws : List SWindow} (h : FrameOk len ws) {b : Int} (hb : 0 ≤ b ∧ b ≤ 20000) (K : Nat) (hK : 30 ≤ K) : modes_least.f K len ws b = some (leastTo len ws b ws.length) := by
  have hm := h.many
  unfold modes_least.f
  rw [supply_eq h ⟨by omega, by omega⟩ hb K hK]
  simp only
  have hit := iter_states (ρ := Int) (f := modes_least.r0 K len ws b) (fun i => (leastTo len ws b i, i)) (fun _ => none) ws.length (t := leastTo len ws b ws.length) (fun i hi _ => by
    have hi' : (i : Int) < (ws.length : Int) := by omega
    have hx : ws[i]? = some ws[i] := List.getElem?_eq_getElem hi
    have hw := h.each i _ hx
    have hf := h.frame
    simp only [modes_least.r0, if_pos hi', hx, leastTo, onwardS, gmin_eq]
    rw [wrap64_small (n := ws[i].At + ws[i].Len) (by omega) (by omega), supply_eq h ⟨by omega, by omega⟩ hb K hK]) (fun _ => by simp [modes_least.r0]) (K := K) (by omega)
  rw [show (supplyOf len ws 0 b, 0) = (leastTo len ws b 0, 0) from rfl, hit, firstOf_none_of (fun _ _ _ => rfl)]
  rfl
theorem wceil_eq {a b : Int} (ha : 0 ≤ a ∧ a ≤ 100000) (hb : 1 ≤ b ∧ b ≤ 100000) : modes_ceil.f a b = some (ceilD a b) := by
  unfold modes_ceil.f
  rw [if_neg (by omega), wrap64_small (n := a + b) (by omega) (by omega), wrap64_small (n := a + b - 1) (by omega) (by omega), Int.tdiv_eq_ediv_of_nonneg (by omega)]
  have h1 := ceilD_nonneg hb.1 ha.1
  have h2 := ceilD_le hb.1 ha.1
  show some (IntKind.i64.wrap (ceilD a b)) = _
  rw [wrap64_small (by omega) (by omega)]
theorem need_eq (l : List STask) (h : ∀ o ∈ l, Okt o) (hl : l.length ≤ 8) (i : Nat) (t : STask) (ht : l[i]? = some t) (w : Int) (hw : 1 ≤ w ∧ w ≤ 10000) (K : Nat) (hK : 9 ≤ K) : iter (modes_Within.r1 l (i : Int) t w) K (t.C, 0) = some (.inl (dem t 0 (aboveOf l i) w)) := by
  have htok := h t (List.mem_of_getElem? ht)
  have hC := htok.C
  have hr := iter_states (ρ := Int × SFault) (f := modes_Within.r1 l (i : Int) t w) (fun k => (t.C + wants (aboveTill l i k) w, k)) (fun _ => none) l.length (t := dem t 0 (aboveOf l i) w) (fun k hk _ => by
    have hk' : (k : Int) < (l.length : Int) := by omega
    have hkx : l[k]? = some l[k] := List.getElem?_eq_getElem hk
    have hok := h l[k] (List.getElem_mem hk)
    have hwb := want_bounds hok (w := w) ⟨by omega, by omega⟩
    have hsb := wants_bounds (os := aboveTill l i k) (fun o ho => h o (aboveTill_mem ho)) (w := w) ⟨by omega, by omega⟩
    have hlen := aboveTill_len l i k
    rw [aboveTill_succ hkx ht, wants_append]
    simp only [modes_Within.r1, if_pos hk', hkx, onwardS]
    by_cases h1 : (k : Int) = (i : Int)
    · rw [if_pos h1, if_neg (by omega), wants_nil, Int.add_zero]
    · rw [if_neg h1]
      by_cases h2 : l[k].P ≥ t.P
      · have hT := hok.T; have hJ := hok.J
        rw [if_pos h2, wrap64_small (n := w + l[k].J) (by omega) (by omega), wceil_eq ⟨by omega, by omega⟩ ⟨by omega, by omega⟩]
        simp only
        rw [wrap64_small (n := ceilD (w + l[k].J) l[k].T * l[k].C) (by omega) (by omega), wrap64_small (by omega) (by omega), if_pos ⟨by omega, h2⟩, wants_cons, wants_nil]
        congr 3
        omega
      · rw [if_neg h2, if_neg (fun h => h2 h.2), wants_nil, Int.add_zero]) (fun _ => by simp [modes_Within.r1, dem, aboveOf]) (K := K) (by omega)
  have h0 : t.C + wants (aboveTill l i 0) w = t.C := by
    show _ + wants [] w = _
    rw [wants_nil, Int.add_zero]
  rw [h0, firstOf_none_of (fun _ _ _ => rfl)] at hr
  rw [hr]; rfl
/-- what Within says: a fault, or a time in which all is done that is wanted -/
theorem Within_eq (l : List STask) (i : Nat) (t : STask) (ht : l[i]? = some t) (len : Int) (ws : List SWindow) (K : Nat) (hK : 20100 ≤ K) :
    ∃ n f, modes_Within.f K l (i : Int) len ws = some (n, f) ∧ (f.Code = 0 → (fixedFault l).Code = 0 ∧ FrameOk len ws ∧ ∃ w, 1 ≤ w ∧ w ≤ t.D - t.J ∧ dem t 0 (aboveOf l i) w ≤ leastTo len ws w ws.length ∧ n = w + t.J) := by
  unfold modes_Within.f
  rw [Response_eq l (i : Int) 0 K hK]
  simp only
  by_cases hr : (respOf l (i : Int) 0).2.Code = 0
  · rw [if_pos hr, Frame_eq len ws K (by omega)]
    simp only
    by_cases hc : (frameFault len ws).Code = 0
    · rw [if_pos hc, if_pos (by omega), Int.toNat_natCast, ht]
      simp only
      have hff : (fixedFault l).Code = 0 := by
        unfold respOf at hr
        split at hr
        · assumption
        · contradiction
      have hset := (fixedFault_ok hff).1
      have hok := okt_of hset
      have hl8 := (setFault_ok hset).2.1
      have hto := hok t (List.mem_of_getElem? ht)
      have hC := hto.C; have hD := hto.D; have hJ := hto.J
      obtain ⟨_, hfr⟩ := frameFault_ok hc
      obtain ⟨r, hr1, hR⟩ := iter_total (f := modes_Within.r0 K l (i : Int) len ws (respOf l (i : Int) 0) t) (fun z => 1 ≤ z) (fun z => (t.D - t.J + 1 - z).toNat)
        (fun r => r = .inl () ∨ ∃ w, 1 ≤ w ∧ w ≤ t.D - t.J ∧ dem t 0 (aboveOf l i) w ≤ leastTo len ws w ws.length ∧ r = .inr (w + t.J, ⟨0, 0⟩)) (fun z hz => by
          simp only [modes_Within.r0]
          rw [wrap64_small (n := t.D - t.J) (by omega) (by omega)]
          by_cases hle : z ≤ t.D - t.J
          · rw [if_pos hle, need_eq l hok hl8 i t ht z ⟨hz, by omega⟩ K (by omega)]
            simp only
            rw [least_eq hfr ⟨by omega, by omega⟩ K (by omega)]
            simp only
            by_cases hge : leastTo len ws z ws.length ≥ dem t 0 (aboveOf l i) z
            · rw [if_pos hge]
              right
              refine ⟨_, rfl, .inr ⟨z, hz, hle, hge, ?_⟩⟩
              rw [wrap64_small (by omega) (by omega)]
            · rw [if_neg hge]
              left
              refine ⟨_, rfl, ?_, ?_⟩ <;> rw [wrap64_small (by omega) (by omega)] <;> omega
          · rw [if_neg hle]
            exact .inr ⟨_, rfl, .inl rfl⟩) K t.C hC.1 (by omega)
      rw [hr1]
      rcases hR with rfl | ⟨w, h1, h2, h3, rfl⟩
      · exact ⟨_, _, rfl, fun h => absurd h (by simp)⟩
      · exact ⟨_, _, rfl, fun _ => ⟨hff, hfr, w, h1, h2, h3, rfl⟩⟩
    · rw [if_neg hc]
      exact ⟨_, _, rfl, fun h => absurd h hc⟩
  · rw [if_neg hr]
    exact ⟨_, _, rfl, fun h => absurd h hr⟩
theorem There_eq {len : Int} {ws : List SWindow} (h : FrameOk len ws) (t : Nat) (K : Nat) (hK : 30 ≤ K) : punctualref_There.f K len ws (t : Int) = some (decide (opensAt len ws t = 1)) := by
  have hf := h.frame; have hm := h.many
  unfold punctualref_There.f
  have hit := iter_first0 (ρ := Bool) (τ := Unit) (f := punctualref_There.r0 len ws (t : Int)) (fun i => match ws[i]? with | some w => if w.At ≤ (t : Int) % len ∧ (t : Int) % len < w.At + w.Len then some true else none | none => none) ws.length (t := ()) (fun i hi => by
    have hi' : (i : Int) < (ws.length : Int) := by omega
    have hx : ws[i]? = some ws[i] := List.getElem?_eq_getElem hi
    have hw := h.each i _ hx
    simp only [punctualref_There.r0, if_pos hi', hx]
    rw [if_neg (by omega), Int.tmod_eq_emod_of_nonneg (by omega), wrap64_small (n := ws[i].At + ws[i].Len) (by omega) (by omega)]
    by_cases h1 : (t : Int) % len ≥ ws[i].At
    · rw [if_pos h1]
      by_cases h2 : (t : Int) % len < ws[i].At + ws[i].Len
      · rw [if_pos h2, if_pos ⟨h1, h2⟩]; rfl
      · rw [if_neg h2, if_neg (fun h => h2 h.2)]; rfl
    · rw [if_neg h1, if_neg (fun h => h1 h.1)]; rfl) (by simp [punctualref_There.r0]) (K := K) (by omega)
  rw [hit]
  cases hfst : firstOf (fun i => match ws[i]? with | some w => if w.At ≤ (t : Int) % len ∧ (t : Int) % len < w.At + w.Len then some true else none | none => none) ws.length 0 with
  | some r =>
    obtain ⟨i, _, hi, hg, _⟩ := firstOf_some hfst
    have hx : ws[i]? = some ws[i] := List.getElem?_eq_getElem hi
    simp only [hx] at hg
    split at hg
    · rename_i hh
      cases hg
      have : opensAt len ws t = 1 := by unfold opensAt; rw [if_pos ⟨i, _, hx, hh⟩]
      simp [leave, this]
    · cases hg
  | none =>
    have : opensAt len ws t = 0 := by
      unfold opensAt
      rw [if_neg]
      rintro ⟨i, w, hw, hh⟩
      have := firstOf_none hfst i (Nat.zero_le _) (lt_of_get hw)
      simp only [hw] at this
      rw [if_pos hh] at this
      cases this
    simp [leave, this]
theorem Open_eq2 {len : Int} {ws : List SWindow} (hc : (frameFault len ws).Code = 0) (t : Nat) (K : Nat) (hK : 30 ≤ K) : modes_Open.f K len ws (t : Int) = some (decide (opensAt len ws t = 1)) := by
  obtain ⟨_, h⟩ := frameFault_ok hc
  have hf := h.frame; have hm := h.many
  have hp0 : modes_Open.p0 K len ws (t : Int) = some (.inl ()) := by
    unfold modes_Open.p0
    rw [if_neg (by omega), Frame_eq len ws K (by omega)]
    simp only
    rw [if_pos hc]
  unfold modes_Open.f
  rw [hp0]
  simp only
  rw [if_neg (by omega)]
  have e : ∀ i, modes_Open.r1 len ws (t : Int) i = punctualref_There.r0 len ws (t : Int) i := fun i => by
    simp only [modes_Open.r1, punctualref_There.r0]
    by_cases hi : (i : Int) < (ws.length : Int)
    · rw [if_pos hi, if_pos hi]
      cases ws[i]? with
      | none => rfl
      | some w =>
        simp only
        rw [if_neg (show ¬ len = 0 by omega)]
    · rw [if_neg hi, if_neg hi]
  have e2 : modes_Open.r1 len ws (t : Int) = punctualref_There.r0 len ws (t : Int) := funext e
  rw [e2]
  exact There_eq h t K hK
theorem opens_cases (len : Int) (ws : List SWindow) (t : Nat) : opensAt len ws t = 1 ∨ (opensAt len ws t = 0 ∧ ¬ opensAt len ws t = 1) := by
  have := opensAt_range len ws t
  omega
/-- how many ticks the core is there -/
noncomputable def sup (len : Int) (ws : List SWindow) (a b : Nat) : Int := sumN (fun s => opensAt len ws (a + s)) b
theorem sup_bounds (len : Int) (ws : List SWindow) (a : Nat) : ∀ b : Nat, 0 ≤ sup len ws a b ∧ sup len ws a b ≤ b
  | 0 => by simp [sup, sumN]
  | b + 1 => by
    have ih := sup_bounds len ws a b
    have := opensAt_range len ws (a + b)
    unfold sup at ih ⊢
    simp only [sumN]
    omega
theorem SupplyOf_eq {len : Int} {ws : List SWindow} (h : FrameOk len ws) (a b : Nat) (ha : a ≤ 20000) (hb : b ≤ 20000) (K : Nat) (hK : 20010 ≤ K) : punctualref_SupplyOf.f K len ws (a : Int) (b : Int) = some (sup len ws a b) := by
  unfold punctualref_SupplyOf.f
  have hit := iter_states (ρ := Int) (f := punctualref_SupplyOf.r0 K len ws (a : Int) (b : Int)) (fun k => (sup len ws a k, ((a + k : Nat) : Int))) (fun _ => none) b (t := sup len ws a b) (fun k hk _ => by
    have hs := sup_bounds len ws a k
    have hr := opensAt_range len ws (a + k)
    simp only [punctualref_SupplyOf.r0]
    rw [wrap64_small (n := (a : Int) + b) (by omega) (by omega), if_pos (by omega), There_eq h (a + k) K (by omega), wrap64_small (n := sup len ws a k + 1) (by omega) (by omega), wrap64_small (n := ((a + k : Nat) : Int) + 1) (by omega) (by omega)]
    simp only [decide_eq_true_eq, onwardS]
    have e : sup len ws a (k + 1) = sup len ws a k + opensAt len ws (a + k) := rfl
    rcases opens_cases len ws (a + k) with ho | ⟨ho, hno⟩
    · rw [if_pos ho, e, ho]; rfl
    · rw [if_neg hno, e, ho, Int.add_zero]; rfl) (fun _ => by simp only [punctualref_SupplyOf.r0]; rw [wrap64_small (n := (a : Int) + b) (by omega) (by omega), if_neg (by omega)]) (K := K) (by omega)
  have h0 : sup len ws a 0 = 0 := rfl
  rw [h0] at hit
  simp only [Nat.add_zero] at hit
  rw [hit, firstOf_none_of (fun _ _ _ => rfl)]
  rfl
/-- the least from the first n times of the frame -/
noncomputable def leanTo (len : Int) (ws : List SWindow) (k : Nat) : Nat → Int
  | 0 => k
  | f + 1 => if sup len ws f k < leanTo len ws k f then sup len ws f k else leanTo len ws k f
theorem leanTo_facts (len : Int) (ws : List SWindow) (k : Nat) {M : Int} (hk : M ≤ k) : ∀ n, (∀ f, f < n → M ≤ sup len ws f k) → M ≤ leanTo len ws k n
  | 0, _ => hk
  | n + 1, h => by
    have ih := leanTo_facts len ws k hk n (fun f hf => h f (by omega))
    have := h n (by omega)
    simp only [leanTo]
    split <;> assumption
theorem leanTo_le (len : Int) (ws : List SWindow) (k : Nat) : ∀ n f, f < n → leanTo len ws k n ≤ sup len ws f k
  | 0, f, h => by omega
  | n + 1, f, h => by
    simp only [leanTo]
    by_cases hf : f = n
    · subst hf; split <;> omega
    · have := leanTo_le len ws k n f (by omega)
      split <;> omega
theorem sup_period {len : Int} {ws : List SWindow} (h : FrameOk len ws) (k : Nat) : sup len ws len.toNat k = sup len ws 0 k := by
  have hf := h.frame
  unfold sup
  refine sumN_congr fun s _ => ?_
  unfold opensAt
  have e : ((len.toNat + s : Nat) : Int) = (s : Int) + len * 1 := by omega
  rw [e, Int.add_mul_emod_self_left, Nat.zero_add]
theorem leastTo_sup {len : Int} {ws : List SWindow} (h : FrameOk len ws) (k : Nat) {M : Int} (hM : ∀ f : Nat, (f : Int) < len → M ≤ sup len ws f k) : ∀ n, M ≤ leastTo len ws k n
  | 0 => by
    have := supplyOf_eq h 0 k
    have h0 := hM 0 (by have := h.frame; omega)
    simp only [leastTo]
    simp only [Int.natCast_zero] at this
    rw [this]; exact h0
  | n + 1 => by
    have ih := leastTo_sup h k hM n
    simp only [leastTo]
    cases hn : ws[n]? with
    | none => exact ih
    | some w =>
      have hw := h.each n w hn
      have he := supplyOf_eq h (w.At + w.Len).toNat k
      rw [Int.toNat_of_nonneg (by omega)] at he
      have hf := h.frame
      have : M ≤ sup len ws (w.At + w.Len).toNat k := by
        by_cases hlt : w.At + w.Len < len
        · exact hM _ (by omega)
        · rw [show (w.At + w.Len).toNat = len.toNat by omega, sup_period h]
          exact hM 0 (by omega)
      simp only
      rw [he]
      have e : sumN (fun s => opensAt len ws ((w.At + w.Len).toNat + s)) k = sup len ws (w.At + w.Len).toNat k := rfl
      omega
theorem lean_least {len : Int} {ws : List SWindow} (h : FrameOk len ws) (k : Nat) : leanTo len ws k len.toNat = leastTo len ws k ws.length := by
  have hf := h.frame
  have h1 : leastTo len ws k ws.length ≤ leanTo len ws k len.toNat := by
    refine leanTo_facts len ws k ?_ _ (fun f _ => leastTo_all h k f)
    have := leastTo_all h k 0
    have := (sup_bounds len ws 0 k).2
    unfold sup at this
    omega
  have h2 : leanTo len ws k len.toNat ≤ leastTo len ws k ws.length := leastTo_sup h k (fun f hf' => leanTo_le len ws k _ f (by omega)) _
  omega
theorem Lean_eq {len : Int} {ws : List SWindow} (h : FrameOk len ws) (b : Nat) (hb : b ≤ 20000) (K : Nat) (hK : 20100 ≤ K) : ∃ l, punctualref_Lean.f K len ws (b : Int) = some l ∧ l[b]? = some (leastTo len ws b ws.length) := by
  have hf := h.frame
  unfold punctualref_Lean.f
  have ew : (IntKind.i64.wrap ((b : Int) + 1)).toNat = b + 1 := by rw [wrap64_small (by omega) (by omega)]; omega
  rw [if_pos (by rw [wrap64_small (by omega) (by omega)]; omega), ew, if_pos (by omega)]
  obtain ⟨r, hr, m, rfl, hm1, hm2⟩ := iter_total (f := punctualref_Lean.r0 (b : Int)) (fun s => ∃ i : Nat, s.1 = (i : Int) ∧ i ≤ b + 1 ∧ s.2.length = b + 1 ∧ ∀ j, j < i → s.2[j]? = some (j : Int)) (fun s => ((b : Int) + 1 - s.1).toNat)
    (fun r => ∃ m, r = .inl m ∧ m.length = b + 1 ∧ ∀ j, j < b + 1 → m[j]? = some (j : Int)) (fun s hs => by
      obtain ⟨z, m⟩ := s
      obtain ⟨i, rfl, hi, hl, hj⟩ := hs
      simp only at hl hj
      simp only [punctualref_Lean.r0, ew, List.length_replicate]
      by_cases hlt : i < b + 1
      · left
        have hx : m[i]? = some (m[i]'(by omega)) := List.getElem?_eq_getElem _
        rw [if_pos (by omega), if_pos (by omega), Int.toNat_natCast, hx]
        have hw : IntKind.i64.wrap ((i : Int) + 1) = ((i + 1 : Nat) : Int) := by rw [wrap64_small (by omega) (by omega)]; rfl
        refine ⟨_, rfl, ⟨i + 1, hw, by omega, by simp [hl], fun j hji => ?_⟩, by simp only; rw [hw]; omega⟩
        simp only
        rw [List.getElem?_set]
        by_cases hij : i = j
        · subst hij; rw [if_pos rfl, if_pos (by omega)]
        · rw [if_neg hij]; exact hj j (by omega)
      · right
        obtain rfl : i = b + 1 := by omega
        rw [if_neg (by omega)]
        exact ⟨_, rfl, m, rfl, hl, hj⟩) K (0, List.replicate (b + 1) 0) ⟨0, rfl, Nat.zero_le _, by simp, fun j hj => by omega⟩ (by simp only; omega)
  rw [hr]
  simp only
  obtain ⟨r', hr', m', rfl, hm1', hm2'⟩ := iter_total (f := punctualref_Lean.r1 K len ws (b : Int)) (fun s => ∃ f : Nat, s.1 = (f : Int) ∧ (f : Int) ≤ len ∧ s.2.length = b + 1 ∧ ∀ j, j < b + 1 → s.2[j]? = some (leanTo len ws j f)) (fun s => (len - s.1).toNat)
    (fun r => ∃ m, r = .inl m ∧ m.length = b + 1 ∧ ∀ j, j < b + 1 → m[j]? = some (leanTo len ws j len.toNat)) (fun s hs => by
      obtain ⟨z, m⟩ := s
      obtain ⟨f, rfl, hfl, hl, hj⟩ := hs
      simp only at hl hj
      simp only [punctualref_Lean.r1]
      by_cases hlt : (f : Int) < len
      · left
        rw [if_pos hlt]
        obtain ⟨q, hq, m2, rfl, hq1, hq2⟩ := iter_total (f := punctualref_Lean.r2 K len ws (b : Int) (f : Int)) (fun s => ∃ k : Nat, s.1 = sup len ws f k ∧ s.2.1 = (k : Int) ∧ k ≤ b + 1 ∧ s.2.2.length = b + 1 ∧ ∀ j, j < b + 1 → s.2.2[j]? = some (if j < k then leanTo len ws j (f + 1) else leanTo len ws j f)) (fun s => ((b : Int) + 1 - s.2.1).toNat)
          (fun r => ∃ m2, r = .inl m2 ∧ m2.length = b + 1 ∧ ∀ j, j < b + 1 → m2[j]? = some (leanTo len ws j (f + 1))) (fun s hs => by
            obtain ⟨z3, z4, m6⟩ := s
            obtain ⟨k, rfl, rfl, hk, hl6, hj6⟩ := hs
            simp only at hl6 hj6
            have hs := sup_bounds len ws f k
            have hr := opensAt_range len ws (f + k)
            simp only [punctualref_Lean.r2]
            by_cases hkb : k < b + 1
            · left
              have hx := hj6 k hkb
              rw [if_neg (by omega)] at hx
              have hth := There_eq h (f + k) K (by omega)
              have hw1 : IntKind.i64.wrap ((f : Int) + k) = ((f + k : Nat) : Int) := by rw [wrap64_small (by omega) (by omega)]; omega
              have hw2 : IntKind.i64.wrap ((k : Int) + 1) = ((k + 1 : Nat) : Int) := by rw [wrap64_small (by omega) (by omega)]; rfl
              have hw3 : IntKind.i64.wrap (sup len ws f k + 1) = sup len ws f k + 1 := wrap64_small (by omega) (by omega)
              have e : sup len ws f (k + 1) = sup len ws f k + opensAt len ws (f + k) := rfl
              rw [if_pos (by omega), if_pos (by omega), Int.toNat_natCast, hx, hw1, hw2, hw3, hth]
              simp only [decide_eq_true_eq]
              have hset : sup len ws f k < leanTo len ws k f → ∀ j, j < b + 1 → (m6.set k (sup len ws f k))[j]? = some (if j < k + 1 then leanTo len ws j (f + 1) else leanTo len ws j f) := fun hlt' j hjb => by
                rw [List.getElem?_set]
                by_cases hkj : k = j
                · subst hkj
                  rw [if_pos rfl, if_pos (by omega), if_pos (by omega)]
                  simp only [leanTo]
                  rw [if_pos hlt']
                · rw [if_neg hkj, hj6 j hjb]
                  by_cases hjk : j < k
                  · rw [if_pos hjk, if_pos (by omega)]
                  · rw [if_neg hjk, if_neg (by omega)]
              have hkeep : ¬ sup len ws f k < leanTo len ws k f → ∀ j, j < b + 1 → m6[j]? = some (if j < k + 1 then leanTo len ws j (f + 1) else leanTo len ws j f) := fun hlt' j hjb => by
                rw [hj6 j hjb]
                by_cases hkj : k = j
                · subst hkj
                  rw [if_neg (by omega), if_pos (by omega)]
                  simp only [leanTo]
                  rw [if_neg hlt']
                · by_cases hjk : j < k
                  · rw [if_pos hjk, if_pos (by omega)]
                  · rw [if_neg hjk, if_neg (by omega)]
              by_cases hless : sup len ws f k < leanTo len ws k f
              · rw [if_pos hless]
                rcases opens_cases len ws (f + k) with ho | ⟨ho, hno⟩
                · rw [if_pos ho]
                  exact ⟨_, rfl, ⟨k + 1, by rw [e, ho], rfl, by omega, by simp [hl6], hset hless⟩, by simp only; omega⟩
                · rw [if_neg hno]
                  exact ⟨_, rfl, ⟨k + 1, by rw [e, ho, Int.add_zero], rfl, by omega, by simp [hl6], hset hless⟩, by simp only; omega⟩
              · rw [if_neg hless]
                rcases opens_cases len ws (f + k) with ho | ⟨ho, hno⟩
                · rw [if_pos ho]
                  exact ⟨_, rfl, ⟨k + 1, by rw [e, ho], rfl, by omega, hl6, hkeep hless⟩, by simp only; omega⟩
                · rw [if_neg hno]
                  exact ⟨_, rfl, ⟨k + 1, by rw [e, ho, Int.add_zero], rfl, by omega, hl6, hkeep hless⟩, by simp only; omega⟩
            · right
              obtain rfl : k = b + 1 := by omega
              rw [if_neg (by omega)]
              exact ⟨_, rfl, m6, rfl, hl6, fun j hjb => by rw [hj6 j hjb, if_pos hjb]⟩) K (0, 0, m) ⟨0, rfl, rfl, Nat.zero_le _, hl, fun j hjb => by rw [hj j hjb, if_neg (by omega)]⟩ (by simp only; omega)
        rw [hq]
        have hw : IntKind.i64.wrap ((f : Int) + 1) = ((f + 1 : Nat) : Int) := by rw [wrap64_small (by omega) (by omega)]; rfl
        exact ⟨_, rfl, ⟨f + 1, hw, by omega, hq1, hq2⟩, by simp only; rw [hw]; omega⟩
      · right
        rw [if_neg hlt]
        have : len.toNat = f := by omega
        exact ⟨_, rfl, m, rfl, hl, by rw [this]; exact hj⟩) K (0, m) ⟨0, rfl, by omega, hm1, fun j hj => hm2 j hj⟩ (by simp only; omega)
  rw [hr']
  exact ⟨m', rfl, by rw [hm2' b (by omega), lean_least h b]⟩
theorem WindowsSupply_law (x0 : Int) (l1 : List SWindow) (x2 x3 : Int) (ok0 : In64 x0) (ok1 : ∀ y ∈ l1, Ok.ok y) (ok2 : In64 x2) (ok3 : In64 x3) : ∃ K, WindowsSupply.f K x0 l1 x2 x3 = some true := by
  refine ⟨18446744073709551616, ?_⟩
  have ha : opens.f 18446744073709551616 = some true := by kernel_rfl
  unfold WindowsSupply.f
  simp only [ha, if_true]
  generalize hKd : 18446744073709551616 = K
  have hK : 20100 ≤ K := by omega
  clear hKd ha
  have hp0 : WindowsSupply.p0 x0 l1 x3 = some (.inr true) ∨ WindowsSupply.p0 x0 l1 x3 = some (.inl ()) ∧ few.f (l1.length : Int) = true := by
    unfold WindowsSupply.p0
    by_cases f0 : few.f (l1.length : Int) = true
    · rw [if_pos f0]
      repeat' split
      all_goals first | exact .inl rfl | exact .inr ⟨rfl, f0⟩
    · rw [if_neg f0]; exact .inl rfl
  rcases hp0 with hp0 | ⟨hp0, f0⟩
  · simp only [hp0]
  have g0 := few_true f0
  obtain ⟨r0, e0⟩ := punctualsame_Lend_api_Window_some l1 ⟨(-9), 0⟩ g0
  have hstill := punctualsame_Still_api_Window_true l1 ⟨(-9), 0⟩ K g0 (show 5010 ≤ K by omega)
  simp only [hp0, e0, CheckFrame_eq x0 l1 ok1 K (by omega)]
  by_cases hc : (frameFault x0 l1).Code = 0
  · obtain ⟨hfe, h⟩ := frameFault_ok hc
    have hp1 : WindowsSupply.p1 K x0 l1 x2 (frameFault x0 l1) = some (.inl ()) := by
      unfold WindowsSupply.p1
      rw [Frame_eq x0 l1 K (by omega)]
      simp only [SFault.eqb_self, if_true]
      by_cases h0 : x2 ≥ 0
      · obtain ⟨t, rfl⟩ := Int.eq_ofNat_of_zero_le h0
        rw [Open_eq2 hc t K (by omega)]
        simp only
        rw [if_pos hc, if_pos h0, There_eq h t K (by omega)]
        simp only [if_true]
      · have ho : modes_Open.f K x0 l1 x2 = some false := by
          unfold modes_Open.f modes_Open.p0
          rw [if_pos (by omega)]
        rw [ho]
        simp only
        rw [if_pos hc, if_neg h0, if_pos trivial]
    rw [hfe] at hp1
    simp only [hfe, hp1, WindowsSupply.p2]
    have hsup : modes_Supply.f K x0 l1 x2 x3 = some (if x2 < 0 ∨ x2 > 20000 ∨ x3 < 0 ∨ x3 > 20000 then (0, ⟨3, 0⟩) else (sup x0 l1 x2.toNat x3.toNat, ⟨0, 0⟩)) := by
      unfold modes_Supply.f
      rw [Frame_eq x0 l1 K (by omega)]
      simp only
      rw [if_pos hc]
      by_cases h1 : x2 < 0
      · rw [if_pos h1, if_pos (.inl h1)]
      rw [if_neg h1]
      by_cases h2 : x2 > 20000
      · rw [if_pos h2, if_pos (.inr (.inl h2))]
      rw [if_neg h2]
      by_cases h3 : x3 < 0
      · rw [if_pos h3, if_pos (.inr (.inr (.inl h3)))]
      rw [if_neg h3]
      by_cases h4 : x3 > 20000
      · rw [if_pos h4, if_pos (.inr (.inr (.inr h4)))]
      rw [if_neg h4, if_neg (by omega), supply_eq h ⟨by omega, by omega⟩ ⟨by omega, by omega⟩ K (by omega)]
      obtain ⟨a, rfl⟩ := Int.eq_ofNat_of_zero_le (show 0 ≤ x2 by omega)
      obtain ⟨b, rfl⟩ := Int.eq_ofNat_of_zero_le (show 0 ≤ x3 by omega)
      rw [supplyOf_eq h a b]
      rfl
    have hlst : modes_Least.f K x0 l1 x3 = some (if x3 < 0 ∨ x3 > 20000 then (0, ⟨3, 0⟩) else (leastTo x0 l1 x3 l1.length, ⟨0, 0⟩)) := by
      unfold modes_Least.f
      rw [Frame_eq x0 l1 K (by omega)]
      simp only
      rw [if_pos hc]
      by_cases h3 : x3 < 0
      · rw [if_pos h3, if_pos (.inl h3)]
      rw [if_neg h3]
      by_cases h4 : x3 > 20000
      · rw [if_pos h4, if_pos (.inr h4)]
      rw [if_neg h4, if_neg (by omega), least_eq h ⟨by omega, by omega⟩ K (by omega)]
    rw [hsup, hlst]
    simp only
    have hp4 : WindowsSupply.p4 K x0 l1 x2 x3 0 0 0 = some (.inl ((if x2 < 0 ∨ x2 > 20000 ∨ x3 < 0 ∨ x3 > 20000 then (0, ⟨3, 0⟩) else (sup x0 l1 x2.toNat x3.toNat, ⟨0, 0⟩) : Int × SFault).1, (if x2 < 0 ∨ x2 > 20000 ∨ x3 < 0 ∨ x3 > 20000 then (0, ⟨3, 0⟩) else (sup x0 l1 x2.toNat x3.toNat, ⟨0, 0⟩) : Int × SFault).2.Code, (if x2 < 0 ∨ x2 > 20000 ∨ x3 < 0 ∨ x3 > 20000 then (0, ⟨3, 0⟩) else (sup x0 l1 x2.toNat x3.toNat, ⟨0, 0⟩) : Int × SFault).2.At)) := by
      unfold WindowsSupply.p4
      by_cases h1 : x2 < 0
      · rw [if_pos h1, if_pos (.inl h1)]; rfl
      rw [if_neg h1]
      by_cases h2 : x2 > 20000
      · rw [if_pos h2, if_pos (.inr (.inl h2))]; rfl
      rw [if_neg h2]
      by_cases h3 : x3 < 0
      · rw [if_pos h3, if_pos (.inr (.inr (.inl h3)))]; rfl
      rw [if_neg h3]
      by_cases h4 : x3 > 20000
      · rw [if_pos h4, if_pos (.inr (.inr (.inr h4)))]; rfl
      rw [if_neg h4, if_neg (by omega)]
      obtain ⟨a, rfl⟩ := Int.eq_ofNat_of_zero_le (show 0 ≤ x2 by omega)
      obtain ⟨b, rfl⟩ := Int.eq_ofNat_of_zero_le (show 0 ≤ x3 by omega)
      rw [SupplyOf_eq h a b (by omega) (by omega) K (by omega)]
      rfl
    have hp3 : WindowsSupply.p3 K x0 l1 x2 x3 ⟨0, 0⟩ 0 0 0 0 0 0 = some (.inl ((if x2 < 0 ∨ x2 > 20000 ∨ x3 < 0 ∨ x3 > 20000 then (0, ⟨3, 0⟩) else (sup x0 l1 x2.toNat x3.toNat, ⟨0, 0⟩) : Int × SFault).1, (if x3 < 0 ∨ x3 > 20000 then (0, ⟨3, 0⟩) else (leastTo x0 l1 x3 l1.length, ⟨0, 0⟩) : Int × SFault).1, (if x3 < 0 ∨ x3 > 20000 then (0, ⟨3, 0⟩) else (leastTo x0 l1 x3 l1.length, ⟨0, 0⟩) : Int × SFault).2.Code, (if x3 < 0 ∨ x3 > 20000 then (0, ⟨3, 0⟩) else (leastTo x0 l1 x3 l1.length, ⟨0, 0⟩) : Int × SFault).2.At, (if x2 < 0 ∨ x2 > 20000 ∨ x3 < 0 ∨ x3 > 20000 then (0, ⟨3, 0⟩) else (sup x0 l1 x2.toNat x3.toNat, ⟨0, 0⟩) : Int × SFault).2.Code, (if x2 < 0 ∨ x2 > 20000 ∨ x3 < 0 ∨ x3 > 20000 then (0, ⟨3, 0⟩) else (sup x0 l1 x2.toNat x3.toNat, ⟨0, 0⟩) : Int × SFault).2.At)) := by
      unfold WindowsSupply.p3
      simp only [if_true]
      rw [hp4]
      simp only
      by_cases h3 : x3 < 0
      · rw [if_pos h3, if_pos (show x3 < 0 ∨ x3 > 20000 from .inl h3)]; rfl
      rw [if_neg h3]
      by_cases h4 : x3 > 20000
      · rw [if_pos h4, if_pos (show x3 < 0 ∨ x3 > 20000 from .inr h4)]; rfl
      rw [if_neg h4, if_neg (show ¬ (x3 < 0 ∨ x3 > 20000) by omega)]
      obtain ⟨b, rfl⟩ := Int.eq_ofNat_of_zero_le (show 0 ≤ x3 by omega)
      obtain ⟨l, hl, hlb⟩ := Lean_eq h b (by omega) K (by omega)
      rw [hl]
      simp only
      rw [if_pos (by omega), Int.toNat_natCast, hlb]
    rw [hp3]
    simp only [if_true]
    generalize (if x2 < 0 ∨ x2 > 20000 ∨ x3 < 0 ∨ x3 > 20000 then (0, ⟨3, 0⟩) else (sup x0 l1 x2.toNat x3.toNat, ⟨0, 0⟩) : Int × SFault) = A
    generalize (if x3 < 0 ∨ x3 > 20000 then (0, ⟨3, 0⟩) else (leastTo x0 l1 x3 l1.length, ⟨0, 0⟩) : Int × SFault) = B
    have eA : SFault.eqb A.2 ⟨A.2.Code, A.2.At⟩ = true := SFault.eqb_self _
    have eB : SFault.eqb B.2 ⟨B.2.Code, B.2.At⟩ = true := SFault.eqb_self _
    simp only [eA, eB, if_true, hstill]
  · have hp1 : WindowsSupply.p1 K x0 l1 x2 (frameFault x0 l1) = some (.inl ()) := by
      unfold WindowsSupply.p1
      rw [Frame_eq x0 l1 K (by omega)]
      simp only [SFault.eqb_self, if_true]
      have ho : modes_Open.f K x0 l1 x2 = some false := by
        unfold modes_Open.f modes_Open.p0
        by_cases h0 : x2 < 0
        · rw [if_pos h0]
        · rw [if_neg h0, Frame_eq x0 l1 K (by omega)]
          simp only
          rw [if_neg hc]
      rw [ho]
      simp only
      rw [if_neg hc, if_pos trivial]
    have hsup : modes_Supply.f K x0 l1 x2 x3 = some (0, frameFault x0 l1) := by
      unfold modes_Supply.f
      rw [Frame_eq x0 l1 K (by omega)]
      simp only
      rw [if_neg hc]
    have hlst : modes_Least.f K x0 l1 x3 = some (0, frameFault x0 l1) := by
      unfold modes_Least.f
      rw [Frame_eq x0 l1 K (by omega)]
      simp only
      rw [if_neg hc]
    have hp3 : WindowsSupply.p3 K x0 l1 x2 x3 (frameFault x0 l1) 0 0 (frameFault x0 l1).Code (frameFault x0 l1).At (frameFault x0 l1).Code (frameFault x0 l1).At = some (.inl (0, 0, (frameFault x0 l1).Code, (frameFault x0 l1).At, (frameFault x0 l1).Code, (frameFault x0 l1).At)) := by
      unfold WindowsSupply.p3
      rw [if_neg hc]
    have eA : SFault.eqb (frameFault x0 l1) ⟨(frameFault x0 l1).Code, (frameFault x0 l1).At⟩ = true := SFault.eqb_self _
    simp only [hp1, WindowsSupply.p2, hsup, hlst, hp3, if_true, eA, hstill]

end Go.Proofs.YtlcndfafkegjgaaDoor.GV
