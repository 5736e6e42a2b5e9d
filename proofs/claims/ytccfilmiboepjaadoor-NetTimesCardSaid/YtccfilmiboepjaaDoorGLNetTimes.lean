/- Plain words: GvLNetTimes. -/
import Derived.Test.YtccfilmiboepjaaDoorGWNetTimes4
import Derived.Test.YtccfilmiboepjaaDoorGv17
namespace Go.Proofs.YtccfilmiboepjaaDoor.GV
open Go Go.RowKit
set_option linter.unusedVariables false
set_option linter.unusedSimpArgs false
theorem SFault.eqb_self (x : SFault) : SFault.eqb x x = true := by simp [SFault.eqb]
theorem SFrame.eqb_self (x : SFrame) : SFrame.eqb x x = true := by simp [SFrame.eqb]
theorem SJob.eqb_self (x : SJob) : SJob.eqb x x = true := by simp [SJob.eqb]
theorem SCome.eqb_self (x : SCome) : SCome.eqb x x = true := by simp [SCome.eqb]
theorem punctualsame_Lend_api_Frame_some (l : List SFrame) (a : SFrame) (h : l.length ≤ 5000) : ∃ r, punctualsame_Lend_api_Frame.f l a = some r := by
  have hw : IntKind.i64.wrap ((l.length : Int) + 3) = (l.length : Int) + 3 := wrap64_small (by omega) (by omega)
  unfold punctualsame_Lend_api_Frame.f
  rw [hw, if_pos (by omega), if_pos (by omega), if_pos (by simp; omega), if_pos (by simp; omega)]
  exact ⟨_, rfl⟩
theorem punctualsame_Still_api_Frame_true (l : List SFrame) (a : SFrame) (K : Nat) (hl : l.length ≤ 5000) (hK : 5010 ≤ K) : punctualsame_Still_api_Frame.f K (l ++ [a, a, a]) l a = some true := by
  have hw : IntKind.i64.wrap ((l.length : Int) + 3) = (l.length : Int) + 3 := wrap64_small (by omega) (by omega)
  have hr := iter_first0 (f := punctualsame_Still_api_Frame.r0 (l ++ [a, a, a]) l a) (fun _ => none) (l.length + 3) (t := ()) (fun i hi => by
    have h' : (i : Int) < ((l ++ [a, a, a] : List SFrame).length : Int) := by simp; omega
    simp only [punctualsame_Still_api_Frame.r0, if_pos h']
    by_cases h2 : i < l.length
    · have h2' : (i : Int) < (l.length : Int) := by omega
      have h3 : ¬ (i : Int) ≥ (l.length : Int) := by omega
      rw [List.getElem?_append_left h2, List.getElem?_eq_getElem h2]
      simp only [if_pos h2', SFrame.eqb_self, if_true, if_neg h3, onward]
    · have h2' : ¬ (i : Int) < (l.length : Int) := by omega
      have h3 : (i : Int) ≥ (l.length : Int) := by omega
      rw [List.getElem?_append_right (by omega)]
      have : i - l.length = 0 ∨ i - l.length = 1 ∨ i - l.length = 2 := by omega
      rcases this with e | e | e <;> simp [e, h2', h3, onward, SFrame.eqb_self]) (by
    have h' : ¬ ((l.length + 3 : Nat) : Int) < ((l ++ [a, a, a] : List SFrame).length : Int) := by simp
    simp only [punctualsame_Still_api_Frame.r0, if_neg h']) (K := K) (by omega)
  rw [firstOf_none_of (fun _ _ _ => rfl)] at hr
  have hlen : IntKind.i64.wrap ((l.length : Int) + 3) = ((l ++ [a, a, a] : List SFrame).length : Int) := by rw [hw]; simp
  simp only [punctualsame_Still_api_Frame.f, if_pos hlen, hr, leave]
theorem punctualsame_Same_int_self (l : List Int) (K : Nat) (hK : l.length < K) : punctualsame_Same_int.f K l l = some true := by
  have hr := iter_first0 (f := punctualsame_Same_int.r0 l l) (fun _ => none) l.length (t := ()) (fun i hi => by
    have h' : (i : Int) < (l.length : Int) := by omega
    simp only [punctualsame_Same_int.r0, if_pos h', List.getElem?_eq_getElem hi, if_true, onward]) (by
    have h' : ¬ (l.length : Int) < (l.length : Int) := by omega
    simp only [punctualsame_Same_int.r0, if_neg h']) hK
  rw [firstOf_none_of (fun _ _ _ => rfl)] at hr
  simp only [punctualsame_Same_int.f, if_true, hr, leave]
theorem few_true {n : Nat} (h : few.f (n : Int) = true) : n ≤ 5000 := by
  simp only [few.f, decide_eq_true_eq] at h; omega
theorem few_false {n : Nat} (h : ¬ few.f (n : Int) = true) : 5000 < n := by
  simp only [few.f, decide_eq_true_eq] at h; omega
theorem exists_bound {α : Type} (f : α → Nat) : ∀ l : List α, ∃ B, ∀ x ∈ l, f x ≤ B
  | [] => ⟨0, by simp⟩
  | x :: l => by
    obtain ⟨B, h⟩ := exists_bound f l
    refine ⟨max (f x) B, fun y hy => ?_⟩
    rcases List.mem_cons.1 hy with rfl | hy
    · exact Nat.le_max_left _ _
    · exact Nat.le_trans (h y hy) (Nat.le_max_right _ _)
/-- a letter stands there -/
def letterAt (x : ByteArray) (i : Nat) : Bool := match x[i]? with | some b => decide (97 ≤ b.toNat) && decide (b.toNat ≤ 122) | none => false
def allL (x : ByteArray) (n : Nat) : Bool := (List.range n).all (letterAt x)
theorem allL_succ (x : ByteArray) (n : Nat) : allL x (n + 1) = (allL x n && letterAt x n) := by simp [allL, List.range_succ]
theorem allL_iff {x : ByteArray} {n : Nat} : allL x n = true ↔ ∀ i, i < n → letterAt x i = true := by simp [allL]
def Good (x : ByteArray) : Prop := 1 ≤ x.size ∧ x.size ≤ 10 ∧ allL x x.size = true
instance (x : ByteArray) : Decidable (Good x) := by unfold Good; infer_instance
theorem get!_of {x : ByteArray} {i : Nat} {b : UInt8} (h : x[i]? = some b) : x.get! i = b := by
  have hi : i < x.size := by
    rcases Nat.lt_or_ge i x.size with h' | h'
    · exact h'
    · rw [getElem?_neg x i (by omega)] at h; cases h
  rw [getElem?_pos x i hi] at h
  have := Option.some.inj h
  rw [← this]
  cases x with
  | mk bs => exact getElem!_pos bs i hi
theorem byte_some {x : ByteArray} {i : Nat} (h : i < x.size) : ∃ b, x[i]? = some b := ⟨x[i], getElem?_pos x i h⟩
theorem decode_letter {x : ByteArray} {i : Nat} (hi : i < x.size) (h : letterAt x i = true) : ∃ n : Nat, Utf8.decode x i = (n, 1) ∧ 97 ≤ n ∧ n ≤ 122 := by
  obtain ⟨b, hb⟩ := byte_some hi
  simp only [letterAt, hb, Bool.and_eq_true, decide_eq_true_eq] at h
  refine ⟨b.toNat, ?_, h⟩
  have := get!_of hb
  simp only [Utf8.decode, Nat.add_zero, this]
  rw [if_pos (by omega)]
theorem decode_other {x : ByteArray} {i : Nat} (hi : i < x.size) (h : letterAt x i = false) : (Utf8.decode x i).1 < 97 ∨ 122 < (Utf8.decode x i).1 := by
  obtain ⟨b, hb⟩ := byte_some hi
  simp only [letterAt, hb, Bool.and_eq_false_iff, decide_eq_false_iff_not] at h
  have := get!_of hb
  simp only [Utf8.decode, Nat.add_zero, this]
  have he : Utf8.runeError = 65533 := rfl
  repeat' split
  all_goals simp only [he, Bool.and_eq_true, decide_eq_true_eq, ge_iff_le] at *
  all_goals omega
theorem takedrop {α : Type} (l : List α) (i : Nat) : (l.take i).drop 0 = l.take i := by simp
theorem iter_succ {σ ρ : Type} (f : σ → Option (σ ⊕ ρ)) (K : Nat) (s : σ) : iter f (K + 1) s = match f s with | none => none | some (.inl s') => iter f K s' | some (.inr r) => some r := rfl
/-- a over b, rounded up -/
def ceilD (a b : Int) : Int := (a + b - 1) / b
theorem ceilD_mono {a a' b : Int} (hb : 1 ≤ b) (h : a ≤ a') : ceilD a b ≤ ceilD a' b := Int.ediv_le_ediv (by omega) (by omega)
theorem ceilD_nonneg {a b : Int} (hb : 1 ≤ b) (h : 0 ≤ a) : 0 ≤ ceilD a b := Int.ediv_nonneg (by omega) (by omega)
theorem ceilD_le {a b : Int} (hb : 1 ≤ b) (h : 0 ≤ a) : ceilD a b ≤ a := by
  unfold ceilD
  rw [← Int.lt_add_one_iff]
  apply Int.ediv_lt_of_lt_mul (by omega)
  have : a * 1 ≤ a * b := Int.mul_le_mul_of_nonneg_left hb h
  rw [Int.add_mul]
  omega
theorem up_eq {a b : Int} (ha : 0 ≤ a ∧ a ≤ 100000) (hb : 1 ≤ b ∧ b ≤ 100000) : punctualref_up.f a b = some (ceilD a b) := by
  unfold punctualref_up.f
  rw [if_neg (by omega), Int.tdiv_eq_ediv_of_nonneg (by omega)]
  have h0 : 0 ≤ a / b := Int.ediv_nonneg ha.1 (by omega)
  have h1 : a / b ≤ a := Int.ediv_le_self b ha.1
  have h2 : a / b * b ≤ a := Int.ediv_mul_le a (by omega)
  have h2' : 0 ≤ a / b * b := Int.mul_nonneg h0 (by omega)
  rw [wrap64_small (n := a / b) (by omega) (by omega), wrap64_small (n := a / b * b) (by omega) (by omega), wrap64_small (n := a / b + 1) (by omega) (by omega)]
  have hm := Int.emod_add_mul_ediv a b
  have hm1 : 0 ≤ a % b := Int.emod_nonneg a (by omega)
  have hm2 : a % b < b := Int.emod_lt_of_pos a (by omega)
  rw [Int.mul_comm] at hm
  unfold ceilD
  by_cases h : a / b * b < a
  · rw [if_pos h]
    congr 1
    symm
    have e : a + b - 1 = (a % b - 1) + b * (a / b + 1) := by rw [Int.mul_add, Int.mul_comm b]; omega
    rw [e, Int.add_mul_ediv_left _ _ (by omega), Int.ediv_eq_zero_of_lt (by omega) (by omega)]
    omega
  · rw [if_neg h]
    congr 1
    symm
    have e : a + b - 1 = (b - 1) + b * (a / b) := by rw [Int.mul_comm b]; omega
    rw [e, Int.add_mul_ediv_left _ _ (by omega), Int.ediv_eq_zero_of_lt (by omega) (by omega)]
    omega
/-- the least n, 1 at least, in which all is done that is wanted; 0: there is none up to most -/
def settled (f : Int → Int) (most : Int) : Int := match firstOf (fun n : Nat => if f n ≤ n then some (n : Int) else none) (most.toNat + 1) 1 with
  | some n => n
  | none => 0
theorem settled_some {f : Int → Int} {most : Int} {j : Nat} (h : firstOf (fun n : Nat => if f n ≤ n then some (n : Int) else none) (most.toNat + 1) 1 = some (j : Int)) : settled f most = j := by unfold settled; rw [h]
theorem settled_none {f : Int → Int} {most : Int} (h : firstOf (fun n : Nat => if f n ≤ n then some (n : Int) else none) (most.toNat + 1) 1 = none) : settled f most = 0 := by unfold settled; rw [h]
theorem settled_pos {f : Int → Int} {most : Int} (h : settled f most ≠ 0) : 1 ≤ settled f most ∧ settled f most ≤ most ∧ f (settled f most) ≤ settled f most ∧ ∀ n : Int, 1 ≤ n → n < settled f most → n < f n := by
  cases hf : firstOf (fun n : Nat => if f n ≤ n then some (n : Int) else none) (most.toNat + 1) 1 with
  | none => exact absurd (settled_none hf) h
  | some r =>
    obtain ⟨j, h1, h2, h3, h4⟩ := firstOf_some hf
    split at h3
    · cases h3
      rw [settled_some hf]
      refine ⟨by omega, by omega, by assumption, fun n hn1 hn2 => ?_⟩
      have := h4 n.toNat (by omega) (by omega)
      have e : ((n.toNat : Nat) : Int) = n := Int.toNat_of_nonneg (by omega)
      simp only [e] at this
      split at this
      · cases this
      · omega
    · cases h3
theorem settled_zero {f : Int → Int} {most : Int} (h : settled f most = 0) : ∀ n : Int, 1 ≤ n → n ≤ most → n < f n := by
  cases hf : firstOf (fun n : Nat => if f n ≤ n then some (n : Int) else none) (most.toNat + 1) 1 with
  | some r =>
    obtain ⟨j, h1, h2, h3, h4⟩ := firstOf_some hf
    split at h3
    · cases h3; rw [settled_some hf] at h; omega
    · cases h3
  | none =>
    intro n h1 h2
    have := firstOf_none hf n.toNat (by omega) (by omega)
    have e : ((n.toNat : Nat) : Int) = n := Int.toNat_of_nonneg (by omega)
    simp only [e] at this
    split at this
    · cases this
    · omega
theorem settled_eq {f : Int → Int} {most w : Int} (h1 : 1 ≤ w) (h2 : w ≤ most) (h3 : f w ≤ w) (h4 : ∀ n : Int, 1 ≤ n → n < w → n < f n) : settled f most = w := by
  by_cases h : settled f most = 0
  · have := settled_zero h w h1 h2; omega
  · obtain ⟨g1, g2, g3, g4⟩ := settled_pos h
    rcases Int.lt_trichotomy (settled f most) w with hl | hl | hl
    · have := h4 _ g1 hl; omega
    · exact hl
    · have := g4 _ h1 hl; omega
theorem settled_eq_zero {f : Int → Int} {most : Int} (h : ∀ n : Int, 1 ≤ n → n ≤ most → n < f n) : settled f most = 0 := by
  apply Decidable.byContradiction
  intro hne
  obtain ⟨g1, g2, g3, g4⟩ := settled_pos hne
  have := h _ g1 g2
  omega
theorem gmax_eq (x y : Int) : gmax x y = max x y := by unfold gmax; omega
theorem gmin_eq (x y : Int) : gmin x y = min x y := by unfold gmin; omega

/-- the least n, first at least and most at most, with f n at most n; below 0: there is none -/
noncomputable def grown (f : Int → Int) (first most : Int) : Int :=
  if settled (fun z => f (z + (first - 1)) - (first - 1)) (most - (first - 1)) = 0 then -1 else settled (fun z => f (z + (first - 1)) - (first - 1)) (most - (first - 1)) + (first - 1)
theorem grown_pos {f : Int → Int} {first most : Int} (h0 : 0 ≤ first) (h : 0 ≤ grown f first most) : first ≤ grown f first most ∧ grown f first most ≤ most ∧ f (grown f first most) ≤ grown f first most ∧ ∀ n : Int, first ≤ n → n < grown f first most → n < f n := by
  unfold grown at h ⊢
  by_cases hz : settled (fun z => f (z + (first - 1)) - (first - 1)) (most - (first - 1)) = 0
  · rw [if_pos hz] at h; omega
  · rw [if_neg hz]
    obtain ⟨h1, h2, h3, h4⟩ := settled_pos hz
    refine ⟨by omega, by omega, by omega, fun n hn1 hn2 => ?_⟩
    have := h4 (n - (first - 1)) (by omega) (by omega)
    rw [show n - (first - 1) + (first - 1) = n by omega] at this
    omega
theorem grown_eq {f : Int → Int} {first most w : Int} (h1 : first ≤ w) (h2 : w ≤ most) (h3 : f w ≤ w) (h4 : ∀ n : Int, first ≤ n → n < w → n < f n) : grown f first most = w := by
  have hs : settled (fun z => f (z + (first - 1)) - (first - 1)) (most - (first - 1)) = w - (first - 1) := settled_eq (by omega) (by omega) (by rw [show w - (first - 1) + (first - 1) = w by omega]; omega) (fun n hn1 hn2 => by
    have := h4 (n + (first - 1)) (by omega) (by omega)
    omega)
  unfold grown
  rw [hs, if_neg (by omega)]
  omega
theorem grown_none {f : Int → Int} {first most : Int} (h : ∀ n : Int, first ≤ n → n ≤ most → n < f n) : grown f first most = -1 := by
  have hs : settled (fun z => f (z + (first - 1)) - (first - 1)) (most - (first - 1)) = 0 := settled_eq_zero (fun n hn1 hn2 => by
    have := h (n + (first - 1)) (by omega) (by omega)
    omega)
  unfold grown
  rw [if_pos hs]
theorem grown_range {f : Int → Int} {first most : Int} (h0 : 0 ≤ first) : grown f first most = -1 ∨ (first ≤ grown f first most ∧ grown f first most ≤ most) := by
  by_cases h : 0 ≤ grown f first most
  · have := grown_pos h0 h; exact .inr ⟨this.1, this.2.1⟩
  · left
    unfold grown at h ⊢
    by_cases hz : settled (fun z => f (z + (first - 1)) - (first - 1)) (most - (first - 1)) = 0
    · rw [if_pos hz]
    · rw [if_neg hz] at h
      have := settled_pos hz
      omega
/-- one step towards it, by what is no more -/
def growStep (d : Int → Option Int) (most : Int) (z : Int) : Option (Int ⊕ (Unit ⊕ Int)) :=
  if z ≤ most then
    match d z with
    | none => none
    | some r => if r ≤ z then some (.inr (.inr z)) else some (.inl r)
  else some (.inr (.inl ()))
/-- .. by what is the same -/
def growStepE (d : Int → Option Int) (most : Int) (z : Int) : Option (Int ⊕ (Unit ⊕ Int)) :=
  if z ≤ most then
    match d z with
    | none => none
    | some r => if r = z then some (.inr (.inr z)) else some (.inl r)
  else some (.inr (.inl ()))
theorem grow_iter {d : Int → Option Int} {f : Int → Int} {most first : Int} (h1 : 0 ≤ first) (hd : ∀ z, first ≤ z → z ≤ most → d z = some (f z)) (hge : ∀ z, first ≤ z → first ≤ f z) (hm : ∀ z z', first ≤ z → z ≤ z' → f z ≤ f z') {K : Nat} (hK : most + 2 < K) (hK0 : 1 ≤ K) :
    iter (growStep d most) K first = some (if grown f first most < 0 then .inl () else .inr (grown f first most)) := by
  obtain ⟨r, hr, hR⟩ := iter_total (f := growStep d most) (fun w => first ≤ w ∧ ∀ n : Int, first ≤ n → n < w → n < f n) (fun w => (most + 1 - w).toNat)
    (fun r => r = if grown f first most < 0 then .inl () else .inr (grown f first most)) (fun w hI => by
      obtain ⟨h2, h3⟩ := hI
      by_cases hw : w ≤ most
      · simp only [growStep, if_pos hw, hd w h2 hw]
        by_cases hle : f w ≤ w
        · right
          refine ⟨_, by rw [if_pos hle], ?_⟩
          rw [grown_eq h2 hw hle h3, if_neg (by omega)]
        · left
          refine ⟨_, by rw [if_neg hle], ⟨by omega, fun n hn1 hn2 => ?_⟩, by omega⟩
          by_cases hnw : n < w
          · exact h3 n hn1 hnw
          · have := hm w n (by omega) (by omega)
            omega
      · right
        refine ⟨.inl (), by simp only [growStep, if_neg hw], ?_⟩
        rw [grown_none (fun n h1 h2 => h3 n h1 (by omega)), if_pos (by omega)]) K first ⟨Int.le_refl _, fun n hn1 hn2 => by omega⟩ (by omega)
  rw [hr, hR]
theorem grow_iterE {d : Int → Option Int} {f : Int → Int} {most first : Int} (h1 : 0 ≤ first) (hd : ∀ z, first ≤ z → z ≤ most → d z = some (f z)) (hge : ∀ z, first ≤ z → first ≤ f z) (hm : ∀ z z', first ≤ z → z ≤ z' → f z ≤ f z') {K : Nat} (hK : most + 2 < K) (hK0 : 1 ≤ K) :
    iter (growStepE d most) K first = some (if grown f first most < 0 then .inl () else .inr (grown f first most)) := by
  obtain ⟨r, hr, hR⟩ := iter_total (f := growStepE d most) (fun w => first ≤ w ∧ (∀ n : Int, first ≤ n → n < w → n < f n) ∧ w ≤ f w) (fun w => (most + 1 - w).toNat)
    (fun r => r = if grown f first most < 0 then .inl () else .inr (grown f first most)) (fun w hI => by
      obtain ⟨h2, h3, h4⟩ := hI
      by_cases hw : w ≤ most
      · simp only [growStepE, if_pos hw, hd w h2 hw]
        by_cases hle : f w = w
        · right
          refine ⟨_, by rw [if_pos hle], ?_⟩
          rw [grown_eq h2 hw (by omega) h3, if_neg (by omega)]
        · left
          refine ⟨_, by rw [if_neg hle], ⟨by omega, fun n hn1 hn2 => ?_, hm _ _ h2 h4⟩, by omega⟩
          by_cases hnw : n < w
          · exact h3 n hn1 hnw
          · have := hm w n (by omega) (by omega)
            omega
      · right
        refine ⟨.inl (), by simp only [growStepE, if_neg hw], ?_⟩
        rw [grown_none (fun n h1 h2 => h3 n h1 (by omega)), if_pos (by omega)]) K first ⟨Int.le_refl _, fun n hn1 hn2 => by omega, hge _ (Int.le_refl _)⟩ (by omega)
  rw [hr, hR]

/-- what a message of a bus is -/
structure Okf (m : SFrame) : Prop where
  C : 1 ≤ m.C ∧ m.C ≤ 10000
  T : 1 ≤ m.T ∧ m.T ≤ 10000
  D : 1 ≤ m.D ∧ m.D ≤ 10000
  J : 0 ≤ m.J ∧ m.J ≤ 10000
  JT : m.J ≤ m.T
instance (m : SFrame) : Decidable (Okf m) := decidable_of_iff ((1 ≤ m.C ∧ m.C ≤ 10000) ∧ (1 ≤ m.T ∧ m.T ≤ 10000) ∧ (1 ≤ m.D ∧ m.D ≤ 10000) ∧ (0 ≤ m.J ∧ m.J ≤ 10000) ∧ m.J ≤ m.T) ⟨fun h => ⟨h.1, h.2.1, h.2.2.1, h.2.2.2.1, h.2.2.2.2⟩, fun h => ⟨h.C, h.T, h.D, h.J, h.JT⟩⟩
/-- what is wrong with message i -/
def frameAt (l : List SFrame) (i : Nat) : Option SFault := match l[i]? with
  | none => none
  | some m => if (1 ≤ m.C ∧ m.C ≤ 10000) ∧ (1 ≤ m.T ∧ m.T ≤ 10000) ∧ (1 ≤ m.D ∧ m.D ≤ 10000) ∧ (0 ≤ m.J ∧ m.J ≤ 10000) then (if m.J > m.T then some ⟨12, i⟩ else none) else some ⟨3, i⟩
noncomputable def busFault (l : List SFrame) : SFault := if 1 ≤ l.length ∧ l.length ≤ 8 then (firstOf (frameAt l) l.length 0).getD ⟨0, 0⟩ else ⟨2, 0⟩
theorem netCheck_eq (l : List SFrame) (K : Nat) (hK : 20 ≤ K) : net_Check.f K l = some (busFault l) := by
  unfold net_Check.f net_Check.p0 busFault
  by_cases h1 : (l.length : Int) < 1
  · rw [if_pos h1, if_neg (by omega)]
  rw [if_neg h1]
  by_cases h2 : (l.length : Int) > 8
  · rw [if_pos h2, if_neg (by omega)]
  rw [if_neg h2, if_pos (by omega)]
  have hr := iter_first0 (f := net_Check.r1 l) (frameAt l) l.length (t := ()) (fun i hi => by
    have hi' : (i : Int) < (l.length : Int) := by omega
    simp only [net_Check.r1, if_pos hi', List.getElem?_eq_getElem hi, frameAt]
    by_cases hg : (1 ≤ l[i].C ∧ l[i].C ≤ 10000) ∧ (1 ≤ l[i].T ∧ l[i].T ≤ 10000) ∧ (1 ≤ l[i].D ∧ l[i].D ≤ 10000) ∧ (0 ≤ l[i].J ∧ l[i].J ≤ 10000)
    · have hp : net_Check.p2 i l[i] = some (.inl ()) := by
        unfold net_Check.p2
        rw [if_neg (by omega), if_neg (by omega), if_neg (by omega), if_neg (by omega), if_neg (by omega), if_neg (by omega), if_neg (by omega), if_neg (by omega)]
      rw [hp, if_pos hg]
      simp only
      split <;> rfl
    · have hp : net_Check.p2 i l[i] = some (.inr ⟨3, i⟩) := by
        unfold net_Check.p2
        repeat' split
        all_goals first | rfl | omega
      rw [hp, if_neg hg]
      rfl) (by simp [net_Check.r1]) (K := K) (by omega)
  rw [hr]
  cases firstOf (frameAt l) l.length 0 <;> rfl
theorem CheckBus_eq (l : List SFrame) (K : Nat) (hK : 20 ≤ K) : punctualref_CheckBus.f K l = some (busFault l) := by
  unfold punctualref_CheckBus.f punctualref_CheckBus.p0 busFault
  by_cases h1 : (l.length : Int) = 0
  · rw [if_pos h1, if_neg (by omega)]; rfl
  rw [if_neg h1]
  by_cases h2 : (l.length : Int) > 8
  · rw [if_pos h2, if_neg (by omega)]; rfl
  rw [if_neg h2, if_pos (by omega)]
  have hr := iter_first0 (f := punctualref_CheckBus.r1 l) (frameAt l) l.length (t := ()) (fun i hi => by
    have hi' : (i : Int) < (l.length : Int) := by omega
    simp only [punctualref_CheckBus.r1, if_pos hi', List.getElem?_eq_getElem hi, frameAt]
    by_cases hg : (1 ≤ l[i].C ∧ l[i].C ≤ 10000) ∧ (1 ≤ l[i].T ∧ l[i].T ≤ 10000) ∧ (1 ≤ l[i].D ∧ l[i].D ≤ 10000) ∧ (0 ≤ l[i].J ∧ l[i].J ≤ 10000)
    · have hp : punctualref_CheckBus.p2 i l[i] = some (.inl ()) := by
        unfold punctualref_CheckBus.p2
        rw [if_neg (by omega), if_neg (by omega), if_neg (by omega), if_neg (by omega), if_neg (by omega), if_neg (by omega), if_neg (by omega), if_neg (by omega)]
      rw [hp, if_pos hg]
      simp only
      split <;> rfl
    · have hp : punctualref_CheckBus.p2 i l[i] = some (.inr ⟨3, i⟩) := by
        unfold punctualref_CheckBus.p2
        repeat' split
        all_goals first | rfl | omega
      rw [hp, if_neg hg]
      rfl) (by simp [punctualref_CheckBus.r1]) (K := K) (by omega)
  rw [hr]
  cases firstOf (frameAt l) l.length 0 <;> rfl
theorem busFault_ok {l : List SFrame} (h : (busFault l).Code = 0) : busFault l = ⟨0, 0⟩ ∧ 1 ≤ l.length ∧ l.length ≤ 8 ∧ ∀ m ∈ l, Okf m := by
  unfold busFault at h ⊢
  split at h
  · rename_i hl
    rw [if_pos hl]
    cases hf : firstOf (frameAt l) l.length 0 with
    | some r =>
      rw [hf] at h
      obtain ⟨j, _, hj, hg, _⟩ := firstOf_some hf
      simp only [Option.getD_some] at h
      exfalso
      unfold frameAt at hg
      rw [List.getElem?_eq_getElem hj] at hg
      simp only at hg
      split at hg
      · split at hg
        · cases hg; exact absurd h (by simp)
        · cases hg
      · cases hg; exact absurd h (by simp)
    | none =>
      refine ⟨rfl, hl.1, hl.2, fun m hm => ?_⟩
      obtain ⟨i, hi, rfl⟩ := List.getElem_of_mem hm
      have hg := firstOf_none hf i (Nat.zero_le _) hi
      unfold frameAt at hg
      rw [List.getElem?_eq_getElem hi] at hg
      simp only at hg
      split at hg
      · rename_i hh
        split at hg
        · cases hg
        · exact ⟨hh.1, hh.2.1, hh.2.2.1, hh.2.2.2, by omega⟩
      · cases hg
  · contradiction
/-- how long one is held up by what comes behind it -/
def heldOf (l : List SFrame) (i : Nat) : Nat → Int
  | 0 => 0
  | n + 1 => match l[i + 1 + n]? with
    | some m => max (heldOf l i n) (m.C - 1)
    | none => heldOf l i n
theorem heldOf_bounds {l : List SFrame} (h : ∀ m ∈ l, Okf m) (i : Nat) : ∀ n, 0 ≤ heldOf l i n ∧ heldOf l i n ≤ 9999
  | 0 => by simp [heldOf]
  | n + 1 => by
    have ih := heldOf_bounds h i n
    simp only [heldOf]
    split
    · rename_i m hm
      have := (h m (List.mem_of_getElem? hm)).C
      omega
    · exact ih
noncomputable def heldBy (l : List SFrame) (i : Nat) : Int := heldOf l i (l.length - (i + 1))
theorem heldBy_bounds {l : List SFrame} (h : ∀ m ∈ l, Okf m) (i : Nat) : 0 ≤ heldBy l i ∧ heldBy l i ≤ 9999 := heldOf_bounds h i _
theorem held_eq (l : List SFrame) (h : ∀ m ∈ l, Okf m) (hl : l.length ≤ 8) (i : Nat) (hi : i < l.length) (K : Nat) (hK : 10 ≤ K) : net_held.f K l (i : Int) = some (heldBy l i) := by
  unfold net_held.f
  have e1 : (IntKind.i64.wrap ((i : Int) + 1)).toNat = i + 1 := by rw [wrap64_small (by omega) (by omega)]; omega
  rw [if_pos (by rw [wrap64_small (by omega) (by omega)]; omega), e1, if_pos (by omega)]
  have hlen : ((l.take l.length).drop (i + 1)).length = l.length - (i + 1) := by simp
  have hr := iter_states (ρ := Int) (f := net_held.r0 l (i : Int)) (fun k => (heldOf l i k, k)) (fun _ => none) (l.length - (i + 1)) (t := heldBy l i) (fun k hk _ => by
    have hk' : (k : Int) < (((l.take l.length).drop (i + 1)).length : Int) := by rw [hlen]; omega
    have hkx : ((l.take l.length).drop (i + 1))[k]? = some l[i + 1 + k] := by rw [List.getElem?_drop, List.take_length]; exact List.getElem?_eq_getElem (by omega)
    have hC := (h l[i + 1 + k] (List.getElem_mem (by omega))).C
    simp only [net_held.r0, e1, if_pos hk', hkx, onwardS, heldOf, List.getElem?_eq_getElem (show i + 1 + k < l.length by omega), gmax_eq]
    rw [wrap64_small (by omega) (by omega)]) (fun _ => by simp only [net_held.r0, e1]; rw [if_neg (by rw [hlen]; omega)]; rfl) (K := K) (by omega)
  rw [show ((0 : Int), (0 : Nat)) = (heldOf l i 0, 0) from rfl, hr, firstOf_none_of (fun _ _ _ => rfl)]
  rfl
theorem refHeld_eq (l : List SFrame) (h : ∀ m ∈ l, Okf m) (hl : l.length ≤ 8) (i : Nat) (hi : i < l.length) (K : Nat) (hK : 10 ≤ K) : iter (punctualref_BusTimes.r1 l) K (((i + 1 : Nat) : Int), 0) = some (.inl (heldBy l i)) := by
  have hr := iter_states (ρ := (List Int) × SFault) (f := punctualref_BusTimes.r1 l) (fun k => (((i + 1 + k : Nat) : Int), heldOf l i k)) (fun _ => none) (l.length - (i + 1)) (t := heldBy l i) (fun k hk _ => by
    have hk' : ((i + 1 + k : Nat) : Int) < (l.length : Int) := by omega
    have hC := (h l[i + 1 + k] (List.getElem_mem (by omega))).C
    simp only [punctualref_BusTimes.r1, if_pos hk', if_pos (show (0 : Int) ≤ ((i + 1 + k : Nat) : Int) by omega), Int.toNat_natCast, onwardS, heldOf, List.getElem?_eq_getElem (show i + 1 + k < l.length by omega)]
    rw [wrap64_small (n := l[i + 1 + k].C - 1) (by omega) (by omega), wrap64_small (n := ((i + 1 + k : Nat) : Int) + 1) (by omega) (by omega), show ((i + 1 + k : Nat) : Int) + 1 = ((i + 1 + (k + 1) : Nat) : Int) by omega]
    by_cases hm : l[i + 1 + k].C - 1 > heldOf l i k
    · rw [if_pos hm, show max (heldOf l i k) (l[i + 1 + k].C - 1) = l[i + 1 + k].C - 1 by omega]
    · rw [if_neg hm, show max (heldOf l i k) (l[i + 1 + k].C - 1) = heldOf l i k by omega]) (fun _ => by simp only [punctualref_BusTimes.r1]; rw [if_neg (by omega)]; rfl) (K := K) (by omega)
  have h0 := hr
  simp only [Nat.add_zero] at h0
  rw [show heldOf l i 0 = 0 from rfl] at h0
  rw [h0, firstOf_none_of (fun _ _ _ => rfl)]
  rfl
theorem netCeil_eq {a b : Int} (ha : 0 ≤ a ∧ a ≤ 1000000) (hb : 1 ≤ b ∧ b ≤ 100000) : net_ceil.f a b = some (ceilD a b) := by
  unfold net_ceil.f
  rw [if_neg (by omega), wrap64_small (n := a + b) (by omega) (by omega), wrap64_small (n := a + b - 1) (by omega) (by omega), Int.tdiv_eq_ediv_of_nonneg (by omega)]
  have h1 := ceilD_nonneg hb.1 ha.1
  have h2 := ceilD_le hb.1 ha.1
  show some (IntKind.i64.wrap (ceilD a b)) = _
  rw [wrap64_small (by omega) (by omega)]
theorem netUp_eq {a b : Int} (ha : 0 ≤ a ∧ a ≤ 1000000) (hb : 1 ≤ b ∧ b ≤ 100000) : punctualref_up.f a b = some (ceilD a b) := by
  unfold punctualref_up.f
  rw [if_neg (by omega), Int.tdiv_eq_ediv_of_nonneg (by omega)]
  have h0 : 0 ≤ a / b := Int.ediv_nonneg ha.1 (by omega)
  have h1 : a / b ≤ a := Int.ediv_le_self b ha.1
  have h2 : a / b * b ≤ a := Int.ediv_mul_le a (by omega)
  have h2' : 0 ≤ a / b * b := Int.mul_nonneg h0 (by omega)
  rw [wrap64_small (n := a / b) (by omega) (by omega), wrap64_small (n := a / b * b) (by omega) (by omega), wrap64_small (n := a / b + 1) (by omega) (by omega)]
  have hm := Int.emod_add_mul_ediv a b
  have hm1 : 0 ≤ a % b := Int.emod_nonneg a (by omega)
  have hm2 : a % b < b := Int.emod_lt_of_pos a (by omega)
  rw [Int.mul_comm] at hm
  unfold ceilD
  by_cases h : a / b * b < a
  · rw [if_pos h]
    congr 1
    symm
    have e : a + b - 1 = (a % b - 1) + b * (a / b + 1) := by rw [Int.mul_add, Int.mul_comm b]; omega
    rw [e, Int.add_mul_ediv_left _ _ (by omega), Int.ediv_eq_zero_of_lt (by omega) (by omega)]
    omega
  · rw [if_neg h]
    congr 1
    symm
    have e : a + b - 1 = (b - 1) + b * (a / b) := by rw [Int.mul_comm b]; omega
    rw [e, Int.add_mul_ediv_left _ _ (by omega), Int.ediv_eq_zero_of_lt (by omega) (by omega)]
    omega
/-- what the first n of them want of the bus in so long a time -/
def busSum (l : List SFrame) (w : Int) : Nat → Int
  | 0 => 0
  | n + 1 => match l[n]? with
    | some o => busSum l w n + ceilD (w + o.J) o.T * o.C
    | none => busSum l w n
/-- .. till that time, and at it -/
def busSum1 (l : List SFrame) (w : Int) : Nat → Int
  | 0 => 0
  | n + 1 => match l[n]? with
    | some o => busSum1 l w n + ((w + o.J) / o.T + 1) * o.C
    | none => busSum1 l w n
theorem busTerm_bounds {o : SFrame} (h : Okf o) {w : Int} (hw : 0 ≤ w ∧ w ≤ 100000) : (0 ≤ ceilD (w + o.J) o.T ∧ ceilD (w + o.J) o.T ≤ 110000) ∧ (0 ≤ ceilD (w + o.J) o.T * o.C ∧ ceilD (w + o.J) o.T * o.C ≤ 1100000000) ∧ (0 ≤ (w + o.J) / o.T ∧ (w + o.J) / o.T ≤ 110000) ∧ (0 ≤ ((w + o.J) / o.T + 1) * o.C ∧ ((w + o.J) / o.T + 1) * o.C ≤ 1100010000) := by
  have hC := h.C; have hT := h.T; have hJ := h.J
  have h1 := ceilD_nonneg hT.1 (show 0 ≤ w + o.J by omega)
  have h2 := ceilD_le hT.1 (show 0 ≤ w + o.J by omega)
  have h3 : 0 ≤ (w + o.J) / o.T := Int.ediv_nonneg (by omega) (by omega)
  have h4 : (w + o.J) / o.T ≤ w + o.J := Int.ediv_le_self _ (by omega)
  refine ⟨⟨h1, by omega⟩, ⟨Int.mul_nonneg h1 (by omega), ?_⟩, ⟨h3, by omega⟩, Int.mul_nonneg (by omega) (by omega), ?_⟩
  · calc ceilD (w + o.J) o.T * o.C ≤ 110000 * o.C := Int.mul_le_mul_of_nonneg_right (by omega) (by omega)
      _ ≤ 110000 * 10000 := Int.mul_le_mul_of_nonneg_left (by omega) (by omega)
      _ = 1100000000 := by decide
  · calc ((w + o.J) / o.T + 1) * o.C ≤ 110001 * o.C := Int.mul_le_mul_of_nonneg_right (by omega) (by omega)
      _ ≤ 110001 * 10000 := Int.mul_le_mul_of_nonneg_left (by omega) (by omega)
      _ = 1100010000 := by decide
theorem busSum_bounds {l : List SFrame} (h : ∀ m ∈ l, Okf m) {w : Int} (hw : 0 ≤ w ∧ w ≤ 100000) : ∀ n : Nat, (0 ≤ busSum l w n ∧ busSum l w n ≤ 1100000000 * (n : Int)) ∧ (0 ≤ busSum1 l w n ∧ busSum1 l w n ≤ 1100010000 * (n : Int))
  | 0 => by simp [busSum, busSum1]
  | n + 1 => by
    obtain ⟨h1, h2⟩ := busSum_bounds h hw n
    simp only [busSum, busSum1]
    cases hn : l[n]? with
    | none => simp only; omega
    | some o =>
      have := busTerm_bounds (h o (List.mem_of_getElem? hn)) hw
      simp only
      omega
theorem busSum_mono {l : List SFrame} (h : ∀ m ∈ l, Okf m) {w w' : Int} (hw : w ≤ w') : ∀ n, busSum l w n ≤ busSum l w' n ∧ busSum1 l w n ≤ busSum1 l w' n
  | 0 => by simp [busSum, busSum1]
  | n + 1 => by
    obtain ⟨h1, h2⟩ := busSum_mono h hw n
    simp only [busSum, busSum1]
    cases hn : l[n]? with
    | none => exact ⟨h1, h2⟩
    | some o =>
      have ho := h o (List.mem_of_getElem? hn)
      have hC := ho.C
      have h3 : ceilD (w + o.J) o.T * o.C ≤ ceilD (w' + o.J) o.T * o.C := Int.mul_le_mul_of_nonneg_right (ceilD_mono ho.T.1 (by omega)) (by omega)
      have h5 : (w + o.J) / o.T ≤ (w' + o.J) / o.T := Int.ediv_le_ediv (by have := ho.T; omega) (by omega)
      have h4 : ((w + o.J) / o.T + 1) * o.C ≤ ((w' + o.J) / o.T + 1) * o.C := Int.mul_le_mul_of_nonneg_right (by omega) (by omega)
      simp only
      omega
theorem busy_eq (l : List SFrame) (h : ∀ m ∈ l, Okf m) (hl : l.length ≤ 8) (i : Nat) (hi : i < l.length) (b w : Int) (hb : 0 ≤ b ∧ b ≤ 9999) (hw : 0 ≤ w ∧ w ≤ 100000) (K : Nat) (hK : 10 ≤ K) : net_time_1.f K w b l (i : Int) = some (b + busSum l w (i + 1)) := by
  unfold net_time_1.f
  have e1 : (IntKind.i64.wrap ((i : Int) + 1)).toNat = i + 1 := by rw [wrap64_small (by omega) (by omega)]; omega
  rw [if_pos (by rw [wrap64_small (by omega) (by omega)]; omega), e1, if_pos (by omega)]
  have hlen : ((l.take (i + 1)).drop 0).length = i + 1 := by simp; omega
  have hr := iter_states (ρ := Int) (f := net_time_1.r0 w l (i : Int)) (fun k => (b + busSum l w k, k)) (fun _ => none) (i + 1) (t := b + busSum l w (i + 1)) (fun k hk _ => by
    have hk' : (k : Int) < (((l.take (i + 1)).drop 0).length : Int) := by rw [hlen]; omega
    have hkx : ((l.take (i + 1)).drop 0)[k]? = some l[k] := by rw [List.drop_zero, List.getElem?_take_of_lt hk]; exact List.getElem?_eq_getElem (by omega)
    have ho := h l[k] (List.getElem_mem (by omega))
    have hC := ho.C; have hT := ho.T; have hJ := ho.J
    have ht := busTerm_bounds ho hw
    have hs := (busSum_bounds h hw k).1
    simp only [net_time_1.r0, e1, if_pos hk', hkx, onwardS, busSum, List.getElem?_eq_getElem (show k < l.length by omega)]
    rw [wrap64_small (n := w + l[k].J) (by omega) (by omega), netCeil_eq ⟨by omega, by omega⟩ ⟨by omega, by omega⟩]
    simp only
    rw [wrap64_small (n := ceilD (w + l[k].J) l[k].T * l[k].C) (by omega) (by omega), wrap64_small (by omega) (by omega)]
    congr 3
    omega) (fun _ => by simp only [net_time_1.r0, e1]; rw [if_neg (by rw [hlen]; omega)]) (K := K) (by omega)
  have h0 : b + busSum l w 0 = b := by simp [busSum]
  rw [h0] at hr
  rw [hr, firstOf_none_of (fun _ _ _ => rfl)]
  rfl
theorem refBusy_eq (l : List SFrame) (h : ∀ m ∈ l, Okf m) (hl : l.length ≤ 8) (i : Nat) (hi : i < l.length) (b w : Int) (hb : 0 ≤ b ∧ b ≤ 9999) (hw : 0 ≤ w ∧ w ≤ 100000) (K : Nat) (hK : 10 ≤ K) : punctualref_BusTimes_1.f K w b (i : Int) l = some (b + busSum l w (i + 1)) := by
  unfold punctualref_BusTimes_1.f
  have hr := iter_states (ρ := Int) (f := punctualref_BusTimes_1.r0 w (i : Int) l) (fun k => (b + busSum l w k, (k : Int))) (fun _ => none) (i + 1) (t := b + busSum l w (i + 1)) (fun k hk _ => by
    have hk' : (k : Int) ≤ (i : Int) := by omega
    have ho := h l[k] (List.getElem_mem (by omega))
    have hC := ho.C; have hT := ho.T; have hJ := ho.J
    have ht := busTerm_bounds ho hw
    have hs := (busSum_bounds h hw k).1
    simp only [punctualref_BusTimes_1.r0, if_pos hk', if_pos (show (0 : Int) ≤ (k : Int) by omega), Int.toNat_natCast, onwardS, busSum, List.getElem?_eq_getElem (show k < l.length by omega)]
    rw [wrap64_small (n := w + l[k].J) (by omega) (by omega), netUp_eq ⟨by omega, by omega⟩ ⟨by omega, by omega⟩]
    simp only
    rw [wrap64_small (n := ceilD (w + l[k].J) l[k].T * l[k].C) (by omega) (by omega), wrap64_small (by omega) (by omega), wrap64_small (n := (k : Int) + 1) (by omega) (by omega)]
    congr 3
    omega) (fun _ => by simp only [punctualref_BusTimes_1.r0]; rw [if_neg (by omega)]) (K := K) (by omega)
  have h0 : b + busSum l w 0 = b := by simp [busSum]
  rw [h0] at hr
  simp only [Int.ofNat_zero, Int.natCast_zero] at hr
  rw [hr, firstOf_none_of (fun _ _ _ => rfl)]
  rfl
/-- what of message m a number is worth on the bus -/
theorem many_bounds {m : SFrame} (h : Okf m) {q : Int} (hq : 0 ≤ q ∧ q ≤ 110000) : 0 ≤ q * m.C ∧ q * m.C ≤ 1100000000 := by
  have hC := h.C
  refine ⟨Int.mul_nonneg hq.1 (by omega), ?_⟩
  calc q * m.C ≤ 110000 * m.C := Int.mul_le_mul_of_nonneg_right (by omega) (by omega)
    _ ≤ 110000 * 10000 := Int.mul_le_mul_of_nonneg_left (by omega) (by omega)
    _ = 1100000000 := by decide
theorem many_boundsT {m : SFrame} (h : Okf m) {q : Int} (hq : 0 ≤ q ∧ q ≤ 110000) : 0 ≤ q * m.T ∧ q * m.T ≤ 1100000000 := by
  have hC := h.T
  refine ⟨Int.mul_nonneg hq.1 (by omega), ?_⟩
  calc q * m.T ≤ 110000 * m.T := Int.mul_le_mul_of_nonneg_right (by omega) (by omega)
    _ ≤ 110000 * 10000 := Int.mul_le_mul_of_nonneg_left (by omega) (by omega)
    _ = 1100000000 := by decide
theorem queue_eq (l : List SFrame) (h : ∀ m ∈ l, Okf m) (hl : l.length ≤ 8) (i : Nat) (hi : i < l.length) (m : SFrame) (hm : Okf m) (b q w : Int) (hb : 0 ≤ b ∧ b ≤ 9999) (hq : 0 ≤ q ∧ q ≤ 110000) (hw : 0 ≤ w ∧ w ≤ 100000) (K : Nat) (hK : 10 ≤ K) : net_time_2.f K w b q m l (i : Int) = some (b + q * m.C + busSum1 l w i) := by
  unfold net_time_2.f
  have hqb := many_bounds hm hq
  rw [if_pos (by omega), Int.toNat_natCast, if_pos (by omega), wrap64_small (n := q * m.C) (by omega) (by omega), wrap64_small (by omega) (by omega)]
  have hlen : ((l.take i).drop 0).length = i := by simp; omega
  have hr := iter_states (ρ := Int) (f := net_time_2.r0 w l (i : Int)) (fun k => (b + q * m.C + busSum1 l w k, k)) (fun _ => none) i (t := b + q * m.C + busSum1 l w i) (fun k hk _ => by
    have hk' : (k : Int) < (((l.take i).drop 0).length : Int) := by rw [hlen]; omega
    have hkx : ((l.take i).drop 0)[k]? = some l[k] := by rw [List.drop_zero, List.getElem?_take_of_lt hk]; exact List.getElem?_eq_getElem (by omega)
    have ho := h l[k] (List.getElem_mem (by omega))
    have hC := ho.C; have hT := ho.T; have hJ := ho.J
    have ht := busTerm_bounds ho hw
    have hs := (busSum_bounds h hw k).2
    simp only [net_time_2.r0, Int.toNat_natCast, if_pos hk', hkx, onwardS, busSum1, List.getElem?_eq_getElem (show k < l.length by omega)]
    rw [if_neg (by omega), wrap64_small (n := w + l[k].J) (by omega) (by omega), Int.tdiv_eq_ediv_of_nonneg (by omega), wrap64_small (n := (w + l[k].J) / l[k].T) (by omega) (by omega), wrap64_small (n := (w + l[k].J) / l[k].T + 1) (by omega) (by omega), wrap64_small (n := ((w + l[k].J) / l[k].T + 1) * l[k].C) (by omega) (by omega), wrap64_small (by omega) (by omega)]
    congr 3
    omega) (fun _ => by simp only [net_time_2.r0, Int.toNat_natCast]; rw [if_neg (by rw [hlen]; omega)]) (K := K) (by omega)
  have h0 : b + q * m.C + busSum1 l w 0 = b + q * m.C := by simp [busSum1]
  rw [h0] at hr
  rw [hr, firstOf_none_of (fun _ _ _ => rfl)]
  rfl
theorem refQueue_eq (l : List SFrame) (h : ∀ m ∈ l, Okf m) (hl : l.length ≤ 8) (i : Nat) (hi : i < l.length) (m : SFrame) (hm : Okf m) (b q w : Int) (hb : 0 ≤ b ∧ b ≤ 9999) (hq : 0 ≤ q ∧ q ≤ 110000) (hw : 0 ≤ w ∧ w ≤ 100000) (K : Nat) (hK : 10 ≤ K) : punctualref_BusTimes_2.f K w b q m (i : Int) l = some (b + q * m.C + busSum1 l w i) := by
  unfold punctualref_BusTimes_2.f
  have hqb := many_bounds hm hq
  rw [wrap64_small (n := q * m.C) (by omega) (by omega), wrap64_small (by omega) (by omega)]
  have hr := iter_states (ρ := Int) (f := punctualref_BusTimes_2.r0 w (i : Int) l) (fun k => (b + q * m.C + busSum1 l w k, (k : Int))) (fun _ => none) i (t := b + q * m.C + busSum1 l w i) (fun k hk _ => by
    have hk' : (k : Int) < (i : Int) := by omega
    have ho := h l[k] (List.getElem_mem (by omega))
    have hC := ho.C; have hT := ho.T; have hJ := ho.J
    have ht := busTerm_bounds ho hw
    have hs := (busSum_bounds h hw k).2
    simp only [punctualref_BusTimes_2.r0, if_pos hk', if_pos (show (0 : Int) ≤ (k : Int) by omega), Int.toNat_natCast, onwardS, busSum1, List.getElem?_eq_getElem (show k < l.length by omega)]
    rw [if_neg (by omega), wrap64_small (n := w + l[k].J) (by omega) (by omega), Int.tdiv_eq_ediv_of_nonneg (by omega), wrap64_small (n := (w + l[k].J) / l[k].T) (by omega) (by omega), wrap64_small (n := (w + l[k].J) / l[k].T + 1) (by omega) (by omega), wrap64_small (n := ((w + l[k].J) / l[k].T + 1) * l[k].C) (by omega) (by omega), wrap64_small (by omega) (by omega), wrap64_small (n := (k : Int) + 1) (by omega) (by omega)]
    congr 3
    omega) (fun _ => by simp only [punctualref_BusTimes_2.r0]; rw [if_neg (by omega)]) (K := K) (by omega)
  have h0 : b + q * m.C + busSum1 l w 0 = b + q * m.C := by simp [busSum1]
  rw [h0] at hr
  simp only [Int.natCast_zero] at hr
  rw [hr, firstOf_none_of (fun _ _ _ => rfl)]
  rfl
/-- how long the bus is not free, and when a message of the row begins -/
noncomputable def busyOf (l : List SFrame) (i : Nat) (m : SFrame) : Int := grown (fun w => heldBy l i + busSum l w (i + 1)) (heldBy l i + m.C) 100000
noncomputable def queueOf (l : List SFrame) (i : Nat) (m : SFrame) (q : Int) : Int := grown (fun w => heldBy l i + q * m.C + busSum1 l w i) (heldBy l i + q * m.C) 100000
theorem busSum_ge {l : List SFrame} (h : ∀ m ∈ l, Okf m) {i : Nat} {m : SFrame} (hm : l[i]? = some m) {w : Int} (hw : 1 ≤ w) : m.C ≤ busSum l w (i + 1) := by
  have ho := h m (List.mem_of_getElem? hm)
  have h1 := (busSum_mono h hw (i + 1)).1
  have h2 := (busSum_bounds h (w := 1) ⟨by omega, by omega⟩ i).1
  have hC := ho.C; have hT := ho.T; have hJ := ho.J
  have h3 : 1 ≤ ceilD (1 + m.J) m.T := by
    unfold ceilD
    rw [Int.le_ediv_iff_mul_le (by omega)]
    omega
  have h4 : 1 * m.C ≤ ceilD (1 + m.J) m.T * m.C := Int.mul_le_mul_of_nonneg_right h3 (by omega)
  simp only [busSum, hm] at h1 ⊢
  omega
theorem settleBusy_eq (l : List SFrame) (h : ∀ m ∈ l, Okf m) (hl : l.length ≤ 8) (i : Nat) (m : SFrame) (hm : l[i]? = some m) (K : Nat) (hK : 100100 ≤ K) : net_settle.f K (heldBy l i + m.C) 100000 (heldBy l i) l (i : Int) = some (busyOf l i m) := by
  have hi := lt_of_get hm
  have hb := heldBy_bounds h i
  have hC := (h m (List.mem_of_getElem? hm)).C
  have hit := grow_iter (d := fun z => net_time_1.f K z (heldBy l i) l (i : Int)) (f := fun w => heldBy l i + busSum l w (i + 1)) (first := heldBy l i + m.C) (most := 100000) (by omega) (fun z h1 h2 => busy_eq l h hl i hi _ z hb ⟨by omega, by omega⟩ K (by omega))
    (fun z h1 => by have := busSum_ge h hm (w := z) (by omega); omega) (fun z z' _ h2 => by have := (busSum_mono h h2 (i + 1)).1; omega) (K := K) (by omega) (by omega)
  unfold net_settle.f
  have e : net_settle.r0 K 100000 (heldBy l i) l (i : Int) = growStep (fun z => net_time_1.f K z (heldBy l i) l (i : Int)) 100000 := rfl
  rw [e, hit]
  show _ = some (grown _ _ _)
  rcases grown_range (f := fun w => heldBy l i + busSum l w (i + 1)) (most := 100000) (show 0 ≤ heldBy l i + m.C by omega) with hg | hg
  · rw [hg]; rfl
  · rw [if_neg (by omega)]
theorem growBusy_eq (l : List SFrame) (h : ∀ m ∈ l, Okf m) (hl : l.length ≤ 8) (i : Nat) (m : SFrame) (hm : l[i]? = some m) (K : Nat) (hK : 100100 ≤ K) : punctualref_grow.f K (heldBy l i + m.C) (heldBy l i) (i : Int) l = some (busyOf l i m) := by
  have hi := lt_of_get hm
  have hb := heldBy_bounds h i
  have hC := (h m (List.mem_of_getElem? hm)).C
  have hit := grow_iterE (d := fun z => punctualref_BusTimes_1.f K z (heldBy l i) (i : Int) l) (f := fun w => heldBy l i + busSum l w (i + 1)) (first := heldBy l i + m.C) (most := 100000) (by omega) (fun z h1 h2 => refBusy_eq l h hl i hi _ z hb ⟨by omega, by omega⟩ K (by omega))
    (fun z h1 => by have := busSum_ge h hm (w := z) (by omega); omega) (fun z z' _ h2 => by have := (busSum_mono h h2 (i + 1)).1; omega) (K := K) (by omega) (by omega)
  unfold punctualref_grow.f
  have e : punctualref_grow.r0 K (heldBy l i) (i : Int) l = growStepE (fun z => punctualref_BusTimes_1.f K z (heldBy l i) (i : Int) l) 100000 := rfl
  rw [e, hit]
  show _ = some (grown _ _ _)
  rcases grown_range (f := fun w => heldBy l i + busSum l w (i + 1)) (most := 100000) (show 0 ≤ heldBy l i + m.C by omega) with hg | hg
  · rw [hg]; rfl
  · rw [if_neg (by omega)]
theorem settleQueue_eq (l : List SFrame) (h : ∀ m ∈ l, Okf m) (hl : l.length ≤ 8) (i : Nat) (m : SFrame) (hm : l[i]? = some m) (q : Int) (hq : 0 ≤ q ∧ q ≤ 110000) (K : Nat) (hK : 100100 ≤ K) : net_settle_1.f K (heldBy l i + q * m.C) 100000 (heldBy l i) q m l (i : Int) = some (queueOf l i m q) := by
  have hi := lt_of_get hm
  have hb := heldBy_bounds h i
  have ho := h m (List.mem_of_getElem? hm)
  have hqb := many_bounds ho hq
  have hs0 := (busSum_bounds h (w := 0) ⟨by omega, by omega⟩ i).2
  have hit := grow_iter (d := fun z => net_time_2.f K z (heldBy l i) q m l (i : Int)) (f := fun w => heldBy l i + q * m.C + busSum1 l w i) (first := heldBy l i + q * m.C) (most := 100000) (by omega) (fun z h1 h2 => queue_eq l h hl i hi m ho _ q z hb hq ⟨by omega, by omega⟩ K (by omega))
    (fun z h1 => by have := (busSum_mono h (show 0 ≤ z by omega) i).2; omega) (fun z z' _ h2 => by have := (busSum_mono h h2 i).2; omega) (K := K) (by omega) (by omega)
  unfold net_settle_1.f
  have e : net_settle_1.r0 K 100000 (heldBy l i) q m l (i : Int) = growStep (fun z => net_time_2.f K z (heldBy l i) q m l (i : Int)) 100000 := rfl
  rw [e, hit]
  show _ = some (grown _ _ _)
  rcases grown_range (f := fun w => heldBy l i + q * m.C + busSum1 l w i) (most := 100000) (show 0 ≤ heldBy l i + q * m.C by omega) with hg | hg
  · rw [hg]; rfl
  · rw [if_neg (by omega)]
theorem growQueue_eq (l : List SFrame) (h : ∀ m ∈ l, Okf m) (hl : l.length ≤ 8) (i : Nat) (m : SFrame) (hm : l[i]? = some m) (q : Int) (hq : 0 ≤ q ∧ q ≤ 110000) (K : Nat) (hK : 100100 ≤ K) : punctualref_grow_1.f K (heldBy l i + q * m.C) (heldBy l i) q m (i : Int) l = some (queueOf l i m q) := by
  have hi := lt_of_get hm
  have hb := heldBy_bounds h i
  have ho := h m (List.mem_of_getElem? hm)
  have hqb := many_bounds ho hq
  have hs0 := (busSum_bounds h (w := 0) ⟨by omega, by omega⟩ i).2
  have hit := grow_iterE (d := fun z => punctualref_BusTimes_2.f K z (heldBy l i) q m (i : Int) l) (f := fun w => heldBy l i + q * m.C + busSum1 l w i) (first := heldBy l i + q * m.C) (most := 100000) (by omega) (fun z h1 h2 => refQueue_eq l h hl i hi m ho _ q z hb hq ⟨by omega, by omega⟩ K (by omega))
    (fun z h1 => by have := (busSum_mono h (show 0 ≤ z by omega) i).2; omega) (fun z z' _ h2 => by have := (busSum_mono h h2 i).2; omega) (K := K) (by omega) (by omega)
  unfold punctualref_grow_1.f
  have e : punctualref_grow_1.r0 K (heldBy l i) q m (i : Int) l = growStepE (fun z => punctualref_BusTimes_2.f K z (heldBy l i) q m (i : Int) l) 100000 := rfl
  rw [e, hit]
  show _ = some (grown _ _ _)
  rcases grown_range (f := fun w => heldBy l i + q * m.C + busSum1 l w i) (most := 100000) (show 0 ≤ heldBy l i + q * m.C by omega) with hg | hg
  · rw [hg]; rfl
  · rw [if_neg (by omega)]
/-- how long the message takes that is number q of a busy time -/
noncomputable def tookOf (l : List SFrame) (i : Nat) (m : SFrame) (q : Nat) : Int := m.J + queueOf l i m q - q * m.T + m.C
/-- the worst of the first n of them -/
noncomputable def worstOf (l : List SFrame) (i : Nat) (m : SFrame) : Nat → Int
  | 0 => 0
  | n + 1 => max (worstOf l i m n) (tookOf l i m n)
/-- how many there may be in a busy time -/
noncomputable def rowOf (l : List SFrame) (i : Nat) (m : SFrame) : Nat := (ceilD (busyOf l i m + m.J) m.T).toNat
/-- time of message i at worst; below 0: there is none -/
noncomputable def timeOf (l : List SFrame) (i : Nat) (m : SFrame) : Int :=
  if busyOf l i m < 0 then -1 else
  match firstOf (fun q : Nat => if queueOf l i m q < 0 then some () else none) (rowOf l i m) 0 with
  | some _ => -1
  | none => worstOf l i m (rowOf l i m)
theorem busyOf_range {l : List SFrame} (h : ∀ m ∈ l, Okf m) {i : Nat} {m : SFrame} (hm : l[i]? = some m) : busyOf l i m = -1 ∨ (1 ≤ busyOf l i m ∧ busyOf l i m ≤ 100000) := by
  have hb := heldBy_bounds h i
  have hC := (h m (List.mem_of_getElem? hm)).C
  rcases grown_range (f := fun w => heldBy l i + busSum l w (i + 1)) (most := 100000) (show 0 ≤ heldBy l i + m.C by omega) with hg | hg
  · exact .inl hg
  · right; unfold busyOf; omega
theorem queueOf_range {l : List SFrame} (h : ∀ m ∈ l, Okf m) {i : Nat} {m : SFrame} (hm : l[i]? = some m) {q : Int} (hq : 0 ≤ q ∧ q ≤ 110000) : queueOf l i m q = -1 ∨ (0 ≤ queueOf l i m q ∧ queueOf l i m q ≤ 100000) := by
  have hb := heldBy_bounds h i
  have hqb := many_bounds (h m (List.mem_of_getElem? hm)) hq
  rcases grown_range (f := fun w => heldBy l i + q * m.C + busSum1 l w i) (most := 100000) (show 0 ≤ heldBy l i + q * m.C by omega) with hg | hg
  · exact .inl hg
  · right; unfold queueOf; omega
theorem rowOf_le {l : List SFrame} (h : ∀ m ∈ l, Okf m) {i : Nat} {m : SFrame} (hm : l[i]? = some m) (hb : 0 ≤ busyOf l i m) : (rowOf l i m : Int) = ceilD (busyOf l i m + m.J) m.T ∧ rowOf l i m ≤ 110000 := by
  have ho := h m (List.mem_of_getElem? hm)
  have hr := busyOf_range h hm
  have hT := ho.T; have hJ := ho.J
  have h1 := ceilD_nonneg hT.1 (show 0 ≤ busyOf l i m + m.J by omega)
  have h2 := ceilD_le hT.1 (show 0 ≤ busyOf l i m + m.J by omega)
  unfold rowOf
  omega
theorem took_bounds {l : List SFrame} (h : ∀ m ∈ l, Okf m) {i : Nat} {m : SFrame} (hm : l[i]? = some m) {q : Nat} (hq : q ≤ 110000) : -1200000000 ≤ tookOf l i m q ∧ tookOf l i m q ≤ 200000 := by
  have ho := h m (List.mem_of_getElem? hm)
  have hr := queueOf_range h hm (q := (q : Int)) ⟨by omega, by omega⟩
  have ht := many_boundsT ho (q := (q : Int)) ⟨by omega, by omega⟩
  have hC := ho.C; have hJ := ho.J
  unfold tookOf
  omega
theorem worst_bounds {l : List SFrame} (h : ∀ m ∈ l, Okf m) {i : Nat} {m : SFrame} (hm : l[i]? = some m) : ∀ n : Nat, n ≤ 110000 → 0 ≤ worstOf l i m n ∧ worstOf l i m n ≤ 200000
  | 0, _ => by simp [worstOf]
  | n + 1, hn => by
    have ih := worst_bounds h hm n (by omega)
    have := took_bounds h hm (q := n) (by omega)
    simp only [worstOf]
    omega
theorem time_eq (l : List SFrame) (h : ∀ m ∈ l, Okf m) (hl : l.length ≤ 8) (i : Nat) (m : SFrame) (hm : l[i]? = some m) (K : Nat) (hK : 200000 ≤ K) : net_time.f K l (i : Int) = some (timeOf l i m) := by
  have hi := lt_of_get hm
  have hb := heldBy_bounds h i
  have ho := h m (List.mem_of_getElem? hm)
  have hC := ho.C; have hT := ho.T; have hJ := ho.J
  unfold net_time.f net_time.p0
  rw [if_pos (by omega), Int.toNat_natCast, hm]
  simp only
  rw [held_eq l h hl i hi K (by omega)]
  simp only
  rw [wrap64_small (n := heldBy l i + m.C) (by omega) (by omega), settleBusy_eq l h hl i m hm K (by omega)]
  simp only
  unfold timeOf
  by_cases hn : busyOf l i m < 0
  · rw [if_pos hn, if_pos hn]
  · rw [if_neg hn, if_neg hn]
    have hr := busyOf_range h hm
    obtain ⟨hrow, hrow2⟩ := rowOf_le h hm (by omega)
    rw [wrap64_small (n := busyOf l i m + m.J) (by omega) (by omega), netCeil_eq ⟨by omega, by omega⟩ ⟨by omega, by omega⟩, ← hrow]
    simp only
    have hit := iter_states (ρ := Int) (f := net_time.r1 K l (i : Int) m.C m.T m.D m.J (heldBy l i) (rowOf l i m : Int)) (fun k => (worstOf l i m k, (k : Int))) (fun q => (if queueOf l i m q < 0 then some () else none).map fun _ => -1) (rowOf l i m) (t := worstOf l i m (rowOf l i m)) (fun k hk _ => by
      have hk' : (k : Int) < (rowOf l i m : Int) := by omega
      have hqb := many_bounds ho (q := (k : Int)) ⟨by omega, by omega⟩
      have hqt := many_boundsT ho (q := (k : Int)) ⟨by omega, by omega⟩
      have hqr := queueOf_range h hm (q := (k : Int)) ⟨by omega, by omega⟩
      have hwb := worst_bounds h hm k (by omega)
      simp only [net_time.r1, if_pos hk']
      rw [wrap64_small (n := (k : Int) * m.C) (by omega) (by omega), wrap64_small (n := heldBy l i + (k : Int) * m.C) (by omega) (by omega), settleQueue_eq l h hl i m hm (k : Int) ⟨by omega, by omega⟩ K (by omega)]
      simp only
      by_cases hz : queueOf l i m k < 0
      · rw [if_pos hz, if_pos hz]; rfl
      · rw [if_neg hz, if_neg hz]
        simp only [Option.map_none, onwardS, worstOf, tookOf, gmax_eq]
        rw [wrap64_small (n := m.J + queueOf l i m k) (by omega) (by omega), wrap64_small (n := (k : Int) * m.T) (by omega) (by omega), wrap64_small (n := m.J + queueOf l i m k - (k : Int) * m.T) (by omega) (by omega), wrap64_small (n := m.J + queueOf l i m k - (k : Int) * m.T + m.C) (by omega) (by omega), wrap64_small (n := (k : Int) + 1) (by omega) (by omega)]
        rfl) (fun _ => by simp only [net_time.r1]; rw [if_neg (by omega)]) (K := K) (by omega)
    have h0 : worstOf l i m 0 = 0 := rfl
    rw [h0] at hit
    simp only [Int.natCast_zero] at hit
    rw [hit, firstOf_map]
    cases firstOf (fun q : Nat => if queueOf l i m q < 0 then some () else none) (rowOf l i m) 0 <;> rfl
/-- how long the messages take, from the first on: what is told where one has no time -/
noncomputable def noTime (l : List SFrame) (i : Nat) : Option ((List Int) × SFault) := match l[i]? with
  | none => none
  | some m => if timeOf l i m < 0 ∨ timeOf l i m > m.D then some ([], ⟨13, i⟩) else none
/-- the times of the first n -/
noncomputable def timesTill (l : List SFrame) : Nat → List Int
  | 0 => []
  | n + 1 => match l[n]? with
    | some m => timesTill l n ++ [timeOf l n m]
    | none => timesTill l n
theorem timesTill_len (l : List SFrame) : ∀ n, (timesTill l n).length ≤ n
  | 0 => by simp [timesTill]
  | n + 1 => by
    have ih := timesTill_len l n
    simp only [timesTill]
    split
    · simp; omega
    · omega
noncomputable def timesOf (l : List SFrame) : (List Int) × SFault :=
  if (busFault l).Code = 0 then (firstOf (noTime l) l.length 0).getD (timesTill l l.length, ⟨0, 0⟩) else ([], busFault l)
theorem Times_eq (l : List SFrame) (K : Nat) (hK : 200000 ≤ K) : net_Times.f K l = some (timesOf l) := by
  unfold net_Times.f timesOf
  rw [netCheck_eq l K (by omega)]
  simp only
  by_cases hc : (busFault l).Code = 0
  · rw [if_pos hc, if_pos hc]
    obtain ⟨_, h1, h8, hok⟩ := busFault_ok hc
    have hit := iter_states (ρ := (List Int) × SFault) (f := net_Times.r0 K l) (fun k => (timesTill l k, k)) (noTime l) l.length (t := timesTill l l.length) (fun k hk _ => by
      have hk' : (k : Int) < (l.length : Int) := by omega
      have hkx : l[k]? = some l[k] := List.getElem?_eq_getElem hk
      have hlen := timesTill_len l k
      simp only [net_Times.r0, if_pos hk', hkx, time_eq l hok h8 k l[k] hkx K hK, noTime, timesTill]
      by_cases ha : timeOf l k l[k] < 0
      · rw [if_pos ha, if_pos (.inl ha)]; rfl
      · rw [if_neg ha]
        by_cases hb : timeOf l k l[k] > l[k].D
        · rw [if_pos hb, if_pos (.inr hb)]; rfl
        · rw [if_neg hb, if_pos (by omega), if_neg (by omega)]; rfl) (fun _ => by simp [net_Times.r0]) (K := K) (by omega)
    rw [show (([] : List Int), 0) = (timesTill l 0, 0) from rfl, hit]
    cases firstOf (noTime l) l.length 0 <;> rfl
  · rw [if_neg hc, if_neg hc]
/-- the rounds over a busy time -/
theorem refRow_eq (l : List SFrame) (h : ∀ m ∈ l, Okf m) (hl : l.length ≤ 8) (i : Nat) (m : SFrame) (hm : l[i]? = some m) (K : Nat) (hK : 300000 ≤ K) :
    ∃ z q, iter (punctualref_BusTimes.r2 K l i m (heldBy l i) (busyOf l i m)) K (0, decide (busyOf l i m ≥ 0), 0) = some (.inl (z, q)) ∧ (q = false ∧ timeOf l i m < 0 ∨ q = true ∧ timeOf l i m = z ∧ 0 ≤ timeOf l i m) := by
  have ho := h m (List.mem_of_getElem? hm)
  have hb := heldBy_bounds h i
  have hC := ho.C; have hT := ho.T; have hJ := ho.J
  have hr := busyOf_range h hm
  by_cases hn : busyOf l i m < 0
  · have hd : decide (busyOf l i m ≥ 0) = false := decide_eq_false (by omega)
    obtain ⟨K, rfl⟩ : ∃ k, K = k + 1 := ⟨K - 1, by omega⟩
    refine ⟨0, false, ?_, .inl ⟨rfl, by unfold timeOf; rw [if_pos hn]; omega⟩⟩
    rw [hd]
    simp [iter, punctualref_BusTimes.r2]
  obtain ⟨hrow, hrow2⟩ := rowOf_le h hm (by omega)
  have hd : decide (busyOf l i m ≥ 0) = true := decide_eq_true (by omega)
  rw [hd]
  have hmore : ∀ k : Nat, k ≤ 110000 → ((k : Int) * m.T < busyOf l i m + m.J ↔ k < rowOf l i m) := fun k hk => by
    have e : (k : Int) < (rowOf l i m : Int) ↔ (k : Int) * m.T < busyOf l i m + m.J := by
      rw [hrow]
      unfold ceilD
      rw [Int.lt_iff_add_one_le, Int.le_ediv_iff_mul_le (by omega), Int.add_mul]
      omega
    rw [← e]; omega
  obtain ⟨r, hr1, hR⟩ := iter_total (f := punctualref_BusTimes.r2 K l i m (heldBy l i) (busyOf l i m))
    (fun s => ∃ k : Nat, s.2.2 = (k : Int) ∧ k ≤ rowOf l i m ∧ ((s.2.1 = true ∧ s.1 = worstOf l i m k ∧ ∀ j : Nat, j < k → 0 ≤ queueOf l i m j) ∨ (s.2.1 = false ∧ ∃ j : Nat, j < rowOf l i m ∧ queueOf l i m j < 0)))
    (fun s => (if s.2.1 then 1 else 0) * (rowOf l i m + 1) + (rowOf l i m - s.2.2.toNat))
    (fun r => ∃ z q, r = .inl (z, q) ∧ (q = false ∧ timeOf l i m < 0 ∨ q = true ∧ timeOf l i m = z ∧ 0 ≤ timeOf l i m))
    (fun s hs => by
      obtain ⟨z5, q1, z6⟩ := s
      obtain ⟨k, hk, hkr, hI⟩ := hs
      simp only at hk hI
      subst hk
      rcases hI with ⟨rfl, rfl, hq⟩ | ⟨rfl, j, hj, hq⟩
      · have hqt := many_boundsT ho (q := (k : Int)) ⟨by omega, by omega⟩
        have hqb := many_bounds ho (q := (k : Int)) ⟨by omega, by omega⟩
        have hqr := queueOf_range h hm (q := (k : Int)) ⟨by omega, by omega⟩
        have hwb := worst_bounds h hm k (by omega)
        simp only [punctualref_BusTimes.r2, if_true]
        rw [wrap64_small (n := (k : Int) * m.T) (by omega) (by omega), wrap64_small (n := busyOf l i m + m.J) (by omega) (by omega)]
        by_cases hlt : k < rowOf l i m
        · rw [if_pos ((hmore k (by omega)).2 hlt)]
          left
          rw [wrap64_small (n := (k : Int) * m.C) (by omega) (by omega), wrap64_small (n := heldBy l i + (k : Int) * m.C) (by omega) (by omega), growQueue_eq l h hl i m hm (k : Int) ⟨by omega, by omega⟩ K (by omega)]
          simp only
          rw [wrap64_small (n := m.J + queueOf l i m k) (by omega) (by omega), wrap64_small (n := m.J + queueOf l i m k - (k : Int) * m.T) (by omega) (by omega), wrap64_small (n := m.J + queueOf l i m k - (k : Int) * m.T + m.C) (by omega) (by omega), wrap64_small (n := (k : Int) + 1) (by omega) (by omega)]
          by_cases hz : queueOf l i m k < 0
          · have e0 : decide (queueOf l i m k ≥ 0) = false := decide_eq_false (by omega)
            rw [e0]
            split
            · exact ⟨_, rfl, ⟨k + 1, by simp, by omega, .inr ⟨rfl, k, hlt, hz⟩⟩, by simp; omega⟩
            · exact ⟨_, rfl, ⟨k + 1, by simp, by omega, .inr ⟨rfl, k, hlt, hz⟩⟩, by simp; omega⟩
          · have e0 : decide (queueOf l i m k ≥ 0) = true := decide_eq_true (by omega)
            have hall : ∀ j : Nat, j < k + 1 → 0 ≤ queueOf l i m j := fun j hj => by
              by_cases hjk : j = k
              · subst hjk; omega
              · exact hq j (by omega)
            rw [e0]
            split
            · refine ⟨_, rfl, ⟨k + 1, by simp, by omega, .inl ⟨rfl, ?_, hall⟩⟩, by simp; omega⟩
              simp only [worstOf, tookOf]; omega
            · refine ⟨_, rfl, ⟨k + 1, by simp, by omega, .inl ⟨rfl, ?_, hall⟩⟩, by simp; omega⟩
              simp only [worstOf, tookOf]; omega
        · rw [if_neg (fun hx => hlt ((hmore k (by omega)).1 hx))]
          right
          refine ⟨_, rfl, _, _, rfl, .inr ⟨rfl, ?_⟩⟩
          obtain rfl : k = rowOf l i m := by omega
          unfold timeOf
          rw [if_neg hn, firstOf_none_of (fun j _ hj => if_neg (by have := hq j hj; omega))]
          exact ⟨rfl, by simp only; omega⟩
      · right
        refine ⟨_, by simp only [punctualref_BusTimes.r2, Bool.false_eq_true, if_false]; rfl, _, _, rfl, .inl ⟨rfl, ?_⟩⟩
        unfold timeOf
        rw [if_neg hn]
        cases hf : firstOf (fun q : Nat => if queueOf l i m q < 0 then some () else none) (rowOf l i m) 0 with
        | some _ => simp
        | none =>
          have := firstOf_none hf j (Nat.zero_le _) hj
          rw [if_pos hq] at this
          cases this) K (0, true, 0) ⟨0, rfl, Nat.zero_le _, .inl ⟨rfl, rfl, fun j hj => by omega⟩⟩ (by simp; omega)
  obtain ⟨z, q, rfl, hz⟩ := hR
  exact ⟨z, q, hr1, hz⟩
theorem BusTimes_eq (l : List SFrame) (K : Nat) (hK : 300000 ≤ K) : punctualref_BusTimes.f K l = some (timesOf l) := by
  unfold punctualref_BusTimes.f timesOf
  rw [CheckBus_eq l K (by omega)]
  simp only
  by_cases hc : (busFault l).Code = 0
  · rw [if_pos hc, if_pos hc]
    obtain ⟨_, h1, h8, hok⟩ := busFault_ok hc
    have hit := iter_states (ρ := (List Int) × SFault) (f := punctualref_BusTimes.r0 K l (busFault l)) (fun k => (timesTill l k, k)) (noTime l) l.length (t := timesTill l l.length) (fun k hk _ => by
      have hk' : (k : Int) < (l.length : Int) := by omega
      have hkx : l[k]? = some l[k] := List.getElem?_eq_getElem hk
      have hlen := timesTill_len l k
      have hC := (hok l[k] (List.getElem_mem hk)).C
      have hb := heldBy_bounds hok k
      obtain ⟨z, q, hz, hq⟩ := refRow_eq l hok h8 k l[k] hkx K (by omega)
      simp only [punctualref_BusTimes.r0, if_pos hk', hkx, refHeld_eq l hok h8 k hk K (by omega), noTime, timesTill]
      rw [wrap64_small (n := heldBy l k + l[k].C) (by omega) (by omega), growBusy_eq l hok h8 k l[k] hkx K (by omega)]
      simp only [hz]
      rcases hq with ⟨rfl, hq⟩ | ⟨rfl, rfl, hq⟩
      · rw [if_neg (by simp), if_pos (Or.inl hq)]; rfl
      · simp only [if_true]
        by_cases hd : timeOf l k l[k] > l[k].D
        · rw [if_pos hd, if_pos (.inr hd)]; rfl
        · rw [if_neg hd, if_pos (by omega), if_neg (by omega)]; rfl) (fun _ => by simp [punctualref_BusTimes.r0]) (K := K) (by omega)
    rw [show (([] : List Int), 0) = (timesTill l 0, 0) from rfl, hit]
    cases firstOf (noTime l) l.length 0 <;> rfl
  · rw [if_neg hc, if_neg hc]

theorem NetTimes_law (l0 : List SFrame) (ok0 : ∀ y ∈ l0, Ok.ok y) : ∃ K, NetTimes.f K l0 = some true := by
  refine ⟨18446744073709551616, ?_⟩
  have ha : bus.f 18446744073709551616 = some true := by kernel_rfl
  unfold NetTimes.f
  simp only [ha, if_true]
  by_cases f0 : few.f (l0.length : Int) = true
  · have g0 := few_true f0
    obtain ⟨r0, e0⟩ := punctualsame_Lend_api_Frame_some l0 ⟨(-9), 0, 0, 0⟩ g0
    have hlen : (timesOf l0).1.length ≤ 18446744073709551 := by
      unfold timesOf
      split
      · rename_i hc
        obtain ⟨_, h1, h8, hok⟩ := busFault_ok hc
        cases hf : firstOf (noTime l0) l0.length 0 with
        | none => have := timesTill_len l0 l0.length; simp only [Option.getD_none]; omega
        | some r =>
          obtain ⟨j, _, hj, hg, _⟩ := firstOf_some hf
          unfold noTime at hg
          split at hg
          · cases hg
          · split at hg
            · cases hg; simp
            · cases hg
      · simp
    simp only [if_pos f0, e0, Times_eq l0 _ (show 200000 ≤ 18446744073709551616 by omega), BusTimes_eq l0 _ (show 300000 ≤ 18446744073709551616 by omega), netCheck_eq l0 _ (show 20 ≤ 18446744073709551616 by omega), CheckBus_eq l0 _ (show 20 ≤ 18446744073709551616 by omega), SFault.eqb_self, if_true]
    simp only [punctualsame_Same_int_self _ _ (show (timesOf l0).1.length < 18446744073709551616 by omega), if_true, punctualsame_Still_api_Frame_true l0 _ _ g0 (show 5010 ≤ 18446744073709551616 by omega)]
  · simp only [if_neg f0]

end Go.Proofs.YtccfilmiboepjaaDoor.GV
