/- Plain words: GvLNetSends. -/
import Derived.Test.YtcogbnkioobmkaaDoorGWNetSends6
import Derived.Test.YtcogbnkioobmkaaDoorGv17
namespace Go.Proofs.YtcogbnkioobmkaaDoor.GV
open Go Go.RowKit
set_option linter.unusedVariables false
set_option linter.unusedSimpArgs false
theorem SFault.eqb_self (x : SFault) : SFault.eqb x x = true := by simp [SFault.eqb]
theorem SFrame.eqb_self (x : SFrame) : SFrame.eqb x x = true := by simp [SFrame.eqb]
theorem SJob.eqb_self (x : SJob) : SJob.eqb x x = true := by simp [SJob.eqb]
theorem SCome.eqb_self (x : SCome) : SCome.eqb x x = true := by simp [SCome.eqb]
theorem punctualsame_Lend_api_Frame_some (l : List SFrame) (a : SFrame) (h : l.length ≤ 5000) : ∃ r, punctualsame_Lend_api_Frame.f l a = some r := by
  have hw : IntKind.i64.wrap ((l.length : Int) + 3) = (l.length : Int) + 3 := wrap64_small (by omega) (by omega)
  unfold punctualsame_Lend_api_Frame.f
  rw [hw, if_pos (by omega), if_pos (by omega), if_pos (by simp; omega), if_pos (by simp; omega)]
  exact ⟨_, rfl⟩
theorem punctualsame_Lend_api_Come_some (l : List SCome) (a : SCome) (h : l.length ≤ 5000) : ∃ r, punctualsame_Lend_api_Come.f l a = some r := by
  have hw : IntKind.i64.wrap ((l.length : Int) + 3) = (l.length : Int) + 3 := wrap64_small (by omega) (by omega)
  unfold punctualsame_Lend_api_Come.f
  rw [hw, if_pos (by omega), if_pos (by omega), if_pos (by simp; omega), if_pos (by simp; omega)]
  exact ⟨_, rfl⟩
theorem punctualsame_Lend_int_some (l : List Int) (a : Int) (h : l.length ≤ 5000) : ∃ r, punctualsame_Lend_int.f l a = some r := by
  have hw : IntKind.i64.wrap ((l.length : Int) + 3) = (l.length : Int) + 3 := wrap64_small (by omega) (by omega)
  unfold punctualsame_Lend_int.f
  rw [hw, if_pos (by omega), if_pos (by omega), if_pos (by simp; omega), if_pos (by simp; omega)]
  exact ⟨_, rfl⟩
theorem punctualsame_Still_api_Frame_true (l : List SFrame) (a : SFrame) (K : Nat) (hl : l.length ≤ 5000) (hK : 5010 ≤ K) : punctualsame_Still_api_Frame.f K (l ++ [a, a, a]) l a = some true := by
  have hw : IntKind.i64.wrap ((l.length : Int) + 3) = (l.length : Int) + 3 := wrap64_small (by omega) (by omega)
  have hr := iter_first0 (f := punctualsame_Still_api_Frame.r0 (l ++ [a, a, a]) l a) (fun _ => none) (l.length + 3) (t := ()) (fun i hi => by
    have h' : (i : Int) < ((l ++ [a, a, a] : List SFrame).length : Int) := by simp; omega
    simp only [punctualsame_Still_api_Frame.r0, if_pos h']
    by_cases h2 : i < l.length
    · have h2' : (i : Int) < (l.length : Int) := by omega
      have h3 : ¬ (i : Int) ≥ (l.length : Int) := by omega
      rw [List.getElem?_append_left h2, List.getElem?_eq_getElem h2]
      simp only [if_pos h2', SFrame.eqb_self, if_true, if_neg h3, onward]
    · have h2' : ¬ (i : Int) < (l.length : Int) := by omega
      have h3 : (i : Int) ≥ (l.length : Int) := by omega
      rw [List.getElem?_append_right (by omega)]
      have : i - l.length = 0 ∨ i - l.length = 1 ∨ i - l.length = 2 := by omega
      rcases this with e | e | e <;> simp [e, h2', h3, onward, SFrame.eqb_self]) (by
    have h' : ¬ ((l.length + 3 : Nat) : Int) < ((l ++ [a, a, a] : List SFrame).length : Int) := by simp
    simp only [punctualsame_Still_api_Frame.r0, if_neg h']) (K := K) (by omega)
  rw [firstOf_none_of (fun _ _ _ => rfl)] at hr
  have hlen : IntKind.i64.wrap ((l.length : Int) + 3) = ((l ++ [a, a, a] : List SFrame).length : Int) := by rw [hw]; simp
  simp only [punctualsame_Still_api_Frame.f, if_pos hlen, hr, leave]
theorem punctualsame_Still_api_Come_true (l : List SCome) (a : SCome) (K : Nat) (hl : l.length ≤ 5000) (hK : 5010 ≤ K) : punctualsame_Still_api_Come.f K (l ++ [a, a, a]) l a = some true := by
  have hw : IntKind.i64.wrap ((l.length : Int) + 3) = (l.length : Int) + 3 := wrap64_small (by omega) (by omega)
  have hr := iter_first0 (f := punctualsame_Still_api_Come.r0 (l ++ [a, a, a]) l a) (fun _ => none) (l.length + 3) (t := ()) (fun i hi => by
    have h' : (i : Int) < ((l ++ [a, a, a] : List SCome).length : Int) := by simp; omega
    simp only [punctualsame_Still_api_Come.r0, if_pos h']
    by_cases h2 : i < l.length
    · have h2' : (i : Int) < (l.length : Int) := by omega
      have h3 : ¬ (i : Int) ≥ (l.length : Int) := by omega
      rw [List.getElem?_append_left h2, List.getElem?_eq_getElem h2]
      simp only [if_pos h2', SCome.eqb_self, if_true, if_neg h3, onward]
    · have h2' : ¬ (i : Int) < (l.length : Int) := by omega
      have h3 : (i : Int) ≥ (l.length : Int) := by omega
      rw [List.getElem?_append_right (by omega)]
      have : i - l.length = 0 ∨ i - l.length = 1 ∨ i - l.length = 2 := by omega
      rcases this with e | e | e <;> simp [e, h2', h3, onward, SCome.eqb_self]) (by
    have h' : ¬ ((l.length + 3 : Nat) : Int) < ((l ++ [a, a, a] : List SCome).length : Int) := by simp
    simp only [punctualsame_Still_api_Come.r0, if_neg h']) (K := K) (by omega)
  rw [firstOf_none_of (fun _ _ _ => rfl)] at hr
  have hlen : IntKind.i64.wrap ((l.length : Int) + 3) = ((l ++ [a, a, a] : List SCome).length : Int) := by rw [hw]; simp
  simp only [punctualsame_Still_api_Come.f, if_pos hlen, hr, leave]
theorem punctualsame_Still_int_true (l : List Int) (a : Int) (K : Nat) (hl : l.length ≤ 5000) (hK : 5010 ≤ K) : punctualsame_Still_int.f K (l ++ [a, a, a]) l a = some true := by
  have hw : IntKind.i64.wrap ((l.length : Int) + 3) = (l.length : Int) + 3 := wrap64_small (by omega) (by omega)
  have hr := iter_first0 (f := punctualsame_Still_int.r0 (l ++ [a, a, a]) l a) (fun _ => none) (l.length + 3) (t := ()) (fun i hi => by
    have h' : (i : Int) < ((l ++ [a, a, a] : List Int).length : Int) := by simp; omega
    simp only [punctualsame_Still_int.r0, if_pos h']
    by_cases h2 : i < l.length
    · have h2' : (i : Int) < (l.length : Int) := by omega
      have h3 : ¬ (i : Int) ≥ (l.length : Int) := by omega
      rw [List.getElem?_append_left h2, List.getElem?_eq_getElem h2]
      simp only [if_pos h2', if_true, if_neg h3, onward]
    · have h2' : ¬ (i : Int) < (l.length : Int) := by omega
      have h3 : (i : Int) ≥ (l.length : Int) := by omega
      rw [List.getElem?_append_right (by omega)]
      have : i - l.length = 0 ∨ i - l.length = 1 ∨ i - l.length = 2 := by omega
      rcases this with e | e | e <;> simp [e, h2', h3, onward]) (by
    have h' : ¬ ((l.length + 3 : Nat) : Int) < ((l ++ [a, a, a] : List Int).length : Int) := by simp
    simp only [punctualsame_Still_int.r0, if_neg h']) (K := K) (by omega)
  rw [firstOf_none_of (fun _ _ _ => rfl)] at hr
  have hlen : IntKind.i64.wrap ((l.length : Int) + 3) = ((l ++ [a, a, a] : List Int).length : Int) := by rw [hw]; simp
  simp only [punctualsame_Still_int.f, if_pos hlen, hr, leave]
theorem punctualsame_Same_int_self (l : List Int) (K : Nat) (hK : l.length < K) : punctualsame_Same_int.f K l l = some true := by
  have hr := iter_first0 (f := punctualsame_Same_int.r0 l l) (fun _ => none) l.length (t := ()) (fun i hi => by
    have h' : (i : Int) < (l.length : Int) := by omega
    simp only [punctualsame_Same_int.r0, if_pos h', List.getElem?_eq_getElem hi, if_true, onward]) (by
    have h' : ¬ (l.length : Int) < (l.length : Int) := by omega
    simp only [punctualsame_Same_int.r0, if_neg h']) hK
  rw [firstOf_none_of (fun _ _ _ => rfl)] at hr
  simp only [punctualsame_Same_int.f, if_true, hr, leave]
theorem few_true {n : Nat} (h : few.f (n : Int) = true) : n ≤ 5000 := by
  simp only [few.f, decide_eq_true_eq] at h; omega
theorem few_false {n : Nat} (h : ¬ few.f (n : Int) = true) : 5000 < n := by
  simp only [few.f, decide_eq_true_eq] at h; omega
theorem exists_bound {α : Type} (f : α → Nat) : ∀ l : List α, ∃ B, ∀ x ∈ l, f x ≤ B
  | [] => ⟨0, by simp⟩
  | x :: l => by
    obtain ⟨B, h⟩ := exists_bound f l
    refine ⟨max (f x) B, fun y hy => ?_⟩
    rcases List.mem_cons.1 hy with rfl | hy
    · exact Nat.le_max_left _ _
    · exact Nat.le_trans (h y hy) (Nat.le_max_right _ _)
/-- a letter stands there -/
def letterAt (x : ByteArray) (i : Nat) : Bool := match x[i]? with | some b => decide (97 ≤ b.toNat) && decide (b.toNat ≤ 122) | none => false
def allL (x : ByteArray) (n : Nat) : Bool := (List.range n).all (letterAt x)
theorem allL_succ (x : ByteArray) (n : Nat) : allL x (n + 1) = (allL x n && letterAt x n) := by simp [allL, List.range_succ]
theorem allL_iff {x : ByteArray} {n : Nat} : allL x n = true ↔ ∀ i, i < n → letterAt x i = true := by simp [allL]
def Good (x : ByteArray) : Prop := 1 ≤ x.size ∧ x.size ≤ 10 ∧ allL x x.size = true
instance (x : ByteArray) : Decidable (Good x) := by unfold Good; infer_instance
theorem get!_of {x : ByteArray} {i : Nat} {b : UInt8} (h : x[i]? = some b) : x.get! i = b := by
  have hi : i < x.size := by
    rcases Nat.lt_or_ge i x.size with h' | h'
    · exact h'
    · rw [getElem?_neg x i (by omega)] at h; cases h
  rw [getElem?_pos x i hi] at h
  have := Option.some.inj h
  rw [← this]
  cases x with
  | mk bs => exact getElem!_pos bs i hi
theorem byte_some {x : ByteArray} {i : Nat} (h : i < x.size) : ∃ b, x[i]? = some b := ⟨x[i], getElem?_pos x i h⟩
theorem decode_letter {x : ByteArray} {i : Nat} (hi : i < x.size) (h : letterAt x i = true) : ∃ n : Nat, Utf8.decode x i = (n, 1) ∧ 97 ≤ n ∧ n ≤ 122 := by
  obtain ⟨b, hb⟩ := byte_some hi
  simp only [letterAt, hb, Bool.and_eq_true, decide_eq_true_eq] at h
  refine ⟨b.toNat, ?_, h⟩
  have := get!_of hb
  simp only [Utf8.decode, Nat.add_zero, this]
  rw [if_pos (by omega)]
theorem decode_other {x : ByteArray} {i : Nat} (hi : i < x.size) (h : letterAt x i = false) : (Utf8.decode x i).1 < 97 ∨ 122 < (Utf8.decode x i).1 := by
  obtain ⟨b, hb⟩ := byte_some hi
  simp only [letterAt, hb, Bool.and_eq_false_iff, decide_eq_false_iff_not] at h
  have := get!_of hb
  simp only [Utf8.decode, Nat.add_zero, this]
  have he : Utf8.runeError = 65533 := rfl
  repeat' split
  all_goals simp only [he, Bool.and_eq_true, decide_eq_true_eq, ge_iff_le] at *
  all_goals omega
theorem takedrop {α : Type} (l : List α) (i : Nat) : (l.take i).drop 0 = l.take i := by simp
theorem iter_succ {σ ρ : Type} (f : σ → Option (σ ⊕ ρ)) (K : Nat) (s : σ) : iter f (K + 1) s = match f s with | none => none | some (.inl s') => iter f K s' | some (.inr r) => some r := rfl
/-- a over b, rounded up -/
def ceilD (a b : Int) : Int := (a + b - 1) / b
theorem ceilD_mono {a a' b : Int} (hb : 1 ≤ b) (h : a ≤ a') : ceilD a b ≤ ceilD a' b := Int.ediv_le_ediv (by omega) (by omega)
theorem ceilD_nonneg {a b : Int} (hb : 1 ≤ b) (h : 0 ≤ a) : 0 ≤ ceilD a b := Int.ediv_nonneg (by omega) (by omega)
theorem ceilD_le {a b : Int} (hb : 1 ≤ b) (h : 0 ≤ a) : ceilD a b ≤ a := by
  unfold ceilD
  rw [← Int.lt_add_one_iff]
  apply Int.ediv_lt_of_lt_mul (by omega)
  have : a * 1 ≤ a * b := Int.mul_le_mul_of_nonneg_left hb h
  rw [Int.add_mul]
  omega
/-- the least n, 1 at least, in which all is done that is wanted; 0: there is none up to most -/
def settled (f : Int → Int) (most : Int) : Int := match firstOf (fun n : Nat => if f n ≤ n then some (n : Int) else none) (most.toNat + 1) 1 with
  | some n => n
  | none => 0
theorem settled_some {f : Int → Int} {most : Int} {j : Nat} (h : firstOf (fun n : Nat => if f n ≤ n then some (n : Int) else none) (most.toNat + 1) 1 = some (j : Int)) : settled f most = j := by unfold settled; rw [h]
theorem settled_none {f : Int → Int} {most : Int} (h : firstOf (fun n : Nat => if f n ≤ n then some (n : Int) else none) (most.toNat + 1) 1 = none) : settled f most = 0 := by unfold settled; rw [h]
theorem settled_pos {f : Int → Int} {most : Int} (h : settled f most ≠ 0) : 1 ≤ settled f most ∧ settled f most ≤ most ∧ f (settled f most) ≤ settled f most ∧ ∀ n : Int, 1 ≤ n → n < settled f most → n < f n := by
  cases hf : firstOf (fun n : Nat => if f n ≤ n then some (n : Int) else none) (most.toNat + 1) 1 with
  | none => exact absurd (settled_none hf) h
  | some r =>
    obtain ⟨j, h1, h2, h3, h4⟩ := firstOf_some hf
    split at h3
    · cases h3
      rw [settled_some hf]
      refine ⟨by omega, by omega, by assumption, fun n hn1 hn2 => ?_⟩
      have := h4 n.toNat (by omega) (by omega)
      have e : ((n.toNat : Nat) : Int) = n := Int.toNat_of_nonneg (by omega)
      simp only [e] at this
      split at this
      · cases this
      · omega
    · cases h3
theorem settled_zero {f : Int → Int} {most : Int} (h : settled f most = 0) : ∀ n : Int, 1 ≤ n → n ≤ most → n < f n := by
  cases hf : firstOf (fun n : Nat => if f n ≤ n then some (n : Int) else none) (most.toNat + 1) 1 with
  | some r =>
    obtain ⟨j, h1, h2, h3, h4⟩ := firstOf_some hf
    split at h3
    · cases h3; rw [settled_some hf] at h; omega
    · cases h3
  | none =>
    intro n h1 h2
    have := firstOf_none hf n.toNat (by omega) (by omega)
    have e : ((n.toNat : Nat) : Int) = n := Int.toNat_of_nonneg (by omega)
    simp only [e] at this
    split at this
    · cases this
    · omega
theorem settled_eq {f : Int → Int} {most w : Int} (h1 : 1 ≤ w) (h2 : w ≤ most) (h3 : f w ≤ w) (h4 : ∀ n : Int, 1 ≤ n → n < w → n < f n) : settled f most = w := by
  by_cases h : settled f most = 0
  · have := settled_zero h w h1 h2; omega
  · obtain ⟨g1, g2, g3, g4⟩ := settled_pos h
    rcases Int.lt_trichotomy (settled f most) w with hl | hl | hl
    · have := h4 _ g1 hl; omega
    · exact hl
    · have := g4 _ h1 hl; omega
theorem settled_eq_zero {f : Int → Int} {most : Int} (h : ∀ n : Int, 1 ≤ n → n ≤ most → n < f n) : settled f most = 0 := by
  apply Decidable.byContradiction
  intro hne
  obtain ⟨g1, g2, g3, g4⟩ := settled_pos hne
  have := h _ g1 g2
  omega
theorem gmax_eq (x y : Int) : gmax x y = max x y := by unfold gmax; omega
theorem gmin_eq (x y : Int) : gmin x y = min x y := by unfold gmin; omega

/-- the least n, first at least and most at most, with f n at most n; below 0: there is none -/
noncomputable def grown (f : Int → Int) (first most : Int) : Int :=
  if settled (fun z => f (z + (first - 1)) - (first - 1)) (most - (first - 1)) = 0 then -1 else settled (fun z => f (z + (first - 1)) - (first - 1)) (most - (first - 1)) + (first - 1)
theorem grown_pos {f : Int → Int} {first most : Int} (h0 : 0 ≤ first) (h : 0 ≤ grown f first most) : first ≤ grown f first most ∧ grown f first most ≤ most ∧ f (grown f first most) ≤ grown f first most ∧ ∀ n : Int, first ≤ n → n < grown f first most → n < f n := by
  unfold grown at h ⊢
  by_cases hz : settled (fun z => f (z + (first - 1)) - (first - 1)) (most - (first - 1)) = 0
  · rw [if_pos hz] at h; omega
  · rw [if_neg hz]
    obtain ⟨h1, h2, h3, h4⟩ := settled_pos hz
    refine ⟨by omega, by omega, by omega, fun n hn1 hn2 => ?_⟩
    have := h4 (n - (first - 1)) (by omega) (by omega)
    rw [show n - (first - 1) + (first - 1) = n by omega] at this
    omega
theorem grown_eq {f : Int → Int} {first most w : Int} (h1 : first ≤ w) (h2 : w ≤ most) (h3 : f w ≤ w) (h4 : ∀ n : Int, first ≤ n → n < w → n < f n) : grown f first most = w := by
  have hs : settled (fun z => f (z + (first - 1)) - (first - 1)) (most - (first - 1)) = w - (first - 1) := settled_eq (by omega) (by omega) (by rw [show w - (first - 1) + (first - 1) = w by omega]; omega) (fun n hn1 hn2 => by
    have := h4 (n + (first - 1)) (by omega) (by omega)
    omega)
  unfold grown
  rw [hs, if_neg (by omega)]
  omega
theorem grown_none {f : Int → Int} {first most : Int} (h : ∀ n : Int, first ≤ n → n ≤ most → n < f n) : grown f first most = -1 := by
  have hs : settled (fun z => f (z + (first - 1)) - (first - 1)) (most - (first - 1)) = 0 := settled_eq_zero (fun n hn1 hn2 => by
    have := h (n + (first - 1)) (by omega) (by omega)
    omega)
  unfold grown
  rw [if_pos hs]
theorem grown_range {f : Int → Int} {first most : Int} (h0 : 0 ≤ first) : grown f first most = -1 ∨ (first ≤ grown f first most ∧ grown f first most ≤ most) := by
  by_cases h : 0 ≤ grown f first most
  · have := grown_pos h0 h; exact .inr ⟨this.1, this.2.1⟩
  · left
    unfold grown at h ⊢
    by_cases hz : settled (fun z => f (z + (first - 1)) - (first - 1)) (most - (first - 1)) = 0
    · rw [if_pos hz]
    · rw [if_neg hz] at h
      have := settled_pos hz
      omega
/-- one step towards it, by what is no more -/
def growStep (d : Int → Option Int) (most : Int) (z : Int) : Option (Int ⊕ (Unit ⊕ Int)) :=
  if z ≤ most then
    match d z with
    | none => none
    | some r => if r ≤ z then some (.inr (.inr z)) else some (.inl r)
  else some (.inr (.inl ()))
/-- .. by what is the same -/
def growStepE (d : Int → Option Int) (most : Int) (z : Int) : Option (Int ⊕ (Unit ⊕ Int)) :=
  if z ≤ most then
    match d z with
    | none => none
    | some r => if r = z then some (.inr (.inr z)) else some (.inl r)
  else some (.inr (.inl ()))
theorem grow_iter {d : Int → Option Int} {f : Int → Int} {most first : Int} (h1 : 0 ≤ first) (hd : ∀ z, first ≤ z → z ≤ most → d z = some (f z)) (hge : ∀ z, first ≤ z → first ≤ f z) (hm : ∀ z z', first ≤ z → z ≤ z' → f z ≤ f z') {K : Nat} (hK : most + 2 < K) (hK0 : 1 ≤ K) :
    iter (growStep d most) K first = some (if grown f first most < 0 then .inl () else .inr (grown f first most)) := by
  obtain ⟨r, hr, hR⟩ := iter_total (f := growStep d most) (fun w => first ≤ w ∧ ∀ n : Int, first ≤ n → n < w → n < f n) (fun w => (most + 1 - w).toNat)
    (fun r => r = if grown f first most < 0 then .inl () else .inr (grown f first most)) (fun w hI => by
      obtain ⟨h2, h3⟩ := hI
      by_cases hw : w ≤ most
      · simp only [growStep, if_pos hw, hd w h2 hw]
        by_cases hle : f w ≤ w
        · right
          refine ⟨_, by rw [if_pos hle], ?_⟩
          rw [grown_eq h2 hw hle h3, if_neg (by omega)]
        · left
          refine ⟨_, by rw [if_neg hle], ⟨by omega, fun n hn1 hn2 => ?_⟩, by omega⟩
          by_cases hnw : n < w
          · exact h3 n hn1 hnw
          · have := hm w n (by omega) (by omega)
            omega
      · right
        refine ⟨.inl (), by simp only [growStep, if_neg hw], ?_⟩
        rw [grown_none (fun n h1 h2 => h3 n h1 (by omega)), if_pos (by omega)]) K first ⟨Int.le_refl _, fun n hn1 hn2 => by omega⟩ (by omega)
  rw [hr, hR]
theorem grow_iterE {d : Int → Option Int} {f : Int → Int} {most first : Int} (h1 : 0 ≤ first) (hd : ∀ z, first ≤ z → z ≤ most → d z = some (f z)) (hge : ∀ z, first ≤ z → first ≤ f z) (hm : ∀ z z', first ≤ z → z ≤ z' → f z ≤ f z') {K : Nat} (hK : most + 2 < K) (hK0 : 1 ≤ K) :
    iter (growStepE d most) K first = some (if grown f first most < 0 then .inl () else .inr (grown f first most)) := by
  obtain ⟨r, hr, hR⟩ := iter_total (f := growStepE d most) (fun w => first ≤ w ∧ (∀ n : Int, first ≤ n → n < w → n < f n) ∧ w ≤ f w) (fun w => (most + 1 - w).toNat)
    (fun r => r = if grown f first most < 0 then .inl () else .inr (grown f first most)) (fun w hI => by
      obtain ⟨h2, h3, h4⟩ := hI
      by_cases hw : w ≤ most
      · simp only [growStepE, if_pos hw, hd w h2 hw]
        by_cases hle : f w = w
        · right
          refine ⟨_, by rw [if_pos hle], ?_⟩
          rw [grown_eq h2 hw (by omega) h3, if_neg (by omega)]
        · left
          refine ⟨_, by rw [if_neg hle], ⟨by omega, fun n hn1 hn2 => ?_, hm _ _ h2 h4⟩, by omega⟩
          by_cases hnw : n < w
          · exact h3 n hn1 hnw
          · have := hm w n (by omega) (by omega)
            omega
      · right
        refine ⟨.inl (), by simp only [growStepE, if_neg hw], ?_⟩
        rw [grown_none (fun n h1 h2 => h3 n h1 (by omega)), if_pos (by omega)]) K first ⟨Int.le_refl _, fun n hn1 hn2 => by omega, hge _ (Int.le_refl _)⟩ (by omega)
  rw [hr, hR]

/-- what a message of a bus is -/
structure Okf (m : SFrame) : Prop where
  C : 1 ≤ m.C ∧ m.C ≤ 10000
  T : 1 ≤ m.T ∧ m.T ≤ 10000
  D : 1 ≤ m.D ∧ m.D ≤ 10000
  J : 0 ≤ m.J ∧ m.J ≤ 10000
  JT : m.J ≤ m.T
instance (m : SFrame) : Decidable (Okf m) := decidable_of_iff ((1 ≤ m.C ∧ m.C ≤ 10000) ∧ (1 ≤ m.T ∧ m.T ≤ 10000) ∧ (1 ≤ m.D ∧ m.D ≤ 10000) ∧ (0 ≤ m.J ∧ m.J ≤ 10000) ∧ m.J ≤ m.T) ⟨fun h => ⟨h.1, h.2.1, h.2.2.1, h.2.2.2.1, h.2.2.2.2⟩, fun h => ⟨h.C, h.T, h.D, h.J, h.JT⟩⟩
/-- what is wrong with message i -/
def frameAt (l : List SFrame) (i : Nat) : Option SFault := match l[i]? with
  | none => none
  | some m => if (1 ≤ m.C ∧ m.C ≤ 10000) ∧ (1 ≤ m.T ∧ m.T ≤ 10000) ∧ (1 ≤ m.D ∧ m.D ≤ 10000) ∧ (0 ≤ m.J ∧ m.J ≤ 10000) then (if m.J > m.T then some ⟨12, i⟩ else none) else some ⟨3, i⟩
noncomputable def busFault (l : List SFrame) : SFault := if 1 ≤ l.length ∧ l.length ≤ 8 then (firstOf (frameAt l) l.length 0).getD ⟨0, 0⟩ else ⟨2, 0⟩
theorem netCheck_eq (l : List SFrame) (K : Nat) (hK : 20 ≤ K) : net_Check.f K l = some (busFault l) := by
  unfold net_Check.f net_Check.p0 busFault
  by_cases h1 : (l.length : Int) < 1
  · rw [if_pos h1, if_neg (by omega)]
  rw [if_neg h1]
  by_cases h2 : (l.length : Int) > 8
  · rw [if_pos h2, if_neg (by omega)]
  rw [if_neg h2, if_pos (by omega)]
  have hr := iter_first0 (f := net_Check.r1 l) (frameAt l) l.length (t := ()) (fun i hi => by
    have hi' : (i : Int) < (l.length : Int) := by omega
    simp only [net_Check.r1, if_pos hi', List.getElem?_eq_getElem hi, frameAt]
    by_cases hg : (1 ≤ l[i].C ∧ l[i].C ≤ 10000) ∧ (1 ≤ l[i].T ∧ l[i].T ≤ 10000) ∧ (1 ≤ l[i].D ∧ l[i].D ≤ 10000) ∧ (0 ≤ l[i].J ∧ l[i].J ≤ 10000)
    · have hp : net_Check.p2 i l[i] = some (.inl ()) := by
        unfold net_Check.p2
        rw [if_neg (by omega), if_neg (by omega), if_neg (by omega), if_neg (by omega), if_neg (by omega), if_neg (by omega), if_neg (by omega), if_neg (by omega)]
      rw [hp, if_pos hg]
      simp only
      split <;> rfl
    · have hp : net_Check.p2 i l[i] = some (.inr ⟨3, i⟩) := by
        unfold net_Check.p2
        repeat' split
        all_goals first | rfl | omega
      rw [hp, if_neg hg]
      rfl) (by simp [net_Check.r1]) (K := K) (by omega)
  rw [hr]
  cases firstOf (frameAt l) l.length 0 <;> rfl
theorem CheckBus_eq (l : List SFrame) (K : Nat) (hK : 20 ≤ K) : punctualref_CheckBus.f K l = some (busFault l) := by
  unfold punctualref_CheckBus.f punctualref_CheckBus.p0 busFault
  by_cases h1 : (l.length : Int) = 0
  · rw [if_pos h1, if_neg (by omega)]; rfl
  rw [if_neg h1]
  by_cases h2 : (l.length : Int) > 8
  · rw [if_pos h2, if_neg (by omega)]; rfl
  rw [if_neg h2, if_pos (by omega)]
  have hr := iter_first0 (f := punctualref_CheckBus.r1 l) (frameAt l) l.length (t := ()) (fun i hi => by
    have hi' : (i : Int) < (l.length : Int) := by omega
    simp only [punctualref_CheckBus.r1, if_pos hi', List.getElem?_eq_getElem hi, frameAt]
    by_cases hg : (1 ≤ l[i].C ∧ l[i].C ≤ 10000) ∧ (1 ≤ l[i].T ∧ l[i].T ≤ 10000) ∧ (1 ≤ l[i].D ∧ l[i].D ≤ 10000) ∧ (0 ≤ l[i].J ∧ l[i].J ≤ 10000)
    · have hp : punctualref_CheckBus.p2 i l[i] = some (.inl ()) := by
        unfold punctualref_CheckBus.p2
        rw [if_neg (by omega), if_neg (by omega), if_neg (by omega), if_neg (by omega), if_neg (by omega), if_neg (by omega), if_neg (by omega), if_neg (by omega)]
      rw [hp, if_pos hg]
      simp only
      split <;> rfl
    · have hp : punctualref_CheckBus.p2 i l[i] = some (.inr ⟨3, i⟩) := by
        unfold punctualref_CheckBus.p2
        repeat' split
        all_goals first | rfl | omega
      rw [hp, if_neg hg]
      rfl) (by simp [punctualref_CheckBus.r1]) (K := K) (by omega)
  rw [hr]
  cases firstOf (frameAt l) l.length 0 <;> rfl
theorem busFault_ok {l : List SFrame} (h : (busFault l).Code = 0) : busFault l = ⟨0, 0⟩ ∧ 1 ≤ l.length ∧ l.length ≤ 8 ∧ ∀ m ∈ l, Okf m := by
  unfold busFault at h ⊢
  split at h
  · rename_i hl
    rw [if_pos hl]
    cases hf : firstOf (frameAt l) l.length 0 with
    | some r =>
      rw [hf] at h
      obtain ⟨j, _, hj, hg, _⟩ := firstOf_some hf
      simp only [Option.getD_some] at h
      exfalso
      unfold frameAt at hg
      rw [List.getElem?_eq_getElem hj] at hg
      simp only at hg
      split at hg
      · split at hg
        · cases hg; exact absurd h (by simp)
        · cases hg
      · cases hg; exact absurd h (by simp)
    | none =>
      refine ⟨rfl, hl.1, hl.2, fun m hm => ?_⟩
      obtain ⟨i, hi, rfl⟩ := List.getElem_of_mem hm
      have hg := firstOf_none hf i (Nat.zero_le _) hi
      unfold frameAt at hg
      rw [List.getElem?_eq_getElem hi] at hg
      simp only at hg
      split at hg
      · rename_i hh
        split at hg
        · cases hg
        · exact ⟨hh.1, hh.2.1, hh.2.2.1, hh.2.2.2, by omega⟩
      · cases hg
  · contradiction
/-- how long one is held up by what comes behind it -/
def heldOf (l : List SFrame) (i : Nat) : Nat → Int
  | 0 => 0
  | n + 1 => match l[i + 1 + n]? with
    | some m => max (heldOf l i n) (m.C - 1)
    | none => heldOf l i n
theorem heldOf_bounds {l : List SFrame} (h : ∀ m ∈ l, Okf m) (i : Nat) : ∀ n, 0 ≤ heldOf l i n ∧ heldOf l i n ≤ 9999
  | 0 => by simp [heldOf]
  | n + 1 => by
    have ih := heldOf_bounds h i n
    simp only [heldOf]
    split
    · rename_i m hm
      have := (h m (List.mem_of_getElem? hm)).C
      omega
    · exact ih
noncomputable def heldBy (l : List SFrame) (i : Nat) : Int := heldOf l i (l.length - (i + 1))
theorem heldBy_bounds {l : List SFrame} (h : ∀ m ∈ l, Okf m) (i : Nat) : 0 ≤ heldBy l i ∧ heldBy l i ≤ 9999 := heldOf_bounds h i _
theorem held_eq (l : List SFrame) (h : ∀ m ∈ l, Okf m) (hl : l.length ≤ 8) (i : Nat) (hi : i < l.length) (K : Nat) (hK : 10 ≤ K) : net_held.f K l (i : Int) = some (heldBy l i) := by
  unfold net_held.f
  have e1 : (IntKind.i64.wrap ((i : Int) + 1)).toNat = i + 1 := by rw [wrap64_small (by omega) (by omega)]; omega
  rw [if_pos (by rw [wrap64_small (by omega) (by omega)]; omega), e1, if_pos (by omega)]
  have hlen : ((l.take l.length).drop (i + 1)).length = l.length - (i + 1) := by simp
  have hr := iter_states (ρ := Int) (f := net_held.r0 l (i : Int)) (fun k => (heldOf l i k, k)) (fun _ => none) (l.length - (i + 1)) (t := heldBy l i) (fun k hk _ => by
    have hk' : (k : Int) < (((l.take l.length).drop (i + 1)).length : Int) := by rw [hlen]; omega
    have hkx : ((l.take l.length).drop (i + 1))[k]? = some l[i + 1 + k] := by rw [List.getElem?_drop, List.take_length]; exact List.getElem?_eq_getElem (by omega)
    have hC := (h l[i + 1 + k] (List.getElem_mem (by omega))).C
    simp only [net_held.r0, e1, if_pos hk', hkx, onwardS, heldOf, List.getElem?_eq_getElem (show i + 1 + k < l.length by omega), gmax_eq]
    rw [wrap64_small (by omega) (by omega)]) (fun _ => by simp only [net_held.r0, e1]; rw [if_neg (by rw [hlen]; omega)]; rfl) (K := K) (by omega)
  rw [show ((0 : Int), (0 : Nat)) = (heldOf l i 0, 0) from rfl, hr, firstOf_none_of (fun _ _ _ => rfl)]
  rfl
theorem netCeil_eq {a b : Int} (ha : 0 ≤ a ∧ a ≤ 1000000) (hb : 1 ≤ b ∧ b ≤ 100000) : net_ceil.f a b = some (ceilD a b) := by
  unfold net_ceil.f
  rw [if_neg (by omega), wrap64_small (n := a + b) (by omega) (by omega), wrap64_small (n := a + b - 1) (by omega) (by omega), Int.tdiv_eq_ediv_of_nonneg (by omega)]
  have h1 := ceilD_nonneg hb.1 ha.1
  have h2 := ceilD_le hb.1 ha.1
  show some (IntKind.i64.wrap (ceilD a b)) = _
  rw [wrap64_small (by omega) (by omega)]
/-- what the first n of them want of the bus in so long a time -/
def busSum (l : List SFrame) (w : Int) : Nat → Int
  | 0 => 0
  | n + 1 => match l[n]? with
    | some o => busSum l w n + ceilD (w + o.J) o.T * o.C
    | none => busSum l w n
/-- .. till that time, and at it -/
def busSum1 (l : List SFrame) (w : Int) : Nat → Int
  | 0 => 0
  | n + 1 => match l[n]? with
    | some o => busSum1 l w n + ((w + o.J) / o.T + 1) * o.C
    | none => busSum1 l w n
theorem busTerm_bounds {o : SFrame} (h : Okf o) {w : Int} (hw : 0 ≤ w ∧ w ≤ 100000) : (0 ≤ ceilD (w + o.J) o.T ∧ ceilD (w + o.J) o.T ≤ 110000) ∧ (0 ≤ ceilD (w + o.J) o.T * o.C ∧ ceilD (w + o.J) o.T * o.C ≤ 1100000000) ∧ (0 ≤ (w + o.J) / o.T ∧ (w + o.J) / o.T ≤ 110000) ∧ (0 ≤ ((w + o.J) / o.T + 1) * o.C ∧ ((w + o.J) / o.T + 1) * o.C ≤ 1100010000) := by
  have hC := h.C; have hT := h.T; have hJ := h.J
  have h1 := ceilD_nonneg hT.1 (show 0 ≤ w + o.J by omega)
  have h2 := ceilD_le hT.1 (show 0 ≤ w + o.J by omega)
  have h3 : 0 ≤ (w + o.J) / o.T := Int.ediv_nonneg (by omega) (by omega)
  have h4 : (w + o.J) / o.T ≤ w + o.J := Int.ediv_le_self _ (by omega)
  refine ⟨⟨h1, by omega⟩, ⟨Int.mul_nonneg h1 (by omega), ?_⟩, ⟨h3, by omega⟩, Int.mul_nonneg (by omega) (by omega), ?_⟩
  · calc ceilD (w + o.J) o.T * o.C ≤ 110000 * o.C := Int.mul_le_mul_of_nonneg_right (by omega) (by omega)
      _ ≤ 110000 * 10000 := Int.mul_le_mul_of_nonneg_left (by omega) (by omega)
      _ = 1100000000 := by decide
  · calc ((w + o.J) / o.T + 1) * o.C ≤ 110001 * o.C := Int.mul_le_mul_of_nonneg_right (by omega) (by omega)
      _ ≤ 110001 * 10000 := Int.mul_le_mul_of_nonneg_left (by omega) (by omega)
      _ = 1100010000 := by decide
theorem busSum_bounds {l : List SFrame} (h : ∀ m ∈ l, Okf m) {w : Int} (hw : 0 ≤ w ∧ w ≤ 100000) : ∀ n : Nat, (0 ≤ busSum l w n ∧ busSum l w n ≤ 1100000000 * (n : Int)) ∧ (0 ≤ busSum1 l w n ∧ busSum1 l w n ≤ 1100010000 * (n : Int))
  | 0 => by simp [busSum, busSum1]
  | n + 1 => by
    obtain ⟨h1, h2⟩ := busSum_bounds h hw n
    simp only [busSum, busSum1]
    cases hn : l[n]? with
    | none => simp only; omega
    | some o =>
      have := busTerm_bounds (h o (List.mem_of_getElem? hn)) hw
      simp only
      omega
theorem busSum_mono {l : List SFrame} (h : ∀ m ∈ l, Okf m) {w w' : Int} (hw : w ≤ w') : ∀ n, busSum l w n ≤ busSum l w' n ∧ busSum1 l w n ≤ busSum1 l w' n
  | 0 => by simp [busSum, busSum1]
  | n + 1 => by
    obtain ⟨h1, h2⟩ := busSum_mono h hw n
    simp only [busSum, busSum1]
    cases hn : l[n]? with
    | none => exact ⟨h1, h2⟩
    | some o =>
      have ho := h o (List.mem_of_getElem? hn)
      have hC := ho.C
      have h3 : ceilD (w + o.J) o.T * o.C ≤ ceilD (w' + o.J) o.T * o.C := Int.mul_le_mul_of_nonneg_right (ceilD_mono ho.T.1 (by omega)) (by omega)
      have h5 : (w + o.J) / o.T ≤ (w' + o.J) / o.T := Int.ediv_le_ediv (by have := ho.T; omega) (by omega)
      have h4 : ((w + o.J) / o.T + 1) * o.C ≤ ((w' + o.J) / o.T + 1) * o.C := Int.mul_le_mul_of_nonneg_right (by omega) (by omega)
      simp only
      omega
theorem busy_eq (l : List SFrame) (h : ∀ m ∈ l, Okf m) (hl : l.length ≤ 8) (i : Nat) (hi : i < l.length) (b w : Int) (hb : 0 ≤ b ∧ b ≤ 9999) (hw : 0 ≤ w ∧ w ≤ 100000) (K : Nat) (hK : 10 ≤ K) : net_time_1.f K w b l (i : Int) = some (b + busSum l w (i + 1)) := by
  unfold net_time_1.f
  have e1 : (IntKind.i64.wrap ((i : Int) + 1)).toNat = i + 1 := by rw [wrap64_small (by omega) (by omega)]; omega
  rw [if_pos (by rw [wrap64_small (by omega) (by omega)]; omega), e1, if_pos (by omega)]
  have hlen : ((l.take (i + 1)).drop 0).length = i + 1 := by simp; omega
  have hr := iter_states (ρ := Int) (f := net_time_1.r0 w l (i : Int)) (fun k => (b + busSum l w k, k)) (fun _ => none) (i + 1) (t := b + busSum l w (i + 1)) (fun k hk _ => by
    have hk' : (k : Int) < (((l.take (i + 1)).drop 0).length : Int) := by rw [hlen]; omega
    have hkx : ((l.take (i + 1)).drop 0)[k]? = some l[k] := by rw [List.drop_zero, List.getElem?_take_of_lt hk]; exact List.getElem?_eq_getElem (by omega)
    have ho := h l[k] (List.getElem_mem (by omega))
    have hC := ho.C; have hT := ho.T; have hJ := ho.J
    have ht := busTerm_bounds ho hw
    have hs := (busSum_bounds h hw k).1
    simp only [net_time_1.r0, e1, if_pos hk', hkx, onwardS, busSum, List.getElem?_eq_getElem (show k < l.length by omega)]
    rw [wrap64_small (n := w + l[k].J) (by omega) (by omega), netCeil_eq ⟨by omega, by omega⟩ ⟨by omega, by omega⟩]
    simp only
    rw [wrap64_small (n := ceilD (w + l[k].J) l[k].T * l[k].C) (by omega) (by omega), wrap64_small (by omega) (by omega)]
    congr 3
    omega) (fun _ => by simp only [net_time_1.r0, e1]; rw [if_neg (by rw [hlen]; omega)]) (K := K) (by omega)
  have h0 : b + busSum l w 0 = b := by simp [busSum]
  rw [h0] at hr
  rw [hr, firstOf_none_of (fun _ _ _ => rfl)]
  rfl
/-- what of message m a number is worth on the bus -/
theorem many_bounds {m : SFrame} (h : Okf m) {q : Int} (hq : 0 ≤ q ∧ q ≤ 110000) : 0 ≤ q * m.C ∧ q * m.C ≤ 1100000000 := by
  have hC := h.C
  refine ⟨Int.mul_nonneg hq.1 (by omega), ?_⟩
  calc q * m.C ≤ 110000 * m.C := Int.mul_le_mul_of_nonneg_right (by omega) (by omega)
    _ ≤ 110000 * 10000 := Int.mul_le_mul_of_nonneg_left (by omega) (by omega)
    _ = 1100000000 := by decide
theorem many_boundsT {m : SFrame} (h : Okf m) {q : Int} (hq : 0 ≤ q ∧ q ≤ 110000) : 0 ≤ q * m.T ∧ q * m.T ≤ 1100000000 := by
  have hC := h.T
  refine ⟨Int.mul_nonneg hq.1 (by omega), ?_⟩
  calc q * m.T ≤ 110000 * m.T := Int.mul_le_mul_of_nonneg_right (by omega) (by omega)
    _ ≤ 110000 * 10000 := Int.mul_le_mul_of_nonneg_left (by omega) (by omega)
    _ = 1100000000 := by decide
theorem queue_eq (l : List SFrame) (h : ∀ m ∈ l, Okf m) (hl : l.length ≤ 8) (i : Nat) (hi : i < l.length) (m : SFrame) (hm : Okf m) (b q w : Int) (hb : 0 ≤ b ∧ b ≤ 9999) (hq : 0 ≤ q ∧ q ≤ 110000) (hw : 0 ≤ w ∧ w ≤ 100000) (K : Nat) (hK : 10 ≤ K) : net_time_2.f K w b q m l (i : Int) = some (b + q * m.C + busSum1 l w i) := by
  unfold net_time_2.f
  have hqb := many_bounds hm hq
  rw [if_pos (by omega), Int.toNat_natCast, if_pos (by omega), wrap64_small (n := q * m.C) (by omega) (by omega), wrap64_small (by omega) (by omega)]
  have hlen : ((l.take i).drop 0).length = i := by simp; omega
  have hr := iter_states (ρ := Int) (f := net_time_2.r0 w l (i : Int)) (fun k => (b + q * m.C + busSum1 l w k, k)) (fun _ => none) i (t := b + q * m.C + busSum1 l w i) (fun k hk _ => by
    have hk' : (k : Int) < (((l.take i).drop 0).length : Int) := by rw [hlen]; omega
    have hkx : ((l.take i).drop 0)[k]? = some l[k] := by rw [List.drop_zero, List.getElem?_take_of_lt hk]; exact List.getElem?_eq_getElem (by omega)
    have ho := h l[k] (List.getElem_mem (by omega))
    have hC := ho.C; have hT := ho.T; have hJ := ho.J
    have ht := busTerm_bounds ho hw
    have hs := (busSum_bounds h hw k).2
    simp only [net_time_2.r0, Int.toNat_natCast, if_pos hk', hkx, onwardS, busSum1, List.getElem?_eq_getElem (show k < l.length by omega)]
    rw [if_neg (by omega), wrap64_small (n := w + l[k].J) (by omega) (by omega), Int.tdiv_eq_ediv_of_nonneg (by omega), wrap64_small (n := (w + l[k].J) / l[k].T) (by omega) (by omega), wrap64_small (n := (w + l[k].J) / l[k].T + 1) (by omega) (by omega), wrap64_small (n := ((w + l[k].J) / l[k].T + 1) * l[k].C) (by omega) (by omega), wrap64_small (by omega) (by omega)]
    congr 3
    omega) (fun _ => by simp only [net_time_2.r0, Int.toNat_natCast]; rw [if_neg (by rw [hlen]; omega)]) (K := K) (by omega)
  have h0 : b + q * m.C + busSum1 l w 0 = b + q * m.C := by simp [busSum1]
  rw [h0] at hr
  rw [hr, firstOf_none_of (fun _ _ _ => rfl)]
  rfl
/-- how long the bus is not free, and when a message of the row begins -/
noncomputable def busyOf (l : List SFrame) (i : Nat) (m : SFrame) : Int := grown (fun w => heldBy l i + busSum l w (i + 1)) (heldBy l i + m.C) 100000
noncomputable def queueOf (l : List SFrame) (i : Nat) (m : SFrame) (q : Int) : Int := grown (fun w => heldBy l i + q * m.C + busSum1 l w i) (heldBy l i + q * m.C) 100000
theorem busSum_ge {l : List SFrame} (h : ∀ m ∈ l, Okf m) {i : Nat} {m : SFrame} (hm : l[i]? = some m) {w : Int} (hw : 1 ≤ w) : m.C ≤ busSum l w (i + 1) := by
  have ho := h m (List.mem_of_getElem? hm)
  have h1 := (busSum_mono h hw (i + 1)).1
  have h2 := (busSum_bounds h (w := 1) ⟨by omega, by omega⟩ i).1
  have hC := ho.C; have hT := ho.T; have hJ := ho.J
  have h3 : 1 ≤ ceilD (1 + m.J) m.T := by
    unfold ceilD
    rw [Int.le_ediv_iff_mul_le (by omega)]
    omega
  have h4 : 1 * m.C ≤ ceilD (1 + m.J) m.T * m.C := Int.mul_le_mul_of_nonneg_right h3 (by omega)
  simp only [busSum, hm] at h1 ⊢
  omega
theorem settleBusy_eq (l : List SFrame) (h : ∀ m ∈ l, Okf m) (hl : l.length ≤ 8) (i : Nat) (m : SFrame) (hm : l[i]? = some m) (K : Nat) (hK : 100100 ≤ K) : net_settle.f K (heldBy l i + m.C) 100000 (heldBy l i) l (i : Int) = some (busyOf l i m) := by
  have hi := lt_of_get hm
  have hb := heldBy_bounds h i
  have hC := (h m (List.mem_of_getElem? hm)).C
  have hit := grow_iter (d := fun z => net_time_1.f K z (heldBy l i) l (i : Int)) (f := fun w => heldBy l i + busSum l w (i + 1)) (first := heldBy l i + m.C) (most := 100000) (by omega) (fun z h1 h2 => busy_eq l h hl i hi _ z hb ⟨by omega, by omega⟩ K (by omega))
    (fun z h1 => by have := busSum_ge h hm (w := z) (by omega); omega) (fun z z' _ h2 => by have := (busSum_mono h h2 (i + 1)).1; omega) (K := K) (by omega) (by omega)
  unfold net_settle.f
  have e : net_settle.r0 K 100000 (heldBy l i) l (i : Int) = growStep (fun z => net_time_1.f K z (heldBy l i) l (i : Int)) 100000 := rfl
  rw [e, hit]
  show _ = some (grown _ _ _)
  rcases grown_range (f := fun w => heldBy l i + busSum l w (i + 1)) (most := 100000) (show 0 ≤ heldBy l i + m.C by omega) with hg | hg
  · rw [hg]; rfl
  · rw [if_neg (by omega)]
theorem settleQueue_eq (l : List SFrame) (h : ∀ m ∈ l, Okf m) (hl : l.length ≤ 8) (i : Nat) (m : SFrame) (hm : l[i]? = some m) (q : Int) (hq : 0 ≤ q ∧ q ≤ 110000) (K : Nat) (hK : 100100 ≤ K) : net_settle_1.f K (heldBy l i + q * m.C) 100000 (heldBy l i) q m l (i : Int) = some (queueOf l i m q) := by
  have hi := lt_of_get hm
  have hb := heldBy_bounds h i
  have ho := h m (List.mem_of_getElem? hm)
  have hqb := many_bounds ho hq
  have hs0 := (busSum_bounds h (w := 0) ⟨by omega, by omega⟩ i).2
  have hit := grow_iter (d := fun z => net_time_2.f K z (heldBy l i) q m l (i : Int)) (f := fun w => heldBy l i + q * m.C + busSum1 l w i) (first := heldBy l i + q * m.C) (most := 100000) (by omega) (fun z h1 h2 => queue_eq l h hl i hi m ho _ q z hb hq ⟨by omega, by omega⟩ K (by omega))
    (fun z h1 => by have := (busSum_mono h (show 0 ≤ z by omega) i).2; omega) (fun z z' _ h2 => by have := (busSum_mono h h2 i).2; omega) (K := K) (by omega) (by omega)
  unfold net_settle_1.f
  have e : net_settle_1.r0 K 100000 (heldBy l i) q m l (i : Int) = growStep (fun z => net_time_2.f K z (heldBy l i) q m l (i : Int)) 100000 := rfl
  rw [e, hit]
  show _ = some (grown _ _ _)
  rcases grown_range (f := fun w => heldBy l i + q * m.C + busSum1 l w i) (most := 100000) (show 0 ≤ heldBy l i + q * m.C by omega) with hg | hg
  · rw [hg]; rfl
  · rw [if_neg (by omega)]
/-- how long the message takes that is number q of a busy time -/
noncomputable def tookOf (l : List SFrame) (i : Nat) (m : SFrame) (q : Nat) : Int := m.J + queueOf l i m q - q * m.T + m.C
/-- the worst of the first n of them -/
noncomputable def worstOf (l : List SFrame) (i : Nat) (m : SFrame) : Nat → Int
  | 0 => 0
  | n + 1 => max (worstOf l i m n) (tookOf l i m n)
/-- how many there may be in a busy time -/
noncomputable def rowOf (l : List SFrame) (i : Nat) (m : SFrame) : Nat := (ceilD (busyOf l i m + m.J) m.T).toNat
/-- time of message i at worst; below 0: there is none -/
noncomputable def timeOf (l : List SFrame) (i : Nat) (m : SFrame) : Int :=
  if busyOf l i m < 0 then -1 else
  match firstOf (fun q : Nat => if queueOf l i m q < 0 then some () else none) (rowOf l i m) 0 with
  | some _ => -1
  | none => worstOf l i m (rowOf l i m)
theorem busyOf_range {l : List SFrame} (h : ∀ m ∈ l, Okf m) {i : Nat} {m : SFrame} (hm : l[i]? = some m) : busyOf l i m = -1 ∨ (1 ≤ busyOf l i m ∧ busyOf l i m ≤ 100000) := by
  have hb := heldBy_bounds h i
  have hC := (h m (List.mem_of_getElem? hm)).C
  rcases grown_range (f := fun w => heldBy l i + busSum l w (i + 1)) (most := 100000) (show 0 ≤ heldBy l i + m.C by omega) with hg | hg
  · exact .inl hg
  · right; unfold busyOf; omega
theorem queueOf_range {l : List SFrame} (h : ∀ m ∈ l, Okf m) {i : Nat} {m : SFrame} (hm : l[i]? = some m) {q : Int} (hq : 0 ≤ q ∧ q ≤ 110000) : queueOf l i m q = -1 ∨ (0 ≤ queueOf l i m q ∧ queueOf l i m q ≤ 100000) := by
  have hb := heldBy_bounds h i
  have hqb := many_bounds (h m (List.mem_of_getElem? hm)) hq
  rcases grown_range (f := fun w => heldBy l i + q * m.C + busSum1 l w i) (most := 100000) (show 0 ≤ heldBy l i + q * m.C by omega) with hg | hg
  · exact .inl hg
  · right; unfold queueOf; omega
theorem rowOf_le {l : List SFrame} (h : ∀ m ∈ l, Okf m) {i : Nat} {m : SFrame} (hm : l[i]? = some m) (hb : 0 ≤ busyOf l i m) : (rowOf l i m : Int) = ceilD (busyOf l i m + m.J) m.T ∧ rowOf l i m ≤ 110000 := by
  have ho := h m (List.mem_of_getElem? hm)
  have hr := busyOf_range h hm
  have hT := ho.T; have hJ := ho.J
  have h1 := ceilD_nonneg hT.1 (show 0 ≤ busyOf l i m + m.J by omega)
  have h2 := ceilD_le hT.1 (show 0 ≤ busyOf l i m + m.J by omega)
  unfold rowOf
  omega
theorem took_bounds {l : List SFrame} (h : ∀ m ∈ l, Okf m) {i : Nat} {m : SFrame} (hm : l[i]? = some m) {q : Nat} (hq : q ≤ 110000) : -1200000000 ≤ tookOf l i m q ∧ tookOf l i m q ≤ 200000 := by
  have ho := h m (List.mem_of_getElem? hm)
  have hr := queueOf_range h hm (q := (q : Int)) ⟨by omega, by omega⟩
  have ht := many_boundsT ho (q := (q : Int)) ⟨by omega, by omega⟩
  have hC := ho.C; have hJ := ho.J
  unfold tookOf
  omega
theorem worst_bounds {l : List SFrame} (h : ∀ m ∈ l, Okf m) {i : Nat} {m : SFrame} (hm : l[i]? = some m) : ∀ n : Nat, n ≤ 110000 → 0 ≤ worstOf l i m n ∧ worstOf l i m n ≤ 200000
  | 0, _ => by simp [worstOf]
  | n + 1, hn => by
    have ih := worst_bounds h hm n (by omega)
    have := took_bounds h hm (q := n) (by omega)
    simp only [worstOf]
    omega
theorem time_eq (l : List SFrame) (h : ∀ m ∈ l, Okf m) (hl : l.length ≤ 8) (i : Nat) (m : SFrame) (hm : l[i]? = some m) (K : Nat) (hK : 200000 ≤ K) : net_time.f K l (i : Int) = some (timeOf l i m) := by
  have hi := lt_of_get hm
  have hb := heldBy_bounds h i
  have ho := h m (List.mem_of_getElem? hm)
  have hC := ho.C; have hT := ho.T; have hJ := ho.J
  unfold net_time.f net_time.p0
  rw [if_pos (by omega), Int.toNat_natCast, hm]
  simp only
  rw [held_eq l h hl i hi K (by omega)]
  simp only
  rw [wrap64_small (n := heldBy l i + m.C) (by omega) (by omega), settleBusy_eq l h hl i m hm K (by omega)]
  simp only
  unfold timeOf
  by_cases hn : busyOf l i m < 0
  · rw [if_pos hn, if_pos hn]
  · rw [if_neg hn, if_neg hn]
    have hr := busyOf_range h hm
    obtain ⟨hrow, hrow2⟩ := rowOf_le h hm (by omega)
    rw [wrap64_small (n := busyOf l i m + m.J) (by omega) (by omega), netCeil_eq ⟨by omega, by omega⟩ ⟨by omega, by omega⟩, ← hrow]
    simp only
    have hit := iter_states (ρ := Int) (f := net_time.r1 K l (i : Int) m.C m.T m.D m.J (heldBy l i) (rowOf l i m : Int)) (fun k => (worstOf l i m k, (k : Int))) (fun q => (if queueOf l i m q < 0 then some () else none).map fun _ => -1) (rowOf l i m) (t := worstOf l i m (rowOf l i m)) (fun k hk _ => by
      have hk' : (k : Int) < (rowOf l i m : Int) := by omega
      have hqb := many_bounds ho (q := (k : Int)) ⟨by omega, by omega⟩
      have hqt := many_boundsT ho (q := (k : Int)) ⟨by omega, by omega⟩
      have hqr := queueOf_range h hm (q := (k : Int)) ⟨by omega, by omega⟩
      have hwb := worst_bounds h hm k (by omega)
      simp only [net_time.r1, if_pos hk']
      rw [wrap64_small (n := (k : Int) * m.C) (by omega) (by omega), wrap64_small (n := heldBy l i + (k : Int) * m.C) (by omega) (by omega), settleQueue_eq l h hl i m hm (k : Int) ⟨by omega, by omega⟩ K (by omega)]
      simp only
      by_cases hz : queueOf l i m k < 0
      · rw [if_pos hz, if_pos hz]; rfl
      · rw [if_neg hz, if_neg hz]
        simp only [Option.map_none, onwardS, worstOf, tookOf, gmax_eq]
        rw [wrap64_small (n := m.J + queueOf l i m k) (by omega) (by omega), wrap64_small (n := (k : Int) * m.T) (by omega) (by omega), wrap64_small (n := m.J + queueOf l i m k - (k : Int) * m.T) (by omega) (by omega), wrap64_small (n := m.J + queueOf l i m k - (k : Int) * m.T + m.C) (by omega) (by omega), wrap64_small (n := (k : Int) + 1) (by omega) (by omega)]
        rfl) (fun _ => by simp only [net_time.r1]; rw [if_neg (by omega)]) (K := K) (by omega)
    have h0 : worstOf l i m 0 = 0 := rfl
    rw [h0] at hit
    simp only [Int.natCast_zero] at hit
    rw [hit, firstOf_map]
    cases firstOf (fun q : Nat => if queueOf l i m q < 0 then some () else none) (rowOf l i m) 0 <;> rfl
/-- how long the messages take, from the first on: what is told where one has no time -/
noncomputable def noTime (l : List SFrame) (i : Nat) : Option ((List Int) × SFault) := match l[i]? with
  | none => none
  | some m => if timeOf l i m < 0 ∨ timeOf l i m > m.D then some ([], ⟨13, i⟩) else none
/-- the times of the first n -/
noncomputable def timesTill (l : List SFrame) : Nat → List Int
  | 0 => []
  | n + 1 => match l[n]? with
    | some m => timesTill l n ++ [timeOf l n m]
    | none => timesTill l n
theorem timesTill_len (l : List SFrame) : ∀ n, (timesTill l n).length ≤ n
  | 0 => by simp [timesTill]
  | n + 1 => by
    have ih := timesTill_len l n
    simp only [timesTill]
    split
    · simp; omega
    · omega
noncomputable def timesOf (l : List SFrame) : (List Int) × SFault :=
  if (busFault l).Code = 0 then (firstOf (noTime l) l.length 0).getD (timesTill l l.length, ⟨0, 0⟩) else ([], busFault l)
theorem Times_eq (l : List SFrame) (K : Nat) (hK : 200000 ≤ K) : net_Times.f K l = some (timesOf l) := by
  unfold net_Times.f timesOf
  rw [netCheck_eq l K (by omega)]
  simp only
  by_cases hc : (busFault l).Code = 0
  · rw [if_pos hc, if_pos hc]
    obtain ⟨_, h1, h8, hok⟩ := busFault_ok hc
    have hit := iter_states (ρ := (List Int) × SFault) (f := net_Times.r0 K l) (fun k => (timesTill l k, k)) (noTime l) l.length (t := timesTill l l.length) (fun k hk _ => by
      have hk' : (k : Int) < (l.length : Int) := by omega
      have hkx : l[k]? = some l[k] := List.getElem?_eq_getElem hk
      have hlen := timesTill_len l k
      simp only [net_Times.r0, if_pos hk', hkx, time_eq l hok h8 k l[k] hkx K hK, noTime, timesTill]
      by_cases ha : timeOf l k l[k] < 0
      · rw [if_pos ha, if_pos (.inl ha)]; rfl
      · rw [if_neg ha]
        by_cases hb : timeOf l k l[k] > l[k].D
        · rw [if_pos hb, if_pos (.inr hb)]; rfl
        · rw [if_neg hb, if_pos (by omega), if_neg (by omega)]; rfl) (fun _ => by simp [net_Times.r0]) (K := K) (by omega)
    rw [show (([] : List Int), 0) = (timesTill l 0, 0) from rfl, hit]
    cases firstOf (noTime l) l.length 0 <;> rfl
  · rw [if_neg hc, if_neg hc]
/-- what is wrong with the i-th job that is played -/
def playAt (l : List SJob) (i : Nat) : Option SFault := match l[i]? with
  | some e => if e.At < 0 ∨ e.At > 60000 ∨ e.C < 1 ∨ e.C > 10000 ∨ e.Due < 0 ∨ e.Due > 80000 then some ⟨3, (i : Int)⟩ else none
  | none => none
def playFault (l : List SJob) : SFault := if l.length > 4000 then ⟨2, 0⟩ else (firstOf (playAt l) l.length 0).getD ⟨0, 0⟩
theorem schedCheck_eq (l : List SJob) (K : Nat) (hK : 4010 ≤ K) : sched_Check.f K l = some (playFault l) := by
  unfold sched_Check.f playFault
  by_cases hl : (l.length : Int) > 4000
  · rw [if_pos hl, if_pos (by omega)]
  rw [if_neg hl, if_neg (by omega)]
  have hr := iter_first0 (f := sched_Check.r0 l) (playAt l) l.length (t := ()) (fun i hi => by
    have hi' : (i : Int) < (l.length : Int) := by omega
    simp only [sched_Check.r0, if_pos hi', List.getElem?_eq_getElem hi, playAt]
    generalize l[i] = e
    by_cases h : e.At < 0 ∨ e.At > 60000 ∨ e.C < 1 ∨ e.C > 10000 ∨ e.Due < 0 ∨ e.Due > 80000
    · rw [if_pos h]
      repeat' split
      all_goals first | rfl | omega
    · rw [if_neg h]
      rw [if_neg (by omega), if_neg (by omega), if_neg (by omega), if_neg (by omega), if_neg (by omega), if_neg (by omega)]
      rfl) (by simp [sched_Check.r0]) (K := K) (by omega)
  rw [hr]
  cases firstOf (playAt l) l.length 0 <;> rfl
structure Okj (e : SJob) : Prop where
  At : 0 ≤ e.At ∧ e.At ≤ 60000
  C : 1 ≤ e.C ∧ e.C ≤ 10000
  Due : 0 ≤ e.Due ∧ e.Due ≤ 80000
theorem playFault_ok {l : List SJob} (h : (playFault l).Code = 0) : l.length ≤ 4000 ∧ playFault l = ⟨0, 0⟩ ∧ ∀ e ∈ l, Okj e := by
  unfold playFault at h ⊢
  split at h
  · cases h
  rename_i hl
  cases hf : firstOf (playAt l) l.length 0 with
  | none =>
    refine ⟨by omega, by rw [if_neg hl]; rfl, fun e he => ?_⟩
    obtain ⟨i, hi⟩ := List.mem_iff_getElem?.1 he
    have := firstOf_none hf i (Nat.zero_le _) (lt_of_get hi)
    simp only [playAt, hi] at this
    split at this
    · cases this
    · exact ⟨by omega, by omega, by omega⟩
  | some r =>
    rw [hf] at h
    obtain ⟨j, _, hj, hg, _⟩ := firstOf_some hf
    exfalso
    simp only [playAt, List.getElem?_eq_getElem hj] at hg
    split at hg
    · cases hg; cases h
    · cases hg
theorem playFault_of {l : List SJob} (hl : l.length ≤ 4000) (h : ∀ e ∈ l, Okj e) : playFault l = ⟨0, 0⟩ := by
  unfold playFault
  rw [if_neg (by omega), firstOf_none_of]
  · rfl
  · intro j _ hj
    have he := h l[j] (List.getElem_mem hj)
    have := he.At; have := he.C; have := he.Due
    simp only [playAt, List.getElem?_eq_getElem hj]
    rw [if_neg (by omega)]
/-- job a goes ahead of job b, by a policy, then by their times -/
def aheadJ (p : Int) (a b : SJob) : Prop := if p = 1 then a.P > b.P ∨ (a.P = b.P ∧ a.At < b.At) else a.Due < b.Due ∨ (a.Due = b.Due ∧ a.At < b.At)
instance (p : Int) (a b : SJob) : Decidable (aheadJ p a b) := by unfold aheadJ; infer_instance
theorem compare_eq (x y : Int) : cmp_Compare_int.f x y = if x < y then -1 else if x > y then 1 else 0 := by simp [cmp_Compare_int.f, cmp_isNaN_int.f]
theorem or2_eq (x y : Int) (K : Nat) (hK : 3 ≤ K) : cmp_Or_int.f K [x, y] = some (if x = 0 then y else x) := by
  obtain ⟨K, rfl⟩ : ∃ k, K = k + 3 := ⟨K - 3, by omega⟩
  simp only [cmp_Or_int.f, iter, cmp_Or_int.r0]
  by_cases hx : x = 0 <;> by_cases hy : y = 0 <;> simp [hx, hy]
/-- can it run at t? -/
def canJ (jobs : List SJob) (left : List Int) (t : Int) (i : Nat) : Prop := match jobs[i]?, left[i]? with
  | some j, some x => j.At ≤ t ∧ 0 < x
  | _, _ => False
instance (jobs : List SJob) (left : List Int) (t : Int) (i : Nat) : Decidable (canJ jobs left t i) := by unfold canJ; split <;> infer_instance
/-- the first of the first n -/
def firstTo (p : Int) (jobs : List SJob) (left : List Int) (t : Int) : Nat → Int
  | 0 => -1
  | n + 1 =>
    let b := firstTo p jobs left t n
    if canJ jobs left t n then
      (if b < 0 then (n : Int) else match jobs[n]?, jobs[b.toNat]? with
        | some x, some y => if aheadJ p x y then (n : Int) else b
        | _, _ => b)
    else b
theorem firstTo_cases (p : Int) (jobs : List SJob) (left : List Int) (t : Int) : ∀ n, n ≤ jobs.length → (firstTo p jobs left t n = -1 ∧ ∀ i, i < n → ¬ canJ jobs left t i) ∨
    (∃ (b : Nat) (y : SJob), firstTo p jobs left t n = (b : Int) ∧ b < n ∧ jobs[b]? = some y ∧ canJ jobs left t b ∧ ∀ i x, i < n → jobs[i]? = some x → canJ jobs left t i → ¬ aheadJ p x y ∧ (i < b → aheadJ p y x))
  | 0, _ => .inl ⟨rfl, fun i h => by omega⟩
  | n + 1, hn => by
    have hnx : jobs[n]? = some jobs[n] := List.getElem?_eq_getElem (by omega)
    generalize jobs[n] = x at hnx
    have irr : ∀ x : SJob, ¬ aheadJ p x x := fun x h => by unfold aheadJ at h; split at h <;> omega
    have tr : ∀ x y z : SJob, aheadJ p x y → ¬ aheadJ p z y → ¬ aheadJ p z x := fun x y z h k hh => by
      unfold aheadJ at h k hh; split at h <;> simp_all <;> omega
    have tr2 : ∀ x y z : SJob, aheadJ p x y → aheadJ p y z → aheadJ p x z := fun x y z h k => by
      unfold aheadJ at h k ⊢; split at h <;> simp_all <;> omega
    have tr3 : ∀ x y z : SJob, aheadJ p x y → ¬ aheadJ p z y → aheadJ p x z := fun x y z h k => by
      unfold aheadJ at h k ⊢; split at h <;> simp_all <;> omega
    rcases firstTo_cases p jobs left t n (by omega) with ⟨h1, h2⟩ | ⟨b, y, h1, h2, h3, h4, h5⟩
    · by_cases hc : canJ jobs left t n
      · right
        refine ⟨n, x, by simp only [firstTo, if_pos hc, h1]; rfl, by omega, hnx, hc, fun i z hi hz hcz => ?_⟩
        by_cases hin : i = n
        · subst hin; rw [hnx] at hz; cases hz; exact ⟨irr _, fun h => by omega⟩
        · exact absurd hcz (h2 i (by omega))
      · left
        refine ⟨by simp only [firstTo, if_neg hc, h1], fun i hi => ?_⟩
        by_cases hin : i = n
        · subst hin; exact hc
        · exact h2 i (by omega)
    · right
      by_cases hc : canJ jobs left t n
      · by_cases ha : aheadJ p x y
        · refine ⟨n, x, by simp only [firstTo, if_pos hc, h1, Int.toNat_natCast, hnx, h3, if_pos ha]; rw [if_neg (by omega)], by omega, hnx, hc, fun i z hi hz hcz => ?_⟩
          by_cases hin : i = n
          · subst hin; rw [hnx] at hz; cases hz; exact ⟨irr _, fun h => by omega⟩
          · obtain ⟨g1, g2⟩ := h5 i z (by omega) hz hcz
            exact ⟨tr x y z ha g1, fun _ => tr3 x y z ha g1⟩
        · refine ⟨b, y, by simp only [firstTo, if_pos hc, h1, Int.toNat_natCast, hnx, h3, if_neg ha]; rw [if_neg (by omega)], by omega, h3, h4, fun i z hi hz hcz => ?_⟩
          by_cases hin : i = n
          · subst hin; rw [hnx] at hz; cases hz; exact ⟨ha, fun h => by omega⟩
          · exact h5 i z (by omega) hz hcz
      · refine ⟨b, y, by simp only [firstTo, if_neg hc, h1], by omega, h3, h4, fun i z hi hz hcz => ?_⟩
        by_cases hin : i = n
        · subst hin; exact absurd hcz hc
        · exact h5 i z (by omega) hz hcz
theorem can_eq (jobs : List SJob) (left : List Int) (t : Int) (i : Nat) (hi : i < jobs.length) (hl : left.length = jobs.length) : sched_Play_1.f (i : Int) jobs t left = some (decide (canJ jobs left t i)) := by
  have h1 : jobs[i]? = some jobs[i] := List.getElem?_eq_getElem hi
  have h2 : left[i]? = some (left[i]'(by omega)) := List.getElem?_eq_getElem (by omega)
  simp only [sched_Play_1.f, Int.toNat_natCast, h1, h2, canJ]
  rw [if_pos (by omega)]
  by_cases h : jobs[i].At ≤ t
  · simp [h]
  · simp [h]
theorem First_eq (p : Int) (hp : p = 1 ∨ p = 2) (jobs : List SJob) (left : List Int) (t : Int) (hl : left.length = jobs.length) (K : Nat) (hK : jobs.length + 5 ≤ K) : sched_First.f K jobs jobs t left p = some (firstTo p jobs left t jobs.length) := by
  unfold sched_First.f
  have hr := iter_states (ρ := Int) (f := sched_First.r0 K jobs jobs t left p) (fun i => (firstTo p jobs left t i, i)) (fun _ => none) jobs.length (t := firstTo p jobs left t jobs.length) (fun i hi _ => by
    have hi' : (i : Int) < (jobs.length : Int) := by omega
    have h1 : jobs[i]? = some jobs[i] := List.getElem?_eq_getElem hi
    simp only [sched_First.r0, if_pos hi', h1, can_eq jobs left t i hi hl, decide_eq_true_eq, onwardS]
    by_cases hc : canJ jobs left t i
    · rw [if_pos hc]
      rcases firstTo_cases p jobs left t i (by omega) with ⟨g1, _⟩ | ⟨b, y, g1, g2, g3, _, _⟩
      · rw [g1, if_pos (by omega)]
        simp only [firstTo, if_pos hc, g1]
        rfl
      · rw [g1, if_neg (by omega), if_pos (by omega)]
        simp only [Int.toNat_natCast, g3]
        have e1 : firstTo p jobs left t (i + 1) = if aheadJ p jobs[i] y then (i : Int) else (b : Int) := by
          simp only [firstTo, if_pos hc, g1, Int.toNat_natCast, h1, g3]
          rw [if_neg (by omega)]
        rw [e1]
        rcases hp with rfl | rfl
        · simp [sched_rule.f, or2_eq _ _ K (show 3 ≤ K by omega), sched_byPriority.f, compare_eq, aheadJ]
          repeat' split
          all_goals first | rfl | (exfalso; omega) | simp_all
        · simp [sched_rule.f, or2_eq _ _ K (show 3 ≤ K by omega), sched_byDue.f, compare_eq, aheadJ]
          repeat' split
          all_goals first | rfl | (exfalso; omega) | simp_all
    · rw [if_neg hc]
      simp only [firstTo, if_neg hc]) (fun _ => by simp [sched_First.r0]) (K := K) (by omega)
  have h0 : firstTo p jobs left t 0 = -1 := rfl
  rw [h0, firstOf_none_of (fun _ _ _ => rfl)] at hr
  rw [hr]; rfl

theorem getD_of {l : List Int} {i : Nat} {x : Int} (h : l[i]? = some x) : l.getD i 0 = x := by simp [List.getD, h]
theorem get_of_lt {l : List Int} {i : Nat} (h : i < l.length) : l[i]? = some (l.getD i 0) := by simp [List.getD, h]
theorem getD_set (l : List Int) (i j : Nat) (x : Int) (hi : i < l.length) : (l.set i x).getD j 0 = if i = j then x else l.getD j 0 := by
  simp only [List.getD, List.getElem?_set]
  by_cases h : i = j
  · subst h; simp [hi]
  · simp [h]
def atN (jobs : List SJob) (j : Nat) : Nat := match jobs[j]? with | some e => e.At.toNat | none => 0
def costOf (jobs : List SJob) (j : Nat) : Int := (jobs.map (·.C)).getD j 0
theorem costOf_some {jobs : List SJob} {j : Nat} {e : SJob} (h : jobs[j]? = some e) : costOf jobs j = e.C := by simp [costOf, List.getD, h]
theorem atN_some {jobs : List SJob} {j : Nat} {e : SJob} (h : jobs[j]? = some e) : atN jobs j = e.At.toNat := by simp [atN, h]

/-- who runs in a tick -/
def nowOf (p : Int) (pre : Bool) (jobs : List SJob) (t : Int) (now : Int) (left : List Int) : Int :=
  if pre = true ∨ now < 0 ∨ left.getD now.toNat 0 = 0 then firstTo p jobs left t jobs.length else now
/-- one tick -/
def tickP (p : Int) (pre : Bool) (jobs : List SJob) (t : Int) (s : Int × List Int × List Int) : Int × List Int × List Int :=
  let b := nowOf p pre jobs t s.1 s.2.1
  if b < 0 then (b, s.2.1, s.2.2)
  else
    let left' := s.2.1.set b.toNat (s.2.1.getD b.toNat 0 - 1)
    (b, left', if left'.getD b.toNat 0 = 0 then s.2.2.set b.toNat (t + 1) else s.2.2)
/-- how it stands behind so many ticks: who ran last, what is left, the ends -/
def simP (p : Int) (pre : Bool) (jobs : List SJob) : Nat → Int × List Int × List Int
  | 0 => (-1, jobs.map (·.C), List.replicate jobs.length (-1))
  | t + 1 => tickP p pre jobs (t : Int) (simP p pre jobs t)
/-- what is left of job j behind t ticks -/
def leftP (p : Int) (pre : Bool) (jobs : List SJob) (t j : Nat) : Int := (simP p pre jobs t).2.1.getD j 0
def endP (p : Int) (pre : Bool) (jobs : List SJob) (t j : Nat) : Int := (simP p pre jobs t).2.2.getD j 0
/-- who runs in tick t -/
def runP (p : Int) (pre : Bool) (jobs : List SJob) (t : Nat) : Int := (simP p pre jobs (t + 1)).1
structure SimOk (jobs : List SJob) (s : Int × List Int × List Int) : Prop where
  left : s.2.1.length = jobs.length
  ends : s.2.2.length = jobs.length
  now : s.1 = -1 ∨ ∃ b : Nat, s.1 = (b : Int) ∧ b < jobs.length
  nonneg : ∀ j, 0 ≤ s.2.1.getD j 0
  small : ∀ j, s.2.1.getD j 0 ≤ 10000
theorem nowOf_cases {p : Int} {pre : Bool} {jobs : List SJob} {s : Int × List Int × List Int} (h : SimOk jobs s) (t : Int) : (nowOf p pre jobs t s.1 s.2.1 = -1) ∨
    ∃ b : Nat, nowOf p pre jobs t s.1 s.2.1 = (b : Int) ∧ b < jobs.length ∧ 0 < s.2.1.getD b 0 := by
  unfold nowOf
  by_cases hc : pre = true ∨ s.1 < 0 ∨ s.2.1.getD s.1.toNat 0 = 0
  · rw [if_pos hc]
    rcases firstTo_cases p jobs s.2.1 t jobs.length (Nat.le_refl _) with ⟨h1, _⟩ | ⟨b, y, h1, h2, h3, h4, _⟩
    · exact .inl h1
    · refine .inr ⟨b, h1, h2, ?_⟩
      have hb : s.2.1[b]? = some (s.2.1.getD b 0) := get_of_lt (by rw [h.left]; exact h2)
      unfold canJ at h4
      rw [h3, hb] at h4
      exact h4.2
  · rw [if_neg hc]
    rcases h.now with h1 | ⟨b, h1, h2⟩
    · exact .inl h1
    · refine .inr ⟨b, h1, h2, ?_⟩
      have h3 : ¬ s.2.1.getD b 0 = 0 := fun h' => hc (.inr (.inr (by rw [h1]; exact h')))
      have := h.nonneg b
      omega
theorem tickP_ok {p : Int} {pre : Bool} {jobs : List SJob} {s : Int × List Int × List Int} (h : SimOk jobs s) (t : Int) : SimOk jobs (tickP p pre jobs t s) := by
  unfold tickP
  rcases nowOf_cases (p := p) (pre := pre) h t with h1 | ⟨b, h1, h2, h3⟩
  · simp only [h1]
    rw [if_pos (by omega)]
    exact ⟨h.left, h.ends, .inl rfl, h.nonneg, h.small⟩
  · simp only [h1, Int.toNat_natCast]
    rw [if_neg (by omega)]
    have hbl : b < s.2.1.length := by rw [h.left]; exact h2
    refine ⟨by simp [h.left], ?_, .inr ⟨b, rfl, h2⟩, fun j => ?_, fun j => ?_⟩
    · simp only
      split <;> simp [h.ends]
    · rw [getD_set _ _ _ _ hbl]
      split
      · omega
      · exact h.nonneg j
    · rw [getD_set _ _ _ _ hbl]
      have := h.small b
      split
      · omega
      · exact h.small j
theorem simP_ok (p : Int) (pre : Bool) {jobs : List SJob} (hj : ∀ e ∈ jobs, Okj e) : ∀ t, SimOk jobs (simP p pre jobs t)
  | 0 => by
    have key : ∀ j, 0 ≤ (jobs.map (·.C)).getD j 0 ∧ (jobs.map (·.C)).getD j 0 ≤ 10000 := fun j => by
      simp only [List.getD, List.getElem?_map]
      cases hx : jobs[j]? with
      | none => simp
      | some e => have := (hj e (List.mem_of_getElem? hx)).C; simp; omega
    exact ⟨by simp [simP], by simp [simP], .inl rfl, fun j => (key j).1, fun j => (key j).2⟩
  | t + 1 => tickP_ok (simP_ok p pre hj t) _
def runsTill (p : Int) (pre : Bool) (jobs : List SJob) (n t : Nat) : List Int := (List.range n).map fun s => if s < t then runP p pre jobs s else 0
theorem Sched_p5_eq (p : Int) (hp : p = 1 ∨ p = 2) (pre : Bool) (jobs : List SJob) (t : Int) (s : Int × List Int × List Int) (h : SimOk jobs s) (K : Nat) (hK : jobs.length + 5 ≤ K) : sched_Play.p5 K jobs p pre s.1 t s.2.1 = some (.inl (nowOf p pre jobs t s.1 s.2.1)) := by
  have hF := First_eq p hp jobs s.2.1 t h.left K hK
  unfold sched_Play.p5 nowOf
  by_cases h1 : pre = true
  · rw [if_pos h1, if_pos (.inl h1), hF]
  rw [if_neg h1]
  by_cases h2 : s.1 < 0
  · rw [if_pos h2, if_pos (.inr (.inl h2)), hF]
  rw [if_neg h2, if_pos (by omega)]
  rcases h.now with h3 | ⟨b, h3, h4⟩
  · omega
  · have hb : s.2.1[s.1.toNat]? = some (s.2.1.getD s.1.toNat 0) := get_of_lt (by rw [h.left, h3]; simpa using h4)
    rw [hb]
    simp only
    by_cases h5 : s.2.1.getD s.1.toNat 0 = 0
    · rw [if_pos h5, if_pos (.inr (.inr h5)), hF]
    · rw [if_neg h5, if_neg]
      rintro (h6 | h6 | h6)
      · exact h1 h6
      · exact h2 h6
      · exact h5 h6
theorem Play_r4_eq (p : Int) (hp : p = 1 ∨ p = 2) (pre : Bool) (jobs : List SJob) (hj : ∀ e ∈ jobs, Okj e) (n : Nat) (hn : n ≤ 20000) (K : Nat) (hK : jobs.length + 5 ≤ K) (hK2 : n < K) :
    iter (sched_Play.r4 K jobs p pre (n : Int)) K ((-1), 0, jobs.map (·.C), List.replicate n 0, List.replicate jobs.length (-1)) = some (.inl (runsTill p pre jobs n n, (simP p pre jobs n).2.2)) := by
  have hr := iter_states (ρ := SPlayed × SFault) (f := sched_Play.r4 K jobs p pre (n : Int)) (fun i => ((simP p pre jobs i).1, (i : Int), (simP p pre jobs i).2.1, runsTill p pre jobs n i, (simP p pre jobs i).2.2)) (fun _ => none) n (t := (runsTill p pre jobs n n, (simP p pre jobs n).2.2)) (fun i hi _ => by
    have hi' : (i : Int) < (n : Int) := by omega
    have hok := simP_ok p pre hj i
    have hw : IntKind.i64.wrap ((i : Int) + 1) = ((i + 1 : Nat) : Int) := by rw [wrap64_small (by omega) (by omega)]; rfl
    have hrl : (runsTill p pre jobs n i).length = n := by simp [runsTill]
    have hri : (runsTill p pre jobs n i)[i]? = some 0 := by simp [runsTill, hi]
    have hset : ∀ b : Int, runP p pre jobs i = b → (runsTill p pre jobs n i).set i b = runsTill p pre jobs n (i + 1) := fun b hb => by
      apply List.ext_getElem?
      intro q
      rw [List.getElem?_set, hrl]
      by_cases hq : i = q
      · subst hq
        rw [if_pos rfl, if_pos hi]
        simp [runsTill, hi, hb]
      · rw [if_neg hq]
        simp only [runsTill, List.getElem?_map]
        by_cases hqn : q < n
        · rw [List.getElem?_range hqn]
          simp only [Option.map_some]
          by_cases hqi : q < i
          · rw [if_pos hqi, if_pos (by omega)]
          · rw [if_neg hqi, if_neg (by omega)]
        · rw [List.getElem?_eq_none (by simp; omega)]; rfl
    simp only [sched_Play.r4, if_pos hi', Sched_p5_eq p hp pre jobs (i : Int) _ hok K hK, if_pos (show (0 : Int) ≤ (i : Int) by omega), Int.toNat_natCast, hri, hw, onwardS]
    have hs : simP p pre jobs (i + 1) = tickP p pre jobs (i : Int) (simP p pre jobs i) := rfl
    have hrun : runP p pre jobs i = (tickP p pre jobs (i : Int) (simP p pre jobs i)).1 := rfl
    rcases nowOf_cases (p := p) (pre := pre) hok (i : Int) with h1 | ⟨b, h1, h2, h3⟩
    · rw [h1, if_pos (by omega)]
      have ht : tickP p pre jobs (i : Int) (simP p pre jobs i) = (-1, (simP p pre jobs i).2.1, (simP p pre jobs i).2.2) := by
        unfold tickP; simp only [h1]; rw [if_pos (by omega)]
      rw [hset (-1) (by rw [hrun, ht]), hs, ht]
    · rw [h1, if_neg (by omega), if_pos (by omega)]
      have hbl : b < (simP p pre jobs i).2.1.length := by rw [hok.left]; exact h2
      have hbe : b < (simP p pre jobs i).2.2.length := by rw [hok.ends]; exact h2
      have hsm := hok.small b
      have hw2 : IntKind.i64.wrap ((simP p pre jobs i).2.1.getD b 0 - 1) = (simP p pre jobs i).2.1.getD b 0 - 1 := wrap64_small (by omega) (by omega)
      have hget : ((simP p pre jobs i).2.1.set b ((simP p pre jobs i).2.1.getD b 0 - 1))[b]? = some ((simP p pre jobs i).2.1.getD b 0 - 1) := by simp [hbl]
      simp only [Int.toNat_natCast, get_of_lt hbl, hw2, hget, get_of_lt hbe]
      have ht : tickP p pre jobs (i : Int) (simP p pre jobs i) = ((b : Int), (simP p pre jobs i).2.1.set b ((simP p pre jobs i).2.1.getD b 0 - 1), if (simP p pre jobs i).2.1.getD b 0 - 1 = 0 then (simP p pre jobs i).2.2.set b ((i : Int) + 1) else (simP p pre jobs i).2.2) := by
        unfold tickP
        simp only [h1, Int.toNat_natCast]
        rw [if_neg (by omega), getD_set _ _ _ _ hbl, if_pos rfl]
      rw [hset (b : Int) (by rw [hrun, ht]), hs, ht]
      by_cases h0 : (simP p pre jobs i).2.1.getD b 0 - 1 = 0
      · rw [if_pos h0]
        simp only [if_pos h0]
        rfl
      · rw [if_neg h0]
        simp only [if_neg h0]) (fun _ => by simp [sched_Play.r4]) (K := K) hK2
  rw [firstOf_none_of (fun _ _ _ => rfl)] at hr
  have h0 : runsTill p pre jobs n 0 = List.replicate n 0 := by
    apply List.ext_getElem
    · simp [runsTill]
    · intro i h1 h2; simp [runsTill]
  simp only [h0] at hr
  exact hr
/-- how jobs are played -/
def playOf (jobs : List SJob) (p : Int) (pre : Bool) (n : Int) : SPlayed × SFault :=
  if (playFault jobs).Code = 0 then
    (if p = 1 ∨ p = 2 then
      (if n < 0 ∨ n > 20000 then (⟨[], []⟩, ⟨3, 0⟩) else (⟨runsTill p pre jobs n.toNat n.toNat, (simP p pre jobs n.toNat).2.2⟩, ⟨0, 0⟩))
    else (⟨[], []⟩, ⟨6, 0⟩))
  else (⟨[], []⟩, playFault jobs)
theorem Play_eq (jobs : List SJob) (p : Int) (pre : Bool) (n : Int) (K : Nat) (hK : 20010 ≤ K) : sched_Play.f K jobs p pre n = some (playOf jobs p pre n) := by
  unfold sched_Play.f playOf
  rw [schedCheck_eq jobs K (by omega)]
  simp only
  by_cases hc : (playFault jobs).Code = 0
  · rw [if_pos hc, if_pos hc]
    obtain ⟨hl, _, hj⟩ := playFault_ok hc
    by_cases hp : p = 1 ∨ p = 2
    · have hp0 : sched_Play.p0 p = some (.inl ()) := by rcases hp with rfl | rfl <;> simp [sched_Play.p0, sched_rule.f]
      rw [hp0, if_pos hp]
      simp only
      by_cases hn : n < 0 ∨ n > 20000
      · have hp1 : sched_Play.p1 n = some (.inr (⟨[], []⟩, ⟨3, 0⟩)) := by
          unfold sched_Play.p1
          by_cases h1 : n < 0
          · rw [if_pos h1]
          · rw [if_neg h1, if_pos (by omega)]
        rw [hp1, if_pos hn]
      · have hp1 : sched_Play.p1 n = some (.inl ()) := by unfold sched_Play.p1; rw [if_neg (by omega), if_neg (by omega)]
        obtain ⟨m, rfl⟩ := Int.eq_ofNat_of_zero_le (show 0 ≤ n by omega)
        have hp2 : sched_Play.p2 jobs (m : Int) = some (.inl (List.replicate m 0, List.replicate jobs.length 0)) := by
          unfold sched_Play.p2
          simp only [Int.toNat_natCast]
          rw [if_pos (by omega), if_pos (by omega), if_pos (by omega)]
        rw [hp1, if_neg hn]
        simp only [hp2, Int.toNat_natCast]
        rw [if_pos (by omega)]
        have hr := iter_states (ρ := SPlayed × SFault) (f := sched_Play.r3 jobs) (fun i => (i, (List.range jobs.length).map (fun q => if q < i then (jobs.map (·.C)).getD q 0 else 0), (List.range jobs.length).map (fun q => if q < i then (-1 : Int) else 0))) (fun _ => none) jobs.length (t := (jobs.map (·.C), List.replicate jobs.length (-1))) (fun i hi _ => by
          have hi' : (i : Int) < (jobs.length : Int) := by omega
          simp only [sched_Play.r3, if_pos hi', List.getElem?_eq_getElem hi, onwardS, List.getElem?_map, List.getElem?_range hi, Option.map_some]
          congr 3
          refine Prod.ext ?_ ?_
          · apply List.ext_getElem?
            intro q
            simp only [List.getElem?_set, List.length_map, List.length_range, List.getElem?_map]
            by_cases hq : i = q
            · subst hq; simp [hi]
            · rw [if_neg hq]
              by_cases hqn : q < jobs.length
              · rw [List.getElem?_range hqn]
                simp only [Option.map_some]
                by_cases hqi : q < i
                · rw [if_pos hqi, if_pos (by omega)]
                · rw [if_neg hqi, if_neg (by omega)]
              · rw [List.getElem?_eq_none (by simp; omega)]; rfl
          · apply List.ext_getElem?
            intro q
            simp only [List.getElem?_set, List.length_map, List.length_range, List.getElem?_map]
            by_cases hq : i = q
            · subst hq; simp [hi]
            · rw [if_neg hq]
              by_cases hqn : q < jobs.length
              · rw [List.getElem?_range hqn]
                simp only [Option.map_some]
                by_cases hqi : q < i
                · rw [if_pos hqi, if_pos (by omega)]
                · rw [if_neg hqi, if_neg (by omega)]
              · rw [List.getElem?_eq_none (by simp; omega)]; rfl) (fun _ => by
          simp only [sched_Play.r3]
          rw [if_neg (by omega)]
          congr 4
          · apply List.ext_getElem
            · simp
            · intro q h1 h2
              have hq : q < jobs.length := by simpa using h1
              simp [hq]
          · apply List.ext_getElem
            · simp
            · intro q h1 h2
              have hq : q < jobs.length := by simpa using h1
              simp [hq]) (K := K) (by omega)
        rw [firstOf_none_of (fun _ _ _ => rfl)] at hr
        have e1 : (List.range jobs.length).map (fun q => if q < 0 then (jobs.map (·.C)).getD q 0 else 0) = List.replicate jobs.length (0 : Int) := by
          apply List.ext_getElem
          · simp
          · intro i h1 h2; simp
        have e2 : (List.range jobs.length).map (fun q => if q < 0 then (-1 : Int) else 0) = List.replicate jobs.length (0 : Int) := by
          apply List.ext_getElem
          · simp
          · intro i h1 h2; simp
        simp only [e1, e2] at hr
        rw [hr]
        simp only [leave, Play_r4_eq p hp pre jobs hj m (by omega) K (by omega) (by omega)]
    · have hp0 : sched_Play.p0 p = some (.inr (⟨[], []⟩, ⟨6, 0⟩)) := by
        unfold sched_Play.p0 sched_rule.f
        rw [if_neg (fun h => hp (.inl h)), if_neg (fun h => hp (.inr h)), if_pos rfl]
      rw [hp0, if_neg hp]
  · rw [if_neg hc, if_neg hc]
    rfl
/-- who isn't done when it is due -/
def lateAt (jobs : List SJob) (n : Nat) (ends : List Int) (i : Nat) : Bool := match jobs[i]?, ends[i]? with
  | some j, some e => decide (e > j.Due) || (decide (e < 0) && decide (j.Due ≤ (n : Int)))
  | _, _ => false
def lateTill (jobs : List SJob) (n : Nat) (ends : List Int) (k : Nat) : List Int := (List.range k).filterMap fun i => if lateAt jobs n ends i = true then some (i : Int) else none
theorem playOf_two : playOf [⟨0, 0, 3, 9, 1⟩, ⟨0, 1, 1, 3, 2⟩] 1 true 5 = (⟨[0, 1, 0, 0, -1], [4, 2]⟩, ⟨0, 0⟩) := by kernel_rfl
theorem mget_mset {κ ν : Type} [DecidableEq κ] (k k' : κ) (v : ν) : ∀ m : List (κ × ν), mget (mset m k v) k' = if k' = k then some v else mget m k'
  | [] => by simp only [mset, mget]
  | (a, b) :: r => by
    simp only [mset]
    by_cases hk : k = a
    · subst hk
      rw [if_pos rfl]
      simp only [mget]
      by_cases h' : k' = k
      · rw [if_pos h', if_pos h']
      · rw [if_neg h', if_neg h', if_neg h']
    · rw [if_neg hk]
      simp only [mget]
      by_cases h' : k' = a
      · subst h'
        rw [if_pos rfl, if_neg (fun h => hk h.symm), if_pos rfl]
      · rw [if_neg h', if_neg h', mget_mset k k' v r]

/-- rounds that keep a relation -/
theorem iter_rel {σ τ ρ : Type} {f : σ → Option (σ ⊕ (τ ⊕ ρ))} (R : Nat → σ → Prop) (T : τ → Prop) (n : Nat) (h : ∀ i s, i < n → R i s → ∃ s', f s = some (.inl s') ∧ R (i + 1) s') (he : ∀ s, R n s → ∃ t, f s = some (.inr (.inl t)) ∧ T t) {K : Nat} (hK : n < K) {s : σ} (hs : R 0 s) : ∃ t, iter f K s = some (.inl t) ∧ T t := by
  have key : ∀ (K i : Nat) (s : σ), i ≤ n → n - i < K → R i s → ∃ t, iter f K s = some (.inl t) ∧ T t := by
    intro K
    induction K with
    | zero => intro i _ _ hK; omega
    | succ K ih =>
      intro i s hi hK hR
      rw [iter_succ]
      by_cases hin : i = n
      · subst hin
        obtain ⟨t, h1, h2⟩ := he s hR
        exact ⟨t, by rw [h1], h2⟩
      · obtain ⟨s', h1, h2⟩ := h i s (by omega) hR
        rw [h1]
        exact ih (i + 1) s' (by omega) (by omega) h2
  exact key K 0 s (Nat.zero_le _) (by omega) hs
/-- the document's order of jobs: a policy, their times, their places -/
def ltJ (p : Int) (jobs : List SJob) (a b : Nat) : Prop := match jobs[a]?, jobs[b]? with
  | some x, some y => aheadJ p x y ∨ (¬ aheadJ p y x ∧ a < b)
  | _, _ => False
instance (p : Int) (jobs : List SJob) (a b : Nat) : Decidable (ltJ p jobs a b) := by unfold ltJ; split <;> infer_instance
theorem ltJ_iff {p : Int} {jobs : List SJob} {a b : Nat} {x y : SJob} (hx : jobs[a]? = some x) (hy : jobs[b]? = some y) : ltJ p jobs a b ↔ aheadJ p x y ∨ (¬ aheadJ p y x ∧ a < b) := by simp only [ltJ, hx, hy]
theorem Goes_eq (p : Int) (hp : p = 1 ∨ p = 2) (jobs : List SJob) (a b : Nat) (ha : a < jobs.length) (hb : b < jobs.length) : punctualref_Goes.f jobs (a : Int) (b : Int) p = some (decide (ltJ p jobs a b)) := by
  have h1 : jobs[a]? = some jobs[a] := List.getElem?_eq_getElem ha
  have h2 : jobs[b]? = some jobs[b] := List.getElem?_eq_getElem hb
  have hl := ltJ_iff (p := p) h1 h2
  generalize jobs[a] = x at h1 hl
  generalize jobs[b] = y at h2 hl
  have e : punctualref_Goes.p0 jobs (a : Int) (b : Int) = some (.inl (x.Task, x.At, x.C, x.Due, x.P, y.Task, y.At, y.C, y.Due, y.P)) := by
    simp only [punctualref_Goes.p0, Int.toNat_natCast, h1, h2]
    rw [if_pos (by omega), if_pos (by omega)]
  unfold punctualref_Goes.f
  rw [e, show decide (ltJ p jobs a b) = decide (aheadJ p x y ∨ (¬ aheadJ p y x ∧ a < b)) from decide_eq_decide.2 hl]
  have k1 : ∀ u v : SJob, aheadJ 1 u v ↔ (u.P > v.P ∨ (u.P = v.P ∧ u.At < v.At)) := fun u v => by unfold aheadJ; rw [if_pos rfl]
  have k2 : ∀ u v : SJob, aheadJ 2 u v ↔ (u.Due < v.Due ∨ (u.Due = v.Due ∧ u.At < v.At)) := fun u v => by unfold aheadJ; rw [if_neg (by decide)]
  rcases hp with rfl | rfl
  · simp only [k1, if_pos rfl, show ¬ ((1 : Int) = 2) by decide, if_true, if_false]
    split
    · split
      · congr 1; rw [decide_eq_decide]; omega
      · congr 1; rw [decide_eq_decide]; omega
    · congr 1; rw [decide_eq_decide]; omega
  · simp only [k2, show ¬ ((2 : Int) = 1) by decide, if_true, if_false]
    split
    · split
      · congr 1; rw [decide_eq_decide]; omega
      · congr 1; rw [decide_eq_decide]; omega
    · congr 1; rw [decide_eq_decide]; omega
theorem ltJ_total {p : Int} {jobs : List SJob} {a b : Nat} (ha : a < jobs.length) (hb : b < jobs.length) (h : a ≠ b) : ltJ p jobs a b ∨ ltJ p jobs b a := by
  have h1 : jobs[a]? = some jobs[a] := List.getElem?_eq_getElem ha
  have h2 : jobs[b]? = some jobs[b] := List.getElem?_eq_getElem hb
  rw [ltJ_iff h1 h2, ltJ_iff h2 h1]
  by_cases g1 : aheadJ p jobs[a] jobs[b]
  · exact .inl (.inl g1)
  by_cases g2 : aheadJ p jobs[b] jobs[a]
  · exact .inr (.inl g2)
  by_cases g3 : a < b
  · exact .inl (.inr ⟨g2, g3⟩)
  · exact .inr (.inr ⟨g1, by omega⟩)
theorem ltJ_trans {p : Int} {jobs : List SJob} {a b c : Nat} (ha : a < jobs.length) (hb : b < jobs.length) (hc : c < jobs.length) (h : ltJ p jobs a b) (k : ltJ p jobs b c) : ltJ p jobs a c := by
  have h1 : jobs[a]? = some jobs[a] := List.getElem?_eq_getElem ha
  have h2 : jobs[b]? = some jobs[b] := List.getElem?_eq_getElem hb
  have h3 : jobs[c]? = some jobs[c] := List.getElem?_eq_getElem hc
  rw [ltJ_iff h1 h2] at h
  rw [ltJ_iff h2 h3] at k
  rw [ltJ_iff h1 h3]
  unfold aheadJ at *
  split at h <;> simp_all <;> omega
/-- where the i-th goes in among those that are there -/
theorem Played_r4_eq (p : Int) (hp : p = 1 ∨ p = 2) (jobs : List SJob) (L : List Nat) (i : Nat) (hi : i < jobs.length) (hL : ∀ q ∈ L, q < jobs.length) (hn : L.length ≤ 100000) : ∀ (k K : Nat), k ≤ L.length → k < K → (∀ q b, k ≤ q → L[q]? = some b → ltJ p jobs i b) →
    ∃ k' : Nat, iter (punctualref_Played.r4 jobs p (L.map fun q : Nat => (q : Int)) i) K (k : Int) = some (.inl (k' : Int)) ∧ k' ≤ L.length ∧ (∀ q b, k' ≤ q → L[q]? = some b → ltJ p jobs i b) ∧ (k' = 0 ∨ ∃ b, L[k' - 1]? = some b ∧ ¬ ltJ p jobs i b)
  | 0, K, _, hK, h => by
    obtain ⟨K, rfl⟩ : ∃ k, K = k + 1 := ⟨K - 1, by omega⟩
    refine ⟨0, ?_, Nat.zero_le _, h, .inl rfl⟩
    rw [iter_succ]
    simp [punctualref_Played.r4]
  | k + 1, K, hk, hK, h => by
    obtain ⟨K, rfl⟩ : ∃ k, K = k + 1 := ⟨K - 1, by omega⟩
    have hw : IntKind.i64.wrap (((k + 1 : Nat) : Int) - 1) = (k : Int) := by rw [wrap64_small (by omega) (by omega)]; omega
    have hb : L[k]? = some L[k] := List.getElem?_eq_getElem (by omega)
    have hbl : L[k] < jobs.length := hL _ (List.getElem_mem _)
    generalize L[k] = b at hb hbl
    have hget : (L.map fun q : Nat => (q : Int))[k]? = some (b : Int) := by rw [List.getElem?_map, hb]; rfl
    have e : punctualref_Played.r4 jobs p (L.map fun q : Nat => (q : Int)) i ((k + 1 : Nat) : Int) = if ltJ p jobs i b then some (.inl (k : Int)) else some (.inr (.inl ((k + 1 : Nat) : Int))) := by
      simp only [punctualref_Played.r4, hw, Int.toNat_natCast, hget, Goes_eq p hp jobs i b hi hbl, decide_eq_true_eq]
      rw [if_pos (by omega), if_pos (by omega)]
    rw [iter_succ, e]
    by_cases hl : ltJ p jobs i b
    · rw [if_pos hl]
      simp only
      refine Played_r4_eq p hp jobs L i hi hL hn k K (by omega) (by omega) fun q c hq hc => ?_
      by_cases hqk : q = k
      · subst hqk; rw [hb] at hc; cases hc; exact hl
      · exact h q c (by omega) hc
    · rw [if_neg hl]
      exact ⟨k + 1, rfl, hk, h, .inr ⟨b, by simpa using hb, hl⟩⟩
/-- the map of what is left -/
def Mp (mp : List (Int × Int)) (left : List Int) : Prop := ∀ j : Nat, (mget mp (j : Int)).getD 0 = left.getD j 0
/-- those of the first n that can run, in the document's order, begin with the first -/
structure There (p : Int) (jobs : List SJob) (left : List Int) (t : Int) (n : Nat) (L : List Nat) : Prop where
  lt : ∀ q ∈ L, q < n
  sorted : L.Pairwise (ltJ p jobs)
  head : (L = [] ∧ firstTo p jobs left t n = -1) ∨ ∃ b r, L = b :: r ∧ firstTo p jobs left t n = (b : Int)
  few : L.length ≤ n
theorem pairwise_insert {α : Type} {R : α → α → Prop} {L : List α} {k : Nat} {x : α} (h : L.Pairwise R) (h1 : ∀ y ∈ L.take k, R y x) (h2 : ∀ y ∈ L.drop k, R x y) : (L.take k ++ (x :: L.drop k)).Pairwise R := by
  rw [List.pairwise_append]
  have h0 := h
  rw [← List.take_append_drop k L, List.pairwise_append] at h0
  refine ⟨h0.1, List.pairwise_cons.2 ⟨h2, h0.2.1⟩, fun a ha b hb => ?_⟩
  rcases List.mem_cons.1 hb with rfl | hb
  · exact h1 a ha
  · exact h0.2.2 a ha b hb
theorem Played_r2_eq (p : Int) (hp : p = 1 ∨ p = 2) (jobs : List SJob) (left : List Int) (hl : left.length = jobs.length) (t : Int) (mp : List (Int × Int)) (hm : Mp mp left) (hj : jobs.length ≤ 4000) (K : Nat) (hK : jobs.length + 5 ≤ K) :
    ∃ L, iter (punctualref_Played.r2 K jobs p t mp) K ([], 0) = some (.inl (L.map fun q : Nat => (q : Int))) ∧ There p jobs left t jobs.length L := by
  have key := iter_rel (ρ := (List (List Int)) × (List Int)) (f := punctualref_Played.r2 K jobs p t mp) (fun i s => s.2 = i ∧ ∃ L : List Nat, s.1 = (L.map fun q : Nat => (q : Int)) ∧ There p jobs left t i L) (fun r => ∃ L : List Nat, r = (L.map fun q : Nat => (q : Int)) ∧ There p jobs left t jobs.length L) jobs.length (fun i s hi hR => by
    obtain ⟨m8, i2⟩ := s
    obtain ⟨rfl, L, rfl, hT⟩ := hR
    simp only at hi ⊢
    have hi' : (i2 : Int) < (jobs.length : Int) := by omega
    have hx : jobs[i2]? = some jobs[i2] := List.getElem?_eq_getElem hi
    have hy : left[i2]? = some (left.getD i2 0) := get_of_lt (by omega)
    have hp3 : punctualref_Played.p3 t mp i2 jobs[i2] = some (.inl (decide (canJ jobs left t i2))) := by
      simp only [punctualref_Played.p3, hm i2, canJ, hx, hy]
      by_cases h1 : jobs[i2].At ≤ t
      · simp [h1]
      · simp [h1]
    simp only [punctualref_Played.r2, if_pos hi', hx, hp3, decide_eq_true_eq]
    by_cases hc : canJ jobs left t i2
    · rw [if_pos hc]
      obtain ⟨k, e1, e2, e3, e4⟩ := Played_r4_eq p hp jobs L i2 hi (fun q hq => by have := hT.lt q hq; omega) (by have := hT.few; omega) L.length K (Nat.le_refl _) (by have := hT.few; omega) (fun q b hq hb => by have := lt_of_get hb; omega)
      have hle := hT.few
      simp only [List.length_map, e1, Int.toNat_natCast]
      rw [if_pos (by omega), if_pos e2]
      rw [show (List.take L.length (L.map fun q : Nat => (q : Int))) = L.map fun q : Nat => (q : Int) from List.take_of_length_le (by simp)]
      rw [if_pos (by simp; omega), if_pos (by simp; omega)]
      refine ⟨_, rfl, rfl, L.take k ++ (i2 :: L.drop k), by simp [List.map_take, List.map_drop], ?_⟩
      have hlt : ∀ q ∈ L, q < jobs.length := fun q hq => by have := hT.lt q hq; omega
      have hd : ∀ y ∈ L.drop k, ltJ p jobs i2 y := fun y hy => by
        obtain ⟨q, hq⟩ := List.mem_iff_getElem?.1 hy
        rw [List.getElem?_drop] at hq
        exact e3 (k + q) y (by omega) hq
      have hbefore : ∀ y ∈ L.take k, ltJ p jobs y i2 := fun y hy => by
        rcases e4 with h0 | ⟨b, hb, hnb⟩
        · subst h0; simp at hy
        · have hyL := List.mem_of_mem_take hy
          have hbL : b ∈ L := List.mem_of_getElem? hb
          have hbi : ltJ p jobs b i2 := (ltJ_total (hlt b hbL) hi (by have := hT.lt b hbL; omega)).resolve_right hnb
          obtain ⟨q, hq⟩ := List.mem_iff_getElem?.1 hy
          rw [List.getElem?_take] at hq
          split at hq
          · rename_i hqk
            by_cases hqe : q = k - 1
            · subst hqe; rw [hb] at hq; cases hq; exact hbi
            · have hpw := List.pairwise_iff_getElem.1 hT.sorted q (k - 1) (lt_of_get hq) (lt_of_get hb) (by omega)
              have g1 : L[q]'(lt_of_get hq) = y := by have := List.getElem?_eq_getElem (lt_of_get hq); rw [hq] at this; exact (Option.some.inj this).symm
              have g2 : L[k - 1]'(lt_of_get hb) = b := by have := List.getElem?_eq_getElem (lt_of_get hb); rw [hb] at this; exact (Option.some.inj this).symm
              rw [g1, g2] at hpw
              exact ltJ_trans (hlt y hyL) (hlt b hbL) hi hpw hbi
          · cases hq
      refine ⟨fun q hq => ?_, pairwise_insert hT.sorted hbefore hd, .inr ?_, by simp; omega⟩
      · rcases List.mem_append.1 hq with hq | hq
        · have := hT.lt q (List.mem_of_mem_take hq); omega
        · rcases List.mem_cons.1 hq with rfl | hq
          · omega
          · have := hT.lt q (List.mem_of_mem_drop hq); omega
      · simp only [firstTo, if_pos hc]
        rcases hT.head with ⟨rfl, h0⟩ | ⟨b, r, rfl, h0⟩
        · refine ⟨i2, [], by simp, ?_⟩
          rw [h0, if_pos (by omega)]
        · have hbi : b < i2 := hT.lt b (by simp)
          have hby : jobs[b]? = some jobs[b] := List.getElem?_eq_getElem (by omega)
          rw [h0, if_neg (by omega)]
          simp only [Int.toNat_natCast, hby, hx]
          rcases e4 with h4 | ⟨c, hcc, hnc⟩
          · subst h4
            have hlb : ltJ p jobs i2 b := hd b (by simp)
            rw [ltJ_iff hx hby] at hlb
            refine ⟨i2, b :: r, by simp, ?_⟩
            rw [if_pos (hlb.resolve_right (fun h => by omega))]
          · obtain ⟨k, rfl⟩ : ∃ j, k = j + 1 := ⟨k - 1, by
              rcases Nat.eq_zero_or_pos k with h | h
              · subst h
                simp only [Nat.zero_sub, List.getElem?_cons_zero, Option.some.injEq] at hcc
                subst hcc
                exact absurd (e3 0 b (Nat.le_refl _) rfl) hnc
              · omega⟩
            refine ⟨b, r.take k ++ (i2 :: r.drop k), by simp, ?_⟩
            have hbl : ltJ p jobs b i2 := hbefore b (by simp)
            rw [if_neg]
            intro ha
            rw [ltJ_iff hby hx] at hbl
            rcases hbl with h | h
            · unfold aheadJ at ha h
              by_cases hp1 : p = 1
              · rw [if_pos hp1] at ha h; omega
              · rw [if_neg hp1] at ha h; omega
            · exact h.1 ha
    · rw [if_neg hc]
      refine ⟨_, rfl, rfl, L, rfl, fun q hq => by have := hT.lt q hq; omega, hT.sorted, ?_, by have := hT.few; omega⟩
      simp only [firstTo, if_neg hc]
      exact hT.head) (fun s hR => by
    obtain ⟨m8, i2⟩ := s
    obtain ⟨rfl, L, rfl, hT⟩ := hR
    refine ⟨L.map fun q : Nat => (q : Int), by simp [punctualref_Played.r2], L, rfl, hT⟩) (K := K) (by omega) (s := ([], 0)) ⟨rfl, [], rfl, by simp, List.Pairwise.nil, .inl ⟨rfl, rfl⟩, Nat.le_refl _⟩
  obtain ⟨_, h1, L, rfl, h2⟩ := key
  exact ⟨L, h1, h2⟩
/-- who runs, as a list -/
def runRow (b : Int) : List Int := if b < 0 then [] else [b]
/-- one tick as the document plays it -/
theorem Played_tick (p : Int) (hp : p = 1 ∨ p = 2) (pre : Bool) (jobs : List SJob) (s : Int × List Int × List Int) (h : SimOk jobs s) (t : Nat) (ht : t ≤ 100000) (rows : List (List Int)) (hr : t < rows.length) (hprev : (t = 0 ∧ s.1 = -1) ∨ (0 < t ∧ rows[t - 1]? = some (runRow s.1))) (mp : List (Int × Int)) (hm : Mp mp s.2.1) (hj : jobs.length ≤ 4000) (K : Nat) (hK : jobs.length + 5 ≤ K) :
    ∃ L m12 mp', iter (punctualref_Played.r2 K jobs p (t : Int) mp) K ([], 0) = some (.inl L) ∧ punctualref_Played.p5 pre (t : Int) rows mp L = some (.inl m12) ∧ punctualref_Played.p6 1 m12 = some (.inl (runRow (nowOf p pre jobs (t : Int) s.1 s.2.1))) ∧
      iter (punctualref_Played.r7 (t : Int) (runRow (nowOf p pre jobs (t : Int) s.1 s.2.1))) K (0, s.2.2, mp) = some (.inl ((tickP p pre jobs (t : Int) s).2.2, mp')) ∧ Mp mp' (tickP p pre jobs (t : Int) s).2.1 := by
  obtain ⟨L, h1, hT⟩ := Played_r2_eq p hp jobs s.2.1 h.left (t : Int) mp hm hj K hK
  have hhead : ∃ m12, punctualref_Played.p5 pre (t : Int) rows mp (L.map fun q : Nat => (q : Int)) = some (.inl m12) ∧ ((m12 = [] ∧ nowOf p pre jobs (t : Int) s.1 s.2.1 = -1) ∨ ∃ (b : Nat) (r : List Int), m12 = (b : Int) :: r ∧ nowOf p pre jobs (t : Int) s.1 s.2.1 = (b : Int)) := by
    have hfirst : pre = true ∨ s.1 < 0 ∨ s.2.1.getD s.1.toNat 0 = 0 → (((L.map fun q : Nat => (q : Int)) = [] ∧ nowOf p pre jobs (t : Int) s.1 s.2.1 = -1) ∨ ∃ (b : Nat) (r : List Int), (L.map fun q : Nat => (q : Int)) = (b : Int) :: r ∧ nowOf p pre jobs (t : Int) s.1 s.2.1 = (b : Int)) := fun hc => by
      unfold nowOf
      rw [if_pos hc]
      rcases hT.head with ⟨rfl, g⟩ | ⟨b, r, rfl, g⟩
      · exact .inl ⟨rfl, g⟩
      · exact .inr ⟨b, r.map fun q : Nat => (q : Int), rfl, g⟩
    unfold punctualref_Played.p5
    by_cases hpre : pre = true
    · rw [if_pos hpre]
      exact ⟨_, rfl, hfirst (.inl hpre)⟩
    rw [if_neg hpre]
    rcases hprev with ⟨rfl, h0⟩ | ⟨hpos, hrow⟩
    · rw [if_neg (by omega)]
      exact ⟨_, rfl, hfirst (.inr (.inl (by omega)))⟩
    · have hw : IntKind.i64.wrap ((t : Int) - 1) = ((t - 1 : Nat) : Int) := by rw [wrap64_small (by omega) (by omega)]; omega
      rw [if_pos (by omega), hw, if_pos (by omega)]
      simp only [Int.toNat_natCast, hrow]
      by_cases hneg : s.1 < 0
      · have : runRow s.1 = [] := by unfold runRow; rw [if_pos hneg]
        rw [this, if_neg (by simp)]
        exact ⟨_, rfl, hfirst (.inr (.inl hneg))⟩
      · have : runRow s.1 = [s.1] := by unfold runRow; rw [if_neg hneg]
        rw [this, if_pos (by simp)]
        rcases h.now with h3 | ⟨b, h3, h4⟩
        · omega
        simp only [List.getElem?_cons_zero, h3, hm b]
        have hnn := h.nonneg b
        by_cases h5 : s.2.1.getD b 0 > 0
        · rw [if_pos h5]
          refine ⟨_, rfl, .inr ⟨b, [], rfl, ?_⟩⟩
          unfold nowOf
          rw [if_neg]
          rintro (h6 | h6 | h6)
          · exact hpre h6
          · omega
          · simp only [Int.toNat_natCast] at h6; omega
        · rw [if_neg h5]
          refine ⟨_, rfl, ?_⟩
          have := hfirst (.inr (.inr (by rw [h3]; simp only [Int.toNat_natCast]; omega)))
          rw [h3] at this
          exact this
  obtain ⟨m12, h2, h3⟩ := hhead
  have h4 : punctualref_Played.p6 1 m12 = some (.inl (runRow (nowOf p pre jobs (t : Int) s.1 s.2.1))) := by
    unfold punctualref_Played.p6 runRow
    rcases h3 with ⟨rfl, g⟩ | ⟨b, r, rfl, g⟩
    · rw [g]; simp
    · rw [g, if_neg (show ¬ ((b : Int) < 0) by omega)]
      cases r with
      | nil => simp
      | cons y r =>
        rw [if_pos (by simp only [List.length_cons]; omega), if_pos (by decide), if_pos (by simp)]
        rfl
  have h5 : ∃ mp', iter (punctualref_Played.r7 (t : Int) (runRow (nowOf p pre jobs (t : Int) s.1 s.2.1))) K (0, s.2.2, mp) = some (.inl ((tickP p pre jobs (t : Int) s).2.2, mp')) ∧ Mp mp' (tickP p pre jobs (t : Int) s).2.1 := by
    obtain ⟨K, rfl⟩ : ∃ k, K = k + 2 := ⟨K - 2, by omega⟩
    rcases nowOf_cases (p := p) (pre := pre) h (t : Int) with g1 | ⟨b, g1, g2, g3⟩
    · have hrow : runRow (nowOf p pre jobs (t : Int) s.1 s.2.1) = [] := by rw [g1]; rfl
      have htk : tickP p pre jobs (t : Int) s = (-1, s.2.1, s.2.2) := by unfold tickP; simp only [g1]; rw [if_pos (by omega)]
      rw [hrow, htk, iter_succ]
      exact ⟨mp, by simp [punctualref_Played.r7], hm⟩
    · have hrow : runRow (nowOf p pre jobs (t : Int) s.1 s.2.1) = [(b : Int)] := by rw [g1]; unfold runRow; rw [if_neg (by omega)]
      have hbl : b < s.2.1.length := by rw [h.left]; exact g2
      have hbe : b < s.2.2.length := by rw [h.ends]; exact g2
      have hsm := h.small b
      have hw : IntKind.i64.wrap (s.2.1.getD b 0 - 1) = s.2.1.getD b 0 - 1 := wrap64_small (by omega) (by omega)
      have hw1 : IntKind.i64.wrap ((t : Int) + 1) = (t : Int) + 1 := wrap64_small (by omega) (by omega)
      have hw2 : IntKind.i64.wrap ((0 : Int) + 1) = 1 := by decide
      have htk : tickP p pre jobs (t : Int) s = ((b : Int), s.2.1.set b (s.2.1.getD b 0 - 1), if s.2.1.getD b 0 - 1 = 0 then s.2.2.set b ((t : Int) + 1) else s.2.2) := by
        unfold tickP
        simp only [g1, Int.toNat_natCast]
        rw [if_neg (by omega), getD_set _ _ _ _ hbl, if_pos rfl]
      rw [hrow, htk]
      have hmp' : Mp (mset mp (b : Int) (s.2.1.getD b 0 - 1)) (s.2.1.set b (s.2.1.getD b 0 - 1)) := fun j => by
        rw [mget_mset, getD_set _ _ _ _ hbl]
        by_cases hjb : b = j
        · subst hjb; simp
        · rw [if_neg (by omega), if_neg hjb]; exact hm j
      refine ⟨_, ?_, hmp'⟩
      have e1 : punctualref_Played.r7 (t : Int) [(b : Int)] (0, s.2.2, mp) = some (.inl (1, (if s.2.1.getD b 0 - 1 = 0 then s.2.2.set b ((t : Int) + 1) else s.2.2), mset mp (b : Int) (s.2.1.getD b 0 - 1))) := by
        simp only [punctualref_Played.r7, List.length_cons, List.length_nil, Int.toNat_zero, List.getElem?_cons_zero, hm b, hw, hw1, hw2, mget_mset, if_true, Option.getD_some, Int.toNat_natCast, get_of_lt hbe]
        rw [if_pos (by decide), if_pos (by decide), if_pos (show (0 : Int) ≤ (b : Int) by omega)]
        split <;> rfl
      have e2 : ∀ q m, punctualref_Played.r7 (t : Int) [(b : Int)] (1, q, m) = some (.inr (.inl (q, m))) := fun q m => by simp [punctualref_Played.r7]
      rw [iter_succ, e1]
      simp only
      rw [iter_succ, e2]
  obtain ⟨mp', h6, h7⟩ := h5
  exact ⟨_, m12, mp', h1, h2, h4, h6, h7⟩

theorem CheckJobs_eq (l : List SJob) (K : Nat) (hK : 4010 ≤ K) : punctualref_CheckJobs.f K l = some (playFault l) := by
  unfold punctualref_CheckJobs.f playFault
  by_cases hl : (l.length : Int) > 4000
  · rw [if_pos hl, if_pos (by omega)]; rfl
  rw [if_neg hl, if_neg (by omega)]
  have hr := iter_first0 (f := punctualref_CheckJobs.r0 l) (playAt l) l.length (t := ()) (fun i hi => by
    have hi' : (i : Int) < (l.length : Int) := by omega
    simp only [punctualref_CheckJobs.r0, if_pos hi', List.getElem?_eq_getElem hi, playAt]
    generalize l[i] = e
    by_cases h : e.At < 0 ∨ e.At > 60000 ∨ e.C < 1 ∨ e.C > 10000 ∨ e.Due < 0 ∨ e.Due > 80000
    · rw [if_pos h]
      repeat' split
      all_goals first | rfl | omega
    · rw [if_neg h]
      rw [if_neg (by omega), if_neg (by omega), if_neg (by omega), if_neg (by omega), if_neg (by omega), if_neg (by omega)]
      rfl) (by simp [punctualref_CheckJobs.r0]) (K := K) (by omega)
  rw [hr]
  cases firstOf (playAt l) l.length 0 <;> rfl
/-- the map of the costs of the first n, and their ends -/
theorem Played_r0_eq (jobs : List SJob) (hj : jobs.length ≤ 4000) (K : Nat) (hK : jobs.length + 5 ≤ K) : ∃ mp, iter (punctualref_Played.r0 jobs) K (0, List.replicate jobs.length 0, []) = some (.inl (List.replicate jobs.length (-1), mp)) ∧ Mp mp (jobs.map (·.C)) := by
  have key := iter_rel (ρ := (List (List Int)) × (List Int)) (f := punctualref_Played.r0 jobs) (fun i s => s.1 = i ∧ s.2.1.length = jobs.length ∧ (∀ q, q < i → s.2.1[q]? = some (-1)) ∧ ∀ j : Nat, (mget s.2.2 (j : Int)).getD 0 = if j < i then (jobs.map (·.C)).getD j 0 else 0) (fun r => r.1 = List.replicate jobs.length (-1) ∧ Mp r.2 (jobs.map (·.C))) jobs.length (fun i s hi hR => by
    obtain ⟨i1, m1, mp⟩ := s
    obtain ⟨rfl, h1, h2, h3⟩ := hR
    simp only at hi h1 h2 h3 ⊢
    have hi' : (i1 : Int) < (jobs.length : Int) := by omega
    have hx : jobs[i1]? = some jobs[i1] := List.getElem?_eq_getElem hi
    have hy : m1[i1]? = some (m1.getD i1 0) := get_of_lt (by omega)
    simp only [punctualref_Played.r0, if_pos hi', hx, hy]
    refine ⟨_, rfl, rfl, by simp [h1], fun q hq => ?_, fun j => ?_⟩
    · simp only [List.getElem?_set]
      by_cases hqi : i1 = q
      · subst hqi; rw [if_pos rfl, if_pos (by omega)]
      · rw [if_neg hqi]; exact h2 q (by omega)
    · simp only [mget_mset]
      by_cases hji : j = i1
      · subst hji
        rw [if_pos rfl, if_pos (by omega)]
        simp [List.getD, hx]
      · rw [if_neg (by omega), h3 j]
        by_cases hjl : j < i1
        · rw [if_pos hjl, if_pos (by omega)]
        · rw [if_neg hjl, if_neg (by omega)]) (fun s hR => by
    obtain ⟨i1, m1, mp⟩ := s
    obtain ⟨rfl, h1, h2, h3⟩ := hR
    simp only at h1 h2 h3
    refine ⟨(m1, mp), by simp [punctualref_Played.r0], ?_, fun j => ?_⟩
    · apply List.ext_getElem?
      intro q
      by_cases hq : q < jobs.length
      · rw [h2 q hq]; simp [hq]
      · rw [List.getElem?_eq_none (show m1.length ≤ q by omega), List.getElem?_eq_none (by simp; omega)]
    · rw [h3 j]
      by_cases hjl : j < jobs.length
      · rw [if_pos hjl]
      · rw [if_neg hjl]; simp [List.getD, List.getElem?_eq_none (show jobs.length ≤ j by omega)]) (K := K) (by omega) (s := (0, List.replicate jobs.length 0, [])) ⟨rfl, by simp, fun q hq => by omega, fun j => by simp [mget]⟩
  obtain ⟨⟨a, mp⟩, h1, h2, h3⟩ := key
  simp only at h2 h3
  subst h2
  exact ⟨mp, h1, h3⟩
/-- of each row the first -/
def headOr (r : List Int) : Int := r.headD (-1)
theorem One_eq (rows : List (List Int)) (hn : rows.length ≤ 100000) (K : Nat) (hK : rows.length < K) : punctualref_One.f K rows = some (rows.map headOr) := by
  unfold punctualref_One.f
  rw [if_pos (by omega)]
  have key := iter_rel (ρ := List Int) (f := punctualref_One.r0 rows) (fun i s => s.1 = (i : Int) ∧ s.2.length = rows.length ∧ ∀ q, q < i → s.2[q]? = (rows.map headOr)[q]?) (fun r => r = rows.map headOr) rows.length (fun i s hi hR => by
    obtain ⟨z1, m1⟩ := s
    obtain ⟨rfl, h1, h2⟩ := hR
    simp only at hi h1 h2 ⊢
    have hi' : (i : Int) < (rows.length : Int) := by omega
    have hx : rows[i]? = some rows[i] := List.getElem?_eq_getElem hi
    have hy : m1[i]? = some (m1.getD i 0) := get_of_lt (by omega)
    have hw : IntKind.i64.wrap ((i : Int) + 1) = ((i + 1 : Nat) : Int) := by rw [wrap64_small (by omega) (by omega)]; omega
    have hset : ∀ v : Int, v = headOr rows[i] → ∀ q, q < i + 1 → (m1.set i v)[q]? = (rows.map headOr)[q]? := fun v hv q hq => by
      rw [List.getElem?_set]
      by_cases hqi : i = q
      · subst hqi
        rw [if_pos rfl, if_pos (by omega), List.getElem?_map, hx, hv]; rfl
      · rw [if_neg hqi]; exact h2 q (by omega)
    simp only [punctualref_One.r0, if_pos hi', if_pos (show (0 : Int) ≤ (i : Int) by omega), Int.toNat_natCast, hx, hy, hw]
    cases hr : rows[i] with
    | nil =>
      rw [if_neg (by simp)]
      exact ⟨_, rfl, rfl, by simp [h1], hset (-1) (by rw [hr]; rfl)⟩
    | cons x r =>
      rw [if_pos (by simp)]
      simp only [List.getElem?_cons_zero, List.getElem?_set_self (show i < m1.length by omega), List.set_set]
      exact ⟨_, rfl, rfl, by simp [h1], hset x (by rw [hr]; rfl)⟩) (fun s hR => by
    obtain ⟨z1, m1⟩ := s
    obtain ⟨rfl, h1, h2⟩ := hR
    simp only at h1 h2
    refine ⟨m1, by simp [punctualref_One.r0], ?_⟩
    apply List.ext_getElem?
    intro q
    by_cases hq : q < rows.length
    · exact h2 q hq
    · rw [List.getElem?_eq_none (by omega), List.getElem?_eq_none (by simp; omega)]) (K := K) hK (s := (0, List.replicate rows.length 0)) ⟨rfl, by simp, fun q hq => by omega⟩
  obtain ⟨_, h1, rfl⟩ := key
  rw [h1]

def rowsTill (p : Int) (pre : Bool) (jobs : List SJob) (n t : Nat) : List (List Int) := (List.range n).map fun s => if s < t then runRow (runP p pre jobs s) else []
theorem rowsTill_get (p : Int) (pre : Bool) (jobs : List SJob) {n t s : Nat} (h : s < n) : (rowsTill p pre jobs n t)[s]? = some (if s < t then runRow (runP p pre jobs s) else []) := by simp [rowsTill, h]
theorem runP_eq (p : Int) (pre : Bool) (jobs : List SJob) (t : Nat) : runP p pre jobs t = nowOf p pre jobs (t : Int) (simP p pre jobs t).1 (simP p pre jobs t).2.1 := by
  show (tickP p pre jobs (t : Int) (simP p pre jobs t)).1 = _
  unfold tickP
  simp only
  split <;> rfl
theorem Played_eq (p : Int) (hp : p = 1 ∨ p = 2) (pre : Bool) (jobs : List SJob) (hj : ∀ e ∈ jobs, Okj e) (hl : jobs.length ≤ 4000) (n : Nat) (hn : n ≤ 20000) (K : Nat) (hK : 20100 ≤ K) : punctualref_Played.f K jobs p pre 1 (n : Int) = some (rowsTill p pre jobs n n, (simP p pre jobs n).2.2) := by
  unfold punctualref_Played.f
  obtain ⟨mp, h1, h2⟩ := Played_r0_eq jobs hl K (by omega)
  rw [if_pos (by omega), h1]
  simp only [Int.toNat_natCast]
  rw [if_pos (by omega), if_pos (by omega)]
  have key := iter_rel (ρ := (List (List Int)) × (List Int)) (f := punctualref_Played.r1 K jobs p pre 1 (n : Int)) (fun t s => s.1 = (t : Int) ∧ s.2.1 = (simP p pre jobs t).2.2 ∧ s.2.2.1 = rowsTill p pre jobs n t ∧ Mp s.2.2.2 (simP p pre jobs t).2.1) (fun r => r = ((simP p pre jobs n).2.2, rowsTill p pre jobs n n)) n (fun t s ht hR => by
    obtain ⟨z1, m4, m5, mp⟩ := s
    obtain ⟨rfl, rfl, rfl, hm⟩ := hR
    simp only at hm ⊢
    have hok := simP_ok p pre hj t
    have hlen : (rowsTill p pre jobs n t).length = n := by simp [rowsTill]
    obtain ⟨L, m12, mp', e1, e2, e3, e4, e5⟩ := Played_tick p hp pre jobs (simP p pre jobs t) hok t (by omega) (rowsTill p pre jobs n t) (by omega) (by
      rcases Nat.eq_zero_or_pos t with h | h
      · subst h; exact .inl ⟨rfl, rfl⟩
      · refine .inr ⟨h, ?_⟩
        rw [rowsTill_get p pre jobs (by omega), if_pos (by omega)]
        unfold runP
        rw [show t - 1 + 1 = t by omega]) mp hm hl K (by omega)
    have hw : IntKind.i64.wrap ((t : Int) + 1) = ((t + 1 : Nat) : Int) := by rw [wrap64_small (by omega) (by omega)]; omega
    simp only [punctualref_Played.r1, punctualref_Always.f, if_true, if_pos (show (t : Int) < (n : Int) by omega), e1, e2, e3, e4, if_pos (show (0 : Int) ≤ (t : Int) by omega), Int.toNat_natCast, rowsTill_get p pre jobs ht, hw]
    refine ⟨_, rfl, rfl, rfl, ?_, e5⟩
    apply List.ext_getElem?
    intro q
    simp only [List.getElem?_set, hlen]
    by_cases hq : t = q
    · subst hq
      rw [if_pos rfl, if_pos ht, rowsTill_get p pre jobs ht, if_pos (by omega), runP_eq]
    · rw [if_neg hq]
      by_cases hqn : q < n
      · rw [rowsTill_get p pre jobs hqn, rowsTill_get p pre jobs hqn]
        by_cases hqt : q < t
        · rw [if_pos hqt, if_pos (by omega)]
        · rw [if_neg hqt, if_neg (by omega)]
      · rw [List.getElem?_eq_none (by omega), List.getElem?_eq_none (by simp [rowsTill]; omega)]) (fun s hR => by
    obtain ⟨z1, m4, m5, mp⟩ := s
    obtain ⟨rfl, rfl, rfl, hm⟩ := hR
    exact ⟨_, by simp [punctualref_Played.r1], rfl⟩) (K := K) (by omega) (s := (0, List.replicate jobs.length (-1), List.replicate n [], mp)) ⟨rfl, rfl, by
      apply List.ext_getElem?
      intro q
      by_cases hq : q < n
      · rw [rowsTill_get p pre jobs hq]; simp [hq]
      · rw [List.getElem?_eq_none (by simp; omega), List.getElem?_eq_none (by simp [rowsTill]; omega)], h2⟩
  obtain ⟨_, h3, rfl⟩ := key
  rw [h3]
theorem rowsTill_heads (p : Int) (pre : Bool) {jobs : List SJob} (hj : ∀ e ∈ jobs, Okj e) (n : Nat) : (rowsTill p pre jobs n n).map headOr = runsTill p pre jobs n n := by
  unfold rowsTill runsTill
  rw [List.map_map]
  apply List.map_congr_left
  intro s hs
  have hs' : s < n := by simpa using hs
  simp only [Function.comp_apply, if_pos hs']
  rw [runP_eq]
  rcases nowOf_cases (p := p) (pre := pre) (simP_ok p pre hj s) (s : Int) with h1 | ⟨b, h1, _⟩
  · rw [h1]; rfl
  · rw [h1]
    unfold runRow
    rw [if_neg (by omega)]
    rfl
theorem PlayJobs_eq (jobs : List SJob) (p : Int) (pre : Bool) (n : Int) (K : Nat) (hK : 20100 ≤ K) : punctualref_PlayJobs.f K jobs p pre n = some (playOf jobs p pre n) := by
  unfold punctualref_PlayJobs.f playOf
  rw [CheckJobs_eq jobs K (by omega)]
  simp only
  by_cases hc : (playFault jobs).Code = 0
  · rw [if_pos hc, if_pos hc]
    obtain ⟨hl, _, hj⟩ := playFault_ok hc
    have main : ∀ q : Int, (q = 1 ∨ q = 2) → (if n < 0 then some ((⟨([] : List Int), ([] : List Int)⟩ : SPlayed), (punctualref_F.f 3 0)) else if n > 20000 then some ((⟨([] : List Int), ([] : List Int)⟩ : SPlayed), (punctualref_F.f 3 0)) else
        match punctualref_Played.f K jobs q pre 1 n with
        | none => none
        | some r4 => match punctualref_One.f K r4.1 with
          | none => none
          | some r5 => some ((⟨r5, r4.2⟩ : SPlayed), (⟨0, 0⟩ : SFault))) = some (if n < 0 ∨ n > 20000 then (⟨[], []⟩, ⟨3, 0⟩) else (⟨runsTill q pre jobs n.toNat n.toNat, (simP q pre jobs n.toNat).2.2⟩, ⟨0, 0⟩)) := fun q hq => by
      by_cases h1 : n < 0
      · rw [if_pos h1, if_pos (.inl h1)]; rfl
      by_cases h2 : n > 20000
      · rw [if_neg h1, if_pos h2, if_pos (.inr h2)]; rfl
      rw [if_neg h1, if_neg h2, if_neg (by omega)]
      obtain ⟨m, rfl⟩ := Int.eq_ofNat_of_zero_le (show 0 ≤ n by omega)
      simp only [Played_eq q hq pre jobs hj hl m (by omega) K hK, One_eq (rowsTill q pre jobs m m) (by simp [rowsTill]; omega) K (by simp [rowsTill]; omega), rowsTill_heads q pre hj m, Int.toNat_natCast]
    by_cases h1 : p = 1
    · subst h1
      rw [if_pos rfl, if_pos (show (1 : Int) = 1 ∨ (1 : Int) = 2 from .inl rfl)]
      exact main 1 (.inl rfl)
    rw [if_neg h1]
    by_cases h2 : p = 2
    · subst h2
      rw [if_pos rfl, if_pos (show (2 : Int) = 1 ∨ (2 : Int) = 2 from .inr rfl)]
      exact main 2 (.inr rfl)
    rw [if_neg h2, if_neg (by omega)]
    rfl
  · rw [if_neg hc, if_neg hc]
    rfl
theorem playOf_len (jobs : List SJob) (p : Int) (pre : Bool) (n : Int) : (playOf jobs p pre n).1.Runs.length ≤ 20000 ∧ (playOf jobs p pre n).1.Ends.length ≤ 4000 := by
  unfold playOf
  split
  · rename_i hc
    obtain ⟨hl, _, hj⟩ := playFault_ok hc
    split
    · split
      · simp
      · refine ⟨by simp [runsTill]; omega, ?_⟩
        rw [show (⟨runsTill p pre jobs n.toNat n.toNat, (simP p pre jobs n.toNat).2.2⟩ : SPlayed).Ends = (simP p pre jobs n.toNat).2.2 from rfl, (simP_ok p pre hj n.toNat).ends]
        exact hl
    · simp
  · simp

/-- what is wrong with the i-th message that comes -/
def msgAt (l0 : List SFrame) (l1 : List SCome) (l2 : List Int) (i : Nat) : Option SFault :=
  match l1[i]?, l2[i]? with
  | some c, some a => if c.Task < 0 ∨ c.Task ≥ (l0.length : Int) then some ⟨4, i⟩ else
    match l0[c.Task.toNat]? with
    | some m => if c.At < 0 ∨ c.At > 20000 ∨ a < 0 ∨ a > m.J then some ⟨3, i⟩ else none
    | none => none
  | _, _ => none
/-- the i-th one as a job -/
def jobMsg (l0 : List SFrame) (l1 : List SCome) (l2 : List Int) (i : Nat) : SJob :=
  match l1[i]?, l2[i]? with
  | some c, some a => match l0[c.Task.toNat]? with
    | some m => ⟨c.Task, c.At + a, m.C, c.At + m.D, (l0.length : Int) - c.Task⟩
    | none => ⟨0, 0, 0, 0, 0⟩
  | _, _ => ⟨0, 0, 0, 0, 0⟩
def msgsTill (l0 : List SFrame) (l1 : List SCome) (l2 : List Int) (n : Nat) : List SJob := (List.range n).map (jobMsg l0 l1 l2)
theorem msgsTill_len (l0 : List SFrame) (l1 : List SCome) (l2 : List Int) (n : Nat) : (msgsTill l0 l1 l2 n).length = n := by simp [msgsTill]
/-- how messages are played -/
noncomputable def sendOf (l0 : List SFrame) (l1 : List SCome) (l2 : List Int) (n : Int) : SPlayed × SFault :=
  if (busFault l0).Code = 0 then
    (if l1.length ≤ 4000 ∧ l2.length = l1.length then
      (match firstOf (msgAt l0 l1 l2) l1.length 0 with
      | some f => (⟨[], []⟩, f)
      | none => playOf (msgsTill l0 l1 l2 l1.length) 1 false n)
    else (⟨[], []⟩, ⟨2, 0⟩))
  else (⟨[], []⟩, busFault l0)
theorem Send_eq (l0 : List SFrame) (l1 : List SCome) (l2 : List Int) (n : Int) (K : Nat) (hK : 20010 ≤ K) : net_Send.f K l0 l1 l2 n = some (sendOf l0 l1 l2 n) := by
  unfold net_Send.f sendOf
  rw [netCheck_eq l0 K (by omega)]
  simp only
  by_cases hc : (busFault l0).Code = 0
  · rw [if_pos hc, if_pos hc]
    obtain ⟨_, h1, h8, hok⟩ := busFault_ok hc
    by_cases hl : l1.length ≤ 4000 ∧ l2.length = l1.length
    · have hp0 : net_Send.p0 l1 l2 = some (.inl ()) := by
        unfold net_Send.p0
        rw [if_neg (by omega), if_pos (by omega)]
      rw [hp0, if_pos hl]
      simp only
      have hit := iter_states (ρ := SPlayed × SFault) (f := net_Send.r1 l0 l1 l2) (fun k => (msgsTill l0 l1 l2 k, k)) (fun i => (msgAt l0 l1 l2 i).map fun f => (⟨[], []⟩, f)) l1.length (t := msgsTill l0 l1 l2 l1.length) (fun k hk _ => by
        have hk' : (k : Int) < (l1.length : Int) := by omega
        have hk2 : k < l2.length := by omega
        have hc1 : l1[k]? = some l1[k] := List.getElem?_eq_getElem hk
        have ha1 : l2[k]? = some l2[k] := List.getElem?_eq_getElem hk2
        have hlen := msgsTill_len l0 l1 l2 k
        generalize l1[k] = c at hc1
        generalize l2[k] = a at ha1
        simp only [net_Send.r1, if_pos hk', hc1, msgAt, ha1]
        by_cases ht : c.Task < 0 ∨ c.Task ≥ (l0.length : Int)
        · have hp2 : net_Send.p2 l0 k c = some (.inr (⟨[], []⟩, ⟨4, k⟩)) := by
            unfold net_Send.p2
            repeat' split
            all_goals first | rfl | omega
          rw [hp2, if_pos ht]
          rfl
        · have hp2 : net_Send.p2 l0 k c = some (.inl ()) := by
            unfold net_Send.p2
            rw [if_neg (by omega), if_neg (by omega)]
          have hm : l0[c.Task.toNat]? = some (l0[c.Task.toNat]'(by omega)) := List.getElem?_eq_getElem (by omega)
          have hmo := hok _ (List.mem_of_getElem? hm)
          generalize l0[c.Task.toNat]'(by omega) = m at hm hmo
          rw [hp2, if_neg ht]
          simp only
          rw [if_pos (by omega), hm]
          simp only
          have hC := hmo.C; have hD := hmo.D; have hJ := hmo.J
          by_cases hr : c.At < 0 ∨ c.At > 20000 ∨ a < 0 ∨ a > m.J
          · have hp3 : net_Send.p3 l2 k c m = some (.inr (⟨[], []⟩, ⟨3, k⟩)) := by
              unfold net_Send.p3
              simp only [ha1]
              repeat' split
              all_goals first | rfl | omega
            rw [hp3, if_pos hr]
            rfl
          · have hp3 : net_Send.p3 l2 k c m = some (.inl ()) := by
              unfold net_Send.p3
              simp only [ha1]
              rw [if_neg (by omega), if_neg (by omega), if_neg (by omega), if_neg (by omega)]
            rw [hp3, if_neg hr]
            simp only [Option.map_none, onwardS]
            rw [if_pos (by omega), wrap64_small (n := c.At + a) (by omega) (by omega), wrap64_small (n := c.At + m.D) (by omega) (by omega), wrap64_small (n := (l0.length : Int) - c.Task) (by omega) (by omega)]
            have : msgsTill l0 l1 l2 (k + 1) = msgsTill l0 l1 l2 k ++ [⟨c.Task, c.At + a, m.C, c.At + m.D, (l0.length : Int) - c.Task⟩] := by
              unfold msgsTill
              rw [List.range_succ, List.map_append]
              simp only [List.map_cons, List.map_nil, jobMsg, hc1, ha1, hm]
            rw [this]) (fun _ => by simp [net_Send.r1]) (K := K) (by omega)
      have h0 : (([] : List SJob), 0) = (msgsTill l0 l1 l2 0, 0) := rfl
      rw [h0, hit, firstOf_map]
      cases firstOf (msgAt l0 l1 l2) l1.length 0 with
      | some f => rfl
      | none => simp only [Option.map_none, leave, Play_eq _ _ _ _ K hK]
    · have hp0 : net_Send.p0 l1 l2 = some (.inr (⟨[], []⟩, ⟨2, 0⟩)) := by
        unfold net_Send.p0
        repeat' split
        all_goals first | rfl | omega
      rw [hp0, if_neg hl]
  · rw [if_neg hc, if_neg hc]
    rfl

theorem SendOf_eq (l0 : List SFrame) (l1 : List SCome) (l2 : List Int) (n : Int) (K : Nat) (hK : 20100 ≤ K) : punctualref_SendOf.f K l0 l1 l2 n = some (sendOf l0 l1 l2 n) := by
  unfold punctualref_SendOf.f sendOf
  rw [CheckBus_eq l0 K (by omega)]
  simp only
  by_cases hc : (busFault l0).Code = 0
  · rw [if_pos hc, if_pos hc]
    obtain ⟨_, h1, h8, hok⟩ := busFault_ok hc
    by_cases hl : l1.length ≤ 4000 ∧ l2.length = l1.length
    · have hp0 : punctualref_SendOf.p0 l1 l2 = some (.inl ()) := by
        unfold punctualref_SendOf.p0
        rw [if_neg (by omega), if_pos (by omega)]
      rw [hp0, if_pos hl]
      simp only
      have hit := iter_states (ρ := SPlayed × SFault) (f := punctualref_SendOf.r1 l0 l1 l2) (fun k => (msgsTill l0 l1 l2 k, k)) (fun i => (msgAt l0 l1 l2 i).map fun f => (⟨[], []⟩, f)) l1.length (t := msgsTill l0 l1 l2 l1.length) (fun k hk _ => by
        have hk' : (k : Int) < (l1.length : Int) := by omega
        have hk2 : k < l2.length := by omega
        have hc1 : l1[k]? = some l1[k] := List.getElem?_eq_getElem hk
        have ha1 : l2[k]? = some l2[k] := List.getElem?_eq_getElem hk2
        have hlen := msgsTill_len l0 l1 l2 k
        generalize l1[k] = c at hc1
        generalize l2[k] = a at ha1
        simp only [punctualref_SendOf.r1, if_pos hk', hc1, msgAt, ha1]
        by_cases ht : c.Task < 0 ∨ c.Task ≥ (l0.length : Int)
        · have hp2 : punctualref_SendOf.p2 l0 k c = some (.inr (⟨[], []⟩, ⟨4, k⟩)) := by
            unfold punctualref_SendOf.p2
            repeat' split
            all_goals first | rfl | omega
          rw [hp2, if_pos ht]
          rfl
        · have hp2 : punctualref_SendOf.p2 l0 k c = some (.inl ()) := by
            unfold punctualref_SendOf.p2
            rw [if_neg (by omega), if_neg (by omega)]
          have hm : l0[c.Task.toNat]? = some (l0[c.Task.toNat]'(by omega)) := List.getElem?_eq_getElem (by omega)
          have hmo := hok _ (List.mem_of_getElem? hm)
          generalize l0[c.Task.toNat]'(by omega) = m at hm hmo
          rw [hp2, if_neg ht]
          simp only
          have hC := hmo.C; have hD := hmo.D; have hJ := hmo.J
          by_cases hr : c.At < 0 ∨ c.At > 20000 ∨ a < 0 ∨ a > m.J
          · have hp3 : punctualref_SendOf.p3 l0 l2 k c = some (.inr (⟨[], []⟩, ⟨3, k⟩)) := by
              unfold punctualref_SendOf.p3
              simp only [ha1, hm]
              repeat' split
              all_goals first | rfl | omega
            rw [hp3, hm]
            simp only
            rw [if_pos hr]
            rfl
          · have hp3 : punctualref_SendOf.p3 l0 l2 k c = some (.inl ()) := by
              unfold punctualref_SendOf.p3
              simp only [ha1, hm]
              rw [if_neg (by omega), if_neg (by omega), if_neg (by omega), if_pos (by omega), if_neg (by omega)]
            rw [hp3, hm]
            simp only
            rw [if_neg hr]
            simp only [Option.map_none, onwardS]
            rw [if_pos (by omega), if_pos (by omega), wrap64_small (n := c.At + a) (by omega) (by omega), wrap64_small (n := c.At + m.D) (by omega) (by omega), wrap64_small (n := (l0.length : Int) - c.Task) (by omega) (by omega)]
            have : msgsTill l0 l1 l2 (k + 1) = msgsTill l0 l1 l2 k ++ [⟨c.Task, c.At + a, m.C, c.At + m.D, (l0.length : Int) - c.Task⟩] := by
              unfold msgsTill
              rw [List.range_succ, List.map_append]
              simp only [List.map_cons, List.map_nil, jobMsg, hc1, ha1, hm]
            rw [this]) (fun _ => by simp [punctualref_SendOf.r1]) (K := K) (by omega)
      have h0 : (([] : List SJob), 0) = (msgsTill l0 l1 l2 0, 0) := rfl
      rw [h0, hit, firstOf_map]
      cases firstOf (msgAt l0 l1 l2) l1.length 0 with
      | some f => rfl
      | none => simp only [Option.map_none, leave, PlayJobs_eq _ _ _ _ K hK]
    · have hp0 : punctualref_SendOf.p0 l1 l2 = some (.inr (⟨[], []⟩, ⟨2, 0⟩)) := by
        unfold punctualref_SendOf.p0
        repeat' split
        all_goals first | rfl | omega
      rw [hp0, if_neg hl]
  · rw [if_neg hc, if_neg hc]
    rfl
theorem sendOf_len (l0 : List SFrame) (l1 : List SCome) (l2 : List Int) (n : Int) : (sendOf l0 l1 l2 n).1.Runs.length ≤ 20000 ∧ (sendOf l0 l1 l2 n).1.Ends.length ≤ 4000 := by
  unfold sendOf
  split
  · split
    · split
      · simp
      · exact playOf_len _ _ _ _
    · simp
  · simp
theorem NetSends_law (l0 : List SFrame) (l1 : List SCome) (l2 : List Int) (x3 : Int) (ok0 : ∀ y ∈ l0, Ok.ok y) (ok1 : ∀ y ∈ l1, Ok.ok y) (ok2 : ∀ y ∈ l2, Ok.ok y) (ok3 : In64 x3) : ∃ K, NetSends.f K l0 l1 l2 x3 = some true := by
  refine ⟨18446744073709551616, ?_⟩
  have ha : bus.f 18446744073709551616 = some true := by kernel_rfl
  generalize hKd : 18446744073709551616 = K at ha ⊢
  have hK : 30000 ≤ K := by omega
  unfold NetSends.f
  rw [ha]
  simp only [if_true]
  by_cases hf : few.f (l0.length : Int) = true ∧ few.f (l1.length : Int) = true ∧ few.f (l2.length : Int) = true ∧ small.f (l1.length : Int) x3 = true
  · obtain ⟨f0, f1, f2, f3⟩ := hf
    have hp0 : NetSends.p0 l0 l1 l2 x3 = some (.inl ()) := by unfold NetSends.p0; rw [if_pos f0, if_pos f1, if_pos f2, if_pos f3]
    have g0 := few_true f0
    have g1 := few_true f1
    have g2 := few_true f2
    obtain ⟨r0, e0⟩ := punctualsame_Lend_api_Frame_some l0 ⟨(-9), 0, 0, 0⟩ g0
    obtain ⟨r1, e1⟩ := punctualsame_Lend_api_Come_some l1 ⟨(-9), 0⟩ g1
    obtain ⟨r2, e2⟩ := punctualsame_Lend_int_some l2 (-9) g2
    obtain ⟨q1, q2⟩ := sendOf_len l0 l1 l2 x3
    simp only [hp0, e0, e1, e2, Send_eq l0 l1 l2 x3 K (by omega), SendOf_eq l0 l1 l2 x3 K (by omega), SFault.eqb_self, if_true, punctualsame_Played.f, punctualsame_Same_int_self _ K (show (sendOf l0 l1 l2 x3).1.Runs.length < K by omega), punctualsame_Same_int_self _ K (show (sendOf l0 l1 l2 x3).1.Ends.length < K by omega),
      punctualsame_Still_api_Frame_true l0 _ K g0 (by omega), punctualsame_Still_api_Come_true l1 _ K g1 (by omega), punctualsame_Still_int_true l2 _ K g2 (by omega)]
  · have hp0 : NetSends.p0 l0 l1 l2 x3 = some (.inr true) := by
      unfold NetSends.p0
      repeat' split
      all_goals first | rfl | (exfalso; exact hf ⟨by assumption, by assumption, by assumption, by assumption⟩)
    simp only [hp0]

end Go.Proofs.YtcogbnkioobmkaaDoor.GV
