/- Plain words: GvLNetKeeps. -/
import Derived.Test.YtccfilmiboepjaaGWNetKeeps3
import Derived.Test.YtccfilmiboepjaaGv17
namespace Go.Proofs.Ytccfilmiboepjaa.GV
open Go Go.RowKit
set_option linter.unusedVariables false
set_option linter.unusedSimpArgs false
theorem SFault.eqb_self (x : SFault) : SFault.eqb x x = true := by simp [SFault.eqb]
theorem SFrame.eqb_self (x : SFrame) : SFrame.eqb x x = true := by simp [SFrame.eqb]
theorem SJob.eqb_self (x : SJob) : SJob.eqb x x = true := by simp [SJob.eqb]
theorem SCome.eqb_self (x : SCome) : SCome.eqb x x = true := by simp [SCome.eqb]
theorem punctualsame_Same_int_self (l : List Int) (K : Nat) (hK : l.length < K) : punctualsame_Same_int.f K l l = some true := by
  have hr := iter_first0 (f := punctualsame_Same_int.r0 l l) (fun _ => none) l.length (t := ()) (fun i hi => by
    have h' : (i : Int) < (l.length : Int) := by omega
    simp only [punctualsame_Same_int.r0, if_pos h', List.getElem?_eq_getElem hi, if_true, onward]) (by
    have h' : ¬ (l.length : Int) < (l.length : Int) := by omega
    simp only [punctualsame_Same_int.r0, if_neg h']) hK
  rw [firstOf_none_of (fun _ _ _ => rfl)] at hr
  simp only [punctualsame_Same_int.f, if_true, hr, leave]
theorem few_true {n : Nat} (h : few.f (n : Int) = true) : n ≤ 5000 := by
  simp only [few.f, decide_eq_true_eq] at h; omega
theorem few_false {n : Nat} (h : ¬ few.f (n : Int) = true) : 5000 < n := by
  simp only [few.f, decide_eq_true_eq] at h; omega
theorem exists_bound {α : Type} (f : α → Nat) : ∀ l : List α, ∃ B, ∀ x ∈ l, f x ≤ B
  | [] => ⟨0, by simp⟩
  | x :: l => by
    obtain ⟨B, h⟩ := exists_bound f l
    refine ⟨max (f x) B, fun y hy => ?_⟩
    rcases List.mem_cons.1 hy with rfl | hy
    · exact Nat.le_max_left _ _
    · exact Nat.le_trans (h y hy) (Nat.le_max_right _ _)
/-- a letter stands there -/
def letterAt (x : ByteArray) (i : Nat) : Bool := match x[i]? with | some b => decide (97 ≤ b.toNat) && decide (b.toNat ≤ 122) | none => false
def allL (x : ByteArray) (n : Nat) : Bool := (List.range n).all (letterAt x)
theorem allL_succ (x : ByteArray) (n : Nat) : allL x (n + 1) = (allL x n && letterAt x n) := by simp [allL, List.range_succ]
theorem allL_iff {x : ByteArray} {n : Nat} : allL x n = true ↔ ∀ i, i < n → letterAt x i = true := by simp [allL]
def Good (x : ByteArray) : Prop := 1 ≤ x.size ∧ x.size ≤ 10 ∧ allL x x.size = true
instance (x : ByteArray) : Decidable (Good x) := by unfold Good; infer_instance
theorem get!_of {x : ByteArray} {i : Nat} {b : UInt8} (h : x[i]? = some b) : x.get! i = b := by
  have hi : i < x.size := by
    rcases Nat.lt_or_ge i x.size with h' | h'
    · exact h'
    · rw [getElem?_neg x i (by omega)] at h; cases h
  rw [getElem?_pos x i hi] at h
  have := Option.some.inj h
  rw [← this]
  cases x with
  | mk bs => exact getElem!_pos bs i hi
theorem byte_some {x : ByteArray} {i : Nat} (h : i < x.size) : ∃ b, x[i]? = some b := ⟨x[i], getElem?_pos x i h⟩
theorem decode_letter {x : ByteArray} {i : Nat} (hi : i < x.size) (h : letterAt x i = true) : ∃ n : Nat, Utf8.decode x i = (n, 1) ∧ 97 ≤ n ∧ n ≤ 122 := by
  obtain ⟨b, hb⟩ := byte_some hi
  simp only [letterAt, hb, Bool.and_eq_true, decide_eq_true_eq] at h
  refine ⟨b.toNat, ?_, h⟩
  have := get!_of hb
  simp only [Utf8.decode, Nat.add_zero, this]
  rw [if_pos (by omega)]
theorem decode_other {x : ByteArray} {i : Nat} (hi : i < x.size) (h : letterAt x i = false) : (Utf8.decode x i).1 < 97 ∨ 122 < (Utf8.decode x i).1 := by
  obtain ⟨b, hb⟩ := byte_some hi
  simp only [letterAt, hb, Bool.and_eq_false_iff, decide_eq_false_iff_not] at h
  have := get!_of hb
  simp only [Utf8.decode, Nat.add_zero, this]
  have he : Utf8.runeError = 65533 := rfl
  repeat' split
  all_goals simp only [he, Bool.and_eq_true, decide_eq_true_eq, ge_iff_le] at *
  all_goals omega
theorem takedrop {α : Type} (l : List α) (i : Nat) : (l.take i).drop 0 = l.take i := by simp
theorem iter_succ {σ ρ : Type} (f : σ → Option (σ ⊕ ρ)) (K : Nat) (s : σ) : iter f (K + 1) s = match f s with | none => none | some (.inl s') => iter f K s' | some (.inr r) => some r := rfl
/-- a over b, rounded up -/
def ceilD (a b : Int) : Int := (a + b - 1) / b
theorem ceilD_mono {a a' b : Int} (hb : 1 ≤ b) (h : a ≤ a') : ceilD a b ≤ ceilD a' b := Int.ediv_le_ediv (by omega) (by omega)
theorem ceilD_nonneg {a b : Int} (hb : 1 ≤ b) (h : 0 ≤ a) : 0 ≤ ceilD a b := Int.ediv_nonneg (by omega) (by omega)
theorem ceilD_le {a b : Int} (hb : 1 ≤ b) (h : 0 ≤ a) : ceilD a b ≤ a := by
  unfold ceilD
  rw [← Int.lt_add_one_iff]
  apply Int.ediv_lt_of_lt_mul (by omega)
  have : a * 1 ≤ a * b := Int.mul_le_mul_of_nonneg_left hb h
  rw [Int.add_mul]
  omega
/-- the least n, 1 at least, in which all is done that is wanted; 0: there is none up to most -/
def settled (f : Int → Int) (most : Int) : Int := match firstOf (fun n : Nat => if f n ≤ n then some (n : Int) else none) (most.toNat + 1) 1 with
  | some n => n
  | none => 0
theorem settled_some {f : Int → Int} {most : Int} {j : Nat} (h : firstOf (fun n : Nat => if f n ≤ n then some (n : Int) else none) (most.toNat + 1) 1 = some (j : Int)) : settled f most = j := by unfold settled; rw [h]
theorem settled_none {f : Int → Int} {most : Int} (h : firstOf (fun n : Nat => if f n ≤ n then some (n : Int) else none) (most.toNat + 1) 1 = none) : settled f most = 0 := by unfold settled; rw [h]
theorem settled_pos {f : Int → Int} {most : Int} (h : settled f most ≠ 0) : 1 ≤ settled f most ∧ settled f most ≤ most ∧ f (settled f most) ≤ settled f most ∧ ∀ n : Int, 1 ≤ n → n < settled f most → n < f n := by
  cases hf : firstOf (fun n : Nat => if f n ≤ n then some (n : Int) else none) (most.toNat + 1) 1 with
  | none => exact absurd (settled_none hf) h
  | some r =>
    obtain ⟨j, h1, h2, h3, h4⟩ := firstOf_some hf
    split at h3
    · cases h3
      rw [settled_some hf]
      refine ⟨by omega, by omega, by assumption, fun n hn1 hn2 => ?_⟩
      have := h4 n.toNat (by omega) (by omega)
      have e : ((n.toNat : Nat) : Int) = n := Int.toNat_of_nonneg (by omega)
      simp only [e] at this
      split at this
      · cases this
      · omega
    · cases h3
theorem settled_zero {f : Int → Int} {most : Int} (h : settled f most = 0) : ∀ n : Int, 1 ≤ n → n ≤ most → n < f n := by
  cases hf : firstOf (fun n : Nat => if f n ≤ n then some (n : Int) else none) (most.toNat + 1) 1 with
  | some r =>
    obtain ⟨j, h1, h2, h3, h4⟩ := firstOf_some hf
    split at h3
    · cases h3; rw [settled_some hf] at h; omega
    · cases h3
  | none =>
    intro n h1 h2
    have := firstOf_none hf n.toNat (by omega) (by omega)
    have e : ((n.toNat : Nat) : Int) = n := Int.toNat_of_nonneg (by omega)
    simp only [e] at this
    split at this
    · cases this
    · omega
theorem settled_eq {f : Int → Int} {most w : Int} (h1 : 1 ≤ w) (h2 : w ≤ most) (h3 : f w ≤ w) (h4 : ∀ n : Int, 1 ≤ n → n < w → n < f n) : settled f most = w := by
  by_cases h : settled f most = 0
  · have := settled_zero h w h1 h2; omega
  · obtain ⟨g1, g2, g3, g4⟩ := settled_pos h
    rcases Int.lt_trichotomy (settled f most) w with hl | hl | hl
    · have := h4 _ g1 hl; omega
    · exact hl
    · have := g4 _ h1 hl; omega
theorem settled_eq_zero {f : Int → Int} {most : Int} (h : ∀ n : Int, 1 ≤ n → n ≤ most → n < f n) : settled f most = 0 := by
  apply Decidable.byContradiction
  intro hne
  obtain ⟨g1, g2, g3, g4⟩ := settled_pos hne
  have := h _ g1 g2
  omega
theorem gmax_eq (x y : Int) : gmax x y = max x y := by unfold gmax; omega
theorem gmin_eq (x y : Int) : gmin x y = min x y := by unfold gmin; omega

/-- the least n, first at least and most at most, with f n at most n; below 0: there is none -/
noncomputable def grown (f : Int → Int) (first most : Int) : Int :=
  if settled (fun z => f (z + (first - 1)) - (first - 1)) (most - (first - 1)) = 0 then -1 else settled (fun z => f (z + (first - 1)) - (first - 1)) (most - (first - 1)) + (first - 1)
theorem grown_pos {f : Int → Int} {first most : Int} (h0 : 0 ≤ first) (h : 0 ≤ grown f first most) : first ≤ grown f first most ∧ grown f first most ≤ most ∧ f (grown f first most) ≤ grown f first most ∧ ∀ n : Int, first ≤ n → n < grown f first most → n < f n := by
  unfold grown at h ⊢
  by_cases hz : settled (fun z => f (z + (first - 1)) - (first - 1)) (most - (first - 1)) = 0
  · rw [if_pos hz] at h; omega
  · rw [if_neg hz]
    obtain ⟨h1, h2, h3, h4⟩ := settled_pos hz
    refine ⟨by omega, by omega, by omega, fun n hn1 hn2 => ?_⟩
    have := h4 (n - (first - 1)) (by omega) (by omega)
    rw [show n - (first - 1) + (first - 1) = n by omega] at this
    omega
theorem grown_eq {f : Int → Int} {first most w : Int} (h1 : first ≤ w) (h2 : w ≤ most) (h3 : f w ≤ w) (h4 : ∀ n : Int, first ≤ n → n < w → n < f n) : grown f first most = w := by
  have hs : settled (fun z => f (z + (first - 1)) - (first - 1)) (most - (first - 1)) = w - (first - 1) := settled_eq (by omega) (by omega) (by rw [show w - (first - 1) + (first - 1) = w by omega]; omega) (fun n hn1 hn2 => by
    have := h4 (n + (first - 1)) (by omega) (by omega)
    omega)
  unfold grown
  rw [hs, if_neg (by omega)]
  omega
theorem grown_none {f : Int → Int} {first most : Int} (h : ∀ n : Int, first ≤ n → n ≤ most → n < f n) : grown f first most = -1 := by
  have hs : settled (fun z => f (z + (first - 1)) - (first - 1)) (most - (first - 1)) = 0 := settled_eq_zero (fun n hn1 hn2 => by
    have := h (n + (first - 1)) (by omega) (by omega)
    omega)
  unfold grown
  rw [if_pos hs]
theorem grown_range {f : Int → Int} {first most : Int} (h0 : 0 ≤ first) : grown f first most = -1 ∨ (first ≤ grown f first most ∧ grown f first most ≤ most) := by
  by_cases h : 0 ≤ grown f first most
  · have := grown_pos h0 h; exact .inr ⟨this.1, this.2.1⟩
  · left
    unfold grown at h ⊢
    by_cases hz : settled (fun z => f (z + (first - 1)) - (first - 1)) (most - (first - 1)) = 0
    · rw [if_pos hz]
    · rw [if_neg hz] at h
      have := settled_pos hz
      omega
/-- one step towards it, by what is no more -/
def growStep (d : Int → Option Int) (most : Int) (z : Int) : Option (Int ⊕ (Unit ⊕ Int)) :=
  if z ≤ most then
    match d z with
    | none => none
    | some r => if r ≤ z then some (.inr (.inr z)) else some (.inl r)
  else some (.inr (.inl ()))
/-- .. by what is the same -/
def growStepE (d : Int → Option Int) (most : Int) (z : Int) : Option (Int ⊕ (Unit ⊕ Int)) :=
  if z ≤ most then
    match d z with
    | none => none
    | some r => if r = z then some (.inr (.inr z)) else some (.inl r)
  else some (.inr (.inl ()))
theorem grow_iter {d : Int → Option Int} {f : Int → Int} {most first : Int} (h1 : 0 ≤ first) (hd : ∀ z, first ≤ z → z ≤ most → d z = some (f z)) (hge : ∀ z, first ≤ z → first ≤ f z) (hm : ∀ z z', first ≤ z → z ≤ z' → f z ≤ f z') {K : Nat} (hK : most + 2 < K) (hK0 : 1 ≤ K) :
    iter (growStep d most) K first = some (if grown f first most < 0 then .inl () else .inr (grown f first most)) := by
  obtain ⟨r, hr, hR⟩ := iter_total (f := growStep d most) (fun w => first ≤ w ∧ ∀ n : Int, first ≤ n → n < w → n < f n) (fun w => (most + 1 - w).toNat)
    (fun r => r = if grown f first most < 0 then .inl () else .inr (grown f first most)) (fun w hI => by
      obtain ⟨h2, h3⟩ := hI
      by_cases hw : w ≤ most
      · simp only [growStep, if_pos hw, hd w h2 hw]
        by_cases hle : f w ≤ w
        · right
          refine ⟨_, by rw [if_pos hle], ?_⟩
          rw [grown_eq h2 hw hle h3, if_neg (by omega)]
        · left
          refine ⟨_, by rw [if_neg hle], ⟨by omega, fun n hn1 hn2 => ?_⟩, by omega⟩
          by_cases hnw : n < w
          · exact h3 n hn1 hnw
          · have := hm w n (by omega) (by omega)
            omega
      · right
        refine ⟨.inl (), by simp only [growStep, if_neg hw], ?_⟩
        rw [grown_none (fun n h1 h2 => h3 n h1 (by omega)), if_pos (by omega)]) K first ⟨Int.le_refl _, fun n hn1 hn2 => by omega⟩ (by omega)
  rw [hr, hR]
theorem grow_iterE {d : Int → Option Int} {f : Int → Int} {most first : Int} (h1 : 0 ≤ first) (hd : ∀ z, first ≤ z → z ≤ most → d z = some (f z)) (hge : ∀ z, first ≤ z → first ≤ f z) (hm : ∀ z z', first ≤ z → z ≤ z' → f z ≤ f z') {K : Nat} (hK : most + 2 < K) (hK0 : 1 ≤ K) :
    iter (growStepE d most) K first = some (if grown f first most < 0 then .inl () else .inr (grown f first most)) := by
  obtain ⟨r, hr, hR⟩ := iter_total (f := growStepE d most) (fun w => first ≤ w ∧ (∀ n : Int, first ≤ n → n < w → n < f n) ∧ w ≤ f w) (fun w => (most + 1 - w).toNat)
    (fun r => r = if grown f first most < 0 then .inl () else .inr (grown f first most)) (fun w hI => by
      obtain ⟨h2, h3, h4⟩ := hI
      by_cases hw : w ≤ most
      · simp only [growStepE, if_pos hw, hd w h2 hw]
        by_cases hle : f w = w
        · right
          refine ⟨_, by rw [if_pos hle], ?_⟩
          rw [grown_eq h2 hw (by omega) h3, if_neg (by omega)]
        · left
          refine ⟨_, by rw [if_neg hle], ⟨by omega, fun n hn1 hn2 => ?_, hm _ _ h2 h4⟩, by omega⟩
          by_cases hnw : n < w
          · exact h3 n hn1 hnw
          · have := hm w n (by omega) (by omega)
            omega
      · right
        refine ⟨.inl (), by simp only [growStepE, if_neg hw], ?_⟩
        rw [grown_none (fun n h1 h2 => h3 n h1 (by omega)), if_pos (by omega)]) K first ⟨Int.le_refl _, fun n hn1 hn2 => by omega, hge _ (Int.le_refl _)⟩ (by omega)
  rw [hr, hR]

/-- what a message of a bus is -/
structure Okf (m : SFrame) : Prop where
  C : 1 ≤ m.C ∧ m.C ≤ 10000
  T : 1 ≤ m.T ∧ m.T ≤ 10000
  D : 1 ≤ m.D ∧ m.D ≤ 10000
  J : 0 ≤ m.J ∧ m.J ≤ 10000
  JT : m.J ≤ m.T
instance (m : SFrame) : Decidable (Okf m) := decidable_of_iff ((1 ≤ m.C ∧ m.C ≤ 10000) ∧ (1 ≤ m.T ∧ m.T ≤ 10000) ∧ (1 ≤ m.D ∧ m.D ≤ 10000) ∧ (0 ≤ m.J ∧ m.J ≤ 10000) ∧ m.J ≤ m.T) ⟨fun h => ⟨h.1, h.2.1, h.2.2.1, h.2.2.2.1, h.2.2.2.2⟩, fun h => ⟨h.C, h.T, h.D, h.J, h.JT⟩⟩
/-- what is wrong with message i -/
def frameAt (l : List SFrame) (i : Nat) : Option SFault := match l[i]? with
  | none => none
  | some m => if (1 ≤ m.C ∧ m.C ≤ 10000) ∧ (1 ≤ m.T ∧ m.T ≤ 10000) ∧ (1 ≤ m.D ∧ m.D ≤ 10000) ∧ (0 ≤ m.J ∧ m.J ≤ 10000) then (if m.J > m.T then some ⟨12, i⟩ else none) else some ⟨3, i⟩
noncomputable def busFault (l : List SFrame) : SFault := if 1 ≤ l.length ∧ l.length ≤ 8 then (firstOf (frameAt l) l.length 0).getD ⟨0, 0⟩ else ⟨2, 0⟩
theorem netCheck_eq (l : List SFrame) (K : Nat) (hK : 20 ≤ K) : net_Check.f K l = some (busFault l) := by
  unfold net_Check.f net_Check.p0 busFault
  by_cases h1 : (l.length : Int) < 1
  · rw [if_pos h1, if_neg (by omega)]
  rw [if_neg h1]
  by_cases h2 : (l.length : Int) > 8
  · rw [if_pos h2, if_neg (by omega)]
  rw [if_neg h2, if_pos (by omega)]
  have hr := iter_first0 (f := net_Check.r1 l) (frameAt l) l.length (t := ()) (fun i hi => by
    have hi' : (i : Int) < (l.length : Int) := by omega
    simp only [net_Check.r1, if_pos hi', List.getElem?_eq_getElem hi, frameAt]
    by_cases hg : (1 ≤ l[i].C ∧ l[i].C ≤ 10000) ∧ (1 ≤ l[i].T ∧ l[i].T ≤ 10000) ∧ (1 ≤ l[i].D ∧ l[i].D ≤ 10000) ∧ (0 ≤ l[i].J ∧ l[i].J ≤ 10000)
    · have hp : net_Check.p2 i l[i] = some (.inl ()) := by
        unfold net_Check.p2
        rw [if_neg (by omega), if_neg (by omega), if_neg (by omega), if_neg (by omega), if_neg (by omega), if_neg (by omega), if_neg (by omega), if_neg (by omega)]
      rw [hp, if_pos hg]
      simp only
      split <;> rfl
    · have hp : net_Check.p2 i l[i] = some (.inr ⟨3, i⟩) := by
        unfold net_Check.p2
        repeat' split
        all_goals first | rfl | omega
      rw [hp, if_neg hg]
      rfl) (by simp [net_Check.r1]) (K := K) (by omega)
  rw [hr]
  cases firstOf (frameAt l) l.length 0 <;> rfl
theorem busFault_ok {l : List SFrame} (h : (busFault l).Code = 0) : busFault l = ⟨0, 0⟩ ∧ 1 ≤ l.length ∧ l.length ≤ 8 ∧ ∀ m ∈ l, Okf m := by
  unfold busFault at h ⊢
  split at h
  · rename_i hl
    rw [if_pos hl]
    cases hf : firstOf (frameAt l) l.length 0 with
    | some r =>
      rw [hf] at h
      obtain ⟨j, _, hj, hg, _⟩ := firstOf_some hf
      simp only [Option.getD_some] at h
      exfalso
      unfold frameAt at hg
      rw [List.getElem?_eq_getElem hj] at hg
      simp only at hg
      split at hg
      · split at hg
        · cases hg; exact absurd h (by simp)
        · cases hg
      · cases hg; exact absurd h (by simp)
    | none =>
      refine ⟨rfl, hl.1, hl.2, fun m hm => ?_⟩
      obtain ⟨i, hi, rfl⟩ := List.getElem_of_mem hm
      have hg := firstOf_none hf i (Nat.zero_le _) hi
      unfold frameAt at hg
      rw [List.getElem?_eq_getElem hi] at hg
      simp only at hg
      split at hg
      · rename_i hh
        split at hg
        · cases hg
        · exact ⟨hh.1, hh.2.1, hh.2.2.1, hh.2.2.2, by omega⟩
      · cases hg
  · contradiction
/-- how long one is held up by what comes behind it -/
def heldOf (l : List SFrame) (i : Nat) : Nat → Int
  | 0 => 0
  | n + 1 => match l[i + 1 + n]? with
    | some m => max (heldOf l i n) (m.C - 1)
    | none => heldOf l i n
theorem heldOf_bounds {l : List SFrame} (h : ∀ m ∈ l, Okf m) (i : Nat) : ∀ n, 0 ≤ heldOf l i n ∧ heldOf l i n ≤ 9999
  | 0 => by simp [heldOf]
  | n + 1 => by
    have ih := heldOf_bounds h i n
    simp only [heldOf]
    split
    · rename_i m hm
      have := (h m (List.mem_of_getElem? hm)).C
      omega
    · exact ih
noncomputable def heldBy (l : List SFrame) (i : Nat) : Int := heldOf l i (l.length - (i + 1))
theorem heldBy_bounds {l : List SFrame} (h : ∀ m ∈ l, Okf m) (i : Nat) : 0 ≤ heldBy l i ∧ heldBy l i ≤ 9999 := heldOf_bounds h i _
theorem held_eq (l : List SFrame) (h : ∀ m ∈ l, Okf m) (hl : l.length ≤ 8) (i : Nat) (hi : i < l.length) (K : Nat) (hK : 10 ≤ K) : net_held.f K l (i : Int) = some (heldBy l i) := by
  unfold net_held.f
  have e1 : (IntKind.i64.wrap ((i : Int) + 1)).toNat = i + 1 := by rw [wrap64_small (by omega) (by omega)]; omega
  rw [if_pos (by rw [wrap64_small (by omega) (by omega)]; omega), e1, if_pos (by omega)]
  have hlen : ((l.take l.length).drop (i + 1)).length = l.length - (i + 1) := by simp
  have hr := iter_states (ρ := Int) (f := net_held.r0 l (i : Int)) (fun k => (heldOf l i k, k)) (fun _ => none) (l.length - (i + 1)) (t := heldBy l i) (fun k hk _ => by
    have hk' : (k : Int) < (((l.take l.length).drop (i + 1)).length : Int) := by rw [hlen]; omega
    have hkx : ((l.take l.length).drop (i + 1))[k]? = some l[i + 1 + k] := by rw [List.getElem?_drop, List.take_length]; exact List.getElem?_eq_getElem (by omega)
    have hC := (h l[i + 1 + k] (List.getElem_mem (by omega))).C
    simp only [net_held.r0, e1, if_pos hk', hkx, onwardS, heldOf, List.getElem?_eq_getElem (show i + 1 + k < l.length by omega), gmax_eq]
    rw [wrap64_small (by omega) (by omega)]) (fun _ => by simp only [net_held.r0, e1]; rw [if_neg (by rw [hlen]; omega)]; rfl) (K := K) (by omega)
  rw [show ((0 : Int), (0 : Nat)) = (heldOf l i 0, 0) from rfl, hr, firstOf_none_of (fun _ _ _ => rfl)]
  rfl
theorem netCeil_eq {a b : Int} (ha : 0 ≤ a ∧ a ≤ 1000000) (hb : 1 ≤ b ∧ b ≤ 100000) : net_ceil.f a b = some (ceilD a b) := by
  unfold net_ceil.f
  rw [if_neg (by omega), wrap64_small (n := a + b) (by omega) (by omega), wrap64_small (n := a + b - 1) (by omega) (by omega), Int.tdiv_eq_ediv_of_nonneg (by omega)]
  have h1 := ceilD_nonneg hb.1 ha.1
  have h2 := ceilD_le hb.1 ha.1
  show some (IntKind.i64.wrap (ceilD a b)) = _
  rw [wrap64_small (by omega) (by omega)]
/-- what the first n of them want of the bus in so long a time -/
def busSum (l : List SFrame) (w : Int) : Nat → Int
  | 0 => 0
  | n + 1 => match l[n]? with
    | some o => busSum l w n + ceilD (w + o.J) o.T * o.C
    | none => busSum l w n
/-- .. till that time, and at it -/
def busSum1 (l : List SFrame) (w : Int) : Nat → Int
  | 0 => 0
  | n + 1 => match l[n]? with
    | some o => busSum1 l w n + ((w + o.J) / o.T + 1) * o.C
    | none => busSum1 l w n
theorem busTerm_bounds {o : SFrame} (h : Okf o) {w : Int} (hw : 0 ≤ w ∧ w ≤ 100000) : (0 ≤ ceilD (w + o.J) o.T ∧ ceilD (w + o.J) o.T ≤ 110000) ∧ (0 ≤ ceilD (w + o.J) o.T * o.C ∧ ceilD (w + o.J) o.T * o.C ≤ 1100000000) ∧ (0 ≤ (w + o.J) / o.T ∧ (w + o.J) / o.T ≤ 110000) ∧ (0 ≤ ((w + o.J) / o.T + 1) * o.C ∧ ((w + o.J) / o.T + 1) * o.C ≤ 1100010000) := by
  have hC := h.C; have hT := h.T; have hJ := h.J
  have h1 := ceilD_nonneg hT.1 (show 0 ≤ w + o.J by omega)
  have h2 := ceilD_le hT.1 (show 0 ≤ w + o.J by omega)
  have h3 : 0 ≤ (w + o.J) / o.T := Int.ediv_nonneg (by omega) (by omega)
  have h4 : (w + o.J) / o.T ≤ w + o.J := Int.ediv_le_self _ (by omega)
  refine ⟨⟨h1, by omega⟩, ⟨Int.mul_nonneg h1 (by omega), ?_⟩, ⟨h3, by omega⟩, Int.mul_nonneg (by omega) (by omega), ?_⟩
  · calc ceilD (w + o.J) o.T * o.C ≤ 110000 * o.C := Int.mul_le_mul_of_nonneg_right (by omega) (by omega)
      _ ≤ 110000 * 10000 := Int.mul_le_mul_of_nonneg_left (by omega) (by omega)
      _ = 1100000000 := by decide
  · calc ((w + o.J) / o.T + 1) * o.C ≤ 110001 * o.C := Int.mul_le_mul_of_nonneg_right (by omega) (by omega)
      _ ≤ 110001 * 10000 := Int.mul_le_mul_of_nonneg_left (by omega) (by omega)
      _ = 1100010000 := by decide
theorem busSum_bounds {l : List SFrame} (h : ∀ m ∈ l, Okf m) {w : Int} (hw : 0 ≤ w ∧ w ≤ 100000) : ∀ n : Nat, (0 ≤ busSum l w n ∧ busSum l w n ≤ 1100000000 * (n : Int)) ∧ (0 ≤ busSum1 l w n ∧ busSum1 l w n ≤ 1100010000 * (n : Int))
  | 0 => by simp [busSum, busSum1]
  | n + 1 => by
    obtain ⟨h1, h2⟩ := busSum_bounds h hw n
    simp only [busSum, busSum1]
    cases hn : l[n]? with
    | none => simp only; omega
    | some o =>
      have := busTerm_bounds (h o (List.mem_of_getElem? hn)) hw
      simp only
      omega
theorem busSum_mono {l : List SFrame} (h : ∀ m ∈ l, Okf m) {w w' : Int} (hw : w ≤ w') : ∀ n, busSum l w n ≤ busSum l w' n ∧ busSum1 l w n ≤ busSum1 l w' n
  | 0 => by simp [busSum, busSum1]
  | n + 1 => by
    obtain ⟨h1, h2⟩ := busSum_mono h hw n
    simp only [busSum, busSum1]
    cases hn : l[n]? with
    | none => exact ⟨h1, h2⟩
    | some o =>
      have ho := h o (List.mem_of_getElem? hn)
      have hC := ho.C
      have h3 : ceilD (w + o.J) o.T * o.C ≤ ceilD (w' + o.J) o.T * o.C := Int.mul_le_mul_of_nonneg_right (ceilD_mono ho.T.1 (by omega)) (by omega)
      have h5 : (w + o.J) / o.T ≤ (w' + o.J) / o.T := Int.ediv_le_ediv (by have := ho.T; omega) (by omega)
      have h4 : ((w + o.J) / o.T + 1) * o.C ≤ ((w' + o.J) / o.T + 1) * o.C := Int.mul_le_mul_of_nonneg_right (by omega) (by omega)
      simp only
      omega
theorem busy_eq (l : List SFrame) (h : ∀ m ∈ l, Okf m) (hl : l.length ≤ 8) (i : Nat) (hi : i < l.length) (b w : Int) (hb : 0 ≤ b ∧ b ≤ 9999) (hw : 0 ≤ w ∧ w ≤ 100000) (K : Nat) (hK : 10 ≤ K) : net_time_1.f K w b l (i : Int) = some (b + busSum l w (i + 1)) := by
  unfold net_time_1.f
  have e1 : (IntKind.i64.wrap ((i : Int) + 1)).toNat = i + 1 := by rw [wrap64_small (by omega) (by omega)]; omega
  rw [if_pos (by rw [wrap64_small (by omega) (by omega)]; omega), e1, if_pos (by omega)]
  have hlen : ((l.take (i + 1)).drop 0).length = i + 1 := by simp; omega
  have hr := iter_states (ρ := Int) (f := net_time_1.r0 w l (i : Int)) (fun k => (b + busSum l w k, k)) (fun _ => none) (i + 1) (t := b + busSum l w (i + 1)) (fun k hk _ => by
    have hk' : (k : Int) < (((l.take (i + 1)).drop 0).length : Int) := by rw [hlen]; omega
    have hkx : ((l.take (i + 1)).drop 0)[k]? = some l[k] := by rw [List.drop_zero, List.getElem?_take_of_lt hk]; exact List.getElem?_eq_getElem (by omega)
    have ho := h l[k] (List.getElem_mem (by omega))
    have hC := ho.C; have hT := ho.T; have hJ := ho.J
    have ht := busTerm_bounds ho hw
    have hs := (busSum_bounds h hw k).1
    simp only [net_time_1.r0, e1, if_pos hk', hkx, onwardS, busSum, List.getElem?_eq_getElem (show k < l.length by omega)]
    rw [wrap64_small (n := w + l[k].J) (by omega) (by omega), netCeil_eq ⟨by omega, by omega⟩ ⟨by omega, by omega⟩]
    simp only
    rw [wrap64_small (n := ceilD (w + l[k].J) l[k].T * l[k].C) (by omega) (by omega), wrap64_small (by omega) (by omega)]
    congr 3
    omega) (fun _ => by simp only [net_time_1.r0, e1]; rw [if_neg (by rw [hlen]; omega)]) (K := K) (by omega)
  have h0 : b + busSum l w 0 = b := by simp [busSum]
  rw [h0] at hr
  rw [hr, firstOf_none_of (fun _ _ _ => rfl)]
  rfl
/-- what of message m a number is worth on the bus -/
theorem many_bounds {m : SFrame} (h : Okf m) {q : Int} (hq : 0 ≤ q ∧ q ≤ 110000) : 0 ≤ q * m.C ∧ q * m.C ≤ 1100000000 := by
  have hC := h.C
  refine ⟨Int.mul_nonneg hq.1 (by omega), ?_⟩
  calc q * m.C ≤ 110000 * m.C := Int.mul_le_mul_of_nonneg_right (by omega) (by omega)
    _ ≤ 110000 * 10000 := Int.mul_le_mul_of_nonneg_left (by omega) (by omega)
    _ = 1100000000 := by decide
theorem many_boundsT {m : SFrame} (h : Okf m) {q : Int} (hq : 0 ≤ q ∧ q ≤ 110000) : 0 ≤ q * m.T ∧ q * m.T ≤ 1100000000 := by
  have hC := h.T
  refine ⟨Int.mul_nonneg hq.1 (by omega), ?_⟩
  calc q * m.T ≤ 110000 * m.T := Int.mul_le_mul_of_nonneg_right (by omega) (by omega)
    _ ≤ 110000 * 10000 := Int.mul_le_mul_of_nonneg_left (by omega) (by omega)
    _ = 1100000000 := by decide
theorem queue_eq (l : List SFrame) (h : ∀ m ∈ l, Okf m) (hl : l.length ≤ 8) (i : Nat) (hi : i < l.length) (m : SFrame) (hm : Okf m) (b q w : Int) (hb : 0 ≤ b ∧ b ≤ 9999) (hq : 0 ≤ q ∧ q ≤ 110000) (hw : 0 ≤ w ∧ w ≤ 100000) (K : Nat) (hK : 10 ≤ K) : net_time_2.f K w b q m l (i : Int) = some (b + q * m.C + busSum1 l w i) := by
  unfold net_time_2.f
  have hqb := many_bounds hm hq
  rw [if_pos (by omega), Int.toNat_natCast, if_pos (by omega), wrap64_small (n := q * m.C) (by omega) (by omega), wrap64_small (by omega) (by omega)]
  have hlen : ((l.take i).drop 0).length = i := by simp; omega
  have hr := iter_states (ρ := Int) (f := net_time_2.r0 w l (i : Int)) (fun k => (b + q * m.C + busSum1 l w k, k)) (fun _ => none) i (t := b + q * m.C + busSum1 l w i) (fun k hk _ => by
    have hk' : (k : Int) < (((l.take i).drop 0).length : Int) := by rw [hlen]; omega
    have hkx : ((l.take i).drop 0)[k]? = some l[k] := by rw [List.drop_zero, List.getElem?_take_of_lt hk]; exact List.getElem?_eq_getElem (by omega)
    have ho := h l[k] (List.getElem_mem (by omega))
    have hC := ho.C; have hT := ho.T; have hJ := ho.J
    have ht := busTerm_bounds ho hw
    have hs := (busSum_bounds h hw k).2
    simp only [net_time_2.r0, Int.toNat_natCast, if_pos hk', hkx, onwardS, busSum1, List.getElem?_eq_getElem (show k < l.length by omega)]
    rw [if_neg (by omega), wrap64_small (n := w + l[k].J) (by omega) (by omega), Int.tdiv_eq_ediv_of_nonneg (by omega), wrap64_small (n := (w + l[k].J) / l[k].T) (by omega) (by omega), wrap64_small (n := (w + l[k].J) / l[k].T + 1) (by omega) (by omega), wrap64_small (n := ((w + l[k].J) / l[k].T + 1) * l[k].C) (by omega) (by omega), wrap64_small (by omega) (by omega)]
    congr 3
    omega) (fun _ => by simp only [net_time_2.r0, Int.toNat_natCast]; rw [if_neg (by rw [hlen]; omega)]) (K := K) (by omega)
  have h0 : b + q * m.C + busSum1 l w 0 = b + q * m.C := by simp [busSum1]
  rw [h0] at hr
  rw [hr, firstOf_none_of (fun _ _ _ => rfl)]
  rfl
/-- how long the bus is not free, and when a message of the row begins -/
noncomputable def busyOf (l : List SFrame) (i : Nat) (m : SFrame) : Int := grown (fun w => heldBy l i + busSum l w (i + 1)) (heldBy l i + m.C) 100000
noncomputable def queueOf (l : List SFrame) (i : Nat) (m : SFrame) (q : Int) : Int := grown (fun w => heldBy l i + q * m.C + busSum1 l w i) (heldBy l i + q * m.C) 100000
theorem busSum_ge {l : List SFrame} (h : ∀ m ∈ l, Okf m) {i : Nat} {m : SFrame} (hm : l[i]? = some m) {w : Int} (hw : 1 ≤ w) : m.C ≤ busSum l w (i + 1) := by
  have ho := h m (List.mem_of_getElem? hm)
  have h1 := (busSum_mono h hw (i + 1)).1
  have h2 := (busSum_bounds h (w := 1) ⟨by omega, by omega⟩ i).1
  have hC := ho.C; have hT := ho.T; have hJ := ho.J
  have h3 : 1 ≤ ceilD (1 + m.J) m.T := by
    unfold ceilD
    rw [Int.le_ediv_iff_mul_le (by omega)]
    omega
  have h4 : 1 * m.C ≤ ceilD (1 + m.J) m.T * m.C := Int.mul_le_mul_of_nonneg_right h3 (by omega)
  simp only [busSum, hm] at h1 ⊢
  omega
theorem settleBusy_eq (l : List SFrame) (h : ∀ m ∈ l, Okf m) (hl : l.length ≤ 8) (i : Nat) (m : SFrame) (hm : l[i]? = some m) (K : Nat) (hK : 100100 ≤ K) : net_settle.f K (heldBy l i + m.C) 100000 (heldBy l i) l (i : Int) = some (busyOf l i m) := by
  have hi := lt_of_get hm
  have hb := heldBy_bounds h i
  have hC := (h m (List.mem_of_getElem? hm)).C
  have hit := grow_iter (d := fun z => net_time_1.f K z (heldBy l i) l (i : Int)) (f := fun w => heldBy l i + busSum l w (i + 1)) (first := heldBy l i + m.C) (most := 100000) (by omega) (fun z h1 h2 => busy_eq l h hl i hi _ z hb ⟨by omega, by omega⟩ K (by omega))
    (fun z h1 => by have := busSum_ge h hm (w := z) (by omega); omega) (fun z z' _ h2 => by have := (busSum_mono h h2 (i + 1)).1; omega) (K := K) (by omega) (by omega)
  unfold net_settle.f
  have e : net_settle.r0 K 100000 (heldBy l i) l (i : Int) = growStep (fun z => net_time_1.f K z (heldBy l i) l (i : Int)) 100000 := rfl
  rw [e, hit]
  show _ = some (grown _ _ _)
  rcases grown_range (f := fun w => heldBy l i + busSum l w (i + 1)) (most := 100000) (show 0 ≤ heldBy l i + m.C by omega) with hg | hg
  · rw [hg]; rfl
  · rw [if_neg (by omega)]
theorem settleQueue_eq (l : List SFrame) (h : ∀ m ∈ l, Okf m) (hl : l.length ≤ 8) (i : Nat) (m : SFrame) (hm : l[i]? = some m) (q : Int) (hq : 0 ≤ q ∧ q ≤ 110000) (K : Nat) (hK : 100100 ≤ K) : net_settle_1.f K (heldBy l i + q * m.C) 100000 (heldBy l i) q m l (i : Int) = some (queueOf l i m q) := by
  have hi := lt_of_get hm
  have hb := heldBy_bounds h i
  have ho := h m (List.mem_of_getElem? hm)
  have hqb := many_bounds ho hq
  have hs0 := (busSum_bounds h (w := 0) ⟨by omega, by omega⟩ i).2
  have hit := grow_iter (d := fun z => net_time_2.f K z (heldBy l i) q m l (i : Int)) (f := fun w => heldBy l i + q * m.C + busSum1 l w i) (first := heldBy l i + q * m.C) (most := 100000) (by omega) (fun z h1 h2 => queue_eq l h hl i hi m ho _ q z hb hq ⟨by omega, by omega⟩ K (by omega))
    (fun z h1 => by have := (busSum_mono h (show 0 ≤ z by omega) i).2; omega) (fun z z' _ h2 => by have := (busSum_mono h h2 i).2; omega) (K := K) (by omega) (by omega)
  unfold net_settle_1.f
  have e : net_settle_1.r0 K 100000 (heldBy l i) q m l (i : Int) = growStep (fun z => net_time_2.f K z (heldBy l i) q m l (i : Int)) 100000 := rfl
  rw [e, hit]
  show _ = some (grown _ _ _)
  rcases grown_range (f := fun w => heldBy l i + q * m.C + busSum1 l w i) (most := 100000) (show 0 ≤ heldBy l i + q * m.C by omega) with hg | hg
  · rw [hg]; rfl
  · rw [if_neg (by omega)]
/-- how long the message takes that is number q of a busy time -/
noncomputable def tookOf (l : List SFrame) (i : Nat) (m : SFrame) (q : Nat) : Int := m.J + queueOf l i m q - q * m.T + m.C
/-- the worst of the first n of them -/
noncomputable def worstOf (l : List SFrame) (i : Nat) (m : SFrame) : Nat → Int
  | 0 => 0
  | n + 1 => max (worstOf l i m n) (tookOf l i m n)
/-- how many there may be in a busy time -/
noncomputable def rowOf (l : List SFrame) (i : Nat) (m : SFrame) : Nat := (ceilD (busyOf l i m + m.J) m.T).toNat
/-- time of message i at worst; below 0: there is none -/
noncomputable def timeOf (l : List SFrame) (i : Nat) (m : SFrame) : Int :=
  if busyOf l i m < 0 then -1 else
  match firstOf (fun q : Nat => if queueOf l i m q < 0 then some () else none) (rowOf l i m) 0 with
  | some _ => -1
  | none => worstOf l i m (rowOf l i m)
theorem busyOf_range {l : List SFrame} (h : ∀ m ∈ l, Okf m) {i : Nat} {m : SFrame} (hm : l[i]? = some m) : busyOf l i m = -1 ∨ (1 ≤ busyOf l i m ∧ busyOf l i m ≤ 100000) := by
  have hb := heldBy_bounds h i
  have hC := (h m (List.mem_of_getElem? hm)).C
  rcases grown_range (f := fun w => heldBy l i + busSum l w (i + 1)) (most := 100000) (show 0 ≤ heldBy l i + m.C by omega) with hg | hg
  · exact .inl hg
  · right; unfold busyOf; omega
theorem queueOf_range {l : List SFrame} (h : ∀ m ∈ l, Okf m) {i : Nat} {m : SFrame} (hm : l[i]? = some m) {q : Int} (hq : 0 ≤ q ∧ q ≤ 110000) : queueOf l i m q = -1 ∨ (0 ≤ queueOf l i m q ∧ queueOf l i m q ≤ 100000) := by
  have hb := heldBy_bounds h i
  have hqb := many_bounds (h m (List.mem_of_getElem? hm)) hq
  rcases grown_range (f := fun w => heldBy l i + q * m.C + busSum1 l w i) (most := 100000) (show 0 ≤ heldBy l i + q * m.C by omega) with hg | hg
  · exact .inl hg
  · right; unfold queueOf; omega
theorem rowOf_le {l : List SFrame} (h : ∀ m ∈ l, Okf m) {i : Nat} {m : SFrame} (hm : l[i]? = some m) (hb : 0 ≤ busyOf l i m) : (rowOf l i m : Int) = ceilD (busyOf l i m + m.J) m.T ∧ rowOf l i m ≤ 110000 := by
  have ho := h m (List.mem_of_getElem? hm)
  have hr := busyOf_range h hm
  have hT := ho.T; have hJ := ho.J
  have h1 := ceilD_nonneg hT.1 (show 0 ≤ busyOf l i m + m.J by omega)
  have h2 := ceilD_le hT.1 (show 0 ≤ busyOf l i m + m.J by omega)
  unfold rowOf
  omega
theorem took_bounds {l : List SFrame} (h : ∀ m ∈ l, Okf m) {i : Nat} {m : SFrame} (hm : l[i]? = some m) {q : Nat} (hq : q ≤ 110000) : -1200000000 ≤ tookOf l i m q ∧ tookOf l i m q ≤ 200000 := by
  have ho := h m (List.mem_of_getElem? hm)
  have hr := queueOf_range h hm (q := (q : Int)) ⟨by omega, by omega⟩
  have ht := many_boundsT ho (q := (q : Int)) ⟨by omega, by omega⟩
  have hC := ho.C; have hJ := ho.J
  unfold tookOf
  omega
theorem worst_bounds {l : List SFrame} (h : ∀ m ∈ l, Okf m) {i : Nat} {m : SFrame} (hm : l[i]? = some m) : ∀ n : Nat, n ≤ 110000 → 0 ≤ worstOf l i m n ∧ worstOf l i m n ≤ 200000
  | 0, _ => by simp [worstOf]
  | n + 1, hn => by
    have ih := worst_bounds h hm n (by omega)
    have := took_bounds h hm (q := n) (by omega)
    simp only [worstOf]
    omega
theorem time_eq (l : List SFrame) (h : ∀ m ∈ l, Okf m) (hl : l.length ≤ 8) (i : Nat) (m : SFrame) (hm : l[i]? = some m) (K : Nat) (hK : 200000 ≤ K) : net_time.f K l (i : Int) = some (timeOf l i m) := by
  have hi := lt_of_get hm
  have hb := heldBy_bounds h i
  have ho := h m (List.mem_of_getElem? hm)
  have hC := ho.C; have hT := ho.T; have hJ := ho.J
  unfold net_time.f net_time.p0
  rw [if_pos (by omega), Int.toNat_natCast, hm]
  simp only
  rw [held_eq l h hl i hi K (by omega)]
  simp only
  rw [wrap64_small (n := heldBy l i + m.C) (by omega) (by omega), settleBusy_eq l h hl i m hm K (by omega)]
  simp only
  unfold timeOf
  by_cases hn : busyOf l i m < 0
  · rw [if_pos hn, if_pos hn]
  · rw [if_neg hn, if_neg hn]
    have hr := busyOf_range h hm
    obtain ⟨hrow, hrow2⟩ := rowOf_le h hm (by omega)
    rw [wrap64_small (n := busyOf l i m + m.J) (by omega) (by omega), netCeil_eq ⟨by omega, by omega⟩ ⟨by omega, by omega⟩, ← hrow]
    simp only
    have hit := iter_states (ρ := Int) (f := net_time.r1 K l (i : Int) m.C m.T m.D m.J (heldBy l i) (rowOf l i m : Int)) (fun k => (worstOf l i m k, (k : Int))) (fun q => (if queueOf l i m q < 0 then some () else none).map fun _ => -1) (rowOf l i m) (t := worstOf l i m (rowOf l i m)) (fun k hk _ => by
      have hk' : (k : Int) < (rowOf l i m : Int) := by omega
      have hqb := many_bounds ho (q := (k : Int)) ⟨by omega, by omega⟩
      have hqt := many_boundsT ho (q := (k : Int)) ⟨by omega, by omega⟩
      have hqr := queueOf_range h hm (q := (k : Int)) ⟨by omega, by omega⟩
      have hwb := worst_bounds h hm k (by omega)
      simp only [net_time.r1, if_pos hk']
      rw [wrap64_small (n := (k : Int) * m.C) (by omega) (by omega), wrap64_small (n := heldBy l i + (k : Int) * m.C) (by omega) (by omega), settleQueue_eq l h hl i m hm (k : Int) ⟨by omega, by omega⟩ K (by omega)]
      simp only
      by_cases hz : queueOf l i m k < 0
      · rw [if_pos hz, if_pos hz]; rfl
      · rw [if_neg hz, if_neg hz]
        simp only [Option.map_none, onwardS, worstOf, tookOf, gmax_eq]
        rw [wrap64_small (n := m.J + queueOf l i m k) (by omega) (by omega), wrap64_small (n := (k : Int) * m.T) (by omega) (by omega), wrap64_small (n := m.J + queueOf l i m k - (k : Int) * m.T) (by omega) (by omega), wrap64_small (n := m.J + queueOf l i m k - (k : Int) * m.T + m.C) (by omega) (by omega), wrap64_small (n := (k : Int) + 1) (by omega) (by omega)]
        rfl) (fun _ => by simp only [net_time.r1]; rw [if_neg (by omega)]) (K := K) (by omega)
    have h0 : worstOf l i m 0 = 0 := rfl
    rw [h0] at hit
    simp only [Int.natCast_zero] at hit
    rw [hit, firstOf_map]
    cases firstOf (fun q : Nat => if queueOf l i m q < 0 then some () else none) (rowOf l i m) 0 <;> rfl
/-- how long the messages take, from the first on: what is told where one has no time -/
noncomputable def noTime (l : List SFrame) (i : Nat) : Option ((List Int) × SFault) := match l[i]? with
  | none => none
  | some m => if timeOf l i m < 0 ∨ timeOf l i m > m.D then some ([], ⟨13, i⟩) else none
/-- the times of the first n -/
noncomputable def timesTill (l : List SFrame) : Nat → List Int
  | 0 => []
  | n + 1 => match l[n]? with
    | some m => timesTill l n ++ [timeOf l n m]
    | none => timesTill l n
theorem timesTill_len (l : List SFrame) : ∀ n, (timesTill l n).length ≤ n
  | 0 => by simp [timesTill]
  | n + 1 => by
    have ih := timesTill_len l n
    simp only [timesTill]
    split
    · simp; omega
    · omega
noncomputable def timesOf (l : List SFrame) : (List Int) × SFault :=
  if (busFault l).Code = 0 then (firstOf (noTime l) l.length 0).getD (timesTill l l.length, ⟨0, 0⟩) else ([], busFault l)
theorem Times_eq (l : List SFrame) (K : Nat) (hK : 200000 ≤ K) : net_Times.f K l = some (timesOf l) := by
  unfold net_Times.f timesOf
  rw [netCheck_eq l K (by omega)]
  simp only
  by_cases hc : (busFault l).Code = 0
  · rw [if_pos hc, if_pos hc]
    obtain ⟨_, h1, h8, hok⟩ := busFault_ok hc
    have hit := iter_states (ρ := (List Int) × SFault) (f := net_Times.r0 K l) (fun k => (timesTill l k, k)) (noTime l) l.length (t := timesTill l l.length) (fun k hk _ => by
      have hk' : (k : Int) < (l.length : Int) := by omega
      have hkx : l[k]? = some l[k] := List.getElem?_eq_getElem hk
      have hlen := timesTill_len l k
      simp only [net_Times.r0, if_pos hk', hkx, time_eq l hok h8 k l[k] hkx K hK, noTime, timesTill]
      by_cases ha : timeOf l k l[k] < 0
      · rw [if_pos ha, if_pos (.inl ha)]; rfl
      · rw [if_neg ha]
        by_cases hb : timeOf l k l[k] > l[k].D
        · rw [if_pos hb, if_pos (.inr hb)]; rfl
        · rw [if_neg hb, if_pos (by omega), if_neg (by omega)]; rfl) (fun _ => by simp [net_Times.r0]) (K := K) (by omega)
    rw [show (([] : List Int), 0) = (timesTill l 0, 0) from rfl, hit]
    cases firstOf (noTime l) l.length 0 <;> rfl
  · rw [if_neg hc, if_neg hc]
/-- what is wrong with the i-th job that is played -/
def playAt (l : List SJob) (i : Nat) : Option SFault := match l[i]? with
  | some e => if e.At < 0 ∨ e.At > 60000 ∨ e.C < 1 ∨ e.C > 10000 ∨ e.Due < 0 ∨ e.Due > 80000 then some ⟨3, (i : Int)⟩ else none
  | none => none
def playFault (l : List SJob) : SFault := if l.length > 4000 then ⟨2, 0⟩ else (firstOf (playAt l) l.length 0).getD ⟨0, 0⟩
theorem schedCheck_eq (l : List SJob) (K : Nat) (hK : 4010 ≤ K) : sched_Check.f K l = some (playFault l) := by
  unfold sched_Check.f playFault
  by_cases hl : (l.length : Int) > 4000
  · rw [if_pos hl, if_pos (by omega)]
  rw [if_neg hl, if_neg (by omega)]
  have hr := iter_first0 (f := sched_Check.r0 l) (playAt l) l.length (t := ()) (fun i hi => by
    have hi' : (i : Int) < (l.length : Int) := by omega
    simp only [sched_Check.r0, if_pos hi', List.getElem?_eq_getElem hi, playAt]
    generalize l[i] = e
    by_cases h : e.At < 0 ∨ e.At > 60000 ∨ e.C < 1 ∨ e.C > 10000 ∨ e.Due < 0 ∨ e.Due > 80000
    · rw [if_pos h]
      repeat' split
      all_goals first | rfl | omega
    · rw [if_neg h]
      rw [if_neg (by omega), if_neg (by omega), if_neg (by omega), if_neg (by omega), if_neg (by omega), if_neg (by omega)]
      rfl) (by simp [sched_Check.r0]) (K := K) (by omega)
  rw [hr]
  cases firstOf (playAt l) l.length 0 <;> rfl
structure Okj (e : SJob) : Prop where
  At : 0 ≤ e.At ∧ e.At ≤ 60000
  C : 1 ≤ e.C ∧ e.C ≤ 10000
  Due : 0 ≤ e.Due ∧ e.Due ≤ 80000
theorem playFault_ok {l : List SJob} (h : (playFault l).Code = 0) : l.length ≤ 4000 ∧ playFault l = ⟨0, 0⟩ ∧ ∀ e ∈ l, Okj e := by
  unfold playFault at h ⊢
  split at h
  · cases h
  rename_i hl
  cases hf : firstOf (playAt l) l.length 0 with
  | none =>
    refine ⟨by omega, by rw [if_neg hl]; rfl, fun e he => ?_⟩
    obtain ⟨i, hi⟩ := List.mem_iff_getElem?.1 he
    have := firstOf_none hf i (Nat.zero_le _) (lt_of_get hi)
    simp only [playAt, hi] at this
    split at this
    · cases this
    · exact ⟨by omega, by omega, by omega⟩
  | some r =>
    rw [hf] at h
    obtain ⟨j, _, hj, hg, _⟩ := firstOf_some hf
    exfalso
    simp only [playAt, List.getElem?_eq_getElem hj] at hg
    split at hg
    · cases hg; cases h
    · cases hg
theorem playFault_of {l : List SJob} (hl : l.length ≤ 4000) (h : ∀ e ∈ l, Okj e) : playFault l = ⟨0, 0⟩ := by
  unfold playFault
  rw [if_neg (by omega), firstOf_none_of]
  · rfl
  · intro j _ hj
    have he := h l[j] (List.getElem_mem hj)
    have := he.At; have := he.C; have := he.Due
    simp only [playAt, List.getElem?_eq_getElem hj]
    rw [if_neg (by omega)]
/-- job a goes ahead of job b, by a policy, then by their times -/
def aheadJ (p : Int) (a b : SJob) : Prop := if p = 1 then a.P > b.P ∨ (a.P = b.P ∧ a.At < b.At) else a.Due < b.Due ∨ (a.Due = b.Due ∧ a.At < b.At)
instance (p : Int) (a b : SJob) : Decidable (aheadJ p a b) := by unfold aheadJ; infer_instance
theorem compare_eq (x y : Int) : cmp_Compare_int.f x y = if x < y then -1 else if x > y then 1 else 0 := by simp [cmp_Compare_int.f, cmp_isNaN_int.f]
theorem or2_eq (x y : Int) (K : Nat) (hK : 3 ≤ K) : cmp_Or_int.f K [x, y] = some (if x = 0 then y else x) := by
  obtain ⟨K, rfl⟩ : ∃ k, K = k + 3 := ⟨K - 3, by omega⟩
  simp only [cmp_Or_int.f, iter, cmp_Or_int.r0]
  by_cases hx : x = 0 <;> by_cases hy : y = 0 <;> simp [hx, hy]
/-- can it run at t? -/
def canJ (jobs : List SJob) (left : List Int) (t : Int) (i : Nat) : Prop := match jobs[i]?, left[i]? with
  | some j, some x => j.At ≤ t ∧ 0 < x
  | _, _ => False
instance (jobs : List SJob) (left : List Int) (t : Int) (i : Nat) : Decidable (canJ jobs left t i) := by unfold canJ; split <;> infer_instance
/-- the first of the first n -/
def firstTo (p : Int) (jobs : List SJob) (left : List Int) (t : Int) : Nat → Int
  | 0 => -1
  | n + 1 =>
    let b := firstTo p jobs left t n
    if canJ jobs left t n then
      (if b < 0 then (n : Int) else match jobs[n]?, jobs[b.toNat]? with
        | some x, some y => if aheadJ p x y then (n : Int) else b
        | _, _ => b)
    else b
theorem firstTo_cases (p : Int) (jobs : List SJob) (left : List Int) (t : Int) : ∀ n, n ≤ jobs.length → (firstTo p jobs left t n = -1 ∧ ∀ i, i < n → ¬ canJ jobs left t i) ∨
    (∃ (b : Nat) (y : SJob), firstTo p jobs left t n = (b : Int) ∧ b < n ∧ jobs[b]? = some y ∧ canJ jobs left t b ∧ ∀ i x, i < n → jobs[i]? = some x → canJ jobs left t i → ¬ aheadJ p x y ∧ (i < b → aheadJ p y x))
  | 0, _ => .inl ⟨rfl, fun i h => by omega⟩
  | n + 1, hn => by
    have hnx : jobs[n]? = some jobs[n] := List.getElem?_eq_getElem (by omega)
    generalize jobs[n] = x at hnx
    have irr : ∀ x : SJob, ¬ aheadJ p x x := fun x h => by unfold aheadJ at h; split at h <;> omega
    have tr : ∀ x y z : SJob, aheadJ p x y → ¬ aheadJ p z y → ¬ aheadJ p z x := fun x y z h k hh => by
      unfold aheadJ at h k hh; split at h <;> simp_all <;> omega
    have tr2 : ∀ x y z : SJob, aheadJ p x y → aheadJ p y z → aheadJ p x z := fun x y z h k => by
      unfold aheadJ at h k ⊢; split at h <;> simp_all <;> omega
    have tr3 : ∀ x y z : SJob, aheadJ p x y → ¬ aheadJ p z y → aheadJ p x z := fun x y z h k => by
      unfold aheadJ at h k ⊢; split at h <;> simp_all <;> omega
    rcases firstTo_cases p jobs left t n (by omega) with ⟨h1, h2⟩ | ⟨b, y, h1, h2, h3, h4, h5⟩
    · by_cases hc : canJ jobs left t n
      · right
        refine ⟨n, x, by simp only [firstTo, if_pos hc, h1]; rfl, by omega, hnx, hc, fun i z hi hz hcz => ?_⟩
        by_cases hin : i = n
        · subst hin; rw [hnx] at hz; cases hz; exact ⟨irr _, fun h => by omega⟩
        · exact absurd hcz (h2 i (by omega))
      · left
        refine ⟨by simp only [firstTo, if_neg hc, h1], fun i hi => ?_⟩
        by_cases hin : i = n
        · subst hin; exact hc
        · exact h2 i (by omega)
    · right
      by_cases hc : canJ jobs left t n
      · by_cases ha : aheadJ p x y
        · refine ⟨n, x, by simp only [firstTo, if_pos hc, h1, Int.toNat_natCast, hnx, h3, if_pos ha]; rw [if_neg (by omega)], by omega, hnx, hc, fun i z hi hz hcz => ?_⟩
          by_cases hin : i = n
          · subst hin; rw [hnx] at hz; cases hz; exact ⟨irr _, fun h => by omega⟩
          · obtain ⟨g1, g2⟩ := h5 i z (by omega) hz hcz
            exact ⟨tr x y z ha g1, fun _ => tr3 x y z ha g1⟩
        · refine ⟨b, y, by simp only [firstTo, if_pos hc, h1, Int.toNat_natCast, hnx, h3, if_neg ha]; rw [if_neg (by omega)], by omega, h3, h4, fun i z hi hz hcz => ?_⟩
          by_cases hin : i = n
          · subst hin; rw [hnx] at hz; cases hz; exact ⟨ha, fun h => by omega⟩
          · exact h5 i z (by omega) hz hcz
      · refine ⟨b, y, by simp only [firstTo, if_neg hc, h1], by omega, h3, h4, fun i z hi hz hcz => ?_⟩
        by_cases hin : i = n
        · subst hin; exact absurd hcz hc
        · exact h5 i z (by omega) hz hcz
theorem can_eq (jobs : List SJob) (left : List Int) (t : Int) (i : Nat) (hi : i < jobs.length) (hl : left.length = jobs.length) : sched_Play_1.f (i : Int) jobs t left = some (decide (canJ jobs left t i)) := by
  have h1 : jobs[i]? = some jobs[i] := List.getElem?_eq_getElem hi
  have h2 : left[i]? = some (left[i]'(by omega)) := List.getElem?_eq_getElem (by omega)
  simp only [sched_Play_1.f, Int.toNat_natCast, h1, h2, canJ]
  rw [if_pos (by omega)]
  by_cases h : jobs[i].At ≤ t
  · simp [h]
  · simp [h]
theorem First_eq (p : Int) (hp : p = 1 ∨ p = 2) (jobs : List SJob) (left : List Int) (t : Int) (hl : left.length = jobs.length) (K : Nat) (hK : jobs.length + 5 ≤ K) : sched_First.f K jobs jobs t left p = some (firstTo p jobs left t jobs.length) := by
  unfold sched_First.f
  have hr := iter_states (ρ := Int) (f := sched_First.r0 K jobs jobs t left p) (fun i => (firstTo p jobs left t i, i)) (fun _ => none) jobs.length (t := firstTo p jobs left t jobs.length) (fun i hi _ => by
    have hi' : (i : Int) < (jobs.length : Int) := by omega
    have h1 : jobs[i]? = some jobs[i] := List.getElem?_eq_getElem hi
    simp only [sched_First.r0, if_pos hi', h1, can_eq jobs left t i hi hl, decide_eq_true_eq, onwardS]
    by_cases hc : canJ jobs left t i
    · rw [if_pos hc]
      rcases firstTo_cases p jobs left t i (by omega) with ⟨g1, _⟩ | ⟨b, y, g1, g2, g3, _, _⟩
      · rw [g1, if_pos (by omega)]
        simp only [firstTo, if_pos hc, g1]
        rfl
      · rw [g1, if_neg (by omega), if_pos (by omega)]
        simp only [Int.toNat_natCast, g3]
        have e1 : firstTo p jobs left t (i + 1) = if aheadJ p jobs[i] y then (i : Int) else (b : Int) := by
          simp only [firstTo, if_pos hc, g1, Int.toNat_natCast, h1, g3]
          rw [if_neg (by omega)]
        rw [e1]
        rcases hp with rfl | rfl
        · simp [sched_rule.f, or2_eq _ _ K (show 3 ≤ K by omega), sched_byPriority.f, compare_eq, aheadJ]
          repeat' split
          all_goals first | rfl | (exfalso; omega) | simp_all
        · simp [sched_rule.f, or2_eq _ _ K (show 3 ≤ K by omega), sched_byDue.f, compare_eq, aheadJ]
          repeat' split
          all_goals first | rfl | (exfalso; omega) | simp_all
    · rw [if_neg hc]
      simp only [firstTo, if_neg hc]) (fun _ => by simp [sched_First.r0]) (K := K) (by omega)
  have h0 : firstTo p jobs left t 0 = -1 := rfl
  rw [h0, firstOf_none_of (fun _ _ _ => rfl)] at hr
  rw [hr]; rfl

/-- who runs in a tick -/
def nowOf (p : Int) (pre : Bool) (jobs : List SJob) (t : Int) (now : Int) (left : List Int) : Int :=
  if pre = true ∨ now < 0 ∨ left.getD now.toNat 0 = 0 then firstTo p jobs left t jobs.length else now
/-- one tick -/
def tickP (p : Int) (pre : Bool) (jobs : List SJob) (t : Int) (s : Int × List Int × List Int) : Int × List Int × List Int :=
  let b := nowOf p pre jobs t s.1 s.2.1
  if b < 0 then (b, s.2.1, s.2.2)
  else
    let left' := s.2.1.set b.toNat (s.2.1.getD b.toNat 0 - 1)
    (b, left', if left'.getD b.toNat 0 = 0 then s.2.2.set b.toNat (t + 1) else s.2.2)
/-- how it stands behind so many ticks: who ran last, what is left, the ends -/
def simP (p : Int) (pre : Bool) (jobs : List SJob) : Nat → Int × List Int × List Int
  | 0 => (-1, jobs.map (·.C), List.replicate jobs.length (-1))
  | t + 1 => tickP p pre jobs (t : Int) (simP p pre jobs t)
/-- what is left of job j behind t ticks -/
def leftP (p : Int) (pre : Bool) (jobs : List SJob) (t j : Nat) : Int := (simP p pre jobs t).2.1.getD j 0
def endP (p : Int) (pre : Bool) (jobs : List SJob) (t j : Nat) : Int := (simP p pre jobs t).2.2.getD j 0
/-- who runs in tick t -/
def runP (p : Int) (pre : Bool) (jobs : List SJob) (t : Nat) : Int := (simP p pre jobs (t + 1)).1
theorem getD_of {l : List Int} {i : Nat} {x : Int} (h : l[i]? = some x) : l.getD i 0 = x := by simp [List.getD, h]
theorem get_of_lt {l : List Int} {i : Nat} (h : i < l.length) : l[i]? = some (l.getD i 0) := by simp [List.getD, h]
structure SimOk (jobs : List SJob) (s : Int × List Int × List Int) : Prop where
  left : s.2.1.length = jobs.length
  ends : s.2.2.length = jobs.length
  now : s.1 = -1 ∨ ∃ b : Nat, s.1 = (b : Int) ∧ b < jobs.length
  nonneg : ∀ j, 0 ≤ s.2.1.getD j 0
  small : ∀ j, s.2.1.getD j 0 ≤ 10000
theorem nowOf_cases {p : Int} {pre : Bool} {jobs : List SJob} {s : Int × List Int × List Int} (h : SimOk jobs s) (t : Int) : (nowOf p pre jobs t s.1 s.2.1 = -1) ∨
    ∃ b : Nat, nowOf p pre jobs t s.1 s.2.1 = (b : Int) ∧ b < jobs.length ∧ 0 < s.2.1.getD b 0 := by
  unfold nowOf
  by_cases hc : pre = true ∨ s.1 < 0 ∨ s.2.1.getD s.1.toNat 0 = 0
  · rw [if_pos hc]
    rcases firstTo_cases p jobs s.2.1 t jobs.length (Nat.le_refl _) with ⟨h1, _⟩ | ⟨b, y, h1, h2, h3, h4, _⟩
    · exact .inl h1
    · refine .inr ⟨b, h1, h2, ?_⟩
      have hb : s.2.1[b]? = some (s.2.1.getD b 0) := get_of_lt (by rw [h.left]; exact h2)
      unfold canJ at h4
      rw [h3, hb] at h4
      exact h4.2
  · rw [if_neg hc]
    rcases h.now with h1 | ⟨b, h1, h2⟩
    · exact .inl h1
    · refine .inr ⟨b, h1, h2, ?_⟩
      have h3 : ¬ s.2.1.getD b 0 = 0 := fun h' => hc (.inr (.inr (by rw [h1]; exact h')))
      have := h.nonneg b
      omega
theorem getD_set (l : List Int) (i j : Nat) (x : Int) (hi : i < l.length) : (l.set i x).getD j 0 = if i = j then x else l.getD j 0 := by
  simp only [List.getD, List.getElem?_set]
  by_cases h : i = j
  · subst h; simp [hi]
  · simp [h]
theorem tickP_ok {p : Int} {pre : Bool} {jobs : List SJob} {s : Int × List Int × List Int} (h : SimOk jobs s) (t : Int) : SimOk jobs (tickP p pre jobs t s) := by
  unfold tickP
  rcases nowOf_cases (p := p) (pre := pre) h t with h1 | ⟨b, h1, h2, h3⟩
  · simp only [h1]
    rw [if_pos (by omega)]
    exact ⟨h.left, h.ends, .inl rfl, h.nonneg, h.small⟩
  · simp only [h1, Int.toNat_natCast]
    rw [if_neg (by omega)]
    have hbl : b < s.2.1.length := by rw [h.left]; exact h2
    refine ⟨by simp [h.left], ?_, .inr ⟨b, rfl, h2⟩, fun j => ?_, fun j => ?_⟩
    · simp only
      split <;> simp [h.ends]
    · rw [getD_set _ _ _ _ hbl]
      split
      · omega
      · exact h.nonneg j
    · rw [getD_set _ _ _ _ hbl]
      have := h.small b
      split
      · omega
      · exact h.small j
theorem simP_ok (p : Int) (pre : Bool) {jobs : List SJob} (hj : ∀ e ∈ jobs, Okj e) : ∀ t, SimOk jobs (simP p pre jobs t)
  | 0 => by
    have key : ∀ j, 0 ≤ (jobs.map (·.C)).getD j 0 ∧ (jobs.map (·.C)).getD j 0 ≤ 10000 := fun j => by
      simp only [List.getD, List.getElem?_map]
      cases hx : jobs[j]? with
      | none => simp
      | some e => have := (hj e (List.mem_of_getElem? hx)).C; simp; omega
    exact ⟨by simp [simP], by simp [simP], .inl rfl, fun j => (key j).1, fun j => (key j).2⟩
  | t + 1 => tickP_ok (simP_ok p pre hj t) _
def runsTill (p : Int) (pre : Bool) (jobs : List SJob) (n t : Nat) : List Int := (List.range n).map fun s => if s < t then runP p pre jobs s else 0
theorem Sched_p5_eq (p : Int) (hp : p = 1 ∨ p = 2) (pre : Bool) (jobs : List SJob) (t : Int) (s : Int × List Int × List Int) (h : SimOk jobs s) (K : Nat) (hK : jobs.length + 5 ≤ K) : sched_Play.p5 K jobs p pre s.1 t s.2.1 = some (.inl (nowOf p pre jobs t s.1 s.2.1)) := by
  have hF := First_eq p hp jobs s.2.1 t h.left K hK
  unfold sched_Play.p5 nowOf
  by_cases h1 : pre = true
  · rw [if_pos h1, if_pos (.inl h1), hF]
  rw [if_neg h1]
  by_cases h2 : s.1 < 0
  · rw [if_pos h2, if_pos (.inr (.inl h2)), hF]
  rw [if_neg h2, if_pos (by omega)]
  rcases h.now with h3 | ⟨b, h3, h4⟩
  · omega
  · have hb : s.2.1[s.1.toNat]? = some (s.2.1.getD s.1.toNat 0) := get_of_lt (by rw [h.left, h3]; simpa using h4)
    rw [hb]
    simp only
    by_cases h5 : s.2.1.getD s.1.toNat 0 = 0
    · rw [if_pos h5, if_pos (.inr (.inr h5)), hF]
    · rw [if_neg h5, if_neg]
      rintro (h6 | h6 | h6)
      · exact h1 h6
      · exact h2 h6
      · exact h5 h6
theorem Play_r4_eq (p : Int) (hp : p = 1 ∨ p = 2) (pre : Bool) (jobs : List SJob) (hj : ∀ e ∈ jobs, Okj e) (n : Nat) (hn : n ≤ 20000) (K : Nat) (hK : jobs.length + 5 ≤ K) (hK2 : n < K) :
    iter (sched_Play.r4 K jobs p pre (n : Int)) K ((-1), 0, jobs.map (·.C), List.replicate n 0, List.replicate jobs.length (-1)) = some (.inl (runsTill p pre jobs n n, (simP p pre jobs n).2.2)) := by
  have hr := iter_states (ρ := SPlayed × SFault) (f := sched_Play.r4 K jobs p pre (n : Int)) (fun i => ((simP p pre jobs i).1, (i : Int), (simP p pre jobs i).2.1, runsTill p pre jobs n i, (simP p pre jobs i).2.2)) (fun _ => none) n (t := (runsTill p pre jobs n n, (simP p pre jobs n).2.2)) (fun i hi _ => by
    have hi' : (i : Int) < (n : Int) := by omega
    have hok := simP_ok p pre hj i
    have hw : IntKind.i64.wrap ((i : Int) + 1) = ((i + 1 : Nat) : Int) := by rw [wrap64_small (by omega) (by omega)]; rfl
    have hrl : (runsTill p pre jobs n i).length = n := by simp [runsTill]
    have hri : (runsTill p pre jobs n i)[i]? = some 0 := by simp [runsTill, hi]
    have hset : ∀ b : Int, runP p pre jobs i = b → (runsTill p pre jobs n i).set i b = runsTill p pre jobs n (i + 1) := fun b hb => by
      apply List.ext_getElem?
      intro q
      rw [List.getElem?_set, hrl]
      by_cases hq : i = q
      · subst hq
        rw [if_pos rfl, if_pos hi]
        simp [runsTill, hi, hb]
      · rw [if_neg hq]
        simp only [runsTill, List.getElem?_map]
        by_cases hqn : q < n
        · rw [List.getElem?_range hqn]
          simp only [Option.map_some]
          by_cases hqi : q < i
          · rw [if_pos hqi, if_pos (by omega)]
          · rw [if_neg hqi, if_neg (by omega)]
        · rw [List.getElem?_eq_none (by simp; omega)]; rfl
    simp only [sched_Play.r4, if_pos hi', Sched_p5_eq p hp pre jobs (i : Int) _ hok K hK, if_pos (show (0 : Int) ≤ (i : Int) by omega), Int.toNat_natCast, hri, hw, onwardS]
    have hs : simP p pre jobs (i + 1) = tickP p pre jobs (i : Int) (simP p pre jobs i) := rfl
    have hrun : runP p pre jobs i = (tickP p pre jobs (i : Int) (simP p pre jobs i)).1 := rfl
    rcases nowOf_cases (p := p) (pre := pre) hok (i : Int) with h1 | ⟨b, h1, h2, h3⟩
    · rw [h1, if_pos (by omega)]
      have ht : tickP p pre jobs (i : Int) (simP p pre jobs i) = (-1, (simP p pre jobs i).2.1, (simP p pre jobs i).2.2) := by
        unfold tickP; simp only [h1]; rw [if_pos (by omega)]
      rw [hset (-1) (by rw [hrun, ht]), hs, ht]
    · rw [h1, if_neg (by omega), if_pos (by omega)]
      have hbl : b < (simP p pre jobs i).2.1.length := by rw [hok.left]; exact h2
      have hbe : b < (simP p pre jobs i).2.2.length := by rw [hok.ends]; exact h2
      have hsm := hok.small b
      have hw2 : IntKind.i64.wrap ((simP p pre jobs i).2.1.getD b 0 - 1) = (simP p pre jobs i).2.1.getD b 0 - 1 := wrap64_small (by omega) (by omega)
      have hget : ((simP p pre jobs i).2.1.set b ((simP p pre jobs i).2.1.getD b 0 - 1))[b]? = some ((simP p pre jobs i).2.1.getD b 0 - 1) := by simp [hbl]
      simp only [Int.toNat_natCast, get_of_lt hbl, hw2, hget, get_of_lt hbe]
      have ht : tickP p pre jobs (i : Int) (simP p pre jobs i) = ((b : Int), (simP p pre jobs i).2.1.set b ((simP p pre jobs i).2.1.getD b 0 - 1), if (simP p pre jobs i).2.1.getD b 0 - 1 = 0 then (simP p pre jobs i).2.2.set b ((i : Int) + 1) else (simP p pre jobs i).2.2) := by
        unfold tickP
        simp only [h1, Int.toNat_natCast]
        rw [if_neg (by omega), getD_set _ _ _ _ hbl, if_pos rfl]
      rw [hset (b : Int) (by rw [hrun, ht]), hs, ht]
      by_cases h0 : (simP p pre jobs i).2.1.getD b 0 - 1 = 0
      · rw [if_pos h0]
        simp only [if_pos h0]
        rfl
      · rw [if_neg h0]
        simp only [if_neg h0]) (fun _ => by simp [sched_Play.r4]) (K := K) hK2
  rw [firstOf_none_of (fun _ _ _ => rfl)] at hr
  have h0 : runsTill p pre jobs n 0 = List.replicate n 0 := by
    apply List.ext_getElem
    · simp [runsTill]
    · intro i h1 h2; simp [runsTill]
  simp only [h0] at hr
  exact hr
/-- how jobs are played -/
def playOf (jobs : List SJob) (p : Int) (pre : Bool) (n : Int) : SPlayed × SFault :=
  if (playFault jobs).Code = 0 then
    (if p = 1 ∨ p = 2 then
      (if n < 0 ∨ n > 20000 then (⟨[], []⟩, ⟨3, 0⟩) else (⟨runsTill p pre jobs n.toNat n.toNat, (simP p pre jobs n.toNat).2.2⟩, ⟨0, 0⟩))
    else (⟨[], []⟩, ⟨6, 0⟩))
  else (⟨[], []⟩, playFault jobs)
theorem Play_eq (jobs : List SJob) (p : Int) (pre : Bool) (n : Int) (K : Nat) (hK : 20010 ≤ K) : sched_Play.f K jobs p pre n = some (playOf jobs p pre n) := by
  unfold sched_Play.f playOf
  rw [schedCheck_eq jobs K (by omega)]
  simp only
  by_cases hc : (playFault jobs).Code = 0
  · rw [if_pos hc, if_pos hc]
    obtain ⟨hl, _, hj⟩ := playFault_ok hc
    by_cases hp : p = 1 ∨ p = 2
    · have hp0 : sched_Play.p0 p = some (.inl ()) := by rcases hp with rfl | rfl <;> simp [sched_Play.p0, sched_rule.f]
      rw [hp0, if_pos hp]
      simp only
      by_cases hn : n < 0 ∨ n > 20000
      · have hp1 : sched_Play.p1 n = some (.inr (⟨[], []⟩, ⟨3, 0⟩)) := by
          unfold sched_Play.p1
          by_cases h1 : n < 0
          · rw [if_pos h1]
          · rw [if_neg h1, if_pos (by omega)]
        rw [hp1, if_pos hn]
      · have hp1 : sched_Play.p1 n = some (.inl ()) := by unfold sched_Play.p1; rw [if_neg (by omega), if_neg (by omega)]
        obtain ⟨m, rfl⟩ := Int.eq_ofNat_of_zero_le (show 0 ≤ n by omega)
        have hp2 : sched_Play.p2 jobs (m : Int) = some (.inl (List.replicate m 0, List.replicate jobs.length 0)) := by
          unfold sched_Play.p2
          simp only [Int.toNat_natCast]
          rw [if_pos (by omega), if_pos (by omega), if_pos (by omega)]
        rw [hp1, if_neg hn]
        simp only [hp2, Int.toNat_natCast]
        rw [if_pos (by omega)]
        have hr := iter_states (ρ := SPlayed × SFault) (f := sched_Play.r3 jobs) (fun i => (i, (List.range jobs.length).map (fun q => if q < i then (jobs.map (·.C)).getD q 0 else 0), (List.range jobs.length).map (fun q => if q < i then (-1 : Int) else 0))) (fun _ => none) jobs.length (t := (jobs.map (·.C), List.replicate jobs.length (-1))) (fun i hi _ => by
          have hi' : (i : Int) < (jobs.length : Int) := by omega
          simp only [sched_Play.r3, if_pos hi', List.getElem?_eq_getElem hi, onwardS, List.getElem?_map, List.getElem?_range hi, Option.map_some]
          congr 3
          refine Prod.ext ?_ ?_
          · apply List.ext_getElem?
            intro q
            simp only [List.getElem?_set, List.length_map, List.length_range, List.getElem?_map]
            by_cases hq : i = q
            · subst hq; simp [hi]
            · rw [if_neg hq]
              by_cases hqn : q < jobs.length
              · rw [List.getElem?_range hqn]
                simp only [Option.map_some]
                by_cases hqi : q < i
                · rw [if_pos hqi, if_pos (by omega)]
                · rw [if_neg hqi, if_neg (by omega)]
              · rw [List.getElem?_eq_none (by simp; omega)]; rfl
          · apply List.ext_getElem?
            intro q
            simp only [List.getElem?_set, List.length_map, List.length_range, List.getElem?_map]
            by_cases hq : i = q
            · subst hq; simp [hi]
            · rw [if_neg hq]
              by_cases hqn : q < jobs.length
              · rw [List.getElem?_range hqn]
                simp only [Option.map_some]
                by_cases hqi : q < i
                · rw [if_pos hqi, if_pos (by omega)]
                · rw [if_neg hqi, if_neg (by omega)]
              · rw [List.getElem?_eq_none (by simp; omega)]; rfl) (fun _ => by
          simp only [sched_Play.r3]
          rw [if_neg (by omega)]
          congr 4
          · apply List.ext_getElem
            · simp
            · intro q h1 h2
              have hq : q < jobs.length := by simpa using h1
              simp [hq]
          · apply List.ext_getElem
            · simp
            · intro q h1 h2
              have hq : q < jobs.length := by simpa using h1
              simp [hq]) (K := K) (by omega)
        rw [firstOf_none_of (fun _ _ _ => rfl)] at hr
        have e1 : (List.range jobs.length).map (fun q => if q < 0 then (jobs.map (·.C)).getD q 0 else 0) = List.replicate jobs.length (0 : Int) := by
          apply List.ext_getElem
          · simp
          · intro i h1 h2; simp
        have e2 : (List.range jobs.length).map (fun q => if q < 0 then (-1 : Int) else 0) = List.replicate jobs.length (0 : Int) := by
          apply List.ext_getElem
          · simp
          · intro i h1 h2; simp
        simp only [e1, e2] at hr
        rw [hr]
        simp only [leave, Play_r4_eq p hp pre jobs hj m (by omega) K (by omega) (by omega)]
    · have hp0 : sched_Play.p0 p = some (.inr (⟨[], []⟩, ⟨6, 0⟩)) := by
        unfold sched_Play.p0 sched_rule.f
        rw [if_neg (fun h => hp (.inl h)), if_neg (fun h => hp (.inr h)), if_pos rfl]
      rw [hp0, if_neg hp]
  · rw [if_neg hc, if_neg hc]
    rfl
/-- who isn't done when it is due -/
def lateAt (jobs : List SJob) (n : Nat) (ends : List Int) (i : Nat) : Bool := match jobs[i]?, ends[i]? with
  | some j, some e => decide (e > j.Due) || (decide (e < 0) && decide (j.Due ≤ (n : Int)))
  | _, _ => false
def lateTill (jobs : List SJob) (n : Nat) (ends : List Int) (k : Nat) : List Int := (List.range k).filterMap fun i => if lateAt jobs n ends i = true then some (i : Int) else none
theorem playOf_two : playOf [⟨0, 0, 3, 9, 1⟩, ⟨0, 1, 1, 3, 2⟩] 1 true 5 = (⟨[0, 1, 0, 0, -1], [4, 2]⟩, ⟨0, 0⟩) := by kernel_rfl
def sumN (f : Nat → Int) : Nat → Int
  | 0 => 0
  | n + 1 => sumN f n + f n
theorem sumN_congr {f g : Nat → Int} : ∀ {n : Nat}, (∀ j, j < n → f j = g j) → sumN f n = sumN g n
  | 0, _ => rfl
  | n + 1, h => by simp only [sumN]; rw [sumN_congr (fun j hj => h j (by omega)), h n (by omega)]
theorem sumN_le {f g : Nat → Int} : ∀ {n : Nat}, (∀ j, j < n → f j ≤ g j) → sumN f n ≤ sumN g n
  | 0, _ => Int.le_refl _
  | n + 1, h => by
    simp only [sumN]
    have := sumN_le (n := n) (fun j hj => h j (by omega))
    have := h n (by omega)
    omega
theorem sumN_nonneg {f : Nat → Int} : ∀ {n : Nat}, (∀ j, j < n → 0 ≤ f j) → 0 ≤ sumN f n
  | 0, _ => Int.le_refl _
  | n + 1, h => by
    simp only [sumN]
    have := sumN_nonneg (n := n) (fun j hj => h j (by omega))
    have := h n (by omega)
    omega
theorem sumN_zero {f : Nat → Int} {n : Nat} (h : ∀ j, j < n → f j = 0) : sumN f n = 0 := by
  rw [sumN_congr (g := fun _ => 0) h]
  induction n with
  | zero => rfl
  | succ n ih => simp only [sumN]; rw [ih (fun j hj => h j (by omega))]; rfl
theorem sumN_one {f g : Nat → Int} {b : Nat} {d : Int} : ∀ {n : Nat}, b < n → f b = g b + d → (∀ j, j < n → j ≠ b → f j = g j) → sumN f n = sumN g n + d
  | 0, h, _, _ => by omega
  | n + 1, h, hb, ho => by
    simp only [sumN]
    by_cases hn : n = b
    · subst hn
      rw [hb, sumN_congr (fun j hj => ho j (by omega) (by omega))]
      omega
    · rw [sumN_one (n := n) (by omega) hb (fun j hj hne => ho j (by omega) hne), ho n (by omega) hn]
      omega
theorem sumN_term {f : Nat → Int} {n k : Nat} (h : ∀ j, j < n → 0 ≤ f j) (hk : k < n) : f k ≤ sumN f n := by
  have h1 := sumN_one (f := f) (g := fun j => if j = k then 0 else f j) (b := k) (d := f k) hk (by simp) (fun j _ hne => by simp [hne])
  have h2 := sumN_nonneg (f := fun j => if j = k then 0 else f j) (n := n) (fun j hj => by show 0 ≤ (if j = k then 0 else f j); split; exact Int.le_refl _; exact h j hj)
  omega
theorem sumN_add (f g : Nat → Int) : ∀ n, sumN (fun j => f j + g j) n = sumN f n + sumN g n
  | 0 => rfl
  | n + 1 => by simp only [sumN]; rw [sumN_add f g n]; omega
theorem sumN_swap (f : Nat → Nat → Int) (m : Nat) : ∀ n, sumN (fun j => sumN (fun o => f o j) m) n = sumN (fun o => sumN (fun j => f o j) n) m
  | 0 => by
    show (0 : Int) = _
    symm
    exact sumN_zero (fun _ _ => rfl)
  | n + 1 => by
    simp only [sumN]
    rw [sumN_swap f m n, ← sumN_add]
theorem sumN_pick {f : Nat → Int} {n k : Nat} (hk : k < n) (h : ∀ j, j < n → j ≠ k → f j = 0) : sumN f n = f k := by
  have h1 := sumN_one (f := f) (g := fun _ => 0) (b := k) (d := f k) hk (by simp) (fun j hj hne => h j hj hne)
  rw [h1, sumN_zero (fun _ _ => rfl)]
  omega
/-- the greatest place up to m with a property -/
theorem exists_last {p : Nat → Prop} (m : Nat) (h0 : p 0) : ∃ t, t ≤ m ∧ p t ∧ ∀ s, t < s → s ≤ m → ¬ p s := by
  induction m with
  | zero => exact ⟨0, Nat.le_refl _, h0, fun s h1 h2 => by omega⟩
  | succ m ih =>
    by_cases h : p (m + 1)
    · exact ⟨m + 1, Nat.le_refl _, h, fun s h1 h2 => by omega⟩
    · obtain ⟨t, h1, h2, h3⟩ := ih
      refine ⟨t, by omega, h2, fun s h4 h5 => ?_⟩
      by_cases hs : s = m + 1
      · subst hs; exact h
      · exact h3 s h4 (by omega)
/-- work that is done tick by tick: what is left of n jobs; those of a level, which go ahead of all others -/
structure Level (n : Nat) (L : Nat → Nat → Int) (H : Nat → Prop) (r : Nat → Nat) (c : Nat → Int) : Prop where
  start : ∀ j, j < n → L 0 j = c j
  nonneg : ∀ t j, 0 ≤ L t j
  down : ∀ t j, L (t + 1) j ≤ L t j
  wait : ∀ t j, j < n → t < r j → L (t + 1) j = L t j
  runs : ∀ t, (∃ j, j < n ∧ H j ∧ r j ≤ t ∧ 0 < L t j) → ∃ b, b < n ∧ H b ∧ r b ≤ t ∧ 0 < L t b ∧ L (t + 1) b = L t b - 1 ∧ ∀ j, j < n → j ≠ b → L (t + 1) j = L t j
theorem Level.mono {n : Nat} {L : Nat → Nat → Int} {H : Nat → Prop} {r : Nat → Nat} {c : Nat → Int} (h : Level n L H r c) {t t' : Nat} (ht : t ≤ t') (j : Nat) : L t' j ≤ L t j := by
  induction t' with
  | zero => obtain rfl : t = 0 := by omega
            exact Int.le_refl _
  | succ t' ih =>
    by_cases he : t = t' + 1
    · subst he; exact Int.le_refl _
    · have := ih (by omega); have := h.down t' j; omega
theorem Level.still {n : Nat} {L : Nat → Nat → Int} {H : Nat → Prop} {r : Nat → Nat} {c : Nat → Int} (h : Level n L H r c) {t : Nat} {j : Nat} (hj : j < n) (ht : t ≤ r j) : L t j = c j := by
  induction t with
  | zero => exact h.start j hj
  | succ t ih => rw [h.wait t j hj (by omega)]; exact ih (by omega)
/-- if of a level never more comes in w ticks than can be done in them, then each of it is done w ticks behind its coming -/
theorem Level.done {n : Nat} {L : Nat → Nat → Int} {H : Nat → Prop} [DecidablePred H] {r : Nat → Nat} {c : Nat → Int} (h : Level n L H r c) (w : Nat) (hw : 1 ≤ w)
    (hsum : ∀ t0, sumN (fun j => if H j ∧ t0 ≤ r j ∧ r j < t0 + w then c j else 0) n ≤ w) {k : Nat} (hk : k < n) (hHk : H k) : L (r k + w) k = 0 := by
  obtain ⟨t0, ht0, hid, hlast⟩ := exists_last (p := fun t => ∀ j, j < n → H j → r j < t → L t j = 0) (r k) (fun j _ _ h => by omega)
  by_cases hall : ∀ t, t0 ≤ t → t < t0 + w → ∃ j, j < n ∧ H j ∧ r j ≤ t ∧ 0 < L t j
  · -- the core is never idle for this level
    have hA : ∀ d, d ≤ w → sumN (fun j => if H j ∧ t0 ≤ r j ∧ r j < t0 + w then L (t0 + d) j else 0) n ≤ (w : Int) - d := by
      intro d
      induction d with
      | zero =>
        intro _
        have := hsum t0
        rw [sumN_congr (g := fun j => if H j ∧ t0 ≤ r j ∧ r j < t0 + w then c j else 0) (fun j hj => by
          by_cases hc : H j ∧ t0 ≤ r j ∧ r j < t0 + w
          · rw [if_pos hc, if_pos hc]; exact h.still hj hc.2.1
          · rw [if_neg hc, if_neg hc])]
        omega
      | succ d ih =>
        intro hd
        have ih := ih (by omega)
        obtain ⟨b, hb, hHb, hrb, hLb, hstep, hoth⟩ := h.runs (t0 + d) (hall (t0 + d) (by omega) (by omega))
        have hrb0 : t0 ≤ r b := by
          apply Nat.le_of_not_lt
          intro hlt
          have h1 := hid b hb hHb hlt
          have h2 := h.mono (show t0 ≤ t0 + d by omega) b
          omega
        have := sumN_one (f := fun j => if H j ∧ t0 ≤ r j ∧ r j < t0 + w then L (t0 + (d + 1)) j else 0) (g := fun j => if H j ∧ t0 ≤ r j ∧ r j < t0 + w then L (t0 + d) j else 0) (b := b) (d := -1) hb (by
          rw [if_pos ⟨hHb, hrb0, by omega⟩, if_pos ⟨hHb, hrb0, by omega⟩]
          show L (t0 + d + 1) b = _
          rw [hstep]; omega) (fun j hj hne => by
          by_cases hc : H j ∧ t0 ≤ r j ∧ r j < t0 + w
          · rw [if_pos hc, if_pos hc]; exact hoth j hj hne
          · rw [if_neg hc, if_neg hc])
        rw [this]
        omega
    have hend := hA w (Nat.le_refl _)
    have hzero : ∀ j, j < n → H j → r j < t0 + w → L (t0 + w) j = 0 := by
      intro j hj hHj hrj
      by_cases hr0 : r j < t0
      · have h1 := hid j hj hHj hr0
        have h2 := h.mono (show t0 ≤ t0 + w by omega) j
        have h3 := h.nonneg (t0 + w) j
        omega
      · have h1 := sumN_term (f := fun j => if H j ∧ t0 ≤ r j ∧ r j < t0 + w then L (t0 + w) j else 0) (n := n) (k := j) (fun i _ => by
          by_cases hc : H i ∧ t0 ≤ r i ∧ r i < t0 + w
          · rw [if_pos hc]; exact h.nonneg _ _
          · rw [if_neg hc]; exact Int.le_refl _) hj
        rw [if_pos ⟨hHj, by omega, hrj⟩] at h1
        have h3 := h.nonneg (t0 + w) j
        omega
    by_cases hrk : r k < t0 + w
    · have h1 := hzero k hk hHk hrk
      have h2 := h.mono (show t0 + w ≤ r k + w by omega) k
      have h3 := h.nonneg (r k + w) k
      omega
    · exact absurd hzero (hlast (t0 + w) (by omega) (by omega))
  · have ⟨t, ht⟩ := Classical.not_forall.1 hall
    have ⟨ht1, ht⟩ := Classical.not_imp.1 ht
    have ⟨ht2, hnone⟩ := Classical.not_imp.1 ht
    have hz : ∀ j, j < n → H j → r j ≤ t → L t j = 0 := fun j hj hHj hrj => by
      have h1 := h.nonneg t j
      by_cases h0 : 0 < L t j
      · exact absurd ⟨j, hj, hHj, hrj, h0⟩ hnone
      · omega
    by_cases hrk : r k ≤ t
    · have h1 := hz k hk hHk hrk
      have h2 := h.mono (show t ≤ r k + w by omega) k
      have h3 := h.nonneg (r k + w) k
      omega
    · refine absurd (fun j hj hHj hrj => ?_) (hlast (t + 1) (by omega) (by omega))
      have h1 := hz j hj hHj (by omega)
      have h2 := h.down t j
      have h3 := h.nonneg (t + 1) j
      omega
/-- so much of one task lies in w ticks at most, if it comes T apart, J late at most -/
theorem spaced {n : Nat} {q : Nat → Prop} [DecidablePred q] {r : Nat → Nat} {a c : Nat → Int} {C T J : Int} (hT : 1 ≤ T) (hC : 0 ≤ C) (hc : ∀ j, j < n → q j → c j ≤ C) (hra : ∀ j, j < n → q j → a j ≤ r j ∧ (r j : Int) ≤ a j + J)
    (hsp : ∀ i j, i < j → j < n → q i → q j → a i + T ≤ a j) (t0 w : Nat) (hw : 1 ≤ w) (hJ : 0 ≤ J) :
    sumN (fun j => if q j ∧ t0 ≤ r j ∧ r j < t0 + w then c j else 0) n ≤ ((w + J + T - 1) / T) * C := by
  have key : ∀ m, m ≤ n → (sumN (fun j => if q j ∧ t0 ≤ r j ∧ r j < t0 + w then c j else 0) m ≤ 0 ∧ ∀ j, j < m → ¬ (q j ∧ t0 ≤ r j ∧ r j < t0 + w)) ∨
      ∃ j, j < m ∧ (q j ∧ t0 ≤ r j ∧ r j < t0 + w) ∧ sumN (fun j => if q j ∧ t0 ≤ r j ∧ r j < t0 + w then c j else 0) m ≤ ((a j - (t0 - J)) / T + 1) * C := by
    intro m
    induction m with
    | zero => intro _; exact .inl ⟨Int.le_refl _, fun j h => by omega⟩
    | succ m ih =>
      intro hm
      have ih := ih (by omega)
      simp only [sumN]
      by_cases hc' : q m ∧ t0 ≤ r m ∧ r m < t0 + w
      · right
        refine ⟨m, by omega, hc', ?_⟩
        rw [if_pos hc']
        have hcm := hc m (by omega) hc'.1
        have hrm := hra m (by omega) hc'.1
        rcases ih with ⟨h1, _⟩ | ⟨j, hj, hcj, h1⟩
        · have h0 : 0 ≤ (a m - (t0 - J)) / T := Int.ediv_nonneg (by omega) (by omega)
          have : 1 * C ≤ ((a m - (t0 - J)) / T + 1) * C := Int.mul_le_mul_of_nonneg_right (by omega) hC
          omega
        · have hs := hsp j m hj (by omega) hcj.1 hc'.1
          have h2 : (a j - (t0 - J)) / T + 1 ≤ (a m - (t0 - J)) / T := by
            have : (a j - (t0 - J) + T * 1) / T = (a j - (t0 - J)) / T + 1 := Int.add_mul_ediv_left _ _ (by omega)
            rw [← this]
            exact Int.ediv_le_ediv (by omega) (by omega)
          have h3 : ((a j - (t0 - J)) / T + 1 + 1) * C ≤ ((a m - (t0 - J)) / T + 1) * C := Int.mul_le_mul_of_nonneg_right (by omega) hC
          rw [Int.add_mul ((a j - (t0 - J)) / T + 1)] at h3
          omega
      · rw [if_neg hc']
        rcases ih with ⟨h1, h2⟩ | ⟨j, hj, hcj, h1⟩
        · left
          refine ⟨by omega, fun j hj => ?_⟩
          by_cases hjm : j = m
          · subst hjm; exact hc'
          · exact h2 j (by omega)
        · exact .inr ⟨j, by omega, hcj, by omega⟩
  have e : (w + J + T - 1) / T = (w + J - 1) / T + 1 := by
    have : (w + J - 1 + T * 1) / T = (w + J - 1) / T + 1 := Int.add_mul_ediv_left _ _ (by omega)
    rw [← this]; congr 1; omega
  rw [e]
  rcases key n (Nat.le_refl _) with ⟨h1, _⟩ | ⟨j, hj, hcj, h1⟩
  · have h0 : 0 ≤ ((w : Int) + J - 1) / T := Int.ediv_nonneg (by omega) (by omega)
    have : 0 ≤ ((w + J - 1) / T + 1) * C := Int.mul_nonneg (by omega) hC
    omega
  · have hrj := hra j hj hcj.1
    have : (a j - (t0 - J)) / T ≤ (w + J - 1) / T := Int.ediv_le_ediv (by omega) (by omega)
    have := Int.mul_le_mul_of_nonneg_right (show (a j - (t0 - J)) / T + 1 ≤ (w + J - 1) / T + 1 by omega) hC
    omega

def atN (jobs : List SJob) (j : Nat) : Nat := match jobs[j]? with | some e => e.At.toNat | none => 0
def costOf (jobs : List SJob) (j : Nat) : Int := (jobs.map (·.C)).getD j 0
theorem costOf_some {jobs : List SJob} {j : Nat} {e : SJob} (h : jobs[j]? = some e) : costOf jobs j = e.C := by simp [costOf, List.getD, h]
theorem atN_some {jobs : List SJob} {j : Nat} {e : SJob} (h : jobs[j]? = some e) : atN jobs j = e.At.toNat := by simp [atN, h]
/-- one tick, told of what is left -/
theorem leftP_step (p : Int) (pre : Bool) {jobs : List SJob} (hj : ∀ e ∈ jobs, Okj e) (t : Nat) :
    (runP p pre jobs t = -1 ∧ ∀ j, leftP p pre jobs (t + 1) j = leftP p pre jobs t j ∧ endP p pre jobs (t + 1) j = endP p pre jobs t j) ∨
    ∃ b : Nat, runP p pre jobs t = (b : Int) ∧ b < jobs.length ∧ 0 < leftP p pre jobs t b ∧ leftP p pre jobs (t + 1) b = leftP p pre jobs t b - 1 ∧ endP p pre jobs (t + 1) b = (if leftP p pre jobs t b = 1 then (t : Int) + 1 else endP p pre jobs t b) ∧
      ∀ j, j ≠ b → leftP p pre jobs (t + 1) j = leftP p pre jobs t j ∧ endP p pre jobs (t + 1) j = endP p pre jobs t j := by
  have hok := simP_ok p pre hj t
  have hs : simP p pre jobs (t + 1) = tickP p pre jobs (t : Int) (simP p pre jobs t) := rfl
  rcases nowOf_cases (p := p) (pre := pre) hok (t : Int) with h1 | ⟨b, h1, h2, h3⟩
  · have ht : tickP p pre jobs (t : Int) (simP p pre jobs t) = (-1, (simP p pre jobs t).2.1, (simP p pre jobs t).2.2) := by
      unfold tickP; simp only [h1]; rw [if_pos (by omega)]
    left
    unfold runP leftP endP
    rw [hs, ht]
    exact ⟨rfl, fun _ => ⟨rfl, rfl⟩⟩
  · have hbl : b < (simP p pre jobs t).2.1.length := by rw [hok.left]; exact h2
    have hbe : b < (simP p pre jobs t).2.2.length := by rw [hok.ends]; exact h2
    have ht : tickP p pre jobs (t : Int) (simP p pre jobs t) = ((b : Int), (simP p pre jobs t).2.1.set b ((simP p pre jobs t).2.1.getD b 0 - 1), if (simP p pre jobs t).2.1.getD b 0 - 1 = 0 then (simP p pre jobs t).2.2.set b ((t : Int) + 1) else (simP p pre jobs t).2.2) := by
      unfold tickP
      simp only [h1, Int.toNat_natCast]
      rw [if_neg (by omega), getD_set _ _ _ _ hbl, if_pos rfl]
    right
    refine ⟨b, ?_, h2, h3, ?_, ?_, fun j hne => ⟨?_, ?_⟩⟩
    · unfold runP; rw [hs, ht]
    · unfold leftP; rw [hs, ht]; simp only; rw [getD_set _ _ _ _ hbl, if_pos rfl]
    · unfold leftP endP; rw [hs, ht]
      simp only
      by_cases h0 : (simP p pre jobs t).2.1.getD b 0 = 1
      · rw [if_pos (by omega), if_pos h0, getD_set _ _ _ _ hbe, if_pos rfl]
      · rw [if_neg (by omega), if_neg h0]
    · unfold leftP; rw [hs, ht]; simp only; rw [getD_set _ _ _ _ hbl, if_neg (fun h => hne h.symm)]
    · unfold endP; rw [hs, ht]
      simp only
      split
      · rw [getD_set _ _ _ _ hbe, if_neg (fun h => hne h.symm)]
      · rfl
theorem leftP_zero (p : Int) (pre : Bool) (jobs : List SJob) (j : Nat) : leftP p pre jobs 0 j = costOf jobs j := rfl
theorem leftP_nonneg (p : Int) (pre : Bool) {jobs : List SJob} (hj : ∀ e ∈ jobs, Okj e) (t j : Nat) : 0 ≤ leftP p pre jobs t j := (simP_ok p pre hj t).nonneg j
theorem leftP_down (p : Int) (pre : Bool) {jobs : List SJob} (hj : ∀ e ∈ jobs, Okj e) (t j : Nat) : leftP p pre jobs (t + 1) j ≤ leftP p pre jobs t j := by
  rcases leftP_step p pre hj t with ⟨_, h⟩ | ⟨b, _, _, _, h1, _, h⟩
  · rw [(h j).1]; exact Int.le_refl _
  · by_cases hb : j = b
    · subst hb; omega
    · rw [(h j hb).1]; exact Int.le_refl _
theorem leftP_mono (p : Int) (pre : Bool) {jobs : List SJob} (hj : ∀ e ∈ jobs, Okj e) {t t' : Nat} (ht : t ≤ t') (j : Nat) : leftP p pre jobs t' j ≤ leftP p pre jobs t j := by
  induction t' with
  | zero => obtain rfl : t = 0 := by omega
            exact Int.le_refl _
  | succ t' ih =>
    by_cases he : t = t' + 1
    · subst he; exact Int.le_refl _
    · have := ih (by omega); have := leftP_down p pre hj t' j; omega
/-- when a job is done, its end says so -/
theorem endP_spec (p : Int) (pre : Bool) {jobs : List SJob} (hj : ∀ e ∈ jobs, Okj e) {j : Nat} (hjl : j < jobs.length) : ∀ t, (0 < leftP p pre jobs t j → endP p pre jobs t j = -1) ∧
    (leftP p pre jobs t j = 0 → ∃ s : Nat, 1 ≤ s ∧ s ≤ t ∧ endP p pre jobs t j = (s : Int) ∧ leftP p pre jobs s j = 0 ∧ 0 < leftP p pre jobs (s - 1) j)
  | 0 => by
    have he : jobs[j]? = some jobs[j] := List.getElem?_eq_getElem hjl
    have hC := (hj _ (List.getElem_mem hjl)).C
    have h0 : leftP p pre jobs 0 j = jobs[j].C := by rw [leftP_zero, costOf_some he]
    refine ⟨fun _ => ?_, fun h => by omega⟩
    simp [endP, simP, List.getD, List.getElem?_replicate, hjl]
  | t + 1 => by
    obtain ⟨ih1, ih2⟩ := endP_spec p pre hj hjl t
    have keep : leftP p pre jobs (t + 1) j = leftP p pre jobs t j → endP p pre jobs (t + 1) j = endP p pre jobs t j → (0 < leftP p pre jobs (t + 1) j → endP p pre jobs (t + 1) j = -1) ∧
        (leftP p pre jobs (t + 1) j = 0 → ∃ s : Nat, 1 ≤ s ∧ s ≤ t + 1 ∧ endP p pre jobs (t + 1) j = (s : Int) ∧ leftP p pre jobs s j = 0 ∧ 0 < leftP p pre jobs (s - 1) j) := fun h1 h2 => by
      rw [h1, h2]
      refine ⟨ih1, fun h => ?_⟩
      obtain ⟨s, a, b, c⟩ := ih2 h
      exact ⟨s, a, by omega, c⟩
    rcases leftP_step p pre hj t with ⟨_, h⟩ | ⟨b, _, _, hpos, h1, h2, h⟩
    · exact keep (h j).1 (h j).2
    · by_cases hb : j = b
      · subst hb
        by_cases h3 : leftP p pre jobs t j = 1
        · rw [if_pos h3] at h2
          refine ⟨fun h' => by omega, fun _ => ⟨t + 1, by omega, Nat.le_refl _, by rw [h2]; rfl, by omega, hpos⟩⟩
        · rw [if_neg h3] at h2
          exact ⟨fun _ => by rw [h2]; exact ih1 hpos, fun h' => by omega⟩
      · exact keep (h j hb).1 (h j hb).2
theorem endP_done (p : Int) (pre : Bool) {jobs : List SJob} (hj : ∀ e ∈ jobs, Okj e) {j : Nat} (hjl : j < jobs.length) {s t : Nat} (hs : leftP p pre jobs s j = 0) (ht : s ≤ t) : 1 ≤ endP p pre jobs t j ∧ endP p pre jobs t j ≤ s := by
  have hz : leftP p pre jobs t j = 0 := by have := leftP_mono p pre hj ht j; have := leftP_nonneg p pre hj t j; omega
  obtain ⟨u, h1, h2, h3, h4, h5⟩ := (endP_spec p pre hj hjl t).2 hz
  rw [h3]
  refine ⟨by omega, ?_⟩
  have : u ≤ s := by
    apply Nat.le_of_not_lt
    intro hlt
    have := leftP_mono p pre hj (show s ≤ u - 1 by omega) j
    omega
  omega
theorem ends_get (p : Int) (pre : Bool) {jobs : List SJob} (hj : ∀ e ∈ jobs, Okj e) {j : Nat} (hjl : j < jobs.length) (t : Nat) : (simP p pre jobs t).2.2[j]? = some (endP p pre jobs t j) := get_of_lt (by rw [(simP_ok p pre hj t).ends]; exact hjl)
/-- who goes first at a tick, where who goes first goes at once -/
theorem runP_first (p : Int) {jobs : List SJob} (hj : ∀ e ∈ jobs, Okj e) (t : Nat) : (runP p true jobs t = -1 ∧ ∀ j e, jobs[j]? = some e → ¬ (e.At ≤ (t : Int) ∧ 0 < leftP p true jobs t j)) ∨
    ∃ (b : Nat) (y : SJob), runP p true jobs t = (b : Int) ∧ jobs[b]? = some y ∧ y.At ≤ (t : Int) ∧ 0 < leftP p true jobs t b ∧ ∀ j x, jobs[j]? = some x → x.At ≤ (t : Int) → 0 < leftP p true jobs t j → ¬ aheadJ p x y ∧ (j < b → aheadJ p y x) := by
  have hok := simP_ok p true hj t
  have hnow : nowOf p true jobs (t : Int) (simP p true jobs t).1 (simP p true jobs t).2.1 = firstTo p jobs (simP p true jobs t).2.1 (t : Int) jobs.length := by unfold nowOf; rw [if_pos (.inl rfl)]
  have hrun : runP p true jobs t = firstTo p jobs (simP p true jobs t).2.1 (t : Int) jobs.length := by
    rw [← hnow]
    unfold runP
    show (tickP p true jobs (t : Int) (simP p true jobs t)).1 = _
    unfold tickP
    simp only
    split <;> rfl
  have hcan : ∀ j e, jobs[j]? = some e → (canJ jobs (simP p true jobs t).2.1 (t : Int) j ↔ e.At ≤ (t : Int) ∧ 0 < leftP p true jobs t j) := fun j e he => by
    unfold canJ
    rw [he, get_of_lt (by rw [hok.left]; exact lt_of_get he)]
    rfl
  rw [hrun]
  rcases firstTo_cases p jobs (simP p true jobs t).2.1 (t : Int) jobs.length (Nat.le_refl _) with ⟨h1, h2⟩ | ⟨b, y, h1, h2, h3, h4, h5⟩
  · exact .inl ⟨h1, fun j e he hc => h2 j (lt_of_get he) ((hcan j e he).2 hc)⟩
  · obtain ⟨g1, g2⟩ := (hcan b y h3).1 h4
    exact .inr ⟨b, y, h1, h3, g1, g2, fun j x hx ha hl => h5 j x (lt_of_get hx) hx ((hcan j x hx).2 ⟨ha, hl⟩)⟩
/-- jobs of a priority, or a greater one, as a level -/
theorem simP_level {jobs : List SJob} (hj : ∀ e ∈ jobs, Okj e) (Pi : Int) : Level jobs.length (leftP 1 true jobs) (fun j => ∃ e, jobs[j]? = some e ∧ Pi ≤ e.P) (atN jobs) (costOf jobs) := by
  refine ⟨fun j _ => leftP_zero 1 true jobs j, leftP_nonneg 1 true hj, leftP_down 1 true hj, fun t j hjl hr => ?_, fun t ⟨j, hjl, ⟨e, he, hP⟩, hr, hL⟩ => ?_⟩
  · have he : jobs[j]? = some jobs[j] := List.getElem?_eq_getElem hjl
    rw [atN_some he] at hr
    rcases leftP_step 1 true hj t with ⟨_, h⟩ | ⟨b, hb0, hb1, hpos, h1, _, h⟩
    · exact (h j).1
    · refine (h j ?_).1
      rintro rfl
      rcases runP_first 1 hj t with ⟨g1, _⟩ | ⟨b', y, g1, g2, g3, _⟩
      · omega
      · have : b' = j := by omega
        subst this
        rw [he] at g2
        cases g2
        omega
  · rw [atN_some he] at hr
    have hA := (hj e (List.mem_of_getElem? he)).At
    rcases runP_first 1 hj t with ⟨_, h⟩ | ⟨b, y, g1, g2, g3, g4, g5⟩
    · exact absurd ⟨by omega, hL⟩ (h j e he)
    · have hn := (g5 j e he (by omega) hL).1
      have hPb : Pi ≤ y.P := by
        unfold aheadJ at hn
        rw [if_pos rfl] at hn
        omega
      rcases leftP_step 1 true hj t with ⟨k1, _⟩ | ⟨b', k1, k2, k3, k4, _, k6⟩
      · omega
      · have : b' = b := by omega
        subst this
        have hAb := (hj y (List.mem_of_getElem? g2)).At
        exact ⟨b', k2, ⟨y, g2, hPb⟩, by rw [atN_some g2]; omega, k3, k4, fun i _ hne => (k6 i hne).1⟩

/-- work that is done tick by tick, of which what has begun goes on -/
structure Bus (n : Nat) (L : Nat → Nat → Int) (run : Nat → Int) (r : Nat → Nat) (c : Nat → Int) (pr : Nat → Nat) : Prop where
  start : ∀ j, j < n → L 0 j = c j
  nonneg : ∀ t j, 0 ≤ L t j
  step : ∀ t, (run t = -1 ∧ ∀ j, L (t + 1) j = L t j) ∨ ∃ b : Nat, run t = (b : Int) ∧ b < n ∧ 0 < L t b ∧ L (t + 1) b = L t b - 1 ∧ ∀ j, j ≠ b → L (t + 1) j = L t j
  keep : ∀ t (b : Nat), run t = (b : Int) → 0 < L (t + 1) b → run (t + 1) = (b : Int)
  pick : ∀ t, (t = 0 ∨ ∀ b : Nat, run (t - 1) = (b : Int) → L t b = 0) → (run t = -1 ∧ ∀ j, j < n → r j ≤ t → L t j = 0) ∨ ∃ b : Nat, run t = (b : Int) ∧ r b ≤ t ∧ ∀ j, j < n → r j ≤ t → 0 < L t j → pr b ≤ pr j ∧ (pr b = pr j → r b ≤ r j ∧ (r b = r j → b ≤ j))
namespace Bus
variable {n : Nat} {L : Nat → Nat → Int} {run : Nat → Int} {r : Nat → Nat} {c : Nat → Int} {pr : Nat → Nat}
theorem down (h : Bus n L run r c pr) (t j : Nat) : L (t + 1) j ≤ L t j := by
  rcases h.step t with ⟨_, h1⟩ | ⟨b, _, _, _, h1, h2⟩
  · rw [h1]; exact Int.le_refl _
  · by_cases hb : j = b
    · subst hb; omega
    · rw [h2 j hb]; exact Int.le_refl _
theorem mono (h : Bus n L run r c pr) {t t' : Nat} (ht : t ≤ t') (j : Nat) : L t' j ≤ L t j := by
  induction t' with
  | zero => obtain rfl : t = 0 := by omega
            exact Int.le_refl _
  | succ t' ih =>
    by_cases he : t = t' + 1
    · subst he; exact Int.le_refl _
    · have := ih (by omega); have := h.down t' j; omega
/-- at a tick one picks, or goes on -/
theorem kind (h : Bus n L run r c pr) (t : Nat) : (t = 0 ∨ ∀ b : Nat, run (t - 1) = (b : Int) → L t b = 0) ∨ ∃ y : Nat, 1 ≤ t ∧ run (t - 1) = (y : Int) ∧ run t = (y : Int) ∧ 0 < L t y ∧ L t y < L (t - 1) y := by
  by_cases hp : t = 0 ∨ ∀ b : Nat, run (t - 1) = (b : Int) → L t b = 0
  · exact .inl hp
  · right
    obtain ⟨h0, h1⟩ := not_or.1 hp
    obtain ⟨y, h1⟩ := Classical.not_forall.1 h1
    obtain ⟨h1, h2⟩ := Classical.not_imp.1 h1
    obtain ⟨t, rfl⟩ : ∃ s, t = s + 1 := ⟨t - 1, by omega⟩
    have h3 := h.nonneg (t + 1) y
    simp only [Nat.add_sub_cancel] at h1 ⊢
    refine ⟨y, by omega, h1, h.keep t y h1 (by omega), by omega, ?_⟩
    rcases h.step t with ⟨g1, _⟩ | ⟨b, g1, _, _, g2, _⟩
    · omega
    · obtain rfl : b = y := by omega
      omega
theorem came (h : Bus n L run r c pr) : ∀ (t b : Nat), run t = (b : Int) → r b ≤ t := by
  intro t
  induction t with
  | zero =>
    intro b hb
    rcases h.pick 0 (.inl rfl) with ⟨h1, _⟩ | ⟨b', h1, h2, _⟩
    · omega
    · obtain rfl : b' = b := by omega
      exact h2
  | succ t ih =>
    intro b hb
    rcases h.kind (t + 1) with hp | ⟨y, _, h1, h2, _⟩
    · rcases h.pick (t + 1) hp with ⟨h1, _⟩ | ⟨b', h1, h2, _⟩
      · omega
      · obtain rfl : b' = b := by omega
        exact h2
    · obtain rfl : y = b := by omega
      have := ih y h1
      omega
theorem atMost (h : Bus n L run r c pr) {j : Nat} (hj : j < n) (t : Nat) : L t j ≤ c j := by rw [← h.start j hj]; exact h.mono (Nat.zero_le _) j
/-- what has begun and isn't done ran a tick ago -/
theorem begun (h : Bus n L run r c pr) {j : Nat} (hj : j < n) : ∀ t, 0 < L t j → L t j < c j → 1 ≤ t ∧ run (t - 1) = (j : Int)
  | 0, _, h1 => by rw [h.start j hj] at h1; omega
  | t + 1, h0, h1 => by
    refine ⟨by omega, ?_⟩
    rw [Nat.add_sub_cancel]
    rcases h.step t with ⟨g1, g2⟩ | ⟨b, g1, _, _, g2, g3⟩
    · rw [g2] at h0 h1
      obtain ⟨k1, k2⟩ := begun h hj t h0 h1
      have := h.keep (t - 1) j k2 (by rw [show t - 1 + 1 = t by omega]; exact h0)
      rw [show t - 1 + 1 = t by omega] at this
      exact this
    · by_cases hb : j = b
      · subst hb; exact g1
      · rw [g3 j hb] at h0 h1
        obtain ⟨k1, k2⟩ := begun h hj t h0 h1
        have := h.keep (t - 1) j k2 (by rw [show t - 1 + 1 = t by omega]; exact h0)
        rw [show t - 1 + 1 = t by omega] at this
        exact this
/-- what runs goes on till it is done -/
theorem through (h : Bus n L run r c pr) {k : Nat} (hk : k < n) {s : Nat} (hs : run s = (k : Int)) : L (s + (c k).toNat) k = 0 := by
  have key : ∀ d : Nat, L (s + d) k = 0 ∨ (L (s + d) k ≤ c k - d ∧ run (s + d) = (k : Int)) := by
    intro d
    induction d with
    | zero => right; exact ⟨by have := h.atMost hk s; simpa using this, hs⟩
    | succ d ih =>
      have hn := h.nonneg (s + (d + 1)) k
      rcases ih with h0 | ⟨h1, h2⟩
      · left
        have := h.mono (show s + d ≤ s + (d + 1) by omega) k
        omega
      · rcases h.step (s + d) with ⟨g1, _⟩ | ⟨b, g1, _, _, g2, _⟩
        · omega
        · obtain rfl : b = k := by omega
          by_cases hz : L (s + (d + 1)) b = 0
          · exact .inl hz
          · right
            have : L (s + (d + 1)) b = L (s + d) b - 1 := g2
            exact ⟨by omega, h.keep (s + d) b g1 (by show 0 < L (s + (d + 1)) b; omega)⟩
  have hn := h.nonneg (s + (c k).toNat) k
  have h0 := h.nonneg 0 k
  rw [h.start k hk] at h0
  rcases key (c k).toNat with h1 | ⟨h1, _⟩
  · exact h1
  · omega
/-- ticks that all go into some of the work -/
theorem work (h : Bus n L run r c pr) (W : Nat → Prop) [DecidablePred W] (t0 : Nat) : ∀ d : Nat, (∀ t, t0 ≤ t → t < t0 + d → ∃ y : Nat, run t = (y : Int) ∧ W y) → sumN (fun j => if W j then L (t0 + d) j else 0) n = sumN (fun j => if W j then L t0 j else 0) n - d
  | 0, _ => by simp
  | d + 1, hW => by
    have ih := work h W t0 d (fun t h1 h2 => hW t h1 (by omega))
    obtain ⟨y, hy, hWy⟩ := hW (t0 + d) (by omega) (by omega)
    rcases h.step (t0 + d) with ⟨g1, _⟩ | ⟨b, g1, g2, _, g3, g4⟩
    · omega
    · obtain rfl : b = y := by omega
      have := sumN_one (f := fun j => if W j then L (t0 + (d + 1)) j else 0) (g := fun j => if W j then L (t0 + d) j else 0) (b := b) (d := -1) g2 (by
        rw [if_pos hWy, if_pos hWy]
        show L (t0 + d + 1) b = _
        rw [g3]; omega) (fun j _ hne => by
        by_cases hc : W j
        · rw [if_pos hc, if_pos hc]; exact g4 j hne
        · rw [if_neg hc, if_neg hc])
      rw [this, ih]
      omega
theorem exhaust (h : Bus n L run r c pr) (W : Nat → Prop) [DecidablePred W] (t0 w : Nat) (hW : ∀ t, t0 ≤ t → t < t0 + w → ∃ y : Nat, run t = (y : Int) ∧ W y) (hsum : sumN (fun j => if W j then L t0 j else 0) n ≤ w) {j : Nat} (hj : j < n) (hWj : W j) : L (t0 + w) j = 0 := by
  have h1 := h.work W t0 w hW
  have h2 := sumN_term (f := fun j => if W j then L (t0 + w) j else 0) (n := n) (k := j) (fun i _ => by
    by_cases hc : W i
    · rw [if_pos hc]; exact h.nonneg _ _
    · rw [if_neg hc]; exact Int.le_refl _) hj
  rw [if_pos hWj] at h2
  have h3 := h.nonneg (t0 + w) j
  omega
/-- one begins as soon as all that goes ahead of it may be done -/
theorem begins (h : Bus n L run r c pr) {k : Nat} (hk : k < n) (hck : 1 ≤ c k) {B : Int} (hB0 : 0 ≤ B) (hB : ∀ j, j < n → pr k < pr j → c j - 1 ≤ B) (fifo : ∀ j, j < n → pr j = pr k → k < j → r k ≤ r j)
    (busy : Nat) (hb1 : 1 ≤ busy) (hbusy : ∀ t0, B + sumN (fun j => if pr j ≤ pr k ∧ t0 ≤ r j ∧ r j < t0 + busy then c j else 0) n ≤ busy) :
    ∃ t0, t0 ≤ r k ∧ r k < t0 + busy ∧ ∀ w : Nat, B + sumN (fun j => if (pr j < pr k ∧ t0 ≤ r j ∧ r j ≤ t0 + w) ∨ (pr j = pr k ∧ t0 ≤ r j ∧ j < k) then c j else 0) n ≤ w → L (t0 + w + (c k).toNat) k = 0 := by
  obtain ⟨t0, ht0, hid, hlast⟩ := exists_last (p := fun t => ∀ j, j < n → pr j ≤ pr k → r j < t → L t j = 0) (r k) (fun j _ _ h => by omega)
  -- where none of the level waits, a time like t0 follows
  have next : ∀ t, t0 ≤ t → t < r k → ¬ ∀ j, j < n → pr j ≤ pr k → r j ≤ t → L t j = 0 := fun t h1 h2 hall => by
    refine hlast (t + 1) (by omega) (by omega) (fun j hj hp hr => ?_)
    have h3 := hall j hj hp (by omega)
    have h4 := h.down t j
    have h5 := h.nonneg (t + 1) j
    omega
  let X : Nat → Prop := fun j => pr k < pr j ∧ 0 < L t0 j ∧ L t0 j < c j
  haveI : DecidablePred X := fun _ => Classical.propDecidable _
  have hrun : ∀ E, (∀ t, t0 ≤ t → t < E → t < r k ∨ (r k ≤ t ∧ 0 < L t k)) → ∀ d, t0 + d < E → ∃ y : Nat, run (t0 + d) = (y : Int) ∧ y < n ∧ 0 < L (t0 + d) y ∧ (pr y ≤ pr k ∧ t0 ≤ r y ∧ r y ≤ t0 + d ∨ X y) := by
    intro E hE d
    induction d with
    | zero =>
      intro hd
      rcases h.kind t0 with hp | ⟨y, h1, h2, h3, h4, h5⟩
      · have hno : ¬ ∀ j, j < n → pr j ≤ pr k → r j ≤ t0 → L t0 j = 0 := fun hall => by
          rcases hE t0 (Nat.le_refl _) hd with hl | ⟨hl1, hl2⟩
          · exact next t0 (Nat.le_refl _) hl hall
          · have := hall k hk (Nat.le_refl _) hl1; omega
        rcases h.pick t0 hp with ⟨_, h2⟩ | ⟨y, h1, h2, h3⟩
        · exact absurd (fun j hj _ hr => h2 j hj hr) hno
        · rcases h.step t0 with ⟨g1, _⟩ | ⟨b, g1, g2, g3, _⟩
          · omega
          · obtain rfl : b = y := by omega
            refine ⟨b, h1, g2, g3, .inl ?_⟩
            by_cases hpr : pr b ≤ pr k
            · refine ⟨hpr, ?_, h2⟩
              apply Nat.le_of_not_lt
              intro hlt
              have := hid b g2 hpr hlt
              omega
            · refine absurd (fun j hj hp' hr => ?_) hno
              by_cases hz : 0 < L t0 j
              · have := (h3 j hj hr hz).1; omega
              · have := h.nonneg t0 j; omega
      · rcases h.step t0 with ⟨g1, _⟩ | ⟨b, g1, g2, g3, _⟩
        · omega
        · obtain rfl : b = y := by omega
          refine ⟨b, h3, g2, h4, ?_⟩
          have hra := h.came _ _ h2
          by_cases hpr : pr b ≤ pr k
          · have := hid b g2 hpr (by omega)
            omega
          · right
            have := h.atMost g2 (t0 - 1)
            exact ⟨by omega, h4, by omega⟩
    | succ d ih =>
      intro hd
      obtain ⟨y', i1, i2, i3, i4⟩ := ih (by omega)
      have hno : ¬ ∀ j, j < n → pr j ≤ pr k → r j ≤ t0 + (d + 1) → L (t0 + (d + 1)) j = 0 := fun hall => by
        rcases hE (t0 + (d + 1)) (by omega) hd with hl | ⟨hl1, hl2⟩
        · exact next (t0 + (d + 1)) (by omega) hl hall
        · have := hall k hk (Nat.le_refl _) hl1; omega
      rcases h.kind (t0 + (d + 1)) with hp | ⟨y, h1, h2, h3, h4, h5⟩
      · rcases h.pick (t0 + (d + 1)) hp with ⟨_, h2⟩ | ⟨y, h1, h2, h3⟩
        · exact absurd (fun j hj _ hr => h2 j hj hr) hno
        · rcases h.step (t0 + (d + 1)) with ⟨g1, _⟩ | ⟨b, g1, g2, g3, _⟩
          · omega
          · obtain rfl : b = y := by omega
            refine ⟨b, h1, g2, g3, .inl ?_⟩
            by_cases hpr : pr b ≤ pr k
            · refine ⟨hpr, ?_, h2⟩
              apply Nat.le_of_not_lt
              intro hlt
              have := hid b g2 hpr hlt
              have := h.mono (show t0 ≤ t0 + (d + 1) by omega) b
              omega
            · refine absurd (fun j hj hp' hr => ?_) hno
              by_cases hz : 0 < L (t0 + (d + 1)) j
              · have := (h3 j hj hr hz).1; omega
              · have := h.nonneg (t0 + (d + 1)) j; omega
      · rw [show t0 + (d + 1) - 1 = t0 + d by omega] at h2
        obtain rfl : y' = y := by omega
        refine ⟨y', h3, i2, h4, ?_⟩
        rcases i4 with ⟨k1, k2, k3⟩ | k1
        · exact .inl ⟨k1, k2, by omega⟩
        · exact .inr k1
  have hX : sumN (fun j => if X j then L t0 j else 0) n ≤ B := by
    by_cases hx : ∃ x, x < n ∧ X x
    · obtain ⟨x, hxn, hx⟩ := hx
      have h1 := h.begun hxn t0 hx.2.1 hx.2.2
      rw [sumN_pick (f := fun j => if X j then L t0 j else 0) hxn (fun j hj hne => if_neg (fun hXj => by
        have h2 := h.begun hj t0 hXj.2.1 hXj.2.2
        omega)), if_pos hx]
      have := hB x hxn hx.1
      have := hx.2.2
      omega
    · rw [sumN_zero (fun j hj => if_neg (fun hXj => hx ⟨j, hj, hXj⟩))]
      exact hB0
  have hsumW : ∀ (A : Nat → Prop) [DecidablePred A] [DecidablePred fun j => A j ∨ X j], sumN (fun j => if A j ∨ X j then L t0 j else 0) n ≤ B + sumN (fun j => if A j then c j else 0) n := by
    intro A _ _
    have h1 : sumN (fun j => if A j ∨ X j then L t0 j else 0) n ≤ sumN (fun j => (if X j then L t0 j else 0) + (if A j then c j else 0)) n := sumN_le fun j hj => by
      have h2 := h.atMost hj t0
      have h3 := h.nonneg t0 j
      by_cases hA : A j
      · rw [if_pos (.inl hA), if_pos hA]
        split <;> omega
      · by_cases hXj : X j
        · rw [if_pos (.inr hXj), if_pos hXj, if_neg hA]; omega
        · rw [if_neg (by rintro (h | h); exact hA h; exact hXj h), if_neg hXj, if_neg hA]; omega
    rw [sumN_add] at h1
    omega
  refine ⟨t0, ht0, ?_, fun w hw => ?_⟩
  · apply Nat.lt_of_not_le
    intro hle
    haveI : DecidablePred fun j => (pr j ≤ pr k ∧ t0 ≤ r j ∧ r j < t0 + busy) ∨ X j := fun _ => Classical.propDecidable _
    have hall : ∀ t, t0 ≤ t → t < t0 + busy → ∃ y : Nat, run t = (y : Int) ∧ ((pr y ≤ pr k ∧ t0 ≤ r y ∧ r y < t0 + busy) ∨ X y) := fun t h1 h2 => by
      obtain ⟨y, g1, g2, g3, g4⟩ := hrun (t0 + busy) (fun t _ h2 => .inl (by omega)) (t - t0) (by omega)
      rw [show t0 + (t - t0) = t by omega] at g1 g4
      refine ⟨y, g1, ?_⟩
      rcases g4 with ⟨k1, k2, k3⟩ | k1
      · exact .inl ⟨k1, k2, by omega⟩
      · exact .inr k1
    have hs := hsumW (fun j => pr j ≤ pr k ∧ t0 ≤ r j ∧ r j < t0 + busy)
    have hb := hbusy t0
    have hex := fun j hj hW => h.exhaust (fun j => (pr j ≤ pr k ∧ t0 ≤ r j ∧ r j < t0 + busy) ∨ X j) t0 busy hall (by omega) (j := j) hj hW
    refine hlast (t0 + busy) (by omega) hle (fun j hj hp hr => ?_)
    by_cases hr0 : r j < t0
    · have h1 := hid j hj hp hr0
      have h2 := h.mono (show t0 ≤ t0 + busy by omega) j
      have h3 := h.nonneg (t0 + busy) j
      omega
    · exact hex j hj (.inl ⟨hp, by omega, hr⟩)
  · apply Classical.byContradiction
    intro hne
    have hnr : ∀ s, s ≤ t0 + w → run s ≠ (k : Int) := fun s hs hr => by
      have h1 := h.through hk hr
      have h2 := h.mono (show s + (c k).toNat ≤ t0 + w + (c k).toNat by omega) k
      have h3 := h.nonneg (t0 + w + (c k).toNat) k
      exact hne (by omega)
    have hfull : ∀ s, s ≤ t0 + w + 1 → L s k = c k := by
      intro s
      induction s with
      | zero => intro _; exact h.start k hk
      | succ s ih =>
        intro hs
        rw [← ih (by omega)]
        rcases h.step s with ⟨_, g2⟩ | ⟨b, g1, _, _, _, g3⟩
        · exact g2 k
        · refine g3 k ?_
          rintro rfl
          exact hnr s (by omega) g1
    have hown : ∀ t, t ≤ t0 + w → ∀ y : Nat, run t = (y : Int) → pr y = pr k → y ≤ k := by
      intro t
      induction t with
      | zero =>
        intro _ y hy hp
        rcases h.pick 0 (.inl rfl) with ⟨g1, _⟩ | ⟨b, g1, g2, g3⟩
        · omega
        · obtain rfl : b = y := by omega
          apply Nat.le_of_not_lt
          intro hlt
          have hbn : b < n := by rcases h.step 0 with ⟨q1, _⟩ | ⟨b', q1, q2, _⟩ <;> omega
          have hf := fifo b hbn hp hlt
          have := (g3 k hk (by omega) (by rw [hfull 0 (by omega)]; omega)).2 hp
          have := this.2 (by omega)
          omega
      | succ t ih =>
        intro ht y hy hp
        rcases h.kind (t + 1) with hpk | ⟨y', h1, h2, h3, _⟩
        · rcases h.pick (t + 1) hpk with ⟨g1, _⟩ | ⟨b, g1, g2, g3⟩
          · omega
          · obtain rfl : b = y := by omega
            apply Nat.le_of_not_lt
            intro hlt
            have hbn : b < n := by rcases h.step (t + 1) with ⟨q1, _⟩ | ⟨b', q1, q2, _⟩ <;> omega
            have hf := fifo b hbn hp hlt
            have := (g3 k hk (by omega) (by rw [hfull (t + 1) (by omega)]; omega)).2 hp
            have := this.2 (by omega)
            omega
        · rw [Nat.add_sub_cancel] at h2
          obtain rfl : y' = y := by omega
          exact ih (by omega) y' h2 hp
    have hE : ∀ t, t0 ≤ t → t < t0 + w + 1 → t < r k ∨ (r k ≤ t ∧ 0 < L t k) := fun t _ h2 => by
      by_cases hr : t < r k
      · exact .inl hr
      · exact .inr ⟨by omega, by rw [hfull t (by omega)]; omega⟩
    have hwho : ∀ t, t0 ≤ t → t < t0 + w + 1 → ∃ y : Nat, run t = (y : Int) ∧ y < n ∧ 0 < L t y ∧ (((pr y < pr k ∧ t0 ≤ r y ∧ r y ≤ t0 + w) ∨ (pr y = pr k ∧ t0 ≤ r y ∧ y < k)) ∨ X y) := fun t h1 h2 => by
      obtain ⟨y, g1, g2, g3, g4⟩ := hrun (t0 + w + 1) hE (t - t0) (by omega)
      rw [show t0 + (t - t0) = t by omega] at g1 g3 g4
      refine ⟨y, g1, g2, g3, ?_⟩
      rcases g4 with ⟨k1, k2, k3⟩ | k1
      · left
        by_cases hp : pr y = pr k
        · have h3 := hown t (by omega) y g1 hp
          have h4 : y ≠ k := by rintro rfl; exact hnr t (by omega) g1
          exact .inr ⟨hp, k2, by omega⟩
        · exact .inl ⟨by omega, k2, by omega⟩
      · exact .inr k1
    haveI : DecidablePred fun j => ((pr j < pr k ∧ t0 ≤ r j ∧ r j ≤ t0 + w) ∨ (pr j = pr k ∧ t0 ≤ r j ∧ j < k)) ∨ X j := fun _ => Classical.propDecidable _
    have hs := hsumW (fun j => (pr j < pr k ∧ t0 ≤ r j ∧ r j ≤ t0 + w) ∨ (pr j = pr k ∧ t0 ≤ r j ∧ j < k))
    obtain ⟨y, g1, g2, g3, g4⟩ := hwho (t0 + w) (by omega) (by omega)
    have := h.exhaust (fun j => ((pr j < pr k ∧ t0 ≤ r j ∧ r j ≤ t0 + w) ∨ (pr j = pr k ∧ t0 ≤ r j ∧ j < k)) ∨ X j) t0 w (fun t h1 h2 => by
      obtain ⟨y, q1, _, _, q2⟩ := hwho t h1 (by omega)
      exact ⟨y, q1, q2⟩) (by omega) (j := y) g2 g4
    omega
end Bus

/-- what is wrong with the i-th message that comes -/
def msgAt (l0 : List SFrame) (l1 : List SCome) (l2 : List Int) (i : Nat) : Option SFault :=
  match l1[i]?, l2[i]? with
  | some c, some a => if c.Task < 0 ∨ c.Task ≥ (l0.length : Int) then some ⟨4, i⟩ else
    match l0[c.Task.toNat]? with
    | some m => if c.At < 0 ∨ c.At > 20000 ∨ a < 0 ∨ a > m.J then some ⟨3, i⟩ else none
    | none => none
  | _, _ => none
/-- the i-th one as a job -/
def jobMsg (l0 : List SFrame) (l1 : List SCome) (l2 : List Int) (i : Nat) : SJob :=
  match l1[i]?, l2[i]? with
  | some c, some a => match l0[c.Task.toNat]? with
    | some m => ⟨c.Task, c.At + a, m.C, c.At + m.D, (l0.length : Int) - c.Task⟩
    | none => ⟨0, 0, 0, 0, 0⟩
  | _, _ => ⟨0, 0, 0, 0, 0⟩
def msgsTill (l0 : List SFrame) (l1 : List SCome) (l2 : List Int) (n : Nat) : List SJob := (List.range n).map (jobMsg l0 l1 l2)
theorem msgsTill_len (l0 : List SFrame) (l1 : List SCome) (l2 : List Int) (n : Nat) : (msgsTill l0 l1 l2 n).length = n := by simp [msgsTill]
/-- how messages are played -/
noncomputable def sendOf (l0 : List SFrame) (l1 : List SCome) (l2 : List Int) (n : Int) : SPlayed × SFault :=
  if (busFault l0).Code = 0 then
    (if l1.length ≤ 4000 ∧ l2.length = l1.length then
      (match firstOf (msgAt l0 l1 l2) l1.length 0 with
      | some f => (⟨[], []⟩, f)
      | none => playOf (msgsTill l0 l1 l2 l1.length) 1 false n)
    else (⟨[], []⟩, ⟨2, 0⟩))
  else (⟨[], []⟩, busFault l0)
theorem Send_eq (l0 : List SFrame) (l1 : List SCome) (l2 : List Int) (n : Int) (K : Nat) (hK : 20010 ≤ K) : net_Send.f K l0 l1 l2 n = some (sendOf l0 l1 l2 n) := by
  unfold net_Send.f sendOf
  rw [netCheck_eq l0 K (by omega)]
  simp only
  by_cases hc : (busFault l0).Code = 0
  · rw [if_pos hc, if_pos hc]
    obtain ⟨_, h1, h8, hok⟩ := busFault_ok hc
    by_cases hl : l1.length ≤ 4000 ∧ l2.length = l1.length
    · have hp0 : net_Send.p0 l1 l2 = some (.inl ()) := by
        unfold net_Send.p0
        rw [if_neg (by omega), if_pos (by omega)]
      rw [hp0, if_pos hl]
      simp only
      have hit := iter_states (ρ := SPlayed × SFault) (f := net_Send.r1 l0 l1 l2) (fun k => (msgsTill l0 l1 l2 k, k)) (fun i => (msgAt l0 l1 l2 i).map fun f => (⟨[], []⟩, f)) l1.length (t := msgsTill l0 l1 l2 l1.length) (fun k hk _ => by
        have hk' : (k : Int) < (l1.length : Int) := by omega
        have hk2 : k < l2.length := by omega
        have hc1 : l1[k]? = some l1[k] := List.getElem?_eq_getElem hk
        have ha1 : l2[k]? = some l2[k] := List.getElem?_eq_getElem hk2
        have hlen := msgsTill_len l0 l1 l2 k
        generalize l1[k] = c at hc1
        generalize l2[k] = a at ha1
        simp only [net_Send.r1, if_pos hk', hc1, msgAt, ha1]
        by_cases ht : c.Task < 0 ∨ c.Task ≥ (l0.length : Int)
        · have hp2 : net_Send.p2 l0 k c = some (.inr (⟨[], []⟩, ⟨4, k⟩)) := by
            unfold net_Send.p2
            repeat' split
            all_goals first | rfl | omega
          rw [hp2, if_pos ht]
          rfl
        · have hp2 : net_Send.p2 l0 k c = some (.inl ()) := by
            unfold net_Send.p2
            rw [if_neg (by omega), if_neg (by omega)]
          have hm : l0[c.Task.toNat]? = some (l0[c.Task.toNat]'(by omega)) := List.getElem?_eq_getElem (by omega)
          have hmo := hok _ (List.mem_of_getElem? hm)
          generalize l0[c.Task.toNat]'(by omega) = m at hm hmo
          rw [hp2, if_neg ht]
          simp only
          rw [if_pos (by omega), hm]
          simp only
          have hC := hmo.C; have hD := hmo.D; have hJ := hmo.J
          by_cases hr : c.At < 0 ∨ c.At > 20000 ∨ a < 0 ∨ a > m.J
          · have hp3 : net_Send.p3 l2 k c m = some (.inr (⟨[], []⟩, ⟨3, k⟩)) := by
              unfold net_Send.p3
              simp only [ha1]
              repeat' split
              all_goals first | rfl | omega
            rw [hp3, if_pos hr]
            rfl
          · have hp3 : net_Send.p3 l2 k c m = some (.inl ()) := by
              unfold net_Send.p3
              simp only [ha1]
              rw [if_neg (by omega), if_neg (by omega), if_neg (by omega), if_neg (by omega)]
            rw [hp3, if_neg hr]
            simp only [Option.map_none, onwardS]
            rw [if_pos (by omega), wrap64_small (n := c.At + a) (by omega) (by omega), wrap64_small (n := c.At + m.D) (by omega) (by omega), wrap64_small (n := (l0.length : Int) - c.Task) (by omega) (by omega)]
            have : msgsTill l0 l1 l2 (k + 1) = msgsTill l0 l1 l2 k ++ [⟨c.Task, c.At + a, m.C, c.At + m.D, (l0.length : Int) - c.Task⟩] := by
              unfold msgsTill
              rw [List.range_succ, List.map_append]
              simp only [List.map_cons, List.map_nil, jobMsg, hc1, ha1, hm]
            rw [this]) (fun _ => by simp [net_Send.r1]) (K := K) (by omega)
      have h0 : (([] : List SJob), 0) = (msgsTill l0 l1 l2 0, 0) := rfl
      rw [h0, hit, firstOf_map]
      cases firstOf (msgAt l0 l1 l2) l1.length 0 with
      | some f => rfl
      | none => simp only [Option.map_none, leave, Play_eq _ _ _ _ K hK]
    · have hp0 : net_Send.p0 l1 l2 = some (.inr (⟨[], []⟩, ⟨2, 0⟩)) := by
        unfold net_Send.p0
        repeat' split
        all_goals first | rfl | omega
      rw [hp0, if_neg hl]
  · rw [if_neg hc, if_neg hc]
    rfl

/-- what is known of the j-th message that comes -/
structure MsgIs (l0 : List SFrame) (l1 : List SCome) (l2 : List Int) (j : Nat) (c : SCome) (m : SFrame) (a : Int) : Prop where
  come : l1[j]? = some c
  task : l0[c.Task.toNat]? = some m
  task0 : 0 ≤ c.Task
  late : l2[j]? = some a
  job : (msgsTill l0 l1 l2 l1.length)[j]? = some ⟨c.Task, c.At + a, m.C, c.At + m.D, (l0.length : Int) - c.Task⟩
  at_ : 0 ≤ c.At ∧ c.At ≤ 20000
  a : 0 ≤ a ∧ a ≤ m.J
  ok : Okf m
structure MsgsOk (l0 : List SFrame) (l1 : List SCome) (l2 : List Int) : Prop where
  bus : (busFault l0).Code = 0
  len : l1.length ≤ 4000
  len2 : l2.length = l1.length
  each : ∀ i, i < l1.length → msgAt l0 l1 l2 i = none
theorem MsgsOk.at {l0 : List SFrame} {l1 : List SCome} {l2 : List Int} (h : MsgsOk l0 l1 l2) {j : Nat} (hj : j < l1.length) : ∃ c m a, MsgIs l0 l1 l2 j c m a := by
  obtain ⟨_, _, _, hok⟩ := busFault_ok h.bus
  have hc : l1[j]? = some l1[j] := List.getElem?_eq_getElem hj
  have ha : l2[j]? = some (l2[j]'(by have := h.len2; omega)) := List.getElem?_eq_getElem _
  have he := h.each j hj
  simp only [msgAt, hc, ha] at he
  split at he
  · cases he
  rename_i ht
  have hm : l0[l1[j].Task.toNat]? = some (l0[l1[j].Task.toNat]'(by omega)) := List.getElem?_eq_getElem (by omega)
  simp only [hm] at he
  split at he
  · cases he
  refine ⟨_, _, _, hc, hm, by omega, ha, ?_, by omega, by omega, hok _ (List.mem_of_getElem? hm)⟩
  simp only [msgsTill, List.getElem?_map, List.getElem?_range hj, Option.map_some, jobMsg, hc, ha, hm]
theorem MsgsOk.okj {l0 : List SFrame} {l1 : List SCome} {l2 : List Int} (h : MsgsOk l0 l1 l2) : ∀ e ∈ msgsTill l0 l1 l2 l1.length, Okj e := fun e he => by
  obtain ⟨j, hj⟩ := List.mem_iff_getElem?.1 he
  have hlt := lt_of_get hj
  rw [msgsTill_len] at hlt
  obtain ⟨c, m, a, hJ⟩ := h.at hlt
  rw [hJ.job] at hj
  cases hj
  have := hJ.at_; have := hJ.a; have := hJ.ok.J; have := hJ.ok.C; have := hJ.ok.D
  exact ⟨by simp only; omega, by simp only; omega, by simp only; omega⟩
theorem runP_pick (p : Int) (pre : Bool) {jobs : List SJob} (hj : ∀ e ∈ jobs, Okj e) (t : Nat) (hc : pre = true ∨ (simP p pre jobs t).1 < 0 ∨ (simP p pre jobs t).2.1.getD (simP p pre jobs t).1.toNat 0 = 0) : (runP p pre jobs t = -1 ∧ ∀ j e, jobs[j]? = some e → ¬ (e.At ≤ (t : Int) ∧ 0 < leftP p pre jobs t j)) ∨
    ∃ (b : Nat) (y : SJob), runP p pre jobs t = (b : Int) ∧ jobs[b]? = some y ∧ y.At ≤ (t : Int) ∧ 0 < leftP p pre jobs t b ∧ ∀ j x, jobs[j]? = some x → x.At ≤ (t : Int) → 0 < leftP p pre jobs t j → ¬ aheadJ p x y ∧ (j < b → aheadJ p y x) := by
  have hok := simP_ok p pre hj t
  have hnow : nowOf p pre jobs (t : Int) (simP p pre jobs t).1 (simP p pre jobs t).2.1 = firstTo p jobs (simP p pre jobs t).2.1 (t : Int) jobs.length := by unfold nowOf; rw [if_pos hc]
  have hrun : runP p pre jobs t = firstTo p jobs (simP p pre jobs t).2.1 (t : Int) jobs.length := by
    rw [← hnow]
    unfold runP
    show (tickP p pre jobs (t : Int) (simP p pre jobs t)).1 = _
    unfold tickP
    simp only
    split <;> rfl
  have hcan : ∀ j e, jobs[j]? = some e → (canJ jobs (simP p pre jobs t).2.1 (t : Int) j ↔ e.At ≤ (t : Int) ∧ 0 < leftP p pre jobs t j) := fun j e he => by
    unfold canJ
    rw [he, get_of_lt (by rw [hok.left]; exact lt_of_get he)]
    rfl
  rw [hrun]
  rcases firstTo_cases p jobs (simP p pre jobs t).2.1 (t : Int) jobs.length (Nat.le_refl _) with ⟨h1, h2⟩ | ⟨b, y, h1, h2, h3, h4, h5⟩
  · exact .inl ⟨h1, fun j e he hc => h2 j (lt_of_get he) ((hcan j e he).2 hc)⟩
  · obtain ⟨g1, g2⟩ := (hcan b y h3).1 h4
    exact .inr ⟨b, y, h1, h3, g1, g2, fun j x hx ha hl => h5 j x (lt_of_get hx) hx ((hcan j x hx).2 ⟨ha, hl⟩)⟩
theorem runP_now (p : Int) (jobs : List SJob) (t : Nat) : runP p false jobs (t + 1) = nowOf p false jobs ((t + 1 : Nat) : Int) (runP p false jobs t) (simP p false jobs (t + 1)).2.1 := by
  unfold runP
  show (tickP p false jobs ((t + 1 : Nat) : Int) (simP p false jobs (t + 1))).1 = _
  unfold tickP
  simp only
  split <;> rfl
/-- jobs of which what has begun goes on -/
theorem simP_bus {jobs : List SJob} (hj : ∀ e ∈ jobs, Okj e) (N : Int) (pr : Nat → Nat) (hp : ∀ j e, jobs[j]? = some e → e.P = N - pr j) : Bus jobs.length (leftP 1 false jobs) (runP 1 false jobs) (atN jobs) (costOf jobs) pr := by
  refine ⟨fun j _ => leftP_zero 1 false jobs j, leftP_nonneg 1 false hj, fun t => ?_, fun t b hb hL => ?_, fun t hc => ?_⟩
  · rcases leftP_step 1 false hj t with ⟨h1, h2⟩ | ⟨b, h1, h2, h3, h4, _, h5⟩
    · exact .inl ⟨h1, fun j => (h2 j).1⟩
    · exact .inr ⟨b, h1, h2, h3, h4, fun j hne => (h5 j hne).1⟩
  · rw [runP_now, hb]
    unfold nowOf
    rw [if_neg]
    rintro (h | h | h)
    · cases h
    · omega
    · rw [Int.toNat_natCast] at h
      have : leftP 1 false jobs (t + 1) b = 0 := h
      omega
  · have hc' : (false = true) ∨ (simP 1 false jobs t).1 < 0 ∨ (simP 1 false jobs t).2.1.getD (simP 1 false jobs t).1.toNat 0 = 0 := by
      right
      cases t with
      | zero => left; show (-1 : Int) < 0; omega
      | succ t =>
        rcases hc with hc | hc
        · omega
        · rw [Nat.add_sub_cancel] at hc
          rcases (simP_ok 1 false hj (t + 1)).now with hn | ⟨b, hn, _⟩
          · left; omega
          · right
            have := hc b hn
            rw [hn, Int.toNat_natCast]
            exact this
    rcases runP_pick 1 false hj t hc' with ⟨h1, h2⟩ | ⟨b, y, h1, h2, h3, h4, h5⟩
    · refine .inl ⟨h1, fun j hjl hr => ?_⟩
      have he : jobs[j]? = some jobs[j] := List.getElem?_eq_getElem hjl
      have hA := (hj _ (List.mem_of_getElem? he)).At
      rw [atN_some he] at hr
      have := leftP_nonneg 1 false hj t j
      have := fun hl => h2 j _ he ⟨by omega, hl⟩
      by_cases hz : 0 < leftP 1 false jobs t j
      · exact absurd hz this
      · omega
    · have hAb := (hj y (List.mem_of_getElem? h2)).At
      refine .inr ⟨b, h1, by rw [atN_some h2]; omega, fun j hjl hr hL => ?_⟩
      have he : jobs[j]? = some jobs[j] := List.getElem?_eq_getElem hjl
      have hA := (hj _ (List.mem_of_getElem? he)).At
      rw [atN_some he] at hr ⊢
      rw [atN_some h2]
      obtain ⟨g1, g2⟩ := h5 j _ he (by omega) hL
      have e1 := hp j _ he
      have e2 := hp b _ h2
      unfold aheadJ at g1 g2
      rw [if_pos rfl] at g1 g2
      refine ⟨by omega, fun hpr => ⟨by omega, fun hr' => ?_⟩⟩
      apply Nat.le_of_not_lt
      intro hlt
      have := g2 hlt
      omega
theorem heldOf_ge {l : List SFrame} {i : Nat} {m : SFrame} : ∀ {n k : Nat}, k < n → l[i + 1 + k]? = some m → m.C - 1 ≤ heldOf l i n
  | 0, k, hk, _ => by omega
  | n + 1, k, hk, hm => by
    simp only [heldOf]
    by_cases hkn : k = n
    · subst hkn
      rw [hm]
      simp only
      omega
    · have := heldOf_ge (n := n) (k := k) (by omega) hm
      split <;> omega
theorem sumN_split (pr : Nat → Nat) (q : Nat → Prop) [DecidablePred q] (c : Nat → Int) (n : Nat) : ∀ m, sumN (fun j => if pr j < m ∧ q j then c j else 0) n = sumN (fun o => sumN (fun j => if pr j = o ∧ q j then c j else 0) n) m
  | 0 => sumN_zero (fun j _ => if_neg (fun h => by omega))
  | m + 1 => by
    simp only [sumN]
    rw [← sumN_split pr q c n m, ← sumN_add]
    refine sumN_congr fun j _ => ?_
    by_cases hq : q j
    · by_cases h1 : pr j < m
      · rw [if_pos ⟨by omega, hq⟩, if_pos ⟨h1, hq⟩, if_neg (fun h => by omega)]; omega
      · by_cases h2 : pr j = m
        · rw [if_pos ⟨by omega, hq⟩, if_neg (fun h => h1 h.1), if_pos ⟨h2, hq⟩]; omega
        · rw [if_neg (fun h => by omega), if_neg (fun h => h1 h.1), if_neg (fun h => h2 h.1)]; rfl
    · rw [if_neg (fun h => hq h.2), if_neg (fun h => hq h.2), if_neg (fun h => hq h.2)]; rfl
theorem busSum_sumN (l : List SFrame) (w : Int) : ∀ n, busSum l w n = sumN (fun o => match l[o]? with | some m => ceilD (w + m.J) m.T * m.C | none => 0) n ∧ busSum1 l w n = sumN (fun o => match l[o]? with | some m => ((w + m.J) / m.T + 1) * m.C | none => 0) n
  | 0 => ⟨rfl, rfl⟩
  | n + 1 => by
    obtain ⟨h1, h2⟩ := busSum_sumN l w n
    simp only [busSum, busSum1, sumN, ← h1, ← h2]
    cases l[n]? with
    | none => simp
    | some m => simp
/-- so many of one kind came ahead of one of them -/
theorem countT {n k : Nat} {q : Nat → Prop} [DecidablePred q] {a : Nat → Int} {T J t0 : Int} {r : Nat → Nat} (hra : ∀ j, j < n → q j → (r j : Int) ≤ a j + J) (hsp : ∀ i j, i < j → j < n → q i → q j → a i + T ≤ a j) (hk : k < n) (hqk : q k) (hrk : t0 ≤ r k) :
    sumN (fun j => if q j ∧ t0 ≤ r j ∧ j < k then 1 else 0) n * T ≤ a k + J - t0 := by
  have key : ∀ m, m ≤ n → sumN (fun j => if q j ∧ t0 ≤ r j ∧ j < k then 1 else 0) m = 0 ∨ ∃ j, j < m ∧ j < k ∧ q j ∧ t0 ≤ r j ∧ sumN (fun j => if q j ∧ t0 ≤ r j ∧ j < k then 1 else 0) m * T ≤ a j + J - t0 + T := by
    intro m
    induction m with
    | zero => intro _; exact .inl rfl
    | succ m ih =>
      intro hm
      have ih := ih (by omega)
      simp only [sumN]
      by_cases hc : q m ∧ t0 ≤ r m ∧ m < k
      · right
        refine ⟨m, by omega, hc.2.2, hc.1, hc.2.1, ?_⟩
        have hrm := hra m (by omega) hc.1
        rw [if_pos hc, Int.add_mul, Int.one_mul]
        rcases ih with h0 | ⟨j, h1, h2, h3, h4, h5⟩
        · rw [h0]; omega
        · have := hsp j m h1 (by omega) h3 hc.1
          omega
      · rw [if_neg hc, Int.add_zero]
        rcases ih with h0 | ⟨j, h1, h2⟩
        · exact .inl h0
        · exact .inr ⟨j, by omega, h2⟩
  have hrk' := hra k hk hqk
  rcases key n (Nat.le_refl _) with h0 | ⟨j, h1, h2, h3, h4, h5⟩
  · rw [h0]; omega
  · have := hsp j k h2 hk h3 hqk
    omega
theorem sumN_mulC (p : Nat → Prop) [DecidablePred p] (C : Int) : ∀ n, sumN (fun j => if p j then C else 0) n = sumN (fun j => if p j then 1 else 0) n * C
  | 0 => by simp [sumN]
  | n + 1 => by
    simp only [sumN]
    rw [sumN_mulC p C n, Int.add_mul]
    congr 1
    split <;> simp
theorem worst_ge {l : List SFrame} {i : Nat} {m : SFrame} {q : Nat} : ∀ {n : Nat}, q < n → tookOf l i m q ≤ worstOf l i m n
  | 0, h => by omega
  | n + 1, h => by
    simp only [worstOf]
    by_cases hq : q = n
    · subst hq; omega
    · have := worst_ge (l := l) (i := i) (m := m) (q := q) (n := n) (by omega); omega
theorem timeOf_ok {l : List SFrame} {i : Nat} {m : SFrame} (h : 0 ≤ timeOf l i m) : 0 ≤ busyOf l i m ∧ ∀ q : Nat, q < rowOf l i m → 0 ≤ queueOf l i m q ∧ tookOf l i m q ≤ timeOf l i m := by
  unfold timeOf at h ⊢
  by_cases hb : busyOf l i m < 0
  · rw [if_pos hb] at h; omega
  · rw [if_neg hb] at h ⊢
    cases hf : firstOf (fun q : Nat => if queueOf l i m q < 0 then some () else none) (rowOf l i m) 0 with
    | some _ => rw [hf] at h; simp at h
    | none =>
      refine ⟨by omega, fun q hq => ⟨?_, worst_ge hq⟩⟩
      have := firstOf_none hf q (Nat.zero_le _) hq
      split at this
      · cases this
      · omega
def taskN (l1 : List SCome) (j : Nat) : Nat := match l1[j]? with | some c => c.Task.toNat | none => 0
theorem taskN_some {l1 : List SCome} {j : Nat} {c : SCome} (h : l1[j]? = some c) : taskN l1 j = c.Task.toNat := by simp [taskN, h]
/-- each message is over so soon -/
theorem sends_keep {l0 : List SFrame} {l1 : List SCome} {l2 : List Int} (h : MsgsOk l0 l1 l2) (apart : ∀ (i j : Nat) (a b : SCome) (m : SFrame), i < j → l1[i]? = some a → l1[j]? = some b → a.Task = b.Task → l0[b.Task.toNat]? = some m → a.At + m.T ≤ b.At) {k : Nat} {c : SCome} {m : SFrame} {a : Int} (hJ : MsgIs l0 l1 l2 k c m a) (htime : 0 ≤ timeOf l0 c.Task.toNat m) :
    ∃ s : Nat, (s : Int) ≤ c.At + timeOf l0 c.Task.toNat m ∧ leftP 1 false (msgsTill l0 l1 l2 l1.length) s k = 0 := by
  obtain ⟨_, _, h8, hok⟩ := busFault_ok h.bus
  generalize hjobs : msgsTill l0 l1 l2 l1.length = jobs
  have hlen : jobs.length = l1.length := by rw [← hjobs, msgsTill_len]
  have hjk : ∀ e ∈ jobs, Okj e := by rw [← hjobs]; exact h.okj
  have hkl := lt_of_get hJ.come
  have job : ∀ {j c' m' a'}, MsgIs l0 l1 l2 j c' m' a' → atN jobs j = (c'.At + a').toNat ∧ costOf jobs j = m'.C ∧ taskN l1 j = c'.Task.toNat := fun hj => by
    have := hj.job
    rw [hjobs] at this
    exact ⟨atN_some this, costOf_some this, taskN_some hj.come⟩
  obtain ⟨hrk, hck, hprk⟩ := job hJ
  have hbus := simP_bus hjk (l0.length : Int) (taskN l1) (fun j e he => by
    have hlt := lt_of_get he
    rw [hlen] at hlt
    obtain ⟨c', m', a', hj⟩ := h.at hlt
    have h1 := hj.job
    rw [hjobs, he] at h1
    cases h1
    rw [taskN_some hj.come]
    have := hj.task0
    simp only
    omega)
  rw [hlen] at hbus
  obtain ⟨hby, hq⟩ := timeOf_ok htime
  have hbr := busyOf_range hok hJ.task
  have hB := heldBy_bounds hok c.Task.toNat
  have hC := hJ.ok.C; have hT := hJ.ok.T; have hJJ := hJ.ok.J; have hJT := hJ.ok.JT
  have hAt := hJ.at_; have ha := hJ.a
  obtain ⟨bz, hbz⟩ := Int.eq_ofNat_of_zero_le hby
  obtain ⟨_, _, hbf, _⟩ := grown_pos (show 0 ≤ heldBy l0 c.Task.toNat + m.C by omega) (show 0 ≤ grown (fun w => heldBy l0 c.Task.toNat + busSum l0 w (c.Task.toNat + 1)) (heldBy l0 c.Task.toNat + m.C) 100000 from hby)
  change heldBy l0 c.Task.toNat + busSum l0 (busyOf l0 c.Task.toNat m) (c.Task.toNat + 1) ≤ busyOf l0 c.Task.toNat m at hbf
  rw [hbz] at hbf hbr
  -- of each kind, so much comes in so long a time
  have kindLe : ∀ (o : Nat) (m' : SFrame), l0[o]? = some m' → ∀ (t0 w : Nat), 1 ≤ w → sumN (fun j => if taskN l1 j = o ∧ t0 ≤ atN jobs j ∧ atN jobs j < t0 + w then costOf jobs j else 0) l1.length ≤ ((w + m'.J + m'.T - 1) / m'.T) * m'.C := fun o m' hm' t0 w hw => by
    have ho := hok m' (List.mem_of_getElem? hm')
    have hC' := ho.C; have hT' := ho.T; have hJ' := ho.J
    have same : ∀ {j c' m'' a''}, MsgIs l0 l1 l2 j c' m'' a'' → taskN l1 j = o → m'' = m' ∧ c'.Task = (o : Int) := fun hj he => by
      have h1 := hj.task
      have h2 := taskN_some hj.come
      have h3 := hj.task0
      rw [← h2, he, hm'] at h1
      cases h1
      exact ⟨rfl, by omega⟩
    refine spaced (n := l1.length) (q := fun j => taskN l1 j = o) (r := atN jobs) (a := fun j => match l1[j]? with | some c => c.At | none => 0) (c := costOf jobs) (C := m'.C) (T := m'.T) (J := m'.J) (by omega) (by omega) (fun j hj he => ?_) (fun j hj he => ?_) (fun i j hij hj he1 he2 => ?_) t0 w hw (by omega)
    · obtain ⟨c', m'', a'', hM⟩ := h.at hj
      obtain ⟨rfl, _⟩ := same hM he
      rw [(job hM).2.1]
      exact Int.le_refl _
    · obtain ⟨c', m'', a'', hM⟩ := h.at hj
      obtain ⟨rfl, _⟩ := same hM he
      rw [(job hM).1, hM.come]
      have := hM.at_; have := hM.a
      simp only
      omega
    · obtain ⟨c1, m1, a1, hM1⟩ := h.at (show i < l1.length by omega)
      obtain ⟨c2, m2, a2, hM2⟩ := h.at hj
      obtain ⟨_, e1⟩ := same hM1 he1
      obtain ⟨rfl, e2⟩ := same hM2 he2
      have := apart i j c1 c2 m2 hij hM1.come hM2.come (by omega) hM2.task
      simp only [hM1.come, hM2.come]
      exact this
  obtain ⟨t0, ht0, htb, hbeg⟩ := hbus.begins hkl (by rw [hck]; exact hC.1) hB.1 (fun j hj hpr => by
    obtain ⟨c', m', a', hM⟩ := h.at hj
    obtain ⟨_, e2, e3⟩ := job hM
    rw [e3, hprk] at hpr
    rw [e2]
    have hlt := lt_of_get hM.task
    have := heldOf_ge (l := l0) (i := c.Task.toNat) (m := m') (n := l0.length - (c.Task.toNat + 1)) (k := c'.Task.toNat - (c.Task.toNat + 1)) (by omega) (by rw [show c.Task.toNat + 1 + (c'.Task.toNat - (c.Task.toNat + 1)) = c'.Task.toNat by omega]; exact hM.task)
    exact this) (fun j hj hpr hkj => by
    obtain ⟨c', m', a', hM⟩ := h.at hj
    obtain ⟨e1, e2, e3⟩ := job hM
    rw [hrk, e1]
    rw [e3, hprk] at hpr
    have h1 := hJ.task0; have h2 := hM.task0
    have hm' := hM.task
    rw [hpr, hJ.task] at hm'
    cases hm'
    have := apart k j c c' m hkj hJ.come hM.come (by omega) hM.task
    have := hM.a
    omega) bz (by omega) (fun t0 => by
    have e := sumN_split (taskN l1) (fun j => t0 ≤ atN jobs j ∧ atN jobs j < t0 + bz) (costOf jobs) l1.length (c.Task.toNat + 1)
    have e' : sumN (fun j => if taskN l1 j ≤ taskN l1 k ∧ t0 ≤ atN jobs j ∧ atN jobs j < t0 + bz then costOf jobs j else 0) l1.length = sumN (fun j => if taskN l1 j < c.Task.toNat + 1 ∧ t0 ≤ atN jobs j ∧ atN jobs j < t0 + bz then costOf jobs j else 0) l1.length := by
      rw [hprk]
      refine sumN_congr fun j _ => ?_
      by_cases hc' : taskN l1 j ≤ c.Task.toNat ∧ t0 ≤ atN jobs j ∧ atN jobs j < t0 + bz
      · rw [if_pos hc', if_pos ⟨by omega, hc'.2⟩]
      · rw [if_neg hc', if_neg (fun hx => hc' ⟨by omega, hx.2⟩)]
    have hle : sumN (fun o => sumN (fun j => if taskN l1 j = o ∧ t0 ≤ atN jobs j ∧ atN jobs j < t0 + bz then costOf jobs j else 0) l1.length) (c.Task.toNat + 1) ≤ busSum l0 (bz : Int) (c.Task.toNat + 1) := by
      rw [(busSum_sumN l0 (bz : Int) (c.Task.toNat + 1)).1]
      refine sumN_le fun o ho => ?_
      have hlt := lt_of_get hJ.task
      have hmo : l0[o]? = some (l0[o]'(by omega)) := List.getElem?_eq_getElem _
      have := kindLe o _ hmo t0 bz (by omega)
      simp only [hmo]
      exact this
    rw [e', e]
    show heldBy l0 c.Task.toNat + _ ≤ _
    omega)
  -- how many of its own kind come ahead of it
  have hrk0 : (t0 : Int) ≤ atN jobs k := by omega
  have hcount := countT (n := l1.length) (k := k) (q := fun j => taskN l1 j = c.Task.toNat) (a := fun j => match l1[j]? with | some c => c.At | none => 0) (T := m.T) (J := m.J) (t0 := (t0 : Int)) (r := atN jobs) (fun j hj he => by
    obtain ⟨c', m', a', hM⟩ := h.at hj
    obtain ⟨e1, _, e3⟩ := job hM
    have hm' := hM.task
    rw [← e3, he, hJ.task] at hm'
    cases hm'
    rw [e1, hM.come]
    have := hM.at_; have := hM.a
    simp only
    omega) (fun i j hij hj he1 he2 => by
    obtain ⟨c1, m1, a1, hM1⟩ := h.at (show i < l1.length by omega)
    obtain ⟨c2, m2, a2, hM2⟩ := h.at hj
    have e1 := (job hM1).2.2; have e2 := (job hM2).2.2
    have q1 := hM1.task0; have q2 := hM2.task0
    have hm' := hM2.task
    rw [← e2, he2, hJ.task] at hm'
    cases hm'
    have := apart i j c1 c2 m hij hM1.come hM2.come (by omega) hM2.task
    simp only [hM1.come, hM2.come]
    exact this) hkl hprk hrk0
  simp only [hJ.come] at hcount
  have hqn : 0 ≤ sumN (fun j => if taskN l1 j = c.Task.toNat ∧ (t0 : Int) ≤ atN jobs j ∧ j < k then (1 : Int) else 0) l1.length := sumN_nonneg (fun j _ => by split <;> omega)
  obtain ⟨q, hqe⟩ := Int.eq_ofNat_of_zero_le hqn
  rw [hqe] at hcount
  have hrow : q < rowOf l0 c.Task.toNat m := by
    have hr := (rowOf_le hok hJ.task (by omega)).1
    have hlt : (q : Int) < (rowOf l0 c.Task.toNat m : Int) := by
      rw [hr]
      unfold ceilD
      rw [Int.lt_iff_add_one_le, Int.le_ediv_iff_mul_le (by omega), Int.add_mul, hbz]
      omega
    omega
  obtain ⟨hq0, hqt⟩ := hq q hrow
  obtain ⟨w, hw⟩ := Int.eq_ofNat_of_zero_le hq0
  have hqm : 0 ≤ (q : Int) * m.C := Int.mul_nonneg (by omega) (by omega)
  obtain ⟨_, _, hqf, _⟩ := grown_pos (show 0 ≤ heldBy l0 c.Task.toNat + (q : Int) * m.C by omega) (show 0 ≤ grown (fun w => heldBy l0 c.Task.toNat + (q : Int) * m.C + busSum1 l0 w c.Task.toNat) (heldBy l0 c.Task.toNat + (q : Int) * m.C) 100000 from hq0)
  change heldBy l0 c.Task.toNat + (q : Int) * m.C + busSum1 l0 (queueOf l0 c.Task.toNat m q) c.Task.toNat ≤ queueOf l0 c.Task.toNat m q at hqf
  rw [hw] at hqf
  refine ⟨t0 + w + m.C.toNat, ?_, ?_⟩
  · unfold tookOf at hqt
    rw [hw] at hqt
    omega
  · rw [← hck]
    refine hbeg w ?_
    have hsum : sumN (fun j => if (taskN l1 j < taskN l1 k ∧ t0 ≤ atN jobs j ∧ atN jobs j ≤ t0 + w) ∨ (taskN l1 j = taskN l1 k ∧ t0 ≤ atN jobs j ∧ j < k) then costOf jobs j else 0) l1.length ≤
        sumN (fun j => (if taskN l1 j < c.Task.toNat ∧ (t0 ≤ atN jobs j ∧ atN jobs j < t0 + (w + 1)) then costOf jobs j else 0) + (if taskN l1 j = c.Task.toNat ∧ (t0 : Int) ≤ atN jobs j ∧ j < k then m.C else 0)) l1.length := sumN_le fun j hj => by
      obtain ⟨c', m', a', hM⟩ := h.at hj
      obtain ⟨e1, e2, e3⟩ := job hM
      have hC' := hM.ok.C
      rw [hprk, e2]
      by_cases h1 : taskN l1 j < c.Task.toNat ∧ t0 ≤ atN jobs j ∧ atN jobs j ≤ t0 + w
      · rw [if_pos (.inl h1), if_pos ⟨h1.1, h1.2.1, by omega⟩]
        split <;> omega
      · rw [if_neg (show ¬ (taskN l1 j < c.Task.toNat ∧ (t0 ≤ atN jobs j ∧ atN jobs j < t0 + (w + 1))) from fun hx => h1 ⟨hx.1, hx.2.1, by omega⟩)]
        by_cases h2 : taskN l1 j = c.Task.toNat ∧ t0 ≤ atN jobs j ∧ j < k
        · rw [if_pos (.inr h2), if_pos ⟨h2.1, by omega, h2.2.2⟩]
          have hm' := hM.task
          rw [← e3, h2.1, hJ.task] at hm'
          cases hm'
          omega
        · rw [if_neg (by rintro (h | h); exact h1 h; exact h2 h), if_neg (fun hx => h2 ⟨hx.1, by omega, hx.2.2⟩)]
          omega
    rw [sumN_add, sumN_mulC, hqe, sumN_split (taskN l1) (fun j => t0 ≤ atN jobs j ∧ atN jobs j < t0 + (w + 1)) (costOf jobs) l1.length c.Task.toNat] at hsum
    have hle : sumN (fun o => sumN (fun j => if taskN l1 j = o ∧ t0 ≤ atN jobs j ∧ atN jobs j < t0 + (w + 1) then costOf jobs j else 0) l1.length) c.Task.toNat ≤ busSum1 l0 (w : Int) c.Task.toNat := by
      rw [(busSum_sumN l0 (w : Int) c.Task.toNat).2]
      refine sumN_le fun o ho => ?_
      have hlt := lt_of_get hJ.task
      have hmo : l0[o]? = some (l0[o]'(by omega)) := List.getElem?_eq_getElem _
      have h1 := kindLe o _ hmo t0 (w + 1) (by omega)
      have hT' := (hok _ (List.mem_of_getElem? hmo)).T
      simp only [hmo]
      have e : (((w + 1 : Nat) : Int) + l0[o].J + l0[o].T - 1) / l0[o].T = (w + l0[o].J) / l0[o].T + 1 := by
        rw [← Int.add_mul_ediv_left _ 1 (show l0[o].T ≠ 0 by omega)]
        congr 1
        omega
      rw [e] at h1
      exact h1
    show heldBy l0 c.Task.toNat + _ ≤ _
    omega

theorem timesTill_get (l : List SFrame) : ∀ n, n ≤ l.length → (timesTill l n).length = n ∧ ∀ i m, i < n → l[i]? = some m → (timesTill l n)[i]? = some (timeOf l i m)
  | 0, _ => ⟨rfl, fun i _ h => by omega⟩
  | n + 1, hn => by
    obtain ⟨h1, h2⟩ := timesTill_get l n (by omega)
    have hx : l[n]? = some l[n] := List.getElem?_eq_getElem (by omega)
    simp only [timesTill, hx]
    refine ⟨by simp [h1], fun i m hi hm => ?_⟩
    by_cases hin : i = n
    · subst hin
      rw [hx] at hm
      cases hm
      rw [List.getElem?_append_right (by omega), h1]
      simp
    · rw [List.getElem?_append_left (by omega)]
      exact h2 i m (by omega) hm
theorem timesOf_ok {l : List SFrame} (h : (timesOf l).2.Code = 0) : (busFault l).Code = 0 ∧ timesOf l = (timesTill l l.length, ⟨0, 0⟩) ∧ ∀ i m, l[i]? = some m → 0 ≤ timeOf l i m ∧ timeOf l i m ≤ m.D := by
  unfold timesOf at h ⊢
  by_cases hc : (busFault l).Code = 0
  · rw [if_pos hc] at h ⊢
    cases hf : firstOf (noTime l) l.length 0 with
    | none =>
      refine ⟨hc, rfl, fun i m hm => ?_⟩
      have := firstOf_none hf i (Nat.zero_le _) (lt_of_get hm)
      unfold noTime at this
      simp only [hm] at this
      split at this
      · cases this
      · omega
    | some r =>
      rw [hf] at h
      obtain ⟨j, _, hj, hg, _⟩ := firstOf_some hf
      exfalso
      unfold noTime at hg
      split at hg
      · cases hg
      · split at hg
        · cases hg; exact absurd h (by simp)
        · cases hg
  · rw [if_neg hc] at h
    exact absurd h hc
theorem timesOf_bad {l : List SFrame} (h : (timesOf l).2.Code ≠ 0) : (timesOf l).1 = [] := by
  unfold timesOf at h ⊢
  by_cases hc : (busFault l).Code = 0
  · rw [if_pos hc] at h ⊢
    cases hf : firstOf (noTime l) l.length 0 with
    | none => rw [hf] at h; exact absurd rfl h
    | some r =>
      obtain ⟨j, _, hj, hg, _⟩ := firstOf_some hf
      unfold noTime at hg
      split at hg
      · cases hg
      · split at hg
        · cases hg; rfl
        · cases hg
  · rw [if_neg hc]
/-- what the first i comings must be -/
def ComesTill (l0 : List SFrame) (l1 : List SCome) (ts : List Int) (z : Int) (i : Nat) : Prop :=
  0 ≤ z ∧ ∀ j c, j < i → l1[j]? = some c → 0 ≤ c.Task ∧ c.Task < (l0.length : Int) ∧ (∀ p, 1 ≤ j → l1[j - 1]? = some p → p.At ≤ c.At) ∧ (∀ o d m, o < j → l1[o]? = some d → d.Task = c.Task → l0[c.Task.toNat]? = some m → m.T ≤ IntKind.i64.wrap (c.At - d.At)) ∧ ∀ t, ts[c.Task.toNat]? = some t → IntKind.i64.wrap (c.At + t) ≤ z
theorem comes_eq (l0 : List SFrame) (l1 : List SCome) (tf : List Int × SFault) (hts : tf.1.length = l0.length) (h300 : l1.length ≤ 300) (K : Nat) (hK : 310 ≤ K) : iter (NetKeeps.r1 K l0 l1 tf) K (0, 0) = some (.inr true) ∨ ∃ z, iter (NetKeeps.r1 K l0 l1 tf) K (0, 0) = some (.inl z) ∧ ComesTill l0 l1 tf.1 z l1.length := by
  obtain ⟨r, hr, hR⟩ := iter_count (f := NetKeeps.r1 K l0 l1 tf) (fun z i => ComesTill l0 l1 tf.1 z i) l1.length (fun r => r = .inr true ∨ ∃ z, r = .inl z ∧ ComesTill l0 l1 tf.1 z l1.length) (fun z i hi hI => by
    have hi' : (i : Int) < (l1.length : Int) := by omega
    have hx : l1[i]? = some l1[i] := List.getElem?_eq_getElem hi
    generalize l1[i] = e at hx
    simp only [NetKeeps.r1, if_pos hi', hx]
    by_cases hbad : e.Task < 0 ∨ e.Task ≥ (l0.length : Int) ∨ ∃ p, 1 ≤ i ∧ l1[i - 1]? = some p ∧ e.At < p.At
    · right
      have hp2 : NetKeeps.p2 l0 l1 i e = some (.inr true) := by
        unfold NetKeeps.p2
        by_cases h1 : e.Task < 0
        · rw [if_pos h1]
        rw [if_neg h1]
        by_cases h2 : e.Task ≥ (l0.length : Int)
        · rw [if_pos h2]
        rw [if_neg h2]
        rcases hbad with hb | hb | ⟨p, hb1, hb2, hb3⟩
        · exact absurd hb h1
        · exact absurd hb h2
        · have ew : (IntKind.i64.wrap ((i : Int) - 1)).toNat = i - 1 := by rw [wrap64_small (by omega) (by omega)]; omega
          rw [if_pos (by omega), if_pos (by rw [wrap64_small (by omega) (by omega)]; omega), ew, hb2]
          simp only
          rw [if_pos hb3]
      rw [hp2]
      exact ⟨_, rfl, .inl rfl⟩
    · have h1 : ¬ e.Task < 0 := fun h => hbad (.inl h)
      have h2 : ¬ e.Task ≥ (l0.length : Int) := fun h => hbad (.inr (.inl h))
      have hprev : ∀ p, 1 ≤ i → l1[i - 1]? = some p → p.At ≤ e.At := fun p hp1 hp2 => by
        apply Int.not_lt.1
        intro hlt
        exact hbad (.inr (.inr ⟨p, hp1, hp2, hlt⟩))
      have hp2 : NetKeeps.p2 l0 l1 i e = some (.inl ()) := by
        unfold NetKeeps.p2
        rw [if_neg h1, if_neg h2]
        by_cases h0 : (i : Int) > 0
        · have ew : (IntKind.i64.wrap ((i : Int) - 1)).toNat = i - 1 := by rw [wrap64_small (by omega) (by omega)]; omega
          have hpx : l1[i - 1]? = some l1[i - 1] := List.getElem?_eq_getElem (by omega)
          have := hprev _ (by omega) hpx
          rw [if_pos h0, if_pos (by rw [wrap64_small (by omega) (by omega)]; omega), ew, hpx]
          simp only
          rw [if_neg (by omega)]
        · rw [if_neg h0]
      rw [hp2]
      simp only
      rw [if_pos (by omega)]
      have hmx : l0[e.Task.toNat]? = some (l0[e.Task.toNat]'(by omega)) := List.getElem?_eq_getElem _
      generalize l0[e.Task.toNat]'(by omega) = m at hmx
      have hlen : ((l1.take i).drop 0).length = i := by simp; omega
      have hin := iter_first0 (ρ := Bool) (τ := Unit) (f := NetKeeps.r3 l0 l1 i e) (fun o => match l1[o]? with | some d => if d.Task = e.Task ∧ IntKind.i64.wrap (e.At - d.At) < m.T then some true else none | none => none) i (t := ()) (fun o ho => by
        have ho' : (o : Int) < (((l1.take i).drop 0).length : Int) := by rw [hlen]; omega
        have hox : ((l1.take i).drop 0)[o]? = some (l1[o]'(by omega)) := by rw [List.drop_zero, List.getElem?_take_of_lt ho]; exact List.getElem?_eq_getElem (by omega)
        have hox2 : l1[o]? = some (l1[o]'(by omega)) := List.getElem?_eq_getElem (by omega)
        simp only [NetKeeps.r3, if_pos ho', hox, hox2, if_pos (show 0 ≤ e.Task by omega), hmx]
        by_cases g1 : (l1[o]'(by omega)).Task = e.Task
        · rw [if_pos g1]
          by_cases g2 : IntKind.i64.wrap (e.At - (l1[o]'(by omega)).At) < m.T
          · rw [if_pos g2, if_pos ⟨g1, g2⟩]; rfl
          · rw [if_neg g2, if_neg (fun h => g2 h.2)]; rfl
        · rw [if_neg g1, if_neg (fun h => g1 h.1)]; rfl) (by simp only [NetKeeps.r3]; rw [if_neg (by rw [hlen]; omega)]) (K := K) (by omega)
      rw [hin]
      cases hf : firstOf (fun o => match l1[o]? with | some d => if d.Task = e.Task ∧ IntKind.i64.wrap (e.At - d.At) < m.T then some true else none | none => none) i 0 with
      | some r =>
        right
        obtain ⟨j, _, _, hg, _⟩ := firstOf_some hf
        have hrt : r = true := by
          repeat' split at hg
          all_goals first | (cases hg; rfl) | cases hg
        subst hrt
        exact ⟨_, rfl, .inl rfl⟩
      | none =>
        left
        have htx : tf.1[e.Task.toNat]? = some (tf.1[e.Task.toNat]'(by omega)) := List.getElem?_eq_getElem _
        generalize tf.1[e.Task.toNat]'(by omega) = tt at htx
        simp only [leave, if_pos (show 0 ≤ e.Task by omega), htx]
        refine ⟨_, rfl, ?_, fun j c hj hc => ?_⟩
        · have := hI.1; unfold gmax; split <;> omega
        · by_cases hji : j = i
          · subst hji
            rw [hx] at hc
            cases hc
            refine ⟨by omega, by omega, hprev, fun o d m' ho hd hdt hm' => ?_, fun t ht => ?_⟩
            · rw [hmx] at hm'
              cases hm'
              have := firstOf_none hf o (Nat.zero_le _) ho
              simp only [hd] at this
              split at this
              · cases this
              · rename_i hh
                apply Int.not_lt.1
                intro hlt
                exact hh ⟨hdt, hlt⟩
            · rw [htx] at ht
              cases ht
              unfold gmax; split <;> omega
          · obtain ⟨k1, k2, k3, k4, k5⟩ := hI.2 j c (by omega) hc
            refine ⟨k1, k2, k3, k4, fun t ht => ?_⟩
            have := k5 t ht
            unfold gmax; split <;> omega) (fun z hI => by
    refine ⟨.inl z, by simp [NetKeeps.r1], .inr ⟨z, rfl, hI⟩⟩) K 0 0 (Nat.zero_le _) ⟨Int.le_refl _, fun j c hj => by omega⟩ (by omega)
  rw [hr]
  rcases hR with rfl | ⟨z, rfl, hz⟩
  · exact .inl rfl
  · exact .inr ⟨z, rfl, hz⟩
theorem NetKeeps_law (l0 : List SFrame) (l1 : List SCome) (l2 : List Int) (ok0 : ∀ y ∈ l0, Ok.ok y) (ok1 : ∀ y ∈ l1, Ok.ok y) (ok2 : ∀ y ∈ l2, Ok.ok y) : ∃ K, NetKeeps.f K l0 l1 l2 = some true := by
  refine ⟨18446744073709551616, ?_⟩
  have ha : bus.f 18446744073709551616 = some true := by kernel_rfl
  unfold NetKeeps.f
  simp only [ha, if_true]
  generalize hK : 18446744073709551616 = K
  have hK1 : 300000 ≤ K := by omega
  clear ha hK
  by_cases hf : few.f (l0.length : Int) = true ∧ l1.length ≤ 300
  · obtain ⟨f0, f1⟩ := hf
    have hp0 : NetKeeps.p0 l0 l1 = some (.inl ()) := by unfold NetKeeps.p0; rw [if_pos f0, if_neg (by omega)]
    simp only [hp0, Times_eq l0 K (by omega)]
    by_cases hc : (timesOf l0).2.Code = 0
    · rw [if_pos hc]
      obtain ⟨hb, he, hall⟩ := timesOf_ok hc
      obtain ⟨_, _, h8, hok⟩ := busFault_ok hb
      obtain ⟨hlen, hget⟩ := timesTill_get l0 l0.length (Nat.le_refl _)
      have hlen' : (timesOf l0).1.length = l0.length := by rw [he]; exact hlen
      rcases comes_eq l0 l1 (timesOf l0) hlen' f1 K (by omega) with h1 | ⟨z, h1, hz0, hz⟩
      · rw [h1]
      · rw [h1]
        simp only
        by_cases hz3 : z > 3000
        · rw [if_pos hz3]
        rw [if_neg hz3, Send_eq l0 l1 l2 z K (by omega)]
        simp only
        unfold sendOf
        rw [if_pos hb]
        by_cases hl : l1.length ≤ 4000 ∧ l2.length = l1.length
        · rw [if_pos hl]
          cases hfst : firstOf (msgAt l0 l1 l2) l1.length 0 with
          | some f =>
            obtain ⟨j, _, hj, hg, _⟩ := firstOf_some hfst
            have hf3 : f.Code = 3 := by
              have hcx : l1[j]? = some l1[j] := List.getElem?_eq_getElem hj
              obtain ⟨k1, k2, _⟩ := hz j _ hj hcx
              unfold msgAt at hg
              rw [hcx] at hg
              split at hg
              · rename_i c a h3 h4
                cases h3
                rw [if_neg (by omega)] at hg
                split at hg
                · split at hg
                  · cases hg; rfl
                  · cases hg
                · cases hg
              · cases hg
            simp only
            rw [if_neg (by omega), if_neg (by omega), hf3]
            rfl
          | none =>
            simp only
            have hms : MsgsOk l0 l1 l2 := ⟨hb, hl.1, hl.2, fun i hi => firstOf_none hfst i (Nat.zero_le _) hi⟩
            have hjk := hms.okj
            have hpf := playFault_of (l := msgsTill l0 l1 l2 l1.length) (by rw [msgsTill_len]; omega) hjk
            obtain ⟨en, rfl⟩ := Int.eq_ofNat_of_zero_le hz0
            have hplay : playOf (msgsTill l0 l1 l2 l1.length) 1 false (en : Int) = (⟨runsTill 1 false (msgsTill l0 l1 l2 l1.length) en en, (simP 1 false (msgsTill l0 l1 l2 l1.length) en).2.2⟩, ⟨0, 0⟩) := by
              unfold playOf
              rw [hpf, if_pos rfl, if_pos (.inl rfl), if_neg (by omega)]
              rfl
            rw [hplay]
            simp only [if_true]
            have apart : ∀ (i j : Nat) (a b : SCome) (m : SFrame), i < j → l1[i]? = some a → l1[j]? = some b → a.Task = b.Task → l0[b.Task.toNat]? = some m → a.At + m.T ≤ b.At := fun i j a b m hij hai hbj hab hm => by
              have hjl := lt_of_get hbj
              obtain ⟨c1, m1, a1, hM1⟩ := hms.at (show i < l1.length by omega)
              obtain ⟨c2, m2, a2, hM2⟩ := hms.at hjl
              have e1 := hM1.come
              rw [hai] at e1; cases e1
              have e2 := hM2.come
              rw [hbj] at e2; cases e2
              have h3 := (hz j b hjl hbj).2.2.2.1 i a m hij hai hab hm
              have := hM1.at_; have := hM2.at_
              rw [wrap64_small (by omega) (by omega)] at h3
              omega
            have hsim := simP_ok 1 false hjk en
            have hel : (simP 1 false (msgsTill l0 l1 l2 l1.length) en).2.2.length = l1.length := by rw [hsim.ends, msgsTill_len]
            have hsoon := iter_first0 (f := soon.r0 l1 (simP 1 false (msgsTill l0 l1 l2 l1.length) en).2.2 (timesOf l0).1) (fun _ => none) l1.length (t := ()) (fun j hj => by
              have hj' : (j : Int) < (l1.length : Int) := by omega
              obtain ⟨c, m, a, hM⟩ := hms.at hj
              obtain ⟨ht0, htD⟩ := hall _ m hM.task
              obtain ⟨s, hs1, hs2⟩ := sends_keep hms apart hM ht0
              have hA := hM.at_; have hD := hM.ok.D
              have htx : (timesOf l0).1[c.Task.toNat]? = some (timeOf l0 c.Task.toNat m) := by rw [he]; exact hget _ m (lt_of_get hM.task) hM.task
              have hze := (hz j c hj hM.come).2.2.2.2 _ htx
              rw [wrap64_small (by omega) (by omega)] at hze
              have hd := endP_done 1 false hjk (j := j) (by rw [msgsTill_len]; exact hj) hs2 (t := en) (by omega)
              simp only [soon.r0, if_pos hj', hM.come, ends_get 1 false hjk (show j < (msgsTill l0 l1 l2 l1.length).length by rw [msgsTill_len]; exact hj) en, if_pos hM.task0, htx]
              rw [if_neg (by omega), wrap64_small (by omega) (by omega), if_neg (by omega)]
              rfl) (by simp [soon.r0]) (K := K) (by omega)
            unfold soon.f
            rw [if_pos (by omega), hsoon, firstOf_none_of (fun _ _ _ => rfl)]
            rfl
        · rw [if_neg hl]
          rfl
    · rw [if_neg hc, timesOf_bad hc]
      rfl
  · have hp0 : NetKeeps.p0 l0 l1 = some (.inr true) := by
      unfold NetKeeps.p0
      repeat' split
      all_goals first | rfl | (exfalso; exact hf ⟨by assumption, by omega⟩)
    simp only [hp0]

end Go.Proofs.Ytccfilmiboepjaa.GV
