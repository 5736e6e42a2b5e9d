/- Plain words: GvLModesKeep. -/
import Derived.Test.YtccfilmiboepjaaGWModesKeep3
import Derived.Test.YtccfilmiboepjaaGv17
namespace Go.Proofs.Ytccfilmiboepjaa.GV
open Go Go.RowKit
set_option linter.unusedVariables false
set_option linter.unusedSimpArgs false
theorem SCrit.eqb_self (x : SCrit) : SCrit.eqb x x = true := by simp [SCrit.eqb]
theorem SFault.eqb_self (x : SFault) : SFault.eqb x x = true := by simp [SFault.eqb]
theorem SCome.eqb_self (x : SCome) : SCome.eqb x x = true := by simp [SCome.eqb]
theorem punctualsame_Same_int_self (l : List Int) (K : Nat) (hK : l.length < K) : punctualsame_Same_int.f K l l = some true := by
  have hr := iter_first0 (f := punctualsame_Same_int.r0 l l) (fun _ => none) l.length (t := ()) (fun i hi => by
    have h' : (i : Int) < (l.length : Int) := by omega
    simp only [punctualsame_Same_int.r0, if_pos h', List.getElem?_eq_getElem hi, if_true, onward]) (by
    have h' : ¬ (l.length : Int) < (l.length : Int) := by omega
    simp only [punctualsame_Same_int.r0, if_neg h']) hK
  rw [firstOf_none_of (fun _ _ _ => rfl)] at hr
  simp only [punctualsame_Same_int.f, if_true, hr, leave]
theorem few_true {n : Nat} (h : few.f (n : Int) = true) : n ≤ 5000 := by
  simp only [few.f, decide_eq_true_eq] at h; omega
theorem few_false {n : Nat} (h : ¬ few.f (n : Int) = true) : 5000 < n := by
  simp only [few.f, decide_eq_true_eq] at h; omega
theorem exists_bound {α : Type} (f : α → Nat) : ∀ l : List α, ∃ B, ∀ x ∈ l, f x ≤ B
  | [] => ⟨0, by simp⟩
  | x :: l => by
    obtain ⟨B, h⟩ := exists_bound f l
    refine ⟨max (f x) B, fun y hy => ?_⟩
    rcases List.mem_cons.1 hy with rfl | hy
    · exact Nat.le_max_left _ _
    · exact Nat.le_trans (h y hy) (Nat.le_max_right _ _)
/-- a letter stands there -/
def letterAt (x : ByteArray) (i : Nat) : Bool := match x[i]? with | some b => decide (97 ≤ b.toNat) && decide (b.toNat ≤ 122) | none => false
def allL (x : ByteArray) (n : Nat) : Bool := (List.range n).all (letterAt x)
theorem allL_succ (x : ByteArray) (n : Nat) : allL x (n + 1) = (allL x n && letterAt x n) := by simp [allL, List.range_succ]
theorem allL_iff {x : ByteArray} {n : Nat} : allL x n = true ↔ ∀ i, i < n → letterAt x i = true := by simp [allL]
def Good (x : ByteArray) : Prop := 1 ≤ x.size ∧ x.size ≤ 10 ∧ allL x x.size = true
instance (x : ByteArray) : Decidable (Good x) := by unfold Good; infer_instance
theorem get!_of {x : ByteArray} {i : Nat} {b : UInt8} (h : x[i]? = some b) : x.get! i = b := by
  have hi : i < x.size := by
    rcases Nat.lt_or_ge i x.size with h' | h'
    · exact h'
    · rw [getElem?_neg x i (by omega)] at h; cases h
  rw [getElem?_pos x i hi] at h
  have := Option.some.inj h
  rw [← this]
  cases x with
  | mk bs => exact getElem!_pos bs i hi
theorem byte_some {x : ByteArray} {i : Nat} (h : i < x.size) : ∃ b, x[i]? = some b := ⟨x[i], getElem?_pos x i h⟩
theorem decode_letter {x : ByteArray} {i : Nat} (hi : i < x.size) (h : letterAt x i = true) : ∃ n : Nat, Utf8.decode x i = (n, 1) ∧ 97 ≤ n ∧ n ≤ 122 := by
  obtain ⟨b, hb⟩ := byte_some hi
  simp only [letterAt, hb, Bool.and_eq_true, decide_eq_true_eq] at h
  refine ⟨b.toNat, ?_, h⟩
  have := get!_of hb
  simp only [Utf8.decode, Nat.add_zero, this]
  rw [if_pos (by omega)]
theorem decode_other {x : ByteArray} {i : Nat} (hi : i < x.size) (h : letterAt x i = false) : (Utf8.decode x i).1 < 97 ∨ 122 < (Utf8.decode x i).1 := by
  obtain ⟨b, hb⟩ := byte_some hi
  simp only [letterAt, hb, Bool.and_eq_false_iff, decide_eq_false_iff_not] at h
  have := get!_of hb
  simp only [Utf8.decode, Nat.add_zero, this]
  have he : Utf8.runeError = 65533 := rfl
  repeat' split
  all_goals simp only [he, Bool.and_eq_true, decide_eq_true_eq, ge_iff_le] at *
  all_goals omega
theorem takedrop {α : Type} (l : List α) (i : Nat) : (l.take i).drop 0 = l.take i := by simp
theorem iter_succ {σ ρ : Type} (f : σ → Option (σ ⊕ ρ)) (K : Nat) (s : σ) : iter f (K + 1) s = match f s with | none => none | some (.inl s') => iter f K s' | some (.inr r) => some r := rfl
/-- a over b, rounded up -/
def ceilD (a b : Int) : Int := (a + b - 1) / b
theorem ceilD_mono {a a' b : Int} (hb : 1 ≤ b) (h : a ≤ a') : ceilD a b ≤ ceilD a' b := Int.ediv_le_ediv (by omega) (by omega)
theorem ceilD_nonneg {a b : Int} (hb : 1 ≤ b) (h : 0 ≤ a) : 0 ≤ ceilD a b := Int.ediv_nonneg (by omega) (by omega)
theorem ceilD_le {a b : Int} (hb : 1 ≤ b) (h : 0 ≤ a) : ceilD a b ≤ a := by
  unfold ceilD
  rw [← Int.lt_add_one_iff]
  apply Int.ediv_lt_of_lt_mul (by omega)
  have : a * 1 ≤ a * b := Int.mul_le_mul_of_nonneg_left hb h
  rw [Int.add_mul]
  omega
/-- the least n, 1 at least, in which all is done that is wanted; 0: there is none up to most -/
def settled (f : Int → Int) (most : Int) : Int := match firstOf (fun n : Nat => if f n ≤ n then some (n : Int) else none) (most.toNat + 1) 1 with
  | some n => n
  | none => 0
theorem settled_some {f : Int → Int} {most : Int} {j : Nat} (h : firstOf (fun n : Nat => if f n ≤ n then some (n : Int) else none) (most.toNat + 1) 1 = some (j : Int)) : settled f most = j := by unfold settled; rw [h]
theorem settled_none {f : Int → Int} {most : Int} (h : firstOf (fun n : Nat => if f n ≤ n then some (n : Int) else none) (most.toNat + 1) 1 = none) : settled f most = 0 := by unfold settled; rw [h]
theorem settled_pos {f : Int → Int} {most : Int} (h : settled f most ≠ 0) : 1 ≤ settled f most ∧ settled f most ≤ most ∧ f (settled f most) ≤ settled f most ∧ ∀ n : Int, 1 ≤ n → n < settled f most → n < f n := by
  cases hf : firstOf (fun n : Nat => if f n ≤ n then some (n : Int) else none) (most.toNat + 1) 1 with
  | none => exact absurd (settled_none hf) h
  | some r =>
    obtain ⟨j, h1, h2, h3, h4⟩ := firstOf_some hf
    split at h3
    · cases h3
      rw [settled_some hf]
      refine ⟨by omega, by omega, by assumption, fun n hn1 hn2 => ?_⟩
      have := h4 n.toNat (by omega) (by omega)
      have e : ((n.toNat : Nat) : Int) = n := Int.toNat_of_nonneg (by omega)
      simp only [e] at this
      split at this
      · cases this
      · omega
    · cases h3
theorem settled_zero {f : Int → Int} {most : Int} (h : settled f most = 0) : ∀ n : Int, 1 ≤ n → n ≤ most → n < f n := by
  cases hf : firstOf (fun n : Nat => if f n ≤ n then some (n : Int) else none) (most.toNat + 1) 1 with
  | some r =>
    obtain ⟨j, h1, h2, h3, h4⟩ := firstOf_some hf
    split at h3
    · cases h3; rw [settled_some hf] at h; omega
    · cases h3
  | none =>
    intro n h1 h2
    have := firstOf_none hf n.toNat (by omega) (by omega)
    have e : ((n.toNat : Nat) : Int) = n := Int.toNat_of_nonneg (by omega)
    simp only [e] at this
    split at this
    · cases this
    · omega
theorem settled_eq {f : Int → Int} {most w : Int} (h1 : 1 ≤ w) (h2 : w ≤ most) (h3 : f w ≤ w) (h4 : ∀ n : Int, 1 ≤ n → n < w → n < f n) : settled f most = w := by
  by_cases h : settled f most = 0
  · have := settled_zero h w h1 h2; omega
  · obtain ⟨g1, g2, g3, g4⟩ := settled_pos h
    rcases Int.lt_trichotomy (settled f most) w with hl | hl | hl
    · have := h4 _ g1 hl; omega
    · exact hl
    · have := g4 _ h1 hl; omega
theorem settled_eq_zero {f : Int → Int} {most : Int} (h : ∀ n : Int, 1 ≤ n → n ≤ most → n < f n) : settled f most = 0 := by
  apply Decidable.byContradiction
  intro hne
  obtain ⟨g1, g2, g3, g4⟩ := settled_pos hne
  have := h _ g1 g2
  omega
theorem gmax_eq (x y : Int) : gmax x y = max x y := by unfold gmax; omega
theorem gmin_eq (x y : Int) : gmin x y = min x y := by unfold gmin; omega

/-- one step towards the least time -/
def settleStep (d : Int → Option Int) (most : Int) (z : Int) : Option (Int ⊕ (Unit ⊕ Int)) :=
  if z ≤ most then
    match d z with
    | none => none
    | some r => if r ≤ z then some (.inr (.inr z)) else some (.inl r)
  else some (.inr (.inl ()))
theorem settle_iter {d : Int → Option Int} {f : Int → Int} {most first : Int} (h1 : 1 ≤ first) (hd : ∀ z, first ≤ z → z ≤ most → d z = some (f z)) (hge : ∀ z, 1 ≤ z → first ≤ f z) (hm : ∀ z z', 1 ≤ z → z ≤ z' → f z ≤ f z') {K : Nat} (hK : most + 2 < K) (hK0 : 1 ≤ K) :
    iter (settleStep d most) K first = some (if settled f most = 0 then .inl () else .inr (settled f most)) := by
  obtain ⟨r, hr, hR⟩ := iter_total (f := settleStep d most) (fun w => first ≤ w ∧ ∀ n : Int, 1 ≤ n → n < w → n < f n) (fun w => (most + 1 - w).toNat)
    (fun r => r = if settled f most = 0 then .inl () else .inr (settled f most)) (fun w hI => by
      obtain ⟨h2, h3⟩ := hI
      by_cases hw : w ≤ most
      · simp only [settleStep, if_pos hw, hd w h2 hw]
        by_cases hle : f w ≤ w
        · right
          have hs := settled_eq (f := f) (most := most) (by omega) hw hle h3
          refine ⟨_, by rw [if_pos hle], ?_⟩
          rw [hs, if_neg (by omega)]
        · left
          refine ⟨_, by rw [if_neg hle], ⟨by omega, fun n hn1 hn2 => ?_⟩, by omega⟩
          by_cases hnw : n < w
          · exact h3 n hn1 hnw
          · have := hm w n (by omega) (by omega)
            omega
      · right
        refine ⟨.inl (), by simp only [settleStep, if_neg hw], ?_⟩
        rw [settled_eq_zero (fun n h1 h2 => h3 n h1 (by omega)), if_pos rfl]) K first ⟨Int.le_refl _, fun n hn1 hn2 => by have := hge n hn1; omega⟩ (by omega)
  rw [hr, hR]
/-- one step of the search, time by time -/
def leastStep (d : Int → Option Int) (most : Int) (z : Int) : Option (Int ⊕ (Unit ⊕ Int)) :=
  if z ≤ most then
    match d z with
    | none => none
    | some r => if r = z then some (.inr (.inr z)) else some (.inl (IntKind.i64.wrap (z + 1)))
  else some (.inr (.inl ()))
theorem least_iter {d : Int → Option Int} {f : Int → Int} {most : Int} (hmost : most ≤ 1000000000) (hd : ∀ z, 1 ≤ z → z ≤ most → d z = some (f z)) (hge : ∀ z, 1 ≤ z → 1 ≤ f z) (hm : ∀ z z', 1 ≤ z → z ≤ z' → f z ≤ f z') {K : Nat} (hK : most + 2 < K) (hK0 : 1 ≤ K) :
    iter (leastStep d most) K 1 = some (if settled f most = 0 then .inl () else .inr (settled f most)) := by
  obtain ⟨r, hr, hR⟩ := iter_total (f := leastStep d most) (fun w => 1 ≤ w ∧ (w ≤ 1 ∨ w ≤ most + 1) ∧ ∀ n : Int, 1 ≤ n → n < w → n < f n) (fun w => (most + 1 - w).toNat)
    (fun r => r = if settled f most = 0 then .inl () else .inr (settled f most)) (fun w hI => by
      obtain ⟨h2, hwm, h3⟩ := hI
      by_cases hw : w ≤ most
      · simp only [leastStep, if_pos hw, hd w h2 hw]
        have hge : w ≤ f w := by
          by_cases hw1 : w = 1
          · subst hw1; exact hge 1 (by omega)
          · have := h3 (w - 1) (by omega) (by omega)
            have := hm (w - 1) w (by omega) (by omega)
            omega
        by_cases hle : f w = w
        · right
          have hs := settled_eq (f := f) (most := most) (by omega) hw (by omega) h3
          refine ⟨_, by rw [if_pos hle], ?_⟩
          rw [hs, if_neg (by omega)]
        · left
          refine ⟨_, by rw [if_neg hle, wrap64_small (by omega) (by omega)], ⟨by omega, by omega, fun n hn1 hn2 => ?_⟩, by omega⟩
          by_cases hnw : n < w
          · exact h3 n hn1 hnw
          · have : n = w := by omega
            subst this
            omega
      · right
        refine ⟨.inl (), by simp only [leastStep, if_neg hw], ?_⟩
        rw [settled_eq_zero (fun n h1 h2 => h3 n h1 (by omega)), if_pos rfl]) K 1 ⟨Int.le_refl _, .inl (Int.le_refl _), fun n hn1 hn2 => by omega⟩ (by omega)
  rw [hr, hR]

theorem getD_of {l : List Int} {i : Nat} {x : Int} (h : l[i]? = some x) : l.getD i 0 = x := by simp [List.getD, h]
theorem get_of_lt {l : List Int} {i : Nat} (h : i < l.length) : l[i]? = some (l.getD i 0) := by simp [List.getD, h]
theorem getD_set (l : List Int) (i j : Nat) (x : Int) (hi : i < l.length) : (l.set i x).getD j 0 = if i = j then x else l.getD j 0 := by
  simp only [List.getD, List.getElem?_set]
  by_cases h : i = j
  · subst h; simp [hi]
  · simp [h]
def sumN (f : Nat → Int) : Nat → Int
  | 0 => 0
  | n + 1 => sumN f n + f n
theorem sumN_congr {f g : Nat → Int} : ∀ {n : Nat}, (∀ j, j < n → f j = g j) → sumN f n = sumN g n
  | 0, _ => rfl
  | n + 1, h => by simp only [sumN]; rw [sumN_congr (fun j hj => h j (by omega)), h n (by omega)]
theorem sumN_le {f g : Nat → Int} : ∀ {n : Nat}, (∀ j, j < n → f j ≤ g j) → sumN f n ≤ sumN g n
  | 0, _ => Int.le_refl _
  | n + 1, h => by
    simp only [sumN]
    have := sumN_le (n := n) (fun j hj => h j (by omega))
    have := h n (by omega)
    omega
theorem sumN_nonneg {f : Nat → Int} : ∀ {n : Nat}, (∀ j, j < n → 0 ≤ f j) → 0 ≤ sumN f n
  | 0, _ => Int.le_refl _
  | n + 1, h => by
    simp only [sumN]
    have := sumN_nonneg (n := n) (fun j hj => h j (by omega))
    have := h n (by omega)
    omega
theorem sumN_zero {f : Nat → Int} {n : Nat} (h : ∀ j, j < n → f j = 0) : sumN f n = 0 := by
  rw [sumN_congr (g := fun _ => 0) h]
  induction n with
  | zero => rfl
  | succ n ih => simp only [sumN]; rw [ih (fun j hj => h j (by omega))]; rfl
theorem sumN_one {f g : Nat → Int} {b : Nat} {d : Int} : ∀ {n : Nat}, b < n → f b = g b + d → (∀ j, j < n → j ≠ b → f j = g j) → sumN f n = sumN g n + d
  | 0, h, _, _ => by omega
  | n + 1, h, hb, ho => by
    simp only [sumN]
    by_cases hn : n = b
    · subst hn
      rw [hb, sumN_congr (fun j hj => ho j (by omega) (by omega))]
      omega
    · rw [sumN_one (n := n) (by omega) hb (fun j hj hne => ho j (by omega) hne), ho n (by omega) hn]
      omega
theorem sumN_term {f : Nat → Int} {n k : Nat} (h : ∀ j, j < n → 0 ≤ f j) (hk : k < n) : f k ≤ sumN f n := by
  have h1 := sumN_one (f := f) (g := fun j => if j = k then 0 else f j) (b := k) (d := f k) hk (by simp) (fun j _ hne => by simp [hne])
  have h2 := sumN_nonneg (f := fun j => if j = k then 0 else f j) (n := n) (fun j hj => by show 0 ≤ (if j = k then 0 else f j); split; exact Int.le_refl _; exact h j hj)
  omega
theorem sumN_add (f g : Nat → Int) : ∀ n, sumN (fun j => f j + g j) n = sumN f n + sumN g n
  | 0 => rfl
  | n + 1 => by simp only [sumN]; rw [sumN_add f g n]; omega
theorem sumN_swap (f : Nat → Nat → Int) (m : Nat) : ∀ n, sumN (fun j => sumN (fun o => f o j) m) n = sumN (fun o => sumN (fun j => f o j) n) m
  | 0 => by
    show (0 : Int) = _
    symm
    exact sumN_zero (fun _ _ => rfl)
  | n + 1 => by
    simp only [sumN]
    rw [sumN_swap f m n, ← sumN_add]
theorem sumN_pick {f : Nat → Int} {n k : Nat} (hk : k < n) (h : ∀ j, j < n → j ≠ k → f j = 0) : sumN f n = f k := by
  have h1 := sumN_one (f := f) (g := fun _ => 0) (b := k) (d := f k) hk (by simp) (fun j hj hne => h j hj hne)
  rw [h1, sumN_zero (fun _ _ => rfl)]
  omega
/-- the greatest place up to m with a property -/
theorem exists_last {p : Nat → Prop} (m : Nat) (h0 : p 0) : ∃ t, t ≤ m ∧ p t ∧ ∀ s, t < s → s ≤ m → ¬ p s := by
  induction m with
  | zero => exact ⟨0, Nat.le_refl _, h0, fun s h1 h2 => by omega⟩
  | succ m ih =>
    by_cases h : p (m + 1)
    · exact ⟨m + 1, Nat.le_refl _, h, fun s h1 h2 => by omega⟩
    · obtain ⟨t, h1, h2, h3⟩ := ih
      refine ⟨t, by omega, h2, fun s h4 h5 => ?_⟩
      by_cases hs : s = m + 1
      · subst hs; exact h
      · exact h3 s h4 (by omega)
/-- work that is done tick by tick: what is left of n jobs; those of a level, which go ahead of all others -/
structure Level (n : Nat) (L : Nat → Nat → Int) (H : Nat → Prop) (r : Nat → Nat) (c : Nat → Int) : Prop where
  start : ∀ j, j < n → L 0 j = c j
  nonneg : ∀ t j, 0 ≤ L t j
  down : ∀ t j, L (t + 1) j ≤ L t j
  wait : ∀ t j, j < n → t < r j → L (t + 1) j = L t j
  runs : ∀ t, (∃ j, j < n ∧ H j ∧ r j ≤ t ∧ 0 < L t j) → ∃ b, b < n ∧ H b ∧ r b ≤ t ∧ 0 < L t b ∧ L (t + 1) b = L t b - 1 ∧ ∀ j, j < n → j ≠ b → L (t + 1) j = L t j
theorem Level.mono {n : Nat} {L : Nat → Nat → Int} {H : Nat → Prop} {r : Nat → Nat} {c : Nat → Int} (h : Level n L H r c) {t t' : Nat} (ht : t ≤ t') (j : Nat) : L t' j ≤ L t j := by
  induction t' with
  | zero => obtain rfl : t = 0 := by omega
            exact Int.le_refl _
  | succ t' ih =>
    by_cases he : t = t' + 1
    · subst he; exact Int.le_refl _
    · have := ih (by omega); have := h.down t' j; omega
theorem Level.still {n : Nat} {L : Nat → Nat → Int} {H : Nat → Prop} {r : Nat → Nat} {c : Nat → Int} (h : Level n L H r c) {t : Nat} {j : Nat} (hj : j < n) (ht : t ≤ r j) : L t j = c j := by
  induction t with
  | zero => exact h.start j hj
  | succ t ih => rw [h.wait t j hj (by omega)]; exact ih (by omega)
/-- if of a level never more comes in w ticks than can be done in them, then each of it is done w ticks behind its coming -/
theorem Level.done {n : Nat} {L : Nat → Nat → Int} {H : Nat → Prop} [DecidablePred H] {r : Nat → Nat} {c : Nat → Int} (h : Level n L H r c) (w : Nat) (hw : 1 ≤ w)
    (hsum : ∀ t0, sumN (fun j => if H j ∧ t0 ≤ r j ∧ r j < t0 + w then c j else 0) n ≤ w) {k : Nat} (hk : k < n) (hHk : H k) : L (r k + w) k = 0 := by
  obtain ⟨t0, ht0, hid, hlast⟩ := exists_last (p := fun t => ∀ j, j < n → H j → r j < t → L t j = 0) (r k) (fun j _ _ h => by omega)
  by_cases hall : ∀ t, t0 ≤ t → t < t0 + w → ∃ j, j < n ∧ H j ∧ r j ≤ t ∧ 0 < L t j
  · -- the core is never idle for this level
    have hA : ∀ d, d ≤ w → sumN (fun j => if H j ∧ t0 ≤ r j ∧ r j < t0 + w then L (t0 + d) j else 0) n ≤ (w : Int) - d := by
      intro d
      induction d with
      | zero =>
        intro _
        have := hsum t0
        rw [sumN_congr (g := fun j => if H j ∧ t0 ≤ r j ∧ r j < t0 + w then c j else 0) (fun j hj => by
          by_cases hc : H j ∧ t0 ≤ r j ∧ r j < t0 + w
          · rw [if_pos hc, if_pos hc]; exact h.still hj hc.2.1
          · rw [if_neg hc, if_neg hc])]
        omega
      | succ d ih =>
        intro hd
        have ih := ih (by omega)
        obtain ⟨b, hb, hHb, hrb, hLb, hstep, hoth⟩ := h.runs (t0 + d) (hall (t0 + d) (by omega) (by omega))
        have hrb0 : t0 ≤ r b := by
          apply Nat.le_of_not_lt
          intro hlt
          have h1 := hid b hb hHb hlt
          have h2 := h.mono (show t0 ≤ t0 + d by omega) b
          omega
        have := sumN_one (f := fun j => if H j ∧ t0 ≤ r j ∧ r j < t0 + w then L (t0 + (d + 1)) j else 0) (g := fun j => if H j ∧ t0 ≤ r j ∧ r j < t0 + w then L (t0 + d) j else 0) (b := b) (d := -1) hb (by
          rw [if_pos ⟨hHb, hrb0, by omega⟩, if_pos ⟨hHb, hrb0, by omega⟩]
          show L (t0 + d + 1) b = _
          rw [hstep]; omega) (fun j hj hne => by
          by_cases hc : H j ∧ t0 ≤ r j ∧ r j < t0 + w
          · rw [if_pos hc, if_pos hc]; exact hoth j hj hne
          · rw [if_neg hc, if_neg hc])
        rw [this]
        omega
    have hend := hA w (Nat.le_refl _)
    have hzero : ∀ j, j < n → H j → r j < t0 + w → L (t0 + w) j = 0 := by
      intro j hj hHj hrj
      by_cases hr0 : r j < t0
      · have h1 := hid j hj hHj hr0
        have h2 := h.mono (show t0 ≤ t0 + w by omega) j
        have h3 := h.nonneg (t0 + w) j
        omega
      · have h1 := sumN_term (f := fun j => if H j ∧ t0 ≤ r j ∧ r j < t0 + w then L (t0 + w) j else 0) (n := n) (k := j) (fun i _ => by
          by_cases hc : H i ∧ t0 ≤ r i ∧ r i < t0 + w
          · rw [if_pos hc]; exact h.nonneg _ _
          · rw [if_neg hc]; exact Int.le_refl _) hj
        rw [if_pos ⟨hHj, by omega, hrj⟩] at h1
        have h3 := h.nonneg (t0 + w) j
        omega
    by_cases hrk : r k < t0 + w
    · have h1 := hzero k hk hHk hrk
      have h2 := h.mono (show t0 + w ≤ r k + w by omega) k
      have h3 := h.nonneg (r k + w) k
      omega
    · exact absurd hzero (hlast (t0 + w) (by omega) (by omega))
  · have ⟨t, ht⟩ := Classical.not_forall.1 hall
    have ⟨ht1, ht⟩ := Classical.not_imp.1 ht
    have ⟨ht2, hnone⟩ := Classical.not_imp.1 ht
    have hz : ∀ j, j < n → H j → r j ≤ t → L t j = 0 := fun j hj hHj hrj => by
      have h1 := h.nonneg t j
      by_cases h0 : 0 < L t j
      · exact absurd ⟨j, hj, hHj, hrj, h0⟩ hnone
      · omega
    by_cases hrk : r k ≤ t
    · have h1 := hz k hk hHk hrk
      have h2 := h.mono (show t ≤ r k + w by omega) k
      have h3 := h.nonneg (r k + w) k
      omega
    · refine absurd (fun j hj hHj hrj => ?_) (hlast (t + 1) (by omega) (by omega))
      have h1 := hz j hj hHj (by omega)
      have h2 := h.down t j
      have h3 := h.nonneg (t + 1) j
      omega
/-- so much of one task lies in w ticks at most, if it comes T apart, J late at most -/
theorem spaced {n : Nat} {q : Nat → Prop} [DecidablePred q] {r : Nat → Nat} {a c : Nat → Int} {C T J : Int} (hT : 1 ≤ T) (hC : 0 ≤ C) (hc : ∀ j, j < n → q j → c j ≤ C) (hra : ∀ j, j < n → q j → a j ≤ r j ∧ (r j : Int) ≤ a j + J)
    (hsp : ∀ i j, i < j → j < n → q i → q j → a i + T ≤ a j) (t0 w : Nat) (hw : 1 ≤ w) (hJ : 0 ≤ J) :
    sumN (fun j => if q j ∧ t0 ≤ r j ∧ r j < t0 + w then c j else 0) n ≤ ((w + J + T - 1) / T) * C := by
  have key : ∀ m, m ≤ n → (sumN (fun j => if q j ∧ t0 ≤ r j ∧ r j < t0 + w then c j else 0) m ≤ 0 ∧ ∀ j, j < m → ¬ (q j ∧ t0 ≤ r j ∧ r j < t0 + w)) ∨
      ∃ j, j < m ∧ (q j ∧ t0 ≤ r j ∧ r j < t0 + w) ∧ sumN (fun j => if q j ∧ t0 ≤ r j ∧ r j < t0 + w then c j else 0) m ≤ ((a j - (t0 - J)) / T + 1) * C := by
    intro m
    induction m with
    | zero => intro _; exact .inl ⟨Int.le_refl _, fun j h => by omega⟩
    | succ m ih =>
      intro hm
      have ih := ih (by omega)
      simp only [sumN]
      by_cases hc' : q m ∧ t0 ≤ r m ∧ r m < t0 + w
      · right
        refine ⟨m, by omega, hc', ?_⟩
        rw [if_pos hc']
        have hcm := hc m (by omega) hc'.1
        have hrm := hra m (by omega) hc'.1
        rcases ih with ⟨h1, _⟩ | ⟨j, hj, hcj, h1⟩
        · have h0 : 0 ≤ (a m - (t0 - J)) / T := Int.ediv_nonneg (by omega) (by omega)
          have : 1 * C ≤ ((a m - (t0 - J)) / T + 1) * C := Int.mul_le_mul_of_nonneg_right (by omega) hC
          omega
        · have hs := hsp j m hj (by omega) hcj.1 hc'.1
          have h2 : (a j - (t0 - J)) / T + 1 ≤ (a m - (t0 - J)) / T := by
            have : (a j - (t0 - J) + T * 1) / T = (a j - (t0 - J)) / T + 1 := Int.add_mul_ediv_left _ _ (by omega)
            rw [← this]
            exact Int.ediv_le_ediv (by omega) (by omega)
          have h3 : ((a j - (t0 - J)) / T + 1 + 1) * C ≤ ((a m - (t0 - J)) / T + 1) * C := Int.mul_le_mul_of_nonneg_right (by omega) hC
          rw [Int.add_mul ((a j - (t0 - J)) / T + 1)] at h3
          omega
      · rw [if_neg hc']
        rcases ih with ⟨h1, h2⟩ | ⟨j, hj, hcj, h1⟩
        · left
          refine ⟨by omega, fun j hj => ?_⟩
          by_cases hjm : j = m
          · subst hjm; exact hc'
          · exact h2 j (by omega)
        · exact .inr ⟨j, by omega, hcj, by omega⟩
  have e : (w + J + T - 1) / T = (w + J - 1) / T + 1 := by
    have : (w + J - 1 + T * 1) / T = (w + J - 1) / T + 1 := Int.add_mul_ediv_left _ _ (by omega)
    rw [← this]; congr 1; omega
  rw [e]
  rcases key n (Nat.le_refl _) with ⟨h1, _⟩ | ⟨j, hj, hcj, h1⟩
  · have h0 : 0 ≤ ((w : Int) + J - 1) / T := Int.ediv_nonneg (by omega) (by omega)
    have : 0 ≤ ((w + J - 1) / T + 1) * C := Int.mul_nonneg (by omega) hC
    omega
  · have hrj := hra j hj hcj.1
    have : (a j - (t0 - J)) / T ≤ (w + J - 1) / T := Int.ediv_le_ediv (by omega) (by omega)
    have := Int.mul_le_mul_of_nonneg_right (show (a j - (t0 - J)) / T + 1 ≤ (w + J - 1) / T + 1 by omega) hC
    omega

/-- what a task of two levels is -/
structure Okc (t : SCrit) : Prop where
  C : 1 ≤ t.C ∧ t.C ≤ t.H
  H : t.H ≤ t.D
  D : t.D ≤ t.T
  T : t.T ≤ 10000
  low : t.High = false → t.H = t.C
structure CritOk (l : List SCrit) : Prop where
  len : 1 ≤ l.length ∧ l.length ≤ 8
  each : ∀ t ∈ l, Okc t
  other : ∀ (i j : Nat) (a b : SCrit), i < j → l[i]? = some a → l[j]? = some b → a.P ≠ b.P
theorem Okc.small {t : SCrit} (h : Okc t) : (1 ≤ t.C ∧ t.C ≤ 10000) ∧ (1 ≤ t.H ∧ t.H ≤ 10000) ∧ (1 ≤ t.D ∧ t.D ≤ 10000) ∧ 1 ≤ t.T ∧ t.T ≤ 10000 := by
  have := h.C; have := h.H; have := h.D; have := h.T
  omega
theorem critSame_eq (l : List SCrit) (x : SCrit) (K : Nat) (hK : l.length < K) : ∃ q, slices_ContainsFunc_api_Crit_api_Crit.f K l x = some q ∧ (q = false → ∀ o ∈ l, o.P ≠ x.P) := by
  unfold slices_ContainsFunc_api_Crit_api_Crit.f slices_IndexFunc_api_Crit_api_Crit.f
  have hit := iter_first0 (ρ := Int) (τ := Unit) (f := slices_IndexFunc_api_Crit_api_Crit.r0 l x) (fun i => match l[i]? with | some o => if o.P = x.P then some (i : Int) else none | none => none) l.length (t := ()) (fun i hi => by
    have hi' : (i : Int) < (l.length : Int) := by omega
    have hx : l[i]? = some l[i] := List.getElem?_eq_getElem hi
    simp only [slices_IndexFunc_api_Crit_api_Crit.r0, if_pos hi', hx, modes_Check_1.f, beq_iff_eq]
    by_cases h : l[i].P = x.P
    · rw [if_pos h, if_pos h]; rfl
    · rw [if_neg h, if_neg h]; rfl) (by simp [slices_IndexFunc_api_Crit_api_Crit.r0]) (K := K) hK
  rw [hit]
  cases hf : firstOf (fun i => match l[i]? with | some o => if o.P = x.P then some (i : Int) else none | none => none) l.length 0 with
  | some r =>
    obtain ⟨i, _, hi, hg, _⟩ := firstOf_some hf
    have hr : 0 ≤ r := by
      repeat' split at hg
      all_goals first | (cases hg; omega) | cases hg
    exact ⟨_, rfl, fun h => by simp at h; omega⟩
  | none =>
    refine ⟨_, rfl, fun _ o ho hP => ?_⟩
    obtain ⟨i, hi, rfl⟩ := List.getElem_of_mem ho
    have := firstOf_none hf i (Nat.zero_le _) hi
    simp only [List.getElem?_eq_getElem hi] at this
    rw [if_pos hP] at this
    cases this
theorem critCheck_eq (l : List SCrit) (K : Nat) (hK : 20 ≤ K) : ∃ f, modes_Check.f K l = some f ∧ (f.Code = 0 → f = ⟨0, 0⟩ ∧ CritOk l) := by
  unfold modes_Check.f modes_Check.p0
  by_cases h1 : (l.length : Int) < 1
  · rw [if_pos h1]; exact ⟨_, rfl, fun h => absurd h (by simp)⟩
  rw [if_neg h1]
  by_cases h2 : (l.length : Int) > 8
  · rw [if_pos h2]; exact ⟨_, rfl, fun h => absurd h (by simp)⟩
  rw [if_neg h2]
  simp only
  obtain ⟨r, hr, hR⟩ := iter_total (f := modes_Check.r1 K l) (fun i => i ≤ l.length ∧ (∀ (j : Nat) (t : SCrit), j < i → l[j]? = some t → Okc t) ∧ ∀ (j k : Nat) (a b : SCrit), j < k → k < i → l[j]? = some a → l[k]? = some b → a.P ≠ b.P) (fun i => l.length - i)
    (fun r => (∃ f, r = .inr f ∧ f.Code ≠ 0) ∨ (r = .inl () ∧ CritOk l)) (fun i hI => by
      obtain ⟨hi0, hA, hB⟩ := hI
      by_cases hi : i < l.length
      · have hi' : (i : Int) < (l.length : Int) := by omega
        have hx : l[i]? = some l[i] := List.getElem?_eq_getElem hi
        simp only [modes_Check.r1, if_pos hi', hx]
        generalize l[i] = t at hx
        have hlen : ((l.take i).drop 0).length = i := by simp; omega
        obtain ⟨q, hq, hq2⟩ := critSame_eq ((l.take i).drop 0) t K (by omega)
        by_cases hr : t.C < 1 ∨ t.H < t.C ∨ t.T < 1 ∨ t.T > 10000 ∨ t.D < t.C ∨ t.P < 0 ∨ t.P > 1000
        · have hp : modes_Check.p2 i t = some (.inr ⟨3, i⟩) := by
            unfold modes_Check.p2
            repeat' split
            all_goals first | rfl | omega
          rw [hp]
          exact .inr ⟨_, rfl, .inl ⟨_, rfl, by simp⟩⟩
        · have hp : modes_Check.p2 i t = some (.inl ()) := by
            unfold modes_Check.p2
            rw [if_neg (by omega), if_neg (by omega), if_neg (by omega), if_neg (by omega), if_neg (by omega), if_neg (by omega), if_neg (by omega)]
          rw [hp]
          simp only
          have hnext : (t.High = false → t.H = t.C) → ¬ t.D > t.T → ¬ t.H > t.D → q = false → (i + 1 ≤ l.length ∧ (∀ (j : Nat) (t : SCrit), j < i + 1 → l[j]? = some t → Okc t) ∧ ∀ (j k : Nat) (a b : SCrit), j < k → k < i + 1 → l[j]? = some a → l[k]? = some b → a.P ≠ b.P) := fun hlow hd hh hqf => by
            refine ⟨by omega, fun j t' hj ht' => ?_, fun j k a b hjk hk ha hb => ?_⟩
            · by_cases hji : j = i
              · subst hji
                rw [hx] at ht'
                cases ht'
                exact ⟨by omega, by omega, by omega, by omega, hlow⟩
              · exact hA j t' (by omega) ht'
            · by_cases hki : k = i
              · subst hki
                rw [hx] at hb
                cases hb
                refine hq2 hqf a ?_
                rw [List.drop_zero]
                exact List.mem_of_getElem? (i := j) (by rw [List.getElem?_take_of_lt hjk]; exact ha)
              · exact hB j k a b hjk (by omega) ha hb
          by_cases hd : t.D > t.T
          · rw [if_pos hd]; exact .inr ⟨_, rfl, .inl ⟨_, rfl, by simp⟩⟩
          rw [if_neg hd]
          by_cases hh : t.H > t.D
          · rw [if_pos hh]; exact .inr ⟨_, rfl, .inl ⟨_, rfl, by simp⟩⟩
          rw [if_neg hh]
          by_cases hhi : t.High = true
          · rw [if_pos hhi, if_pos hi0, hq]
            simp only
            cases q with
            | true => rw [if_pos rfl]; exact .inr ⟨_, rfl, .inl ⟨_, rfl, by simp⟩⟩
            | false =>
              rw [if_neg (by simp)]
              exact .inl ⟨_, rfl, hnext (fun h => by rw [hhi] at h; cases h) hd hh rfl, by omega⟩
          · rw [if_neg hhi]
            by_cases hc : t.H = t.C
            · rw [if_pos hc, if_pos hi0, hq]
              simp only
              cases q with
              | true => rw [if_pos rfl]; exact .inr ⟨_, rfl, .inl ⟨_, rfl, by simp⟩⟩
              | false =>
                rw [if_neg (by simp)]
                exact .inl ⟨_, rfl, hnext (fun _ => hc) hd hh rfl, by omega⟩
            · rw [if_neg hc]; exact .inr ⟨_, rfl, .inl ⟨_, rfl, by simp⟩⟩
      · right
        obtain rfl : i = l.length := by omega
        refine ⟨_, by simp only [modes_Check.r1]; rw [if_neg (by omega)], .inr ⟨rfl, ⟨by omega, by omega⟩, fun t ht => ?_, fun j k a b hjk ha hb => hB j k a b hjk (lt_of_get hb) ha hb⟩⟩
        obtain ⟨j, hj⟩ := List.mem_iff_getElem?.1 ht
        exact hA j t (lt_of_get hj) hj) K 0 ⟨Nat.zero_le _, fun j t hj => by omega, fun j k a b _ hk => by omega⟩ (by omega)
  rw [hr]
  rcases hR with ⟨f, rfl, hf⟩ | ⟨rfl, hok⟩
  · exact ⟨_, rfl, fun h => absurd h hf⟩
  · exact ⟨_, rfl, fun _ => ⟨rfl, hok⟩⟩
theorem cceil_eq {a b : Int} (ha : 0 ≤ a ∧ a ≤ 100000) (hb : 1 ≤ b ∧ b ≤ 100000) : modes_ceil.f a b = some (ceilD a b) := by
  unfold modes_ceil.f
  rw [if_neg (by omega), wrap64_small (n := a + b) (by omega) (by omega), wrap64_small (n := a + b - 1) (by omega) (by omega), Int.tdiv_eq_ediv_of_nonneg (by omega)]
  have h1 := ceilD_nonneg hb.1 ha.1
  have h2 := ceilD_le hb.1 ha.1
  show some (IntKind.i64.wrap (ceilD a b)) = _
  rw [wrap64_small (by omega) (by omega)]
/-- what those of greater priority want in w ticks, of the first n -/
def lowSum (l : List SCrit) (P w : Int) : Nat → Int
  | 0 => 0
  | n + 1 => match l[n]? with
    | some o => if o.P > P then lowSum l P w n + ceilD w o.T * o.C else lowSum l P w n
    | none => lowSum l P w n
/-- .. in v ticks, where low ones came for w -/
def highSum (l : List SCrit) (P w v : Int) : Nat → Int
  | 0 => 0
  | n + 1 => match l[n]? with
    | some o => if o.P ≤ P then highSum l P w v n else if o.High = true then highSum l P w v n + ceilD v o.T * o.H else highSum l P w v n + ceilD w o.T * o.C
    | none => highSum l P w v n
theorem critTerm {o : SCrit} (h : Okc o) {w c : Int} (hw : 0 ≤ w ∧ w ≤ 10000) (hc : 0 ≤ c ∧ c ≤ 10000) : (0 ≤ ceilD w o.T ∧ ceilD w o.T ≤ 10000) ∧ 0 ≤ ceilD w o.T * c ∧ ceilD w o.T * c ≤ 100000000 := by
  have hT := h.small.2.2.2
  have h1 := ceilD_nonneg hT.1 hw.1
  have h2 := ceilD_le hT.1 hw.1
  refine ⟨⟨h1, by omega⟩, Int.mul_nonneg h1 hc.1, ?_⟩
  calc ceilD w o.T * c ≤ 10000 * c := Int.mul_le_mul_of_nonneg_right (by omega) hc.1
    _ ≤ 10000 * 10000 := Int.mul_le_mul_of_nonneg_left hc.2 (by omega)
    _ = 100000000 := by decide
theorem lowSum_bounds {l : List SCrit} (h : ∀ t ∈ l, Okc t) {P w : Int} (hw : 0 ≤ w ∧ w ≤ 10000) : ∀ n : Nat, 0 ≤ lowSum l P w n ∧ lowSum l P w n ≤ 100000000 * (n : Int)
  | 0 => by simp [lowSum]
  | n + 1 => by
    have ih := lowSum_bounds h (P := P) hw n
    simp only [lowSum]
    cases hn : l[n]? with
    | none => simp only; omega
    | some o =>
      have ho := h o (List.mem_of_getElem? hn)
      have := (critTerm ho hw (c := o.C) ⟨by have := ho.small; omega, by have := ho.small; omega⟩).2
      simp only
      split <;> omega
theorem highSum_bounds {l : List SCrit} (h : ∀ t ∈ l, Okc t) {P w v : Int} (hw : 0 ≤ w ∧ w ≤ 10000) (hv : 0 ≤ v ∧ v ≤ 10000) : ∀ n : Nat, 0 ≤ highSum l P w v n ∧ highSum l P w v n ≤ 100000000 * (n : Int)
  | 0 => by simp [highSum]
  | n + 1 => by
    have ih := highSum_bounds h (P := P) hw hv n
    simp only [highSum]
    cases hn : l[n]? with
    | none => simp only; omega
    | some o =>
      have ho := h o (List.mem_of_getElem? hn)
      have h1 := (critTerm ho hw (c := o.C) ⟨by have := ho.small; omega, by have := ho.small; omega⟩).2
      have h2 := (critTerm ho hv (c := o.H) ⟨by have := ho.small; omega, by have := ho.small; omega⟩).2
      simp only
      split
      · omega
      · split <;> omega
theorem lowSum_mono {l : List SCrit} (h : ∀ t ∈ l, Okc t) {P w w' : Int} (hw : w ≤ w') : ∀ n : Nat, lowSum l P w n ≤ lowSum l P w' n
  | 0 => Int.le_refl _
  | n + 1 => by
    have ih := lowSum_mono h (P := P) hw n
    simp only [lowSum]
    cases hn : l[n]? with
    | none => exact ih
    | some o =>
      have ho := h o (List.mem_of_getElem? hn)
      have h1 : ceilD w o.T * o.C ≤ ceilD w' o.T * o.C := Int.mul_le_mul_of_nonneg_right (ceilD_mono ho.small.2.2.2.1 hw) (by have := ho.small; omega)
      simp only
      split <;> omega
theorem highSum_mono {l : List SCrit} (h : ∀ t ∈ l, Okc t) {P w v v' : Int} (hv : v ≤ v') : ∀ n : Nat, highSum l P w v n ≤ highSum l P w v' n
  | 0 => Int.le_refl _
  | n + 1 => by
    have ih := highSum_mono h (P := P) (w := w) hv n
    simp only [highSum]
    cases hn : l[n]? with
    | none => exact ih
    | some o =>
      have ho := h o (List.mem_of_getElem? hn)
      have h1 : ceilD v o.T * o.H ≤ ceilD v' o.T * o.H := Int.mul_le_mul_of_nonneg_right (ceilD_mono ho.small.2.2.2.1 hv) (by have := ho.small; omega)
      simp only
      split
      · exact ih
      · split <;> omega
theorem lowD_eq {l : List SCrit} (h : ∀ t ∈ l, Okc t) (hl : l.length ≤ 8) {t : SCrit} (ht : Okc t) {w : Int} (hw : 0 ≤ w ∧ w ≤ 10000) (K : Nat) (hK : 10 ≤ K) : modes_low_1.f K w t l = some (t.C + lowSum l t.P w l.length) := by
  unfold modes_low_1.f
  have hts := ht.small
  have hit := iter_states (ρ := Int) (f := modes_low_1.r0 w t l) (fun k => (t.C + lowSum l t.P w k, k)) (fun _ => none) l.length (t := t.C + lowSum l t.P w l.length) (fun k hk _ => by
    have hk' : (k : Int) < (l.length : Int) := by omega
    have hkx : l[k]? = some l[k] := List.getElem?_eq_getElem hk
    have ho := h l[k] (List.getElem_mem hk)
    have hos := ho.small
    have hb := lowSum_bounds h (P := t.P) hw k
    have hterm := critTerm ho hw (c := l[k].C) ⟨by omega, by omega⟩
    simp only [modes_low_1.r0, if_pos hk', hkx, lowSum, onwardS]
    by_cases hP : l[k].P > t.P
    · rw [if_pos hP, if_pos hP, cceil_eq ⟨by omega, by omega⟩ ⟨by omega, by omega⟩]
      simp only
      rw [wrap64_small (n := ceilD w l[k].T * l[k].C) (by omega) (by omega), wrap64_small (by omega) (by omega)]
      congr 3
      omega
    · rw [if_neg hP, if_neg hP]) (fun _ => by simp [modes_low_1.r0]) (K := K) (by omega)
  have h0 : t.C + lowSum l t.P w 0 = t.C := by simp [lowSum]
  rw [h0] at hit
  rw [hit, firstOf_none_of (fun _ _ _ => rfl)]
  rfl
theorem highD_eq {l : List SCrit} (h : ∀ t ∈ l, Okc t) (hl : l.length ≤ 8) {t : SCrit} (ht : Okc t) {w v : Int} (hw : 0 ≤ w ∧ w ≤ 10000) (hv : 0 ≤ v ∧ v ≤ 10000) (K : Nat) (hK : 10 ≤ K) : modes_high_1.f K v t l w = some (t.H + highSum l t.P w v l.length) := by
  unfold modes_high_1.f
  have hts := ht.small
  have hit := iter_states (ρ := Int) (f := modes_high_1.r0 v t l w) (fun k => (t.H + highSum l t.P w v k, k)) (fun _ => none) l.length (t := t.H + highSum l t.P w v l.length) (fun k hk _ => by
    have hk' : (k : Int) < (l.length : Int) := by omega
    have hkx : l[k]? = some l[k] := List.getElem?_eq_getElem hk
    have ho := h l[k] (List.getElem_mem hk)
    have hos := ho.small
    have hb := highSum_bounds h (P := t.P) hw hv k
    have hterm := critTerm ho hw (c := l[k].C) ⟨by omega, by omega⟩
    have hterm2 := critTerm ho hv (c := l[k].H) ⟨by omega, by omega⟩
    simp only [modes_high_1.r0, if_pos hk', hkx, highSum, onwardS]
    by_cases hP : l[k].P ≤ t.P
    · rw [if_pos hP, if_pos hP]
    · rw [if_neg hP, if_neg hP]
      by_cases hH : l[k].High = true
      · rw [if_pos hH, if_pos hH, cceil_eq ⟨by omega, by omega⟩ ⟨by omega, by omega⟩]
        simp only
        rw [wrap64_small (n := ceilD v l[k].T * l[k].H) (by omega) (by omega), wrap64_small (by omega) (by omega)]
        congr 3
        omega
      · rw [if_neg hH, if_neg hH, cceil_eq ⟨by omega, by omega⟩ ⟨by omega, by omega⟩]
        simp only
        rw [wrap64_small (n := ceilD w l[k].T * l[k].C) (by omega) (by omega), wrap64_small (by omega) (by omega)]
        congr 3
        omega) (fun _ => by simp [modes_high_1.r0]) (K := K) (by omega)
  have h0 : t.H + highSum l t.P w v 0 = t.H := by simp [highSum]
  rw [h0] at hit
  rw [hit, firstOf_none_of (fun _ _ _ => rfl)]
  rfl
/-- the two times of a task -/
noncomputable def wellOf (l : List SCrit) (t : SCrit) : Int := settled (fun w => t.C + lowSum l t.P w l.length) t.D
noncomputable def illOf (l : List SCrit) (t : SCrit) : Int := settled (fun v => t.H + highSum l t.P (wellOf l t) v l.length) t.D
theorem low_eq {l : List SCrit} (h : ∀ t ∈ l, Okc t) (hl : l.length ≤ 8) {i : Nat} {t : SCrit} (hx : l[i]? = some t) (K : Nat) (hK : 10100 ≤ K) : modes_low.f K l (i : Int) = some (wellOf l t) := by
  have ht := h t (List.mem_of_getElem? hx)
  have hts := ht.small
  unfold modes_low.f
  rw [if_pos (by omega), Int.toNat_natCast, hx]
  simp only
  have hit := settle_iter (d := fun z => modes_low_1.f K z t l) (f := fun w => t.C + lowSum l t.P w l.length) (most := t.D) (first := t.C) ht.C.1 (fun z h1 h2 => lowD_eq h hl ht ⟨by omega, by omega⟩ K (by omega))
    (fun z h1 => by have h3 := lowSum_mono h (P := t.P) (show 0 ≤ z by omega) l.length; have h4 := lowSum_bounds h (P := t.P) (w := 0) ⟨by omega, by omega⟩ l.length; omega) (fun z z' _ h2 => by have := lowSum_mono h (P := t.P) h2 l.length; omega) (K := K) (by omega) (by omega)
  have e : fixed_Settle.r0 K t.D t l = settleStep (fun z => modes_low_1.f K z t l) t.D := rfl
  unfold fixed_Settle.f
  rw [e, hit]
  show _ = some (settled _ _)
  by_cases hz : settled (fun w => t.C + lowSum l t.P w l.length) t.D = 0
  · rw [if_pos hz, hz]
  · rw [if_neg hz]
theorem high_eq {l : List SCrit} (h : ∀ t ∈ l, Okc t) (hl : l.length ≤ 8) {i : Nat} {t : SCrit} (hx : l[i]? = some t) (hw : wellOf l t ≠ 0) (K : Nat) (hK : 10100 ≤ K) : modes_high.f K l (i : Int) (wellOf l t) = some (illOf l t) := by
  have ht := h t (List.mem_of_getElem? hx)
  have hts := ht.small
  have hwp := settled_pos hw
  have hwb : 1 ≤ wellOf l t ∧ wellOf l t ≤ t.D := ⟨hwp.1, hwp.2.1⟩
  unfold modes_high.f
  rw [if_pos (by omega), Int.toNat_natCast, hx]
  simp only
  have hit := settle_iter (d := fun z => modes_high_1.f K z t l (wellOf l t)) (f := fun v => t.H + highSum l t.P (wellOf l t) v l.length) (most := t.D) (first := t.H) (by omega) (fun z h1 h2 => highD_eq h hl ht ⟨by omega, by omega⟩ ⟨by omega, by omega⟩ K (by omega))
    (fun z h1 => by have h3 := highSum_mono h (P := t.P) (w := wellOf l t) (show 0 ≤ z by omega) l.length; have h4 := highSum_bounds h (P := t.P) (w := wellOf l t) (v := 0) ⟨by omega, by omega⟩ ⟨by omega, by omega⟩ l.length; omega) (fun z z' _ h2 => by have := highSum_mono h (P := t.P) (w := wellOf l t) h2 l.length; omega) (K := K) (by omega) (by omega)
  have e : fixed_Settle_1.r0 K t.D t l (wellOf l t) = settleStep (fun z => modes_high_1.f K z t l (wellOf l t)) t.D := rfl
  unfold fixed_Settle_1.f
  rw [e, hit]
  show _ = some (settled _ _)
  by_cases hz : settled (fun v => t.H + highSum l t.P (wellOf l t) v l.length) t.D = 0
  · rw [if_pos hz, hz]
  · rw [if_neg hz]
/-- what Responses says -/
theorem critResp_eq (l : List SCrit) (K : Nat) (hK : 10100 ≤ K) : ∃ well ill f, modes_Responses.f K l = some (well, ill, f) ∧ (f.Code ≠ 0 → well = [] ∧ ill = []) ∧
    (f.Code = 0 → modes_Check.f K l = some ⟨0, 0⟩ ∧ CritOk l ∧ well.length = l.length ∧ ill.length = l.length ∧ ∀ (i : Nat) (t : SCrit), l[i]? = some t → ∃ v, well[i]? = some (wellOf l t) ∧ ill[i]? = some v ∧ wellOf l t ≠ 0 ∧ (t.High = true → v = illOf l t ∧ illOf l t ≠ 0)) := by
  obtain ⟨f, hf, hf0⟩ := critCheck_eq l K (by omega)
  unfold modes_Responses.f
  rw [hf]
  simp only
  by_cases hc : f.Code = 0
  · rw [if_pos hc]
    obtain ⟨hfe, hok⟩ := hf0 hc
    have hl := hok.len
    obtain ⟨r, hr, hR⟩ := iter_total (f := modes_Responses.r0 K l) (fun s => s.2.2 ≤ l.length ∧ s.1.length = s.2.2 ∧ s.2.1.length = s.2.2 ∧ ∀ (i : Nat) (t : SCrit), i < s.2.2 → l[i]? = some t → ∃ v, s.1[i]? = some (wellOf l t) ∧ s.2.1[i]? = some v ∧ wellOf l t ≠ 0 ∧ (t.High = true → v = illOf l t ∧ illOf l t ≠ 0)) (fun s => l.length - s.2.2)
      (fun r => (∃ f, r = .inr ([], [], f) ∧ f.Code ≠ 0) ∨ ∃ well ill, r = .inl (well, ill) ∧ well.length = l.length ∧ ill.length = l.length ∧ ∀ (i : Nat) (t : SCrit), l[i]? = some t → ∃ v, well[i]? = some (wellOf l t) ∧ ill[i]? = some v ∧ wellOf l t ≠ 0 ∧ (t.High = true → v = illOf l t ∧ illOf l t ≠ 0)) (fun s hI => by
        obtain ⟨m1, m2, i⟩ := s
        obtain ⟨hi0, hl1, hl2, hA⟩ := hI
        simp only at hi0 hl1 hl2 hA
        by_cases hi : i < l.length
        · have hi' : (i : Int) < (l.length : Int) := by omega
          have hx : l[i]? = some l[i] := List.getElem?_eq_getElem hi
          have ht := hok.each _ (List.getElem_mem hi)
          generalize l[i] = t at hx ht
          have hts := ht.small
          simp only [modes_Responses.r0, if_pos hi', hx, low_eq hok.each hl.2 hx K hK]
          have hnext : ∀ v, wellOf l t ≠ 0 → (t.High = true → v = illOf l t ∧ illOf l t ≠ 0) → (i + 1 ≤ l.length ∧ (m1 ++ [wellOf l t]).length = i + 1 ∧ (m2 ++ [v]).length = i + 1 ∧ ∀ (j : Nat) (t' : SCrit), j < i + 1 → l[j]? = some t' → ∃ v', (m1 ++ [wellOf l t])[j]? = some (wellOf l t') ∧ (m2 ++ [v])[j]? = some v' ∧ wellOf l t' ≠ 0 ∧ (t'.High = true → v' = illOf l t' ∧ illOf l t' ≠ 0)) := fun v hz hv => by
            refine ⟨by omega, by simp [hl1], by simp [hl2], fun j t' hj ht' => ?_⟩
            by_cases hji : j = i
            · subst hji
              rw [hx] at ht'
              cases ht'
              refine ⟨v, ?_, ?_, hz, hv⟩
              · rw [List.getElem?_append_right (by omega), hl1, Nat.sub_self]; rfl
              · rw [List.getElem?_append_right (by omega), hl2, Nat.sub_self]; rfl
            · obtain ⟨v', g1, g2, g3, g4⟩ := hA j t' (by omega) ht'
              refine ⟨v', ?_, ?_, g3, g4⟩
              · rw [List.getElem?_append_left (by omega)]; exact g1
              · rw [List.getElem?_append_left (by omega)]; exact g2
          by_cases hz : wellOf l t = 0
          · right
            have hp1 : modes_Responses.p1 K l i t (wellOf l t) = some (.inl 0) := by
              unfold modes_Responses.p1
              rw [hz]
              split
              · rfl
              · rfl
            rw [hp1]
            simp only
            rw [if_pos hz]
            exact ⟨_, rfl, .inl ⟨_, rfl, by simp⟩⟩
          · have hzp := settled_pos hz
            have hpos : wellOf l t > 0 := by have : 1 ≤ wellOf l t := hzp.1; omega
            by_cases hH : t.High = true
            · have hp1 : modes_Responses.p1 K l i t (wellOf l t) = some (.inl (illOf l t)) := by
                unfold modes_Responses.p1
                rw [if_pos hH, if_pos hpos, high_eq hok.each hl.2 hx hz K hK]
              rw [hp1]
              simp only
              rw [if_neg hz, if_pos hH]
              by_cases hv : illOf l t = 0
              · rw [if_pos hv]; exact .inr ⟨_, rfl, .inl ⟨_, rfl, by simp⟩⟩
              · rw [if_neg hv, if_pos (by omega), if_pos (by omega)]
                exact .inl ⟨_, rfl, hnext _ hz (fun _ => ⟨rfl, hv⟩), by simp only; omega⟩
            · have hp1 : modes_Responses.p1 K l i t (wellOf l t) = some (.inl 0) := by
                unfold modes_Responses.p1
                rw [if_neg hH]
              rw [hp1]
              simp only
              rw [if_neg hz, if_neg hH, if_pos (by omega), if_pos (by omega)]
              exact .inl ⟨_, rfl, hnext _ hz (fun h => absurd h hH), by simp only; omega⟩
        · right
          obtain rfl : i = l.length := by omega
          refine ⟨_, by simp only [modes_Responses.r0]; rw [if_neg (by omega)], .inr ⟨m1, m2, rfl, hl1, hl2, fun j t hj => hA j t (lt_of_get hj) hj⟩⟩) K ([], [], 0) ⟨Nat.zero_le _, rfl, rfl, fun i t hi => absurd hi (Nat.not_lt_zero _)⟩ (by simp only; omega)
    rw [hr]
    rcases hR with ⟨f', rfl, hf'⟩ | ⟨well, ill, rfl, g1, g2, g3⟩
    · exact ⟨_, _, _, rfl, fun _ => ⟨rfl, rfl⟩, fun h => absurd h hf'⟩
    · exact ⟨_, _, _, rfl, fun h => absurd rfl h, fun _ => ⟨by rw [hfe], hok, g1, g2, g3⟩⟩
  · rw [if_neg hc]
    exact ⟨_, _, _, rfl, fun _ => ⟨rfl, rfl⟩, fun h => absurd h hc⟩

/-- a busy time of a level ends as soon as all that may come in it can be done -/
theorem busyCore {n : Nat} {L : Nat → Nat → Int} {H : Nat → Prop} {r : Nat → Nat} (t0 w : Nat) (hw : 1 ≤ w)
    (hnn : ∀ t j, t0 ≤ t → t ≤ t0 + w → j < n → 0 ≤ L t j) (hz : ∀ t j, t0 ≤ t → t < t0 + w → j < n → H j → L t j = 0 → L (t + 1) j = 0)
    (hid : ∀ j, j < n → H j → r j < t0 → L t0 j = 0)
    (hruns : ∀ t, t0 ≤ t → t < t0 + w → (∃ j, j < n ∧ H j ∧ r j ≤ t ∧ 0 < L t j) → ∃ b, b < n ∧ H b ∧ r b ≤ t ∧ 0 < L t b ∧ L (t + 1) b ≤ L t b - 1 ∧ ∀ j, j < n → j ≠ b → L (t + 1) j ≤ L t j)
    {M : Int} (hM : M ≤ w) (hsum : ∀ (q : Nat → Prop) [DecidablePred q], (∀ j, q j → H j ∧ t0 ≤ r j ∧ r j < t0 + w) → sumN (fun j => if q j then L t0 j else 0) n ≤ M) :
    ∃ d, 1 ≤ d ∧ d ≤ w ∧ ∀ j, j < n → H j → r j < t0 + d → L (t0 + d) j = 0 := by
  have hzz : ∀ d, d ≤ w → ∀ j, j < n → H j → L t0 j = 0 → L (t0 + d) j = 0 := by
    intro d
    induction d with
    | zero => intro _ j _ _ h; exact h
    | succ d ih => intro hd j hj hH h; exact hz (t0 + d) j (by omega) (by omega) hj hH (ih (by omega) j hj hH h)
  by_cases hall : ∀ t, t0 ≤ t → t < t0 + w → ∃ j, j < n ∧ H j ∧ r j ≤ t ∧ 0 < L t j
  · haveI : DecidablePred fun j => H j ∧ t0 ≤ r j ∧ r j < t0 + w := fun _ => Classical.propDecidable _
    have hA : ∀ d : Nat, d ≤ w → sumN (fun j => if H j ∧ t0 ≤ r j ∧ r j < t0 + w then L (t0 + d) j else 0) n ≤ M - d := by
      intro d
      induction d with
      | zero =>
        intro _
        have := hsum (fun j => H j ∧ t0 ≤ r j ∧ r j < t0 + w) (fun j h => h)
        simp only [Nat.add_zero]
        omega
      | succ d ih =>
        intro hd
        have ih := ih (by omega)
        obtain ⟨b, hb, hHb, hrb, hLb, hstep, hoth⟩ := hruns (t0 + d) (by omega) (by omega) (hall (t0 + d) (by omega) (by omega))
        have hrb0 : t0 ≤ r b := by
          apply Nat.le_of_not_lt
          intro hlt
          have h1 := hzz d (by omega) b hb hHb (hid b hb hHb hlt)
          omega
        have h1 : sumN (fun j => if H j ∧ t0 ≤ r j ∧ r j < t0 + w then L (t0 + (d + 1)) j else 0) n ≤ sumN (fun j => if H j ∧ t0 ≤ r j ∧ r j < t0 + w then (if j = b then L (t0 + d) b - 1 else L (t0 + d) j) else 0) n := sumN_le fun j hj => by
          by_cases hc : H j ∧ t0 ≤ r j ∧ r j < t0 + w
          · rw [if_pos hc, if_pos hc]
            by_cases hjb : j = b
            · subst hjb; rw [if_pos rfl]; exact hstep
            · rw [if_neg hjb]; exact hoth j hj hjb
          · rw [if_neg hc, if_neg hc]; exact Int.le_refl _
        have h2 := sumN_one (f := fun j => if H j ∧ t0 ≤ r j ∧ r j < t0 + w then (if j = b then L (t0 + d) b - 1 else L (t0 + d) j) else 0) (g := fun j => if H j ∧ t0 ≤ r j ∧ r j < t0 + w then L (t0 + d) j else 0) (b := b) (d := -1) hb (by
          have hcb : H b ∧ t0 ≤ r b ∧ r b < t0 + w := ⟨hHb, hrb0, by omega⟩
          rw [if_pos hcb, if_pos hcb, if_pos rfl]; omega) (fun j hj hne => by
          by_cases hc : H j ∧ t0 ≤ r j ∧ r j < t0 + w
          · rw [if_pos hc, if_pos hc, if_neg hne]
          · rw [if_neg hc, if_neg hc])
        omega
    have hend := hA w (Nat.le_refl _)
    refine ⟨w, hw, Nat.le_refl _, fun j hj hHj hrj => ?_⟩
    by_cases hr0 : r j < t0
    · exact hzz w (Nat.le_refl _) j hj hHj (hid j hj hHj hr0)
    · have h1 := sumN_term (f := fun j => if H j ∧ t0 ≤ r j ∧ r j < t0 + w then L (t0 + w) j else 0) (n := n) (k := j) (fun i hi => by
        by_cases hc : H i ∧ t0 ≤ r i ∧ r i < t0 + w
        · rw [if_pos hc]; exact hnn _ _ (by omega) (by omega) hi
        · rw [if_neg hc]; exact Int.le_refl _) hj
      rw [if_pos ⟨hHj, by omega, hrj⟩] at h1
      have h3 := hnn (t0 + w) j (by omega) (by omega) hj
      omega
  · have ⟨t, ht⟩ := Classical.not_forall.1 hall
    have ⟨ht1, ht⟩ := Classical.not_imp.1 ht
    have ⟨ht2, hnone⟩ := Classical.not_imp.1 ht
    refine ⟨t + 1 - t0, by omega, by omega, fun j hj hHj hrj => ?_⟩
    rw [show t0 + (t + 1 - t0) = t + 1 by omega] at hrj ⊢
    have h1 := hnn t j ht1 (by omega) hj
    refine hz t j ht1 ht2 hj hHj ?_
    by_cases h0 : 0 < L t j
    · exact absurd ⟨j, hj, hHj, by omega, h0⟩ hnone
    · omega
/-- what is known of the j-th coming -/
structure ComeIs (l0 : List SCrit) (l1 : List SCome) (l2 : List Int) (j : Nat) (c : SCome) (x : SCrit) (b : Int) : Prop where
  come : l1[j]? = some c
  task : l0[c.Task.toNat]? = some x
  task0 : 0 ≤ c.Task
  takes : l2[j]? = some b
  at_ : 0 ≤ c.At ∧ c.At ≤ 20000
  b : 1 ≤ b ∧ b ≤ x.H
  ok : Okc x
theorem ComeIs.same {l0 : List SCrit} {l1 : List SCome} {l2 : List Int} {j : Nat} {c c' : SCome} {x x' : SCrit} {b b' : Int} (h : ComeIs l0 l1 l2 j c x b) (h' : ComeIs l0 l1 l2 j c' x' b') : c = c' ∧ x = x' ∧ b = b' := by
  have h1 := h.come; have h2 := h'.come
  rw [h1] at h2; cases h2
  have h3 := h.task; have h4 := h'.task
  rw [h3] at h4; cases h4
  have h5 := h.takes; have h6 := h'.takes
  rw [h5] at h6; cases h6
  exact ⟨rfl, rfl, rfl⟩
structure ComesOk (l0 : List SCrit) (l1 : List SCome) (l2 : List Int) : Prop where
  crit : CritOk l0
  len : l1.length ≤ 4000
  len2 : l2.length = l1.length
  at_ : ∀ j, j < l1.length → ∃ (c : SCome) (x : SCrit) (b : Int), ComeIs l0 l1 l2 j c x b
/-- may it run? -/
def candM (c : SCome) (x : SCrit) (e turned t : Int) : Prop := c.At ≤ t ∧ e < 0 ∧ (turned < 0 ∨ x.High = true)
instance (c : SCome) (x : SCrit) (e turned t : Int) : Decidable (candM c x e turned t) := by unfold candM; infer_instance
theorem p7_eq (t turned : Int) (ends : List Int) (j : Nat) (c : SCome) (x : SCrit) (e : Int) (he : ends[j]? = some e) : modes_Play.p7 t ends turned j c x = some (if candM c x e turned t then .inl () else .inr (.inl ())) := by
  unfold modes_Play.p7
  by_cases h1 : c.At > t
  · rw [if_pos h1, if_neg (show ¬ candM c x e turned t from fun h => by have := h.1; omega)]
  rw [if_neg h1, he]
  simp only
  by_cases h2 : e ≥ 0
  · rw [if_pos h2, if_neg (show ¬ candM c x e turned t from fun h => by have := h.2.1; omega)]
  rw [if_neg h2]
  by_cases h3 : turned ≥ 0
  · rw [if_pos h3]
    by_cases h4 : x.High = true
    · rw [if_pos h4, if_pos (show candM c x e turned t from ⟨by omega, by omega, .inr h4⟩)]
    · rw [if_neg h4, if_neg (show ¬ candM c x e turned t from fun h => by rcases h.2.2 with h | h; omega; exact h4 h)]
  · rw [if_neg h3, if_pos (show candM c x e turned t from ⟨by omega, by omega, .inl (by omega)⟩)]
/-- who runs -/
theorem bestM_eq {l0 : List SCrit} {l1 : List SCome} {l2 : List Int} (h : ComesOk l0 l1 l2) (t turned : Int) (ends : List Int) (hl : ends.length = l1.length) (K : Nat) (hK : 4010 ≤ K) :
    ∃ z, iter (modes_Play.r6 l0 l1 t ends turned) K ((-1), 0) = some (.inl z) ∧ ((z = -1 ∧ ∀ (j : Nat) (c : SCome) (x : SCrit) (b : Int), ComeIs l0 l1 l2 j c x b → ¬ candM c x (ends.getD j 0) turned t) ∨
      ∃ (k : Nat) (c : SCome) (x : SCrit) (b : Int), z = (k : Int) ∧ ComeIs l0 l1 l2 k c x b ∧ candM c x (ends.getD k 0) turned t ∧ ∀ (j : Nat) (c' : SCome) (x' : SCrit) (b' : Int), ComeIs l0 l1 l2 j c' x' b' → candM c' x' (ends.getD j 0) turned t → x'.P ≤ x.P) := by
  obtain ⟨r, hr, z, rfl, hz⟩ := iter_count (f := modes_Play.r6 l0 l1 t ends turned) (fun z i => (z = -1 ∧ ∀ (j : Nat) (c : SCome) (x : SCrit) (b : Int), j < i → ComeIs l0 l1 l2 j c x b → ¬ candM c x (ends.getD j 0) turned t) ∨
      ∃ (k : Nat) (c : SCome) (x : SCrit) (b : Int), z = (k : Int) ∧ ComeIs l0 l1 l2 k c x b ∧ candM c x (ends.getD k 0) turned t ∧ ∀ (j : Nat) (c' : SCome) (x' : SCrit) (b' : Int), j < i → ComeIs l0 l1 l2 j c' x' b' → candM c' x' (ends.getD j 0) turned t → x'.P ≤ x.P) l1.length
      (fun r => ∃ z, r = .inl z ∧ ((z = -1 ∧ ∀ (j : Nat) (c : SCome) (x : SCrit) (b : Int), j < l1.length → ComeIs l0 l1 l2 j c x b → ¬ candM c x (ends.getD j 0) turned t) ∨
      ∃ (k : Nat) (c : SCome) (x : SCrit) (b : Int), z = (k : Int) ∧ ComeIs l0 l1 l2 k c x b ∧ candM c x (ends.getD k 0) turned t ∧ ∀ (j : Nat) (c' : SCome) (x' : SCrit) (b' : Int), j < l1.length → ComeIs l0 l1 l2 j c' x' b' → candM c' x' (ends.getD j 0) turned t → x'.P ≤ x.P)) (fun z i hi hI => by
        left
        have hi' : (i : Int) < (l1.length : Int) := by omega
        obtain ⟨c, x, b, hC⟩ := h.at_ i hi
        have he : ends[i]? = some (ends.getD i 0) := get_of_lt (by omega)
        simp only [modes_Play.r6, if_pos hi', hC.come, if_pos hC.task0, hC.task, p7_eq t turned ends i c x _ he]
        by_cases hcand : candM c x (ends.getD i 0) turned t
        · rw [if_pos hcand]
          simp only
          rcases hI with ⟨rfl, hno⟩ | ⟨k, c2, x2, b2, rfl, hC2, hcand2, hmax⟩
          · refine ⟨_, by rw [if_pos (by omega)], .inr ⟨i, c, x, b, rfl, hC, hcand, fun j c' x' b' hj hC' hcand' => ?_⟩⟩
            by_cases hji : j = i
            · subst hji; obtain ⟨_, rfl, _⟩ := hC.same hC'; exact Int.le_refl _
            · exact absurd hcand' (hno j c' x' b' (by omega) hC')
          · rw [if_neg (by omega), if_pos (by omega), Int.toNat_natCast, hC2.come]
            simp only
            rw [if_pos hC2.task0, hC2.task]
            simp only
            have new : x2.P ≤ x.P → ∃ s', (some (Sum.inl ((i : Int), i + 1)) : Option ((Int × Nat) ⊕ (Int ⊕ (SModal × SFault)))) = some (.inl (s', i + 1)) ∧ ((s' = -1 ∧ ∀ (j : Nat) (c : SCome) (x : SCrit) (b : Int), j < i + 1 → ComeIs l0 l1 l2 j c x b → ¬ candM c x (ends.getD j 0) turned t) ∨
                ∃ (k : Nat) (c : SCome) (x : SCrit) (b : Int), s' = (k : Int) ∧ ComeIs l0 l1 l2 k c x b ∧ candM c x (ends.getD k 0) turned t ∧ ∀ (j : Nat) (c' : SCome) (x' : SCrit) (b' : Int), j < i + 1 → ComeIs l0 l1 l2 j c' x' b' → candM c' x' (ends.getD j 0) turned t → x'.P ≤ x.P) := fun hP => by
              refine ⟨_, rfl, .inr ⟨i, c, x, b, rfl, hC, hcand, fun j c' x' b' hj hC' hcand' => ?_⟩⟩
              by_cases hji : j = i
              · subst hji; obtain ⟨_, rfl, _⟩ := hC.same hC'; exact Int.le_refl _
              · have := hmax j c' x' b' (by omega) hC' hcand'; omega
            have old : x.P ≤ x2.P → ∃ s', (some (Sum.inl ((k : Int), i + 1)) : Option ((Int × Nat) ⊕ (Int ⊕ (SModal × SFault)))) = some (.inl (s', i + 1)) ∧ ((s' = -1 ∧ ∀ (j : Nat) (c : SCome) (x : SCrit) (b : Int), j < i + 1 → ComeIs l0 l1 l2 j c x b → ¬ candM c x (ends.getD j 0) turned t) ∨
                ∃ (k : Nat) (c : SCome) (x : SCrit) (b : Int), s' = (k : Int) ∧ ComeIs l0 l1 l2 k c x b ∧ candM c x (ends.getD k 0) turned t ∧ ∀ (j : Nat) (c' : SCome) (x' : SCrit) (b' : Int), j < i + 1 → ComeIs l0 l1 l2 j c' x' b' → candM c' x' (ends.getD j 0) turned t → x'.P ≤ x.P) := fun hP => by
              refine ⟨_, rfl, .inr ⟨k, c2, x2, b2, rfl, hC2, hcand2, fun j c' x' b' hj hC' hcand' => ?_⟩⟩
              by_cases hji : j = i
              · subst hji; obtain ⟨_, rfl, _⟩ := hC.same hC'; exact hP
              · exact hmax j c' x' b' (by omega) hC' hcand'
            by_cases h1 : x.P > x2.P
            · rw [if_pos h1]; exact new (by omega)
            · rw [if_neg h1]
              by_cases h2 : x.P = x2.P
              · rw [if_pos h2]
                by_cases h3 : c.At < c2.At
                · rw [if_pos h3]; exact new (by omega)
                · rw [if_neg h3]; exact old (by omega)
              · rw [if_neg h2]; exact old (by omega)
        · rw [if_neg hcand]
          refine ⟨z, rfl, ?_⟩
          rcases hI with ⟨rfl, hno⟩ | ⟨k, c2, x2, b2, rfl, hC2, hcand2, hmax⟩
          · refine .inl ⟨rfl, fun j c' x' b' hj hC' => ?_⟩
            by_cases hji : j = i
            · subst hji; obtain ⟨rfl, rfl, _⟩ := hC.same hC'; exact hcand
            · exact hno j c' x' b' (by omega) hC'
          · refine .inr ⟨k, c2, x2, b2, rfl, hC2, hcand2, fun j c' x' b' hj hC' hcand' => ?_⟩
            by_cases hji : j = i
            · subst hji; obtain ⟨rfl, rfl, _⟩ := hC.same hC'; exact absurd hcand' hcand
            · exact hmax j c' x' b' (by omega) hC' hcand') (fun z hI => ⟨.inl z, by simp [modes_Play.r6], z, rfl, hI⟩) K (-1) 0 (Nat.zero_le _) (.inl ⟨rfl, fun j c x b hj => by omega⟩) (by have := h.len; omega)
  refine ⟨z, hr, ?_⟩
  rcases hz with ⟨h1, h2⟩ | ⟨k, c, x, b, h1, h2, h3, h4⟩
  · exact .inl ⟨h1, fun j c x b hC => h2 j c x b (lt_of_get hC.come) hC⟩
  · exact .inr ⟨k, c, x, b, h1, h2, h3, fun j c' x' b' hC => h4 j c' x' b' (lt_of_get hC.come) hC⟩
/-- how it stands behind t ticks: the tick, what each did, who ran, the ends, when the mode turned -/
def simM (K : Nat) (l0 : List SCrit) (l1 : List SCome) (l2 : List Int) (en : Nat) : Nat → Int × List Int × List Int × List Int × Int
  | 0 => (0, List.replicate l1.length 0, List.replicate en 0, List.replicate l1.length (-1), -1)
  | t + 1 => match modes_Play.r5 K l0 l1 l2 (en : Int) (simM K l0 l1 l2 en t) with
    | some (.inl s) => s
    | _ => simM K l0 l1 l2 en t
structure InvM (l0 : List SCrit) (l1 : List SCome) (l2 : List Int) (en t : Nat) (s : Int × List Int × List Int × List Int × Int) : Prop where
  tick : s.1 = (t : Int)
  did : s.2.1.length = l1.length
  runs : s.2.2.1.length = en
  ends : s.2.2.2.1.length = l1.length
  each : ∀ (j : Nat) (c : SCome) (x : SCrit) (b : Int), ComeIs l0 l1 l2 j c x b → 0 ≤ s.2.1.getD j 0 ∧ s.2.1.getD j 0 ≤ b ∧ (s.2.2.2.1.getD j 0 < 0 → s.2.1.getD j 0 < b ∧ s.2.2.2.1.getD j 0 = -1) ∧ (0 ≤ s.2.2.2.1.getD j 0 → s.2.1.getD j 0 = b ∧ 1 ≤ s.2.2.2.1.getD j 0 ∧ s.2.2.2.1.getD j 0 ≤ t)
  turned : s.2.2.2.2 = -1 ∨ (1 ≤ s.2.2.2.2 ∧ s.2.2.2.2 ≤ t)
  calm : s.2.2.2.2 < 0 → ∀ (j : Nat) (c : SCome) (x : SCrit) (b : Int), ComeIs l0 l1 l2 j c x b → s.2.1.getD j 0 ≤ x.C ∧ (s.2.1.getD j 0 < b → s.2.1.getD j 0 < x.C)
/-- one tick -/
def StepM (l0 : List SCrit) (l1 : List SCome) (l2 : List Int) (t : Nat) (s s' : Int × List Int × List Int × List Int × Int) : Prop :=
  ((∀ (j : Nat) (c : SCome) (x : SCrit) (b : Int), ComeIs l0 l1 l2 j c x b → ¬ candM c x (s.2.2.2.1.getD j 0) s.2.2.2.2 (t : Int)) ∧ s'.2.1 = s.2.1 ∧ s'.2.2.2.1 = s.2.2.2.1 ∧ s'.2.2.2.2 = s.2.2.2.2) ∨
  ∃ (k : Nat) (c : SCome) (x : SCrit) (b : Int), ComeIs l0 l1 l2 k c x b ∧ candM c x (s.2.2.2.1.getD k 0) s.2.2.2.2 (t : Int) ∧ (∀ (j : Nat) (c' : SCome) (x' : SCrit) (b' : Int), ComeIs l0 l1 l2 j c' x' b' → candM c' x' (s.2.2.2.1.getD j 0) s.2.2.2.2 (t : Int) → x'.P ≤ x.P) ∧
    s'.2.1.getD k 0 = s.2.1.getD k 0 + 1 ∧ (∀ j, j ≠ k → s'.2.1.getD j 0 = s.2.1.getD j 0 ∧ s'.2.2.2.1.getD j 0 = s.2.2.2.1.getD j 0) ∧
    s'.2.2.2.1.getD k 0 = (if s.2.1.getD k 0 + 1 = b then (t : Int) + 1 else s.2.2.2.1.getD k 0) ∧
    (s'.2.2.2.2 = s.2.2.2.2 ∧ (s.2.1.getD k 0 + 1 = b ∨ ¬ (s.2.1.getD k 0 + 1 = x.C ∧ x.High = true ∧ s.2.2.2.2 < 0)) ∨ s.2.2.2.2 < 0 ∧ s'.2.2.2.2 = (t : Int) + 1)
theorem stepM_eq {l0 : List SCrit} {l1 : List SCome} {l2 : List Int} (h : ComesOk l0 l1 l2) {en t : Nat} (hen : en ≤ 20000) (ht : t < en) {s : Int × List Int × List Int × List Int × Int} (hI : InvM l0 l1 l2 en t s) (K : Nat) (hK : 4010 ≤ K) :
    ∃ s', modes_Play.r5 K l0 l1 l2 (en : Int) s = some (.inl s') ∧ s'.1 = ((t + 1 : Nat) : Int) ∧ s'.2.1.length = l1.length ∧ s'.2.2.1.length = en ∧ s'.2.2.2.1.length = l1.length ∧ StepM l0 l1 l2 t s s' := by
  obtain ⟨z3, did, runs, ends, turned⟩ := s
  obtain ⟨rfl, hd, hrl, he, hE, hT, hCalm⟩ := hI
  simp only at hd hrl he hE hT hCalm
  have ht' : (t : Int) < (en : Int) := by omega
  have hw : IntKind.i64.wrap ((t : Int) + 1) = ((t + 1 : Nat) : Int) := by rw [wrap64_small (by omega) (by omega)]; rfl
  have hrx : runs[t]? = some (runs[t]'(by omega)) := List.getElem?_eq_getElem _
  obtain ⟨z, hz, hcase⟩ := bestM_eq h (t : Int) turned ends he K hK
  simp only [modes_Play.r5, if_pos ht', hz, if_pos (show (0 : Int) ≤ (t : Int) by omega), Int.toNat_natCast, hrx, hw]
  rcases hcase with ⟨rfl, hno⟩ | ⟨k, c, x, b, rfl, hC, hcand, hmax⟩
  · rw [if_pos (by omega)]
    exact ⟨_, rfl, rfl, hd, by simp [hrl], he, .inl ⟨hno, rfl, rfl, rfl⟩⟩
  · have hk := lt_of_get hC.come
    have hkd : k < did.length := by omega
    have hke : k < ends.length := by omega
    obtain ⟨k1, k2, k3, k4⟩ := hE k c x b hC
    have hs := hC.ok.small
    have hb := hC.b
    rw [if_neg (by omega), if_pos (by omega)]
    have g1 : (did.set k (did.getD k 0 + 1))[k]? = some (did.getD k 0 + 1) := by simp [hkd]
    simp only [Int.toNat_natCast, get_of_lt hkd, hC.come, if_pos hC.task0, hC.task, hC.takes]
    rw [wrap64_small (n := did.getD k 0 + 1) (by omega) (by omega)]
    simp only [g1]
    have hdid : (did.set k (did.getD k 0 + 1)).getD k 0 = did.getD k 0 + 1 := by rw [getD_set _ _ _ _ hkd, if_pos rfl]
    have hoth : ∀ j, j ≠ k → (did.set k (did.getD k 0 + 1)).getD j 0 = did.getD j 0 := fun j hj => by rw [getD_set _ _ _ _ hkd, if_neg (fun h => hj h.symm)]
    by_cases hb1 : did.getD k 0 + 1 = b
    · rw [if_pos hb1, get_of_lt hke]
      refine ⟨_, rfl, rfl, by simp [hd], by simp [hrl], by simp [he], .inr ⟨k, c, x, b, hC, hcand, hmax, hdid, fun j hj => ⟨hoth j hj, ?_⟩, ?_, .inl ⟨rfl, .inl hb1⟩⟩⟩
      · simp only; rw [getD_set _ _ _ _ hke, if_neg (fun h => hj h.symm)]
      · simp only; rw [if_pos hb1, getD_set _ _ _ _ hke, if_pos rfl]; rfl
    · rw [if_neg hb1]
      by_cases hc1 : did.getD k 0 + 1 = x.C
      · rw [if_pos hc1]
        by_cases hh : x.High = true
        · rw [if_pos hh]
          by_cases htn : turned < 0
          · rw [if_pos htn]
            exact ⟨_, rfl, rfl, by simp [hd], by simp [hrl], he, .inr ⟨k, c, x, b, hC, hcand, hmax, hdid, fun j hj => ⟨hoth j hj, rfl⟩, by simp only; rw [if_neg hb1], .inr ⟨htn, rfl⟩⟩⟩
          · rw [if_neg htn]
            exact ⟨_, rfl, rfl, by simp [hd], by simp [hrl], he, .inr ⟨k, c, x, b, hC, hcand, hmax, hdid, fun j hj => ⟨hoth j hj, rfl⟩, by simp only; rw [if_neg hb1], .inl ⟨rfl, .inr (fun h => htn h.2.2)⟩⟩⟩
        · rw [if_neg hh]
          exact ⟨_, rfl, rfl, by simp [hd], by simp [hrl], he, .inr ⟨k, c, x, b, hC, hcand, hmax, hdid, fun j hj => ⟨hoth j hj, rfl⟩, by simp only; rw [if_neg hb1], .inl ⟨rfl, .inr (fun h => hh h.2.1)⟩⟩⟩
      · rw [if_neg hc1]
        exact ⟨_, rfl, rfl, by simp [hd], by simp [hrl], he, .inr ⟨k, c, x, b, hC, hcand, hmax, hdid, fun j hj => ⟨hoth j hj, rfl⟩, by simp only; rw [if_neg hb1], .inl ⟨rfl, .inr (fun h => hc1 h.1)⟩⟩⟩
theorem invM_step {l0 : List SCrit} {l1 : List SCome} {l2 : List Int} {en t : Nat} {s s' : Int × List Int × List Int × List Int × Int} (hI : InvM l0 l1 l2 en t s) (h1 : s'.1 = ((t + 1 : Nat) : Int)) (h2 : s'.2.1.length = l1.length) (h3 : s'.2.2.1.length = en) (h4 : s'.2.2.2.1.length = l1.length) (hS : StepM l0 l1 l2 t s s') : InvM l0 l1 l2 en (t + 1) s' := by
  rcases hS with ⟨_, g1, g2, g3⟩ | ⟨k, c, x, b, hC, hcand, hmax, g1, g2, g3, g4⟩
  · refine ⟨h1, h2, h3, h4, fun j c x b hC => ?_, ?_, fun hn j c x b hC => ?_⟩
    · have := hI.each j c x b hC
      rw [g1, g2]; omega
    · have := hI.turned
      rw [g3]; omega
    · rw [g3] at hn
      have := hI.calm hn j c x b hC
      rw [g1]; exact this
  · have hk := hI.each k c x b hC
    have hce := hcand.2.1
    refine ⟨h1, h2, h3, h4, fun j c' x' b' hC' => ?_, ?_, fun hn j c' x' b' hC' => ?_⟩
    · by_cases hjk : j = k
      · subst hjk
        obtain ⟨rfl, rfl, rfl⟩ := hC.same hC'
        rw [g1, g3]
        by_cases hb : s.2.1.getD j 0 + 1 = b
        · rw [if_pos hb]; omega
        · rw [if_neg hb]; omega
      · have := hI.each j c' x' b' hC'
        rw [(g2 j hjk).1, (g2 j hjk).2]; omega
    · have := hI.turned
      rcases g4 with ⟨g4, _⟩ | ⟨_, g4⟩ <;> rw [g4] <;> omega
    · rcases g4 with ⟨g4, g5⟩ | ⟨_, g4⟩
      · rw [g4] at hn
        by_cases hjk : j = k
        · subst hjk
          obtain ⟨rfl, rfl, rfl⟩ := hC.same hC'
          have hcl := hI.calm hn j c x b hC
          have hb := hC.b
          rw [g1]
          refine ⟨by omega, fun hlt => ?_⟩
          rcases g5 with g5 | g5
          · omega
          · by_cases hcc : s.2.1.getD j 0 + 1 = x.C
            · by_cases hh : x.High = true
              · exact absurd ⟨hcc, hh, hn⟩ g5
              · have := hC.ok.low (by simpa using hh)
                omega
            · omega
        · rw [(g2 j hjk).1]
          exact hI.calm hn j c' x' b' hC'
      · omega
theorem simM_inv {l0 : List SCrit} {l1 : List SCome} {l2 : List Int} (h : ComesOk l0 l1 l2) {en : Nat} (hen : en ≤ 20000) (K : Nat) (hK : 4010 ≤ K) : ∀ t, t ≤ en → InvM l0 l1 l2 en t (simM K l0 l1 l2 en t)
  | 0, _ => by
    refine ⟨rfl, by simp [simM], by simp [simM], by simp [simM], fun j c x b hC => ?_, .inl rfl, fun _ j c x b hC => ?_⟩
    · have hj := lt_of_get hC.come
      have e1 : (List.replicate l1.length (0 : Int)).getD j 0 = 0 := by simp [List.getD, hj]
      have e2 : (List.replicate l1.length (-1 : Int)).getD j 0 = -1 := by simp [List.getD, hj]
      have := hC.b
      simp only [simM]
      rw [e1, e2]
      omega
    · have hj := lt_of_get hC.come
      have e1 : (List.replicate l1.length (0 : Int)).getD j 0 = 0 := by simp [List.getD, hj]
      have := hC.ok.small
      simp only [simM]
      rw [e1]
      omega
  | t + 1, ht => by
    have ih := simM_inv h hen K hK t (by omega)
    obtain ⟨s', g1, g2, g3, g4, g5, g6⟩ := stepM_eq h hen (by omega) ih K hK
    have e : simM K l0 l1 l2 en (t + 1) = s' := by simp only [simM, g1]
    rw [e]
    exact invM_step ih g2 g3 g4 g5 g6
theorem simM_step {l0 : List SCrit} {l1 : List SCome} {l2 : List Int} (h : ComesOk l0 l1 l2) {en : Nat} (hen : en ≤ 20000) (K : Nat) (hK : 4010 ≤ K) {t : Nat} (ht : t < en) :
    modes_Play.r5 K l0 l1 l2 (en : Int) (simM K l0 l1 l2 en t) = some (.inl (simM K l0 l1 l2 en (t + 1))) ∧ StepM l0 l1 l2 t (simM K l0 l1 l2 en t) (simM K l0 l1 l2 en (t + 1)) := by
  obtain ⟨s', g1, g2, g3, g4, g5, g6⟩ := stepM_eq h hen ht (simM_inv h hen K hK t (by omega)) K hK
  have e : simM K l0 l1 l2 en (t + 1) = s' := by simp only [simM, g1]
  rw [e]
  exact ⟨g1, g6⟩

theorem sumN_by (pr : Nat → Nat) (q : Nat → Prop) [DecidablePred q] (c : Nat → Int) (n : Nat) : ∀ m, sumN (fun j => if pr j < m ∧ q j then c j else 0) n = sumN (fun o => sumN (fun j => if pr j = o ∧ q j then c j else 0) n) m
  | 0 => sumN_zero (fun j _ => if_neg (fun h => by omega))
  | m + 1 => by
    simp only [sumN]
    rw [← sumN_by pr q c n m, ← sumN_add]
    refine sumN_congr fun j _ => ?_
    by_cases hq : q j
    · by_cases h1 : pr j < m
      · rw [if_pos ⟨by omega, hq⟩, if_pos ⟨h1, hq⟩, if_neg (fun h => by omega)]; omega
      · by_cases h2 : pr j = m
        · rw [if_pos ⟨by omega, hq⟩, if_neg (fun h => h1 h.1), if_pos ⟨h2, hq⟩]; omega
        · rw [if_neg (fun h => by omega), if_neg (fun h => h1 h.1), if_neg (fun h => h2 h.1)]; rfl
    · rw [if_neg (fun h => hq h.2), if_neg (fun h => hq h.2), if_neg (fun h => hq h.2)]; rfl
theorem sumTasks {n m : Nat} {pr : Nat → Nat} {q : Nat → Prop} [DecidablePred q] {c B : Nat → Int} (hq : ∀ j, j < n → q j → pr j < m) (hB : ∀ o, o < m → sumN (fun j => if pr j = o ∧ q j then c j else 0) n ≤ B o) : sumN (fun j => if q j then c j else 0) n ≤ sumN B m := by
  have h1 : sumN (fun j => if q j then c j else 0) n = sumN (fun j => if pr j < m ∧ q j then c j else 0) n := sumN_congr fun j hj => by
    by_cases h : q j
    · rw [if_pos h, if_pos ⟨hq j hj h, h⟩]
    · rw [if_neg h, if_neg (fun h' => h h'.2)]
  rw [h1, sumN_by]
  exact sumN_le hB
theorem lowSum_sumN (l : List SCrit) (P w : Int) : ∀ n, lowSum l P w n = sumN (fun o => match l[o]? with | some t => if t.P > P then ceilD w t.T * t.C else 0 | none => 0) n
  | 0 => rfl
  | n + 1 => by
    simp only [lowSum, sumN, ← lowSum_sumN l P w n]
    cases l[n]? with
    | none => simp
    | some t => simp only; split <;> omega
theorem highSum_sumN (l : List SCrit) (P w v : Int) : ∀ n, highSum l P w v n = sumN (fun o => match l[o]? with | some t => if t.P ≤ P then 0 else if t.High = true then ceilD v t.T * t.H else ceilD w t.T * t.C | none => 0) n
  | 0 => rfl
  | n + 1 => by
    simp only [highSum, sumN, ← highSum_sumN l P w v n]
    cases l[n]? with
    | none => simp
    | some t =>
      simp only
      split
      · omega
      · split <;> rfl
def taskM (l1 : List SCome) (j : Nat) : Nat := match l1[j]? with | some c => c.Task.toNat | none => 0
def atM (l1 : List SCome) (j : Nat) : Nat := match l1[j]? with | some c => c.At.toNat | none => 0
theorem taskM_some {l1 : List SCome} {j : Nat} {c : SCome} (h : l1[j]? = some c) : taskM l1 j = c.Task.toNat := by simp [taskM, h]
theorem atM_some {l1 : List SCome} {j : Nat} {c : SCome} (h : l1[j]? = some c) : atM l1 j = c.At.toNat := by simp [atM, h]
def turnedM (K : Nat) (l0 : List SCrit) (l1 : List SCome) (l2 : List Int) (en t : Nat) : Int := (simM K l0 l1 l2 en t).2.2.2.2
def didM (K : Nat) (l0 : List SCrit) (l1 : List SCome) (l2 : List Int) (en t j : Nat) : Int := (simM K l0 l1 l2 en t).2.1.getD j 0
def endM (K : Nat) (l0 : List SCrit) (l1 : List SCome) (l2 : List Int) (en t j : Nat) : Int := (simM K l0 l1 l2 en t).2.2.2.1.getD j 0
section
variable {l0 : List SCrit} {l1 : List SCome} {l2 : List Int} (h : ComesOk l0 l1 l2) {en : Nat} (hen : en ≤ 20000) (K : Nat) (hK : 4010 ≤ K)
include h hen hK
theorem turned_keep {t s : Nat} (hts : t ≤ s) (hs : s ≤ en) (h0 : 0 ≤ turnedM K l0 l1 l2 en t) : turnedM K l0 l1 l2 en s = turnedM K l0 l1 l2 en t := by
  induction s with
  | zero => obtain rfl : t = 0 := by omega
            rfl
  | succ s ih =>
    by_cases he : t = s + 1
    · subst he; rfl
    · have ih := ih (by omega) (by omega)
      have hst := (simM_step h hen K hK (show s < en by omega)).2
      rw [← ih] at h0 ⊢
      unfold turnedM at h0 ⊢
      rcases hst with ⟨_, _, _, g⟩ | ⟨k, c, x, b, _, _, _, _, _, _, ⟨g, _⟩ | ⟨g, _⟩⟩
      · exact g
      · exact g
      · omega
theorem turned_after {t s : Nat} (hst : s ≤ t) (ht : t ≤ en) (h0 : turnedM K l0 l1 l2 en s < 0) (h1 : 0 ≤ turnedM K l0 l1 l2 en t) : (s : Int) < turnedM K l0 l1 l2 en t := by
  induction t with
  | zero => obtain rfl : s = 0 := by omega
            omega
  | succ t ih =>
    by_cases he : s = t + 1
    · subst he; omega
    · by_cases hp : 0 ≤ turnedM K l0 l1 l2 en t
      · rw [turned_keep h hen K hK (Nat.le_succ t) ht hp]
        exact ih (by omega) (by omega) hp
      · have hst := (simM_step h hen K hK (show t < en by omega)).2
        unfold turnedM at h1 hp ⊢
        rcases hst with ⟨_, _, _, g⟩ | ⟨k, c, x, b, _, _, _, _, _, _, ⟨g, _⟩ | ⟨_, g⟩⟩
        · omega
        · omega
        · rw [g]; omega
theorem end_keep {t s j : Nat} (hts : t ≤ s) (hs : s ≤ en) (h0 : 0 ≤ endM K l0 l1 l2 en t j) : endM K l0 l1 l2 en s j = endM K l0 l1 l2 en t j := by
  induction s with
  | zero => obtain rfl : t = 0 := by omega
            rfl
  | succ s ih =>
    by_cases he : t = s + 1
    · subst he; rfl
    · have ih := ih (by omega) (by omega)
      have hst := (simM_step h hen K hK (show s < en by omega)).2
      rw [← ih] at h0 ⊢
      unfold endM at h0 ⊢
      rcases hst with ⟨_, _, g, _⟩ | ⟨k, c, x, b, _, hc, _, _, g, _⟩
      · rw [g]
      · by_cases hjk : j = k
        · subst hjk
          have := hc.2.1
          omega
        · exact (g j hjk).2
theorem tick_cases {t : Nat} (ht : t < en) :
    ((∀ (j : Nat) (c : SCome) (x : SCrit) (b : Int), ComeIs l0 l1 l2 j c x b → ¬ candM c x (endM K l0 l1 l2 en t j) (turnedM K l0 l1 l2 en t) (t : Int)) ∧ ∀ j, didM K l0 l1 l2 en (t + 1) j = didM K l0 l1 l2 en t j) ∨
    ∃ (k : Nat) (c : SCome) (x : SCrit) (b : Int), ComeIs l0 l1 l2 k c x b ∧ candM c x (endM K l0 l1 l2 en t k) (turnedM K l0 l1 l2 en t) (t : Int) ∧ (∀ (j : Nat) (c' : SCome) (x' : SCrit) (b' : Int), ComeIs l0 l1 l2 j c' x' b' → candM c' x' (endM K l0 l1 l2 en t j) (turnedM K l0 l1 l2 en t) (t : Int) → x'.P ≤ x.P) ∧
      didM K l0 l1 l2 en (t + 1) k = didM K l0 l1 l2 en t k + 1 ∧ ∀ j, j ≠ k → didM K l0 l1 l2 en (t + 1) j = didM K l0 l1 l2 en t j := by
  rcases (simM_step h hen K hK ht).2 with ⟨g1, g2, _, _⟩ | ⟨k, c, x, b, g1, g2, g3, g4, g5, _, _⟩
  · refine .inl ⟨g1, fun j => ?_⟩
    unfold didM; rw [g2]
  · exact .inr ⟨k, c, x, b, g1, g2, g3, g4, fun j hj => (g5 j hj).1⟩
/-- each job is done so soon -/
theorem keepsM (apart : ∀ (i j : Nat) (a b : SCome) (m : SCrit), i < j → l1[i]? = some a → l1[j]? = some b → a.Task = b.Task → l0[b.Task.toNat]? = some m → a.At + m.T ≤ b.At) {k : Nat} {c : SCome} {x : SCrit} {b : Int} (hC : ComeIs l0 l1 l2 k c x b) (hw : wellOf l0 x ≠ 0) (hv : x.High = true → illOf l0 x ≠ 0) (hD : c.At + x.D ≤ en) :
    (1 ≤ endM K l0 l1 l2 en en k ∧ endM K l0 l1 l2 en en k ≤ c.At + wellOf l0 x) ∨
    ((x.High = true → 1 ≤ endM K l0 l1 l2 en en k ∧ endM K l0 l1 l2 en en k ≤ c.At + illOf l0 x) ∧ 0 ≤ turnedM K l0 l1 l2 en en ∧ turnedM K l0 l1 l2 en en ≤ c.At + wellOf l0 x) := by
  have hcl := h.crit.len
  have hok := h.crit.each
  have hinv := fun t ht => simM_inv h hen K hK t ht
  obtain ⟨w1, w2, w3, _⟩ := settled_pos hw
  change 1 ≤ wellOf l0 x at w1
  change wellOf l0 x ≤ x.D at w2
  change x.C + lowSum l0 x.P (wellOf l0 x) l0.length ≤ wellOf l0 x at w3
  obtain ⟨w, hwe⟩ := Int.eq_ofNat_of_zero_le (show 0 ≤ wellOf l0 x by omega)
  rw [hwe] at w1 w2 w3
  have hxs := hC.ok.small
  have hat := hC.at_
  have hDT := hC.ok.D
  have hil := lt_of_get hC.task
  have hr := atM_some hC.come
  let H : Nat → Prop := fun j => ∃ c' x' b', ComeIs l0 l1 l2 j c' x' b' ∧ x.P ≤ x'.P
  obtain ⟨t0, ht0, hid, hlast⟩ := exists_last (p := fun t => ∀ (j : Nat) (c' : SCome) (x' : SCrit) (b' : Int), ComeIs l0 l1 l2 j c' x' b' → x.P ≤ x'.P → atM l1 j < t → ¬ (endM K l0 l1 l2 en t j < 0 ∧ (turnedM K l0 l1 l2 en t < 0 ∨ x'.High = true))) (atM l1 k) (fun j _ _ _ _ _ hlt => by omega)
  -- of each kind, so much comes in so long a time
  have kindLe : ∀ (o : Nat) (m : SCrit), l0[o]? = some m → ∀ (u : Nat), 1 ≤ u → ∀ (q : Nat → Prop) [DecidablePred q] (f : Nat → Int) (M : Int), 0 ≤ M → (∀ j, j < l1.length → taskM l1 j = o → q j → f j ≤ M ∧ (0 < f j → t0 ≤ atM l1 j ∧ atM l1 j < t0 + u)) → sumN (fun j => if taskM l1 j = o ∧ q j then f j else 0) l1.length ≤ ceilD u m.T * M := fun o m hm u hu q _ f M hM hf => by
    have hms := (hok m (List.mem_of_getElem? hm)).small
    have hsp := spaced (n := l1.length) (q := fun j => taskM l1 j = o) (r := atM l1) (a := fun j => match l1[j]? with | some c => c.At | none => 0) (c := fun _ => M) (C := M) (T := m.T) (J := 0) (by omega) hM (fun j _ _ => Int.le_refl _) (fun j hj he => by
      obtain ⟨c', x', b', hJ⟩ := h.at_ j hj
      have := hJ.at_
      rw [atM_some hJ.come, hJ.come]
      simp only
      omega) (fun i j hij hj he1 he2 => by
      obtain ⟨c1, x1, b1, h1⟩ := h.at_ i (by omega)
      obtain ⟨c2, x2, b2, h2⟩ := h.at_ j hj
      have e1 := taskM_some h1.come; have e2 := taskM_some h2.come
      have q1 := h1.task0; have q2 := h2.task0
      have ht2 := h2.task
      rw [← e2, he2, hm] at ht2
      cases ht2
      have := apart i j c1 c2 m hij h1.come h2.come (by omega) (by rw [← e2, he2]; exact hm)
      simp only [h1.come, h2.come]
      exact this) t0 u hu (by omega)
    have e : ((u : Int) + 0 + m.T - 1) / m.T = ceilD u m.T := by unfold ceilD; rw [Int.add_zero]
    rw [e] at hsp
    refine Int.le_trans (sumN_le fun j hj => ?_) hsp
    by_cases hc : taskM l1 j = o ∧ q j
    · rw [if_pos hc]
      have hfj := hf j hj hc.1 hc.2
      by_cases hpos : 0 < f j
      · rw [if_pos ⟨hc.1, hfj.2 hpos⟩]; exact hfj.1
      · split <;> omega
    · rw [if_neg hc]
      split <;> omega
  have hqtask : ∀ j, j < l1.length → taskM l1 j < l0.length := fun j hj => by
    obtain ⟨c', x', b', hJ⟩ := h.at_ j hj
    rw [taskM_some hJ.come]
    exact lt_of_get hJ.task
  have hPo : ∀ (o : Nat) (m : SCrit), l0[o]? = some m → o ≠ c.Task.toNat → m.P ≠ x.P := fun o m hm hne => by
    rcases Nat.lt_or_gt_of_ne hne with hlt | hlt
    · exact h.crit.other o c.Task.toNat m x hlt hm hC.task
    · exact fun he => h.crit.other c.Task.toNat o x m hlt hC.task hm he.symm
  have one : ∀ u : Nat, 1 ≤ u → (u : Int) ≤ x.D → ceilD u x.T = 1 := fun u hu1 hu2 => by
    unfold ceilD
    have e : (u : Int) + x.T - 1 = (u - 1) + x.T * 1 := by omega
    rw [e, Int.add_mul_ediv_left _ _ (by omega), Int.ediv_eq_zero_of_lt (by omega) (by omega)]
    rfl
  have htask : ∀ {j : Nat} {c' : SCome} {x' : SCrit} {b' : Int} {o : Nat} {m : SCrit}, ComeIs l0 l1 l2 j c' x' b' → l0[o]? = some m → taskM l1 j = o → x' = m := fun hJ hm he => by
    have h1 := hJ.task
    rw [← taskM_some hJ.come, he, hm] at h1
    cases h1; rfl
  by_cases hturn : turnedM K l0 l1 l2 en (t0 + w) < 0
  · -- all is well
    left
    have hneg : ∀ t, t ≤ t0 + w → turnedM K l0 l1 l2 en t < 0 := fun t ht => by
      by_cases h0 : 0 ≤ turnedM K l0 l1 l2 en t
      · have := turned_keep h hen K hK ht (by omega) h0; omega
      · omega
    let L : Nat → Nat → Int := fun t j => match l1[j]?, l2[j]? with
      | some c', some b' => (match l0[c'.Task.toNat]? with | some x' => min b' x'.C - didM K l0 l1 l2 en t j | none => 0)
      | _, _ => 0
    have hL : ∀ {j c' x' b'} (t : Nat), ComeIs l0 l1 l2 j c' x' b' → L t j = min b' x'.C - didM K l0 l1 l2 en t j := fun t hJ => by
      simp only [L, hJ.come, hJ.takes, hJ.task]
    have facts : ∀ {j c' x' b'} (t : Nat), t ≤ t0 + w → ComeIs l0 l1 l2 j c' x' b' → 0 ≤ didM K l0 l1 l2 en t j ∧ didM K l0 l1 l2 en t j ≤ b' ∧ didM K l0 l1 l2 en t j ≤ x'.C ∧ (didM K l0 l1 l2 en t j < b' → didM K l0 l1 l2 en t j < x'.C) ∧ (endM K l0 l1 l2 en t j < 0 ↔ didM K l0 l1 l2 en t j < b') := fun t ht hJ => by
      have h1 := (hinv t (by omega)).each _ _ _ _ hJ
      have h2 := (hinv t (by omega)).calm (hneg t ht) _ _ _ _ hJ
      have e1 : ∀ j, endM K l0 l1 l2 en t j = (simM K l0 l1 l2 en t).2.2.2.1.getD j 0 := fun _ => rfl
      have e2 : ∀ j, didM K l0 l1 l2 en t j = (simM K l0 l1 l2 en t).2.1.getD j 0 := fun _ => rfl
      rw [e1, e2]
      refine ⟨h1.1, h1.2.1, h2.1, h2.2, fun hx => (h1.2.2.1 hx).1, fun hx => ?_⟩
      apply Int.not_le.1
      intro hge
      have := (h1.2.2.2 hge).1
      omega
    obtain ⟨d, hd1, hd2, hd3⟩ := busyCore (n := l1.length) (L := L) (H := H) (r := atM l1) t0 w (by omega) (fun t j _ ht hj => by
      obtain ⟨c', x', b', hJ⟩ := h.at_ j hj
      have := facts t ht hJ
      rw [hL t hJ]; omega) (fun t j _ ht hj _ h0 => by
      obtain ⟨c', x', b', hJ⟩ := h.at_ j hj
      have hf := facts t (by omega) hJ
      rw [hL t hJ] at h0
      rw [hL (t + 1) hJ]
      rcases tick_cases h hen K hK (show t < en by omega) with ⟨_, g⟩ | ⟨k2, c2, x2, b2, g1, g2, _, _, g3⟩
      · rw [g]; exact h0
      · have hjk : j ≠ k2 := by
          rintro rfl
          have := g2.2.1
          omega
        rw [g3 j hjk]; exact h0) (fun j hj ⟨c', x', b', hJ, hP⟩ hlt => by
      have h1 := hid j c' x' b' hJ hP hlt
      have hf := facts t0 (by omega) hJ
      have hn := hneg t0 (by omega)
      rw [hL t0 hJ]
      by_cases he : endM K l0 l1 l2 en t0 j < 0
      · exact absurd ⟨he, .inl hn⟩ h1
      · omega) (fun t _ ht ⟨j, hj, ⟨c', x', b', hJ, hP⟩, hrj, hLj⟩ => by
      rw [hL t hJ] at hLj
      have hf := facts t (by omega) hJ
      rw [atM_some hJ.come] at hrj
      have hA := hJ.at_
      have hcand : candM c' x' (endM K l0 l1 l2 en t j) (turnedM K l0 l1 l2 en t) (t : Int) := ⟨by omega, by omega, .inl (hneg t (by omega))⟩
      rcases tick_cases h hen K hK (show t < en by omega) with ⟨g, _⟩ | ⟨k2, c2, x2, b2, g1, g2, g3, g4, g5⟩
      · exact absurd hcand (g j c' x' b' hJ)
      · have hP2 := g3 j c' x' b' hJ hcand
        have hf2 := facts t (by omega) g1
        have hA2 := g1.at_
        have hc2 := g2.1
        have he2 := g2.2.1
        refine ⟨k2, lt_of_get g1.come, ⟨c2, x2, b2, g1, by omega⟩, by rw [atM_some g1.come]; omega, by rw [hL t g1]; omega, by rw [hL t g1, hL (t + 1) g1, g4]; omega, fun i hi hne => ?_⟩
        obtain ⟨c3, x3, b3, hJ3⟩ := h.at_ i hi
        rw [hL t hJ3, hL (t + 1) hJ3, g5 i hne]
        exact Int.le_refl _) (M := (w : Int)) (Int.le_refl _) (fun q _ hq => by
      have hmain : sumN (fun j => if q j then L t0 j else 0) l1.length ≤ sumN (fun o => (if o = c.Task.toNat then x.C else 0) + (match l0[o]? with | some t => if t.P > x.P then ceilD w t.T * t.C else 0 | none => 0)) l0.length := by
        refine sumTasks (pr := taskM l1) (fun j hj _ => hqtask j hj) (fun o ho => ?_)
        have hmo : l0[o]? = some l0[o] := List.getElem?_eq_getElem ho
        have hms := (hok _ (List.getElem_mem ho)).small
        generalize l0[o] = m at hmo hms
        simp only [hmo]
        have hk := kindLe o m hmo w (by omega) q (L t0) m.C (by omega) (fun j hj he hqj => by
          obtain ⟨c', x', b', hJ⟩ := h.at_ j hj
          obtain rfl := htask hJ hmo he
          have hf := facts t0 (by omega) hJ
          refine ⟨by rw [hL t0 hJ]; omega, fun _ => (hq j hqj).2⟩)
        by_cases hoi : o = c.Task.toNat
        · subst hoi
          rw [hC.task] at hmo
          cases hmo
          rw [if_pos rfl, if_neg (by omega)]
          rw [one w (by omega) w2] at hk
          omega
        · rw [if_neg hoi]
          by_cases hP : m.P > x.P
          · rw [if_pos hP]; omega
          · rw [if_neg hP]
            have hne := hPo o m hmo hoi
            rw [sumN_zero (fun j hj => if_neg (fun hx => by
              obtain ⟨⟨c', x', b', hJ, hP'⟩, _⟩ := hq j hx.2
              obtain rfl := htask hJ hmo hx.1
              omega))]
            omega
      rw [sumN_add, sumN_pick (f := fun o => if o = c.Task.toNat then x.C else 0) hil (fun j _ hne => if_neg hne), if_pos rfl, ← lowSum_sumN] at hmain
      omega)
    have hp : ∀ (j : Nat) (c' : SCome) (x' : SCrit) (b' : Int), ComeIs l0 l1 l2 j c' x' b' → x.P ≤ x'.P → atM l1 j < t0 + d → 0 ≤ endM K l0 l1 l2 en (t0 + d) j := fun j c' x' b' hJ hP hlt => by
      have h0 := hd3 j (lt_of_get hJ.come) ⟨c', x', b', hJ, hP⟩ hlt
      rw [hL (t0 + d) hJ] at h0
      have hf := facts (t0 + d) (by omega) hJ
      apply Int.not_lt.1
      intro hneg
      omega
    have hrk : atM l1 k < t0 + d := by
      apply Nat.lt_of_not_le
      intro hle
      exact hlast (t0 + d) (by omega) hle (fun j c' x' b' hJ hP hlt hx => by have := hp j c' x' b' hJ hP hlt; omega)
    have he := hp k c x b hC (Int.le_refl _) hrk
    have hkeep := end_keep h hen K hK (show t0 + d ≤ en by omega) (Nat.le_refl _) he
    have hbd := ((hinv (t0 + d) (by omega)).each k c x b hC).2.2.2 he
    have e1 : endM K l0 l1 l2 en (t0 + d) k = (simM K l0 l1 l2 en (t0 + d)).2.2.2.1.getD k 0 := rfl
    rw [hkeep, e1, hwe]
    omega
  · -- the mode turned
    right
    have hturn0 : 0 ≤ turnedM K l0 l1 l2 en (t0 + w) := by omega
    have hTle : turnedM K l0 l1 l2 en (t0 + w) ≤ ((t0 + w : Nat) : Int) ∧ 1 ≤ turnedM K l0 l1 l2 en (t0 + w) := by
      have := (hinv (t0 + w) (by omega)).turned
      have e1 : turnedM K l0 l1 l2 en (t0 + w) = (simM K l0 l1 l2 en (t0 + w)).2.2.2.2 := rfl
      rw [e1] at hturn0 ⊢
      omega
    have hTen := turned_keep h hen K hK (show t0 + w ≤ en by omega) (Nat.le_refl _) hturn0
    refine ⟨fun hH => ?_, by omega, by omega⟩
    obtain ⟨τ, hτ⟩ := Int.eq_ofNat_of_zero_le hturn0
    rw [hτ] at hTle
    have hv := hv hH
    obtain ⟨v1, v2, v3, _⟩ := settled_pos hv
    change 1 ≤ illOf l0 x at v1
    change illOf l0 x ≤ x.D at v2
    change x.H + highSum l0 x.P (wellOf l0 x) (illOf l0 x) l0.length ≤ illOf l0 x at v3
    obtain ⟨v, hve⟩ := Int.eq_ofNat_of_zero_le (show 0 ≤ illOf l0 x by omega)
    rw [hve, hwe] at v3
    rw [hve] at v1 v2
    have tneg : ∀ t, t < τ → turnedM K l0 l1 l2 en t < 0 := fun t ht => by
      apply Int.not_le.1
      intro h0
      have h1 := turned_keep h hen K hK (show t ≤ t0 + w by omega) (by omega) h0
      have h2 := (hinv t (by omega)).turned
      have e1 : turnedM K l0 l1 l2 en t = (simM K l0 l1 l2 en t).2.2.2.2 := rfl
      omega
    have tpos : ∀ t, τ ≤ t → t ≤ en → 0 ≤ turnedM K l0 l1 l2 en t := fun t h1 h2 => by
      apply Int.not_lt.1
      intro h0
      by_cases h3 : t ≤ t0 + w
      · have := turned_after h hen K hK h3 (by omega) h0 hturn0
        omega
      · have := turned_keep h hen K hK (show t0 + w ≤ t by omega) h2 hturn0
        omega
    let L : Nat → Nat → Int := fun t j => match l1[j]?, l2[j]? with
      | some c', some b' => (match l0[c'.Task.toNat]? with | some x' => if x'.High = false ∧ (τ ≤ t ∨ τ ≤ c'.At.toNat) then 0 else b' - didM K l0 l1 l2 en t j | none => 0)
      | _, _ => 0
    have hL : ∀ {j c' x' b'} (t : Nat), ComeIs l0 l1 l2 j c' x' b' → L t j = if x'.High = false ∧ (τ ≤ t ∨ τ ≤ c'.At.toNat) then 0 else b' - didM K l0 l1 l2 en t j := fun t hJ => by
      simp only [L, hJ.come, hJ.takes, hJ.task]
    have facts : ∀ {j c' x' b'} (t : Nat), t ≤ en → ComeIs l0 l1 l2 j c' x' b' → 0 ≤ didM K l0 l1 l2 en t j ∧ didM K l0 l1 l2 en t j ≤ b' ∧ (endM K l0 l1 l2 en t j < 0 ↔ didM K l0 l1 l2 en t j < b') := fun t ht hJ => by
      have h1 := (hinv t ht).each _ _ _ _ hJ
      have e1 : ∀ j, endM K l0 l1 l2 en t j = (simM K l0 l1 l2 en t).2.2.2.1.getD j 0 := fun _ => rfl
      have e2 : ∀ j, didM K l0 l1 l2 en t j = (simM K l0 l1 l2 en t).2.1.getD j 0 := fun _ => rfl
      rw [e1, e2]
      refine ⟨h1.1, h1.2.1, fun hx => (h1.2.2.1 hx).1, fun hx => ?_⟩
      apply Int.not_le.1
      intro hge
      have := (h1.2.2.2 hge).1
      omega
    have hlow : ∀ {j c' x' b'} (t : Nat), t ≤ en → ComeIs l0 l1 l2 j c' x' b' → 0 ≤ L t j ∧ L t j ≤ b' ∧ (0 < L t j → x'.High = false → t < τ ∧ c'.At.toNat < τ) := fun t ht hJ => by
      have := facts t ht hJ
      rw [hL t hJ]
      split
      · have := hJ.b; exact ⟨by omega, by omega, fun h => by omega⟩
      · rename_i hh
        refine ⟨by omega, by omega, fun _ hlo => ?_⟩
        refine ⟨Nat.lt_of_not_le fun hx => hh ⟨hlo, .inl hx⟩, Nat.lt_of_not_le fun hx => hh ⟨hlo, .inr hx⟩⟩
    obtain ⟨d, hd1, hd2, hd3⟩ := busyCore (n := l1.length) (L := L) (H := H) (r := atM l1) t0 v (by omega) (fun t j _ ht hj => by
      obtain ⟨c', x', b', hJ⟩ := h.at_ j hj
      exact (hlow t (by omega) hJ).1) (fun t j _ ht hj _ h0 => by
      obtain ⟨c', x', b', hJ⟩ := h.at_ j hj
      have hf := facts t (by omega) hJ
      rw [hL t hJ] at h0
      rw [hL (t + 1) hJ]
      by_cases hcond : x'.High = false ∧ (τ ≤ t ∨ τ ≤ c'.At.toNat)
      · rw [if_pos ⟨hcond.1, hcond.2.elim (fun h => .inl (by omega)) .inr⟩]
      · rw [if_neg hcond] at h0
        split
        · rfl
        · rcases tick_cases h hen K hK (show t < en by omega) with ⟨_, g⟩ | ⟨k2, c2, x2, b2, g1, g2, _, _, g3⟩
          · rw [g]; exact h0
          · have hjk : j ≠ k2 := by
              rintro rfl
              have := g2.2.1
              omega
            rw [g3 j hjk]; exact h0) (fun j hj ⟨c', x', b', hJ, hP⟩ hlt => by
      have h1 := hid j c' x' b' hJ hP hlt
      have hf := facts t0 (by omega) hJ
      rw [hL t0 hJ]
      split
      · rfl
      · rename_i hh
        by_cases he : endM K l0 l1 l2 en t0 j < 0
        · refine absurd ⟨he, ?_⟩ h1
          by_cases hHi : x'.High = true
          · exact .inr hHi
          · left
            refine tneg t0 (Nat.lt_of_not_le fun hx => hh ⟨by simpa using hHi, .inl hx⟩)
        · omega) (fun t _ ht ⟨j, hj, ⟨c', x', b', hJ, hP⟩, hrj, hLj⟩ => by
      have hl := hlow t (by omega) hJ
      have hf := facts t (by omega) hJ
      rw [atM_some hJ.come] at hrj
      have hA := hJ.at_
      have hor : turnedM K l0 l1 l2 en t < 0 ∨ x'.High = true := by
        by_cases hHi : x'.High = true
        · exact .inr hHi
        · exact .inl (tneg t (hl.2.2 hLj (by simpa using hHi)).1)
      have hdid : didM K l0 l1 l2 en t j < b' := by
        rw [hL t hJ] at hLj
        split at hLj <;> omega
      have hcand : candM c' x' (endM K l0 l1 l2 en t j) (turnedM K l0 l1 l2 en t) (t : Int) := ⟨by omega, by omega, hor⟩
      rcases tick_cases h hen K hK (show t < en by omega) with ⟨g, _⟩ | ⟨k2, c2, x2, b2, g1, g2, g3, g4, g5⟩
      · exact absurd hcand (g j c' x' b' hJ)
      · have hP2 := g3 j c' x' b' hJ hcand
        have hf2 := facts t (by omega) g1
        have hA2 := g1.at_
        have hc2 := g2.1
        have he2 := g2.2.1
        have hno : ¬ (x2.High = false ∧ (τ ≤ t ∨ τ ≤ c2.At.toNat)) := fun hx => by
          rcases g2.2.2 with ht' | ht'
          · have : t < τ := Nat.lt_of_not_le fun hle => by have := tpos t hle (by omega); omega
            rcases hx.2 with h' | h' <;> omega
          · rw [hx.1] at ht'; cases ht'
        have hLk : L t k2 = b2 - didM K l0 l1 l2 en t k2 := by rw [hL t g1, if_neg hno]
        refine ⟨k2, lt_of_get g1.come, ⟨c2, x2, b2, g1, by omega⟩, by rw [atM_some g1.come]; omega, by rw [hLk]; omega, ?_, fun i hi hne => ?_⟩
        · rw [hLk, hL (t + 1) g1, g4]
          split <;> omega
        · obtain ⟨c3, x3, b3, hJ3⟩ := h.at_ i hi
          have hf3 := facts t (by omega) hJ3
          rw [hL t hJ3, hL (t + 1) hJ3, g5 i hne]
          by_cases hcond : x3.High = false ∧ (τ ≤ t ∨ τ ≤ c3.At.toNat)
          · rw [if_pos hcond, if_pos ⟨hcond.1, hcond.2.elim (fun h => .inl (by omega)) .inr⟩]; exact Int.le_refl _
          · rw [if_neg hcond]; split <;> omega) (M := (v : Int)) (Int.le_refl _) (fun q _ hq => by
      have hmain : sumN (fun j => if q j then L t0 j else 0) l1.length ≤ sumN (fun o => (if o = c.Task.toNat then x.H else 0) + (match l0[o]? with | some t => if t.P ≤ x.P then 0 else if t.High = true then ceilD v t.T * t.H else ceilD w t.T * t.C | none => 0)) l0.length := by
        refine sumTasks (pr := taskM l1) (fun j hj _ => hqtask j hj) (fun o ho => ?_)
        have hmo : l0[o]? = some l0[o] := List.getElem?_eq_getElem ho
        have hmok := hok _ (List.getElem_mem ho)
        have hms := hmok.small
        generalize l0[o] = m at hmo hms hmok
        simp only [hmo]
        have hk := kindLe o m hmo v (by omega) q (L t0) m.H (by omega) (fun j hj he hqj => by
          obtain ⟨c', x', b', hJ⟩ := h.at_ j hj
          obtain rfl := htask hJ hmo he
          have hl := hlow t0 (by omega) hJ
          have := hJ.b
          exact ⟨by omega, fun _ => (hq j hqj).2⟩)
        by_cases hoi : o = c.Task.toNat
        · subst hoi
          rw [hC.task] at hmo
          cases hmo
          rw [if_pos rfl, if_pos (Int.le_refl _)]
          rw [one v (by omega) v2] at hk
          omega
        · rw [if_neg hoi]
          by_cases hP : m.P ≤ x.P
          · rw [if_pos hP]
            have hne := hPo o m hmo hoi
            rw [sumN_zero (fun j hj => if_neg (fun hx => by
              obtain ⟨⟨c', x', b', hJ, hP'⟩, _⟩ := hq j hx.2
              obtain rfl := htask hJ hmo hx.1
              omega))]
            omega
          · rw [if_neg hP]
            by_cases hHi : m.High = true
            · rw [if_pos hHi]; omega
            · rw [if_neg hHi]
              have hlo : m.High = false := by simpa using hHi
              have hHC := hmok.low hlo
              have hk2 := kindLe o m hmo w (by omega) q (L t0) m.C (by omega) (fun j hj he hqj => by
                obtain ⟨c', x', b', hJ⟩ := h.at_ j hj
                obtain rfl := htask hJ hmo he
                have hl := hlow t0 (by omega) hJ
                have := hJ.b
                refine ⟨by omega, fun hpos => ⟨(hq j hqj).2.1, ?_⟩⟩
                have := (hl.2.2 hpos hlo).2
                rw [atM_some hJ.come]
                omega)
              omega
      rw [sumN_add, sumN_pick (f := fun o => if o = c.Task.toNat then x.H else 0) hil (fun j _ hne => if_neg hne), if_pos rfl, ← highSum_sumN] at hmain
      omega)
    have hp : ∀ (j : Nat) (c' : SCome) (x' : SCrit) (b' : Int), ComeIs l0 l1 l2 j c' x' b' → x.P ≤ x'.P → atM l1 j < t0 + d → ¬ (endM K l0 l1 l2 en (t0 + d) j < 0 ∧ (turnedM K l0 l1 l2 en (t0 + d) < 0 ∨ x'.High = true)) := fun j c' x' b' hJ hP hlt hx => by
      have h0 := hd3 j (lt_of_get hJ.come) ⟨c', x', b', hJ, hP⟩ hlt
      rw [hL (t0 + d) hJ] at h0
      have hf := facts (t0 + d) (by omega) hJ
      have he := hx.1
      split at h0
      · rename_i hcond
        rcases hx.2 with h1 | h1
        · have hge : τ ≤ t0 + d := by
            rw [atM_some hJ.come] at hlt
            rcases hcond.2 with h' | h' <;> omega
          have := tpos (t0 + d) hge (by omega)
          omega
        · rw [hcond.1] at h1; cases h1
      · omega
    have hrk : atM l1 k < t0 + d := by
      apply Nat.lt_of_not_le
      intro hle
      exact hlast (t0 + d) (by omega) hle hp
    have he : 0 ≤ endM K l0 l1 l2 en (t0 + d) k := by
      apply Int.not_lt.1
      intro hneg
      exact hp k c x b hC (Int.le_refl _) hrk ⟨hneg, .inr hH⟩
    have hkeep := end_keep h hen K hK (show t0 + d ≤ en by omega) (Nat.le_refl _) he
    have hbd := ((hinv (t0 + d) (by omega)).each k c x b hC).2.2.2 he
    have e1 : endM K l0 l1 l2 en (t0 + d) k = (simM K l0 l1 l2 en (t0 + d)).2.2.2.1.getD k 0 := rfl
    rw [hkeep, e1, hve]
    omega
end

/-- what is played where the law's guards let it in -/
theorem modesPlay_eq (l0 : List SCrit) (l1 : List SCome) (l2 : List Int) (hc : CritOk l0) (h300 : l1.length ≤ 300) (hin : ∀ (j : Nat) (c : SCome), l1[j]? = some c → 0 ≤ c.Task ∧ c.Task < (l0.length : Int) ∧ 0 ≤ c.At ∧ c.At ≤ 2000) (en : Nat) (hen : en ≤ 3000) (K : Nat) (hK : 20010 ≤ K) (hf : modes_Check.f K l0 = some ⟨0, 0⟩) :
    (∃ q f, modes_Play.f K l0 l1 l2 (en : Int) = some (q, f) ∧ (f.Code = 2 ∨ f.Code = 3)) ∨ (ComesOk l0 l1 l2 ∧ ∃ runs, modes_Play.f K l0 l1 l2 (en : Int) = some (⟨⟨runs, (simM K l0 l1 l2 en en).2.2.2.1⟩, turnedM K l0 l1 l2 en en⟩, ⟨0, 0⟩)) := by
  unfold modes_Play.f
  rw [hf]
  simp only [if_true]
  by_cases hl : l2.length = l1.length
  · have hp0 : modes_Play.p0 l1 l2 = some (.inl ()) := by
      unfold modes_Play.p0
      rw [if_neg (by omega), if_pos (by omega)]
    have hp1 : modes_Play.p1 (en : Int) = some (.inl ()) := by
      unfold modes_Play.p1
      rw [if_neg (by omega), if_neg (by omega)]
    rw [hp0]
    simp only
    rw [hp1]
    simp only
    have hr2 := iter_first0 (ρ := SModal × SFault) (τ := Unit) (f := modes_Play.r2 l0 l1 l2) (fun i => match l1[i]?, l2[i]? with
      | some c, some b => (match l0[c.Task.toNat]? with | some x => if b < 1 ∨ b > x.H then some (⟨⟨[], []⟩, 0⟩, ⟨3, i⟩) else none | none => none)
      | _, _ => none) l1.length (t := ()) (fun i hi => by
      have hi' : (i : Int) < (l1.length : Int) := by omega
      have hx : l1[i]? = some l1[i] := List.getElem?_eq_getElem hi
      have hb : l2[i]? = some (l2[i]'(by omega)) := List.getElem?_eq_getElem _
      generalize l1[i] = c at hx
      generalize l2[i]'(by omega) = b at hb
      obtain ⟨g1, g2, g3, g4⟩ := hin i c hx
      have ht : l0[c.Task.toNat]? = some (l0[c.Task.toNat]'(by omega)) := List.getElem?_eq_getElem _
      generalize l0[c.Task.toNat]'(by omega) = x at ht
      simp only [modes_Play.r2, if_pos hi', hx, hb, ht]
      rw [if_neg (by omega), if_neg (by omega), if_neg (by omega), if_neg (by omega)]
      by_cases h1 : b < 1
      · rw [if_pos h1, if_pos (.inl h1)]; rfl
      rw [if_neg h1, if_pos g1]
      by_cases h2 : b > x.H
      · rw [if_pos h2, if_pos (.inr h2)]; rfl
      · rw [if_neg h2, if_neg (by omega)]; rfl) (by simp [modes_Play.r2]) (K := K) (by omega)
    rw [hr2]
    cases hfst : firstOf (fun i => match l1[i]?, l2[i]? with
      | some c, some b => (match l0[c.Task.toNat]? with | some x => if b < 1 ∨ b > x.H then some ((⟨⟨[], []⟩, 0⟩ : SModal), (⟨3, i⟩ : SFault)) else none | none => none)
      | _, _ => none) l1.length 0 with
    | some r =>
      left
      obtain ⟨i, _, _, hg, _⟩ := firstOf_some hfst
      refine ⟨r.1, r.2, rfl, .inr ?_⟩
      repeat' split at hg
      all_goals first | (cases hg; rfl) | cases hg
    | none =>
      right
      have h : ComesOk l0 l1 l2 := by
        refine ⟨hc, by omega, hl, fun j hj => ?_⟩
        have hx : l1[j]? = some l1[j] := List.getElem?_eq_getElem hj
        have hb : l2[j]? = some (l2[j]'(by omega)) := List.getElem?_eq_getElem _
        obtain ⟨g1, g2, g3, g4⟩ := hin j _ hx
        have ht : l0[l1[j].Task.toNat]? = some (l0[l1[j].Task.toNat]'(by omega)) := List.getElem?_eq_getElem _
        have := firstOf_none hfst j (Nat.zero_le _) hj
        simp only [hx, hb, ht] at this
        split at this
        · cases this
        · exact ⟨_, _, _, hx, ht, g1, hb, by omega, by omega, hc.each _ (List.mem_of_getElem? ht)⟩
      refine ⟨h, ?_⟩
      simp only [leave]
      have hp3 : modes_Play.p3 l1 (en : Int) = some (.inl (List.replicate en 0, List.replicate l1.length 0, -1)) := by
        unfold modes_Play.p3
        rw [if_pos (by omega), if_pos (by omega), if_pos (by omega), Int.toNat_natCast]
      rw [hp3]
      simp only
      rw [if_pos (by omega)]
      have hr4 := iter_states (ρ := SModal × SFault) (f := modes_Play.r4 l1) (fun i => (i, List.replicate i (-1) ++ List.replicate (l1.length - i) 0)) (fun _ => none) l1.length (t := List.replicate l1.length (-1)) (fun i hi _ => by
        have hi' : (i : Int) < (l1.length : Int) := by omega
        have e2 : (List.replicate i (-1) ++ List.replicate (l1.length - i) (0 : Int))[i]? = some 0 := by
          rw [List.getElem?_append_right (by simp), List.length_replicate, Nat.sub_self, show l1.length - i = (l1.length - (i + 1)) + 1 by omega, List.replicate_succ]; rfl
        have e4 : (List.replicate i (-1) ++ List.replicate (l1.length - i) (0 : Int)).set i (-1) = List.replicate (i + 1) (-1) ++ List.replicate (l1.length - (i + 1)) 0 := by
          rw [List.set_append_right _ _ (by simp), List.length_replicate, Nat.sub_self, show l1.length - i = (l1.length - (i + 1)) + 1 by omega, List.replicate_succ (n := l1.length - (i + 1)), List.set_cons_zero, List.replicate_succ' (n := i)]
          simp
        simp only [modes_Play.r4, if_pos hi', e2, e4, onwardS]) (fun _ => by simp [modes_Play.r4]) (K := K) (by omega)
      have h0 : (0, List.replicate l1.length (0 : Int)) = (0, List.replicate 0 (-1) ++ List.replicate (l1.length - 0) 0) := by simp
      rw [h0, hr4, firstOf_none_of (fun _ _ _ => rfl)]
      simp only [leave]
      have hr5 := iter_states (ρ := SModal × SFault) (f := modes_Play.r5 K l0 l1 l2 (en : Int)) (fun t => simM K l0 l1 l2 en t) (fun _ => none) en (t := ((simM K l0 l1 l2 en en).2.2.1, (simM K l0 l1 l2 en en).2.2.2.1, (simM K l0 l1 l2 en en).2.2.2.2)) (fun t ht _ => (simM_step h (by omega) K (by omega) ht).1) (fun _ => by
        have hI := simM_inv h (show en ≤ 20000 by omega) K (by omega) en (Nat.le_refl _)
        have ht := hI.tick
        generalize simM K l0 l1 l2 en en = s at ht
        obtain ⟨z, a1, a2, a3, a4⟩ := s
        simp only at ht
        subst ht
        simp [modes_Play.r5]) (K := K) (by omega)
      have h1 : ((0 : Int), List.replicate l1.length (0 : Int), List.replicate en (0 : Int), List.replicate l1.length (-1 : Int), (-1 : Int)) = simM K l0 l1 l2 en 0 := rfl
      rw [h1, hr5, firstOf_none_of (fun _ _ _ => rfl)]
      exact ⟨_, rfl⟩
  · left
    have hp0 : modes_Play.p0 l1 l2 = some (.inr (⟨⟨[], []⟩, 0⟩, ⟨2, 0⟩)) := by
      unfold modes_Play.p0
      repeat' split
      all_goals first | rfl | omega
    rw [hp0]
    exact ⟨_, _, rfl, .inl rfl⟩
/-- what the first i comings must be -/
def CameTill (l0 : List SCrit) (l1 : List SCome) (z : Int) (i : Nat) : Prop :=
  0 ≤ z ∧ ∀ (j : Nat) (c : SCome), j < i → l1[j]? = some c → 0 ≤ c.Task ∧ c.Task < (l0.length : Int) ∧ 0 ≤ c.At ∧ c.At ≤ 2000 ∧ (∀ (o : Nat) (d : SCome) (m : SCrit), o < j → l1[o]? = some d → d.Task = c.Task → l0[c.Task.toNat]? = some m → d.At + m.T ≤ c.At) ∧ ∀ m, l0[c.Task.toNat]? = some m → c.At + m.D ≤ z
theorem came_eq (l0 : List SCrit) (l1 : List SCome) (hc : CritOk l0) (h300 : l1.length ≤ 300) (K : Nat) (hK : 310 ≤ K) : iter (ModesKeep.r1 K l0 l1) K (0, 0) = some (.inr true) ∨ ∃ z, iter (ModesKeep.r1 K l0 l1) K (0, 0) = some (.inl z) ∧ CameTill l0 l1 z l1.length := by
  obtain ⟨r, hr, hR⟩ := iter_count (f := ModesKeep.r1 K l0 l1) (fun z i => CameTill l0 l1 z i) l1.length (fun r => r = .inr true ∨ ∃ z, r = .inl z ∧ CameTill l0 l1 z l1.length) (fun z i hi hI => by
    have hi' : (i : Int) < (l1.length : Int) := by omega
    have hx : l1[i]? = some l1[i] := List.getElem?_eq_getElem hi
    generalize l1[i] = e at hx
    simp only [ModesKeep.r1, if_pos hi', hx]
    by_cases hbad : e.Task < 0 ∨ e.Task ≥ (l0.length : Int) ∨ e.At < 0 ∨ e.At > 2000
    · right
      have hp2 : ModesKeep.p2 l0 e = some (.inr true) := by
        unfold ModesKeep.p2
        repeat' split
        all_goals first | rfl | omega
      rw [hp2]
      exact ⟨_, rfl, .inl rfl⟩
    · have hp2 : ModesKeep.p2 l0 e = some (.inl ()) := by
        unfold ModesKeep.p2
        rw [if_neg (by omega), if_neg (by omega), if_neg (by omega), if_neg (by omega)]
      rw [hp2]
      simp only
      rw [if_pos (by omega)]
      have hmx : l0[e.Task.toNat]? = some (l0[e.Task.toNat]'(by omega)) := List.getElem?_eq_getElem _
      have hms := (hc.each _ (List.mem_of_getElem? hmx)).small
      generalize l0[e.Task.toNat]'(by omega) = m at hmx hms
      have hlen : ((l1.take i).drop 0).length = i := by simp; omega
      have hin := iter_first0 (ρ := Bool) (τ := Unit) (f := ModesKeep.r3 l0 l1 i e) (fun o => match l1[o]? with | some d => if d.Task = e.Task ∧ IntKind.i64.wrap (e.At - d.At) < m.T then some true else none | none => none) i (t := ()) (fun o ho => by
        have ho' : (o : Int) < (((l1.take i).drop 0).length : Int) := by rw [hlen]; omega
        have hox : ((l1.take i).drop 0)[o]? = some (l1[o]'(by omega)) := by rw [List.drop_zero, List.getElem?_take_of_lt ho]; exact List.getElem?_eq_getElem (by omega)
        have hox2 : l1[o]? = some (l1[o]'(by omega)) := List.getElem?_eq_getElem (by omega)
        simp only [ModesKeep.r3, if_pos ho', hox, hox2, if_pos (show 0 ≤ e.Task by omega), hmx]
        by_cases g1 : (l1[o]'(by omega)).Task = e.Task
        · rw [if_pos g1]
          by_cases g2 : IntKind.i64.wrap (e.At - (l1[o]'(by omega)).At) < m.T
          · rw [if_pos g2, if_pos ⟨g1, g2⟩]; rfl
          · rw [if_neg g2, if_neg (fun h => g2 h.2)]; rfl
        · rw [if_neg g1, if_neg (fun h => g1 h.1)]; rfl) (by simp only [ModesKeep.r3]; rw [if_neg (by rw [hlen]; omega)]) (K := K) (by omega)
      rw [hin]
      cases hf : firstOf (fun o => match l1[o]? with | some d => if d.Task = e.Task ∧ IntKind.i64.wrap (e.At - d.At) < m.T then some true else none | none => none) i 0 with
      | some r =>
        right
        obtain ⟨j, _, _, hg, _⟩ := firstOf_some hf
        have hrt : r = true := by
          repeat' split at hg
          all_goals first | (cases hg; rfl) | cases hg
        subst hrt
        exact ⟨_, rfl, .inl rfl⟩
      | none =>
        left
        simp only [leave, if_pos (show 0 ≤ e.Task by omega), hmx]
        have hwr : IntKind.i64.wrap (e.At + m.D) = e.At + m.D := wrap64_small (by omega) (by omega)
        refine ⟨_, rfl, ?_, fun j c hj hc' => ?_⟩
        · have := hI.1; unfold gmax; split <;> omega
        · by_cases hji : j = i
          · subst hji
            rw [hx] at hc'
            cases hc'
            refine ⟨by omega, by omega, by omega, by omega, fun o d m' ho hd hdt hm' => ?_, fun m' hm' => ?_⟩
            · rw [hmx] at hm'
              cases hm'
              have hk := hI.2 o d (by omega) hd
              have := firstOf_none hf o (Nat.zero_le _) ho
              simp only [hd] at this
              split at this
              · cases this
              · rename_i hh
                rw [wrap64_small (by omega) (by omega)] at hh
                omega
            · rw [hmx] at hm'
              cases hm'
              rw [hwr]
              unfold gmax; split <;> omega
          · obtain ⟨k1, k2, k3, k4, k5, k6⟩ := hI.2 j c (by omega) hc'
            refine ⟨k1, k2, k3, k4, k5, fun m' hm' => ?_⟩
            have := k6 m' hm'
            unfold gmax; split <;> omega) (fun z hI => by
    refine ⟨.inl z, by simp [ModesKeep.r1], .inr ⟨z, rfl, hI⟩⟩) K 0 0 (Nat.zero_le _) ⟨Int.le_refl _, fun j c hj => by omega⟩ (by omega)
  rw [hr]
  rcases hR with rfl | ⟨z, rfl, hz⟩
  · exact .inl rfl
  · exact .inr ⟨z, rfl, hz⟩
theorem doneM_eq (runs ends : List Int) (turned : Int) (k : Nat) (c : SCome) (within : Int) (e : Int) (he : ends[k]? = some e) (hc : 0 ≤ c.At ∧ c.At ≤ 2000) (h1 : 1 ≤ e) (h2 : e ≤ c.At + within) (h3 : within ≤ 100000) : ModesKeep_1.f within runs ends turned (k : Int) c = some true := by
  unfold ModesKeep_1.f
  rw [if_pos (by omega), Int.toNat_natCast, he]
  simp only
  rw [if_pos (by omega), wrap64_small (by omega) (by omega), decide_eq_true (by omega)]
theorem ModesKeep_law (l0 : List SCrit) (l1 : List SCome) (l2 : List Int) (ok0 : ∀ y ∈ l0, Ok.ok y) (ok1 : ∀ y ∈ l1, Ok.ok y) (ok2 : ∀ y ∈ l2, Ok.ok y) : ∃ K, ModesKeep.f K l0 l1 l2 = some true := by
  refine ⟨18446744073709551616, ?_⟩
  have ha : turns.f 18446744073709551616 = some true := by kernel_rfl
  unfold ModesKeep.f
  simp only [ha, if_true]
  generalize hKd : 18446744073709551616 = K
  have hK : 20100 ≤ K := by omega
  clear hKd ha
  by_cases hf : few.f (l0.length : Int) = true ∧ l1.length ≤ 300
  · obtain ⟨f0, f1⟩ := hf
    have hp0 : ModesKeep.p0 l0 l1 = some (.inl ()) := by unfold ModesKeep.p0; rw [if_pos f0, if_neg (by omega)]
    obtain ⟨well, ill, f, hresp, hbad, hgood⟩ := critResp_eq l0 K (by omega)
    simp only [hp0, hresp]
    by_cases hc : f.Code = 0
    · rw [if_pos hc]
      obtain ⟨hchk, hcrit, hwl, hil, hwi⟩ := hgood hc
      rcases came_eq l0 l1 hcrit f1 K (by omega) with h1 | ⟨z, h1, hz0, hz⟩
      · rw [h1]
      · rw [h1]
        simp only
        by_cases hz3 : z > 3000
        · rw [if_pos hz3]
        rw [if_neg hz3]
        obtain ⟨en, rfl⟩ := Int.eq_ofNat_of_zero_le hz0
        rcases modesPlay_eq l0 l1 l2 hcrit f1 (fun j c hj => by have := hz j c (lt_of_get hj) hj; exact ⟨this.1, this.2.1, this.2.2.1, this.2.2.2.1⟩) en (by omega) K (by omega) hchk with ⟨q, f', hq, hf'⟩ | ⟨h, runs, hq⟩
        · rw [hq]
          simp only
          rw [if_neg (by omega)]
          have hp5 : ModesKeep.p5 (q, f') = some (.inl true) := by
            unfold ModesKeep.p5
            simp only
            rcases hf' with hf' | hf'
            · rw [if_pos hf']
            · rw [if_neg (by omega), hf']; rfl
          rw [hp5]
        · rw [hq]
          have hI := simM_inv h (show en ≤ 20000 by omega) K (by omega) en (Nat.le_refl _)
          have hel := hI.ends
          simp only [if_true, hel]
          have apart : ∀ (i j : Nat) (a b : SCome) (m : SCrit), i < j → l1[i]? = some a → l1[j]? = some b → a.Task = b.Task → l0[b.Task.toNat]? = some m → a.At + m.T ≤ b.At := fun i j a b m hij hai hbj hab hm =>
            (hz j b (lt_of_get hbj) hbj).2.2.2.2.1 i a m hij hai hab hm
          have hr4 := iter_first0 (ρ := Bool) (τ := Unit) (f := ModesKeep.r4 l0 l1 (well, ill, f) (⟨⟨runs, (simM K l0 l1 l2 en en).2.2.2.1⟩, turnedM K l0 l1 l2 en en⟩, ⟨0, 0⟩)) (fun _ => none) l1.length (t := ()) (fun j hj => by
            have hj' : (j : Int) < (l1.length : Int) := by omega
            obtain ⟨c, x, b, hC⟩ := h.at_ j hj
            obtain ⟨g1, g2, g3, g4, _, g6⟩ := hz j c hj hC.come
            obtain ⟨v, hwx, hvx, hw0, hv0⟩ := hwi _ x hC.task
            have hxs := hC.ok.small
            have hwp := settled_pos hw0
            have hwb : 1 ≤ wellOf l0 x ∧ wellOf l0 x ≤ x.D := ⟨hwp.1, hwp.2.1⟩
            have hk := keepsM h (show en ≤ 20000 by omega) K (by omega) apart hC hw0 (fun hH => (hv0 hH).2) (g6 x hC.task)
            have he : (simM K l0 l1 l2 en en).2.2.2.1[j]? = some (endM K l0 l1 l2 en en j) := get_of_lt (by omega)
            simp only [ModesKeep.r4, if_pos hj', hC.come, if_pos hC.task0, hC.task, hwx, hvx, gmax_eq]
            rw [wrap64_small (n := c.At + wellOf l0 x) (by omega) (by omega)]
            have dn : ∀ within, within ≤ 100000 → 1 ≤ endM K l0 l1 l2 en en j → endM K l0 l1 l2 en en j ≤ c.At + within → ModesKeep_1.f within runs (simM K l0 l1 l2 en en).2.2.2.1 (turnedM K l0 l1 l2 en en) (j : Int) c = some true := fun within hwi' h1 h2 => doneM_eq runs _ _ j c within _ he ⟨g3, g4⟩ h1 h2 hwi'
            by_cases hH : x.High = true
            · rw [if_pos hH]
              obtain ⟨rfl, hv1⟩ := hv0 hH
              have hvp := settled_pos hv1
              have hvb : 1 ≤ illOf l0 x ∧ illOf l0 x ≤ x.D := ⟨hvp.1, hvp.2.1⟩
              rcases hk with ⟨k1, k2⟩ | ⟨k1, k2, k3⟩
              · rw [dn (max (wellOf l0 x) (illOf l0 x)) (by omega) k1 (by omega)]
                simp only [if_true]
                rw [dn (wellOf l0 x) (by omega) k1 k2]
                simp only [if_true]
                by_cases ht : turnedM K l0 l1 l2 en en < 0
                · rw [if_pos ht]; rfl
                · rw [if_neg ht]
                  by_cases ht2 : turnedM K l0 l1 l2 en en > c.At + wellOf l0 x
                  · rw [if_pos ht2]; rfl
                  · rw [if_neg ht2]; rfl
              · obtain ⟨k4, k5⟩ := k1 hH
                rw [dn (max (wellOf l0 x) (illOf l0 x)) (by omega) k4 (by omega)]
                simp only [if_true]
                rw [if_neg (by omega), if_neg (by omega)]
                rfl
            · rw [if_neg hH]
              rcases hk with ⟨k1, k2⟩ | ⟨k1, k2, k3⟩
              · rw [dn (wellOf l0 x) (by omega) k1 k2]
                simp only [if_true]
                by_cases ht : turnedM K l0 l1 l2 en en < 0
                · rw [if_pos ht]; rfl
                · rw [if_neg ht]
                  by_cases ht2 : turnedM K l0 l1 l2 en en > c.At + wellOf l0 x
                  · rw [if_pos ht2]; rfl
                  · rw [if_neg ht2]; rfl
              · rw [if_neg (by omega), if_neg (by omega)]
                rfl) (by simp [ModesKeep.r4]) (K := K) (by omega)
          rw [hr4, firstOf_none_of (fun _ _ _ => rfl)]
          rfl
    · rw [if_neg hc]
      obtain ⟨rfl, rfl⟩ := hbad hc
      rfl
  · have hp0 : ModesKeep.p0 l0 l1 = some (.inr true) := by
      unfold ModesKeep.p0
      repeat' split
      all_goals first | rfl | (exfalso; exact hf ⟨by assumption, by omega⟩)
    simp only [hp0]

end Go.Proofs.Ytccfilmiboepjaa.GV
