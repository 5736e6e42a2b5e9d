/- Plain words: GvLWcetProves. -/
import Derived.Test.YtnckikjcjgmdlaaDoorGWWcetProves5
import Derived.Test.YtnckikjcjgmdlaaDoorGv17
namespace Go.Proofs.YtnckikjcjgmdlaaDoor.GV
open Go Go.RowKit
set_option linter.unusedVariables false
set_option linter.unusedSimpArgs false
theorem SIns.eqb_self (x : SIns) : SIns.eqb x x = true := by simp [SIns.eqb]
theorem SFault.eqb_self (x : SFault) : SFault.eqb x x = true := by simp [SFault.eqb]
theorem Sregion.eqb_self (x : Sregion) : Sregion.eqb x x = true := by simp [Sregion.eqb]
theorem punctualsame_Lend_api_Ins_some (l : List SIns) (a : SIns) (h : l.length ≤ 5000) : ∃ r, punctualsame_Lend_api_Ins.f l a = some r := by
  have hw : IntKind.i64.wrap ((l.length : Int) + 3) = (l.length : Int) + 3 := wrap64_small (by omega) (by omega)
  unfold punctualsame_Lend_api_Ins.f
  rw [hw, if_pos (by omega), if_pos (by omega), if_pos (by simp; omega), if_pos (by simp; omega)]
  exact ⟨_, rfl⟩
theorem punctualsame_Lend_api_Ins_someL (l : List SIns) (a : SIns) (h : l.length ≤ 5864062014802) : ∃ r, punctualsame_Lend_api_Ins.f l a = some r := by
  have hw : IntKind.i64.wrap ((l.length : Int) + 3) = (l.length : Int) + 3 := wrap64_small (by omega) (by omega)
  unfold punctualsame_Lend_api_Ins.f
  rw [hw, if_pos (by omega), if_pos (by omega), if_pos (by simp; omega), if_pos (by simp; omega)]
  exact ⟨_, rfl⟩
theorem punctualsame_Lend_int_some (l : List Int) (a : Int) (h : l.length ≤ 5000) : ∃ r, punctualsame_Lend_int.f l a = some r := by
  have hw : IntKind.i64.wrap ((l.length : Int) + 3) = (l.length : Int) + 3 := wrap64_small (by omega) (by omega)
  unfold punctualsame_Lend_int.f
  rw [hw, if_pos (by omega), if_pos (by omega), if_pos (by simp; omega), if_pos (by simp; omega)]
  exact ⟨_, rfl⟩
theorem punctualsame_Lend_int_someL (l : List Int) (a : Int) (h : l.length ≤ 17592186044413) : ∃ r, punctualsame_Lend_int.f l a = some r := by
  have hw : IntKind.i64.wrap ((l.length : Int) + 3) = (l.length : Int) + 3 := wrap64_small (by omega) (by omega)
  unfold punctualsame_Lend_int.f
  rw [hw, if_pos (by omega), if_pos (by omega), if_pos (by simp; omega), if_pos (by simp; omega)]
  exact ⟨_, rfl⟩
theorem punctualsame_Still_api_Ins_true (l : List SIns) (a : SIns) (K : Nat) (hl : l.length ≤ 5000) (hK : 5010 ≤ K) : punctualsame_Still_api_Ins.f K (l ++ [a, a, a]) l a = some true := by
  have hw : IntKind.i64.wrap ((l.length : Int) + 3) = (l.length : Int) + 3 := wrap64_small (by omega) (by omega)
  have hr := iter_first0 (f := punctualsame_Still_api_Ins.r0 (l ++ [a, a, a]) l a) (fun _ => none) (l.length + 3) (t := ()) (fun i hi => by
    have h' : (i : Int) < ((l ++ [a, a, a] : List SIns).length : Int) := by simp; omega
    simp only [punctualsame_Still_api_Ins.r0, if_pos h']
    by_cases h2 : i < l.length
    · have h2' : (i : Int) < (l.length : Int) := by omega
      have h3 : ¬ (i : Int) ≥ (l.length : Int) := by omega
      rw [List.getElem?_append_left h2, List.getElem?_eq_getElem h2]
      simp only [if_pos h2', SIns.eqb_self, if_true, if_neg h3, onward]
    · have h2' : ¬ (i : Int) < (l.length : Int) := by omega
      have h3 : (i : Int) ≥ (l.length : Int) := by omega
      rw [List.getElem?_append_right (by omega)]
      have : i - l.length = 0 ∨ i - l.length = 1 ∨ i - l.length = 2 := by omega
      rcases this with e | e | e <;> simp [e, h2', h3, onward, SIns.eqb_self]) (by
    have h' : ¬ ((l.length + 3 : Nat) : Int) < ((l ++ [a, a, a] : List SIns).length : Int) := by simp
    simp only [punctualsame_Still_api_Ins.r0, if_neg h']) (K := K) (by omega)
  rw [firstOf_none_of (fun _ _ _ => rfl)] at hr
  have hlen : IntKind.i64.wrap ((l.length : Int) + 3) = ((l ++ [a, a, a] : List SIns).length : Int) := by rw [hw]; simp
  simp only [punctualsame_Still_api_Ins.f, if_pos hlen, hr, leave]
theorem punctualsame_Still_api_Ins_trueL (l : List SIns) (a : SIns) (K : Nat) (hl : l.length ≤ 4611686018427387904) (hK : l.length + 4 ≤ K) : punctualsame_Still_api_Ins.f K (l ++ [a, a, a]) l a = some true := by
  have hw : IntKind.i64.wrap ((l.length : Int) + 3) = (l.length : Int) + 3 := wrap64_small (by omega) (by omega)
  have hr := iter_first0 (f := punctualsame_Still_api_Ins.r0 (l ++ [a, a, a]) l a) (fun _ => none) (l.length + 3) (t := ()) (fun i hi => by
    have h' : (i : Int) < ((l ++ [a, a, a] : List SIns).length : Int) := by simp; omega
    simp only [punctualsame_Still_api_Ins.r0, if_pos h']
    by_cases h2 : i < l.length
    · have h2' : (i : Int) < (l.length : Int) := by omega
      have h3 : ¬ (i : Int) ≥ (l.length : Int) := by omega
      rw [List.getElem?_append_left h2, List.getElem?_eq_getElem h2]
      simp only [if_pos h2', SIns.eqb_self, if_true, if_neg h3, onward]
    · have h2' : ¬ (i : Int) < (l.length : Int) := by omega
      have h3 : (i : Int) ≥ (l.length : Int) := by omega
      rw [List.getElem?_append_right (by omega)]
      have : i - l.length = 0 ∨ i - l.length = 1 ∨ i - l.length = 2 := by omega
      rcases this with e | e | e <;> simp [e, h2', h3, onward, SIns.eqb_self]) (by
    have h' : ¬ ((l.length + 3 : Nat) : Int) < ((l ++ [a, a, a] : List SIns).length : Int) := by simp
    simp only [punctualsame_Still_api_Ins.r0, if_neg h']) (K := K) (by omega)
  rw [firstOf_none_of (fun _ _ _ => rfl)] at hr
  have hlen : IntKind.i64.wrap ((l.length : Int) + 3) = ((l ++ [a, a, a] : List SIns).length : Int) := by rw [hw]; simp
  simp only [punctualsame_Still_api_Ins.f, if_pos hlen, hr, leave]
theorem punctualsame_Still_int_true (l : List Int) (a : Int) (K : Nat) (hl : l.length ≤ 5000) (hK : 5010 ≤ K) : punctualsame_Still_int.f K (l ++ [a, a, a]) l a = some true := by
  have hw : IntKind.i64.wrap ((l.length : Int) + 3) = (l.length : Int) + 3 := wrap64_small (by omega) (by omega)
  have hr := iter_first0 (f := punctualsame_Still_int.r0 (l ++ [a, a, a]) l a) (fun _ => none) (l.length + 3) (t := ()) (fun i hi => by
    have h' : (i : Int) < ((l ++ [a, a, a] : List Int).length : Int) := by simp; omega
    simp only [punctualsame_Still_int.r0, if_pos h']
    by_cases h2 : i < l.length
    · have h2' : (i : Int) < (l.length : Int) := by omega
      have h3 : ¬ (i : Int) ≥ (l.length : Int) := by omega
      rw [List.getElem?_append_left h2, List.getElem?_eq_getElem h2]
      simp only [if_pos h2', if_true, if_neg h3, onward]
    · have h2' : ¬ (i : Int) < (l.length : Int) := by omega
      have h3 : (i : Int) ≥ (l.length : Int) := by omega
      rw [List.getElem?_append_right (by omega)]
      have : i - l.length = 0 ∨ i - l.length = 1 ∨ i - l.length = 2 := by omega
      rcases this with e | e | e <;> simp [e, h2', h3, onward]) (by
    have h' : ¬ ((l.length + 3 : Nat) : Int) < ((l ++ [a, a, a] : List Int).length : Int) := by simp
    simp only [punctualsame_Still_int.r0, if_neg h']) (K := K) (by omega)
  rw [firstOf_none_of (fun _ _ _ => rfl)] at hr
  have hlen : IntKind.i64.wrap ((l.length : Int) + 3) = ((l ++ [a, a, a] : List Int).length : Int) := by rw [hw]; simp
  simp only [punctualsame_Still_int.f, if_pos hlen, hr, leave]
theorem punctualsame_Still_int_trueL (l : List Int) (a : Int) (K : Nat) (hl : l.length ≤ 4611686018427387904) (hK : l.length + 4 ≤ K) : punctualsame_Still_int.f K (l ++ [a, a, a]) l a = some true := by
  have hw : IntKind.i64.wrap ((l.length : Int) + 3) = (l.length : Int) + 3 := wrap64_small (by omega) (by omega)
  have hr := iter_first0 (f := punctualsame_Still_int.r0 (l ++ [a, a, a]) l a) (fun _ => none) (l.length + 3) (t := ()) (fun i hi => by
    have h' : (i : Int) < ((l ++ [a, a, a] : List Int).length : Int) := by simp; omega
    simp only [punctualsame_Still_int.r0, if_pos h']
    by_cases h2 : i < l.length
    · have h2' : (i : Int) < (l.length : Int) := by omega
      have h3 : ¬ (i : Int) ≥ (l.length : Int) := by omega
      rw [List.getElem?_append_left h2, List.getElem?_eq_getElem h2]
      simp only [if_pos h2', if_true, if_neg h3, onward]
    · have h2' : ¬ (i : Int) < (l.length : Int) := by omega
      have h3 : (i : Int) ≥ (l.length : Int) := by omega
      rw [List.getElem?_append_right (by omega)]
      have : i - l.length = 0 ∨ i - l.length = 1 ∨ i - l.length = 2 := by omega
      rcases this with e | e | e <;> simp [e, h2', h3, onward]) (by
    have h' : ¬ ((l.length + 3 : Nat) : Int) < ((l ++ [a, a, a] : List Int).length : Int) := by simp
    simp only [punctualsame_Still_int.r0, if_neg h']) (K := K) (by omega)
  rw [firstOf_none_of (fun _ _ _ => rfl)] at hr
  have hlen : IntKind.i64.wrap ((l.length : Int) + 3) = ((l ++ [a, a, a] : List Int).length : Int) := by rw [hw]; simp
  simp only [punctualsame_Still_int.f, if_pos hlen, hr, leave]
theorem exists_bound {α : Type} (f : α → Nat) : ∀ l : List α, ∃ B, ∀ x ∈ l, f x ≤ B
  | [] => ⟨0, by simp⟩
  | x :: l => by
    obtain ⟨B, h⟩ := exists_bound f l
    refine ⟨max (f x) B, fun y hy => ?_⟩
    rcases List.mem_cons.1 hy with rfl | hy
    · exact Nat.le_max_left _ _
    · exact Nat.le_trans (h y hy) (Nat.le_max_right _ _)
/-- a letter stands there -/
def letterAt (x : ByteArray) (i : Nat) : Bool := match x[i]? with | some b => decide (97 ≤ b.toNat) && decide (b.toNat ≤ 122) | none => false
def allL (x : ByteArray) (n : Nat) : Bool := (List.range n).all (letterAt x)
theorem allL_succ (x : ByteArray) (n : Nat) : allL x (n + 1) = (allL x n && letterAt x n) := by simp [allL, List.range_succ]
theorem allL_iff {x : ByteArray} {n : Nat} : allL x n = true ↔ ∀ i, i < n → letterAt x i = true := by simp [allL]
def Good (x : ByteArray) : Prop := 1 ≤ x.size ∧ x.size ≤ 10 ∧ allL x x.size = true
instance (x : ByteArray) : Decidable (Good x) := by unfold Good; infer_instance
theorem get!_of {x : ByteArray} {i : Nat} {b : UInt8} (h : x[i]? = some b) : x.get! i = b := by
  have hi : i < x.size := by
    rcases Nat.lt_or_ge i x.size with h' | h'
    · exact h'
    · rw [getElem?_neg x i (by omega)] at h; cases h
  rw [getElem?_pos x i hi] at h
  have := Option.some.inj h
  rw [← this]
  cases x with
  | mk bs => exact getElem!_pos bs i hi
theorem byte_some {x : ByteArray} {i : Nat} (h : i < x.size) : ∃ b, x[i]? = some b := ⟨x[i], getElem?_pos x i h⟩
theorem decode_letter {x : ByteArray} {i : Nat} (hi : i < x.size) (h : letterAt x i = true) : ∃ n : Nat, Utf8.decode x i = (n, 1) ∧ 97 ≤ n ∧ n ≤ 122 := by
  obtain ⟨b, hb⟩ := byte_some hi
  simp only [letterAt, hb, Bool.and_eq_true, decide_eq_true_eq] at h
  refine ⟨b.toNat, ?_, h⟩
  have := get!_of hb
  simp only [Utf8.decode, Nat.add_zero, this]
  rw [if_pos (by omega)]
theorem decode_other {x : ByteArray} {i : Nat} (hi : i < x.size) (h : letterAt x i = false) : (Utf8.decode x i).1 < 97 ∨ 122 < (Utf8.decode x i).1 := by
  obtain ⟨b, hb⟩ := byte_some hi
  simp only [letterAt, hb, Bool.and_eq_false_iff, decide_eq_false_iff_not] at h
  have := get!_of hb
  simp only [Utf8.decode, Nat.add_zero, this]
  have he : Utf8.runeError = 65533 := rfl
  repeat' split
  all_goals simp only [he, Bool.and_eq_true, decide_eq_true_eq, ge_iff_le] at *
  all_goals omega
theorem takedrop {α : Type} (l : List α) (i : Nat) : (l.take i).drop 0 = l.take i := by simp
theorem iter_succ {σ ρ : Type} (f : σ → Option (σ ⊕ ρ)) (K : Nat) (s : σ) : iter f (K + 1) s = match f s with | none => none | some (.inl s') => iter f K s' | some (.inr r) => some r := rfl
/-- an instruction whose numbers are operands -/
structure OkI (e : SIns) : Prop where
  op : 1 ≤ e.Op ∧ e.Op ≤ 18
  A : 0 ≤ e.A
  B : 0 ≤ e.B
  B13 : e.B ≤ 2000
  B1 : e.Op = 13 → e.B ≤ 1000
  A18 : e.Op = 18 → 1 ≤ e.A ∧ e.A ≤ 1000
  A3 : e.Op = 9 ∨ e.Op = 10 ∨ e.Op = 16 ∨ e.Op = 17 → e.A ≤ 3
  A7 : e.Op = 2 ∨ e.Op = 3 ∨ e.Op = 13 ∨ e.Op = 14 ∨ e.Op = 15 → e.A ≤ 7
theorem operand_eq (op : Int) (h : 1 ≤ op ∧ op ≤ 18) : ∃ a b, mach_operand.f op = some (a, b) ∧ b ≤ 2000 ∧ (op = 13 → b = 1000) ∧ (op = 18 → a = 1000) ∧ (op = 9 ∨ op = 10 ∨ op = 16 ∨ op = 17 → a = 3) ∧ (op = 2 ∨ op = 3 ∨ op = 13 ∨ op = 14 ∨ op = 15 → a = 7) := by
  have : op = 1 ∨ op = 2 ∨ op = 3 ∨ op = 4 ∨ op = 5 ∨ op = 6 ∨ op = 7 ∨ op = 8 ∨ op = 9 ∨ op = 10 ∨ op = 11 ∨ op = 12 ∨ op = 13 ∨ op = 14 ∨ op = 15 ∨ op = 16 ∨ op = 17 ∨ op = 18 := by omega
  rcases this with rfl | rfl | rfl | rfl | rfl | rfl | rfl | rfl | rfl | rfl | rfl | rfl | rfl | rfl | rfl | rfl | rfl | rfl <;> exact ⟨_, _, rfl, by decide, by decide, by decide, by decide, by decide⟩
theorem fits_iff (v m : Int) : mach_fits.f v m = true ↔ 0 ≤ v ∧ v ≤ max m 0 := by
  unfold mach_fits.f gmax
  split
  · rw [decide_eq_true_eq]
    constructor
    · intro h; refine ⟨by omega, ?_⟩; split at h <;> omega
    · intro h; split <;> omega
  · constructor
    · intro h; cases h
    · intro h; omega
theorem look_ins (l : List SIns) (K : Nat) (hK : l.length < K) : ∃ r, iter (mach_Look.r0 l) K 0 = some r ∧ ((r = .inl () ∧ ∀ (i : Nat) (e : SIns), l[i]? = some e → OkI e) ∨ ∃ s, r = .inr s ∧ s.2.Code ≠ 0) := by
  obtain ⟨r, hr, h⟩ := iter_total (f := mach_Look.r0 l) (fun i => i ≤ l.length ∧ ∀ (k : Nat) (e : SIns), k < i → l[k]? = some e → OkI e) (fun i => l.length - i)
    (fun r => (r = .inl () ∧ ∀ (i : Nat) (e : SIns), l[i]? = some e → OkI e) ∨ ∃ s, r = .inr s ∧ s.2.Code ≠ 0) (fun i ⟨hi, hI⟩ => by
    by_cases hlt : i < l.length
    · obtain ⟨e, he⟩ : ∃ e, l[i]? = some e := ⟨l[i], List.getElem?_eq_getElem hlt⟩
      simp only [mach_Look.r0, he]
      rw [if_pos (by omega)]
      by_cases h1 : e.Op < 1
      · rw [if_pos h1]; exact .inr ⟨_, rfl, .inr ⟨_, rfl, by simp [mach_Look_1.f]⟩⟩
      rw [if_neg h1]
      by_cases h2 : e.Op > 18
      · rw [if_pos h2]; exact .inr ⟨_, rfl, .inr ⟨_, rfl, by simp [mach_Look_1.f]⟩⟩
      rw [if_neg h2]
      obtain ⟨a, b, ho, hb, hb13, ha18, ha3, ha7⟩ := operand_eq e.Op ⟨by omega, by omega⟩
      simp only [ho]
      by_cases h3 : mach_fits.f e.A a = true
      · rw [if_pos h3]
        by_cases h4 : mach_fits.f e.B b = true
        · rw [if_pos h4]
          rw [fits_iff] at h3 h4
          have next : (e.Op = 18 → e.A ≠ 0) → i + 1 ≤ l.length ∧ ∀ (k : Nat) (e : SIns), k < i + 1 → l[k]? = some e → OkI e := fun h5 => ⟨hlt, fun k f hk hf => by
            by_cases hki : k = i
            · subst hki
              rw [he] at hf
              cases hf
              refine ⟨⟨by omega, by omega⟩, h3.1, h4.1, by omega, fun h6 => ?_, fun h6 => ?_, fun h6 => (by have := ha3 h6; omega), fun h6 => (by have := ha7 h6; omega)⟩
              · have := hb13 h6; omega
              · have := ha18 h6; have := h5 h6; omega
            · exact hI k f (by omega) hf⟩
          by_cases h5 : e.Op = 18
          · rw [if_pos h5]
            by_cases h6 : e.A = 0
            · rw [if_pos h6]; exact .inr ⟨_, rfl, .inr ⟨_, rfl, by simp [mach_Look_1.f]⟩⟩
            · rw [if_neg h6]; exact .inl ⟨_, rfl, next (fun _ => h6), by omega⟩
          · rw [if_neg h5]; exact .inl ⟨_, rfl, next (fun h => absurd h h5), by omega⟩
        · rw [if_neg h4]; exact .inr ⟨_, rfl, .inr ⟨_, rfl, by simp [mach_Look_1.f]⟩⟩
      · rw [if_neg h3]; exact .inr ⟨_, rfl, .inr ⟨_, rfl, by simp [mach_Look_1.f]⟩⟩
    · right
      simp only [mach_Look.r0]
      rw [if_neg (by omega)]
      exact ⟨_, rfl, .inl ⟨rfl, fun k e hk => hI k e (by have := lt_of_get hk; omega) hk⟩⟩) K 0 ⟨Nat.zero_le _, fun k e hk => by omega⟩ (by omega)
  exact ⟨r, hr, h⟩
/-- the region that is open -/
def topOf (open_ : List Int) : Int := open_.getLast?.getD (-1)
theorem top_eq (l : List SIns) (op inn : List Int) (m : List (Int × Int)) (hl : op.length ≤ 5000) : mach_looker_top.f l op inn m = some (topOf op) := by
  unfold mach_looker_top.f topOf
  rcases List.eq_nil_or_concat op with rfl | ⟨o, x, rfl⟩
  · rfl
  · simp only [List.concat_eq_append, List.length_append, List.length_cons, List.length_nil] at hl ⊢
    have e1 : IntKind.i64.wrap (((o.length + (0 + 1) : Nat) : Int) - 1) = (o.length : Int) := by rw [wrap64_small (by omega) (by omega)]; omega
    rw [if_neg (by omega), e1, if_pos (by omega), Int.toNat_natCast]
    simp
theorem holds_some (l : List SIns) (op inn : List Int) (m : List (Int × Int)) (x a : Int) (K : Nat) (hK : op.length < K) (ho : ∀ o ∈ op, 0 ≤ o ∧ o < (l.length : Int)) : ∃ b, mach_looker_holds.f K l op inn m x a = some b := by
  obtain ⟨r, hr, _⟩ := iter_total (f := mach_looker_holds.r0 l op x a) (fun i => i ≤ op.length) (fun i => op.length - i) (fun _ => True) (fun i hi => by
    by_cases hlt : i < op.length
    · obtain ⟨o, hoi⟩ : ∃ o, op[i]? = some o := ⟨op[i], List.getElem?_eq_getElem hlt⟩
      obtain ⟨h1, h2⟩ := ho o (List.mem_of_getElem? hoi)
      obtain ⟨e, he⟩ : ∃ e, l[o.toNat]? = some e := ⟨l[o.toNat]'(by omega), List.getElem?_eq_getElem (by omega)⟩
      simp only [mach_looker_holds.r0, hoi, he]
      rw [if_pos (by omega), if_pos h1]
      split
      · split
        · exact .inr ⟨_, rfl, trivial⟩
        · exact .inl ⟨_, rfl, hlt, by omega⟩
      · exact .inl ⟨_, rfl, hlt, by omega⟩
    · right
      simp only [mach_looker_holds.r0]
      rw [if_neg (by omega)]
      exact ⟨_, rfl, trivial⟩) K 0 (Nat.zero_le _) (by omega)
  unfold mach_looker_holds.f
  rw [hr]
  rcases r with r | r
  · exact ⟨_, rfl⟩
  · exact ⟨_, rfl⟩
theorem close_eq (l : List SIns) (o inn : List Int) (t : Int) (m : List (Int × Int)) (x : Int) (hl : o.length ≤ 4000) : mach_looker_close.f l (o ++ [t]) inn m x = some (o, mset m t x) := by
  unfold mach_looker_close.f mach_looker_close.p0
  rw [top_eq l _ inn m (by simp; omega)]
  have e1 : IntKind.i64.wrap (((o ++ [t]).length : Int) - 1) = (o.length : Int) := by
    simp only [List.length_append, List.length_cons, List.length_nil]
    rw [wrap64_small (by omega) (by omega)]; omega
  simp only [e1, Int.toNat_natCast]
  rw [if_pos (by omega), if_pos (by simp)]
  simp [topOf]
/-- what is known of regions ahead of an instruction -/
structure Regs (l : List SIns) (i : Nat) (op inn : List Int) (m : List (Int × Int)) : Prop where
  len : inn.length = l.length
  open_ : ∀ o ∈ op, ∃ (k : Nat) (e : SIns), o = (k : Int) ∧ k < i ∧ l[k]? = some e ∧ (e.Op = 13 ∨ e.Op = 16)
  up : op.Pairwise (fun a b : Int => a < b)
  small : op.length ≤ i
  shut : ∀ (k : Nat) (e : SIns), k < i → l[k]? = some e → (e.Op = 13 ∨ e.Op = 16) → (k : Int) ∈ op ∨ ∃ c : Nat, mget m (k : Int) = some (c : Int) ∧ k < c ∧ c < i
  back : ∀ (k : Nat) (e : SIns), k < i → l[k]? = some e → e.Op = 14 → 0 ≤ e.B ∧ e.B ≤ (l.length : Int)
theorem mget_mset' (m : List (Int × Int)) (k k' v : Int) : mget (mset m k v) k' = if k' = k then some v else mget m k' := by
  induction m with
  | nil => simp only [mset, mget]
  | cons a r ih =>
    obtain ⟨a, b⟩ := a
    simp only [mset]
    by_cases h : k = a
    · subst h
      simp only [if_true, mget]
      by_cases h2 : k' = k
      · rw [if_pos h2, if_pos h2]
      · rw [if_neg h2, if_neg h2, if_neg h2]
    · rw [if_neg h]
      simp only [mget, ih]
      by_cases h2 : k' = a
      · rw [if_pos h2, if_neg (fun e => h (e.symm.trans h2)), if_pos h2]
      · rw [if_neg h2, if_neg h2]
theorem region_step (l : List SIns) (i : Nat) (op inn : List Int) (m : List (Int × Int)) (h : Regs l i op inn m) (hi : i < l.length) (hl : l.length ≤ 2000) (K : Nat) (hK : 4000 < K) : ∃ c op' inn' m', mach_looker_region.f K l op inn m (i : Int) = some (c, op', inn', m') ∧ (c = 0 → Regs l (i + 1) op' inn' m') := by
  obtain ⟨e, he⟩ : ∃ e, l[i]? = some e := ⟨l[i], List.getElem?_eq_getElem hi⟩
  have hop := h.small
  have hp0 : mach_looker_region.p0 l op inn m (i : Int) = some (.inl (topOf op, e.Op, e.A, e.B)) := by
    unfold mach_looker_region.p0
    rw [if_pos (by omega)]
    simp only [Int.toNat_natCast, he, top_eq l op inn m (by omega)]
  obtain ⟨y, hy⟩ : ∃ y, inn[i]? = some y := ⟨inn[i]'(by rw [h.len]; exact hi), List.getElem?_eq_getElem (by rw [h.len]; exact hi)⟩
  have hlen : (inn.set i (topOf op)).length = l.length := by rw [List.length_set]; exact h.len
  have hob : ∀ o ∈ op, 0 ≤ o ∧ o < (l.length : Int) := fun o ho => by
    obtain ⟨k, e', rfl, hk, _⟩ := h.open_ o ho
    omega
  have hhold := fun x a => holds_some l op (inn.set i (topOf op)) m x a K (by omega) hob
  -- one that opens none and closes none
  have stay : (e.Op ≠ 13 ∧ e.Op ≠ 16 ∧ e.Op ≠ 14) → Regs l (i + 1) op (inn.set i (topOf op)) m := fun hne => ⟨hlen, fun o ho => by
      obtain ⟨k, e', h1, h2, h3⟩ := h.open_ o ho
      exact ⟨k, e', h1, by omega, h3⟩, h.up, by omega, fun k f hk hf hfo => by
      by_cases hki : k = i
      · subst hki; rw [he] at hf; cases hf; omega
      · rcases h.shut k f (by omega) hf hfo with h1 | ⟨c, h1, h2, h3⟩
        · exact .inl h1
        · exact .inr ⟨c, h1, h2, by omega⟩, fun k f hk hf hf14 => by
      by_cases hki : k = i
      · subst hki; rw [he] at hf; cases hf; omega
      · exact h.back k f (by omega) hf hf14⟩
  -- one that opens one
  have opens : (e.Op = 13 ∨ e.Op = 16) → Regs l (i + 1) (op ++ [(i : Int)]) (inn.set i (topOf op)) m := fun ho => ⟨hlen, fun o ho' => by
      rcases List.mem_append.1 ho' with h1 | h1
      · obtain ⟨k, e', h1, h2, h3⟩ := h.open_ o h1
        exact ⟨k, e', h1, by omega, h3⟩
      · exact ⟨i, e, List.mem_singleton.1 h1, by omega, he, ho⟩, List.pairwise_append.2 ⟨h.up, by simp, fun a ha b hb => by
      rw [List.mem_singleton.1 hb]
      obtain ⟨k, _, rfl, hk, _⟩ := h.open_ a ha
      omega⟩, by simp; omega, fun k f hk hf hfo => by
      by_cases hki : k = i
      · subst hki; exact .inl (by simp)
      · rcases h.shut k f (by omega) hf hfo with h1 | ⟨c, h1, h2, h3⟩
        · exact .inl (by simp [h1])
        · exact .inr ⟨c, h1, h2, by omega⟩, fun k f hk hf hf14 => by
      by_cases hki : k = i
      · subst hki; rw [he] at hf; cases hf; omega
      · exact h.back k f (by omega) hf hf14⟩
  -- one that closes one
  have closes : ∀ (o : List Int) (t : Int), op = o ++ [t] → (e.Op = 14 ∧ e.B = t + 1 ∨ e.Op = 17) → Regs l (i + 1) o (inn.set i (topOf op)) (mset m t (i : Int)) := fun o t hot hco => by
    subst hot
    obtain ⟨kt, et, rfl, hkt, _, _⟩ := h.open_ t (by simp)
    have hup := List.pairwise_append.1 h.up
    refine ⟨hlen, fun o' ho' => by
      obtain ⟨k, e', h1, h2, h3⟩ := h.open_ o' (by simp [ho'])
      exact ⟨k, e', h1, by omega, h3⟩, hup.1, by simp at hop; omega, fun k f hk hf hfo => ?_, fun k f hk hf hf14 => ?_⟩
    · rw [mget_mset']
      by_cases hki : k = i
      · subst hki; rw [he] at hf; cases hf; omega
      · rcases h.shut k f (by omega) hf hfo with h1 | ⟨c, h1, h2, h3⟩
        · rcases List.mem_append.1 h1 with h1 | h1
          · exact .inl h1
          · have := List.mem_singleton.1 h1
            rw [if_pos this]
            exact .inr ⟨i, rfl, by omega, by omega⟩
        · by_cases hkt' : (k : Int) = (kt : Int)
          · rw [if_pos hkt']
            exact .inr ⟨i, rfl, by omega, by omega⟩
          · rw [if_neg hkt']
            exact .inr ⟨c, h1, h2, by omega⟩
    · by_cases hki : k = i
      · subst hki; rw [he] at hf; cases hf
        rcases hco with ⟨_, h1⟩ | h1
        · omega
        · omega
      · exact h.back k f (by omega) hf hf14
  have hneg : ∀ {c : Int} {op' inn' : List Int} {m' : List (Int × Int)}, c ≠ 0 → (∃ c' op'' inn'' m'', (some (c, op', inn', m') : Option (Int × List Int × List Int × List (Int × Int))) = some (c', op'', inn'', m'') ∧ (c' = 0 → Regs l (i + 1) op'' inn'' m'')) := fun hc => ⟨_, _, _, _, rfl, fun h => absurd h hc⟩
  have htop : ∀ {z : Int}, topOf op = z → ¬ z < 0 → ∃ o, op = o ++ [z] := fun {z} hz h0 => by
    rcases List.eq_nil_or_concat op with rfl | ⟨o, t, rfl⟩
    · simp [topOf] at hz; omega
    · rw [List.concat_eq_append] at hz ⊢
      simp [topOf] at hz
      exact ⟨o, by rw [hz]⟩
  generalize hz : topOf op = z at *
  unfold mach_looker_region.f
  rw [hp0]
  simp only [Int.toNat_natCast, hy]
  rw [if_pos (by omega)]
  by_cases h13 : e.Op = 13
  · have hp1 : mach_looker_region.p1 e.Op = some (.inl true) := by unfold mach_looker_region.p1; rw [if_pos h13]
    obtain ⟨b, hb⟩ := hhold e.Op e.A
    simp only [hp1, if_true, hb]
    split
    · exact hneg (by decide)
    · rw [if_pos (by omega)]
      exact ⟨_, _, _, _, rfl, fun _ => opens (.inl h13)⟩
  by_cases h16 : e.Op = 16
  · have hp1 : mach_looker_region.p1 e.Op = some (.inl true) := by unfold mach_looker_region.p1; rw [if_neg h13, h16]; rfl
    obtain ⟨b, hb⟩ := hhold e.Op e.A
    simp only [hp1, if_true, hb]
    split
    · exact hneg (by decide)
    · rw [if_pos (by omega)]
      exact ⟨_, _, _, _, rfl, fun _ => opens (.inr h16)⟩
  have hp1 : mach_looker_region.p1 e.Op = some (.inl false) := by
    unfold mach_looker_region.p1
    rw [if_neg h13]
    have : (e.Op == 16) = false := by simpa using h16
    rw [this]
  simp only [hp1]
  rw [if_neg (by decide)]
  by_cases h14 : e.Op = 14
  · rw [if_pos h14]
    by_cases hz0 : z < 0
    · rw [if_pos hz0]; exact hneg (by decide)
    rw [if_neg hz0, if_pos (by omega)]
    obtain ⟨o, rfl⟩ := htop rfl hz0
    obtain ⟨kt, et, hkt0, hkt, het, _⟩ := h.open_ z (by simp)
    subst hkt0
    simp only [Int.toNat_natCast, het]
    split
    · split
      · split
        · rename_i hB
          rw [close_eq l o _ _ m _ (by simp at hop; omega)]
          rw [wrap64_small (by omega) (by omega)] at hB
          exact ⟨_, _, _, _, rfl, fun _ => closes o _ rfl (.inl ⟨h14, hB⟩)⟩
        · exact hneg (by decide)
      · exact hneg (by decide)
    · exact hneg (by decide)
  rw [if_neg h14]
  by_cases h17 : e.Op = 17
  · rw [if_pos h17]
    by_cases hz0 : z < 0
    · rw [if_pos hz0]; exact hneg (by decide)
    rw [if_neg hz0, if_pos (by omega)]
    obtain ⟨o, rfl⟩ := htop rfl hz0
    obtain ⟨kt, et, hkt0, hkt, het, _⟩ := h.open_ z (by simp)
    subst hkt0
    simp only [Int.toNat_natCast, het]
    split
    · split
      · rw [close_eq l o _ _ m _ (by simp at hop; omega)]
        exact ⟨_, _, _, _, rfl, fun _ => closes o _ rfl (.inr h17)⟩
      · exact hneg (by decide)
    · exact hneg (by decide)
  rw [if_neg h17]
  by_cases h15 : e.Op = 15
  · rw [if_pos h15]
    obtain ⟨b, hb⟩ := hhold 13 e.A
    simp only [hb]
    split
    · exact ⟨_, _, _, _, rfl, fun _ => stay ⟨h13, h16, h14⟩⟩
    · exact hneg (by decide)
  · rw [if_neg h15]
    exact ⟨_, _, _, _, rfl, fun _ => stay ⟨h13, h16, h14⟩⟩
theorem look_regions (l : List SIns) (K : Nat) (hl : l.length ≤ 2000) (hK : 4000 < K) : ∃ r, iter (mach_Look.r1 K l) K (0, [], List.replicate l.length 0, []) = some r ∧ ((∃ op inn m, r = .inl (op, inn, m) ∧ Regs l l.length op inn m) ∨ ∃ s, r = .inr s ∧ s.2.Code ≠ 0) := by
  refine iter_total (f := mach_Look.r1 K l) (fun s => s.1 ≤ l.length ∧ Regs l s.1 s.2.1 s.2.2.1 s.2.2.2) (fun s => l.length - s.1) _ (fun s ⟨hi, hI⟩ => ?_) K _ ⟨Nat.zero_le _, ⟨by simp, by simp, by simp, by simp, fun k f hk => by simp at hk, fun k f hk => by simp at hk⟩⟩ (by simp only; omega)
  obtain ⟨i, op, inn, m⟩ := s
  simp only at hi hI ⊢
  by_cases hlt : i < l.length
  · obtain ⟨c, op', inn', m', h1, h2⟩ := region_step l i op inn m hI hlt hl K hK
    simp only [mach_Look.r1, h1]
    rw [if_pos (by omega)]
    by_cases hc : c = 0
    · rw [if_pos hc]
      exact .inl ⟨_, rfl, ⟨hlt, h2 hc⟩, by simp only; omega⟩
    · rw [if_neg hc]
      exact .inr ⟨_, rfl, .inr ⟨_, rfl, by simpa [mach_Look_1.f] using hc⟩⟩
  · right
    obtain rfl : i = l.length := by omega
    simp only [mach_Look.r1]
    rw [if_neg (by omega)]
    exact ⟨_, rfl, .inl ⟨_, _, _, rfl, hI⟩⟩
/-- jumps go on -/
def Jump (l : List SIns) : Prop := ∀ (k : Nat) (e : SIns), l[k]? = some e → (e.Op = 11 ∨ e.Op = 12) → (k : Int) < e.A ∧ e.A ≤ (l.length : Int)
theorem look_jumps (l : List SIns) (inn : List Int) (hin : inn.length = l.length) (hok : ∀ (i : Nat) (e : SIns), l[i]? = some e → OkI e) (K : Nat) (hK : l.length < K) : ∃ r, iter (mach_Look.r2 l inn) K 0 = some r ∧ ((r = .inl () ∧ Jump l) ∨ ∃ s, r = .inr s ∧ s.2.Code ≠ 0) := by
  refine iter_total (f := mach_Look.r2 l inn) (fun i => i ≤ l.length ∧ ∀ (k : Nat) (e : SIns), k < i → l[k]? = some e → (e.Op = 11 ∨ e.Op = 12) → (k : Int) < e.A ∧ e.A ≤ (l.length : Int)) (fun i => l.length - i) _ (fun i ⟨hi, hI⟩ => ?_) K 0 ⟨Nat.zero_le _, fun k e hk => by omega⟩ (by omega)
  by_cases hlt : i < l.length
  · obtain ⟨e, he⟩ : ∃ e, l[i]? = some e := ⟨l[i], List.getElem?_eq_getElem hlt⟩
    have ho := hok i e he
    have hA := ho.A
    have next : ((e.Op = 11 ∨ e.Op = 12) → (i : Int) < e.A ∧ e.A ≤ (l.length : Int)) → i + 1 ≤ l.length ∧ ∀ (k : Nat) (f : SIns), k < i + 1 → l[k]? = some f → (f.Op = 11 ∨ f.Op = 12) → (k : Int) < f.A ∧ f.A ≤ (l.length : Int) := fun h => ⟨hlt, fun k f hk hf hop => by
      by_cases hki : k = i
      · subst hki; rw [he] at hf; cases hf; exact h hop
      · exact hI k f (by omega) hf hop⟩
    have hfault : ∀ {x : SShape} {c a : Int}, c ≠ 0 → (∃ s', (some (Sum.inr (Sum.inr (x, (⟨c, a⟩ : SFault)))) : Option (Nat ⊕ (Unit ⊕ (SShape × SFault)))) = some (.inl s') ∧ (s' ≤ l.length ∧ ∀ (k : Nat) (e : SIns), k < s' → l[k]? = some e → (e.Op = 11 ∨ e.Op = 12) → (k : Int) < e.A ∧ e.A ≤ (l.length : Int)) ∧ l.length - s' < l.length - i) ∨ ∃ r, (some (Sum.inr (Sum.inr (x, (⟨c, a⟩ : SFault)))) : Option (Nat ⊕ (Unit ⊕ (SShape × SFault)))) = some (.inr r) ∧ ((r = .inl () ∧ Jump l) ∨ ∃ s, r = .inr s ∧ s.2.Code ≠ 0) :=
      fun hc => .inr ⟨_, rfl, .inr ⟨_, rfl, hc⟩⟩
    obtain ⟨y, hy⟩ : ∃ y, inn[i]? = some y := ⟨inn[i]'(by omega), List.getElem?_eq_getElem (by omega)⟩
    have hlx : e.A < (l.length : Int) → ∃ y, inn[e.A.toNat]? = some y := fun h => ⟨inn[e.A.toNat]'(by omega), List.getElem?_eq_getElem (by omega)⟩
    simp only [mach_Look.r2, he, hy, mach_Look_1.f]
    rw [if_pos (by omega)]
    by_cases hAl : e.A < (l.length : Int)
    · obtain ⟨x, hx⟩ := hlx hAl
      simp only [hx, if_pos hAl, if_pos hA]
      by_cases h11 : e.Op = 11
      · rw [if_pos h11]
        split
        · exact hfault (by decide)
        · split
          · exact hfault (by decide)
          · split
            · exact .inl ⟨_, rfl, next (fun _ => by omega), by omega⟩
            · exact hfault (by decide)
      · rw [if_neg h11]
        by_cases h12 : e.Op = 12
        · rw [if_pos h12]
          split
          · exact hfault (by decide)
          · split
            · exact hfault (by decide)
            · split
              · exact .inl ⟨_, rfl, next (fun _ => by omega), by omega⟩
              · exact hfault (by decide)
        · rw [if_neg h12]
          exact .inl ⟨_, rfl, next (fun h => by omega), by omega⟩
    · simp only [if_neg hAl]
      by_cases h11 : e.Op = 11
      · rw [if_pos h11]
        split
        · exact hfault (by decide)
        · split
          · exact hfault (by decide)
          · split
            · exact .inl ⟨_, rfl, next (fun _ => by omega), by omega⟩
            · exact hfault (by decide)
      · rw [if_neg h11]
        by_cases h12 : e.Op = 12
        · rw [if_pos h12]
          split
          · exact hfault (by decide)
          · split
            · exact hfault (by decide)
            · split
              · exact .inl ⟨_, rfl, next (fun _ => by omega), by omega⟩
              · exact hfault (by decide)
        · rw [if_neg h12]
          exact .inl ⟨_, rfl, next (fun h => by omega), by omega⟩
  · right
    simp only [mach_Look.r2]
    rw [if_neg (by omega)]
    exact ⟨_, rfl, .inl ⟨rfl, fun k e hk => hI k e (by have := lt_of_get hk; omega) hk⟩⟩
theorem to_some (x h : Int) (m : List Int) (n : Nat) (hm : m.length = n + 1) (hx : 0 ≤ x ∧ x ≤ (n : Int)) : ∃ b m', mach_heights_1.f x h m = some (b, m') ∧ m'.length = n + 1 := by
  obtain ⟨y, hy⟩ : ∃ y, m[x.toNat]? = some y := ⟨m[x.toNat]'(by omega), List.getElem?_eq_getElem (by omega)⟩
  have hs : (m.set x.toNat h)[x.toNat]? = some h := by rw [List.getElem?_set_self (by omega)]
  simp only [mach_heights_1.f, hy, hs]
  rw [if_pos hx.1]
  split
  · exact ⟨_, _, rfl, by rw [List.length_set]; exact hm⟩
  · exact ⟨_, _, rfl, hm⟩
theorem p2_some (l : List SIns) (m : List Int) (e : SIns) (y : Int) (hm : m.length = l.length + 1) (hA : (e.Op = 11 ∨ e.Op = 12) → 0 ≤ e.A ∧ e.A ≤ (l.length : Int)) : ∃ q m', mach_heights.p2 m e y = some (.inl (q, m')) ∧ m'.length = l.length + 1 := by
  unfold mach_heights.p2
  by_cases h11 : e.Op = 11
  · rw [if_pos h11]
    split
    · obtain ⟨b, m', h1, h2⟩ := to_some e.A (IntKind.i64.wrap (y + (IntKind.i64.wrap (((mach_pops.f e.Op).2) - ((mach_pops.f e.Op).1))))) m l.length hm (hA (.inl h11))
      rw [h1]
      exact ⟨_, _, rfl, h2⟩
    · exact ⟨_, _, rfl, hm⟩
  · rw [if_neg h11]
    by_cases h12 : e.Op = 12
    · rw [if_pos h12]
      split
      · obtain ⟨b, m', h1, h2⟩ := to_some e.A (IntKind.i64.wrap (y + (IntKind.i64.wrap (((mach_pops.f e.Op).2) - ((mach_pops.f e.Op).1))))) m l.length hm (hA (.inr h12))
        rw [h1]
        exact ⟨_, _, rfl, h2⟩
      · exact ⟨_, _, rfl, hm⟩
    · rw [if_neg h12]
      exact ⟨_, _, rfl, hm⟩
theorem heights_step (l : List SIns) (hl : l.length ≤ 2000) (i : Nat) (hi : i < l.length) (m : List Int) (hm : m.length = l.length + 1) (hA : ∀ e, l[i]? = some e → (e.Op = 11 ∨ e.Op = 12) → 0 ≤ e.A ∧ e.A ≤ (l.length : Int)) (hB : ∀ e, l[i]? = some e → e.Op = 14 → 0 ≤ e.B ∧ e.B ≤ (l.length : Int)) :
    (∃ m', mach_heights.r1 l (i, m) = some (.inl (i + 1, m')) ∧ m'.length = l.length + 1) ∨ ∃ s : SFault, mach_heights.r1 l (i, m) = some (.inr (.inr s)) ∧ s.Code ≠ 0 := by
  obtain ⟨e, he⟩ : ∃ e, l[i]? = some e := ⟨l[i], List.getElem?_eq_getElem hi⟩
  obtain ⟨y, hy⟩ : ∃ y, m[i]? = some y := ⟨m[i]'(by omega), List.getElem?_eq_getElem (by omega)⟩
  have hA := hA e he
  have hB := hB e he
  simp only [mach_heights.r1, he, hy]
  rw [if_pos (by omega)]
  by_cases h0 : y < 0
  · rw [if_pos h0]; exact .inr ⟨_, rfl, by simp⟩
  rw [if_neg h0]
  have hp3 : mach_heights.p3 m e = some (.inl (false, m)) := by
    unfold mach_heights.p3
    split
    · rfl
    · split <;> rfl
  obtain ⟨q, m', hp2, hm'⟩ := p2_some l m e y hm hA
  by_cases hp : y ≥ (mach_pops.f e.Op).1
  · rw [if_pos hp, hp2]
    simp only
    by_cases h14 : e.Op = 14
    · have h11 : ¬ e.Op = 11 := by omega
      rw [if_pos h14]
      by_cases hq : q = true
      · obtain ⟨b1, b2⟩ := hB h14
        obtain ⟨x, hx⟩ : ∃ x, m'[e.B.toNat]? = some x := ⟨m'[e.B.toNat]'(by omega), List.getElem?_eq_getElem (by omega)⟩
        rw [if_pos hq, if_pos b1, hx]
        simp only
        rw [if_neg h11]
        split
        · obtain ⟨b, m2, h1, h2⟩ := to_some ((i + 1 : Nat) : Int) (IntKind.i64.wrap (y + (IntKind.i64.wrap (((mach_pops.f e.Op).2) - ((mach_pops.f e.Op).1))))) m' l.length hm' ⟨by omega, by omega⟩
          rw [h1]
          simp only
          split
          · exact .inl ⟨_, rfl, h2⟩
          · exact .inr ⟨_, rfl, by simp⟩
        · exact .inr ⟨_, rfl, by simp⟩
      · rw [if_neg hq, if_neg h11]; exact .inr ⟨_, rfl, by simp⟩
    · rw [if_neg h14]
      by_cases h11 : e.Op = 11
      · rw [if_pos h11]
        split
        · exact .inl ⟨_, rfl, hm'⟩
        · exact .inr ⟨_, rfl, by simp⟩
      · rw [if_neg h11]
        split
        · obtain ⟨b, m2, h1, h2⟩ := to_some ((i + 1 : Nat) : Int) (IntKind.i64.wrap (y + (IntKind.i64.wrap (((mach_pops.f e.Op).2) - ((mach_pops.f e.Op).1))))) m' l.length hm' ⟨by omega, by omega⟩
          rw [h1]
          simp only
          split
          · exact .inl ⟨_, rfl, h2⟩
          · exact .inr ⟨_, rfl, by simp⟩
        · exact .inr ⟨_, rfl, by simp⟩
  · rw [if_neg hp, hp3]
    simp only
    by_cases h14 : e.Op = 14
    · have h11 : ¬ e.Op = 11 := by omega
      rw [if_pos h14, if_neg (by decide), if_neg h11]; exact .inr ⟨_, rfl, by simp⟩
    · rw [if_neg h14]
      by_cases h11 : e.Op = 11
      · rw [if_pos h11, if_neg (by decide)]; exact .inr ⟨_, rfl, by simp⟩
      · rw [if_neg h11, if_neg (by decide)]; exact .inr ⟨_, rfl, by simp⟩
theorem heights_some (l : List SIns) (hl : l.length ≤ 2000) (hJ : Jump l) (hB : ∀ (k : Nat) (e : SIns), l[k]? = some e → e.Op = 14 → 0 ≤ e.B ∧ e.B ≤ (l.length : Int)) (K : Nat) (hK : 4000 < K) : ∃ r, mach_heights.f K l = some r ∧ (r.Code ≠ 0 ∨ r = ⟨0, 0⟩) := by
  have e0 : IntKind.i64.wrap ((l.length : Int) + 1) = ((l.length + 1 : Nat) : Int) := by rw [wrap64_small (by omega) (by omega)]; omega
  obtain ⟨r0, hr0, m0, rfl, hm0⟩ := iter_total (f := mach_heights.r0 l) (fun s => ∃ i : Nat, s.1 = (i : Int) ∧ i ≤ l.length + 1 ∧ s.2.length = l.length + 1) (fun s => (l.length + 1 - s.1.toNat)) (fun r => ∃ m : List Int, r = .inl m ∧ m.length = l.length + 1) (fun s ⟨i, h1, h2, h3⟩ => by
    obtain ⟨z, m⟩ := s
    simp only at h1 h3
    subst h1
    simp only [mach_heights.r0, e0, Int.toNat_natCast, List.length_replicate]
    by_cases hlt : i < l.length + 1
    · obtain ⟨y, hy⟩ : ∃ y, m[i]? = some y := ⟨m[i]'(by omega), List.getElem?_eq_getElem (by omega)⟩
      have e1 : IntKind.i64.wrap ((i : Int) + 1) = ((i + 1 : Nat) : Int) := by rw [wrap64_small (by omega) (by omega)]; omega
      simp only [hy, e1]
      rw [if_pos (by omega), if_pos (by omega)]
      exact .inl ⟨_, rfl, ⟨i + 1, rfl, by omega, by simp only [List.length_set]; exact h3⟩, by simp only; omega⟩
    · rw [if_neg (by omega)]
      exact .inr ⟨_, rfl, m, rfl, h3⟩) K (0, List.replicate (l.length + 1) 0) ⟨0, rfl, by omega, by simp⟩ (by simp; omega)
  obtain ⟨r1, hr1, h1⟩ := iter_total (f := mach_heights.r1 l) (fun s => s.1 ≤ l.length ∧ s.2.length = l.length + 1) (fun s => l.length - s.1) (fun r => (∃ m : List Int, r = .inl m ∧ m.length = l.length + 1) ∨ ∃ s : SFault, r = .inr s ∧ s.Code ≠ 0) (fun s ⟨hi, hm⟩ => by
    obtain ⟨i, m⟩ := s
    simp only at hi hm
    by_cases hlt : i < l.length
    · have hlast := fun (e : SIns) (he : l[i]? = some e) (ho : e.Op = 11 ∨ e.Op = 12) => (by have := hJ i e he ho; omega : 0 ≤ e.A ∧ e.A ≤ (l.length : Int))
      rcases heights_step l hl i hlt m hm hlast (fun e he h14 => hB i e he h14) with ⟨m', h1, h2⟩ | ⟨s, h1, h2⟩
      · exact .inl ⟨_, h1, ⟨by simp only; omega, h2⟩, by simp only; omega⟩
      · exact .inr ⟨_, h1, .inr ⟨s, rfl, h2⟩⟩
    · right
      simp only [mach_heights.r1]
      rw [if_neg (by omega)]
      exact ⟨_, rfl, .inl ⟨m, rfl, hm⟩⟩) K (0, m0.set 0 0) ⟨Nat.zero_le _, by simpa using hm0⟩ (by simp only; omega)
  obtain ⟨y0, hy0⟩ : ∃ y, m0[0]? = some y := ⟨m0[0]'(by omega), List.getElem?_eq_getElem (by omega)⟩
  unfold mach_heights.f
  simp only [e0, Int.toNat_natCast]
  rw [if_pos (by omega), if_pos (by omega), hr0]
  simp only [hy0, hr1]
  rcases h1 with ⟨m, rfl, hm⟩ | ⟨s, rfl, hs⟩
  · obtain ⟨y, hy⟩ : ∃ y, m[l.length]? = some y := ⟨m[l.length]'(by omega), List.getElem?_eq_getElem (by omega)⟩
    simp only [hy]
    split
    · exact ⟨_, rfl, .inl (by simp)⟩
    · exact ⟨_, rfl, .inr rfl⟩
  · exact ⟨s, rfl, .inl hs⟩
/-- what Look's OK says -/
structure Facts (l : List SIns) (m : List (Int × Int)) : Prop where
  len : l.length ≤ 2000
  ok : ∀ (i : Nat) (e : SIns), l[i]? = some e → OkI e
  jump : Jump l
  shut : ∀ (k : Nat) (e : SIns), l[k]? = some e → (e.Op = 13 ∨ e.Op = 16) → (k : Int) < (mget m (k : Int)).getD 0 ∧ (mget m (k : Int)).getD 0 < (l.length : Int)
theorem Look_some (l : List SIns) (K : Nat) (hK : 4000 < K) : ∃ r, mach_Look.f K l = some r ∧ (r.2.Code ≠ 0 ∨ (r.2 = ⟨0, 0⟩ ∧ Facts l r.1.Close)) := by
  unfold mach_Look.f
  by_cases hn : (l.length : Int) > 2000
  · rw [if_pos hn]; exact ⟨_, rfl, .inl (by simp [mach_Look_1.f])⟩
  rw [if_neg hn]
  obtain ⟨r, hr, h⟩ := look_ins l K (by omega)
  rw [hr]
  rcases h with ⟨rfl, hok⟩ | ⟨s, rfl, hs⟩
  case inr => exact ⟨s, rfl, .inl hs⟩
  simp only
  rw [if_pos (by omega)]
  obtain ⟨r1, hr1, h1⟩ := look_regions l K (by omega) hK
  rw [hr1]
  rcases h1 with ⟨op, inn, m, rfl, hR⟩ | ⟨s, rfl, hs⟩
  case inr => exact ⟨s, rfl, .inl hs⟩
  simp only
  rcases op with _ | ⟨o, op⟩
  case cons =>
    obtain ⟨k, e, rfl, hk, he, _⟩ := hR.open_ o (by simp)
    rw [if_pos (by simp)]
    simp only [List.getElem?_cons_zero, Int.toNat_natCast, he]
    rw [if_pos (by omega)]
    split
    · exact ⟨_, rfl, .inl (by simp [mach_Look_1.f])⟩
    · exact ⟨_, rfl, .inl (by simp [mach_Look_1.f])⟩
  rw [if_neg (by simp)]
  obtain ⟨r2, hr2, h2⟩ := look_jumps l inn hR.len hok K (by omega)
  rw [hr2]
  rcases h2 with ⟨rfl, hJ⟩ | ⟨s, rfl, hs⟩
  case inr => exact ⟨s, rfl, .inl hs⟩
  simp only
  obtain ⟨r3, hr3, h3⟩ := heights_some l (by omega) hJ (fun k e he h14 => hR.back k e (lt_of_get he) he h14) K hK
  rw [hr3]
  simp only
  rcases h3 with h3 | rfl
  · rw [if_neg h3]; exact ⟨_, rfl, .inl h3⟩
  · rw [if_pos rfl]
    refine ⟨_, rfl, .inr ⟨rfl, by omega, hok, hJ, fun k e he ho => ?_⟩⟩
    rcases hR.shut k e (lt_of_get he) he ho with h4 | ⟨c, h4, h5, h6⟩
    · cases h4
    · simp only [h4, Option.getD_some]
      omega

/-- what is left from i on, of a list; nothing behind its end -/
def restAt (R : List Int) (i : Nat) : Int := (R[i]?).getD 0
/-- what is left at least from instruction i on, by what is left from others -/
def needOf (m : List (Int × Int)) (R : List Int) (i : Nat) (e : SIns) : Int :=
  if e.Op = 14 then 0
  else if e.Op = 17 then 1
  else if e.Op = 11 then 2 + restAt R e.A.toNat
  else if e.Op = 12 then max (2 + restAt R e.A.toNat) (1 + restAt R (i + 1))
  else if e.Op = 13 then (e.B + 1) * restAt R (i + 1) + 2 * e.B + 2 + restAt R (((mget m (i : Int)).getD 0).toNat + 1)
  else if e.Op = 16 then 1 + restAt R (i + 1) + restAt R (((mget m (i : Int)).getD 0).toNat + 1)
  else mach_Cost.f e false + restAt R (i + 1)
theorem at_eq (R : List Int) (x : Int) (hx : 0 ≤ x) : wcet_at_1.f x R = some (restAt R x.toNat) := by
  unfold wcet_at_1.f restAt
  split
  · rw [List.getElem?_eq_none (by omega)]; rfl
  · rw [List.getElem?_eq_getElem (by omega)]; rfl
theorem cost_range {e : SIns} (h : OkI e) (b : Bool) : 1 ≤ mach_Cost.f e b ∧ mach_Cost.f e b ≤ 1000 := by
  unfold mach_Cost.f
  repeat' split
  all_goals first | omega | (have := h.A18 (by assumption); omega)
/-- the numbers behind i are such as may be told -/
def Told (R : List Int) (i : Nat) : Prop := ∀ j, i < j → 0 ≤ restAt R j ∧ restAt R j ≤ 1099511627776
theorem need_eq {l : List SIns} {m : List (Int × Int)} (F : Facts l m) {inn R : List Int} {i : Nat} {e : SIns} (he : l[i]? = some e) (hT : Told R i) : wcet_need.f l inn m R (i : Int) = some (needOf m R i e) ∧ 0 ≤ needOf m R i e := by
  have hi := lt_of_get he
  have hlen := F.len
  have ho := F.ok i e he
  have hA := ho.A
  have hB := ho.B
  have e1 : IntKind.i64.wrap ((i : Int) + 1) = ((i + 1 : Nat) : Int) := by rw [wrap64_small (by omega) (by omega)]; omega
  have a1 : wcet_at_1.f ((i + 1 : Nat) : Int) R = some (restAt R (i + 1)) := by
    have := at_eq R ((i + 1 : Nat) : Int) (by omega)
    rwa [Int.toNat_natCast] at this
  have t1 := hT (i + 1) (by omega)
  have c0 := cost_range ho false
  have c1 := cost_range ho true
  unfold wcet_need.f needOf
  rw [if_pos (by omega)]
  simp only [Int.toNat_natCast, he, e1, a1]
  by_cases h14 : e.Op = 14
  · rw [if_pos h14, if_pos h14]; exact ⟨rfl, by omega⟩
  rw [if_neg h14, if_neg h14]
  by_cases h17 : e.Op = 17
  · rw [if_pos h17, if_pos h17]; exact ⟨rfl, by omega⟩
  rw [if_neg h17, if_neg h17]
  by_cases h11 : e.Op = 11
  · rw [if_pos h11, if_pos h11, at_eq R e.A hA]
    have hj := F.jump i e he (.inl h11)
    have t2 := hT e.A.toNat (by omega)
    have : mach_Cost.f e true = 2 := by simp [mach_Cost.f, h11]
    simp only [this]
    rw [wrap64_small (by omega) (by omega)]
    exact ⟨rfl, by omega⟩
  rw [if_neg h11, if_neg h11]
  by_cases h12 : e.Op = 12
  · rw [if_pos h12, if_pos h12, at_eq R e.A hA]
    have hj := F.jump i e he (.inr h12)
    have t2 := hT e.A.toNat (by omega)
    have k1 : mach_Cost.f e true = 2 := by simp [mach_Cost.f, h12]
    have k2 : mach_Cost.f e false = 1 := by simp [mach_Cost.f, h12]
    simp only [k1, k2]
    rw [wrap64_small (by omega) (by omega), wrap64_small (by omega) (by omega)]
    refine ⟨?_, by omega⟩
    unfold gmax
    split
    · rw [Int.max_eq_right (by omega)]
    · rw [Int.max_eq_left (by omega)]
  rw [if_neg h12, if_neg h12]
  have hcl : (e.Op = 13 ∨ e.Op = 16) → wcet_at_1.f (IntKind.i64.wrap (((mget m (i : Int)).getD 0) + 1)) R = some (restAt R (((mget m (i : Int)).getD 0).toNat + 1)) ∧ 0 ≤ restAt R (((mget m (i : Int)).getD 0).toNat + 1) ∧ restAt R (((mget m (i : Int)).getD 0).toNat + 1) ≤ 1099511627776 := fun h => by
    obtain ⟨s1, s2⟩ := F.shut i e he h
    rw [wrap64_small (by omega) (by omega), at_eq R _ (by omega)]
    have : (((mget m (i : Int)).getD 0) + 1).toNat = ((mget m (i : Int)).getD 0).toNat + 1 := by omega
    rw [this]
    exact ⟨rfl, hT _ (by omega)⟩
  by_cases h13 : e.Op = 13
  · rw [if_pos h13, if_pos h13]
    obtain ⟨g1, g2, g3⟩ := hcl (.inl h13)
    have hB1 := ho.B1 h13
    simp only [g1]
    generalize restAt R (((mget m (i : Int)).getD 0).toNat + 1) = y at *
    generalize restAt R (i + 1) = x at *
    have hp : 0 ≤ (e.B + 1) * x := Int.mul_nonneg (by omega) t1.1
    have hq : (e.B + 1) * x ≤ 1001 * 1099511627776 := Int.mul_le_mul (by omega) t1.2 t1.1 (by omega)
    rw [wrap64_small (n := e.B + 1) (by omega) (by omega), wrap64_small (n := (e.B + 1) * x) (by omega) (by omega)]
    generalize (e.B + 1) * x = z at *
    rw [wrap64_small (n := 1 + z) (by omega) (by omega), wrap64_small (n := 2 * e.B) (by omega) (by omega), wrap64_small (n := 1 + z + 2 * e.B) (by omega) (by omega), wrap64_small (n := 1 + z + 2 * e.B + 1) (by omega) (by omega), wrap64_small (by omega) (by omega)]
    refine ⟨by congr 1; omega, by omega⟩
  rw [if_neg h13, if_neg h13]
  by_cases h16 : e.Op = 16
  · rw [if_pos h16, if_pos h16]
    obtain ⟨g1, g2, g3⟩ := hcl (.inr h16)
    simp only [g1]
    rw [wrap64_small (n := 1 + restAt R (i + 1)) (by omega) (by omega), wrap64_small (by omega) (by omega)]
    exact ⟨rfl, by omega⟩
  rw [if_neg h16, if_neg h16, wrap64_small (by omega) (by omega)]
  exact ⟨rfl, by omega⟩
theorem need_mono {l : List SIns} {m : List (Int × Int)} (F : Facts l m) {R S : List Int} {i : Nat} {e : SIns} (he : l[i]? = some e) (h : ∀ j, i < j → restAt R j ≤ restAt S j) : needOf m R i e ≤ needOf m S i e := by
  have ho := F.ok i e he
  have h1 := h (i + 1) (by omega)
  have hjmp : (e.Op = 11 ∨ e.Op = 12) → restAt R e.A.toNat ≤ restAt S e.A.toNat := fun hh => by
    have := F.jump i e he hh
    exact h _ (by omega)
  have hcl : (e.Op = 13 ∨ e.Op = 16) → restAt R (((mget m (i : Int)).getD 0).toNat + 1) ≤ restAt S (((mget m (i : Int)).getD 0).toNat + 1) := fun hh => by
    have := F.shut i e he hh
    exact h _ (by omega)
  unfold needOf
  by_cases h14 : e.Op = 14
  · rw [if_pos h14, if_pos h14]; omega
  rw [if_neg h14, if_neg h14]
  by_cases h17 : e.Op = 17
  · rw [if_pos h17, if_pos h17]; omega
  rw [if_neg h17, if_neg h17]
  by_cases h11 : e.Op = 11
  · rw [if_pos h11, if_pos h11]; have := hjmp (.inl h11); omega
  rw [if_neg h11, if_neg h11]
  by_cases h12 : e.Op = 12
  · rw [if_pos h12, if_pos h12]; have := hjmp (.inr h12); omega
  rw [if_neg h12, if_neg h12]
  by_cases h13 : e.Op = 13
  · rw [if_pos h13, if_pos h13]
    have := hcl (.inl h13)
    have hB := ho.B
    have := Int.mul_le_mul_of_nonneg_left h1 (show 0 ≤ e.B + 1 by omega)
    omega
  rw [if_neg h13, if_neg h13]
  by_cases h16 : e.Op = 16
  · rw [if_pos h16, if_pos h16]; have := hcl (.inr h16); omega
  rw [if_neg h16, if_neg h16]
  omega
theorem need_same {l : List SIns} {m : List (Int × Int)} (F : Facts l m) {R S : List Int} {i : Nat} {e : SIns} (he : l[i]? = some e) (h : ∀ j, i < j → restAt R j = restAt S j) : needOf m R i e = needOf m S i e :=
  Int.le_antisymm (need_mono F he (fun j hj => by rw [h j hj]; exact Int.le_refl _)) (need_mono F he (fun j hj => by rw [h j hj]; exact Int.le_refl _))
/-- numbers that are just what is left -/
structure Exact (l : List SIns) (m : List (Int × Int)) (R : List Int) : Prop where
  len : R.length = l.length
  told : ∀ j, 0 ≤ restAt R j ∧ restAt R j ≤ 1099511627776
  is : ∀ (i : Nat) (e : SIns), l[i]? = some e → restAt R i = needOf m R i e
theorem restAt_set (R : List Int) (i j : Nat) (v : Int) (hi : i < R.length) : restAt (R.set i v) j = if j = i then v else restAt R j := by
  unfold restAt
  by_cases h : j = i
  · subst h; rw [if_pos rfl, List.getElem?_set_self hi]; rfl
  · rw [if_neg h, List.getElem?_set_ne (fun e => h e.symm)]
theorem analyse_rounds {l : List SIns} {r1 : SShape × SFault} (F : Facts l r1.1.Close) (K : Nat) (hK : 4000 < K) : ∃ r, iter (wcet_Analyse.r0 l r1) K ((l.length : Int) - 1, List.replicate l.length (0 : Int)) = some r ∧ ((∃ R, r = .inl R ∧ Exact l r1.1.Close R) ∨ ∃ z, r = .inr (⟨0, []⟩, ⟨3, z⟩)) := by
  have hlen := F.len
  refine iter_total (f := wcet_Analyse.r0 l r1) (fun s => ∃ i : Nat, s.1 = (i : Int) - 1 ∧ i ≤ l.length ∧ s.2.length = l.length ∧ (∀ j, i ≤ j → 0 ≤ restAt s.2 j ∧ restAt s.2 j ≤ 1099511627776) ∧ ∀ (j : Nat) (e : SIns), i ≤ j → l[j]? = some e → restAt s.2 j = needOf r1.1.Close s.2 j e) (fun s => (s.1 + 1).toNat) _ (fun s ⟨i, h1, h2, h3, h4, h5⟩ => ?_) K _ ⟨l.length, rfl, Nat.le_refl _, by simp, fun j hj => ?_, fun j e hj he => ?_⟩ (by simp only; omega)
  · obtain ⟨z, R⟩ := s
    simp only at h1 h3 h4 h5
    subst h1
    rcases i with _ | i
    · right
      simp only [wcet_Analyse.r0]
      rw [if_neg (by omega)]
      exact ⟨_, rfl, .inl ⟨R, rfl, h3, fun j => h4 j (Nat.zero_le _), fun j e he => h5 j e (Nat.zero_le _) he⟩⟩
    · have hz : ((i + 1 : Nat) : Int) - 1 = (i : Int) := by omega
      obtain ⟨e, he⟩ : ∃ e, l[i]? = some e := ⟨l[i], List.getElem?_eq_getElem (by omega)⟩
      obtain ⟨n1, n2⟩ := need_eq F (inn := r1.1.In) (R := R) he (fun j hj => h4 j (by omega))
      obtain ⟨y, hy⟩ : ∃ y, R[i]? = some y := ⟨R[i]'(by omega), List.getElem?_eq_getElem (by omega)⟩
      simp only [wcet_Analyse.r0, hz, n1, Int.toNat_natCast, hy]
      rw [if_pos (by omega), if_pos (by omega), List.getElem?_set_self (by omega)]
      simp only
      by_cases hb : needOf r1.1.Close R i e > 1099511627776
      · rw [if_pos hb]; exact .inr ⟨_, rfl, .inr ⟨_, rfl⟩⟩
      · rw [if_neg hb]
        have hs : ∀ j, restAt (R.set i (needOf r1.1.Close R i e)) j = if j = i then needOf r1.1.Close R i e else restAt R j := fun j => restAt_set R i j _ (by omega)
        refine .inl ⟨_, rfl, ⟨i, by simp only; rw [wrap64_small (by omega) (by omega)], by omega, by simpa using h3, fun j hj => ?_, fun j f hj hf => ?_⟩, by simp only; rw [wrap64_small (by omega) (by omega)]; omega⟩
        · simp only [hs]
          split
          · omega
          · exact h4 j (by omega)
        · simp only
          have hsame : ∀ (k : Nat) (g : SIns), i ≤ k → l[k]? = some g → needOf r1.1.Close (R.set i (needOf r1.1.Close R i e)) k g = needOf r1.1.Close R k g := fun k g hk hg => need_same F hg (fun j hj => by rw [hs, if_neg (by omega)])
          rw [hsame j f hj hf, hs]
          by_cases hji : j = i
          · subst hji
            rw [he] at hf
            cases hf
            rw [if_pos rfl]
          · rw [if_neg hji]
            exact h5 j f (by omega) hf
  · have : restAt (List.replicate l.length (0 : Int)) j = 0 := by unfold restAt; rw [List.getElem?_eq_none (by simpa using hj)]; rfl
    rw [this]; omega
  · have := lt_of_get he; omega
theorem Analyse_some (l : List SIns) (K : Nat) (hK : 4000 < K) : ∃ r, wcet_Analyse.f K l = some r ∧ ((r.2.Code ≠ 0 ∧ r.1 = ⟨0, []⟩) ∨ (r.2.Code = 0 ∧ ∃ s, mach_Look.f K l = some s ∧ s.2.Code = 0 ∧ Facts l s.1.Close ∧ Exact l s.1.Close r.1.Rest ∧ r.1.Worst = restAt r.1.Rest 0)) := by
  unfold wcet_Analyse.f
  obtain ⟨s, hs, h⟩ := Look_some l K hK
  rw [hs]
  simp only
  rcases h with h | ⟨h, F⟩
  · rw [if_neg h]
    exact ⟨_, rfl, .inl ⟨h, rfl⟩⟩
  · have hlen := F.len
    rw [if_pos (by rw [h]), if_pos (by omega), wrap64_small (by omega) (by omega)]
    obtain ⟨r, hr, h2⟩ := analyse_rounds F K hK
    rw [hr]
    rcases h2 with ⟨R, rfl, hE⟩ | ⟨z, rfl⟩
    · simp only
      rw [at_eq R 0 (by omega)]
      exact ⟨_, rfl, .inr ⟨rfl, s, rfl, by rw [h], F, hE, rfl⟩⟩
    · exact ⟨_, rfl, .inl ⟨by simp, rfl⟩⟩
/-- numbers that show it -/
structure Shows (l : List SIns) (m : List (Int × Int)) (w : Int) (R : List Int) : Prop where
  len : R.length = l.length
  told : ∀ j, 0 ≤ restAt R j ∧ restAt R j ≤ 1099511627776
  ge : ∀ (i : Nat) (e : SIns), l[i]? = some e → needOf m R i e ≤ restAt R i
  worst : restAt R 0 ≤ w
theorem Proves_some {l : List SIns} {K : Nat} (hK : 4000 < K) {s : SShape × SFault} (hs : mach_Look.f K l = some s) (hc : s.2.Code = 0) (F : Facts l s.1.Close) (w : Int) (R : List Int) : ∃ b, wcet_Proves.f K l w R = some b ∧ (b = true ↔ Shows l s.1.Close w R) := by
  have hlen := F.len
  unfold wcet_Proves.f wcet_Proves.p0
  rw [hs]
  simp only
  rw [if_pos hc]
  by_cases hl : R.length = l.length
  case neg => rw [if_neg (by omega)]; exact ⟨false, rfl, by simp; exact fun h => hl h.len⟩
  rw [if_pos (by omega)]
  simp only
  obtain ⟨r, hr, h1⟩ := iter_total (f := wcet_Proves.r1 R) (fun i => i ≤ R.length ∧ ∀ j, j < i → 0 ≤ restAt R j ∧ restAt R j ≤ 1099511627776) (fun i => R.length - i) (fun r => (r = .inl () ∧ ∀ j, 0 ≤ restAt R j ∧ restAt R j ≤ 1099511627776) ∨ (r = .inr false ∧ ¬ ∀ j, 0 ≤ restAt R j ∧ restAt R j ≤ 1099511627776)) (fun i ⟨hi, hI⟩ => by
    by_cases hlt : i < R.length
    · obtain ⟨y, hy⟩ : ∃ y, R[i]? = some y := ⟨R[i], List.getElem?_eq_getElem hlt⟩
      have hry : restAt R i = y := by unfold restAt; rw [hy]; rfl
      simp only [wcet_Proves.r1, hy]
      rw [if_pos (by omega)]
      split
      · exact .inr ⟨_, rfl, .inr ⟨rfl, fun h => by have := h i; omega⟩⟩
      · split
        · exact .inr ⟨_, rfl, .inr ⟨rfl, fun h => by have := h i; omega⟩⟩
        · refine .inl ⟨_, rfl, ⟨hlt, fun j hj => ?_⟩, by omega⟩
          by_cases hji : j = i
          · subst hji; omega
          · exact hI j (by omega)
    · right
      simp only [wcet_Proves.r1]
      rw [if_neg (by omega)]
      refine ⟨_, rfl, .inl ⟨rfl, fun j => ?_⟩⟩
      by_cases hj : j < i
      · exact hI j hj
      · have : restAt R j = 0 := by unfold restAt; rw [List.getElem?_eq_none (by omega)]; rfl
        omega) K 0 ⟨Nat.zero_le _, fun j hj => by omega⟩ (by omega)
  rw [hr]
  rcases h1 with ⟨rfl, hT⟩ | ⟨rfl, hT⟩
  case inr => exact ⟨false, rfl, by simp; exact fun h => hT h.told⟩
  simp only
  obtain ⟨r, hr, h1⟩ := iter_total (f := wcet_Proves.r2 l R s) (fun i => i ≤ l.length ∧ ∀ (j : Nat) (e : SIns), j < i → l[j]? = some e → needOf s.1.Close R j e ≤ restAt R j) (fun i => l.length - i) (fun r => (r = .inl () ∧ ∀ (j : Nat) (e : SIns), l[j]? = some e → needOf s.1.Close R j e ≤ restAt R j) ∨ (r = .inr false ∧ ¬ ∀ (j : Nat) (e : SIns), l[j]? = some e → needOf s.1.Close R j e ≤ restAt R j)) (fun i ⟨hi, hI⟩ => by
    by_cases hlt : i < l.length
    · obtain ⟨e, he⟩ : ∃ e, l[i]? = some e := ⟨l[i], List.getElem?_eq_getElem hlt⟩
      obtain ⟨y, hy⟩ : ∃ y, R[i]? = some y := ⟨R[i]'(by omega), List.getElem?_eq_getElem (by omega)⟩
      have hry : restAt R i = y := by unfold restAt; rw [hy]; rfl
      obtain ⟨n1, n2⟩ := need_eq F (inn := s.1.In) (R := R) he (fun j _ => hT j)
      simp only [wcet_Proves.r2, hy, n1]
      rw [if_pos (by omega)]
      split
      · exact .inr ⟨_, rfl, .inr ⟨rfl, fun h => by have := h i e he; omega⟩⟩
      · refine .inl ⟨_, rfl, ⟨hlt, fun j f hj hf => ?_⟩, by omega⟩
        by_cases hji : j = i
        · subst hji; rw [he] at hf; cases hf; omega
        · exact hI j f (by omega) hf
    · right
      simp only [wcet_Proves.r2]
      rw [if_neg (by omega)]
      exact ⟨_, rfl, .inl ⟨rfl, fun j e he => hI j e (by have := lt_of_get he; omega) he⟩⟩) K 0 ⟨Nat.zero_le _, fun j e hj => by omega⟩ (by omega)
  rw [hr]
  rcases h1 with ⟨rfl, hG⟩ | ⟨rfl, hG⟩
  case inr => exact ⟨false, rfl, by simp; exact fun h => hG h.ge⟩
  simp only
  rw [at_eq R 0 (by omega)]
  exact ⟨_, rfl, by simp only [decide_eq_true_eq]; exact ⟨fun h => ⟨hl, hT, hG, h⟩, fun h => h.worst⟩⟩
/-- what shows it says no less than what is just left -/
theorem Shows.least {l : List SIns} {m : List (Int × Int)} (F : Facts l m) {w : Int} {R S : List Int} (hE : Exact l m R) (hS : Shows l m w S) : ∀ j, restAt R j ≤ restAt S j := by
  have key : ∀ d j, l.length ≤ j + d → restAt R j ≤ restAt S j := by
    intro d
    induction d using Nat.strongRecOn with
    | _ d ih =>
      intro j hj
      by_cases hlt : j < l.length
      · have he : l[j]? = some l[j] := List.getElem?_eq_getElem hlt
        have h1 := hE.is j _ he
        have h2 := hS.ge j _ he
        have h3 := need_mono F (R := R) (S := S) he (fun k hk => ih (l.length - k) (by omega) k (by omega))
        omega
      · have : restAt R j = 0 := by unfold restAt; rw [List.getElem?_eq_none (by have := hE.len; omega)]; rfl
        have := (hS.told j).1
        omega
  exact fun j => key l.length j (by omega)
theorem Exact.shows {l : List SIns} {m : List (Int × Int)} {R : List Int} (hE : Exact l m R) {w : Int} (hw : restAt R 0 ≤ w) : Shows l m w R := ⟨hE.len, hE.told, fun i e he => by rw [hE.is i e he]; exact Int.le_refl _, hw⟩

theorem iter_sim {σ τ ρ ρ' : Type} {f : σ → Option (σ ⊕ ρ)} {g : τ → Option (τ ⊕ ρ')} (R : σ → τ → Prop) (μ : σ → Nat) (Q : ρ → ρ' → Prop)
    (step : ∀ s t, R s t → (∃ s' t', f s = some (.inl s') ∧ g t = some (.inl t') ∧ R s' t' ∧ μ s' < μ s) ∨ (∃ r r', f s = some (.inr r) ∧ g t = some (.inr r') ∧ Q r r')) :
    ∀ (K : Nat) (s : σ) (t : τ), R s t → μ s < K → ∃ r r', iter f K s = some r ∧ iter g K t = some r' ∧ Q r r'
  | 0, _, _, _, h => absurd h (Nat.not_lt_zero _)
  | K + 1, s, t, hR, h => by
    rcases step s t hR with ⟨s', t', h1, h2, h3, h4⟩ | ⟨r, r', h1, h2, h3⟩
    · obtain ⟨r, r', g1, g2, g3⟩ := iter_sim R μ Q step K s' t' h3 (by omega)
      exact ⟨r, r', by simp only [iter, h1]; exact g1, by simp only [iter, h2]; exact g2, g3⟩
    · exact ⟨r, r', by simp only [iter, h1], by simp only [iter, h2], h3⟩
/-- the table of the greatest operands says the same -/
theorem operand_tab (op : Int) (h : 1 ≤ op ∧ op ≤ 18) : ∃ a b, mach_operand.f op = some (a, b) ∧ ([0, 999999999, 7, 7, 0, 0, 0, 0, 0, 3, 3, 2000, 2000, 7, 7, 7, 3, 3, 1000] : List Int)[op.toNat]? = some (max a 0) ∧ max b 0 = (if op = 13 then 1000 else if op = 14 then 2000 else 0) ∧ b ≤ 2000 ∧ (op = 13 → b = 1000) ∧ (op = 18 → a = 1000) ∧ (op = 9 ∨ op = 10 ∨ op = 16 ∨ op = 17 → a = 3) ∧ (op = 2 ∨ op = 3 ∨ op = 13 ∨ op = 14 ∨ op = 15 → a = 7) := by
  have : op = 1 ∨ op = 2 ∨ op = 3 ∨ op = 4 ∨ op = 5 ∨ op = 6 ∨ op = 7 ∨ op = 8 ∨ op = 9 ∨ op = 10 ∨ op = 11 ∨ op = 12 ∨ op = 13 ∨ op = 14 ∨ op = 15 ∨ op = 16 ∨ op = 17 ∨ op = 18 := by omega
  rcases this with rfl | rfl | rfl | rfl | rfl | rfl | rfl | rfl | rfl | rfl | rfl | rfl | rfl | rfl | rfl | rfl | rfl | rfl <;> exact ⟨_, _, rfl, rfl, by decide, by decide, by decide, by decide, by decide, by decide⟩
def BadIns (e : SIns) (a b : Int) : Prop := e.A < 0 ∨ e.A > a ∨ e.B < 0 ∨ e.B > b ∨ (e.Op = 18 ∧ e.A < 1)
instance (e : SIns) (a b : Int) : Decidable (BadIns e a b) := by unfold BadIns; infer_instance
theorem wrongIns_eq (e : SIns) (h : 1 ≤ e.Op ∧ e.Op ≤ 18) (a b : Int) (ht : ([0, 999999999, 7, 7, 0, 0, 0, 0, 0, 3, 3, 2000, 2000, 7, 7, 7, 3, 3, 1000] : List Int)[e.Op.toNat]? = some a) (hb : b = (if e.Op = 13 then 1000 else if e.Op = 14 then 2000 else 0)) :
    punctualref_wrongIns.f e = some (if BadIns e a b then 3 else 0) := by
  have key : ∀ r : Option Int, (BadIns e a b → r = some 3) → (¬ BadIns e a b → r = some 0) → r = some (if BadIns e a b then 3 else 0) := fun r h1 h2 => by
    by_cases h : BadIns e a b
    · rw [if_pos h]; exact h1 h
    · rw [if_neg h]; exact h2 h
  refine key _ (fun hB => ?_) (fun hB => ?_)
  all_goals
    unfold BadIns at hB
    unfold punctualref_wrongIns.f
    rw [if_neg (by omega), if_neg (by omega), if_pos (by omega), ht]
    simp only
    by_cases h13 : e.Op = 13
    · rw [if_pos h13] at hb
      subst hb
      rw [if_pos h13, if_neg (by omega)]
      repeat' split
      all_goals first | rfl | (exfalso; omega)
    · rw [if_neg h13] at hb
      rw [if_neg h13]
      by_cases h14 : e.Op = 14
      · rw [if_pos h14] at hb
        subst hb
        rw [if_pos h14]
        repeat' split
        all_goals first | rfl | (exfalso; omega)
      · rw [if_neg h14] at hb
        subst hb
        rw [if_neg h14]
        repeat' split
        all_goals first | rfl | (exfalso; omega)
theorem ins_both (l : List SIns) (K : Nat) (hK : l.length < K) : ∃ r r', iter (mach_Look.r0 l) K 0 = some r ∧ iter (punctualref_ReadImage.r0 l) K 0 = some r' ∧ ((r = .inl () ∧ r' = .inl () ∧ ∀ (i : Nat) (e : SIns), l[i]? = some e → OkI e) ∨ ∃ s x, r = .inr (s, x) ∧ r' = .inr (none, x) ∧ x.Code ≠ 0) := by
  obtain ⟨r, r', h1, h2, h3⟩ := iter_sim (f := mach_Look.r0 l) (g := punctualref_ReadImage.r0 l) (fun i j => i = j ∧ i ≤ l.length ∧ ∀ (k : Nat) (e : SIns), k < i → l[k]? = some e → OkI e) (fun i => l.length - i)
    (fun r r' => (r = .inl () ∧ r' = .inl () ∧ ∀ (i : Nat) (e : SIns), l[i]? = some e → OkI e) ∨ ∃ s x, r = .inr (s, x) ∧ r' = .inr (none, x) ∧ x.Code ≠ 0) (fun i j ⟨hij, hi, hI⟩ => by
    subst hij
    by_cases hlt : i < l.length
    · obtain ⟨e, he⟩ : ∃ e, l[i]? = some e := ⟨l[i], List.getElem?_eq_getElem hlt⟩
      have hc : (i : Int) < (l.length : Int) := by omega
      simp only [mach_Look.r0, punctualref_ReadImage.r0, he, if_pos hc]
      have hbad6 : (e.Op < 1 ∨ e.Op > 18) → punctualref_wrongIns.f e = some 6 := fun h => by
        unfold punctualref_wrongIns.f
        rcases h with h | h
        · rw [if_pos h]
        · rw [if_neg (by omega), if_pos h]
      by_cases h1 : e.Op < 1
      · rw [if_pos h1, hbad6 (.inl h1)]; exact .inr ⟨_, _, rfl, rfl, .inr ⟨_, _, rfl, rfl, by simp [mach_Look_1.f]⟩⟩
      rw [if_neg h1]
      by_cases h2 : e.Op > 18
      · rw [if_pos h2, hbad6 (.inr h2)]; exact .inr ⟨_, _, rfl, rfl, .inr ⟨_, _, rfl, rfl, by simp [mach_Look_1.f]⟩⟩
      rw [if_neg h2]
      obtain ⟨a, b, ho, ht, hb', hb, hb13, ha18, ha3, ha7⟩ := operand_tab e.Op ⟨by omega, by omega⟩
      rw [wrongIns_eq e ⟨by omega, by omega⟩ _ _ ht hb']
      simp only [ho]
      have bad : BadIns e (max a 0) (max b 0) → (if (if BadIns e (max a 0) (max b 0) then (3 : Int) else 0) = 0 then (some (.inl (i + 1)) : Option (Nat ⊕ (Unit ⊕ ((Option PImage) × SFault)))) else some (.inr (.inr (none, punctualref_F.f (if BadIns e (max a 0) (max b 0) then (3 : Int) else 0) (i : Int))))) = some (.inr (.inr (none, ⟨3, (i : Int)⟩))) := fun h => by
        rw [if_pos h, if_neg (by decide)]; rfl
      have good : ¬ BadIns e (max a 0) (max b 0) → (if (if BadIns e (max a 0) (max b 0) then (3 : Int) else 0) = 0 then (some (.inl (i + 1)) : Option (Nat ⊕ (Unit ⊕ ((Option PImage) × SFault)))) else some (.inr (.inr (none, punctualref_F.f (if BadIns e (max a 0) (max b 0) then (3 : Int) else 0) (i : Int))))) = some (.inl (i + 1)) := fun h => by
        rw [if_neg h, if_pos rfl]
      by_cases h3 : mach_fits.f e.A a = true
      · rw [if_pos h3]
        by_cases h4 : mach_fits.f e.B b = true
        · rw [if_pos h4]
          rw [fits_iff] at h3 h4
          have next : (e.Op = 18 → e.A ≠ 0) → i + 1 ≤ l.length ∧ ∀ (k : Nat) (e : SIns), k < i + 1 → l[k]? = some e → OkI e := fun h5 => ⟨hlt, fun k f hk hf => by
            by_cases hki : k = i
            · subst hki
              rw [he] at hf
              cases hf
              refine ⟨⟨by omega, by omega⟩, h3.1, h4.1, by omega, fun h6 => ?_, fun h6 => ?_, fun h6 => (by have := ha3 h6; omega), fun h6 => (by have := ha7 h6; omega)⟩
              · have := hb13 h6; omega
              · have := ha18 h6; have := h5 h6; omega
            · exact hI k f (by omega) hf⟩
          by_cases h5 : e.Op = 18
          · rw [if_pos h5]
            by_cases h6 : e.A = 0
            · rw [if_pos h6, bad (by unfold BadIns; omega)]; exact .inr ⟨_, _, rfl, rfl, .inr ⟨_, _, rfl, rfl, by simp [mach_Look_1.f]⟩⟩
            · rw [if_neg h6, good (by unfold BadIns; omega)]; exact .inl ⟨_, _, rfl, rfl, ⟨rfl, next (fun _ => h6)⟩, by omega⟩
          · rw [if_neg h5, good (by unfold BadIns; omega)]; exact .inl ⟨_, _, rfl, rfl, ⟨rfl, next (fun h => absurd h h5)⟩, by omega⟩
        · rw [if_neg h4, bad (by rw [fits_iff] at h4; unfold BadIns; omega)]; exact .inr ⟨_, _, rfl, rfl, .inr ⟨_, _, rfl, rfl, by simp [mach_Look_1.f]⟩⟩
      · rw [if_neg h3, bad (by rw [fits_iff] at h3; unfold BadIns; omega)]; exact .inr ⟨_, _, rfl, rfl, .inr ⟨_, _, rfl, rfl, by simp [mach_Look_1.f]⟩⟩
    · right
      have hc : ¬ (i : Int) < (l.length : Int) := by omega
      simp only [mach_Look.r0, punctualref_ReadImage.r0, if_neg hc]
      exact ⟨_, _, rfl, rfl, .inl ⟨rfl, rfl, fun k e hk => hI k e (by have := lt_of_get hk; omega) hk⟩⟩) K 0 0 ⟨rfl, Nat.zero_le _, fun k e hk => by omega⟩ (by omega)
  exact ⟨r, r', h1, h2, h3⟩
theorem among_eq (K : Nat) (l : List SIns) (op inn : List Int) (m : List (Int × Int)) (x : Int) (e : SIns) : punctualref_ReadImage_1.f K x op l e = mach_looker_holds.f K l op inn m x e.A := rfl
/-- k lies in the region that o opens -/
def Cont (op : List Int) (regs : List Sregion) (k : Nat) (o : Int) : Prop := o < (k : Int) ∧ (o ∈ op ∨ ∃ c : Int, (⟨o, c⟩ : Sregion) ∈ regs ∧ (k : Int) ≤ c)
def InTop (op : List Int) (regs : List Sregion) (k : Nat) (t : Int) : Prop := (t = -1 ∧ ∀ o, ¬ Cont op regs k o) ∨ (0 ≤ t ∧ Cont op regs k t ∧ ∀ o, Cont op regs k o → o ≤ t)
structure Both (l : List SIns) (i : Nat) (op inn : List Int) (m : List (Int × Int)) (regs : List Sregion) : Prop where
  R : Regs l i op inn m
  reg : ∀ r ∈ regs, ∃ o c : Nat, r = ⟨(o : Int), (c : Int)⟩ ∧ o < c ∧ c < i ∧ mget m (o : Int) = some (c : Int)
  shut : ∀ o c : Int, mget m o = some c → (⟨o, c⟩ : Sregion) ∈ regs
  fresh : ∀ o ∈ op, mget m o = none
  few : regs.length ≤ i
  top : ∀ (k : Nat) (t : Int), k < i → inn[k]? = some t → InTop op regs k t
  back : ∀ (k : Nat) (e : SIns), k < i → l[k]? = some e → e.Op = 14 → 0 ≤ e.B ∧ e.B ≤ (k : Int)
theorem InTop.congr {op op' : List Int} {regs regs' : List Sregion} {k : Nat} {t : Int} (h : InTop op regs k t) (e : ∀ o, Cont op regs k o ↔ Cont op' regs' k o) : InTop op' regs' k t := by
  rcases h with ⟨h1, h2⟩ | ⟨h1, h2, h3⟩
  · exact .inl ⟨h1, fun o ho => h2 o ((e o).2 ho)⟩
  · exact .inr ⟨h1, (e t).1 h2, fun o ho => h3 o ((e o).2 ho)⟩
theorem refTop_eq (op : List Int) (hl : op.length ≤ 5000) : punctualref_ReadImage.p2 op = some (.inl (topOf op)) := by
  unfold punctualref_ReadImage.p2 topOf
  rcases List.eq_nil_or_concat op with rfl | ⟨o, x, rfl⟩
  · rfl
  · simp only [List.concat_eq_append, List.length_append, List.length_cons, List.length_nil] at hl ⊢
    have e1 : IntKind.i64.wrap (((o.length + (0 + 1) : Nat) : Int) - 1) = (o.length : Int) := by rw [wrap64_small (by omega) (by omega)]; omega
    rw [if_pos (by omega), e1, if_pos (by omega), Int.toNat_natCast]
    simp
/-- one instruction among regions, on both sides -/
theorem region_both (l : List SIns) (i : Nat) (op inn : List Int) (m : List (Int × Int)) (regs : List Sregion) (H : Both l i op inn m regs) (hi : i < l.length) (hl : l.length ≤ 2000) (K : Nat) (hK : 4000 < K) :
    ∃ c op' inn' m', mach_looker_region.f K l op inn m (i : Int) = some (c, op', inn', m') ∧ ((c = 0 ∧ ∃ regs', punctualref_ReadImage.r1 K l (i, op, regs) = some (.inl (i + 1, op', regs')) ∧ Both l (i + 1) op' inn' m' regs') ∨ (c ≠ 0 ∧ punctualref_ReadImage.r1 K l (i, op, regs) = some (.inr (.inr (none, ⟨c, (i : Int)⟩))))) := by
  obtain ⟨e, he⟩ : ∃ e, l[i]? = some e := ⟨l[i], List.getElem?_eq_getElem hi⟩
  have h := H.R
  have hop := h.small
  have hfew := H.few
  have hp0 : mach_looker_region.p0 l op inn m (i : Int) = some (.inl (topOf op, e.Op, e.A, e.B)) := by
    unfold mach_looker_region.p0
    rw [if_pos (by omega)]
    simp only [Int.toNat_natCast, he, top_eq l op inn m (by omega)]
  obtain ⟨y, hy⟩ : ∃ y, inn[i]? = some y := ⟨inn[i]'(by rw [h.len]; exact hi), List.getElem?_eq_getElem (by rw [h.len]; exact hi)⟩
  have hlen : (inn.set i (topOf op)).length = l.length := by rw [List.length_set]; exact h.len
  have hob : ∀ o ∈ op, 0 ≤ o ∧ o < (l.length : Int) := fun o ho => by
    obtain ⟨k, e', rfl, hk, _⟩ := h.open_ o ho
    omega
  have hhold := fun x a => holds_some l op (inn.set i (topOf op)) m x a K (by omega) hob
  -- what lies where, ahead of i and at i
  have hatop : InTop op regs i (topOf op) := by
    rcases List.eq_nil_or_concat op with h0 | ⟨o, t, h0⟩
    · left
      refine ⟨by rw [h0]; rfl, fun x hx => ?_⟩
      obtain ⟨h1, h2 | ⟨c, h2, h3⟩⟩ := hx
      · rw [h0] at h2; cases h2
      · obtain ⟨o, c', hr, _, hc, _⟩ := H.reg _ h2
        injection hr with hr1 hr2
        omega
    · rw [List.concat_eq_append] at h0
      have htop : topOf op = t := by rw [h0]; simp [topOf]
      have ht : t ∈ op := by rw [h0]; simp
      obtain ⟨kt, _, hkt, hlt, _⟩ := h.open_ t ht
      right
      rw [htop]
      refine ⟨by omega, ⟨by omega, .inl ht⟩, fun x hx => ?_⟩
      obtain ⟨h1, h2 | ⟨c, h2, h3⟩⟩ := hx
      · rw [h0] at h2
        rcases List.mem_append.1 h2 with h2 | h2
        · have hup := h.up
          rw [h0] at hup
          have := (List.pairwise_append.1 hup).2.2 x h2 t (by simp)
          omega
        · rw [List.mem_singleton.1 h2]; exact Int.le_refl _
      · obtain ⟨o, c', hr, _, hc, _⟩ := H.reg _ h2
        injection hr with hr1 hr2
        omega
  have tops : ∀ {op' : List Int} {regs' : List Sregion}, (∀ k, k ≤ i → ∀ o, Cont op regs k o ↔ Cont op' regs' k o) → ∀ (k : Nat) (t : Int), k < i + 1 → (inn.set i (topOf op))[k]? = some t → InTop op' regs' k t := fun hc k t hk ht => by
    by_cases hki : k = i
    · subst hki
      rw [List.getElem?_set_self (by rw [h.len]; exact hi)] at ht
      cases ht
      exact hatop.congr (hc k (Nat.le_refl _))
    · rw [List.getElem?_set_ne (fun e => hki e.symm)] at ht
      exact (H.top k t (by omega) ht).congr (hc k (by omega))
  have regs1 : ∀ r ∈ regs, ∃ o c : Nat, r = ⟨(o : Int), (c : Int)⟩ ∧ o < c ∧ c < i + 1 ∧ mget m (o : Int) = some (c : Int) := fun r hr => by
    obtain ⟨o, c, h1, h2, h3, h4⟩ := H.reg r hr
    exact ⟨o, c, h1, h2, by omega, h4⟩
  -- one that opens none and closes none
  have stay : (e.Op ≠ 13 ∧ e.Op ≠ 16 ∧ e.Op ≠ 14) → Both l (i + 1) op (inn.set i (topOf op)) m regs := fun hne => ⟨⟨hlen, fun o ho => by
      obtain ⟨k, e', h1, h2, h3⟩ := h.open_ o ho
      exact ⟨k, e', h1, by omega, h3⟩, h.up, by omega, fun k f hk hf hfo => by
      by_cases hki : k = i
      · subst hki; rw [he] at hf; cases hf; omega
      · rcases h.shut k f (by omega) hf hfo with h1 | ⟨c, h1, h2, h3⟩
        · exact .inl h1
        · exact .inr ⟨c, h1, h2, by omega⟩, fun k f hk hf hf14 => by
      by_cases hki : k = i
      · subst hki; rw [he] at hf; cases hf; omega
      · exact h.back k f (by omega) hf hf14⟩, regs1, H.shut, H.fresh, by omega, tops (fun k hk o => Iff.rfl), fun k f hk hf hf14 => by
      by_cases hki : k = i
      · subst hki; rw [he] at hf; cases hf; omega
      · exact H.back k f (by omega) hf hf14⟩
  -- one that opens one
  have opens : (e.Op = 13 ∨ e.Op = 16) → Both l (i + 1) (op ++ [(i : Int)]) (inn.set i (topOf op)) m regs := fun ho => ⟨⟨hlen, fun o ho' => by
      rcases List.mem_append.1 ho' with h1 | h1
      · obtain ⟨k, e', h1, h2, h3⟩ := h.open_ o h1
        exact ⟨k, e', h1, by omega, h3⟩
      · exact ⟨i, e, List.mem_singleton.1 h1, by omega, he, ho⟩, List.pairwise_append.2 ⟨h.up, by simp, fun a ha b hb => by
      rw [List.mem_singleton.1 hb]
      obtain ⟨k, _, rfl, hk, _⟩ := h.open_ a ha
      omega⟩, by simp; omega, fun k f hk hf hfo => by
      by_cases hki : k = i
      · subst hki; exact .inl (by simp)
      · rcases h.shut k f (by omega) hf hfo with h1 | ⟨c, h1, h2, h3⟩
        · exact .inl (by simp [h1])
        · exact .inr ⟨c, h1, h2, by omega⟩, fun k f hk hf hf14 => by
      by_cases hki : k = i
      · subst hki; rw [he] at hf; cases hf; omega
      · exact h.back k f (by omega) hf hf14⟩, regs1, H.shut, fun o ho' => by
      rcases List.mem_append.1 ho' with h1 | h1
      · exact H.fresh o h1
      · rw [List.mem_singleton.1 h1]
        cases hm : mget m (i : Int) with
        | none => rfl
        | some c =>
          obtain ⟨o, c', hr, h2, h3, _⟩ := H.reg _ (H.shut _ _ hm)
          injection hr with hr1 hr2
          omega, by omega, tops (fun k hk o => by
      unfold Cont
      constructor
      · rintro ⟨h1, h2 | h2⟩
        · exact ⟨h1, .inl (by simp [h2])⟩
        · exact ⟨h1, .inr h2⟩
      · rintro ⟨h1, h2 | h2⟩
        · rcases List.mem_append.1 h2 with h2 | h2
          · exact ⟨h1, .inl h2⟩
          · have := List.mem_singleton.1 h2; omega
        · exact ⟨h1, .inr h2⟩), fun k f hk hf hf14 => by
      by_cases hki : k = i
      · subst hki; rw [he] at hf; cases hf; omega
      · exact H.back k f (by omega) hf hf14⟩
  -- one that closes one
  have closes : ∀ (o : List Int) (t : Int), op = o ++ [t] → (e.Op = 14 ∧ e.B = t + 1 ∨ e.Op = 17) → Both l (i + 1) o (inn.set i (topOf op)) (mset m t (i : Int)) (regs ++ [⟨t, (i : Int)⟩]) := fun o t hot hco => by
    have hup := h.up
    rw [hot] at hup
    have hup := List.pairwise_append.1 hup
    have ht : t ∈ op := by rw [hot]; simp
    obtain ⟨kt, et, hkt, hlt, _, _⟩ := h.open_ t ht
    have hfr := H.fresh t ht
    have hsub : ∀ x ∈ o, x ∈ op := fun x hx => by rw [hot]; simp [hx]
    have hno : ∀ x ∈ o, x ≠ t := fun x hx hxt => by have := hup.2.2 x hx t (by simp); omega
    refine ⟨⟨hlen, fun o' ho' => by
      obtain ⟨k, e', h1, h2, h3⟩ := h.open_ o' (hsub o' ho')
      exact ⟨k, e', h1, by omega, h3⟩, hup.1, by have : op.length = o.length + 1 := by rw [hot]; simp
                                                 omega, fun k f hk hf hfo => ?_, fun k f hk hf hf14 => ?_⟩, fun r hr => ?_, fun x c hx => ?_, fun x hx => ?_, by simp; omega, tops (fun k hk x => ?_), fun k f hk hf hf14 => ?_⟩
    · rw [mget_mset']
      by_cases hki : k = i
      · subst hki; rw [he] at hf; cases hf; omega
      · rcases h.shut k f (by omega) hf hfo with h1 | ⟨c, h1, h2, h3⟩
        · rw [hot] at h1
          rcases List.mem_append.1 h1 with h1 | h1
          · exact .inl h1
          · have := List.mem_singleton.1 h1
            rw [if_pos this]
            exact .inr ⟨i, rfl, by omega, by omega⟩
        · by_cases hkt' : (k : Int) = t
          · rw [if_pos hkt']
            exact .inr ⟨i, rfl, by omega, by omega⟩
          · rw [if_neg hkt']
            exact .inr ⟨c, h1, h2, by omega⟩
    · by_cases hki : k = i
      · subst hki; rw [he] at hf; cases hf
        rcases hco with ⟨_, h1⟩ | h1
        · omega
        · omega
      · exact h.back k f (by omega) hf hf14
    · rcases List.mem_append.1 hr with hr | hr
      · obtain ⟨a, c, h1, h2, h3, h4⟩ := H.reg r hr
        refine ⟨a, c, h1, h2, by omega, ?_⟩
        rw [mget_mset', if_neg (fun hat => by rw [hat, hfr] at h4; cases h4)]
        exact h4
      · rw [List.mem_singleton.1 hr]
        exact ⟨kt, i, by rw [hkt], by omega, by omega, by rw [mget_mset', if_pos hkt.symm]⟩
    · rw [mget_mset'] at hx
      split at hx
      · rename_i hxt
        cases hx
        rw [hxt]; simp
      · exact List.mem_append_left _ (H.shut x c hx)
    · rw [mget_mset', if_neg (hno x hx)]
      exact H.fresh x (hsub x hx)
    · unfold Cont
      constructor
      · rintro ⟨h1, h2 | ⟨c, h2, h3⟩⟩
        · rw [hot] at h2
          rcases List.mem_append.1 h2 with h2 | h2
          · exact ⟨h1, .inl h2⟩
          · rw [List.mem_singleton.1 h2] at h1 ⊢
            exact ⟨h1, .inr ⟨(i : Int), by simp, by omega⟩⟩
        · exact ⟨h1, .inr ⟨c, by simp [h2], h3⟩⟩
      · rintro ⟨h1, h2 | ⟨c, h2, h3⟩⟩
        · exact ⟨h1, .inl (hsub x h2)⟩
        · rcases List.mem_append.1 h2 with h2 | h2
          · exact ⟨h1, .inr ⟨c, h2, h3⟩⟩
          · have hr := List.mem_singleton.1 h2
            injection hr with hr1 hr2
            exact ⟨h1, .inl (by rw [hr1]; exact ht)⟩
    · by_cases hki : k = i
      · subst hki; rw [he] at hf; cases hf
        rcases hco with ⟨_, h1⟩ | h1
        · omega
        · omega
      · exact H.back k f (by omega) hf hf14
  have htop : ∀ {z : Int}, topOf op = z → ¬ z < 0 → ∃ o, op = o ++ [z] := fun {z} hz h0 => by
    rcases List.eq_nil_or_concat op with rfl | ⟨o, t, rfl⟩
    · simp [topOf] at hz; omega
    · rw [List.concat_eq_append] at hz ⊢
      simp [topOf] at hz
      exact ⟨o, by rw [hz]⟩
  have hr2 := refTop_eq op (by omega)
  generalize hz : topOf op = z at *
  have hc1 : (0 : Int) ≤ (i : Int) := by omega
  have hc2 : (i : Int) < (l.length : Int) := by omega
  have hc3 : op.length < 17592186044416 := by omega
  have hc4 : regs.length < 8796093022208 := by omega
  unfold mach_looker_region.f
  rw [hp0]
  simp only [Int.toNat_natCast, hy, punctualref_ReadImage.r1, he, hr2, if_pos hc1, if_pos hc2]
  by_cases h13 : e.Op = 13
  · have hp1 : mach_looker_region.p1 e.Op = some (.inl true) := by unfold mach_looker_region.p1; rw [if_pos h13]
    have hp3 : punctualref_ReadImage.p3 e = some (.inl true) := by unfold punctualref_ReadImage.p3; rw [if_pos h13]
    obtain ⟨b, hb⟩ := hhold e.Op e.A
    simp only [hp1, hp3, if_true, among_eq K l op (inn.set i z) m, hb]
    cases b with
    | true =>
      simp only [if_true, if_pos h13]
      refine ⟨_, _, _, _, rfl, .inr ⟨by decide, ?_⟩⟩
      rw [h13]; rfl
    | false =>
      simp only [Bool.false_eq_true, if_false, if_pos hc3]
      exact ⟨_, _, _, _, rfl, .inl ⟨rfl, _, rfl, opens (.inl h13)⟩⟩
  by_cases h16 : e.Op = 16
  · have hp1 : mach_looker_region.p1 e.Op = some (.inl true) := by unfold mach_looker_region.p1; rw [if_neg h13, h16]; rfl
    have hp3 : punctualref_ReadImage.p3 e = some (.inl true) := by unfold punctualref_ReadImage.p3; rw [if_neg h13, h16]; rfl
    obtain ⟨b, hb⟩ := hhold e.Op e.A
    simp only [hp1, hp3, if_true, among_eq K l op (inn.set i z) m, hb]
    cases b with
    | true =>
      simp only [if_true, if_neg h13]
      refine ⟨_, _, _, _, rfl, .inr ⟨by decide, ?_⟩⟩
      rw [h16]; rfl
    | false =>
      simp only [Bool.false_eq_true, if_false, if_pos hc3]
      exact ⟨_, _, _, _, rfl, .inl ⟨rfl, _, rfl, opens (.inr h16)⟩⟩
  have hp1 : mach_looker_region.p1 e.Op = some (.inl false) := by
    unfold mach_looker_region.p1
    rw [if_neg h13]
    have : (e.Op == 16) = false := by simpa using h16
    rw [this]
  have hp3 : punctualref_ReadImage.p3 e = some (.inl false) := by
    unfold punctualref_ReadImage.p3
    rw [if_neg h13]
    have : (e.Op == 16) = false := by simpa using h16
    rw [this]
  simp only [hp1, hp3, Bool.false_eq_true, if_false]
  have hcut : ∀ o : List Int, op = o ++ [z] → IntKind.i64.wrap ((op.length : Int) - 1) = (o.length : Int) ∧ op.take o.length = o ∧ o.length ≤ op.length := fun o ho => by
    have : op.length = o.length + 1 := by rw [ho]; simp
    refine ⟨by rw [wrap64_small (by omega) (by omega)]; omega, by rw [ho]; simp, by omega⟩
  by_cases h14 : e.Op = 14
  · have hp4 : punctualref_ReadImage.p4 e = some (.inl true) := by unfold punctualref_ReadImage.p4; rw [if_pos h14]
    have e9 : ((mget (mset (mset ([] : List (Int × Int)) 14 9) 17 10) e.Op).getD 0) = 9 := by rw [h14]; rfl
    have e13 : ((mget (mset (mset ([] : List (Int × Int)) 14 13) 17 16) e.Op).getD 0) = 13 := by rw [h14]; rfl
    simp only [hp4, if_true]
    rw [if_pos h14]
    unfold punctualref_ReadImage.p5
    simp only [e9, e13]
    by_cases hz0 : z < 0
    · rw [if_pos hz0, if_pos hz0]; exact ⟨_, _, _, _, rfl, .inr ⟨by decide, rfl⟩⟩
    have hz1 : 0 ≤ z := by omega
    rw [if_neg hz0, if_neg hz0, if_pos hz1, if_pos hz1]
    obtain ⟨o, hopo⟩ := htop rfl hz0
    obtain ⟨kt, et, hkt0, hkt, het, _⟩ := h.open_ z (by rw [hopo]; simp)
    have hzn : z.toNat = kt := by omega
    simp only [hzn, het]
    by_cases g1 : et.Op = 13
    case neg => rw [if_neg g1, if_neg g1]; exact ⟨_, _, _, _, rfl, .inr ⟨by decide, rfl⟩⟩
    rw [if_pos g1, if_pos g1]
    by_cases g2 : et.A = e.A
    case neg => rw [if_neg g2, if_neg g2]; exact ⟨_, _, _, _, rfl, .inr ⟨by decide, rfl⟩⟩
    rw [if_pos g2, if_pos g2, if_pos h14]
    by_cases g3 : e.B = IntKind.i64.wrap (z + 1)
    case neg => rw [if_neg g3, if_neg g3]; exact ⟨_, _, _, _, rfl, .inr ⟨by decide, rfl⟩⟩
    rw [if_pos g3, if_pos g3]
    obtain ⟨c1, c2, c3⟩ := hcut o hopo
    rw [c1]
    have hc5 : (0 : Int) ≤ (o.length : Int) := by omega
    simp only [Int.toNat_natCast, c2, if_pos hc4, if_pos hc5, if_pos c3]
    rw [wrap64_small (by omega) (by omega)] at g3
    have hcl := close_eq l o (inn.set i z) z m (i : Int) (by omega)
    rw [← hopo] at hcl
    rw [hcl]
    exact ⟨_, _, _, _, rfl, .inl ⟨rfl, _, rfl, closes o z hopo (.inl ⟨h14, g3⟩)⟩⟩
  rw [if_neg h14]
  by_cases h17 : e.Op = 17
  · have hp4 : punctualref_ReadImage.p4 e = some (.inl true) := by unfold punctualref_ReadImage.p4; rw [if_neg h14, h17]; rfl
    have e9 : ((mget (mset (mset ([] : List (Int × Int)) 14 9) 17 10) e.Op).getD 0) = 10 := by rw [h17]; rfl
    have e13 : ((mget (mset (mset ([] : List (Int × Int)) 14 13) 17 16) e.Op).getD 0) = 16 := by rw [h17]; rfl
    simp only [hp4, if_true]
    rw [if_pos h17]
    unfold punctualref_ReadImage.p5
    simp only [e9, e13]
    by_cases hz0 : z < 0
    · rw [if_pos hz0, if_pos hz0]; exact ⟨_, _, _, _, rfl, .inr ⟨by decide, rfl⟩⟩
    have hz1 : 0 ≤ z := by omega
    rw [if_neg hz0, if_neg hz0, if_pos hz1, if_pos hz1]
    obtain ⟨o, hopo⟩ := htop rfl hz0
    obtain ⟨kt, et, hkt0, hkt, het, _⟩ := h.open_ z (by rw [hopo]; simp)
    have hzn : z.toNat = kt := by omega
    simp only [hzn, het]
    by_cases g1 : et.Op = 16
    case neg => rw [if_neg g1, if_neg g1]; exact ⟨_, _, _, _, rfl, .inr ⟨by decide, rfl⟩⟩
    rw [if_pos g1, if_pos g1]
    by_cases g2 : et.A = e.A
    case neg => rw [if_neg g2, if_neg g2]; exact ⟨_, _, _, _, rfl, .inr ⟨by decide, rfl⟩⟩
    rw [if_pos g2, if_pos g2, if_neg h14]
    obtain ⟨c1, c2, c3⟩ := hcut o hopo
    rw [c1]
    have hc5 : (0 : Int) ≤ (o.length : Int) := by omega
    simp only [Int.toNat_natCast, c2, if_pos hc4, if_pos hc5, if_pos c3]
    have hcl := close_eq l o (inn.set i z) z m (i : Int) (by omega)
    rw [← hopo] at hcl
    rw [hcl]
    exact ⟨_, _, _, _, rfl, .inl ⟨rfl, _, rfl, closes o z hopo (.inr h17)⟩⟩
  rw [if_neg h17]
  have hp4 : punctualref_ReadImage.p4 e = some (.inl false) := by
    unfold punctualref_ReadImage.p4
    rw [if_neg h14]
    have : (e.Op == 17) = false := by simpa using h17
    rw [this]
  simp only [hp4, Bool.false_eq_true, if_false]
  by_cases h15 : e.Op = 15
  · rw [if_pos h15, if_pos h15]
    obtain ⟨b, hb⟩ := hhold 13 e.A
    simp only [among_eq K l op (inn.set i z) m, hb]
    cases b with
    | true => simp only [if_true]; exact ⟨_, _, _, _, rfl, .inl ⟨rfl, _, rfl, stay ⟨h13, h16, h14⟩⟩⟩
    | false => simp only [Bool.false_eq_true, if_false]; exact ⟨_, _, _, _, rfl, .inr ⟨by decide, rfl⟩⟩
  · rw [if_neg h15, if_neg h15]
    exact ⟨_, _, _, _, rfl, .inl ⟨rfl, _, rfl, stay ⟨h13, h16, h14⟩⟩⟩

theorem inner_spec (l : List SIns) (K : Nat) (regs : List Sregion) (x : Int) (hK : regs.length < K) : ∃ r, punctualref_Image_inner.f K l regs x = some r ∧ ((r = (⟨0, 0⟩, false) ∧ ∀ q ∈ regs, ¬ (q.open_ < x ∧ x ≤ q.close)) ∨ (r.2 = true ∧ r.1 ∈ regs ∧ r.1.open_ < x ∧ x ≤ r.1.close ∧ ∀ q ∈ regs, q.open_ < x → x ≤ q.close → q.open_ ≤ r.1.open_)) := by
  obtain ⟨r, hr, h⟩ := iter_total (f := punctualref_Image_inner.r0 regs x) (fun s => s.2.1 ≤ regs.length ∧ ((s.1 = false ∧ s.2.2 = (0, 0) ∧ ∀ (j : Nat) (q : Sregion), j < s.2.1 → regs[j]? = some q → ¬ (q.open_ < x ∧ x ≤ q.close)) ∨ (s.1 = true ∧ (⟨s.2.2.1, s.2.2.2⟩ : Sregion) ∈ regs ∧ s.2.2.1 < x ∧ x ≤ s.2.2.2 ∧ ∀ (j : Nat) (q : Sregion), j < s.2.1 → regs[j]? = some q → q.open_ < x → x ≤ q.close → q.open_ ≤ s.2.2.1))) (fun s => regs.length - s.2.1)
    (fun r => ∃ b z1 z2, r = .inl (b, z1, z2) ∧ ((b = false ∧ z1 = 0 ∧ z2 = 0 ∧ ∀ q ∈ regs, ¬ (q.open_ < x ∧ x ≤ q.close)) ∨ (b = true ∧ (⟨z1, z2⟩ : Sregion) ∈ regs ∧ z1 < x ∧ x ≤ z2 ∧ ∀ q ∈ regs, q.open_ < x → x ≤ q.close → q.open_ ≤ z1))) (fun s ⟨hi, hI⟩ => by
      obtain ⟨b, i, z1, z2⟩ := s
      simp only at hi hI
      by_cases hlt : i < regs.length
      · obtain ⟨q, hq⟩ : ∃ q, regs[i]? = some q := ⟨regs[i], List.getElem?_eq_getElem hlt⟩
        have hc : (i : Int) < (regs.length : Int) := by omega
        have hmem := List.mem_of_getElem? hq
        have skip : ¬ (q.open_ < x ∧ x ≤ q.close) → i + 1 ≤ regs.length ∧ ((b = false ∧ (z1, z2) = (0, 0) ∧ ∀ (j : Nat) (q : Sregion), j < i + 1 → regs[j]? = some q → ¬ (q.open_ < x ∧ x ≤ q.close)) ∨ (b = true ∧ (⟨z1, z2⟩ : Sregion) ∈ regs ∧ z1 < x ∧ x ≤ z2 ∧ ∀ (j : Nat) (q : Sregion), j < i + 1 → regs[j]? = some q → q.open_ < x → x ≤ q.close → q.open_ ≤ z1)) := fun hn => ⟨hlt, by
          rcases hI with ⟨h1, h2, h3⟩ | ⟨h1, h2, h3, h4, h5⟩
          · refine .inl ⟨h1, h2, fun j p hj hp => ?_⟩
            by_cases hji : j = i
            · subst hji; rw [hq] at hp; cases hp; exact hn
            · exact h3 j p (by omega) hp
          · refine .inr ⟨h1, h2, h3, h4, fun j p hj hp g1 g2 => ?_⟩
            by_cases hji : j = i
            · subst hji; rw [hq] at hp; cases hp; exact absurd ⟨g1, g2⟩ hn
            · exact h5 j p (by omega) hp g1 g2⟩
        have take : q.open_ < x → x ≤ q.close → (b = true → z1 < q.open_) → i + 1 ≤ regs.length ∧ ((true = false ∧ (q.open_, q.close) = (0, 0) ∧ ∀ (j : Nat) (q : Sregion), j < i + 1 → regs[j]? = some q → ¬ (q.open_ < x ∧ x ≤ q.close)) ∨ (true = true ∧ (⟨q.open_, q.close⟩ : Sregion) ∈ regs ∧ q.open_ < x ∧ x ≤ q.close ∧ ∀ (j : Nat) (p : Sregion), j < i + 1 → regs[j]? = some p → p.open_ < x → x ≤ p.close → p.open_ ≤ q.open_)) := fun g1 g2 g3 => ⟨hlt, .inr ⟨rfl, hmem, g1, g2, fun j p hj hp k1 k2 => by
          by_cases hji : j = i
          · subst hji; rw [hq] at hp; cases hp; exact Int.le_refl _
          · rcases hI with ⟨h1, h2, h3⟩ | ⟨h1, h2, h3, h4, h5⟩
            · exact absurd ⟨k1, k2⟩ (h3 j p (by omega) hp)
            · have := h5 j p (by omega) hp k1 k2
              have := g3 h1
              omega⟩⟩
        left
        simp only [punctualref_Image_inner.r0, hq, if_pos hc]
        by_cases g1 : q.open_ < x
        · rw [if_pos g1]
          by_cases g2 : x ≤ q.close
          · rw [if_pos g2]
            cases b with
            | true =>
              rw [if_pos rfl]
              by_cases g3 : q.open_ > z1
              · rw [if_pos g3]; exact ⟨_, rfl, take g1 g2 (fun _ => g3), by simp only; omega⟩
              · rw [if_neg g3]
                refine ⟨_, rfl, ⟨hlt, .inr ?_⟩, by simp only; omega⟩
                rcases hI with ⟨h1, h2, h3⟩ | ⟨h1, h2, h3, h4, h5⟩
                · cases h1
                · refine ⟨h1, h2, h3, h4, fun j p hj hp k1 k2 => ?_⟩
                  simp only at hj ⊢
                  by_cases hji : j = i
                  · subst hji; rw [hq] at hp; cases hp; omega
                  · exact h5 j p (by omega) hp k1 k2
            | false =>
              rw [if_neg (by decide)]; exact ⟨_, rfl, take g1 g2 (fun h => by cases h), by simp only; omega⟩
          · rw [if_neg g2]; exact ⟨_, rfl, skip (fun h => g2 h.2), by simp only; omega⟩
        · rw [if_neg g1]; exact ⟨_, rfl, skip (fun h => g1 h.1), by simp only; omega⟩
      · right
        have hc : ¬ (i : Int) < (regs.length : Int) := by omega
        simp only [punctualref_Image_inner.r0, if_neg hc]
        refine ⟨_, rfl, _, _, _, rfl, ?_⟩
        rcases hI with ⟨h1, h2, h3⟩ | ⟨h1, h2, h3, h4, h5⟩
        · cases h2
          refine .inl ⟨h1, rfl, rfl, fun q hq => ?_⟩
          obtain ⟨j, hj⟩ := List.mem_iff_getElem?.1 hq
          exact h3 j q (by have := lt_of_get hj; omega) hj
        · refine .inr ⟨h1, h2, h3, h4, fun q hq => ?_⟩
          obtain ⟨j, hj⟩ := List.mem_iff_getElem?.1 hq
          exact h5 j q (by have := lt_of_get hj; omega) hj) K (false, 0, 0, 0) ⟨Nat.zero_le _, .inl ⟨rfl, rfl, fun j q hj => by simp at hj⟩⟩ (by simp only; omega)
  obtain ⟨b, z1, z2, rfl, h⟩ := h
  unfold punctualref_Image_inner.f
  rw [hr]
  refine ⟨_, rfl, ?_⟩
  rcases h with ⟨rfl, rfl, rfl, h⟩ | ⟨rfl, h1, h2, h3, h4⟩
  · exact .inl ⟨rfl, h⟩
  · exact .inr ⟨rfl, h1, h2, h3, h4⟩
/-- the innermost region, as the program's list tells it -/
theorem inner_at {l : List SIns} {n : Nat} {inn : List Int} {m : List (Int × Int)} {regs : List Sregion} (H : Both l n [] inn m regs) (K : Nat) (hK : regs.length < K) {k : Nat} {t : Int} (hk : k < n) (ht : inn[k]? = some t) :
    ∃ r, punctualref_Image_inner.f K l regs (k : Int) = some r ∧ ((t = -1 ∧ r = (⟨0, 0⟩, false)) ∨ (0 ≤ t ∧ ∃ c, r = (⟨t, c⟩, true) ∧ mget m t = some c)) := by
  obtain ⟨r, hr, h⟩ := inner_spec l K regs (k : Int) hK
  refine ⟨r, hr, ?_⟩
  have hreg := fun (q : Sregion) (hq : q ∈ regs) => H.reg q hq
  rcases H.top k t hk ht with ⟨h1, h2⟩ | ⟨h1, ⟨h2, h3⟩, h4⟩
  · refine .inl ⟨h1, ?_⟩
    rcases h with ⟨h, _⟩ | ⟨_, g2, g3, g4, _⟩
    · exact h
    · exact absurd ⟨g3, .inr ⟨r.1.close, g2, g4⟩⟩ (h2 r.1.open_)
  · obtain ⟨c, hc1, hc2⟩ := h3.resolve_left (by simp)
    refine .inr ⟨h1, ?_⟩
    rcases h with ⟨_, h⟩ | ⟨g1, g2, g3, g4, g5⟩
    · exact absurd ⟨h2, hc2⟩ (h _ hc1)
    · obtain ⟨⟨a, b⟩, q⟩ := r
      simp only at g1 g2 g3 g4 g5
      subst g1
      have e1 := g5 _ hc1 h2 hc2
      have e2 := h4 a ⟨g3, .inr ⟨b, g2, g4⟩⟩
      simp only at e1
      have : a = t := by omega
      subst this
      obtain ⟨o, c', q1, _, _, q2⟩ := hreg _ g2
      injection q1 with q3 q4
      exact ⟨b, rfl, by rw [q3, q4]; exact q2⟩
theorem inner_end {l : List SIns} {n : Nat} {inn : List Int} {m : List (Int × Int)} {regs : List Sregion} (H : Both l n [] inn m regs) (K : Nat) (hK : regs.length < K) :
    punctualref_Image_inner.f K l regs (n : Int) = some (⟨0, 0⟩, false) := by
  obtain ⟨r, hr, h⟩ := inner_spec l K regs (n : Int) hK
  rcases h with ⟨h, _⟩ | ⟨_, g2, g3, g4, _⟩
  · rw [hr, h]
  · obtain ⟨o, c, q1, _, q3, _⟩ := H.reg _ g2
    rw [q1] at g4
    simp only at g4
    omega
theorem jumps_both {l : List SIns} {inn : List Int} {m : List (Int × Int)} {regs : List Sregion} (H : Both l l.length [] inn m regs) (hok : ∀ (i : Nat) (e : SIns), l[i]? = some e → OkI e) (hl : l.length ≤ 2000) (K : Nat) (hK : 4000 < K) :
    ∃ r r', iter (mach_Look.r2 l inn) K 0 = some r ∧ iter (punctualref_ReadImage.r6 K l regs) K 0 = some r' ∧ ((r = .inl () ∧ r' = .inl () ∧ Jump l ∧ ∀ (k : Nat) (e : SIns), l[k]? = some e → (e.Op = 11 ∨ e.Op = 12) → ∃ t, inn[k]? = some t ∧ (e.A < (l.length : Int) → inn[e.A.toNat]? = some t) ∧ (e.A = (l.length : Int) → t = -1)) ∨ ∃ s x, r = .inr (s, x) ∧ r' = .inr (none, x) ∧ x.Code ≠ 0) := by
  have hin := H.R.len
  have hfew := H.few
  obtain ⟨r, r', h1, h2, h3⟩ := iter_sim (f := mach_Look.r2 l inn) (g := punctualref_ReadImage.r6 K l regs) (fun i j => i = j ∧ i ≤ l.length ∧ ∀ (k : Nat) (e : SIns), k < i → l[k]? = some e → (e.Op = 11 ∨ e.Op = 12) → ((k : Int) < e.A ∧ e.A ≤ (l.length : Int)) ∧ ∃ t, inn[k]? = some t ∧ (e.A < (l.length : Int) → inn[e.A.toNat]? = some t) ∧ (e.A = (l.length : Int) → t = -1)) (fun i => l.length - i)
    (fun r r' => (r = .inl () ∧ r' = .inl () ∧ ∀ (k : Nat) (e : SIns), l[k]? = some e → (e.Op = 11 ∨ e.Op = 12) → ((k : Int) < e.A ∧ e.A ≤ (l.length : Int)) ∧ ∃ t, inn[k]? = some t ∧ (e.A < (l.length : Int) → inn[e.A.toNat]? = some t) ∧ (e.A = (l.length : Int) → t = -1)) ∨ ∃ s x, r = .inr (s, x) ∧ r' = .inr (none, x) ∧ x.Code ≠ 0) (fun i j ⟨hij, hi, hI⟩ => by
    subst hij
    by_cases hlt : i < l.length
    · obtain ⟨e, he⟩ : ∃ e, l[i]? = some e := ⟨l[i], List.getElem?_eq_getElem hlt⟩
      have hA := (hok i e he).A
      have hc : (i : Int) < (l.length : Int) := by omega
      obtain ⟨y, hy⟩ : ∃ y, inn[i]? = some y := ⟨inn[i]'(by omega), List.getElem?_eq_getElem (by omega)⟩
      obtain ⟨ri, hri, hri2⟩ := inner_at H K (by omega) hlt hy
      have next : ((e.Op = 11 ∨ e.Op = 12) → ((i : Int) < e.A ∧ e.A ≤ (l.length : Int)) ∧ ∃ t, inn[i]? = some t ∧ (e.A < (l.length : Int) → inn[e.A.toNat]? = some t) ∧ (e.A = (l.length : Int) → t = -1)) → i = i ∧ i + 1 ≤ l.length ∧ ∀ (k : Nat) (e : SIns), k < i + 1 → l[k]? = some e → (e.Op = 11 ∨ e.Op = 12) → ((k : Int) < e.A ∧ e.A ≤ (l.length : Int)) ∧ ∃ t, inn[k]? = some t ∧ (e.A < (l.length : Int) → inn[e.A.toNat]? = some t) ∧ (e.A = (l.length : Int) → t = -1) := fun h => ⟨rfl, hlt, fun k f hk hf hop => by
        by_cases hki : k = i
        · subst hki; rw [he] at hf; cases hf; exact h hop
        · exact hI k f (by omega) hf hop⟩
      obtain ⟨ra, hra, hra2⟩ := inner_spec l K regs e.A (by omega)
      simp only [mach_Look.r2, punctualref_ReadImage.r6, he, hy, if_pos hc, hri, hra, if_pos hA]
      -- what the comparison comes to
      have cmpIn : (i : Int) < e.A → e.A < (l.length : Int) → ∃ x, inn[e.A.toNat]? = some x ∧ ((x = y ∧ ri.2 = ra.2 ∧ Sregion.eqb ri.1 ra.1 = true) ∨ (x ≠ y ∧ ¬ (ri.2 = ra.2 ∧ Sregion.eqb ri.1 ra.1 = true))) := fun g1 g2 => by
        obtain ⟨x, hx⟩ : ∃ x, inn[e.A.toNat]? = some x := ⟨inn[e.A.toNat]'(by omega), List.getElem?_eq_getElem (by omega)⟩
        obtain ⟨rb, hrb, hrb2⟩ := inner_at H K (by omega) (k := e.A.toNat) (by omega) hx
        have : ((e.A.toNat : Nat) : Int) = e.A := by omega
        rw [this, hra] at hrb
        cases hrb
        refine ⟨x, hx, ?_⟩
        rcases hri2 with ⟨a1, a2⟩ | ⟨a1, c, a2, a3⟩ <;> rcases hrb2 with ⟨b1, b2⟩ | ⟨b1, d, b2, b3⟩
        · left; subst a1; subst b1; subst a2; subst b2; exact ⟨rfl, rfl, rfl⟩
        · right; subst a2; subst b2; exact ⟨by omega, fun h => by simp at h⟩
        · right; subst a2; subst b2; exact ⟨by omega, fun h => by simp at h⟩
        · subst a2; subst b2
          by_cases hxy : x = y
          · left
            subst hxy
            rw [a3] at b3
            cases b3
            exact ⟨rfl, rfl, by simp [Sregion.eqb]⟩
          · right
            refine ⟨hxy, fun h => ?_⟩
            simp only [Sregion.eqb, Bool.and_eq_true, beq_iff_eq] at h
            exact hxy h.2.1.symm
      have cmpEnd : e.A = (l.length : Int) → ((-1 : Int) = y ∧ ri.2 = ra.2 ∧ Sregion.eqb ri.1 ra.1 = true) ∨ ((-1 : Int) ≠ y ∧ ¬ (ri.2 = ra.2 ∧ Sregion.eqb ri.1 ra.1 = true)) := fun g => by
        have hend := inner_end H K (by omega)
        rw [← g, hra] at hend
        cases hend
        rcases hri2 with ⟨a1, a2⟩ | ⟨a1, c, a2, a3⟩
        · left; subst a2; subst a1; exact ⟨rfl, rfl, rfl⟩
        · right; subst a2; exact ⟨by omega, fun h => by simp at h⟩
      have bad : ∀ (A B : Option (Nat ⊕ (Unit ⊕ (SShape × SFault)))) (C : Option (Nat ⊕ (Unit ⊕ ((Option PImage) × SFault)))), (∃ s, A = some (.inr (.inr (s, ⟨7, (i : Int)⟩)))) → C = some (.inr (.inr (none, ⟨7, (i : Int)⟩))) → (∃ s' t', A = some (.inl s') ∧ C = some (.inl t') ∧ (s' = t' ∧ s' ≤ l.length ∧ ∀ (k : Nat) (e : SIns), k < s' → l[k]? = some e → (e.Op = 11 ∨ e.Op = 12) → ((k : Int) < e.A ∧ e.A ≤ (l.length : Int)) ∧ ∃ t, inn[k]? = some t ∧ (e.A < (l.length : Int) → inn[e.A.toNat]? = some t) ∧ (e.A = (l.length : Int) → t = -1)) ∧ l.length - s' < l.length - i) ∨ (∃ r r', A = some (.inr r) ∧ C = some (.inr r') ∧ ((r = .inl () ∧ r' = .inl () ∧ ∀ (k : Nat) (e : SIns), l[k]? = some e → (e.Op = 11 ∨ e.Op = 12) → ((k : Int) < e.A ∧ e.A ≤ (l.length : Int)) ∧ ∃ t, inn[k]? = some t ∧ (e.A < (l.length : Int) → inn[e.A.toNat]? = some t) ∧ (e.A = (l.length : Int) → t = -1)) ∨ ∃ s x, r = .inr (s, x) ∧ r' = .inr (none, x) ∧ x.Code ≠ 0)) := fun A B C ⟨s, hs⟩ hC => .inr ⟨_, _, hs, hC, .inr ⟨_, _, rfl, rfl, by simp⟩⟩
      by_cases hAl : e.A < (l.length : Int)
      · obtain ⟨x, hx⟩ : ∃ x, inn[e.A.toNat]? = some x := ⟨inn[e.A.toNat]'(by omega), List.getElem?_eq_getElem (by omega)⟩
        simp only [hx, if_pos hAl]
        by_cases h11 : e.Op = 11
        · rw [if_pos h11, if_pos h11]
          by_cases g1 : e.A ≤ (i : Int)
          · rw [if_pos g1, if_pos g1]; exact bad _ none _ ⟨_, rfl⟩ rfl
          rw [if_neg g1, if_neg g1]
          by_cases g2 : e.A > (l.length : Int)
          · omega
          rw [if_neg g2, if_neg g2]
          obtain ⟨x', hx', hcmp⟩ := cmpIn (by omega) hAl
          rw [hx] at hx'
          cases hx'
          rcases hcmp with ⟨q1, q2, q3⟩ | ⟨q1, q2⟩
          · rw [if_pos q1, if_pos q2, if_pos q3]; exact .inl ⟨_, _, rfl, rfl, ⟨rfl, (next (fun _ => ⟨by omega, y, hy, fun _ => by rw [← q1]; exact hx, fun h => by omega⟩)).2⟩, by omega⟩
          · rw [if_neg q1]
            refine bad _ none _ ⟨_, rfl⟩ ?_
            split
            · split
              · rename_i k1 k2; exact absurd ⟨k1, k2⟩ q2
              · rfl
            · rfl
        · rw [if_neg h11, if_neg h11]
          by_cases h12 : e.Op = 12
          · rw [if_pos h12, if_pos h12]
            by_cases g1 : e.A ≤ (i : Int)
            · rw [if_pos g1, if_pos g1]; exact bad _ none _ ⟨_, rfl⟩ rfl
            rw [if_neg g1, if_neg g1]
            by_cases g2 : e.A > (l.length : Int)
            · omega
            rw [if_neg g2, if_neg g2]
            obtain ⟨x', hx', hcmp⟩ := cmpIn (by omega) hAl
            rw [hx] at hx'
            cases hx'
            rcases hcmp with ⟨q1, q2, q3⟩ | ⟨q1, q2⟩
            · rw [if_pos q1, if_pos q2, if_pos q3]; exact .inl ⟨_, _, rfl, rfl, ⟨rfl, (next (fun _ => ⟨by omega, y, hy, fun _ => by rw [← q1]; exact hx, fun h => by omega⟩)).2⟩, by omega⟩
            · rw [if_neg q1]
              refine bad _ none _ ⟨_, rfl⟩ ?_
              split
              · split
                · rename_i k1 k2; exact absurd ⟨k1, k2⟩ q2
                · rfl
              · rfl
          · rw [if_neg h12, if_neg h12]
            exact .inl ⟨_, _, rfl, rfl, ⟨rfl, (next (fun h => by omega)).2⟩, by omega⟩
      · simp only [if_neg hAl]
        by_cases h11 : e.Op = 11
        · rw [if_pos h11, if_pos h11]
          by_cases g1 : e.A ≤ (i : Int)
          · omega
          rw [if_neg g1, if_neg g1]
          by_cases g2 : e.A > (l.length : Int)
          · rw [if_pos g2, if_pos g2]; exact bad _ none _ ⟨_, rfl⟩ rfl
          rw [if_neg g2, if_neg g2]
          rcases cmpEnd (by omega) with ⟨q1, q2, q3⟩ | ⟨q1, q2⟩
          · rw [if_pos q1, if_pos q2, if_pos q3]; exact .inl ⟨_, _, rfl, rfl, ⟨rfl, (next (fun _ => ⟨by omega, y, hy, fun h => absurd h hAl, fun _ => q1.symm⟩)).2⟩, by omega⟩
          · rw [if_neg q1]
            refine bad _ none _ ⟨_, rfl⟩ ?_
            split
            · split
              · rename_i k1 k2; exact absurd ⟨k1, k2⟩ q2
              · rfl
            · rfl
        · rw [if_neg h11, if_neg h11]
          by_cases h12 : e.Op = 12
          · rw [if_pos h12, if_pos h12]
            by_cases g1 : e.A ≤ (i : Int)
            · omega
            rw [if_neg g1, if_neg g1]
            by_cases g2 : e.A > (l.length : Int)
            · rw [if_pos g2, if_pos g2]; exact bad _ none _ ⟨_, rfl⟩ rfl
            rw [if_neg g2, if_neg g2]
            rcases cmpEnd (by omega) with ⟨q1, q2, q3⟩ | ⟨q1, q2⟩
            · rw [if_pos q1, if_pos q2, if_pos q3]; exact .inl ⟨_, _, rfl, rfl, ⟨rfl, (next (fun _ => ⟨by omega, y, hy, fun h => absurd h hAl, fun _ => q1.symm⟩)).2⟩, by omega⟩
            · rw [if_neg q1]
              refine bad _ none _ ⟨_, rfl⟩ ?_
              split
              · split
                · rename_i k1 k2; exact absurd ⟨k1, k2⟩ q2
                · rfl
              · rfl
          · rw [if_neg h12, if_neg h12]
            exact .inl ⟨_, _, rfl, rfl, ⟨rfl, (next (fun h => by omega)).2⟩, by omega⟩
    · right
      have hc : ¬ (i : Int) < (l.length : Int) := by omega
      simp only [mach_Look.r2, punctualref_ReadImage.r6, if_neg hc]
      exact ⟨_, _, rfl, rfl, .inl ⟨rfl, rfl, fun k e hk => hI k e (by have := lt_of_get hk; omega) hk⟩⟩) K 0 0 ⟨rfl, Nat.zero_le _, fun k e hk => by omega⟩ (by omega)
  refine ⟨r, r', h1, h2, ?_⟩
  rcases h3 with ⟨g1, g2, g3⟩ | h3
  · exact .inl ⟨g1, g2, fun k e he ho => (g3 k e he ho).1, fun k e he ho => (g3 k e he ho).2⟩
  · exact .inr h3

theorem pops_tab (op : Int) (h : 1 ≤ op ∧ op ≤ 18) : ([0, 0, 0, 1, 2, 2, 2, 2, 2, 0, 1, 0, 1, 0, 0, 0, 0, 0, 0] : List Int)[op.toNat]? = some (mach_pops.f op).1 ∧ ([0, 1, 1, 0, 1, 1, 1, 1, 1, 1, 0, 0, 0, 0, 0, 0, 0, 0, 0] : List Int)[op.toNat]? = some (mach_pops.f op).2 ∧ 0 ≤ (mach_pops.f op).1 ∧ (mach_pops.f op).1 ≤ 2 ∧ 0 ≤ (mach_pops.f op).2 ∧ (mach_pops.f op).2 ≤ 1 := by
  have : op = 1 ∨ op = 2 ∨ op = 3 ∨ op = 4 ∨ op = 5 ∨ op = 6 ∨ op = 7 ∨ op = 8 ∨ op = 9 ∨ op = 10 ∨ op = 11 ∨ op = 12 ∨ op = 13 ∨ op = 14 ∨ op = 15 ∨ op = 16 ∨ op = 17 ∨ op = 18 := by omega
  rcases this with rfl | rfl | rfl | rfl | rfl | rfl | rfl | rfl | rfl | rfl | rfl | rfl | rfl | rfl | rfl | rfl | rfl | rfl <;> exact ⟨rfl, rfl, by decide, by decide, by decide, by decide⟩
/-- the heights that are known, as a row and as a map -/
structure Hgt (n i : Nat) (h : List Int) (mp : List (Int × Int)) : Prop where
  len : h.length = n + 1
  at_ : ∀ k : Nat, k ≤ n → h[k]? = some ((mget mp (k : Int)).getD (-1))
  ok : ∀ (k v : Int), mget mp k = some v → 0 ≤ v ∧ v ≤ 20
  seen : ∀ k : Nat, k < i → ∃ v, mget mp (k : Int) = some v
theorem Hgt.put {n i : Nat} {h : List Int} {mp : List (Int × Int)} (H : Hgt n i h mp) {x : Nat} (hx : x ≤ n) {v : Int} (hv : 0 ≤ v ∧ v ≤ 20) : Hgt n i (h.set x v) (mset mp (x : Int) v) := by
  refine ⟨by rw [List.length_set]; exact H.len, fun k hk => ?_, fun k w hk => ?_, fun k hk => ?_⟩
  · rw [mget_mset']
    by_cases hkx : k = x
    · subst hkx; rw [List.getElem?_set_self (by rw [H.len]; omega), if_pos rfl]; rfl
    · rw [List.getElem?_set_ne (fun e => hkx e.symm), if_neg (by omega)]; exact H.at_ k hk
  · rw [mget_mset'] at hk
    split at hk
    · cases hk; exact hv
    · exact H.ok k w hk
  · rw [mget_mset']
    split
    · exact ⟨_, rfl⟩
    · exact H.seen k hk
/-- the same again -/
theorem Hgt.same {n i : Nat} {h : List Int} {mp : List (Int × Int)} (H : Hgt n i h mp) {x : Nat} (hx : x ≤ n) {v : Int} (hm : mget mp (x : Int) = some v) : Hgt n i h (mset mp (x : Int) v) := by
  refine ⟨H.len, fun k hk => ?_, fun k w hk => ?_, fun k hk => ?_⟩
  · rw [mget_mset', H.at_ k hk]
    split
    · rename_i e; rw [e, hm]
    · rfl
  · rw [mget_mset'] at hk
    split at hk
    · cases hk; exact H.ok _ _ hm
    · exact H.ok k w hk
  · rw [mget_mset']
    split
    · exact ⟨_, rfl⟩
    · exact H.seen k hk
theorem to_both {n i : Nat} {h : List Int} {mp : List (Int × Int)} (H : Hgt n i h mp) {x : Int} (hx : 0 ≤ x ∧ x ≤ (n : Int)) {v : Int} (hv : 0 ≤ v ∧ v ≤ 20) :
    (∃ w, mget mp x = some w ∧ w ≠ v ∧ mach_heights_1.f x v h = some (false, h)) ∨ ((∀ w, mget mp x = some w → w = v) ∧ ∃ h', mach_heights_1.f x v h = some (true, h') ∧ Hgt n i h' (mset mp x v)) := by
  obtain ⟨k, rfl⟩ : ∃ k : Nat, x = (k : Int) := ⟨x.toNat, by omega⟩
  have hk := H.at_ k (by omega)
  have hs : (h.set k v)[k]? = some v := by rw [List.getElem?_set_self (by rw [H.len]; omega)]
  simp only [mach_heights_1.f, if_pos hx.1, Int.toNat_natCast, hk, hs]
  cases hm : mget mp (k : Int) with
  | none =>
    right
    refine ⟨fun w hw => (by cases hw), ?_⟩
    simp only [Option.getD_none]
    rw [if_pos (by decide)]
    exact ⟨_, by simp, H.put (by omega) hv⟩
  | some w =>
    have := H.ok _ _ hm
    simp only [Option.getD_some]
    rw [if_neg (by omega)]
    by_cases hw : w = v
    · right
      subst hw
      exact ⟨fun w' hw' => by cases hw'; rfl, _, by simp, H.same (by omega) hm⟩
    · left
      exact ⟨w, rfl, hw, by simp [hw]⟩
/-- does a place hold another height? -/
def Clash (mp : List (Int × Int)) (x v : Int) : Prop := ∃ w, mget mp x = some w ∧ w ≠ v
theorem r4_step {i : Nat} {mp mp3 : List (Int × Int)} {e4 e5 v x : Int} {L : List Int} {j : Nat} (hj : L[j]? = some x) (hv : IntKind.i64.wrap (IntKind.i64.wrap (((mget mp (i : Int)).getD 0) - e4) + e5) = v) :
    (Clash mp3 x v → punctualref_stackFault.r4 i mp e4 e5 L (j, mp3) = some (.inr (.inr ⟨8, (i : Int)⟩))) ∧ (¬ Clash mp3 x v → punctualref_stackFault.r4 i mp e4 e5 L (j, mp3) = some (.inl (j + 1, mset mp3 x v))) := by
  have hlt := lt_of_get hj
  have hc : (j : Int) < (L.length : Int) := by omega
  simp only [punctualref_stackFault.r4, if_pos hc, hj, hv]
  constructor
  · rintro ⟨w, h1, h2⟩
    rw [h1]
    simp only [Option.isSome_some, if_true, Option.getD_some]
    rw [if_neg h2]; rfl
  · intro h
    cases hm : mget mp3 x with
    | none => simp
    | some w =>
      have hw : w = v := Classical.byContradiction fun hne => h ⟨w, hm, hne⟩
      simp [hw]
theorem r4_end {i : Nat} {mp mp3 : List (Int × Int)} {e4 e5 : Int} {L : List Int} : punctualref_stackFault.r4 i mp e4 e5 L (L.length, mp3) = some (.inr (.inl mp3)) := by
  simp only [punctualref_stackFault.r4]
  rw [if_neg (by omega)]
theorem heights_both (l : List SIns) (hl : l.length ≤ 2000) (hok : ∀ (i : Nat) (e : SIns), l[i]? = some e → OkI e) (hJ : Jump l) (hB : ∀ (k : Nat) (e : SIns), l[k]? = some e → e.Op = 14 → 0 ≤ e.B ∧ e.B ≤ (k : Int)) (K : Nat) (hK : 4000 < K) :
    ∃ x, mach_heights.f K l = some x ∧ punctualref_stackFault.f K l = some x ∧ (x.Code ≠ 0 ∨ x = ⟨0, 0⟩) := by
  have e0 : IntKind.i64.wrap ((l.length : Int) + 1) = ((l.length + 1 : Nat) : Int) := by rw [wrap64_small (by omega) (by omega)]; omega
  obtain ⟨r0, hr0, m0, rfl, hm0, hm1⟩ := iter_total (f := mach_heights.r0 l) (fun s => ∃ i : Nat, s.1 = (i : Int) ∧ i ≤ l.length + 1 ∧ s.2.length = l.length + 1 ∧ ∀ k, k < i → s.2[k]? = some (-1)) (fun s => (l.length + 1 - s.1.toNat)) (fun r => ∃ m : List Int, r = .inl m ∧ m.length = l.length + 1 ∧ ∀ k, k < l.length + 1 → m[k]? = some (-1)) (fun s ⟨i, h1, h2, h3, h4⟩ => by
    obtain ⟨z, m⟩ := s
    simp only at h1 h3 h4
    subst h1
    simp only [mach_heights.r0, e0, Int.toNat_natCast, List.length_replicate]
    by_cases hlt : i < l.length + 1
    · obtain ⟨y, hy⟩ : ∃ y, m[i]? = some y := ⟨m[i]'(by omega), List.getElem?_eq_getElem (by omega)⟩
      have e1 : IntKind.i64.wrap ((i : Int) + 1) = ((i + 1 : Nat) : Int) := by rw [wrap64_small (by omega) (by omega)]; omega
      simp only [hy, e1]
      rw [if_pos (by omega), if_pos (by omega)]
      refine .inl ⟨_, rfl, ⟨i + 1, rfl, by omega, by simp only [List.length_set]; exact h3, fun k hk => ?_⟩, by simp only; omega⟩
      simp only
      by_cases hki : k = i
      · subst hki; rw [List.getElem?_set_self (by omega)]
      · rw [List.getElem?_set_ne (fun e => hki e.symm)]; exact h4 k (by omega)
    · rw [if_neg (by omega)]
      exact .inr ⟨_, rfl, m, rfl, h3, fun k hk => h4 k (by omega)⟩) K (0, List.replicate (l.length + 1) 0) ⟨0, rfl, by omega, by simp, fun k hk => by omega⟩ (by simp; omega)
  obtain ⟨k3, hk3⟩ : ∃ k, K = k + 3 := ⟨K - 3, by omega⟩
  have hstart : Hgt l.length 0 (m0.set 0 0) (mset ([] : List (Int × Int)) 0 0) := by
    refine ⟨by simp only [List.length_set]; exact hm0, fun k hk => ?_, fun k v hk => ?_, fun k hk => by omega⟩
    · by_cases h0 : k = 0
      · subst h0; rw [List.getElem?_set_self (by omega)]; rfl
      · rw [List.getElem?_set_ne (fun e => h0 e.symm), hm1 k (by omega)]
        simp [mset, mget, h0]
    · simp only [mset, mget] at hk
      split at hk
      · cases hk; omega
      · cases hk
  obtain ⟨r1, r1', hr1, hr1', h1⟩ := iter_sim (f := mach_heights.r1 l) (g := punctualref_stackFault.r0 K l) (fun s t => s.1 = t.1 ∧ s.1 ≤ l.length ∧ Hgt l.length s.1 s.2 t.2) (fun s => l.length - s.1)
    (fun r r' => (∃ m mp, r = .inl m ∧ r' = .inl mp ∧ Hgt l.length l.length m mp) ∨ ∃ x : SFault, r = .inr x ∧ r' = .inr x ∧ x.Code ≠ 0) (fun s t ⟨hst, hi, H⟩ => by
    obtain ⟨i, m⟩ := s
    obtain ⟨j, mp⟩ := t
    simp only at hst hi H
    subst hst
    by_cases hlt : i < l.length
    · obtain ⟨e, he⟩ : ∃ e, l[i]? = some e := ⟨l[i], List.getElem?_eq_getElem hlt⟩
      have hc : (i : Int) < (l.length : Int) := by omega
      have ho := hok i e he
      have hop := ho.op
      have hy := H.at_ i (by omega)
      obtain ⟨t1, t2, d1, d2, u1, u2⟩ := pops_tab e.Op hop
      simp only [mach_heights.r1, punctualref_stackFault.r0, if_pos hc, he, hy]
      have bad8 : ∀ {A : Option ((Nat × (List Int)) ⊕ ((List Int) ⊕ SFault))} {C : Option ((Nat × (List (Int × Int))) ⊕ ((List (Int × Int)) ⊕ SFault))} (x : SFault), x.Code ≠ 0 → A = some (.inr (.inr x)) → C = some (.inr (.inr x)) → (∃ s' t', A = some (.inl s') ∧ C = some (.inl t') ∧ (s'.1 = t'.1 ∧ s'.1 ≤ l.length ∧ Hgt l.length s'.1 s'.2 t'.2) ∧ l.length - s'.1 < l.length - i) ∨ ∃ r r', A = some (.inr r) ∧ C = some (.inr r') ∧ ((∃ m mp, r = .inl m ∧ r' = .inl mp ∧ Hgt l.length l.length m mp) ∨ ∃ x : SFault, r = .inr x ∧ r' = .inr x ∧ x.Code ≠ 0) := fun x hx hA hC => .inr ⟨_, _, hA, hC, .inr ⟨x, rfl, rfl, hx⟩⟩
      cases hmi : mget mp (i : Int) with
      | none =>
        simp only [Option.getD_none, Option.isSome_none]
        rw [if_pos (by decide), if_neg (by decide)]
        exact bad8 _ (by simp) rfl rfl
      | some v =>
        obtain ⟨v0, v20⟩ := H.ok _ _ hmi
        have hv0 : ¬ v < 0 := by omega
        have hop0 : 0 ≤ e.Op := by omega
        simp only [Option.getD_some, Option.isSome_some, if_true, if_neg hv0, if_pos hop0, t1, t2]
        generalize hd : (mach_pops.f e.Op).1 = dn at *
        generalize hu : (mach_pops.f e.Op).2 = up at *
        by_cases hge : v ≥ dn
        case neg =>
          have hp1 : punctualref_stackFault.p1 i mp e = some (.inr ⟨8, (i : Int)⟩) := by
            unfold punctualref_stackFault.p1
            simp only [if_pos hop0, t1, hmi, Option.getD_some]
            rw [if_pos (by omega)]; rfl
          have hp3 : mach_heights.p3 m e = some (.inl (false, m)) := by
            unfold mach_heights.p3
            split
            · rfl
            · split <;> rfl
          simp only [if_neg hge, hp1, hp3, Bool.false_eq_true, if_false]
          refine bad8 ⟨8, (i : Int)⟩ (by simp) ?_ rfl
          split <;> split <;> rfl
        have w1 : IntKind.i64.wrap (IntKind.i64.wrap (v - dn) + up) = v - dn + up := by rw [wrap64_small (n := v - dn) (by omega) (by omega), wrap64_small (by omega) (by omega)]
        have w2 : IntKind.i64.wrap (v + IntKind.i64.wrap (up - dn)) = v - dn + up := by rw [wrap64_small (n := up - dn) (by omega) (by omega), wrap64_small (by omega) (by omega)]; omega
        simp only [if_pos hge, w2]
        by_cases h20 : v - dn + up ≤ 20
        case neg =>
          have hp1 : punctualref_stackFault.p1 i mp e = some (.inr ⟨8, (i : Int)⟩) := by
            unfold punctualref_stackFault.p1
            simp only [if_pos hop0, t1, t2, hmi, Option.getD_some, w1]
            rw [if_neg (by omega), if_pos (by omega)]; rfl
          have hp2 : mach_heights.p2 m e v = some (.inl (false, m)) := by
            unfold mach_heights.p2
            simp only [hd, hu, w1, if_neg h20]
            split
            · rfl
            · split
              · rfl
              · simp [h20]
          simp only [hp1, hp2, Bool.false_eq_true, if_false]
          refine bad8 ⟨8, (i : Int)⟩ (by simp) ?_ rfl
          split <;> split <;> rfl
        have hp1 : punctualref_stackFault.p1 i mp e = some (.inl ()) := by
          unfold punctualref_stackFault.p1
          simp only [if_pos hop0, t1, t2, hmi, Option.getD_some, w1]
          rw [if_neg (by omega), if_neg (by omega)]
        simp only [hp1]
        have hV : 0 ≤ v - dn + up ∧ v - dn + up ≤ 20 := by omega
        have w3 : IntKind.i64.wrap (IntKind.i64.wrap (((mget mp (i : Int)).getD 0) - dn) + up) = v - dn + up := by rw [hmi]; exact w1
        generalize hh : v - dn + up = hn at *
        -- to the one behind
        have nxt : ∀ {m' : List Int} {mp' : List (Int × Int)}, Hgt l.length i m' mp' → (∃ v, mget mp' (i : Int) = some v) → Hgt l.length (i + 1) m' mp' := fun H' hs => ⟨H'.len, H'.at_, H'.ok, fun k hk => by
          by_cases hki : k = i
          · subst hki; exact hs
          · exact H'.seen k (by omega)⟩
        have keepi : ∀ {mp' : List (Int × Int)} (x w : Int), (∃ v, mget mp' (i : Int) = some v) → ∃ v, mget (mset mp' x w) (i : Int) = some v := fun x w hs => by
          rw [mget_mset']
          split
          · exact ⟨_, rfl⟩
          · exact hs
        have small0 : ([] : List Int).length < 17592186044416 := by decide
        have hstep := fun (L : List Int) (mp3 : List (Int × Int)) (j : Nat) (x : Int) (hj : L[j]? = some x) => r4_step (i := i) (mp := mp) (mp3 := mp3) (e4 := dn) (e5 := up) hj w3
        -- the reference's round over one or two
        have one : ∀ (x : Int), (Clash mp x hn → iter (punctualref_stackFault.r4 i mp dn up [x]) K (0, mp) = some (.inr ⟨8, (i : Int)⟩)) ∧ (¬ Clash mp x hn → iter (punctualref_stackFault.r4 i mp dn up [x]) K (0, mp) = some (.inl (mset mp x hn))) := fun x => by
          obtain ⟨s1, s2⟩ := hstep [x] mp 0 x rfl
          rw [hk3]
          refine ⟨fun h => by simp only [iter, s1 h], fun h => ?_⟩
          have := r4_end (i := i) (mp := mp) (mp3 := mset mp x hn) (e4 := dn) (e5 := up) (L := [x])
          simp only [List.length_cons, List.length_nil, Nat.zero_add] at this
          simp only [iter, s2 h, Nat.zero_add, this]
        have two : ∀ (x y : Int), (Clash mp x hn → iter (punctualref_stackFault.r4 i mp dn up [x, y]) K (0, mp) = some (.inr ⟨8, (i : Int)⟩)) ∧ (¬ Clash mp x hn → Clash (mset mp x hn) y hn → iter (punctualref_stackFault.r4 i mp dn up [x, y]) K (0, mp) = some (.inr ⟨8, (i : Int)⟩)) ∧ (¬ Clash mp x hn → ¬ Clash (mset mp x hn) y hn → iter (punctualref_stackFault.r4 i mp dn up [x, y]) K (0, mp) = some (.inl (mset (mset mp x hn) y hn))) := fun x y => by
          obtain ⟨s1, s2⟩ := hstep [x, y] mp 0 x rfl
          obtain ⟨s3, s4⟩ := hstep [x, y] (mset mp x hn) 1 y rfl
          rw [hk3]
          refine ⟨fun h => by simp only [iter, s1 h], fun h g => ?_, fun h g => ?_⟩
          · simp only [iter, s2 h, Nat.zero_add, s3 g]
          · have := r4_end (i := i) (mp := mp) (mp3 := mset (mset mp x hn) y hn) (e4 := dn) (e5 := up) (L := [x, y])
            simp only [List.length_cons, List.length_nil, Nat.zero_add] at this
            simp only [iter, s2 h, Nat.zero_add, s4 g, this]
        have noclash : ∀ {mp' : List (Int × Int)} {x : Int}, (∀ w, mget mp' x = some w → w = hn) → ¬ Clash mp' x hn := fun h ⟨w, h1, h2⟩ => h2 (h w h1)
        by_cases h11 : e.Op = 11
        · have hA := hJ i e he (.inl h11)
          have h14 : ¬ e.Op = 14 := by omega
          have hp2r : punctualref_stackFault.p2 e = some (.inl [e.A]) := by unfold punctualref_stackFault.p2; rw [if_pos h11, if_neg h14, if_pos small0]; rfl
          have hp3r : punctualref_stackFault.p3 i e [e.A] = some (.inl [e.A]) := by unfold punctualref_stackFault.p3; rw [if_pos h11]
          simp only [hp2r, hp3r]
          obtain ⟨o1, o2⟩ := one e.A
          rcases to_both H (x := e.A) ⟨by omega, by omega⟩ hV with ⟨w, q1, q2, q3⟩ | ⟨q1, m', q3, q4⟩
          · have hp2 : mach_heights.p2 m e v = some (.inl (false, m)) := by
              unfold mach_heights.p2
              simp only [if_pos h11, hd, hu, w1, w2, if_pos h20, q3]
            simp only [hp2, if_neg h14, if_pos h11, Bool.false_eq_true, if_false, o1 ⟨w, q1, q2⟩]
            exact bad8 ⟨8, (i : Int)⟩ (by simp) rfl rfl
          · have hp2 : mach_heights.p2 m e v = some (.inl (true, m')) := by
              unfold mach_heights.p2
              simp only [if_pos h11, hd, hu, w1, w2, if_pos h20, q3]
            simp only [hp2, if_neg h14, if_pos h11, if_true, o2 (noclash q1)]
            exact .inl ⟨_, _, rfl, rfl, ⟨rfl, by simp only; omega, nxt q4 (keepi _ _ ⟨v, hmi⟩)⟩, by simp only; omega⟩
        by_cases h12 : e.Op = 12
        · have hA := hJ i e he (.inr h12)
          have h14 : ¬ e.Op = 14 := by omega
          have hp2r : punctualref_stackFault.p2 e = some (.inl [e.A]) := by unfold punctualref_stackFault.p2; rw [if_neg h11, if_pos h12, if_neg h14, if_pos small0]; rfl
          have hp3r : punctualref_stackFault.p3 i e [e.A] = some (.inl [e.A, ((i + 1 : Nat) : Int)]) := by unfold punctualref_stackFault.p3; rw [if_neg h11, if_pos (by simp)]; rfl
          simp only [hp2r, hp3r]
          obtain ⟨o1, o2, o3⟩ := two e.A ((i + 1 : Nat) : Int)
          rcases to_both H (x := e.A) ⟨by omega, by omega⟩ hV with ⟨w, q1, q2, q3⟩ | ⟨q1, m', q3, q4⟩
          · have hp2 : mach_heights.p2 m e v = some (.inl (false, m)) := by
              unfold mach_heights.p2
              simp only [if_neg h11, if_pos h12, hd, hu, w1, w2, if_pos h20, q3]
            simp only [hp2, if_neg h14, if_neg h11, Bool.false_eq_true, if_false, o1 ⟨w, q1, q2⟩]
            exact bad8 ⟨8, (i : Int)⟩ (by simp) rfl rfl
          · have hp2 : mach_heights.p2 m e v = some (.inl (true, m')) := by
              unfold mach_heights.p2
              simp only [if_neg h11, if_pos h12, hd, hu, w1, w2, if_pos h20, q3]
            rcases to_both q4 (x := ((i + 1 : Nat) : Int)) ⟨by omega, by omega⟩ hV with ⟨w, g1, g2, g3⟩ | ⟨g1, m2, g3, g4⟩
            · simp only [hp2, if_neg h14, if_neg h11, if_true, g3, Bool.false_eq_true, if_false, o2 (noclash q1) ⟨w, g1, g2⟩]
              exact bad8 ⟨8, (i : Int)⟩ (by simp) rfl rfl
            · simp only [hp2, if_neg h14, if_neg h11, if_true, g3, o3 (noclash q1) (noclash g1)]
              exact .inl ⟨_, _, rfl, rfl, ⟨rfl, by simp only; omega, nxt g4 (keepi _ _ (keepi _ _ ⟨v, hmi⟩))⟩, by simp only; omega⟩
        have hp2 : mach_heights.p2 m e v = some (.inl (true, m)) := by
          unfold mach_heights.p2
          simp only [if_neg h11, if_neg h12, hd, hu, w1]
          simp [h20]
        by_cases h14 : e.Op = 14
        · obtain ⟨b1, b2⟩ := hB i e he h14
          obtain ⟨kb, hkb⟩ : ∃ k : Nat, e.B = (k : Int) := ⟨e.B.toNat, by omega⟩
          have hp2r : punctualref_stackFault.p2 e = some (.inl [e.B]) := by unfold punctualref_stackFault.p2; rw [if_neg h11, if_neg h12, if_pos h14, if_pos small0]; rfl
          have hp3r : punctualref_stackFault.p3 i e [e.B] = some (.inl [e.B, ((i + 1 : Nat) : Int)]) := by unfold punctualref_stackFault.p3; rw [if_neg h11, if_pos (by simp)]; rfl
          simp only [hp2r, hp3r]
          obtain ⟨o1, o2, o3⟩ := two e.B ((i + 1 : Nat) : Int)
          have hknown : ∃ w, mget mp e.B = some w := by
            rw [hkb]
            by_cases hki : kb = i
            · subst hki; exact ⟨v, hmi⟩
            · exact H.seen kb (by omega)
          obtain ⟨w, hw⟩ := hknown
          have hyB : m[e.B.toNat]? = some w := by
            have := H.at_ kb (by omega)
            rw [hkb] at hw ⊢
            rw [Int.toNat_natCast, this, hw]; rfl
          simp only [hp2, if_pos h14, if_true, if_pos b1, hyB, if_neg h11]
          by_cases hwn : w = hn
          · subst hwn
            simp only [if_true]
            have H2 : Hgt l.length i m (mset mp e.B w) := by
              rw [hkb]
              exact H.same (by omega) (by rw [← hkb]; exact hw)
            have hnc : ¬ Clash mp e.B w := fun ⟨z, z1, z2⟩ => by rw [hw] at z1; cases z1; exact z2 rfl
            rcases to_both H2 (x := ((i + 1 : Nat) : Int)) ⟨by omega, by omega⟩ hV with ⟨z, g1, g2, g3⟩ | ⟨g1, m2, g3, g4⟩
            · simp only [g3, Bool.false_eq_true, if_false, o2 hnc ⟨z, g1, g2⟩]
              exact bad8 ⟨8, (i : Int)⟩ (by simp) rfl rfl
            · simp only [g3, if_true, o3 hnc (noclash g1)]
              exact .inl ⟨_, _, rfl, rfl, ⟨rfl, by simp only; omega, nxt g4 (keepi _ _ (keepi _ _ ⟨v, hmi⟩))⟩, by simp only; omega⟩
          · simp only [if_neg hwn, o1 ⟨w, hw, hwn⟩]
            exact bad8 ⟨8, (i : Int)⟩ (by simp) rfl rfl
        · have hp2r : punctualref_stackFault.p2 e = some (.inl []) := by unfold punctualref_stackFault.p2; rw [if_neg h11, if_neg h12, if_neg h14]
          have hp3r : punctualref_stackFault.p3 i e [] = some (.inl [((i + 1 : Nat) : Int)]) := by unfold punctualref_stackFault.p3; rw [if_neg h11, if_pos small0]; rfl
          simp only [hp2r, hp3r]
          obtain ⟨o1, o2⟩ := one ((i + 1 : Nat) : Int)
          rcases to_both H (x := ((i + 1 : Nat) : Int)) ⟨by omega, by omega⟩ hV with ⟨w, q1, q2, q3⟩ | ⟨q1, m', q3, q4⟩
          · simp only [hp2, if_neg h14, if_neg h11, if_true, q3, Bool.false_eq_true, if_false, o1 ⟨w, q1, q2⟩]
            exact bad8 ⟨8, (i : Int)⟩ (by simp) rfl rfl
          · simp only [hp2, if_neg h14, if_neg h11, if_true, q3, o2 (noclash q1)]
            exact .inl ⟨_, _, rfl, rfl, ⟨rfl, by simp only; omega, nxt q4 (keepi _ _ ⟨v, hmi⟩)⟩, by simp only; omega⟩
    · right
      obtain rfl : i = l.length := by omega
      have hc : ¬ (l.length : Int) < (l.length : Int) := by omega
      simp only [mach_heights.r1, punctualref_stackFault.r0, if_neg hc]
      exact ⟨_, _, rfl, rfl, .inl ⟨m, mp, rfl, rfl, H⟩⟩) K (0, m0.set 0 0) (0, mset [] 0 0) ⟨rfl, Nat.zero_le _, hstart⟩ (by simp only; omega)
  unfold mach_heights.f punctualref_stackFault.f
  have hc1 : (0 : Int) ≤ ((l.length + 1 : Nat) : Int) := by omega
  have hc2 : l.length + 1 ≤ 17592186044416 := by omega
  simp only [e0, Int.toNat_natCast, if_pos hc1, if_pos hc2, hr0, hm1 0 (by omega), hr1, hr1']
  rcases h1 with ⟨m, mp, rfl, rfl, H⟩ | ⟨x, rfl, rfl, hx⟩
  · have hend := H.at_ l.length (Nat.le_refl _)
    simp only [hend]
    cases hm : mget mp (l.length : Int) with
    | none => exact ⟨_, rfl, rfl, .inr rfl⟩
    | some v =>
      have := H.ok _ _ hm
      simp only [Option.getD_some]
      by_cases hv : v > 0
      · rw [if_pos hv, if_neg (by omega)]; exact ⟨_, rfl, rfl, .inl (by simp)⟩
      · rw [if_neg hv, if_pos (by omega)]; exact ⟨_, rfl, rfl, .inr rfl⟩
  · exact ⟨x, rfl, rfl, .inl hx⟩
/-- what both say of an image that is one -/
structure Facts2 (l : List SIns) (inn : List Int) (m : List (Int × Int)) (regs : List Sregion) : Prop where
  facts : Facts l m
  both : Both l l.length [] inn m regs
  at_ : ∀ (k : Nat) (e : SIns), l[k]? = some e → (e.Op = 11 ∨ e.Op = 12) → ∃ t, inn[k]? = some t ∧ (e.A < (l.length : Int) → inn[e.A.toNat]? = some t) ∧ (e.A = (l.length : Int) → t = -1)
theorem Look_Read (l : List SIns) (K : Nat) (hK : 4000 < K) : ∃ r q, mach_Look.f K l = some r ∧ punctualref_ReadImage.f K l = some q ∧ r.2 = q.2 ∧ ((r.2.Code ≠ 0 ∧ q.1 = none) ∨ (r.2 = ⟨0, 0⟩ ∧ ∃ regs, q.1 = some ⟨regs⟩ ∧ Facts2 l r.1.In r.1.Close regs)) := by
  unfold mach_Look.f punctualref_ReadImage.f
  by_cases hn : (l.length : Int) > 2000
  · rw [if_pos hn, if_pos hn]; exact ⟨_, _, rfl, rfl, rfl, .inl ⟨by simp [mach_Look_1.f], rfl⟩⟩
  rw [if_neg hn, if_neg hn]
  obtain ⟨r, r', hr, hr', h⟩ := ins_both l K (by omega)
  rw [hr, hr']
  rcases h with ⟨rfl, rfl, hok⟩ | ⟨s, x, rfl, rfl, hs⟩
  case inr => exact ⟨_, _, rfl, rfl, rfl, .inl ⟨hs, rfl⟩⟩
  simp only
  rw [if_pos (by omega)]
  obtain ⟨r1, r1', hr1, hr1', h1⟩ := iter_sim (f := mach_Look.r1 K l) (g := punctualref_ReadImage.r1 K l) (fun s t => s.1 = t.1 ∧ s.1 ≤ l.length ∧ s.2.1 = t.2.1 ∧ Both l s.1 s.2.1 s.2.2.1 s.2.2.2 t.2.2) (fun s => l.length - s.1)
    (fun r r' => (∃ op inn m regs, r = .inl (op, inn, m) ∧ r' = .inl (op, regs) ∧ Both l l.length op inn m regs) ∨ ∃ s x, r = .inr (s, x) ∧ r' = .inr (none, x) ∧ x.Code ≠ 0) (fun s t ⟨h1, h2, h3, h4⟩ => by
    obtain ⟨i, op, inn, m⟩ := s
    obtain ⟨j, op', regs⟩ := t
    simp only at h1 h2 h3 h4
    subst h1
    subst h3
    by_cases hlt : i < l.length
    · obtain ⟨c, o2, inn', m', g1, g2⟩ := region_both l i op inn m regs h4 hlt (by omega) K hK
      have hc : (i : Int) < (l.length : Int) := by omega
      have e1 : mach_Look.r1 K l (i, op, inn, m) = (if c = 0 then some (.inl (i + 1, o2, inn', m')) else some (.inr (.inr ((mach_Look_1.f c (i : Int)).1, (mach_Look_1.f c (i : Int)).2)))) := by
        simp only [mach_Look.r1, if_pos hc, g1]
      rcases g2 with ⟨rfl, regs', g2, g3⟩ | ⟨g2, g3⟩
      · rw [if_pos rfl] at e1
        exact .inl ⟨_, _, e1, g2, ⟨rfl, hlt, rfl, g3⟩, by simp only; omega⟩
      · rw [if_neg g2] at e1
        exact .inr ⟨_, _, e1, g3, .inr ⟨_, _, rfl, rfl, g2⟩⟩
    · right
      obtain rfl : i = l.length := by omega
      have hc : ¬ (l.length : Int) < (l.length : Int) := by omega
      simp only [mach_Look.r1, punctualref_ReadImage.r1, if_neg hc]
      exact ⟨_, _, rfl, rfl, .inl ⟨op, inn, m, regs, rfl, rfl, h4⟩⟩) K (0, [], List.replicate l.length 0, []) (0, [], []) ⟨rfl, Nat.zero_le _, rfl, ⟨⟨by simp, by simp, by simp, by simp, fun k f hk => by simp at hk, fun k f hk => by simp at hk⟩, by simp, fun o c h => by simp [mget] at h, by simp, by simp, fun k t hk => by simp at hk, fun k f hk => by simp at hk⟩⟩ (by simp only; omega)
  rw [hr1, hr1']
  rcases h1 with ⟨op, inn, m, regs, rfl, rfl, hR⟩ | ⟨s, x, rfl, rfl, hs⟩
  case inr => exact ⟨_, _, rfl, rfl, rfl, .inl ⟨hs, rfl⟩⟩
  simp only
  rcases op with _ | ⟨o, op⟩
  case cons =>
    obtain ⟨k, e, rfl, hk, he, _⟩ := hR.R.open_ o (by simp)
    have hc1 : (((k : Int) :: op).length : Int) > 0 := by simp
    have hc2 : (0 : Int) ≤ (k : Int) := by omega
    simp only [if_pos hc1, List.getElem?_cons_zero, Int.toNat_natCast, he, if_pos hc2]
    by_cases h13 : e.Op = 13
    · rw [if_pos h13, if_pos h13]; exact ⟨_, _, rfl, rfl, rfl, .inl ⟨by simp [mach_Look_1.f], rfl⟩⟩
    · rw [if_neg h13, if_neg h13]; exact ⟨_, _, rfl, rfl, rfl, .inl ⟨by simp [mach_Look_1.f], rfl⟩⟩
  have hc0 : ¬ ((([] : List Int).length : Int) > 0) := by simp
  simp only [if_neg hc0]
  obtain ⟨r2, r2', hr2, hr2', h2⟩ := jumps_both hR hok (by omega) K hK
  rw [hr2, hr2']
  rcases h2 with ⟨rfl, rfl, hJ, hat⟩ | ⟨s, x, rfl, rfl, hs⟩
  case inr => exact ⟨_, _, rfl, rfl, rfl, .inl ⟨hs, rfl⟩⟩
  simp only
  obtain ⟨x, hx1, hx2, hx3⟩ := heights_both l (by omega) hok hJ (fun k e he h14 => hR.back k e (lt_of_get he) he h14) K hK
  rw [hx1, hx2]
  simp only
  rcases hx3 with h3 | rfl
  · rw [if_neg h3, if_neg h3]; exact ⟨_, _, rfl, rfl, rfl, .inl ⟨h3, rfl⟩⟩
  · rw [if_pos rfl, if_pos rfl]
    refine ⟨_, _, rfl, rfl, rfl, .inr ⟨rfl, regs, rfl, ⟨⟨by omega, hok, hJ, fun k e he ho => ?_⟩, hR, hat⟩⟩⟩
    rcases hR.R.shut k e (lt_of_get he) he ho with h4 | ⟨c, h4, h5, h6⟩
    · cases h4
    · simp only [h4, Option.getD_some]
      omega

theorem shut_some {l : List SIns} {m : List (Int × Int)} (F : Facts l m) {i : Nat} {e : SIns} (he : l[i]? = some e) (h : e.Op = 13 ∨ e.Op = 16) : ∃ c : Int, mget m (i : Int) = some c ∧ (i : Int) < c ∧ c < (l.length : Int) := by
  obtain ⟨s1, s2⟩ := F.shut i e he h
  cases hm : mget m (i : Int) with
  | none => rw [hm] at s1; simp at s1; omega
  | some c => rw [hm] at s1 s2; exact ⟨c, rfl, by simpa using s1, by simpa using s2⟩
theorem closes_eq {l : List SIns} {n : Nat} {inn : List Int} {m : List (Int × Int)} {regs : List Sregion} (H : Both l n [] inn m regs) (K : Nat) (hK : regs.length < K) {i c : Int} (hm : mget m i = some c) : punctualref_Image_closes.f K l regs i = some c := by
  obtain ⟨r, hr, rfl⟩ := iter_total (f := punctualref_Image_closes.r0 regs i) (fun j => j ≤ regs.length ∧ ∀ (k : Nat) (q : Sregion), k < j → regs[k]? = some q → q.open_ ≠ i) (fun j => regs.length - j) (fun r => r = .inr c) (fun j ⟨hj, hI⟩ => by
    by_cases hlt : j < regs.length
    · obtain ⟨q, hq⟩ : ∃ q, regs[j]? = some q := ⟨regs[j], List.getElem?_eq_getElem hlt⟩
      have hc : (j : Int) < (regs.length : Int) := by omega
      simp only [punctualref_Image_closes.r0, if_pos hc, hq]
      by_cases ho : q.open_ = i
      · rw [if_pos ho]
        refine .inr ⟨_, rfl, ?_⟩
        obtain ⟨a, b, h1, _, _, h2⟩ := H.reg q (List.mem_of_getElem? hq)
        rw [h1] at ho ⊢
        simp only at ho
        rw [ho, hm] at h2
        cases h2
        rfl
      · rw [if_neg ho]
        refine .inl ⟨_, rfl, ⟨hlt, fun k p hk hp => ?_⟩, by omega⟩
        by_cases hkj : k = j
        · subst hkj; rw [hq] at hp; cases hp; exact ho
        · exact hI k p (by omega) hp
    · exfalso
      obtain ⟨k, hk⟩ := List.mem_iff_getElem?.1 (H.shut i c hm)
      exact hI k _ (by have := lt_of_get hk; omega) hk rfl) K 0 ⟨Nat.zero_le _, fun k q hk => by omega⟩ (by omega)
  unfold punctualref_Image_closes.f
  rw [hr]
theorem ticks_eq (e : SIns) : punctualref_Ticks.f e false = mach_Cost.f e false := by
  unfold punctualref_Ticks.f mach_Cost.f
  repeat' split
  all_goals first | rfl | (exfalso; omega) | (rename_i h; cases h)
theorem wraps13 {B x y : Int} (hB : 0 ≤ B ∧ B ≤ 1000) (hx : 0 ≤ x ∧ x ≤ 1099511627776) (hy : 0 ≤ y ∧ y ≤ 1099511627776) :
    IntKind.i64.wrap ((IntKind.i64.wrap ((IntKind.i64.wrap ((IntKind.i64.wrap (1 + (IntKind.i64.wrap ((IntKind.i64.wrap (B + 1)) * x)))) + (IntKind.i64.wrap (2 * B)))) + 1)) + y) = (B + 1) * x + 2 * B + 2 + y := by
  have hp : 0 ≤ (B + 1) * x := Int.mul_nonneg (by omega) hx.1
  have hq : (B + 1) * x ≤ 1001 * 1099511627776 := Int.mul_le_mul (by omega) hx.2 hx.1 (by omega)
  rw [wrap64_small (n := B + 1) (by omega) (by omega), wrap64_small (n := (B + 1) * x) (by omega) (by omega)]
  generalize (B + 1) * x = z at *
  rw [wrap64_small (n := 1 + z) (by omega) (by omega), wrap64_small (n := 2 * B) (by omega) (by omega), wrap64_small (n := 1 + z + 2 * B) (by omega) (by omega), wrap64_small (n := 1 + z + 2 * B + 1) (by omega) (by omega), wrap64_small (by omega) (by omega)]
  omega

theorem from_eq (R : List Int) (w x : Int) (hx : 0 ≤ x) : punctualref_Shown_1.f x w R = some (restAt R x.toNat) := by
  unfold punctualref_Shown_1.f restAt
  split
  · rw [List.getElem?_eq_getElem (by omega)]; rfl
  · rw [List.getElem?_eq_none (by omega)]; rfl
theorem Left_eq {l : List SIns} {inn : List Int} {m : List (Int × Int)} {regs : List Sregion} (F2 : Facts2 l inn m regs) {K : Nat} (hK : 4000 < K) {R : List Int} {i : Nat} {e : SIns} (he : l[i]? = some e) (hT : Told R i) (w : Int) : punctualref_Image_Left.f K l regs (i : Int) w R = some (needOf m R i e) := by
  have F := F2.facts
  have hi := lt_of_get he
  have hlen := F.len
  have ho := F.ok i e he
  have hA := ho.A
  have hB := ho.B
  have hfew := F2.both.few
  have e1 : IntKind.i64.wrap ((i : Int) + 1) = ((i + 1 : Nat) : Int) := by rw [wrap64_small (by omega) (by omega)]; omega
  have a1 : punctualref_Shown_1.f ((i + 1 : Nat) : Int) w R = some (restAt R (i + 1)) := by
    have := from_eq R w ((i + 1 : Nat) : Int) (by omega)
    rwa [Int.toNat_natCast] at this
  have t1 := hT (i + 1) (by omega)
  have c0 := cost_range ho false
  have hi0 : (0 : Int) ≤ (i : Int) := by omega
  unfold punctualref_Image_Left.f needOf
  simp only [if_pos hi0, Int.toNat_natCast, he, e1, a1, ticks_eq]
  by_cases h14 : e.Op = 14
  · rw [if_pos h14, if_pos h14]
  rw [if_neg h14, if_neg h14]
  by_cases h17 : e.Op = 17
  · rw [if_pos h17, if_pos h17]
  rw [if_neg h17, if_neg h17]
  by_cases h11 : e.Op = 11
  · rw [if_pos h11, if_pos h11, from_eq R w e.A hA]
    have hj := F.jump i e he (.inl h11)
    have t2 := hT e.A.toNat (by omega)
    simp only
    rw [wrap64_small (by omega) (by omega)]
  rw [if_neg h11, if_neg h11]
  by_cases h12 : e.Op = 12
  · rw [if_pos h12, if_pos h12, from_eq R w e.A hA]
    have hj := F.jump i e he (.inr h12)
    have t2 := hT e.A.toNat (by omega)
    simp only
    rw [wrap64_small (by omega) (by omega), wrap64_small (by omega) (by omega)]
    split
    · rw [Int.max_eq_left (by omega)]
    · rw [Int.max_eq_right (by omega)]
  rw [if_neg h12, if_neg h12]
  have hcl : (e.Op = 13 ∨ e.Op = 16) → ∃ c, punctualref_Image_closes.f K l regs (i : Int) = some c ∧ punctualref_Shown_1.f (IntKind.i64.wrap (c + 1)) w R = some (restAt R (((mget m (i : Int)).getD 0).toNat + 1)) ∧ 0 ≤ restAt R (((mget m (i : Int)).getD 0).toNat + 1) ∧ restAt R (((mget m (i : Int)).getD 0).toNat + 1) ≤ 1099511627776 := fun h => by
    obtain ⟨c, hc, s1, s2⟩ := shut_some F he h
    refine ⟨c, closes_eq F2.both K (by omega) hc, ?_⟩
    rw [hc, wrap64_small (by omega) (by omega), from_eq R w _ (by omega)]
    have : (c + 1).toNat = ((some c).getD 0).toNat + 1 := by simp only [Option.getD_some]; omega
    rw [this]
    exact ⟨rfl, hT _ (by simp only [Option.getD_some]; omega)⟩
  by_cases h13 : e.Op = 13
  · rw [if_pos h13, if_pos h13]
    obtain ⟨c, g0, g1, g2, g3⟩ := hcl (.inl h13)
    have hB1 := ho.B1 h13
    simp only [g0, g1]
    rw [wraps13 ⟨hB, hB1⟩ t1 ⟨g2, g3⟩]
  rw [if_neg h13, if_neg h13]
  by_cases h16 : e.Op = 16
  · rw [if_pos h16, if_pos h16]
    obtain ⟨c, g0, g1, g2, g3⟩ := hcl (.inr h16)
    simp only [g0, g1]
    rw [wrap64_small (n := 1 + restAt R (i + 1)) (by omega) (by omega), wrap64_small (by omega) (by omega)]
  rw [if_neg h16, if_neg h16, wrap64_small (by omega) (by omega)]
theorem Shown_some {l : List SIns} {K : Nat} (hK : 4000 < K) {q : Option PImage × SFault} (hq : punctualref_ReadImage.f K l = some q) {regs : List Sregion} (hg : q.1 = some ⟨regs⟩) (hc : q.2.Code = 0) {inn : List Int} {m : List (Int × Int)} (F2 : Facts2 l inn m regs) (w : Int) (R : List Int) : ∃ b, punctualref_Shown.f K l w R = some b ∧ (b = true ↔ Shows l m w R) := by
  have F := F2.facts
  have hlen := F.len
  unfold punctualref_Shown.f punctualref_Shown.p3
  rw [hq]
  simp only [hg]
  rw [if_pos hc]
  by_cases hl : R.length = l.length
  case neg => rw [if_neg (by omega)]; exact ⟨false, rfl, by simp; exact fun h => hl h.len⟩
  rw [if_pos (by omega)]
  simp only
  obtain ⟨r, hr, h1⟩ := iter_total (f := punctualref_Shown.r4 R) (fun i => i ≤ R.length ∧ ∀ j, j < i → 0 ≤ restAt R j ∧ restAt R j ≤ 1099511627776) (fun i => R.length - i) (fun r => (r = .inl () ∧ ∀ j, 0 ≤ restAt R j ∧ restAt R j ≤ 1099511627776) ∨ (r = .inr false ∧ ¬ ∀ j, 0 ≤ restAt R j ∧ restAt R j ≤ 1099511627776)) (fun i ⟨hi, hI⟩ => by
    by_cases hlt : i < R.length
    · obtain ⟨y, hy⟩ : ∃ y, R[i]? = some y := ⟨R[i], List.getElem?_eq_getElem hlt⟩
      have hry : restAt R i = y := by unfold restAt; rw [hy]; rfl
      simp only [punctualref_Shown.r4, hy]
      rw [if_pos (by omega)]
      split
      · exact .inr ⟨_, rfl, .inr ⟨rfl, fun h => by have := h i; omega⟩⟩
      · split
        · exact .inr ⟨_, rfl, .inr ⟨rfl, fun h => by have := h i; omega⟩⟩
        · refine .inl ⟨_, rfl, ⟨hlt, fun j hj => ?_⟩, by omega⟩
          by_cases hji : j = i
          · subst hji; omega
          · exact hI j (by omega)
    · right
      simp only [punctualref_Shown.r4]
      rw [if_neg (by omega)]
      refine ⟨_, rfl, .inl ⟨rfl, fun j => ?_⟩⟩
      by_cases hj : j < i
      · exact hI j hj
      · have : restAt R j = 0 := by unfold restAt; rw [List.getElem?_eq_none (by omega)]; rfl
        omega) K 0 ⟨Nat.zero_le _, fun j hj => by omega⟩ (by omega)
  rw [hr]
  rcases h1 with ⟨rfl, hT⟩ | ⟨rfl, hT⟩
  case inr => exact ⟨false, rfl, by simp; exact fun h => hT h.told⟩
  simp only
  obtain ⟨r, hr, h1⟩ := iter_total (f := punctualref_Shown.r5 K l w R ⟨regs⟩) (fun i => i ≤ l.length ∧ ∀ (j : Nat) (e : SIns), j < i → l[j]? = some e → needOf m R j e ≤ restAt R j) (fun i => l.length - i) (fun r => (r = .inl () ∧ ∀ (j : Nat) (e : SIns), l[j]? = some e → needOf m R j e ≤ restAt R j) ∨ (r = .inr false ∧ ¬ ∀ (j : Nat) (e : SIns), l[j]? = some e → needOf m R j e ≤ restAt R j)) (fun i ⟨hi, hI⟩ => by
    by_cases hlt : i < l.length
    · obtain ⟨e, he⟩ : ∃ e, l[i]? = some e := ⟨l[i], List.getElem?_eq_getElem hlt⟩
      obtain ⟨y, hy⟩ : ∃ y, R[i]? = some y := ⟨R[i]'(by omega), List.getElem?_eq_getElem (by omega)⟩
      have hry : restAt R i = y := by unfold restAt; rw [hy]; rfl
      have n1 := Left_eq F2 hK (R := R) he (fun j _ => hT j) w
      simp only [punctualref_Shown.r5, hy, n1]
      rw [if_pos (by omega)]
      split
      · exact .inr ⟨_, rfl, .inr ⟨rfl, fun h => by have := h i e he; omega⟩⟩
      · refine .inl ⟨_, rfl, ⟨hlt, fun j f hj hf => ?_⟩, by omega⟩
        by_cases hji : j = i
        · subst hji; rw [he] at hf; cases hf; omega
        · exact hI j f (by omega) hf
    · right
      simp only [punctualref_Shown.r5]
      rw [if_neg (by omega)]
      exact ⟨_, rfl, .inl ⟨rfl, fun j e he => hI j e (by have := lt_of_get he; omega) he⟩⟩) K 0 ⟨Nat.zero_le _, fun j e hj => by omega⟩ (by omega)
  rw [hr]
  rcases h1 with ⟨rfl, hG⟩ | ⟨rfl, hG⟩
  case inr => exact ⟨false, rfl, by simp; exact fun h => hG h.ge⟩
  simp only
  rw [from_eq R w 0 (by omega)]
  exact ⟨_, rfl, by simp only [decide_eq_true_eq]; exact ⟨fun h => ⟨hl, hT, hG, h⟩, fun h => h.worst⟩⟩
theorem WcetProves_law (l : List SIns) (w : Int) (rest : List Int) (hl : ∀ y ∈ l, Ok.ok y) (hw : In64 w) (hr : ∀ y ∈ rest, Ok.ok y) (hlen : rest.length * 8 ≤ 140737488351232) : ∃ K, WcetProves.f K l w rest = some true := by
  refine ⟨18446744073709551616, ?_⟩
  have ht : timed.f 18446744073709551616 = some true := by kernel_rfl
  unfold WcetProves.f
  rw [ht]
  simp only [if_true]
  by_cases h3 : (l.length : Int) > 3000
  · rw [if_pos h3]
  rw [if_neg h3]
  obtain ⟨r1, hr1⟩ := punctualsame_Lend_api_Ins_someL l ⟨-1, -2, -3⟩ (by omega)
  obtain ⟨r2, hr2⟩ := punctualsame_Lend_int_someL rest (-9) (by omega)
  have s1 := punctualsame_Still_api_Ins_trueL l ⟨-1, -2, -3⟩ 18446744073709551616 (by omega) (by omega)
  have s2 := punctualsame_Still_int_trueL rest (-9) 18446744073709551616 (by omega) (by omega)
  rw [hr1, hr2]
  simp only
  have hb : ∃ b, wcet_Proves.f 18446744073709551616 l w rest = some b ∧ punctualref_Shown.f 18446744073709551616 l w rest = some b := by
    obtain ⟨r, q, g1, g2, g3, g4⟩ := Look_Read l 18446744073709551616 (by decide)
    rcases g4 with ⟨g4, g5⟩ | ⟨g4, regs, g5, F2⟩
    · refine ⟨false, ?_, ?_⟩
      · unfold wcet_Proves.f wcet_Proves.p0
        rw [g1]
        simp only
        rw [if_neg g4]
      · unfold punctualref_Shown.f punctualref_Shown.p0
        rw [g2]
        simp only [g5]
        rw [← g3, if_neg g4]
    · obtain ⟨b, b1, b2⟩ := Proves_some (K := 18446744073709551616) (by decide) g1 (by rw [g4]) F2.facts w rest
      obtain ⟨d, d1, d2⟩ := Shown_some (K := 18446744073709551616) (by decide) g2 g5 (by rw [← g3, g4]) F2 w rest
      have : b = d := by
        cases b <;> cases d
        · rfl
        · exact absurd (b2.2 (d2.1 rfl)) (by decide)
        · exact absurd (d2.2 (b2.1 rfl)) (by decide)
        · rfl
      subst this
      exact ⟨b, b1, d1⟩
  obtain ⟨b, b1, b2⟩ := hb
  rw [b1, b2]
  simp only [if_true, s1, s2]

end Go.Proofs.YtnckikjcjgmdlaaDoor.GV
