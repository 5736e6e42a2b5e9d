/- Plain words: GvLWcetMet. -/
import Derived.Test.YtgpolejhaglddaaGWWcetMet4
import Derived.Test.YtgpolejhaglddaaGv17
namespace Go.Proofs.Ytgpolejhaglddaa.GV
open Go Go.RowKit
set_option linter.unusedVariables false
set_option linter.unusedSimpArgs false
theorem SIns.eqb_self (x : SIns) : SIns.eqb x x = true := by simp [SIns.eqb]
theorem SFault.eqb_self (x : SFault) : SFault.eqb x x = true := by simp [SFault.eqb]
theorem SPut.eqb_self (x : SPut) : SPut.eqb x x = true := by simp [SPut.eqb]
theorem punctualsame_Same_api_Put_self (l : List SPut) (K : Nat) (hK : l.length < K) : punctualsame_Same_api_Put.f K l l = some true := by
  have hr := iter_first0 (f := punctualsame_Same_api_Put.r0 l l) (fun _ => none) l.length (t := ()) (fun i hi => by
    have h' : (i : Int) < (l.length : Int) := by omega
    simp only [punctualsame_Same_api_Put.r0, if_pos h', List.getElem?_eq_getElem hi, if_true, SPut.eqb_self, onward]) (by
    have h' : ¬ (l.length : Int) < (l.length : Int) := by omega
    simp only [punctualsame_Same_api_Put.r0, if_neg h']) hK
  rw [firstOf_none_of (fun _ _ _ => rfl)] at hr
  simp only [punctualsame_Same_api_Put.f, if_true, hr, leave]
theorem exists_bound {α : Type} (f : α → Nat) : ∀ l : List α, ∃ B, ∀ x ∈ l, f x ≤ B
  | [] => ⟨0, by simp⟩
  | x :: l => by
    obtain ⟨B, h⟩ := exists_bound f l
    refine ⟨max (f x) B, fun y hy => ?_⟩
    rcases List.mem_cons.1 hy with rfl | hy
    · exact Nat.le_max_left _ _
    · exact Nat.le_trans (h y hy) (Nat.le_max_right _ _)
/-- a letter stands there -/
def letterAt (x : ByteArray) (i : Nat) : Bool := match x[i]? with | some b => decide (97 ≤ b.toNat) && decide (b.toNat ≤ 122) | none => false
def allL (x : ByteArray) (n : Nat) : Bool := (List.range n).all (letterAt x)
theorem allL_succ (x : ByteArray) (n : Nat) : allL x (n + 1) = (allL x n && letterAt x n) := by simp [allL, List.range_succ]
theorem allL_iff {x : ByteArray} {n : Nat} : allL x n = true ↔ ∀ i, i < n → letterAt x i = true := by simp [allL]
def Good (x : ByteArray) : Prop := 1 ≤ x.size ∧ x.size ≤ 10 ∧ allL x x.size = true
instance (x : ByteArray) : Decidable (Good x) := by unfold Good; infer_instance
theorem get!_of {x : ByteArray} {i : Nat} {b : UInt8} (h : x[i]? = some b) : x.get! i = b := by
  have hi : i < x.size := by
    rcases Nat.lt_or_ge i x.size with h' | h'
    · exact h'
    · rw [getElem?_neg x i (by omega)] at h; cases h
  rw [getElem?_pos x i hi] at h
  have := Option.some.inj h
  rw [← this]
  cases x with
  | mk bs => exact getElem!_pos bs i hi
theorem byte_some {x : ByteArray} {i : Nat} (h : i < x.size) : ∃ b, x[i]? = some b := ⟨x[i], getElem?_pos x i h⟩
theorem decode_letter {x : ByteArray} {i : Nat} (hi : i < x.size) (h : letterAt x i = true) : ∃ n : Nat, Utf8.decode x i = (n, 1) ∧ 97 ≤ n ∧ n ≤ 122 := by
  obtain ⟨b, hb⟩ := byte_some hi
  simp only [letterAt, hb, Bool.and_eq_true, decide_eq_true_eq] at h
  refine ⟨b.toNat, ?_, h⟩
  have := get!_of hb
  simp only [Utf8.decode, Nat.add_zero, this]
  rw [if_pos (by omega)]
theorem decode_other {x : ByteArray} {i : Nat} (hi : i < x.size) (h : letterAt x i = false) : (Utf8.decode x i).1 < 97 ∨ 122 < (Utf8.decode x i).1 := by
  obtain ⟨b, hb⟩ := byte_some hi
  simp only [letterAt, hb, Bool.and_eq_false_iff, decide_eq_false_iff_not] at h
  have := get!_of hb
  simp only [Utf8.decode, Nat.add_zero, this]
  have he : Utf8.runeError = 65533 := rfl
  repeat' split
  all_goals simp only [he, Bool.and_eq_true, decide_eq_true_eq, ge_iff_le] at *
  all_goals omega
theorem takedrop {α : Type} (l : List α) (i : Nat) : (l.take i).drop 0 = l.take i := by simp
theorem iter_succ {σ ρ : Type} (f : σ → Option (σ ⊕ ρ)) (K : Nat) (s : σ) : iter f (K + 1) s = match f s with | none => none | some (.inl s') => iter f K s' | some (.inr r) => some r := rfl
/-- an instruction whose numbers are operands -/
structure OkI (e : SIns) : Prop where
  op : 1 ≤ e.Op ∧ e.Op ≤ 18
  A : 0 ≤ e.A
  B : 0 ≤ e.B
  B13 : e.B ≤ 2000
  B1 : e.Op = 13 → e.B ≤ 1000
  A18 : e.Op = 18 → 1 ≤ e.A ∧ e.A ≤ 1000
  A3 : e.Op = 9 ∨ e.Op = 10 ∨ e.Op = 16 ∨ e.Op = 17 → e.A ≤ 3
  A7 : e.Op = 2 ∨ e.Op = 3 ∨ e.Op = 13 ∨ e.Op = 14 ∨ e.Op = 15 → e.A ≤ 7
theorem operand_eq (op : Int) (h : 1 ≤ op ∧ op ≤ 18) : ∃ a b, mach_operand.f op = some (a, b) ∧ b ≤ 2000 ∧ (op = 13 → b = 1000) ∧ (op = 18 → a = 1000) ∧ (op = 9 ∨ op = 10 ∨ op = 16 ∨ op = 17 → a = 3) ∧ (op = 2 ∨ op = 3 ∨ op = 13 ∨ op = 14 ∨ op = 15 → a = 7) := by
  have : op = 1 ∨ op = 2 ∨ op = 3 ∨ op = 4 ∨ op = 5 ∨ op = 6 ∨ op = 7 ∨ op = 8 ∨ op = 9 ∨ op = 10 ∨ op = 11 ∨ op = 12 ∨ op = 13 ∨ op = 14 ∨ op = 15 ∨ op = 16 ∨ op = 17 ∨ op = 18 := by omega
  rcases this with rfl | rfl | rfl | rfl | rfl | rfl | rfl | rfl | rfl | rfl | rfl | rfl | rfl | rfl | rfl | rfl | rfl | rfl <;> exact ⟨_, _, rfl, by decide, by decide, by decide, by decide, by decide⟩
theorem fits_iff (v m : Int) : mach_fits.f v m = true ↔ 0 ≤ v ∧ v ≤ max m 0 := by
  unfold mach_fits.f gmax
  split
  · rw [decide_eq_true_eq]
    constructor
    · intro h; refine ⟨by omega, ?_⟩; split at h <;> omega
    · intro h; split <;> omega
  · constructor
    · intro h; cases h
    · intro h; omega
theorem look_ins (l : List SIns) (K : Nat) (hK : l.length < K) : ∃ r, iter (mach_Look.r0 l) K 0 = some r ∧ ((r = .inl () ∧ ∀ (i : Nat) (e : SIns), l[i]? = some e → OkI e) ∨ ∃ s, r = .inr s ∧ s.2.Code ≠ 0) := by
  obtain ⟨r, hr, h⟩ := iter_total (f := mach_Look.r0 l) (fun i => i ≤ l.length ∧ ∀ (k : Nat) (e : SIns), k < i → l[k]? = some e → OkI e) (fun i => l.length - i)
    (fun r => (r = .inl () ∧ ∀ (i : Nat) (e : SIns), l[i]? = some e → OkI e) ∨ ∃ s, r = .inr s ∧ s.2.Code ≠ 0) (fun i ⟨hi, hI⟩ => by
    by_cases hlt : i < l.length
    · obtain ⟨e, he⟩ : ∃ e, l[i]? = some e := ⟨l[i], List.getElem?_eq_getElem hlt⟩
      simp only [mach_Look.r0, he]
      rw [if_pos (by omega)]
      by_cases h1 : e.Op < 1
      · rw [if_pos h1]; exact .inr ⟨_, rfl, .inr ⟨_, rfl, by simp [mach_Look_1.f]⟩⟩
      rw [if_neg h1]
      by_cases h2 : e.Op > 18
      · rw [if_pos h2]; exact .inr ⟨_, rfl, .inr ⟨_, rfl, by simp [mach_Look_1.f]⟩⟩
      rw [if_neg h2]
      obtain ⟨a, b, ho, hb, hb13, ha18, ha3, ha7⟩ := operand_eq e.Op ⟨by omega, by omega⟩
      simp only [ho]
      by_cases h3 : mach_fits.f e.A a = true
      · rw [if_pos h3]
        by_cases h4 : mach_fits.f e.B b = true
        · rw [if_pos h4]
          rw [fits_iff] at h3 h4
          have next : (e.Op = 18 → e.A ≠ 0) → i + 1 ≤ l.length ∧ ∀ (k : Nat) (e : SIns), k < i + 1 → l[k]? = some e → OkI e := fun h5 => ⟨hlt, fun k f hk hf => by
            by_cases hki : k = i
            · subst hki
              rw [he] at hf
              cases hf
              refine ⟨⟨by omega, by omega⟩, h3.1, h4.1, by omega, fun h6 => ?_, fun h6 => ?_, fun h6 => (by have := ha3 h6; omega), fun h6 => (by have := ha7 h6; omega)⟩
              · have := hb13 h6; omega
              · have := ha18 h6; have := h5 h6; omega
            · exact hI k f (by omega) hf⟩
          by_cases h5 : e.Op = 18
          · rw [if_pos h5]
            by_cases h6 : e.A = 0
            · rw [if_pos h6]; exact .inr ⟨_, rfl, .inr ⟨_, rfl, by simp [mach_Look_1.f]⟩⟩
            · rw [if_neg h6]; exact .inl ⟨_, rfl, next (fun _ => h6), by omega⟩
          · rw [if_neg h5]; exact .inl ⟨_, rfl, next (fun h => absurd h h5), by omega⟩
        · rw [if_neg h4]; exact .inr ⟨_, rfl, .inr ⟨_, rfl, by simp [mach_Look_1.f]⟩⟩
      · rw [if_neg h3]; exact .inr ⟨_, rfl, .inr ⟨_, rfl, by simp [mach_Look_1.f]⟩⟩
    · right
      simp only [mach_Look.r0]
      rw [if_neg (by omega)]
      exact ⟨_, rfl, .inl ⟨rfl, fun k e hk => hI k e (by have := lt_of_get hk; omega) hk⟩⟩) K 0 ⟨Nat.zero_le _, fun k e hk => by omega⟩ (by omega)
  exact ⟨r, hr, h⟩
/-- the region that is open -/
def topOf (open_ : List Int) : Int := open_.getLast?.getD (-1)
theorem top_eq (l : List SIns) (op inn : List Int) (m : List (Int × Int)) (hl : op.length ≤ 5000) : mach_looker_top.f l op inn m = some (topOf op) := by
  unfold mach_looker_top.f topOf
  rcases List.eq_nil_or_concat op with rfl | ⟨o, x, rfl⟩
  · rfl
  · simp only [List.concat_eq_append, List.length_append, List.length_cons, List.length_nil] at hl ⊢
    have e1 : IntKind.i64.wrap (((o.length + (0 + 1) : Nat) : Int) - 1) = (o.length : Int) := by rw [wrap64_small (by omega) (by omega)]; omega
    rw [if_neg (by omega), e1, if_pos (by omega), Int.toNat_natCast]
    simp
theorem holds_some (l : List SIns) (op inn : List Int) (m : List (Int × Int)) (x a : Int) (K : Nat) (hK : op.length < K) (ho : ∀ o ∈ op, 0 ≤ o ∧ o < (l.length : Int)) : ∃ b, mach_looker_holds.f K l op inn m x a = some b := by
  obtain ⟨r, hr, _⟩ := iter_total (f := mach_looker_holds.r0 l op x a) (fun i => i ≤ op.length) (fun i => op.length - i) (fun _ => True) (fun i hi => by
    by_cases hlt : i < op.length
    · obtain ⟨o, hoi⟩ : ∃ o, op[i]? = some o := ⟨op[i], List.getElem?_eq_getElem hlt⟩
      obtain ⟨h1, h2⟩ := ho o (List.mem_of_getElem? hoi)
      obtain ⟨e, he⟩ : ∃ e, l[o.toNat]? = some e := ⟨l[o.toNat]'(by omega), List.getElem?_eq_getElem (by omega)⟩
      simp only [mach_looker_holds.r0, hoi, he]
      rw [if_pos (by omega), if_pos h1]
      split
      · split
        · exact .inr ⟨_, rfl, trivial⟩
        · exact .inl ⟨_, rfl, hlt, by omega⟩
      · exact .inl ⟨_, rfl, hlt, by omega⟩
    · right
      simp only [mach_looker_holds.r0]
      rw [if_neg (by omega)]
      exact ⟨_, rfl, trivial⟩) K 0 (Nat.zero_le _) (by omega)
  unfold mach_looker_holds.f
  rw [hr]
  rcases r with r | r
  · exact ⟨_, rfl⟩
  · exact ⟨_, rfl⟩
theorem close_eq (l : List SIns) (o inn : List Int) (t : Int) (m : List (Int × Int)) (x : Int) (hl : o.length ≤ 4000) : mach_looker_close.f l (o ++ [t]) inn m x = some (o, mset m t x) := by
  unfold mach_looker_close.f mach_looker_close.p0
  rw [top_eq l _ inn m (by simp; omega)]
  have e1 : IntKind.i64.wrap (((o ++ [t]).length : Int) - 1) = (o.length : Int) := by
    simp only [List.length_append, List.length_cons, List.length_nil]
    rw [wrap64_small (by omega) (by omega)]; omega
  simp only [e1, Int.toNat_natCast]
  rw [if_pos (by omega), if_pos (by simp)]
  simp [topOf]
/-- what is known of regions ahead of an instruction -/
structure Regs (l : List SIns) (i : Nat) (op inn : List Int) (m : List (Int × Int)) : Prop where
  len : inn.length = l.length
  open_ : ∀ o ∈ op, ∃ (k : Nat) (e : SIns), o = (k : Int) ∧ k < i ∧ l[k]? = some e ∧ (e.Op = 13 ∨ e.Op = 16)
  up : op.Pairwise (fun a b : Int => a < b)
  small : op.length ≤ i
  shut : ∀ (k : Nat) (e : SIns), k < i → l[k]? = some e → (e.Op = 13 ∨ e.Op = 16) → (k : Int) ∈ op ∨ ∃ c : Nat, mget m (k : Int) = some (c : Int) ∧ k < c ∧ c < i
  back : ∀ (k : Nat) (e : SIns), k < i → l[k]? = some e → e.Op = 14 → 0 ≤ e.B ∧ e.B ≤ (k : Int)
theorem mget_mset' (m : List (Int × Int)) (k k' v : Int) : mget (mset m k v) k' = if k' = k then some v else mget m k' := by
  induction m with
  | nil => simp only [mset, mget]
  | cons a r ih =>
    obtain ⟨a, b⟩ := a
    simp only [mset]
    by_cases h : k = a
    · subst h
      simp only [if_true, mget]
      by_cases h2 : k' = k
      · rw [if_pos h2, if_pos h2]
      · rw [if_neg h2, if_neg h2, if_neg h2]
    · rw [if_neg h]
      simp only [mget, ih]
      by_cases h2 : k' = a
      · rw [if_pos h2, if_neg (fun e => h (e.symm.trans h2)), if_pos h2]
      · rw [if_neg h2, if_neg h2]
theorem region_step (l : List SIns) (i : Nat) (op inn : List Int) (m : List (Int × Int)) (h : Regs l i op inn m) (hi : i < l.length) (hl : l.length ≤ 2000) (K : Nat) (hK : 4000 < K) : ∃ c op' inn' m', mach_looker_region.f K l op inn m (i : Int) = some (c, op', inn', m') ∧ (c = 0 → Regs l (i + 1) op' inn' m') := by
  obtain ⟨e, he⟩ : ∃ e, l[i]? = some e := ⟨l[i], List.getElem?_eq_getElem hi⟩
  have hop := h.small
  have hp0 : mach_looker_region.p0 l op inn m (i : Int) = some (.inl (topOf op, e.Op, e.A, e.B)) := by
    unfold mach_looker_region.p0
    rw [if_pos (by omega)]
    simp only [Int.toNat_natCast, he, top_eq l op inn m (by omega)]
  obtain ⟨y, hy⟩ : ∃ y, inn[i]? = some y := ⟨inn[i]'(by rw [h.len]; exact hi), List.getElem?_eq_getElem (by rw [h.len]; exact hi)⟩
  have hlen : (inn.set i (topOf op)).length = l.length := by rw [List.length_set]; exact h.len
  have hob : ∀ o ∈ op, 0 ≤ o ∧ o < (l.length : Int) := fun o ho => by
    obtain ⟨k, e', rfl, hk, _⟩ := h.open_ o ho
    omega
  have hhold := fun x a => holds_some l op (inn.set i (topOf op)) m x a K (by omega) hob
  -- one that opens none and closes none
  have stay : (e.Op ≠ 13 ∧ e.Op ≠ 16 ∧ e.Op ≠ 14) → Regs l (i + 1) op (inn.set i (topOf op)) m := fun hne => ⟨hlen, fun o ho => by
      obtain ⟨k, e', h1, h2, h3⟩ := h.open_ o ho
      exact ⟨k, e', h1, by omega, h3⟩, h.up, by omega, fun k f hk hf hfo => by
      by_cases hki : k = i
      · subst hki; rw [he] at hf; cases hf; omega
      · rcases h.shut k f (by omega) hf hfo with h1 | ⟨c, h1, h2, h3⟩
        · exact .inl h1
        · exact .inr ⟨c, h1, h2, by omega⟩, fun k f hk hf hf14 => by
      by_cases hki : k = i
      · subst hki; rw [he] at hf; cases hf; omega
      · exact h.back k f (by omega) hf hf14⟩
  -- one that opens one
  have opens : (e.Op = 13 ∨ e.Op = 16) → Regs l (i + 1) (op ++ [(i : Int)]) (inn.set i (topOf op)) m := fun ho => ⟨hlen, fun o ho' => by
      rcases List.mem_append.1 ho' with h1 | h1
      · obtain ⟨k, e', h1, h2, h3⟩ := h.open_ o h1
        exact ⟨k, e', h1, by omega, h3⟩
      · exact ⟨i, e, List.mem_singleton.1 h1, by omega, he, ho⟩, List.pairwise_append.2 ⟨h.up, by simp, fun a ha b hb => by
      rw [List.mem_singleton.1 hb]
      obtain ⟨k, _, rfl, hk, _⟩ := h.open_ a ha
      omega⟩, by simp; omega, fun k f hk hf hfo => by
      by_cases hki : k = i
      · subst hki; exact .inl (by simp)
      · rcases h.shut k f (by omega) hf hfo with h1 | ⟨c, h1, h2, h3⟩
        · exact .inl (by simp [h1])
        · exact .inr ⟨c, h1, h2, by omega⟩, fun k f hk hf hf14 => by
      by_cases hki : k = i
      · subst hki; rw [he] at hf; cases hf; omega
      · exact h.back k f (by omega) hf hf14⟩
  -- one that closes one
  have closes : ∀ (o : List Int) (t : Int), op = o ++ [t] → (e.Op = 14 ∧ e.B = t + 1 ∨ e.Op = 17) → Regs l (i + 1) o (inn.set i (topOf op)) (mset m t (i : Int)) := fun o t hot hco => by
    subst hot
    obtain ⟨kt, et, rfl, hkt, _, _⟩ := h.open_ t (by simp)
    have hup := List.pairwise_append.1 h.up
    refine ⟨hlen, fun o' ho' => by
      obtain ⟨k, e', h1, h2, h3⟩ := h.open_ o' (by simp [ho'])
      exact ⟨k, e', h1, by omega, h3⟩, hup.1, by simp at hop; omega, fun k f hk hf hfo => ?_, fun k f hk hf hf14 => ?_⟩
    · rw [mget_mset']
      by_cases hki : k = i
      · subst hki; rw [he] at hf; cases hf; omega
      · rcases h.shut k f (by omega) hf hfo with h1 | ⟨c, h1, h2, h3⟩
        · rcases List.mem_append.1 h1 with h1 | h1
          · exact .inl h1
          · have := List.mem_singleton.1 h1
            rw [if_pos this]
            exact .inr ⟨i, rfl, by omega, by omega⟩
        · by_cases hkt' : (k : Int) = (kt : Int)
          · rw [if_pos hkt']
            exact .inr ⟨i, rfl, by omega, by omega⟩
          · rw [if_neg hkt']
            exact .inr ⟨c, h1, h2, by omega⟩
    · by_cases hki : k = i
      · subst hki; rw [he] at hf; cases hf
        rcases hco with ⟨_, h1⟩ | h1
        · omega
        · omega
      · exact h.back k f (by omega) hf hf14
  have hneg : ∀ {c : Int} {op' inn' : List Int} {m' : List (Int × Int)}, c ≠ 0 → (∃ c' op'' inn'' m'', (some (c, op', inn', m') : Option (Int × List Int × List Int × List (Int × Int))) = some (c', op'', inn'', m'') ∧ (c' = 0 → Regs l (i + 1) op'' inn'' m'')) := fun hc => ⟨_, _, _, _, rfl, fun h => absurd h hc⟩
  have htop : ∀ {z : Int}, topOf op = z → ¬ z < 0 → ∃ o, op = o ++ [z] := fun {z} hz h0 => by
    rcases List.eq_nil_or_concat op with rfl | ⟨o, t, rfl⟩
    · simp [topOf] at hz; omega
    · rw [List.concat_eq_append] at hz ⊢
      simp [topOf] at hz
      exact ⟨o, by rw [hz]⟩
  generalize hz : topOf op = z at *
  unfold mach_looker_region.f
  rw [hp0]
  simp only [Int.toNat_natCast, hy]
  rw [if_pos (by omega)]
  by_cases h13 : e.Op = 13
  · have hp1 : mach_looker_region.p1 e.Op = some (.inl true) := by unfold mach_looker_region.p1; rw [if_pos h13]
    obtain ⟨b, hb⟩ := hhold e.Op e.A
    simp only [hp1, if_true, hb]
    split
    · exact hneg (by decide)
    · rw [if_pos (by omega)]
      exact ⟨_, _, _, _, rfl, fun _ => opens (.inl h13)⟩
  by_cases h16 : e.Op = 16
  · have hp1 : mach_looker_region.p1 e.Op = some (.inl true) := by unfold mach_looker_region.p1; rw [if_neg h13, h16]; rfl
    obtain ⟨b, hb⟩ := hhold e.Op e.A
    simp only [hp1, if_true, hb]
    split
    · exact hneg (by decide)
    · rw [if_pos (by omega)]
      exact ⟨_, _, _, _, rfl, fun _ => opens (.inr h16)⟩
  have hp1 : mach_looker_region.p1 e.Op = some (.inl false) := by
    unfold mach_looker_region.p1
    rw [if_neg h13]
    have : (e.Op == 16) = false := by simpa using h16
    rw [this]
  simp only [hp1]
  rw [if_neg (by decide)]
  by_cases h14 : e.Op = 14
  · rw [if_pos h14]
    by_cases hz0 : z < 0
    · rw [if_pos hz0]; exact hneg (by decide)
    rw [if_neg hz0, if_pos (by omega)]
    obtain ⟨o, rfl⟩ := htop rfl hz0
    obtain ⟨kt, et, hkt0, hkt, het, _⟩ := h.open_ z (by simp)
    subst hkt0
    simp only [Int.toNat_natCast, het]
    split
    · split
      · split
        · rename_i hB
          rw [close_eq l o _ _ m _ (by simp at hop; omega)]
          rw [wrap64_small (by omega) (by omega)] at hB
          exact ⟨_, _, _, _, rfl, fun _ => closes o _ rfl (.inl ⟨h14, hB⟩)⟩
        · exact hneg (by decide)
      · exact hneg (by decide)
    · exact hneg (by decide)
  rw [if_neg h14]
  by_cases h17 : e.Op = 17
  · rw [if_pos h17]
    by_cases hz0 : z < 0
    · rw [if_pos hz0]; exact hneg (by decide)
    rw [if_neg hz0, if_pos (by omega)]
    obtain ⟨o, rfl⟩ := htop rfl hz0
    obtain ⟨kt, et, hkt0, hkt, het, _⟩ := h.open_ z (by simp)
    subst hkt0
    simp only [Int.toNat_natCast, het]
    split
    · split
      · rw [close_eq l o _ _ m _ (by simp at hop; omega)]
        exact ⟨_, _, _, _, rfl, fun _ => closes o _ rfl (.inr h17)⟩
      · exact hneg (by decide)
    · exact hneg (by decide)
  rw [if_neg h17]
  by_cases h15 : e.Op = 15
  · rw [if_pos h15]
    obtain ⟨b, hb⟩ := hhold 13 e.A
    simp only [hb]
    split
    · exact ⟨_, _, _, _, rfl, fun _ => stay ⟨h13, h16, h14⟩⟩
    · exact hneg (by decide)
  · rw [if_neg h15]
    exact ⟨_, _, _, _, rfl, fun _ => stay ⟨h13, h16, h14⟩⟩
theorem look_regions (l : List SIns) (K : Nat) (hl : l.length ≤ 2000) (hK : 4000 < K) : ∃ r, iter (mach_Look.r1 K l) K (0, [], List.replicate l.length 0, []) = some r ∧ ((∃ op inn m, r = .inl (op, inn, m) ∧ Regs l l.length op inn m) ∨ ∃ s, r = .inr s ∧ s.2.Code ≠ 0) := by
  refine iter_total (f := mach_Look.r1 K l) (fun s => s.1 ≤ l.length ∧ Regs l s.1 s.2.1 s.2.2.1 s.2.2.2) (fun s => l.length - s.1) _ (fun s ⟨hi, hI⟩ => ?_) K _ ⟨Nat.zero_le _, ⟨by simp, by simp, by simp, by simp, fun k f hk => by simp at hk, fun k f hk => by simp at hk⟩⟩ (by simp only; omega)
  obtain ⟨i, op, inn, m⟩ := s
  simp only at hi hI ⊢
  by_cases hlt : i < l.length
  · obtain ⟨c, op', inn', m', h1, h2⟩ := region_step l i op inn m hI hlt hl K hK
    simp only [mach_Look.r1, h1]
    rw [if_pos (by omega)]
    by_cases hc : c = 0
    · rw [if_pos hc]
      exact .inl ⟨_, rfl, ⟨hlt, h2 hc⟩, by simp only; omega⟩
    · rw [if_neg hc]
      exact .inr ⟨_, rfl, .inr ⟨_, rfl, by simpa [mach_Look_1.f] using hc⟩⟩
  · right
    obtain rfl : i = l.length := by omega
    simp only [mach_Look.r1]
    rw [if_neg (by omega)]
    exact ⟨_, rfl, .inl ⟨_, _, _, rfl, hI⟩⟩
/-- jumps go on -/
def Jump (l : List SIns) : Prop := ∀ (k : Nat) (e : SIns), l[k]? = some e → (e.Op = 11 ∨ e.Op = 12) → (k : Int) < e.A ∧ e.A ≤ (l.length : Int)
theorem look_jumps (l : List SIns) (inn : List Int) (hin : inn.length = l.length) (hok : ∀ (i : Nat) (e : SIns), l[i]? = some e → OkI e) (K : Nat) (hK : l.length < K) : ∃ r, iter (mach_Look.r2 l inn) K 0 = some r ∧ ((r = .inl () ∧ Jump l) ∨ ∃ s, r = .inr s ∧ s.2.Code ≠ 0) := by
  refine iter_total (f := mach_Look.r2 l inn) (fun i => i ≤ l.length ∧ ∀ (k : Nat) (e : SIns), k < i → l[k]? = some e → (e.Op = 11 ∨ e.Op = 12) → (k : Int) < e.A ∧ e.A ≤ (l.length : Int)) (fun i => l.length - i) _ (fun i ⟨hi, hI⟩ => ?_) K 0 ⟨Nat.zero_le _, fun k e hk => by omega⟩ (by omega)
  by_cases hlt : i < l.length
  · obtain ⟨e, he⟩ : ∃ e, l[i]? = some e := ⟨l[i], List.getElem?_eq_getElem hlt⟩
    have ho := hok i e he
    have hA := ho.A
    have next : ((e.Op = 11 ∨ e.Op = 12) → (i : Int) < e.A ∧ e.A ≤ (l.length : Int)) → i + 1 ≤ l.length ∧ ∀ (k : Nat) (f : SIns), k < i + 1 → l[k]? = some f → (f.Op = 11 ∨ f.Op = 12) → (k : Int) < f.A ∧ f.A ≤ (l.length : Int) := fun h => ⟨hlt, fun k f hk hf hop => by
      by_cases hki : k = i
      · subst hki; rw [he] at hf; cases hf; exact h hop
      · exact hI k f (by omega) hf hop⟩
    have hfault : ∀ {x : SShape} {c a : Int}, c ≠ 0 → (∃ s', (some (Sum.inr (Sum.inr (x, (⟨c, a⟩ : SFault)))) : Option (Nat ⊕ (Unit ⊕ (SShape × SFault)))) = some (.inl s') ∧ (s' ≤ l.length ∧ ∀ (k : Nat) (e : SIns), k < s' → l[k]? = some e → (e.Op = 11 ∨ e.Op = 12) → (k : Int) < e.A ∧ e.A ≤ (l.length : Int)) ∧ l.length - s' < l.length - i) ∨ ∃ r, (some (Sum.inr (Sum.inr (x, (⟨c, a⟩ : SFault)))) : Option (Nat ⊕ (Unit ⊕ (SShape × SFault)))) = some (.inr r) ∧ ((r = .inl () ∧ Jump l) ∨ ∃ s, r = .inr s ∧ s.2.Code ≠ 0) :=
      fun hc => .inr ⟨_, rfl, .inr ⟨_, rfl, hc⟩⟩
    obtain ⟨y, hy⟩ : ∃ y, inn[i]? = some y := ⟨inn[i]'(by omega), List.getElem?_eq_getElem (by omega)⟩
    have hlx : e.A < (l.length : Int) → ∃ y, inn[e.A.toNat]? = some y := fun h => ⟨inn[e.A.toNat]'(by omega), List.getElem?_eq_getElem (by omega)⟩
    simp only [mach_Look.r2, he, hy, mach_Look_1.f]
    rw [if_pos (by omega)]
    by_cases hAl : e.A < (l.length : Int)
    · obtain ⟨x, hx⟩ := hlx hAl
      simp only [hx, if_pos hAl, if_pos hA]
      by_cases h11 : e.Op = 11
      · rw [if_pos h11]
        split
        · exact hfault (by decide)
        · split
          · exact hfault (by decide)
          · split
            · exact .inl ⟨_, rfl, next (fun _ => by omega), by omega⟩
            · exact hfault (by decide)
      · rw [if_neg h11]
        by_cases h12 : e.Op = 12
        · rw [if_pos h12]
          split
          · exact hfault (by decide)
          · split
            · exact hfault (by decide)
            · split
              · exact .inl ⟨_, rfl, next (fun _ => by omega), by omega⟩
              · exact hfault (by decide)
        · rw [if_neg h12]
          exact .inl ⟨_, rfl, next (fun h => by omega), by omega⟩
    · simp only [if_neg hAl]
      by_cases h11 : e.Op = 11
      · rw [if_pos h11]
        split
        · exact hfault (by decide)
        · split
          · exact hfault (by decide)
          · split
            · exact .inl ⟨_, rfl, next (fun _ => by omega), by omega⟩
            · exact hfault (by decide)
      · rw [if_neg h11]
        by_cases h12 : e.Op = 12
        · rw [if_pos h12]
          split
          · exact hfault (by decide)
          · split
            · exact hfault (by decide)
            · split
              · exact .inl ⟨_, rfl, next (fun _ => by omega), by omega⟩
              · exact hfault (by decide)
        · rw [if_neg h12]
          exact .inl ⟨_, rfl, next (fun h => by omega), by omega⟩
  · right
    simp only [mach_Look.r2]
    rw [if_neg (by omega)]
    exact ⟨_, rfl, .inl ⟨rfl, fun k e hk => hI k e (by have := lt_of_get hk; omega) hk⟩⟩
/-- heights that are told, -1 where none is -/
structure Told1 (n : Nat) (m : List Int) : Prop where
  len : m.length = n + 1
  range : ∀ (k : Nat) (v : Int), m[k]? = some v → -1 ≤ v ∧ v ≤ 20
def Keeps (m m' : List Int) : Prop := ∀ (k : Nat) (v : Int), 0 ≤ v → m[k]? = some v → m'[k]? = some v
/-- what is known of the heights at an instruction and behind it -/
def StepAt (m : List Int) (i : Nat) (e : SIns) : Prop := ∃ v : Int, m[i]? = some v ∧ (mach_pops.f e.Op).1 ≤ v ∧ v ≤ 20 ∧ v - (mach_pops.f e.Op).1 + (mach_pops.f e.Op).2 ≤ 20 ∧
  ((e.Op = 11 ∨ e.Op = 12) → m[e.A.toNat]? = some (v - (mach_pops.f e.Op).1 + (mach_pops.f e.Op).2)) ∧ (e.Op = 14 → m[e.B.toNat]? = some (v - (mach_pops.f e.Op).1 + (mach_pops.f e.Op).2)) ∧ (e.Op ≠ 11 → m[i + 1]? = some (v - (mach_pops.f e.Op).1 + (mach_pops.f e.Op).2))
theorem pops_range (op : Int) : 0 ≤ (mach_pops.f op).1 ∧ (mach_pops.f op).1 ≤ 2 ∧ 0 ≤ (mach_pops.f op).2 ∧ (mach_pops.f op).2 ≤ 1 := by
  unfold mach_pops.f
  repeat' split
  all_goals decide
theorem StepAt.keep {m m' : List Int} {i : Nat} {e : SIns} (h : StepAt m i e) (k : Keeps m m') : StepAt m' i e := by
  obtain ⟨v, h1, h2, h3, h4, h5, h6, h7⟩ := h
  have := pops_range e.Op
  exact ⟨v, k _ _ (by omega) h1, h2, h3, h4, fun h => k _ _ (by omega) (h5 h), fun h => k _ _ (by omega) (h6 h), fun h => k _ _ (by omega) (h7 h)⟩
theorem to_good {n : Nat} {m : List Int} (hm : Told1 n m) {x h : Int} (hx : 0 ≤ x ∧ x ≤ (n : Int)) (hh : 0 ≤ h ∧ h ≤ 20) : ∃ b m', mach_heights_1.f x h m = some (b, m') ∧ Told1 n m' ∧ Keeps m m' ∧ (b = true → m'[x.toNat]? = some h) := by
  have hlen := hm.len
  obtain ⟨y, hy⟩ : ∃ y, m[x.toNat]? = some y := ⟨m[x.toNat]'(by omega), List.getElem?_eq_getElem (by omega)⟩
  have hs : (m.set x.toNat h)[x.toNat]? = some h := by rw [List.getElem?_set_self (by omega)]
  simp only [mach_heights_1.f, hy, hs]
  rw [if_pos hx.1]
  by_cases h0 : y < 0
  · rw [if_pos h0]
    refine ⟨_, _, rfl, ⟨by rw [List.length_set]; exact hlen, fun k v hk => ?_⟩, fun k v hv hk => ?_, fun _ => hs⟩
    · by_cases hkx : k = x.toNat
      · rw [hkx, hs] at hk; cases hk; omega
      · rw [List.getElem?_set_ne (fun e => hkx e.symm)] at hk; exact hm.range k v hk
    · by_cases hkx : k = x.toNat
      · rw [hkx, hy] at hk; cases hk; omega
      · rw [List.getElem?_set_ne (fun e => hkx e.symm)]; exact hk
  · rw [if_neg h0]
    refine ⟨_, _, rfl, hm, fun k v _ hk => hk, fun hb => ?_⟩
    rw [hy]
    simpa using hb
theorem heights_step (l : List SIns) (hl : l.length ≤ 2000) (i : Nat) (hi : i < l.length) (m : List Int) (hm : Told1 l.length m) (hA : ∀ e, l[i]? = some e → (e.Op = 11 ∨ e.Op = 12) → 0 ≤ e.A ∧ e.A ≤ (l.length : Int)) (hB : ∀ e, l[i]? = some e → e.Op = 14 → 0 ≤ e.B ∧ e.B ≤ (l.length : Int)) :
    (∃ m' e, l[i]? = some e ∧ mach_heights.r1 l (i, m) = some (.inl (i + 1, m')) ∧ Told1 l.length m' ∧ Keeps m m' ∧ StepAt m' i e) ∨ ∃ s : SFault, mach_heights.r1 l (i, m) = some (.inr (.inr s)) ∧ s.Code ≠ 0 := by
  obtain ⟨e, he⟩ : ∃ e, l[i]? = some e := ⟨l[i], List.getElem?_eq_getElem hi⟩
  have hlen := hm.len
  obtain ⟨v, hy⟩ : ∃ y, m[i]? = some y := ⟨m[i]'(by omega), List.getElem?_eq_getElem (by omega)⟩
  have hA := hA e he
  have hB := hB e he
  have hr := hm.range i v hy
  obtain ⟨d1, d2, u1, u2⟩ := pops_range e.Op
  have hc : (i : Int) < (l.length : Int) := by omega
  simp only [mach_heights.r1, if_pos hc, he, hy]
  unfold StepAt
  generalize hd : (mach_pops.f e.Op).1 = dn at *
  generalize hu : (mach_pops.f e.Op).2 = up at *
  have bad8 : ∀ {A : Option ((Nat × (List Int)) ⊕ ((List Int) ⊕ SFault))} (x : SFault), x.Code ≠ 0 → A = some (.inr (.inr x)) → (∃ m' e', some e = some e' ∧ A = some (.inl (i + 1, m')) ∧ Told1 l.length m' ∧ Keeps m m' ∧ ∃ v : Int, m'[i]? = some v ∧ (mach_pops.f e'.Op).1 ≤ v ∧ v ≤ 20 ∧ v - (mach_pops.f e'.Op).1 + (mach_pops.f e'.Op).2 ≤ 20 ∧
      ((e'.Op = 11 ∨ e'.Op = 12) → m'[e'.A.toNat]? = some (v - (mach_pops.f e'.Op).1 + (mach_pops.f e'.Op).2)) ∧ (e'.Op = 14 → m'[e'.B.toNat]? = some (v - (mach_pops.f e'.Op).1 + (mach_pops.f e'.Op).2)) ∧ (e'.Op ≠ 11 → m'[i + 1]? = some (v - (mach_pops.f e'.Op).1 + (mach_pops.f e'.Op).2))) ∨ ∃ s : SFault, A = some (.inr (.inr s)) ∧ s.Code ≠ 0 := fun x hx hA => .inr ⟨x, hA, hx⟩
  have fine : ∀ {A : Option ((Nat × (List Int)) ⊕ ((List Int) ⊕ SFault))} (m' : List Int), A = some (.inl (i + 1, m')) → Told1 l.length m' → Keeps m m' → (dn ≤ v ∧ v - dn + up ≤ 20 ∧ ((e.Op = 11 ∨ e.Op = 12) → m'[e.A.toNat]? = some (v - dn + up)) ∧ (e.Op = 14 → m'[e.B.toNat]? = some (v - dn + up)) ∧ (e.Op ≠ 11 → m'[i + 1]? = some (v - dn + up))) → (∃ m' e', some e = some e' ∧ A = some (.inl (i + 1, m')) ∧ Told1 l.length m' ∧ Keeps m m' ∧ ∃ v : Int, m'[i]? = some v ∧ (mach_pops.f e'.Op).1 ≤ v ∧ v ≤ 20 ∧ v - (mach_pops.f e'.Op).1 + (mach_pops.f e'.Op).2 ≤ 20 ∧
      ((e'.Op = 11 ∨ e'.Op = 12) → m'[e'.A.toNat]? = some (v - (mach_pops.f e'.Op).1 + (mach_pops.f e'.Op).2)) ∧ (e'.Op = 14 → m'[e'.B.toNat]? = some (v - (mach_pops.f e'.Op).1 + (mach_pops.f e'.Op).2)) ∧ (e'.Op ≠ 11 → m'[i + 1]? = some (v - (mach_pops.f e'.Op).1 + (mach_pops.f e'.Op).2))) ∨ ∃ s : SFault, A = some (.inr (.inr s)) ∧ s.Code ≠ 0 := fun m' hA hT hk ⟨q1, q2, q3, q4, q5⟩ => .inl ⟨m', e, rfl, hA, hT, hk, v, hk i v (by omega) hy, by rw [hd]; exact q1, by omega, by rw [hd, hu]; exact q2, by rw [hd, hu]; exact q3, by rw [hd, hu]; exact q4, by rw [hd, hu]; exact q5⟩
  by_cases h0 : v < 0
  · rw [if_pos h0]; exact bad8 ⟨7, (i : Int)⟩ (by simp) rfl
  rw [if_neg h0]
  have hp3 : mach_heights.p3 m e = some (.inl (false, m)) := by
    unfold mach_heights.p3
    split
    · rfl
    · split <;> rfl
  by_cases hge : v ≥ dn
  case neg =>
    simp only [if_neg hge, hp3, Bool.false_eq_true, if_false]
    refine bad8 ⟨8, (i : Int)⟩ (by simp) ?_
    split <;> split <;> rfl
  have w1 : IntKind.i64.wrap (IntKind.i64.wrap (v - dn) + up) = v - dn + up := by rw [wrap64_small (n := v - dn) (by omega) (by omega), wrap64_small (by omega) (by omega)]
  have w2 : IntKind.i64.wrap (v + IntKind.i64.wrap (up - dn)) = v - dn + up := by rw [wrap64_small (n := up - dn) (by omega) (by omega), wrap64_small (by omega) (by omega)]; omega
  simp only [if_pos hge, w2]
  by_cases h20 : v - dn + up ≤ 20
  case neg =>
    have hp2 : mach_heights.p2 m e v = some (.inl (false, m)) := by
      unfold mach_heights.p2
      simp only [hd, hu, w1, if_neg h20]
      split
      · rfl
      · split
        · rfl
        · simp [h20]
    simp only [hp2, Bool.false_eq_true, if_false]
    refine bad8 ⟨8, (i : Int)⟩ (by simp) ?_
    split <;> split <;> rfl
  have hV : 0 ≤ v - dn + up ∧ v - dn + up ≤ 20 := by omega
  have htn : ((i + 1 : Nat) : Int).toNat = i + 1 := Int.toNat_natCast _
  by_cases h11 : e.Op = 11
  · have h14 : ¬ e.Op = 14 := by omega
    obtain ⟨b, m', g1, g2, g3, g4⟩ := to_good hm (hA (.inl h11)) hV
    have hp2 : mach_heights.p2 m e v = some (.inl (b, m')) := by
      unfold mach_heights.p2
      simp only [if_pos h11, hd, hu, w1, w2, if_pos h20, g1]
    simp only [hp2, if_neg h14, if_pos h11]
    cases b with
    | false => simp only [Bool.false_eq_true, if_false]; exact bad8 ⟨8, (i : Int)⟩ (by simp) rfl
    | true => simp only [if_true]; exact fine m' rfl g2 g3 ⟨hge, h20, fun _ => g4 rfl, fun h => absurd h h14, fun h => absurd h11 h⟩
  by_cases h12 : e.Op = 12
  · have h14 : ¬ e.Op = 14 := by omega
    obtain ⟨b, m', g1, g2, g3, g4⟩ := to_good hm (hA (.inr h12)) hV
    have hp2 : mach_heights.p2 m e v = some (.inl (b, m')) := by
      unfold mach_heights.p2
      simp only [if_neg h11, if_pos h12, hd, hu, w1, w2, if_pos h20, g1]
    simp only [hp2, if_neg h14, if_neg h11]
    cases b with
    | false => simp only [Bool.false_eq_true, if_false]; exact bad8 ⟨8, (i : Int)⟩ (by simp) rfl
    | true =>
      obtain ⟨b, m2, k1, k2, k3, k4⟩ := to_good g2 (x := ((i + 1 : Nat) : Int)) ⟨by omega, by omega⟩ hV
      simp only [if_true, k1]
      cases b with
      | false => simp only [Bool.false_eq_true, if_false]; exact bad8 ⟨8, (i : Int)⟩ (by simp) rfl
      | true => simp only [if_true]; exact fine m2 rfl k2 (fun k v hv hk => k3 k v hv (g3 k v hv hk)) ⟨hge, h20, fun _ => k3 _ _ hV.1 (g4 rfl), fun h => absurd h h14, fun _ => by have := k4 rfl; rwa [htn] at this⟩
  have hp2 : mach_heights.p2 m e v = some (.inl (true, m)) := by
    unfold mach_heights.p2
    simp only [if_neg h11, if_neg h12, hd, hu, w1]
    simp [h20]
  have hno : ¬ (e.Op = 11 ∨ e.Op = 12) := by omega
  obtain ⟨b, m2, k1, k2, k3, k4⟩ := to_good hm (x := ((i + 1 : Nat) : Int)) ⟨by omega, by omega⟩ hV
  by_cases h14 : e.Op = 14
  · obtain ⟨b1, b2⟩ := hB h14
    obtain ⟨w, hw⟩ : ∃ x, m[e.B.toNat]? = some x := ⟨m[e.B.toNat]'(by omega), List.getElem?_eq_getElem (by omega)⟩
    simp only [hp2, if_pos h14, if_true, if_pos b1, hw, if_neg h11]
    by_cases hwn : w = v - dn + up
    · rw [if_pos hwn, k1]
      simp only
      cases b with
      | false => simp only [Bool.false_eq_true, if_false]; exact bad8 ⟨8, (i : Int)⟩ (by simp) rfl
      | true => simp only [if_true]; exact fine m2 rfl k2 k3 ⟨hge, h20, fun h => absurd h hno, fun _ => k3 _ _ hV.1 (by rw [hw, hwn]), fun _ => by have := k4 rfl; rwa [htn] at this⟩
    · rw [if_neg hwn]; exact bad8 ⟨8, (i : Int)⟩ (by simp) rfl
  · simp only [hp2, if_neg h14, if_neg h11, if_true, k1]
    cases b with
    | false => simp only [Bool.false_eq_true, if_false]; exact bad8 ⟨8, (i : Int)⟩ (by simp) rfl
    | true => simp only [if_true]; exact fine m2 rfl k2 k3 ⟨hge, h20, fun h => absurd h hno, fun h => absurd h h14, fun _ => by have := k4 rfl; rwa [htn] at this⟩
/-- heights that fit -/
structure HeightsOK (l : List SIns) (H : List Int) : Prop where
  len : H.length = l.length + 1
  start : H[0]? = some 0
  step : ∀ (i : Nat) (e : SIns), l[i]? = some e → StepAt H i e
  stop : ∀ v : Int, H[l.length]? = some v → v ≤ 0
theorem heights_some (l : List SIns) (hl : l.length ≤ 2000) (hJ : Jump l) (hB : ∀ (k : Nat) (e : SIns), l[k]? = some e → e.Op = 14 → 0 ≤ e.B ∧ e.B ≤ (l.length : Int)) (K : Nat) (hK : 4000 < K) : ∃ r, mach_heights.f K l = some r ∧ (r.Code ≠ 0 ∨ (r = ⟨0, 0⟩ ∧ ∃ H, HeightsOK l H)) := by
  have e0 : IntKind.i64.wrap ((l.length : Int) + 1) = ((l.length + 1 : Nat) : Int) := by rw [wrap64_small (by omega) (by omega)]; omega
  obtain ⟨r0, hr0, m0, rfl, hm0, hm1⟩ := iter_total (f := mach_heights.r0 l) (fun s => ∃ i : Nat, s.1 = (i : Int) ∧ i ≤ l.length + 1 ∧ s.2.length = l.length + 1 ∧ ∀ k, k < i → s.2[k]? = some (-1)) (fun s => (l.length + 1 - s.1.toNat)) (fun r => ∃ m : List Int, r = .inl m ∧ m.length = l.length + 1 ∧ ∀ k, k < l.length + 1 → m[k]? = some (-1)) (fun s ⟨i, h1, h2, h3, h4⟩ => by
    obtain ⟨z, m⟩ := s
    simp only at h1 h3 h4
    subst h1
    simp only [mach_heights.r0, e0, Int.toNat_natCast, List.length_replicate]
    by_cases hlt : i < l.length + 1
    · obtain ⟨y, hy⟩ : ∃ y, m[i]? = some y := ⟨m[i]'(by omega), List.getElem?_eq_getElem (by omega)⟩
      have e1 : IntKind.i64.wrap ((i : Int) + 1) = ((i + 1 : Nat) : Int) := by rw [wrap64_small (by omega) (by omega)]; omega
      simp only [hy, e1]
      rw [if_pos (by omega), if_pos (by omega)]
      refine .inl ⟨_, rfl, ⟨i + 1, rfl, by omega, by simp only [List.length_set]; exact h3, fun k hk => ?_⟩, by simp only; omega⟩
      simp only
      by_cases hki : k = i
      · subst hki; rw [List.getElem?_set_self (by omega)]
      · rw [List.getElem?_set_ne (fun e => hki e.symm)]; exact h4 k (by omega)
    · rw [if_neg (by omega)]
      exact .inr ⟨_, rfl, m, rfl, h3, fun k hk => h4 k (by omega)⟩) K (0, List.replicate (l.length + 1) 0) ⟨0, rfl, by omega, by simp, fun k hk => by omega⟩ (by simp; omega)
  have hT0 : Told1 l.length (m0.set 0 0) := ⟨by rw [List.length_set]; exact hm0, fun k v hk => by
    by_cases h0 : k = 0
    · subst h0; rw [List.getElem?_set_self (by omega)] at hk; cases hk; omega
    · rw [List.getElem?_set_ne (fun e => h0 e.symm), hm1 k (by have := lt_of_get hk; omega)] at hk; cases hk; omega⟩
  obtain ⟨r1, hr1, h1⟩ := iter_total (f := mach_heights.r1 l) (fun s => s.1 ≤ l.length ∧ Told1 l.length s.2 ∧ s.2[0]? = some 0 ∧ ∀ (k : Nat) (e : SIns), k < s.1 → l[k]? = some e → StepAt s.2 k e) (fun s => l.length - s.1) (fun r => (∃ m : List Int, r = .inl m ∧ Told1 l.length m ∧ m[0]? = some 0 ∧ ∀ (k : Nat) (e : SIns), l[k]? = some e → StepAt m k e) ∨ ∃ s : SFault, r = .inr s ∧ s.Code ≠ 0) (fun s ⟨hi, hm, hz, hS⟩ => by
    obtain ⟨i, m⟩ := s
    simp only at hi hm hz hS
    by_cases hlt : i < l.length
    · have hlast := fun (e : SIns) (he : l[i]? = some e) (ho : e.Op = 11 ∨ e.Op = 12) => (by have := hJ i e he ho; omega : 0 ≤ e.A ∧ e.A ≤ (l.length : Int))
      rcases heights_step l hl i hlt m hm hlast (fun e he h14 => hB i e he h14) with ⟨m', e, he, h1, h2, h3, h4⟩ | ⟨s, h1, h2⟩
      · refine .inl ⟨_, h1, ⟨by simp only; omega, h2, h3 0 0 (by omega) hz, fun k f hk hf => ?_⟩, by simp only; omega⟩
        simp only at hk
        by_cases hki : k = i
        · subst hki; rw [he] at hf; cases hf; exact h4
        · exact (hS k f (by omega) hf).keep h3
      · exact .inr ⟨_, h1, .inr ⟨s, rfl, h2⟩⟩
    · right
      simp only [mach_heights.r1]
      rw [if_neg (by omega)]
      exact ⟨_, rfl, .inl ⟨m, rfl, hm, hz, fun k e he => hS k e (by have := lt_of_get he; omega) he⟩⟩) K (0, m0.set 0 0) ⟨Nat.zero_le _, hT0, by simp only; rw [List.getElem?_set_self (by omega)], fun k e hk => by simp at hk⟩ (by simp only; omega)
  unfold mach_heights.f
  have hc1 : (0 : Int) ≤ ((l.length + 1 : Nat) : Int) := by omega
  have hc2 : l.length + 1 ≤ 17592186044416 := by omega
  simp only [e0, Int.toNat_natCast, if_pos hc1, if_pos hc2, hr0, hm1 0 (by omega), hr1]
  rcases h1 with ⟨m, rfl, hm, hz, hS⟩ | ⟨s, rfl, hs⟩
  · have hml := hm.len
    obtain ⟨y, hy⟩ : ∃ y, m[l.length]? = some y := ⟨m[l.length]'(by omega), List.getElem?_eq_getElem (by omega)⟩
    simp only [hy]
    by_cases hy0 : y > 0
    · rw [if_pos hy0]; exact ⟨_, rfl, .inl (by simp)⟩
    · rw [if_neg hy0]; exact ⟨_, rfl, .inr ⟨rfl, m, hml, hz, hS, fun v hv => by rw [hy] at hv; cases hv; omega⟩⟩
  · exact ⟨s, rfl, .inl hs⟩
/-- what Look's OK says -/
structure Facts (l : List SIns) (m : List (Int × Int)) : Prop where
  len : l.length ≤ 2000
  ok : ∀ (i : Nat) (e : SIns), l[i]? = some e → OkI e
  jump : Jump l
  shut : ∀ (k : Nat) (e : SIns), l[k]? = some e → (e.Op = 13 ∨ e.Op = 16) → (k : Int) < (mget m (k : Int)).getD 0 ∧ (mget m (k : Int)).getD 0 < (l.length : Int)
  back : ∀ (k : Nat) (e : SIns), l[k]? = some e → e.Op = 14 → 0 ≤ e.B ∧ e.B ≤ (k : Int)
  hts : ∃ H, HeightsOK l H
theorem Look_some (l : List SIns) (K : Nat) (hK : 4000 < K) : ∃ r, mach_Look.f K l = some r ∧ (r.2.Code ≠ 0 ∨ (r.2 = ⟨0, 0⟩ ∧ Facts l r.1.Close)) := by
  unfold mach_Look.f
  by_cases hn : (l.length : Int) > 2000
  · rw [if_pos hn]; exact ⟨_, rfl, .inl (by simp [mach_Look_1.f])⟩
  rw [if_neg hn]
  obtain ⟨r, hr, h⟩ := look_ins l K (by omega)
  rw [hr]
  rcases h with ⟨rfl, hok⟩ | ⟨s, rfl, hs⟩
  case inr => exact ⟨s, rfl, .inl hs⟩
  simp only
  rw [if_pos (by omega)]
  obtain ⟨r1, hr1, h1⟩ := look_regions l K (by omega) hK
  rw [hr1]
  rcases h1 with ⟨op, inn, m, rfl, hR⟩ | ⟨s, rfl, hs⟩
  case inr => exact ⟨s, rfl, .inl hs⟩
  simp only
  rcases op with _ | ⟨o, op⟩
  case cons =>
    obtain ⟨k, e, rfl, hk, he, _⟩ := hR.open_ o (by simp)
    rw [if_pos (by simp)]
    simp only [List.getElem?_cons_zero, Int.toNat_natCast, he]
    rw [if_pos (by omega)]
    split
    · exact ⟨_, rfl, .inl (by simp [mach_Look_1.f])⟩
    · exact ⟨_, rfl, .inl (by simp [mach_Look_1.f])⟩
  rw [if_neg (by simp)]
  obtain ⟨r2, hr2, h2⟩ := look_jumps l inn hR.len hok K (by omega)
  rw [hr2]
  rcases h2 with ⟨rfl, hJ⟩ | ⟨s, rfl, hs⟩
  case inr => exact ⟨s, rfl, .inl hs⟩
  simp only
  obtain ⟨r3, hr3, h3⟩ := heights_some l (by omega) hJ (fun k e he h14 => by have := hR.back k e (lt_of_get he) he h14; have := lt_of_get he; omega) K hK
  rw [hr3]
  simp only
  rcases h3 with h3 | ⟨rfl, hH⟩
  · rw [if_neg h3]; exact ⟨_, rfl, .inl h3⟩
  · rw [if_pos rfl]
    refine ⟨_, rfl, .inr ⟨rfl, by omega, hok, hJ, fun k e he ho => ?_, fun k e he => hR.back k e (lt_of_get he) he, hH⟩⟩
    rcases hR.shut k e (lt_of_get he) he ho with h4 | ⟨c, h4, h5, h6⟩
    · cases h4
    · simp only [h4, Option.getD_some]
      omega

/-- what is left from i on, of a list; nothing behind its end -/
def restAt (R : List Int) (i : Nat) : Int := (R[i]?).getD 0
/-- what is left at least from instruction i on, by what is left from others -/
def needOf (m : List (Int × Int)) (R : List Int) (i : Nat) (e : SIns) : Int :=
  if e.Op = 14 then 0
  else if e.Op = 17 then 1
  else if e.Op = 11 then 2 + restAt R e.A.toNat
  else if e.Op = 12 then max (2 + restAt R e.A.toNat) (1 + restAt R (i + 1))
  else if e.Op = 13 then (e.B + 1) * restAt R (i + 1) + 2 * e.B + 2 + restAt R (((mget m (i : Int)).getD 0).toNat + 1)
  else if e.Op = 16 then 1 + restAt R (i + 1) + restAt R (((mget m (i : Int)).getD 0).toNat + 1)
  else mach_Cost.f e false + restAt R (i + 1)
theorem at_eq (R : List Int) (x : Int) (hx : 0 ≤ x) : wcet_at_1.f x R = some (restAt R x.toNat) := by
  unfold wcet_at_1.f restAt
  split
  · rw [List.getElem?_eq_none (by omega)]; rfl
  · rw [List.getElem?_eq_getElem (by omega)]; rfl
theorem cost_range {e : SIns} (h : OkI e) (b : Bool) : 1 ≤ mach_Cost.f e b ∧ mach_Cost.f e b ≤ 1000 := by
  unfold mach_Cost.f
  repeat' split
  all_goals first | omega | (have := h.A18 (by assumption); omega)
/-- the numbers behind i are such as may be told -/
def Told (R : List Int) (i : Nat) : Prop := ∀ j, i < j → 0 ≤ restAt R j ∧ restAt R j ≤ 1099511627776
theorem need_eq {l : List SIns} {m : List (Int × Int)} (F : Facts l m) {inn R : List Int} {i : Nat} {e : SIns} (he : l[i]? = some e) (hT : Told R i) : wcet_need.f l inn m R (i : Int) = some (needOf m R i e) ∧ 0 ≤ needOf m R i e := by
  have hi := lt_of_get he
  have hlen := F.len
  have ho := F.ok i e he
  have hA := ho.A
  have hB := ho.B
  have e1 : IntKind.i64.wrap ((i : Int) + 1) = ((i + 1 : Nat) : Int) := by rw [wrap64_small (by omega) (by omega)]; omega
  have a1 : wcet_at_1.f ((i + 1 : Nat) : Int) R = some (restAt R (i + 1)) := by
    have := at_eq R ((i + 1 : Nat) : Int) (by omega)
    rwa [Int.toNat_natCast] at this
  have t1 := hT (i + 1) (by omega)
  have c0 := cost_range ho false
  have c1 := cost_range ho true
  unfold wcet_need.f needOf
  rw [if_pos (by omega)]
  simp only [Int.toNat_natCast, he, e1, a1]
  by_cases h14 : e.Op = 14
  · rw [if_pos h14, if_pos h14]; exact ⟨rfl, by omega⟩
  rw [if_neg h14, if_neg h14]
  by_cases h17 : e.Op = 17
  · rw [if_pos h17, if_pos h17]; exact ⟨rfl, by omega⟩
  rw [if_neg h17, if_neg h17]
  by_cases h11 : e.Op = 11
  · rw [if_pos h11, if_pos h11, at_eq R e.A hA]
    have hj := F.jump i e he (.inl h11)
    have t2 := hT e.A.toNat (by omega)
    have : mach_Cost.f e true = 2 := by simp [mach_Cost.f, h11]
    simp only [this]
    rw [wrap64_small (by omega) (by omega)]
    exact ⟨rfl, by omega⟩
  rw [if_neg h11, if_neg h11]
  by_cases h12 : e.Op = 12
  · rw [if_pos h12, if_pos h12, at_eq R e.A hA]
    have hj := F.jump i e he (.inr h12)
    have t2 := hT e.A.toNat (by omega)
    have k1 : mach_Cost.f e true = 2 := by simp [mach_Cost.f, h12]
    have k2 : mach_Cost.f e false = 1 := by simp [mach_Cost.f, h12]
    simp only [k1, k2]
    rw [wrap64_small (by omega) (by omega), wrap64_small (by omega) (by omega)]
    refine ⟨?_, by omega⟩
    unfold gmax
    split
    · rw [Int.max_eq_right (by omega)]
    · rw [Int.max_eq_left (by omega)]
  rw [if_neg h12, if_neg h12]
  have hcl : (e.Op = 13 ∨ e.Op = 16) → wcet_at_1.f (IntKind.i64.wrap (((mget m (i : Int)).getD 0) + 1)) R = some (restAt R (((mget m (i : Int)).getD 0).toNat + 1)) ∧ 0 ≤ restAt R (((mget m (i : Int)).getD 0).toNat + 1) ∧ restAt R (((mget m (i : Int)).getD 0).toNat + 1) ≤ 1099511627776 := fun h => by
    obtain ⟨s1, s2⟩ := F.shut i e he h
    rw [wrap64_small (by omega) (by omega), at_eq R _ (by omega)]
    have : (((mget m (i : Int)).getD 0) + 1).toNat = ((mget m (i : Int)).getD 0).toNat + 1 := by omega
    rw [this]
    exact ⟨rfl, hT _ (by omega)⟩
  by_cases h13 : e.Op = 13
  · rw [if_pos h13, if_pos h13]
    obtain ⟨g1, g2, g3⟩ := hcl (.inl h13)
    have hB1 := ho.B1 h13
    simp only [g1]
    generalize restAt R (((mget m (i : Int)).getD 0).toNat + 1) = y at *
    generalize restAt R (i + 1) = x at *
    have hp : 0 ≤ (e.B + 1) * x := Int.mul_nonneg (by omega) t1.1
    have hq : (e.B + 1) * x ≤ 1001 * 1099511627776 := Int.mul_le_mul (by omega) t1.2 t1.1 (by omega)
    rw [wrap64_small (n := e.B + 1) (by omega) (by omega), wrap64_small (n := (e.B + 1) * x) (by omega) (by omega)]
    generalize (e.B + 1) * x = z at *
    rw [wrap64_small (n := 1 + z) (by omega) (by omega), wrap64_small (n := 2 * e.B) (by omega) (by omega), wrap64_small (n := 1 + z + 2 * e.B) (by omega) (by omega), wrap64_small (n := 1 + z + 2 * e.B + 1) (by omega) (by omega), wrap64_small (by omega) (by omega)]
    refine ⟨by congr 1; omega, by omega⟩
  rw [if_neg h13, if_neg h13]
  by_cases h16 : e.Op = 16
  · rw [if_pos h16, if_pos h16]
    obtain ⟨g1, g2, g3⟩ := hcl (.inr h16)
    simp only [g1]
    rw [wrap64_small (n := 1 + restAt R (i + 1)) (by omega) (by omega), wrap64_small (by omega) (by omega)]
    exact ⟨rfl, by omega⟩
  rw [if_neg h16, if_neg h16, wrap64_small (by omega) (by omega)]
  exact ⟨rfl, by omega⟩
theorem need_mono {l : List SIns} {m : List (Int × Int)} (F : Facts l m) {R S : List Int} {i : Nat} {e : SIns} (he : l[i]? = some e) (h : ∀ j, i < j → restAt R j ≤ restAt S j) : needOf m R i e ≤ needOf m S i e := by
  have ho := F.ok i e he
  have h1 := h (i + 1) (by omega)
  have hjmp : (e.Op = 11 ∨ e.Op = 12) → restAt R e.A.toNat ≤ restAt S e.A.toNat := fun hh => by
    have := F.jump i e he hh
    exact h _ (by omega)
  have hcl : (e.Op = 13 ∨ e.Op = 16) → restAt R (((mget m (i : Int)).getD 0).toNat + 1) ≤ restAt S (((mget m (i : Int)).getD 0).toNat + 1) := fun hh => by
    have := F.shut i e he hh
    exact h _ (by omega)
  unfold needOf
  by_cases h14 : e.Op = 14
  · rw [if_pos h14, if_pos h14]; omega
  rw [if_neg h14, if_neg h14]
  by_cases h17 : e.Op = 17
  · rw [if_pos h17, if_pos h17]; omega
  rw [if_neg h17, if_neg h17]
  by_cases h11 : e.Op = 11
  · rw [if_pos h11, if_pos h11]; have := hjmp (.inl h11); omega
  rw [if_neg h11, if_neg h11]
  by_cases h12 : e.Op = 12
  · rw [if_pos h12, if_pos h12]; have := hjmp (.inr h12); omega
  rw [if_neg h12, if_neg h12]
  by_cases h13 : e.Op = 13
  · rw [if_pos h13, if_pos h13]
    have := hcl (.inl h13)
    have hB := ho.B
    have := Int.mul_le_mul_of_nonneg_left h1 (show 0 ≤ e.B + 1 by omega)
    omega
  rw [if_neg h13, if_neg h13]
  by_cases h16 : e.Op = 16
  · rw [if_pos h16, if_pos h16]; have := hcl (.inr h16); omega
  rw [if_neg h16, if_neg h16]
  omega
theorem need_same {l : List SIns} {m : List (Int × Int)} (F : Facts l m) {R S : List Int} {i : Nat} {e : SIns} (he : l[i]? = some e) (h : ∀ j, i < j → restAt R j = restAt S j) : needOf m R i e = needOf m S i e :=
  Int.le_antisymm (need_mono F he (fun j hj => by rw [h j hj]; exact Int.le_refl _)) (need_mono F he (fun j hj => by rw [h j hj]; exact Int.le_refl _))
/-- numbers that are just what is left -/
structure Exact (l : List SIns) (m : List (Int × Int)) (R : List Int) : Prop where
  len : R.length = l.length
  told : ∀ j, 0 ≤ restAt R j ∧ restAt R j ≤ 1099511627776
  is : ∀ (i : Nat) (e : SIns), l[i]? = some e → restAt R i = needOf m R i e
theorem restAt_set (R : List Int) (i j : Nat) (v : Int) (hi : i < R.length) : restAt (R.set i v) j = if j = i then v else restAt R j := by
  unfold restAt
  by_cases h : j = i
  · subst h; rw [if_pos rfl, List.getElem?_set_self hi]; rfl
  · rw [if_neg h, List.getElem?_set_ne (fun e => h e.symm)]
theorem analyse_rounds {l : List SIns} {r1 : SShape × SFault} (F : Facts l r1.1.Close) (K : Nat) (hK : 4000 < K) : ∃ r, iter (wcet_Analyse.r0 l r1) K ((l.length : Int) - 1, List.replicate l.length (0 : Int)) = some r ∧ ((∃ R, r = .inl R ∧ Exact l r1.1.Close R) ∨ ∃ z, r = .inr (⟨0, []⟩, ⟨3, z⟩)) := by
  have hlen := F.len
  refine iter_total (f := wcet_Analyse.r0 l r1) (fun s => ∃ i : Nat, s.1 = (i : Int) - 1 ∧ i ≤ l.length ∧ s.2.length = l.length ∧ (∀ j, i ≤ j → 0 ≤ restAt s.2 j ∧ restAt s.2 j ≤ 1099511627776) ∧ ∀ (j : Nat) (e : SIns), i ≤ j → l[j]? = some e → restAt s.2 j = needOf r1.1.Close s.2 j e) (fun s => (s.1 + 1).toNat) _ (fun s ⟨i, h1, h2, h3, h4, h5⟩ => ?_) K _ ⟨l.length, rfl, Nat.le_refl _, by simp, fun j hj => ?_, fun j e hj he => ?_⟩ (by simp only; omega)
  · obtain ⟨z, R⟩ := s
    simp only at h1 h3 h4 h5
    subst h1
    rcases i with _ | i
    · right
      simp only [wcet_Analyse.r0]
      rw [if_neg (by omega)]
      exact ⟨_, rfl, .inl ⟨R, rfl, h3, fun j => h4 j (Nat.zero_le _), fun j e he => h5 j e (Nat.zero_le _) he⟩⟩
    · have hz : ((i + 1 : Nat) : Int) - 1 = (i : Int) := by omega
      obtain ⟨e, he⟩ : ∃ e, l[i]? = some e := ⟨l[i], List.getElem?_eq_getElem (by omega)⟩
      obtain ⟨n1, n2⟩ := need_eq F (inn := r1.1.In) (R := R) he (fun j hj => h4 j (by omega))
      obtain ⟨y, hy⟩ : ∃ y, R[i]? = some y := ⟨R[i]'(by omega), List.getElem?_eq_getElem (by omega)⟩
      simp only [wcet_Analyse.r0, hz, n1, Int.toNat_natCast, hy]
      rw [if_pos (by omega), if_pos (by omega), List.getElem?_set_self (by omega)]
      simp only
      by_cases hb : needOf r1.1.Close R i e > 1099511627776
      · rw [if_pos hb]; exact .inr ⟨_, rfl, .inr ⟨_, rfl⟩⟩
      · rw [if_neg hb]
        have hs : ∀ j, restAt (R.set i (needOf r1.1.Close R i e)) j = if j = i then needOf r1.1.Close R i e else restAt R j := fun j => restAt_set R i j _ (by omega)
        refine .inl ⟨_, rfl, ⟨i, by simp only; rw [wrap64_small (by omega) (by omega)], by omega, by simpa using h3, fun j hj => ?_, fun j f hj hf => ?_⟩, by simp only; rw [wrap64_small (by omega) (by omega)]; omega⟩
        · simp only [hs]
          split
          · omega
          · exact h4 j (by omega)
        · simp only
          have hsame : ∀ (k : Nat) (g : SIns), i ≤ k → l[k]? = some g → needOf r1.1.Close (R.set i (needOf r1.1.Close R i e)) k g = needOf r1.1.Close R k g := fun k g hk hg => need_same F hg (fun j hj => by rw [hs, if_neg (by omega)])
          rw [hsame j f hj hf, hs]
          by_cases hji : j = i
          · subst hji
            rw [he] at hf
            cases hf
            rw [if_pos rfl]
          · rw [if_neg hji]
            exact h5 j f (by omega) hf
  · have : restAt (List.replicate l.length (0 : Int)) j = 0 := by unfold restAt; rw [List.getElem?_eq_none (by simpa using hj)]; rfl
    rw [this]; omega
  · have := lt_of_get he; omega
theorem Analyse_some (l : List SIns) (K : Nat) (hK : 4000 < K) : ∃ r, wcet_Analyse.f K l = some r ∧ ((r.2.Code ≠ 0 ∧ r.1 = ⟨0, []⟩) ∨ (r.2.Code = 0 ∧ ∃ s, mach_Look.f K l = some s ∧ s.2.Code = 0 ∧ Facts l s.1.Close ∧ Exact l s.1.Close r.1.Rest ∧ r.1.Worst = restAt r.1.Rest 0)) := by
  unfold wcet_Analyse.f
  obtain ⟨s, hs, h⟩ := Look_some l K hK
  rw [hs]
  simp only
  rcases h with h | ⟨h, F⟩
  · rw [if_neg h]
    exact ⟨_, rfl, .inl ⟨h, rfl⟩⟩
  · have hlen := F.len
    rw [if_pos (by rw [h]), if_pos (by omega), wrap64_small (by omega) (by omega)]
    obtain ⟨r, hr, h2⟩ := analyse_rounds F K hK
    rw [hr]
    rcases h2 with ⟨R, rfl, hE⟩ | ⟨z, rfl⟩
    · simp only
      rw [at_eq R 0 (by omega)]
      exact ⟨_, rfl, .inr ⟨rfl, s, rfl, by rw [h], F, hE, rfl⟩⟩
    · exact ⟨_, rfl, .inl ⟨by simp, rfl⟩⟩
/-- numbers that show it -/
structure Shows (l : List SIns) (m : List (Int × Int)) (w : Int) (R : List Int) : Prop where
  len : R.length = l.length
  told : ∀ j, 0 ≤ restAt R j ∧ restAt R j ≤ 1099511627776
  ge : ∀ (i : Nat) (e : SIns), l[i]? = some e → needOf m R i e ≤ restAt R i
  worst : restAt R 0 ≤ w
theorem Proves_some {l : List SIns} {K : Nat} (hK : 4000 < K) {s : SShape × SFault} (hs : mach_Look.f K l = some s) (hc : s.2.Code = 0) (F : Facts l s.1.Close) (w : Int) (R : List Int) : ∃ b, wcet_Proves.f K l w R = some b ∧ (b = true ↔ Shows l s.1.Close w R) := by
  have hlen := F.len
  unfold wcet_Proves.f wcet_Proves.p0
  rw [hs]
  simp only
  rw [if_pos hc]
  by_cases hl : R.length = l.length
  case neg => rw [if_neg (by omega)]; exact ⟨false, rfl, by simp; exact fun h => hl h.len⟩
  rw [if_pos (by omega)]
  simp only
  obtain ⟨r, hr, h1⟩ := iter_total (f := wcet_Proves.r1 R) (fun i => i ≤ R.length ∧ ∀ j, j < i → 0 ≤ restAt R j ∧ restAt R j ≤ 1099511627776) (fun i => R.length - i) (fun r => (r = .inl () ∧ ∀ j, 0 ≤ restAt R j ∧ restAt R j ≤ 1099511627776) ∨ (r = .inr false ∧ ¬ ∀ j, 0 ≤ restAt R j ∧ restAt R j ≤ 1099511627776)) (fun i ⟨hi, hI⟩ => by
    by_cases hlt : i < R.length
    · obtain ⟨y, hy⟩ : ∃ y, R[i]? = some y := ⟨R[i], List.getElem?_eq_getElem hlt⟩
      have hry : restAt R i = y := by unfold restAt; rw [hy]; rfl
      simp only [wcet_Proves.r1, hy]
      rw [if_pos (by omega)]
      split
      · exact .inr ⟨_, rfl, .inr ⟨rfl, fun h => by have := h i; omega⟩⟩
      · split
        · exact .inr ⟨_, rfl, .inr ⟨rfl, fun h => by have := h i; omega⟩⟩
        · refine .inl ⟨_, rfl, ⟨hlt, fun j hj => ?_⟩, by omega⟩
          by_cases hji : j = i
          · subst hji; omega
          · exact hI j (by omega)
    · right
      simp only [wcet_Proves.r1]
      rw [if_neg (by omega)]
      refine ⟨_, rfl, .inl ⟨rfl, fun j => ?_⟩⟩
      by_cases hj : j < i
      · exact hI j hj
      · have : restAt R j = 0 := by unfold restAt; rw [List.getElem?_eq_none (by omega)]; rfl
        omega) K 0 ⟨Nat.zero_le _, fun j hj => by omega⟩ (by omega)
  rw [hr]
  rcases h1 with ⟨rfl, hT⟩ | ⟨rfl, hT⟩
  case inr => exact ⟨false, rfl, by simp; exact fun h => hT h.told⟩
  simp only
  obtain ⟨r, hr, h1⟩ := iter_total (f := wcet_Proves.r2 l R s) (fun i => i ≤ l.length ∧ ∀ (j : Nat) (e : SIns), j < i → l[j]? = some e → needOf s.1.Close R j e ≤ restAt R j) (fun i => l.length - i) (fun r => (r = .inl () ∧ ∀ (j : Nat) (e : SIns), l[j]? = some e → needOf s.1.Close R j e ≤ restAt R j) ∨ (r = .inr false ∧ ¬ ∀ (j : Nat) (e : SIns), l[j]? = some e → needOf s.1.Close R j e ≤ restAt R j)) (fun i ⟨hi, hI⟩ => by
    by_cases hlt : i < l.length
    · obtain ⟨e, he⟩ : ∃ e, l[i]? = some e := ⟨l[i], List.getElem?_eq_getElem hlt⟩
      obtain ⟨y, hy⟩ : ∃ y, R[i]? = some y := ⟨R[i]'(by omega), List.getElem?_eq_getElem (by omega)⟩
      have hry : restAt R i = y := by unfold restAt; rw [hy]; rfl
      obtain ⟨n1, n2⟩ := need_eq F (inn := s.1.In) (R := R) he (fun j _ => hT j)
      simp only [wcet_Proves.r2, hy, n1]
      rw [if_pos (by omega)]
      split
      · exact .inr ⟨_, rfl, .inr ⟨rfl, fun h => by have := h i e he; omega⟩⟩
      · refine .inl ⟨_, rfl, ⟨hlt, fun j f hj hf => ?_⟩, by omega⟩
        by_cases hji : j = i
        · subst hji; rw [he] at hf; cases hf; omega
        · exact hI j f (by omega) hf
    · right
      simp only [wcet_Proves.r2]
      rw [if_neg (by omega)]
      exact ⟨_, rfl, .inl ⟨rfl, fun j e he => hI j e (by have := lt_of_get he; omega) he⟩⟩) K 0 ⟨Nat.zero_le _, fun j e hj => by omega⟩ (by omega)
  rw [hr]
  rcases h1 with ⟨rfl, hG⟩ | ⟨rfl, hG⟩
  case inr => exact ⟨false, rfl, by simp; exact fun h => hG h.ge⟩
  simp only
  rw [at_eq R 0 (by omega)]
  exact ⟨_, rfl, by simp only [decide_eq_true_eq]; exact ⟨fun h => ⟨hl, hT, hG, h⟩, fun h => h.worst⟩⟩
/-- what shows it says no less than what is just left -/
theorem Shows.least {l : List SIns} {m : List (Int × Int)} (F : Facts l m) {w : Int} {R S : List Int} (hE : Exact l m R) (hS : Shows l m w S) : ∀ j, restAt R j ≤ restAt S j := by
  have key : ∀ d j, l.length ≤ j + d → restAt R j ≤ restAt S j := by
    intro d
    induction d using Nat.strongRecOn with
    | _ d ih =>
      intro j hj
      by_cases hlt : j < l.length
      · have he : l[j]? = some l[j] := List.getElem?_eq_getElem hlt
        have h1 := hE.is j _ he
        have h2 := hS.ge j _ he
        have h3 := need_mono F (R := R) (S := S) he (fun k hk => ih (l.length - k) (by omega) k (by omega))
        omega
      · have : restAt R j = 0 := by unfold restAt; rw [List.getElem?_eq_none (by have := hE.len; omega)]; rfl
        have := (hS.told j).1
        omega
  exact fun j => key l.length j (by omega)
theorem Exact.shows {l : List SIns} {m : List (Int × Int)} {R : List Int} (hE : Exact l m R) {w : Int} (hw : restAt R 0 ≤ w) : Shows l m w R := ⟨hE.len, hE.told, fun i e he => by rw [hE.is i e he]; exact Int.le_refl _, hw⟩

theorem holds_spec (l : List SIns) (op inn : List Int) (m : List (Int × Int)) (x a : Int) (K : Nat) (hK : op.length < K) (ho : ∀ o ∈ op, 0 ≤ o ∧ o < (l.length : Int)) : ∃ b, mach_looker_holds.f K l op inn m x a = some b ∧ (b = false → ∀ o ∈ op, ∀ e : SIns, l[o.toNat]? = some e → e.Op = x → e.A ≠ a) := by
  obtain ⟨r, hr, h⟩ := iter_total (f := mach_looker_holds.r0 l op x a) (fun i => i ≤ op.length ∧ ∀ (j : Nat) (o : Int), j < i → op[j]? = some o → ∀ e : SIns, l[o.toNat]? = some e → e.Op = x → e.A ≠ a) (fun i => op.length - i) (fun r => (r = .inl () ∧ ∀ o ∈ op, ∀ e : SIns, l[o.toNat]? = some e → e.Op = x → e.A ≠ a) ∨ r = .inr true) (fun i ⟨hi, hI⟩ => by
    by_cases hlt : i < op.length
    · obtain ⟨o, hoi⟩ : ∃ o, op[i]? = some o := ⟨op[i], List.getElem?_eq_getElem hlt⟩
      obtain ⟨h1, h2⟩ := ho o (List.mem_of_getElem? hoi)
      obtain ⟨e, he⟩ : ∃ e, l[o.toNat]? = some e := ⟨l[o.toNat]'(by omega), List.getElem?_eq_getElem (by omega)⟩
      have hc : (i : Int) < (op.length : Int) := by omega
      have next : ¬ (e.Op = x ∧ e.A = a) → i + 1 ≤ op.length ∧ ∀ (j : Nat) (o : Int), j < i + 1 → op[j]? = some o → ∀ e : SIns, l[o.toNat]? = some e → e.Op = x → e.A ≠ a := fun hn => ⟨hlt, fun j p hj hp f hf hfx hfa => by
        by_cases hji : j = i
        · subst hji; rw [hoi] at hp; cases hp; rw [he] at hf; cases hf; exact hn ⟨hfx, hfa⟩
        · exact hI j p (by omega) hp f hf hfx hfa⟩
      simp only [mach_looker_holds.r0, if_pos hc, hoi, he, if_pos h1]
      by_cases g1 : e.Op = x
      · rw [if_pos g1]
        by_cases g2 : e.A = a
        · rw [if_pos g2]; exact .inr ⟨_, rfl, .inr rfl⟩
        · rw [if_neg g2]; exact .inl ⟨_, rfl, next (fun h => g2 h.2), by omega⟩
      · rw [if_neg g1]; exact .inl ⟨_, rfl, next (fun h => g1 h.1), by omega⟩
    · right
      have hc : ¬ (i : Int) < (op.length : Int) := by omega
      simp only [mach_looker_holds.r0, if_neg hc]
      refine ⟨_, rfl, .inl ⟨rfl, fun o ho' => ?_⟩⟩
      obtain ⟨j, hj⟩ := List.mem_iff_getElem?.1 ho'
      exact hI j o (by have := lt_of_get hj; omega) hj) K 0 ⟨Nat.zero_le _, fun j o hj => by omega⟩ (by omega)
  unfold mach_looker_holds.f
  rw [hr]
  rcases h with ⟨rfl, h⟩ | rfl
  · exact ⟨false, rfl, fun _ => h⟩
  · exact ⟨true, rfl, fun h => by cases h⟩
/-- k lies in the region that o opens -/
def Within (op : List Int) (m : List (Int × Int)) (k : Nat) (o : Int) : Prop := o < (k : Int) ∧ (o ∈ op ∨ ∃ c : Int, mget m o = some c ∧ (k : Int) ≤ c)
def Inner (op : List Int) (m : List (Int × Int)) (k : Nat) (t : Int) : Prop := (t = -1 ∧ ∀ o, ¬ Within op m k o) ∨ (0 ≤ t ∧ Within op m k t ∧ ∀ o, Within op m k o → o ≤ t)
/-- an instruction that opens a region and the one that closes it -/
def Pair (l : List SIns) (o c : Nat) : Prop := o < c ∧ ∃ eo ec : SIns, l[o]? = some eo ∧ l[c]? = some ec ∧ ((eo.Op = 13 ∧ ec.Op = 14 ∧ ec.A = eo.A ∧ ec.B = (o : Int) + 1) ∨ (eo.Op = 16 ∧ ec.Op = 17))
structure Nest (l : List SIns) (i : Nat) (op inn : List Int) (m : List (Int × Int)) : Prop where
  R : Regs l i op inn m
  pair : ∀ o c : Int, mget m o = some c → ∃ ko kc : Nat, o = (ko : Int) ∧ c = (kc : Int) ∧ kc < i ∧ Pair l ko kc
  fresh : ∀ o ∈ op, mget m o = none
  closed : ∀ (k : Nat) (e : SIns), k < i → l[k]? = some e → (e.Op = 14 ∨ e.Op = 17) → ∃ o : Int, mget m o = some (k : Int)
  within : ∀ o c t d : Int, mget m o = some c → mget m t = some d → o < t → t < c → d < c
  later : ∀ o t d : Int, o ∈ op → mget m t = some d → t < o → d < o
  counts : ∀ (o t : Nat) (eo et : SIns), o < t → t < i → l[o]? = some eo → l[t]? = some et → eo.Op = 13 → et.Op = 13 → ((o : Int) ∈ op ∨ ∃ c : Int, mget m (o : Int) = some c ∧ (t : Int) < c) → eo.A ≠ et.A
  one : ∀ o o' c : Int, mget m o = some c → mget m o' = some c → o = o'
  top : ∀ (k : Nat) (t : Int), k < i → inn[k]? = some t → Inner op m k t
theorem Inner.congr {op op' : List Int} {m m' : List (Int × Int)} {k : Nat} {t : Int} (h : Inner op m k t) (e : ∀ o, Within op m k o ↔ Within op' m' k o) : Inner op' m' k t := by
  rcases h with ⟨h1, h2⟩ | ⟨h1, h2, h3⟩
  · exact .inl ⟨h1, fun o ho => h2 o ((e o).2 ho)⟩
  · exact .inr ⟨h1, (e t).1 h2, fun o ho => h3 o ((e o).2 ho)⟩
theorem region_nest (l : List SIns) (i : Nat) (op inn : List Int) (m : List (Int × Int)) (H : Nest l i op inn m) (hi : i < l.length) (hl : l.length ≤ 2000) (K : Nat) (hK : 4000 < K) : ∃ c op' inn' m', mach_looker_region.f K l op inn m (i : Int) = some (c, op', inn', m') ∧ (c = 0 → Nest l (i + 1) op' inn' m') := by
  obtain ⟨c, op', inn', m', hreg, hRR⟩ := region_step l i op inn m H.R hi hl K hK
  refine ⟨c, op', inn', m', hreg, fun hc0 => ?_⟩
  have hR' := hRR hc0
  clear hRR
  subst hc0
  obtain ⟨e, he⟩ : ∃ e, l[i]? = some e := ⟨l[i], List.getElem?_eq_getElem hi⟩
  have h := H.R
  have hop := h.small
  have hp0 : mach_looker_region.p0 l op inn m (i : Int) = some (.inl (topOf op, e.Op, e.A, e.B)) := by
    unfold mach_looker_region.p0
    rw [if_pos (by omega)]
    simp only [Int.toNat_natCast, he, top_eq l op inn m (by omega)]
  obtain ⟨y, hy⟩ : ∃ y, inn[i]? = some y := ⟨inn[i]'(by rw [h.len]; exact hi), List.getElem?_eq_getElem (by rw [h.len]; exact hi)⟩
  have hob : ∀ o ∈ op, 0 ≤ o ∧ o < (l.length : Int) := fun o ho => by
    obtain ⟨k, e', rfl, hk, _⟩ := h.open_ o ho
    omega
  have hhold := fun x a => holds_spec l op (inn.set i (topOf op)) m x a K (by omega) hob
  have hpi := fun (o c : Int) (hm : mget m o = some c) => H.pair o c hm
  -- at i
  have hatop : Inner op m i (topOf op) := by
    rcases List.eq_nil_or_concat op with h0 | ⟨o, t, h0⟩
    · left
      refine ⟨by rw [h0]; rfl, fun x hx => ?_⟩
      obtain ⟨h1, h2 | ⟨c, h2, h3⟩⟩ := hx
      · rw [h0] at h2; cases h2
      · obtain ⟨_, kc, _, q2, q3, _⟩ := hpi _ _ h2
        omega
    · rw [List.concat_eq_append] at h0
      have htop : topOf op = t := by rw [h0]; simp [topOf]
      have ht : t ∈ op := by rw [h0]; simp
      obtain ⟨kt, _, hkt, hlt, _⟩ := h.open_ t ht
      right
      rw [htop]
      refine ⟨by omega, ⟨by omega, .inl ht⟩, fun x hx => ?_⟩
      obtain ⟨h1, h2 | ⟨c, h2, h3⟩⟩ := hx
      · rw [h0] at h2
        rcases List.mem_append.1 h2 with h2 | h2
        · have hup := h.up
          rw [h0] at hup
          have := (List.pairwise_append.1 hup).2.2 x h2 t (by simp)
          omega
        · rw [List.mem_singleton.1 h2]; exact Int.le_refl _
      · obtain ⟨_, kc, _, q2, q3, _⟩ := hpi _ _ h2
        omega
  have tops : ∀ {op' : List Int} {m' : List (Int × Int)}, (∀ k, k ≤ i → ∀ o, Within op m k o ↔ Within op' m' k o) → ∀ (k : Nat) (t : Int), k < i + 1 → (inn.set i (topOf op))[k]? = some t → Inner op' m' k t := fun hc k t hk ht => by
    by_cases hki : k = i
    · subst hki
      rw [List.getElem?_set_self (by rw [h.len]; exact hi)] at ht
      cases ht
      exact hatop.congr (hc k (Nat.le_refl _))
    · rw [List.getElem?_set_ne (fun e => hki e.symm)] at ht
      exact (H.top k t (by omega) ht).congr (hc k (by omega))
  have pair1 : ∀ o c : Int, mget m o = some c → ∃ ko kc : Nat, o = (ko : Int) ∧ c = (kc : Int) ∧ kc < i + 1 ∧ Pair l ko kc := fun o c hm => by
    obtain ⟨ko, kc, h1, h2, h3, h4⟩ := hpi o c hm
    exact ⟨ko, kc, h1, h2, by omega, h4⟩
  -- one that opens none and closes none
  have stay : (e.Op ≠ 13 ∧ e.Op ≠ 16 ∧ e.Op ≠ 14 ∧ e.Op ≠ 17) → op' = op → inn' = inn.set i (topOf op) → m' = m → Nest l (i + 1) op' inn' m' := fun hne e1 e2 e3 => by
    subst e1; subst e2; subst e3
    refine ⟨hR', pair1, H.fresh, fun k f hk hf hfo => ?_, H.within, H.later, fun o t eo et hot ht hlo hlt h1 h2 h3 => ?_, H.one, tops (fun k hk o => Iff.rfl)⟩
    · by_cases hki : k = i
      · subst hki; rw [he] at hf; cases hf; omega
      · exact H.closed k f (by omega) hf hfo
    · by_cases hti : t = i
      · subst hti; rw [he] at hlt; cases hlt; omega
      · exact H.counts o t eo et hot (by omega) hlo hlt h1 h2 h3
  -- one that opens one
  have opens : (e.Op = 13 ∨ e.Op = 16) → (∀ o ∈ op, ∀ f : SIns, l[o.toNat]? = some f → f.Op = e.Op → f.A ≠ e.A) → op' = op ++ [(i : Int)] → inn' = inn.set i (topOf op) → m' = m → Nest l (i + 1) op' inn' m' := fun ho hno e1 e2 e3 => by
    subst e1; subst e2; subst e3
    refine ⟨hR', pair1, fun o ho' => ?_, fun k f hk hf hfo => ?_, H.within, fun o t d hod htd hto => ?_, fun o t eo et hot ht hlo hlt h1 h2 h3 => ?_, H.one, tops (fun k hk o => ?_)⟩
    · rcases List.mem_append.1 ho' with h1 | h1
      · exact H.fresh o h1
      · rw [List.mem_singleton.1 h1]
        cases hm : mget m' (i : Int) with
        | none => rfl
        | some c =>
          obtain ⟨ko, kc, q1, q2, q3, q4⟩ := hpi _ _ hm
          have := q4.1
          omega
    · by_cases hki : k = i
      · subst hki; rw [he] at hf; cases hf; omega
      · exact H.closed k f (by omega) hf hfo
    · rcases List.mem_append.1 hod with h1 | h1
      · exact H.later o t d h1 htd hto
      · obtain ⟨_, kc, _, q2, q3, _⟩ := hpi _ _ htd
        rw [List.mem_singleton.1 h1]; omega
    · by_cases hti : t = i
      · subst hti
        rw [he] at hlt
        cases hlt
        rcases h3 with h3 | ⟨c, h3, h4⟩
        · rcases List.mem_append.1 h3 with h3 | h3
          · exact hno _ h3 eo (by rw [Int.toNat_natCast]; exact hlo) (by omega)
          · have := List.mem_singleton.1 h3; omega
        · obtain ⟨ko, kc, q1, q2, q3, q4⟩ := hpi _ _ h3
          omega
      · rcases h3 with h3 | h3
        · rcases List.mem_append.1 h3 with h3 | h3
          · exact H.counts o t eo et hot (by omega) hlo hlt h1 h2 (.inl h3)
          · have := List.mem_singleton.1 h3; omega
        · exact H.counts o t eo et hot (by omega) hlo hlt h1 h2 (.inr h3)
    · unfold Within
      constructor
      · rintro ⟨h1, h2 | h2⟩
        · exact ⟨h1, .inl (by simp [h2])⟩
        · exact ⟨h1, .inr h2⟩
      · rintro ⟨h1, h2 | h2⟩
        · rcases List.mem_append.1 h2 with h2 | h2
          · exact ⟨h1, .inl h2⟩
          · have := List.mem_singleton.1 h2; omega
        · exact ⟨h1, .inr h2⟩
  -- one that closes one
  have closes : ∀ (o : List Int) (kt : Nat) (et : SIns), op = o ++ [(kt : Int)] → l[kt]? = some et → ((et.Op = 13 ∧ e.Op = 14 ∧ e.A = et.A ∧ e.B = (kt : Int) + 1) ∨ (et.Op = 16 ∧ e.Op = 17)) → op' = o → inn' = inn.set i (topOf op) → m' = mset m (kt : Int) (i : Int) → Nest l (i + 1) op' inn' m' := fun o kt et hot het hco e1 e2 e3 => by
    subst e1; subst e2; subst e3
    have hup := h.up
    rw [hot] at hup
    have hup := List.pairwise_append.1 hup
    have ht : (kt : Int) ∈ op := by rw [hot]; simp
    obtain ⟨k0, et0, hk0, hlt0, het0, heto⟩ := h.open_ _ ht
    have hlt : kt < i := by omega
    have hfr := H.fresh _ ht
    have hsub : ∀ x ∈ op', x ∈ op := fun x hx => by rw [hot]; simp [hx]
    have hno : ∀ x ∈ op', x ≠ (kt : Int) := fun x hx hxt => by have := hup.2.2 x hx (kt : Int) (by simp); omega
    have hopn : ∀ x ∈ op, x ∈ op' ∨ x = (kt : Int) := fun x hx => by rw [hot] at hx; rcases List.mem_append.1 hx with hx | hx; exact .inl hx; exact .inr (List.mem_singleton.1 hx)
    have hms : ∀ x : Int, mget (mset m (kt : Int) (i : Int)) x = if x = (kt : Int) then some (i : Int) else mget m x := fun x => mget_mset' m _ x _
    have hne : ∀ {x c : Int}, mget m x = some c → x ≠ (kt : Int) := fun hx hxt => by rw [hxt, hfr] at hx; cases hx
    refine ⟨hR', fun x c hx => ?_, fun x hx => ?_, fun k f hk hf hfo => ?_, fun x c t d hx htd hxt htc => ?_, fun o t d hod htd hto => ?_, fun x t ex ef hxt hti hlx hlf h1 h2 h3 => ?_, fun x x' c hx hx' => ?_, tops (fun k hk x => ?_)⟩
    · rw [hms] at hx
      split at hx
      · rename_i hxt
        cases hx
        exact ⟨kt, i, hxt, rfl, by omega, hlt, et, e, het, he, hco⟩
      · exact pair1 x c hx
    · rw [hms, if_neg (hno x hx)]
      exact H.fresh x (hsub x hx)
    · by_cases hki : k = i
      · exact ⟨(kt : Int), by rw [hms, if_pos rfl, hki]⟩
      · obtain ⟨x, hx⟩ := H.closed k f (by omega) hf hfo
        exact ⟨x, by rw [hms, if_neg (hne hx)]; exact hx⟩
    · rw [hms] at hx htd
      split at hx
      · cases hx
        split at htd
        · omega
        · obtain ⟨_, kc, _, q2, q3, _⟩ := hpi _ _ htd
          omega
      · split at htd
        · rename_i htk
          have := H.later _ x c ht hx (by omega)
          omega
        · exact H.within x c t d hx htd hxt htc
    · rw [hms] at htd
      split at htd
      · rename_i htk
        have := hup.2.2 o hod (kt : Int) (by simp)
        omega
      · exact H.later o t d (hsub o hod) htd hto
    · by_cases hti' : t = i
      · subst hti'
        rw [he] at hlf
        cases hlf
        omega
      · rcases h3 with h3 | ⟨c, h3, h4⟩
        · exact H.counts x t ex ef hxt (by omega) hlx hlf h1 h2 (.inl (hsub _ h3))
        · rw [hms] at h3
          split at h3
          · rename_i hxk
            exact H.counts x t ex ef hxt (by omega) hlx hlf h1 h2 (.inl (by rw [hxk]; exact ht))
          · exact H.counts x t ex ef hxt (by omega) hlx hlf h1 h2 (.inr ⟨c, h3, h4⟩)
    · rw [hms] at hx hx'
      split at hx
      · split at hx'
        · omega
        · cases hx
          obtain ⟨_, kc, _, q2, q3, _⟩ := hpi _ _ hx'
          omega
      · split at hx'
        · cases hx'
          obtain ⟨_, kc, _, q2, q3, _⟩ := hpi _ _ hx
          omega
        · exact H.one x x' c hx hx'
    · unfold Within
      constructor
      · rintro ⟨h1, h2 | ⟨c, h2, h3⟩⟩
        · rcases hopn x h2 with h2 | h2
          · exact ⟨h1, .inl h2⟩
          · exact ⟨h1, .inr ⟨(i : Int), by rw [hms, if_pos h2], by omega⟩⟩
        · exact ⟨h1, .inr ⟨c, by rw [hms, if_neg (hne h2)]; exact h2, h3⟩⟩
      · rintro ⟨h1, h2 | ⟨c, h2, h3⟩⟩
        · exact ⟨h1, .inl (hsub x h2)⟩
        · rw [hms] at h2
          split at h2
          · rename_i hxk
            exact ⟨h1, .inl (by rw [hxk]; exact ht)⟩
          · exact ⟨h1, .inr ⟨c, h2, h3⟩⟩
  have htop : ∀ {z : Int}, topOf op = z → ¬ z < 0 → ∃ o, op = o ++ [z] := fun {z} hz h0 => by
    rcases List.eq_nil_or_concat op with rfl | ⟨o, t, rfl⟩
    · simp [topOf] at hz; omega
    · rw [List.concat_eq_append] at hz ⊢
      simp [topOf] at hz
      exact ⟨o, by rw [hz]⟩
  have hc1 : (0 : Int) ≤ (i : Int) := by omega
  have hc3 : op.length < 17592186044416 := by omega
  generalize hz : topOf op = z at *
  unfold mach_looker_region.f at hreg
  rw [hp0] at hreg
  simp only [Int.toNat_natCast, hy, if_pos hc1] at hreg
  by_cases h13 : e.Op = 13
  · have hp1 : mach_looker_region.p1 e.Op = some (.inl true) := by unfold mach_looker_region.p1; rw [if_pos h13]
    obtain ⟨b, hb, hb2⟩ := hhold e.Op e.A
    simp only [hp1, if_true, hb] at hreg
    cases b with
    | true => simp only [if_true, if_pos h13, Option.some.injEq, Prod.mk.injEq] at hreg; omega
    | false =>
      simp only [Bool.false_eq_true, if_false, if_pos hc3, Option.some.injEq, Prod.mk.injEq] at hreg
      obtain ⟨_, e1, e2, e3⟩ := hreg
      exact opens (.inl h13) (hb2 rfl) e1.symm e2.symm e3.symm
  by_cases h16 : e.Op = 16
  · have hp1 : mach_looker_region.p1 e.Op = some (.inl true) := by unfold mach_looker_region.p1; rw [if_neg h13, h16]; rfl
    obtain ⟨b, hb, hb2⟩ := hhold e.Op e.A
    simp only [hp1, if_true, hb] at hreg
    cases b with
    | true => simp only [if_true, if_neg h13, Option.some.injEq, Prod.mk.injEq] at hreg; omega
    | false =>
      simp only [Bool.false_eq_true, if_false, if_pos hc3, Option.some.injEq, Prod.mk.injEq] at hreg
      obtain ⟨_, e1, e2, e3⟩ := hreg
      exact opens (.inr h16) (hb2 rfl) e1.symm e2.symm e3.symm
  have hp1 : mach_looker_region.p1 e.Op = some (.inl false) := by
    unfold mach_looker_region.p1
    rw [if_neg h13]
    have : (e.Op == 16) = false := by simpa using h16
    rw [this]
  simp only [hp1, Bool.false_eq_true, if_false] at hreg
  by_cases h14 : e.Op = 14
  · rw [if_pos h14] at hreg
    by_cases hz0 : z < 0
    · rw [if_pos hz0] at hreg; simp only [Option.some.injEq, Prod.mk.injEq] at hreg; omega
    have hz1 : 0 ≤ z := by omega
    rw [if_neg hz0, if_pos hz1] at hreg
    obtain ⟨o, hopo⟩ := htop rfl hz0
    obtain ⟨kt, et, hkt0, hkt, het, _⟩ := h.open_ z (by rw [hopo]; simp)
    have hzn : z.toNat = kt := by omega
    simp only [hzn, het] at hreg
    by_cases g1 : et.Op = 13
    case neg => rw [if_neg g1] at hreg; simp only [Option.some.injEq, Prod.mk.injEq] at hreg; omega
    rw [if_pos g1] at hreg
    by_cases g2 : et.A = e.A
    case neg => rw [if_neg g2] at hreg; simp only [Option.some.injEq, Prod.mk.injEq] at hreg; omega
    rw [if_pos g2] at hreg
    by_cases g3 : e.B = IntKind.i64.wrap (z + 1)
    case neg => rw [if_neg g3] at hreg; simp only [Option.some.injEq, Prod.mk.injEq] at hreg; omega
    rw [if_pos g3] at hreg
    rw [wrap64_small (by omega) (by omega)] at g3
    have hol : o.length ≤ 4000 := by have : op.length = o.length + 1 := by rw [hopo]; simp
                                     omega
    have hcl := close_eq l o (inn.set i z) z m (i : Int) hol
    rw [← hopo] at hcl
    rw [hcl] at hreg
    simp only [Option.some.injEq, Prod.mk.injEq] at hreg
    obtain ⟨_, e1, e2, e3⟩ := hreg
    subst hkt0
    exact closes o kt et hopo het (.inl ⟨g1, h14, g2.symm, g3⟩) e1.symm e2.symm e3.symm
  rw [if_neg h14] at hreg
  by_cases h17 : e.Op = 17
  · rw [if_pos h17] at hreg
    by_cases hz0 : z < 0
    · rw [if_pos hz0] at hreg; simp only [Option.some.injEq, Prod.mk.injEq] at hreg; omega
    have hz1 : 0 ≤ z := by omega
    rw [if_neg hz0, if_pos hz1] at hreg
    obtain ⟨o, hopo⟩ := htop rfl hz0
    obtain ⟨kt, et, hkt0, hkt, het, _⟩ := h.open_ z (by rw [hopo]; simp)
    have hzn : z.toNat = kt := by omega
    simp only [hzn, het] at hreg
    by_cases g1 : et.Op = 16
    case neg => rw [if_neg g1] at hreg; simp only [Option.some.injEq, Prod.mk.injEq] at hreg; omega
    rw [if_pos g1] at hreg
    by_cases g2 : et.A = e.A
    case neg => rw [if_neg g2] at hreg; simp only [Option.some.injEq, Prod.mk.injEq] at hreg; omega
    rw [if_pos g2] at hreg
    have hol : o.length ≤ 4000 := by have : op.length = o.length + 1 := by rw [hopo]; simp
                                     omega
    have hcl := close_eq l o (inn.set i z) z m (i : Int) hol
    rw [← hopo] at hcl
    rw [hcl] at hreg
    simp only [Option.some.injEq, Prod.mk.injEq] at hreg
    obtain ⟨_, e1, e2, e3⟩ := hreg
    subst hkt0
    exact closes o kt et hopo het (.inr ⟨g1, h17⟩) e1.symm e2.symm e3.symm
  rw [if_neg h17] at hreg
  by_cases h15 : e.Op = 15
  · rw [if_pos h15] at hreg
    obtain ⟨b, hb, _⟩ := hhold 13 e.A
    simp only [hb] at hreg
    cases b with
    | true =>
      simp only [if_true, Option.some.injEq, Prod.mk.injEq] at hreg
      obtain ⟨_, e1, e2, e3⟩ := hreg
      exact stay ⟨h13, h16, h14, h17⟩ e1.symm e2.symm e3.symm
    | false => simp only [Bool.false_eq_true, if_false, Option.some.injEq, Prod.mk.injEq] at hreg; omega
  · rw [if_neg h15] at hreg
    simp only [Option.some.injEq, Prod.mk.injEq] at hreg
    obtain ⟨_, e1, e2, e3⟩ := hreg
    exact stay ⟨h13, h16, h14, h17⟩ e1.symm e2.symm e3.symm

/-- jumps stay in their region -/
def Level (l : List SIns) (inn : List Int) : Prop := ∀ (k : Nat) (e : SIns), l[k]? = some e → (e.Op = 11 ∨ e.Op = 12) → ∃ t, inn[k]? = some t ∧ (e.A < (l.length : Int) → inn[e.A.toNat]? = some t) ∧ (e.A = (l.length : Int) → t = -1)
theorem look_level (l : List SIns) (inn : List Int) (hin : inn.length = l.length) (hok : ∀ (i : Nat) (e : SIns), l[i]? = some e → OkI e) (K : Nat) (hK : l.length < K) : ∃ r, iter (mach_Look.r2 l inn) K 0 = some r ∧ ((r = .inl () ∧ Level l inn) ∨ ∃ s, r = .inr s ∧ s.2.Code ≠ 0) := by
  refine iter_total (f := mach_Look.r2 l inn) (fun i => i ≤ l.length ∧ ∀ (k : Nat) (e : SIns), k < i → l[k]? = some e → (e.Op = 11 ∨ e.Op = 12) → ∃ t, inn[k]? = some t ∧ (e.A < (l.length : Int) → inn[e.A.toNat]? = some t) ∧ (e.A = (l.length : Int) → t = -1)) (fun i => l.length - i) _ (fun i ⟨hi, hI⟩ => ?_) K 0 ⟨Nat.zero_le _, fun k e hk => by omega⟩ (by omega)
  by_cases hlt : i < l.length
  · obtain ⟨e, he⟩ : ∃ e, l[i]? = some e := ⟨l[i], List.getElem?_eq_getElem hlt⟩
    have hA := (hok i e he).A
    have hc : (i : Int) < (l.length : Int) := by omega
    obtain ⟨y, hy⟩ : ∃ y, inn[i]? = some y := ⟨inn[i]'(by omega), List.getElem?_eq_getElem (by omega)⟩
    have next : ((e.Op = 11 ∨ e.Op = 12) → ∃ t, inn[i]? = some t ∧ (e.A < (l.length : Int) → inn[e.A.toNat]? = some t) ∧ (e.A = (l.length : Int) → t = -1)) → i + 1 ≤ l.length ∧ ∀ (k : Nat) (e : SIns), k < i + 1 → l[k]? = some e → (e.Op = 11 ∨ e.Op = 12) → ∃ t, inn[k]? = some t ∧ (e.A < (l.length : Int) → inn[e.A.toNat]? = some t) ∧ (e.A = (l.length : Int) → t = -1) := fun h => ⟨hlt, fun k f hk hf hop => by
      by_cases hki : k = i
      · subst hki; rw [he] at hf; cases hf; exact h hop
      · exact hI k f (by omega) hf hop⟩
    have bad : ∀ {A : Option (Nat ⊕ (Unit ⊕ (SShape × SFault)))}, (∃ s, A = some (.inr (.inr (s, ⟨7, (i : Int)⟩)))) → (∃ s', A = some (.inl s') ∧ (s' ≤ l.length ∧ ∀ (k : Nat) (e : SIns), k < s' → l[k]? = some e → (e.Op = 11 ∨ e.Op = 12) → ∃ t, inn[k]? = some t ∧ (e.A < (l.length : Int) → inn[e.A.toNat]? = some t) ∧ (e.A = (l.length : Int) → t = -1)) ∧ l.length - s' < l.length - i) ∨ ∃ r, A = some (.inr r) ∧ ((r = .inl () ∧ Level l inn) ∨ ∃ s, r = .inr s ∧ s.2.Code ≠ 0) := fun ⟨s, hs⟩ => .inr ⟨_, hs, .inr ⟨_, rfl, by simp⟩⟩
    have fin : ∀ {A : Option (Nat ⊕ (Unit ⊕ (SShape × SFault)))}, A = some (.inl (i + 1)) → ((e.Op = 11 ∨ e.Op = 12) → ∃ t, inn[i]? = some t ∧ (e.A < (l.length : Int) → inn[e.A.toNat]? = some t) ∧ (e.A = (l.length : Int) → t = -1)) → (∃ s', A = some (.inl s') ∧ (s' ≤ l.length ∧ ∀ (k : Nat) (e : SIns), k < s' → l[k]? = some e → (e.Op = 11 ∨ e.Op = 12) → ∃ t, inn[k]? = some t ∧ (e.A < (l.length : Int) → inn[e.A.toNat]? = some t) ∧ (e.A = (l.length : Int) → t = -1)) ∧ l.length - s' < l.length - i) ∨ ∃ r, A = some (.inr r) ∧ ((r = .inl () ∧ Level l inn) ∨ ∃ s, r = .inr s ∧ s.2.Code ≠ 0) := fun hA h => .inl ⟨_, hA, next h, by omega⟩
    simp only [mach_Look.r2, he, hy, if_pos hc, if_pos hA]
    by_cases hAl : e.A < (l.length : Int)
    · obtain ⟨x, hx⟩ : ∃ x, inn[e.A.toNat]? = some x := ⟨inn[e.A.toNat]'(by omega), List.getElem?_eq_getElem (by omega)⟩
      simp only [hx, if_pos hAl]
      by_cases h11 : e.Op = 11
      · rw [if_pos h11]
        by_cases g1 : e.A ≤ (i : Int)
        · rw [if_pos g1]; exact bad ⟨_, rfl⟩
        rw [if_neg g1]
        by_cases g2 : e.A > (l.length : Int)
        · omega
        rw [if_neg g2]
        by_cases g3 : x = y
        · rw [if_pos g3]; exact fin rfl (fun _ => ⟨y, hy, fun _ => by rw [← g3]; exact hx, fun h => by omega⟩)
        · rw [if_neg g3]; exact bad ⟨_, rfl⟩
      · rw [if_neg h11]
        by_cases h12 : e.Op = 12
        · rw [if_pos h12]
          by_cases g1 : e.A ≤ (i : Int)
          · rw [if_pos g1]; exact bad ⟨_, rfl⟩
          rw [if_neg g1]
          by_cases g2 : e.A > (l.length : Int)
          · omega
          rw [if_neg g2]
          by_cases g3 : x = y
          · rw [if_pos g3]; exact fin rfl (fun _ => ⟨y, hy, fun _ => by rw [← g3]; exact hx, fun h => by omega⟩)
          · rw [if_neg g3]; exact bad ⟨_, rfl⟩
        · rw [if_neg h12]; exact fin rfl (fun h => by omega)
    · simp only [if_neg hAl]
      by_cases h11 : e.Op = 11
      · rw [if_pos h11]
        by_cases g1 : e.A ≤ (i : Int)
        · omega
        rw [if_neg g1]
        by_cases g2 : e.A > (l.length : Int)
        · rw [if_pos g2]; exact bad ⟨_, rfl⟩
        rw [if_neg g2]
        by_cases g3 : (-1 : Int) = y
        · rw [if_pos g3]; exact fin rfl (fun _ => ⟨y, hy, fun h => absurd h hAl, fun _ => g3.symm⟩)
        · rw [if_neg g3]; exact bad ⟨_, rfl⟩
      · rw [if_neg h11]
        by_cases h12 : e.Op = 12
        · rw [if_pos h12]
          by_cases g1 : e.A ≤ (i : Int)
          · omega
          rw [if_neg g1]
          by_cases g2 : e.A > (l.length : Int)
          · rw [if_pos g2]; exact bad ⟨_, rfl⟩
          rw [if_neg g2]
          by_cases g3 : (-1 : Int) = y
          · rw [if_pos g3]; exact fin rfl (fun _ => ⟨y, hy, fun h => absurd h hAl, fun _ => g3.symm⟩)
          · rw [if_neg g3]; exact bad ⟨_, rfl⟩
        · rw [if_neg h12]; exact fin rfl (fun h => by omega)
  · right
    have hc : ¬ (i : Int) < (l.length : Int) := by omega
    simp only [mach_Look.r2, if_neg hc]
    exact ⟨_, rfl, .inl ⟨rfl, fun k e hk => hI k e (by have := lt_of_get hk; omega) hk⟩⟩
theorem Look_nest (l : List SIns) (K : Nat) (hK : 4000 < K) : ∃ r, mach_Look.f K l = some r ∧ (r.2.Code ≠ 0 ∨ (Nest l l.length [] r.1.In r.1.Close ∧ Level l r.1.In)) := by
  unfold mach_Look.f
  by_cases hn : (l.length : Int) > 2000
  · rw [if_pos hn]; exact ⟨_, rfl, .inl (by simp [mach_Look_1.f])⟩
  rw [if_neg hn]
  obtain ⟨r, hr, h⟩ := look_ins l K (by omega)
  rw [hr]
  rcases h with ⟨rfl, hok⟩ | ⟨s, rfl, hs⟩
  case inr => exact ⟨s, rfl, .inl hs⟩
  simp only
  rw [if_pos (by omega)]
  obtain ⟨r1, hr1, h1⟩ := iter_total (f := mach_Look.r1 K l) (fun s => s.1 ≤ l.length ∧ Nest l s.1 s.2.1 s.2.2.1 s.2.2.2) (fun s => l.length - s.1) (fun r => (∃ op inn m, r = .inl (op, inn, m) ∧ Nest l l.length op inn m) ∨ ∃ s, r = .inr s ∧ s.2.Code ≠ 0) (fun s ⟨hi, hI⟩ => by
    obtain ⟨i, op, inn, m⟩ := s
    simp only at hi hI ⊢
    by_cases hlt : i < l.length
    · obtain ⟨c, op', inn', m', h1, h2⟩ := region_nest l i op inn m hI hlt (by omega) K hK
      simp only [mach_Look.r1, h1]
      rw [if_pos (by omega)]
      by_cases hc : c = 0
      · rw [if_pos hc]
        exact .inl ⟨_, rfl, ⟨hlt, h2 hc⟩, by simp only; omega⟩
      · rw [if_neg hc]
        exact .inr ⟨_, rfl, .inr ⟨_, rfl, by simpa [mach_Look_1.f] using hc⟩⟩
    · right
      obtain rfl : i = l.length := by omega
      simp only [mach_Look.r1]
      rw [if_neg (by omega)]
      exact ⟨_, rfl, .inl ⟨_, _, _, rfl, hI⟩⟩) K (0, [], List.replicate l.length 0, []) ⟨Nat.zero_le _, ⟨⟨by simp, by simp, by simp, by simp, fun k f hk => by simp at hk, fun k f hk => by simp at hk⟩, fun o c h => by simp [mget] at h, by simp, fun k f hk => by simp at hk, fun o c t d h => by simp [mget] at h, fun o t d h => by simp at h, fun o t eo et _ h => by simp at h, fun o o' c h => by simp [mget] at h, fun k t hk => by simp at hk⟩⟩ (by simp only; omega)
  rw [hr1]
  rcases h1 with ⟨op, inn, m, rfl, hR⟩ | ⟨s, rfl, hs⟩
  case inr => exact ⟨s, rfl, .inl hs⟩
  simp only
  rcases op with _ | ⟨o, op⟩
  case cons =>
    obtain ⟨k, e, rfl, hk, he, _⟩ := hR.R.open_ o (by simp)
    rw [if_pos (by simp)]
    simp only [List.getElem?_cons_zero, Int.toNat_natCast, he]
    rw [if_pos (by omega)]
    split
    · exact ⟨_, rfl, .inl (by simp [mach_Look_1.f])⟩
    · exact ⟨_, rfl, .inl (by simp [mach_Look_1.f])⟩
  rw [if_neg (by simp)]
  obtain ⟨r2, hr2, h2⟩ := look_level l inn hR.R.len hok K (by omega)
  obtain ⟨r2', hr2', h2'⟩ := look_jumps l inn hR.R.len hok K (by omega)
  rw [hr2] at hr2'
  cases hr2'
  rw [hr2]
  rcases h2 with ⟨rfl, hJ⟩ | ⟨s, rfl, hs⟩
  case inr => exact ⟨s, rfl, .inl hs⟩
  have hJ' : Jump l := by
    rcases h2' with ⟨_, h⟩ | ⟨s, h, _⟩
    · exact h
    · cases h
  simp only
  obtain ⟨r3, hr3, h3⟩ := heights_some l (by omega) hJ' (fun k e he h14 => by have := hR.R.back k e (lt_of_get he) he h14; have := lt_of_get he; omega) K hK
  rw [hr3]
  simp only
  rcases h3 with h3 | ⟨rfl, hH⟩
  · rw [if_neg h3]; exact ⟨_, rfl, .inl h3⟩
  · rw [if_pos rfl]
    exact ⟨_, rfl, .inr ⟨hR, hJ⟩⟩

/-- a machine between two instructions -/
structure MInv (l : List SIns) (H inp vars stack cnt : List Int) (pc : Nat) : Prop where
  at_ : pc ≤ l.length
  vlen : vars.length = 8
  ilen : inp.length = 4
  clen : cnt.length = 8
  range : ∀ c ∈ cnt, 0 ≤ c ∧ c ≤ 1000
  hgt : H[pc]? = some (stack.length : Int)
/-- where an instruction leads, and what becomes of the counters -/
def Moves (e : SIns) (pc pc' : Nat) (ov : Bool) (cnt cnt' : List Int) : Prop :=
  (e.Op = 11 ∧ (pc' : Int) = e.A ∧ ov = false ∧ cnt' = cnt) ∨
  (e.Op = 12 ∧ cnt' = cnt ∧ ((ov = true ∧ (pc' : Int) = e.A) ∨ (ov = false ∧ pc' = pc + 1))) ∨
  (e.Op = 13 ∧ pc' = pc + 1 ∧ ov = false ∧ cnt' = cnt.set e.A.toNat e.B) ∨
  (e.Op = 14 ∧ ∃ c : Int, cnt[e.A.toNat]? = some c ∧ ((0 < c ∧ ov = true ∧ (pc' : Int) = e.B ∧ cnt' = cnt.set e.A.toNat (c - 1)) ∨ (c = 0 ∧ ov = false ∧ pc' = pc + 1 ∧ cnt' = cnt))) ∨
  (e.Op = 15 ∧ pc' = pc + 1 ∧ ov = false ∧ cnt' = cnt.set e.A.toNat 0) ∨
  (e.Op ≠ 11 ∧ e.Op ≠ 12 ∧ e.Op ≠ 13 ∧ e.Op ≠ 14 ∧ e.Op ≠ 15 ∧ pc' = pc + 1 ∧ ov = false ∧ cnt' = cnt)
theorem last_one {s : List Int} {v : Int} (h : v = (s.length : Int)) (hv : 1 ≤ v) : ∃ t b, s = t ++ [b] := by
  rcases List.eq_nil_or_concat s with rfl | ⟨t, b, h1⟩
  · simp at h; omega
  · exact ⟨t, b, by rw [h1, List.concat_eq_append]⟩
theorem last_two {s : List Int} {v : Int} (h : v = (s.length : Int)) (hv : 2 ≤ v) : ∃ t a b, s = t ++ [a, b] := by
  obtain ⟨t, b, rfl⟩ := last_one h (by omega)
  obtain ⟨u, a, rfl⟩ := last_one (s := t) (v := v - 1) (by simp at h; omega) (by omega)
  exact ⟨u, a, b, by simp⟩
theorem pop_eq (l : List SIns) (i v : List Int) (p : List SPut) (t : List Int) (b : Int) (c : List Int) (x y : Int) (ht : t.length ≤ 5000) : mach_Machine_pop.f l i v p (t ++ [b]) c x y = some (b, t) := by
  unfold mach_Machine_pop.f
  have e1 : IntKind.i64.wrap (((t ++ [b]).length : Int) - 1) = (t.length : Int) := by
    simp only [List.length_append, List.length_cons, List.length_nil]
    rw [wrap64_small (by omega) (by omega)]; omega
  simp only [e1, Int.toNat_natCast]
  rw [if_pos (by omega)]
  simp
theorem two_eq (l : List SIns) (i v : List Int) (p : List SPut) (t : List Int) (a b : Int) (c : List Int) (x y : Int) (ht : t.length ≤ 4000) :
    mach_Machine_two.f l i v p (t ++ [a, b]) c x y = some (t ++ [IntKind.i64.wrap (a + b)]) ∧ mach_Machine_two_1.f l i v p (t ++ [a, b]) c x y = some (t ++ [IntKind.i64.wrap (a - b)]) ∧ mach_Machine_two_2.f l i v p (t ++ [a, b]) c x y = some (t ++ [IntKind.i64.wrap (a * b)]) ∧
    mach_Machine_two_3.f l i v p (t ++ [a, b]) c x y = some (t ++ [mach_truth.f (decide (a < b))]) ∧ mach_Machine_two_4.f l i v p (t ++ [a, b]) c x y = some (t ++ [mach_truth.f (a == b)]) := by
  have e : t ++ [a, b] = (t ++ [a]) ++ [b] := by simp
  have h1 := pop_eq l i v p (t ++ [a]) b c x y (by simp; omega)
  have h2 := pop_eq l i v p t a c x y (by omega)
  have h3 : t.length < 17592186044416 := by omega
  unfold mach_Machine_two.f mach_Machine_two_1.f mach_Machine_two_2.f mach_Machine_two_3.f mach_Machine_two_4.f
  rw [e, h1]
  simp only [h2, if_pos h3]
  exact ⟨rfl, rfl, rfl, rfl, rfl⟩
theorem MInv.next {l : List SIns} {H inp vars stack cnt vars' stack' cnt' : List Int} {pc pc' : Nat} (I : MInv l H inp vars stack cnt pc) (h1 : pc' ≤ l.length) (h2 : vars'.length = 8) (h3 : cnt'.length = 8) (h4 : ∀ c ∈ cnt', 0 ≤ c ∧ c ≤ 1000) (h5 : H[pc']? = some (stack'.length : Int)) : MInv l H inp vars' stack' cnt' pc' :=
  ⟨h1, h2, I.ilen, h3, h4, h5⟩
theorem range_set {cnt : List Int} (h : ∀ c ∈ cnt, 0 ≤ c ∧ c ≤ 1000) (k : Nat) {v : Int} (hv : 0 ≤ v ∧ v ≤ 1000) : ∀ c ∈ cnt.set k v, 0 ≤ c ∧ c ≤ 1000 := fun c hc => by
  rcases List.mem_or_eq_of_mem_set hc with h1 | h1
  · exact h c h1
  · rw [h1]; exact hv
/-- an instruction is done -/
theorem do_spec {l : List SIns} {m : List (Int × Int)} (F : Facts l m) {H : List Int} (hH : HeightsOK l H) {inp vars stack cnt : List Int} {pc : Nat} (I : MInv l H inp vars stack cnt pc) {e : SIns} (he : l[pc]? = some e) (puts : List SPut) (hp : puts.length ≤ 8000000000000) (y z : Int) :
    ∃ (pc' : Nat) (ov : Bool) (vars' : List Int) (puts' : List SPut) (stack' cnt' : List Int), mach_Machine_over.f l inp vars puts stack cnt (pc : Int) z e = some ov ∧ mach_Machine_do.f l inp vars puts stack cnt (pc : Int) y e = some ((pc' : Int), vars', puts', stack', cnt') ∧ MInv l H inp vars' stack' cnt' pc' ∧ puts'.length ≤ puts.length + 1 ∧ Moves e pc pc' ov cnt cnt' := by
  have hlt := lt_of_get he
  have hlen := F.len
  have ho := F.ok pc e he
  have hop := ho.op
  obtain ⟨v, g1, g2, g3, g4, g5, g6, g7⟩ := hH.step pc e he
  have hv : v = (stack.length : Int) := by have := I.hgt; rw [g1] at this; exact Option.some.inj this
  have hst : stack.length ≤ 20 := by omega
  have e1 : IntKind.i64.wrap ((pc : Int) + 1) = ((pc + 1 : Nat) : Int) := by rw [wrap64_small (by omega) (by omega)]; omega
  have hpush : stack.length < 17592186044416 := by omega
  have hA := ho.A
  have arr : arrN 8 cnt = cnt := arrN_eq I.clen
  have fit : ∀ (s : List Int), (s.length : Int) = v - (mach_pops.f e.Op).1 + (mach_pops.f e.Op).2 → (e.Op ≠ 11 → H[pc + 1]? = some (s.length : Int)) := fun s hs h => by rw [hs]; exact g7 h
  have last1 : 1 ≤ (mach_pops.f e.Op).1 → ∃ t b, stack = t ++ [b] := fun h => last_one hv (by omega)
  have last2 : 2 ≤ (mach_pops.f e.Op).1 → ∃ t a b, stack = t ++ [a, b] := fun h => last_two hv (by omega)
  have over0 : e.Op ≠ 12 → e.Op ≠ 14 → mach_Machine_over.f l inp vars puts stack cnt (pc : Int) z e = some false := fun h1 h2 => by
    unfold mach_Machine_over.f; rw [if_neg h1, if_neg h2]
  have plain : e.Op ≠ 11 → e.Op ≠ 12 → e.Op ≠ 13 → e.Op ≠ 14 → e.Op ≠ 15 → ∀ vars' puts' (stack' : List Int), mach_Machine_do.f l inp vars puts stack cnt (pc : Int) y e = some (((pc + 1 : Nat) : Int), vars', puts', stack', cnt) → vars'.length = 8 → puts'.length ≤ puts.length + 1 → (stack'.length : Int) = v - (mach_pops.f e.Op).1 + (mach_pops.f e.Op).2 →
      ∃ (pc' : Nat) (ov : Bool) (vars' : List Int) (puts' : List SPut) (stack' cnt' : List Int), mach_Machine_over.f l inp vars puts stack cnt (pc : Int) z e = some ov ∧ mach_Machine_do.f l inp vars puts stack cnt (pc : Int) y e = some ((pc' : Int), vars', puts', stack', cnt') ∧ MInv l H inp vars' stack' cnt' pc' ∧ puts'.length ≤ puts.length + 1 ∧ Moves e pc pc' ov cnt cnt' := fun h11 h12 h13 h14 h15 vars' puts' stack' q1 q2 q3 q4 =>
    ⟨pc + 1, false, vars', puts', stack', cnt, over0 h12 h14, q1, I.next (by omega) q2 I.clen I.range (fit _ q4 h11), q3, .inr (.inr (.inr (.inr (.inr ⟨h11, h12, h13, h14, h15, rfl, rfl, rfl⟩))))⟩
  by_cases h1 : e.Op = 1
  · have hpp : mach_pops.f e.Op = (0, 1) := by rw [h1]; rfl
    refine plain (by omega) (by omega) (by omega) (by omega) (by omega) vars puts (stack ++ [e.A]) ?_ I.vlen (by omega) (by rw [hpp]; simp; omega)
    unfold mach_Machine_do.f; rw [if_pos h1, if_pos hpush, e1]
  by_cases h2 : e.Op = 2
  · have hpp : mach_pops.f e.Op = (0, 1) := by rw [h2]; rfl
    have := ho.A7 (by omega)
    have hiv := I.vlen
    obtain ⟨x, hx⟩ : ∃ x, vars[e.A.toNat]? = some x := ⟨vars[e.A.toNat]'(by omega), List.getElem?_eq_getElem (by omega)⟩
    refine plain (by omega) (by omega) (by omega) (by omega) (by omega) vars puts (stack ++ [x]) ?_ I.vlen (by omega) (by rw [hpp]; simp; omega)
    unfold mach_Machine_do.f; rw [if_neg h1, if_pos h2, if_pos hA, hx]; simp only; rw [if_pos hpush, e1]
  by_cases h3 : e.Op = 3
  · have hpp : mach_pops.f e.Op = (1, 0) := by rw [h3]; rfl
    have := ho.A7 (by omega)
    have hiv := I.vlen
    obtain ⟨x, hx⟩ : ∃ x, vars[e.A.toNat]? = some x := ⟨vars[e.A.toNat]'(by omega), List.getElem?_eq_getElem (by omega)⟩
    obtain ⟨t, b, rfl⟩ := last1 (by rw [hpp]; decide)
    refine plain (by omega) (by omega) (by omega) (by omega) (by omega) (vars.set e.A.toNat b) puts t ?_ (by rw [List.length_set]; exact I.vlen) (by omega) (by rw [hpp]; simp at hv ⊢; omega)
    unfold mach_Machine_do.f; rw [if_neg h1, if_neg h2, if_pos h3, pop_eq l inp vars puts t b cnt _ _ (by simp at hst; omega)]; simp only; rw [if_pos hA, hx]; simp only; rw [e1]
  by_cases h4 : e.Op = 4
  · have hpp : mach_pops.f e.Op = (2, 1) := by rw [h4]; rfl
    obtain ⟨t, a, b, rfl⟩ := last2 (by rw [hpp]; decide)
    have ht := two_eq l inp vars puts t a b cnt (pc : Int) y (by simp at hst; omega)
    refine plain (by omega) (by omega) (by omega) (by omega) (by omega) vars puts (t ++ [IntKind.i64.wrap (a + b)]) ?_ I.vlen (by omega) (by rw [hpp]; simp at hv ⊢; omega)
    unfold mach_Machine_do.f; rw [if_neg h1, if_neg h2, if_neg h3, if_pos h4, ht.1]; simp only; rw [e1]
  by_cases h5 : e.Op = 5
  · have hpp : mach_pops.f e.Op = (2, 1) := by rw [h5]; rfl
    obtain ⟨t, a, b, rfl⟩ := last2 (by rw [hpp]; decide)
    have ht := two_eq l inp vars puts t a b cnt (pc : Int) y (by simp at hst; omega)
    refine plain (by omega) (by omega) (by omega) (by omega) (by omega) vars puts (t ++ [IntKind.i64.wrap (a - b)]) ?_ I.vlen (by omega) (by rw [hpp]; simp at hv ⊢; omega)
    unfold mach_Machine_do.f; rw [if_neg h1, if_neg h2, if_neg h3, if_neg h4, if_pos h5, ht.2.1]; simp only; rw [e1]
  by_cases h6 : e.Op = 6
  · have hpp : mach_pops.f e.Op = (2, 1) := by rw [h6]; rfl
    obtain ⟨t, a, b, rfl⟩ := last2 (by rw [hpp]; decide)
    have ht := two_eq l inp vars puts t a b cnt (pc : Int) y (by simp at hst; omega)
    refine plain (by omega) (by omega) (by omega) (by omega) (by omega) vars puts (t ++ [IntKind.i64.wrap (a * b)]) ?_ I.vlen (by omega) (by rw [hpp]; simp at hv ⊢; omega)
    unfold mach_Machine_do.f; rw [if_neg h1, if_neg h2, if_neg h3, if_neg h4, if_neg h5, if_pos h6, ht.2.2.1]; simp only; rw [e1]
  by_cases h7 : e.Op = 7
  · have hpp : mach_pops.f e.Op = (2, 1) := by rw [h7]; rfl
    obtain ⟨t, a, b, rfl⟩ := last2 (by rw [hpp]; decide)
    have ht := two_eq l inp vars puts t a b cnt (pc : Int) y (by simp at hst; omega)
    refine plain (by omega) (by omega) (by omega) (by omega) (by omega) vars puts (t ++ [mach_truth.f (decide (a < b))]) ?_ I.vlen (by omega) (by rw [hpp]; simp at hv ⊢; omega)
    unfold mach_Machine_do.f; rw [if_neg h1, if_neg h2, if_neg h3, if_neg h4, if_neg h5, if_neg h6, if_pos h7, ht.2.2.2.1]; simp only; rw [e1]
  by_cases h8 : e.Op = 8
  · have hpp : mach_pops.f e.Op = (2, 1) := by rw [h8]; rfl
    obtain ⟨t, a, b, rfl⟩ := last2 (by rw [hpp]; decide)
    have ht := two_eq l inp vars puts t a b cnt (pc : Int) y (by simp at hst; omega)
    refine plain (by omega) (by omega) (by omega) (by omega) (by omega) vars puts (t ++ [mach_truth.f (a == b)]) ?_ I.vlen (by omega) (by rw [hpp]; simp at hv ⊢; omega)
    unfold mach_Machine_do.f; rw [if_neg h1, if_neg h2, if_neg h3, if_neg h4, if_neg h5, if_neg h6, if_neg h7, if_pos h8, ht.2.2.2.2]; simp only; rw [e1]
  by_cases h9 : e.Op = 9
  · have hpp : mach_pops.f e.Op = (0, 1) := by rw [h9]; rfl
    have := ho.A3 (by omega)
    have hii := I.ilen
    obtain ⟨x, hx⟩ : ∃ x, inp[e.A.toNat]? = some x := ⟨inp[e.A.toNat]'(by omega), List.getElem?_eq_getElem (by omega)⟩
    refine plain (by omega) (by omega) (by omega) (by omega) (by omega) vars puts (stack ++ [x]) ?_ I.vlen (by omega) (by rw [hpp]; simp; omega)
    unfold mach_Machine_do.f; rw [if_neg h1, if_neg h2, if_neg h3, if_neg h4, if_neg h5, if_neg h6, if_neg h7, if_neg h8, if_pos h9, if_pos hA, hx]; simp only; rw [if_pos hpush, e1]
  by_cases h10 : e.Op = 10
  · have hpp : mach_pops.f e.Op = (1, 0) := by rw [h10]; rfl
    obtain ⟨t, b, rfl⟩ := last1 (by rw [hpp]; decide)
    have hpl : puts.length < 8796093022208 := by omega
    refine plain (by omega) (by omega) (by omega) (by omega) (by omega) vars (puts ++ [⟨e.A, b⟩]) t ?_ I.vlen (by simp) (by rw [hpp]; simp at hv ⊢; omega)
    unfold mach_Machine_do.f; rw [if_neg h1, if_neg h2, if_neg h3, if_neg h4, if_neg h5, if_neg h6, if_neg h7, if_neg h8, if_neg h9, if_pos h10, pop_eq l inp vars puts t b cnt _ _ (by simp at hst; omega)]; simp only; rw [if_pos hpl, e1]
  by_cases h11 : e.Op = 11
  · have hpp : mach_pops.f e.Op = (0, 0) := by rw [h11]; rfl
    have hj := F.jump pc e he (.inl h11)
    have hh := g5 (.inl h11)
    refine ⟨e.A.toNat, false, vars, puts, stack, cnt, over0 (by omega) (by omega), ?_, I.next (by omega) I.vlen I.clen I.range (by rw [hh, hpp, hv]; simp), by omega, .inl ⟨h11, by omega, rfl, rfl⟩⟩
    unfold mach_Machine_do.f; rw [if_neg h1, if_neg h2, if_neg h3, if_neg h4, if_neg h5, if_neg h6, if_neg h7, if_neg h8, if_neg h9, if_neg h10, if_pos h11, show ((e.A.toNat : Nat) : Int) = e.A by omega]
  by_cases h12 : e.Op = 12
  · have hpp : mach_pops.f e.Op = (1, 0) := by rw [h12]; rfl
    have hj := F.jump pc e he (.inr h12)
    obtain ⟨t, b, rfl⟩ := last1 (by rw [hpp]; decide)
    have hpop := pop_eq l inp vars puts t b cnt (pc : Int) y (by simp at hst; omega)
    have htl : (t.length : Int) = v - (mach_pops.f e.Op).1 + (mach_pops.f e.Op).2 := by rw [hpp]; simp at hv ⊢; omega
    have hov : mach_Machine_over.f l inp vars puts (t ++ [b]) cnt (pc : Int) z e = some (b == 0) := by
      have e2 : IntKind.i64.wrap (((t ++ [b]).length : Int) - 1) = (t.length : Int) := by
        simp only [List.length_append, List.length_cons, List.length_nil] at hst ⊢
        rw [wrap64_small (by omega) (by omega)]; omega
      unfold mach_Machine_over.f
      rw [if_pos h12, e2, if_pos (by omega), Int.toNat_natCast]
      simp
    by_cases hb : b = 0
    · refine ⟨e.A.toNat, true, vars, puts, t, cnt, by rw [hov, hb]; rfl, ?_, I.next (by omega) I.vlen I.clen I.range (by rw [g5 (.inr h12), htl]), by omega, .inr (.inl ⟨h12, rfl, .inl ⟨rfl, by omega⟩⟩)⟩
      unfold mach_Machine_do.f; rw [if_neg h1, if_neg h2, if_neg h3, if_neg h4, if_neg h5, if_neg h6, if_neg h7, if_neg h8, if_neg h9, if_neg h10, if_neg h11, if_pos h12, hpop]; simp only; rw [if_pos hb, show ((e.A.toNat : Nat) : Int) = e.A by omega]
    · refine ⟨pc + 1, false, vars, puts, t, cnt, by rw [hov]; simp [hb], ?_, I.next (by omega) I.vlen I.clen I.range (fit _ htl h11), by omega, .inr (.inl ⟨h12, rfl, .inr ⟨rfl, rfl⟩⟩)⟩
      unfold mach_Machine_do.f; rw [if_neg h1, if_neg h2, if_neg h3, if_neg h4, if_neg h5, if_neg h6, if_neg h7, if_neg h8, if_neg h9, if_neg h10, if_neg h11, if_pos h12, hpop]; simp only; rw [if_neg hb, e1]
  have hcnt := I.clen
  by_cases h13 : e.Op = 13
  · have hpp : mach_pops.f e.Op = (0, 0) := by rw [h13]; rfl
    have := ho.A7 (by omega)
    have hB1 := ho.B1 h13
    obtain ⟨c, hc⟩ : ∃ x, cnt[e.A.toNat]? = some x := ⟨cnt[e.A.toNat]'(by omega), List.getElem?_eq_getElem (by omega)⟩
    refine ⟨pc + 1, false, vars, puts, stack, cnt.set e.A.toNat e.B, over0 h12 (by omega), ?_, I.next (by omega) I.vlen (by rw [List.length_set]; exact I.clen) (range_set I.range _ ⟨ho.B, hB1⟩) (fit _ (by rw [hpp, hv]; simp) h11), by omega, .inr (.inr (.inl ⟨h13, rfl, rfl, rfl⟩))⟩
    unfold mach_Machine_do.f; rw [if_neg h1, if_neg h2, if_neg h3, if_neg h4, if_neg h5, if_neg h6, if_neg h7, if_neg h8, if_neg h9, if_neg h10, if_neg h11, if_neg h12, if_pos h13, if_pos hA, arr, hc]; simp only; rw [e1]
  by_cases h14 : e.Op = 14
  · have hpp : mach_pops.f e.Op = (0, 0) := by rw [h14]; rfl
    have := ho.A7 (by omega)
    obtain ⟨b1, b2⟩ := F.back pc e he h14
    obtain ⟨c, hc⟩ : ∃ x, cnt[e.A.toNat]? = some x := ⟨cnt[e.A.toNat]'(by omega), List.getElem?_eq_getElem (by omega)⟩
    have hcr := I.range c (List.mem_of_getElem? hc)
    have hov : mach_Machine_over.f l inp vars puts stack cnt (pc : Int) z e = some (decide (c > 0)) := by
      unfold mach_Machine_over.f
      rw [if_neg h12, if_pos h14, if_pos hA, arr, hc]
    by_cases hc0 : c > 0
    · refine ⟨e.B.toNat, true, vars, puts, stack, cnt.set e.A.toNat (c - 1), by rw [hov]; simp [hc0], ?_, I.next (by omega) I.vlen (by rw [List.length_set]; exact I.clen) (range_set I.range _ (by omega)) (by rw [g6 h14, hpp, hv]; simp), by omega, .inr (.inr (.inr (.inl ⟨h14, c, hc, .inl ⟨hc0, rfl, by omega, rfl⟩⟩)))⟩
      unfold mach_Machine_do.f; rw [if_neg h1, if_neg h2, if_neg h3, if_neg h4, if_neg h5, if_neg h6, if_neg h7, if_neg h8, if_neg h9, if_neg h10, if_neg h11, if_neg h12, if_neg h13, if_pos h14, if_pos hA, arr, hc]; simp only; rw [if_pos hc0, wrap64_small (by omega) (by omega), show ((e.B.toNat : Nat) : Int) = e.B by omega]
    · refine ⟨pc + 1, false, vars, puts, stack, cnt, by rw [hov]; simp [hc0], ?_, I.next (by omega) I.vlen I.clen I.range (fit _ (by rw [hpp, hv]; simp) h11), by omega, .inr (.inr (.inr (.inl ⟨h14, c, hc, .inr ⟨by omega, rfl, rfl, rfl⟩⟩)))⟩
      unfold mach_Machine_do.f; rw [if_neg h1, if_neg h2, if_neg h3, if_neg h4, if_neg h5, if_neg h6, if_neg h7, if_neg h8, if_neg h9, if_neg h10, if_neg h11, if_neg h12, if_neg h13, if_pos h14, if_pos hA, arr, hc]; simp only; rw [if_neg hc0, e1]
  by_cases h15 : e.Op = 15
  · have hpp : mach_pops.f e.Op = (0, 0) := by rw [h15]; rfl
    have := ho.A7 (by omega)
    obtain ⟨c, hc⟩ : ∃ x, cnt[e.A.toNat]? = some x := ⟨cnt[e.A.toNat]'(by omega), List.getElem?_eq_getElem (by omega)⟩
    refine ⟨pc + 1, false, vars, puts, stack, cnt.set e.A.toNat 0, over0 h12 h14, ?_, I.next (by omega) I.vlen (by rw [List.length_set]; exact I.clen) (range_set I.range _ (by omega)) (fit _ (by rw [hpp, hv]; simp) h11), by omega, .inr (.inr (.inr (.inr (.inl ⟨h15, rfl, rfl, rfl⟩))))⟩
    unfold mach_Machine_do.f; rw [if_neg h1, if_neg h2, if_neg h3, if_neg h4, if_neg h5, if_neg h6, if_neg h7, if_neg h8, if_neg h9, if_neg h10, if_neg h11, if_neg h12, if_neg h13, if_neg h14, if_pos h15, if_pos hA, arr, hc]; simp only; rw [e1]
  have hpp : mach_pops.f e.Op = (0, 0) := by
    have : e.Op = 16 ∨ e.Op = 17 ∨ e.Op = 18 := by omega
    rcases this with h | h | h <;> (rw [h]; rfl)
  refine plain h11 h12 h13 h14 h15 vars puts stack ?_ I.vlen (by omega) (by rw [hpp, hv]; simp)
  unfold mach_Machine_do.f; rw [if_neg h1, if_neg h2, if_neg h3, if_neg h4, if_neg h5, if_neg h6, if_neg h7, if_neg h8, if_neg h9, if_neg h10, if_neg h11, if_neg h12, if_neg h13, if_neg h14, if_neg h15, e1]

def sumTo (f : Nat → Int) : Nat → Int
  | 0 => 0
  | n + 1 => sumTo f n + f n
theorem sumTo_congr {f g : Nat → Int} : ∀ {n : Nat}, (∀ k, k < n → f k = g k) → sumTo f n = sumTo g n
  | 0, _ => rfl
  | n + 1, h => by
    have h1 := sumTo_congr (f := f) (g := g) (n := n) (fun k hk => h k (by omega))
    have h2 := h n (by omega)
    simp only [sumTo]; omega
theorem sumTo_le {f g : Nat → Int} : ∀ {n : Nat}, (∀ k, k < n → f k ≤ g k) → sumTo f n ≤ sumTo g n
  | 0, _ => Int.le_refl _
  | n + 1, h => by
    have h1 := sumTo_le (n := n) (fun k hk => h k (by omega))
    have h2 := h n (by omega)
    simp only [sumTo]; omega
theorem sumTo_but {f g : Nat → Int} : ∀ {n o : Nat}, o < n → (∀ k, k < n → k ≠ o → f k = g k) → sumTo f n = sumTo g n + (f o - g o)
  | 0, _, h, _ => absurd h (Nat.not_lt_zero _)
  | n + 1, o, h, he => by
    by_cases hon : o = n
    · subst hon
      have := sumTo_congr (f := f) (g := g) (n := o) (fun k hk => he k (by omega) (by omega))
      simp only [sumTo]; omega
    · have := sumTo_but (n := n) (o := o) (by omega) (fun k hk hne => he k (by omega) hne)
      have := he n (by omega) (fun e => hon e.symm)
      simp only [sumTo]; omega
/-- does k lie in the region that o opens? -/
def wtB (m : List (Int × Int)) (k o : Nat) : Bool := decide (o < k) && (match mget m (o : Int) with | some c => decide ((k : Int) ≤ c) | none => false)
theorem wtB_iff (m : List (Int × Int)) (k o : Nat) : wtB m k o = true ↔ o < k ∧ ∃ c : Int, mget m (o : Int) = some c ∧ (k : Int) ≤ c := by
  unfold wtB
  rw [Bool.and_eq_true, decide_eq_true_eq]
  cases mget m (o : Int) with
  | none => simp
  | some c => simp
theorem wtB_eq {m : List (Int × Int)} {k k' o : Nat} (h : (o < k ∧ ∃ c : Int, mget m (o : Int) = some c ∧ (k : Int) ≤ c) ↔ (o < k' ∧ ∃ c : Int, mget m (o : Int) = some c ∧ (k' : Int) ≤ c)) : wtB m k o = wtB m k' o := by
  rw [Bool.eq_iff_iff, wtB_iff, wtB_iff]; exact h
/-- what the region that o opens adds, behind the round at hand -/
def termOf (l : List SIns) (m : List (Int × Int)) (R cnt : List Int) (o : Nat) : Int :=
  match l[o]?, mget m (o : Int) with
  | some e, some c => (if e.Op = 13 then ((cnt[e.A.toNat]?).getD 0) * (restAt R (o + 1) + 2) + 1 else 0) + restAt R (c.toNat + 1)
  | _, _ => 0
def inAll (l : List SIns) (m : List (Int × Int)) (R cnt : List Int) (k : Nat) : Int := sumTo (fun o => if wtB m k o = true then termOf l m R cnt o else 0) l.length
/-- what is left at most, by the numbers, of a run -/
def phi (l : List SIns) (m : List (Int × Int)) (R cnt : List Int) (k : Nat) : Int := restAt R k + inAll l m R cnt k
section
variable {l : List SIns} {inn : List Int} {m : List (Int × Int)}
theorem Nest.opener (N : Nest l l.length [] inn m) {k : Nat} {c : Int} {e : SIns} (he : l[k]? = some e) (hm : mget m (k : Int) = some c) : e.Op = 13 ∨ e.Op = 16 := by
  obtain ⟨ko, kc, h1, _, _, _, eo, ec, p1, _, p3⟩ := N.pair _ _ hm
  obtain rfl : ko = k := by omega
  rw [he] at p1
  cases p1
  rcases p3 with p3 | p3
  · exact .inl p3.1
  · exact .inr p3.1
theorem Nest.closer (N : Nest l l.length [] inn m) {k : Nat} {o : Int} {e : SIns} (he : l[k]? = some e) (hm : mget m o = some (k : Int)) : ∃ (ko : Nat) (eo : SIns), o = (ko : Int) ∧ ko < k ∧ l[ko]? = some eo ∧ ((eo.Op = 13 ∧ e.Op = 14 ∧ e.A = eo.A ∧ e.B = (ko : Int) + 1) ∨ (eo.Op = 16 ∧ e.Op = 17)) := by
  obtain ⟨ko, kc, h1, h2, _, hlt, eo, ec, p1, p2, p3⟩ := N.pair _ _ hm
  obtain rfl : kc = k := by omega
  rw [he] at p2
  cases p2
  exact ⟨ko, eo, h1, hlt, p1, p3⟩
theorem Nest.plain (N : Nest l l.length [] inn m) {k : Nat} {e : SIns} (he : l[k]? = some e) (h : e.Op ≠ 13 ∧ e.Op ≠ 16 ∧ e.Op ≠ 14 ∧ e.Op ≠ 17) (o : Nat) : wtB m (k + 1) o = wtB m k o := by
  refine wtB_eq ⟨fun ⟨h1, c, h2, h3⟩ => ?_, fun ⟨h1, c, h2, h3⟩ => ?_⟩
  · have : o ≠ k := fun hok => by subst hok; have := N.opener he h2; omega
    exact ⟨by omega, c, h2, by omega⟩
  · have : c ≠ (k : Int) := fun hck => by
      subst hck
      obtain ⟨_, eo, _, _, _, h4⟩ := N.closer he h2
      omega
    exact ⟨by omega, c, h2, by omega⟩
theorem Nest.opens (N : Nest l l.length [] inn m) {k : Nat} {e : SIns} (he : l[k]? = some e) (h : e.Op = 13 ∨ e.Op = 16) : wtB m k k = false ∧ (∀ c, mget m (k : Int) = some c → (k : Int) < c → wtB m (k + 1) k = true) ∧ ∀ o, o ≠ k → wtB m (k + 1) o = wtB m k o := by
  refine ⟨?_, fun c hc hkc => (wtB_iff _ _ _).2 ⟨by omega, c, hc, by omega⟩, fun o hok => wtB_eq ⟨fun ⟨h1, c, h2, h3⟩ => ⟨by omega, c, h2, by omega⟩, fun ⟨h1, c, h2, h3⟩ => ?_⟩⟩
  · rw [Bool.eq_false_iff]
    intro hw
    have := (wtB_iff _ _ _).1 hw
    omega
  · have : c ≠ (k : Int) := fun hck => by
      subst hck
      obtain ⟨_, eo, _, _, _, h4⟩ := N.closer he h2
      omega
    exact ⟨by omega, c, h2, by omega⟩
theorem Nest.closes (N : Nest l l.length [] inn m) {k o0 : Nat} {e : SIns} (he : l[k]? = some e) (h : e.Op = 14 ∨ e.Op = 17) (hm : mget m (o0 : Int) = some (k : Int)) (hlt : o0 < k) : wtB m k o0 = true ∧ wtB m (k + 1) o0 = false ∧ (∀ o, o ≠ o0 → wtB m (k + 1) o = wtB m k o) ∧ ∀ o, wtB m (o0 + 1) o = wtB m k o := by
  refine ⟨(wtB_iff _ _ _).2 ⟨hlt, _, hm, Int.le_refl _⟩, ?_, fun o ho => wtB_eq ⟨fun ⟨h1, c, h2, h3⟩ => ?_, fun ⟨h1, c, h2, h3⟩ => ?_⟩, fun o => wtB_eq ⟨fun ⟨h1, c, h2, h3⟩ => ?_, fun ⟨h1, c, h2, h3⟩ => ?_⟩⟩
  · rw [Bool.eq_false_iff]
    intro hw
    obtain ⟨_, c, h2, h3⟩ := (wtB_iff _ _ _).1 hw
    rw [hm] at h2
    cases h2
    omega
  · have : o ≠ k := fun hok => by subst hok; have := N.opener he h2; omega
    exact ⟨by omega, c, h2, by omega⟩
  · have : c ≠ (k : Int) := fun hck => by
      subst hck
      have := N.one _ _ _ h2 hm
      omega
    exact ⟨by omega, c, h2, by omega⟩
  · by_cases hoo : o = o0
    · subst hoo
      rw [hm] at h2
      cases h2
      exact ⟨hlt, _, hm, Int.le_refl _⟩
    · have := N.within _ _ _ _ h2 hm (by omega) (by omega)
      exact ⟨by omega, c, h2, by omega⟩
  · by_cases hoo : o = o0
    · subst hoo
      exact ⟨by omega, c, h2, by omega⟩
    · have : ¬ o0 < o := fun hlt' => by
        have := N.within _ _ _ _ hm h2 (by omega) (by omega)
        omega
      exact ⟨by omega, c, h2, by omega⟩
theorem Nest.inner (N : Nest l l.length [] inn m) {k : Nat} {t : Int} (h : Inner [] m k t) (ht : 0 ≤ t) (o : Nat) : wtB m k o = true ↔ ((o : Int) = t ∨ wtB m t.toNat o = true) := by
  rcases h with ⟨h1, _⟩ | ⟨_, ⟨h2, h2'⟩, h3⟩
  · omega
  obtain ⟨d, hd, hkd⟩ := h2'.resolve_left (by simp)
  obtain ⟨kt, kd, q1, q2, q3, q4, et, ed, p1, p2, p3⟩ := N.pair _ _ hd
  subst q1
  rw [Int.toNat_natCast]
  constructor
  · intro hw
    obtain ⟨w1, c, w2, w3⟩ := (wtB_iff _ _ _).1 hw
    by_cases hok : (o : Int) = (kt : Int)
    · exact .inl hok
    · have := h3 (o : Int) ⟨by omega, .inr ⟨c, w2, w3⟩⟩
      exact .inr ((wtB_iff _ _ _).2 ⟨by omega, c, w2, by omega⟩)
  · rintro (hok | hw)
    · have : o = kt := by omega
      subst this
      exact (wtB_iff _ _ _).2 ⟨by omega, d, hd, hkd⟩
    · obtain ⟨w1, c, w2, w3⟩ := (wtB_iff _ _ _).1 hw
      have hne : c ≠ (kt : Int) := fun hck => by
        subst hck
        obtain ⟨_, eo, _, _, _, h4⟩ := N.closer p1 w2
        omega
      have := N.within _ _ _ _ w2 hd (by omega) (by omega)
      exact (wtB_iff _ _ _).2 ⟨by omega, c, w2, by omega⟩
theorem Nest.jumps (N : Nest l l.length [] inn m) (Lv : Level l inn) {k : Nat} {e : SIns} (he : l[k]? = some e) (h : e.Op = 11 ∨ e.Op = 12) {a : Nat} (ha : (a : Int) = e.A) (hal : a ≤ l.length) (o : Nat) : wtB m a o = wtB m k o := by
  obtain ⟨t, h1, h2, h3⟩ := Lv k e he h
  have hk := N.top k t (lt_of_get he) h1
  have none_of : ∀ {j : Nat}, Inner [] m j (-1) → wtB m j o = false := fun hj => by
    rw [Bool.eq_false_iff]
    intro hw
    obtain ⟨w1, c, w2, w3⟩ := (wtB_iff _ _ _).1 hw
    rcases hj with ⟨_, hj⟩ | ⟨hj, _⟩
    · exact hj (o : Int) ⟨by omega, .inr ⟨c, w2, w3⟩⟩
    · omega
  by_cases hlt : a < l.length
  · have ha2 : e.A.toNat = a := by omega
    have h4 := h2 (by omega)
    rw [ha2] at h4
    have hA := N.top a t hlt h4
    by_cases ht : 0 ≤ t
    · rw [Bool.eq_iff_iff, N.inner hA ht, N.inner hk ht]
    · have : t = -1 := by
        rcases hk with ⟨h5, _⟩ | ⟨h5, _⟩
        · exact h5
        · exact absurd h5 ht
      subst this
      rw [none_of hA, none_of hk]
  · have := h3 (by omega)
    subst this
    rw [none_of hk, Bool.eq_false_iff]
    intro hw
    obtain ⟨w1, c, w2, w3⟩ := (wtB_iff _ _ _).1 hw
    obtain ⟨_, kc, _, q2, q3, _⟩ := N.pair _ _ w2
    omega
/-- an instruction takes what is told of it, at most -/
theorem phi_step (F : Facts l m) (N : Nest l l.length [] inn m) (Lv : Level l inn) {R cnt cnt' : List Int} (hT : ∀ j, 0 ≤ restAt R j ∧ restAt R j ≤ 1099511627776) (hcl : cnt.length = 8) (hcr : ∀ c ∈ cnt, 0 ≤ c ∧ c ≤ 1000) {k k' : Nat} {e : SIns} {ov : Bool} (he : l[k]? = some e) (hk' : k' ≤ l.length) (M : Moves e k k' ov cnt cnt') :
    mach_Cost.f e ov + phi l m R cnt' k' + (restAt R k - needOf m R k e) ≤ phi l m R cnt k ∧ (e.Op ≠ 12 → e.Op ≠ 15 → mach_Cost.f e ov + phi l m R cnt' k' + (restAt R k - needOf m R k e) = phi l m R cnt k) := by
  have hlt := lt_of_get he
  have ho := F.ok k e he
  unfold phi
  have same : (∀ o, wtB m k' o = wtB m k o) → cnt' = cnt → inAll l m R cnt' k' = inAll l m R cnt k := fun h1 h2 => by
    subst h2
    exact sumTo_congr (fun o _ => by simp only [h1 o])
  rcases M with ⟨h, h1, h2, h3⟩ | ⟨h, h3, h4⟩ | ⟨h, h1, h2, h3⟩ | ⟨h, c, hc, h4⟩ | ⟨h, h1, h2, h3⟩ | ⟨q11, q12, q13, q14, q15, h1, h2, h3⟩
  · -- a jump
    have hs := same (fun o => N.jumps Lv he (.inl h) h1 hk' o) h3
    have e1 : e.A.toNat = k' := by omega
    have hn : needOf m R k e = 2 + restAt R k' := by
      unfold needOf
      rw [if_neg (by omega), if_neg (by omega), if_pos h, e1]
    have hcost : mach_Cost.f e ov = 2 := by simp [mach_Cost.f, h]
    rw [hs, hn, hcost]
    omega
  · -- a skip
    have hn : needOf m R k e = max (2 + restAt R e.A.toNat) (1 + restAt R (k + 1)) := by
      unfold needOf
      rw [if_neg (by omega), if_neg (by omega), if_neg (by omega), if_pos h]
    refine ⟨?_, fun h12 => absurd h h12⟩
    rcases h4 with ⟨h5, h6⟩ | ⟨h5, h6⟩
    · have hs := same (fun o => N.jumps Lv he (.inr h) h6 hk' o) h3
      have e1 : e.A.toNat = k' := by omega
      have hcost : mach_Cost.f e ov = 2 := by simp [mach_Cost.f, h, h5]
      rw [hs, hn, hcost, e1]
      omega
    · subst h6
      have hs := same (fun o => N.plain he (by omega) o) h3
      have hcost : mach_Cost.f e ov = 1 := by simp [mach_Cost.f, h, h5]
      rw [hs, hn, hcost]
      omega
  · -- a loop begins
    subst h1
    obtain ⟨s1, s2⟩ := F.shut k e he (.inl h)
    obtain ⟨c, hm, hkc⟩ : ∃ c : Int, mget m (k : Int) = some c ∧ (k : Int) < c := by
      cases hm : mget m (k : Int) with
      | none => rw [hm] at s1; simp at s1; omega
      | some c => rw [hm] at s1; exact ⟨c, rfl, by simpa using s1⟩
    obtain ⟨w1, w2, w3⟩ := N.opens he (.inl h)
    have w2 := w2 c hm hkc
    have hA := ho.A
    have hA7 := ho.A7 (by omega)
    have hothers : ∀ o, o < l.length → o ≠ k → (if wtB m (k + 1) o = true then termOf l m R cnt' o else 0) = (if wtB m k o = true then termOf l m R cnt o else 0) := fun o hol hok => by
      rw [w3 o hok]
      by_cases hw : wtB m k o = true
      · rw [if_pos hw, if_pos hw]
        obtain ⟨v1, d, v2, v3⟩ := (wtB_iff _ _ _).1 hw
        obtain ⟨eo, heo⟩ : ∃ eo, l[o]? = some eo := ⟨l[o], List.getElem?_eq_getElem hol⟩
        unfold termOf
        rw [heo, v2]
        simp only
        by_cases h13 : eo.Op = 13
        · have hdk : d ≠ (k : Int) := fun hdk => by
            subst hdk
            obtain ⟨_, _, _, _, _, h4⟩ := N.closer he v2
            omega
          have hne := N.counts o k eo e v1 hlt heo he h13 h (.inr ⟨d, v2, by omega⟩)
          have hoA := (F.ok o eo heo).A
          rw [h3, List.getElem?_set_ne (by omega)]
        · rw [if_neg h13, if_neg h13]
      · rw [if_neg hw, if_neg hw]
    have hsum := sumTo_but (f := fun o => if wtB m (k + 1) o = true then termOf l m R cnt' o else 0) (g := fun o => if wtB m k o = true then termOf l m R cnt o else 0) hlt hothers
    have hterm : termOf l m R cnt' k = e.B * (restAt R (k + 1) + 2) + 1 + restAt R (c.toNat + 1) := by
      unfold termOf
      rw [he, hm]
      simp only
      rw [if_pos h, h3, List.getElem?_set_self (by omega)]
      rfl
    have hn : needOf m R k e = (e.B + 1) * restAt R (k + 1) + 2 * e.B + 2 + restAt R (c.toNat + 1) := by
      unfold needOf
      rw [if_neg (by omega), if_neg (by omega), if_neg (by omega), if_neg (by omega), if_pos h, hm]
      rfl
    have hcost : mach_Cost.f e ov = 1 := by simp [mach_Cost.f, h]
    have hin : inAll l m R cnt' (k + 1) = inAll l m R cnt k + (e.B * (restAt R (k + 1) + 2) + 1 + restAt R (c.toNat + 1)) := by
      unfold inAll
      rw [hsum, w1, w2, hterm]
      simp
    have ealg : (e.B + 1) * restAt R (k + 1) = e.B * restAt R (k + 1) + restAt R (k + 1) := by rw [Int.add_mul, Int.one_mul]
    have ealg2 : e.B * (restAt R (k + 1) + 2) = e.B * restAt R (k + 1) + 2 * e.B := by rw [Int.mul_add, Int.mul_comm e.B 2]
    rw [hin, hn, hcost, ealg, ealg2]
    omega
  · -- a loop again, or behind it
    obtain ⟨o, hm⟩ := N.closed k e hlt he (.inl h)
    obtain ⟨ko, eo, rfl, hkk, heo, hpair⟩ := N.closer he hm
    have hpair : eo.Op = 13 ∧ e.Op = 14 ∧ e.A = eo.A ∧ e.B = (ko : Int) + 1 := by
      rcases hpair with hp | hp
      · exact hp
      · omega
    obtain ⟨p13, _, pA, pB⟩ := hpair
    obtain ⟨w1, w2, w3, w4⟩ := N.closes he (.inl h) hm hkk
    have hA := ho.A
    have hA7 := ho.A7 (by omega)
    have hn : needOf m R k e = 0 := by unfold needOf; rw [if_pos h]
    have hkl : ko < l.length := by omega
    have hkt : ((k : Int)).toNat = k := Int.toNat_natCast _
    have distinct : ∀ o, o < l.length → o ≠ ko → wtB m k o = true → ∀ eo' : SIns, l[o]? = some eo' → eo'.Op = 13 → eo'.A ≠ e.A := fun o hol hok hw eo' heo' h13 => by
      obtain ⟨v1, d, v2, v3⟩ := (wtB_iff _ _ _).1 hw
      have : ¬ ko < o := fun hlt' => by
        have := N.within _ _ _ _ hm v2 (by omega) (by omega)
        omega
      rw [pA]
      exact N.counts o ko eo' eo (by omega) (by omega) heo' heo h13 p13 (.inr ⟨d, v2, by omega⟩)
    rcases h4 with ⟨c1, c2, c3, c4⟩ | ⟨c1, c2, c3, c4⟩
    · have hk1 : k' = ko + 1 := by omega
      subst hk1
      have hothers : ∀ o, o < l.length → o ≠ ko → (if wtB m (ko + 1) o = true then termOf l m R cnt' o else 0) = (if wtB m k o = true then termOf l m R cnt o else 0) := fun o hol hok => by
        rw [w4 o]
        by_cases hw : wtB m k o = true
        · rw [if_pos hw, if_pos hw]
          obtain ⟨v1, d, v2, v3⟩ := (wtB_iff _ _ _).1 hw
          obtain ⟨eo', heo'⟩ : ∃ eo, l[o]? = some eo := ⟨l[o], List.getElem?_eq_getElem hol⟩
          unfold termOf
          rw [heo', v2]
          simp only
          by_cases h13 : eo'.Op = 13
          · have hne := distinct o hol hok hw eo' heo' h13
            have hoA := (F.ok o eo' heo').A
            rw [c4, List.getElem?_set_ne (by omega)]
          · rw [if_neg h13, if_neg h13]
        · rw [if_neg hw, if_neg hw]
      have hsum := sumTo_but (f := fun o => if wtB m (ko + 1) o = true then termOf l m R cnt' o else 0) (g := fun o => if wtB m k o = true then termOf l m R cnt o else 0) hkl hothers
      have t1 : termOf l m R cnt' ko = (c - 1) * (restAt R (ko + 1) + 2) + 1 + restAt R (k + 1) := by
        unfold termOf
        rw [heo, hm]
        simp only [hkt]
        rw [if_pos p13, c4, ← pA, List.getElem?_set_self (by omega)]
        rfl
      have t2 : termOf l m R cnt ko = c * (restAt R (ko + 1) + 2) + 1 + restAt R (k + 1) := by
        unfold termOf
        rw [heo, hm]
        simp only [hkt]
        rw [if_pos p13, ← pA, hc]
        rfl
      have hin : inAll l m R cnt' (ko + 1) = inAll l m R cnt k - (restAt R (ko + 1) + 2) := by
        unfold inAll
        rw [hsum]
        simp only [w4 ko, w1, if_true, t1, t2, Int.sub_mul, Int.one_mul]
        omega
      have hcost : mach_Cost.f e ov = 2 := by simp [mach_Cost.f, h, c2]
      rw [hin, hn, hcost]
      omega
    · subst c3
      have hothers : ∀ o, o < l.length → o ≠ ko → (if wtB m (k + 1) o = true then termOf l m R cnt' o else 0) = (if wtB m k o = true then termOf l m R cnt o else 0) := fun o hol hok => by
        rw [w3 o hok, c4]
      have hsum := sumTo_but (f := fun o => if wtB m (k + 1) o = true then termOf l m R cnt' o else 0) (g := fun o => if wtB m k o = true then termOf l m R cnt o else 0) hkl hothers
      have t2 : termOf l m R cnt ko = 1 + restAt R (k + 1) := by
        unfold termOf
        rw [heo, hm]
        simp only [hkt]
        rw [if_pos p13, ← pA, hc, c1]
        simp
      have hin : inAll l m R cnt' (k + 1) = inAll l m R cnt k - (1 + restAt R (k + 1)) := by
        unfold inAll
        rw [hsum]
        simp only [w1, w2, if_true, t2, Bool.false_eq_true, if_false]
        omega
      have hcost : mach_Cost.f e ov = 1 := by simp [mach_Cost.f, h, c2]
      rw [hin, hn, hcost]
      omega
  · -- a loop's last round
    subst h1
    refine ⟨?_, fun _ h15 => absurd h h15⟩
    have hle : inAll l m R cnt' (k + 1) ≤ inAll l m R cnt k := sumTo_le (fun o hol => by
      simp only [N.plain he (by omega) o]
      by_cases hw : wtB m k o = true
      · rw [if_pos hw, if_pos hw]
        unfold termOf
        cases l[o]? with
        | none => exact Int.le_refl _
        | some eo =>
          cases mget m (o : Int) with
          | none => exact Int.le_refl _
          | some d =>
            simp only
            by_cases h13 : eo.Op = 13
            · rw [if_pos h13, if_pos h13]
              have hx : ((cnt'[eo.A.toNat]?).getD 0) ≤ ((cnt[eo.A.toNat]?).getD 0) := by
                rw [h3]
                by_cases hAA : eo.A.toNat = e.A.toNat
                · rw [hAA]
                  by_cases hb : e.A.toNat < cnt.length
                  · rw [List.getElem?_set_self hb, List.getElem?_eq_getElem hb]
                    exact (hcr _ (List.getElem_mem hb)).1
                  · rw [List.getElem?_eq_none (by simpa using hb), List.getElem?_eq_none (by simpa using hb)]; exact Int.le_refl _
                · rw [List.getElem?_set_ne (fun e => hAA e.symm)]; exact Int.le_refl _
              have hR2 := (hT (o + 1)).1
              have := Int.mul_le_mul_of_nonneg_right hx (show 0 ≤ restAt R (o + 1) + 2 by omega)
              omega
            · rw [if_neg h13, if_neg h13]; exact Int.le_refl _
      · rw [if_neg hw, if_neg hw]; exact Int.le_refl _)
    have hcost : mach_Cost.f e ov = 1 := by simp [mach_Cost.f, h]
    have hcost' : mach_Cost.f e false = 1 := by simp [mach_Cost.f, h]
    have hn : needOf m R k e = 1 + restAt R (k + 1) := by
      unfold needOf
      rw [if_neg (by omega), if_neg (by omega), if_neg (by omega), if_neg (by omega), if_neg (by omega), if_neg (by omega), hcost']
    rw [hn, hcost]
    omega
  · subst h1
    subst h3
    subst h2
    by_cases h16 : e.Op = 16
    · obtain ⟨s1, s2⟩ := F.shut k e he (.inr h16)
      obtain ⟨c, hm, hkc⟩ : ∃ c : Int, mget m (k : Int) = some c ∧ (k : Int) < c := by
        cases hm : mget m (k : Int) with
        | none => rw [hm] at s1; simp at s1; omega
        | some c => rw [hm] at s1; exact ⟨c, rfl, by simpa using s1⟩
      obtain ⟨w1, w2, w3⟩ := N.opens he (.inr h16)
      have w2 := w2 c hm hkc
      have hsum := sumTo_but (f := fun o => if wtB m (k + 1) o = true then termOf l m R cnt' o else 0) (g := fun o => if wtB m k o = true then termOf l m R cnt' o else 0) hlt (fun o _ hok => by rw [w3 o hok])
      have hterm : termOf l m R cnt' k = restAt R (c.toNat + 1) := by
        unfold termOf
        rw [he, hm]
        simp only
        rw [if_neg (by omega), Int.zero_add]
      have hin : inAll l m R cnt' (k + 1) = inAll l m R cnt' k + restAt R (c.toNat + 1) := by
        unfold inAll
        rw [hsum, w1, w2, hterm]
        simp
      have hn : needOf m R k e = 1 + restAt R (k + 1) + restAt R (c.toNat + 1) := by
        unfold needOf
        rw [if_neg (by omega), if_neg (by omega), if_neg (by omega), if_neg (by omega), if_neg (by omega), if_pos h16, hm]
        rfl
      have hcost : mach_Cost.f e false = 1 := by simp [mach_Cost.f, h16]
      rw [hin, hn, hcost]
      omega
    by_cases h17 : e.Op = 17
    · obtain ⟨o, hm⟩ := N.closed k e hlt he (.inr h17)
      obtain ⟨ko, eo, rfl, hkk, heo, hpair⟩ := N.closer he hm
      obtain ⟨w1, w2, w3, w4⟩ := N.closes he (.inr h17) hm hkk
      have hpo : eo.Op = 16 := by
        rcases hpair with hp | hp
        · omega
        · exact hp.1
      have hkl : ko < l.length := by omega
      have hkt : ((k : Int)).toNat = k := Int.toNat_natCast _
      have hsum := sumTo_but (f := fun o => if wtB m (k + 1) o = true then termOf l m R cnt' o else 0) (g := fun o => if wtB m k o = true then termOf l m R cnt' o else 0) hkl (fun o _ hok => by rw [w3 o hok])
      have t2 : termOf l m R cnt' ko = restAt R (k + 1) := by
        unfold termOf
        rw [heo, hm]
        simp only [hkt]
        rw [if_neg (by omega), Int.zero_add]
      have hin : inAll l m R cnt' (k + 1) = inAll l m R cnt' k - restAt R (k + 1) := by
        unfold inAll
        rw [hsum]
        simp only [w1, w2, if_true, t2, Bool.false_eq_true, if_false]
        omega
      have hcost : mach_Cost.f e false = 1 := by simp [mach_Cost.f, h17]
      have hn : needOf m R k e = 1 := by
        unfold needOf
        rw [if_neg (by omega), if_pos h17]
      rw [hin, hn, hcost]
      omega
    · have hs := same (fun o => N.plain he (by omega) o) rfl
      have hn : needOf m R k e = mach_Cost.f e false + restAt R (k + 1) := by
        unfold needOf
        rw [if_neg (by omega), if_neg (by omega), if_neg (by omega), if_neg (by omega), if_neg (by omega), if_neg (by omega)]
      rw [hs, hn]
      omega
theorem phi_start (R cnt : List Int) : phi l m R cnt 0 = restAt R 0 := by
  have : inAll l m R cnt 0 = sumTo (fun _ => 0) l.length := sumTo_congr (fun o _ => by
    have : wtB m 0 o = false := by unfold wtB; simp
    rw [this]; simp)
  have hz : ∀ n, sumTo (fun _ => (0 : Int)) n = 0 := fun n => by
    induction n with
    | zero => rfl
    | succ n ih => simp [sumTo, ih]
  unfold phi
  rw [this, hz]; omega
theorem phi_end (N : Nest l l.length [] inn m) (R cnt : List Int) (hR : R.length = l.length) : phi l m R cnt l.length = 0 := by
  have : inAll l m R cnt l.length = sumTo (fun _ => 0) l.length := sumTo_congr (fun o _ => by
    have : wtB m l.length o = false := by
      rw [Bool.eq_false_iff]
      intro hw
      obtain ⟨w1, c, w2, w3⟩ := (wtB_iff _ _ _).1 hw
      obtain ⟨_, kc, _, q2, q3, _⟩ := N.pair _ _ w2
      omega
    rw [this]; simp)
  have hz : ∀ n, sumTo (fun _ => (0 : Int)) n = 0 := fun n => by
    induction n with
    | zero => rfl
    | succ n ih => simp [sumTo, ih]
  have hr : restAt R l.length = 0 := by unfold restAt; rw [List.getElem?_eq_none (by omega)]; rfl
  unfold phi
  rw [this, hz, hr]; rfl
end

theorem tick_p0 {l : List SIns} {inp vars stack cnt : List Int} {puts : List SPut} {x left : Int} {e : SIns} {ov : Bool} (hov : mach_Machine_over.f l inp vars puts stack cnt x 0 e = some ov) :
    mach_Machine_Tick.p0 l inp vars puts stack cnt x left e = some (.inl (if left = 0 then mach_Cost.f e ov else left)) := by
  unfold mach_Machine_Tick.p0
  by_cases h : left = 0
  · subst h
    rw [if_pos rfl, hov, if_pos rfl]
  · rw [if_neg h, if_neg h]
theorem tick_on {l : List SIns} {inp vars stack cnt : List Int} {puts : List SPut} {pc : Nat} {left : Int} {e : SIns} {ov : Bool} (he : l[pc]? = some e) (hov : mach_Machine_over.f l inp vars puts stack cnt (pc : Int) 0 e = some ov) {z : Int} (hz : z = if left = 0 then mach_Cost.f e ov else left) (h1 : 1 ≤ z) (h2 : z ≤ 1000) :
    (1 < z → mach_Machine_Tick.f l inp vars puts stack cnt (pc : Int) left = some (e, false, vars, puts, stack, cnt, (pc : Int), z - 1)) ∧
    (z = 1 → ∀ x v p s c, mach_Machine_do.f l inp vars puts stack cnt (pc : Int) 0 e = some (x, v, p, s, c) → mach_Machine_Tick.f l inp vars puts stack cnt (pc : Int) left = some (e, true, v, p, s, c, x, 0)) := by
  have hlt := lt_of_get he
  have hd : mach_Machine_Done.f l inp vars puts stack cnt (pc : Int) left = false := by
    unfold mach_Machine_Done.f
    rw [beq_eq_false_iff_ne]; omega
  have hp := tick_p0 (left := left) hov
  rw [← hz] at hp
  have hc : (0 : Int) ≤ (pc : Int) := by omega
  have hw : IntKind.i64.wrap (z - 1) = z - 1 := wrap64_small (by omega) (by omega)
  constructor
  · intro h
    unfold mach_Machine_Tick.f
    rw [hd]
    simp only [Bool.false_eq_true, if_false, if_pos hc, Int.toNat_natCast, he, hp, hw]
    rw [if_pos (by omega)]
  · intro h x v p s c hdo
    subst h
    unfold mach_Machine_Tick.f
    rw [hd]
    simp only [Bool.false_eq_true, if_false, if_pos hc, Int.toNat_natCast, he, hp, hw]
    rw [if_neg (by omega)]
    simp only [Int.sub_self, hdo]
/-- what holds of a run from instruction to instruction holds at its end -/
theorem run_rounds {l : List SIns} {m : List (Int × Int)} (F : Facts l m) {H : List Int} (hH : HeightsOK l H) (px : PMachine) (hpi : px.m_image = l) (hin : px.m_in_.length = 4) (hv : px.m_vars.length = 8) (K : Nat) (hK : 100000000 ≤ K) (J : Nat → List Int → Int → Prop) (h0 : J 0 [0, 0, 0, 0, 0, 0, 0, 0] 0)
    (hs : ∀ (pc pc' : Nat) (cnt cnt' : List Int) (T : Int) (e : SIns) (ov : Bool), l[pc]? = some e → pc' ≤ l.length → cnt.length = 8 → (∀ c ∈ cnt, 0 ≤ c ∧ c ≤ 1000) → J pc cnt T → Moves e pc pc' ov cnt cnt' → J pc' cnt' (T + mach_Cost.f e ov)) :
    ∃ r, iter (mach_Run.r2 px) K (0, 0, px.m_vars, [], [], [0, 0, 0, 0, 0, 0, 0, 0], 0, 0) = some r ∧ ((∃ T v p s c a b, r = .inl (T, v, p, s, c, a, b) ∧ J l.length c T) ∨ ∃ x, r = .inr x ∧ x.2.Code ≠ 0) := by
  have hlen := F.len
  refine iter_total (f := mach_Run.r2 px) (fun s => ∃ pc : Nat, s.2.2.2.2.2.2.1 = (pc : Int) ∧ MInv l H px.m_in_ s.2.2.1 s.2.2.2.2.1 s.2.2.2.2.2.1 pc ∧ 0 ≤ s.2.1 ∧ s.2.1 ≤ 20000 ∧ (s.2.2.2.1.length : Int) ≤ s.2.1 ∧ ∃ T, 0 ≤ T ∧ T ≤ 1000 * s.2.1 ∧ J pc s.2.2.2.2.2.1 T ∧
      ((s.2.2.2.2.2.2.2 = 0 ∧ s.1 = T) ∨ (0 < s.2.2.2.2.2.2.2 ∧ ∃ e ov, l[pc]? = some e ∧ mach_Machine_over.f l px.m_in_ s.2.2.1 s.2.2.2.1 s.2.2.2.2.1 s.2.2.2.2.2.1 (pc : Int) 0 e = some ov ∧ s.2.2.2.2.2.2.2 < mach_Cost.f e ov ∧ s.1 = T + mach_Cost.f e ov - s.2.2.2.2.2.2.2)))
    (fun s => (20000 - s.2.1).toNat * 1001 + (if s.2.2.2.2.2.2.2 = 0 then 1001 else s.2.2.2.2.2.2.2.toNat)) _ (fun s hI => ?_) K _ ⟨0, rfl, ⟨Nat.zero_le _, hv, hin, rfl, by simp, by simpa using hH.start⟩, by simp, by simp, by simp, 0, Int.le_refl _, by simp, h0, .inl ⟨rfl, rfl⟩⟩ (by simp; omega)
  obtain ⟨ticks, n, vars, puts, stack, cnt, at_, left⟩ := s
  simp only at hI ⊢
  obtain ⟨pc, rfl, I, n0, n1, n2, T, t0, t1, hJ, hl⟩ := hI
  by_cases hend : pc = l.length
  · right
    have hd : mach_Machine_Done.f l px.m_in_ vars puts stack cnt (pc : Int) left = true := by
      unfold mach_Machine_Done.f
      rw [hend]; simp
    have hT : ticks = T := by
      rcases hl with ⟨_, h⟩ | ⟨_, e, ov, he, _⟩
      · exact h
      · have := lt_of_get he; omega
    subst hT
    simp only [mach_Run.r2, hpi, hd, if_true]
    exact ⟨_, rfl, .inl ⟨_, _, _, _, _, _, _, rfl, by rw [← hend]; exact hJ⟩⟩
  · have hpl := I.at_
    have hlt : pc < l.length := by omega
    obtain ⟨e, he⟩ : ∃ e, l[pc]? = some e := ⟨l[pc], List.getElem?_eq_getElem hlt⟩
    have hd : mach_Machine_Done.f l px.m_in_ vars puts stack cnt (pc : Int) left = false := by
      unfold mach_Machine_Done.f
      rw [beq_eq_false_iff_ne]; omega
    by_cases hn : n = 20000
    · right
      simp only [mach_Run.r2, hpi, hd, Bool.false_eq_true, if_false, if_pos hn, mach_Run.p3]
      exact ⟨_, rfl, .inr ⟨_, rfl, by simp⟩⟩
    · left
      obtain ⟨pc', ov, vars', puts', stack', cnt', q1, q2, q3, q4, q5⟩ := do_spec F hH I he puts (by omega) 0 0
      have hc := cost_range (F.ok pc e he) ov
      have hz : ∃ z : Int, z = (if left = 0 then mach_Cost.f e ov else left) ∧ 1 ≤ z ∧ z ≤ mach_Cost.f e ov ∧ ticks = T + mach_Cost.f e ov - z + (if left = 0 then 0 else 0) := by
        rcases hl with ⟨h1, h2⟩ | ⟨h1, e', ov', he', hov', h2, h3⟩
        · exact ⟨mach_Cost.f e ov, by rw [if_pos h1], hc.1, Int.le_refl _, by rw [if_pos h1]; omega⟩
        · rw [he] at he'
          cases he'
          rw [q1] at hov'
          cases hov'
          exact ⟨left, by rw [if_neg (by omega)], by omega, by omega, by rw [if_neg (by omega)]; omega⟩
      obtain ⟨z, z1, z2, z3, z4⟩ := hz
      have z4 : ticks = T + mach_Cost.f e ov - z := by split at z4 <;> omega
      obtain ⟨tk1, tk2⟩ := tick_on (left := left) he q1 z1 z2 (by omega)
      have wt : IntKind.i64.wrap (ticks + 1) = ticks + 1 := wrap64_small (by omega) (by omega)
      have wn : IntKind.i64.wrap (n + 1) = n + 1 := wrap64_small (by omega) (by omega)
      by_cases hz1 : z = 1
      · have tk := tk2 hz1 _ _ _ _ _ q2
        simp only [mach_Run.r2, hpi, hd, Bool.false_eq_true, if_false, if_neg hn, tk, if_true, wt, wn]
        refine ⟨_, rfl, ⟨pc', rfl, q3, by simp only; omega, by simp only; omega, by simp only; omega, T + mach_Cost.f e ov, by omega, by simp only; omega, hs pc pc' cnt cnt' T e ov he q3.at_ I.clen I.range hJ q5, .inl ⟨rfl, by simp only; omega⟩⟩, ?_⟩
        simp only [if_true]
        have : (20000 - n).toNat = (20000 - (n + 1)).toNat + 1 := by omega
        rw [this]
        split
        · omega
        · omega
      · have tk := tk1 (by omega)
        simp only [mach_Run.r2, hpi, hd, Bool.false_eq_true, if_false, if_neg hn, tk, wt]
        refine ⟨_, rfl, ⟨pc, rfl, I, n0, n1, n2, T, t0, t1, hJ, .inr ⟨by simp only; omega, e, ov, he, q1, by simp only; omega, by simp only; omega⟩⟩, ?_⟩
        simp only
        rw [if_neg (by omega)]
        by_cases hl0 : left = 0
        · rw [if_pos hl0] at z1 ⊢
          omega
        · rw [if_neg hl0] at z1 ⊢
          omega
theorem Run_some (l : List SIns) (vars inp : List Int) (K : Nat) (hK : 100000000 ≤ K) : ∃ r, mach_Run.f K l vars inp = some r ∧ (r.2.Code ≠ 0 ∨ ∃ s, mach_Look.f K l = some s ∧ s.2.Code = 0 ∧
    ∀ (J : Nat → List Int → Int → Prop), J 0 [0, 0, 0, 0, 0, 0, 0, 0] 0 → (∀ (pc pc' : Nat) (cnt cnt' : List Int) (T : Int) (e : SIns) (ov : Bool), l[pc]? = some e → pc' ≤ l.length → cnt.length = 8 → (∀ c ∈ cnt, 0 ≤ c ∧ c ≤ 1000) → J pc cnt T → Moves e pc pc' ov cnt cnt' → J pc' cnt' (T + mach_Cost.f e ov)) → ∃ cnt, J l.length cnt r.1.Steps) := by
  obtain ⟨s, hs, h⟩ := Look_some l K (by omega)
  have hck : mach_Check.f K l = some s.2 := by unfold mach_Check.f; rw [hs]
  unfold mach_Run.f
  rcases h with h | ⟨h, F⟩
  · have hnew : mach_New.f K l vars inp = some (none, s.2) := by unfold mach_New.f; rw [hck]; simp only; rw [if_neg h]
    rw [hnew]
    simp only
    rw [if_neg h]
    exact ⟨_, rfl, .inl h⟩
  · have hlen := F.len
    have h0 : s.2.Code = 0 := by rw [h]
    by_cases hv : vars.length = 8
    case neg =>
      have hnew : mach_New.f K l vars inp = some (none, ⟨3, 0⟩) := by unfold mach_New.f; rw [hck]; simp only; rw [if_pos h0, if_neg (by omega)]
      rw [hnew]
      exact ⟨_, rfl, .inl (by decide)⟩
    by_cases hi : inp.length = 4
    case neg =>
      have hnew : mach_New.f K l vars inp = some (none, ⟨3, 0⟩) := by unfold mach_New.f; rw [hck]; simp only; rw [if_pos h0, if_pos (by omega), if_neg (by omega)]
      rw [hnew]
      exact ⟨_, rfl, .inl (by decide)⟩
    have hnew : mach_New.f K l vars inp = some (some ⟨l, inp, vars, [], [], [0, 0, 0, 0, 0, 0, 0, 0], 0, 0⟩, ⟨0, 0⟩) := by
      unfold mach_New.f slices_Clone_api_Ins_api_Ins.f slices_Clone_int_int.f
      rw [hck]
      simp only
      rw [if_pos h0, if_pos (by omega), if_pos (by omega), if_pos (by omega), if_pos (by omega), if_pos (by omega)]
    obtain ⟨H, hH⟩ := F.hts
    have key := fun (J : Nat → List Int → Int → Prop) h0 hst => run_rounds F hH (⟨l, inp, vars, [], [], [0, 0, 0, 0, 0, 0, 0, 0], 0, 0⟩ : PMachine) rfl hi hv K hK J h0 hst
    rw [hnew]
    simp only
    obtain ⟨r, hr, h1⟩ := key (fun _ _ _ => True) trivial (fun _ _ _ _ _ _ _ _ _ _ _ _ _ => trivial)
    have hr0 := hr
    simp only at hr0
    simp only [if_true, hr0]
    rcases h1 with ⟨T, v, p, q, c, a, b, rfl, _⟩ | ⟨x, rfl, hx⟩
    · refine ⟨_, rfl, .inr ⟨s, hs, h0, fun J j0 jst => ?_⟩⟩
      obtain ⟨r', hr', h2⟩ := key J j0 jst
      rw [hr] at hr'
      cases hr'
      rcases h2 with ⟨T', v', p', q', c', a', b', h3, h4⟩ | ⟨x, h3, _⟩
      · cases h3
        exact ⟨_, h4⟩
      · cases h3
    · exact ⟨_, rfl, .inl hx⟩
/-- no run takes longer than what is shown, and none that neither skips nor stops takes less than what is just left -/
theorem Run_bound (l : List SIns) (vars inp : List Int) (K : Nat) (hK : 100000000 ≤ K) : ∃ r, mach_Run.f K l vars inp = some r ∧ (r.2.Code ≠ 0 ∨ ∃ s, mach_Look.f K l = some s ∧ s.2.Code = 0 ∧ (∀ w R, Shows l s.1.Close w R → r.1.Steps ≤ w) ∧
    ((∀ (i : Nat) (e : SIns), l[i]? = some e → e.Op ≠ 12 ∧ e.Op ≠ 15) → ∀ R, Exact l s.1.Close R → r.1.Steps = restAt R 0)) := by
  obtain ⟨r, hr, h⟩ := Run_some l vars inp K hK
  refine ⟨r, hr, ?_⟩
  rcases h with h | ⟨s, hs, hc, h⟩
  · exact .inl h
  right
  refine ⟨s, hs, hc, ?_⟩
  obtain ⟨s1, hs1, h1⟩ := Look_some l K (by omega)
  rw [hs] at hs1
  cases hs1
  obtain ⟨s2, hs2, h2⟩ := Look_nest l K (by omega)
  rw [hs] at hs2
  cases hs2
  rcases h1 with h1 | ⟨_, F⟩
  · exact absurd hc h1
  rcases h2 with h2 | ⟨N, Lv⟩
  · exact absurd hc h2
  refine ⟨fun w R hS => ?_, fun hno R hE => ?_⟩
  · obtain ⟨cnt, hJ⟩ := h (fun pc cnt T => T + phi l s.1.Close R cnt pc ≤ w) (by rw [phi_start]; have := hS.worst; omega) (fun pc pc' cnt cnt' T e ov he hp hcl hcr hJ hM => by
      have h1 := (phi_step F N Lv hS.told hcl hcr he hp hM).1
      have h2 := hS.ge pc e he
      omega)
    rw [phi_end N R cnt hS.len] at hJ
    omega
  · obtain ⟨cnt, hJ⟩ := h (fun pc cnt T => T + phi l s.1.Close R cnt pc = restAt R 0) (by rw [phi_start]; omega) (fun pc pc' cnt cnt' T e ov he hp hcl hcr hJ hM => by
      have h1 := (phi_step F N Lv hE.told hcl hcr he hp hM).2 (hno pc e he).1 (hno pc e he).2
      have h2 := hE.is pc e he
      omega)
    rw [phi_end N R cnt hE.len] at hJ
    omega

theorem WcetMet_law (l : List SIns) (vars inp : List Int) (hl : ∀ y ∈ l, Ok.ok y) (hv : ∀ y ∈ vars, Ok.ok y) (hi : ∀ y ∈ inp, Ok.ok y) : ∃ K, WcetMet.f K l vars inp = some true := by
  refine ⟨18446744073709551616, ?_⟩
  have ht : WcetMet.p0 18446744073709551616 = some (.inl ()) := by kernel_rfl
  unfold WcetMet.f
  rw [ht]
  simp only
  by_cases h3 : (l.length : Int) > 3000
  · rw [if_pos h3]
  rw [if_neg h3]
  obtain ⟨a, ha, h1⟩ := iter_total (f := WcetMet.r1 l) (fun i => i ≤ l.length ∧ ∀ (k : Nat) (e : SIns), k < i → l[k]? = some e → e.Op ≠ 12 ∧ e.Op ≠ 15) (fun i => l.length - i) (fun r => (r = .inl () ∧ ∀ (k : Nat) (e : SIns), l[k]? = some e → e.Op ≠ 12 ∧ e.Op ≠ 15) ∨ r = .inr true) (fun i ⟨hi, hI⟩ => by
    by_cases hlt : i < l.length
    · obtain ⟨e, he⟩ : ∃ e, l[i]? = some e := ⟨l[i], List.getElem?_eq_getElem hlt⟩
      have hc : (i : Int) < (l.length : Int) := by omega
      simp only [WcetMet.r1, if_pos hc, he]
      by_cases h12 : e.Op = 12
      · rw [if_pos h12]; exact .inr ⟨_, rfl, .inr rfl⟩
      · rw [if_neg h12]
        by_cases h15 : e.Op = 15
        · rw [if_pos h15]; exact .inr ⟨_, rfl, .inr rfl⟩
        · rw [if_neg h15]
          refine .inl ⟨_, rfl, ⟨hlt, fun k f hk hf => ?_⟩, by omega⟩
          by_cases hki : k = i
          · subst hki; rw [he] at hf; cases hf; exact ⟨h12, h15⟩
          · exact hI k f (by omega) hf
    · right
      have hc : ¬ (i : Int) < (l.length : Int) := by omega
      simp only [WcetMet.r1, if_neg hc]
      exact ⟨_, rfl, .inl ⟨rfl, fun k e he => hI k e (by have := lt_of_get he; omega) he⟩⟩) 18446744073709551616 0 ⟨Nat.zero_le _, fun k e hk => by omega⟩ (by omega)
  rw [ha]
  rcases h1 with ⟨rfl, hno⟩ | rfl
  case inr => rfl
  simp only
  obtain ⟨b, hb, h2⟩ := Analyse_some l 18446744073709551616 (by decide)
  obtain ⟨r, hr, h4⟩ := Run_bound l vars inp 18446744073709551616 (by decide)
  rw [hb, hr]
  simp only
  rcases h2 with ⟨h2, _⟩ | ⟨h2, s, hs, hc, F, hE, hw⟩
  · rw [if_neg h2]
  rw [if_pos h2]
  rcases h4 with h4 | ⟨s', hs', hc', _, h5⟩
  · rw [if_neg h4]
  · rw [hs] at hs'
    cases hs'
    have h6 := h5 hno _ hE
    split
    · rw [hw, h6]; simp
    · rfl

end Go.Proofs.Ytgpolejhaglddaa.GV
