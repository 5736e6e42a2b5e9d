/- Plain words: GvLWcetLeast. -/
import Derived.Test.YtnckikjcjgmdlaaGWWcetLeast4
import Derived.Test.YtnckikjcjgmdlaaGv17
namespace Go.Proofs.Ytnckikjcjgmdlaa.GV
open Go Go.RowKit
set_option linter.unusedVariables false
set_option linter.unusedSimpArgs false
theorem SIns.eqb_self (x : SIns) : SIns.eqb x x = true := by simp [SIns.eqb]
theorem SFault.eqb_self (x : SFault) : SFault.eqb x x = true := by simp [SFault.eqb]
theorem exists_bound {α : Type} (f : α → Nat) : ∀ l : List α, ∃ B, ∀ x ∈ l, f x ≤ B
  | [] => ⟨0, by simp⟩
  | x :: l => by
    obtain ⟨B, h⟩ := exists_bound f l
    refine ⟨max (f x) B, fun y hy => ?_⟩
    rcases List.mem_cons.1 hy with rfl | hy
    · exact Nat.le_max_left _ _
    · exact Nat.le_trans (h y hy) (Nat.le_max_right _ _)
/-- a letter stands there -/
def letterAt (x : ByteArray) (i : Nat) : Bool := match x[i]? with | some b => decide (97 ≤ b.toNat) && decide (b.toNat ≤ 122) | none => false
def allL (x : ByteArray) (n : Nat) : Bool := (List.range n).all (letterAt x)
theorem allL_succ (x : ByteArray) (n : Nat) : allL x (n + 1) = (allL x n && letterAt x n) := by simp [allL, List.range_succ]
theorem allL_iff {x : ByteArray} {n : Nat} : allL x n = true ↔ ∀ i, i < n → letterAt x i = true := by simp [allL]
def Good (x : ByteArray) : Prop := 1 ≤ x.size ∧ x.size ≤ 10 ∧ allL x x.size = true
instance (x : ByteArray) : Decidable (Good x) := by unfold Good; infer_instance
theorem get!_of {x : ByteArray} {i : Nat} {b : UInt8} (h : x[i]? = some b) : x.get! i = b := by
  have hi : i < x.size := by
    rcases Nat.lt_or_ge i x.size with h' | h'
    · exact h'
    · rw [getElem?_neg x i (by omega)] at h; cases h
  rw [getElem?_pos x i hi] at h
  have := Option.some.inj h
  rw [← this]
  cases x with
  | mk bs => exact getElem!_pos bs i hi
theorem byte_some {x : ByteArray} {i : Nat} (h : i < x.size) : ∃ b, x[i]? = some b := ⟨x[i], getElem?_pos x i h⟩
theorem decode_letter {x : ByteArray} {i : Nat} (hi : i < x.size) (h : letterAt x i = true) : ∃ n : Nat, Utf8.decode x i = (n, 1) ∧ 97 ≤ n ∧ n ≤ 122 := by
  obtain ⟨b, hb⟩ := byte_some hi
  simp only [letterAt, hb, Bool.and_eq_true, decide_eq_true_eq] at h
  refine ⟨b.toNat, ?_, h⟩
  have := get!_of hb
  simp only [Utf8.decode, Nat.add_zero, this]
  rw [if_pos (by omega)]
theorem decode_other {x : ByteArray} {i : Nat} (hi : i < x.size) (h : letterAt x i = false) : (Utf8.decode x i).1 < 97 ∨ 122 < (Utf8.decode x i).1 := by
  obtain ⟨b, hb⟩ := byte_some hi
  simp only [letterAt, hb, Bool.and_eq_false_iff, decide_eq_false_iff_not] at h
  have := get!_of hb
  simp only [Utf8.decode, Nat.add_zero, this]
  have he : Utf8.runeError = 65533 := rfl
  repeat' split
  all_goals simp only [he, Bool.and_eq_true, decide_eq_true_eq, ge_iff_le] at *
  all_goals omega
theorem takedrop {α : Type} (l : List α) (i : Nat) : (l.take i).drop 0 = l.take i := by simp
theorem iter_succ {σ ρ : Type} (f : σ → Option (σ ⊕ ρ)) (K : Nat) (s : σ) : iter f (K + 1) s = match f s with | none => none | some (.inl s') => iter f K s' | some (.inr r) => some r := rfl
/-- an instruction whose numbers are operands -/
structure OkI (e : SIns) : Prop where
  op : 1 ≤ e.Op ∧ e.Op ≤ 18
  A : 0 ≤ e.A
  B : 0 ≤ e.B
  B13 : e.B ≤ 2000
  B1 : e.Op = 13 → e.B ≤ 1000
  A18 : e.Op = 18 → 1 ≤ e.A ∧ e.A ≤ 1000
theorem operand_eq (op : Int) (h : 1 ≤ op ∧ op ≤ 18) : ∃ a b, mach_operand.f op = some (a, b) ∧ b ≤ 2000 ∧ (op = 13 → b = 1000) ∧ (op = 18 → a = 1000) := by
  have : op = 1 ∨ op = 2 ∨ op = 3 ∨ op = 4 ∨ op = 5 ∨ op = 6 ∨ op = 7 ∨ op = 8 ∨ op = 9 ∨ op = 10 ∨ op = 11 ∨ op = 12 ∨ op = 13 ∨ op = 14 ∨ op = 15 ∨ op = 16 ∨ op = 17 ∨ op = 18 := by omega
  rcases this with rfl | rfl | rfl | rfl | rfl | rfl | rfl | rfl | rfl | rfl | rfl | rfl | rfl | rfl | rfl | rfl | rfl | rfl <;> exact ⟨_, _, rfl, by decide, by decide, by decide⟩
theorem fits_iff (v m : Int) : mach_fits.f v m = true ↔ 0 ≤ v ∧ v ≤ max m 0 := by
  unfold mach_fits.f gmax
  split
  · rw [decide_eq_true_eq]
    constructor
    · intro h; refine ⟨by omega, ?_⟩; split at h <;> omega
    · intro h; split <;> omega
  · constructor
    · intro h; cases h
    · intro h; omega
theorem look_ins (l : List SIns) (K : Nat) (hK : l.length < K) : ∃ r, iter (mach_Look.r0 l) K 0 = some r ∧ ((r = .inl () ∧ ∀ (i : Nat) (e : SIns), l[i]? = some e → OkI e) ∨ ∃ s, r = .inr s ∧ s.2.Code ≠ 0) := by
  obtain ⟨r, hr, h⟩ := iter_total (f := mach_Look.r0 l) (fun i => i ≤ l.length ∧ ∀ (k : Nat) (e : SIns), k < i → l[k]? = some e → OkI e) (fun i => l.length - i)
    (fun r => (r = .inl () ∧ ∀ (i : Nat) (e : SIns), l[i]? = some e → OkI e) ∨ ∃ s, r = .inr s ∧ s.2.Code ≠ 0) (fun i ⟨hi, hI⟩ => by
    by_cases hlt : i < l.length
    · obtain ⟨e, he⟩ : ∃ e, l[i]? = some e := ⟨l[i], List.getElem?_eq_getElem hlt⟩
      simp only [mach_Look.r0, he]
      rw [if_pos (by omega)]
      by_cases h1 : e.Op < 1
      · rw [if_pos h1]; exact .inr ⟨_, rfl, .inr ⟨_, rfl, by simp [mach_Look_1.f]⟩⟩
      rw [if_neg h1]
      by_cases h2 : e.Op > 18
      · rw [if_pos h2]; exact .inr ⟨_, rfl, .inr ⟨_, rfl, by simp [mach_Look_1.f]⟩⟩
      rw [if_neg h2]
      obtain ⟨a, b, ho, hb, hb13, ha18⟩ := operand_eq e.Op ⟨by omega, by omega⟩
      simp only [ho]
      by_cases h3 : mach_fits.f e.A a = true
      · rw [if_pos h3]
        by_cases h4 : mach_fits.f e.B b = true
        · rw [if_pos h4]
          rw [fits_iff] at h3 h4
          have next : (e.Op = 18 → e.A ≠ 0) → i + 1 ≤ l.length ∧ ∀ (k : Nat) (e : SIns), k < i + 1 → l[k]? = some e → OkI e := fun h5 => ⟨hlt, fun k f hk hf => by
            by_cases hki : k = i
            · subst hki
              rw [he] at hf
              cases hf
              refine ⟨⟨by omega, by omega⟩, h3.1, h4.1, by omega, fun h6 => ?_, fun h6 => ?_⟩
              · have := hb13 h6; omega
              · have := ha18 h6; have := h5 h6; omega
            · exact hI k f (by omega) hf⟩
          by_cases h5 : e.Op = 18
          · rw [if_pos h5]
            by_cases h6 : e.A = 0
            · rw [if_pos h6]; exact .inr ⟨_, rfl, .inr ⟨_, rfl, by simp [mach_Look_1.f]⟩⟩
            · rw [if_neg h6]; exact .inl ⟨_, rfl, next (fun _ => h6), by omega⟩
          · rw [if_neg h5]; exact .inl ⟨_, rfl, next (fun h => absurd h h5), by omega⟩
        · rw [if_neg h4]; exact .inr ⟨_, rfl, .inr ⟨_, rfl, by simp [mach_Look_1.f]⟩⟩
      · rw [if_neg h3]; exact .inr ⟨_, rfl, .inr ⟨_, rfl, by simp [mach_Look_1.f]⟩⟩
    · right
      simp only [mach_Look.r0]
      rw [if_neg (by omega)]
      exact ⟨_, rfl, .inl ⟨rfl, fun k e hk => hI k e (by have := lt_of_get hk; omega) hk⟩⟩) K 0 ⟨Nat.zero_le _, fun k e hk => by omega⟩ (by omega)
  exact ⟨r, hr, h⟩
/-- the region that is open -/
def topOf (open_ : List Int) : Int := open_.getLast?.getD (-1)
theorem top_eq (l : List SIns) (op inn : List Int) (m : List (Int × Int)) (hl : op.length ≤ 5000) : mach_looker_top.f l op inn m = some (topOf op) := by
  unfold mach_looker_top.f topOf
  rcases List.eq_nil_or_concat op with rfl | ⟨o, x, rfl⟩
  · rfl
  · simp only [List.concat_eq_append, List.length_append, List.length_cons, List.length_nil] at hl ⊢
    have e1 : IntKind.i64.wrap (((o.length + (0 + 1) : Nat) : Int) - 1) = (o.length : Int) := by rw [wrap64_small (by omega) (by omega)]; omega
    rw [if_neg (by omega), e1, if_pos (by omega), Int.toNat_natCast]
    simp
theorem holds_some (l : List SIns) (op inn : List Int) (m : List (Int × Int)) (x a : Int) (K : Nat) (hK : op.length < K) (ho : ∀ o ∈ op, 0 ≤ o ∧ o < (l.length : Int)) : ∃ b, mach_looker_holds.f K l op inn m x a = some b := by
  obtain ⟨r, hr, _⟩ := iter_total (f := mach_looker_holds.r0 l op x a) (fun i => i ≤ op.length) (fun i => op.length - i) (fun _ => True) (fun i hi => by
    by_cases hlt : i < op.length
    · obtain ⟨o, hoi⟩ : ∃ o, op[i]? = some o := ⟨op[i], List.getElem?_eq_getElem hlt⟩
      obtain ⟨h1, h2⟩ := ho o (List.mem_of_getElem? hoi)
      obtain ⟨e, he⟩ : ∃ e, l[o.toNat]? = some e := ⟨l[o.toNat]'(by omega), List.getElem?_eq_getElem (by omega)⟩
      simp only [mach_looker_holds.r0, hoi, he]
      rw [if_pos (by omega), if_pos h1]
      split
      · split
        · exact .inr ⟨_, rfl, trivial⟩
        · exact .inl ⟨_, rfl, hlt, by omega⟩
      · exact .inl ⟨_, rfl, hlt, by omega⟩
    · right
      simp only [mach_looker_holds.r0]
      rw [if_neg (by omega)]
      exact ⟨_, rfl, trivial⟩) K 0 (Nat.zero_le _) (by omega)
  unfold mach_looker_holds.f
  rw [hr]
  rcases r with r | r
  · exact ⟨_, rfl⟩
  · exact ⟨_, rfl⟩
theorem close_eq (l : List SIns) (o inn : List Int) (t : Int) (m : List (Int × Int)) (x : Int) (hl : o.length ≤ 4000) : mach_looker_close.f l (o ++ [t]) inn m x = some (o, mset m t x) := by
  unfold mach_looker_close.f mach_looker_close.p0
  rw [top_eq l _ inn m (by simp; omega)]
  have e1 : IntKind.i64.wrap (((o ++ [t]).length : Int) - 1) = (o.length : Int) := by
    simp only [List.length_append, List.length_cons, List.length_nil]
    rw [wrap64_small (by omega) (by omega)]; omega
  simp only [e1, Int.toNat_natCast]
  rw [if_pos (by omega), if_pos (by simp)]
  simp [topOf]
/-- what is known of regions ahead of an instruction -/
structure Regs (l : List SIns) (i : Nat) (op inn : List Int) (m : List (Int × Int)) : Prop where
  len : inn.length = l.length
  open_ : ∀ o ∈ op, ∃ (k : Nat) (e : SIns), o = (k : Int) ∧ k < i ∧ l[k]? = some e ∧ (e.Op = 13 ∨ e.Op = 16)
  up : op.Pairwise (fun a b : Int => a < b)
  small : op.length ≤ i
  shut : ∀ (k : Nat) (e : SIns), k < i → l[k]? = some e → (e.Op = 13 ∨ e.Op = 16) → (k : Int) ∈ op ∨ ∃ c : Nat, mget m (k : Int) = some (c : Int) ∧ k < c ∧ c < i
  back : ∀ (k : Nat) (e : SIns), k < i → l[k]? = some e → e.Op = 14 → 0 ≤ e.B ∧ e.B ≤ (l.length : Int)
theorem mget_mset' (m : List (Int × Int)) (k k' v : Int) : mget (mset m k v) k' = if k' = k then some v else mget m k' := by
  induction m with
  | nil => simp only [mset, mget]
  | cons a r ih =>
    obtain ⟨a, b⟩ := a
    simp only [mset]
    by_cases h : k = a
    · subst h
      simp only [if_true, mget]
      by_cases h2 : k' = k
      · rw [if_pos h2, if_pos h2]
      · rw [if_neg h2, if_neg h2, if_neg h2]
    · rw [if_neg h]
      simp only [mget, ih]
      by_cases h2 : k' = a
      · rw [if_pos h2, if_neg (fun e => h (e.symm.trans h2)), if_pos h2]
      · rw [if_neg h2, if_neg h2]
theorem region_step (l : List SIns) (i : Nat) (op inn : List Int) (m : List (Int × Int)) (h : Regs l i op inn m) (hi : i < l.length) (hl : l.length ≤ 2000) (K : Nat) (hK : 4000 < K) : ∃ c op' inn' m', mach_looker_region.f K l op inn m (i : Int) = some (c, op', inn', m') ∧ (c = 0 → Regs l (i + 1) op' inn' m') := by
  obtain ⟨e, he⟩ : ∃ e, l[i]? = some e := ⟨l[i], List.getElem?_eq_getElem hi⟩
  have hop := h.small
  have hp0 : mach_looker_region.p0 l op inn m (i : Int) = some (.inl (topOf op, e.Op, e.A, e.B)) := by
    unfold mach_looker_region.p0
    rw [if_pos (by omega)]
    simp only [Int.toNat_natCast, he, top_eq l op inn m (by omega)]
  obtain ⟨y, hy⟩ : ∃ y, inn[i]? = some y := ⟨inn[i]'(by rw [h.len]; exact hi), List.getElem?_eq_getElem (by rw [h.len]; exact hi)⟩
  have hlen : (inn.set i (topOf op)).length = l.length := by rw [List.length_set]; exact h.len
  have hob : ∀ o ∈ op, 0 ≤ o ∧ o < (l.length : Int) := fun o ho => by
    obtain ⟨k, e', rfl, hk, _⟩ := h.open_ o ho
    omega
  have hhold := fun x a => holds_some l op (inn.set i (topOf op)) m x a K (by omega) hob
  -- one that opens none and closes none
  have stay : (e.Op ≠ 13 ∧ e.Op ≠ 16 ∧ e.Op ≠ 14) → Regs l (i + 1) op (inn.set i (topOf op)) m := fun hne => ⟨hlen, fun o ho => by
      obtain ⟨k, e', h1, h2, h3⟩ := h.open_ o ho
      exact ⟨k, e', h1, by omega, h3⟩, h.up, by omega, fun k f hk hf hfo => by
      by_cases hki : k = i
      · subst hki; rw [he] at hf; cases hf; omega
      · rcases h.shut k f (by omega) hf hfo with h1 | ⟨c, h1, h2, h3⟩
        · exact .inl h1
        · exact .inr ⟨c, h1, h2, by omega⟩, fun k f hk hf hf14 => by
      by_cases hki : k = i
      · subst hki; rw [he] at hf; cases hf; omega
      · exact h.back k f (by omega) hf hf14⟩
  -- one that opens one
  have opens : (e.Op = 13 ∨ e.Op = 16) → Regs l (i + 1) (op ++ [(i : Int)]) (inn.set i (topOf op)) m := fun ho => ⟨hlen, fun o ho' => by
      rcases List.mem_append.1 ho' with h1 | h1
      · obtain ⟨k, e', h1, h2, h3⟩ := h.open_ o h1
        exact ⟨k, e', h1, by omega, h3⟩
      · exact ⟨i, e, List.mem_singleton.1 h1, by omega, he, ho⟩, List.pairwise_append.2 ⟨h.up, by simp, fun a ha b hb => by
      rw [List.mem_singleton.1 hb]
      obtain ⟨k, _, rfl, hk, _⟩ := h.open_ a ha
      omega⟩, by simp; omega, fun k f hk hf hfo => by
      by_cases hki : k = i
      · subst hki; exact .inl (by simp)
      · rcases h.shut k f (by omega) hf hfo with h1 | ⟨c, h1, h2, h3⟩
        · exact .inl (by simp [h1])
        · exact .inr ⟨c, h1, h2, by omega⟩, fun k f hk hf hf14 => by
      by_cases hki : k = i
      · subst hki; rw [he] at hf; cases hf; omega
      · exact h.back k f (by omega) hf hf14⟩
  -- one that closes one
  have closes : ∀ (o : List Int) (t : Int), op = o ++ [t] → (e.Op = 14 ∧ e.B = t + 1 ∨ e.Op = 17) → Regs l (i + 1) o (inn.set i (topOf op)) (mset m t (i : Int)) := fun o t hot hco => by
    subst hot
    obtain ⟨kt, et, rfl, hkt, _, _⟩ := h.open_ t (by simp)
    have hup := List.pairwise_append.1 h.up
    refine ⟨hlen, fun o' ho' => by
      obtain ⟨k, e', h1, h2, h3⟩ := h.open_ o' (by simp [ho'])
      exact ⟨k, e', h1, by omega, h3⟩, hup.1, by simp at hop; omega, fun k f hk hf hfo => ?_, fun k f hk hf hf14 => ?_⟩
    · rw [mget_mset']
      by_cases hki : k = i
      · subst hki; rw [he] at hf; cases hf; omega
      · rcases h.shut k f (by omega) hf hfo with h1 | ⟨c, h1, h2, h3⟩
        · rcases List.mem_append.1 h1 with h1 | h1
          · exact .inl h1
          · have := List.mem_singleton.1 h1
            rw [if_pos this]
            exact .inr ⟨i, rfl, by omega, by omega⟩
        · by_cases hkt' : (k : Int) = (kt : Int)
          · rw [if_pos hkt']
            exact .inr ⟨i, rfl, by omega, by omega⟩
          · rw [if_neg hkt']
            exact .inr ⟨c, h1, h2, by omega⟩
    · by_cases hki : k = i
      · subst hki; rw [he] at hf; cases hf
        rcases hco with ⟨_, h1⟩ | h1
        · omega
        · omega
      · exact h.back k f (by omega) hf hf14
  have hneg : ∀ {c : Int} {op' inn' : List Int} {m' : List (Int × Int)}, c ≠ 0 → (∃ c' op'' inn'' m'', (some (c, op', inn', m') : Option (Int × List Int × List Int × List (Int × Int))) = some (c', op'', inn'', m'') ∧ (c' = 0 → Regs l (i + 1) op'' inn'' m'')) := fun hc => ⟨_, _, _, _, rfl, fun h => absurd h hc⟩
  have htop : ∀ {z : Int}, topOf op = z → ¬ z < 0 → ∃ o, op = o ++ [z] := fun {z} hz h0 => by
    rcases List.eq_nil_or_concat op with rfl | ⟨o, t, rfl⟩
    · simp [topOf] at hz; omega
    · rw [List.concat_eq_append] at hz ⊢
      simp [topOf] at hz
      exact ⟨o, by rw [hz]⟩
  generalize hz : topOf op = z at *
  unfold mach_looker_region.f
  rw [hp0]
  simp only [Int.toNat_natCast, hy]
  rw [if_pos (by omega)]
  by_cases h13 : e.Op = 13
  · have hp1 : mach_looker_region.p1 e.Op = some (.inl true) := by unfold mach_looker_region.p1; rw [if_pos h13]
    obtain ⟨b, hb⟩ := hhold e.Op e.A
    simp only [hp1, if_true, hb]
    split
    · exact hneg (by decide)
    · rw [if_pos (by omega)]
      exact ⟨_, _, _, _, rfl, fun _ => opens (.inl h13)⟩
  by_cases h16 : e.Op = 16
  · have hp1 : mach_looker_region.p1 e.Op = some (.inl true) := by unfold mach_looker_region.p1; rw [if_neg h13, h16]; rfl
    obtain ⟨b, hb⟩ := hhold e.Op e.A
    simp only [hp1, if_true, hb]
    split
    · exact hneg (by decide)
    · rw [if_pos (by omega)]
      exact ⟨_, _, _, _, rfl, fun _ => opens (.inr h16)⟩
  have hp1 : mach_looker_region.p1 e.Op = some (.inl false) := by
    unfold mach_looker_region.p1
    rw [if_neg h13]
    have : (e.Op == 16) = false := by simpa using h16
    rw [this]
  simp only [hp1]
  rw [if_neg (by decide)]
  by_cases h14 : e.Op = 14
  · rw [if_pos h14]
    by_cases hz0 : z < 0
    · rw [if_pos hz0]; exact hneg (by decide)
    rw [if_neg hz0, if_pos (by omega)]
    obtain ⟨o, rfl⟩ := htop rfl hz0
    obtain ⟨kt, et, hkt0, hkt, het, _⟩ := h.open_ z (by simp)
    subst hkt0
    simp only [Int.toNat_natCast, het]
    split
    · split
      · split
        · rename_i hB
          rw [close_eq l o _ _ m _ (by simp at hop; omega)]
          rw [wrap64_small (by omega) (by omega)] at hB
          exact ⟨_, _, _, _, rfl, fun _ => closes o _ rfl (.inl ⟨h14, hB⟩)⟩
        · exact hneg (by decide)
      · exact hneg (by decide)
    · exact hneg (by decide)
  rw [if_neg h14]
  by_cases h17 : e.Op = 17
  · rw [if_pos h17]
    by_cases hz0 : z < 0
    · rw [if_pos hz0]; exact hneg (by decide)
    rw [if_neg hz0, if_pos (by omega)]
    obtain ⟨o, rfl⟩ := htop rfl hz0
    obtain ⟨kt, et, hkt0, hkt, het, _⟩ := h.open_ z (by simp)
    subst hkt0
    simp only [Int.toNat_natCast, het]
    split
    · split
      · rw [close_eq l o _ _ m _ (by simp at hop; omega)]
        exact ⟨_, _, _, _, rfl, fun _ => closes o _ rfl (.inr h17)⟩
      · exact hneg (by decide)
    · exact hneg (by decide)
  rw [if_neg h17]
  by_cases h15 : e.Op = 15
  · rw [if_pos h15]
    obtain ⟨b, hb⟩ := hhold 13 e.A
    simp only [hb]
    split
    · exact ⟨_, _, _, _, rfl, fun _ => stay ⟨h13, h16, h14⟩⟩
    · exact hneg (by decide)
  · rw [if_neg h15]
    exact ⟨_, _, _, _, rfl, fun _ => stay ⟨h13, h16, h14⟩⟩
theorem look_regions (l : List SIns) (K : Nat) (hl : l.length ≤ 2000) (hK : 4000 < K) : ∃ r, iter (mach_Look.r1 K l) K (0, [], List.replicate l.length 0, []) = some r ∧ ((∃ op inn m, r = .inl (op, inn, m) ∧ Regs l l.length op inn m) ∨ ∃ s, r = .inr s ∧ s.2.Code ≠ 0) := by
  refine iter_total (f := mach_Look.r1 K l) (fun s => s.1 ≤ l.length ∧ Regs l s.1 s.2.1 s.2.2.1 s.2.2.2) (fun s => l.length - s.1) _ (fun s ⟨hi, hI⟩ => ?_) K _ ⟨Nat.zero_le _, ⟨by simp, by simp, by simp, by simp, fun k f hk => by simp at hk, fun k f hk => by simp at hk⟩⟩ (by simp only; omega)
  obtain ⟨i, op, inn, m⟩ := s
  simp only at hi hI ⊢
  by_cases hlt : i < l.length
  · obtain ⟨c, op', inn', m', h1, h2⟩ := region_step l i op inn m hI hlt hl K hK
    simp only [mach_Look.r1, h1]
    rw [if_pos (by omega)]
    by_cases hc : c = 0
    · rw [if_pos hc]
      exact .inl ⟨_, rfl, ⟨hlt, h2 hc⟩, by simp only; omega⟩
    · rw [if_neg hc]
      exact .inr ⟨_, rfl, .inr ⟨_, rfl, by simpa [mach_Look_1.f] using hc⟩⟩
  · right
    obtain rfl : i = l.length := by omega
    simp only [mach_Look.r1]
    rw [if_neg (by omega)]
    exact ⟨_, rfl, .inl ⟨_, _, _, rfl, hI⟩⟩
/-- jumps go on -/
def Jump (l : List SIns) : Prop := ∀ (k : Nat) (e : SIns), l[k]? = some e → (e.Op = 11 ∨ e.Op = 12) → (k : Int) < e.A ∧ e.A ≤ (l.length : Int)
theorem look_jumps (l : List SIns) (inn : List Int) (hin : inn.length = l.length) (hok : ∀ (i : Nat) (e : SIns), l[i]? = some e → OkI e) (K : Nat) (hK : l.length < K) : ∃ r, iter (mach_Look.r2 l inn) K 0 = some r ∧ ((r = .inl () ∧ Jump l) ∨ ∃ s, r = .inr s ∧ s.2.Code ≠ 0) := by
  refine iter_total (f := mach_Look.r2 l inn) (fun i => i ≤ l.length ∧ ∀ (k : Nat) (e : SIns), k < i → l[k]? = some e → (e.Op = 11 ∨ e.Op = 12) → (k : Int) < e.A ∧ e.A ≤ (l.length : Int)) (fun i => l.length - i) _ (fun i ⟨hi, hI⟩ => ?_) K 0 ⟨Nat.zero_le _, fun k e hk => by omega⟩ (by omega)
  by_cases hlt : i < l.length
  · obtain ⟨e, he⟩ : ∃ e, l[i]? = some e := ⟨l[i], List.getElem?_eq_getElem hlt⟩
    have ho := hok i e he
    have hA := ho.A
    have next : ((e.Op = 11 ∨ e.Op = 12) → (i : Int) < e.A ∧ e.A ≤ (l.length : Int)) → i + 1 ≤ l.length ∧ ∀ (k : Nat) (f : SIns), k < i + 1 → l[k]? = some f → (f.Op = 11 ∨ f.Op = 12) → (k : Int) < f.A ∧ f.A ≤ (l.length : Int) := fun h => ⟨hlt, fun k f hk hf hop => by
      by_cases hki : k = i
      · subst hki; rw [he] at hf; cases hf; exact h hop
      · exact hI k f (by omega) hf hop⟩
    have hfault : ∀ {x : SShape} {c a : Int}, c ≠ 0 → (∃ s', (some (Sum.inr (Sum.inr (x, (⟨c, a⟩ : SFault)))) : Option (Nat ⊕ (Unit ⊕ (SShape × SFault)))) = some (.inl s') ∧ (s' ≤ l.length ∧ ∀ (k : Nat) (e : SIns), k < s' → l[k]? = some e → (e.Op = 11 ∨ e.Op = 12) → (k : Int) < e.A ∧ e.A ≤ (l.length : Int)) ∧ l.length - s' < l.length - i) ∨ ∃ r, (some (Sum.inr (Sum.inr (x, (⟨c, a⟩ : SFault)))) : Option (Nat ⊕ (Unit ⊕ (SShape × SFault)))) = some (.inr r) ∧ ((r = .inl () ∧ Jump l) ∨ ∃ s, r = .inr s ∧ s.2.Code ≠ 0) :=
      fun hc => .inr ⟨_, rfl, .inr ⟨_, rfl, hc⟩⟩
    obtain ⟨y, hy⟩ : ∃ y, inn[i]? = some y := ⟨inn[i]'(by omega), List.getElem?_eq_getElem (by omega)⟩
    have hlx : e.A < (l.length : Int) → ∃ y, inn[e.A.toNat]? = some y := fun h => ⟨inn[e.A.toNat]'(by omega), List.getElem?_eq_getElem (by omega)⟩
    simp only [mach_Look.r2, he, hy, mach_Look_1.f]
    rw [if_pos (by omega)]
    by_cases hAl : e.A < (l.length : Int)
    · obtain ⟨x, hx⟩ := hlx hAl
      simp only [hx, if_pos hAl, if_pos hA]
      by_cases h11 : e.Op = 11
      · rw [if_pos h11]
        split
        · exact hfault (by decide)
        · split
          · exact hfault (by decide)
          · split
            · exact .inl ⟨_, rfl, next (fun _ => by omega), by omega⟩
            · exact hfault (by decide)
      · rw [if_neg h11]
        by_cases h12 : e.Op = 12
        · rw [if_pos h12]
          split
          · exact hfault (by decide)
          · split
            · exact hfault (by decide)
            · split
              · exact .inl ⟨_, rfl, next (fun _ => by omega), by omega⟩
              · exact hfault (by decide)
        · rw [if_neg h12]
          exact .inl ⟨_, rfl, next (fun h => by omega), by omega⟩
    · simp only [if_neg hAl]
      by_cases h11 : e.Op = 11
      · rw [if_pos h11]
        split
        · exact hfault (by decide)
        · split
          · exact hfault (by decide)
          · split
            · exact .inl ⟨_, rfl, next (fun _ => by omega), by omega⟩
            · exact hfault (by decide)
      · rw [if_neg h11]
        by_cases h12 : e.Op = 12
        · rw [if_pos h12]
          split
          · exact hfault (by decide)
          · split
            · exact hfault (by decide)
            · split
              · exact .inl ⟨_, rfl, next (fun _ => by omega), by omega⟩
              · exact hfault (by decide)
        · rw [if_neg h12]
          exact .inl ⟨_, rfl, next (fun h => by omega), by omega⟩
  · right
    simp only [mach_Look.r2]
    rw [if_neg (by omega)]
    exact ⟨_, rfl, .inl ⟨rfl, fun k e hk => hI k e (by have := lt_of_get hk; omega) hk⟩⟩
theorem to_some (x h : Int) (m : List Int) (n : Nat) (hm : m.length = n + 1) (hx : 0 ≤ x ∧ x ≤ (n : Int)) : ∃ b m', mach_heights_1.f x h m = some (b, m') ∧ m'.length = n + 1 := by
  obtain ⟨y, hy⟩ : ∃ y, m[x.toNat]? = some y := ⟨m[x.toNat]'(by omega), List.getElem?_eq_getElem (by omega)⟩
  have hs : (m.set x.toNat h)[x.toNat]? = some h := by rw [List.getElem?_set_self (by omega)]
  simp only [mach_heights_1.f, hy, hs]
  rw [if_pos hx.1]
  split
  · exact ⟨_, _, rfl, by rw [List.length_set]; exact hm⟩
  · exact ⟨_, _, rfl, hm⟩
theorem p2_some (l : List SIns) (m : List Int) (e : SIns) (y : Int) (hm : m.length = l.length + 1) (hA : (e.Op = 11 ∨ e.Op = 12) → 0 ≤ e.A ∧ e.A ≤ (l.length : Int)) : ∃ q m', mach_heights.p2 m e y = some (.inl (q, m')) ∧ m'.length = l.length + 1 := by
  unfold mach_heights.p2
  by_cases h11 : e.Op = 11
  · rw [if_pos h11]
    split
    · obtain ⟨b, m', h1, h2⟩ := to_some e.A (IntKind.i64.wrap (y + (IntKind.i64.wrap (((mach_pops.f e.Op).2) - ((mach_pops.f e.Op).1))))) m l.length hm (hA (.inl h11))
      rw [h1]
      exact ⟨_, _, rfl, h2⟩
    · exact ⟨_, _, rfl, hm⟩
  · rw [if_neg h11]
    by_cases h12 : e.Op = 12
    · rw [if_pos h12]
      split
      · obtain ⟨b, m', h1, h2⟩ := to_some e.A (IntKind.i64.wrap (y + (IntKind.i64.wrap (((mach_pops.f e.Op).2) - ((mach_pops.f e.Op).1))))) m l.length hm (hA (.inr h12))
        rw [h1]
        exact ⟨_, _, rfl, h2⟩
      · exact ⟨_, _, rfl, hm⟩
    · rw [if_neg h12]
      exact ⟨_, _, rfl, hm⟩
theorem heights_step (l : List SIns) (hl : l.length ≤ 2000) (i : Nat) (hi : i < l.length) (m : List Int) (hm : m.length = l.length + 1) (hA : ∀ e, l[i]? = some e → (e.Op = 11 ∨ e.Op = 12) → 0 ≤ e.A ∧ e.A ≤ (l.length : Int)) (hB : ∀ e, l[i]? = some e → e.Op = 14 → 0 ≤ e.B ∧ e.B ≤ (l.length : Int)) :
    (∃ m', mach_heights.r1 l (i, m) = some (.inl (i + 1, m')) ∧ m'.length = l.length + 1) ∨ ∃ s : SFault, mach_heights.r1 l (i, m) = some (.inr (.inr s)) ∧ s.Code ≠ 0 := by
  obtain ⟨e, he⟩ : ∃ e, l[i]? = some e := ⟨l[i], List.getElem?_eq_getElem hi⟩
  obtain ⟨y, hy⟩ : ∃ y, m[i]? = some y := ⟨m[i]'(by omega), List.getElem?_eq_getElem (by omega)⟩
  have hA := hA e he
  have hB := hB e he
  simp only [mach_heights.r1, he, hy]
  rw [if_pos (by omega)]
  by_cases h0 : y < 0
  · rw [if_pos h0]; exact .inr ⟨_, rfl, by simp⟩
  rw [if_neg h0]
  have hp3 : mach_heights.p3 m e = some (.inl (false, m)) := by
    unfold mach_heights.p3
    split
    · rfl
    · split <;> rfl
  obtain ⟨q, m', hp2, hm'⟩ := p2_some l m e y hm hA
  by_cases hp : y ≥ (mach_pops.f e.Op).1
  · rw [if_pos hp, hp2]
    simp only
    by_cases h14 : e.Op = 14
    · have h11 : ¬ e.Op = 11 := by omega
      rw [if_pos h14]
      by_cases hq : q = true
      · obtain ⟨b1, b2⟩ := hB h14
        obtain ⟨x, hx⟩ : ∃ x, m'[e.B.toNat]? = some x := ⟨m'[e.B.toNat]'(by omega), List.getElem?_eq_getElem (by omega)⟩
        rw [if_pos hq, if_pos b1, hx]
        simp only
        rw [if_neg h11]
        split
        · obtain ⟨b, m2, h1, h2⟩ := to_some ((i + 1 : Nat) : Int) (IntKind.i64.wrap (y + (IntKind.i64.wrap (((mach_pops.f e.Op).2) - ((mach_pops.f e.Op).1))))) m' l.length hm' ⟨by omega, by omega⟩
          rw [h1]
          simp only
          split
          · exact .inl ⟨_, rfl, h2⟩
          · exact .inr ⟨_, rfl, by simp⟩
        · exact .inr ⟨_, rfl, by simp⟩
      · rw [if_neg hq, if_neg h11]; exact .inr ⟨_, rfl, by simp⟩
    · rw [if_neg h14]
      by_cases h11 : e.Op = 11
      · rw [if_pos h11]
        split
        · exact .inl ⟨_, rfl, hm'⟩
        · exact .inr ⟨_, rfl, by simp⟩
      · rw [if_neg h11]
        split
        · obtain ⟨b, m2, h1, h2⟩ := to_some ((i + 1 : Nat) : Int) (IntKind.i64.wrap (y + (IntKind.i64.wrap (((mach_pops.f e.Op).2) - ((mach_pops.f e.Op).1))))) m' l.length hm' ⟨by omega, by omega⟩
          rw [h1]
          simp only
          split
          · exact .inl ⟨_, rfl, h2⟩
          · exact .inr ⟨_, rfl, by simp⟩
        · exact .inr ⟨_, rfl, by simp⟩
  · rw [if_neg hp, hp3]
    simp only
    by_cases h14 : e.Op = 14
    · have h11 : ¬ e.Op = 11 := by omega
      rw [if_pos h14, if_neg (by decide), if_neg h11]; exact .inr ⟨_, rfl, by simp⟩
    · rw [if_neg h14]
      by_cases h11 : e.Op = 11
      · rw [if_pos h11, if_neg (by decide)]; exact .inr ⟨_, rfl, by simp⟩
      · rw [if_neg h11, if_neg (by decide)]; exact .inr ⟨_, rfl, by simp⟩
theorem heights_some (l : List SIns) (hl : l.length ≤ 2000) (hJ : Jump l) (hB : ∀ (k : Nat) (e : SIns), l[k]? = some e → e.Op = 14 → 0 ≤ e.B ∧ e.B ≤ (l.length : Int)) (K : Nat) (hK : 4000 < K) : ∃ r, mach_heights.f K l = some r ∧ (r.Code ≠ 0 ∨ r = ⟨0, 0⟩) := by
  have e0 : IntKind.i64.wrap ((l.length : Int) + 1) = ((l.length + 1 : Nat) : Int) := by rw [wrap64_small (by omega) (by omega)]; omega
  obtain ⟨r0, hr0, m0, rfl, hm0⟩ := iter_total (f := mach_heights.r0 l) (fun s => ∃ i : Nat, s.1 = (i : Int) ∧ i ≤ l.length + 1 ∧ s.2.length = l.length + 1) (fun s => (l.length + 1 - s.1.toNat)) (fun r => ∃ m : List Int, r = .inl m ∧ m.length = l.length + 1) (fun s ⟨i, h1, h2, h3⟩ => by
    obtain ⟨z, m⟩ := s
    simp only at h1 h3
    subst h1
    simp only [mach_heights.r0, e0, Int.toNat_natCast, List.length_replicate]
    by_cases hlt : i < l.length + 1
    · obtain ⟨y, hy⟩ : ∃ y, m[i]? = some y := ⟨m[i]'(by omega), List.getElem?_eq_getElem (by omega)⟩
      have e1 : IntKind.i64.wrap ((i : Int) + 1) = ((i + 1 : Nat) : Int) := by rw [wrap64_small (by omega) (by omega)]; omega
      simp only [hy, e1]
      rw [if_pos (by omega), if_pos (by omega)]
      exact .inl ⟨_, rfl, ⟨i + 1, rfl, by omega, by simp only [List.length_set]; exact h3⟩, by simp only; omega⟩
    · rw [if_neg (by omega)]
      exact .inr ⟨_, rfl, m, rfl, h3⟩) K (0, List.replicate (l.length + 1) 0) ⟨0, rfl, by omega, by simp⟩ (by simp; omega)
  obtain ⟨r1, hr1, h1⟩ := iter_total (f := mach_heights.r1 l) (fun s => s.1 ≤ l.length ∧ s.2.length = l.length + 1) (fun s => l.length - s.1) (fun r => (∃ m : List Int, r = .inl m ∧ m.length = l.length + 1) ∨ ∃ s : SFault, r = .inr s ∧ s.Code ≠ 0) (fun s ⟨hi, hm⟩ => by
    obtain ⟨i, m⟩ := s
    simp only at hi hm
    by_cases hlt : i < l.length
    · have hlast := fun (e : SIns) (he : l[i]? = some e) (ho : e.Op = 11 ∨ e.Op = 12) => (by have := hJ i e he ho; omega : 0 ≤ e.A ∧ e.A ≤ (l.length : Int))
      rcases heights_step l hl i hlt m hm hlast (fun e he h14 => hB i e he h14) with ⟨m', h1, h2⟩ | ⟨s, h1, h2⟩
      · exact .inl ⟨_, h1, ⟨by simp only; omega, h2⟩, by simp only; omega⟩
      · exact .inr ⟨_, h1, .inr ⟨s, rfl, h2⟩⟩
    · right
      simp only [mach_heights.r1]
      rw [if_neg (by omega)]
      exact ⟨_, rfl, .inl ⟨m, rfl, hm⟩⟩) K (0, m0.set 0 0) ⟨Nat.zero_le _, by simpa using hm0⟩ (by simp only; omega)
  obtain ⟨y0, hy0⟩ : ∃ y, m0[0]? = some y := ⟨m0[0]'(by omega), List.getElem?_eq_getElem (by omega)⟩
  unfold mach_heights.f
  simp only [e0, Int.toNat_natCast]
  rw [if_pos (by omega), if_pos (by omega), hr0]
  simp only [hy0, hr1]
  rcases h1 with ⟨m, rfl, hm⟩ | ⟨s, rfl, hs⟩
  · obtain ⟨y, hy⟩ : ∃ y, m[l.length]? = some y := ⟨m[l.length]'(by omega), List.getElem?_eq_getElem (by omega)⟩
    simp only [hy]
    split
    · exact ⟨_, rfl, .inl (by simp)⟩
    · exact ⟨_, rfl, .inr rfl⟩
  · exact ⟨s, rfl, .inl hs⟩
/-- what Look's OK says -/
structure Facts (l : List SIns) (m : List (Int × Int)) : Prop where
  len : l.length ≤ 2000
  ok : ∀ (i : Nat) (e : SIns), l[i]? = some e → OkI e
  jump : Jump l
  shut : ∀ (k : Nat) (e : SIns), l[k]? = some e → (e.Op = 13 ∨ e.Op = 16) → (k : Int) < (mget m (k : Int)).getD 0 ∧ (mget m (k : Int)).getD 0 < (l.length : Int)
theorem Look_some (l : List SIns) (K : Nat) (hK : 4000 < K) : ∃ r, mach_Look.f K l = some r ∧ (r.2.Code ≠ 0 ∨ (r.2 = ⟨0, 0⟩ ∧ Facts l r.1.Close)) := by
  unfold mach_Look.f
  by_cases hn : (l.length : Int) > 2000
  · rw [if_pos hn]; exact ⟨_, rfl, .inl (by simp [mach_Look_1.f])⟩
  rw [if_neg hn]
  obtain ⟨r, hr, h⟩ := look_ins l K (by omega)
  rw [hr]
  rcases h with ⟨rfl, hok⟩ | ⟨s, rfl, hs⟩
  case inr => exact ⟨s, rfl, .inl hs⟩
  simp only
  rw [if_pos (by omega)]
  obtain ⟨r1, hr1, h1⟩ := look_regions l K (by omega) hK
  rw [hr1]
  rcases h1 with ⟨op, inn, m, rfl, hR⟩ | ⟨s, rfl, hs⟩
  case inr => exact ⟨s, rfl, .inl hs⟩
  simp only
  rcases op with _ | ⟨o, op⟩
  case cons =>
    obtain ⟨k, e, rfl, hk, he, _⟩ := hR.open_ o (by simp)
    rw [if_pos (by simp)]
    simp only [List.getElem?_cons_zero, Int.toNat_natCast, he]
    rw [if_pos (by omega)]
    split
    · exact ⟨_, rfl, .inl (by simp [mach_Look_1.f])⟩
    · exact ⟨_, rfl, .inl (by simp [mach_Look_1.f])⟩
  rw [if_neg (by simp)]
  obtain ⟨r2, hr2, h2⟩ := look_jumps l inn hR.len hok K (by omega)
  rw [hr2]
  rcases h2 with ⟨rfl, hJ⟩ | ⟨s, rfl, hs⟩
  case inr => exact ⟨s, rfl, .inl hs⟩
  simp only
  obtain ⟨r3, hr3, h3⟩ := heights_some l (by omega) hJ (fun k e he h14 => hR.back k e (lt_of_get he) he h14) K hK
  rw [hr3]
  simp only
  rcases h3 with h3 | rfl
  · rw [if_neg h3]; exact ⟨_, rfl, .inl h3⟩
  · rw [if_pos rfl]
    refine ⟨_, rfl, .inr ⟨rfl, by omega, hok, hJ, fun k e he ho => ?_⟩⟩
    rcases hR.shut k e (lt_of_get he) he ho with h4 | ⟨c, h4, h5, h6⟩
    · cases h4
    · simp only [h4, Option.getD_some]
      omega

/-- what is left from i on, of a list; nothing behind its end -/
def restAt (R : List Int) (i : Nat) : Int := (R[i]?).getD 0
/-- what is left at least from instruction i on, by what is left from others -/
def needOf (m : List (Int × Int)) (R : List Int) (i : Nat) (e : SIns) : Int :=
  if e.Op = 14 then 0
  else if e.Op = 17 then 1
  else if e.Op = 11 then 2 + restAt R e.A.toNat
  else if e.Op = 12 then max (2 + restAt R e.A.toNat) (1 + restAt R (i + 1))
  else if e.Op = 13 then (e.B + 1) * restAt R (i + 1) + 2 * e.B + 2 + restAt R (((mget m (i : Int)).getD 0).toNat + 1)
  else if e.Op = 16 then 1 + restAt R (i + 1) + restAt R (((mget m (i : Int)).getD 0).toNat + 1)
  else mach_Cost.f e false + restAt R (i + 1)
theorem at_eq (R : List Int) (x : Int) (hx : 0 ≤ x) : wcet_at_1.f x R = some (restAt R x.toNat) := by
  unfold wcet_at_1.f restAt
  split
  · rw [List.getElem?_eq_none (by omega)]; rfl
  · rw [List.getElem?_eq_getElem (by omega)]; rfl
theorem cost_range {e : SIns} (h : OkI e) (b : Bool) : 1 ≤ mach_Cost.f e b ∧ mach_Cost.f e b ≤ 1000 := by
  unfold mach_Cost.f
  repeat' split
  all_goals first | omega | (have := h.A18 (by assumption); omega)
/-- the numbers behind i are such as may be told -/
def Told (R : List Int) (i : Nat) : Prop := ∀ j, i < j → 0 ≤ restAt R j ∧ restAt R j ≤ 1099511627776
theorem need_eq {l : List SIns} {m : List (Int × Int)} (F : Facts l m) {inn R : List Int} {i : Nat} {e : SIns} (he : l[i]? = some e) (hT : Told R i) : wcet_need.f l inn m R (i : Int) = some (needOf m R i e) ∧ 0 ≤ needOf m R i e := by
  have hi := lt_of_get he
  have hlen := F.len
  have ho := F.ok i e he
  have hA := ho.A
  have hB := ho.B
  have e1 : IntKind.i64.wrap ((i : Int) + 1) = ((i + 1 : Nat) : Int) := by rw [wrap64_small (by omega) (by omega)]; omega
  have a1 : wcet_at_1.f ((i + 1 : Nat) : Int) R = some (restAt R (i + 1)) := by
    have := at_eq R ((i + 1 : Nat) : Int) (by omega)
    rwa [Int.toNat_natCast] at this
  have t1 := hT (i + 1) (by omega)
  have c0 := cost_range ho false
  have c1 := cost_range ho true
  unfold wcet_need.f needOf
  rw [if_pos (by omega)]
  simp only [Int.toNat_natCast, he, e1, a1]
  by_cases h14 : e.Op = 14
  · rw [if_pos h14, if_pos h14]; exact ⟨rfl, by omega⟩
  rw [if_neg h14, if_neg h14]
  by_cases h17 : e.Op = 17
  · rw [if_pos h17, if_pos h17]; exact ⟨rfl, by omega⟩
  rw [if_neg h17, if_neg h17]
  by_cases h11 : e.Op = 11
  · rw [if_pos h11, if_pos h11, at_eq R e.A hA]
    have hj := F.jump i e he (.inl h11)
    have t2 := hT e.A.toNat (by omega)
    have : mach_Cost.f e true = 2 := by simp [mach_Cost.f, h11]
    simp only [this]
    rw [wrap64_small (by omega) (by omega)]
    exact ⟨rfl, by omega⟩
  rw [if_neg h11, if_neg h11]
  by_cases h12 : e.Op = 12
  · rw [if_pos h12, if_pos h12, at_eq R e.A hA]
    have hj := F.jump i e he (.inr h12)
    have t2 := hT e.A.toNat (by omega)
    have k1 : mach_Cost.f e true = 2 := by simp [mach_Cost.f, h12]
    have k2 : mach_Cost.f e false = 1 := by simp [mach_Cost.f, h12]
    simp only [k1, k2]
    rw [wrap64_small (by omega) (by omega), wrap64_small (by omega) (by omega)]
    refine ⟨?_, by omega⟩
    unfold gmax
    split
    · rw [Int.max_eq_right (by omega)]
    · rw [Int.max_eq_left (by omega)]
  rw [if_neg h12, if_neg h12]
  have hcl : (e.Op = 13 ∨ e.Op = 16) → wcet_at_1.f (IntKind.i64.wrap (((mget m (i : Int)).getD 0) + 1)) R = some (restAt R (((mget m (i : Int)).getD 0).toNat + 1)) ∧ 0 ≤ restAt R (((mget m (i : Int)).getD 0).toNat + 1) ∧ restAt R (((mget m (i : Int)).getD 0).toNat + 1) ≤ 1099511627776 := fun h => by
    obtain ⟨s1, s2⟩ := F.shut i e he h
    rw [wrap64_small (by omega) (by omega), at_eq R _ (by omega)]
    have : (((mget m (i : Int)).getD 0) + 1).toNat = ((mget m (i : Int)).getD 0).toNat + 1 := by omega
    rw [this]
    exact ⟨rfl, hT _ (by omega)⟩
  by_cases h13 : e.Op = 13
  · rw [if_pos h13, if_pos h13]
    obtain ⟨g1, g2, g3⟩ := hcl (.inl h13)
    have hB1 := ho.B1 h13
    simp only [g1]
    generalize restAt R (((mget m (i : Int)).getD 0).toNat + 1) = y at *
    generalize restAt R (i + 1) = x at *
    have hp : 0 ≤ (e.B + 1) * x := Int.mul_nonneg (by omega) t1.1
    have hq : (e.B + 1) * x ≤ 1001 * 1099511627776 := Int.mul_le_mul (by omega) t1.2 t1.1 (by omega)
    rw [wrap64_small (n := e.B + 1) (by omega) (by omega), wrap64_small (n := (e.B + 1) * x) (by omega) (by omega)]
    generalize (e.B + 1) * x = z at *
    rw [wrap64_small (n := 1 + z) (by omega) (by omega), wrap64_small (n := 2 * e.B) (by omega) (by omega), wrap64_small (n := 1 + z + 2 * e.B) (by omega) (by omega), wrap64_small (n := 1 + z + 2 * e.B + 1) (by omega) (by omega), wrap64_small (by omega) (by omega)]
    refine ⟨by congr 1; omega, by omega⟩
  rw [if_neg h13, if_neg h13]
  by_cases h16 : e.Op = 16
  · rw [if_pos h16, if_pos h16]
    obtain ⟨g1, g2, g3⟩ := hcl (.inr h16)
    simp only [g1]
    rw [wrap64_small (n := 1 + restAt R (i + 1)) (by omega) (by omega), wrap64_small (by omega) (by omega)]
    exact ⟨rfl, by omega⟩
  rw [if_neg h16, if_neg h16, wrap64_small (by omega) (by omega)]
  exact ⟨rfl, by omega⟩
theorem need_mono {l : List SIns} {m : List (Int × Int)} (F : Facts l m) {R S : List Int} {i : Nat} {e : SIns} (he : l[i]? = some e) (h : ∀ j, i < j → restAt R j ≤ restAt S j) : needOf m R i e ≤ needOf m S i e := by
  have ho := F.ok i e he
  have h1 := h (i + 1) (by omega)
  have hjmp : (e.Op = 11 ∨ e.Op = 12) → restAt R e.A.toNat ≤ restAt S e.A.toNat := fun hh => by
    have := F.jump i e he hh
    exact h _ (by omega)
  have hcl : (e.Op = 13 ∨ e.Op = 16) → restAt R (((mget m (i : Int)).getD 0).toNat + 1) ≤ restAt S (((mget m (i : Int)).getD 0).toNat + 1) := fun hh => by
    have := F.shut i e he hh
    exact h _ (by omega)
  unfold needOf
  by_cases h14 : e.Op = 14
  · rw [if_pos h14, if_pos h14]; omega
  rw [if_neg h14, if_neg h14]
  by_cases h17 : e.Op = 17
  · rw [if_pos h17, if_pos h17]; omega
  rw [if_neg h17, if_neg h17]
  by_cases h11 : e.Op = 11
  · rw [if_pos h11, if_pos h11]; have := hjmp (.inl h11); omega
  rw [if_neg h11, if_neg h11]
  by_cases h12 : e.Op = 12
  · rw [if_pos h12, if_pos h12]; have := hjmp (.inr h12); omega
  rw [if_neg h12, if_neg h12]
  by_cases h13 : e.Op = 13
  · rw [if_pos h13, if_pos h13]
    have := hcl (.inl h13)
    have hB := ho.B
    have := Int.mul_le_mul_of_nonneg_left h1 (show 0 ≤ e.B + 1 by omega)
    omega
  rw [if_neg h13, if_neg h13]
  by_cases h16 : e.Op = 16
  · rw [if_pos h16, if_pos h16]; have := hcl (.inr h16); omega
  rw [if_neg h16, if_neg h16]
  omega
theorem need_same {l : List SIns} {m : List (Int × Int)} (F : Facts l m) {R S : List Int} {i : Nat} {e : SIns} (he : l[i]? = some e) (h : ∀ j, i < j → restAt R j = restAt S j) : needOf m R i e = needOf m S i e :=
  Int.le_antisymm (need_mono F he (fun j hj => by rw [h j hj]; exact Int.le_refl _)) (need_mono F he (fun j hj => by rw [h j hj]; exact Int.le_refl _))
/-- numbers that are just what is left -/
structure Exact (l : List SIns) (m : List (Int × Int)) (R : List Int) : Prop where
  len : R.length = l.length
  told : ∀ j, 0 ≤ restAt R j ∧ restAt R j ≤ 1099511627776
  is : ∀ (i : Nat) (e : SIns), l[i]? = some e → restAt R i = needOf m R i e
theorem restAt_set (R : List Int) (i j : Nat) (v : Int) (hi : i < R.length) : restAt (R.set i v) j = if j = i then v else restAt R j := by
  unfold restAt
  by_cases h : j = i
  · subst h; rw [if_pos rfl, List.getElem?_set_self hi]; rfl
  · rw [if_neg h, List.getElem?_set_ne (fun e => h e.symm)]
theorem analyse_rounds {l : List SIns} {r1 : SShape × SFault} (F : Facts l r1.1.Close) (K : Nat) (hK : 4000 < K) : ∃ r, iter (wcet_Analyse.r0 l r1) K ((l.length : Int) - 1, List.replicate l.length (0 : Int)) = some r ∧ ((∃ R, r = .inl R ∧ Exact l r1.1.Close R) ∨ ∃ z, r = .inr (⟨0, []⟩, ⟨3, z⟩)) := by
  have hlen := F.len
  refine iter_total (f := wcet_Analyse.r0 l r1) (fun s => ∃ i : Nat, s.1 = (i : Int) - 1 ∧ i ≤ l.length ∧ s.2.length = l.length ∧ (∀ j, i ≤ j → 0 ≤ restAt s.2 j ∧ restAt s.2 j ≤ 1099511627776) ∧ ∀ (j : Nat) (e : SIns), i ≤ j → l[j]? = some e → restAt s.2 j = needOf r1.1.Close s.2 j e) (fun s => (s.1 + 1).toNat) _ (fun s ⟨i, h1, h2, h3, h4, h5⟩ => ?_) K _ ⟨l.length, rfl, Nat.le_refl _, by simp, fun j hj => ?_, fun j e hj he => ?_⟩ (by simp only; omega)
  · obtain ⟨z, R⟩ := s
    simp only at h1 h3 h4 h5
    subst h1
    rcases i with _ | i
    · right
      simp only [wcet_Analyse.r0]
      rw [if_neg (by omega)]
      exact ⟨_, rfl, .inl ⟨R, rfl, h3, fun j => h4 j (Nat.zero_le _), fun j e he => h5 j e (Nat.zero_le _) he⟩⟩
    · have hz : ((i + 1 : Nat) : Int) - 1 = (i : Int) := by omega
      obtain ⟨e, he⟩ : ∃ e, l[i]? = some e := ⟨l[i], List.getElem?_eq_getElem (by omega)⟩
      obtain ⟨n1, n2⟩ := need_eq F (inn := r1.1.In) (R := R) he (fun j hj => h4 j (by omega))
      obtain ⟨y, hy⟩ : ∃ y, R[i]? = some y := ⟨R[i]'(by omega), List.getElem?_eq_getElem (by omega)⟩
      simp only [wcet_Analyse.r0, hz, n1, Int.toNat_natCast, hy]
      rw [if_pos (by omega), if_pos (by omega), List.getElem?_set_self (by omega)]
      simp only
      by_cases hb : needOf r1.1.Close R i e > 1099511627776
      · rw [if_pos hb]; exact .inr ⟨_, rfl, .inr ⟨_, rfl⟩⟩
      · rw [if_neg hb]
        have hs : ∀ j, restAt (R.set i (needOf r1.1.Close R i e)) j = if j = i then needOf r1.1.Close R i e else restAt R j := fun j => restAt_set R i j _ (by omega)
        refine .inl ⟨_, rfl, ⟨i, by simp only; rw [wrap64_small (by omega) (by omega)], by omega, by simpa using h3, fun j hj => ?_, fun j f hj hf => ?_⟩, by simp only; rw [wrap64_small (by omega) (by omega)]; omega⟩
        · simp only [hs]
          split
          · omega
          · exact h4 j (by omega)
        · simp only
          have hsame : ∀ (k : Nat) (g : SIns), i ≤ k → l[k]? = some g → needOf r1.1.Close (R.set i (needOf r1.1.Close R i e)) k g = needOf r1.1.Close R k g := fun k g hk hg => need_same F hg (fun j hj => by rw [hs, if_neg (by omega)])
          rw [hsame j f hj hf, hs]
          by_cases hji : j = i
          · subst hji
            rw [he] at hf
            cases hf
            rw [if_pos rfl]
          · rw [if_neg hji]
            exact h5 j f (by omega) hf
  · have : restAt (List.replicate l.length (0 : Int)) j = 0 := by unfold restAt; rw [List.getElem?_eq_none (by simpa using hj)]; rfl
    rw [this]; omega
  · have := lt_of_get he; omega
theorem Analyse_some (l : List SIns) (K : Nat) (hK : 4000 < K) : ∃ r, wcet_Analyse.f K l = some r ∧ ((r.2.Code ≠ 0 ∧ r.1 = ⟨0, []⟩) ∨ (r.2.Code = 0 ∧ ∃ s, mach_Look.f K l = some s ∧ s.2.Code = 0 ∧ Facts l s.1.Close ∧ Exact l s.1.Close r.1.Rest ∧ r.1.Worst = restAt r.1.Rest 0)) := by
  unfold wcet_Analyse.f
  obtain ⟨s, hs, h⟩ := Look_some l K hK
  rw [hs]
  simp only
  rcases h with h | ⟨h, F⟩
  · rw [if_neg h]
    exact ⟨_, rfl, .inl ⟨h, rfl⟩⟩
  · have hlen := F.len
    rw [if_pos (by rw [h]), if_pos (by omega), wrap64_small (by omega) (by omega)]
    obtain ⟨r, hr, h2⟩ := analyse_rounds F K hK
    rw [hr]
    rcases h2 with ⟨R, rfl, hE⟩ | ⟨z, rfl⟩
    · simp only
      rw [at_eq R 0 (by omega)]
      exact ⟨_, rfl, .inr ⟨rfl, s, rfl, by rw [h], F, hE, rfl⟩⟩
    · exact ⟨_, rfl, .inl ⟨by simp, rfl⟩⟩
/-- numbers that show it -/
structure Shows (l : List SIns) (m : List (Int × Int)) (w : Int) (R : List Int) : Prop where
  len : R.length = l.length
  told : ∀ j, 0 ≤ restAt R j ∧ restAt R j ≤ 1099511627776
  ge : ∀ (i : Nat) (e : SIns), l[i]? = some e → needOf m R i e ≤ restAt R i
  worst : restAt R 0 ≤ w
theorem Proves_some {l : List SIns} {K : Nat} (hK : 4000 < K) {s : SShape × SFault} (hs : mach_Look.f K l = some s) (hc : s.2.Code = 0) (F : Facts l s.1.Close) (w : Int) (R : List Int) : ∃ b, wcet_Proves.f K l w R = some b ∧ (b = true ↔ Shows l s.1.Close w R) := by
  have hlen := F.len
  unfold wcet_Proves.f wcet_Proves.p0
  rw [hs]
  simp only
  rw [if_pos hc]
  by_cases hl : R.length = l.length
  case neg => rw [if_neg (by omega)]; exact ⟨false, rfl, by simp; exact fun h => hl h.len⟩
  rw [if_pos (by omega)]
  simp only
  obtain ⟨r, hr, h1⟩ := iter_total (f := wcet_Proves.r1 R) (fun i => i ≤ R.length ∧ ∀ j, j < i → 0 ≤ restAt R j ∧ restAt R j ≤ 1099511627776) (fun i => R.length - i) (fun r => (r = .inl () ∧ ∀ j, 0 ≤ restAt R j ∧ restAt R j ≤ 1099511627776) ∨ (r = .inr false ∧ ¬ ∀ j, 0 ≤ restAt R j ∧ restAt R j ≤ 1099511627776)) (fun i ⟨hi, hI⟩ => by
    by_cases hlt : i < R.length
    · obtain ⟨y, hy⟩ : ∃ y, R[i]? = some y := ⟨R[i], List.getElem?_eq_getElem hlt⟩
      have hry : restAt R i = y := by unfold restAt; rw [hy]; rfl
      simp only [wcet_Proves.r1, hy]
      rw [if_pos (by omega)]
      split
      · exact .inr ⟨_, rfl, .inr ⟨rfl, fun h => by have := h i; omega⟩⟩
      · split
        · exact .inr ⟨_, rfl, .inr ⟨rfl, fun h => by have := h i; omega⟩⟩
        · refine .inl ⟨_, rfl, ⟨hlt, fun j hj => ?_⟩, by omega⟩
          by_cases hji : j = i
          · subst hji; omega
          · exact hI j (by omega)
    · right
      simp only [wcet_Proves.r1]
      rw [if_neg (by omega)]
      refine ⟨_, rfl, .inl ⟨rfl, fun j => ?_⟩⟩
      by_cases hj : j < i
      · exact hI j hj
      · have : restAt R j = 0 := by unfold restAt; rw [List.getElem?_eq_none (by omega)]; rfl
        omega) K 0 ⟨Nat.zero_le _, fun j hj => by omega⟩ (by omega)
  rw [hr]
  rcases h1 with ⟨rfl, hT⟩ | ⟨rfl, hT⟩
  case inr => exact ⟨false, rfl, by simp; exact fun h => hT h.told⟩
  simp only
  obtain ⟨r, hr, h1⟩ := iter_total (f := wcet_Proves.r2 l R s) (fun i => i ≤ l.length ∧ ∀ (j : Nat) (e : SIns), j < i → l[j]? = some e → needOf s.1.Close R j e ≤ restAt R j) (fun i => l.length - i) (fun r => (r = .inl () ∧ ∀ (j : Nat) (e : SIns), l[j]? = some e → needOf s.1.Close R j e ≤ restAt R j) ∨ (r = .inr false ∧ ¬ ∀ (j : Nat) (e : SIns), l[j]? = some e → needOf s.1.Close R j e ≤ restAt R j)) (fun i ⟨hi, hI⟩ => by
    by_cases hlt : i < l.length
    · obtain ⟨e, he⟩ : ∃ e, l[i]? = some e := ⟨l[i], List.getElem?_eq_getElem hlt⟩
      obtain ⟨y, hy⟩ : ∃ y, R[i]? = some y := ⟨R[i]'(by omega), List.getElem?_eq_getElem (by omega)⟩
      have hry : restAt R i = y := by unfold restAt; rw [hy]; rfl
      obtain ⟨n1, n2⟩ := need_eq F (inn := s.1.In) (R := R) he (fun j _ => hT j)
      simp only [wcet_Proves.r2, hy, n1]
      rw [if_pos (by omega)]
      split
      · exact .inr ⟨_, rfl, .inr ⟨rfl, fun h => by have := h i e he; omega⟩⟩
      · refine .inl ⟨_, rfl, ⟨hlt, fun j f hj hf => ?_⟩, by omega⟩
        by_cases hji : j = i
        · subst hji; rw [he] at hf; cases hf; omega
        · exact hI j f (by omega) hf
    · right
      simp only [wcet_Proves.r2]
      rw [if_neg (by omega)]
      exact ⟨_, rfl, .inl ⟨rfl, fun j e he => hI j e (by have := lt_of_get he; omega) he⟩⟩) K 0 ⟨Nat.zero_le _, fun j e hj => by omega⟩ (by omega)
  rw [hr]
  rcases h1 with ⟨rfl, hG⟩ | ⟨rfl, hG⟩
  case inr => exact ⟨false, rfl, by simp; exact fun h => hG h.ge⟩
  simp only
  rw [at_eq R 0 (by omega)]
  exact ⟨_, rfl, by simp only [decide_eq_true_eq]; exact ⟨fun h => ⟨hl, hT, hG, h⟩, fun h => h.worst⟩⟩
/-- what shows it says no less than what is just left -/
theorem Shows.least {l : List SIns} {m : List (Int × Int)} (F : Facts l m) {w : Int} {R S : List Int} (hE : Exact l m R) (hS : Shows l m w S) : ∀ j, restAt R j ≤ restAt S j := by
  have key : ∀ d j, l.length ≤ j + d → restAt R j ≤ restAt S j := by
    intro d
    induction d using Nat.strongRecOn with
    | _ d ih =>
      intro j hj
      by_cases hlt : j < l.length
      · have he : l[j]? = some l[j] := List.getElem?_eq_getElem hlt
        have h1 := hE.is j _ he
        have h2 := hS.ge j _ he
        have h3 := need_mono F (R := R) (S := S) he (fun k hk => ih (l.length - k) (by omega) k (by omega))
        omega
      · have : restAt R j = 0 := by unfold restAt; rw [List.getElem?_eq_none (by have := hE.len; omega)]; rfl
        have := (hS.told j).1
        omega
  exact fun j => key l.length j (by omega)
theorem Exact.shows {l : List SIns} {m : List (Int × Int)} {R : List Int} (hE : Exact l m R) {w : Int} (hw : restAt R 0 ≤ w) : Shows l m w R := ⟨hE.len, hE.told, fun i e he => by rw [hE.is i e he]; exact Int.le_refl _, hw⟩

theorem WcetLeast_law (l : List SIns) (less : Int) (rest : List Int) (hl : ∀ y ∈ l, Ok.ok y) (hless : In64 less) (hr : ∀ y ∈ rest, Ok.ok y) : ∃ K, WcetLeast.f K l less rest = some true := by
  refine ⟨18446744073709551616, ?_⟩
  have ht : timed.f 18446744073709551616 = some true := by kernel_rfl
  unfold WcetLeast.f
  rw [ht]
  simp only [if_true]
  split
  · rfl
  obtain ⟨r, hr1, h⟩ := Analyse_some l 18446744073709551616 (by decide)
  rw [hr1]
  simp only
  rcases h with ⟨h1, h2⟩ | ⟨h1, s, hs, hc, F, hE, hw⟩
  · rw [if_neg h1, h2]; rfl
  rw [if_pos h1]
  have hR := hE.told 0
  have hP := fun w R => Proves_some (K := 18446744073709551616) (by decide) hs hc F w R
  have key : ∀ (w : Int) (R : List Int), w < restAt r.1.Rest 0 → wcet_Proves.f 18446744073709551616 l w R = some false := fun w R hlt => by
    obtain ⟨b, hb, hi⟩ := hP w R
    rw [hb]
    cases b with
    | false => rfl
    | true =>
      have h1 := hi.1 rfl
      have h2 := h1.least F hE 0
      have h3 := h1.worst
      omega
  have hyes : wcet_Proves.f 18446744073709551616 l r.1.Worst r.1.Rest = some true := by
    obtain ⟨b, hb, hi⟩ := hP r.1.Worst r.1.Rest
    rw [hb, hi.2 (hE.shows (by omega))]
  obtain ⟨l1, l2⟩ := hless
  by_cases hx : less < 1
  · rw [if_pos hx, hyes]
    simp only [if_true]
    rw [wrap64_small (by omega) (by omega), key _ _ (by omega)]
    simp only
    rw [key _ _ (by omega)]
    rfl
  · rw [if_neg hx, hyes]
    simp only [if_true]
    rw [wrap64_small (by omega) (by omega), key _ _ (by omega)]
    simp only
    rw [key _ _ (by omega)]
    rfl

end Go.Proofs.Ytnckikjcjgmdlaa.GV
