/- Plain words: GvLLocksChecks. -/
import Derived.Test.YtccfilmiboepjaaDoorGWLocksChecks3
import Derived.Test.YtccfilmiboepjaaDoorGv17
namespace Go.Proofs.YtccfilmiboepjaaDoor.GV
open Go Go.RowKit
set_option linter.unusedVariables false
set_option linter.unusedSimpArgs false
theorem SAct.eqb_self (x : SAct) : SAct.eqb x x = true := by simp [SAct.eqb]
theorem SFault.eqb_self (x : SFault) : SFault.eqb x x = true := by simp [SFault.eqb]
theorem punctualsame_Lend_api_Act_some (l : List SAct) (a : SAct) (h : l.length ≤ 5000) : ∃ r, punctualsame_Lend_api_Act.f l a = some r := by
  have hw : IntKind.i64.wrap ((l.length : Int) + 3) = (l.length : Int) + 3 := wrap64_small (by omega) (by omega)
  unfold punctualsame_Lend_api_Act.f
  rw [hw, if_pos (by omega), if_pos (by omega), if_pos (by simp; omega), if_pos (by simp; omega)]
  exact ⟨_, rfl⟩
theorem punctualsame_Lend_api_Act_someL (l : List SAct) (a : SAct) (h : l.length ≤ 8796093022205) : ∃ r, punctualsame_Lend_api_Act.f l a = some r := by
  have hw : IntKind.i64.wrap ((l.length : Int) + 3) = (l.length : Int) + 3 := wrap64_small (by omega) (by omega)
  unfold punctualsame_Lend_api_Act.f
  rw [hw, if_pos (by omega), if_pos (by omega), if_pos (by simp; omega), if_pos (by simp; omega)]
  exact ⟨_, rfl⟩
theorem punctualsame_Still_api_Act_true (l : List SAct) (a : SAct) (K : Nat) (hl : l.length ≤ 5000) (hK : 5010 ≤ K) : punctualsame_Still_api_Act.f K (l ++ [a, a, a]) l a = some true := by
  have hw : IntKind.i64.wrap ((l.length : Int) + 3) = (l.length : Int) + 3 := wrap64_small (by omega) (by omega)
  have hr := iter_first0 (f := punctualsame_Still_api_Act.r0 (l ++ [a, a, a]) l a) (fun _ => none) (l.length + 3) (t := ()) (fun i hi => by
    have h' : (i : Int) < ((l ++ [a, a, a] : List SAct).length : Int) := by simp; omega
    simp only [punctualsame_Still_api_Act.r0, if_pos h']
    by_cases h2 : i < l.length
    · have h2' : (i : Int) < (l.length : Int) := by omega
      have h3 : ¬ (i : Int) ≥ (l.length : Int) := by omega
      rw [List.getElem?_append_left h2, List.getElem?_eq_getElem h2]
      simp only [if_pos h2', SAct.eqb_self, if_true, if_neg h3, onward]
    · have h2' : ¬ (i : Int) < (l.length : Int) := by omega
      have h3 : (i : Int) ≥ (l.length : Int) := by omega
      rw [List.getElem?_append_right (by omega)]
      have : i - l.length = 0 ∨ i - l.length = 1 ∨ i - l.length = 2 := by omega
      rcases this with e | e | e <;> simp [e, h2', h3, onward, SAct.eqb_self]) (by
    have h' : ¬ ((l.length + 3 : Nat) : Int) < ((l ++ [a, a, a] : List SAct).length : Int) := by simp
    simp only [punctualsame_Still_api_Act.r0, if_neg h']) (K := K) (by omega)
  rw [firstOf_none_of (fun _ _ _ => rfl)] at hr
  have hlen : IntKind.i64.wrap ((l.length : Int) + 3) = ((l ++ [a, a, a] : List SAct).length : Int) := by rw [hw]; simp
  simp only [punctualsame_Still_api_Act.f, if_pos hlen, hr, leave]
theorem punctualsame_Still_api_Act_trueL (l : List SAct) (a : SAct) (K : Nat) (hl : l.length ≤ 4611686018427387904) (hK : l.length + 4 ≤ K) : punctualsame_Still_api_Act.f K (l ++ [a, a, a]) l a = some true := by
  have hw : IntKind.i64.wrap ((l.length : Int) + 3) = (l.length : Int) + 3 := wrap64_small (by omega) (by omega)
  have hr := iter_first0 (f := punctualsame_Still_api_Act.r0 (l ++ [a, a, a]) l a) (fun _ => none) (l.length + 3) (t := ()) (fun i hi => by
    have h' : (i : Int) < ((l ++ [a, a, a] : List SAct).length : Int) := by simp; omega
    simp only [punctualsame_Still_api_Act.r0, if_pos h']
    by_cases h2 : i < l.length
    · have h2' : (i : Int) < (l.length : Int) := by omega
      have h3 : ¬ (i : Int) ≥ (l.length : Int) := by omega
      rw [List.getElem?_append_left h2, List.getElem?_eq_getElem h2]
      simp only [if_pos h2', SAct.eqb_self, if_true, if_neg h3, onward]
    · have h2' : ¬ (i : Int) < (l.length : Int) := by omega
      have h3 : (i : Int) ≥ (l.length : Int) := by omega
      rw [List.getElem?_append_right (by omega)]
      have : i - l.length = 0 ∨ i - l.length = 1 ∨ i - l.length = 2 := by omega
      rcases this with e | e | e <;> simp [e, h2', h3, onward, SAct.eqb_self]) (by
    have h' : ¬ ((l.length + 3 : Nat) : Int) < ((l ++ [a, a, a] : List SAct).length : Int) := by simp
    simp only [punctualsame_Still_api_Act.r0, if_neg h']) (K := K) (by omega)
  rw [firstOf_none_of (fun _ _ _ => rfl)] at hr
  have hlen : IntKind.i64.wrap ((l.length : Int) + 3) = ((l ++ [a, a, a] : List SAct).length : Int) := by rw [hw]; simp
  simp only [punctualsame_Still_api_Act.f, if_pos hlen, hr, leave]
theorem punctualsame_Same_int_self (l : List Int) (K : Nat) (hK : l.length < K) : punctualsame_Same_int.f K l l = some true := by
  have hr := iter_first0 (f := punctualsame_Same_int.r0 l l) (fun _ => none) l.length (t := ()) (fun i hi => by
    have h' : (i : Int) < (l.length : Int) := by omega
    simp only [punctualsame_Same_int.r0, if_pos h', List.getElem?_eq_getElem hi, if_true, onward]) (by
    have h' : ¬ (l.length : Int) < (l.length : Int) := by omega
    simp only [punctualsame_Same_int.r0, if_neg h']) hK
  rw [firstOf_none_of (fun _ _ _ => rfl)] at hr
  simp only [punctualsame_Same_int.f, if_true, hr, leave]
theorem punctualsame_Same_api_Act_self (l : List SAct) (K : Nat) (hK : l.length < K) : punctualsame_Same_api_Act.f K l l = some true := by
  have hr := iter_first0 (f := punctualsame_Same_api_Act.r0 l l) (fun _ => none) l.length (t := ()) (fun i hi => by
    have h' : (i : Int) < (l.length : Int) := by omega
    simp only [punctualsame_Same_api_Act.r0, if_pos h', List.getElem?_eq_getElem hi, if_true, SAct.eqb_self, onward]) (by
    have h' : ¬ (l.length : Int) < (l.length : Int) := by omega
    simp only [punctualsame_Same_api_Act.r0, if_neg h']) hK
  rw [firstOf_none_of (fun _ _ _ => rfl)] at hr
  simp only [punctualsame_Same_api_Act.f, if_true, hr, leave]
theorem few_true {n : Nat} (h : few.f (n : Int) = true) : n ≤ 5000 := by
  simp only [few.f, decide_eq_true_eq] at h; omega
theorem few_false {n : Nat} (h : ¬ few.f (n : Int) = true) : 5000 < n := by
  simp only [few.f, decide_eq_true_eq] at h; omega
theorem ba_loop (a : ByteArray) : ∀ (k i : Nat) (r : List UInt8), a.size - i = k → ByteArray.toList.loop a i r = r.reverse ++ a.data.toList.drop i := by
  intro k
  induction k with
  | zero =>
    intro i r h
    unfold ByteArray.toList.loop
    rw [if_neg (by omega), List.drop_eq_nil_of_le (by have : a.data.toList.length = a.size := rfl; omega), List.append_nil]
  | succ k ih =>
    intro i r h
    have hi : i < a.size := by omega
    unfold ByteArray.toList.loop
    rw [if_pos hi, ih (i + 1) _ (by omega)]
    have hl : i < a.data.toList.length := hi
    rw [List.drop_eq_getElem_cons hl]
    have hg : a.get! i = a.data.toList[i] := by
      show a.data[i]! = _
      have h2 : i < a.data.size := hi
      rw [getElem!_pos a.data i h2]; rfl
    rw [hg]; simp
theorem ba_toList (a : ByteArray) : a.toList = a.data.toList := by
  unfold ByteArray.toList
  rw [ba_loop a _ 0 [] rfl]; simp
theorem ba_empty {a : ByteArray} : a.toList = (⟨#[]⟩ : ByteArray).toList ↔ a.size = 0 := by
  rw [ba_toList, ba_toList]
  constructor
  · intro h; have := congrArg List.length h; simpa using this
  · intro h; have h2 : a.data.toList.length = 0 := h; simpa using List.eq_nil_of_length_eq_zero h2
theorem ba_get (a : ByteArray) (i : Nat) : a[i]? = a.data.toList[i]? := by
  by_cases h : i < a.size
  · rw [getElem?_pos a i h, List.getElem?_eq_getElem (by exact h)]; rfl
  · rw [getElem?_neg a i h, List.getElem?_eq_none (by have : a.data.toList.length = a.size := rfl; omega)]

/-- a stack of locks as a string -/
def bytesI (t : ByteArray) : List Int := t.data.toList.map fun b => (b.toNat : Int)
theorem bytesI_len (t : ByteArray) : (bytesI t).length = t.size := by simp [bytesI]
theorem bytesI_push (t : ByteArray) (n : Int) (h0 : 0 ≤ n) (h1 : n ≤ 3) : bytesI (t ++ ByteArray.empty.push (UInt8.ofNat (IntKind.u8.wrap n).toNat)) = bytesI t ++ [n] := by
  have hw : IntKind.u8.wrap n = n := by
    have : n = 0 ∨ n = 1 ∨ n = 2 ∨ n = 3 := by omega
    rcases this with rfl | rfl | rfl | rfl <;> decide
  have hn : ((UInt8.ofNat n.toNat).toNat : Int) = n := by
    have : n = 0 ∨ n = 1 ∨ n = 2 ∨ n = 3 := by omega
    rcases this with rfl | rfl | rfl | rfl <;> decide
  rw [hw]
  have hd : (t ++ ByteArray.empty.push (UInt8.ofNat n.toNat)).data.toList = t.data.toList ++ [UInt8.ofNat n.toNat] := by
    simp
  simp only [bytesI, hd, List.map_append, List.map_cons, List.map_nil, hn]
theorem bytesI_pop (t : ByteArray) (k : Nat) : bytesI (t.extract 0 k) = (bytesI t).take k := by
  simp [bytesI, List.map_take]
theorem bytesI_get (t : ByteArray) (k : Nat) : (bytesI t)[k]? = (t[k]?).map fun b => (b.toNat : Int) := by
  rw [ba_get]; simp [bytesI]
/-- Check, one act behind another -/
def chk : List SAct → List Int → Nat → (List Int) ⊕ SFault
  | [], m, _ => .inl m
  | a :: l, m, i =>
    if a.Do = 1 then (if a.N < 1 ∨ a.N > 1000 then .inr ⟨3, i⟩ else chk l m (i + 1))
    else if a.Do = 2 then (if a.N < 0 ∨ a.N > 3 then .inr ⟨3, i⟩ else if a.N ∈ m then .inr ⟨5, i⟩ else chk l (m ++ [a.N]) (i + 1))
    else if a.Do = 3 then (if m.getLast? = some a.N then chk l m.dropLast (i + 1) else .inr ⟨10, i⟩)
    else .inr ⟨6, i⟩
theorem drop_get {α : Type} {l : List α} {i : Nat} {a : α} (h : l[i]? = some a) : l.drop i = a :: l.drop (i + 1) := by
  have hi := lt_of_get h
  rw [List.drop_eq_getElem_cons hi]
  rw [List.getElem?_eq_getElem hi] at h
  rw [Option.some.inj h]
theorem search1 (m : List Int) (i : Nat) (e : SAct) (K : Nat) (hK : m.length < K) : iter (locks_Check.r2 m i e) K 0 = some (if e.N ∈ m then .inr ⟨5, i⟩ else .inl ()) := by
  have hr := iter_first0 (f := locks_Check.r2 m i e) (fun k => if m[k]? = some e.N then some (⟨5, i⟩ : SFault) else none) m.length (t := ()) (fun k hk => by
    have h' : (k : Int) < (m.length : Int) := by omega
    simp only [locks_Check.r2, if_pos h', List.getElem?_eq_getElem hk, Option.some.injEq]
    by_cases h : m[k] = e.N
    · simp [h, onward, locks_Check_1.f]
    · simp [h, onward]) (by
    have h' : ¬ (m.length : Int) < (m.length : Int) := by omega
    simp only [locks_Check.r2, if_neg h']) hK
  rw [hr]
  by_cases h : e.N ∈ m
  · rw [if_pos h]
    obtain ⟨k, hk⟩ := List.mem_iff_getElem?.1 h
    cases hf : firstOf (fun k => if m[k]? = some e.N then some (⟨5, i⟩ : SFault) else none) m.length 0 with
    | none =>
      have := firstOf_none hf k (Nat.zero_le _) (lt_of_get hk)
      simp [hk] at this
    | some r =>
      obtain ⟨j, _, _, hj, _⟩ := firstOf_some hf
      by_cases hje : m[j]? = some e.N
      · simp only [hje, if_true, Option.some.injEq] at hj; rw [← hj]; rfl
      · simp only [hje, if_false] at hj; cases hj
  · rw [if_neg h, firstOf_none_of (fun j _ _ => by
      by_cases hje : m[j]? = some e.N
      · exact absurd (List.mem_of_getElem? hje) h
      · simp only [hje, if_false])]
    rfl
theorem search2 (t : ByteArray) (i : Nat) (e : SAct) (K : Nat) (ht : t.size ≤ 200) (hK : 200 < K) : iter (punctualref_CheckActs.r2 t i e) K 0 = some (if e.N ∈ bytesI t then .inr ⟨5, i⟩ else .inl ()) := by
  have hr := iter_states (f := punctualref_CheckActs.r2 t i e) (fun k => (k : Int)) (fun k => if (bytesI t)[k]? = some e.N then some (⟨5, i⟩ : SFault) else none) t.size (t := ()) (fun k hk _ => by
    have h' : (k : Int) < (t.size : Int) := by omega
    have h2 : (0 : Int) ≤ (k : Int) := by omega
    have hb : t[k]? = some (t[k]'hk) := getElem?_pos t k hk
    have hw : IntKind.i64.wrap (((t[k]'hk).toNat : Nat) : Int) = ((t[k]'hk).toNat : Int) := wrap64_small (by omega) (by have := (t[k]'hk).toNat_lt; omega)
    have hw2 : IntKind.i64.wrap ((k : Int) + 1) = ((k + 1 : Nat) : Int) := by rw [wrap64_small (by omega) (by omega)]; rfl
    simp only [punctualref_CheckActs.r2, if_pos h', if_pos h2, Int.toNat_natCast, hb, hw, hw2, bytesI_get, Option.map_some, Option.some.injEq]
    by_cases h : ((t[k]'hk).toNat : Int) = e.N
    · simp [h, onwardS, punctualref_F.f]
    · simp [h, onwardS]) (fun _ => by
    have h' : ¬ (t.size : Int) < (t.size : Int) := by omega
    simp only [punctualref_CheckActs.r2, if_neg h']) (K := K) (by omega)
  show iter (punctualref_CheckActs.r2 t i e) K ((0 : Nat) : Int) = _
  rw [hr]
  by_cases h : e.N ∈ bytesI t
  · rw [if_pos h]
    obtain ⟨k, hk⟩ := List.mem_iff_getElem?.1 h
    have hlt := lt_of_get hk
    rw [bytesI_len] at hlt
    cases hf : firstOf (fun k => if (bytesI t)[k]? = some e.N then some (⟨5, i⟩ : SFault) else none) t.size 0 with
    | none =>
      have := firstOf_none hf k (Nat.zero_le _) hlt
      simp [hk] at this
    | some r =>
      obtain ⟨j, _, _, hj, _⟩ := firstOf_some hf
      by_cases hje : (bytesI t)[j]? = some e.N
      · simp only [hje, if_true, Option.some.injEq] at hj; rw [← hj]; rfl
      · simp only [hje, if_false] at hj; cases hj
  · rw [if_neg h, firstOf_none_of (fun j _ _ => by
      by_cases hje : (bytesI t)[j]? = some e.N
      · exact absurd (List.mem_of_getElem? hje) h
      · simp only [hje, if_false])]
    rfl
theorem last_of (m : List Int) (h : m ≠ []) : m[m.length - 1]? = m.getLast? := by rw [List.getLast?_eq_getElem?]
/-- Check comes to what chk says -/
theorem check_rounds (l : List SAct) (hl : l.length ≤ 200) (K0 : Nat) (hK0 : 300 < K0) : ∀ (k K i : Nat) (m : List Int), l.length - i = k → i ≤ l.length → k < K → m.length ≤ i → iter (locks_Check.r0 K0 l) K (m, i) = some (chk (l.drop i) m i) := by
  intro k
  induction k with
  | zero =>
    intro K i m h1 h2 h3 h4
    obtain ⟨K, rfl⟩ : ∃ q, K = q + 1 := ⟨K - 1, by omega⟩
    have hi : i = l.length := by omega
    subst hi
    rw [List.drop_length]
    simp only [iter, locks_Check.r0, if_neg (show ¬ (l.length : Int) < (l.length : Int) by omega), chk]
  | succ k ih =>
    intro K i m h1 h2 h3 h4
    obtain ⟨K, rfl⟩ : ∃ q, K = q + 1 := ⟨K - 1, by omega⟩
    have hi : i < l.length := by omega
    have ha : l[i]? = some l[i] := List.getElem?_eq_getElem hi
    rw [drop_get ha]
    generalize l[i] = a at ha
    simp only [iter, locks_Check.r0, if_pos (show (i : Int) < (l.length : Int) by omega), ha, chk]
    by_cases d1 : a.Do = 1
    · simp only [if_pos d1]
      by_cases n1 : a.N < 1
      · simp [n1, locks_Check_1.f]
      · by_cases n2 : a.N > 1000
        · simp [n1, n2, locks_Check_1.f]
        · simp only [n1, n2, if_false, or_self]
          exact ih K (i + 1) m (by omega) (by omega) (by omega) (by omega)
    simp only [if_neg d1]
    by_cases d2 : a.Do = 2
    · simp only [if_pos d2, locks_Check.p1]
      by_cases n1 : a.N < 0
      · simp [n1, locks_Check_1.f]
      · by_cases n2 : a.N > 3
        · simp [n1, n2, locks_Check_1.f]
        · simp only [n1, n2, if_false, or_self, search1 m i a K0 (by omega)]
          by_cases hm : a.N ∈ m
          · simp [hm]
          · simp only [hm, if_false, if_pos (show m.length < 17592186044416 by omega)]
            exact ih K (i + 1) (m ++ [a.N]) (by omega) (by omega) (by omega) (by simp; omega)
    simp only [if_neg d2]
    by_cases d3 : a.Do = 3
    · simp only [if_pos d3]
      by_cases hm : m = []
      · subst hm; simp [locks_Check_1.f]
      · have hpos : 0 < m.length := List.length_pos_iff.2 hm
        have hw : IntKind.i64.wrap ((m.length : Int) - 1) = ((m.length - 1 : Nat) : Int) := by rw [wrap64_small (by omega) (by omega)]; omega
        simp only [hw, if_neg (show ¬ (m.length : Int) = 0 by omega), if_pos (show (0 : Int) ≤ ((m.length - 1 : Nat) : Int) by omega), Int.toNat_natCast, last_of m hm]
        cases hg : m.getLast? with
        | none => simp [List.getLast?_eq_none_iff] at hg; exact absurd hg hm
        | some e3 =>
          simp only [Option.some.injEq]
          by_cases he : e3 = a.N
          · simp only [if_pos he, if_pos (show m.length - 1 ≤ m.length by omega)]
            rw [← List.dropLast_eq_take]
            exact ih K (i + 1) m.dropLast (by omega) (by omega) (by omega) (by simp; omega)
          · simp [he, locks_Check_1.f]
    · simp [d3, locks_Check_1.f]
/-- and so does CheckActs -/
theorem acts_rounds (l : List SAct) (hl : l.length ≤ 200) (K0 : Nat) (hK0 : 300 < K0) : ∀ (k K i : Nat) (t : ByteArray), l.length - i = k → i ≤ l.length → k < K → t.size ≤ i → ∃ r, iter (punctualref_CheckActs.r0 K0 l) K (t, i) = some r ∧
    (match r with | .inl s => chk (l.drop i) (bytesI t) i = .inl (bytesI s) | .inr f => chk (l.drop i) (bytesI t) i = .inr f) := by
  intro k
  induction k with
  | zero =>
    intro K i t h1 h2 h3 h4
    obtain ⟨K, rfl⟩ : ∃ q, K = q + 1 := ⟨K - 1, by omega⟩
    have hi : i = l.length := by omega
    subst hi
    rw [List.drop_length]
    refine ⟨.inl t, ?_, rfl⟩
    simp only [iter, punctualref_CheckActs.r0, if_neg (show ¬ (l.length : Int) < (l.length : Int) by omega)]
  | succ k ih =>
    intro K i t h1 h2 h3 h4
    obtain ⟨K, rfl⟩ : ∃ q, K = q + 1 := ⟨K - 1, by omega⟩
    have hi : i < l.length := by omega
    have ha : l[i]? = some l[i] := List.getElem?_eq_getElem hi
    rw [drop_get ha]
    generalize l[i] = a at ha
    simp only [iter, punctualref_CheckActs.r0, if_pos (show (i : Int) < (l.length : Int) by omega), ha, chk]
    by_cases d1 : a.Do = 1
    · simp only [if_pos d1]
      by_cases n1 : a.N < 1
      · simp [n1, punctualref_F.f]
      · by_cases n2 : a.N > 1000
        · simp [n1, n2, punctualref_F.f]
        · simp only [n1, n2, if_false, or_self]
          exact ih K (i + 1) t (by omega) (by omega) (by omega) (by omega)
    simp only [if_neg d1]
    by_cases d2 : a.Do = 2
    · simp only [if_pos d2, punctualref_CheckActs.p1]
      by_cases n1 : a.N < 0
      · simp [n1, punctualref_F.f]
      · by_cases n2 : a.N > 3
        · simp [n1, n2, punctualref_F.f]
        · simp only [n1, n2, if_false, or_self, search2 t i a K0 (by omega) (by omega)]
          by_cases hm : a.N ∈ bytesI t
          · simp [hm]
          · have hp : (ByteArray.empty.push (UInt8.ofNat (IntKind.u8.wrap a.N).toNat)).size = 1 := rfl
            simp only [hm, if_false, hp, if_pos (show t.size + 1 ≤ 9223372036854775807 by omega)]
            rw [← bytesI_push t a.N (by omega) (by omega)]
            refine ih K (i + 1) _ (by omega) (by omega) (by omega) ?_
            rw [ByteArray.size_append, hp]; omega
    simp only [if_neg d2]
    by_cases d3 : a.Do = 3
    · simp only [if_pos d3]
      by_cases hm : t.size = 0
      · have hb : bytesI t = [] := List.eq_nil_of_length_eq_zero (by rw [bytesI_len, hm])
        simp [ba_empty.2 hm, hb, punctualref_F.f]
      · have hw : IntKind.i64.wrap ((t.size : Int) - 1) = ((t.size - 1 : Nat) : Int) := by rw [wrap64_small (by omega) (by omega)]; omega
        have hne : bytesI t ≠ [] := fun h0 => hm (by rw [← bytesI_len, h0]; rfl)
        have hlt : t.size - 1 < t.size := by omega
        have hb : t[t.size - 1]? = some (t[t.size - 1]'hlt) := getElem?_pos t _ hlt
        have hlast := last_of _ hne
        rw [bytesI_len, bytesI_get, hb, Option.map_some] at hlast
        have hw3 : IntKind.i64.wrap (((t[t.size - 1]'hlt).toNat : Nat) : Int) = ((t[t.size - 1]'hlt).toNat : Int) := wrap64_small (by omega) (by have := (t[t.size - 1]'hlt).toNat_lt; omega)
        simp only [if_neg (fun h0 => hm (ba_empty.1 h0)), hw, if_pos (show (0 : Int) ≤ ((t.size - 1 : Nat) : Int) by omega), Int.toNat_natCast, hb, hw3, ← hlast, Option.some.injEq]
        by_cases he : ((t[t.size - 1]'hlt).toNat : Int) = a.N
        · simp only [if_pos he, if_pos (show t.size - 1 ≤ t.size by omega)]
          have hd : (bytesI t).dropLast = bytesI (t.extract 0 (t.size - 1)) := by rw [bytesI_pop, List.dropLast_eq_take, bytesI_len]
          rw [hd]
          refine ih K (i + 1) _ (by omega) (by omega) (by omega) ?_
          rw [ByteArray.size_extract]; omega
        · simp [he, punctualref_F.f]
    · simp [d3, punctualref_F.f]
/-- what Check says -/
def chkF (l : List SAct) : SFault := if l.length > 200 then ⟨2, 0⟩ else match chk l [] 0 with | .inl [] => ⟨0, 0⟩ | .inl _ => ⟨10, l.length⟩ | .inr f => f
theorem check_eq (l : List SAct) (K : Nat) (hK : 300 < K) : locks_Check.f K l = some (chkF l) := by
  unfold locks_Check.f chkF
  by_cases h : l.length > 200
  · rw [if_pos (by omega), if_pos h]
  · rw [if_neg (by omega), if_neg h, check_rounds l (by omega) K hK _ K 0 [] rfl (Nat.zero_le _) (by omega) (Nat.zero_le _), List.drop_zero]
    cases chk l [] 0 with
    | inl m =>
      cases m with
      | nil => rfl
      | cons x m => simp only [List.length_cons, if_pos (show ((m.length + 1 : Nat) : Int) > 0 by omega)]
    | inr f => rfl
theorem acts_eq (l : List SAct) (K : Nat) (hK : 300 < K) : punctualref_CheckActs.f K l = some (chkF l) := by
  unfold punctualref_CheckActs.f chkF
  by_cases h : l.length > 200
  · rw [if_pos (by omega), if_pos h]; rfl
  · obtain ⟨r, h1, h2⟩ := acts_rounds l (by omega) K hK _ K 0 ⟨#[]⟩ rfl (Nat.zero_le _) (by omega) (Nat.zero_le _)
    rw [if_neg (by omega), if_neg h, h1]
    rw [List.drop_zero] at h2
    have h0 : bytesI ⟨#[]⟩ = [] := rfl
    rw [h0] at h2
    cases r with
    | inl s =>
      rw [h2]
      by_cases hs : s.size = 0
      · have hb : bytesI s = [] := List.eq_nil_of_length_eq_zero (by rw [bytesI_len, hs])
        simp only [if_pos (ba_empty.2 hs), hb]
      · simp only [if_neg (fun h0 => hs (ba_empty.1 h0))]
        cases hb : bytesI s with
        | nil => exact absurd (by rw [← bytesI_len, hb]; rfl) hs
        | cons x m => rfl
    | inr f => rw [h2]
theorem chk_code (l : List SAct) : ∀ (m : List Int) (i : Nat) (f : SFault), chk l m i = .inr f → f.Code ≠ 0 := by
  induction l with
  | nil => intro m i f h; simp [chk] at h
  | cons a l ih =>
    intro m i f h
    simp only [chk] at h
    (repeat' split at h) <;> first | exact ih _ _ _ h | (injection h with h; subst h; exact fun h => by cases h)
theorem chkF_ok (l : List SAct) (h : (chkF l).Code = 0) : l.length ≤ 200 ∧ chk l [] 0 = .inl [] ∧ chkF l = ⟨0, 0⟩ := by
  unfold chkF at h ⊢
  by_cases hl : l.length > 200
  · rw [if_pos hl] at h; exact absurd h (by decide)
  · rw [if_neg hl] at h ⊢
    cases hc : chk l [] 0 with
    | inl m =>
      rw [hc] at h
      cases m with
      | nil => exact ⟨by omega, rfl, rfl⟩
      | cons x m => exact absurd h (fun h => by cases h)
    | inr f => rw [hc] at h; exact absurd h (chk_code l _ _ _ hc)
/-- the longest stretch, told in two ways -/
theorem stretch_rounds (l : List SAct) (hl : l.length ≤ 200) : ∀ (k K i : Nat) (m : List Int) (w n : Int), l.length - i = k → i ≤ l.length → k < K → m.length ≤ i → chk (l.drop i) m i = .inl [] → 0 ≤ n → n ≤ 1000 * i → (m = [] → n = 0) → 0 ≤ w → w ≤ 1000000 →
    ∃ z, iter (locks_Longest.r0 l) K (w, n, (m.length : Int), i) = some (.inl z) ∧ iter (punctualref_Stretch.r0 l) K (gmax w n, n, (m.length : Int), i) = some (.inl z) := by
  intro k
  induction k with
  | zero =>
    intro K i m w n h1 h2 h3 h4 hc hn0 hn1 hmn hw0 hw1
    obtain ⟨K, rfl⟩ : ∃ q, K = q + 1 := ⟨K - 1, by omega⟩
    have hi : i = l.length := by omega
    subst hi
    rw [List.drop_length] at hc
    simp only [chk, Sum.inl.injEq] at hc
    have hn := hmn hc
    subst hn
    have hg : gmax w 0 = w := by unfold gmax; rw [if_neg (by omega)]
    refine ⟨w, ?_, ?_⟩
    · simp only [iter, locks_Longest.r0, if_neg (show ¬ (l.length : Int) < (l.length : Int) by omega)]
    · simp only [iter, punctualref_Stretch.r0, if_neg (show ¬ (l.length : Int) < (l.length : Int) by omega), hg]
  | succ k ih =>
    intro K i m w n h1 h2 h3 h4 hc hn0 hn1 hmn hw0 hw1
    obtain ⟨K, rfl⟩ : ∃ q, K = q + 1 := ⟨K - 1, by omega⟩
    have hi : i < l.length := by omega
    have ha : l[i]? = some l[i] := List.getElem?_eq_getElem hi
    rw [drop_get ha] at hc
    generalize l[i] = a at ha hc
    simp only [chk] at hc
    simp only [iter, locks_Longest.r0, punctualref_Stretch.r0, punctualref_Stretch.p1, if_pos (show (i : Int) < (l.length : Int) by omega), ha]
    have gm : ∀ x y : Int, gmax x y = if y > x then y else x := fun _ _ => rfl
    by_cases d1 : a.Do = 1
    · have d2 : ¬ a.Do = 2 := by omega
      have d3 : ¬ a.Do = 3 := by omega
      simp only [if_pos d1, if_neg d2, if_neg d3] at hc ⊢
      by_cases hN : a.N < 1 ∨ a.N > 1000
      · rw [if_pos hN] at hc; cases hc
      rw [if_neg hN] at hc
      by_cases ho : (m.length : Int) > 0
      · have hwr : IntKind.i64.wrap (n + a.N) = n + a.N := wrap64_small (by omega) (by omega)
        have hz : ¬ (m.length : Int) = 0 := by omega
        obtain ⟨z, g1, g2⟩ := ih K (i + 1) m w (n + a.N) (by omega) (by omega) (by omega) (by omega) hc (by omega) (by omega) (fun h0 => by subst h0; simp at ho) hw0 hw1
        refine ⟨z, by simp only [if_pos ho, hwr]; exact g1, ?_⟩
        simp only [if_pos ho, hwr, if_neg hz]
        rw [gm] at g2 ⊢
        by_cases c1 : n > w <;> by_cases c2 : n + a.N > w <;> simp only [c1, c2, if_true, if_false] at g2 ⊢
        · rw [if_pos (show n + a.N > n by omega)]; exact g2
        · omega
        · exact g2
        · exact g2
      · have hm0 : m = [] := List.eq_nil_of_length_eq_zero (by omega)
        have hn := hmn hm0
        subst hn
        have hz : (m.length : Int) = 0 := by omega
        obtain ⟨z, g1, g2⟩ := ih K (i + 1) m w 0 (by omega) (by omega) (by omega) (by omega) hc (by omega) (by omega) (fun _ => rfl) hw0 hw1
        refine ⟨z, by simp only [if_neg ho]; exact g1, ?_⟩
        have hg : gmax w 0 = w := by unfold gmax; rw [if_neg (by omega)]
        rw [hg] at g2 ⊢
        simp only [if_neg ho, if_neg (show ¬ (0 : Int) > w by omega), if_pos hz]
        exact g2
    simp only [if_neg d1] at hc ⊢
    by_cases d2 : a.Do = 2
    · have d3 : ¬ a.Do = 3 := by omega
      simp only [if_pos d2, if_neg d3] at hc ⊢
      by_cases hN : a.N < 0 ∨ a.N > 3
      · rw [if_pos hN] at hc; cases hc
      rw [if_neg hN] at hc
      by_cases hm : a.N ∈ m
      · rw [if_pos hm] at hc; cases hc
      rw [if_neg hm] at hc
      have hwr : IntKind.i64.wrap ((m.length : Int) + 1) = (((m ++ [a.N]).length : Nat) : Int) := by rw [wrap64_small (by omega) (by omega)]; simp
      have hz : ¬ (((m ++ [a.N]).length : Nat) : Int) = 0 := by simp; omega
      obtain ⟨z, g1, g2⟩ := ih K (i + 1) (m ++ [a.N]) w n (by omega) (by omega) (by omega) (by simp; omega) hc hn0 (by omega) (fun h0 => by simp at h0) hw0 hw1
      refine ⟨z, by simp only [hwr]; exact g1, ?_⟩
      simp only [hwr, if_neg hz]
      rw [gm] at g2 ⊢
      by_cases c1 : n > w <;> simp only [c1, if_true, if_false] at g2 ⊢
      · rw [if_neg (show ¬ n > n by omega)]; exact g2
      · exact g2
    simp only [if_neg d2] at hc ⊢
    by_cases d3 : a.Do = 3
    · simp only [if_pos d3] at hc ⊢
      by_cases hg : m.getLast? = some a.N
      · rw [if_pos hg] at hc
        have hm : m ≠ [] := fun h0 => by subst h0; simp at hg
        have hpos : 0 < m.length := List.length_pos_iff.2 hm
        have hwr : IntKind.i64.wrap ((m.length : Int) - 1) = ((m.dropLast.length : Nat) : Int) := by rw [wrap64_small (by omega) (by omega)]; simp; omega
        by_cases hz : ((m.dropLast.length : Nat) : Int) = 0
        · have hd : m.dropLast = [] := List.eq_nil_of_length_eq_zero (by omega)
          have hgw : 0 ≤ gmax w n ∧ gmax w n ≤ 1000000 := by rw [gm]; split <;> omega
          obtain ⟨z, g1, g2⟩ := ih K (i + 1) m.dropLast (gmax w n) 0 (by omega) (by omega) (by omega) (by simp; omega) hc (by omega) (by omega) (fun _ => rfl) hgw.1 hgw.2
          have hg0 : gmax (gmax w n) 0 = gmax w n := by rw [gm (gmax w n)]; rw [if_neg (by omega)]
          rw [hg0] at g2
          refine ⟨z, by simp only [hwr, if_pos hz]; exact g1, ?_⟩
          simp only [hwr, if_pos hz]
          rw [gm] at g2 ⊢
          by_cases c1 : n > w <;> simp only [c1, if_true, if_false] at g2 ⊢
          · rw [if_neg (show ¬ n > n by omega)]; exact g2
          · exact g2
        · obtain ⟨z, g1, g2⟩ := ih K (i + 1) m.dropLast w n (by omega) (by omega) (by omega) (by simp; omega) hc hn0 (by omega) (fun h0 => by rw [h0] at hz; simp at hz) hw0 hw1
          refine ⟨z, by simp only [hwr, if_neg hz]; exact g1, ?_⟩
          simp only [hwr, if_neg hz]
          rw [gm] at g2 ⊢
          by_cases c1 : n > w <;> simp only [c1, if_true, if_false] at g2 ⊢
          · rw [if_neg (show ¬ n > n by omega)]; exact g2
          · exact g2
      · rw [if_neg hg] at hc; cases hc
    · rw [if_neg d3] at hc; cases hc
theorem stretch_eq (l : List SAct) (K : Nat) (hK : 300 < K) (h : (chkF l).Code = 0) : ∃ z, locks_Longest.f K l = some (z, ⟨0, 0⟩) ∧ punctualref_Stretch.f K l = some z := by
  obtain ⟨hl, hc, hf⟩ := chkF_ok l h
  obtain ⟨z, g1, g2⟩ := stretch_rounds l hl _ K 0 [] 0 0 rfl (Nat.zero_le _) (by omega) (Nat.zero_le _) (by rw [List.drop_zero]; exact hc) (by omega) (by omega) (fun _ => rfl) (by omega) (by omega)
  refine ⟨z, ?_, ?_⟩
  · unfold locks_Longest.f
    rw [check_eq l K hK]
    simp only [if_pos h]
    have g1' : iter (locks_Longest.r0 l) K (0, 0, 0, 0) = some (.inl z) := g1
    rw [g1']
  · unfold punctualref_Stretch.f
    have g2' : iter (punctualref_Stretch.r0 l) K (0, 0, 0, 0) = some (.inl z) := g2
    rw [g2']
/-- all jobs -/
def chkAll : List SLocked → Nat → Option SFault
  | [], _ => none
  | j :: l, i => if j.At < 0 ∨ j.At > 20000 ∨ j.P < 0 ∨ j.P > 1000 then some ⟨3, i⟩ else if (chkF j.Acts).Code = 0 then chkAll l (i + 1) else some ⟨(chkF j.Acts).Code, i⟩
theorem all_rounds (l : List SLocked) (K0 : Nat) (hK0 : 300 < K0) : ∀ (k K i : Nat), l.length - i = k → i ≤ l.length → k < K → iter (locks_checkAll.r0 K0 l) K i = some (match chkAll (l.drop i) i with | none => .inl () | some f => .inr f) := by
  intro k
  induction k with
  | zero =>
    intro K i h1 h2 h3
    obtain ⟨K, rfl⟩ : ∃ q, K = q + 1 := ⟨K - 1, by omega⟩
    have hi : i = l.length := by omega
    subst hi
    rw [List.drop_length]
    simp only [iter, locks_checkAll.r0, if_neg (show ¬ (l.length : Int) < (l.length : Int) by omega), chkAll]
  | succ k ih =>
    intro K i h1 h2 h3
    obtain ⟨K, rfl⟩ : ∃ q, K = q + 1 := ⟨K - 1, by omega⟩
    have hi : i < l.length := by omega
    have ha : l[i]? = some l[i] := List.getElem?_eq_getElem hi
    rw [drop_get ha]
    generalize l[i] = a at ha
    simp only [iter, locks_checkAll.r0, if_pos (show (i : Int) < (l.length : Int) by omega), ha, chkAll, check_eq a.Acts K0 hK0]
    by_cases c1 : a.At < 0
    · simp [c1]
    by_cases c2 : a.At > 20000
    · simp [c1, c2]
    by_cases c3 : a.P < 0
    · simp [c1, c2, c3]
    by_cases c4 : a.P > 1000
    · simp [c1, c2, c3, c4]
    simp only [c1, c2, c3, c4, if_false, or_self]
    by_cases c5 : (chkF a.Acts).Code = 0
    · simp only [if_pos c5]
      exact ih K (i + 1) (by omega) (by omega) (by omega)
    · simp only [if_neg c5]
def chkAllF (l : List SLocked) : SFault := if l.length > 100 then ⟨2, 0⟩ else (chkAll l 0).getD ⟨0, 0⟩
theorem all_eq (l : List SLocked) (K : Nat) (hK : 300 < K) : locks_checkAll.f K l = some (chkAllF l) := by
  unfold locks_checkAll.f chkAllF
  by_cases h : l.length > 100
  · rw [if_pos (by omega), if_pos h]
  · rw [if_neg (by omega), if_neg h, all_rounds l K hK _ K 0 rfl (Nat.zero_le _) (by omega), List.drop_zero]
    cases chkAll l 0 <;> rfl
theorem locked_eq (l : List SLocked) (K : Nat) (hK : 300 < K) : punctualref_CheckLocked.f K l = some (chkAllF l) := by
  rw [← all_eq l K hK]
  unfold punctualref_CheckLocked.f locks_checkAll.f
  have hr : punctualref_CheckLocked.r0 K l = locks_checkAll.r0 K l := by
    funext i
    simp only [punctualref_CheckLocked.r0, locks_checkAll.r0, check_eq _ K hK, acts_eq _ K hK, punctualref_F.f] <;> rfl
  rw [hr]
  rfl
theorem chkAll_none : ∀ (l : List SLocked) (i : Nat), chkAll l i = none → ∀ j ∈ l, 0 ≤ j.P ∧ j.P ≤ 1000 ∧ 0 ≤ j.At ∧ (chkF j.Acts).Code = 0
  | [], _, _, j, hj => by cases hj
  | a :: l, i, h, j, hj => by
    simp only [chkAll] at h
    split at h
    · cases h
    · rename_i hc
      split at h
      · rename_i hok
        rcases List.mem_cons.1 hj with rfl | hj
        · exact ⟨by omega, by omega, by omega, hok⟩
        · exact chkAll_none l _ h j hj
      · cases h
theorem chkAll_code : ∀ (l : List SLocked) (i : Nat) (f : SFault), chkAll l i = some f → f.Code ≠ 0
  | [], _, f, h => by cases h
  | a :: l, i, f, h => by
    simp only [chkAll] at h
    split at h
    · injection h with h; subst h; exact fun h => by cases h
    · split at h
      · exact chkAll_code l _ f h
      · rename_i hc; injection h with h; subst h; exact hc
theorem chkAllF_ok (l : List SLocked) (h : (chkAllF l).Code = 0) : l.length ≤ 100 ∧ chkAllF l = ⟨0, 0⟩ ∧ ∀ j ∈ l, 0 ≤ j.P ∧ j.P ≤ 1000 ∧ 0 ≤ j.At ∧ (chkF j.Acts).Code = 0 := by
  unfold chkAllF at h ⊢
  by_cases hl : l.length > 100
  · rw [if_pos hl] at h; exact absurd h (by decide)
  · rw [if_neg hl] at h ⊢
    cases hc : chkAll l 0 with
    | none => exact ⟨by omega, rfl, chkAll_none l 0 hc⟩
    | some f => rw [hc] at h; exact absurd h (chkAll_code l 0 f hc)
/-- what is taken is a lock -/
theorem chk_takes (l : List SAct) : ∀ (m : List Int) (i : Nat) (r : List Int), chk l m i = .inl r → ∀ a ∈ l, a.Do = 2 → 0 ≤ a.N ∧ a.N ≤ 3 := by
  induction l with
  | nil => intro m i r _ a ha; cases ha
  | cons b l ih =>
    intro m i r h a ha hd
    simp only [chk] at h
    rcases List.mem_cons.1 ha with rfl | ha
    · rw [if_neg (by omega), if_pos hd] at h
      split at h
      · cases h
      · omega
    · (repeat' split at h) <;> first | exact ih _ _ _ h a ha hd | cases h
/-- the ceiling of one lock -/
def topStep (m P acc : Int) (a : SAct) : Int := if a.Do = 2 ∧ a.N = m then gmax acc P else acc
def topA (m P : Int) (l : List SAct) (acc : Int) : Int := l.foldl (topStep m P) acc
def topJ (m : Int) (l : List SLocked) (acc : Int) : Int := l.foldl (fun acc j => topA m j.P j.Acts acc) acc
theorem ceil_inner (e : SLocked) (h : ∀ a ∈ e.Acts, a.Do = 2 → 0 ≤ a.N ∧ a.N ≤ 3) : ∀ (k K i : Nat) (f : Int → Int), e.Acts.length - i = k → i ≤ e.Acts.length → k < K → iter (locks_ceilings.r1 e) K (i, [f 0, f 1, f 2, f 3]) = some (.inl [topA 0 e.P (e.Acts.drop i) (f 0), topA 1 e.P (e.Acts.drop i) (f 1), topA 2 e.P (e.Acts.drop i) (f 2), topA 3 e.P (e.Acts.drop i) (f 3)]) := by
  intro k
  induction k with
  | zero =>
    intro K i f h1 h2 h3
    obtain ⟨K, rfl⟩ : ∃ q, K = q + 1 := ⟨K - 1, by omega⟩
    have hi : i = e.Acts.length := by omega
    subst hi
    rw [List.drop_length]
    simp only [iter, locks_ceilings.r1, if_neg (show ¬ (e.Acts.length : Int) < (e.Acts.length : Int) by omega), topA, List.foldl_nil]
  | succ k ih =>
    intro K i f h1 h2 h3
    obtain ⟨K, rfl⟩ : ∃ q, K = q + 1 := ⟨K - 1, by omega⟩
    have hi : i < e.Acts.length := by omega
    have ha : e.Acts[i]? = some e.Acts[i] := List.getElem?_eq_getElem hi
    have hmem := List.getElem_mem hi
    rw [drop_get ha]
    generalize e.Acts[i] = a at ha hmem
    simp only [iter, locks_ceilings.r1, if_pos (show (i : Int) < (e.Acts.length : Int) by omega), ha, topA, List.foldl_cons]
    by_cases d2 : a.Do = 2
    · obtain ⟨n0, n1⟩ := h a hmem d2
      simp only [if_pos d2, if_pos n0, topStep, d2, true_and]
      have hn : a.N = 0 ∨ a.N = 1 ∨ a.N = 2 ∨ a.N = 3 := by omega
      have key := ih K (i + 1) (fun q => if a.N = q then gmax (f q) e.P else f q) (by omega) (by omega) (by omega)
      rcases hn with hn | hn | hn | hn <;> simp only [hn] at key ⊢ <;> exact key
    · simp only [if_neg d2, topStep, d2, false_and, if_false]
      exact ih K (i + 1) f (by omega) (by omega) (by omega)
theorem ceil_outer (l : List SLocked) (h : ∀ j ∈ l, (j.Acts.length ≤ 200) ∧ ∀ a ∈ j.Acts, a.Do = 2 → 0 ≤ a.N ∧ a.N ≤ 3) (K0 : Nat) (hK0 : 300 < K0) : ∀ (k K i : Nat) (f : Int → Int), l.length - i = k → i ≤ l.length → k < K → iter (locks_ceilings.r0 K0 l) K (i, [f 0, f 1, f 2, f 3]) = some (.inl [topJ 0 (l.drop i) (f 0), topJ 1 (l.drop i) (f 1), topJ 2 (l.drop i) (f 2), topJ 3 (l.drop i) (f 3)]) := by
  intro k
  induction k with
  | zero =>
    intro K i f h1 h2 h3
    obtain ⟨K, rfl⟩ : ∃ q, K = q + 1 := ⟨K - 1, by omega⟩
    have hi : i = l.length := by omega
    subst hi
    rw [List.drop_length]
    simp only [iter, locks_ceilings.r0, if_neg (show ¬ (l.length : Int) < (l.length : Int) by omega), topJ, List.foldl_nil]
  | succ k ih =>
    intro K i f h1 h2 h3
    obtain ⟨K, rfl⟩ : ∃ q, K = q + 1 := ⟨K - 1, by omega⟩
    have hi : i < l.length := by omega
    have ha : l[i]? = some l[i] := List.getElem?_eq_getElem hi
    have hmem := List.getElem_mem hi
    rw [drop_get ha]
    generalize l[i] = a at ha hmem
    obtain ⟨b1, b2⟩ := h a hmem
    have hin := ceil_inner a b2 _ K0 0 f rfl (Nat.zero_le _) (by omega)
    simp only [List.drop_zero] at hin
    simp only [iter, locks_ceilings.r0, if_pos (show (i : Int) < (l.length : Int) by omega), ha, hin, topJ, List.foldl_cons]
    exact ih K (i + 1) (fun q => topA q a.P a.Acts (f q)) (by omega) (by omega) (by omega)
theorem tops_inner (z : Int) (e : SLocked) (hz : 0 ≤ z) : ∀ (k K i : Nat) (m : List Int) (v : Int), e.Acts.length - i = k → i ≤ e.Acts.length → k < K → m[z.toNat]? = some v → iter (punctualref_Tops.r2 z e) K (i, m) = some (.inl (m.set z.toNat (topA z e.P (e.Acts.drop i) v))) := by
  intro k
  induction k with
  | zero =>
    intro K i m v h1 h2 h3 hv
    obtain ⟨K, rfl⟩ : ∃ q, K = q + 1 := ⟨K - 1, by omega⟩
    have hi : i = e.Acts.length := by omega
    subst hi
    rw [List.drop_length]
    have hs : m.set z.toNat v = m := by
      apply List.ext_getElem?
      intro q
      rw [List.getElem?_set]
      split
      · rename_i hq; subst hq; rw [if_pos (lt_of_get hv), hv]
      · rfl
    simp only [iter, punctualref_Tops.r2, if_neg (show ¬ (e.Acts.length : Int) < (e.Acts.length : Int) by omega), topA, List.foldl_nil, hs]
  | succ k ih =>
    intro K i m v h1 h2 h3 hv
    obtain ⟨K, rfl⟩ : ∃ q, K = q + 1 := ⟨K - 1, by omega⟩
    have hi : i < e.Acts.length := by omega
    have ha : e.Acts[i]? = some e.Acts[i] := List.getElem?_eq_getElem hi
    rw [drop_get ha]
    generalize e.Acts[i] = a at ha
    simp only [iter, punctualref_Tops.r2, if_pos (show (i : Int) < (e.Acts.length : Int) by omega), ha, topA, List.foldl_cons, topStep]
    by_cases d2 : a.Do = 2
    · by_cases dz : a.N = z
      · simp only [if_pos d2, if_pos dz, if_pos hz, hv, d2, dz, and_self, if_true, gmax]
        by_cases hp : e.P > v
        · simp only [if_pos hp]
          have := ih K (i + 1) (m.set z.toNat e.P) e.P (by omega) (by omega) (by omega) (by rw [List.getElem?_set, if_pos rfl, if_pos (lt_of_get hv)])
          rw [this, List.set_set]; rfl
        · simp only [if_neg hp]
          exact ih K (i + 1) m v (by omega) (by omega) (by omega) hv
      · simp only [if_pos d2, if_neg dz, d2, dz, and_false, if_false]
        exact ih K (i + 1) m v (by omega) (by omega) (by omega) hv
    · simp only [if_neg d2, d2, false_and, if_false]
      exact ih K (i + 1) m v (by omega) (by omega) (by omega) hv
theorem tops_middle (z : Int) (l : List SLocked) (hz : 0 ≤ z) (h : ∀ j ∈ l, j.Acts.length ≤ 200) (K0 : Nat) (hK0 : 300 < K0) : ∀ (k K i : Nat) (m : List Int) (v : Int), l.length - i = k → i ≤ l.length → k < K → m[z.toNat]? = some v → iter (punctualref_Tops.r1 K0 l z) K (i, m) = some (.inl (m.set z.toNat (topJ z (l.drop i) v))) := by
  intro k
  induction k with
  | zero =>
    intro K i m v h1 h2 h3 hv
    obtain ⟨K, rfl⟩ : ∃ q, K = q + 1 := ⟨K - 1, by omega⟩
    have hi : i = l.length := by omega
    subst hi
    rw [List.drop_length]
    have hs : m.set z.toNat v = m := by
      apply List.ext_getElem?
      intro q
      rw [List.getElem?_set]
      split
      · rename_i hq; subst hq; rw [if_pos (lt_of_get hv), hv]
      · rfl
    simp only [iter, punctualref_Tops.r1, if_neg (show ¬ (l.length : Int) < (l.length : Int) by omega), topJ, List.foldl_nil, hs]
  | succ k ih =>
    intro K i m v h1 h2 h3 hv
    obtain ⟨K, rfl⟩ : ∃ q, K = q + 1 := ⟨K - 1, by omega⟩
    have hi : i < l.length := by omega
    have ha : l[i]? = some l[i] := List.getElem?_eq_getElem hi
    have hmem := List.getElem_mem hi
    rw [drop_get ha]
    generalize l[i] = a at ha hmem
    have hin := tops_inner z a hz _ K0 0 m v rfl (Nat.zero_le _) (by have := h a hmem; omega) hv
    rw [List.drop_zero] at hin
    simp only [iter, punctualref_Tops.r1, if_pos (show (i : Int) < (l.length : Int) by omega), ha, hin, topJ, List.foldl_cons]
    have := ih K (i + 1) (m.set z.toNat (topA z a.P a.Acts v)) _ (by omega) (by omega) (by omega) (by rw [List.getElem?_set, if_pos rfl, if_pos (lt_of_get hv)])
    rw [this, List.set_set]; rfl
theorem tops_eq (l : List SLocked) (h : (chkAllF l).Code = 0) (K : Nat) (hK : 300 < K) : locks_ceilings.f K l = some [topJ 0 l (-1), topJ 1 l (-1), topJ 2 l (-1), topJ 3 l (-1)] ∧ punctualref_Tops.f K l = some [topJ 0 l (-1), topJ 1 l (-1), topJ 2 l (-1), topJ 3 l (-1)] := by
  obtain ⟨hl, hf, hj⟩ := chkAllF_ok l h
  have hb : ∀ j ∈ l, j.Acts.length ≤ 200 ∧ ∀ a ∈ j.Acts, a.Do = 2 → 0 ≤ a.N ∧ a.N ≤ 3 := fun j hj' => by
    obtain ⟨h1, h2, _⟩ := chkF_ok j.Acts (hj j hj').2.2.2
    exact ⟨h1, chk_takes _ _ _ _ h2⟩
  refine ⟨?_, ?_⟩
  · have := ceil_outer l hb K hK _ K 0 (fun _ => -1) rfl (Nat.zero_le _) (by omega)
    rw [List.drop_zero] at this
    unfold locks_ceilings.f
    rw [this]
  · have t0 := tops_middle 0 l (by omega) (fun j hj' => (hb j hj').1) K hK _ K 0 [-1, -1, -1, -1] (-1) rfl (Nat.zero_le _) (by omega) rfl
    have t1 := tops_middle 1 l (by omega) (fun j hj' => (hb j hj').1) K hK _ K 0 [topJ 0 l (-1), -1, -1, -1] (-1) rfl (Nat.zero_le _) (by omega) rfl
    have t2 := tops_middle 2 l (by omega) (fun j hj' => (hb j hj').1) K hK _ K 0 [topJ 0 l (-1), topJ 1 l (-1), -1, -1] (-1) rfl (Nat.zero_le _) (by omega) rfl
    have t3 := tops_middle 3 l (by omega) (fun j hj' => (hb j hj').1) K hK _ K 0 [topJ 0 l (-1), topJ 1 l (-1), topJ 2 l (-1), -1] (-1) rfl (Nat.zero_le _) (by omega) rfl
    rw [List.drop_zero] at t0 t1 t2 t3
    have s0 : ([-1, -1, -1, -1] : List Int).set (Int.toNat 0) (topJ 0 l (-1)) = [topJ 0 l (-1), -1, -1, -1] := rfl
    have s1 : ([topJ 0 l (-1), -1, -1, -1] : List Int).set (Int.toNat 1) (topJ 1 l (-1)) = [topJ 0 l (-1), topJ 1 l (-1), -1, -1] := rfl
    have s2 : ([topJ 0 l (-1), topJ 1 l (-1), -1, -1] : List Int).set (Int.toNat 2) (topJ 2 l (-1)) = [topJ 0 l (-1), topJ 1 l (-1), topJ 2 l (-1), -1] := rfl
    have s3 : ([topJ 0 l (-1), topJ 1 l (-1), topJ 2 l (-1), -1] : List Int).set (Int.toNat 3) (topJ 3 l (-1)) = [topJ 0 l (-1), topJ 1 l (-1), topJ 2 l (-1), topJ 3 l (-1)] := rfl
    rw [s0] at t0; rw [s1] at t1; rw [s2] at t2; rw [s3] at t3
    have hlen : ((([(-1), (-1), (-1), (-1)] : List Int).length : Nat) : Int) = 4 := rfl
    have w0 : IntKind.i64.wrap (0 + 1) = 1 := by decide
    have w1 : IntKind.i64.wrap (1 + 1) = 2 := by decide
    have w2 : IntKind.i64.wrap (2 + 1) = 3 := by decide
    have w3 : IntKind.i64.wrap (3 + 1) = 4 := by decide
    have key : ∀ Q, iter (punctualref_Tops.r0 K l) (Q + 5) (0, [-1, -1, -1, -1]) = some (.inl [topJ 0 l (-1), topJ 1 l (-1), topJ 2 l (-1), topJ 3 l (-1)]) := by
      intro Q
      simp only [iter, punctualref_Tops.r0, hlen, if_pos (show (0 : Int) < 4 by decide), if_pos (show (1 : Int) < 4 by decide), if_pos (show (2 : Int) < 4 by decide), if_pos (show (3 : Int) < 4 by decide), if_neg (show ¬ (4 : Int) < 4 by decide), w0, w1, w2, w3, t0, t1, t2, t3]
    have := key (K - 5)
    rw [show K - 5 + 5 = K by omega] at this
    unfold punctualref_Tops.f
    rw [this]
/-- jobs in memory of their own are the same -/
theorem acts_twin (l : List SLocked) (hl : l.length ≤ 5000) (hok : ∀ y ∈ l, Ok.ok y) (K : Nat) (hK : 5010 < K) : punctualsame_Acts.f K l = some l := by
  have key : ∀ (k K i : Nat), l.length - i = k → i ≤ l.length → k < K → iter (punctualsame_Acts.r0 l) K (l.take i, i) = some (.inl l) := by
    intro k
    induction k with
    | zero =>
      intro K i h1 h2 h3
      obtain ⟨K, rfl⟩ : ∃ q, K = q + 1 := ⟨K - 1, by omega⟩
      have hi : i = l.length := by omega
      subst hi
      rw [List.take_length]
      simp only [iter, punctualsame_Acts.r0, if_neg (show ¬ (l.length : Int) < (l.length : Int) by omega)]
    | succ k ih =>
      intro K i h1 h2 h3
      obtain ⟨K, rfl⟩ : ∃ q, K = q + 1 := ⟨K - 1, by omega⟩
      have hi : i < l.length := by omega
      have ha : l[i]? = some l[i] := List.getElem?_eq_getElem hi
      have hb := hok l[i] (List.getElem_mem hi)
      have hb2 : l[i].Acts.length * 16 ≤ 140737488351232 := hb.2.2.1.1
      have ht : l.take i ++ [l[i]] = l.take (i + 1) := (List.take_succ_eq_append_getElem hi).symm
      simp only [iter, punctualsame_Acts.r0, if_pos (show (i : Int) < (l.length : Int) by omega), ha, if_pos (show 0 + l[i].Acts.length ≤ 8796093022208 by omega), if_pos (show (l.take i).length < 3518437208883 by rw [List.length_take]; omega), ht]
      exact ih K (i + 1) (by omega) (by omega) (by omega)
  have := key _ K 0 rfl (Nat.zero_le _) (by omega)
  rw [List.take_zero] at this
  unfold punctualsame_Acts.f
  rw [this]
theorem sameActs_self (l : List SLocked) (K : Nat) (hl : l.length < K) (hK : ∀ y ∈ l, y.Acts.length < K) : punctualsame_SameActs.f K l l = some true := by
  have hr := iter_first0 (f := punctualsame_SameActs.r0 K l l) (fun _ => none) l.length (t := ()) (fun i hi => by
    have h' : (i : Int) < (l.length : Int) := by omega
    simp only [punctualsame_SameActs.r0, if_pos h', List.getElem?_eq_getElem hi, if_true, punctualsame_Same_api_Act_self _ K (hK _ (List.getElem_mem hi)), onward]) (by
    have h' : ¬ (l.length : Int) < (l.length : Int) := by omega
    simp only [punctualsame_SameActs.r0, if_neg h']) hl
  rw [firstOf_none_of (fun _ _ _ => rfl)] at hr
  simp only [punctualsame_SameActs.f, if_true, hr, leave]

theorem LocksChecks_law (l : List SAct) (js : List SLocked) (hl : ∀ y ∈ l, Ok.ok y) (hj : ∀ y ∈ js, Ok.ok y) : ∃ K, LocksChecks.f K l js = some true := by
  refine ⟨18446744073709551616, ?_⟩
  have c1 : locks_Ceilings.f 18446744073709551616 pair.f = some ([2, -1, -1, -1], ⟨0, 0⟩) := by kernel_rfl
  have c2 : pair.f[0]? = some ⟨0, 1, [⟨1, 1⟩, ⟨2, 0⟩, ⟨1, 3⟩, ⟨3, 0⟩]⟩ := rfl
  have c3 : locks_Longest.f 18446744073709551616 [⟨1, 1⟩, ⟨2, 0⟩, ⟨1, 3⟩, ⟨3, 0⟩] = some (3, ⟨0, 0⟩) := by kernel_rfl
  have c4 : LocksChecks.p0 18446744073709551616 ([2, -1, -1, -1], ⟨0, 0⟩) (3, ⟨0, 0⟩) = some (.inl ()) := by kernel_rfl
  unfold LocksChecks.f
  rw [c1]; simp only []
  rw [c2]; simp only []
  rw [c3]; simp only []
  rw [c4]; simp only []
  unfold LocksChecks.p1
  by_cases f1 : few.f (l.length : Int) = true
  · by_cases f2 : few.f (js.length : Int) = true
    · rw [if_pos f1, if_pos f2]; simp only []
      have n1 := few_true f1
      have n2 := few_true f2
      obtain ⟨r3, hr3⟩ := punctualsame_Lend_api_Act_some l ⟨-9, 0⟩ n1
      rw [hr3]; simp only []
      rw [acts_eq l _ (by decide)]; simp only []
      have hst := punctualsame_Still_api_Act_true l ⟨-9, 0⟩ 18446744073709551616 n1 (by decide)
      have e1 : SFault.eqb (chkF l) (chkF l) = true := SFault.eqb_self _
      have hck := check_eq l 18446744073709551616 (by decide)
      have main : ∃ z r7, LocksChecks.p2 18446744073709551616 l (chkF l) = some (.inl z) ∧ locks_Longest.f 18446744073709551616 l = some r7 ∧ LocksChecks.p3 18446744073709551616 l (chkF l) z r7 = some (.inl ()) := by
        by_cases hc : (chkF l).Code = 0
        · obtain ⟨z, g1, g2⟩ := stretch_eq l 18446744073709551616 (by decide) hc
          obtain ⟨_, _, hf⟩ := chkF_ok l hc
          refine ⟨z, (z, ⟨0, 0⟩), ?_, g1, ?_⟩
          · unfold LocksChecks.p2; rw [if_pos hc, g2]
          · unfold LocksChecks.p3; rw [hck]; simp only []; rw [hf]; simp only [hst, if_true]; rfl
        · refine ⟨0, (0, chkF l), ?_, ?_, ?_⟩
          · unfold LocksChecks.p2; rw [if_neg hc]
          · unfold locks_Longest.f; rw [hck]; simp only []; rw [if_neg hc]
          · unfold LocksChecks.p3; rw [hck]; simp only [e1, hst, if_true]
      obtain ⟨z, r7, m1, m2, m3⟩ := main
      rw [m1]; simp only []
      rw [m2]; simp only []
      rw [m3]; simp only []
      rw [acts_twin js n2 hj _ (by decide)]; simp only []
      rw [locked_eq js _ (by decide)]
      have hall := all_eq js 18446744073709551616 (by decide)
      have hsame := sameActs_self js 18446744073709551616 (by omega) (fun y hy => by have h2 : y.Acts.length * 16 ≤ 140737488351232 := (hj y hy).2.2.1.1; omega)
      by_cases hc : (chkAllF js).Code = 0
      · obtain ⟨t1, t2⟩ := tops_eq js hc 18446744073709551616 (by decide)
        obtain ⟨_, hf, _⟩ := chkAllF_ok js hc
        have hC : locks_Ceilings.f 18446744073709551616 js = some ([topJ 0 js (-1), topJ 1 js (-1), topJ 2 js (-1), topJ 3 js (-1)], ⟨0, 0⟩) := by
          unfold locks_Ceilings.f; rw [hall]; simp only []; rw [if_pos hc, t1]
        rw [hC]; simp only []
        rw [hf]; simp only []
        rw [if_pos (show SFault.eqb ⟨0, 0⟩ ⟨0, 0⟩ = true from rfl), if_pos trivial, t2]; simp only []
        rw [punctualsame_Same_int_self _ _ (by simp)]; simp only [if_true]
        rw [hsame]
      · have hC : locks_Ceilings.f 18446744073709551616 js = some ([], chkAllF js) := by
          unfold locks_Ceilings.f; rw [hall]; simp only []; rw [if_neg hc]
        rw [hC]; simp only []
        rw [if_pos (SFault.eqb_self _), if_neg hc, if_pos (by rfl), hsame]
    · rw [if_pos f1, if_neg f2]
  · rw [if_neg f1]

end Go.Proofs.YtccfilmiboepjaaDoor.GV
