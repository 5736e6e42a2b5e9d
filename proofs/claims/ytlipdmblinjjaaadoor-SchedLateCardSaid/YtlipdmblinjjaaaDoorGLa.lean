/- The plain law of SchedLate: what it computes is true, of all lists. -/
import Derived.Test.YtlipdmblinjjaaaDoorGC
import Derived.Test.YtlipdmblinjjaaaDoorGv9
namespace Go.Proofs.YtlipdmblinjjaaaDoor.GV
open Go Go.RowKit
set_option linter.unusedVariables false
theorem few_true {n : Nat} (h : few.f (n : Int) = true) : n ≤ 5000 := by
  simp only [few.f, decide_eq_true_eq] at h; omega
theorem SameInt_self (l : List Int) (K : Nat) (hK : l.length < K) : SameInt.f K l l = some true := by
  obtain ⟨r, hr, rfl⟩ := iter_total (f := SameInt.r0 l l) (fun i => i ≤ l.length) (fun i => l.length - i) (fun r => r = .inl ()) (fun i hi => by
    by_cases h : i < l.length
    · left
      refine ⟨i + 1, ?_, by omega, by omega⟩
      have h' : (i : Int) < (l.length : Int) := by omega
      simp [SameInt.r0, h]
    · right
      refine ⟨.inl (), ?_, rfl⟩
      have h' : ¬ (i : Int) < (l.length : Int) := by omega
      simp only [SameInt.r0, if_neg h']) K 0 (Nat.zero_le _) (by simpa using hK)
  simp only [SameInt.f, if_true, hr]
theorem LendJob_some (l : List SJob) (a b c d e : Int) (h : l.length ≤ 5000) : ∃ r, LendJob.f l a b c d e = some r := by
  have hw : IntKind.i64.wrap ((l.length : Int) + 3) = (l.length : Int) + 3 := wrap64_small (by omega) (by omega)
  unfold LendJob.f
  rw [hw]
  rw [if_pos (by omega), if_pos (by omega), if_pos (by simp; omega), if_pos (by simp; omega)]
  exact ⟨_, rfl⟩
theorem LendInt_some (l : List Int) (a : Int) (h : l.length ≤ 5000) : ∃ r, LendInt.f l a = some r := by
  have hw : IntKind.i64.wrap ((l.length : Int) + 3) = (l.length : Int) + 3 := wrap64_small (by omega) (by omega)
  unfold LendInt.f
  rw [hw]
  rw [if_pos (by omega), if_pos (by omega), if_pos (by simp; omega), if_pos (by simp; omega)]
  exact ⟨_, rfl⟩
theorem SJob.eqb_self (x : SJob) : SJob.eqb x x = true := by simp [SJob.eqb]
theorem SFault.eqb_self (x : SFault) : SFault.eqb x x = true := by simp [SFault.eqb]
theorem StillJob_true (l : List SJob) (a b c d e : Int) (K : Nat) (hl : l.length ≤ 5000) (hK : l.length + 3 < K) : StillJob.f K (l ++ [⟨a, b, c, d, e⟩, ⟨a, b, c, d, e⟩, ⟨a, b, c, d, e⟩]) l a b c d e = some true := by
  have hw : IntKind.i64.wrap ((l.length : Int) + 3) = (l.length : Int) + 3 := wrap64_small (by omega) (by omega)
  obtain ⟨r, hr, rfl⟩ := iter_total (f := StillJob.r0 (l ++ [⟨a, b, c, d, e⟩, ⟨a, b, c, d, e⟩, ⟨a, b, c, d, e⟩]) l a b c d e) (fun i => i ≤ l.length + 3) (fun i => l.length + 3 - i) (fun r => r = .inl ()) (fun i hi => by
    by_cases h : i < l.length + 3
    · left
      refine ⟨i + 1, ?_, by omega, by omega⟩
      have h' : (i : Int) < ((l ++ [⟨a, b, c, d, e⟩, ⟨a, b, c, d, e⟩, ⟨a, b, c, d, e⟩] : List SJob).length : Int) := by simp; omega
      simp only [StillJob.r0, if_pos h']
      by_cases h2 : i < l.length
      · have h2' : (i : Int) < (l.length : Int) := by omega
        have h3 : ¬ (i : Int) ≥ (l.length : Int) := by omega
        rw [List.getElem?_append_left h2, List.getElem?_eq_getElem h2]
        simp only [if_pos h2', SJob.eqb_self, if_true, if_neg h3]
      · have h2' : ¬ (i : Int) < (l.length : Int) := by omega
        have h3 : (i : Int) ≥ (l.length : Int) := by omega
        rw [List.getElem?_append_right (by omega)]
        have : i - l.length = 0 ∨ i - l.length = 1 ∨ i - l.length = 2 := by omega
        rcases this with e | e | e <;> simp [e, h2', h3, SJob.eqb_self]
    · right
      refine ⟨.inl (), ?_, rfl⟩
      have h' : ¬ (i : Int) < ((l ++ [⟨a, b, c, d, e⟩, ⟨a, b, c, d, e⟩, ⟨a, b, c, d, e⟩] : List SJob).length : Int) := by simp; omega
      simp only [StillJob.r0, if_neg h']) K 0 (Nat.zero_le _) (by omega)
  have hlen : IntKind.i64.wrap ((l.length : Int) + 3) = ((l ++ [⟨a, b, c, d, e⟩, ⟨a, b, c, d, e⟩, ⟨a, b, c, d, e⟩] : List SJob).length : Int) := by rw [hw]; simp
  simp only [StillJob.f, if_pos hlen, hr]
theorem StillInt_true (l : List Int) (a : Int) (K : Nat) (hl : l.length ≤ 5000) (hK : l.length + 3 < K) : StillInt.f K (l ++ [a, a, a]) l a = some true := by
  have hw : IntKind.i64.wrap ((l.length : Int) + 3) = (l.length : Int) + 3 := wrap64_small (by omega) (by omega)
  obtain ⟨r, hr, rfl⟩ := iter_total (f := StillInt.r0 (l ++ [a, a, a]) l a) (fun i => i ≤ l.length + 3) (fun i => l.length + 3 - i) (fun r => r = .inl ()) (fun i hi => by
    by_cases h : i < l.length + 3
    · left
      refine ⟨i + 1, ?_, by omega, by omega⟩
      have h' : (i : Int) < ((l ++ [a, a, a] : List Int).length : Int) := by simp; omega
      simp only [StillInt.r0, if_pos h']
      by_cases h2 : i < l.length
      · have h2' : (i : Int) < (l.length : Int) := by omega
        have h3 : ¬ (i : Int) ≥ (l.length : Int) := by omega
        rw [List.getElem?_append_left h2, List.getElem?_eq_getElem h2]
        simp only [if_pos h2', if_true, if_neg h3]
      · have h2' : ¬ (i : Int) < (l.length : Int) := by omega
        have h3 : (i : Int) ≥ (l.length : Int) := by omega
        rw [List.getElem?_append_right (by omega)]
        have : i - l.length = 0 ∨ i - l.length = 1 ∨ i - l.length = 2 := by omega
        rcases this with e | e | e <;> simp [e, h2', h3]
    · right
      refine ⟨.inl (), ?_, rfl⟩
      have h' : ¬ (i : Int) < ((l ++ [a, a, a] : List Int).length : Int) := by simp; omega
      simp only [StillInt.r0, if_neg h']) K 0 (Nat.zero_le _) (by omega)
  have hlen : IntKind.i64.wrap ((l.length : Int) + 3) = ((l ++ [a, a, a] : List Int).length : Int) := by rw [hw]; simp
  simp only [StillInt.f, if_pos hlen, hr]
theorem Tardy_eq (K : Nat) (l0 : List SJob) (l1 l2 : List Int) : Tardy.f K l0 l1 l2 = Late.f K l0 l1 l2 := rfl
theorem Late_some (K : Nat) (l0 : List SJob) (l1 l2 : List Int) (h0 : l0.length ≤ 5000) (hK : l0.length < K) : ∃ r, Late.f K l0 l1 l2 = some r ∧ r.1.length ≤ l0.length := by
  unfold Late.f
  by_cases h : (l2.length : Int) = (l0.length : Int)
  · rw [if_pos h]
    obtain ⟨r, hr, m, rfl, hm⟩ := iter_total (f := Late.r0 l0 l1 l2) (fun s => s.2 ≤ l0.length ∧ s.1.length ≤ s.2) (fun s => l0.length - s.2) (fun r => ∃ m, r = .inl m ∧ m.length ≤ l0.length) (fun s hs => by
      obtain ⟨m, i⟩ := s
      obtain ⟨h1, h2⟩ := hs
      simp only at h1 h2
      by_cases hi : i < l0.length
      · left
        have hi' : (i : Int) < (l0.length : Int) := by omega
        have hi2 : i < l2.length := by omega
        have hm : m.length < 17592186044416 := by omega
        simp only [Late.r0, if_pos hi', List.getElem?_eq_getElem hi, List.getElem?_eq_getElem hi2, if_pos hm]
        split
        · exact ⟨_, rfl, by simp; omega, by simp; omega⟩
        · split
          · split
            · exact ⟨_, rfl, by simp; omega, by simp; omega⟩
            · exact ⟨_, rfl, by simp; omega, by simp; omega⟩
          · exact ⟨_, rfl, by simp; omega, by simp; omega⟩
      · right
        have hi' : ¬ (i : Int) < (l0.length : Int) := by omega
        simp only [Late.r0, if_neg hi']
        exact ⟨_, rfl, m, rfl, by omega⟩) K ([], 0) ⟨by simp, by simp⟩ (by simpa using hK)
    rw [hr]
    exact ⟨_, rfl, hm⟩
  · rw [if_neg h]
    exact ⟨_, rfl, by simp⟩
theorem SchedLate_law (l0 : List SJob) (l1 l2 : List Int) : ∃ K, SchedLate.f K l0 l1 l2 = some true := by
  refine ⟨5013, ?_⟩
  have h0 : SchedLate.p0 5013 = some (.inl ()) := by kernel_rfl
  unfold SchedLate.f
  simp only [h0]
  by_cases hf : few.f (l0.length : Int) = true ∧ few.f (l1.length : Int) = true ∧ few.f (l2.length : Int) = true
  · obtain ⟨h1, h2, h3⟩ := hf
    have hp : SchedLate.p1 l0 l1 l2 = some (.inl ()) := by simp only [SchedLate.p1, h1, h2, h3, if_true]
    have g1 := few_true h1
    have g2 := few_true h2
    have g3 := few_true h3
    obtain ⟨r1, e1⟩ := LendJob_some l0 (-9) 0 0 0 0 g1
    obtain ⟨r2, e2⟩ := LendInt_some l1 (-9) g2
    obtain ⟨r3, e3⟩ := LendInt_some l2 (-9) g3
    obtain ⟨r, e4, e5⟩ := Late_some 5013 l0 l1 l2 g1 (by omega)
    simp only [hp, e1, e2, e3, Tardy_eq, e4, SFault.eqb_self, if_true, SameInt_self r.1 5013 (by omega), StillJob_true l0 _ _ _ _ _ 5013 g1 (by omega), StillInt_true l1 _ 5013 g2 (by omega), StillInt_true l2 _ 5013 g3 (by omega)]
  · have hp : SchedLate.p1 l0 l1 l2 = some (.inr true) := by
      unfold SchedLate.p1
      split
      · split
        · split
          · exact absurd ⟨‹_›, ‹_›, ‹_›⟩ hf
          · rfl
        · rfl
      · rfl
    simp only [hp]
end Go.Proofs.YtlipdmblinjjaaaDoor.GV
