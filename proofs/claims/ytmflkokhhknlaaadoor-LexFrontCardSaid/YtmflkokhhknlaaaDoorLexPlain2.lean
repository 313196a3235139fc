/-
  Chapter 10 in plain Lean: where the first stroke is.
-/
import Derived.Test.YtmflkokhhknlaaaDoorLexPlain
import Derived.Lib.CutLaws
namespace Go.Tw
open Go
set_option linter.unusedVariables false
set_option linter.unusedSimpArgs false
set_option linter.unnecessarySimpa false
set_option maxHeartbeats 1000000
theorem list_get (s : ByteArray) (i : Nat) (h : i < s.size) : s.data.toList.drop i = s.get! i :: s.data.toList.drop (i + 1) := by
  have h' : i < s.data.toList.length := by rw [Array.length_toList]; exact h
  rw [List.drop_eq_getElem_cons h']
  congr 1
  show _ = s.data[i]!
  have h2 : i < s.data.size := h
  rw [getElem!_pos s.data i h2]
  simp
theorem cutGo_ge (s : ByteArray) : ∀ (f i : Nat), i ≤ s.size → i ≤ cutGo s f i
  | 0, i, h => h
  | f + 1, i, h => by
    simp only [cutGo]
    by_cases h1 : s.size ≤ i
    · rw [if_pos h1]; exact h
    · rw [if_neg h1]
      split
      · exact Nat.le_refl _
      · have := cutGo_ge s f (i + 1) (by omega); omega
theorem index_stroke (s : ByteArray) : ∀ (f i : Nat), i + f = s.size → Lib.index (s.data.toList.drop i) [124] = if cutGo s f i = s.size then -1 else ((cutGo s f i : Int) - i)
  | 0, i, h => by
    have e : s.data.toList.drop i = [] := List.drop_eq_nil_of_le (by rw [Array.length_toList]; show s.size ≤ i; omega)
    rw [e]
    simp only [cutGo, if_true]
    rfl
  | f + 1, i, h => by
    have hi : i < s.size := by omega
    have ih := index_stroke s f (i + 1) (by omega)
    have hle := cutGo_le s f (i + 1)
    rw [list_get s i hi]
    have hstep : cutGo s (f + 1) i = if (s.get! i).toNat = 124 then i else cutGo s f (i + 1) := by
      conv => lhs; simp only [cutGo]
      rw [if_neg (c := s.size ≤ i) (by omega)]
    rw [hstep]
    unfold Lib.index
    by_cases h1 : (s.get! i).toNat = 124
    · have hb : s.get! i = 124 := UInt8.toNat_inj.1 h1
      have hp : (List.isPrefixOf [124] (s.get! i :: s.data.toList.drop (i + 1))) = true := by simp [List.isPrefixOf, hb]
      rw [if_pos h1, if_neg (c := i = s.size) (by omega), if_pos hp]
      omega
    · have hb : ¬ (124 : UInt8) = s.get! i := fun e => h1 (by rw [← e]; rfl)
      have hp : (List.isPrefixOf [124] (s.get! i :: s.data.toList.drop (i + 1))) = false := by simp [List.isPrefixOf, hb]
      rw [if_neg h1, if_neg (by rw [hp]; exact Bool.false_ne_true), ih]
      by_cases h2 : cutGo s f (i + 1) = s.size
      · rw [if_pos h2, if_pos h2]; rfl
      · rw [if_neg h2, if_neg h2]
        have hg : i + 1 ≤ cutGo s f (i + 1) := cutGo_ge s f (i + 1) (by omega)
        rw [if_neg (by rw [beq_iff_eq]; omega)]
        omega
theorem indexB_stroke (s : ByteArray) : Lib.indexB s ⟨#[124]⟩ = if cutZ s = s.size then -1 else (cutZ s : Int) := by
  have h := index_stroke s s.size 0 (by omega)
  rw [List.drop_zero] at h
  show Lib.index s.data.toList [124] = _
  rw [h]
  unfold cutZ
  split <;> omega
theorem cut_stroke (s : ByteArray) : (⟨(Lib.cut s.data.toList (ByteArray.mk #[124]).data.toList).1.toArray⟩ : ByteArray) = s.extract 0 (cutZ s) ∧ (⟨(Lib.cut s.data.toList (ByteArray.mk #[124]).data.toList).2.1.toArray⟩ : ByteArray) = s.extract (cutZ s + 1) s.size ∧ (Lib.cut s.data.toList (ByteArray.mk #[124]).data.toList).2.2 = decide (cutZ s < s.size) := by
  have h := indexB_stroke s
  have hle := cutZ_le s
  by_cases hc : cutZ s = s.size
  · rw [if_pos hc] at h
    obtain ⟨h1, h2, h3⟩ := Lib.cutB_miss s ⟨#[124]⟩ h
    rw [h1, h2, h3, hc]
    refine ⟨?_, ?_, ?_⟩
    · simp
    · rw [ByteArray.extract_eq_empty_iff.2 (by omega)]
    · simp
  · rw [if_neg hc] at h
    obtain ⟨h1, h2, h3⟩ := Lib.cutB_hit s ⟨#[124]⟩ _ h
    rw [h1, h2, h3, decide_eq_true (by omega)]
    exact ⟨rfl, rfl, rfl⟩
end Go.Tw
