/-
  Chapter 10 in plain Lean: places of a piece of a text, against the text's own.
-/
import Derived.Test.YtmflkokhhknlaaaDoorLexPlain
namespace Go.Proofs.YtmflkokhhknlaaaDoor
open Go Go.Tw
set_option linter.unusedVariables false
set_option linter.unusedSimpArgs false
set_option linter.unnecessarySimpa false
set_option maxHeartbeats 1000000
theorem decodeN_less (n n' b0 b1 b2 b3 c1 c2 c3 : Nat) (hn : n' ≤ n) (hw : (Lib.decodeN n b0 b1 b2 b3).2 ≤ n') (h1 : 1 < n' → c1 = b1) (h2 : 2 < n' → c2 = b2) (h3 : 3 < n' → c3 = b3) :
    Lib.decodeN n' b0 c1 c2 c3 = Lib.decodeN n b0 b1 b2 b3 := by
  unfold Lib.decodeN at hw ⊢
  by_cases g0 : b0 < 128
  · simp only [if_pos g0]
  · simp only [if_neg g0] at hw ⊢
    by_cases g1 : b0 / 32 = 6 ∧ (1 < n ∧ b1 / 64 = 2)
    · rw [if_pos g1] at hw ⊢
      by_cases k1 : 1 < n'
      · rw [h1 k1, if_pos ⟨g1.1, k1, g1.2.2⟩]
      · rw [if_neg (by omega), if_neg (by omega), if_neg (by omega)]
        split at hw
        · simp only at hw; omega
        · rename_i hx; rw [if_neg hx]
    · rw [if_neg g1] at hw ⊢
      have q1 : ¬ (b0 / 32 = 6 ∧ (1 < n' ∧ c1 / 64 = 2)) := by
        by_cases k1 : 1 < n'
        · rw [h1 k1]; omega
        · omega
      rw [if_neg q1]
      by_cases g2 : b0 / 16 = 14 ∧ (1 < n ∧ b1 / 64 = 2) ∧ (2 < n ∧ b2 / 64 = 2)
      · rw [if_pos g2] at hw ⊢
        by_cases k2 : 2 < n'
        · rw [h1 (by omega), h2 k2, if_pos ⟨g2.1, ⟨by omega, g2.2.1.2⟩, k2, g2.2.2.2⟩]
        · rw [if_neg (by omega), if_neg (by omega)]
          split at hw
          · simp only at hw; omega
          · rename_i hx; rw [if_neg hx]
      · rw [if_neg g2] at hw ⊢
        have q2 : ¬ (b0 / 16 = 14 ∧ (1 < n' ∧ c1 / 64 = 2) ∧ (2 < n' ∧ c2 / 64 = 2)) := by
          by_cases k2 : 2 < n'
          · rw [h1 (by omega), h2 k2]; omega
          · omega
        rw [if_neg q2]
        by_cases g3 : b0 / 8 = 30 ∧ (1 < n ∧ b1 / 64 = 2) ∧ (2 < n ∧ b2 / 64 = 2) ∧ (3 < n ∧ b3 / 64 = 2)
        · rw [if_pos g3] at hw ⊢
          by_cases k3 : 3 < n'
          · rw [h1 (by omega), h2 (by omega), h3 k3, if_pos ⟨g3.1, ⟨by omega, g3.2.1.2⟩, ⟨by omega, g3.2.2.1.2⟩, k3, g3.2.2.2.2⟩]
          · rw [if_neg (by omega)]
            split at hw
            · simp only at hw; omega
            · rename_i hx; rw [if_neg hx]
        · rw [if_neg g3]
          rw [if_neg]
          by_cases k3 : 3 < n'
          · rw [h1 (by omega), h2 (by omega), h3 k3]; omega
          · omega
theorem get_piece (s : ByteArray) (a b j : Nat) (hb : b ≤ s.size) (hj : a + j < b) : (s.extract a b).get! j = s.get! (a + j) := by
  have h1 : j < (s.extract a b).data.size := by show j < (s.extract a b).size; rw [ByteArray.size_extract]; omega
  have h2 : a + j < s.data.size := by show a + j < s.size; omega
  show (s.extract a b).data[j]! = s.data[a + j]!
  rw [getElem!_pos (s.extract a b).data j h1, getElem!_pos s.data (a + j) h2]
  simp
theorem decode_piece (s : ByteArray) (a b j : Nat) (hb : b ≤ s.size) (hj : a + j < b) (hw : a + j + (Utf8.decode s (a + j)).2 ≤ b) : Utf8.decode (s.extract a b) j = Utf8.decode s (a + j) := by
  have hs : (s.extract a b).size = b - a := by rw [ByteArray.size_extract]; omega
  rw [Lib.decode_at] at hw
  rw [Lib.decode_at, Lib.decode_at, get_piece s a b j hb hj, hs]
  refine decodeN_less _ _ _ _ _ _ _ _ _ (by omega) (by omega) (fun h => ?_) (fun h => ?_) (fun h => ?_)
  · rw [get_piece s a b (j + 1) hb (by omega)]; rfl
  · rw [get_piece s a b (j + 2) hb (by omega)]; rfl
  · rw [get_piece s a b (j + 3) hb (by omega)]; rfl
theorem steps_rch {s : ByteArray} {b : Nat} (h : Hops s 0 b) : Rch s b (placeZ s b).1 (placeZ s b).2 := by
  have : ∃ l c, Rch s b l c := by
    induction h with
    | refl => exact ⟨1, 1, Rch.start s⟩
    | @step i _ hi ih =>
      obtain ⟨l, c, hr⟩ := ih
      by_cases h10 : ((Utf8.decode s i).1 : Int) = 10
      · exact ⟨_, _, hr.step hi (.inl ⟨h10, rfl, rfl⟩)⟩
      · exact ⟨_, _, hr.step hi (.inr ⟨h10, rfl, rfl⟩)⟩
  obtain ⟨l, c, hr⟩ := this
  have hw := width_pos s b
  have e := hr.here (at_ := b) (Int.le_refl _) (by
    rcases Nat.lt_or_ge b s.size with h1 | h1
    · exact .inl (by omega)
    · exact .inr h1)
  rw [e]
  exact hr
theorem place_step {s : ByteArray} {i : Nat} (h : Hops s 0 i) (hi : i < s.size) : placeZ s (i + (Utf8.decode s i).2 : Nat) = if (Utf8.decode s i).1 = 10 then ((placeZ s i).1 + 1, 1) else ((placeZ s i).1, (placeZ s i).2 + 1) := by
  have hr := steps_rch h
  have hw := width_pos s (i + (Utf8.decode s i).2)
  have hor : ((i + (Utf8.decode s i).2 : Nat) : Int) < ((i + (Utf8.decode s i).2 + (Utf8.decode s (i + (Utf8.decode s i).2)).2 : Nat) : Int) ∨ s.size ≤ i + (Utf8.decode s i).2 := .inl (by omega)
  by_cases h10 : (Utf8.decode s i).1 = 10
  · rw [if_pos h10]
    exact (hr.step hi (.inl ⟨by omega, rfl, rfl⟩)).here (Int.le_refl _) hor
  · rw [if_neg h10]
    exact (hr.step hi (.inr ⟨by omega, rfl, rfl⟩)).here (Int.le_refl _) hor
theorem steps_piece {s : ByteArray} {a B : Nat} (h0 : Hops s 0 a) (hB : B ≤ s.size) {b : Nat} (h : Hops s a b) : b ≤ B → (placeZ s a).1 ≤ (placeZ s b).1 ∧
    Rch (s.extract a B) (b - a) ((placeZ s b).1 - (placeZ s a).1 + 1) (if (placeZ s b).1 = (placeZ s a).1 then (placeZ s b).2 - (placeZ s a).2 + 1 else (placeZ s b).2) := by
  induction h with
  | refl =>
    intro _
    refine ⟨Int.le_refl _, ?_⟩
    rw [if_pos rfl, Nat.sub_self, Int.sub_self, Int.sub_self]
    exact Rch.start _
  | @step i hs hi ih =>
    intro hb
    have hw := width_pos s i
    have hai := hs.ge
    obtain ⟨h1, hr⟩ := ih (by omega)
    have hsz : (s.extract a B).size = B - a := by rw [ByteArray.size_extract]; omega
    have hd : Utf8.decode (s.extract a B) (i - a) = Utf8.decode s i := by
      have := decode_piece s a B (i - a) hB (by omega) (by rw [show a + (i - a) = i by omega]; exact hb)
      rw [show a + (i - a) = i by omega] at this
      exact this
    have hp := place_step (h0.trans hs) hi
    have e : i + (Utf8.decode s i).2 - a = (i - a) + (Utf8.decode (s.extract a B) (i - a)).2 := by rw [hd]; omega
    rw [e]
    by_cases h10 : (Utf8.decode s i).1 = 10
    · rw [if_pos h10] at hp
      rw [hp]
      refine ⟨by show _ ≤ (placeZ s i).1 + 1; omega, ?_⟩
      rw [if_neg (by show ¬ (placeZ s i).1 + 1 = _; omega)]
      exact hr.step (by omega) (.inl ⟨by rw [hd]; omega, by show (placeZ s i).1 + 1 - _ + 1 = _; omega, rfl⟩)
    · rw [if_neg h10] at hp
      rw [hp]
      refine ⟨h1, ?_⟩
      refine hr.step (by omega) (.inr ⟨by rw [hd]; omega, rfl, ?_⟩)
      show (if (placeZ s i).1 = _ then (placeZ s i).2 + 1 - _ + 1 else (placeZ s i).2 + 1) = _
      split <;> omega
/-- What a piece's end tells of the text's places. -/
theorem steps_move {s : ByteArray} {a b : Nat} (h : Hops s a b) (h0 : Hops s 0 a) (hb : b ≤ s.size) :
    (1 ≤ (placeZ (s.extract a b) ((b - a : Nat) : Int)).1 ∧ (placeZ (s.extract a b) ((b - a : Nat) : Int)).1 ≤ 1 + s.size) ∧ (1 ≤ (placeZ (s.extract a b) ((b - a : Nat) : Int)).2 ∧ (placeZ (s.extract a b) ((b - a : Nat) : Int)).2 ≤ 1 + s.size) ∧
    placeZ s b = if (placeZ (s.extract a b) ((b - a : Nat) : Int)).1 > 1 then ((placeZ s a).1 + (placeZ (s.extract a b) ((b - a : Nat) : Int)).1 - 1, (placeZ (s.extract a b) ((b - a : Nat) : Int)).2) else ((placeZ s a).1, (placeZ s a).2 + (placeZ (s.extract a b) ((b - a : Nat) : Int)).2 - 1) := by
  obtain ⟨h1, hr⟩ := steps_piece h0 hb h (Nat.le_refl _)
  have hge := h.ge
  have hsz : (s.extract a b).size = b - a := by rw [ByteArray.size_extract]; omega
  have e := hr.here (at_ := ((b - a : Nat) : Int)) (Int.le_refl _) (.inr (by omega))
  have hbl := hr.bl
  have hbc := hr.bc
  rw [e]
  refine ⟨by simp only; omega, by simp only; omega, ?_⟩
  simp only
  by_cases h2 : (placeZ s b).1 = (placeZ s a).1
  · rw [if_neg (by omega), if_pos h2]
    exact Prod.ext h2 (by simp only; omega)
  · rw [if_pos (by omega), if_neg h2]
    exact Prod.ext (by simp only; omega) rfl
theorem tok_hops {s : ByteArray} {i : Nat} (hi : i < s.size) (h : (tokZ s i).err = 0) : Hops s i (tokZ s i).stop := by
  unfold tokZ at h ⊢
  by_cases h1 : kAt s i = 1
  · rw [if_pos h1] at h ⊢
    split <;> exact runAt_steps isWord s s.size i (by omega) (by omega)
  · rw [if_neg h1] at h ⊢
    by_cases h2 : kAt s i = 2
    · rw [if_pos h2] at h ⊢
      have hn : Hops s i (numEnd s i) := by
        have hd := runAt_steps isDigit s s.size i (by omega) (by omega)
        unfold numEnd
        split
        · rename_i hh
          have hstep := (Hops.refl (s := s) (a := runAt isDigit s i)).step hh.1
          rw [Go.Tw.decode_ascii (s := s) (i := runAt isDigit s i) (by omega)] at hstep
          exact (hd.trans hstep).trans (runAt_steps isDigit s s.size _ (by omega) (by omega))
        · exact hd
      split
      · exact hn
      · split <;> exact hn
    · rw [if_neg h2] at h ⊢
      by_cases h3 : kAt s i = 4
      · rw [if_pos h3]; exact Hops.refl.step hi
      · rw [if_neg h3]; exact Hops.refl
theorem blanks_at (s : ByteArray) (out : List Tok) : ∀ (f i : Nat), s.size ≤ i + f → i ≤ s.size → lexAt s i out = lexAt s (runAt isBlank s i) out
  | 0, i, h, hi => by rw [runAt_end (by omega), show i = s.size by omega]
  | f + 1, i, h, hi => by
    rcases Nat.lt_or_ge i s.size with hlt | hge
    · by_cases hk : kAt s i = 3
      · have hw := kAt_three hk
        rw [runAt_step hlt (by unfold isBlank; rw [beq_iff_eq]; exact hk), hw, lexAt_open hlt, if_pos hk]
        exact blanks_at s out f (i + 1) (by omega) (by omega)
      · rw [runAt_stop hlt (by unfold isBlank; rw [beq_eq_false_iff_ne]; exact hk)]
    · rw [runAt_end hge, show i = s.size by omega]
theorem blanks_not (s : ByteArray) : ∀ (f i : Nat), s.size ≤ i + f → i ≤ s.size → runAt isBlank s i < s.size → kAt s (runAt isBlank s i) ≠ 3
  | 0, i, h, hi, hlt => by rw [runAt_end (by omega)] at hlt; omega
  | f + 1, i, h, hi, hlt => by
    rcases Nat.lt_or_ge i s.size with h1 | hge
    · have hw := width_pos s i
      have hin := width_in s i h1
      cases hk : isBlank (kAt s i) with
      | true =>
        rw [runAt_step h1 hk] at hlt ⊢
        exact blanks_not s f _ (by omega) hin hlt
      | false =>
        rw [runAt_stop h1 hk]
        unfold isBlank at hk
        rw [beq_eq_false_iff_ne] at hk
        exact hk
    · rw [runAt_end hge] at hlt; omega
end Go.Proofs.YtmflkokhhknlaaaDoor
