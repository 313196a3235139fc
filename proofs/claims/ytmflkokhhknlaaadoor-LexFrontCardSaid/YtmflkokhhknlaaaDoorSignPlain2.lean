/-
  Plain laws of chapter 9: what places tell of each other, what a longer name is.
-/
import Derived.Test.YtmflkokhhknlaaaDoorSignPlain
namespace Go.Proofs.YtmflkokhhknlaaaDoor
open Go Go.Tw
set_option linter.unusedVariables false
set_option linter.unusedSimpArgs false
set_option linter.unnecessarySimpa false
set_option maxHeartbeats 1000000

/-- Byte i begins a rune, at this place. -/
structure Rch (s : ByteArray) (i : Nat) (l c : Int) : Prop where
  le : i ≤ s.size
  bl : 1 ≤ l ∧ l ≤ i + 1
  bc : 1 ≤ c ∧ c ≤ i + 1
  go : ∀ at_ : Int, (i : Int) ≤ at_ → placeZ s at_ = placeGo s at_ (s.size - i) i l c
theorem Rch.start (s : ByteArray) : Rch s 0 1 1 := ⟨Nat.zero_le _, by simp, by simp, fun _ _ => rfl⟩
theorem Rch.step {s : ByteArray} {i : Nat} {l c l' c' : Int} (h : Rch s i l c) (hi : i < s.size) (hl : (((Utf8.decode s i).1 : Int) = 10 ∧ l' = l + 1 ∧ c' = 1) ∨ (((Utf8.decode s i).1 : Int) ≠ 10 ∧ l' = l ∧ c' = c + 1)) : Rch s (i + (Utf8.decode s i).2) l' c' := by
  have hw := width_pos s i
  have hin := width_in s i hi
  have hbl := h.bl; have hbc := h.bc
  refine ⟨by omega, by omega, by omega, fun at_ ha => ?_⟩
  rw [h.go at_ (by omega)]
  exact placeGo_step hi (by omega) hl
theorem Rch.here {s : ByteArray} {i : Nat} {l c : Int} (h : Rch s i l c) {at_ : Int} (h1 : (i : Int) ≤ at_) (h2 : at_ < ((i + (Utf8.decode s i).2 : Nat) : Int) ∨ s.size ≤ i) : placeZ s at_ = (l, c) := by
  rw [h.go at_ h1]
  rcases Nat.lt_or_ge i s.size with hi | hi
  · exact placeGo_stop hi (by omega)
  · exact placeGo_end hi
theorem placeZ_first (s : ByteArray) : placeZ s 0 = (1, 1) := by
  have hw := width_pos s 0
  exact (Rch.start s).here (Int.le_refl _) (.inl (by omega))
/-- How many bytes of the first i are new lines. -/
def lines (s : ByteArray) : Nat → Nat
  | 0 => 0
  | i + 1 => lines s i + if (s.get! i).toNat = 10 then 1 else 0
theorem lines_succ (s : ByteArray) (i : Nat) : lines s (i + 1) = lines s i + if (s.get! i).toNat = 10 then 1 else 0 := rfl
theorem get_left (s t : ByteArray) (j : Nat) (h : j < s.size) : (s ++ t).get! j = s.get! j := by
  have h' : j < s.data.size := h
  show (s ++ t).data[j]! = s.data[j]!
  rw [ByteArray.data_append, getElem!_def, getElem!_def, Array.getElem?_append_left h']
theorem get_right (s t : ByteArray) (j : Nat) : (s ++ t).get! (s.size + j) = t.get! j := by
  show (s ++ t).data[s.data.size + j]! = t.data[j]!
  rw [ByteArray.data_append, getElem!_def, getElem!_def, Array.getElem?_append_right (by omega)]
  simp
theorem tail_of (s t : ByteArray) : (s ++ t).extract s.size (s ++ t).size = t := by
  rw [ByteArray.size_append]
  exact ByteArray.extract_append_eq_right rfl rfl
theorem lines_le (s : ByteArray) (i : Nat) : lines s i ≤ i := by
  induction i with
  | zero => exact Nat.le_refl _
  | succ i ih => simp only [lines]; split <;> omega
theorem lines_same {s u : ByteArray} : ∀ (i : Nat), (∀ j, j < i → u.get! j = s.get! j) → lines u i = lines s i
  | 0, _ => rfl
  | i + 1, h => by simp only [lines]; rw [lines_same i (fun j hj => h j (by omega)), h i (by omega)]

theorem decodeN_ten (n b0 b1 b2 b3 : Nat) : (Lib.decodeN n b0 b1 b2 b3).1 = 10 ↔ b0 = 10 := by
  unfold Lib.decodeN
  split
  · exact Iff.rfl
  · repeat' split
    all_goals (simp only; omega)
theorem decodeN_cont (n b0 b1 b2 b3 : Nat) : (2 ≤ (Lib.decodeN n b0 b1 b2 b3).2 → 1 < n ∧ b1 / 64 = 2) ∧ (3 ≤ (Lib.decodeN n b0 b1 b2 b3).2 → 2 < n ∧ b2 / 64 = 2) ∧ (4 ≤ (Lib.decodeN n b0 b1 b2 b3).2 → 3 < n ∧ b3 / 64 = 2) := by
  unfold Lib.decodeN
  repeat' split
  all_goals (simp only; omega)
theorem decodeN_more (n n' b0 b1 b2 b3 c1 c2 c3 : Nat) (h : (Lib.decodeN n b0 b1 b2 b3).1 ≠ 65533) (hn : n ≤ n') (h1 : 1 < n → c1 = b1) (h2 : 2 < n → c2 = b2) (h3 : 3 < n → c3 = b3) :
    Lib.decodeN n' b0 c1 c2 c3 = Lib.decodeN n b0 b1 b2 b3 := by
  unfold Lib.decodeN at h ⊢
  by_cases g0 : b0 < 128
  · simp only [if_pos g0]
  · simp only [if_neg g0] at h ⊢
    by_cases g1 : b0 / 32 = 6 ∧ (1 < n ∧ b1 / 64 = 2)
    · have := h1 g1.2.1; subst this
      rw [if_pos ⟨g1.1, by omega, g1.2.2⟩, if_pos g1]
    · rw [if_neg g1] at h ⊢
      by_cases g2 : b0 / 16 = 14 ∧ (1 < n ∧ b1 / 64 = 2) ∧ (2 < n ∧ b2 / 64 = 2)
      · have := h1 g2.2.1.1; subst this
        have := h2 g2.2.2.1; subst this
        rw [if_neg (by omega), if_pos ⟨g2.1, ⟨by omega, g2.2.1.2⟩, by omega, g2.2.2.2⟩, if_pos g2]
      · rw [if_neg g2] at h ⊢
        by_cases g3 : b0 / 8 = 30 ∧ (1 < n ∧ b1 / 64 = 2) ∧ (2 < n ∧ b2 / 64 = 2) ∧ (3 < n ∧ b3 / 64 = 2)
        · have := h1 g3.2.1.1; subst this
          have := h2 g3.2.2.1.1; subst this
          have := h3 g3.2.2.2.1; subst this
          rw [if_neg (by omega), if_neg (by omega), if_pos ⟨g3.1, ⟨by omega, g3.2.1.2⟩, ⟨by omega, g3.2.2.1.2⟩, by omega, g3.2.2.2.2⟩, if_pos g3]
        · rw [if_neg g3] at h
          exact absurd rfl h
theorem decode_cont (u : ByteArray) (i j : Nat) (h1 : i < j) (h2 : j < i + (Utf8.decode u i).2) : j < u.size ∧ (u.get! j).toNat / 64 = 2 := by
  have hw := width_pos u i
  rw [Lib.decode_at] at h2 hw
  obtain ⟨c1, c2, c3⟩ := decodeN_cont (u.size - i) (u.get! i).toNat (u.get! (i + 1)).toNat (u.get! (i + 2)).toNat (u.get! (i + 3)).toNat
  rcases (by omega : j = i + 1 ∨ j = i + 2 ∨ j = i + 3) with rfl | rfl | rfl
  · have := c1 (by omega); exact ⟨by omega, this.2⟩
  · have := c2 (by omega); exact ⟨by omega, this.2⟩
  · have := c3 (by omega); exact ⟨by omega, this.2⟩
theorem decode_ten (u : ByteArray) (i : Nat) : (Utf8.decode u i).1 = 10 ↔ (u.get! i).toNat = 10 := by rw [Lib.decode_at]; exact decodeN_ten _ _ _ _ _
theorem decode_more {s u : ByteArray} {i : Nat} (h : (Utf8.decode s i).1 ≠ 65533) (hu : s.size ≤ u.size) (hi : i < s.size) (hb : ∀ j, j < s.size → u.get! j = s.get! j) : Utf8.decode u i = Utf8.decode s i := by
  rw [Lib.decode_at] at h
  rw [Lib.decode_at, Lib.decode_at, hb i hi]
  exact decodeN_more _ _ _ _ _ _ _ _ _ h (by omega) (fun h => by rw [hb _ (by omega)]) (fun h => by rw [hb _ (by omega)]) (fun h => by rw [hb _ (by omega)])

theorem lines_step (u : ByteArray) (i : Nat) : ∀ k, k + 1 ≤ (Utf8.decode u i).2 → lines u (i + (k + 1)) = lines u i + if (u.get! i).toNat = 10 then 1 else 0
  | 0, _ => rfl
  | k + 1, h => by
    have e := lines_step u i k (by omega)
    rw [show i + (k + 1 + 1) = (i + (k + 1)) + 1 from rfl, lines_succ, e]
    have := (decode_cont u i (i + (k + 1)) (by omega) (by omega)).2
    rw [if_neg (c := (u.get! (i + (k + 1))).toNat = 10) (by omega), Nat.add_zero]
/-- Up to a new line all that ends ends. -/
theorem Rch.upto {u : ByteArray} {m : Nat} (hm : m < u.size) (h10 : (u.get! m).toNat = 10) : ∀ (f i : Nat) (c : Int), m ≤ i + f → i ≤ m → Rch u i (1 + (lines u i : Int)) c → ∃ c', Rch u m (1 + (lines u m : Int)) c'
  | 0, i, c, h, hi, hr => by
    have : i = m := by omega
    subst this; exact ⟨c, hr⟩
  | f + 1, i, c, h, hi, hr => by
    by_cases he : i = m
    · subst he; exact ⟨c, hr⟩
    · have hw := width_pos u i
      have hle : i + (Utf8.decode u i).2 ≤ m := by
        rcases Nat.lt_or_ge m (i + (Utf8.decode u i).2) with hlt | hge
        · have := (decode_cont u i m (by omega) hlt).2; omega
        · exact hge
      have hl := lines_step u i ((Utf8.decode u i).2 - 1) (by omega)
      rw [show (Utf8.decode u i).2 - 1 + 1 = (Utf8.decode u i).2 by omega] at hl
      by_cases h1 : (Utf8.decode u i).1 = 10
      · have h2 := (decode_ten u i).1 h1
        rw [if_pos h2] at hl
        exact Rch.upto hm h10 f _ 1 (by omega) hle (hr.step (by omega) (.inl ⟨by omega, by omega, rfl⟩))
      · have h2 : ¬ (u.get! i).toNat = 10 := fun e => h1 ((decode_ten u i).2 e)
        rw [if_neg h2] at hl
        exact Rch.upto hm h10 f _ (c + 1) (by omega) hle (hr.step (by omega) (.inr ⟨by omega, by omega, rfl⟩))
theorem placeGo_shift (u : ByteArray) (p : Nat) (hp : p ≤ u.size) (n : Int) (at_ : Int) : ∀ (f i : Nat) (l c : Int),
    placeGo u ((p : Int) + at_) f (p + i) (l + n) c = ((placeGo (u.extract p u.size) at_ f i l c).1 + n, (placeGo (u.extract p u.size) at_ f i l c).2)
  | 0, i, l, c => rfl
  | f + 1, i, l, c => by
    have hs : (u.extract p u.size).size = u.size - p := by simp
    simp only [placeGo]
    rw [decode_tail u p i hp, hs]
    by_cases h1 : u.size ≤ p + i
    · rw [if_pos h1, if_pos (by omega)]
    · rw [if_neg h1, if_neg (c := u.size - p ≤ i) (by omega)]
      by_cases h2 : (p : Int) + at_ < ((p + i + (Utf8.decode u (p + i)).2 : Nat) : Int)
      · rw [if_pos h2, if_pos (c := at_ < ((i + (Utf8.decode u (p + i)).2 : Nat) : Int)) (by omega)]
      · rw [if_neg h2, if_neg (c := at_ < ((i + (Utf8.decode u (p + i)).2 : Nat) : Int)) (by omega)]
        have e := placeGo_shift u p hp n at_ f (i + (Utf8.decode u (p + i)).2) (l + 1) 1
        have e2 := placeGo_shift u p hp n at_ f (i + (Utf8.decode u (p + i)).2) l (c + 1)
        rw [show l + 1 + n = l + n + 1 by omega] at e
        rw [← Nat.add_assoc] at e e2
        split
        · exact e
        · exact e2
theorem placeGo_bound (s : ByteArray) (at_ : Int) : ∀ (f i : Nat) (l c : Int), l ≤ (placeGo s at_ f i l c).1 ∧ (placeGo s at_ f i l c).1 ≤ l + f
  | 0, i, l, c => by simp [placeGo]
  | f + 1, i, l, c => by
    simp only [placeGo]
    have h1 := placeGo_bound s at_ f (i + (Utf8.decode s i).2) (l + 1) 1
    have h2 := placeGo_bound s at_ f (i + (Utf8.decode s i).2) l (c + 1)
    repeat' split
    all_goals first | (simp only; omega) | omega
theorem placeZ_bound (s : ByteArray) (at_ : Int) : 1 ≤ (placeZ s at_).1 ∧ (placeZ s at_).1 ≤ 1 + s.size := placeGo_bound s at_ s.size 0 1 1
/-- SignLines, plainly. -/
theorem lines_law (s t : ByteArray) (at_ : Int) (ha : 0 ≤ at_) : placeZ (s ++ ⟨#[10]⟩ ++ t) (s.size + 1 + at_) = ((placeZ t at_).1 + (1 + (lines s s.size : Int)), (placeZ t at_).2) := by
  have hsz : (s ++ ⟨#[10]⟩ ++ t).size = s.size + 1 + t.size := by rw [ByteArray.size_append, ByteArray.size_append]; rfl
  have hb : ∀ j, j < s.size → (s ++ ⟨#[10]⟩ ++ t).get! j = s.get! j := fun j hj => by rw [ByteArray.append_assoc]; exact get_left s _ j hj
  have h10 : ((s ++ ⟨#[10]⟩ ++ t).get! s.size).toNat = 10 := by
    rw [ByteArray.append_assoc]
    have := get_right s (⟨#[10]⟩ ++ t) 0
    rw [Nat.add_zero] at this
    rw [this, get_left _ t 0 (by decide)]; rfl
  have ht : (s ++ ⟨#[10]⟩ ++ t).extract (s.size + 1) (s ++ ⟨#[10]⟩ ++ t).size = t := by
    have := tail_of (s ++ ⟨#[10]⟩) t
    rw [ByteArray.size_append] at this
    exact this
  generalize s ++ ⟨#[10]⟩ ++ t = u at *
  obtain ⟨c, hr⟩ := Rch.upto (u := u) (m := s.size) (by omega) h10 s.size 0 1 (by omega) (by omega) (Rch.start u)
  have hd : (Utf8.decode u s.size).1 = 10 := (decode_ten u _).2 h10
  have hw : (Utf8.decode u s.size).2 = 1 := by
    rw [Lib.decode_at, h10]; rfl
  have hr2 := hr.step (l' := 1 + (1 + (lines u s.size : Int))) (c' := 1) (by omega) (.inl ⟨by omega, by omega, rfl⟩)
  rw [hw] at hr2
  rw [hr2.go _ (by omega), lines_same s.size hb]
  have e := placeGo_shift u (s.size + 1) (by omega) (1 + (lines s s.size : Int)) at_ (u.size - (s.size + 1)) 0 1 1
  rw [ht] at e
  rw [show u.size - (s.size + 1) = t.size by omega] at e ⊢
  exact e
theorem nameGo_app {s u : ByteArray} (hu : s.size ≤ u.size) (hb : ∀ j, j < s.size → u.get! j = s.get! j) : ∀ (f i : Nat), s.size ≤ i + f → i ≤ s.size → nameGo s (s.size - i) i = true → nameGo u (u.size - i) i = nameGo u (u.size - s.size) s.size
  | 0, i, h, hi, _ => by
    have : i = s.size := by omega
    rw [this]
  | f + 1, i, h, hi, hn => by
    by_cases he : i = s.size
    · subst he; rfl
    · have hw := width_pos s i
      have hin := width_in s i (by omega)
      have hk : ¬ ((kindZ (Utf8.decode s i).1 ≠ 1 ∧ kindZ (Utf8.decode s i).1 ≠ 2) ∨ (kindZ (Utf8.decode s i).1 = 2 ∧ i = 0)) := fun hk => by
        rw [nameGo_no (by omega) hk] at hn; cases hn
      have hr : (Utf8.decode s i).1 ≠ 65533 := fun e => hk (.inl (by rw [e]; decide))
      have hd := decode_more hr hu (by omega) hb
      rw [nameGo_step (s := s) (by omega) hk] at hn
      rw [nameGo_step (s := u) (by omega) (by rw [hd]; exact hk), hd]
      exact nameGo_app hu hb f _ (by omega) (by omega) hn
/-- A name and one byte more. -/
theorem name_more (s t : ByteArray) (b : Nat) (hs : nameZ s = true) (ht : t.size = 1) (hb : (t.get! 0).toNat = b) :
    nameZ (s ++ t) = (decide (b < 128) && (kindZ b == 1 || kindZ b == 2) && decide (s.size + 1 ≤ 40) && !keyZ (s ++ t)) := by
  unfold nameZ at hs
  simp only [Bool.and_eq_true, decide_eq_true_eq] at hs
  obtain ⟨⟨⟨h1, h2⟩, _⟩, hn⟩ := hs
  have hsz : (s ++ t).size = s.size + 1 := by rw [ByteArray.size_append, ht]
  have hgo := nameGo_app (s := s) (u := s ++ t) (by omega) (fun j hj => get_left s t j hj) s.size 0 (by omega) (by omega) hn
  have hget : ((s ++ t).get! s.size).toNat = b := by
    have := get_right s t 0
    rw [Nat.add_zero] at this
    rw [this, hb]
  have hdec : Utf8.decode (s ++ t) s.size = if b < 128 then (b, 1) else (65533, 1) := by
    rw [Lib.decode_at, hget, show (s ++ t).size - s.size = 1 by omega]
    unfold Lib.decodeN
    split
    · rfl
    · rw [if_neg (by omega), if_neg (by omega), if_neg (by omega)]
  have hlast : nameGo (s ++ t) ((s ++ t).size - s.size) s.size = (decide (b < 128) && (kindZ b == 1 || kindZ b == 2)) := by
    by_cases hlt : b < 128
    · rw [if_pos hlt] at hdec
      rw [decide_eq_true hlt, Bool.true_and]
      by_cases hk : kindZ b ≠ 1 ∧ kindZ b ≠ 2
      · rw [nameGo_no (by omega) (.inl (by rw [hdec]; exact hk))]
        simp [hk.1, hk.2]
      · rw [nameGo_step (by omega) (by rw [hdec]; show ¬ ((kindZ b ≠ 1 ∧ kindZ b ≠ 2) ∨ (kindZ b = 2 ∧ s.size = 0)); omega), nameGo_end (by rw [hdec]; show _ ≤ s.size + 1; omega)]
        rcases (by omega : kindZ b = 1 ∨ kindZ b = 2) with e | e <;> rw [e] <;> rfl
    · rw [if_neg hlt] at hdec
      rw [decide_eq_false hlt, Bool.false_and, nameGo_no (by omega) (.inl (by rw [hdec]; decide))]
  unfold nameZ
  rw [Nat.sub_zero] at hgo
  rw [hgo, hlast, hsz, decide_eq_true (p := 1 ≤ s.size + 1) (by omega)]
  cases decide (b < 128) <;> cases (kindZ b == 1 || kindZ b == 2) <;> cases decide (s.size + 1 ≤ 40) <;> cases keyZ (s ++ t) <;> rfl
theorem name_ahead (s : ByteArray) : nameZ (⟨#[48]⟩ ++ s) = false := by
  have hsz : ((⟨#[48]⟩ : ByteArray) ++ s).size = 1 + s.size := by rw [ByteArray.size_append]; rfl
  have hget : (((⟨#[48]⟩ : ByteArray) ++ s).get! 0).toNat = 48 := by rw [get_left _ s 0 (by decide)]; rfl
  have hdec : Utf8.decode (⟨#[48]⟩ ++ s) 0 = (48, 1) := by
    rw [Lib.decode_at, hget]; unfold Lib.decodeN; rw [if_pos (by omega)]
  have := nameGo_no (s := ⟨#[48]⟩ ++ s) (i := 0) (by omega) (.inr ⟨by rw [hdec]; decide, rfl⟩)
  rw [Nat.sub_zero] at this
  unfold nameZ
  rw [this, Bool.and_false]
end Go.Proofs.YtmflkokhhknlaaaDoor
