/-
  Chapter 10 in plain Lean: runs of runes, numbers, tokens, a text's tokens. No program stands here.
-/
import Derived.Test.YtmflkokhhknlaaaDoorSignPlain2
namespace Go.Tw
open Go
set_option linter.unusedVariables false
set_option linter.unusedSimpArgs false
set_option linter.unnecessarySimpa false
set_option maxHeartbeats 1000000

/-- The kind of the rune at a byte. -/
def kAt (s : ByteArray) (i : Nat) : Int := kindZ (Utf8.decode s i).1
def runGo (p : Int → Bool) (s : ByteArray) : Nat → Nat → Nat
  | 0, i => s.size
  | f + 1, i => if s.size ≤ i then s.size else if p (kAt s i) then runGo p s f (i + (Utf8.decode s i).2) else i
/-- Where runes end, from a byte on, whose kinds fit. -/
def runAt (p : Int → Bool) (s : ByteArray) (i : Nat) : Nat := runGo p s (s.size - i) i
def isDigit (k : Int) : Bool := k == 2
def isWord (k : Int) : Bool := k == 1 || k == 2
def isBlank (k : Int) : Bool := k == 3
def cutGo (s : ByteArray) : Nat → Nat → Nat
  | 0, i => s.size
  | f + 1, i => if s.size ≤ i then s.size else if (s.get! i).toNat = 124 then i else cutGo s f (i + 1)
def cutZ (s : ByteArray) : Nat := cutGo s s.size 0
def partZ (s : ByteArray) : Bool := decide (1 ≤ s.size) && decide (s.size ≤ 40) && decide (runAt isDigit s 0 = s.size) && (decide (s.size = 1) || decide ((s.get! 0).toNat ≠ 48))
def numZ (s : ByteArray) : Bool :=
  if cutZ s = s.size then partZ s
  else partZ (s.extract 0 (cutZ s)) && partZ (s.extract (cutZ s + 1) s.size) && !((s.extract (cutZ s + 1) s.size).toList == (ByteArray.mk #[48]).toList)
/-- Where a number ends. -/
def numEnd (s : ByteArray) (i : Nat) : Nat :=
  if runAt isDigit s i < s.size ∧ (s.get! (runAt isDigit s i)).toNat = 124 ∧ runAt isDigit s i + 1 < runAt isDigit s (runAt isDigit s i + 1) then runAt isDigit s (runAt isDigit s i + 1) else runAt isDigit s i
/-- A token's kind, text, end, error. -/
structure TokR where
  kind : Int
  text : ByteArray
  stop : Nat
  err : Int
def tokZ (s : ByteArray) (i : Nat) : TokR :=
  if kAt s i = 1 then
    if runAt isWord s i - i > 40 then ⟨0, ⟨#[]⟩, runAt isWord s i, 4⟩ else ⟨0, s.extract i (runAt isWord s i), runAt isWord s i, 0⟩
  else if kAt s i = 2 then
    if cutZ (s.extract i (numEnd s i)) > 40 ∨ (s.extract i (numEnd s i)).size - cutZ (s.extract i (numEnd s i)) > 41 then ⟨0, ⟨#[]⟩, numEnd s i, 4⟩
    else if numZ (s.extract i (numEnd s i)) then ⟨1, s.extract i (numEnd s i), numEnd s i, 0⟩ else ⟨0, ⟨#[]⟩, numEnd s i, 5⟩
  else if kAt s i = 4 then ⟨2, s.extract i (i + (Utf8.decode s i).2), i + (Utf8.decode s i).2, 0⟩
  else ⟨0, ⟨#[]⟩, i, 5⟩
/-- A token. -/
structure Tok where
  kind : Int
  text : ByteArray
  line : Int
  col : Int
def Tok.cells (t : Tok) : List Value := [.int .i64 t.kind, .string t.text, .int .i64 t.line, .int .i64 t.col]
structure LexR where
  toks : List Tok
  line : Int
  col : Int
  err : Int
def lexGo (s : ByteArray) : Nat → Nat → List Tok → LexR
  | 0, _, out => ⟨out, 0, 0, 0⟩
  | f + 1, i, out =>
    if s.size ≤ i then ⟨out, 0, 0, 0⟩
    else if kAt s i = 3 then lexGo s f (i + 1) out
    else if 4000 ≤ out.length then ⟨[], (placeZ s i).1, (placeZ s i).2, 4⟩
    else if (tokZ s i).err ≠ 0 then ⟨[], (placeZ s i).1, (placeZ s i).2, (tokZ s i).err⟩
    else lexGo s f (tokZ s i).stop (out ++ [⟨(tokZ s i).kind, (tokZ s i).text, (placeZ s i).1, (placeZ s i).2⟩])
def lexZ (s : ByteArray) : LexR := if 60000 < s.size then ⟨[], 1, 1, 4⟩ else lexGo s s.size 0 []

/-! ### runs -/
theorem runGo_fuel (p : Int → Bool) (s : ByteArray) : ∀ (f g i : Nat), s.size ≤ i + f → s.size ≤ i + g → runGo p s f i = runGo p s g i
  | 0, 0, i, _, _ => rfl
  | 0, g + 1, i, h, _ => by simp only [runGo]; rw [if_pos (by omega)]
  | f + 1, 0, i, _, h => by simp only [runGo]; rw [if_pos (by omega)]
  | f + 1, g + 1, i, h1, h2 => by
    have hw := width_pos s i
    simp only [runGo]
    rw [runGo_fuel p s f g (i + (Utf8.decode s i).2) (by omega) (by omega)]
theorem runAt_end {p : Int → Bool} {s : ByteArray} {i : Nat} (h : s.size ≤ i) : runAt p s i = s.size := by
  unfold runAt
  cases hf : s.size - i with
  | zero => rfl
  | succ f => omega
theorem runAt_stop {p : Int → Bool} {s : ByteArray} {i : Nat} (h : i < s.size) (hp : p (kAt s i) = false) : runAt p s i = i := by
  unfold runAt
  obtain ⟨f, hf⟩ : ∃ f, s.size - i = f + 1 := ⟨s.size - i - 1, by omega⟩
  rw [hf]
  simp only [runGo]
  rw [if_neg (by omega), hp]
  rfl
theorem runAt_step {p : Int → Bool} {s : ByteArray} {i : Nat} (h : i < s.size) (hp : p (kAt s i) = true) : runAt p s i = runAt p s (i + (Utf8.decode s i).2) := by
  have hw := width_pos s i
  unfold runAt
  obtain ⟨f, hf⟩ : ∃ f, s.size - i = f + 1 := ⟨s.size - i - 1, by omega⟩
  rw [hf]
  conv => lhs; simp only [runGo]
  rw [if_neg (by omega), if_pos hp]
  exact runGo_fuel p s _ _ _ (by omega) (by omega)
/-- From rune to rune. -/
inductive Hops (s : ByteArray) (a : Nat) : Nat → Prop
  | refl : Hops s a a
  | step {i : Nat} : Hops s a i → i < s.size → Hops s a (i + (Utf8.decode s i).2)
theorem Hops.trans {s : ByteArray} {a b c : Nat} (h : Hops s a b) (h2 : Hops s b c) : Hops s a c := by
  induction h2 with
  | refl => exact h
  | step _ hi ih => exact ih.step hi
theorem Hops.ge {s : ByteArray} {a b : Nat} (h : Hops s a b) : a ≤ b := by
  induction h with
  | refl => exact Nat.le_refl _
  | step _ _ ih => omega
theorem Hops.le {s : ByteArray} {a b : Nat} (h : Hops s a b) (ha : a ≤ s.size) : b ≤ s.size := by
  induction h with
  | refl => exact ha
  | step _ hi ih => exact width_in s _ hi
theorem runAt_steps (p : Int → Bool) (s : ByteArray) : ∀ (f i : Nat), s.size ≤ i + f → i ≤ s.size → Hops s i (runAt p s i)
  | 0, i, h, hi => by rw [runAt_end (by omega), show i = s.size by omega]; exact .refl
  | f + 1, i, h, hi => by
    rcases Nat.lt_or_ge i s.size with hlt | hge
    · have hw := width_pos s i
      have hin := width_in s i hlt
      cases hp : p (kAt s i) with
      | false => rw [runAt_stop hlt hp]; exact .refl
      | true =>
        rw [runAt_step hlt hp]
        exact (Hops.refl.step hlt).trans (runAt_steps p s f _ (by omega) hin)
    · rw [runAt_end hge, show i = s.size by omega]; exact .refl
theorem runAt_ge (p : Int → Bool) (s : ByteArray) (i : Nat) (hi : i ≤ s.size) : i ≤ runAt p s i := (runAt_steps p s s.size i (by omega) hi).ge
theorem runAt_le (p : Int → Bool) (s : ByteArray) (i : Nat) (hi : i ≤ s.size) : runAt p s i ≤ s.size := (runAt_steps p s s.size i (by omega) hi).le hi
/-- The run at a text's tail. -/
theorem runGo_tail (p : Int → Bool) (s : ByteArray) (a : Nat) (ha : a ≤ s.size) : ∀ (f i : Nat), runGo p (s.extract a s.size) f i + a = runGo p s f (a + i)
  | 0, i => by simp only [runGo]; simp; omega
  | f + 1, i => by
    have hs : (s.extract a s.size).size = s.size - a := by simp
    have hk : kAt (s.extract a s.size) i = kAt s (a + i) := by unfold kAt; rw [decode_tail s a i ha]
    simp only [runGo]
    rw [hk, decode_tail s a i ha, hs]
    by_cases h1 : s.size ≤ a + i
    · rw [if_pos h1, if_pos (by omega)]; omega
    · rw [if_neg h1, if_neg (by omega)]
      split
      · have := runGo_tail p s a ha f (i + (Utf8.decode s (a + i)).2)
        rw [← Nat.add_assoc] at this
        exact this
      · omega
theorem runAt_tail (p : Int → Bool) (s : ByteArray) (a : Nat) (ha : a ≤ s.size) : runAt p (s.extract a s.size) 0 + a = runAt p s a := by
  have h := runGo_tail p s a ha (s.size - a) 0
  unfold runAt
  have hs : (s.extract a s.size).size = s.size - a := by simp
  rw [hs]
  exact h
/-- A rune of one byte is that byte. -/
theorem decode_small {s : ByteArray} {i : Nat} (h : (Utf8.decode s i).1 < 128) : (Utf8.decode s i).2 = 1 ∧ (Utf8.decode s i).1 = (s.get! i).toNat := by
  rw [Lib.decode_at] at h ⊢
  unfold Lib.decodeN at h ⊢
  by_cases h0 : (s.get! i).toNat < 128
  · rw [if_pos h0]; exact ⟨rfl, rfl⟩
  · rw [if_neg h0] at h
    exfalso
    revert h
    repeat' split
    all_goals (simp only; omega)
theorem decode_ascii {s : ByteArray} {i : Nat} (h : (s.get! i).toNat < 128) : Utf8.decode s i = ((s.get! i).toNat, 1) := by
  rw [Lib.decode_at]; unfold Lib.decodeN; rw [if_pos h]
theorem kindZ_two {r : Int} : kindZ r = 2 ↔ 48 ≤ r ∧ r ≤ 57 := by
  unfold kindZ
  repeat' split
  all_goals omega
theorem kindZ_three {r : Int} (h : kindZ r = 3) : r = 9 ∨ r = 10 ∨ r = 13 ∨ r = 32 := by
  unfold kindZ at h
  split at h
  · omega
  · split at h
    · omega
    · split at h
      · assumption
      · split at h <;> omega
theorem kindZ_four {r : Int} (h : kindZ r = 4) : r = 43 ∨ r = 45 ∨ r = 42 ∨ r = 47 ∨ r = 94 ∨ r = 40 ∨ r = 41 ∨ r = 61 ∨ r = 59 ∨ r = 44 := by
  unfold kindZ at h
  split at h
  · omega
  · split at h
    · omega
    · split at h
      · omega
      · split at h
        · assumption
        · omega
theorem kindZ_le (r : Int) : 0 ≤ kindZ r ∧ kindZ r ≤ 4 := by
  unfold kindZ
  repeat' split
  all_goals omega
theorem kAt_two {s : ByteArray} {i : Nat} (h : kAt s i = 2) : (Utf8.decode s i).2 = 1 ∧ 48 ≤ (s.get! i).toNat ∧ (s.get! i).toNat ≤ 57 := by
  have h1 := kindZ_two.1 h
  have h2 := decode_small (s := s) (i := i) (by omega)
  exact ⟨h2.1, by omega, by omega⟩
theorem kAt_three {s : ByteArray} {i : Nat} (h : kAt s i = 3) : (Utf8.decode s i).2 = 1 := by
  have h1 := kindZ_three h
  exact (decode_small (s := s) (i := i) (by omega)).1
theorem kAt_four {s : ByteArray} {i : Nat} (h : kAt s i = 4) : (Utf8.decode s i).2 = 1 := by
  have h1 := kindZ_four h
  exact (decode_small (s := s) (i := i) (by omega)).1
theorem kAt_le (s : ByteArray) (i : Nat) : 0 ≤ kAt s i ∧ kAt s i ≤ 4 := kindZ_le _
/-- The kind at a byte and the width, beyond the end too. -/
def kindR (s : ByteArray) (i : Nat) : Int × Int := if i < s.size then (kAt s i, ((Utf8.decode s i).2 : Int)) else (-1, 0)
theorem kindR_in {s : ByteArray} {i : Nat} (h : i < s.size) : kindR s i = (kAt s i, ((Utf8.decode s i).2 : Int)) := if_pos h
theorem kindR_out {s : ByteArray} {i : Nat} (h : s.size ≤ i) : kindR s i = (-1, 0) := if_neg (by omega)
theorem kindR_lt {s : ByteArray} {i : Nat} (h : 0 ≤ (kindR s i).1) : i < s.size := by
  rcases Nat.lt_or_ge i s.size with h1 | h1
  · exact h1
  · rw [kindR_out h1] at h; simp at h
theorem cutGo_fuel (s : ByteArray) : ∀ (f g i : Nat), s.size ≤ i + f → s.size ≤ i + g → cutGo s f i = cutGo s g i
  | 0, 0, i, _, _ => rfl
  | 0, g + 1, i, h, _ => by simp only [cutGo]; rw [if_pos (by omega)]
  | f + 1, 0, i, _, h => by simp only [cutGo]; rw [if_pos (by omega)]
  | f + 1, g + 1, i, h1, h2 => by
    simp only [cutGo]
    rw [cutGo_fuel s f g (i + 1) (by omega) (by omega)]
theorem cutGo_stop {s : ByteArray} {i : Nat} (h : i < s.size) (h1 : (s.get! i).toNat = 124) : cutGo s (s.size - i) i = i := by
  obtain ⟨f, hf⟩ : ∃ f, s.size - i = f + 1 := ⟨s.size - i - 1, by omega⟩
  rw [hf]; simp only [cutGo]; rw [if_neg (by omega), if_pos h1]
theorem cutGo_step {s : ByteArray} {i : Nat} (h : i < s.size) (h1 : ¬ (s.get! i).toNat = 124) : cutGo s (s.size - i) i = cutGo s (s.size - (i + 1)) (i + 1) := by
  obtain ⟨f, hf⟩ : ∃ f, s.size - i = f + 1 := ⟨s.size - i - 1, by omega⟩
  rw [hf]; conv => lhs; simp only [cutGo]
  rw [if_neg (by omega), if_neg h1]
  exact cutGo_fuel s _ _ _ (by omega) (by omega)
theorem cutGo_end {s : ByteArray} {f i : Nat} (h : s.size ≤ i) : cutGo s f i = s.size := by
  cases f with
  | zero => rfl
  | succ f => simp only [cutGo]; rw [if_pos h]
theorem cutGo_le (s : ByteArray) : ∀ (f i : Nat), cutGo s f i ≤ s.size
  | 0, i => Nat.le_refl _
  | f + 1, i => by
    simp only [cutGo]
    repeat' split
    · exact Nat.le_refl _
    · omega
    · exact cutGo_le s f _
theorem cutZ_from {s : ByteArray} : cutZ s = cutGo s (s.size - 0) 0 := rfl
theorem cutZ_le (s : ByteArray) : cutZ s ≤ s.size := cutGo_le s _ _
theorem numEnd_ge (s : ByteArray) (i : Nat) (hi : i ≤ s.size) : i ≤ numEnd s i ∧ numEnd s i ≤ s.size := by
  have h1 := runAt_ge isDigit s i hi
  have h2 := runAt_le isDigit s i hi
  unfold numEnd
  split
  · rename_i h
    have h3 := runAt_le isDigit s (runAt isDigit s i + 1) (by omega)
    omega
  · omega
theorem tokZ_stop {s : ByteArray} {i : Nat} (hi : i < s.size) (h : (tokZ s i).err = 0) : i < (tokZ s i).stop ∧ (tokZ s i).stop ≤ s.size := by
  have hw := width_pos s i
  have hin := width_in s i hi
  unfold tokZ at h ⊢
  by_cases h1 : kAt s i = 1
  · rw [if_pos h1] at h ⊢
    have e := runAt_step (p := isWord) hi (by unfold isWord; rw [h1]; rfl)
    have h3 := runAt_ge isWord s (i + (Utf8.decode s i).2) hin
    have h4 := runAt_le isWord s i (by omega)
    split
    · rename_i h2; rw [if_pos h2] at h; simp at h
    · simp only; omega
  · rw [if_neg h1] at h ⊢
    by_cases h2 : kAt s i = 2
    · rw [if_pos h2] at h ⊢
      have e := runAt_step (p := isDigit) hi (by unfold isDigit; rw [h2]; rfl)
      have h3 := runAt_ge isDigit s (i + (Utf8.decode s i).2) hin
      have hn : i < numEnd s i := by
        unfold numEnd
        split
        · rename_i hh
          omega
        · omega
      have hle := (numEnd_ge s i (by omega)).2
      split
      · rename_i h5; rw [if_pos h5] at h; simp at h
      · rename_i h5
        rw [if_neg h5] at h
        split
        · exact ⟨hn, hle⟩
        · rename_i h6; rw [if_neg h6] at h; simp at h
    · rw [if_neg h2] at h ⊢
      by_cases h3 : kAt s i = 4
      · rw [if_pos h3]; simp only; omega
      · rw [if_neg h3] at h; simp at h
theorem lexGo_end {s : ByteArray} {f i : Nat} {out : List Tok} (h : s.size ≤ i) : lexGo s f i out = ⟨out, 0, 0, 0⟩ := by
  cases f with
  | zero => rfl
  | succ f => simp only [lexGo]; rw [if_pos h]
theorem lexGo_fuel (s : ByteArray) : ∀ (f g i : Nat) (out : List Tok), s.size ≤ i + f → s.size ≤ i + g → lexGo s f i out = lexGo s g i out
  | 0, g, i, out, h, _ => by rw [lexGo_end (by omega), lexGo_end (by omega)]
  | f + 1, 0, i, out, _, h => by rw [lexGo_end (by omega), lexGo_end (by omega)]
  | f + 1, g + 1, i, out, h1, h2 => by
    by_cases hi : s.size ≤ i
    · rw [lexGo_end hi, lexGo_end hi]
    · simp only [lexGo]
      rw [if_neg hi, if_neg hi]
      by_cases h3 : kAt s i = 3
      · rw [if_pos h3, if_pos h3]; exact lexGo_fuel s f g (i + 1) out (by omega) (by omega)
      · rw [if_neg h3, if_neg h3]
        by_cases h4 : 4000 ≤ out.length
        · rw [if_pos h4, if_pos h4]
        · rw [if_neg h4, if_neg h4]
          by_cases h5 : (tokZ s i).err ≠ 0
          · rw [if_pos h5, if_pos h5]
          · rw [if_neg h5, if_neg h5]
            have h6 := tokZ_stop (s := s) (i := i) (by omega) (by simpa using h5)
            exact lexGo_fuel s f g _ _ (by omega) (by omega)
/-- What is left of the text, from a byte on. -/
def lexAt (s : ByteArray) (i : Nat) (out : List Tok) : LexR := lexGo s (s.size - i) i out
theorem lexAt_end {s : ByteArray} {i : Nat} {out : List Tok} (h : s.size ≤ i) : lexAt s i out = ⟨out, 0, 0, 0⟩ := lexGo_end h
theorem lexAt_open {s : ByteArray} {i : Nat} {out : List Tok} (h : i < s.size) : lexAt s i out =
    if kAt s i = 3 then lexAt s (i + 1) out
    else if 4000 ≤ out.length then ⟨[], (placeZ s i).1, (placeZ s i).2, 4⟩
    else if (tokZ s i).err ≠ 0 then ⟨[], (placeZ s i).1, (placeZ s i).2, (tokZ s i).err⟩
    else lexAt s (tokZ s i).stop (out ++ [⟨(tokZ s i).kind, (tokZ s i).text, (placeZ s i).1, (placeZ s i).2⟩]) := by
  unfold lexAt
  obtain ⟨f, hf⟩ : ∃ f, s.size - i = f + 1 := ⟨s.size - i - 1, by omega⟩
  rw [hf]
  conv => lhs; simp only [lexGo]
  rw [if_neg (by omega)]
  by_cases h3 : kAt s i = 3
  · rw [if_pos h3, if_pos h3]; exact lexGo_fuel s _ _ _ _ (by omega) (by omega)
  · rw [if_neg h3, if_neg h3]
    by_cases h4 : 4000 ≤ out.length
    · rw [if_pos h4, if_pos h4]
    · rw [if_neg h4, if_neg h4]
      by_cases h5 : (tokZ s i).err ≠ 0
      · rw [if_pos h5, if_pos h5]
      · rw [if_neg h5, if_neg h5]
        have h6 := tokZ_stop (s := s) (i := i) (by omega) (by simpa using h5)
        exact lexGo_fuel s _ _ _ _ (by omega) (by omega)
theorem lexZ_at {s : ByteArray} (h : s.size ≤ 60000) : lexZ s = lexAt s 0 [] := by unfold lexZ; rw [if_neg (by omega)]; rfl
theorem flat_more (out : List Tok) (t : Tok) : ((out ++ [t]).map Tok.cells).flatten = (out.map Tok.cells).flatten ++ t.cells := by simp
theorem cells_len (out : List Tok) : ∀ c ∈ out.map Tok.cells, c.length = 4 := by
  intro c hc
  obtain ⟨t, _, rfl⟩ := List.mem_map.1 hc
  rfl
end Go.Tw
