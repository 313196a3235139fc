/-
  Chapter 9 in plain Lean: kinds of runes, the rune at a byte, places, names. No program stands here.
-/
import Derived.Lib.DecodeN
import Derived.Lib.DecodeNEq
import Derived.Lib.Bytealg
import Derived.Lib.RuneCountTail
namespace Go.Tw
open Go
set_option linter.unusedVariables false
set_option linter.unusedSimpArgs false
set_option linter.unnecessarySimpa false

def kindZ (r : Int) : Int :=
  if (97 ≤ r ∧ r ≤ 122) ∨ (65 ≤ r ∧ r ≤ 90) ∨ r = 95 ∨ (128 ≤ r ∧ r ≤ 1114111 ∧ r ≠ 65533) then 1
  else if 48 ≤ r ∧ r ≤ 57 then 2
  else if r = 9 ∨ r = 10 ∨ r = 13 ∨ r = 32 then 3
  else if r = 43 ∨ r = 45 ∨ r = 42 ∨ r = 47 ∨ r = 94 ∨ r = 40 ∨ r = 41 ∨ r = 61 ∨ r = 59 ∨ r = 44 then 4 else 0

/-- The rune at a byte, and how many bytes it has. -/
def nextZ (s : ByteArray) (i : Int) : Int × Int :=
  if i < 0 ∨ (s.size : Int) ≤ i then (0, 0) else (((Utf8.decode s i.toNat).1 : Int), ((Utf8.decode s i.toNat).2 : Int))

/-- From byte i on, where line l and column c are reached: the place of the rune that has the byte at. -/
def placeGo (s : ByteArray) (at_ : Int) : Nat → Nat → Int → Int → Int × Int
  | 0, _, l, c => (l, c)
  | f + 1, i, l, c =>
    if s.size ≤ i then (l, c)
    else if at_ < ((i + (Utf8.decode s i).2 : Nat) : Int) then (l, c)
    else if ((Utf8.decode s i).1 : Int) = 10 then placeGo s at_ f (i + (Utf8.decode s i).2) (l + 1) 1
    else placeGo s at_ f (i + (Utf8.decode s i).2) l (c + 1)
def placeZ (s : ByteArray) (at_ : Int) : Int × Int := placeGo s at_ s.size 0 1 1

def keyZ (s : ByteArray) : Bool := s.toList == (ByteArray.mk #[105, 110]).toList || s.toList == (ByteArray.mk #[108, 101, 116]).toList || s.toList == (ByteArray.mk #[111, 117, 116]).toList

def nameGo (s : ByteArray) : Nat → Nat → Bool
  | 0, _ => true
  | f + 1, i =>
    if s.size ≤ i then true
    else if (kindZ (Utf8.decode s i).1 ≠ 1 ∧ kindZ (Utf8.decode s i).1 ≠ 2) ∨ (kindZ (Utf8.decode s i).1 = 2 ∧ i = 0) then false
    else nameGo s f (i + (Utf8.decode s i).2)
def nameZ (s : ByteArray) : Bool := decide (1 ≤ s.size) && decide (s.size ≤ 40) && !keyZ s && nameGo s s.size 0

theorem width_pos (s : ByteArray) (i : Nat) : 1 ≤ (Utf8.decode s i).2 ∧ (Utf8.decode s i).2 ≤ 4 := by
  rw [Lib.decode_at]
  unfold Lib.decodeN
  repeat' split
  all_goals simp
theorem rune_le (s : ByteArray) (i : Nat) : (Utf8.decode s i).1 ≤ 1114111 := by
  rw [Lib.decode_at]
  have h0 := (s.get! i).toNat_lt
  unfold Lib.decodeN
  repeat' split
  all_goals simp only
  all_goals omega

theorem placeGo_fuel (s : ByteArray) (at_ : Int) : ∀ (f g i : Nat) (l c : Int), s.size ≤ i + f → s.size ≤ i + g → placeGo s at_ f i l c = placeGo s at_ g i l c
  | 0, 0, i, l, c, _, _ => rfl
  | 0, g + 1, i, l, c, h, _ => by simp only [placeGo]; rw [if_pos (by omega)]
  | f + 1, 0, i, l, c, _, h => by simp only [placeGo]; rw [if_pos (by omega)]
  | f + 1, g + 1, i, l, c, h1, h2 => by
    have hw := width_pos s i
    simp only [placeGo]
    rw [placeGo_fuel s at_ f g (i + (Utf8.decode s i).2) (l + 1) 1 (by omega) (by omega), placeGo_fuel s at_ f g (i + (Utf8.decode s i).2) l (c + 1) (by omega) (by omega)]
theorem nameGo_fuel (s : ByteArray) : ∀ (f g i : Nat), s.size ≤ i + f → s.size ≤ i + g → nameGo s f i = nameGo s g i
  | 0, 0, i, _, _ => rfl
  | 0, g + 1, i, h, _ => by simp only [nameGo]; rw [if_pos (by omega)]
  | f + 1, 0, i, _, h => by simp only [nameGo]; rw [if_pos (by omega)]
  | f + 1, g + 1, i, h1, h2 => by
    have hw := width_pos s i
    simp only [nameGo]
    rw [nameGo_fuel s f g (i + (Utf8.decode s i).2) (by omega) (by omega)]
theorem placeGo_end {s : ByteArray} {at_ : Int} {f i : Nat} {l c : Int} (h : s.size ≤ i) : placeGo s at_ f i l c = (l, c) := by
  cases f with
  | zero => rfl
  | succ f => simp only [placeGo]; rw [if_pos h]

theorem placeGo_step {s : ByteArray} {at_ : Int} {i : Nat} {l c l' c' : Int} (hi : i < s.size) (h : ¬ at_ < ((i + (Utf8.decode s i).2 : Nat) : Int)) (hl : (((Utf8.decode s i).1 : Int) = 10 ∧ l' = l + 1 ∧ c' = 1) ∨ (((Utf8.decode s i).1 : Int) ≠ 10 ∧ l' = l ∧ c' = c + 1)) :
    placeGo s at_ (s.size - i) i l c = placeGo s at_ (s.size - (i + (Utf8.decode s i).2)) (i + (Utf8.decode s i).2) l' c' := by
  have hw := width_pos s i
  obtain ⟨f, hf⟩ : ∃ f, s.size - i = f + 1 := ⟨s.size - i - 1, by omega⟩
  rw [hf]
  conv => lhs; simp only [placeGo]
  rw [if_neg (by omega), if_neg h]
  rcases hl with ⟨h1, rfl, rfl⟩ | ⟨h1, rfl, rfl⟩
  · rw [if_pos h1]; exact placeGo_fuel s at_ _ _ _ _ _ (by omega) (by omega)
  · rw [if_neg h1]; exact placeGo_fuel s at_ _ _ _ _ _ (by omega) (by omega)
theorem placeGo_stop {s : ByteArray} {at_ : Int} {i : Nat} {l c : Int} (hi : i < s.size) (h : at_ < ((i + (Utf8.decode s i).2 : Nat) : Int)) :
    placeGo s at_ (s.size - i) i l c = (l, c) := by
  obtain ⟨f, hf⟩ : ∃ f, s.size - i = f + 1 := ⟨s.size - i - 1, by omega⟩
  rw [hf]
  simp only [placeGo]
  rw [if_neg (by omega), if_pos h]
theorem nameGo_no {s : ByteArray} {i : Nat} (hi : i < s.size) (h : (kindZ (Utf8.decode s i).1 ≠ 1 ∧ kindZ (Utf8.decode s i).1 ≠ 2) ∨ (kindZ (Utf8.decode s i).1 = 2 ∧ i = 0)) : nameGo s (s.size - i) i = false := by
  obtain ⟨f, hf⟩ : ∃ f, s.size - i = f + 1 := ⟨s.size - i - 1, by omega⟩
  rw [hf]
  simp only [nameGo]
  rw [if_neg (by omega), if_pos h]
theorem nameGo_step {s : ByteArray} {i : Nat} (hi : i < s.size) (h : ¬ ((kindZ (Utf8.decode s i).1 ≠ 1 ∧ kindZ (Utf8.decode s i).1 ≠ 2) ∨ (kindZ (Utf8.decode s i).1 = 2 ∧ i = 0))) : nameGo s (s.size - i) i = nameGo s (s.size - (i + (Utf8.decode s i).2)) (i + (Utf8.decode s i).2) := by
  have hw := width_pos s i
  obtain ⟨f, hf⟩ : ∃ f, s.size - i = f + 1 := ⟨s.size - i - 1, by omega⟩
  rw [hf]
  conv => lhs; simp only [nameGo]
  rw [if_neg (by omega), if_neg h]
  exact nameGo_fuel s _ _ _ (by omega) (by omega)
theorem nameGo_end {s : ByteArray} {f i : Nat} (hi : s.size ≤ i) : nameGo s f i = true := by
  cases f with
  | zero => rfl
  | succ f => simp only [nameGo]; rw [if_pos hi]
theorem nameZ_some {s : ByteArray} (h1 : 1 ≤ s.size) (h2 : s.size ≤ 40) (h3 : keyZ s = false) : nameZ s = nameGo s (s.size - 0) 0 := by
  unfold nameZ; rw [decide_eq_true h1, decide_eq_true h2, h3]; rfl
theorem nameZ_none {s : ByteArray} (h : s.size < 1 ∨ 40 < s.size ∨ keyZ s = true) : nameZ s = false := by
  unfold nameZ
  rcases h with h | h | h
  · rw [decide_eq_false (by omega)]; rfl
  · rw [decide_eq_false (p := s.size ≤ 40) (by omega), Bool.and_false]; rfl
  · rw [h]; simp
theorem nil_eq {s : ByteArray} : s.toList = (ByteArray.mk #[]).toList ↔ s.size = 0 := by
  rw [ByteArray.toList_eq, ByteArray.toList_eq]
  show s.data.toList = [] ↔ s.data.size = 0
  rw [← Array.length_toList, List.length_eq_zero_iff]
/-- A text that is cut at its front: what stands at a byte is what stood there. -/
theorem get_tail (s : ByteArray) (a j : Nat) (h : a ≤ s.size) : (s.extract a s.size).get! j = s.get! (a + j) := Lib.tail_get! s a j
theorem decode_tail (s : ByteArray) (a i : Nat) (h : a ≤ s.size) : Utf8.decode (s.extract a s.size) i = Utf8.decode s (a + i) := by
  rw [Lib.decode_at, Lib.decode_at]
  have hs : (s.extract a s.size).size = s.size - a := by simp
  rw [hs, get_tail s a _ h, get_tail s a _ h, get_tail s a _ h, get_tail s a _ h]
  have e : s.size - a - i = s.size - (a + i) := by omega
  rw [e]; rfl

/-! ### the reference's way -/
def inZ (s : ByteArray) (i a b : Int) : Bool := decide (i < s.size) && decide (((s.get! i.toNat).toNat : Int) ≥ a) && decide (((s.get! i.toNat).toNat : Int) ≤ b)
theorem inZ_lt {s : ByteArray} {i a b : Int} (h : inZ s i a b = true) : i < s.size := by
  unfold inZ at h; simp at h; omega
def threeZ (s : ByteArray) (i : Int) : Int :=
  if ((s.get! i.toNat).toNat : Int) < 224 ∨ ((s.get! i.toNat).toNat : Int) > 239 ∨ !inZ s (i + 1) (if ((s.get! i.toNat).toNat : Int) = 224 then 160 else 128) (if ((s.get! i.toNat).toNat : Int) = 237 then 159 else 191) ∨ !inZ s (i + 2) 128 191 then -1
  else (((s.get! i.toNat).toNat : Int) - 224) * 4096 + (s.get! (i + 1).toNat).toNat % 64 * 64 + (s.get! (i + 2).toNat).toNat % 64
def fourZ (s : ByteArray) (i : Int) : Int :=
  if ((s.get! i.toNat).toNat : Int) < 240 ∨ ((s.get! i.toNat).toNat : Int) > 244 ∨ !inZ s (i + 1) (if ((s.get! i.toNat).toNat : Int) = 240 then 144 else 128) (if ((s.get! i.toNat).toNat : Int) = 244 then 143 else 191) ∨ !inZ s (i + 2) 128 191 ∨ !inZ s (i + 3) 128 191 then -1
  else (((s.get! i.toNat).toNat : Int) - 240) * 262144 + (s.get! (i + 1).toNat).toNat % 64 * 4096 + (s.get! (i + 2).toNat).toNat % 64 * 64 + (s.get! (i + 3).toNat).toNat % 64
def refNextZ (s : ByteArray) (i : Int) : Int × Int :=
  if i < 0 ∨ (s.size : Int) ≤ i then (0, 0)
  else
      if ((s.get! i.toNat).toNat : Int) < 128 then (((s.get! i.toNat).toNat : Int), 1)
    else if inZ s i 194 223 && inZ s (i + 1) 128 191 then ((((s.get! i.toNat).toNat : Int) - 192) * 64 + (s.get! (i + 1).toNat).toNat % 64, 2)
    else if 0 ≤ threeZ s i then (threeZ s i, 3)
    else if 0 ≤ fourZ s i then (fourZ s i, 4)
    else (65533, 1)

theorem inZ_at (s : ByteArray) (i k : Nat) (a b : Int) : inZ s ((i : Int) + (k : Int)) a b = (decide (k < s.size - i) && decide (a ≤ ((s.get! (i + k)).toNat : Int)) && decide (((s.get! (i + k)).toNat : Int) ≤ b)) := by
  unfold inZ
  have e : ((i : Int) + (k : Int)).toNat = i + k := by omega
  have e2 : decide ((i : Int) + (k : Int) < (s.size : Int)) = decide (k < s.size - i) := decide_eq_decide.2 (by omega)
  rw [e, e2]
set_option maxRecDepth 100000 in
set_option maxHeartbeats 4000000 in
theorem refNext_nat (n b0 b1 b2 b3 : Nat) (hn : 1 ≤ n) (h0 : b0 < 256) (h1 : b1 < 256) (h2 : b2 < 256) (h3 : b3 < 256) (lo hi lo4 hi4 : Int) (hlo : lo = if (b0 : Int) = 224 then 160 else 128) (hhi : hi = if (b0 : Int) = 237 then 159 else 191)
    (hlo4 : lo4 = if (b0 : Int) = 240 then 144 else 128) (hhi4 : hi4 = if (b0 : Int) = 244 then 143 else 191) (t f : Int)
    (ht : t = if (b0 : Int) < 224 ∨ (b0 : Int) > 239 ∨ ¬ (1 < n ∧ lo ≤ (b1 : Int) ∧ (b1 : Int) ≤ hi) ∨ ¬ (2 < n ∧ 128 ≤ (b2 : Int) ∧ (b2 : Int) ≤ 191) then -1 else ((b0 : Int) - 224) * 4096 + (b1 : Int) % 64 * 64 + (b2 : Int) % 64)
    (hf : f = if (b0 : Int) < 240 ∨ (b0 : Int) > 244 ∨ ¬ (1 < n ∧ lo4 ≤ (b1 : Int) ∧ (b1 : Int) ≤ hi4) ∨ ¬ (2 < n ∧ 128 ≤ (b2 : Int) ∧ (b2 : Int) ≤ 191) ∨ ¬ (3 < n ∧ 128 ≤ (b3 : Int) ∧ (b3 : Int) ≤ 191) then -1 else ((b0 : Int) - 240) * 262144 + (b1 : Int) % 64 * 4096 + (b2 : Int) % 64 * 64 + (b3 : Int) % 64) :
    (if (b0 : Int) < 128 then ((b0 : Int), (1 : Int)) else if (194 ≤ (b0 : Int) ∧ (b0 : Int) ≤ 223) ∧ 1 < n ∧ 128 ≤ (b1 : Int) ∧ (b1 : Int) ≤ 191 then (((b0 : Int) - 192) * 64 + (b1 : Int) % 64, 2) else if 0 ≤ t then (t, 3) else if 0 ≤ f then (f, 4) else (65533, 1)) =
      (((Lib.decodeN n b0 b1 b2 b3).1 : Int), ((Lib.decodeN n b0 b1 b2 b3).2 : Int)) := by
  unfold Lib.decodeN
  by_cases c1 : b0 < 128
  · rw [if_pos (by omega), if_pos c1]; rfl
  rw [if_neg (by omega), if_neg c1]
  by_cases c2 : b0 / 32 = 6 ∧ 1 < n ∧ b1 / 64 = 2
  · rw [if_pos c2]
    by_cases c3 : b0 % 32 * 64 + b1 % 64 ≥ 128
    · rw [if_pos c3, if_pos (by omega)]
      apply Prod.ext <;> simp only <;> omega
    · have ht' : t = -1 := by rw [ht, if_pos (by omega)]
      have hf' : f = -1 := by rw [hf, if_pos (by omega)]
      rw [if_neg c3, if_neg (by omega), if_neg (by omega), if_neg (by omega)]; rfl
  rw [if_neg c2, if_neg (by omega)]
  by_cases c4 : b0 / 16 = 14 ∧ (1 < n ∧ b1 / 64 = 2) ∧ (2 < n ∧ b2 / 64 = 2)
  · rw [if_pos c4]
    have hf' : f = -1 := by rw [hf, if_pos (by omega)]
    split
    · rename_i c5
      have ht' : t = ((b0 : Int) - 224) * 4096 + (b1 : Int) % 64 * 64 + (b2 : Int) % 64 := by
        rw [ht, if_neg ?_]
        split at hlo <;> split at hhi <;> omega
      rw [if_pos (by omega)]
      apply Prod.ext <;> simp only <;> omega
    · rename_i c5
      have ht' : t = -1 := by
        rw [ht, if_pos ?_]
        split at hlo <;> split at hhi <;> omega
      rw [if_neg (by omega), if_neg (by omega)]; rfl
  rw [if_neg c4]
  have ht' : t = -1 := by
    rw [ht, if_pos ?_]
    split at hlo <;> split at hhi <;> omega
  rw [if_neg (by omega)]
  by_cases c6 : b0 / 8 = 30 ∧ (1 < n ∧ b1 / 64 = 2) ∧ (2 < n ∧ b2 / 64 = 2) ∧ (3 < n ∧ b3 / 64 = 2)
  · rw [if_pos c6]
    split
    · rename_i c5
      have hf' : f = ((b0 : Int) - 240) * 262144 + (b1 : Int) % 64 * 4096 + (b2 : Int) % 64 * 64 + (b3 : Int) % 64 := by
        rw [hf, if_neg ?_]
        split at hlo4 <;> split at hhi4 <;> omega
      rw [if_pos (by omega)]
      apply Prod.ext <;> simp only <;> omega
    · rename_i c5
      have hf' : f = -1 := by
        rw [hf, if_pos ?_]
        split at hlo4 <;> split at hhi4 <;> omega
      rw [if_neg (by omega)]; rfl
  · rw [if_neg c6]
    have hf' : f = -1 := by
      rw [hf, if_pos ?_]
      split at hlo4 <;> split at hhi4 <;> omega
    rw [if_neg (by omega)]; rfl
theorem refNext_eq (s : ByteArray) (i : Int) : refNextZ s i = nextZ s i := by
  unfold refNextZ nextZ
  by_cases h : i < 0 ∨ (s.size : Int) ≤ i
  · rw [if_pos h, if_pos h]
  rw [if_neg h, if_neg h]
  obtain ⟨k, rfl⟩ := Int.eq_ofNat_of_zero_le (show 0 ≤ i by omega)
  have e0 : ((k : Int)).toNat = k := by omega
  have e1 : ((k : Int) + 1).toNat = k + 1 := by omega
  have e2 : ((k : Int) + 2).toNat = k + 2 := by omega
  have e3 : ((k : Int) + 3).toNat = k + 3 := by omega
  have i0 := fun a b => inZ_at s k 0 a b
  have i1 := fun a b => inZ_at s k 1 a b
  have i2 := fun a b => inZ_at s k 2 a b
  have i3 := fun a b => inZ_at s k 3 a b
  simp only [Int.natCast_zero, Int.add_zero, Nat.add_zero] at i0
  rw [e0, Lib.decode_at]
  rw [← refNext_nat (s.size - k) _ _ _ _ (by omega) (s.get! k).toNat_lt (s.get! (k + 1)).toNat_lt (s.get! (k + 2)).toNat_lt (s.get! (k + 3)).toNat_lt _ _ _ _ rfl rfl rfl rfl (threeZ s k) (fourZ s k) ?_ ?_]
  · have hc : (inZ s (k : Int) 194 223 && inZ s ((k : Int) + 1) 128 191) = decide ((194 ≤ ((s.get! k).toNat : Int) ∧ ((s.get! k).toNat : Int) ≤ 223) ∧ 1 < s.size - k ∧ 128 ≤ ((s.get! (k + 1)).toNat : Int) ∧ ((s.get! (k + 1)).toNat : Int) ≤ 191) := by
      have := i1 128 191
      simp only [Int.natCast_one] at this
      rw [i0, this]
      rw [Bool.eq_iff_iff]
      simp only [Bool.and_eq_true, decide_eq_true_eq]
      omega
    rw [e1, hc]
    simp only [decide_eq_true_eq]
  · unfold threeZ
    have j1 := fun a b => i1 a b
    have j2 := fun a b => i2 a b
    simp only [Int.natCast_one] at j1
    rw [show ((2 : Nat) : Int) = 2 from rfl] at j2
    rw [e0, e1, e2, j1, j2]
    congr 1
    simp only [Bool.not_eq_true', Bool.and_eq_false_iff, decide_eq_false_iff_not, gt_iff_lt, eq_iff_iff]
    omega
  · unfold fourZ
    have j1 := fun a b => i1 a b
    have j2 := fun a b => i2 a b
    have j3 := fun a b => i3 a b
    simp only [Int.natCast_one] at j1
    rw [show ((2 : Nat) : Int) = 2 from rfl] at j2
    rw [show ((3 : Nat) : Int) = 3 from rfl] at j3
    rw [e0, e1, e2, e3, j1, j2, j3]
    congr 1
    simp only [Bool.not_eq_true', Bool.and_eq_false_iff, decide_eq_false_iff_not, gt_iff_lt, eq_iff_iff]
    omega

theorem width_in (s : ByteArray) (i : Nat) (h : i < s.size) : i + (Utf8.decode s i).2 ≤ s.size := by
  rw [Lib.decode_at]
  unfold Lib.decodeN
  repeat' split
  all_goals simp only
  all_goals omega

/-! ### the program's way to a place: p is the next rune's, last the one's before -/
structure Pl where
  i : Nat
  l : Int
  c : Int
  ll : Int
  lc : Int
structure PlInv (s : ByteArray) (at_ : Int) (x : Pl) : Prop where
  le : x.i ≤ s.size
  bl : 1 ≤ x.l ∧ x.l ≤ x.i + 1
  bc : 1 ≤ x.c ∧ x.c ≤ x.i + 1
  was : at_ < x.i → 0 < x.i → placeZ s at_ = (x.ll, x.lc)
  next : ¬ (at_ < x.i ∧ 0 < x.i) → placeZ s at_ = placeGo s at_ (s.size - x.i) x.i x.l x.c
  first : x.i = 0 → (x.ll, x.lc) = (x.l, x.c)
theorem PlInv.start (s : ByteArray) (at_ : Int) : PlInv s at_ ⟨0, 1, 1, 1, 1⟩ :=
  ⟨Nat.zero_le _, by simp, by simp, fun _ h => absurd h (Nat.lt_irrefl _), fun _ => rfl, fun _ => rfl⟩
theorem PlInv.step {s : ByteArray} {at_ : Int} {i : Nat} {l c ll lc l' c' : Int} (h : PlInv s at_ ⟨i, l, c, ll, lc⟩) (hi : i < s.size) (hn : ¬ (at_ < i ∧ 0 < i)) (hl : (((Utf8.decode s i).1 : Int) = 10 ∧ l' = l + 1 ∧ c' = 1) ∨ (((Utf8.decode s i).1 : Int) ≠ 10 ∧ l' = l ∧ c' = c + 1)) :
    PlInv s at_ ⟨i + (Utf8.decode s i).2, l', c', l, c⟩ := by
  obtain ⟨h1, h2, h3, h4, h5, h6⟩ := h
  simp only at *
  have hw := width_pos s i
  have hin := width_in s i hi
  have e := h5 hn
  obtain ⟨f, hf⟩ : ∃ f, s.size - i = f + 1 := ⟨s.size - i - 1, by omega⟩
  rw [hf] at e
  simp only [placeGo] at e
  rw [if_neg (by omega)] at e
  refine ⟨hin, by rcases hl with ⟨_, rfl, rfl⟩ | ⟨_, rfl, rfl⟩ <;> simp only <;> omega, by rcases hl with ⟨_, rfl, rfl⟩ | ⟨_, rfl, rfl⟩ <;> simp only <;> omega, fun ha _ => ?_, fun hn' => ?_, fun h0 => ?_⟩
  · rw [e, if_pos ha]
  · simp only at hn' ⊢
    rw [e, if_neg (by omega)]
    rcases hl with ⟨hr, rfl, rfl⟩ | ⟨hr, rfl, rfl⟩
    · rw [if_pos hr]; exact placeGo_fuel s at_ f _ _ _ _ (by omega) (by omega)
    · rw [if_neg hr]; exact placeGo_fuel s at_ f _ _ _ _ (by omega) (by omega)
  · simp only at h0; omega
theorem PlInv.ret {s : ByteArray} {at_ : Int} {i : Nat} {l c ll lc : Int} (h : PlInv s at_ ⟨i, l, c, ll, lc⟩) (hn : at_ < i ∧ 0 < i) : placeZ s at_ = (ll, lc) := h.was hn.1 hn.2
theorem PlInv.end1 {s : ByteArray} {at_ : Int} {i : Nat} {l c ll lc : Int} (h : PlInv s at_ ⟨i, l, c, ll, lc⟩) (hi : s.size ≤ i) (ha : (s.size : Int) ≤ at_) : placeZ s at_ = (l, c) := by
  have := h.next (by have := h.le; simp only at *; omega)
  rw [this]; exact placeGo_end hi
theorem PlInv.end2 {s : ByteArray} {at_ : Int} {i : Nat} {l c ll lc : Int} (h : PlInv s at_ ⟨i, l, c, ll, lc⟩) (hi : s.size ≤ i) (ha : at_ < (s.size : Int)) : placeZ s at_ = (ll, lc) := by
  have hle := h.le
  simp only at hle
  by_cases h0 : 0 < i
  · exact h.was (by simp only; omega) h0
  · have := h.next (by simp only; omega)
    rw [this, placeGo_end hi]
    exact (h.first (by simp only; omega)).symm
end Go.Tw
