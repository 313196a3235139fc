/-
  Chapter 10 in plain Lean: texts behind each other, texts cut off, a text's tail; the tokens read from one byte to another.
-/
import Derived.Test.YtmflkokhhknlaaaDoorLexPlain3
namespace Go.Proofs.YtmflkokhhknlaaaDoor
open Go Go.Tw
set_option linter.unusedVariables false
set_option linter.unusedSimpArgs false
set_option linter.unnecessarySimpa false
set_option maxHeartbeats 1000000
theorem decodeN_bar (n n' b0 b1 b2 b3 c1 c2 c3 : Nat) (hpos : 1 ≤ n) (hn : n ≤ n') (h1 : 1 < n → c1 = b1) (h2 : 2 < n → c2 = b2) (h3 : 3 < n → c3 = b3)
    (k1 : n = 1 → 1 < n' → c1 / 64 ≠ 2) (k2 : n = 2 → 2 < n' → c2 / 64 ≠ 2) (k3 : n = 3 → 3 < n' → c3 / 64 ≠ 2) : Lib.decodeN n' b0 c1 c2 c3 = Lib.decodeN n b0 b1 b2 b3 := by
  have e1 : (1 < n' ∧ c1 / 64 = 2) ↔ (1 < n ∧ b1 / 64 = 2) := by
    by_cases q : 1 < n
    · rw [h1 q]
      constructor
      · rintro ⟨_, h⟩; exact ⟨q, h⟩
      · rintro ⟨_, h⟩; exact ⟨by omega, h⟩
    · have q1 : n = 1 := by omega
      constructor
      · rintro ⟨p1, p2⟩; exact absurd p2 (k1 q1 p1)
      · rintro ⟨p1, _⟩; omega
  have e2 : ((1 < n' ∧ c1 / 64 = 2) ∧ (2 < n' ∧ c2 / 64 = 2)) ↔ ((1 < n ∧ b1 / 64 = 2) ∧ (2 < n ∧ b2 / 64 = 2)) := by
    by_cases q : 2 < n
    · rw [e1, h2 q]
      constructor
      · rintro ⟨h, _, h'⟩; exact ⟨h, q, h'⟩
      · rintro ⟨h, _, h'⟩; exact ⟨h, by omega, h'⟩
    · constructor
      · rintro ⟨h, p1, p2⟩
        have h' := e1.1 h
        exact absurd p2 (k2 (by omega) p1)
      · rintro ⟨_, p1, _⟩; omega
  have e3 : ((1 < n' ∧ c1 / 64 = 2) ∧ (2 < n' ∧ c2 / 64 = 2) ∧ (3 < n' ∧ c3 / 64 = 2)) ↔ ((1 < n ∧ b1 / 64 = 2) ∧ (2 < n ∧ b2 / 64 = 2) ∧ (3 < n ∧ b3 / 64 = 2)) := by
    constructor
    · rintro ⟨x1, x2, x3⟩
      have y := e2.1 ⟨x1, x2⟩
      by_cases q : 3 < n
      · exact ⟨y.1, y.2, q, by rw [← h3 q]; exact x3.2⟩
      · exact absurd x3.2 (k3 (by omega) x3.1)
    · rintro ⟨x1, x2, x3⟩
      have y := e2.2 ⟨x1, x2⟩
      exact ⟨y.1, y.2, by omega, by rw [h3 x3.1]; exact x3.2⟩
  unfold Lib.decodeN
  by_cases g0 : b0 < 128
  · rw [if_pos g0, if_pos g0]
  · rw [if_neg g0, if_neg g0]
    by_cases g1 : b0 / 32 = 6 ∧ (1 < n ∧ b1 / 64 = 2)
    · rw [if_pos g1, if_pos ⟨g1.1, e1.2 g1.2⟩, h1 g1.2.1]
    · rw [if_neg g1, if_neg (fun h => g1 ⟨h.1, e1.1 h.2⟩)]
      by_cases g2 : b0 / 16 = 14 ∧ (1 < n ∧ b1 / 64 = 2) ∧ (2 < n ∧ b2 / 64 = 2)
      · rw [if_pos g2, if_pos ⟨g2.1, e2.2 g2.2⟩, h1 g2.2.1.1, h2 g2.2.2.1]
      · rw [if_neg g2, if_neg (fun h => g2 ⟨h.1, e2.1 h.2⟩)]
        by_cases g3 : b0 / 8 = 30 ∧ (1 < n ∧ b1 / 64 = 2) ∧ (2 < n ∧ b2 / 64 = 2) ∧ (3 < n ∧ b3 / 64 = 2)
        · rw [if_pos g3, if_pos ⟨g3.1, e3.2 g3.2⟩, h1 g3.2.1.1, h2 g3.2.2.1.1, h3 g3.2.2.2.1]
        · rw [if_neg g3, if_neg (fun h => g3 ⟨h.1, e3.1 h.2⟩)]
/-- What begins with a blank, or is empty. -/
def Bl (x : ByteArray) : Prop := x.size = 0 ∨ (x.get! 0).toNat = 10 ∨ (x.get! 0).toNat = 32
theorem get_mid (s x : ByteArray) : (s ++ x).get! s.size = x.get! 0 := get_right s x 0
theorem bl_decode {s x : ByteArray} (hx : Bl x) {i : Nat} (hi : i < s.size) : Utf8.decode (s ++ x) i = Utf8.decode s i := by
  have hsz : (s ++ x).size = s.size + x.size := ByteArray.size_append
  have hm := get_mid s x
  have hstop : s.size < (s ++ x).size → ((s ++ x).get! s.size).toNat / 64 ≠ 2 := fun h => by
    rw [hm]
    rcases hx with h0 | h0 | h0 <;> omega
  rw [Lib.decode_at, Lib.decode_at, get_left s x i hi]
  refine decodeN_bar _ _ _ _ _ _ _ _ _ (by omega) (by omega) (fun h => by rw [get_left s x _ (by omega)]) (fun h => by rw [get_left s x _ (by omega)]) (fun h => by rw [get_left s x _ (by omega)]) (fun h h' => ?_) (fun h h' => ?_) (fun h h' => ?_)
  · rw [show i + 1 = s.size by omega]; exact hstop (by omega)
  · rw [show i + 2 = s.size by omega]; exact hstop (by omega)
  · rw [show i + 3 = s.size by omega]; exact hstop (by omega)
theorem bl_kAt {s x : ByteArray} (hx : Bl x) {i : Nat} (hi : i < s.size) : kAt (s ++ x) i = kAt s i := by unfold kAt; rw [bl_decode hx hi]
theorem kAt_ascii {s : ByteArray} {i : Nat} (h : (s.get! i).toNat < 128) : kAt s i = kindZ (s.get! i).toNat := by unfold kAt; rw [Go.Tw.decode_ascii h]
theorem bl_mid {s x : ByteArray} (hx : Bl x) (h : s.size < (s ++ x).size) : kAt (s ++ x) s.size = 3 ∧ ((s ++ x).get! s.size).toNat ≠ 124 := by
  have hsz : (s ++ x).size = s.size + x.size := ByteArray.size_append
  have hm := get_mid s x
  rcases hx with h0 | h0 | h0
  · omega
  · rw [kAt_ascii (by rw [hm]; omega), hm, h0]; exact ⟨by decide, by decide⟩
  · rw [kAt_ascii (by rw [hm]; omega), hm, h0]; exact ⟨by decide, by decide⟩
theorem bl_run {p : Int → Bool} {s x : ByteArray} (hx : Bl x) (hp : p 3 = false) : ∀ (f i : Nat), s.size ≤ i + f → i ≤ s.size → runAt p (s ++ x) i = runAt p s i
  | 0, i, h, hi => by
    have e : i = s.size := by omega
    subst e
    rw [runAt_end (s := s) (Nat.le_refl _)]
    rcases Nat.lt_or_ge s.size (s ++ x).size with h1 | h1
    · exact runAt_stop h1 (by rw [(bl_mid hx h1).1]; exact hp)
    · rw [runAt_end h1]
      have hsz : (s ++ x).size = s.size + x.size := ByteArray.size_append
      omega
  | f + 1, i, h, hi => by
    rcases Nat.lt_or_ge i s.size with h1 | h1
    · have hsz : (s ++ x).size = s.size + x.size := ByteArray.size_append
      have hw := width_pos s i
      have hin := width_in s i h1
      cases hk : p (kAt s i) with
      | false => rw [runAt_stop h1 hk, runAt_stop (by omega) (by rw [bl_kAt hx h1]; exact hk)]
      | true =>
        rw [runAt_step h1 hk, runAt_step (by omega) (by rw [bl_kAt hx h1]; exact hk), bl_decode hx h1]
        exact bl_run hx hp f _ (by omega) hin
    · exact bl_run hx hp 0 i (by omega) hi
theorem ext_left {s x : ByteArray} {i j : Nat} (hj : j ≤ s.size) : (s ++ x).extract i j = s.extract i j := by
  rw [ByteArray.extract_append]
  have : x.extract (i - s.size) (j - s.size) = ByteArray.empty := ByteArray.extract_eq_empty_iff.2 (by omega)
  rw [this, ByteArray.append_empty]
theorem bl_numEnd {s x : ByteArray} (hx : Bl x) {i : Nat} (hi : i ≤ s.size) : numEnd (s ++ x) i = numEnd s i := by
  have hr := bl_run (p := isDigit) hx rfl s.size i (by omega) hi
  have hle := runAt_le isDigit s i hi
  have hsz : (s ++ x).size = s.size + x.size := ByteArray.size_append
  unfold numEnd
  rw [hr]
  rcases Nat.lt_or_ge (runAt isDigit s i) s.size with h1 | h1
  · rw [get_left s x _ h1, bl_run (p := isDigit) hx rfl s.size (runAt isDigit s i + 1) (by omega) (by omega)]
    by_cases h2 : runAt isDigit s i < s.size ∧ (s.get! (runAt isDigit s i)).toNat = 124 ∧ runAt isDigit s i + 1 < runAt isDigit s (runAt isDigit s i + 1)
    · rw [if_pos h2, if_pos ⟨by omega, h2.2⟩]
    · rw [if_neg h2, if_neg (fun h => h2 ⟨h1, h.2⟩)]
  · rw [if_neg (c := runAt isDigit s i < s.size ∧ _) (by omega)]
    have e : runAt isDigit s i = s.size := by omega
    rw [e, if_neg]
    rintro ⟨h2, h3, _⟩
    exact (bl_mid hx h2).2 h3
theorem bl_tok {s x : ByteArray} (hx : Bl x) {i : Nat} (hi : i < s.size) : tokZ (s ++ x) i = tokZ s i := by
  have hw := runAt_le isWord s i (by omega)
  have hn := (numEnd_ge s i (by omega)).2
  have hin := width_in s i hi
  unfold tokZ
  rw [bl_kAt hx hi, bl_run (p := isWord) hx rfl s.size i (by omega) (by omega), bl_numEnd hx (by omega), bl_decode hx hi, ext_left hw, ext_left hn, ext_left hin]

/-! ### a text's tail -/
theorem run_tail (p : Int → Bool) (s : ByteArray) (a i : Nat) (ha : a ≤ s.size) : runAt p s (a + i) = a + runAt p (s.extract a s.size) i := by
  have h := runGo_tail p s a ha (s.size - a - i) i
  have hs : (s.extract a s.size).size = s.size - a := by simp
  unfold runAt
  rw [hs, show s.size - (a + i) = s.size - a - i by omega]
  omega
theorem ext_tail {s : ByteArray} {a i j : Nat} (hj : a + j ≤ s.size) : (s.extract a s.size).extract i j = s.extract (a + i) (a + j) := by
  rw [ByteArray.extract_extract, Nat.min_eq_left hj]
theorem numEnd_tail (s : ByteArray) (a i : Nat) (ha : a ≤ s.size) : numEnd s (a + i) = a + numEnd (s.extract a s.size) i := by
  have hs : (s.extract a s.size).size = s.size - a := by simp
  unfold numEnd
  rw [run_tail isDigit s a i ha, get_tail s a _ ha, hs]
  have e := run_tail isDigit s a (runAt isDigit (s.extract a s.size) i + 1) ha
  rw [← Nat.add_assoc] at e
  rw [e]
  by_cases h : runAt isDigit (s.extract a s.size) i < s.size - a ∧ (s.get! (a + runAt isDigit (s.extract a s.size) i)).toNat = 124 ∧ runAt isDigit (s.extract a s.size) i + 1 < runAt isDigit (s.extract a s.size) (runAt isDigit (s.extract a s.size) i + 1)
  · rw [if_pos h, if_pos ⟨by omega, h.2.1, by omega⟩]
  · rw [if_neg h, if_neg (fun h' => h ⟨by omega, h'.2.1, by omega⟩)]
def _root_.Go.Tw.TokR.on (a : Nat) (t : TokR) : TokR := ⟨t.kind, t.text, a + t.stop, t.err⟩
theorem kAt_tail (s : ByteArray) (a i : Nat) (ha : a ≤ s.size) : kAt s (a + i) = kAt (s.extract a s.size) i := by unfold kAt; rw [decode_tail s a i ha]
theorem tok_tail (s : ByteArray) (a i : Nat) (hi : a + i < s.size) : tokZ s (a + i) = (tokZ (s.extract a s.size) i).on a := by
  have ha : a ≤ s.size := by omega
  have hs : (s.extract a s.size).size = s.size - a := by simp
  have hw := runAt_le isWord (s.extract a s.size) i (by omega)
  have hn := (numEnd_ge (s.extract a s.size) i (by omega)).2
  have hin := width_in (s.extract a s.size) i (by omega)
  unfold tokZ
  rw [kAt_tail s a i ha, run_tail isWord s a i ha, numEnd_tail s a i ha, ← decode_tail s a i ha, Nat.add_assoc a i, ← ext_tail (i := i) (j := runAt isWord (s.extract a s.size) i) (by omega), ← ext_tail (i := i) (j := numEnd (s.extract a s.size) i) (by omega), ← ext_tail (i := i) (j := i + (Utf8.decode (s.extract a s.size) i).2) (by omega)]
  by_cases h1 : kAt (s.extract a s.size) i = 1
  · rw [if_pos h1, if_pos h1, show a + runAt isWord (s.extract a s.size) i - (a + i) = runAt isWord (s.extract a s.size) i - i by omega]
    split <;> rfl
  · rw [if_neg h1, if_neg h1]
    by_cases h2 : kAt (s.extract a s.size) i = 2
    · rw [if_pos h2, if_pos h2]
      split
      · rfl
      · split <;> rfl
    · rw [if_neg h2, if_neg h2]
      split <;> rfl

/-! ### a text that is cut off -/
theorem _root_.Go.Tw.Hops.head {s : ByteArray} {i b : Nat} (h : Hops s i b) : i = b ∨ (i < s.size ∧ Hops s (i + (Utf8.decode s i).2) b) := by
  induction h with
  | refl => exact .inl rfl
  | @step j _ hj ih =>
    rcases ih with rfl | ⟨h1, h2⟩
    · exact .inr ⟨hj, .refl⟩
    · exact .inr ⟨h1, h2.step hj⟩
theorem _root_.Go.Tw.Hops.mid {s : ByteArray} {i a b : Nat} (ha : Hops s i a) (hb : Hops s i b) : a ≤ b → Hops s a b := by
  induction ha with
  | refl => intro _; exact hb
  | @step j _ hj ih =>
    intro h
    have hw := width_pos s j
    rcases (ih (by omega)).head with h1 | h1
    · omega
    · exact h1.2
theorem cut_decode {s : ByteArray} {B i : Nat} (hB : B ≤ s.size) (hi : i < B) (h : Hops s i B) : Utf8.decode (s.extract 0 B) i = Utf8.decode s i ∧ Hops s (i + (Utf8.decode s i).2) B ∧ i + (Utf8.decode s i).2 ≤ B := by
  rcases h.head with h1 | ⟨h1, h2⟩
  · omega
  · have hge := h2.ge
    have e := decode_piece s 0 B i hB (by omega) (by rw [Nat.zero_add]; exact hge)
    rw [Nat.zero_add] at e
    exact ⟨e, h2, hge⟩
theorem cut_kAt {s : ByteArray} {B i : Nat} (hB : B ≤ s.size) (hi : i < B) (h : Hops s i B) : kAt (s.extract 0 B) i = kAt s i := by unfold kAt; rw [(cut_decode hB hi h).1]
theorem cut_size {s : ByteArray} {B : Nat} (hB : B ≤ s.size) : (s.extract 0 B).size = B := by rw [ByteArray.size_extract]; omega
theorem cut_run (p : Int → Bool) {s : ByteArray} {B : Nat} (hB : B ≤ s.size) : ∀ (f i : Nat), B ≤ i + f → i ≤ B → Hops s i B → runAt p (s.extract 0 B) i = min (runAt p s i) B
  | 0, i, h, hi, _ => by
    have e : i = B := by omega
    subst e
    have := runAt_ge p s i hB
    rw [runAt_end (by rw [cut_size hB]; omega), cut_size hB]
    omega
  | f + 1, i, h, hi, hh => by
    rcases Nat.lt_or_ge i B with h1 | h1
    · obtain ⟨e1, e2, e3⟩ := cut_decode hB h1 hh
      have hw := width_pos s i
      cases hk : p (kAt s i) with
      | false =>
        rw [runAt_stop (s := s) (by omega) hk, runAt_stop (by rw [cut_size hB]; exact h1) (by rw [cut_kAt hB h1 hh]; exact hk)]
        omega
      | true =>
        rw [runAt_step (s := s) (by omega) hk, runAt_step (by rw [cut_size hB]; exact h1) (by rw [cut_kAt hB h1 hh]; exact hk), e1]
        exact cut_run p hB f _ (by omega) e3 e2
    · exact cut_run p hB 0 i (by omega) hi hh
theorem ext_cut {s : ByteArray} {B i j : Nat} (hj : j ≤ B) : (s.extract 0 B).extract i j = s.extract i j := by
  rw [ByteArray.extract_extract, Nat.zero_add, Nat.zero_add, Nat.min_eq_left hj]
theorem cut_get {s : ByteArray} {B i : Nat} (hB : B ≤ s.size) (hi : i < B) : (s.extract 0 B).get! i = s.get! i := by
  have := get_piece s 0 B i hB (by omega)
  rw [Nat.zero_add] at this
  exact this
theorem cut_numEnd {s : ByteArray} {B i : Nat} (hB : B ≤ s.size) (hi : i ≤ B) (h : Hops s i B) (hn : numEnd s i ≤ B) : numEnd (s.extract 0 B) i = numEnd s i := by
  have hr1 := cut_run isDigit hB B i (by omega) hi h
  have hs1 := runAt_steps isDigit s s.size i (by omega) (by omega)
  have hb := runAt_le isDigit s i (by omega)
  have hsz := cut_size hB
  have hr : runAt isDigit s i ≤ numEnd s i := by
    unfold numEnd
    split
    · rename_i h'; omega
    · exact Nat.le_refl _
  have e1 : runAt isDigit (s.extract 0 B) i = runAt isDigit s i := by rw [hr1]; omega
  have e2 : runAt isDigit s i < B → (s.get! (runAt isDigit s i)).toNat = 124 → runAt isDigit (s.extract 0 B) (runAt isDigit s i + 1) = min (runAt isDigit s (runAt isDigit s i + 1)) B := fun hlt h124 => by
    have hst := hs1.step (show runAt isDigit s i < s.size by omega)
    rw [Go.Tw.decode_ascii (s := s) (i := runAt isDigit s i) (by omega)] at hst
    exact cut_run isDigit hB B _ (by omega) (by show runAt isDigit s i + 1 ≤ B; omega) (hst.mid h (by show runAt isDigit s i + 1 ≤ B; omega))
  unfold numEnd at hn ⊢
  rw [e1, hsz]
  by_cases h2 : runAt isDigit s i < s.size ∧ (s.get! (runAt isDigit s i)).toNat = 124 ∧ runAt isDigit s i + 1 < runAt isDigit s (runAt isDigit s i + 1)
  · rw [if_pos h2] at hn ⊢
    have hlt : runAt isDigit s i < B := by omega
    have e3 := e2 hlt h2.2.1
    rw [cut_get hB hlt, e3, if_pos ⟨hlt, h2.2.1, by omega⟩]
    omega
  · rw [if_neg h2]
    by_cases h3 : runAt isDigit s i < B ∧ ((s.extract 0 B).get! (runAt isDigit s i)).toNat = 124 ∧ runAt isDigit s i + 1 < runAt isDigit (s.extract 0 B) (runAt isDigit s i + 1)
    · exfalso
      obtain ⟨h4, h5, h6⟩ := h3
      rw [cut_get hB h4] at h5
      rw [e2 h4 h5] at h6
      exact h2 ⟨by omega, h5, by omega⟩
    · rw [if_neg h3]
theorem cut_tok {s : ByteArray} {B i : Nat} (hB : B ≤ s.size) (hi : i < B) (h : Hops s i B) (he : (tokZ s i).err = 0) (hst : (tokZ s i).stop ≤ B) : tokZ (s.extract 0 B) i = tokZ s i := by
  obtain ⟨e1, e2, e3⟩ := cut_decode hB hi h
  have ek := cut_kAt hB hi h
  unfold tokZ at he hst ⊢
  rw [ek, e1]
  by_cases h1 : kAt s i = 1
  · rw [if_pos h1] at he hst
    have hle : runAt isWord s i ≤ B := by
      split at hst <;> exact hst
    have hr := cut_run isWord hB B i (by omega) (by omega) h
    rw [Nat.min_eq_left hle] at hr
    rw [if_pos h1, if_pos h1, hr, ext_cut hle]
  · rw [if_neg h1] at he hst
    rw [if_neg h1, if_neg h1]
    by_cases h2 : kAt s i = 2
    · rw [if_pos h2] at he hst
      have hle : numEnd s i ≤ B := by
        split at hst
        · exact hst
        · split at hst <;> exact hst
      rw [if_pos h2, if_pos h2, cut_numEnd hB (by omega) h hle, ext_cut hle]
    · rw [if_neg h2, if_neg h2, ext_cut e3]

/-! ### the tokens from one byte to another -/
def tokAt (s : ByteArray) (i : Nat) : Tok := ⟨(tokZ s i).kind, (tokZ s i).text, (placeZ s i).1, (placeZ s i).2⟩
inductive Lexed (s : ByteArray) : Nat → Nat → List Tok → Prop
  | refl (i : Nat) : Lexed s i i []
  | blank {i j : Nat} {ts : List Tok} : i < s.size → kAt s i = 3 → Lexed s (i + 1) j ts → Lexed s i j ts
  | tok {i j : Nat} {ts : List Tok} : i < s.size → kAt s i ≠ 3 → (tokZ s i).err = 0 → Lexed s (tokZ s i).stop j ts → Lexed s i j (tokAt s i :: ts)
theorem Lexed.trans {s : ByteArray} {i j k : Nat} {ts us : List Tok} (h : Lexed s i j ts) (h2 : Lexed s j k us) : Lexed s i k (ts ++ us) := by
  induction h with
  | refl => exact h2
  | blank a b _ ih => exact .blank a b (ih h2)
  | tok a b c _ ih => exact .tok a b c (ih h2)
theorem Lexed.hops {s : ByteArray} {i j : Nat} {ts : List Tok} (h : Lexed s i j ts) : Hops s i j := by
  induction h with
  | refl => exact .refl
  | blank a b _ ih =>
    have := (Hops.refl (s := s)).step a
    rw [kAt_three b] at this
    exact this.trans ih
  | tok a b c _ ih => exact (tok_hops a c).trans ih
theorem Lexed.few {s : ByteArray} {i j : Nat} {ts : List Tok} (h : Lexed s i j ts) : i + ts.length ≤ j := by
  induction h with
  | refl => simp
  | blank a b _ ih => omega
  | tok a b c _ ih => have := tokZ_stop a c; simp only [List.length_cons]; omega
theorem Lexed.lex {s : ByteArray} {i j : Nat} {ts : List Tok} (h : Lexed s i j ts) : ∀ out : List Tok, out.length + ts.length ≤ 4000 → lexAt s i out = lexAt s j (out ++ ts) := by
  induction h with
  | refl => intro out _; rw [List.append_nil]
  | blank a b _ ih => intro out hl; rw [lexAt_open a, if_pos b]; exact ih out hl
  | tok a b c _ ih =>
    intro out hl
    simp only [List.length_cons] at hl
    rw [lexAt_open a, if_neg b, if_neg (by omega), if_neg (not_not_intro c), ih _ (by simp; omega), List.append_assoc]
    rfl
/-- Some tokens; then the end, or what is none. -/
theorem Lexed.all (s : ByteArray) : ∀ (f i : Nat), s.size ≤ i + f → i ≤ s.size → ∃ j ts, Lexed s i j ts ∧ (j = s.size ∨ (j < s.size ∧ kAt s j ≠ 3 ∧ (tokZ s j).err ≠ 0))
  | 0, i, h, hi => ⟨i, [], .refl i, .inl (by omega)⟩
  | f + 1, i, h, hi => by
    rcases Nat.lt_or_ge i s.size with h1 | h1
    · by_cases h3 : kAt s i = 3
      · obtain ⟨j, ts, a, b⟩ := Lexed.all s f (i + 1) (by omega) (by omega)
        exact ⟨j, ts, .blank h1 h3 a, b⟩
      · by_cases h4 : (tokZ s i).err = 0
        · have hst := tokZ_stop h1 h4
          obtain ⟨j, ts, a, b⟩ := Lexed.all s f (tokZ s i).stop (by omega) hst.2
          exact ⟨j, _, .tok h1 h3 h4 a, b⟩
        · exact ⟨i, [], .refl i, .inr ⟨h1, h3, h4⟩⟩
    · exact ⟨i, [], .refl i, .inl (by omega)⟩
/-- A text of few bytes has tokens, or what is none. -/
inductive Lexes (s : ByteArray) : LexR → Prop
  | fine {ts : List Tok} : Lexed s 0 s.size ts → Lexes s ⟨ts, 0, 0, 0⟩
  | bad {j : Nat} {ts : List Tok} : Lexed s 0 j ts → j < s.size → kAt s j ≠ 3 → (tokZ s j).err ≠ 0 → Lexes s ⟨[], (placeZ s j).1, (placeZ s j).2, (tokZ s j).err⟩
theorem Lexed.fine {s : ByteArray} {ts : List Tok} (hs : s.size ≤ 4000) (h : Lexed s 0 s.size ts) : lexZ s = ⟨ts, 0, 0, 0⟩ := by
  have hf := h.few
  rw [lexZ_at (by omega), h.lex [] (by simp; omega), lexAt_end (Nat.le_refl _)]
  rfl
theorem Lexed.bad {s : ByteArray} {ts : List Tok} {j : Nat} (hs : s.size ≤ 4000) (h : Lexed s 0 j ts) (h1 : j < s.size) (h2 : kAt s j ≠ 3) (h3 : (tokZ s j).err ≠ 0) : lexZ s = ⟨[], (placeZ s j).1, (placeZ s j).2, (tokZ s j).err⟩ := by
  have hf := h.few
  rw [lexZ_at (by omega), h.lex [] (by simp; omega), lexAt_open h1, if_neg h2, if_neg (by simp; omega), if_pos h3]
theorem lexes (s : ByteArray) (hs : s.size ≤ 4000) : Lexes s (lexZ s) := by
  obtain ⟨j, ts, a, b⟩ := Lexed.all s s.size 0 (by omega) (by omega)
  rcases b with rfl | ⟨b1, b2, b3⟩
  · rw [a.fine hs]; exact .fine a
  · rw [a.bad hs b1 b2 b3]; exact .bad a b1 b2 b3

/-! ### places -/
theorem bl_place {s x : ByteArray} (hx : Bl x) {i : Nat} (h : Hops s 0 i) : Hops (s ++ x) 0 i ∧ placeZ (s ++ x) i = placeZ s i := by
  induction h with
  | refl => exact ⟨.refl, by rw [show ((0 : Nat) : Int) = 0 from rfl, placeZ_first, placeZ_first]⟩
  | @step j h hj ih =>
    have hsz : (s ++ x).size = s.size + x.size := ByteArray.size_append
    have hd := bl_decode hx hj
    have h1 := ih.1.step (show j < (s ++ x).size by omega)
    have h2 := place_step ih.1 (show j < (s ++ x).size by omega)
    rw [hd] at h1 h2
    exact ⟨h1, by rw [h2, place_step h hj, ih.2]⟩
theorem bl_tokAt {s x : ByteArray} (hx : Bl x) {i : Nat} (hi : i < s.size) (h : Hops s 0 i) : tokAt (s ++ x) i = tokAt s i := by unfold tokAt; rw [bl_tok hx hi, (bl_place hx h).2]
theorem Lexed.bl {s x : ByteArray} (hx : Bl x) {i j : Nat} {ts : List Tok} (h : Lexed s i j ts) : Hops s 0 i → Lexed (s ++ x) i j ts := by
  have hsz : (s ++ x).size = s.size + x.size := ByteArray.size_append
  induction h with
  | refl => intro _; exact .refl _
  | blank a b _ ih =>
    intro h0
    have h1 := h0.step a
    rw [kAt_three b] at h1
    exact .blank (by omega) (by rw [bl_kAt hx a]; exact b) (ih h1)
  | tok a b c _ ih =>
    intro h0
    have h1 := h0.trans (tok_hops a c)
    rw [← bl_tokAt hx a h0]
    exact .tok (by omega) (by rw [bl_kAt hx a]; exact b) (by rw [bl_tok hx a]; exact c) (by rw [bl_tok hx a]; exact ih h1)
/-- So many lines further on. -/
def _root_.Go.Tw.Tok.down (n : Int) (t : Tok) : Tok := ⟨t.kind, t.text, t.line + n, t.col⟩
theorem Lexed.behind {s t : ByteArray} {i j : Nat} {ts : List Tok} (h : Lexed t i j ts) : Lexed (s ++ ⟨#[10]⟩ ++ t) (s.size + 1 + i) (s.size + 1 + j) (ts.map (Tok.down (1 + (lines s s.size : Int)))) := by
  have ht : (s ++ ⟨#[10]⟩ ++ t).extract (s.size + 1) (s ++ ⟨#[10]⟩ ++ t).size = t := by
    have := tail_of (s ++ ⟨#[10]⟩) t
    rw [ByteArray.size_append] at this
    exact this
  have hsz : (s ++ ⟨#[10]⟩ ++ t).size = s.size + 1 + t.size := by rw [ByteArray.size_append, ByteArray.size_append]; rfl
  have hk : ∀ i, kAt (s ++ ⟨#[10]⟩ ++ t) (s.size + 1 + i) = kAt t i := fun i => by rw [kAt_tail _ _ _ (by omega), ht]
  have htk : ∀ i, i < t.size → tokZ (s ++ ⟨#[10]⟩ ++ t) (s.size + 1 + i) = (tokZ t i).on (s.size + 1) := fun i hi => by rw [tok_tail _ _ _ (by omega), ht]
  have hp : ∀ i : Nat, placeZ (s ++ ⟨#[10]⟩ ++ t) ((s.size + 1 + i : Nat) : Int) = ((placeZ t i).1 + (1 + (lines s s.size : Int)), (placeZ t i).2) := fun i => by
    have := lines_law s t i (by omega)
    rw [show (((s.size + 1 + i : Nat)) : Int) = s.size + 1 + (i : Int) by omega]
    exact this
  induction h with
  | refl => exact .refl _
  | blank a b _ ih => exact .blank (by omega) (by rw [hk]; exact b) (by rw [Nat.add_assoc]; exact ih)
  | @tok i j ts a b c _ ih =>
    have e : tokAt (s ++ ⟨#[10]⟩ ++ t) (s.size + 1 + i) = (tokAt t i).down (1 + (lines s s.size : Int)) := by
      unfold tokAt; rw [htk i a, hp]; rfl
    rw [List.map_cons, ← e]
    exact .tok (by omega) (by rw [hk]; exact b) (by rw [htk i a]; exact c) (by rw [htk i a]; exact ih)
/-- LexJoins, plainly. -/
theorem joins_law (s t : ByteArray) (hs : s.size ≤ 200) (ht : t.size ≤ 200) : lexZ (s ++ ⟨#[10]⟩ ++ t) =
    if (lexZ s).err ≠ 0 then ⟨[], (lexZ s).line, (lexZ s).col, (lexZ s).err⟩
    else if (lexZ t).err ≠ 0 then ⟨[], (lexZ t).line + (1 + (lines s s.size : Int)), (lexZ t).col, (lexZ t).err⟩
    else ⟨(lexZ s).toks ++ (lexZ t).toks.map (Tok.down (1 + (lines s s.size : Int))), 0, 0, 0⟩ := by
  have hsz : (s ++ ⟨#[10]⟩ ++ t).size = s.size + 1 + t.size := by rw [ByteArray.size_append, ByteArray.size_append]; rfl
  have hbl : Bl (⟨#[10]⟩ ++ t) := .inr (.inl (by rw [get_left _ t 0 (by decide)]; rfl))
  have hass : s ++ ⟨#[10]⟩ ++ t = s ++ (⟨#[10]⟩ ++ t) := ByteArray.append_assoc
  have htl : (s ++ ⟨#[10]⟩ ++ t).extract (s.size + 1) (s ++ ⟨#[10]⟩ ++ t).size = t := by
    have := tail_of (s ++ ⟨#[10]⟩) t
    rw [ByteArray.size_append] at this
    exact this
  have hS := lexes s (by omega)
  have hT := lexes t (by omega)
  generalize lexZ s = rs at hS
  generalize lexZ t = rt at hT
  cases hS with
  | @bad j ts a b1 b2 b3 =>
    rw [if_pos b3]
    have h1 := a.bl hbl .refl
    have hp := (bl_place hbl a.hops).2
    rw [← hass] at h1 hp
    have hk : tokZ (s ++ ⟨#[10]⟩ ++ t) j = tokZ s j := by rw [hass]; exact bl_tok hbl b1
    rw [h1.bad (by omega) (by omega) (by rw [hass, bl_kAt hbl b1]; exact b2) (by rw [hk]; exact b3), hp, hk]
  | @fine ts a =>
    rw [if_neg (by simp)]
    have h1 := a.bl hbl .refl
    rw [← hass] at h1
    have hk3 : kAt (s ++ ⟨#[10]⟩ ++ t) s.size = 3 := by rw [hass]; exact (bl_mid hbl (by rw [← hass]; omega)).1
    have h2 : Lexed (s ++ ⟨#[10]⟩ ++ t) 0 (s.size + 1) ts := by
      have := h1.trans (.blank (by omega) hk3 (.refl _))
      rw [List.append_nil] at this
      exact this
    cases hT with
    | @bad j us b b1 b2 b3 =>
      rw [if_pos b3]
      have h3 := h2.trans (b.behind (s := s))
      have hk : tokZ (s ++ ⟨#[10]⟩ ++ t) (s.size + 1 + j) = (tokZ t j).on (s.size + 1) := by rw [tok_tail _ _ _ (by omega), htl]
      have hp : placeZ (s ++ ⟨#[10]⟩ ++ t) ((s.size + 1 + j : Nat) : Int) = ((placeZ t j).1 + (1 + (lines s s.size : Int)), (placeZ t j).2) := by
        have := lines_law s t j (by omega)
        rw [show (((s.size + 1 + j : Nat)) : Int) = s.size + 1 + (j : Int) by omega]
        exact this
      rw [h3.bad (by omega) (by omega) (by rw [kAt_tail _ _ _ (by omega), htl]; exact b2) (by rw [hk]; exact b3), hp, hk]
      rfl
    | @fine us b =>
      rw [if_neg (by simp)]
      have h3 := h2.trans (b.behind (s := s))
      rw [Nat.add_zero] at *
      rw [← hsz] at h3
      rw [h3.fine (by omega)]
end Go.Proofs.YtmflkokhhknlaaaDoor
