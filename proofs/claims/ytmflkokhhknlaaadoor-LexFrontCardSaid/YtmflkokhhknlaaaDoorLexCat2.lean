/-
  Chapter 10 in plain Lean: the laws of texts that are cut off, of tokens with one blank between, of many tokens.
-/
import Derived.Test.YtmflkokhhknlaaaDoorLexCat
namespace Go.Proofs.YtmflkokhhknlaaaDoor
open Go Go.Tw
set_option linter.unusedVariables false
set_option linter.unusedSimpArgs false
set_option linter.unnecessarySimpa false
set_option maxHeartbeats 1000000

/-! ### a place is one byte's -/
theorem place_lt {s : ByteArray} {a k : Nat} (h0 : Hops s 0 a) (h : Hops s a k) : a = k ∨ (placeZ s a).1 < (placeZ s k).1 ∨ ((placeZ s a).1 = (placeZ s k).1 ∧ (placeZ s a).2 < (placeZ s k).2) := by
  induction h with
  | refl => exact .inl rfl
  | @step j h hj ih =>
    have hp := place_step (h0.trans h) hj
    rw [hp]
    by_cases h10 : (Utf8.decode s j).1 = 10
    · rw [if_pos h10]
      rcases ih with rfl | ih | ih
      · right; left; simp only; omega
      · right; left; simp only; omega
      · right; left; simp only; omega
    · rw [if_neg h10]
      rcases ih with rfl | ih | ih
      · right; right; exact ⟨rfl, Int.lt_add_one_of_le (Int.le_refl _)⟩
      · right; left; simp only; omega
      · right; right; simp only; omega
theorem rune_of {s : ByteArray} {k : Nat} (h : Hops s 0 k) : ∀ x, x < k → ∃ a, Hops s 0 a ∧ Hops s a k ∧ a ≤ x ∧ x < a + (Utf8.decode s a).2 ∧ a < k := by
  induction h with
  | refl => intro x hx; omega
  | @step j h hj ih =>
    intro x hx
    have hw := width_pos s j
    rcases Nat.lt_or_ge x j with h1 | h1
    · obtain ⟨a, h2, h3, h4, h5, h6⟩ := ih x h1
      exact ⟨a, h2, h3.step hj, h4, h5, by omega⟩
    · exact ⟨j, h, Hops.refl.step hj, h1, hx, by omega⟩
theorem at_ne {s : ByteArray} {k x : Nat} (h : Hops s 0 k) (hx : x < k) : placeZ s x ≠ placeZ s k := by
  obtain ⟨a, h1, h2, h3, h4, h5⟩ := rune_of h x hx
  have e : placeZ s x = placeZ s a := (steps_rch h1).here (at_ := x) (by omega) (.inl (by omega))
  rw [e]
  intro e2
  rcases place_lt h1 h2 with h6 | h6 | h6
  · omega
  · rw [e2] at h6; omega
  · rw [e2] at h6; omega

/-! ### a text that is cut off behind a token -/
theorem cut_place {s : ByteArray} {B i : Nat} (hB : B ≤ s.size) (h : Hops s 0 i) (hi : i ≤ B) : placeZ (s.extract 0 B) i = placeZ s i := by
  have hw := width_pos (s.extract 0 B) i
  obtain ⟨h1, hr⟩ := steps_piece (Hops.refl (s := s) (a := 0)) hB h hi
  rw [show ((0 : Nat) : Int) = 0 from rfl, placeZ_first] at hr
  have e := hr.here (at_ := (i : Int)) (by omega) (.inl (by rw [Nat.sub_zero]; omega))
  rw [e]
  refine Prod.ext (by simp only; omega) ?_
  simp only
  split <;> omega
theorem Lexed.ge {s : ByteArray} {i j : Nat} {ts : List Tok} (h : Lexed s i j ts) : i ≤ j := h.hops.ge
theorem Lexed.cut {s : ByteArray} {B i j : Nat} {ts : List Tok} (hB : B ≤ s.size) (h : Lexed s i j ts) : Hops s 0 i → Hops s j B → Lexed (s.extract 0 B) i j ts := by
  have hsz := cut_size hB
  induction h with
  | refl => intro _ _; exact .refl _
  | @blank i j ts a b c ih =>
    intro h0 hj
    have h1 := (Hops.refl (s := s)).step a
    rw [kAt_three b] at h1
    have hle := (c.hops.trans hj).ge
    exact .blank (by omega) (by rw [cut_kAt hB (by omega) (h1.trans (c.hops.trans hj))]; exact b) (ih (h0.trans h1) hj)
  | @tok i j ts a b c d ih =>
    intro h0 hj
    have h1 := tok_hops a c
    have hst := tokZ_stop a c
    have hle := (d.hops.trans hj).ge
    have hh := h1.trans (d.hops.trans hj)
    have ht := cut_tok hB (by omega) hh c hle
    have e : tokAt (s.extract 0 B) i = tokAt s i := by unfold tokAt; rw [ht, cut_place hB h0 (by omega)]
    rw [← e]
    exact .tok (by omega) (by rw [cut_kAt hB (by omega) hh]; exact b) (by rw [ht]; exact c) (by rw [ht]; exact ih (h0.trans h1) hj)
/-- At one of the tokens. -/
theorem Lexed.split {s : ByteArray} {i j : Nat} {ts : List Tok} (h : Lexed s i j ts) : ∀ n (hn : n < ts.length), ∃ k, Lexed s i k (ts.take n) ∧ k < s.size ∧ kAt s k ≠ 3 ∧ (tokZ s k).err = 0 ∧ ts[n] = tokAt s k ∧ Lexed s (tokZ s k).stop j (ts.drop (n + 1)) := by
  induction h with
  | refl => intro n hn; simp at hn
  | blank a b _ ih =>
    intro n hn
    obtain ⟨k, h1, h2⟩ := ih n hn
    exact ⟨k, .blank a b h1, h2⟩
  | @tok i j ts a b c d ih =>
    intro n hn
    cases n with
    | zero => exact ⟨i, .refl i, a, b, c, rfl, d⟩
    | succ n =>
      obtain ⟨k, h1, h2, h3, h4, h5, h6⟩ := ih n (by simpa using hn)
      exact ⟨k, .tok a b c h1, h2, h3, h4, by simpa using h5, h6⟩
/-- LexFront, plainly. -/
theorem front_law {s : ByteArray} {k : Nat} {ts : List Tok} (hs : s.size ≤ 4000) (h : Lexed s 0 k ts) (h1 : k < s.size) (h2 : kAt s k ≠ 3) (h3 : (tokZ s k).err = 0) : lexZ (s.extract 0 (tokZ s k).stop) = ⟨ts ++ [tokAt s k], 0, 0, 0⟩ := by
  have hst := tokZ_stop h1 h3
  have hsz := cut_size hst.2
  have ha : Lexed s 0 (tokZ s k).stop (ts ++ [tokAt s k]) := h.trans (.tok h1 h2 h3 (.refl _))
  have hb := ha.cut hst.2 .refl .refl
  conv at hb => arg 3; rw [← hsz]
  exact hb.fine (by omega)

/-! ### tokens with one blank between -/
def joinZ : List Tok → ByteArray
  | [] => ⟨#[]⟩
  | t :: r => t.text ++ ⟨#[32]⟩ ++ joinZ r
theorem joinZ_app (a : List Tok) (t : Tok) : joinZ (a ++ [t]) = joinZ a ++ t.text ++ ⟨#[32]⟩ := by
  induction a with
  | nil => simp only [List.nil_append, joinZ]; rw [show (⟨#[]⟩ : ByteArray) = ByteArray.empty from rfl, ByteArray.append_empty, ByteArray.empty_append]
  | cons x r ih => simp only [List.cons_append, joinZ]; rw [ih]; simp only [ByteArray.append_assoc]
/-- A token whose text is read as it alone. -/
structure Good (t : Tok) : Prop where
  some : 0 < t.text.size
  kind : kAt t.text 0 ≠ 3
  same : tokZ t.text 0 = ⟨t.kind, t.text, t.text.size, 0⟩
theorem tok_text {s : ByteArray} {i : Nat} (hi : i < s.size) (h : (tokZ s i).err = 0) : (tokZ s i).text = s.extract i (tokZ s i).stop := by
  unfold tokZ at h ⊢
  by_cases h1 : kAt s i = 1
  · rw [if_pos h1] at h ⊢
    split
    · rename_i h2; rw [if_pos h2] at h; simp at h
    · rfl
  · rw [if_neg h1] at h ⊢
    by_cases h2 : kAt s i = 2
    · rw [if_pos h2] at h ⊢
      split
      · rename_i h5; rw [if_pos h5] at h; simp at h
      · rename_i h5
        rw [if_neg h5] at h
        split
        · rfl
        · rename_i h6; rw [if_neg h6] at h; simp at h
    · rw [if_neg h2] at h ⊢
      by_cases h3 : kAt s i = 4
      · rw [if_pos h3]
      · rw [if_neg h3] at h; simp at h
theorem tok_good {s : ByteArray} {i : Nat} (hi : i < s.size) (h3 : kAt s i ≠ 3) (h : (tokZ s i).err = 0) : Good (tokAt s i) := by
  have hst := tokZ_stop hi h
  have htx := tok_text hi h
  have hc := cut_tok hst.2 hst.1 (tok_hops hi h) h (Nat.le_refl _)
  have hsz := cut_size hst.2
  have hk := cut_kAt hst.2 hst.1 (tok_hops hi h)
  have hx : (s.extract 0 (tokZ s i).stop).extract i (s.extract 0 (tokZ s i).stop).size = (tokZ s i).text := by rw [hsz, ext_cut (Nat.le_refl _), htx]
  have ht := tok_tail (s.extract 0 (tokZ s i).stop) i 0 (by omega)
  have hkt := kAt_tail (s.extract 0 (tokZ s i).stop) i 0 (by omega)
  rw [Nat.add_zero, hx] at ht hkt
  have hlen : (tokZ s i).text.size = (tokZ s i).stop - i := by rw [htx, ByteArray.size_extract]; omega
  refine ⟨by show 0 < (tokZ s i).text.size; omega, by show kAt (tokZ s i).text 0 ≠ 3; rw [← hkt, hk]; exact h3, ?_⟩
  show tokZ (tokZ s i).text 0 = ⟨(tokZ s i).kind, (tokZ s i).text, (tokZ s i).text.size, 0⟩
  rw [hc] at ht
  generalize tokZ (tokZ s i).text 0 = y at ht
  obtain ⟨y1, y2, y3, y4⟩ := y
  have g1 := congrArg TokR.kind ht
  have g2 := congrArg TokR.text ht
  have g3 := congrArg TokR.stop ht
  have g4 := congrArg TokR.err ht
  simp only [TokR.on] at g1 g2 g3 g4
  rw [g1, g2]
  have e3 : y3 = y2.size := by rw [← g2]; omega
  have e4 : y4 = 0 := by omega
  rw [e3, e4]
theorem Lexed.good {s : ByteArray} {i j : Nat} {ts : List Tok} (h : Lexed s i j ts) : ∀ t ∈ ts, Good t := by
  induction h with
  | refl => intro t ht; cases ht
  | blank a b _ ih => exact ih
  | tok a b c _ ih =>
    intro t ht
    rcases List.mem_cons.1 ht with rfl | ht
    · exact tok_good a b c
    · exact ih t ht
def Tok.like (t u : Tok) : Prop := t.kind = u.kind ∧ t.text = u.text
inductive Likes : List Tok → List Tok → Prop
  | nil : Likes [] []
  | cons {t u : Tok} {ts us : List Tok} : (t.kind = u.kind ∧ t.text = u.text) → Likes ts us → Likes (t :: ts) (u :: us)
theorem Likes.len {ts us : List Tok} (h : Likes ts us) : ts.length = us.length := by
  induction h with
  | nil => rfl
  | cons _ _ ih => simp [ih]
theorem Likes.get {ts us : List Tok} (h : Likes ts us) : ∀ i (h1 : i < ts.length) (h2 : i < us.length), (ts[i]).kind = (us[i]).kind ∧ (ts[i]).text = (us[i]).text := by
  induction h with
  | nil => intro i h1; simp at h1
  | cons a _ ih =>
    intro i h1 h2
    cases i with
    | zero => exact a
    | succ i => exact ih i (by simpa using h1) (by simpa using h2)
theorem join_lex : ∀ (ts : List Tok) (p : ByteArray), (∀ t ∈ ts, Good t) → ∃ us, Lexed (p ++ joinZ ts) p.size (p ++ joinZ ts).size us ∧ Likes ts us
  | [], p, _ => ⟨[], by
    have e : p ++ joinZ [] = p := ByteArray.append_empty
    rw [e]; exact .refl _, .nil⟩
  | t :: r, p, hg => by
    have g := hg t List.mem_cons_self
    obtain ⟨us, h1, h2⟩ := join_lex r (p ++ t.text ++ ⟨#[32]⟩) (fun x hx => hg x (List.mem_cons_of_mem _ hx))
    have e1 : p ++ t.text ++ ⟨#[32]⟩ ++ joinZ r = p ++ joinZ (t :: r) := by simp only [joinZ, ByteArray.append_assoc]
    rw [e1] at h1
    have e2 : (p ++ t.text ++ (⟨#[32]⟩ : ByteArray)).size = p.size + t.text.size + 1 := by rw [ByteArray.size_append, ByteArray.size_append]; rfl
    rw [e2] at h1
    have hbl : Bl (⟨#[32]⟩ ++ joinZ r) := .inr (.inr (by rw [get_left _ _ 0 (by decide)]; rfl))
    have ej : joinZ (t :: r) = t.text ++ (⟨#[32]⟩ ++ joinZ r) := by simp only [joinZ, ByteArray.append_assoc]
    have hsz : (p ++ joinZ (t :: r)).size = p.size + (t.text.size + (1 + (joinZ r).size)) := by rw [ByteArray.size_append, ej, ByteArray.size_append, ByteArray.size_append]; rfl
    have hgs := g.some
    have htl := tail_of p (joinZ (t :: r))
    have hk : ∀ i, i < t.text.size → kAt (p ++ joinZ (t :: r)) (p.size + i) = kAt t.text i := fun i hi => by rw [kAt_tail _ _ _ (by omega), htl, ej, bl_kAt hbl hi]
    have ht : tokZ (p ++ joinZ (t :: r)) (p.size + 0) = (tokZ t.text 0).on p.size := by rw [tok_tail _ _ _ (by omega), htl, ej, bl_tok hbl hgs]
    rw [g.same] at ht
    have hk0 := hk 0 hgs
    have hk3 : kAt (p ++ joinZ (t :: r)) (p.size + t.text.size) = 3 := by
      rw [kAt_tail _ _ _ (by omega), htl, ej]
      exact (bl_mid hbl (by rw [← ej, ej, ByteArray.size_append, ByteArray.size_append]; show _ < _ + (1 + _); omega)).1
    rw [Nat.add_zero] at ht hk0
    have hst : (tokZ (p ++ joinZ (t :: r)) p.size).stop = p.size + t.text.size := by rw [ht]; rfl
    refine ⟨tokAt (p ++ joinZ (t :: r)) p.size :: us, .tok (by omega) (by rw [hk0]; exact g.kind) (by rw [ht]; rfl) (by rw [hst]; exact .blank (by omega) hk3 h1), .cons ⟨?_, ?_⟩ h2⟩
    · show t.kind = (tokZ (p ++ joinZ (t :: r)) p.size).kind; rw [ht]; rfl
    · show t.text = (tokZ (p ++ joinZ (t :: r)) p.size).text; rw [ht]; rfl
theorem join_size {s : ByteArray} {i j : Nat} {ts : List Tok} (h : Lexed s i j ts) : (joinZ ts).size + 2 * i ≤ 2 * j := by
  induction h with
  | refl => simp [joinZ]; show 0 + _ ≤ _; omega
  | blank a b _ ih => omega
  | tok a b c _ ih =>
    have hst := tokZ_stop a c
    have htx := tok_text a c
    have hl : (tokZ _ _).text.size = _ := congrArg ByteArray.size htx
    rw [ByteArray.size_extract] at hl
    simp only [joinZ, tokAt, ByteArray.size_append]
    show _ + 1 + _ + _ ≤ _
    omega
/-- LexAgain, plainly. -/
theorem again_law {s : ByteArray} {ts : List Tok} (hs : s.size ≤ 2000) (h : Lexed s 0 s.size ts) : ∃ us, lexZ (joinZ ts) = ⟨us, 0, 0, 0⟩ ∧ Likes ts us := by
  obtain ⟨us, h1, h2⟩ := join_lex ts ⟨#[]⟩ h.good
  have e : (⟨#[]⟩ : ByteArray) ++ joinZ ts = joinZ ts := ByteArray.empty_append
  rw [e] at h1
  have := join_size h
  exact ⟨us, Lexed.fine (by omega) h1, h2⟩

/-! ### many tokens -/
structure Plus (u : ByteArray) (n : Nat) : Prop where
  le : n ≤ u.size
  few : u.size ≤ 60000
  get : ∀ i, i < n → (u.get! i).toNat = 43
theorem Plus.kAt {u : ByteArray} {n i : Nat} (h : Plus u n) (hi : i < n) : kAt u i = 4 := by
  rw [kAt_ascii (by rw [h.get i hi]; omega), h.get i hi]; decide
theorem Plus.dec {u : ByteArray} {n i : Nat} (h : Plus u n) (hi : i < n) : Utf8.decode u i = (43, 1) := by
  rw [Go.Tw.decode_ascii (by rw [h.get i hi]; omega), h.get i hi]
theorem Plus.tok {u : ByteArray} {n i : Nat} (h : Plus u n) (hi : i < n) : (tokZ u i).err = 0 ∧ (tokZ u i).stop = i + 1 := by
  unfold tokZ
  rw [h.kAt hi, h.dec hi]
  exact ⟨rfl, rfl⟩
theorem Plus.place {u : ByteArray} {n : Nat} (h : Plus u n) : ∀ i, i ≤ n → Hops u 0 i ∧ placeZ u i = (1, (i : Int) + 1)
  | 0, _ => ⟨.refl, placeZ_first u⟩
  | i + 1, hi => by
    have ih := h.place i (by omega)
    have hl := h.le
    have h1 := ih.1.step (show i < u.size by omega)
    have h2 := place_step ih.1 (show i < u.size by omega)
    rw [h.dec (by omega)] at h1 h2
    refine ⟨h1, ?_⟩
    rw [h2, if_neg (by decide), ih.2]
    exact Prod.ext rfl (by show (i : Int) + 1 + 1 = ((i + 1 : Nat) : Int) + 1; omega)
theorem Plus.lexed {u : ByteArray} {n : Nat} (h : Plus u n) : ∀ i, i ≤ n → ∃ ts, Lexed u 0 i ts ∧ ts.length = i
  | 0, _ => ⟨[], .refl 0, rfl⟩
  | i + 1, hi => by
    obtain ⟨ts, h1, h2⟩ := h.lexed i (by omega)
    have hl := h.le
    have ht := h.tok (i := i) (by omega)
    refine ⟨ts ++ [tokAt u i], h1.trans (.tok (by omega) (by rw [h.kAt (by omega)]; decide) ht.1 (by rw [ht.2]; exact .refl _)), by simp [h2]⟩
theorem long_most {u : ByteArray} {n : Nat} (h : Plus u n) (hn : 4000 < n) : lexZ u = ⟨[], 1, 4001, 4⟩ := by
  obtain ⟨ts, h1, h2⟩ := h.lexed 4000 (by omega)
  have hl := h.le
  rw [lexZ_at h.few, h1.lex [] (by simp [h2]), lexAt_open (by omega), h.kAt hn, if_neg (by decide), if_pos (by simp [h2]), (h.place 4000 (by omega)).2]
  rfl
theorem long_fine {u : ByteArray} {n : Nat} (h : Plus u n) (hn : n ≤ 4000) (hs : u.size = n) : ∃ ts, lexZ u = ⟨ts, 0, 0, 0⟩ ∧ ts.length = n := by
  obtain ⟨ts, h1, h2⟩ := h.lexed n (Nat.le_refl _)
  refine ⟨ts, ?_, h2⟩
  rw [lexZ_at h.few, h1.lex [] (by simp [h2]; omega), lexAt_end (by omega)]
  rfl
theorem long_odd {u : ByteArray} {n : Nat} (h : Plus u n) (hn : n ≤ 4000) (hs : u.size = n + 2) (h32 : (u.get! n).toNat = 32) (h35 : (u.get! (n + 1)).toNat = 35) : lexZ u = ⟨[], 1, (n : Int) + 2, if n = 4000 then 4 else 5⟩ := by
  obtain ⟨ts, h1, h2⟩ := h.lexed n (Nat.le_refl _)
  have k3 : kAt u n = 3 := by rw [kAt_ascii (by rw [h32]; omega), h32]; decide
  have k0 : kAt u (n + 1) = 0 := by rw [kAt_ascii (by rw [h35]; omega), h35]; decide
  have hp := h.place n (Nat.le_refl _)
  have h3 := place_step hp.1 (show n < u.size by omega)
  rw [Go.Tw.decode_ascii (s := u) (i := n) (by omega), h32, if_neg (by decide), hp.2] at h3
  have e3 : placeZ u ((n + 1 : Nat) : Int) = (1, (n : Int) + 2) := by
    rw [h3]; exact Prod.ext rfl (by show (n : Int) + 1 + 1 = _; omega)
  have ht : (tokZ u (n + 1)).err = 5 := by unfold tokZ; rw [k0]; rfl
  rw [lexZ_at h.few, h1.lex [] (by simp [h2]; omega), lexAt_open (by omega), k3, if_pos rfl, lexAt_open (by omega), k0, if_neg (by decide), e3, ht]
  by_cases h4 : n = 4000
  · rw [if_pos (by simp [h2]; omega), if_pos h4]
  · rw [if_neg (by simp [h2]; omega), if_pos (by decide), if_neg h4]
end Go.Proofs.YtmflkokhhknlaaaDoor
