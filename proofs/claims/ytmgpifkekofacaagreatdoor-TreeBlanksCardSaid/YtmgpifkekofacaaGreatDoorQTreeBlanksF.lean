/-
  TreeBlanks, part 6: the texts Show5, LawBlanks, Open, OpenB, Open11, Open11B as one.
-/
import Derived.Test.YtmgpifkekofacaaGreatDoorQTreeBlanksE
import Derived.Deep.Slices
set_option linter.unusedVariables false
set_option linter.unusedSimpArgs false
set_option linter.unnecessarySimpa false
set_option maxHeartbeats 1000000
namespace Go.Proofs.YtmgpifkekofacaaGreatDoor
open Go Go.Tw
def Cl (b : UInt8) : Prop := b ≠ 32 ∧ b ≠ 59 ∧ b ≠ 61
def ClS (s : ByteArray) : Prop := ∀ b ∈ s.data.toList, Cl b
theorem cl_nat {b : UInt8} (h : b.toNat ≠ 32 ∧ b.toNat ≠ 59 ∧ b.toNat ≠ 61) : Cl b := ⟨fun e => h.1 (by rw [e]; rfl), fun e => h.2.1 (by rw [e]; rfl), fun e => h.2.2 (by rw [e]; rfl)⟩
theorem cls_get {s : ByteArray} (h : ∀ j, j < s.size → (s.get! j).toNat ≠ 32 ∧ (s.get! j).toNat ≠ 59 ∧ (s.get! j).toNat ≠ 61) : ClS s := fun b hb => by
  obtain ⟨j, hj⟩ := List.mem_iff_getElem?.1 hb
  have hl := (List.getElem?_eq_some_iff.1 hj).1
  have hlt : j < s.size := by simpa using hl
  have h1 := get_toList hlt
  rw [toList_data, hj] at h1
  rw [Option.some.inj h1]
  exact cl_nat (h j hlt)
theorem cls_app {s t : ByteArray} (h1 : ClS s) (h2 : ClS t) : ClS (s ++ t) := fun b hb => by
  rw [ByteArray.data_append, Array.toList_append] at hb
  rcases List.mem_append.1 hb with hb | hb
  · exact h1 b hb
  · exact h2 b hb
theorem cls_dec (n : Nat) : ClS (decS n) := cls_get fun j hj => by have := decS_dg n j hj; omega
theorem cls_rat (q : Rat) : ClS (ratS q) := by
  unfold ratS
  split
  · exact cls_dec _
  · exact cls_app (cls_app (cls_dec _) (fun b hb => by
      have hb : b ∈ [(124 : UInt8)] := hb
      rw [List.mem_singleton.1 hb]; exact ⟨by decide, by decide, by decide⟩)) (cls_dec _)
theorem cont_byte {s : ByteArray} {i j : Nat} (h1 : i < j) (h2 : j < i + (Utf8.decode s i).2) : 128 ≤ (s.get! j).toNat := by
  rw [Lib.decode_at] at h2
  unfold Lib.decodeN at h2
  have hj : j = i + 1 ∨ j = i + 2 ∨ j = i + 3 ∨ i + 4 ≤ j := by omega
  repeat' split at h2
  all_goals (dsimp only at h2; rcases hj with rfl | rfl | rfl | hj <;> omega)
theorem name_bytes (s : ByteArray) : ∀ (f i : Nat), s.size ≤ i + f → i ≤ s.size → nameGo s (s.size - i) i = true → ∀ j, i ≤ j → j < s.size → (s.get! j).toNat ≠ 32 ∧ (s.get! j).toNat ≠ 59 ∧ (s.get! j).toNat ≠ 61 := by
  intro f
  induction f with
  | zero => intro i h1 h2 _ j h3 h4; omega
  | succ f ih =>
    intro i h1 h2 hn j h3 h4
    have hi : i < s.size := by omega
    have hw := width_in s i hi
    have hp := width_pos s i
    have hno : ¬ ((kindZ (Utf8.decode s i).1 ≠ 1 ∧ kindZ (Utf8.decode s i).1 ≠ 2) ∨ (kindZ (Utf8.decode s i).1 = 2 ∧ i = 0)) := fun h => by
      rw [nameGo_no hi h] at hn; cases hn
    rw [nameGo_step hi hno] at hn
    by_cases hj : i + (Utf8.decode s i).2 ≤ j
    · exact ih _ (by omega) hw hn j hj h4
    · by_cases hji : j = i
      · subst hji
        by_cases ha : (s.get! j).toNat < 128
        · rw [Go.Tw.decode_ascii ha] at hno
          refine ⟨fun e => ?_, fun e => ?_, fun e => ?_⟩
          · rw [e] at hno; exact hno (.inl ⟨by decide, by decide⟩)
          · rw [e] at hno; exact hno (.inl ⟨by decide, by decide⟩)
          · rw [e] at hno; exact hno (.inl ⟨by decide, by decide⟩)
        · omega
      · have := cont_byte (s := s) (i := i) (j := j) (by omega) (by omega)
        omega
theorem cls_name {s : ByteArray} (h : nameZ s = true) : ClS s := by
  obtain ⟨h1, h2, _, h4⟩ := name_parts h
  exact cls_get fun j hj => name_bytes s s.size 0 (by omega) (Nat.zero_le _) h4 j (Nat.zero_le _) hj
theorem cls_of {s : ByteArray} (h : (s.data.toList.all fun b => b != 32 && b != 59 && b != 61) = true) : ClS s := fun b hb => by
  have := List.all_eq_true.1 h b hb
  simp only [Bool.and_eq_true, bne_iff_ne] at this
  exact ⟨this.1.1, this.1.2, this.2⟩
theorem cls_sign (k : Int) : ClS (signS k) := by
  unfold signS
  split
  · exact cls_of (by decide)
  · split
    · exact cls_of (by decide)
    · split <;> exact cls_of (by decide)
theorem powK_cls (e : Int) : ∀ t ∈ powK e, ClS t.text := by
  intro t ht
  rcases List.mem_append.1 ht with ht | ht
  · split at ht
    · rw [List.mem_singleton.1 ht]; exact cls_of (by decide)
    · cases ht
  · rcases List.mem_cons.1 ht with rfl | ht
    · exact cls_dec _
    · rw [List.mem_singleton.1 ht]; exact cls_of (by decide)
theorem exK_cls : ∀ (x : Ex), x.ok → ∀ t ∈ exK x, ClS t.text := by
  intro x
  induction x with
  | ref t => intro h u hu; rw [List.mem_singleton.1 hu]; exact cls_name h
  | num q => intro h u hu; rw [List.mem_singleton.1 hu]; exact cls_rat q
  | neg x ih =>
    intro h u hu
    simp only [exK, List.mem_cons, List.mem_append, List.not_mem_nil, or_false] at hu
    rcases hu with rfl | rfl | hu | rfl
    · exact cls_of (by decide)
    · exact cls_of (by decide)
    · exact ih h u hu
    · exact cls_of (by decide)
  | pow x e ih =>
    intro h u hu
    simp only [exK, List.mem_cons, List.mem_append] at hu
    rcases hu with rfl | hu | rfl | hu
    · exact cls_of (by decide)
    · exact ih h.1 u hu
    · exact cls_of (by decide)
    · exact powK_cls e u hu
  | bin k x y ih1 ih2 =>
    intro h u hu
    simp only [exK, List.mem_cons, List.mem_append, List.not_mem_nil, or_false] at hu
    rcases hu with rfl | hu | rfl | hu | rfl
    · exact cls_of (by decide)
    · exact ih1 h.2.2.1 u hu
    · exact cls_sign k
    · exact ih2 h.2.2.2 u hu
    · exact cls_of (by decide)
def NoS (s : ByteArray) : Prop := ∀ b ∈ s.data.toList, b ≠ 32 ∧ b ≠ 61
theorem ClS.no {s : ByteArray} (h : ClS s) : NoS s := fun b hb => ⟨(h b hb).1, (h b hb).2.2⟩
theorem nos_of {s : ByteArray} (h : (s.data.toList.all fun b => b != 32 && b != 61) = true) : NoS s := fun b hb => by
  have := List.all_eq_true.1 h b hb
  simp only [Bool.and_eq_true, bne_iff_ne] at this
  exact this
theorem restK_no : ∀ (l : List ByteArray), NamesOk l → ∀ t ∈ restK l, NoS t.text
  | [], _, t, ht => by rw [List.mem_singleton.1 ht]; exact nos_of (by decide)
  | s :: l, h, t, ht => by
    rcases List.mem_cons.1 ht with rfl | ht
    · exact nos_of (by decide)
    · rcases List.mem_cons.1 ht with rfl | ht
      · exact (cls_name (h s List.mem_cons_self)).no
      · exact restK_no l (fun b hb => h b (List.mem_cons_of_mem _ hb)) t ht
theorem namesK_no {key : ByteArray} (hk : NoS key) (l : List ByteArray) (h : NamesOk l) : ∀ t ∈ namesK key l, NoS t.text := by
  intro t ht
  cases l with
  | nil =>
    rcases List.mem_cons.1 ht with rfl | ht
    · exact hk
    · rw [List.mem_singleton.1 ht]; exact nos_of (by decide)
  | cons s l =>
    rcases List.mem_cons.1 ht with rfl | ht
    · exact hk
    · rcases List.mem_cons.1 ht with rfl | ht
      · exact (cls_name (h s List.mem_cons_self)).no
      · exact restK_no l (fun b hb => h b (List.mem_cons_of_mem _ hb)) t ht
def tx1 (l : List UInt8) : List UInt8 := l.flatMap fun b => b :: ((if b = 32 then [10, 9] else []) ++ (if b = 61 then [40, 40] else []))
def tx2 : UInt8 → Bool → List UInt8 → List UInt8
  | _, _, [] => []
  | p, o, b :: r => if (b == 59 && (o || (b == 40 && p == 61))) = true then 41 :: 41 :: b :: tx2 b false r else b :: tx2 b (o || (b == 40 && p == 61)) r
theorem tx1_app (a b : List UInt8) : tx1 (a ++ b) = tx1 a ++ tx1 b := List.flatMap_append
theorem tx1_no {l : List UInt8} (h : ∀ b ∈ l, b ≠ 32 ∧ b ≠ 61) : tx1 l = l := by
  induction l with
  | nil => rfl
  | cons b l ih =>
    obtain ⟨h1, h2⟩ := h b List.mem_cons_self
    show b :: ((if b = 32 then [10, 9] else []) ++ (if b = 61 then [40, 40] else [])) ++ tx1 l = _
    rw [if_neg h1, if_neg h2, ih fun x hx => h x (List.mem_cons_of_mem _ hx)]
    rfl
theorem tx2_from {p q : UInt8} (hp : p ≠ 61) (hq : q ≠ 61) (o : Bool) (l : List UInt8) : tx2 p o l = tx2 q o l := by
  cases l with
  | nil => rfl
  | cons b l =>
    have e1 : (p == 61) = false := by simpa using hp
    have e2 : (q == 61) = false := by simpa using hq
    unfold tx2
    rw [e1, e2]
theorem tx2_step {p : UInt8} (hp : p ≠ 61) {o : Bool} {b : UInt8} (hb : b ≠ 61) (h : b ≠ 59 ∨ o = false) (l : List UInt8) : tx2 p o (b :: l) = b :: tx2 0 o l := by
  have e1 : (p == 61) = false := by simpa using hp
  rw [tx2, e1, Bool.and_false, Bool.or_false, if_neg (by
    rcases h with h | h
    · simp [h]
    · simp [h])]
  rw [tx2_from (q := 0) hb (by decide) o l]
theorem tx2_seg {o : Bool} {l : List UInt8} (h : ∀ b ∈ l, b ≠ 61 ∧ (b ≠ 59 ∨ o = false)) (r : List UInt8) : tx2 0 o (l ++ r) = l ++ tx2 0 o r := by
  induction l with
  | nil => rfl
  | cons b l ih =>
    obtain ⟨h1, h2⟩ := h b List.mem_cons_self
    rw [List.cons_append, tx2_step (p := 0) (by decide) h1 h2, ih fun x hx => h x (List.mem_cons_of_mem _ hx)]
    rfl
def gapL (l : List (Tok × Bool)) : List UInt8 := l.flatMap fun a => a.1.text.data.toList ++ (if a.2 then [32, 10, 9] else [])
def gapT (l : List Tok) : List (Tok × Bool) := l.map fun t => (t, true)
theorem gapL_app (a b : List (Tok × Bool)) : gapL (a ++ b) = gapL a ++ gapL b := List.flatMap_append
theorem join_list : ∀ (t : Tok) (r : List Tok), (joinZ (t :: r)).data.toList = t.text.data.toList ++ (32 :: (joinZ r).data.toList) := by
  intro t r
  simp [joinZ]
theorem seg_toks {o : Bool} : ∀ (ts : List Tok), (∀ t ∈ ts, NoS t.text ∧ (o = false ∨ ClS t.text)) → ∀ r, tx2 0 o (tx1 (joinZ ts).data.toList ++ r) = gapL (gapT ts) ++ tx2 0 o r
  | [], _, r => rfl
  | t :: ts, h, r => by
    obtain ⟨h1, h2⟩ := h t List.mem_cons_self
    have ih := seg_toks ts (fun x hx => h x (List.mem_cons_of_mem _ hx)) r
    rw [join_list, tx1_app, tx1_no h1]
    show tx2 0 o (t.text.data.toList ++ (32 :: ([10, 9] ++ []) ++ tx1 (joinZ ts).data.toList) ++ r) = t.text.data.toList ++ [32, 10, 9] ++ gapL (gapT ts) ++ tx2 0 o r
    have e : t.text.data.toList ++ (32 :: ([10, 9] ++ []) ++ tx1 (joinZ ts).data.toList) ++ r = (t.text.data.toList ++ [32, 10, 9]) ++ (tx1 (joinZ ts).data.toList ++ r) := by simp
    rw [e, tx2_seg, ih]
    · simp
    · intro b hb
      rcases List.mem_append.1 hb with hb | hb
      · refine ⟨(h1 b hb).2, ?_⟩
        rcases h2 with h2 | h2
        · exact .inr h2
        · exact .inl (h2 b hb).2.1
      · simp only [List.mem_cons, List.not_mem_nil, or_false] at hb
        rcases hb with rfl | rfl | rfl
        · exact ⟨by decide, .inl (by decide)⟩
        · exact ⟨by decide, .inl (by decide)⟩
        · exact ⟨by decide, .inl (by decide)⟩
def letG (a : ByteArray × Ex) : List (Tok × Bool) := gapT [tk 0 letS, tk 0 a.1] ++ ((tk 2 equalS, false) :: (tk 2 lpar, false) :: (tk 2 lpar, true) :: (gapT (exK a.2) ++ [(tk 2 rpar, false), (tk 2 rpar, false), (tk 2 semiS, true)]))
def letsG : List (ByteArray × Ex) → List (Tok × Bool)
  | [] => []
  | a :: l => letG a ++ letsG l
def progG (ins outs : List ByteArray) (l : List (ByteArray × Ex)) : List (Tok × Bool) := gapT (namesK inS ins) ++ (letsG l ++ gapT (namesK outS outs))
theorem join_more_list (a b : List Tok) : (joinZ (a ++ b)).data.toList = (joinZ a).data.toList ++ (joinZ b).data.toList := by
  induction a with
  | nil => simp [joinZ]
  | cons t a ih => rw [List.cons_append, join_list, join_list, ih]; simp
theorem seg_let {a : ByteArray × Ex} (h1 : nameZ a.1 = true) (h2 : a.2.ok) (r : List UInt8) : tx2 0 false (tx1 (joinZ (letK a)).data.toList ++ r) = gapL (letG a) ++ tx2 0 false r := by
  have e0 : letK a = [tk 0 letS, tk 0 a.1] ++ (tk 2 equalS :: (exK a.2 ++ [tk 2 semiS])) := rfl
  have e1 : tx1 (joinZ (letK a)).data.toList ++ r = tx1 (joinZ [tk 0 letS, tk 0 a.1]).data.toList ++ (61 :: 40 :: 40 :: 32 :: 10 :: 9 :: (tx1 (joinZ (exK a.2)).data.toList ++ (59 :: 32 :: 10 :: 9 :: r))) := by
    rw [e0, join_more_list, tx1_app, join_list (tk 2 equalS), join_more_list (exK a.2), List.append_assoc]
    congr 1
    show (61 :: 40 :: 40 :: 32 :: 10 :: 9 :: tx1 ((joinZ (exK a.2)).data.toList ++ [59, 32])) ++ r = _
    rw [tx1_app]
    show (61 :: 40 :: 40 :: 32 :: 10 :: 9 :: (tx1 (joinZ (exK a.2)).data.toList ++ [59, 32, 10, 9])) ++ r = _
    simp
  have e2 : ∀ r', tx2 0 false (61 :: 40 :: 40 :: 32 :: 10 :: 9 :: r') = 61 :: 40 :: 40 :: 32 :: 10 :: 9 :: tx2 0 true r' := fun r' => by
    show 61 :: 40 :: 40 :: 32 :: 10 :: 9 :: tx2 9 true r' = _
    rw [tx2_from (p := 9) (q := 0) (by decide) (by decide)]
  have e3 : tx2 0 true (59 :: 32 :: 10 :: 9 :: r) = 41 :: 41 :: 59 :: 32 :: 10 :: 9 :: tx2 0 false r := by
    show 41 :: 41 :: 59 :: 32 :: 10 :: 9 :: tx2 9 false r = _
    rw [tx2_from (p := 9) (q := 0) (by decide) (by decide)]
  rw [e1, seg_toks, e2, seg_toks, e3]
  · unfold letG
    rw [gapL_app]
    show gapL (gapT [tk 0 letS, tk 0 a.1]) ++ (61 :: 40 :: 40 :: 32 :: 10 :: 9 :: (gapL (gapT (exK a.2)) ++ _)) = gapL (gapT [tk 0 letS, tk 0 a.1]) ++ ([61] ++ ([40] ++ ([40, 32, 10, 9] ++ gapL (gapT (exK a.2) ++ [(tk 2 rpar, false), (tk 2 rpar, false), (tk 2 semiS, true)])))) ++ _
    rw [gapL_app, show gapL [(tk 2 rpar, false), (tk 2 rpar, false), (tk 2 semiS, true)] = [41, 41, 59, 32, 10, 9] from rfl]
    simp
  · exact fun t ht => ⟨(exK_cls a.2 h2 t ht).no, .inr (exK_cls a.2 h2 t ht)⟩
  · intro t ht
    rcases List.mem_cons.1 ht with rfl | ht
    · exact ⟨nos_of (by decide), .inl rfl⟩
    · rw [List.mem_singleton.1 ht]; exact ⟨(cls_name h1).no, .inl rfl⟩
theorem seg_lets : ∀ (l : List (ByteArray × Ex)), LetsOk l → ∀ r, tx2 0 false (tx1 (joinZ (letsK l)).data.toList ++ r) = gapL (letsG l) ++ tx2 0 false r
  | [], _, r => rfl
  | a :: l, h, r => by
    obtain ⟨h1, h2⟩ := h a List.mem_cons_self
    have ih := seg_lets l (fun b hb => h b (List.mem_cons_of_mem _ hb)) r
    rw [letsK, letsG, join_more_list, tx1_app, gapL_app, List.append_assoc, seg_let h1 h2, ih, List.append_assoc]
theorem blank_text {ins outs : List ByteArray} {l : List (ByteArray × Ex)} (h1 : NamesOk ins) (h2 : LetsOk l) (h3 : NamesOk outs) : tx2 0 false (tx1 (joinZ (progK ins outs l)).data.toList) = gapL (progG ins outs l) := by
  unfold progK progG
  have e := seg_toks (o := false) (namesK outS outs) (fun t ht => ⟨namesK_no (key := outS) (nos_of (by decide)) outs h3 t ht, .inl rfl⟩) []
  rw [List.append_nil] at e
  rw [join_more_list, join_more_list, tx1_app, tx1_app, seg_toks _ (fun t ht => ⟨namesK_no (key := inS) (nos_of (by decide)) ins h1 t ht, .inl rfl⟩), seg_lets l h2, e, gapL_app, gapL_app]
  show _ ++ (_ ++ (_ ++ [])) = _
  rw [List.append_nil]
def bk (l : List UInt8) : ByteArray := ⟨l.toArray⟩
theorem bk_app (a b : List UInt8) : bk (a ++ b) = bk a ++ bk b := by
  apply ByteArray.ext
  simp [bk]
theorem bk_data (s : ByteArray) : bk s.data.toList = s := by apply ByteArray.ext; simp [bk]
theorem bk_size (l : List UInt8) : (bk l).size = l.length := by show l.toArray.size = _; simp
structure Sg (t : Tok) : Prop where
  kind : t.kind = 2
  text : ∃ b : UInt8, t.text = ⟨#[b]⟩ ∧ b.toNat < 128 ∧ kindZ b.toNat = 4
theorem sg_tok {t : Tok} (h : Sg t) (p x : ByteArray) : kAt (p ++ (t.text ++ x)) p.size = 4 ∧ tokZ (p ++ (t.text ++ x)) p.size = ⟨2, t.text, p.size + 1, 0⟩ := by
  obtain ⟨hk, b, e, hb, h4⟩ := h
  have h0 : (t.text ++ x).get! 0 = b := by rw [e, get_left (⟨#[b]⟩ : ByteArray) x 0 Nat.zero_lt_one]; rfl
  have h1 : (p ++ (t.text ++ x)).get! p.size = b := by rw [get_mid, h0]
  have hka : kAt (p ++ (t.text ++ x)) p.size = 4 := by rw [kAt_ascii (by rw [h1]; exact hb), h1]; exact h4
  have hsz : (p ++ (t.text ++ x)).size = p.size + (1 + x.size) := by rw [ByteArray.size_append, ByteArray.size_append, e]; rfl
  refine ⟨hka, ?_⟩
  have ht := tok_tail (p ++ (t.text ++ x)) p.size 0 (by omega)
  rw [tail_of, Nat.add_zero] at ht
  rw [ht]
  have hk0 : kAt (t.text ++ x) 0 = 4 := by rw [kAt_ascii (by rw [h0]; exact hb), h0]; exact h4
  unfold tokZ
  rw [hk0, if_neg (by decide), if_neg (by decide), if_pos rfl, Go.Tw.decode_ascii (by rw [h0]; exact hb)]
  show (⟨2, (t.text ++ x).extract 0 1, p.size + 1, 0⟩ : TokR) = _
  rw [ext_left (show 1 ≤ t.text.size by rw [e]; exact Nat.le_refl _), e]
  rfl
theorem blank3 (p x : ByteArray) (b : UInt8) (h : b = 32 ∨ b = 10 ∨ b = 9) : p.size < (p ++ (⟨#[b]⟩ ++ x)).size ∧ kAt (p ++ (⟨#[b]⟩ ++ x)) p.size = 3 := by
  have h0 : ((⟨#[b]⟩ : ByteArray) ++ x).get! 0 = b := by rw [get_left (⟨#[b]⟩ : ByteArray) x 0 Nat.zero_lt_one]; rfl
  have h1 : (p ++ (⟨#[b]⟩ ++ x)).get! p.size = b := by rw [get_mid, h0]
  refine ⟨by rw [ByteArray.size_append, ByteArray.size_append]; show _ < _ + (1 + _); omega, ?_⟩
  rcases h with rfl | rfl | rfl
  · rw [kAt_ascii (by rw [h1]; decide), h1]; decide
  · rw [kAt_ascii (by rw [h1]; decide), h1]; decide
  · rw [kAt_ascii (by rw [h1]; decide), h1]; decide
theorem blanks_lexed (p x : ByteArray) {j : Nat} {us : List Tok} (h : Lexed (p ++ (⟨#[32, 10, 9]⟩ ++ x)) (p.size + 3) j us) : Lexed (p ++ (⟨#[32, 10, 9]⟩ ++ x)) p.size j us := by
  have e1 : p ++ ((⟨#[32, 10, 9]⟩ : ByteArray) ++ x) = p ++ (⟨#[32]⟩ ++ (⟨#[10, 9]⟩ ++ x)) := by
    rw [show (⟨#[32, 10, 9]⟩ : ByteArray) = ⟨#[32]⟩ ++ ⟨#[10, 9]⟩ from rfl, ByteArray.append_assoc]
  have e2 : p ++ ((⟨#[32, 10, 9]⟩ : ByteArray) ++ x) = (p ++ ⟨#[32]⟩) ++ (⟨#[10]⟩ ++ (⟨#[9]⟩ ++ x)) := by
    rw [show (⟨#[32, 10, 9]⟩ : ByteArray) = ⟨#[32]⟩ ++ (⟨#[10]⟩ ++ ⟨#[9]⟩) from rfl]; simp only [ByteArray.append_assoc]
  have e3 : p ++ ((⟨#[32, 10, 9]⟩ : ByteArray) ++ x) = (p ++ ⟨#[32]⟩ ++ ⟨#[10]⟩) ++ (⟨#[9]⟩ ++ x) := by
    rw [show (⟨#[32, 10, 9]⟩ : ByteArray) = ⟨#[32]⟩ ++ (⟨#[10]⟩ ++ ⟨#[9]⟩) from rfl]; simp only [ByteArray.append_assoc]
  have b1 := blank3 p (⟨#[10, 9]⟩ ++ x) 32 (.inl rfl)
  have b2 := blank3 (p ++ ⟨#[32]⟩) (⟨#[9]⟩ ++ x) 10 (.inr (.inl rfl))
  have b3 := blank3 (p ++ ⟨#[32]⟩ ++ ⟨#[10]⟩) x 9 (.inr (.inr rfl))
  rw [← e1] at b1
  rw [← e2] at b2
  rw [← e3] at b3
  have s2 : (p ++ (⟨#[32]⟩ : ByteArray)).size = p.size + 1 := ByteArray.size_append
  have s3 : (p ++ (⟨#[32]⟩ : ByteArray) ++ ⟨#[10]⟩).size = p.size + 1 + 1 := by rw [ByteArray.size_append, s2]; rfl
  rw [s2] at b2
  rw [s3] at b3
  exact .blank b1.1 b1.2 (.blank b2.1 b2.2 (.blank b3.1 b3.2 h))
theorem gap_list (t : Tok) (g : Bool) (r : List (Tok × Bool)) : bk (gapL ((t, g) :: r)) = t.text ++ ((if g then ⟨#[32, 10, 9]⟩ else ⟨#[]⟩) ++ bk (gapL r)) := by
  show bk ((t.text.data.toList ++ (if g then [32, 10, 9] else [])) ++ gapL r) = _
  rw [bk_app, bk_app, bk_data, ByteArray.append_assoc]
  cases g <;> rfl
theorem gap_lex : ∀ (ts : List (Tok × Bool)) (p : ByteArray), (∀ a ∈ ts, (a.2 = true ∧ Good a.1) ∨ Sg a.1) → ∃ us, Lexed (p ++ bk (gapL ts)) p.size (p ++ bk (gapL ts)).size us ∧ Likes (ts.map Prod.fst) us
  | [], p, _ => ⟨[], by
    have e : p ++ bk (gapL []) = p := ByteArray.append_empty
    rw [e]; exact .refl _, .nil⟩
  | (t, g) :: r, p, hg => by
    have g0 := hg (t, g) List.mem_cons_self
    obtain ⟨us, h1, h2⟩ := gap_lex r (p ++ t.text ++ (if g then ⟨#[32, 10, 9]⟩ else ⟨#[]⟩)) (fun x hx => hg x (List.mem_cons_of_mem _ hx))
    rw [gap_list]
    generalize bk (gapL r) = x at h1 ⊢
    have e1 : p ++ t.text ++ (if g then (⟨#[32, 10, 9]⟩ : ByteArray) else ⟨#[]⟩) ++ x = p ++ (t.text ++ ((if g then (⟨#[32, 10, 9]⟩ : ByteArray) else ⟨#[]⟩) ++ x)) := by simp only [ByteArray.append_assoc]
    rw [e1] at h1
    have hlx : Lexed (p ++ (t.text ++ ((if g then (⟨#[32, 10, 9]⟩ : ByteArray) else ⟨#[]⟩) ++ x))) (p.size + t.text.size) (p ++ (t.text ++ ((if g then (⟨#[32, 10, 9]⟩ : ByteArray) else ⟨#[]⟩) ++ x))).size us := by
      cases g with
      | false =>
        have e2 : (p ++ t.text ++ (if false = true then (⟨#[32, 10, 9]⟩ : ByteArray) else ⟨#[]⟩)).size = p.size + t.text.size := by
          rw [ByteArray.size_append, ByteArray.size_append]; rfl
        rw [e2] at h1
        exact h1
      | true =>
        have e2 : (p ++ t.text ++ (if true = true then (⟨#[32, 10, 9]⟩ : ByteArray) else ⟨#[]⟩)).size = (p ++ t.text).size + 3 := ByteArray.size_append
        rw [e2] at h1
        have e3 : p ++ (t.text ++ ((if true = true then (⟨#[32, 10, 9]⟩ : ByteArray) else ⟨#[]⟩) ++ x)) = (p ++ t.text) ++ (⟨#[32, 10, 9]⟩ ++ x) := by rw [if_pos rfl, ByteArray.append_assoc]
        rw [e3] at h1 ⊢
        have := blanks_lexed (p ++ t.text) x h1
        rw [ByteArray.size_append] at this
        exact this
    generalize hy : (if g then (⟨#[32, 10, 9]⟩ : ByteArray) else ⟨#[]⟩) ++ x = y at hlx
    have htk : p.size < (p ++ (t.text ++ y)).size ∧ kAt (p ++ (t.text ++ y)) p.size ≠ 3 ∧ tokZ (p ++ (t.text ++ y)) p.size = ⟨t.kind, t.text, p.size + t.text.size, 0⟩ := by
      rcases g0 with ⟨hgt, gd⟩ | gs
      · dsimp only at hgt
        subst hgt
        have hbl : Bl y := by
          rw [← hy]
          exact .inr (.inr (by rw [if_pos rfl, get_left (⟨#[32, 10, 9]⟩ : ByteArray) x 0 (by decide)]; rfl))
        have hgs : 0 < t.text.size := gd.some
        have hsz : (p ++ (t.text ++ y)).size = p.size + (t.text.size + y.size) := by rw [ByteArray.size_append, ByteArray.size_append]
        have htl := tail_of p (t.text ++ y)
        have hk := kAt_tail (p ++ (t.text ++ y)) p.size 0 (by omega)
        have ht := tok_tail (p ++ (t.text ++ y)) p.size 0 (by omega)
        rw [htl, Nat.add_zero] at hk ht
        rw [bl_kAt hbl hgs] at hk
        rw [bl_tok hbl hgs, gd.same] at ht
        exact ⟨by omega, by rw [hk]; exact gd.kind, ht⟩
      · have := sg_tok gs p y
        obtain ⟨hk, b, e, _⟩ := gs
        refine ⟨by rw [ByteArray.size_append, ByteArray.size_append]; dsimp only at e; rw [e]; show _ < _ + (1 + _); omega, by rw [this.1]; decide, ?_⟩
        rw [this.2]
        dsimp only at hk e
        rw [hk, e]
        rfl
    obtain ⟨k1, k2, k3⟩ := htk
    refine ⟨tokAt (p ++ (t.text ++ y)) p.size :: us, .tok k1 k2 (by rw [k3]) (by rw [k3]; exact hlx), .cons ⟨?_, ?_⟩ h2⟩
    · show t.kind = (tokZ (p ++ (t.text ++ y)) p.size).kind; rw [k3]
    · show t.text = (tokZ (p ++ (t.text ++ y)) p.size).text; rw [k3]
def letB (a : ByteArray × Ex) : List Tok := tk 0 letS :: tk 0 a.1 :: tk 2 equalS :: tk 2 lpar :: tk 2 lpar :: (exK a.2 ++ [tk 2 rpar, tk 2 rpar, tk 2 semiS])
def letsB : List (ByteArray × Ex) → List Tok
  | [] => []
  | a :: l => letB a ++ letsB l
def progB (ins outs : List ByteArray) (l : List (ByteArray × Ex)) : List Tok := namesK inS ins ++ (letsB l ++ namesK outS outs)
theorem gapT_fst (l : List Tok) : (gapT l).map Prod.fst = l := by
  unfold gapT
  rw [List.map_map]
  exact List.map_id _
theorem letG_fst (a : ByteArray × Ex) : (letG a).map Prod.fst = letB a := by
  unfold letG letB
  simp only [List.map_append, List.map_cons, gapT_fst, List.map_nil]
  rfl
theorem letsG_fst : ∀ (l : List (ByteArray × Ex)), (letsG l).map Prod.fst = letsB l
  | [] => rfl
  | a :: l => by rw [letsG, letsB, List.map_append, letG_fst, letsG_fst l]
theorem progG_fst (ins outs : List ByteArray) (l : List (ByteArray × Ex)) : (progG ins outs l).map Prod.fst = progB ins outs l := by
  unfold progG progB
  rw [List.map_append, List.map_append, gapT_fst, gapT_fst, letsG_fst]
theorem sg_sign {s : ByteArray} (h : s = lpar ∨ s = rpar ∨ s = semiS ∨ s = equalS) : Sg (tk 2 s) := by
  rcases h with rfl | rfl | rfl | rfl
  · exact ⟨rfl, 40, rfl, by decide, by decide⟩
  · exact ⟨rfl, 41, rfl, by decide, by decide⟩
  · exact ⟨rfl, 59, rfl, by decide, by decide⟩
  · exact ⟨rfl, 61, rfl, by decide, by decide⟩
theorem gapT_good {l : List Tok} (h : ∀ t ∈ l, Good t) : ∀ a ∈ gapT l, (a.2 = true ∧ Good a.1) ∨ Sg a.1 := fun a ha => by
  obtain ⟨t, ht, rfl⟩ := List.mem_map.1 ha
  exact .inl ⟨rfl, h t ht⟩
theorem letG_good {a : ByteArray × Ex} (h1 : nameZ a.1 = true) (h2 : a.2.ok) : ∀ b ∈ letG a, (b.2 = true ∧ Good b.1) ∨ Sg b.1 := by
  intro b hb
  unfold letG at hb
  rcases List.mem_append.1 hb with hb | hb
  · refine gapT_good (fun t ht => ?_) b hb
    rcases List.mem_cons.1 ht with rfl | ht
    · exact good_key (by simp)
    · rw [List.mem_singleton.1 ht]; exact good_name h1
  · rcases List.mem_cons.1 hb with rfl | hb
    · exact .inr (sg_sign (by simp))
    · rcases List.mem_cons.1 hb with rfl | hb
      · exact .inr (sg_sign (by simp))
      · rcases List.mem_cons.1 hb with rfl | hb
        · exact .inr (sg_sign (by simp))
        · rcases List.mem_append.1 hb with hb | hb
          · exact gapT_good (exK_good a.2 h2) b hb
          · simp only [List.mem_cons, List.not_mem_nil, or_false] at hb
            rcases hb with rfl | rfl | rfl <;> exact .inr (sg_sign (by simp))
theorem letsG_good : ∀ (l : List (ByteArray × Ex)), LetsOk l → ∀ b ∈ letsG l, (b.2 = true ∧ Good b.1) ∨ Sg b.1
  | [], _, b, hb => by cases hb
  | a :: l, h, b, hb => by
    obtain ⟨h1, h2⟩ := h a List.mem_cons_self
    rcases List.mem_append.1 hb with hb | hb
    · exact letG_good h1 h2 b hb
    · exact letsG_good l (fun b hb => h b (List.mem_cons_of_mem _ hb)) b hb
theorem letB_lt1 {a : ByteArray × Ex} (h1 : nameZ a.1 = true) (h2 : a.2.ok) (all : List NodeC) (r : List Tok) : Lt1 all (tk 0 a.1 :: tk 2 equalS :: tk 2 lpar :: tk 2 lpar :: (exK a.2 ++ tk 2 rpar :: tk 2 rpar :: tk 2 semiS :: r)) (.ok a.1 (all ++ a.2.nd all.length) r) := by
  have a1 : Ps .sum all (exK a.2 ++ tk 2 rpar :: tk 2 rpar :: tk 2 semiS :: r) _ := sum_atom (exK_atom a.2 all _ h2) (exK_hd _ _) (ends_rpar _)
  have a2 := Ps.par_ok (x := tk 2 lpar) (isT_tk 2 lpar) a1 (isT_tk 2 rpar)
  have a3 := sum_atom a2 (isT_ne (by decide)) (ends_rpar _)
  have a4 := Ps.par_ok (x := tk 2 lpar) (isT_tk 2 lpar) a3 (isT_tk 2 rpar)
  have a5 := sum_atom a4 (isT_ne (by decide)) (ends_semi _)
  exact .ok (by unfold nameT tk; rw [h1]; rfl) (isT_tk 2 equalS) a5 (isT_tk 2 semiS)
theorem letsB_lts : ∀ (l : List (ByteArray × Ex)) (ls : List LetC) (all : List NodeC) (r : List Tok), LetsOk l → hdT r 0 letS = false → Lts ls all (letsB l ++ r) (.ok (ls ++ (laid l all.length).1) (all ++ (laid l all.length).2) r)
  | [], ls, all, r, _, hr => by
    have := Lts.fin (ls := ls) (all := all) hr
    simpa [letsB, laid] using this
  | (s, x) :: l, ls, all, r, h, hr => by
    obtain ⟨h1, h2⟩ := h _ List.mem_cons_self
    have e1 := letB_lt1 (a := (s, x)) h1 h2 all (letsB l ++ r)
    have ih := letsB_lts l (ls ++ [⟨s, lastI (all ++ x.nd all.length)⟩]) (all ++ x.nd all.length) r (fun b hb => h b (List.mem_cons_of_mem _ hb)) hr
    have hlen : (all ++ x.nd all.length).length = all.length + x.n := by rw [List.length_append, x.nd_len]
    have e2 := Lts.more (ls := ls) (x := tk 0 letS) (isT_tk 0 letS) e1 ih
    rw [lastI_nd, hlen] at e2
    have e3 : letsB ((s, x) :: l) ++ r = tk 0 letS :: tk 0 s :: tk 2 equalS :: tk 2 lpar :: tk 2 lpar :: (exK x ++ tk 2 rpar :: tk 2 rpar :: tk 2 semiS :: (letsB l ++ r)) := by simp [letsB, letB]
    rw [e3]
    simpa [laid, List.append_assoc] using e2
theorem progB_prg {ins outs : List ByteArray} {l : List (ByteArray × Ex)} (h1 : NamesOk ins) (hi : 1 ≤ ins.length) (h2 : LetsOk l) (h3 : NamesOk outs) (ho : 1 ≤ outs.length) : Prg (progB ins outs l) (.ok ⟨ins, (laid l 0).1, outs, (laid l 0).2⟩) := by
  cases ins with
  | nil => simp at hi
  | cons s ins =>
    cases outs with
    | nil => simp at ho
    | cons t outs =>
      have a1 := restK_names ins s (letsB l ++ namesK outS (t :: outs)) (h1 s List.mem_cons_self) fun b hb => h1 b (List.mem_cons_of_mem _ hb)
      have a2 := letsB_lts l [] [] (namesK outS (t :: outs)) h2 (isT_ne (by decide))
      have a3 := restK_names outs t [] (h3 t List.mem_cons_self) fun b hb => h3 b (List.mem_cons_of_mem _ hb)
      rw [List.append_nil] at a3
      exact .ok (isT_tk 0 inS) a1 a2 (isT_tk 0 outS) a3
theorem letsB_st : ∀ (l : List (ByteArray × Ex)), (letsB l).map st = letsB l
  | [] => rfl
  | a :: l => by
    rw [letsB, List.map_append, letsB_st l]
    congr 1
    unfold letB
    simp only [List.map_cons, List.map_append, exK_st, List.map_nil]
    rfl
theorem progB_st (ins outs : List ByteArray) (l : List (ByteArray × Ex)) : (progB ins outs l).map st = progB ins outs l := by
  unfold progB
  rw [List.map_append, List.map_append, namesK_st, namesK_st, letsB_st]
theorem letsB_len : ∀ (l : List (ByteArray × Ex)), (letsB l).length = (letsK l).length + 4 * l.length
  | [] => rfl
  | a :: l => by
    have ih := letsB_len l
    have e1 : (letB a).length = (letK a).length + 4 := by unfold letB letK; simp only [List.length_cons, List.length_append, List.length_nil]
    rw [letsB, letsK, List.length_append, List.length_append, List.length_cons, ih, e1]
    omega
theorem gapL_size : ∀ (ts : List (Tok × Bool)), (∀ a ∈ ts, a.1.text.size ≤ 81) → (bk (gapL ts)).size ≤ 84 * ts.length
  | [], _ => Nat.le_refl _
  | (t, g) :: ts, h => by
    have h1 := h _ List.mem_cons_self
    have h2 := gapL_size ts fun x hx => h x (List.mem_cons_of_mem _ hx)
    dsimp only at h1
    rw [gap_list, ByteArray.size_append, ByteArray.size_append, List.length_cons]
    cases g with
    | false => show t.text.size + (0 + _) ≤ _; omega
    | true => show t.text.size + (3 + _) ≤ _; omega
theorem blank_parse {p : ProgC} {l : List (ByteArray × Ex)} (h : RightP p l) (hf : FewC p) : parseZ (bk (tx2 0 false (tx1 (joinZ (progK p.ins p.outs l)).data.toList))) = ⟨p, 0, 0, 0⟩ ∧ (bk (tx2 0 false (tx1 (joinZ (progK p.ins p.outs l)).data.toList))).size ≤ 60000 := by
  obtain ⟨f1, f2, f3, f4⟩ := hf
  have hll : p.lets.length = l.length := by rw [h.lets, laid_lets]
  have hlen := progK_len p.ins p.outs l
  rw [← h.all] at hlen
  rw [blank_text h.ins.1 h.ok h.outs.1]
  have hgd : ∀ a ∈ progG p.ins p.outs l, (a.2 = true ∧ Good a.1) ∨ Sg a.1 := by
    intro a ha
    rcases List.mem_append.1 ha with ha | ha
    · exact gapT_good (namesK_good (by simp) _ h.ins.1) a ha
    · rcases List.mem_append.1 ha with ha | ha
      · exact letsG_good l h.ok a ha
      · exact gapT_good (namesK_good (by simp) _ h.outs.1) a ha
  have hsm : ∀ a ∈ progG p.ins p.outs l, a.1.text.size ≤ 81 := fun a ha => by
    rcases hgd a ha with ⟨_, g⟩ | g
    · exact good_small g
    · obtain ⟨_, b, e, _⟩ := g
      rw [e]; show 1 ≤ 81; decide
  have hgl : (progG p.ins p.outs l).length = (progK p.ins p.outs l).length + 4 * l.length := by
    rw [← List.length_map (f := Prod.fst), progG_fst]
    unfold progB progK
    simp only [List.length_append, letsB_len]
    omega
  have hsz := gapL_size _ hsm
  refine ⟨?_, by omega⟩
  obtain ⟨us, h1, h2⟩ := gap_lex (progG p.ins p.outs l) ⟨#[]⟩ hgd
  have e : (⟨#[]⟩ : ByteArray) ++ bk (gapL (progG p.ins p.outs l)) = bk (gapL (progG p.ins p.outs l)) := ByteArray.empty_append
  rw [e] at h1
  have h1' : Lexed (bk (gapL (progG p.ins p.outs l))) 0 (bk (gapL (progG p.ins p.outs l))).size us := h1
  have h4 := h2.len
  rw [List.length_map] at h4
  have hlx : lexZ (bk (gapL (progG p.ins p.outs l))) = ⟨us, 0, 0, 0⟩ := by
    rw [lexZ_at (by omega), Lexed.lex h1' [] (by simp; omega), lexAt_end (Nat.le_refl _)]
    rfl
  have h3 := likes_st h2
  rw [progG_fst, progB_st] at h3
  have hp := progB_prg h.ins.1 h.ins.2.1 h.ok h.outs.1 h.outs.2.1
  rw [← h.lets, ← h.all] at hp
  unfold parseZ
  rw [hlx]
  dsimp only
  rw [if_neg (by decide), prgZ_ok_st h3 hp]
  unfold parseT
  dsimp only
  rw [if_pos (by rw [tZ_right h]; rfl)]
theorem tx1_len : ∀ (l : List UInt8), (tx1 l).length ≤ 3 * l.length
  | [] => Nat.le_refl _
  | b :: l => by
    have ih := tx1_len l
    show (b :: ((if b = 32 then [10, 9] else []) ++ (if b = 61 then [40, 40] else [])) ++ tx1 l).length ≤ _
    rw [List.length_append, List.length_cons, List.length_append, List.length_cons]
    by_cases h : b = 32
    · have h6 : ¬ b = 61 := by rw [h]; decide
      rw [if_pos h, if_neg h6]; simp; omega
    · rw [if_neg h]
      by_cases h6 : b = 61
      · rw [if_pos h6]; simp; omega
      · rw [if_neg h6]; simp; omega
theorem ext_one {s : ByteArray} {i : Nat} (h : i < s.size) : s.extract i (i + 1) = ⟨#[s.get! i]⟩ := by
  have h' : i < s.data.size := h
  apply ByteArray.ext
  rw [ByteArray.data_extract]
  show s.data.extract i (i + 1) = #[s.data[i]!]
  rw [getElem!_pos s.data i h']
  apply Array.ext'
  rw [Array.toList_extract]
  rw [List.extract_eq_take_drop, Nat.add_sub_cancel_left, List.drop_eq_getElem_cons (by simpa using h'), List.take_succ_cons, List.take_zero]
  simp
theorem list_at {s : ByteArray} {i : Nat} (h : i < s.size) : s.data.toList[i]? = some (s.get! i) := by
  have := get_toList h
  rw [toList_data] at this
  exact this
theorem byte_is {b : UInt8} {n : Nat} (hn : n < 256) (h : b.toNat = n) : b = UInt8.ofNat n := by
  have h2 := UInt8.toNat_ofNat_of_lt' (n := n) (by omega)
  exact UInt8.toNat_inj.1 (by rw [h, h2])
theorem tx1_at {s : ByteArray} {i : Nat} (h : i < s.size) : bk (tx1 (s.data.toList.take (i + 1))) = bk (tx1 (s.data.toList.take i)) ++ s.extract i (i + 1) ++ bk ((if s.get! i = 32 then [10, 9] else []) ++ (if s.get! i = 61 then [40, 40] else [])) := by
  rw [List.take_add_one, list_at h, tx1_app, bk_app, ext_one h, ByteArray.append_assoc]
  congr 1
  show bk ((s.get! i :: ((if s.get! i = 32 then [10, 9] else []) ++ (if s.get! i = 61 then [40, 40] else []))) ++ []) = _
  rw [List.append_nil]
  exact bk_app [s.get! i] _
theorem tx1_blank {s : ByteArray} {i : Nat} (h : i < s.size) (hb : (s.get! i).toNat = 32) : bk (tx1 (s.data.toList.take (i + 1))) = bk (tx1 (s.data.toList.take i)) ++ s.extract i (i + 1) ++ ⟨#[10, 9]⟩ := by
  have e : s.get! i = 32 := byte_is (by decide) hb
  rw [tx1_at h, e]; rfl
theorem tx1_equal {s : ByteArray} {i : Nat} (h : i < s.size) (hb : (s.get! i).toNat = 61) : bk (tx1 (s.data.toList.take (i + 1))) = bk (tx1 (s.data.toList.take i)) ++ s.extract i (i + 1) ++ ⟨#[40, 40]⟩ := by
  have e : s.get! i = 61 := byte_is (by decide) hb
  rw [tx1_at h, e]; rfl
theorem tx1_other {s : ByteArray} {i : Nat} (h : i < s.size) (h1 : (s.get! i).toNat ≠ 32) (h2 : (s.get! i).toNat ≠ 61) : bk (tx1 (s.data.toList.take (i + 1))) = bk (tx1 (s.data.toList.take i)) ++ s.extract i (i + 1) := by
  rw [tx1_at h, if_neg (fun e => h1 (by rw [e]; rfl)), if_neg (fun e => h2 (by rw [e]; rfl))]
  exact ByteArray.append_empty
def pv (t : ByteArray) (i : Nat) : UInt8 := if i = 0 then 0 else t.get! (i - 1)
theorem pv_succ (t : ByteArray) (i : Nat) : pv t (i + 1) = t.get! i := rfl
theorem drop_at {t : ByteArray} {i : Nat} (h : i < t.size) : t.data.toList.drop i = t.get! i :: t.data.toList.drop (i + 1) := by
  have h1 := list_at h
  obtain ⟨h2, h3⟩ := List.getElem?_eq_some_iff.1 h1
  rw [List.drop_eq_getElem_cons h2, h3]
theorem tx2_open {t : ByteArray} {i : Nat} {o : Bool} (h : i < t.size) (hb : (t.get! i).toNat = 40) (hi : 0 < i) (hp : (t.get! (i - 1)).toNat = 61) : bk (tx2 (pv t i) o (t.data.toList.drop i)) = t.extract i (i + 1) ++ bk (tx2 (pv t (i + 1)) true (t.data.toList.drop (i + 1))) := by
  have e : t.get! i = 40 := byte_is (by decide) hb
  have e2 : pv t i = 61 := by unfold pv; rw [if_neg (by omega)]; exact byte_is (by decide) hp
  rw [drop_at h, tx2, ext_one h, pv_succ, e, e2, if_neg (by simp)]
  rw [show (o || ((40 : UInt8) == 40 && (61 : UInt8) == 61)) = true by simp]
  exact bk_app [40] _
theorem tx2_close {t : ByteArray} {i : Nat} {o : Bool} (h : i < t.size) (hb : (t.get! i).toNat = 59) (ho : o = true) : bk (tx2 (pv t i) o (t.data.toList.drop i)) = ⟨#[41, 41]⟩ ++ (t.extract i (i + 1) ++ bk (tx2 (pv t (i + 1)) false (t.data.toList.drop (i + 1)))) := by
  have e : t.get! i = 59 := byte_is (by decide) hb
  rw [drop_at h, tx2, ext_one h, pv_succ, e, ho, if_pos (by simp)]
  show bk ([41, 41] ++ ([59] ++ tx2 59 false _)) = _
  rw [bk_app, bk_app]
  rfl
theorem tx2_same {t : ByteArray} {i : Nat} {o : Bool} (h : i < t.size) (h1 : ¬ ((t.get! i).toNat = 40 ∧ 0 < i ∧ (t.get! (i - 1)).toNat = 61)) (h2 : ¬ ((t.get! i).toNat = 59 ∧ o = true)) : bk (tx2 (pv t i) o (t.data.toList.drop i)) = t.extract i (i + 1) ++ bk (tx2 (pv t (i + 1)) o (t.data.toList.drop (i + 1))) := by
  have e1 : (t.get! i == 40 && pv t i == 61) = false := by
    rw [Bool.eq_false_iff]
    intro hh
    simp only [Bool.and_eq_true, beq_iff_eq] at hh
    refine h1 ⟨by rw [hh.1]; rfl, ?_, ?_⟩
    · rcases Nat.eq_zero_or_pos i with h0 | h0
      · have := hh.2; rw [h0] at this; cases this
      · exact h0
    · have h3 := hh.2
      unfold pv at h3
      split at h3
      · cases h3
      · rw [h3]; rfl
  have e2 : (t.get! i == 59 && (o || false)) = false := by
    rw [Bool.eq_false_iff]
    intro hh
    simp only [Bool.and_eq_true, beq_iff_eq, Bool.or_false] at hh
    exact h2 ⟨by rw [hh.1]; rfl, hh.2⟩
  rw [drop_at h, tx2, ext_one h, pv_succ, e1, e2, if_neg (by decide), Bool.or_false]
  exact bk_app [t.get! i] _
theorem tx2_at {t : ByteArray} {u z : ByteArray} {i : Nat} {o : Bool} (h : u ++ bk (tx2 (pv t i) o (t.data.toList.drop i)) = z) {x : ByteArray} {o' : Bool} (hs : bk (tx2 (pv t i) o (t.data.toList.drop i)) = x ++ bk (tx2 (pv t (i + 1)) o' (t.data.toList.drop (i + 1)))) : u ++ x ++ bk (tx2 (pv t (i + 1)) o' (t.data.toList.drop (i + 1))) = z := by
  rw [← h, hs, ByteArray.append_assoc]
theorem TreeBlanks_any (vi vl vo va : Value) (p : ProgC) (ns : List NodeV) {I : Hp} (hp : ProgV I vi vl vo va p ns) (hf : ∀ o ∈ ns, o.c.few 35184372088400) (hT : Tabs I) (hM : Mx I) (hE : Errs I) : Fun Tryz.prog 7 [.agg #[vi, vl, vo, va]] I [] (fun v _ _ => v = .bool true) := by
  intro w hw
  refine enter1 _ Tryz.func7 rfl Tryz.ntmps7 rfl ?_ hw;refine sR ?_;refine o_box trivial rfl rfl rfl (fun b1 => ?_);refine oV ?_;refine nS ?_;refine oQ Tryz.call14 rfl (awake11_any hT hM hE) ?_;refine oV ?_;refine nS ?_;refine oA Tryz.isAgg27 Tryz.sizeOf27 ?_;refine oQ Tryz.call18 rfl (rrFew_any vi vl vo va p ns 40 hp) ?_;refine oV ?_;refine nS ?_;refine oA Tryz.isAgg27 Tryz.sizeOf27 ?_;refine o_call0 trivial rfl Tryz.call19 rfl (rrRightG_any vi vl vo va p ns hp hf) ?_;rintro _ ⟨rb, rfl, hrb⟩;refine oV ?_;refine nU ?_;iterate 2 refine oV ?_
  refine' o_or trivial trivial rfl rfl rfl rfl rfl rfl rfl rfl (fun hb22 => ?_) ?_;rotate_left
  ·
   have fb22 := hb22
   try simp only [bl] at fb22
   iterate 2 refine gV hb22 ?_
   refine oN ?_;exact joins rfl
  refine nT ?_;refine cC rfl (fun h1 => ?_) (fun h1 => ?_)
  ·
   have f1 := h1;try simp only [bl] at f1
   refine sR ?_;iterate 2 refine oV ?_
   refine nF ?_;refine ret1 rfl rfl ?_;exact leaf0 rfl
  have f1 := h1;try simp only [bl] at f1
  obtain ⟨g1, g2⟩ : fewP p 40 = true ∧ rb = true := by simpa using f1
  obtain ⟨l, hR⟩ := rgt_of hp g1 (by rw [← hrb g1]; exact g2)
  have hsz := hR.size
  have hbp := blank_parse hR.rg hR.fw
  obtain ⟨s, hS⟩ : ∃ s, s = joinZ (progK p.ins p.outs l) := ⟨_, rfl⟩
  have hSS : joinZ (namesK inS p.ins) ++ joinZ (letsK l) ++ joinZ (namesK outS p.outs) = s := by rw [hS]; unfold progK; rw [joinZ_more, joinZ_more, ByteArray.append_assoc]
  rw [← hS] at hbp
  have hsl : s.size ≤ 50000 := by rw [← hSS, ByteArray.size_append, ByteArray.size_append]; omega
  refine cK (tC (cS ?_));refine c_quiet (by kernel_rfl) (by kernel_rfl) (fun _ h => h.drawn) ?_;refine oA Tryz.isAgg27 Tryz.sizeOf27 ?_;refine oQ Tryz.call24 rfl (rrHead_any hR) ?_;refine oA Tryz.isAgg27 Tryz.sizeOf27 ?_;refine oQ Tryz.call25 rfl (rrBody_any hR) ?_;refine o_cat trivial rfl rfl rfl (by first | omega | (simp only [ByteArray.size_append, lit_size, strOf_size, List.length_replicate, List.size_toArray, List.length_cons, List.length_nil]; omega) | (simp; omega)) ?_;refine oA Tryz.isAgg27 Tryz.sizeOf27 ?_;refine oQ Tryz.call26 rfl (rrTail_any hR) ?_;refine o_cat trivial rfl rfl rfl (by first | omega | (simp only [ByteArray.size_append, lit_size, strOf_size, List.length_replicate, List.size_toArray, List.length_cons, List.length_nil]; omega) | (simp; omega)) ?_;refine oV ?_;refine oN (tC (cS ?_))
  rw [hSS]
  refine cR ?_;refine oV ?_;refine nU ?_;refine oV ?_;refine oN (tC (cB ?_));refine c_loop (ι := Nat) [1, 3, 6] (.cons rfl (.cons rfl (.cons rfl .nil))) (fun i => s.size - i) (fun i E0 => (7, .string (bk (tx1 (s.data.toList.take i)))) :: (8, .int .i64 (i : Nat)) :: E0) (fun i => St w [] I [.box b1 (.cells #[vi, vl, vo, va] 27 (0, 0))]) (fun i => i ≤ s.size) (0) (sC rfl (sC rfl (sC rfl (sC rfl (sC rfl sN))))) (fun _ h => h) (Nat.zero_le _) ?_;rintro i hi
  try dsimp only
  have hbs := bk_size (tx1 (s.data.toList.take i)); have hbl := tx1_len (s.data.toList.take i); have htl : (s.data.toList.take i).length ≤ i := by rw [List.length_take]; omega
  refine cS (sR ?_);iterate 2 refine oV ?_
  refine o_lenS trivial rfl Tryz.underlying9 rfl ?_;refine oV ?_;refine nT ?_;refine cC rfl (fun h2 => ?_) (fun h2 => ?_)
  ·
   have f2 := h2;try simp only [bl] at f2
   have hin : i < s.size := by omega
   refine cK (tC (cS (cB (sR ?_))));iterate 4 refine oV ?_
   first | (refine o_add trivial rfl rfl rfl ?_ ?_; (omega)) | refine oV ?_
   refine o_sliceS3 trivial rfl Tryz.underlying9 rfl rfl rfl (by omega) ?_;refine o_cat trivial rfl rfl rfl (by rw [ByteArray.size_extract]; omega) ?_;refine oV ?_;refine nU ?_;iterate 2 refine oV ?_
   refine o_idxS trivial rfl Tryz.underlying9 rfl rfl (by omega) ?_;refine oV ?_;refine nT ?_;refine cC rfl (fun h3 => ?_) (fun h3 => ?_)
   ·
    have f3 := h3;try simp only [bl] at f3
    rw [Int.toNat_natCast] at f3
    have q3 : (s.get! i).toNat = 32 := by omega
    refine cR ?_;refine oV ?_;refine o_cat trivial rfl rfl rfl (by rw [ByteArray.size_append, ByteArray.size_extract]; show _ + 2 ≤ _; omega) ?_;refine oV ?_;refine nS ?_;iterate 2 refine oV ?_
    refine o_idxS trivial rfl Tryz.underlying9 rfl rfl (by omega) ?_;refine oV ?_;refine nT ?_;refine cC rfl (fun h4 => ?_) (fun h4 => ?_)
    ·
     have f4 := h4;try simp only [bl] at f4
     rw [Int.toNat_natCast] at f4
     have q4 : (s.get! i).toNat = 61 := by omega
     refine cR ?_;refine oV ?_;refine o_cat trivial rfl rfl rfl (by first | (rw [ByteArray.size_append, ByteArray.size_append, ByteArray.size_extract]; show _ + 2 + 2 ≤ _; omega) | (rw [ByteArray.size_append, ByteArray.size_extract]; show _ + 2 ≤ _; omega)) ?_;refine oV ?_;refine oN (blk_n (tC (cR ?_)));refine oV ?_
     first | (refine o_add trivial rfl rfl rfl ?_ ?_; (omega)) | refine oV ?_
     refine oV ?_;refine oN ?_
     first | (exfalso; omega) | exact again (i + 1) (by rw [tx1_blank hin q3]; exact (sC rfl (sC rfl (sC rfl (sC rfl (sC rfl sN)))))) (fun _ h => h) (by show s.size - (i + 1) < s.size - i; omega) (by show i + 1 ≤ _; omega) | exact again (i + 1) (by rw [tx1_equal hin q4]; exact (sC rfl (sC rfl (sC rfl (sC rfl (sC rfl sN)))))) (fun _ h => h) (by show s.size - (i + 1) < s.size - i; omega) (by show i + 1 ≤ _; omega) | exact again (i + 1) (by rw [tx1_other hin q3 q4]; exact (sC rfl (sC rfl (sC rfl (sC rfl (sC rfl sN)))))) (fun _ h => h) (by show s.size - (i + 1) < s.size - i; omega) (by show i + 1 ≤ _; omega)
    have f4 := h4;try simp only [bl] at f4
    rw [Int.toNat_natCast] at f4
    have q4 : (s.get! i).toNat ≠ 61 := fun e => f4 (by omega)
    refine cK (blk_n (tC (cR ?_)));refine oV ?_
    first | (refine o_add trivial rfl rfl rfl ?_ ?_; (omega)) | refine oV ?_
    refine oV ?_;refine oN ?_
    first | (exfalso; omega) | exact again (i + 1) (by rw [tx1_blank hin q3]; exact (sC rfl (sC rfl (sC rfl (sC rfl (sC rfl sN)))))) (fun _ h => h) (by show s.size - (i + 1) < s.size - i; omega) (by show i + 1 ≤ _; omega) | exact again (i + 1) (by rw [tx1_equal hin q4]; exact (sC rfl (sC rfl (sC rfl (sC rfl (sC rfl sN)))))) (fun _ h => h) (by show s.size - (i + 1) < s.size - i; omega) (by show i + 1 ≤ _; omega) | exact again (i + 1) (by rw [tx1_other hin q3 q4]; exact (sC rfl (sC rfl (sC rfl (sC rfl (sC rfl sN)))))) (fun _ h => h) (by show s.size - (i + 1) < s.size - i; omega) (by show i + 1 ≤ _; omega)
   have f3 := h3;try simp only [bl] at f3
   rw [Int.toNat_natCast] at f3
   have q3 : (s.get! i).toNat ≠ 32 := fun e => f3 (by omega)
   refine kS ?_;iterate 2 refine oV ?_
   refine o_idxS trivial rfl Tryz.underlying9 rfl rfl (by omega) ?_;refine oV ?_;refine nT ?_;refine cC rfl (fun h4 => ?_) (fun h4 => ?_)
   ·
    have f4 := h4;try simp only [bl] at f4
    rw [Int.toNat_natCast] at f4
    have q4 : (s.get! i).toNat = 61 := by omega
    refine cR ?_;refine oV ?_;refine o_cat trivial rfl rfl rfl (by first | (rw [ByteArray.size_append, ByteArray.size_append, ByteArray.size_extract]; show _ + 2 + 2 ≤ _; omega) | (rw [ByteArray.size_append, ByteArray.size_extract]; show _ + 2 ≤ _; omega)) ?_;refine oV ?_;refine oN (blk_n (tC (cR ?_)));refine oV ?_
    first | (refine o_add trivial rfl rfl rfl ?_ ?_; (omega)) | refine oV ?_
    refine oV ?_;refine oN ?_
    first | (exfalso; omega) | exact again (i + 1) (by rw [tx1_blank hin q3]; exact (sC rfl (sC rfl (sC rfl (sC rfl (sC rfl sN)))))) (fun _ h => h) (by show s.size - (i + 1) < s.size - i; omega) (by show i + 1 ≤ _; omega) | exact again (i + 1) (by rw [tx1_equal hin q4]; exact (sC rfl (sC rfl (sC rfl (sC rfl (sC rfl sN)))))) (fun _ h => h) (by show s.size - (i + 1) < s.size - i; omega) (by show i + 1 ≤ _; omega) | exact again (i + 1) (by rw [tx1_other hin q3 q4]; exact (sC rfl (sC rfl (sC rfl (sC rfl (sC rfl sN)))))) (fun _ h => h) (by show s.size - (i + 1) < s.size - i; omega) (by show i + 1 ≤ _; omega)
   have f4 := h4;try simp only [bl] at f4
   rw [Int.toNat_natCast] at f4
   have q4 : (s.get! i).toNat ≠ 61 := fun e => f4 (by omega)
   refine cK (blk_n (tC (cR ?_)));refine oV ?_
   first | (refine o_add trivial rfl rfl rfl ?_ ?_; (omega)) | refine oV ?_
   refine oV ?_;refine oN ?_
   first | (exfalso; omega) | exact again (i + 1) (by rw [tx1_blank hin q3]; exact (sC rfl (sC rfl (sC rfl (sC rfl (sC rfl sN)))))) (fun _ h => h) (by show s.size - (i + 1) < s.size - i; omega) (by show i + 1 ≤ _; omega) | exact again (i + 1) (by rw [tx1_equal hin q4]; exact (sC rfl (sC rfl (sC rfl (sC rfl (sC rfl sN)))))) (fun _ h => h) (by show s.size - (i + 1) < s.size - i; omega) (by show i + 1 ≤ _; omega) | exact again (i + 1) (by rw [tx1_other hin q3 q4]; exact (sC rfl (sC rfl (sC rfl (sC rfl (sC rfl sN)))))) (fun _ h => h) (by show s.size - (i + 1) < s.size - i; omega) (by show i + 1 ≤ _; omega)
  have f2 := h2;try simp only [bl] at f2
  have hin : i = s.size := by omega
  have hdl : s.data.toList.length = s.size := by simp
  rw [hin, List.take_of_length_le (by omega)]
  obtain ⟨t, ht⟩ : ∃ t, t = bk (tx1 s.data.toList) := ⟨_, rfl⟩
  have htd : t.data.toList = tx1 s.data.toList := by rw [ht]; simp [bk]
  rw [← ht]
  have hts : t.size ≤ 150000 := by rw [ht, bk_size]; have := tx1_len s.data.toList; omega
  rw [← htd] at hbp
  obtain ⟨z, hz⟩ : ∃ z, z = bk (tx2 0 false t.data.toList) := ⟨_, rfl⟩
  rw [← hz] at hbp
  refine c_exit (then_x (then_x (blk_eq rfl (tC (sR ?_)))));refine oV ?_;refine nS ?_;refine oV ?_;refine nU ?_;refine oV ?_;refine oN (tC (cB ?_));refine c_loop (ι := Nat × Bool × ByteArray) [1, 3, 7] (.cons rfl (.cons rfl (.cons rfl .nil))) (fun x => t.size - x.1) (fun x E0 => (9, .string x.2.2) :: (10, .bool x.2.1) :: (11, .int .i64 (x.1 : Nat)) :: E0) (fun x => St w [] I [.box b1 (.cells #[vi, vl, vo, va] 27 (0, 0))]) (fun x => x.1 ≤ t.size ∧ x.2.2.size ≤ 3 * x.1 ∧ x.2.2 ++ bk (tx2 (pv t x.1) x.2.1 (t.data.toList.drop x.1)) = z) ((0, false, ⟨#[]⟩)) (sC rfl (sC rfl (sC rfl (sC rfl (sC rfl (sC rfl sN)))))) (fun _ h => h) (⟨Nat.zero_le _, Nat.le_refl _, by rw [hz]; exact ByteArray.empty_append⟩) ?_;rintro ⟨j, o, u⟩ ⟨hj, hul, hg⟩
  try dsimp only
  simp only at hj hul hg
  refine cS (sR ?_);iterate 2 refine oV ?_
  refine o_lenS trivial rfl Tryz.underlying9 rfl ?_;refine oV ?_;refine nT ?_;refine cC rfl (fun h5 => ?_) (fun h5 => ?_)
  ·
   have f5 := h5;try simp only [bl] at f5
   have hjn : j < t.size := by omega
   refine cK (tC (cS (cB (cS (sR ?_)))));iterate 2 refine oV ?_
   refine o_idxS trivial rfl Tryz.underlying9 rfl rfl (by omega) ?_;refine oV ?_;refine' o_and trivial trivial rfl rfl rfl rfl rfl rfl rfl rfl (fun hb70 => ?_) ?_;rotate_left
   ·
    iterate 2 refine gV hb70 ?_
    refine oN ?_;exact joins rfl
   refine' o_and trivial trivial rfl rfl rfl rfl rfl rfl rfl rfl (fun hb74 => ?_) ?_;rotate_left
   ·
    have fb74 := hb74
    try simp only [bl] at fb74
    iterate 2 refine gV hb74 ?_
    first | (refine o_sub (wS rfl rfl hb74) rfl rfl rfl ?_ ?_; (omega)) | refine gV hb74 ?_
    refine o_idxS (wS rfl rfl hb74) rfl Tryz.underlying9 rfl rfl (by omega) ?_;refine gV hb74 ?_;refine oN ?_;exact joins rfl
   refine nT ?_;refine cC rfl (fun h6 => ?_) (fun h6 => ?_)
   ·
    have f6 := h6;try simp only [bl] at f6
    have q6 : (t.get! j).toNat = 40 ∧ 0 < j ∧ (t.get! (j - 1)).toNat = 61 := by
      obtain ⟨⟨a, b⟩, c⟩ := f6
      rw [Int.toNat_natCast] at a
      rw [show ((j : Int) - 1).toNat = j - 1 by omega] at c
      exact ⟨by omega, by omega, by omega⟩
    refine cR ?_;refine oV ?_;refine nU ?_;iterate 2 refine oV ?_
    refine o_idxS trivial rfl Tryz.underlying9 rfl rfl (by omega) ?_;refine oV ?_;refine' o_and trivial trivial rfl rfl rfl rfl rfl rfl rfl rfl (fun hb85 => ?_) ?_;rotate_left
    ·
     refine gV hb85 ?_;refine oN ?_;exact joins rfl
    refine nT ?_;refine cC rfl (fun h7 => ?_) (fun h7 => ?_)
    ·
     have f7 := h7;try simp only [bl] at f7
     have q7 : (t.get! j).toNat = 59 := by
       have h8 := h7
       simp at h8
       omega
     have q8 : o = true := by first | (exfalso; have := q6.1; omega) | (simp at h7; exact h7.2)
     refine sR ?_;refine oV ?_;refine o_cat trivial rfl rfl rfl (by show _ + 2 ≤ _; omega) ?_;refine oV ?_;refine nR ?_;refine oV ?_;refine nR ?_;iterate 4 refine oV ?_
     first | (refine o_add trivial rfl rfl rfl ?_ ?_; (omega)) | refine oV ?_
     refine o_sliceS3 trivial rfl Tryz.underlying9 rfl rfl rfl (by omega) ?_;refine o_cat trivial rfl rfl rfl (by first | (rw [ByteArray.size_append, ByteArray.size_extract]; show _ + 2 + _ ≤ _; omega) | (rw [ByteArray.size_extract]; omega)) ?_;refine oV ?_;refine oN (blk_n (tC (cR ?_)));refine oV ?_
     first | (refine o_add trivial rfl rfl rfl ?_ ?_; (omega)) | refine oV ?_
     refine oV ?_;refine oN ?_
     first
     | (exfalso; have := q6.1; omega)
     | exact again (j + 1, true, _) (sC rfl (sC rfl (sC rfl (sC rfl (sC rfl (sC rfl sN)))))) (fun _ h => h) (by show t.size - (j + 1) < t.size - j; omega) ⟨by show j + 1 ≤ _; omega, by show (u ++ _).size ≤ 3 * (j + 1); rw [ByteArray.size_append, ByteArray.size_extract]; omega, tx2_at hg (tx2_open hjn q6.1 q6.2.1 q6.2.2)⟩
     | exact again (j + 1, o, _) (sC rfl (sC rfl (sC rfl (sC rfl (sC rfl (sC rfl sN)))))) (fun _ h => h) (by show t.size - (j + 1) < t.size - j; omega) ⟨by show j + 1 ≤ _; omega, by show (u ++ _).size ≤ 3 * (j + 1); rw [ByteArray.size_append, ByteArray.size_extract]; omega, tx2_at hg (tx2_same hjn q6 q7)⟩
     | exact again (j + 1, false, _) (sC rfl (sC rfl (sC rfl (sC rfl (sC rfl (sC rfl sN)))))) (fun _ h => h) (by show t.size - (j + 1) < t.size - j; omega) ⟨by show j + 1 ≤ _; omega, by show (u ++ ⟨#[41, 41]⟩ ++ _).size ≤ 3 * (j + 1); rw [ByteArray.size_append, ByteArray.size_append, ByteArray.size_extract]; show _ + 2 + _ ≤ _; omega, (by rw [ByteArray.append_assoc (a := u)]; exact tx2_at hg (by rw [tx2_close hjn q7 q8, ByteArray.append_assoc]) : u ++ ⟨#[41, 41]⟩ ++ t.extract j (j + 1) ++ bk (tx2 (pv t (j + 1)) false (t.data.toList.drop (j + 1))) = z)⟩
    have f7 := h7;try simp only [bl] at f7
    have q7 : ¬ ((t.get! j).toNat = 59 ∧ o = true) := by first | (have := q6.1; omega) | (rintro ⟨a, b⟩; rw [b] at h7; simp [a] at h7)
    refine cK (tC (cR ?_));iterate 4 refine oV ?_
    first | (refine o_add trivial rfl rfl rfl ?_ ?_; (omega)) | refine oV ?_
    refine o_sliceS3 trivial rfl Tryz.underlying9 rfl rfl rfl (by omega) ?_;refine o_cat trivial rfl rfl rfl (by first | (rw [ByteArray.size_append, ByteArray.size_extract]; show _ + 2 + _ ≤ _; omega) | (rw [ByteArray.size_extract]; omega)) ?_;refine oV ?_;refine oN (blk_n (tC (cR ?_)));refine oV ?_
    first | (refine o_add trivial rfl rfl rfl ?_ ?_; (omega)) | refine oV ?_
    refine oV ?_;refine oN ?_
    first
    | (exfalso; have := q6.1; omega)
    | exact again (j + 1, true, _) (sC rfl (sC rfl (sC rfl (sC rfl (sC rfl (sC rfl sN)))))) (fun _ h => h) (by show t.size - (j + 1) < t.size - j; omega) ⟨by show j + 1 ≤ _; omega, by show (u ++ _).size ≤ 3 * (j + 1); rw [ByteArray.size_append, ByteArray.size_extract]; omega, tx2_at hg (tx2_open hjn q6.1 q6.2.1 q6.2.2)⟩
    | exact again (j + 1, o, _) (sC rfl (sC rfl (sC rfl (sC rfl (sC rfl (sC rfl sN)))))) (fun _ h => h) (by show t.size - (j + 1) < t.size - j; omega) ⟨by show j + 1 ≤ _; omega, by show (u ++ _).size ≤ 3 * (j + 1); rw [ByteArray.size_append, ByteArray.size_extract]; omega, tx2_at hg (tx2_same hjn q6 q7)⟩
    | exact again (j + 1, false, _) (sC rfl (sC rfl (sC rfl (sC rfl (sC rfl (sC rfl sN)))))) (fun _ h => h) (by show t.size - (j + 1) < t.size - j; omega) ⟨by show j + 1 ≤ _; omega, by show (u ++ ⟨#[41, 41]⟩ ++ _).size ≤ 3 * (j + 1); rw [ByteArray.size_append, ByteArray.size_append, ByteArray.size_extract]; show _ + 2 + _ ≤ _; omega, (by rw [ByteArray.append_assoc (a := u)]; exact tx2_at hg (by rw [tx2_close hjn q7 q8, ByteArray.append_assoc]) : u ++ ⟨#[41, 41]⟩ ++ t.extract j (j + 1) ++ bk (tx2 (pv t (j + 1)) false (t.data.toList.drop (j + 1))) = z)⟩
   have f6 := h6;try simp only [bl] at f6
   have q6 : ¬ ((t.get! j).toNat = 40 ∧ 0 < j ∧ (t.get! (j - 1)).toNat = 61) := by
     rintro ⟨a, b, c⟩
     rw [show ((j : Int) - 1).toNat = j - 1 by omega, Int.toNat_natCast] at f6
     omega
   refine cK (tC (cS (sR ?_)));iterate 2 refine oV ?_
   refine o_idxS trivial rfl Tryz.underlying9 rfl rfl (by omega) ?_;refine oV ?_;refine' o_and trivial trivial rfl rfl rfl rfl rfl rfl rfl rfl (fun hb85 => ?_) ?_;rotate_left
   ·
    refine gV hb85 ?_;refine oN ?_;exact joins rfl
   refine nT ?_;refine cC rfl (fun h7 => ?_) (fun h7 => ?_)
   ·
    have f7 := h7;try simp only [bl] at f7
    have q7 : (t.get! j).toNat = 59 := by
      have h8 := h7
      simp at h8
      omega
    have q8 : o = true := by first | (exfalso; have := q6.1; omega) | (simp at h7; exact h7.2)
    refine sR ?_;refine oV ?_;refine o_cat trivial rfl rfl rfl (by show _ + 2 ≤ _; omega) ?_;refine oV ?_;refine nR ?_;refine oV ?_;refine nR ?_;iterate 4 refine oV ?_
    first | (refine o_add trivial rfl rfl rfl ?_ ?_; (omega)) | refine oV ?_
    refine o_sliceS3 trivial rfl Tryz.underlying9 rfl rfl rfl (by omega) ?_;refine o_cat trivial rfl rfl rfl (by first | (rw [ByteArray.size_append, ByteArray.size_extract]; show _ + 2 + _ ≤ _; omega) | (rw [ByteArray.size_extract]; omega)) ?_;refine oV ?_;refine oN (blk_n (tC (cR ?_)));refine oV ?_
    first | (refine o_add trivial rfl rfl rfl ?_ ?_; (omega)) | refine oV ?_
    refine oV ?_;refine oN ?_
    first
    | (exfalso; have := q6.1; omega)
    | exact again (j + 1, true, _) (sC rfl (sC rfl (sC rfl (sC rfl (sC rfl (sC rfl sN)))))) (fun _ h => h) (by show t.size - (j + 1) < t.size - j; omega) ⟨by show j + 1 ≤ _; omega, by show (u ++ _).size ≤ 3 * (j + 1); rw [ByteArray.size_append, ByteArray.size_extract]; omega, tx2_at hg (tx2_open hjn q6.1 q6.2.1 q6.2.2)⟩
    | exact again (j + 1, o, _) (sC rfl (sC rfl (sC rfl (sC rfl (sC rfl (sC rfl sN)))))) (fun _ h => h) (by show t.size - (j + 1) < t.size - j; omega) ⟨by show j + 1 ≤ _; omega, by show (u ++ _).size ≤ 3 * (j + 1); rw [ByteArray.size_append, ByteArray.size_extract]; omega, tx2_at hg (tx2_same hjn q6 q7)⟩
    | exact again (j + 1, false, _) (sC rfl (sC rfl (sC rfl (sC rfl (sC rfl (sC rfl sN)))))) (fun _ h => h) (by show t.size - (j + 1) < t.size - j; omega) ⟨by show j + 1 ≤ _; omega, by show (u ++ ⟨#[41, 41]⟩ ++ _).size ≤ 3 * (j + 1); rw [ByteArray.size_append, ByteArray.size_append, ByteArray.size_extract]; show _ + 2 + _ ≤ _; omega, (by rw [ByteArray.append_assoc (a := u)]; exact tx2_at hg (by rw [tx2_close hjn q7 q8, ByteArray.append_assoc]) : u ++ ⟨#[41, 41]⟩ ++ t.extract j (j + 1) ++ bk (tx2 (pv t (j + 1)) false (t.data.toList.drop (j + 1))) = z)⟩
   have f7 := h7;try simp only [bl] at f7
   have q7 : ¬ ((t.get! j).toNat = 59 ∧ o = true) := by first | (have := q6.1; omega) | (rintro ⟨a, b⟩; rw [b] at h7; simp [a] at h7)
   refine cK (tC (cR ?_));iterate 4 refine oV ?_
   first | (refine o_add trivial rfl rfl rfl ?_ ?_; (omega)) | refine oV ?_
   refine o_sliceS3 trivial rfl Tryz.underlying9 rfl rfl rfl (by omega) ?_;refine o_cat trivial rfl rfl rfl (by first | (rw [ByteArray.size_append, ByteArray.size_extract]; show _ + 2 + _ ≤ _; omega) | (rw [ByteArray.size_extract]; omega)) ?_;refine oV ?_;refine oN (blk_n (tC (cR ?_)));refine oV ?_
   first | (refine o_add trivial rfl rfl rfl ?_ ?_; (omega)) | refine oV ?_
   refine oV ?_;refine oN ?_
   first
   | (exfalso; have := q6.1; omega)
   | exact again (j + 1, true, _) (sC rfl (sC rfl (sC rfl (sC rfl (sC rfl (sC rfl sN)))))) (fun _ h => h) (by show t.size - (j + 1) < t.size - j; omega) ⟨by show j + 1 ≤ _; omega, by show (u ++ _).size ≤ 3 * (j + 1); rw [ByteArray.size_append, ByteArray.size_extract]; omega, tx2_at hg (tx2_open hjn q6.1 q6.2.1 q6.2.2)⟩
   | exact again (j + 1, o, _) (sC rfl (sC rfl (sC rfl (sC rfl (sC rfl (sC rfl sN)))))) (fun _ h => h) (by show t.size - (j + 1) < t.size - j; omega) ⟨by show j + 1 ≤ _; omega, by show (u ++ _).size ≤ 3 * (j + 1); rw [ByteArray.size_append, ByteArray.size_extract]; omega, tx2_at hg (tx2_same hjn q6 q7)⟩
   | exact again (j + 1, false, _) (sC rfl (sC rfl (sC rfl (sC rfl (sC rfl (sC rfl sN)))))) (fun _ h => h) (by show t.size - (j + 1) < t.size - j; omega) ⟨by show j + 1 ≤ _; omega, by show (u ++ ⟨#[41, 41]⟩ ++ _).size ≤ 3 * (j + 1); rw [ByteArray.size_append, ByteArray.size_append, ByteArray.size_extract]; show _ + 2 + _ ≤ _; omega, (by rw [ByteArray.append_assoc (a := u)]; exact tx2_at hg (by rw [tx2_close hjn q7 q8, ByteArray.append_assoc]) : u ++ ⟨#[41, 41]⟩ ++ t.extract j (j + 1) ++ bk (tx2 (pv t (j + 1)) false (t.data.toList.drop (j + 1))) = z)⟩
  have f5 := h5;try simp only [bl] at f5
  have hjn : j = t.size := by omega
  have huz : u = z := by
    rw [← hg, hjn, List.drop_of_length_le (by simp)]
    exact ByteArray.append_empty.symm
  rw [huz]
  have hpa := parse_any z hT hM hE (by omega)
  rw [hbp.1] at hpa
  refine c_exit (then_x (then_x (blk_eq rfl (tC (sR ?_)))));refine oV ?_;refine oI Tryz.call15 rfl hpa ?_;rintro _ I2 hx2 ⟨ui, ul, uo, ua, ms, rfl, hq, _⟩;refine oV ?_
  have hq : ProgV I2 ui ul uo ua p ms := hq
  have hsi := hq.si
  have hsl := hq.sl
  have hso := hq.so
  have hsa := hq.sa
  iterate 3 refine oV ?_
  refine o_alloc trivial rfl Tryz.zeroValue27 rfl (fun b12 => ?_);refine o_alloc trivial rfl Tryz.zeroValue29 rfl (fun b13 => ?_);refine oS Tryz.sizeOf27 ?_;refine oS Tryz.sizeOf29 ?_;refine oV ?_;refine nS ?_;refine oV ?_;refine' o_and trivial trivial rfl rfl rfl rfl rfl rfl rfl rfl (fun hb104 => ?_) ?_;rotate_left
  ·
   iterate 2 refine gV hb104 ?_
   refine oN ?_;exact joins rfl
  refine' o_and trivial trivial rfl rfl rfl rfl rfl rfl rfl rfl (fun hb108 => ?_) ?_;rotate_left
  ·
   have fb108 := hb108
   try simp only [bl] at fb108
   iterate 2 refine o_loadA (wS rfl rfl hb108) rfl Tryz.isAgg27 Tryz.sizeOf27 rfl (by repeat constructor) (by repeat constructor) ?_
   refine o_callQ (wS rfl rfl hb108) rfl Tryz.call17 rfl (rrSame_any ui ul uo ua vi vl vo va p ms ns hq (hp.le hx2.le)) ?_;refine oN ?_;exact joins rfl
  refine oV ?_;refine nE ?_;refine ret1 rfl rfl ?_;refine leaf hx2 (List.nil_sublist _) (congrArg Value.bool ?_); simp
end Go.Proofs.YtmgpifkekofacaaGreatDoor
namespace Go.Tw
open Go Go.RowKit Go.ChangeShapes Go.WideShapes Go.ChangeAt Go.Deep
def Tr {H : Type} (enc : TypeId × Value → H) (P : Program) (W : World) (t : TypeId) (cs : List Value) : Prop := ∃ n x, DataW.trod enc P W 0 (fun _ => true) true n t cs = some x
section
variable {base : Nat} {H : Type} {enc : TypeId × Value → H} {P : Program} {W : World} {t e : TypeId} {v : Value} {cs : List Value} {d : DataW H} {ps : List MemPlace}
theorem tr_int {k : IntKind} (ht : P.underlying t = some (.int k)) (h : Tr enc P W t [v]) : ∃ z, v = .int k z ∧ (Lit.int k z).wf = true := by
  obtain ⟨n, x, h⟩ := h
  obtain ⟨z, h1, _, h2⟩ := DataW.trod_int ht h
  exact ⟨z, (List.cons.inj h1).1, h2⟩
theorem tr_bool (ht : P.underlying t = some .bool) (h : Tr enc P W t [v]) : ∃ b, v = .bool b := by
  obtain ⟨n, x, h⟩ := h
  obtain ⟨z, h1, _⟩ := DataW.trod_bool ht h
  exact ⟨z, (List.cons.inj h1).1⟩
theorem tr_string (ht : P.underlying t = some .string) (h : Tr enc P W t [v]) : ∃ s : ByteArray, v = .string s ∧ s.size ≤ maxLen := by
  obtain ⟨n, x, h⟩ := h
  obtain ⟨z, h1, _, h2⟩ := DataW.trod_string ht h
  exact ⟨z, (List.cons.inj h1).1, h2⟩
theorem tr_struct {fs : Array Field} (ht : P.underlying t = some (.struct fs)) (h : Tr enc P W t cs) : cs.length = P.cellsOf t ∧ ∀ (i : Nat) (f : Field), fs[i]? = some f → Tr enc P W f.type ((cs.drop f.offset).take (P.cellsOf f.type)) := by
  obtain ⟨n, x, h⟩ := h
  obtain ⟨xs, m, _, _, hl, hx, hf⟩ := DataW.trod_struct ht h
  refine ⟨hl, fun i f hi => ?_⟩
  have h1 := hf i f hi
  have hlt : i < xs.length := by rw [hx]; exact (Array.getElem?_eq_some_iff.1 hi).1
  rw [List.getElem?_eq_getElem hlt] at h1
  exact ⟨m, _, h1⟩
theorem tr_rows {sz : Nat} (ht : P.underlying t = some (.slice e)) (hsz : P.cellsOf e = sz) (hpos : 0 < sz) (h : Tr enc P W t [v]) : ∃ xss : List (List Value), Slc (World.hp W) sz v xss ∧ ∀ c ∈ xss, Tr enc P W e c := by
  obtain ⟨n, x, h⟩ := h
  rcases open_slice ht h with ⟨h1, _⟩ | ⟨a, len, cap, m, n', D, Pl, h1, hb, hl, hc, hm, _, hx⟩
  · obtain rfl := (List.cons.inj h1).1
    exact ⟨[], Slc.nil _ _, fun c hc => by cases hc⟩
  · obtain rfl := (List.cons.inj h1).1
    subst hsz
    simp only [if_true] at hm
    subst hm
    obtain ⟨G, hG⟩ := choose_lt (α := List Value) (p := fun i cs' => W.cells? 0 (a.add (i * P.cellsOf e)) (P.cellsOf e) = some cs' ∧ DataW.trod enc P W 0 (fun _ => true) true n' e cs' = some (D i, Pl i)) hx
    have hcell : ∀ i, i < m → (G i).length = P.cellsOf e ∧ ∀ k, k < P.cellsOf e → W.cell? (a.add (i * P.cellsOf e + k)) = (G i)[k]? := fun i hi => by
      obtain ⟨h2, h3, h4⟩ := World.cells?_some (hG i hi).1
      refine ⟨h3, fun k hk => ?_⟩
      rw [← h4 k hk, add_add]
    refine ⟨(List.range len).map G, ?_, fun c hc => ?_⟩
    · have hlen : ((List.range len).map G).length = len := by simp
      have hlens : ∀ c ∈ (List.range len).map G, c.length = P.cellsOf e := fun c hc => by
        obtain ⟨i, hi, rfl⟩ := List.mem_map.1 hc
        exact (hcell i (by have := List.mem_range.1 hi; omega)).1
      by_cases h0 : m = 0
      · have hl0 : len = 0 := by omega
        subst h0
        subst hl0
        exact Slc.nilA _ _ _
      · have hsp : a.spot = none := by
          have h2 := (hcell 0 (by omega)).2 0 hpos
          have h3 : 0 < (G 0).length := by rw [(hcell 0 (by omega)).1]; exact hpos
          rw [List.getElem?_eq_getElem h3] at h2
          unfold World.cell? at h2
          split at h2
          · split at h2
            · cases h2
            · rename_i hs
              have hz : a.add (0 * P.cellsOf e + 0) = a := by rw [Nat.zero_mul]; unfold Addr.add; simp
              rw [hz] at hs
              cases hsp : a.spot with
              | none => rfl
              | some s => rw [hsp] at hs; simp at hs
          · cases h2
        obtain ⟨b, off, s⟩ := a
        change s = none at hsp
        subst hsp
        refine ⟨.inr ⟨b, off, m, by rw [hlen], by rw [hlen]; exact hl⟩, fun j c hj k u hk => ?_, hlens, by rw [hlen]; omega⟩
        rw [List.getElem?_map] at hj
        have hjl : j < len := by
          by_cases hjl : j < len
          · exact hjl
          · rw [List.getElem?_eq_none (by simp; omega)] at hj; cases hj
        rw [List.getElem?_range hjl] at hj
        cases hj
        have hkl := (List.getElem?_eq_some_iff.1 hk).1
        rw [(hcell j (by omega)).1] at hkl
        have h2 := (hcell j (by omega)).2 k hkl
        rw [hk, add_none] at h2
        rw [hp_cell]
        simp only [slcB, slcO]
        rw [Nat.add_assoc]
        exact h2
    · obtain ⟨i, hi, rfl⟩ := List.mem_map.1 hc
      exact ⟨n', _, (hG i (by have := List.mem_range.1 hi; omega)).2⟩
theorem tr_ints {k : IntKind} {xss : List (List Value)} {sz : Nat} (ht : P.underlying t = some (.int k)) (hs : Slc (World.hp W) 1 v xss) (h : ∀ c ∈ xss, Tr enc P W t c) : ∃ zs : List Int, xss = zs.map (fun z => [.int k z]) ∧ ∀ z ∈ zs, (Lit.int k z).wf = true := by
  have key : ∀ (l : List (List Value)), (∀ c ∈ l, c.length = 1 ∧ Tr enc P W t c) → ∃ zs : List Int, l = zs.map (fun z => [.int k z]) ∧ ∀ z ∈ zs, (Lit.int k z).wf = true := by
    intro l
    induction l with
    | nil => exact fun _ => ⟨[], rfl, fun z hz => by cases hz⟩
    | cons c l ih =>
      intro hl
      obtain ⟨zs, h1, h2⟩ := ih fun c hc => hl c (List.mem_cons_of_mem _ hc)
      obtain ⟨h3, h4⟩ := hl c List.mem_cons_self
      match c, h3 with
      | [x], _ =>
        obtain ⟨z, rfl, h5⟩ := tr_int ht h4
        exact ⟨z :: zs, by rw [h1]; rfl, fun y hy => by
          rcases List.mem_cons.1 hy with rfl | hy
          · exact h5
          · exact h2 y hy⟩
  exact key xss fun c hc => ⟨hs.lens c hc, h c hc⟩
theorem rows_map {α : Type} {f : α → List Value} {p : α → Prop} {xss : List (List Value)} (h : ∀ c ∈ xss, ∃ a, c = f a ∧ p a) : ∃ zs : List α, xss = zs.map f ∧ ∀ a ∈ zs, p a := by
  induction xss with
  | nil => exact ⟨[], rfl, fun a h => by cases h⟩
  | cons c l ih =>
    obtain ⟨zs, h1, h2⟩ := ih fun c hc => h c (List.mem_cons_of_mem _ hc)
    obtain ⟨a, ha, hp⟩ := h c List.mem_cons_self
    exact ⟨a :: zs, by rw [ha, h1]; rfl, fun b hb => by
      rcases List.mem_cons.1 hb with rfl | hb
      · exact hp
      · exact h2 b hb⟩
end
end Go.Tw
namespace Go.Tw
open Go Go.RowKit Go.ChangeShapes Go.WideShapes Go.ChangeAt Go.Deep
def TrB {H : Type} (enc : TypeId × Value → H) (P : Program) (W : World) (t : TypeId) (cs : List Value) : Prop := ∃ n x, DataW.trod enc P W 0 (fun _ => true) true n t cs = some x ∧ ∀ k ∈ x.1.weights P t, k ≤ reachBytes
section
variable {base : Nat} {H : Type} {enc : TypeId × Value → H} {P : Program} {W : World} {t e : TypeId} {v : Value} {cs : List Value} {d : DataW H} {ps : List MemPlace}
theorem TrB.tr (h : TrB enc P W t cs) : Tr enc P W t cs := by
  obtain ⟨n, x, h, _⟩ := h
  exact ⟨n, x, h⟩
theorem each_mem {ts : List TypeId} {ds : List (DataW H)} {i : Nat} {k : Nat} (h1 : ts[i]? = some t) (h2 : ds[i]? = some d) (h : k ∈ d.weights P t) : k ∈ DataW.weightsEach P ts ds := by
  induction ts generalizing ds i with
  | nil => cases h1
  | cons a ts ih =>
    cases ds with
    | nil => cases h2
    | cons b ds =>
      unfold DataW.weightsEach
      cases i with
      | zero => cases h1; cases h2; exact List.mem_append_left _ h
      | succ i => exact List.mem_append_right _ (ih h1 h2)
theorem all_mem {ds : List (DataW H)} {k : Nat} (h2 : d ∈ ds) (h : k ∈ d.weights P e) : k ∈ DataW.weightsAll P e ds := by
  induction ds with
  | nil => cases h2
  | cons b ds ih =>
    unfold DataW.weightsAll
    rcases List.mem_cons.1 h2 with rfl | h2
    · exact List.mem_append_left _ h
    · exact List.mem_append_right _ (ih h2)
theorem trB_of_struct {fs : Array Field} (ht : P.underlying t = some (.struct fs)) (hval : Value.okWide P W .any base t v) (h : DataW.Trod enc P W 0 (fun _ => true) true t v d ps) (hw : ∀ k ∈ d.weights P t, k ≤ reachBytes) : ∃ cs : List Value, v = .agg cs.toArray ∧ TrB enc P W t cs := by
  obtain ⟨cs, rfl, _⟩ := okWide_struct ht hval
  obtain ⟨n, h⟩ := h
  exact ⟨cs.toList, by simp, n, _, h, hw⟩
theorem trB_struct {fs : Array Field} (ht : P.underlying t = some (.struct fs)) (h : TrB enc P W t cs) : cs.length = P.cellsOf t ∧ ∀ (i : Nat) (f : Field), fs[i]? = some f → TrB enc P W f.type ((cs.drop f.offset).take (P.cellsOf f.type)) := by
  obtain ⟨n, x, h, hw⟩ := h
  obtain ⟨xs, m, _, rfl, hl, hx, hf⟩ := DataW.trod_struct ht h
  refine ⟨hl, fun i f hi => ?_⟩
  have h1 := hf i f hi
  have hlt : i < xs.length := by rw [hx]; exact (Array.getElem?_eq_some_iff.1 hi).1
  rw [List.getElem?_eq_getElem hlt] at h1
  refine ⟨m, _, h1, fun k hk => hw k ?_⟩
  unfold DataW.weights
  simp only [ht]
  refine each_mem (i := i) (t := f.type) (d := xs[i].1) ?_ ?_ hk
  · rw [List.getElem?_map, Array.getElem?_toList, hi]; rfl
  · rw [List.getElem?_map, List.getElem?_eq_getElem hlt]; rfl
theorem trB_rows {sz : Nat} (ht : P.underlying t = some (.slice e)) (hsz : P.cellsOf e = sz) (hpos : 0 < sz) (h : TrB enc P W t [v]) : ∃ xss : List (List Value), Slc (World.hp W) sz v xss ∧ (∀ c ∈ xss, TrB enc P W e c) ∧ xss.length * P.bytesOf e ≤ reachBytes := by
  obtain ⟨n, x, h, hw⟩ := h
  rcases open_slice ht h with ⟨h1, _⟩ | ⟨a, len, cap, m, n', D, Pl, h1, hb, hl, hc, hm, hxx, hx⟩
  · obtain rfl := (List.cons.inj h1).1
    exact ⟨[], Slc.nil _ _, (fun c hc => by cases hc), by simp⟩
  · obtain rfl := (List.cons.inj h1).1
    subst hsz
    simp only [if_true] at hm
    subst hm
    subst hxx
    unfold DataW.weights at hw
    simp only [ht] at hw
    obtain ⟨G, hG⟩ := choose_lt (α := List Value) (p := fun i cs' => W.cells? 0 (a.add (i * P.cellsOf e)) (P.cellsOf e) = some cs' ∧ DataW.trod enc P W 0 (fun _ => true) true n' e cs' = some (D i, Pl i)) hx
    have hcell : ∀ i, i < m → (G i).length = P.cellsOf e ∧ ∀ k, k < P.cellsOf e → W.cell? (a.add (i * P.cellsOf e + k)) = (G i)[k]? := fun i hi => by
      obtain ⟨h2, h3, h4⟩ := World.cells?_some (hG i hi).1
      refine ⟨h3, fun k hk => ?_⟩
      rw [← h4 k hk, add_add]
    refine ⟨(List.range len).map G, ?_, fun c hc => ?_, ?_⟩
    · have hlen : ((List.range len).map G).length = len := by simp
      have hlens : ∀ c ∈ (List.range len).map G, c.length = P.cellsOf e := fun c hc => by
        obtain ⟨i, hi, rfl⟩ := List.mem_map.1 hc
        exact (hcell i (by have := List.mem_range.1 hi; omega)).1
      by_cases h0 : m = 0
      · have hl0 : len = 0 := by omega
        subst h0
        subst hl0
        exact Slc.nilA _ _ _
      · have hsp : a.spot = none := by
          have h2 := (hcell 0 (by omega)).2 0 hpos
          have h3 : 0 < (G 0).length := by rw [(hcell 0 (by omega)).1]; exact hpos
          rw [List.getElem?_eq_getElem h3] at h2
          unfold World.cell? at h2
          split at h2
          · split at h2
            · cases h2
            · rename_i hs
              have hz : a.add (0 * P.cellsOf e + 0) = a := by rw [Nat.zero_mul]; unfold Addr.add; simp
              rw [hz] at hs
              cases hsp : a.spot with
              | none => rfl
              | some s => rw [hsp] at hs; simp at hs
          · cases h2
        obtain ⟨b, off, s⟩ := a
        change s = none at hsp
        subst hsp
        refine ⟨.inr ⟨b, off, m, by rw [hlen], by rw [hlen]; exact hl⟩, fun j c hj k u hk => ?_, hlens, by rw [hlen]; omega⟩
        rw [List.getElem?_map] at hj
        have hjl : j < len := by
          by_cases hjl : j < len
          · exact hjl
          · rw [List.getElem?_eq_none (by simp; omega)] at hj; cases hj
        rw [List.getElem?_range hjl] at hj
        cases hj
        have hkl := (List.getElem?_eq_some_iff.1 hk).1
        rw [(hcell j (by omega)).1] at hkl
        have h2 := (hcell j (by omega)).2 k hkl
        rw [hk, add_none] at h2
        rw [hp_cell]
        simp only [slcB, slcO]
        rw [Nat.add_assoc]
        exact h2
    · obtain ⟨i, hi, rfl⟩ := List.mem_map.1 hc
      have hil := List.mem_range.1 hi
      refine ⟨n', _, (hG i (by omega)).2, fun k hk => hw k (List.mem_cons_of_mem _ (List.mem_append_left _ ?_))⟩;exact all_mem (List.mem_map.2 ⟨i, hi, rfl⟩) hk
    · have h9 := hw _ List.mem_cons_self
      refine Nat.le_trans (Nat.mul_le_mul_right _ ?_) h9
      simp
end
end Go.Tw
namespace Go.Proofs.YtmgpifkekofacaaGreatDoor
open Go Go.Tw Go.ChangeShapes Go.WideShapes Go.ChangeAt
set_option maxRecDepth 100000
section
variable {base : Nat} {H : Type} {enc : TypeId × Value → H} {W : World} {v : Value} {cs : List Value} {d : DataW H} {ps : List MemPlace}
theorem ce_int : Tryz.prog.cellsOf 3 = 1 := by kernel_rfl
theorem ce_bool : Tryz.prog.cellsOf 4 = 1 := by kernel_rfl
theorem ce_str : Tryz.prog.cellsOf 9 = 1 := by kernel_rfl
theorem ce_u32 : Tryz.prog.cellsOf 101 = 1 := by kernel_rfl
theorem ce_u32s : Tryz.prog.cellsOf 40 = 1 := by kernel_rfl
theorem ce_rat : Tryz.prog.cellsOf 42 = 3 := by kernel_rfl
theorem ce_node : Tryz.prog.cellsOf 44 = 8 := by kernel_rfl
theorem ce_let : Tryz.prog.cellsOf 46 = 2 := by kernel_rfl
theorem ce_prog : Tryz.prog.cellsOf 27 = 4 := by kernel_rfl
theorem ce_strs : Tryz.prog.cellsOf 23 = 1 := by kernel_rfl
theorem ce_lets : Tryz.prog.cellsOf 24 = 1 := by kernel_rfl
theorem ce_nodes : Tryz.prog.cellsOf 25 = 1 := by kernel_rfl
theorem of2 {l : List Value} (h : l.length = 2) : ∃ a b, l = [a, b] := by
  match l, h with
  | [a, b], _ => exact ⟨a, b, rfl⟩
theorem of3 {l : List Value} (h : l.length = 3) : ∃ a b c, l = [a, b, c] := by
  match l, h with
  | [a, b, c], _ => exact ⟨a, b, c, rfl⟩
theorem of4 {l : List Value} (h : l.length = 4) : ∃ a b c d, l = [a, b, c, d] := by
  match l, h with
  | [a, b, c, d], _ => exact ⟨a, b, c, d, rfl⟩
theorem of8 {l : List Value} (h : l.length = 8) : ∃ a b c d e f g i, l = [a, b, c, d, e, f, g, i] := by
  match l, h with
  | [a, b, c, d, e, f, g, i], _ => exact ⟨a, b, c, d, e, f, g, i, rfl⟩
theorem tr_let (h : Tr enc Tryz.prog W 46 cs) : ∃ o : LetC, cs = o.cells ∧ True := by
  obtain ⟨h1, h2⟩ := tr_struct Tryz.underlying46 h
  obtain ⟨a, b, rfl⟩ := of2 (by rw [h1]; exact ce_let)
  have k0 := h2 0 _ rfl
  have k1 := h2 1 _ rfl
  change Tr enc Tryz.prog W 9 (List.take (Tryz.prog.cellsOf 9) [a, b]) at k0
  change Tr enc Tryz.prog W 3 (List.take (Tryz.prog.cellsOf 3) [b]) at k1
  rw [ce_str] at k0
  rw [ce_int] at k1
  obtain ⟨s, rfl, _⟩ := tr_string Tryz.underlying9 k0
  obtain ⟨z, rfl, _⟩ := tr_int Tryz.underlying3 k1
  exact ⟨⟨s, z⟩, rfl, trivial⟩
theorem tr_strs (h : Tr enc Tryz.prog W 23 [v]) : ∃ l : List ByteArray, Slc (World.hp W) 1 v (scs l) := by
  obtain ⟨xss, s1, s2⟩ := tr_rows (sz := 1) Tryz.underlying23 ce_str (by decide) h
  obtain ⟨zs, rfl, _⟩ := rows_map (f := fun s : ByteArray => [Value.string s]) (p := fun _ => True) fun c hc => by
    have hl := s1.lens c hc
    match c, hl with
    | [x], _ =>
      obtain ⟨s, rfl, _⟩ := tr_string Tryz.underlying9 (s2 _ hc)
      exact ⟨s, rfl, trivial⟩
  exact ⟨zs, s1⟩
end
end Go.Proofs.YtmgpifkekofacaaGreatDoor
namespace Go.Proofs.YtmgpifkekofacaaGreatDoor
open Go Go.Tw Go.ChangeShapes Go.WideShapes Go.ChangeAt
set_option maxRecDepth 100000
section
variable {base : Nat} {H : Type} {enc : TypeId × Value → H} {W : World} {v : Value} {cs : List Value} {d : DataW H} {ps : List MemPlace}
theorem by_u32 : Tryz.prog.bytesOf 101 = 4 := by kernel_rfl
theorem trB_wds (h : TrB enc Tryz.prog W 40 [v]) : ∃ O, Ws (World.hp W) v O ∧ O.length ≤ 35184372088400 := by
  obtain ⟨xss, h1, h2, h4⟩ := trB_rows Tryz.underlying40 ce_u32 (by decide) h
  obtain ⟨zs, rfl, h3⟩ := tr_ints (sz := 1) Tryz.underlying101 h1 (fun c hc => (h2 c hc).tr)
  rw [by_u32, List.length_map] at h4
  unfold reachBytes at h4
  refine ⟨zs.map Int.toNat, ⟨?_, fun x hx => ?_⟩, by rw [List.length_map]; omega⟩
  · have e : wcs (zs.map Int.toNat) = zs.map (fun z => [Value.int .u32 z]) := by
      unfold wcs
      rw [List.map_map]
      refine List.map_congr_left fun z hz => ?_
      have := bounds_u32 (h3 z hz)
      show [Value.int .u32 ((z.toNat : Nat) : Int)] = _
      rw [Int.toNat_of_nonneg this.1]
    rw [e]; exact h1
  · obtain ⟨z, hz, rfl⟩ := List.mem_map.1 hx
    have := bounds_u32 (h3 z hz)
    omega
theorem trB_num (h : TrB enc Tryz.prog W 42 cs) : ∃ s n d b c, cs = [.bool s, b, c] ∧ Ws (World.hp W) b n ∧ Ws (World.hp W) c d ∧ n.length ≤ 35184372088400 ∧ d.length ≤ 35184372088400 := by
  obtain ⟨h1, h2⟩ := trB_struct Tryz.underlying42 h
  obtain ⟨a, b, c, rfl⟩ := of3 (by rw [h1]; exact ce_rat)
  have k0 := (h2 0 _ rfl).tr
  have k1 := h2 1 _ rfl
  have k2 := h2 2 _ rfl
  change Tr enc Tryz.prog W 4 (List.take (Tryz.prog.cellsOf 4) [a, b, c]) at k0
  change TrB enc Tryz.prog W 40 (List.take (Tryz.prog.cellsOf 40) [b, c]) at k1
  change TrB enc Tryz.prog W 40 (List.take (Tryz.prog.cellsOf 40) [c]) at k2
  rw [ce_bool] at k0
  rw [ce_u32s] at k1 k2
  obtain ⟨s, rfl⟩ := tr_bool Tryz.underlying4 k0
  obtain ⟨n, hn, hnl⟩ := trB_wds k1
  obtain ⟨dd, hd, hdl⟩ := trB_wds k2
  exact ⟨s, n, dd, b, c, rfl, hn, hd, hnl, hdl⟩
theorem trB_node (h : TrB enc Tryz.prog W 44 cs) : ∃ o : NodeV, cs = o.cells ∧ o.ok (World.hp W) ∧ o.c.few 35184372088400 := by
  obtain ⟨h1, h2⟩ := trB_struct Tryz.underlying44 h
  obtain ⟨a, b, c, d, e, f, g, i, rfl⟩ := of8 (by rw [h1]; exact ce_node)
  have k0 := (h2 0 _ rfl).tr
  have k1 := (h2 1 _ rfl).tr
  have k2 := (h2 2 _ rfl).tr
  have k3 := (h2 3 _ rfl).tr
  have k4 := (h2 4 _ rfl).tr
  have k5 := h2 5 _ rfl
  change Tr enc Tryz.prog W 3 (List.take (Tryz.prog.cellsOf 3) [a, b, c, d, e, f, g, i]) at k0
  change Tr enc Tryz.prog W 3 (List.take (Tryz.prog.cellsOf 3) [b, c, d, e, f, g, i]) at k1
  change Tr enc Tryz.prog W 3 (List.take (Tryz.prog.cellsOf 3) [c, d, e, f, g, i]) at k2
  change Tr enc Tryz.prog W 3 (List.take (Tryz.prog.cellsOf 3) [d, e, f, g, i]) at k3
  change Tr enc Tryz.prog W 9 (List.take (Tryz.prog.cellsOf 9) [e, f, g, i]) at k4
  change TrB enc Tryz.prog W 42 (List.take (Tryz.prog.cellsOf 42) [f, g, i]) at k5
  rw [ce_int] at k0 k1 k2 k3
  rw [ce_str] at k4
  rw [ce_rat] at k5
  obtain ⟨z0, rfl, b0⟩ := tr_int Tryz.underlying3 k0
  obtain ⟨z1, rfl, b1⟩ := tr_int Tryz.underlying3 k1
  obtain ⟨z2, rfl, b2⟩ := tr_int Tryz.underlying3 k2
  obtain ⟨z3, rfl, b3⟩ := tr_int Tryz.underlying3 k3
  obtain ⟨s, rfl, _⟩ := tr_string Tryz.underlying9 k4
  obtain ⟨ng, n, dd, vb, vc, hx, hn, hd, hnl, hdl⟩ := trB_num k5
  obtain ⟨rfl, h5⟩ := List.cons.inj hx
  obtain ⟨rfl, h6⟩ := List.cons.inj h5
  obtain ⟨rfl, _⟩ := List.cons.inj h6
  exact ⟨⟨⟨z0, z1, z2, z3, s, ng, n, dd⟩, g, i⟩, rfl, ⟨hn, hd⟩, hnl, hdl⟩
theorem open_Pb (hval : Value.okWide Tryz.prog W .any base 27 v) (h : DataW.Trod enc Tryz.prog W 0 (fun _ => true) true 27 v d ps) (hw : ∀ k ∈ d.weights Tryz.prog 27, k ≤ reachBytes) : ∃ (p : ProgC) (vi vl vo va : Value) (ns : List NodeV), v = .agg #[vi, vl, vo, va] ∧ ProgV (World.hp W) vi vl vo va p ns ∧ ∀ o ∈ ns, o.c.few 35184372088400 := by
  obtain ⟨cs, rfl, hh⟩ := trB_of_struct Tryz.underlying27 hval h hw
  obtain ⟨h1, h2⟩ := trB_struct Tryz.underlying27 hh
  obtain ⟨a, b, c, e, rfl⟩ := of4 (by rw [h1]; exact ce_prog)
  have k0 := (h2 0 _ rfl).tr
  have k1 := (h2 1 _ rfl).tr
  have k2 := (h2 2 _ rfl).tr
  have k3 := h2 3 _ rfl
  change Tr enc Tryz.prog W 23 (List.take (Tryz.prog.cellsOf 23) [a, b, c, e]) at k0
  change Tr enc Tryz.prog W 24 (List.take (Tryz.prog.cellsOf 24) [b, c, e]) at k1
  change Tr enc Tryz.prog W 23 (List.take (Tryz.prog.cellsOf 23) [c, e]) at k2
  change TrB enc Tryz.prog W 25 (List.take (Tryz.prog.cellsOf 25) [e]) at k3
  rw [ce_strs] at k0 k2
  rw [ce_lets] at k1
  rw [ce_nodes] at k3
  obtain ⟨li, gi⟩ := tr_strs k0
  obtain ⟨lo, go⟩ := tr_strs k2
  obtain ⟨xss, s1, s2⟩ := tr_rows (sz := 2) Tryz.underlying24 ce_let (by decide) k1
  obtain ⟨ls, rfl, _⟩ := rows_map (f := LetC.cells) (p := fun _ => True) fun c hc => tr_let (s2 c hc)
  obtain ⟨yss, u1, u2, _⟩ := trB_rows (sz := 8) Tryz.underlying25 ce_node (by decide) k3
  obtain ⟨ns, rfl, u3⟩ := rows_map (f := NodeV.cells) (p := fun o => o.ok (World.hp W) ∧ o.c.few 35184372088400) fun c hc => trB_node (u2 c hc)
  exact ⟨⟨li, ls, lo, ns.map NodeV.c⟩, a, b, c, e, ns, rfl, ⟨gi, s1, go, u1, fun o ho => (u3 o ho).1, rfl⟩, fun o ho => (u3 o ho).2⟩
end
end Go.Proofs.YtmgpifkekofacaaGreatDoor
