/-
  ScopeChecks, part 3: the texts Tree4, LexPlain2, Tree5, Any, Lex, Lex3, Lex4, Lex5, Read, Read2, Read3, Atoi, Lex2, Law10, Map, Map2, Parse, Tape, Tape2, Value, Value2, Ref1, Ref2, Ref3, Ref4, Ref5, Ref7, Ref8, RefP, Tree6 as one.
-/
import Derived.Test.YtmgpifkekofacaaGreatDoorQScopeChecksB
import Derived.Lib.CutLaws
import Derived.Lib.AtoiAllCases
import Derived.Laws.Entries
import Derived.MapKept
set_option linter.unusedVariables false
set_option linter.unusedSimpArgs false
set_option linter.unnecessarySimpa false
set_option maxHeartbeats 1000000
namespace Go.Tw
open Go
def nameT (x : Tok) : Bool := x.kind == 0 && nameZ x.text
def hdN : List Tok → Bool
  | [] => false
  | x :: _ => nameT x
inductive NOut where
  | bad (r : List Tok)
  | ok (l : List ByteArray) (r : List Tok)
def NOut.cons (s : ByteArray) : NOut → NOut
  | .bad r => .bad r
  | .ok l r => .ok (s :: l) r
def namesZ : List Tok → NOut
  | [] => .bad []
  | [x] => .bad (if nameT x then [] else [x])
  | x :: y :: r => if nameT x then (if isT y 2 commaS then (namesZ r).cons x.text else if isT y 2 semiS then .ok [x.text] r else .bad (y :: r)) else .bad (x :: y :: r)
def NOut.after (l : List ByteArray) : NOut → NOut
  | .bad r => .bad r
  | .ok m r => .ok (l ++ m) r
theorem NOut.after_nil (o : NOut) : o.after [] = o := by cases o <;> rfl
theorem NOut.after_cons (l : List ByteArray) (s : ByteArray) (o : NOut) : (o.cons s).after l = o.after (l ++ [s]) := by
  cases o with
  | bad r => rfl
  | ok m r => show NOut.ok _ _ = NOut.ok _ _; simp
def NOut.fits (n : Nat) : NOut → Prop
  | .bad r => r.length ≤ n
  | .ok l r => r.length + 2 * l.length ≤ n ∧ 1 ≤ l.length
theorem namesZ_len : ∀ (r : List Tok), (namesZ r).fits r.length
  | [] => Nat.le_refl _
  | [x] => by
    unfold namesZ
    split <;> simp [NOut.fits]
  | x :: y :: r => by
    have ih := namesZ_len r
    unfold namesZ
    split
    · split
      · cases h : namesZ r with
        | bad r1 => rw [h] at ih; simp only [NOut.cons, NOut.fits, List.length_cons] at *; omega
        | ok l r1 => rw [h] at ih; simp only [NOut.cons, NOut.fits, List.length_cons] at *; omega
      · split
        · simp only [NOut.fits, List.length_cons, List.length_nil]; omega
        · simp only [NOut.fits, List.length_cons]; omega
    · simp only [NOut.fits, List.length_cons]; omega
theorem namesZ_no {r : List Tok} (h : hdN r = false) : namesZ r = .bad r := by
  match r, h with
  | [], _ => rfl
  | [x], h => simp only [hdN] at h; unfold namesZ; rw [if_neg (by simp [h])]
  | x :: y :: r, h => simp only [hdN] at h; unfold namesZ; rw [if_neg (by simp [h])]
theorem namesZ_comma {x : Tok} {r : List Tok} (h : nameT x = true) (hc : hdT r 2 commaS = true) : namesZ (x :: r) = (namesZ (r.drop 1)).cons x.text := by
  match r, hc with
  | y :: r, hc => simp only [hdT] at hc; rw [namesZ, if_pos h, if_pos hc]; rfl
theorem namesZ_end {x : Tok} {r : List Tok} (h : nameT x = true) (hc : hdT r 2 commaS = false) : namesZ (x :: r) = if hdT r 2 semiS then .ok [x.text] (r.drop 1) else .bad r := by
  match r, hc with
  | [], _ => rw [namesZ, if_pos h]; rfl
  | y :: r, hc =>
    simp only [hdT] at hc
    rw [namesZ, if_pos h, if_neg (by simp [hc])]
    rfl
inductive LO where
  | bad (r : List Tok)
  | ok (name : ByteArray) (all : List NodeC) (r : List Tok)
inductive Lt1 : List NodeC → List Tok → LO → Prop
  | noname {all : List NodeC} {r : List Tok} : hdN r = false → Lt1 all r (.bad r)
  | noeq {all : List NodeC} {x : Tok} {r : List Tok} : nameT x = true → hdT r 2 equalS = false → Lt1 all (x :: r) (.bad r)
  | sumbad {all : List NodeC} {x y : Tok} {r r1 : List Tok} : nameT x = true → isT y 2 equalS = true → Ps .sum all r (.bad r1) → Lt1 all (x :: y :: r) (.bad r1)
  | nosemi {all a1 : List NodeC} {x y : Tok} {r r1 : List Tok} : nameT x = true → isT y 2 equalS = true → Ps .sum all r (.ok a1 r1) → hdT r1 2 semiS = false → Lt1 all (x :: y :: r) (.bad r1)
  | ok {all a1 : List NodeC} {x y z : Tok} {r r1 : List Tok} : nameT x = true → isT y 2 equalS = true → Ps .sum all r (.ok a1 (z :: r1)) → isT z 2 semiS = true → Lt1 all (x :: y :: r) (.ok x.text a1 r1)
inductive LSO where
  | bad (r : List Tok)
  | ok (ls : List LetC) (all : List NodeC) (r : List Tok)
inductive Lts : List LetC → List NodeC → List Tok → LSO → Prop
  | fin {ls : List LetC} {all : List NodeC} {r : List Tok} : hdT r 0 letS = false → Lts ls all r (.ok ls all r)
  | bad {ls : List LetC} {all : List NodeC} {x : Tok} {r r1 : List Tok} : isT x 0 letS = true → Lt1 all r (.bad r1) → Lts ls all (x :: r) (.bad r1)
  | more {ls : List LetC} {all a1 : List NodeC} {x : Tok} {n : ByteArray} {r r1 : List Tok} {o : LSO} : isT x 0 letS = true → Lt1 all r (.ok n a1 r1) → Lts (ls ++ [⟨n, lastI a1⟩]) a1 r1 o → Lts ls all (x :: r) o
inductive PO where
  | bad (r : List Tok)
  | ok (p : ProgC)
inductive Prg : List Tok → PO → Prop
  | noin {r : List Tok} : hdT r 0 inS = false → Prg r (.bad r)
  | insbad {x : Tok} {r r1 : List Tok} : isT x 0 inS = true → namesZ r = .bad r1 → Prg (x :: r) (.bad r1)
  | letsbad {x : Tok} {r r1 r2 : List Tok} {ins : List ByteArray} : isT x 0 inS = true → namesZ r = .ok ins r1 → Lts [] [] r1 (.bad r2) → Prg (x :: r) (.bad r2)
  | noout {x : Tok} {r r1 r2 : List Tok} {ins : List ByteArray} {ls : List LetC} {all : List NodeC} : isT x 0 inS = true → namesZ r = .ok ins r1 → Lts [] [] r1 (.ok ls all r2) → hdT r2 0 outS = false → Prg (x :: r) (.bad r2)
  | outsbad {x y : Tok} {r r1 r2 r3 : List Tok} {ins : List ByteArray} {ls : List LetC} {all : List NodeC} : isT x 0 inS = true → namesZ r = .ok ins r1 → Lts [] [] r1 (.ok ls all (y :: r2)) → isT y 0 outS = true → namesZ r2 = .bad r3 → Prg (x :: r) (.bad r3)
  | tail {x y z : Tok} {r r1 r2 r3 : List Tok} {ins outs : List ByteArray} {ls : List LetC} {all : List NodeC} : isT x 0 inS = true → namesZ r = .ok ins r1 → Lts [] [] r1 (.ok ls all (y :: r2)) → isT y 0 outS = true → namesZ r2 = .ok outs (z :: r3) → Prg (x :: r) (.bad (z :: r3))
  | ok {x y : Tok} {r r1 r2 : List Tok} {ins outs : List ByteArray} {ls : List LetC} {all : List NodeC} : isT x 0 inS = true → namesZ r = .ok ins r1 → Lts [] [] r1 (.ok ls all (y :: r2)) → isT y 0 outS = true → namesZ r2 = .ok outs [] → Prg (x :: r) (.ok ⟨ins, ls, outs, all⟩)
theorem hdT_cons {r : List Tok} {k : Int} {t : ByteArray} (h : hdT r k t = true) : ∃ x r', r = x :: r' ∧ isT x k t = true := by
  cases r with
  | nil => cases h
  | cons x r => exact ⟨x, r, rfl, h⟩
theorem hdN_cons {r : List Tok} (h : hdN r = true) : ∃ x r', r = x :: r' ∧ nameT x = true := by
  cases r with
  | nil => cases h
  | cons x r => exact ⟨x, r, rfl, h⟩
theorem Lt1.some_out (all : List NodeC) (r : List Tok) : ∃ o, Lt1 all r o := by
  cases hn : hdN r with
  | false => exact ⟨_, .noname hn⟩
  | true =>
    obtain ⟨x, r, rfl, hx⟩ := hdN_cons hn
    cases he : hdT r 2 equalS with
    | false => exact ⟨_, .noeq hx he⟩
    | true =>
      obtain ⟨y, r, rfl, hy⟩ := hdT_cons he
      obtain ⟨o, ho⟩ := Ps.sum_out all r
      cases o with
      | bad r1 => exact ⟨_, .sumbad hx hy ho⟩
      | ok a1 r1 =>
        cases hs : hdT r1 2 semiS with
        | false => exact ⟨_, .nosemi hx hy ho hs⟩
        | true =>
          obtain ⟨z, r1, rfl, hz⟩ := hdT_cons hs
          exact ⟨_, .ok hx hy ho hz⟩
theorem Lt1.len {all a1 : List NodeC} {r r1 : List Tok} {n : ByteArray} (h : Lt1 all r (.ok n a1 r1)) : r1.length < r.length := by
  cases h with
  | ok _ _ h1 _ =>
    have := h1.len
    simp only [POut.fits, List.length_cons] at *
    omega
theorem Lts.some_out : ∀ (n : Nat) (ls : List LetC) (all : List NodeC) (r : List Tok), r.length ≤ n → ∃ o, Lts ls all r o := by
  intro n
  induction n with
  | zero =>
    intro ls all r hr
    obtain rfl : r = [] := List.length_eq_zero_iff.1 (by omega)
    exact ⟨_, .fin rfl⟩
  | succ n ih =>
    intro ls all r hr
    cases hl : hdT r 0 letS with
    | false => exact ⟨_, .fin hl⟩
    | true =>
      obtain ⟨x, r, rfl, hx⟩ := hdT_cons hl
      obtain ⟨o, ho⟩ := Lt1.some_out all r
      cases o with
      | bad r1 => exact ⟨_, .bad hx ho⟩
      | ok nm a1 r1 =>
        have hlen := ho.len
        obtain ⟨o, ho2⟩ := ih (ls ++ [⟨nm, lastI a1⟩]) a1 r1 (by simp only [List.length_cons] at hr; omega)
        exact ⟨_, .more hx ho ho2⟩
theorem Prg.some_out (r : List Tok) : ∃ o, Prg r o := by
  cases hi : hdT r 0 inS with
  | false => exact ⟨_, .noin hi⟩
  | true =>
    obtain ⟨x, r, rfl, hx⟩ := hdT_cons hi
    cases hn : namesZ r with
    | bad r1 => exact ⟨_, .insbad hx hn⟩
    | ok ins r1 =>
      obtain ⟨o, ho⟩ := Lts.some_out r1.length [] [] r1 (Nat.le_refl _)
      cases o with
      | bad r2 => exact ⟨_, .letsbad hx hn ho⟩
      | ok ls all r2 =>
        cases hu : hdT r2 0 outS with
        | false => exact ⟨_, .noout hx hn ho hu⟩
        | true =>
          obtain ⟨y, r2, rfl, hy⟩ := hdT_cons hu
          cases hm : namesZ r2 with
          | bad r3 => exact ⟨_, .outsbad hx hn ho hy hm⟩
          | ok outs r3 =>
            cases r3 with
            | nil => exact ⟨_, .ok hx hn ho hy hm⟩
            | cons z r3 => exact ⟨_, .tail hx hn ho hy hm⟩
theorem list_get (s : ByteArray) (i : Nat) (h : i < s.size) : s.data.toList.drop i = s.get! i :: s.data.toList.drop (i + 1) := by
  have h' : i < s.data.toList.length := by rw [Array.length_toList]; exact h
  rw [List.drop_eq_getElem_cons h']
  congr 1
  show _ = s.data[i]!
  have h2 : i < s.data.size := h
  rw [getElem!_pos s.data i h2]
  simp
theorem cutGo_ge (s : ByteArray) : ∀ (f i : Nat), i ≤ s.size → i ≤ cutGo s f i
  | 0, i, h => h
  | f + 1, i, h => by
    simp only [cutGo]
    by_cases h1 : s.size ≤ i
    · rw [if_pos h1]; exact h
    · rw [if_neg h1]
      split
      · exact Nat.le_refl _
      · have := cutGo_ge s f (i + 1) (by omega); omega
theorem index_stroke (s : ByteArray) : ∀ (f i : Nat), i + f = s.size → Lib.index (s.data.toList.drop i) [124] = if cutGo s f i = s.size then -1 else ((cutGo s f i : Int) - i)
  | 0, i, h => by
    have e : s.data.toList.drop i = [] := List.drop_eq_nil_of_le (by rw [Array.length_toList]; show s.size ≤ i; omega)
    rw [e]
    simp only [cutGo, if_true]
    rfl
  | f + 1, i, h => by
    have hi : i < s.size := by omega
    have ih := index_stroke s f (i + 1) (by omega)
    have hle := cutGo_le s f (i + 1)
    rw [list_get s i hi]
    have hstep : cutGo s (f + 1) i = if (s.get! i).toNat = 124 then i else cutGo s f (i + 1) := by
      conv => lhs; simp only [cutGo]
      rw [if_neg (c := s.size ≤ i) (by omega)]
    rw [hstep]
    unfold Lib.index
    by_cases h1 : (s.get! i).toNat = 124
    · have hb : s.get! i = 124 := UInt8.toNat_inj.1 h1
      have hp : (List.isPrefixOf [124] (s.get! i :: s.data.toList.drop (i + 1))) = true := by simp [List.isPrefixOf, hb]
      rw [if_pos h1, if_neg (c := i = s.size) (by omega), if_pos hp]
      omega
    · have hb : ¬ (124 : UInt8) = s.get! i := fun e => h1 (by rw [← e]; rfl)
      have hp : (List.isPrefixOf [124] (s.get! i :: s.data.toList.drop (i + 1))) = false := by simp [List.isPrefixOf, hb]
      rw [if_neg h1, if_neg (by rw [hp]; exact Bool.false_ne_true), ih]
      by_cases h2 : cutGo s f (i + 1) = s.size
      · rw [if_pos h2, if_pos h2]; rfl
      · rw [if_neg h2, if_neg h2]
        have hg : i + 1 ≤ cutGo s f (i + 1) := cutGo_ge s f (i + 1) (by omega)
        rw [if_neg (by rw [beq_iff_eq]; omega)]
        omega
theorem indexB_stroke (s : ByteArray) : Lib.indexB s ⟨#[124]⟩ = if cutZ s = s.size then -1 else (cutZ s : Int) := by
  have h := index_stroke s s.size 0 (by omega)
  rw [List.drop_zero] at h
  show Lib.index s.data.toList [124] = _
  rw [h]
  unfold cutZ
  split <;> omega
theorem cut_stroke (s : ByteArray) : (⟨(Lib.cut s.data.toList (ByteArray.mk #[124]).data.toList).1.toArray⟩ : ByteArray) = s.extract 0 (cutZ s) ∧ (⟨(Lib.cut s.data.toList (ByteArray.mk #[124]).data.toList).2.1.toArray⟩ : ByteArray) = s.extract (cutZ s + 1) s.size ∧ (Lib.cut s.data.toList (ByteArray.mk #[124]).data.toList).2.2 = decide (cutZ s < s.size) := by
  have h := indexB_stroke s
  have hle := cutZ_le s
  by_cases hc : cutZ s = s.size
  · rw [if_pos hc] at h
    obtain ⟨h1, h2, h3⟩ := Lib.cutB_miss s ⟨#[124]⟩ h
    rw [h1, h2, h3, hc]
    refine ⟨?_, ?_, ?_⟩
    · simp
    · rw [ByteArray.extract_eq_empty_iff.2 (by omega)]
    · simp
  · rw [if_neg hc] at h
    obtain ⟨h1, h2, h3⟩ := Lib.cutB_hit s ⟨#[124]⟩ _ h
    rw [h1, h2, h3, decide_eq_true (by omega)]
    exact ⟨rfl, rfl, rfl⟩
theorem rev_ind {α : Type} {motive : List α → Prop} (h0 : motive []) (h1 : ∀ l a, motive l → motive (l ++ [a])) (l : List α) : motive l := by
  have : ∀ m : List α, motive m.reverse := by
    intro m
    induction m with
    | nil => exact h0
    | cons a m ih => rw [List.reverse_cons]; exact h1 _ a ih
  have := this l.reverse
  rwa [List.reverse_reverse] at this
inductive Ex where
  | ref (t : ByteArray)
  | num (q : Rat)
  | neg (x : Ex)
  | pow (x : Ex) (e : Int)
  | bin (k : Int) (x y : Ex)
def Ex.n : Ex → Nat
  | .ref _ => 1
  | .num _ => 1
  | .neg x => x.n + 1
  | .pow x _ => x.n + 1
  | .bin _ x y => x.n + y.n + 1
theorem Ex.n_pos (x : Ex) : 0 < x.n := by cases x <;> simp [Ex.n]
def Ex.nd : Ex → Nat → List NodeC
  | .ref t, _ => [refN t]
  | .num q, _ => [numN q]
  | .neg x, b => x.nd b ++ [negN ((b : Int) + x.n - 1)]
  | .pow x e, b => x.nd b ++ [powN ((b : Int) + x.n - 1) e]
  | .bin k x y, b => x.nd b ++ y.nd (b + x.n) ++ [binN k ((b : Int) + x.n - 1) ((b : Int) + x.n + y.n - 1)]
theorem Ex.nd_len (x : Ex) : ∀ b, (x.nd b).length = x.n := by
  induction x with
  | ref t => intro b; rfl
  | num q => intro b; rfl
  | neg x ih => intro b; simp [Ex.nd, Ex.n, ih]
  | pow x e ih => intro b; simp [Ex.nd, Ex.n, ih]
  | bin k x y ih1 ih2 => intro b; simp [Ex.nd, Ex.n, ih1, ih2, Nat.add_assoc]
def Ex.h : Ex → Nat
  | .ref _ => 1
  | .num _ => 1
  | .neg x => x.h + 1
  | .pow x _ => x.h + 1
  | .bin _ x y => max x.h y.h + 1
def Ex.ok : Ex → Prop
  | .ref t => nameZ t = true
  | .num q => 0 ≤ q.num ∧ (digs q.num.natAbs).length ≤ 40 ∧ (digs q.den).length ≤ 40
  | .neg x => x.ok
  | .pow x e => x.ok ∧ -20 ≤ e ∧ e ≤ 20
  | .bin k x y => 2 ≤ k ∧ k ≤ 5 ∧ x.ok ∧ y.ok
theorem lastI_nd (all : List NodeC) (x : Ex) (b : Nat) : lastI (all ++ x.nd b) = (all.length : Int) + x.n - 1 := by
  unfold lastI; rw [List.length_append, x.nd_len]; omega
def TokOk (t : Tok) : Prop := t.kind = 1 → numZ t.text = true
theorem digit_all {s : ByteArray} : ∀ (f i : Nat), s.size ≤ i + f → i ≤ s.size → runAt isDigit s i = s.size → ∀ j, i ≤ j → j < s.size → 48 ≤ (s.get! j).toNat ∧ (s.get! j).toNat ≤ 57 := by
  intro f
  induction f with
  | zero => intro i h1 h2 _ j h3 h4; omega
  | succ f ih =>
    intro i h1 h2 h j h3 h4
    by_cases hi : i < s.size
    · cases hd : isDigit (kAt s i) with
      | false => rw [runAt_stop hi hd] at h; omega
      | true =>
        have hk : kAt s i = 2 := by simpa [isDigit] using hd
        have h2' := kAt_two hk
        rw [runAt_step hi hd, h2'.1] at h
        by_cases hj : j = i
        · subst hj; exact h2'.2
        · exact ih (i + 1) (by omega) (by omega) h j (by omega) h4
    · omega
theorem partZ_digit {s : ByteArray} (h : partZ s = true) : (∀ j, j < s.size → 48 ≤ (s.get! j).toNat ∧ (s.get! j).toNat ≤ 57) ∧ 1 ≤ s.size ∧ s.size ≤ 40 ∧ (s.size = 1 ∨ (s.get! 0).toNat ≠ 48) := by
  unfold partZ at h
  simp only [Bool.and_eq_true, Bool.or_eq_true, decide_eq_true_eq] at h
  obtain ⟨⟨⟨h1, h2⟩, h3⟩, h4⟩ := h
  exact ⟨fun j hj => digit_all s.size 0 (by omega) (by omega) h3 j (by omega) hj, h1, h2, h4⟩
theorem toList_data (s : ByteArray) : s.toList = s.data.toList := by simp [ByteArray.toList_eq]
theorem get_toList {s : ByteArray} {j : Nat} (hj : j < s.size) : s.toList[j]? = some (s.get! j) := by
  rw [toList_data]
  have := list_get s j hj
  rw [← List.head?_drop, this]; rfl
theorem toList_len (s : ByteArray) : s.toList.length = s.size := by rw [toList_data]; rfl
theorem partZ_mem {s : ByteArray} (h : ∀ j, j < s.size → 48 ≤ (s.get! j).toNat ∧ (s.get! j).toNat ≤ 57) : ∀ b ∈ s.toList, 48 ≤ b.toNat ∧ b.toNat ≤ 57 := by
  intro b hb
  obtain ⟨j, hj, rfl⟩ := List.getElem_of_mem hb
  have hj' : j < s.size := by rw [← toList_len]; exact hj
  have := get_toList hj'
  rw [List.getElem?_eq_getElem hj] at this
  rw [Option.some.inj this]
  exact h j hj'
theorem decN_app (l : List UInt8) (b : UInt8) : decN (l ++ [b]) = 10 * decN l + (b.toNat - 48) := by unfold decN; rw [List.foldl_append]; rfl
theorem decN_lt {l : List UInt8} (h : ∀ b ∈ l, 48 ≤ b.toNat ∧ b.toNat ≤ 57) : decN l < 10 ^ l.length := by
  revert h
  refine rev_ind (motive := fun l => (∀ b ∈ l, 48 ≤ b.toNat ∧ b.toNat ≤ 57) → decN l < 10 ^ l.length) (fun _ => by decide) (fun l b ih h => ?_) l
  have h1 := ih fun x hx => h x (by simp [hx])
  have h2 := h b (by simp)
  rw [decN_app, List.length_append]
  show _ < 10 ^ (l.length + 1)
  rw [Nat.pow_succ]
  omega
theorem digs_ten : ∀ (k n : Nat), n < 10 ^ (k + 1) → (digs n).length ≤ k + 1
  | 0, n, h => by unfold digs; rw [dif_pos (by omega)]; simp
  | k + 1, n, h => by
    unfold digs
    split
    · simp
    · have := digs_ten k (n / 10) (by rw [Nat.pow_succ] at h; omega)
      rw [List.length_cons]; omega
theorem digs_forty {n : Nat} (h : n < 10 ^ 40) : (digs n).length ≤ 40 := digs_ten 39 n h
theorem mkRat_small (n d : Nat) (hd : d ≠ 0) : 0 ≤ (mkRat (n : Int) d).num ∧ (mkRat (n : Int) d).num.natAbs ≤ n ∧ (mkRat (n : Int) d).den ≤ d := by
  by_cases hn : n = 0
  · subst hn
    have e : mkRat ((0 : Nat) : Int) d = 0 := Rat.zero_mkRat d
    rw [e]
    exact ⟨Int.le_refl _, Nat.le_refl _, Nat.pos_of_ne_zero hd⟩
  · obtain ⟨h1, h2, h3⟩ := lowQ_parts (neg := false) hn hd
    have e : lowQ false n d = mkRat (n : Int) d := rfl
    rw [e] at h1 h2 h3
    refine ⟨?_, by rw [h1]; exact Nat.div_le_self _ _, by rw [h2]; exact Nat.div_le_self _ _⟩
    rw [decide_eq_false_iff_not] at h3
    exact Int.not_lt.1 h3
theorem foldl_ge : ∀ (l : List UInt8) (n : Nat), 1 ≤ n → 1 ≤ l.foldl (fun n b => 10 * n + (b.toNat - 48)) n
  | [], n, h => h
  | b :: l, n, h => foldl_ge l (10 * n + (b.toNat - 48)) (by omega)
theorem decN_pos {s : ByteArray} (h : partZ s = true) (h0 : (s.toList == (ByteArray.mk #[48]).toList) = false) : decN s.toList ≠ 0 := by
  obtain ⟨h1, h2, h3, h4⟩ := partZ_digit h
  have hg := get_toList (s := s) (j := 0) (by omega)
  have hl := toList_len s
  have hd := h1 0 (by omega)
  cases ht : s.toList with
  | nil => rw [ht] at hl; simp at hl; omega
  | cons b l =>
    rw [ht] at hg
    have e : b = s.get! 0 := by simpa using hg
    by_cases h48 : (s.get! 0).toNat = 48
    · rcases h4 with h4 | h4
      · rw [ht, h4] at hl
        have : l = [] := List.length_eq_zero_iff.1 (by simpa using hl)
        subst this
        exfalso
        rw [ht, beq_eq_false_iff_ne] at h0
        apply h0
        have : b = 48 := by rw [e]; exact UInt8.toNat_inj.1 h48
        rw [this]; simp [ByteArray.toList_eq]
      · exact absurd h48 h4
    · have := foldl_ge l (10 * 0 + (b.toNat - 48)) (by rw [e]; omega)
      show decN (b :: l) ≠ 0
      unfold decN
      rw [List.foldl_cons]
      omega
theorem cut_full (s : ByteArray) : s.extract 0 s.size = s := by simp
theorem numQ_ok {s : ByteArray} (h : numZ s = true) : 0 ≤ (numQ s).num ∧ (digs (numQ s).num.natAbs).length ≤ 40 ∧ (digs (numQ s).den).length ≤ 40 := by
  have small : ∀ {u : ByteArray}, partZ u = true → decN u.toList < 10 ^ 40 := fun {u} hu => by
    obtain ⟨h1, h2, h3, h4⟩ := partZ_digit hu
    have := decN_lt (partZ_mem h1)
    rw [toList_len] at this
    exact Nat.lt_of_lt_of_le this (Nat.pow_le_pow_right (by decide) h3)
  unfold numZ at h
  unfold numQ
  split at h
  · rename_i hc
    rw [if_pos hc, hc, cut_full]
    obtain ⟨a1, a2, a3⟩ := mkRat_small (decN s.toList) 1 (by decide)
    have hs := small h
    exact ⟨a1, digs_forty (by omega), digs_forty (by omega)⟩
  · rename_i hc
    rw [if_neg hc]
    simp only [Bool.and_eq_true, Bool.not_eq_true'] at h
    obtain ⟨a1, a2, a3⟩ := mkRat_small (decN (s.extract 0 (cutZ s)).toList) (decN (s.extract (cutZ s + 1) s.size).toList) (decN_pos h.1.2 h.2)
    have hs := small h.1.1
    have hs2 := small h.1.2
    exact ⟨a1, digs_forty (by omega), digs_forty (by omega)⟩
theorem expoZ_le {s : ByteArray} {n : Nat} (hs : numZ s = true) (h : expoZ s = some n) : n ≤ 20 := by
  unfold expoZ at h
  split at h
  · rename_i h1
    cases h
    have hp : partZ s = true := by
      unfold numZ at hs
      split at hs
      · exact hs
      · rename_i hc
        simp only [Bool.and_eq_true] at hs
        have hle := cutZ_le s
        obtain ⟨_, h2, _, _⟩ := partZ_digit hs.1.1
        rw [ByteArray.size_extract] at h2
        omega
    have := decN_lt (partZ_mem (partZ_digit hp).1)
    rw [toList_len, h1] at this
    omega
  · split at h
    · rename_i h2
      cases h
      exact h2.2.2
    · cases h
def POut.rest : POut → List Tok
  | .bad r => r
  | .ok _ r => r
theorem Expo.suf {r r1 : List Tok} {e : Option Int} (h : Expo r e r1) : r1 <:+ r := by
  cases h with
  | neg _ _ _ => exact ⟨[_, _], rfl⟩
  | neg_end _ => exact ⟨[_], rfl⟩
  | neg_bad _ _ => exact ⟨[_], rfl⟩
  | pos _ _ _ => exact ⟨[_], rfl⟩
  | pos_end => exact ⟨[], rfl⟩
  | pos_bad _ _ => exact ⟨[], rfl⟩
theorem Ps.suf {lv : Lv} {all : List NodeC} {r : List Tok} {o : POut} (h : Ps lv all r o) : o.rest <:+ r := by
  induction h with
  | par_bad _ _ ih => exact ih.trans (List.suffix_cons _ _)
  | par_ok _ _ _ ih => exact (List.suffix_cons _ _).trans (ih.trans (List.suffix_cons _ _))
  | par_no _ _ _ ih => exact ih.trans (List.suffix_cons _ _)
  | leaf _ => exact List.suffix_cons _ _
  | none => exact List.suffix_refl _
  | no _ _ => exact List.suffix_refl _
  | pow_none _ => exact List.suffix_refl _
  | pow_ok _ h => exact h.suf.trans (List.suffix_cons _ _)
  | pow_bad _ h => exact h.suf.trans (List.suffix_cons _ _)
  | power_bad _ ih => exact ih
  | power_ok _ _ ih1 ih2 => exact ih2.trans ih1
  | neg_bad _ _ ih => exact ih.trans (List.suffix_cons _ _)
  | neg_ok _ _ ih => exact ih.trans (List.suffix_cons _ _)
  | fac _ _ ih => exact ih
  | prodL_end _ => exact List.suffix_refl _
  | prodL_bad _ _ ih => exact ih.trans (List.suffix_cons _ _)
  | prodL_ok _ _ _ ih1 ih2 => exact ih2.trans (ih1.trans (List.suffix_cons _ _))
  | product_bad _ ih => exact ih
  | product_ok _ _ ih1 ih2 => exact ih2.trans ih1
  | sumL_end _ => exact List.suffix_refl _
  | sumL_bad _ _ ih => exact ih.trans (List.suffix_cons _ _)
  | sumL_ok _ _ _ ih1 ih2 => exact ih2.trans (ih1.trans (List.suffix_cons _ _))
  | sum_bad _ ih => exact ih
  | sum_ok _ _ ih1 ih2 => exact ih2.trans ih1
def ToksOk (r : List Tok) : Prop := ∀ t ∈ r, TokOk t
theorem ToksOk.suf {r r1 : List Tok} (h : ToksOk r) (hs : r1 <:+ r) : ToksOk r1 := fun t ht => h t (hs.subset ht)
theorem leaf_ex {x : Tok} (h : leafT x = true) (hx : TokOk x) : ∃ y : Ex, y.ok ∧ y.n = 1 ∧ ∀ b, y.nd b = [leafN x] := by
  unfold leafT at h
  unfold leafN
  by_cases h1 : x.kind = 1
  · rw [if_pos h1]
    exact ⟨.num (numQ x.text), numQ_ok (hx h1), rfl, fun _ => rfl⟩
  · rw [if_neg h1]
    simp [h1] at h
    exact ⟨.ref x.text, h.2, rfl, fun _ => rfl⟩
theorem Expo.le {r r1 : List Tok} {e : Int} (h : Expo r (some e) r1) (hr : ToksOk r) : -20 ≤ e ∧ e ≤ 20 := by
  cases h with
  | neg _ h1 h2 => have := expoZ_le (hr _ (by simp) h1) h2; omega
  | pos _ h1 h2 => have := expoZ_le (hr _ (by simp) h1) h2; omega
def Lv.tail : Lv → Bool
  | .powL => true
  | .prodL => true
  | .sumL => true
  | _ => false
def exOut (lv : Lv) (all a1 : List NodeC) : Prop :=
  if lv.tail then ∀ (b : List NodeC) (x : Ex), x.ok → all = b ++ x.nd b.length → ∃ y : Ex, y.ok ∧ a1 = b ++ y.nd b.length
  else ∃ y : Ex, y.ok ∧ a1 = all ++ y.nd all.length
theorem mulK_le {x : Tok} {k : Int} (h : mulK x = some k) : 2 ≤ k ∧ k ≤ 5 := by have := mulK_ge h; omega
theorem addK_le {x : Tok} {k : Int} (h : addK x = some k) : 2 ≤ k ∧ k ≤ 5 := by have := addK_lt h; omega
theorem Ps.ex {lv : Lv} {all : List NodeC} {r : List Tok} {o : POut} (h : Ps lv all r o) (hr : ToksOk r) : ∀ a1 r1, o = .ok a1 r1 → exOut lv all a1 := by
  have bin_ex : ∀ {k : Int} {all a1 b : List NodeC} {x y : Ex}, 2 ≤ k ∧ k ≤ 5 → x.ok → y.ok → all = b ++ x.nd b.length → a1 = all ++ y.nd all.length → (Ex.bin k x y).ok ∧ a1 ++ [binN k (lastI all) (lastI a1)] = b ++ (Ex.bin k x y).nd b.length := by
    rintro k all a1 b x y hk hx hy rfl rfl;refine ⟨⟨hk.1, hk.2, hx, hy⟩, ?_⟩
    rw [lastI_nd, lastI_nd, List.length_append, x.nd_len, List.append_assoc, List.append_assoc]
    simp only [Ex.nd, List.append_assoc]
    congr 4
  induction h with
  | par_bad _ _ _ => intro _ _ e; cases e
  | par_ok _ _ _ ih =>
    intro _ _ e; cases e
    exact ih (hr.suf (List.suffix_cons _ _)) _ _ rfl
  | par_no _ _ _ _ => intro _ _ e; cases e
  | leaf h =>
    intro _ _ e; cases e
    obtain ⟨y, h1, _, h3⟩ := leaf_ex h (hr _ (by simp))
    exact ⟨y, h1, by rw [h3]⟩
  | none => intro _ _ e; cases e
  | no _ _ => intro _ _ e; cases e
  | pow_none _ =>
    intro _ _ e; cases e
    exact fun b x hx hb => ⟨x, hx, hb⟩
  | pow_ok _ h =>
    intro _ _ e; cases e
    refine fun b x hx hb => ⟨.pow x _, ⟨hx, h.le (hr.suf (List.suffix_cons _ _))⟩, ?_⟩
    rw [hb, lastI_nd, List.append_assoc]; rfl
  | pow_bad _ _ => intro _ _ e; cases e
  | power_bad _ _ => intro _ _ e; cases e
  | power_ok h1 _ ih1 ih2 =>
    intro _ _ e
    obtain ⟨y, hy, e1⟩ := ih1 hr _ _ rfl
    exact ih2 (hr.suf h1.suf) _ _ e _ y hy e1
  | neg_bad _ _ _ => intro _ _ e; cases e
  | neg_ok _ _ ih =>
    intro _ _ e; cases e
    obtain ⟨y, hy, e1⟩ := ih (hr.suf (List.suffix_cons _ _)) _ _ rfl
    refine ⟨.neg y, hy, ?_⟩
    rw [e1, lastI_nd, List.append_assoc]; rfl
  | fac _ _ ih => exact ih hr
  | prodL_end _ =>
    intro _ _ e; cases e
    exact fun b x hx hb => ⟨x, hx, hb⟩
  | prodL_bad _ _ _ => intro _ _ e; cases e
  | prodL_ok hk h1 _ ih1 ih2 =>
    intro _ _ e b x hx hb
    have hr1 := hr.suf (List.suffix_cons _ _)
    obtain ⟨y, hy, e1⟩ := ih1 hr1 _ _ rfl
    obtain ⟨h2, h3⟩ := bin_ex (mulK_le hk) hx hy hb e1
    exact ih2 (hr1.suf h1.suf) _ _ e b _ h2 h3
  | product_bad _ _ => intro _ _ e; cases e
  | product_ok h1 _ ih1 ih2 =>
    intro _ _ e
    obtain ⟨y, hy, e1⟩ := ih1 hr _ _ rfl
    exact ih2 (hr.suf h1.suf) _ _ e _ y hy e1
  | sumL_end _ =>
    intro _ _ e; cases e
    exact fun b x hx hb => ⟨x, hx, hb⟩
  | sumL_bad _ _ _ => intro _ _ e; cases e
  | sumL_ok hk h1 _ ih1 ih2 =>
    intro _ _ e b x hx hb
    have hr1 := hr.suf (List.suffix_cons _ _)
    obtain ⟨y, hy, e1⟩ := ih1 hr1 _ _ rfl
    obtain ⟨h2, h3⟩ := bin_ex (addK_le hk) hx hy hb e1
    exact ih2 (hr1.suf h1.suf) _ _ e b _ h2 h3
  | sum_bad _ _ => intro _ _ e; cases e
  | sum_ok h1 _ ih1 ih2 =>
    intro _ _ e
    obtain ⟨y, hy, e1⟩ := ih1 hr _ _ rfl
    exact ih2 (hr.suf h1.suf) _ _ e _ y hy e1
end Go.Tw
namespace Go.Tw
open Go Go.RowKit
section
variable {P : Program} {Q : Exit → Act → World → Prop} {n : Nat} {D : List Deferred} {E : Env} {S S' : World → Prop} {ops : Array Oper} {rest : List Oper} {d : Nat} {op : Op} {ty : TypeId} {pos : String} {aft : Array Edge} {g : Option (Nat × Bool)} {v : Value} {w0 : World} {X : List Nat} {I I0 : Hp} {B B0 R : List Item}
theorem o_ifaceW {qm : Bool} {t : TypeId} {x : Operand} {u r : Value} (hg : Wants ops E g) (hd : Nat.blt d n = true) (hx : ev E x = some u) (hr : ∀ w, (Instr.makeInterface t u).run P w = .ok r w)
    (k : TL qm P ops Q rest n D ((d, r) :: E) S) : TL qm P ops Q (⟨some d, .makeInterface t x, ty, pos, aft, g⟩ :: rest) n D E S :=
  o_rd hg hd (v := r) (fun a w ha hw d pos aft g => ⟨w, by simp only [execOp, ha.ev hx, Sem.run_bind, hr, Result.andThen_ok]; rfl, rfl⟩) k
theorem o_assert {qm : Bool} {x : Operand} {xT T : TypeId} {u r : Value} (hg : Wants ops E g) (hd : Nat.blt d n = true) (hx : ev E x = some u) (hr : ∀ w, (Instr.typeAssert u xT T true).run P w = .ok r w)
    (k : TL qm P ops Q rest n D ((d, r) :: E) S) : TL qm P ops Q (⟨some d, .typeAssert x xT T true, ty, pos, aft, g⟩ :: rest) n D E S :=
  o_rd hg hd (v := r) (fun a w ha hw d pos aft g => ⟨w, by simp only [execOp, ha.ev hx, Sem.run_bind, hr, Result.andThen_ok]; rfl, rfl⟩) k
theorem o_ifaceS {qm : Bool} {t : TypeId} {x : Operand} {u : Value} (hg : Wants ops E g) (hd : Nat.blt d n = true) (hx : ev E x = some u) (hr : ∀ w, (Instr.makeInterface t u).run P w = .ok (.iface t u) w)
    (k : TL qm P ops Q rest n D ((d, .iface t u) :: E) S) : TL qm P ops Q (⟨some d, .makeInterface t x, ty, pos, aft, g⟩ :: rest) n D E S := o_ifaceW hg hd hx hr k
theorem o_assertY {qm : Bool} {x : Operand} {xT T : TypeId} {u : Value} (hg : Wants ops E g) (hd : Nat.blt d n = true) (hx : ev E x = some (.iface T u)) (hr : ∀ w, (Instr.typeAssert (.iface T u) xT T true).run P w = .ok (.tuple #[u, .bool true]) w)
    (k : TL qm P ops Q rest n D ((d, .tuple #[u, .bool true]) :: E) S) : TL qm P ops Q (⟨some d, .typeAssert x xT T true, ty, pos, aft, g⟩ :: rest) n D E S := o_assert hg hd hx hr k
theorem skips_some {j : Nat} {want : Bool} {d : Nat} {b : Bool} (h1 : dstOf ops j = some d) (h2 : look E d = some (.bool b)) (h3 : (b == !want) = true) : Skips ops E (some (j, want)) := ⟨d, h1, _, h2, fun b' e => by cases e; simpa using h3⟩
theorem o_fork {qm : Bool} {c : Operand} {b : Bool} (hg : Wants ops E g) (hd : Nat.blt d n = true) (hc : ev E c = some (.bool b)) (h1 : b = true → TL qm P ops Q rest n D ((d, .bool true) :: E) S) (h0 : b = false → TL qm P ops Q rest n D ((d, .bool false) :: E) S) :
    TL qm P ops Q (⟨some d, .move c, ty, pos, aft, g⟩ :: rest) n D E S := by
  refine o_rd hg hd (runs_pv (v := .bool b) (by simpa [pv] using hc)) ?_
  cases b
  · exact h0 rfl
  · exact h1 rfl
theorem o_cutRow {x hx : Operand} {t e T : TypeId} {sz nn : Nat} {u : Value} {xs : List Value} {kd : IntKind} {h : Int} {B' : List Item} (hg : Wants ops E g) (hd : Nat.blt d n = true) (hu : P.underlying t = some (.slice e)) (hsz : ∀ w, (sizeOf e).run P w = .ok sz w) (hxv : ev E x = some u) (hh : ev E hx = some (.int kd h))
    (hB : Put B (.row u T sz nn xs) B' (.row (slcCut u 0 h.toNat sz) T sz h.toNat (xs.take (h.toNat * sz)))) (hb : 0 ≤ h ∧ h ≤ nn)
    (k : TL false P ops Q rest n D ((d, slcCut u 0 h.toNat sz) :: E) (St w0 X I B')) : TL false P ops Q (⟨some d, .slice t x none (some hx) none, ty, pos, aft, g⟩ :: rest) n D E (St w0 X I B) := by
  have hel : P.underlying t = some (.slice (P.elem t)) := by rw [hu]; simp [Program.elem, hu]
  have hel2 : P.elem t = e := by simp [Program.elem, hu]
  refine o_op hg hd (v := slcCut u 0 h.toNat sz) (S' := St w0 X I B') (fun a w ha hS d pos aft g => ?_) k
  have hown : w.ownsRow 0 T sz u nn xs := hS.own _ hB.mem
  have hcap : ∃ A cap, u = .slice A nn cap ∧ nn ≤ cap := by
    rcases hown.2 with ⟨rfl, h0⟩ | ⟨gg, cap, cur, rfl, _, _, hc, _⟩
    · subst h0; exact ⟨none, 0, rfl, Nat.le_refl _⟩
    · exact ⟨_, cap, rfl, hc⟩
  obtain ⟨A, cap, hv, hc⟩ := hcap
  have hx' : a.eval x = .slice A nn cap := by rw [ha.ev hxv]; exact hv
  have hr := run_slice_h (P := P) w t A nn cap hel kd h hb.1 (by omega)
  rw [hel2, hsz] at hr
  have hlen : (xs.take (h.toNat * sz)).length = h.toNat * sz := by
    rw [List.length_take, hown.1]
    exact Nat.min_eq_left (Nat.mul_le_mul_right _ (by omega))
  have hnew : w.ownsRow 0 T sz (slcCut u 0 h.toNat sz) h.toNat (xs.take (h.toNat * sz)) := by
    refine ⟨hlen, ?_⟩
    rcases hown.2 with ⟨rfl, h0⟩ | ⟨gg, cap, cur, rfl, q1, q2, q3, q4, q5, q6⟩
    · subst h0
      have e0 : h.toNat = 0 := by omega
      rw [e0]
      exact .inl ⟨rfl, rfl⟩
    · by_cases hcap0 : cap = 0
      · subst hcap0
        have e0 : h.toNat = 0 := by omega
        rw [e0]
        exact .inr ⟨gg, 0, cur, rfl, q1, q2, Nat.le_refl _, q4, q5, by simp⟩
      · refine .inr ⟨gg, cap, cur, ?_, q1, q2, by omega, q4, q5, ?_⟩
        · show sliced (some ⟨gg, 0, none⟩) 0 h.toNat cap sz = _
          unfold sliced
          rw [if_neg hcap0, Option.map_some, add_none]
          simp
        · rw [← q6, List.take_take, Nat.min_eq_left (Nat.mul_le_mul_right _ (by omega))]
  refine ⟨w, ?_, hS.turn hB (But.refl _ _) hnew (fun b hb' => ?_)⟩
  · simp only [execOp, Sem.run_bind, Sem.run_pure, Option.map_none, Option.map_some, hx', ha.ev hh, run_sliceAt_slice w t _ _ _ _ hel, hr, Result.andThen_ok, hv, slcCut]
  · left
    rcases hown.2 with ⟨rfl, h0⟩ | ⟨gg, cap, cur, rfl, _⟩
    · subst h0
      have e0 : h.toNat = 0 := by omega
      rw [e0] at hb'
      exact hb'
    · change (slcCut (.slice (some ⟨gg, 0, none⟩) nn cap) 0 h.toNat sz).ownBlock = some b at hb'
      unfold slcCut sliced at hb'
      dsimp only at hb'
      split at hb'
      · exact hb'
      · rw [Option.map_some, add_none] at hb'; exact hb'
end
end Go.Tw
namespace Go.Proofs.YtmgpifkekofacaaGreatDoor
open Go Go.Tw
def LexOut (r : LexR) (v : Value) (I : Hp) : Prop := ∃ u, v = .tuple #[u, plc (r.line, r.col), .int .i64 r.err] ∧ Slc I 4 u (r.toks.map Tok.cells)
theorem letters_any (k : Int) : PureC Tryz.prog 126 [.int .i64 k] (.bool (isWord k)) := by
  intro w
  refine enter1 _ Tryz.func126 rfl Tryz.ntmps126 rfl ?_ (S := fun w1 => w1 = w) rfl;refine sR ?_;refine oV ?_;refine nS ?_;iterate 2 refine oV ?_
  refine' o_or trivial trivial rfl rfl rfl rfl rfl rfl rfl rfl (fun hb5 => ?_) ?_;rotate_left
  ·
   iterate 2 refine gV hb5 ?_
   refine oN ?_;exact joins rfl
  refine oV ?_;refine nE ?_;refine ret1 rfl rfl ?_;exact fun _ hw => ⟨rfl, hw⟩
theorem digits_any (k : Int) : PureC Tryz.prog 127 [.int .i64 k] (.bool (isDigit k)) := by
  intro w
  refine enter1 _ Tryz.func127 rfl Tryz.ntmps127 rfl ?_ (S := fun w1 => w1 = w) rfl;refine sR ?_;refine oV ?_;refine nS ?_;iterate 3 refine oV ?_
  refine nE ?_;refine ret1 rfl rfl ?_;exact fun _ hw => ⟨rfl, hw⟩
theorem blanks_any (k : Int) : PureC Tryz.prog 67 [.int .i64 k] (.bool (isBlank k)) := by
  intro w
  refine enter1 _ Tryz.func67 rfl Tryz.ntmps67 rfl ?_ (S := fun w1 => w1 = w) rfl;refine sR ?_;refine oV ?_;refine nS ?_;iterate 3 refine oV ?_
  refine nE ?_;refine ret1 rfl rfl ?_;exact fun _ hw => ⟨rfl, hw⟩
theorem run_any (s : ByteArray) (F : FuncId) (p : Int → Bool) {I : Hp} (hF : ∀ k, PureC Tryz.prog F [.int .i64 k] (.bool (p k))) (hcall : ∀ args w, (callFunc F args).run Tryz.prog w = .ok (.enter F args) w) (hs : s.size ≤ 100000) : Fun Tryz.prog 65 [.string s, .func (.func F) #[] #[]] I [] (fun v _ _ => v = .int .i64 (runAt p s 0)) := by
  intro w hw
  refine enter2 _ Tryz.func65 rfl Tryz.ntmps65 rfl ?_ hw;refine sR ?_;refine oV ?_;refine nU ?_;refine oV ?_;refine o_range trivial rfl Tryz.underlying9 rfl (fun b8 => ?_);refine oN (tC (cB ?_));refine c_loop (ι := Nat) [0, 1, 8] (.cons rfl (.cons rfl (.cons rfl .nil))) (fun x => s.size - x) (fun x E0 => E0) (fun x => St w [] I [.box b8 (.stringIter s x)]) (fun x => x ≤ s.size ∧ runAt p s 0 = runAt p s x) (0) (sC rfl (sC rfl (sC rfl sN))) (fun _ h => h) (⟨Nat.zero_le _, rfl⟩) ?_;rintro i ⟨hle, hF'⟩
  try dsimp only
  have hwd := width_pos s i
  refine cS ?_
  rcases Nat.lt_or_ge i s.size with hp | hp
  ·
   refine cR ?_;refine o_next trivial rfl rfl (by repeat constructor) hp ?_;refine oV ?_;refine oN (tC (cS ?_));refine c_cond_t rfl rfl ?_;refine cK (tC (cB (sR ?_)));iterate 4 refine oV ?_
   refine nS ?_;iterate 2 refine oV ?_
   refine oP trivial rfl Tryz.call59 rfl (kind_any _) ?_;refine o_callPT trivial rfl rfl hcall rfl rfl (hF _) ?_;refine oV ?_;refine nT ?_;refine cC rfl (fun h2 => ?_) (fun h2 => ?_)
   ·
    have f2 := h2;try simp only [bl] at f2
    refine sR ?_;iterate 2 refine oV ?_
    refine oN (tC (cT (blk_r (tR (blk_r (tR ?_))))));refine ret1 rfl rfl ?_;refine leaf0 ?_; rw [hF', runAt_stop hp f2]; rfl
   have f2 := h2;try simp only [bl] at f2
   refine cK (blk_n ?_)
   have hwi := width_in s i hp; exact again _ (sC rfl (sC rfl (sC rfl sN))) (fun _ h => h) (by show s.size - (i + (Utf8.decode s i).2) < s.size - i; omega) ⟨hwi, hF'.trans (runAt_step hp f2)⟩
  refine cR ?_;refine o_nextEnd trivial rfl rfl (by repeat constructor) hp ?_;refine oV ?_;refine oN (tC (cS ?_));refine c_cond_f rfl rfl ?_;refine c_exit (then_x (then_x (blk_eq rfl (tC (sR ?_)))));refine oV ?_;refine o_lenS trivial rfl Tryz.underlying9 rfl ?_;refine oV ?_;refine nE ?_;refine ret1 rfl rfl ?_;refine leaf0 ?_; rw [hF', runAt_end hp]
abbrev rdr (b : Nat) (s : ByteArray) (i : Nat) : Tw.Item := .box b (.cells #[.string s, .int .i64 (i : Int)] 104 (0, 0))
theorem rest_any (b : Nat) (s : ByteArray) (i : Nat) {I : Hp} (hi : i ≤ s.size) : Fun Tryz.prog 66 [.pointer (some ⟨b, 0, none⟩)] I [rdr b s i] (fun v I' B => v = .string (s.extract i s.size) ∧ B = [rdr b s i] ∧ I = I') := by
  unfold rdr
  intro w hw
  refine enter1 _ Tryz.func66 rfl Tryz.ntmps66 rfl ?_ hw;refine sR ?_;refine oV ?_;refine oN (tC (cS ?_));refine c_quiet (by kernel_rfl) (by kernel_rfl) (fun _ h => h.drawn) ?_;iterate 2 refine oV ?_
  refine oF 0 Tryz.underlying104 Tryz.sizeOf9 ?_;refine oL Tryz.isAgg9 ?_;iterate 2 refine oV ?_
  refine oF 1 Tryz.underlying104 Tryz.sizeOf3 ?_;refine oL Tryz.isAgg3 ?_;refine o_sliceS1 trivial rfl Tryz.underlying9 rfl rfl (by omega) ?_;refine oV ?_;refine nE ?_;refine ret1 rfl rfl ?_;refine leaf (Ext.refl _ _) (List.Sublist.refl _) ⟨?_, rfl, rfl⟩; rw [Int.toNat_natCast]
theorem take_any (b : Nat) (s : ByteArray) (i : Nat) (n : Int) {I : Hp} (hi : 0 ≤ n ∧ i + n ≤ s.size) (hs : s.size ≤ 100000) : Fun Tryz.prog 64 [.pointer (some ⟨b, 0, none⟩), .int .i64 n] I [rdr b s i] (fun v I' B => v = .string (s.extract i (i + n.toNat)) ∧ B = [rdr b s (i + n.toNat)] ∧ I = I') := by
  intro w hw
  refine enter2 _ Tryz.func64 rfl Tryz.ntmps64 rfl ?_ hw;refine sR ?_;refine oV ?_;refine nS ?_;refine oV ?_;refine oC trivial rfl Tryz.call66 rfl (rest_any b s i (by omega)) (by repeat constructor) ?_;rintro _ _ _ hx1 ⟨rfl, rfl, rfl⟩;refine oV ?_;refine o_sliceS2 trivial rfl Tryz.underlying9 rfl rfl (by simp; omega) ?_;refine oV ?_;refine nS ?_;iterate 2 refine oV ?_
  refine oF 1 Tryz.underlying104 Tryz.sizeOf3 ?_;refine oL Tryz.isAgg3 ?_;refine oV ?_
  first | (refine o_add trivial rfl rfl rfl ?_ ?_; (omega)) | refine oV ?_
  refine oV ?_;refine oF 1 Tryz.underlying104 Tryz.sizeOf3 ?_;refine oS Tryz.sizeOf3 ?_;refine nS ?_;iterate 2 refine oV ?_
  refine nE ?_;refine ret1 rfl rfl ?_;refine leaf (Ext.refl _ _) (List.Sublist.refl _) ⟨?_, ?_, rfl⟩
  · show Value.string _ = _
    rw [ByteArray.extract_extract, Nat.add_zero, Nat.min_eq_left (by omega)]
  · unfold rdr
    rw [show ((i + n.toNat : Nat) : Int) = i + n by omega]
    rfl
def rdTok (s : ByteArray) (i : Nat) : Value := .tuple #[.agg #[.int .i64 (tokZ s i).kind, .string (tokZ s i).text, .int .i64 0, .int .i64 0], .int .i64 (tokZ s i).err]
theorem word_any (b : Nat) (s : ByteArray) (i : Nat) {I : Hp} (hi : i < s.size) (hk : kAt s i = 1) (hs : s.size ≤ 60000) : Fun Tryz.prog 96 [.pointer (some ⟨b, 0, none⟩)] I [rdr b s i] (fun v I' B => v = rdTok s i ∧ B = [rdr b s (runAt isWord s i)] ∧ I = I') := by
  have ht := runAt_tail isWord s i (by omega)
  have hge := runAt_ge isWord s i (by omega)
  have hle := runAt_le isWord s i (by omega)
  have hsz : (s.extract i (runAt isWord s i)).size = runAt isWord s i - i := by simp; omega
  have e : i + (((runAt isWord (s.extract i s.size) 0 : Nat) : Int)).toNat = runAt isWord s i := by rw [Int.toNat_natCast]; omega
  intro w hw
  refine enter1 _ Tryz.func96 rfl Tryz.ntmps96 rfl ?_ hw;refine sR ?_;refine o_alloc trivial rfl Tryz.zeroValue68 rfl (fun b2 => ?_);refine oV ?_;refine nS ?_;iterate 2 refine oV ?_
  refine oC trivial rfl Tryz.call66 rfl (rest_any b s i (by omega)) (by repeat constructor) ?_;rintro _ _ _ hxr ⟨rfl, rfl, rfl⟩;refine oQ Tryz.call65 rfl (by first | exact run_any _ _ isWord letters_any Tryz.call126 (by first | omega | (simp; omega)) | exact run_any _ _ isDigit digits_any Tryz.call127 (by first | omega | (simp; omega)) | exact run_any _ _ isBlank blanks_any Tryz.call67 (by first | omega | (simp; omega))) ?_;refine oC trivial rfl Tryz.call64 rfl (take_any b s i ((runAt isWord (s.extract i s.size) 0 : Nat) : Int) (by omega) (by omega)) (by repeat constructor) ?_;rintro _ _ _ hxt ⟨rfl, rfl, rfl⟩;refine oV ?_;refine oN (tC (cS (cS ?_)))
  rw [e]
  refine cR ?_;refine oV ?_;refine o_lenS trivial rfl Tryz.underlying9 rfl ?_;refine oV ?_;refine nT ?_;refine cC rfl (fun h1 => ?_) (fun h1 => ?_)
  ·
   have f1 := h1;try simp only [bl] at f1
   refine sR ?_;refine o_buildS trivial rfl (bld68) rfl .nil ?_;refine oS Tryz.sizeOf68 ?_;refine oV ?_;refine nF ?_;refine retR rfl (.agg Tryz.isAgg68 Tryz.sizeOf68 rfl (by repeat constructor) rfl (.tmp rfl .nil)) ?_;refine leaf (Ext.refl _ _) (.cons_cons _ (List.nil_sublist _)) ⟨?_, rfl, rfl⟩; unfold rdTok tokZ; rw [if_pos hk, if_pos (by omega)]; rfl
  have f1 := h1;try simp only [bl] at f1
  refine kS ?_;refine oV ?_;refine o_buildS trivial rfl (bld68) rfl (.cons rfl rfl rfl (by repeat constructor) (.cons rfl rfl rfl (by repeat constructor) .nil)) ?_;refine oS Tryz.sizeOf68 ?_;refine oV ?_;refine nE ?_;refine retR rfl (.agg Tryz.isAgg68 Tryz.sizeOf68 rfl (by repeat constructor) rfl (.tmp rfl .nil)) ?_;refine leaf (Ext.refl _ _) (.cons_cons _ (List.nil_sublist _)) ⟨?_, rfl, rfl⟩; unfold rdTok tokZ; rw [if_pos hk, if_neg (by omega)]; rfl
theorem mark_any (b : Nat) (s : ByteArray) (i : Nat) {I : Hp} (hi : i < s.size) (hk : kAt s i = 4) (hs : s.size ≤ 60000) : Fun Tryz.prog 98 [.pointer (some ⟨b, 0, none⟩)] I [rdr b s i] (fun v I' B => v = rdTok s i ∧ B = [rdr b s (i + 1)] ∧ I = I') := by
  have h1 := kAt_four hk
  intro w hw
  refine enter1 _ Tryz.func98 rfl Tryz.ntmps98 rfl ?_ hw;refine sR ?_;refine o_alloc trivial rfl Tryz.zeroValue68 rfl (fun b2 => ?_);refine oV ?_;refine nS ?_;refine oV ?_;refine oC trivial rfl Tryz.call64 rfl (take_any b s i 1 (by omega) (by omega)) (by repeat constructor) ?_;rintro _ _ _ hxt ⟨rfl, rfl, rfl⟩;refine o_buildS trivial rfl (bld68) rfl (.cons rfl rfl rfl (by repeat constructor) (.cons rfl rfl rfl (by repeat constructor) .nil)) ?_;refine oS Tryz.sizeOf68 ?_;refine oV ?_;refine nE ?_;refine retR rfl (.agg Tryz.isAgg68 Tryz.sizeOf68 rfl (by repeat constructor) rfl (.tmp rfl .nil)) ?_;refine leaf (Ext.refl _ _) (.cons_cons _ (List.nil_sublist _)) ⟨?_, rfl, rfl⟩; unfold rdTok tokZ; rw [if_neg (by omega), if_neg (by omega), if_pos hk, h1]; rfl
theorem other_any (b : Nat) (s : ByteArray) (i : Nat) {I : Hp} (hi : i < s.size) (h1 : kAt s i ≠ 1) (h2 : kAt s i ≠ 2) (h4 : kAt s i ≠ 4) : Fun Tryz.prog 99 [.pointer (some ⟨b, 0, none⟩)] I [rdr b s i] (fun v I' B => v = rdTok s i ∧ B = [rdr b s i] ∧ I = I') := by
  intro w hw
  refine enter1 _ Tryz.func99 rfl Tryz.ntmps99 rfl ?_ hw;refine sR ?_;refine o_alloc trivial rfl Tryz.zeroValue68 rfl (fun b2 => ?_);refine oV ?_;refine nS ?_;refine o_buildS trivial rfl (bld68) rfl .nil ?_;refine oS Tryz.sizeOf68 ?_;refine oV ?_;refine nE ?_;refine retR rfl (.agg Tryz.isAgg68 Tryz.sizeOf68 rfl (by repeat constructor) rfl (.tmp rfl .nil)) ?_;refine leaf (Ext.refl _ _) (.cons _ (.cons_cons _ (List.nil_sublist _))) ⟨?_, rfl, rfl⟩; unfold rdTok tokZ; rw [if_neg h1, if_neg h2, if_neg h4]; rfl
theorem part_any (s : ByteArray) {I : Hp} (hs : s.size ≤ 60000) : Fun Tryz.prog 153 [.string s] I [] (fun v _ _ => v = .bool (partZ s)) := by
  intro w hw
  refine enter1 _ Tryz.func153 rfl Tryz.ntmps153 rfl ?_ hw;refine sR ?_;refine oV ?_;refine nS ?_;iterate 2 refine oV ?_
  refine' o_and trivial trivial rfl rfl rfl rfl rfl rfl rfl rfl (fun hb5 => ?_) ?_;rotate_left
  ·
   have fb5 := hb5
   try simp only [bl] at fb5
   refine gV hb5 ?_;refine o_lenS (wS rfl rfl hb5) rfl Tryz.underlying9 rfl ?_;refine gV hb5 ?_;refine oN ?_;exact joins rfl
  refine' o_and trivial trivial rfl rfl rfl rfl rfl rfl rfl rfl (fun hb10 => ?_) ?_;rotate_left
  ·
   have fb10 := hb10
   try simp only [bl] at fb10
   refine gV hb10 ?_;refine o_callQ (wS rfl rfl hb10) rfl Tryz.call65 rfl (by first | exact run_any _ _ isWord letters_any Tryz.call126 (by first | omega | (simp; omega)) | exact run_any _ _ isDigit digits_any Tryz.call127 (by first | omega | (simp; omega)) | exact run_any _ _ isBlank blanks_any Tryz.call67 (by first | omega | (simp; omega))) ?_;refine gV hb10 ?_;refine o_lenS (wS rfl rfl hb10) rfl Tryz.underlying9 rfl ?_;refine gV hb10 ?_;refine oN ?_;exact joins rfl
  refine' o_and trivial trivial rfl rfl rfl rfl rfl rfl rfl rfl (fun hb17 => ?_) ?_;rotate_left
  ·
   have fb17 := hb17
   try simp only [bl] at fb17
   refine gV hb17 ?_;refine o_idxS (wS rfl rfl hb17) rfl Tryz.underlying9 rfl rfl (by have hn := mt nil_eq.2 fb17.1.1; omega) ?_;refine gV hb17 ?_;refine' o_or (wS rfl rfl hb17) (wS rfl rfl hb17) rfl rfl rfl rfl rfl rfl rfl rfl (fun hb21 => ?_) ?_;rotate_left
   ·
    have fb21 := hb21
    try simp only [bl] at fb21
    refine gV hb21 ?_;refine o_lenS (wS rfl rfl hb21) rfl Tryz.underlying9 rfl ?_;refine gV hb21 ?_;refine oN ?_;exact joins rfl
   refine oN ?_;exact joins rfl
  refine oV ?_;refine nE ?_;refine ret1 rfl rfl ?_;refine leaf0 (congrArg Value.bool ?_); rw [Bool.eq_iff_iff]; unfold partZ; simp only [Bool.and_eq_true, Bool.or_eq_true, decide_eq_true_eq, beq_iff_eq, bne_iff_ne, Int.toNat_zero, ne_eq, Bool.not_eq_true', beq_eq_false_iff_ne, nil_eq]; omega
def Mx (I : Hp) : Prop := ∃ m, I.cell? ⟨0, 0, none⟩ = some (.int .i64 m)
theorem Mx.le {I I' : Hp} (h : Mx I) (hl : I.Le I') : Mx I' := let ⟨m, hm⟩ := h; ⟨m, hl.cell hm⟩
theorem cut_any (s : ByteArray) {I : Hp} (hM : Mx I) (hs : s.size ≤ 100000) : Fun Tryz.prog 129 [.string s, .string ⟨#[124]⟩] I [] (fun v _ _ => v = .tuple #[.string (s.extract 0 (cutZ s)), .string (s.extract (cutZ s + 1) s.size), .bool (decide (cutZ s < s.size))]) := by
  obtain ⟨m, hm⟩ := hM
  refine fun_below fun w hw => ?_;refine (Tryz.strings_Cut s ⟨#[124]⟩ m w (by omega) (Hp.In.cell hw hm)).mono ?_;rintro e w' ⟨rfl, n, rfl⟩
  obtain ⟨h1, h2, h3⟩ := cut_stroke s
  exact ⟨_, rfl, by rw [h1, h2, h3], ⟨rfl, rfl, rfl, Nat.le_refl _, fun _ _ => rfl⟩⟩
def preZ (s : ByteArray) : Bool := decide (0 < s.size) && decide ((s.get! 0).toNat = 124)
theorem pre_eq (s : ByteArray) (h : 0 < s.size) : ((s.extract 0 1).toList == (ByteArray.mk #[124]).toList) = decide ((s.get! 0).toNat = 124) := by
  have e : (s.extract 0 1).data.toList = [s.get! 0] := by
    have hg := list_get s 0 h
    rw [List.drop_zero] at hg
    have hx := congrArg (fun x : ByteArray => x.data.toList) (Lib.extract_eq s 0 1)
    simp only at hx
    rw [hx, List.drop_zero, hg]
    rfl
  rw [Bool.eq_iff_iff, beq_iff_eq, decide_eq_true_eq, ByteArray.toList_eq, ByteArray.toList_eq, e]
  constructor
  · intro h1
    have := (List.cons.inj h1).1
    rw [this]; rfl
  · intro h1
    have : s.get! 0 = 124 := UInt8.toNat_inj.1 h1
    rw [this]
theorem hasPrefix_any (s : ByteArray) (hs : s.size ≤ 100000) : PureC Tryz.prog 165 [.string s, .string ⟨#[124]⟩] (.bool (preZ s)) := by
  intro w
  refine enter2 _ Tryz.func165 rfl Tryz.ntmps165 rfl ?_ (S := fun w1 => w1 = w) rfl;refine sR ?_;refine oV ?_;refine nS ?_;refine oV ?_;refine o_lenS trivial rfl Tryz.underlying9 rfl ?_;refine oV ?_;refine o_lenS trivial rfl Tryz.underlying9 rfl ?_;refine oV ?_;refine' o_and trivial trivial rfl rfl rfl rfl rfl rfl rfl rfl (fun hb10 => ?_) ?_;rotate_left
  ·
   have fb10 := hb10
   try simp only [bl] at fb10
   iterate 2 refine gV hb10 ?_
   refine o_lenS (wS rfl rfl hb10) rfl Tryz.underlying9 rfl ?_;refine o_sliceS2 (wS rfl rfl hb10) rfl Tryz.underlying9 rfl rfl (by omega) ?_;iterate 2 refine gV hb10 ?_
   refine oN ?_;exact joins rfl
  refine oV ?_;refine nE ?_;refine ret1 rfl rfl ?_;refine fun _ hw => ⟨congrArg Value.bool ?_, hw⟩; unfold preZ; rcases Nat.lt_or_ge 0 s.size with h | h
  · rw [← pre_eq s h, decide_eq_true h, decide_eq_true (by show ((1 : Nat) : Int) ≤ (s.size : Int); omega)]; rfl
  · rw [decide_eq_false (p := 0 < s.size) (by omega), decide_eq_false (by show ¬ ((1 : Nat) : Int) ≤ (s.size : Int); omega)]; rfl
theorem litePrefix_any (s : ByteArray) (hs : s.size ≤ 100000) : PureC Tryz.prog 151 [.string s, .string ⟨#[124]⟩] (.tuple #[.string (if preZ s then s.extract 1 s.size else s), .bool (preZ s)]) := by
  have hpre : preZ s = true → 0 < s.size := fun h => by unfold preZ at h; simp only [Bool.and_eq_true, decide_eq_true_eq] at h; exact h.1
  intro w
  refine enter2 _ Tryz.func151 rfl Tryz.ntmps151 rfl ?_ (S := fun w1 => w1 = w) rfl;refine sR ?_;iterate 2 refine oV ?_
  refine nU ?_;iterate 2 refine oV ?_
  refine oP trivial rfl Tryz.call165 rfl (hasPrefix_any _ (by omega)) ?_;refine oV ?_;refine nT ?_;refine cC rfl (fun h1 => ?_) (fun h1 => ?_)
  ·
   have f1 := h1;try simp only [bl] at f1
   refine sR ?_;iterate 3 refine oV ?_
   refine nF ?_;refine ret2 rfl rfl rfl ?_;refine fun _ hw => ⟨?_, hw⟩; rw [f1]; rfl
  have f1 := h1;try simp only [bl] at f1
  have h2 := hpre f1
  refine kS ?_;iterate 2 refine oV ?_
  refine o_lenS trivial rfl Tryz.underlying9 rfl ?_;refine o_sliceS1 trivial rfl Tryz.underlying9 rfl rfl (by (show 0 ≤ ((1 : Nat) : Int) ∧ ((1 : Nat) : Int) ≤ s.size); omega) ?_;iterate 2 refine oV ?_
  refine nE ?_;refine ret2 rfl rfl rfl ?_;refine fun _ hw => ⟨?_, hw⟩; rw [f1]; rfl
theorem cutPrefix_any (s : ByteArray) (hs : s.size ≤ 100000) : PureC Tryz.prog 128 [.string s, .string ⟨#[124]⟩] (.tuple #[.string (if preZ s then s.extract 1 s.size else s), .bool (preZ s)]) := by
  intro w
  refine enter2 _ Tryz.func128 rfl Tryz.ntmps128 rfl ?_ (S := fun w1 => w1 = w) rfl;refine sR ?_;iterate 2 refine oV ?_
  refine nS ?_;iterate 2 refine oV ?_
  refine oP trivial rfl Tryz.call151 rfl (litePrefix_any _ (by omega)) ?_;iterate 4 refine oV ?_
  refine nE ?_;refine ret2 rfl rfl rfl ?_;exact fun _ hw => ⟨rfl, hw⟩
theorem number_any (s : ByteArray) {I : Hp} (hM : Mx I) (hs : s.size ≤ 60000) : Fun Tryz.prog 130 [.string s] I [] (fun v _ _ => v = .bool (numZ s)) := by
  have hc := cutZ_le s
  intro w hw
  refine enter1 _ Tryz.func130 rfl Tryz.ntmps130 rfl ?_ hw;refine sR ?_;refine oV ?_;refine nS ?_;refine oV ?_;refine oQ Tryz.call129 rfl (cut_any _ hM (by first | omega | (simp; omega))) ?_;iterate 7 refine oV ?_
  refine nS ?_;refine oV ?_;refine oQ Tryz.call153 rfl (part_any _ (by first | omega | (simp; omega))) ?_;refine' o_and trivial trivial rfl rfl rfl rfl rfl rfl rfl rfl (fun hb14 => ?_) ?_;rotate_left
  ·
   have fb14 := hb14
   try simp only [bl] at fb14
   iterate 2 refine gV hb14 ?_
   refine' o_or (wS rfl rfl hb14) (wS rfl rfl hb14) rfl rfl rfl rfl rfl rfl rfl rfl (fun hb17 => ?_) ?_;rotate_left
   ·
    have fb17 := hb17
    try simp only [bl] at fb17
    refine gV hb17 ?_;refine o_callQ (wS rfl rfl hb17) rfl Tryz.call153 rfl (part_any _ (by first | omega | (simp; omega))) ?_;refine' o_and (wS rfl rfl hb17) (wS rfl rfl hb17) rfl rfl rfl rfl rfl rfl rfl rfl (fun hb20 => ?_) ?_;rotate_left
    ·
     iterate 2 refine gV hb20 ?_
     refine oN ?_;exact joins rfl
    refine oN ?_;exact joins rfl
   refine oN ?_;exact joins rfl
  refine oV ?_;refine nE ?_;refine ret1 rfl rfl ?_;refine leaf0 (congrArg Value.bool ?_); unfold numZ; by_cases h : cutZ s = s.size
  · rw [if_pos h, h]; simp
  · rw [if_neg h, decide_eq_true (by omega)]; simp [Bool.and_assoc]
theorem tail_run (s : ByteArray) (A : Nat) (hA : A ≤ s.size) (hs : s.size ≤ 60000) : ∃ T, (if preZ (s.extract A s.size) then (s.extract A s.size).extract 1 (s.extract A s.size).size else s.extract A s.size) = T ∧ T.size ≤ 60000 ∧ runAt isDigit T 0 ≤ 60000 ∧
    (preZ (s.extract A s.size) = true → A < s.size ∧ (s.get! A).toNat = 124 ∧ runAt isDigit T 0 + (A + 1) = runAt isDigit s (A + 1)) ∧ (preZ (s.extract A s.size) = false → ¬ (A < s.size ∧ (s.get! A).toNat = 124)) := by
  have hsz : (s.extract A s.size).size = s.size - A := by simp
  have hg : ∀ j, (s.extract A s.size).get! j = s.get! (A + j) := fun j => get_tail s A j hA
  refine ⟨_, rfl, ?_, ?_, ?_, ?_⟩
  · split <;> simp <;> omega
  · refine Nat.le_trans (runAt_le isDigit _ 0 (Nat.zero_le _)) ?_
    split <;> simp <;> omega
  · intro h
    rw [if_pos h]
    unfold preZ at h
    simp only [Bool.and_eq_true, decide_eq_true_eq] at h
    rw [hg, Nat.add_zero] at h
    refine ⟨by omega, h.2, ?_⟩
    rw [hsz, ByteArray.extract_extract, show min (A + (s.size - A)) s.size = s.size by omega]
    exact runAt_tail isDigit s (A + 1) (by omega)
  · intro h hh
    unfold preZ at h
    rw [hg, Nat.add_zero, decide_eq_true (by omega), decide_eq_true hh.2] at h
    cases h
theorem numR_any (b : Nat) (s : ByteArray) (i : Nat) {I : Hp} (hM : Mx I) (hi : i < s.size) (hk : kAt s i = 2) (hs : s.size ≤ 60000) : Fun Tryz.prog 97 [.pointer (some ⟨b, 0, none⟩)] I [rdr b s i] (fun v I' B => v = rdTok s i ∧ B = [rdr b s (numEnd s i)] ∧ I = I') := by
  have ht := runAt_tail isDigit s i (by omega)
  have hge := runAt_ge isDigit s i (by omega)
  have hle := runAt_le isDigit s i (by omega)
  have hne := numEnd_ge s i (by omega)
  have e : i + (((runAt isDigit (s.extract i s.size) 0 : Nat) : Int)).toNat = runAt isDigit s i := by rw [Int.toNat_natCast]; omega
  obtain ⟨T, hT, hTs, hTr, hyes, hno⟩ := tail_run s (runAt isDigit s i) hle hs
  have hle2 : runAt isDigit s i < s.size → runAt isDigit s (runAt isDigit s i + 1) ≤ s.size := fun h => runAt_le isDigit s _ (by omega)
  have htsz : (s.extract i (numEnd s i)).size = numEnd s i - i := by simp; omega
  have hcl := cutZ_le (s.extract i (numEnd s i))
  have hsz1 : ((s.extract i (numEnd s i)).extract 0 (cutZ (s.extract i (numEnd s i)))).size = cutZ (s.extract i (numEnd s i)) := by rw [ByteArray.size_extract]; omega
  have hsz2 : ((s.extract i (numEnd s i)).extract (cutZ (s.extract i (numEnd s i)) + 1) (s.extract i (numEnd s i)).size).size = (s.extract i (numEnd s i)).size - (cutZ (s.extract i (numEnd s i)) + 1) := by rw [ByteArray.size_extract]; omega
  intro w hw
  refine enter1 _ Tryz.func97 rfl Tryz.ntmps97 rfl ?_ hw;refine sR ?_;refine o_alloc trivial rfl Tryz.zeroValue68 rfl (fun b2 => ?_);refine oV ?_;refine nS ?_;iterate 2 refine oV ?_
  refine oC trivial rfl Tryz.call66 rfl (rest_any b s i (by omega)) (by repeat constructor) ?_;rintro _ _ _ hxr ⟨rfl, rfl, rfl⟩;refine oQ Tryz.call65 rfl (by first | exact run_any _ _ isWord letters_any Tryz.call126 (by first | omega | (simp; omega)) | exact run_any _ _ isDigit digits_any Tryz.call127 (by first | omega | (simp; omega)) | exact run_any _ _ isBlank blanks_any Tryz.call67 (by first | omega | (simp; omega))) ?_;refine oC trivial rfl Tryz.call64 rfl (take_any b s i ((runAt isDigit (s.extract i s.size) 0 : Nat) : Int) (by omega) (by omega)) (by repeat constructor) ?_;rintro _ _ _ hxt ⟨rfl, rfl, rfl⟩;refine oV ?_;refine nT ?_;refine c_cut (ι := Unit) [2] (.cons rfl .nil) (fun x E0 => (4, .string (s.extract i (numEnd s i))) :: E0) (fun x => St w (keysOf [rdr b s i]) I [rdr b s (numEnd s i), .box b2 (.cells #[.int .i64 0, .string ⟨#[]⟩, .int .i64 0, .int .i64 0] 68 (0, 0))]) (fun x => True) ?_ ?_
  ·
   refine cS ?_
   rw [e]
   refine cR ?_;refine oV ?_;refine oC trivial rfl Tryz.call66 rfl (rest_any b s (runAt isDigit s i) (by omega)) (by repeat constructor) ?_;rintro _ _ _ hxr2 ⟨rfl, rfl, rfl⟩;refine oP trivial rfl Tryz.call128 rfl (cutPrefix_any _ (by first | omega | (simp; omega))) ?_;iterate 5 refine oV ?_
   refine oN (tC (cS ?_))
   rw [hT]
   refine cR ?_;refine oV ?_;refine' o_and trivial trivial rfl rfl rfl rfl rfl rfl rfl rfl (fun hb22 => ?_) ?_;rotate_left
   ·
    have fb22 := hb22
    try simp only [bl] at fb22
    refine gV hb22 ?_;refine o_callQ (wS rfl rfl hb22) rfl Tryz.call65 rfl (run_any _ _ isDigit digits_any Tryz.call127 (by omega)) ?_;refine gV hb22 ?_;refine oN ?_;exact joins rfl
   refine nT ?_;refine cC rfl (fun h1 => ?_) (fun h1 => ?_)
   ·
    have f1 := h1;try simp only [bl] at f1
    have hy := hyes f1.1; have hl3 := hle2 hy.1
    have hn : numEnd s i = runAt isDigit s i + (1 + ((runAt isDigit T 0 : Nat) : Int)).toNat := by unfold numEnd; rw [if_pos ⟨hy.1, hy.2.1, by omega⟩]; omega
    have hcat : s.extract i (runAt isDigit s i) ++ s.extract (runAt isDigit s i) (runAt isDigit s i + (1 + ((runAt isDigit T 0 : Nat) : Int)).toNat) = s.extract i (numEnd s i) := by rw [hn, ByteArray.extract_append_extract, Nat.min_eq_left (by omega), Nat.max_eq_right (by omega)]
    refine cR ?_;iterate 3 refine oV ?_
    refine oQ Tryz.call65 rfl (run_any _ _ isDigit digits_any Tryz.call127 (by omega)) ?_
    first | (refine o_add trivial rfl rfl rfl ?_ ?_; (omega)) | refine oV ?_
    refine oC trivial rfl Tryz.call64 rfl (take_any b s (runAt isDigit s i) (1 + ((runAt isDigit T 0 : Nat) : Int)) (by omega) (by omega)) (by repeat constructor) ?_;rintro _ _ _ hxt2 ⟨rfl, rfl, rfl⟩;refine o_cat trivial rfl rfl rfl (by first | omega | (simp only [ByteArray.size_append, lit_size, strOf_size, List.length_replicate, List.size_toArray, List.length_cons, List.length_nil]; omega) | (simp; omega)) ?_;refine oV ?_;refine oN ?_
    first | exact meet () (by rw [hn0]; exact (sC rfl (sC rfl sN))) (fun _ h => by rw [hn0]; exact h.sort (by repeat constructor)) trivial | exact meet () (by rw [← hcat]; exact (sC rfl (sC rfl sN))) (fun _ h => by rw [hn]; exact h.sort (by repeat constructor)) trivial
   have f1 := h1;try simp only [bl] at f1
   have hn0 : numEnd s i = runAt isDigit s i := by
     unfold numEnd
     rw [if_neg]
     intro hh
     cases hp : preZ (s.extract (runAt isDigit s i) s.size) with
     | false => exact hno hp ⟨hh.1, hh.2.1⟩
     | true =>
       have hy := hyes hp
       rcases f1 with f1 | f1
       · rw [hp] at f1; cases f1
       · omega
   refine cK ?_
   first | exact meet () (by rw [hn0]; exact (sC rfl (sC rfl sN))) (fun _ h => by rw [hn0]; exact h.sort (by repeat constructor)) trivial | exact meet () (by rw [← hcat]; exact (sC rfl (sC rfl sN))) (fun _ h => by rw [hn]; exact h.sort (by repeat constructor)) trivial
  rintro _ _
  try dsimp only
  refine sR ?_;refine oV ?_;refine oQ Tryz.call129 rfl (cut_any _ hM (by first | omega | (simp; omega))) ?_;iterate 7 refine oV ?_
  refine oN (tC (cS (cB (sR ?_))));refine oV ?_;refine o_lenS trivial rfl Tryz.underlying9 rfl ?_;refine oV ?_;refine' o_or trivial trivial rfl rfl rfl rfl rfl rfl rfl rfl (fun hb44 => ?_) ?_;rotate_left
  ·
   have fb44 := hb44
   try simp only [bl] at fb44
   refine gV hb44 ?_;refine o_lenS (wS rfl rfl hb44) rfl Tryz.underlying9 rfl ?_;refine gV hb44 ?_;refine oN ?_;exact joins rfl
  refine oV ?_;refine nT ?_;refine cC rfl (fun h2 => ?_) (fun h2 => ?_)
  ·
   have f2 := h2;try simp only [bl] at f2
   refine sR ?_;refine o_buildS trivial rfl (bld68) rfl .nil ?_;refine oS Tryz.sizeOf68 ?_;refine oV ?_;refine oN (tC (cT (blk_r (tR ?_))));refine retR rfl (.agg Tryz.isAgg68 Tryz.sizeOf68 rfl (by repeat constructor) rfl (.tmp rfl .nil)) ?_;refine leaf (Ext.refl _ _) (.cons_cons _ (List.nil_sublist _)) ⟨?_, rfl, rfl⟩; unfold rdTok tokZ; rw [if_neg (by omega), if_pos hk, if_pos (by omega)]; rfl
  have f2 := h2;try simp only [bl] at f2
  refine sR ?_;refine oV ?_;refine oQ Tryz.call130 rfl (number_any _ hM (by first | omega | (simp; omega))) ?_;iterate 2 refine oV ?_
  refine nT ?_;refine cC rfl (fun h3 => ?_) (fun h3 => ?_)
  ·
   have f3 := h3;try simp only [bl] at f3
   refine sR ?_;refine o_buildS trivial rfl (bld68) rfl .nil ?_;refine oS Tryz.sizeOf68 ?_;refine oV ?_;refine oN (tC (cT (blk_r (tR ?_))));refine retR rfl (.agg Tryz.isAgg68 Tryz.sizeOf68 rfl (by repeat constructor) rfl (.tmp rfl .nil)) ?_;refine leaf (Ext.refl _ _) (.cons_cons _ (List.nil_sublist _)) ⟨?_, rfl, rfl⟩; unfold rdTok tokZ; rw [if_neg (by omega), if_pos hk, if_neg (by omega), if_neg (by rw [f3]; exact Bool.false_ne_true)]; rfl
  have f3 := h3;try simp only [bl] at f3
  refine cK (blk_n (tC (sR ?_)));refine oV ?_;refine o_buildS trivial rfl (bld68) rfl (.cons rfl rfl rfl (by repeat constructor) (.cons rfl rfl rfl (by repeat constructor) .nil)) ?_;refine oS Tryz.sizeOf68 ?_;refine oV ?_;refine nE ?_;refine retR rfl (.agg Tryz.isAgg68 Tryz.sizeOf68 rfl (by repeat constructor) rfl (.tmp rfl .nil)) ?_;refine leaf (Ext.refl _ _) (.cons_cons _ (List.nil_sublist _)) ⟨?_, rfl, rfl⟩; unfold rdTok tokZ; rw [if_neg (by omega), if_pos hk, if_neg (by omega), if_pos f3]; rfl
def rdF (k : Int) : FuncId := if k = 1 then 96 else if k = 2 then 97 else if k = 4 then 98 else 99
theorem rdF_call (k : Int) (args : Array Value) (w : World) : (callFunc (rdF k) args).run Tryz.prog w = .ok (.enter (rdF k) args) w := by
  unfold rdF
  repeat' split
  · exact Tryz.call96 args w
  · exact Tryz.call97 args w
  · exact Tryz.call98 args w
  · exact Tryz.call99 args w
theorem rdF_any (b : Nat) (s : ByteArray) (i : Nat) {I : Hp} (hM : Mx I) (hi : i < s.size) (hs : s.size ≤ 60000) : Fun Tryz.prog (rdF (kAt s i)) [.pointer (some ⟨b, 0, none⟩)] I [rdr b s i] (fun v I' B => v = rdTok s i ∧ B = [rdr b s (tokZ s i).stop] ∧ I = I') := by
  have hst : (tokZ s i).stop = if kAt s i = 1 then runAt isWord s i else if kAt s i = 2 then numEnd s i else if kAt s i = 4 then i + 1 else i := by
    unfold tokZ
    by_cases h1 : kAt s i = 1
    · rw [if_pos h1, if_pos h1]; split <;> rfl
    · rw [if_neg h1, if_neg h1]
      by_cases h2 : kAt s i = 2
      · rw [if_pos h2, if_pos h2]; split
        · rfl
        · split <;> rfl
      · rw [if_neg h2, if_neg h2]
        by_cases h4 : kAt s i = 4
        · rw [if_pos h4, if_pos h4, kAt_four h4]
        · rw [if_neg h4, if_neg h4]
  rw [hst]
  unfold rdF
  by_cases h1 : kAt s i = 1
  · rw [if_pos h1, if_pos h1]; exact word_any b s i hi h1 hs
  · rw [if_neg h1, if_neg h1]
    by_cases h2 : kAt s i = 2
    · rw [if_pos h2, if_pos h2]; exact numR_any b s i hM hi h2 hs
    · rw [if_neg h2, if_neg h2]
      by_cases h4 : kAt s i = 4
      · rw [if_pos h4, if_pos h4]; exact mark_any b s i hi h4 hs
      · rw [if_neg h4, if_neg h4]; exact other_any b s i hi h1 h2 h4
theorem next_at (s : ByteArray) (i : Nat) {I : Hp} (hT : Tabs I) (hi : i < s.size) : Fun Tryz.prog 95 [.string s, .int .i64 (i : Int)] I [] (fun v _ _ => v = .tuple #[.int .i32 ((Utf8.decode s i).1 : Int), .int .i64 ((Utf8.decode s i).2 : Int)]) := by
  have h := next_any s i (I := I) hT
  rw [nextZ_in hi] at h
  exact h
theorem read_any (b : Nat) (s : ByteArray) (i : Nat) {I : Hp} (hT : Tabs I) (hi : i < s.size) (hs : s.size ≤ 60000) : Fun Tryz.prog 68 [.pointer (some ⟨b, 0, none⟩)] I [rdr b s i] (fun v I' B => v = .func (.func (rdF (kAt s i))) #[.pointer (some ⟨b, 0, none⟩)] #[] ∧ B = [rdr b s i] ∧ I = I') := by
  intro w hw
  refine enter1 _ Tryz.func68 rfl Tryz.ntmps68 rfl ?_ hw;refine sR ?_;refine oV ?_;refine oN (tC (cS ?_));refine c_quiet (by kernel_rfl) (by kernel_rfl) (fun _ h => h.drawn) ?_;iterate 2 refine oV ?_
  refine oF 0 Tryz.underlying104 Tryz.sizeOf9 ?_;refine oL Tryz.isAgg9 ?_;iterate 2 refine oV ?_
  refine oF 1 Tryz.underlying104 Tryz.sizeOf3 ?_;refine oL Tryz.isAgg3 ?_;refine oQ Tryz.call95 rfl (next_at _ _ hT hi) ?_;iterate 5 refine oV ?_
  refine nU ?_;refine oV ?_;refine oP trivial rfl Tryz.call59 rfl (kind_any _) ?_;refine oN (tC (cB (sR ?_)));iterate 2 refine oV ?_
  refine nT ?_;refine cC rfl (fun h1 => ?_) (fun h1 => ?_)
  ·
   have f1 := h1;try simp only [bl] at f1
   refine sR ?_;iterate 3 refine oV ?_
   refine oN (tC (cT (blk_r (tR ?_))));refine ret1 rfl rfl ?_;refine leaf (Ext.refl _ _) (List.Sublist.refl _) ⟨?_, rfl, rfl⟩; unfold rdF; rw [if_pos (show kAt s i = 1 from f1)]
  have f1 := h1;try simp only [bl] at f1
  refine sR ?_;iterate 2 refine oV ?_
  refine nT ?_;refine cC rfl (fun h2 => ?_) (fun h2 => ?_)
  ·
   have f2 := h2;try simp only [bl] at f2
   refine sR ?_;iterate 3 refine oV ?_
   refine oN (tC (cT (blk_r (tR ?_))));refine ret1 rfl rfl ?_;refine leaf (Ext.refl _ _) (List.Sublist.refl _) ⟨?_, rfl, rfl⟩; unfold rdF; rw [if_neg (show ¬ kAt s i = 1 from f1), if_pos (show kAt s i = 2 from f2)]
  have f2 := h2;try simp only [bl] at f2
  refine sR ?_;iterate 2 refine oV ?_
  refine nT ?_;refine cC rfl (fun h3 => ?_) (fun h3 => ?_)
  ·
   have f3 := h3;try simp only [bl] at f3
   refine sR ?_;iterate 3 refine oV ?_
   refine oN (tC (cT (blk_r (tR ?_))));refine ret1 rfl rfl ?_;refine leaf (Ext.refl _ _) (List.Sublist.refl _) ⟨?_, rfl, rfl⟩; unfold rdF; rw [if_neg (show ¬ kAt s i = 1 from f1), if_neg (show ¬ kAt s i = 2 from f2), if_pos (show kAt s i = 4 from f3)]
  have f3 := h3;try simp only [bl] at f3
  refine cK (blk_n (tC (sR ?_)));iterate 3 refine oV ?_
  refine nE ?_;refine ret1 rfl rfl ?_;refine leaf (Ext.refl _ _) (List.Sublist.refl _) ⟨?_, rfl, rfl⟩; unfold rdF; rw [if_neg (show ¬ kAt s i = 1 from f1), if_neg (show ¬ kAt s i = 2 from f2), if_neg (show ¬ kAt s i = 4 from f3)]
abbrev plcB (b : Nat) (p : Int × Int) : Tw.Item := .box b (.cells #[.int .i64 p.1, .int .i64 p.2] 29 (0, 0))
abbrev ptrB (b b2 : Nat) : Tw.Item := .box b (.cells #[.pointer (some ⟨b2, 0, none⟩)] 102 (0, 0))
theorem move_any (b7 b6 br : Nat) (s : ByteArray) (i j : Nat) {I : Hp} (hs : s.size ≤ 60000) (h0 : Hops s 0 i) (h : Hops s i j) (hj : j ≤ s.size) : Fun Tryz.prog 63 [.int .i64 ((j - i : Nat) : Int), .pointer (some ⟨b7, 0, none⟩), .pointer (some ⟨b6, 0, none⟩)] I [ptrB b7 br, rdr br s i, plcB b6 (placeZ s i)] (fun v I' B => v = .tuple #[] ∧ B = [ptrB b7 br, rdr br s j, plcB b6 (placeZ s j)] ∧ I = I') := by
  have hge := h.ge
  have hmv := steps_move h h0 hj
  have hsz : (s.extract i j).size = j - i := by rw [ByteArray.size_extract]; omega
  have ej : i + (((j - i : Nat) : Int)).toNat = j := by rw [Int.toNat_natCast]; omega
  have hbp := placeZ_bound s i
  have hbc := (steps_rch h0).bc
  have hi0 := h.le (s := s) (by have := h.ge; omega)
  intro w hw
  refine enter3 _ Tryz.func63 rfl Tryz.ntmps63 rfl ?_ hw;refine sR ?_;refine oL Tryz.isAgg102 ?_;refine oV ?_;refine oC trivial rfl Tryz.call64 rfl (take_any br s i ((j - i : Nat) : Int) (by omega) (by omega)) (by repeat constructor) ?_;rintro _ _ _ hx ⟨rfl, rfl, rfl⟩
  rw [ej]; refine oV ?_
  refine oQ Tryz.call28 rfl (place_any (s.extract i j) ((j - i : Nat) : Int) (by omega)) ?_;refine o_alloc trivial rfl Tryz.zeroValue29 rfl (fun b4 => ?_);refine oS Tryz.sizeOf29 ?_;refine nS ?_;refine oF 0 Tryz.underlying29 Tryz.sizeOf3 ?_;refine oL Tryz.isAgg3 ?_;refine oV ?_;refine nT ?_;refine cC rfl (fun h1 => ?_) (fun h1 => ?_)
  ·
   have f1 := h1;try simp only [bl] at f1
   refine cR ?_;refine oF 0 Tryz.underlying29 Tryz.sizeOf3 ?_;refine oL Tryz.isAgg3 ?_;refine oF 0 Tryz.underlying29 Tryz.sizeOf3 ?_;refine oL Tryz.isAgg3 ?_
   first | (refine o_add trivial rfl rfl rfl ?_ ?_; (omega)) | refine oV ?_
   first | (refine o_sub trivial rfl rfl rfl ?_ ?_; (omega)) | refine oV ?_
   refine oF 1 Tryz.underlying29 Tryz.sizeOf3 ?_;refine oL Tryz.isAgg3 ?_;refine o_buildS trivial rfl (bld29) rfl (.cons rfl rfl rfl (by repeat constructor) (.cons rfl rfl rfl (by repeat constructor) .nil)) ?_;refine oS Tryz.sizeOf29 ?_;refine oN ?_;refine ret0 rfl ?_;exact fun w' hw' => ⟨I, [ptrB b7 br, rdr br s j, plcB b6 (placeZ s j)], by rw [hmv.2.2, if_pos f1]; exact hw'.sort (by repeat constructor), Ext.refl _ _, rfl, rfl, rfl⟩
  have f1 := h1;try simp only [bl] at f1
  refine cR ?_;refine oF 1 Tryz.underlying29 Tryz.sizeOf3 ?_;refine oL Tryz.isAgg3 ?_;refine oF 1 Tryz.underlying29 Tryz.sizeOf3 ?_;refine oL Tryz.isAgg3 ?_
  first | (refine o_sub trivial rfl rfl rfl ?_ ?_; (omega)) | refine oV ?_
  first | (refine o_add trivial rfl rfl rfl ?_ ?_; (omega)) | refine oV ?_
  refine oF 1 Tryz.underlying29 Tryz.sizeOf3 ?_;refine oS Tryz.sizeOf3 ?_;refine oN ?_;refine ret0 rfl ?_;exact fun w' hw' => ⟨I, [ptrB b7 br, rdr br s j, plcB b6 (placeZ s j)], by rw [hmv.2.2, if_neg (by omega), Int.add_sub_assoc]; exact hw'.sort (by repeat constructor), Ext.refl _ _, rfl, rfl, rfl⟩
theorem runTail_any (s : ByteArray) (i : Nat) {I : Hp} (hi : i ≤ s.size) (hs : s.size ≤ 60000) : Fun Tryz.prog 65 [.string (s.extract i s.size), .func (.func 67) #[] #[]] I [] (fun v _ _ => v = .int .i64 ((runAt isBlank s i - i : Nat) : Int)) := by
  have h := run_any (s.extract i s.size) 67 isBlank (I := I) blanks_any Tryz.call67 (by simp; omega)
  have ht := runAt_tail isBlank s i hi
  rw [show runAt isBlank (s.extract i s.size) 0 = runAt isBlank s i - i by omega] at h
  exact h
theorem lex_any (s : ByteArray) {I : Hp} (hT : Tabs I) (hM : Mx I) (hs : s.size ≤ 60000) : Fun Tryz.prog 39 [.string s] I [] (fun v I' _ => LexOut (lexZ s) v I') := by
  rw [lexZ_at (by omega)]
  intro w hw
  refine enter1 _ Tryz.func39 rfl Tryz.ntmps39 rfl ?_ hw;refine sR ?_;refine oV ?_;refine o_alloc trivial rfl Tryz.zeroValue29 rfl (fun b3 => ?_);refine oV ?_;refine nU ?_;refine oV ?_;refine o_lenS trivial rfl Tryz.underlying9 rfl ?_;refine oV ?_;refine nT ?_;refine cC rfl (fun h1 => ?_) (fun h1 => ?_)
  ·
   have f1 := h1;try simp only [bl] at f1
   exfalso; omega
  have f1 := h1;try simp only [bl] at f1
  refine kS ?_;refine oV ?_;refine nS ?_;refine o_buildS trivial rfl (bld29) rfl (.cons rfl rfl rfl (by repeat constructor) (.cons rfl rfl rfl (by repeat constructor) .nil)) ?_;refine o_alloc trivial rfl Tryz.zeroValue29 rfl (fun b6 => ?_);refine oS Tryz.sizeOf29 ?_;refine nS ?_;refine oV ?_;refine o_buildS trivial rfl (bld104) rfl (.cons rfl rfl rfl (by repeat constructor) .nil) ?_;refine o_box trivial rfl rfl rfl (fun b21 => ?_);refine o_alloc trivial rfl Tryz.zeroValue102 rfl (fun b7 => ?_);refine oS Tryz.sizeOf102 ?_;refine nS ?_;iterate 2 refine oV ?_
  refine oN (tC (cB ?_));refine c_loop (ι := Nat × List Tok × Value) [3, 6, 7, 8] (.cons rfl (.cons rfl (.cons rfl (.cons rfl .nil)))) (fun x => s.size - x.1) (fun x E0 => (5, x.2.2) :: E0) (fun x => St w [] I [.row x.2.2 68 4 x.2.1.length (x.2.1.map Tok.cells).flatten, .box b3 (.cells #[.int .i64 0, .int .i64 0] 29 (0, 0)), plcB b6 (placeZ s x.1), ptrB b7 b21, rdr b21 s x.1]) (fun x => x.1 ≤ s.size ∧ Hops s 0 x.1 ∧ lexAt s 0 [] = lexAt s x.1 x.2.1 ∧ x.2.1.length ≤ 4000) ((0, [], .slice none 0 0)) (sC rfl (sC rfl (sC rfl (sC rfl (sC rfl sN))))) (fun _ h => by have e0 : placeZ s (((0, [], Value.slice none 0 0) : Nat × List Tok × Value).1 : Int) = (1, 1) := placeZ_first s; rw [e0]; exact (h.nilRow 68 4).sort (by repeat constructor)) (⟨Nat.zero_le _, .refl, rfl, Nat.zero_le _⟩) ?_;rintro ⟨i, out, u⟩ ⟨hle, hh, hF, hout⟩
  try dsimp only
  simp only at hle hh hF hout; have hj1 := runAt_ge isBlank s i hle; have hj2 := runAt_le isBlank s i hle; have hjs := runAt_steps isBlank s s.size i (by omega) hle; have hj0 := hh.trans hjs; have hjn := blanks_not s s.size i (by omega) hle; rw [blanks_at s out s.size i (by omega) hle] at hF
  refine cB (sR ?_);refine oV ?_;refine oL Tryz.isAgg102 ?_;refine oC trivial rfl Tryz.call66 rfl (rest_any b21 s i hle) (by repeat constructor) ?_;rintro _ _ _ hx1 ⟨rfl, rfl, rfl⟩;refine oQ Tryz.call65 rfl (runTail_any s i hle hs) ?_;refine o_callKT trivial rfl rfl Tryz.call63 rfl rfl (move_any b7 b6 b21 s i (runAt isBlank s i) hs hh hjs hj2) (by repeat constructor) ?_;rintro _ _ _ hx2 ⟨rfl, rfl, rfl⟩;refine nU ?_;refine oL Tryz.isAgg102 ?_;refine oC trivial rfl Tryz.call66 rfl (rest_any b21 s (runAt isBlank s i) hj2) (by repeat constructor) ?_;rintro _ _ _ hx3 ⟨rfl, rfl, rfl⟩;refine oV ?_;refine nT ?_;refine cC rfl (fun h2 => ?_) (fun h2 => ?_)
  ·
   have f2 := h2;try simp only [bl] at f2
   rw [nil_eq] at f2; have hsz2 : (s.extract (runAt isBlank s i) s.size).size = s.size - (runAt isBlank s i) := by simp
   have hje : s.size ≤ (runAt isBlank s i) := by omega
   refine sR ?_;refine oV ?_;refine o_buildS trivial rfl (bld29) rfl .nil ?_;refine oV ?_;refine oS Tryz.sizeOf29 ?_;refine oV ?_;refine oN (tC (cT (tR (blk_r (tR (blk_r ?_))))));refine retR rfl (.tmp rfl (.agg Tryz.isAgg29 Tryz.sizeOf29 rfl (by repeat constructor) rfl (.tmp rfl .nil))) ?_;exact fun w' hw' => leafRow (e := 68) (size := 4) (nn := out.length) (u := u) (xss := out.map Tok.cells) (B := []) (by simp) (cells_len out) (by unfold maxLen; omega) (fun I' hl hs' => by rw [hF, lexAt_end (by omega)]; exact ⟨_, rfl, hs'⟩) w' (hw'.sort (by repeat constructor))
  have f2 := h2;try simp only [bl] at f2
  rw [nil_eq] at f2; have hsz2 : (s.extract (runAt isBlank s i) s.size).size = s.size - (runAt isBlank s i) := by simp
  have hj : (runAt isBlank s i) < s.size := by omega
  refine cK (tC (cS (sR ?_)));refine oV ?_;refine o_lenRow trivial rfl Tryz.underlying60 rfl (by repeat constructor) ?_;refine oV ?_;refine nT ?_;refine cC rfl (fun h3 => ?_) (fun h3 => ?_)
  ·
   have f3 := h3;try simp only [bl] at f3
   refine cS ?_;refine c_any (m := 4) (by kernel_rfl) rfl (fun _ h => h.drawn) ?_;refine a_go [0, 1] (by kernel_rfl) rfl (TWs.cons ?_ (TWs.cons ?_ TWs.nil))
   ·
    refine a_op #[true, false, false, false] rfl rfl ?_;refine oA Tryz.isAgg29 Tryz.sizeOf29 ?_;refine oN ?_;refine a_next ?_;refine a_go [1] (by kernel_rfl) rfl (TWs.cons ?_ TWs.nil);refine a_op #[true, true, false, false] rfl rfl ?_;refine oV ?_;refine oN ?_;refine a_next ?_;refine a_go [2] (by kernel_rfl) rfl (TWs.cons ?_ TWs.nil);refine a_op #[true, true, true, false] rfl rfl ?_;refine oS Tryz.sizeOf29 ?_;refine oN ?_;refine a_next ?_;refine a_go [3] (by kernel_rfl) rfl (TWs.cons ?_ TWs.nil);refine a_op #[true, true, true, true] rfl rfl ?_;refine oV ?_;refine oN ?_;refine a_next ?_;refine a_end (by kernel_rfl) ?_;refine tC (cT (tR (blk_r (tR (blk_r ?_)))));refine retR rfl (.tmp rfl (.agg Tryz.isAgg29 Tryz.sizeOf29 rfl (by repeat constructor) rfl (.tmp rfl .nil))) ?_;refine leaf (Ext.refl _ _) (List.nil_sublist _) ?_; rw [hF, lexAt_open hj, if_neg (hjn hj), if_pos (by omega)]; exact ⟨_, rfl, Slc.nil _ _⟩
   refine a_op #[false, true, false, false] rfl rfl ?_;refine oV ?_;refine oN ?_;refine a_next ?_;refine a_go [0] (by kernel_rfl) rfl (TWs.cons ?_ TWs.nil);refine a_op #[true, true, false, false] rfl rfl ?_;refine oA Tryz.isAgg29 Tryz.sizeOf29 ?_;refine oN ?_;refine a_next ?_;refine a_go [2] (by kernel_rfl) rfl (TWs.cons ?_ TWs.nil);refine a_op #[true, true, true, false] rfl rfl ?_;refine oS Tryz.sizeOf29 ?_;refine oN ?_;refine a_next ?_;refine a_go [3] (by kernel_rfl) rfl (TWs.cons ?_ TWs.nil);refine a_op #[true, true, true, true] rfl rfl ?_;refine oV ?_;refine oN ?_;refine a_next ?_;refine a_end (by kernel_rfl) ?_;refine tC (cT (tR (blk_r (tR (blk_r ?_)))));refine retR rfl (.tmp rfl (.agg Tryz.isAgg29 Tryz.sizeOf29 rfl (by repeat constructor) rfl (.tmp rfl .nil))) ?_;refine leaf (Ext.refl _ _) (List.nil_sublist _) ?_; rw [hF, lexAt_open hj, if_neg (hjn hj), if_pos (by omega)]; exact ⟨_, rfl, Slc.nil _ _⟩
  have f3 := h3;try simp only [bl] at f3
  have hcf := rdF_call (kAt s (runAt isBlank s i))
  refine kS ?_;refine oL Tryz.isAgg102 ?_;refine oV ?_;refine oF 1 Tryz.underlying104 Tryz.sizeOf3 ?_;refine oL Tryz.isAgg3 ?_;refine oV ?_;refine nS ?_;refine oL Tryz.isAgg102 ?_;refine oC trivial rfl Tryz.call68 rfl (read_any b21 s (runAt isBlank s i) hT hj hs) (by repeat constructor) ?_;rintro _ _ _ hx4 ⟨rfl, rfl, rfl⟩;refine o_callKT trivial rfl rfl hcf rfl rfl (rdF_any b21 s (runAt isBlank s i) hM hj hs) (by repeat constructor) ?_;rintro _ _ _ hx5 ⟨rfl, rfl, rfl⟩;iterate 3 refine oV ?_
  refine o_alloc trivial rfl Tryz.zeroValue68 rfl (fun b10 => ?_);refine oS Tryz.sizeOf68 ?_;refine oV ?_;refine nU ?_;iterate 2 refine oV ?_
  refine nT ?_;refine cC rfl (fun h4 => ?_) (fun h4 => ?_)
  ·
   have f4 := h4;try simp only [bl] at f4
   refine cS ?_;refine c_any (m := 5) (by kernel_rfl) rfl (fun _ h => h.drawn) ?_;refine a_go [0, 1, 2] (by kernel_rfl) rfl (TWs.cons ?_ (TWs.cons ?_ (TWs.cons ?_ TWs.nil)))
   ·
    refine a_op #[true, false, false, false, false] rfl rfl ?_;refine oA Tryz.isAgg29 Tryz.sizeOf29 ?_;refine oN ?_;refine a_next ?_;refine a_go [1, 2] (by kernel_rfl) rfl (TWs.cons ?_ (TWs.cons ?_ TWs.nil))
    ·
     refine a_op #[true, true, false, false, false] rfl rfl ?_;refine oV ?_;refine oN ?_;refine a_next ?_;refine a_go [2] (by kernel_rfl) rfl (TWs.cons ?_ TWs.nil);refine a_op #[true, true, true, false, false] rfl rfl ?_;refine oV ?_;refine oN ?_;refine a_next ?_;refine a_go [3] (by kernel_rfl) rfl (TWs.cons ?_ TWs.nil);refine a_op #[true, true, true, true, false] rfl rfl ?_;refine oS Tryz.sizeOf29 ?_;refine oN ?_;refine a_next ?_;refine a_go [4] (by kernel_rfl) rfl (TWs.cons ?_ TWs.nil);refine a_op #[true, true, true, true, true] rfl rfl ?_;refine oV ?_;refine oN ?_;refine a_next ?_;refine a_end (by kernel_rfl) ?_;refine tC (cT (tR (blk_r (tR (blk_r ?_)))));refine retR rfl (.tmp rfl (.agg Tryz.isAgg29 Tryz.sizeOf29 rfl (by repeat constructor) rfl (.tmp rfl .nil))) ?_;refine leaf (Ext.refl _ _) (List.nil_sublist _) ?_; rw [hF, lexAt_open hj, if_neg (hjn hj), if_neg (by omega), if_pos f4]; exact ⟨_, rfl, Slc.nil _ _⟩
    refine a_op #[true, false, true, false, false] rfl rfl ?_;refine oV ?_;refine oN ?_;refine a_next ?_;refine a_go [1, 3] (by kernel_rfl) rfl (TWs.cons ?_ (TWs.cons ?_ TWs.nil))
    ·
     refine a_op #[true, true, true, false, false] rfl rfl ?_;refine oV ?_;refine oN ?_;refine a_next ?_;refine a_go [3] (by kernel_rfl) rfl (TWs.cons ?_ TWs.nil);refine a_op #[true, true, true, true, false] rfl rfl ?_;refine oS Tryz.sizeOf29 ?_;refine oN ?_;refine a_next ?_;refine a_go [4] (by kernel_rfl) rfl (TWs.cons ?_ TWs.nil);refine a_op #[true, true, true, true, true] rfl rfl ?_;refine oV ?_;refine oN ?_;refine a_next ?_;refine a_end (by kernel_rfl) ?_;refine tC (cT (tR (blk_r (tR (blk_r ?_)))));refine retR rfl (.tmp rfl (.agg Tryz.isAgg29 Tryz.sizeOf29 rfl (by repeat constructor) rfl (.tmp rfl .nil))) ?_;refine leaf (Ext.refl _ _) (List.nil_sublist _) ?_; rw [hF, lexAt_open hj, if_neg (hjn hj), if_neg (by omega), if_pos f4]; exact ⟨_, rfl, Slc.nil _ _⟩
    refine a_op #[true, false, true, true, false] rfl rfl ?_;refine oS Tryz.sizeOf29 ?_;refine oN ?_;refine a_next ?_;refine a_go [1] (by kernel_rfl) rfl (TWs.cons ?_ TWs.nil);refine a_op #[true, true, true, true, false] rfl rfl ?_;refine oV ?_;refine oN ?_;refine a_next ?_;refine a_go [4] (by kernel_rfl) rfl (TWs.cons ?_ TWs.nil);refine a_op #[true, true, true, true, true] rfl rfl ?_;refine oV ?_;refine oN ?_;refine a_next ?_;refine a_end (by kernel_rfl) ?_;refine tC (cT (tR (blk_r (tR (blk_r ?_)))));refine retR rfl (.tmp rfl (.agg Tryz.isAgg29 Tryz.sizeOf29 rfl (by repeat constructor) rfl (.tmp rfl .nil))) ?_;refine leaf (Ext.refl _ _) (List.nil_sublist _) ?_; rw [hF, lexAt_open hj, if_neg (hjn hj), if_neg (by omega), if_pos f4]; exact ⟨_, rfl, Slc.nil _ _⟩
   ·
    refine a_op #[false, true, false, false, false] rfl rfl ?_;refine oV ?_;refine oN ?_;refine a_next ?_;refine a_go [0, 2] (by kernel_rfl) rfl (TWs.cons ?_ (TWs.cons ?_ TWs.nil))
    ·
     refine a_op #[true, true, false, false, false] rfl rfl ?_;refine oA Tryz.isAgg29 Tryz.sizeOf29 ?_;refine oN ?_;refine a_next ?_;refine a_go [2] (by kernel_rfl) rfl (TWs.cons ?_ TWs.nil);refine a_op #[true, true, true, false, false] rfl rfl ?_;refine oV ?_;refine oN ?_;refine a_next ?_;refine a_go [3] (by kernel_rfl) rfl (TWs.cons ?_ TWs.nil);refine a_op #[true, true, true, true, false] rfl rfl ?_;refine oS Tryz.sizeOf29 ?_;refine oN ?_;refine a_next ?_;refine a_go [4] (by kernel_rfl) rfl (TWs.cons ?_ TWs.nil);refine a_op #[true, true, true, true, true] rfl rfl ?_;refine oV ?_;refine oN ?_;refine a_next ?_;refine a_end (by kernel_rfl) ?_;refine tC (cT (tR (blk_r (tR (blk_r ?_)))));refine retR rfl (.tmp rfl (.agg Tryz.isAgg29 Tryz.sizeOf29 rfl (by repeat constructor) rfl (.tmp rfl .nil))) ?_;refine leaf (Ext.refl _ _) (List.nil_sublist _) ?_; rw [hF, lexAt_open hj, if_neg (hjn hj), if_neg (by omega), if_pos f4]; exact ⟨_, rfl, Slc.nil _ _⟩
    refine a_op #[false, true, true, false, false] rfl rfl ?_;refine oV ?_;refine oN ?_;refine a_next ?_;refine a_go [0] (by kernel_rfl) rfl (TWs.cons ?_ TWs.nil);refine a_op #[true, true, true, false, false] rfl rfl ?_;refine oA Tryz.isAgg29 Tryz.sizeOf29 ?_;refine oN ?_;refine a_next ?_;refine a_go [3] (by kernel_rfl) rfl (TWs.cons ?_ TWs.nil);refine a_op #[true, true, true, true, false] rfl rfl ?_;refine oS Tryz.sizeOf29 ?_;refine oN ?_;refine a_next ?_;refine a_go [4] (by kernel_rfl) rfl (TWs.cons ?_ TWs.nil);refine a_op #[true, true, true, true, true] rfl rfl ?_;refine oV ?_;refine oN ?_;refine a_next ?_;refine a_end (by kernel_rfl) ?_;refine tC (cT (tR (blk_r (tR (blk_r ?_)))));refine retR rfl (.tmp rfl (.agg Tryz.isAgg29 Tryz.sizeOf29 rfl (by repeat constructor) rfl (.tmp rfl .nil))) ?_;refine leaf (Ext.refl _ _) (List.nil_sublist _) ?_; rw [hF, lexAt_open hj, if_neg (hjn hj), if_neg (by omega), if_pos f4]; exact ⟨_, rfl, Slc.nil _ _⟩
   refine a_op #[false, false, true, false, false] rfl rfl ?_;refine oV ?_;refine oN ?_;refine a_next ?_;refine a_go [0, 1] (by kernel_rfl) rfl (TWs.cons ?_ (TWs.cons ?_ TWs.nil))
   ·
    refine a_op #[true, false, true, false, false] rfl rfl ?_;refine oA Tryz.isAgg29 Tryz.sizeOf29 ?_;refine oN ?_;refine a_next ?_;refine a_go [1, 3] (by kernel_rfl) rfl (TWs.cons ?_ (TWs.cons ?_ TWs.nil))
    ·
     refine a_op #[true, true, true, false, false] rfl rfl ?_;refine oV ?_;refine oN ?_;refine a_next ?_;refine a_go [3] (by kernel_rfl) rfl (TWs.cons ?_ TWs.nil);refine a_op #[true, true, true, true, false] rfl rfl ?_;refine oS Tryz.sizeOf29 ?_;refine oN ?_;refine a_next ?_;refine a_go [4] (by kernel_rfl) rfl (TWs.cons ?_ TWs.nil);refine a_op #[true, true, true, true, true] rfl rfl ?_;refine oV ?_;refine oN ?_;refine a_next ?_;refine a_end (by kernel_rfl) ?_;refine tC (cT (tR (blk_r (tR (blk_r ?_)))));refine retR rfl (.tmp rfl (.agg Tryz.isAgg29 Tryz.sizeOf29 rfl (by repeat constructor) rfl (.tmp rfl .nil))) ?_;refine leaf (Ext.refl _ _) (List.nil_sublist _) ?_; rw [hF, lexAt_open hj, if_neg (hjn hj), if_neg (by omega), if_pos f4]; exact ⟨_, rfl, Slc.nil _ _⟩
    refine a_op #[true, false, true, true, false] rfl rfl ?_;refine oS Tryz.sizeOf29 ?_;refine oN ?_;refine a_next ?_;refine a_go [1] (by kernel_rfl) rfl (TWs.cons ?_ TWs.nil);refine a_op #[true, true, true, true, false] rfl rfl ?_;refine oV ?_;refine oN ?_;refine a_next ?_;refine a_go [4] (by kernel_rfl) rfl (TWs.cons ?_ TWs.nil);refine a_op #[true, true, true, true, true] rfl rfl ?_;refine oV ?_;refine oN ?_;refine a_next ?_;refine a_end (by kernel_rfl) ?_;refine tC (cT (tR (blk_r (tR (blk_r ?_)))));refine retR rfl (.tmp rfl (.agg Tryz.isAgg29 Tryz.sizeOf29 rfl (by repeat constructor) rfl (.tmp rfl .nil))) ?_;refine leaf (Ext.refl _ _) (List.nil_sublist _) ?_; rw [hF, lexAt_open hj, if_neg (hjn hj), if_neg (by omega), if_pos f4]; exact ⟨_, rfl, Slc.nil _ _⟩
   refine a_op #[false, true, true, false, false] rfl rfl ?_;refine oV ?_;refine oN ?_;refine a_next ?_;refine a_go [0] (by kernel_rfl) rfl (TWs.cons ?_ TWs.nil);refine a_op #[true, true, true, false, false] rfl rfl ?_;refine oA Tryz.isAgg29 Tryz.sizeOf29 ?_;refine oN ?_;refine a_next ?_;refine a_go [3] (by kernel_rfl) rfl (TWs.cons ?_ TWs.nil);refine a_op #[true, true, true, true, false] rfl rfl ?_;refine oS Tryz.sizeOf29 ?_;refine oN ?_;refine a_next ?_;refine a_go [4] (by kernel_rfl) rfl (TWs.cons ?_ TWs.nil);refine a_op #[true, true, true, true, true] rfl rfl ?_;refine oV ?_;refine oN ?_;refine a_next ?_;refine a_end (by kernel_rfl) ?_;refine tC (cT (tR (blk_r (tR (blk_r ?_)))));refine retR rfl (.tmp rfl (.agg Tryz.isAgg29 Tryz.sizeOf29 rfl (by repeat constructor) rfl (.tmp rfl .nil))) ?_;refine leaf (Ext.refl _ _) (List.nil_sublist _) ?_; rw [hF, lexAt_open hj, if_neg (hjn hj), if_neg (by omega), if_pos f4]; exact ⟨_, rfl, Slc.nil _ _⟩
  have f4 := h4;try simp only [bl] at f4
  have hst := tokZ_stop hj f4; have hhop := tok_hops hj f4
  refine kS ?_;refine oA Tryz.isAgg29 Tryz.sizeOf29 ?_;refine oF 2 Tryz.underlying68 Tryz.sizeOf29 ?_;refine oS Tryz.sizeOf29 ?_;refine nS ?_;refine oV ?_;refine oA Tryz.isAgg68 Tryz.sizeOf68 ?_;refine oB Tryz.underlying60 Tryz.sizeOf68 Tryz.zeroValue68 fun b55 => ?_;refine oD Tryz.underlying60 elem68 fun v56 => ?_;refine oV ?_;refine nS ?_;refine oL Tryz.isAgg102 ?_;refine oV ?_;refine oF 1 Tryz.underlying104 Tryz.sizeOf3 ?_;refine oL Tryz.isAgg3 ?_;refine oV ?_
  first | (refine o_sub trivial rfl rfl rfl ?_ ?_; (omega)) | refine oV ?_
  refine oV ?_;refine nS ?_;refine oL Tryz.isAgg102 ?_;iterate 2 refine oV ?_
  refine oF 1 Tryz.underlying104 Tryz.sizeOf3 ?_;refine oS Tryz.sizeOf3 ?_;refine nR ?_;refine oV ?_
  rw [show ((tokZ s (runAt isBlank s i)).stop : Int) - (((runAt isBlank s i) : Nat) : Int) = (((tokZ s (runAt isBlank s i)).stop - (runAt isBlank s i) : Nat) : Int) by omega]; refine oV ?_
  refine o_callKT trivial rfl rfl Tryz.call63 rfl rfl (move_any b7 b6 b21 s (runAt isBlank s i) (tokZ s (runAt isBlank s i)).stop hs hj0 hhop hst.2) (by repeat constructor) ?_;rintro _ _ _ hx6 ⟨rfl, rfl, rfl⟩;refine oN (blk_n ?_);exact again ((tokZ s (runAt isBlank s i)).stop, out ++ [⟨(tokZ s (runAt isBlank s i)).kind, (tokZ s (runAt isBlank s i)).text, (placeZ s (runAt isBlank s i)).1, (placeZ s (runAt isBlank s i)).2⟩], v56) (sC rfl (sC rfl (sC rfl (sC rfl (sC rfl sN))))) (fun _ h => by simp only [flat_more, List.length_append]; exact h.sort (by repeat constructor)) (by show s.size - (tokZ s (runAt isBlank s i)).stop < s.size - i; omega) ⟨hst.2, hj0.trans hhop, by rw [hF, lexAt_open hj, if_neg (hjn hj), if_neg (by omega), if_neg (not_not_intro f4)], by simp only [List.length_append]; show out.length + 1 ≤ 4000; omega⟩
abbrev rdB (b : Nat) (vall : Value) (i : Nat) (vs vi vl vo va : Value) : Tw.Item := .box b (.cells #[vall, .int .i64 (i : Nat), vs, vi, vl, vo, va] 66 (0, 0))
abbrev skR (vs : Value) (K : List Value) : Tw.Item := .row vs 20 1 K.length K
abbrev ltR (vl : Value) (ls : List LetC) : Tw.Item := .row vl 46 2 ls.length (ls.map LetC.cells).flatten
abbrev ndR (va : Value) (ns : List NodeV) : Tw.Item := .row va 44 8 ns.length (nds ns).flatten
def tkAt (L : List Tok) (i : Nat) : Tok := (L[i]?).getD ⟨0, ⟨#[]⟩, 0, 0⟩
theorem tkAt_in {L : List Tok} {i : Nat} {t : Tok} (h : L[i]? = some t) : tkAt L i = t := by unfold tkAt; rw [h]; rfl
theorem tkAt_out {L : List Tok} {i : Nat} (h : L.length ≤ i) : tkAt L i = ⟨0, ⟨#[]⟩, 0, 0⟩ := by unfold tkAt; rw [List.getElem?_eq_none h]; rfl
theorem toks_at {I : Hp} {v : Value} {L : List Tok} (h : Slc I 4 v (L.map Tok.cells)) {i : Nat} {t : Tok} (ht : L[i]? = some t) : ∀ k y, ([.int .i64 t.kind, .string t.text, .int .i64 t.line, .int .i64 t.col] : List Value)[k]? = some y → I.cell? ⟨slcB v, slcO v + i * 4 + k, none⟩ = some y :=
  h.cells i _ (by rw [List.getElem?_map, ht]; rfl)
theorem hdT_at {L : List Tok} {i : Nat} (k : Int) (s : ByteArray) : hdT (L.drop i) k s = (decide (i < L.length) && isT (tkAt L i) k s) := by
  by_cases h : i < L.length
  · rw [List.drop_eq_getElem_cons h, decide_eq_true h, Bool.true_and, tkAt_in (List.getElem?_eq_getElem h)]; rfl
  · rw [List.drop_eq_nil_of_le (by omega), decide_eq_false h]; rfl
theorem rdNext_any (b i : Nat) (vall vs vi vl vo va : Value) (L : List Tok) {I : Hp} (hL : Slc I 4 vall (L.map Tok.cells)) : Fun Tryz.prog 41 [.pointer (some ⟨b, 0, none⟩)] I [rdB b vall i vs vi vl vo va]
    (fun v I' B' => I = I' ∧ B' = [rdB b vall i vs vi vl vo va] ∧ v = .tuple #[.agg #[.int .i64 (tkAt L i).kind, .string (tkAt L i).text, .int .i64 (tkAt L i).line, .int .i64 (tkAt L i).col], .bool (decide (i < L.length))]) := by
  have hll : (L.map Tok.cells).length = L.length := List.length_map _
  intro w hw
  refine enter1 _ Tryz.func41 rfl Tryz.ntmps41 rfl ?_ hw;refine sR ?_;refine o_alloc trivial rfl Tryz.zeroValue68 rfl (fun b2 => ?_);refine oV ?_;refine oN (tC (cS (cS ?_)));refine c_quiet (by kernel_rfl) (by kernel_rfl) (fun _ h => h.drawn) ?_;iterate 2 refine oV ?_
  refine oF 1 Tryz.underlying66 Tryz.sizeOf3 ?_;refine oL Tryz.isAgg3 ?_;iterate 2 refine oV ?_
  refine oF 0 Tryz.underlying66 Tryz.sizeOf60 ?_;refine oL Tryz.isAgg60 ?_;refine o_lenSlc trivial rfl Tryz.underlying60 rfl (hL) ?_;refine oV ?_;refine nT ?_;refine cC rfl (fun h1 => ?_) (fun h1 => ?_)
  ·
   have f1 := h1;try simp only [bl] at f1
   refine sR ?_;refine o_buildS trivial rfl (bld68) rfl .nil ?_;refine oS Tryz.sizeOf68 ?_;refine oV ?_;refine nF ?_;refine retR rfl (.agg Tryz.isAgg68 Tryz.sizeOf68 rfl (by repeat constructor) rfl (.tmp rfl .nil)) ?_;refine fun w' hw' => ⟨I, [rdB b vall i vs vi vl vo va], hw'.sort (by repeat constructor), Ext.refl _ _, rfl, rfl, ?_⟩
   rw [tkAt_out (by omega), decide_eq_false (by omega)]; rfl
  have f1 := h1;try simp only [bl] at f1
  obtain ⟨t, ht⟩ : ∃ t, L[i]? = some t := ⟨L[i]'(by omega), List.getElem?_eq_getElem (by omega)⟩
  refine cK (tC (cS ?_));refine h_beginB (m := 12) [rdB b vall i vs vi vl vo va] (by repeat constructor) (by kernel_rfl) rfl ?_;refine qT (i := 0) (qB 12 1) (Hp.Le.refl _) rfl rfl (oV qF) ?_;refine qT (i := 1) (qB 12 3) (Hp.Le.refl _) rfl rfl (oV qF) ?_;refine qT (i := 2) (qB 12 7) (Hp.Le.refl _) rfl rfl (oF 0 Tryz.underlying66 Tryz.sizeOf60 qF) ?_;refine qT (i := 3) (qB 12 15) (Hp.Le.refl _) rfl rfl (oL Tryz.isAgg60 qF) ?_;refine qT (i := 4) (qB 12 31) (Hp.Le.refl _) rfl rfl (oV qF) ?_;refine qT (i := 5) (qB 12 63) (Hp.Le.refl _) rfl rfl (oV qF) ?_;refine qT (i := 6) (qB 12 127) (Hp.Le.refl _) rfl rfl (oF 1 Tryz.underlying66 Tryz.sizeOf3 qF) ?_;refine qT (i := 7) (qB 12 255) (Hp.Le.refl _) rfl rfl (oL Tryz.isAgg3 qF) ?_;refine qT (i := 8) (qB 12 511) (Hp.Le.refl _) rfl rfl (o_elem trivial rfl Tryz.underlying60 Tryz.sizeOf68 rfl (hL) rfl (by omega) qF) ?_;refine qT (i := 9) (qB 12 1023) (Hp.Le.refl _) rfl rfl (o_loadAI trivial rfl Tryz.isAgg68 Tryz.sizeOf68 rfl rfl (toks_at hL ht) qF) ?_;refine qO (i := 10) (qB 12 2047) rfl ?_;refine oS Tryz.sizeOf68 ?_;refine qM (Hp.Le.refl _) ?_;refine qT (i := 11) (qB 12 4095) (Hp.Le.refl _) rfl rfl (oV qF) ?_;refine h_end (by kernel_rfl) ?_;refine tC (cT ?_);refine retR rfl (.agg Tryz.isAgg68 Tryz.sizeOf68 rfl (by repeat constructor) rfl (.tmp rfl .nil)) ?_;refine fun w' hw' => ⟨I, [rdB b vall i vs vi vl vo va], hw'.sort (by repeat constructor), Ext.refl _ _, rfl, rfl, ?_⟩
  rw [tkAt_in ht, decide_eq_true (by omega)]; rfl
theorem push_any (b i : Nat) (vall vs vi vl vo va u : Value) (T : TypeId) (K : List Value) {I : Hp} (hK : K.length ≤ 100000) : Fun Tryz.prog 135 [.pointer (some ⟨b, 0, none⟩), .iface T u] I [rdB b vall i vs vi vl vo va, skR vs K]
    (fun v I' B' => I = I' ∧ v = .tuple #[] ∧ ∃ vs', B' = [rdB b vall i vs' vi vl vo va, skR vs' (K ++ [.iface T u])]) := by
  intro w hw
  refine enter2 _ Tryz.func135 rfl Tryz.ntmps135 rfl ?_ hw;refine cR ?_;iterate 3 refine oV ?_
  refine oF 2 Tryz.underlying66 Tryz.sizeOf64 ?_;refine oL Tryz.isAgg64 ?_;refine oV ?_;refine oB Tryz.underlying64 Tryz.sizeOf20 Tryz.zeroValue20 fun b10 => ?_;refine oD Tryz.underlying64 elem20 fun v11 => ?_;refine oV ?_;refine oF 2 Tryz.underlying66 Tryz.sizeOf64 ?_;refine l_rowCells (u := v11) (by repeat constructor) (fun hcv => ?_);refine o_storeBox1 trivial rfl rfl (hcv).1 Tryz.sizeOf64 (hcv).2 (by repeat constructor) (by exact Nat.le_of_ble_eq_true rfl) ?_;refine oN ?_;refine ret0 rfl ?_;exact fun w' hw' => ⟨I, [rdB b vall i v11 vi vl vo va, skR v11 (K ++ [.iface T u])], (by unfold skR; rw [List.length_append]; exact hw'.sort (by repeat constructor)), Ext.refl _ _, rfl, rfl, _, rfl⟩
theorem pop_any (b i : Nat) (vall vs vi vl vo va x : Value) (K : List Value) {I : Hp} (hK : K.length ≤ 100000) : Fun Tryz.prog 157 [.pointer (some ⟨b, 0, none⟩)] I [rdB b vall i vs vi vl vo va, skR vs (K ++ [x])]
    (fun v I' B' => I = I' ∧ v = x ∧ ∃ vs', B' = [rdB b vall i vs' vi vl vo va, skR vs' K]) := by
  have hl : (K ++ [x]).length = K.length + 1 := by simp
  have hx : (K ++ [x])[K.length]? = some x := by simp
  have e : (((K ++ [x]).length : Int) - 1).toNat = K.length := by rw [hl]; omega
  have ht : (K ++ [x]).take K.length = K := by simp
  intro w hw
  refine enter1 _ Tryz.func157 rfl Tryz.ntmps157 rfl ?_ hw;refine sR ?_;refine oV ?_;refine nS ?_;iterate 2 refine oV ?_
  refine oF 2 Tryz.underlying66 Tryz.sizeOf64 ?_;refine oL Tryz.isAgg64 ?_;refine o_lenRow trivial rfl Tryz.underlying64 rfl (by repeat constructor) ?_;refine oV ?_;refine nU ?_;iterate 2 refine oV ?_
  refine nT ?_;refine cC rfl (fun h1 => ?_) (fun h1 => ?_)
  ·
   have f1 := h1;try simp only [bl] at f1
   exfalso; omega
  have f1 := h1;try simp only [bl] at f1
  refine kS ?_;iterate 2 refine oV ?_
  refine oF 2 Tryz.underlying66 Tryz.sizeOf64 ?_;refine oL Tryz.isAgg64 ?_;refine oV ?_
  first | (refine o_sub trivial rfl rfl rfl ?_ ?_; (omega)) | refine oV ?_
  refine o_elemRow trivial rfl Tryz.underlying64 Tryz.sizeOf20 rfl (by repeat constructor) rfl (by omega) ?_;refine o_loadRow1 trivial rfl Tryz.isAgg20 (by repeat constructor) rfl (by rw [e, Nat.mul_one]; exact hx) ?_;refine oV ?_;refine nS ?_;iterate 3 refine oV ?_
  refine oF 2 Tryz.underlying66 Tryz.sizeOf64 ?_;refine oL Tryz.isAgg64 ?_;refine oV ?_
  first | (refine o_sub trivial rfl rfl rfl ?_ ?_; (omega)) | refine oV ?_
  refine o_cutRow trivial rfl Tryz.underlying64 Tryz.sizeOf20 rfl rfl (by repeat constructor) (by omega) ?_;refine oV ?_;refine oF 2 Tryz.underlying66 Tryz.sizeOf64 ?_;refine l_rowCells (u := slcCut vs 0 (((K ++ [x]).length : Int) - 1).toNat 1) (by repeat constructor) (fun hcv => ?_);refine o_storeBox1 trivial rfl rfl (hcv).1 Tryz.sizeOf64 (hcv).2 (by repeat constructor) (by exact Nat.le_of_ble_eq_true rfl) ?_;refine nS ?_;iterate 2 refine oV ?_
  refine nE ?_;refine ret1 rfl rfl ?_;exact fun w' hw' => ⟨I, [rdB b vall i (slcCut vs 0 K.length 1) vi vl vo va, skR (slcCut vs 0 K.length 1) K], (by rw [e, Nat.mul_one, ht] at hw'; exact hw'.sort (by repeat constructor)), Ext.refl _ _, rfl, rfl, _, rfl⟩
abbrev opV (k p : Int) (br : Bool) : Value := .agg #[.int .i64 k, .int .i64 p, .bool br]
abbrev opI (k p : Int) (br : Bool) : Value := .iface 162 (opV k p br)
abbrev odI (a : Int) : Value := .iface 194 (.int .i64 a)
theorem top_low (b i : Nat) (vall vs vi vl vo va : Value) (K : List Value) {I : Hp} (hK : K.length ≤ 1) : Fun Tryz.prog 156 [.pointer (some ⟨b, 0, none⟩)] I [rdB b vall i vs vi vl vo va, skR vs K]
    (fun v I' B' => I = I' ∧ B' = [rdB b vall i vs vi vl vo va, skR vs K] ∧ v = .tuple #[opV 0 0 false, .bool false]) := by
  intro w hw
  refine enter1 _ Tryz.func156 rfl Tryz.ntmps156 rfl ?_ hw;refine sR ?_;refine o_alloc trivial rfl Tryz.zeroValue162 rfl (fun b2 => ?_);refine oV ?_;refine nU ?_;iterate 2 refine oV ?_
  refine oF 2 Tryz.underlying66 Tryz.sizeOf64 ?_;refine oL Tryz.isAgg64 ?_;refine o_lenRow trivial rfl Tryz.underlying64 rfl (by repeat constructor) ?_;refine oV ?_;refine nS ?_;iterate 2 refine oV ?_
  refine nT ?_;refine cC rfl (fun h1 => ?_) (fun h1 => ?_)
  ·
   have f1 := h1;try simp only [bl] at f1
   exfalso; omega
  have f1 := h1;try simp only [bl] at f1
  refine kS ?_;refine o_buildS trivial rfl (bld162) rfl .nil ?_;refine oS Tryz.sizeOf162 ?_;refine oV ?_;refine nE ?_;refine retR rfl (.agg Tryz.isAgg162 Tryz.sizeOf162 rfl (by repeat constructor) rfl (.tmp rfl .nil)) ?_;exact fun w' hw' => ⟨I, [rdB b vall i vs vi vl vo va, skR vs K], hw'.sort (by repeat constructor), Ext.refl _ _, rfl, rfl, rfl⟩
theorem top_op (b i : Nat) (vall vs vi vl vo va x : Value) (k p : Int) (br : Bool) (K : List Value) {I : Hp} (hK : K.length ≤ 100000) : Fun Tryz.prog 156 [.pointer (some ⟨b, 0, none⟩)] I [rdB b vall i vs vi vl vo va, skR vs (K ++ [opI k p br] ++ [x])]
    (fun v I' B' => I = I' ∧ B' = [rdB b vall i vs vi vl vo va, skR vs (K ++ [opI k p br] ++ [x])] ∧ v = .tuple #[opV k p br, .bool true]) := by
  have hl : (K ++ [opI k p br] ++ [x]).length = K.length + 2 := by simp
  have hx : (K ++ [opI k p br] ++ [x])[K.length]? = some (opI k p br) := by simp
  have e : (((K ++ [opI k p br] ++ [x]).length : Int) - 2).toNat = K.length := by rw [hl]; omega
  intro w hw
  refine enter1 _ Tryz.func156 rfl Tryz.ntmps156 rfl ?_ hw;refine sR ?_;refine o_alloc trivial rfl Tryz.zeroValue162 rfl (fun b2 => ?_);refine oV ?_;refine nU ?_;iterate 2 refine oV ?_
  refine oF 2 Tryz.underlying66 Tryz.sizeOf64 ?_;refine oL Tryz.isAgg64 ?_;refine o_lenRow trivial rfl Tryz.underlying64 rfl (by repeat constructor) ?_;refine oV ?_;refine nS ?_;iterate 2 refine oV ?_
  refine nT ?_;refine cC rfl (fun h1 => ?_) (fun h1 => ?_)
  ·
   have f1 := h1;try simp only [bl] at f1
   refine sR ?_;iterate 2 refine oV ?_
   refine oF 2 Tryz.underlying66 Tryz.sizeOf64 ?_;refine oL Tryz.isAgg64 ?_;refine oV ?_
   first | (refine o_sub trivial rfl rfl rfl ?_ ?_; (omega)) | refine oV ?_
   refine o_elemRow trivial rfl Tryz.underlying64 Tryz.sizeOf20 rfl (by repeat constructor) rfl (by omega) ?_;refine o_loadRow1 trivial rfl Tryz.isAgg20 (by repeat constructor) rfl (by rw [e, Nat.mul_one]; exact hx) ?_;refine o_assertY trivial rfl rfl (fun w => by kernel_rfl) ?_;iterate 3 refine oV ?_
   refine o_alloc trivial rfl Tryz.zeroValue162 rfl (fun b5 => ?_);refine oS Tryz.sizeOf162 ?_;refine oV ?_;refine nS ?_;refine oA Tryz.isAgg162 Tryz.sizeOf162 ?_;refine oV ?_;refine oS Tryz.sizeOf162 ?_;refine oV ?_;refine nF ?_;refine retR rfl (.agg Tryz.isAgg162 Tryz.sizeOf162 rfl (by repeat constructor) rfl (.tmp rfl .nil)) ?_;exact fun w' hw' => ⟨I, [rdB b vall i vs vi vl vo va, skR vs (K ++ [opI k p br] ++ [x])], hw'.sort (by repeat constructor), Ext.refl _ _, rfl, rfl, rfl⟩
  have f1 := h1;try simp only [bl] at f1
  exfalso; omega
theorem rdNumber_any (b i : Nat) (vall vs vi vl vo va : Value) (a : Int) (K : List Value) {I : Hp} (hK : K.length ≤ 100000) : Fun Tryz.prog 158 [.pointer (some ⟨b, 0, none⟩)] I [rdB b vall i vs vi vl vo va, skR vs (K ++ [odI a])]
    (fun v I' B' => I = I' ∧ v = .int .i64 a ∧ ∃ vs', B' = [rdB b vall i vs' vi vl vo va, skR vs' K]) := by
  intro w hw
  refine enter1 _ Tryz.func158 rfl Tryz.ntmps158 rfl ?_ hw;refine sR ?_;refine oV ?_;refine nU ?_;refine oV ?_;refine oC trivial rfl Tryz.call157 rfl (pop_any b i vall vs vi vl vo va _ K (by omega)) (by repeat constructor) ?_;rintro _ _ _ hxp ⟨rfl, rfl, vs', rfl⟩;refine o_assertY trivial rfl rfl (fun w => by kernel_rfl) ?_;iterate 5 refine oV ?_
  refine nS ?_;refine oV ?_;refine nT ?_;refine c_cond_t rfl (by rfl) ?_;refine sR ?_;iterate 2 refine oV ?_
  refine nF ?_;refine ret1 rfl rfl ?_;exact fun w' hw' => ⟨I, [rdB b vall i vs' vi vl vo va, skR vs' K], hw'.sort (by repeat constructor), Ext.refl _ _, rfl, rfl, _, rfl⟩
def ndV (c : NodeV) : Value := .agg c.cells.toArray
theorem node_plain {c : NodeV} (h1 : c.vn.oneCell' = true) (h2 : c.vd.oneCell' = true) : plain1 c.cells = true := by unfold NodeV.cells; simp only [plain1, h1, h2]; rfl
theorem nds_more (ns : List NodeV) (c : NodeV) : (nds (ns ++ [c])).flatten = (nds ns).flatten ++ c.cells := by simp [nds]
theorem node_any (b i : Nat) (vall vs vi vl vo va : Value) (c : NodeV) (ns : List NodeV) (K : List Value) {I : Hp} (hc : c.ok I) (hK : K.length ≤ 90000) (hn : ns.length ≤ 90000) : Fun Tryz.prog 159 [.pointer (some ⟨b, 0, none⟩), ndV c] I [rdB b vall i vs vi vl vo va, skR vs K, ndR va ns]
    (fun v I' B' => I = I' ∧ v = .tuple #[] ∧ ∃ vs' va', B' = [rdB b vall i vs' vi vl vo va', skR vs' (K ++ [odI ns.length]), ndR va' (ns ++ [c])]) := by
  have hc1 := hc.1.cells1
  have hc2 := hc.2.cells1
  have hl : (ns ++ [c]).length = ns.length + 1 := by simp
  unfold ndV
  intro w hw
  refine enter2 _ Tryz.func159 rfl Tryz.ntmps159 rfl ?_ hw;refine sR ?_;refine o_box trivial rfl rfl rfl (fun b3 => ?_);refine oN (tC (cS ?_));refine h_beginB (m := 13) [.box b3 _] (by repeat constructor) (by kernel_rfl) rfl ?_;refine qT (i := 0) (qB 13 1) (Hp.Le.refl _) rfl rfl (oV qF) ?_;refine qT (i := 1) (qB 13 3) (Hp.Le.refl _) rfl rfl (oV qF) ?_;refine qT (i := 2) (qB 13 7) (Hp.Le.refl _) rfl rfl (oV qF) ?_;refine qT (i := 3) (qB 13 15) (Hp.Le.refl _) rfl rfl (oF 3 Tryz.underlying66 Tryz.sizeOf27 qF) ?_;refine qT (i := 4) (qB 13 31) (Hp.Le.refl _) rfl rfl (oF 3 Tryz.underlying27 Tryz.sizeOf25 qF) ?_;refine qT (i := 6) (qB 13 95) (Hp.Le.refl _) rfl rfl (oA Tryz.isAgg44 Tryz.sizeOf44 qF) ?_;refine h_go [5, 7] (by kernel_rfl) rfl (TWHs.cons ?_ (TWHs.cons ?_ TWHs.nil))
  ·
   refine qP (qB 13 127) rfl ?_;refine oL Tryz.isAgg25 ?_;refine qM (Hp.Le.refl _) ?_;refine qO (i := 7) (qB 13 255) rfl ?_;refine oB Tryz.underlying25 Tryz.sizeOf44 Tryz.zeroValue44 fun b11 => ?_;refine qM (Hp.Le.refl _) ?_;refine qO (i := 8) (qB 13 511) rfl ?_;refine o_appendBox trivial rfl Tryz.underlying25 (elem44) (by decide) rfl rfl (fun v' => (by repeat constructor)) (by repeat constructor) rfl (by exact node_plain hc1.2 hc2.2) (by first | omega | (unfold maxLen; omega)) (by omega) (fun v12 => ?_);refine qM (Hp.Le.refl _) ?_;refine qT (i := 9) (qB 13 1023) (Hp.Le.refl _) rfl rfl (oV qF) ?_;refine qT (i := 10) (qB 13 2047) (Hp.Le.refl _) rfl rfl (oF 3 Tryz.underlying66 Tryz.sizeOf27 qF) ?_;refine qT (i := 11) (qB 13 4095) (Hp.Le.refl _) rfl rfl (oF 3 Tryz.underlying27 Tryz.sizeOf25 qF) ?_;refine qO (i := 12) (qB 13 8191) rfl ?_;refine l_rowCells (u := v12) (by repeat constructor) (fun hcv => ?_);refine o_storeBox1 trivial rfl rfl (hcv).1 Tryz.sizeOf25 (hcv).2 (by repeat constructor) (by exact Nat.le_of_ble_eq_true rfl) ?_;refine qM (Hp.Le.refl _) ?_;refine h_end (by kernel_rfl) ?_;refine tC (cR ?_);iterate 3 refine oV ?_
   refine oF 3 Tryz.underlying66 Tryz.sizeOf27 ?_;refine oF 3 Tryz.underlying27 Tryz.sizeOf25 ?_;refine oL Tryz.isAgg25 ?_;refine o_lenRow trivial rfl Tryz.underlying25 rfl (by repeat constructor) ?_
   first | (refine o_sub trivial rfl rfl rfl ?_ ?_; (omega)) | refine oV ?_
   rw [show (((ns.length + 1 : Nat) : Int) - 1) = (ns.length : Int) by omega]
   refine o_iface trivial rfl Tryz.underlying194 rfl ?_;refine oC trivial rfl Tryz.call135 rfl (push_any b i vall vs vi vl vo v12 _ _ K (by omega)) (by repeat constructor) ?_;rintro _ _ _ hxp ⟨rfl, rfl, vs', rfl⟩;refine oN ?_;refine ret0 rfl ?_;exact fun w' hw' => ⟨I, [rdB b vall i vs' vi vl vo v12, skR vs' (K ++ [odI ns.length]), ndR v12 (ns ++ [c])], (by unfold ndR; rw [hl, nds_more]; exact hw'.sort (by repeat constructor)), Ext.refl _ _, rfl, rfl, _, _, rfl⟩
  refine qP (qB 13 223) rfl ?_;refine oB Tryz.underlying25 Tryz.sizeOf44 Tryz.zeroValue44 fun b11 => ?_;refine qM (Hp.Le.refl _) ?_;refine qO (i := 5) (qB 13 255) rfl ?_;refine oL Tryz.isAgg25 ?_;refine qM (Hp.Le.refl _) ?_;refine qO (i := 8) (qB 13 511) rfl ?_;refine o_appendBox trivial rfl Tryz.underlying25 (elem44) (by decide) rfl rfl (fun v' => (by repeat constructor)) (by repeat constructor) rfl (by exact node_plain hc1.2 hc2.2) (by first | omega | (unfold maxLen; omega)) (by omega) (fun v12 => ?_);refine qM (Hp.Le.refl _) ?_;refine qT (i := 9) (qB 13 1023) (Hp.Le.refl _) rfl rfl (oV qF) ?_;refine qT (i := 10) (qB 13 2047) (Hp.Le.refl _) rfl rfl (oF 3 Tryz.underlying66 Tryz.sizeOf27 qF) ?_;refine qT (i := 11) (qB 13 4095) (Hp.Le.refl _) rfl rfl (oF 3 Tryz.underlying27 Tryz.sizeOf25 qF) ?_;refine qO (i := 12) (qB 13 8191) rfl ?_;refine l_rowCells (u := v12) (by repeat constructor) (fun hcv => ?_);refine o_storeBox1 trivial rfl rfl (hcv).1 Tryz.sizeOf25 (hcv).2 (by repeat constructor) (by exact Nat.le_of_ble_eq_true rfl) ?_;refine qM (Hp.Le.refl _) ?_;refine h_end (by kernel_rfl) ?_;refine tC (cR ?_);iterate 3 refine oV ?_
  refine oF 3 Tryz.underlying66 Tryz.sizeOf27 ?_;refine oF 3 Tryz.underlying27 Tryz.sizeOf25 ?_;refine oL Tryz.isAgg25 ?_;refine o_lenRow trivial rfl Tryz.underlying25 rfl (by repeat constructor) ?_
  first | (refine o_sub trivial rfl rfl rfl ?_ ?_; (omega)) | refine oV ?_
  rw [show (((ns.length + 1 : Nat) : Int) - 1) = (ns.length : Int) by omega]
  refine o_iface trivial rfl Tryz.underlying194 rfl ?_;refine oC trivial rfl Tryz.call135 rfl (push_any b i vall vs vi vl vo v12 _ _ K (by omega)) (by repeat constructor) ?_;rintro _ _ _ hxp ⟨rfl, rfl, vs', rfl⟩;refine oN ?_;refine ret0 rfl ?_;exact fun w' hw' => ⟨I, [rdB b vall i vs' vi vl vo v12, skR vs' (K ++ [odI ns.length]), ndR v12 (ns ++ [c])], (by unfold ndR; rw [hl, nds_more]; exact hw'.sort (by repeat constructor)), Ext.refl _ _, rfl, rfl, _, _, rfl⟩
theorem or3_t {a b c : Bool} (h : (!a || !b || !c) = true) : (a && (b && c)) = false := by revert h; cases a <;> cases b <;> cases c <;> decide
theorem or3_f {a b c : Bool} (h : (!a || !b || !c) = false) : (a && (b && c)) = true := by revert h; cases a <;> cases b <;> cases c <;> decide
theorem or2_t {a b : Bool} (h : (!a || !b) = true) : (a && b) = false := by revert h; cases a <;> cases b <;> decide
theorem or2_f {a b : Bool} (h : (!a || !b) = false) : (a && b) = true := by revert h; cases a <;> cases b <;> decide
def adv (t : Bool) (i : Nat) : Nat := if t then i + 1 else i
theorem hdT_lt {L : List Tok} {i : Nat} {k : Int} {s : ByteArray} (h : hdT (L.drop i) k s = true) : i < L.length := by
  rw [hdT_at] at h
  simp at h
  exact h.1
theorem adv_le {L : List Tok} {i : Nat} {k : Int} {s : ByteArray} (h : i ≤ L.length) : adv (hdT (L.drop i) k s) i ≤ L.length := by
  unfold adv
  split
  · rename_i h1; exact hdT_lt h1
  · exact h
theorem rdTake_any (b i : Nat) (vall vs vi vl vo va : Value) (k : Int) (s : ByteArray) (L : List Tok) {I : Hp} (hL : Slc I 4 vall (L.map Tok.cells)) (hn : L.length ≤ 100000) : Fun Tryz.prog 100 [.pointer (some ⟨b, 0, none⟩), .int .i64 k, .string s] I [rdB b vall i vs vi vl vo va]
    (fun v I' B' => I = I' ∧ v = .bool (hdT (L.drop i) k s) ∧ B' = [rdB b vall (adv (hdT (L.drop i) k s) i) vs vi vl vo va]) := by
  have hk := hdT_at (L := L) (i := i) k s
  unfold isT at hk
  intro w hw
  refine enter3 _ Tryz.func100 rfl Tryz.ntmps100 rfl ?_ hw;refine sR ?_;refine oV ?_;refine nS ?_;refine oV ?_;refine oC trivial rfl Tryz.call41 rfl (rdNext_any b i vall vs vi vl vo va L hL) (by repeat constructor) ?_;rintro _ _ _ hx ⟨rfl, rfl, rfl⟩;iterate 3 refine oV ?_
  refine o_alloc trivial rfl Tryz.zeroValue68 rfl (fun b7 => ?_);refine oS Tryz.sizeOf68 ?_;refine oV ?_;refine nU ?_;iterate 2 refine oV ?_
  refine' o_or trivial trivial rfl rfl rfl rfl rfl rfl rfl rfl (fun hb16 => ?_) ?_;rotate_left
  ·
   have fb16 := hb16
   try simp only [bl] at fb16
   refine gF hb16 0 Tryz.underlying68 Tryz.sizeOf3 ?_;refine gL hb16 Tryz.isAgg3 ?_;iterate 2 refine gV hb16 ?_
   refine oN ?_;exact joins rfl
  refine' o_or trivial trivial rfl rfl rfl rfl rfl rfl rfl rfl (fun hb22 => ?_) ?_;rotate_left
  ·
   have fb22 := hb22
   try simp only [bl] at fb22
   refine gF hb22 1 Tryz.underlying68 Tryz.sizeOf9 ?_;refine gL hb22 Tryz.isAgg9 ?_;iterate 2 refine gV hb22 ?_
   refine oN ?_;exact joins rfl
  refine nT ?_;refine cC rfl (fun h1 => ?_) (fun h1 => ?_)
  ·
   have f1 := h1;try simp only [bl] at f1
   have hf := hk.trans (or3_t h1)
   refine sR ?_;refine oV ?_;refine nF ?_;refine ret1 rfl rfl ?_;refine leaf (Ext.refl _ _) (.cons _ (.cons_cons _ (List.nil_sublist _))) ⟨rfl, by rw [hf], ?_⟩; rw [hf]; rfl
  have f1 := h1;try simp only [bl] at f1
  have hf := hk.trans (or3_f h1)
  have hlt := hdT_lt hf
  refine kS ?_;iterate 2 refine oV ?_
  refine oF 1 Tryz.underlying66 Tryz.sizeOf3 ?_;refine oL Tryz.isAgg3 ?_
  first | (refine o_add trivial rfl rfl rfl ?_ ?_; (omega)) | refine oV ?_
  refine oV ?_;refine oF 1 Tryz.underlying66 Tryz.sizeOf3 ?_;refine oS Tryz.sizeOf3 ?_;refine nS ?_;refine oV ?_;refine nE ?_;refine ret1 rfl rfl ?_;exact fun w' hw' => ⟨I, [rdB b vall (i + 1) vs vi vl vo va], hw'.sort (by repeat constructor), Ext.refl _ _, rfl, by rw [hf], by rw [hf]; rfl⟩
theorem rdMark_any (b i : Nat) (vall vs vi vl vo va : Value) (s : ByteArray) (L : List Tok) {I : Hp} (hL : Slc I 4 vall (L.map Tok.cells)) (hn : L.length ≤ 100000) : Fun Tryz.prog 102 [.pointer (some ⟨b, 0, none⟩), .string s] I [rdB b vall i vs vi vl vo va]
    (fun v I' B' => I = I' ∧ v = .bool (hdT (L.drop i) 2 s) ∧ B' = [rdB b vall (adv (hdT (L.drop i) 2 s) i) vs vi vl vo va]) := by
  intro w hw
  refine enter2 _ Tryz.func102 rfl Tryz.ntmps102 rfl ?_ hw;refine sR ?_;refine oV ?_;refine nS ?_;iterate 2 refine oV ?_
  refine oC trivial rfl Tryz.call100 rfl (rdTake_any b i vall vs vi vl vo va 2 s L hL hn) (by repeat constructor) ?_;rintro _ _ _ hx ⟨rfl, rfl, rfl⟩;refine oV ?_;refine nE ?_;refine ret1 rfl rfl ?_;exact leaf (Ext.refl _ _) (List.Sublist.refl _) ⟨rfl, rfl, rfl⟩
theorem rdKey_any (b i : Nat) (vall vs vi vl vo va : Value) (s : ByteArray) (L : List Tok) {I : Hp} (hL : Slc I 4 vall (L.map Tok.cells)) (hn : L.length ≤ 100000) : Fun Tryz.prog 69 [.pointer (some ⟨b, 0, none⟩), .string s] I [rdB b vall i vs vi vl vo va]
    (fun v I' B' => I = I' ∧ v = .bool (hdT (L.drop i) 0 s) ∧ B' = [rdB b vall (adv (hdT (L.drop i) 0 s) i) vs vi vl vo va]) := by
  intro w hw
  refine enter2 _ Tryz.func69 rfl Tryz.ntmps69 rfl ?_ hw;refine sR ?_;refine oV ?_;refine nS ?_;iterate 2 refine oV ?_
  refine oC trivial rfl Tryz.call100 rfl (rdTake_any b i vall vs vi vl vo va 0 s L hL hn) (by repeat constructor) ?_;rintro _ _ _ hx ⟨rfl, rfl, rfl⟩;refine oV ?_;refine nE ?_;refine ret1 rfl rfl ?_;exact leaf (Ext.refl _ _) (List.Sublist.refl _) ⟨rfl, rfl, rfl⟩
theorem hdN_at {L : List Tok} {i : Nat} : hdN (L.drop i) = (decide (i < L.length) && nameT (tkAt L i)) := by
  by_cases h : i < L.length
  · rw [List.drop_eq_getElem_cons h, decide_eq_true h, Bool.true_and, tkAt_in (List.getElem?_eq_getElem h)]; rfl
  · rw [List.drop_eq_nil_of_le (by omega), decide_eq_false h]; rfl
theorem hdN_lt {L : List Tok} {i : Nat} (h : hdN (L.drop i) = true) : i < L.length := by
  rw [hdN_at] at h
  simp at h
  exact h.1
def TkSmall (L : List Tok) : Prop := ∀ t ∈ L, t.text.size ≤ 60000
theorem TkSmall.at_ {L : List Tok} (h : TkSmall L) (i : Nat) : (tkAt L i).text.size ≤ 60000 := by
  by_cases hi : i < L.length
  · rw [tkAt_in (List.getElem?_eq_getElem hi)]; exact h _ (List.getElem_mem hi)
  · rw [tkAt_out (by omega)]; exact Nat.zero_le _
theorem rdName_any (b i : Nat) (vall vs vi vl vo va : Value) (L : List Tok) {I : Hp} (hL : Slc I 4 vall (L.map Tok.cells)) (hn : L.length ≤ 100000) (hs : TkSmall L) : Fun Tryz.prog 101 [.pointer (some ⟨b, 0, none⟩)] I [rdB b vall i vs vi vl vo va]
    (fun v I' B' => I = I' ∧ v = .tuple #[.string (if hdN (L.drop i) then (tkAt L i).text else ⟨#[]⟩), .bool (hdN (L.drop i))] ∧ B' = [rdB b vall (adv (hdN (L.drop i)) i) vs vi vl vo va]) := by
  have hk := hdN_at (L := L) (i := i)
  have hsm := hs.at_ i
  unfold nameT at hk
  intro w hw
  refine enter1 _ Tryz.func101 rfl Tryz.ntmps101 rfl ?_ hw;refine sR ?_;iterate 2 refine oV ?_
  refine nS ?_;refine oV ?_;refine oC trivial rfl Tryz.call41 rfl (rdNext_any b i vall vs vi vl vo va L hL) (by repeat constructor) ?_;rintro _ _ _ hx ⟨rfl, rfl, rfl⟩;iterate 3 refine oV ?_
  refine o_alloc trivial rfl Tryz.zeroValue68 rfl (fun b4 => ?_);refine oS Tryz.sizeOf68 ?_;refine oV ?_;refine nU ?_;iterate 2 refine oV ?_
  refine' o_or trivial trivial rfl rfl rfl rfl rfl rfl rfl rfl (fun hb13 => ?_) ?_;rotate_left
  ·
   have fb13 := hb13
   try simp only [bl] at fb13
   refine gF hb13 0 Tryz.underlying68 Tryz.sizeOf3 ?_;refine gL hb13 Tryz.isAgg3 ?_;refine gV hb13 ?_;refine oN ?_;exact joins rfl
  refine' o_or trivial trivial rfl rfl rfl rfl rfl rfl rfl rfl (fun hb18 => ?_) ?_;rotate_left
  ·
   have fb18 := hb18
   try simp only [bl] at fb18
   refine gF hb18 1 Tryz.underlying68 Tryz.sizeOf9 ?_;refine gL hb18 Tryz.isAgg9 ?_;refine o_callQ (wS rfl rfl hb18) rfl Tryz.call33 rfl (name_any _ (by first | omega | decide | (simp only [ByteArray.size_append, lit_size, strOf_size, List.size_toArray, List.length_cons, List.length_nil]; omega))) ?_;refine gV hb18 ?_;refine oN ?_;exact joins rfl
  refine nT ?_;refine cC rfl (fun h1 => ?_) (fun h1 => ?_)
  ·
   have f1 := h1;try simp only [bl] at f1
   have hf := hk.trans (or3_t h1)
   refine sR ?_;iterate 2 refine oV ?_
   refine nF ?_;refine ret2 rfl rfl rfl ?_;refine leaf (Ext.refl _ _) (.cons _ (.cons_cons _ (List.nil_sublist _))) ⟨rfl, by rw [hf]; rfl, ?_⟩; rw [hf]; rfl
  have f1 := h1;try simp only [bl] at f1
  have hf := hk.trans (or3_f h1)
  have hlt := hdN_lt hf
  refine kS ?_;iterate 2 refine oV ?_
  refine oF 1 Tryz.underlying66 Tryz.sizeOf3 ?_;refine oL Tryz.isAgg3 ?_
  first | (refine o_add trivial rfl rfl rfl ?_ ?_; (omega)) | refine oV ?_
  refine oV ?_;refine oF 1 Tryz.underlying66 Tryz.sizeOf3 ?_;refine oS Tryz.sizeOf3 ?_;refine nS ?_;refine oF 1 Tryz.underlying68 Tryz.sizeOf9 ?_;refine oL Tryz.isAgg9 ?_;iterate 2 refine oV ?_
  refine nE ?_;refine ret2 rfl rfl rfl ?_;exact fun w' hw' => ⟨I, [rdB b vall (i + 1) vs vi vl vo va], hw'.sort (by repeat constructor), Ext.refl _ _, rfl, by rw [hf]; rfl, by rw [hf]; rfl⟩
theorem signs_any (s : ByteArray) {I : Hp} : Fun Tryz.prog 133 [.string s] I [] (fun v I' _ => I = I' ∧ ∃ k, v = .tuple #[opV k (if k = 0 then 0 else bindK k) false, .bool (decide (k ≠ 0))] ∧ k = (if s.toList == plusS.toList then 2 else if s.toList == minusS.toList then 3 else if s.toList == starS.toList then 4 else if s.toList == slashS.toList then 5 else 0)) := by
  intro w hw
  refine enter1 _ Tryz.func133 rfl Tryz.ntmps133 rfl ?_ hw;refine sR ?_;refine o_alloc trivial rfl Tryz.zeroValue162 rfl (fun b2 => ?_);refine oV ?_;refine nU ?_;refine oV ?_;refine oN (tC (cB (sR ?_)));iterate 2 refine oV ?_
  refine nT ?_;refine cC rfl (fun h1 => ?_) (fun h1 => ?_)
  ·
   have f1 := h1;try simp only [bl] at f1
   refine sR ?_;refine o_buildS trivial rfl (bld162) rfl (.cons rfl rfl rfl (by repeat constructor) (.cons rfl rfl rfl (by repeat constructor) .nil)) ?_;refine oS Tryz.sizeOf162 ?_;refine oV ?_;refine oN (tC (cT (blk_r (tR ?_))));refine retR rfl (.agg Tryz.isAgg162 Tryz.sizeOf162 rfl (by repeat constructor) rfl (.tmp rfl .nil)) ?_;exact leaf0 ⟨rfl, 2, rfl, by rw [if_pos (by exact h1)]⟩
  have f1 := h1;try simp only [bl] at f1
  refine sR ?_;iterate 2 refine oV ?_
  refine nT ?_;refine cC rfl (fun h2 => ?_) (fun h2 => ?_)
  ·
   have f2 := h2;try simp only [bl] at f2
   refine sR ?_;refine o_buildS trivial rfl (bld162) rfl (.cons rfl rfl rfl (by repeat constructor) (.cons rfl rfl rfl (by repeat constructor) .nil)) ?_;refine oS Tryz.sizeOf162 ?_;refine oV ?_;refine oN (tC (cT (blk_r (tR ?_))));refine retR rfl (.agg Tryz.isAgg162 Tryz.sizeOf162 rfl (by repeat constructor) rfl (.tmp rfl .nil)) ?_;exact leaf0 ⟨rfl, 3, rfl, by rw [if_neg (by exact ne_true_of_eq_false h1), if_pos (by exact h2)]⟩
  have f2 := h2;try simp only [bl] at f2
  refine sR ?_;iterate 2 refine oV ?_
  refine nT ?_;refine cC rfl (fun h3 => ?_) (fun h3 => ?_)
  ·
   have f3 := h3;try simp only [bl] at f3
   refine sR ?_;refine o_buildS trivial rfl (bld162) rfl (.cons rfl rfl rfl (by repeat constructor) (.cons rfl rfl rfl (by repeat constructor) .nil)) ?_;refine oS Tryz.sizeOf162 ?_;refine oV ?_;refine oN (tC (cT (blk_r (tR ?_))));refine retR rfl (.agg Tryz.isAgg162 Tryz.sizeOf162 rfl (by repeat constructor) rfl (.tmp rfl .nil)) ?_;exact leaf0 ⟨rfl, 4, rfl, by rw [if_neg (by exact ne_true_of_eq_false h1), if_neg (by exact ne_true_of_eq_false h2), if_pos (by exact h3)]⟩
  have f3 := h3;try simp only [bl] at f3
  refine sR ?_;iterate 2 refine oV ?_
  refine nT ?_;refine cC rfl (fun h4 => ?_) (fun h4 => ?_)
  ·
   have f4 := h4;try simp only [bl] at f4
   refine sR ?_;refine o_buildS trivial rfl (bld162) rfl (.cons rfl rfl rfl (by repeat constructor) (.cons rfl rfl rfl (by repeat constructor) .nil)) ?_;refine oS Tryz.sizeOf162 ?_;refine oV ?_;refine oN (tC (cT (blk_r (tR ?_))));refine retR rfl (.agg Tryz.isAgg162 Tryz.sizeOf162 rfl (by repeat constructor) rfl (.tmp rfl .nil)) ?_;exact leaf0 ⟨rfl, 5, rfl, by rw [if_neg (by exact ne_true_of_eq_false h1), if_neg (by exact ne_true_of_eq_false h2), if_neg (by exact ne_true_of_eq_false h3), if_pos (by exact h4)]⟩
  have f4 := h4;try simp only [bl] at f4
  refine cK (blk_n (tC (sR ?_)));refine o_buildS trivial rfl (bld162) rfl .nil ?_;refine oS Tryz.sizeOf162 ?_;refine oV ?_;refine nE ?_;refine retR rfl (.agg Tryz.isAgg162 Tryz.sizeOf162 rfl (by repeat constructor) rfl (.tmp rfl .nil)) ?_;exact leaf0 ⟨rfl, 0, rfl, by rw [if_neg (by exact ne_true_of_eq_false h1), if_neg (by exact ne_true_of_eq_false h2), if_neg (by exact ne_true_of_eq_false h3), if_neg (by exact ne_true_of_eq_false h4)]⟩
def encF : Fr → List Value
  | .neg => [opI 6 3 false]
  | .br => [opI 0 0 true]
  | .bin k a => [odI a, opI k (bindK k) false]
def stk : List Fr → List Value
  | [] => []
  | f :: K => stk K ++ encF f
theorem encF_len (f : Fr) : (encF f).length ≤ 2 := by cases f <;> simp [encF]
theorem stk_len : ∀ (K : List Fr), (stk K).length ≤ 2 * K.length
  | [] => Nat.le_refl _
  | f :: K => by
    have := stk_len K
    have := encF_len f
    simp only [stk, List.length_append, List.length_cons]
    omega
def negNV (a : Int) : NodeV := ⟨negN a, .slice none 0 0, .slice none 0 0⟩
def binNV (k a b : Int) : NodeV := ⟨binN k a b, .slice none 0 0, .slice none 0 0⟩
theorem negNV_ok {I : Hp} (a : Int) : (negNV a).ok I := ⟨Ws.nil _, Ws.nil _⟩
theorem binNV_ok {I : Hp} (k a b : Int) : (binNV k a b).ok I := ⟨Ws.nil _, Ws.nil _⟩
def lastN (ns : List NodeV) : Int := (ns.length : Int) - 1
theorem lastN_eq (ns : List NodeV) : lastN ns = lastI (ns.map NodeV.c) := by unfold lastN lastI; rw [List.length_map]
theorem lastN_more (ns : List NodeV) (c : NodeV) : lastN (ns ++ [c]) = (ns.length : Int) := by unfold lastN; rw [List.length_append]; show ((ns.length + 1 : Nat) : Int) - 1 = _; omega
def opK : Fr → Int
  | .neg => 6
  | .br => 0
  | .bin k _ => k
def opP : Fr → Int
  | .neg => 3
  | .br => 0
  | .bin k _ => bindK k
def opB : Fr → Bool
  | .br => true
  | _ => false
def preF : Fr → List Value
  | .bin _ a => [odI a]
  | _ => []
theorem stk_top (f : Fr) (K : List Fr) : stk (f :: K) = stk K ++ preF f ++ [opI (opK f) (opP f) (opB f)] := by cases f <;> simp [stk, encF, preF, opK, opP, opB]
theorem preF_len (f : Fr) : (preF f).length ≤ 1 := by cases f <;> simp [preF]
theorem foldK_stop {p : Int} {f : Fr} {K : List Fr} {all : List NodeC} (h : opB f = true ∨ opP f < p) : foldK p (f :: K) all = (f :: K, all) := by
  cases f with
  | br => rfl
  | neg => rcases h with h | h; · cases h
           unfold foldK; rw [if_neg (by simp only [opP] at h; omega)]
  | bin k a => rcases h with h | h; · cases h
               unfold foldK; rw [if_neg (by simp only [opP] at h; omega)]
theorem foldK_neg {p : Int} {K : List Fr} {ns : List NodeV} (h : ¬ opP .neg < p) : foldK p (.neg :: K) (ns.map NodeV.c) = foldK p K ((ns ++ [negNV (lastN ns)]).map NodeV.c) := by
  simp only [opP] at h
  conv => lhs; unfold foldK
  rw [if_pos (by omega), List.map_append, lastN_eq]; rfl
theorem foldK_bin {p k a : Int} {K : List Fr} {ns : List NodeV} (h : ¬ opP (.bin k a) < p) : foldK p (.bin k a :: K) (ns.map NodeV.c) = foldK p K ((ns ++ [binNV k a (lastN ns)]).map NodeV.c) := by
  simp only [opP] at h
  conv => lhs; unfold foldK
  rw [if_pos (by omega), List.map_append, lastN_eq]; rfl
theorem fr_neg {f : Fr} (hK : FrOk [f]) (h : opB f = false) (h6 : opK f = 6) : f = .neg := by
  cases f with
  | br => cases h
  | neg => rfl
  | bin k a => simp only [opK] at h6; have := hK.2.1; omega
theorem fr_bin {f : Fr} (h : opB f = false) (h6 : ¬ opK f = 6) : ∃ k a, f = .bin k a := by
  cases f with
  | br => cases h
  | neg => exact absurd rfl h6
  | bin k a => exact ⟨k, a, rfl⟩
theorem frHead {f : Fr} {K : List Fr} (h : FrOk (f :: K)) : FrOk [f] ∧ FrOk K := by
  cases f with
  | br => exact ⟨trivial, h⟩
  | neg => exact ⟨trivial, h⟩
  | bin k a => exact ⟨⟨h.1, h.2.1, trivial⟩, h.2.2⟩
theorem fold_any (b i : Nat) (vall vs vi vl vo va : Value) (p : Int) (ns : List NodeV) (K : List Fr) (hK : FrOk K) {I : Hp} (hok : ∀ o ∈ ns, o.ok I) (hn : ns.length + K.length ≤ 20000) (h1 : 1 ≤ ns.length) :
    Fun Tryz.prog 134 [.pointer (some ⟨b, 0, none⟩), .int .i64 p] I [rdB b vall i vs vi vl vo va, skR vs (stk K ++ [odI (lastN ns)]), ndR va ns]
    (fun v I' B' => I = I' ∧ v = .tuple #[] ∧ ∃ vs' va' ns', B' = [rdB b vall i vs' vi vl vo va', skR vs' (stk (foldK p K (ns.map NodeV.c)).1 ++ [odI (lastN ns')]), ndR va' ns'] ∧ ns'.map NodeV.c = (foldK p K (ns.map NodeV.c)).2 ∧ (∀ o ∈ ns', o.ok I) ∧ 1 ≤ ns'.length ∧ ns'.length + (foldK p K (ns.map NodeV.c)).1.length ≤ ns.length + K.length) := by
  intro w hw
  refine enter2 _ Tryz.func134 rfl Tryz.ntmps134 rfl ?_ hw;refine cB ?_;refine c_loop (ι := List Fr × List NodeV × Value × Value) [0, 1] (.cons rfl (.cons rfl .nil)) (fun x => x.1.length) (fun x E0 => E0) (fun x => St w (keysOf [rdB b vall i vs vi vl vo va, skR vs (stk K ++ [odI (lastN ns)]), ndR va ns]) I [rdB b vall i x.2.2.1 vi vl vo x.2.2.2, skR x.2.2.1 (stk x.1 ++ [odI (lastN x.2.1)]), ndR x.2.2.2 x.2.1]) (fun x => FrOk x.1 ∧ foldK p K (ns.map NodeV.c) = foldK p x.1 (x.2.1.map NodeV.c) ∧ (∀ o ∈ x.2.1, o.ok I) ∧ 1 ≤ x.2.1.length ∧ x.2.1.length + x.1.length ≤ ns.length + K.length) ((K, ns, vs, va)) (sC rfl (sC rfl sN)) (fun _ h => h) (⟨hK, rfl, hok, h1, Nat.le_refl _⟩) ?_;rintro ⟨K1, ns1, us, ua⟩ ⟨hK1, hF, hok1, hn1, hle1⟩
  try dsimp only
  simp only at hK1 hF hok1 hn1 hle1
  refine cB (cS ?_)
  rcases K1 with _ | ⟨f, K2⟩
  ·
   refine cR ?_;refine oV ?_;refine oC trivial rfl Tryz.call156 rfl (top_low b i vall us vi vl vo ua (stk [] ++ [odI (lastN ns1)]) (Nat.le_refl 1)) (by repeat constructor) ?_;rintro _ _ _ hx ⟨rfl, rfl, rfl⟩;iterate 3 refine oV ?_
   refine o_alloc trivial rfl Tryz.zeroValue162 rfl (fun b4 => ?_);refine oS Tryz.sizeOf162 ?_;refine oV ?_;refine nU ?_;iterate 2 refine oV ?_
   refine' o_or trivial trivial rfl rfl rfl rfl rfl rfl rfl rfl (fun hb15 => ?_) ?_;rotate_left
   ·
    have fb15 := hb15
    try simp only [bl] at fb15
    refine gF hb15 2 Tryz.underlying162 Tryz.sizeOf4 ?_;refine gL hb15 Tryz.isAgg4 ?_;refine oN ?_;exact joins rfl
   refine' o_or trivial trivial rfl rfl rfl rfl rfl rfl rfl rfl (fun hb19 => ?_) ?_;rotate_left
   ·
    have fb19 := hb19
    try simp only [bl] at fb19
    refine gF hb19 1 Tryz.underlying162 Tryz.sizeOf3 ?_;refine gL hb19 Tryz.isAgg3 ?_;iterate 2 refine gV hb19 ?_
    refine oN ?_;exact joins rfl
   refine nT ?_;refine c_cond_t rfl (by rfl) ?_;refine cT (tR (blk_r (tR (blk_r ?_))));refine ret0' rfl ?_;exact fun w' hw' => ⟨I, [rdB b vall i us vi vl vo ua, skR us (stk [] ++ [odI (lastN ns1)]), ndR ua ns1], hw'.sort (by repeat constructor), Ext.refl _ _, rfl, rfl, us, ua, ns1, by rw [hF]; rfl, by rw [hF]; rfl, hok1, hn1, by rw [hF]; exact hle1⟩
  rw [stk_top]
  have hst := stk_len K2
  have hpf := preF_len f
  have hsl : (stk K2 ++ preF f).length ≤ 90000 := by rw [List.length_append]; simp only [List.length_cons] at hle1; omega
  have hsl2 : (stk K2 ++ preF f ++ [opI (opK f) (opP f) (opB f)]).length ≤ 90001 := by rw [List.length_append]; exact Nat.succ_le_succ hsl
  simp only [List.length_cons] at hle1
  refine cR ?_;refine oV ?_;refine oC trivial rfl Tryz.call156 rfl (top_op b i vall us vi vl vo ua (odI (lastN ns1)) (opK f) (opP f) (opB f) (stk K2 ++ preF f) (by omega)) (by repeat constructor) ?_;rintro _ _ _ hx ⟨rfl, rfl, rfl⟩;iterate 3 refine oV ?_
  refine o_alloc trivial rfl Tryz.zeroValue162 rfl (fun b4 => ?_);refine oS Tryz.sizeOf162 ?_;refine oV ?_;refine nU ?_;iterate 2 refine oV ?_
  refine' o_or trivial trivial rfl rfl rfl rfl rfl rfl rfl rfl (fun hb15 => ?_) ?_;rotate_left
  ·
   have fb15 := hb15
   try simp only [bl] at fb15
   refine gF hb15 2 Tryz.underlying162 Tryz.sizeOf4 ?_;refine gL hb15 Tryz.isAgg4 ?_;refine oN ?_;exact joins rfl
  refine' o_or trivial trivial rfl rfl rfl rfl rfl rfl rfl rfl (fun hb19 => ?_) ?_;rotate_left
  ·
   have fb19 := hb19
   try simp only [bl] at fb19
   refine gF hb19 1 Tryz.underlying162 Tryz.sizeOf3 ?_;refine gL hb19 Tryz.isAgg3 ?_;iterate 2 refine gV hb19 ?_
   refine oN ?_;exact joins rfl
  refine nT ?_;refine cC rfl (fun h1 => ?_) (fun h1 => ?_)
  ·
   have f1 := h1;try simp only [bl] at f1
   refine cT (tR (blk_r (tR (blk_r ?_))));refine ret0' rfl ?_;exact fun w' hw' => ⟨I, [rdB b vall i us vi vl vo ua, skR us (stk K2 ++ preF f ++ [opI (opK f) (opP f) (opB f)] ++ [odI (lastN ns1)]), ndR ua ns1], hw'.sort (by repeat constructor), Ext.refl _ _, rfl, rfl, us, ua, ns1, by rw [hF, foldK_stop (by simpa [bl] using h1), ← stk_top], by rw [hF, foldK_stop (by simpa [bl] using h1)], hok1, hn1, by rw [hF, foldK_stop (by simpa [bl] using h1)]; exact hle1⟩
  have f1 := h1;try simp only [bl] at f1
  have hb : opB f = false ∧ ¬ opP f < p := by simpa [bl] using h1
  refine kS ?_;refine oV ?_;refine oC trivial rfl Tryz.call158 rfl (rdNumber_any b i vall us vi vl vo ua (lastN ns1) (stk K2 ++ preF f ++ [opI (opK f) (opP f) (opB f)]) (by omega)) (by repeat constructor) ?_;rintro _ _ _ hx2 ⟨rfl, rfl, us2, rfl⟩;refine oV ?_;refine nS ?_;refine oV ?_;refine oC trivial rfl Tryz.call157 rfl (pop_any b i vall us2 vi vl vo ua (opI (opK f) (opP f) (opB f)) (stk K2 ++ preF f) (by omega)) (by repeat constructor) ?_;rintro _ _ _ hx3 ⟨rfl, rfl, us3, rfl⟩;refine nU ?_;refine oF 0 Tryz.underlying162 Tryz.sizeOf3 ?_;refine oL Tryz.isAgg3 ?_;refine oV ?_;refine nT ?_;refine cC rfl (fun h2 => ?_) (fun h2 => ?_)
  ·
   have f2 := h2;try simp only [bl] at f2
   obtain rfl := fr_neg (frHead hK1).1 hb.1 f2
   refine sR ?_;refine oV ?_;refine oF 0 Tryz.underlying162 Tryz.sizeOf3 ?_;refine oL Tryz.isAgg3 ?_;refine oV ?_;refine o_buildS trivial rfl (bld44) rfl (.cons rfl rfl rfl (by repeat constructor) (.cons rfl rfl rfl (by repeat constructor) .nil)) ?_;refine oC trivial rfl Tryz.call159 rfl (node_any b i vall us3 vi vl vo ua (negNV (lastN ns1)) ns1 (stk K2 ++ preF .neg) (negNV_ok _) (by omega) (by omega)) (by repeat constructor) ?_;rintro _ _ _ hx4 ⟨rfl, rfl, us4, ua4, rfl⟩;refine oN (tC (c_exit (then_x (blk_eq rfl ?_))))
   first
   | exact again (K2, ns1 ++ [negNV (lastN ns1)], us4, ua4) (sC rfl (sC rfl sN)) (fun _ h => by rw [lastN_more]; simp only [preF, List.append_nil] at h; exact h.sort (by repeat constructor)) (Nat.lt_succ_self _) ⟨(frHead hK1).2, hF.trans (foldK_neg hb.2), fun o ho => by
       rcases List.mem_append.1 ho with ho | ho
       · exact hok1 o ho
       · rw [List.mem_singleton.1 ho]; exact negNV_ok _, by rw [List.length_append]; omega, by rw [List.length_append]; simp only [List.length_cons, List.length_nil]; omega⟩
   | exact again (K2, ns1 ++ [binNV k a (lastN ns1)], us5, ua5) (sC rfl (sC rfl sN)) (fun _ h => by rw [lastN_more]; exact h.sort (by repeat constructor)) (Nat.lt_succ_self _) ⟨(frHead hK1).2, hF.trans (foldK_bin hb.2), fun o ho => by
       rcases List.mem_append.1 ho with ho | ho
       · exact hok1 o ho
       · rw [List.mem_singleton.1 ho]; exact binNV_ok _ _ _, by rw [List.length_append]; omega, by rw [List.length_append]; simp only [List.length_cons, List.length_nil]; omega⟩
  have f2 := h2;try simp only [bl] at f2
  obtain ⟨k, a, rfl⟩ := fr_bin hb.1 f2
  refine kS ?_;refine oV ?_;refine oC trivial rfl Tryz.call158 rfl (rdNumber_any b i vall us3 vi vl vo ua a (stk K2) (by omega)) (by repeat constructor) ?_;rintro _ _ _ hx4 ⟨rfl, rfl, us4, rfl⟩;refine oV ?_;refine nR ?_;refine oV ?_;refine oF 0 Tryz.underlying162 Tryz.sizeOf3 ?_;refine oL Tryz.isAgg3 ?_;iterate 2 refine oV ?_
  refine o_buildS trivial rfl (bld44) rfl (.cons rfl rfl rfl (by repeat constructor) (.cons rfl rfl rfl (by repeat constructor) (.cons rfl rfl rfl (by repeat constructor) .nil))) ?_;refine oC trivial rfl Tryz.call159 rfl (node_any b i vall us4 vi vl vo ua (binNV k a (lastN ns1)) ns1 (stk K2) (binNV_ok _ _ _) (by omega) (by omega)) (by repeat constructor) ?_;rintro _ _ _ hx5 ⟨rfl, rfl, us5, ua5, rfl⟩;refine oN (blk_n ?_)
  first
  | exact again (K2, ns1 ++ [negNV (lastN ns1)], us4, ua4) (sC rfl (sC rfl sN)) (fun _ h => by rw [lastN_more]; simp only [preF, List.append_nil] at h; exact h.sort (by repeat constructor)) (Nat.lt_succ_self _) ⟨(frHead hK1).2, hF.trans (foldK_neg hb.2), fun o ho => by
      rcases List.mem_append.1 ho with ho | ho
      · exact hok1 o ho
      · rw [List.mem_singleton.1 ho]; exact negNV_ok _, by rw [List.length_append]; omega, by rw [List.length_append]; simp only [List.length_cons, List.length_nil]; omega⟩
  | exact again (K2, ns1 ++ [binNV k a (lastN ns1)], us5, ua5) (sC rfl (sC rfl sN)) (fun _ h => by rw [lastN_more]; exact h.sort (by repeat constructor)) (Nat.lt_succ_self _) ⟨(frHead hK1).2, hF.trans (foldK_bin hb.2), fun o ho => by
      rcases List.mem_append.1 ho with ho | ho
      · exact hok1 o ho
      · rw [List.mem_singleton.1 ho]; exact binNV_ok _ _ _, by rw [List.length_append]; omega, by rw [List.length_append]; simp only [List.length_cons, List.length_nil]; omega⟩
def decF (acc : Nat) (l : List UInt8) : Nat := l.foldl (fun n b => 10 * n + (b.toNat - 48)) acc
theorem decF_ge : ∀ (l : List UInt8) (acc : Nat), acc ≤ decF acc l
  | [], acc => Nat.le_refl _
  | b :: l, acc => Nat.le_trans (by omega) (decF_ge l (10 * acc + (b.toNat - 48)))
theorem decF_pow : ∀ (l : List UInt8) (acc : Nat), acc * 10 ^ l.length ≤ decF acc l
  | [], acc => by simp [decF]
  | b :: l, acc => by
    refine Nat.le_trans ?_ (decF_pow l (10 * acc + (b.toNat - 48)))
    rw [List.length_cons, Nat.pow_succ]
    calc acc * (10 ^ l.length * 10) = (10 * acc) * 10 ^ l.length := by rw [Nat.mul_comm (10 ^ l.length), ← Nat.mul_assoc, Nat.mul_comm acc]
      _ ≤ _ := Nat.mul_le_mul_right _ (by omega)
theorem pu_ok : ∀ (l : List UInt8) (acc u : Nat), Lib.parseUint10 acc l = .ok u → (∀ b ∈ l, 48 ≤ b.toNat ∧ b.toNat ≤ 57) ∧ u = decF acc l
  | [], acc, u, h => by
    simp only [Lib.parseUint10] at h
    injection h with h
    exact ⟨fun b hb => (by cases hb), h.symm⟩
  | c :: r, acc, u, h => by
    simp only [Lib.parseUint10] at h
    split at h
    · rename_i hc
      split at h
      · cases h
      · split at h
        · cases h
        · obtain ⟨h1, h2⟩ := pu_ok r _ u h
          refine ⟨fun b hb => ?_, by rw [h2, Nat.mul_comm]; rfl⟩
          rcases List.mem_cons.1 hb with rfl | hb
          · exact hc
          · exact h1 b hb
    · cases h
theorem pu_some : ∀ (l : List UInt8) (acc : Nat), (∀ b ∈ l, 48 ≤ b.toNat ∧ b.toNat ≤ 57) → decF acc l ≤ 1000000 → Lib.parseUint10 acc l = .ok (decF acc l)
  | [], acc, _, _ => rfl
  | c :: r, acc, hd, hs => by
    have hc := hd c (by simp)
    have hs' : decF (10 * acc + (c.toNat - 48)) r ≤ 1000000 := hs
    have h1 := decF_ge r (10 * acc + (c.toNat - 48))
    simp only [Lib.parseUint10]
    rw [if_pos hc, if_neg (by omega), if_neg (by omega), Nat.mul_comm]
    exact pu_some r _ (fun b hb => hd b (by simp [hb])) hs'
theorem cut_at (s : ByteArray) : ∀ (f i : Nat), s.size ≤ i + f → cutGo s f i < s.size → (s.get! (cutGo s f i)).toNat = 124
  | 0, i, h, hc => by simp only [cutGo] at hc; omega
  | f + 1, i, h, hc => by
    simp only [cutGo] at hc ⊢
    split
    · rename_i h1; rw [if_pos h1] at hc; omega
    · rename_i h1
      rw [if_neg h1] at hc
      split
      · rename_i h2; exact h2
      · rename_i h2
        rw [if_neg h2] at hc
        exact cut_at s f (i + 1) (by omega) hc
theorem atoi_num {s : ByteArray} (hs : numZ s = true) : Lib.atoiAll s.data.toList = Lib.signless (Lib.parseUint10 0 s.data.toList) ∧ 1 ≤ s.size ∧ 48 ≤ (s.get! 0).toNat ∧ (s.get! 0).toNat ≤ 57 := by
  have h0 : 1 ≤ s.size ∧ 48 ≤ (s.get! 0).toNat ∧ (s.get! 0).toNat ≤ 57 := by
    unfold numZ at hs
    split at hs
    · obtain ⟨h1, h2, _, _⟩ := partZ_digit hs
      exact ⟨h2, h1 0 (by omega)⟩
    · simp only [Bool.and_eq_true] at hs
      obtain ⟨h1, h2, _, _⟩ := partZ_digit hs.1.1
      have hle := cutZ_le s
      rw [ByteArray.size_extract] at h2
      have := h1 0 (by rw [ByteArray.size_extract]; omega)
      rw [get_piece s 0 (cutZ s) 0 hle (by omega)] at this
      exact ⟨by omega, this⟩
  have hl := list_get s 0 (by omega)
  rw [List.drop_zero] at hl
  refine ⟨?_, h0⟩
  rw [hl, Lib.atoiAll_plain _ _ (by omega) (by omega)]
  unfold Lib.parseMag
  rw [if_neg (by simp)]
theorem digit_no_cut {s : ByteArray} (hd : ∀ b ∈ s.toList, 48 ≤ b.toNat ∧ b.toNat ≤ 57) : cutZ s = s.size := by
  have hle := cutZ_le s
  by_cases h : cutZ s = s.size
  · exact h
  · have hlt : cutZ s < s.size := by omega
    have := cut_at s s.size 0 (by omega) hlt
    have hm := hd _ (List.mem_of_getElem? (get_toList hlt))
    unfold cutZ at hm
    omega
theorem expo_atoi {s : ByteArray} (hs : numZ s = true) (n : Nat) : expoZ s = some n ↔ Lib.atoiAll s.data.toList = .ok (n : Int) ∧ n ≤ 20 := by
  obtain ⟨ha, h1, h2⟩ := atoi_num hs
  have ht : s.data.toList = s.toList := (ByteArray.toList_eq s).symm
  constructor
  · intro he
    have hle := expoZ_le hs he
    have key : (∀ b ∈ s.toList, 48 ≤ b.toNat ∧ b.toNat ≤ 57) ∧ n = decN s.toList := by
      have hz := hs
      unfold numZ at hz
      unfold expoZ at he
      split at he
      · rename_i hsz
        cases he
        refine ⟨?_, rfl⟩
        split at hz
        · exact partZ_mem (partZ_digit hz).1
        · rename_i hc
          simp only [Bool.and_eq_true] at hz
          obtain ⟨_, g2, _, _⟩ := partZ_digit hz.1.1
          have := cutZ_le s
          rw [ByteArray.size_extract] at g2
          omega
      · split at he
        · rename_i hsz
          cases he
          refine ⟨?_, rfl⟩
          split at hz
          · exact partZ_mem (partZ_digit hz).1
          · rename_i hc
            simp only [Bool.and_eq_true] at hz
            obtain ⟨_, g2, _, _⟩ := partZ_digit hz.1.1
            obtain ⟨_, g3, _, _⟩ := partZ_digit hz.1.2
            have := cutZ_le s
            rw [ByteArray.size_extract] at g2 g3
            omega
        · cases he
    refine ⟨?_, hle⟩
    have hp := pu_some s.toList 0 key.1 (by show decN s.toList ≤ _; omega)
    rw [ha, ht, hp]
    show Lib.signless (.ok (decN s.toList)) = _
    rw [← key.2]
    simp only [Lib.signless]
    rw [if_neg (by omega)]
  · rintro ⟨he, hle⟩
    rw [ha, ht] at he
    cases hp : Lib.parseUint10 0 s.toList with
    | range => rw [hp] at he; cases he
    | ok u =>
      rw [hp] at he
      simp only [Lib.signless] at he
      split at he
      · cases he
      · injection he with he
        have hun : u = n := by omega
        subst hun
        obtain ⟨hd, hu⟩ := pu_ok _ _ _ hp
        have hu' : u = decN s.toList := hu
        have hc := digit_no_cut hd
        have hz := hs
        unfold numZ at hz
        rw [if_pos hc] at hz
        obtain ⟨g1, g2, g3, g4⟩ := partZ_digit hz
        unfold expoZ
        by_cases hs1 : s.size = 1
        · rw [if_pos hs1, hu']
        · rw [if_neg hs1]
          have hl := list_get s 0 (by omega)
          rw [List.drop_zero, ht] at hl
          have hlen := toList_len s
          have h48 : (s.get! 0).toNat ≠ 48 := by rcases g4 with g4 | g4; · exact absurd g4 hs1
                                                 exact g4
          have hpw : 1 * 10 ^ (s.size - 1) ≤ decN s.toList := by
            have h9 := decF_pow (s.toList.drop (0 + 1)) (10 * 0 + ((s.get! 0).toNat - 48))
            have e : (s.toList.drop (0 + 1)).length = s.size - 1 := by rw [List.length_drop, hlen]
            rw [hl]
            rw [e] at h9
            refine Nat.le_trans (Nat.mul_le_mul_right _ ?_) h9
            omega
          have hs2 : s.size = 2 := by
            rcases Nat.lt_or_ge 2 s.size with h3 | h3
            · have : 10 ^ 2 ≤ 10 ^ (s.size - 1) := Nat.pow_le_pow_right (by decide) (by omega)
              omega
            · omega
          have := g1 1 (by omega)
          rw [if_pos ⟨hs2, by omega, by omega⟩, hu']
    | _ => rw [hp] at he; cases he
theorem atoi_pos {s : ByteArray} (hs : numZ s = true) {v : Int} (h : Lib.atoiAll s.data.toList = .ok v) : 0 ≤ v := by
  rw [(atoi_num hs).1] at h
  cases hp : Lib.parseUint10 0 s.data.toList with
  | range => rw [hp] at h; cases h
  | ok u =>
    rw [hp] at h
    simp only [Lib.signless] at h
    split at h
    · cases h
    · injection h with h
      omega
  | _ => rw [hp] at h; cases h
def Errs (I : Hp) : Prop := (∃ ev, I.cell? ⟨3, 0, none⟩ = some ev ∧ (ev = .nilIface ∨ ∃ te pe, ev = .iface te pe)) ∧ ∃ ev, I.cell? ⟨4, 0, none⟩ = some ev ∧ (ev = .nilIface ∨ ∃ te pe, ev = .iface te pe)
theorem Errs.le {I I' : Hp} (h : Errs I) (hl : I.Le I') : Errs I' := by
  obtain ⟨⟨e1, h1, h2⟩, e2, h3, h4⟩ := h
  exact ⟨⟨e1, hl.cell h1, h2⟩, e2, hl.cell h3, h4⟩
theorem atoi_any (s : ByteArray) {I : Hp} (hE : Errs I) (hs : s.size ≤ 100000) : Fun Tryz.prog 168 [.string s] I [] (fun v _ _ => ∃ (n : Int) (e : Value), v = .tuple #[.int .i64 n, e] ∧ ((Lib.atoiAll s.data.toList = .ok n ∧ e = .nilIface) ∨ ((∀ m, Lib.atoiAll s.data.toList ≠ .ok m) ∧ ∃ N, e = .iface 213 (.pointer (some ⟨N, 0, none⟩))))) := by
  obtain ⟨⟨e1, k1, k2⟩, e2, k3, k4⟩ := hE
  refine fun_below fun w hw => ?_
  cases ha : Lib.atoiAll s.data.toList with
  | ok n =>
    refine (Tryz.strconv_Atoi_ok s (by omega) n ha w).mono ?_;rintro e w' ⟨rfl, h⟩;refine ⟨_, rfl, ⟨n, _, rfl, .inl ⟨rfl, rfl⟩⟩, ?_⟩
    rcases h with rfl | ⟨t, rfl⟩
    · exact ⟨rfl, rfl, rfl, Nat.le_refl _, fun _ _ => rfl⟩
    · exact Lib.bytesWorld_below _ _ _
  | range =>
    refine (Tryz.strconv_Atoi_range s (by omega) ha e2 w (Hp.In.cell hw k3) k4).mono ?_;rintro e w' ⟨N, rfl, h1, h2, h3⟩;exact ⟨_, rfl, ⟨_, _, rfl, .inr ⟨fun m h => (by cases h), N, rfl⟩⟩, h3⟩
  | _ =>
    refine (Tryz.strconv_Atoi_syntax s (by omega) ha e1 w (Hp.In.cell hw k1) k2).mono ?_;rintro e w' ⟨N, rfl, h1, h2, h3⟩;exact ⟨_, rfl, ⟨_, _, rfl, .inr ⟨fun m h => (by cases h), N, rfl⟩⟩, h3⟩
theorem mx_of {W : World} (h : W.ShapedOpen Tryz.prog) : Mx (World.hp W) := let ⟨m, hm⟩ := Tryz.laysM145.s1_3 W h; ⟨m, hm⟩
end Go.Proofs.YtmgpifkekofacaaGreatDoor
namespace Go.Tw
open Go Go.RowKit
def mEs : List (ByteArray × Value) → Nat → List MapEntry
  | [], _ => []
  | (s, v) :: l, i => ⟨.string s, v, i⟩ :: mEs l (i + 1)
def mapO (l : List (ByteArray × Value)) : Obj := .map (mEs l 0).toArray l.length
def mFind (k : ByteArray) : List (ByteArray × Value) → Nat → Option (Nat × Value)
  | [], _ => none
  | (s, v) :: l, j => if k = s then some (j, v) else mFind k l (j + 1)
def mPut (k : ByteArray) (v : Value) : List (ByteArray × Value) → List (ByteArray × Value)
  | [] => [(k, v)]
  | (s, u) :: l => if k = s then (k, v) :: l else (s, u) :: mPut k v l
theorem mEs_app : ∀ (l m : List (ByteArray × Value)) (i : Nat), mEs (l ++ m) i = mEs l i ++ mEs m (i + l.length)
  | [], m, i => rfl
  | (s, v) :: l, m, i => by
    rw [List.cons_append, mEs, mEs, mEs_app l m (i + 1), List.length_cons, List.cons_append]
    congr 3
    omega
theorem bytes_beq (a b : ByteArray) : (a == b) = decide (a = b) := by
  show (a.data == b.data) = _
  by_cases h : a = b
  · subst h; simp
  · rw [decide_eq_false h]
    have : a.data ≠ b.data := fun e => h (ByteArray.ext e)
    simpa using this
theorem findNow_mEs (k : ByteArray) : ∀ (l : List (ByteArray × Value)) (i j : Nat), Instr.findNow .string (.string k) (mEs l i) j = some (mFind k l j)
  | [], _, _ => rfl
  | (s, v) :: l, i, j => by
    rw [mEs, mFind]
    unfold Instr.findNow
    by_cases h : k = s
    · subst h
      rw [if_pos rfl]
      have e : (k == k) = true := by rw [bytes_beq]; exact decide_eq_true rfl
      simp only [Instr.sameNow, e]
    · rw [if_neg h]
      have e : (k == s) = false := by rw [bytes_beq]; exact decide_eq_false h
      simp only [Instr.sameNow, e]
      exact findNow_mEs k l (i + 1) (j + 1)
theorem mFind_none {k : ByteArray} {v : Value} : ∀ {l : List (ByteArray × Value)} {j : Nat}, mFind k l j = none → mPut k v l = l ++ [(k, v)]
  | [], _, _ => rfl
  | (s, u) :: l, j, h => by
    rw [mFind] at h
    split at h
    · cases h
    · rename_i hn
      rw [mPut, if_neg hn, mFind_none h]
      rfl
theorem mFind_some {k : ByteArray} {v x : Value} {i0 : Nat} : ∀ {l : List (ByteArray × Value)} {j i : Nat}, mFind k l j = some (i, x) → j ≤ i ∧ i - j < l.length ∧ (mEs l i0)[i - j]? = some ⟨.string k, x, i0 + (i - j)⟩ ∧ (mEs l i0).modify (i - j) (fun e => { e with key := .string k, val := v }) = mEs (mPut k v l) i0 ∧ (mPut k v l).length = l.length
  | [], _, _, h => by cases h
  | (s, u) :: l, j, i, h => by
    rw [mFind] at h
    split at h
    · rename_i hs
      cases h
      subst hs
      rw [Nat.sub_self, mPut, if_pos rfl]
      exact ⟨Nat.le_refl _, by simp, rfl, rfl, rfl⟩
    · rename_i hn
      obtain ⟨h1, h2, h3, h4, h5⟩ := mFind_some (v := v) (i0 := i0 + 1) h
      have e : i - j = i - (j + 1) + 1 := by omega
      rw [mPut, if_neg hn, e]
      refine ⟨by omega, by rw [List.length_cons]; omega, ?_, ?_, by rw [List.length_cons, List.length_cons, h5]⟩
      · rw [mEs, List.getElem?_cons_succ, h3]
        congr 2
        omega
      · rw [mEs, mEs, List.modify_succ_cons, h4]
section
variable {P : Program} {Q : Exit → Act → World → Prop} {n : Nat} {D : List Deferred} {E : Env} {S S' : World → Prop} {ops : Array Oper} {rest : List Oper} {d : Nat} {op : Op} {ty : TypeId} {pos : String} {aft : Array Edge} {g : Option (Nat × Bool)} {v : Value} {w0 : World} {X : List Nat} {I : Hp} {B : List Item}
theorem run_findKey {kt : TypeId} (hk : P.underlying kt = some .string) (w : World) (k : ByteArray) (l : List (ByteArray × Value)) : (Instr.findKey kt (.string k) (mEs l 0)).run P w = .ok (mFind k l 0) w := by
  simp [Instr.findKey, run_underlying hk, findNow_mEs, Result.andThen]
theorem run_checkKey {kt : TypeId} (hk : P.underlying kt = some .string) (w : World) (b : Bool) (k : ByteArray) : (Instr.checkKey b 10000 kt (.string k)).run P w = .ok () w := by
  unfold Instr.checkKey
  simp [run_underlying hk, Result.andThen]
theorem o_makeMap {t : TypeId} (hg : Wants ops E g) (hd : Nat.blt d n = true)
    (k : ∀ b, TL false P ops Q rest n D ((d, .map (some b)) :: E) (St w0 X I (.box b (mapO []) :: B))) : TL false P ops Q (⟨some d, .makeMap t none, ty, pos, aft, g⟩ :: rest) n D E (St w0 X I B) :=
  o_opX (ι := Nat) (V := fun b => .map (some b)) (SX := fun b => St w0 X I (.box b (mapO []) :: B)) (F := fun _ => True) hg hd
    (fun a w ha hw d pos aft g => ⟨w.alloc (mapO []), w.heap.size, by
      simp [execOp, Instr.makeMap, newObj, Sem.run, Result.andThen]; rfl,
      hw.new (But.alloc w _) (heap_alloc_new w _) (fun b hb => by cases hb; exact Nat.le_refl _), trivial⟩) (fun b _ => k b)
theorem o_lookupOk {qm : Bool} {t kt et : TypeId} {m x : Operand} {b : Nat} {key : ByteArray} {l : List (ByteArray × Value)} {z : Value} (hg : Wants ops E g) (hd : Nat.blt d n = true) (hu : P.underlying t = some (.map kt et)) (hk : P.underlying kt = some .string) (hz : ∀ w, (zeroValue et).run P w = .ok z w) (hm : ev E m = some (.map (some b))) (hx : ev E x = some (.string key)) (hB : Item.box b (mapO l) ∈ B)
    (k : TL qm P ops Q rest n D ((d, .tuple #[((mFind key l 0).map Prod.snd).getD z, .bool (mFind key l 0).isSome]) :: E) (St w0 X I B)) : TL qm P ops Q (⟨some d, .lookup t m x true, ty, pos, aft, g⟩ :: rest) n D E (St w0 X I B) :=
  o_rd hg hd (v := .tuple #[((mFind key l 0).map Prod.snd).getD z, .bool (mFind key l 0).isSome]) (fun a w ha hw d pos aft g => ⟨w, by
    have hbox : w.heap[b]? = some (.map (mEs l 0).toArray l.length) := hw.own _ hB
    have hf := run_findKey hk w key l
    have hc := run_checkKey hk w (mEs l 0).isEmpty key
    cases hfd : mFind key l 0 with
    | none =>
      rw [hfd] at hf
      simp [execOp, ha.ev hm, ha.ev hx, Instr.lookup, run_underlying hu, MapKept.run_getObj_map hbox, hc, hf, hz, Result.andThen]
    | some y =>
      obtain ⟨i, u⟩ := y
      rw [hfd] at hf
      simp [execOp, ha.ev hm, ha.ev hx, Instr.lookup, run_underlying hu, MapKept.run_getObj_map hbox, hc, hf, hz, Result.andThen], rfl⟩) k
theorem o_lookup {qm : Bool} {t kt et : TypeId} {m x : Operand} {b : Nat} {key : ByteArray} {l : List (ByteArray × Value)} {z : Value} (hg : Wants ops E g) (hd : Nat.blt d n = true) (hu : P.underlying t = some (.map kt et)) (hk : P.underlying kt = some .string) (hz : ∀ w, (zeroValue et).run P w = .ok z w) (hm : ev E m = some (.map (some b))) (hx : ev E x = some (.string key)) (hB : Item.box b (mapO l) ∈ B)
    (k : TL qm P ops Q rest n D ((d, ((mFind key l 0).map Prod.snd).getD z) :: E) (St w0 X I B)) : TL qm P ops Q (⟨some d, .lookup t m x false, ty, pos, aft, g⟩ :: rest) n D E (St w0 X I B) :=
  o_rd hg hd (v := ((mFind key l 0).map Prod.snd).getD z) (fun a w ha hw d pos aft g => ⟨w, by
    have hbox : w.heap[b]? = some (.map (mEs l 0).toArray l.length) := hw.own _ hB
    have hf := run_findKey hk w key l
    have hc := run_checkKey hk w (mEs l 0).isEmpty key
    cases hfd : mFind key l 0 with
    | none =>
      rw [hfd] at hf
      simp [execOp, ha.ev hm, ha.ev hx, Instr.lookup, run_underlying hu, MapKept.run_getObj_map hbox, hc, hf, hz, Result.andThen]
    | some y =>
      obtain ⟨i, u⟩ := y
      rw [hfd] at hf
      simp [execOp, ha.ev hm, ha.ev hx, Instr.lookup, run_underlying hu, MapKept.run_getObj_map hbox, hc, hf, hz, Result.andThen], rfl⟩) k
theorem map_set {w : World} {b : Nat} {o o' : Obj} (hb : w.heap[b]? = some o) : But (some b) w { w with heap := w.heap.setIfInBounds b o' } ∧ (w.heap.setIfInBounds b o')[b]? = some o' := by
  refine ⟨⟨rfl, rfl, rfl, by simp, fun k hk hne => ?_⟩, ?_⟩
  · have : b ≠ k := fun e => hne (by rw [e])
    simp [Array.getElem?_setIfInBounds, this]
  · have hlt := (Array.getElem?_eq_some_iff.1 hb).1
    simp [hlt]
theorem run_mapPut {t kt et : TypeId} {w : World} {b : Nat} {key : ByteArray} {val : Value} {l : List (ByteArray × Value)} (hu : P.underlying t = some (.map kt et)) (hk : P.underlying kt = some .string) (hbox : w.heap[b]? = some (mapO l)) :
    (Instr.mapUpdate t (.map (some b)) (.string key) val).run P w = .ok () { w with heap := w.heap.setIfInBounds b (mapO (mPut key val l)) } := by
  have hbox' : w.heap[b]? = some (.map (mEs l 0).toArray l.length) := hbox
  have hf := run_findKey hk w key l
  have hc := run_checkKey hk w false key
  cases hfd : mFind key l 0 with
  | none =>
    rw [hfd] at hf
    have e : mapO (mPut key val l) = .map ((mEs l 0).toArray.push ⟨.string key, val, l.length⟩) (l.length + 1) := by
      rw [mFind_none hfd]
      unfold mapO
      rw [mEs_app, List.length_append]
      simp [mEs]
    rw [e]
    simp [Instr.mapUpdate, run_underlying hu, MapKept.run_getObj_map hbox', hc, hf, setObj, Sem.run, Result.andThen, hbox']
  | some y =>
    obtain ⟨i, u⟩ := y
    obtain ⟨_, h2, h3, h4, h5⟩ := mFind_some (v := val) (i0 := 0) hfd
    rw [Nat.sub_zero] at h2 h3 h4
    rw [hfd] at hf
    have e : mapO (mPut key val l) = .map ((mEs l 0).toArray.modify i fun e => { e with key := .string key, val := val }) l.length := by
      unfold mapO
      rw [h5, ← h4]
      congr 1
      apply Array.ext'
      simp
    rw [e]
    have e2 : (key == key) = true := by rw [bytes_beq]; exact decide_eq_true rfl
    simp [Instr.mapUpdate, run_underlying hu, MapKept.run_getObj_map hbox', hc, hf, setObj, Sem.run, Result.andThen, hbox', h3, Instr.keyThatStays, Instr.sameBits, e2]
theorem o_mapPut {t kt et : TypeId} {m x y : Operand} {b : Nat} {key : ByteArray} {l : List (ByteArray × Value)} {B' : List Item} (hg : Wants ops E g) (hu : P.underlying t = some (.map kt et)) (hk : P.underlying kt = some .string) (hm : ev E m = some (.map (some b))) (hx : ev E x = some (.string key)) (hy : ev E y = some v) (hB : Put B (.box b (mapO l)) B' (.box b (mapO (mPut key v l))))
    (k : TL false P ops Q rest n D E (St w0 X I B')) : TL false P ops Q (⟨none, .mapUpdate t m x y, ty, pos, aft, g⟩ :: rest) n D E (St w0 X I B) :=
  o_op0 hg (S' := St w0 X I B') (fun a w ha hS d pos aft g => by
    have hbox : w.heap[b]? = some (mapO l) := hS.own _ hB.mem
    obtain ⟨h1, h2⟩ := map_set (o' := mapO (mPut key v l)) hbox
    exact ⟨_, by simp only [execOp, ha.ev hm, ha.ev hx, ha.ev hy, run_mapPut hu hk hbox, Sem.run_bind, Sem.run_pure, Result.andThen_ok], hS.turn hB h1 h2 (fun _ h => .inl h)⟩) k
end
end Go.Tw
namespace Go.Tw
open Go Go.RowKit
structure PL where
  l : Bool
  i : Int
abbrev KN := List (ByteArray × PL)
def plV (p : PL) : Value := .agg #[.bool p.l, .int .i64 p.i]
def knO (K : KN) : Obj := mapO (K.map fun a => (a.1, plV a.2))
def getK (s : ByteArray) : KN → Option PL
  | [] => none
  | (t, p) :: K => if s = t then some p else getK s K
theorem find_kn (s : ByteArray) : ∀ (K : KN) (j : Nat), (mFind s (K.map fun a => (a.1, plV a.2)) j).map Prod.snd = (getK s K).map plV
  | [], _ => rfl
  | (t, p) :: K, j => by
    rw [List.map_cons, mFind, getK]
    split
    · rfl
    · exact find_kn s K (j + 1)
theorem find_knS (s : ByteArray) (K : KN) : (mFind s (K.map fun a => (a.1, plV a.2)) 0).isSome = (getK s K).isSome := by
  have h := congrArg Option.isSome (find_kn s K 0)
  rw [Option.isSome_map, Option.isSome_map] at h
  exact h
theorem find_knV (s : ByteArray) (K : KN) : ((mFind s (K.map fun a => (a.1, plV a.2)) 0).map Prod.snd).getD (.agg #[.bool false, .int .i64 0]) = .agg #[.bool ((getK s K).getD ⟨false, 0⟩).l, .int .i64 ((getK s K).getD ⟨false, 0⟩).i] := by
  rw [find_kn]
  cases getK s K <;> rfl
theorem put_kn {s : ByteArray} {K : KN} {p : PL} (h : (getK s K).isSome = false) : mapO (mPut s (plV p) (K.map fun a => (a.1, plV a.2))) = knO (K ++ [(s, p)]) := by
  have hn : mFind s (K.map fun a => (a.1, plV a.2)) 0 = none := by
    have := find_knS s K
    rw [h] at this
    exact Option.not_isSome_iff_eq_none.1 (by rw [this]; decide)
  rw [mFind_none hn]
  unfold knO
  rw [List.map_append]
  rfl
def getN (s : ByteArray) : List (ByteArray × Nat) → Nat
  | [] => 0
  | (t, n) :: U => if s = t then n else getN s U
def incN (s : ByteArray) : List (ByteArray × Nat) → List (ByteArray × Nat)
  | [] => [(s, 1)]
  | (t, n) :: U => if s = t then (s, n + 1) :: U else (t, n) :: incN s U
def usU (L : List ByteArray) : List (ByteArray × Nat) := L.foldl (fun U s => incN s U) []
def usO (L : List ByteArray) : Obj := mapO ((usU L).map fun a => (a.1, .int .i64 (a.2 : Nat)))
theorem usU_more (L : List ByteArray) (s : ByteArray) : usU (L ++ [s]) = incN s (usU L) := by unfold usU; rw [List.foldl_append]; rfl
theorem getN_inc (x s : ByteArray) : ∀ (U : List (ByteArray × Nat)), getN x (incN s U) = getN x U + if x = s then 1 else 0
  | [] => by
    show (if x = s then 1 else 0) = 0 + _
    rw [Nat.zero_add]
  | (t, n) :: U => by
    have ih := getN_inc x s U
    rw [incN]
    split
    · rename_i h
      subst h
      rw [getN, getN]
      by_cases hx : x = s
      · rw [if_pos hx, if_pos hx, if_pos hx]
      · rw [if_neg hx, if_neg hx, if_neg hx]; rfl
    · rename_i h
      rw [getN, getN]
      by_cases hx : x = t
      · rw [if_pos hx, if_pos hx, if_neg (fun e => h (by rw [← e, hx]))]; rfl
      · rw [if_neg hx, if_neg hx, ih]
def cnt (s : ByteArray) : List ByteArray → Nat
  | [] => 0
  | x :: L => (if s = x then 1 else 0) + cnt s L
theorem cnt_more (s x : ByteArray) : ∀ (L : List ByteArray), cnt s (L ++ [x]) = cnt s L + if s = x then 1 else 0
  | [] => by simp [cnt]
  | y :: L => by rw [List.cons_append, cnt, cnt, cnt_more s x L, Nat.add_assoc]
theorem cnt_le (s : ByteArray) : ∀ (L : List ByteArray), cnt s L ≤ L.length
  | [] => Nat.le_refl _
  | y :: L => by
    have := cnt_le s L
    rw [cnt, List.length_cons]
    split <;> omega
theorem cnt_zero (s : ByteArray) : ∀ (L : List ByteArray), cnt s L = 0 ↔ s ∉ L
  | [] => by simp [cnt]
  | y :: L => by
    have := cnt_zero s L
    rw [cnt, List.mem_cons]
    by_cases h : s = y
    · rw [if_pos h]; simp [h]
    · rw [if_neg h]; simp [h, this]
theorem getN_us (x : ByteArray) (L : List ByteArray) : getN x (usU L) = cnt x L := by
  have key : ∀ (n : Nat) (L : List ByteArray), L.length = n → getN x (usU L) = cnt x L := by
    intro n
    induction n with
    | zero =>
      intro L h
      rw [List.length_eq_zero_iff.1 h]; rfl
    | succ n ih =>
      intro L h
      have hne : L ≠ [] := fun e => by rw [e] at h; cases h
      rw [← List.dropLast_concat_getLast hne, usU_more, getN_inc, ih L.dropLast (by rw [List.length_dropLast, h]; rfl), cnt_more]
  exact key L.length L rfl
theorem find_us (s : ByteArray) : ∀ (U : List (ByteArray × Nat)) (j : Nat), ((mFind s (U.map fun a => (a.1, Value.int .i64 (a.2 : Nat))) j).map Prod.snd).getD (.int .i64 0) = .int .i64 (getN s U : Nat)
  | [], _ => rfl
  | (t, p) :: K, j => by
    rw [List.map_cons, mFind, getN]
    split
    · rfl
    · exact find_us s K (j + 1)
theorem put_us (s : ByteArray) : ∀ (U : List (ByteArray × Nat)), mPut s (.int .i64 ((getN s U : Nat) + 1)) (U.map fun a => (a.1, Value.int .i64 (a.2 : Nat))) = (incN s U).map fun a => (a.1, Value.int .i64 (a.2 : Nat))
  | [] => rfl
  | (t, n) :: U => by
    have ih := put_us s U
    rw [List.map_cons, mPut, incN, getN]
    by_cases h : s = t
    · rw [if_pos h, if_pos h, if_pos h]; rfl
    · rw [if_neg h, if_neg h, if_neg h, ih]; rfl
section
variable {P : Program} {Q : Exit → Act → World → Prop} {n : Nat} {D : List Deferred} {E : Env} {S S' : World → Prop} {ops : Array Oper} {rest : List Oper} {d : Nat} {op : Op} {ty : TypeId} {pos : String} {aft : Array Edge} {g : Option (Nat × Bool)} {v : Value} {w0 : World} {X : List Nat} {I : Hp} {B : List Item}
theorem o_lookK {qm : Bool} {t kt et : TypeId} {m x : Operand} {b : Nat} {key : ByteArray} {K : KN} (hg : Wants ops E g) (hd : Nat.blt d n = true) (hu : P.underlying t = some (.map kt et)) (hk : P.underlying kt = some .string) (hz : ∀ w, (zeroValue et).run P w = .ok (.agg #[.bool false, .int .i64 0]) w) (hm : ev E m = some (.map (some b))) (hx : ev E x = some (.string key)) (hB : Item.box b (knO K) ∈ B)
    (k : TL qm P ops Q rest n D ((d, .tuple #[.agg #[.bool ((getK key K).getD ⟨false, 0⟩).l, .int .i64 ((getK key K).getD ⟨false, 0⟩).i], .bool (getK key K).isSome]) :: E) (St w0 X I B)) : TL qm P ops Q (⟨some d, .lookup t m x true, ty, pos, aft, g⟩ :: rest) n D E (St w0 X I B) :=
  o_lookupOk hg hd hu hk hz hm hx hB (by rw [find_knV, find_knS]; exact k)
theorem o_putK {t kt et : TypeId} {m x y : Operand} {b : Nat} {key : ByteArray} {K : KN} {p : PL} {B' : List Item} (hn : (getK key K).isSome = false) (hg : Wants ops E g) (hu : P.underlying t = some (.map kt et)) (hk : P.underlying kt = some .string) (hm : ev E m = some (.map (some b))) (hx : ev E x = some (.string key)) (hy : ev E y = some (plV p)) (hB : Put B (.box b (knO K)) B' (.box b (knO (K ++ [(key, p)]))))
    (k : TL false P ops Q rest n D E (St w0 X I B')) : TL false P ops Q (⟨none, .mapUpdate t m x y, ty, pos, aft, g⟩ :: rest) n D E (St w0 X I B) :=
  o_mapPut (l := K.map fun a => (a.1, plV a.2)) hg hu hk hm hx hy (by rw [put_kn hn]; exact hB) k
theorem o_lookU {qm : Bool} {t kt et : TypeId} {m x : Operand} {b : Nat} {key : ByteArray} {L : List ByteArray} (hg : Wants ops E g) (hd : Nat.blt d n = true) (hu : P.underlying t = some (.map kt et)) (hk : P.underlying kt = some .string) (hz : ∀ w, (zeroValue et).run P w = .ok (.int .i64 0) w) (hm : ev E m = some (.map (some b))) (hx : ev E x = some (.string key)) (hB : Item.box b (usO L) ∈ B)
    (k : TL qm P ops Q rest n D ((d, .int .i64 (cnt key L : Nat)) :: E) (St w0 X I B)) : TL qm P ops Q (⟨some d, .lookup t m x false, ty, pos, aft, g⟩ :: rest) n D E (St w0 X I B) :=
  o_lookup hg hd hu hk hz hm hx hB (by rw [find_us, getN_us]; exact k)
theorem o_putU {t kt et : TypeId} {m x y : Operand} {b : Nat} {key : ByteArray} {L : List ByteArray} {B' : List Item} (hg : Wants ops E g) (hu : P.underlying t = some (.map kt et)) (hk : P.underlying kt = some .string) (hm : ev E m = some (.map (some b))) (hx : ev E x = some (.string key)) (hy : ev E y = some (.int .i64 ((cnt key L : Nat) + 1))) (hB : Put B (.box b (usO L)) B' (.box b (usO (L ++ [key]))))
    (k : TL false P ops Q rest n D E (St w0 X I B')) : TL false P ops Q (⟨none, .mapUpdate t m x y, ty, pos, aft, g⟩ :: rest) n D E (St w0 X I B) :=
  o_mapPut (l := (usU L).map fun a => (a.1, Value.int .i64 (a.2 : Nat))) hg hu hk hm hx hy (by
    have e : mapO (mPut key (.int .i64 ((cnt key L : Nat) + 1)) ((usU L).map fun a => (a.1, Value.int .i64 (a.2 : Nat)))) = usO (L ++ [key]) := by
      unfold usO
      rw [usU_more, ← put_us, getN_us]
    rw [e]
    exact hB) k
end
end Go.Tw
namespace Go.Proofs.YtmgpifkekofacaaGreatDoor
open Go Go.Tw
theorem fun_mono {f : FuncId} {vs : List Value} {I : Hp} {B : List Tw.Item} {R R' : Value → Hp → List Tw.Item → Prop} (h : Fun Tryz.prog f vs I B R) (hr : ∀ v I' B', R v I' B' → R' v I' B') : Fun Tryz.prog f vs I B R' := fun w hw =>
  (h w hw).mono fun v w' ⟨I', B', h1, h2, h3⟩ => ⟨I', B', h1, h2, hr v I' B' h3⟩
theorem deciDigit_any (r : Int) (h : 48 ≤ r ∧ r ≤ 57) : PureC Tryz.prog 193 [.int .i32 r] (.tuple #[.int .u32 (r - 48), .bool true]) := by
  intro w
  refine enter1 _ Tryz.func193 rfl Tryz.ntmps193 rfl ?_ (S := fun w1 => w1 = w) rfl;refine sR ?_;iterate 2 refine oV ?_
  refine nS ?_;iterate 2 refine oV ?_
  rw [IntWalk.i32_in _ (by omega)]
  refine o_convIn trivial rfl Tryz.underlying21 Tryz.underlying101 rfl (by rw [IntWalk.u32_in _ (by omega)]) ?_;iterate 2 refine oV ?_
  refine' o_and trivial trivial rfl rfl rfl rfl rfl rfl rfl rfl (fun hb9 => ?_) ?_;rotate_left
  ·
   iterate 2 refine gV hb9 ?_
   refine oN ?_;exact joins rfl
  iterate 2 refine oV ?_
  refine nE ?_;refine ret2 rfl rfl rfl ?_;refine fun _ hw => ⟨?_, hw⟩; rw [decide_eq_true (show r ≥ 48 by omega), decide_eq_true (show r ≤ 57 by omega)]; rfl
theorem decN_take {s : ByteArray} {i : Nat} (h : i < s.size) : decN (s.toList.take (i + 1)) = 10 * decN (s.toList.take i) + ((s.get! i).toNat - 48) := by
  rw [List.take_add_one, get_toList h]
  exact decN_app _ _
theorem natW_forty {n : Nat} (h : n < 10 ^ 40) : (natW n).length ≤ 5 := natW_len_le (Nat.lt_of_lt_of_le h (by decide))
theorem decN_forty {s : ByteArray} (h : partZ s = true) (i : Nat) : decN (s.toList.take i) < 10 ^ 40 := by
  obtain ⟨h1, h2, h3, _⟩ := partZ_digit h
  have hm := partZ_mem h1
  refine Nat.lt_of_lt_of_le (decN_lt fun b hb => hm b (List.mem_of_mem_take hb)) (Nat.pow_le_pow_right (by decide) ?_)
  rw [List.length_take, toList_len]
  omega
theorem deciParse_any (s : ByteArray) {I : Hp} (hz : partZ s = true) : Fun Tryz.prog 179 [.string s] I [] (fun v I' _ => ∃ u, v = .tuple #[u, .int .i64 0] ∧ Ws I' u (natW (decN s.toList))) := by
  obtain ⟨g1, g2, g3, g4⟩ := partZ_digit hz
  have hf : (s.toList == (ByteArray.mk #[]).toList) = false := by
    rw [beq_eq_false_iff_ne]
    intro e
    have := toList_len s
    rw [e] at this
    rw [ByteArray.toList_eq] at this
    change 0 = s.size at this
    omega
  intro w hw
  refine enter1 _ Tryz.func179 rfl Tryz.ntmps179 rfl ?_ hw;refine sR ?_;iterate 2 refine oV ?_
  refine nU ?_;refine oV ?_;refine o_lenS trivial rfl Tryz.underlying9 rfl ?_;refine oV ?_;refine nT ?_;refine cC rfl (fun h1 => ?_) (fun h1 => ?_)
  ·
   have f1 := h1;try simp only [bl] at f1
   exfalso; omega
  have f1 := h1;try simp only [bl] at f1
  refine cK (tC (cS (sR ?_)));iterate 2 refine oV ?_
  refine' o_or trivial trivial rfl rfl rfl rfl rfl rfl rfl rfl (fun hb14 => ?_) ?_;rotate_left
  ·
   have fb14 := hb14
   try simp only [bl] at fb14
   refine gV hb14 ?_;refine o_idxS (wS rfl rfl hb14) rfl Tryz.underlying9 rfl rfl (by omega) ?_;refine gV hb14 ?_;refine' o_and (wS rfl rfl hb14) (wS rfl rfl hb14) rfl rfl rfl rfl rfl rfl rfl rfl (fun hb18 => ?_) ?_;rotate_left
   ·
    have fb18 := hb18
    try simp only [bl] at fb18
    refine gV hb18 ?_;refine o_lenS (wS rfl rfl hb18) rfl Tryz.underlying9 rfl ?_;refine gV hb18 ?_;refine oN ?_;exact joins rfl
   refine oN ?_;exact joins rfl
  refine nT ?_;refine cC rfl (fun h2 => ?_) (fun h2 => ?_)
  ·
   have f2 := h2;try simp only [bl] at f2
   exfalso
   rw [hf, Bool.false_or] at h2
   simp at h2
   rcases g4 with g4 | g4 <;> omega
  have f2 := h2;try simp only [bl] at f2
  refine kS ?_;refine oV ?_;refine nU ?_;refine oV ?_;refine o_range trivial rfl Tryz.underlying9 rfl (fun b25 => ?_);refine oN (tC (cB ?_));refine c_loop (ι := Nat × Value × Hp) [25] (.cons rfl .nil) (fun x => s.size - x.1) (fun x E0 => (4, x.2.1) :: E0) (fun x => St w [] x.2.2 [.box b25 (.stringIter s x.1)]) (fun x => x.1 ≤ s.size ∧ Ws x.2.2 x.2.1 (natW (decN (s.toList.take x.1))) ∧ Ext w.heap.size I x.2.2) ((0, .slice none 0 0, I)) (sC rfl (sC rfl sN)) (fun _ h => h) (⟨Nat.zero_le _, by rw [List.take_zero]; exact (by rw [show decN [] = 0 from rfl, natW_zero]; exact Ws.nil _), Ext.refl _ _⟩) ?_;rintro ⟨i, u, I1⟩ ⟨hle, hu, hx1⟩
  try dsimp only
  simp only at hle hu hx1
  refine cS ?_
  rcases Nat.lt_or_ge i s.size with hp | hp
  ·
   have hb := g1 i hp
   have hdec : Utf8.decode s i = ((s.get! i).toNat, 1) := Go.Tw.decode_ascii (by omega)
   obtain ⟨c, hc1, hc2, hc3⟩ : ∃ c : Nat, c < 4294967296 ∧ (((Utf8.decode s i).1 : Nat) : Int) - 48 = (c : Int) ∧ c = (s.get! i).toNat - 48 := ⟨_, by omega, by rw [hdec]; show ((s.get! i).toNat : Int) - 48 = _; omega, rfl⟩
   refine cR ?_;refine o_next trivial rfl rfl (by repeat constructor) hp ?_;refine oV ?_;refine oN (tC (cS ?_));refine c_cond_t rfl rfl ?_;refine cK (tC (cB (sR ?_)));iterate 2 refine oV ?_
   refine nS ?_;refine oV ?_;refine oP trivial rfl Tryz.call193 rfl (deciDigit_any _ (by rw [hdec]; show 48 ≤ ((s.get! i).toNat : Int) ∧ ((s.get! i).toNat : Int) ≤ 57; omega)) ?_;iterate 5 refine oV ?_
   refine nU ?_;iterate 2 refine oV ?_
   refine nT ?_;refine c_cond_f rfl (by rfl) ?_;refine cK (tC (cR ?_))
   rw [hc2]
   iterate 2 refine oV ?_
   refine oI Tryz.call194 rfl (one_any _ _ 10 c hu (by have := natW_forty (decN_forty hz i); omega) (by decide) hc1) ?_;rintro v38 I2 hx2 hs2;refine oV ?_;refine oN (blk_n ?_);exact again (i + 1, v38, I2) (sC rfl (sC rfl sN)) (fun _ h => by rw [hdec] at h; exact h.sort (by repeat constructor)) (by show s.size - (i + 1) < s.size - i; omega) ⟨by show i + 1 ≤ s.size; omega, by rw [decN_take hp, Nat.mul_comm, ← hc3]; rw [val_natW] at hs2; exact hs2, hx1.trans hx2 (Nat.le_refl _)⟩
  refine cR ?_;refine o_nextEnd trivial rfl rfl (by repeat constructor) hp ?_;refine oV ?_;refine oN (tC (cS ?_));refine c_cond_f rfl rfl ?_;refine c_exit (then_x (then_x (blk_eq rfl (tC (sR ?_)))));iterate 3 refine oV ?_
  refine nE ?_;refine ret2 rfl rfl rfl ?_;refine leaf hx1 (List.nil_sublist _) ⟨_, rfl, ?_⟩
  rw [List.take_of_length_le (by rw [toList_len]; omega)] at hu
  exact hu
theorem cutMinus_any (s : ByteArray) {I : Hp} (hs : 1 ≤ s.size) (h : (s.get! 0).toNat ≠ 45) : Fun Tryz.prog 128 [.string s, .string ⟨#[45]⟩] I [] (fun v _ _ => v = .tuple #[.string s, .bool false]) := by
  refine fun_below fun w hw => ?_;refine (Tryz.strings_CutPrefix s ⟨#[45]⟩ w).mono ?_;rintro e w' ⟨rfl, rfl⟩
  have hl := list_get s 0 (by omega)
  rw [List.drop_zero] at hl
  have hp : Lib.hasPrefix s.data.toList (ByteArray.mk #[45]).data.toList = false := by
    rw [hl]
    show (List.isPrefixOf [45] _) = false
    simp only [List.isPrefixOf, Bool.and_true, beq_eq_false_iff_ne]
    intro e
    exact h (by rw [← e]; rfl)
  refine ⟨_, rfl, ?_, ⟨rfl, rfl, rfl, Nat.le_refl _, fun _ _ => rfl⟩⟩
  unfold Lib.trimPrefix
  rw [hp]
  rfl
theorem wholeParse_any (s : ByteArray) {I : Hp} (hz : partZ s = true) : Fun Tryz.prog 177 [.string s] I [] (fun v I' _ => ∃ u, v = .tuple #[.agg #[.bool false, u], .int .i64 0] ∧ Ws I' u (natW (decN s.toList))) := by
  obtain ⟨g1, g2, g3, g4⟩ := partZ_digit hz
  have g5 := g1 0 (by omega)
  intro w hw
  refine enter1 _ Tryz.func177 rfl Tryz.ntmps177 rfl ?_ hw;refine sR ?_;refine o_alloc trivial rfl Tryz.zeroValue99 rfl (fun b2 => ?_);refine oV ?_;refine nS ?_;refine oV ?_;refine oQ Tryz.call128 rfl (cutMinus_any _ g2 (by omega)) ?_;iterate 5 refine oV ?_
  refine nS ?_;refine oV ?_;refine oI Tryz.call179 rfl (deciParse_any s hz) ?_;rintro _ I1 hx1 ⟨u, rfl, hu⟩;iterate 5 refine oV ?_
  refine nU ?_;iterate 2 refine oV ?_
  refine nT ?_;refine c_cond_f rfl (by rfl) ?_;refine kS ?_;iterate 2 refine oV ?_
  refine oI Tryz.call191 rfl (signed_any false u _ hu (by have := natW_forty (decN_forty hz s.size); rw [List.take_of_length_le (by rw [toList_len]; omega)] at this; omega)) ?_;rintro v24 I2 hx2 ⟨vm, rfl, hvm⟩;refine oS Tryz.sizeOf99 ?_;refine oV ?_;refine nE ?_;refine retR rfl (.agg Tryz.isAgg99 Tryz.sizeOf99 rfl (by repeat constructor) rfl (.tmp rfl .nil)) ?_;refine leaf (hx1.trans hx2 (Nat.le_refl _)) (List.nil_sublist _) ⟨vm, ?_, ?_⟩
  · rw [decide_eq_false]
    · rfl
    · show ¬ ((val (natW (decN s.toList)) : Nat) : Int) < 0; omega
  · rw [val_natW] at hvm; exact hvm
theorem qMakeNat_any (n d : Nat) (va vb : Value) {I : Hp} (ha : Ws I va (natW n)) (hb : Ws I vb (natW d)) (hs : (natW n).length ≤ 400000) (hs2 : (natW d).length ≤ 400000) (hd : d ≠ 0) : Fun Tryz.prog 180 [.agg #[.bool false, va], .agg #[.bool false, vb]] I [] (fun v I' _ => ∃ a b, v = .tuple #[.agg #[.bool (decide ((mkRat (n : Int) d).num < 0)), a, b], .int .i64 0] ∧ Ws I' a (natW (mkRat (n : Int) d).num.natAbs) ∧ Ws I' b (natW (mkRat (n : Int) d).den)) := by
  have h := qMake_any (n : Int) (d : Int) va vb (I := I) ha hb hs hs2
  rw [decide_eq_false (show ¬ (n : Int) < 0 by omega), decide_eq_false (show ¬ (d : Int) < 0 by omega)] at h
  refine fun_mono h fun v I' B' hr => ?_
  obtain ⟨s, x, y, X, Y, e1, e2, e3, e4⟩ := hr
  have hd' : ¬ (d : Int) = 0 := by omega
  obtain ⟨rfl, rfl, rfl⟩ := e4 hd'
  rw [if_neg hd'] at e1
  exact ⟨x, y, e1, e2, e3⟩
theorem ratParse_any (s : ByteArray) {I : Hp} (hM : Mx I) (hz : numZ s = true) : Fun Tryz.prog 167 [.string s] I [] (fun v I' _ => ∃ a b, v = .tuple #[.agg #[.bool (decide ((numQ s).num < 0)), a, b], .int .i64 0] ∧ Ws I' a (natW (numQ s).num.natAbs) ∧ Ws I' b (natW (numQ s).den)) := by
  have hsz : s.size ≤ 81 ∧ partZ (s.extract 0 (cutZ s)) = true := by
    have hle := cutZ_le s
    unfold numZ at hz
    split at hz
    · rename_i hc
      obtain ⟨_, _, k, _⟩ := partZ_digit hz
      rw [hc, cut_full]
      exact ⟨by omega, hz⟩
    · simp only [Bool.and_eq_true] at hz
      obtain ⟨_, _, k, _⟩ := partZ_digit hz.1.1
      obtain ⟨_, _, k2, _⟩ := partZ_digit hz.1.2
      rw [ByteArray.size_extract] at k k2
      exact ⟨by omega, hz.1.1⟩
  have htail : cutZ s ≠ s.size → partZ (s.extract (cutZ s + 1) s.size) = true ∧ decN (s.extract (cutZ s + 1) s.size).toList ≠ 0 := fun hc => by
    unfold numZ at hz
    rw [if_neg hc] at hz
    simp only [Bool.and_eq_true, Bool.not_eq_true'] at hz
    exact ⟨hz.1.2, decN_pos hz.1.2 hz.2⟩
  have hfew : ∀ {u : ByteArray}, partZ u = true → (natW (decN u.toList)).length ≤ 400000 := fun {u} hu => by
    have := natW_forty (decN_forty hu u.size)
    rw [List.take_of_length_le (by rw [toList_len]; omega)] at this
    omega
  have hhead := hfew hsz.2
  have hcl := cutZ_le s
  intro w hw
  refine enter1 _ Tryz.func167 rfl Tryz.ntmps167 rfl ?_ hw;refine sR ?_;refine o_alloc trivial rfl Tryz.zeroValue42 rfl (fun b2 => ?_);refine oV ?_;refine nS ?_;refine oV ?_;refine oQ Tryz.call129 rfl (cut_any s hM (by omega)) ?_;iterate 7 refine oV ?_
  refine nS ?_;refine oV ?_;refine oI Tryz.call177 rfl (wholeParse_any (s.extract 0 (cutZ s)) hsz.2) ?_;rintro _ I1 hx1 ⟨u, rfl, hu⟩;iterate 3 refine oV ?_
  refine o_alloc trivial rfl Tryz.zeroValue99 rfl (fun b7 => ?_);refine oS Tryz.sizeOf99 ?_;refine oV ?_;refine nU ?_;iterate 2 refine oV ?_
  refine nT ?_;refine c_cond_f rfl (by rfl) ?_;refine kS ?_;refine oI Tryz.call178 rfl (natOf_any 1 (by decide)) ?_;rintro v25 I2 hx2 hs2;refine oV ?_;refine nU ?_;refine oV ?_;refine nT ?_;refine cC rfl (fun h2 => ?_) (fun h2 => ?_)
  ·
   have f2 := h2;try simp only [bl] at f2
   have hc : cutZ s ≠ s.size := by omega
   obtain ⟨hz2, hz3⟩ := htail hc
   refine cR ?_;refine oV ?_;refine oI Tryz.call179 rfl (deciParse_any _ hz2) ?_;rintro _ I3 hx3 ⟨u3, rfl, hu3⟩;iterate 5 refine oV ?_
   refine nU ?_;iterate 2 refine oV ?_
   refine nT ?_;refine c_cond_f rfl (by rfl) ?_;refine kS ?_;refine oA Tryz.isAgg99 Tryz.sizeOf99 ?_;refine oV ?_;refine o_buildS trivial rfl (bld99) rfl (.cons rfl (by first | exact (Ws.cells1 (by assumption)).1 | exact (Slc.cells1 (by assumption)).1 | rfl) (by rfl) (by repeat constructor) .nil) ?_;refine oI Tryz.call180 rfl (by first | exact qMakeNat_any _ _ _ _ (hu.le (hx2.le.trans hx3.le)) hu3 hhead (hfew hz2) hz3 | exact qMakeNat_any _ 1 _ _ (hu.le hx2.le) hs2 hhead (by rw [show natW 1 = [1] by rw [natW_pos (by decide)]; simp [natW_zero]]; decide) (by decide)) ?_;rintro _ I4 hx4 ⟨a, b, rfl, ha, hb⟩;iterate 2 refine oV ?_
   refine oS Tryz.sizeOf42 ?_;refine oV ?_;refine nE ?_;refine retR rfl (.agg Tryz.isAgg42 Tryz.sizeOf42 rfl (by repeat constructor) rfl (.tmp rfl .nil)) ?_
   first
   | refine leaf (hx1.trans (hx2.trans (hx3.trans hx4 (Nat.le_refl _)) (Nat.le_refl _)) (Nat.le_refl _)) (List.nil_sublist _) ⟨a, b, ?_, ?_, ?_⟩ <;> unfold numQ <;> rw [if_neg hc] <;> first | rfl | exact ha | exact hb
   | refine leaf (hx1.trans (hx2.trans hx4 (Nat.le_refl _)) (Nat.le_refl _)) (List.nil_sublist _) ⟨a, b, ?_, ?_, ?_⟩ <;> unfold numQ <;> rw [if_pos hc] <;> first | rfl | exact ha | exact hb
  have f2 := h2;try simp only [bl] at f2
  have hc : cutZ s = s.size := by omega
  refine cK (tC (cS (sR ?_)));iterate 2 refine oV ?_
  refine nT ?_;refine c_cond_f rfl (by rfl) ?_;refine kS ?_;refine oA Tryz.isAgg99 Tryz.sizeOf99 ?_;refine oV ?_;refine o_buildS trivial rfl (bld99) rfl (.cons rfl (by first | exact (Ws.cells1 (by assumption)).1 | exact (Slc.cells1 (by assumption)).1 | rfl) (by rfl) (by repeat constructor) .nil) ?_;refine oI Tryz.call180 rfl (by first | exact qMakeNat_any _ _ _ _ (hu.le (hx2.le.trans hx3.le)) hu3 hhead (hfew hz2) hz3 | exact qMakeNat_any _ 1 _ _ (hu.le hx2.le) hs2 hhead (by rw [show natW 1 = [1] by rw [natW_pos (by decide)]; simp [natW_zero]]; decide) (by decide)) ?_;rintro _ I4 hx4 ⟨a, b, rfl, ha, hb⟩;iterate 2 refine oV ?_
  refine oS Tryz.sizeOf42 ?_;refine oV ?_;refine nE ?_;refine retR rfl (.agg Tryz.isAgg42 Tryz.sizeOf42 rfl (by repeat constructor) rfl (.tmp rfl .nil)) ?_
  first
  | refine leaf (hx1.trans (hx2.trans (hx3.trans hx4 (Nat.le_refl _)) (Nat.le_refl _)) (Nat.le_refl _)) (List.nil_sublist _) ⟨a, b, ?_, ?_, ?_⟩ <;> unfold numQ <;> rw [if_neg hc] <;> first | rfl | exact ha | exact hb
  | refine leaf (hx1.trans (hx2.trans hx4 (Nat.le_refl _)) (Nat.le_refl _)) (List.nil_sublist _) ⟨a, b, ?_, ?_, ?_⟩ <;> unfold numQ <;> rw [if_pos hc] <;> first | rfl | exact ha | exact hb
end Go.Proofs.YtmgpifkekofacaaGreatDoor
namespace Go.Tw
open Go
structure OpC where
  code : Int
  a : Int
  b : Int
  e : Int
  neg : Bool
  n : List Nat
  d : List Nat
structure OpV where
  c : OpC
  vn : Value
  vd : Value
def OpV.cells (o : OpV) : List Value := [.int .i64 o.c.code, .int .i64 o.c.a, .int .i64 o.c.b, .int .i64 o.c.e, .bool o.c.neg, o.vn, o.vd]
def OpV.ok (I : Hp) (o : OpV) : Prop := Ws I o.vn o.c.n ∧ Ws I o.vd o.c.d
theorem OpV.ok.le {I I' : Hp} {o : OpV} (h : o.ok I) (hl : I.Le I') : o.ok I' := ⟨h.1.le hl, h.2.le hl⟩
structure TapeC where
  ins : Int
  ops : List OpC
  outs : List Int
def ics (l : List Int) : List (List Value) := l.map fun z => [.int .i64 z]
structure TapeV (I : Hp) (vo vu : Value) (t : TapeC) (os : List OpV) : Prop where
  so : Slc I 7 vo (os.map OpV.cells)
  ok : ∀ o ∈ os, o.ok I
  eq : os.map OpV.c = t.ops
  su : Slc I 1 vu (ics t.outs)
theorem TapeV.le {I I' : Hp} {vo vu : Value} {t : TapeC} {os : List OpV} (h : TapeV I vo vu t os) (hl : I.Le I') : TapeV I' vo vu t os :=
  ⟨h.so.le hl, fun o ho => (h.ok o ho).le hl, h.eq, h.su.le hl⟩
def OpC.few (k : Nat) (o : OpC) : Prop := o.n.length ≤ k ∧ o.d.length ≤ k
def emptyZ (neg : Bool) (A B : List Nat) : Bool := !neg && decide (A.length = 0) && decide (B.length = 0)
end Go.Tw
namespace Go.Proofs.YtmgpifkekofacaaGreatDoor
open Go Go.Tw
def nvs (l : List Nat) : List Value := l.map fun (x : Nat) => Value.int .i64 (x : Int)
theorem nvs_get {l : List Nat} {i : Nat} (h : i < l.length) : (nvs l)[i]? = some (.int .i64 ((l.getD i 0 : Nat) : Int)) := by
  unfold nvs; rw [List.getElem?_map, List.getD_eq_getElem?_getD, List.getElem?_eq_getElem h]; rfl
theorem le_getD {l : List Nat} {k : Nat} (h : ∀ x ∈ l, x ≤ k) (i : Nat) : l.getD i 0 ≤ k := by
  rw [List.getD_eq_getElem?_getD]
  cases hi : l[i]? with
  | none => exact Nat.zero_le _
  | some x => exact h x (List.mem_of_getElem? hi)
theorem OpV.at_ {I : Hp} {vo vu : Value} {t : TapeC} {os : List OpV} (ht : TapeV I vo vu t os) {i : Nat} {o : OpV} (h : os[i]? = some o) : ∀ k y, ([.int .i64 o.c.code, .int .i64 o.c.a, .int .i64 o.c.b, .int .i64 o.c.e, .bool o.c.neg, o.vn, o.vd] : List Value)[k]? = some y → I.cell? ⟨slcB vo, slcO vo + i * 7 + k, none⟩ = some y :=
  ht.so.cells i _ (by rw [List.getElem?_map, h]; rfl)
theorem nvs_more (l : List Nat) (m : Nat) : nvs l ++ [.int .i64 (m : Int)] = nvs (l ++ [m]) := by simp [nvs]
theorem nvs_flat (l : List Nat) : ((l.map fun (x : Nat) => [Value.int .i64 (x : Int)])).flatten = nvs l := by
  induction l with
  | nil => rfl
  | cons x l ih => show [_] ++ _ = _; rw [ih]; rfl
end Go.Proofs.YtmgpifkekofacaaGreatDoor
namespace Go.Tw
open Go
structure RV where
  q : Rat
  vn : Value
  vd : Value
def RV.cells (r : RV) : List Value := [.bool (decide (r.q.num < 0)), r.vn, r.vd]
def RV.ok (I : Hp) (r : RV) : Prop := Ws I r.vn (natW r.q.num.natAbs) ∧ Ws I r.vd (natW r.q.den)
theorem RV.ok.le {I I' : Hp} {r : RV} (h : r.ok I) (hl : I.Le I') : r.ok I' := ⟨h.1.le hl, h.2.le hl⟩
def rcs (rs : List RV) : List (List Value) := rs.map RV.cells
end Go.Tw
namespace Go.Proofs.YtmgpifkekofacaaGreatDoor
open Go Go.Tw
end Go.Proofs.YtmgpifkekofacaaGreatDoor
namespace Go.Tw
open Go
structure NV where
  neg : Bool
  n : List Nat
  d : List Nat
  vn : Value
  vd : Value
def NV.cells (x : NV) : List Value := [.bool x.neg, x.vn, x.vd]
def NV.ok (I : Hp) (x : NV) : Prop := Ws I x.vn x.n ∧ Ws I x.vd x.d
def NV.q (x : NV) : Rat := lowQ x.neg (val x.n) (val x.d)
theorem NV.ok.le {I I' : Hp} {r : NV} (h : r.ok I) (hl : I.Le I') : r.ok I' := ⟨h.1.le hl, h.2.le hl⟩
structure PtV (I : Hp) (v : Value) (xs : List NV) : Prop where
  s : Slc I 3 v (xs.map NV.cells)
  ok : ∀ x ∈ xs, x.ok I
theorem PtV.le {I I' : Hp} {v : Value} {xs : List NV} (h : PtV I v xs) (hl : I.Le I') : PtV I' v xs := ⟨h.s.le hl, fun o ho => (h.ok o ho).le hl⟩
theorem NV.at_ {I : Hp} {v : Value} {xs : List NV} (h : PtV I v xs) {i : Nat} {x : NV} (hx : xs[i]? = some x) : ∀ k y, ([.bool x.neg, x.vn, x.vd] : List Value)[k]? = some y → I.cell? ⟨slcB v, slcO v + i * 3 + k, none⟩ = some y :=
  h.s.cells i _ (by rw [List.getElem?_map, hx]; rfl)
structure RsV (I : Hp) (v : Value) (l : List Rat) : Prop where
  out : ∃ rs : List RV, Slc I 3 v (rcs rs) ∧ (∀ r ∈ rs, r.ok I) ∧ rs.map RV.q = l
theorem RsV.le {I I' : Hp} {v : Value} {l : List Rat} (h : RsV I v l) (hl : I.Le I') : RsV I' v l := let ⟨rs, h1, h2, h3⟩ := h.out; ⟨rs, h1.le hl, fun r hr => (h2 r hr).le hl, h3⟩
end Go.Tw
namespace Go.Proofs.YtmgpifkekofacaaGreatDoor
open Go Go.Tw
end Go.Proofs.YtmgpifkekofacaaGreatDoor
namespace Go.Tw
open Go Go.RowKit
theorem wl_more {z : Int} {x : Nat} (O : List Nat) (h : z = x) : wl O ++ [.int .u32 z] = wl (O ++ [x]) := by subst h; simp [wl]
theorem take_more {A : List Nat} {i : Nat} (h : i < A.length) : A.take (i + 1) = A.take i ++ [dg A i] := by
  rw [List.take_add_one, dg_some h]; rfl
theorem eq_of_dg {A B : List Nat} (hl : A.length = B.length) (h : ∀ j, j < A.length → dg A j = dg B j) : A = B := by
  refine List.ext_getElem hl fun i h1 h2 => ?_
  have := h i h1
  rwa [dg_in h1, dg_in h2] at this
theorem cmp_lt {A B : List Nat} (hA : Wds A) (hB : Wds B) {i : Nat} (h : dg A i < dg B i) (he : ∀ t, i < t → dg A t = dg B t) : val A < val B := by
  have key : ∀ k, pre A (i + 1 + k) < pre B (i + 1 + k) := by
    intro k
    induction k with
    | zero =>
      have h1 := pre_lt hA i
      show pre A i + dg A i * 4294967296 ^ i < pre B i + dg B i * 4294967296 ^ i
      have h2 : (dg A i + 1) * 4294967296 ^ i ≤ dg B i * 4294967296 ^ i := Nat.mul_le_mul_right _ h
      rw [Nat.add_mul, Nat.one_mul] at h2
      omega
    | succ k ih =>
      show pre A (i + 1 + k) + dg A (i + 1 + k) * 4294967296 ^ (i + 1 + k) < pre B (i + 1 + k) + dg B (i + 1 + k) * 4294967296 ^ (i + 1 + k)
      rw [he (i + 1 + k) (by omega)]
      omega
  have h1 := key (A.length + B.length)
  rwa [pre_out (by omega), pre_out (by omega)] at h1
theorem val_same {A B : List Nat} (he : ∀ t, dg A t = dg B t) : val A = val B := by
  have h1 : pre A (A.length + B.length) = pre B (A.length + B.length) := pre_same fun j _ => he j
  rwa [pre_out (by omega), pre_out (by omega)] at h1
theorem val_more (O : List Nat) (x : Nat) : val (O ++ [x]) = val O + 4294967296 ^ O.length * x := by
  rw [val_app, val_cons, val_nil, Nat.mul_zero, Nat.add_zero]
theorem Wds.more {O : List Nat} (h : Wds O) {x : Nat} (hx : x < 4294967296) : Wds (O ++ [x]) := h.app (Wds_cons hx Wds_nil)
section
variable {P : Program} {Q : Exit → Act → World → Prop} {n : Nat} {D : List Deferred} {E : Env} {ops : Array Oper} {w0 : World} {I : Hp} {B B' : List Item}
theorem leafWX {w : World} {e : TypeId} {u v : Value} {O : List Nat} {I I1 : Hp} {B : List Item} {R : Value → Hp → List Item → Prop} (he : Ext w.heap.size I I1) (hw : Wds O) (hm : O.length ≤ maxLen) (h : ∀ I', I1.Le I' → Ws I' u O → R v I' []) :
    ∀ w', St w [] I1 (.row u e 1 O.length (wl O) :: B) w' → Post w [] I R v w' := by
  rw [← wcs_flat]
  exact leafRowX he (wcs_len O) (wcs_one O) hm fun I' hl hs => h I' hl ⟨hs, hw⟩
theorem c_sealO {c : Code} {e : TypeId} {u : Value} (O : List Nat) (ht : Take (.row u e 1 O.length (wl O)) B B') (hw : Wds O) (hm : O.length ≤ maxLen)
    (k : ∀ I', Ext w0.heap.size I I' → Ws I' u O → TC P c Q n D E (St w0 [] I' B')) : TC P c Q n D E (St w0 [] I B) :=
  c_sealR (xss := wcs O) (by rw [wcs_flat]; exact ht) (wcs_len O) (wcs_one O) hm fun I' hx hs => k I' hx ⟨hs, hw⟩
end
end Go.Tw
namespace Go.Proofs.YtmgpifkekofacaaGreatDoor
open Go Go.Tw
theorem rLow_any (va : Value) (A : List Nat) {I : Hp} (ha : Ws I va A) (hs : A.length ≤ 35184372088600) : Fun Tryz.prog 139 [va] I [] (fun v _ _ => v = .int .i64 (lowL A : Nat)) := by
  intro w hw
  refine enter1 _ Tryz.func139 rfl Tryz.ntmps139 rfl ?_ hw;refine sR ?_;refine oV ?_;refine nS ?_;refine oV ?_;refine nU ?_;refine oV ?_;refine oN (tC (cB ?_));refine c_loop (ι := Nat) [0] (.cons rfl .nil) (fun i => A.length - i) (fun i E0 => (3, .int .i64 (low A i : Nat)) :: (4, .int .i64 (i : Nat)) :: E0) (fun i => St w [] I []) (fun i => i ≤ A.length) (0) (sC rfl (sC rfl (sC rfl sN))) (fun _ h => h) (Nat.zero_le _) ?_;rintro i hi
  try dsimp only
  refine cS (sR ?_);iterate 2 refine oV ?_
  refine o_lenW trivial rfl Tryz.underlying40 rfl (ha) ?_;refine oV ?_;refine nT ?_;refine cC rfl (fun h1 => ?_) (fun h1 => ?_)
  ·
   have f1 := h1;try simp only [bl] at f1
   refine cK (tC (cS (cB (sR ?_))));iterate 2 refine oV ?_
   refine o_elemW trivial rfl Tryz.underlying40 Tryz.sizeOf101 rfl (ha) rfl (by omega) ?_;refine o_load1I trivial rfl Tryz.isAgg101 rfl (ha.cellI (k := i) rfl (by omega)) ?_;refine oV ?_;refine nT ?_;refine cC rfl (fun h2 => ?_) (fun h2 => ?_)
   ·
    have f2 := h2;try simp only [bl] at f2
    have hlow : low A (i + 1) = i + 1 := by show (if dg A i = 0 then low A i else i + 1) = i + 1; rw [if_neg (by omega)]
    refine cR ?_;refine oV ?_
    first | (refine o_add trivial rfl rfl rfl ?_ ?_; (omega)) | refine oV ?_
    refine oV ?_;refine oN (blk_n (tC (cR ?_)));refine oV ?_
    first | (refine o_add trivial rfl rfl rfl ?_ ?_; (omega)) | refine oV ?_
    refine oV ?_;refine oN ?_;exact again (i + 1) (by rw [hlow]; exact (sC rfl (sC rfl (sC rfl sN)))) (fun _ h => h) (by show A.length - (i + 1) < A.length - i; omega) (by show i + 1 ≤ _; omega)
   have f2 := h2;try simp only [bl] at f2
   have hlow : low A (i + 1) = low A i := by show (if dg A i = 0 then low A i else i + 1) = low A i; rw [if_pos (by omega)]
   refine cK (blk_n (tC (cR ?_)));refine oV ?_
   first | (refine o_add trivial rfl rfl rfl ?_ ?_; (omega)) | refine oV ?_
   refine oV ?_;refine oN ?_;exact again (i + 1) (by rw [hlow]; exact (sC rfl (sC rfl (sC rfl sN)))) (fun _ h => h) (by show A.length - (i + 1) < A.length - i; omega) (by show i + 1 ≤ _; omega)
  have f1 := h1;try simp only [bl] at f1
  refine c_exit (then_x (then_x (blk_eq rfl (tC (sR ?_)))));iterate 2 refine oV ?_
  refine nE ?_;refine ret1 rfl rfl ?_
  have hie : i = A.length := by omega
  subst hie; exact leaf0 rfl
theorem rWords_any (va vb : Value) (A B : List Nat) {I : Hp} (ha : Ws I va A) (hb : Ws I vb B) : Fun Tryz.prog 114 [va, vb] I [] (fun v _ _ => v = .bool (decide (A = B))) := by
  have hs := ha.most
  unfold maxLen at hs
  intro w hw
  refine enter2 _ Tryz.func114 rfl Tryz.ntmps114 rfl ?_ hw;refine sR ?_;refine oV ?_;refine nU ?_;refine oV ?_;refine o_lenW trivial rfl Tryz.underlying40 rfl (ha) ?_;refine oV ?_;refine o_lenW trivial rfl Tryz.underlying40 rfl (hb) ?_;refine oV ?_;refine nT ?_;refine cC rfl (fun h1 => ?_) (fun h1 => ?_)
  ·
   have f1 := h1;try simp only [bl] at f1
   refine sR ?_;refine oV ?_;refine nF ?_;refine ret1 rfl rfl ?_;refine leaf0 (congrArg Value.bool ?_); rw [decide_eq_false]; intro e; exact f1 (by rw [e])
  have f1 := h1;try simp only [bl] at f1
  refine cK (tC (cS (sR ?_)));refine oV ?_;refine oN (tC (cB ?_));refine c_loop (ι := Nat) [0, 1] (.cons rfl (.cons rfl .nil)) (fun i => A.length - i) (fun i E0 => (5, .int .i64 (i : Nat)) :: E0) (fun i => St w [] I []) (fun i => i ≤ A.length ∧ ∀ j, j < i → dg A j = dg B j) (0) (sC rfl (sC rfl (sC rfl sN))) (fun _ h => h) (⟨Nat.zero_le _, fun j h => absurd h (Nat.not_lt_zero _)⟩) ?_;rintro i ⟨hi, he⟩
  try dsimp only
  refine cS (sR ?_);iterate 2 refine oV ?_
  refine o_lenW trivial rfl Tryz.underlying40 rfl (ha) ?_;refine oV ?_;refine nT ?_;refine cC rfl (fun h2 => ?_) (fun h2 => ?_)
  ·
   have f2 := h2;try simp only [bl] at f2
   refine cK (tC (cS (cB (cS ?_))));refine c_quiet (by kernel_rfl) (by kernel_rfl) (fun _ h => h.drawn) ?_;iterate 2 refine oV ?_
   refine o_elemW trivial rfl Tryz.underlying40 Tryz.sizeOf101 rfl (ha) rfl (by omega) ?_;refine o_load1I trivial rfl Tryz.isAgg101 rfl (ha.cellI (k := i) rfl (by omega)) ?_;iterate 2 refine oV ?_
   refine o_elemW trivial rfl Tryz.underlying40 Tryz.sizeOf101 rfl (hb) rfl (by omega) ?_;refine o_load1I trivial rfl Tryz.isAgg101 rfl (hb.cellI (k := i) rfl (by omega)) ?_;refine oV ?_;refine nT ?_;refine cC rfl (fun h3 => ?_) (fun h3 => ?_)
   ·
    have f3 := h3;try simp only [bl] at f3
    refine sR ?_;refine oV ?_;refine oN (tC (cT (blk_r (tR (tR (blk_r (tR ?_)))))));refine ret1 rfl rfl ?_;refine leaf0 (congrArg Value.bool ?_); rw [decide_eq_false]; intro e; exact f3 (by rw [e])
   have f3 := h3;try simp only [bl] at f3
   refine cK (blk_n (tC (cR ?_)));refine oV ?_
   first | (refine o_add trivial rfl rfl rfl ?_ ?_; (omega)) | refine oV ?_
   refine oV ?_;refine oN ?_
   exact again (i + 1) (sC rfl (sC rfl (sC rfl sN))) (fun _ h => h) (by show A.length - (i + 1) < A.length - i; omega) ⟨by show i + 1 ≤ _; omega, fun j hj => by
     by_cases hji : j = i
     · subst hji; omega
     · exact he j (by omega)⟩
  have f2 := h2;try simp only [bl] at f2
  refine c_exit (then_x (then_x (blk_eq rfl (tC (sR ?_)))));refine oV ?_;refine nE ?_;refine ret1 rfl rfl ?_;refine leaf0 (congrArg Value.bool ?_); rw [decide_eq_true]; exact eq_of_dg (by omega) fun j hj => he j (by omega)
theorem rTrim_any (va : Value) (A : List Nat) {I : Hp} (ha : Ws I va A) (hs : A.length ≤ 35184372088600) : Fun Tryz.prog 116 [va] I [] (fun v I' _ => Ws I' v (natW (val A))) := by
  have hle : lowL A ≤ A.length := low_le A _
  intro w hw
  refine enter1 _ Tryz.func116 rfl Tryz.ntmps116 rfl ?_ hw;refine sR ?_;refine oV ?_;refine nS ?_;refine oV ?_;refine oQ Tryz.call139 rfl (rLow_any _ _ ha hs) ?_;refine oV ?_;refine nS ?_;refine oV ?_;refine nU ?_;refine oV ?_;refine oN (tC (cB ?_));refine c_loop (ι := Nat × Value) [0, 3] (.cons rfl (.cons rfl .nil)) (fun x => lowL A - x.1) (fun x E0 => (4, x.2) :: (5, .int .i64 (x.1 : Nat)) :: E0) (fun x => St w [] I [.row x.2 101 1 x.1 (wl (A.take x.1))]) (fun x => x.1 ≤ lowL A) ((0, .slice none 0 0)) (sC rfl (sC rfl (sC rfl (sC rfl sN)))) (fun _ h => h.nilRow _ _) (Nat.zero_le _) ?_;rintro ⟨i, u⟩ hi
  try dsimp only
  simp only at hi
  refine cS (sR ?_);iterate 3 refine oV ?_
  refine nT ?_;refine cC rfl (fun h1 => ?_) (fun h1 => ?_)
  ·
   have f1 := h1;try simp only [bl] at f1
   refine cK (tC (cS (cB (cR ?_))));iterate 3 refine oV ?_
   refine o_elemW trivial rfl Tryz.underlying40 Tryz.sizeOf101 rfl (ha) rfl (by omega) ?_;refine o_load1I trivial rfl Tryz.isAgg101 rfl (ha.cellI (k := i) rfl (by omega)) ?_;refine oB Tryz.underlying40 Tryz.sizeOf101 Tryz.zeroValue101 fun b18 => ?_;refine oD Tryz.underlying40 elem101 fun v19 => ?_;refine oV ?_;refine oN (blk_n (tC (cR ?_)));refine oV ?_
   first | (refine o_add trivial rfl rfl rfl ?_ ?_; (omega)) | refine oV ?_
   refine oV ?_;refine oN ?_;exact again (i + 1, v19) (sC rfl (sC rfl (sC rfl (sC rfl sN)))) (fun _ h => by rw [take_more (by omega), ← wl_more _ rfl]; exact h.sort (by repeat constructor)) (by show lowL A - (i + 1) < lowL A - i; omega) (by show i + 1 ≤ _; omega)
  have f1 := h1;try simp only [bl] at f1
  refine c_exit (then_x (then_x (blk_eq rfl (tC (sR ?_)))));iterate 2 refine oV ?_
  refine nE ?_;refine ret1 rfl rfl ?_
  have hie : i = lowL A := by omega
  subst hie
  have hlen : (A.take (lowL A)).length = lowL A := by rw [List.length_take]; omega
  have hm := ha.most
  exact fun w' hw' => leafWX (O := A.take (lowL A)) (Ext.refl _ _) (ha.wds.take _) (by omega) (fun I' hl hs => by rw [← trim_eq ha.wds]; exact hs) w' (by rw [hlen]; exact hw')
theorem rAt_any (va : Value) (A : List Nat) (i : Int) (k : Nat) {I : Hp} (ha : Ws I va A) (hi : i = k) : Fun Tryz.prog 164 [va, .int .i64 i] I [] (fun v _ _ => v = .int .u64 (dg A k : Nat)) := by
  subst hi
  intro w hw
  refine enter2 _ Tryz.func164 rfl Tryz.ntmps164 rfl ?_ hw;refine sR ?_;refine oV ?_;refine nU ?_;iterate 2 refine oV ?_
  refine' o_or trivial trivial rfl rfl rfl rfl rfl rfl rfl rfl (fun hb7 => ?_) ?_;rotate_left
  ·
   have fb7 := hb7
   try simp only [bl] at fb7
   iterate 2 refine gV hb7 ?_
   refine o_lenW (wS rfl rfl hb7) rfl Tryz.underlying40 rfl (ha) ?_;refine gV hb7 ?_;refine oN ?_;exact joins rfl
  refine nT ?_;refine cC rfl (fun h1 => ?_) (fun h1 => ?_)
  ·
   have f1 := h1;try simp only [bl] at f1
   refine sR ?_;refine oV ?_;refine nF ?_;refine ret1 rfl rfl ?_;refine leaf0 (congrArg (Value.int .u64) ?_); rw [dg_out (by omega)]; rfl
  have f1 := h1;try simp only [bl] at f1
  refine kS ?_;iterate 2 refine oV ?_
  refine o_elemW trivial rfl Tryz.underlying40 Tryz.sizeOf101 rfl (ha) rfl (by omega) ?_;refine o_load1I trivial rfl Tryz.isAgg101 rfl (ha.cellI (k := k) rfl (by omega)) ?_
  have hdl := dg_lt ha.wds k
  first | refine o_convIn trivial rfl Tryz.underlying101 Tryz.underlying136 rfl (by rw [IntWalk.u64_in _ (by omega)]) ?_ | refine o_conv trivial rfl Tryz.underlying101 Tryz.underlying136 rfl ?_
  refine oV ?_;refine nE ?_;refine ret1 rfl rfl ?_;exact leaf0 rfl
theorem rCmp_any (va vb : Value) (A B : List Nat) {I : Hp} (ha : Ws I va A) (hb : Ws I vb B) (hs : A.length ≤ 35184372088600) (hs2 : B.length ≤ 35184372088600) : Fun Tryz.prog 145 [va, vb] I [] (fun v _ _ => v = .int .i64 (cmpZ (val A : Nat) (val B : Nat))) := by
  intro w hw
  refine enter2 _ Tryz.func145 rfl Tryz.ntmps145 rfl ?_ hw;refine sR ?_;refine oV ?_;refine nS ?_;refine oV ?_;refine o_lenW trivial rfl Tryz.underlying40 rfl (ha) ?_;refine oV ?_;refine o_lenW trivial rfl Tryz.underlying40 rfl (hb) ?_;refine o_max2 trivial rfl rfl rfl ?_;refine oV ?_;refine nU ?_;refine oV ?_
  first | (refine o_sub trivial rfl rfl rfl ?_ ?_; (omega)) | refine oV ?_
  refine oV ?_;refine oN (tC (cB ?_));refine c_loop (ι := Nat × Int) [0, 1] (.cons rfl (.cons rfl .nil)) (fun x => x.1) (fun x E0 => (6, .int .i64 x.2) :: E0) (fun x => St w [] I []) (fun x => x.2 = (x.1 : Int) - 1 ∧ x.1 ≤ 35184372088600 ∧ ∀ t, x.1 ≤ t → dg A t = dg B t) ((max A.length B.length, max (A.length : Int) (B.length : Int) - 1)) (sC rfl (sC rfl (sC rfl sN))) (fun _ h => h) (⟨by simp only; omega, by show max A.length B.length ≤ _; omega, fun t ht => by have h9 : max A.length B.length ≤ t := ht; rw [dg_out (by omega), dg_out (by omega)]⟩) ?_;rintro ⟨j, z⟩ ⟨hz, hj, he⟩
  try dsimp only
  simp only at hz hj he; subst hz
  refine cS (sR ?_);iterate 2 refine oV ?_
  refine nT ?_;refine cC rfl (fun h1 => ?_) (fun h1 => ?_)
  ·
   have f1 := h1;try simp only [bl] at f1
   refine cK (tC (cS (cB (cS (sR ?_)))));iterate 2 refine oV ?_
   refine oQ Tryz.call164 rfl (rAt_any _ A _ (j - 1) ha (by omega)) ?_;iterate 2 refine oV ?_
   refine oQ Tryz.call164 rfl (rAt_any _ B _ (j - 1) hb (by omega)) ?_;refine oV ?_;refine nT ?_;refine cC rfl (fun h2 => ?_) (fun h2 => ?_)
   ·
    have f2 := h2;try simp only [bl] at f2
    refine sR ?_;refine oV ?_;refine oN (tC (cT (tR (blk_r (tR (tR (blk_r (tR ?_))))))));refine ret1 rfl rfl ?_;refine leaf0 (congrArg (Value.int .i64) ?_)
    have := cmp_lt ha.wds hb.wds (i := j - 1) (by omega) (fun t ht => he t (by omega))
    rw [cmpZ_lt (by omega)]
   have f2 := h2;try simp only [bl] at f2
   refine kS ?_;iterate 2 refine oV ?_
   refine oQ Tryz.call164 rfl (rAt_any _ A _ (j - 1) ha (by omega)) ?_;iterate 2 refine oV ?_
   refine oQ Tryz.call164 rfl (rAt_any _ B _ (j - 1) hb (by omega)) ?_;refine oV ?_;refine nT ?_;refine cC rfl (fun h3 => ?_) (fun h3 => ?_)
   ·
    have f3 := h3;try simp only [bl] at f3
    refine sR ?_;refine oV ?_;refine oN (tC (cT (blk_r (tR (tR (blk_r (tR ?_)))))));refine ret1 rfl rfl ?_;refine leaf0 (congrArg (Value.int .i64) ?_)
    have := cmp_lt hb.wds ha.wds (i := j - 1) (by omega) (fun t ht => (he t (by omega)).symm)
    rw [cmpZ_gt (by omega)]
   have f3 := h3;try simp only [bl] at f3
   refine cK (blk_n (tC (cR ?_)));refine oV ?_
   first | (refine o_sub trivial rfl rfl rfl ?_ ?_; (omega)) | refine oV ?_
   refine oV ?_;refine oN ?_
   exact again (j - 1, (j : Int) - 1 - 1) (sC rfl (sC rfl (sC rfl sN))) (fun _ h => h) (by show j - 1 < j; omega) ⟨by simp only; omega, by show j - 1 ≤ _; omega, fun t ht => by
     have h9 : j - 1 ≤ t := ht
     by_cases htj : t = j - 1
     · subst htj; omega
     · exact he t (by omega)⟩
  have f1 := h1;try simp only [bl] at f1
  refine c_exit (then_x (then_x (blk_eq rfl (tC (sR ?_)))));refine oV ?_;refine nE ?_;refine ret1 rfl rfl ?_;refine leaf0 (congrArg (Value.int .i64) ?_)
  rw [val_same (A := A) (B := B) fun t => he t (by omega), cmpZ_self]
end Go.Proofs.YtmgpifkekofacaaGreatDoor
namespace Go.Tw
theorem pre_end {A : List Nat} {k : Nat} (h : A.length ≤ k) : pre A k = val A := pre_out h
theorem sum_step {O : List Nat} {T i s c c' a : Nat} (hl : O.length = i) (h : val O + 4294967296 ^ i * c = T) (hs : s + 4294967296 * c' = a + c) : val (O ++ [s]) + 4294967296 ^ (i + 1) * c' = T + a * 4294967296 ^ i := by
  rw [val_more, hl, pow_succ]
  have e1 : 4294967296 ^ i * 4294967296 * c' = 4294967296 ^ i * (4294967296 * c') := Nat.mul_assoc _ _ _
  have e2 : 4294967296 ^ i * s + 4294967296 ^ i * (4294967296 * c') = 4294967296 ^ i * a + 4294967296 ^ i * c := by rw [← Nat.mul_add, ← Nat.mul_add, hs]
  have e3 : a * 4294967296 ^ i = 4294967296 ^ i * a := Nat.mul_comm _ _
  rw [e1, e3]
  generalize 4294967296 ^ i * s = x1 at *
  generalize 4294967296 ^ i * (4294967296 * c') = x2 at *
  generalize 4294967296 ^ i * a = x3 at *
  generalize 4294967296 ^ i * c = x4 at *
  omega
theorem diff_step {O : List Nat} {T U i s c c' a b : Nat} (hl : O.length = i) (h : val O + U = T + 4294967296 ^ i * c) (hs : s + b + c = a + 4294967296 * c') : val (O ++ [s]) + (U + b * 4294967296 ^ i) = (T + a * 4294967296 ^ i) + 4294967296 ^ (i + 1) * c' := by
  rw [val_more, hl, pow_succ]
  have e1 : 4294967296 ^ i * 4294967296 * c' = 4294967296 ^ i * (4294967296 * c') := Nat.mul_assoc _ _ _
  have e2 : 4294967296 ^ i * s + 4294967296 ^ i * b + 4294967296 ^ i * c = 4294967296 ^ i * a + 4294967296 ^ i * (4294967296 * c') := by rw [← Nat.mul_add, ← Nat.mul_add, ← Nat.mul_add, hs]
  have e3 : a * 4294967296 ^ i = 4294967296 ^ i * a := Nat.mul_comm _ _
  have e4 : b * 4294967296 ^ i = 4294967296 ^ i * b := Nat.mul_comm _ _
  rw [e1, e3, e4]
  generalize 4294967296 ^ i * s = x1 at *
  generalize 4294967296 ^ i * (4294967296 * c') = x2 at *
  generalize 4294967296 ^ i * a = x3 at *
  generalize 4294967296 ^ i * b = x5 at *
  generalize 4294967296 ^ i * c = x4 at *
  omega
theorem word_mul {a w c : Nat} (ha : a < 4294967296) (hw : w < 4294967296) (hc : c < 4294967296) : a * w + c < 4294967296 * 4294967296 := by
  have h1 : a * w ≤ 4294967295 * 4294967295 := Nat.mul_le_mul (by omega) (by omega)
  omega
end Go.Tw
namespace Go.Proofs.YtmgpifkekofacaaGreatDoor
open Go Go.Tw
theorem rSub_any (va vb : Value) (A B : List Nat) {I : Hp} (ha : Ws I va A) (hb : Ws I vb B) (hs : A.length ≤ 35184372088500) (hs2 : B.length ≤ 35184372088500) (hle : val B ≤ val A) : Fun Tryz.prog 146 [va, vb] I [] (fun v I' _ => ∃ u, v = .tuple #[u, .bool true] ∧ Ws I' u (natW (val A - val B))) := by
  have hcmp : ¬ cmpZ (val A : Nat) (val B : Nat) < 0 := by unfold cmpZ; split <;> (try split) <;> omega
  intro w hw
  refine enter2 _ Tryz.func146 rfl Tryz.ntmps146 rfl ?_ hw;refine sR ?_;iterate 2 refine oV ?_
  refine nU ?_;iterate 2 refine oV ?_
  refine oQ Tryz.call145 rfl (rCmp_any _ _ _ _ ha hb (by omega) (by omega)) ?_;refine oV ?_;refine nT ?_;refine cC rfl (fun h1 => ?_) (fun h1 => ?_)
  ·
   have f1 := h1;try simp only [bl] at f1
   exfalso; exact hcmp f1
  have f1 := h1;try simp only [bl] at f1
  refine kS ?_;refine oV ?_;refine nS ?_;refine oV ?_;refine nU ?_;refine oV ?_;refine oN (tC (cB ?_));refine c_loop (ι := Nat × Nat × List Nat × Value) [0, 1] (.cons rfl (.cons rfl .nil)) (fun x => A.length - x.1) (fun x E0 => (6, x.2.2.2) :: (7, .int .u64 (x.2.1 : Nat)) :: (8, .int .i64 (x.1 : Nat)) :: E0) (fun x => St w [] I [.row x.2.2.2 101 1 x.2.2.1.length (wl x.2.2.1)]) (fun x => x.1 ≤ A.length ∧ x.2.1 ≤ 1 ∧ x.2.2.1.length = x.1 ∧ Wds x.2.2.1 ∧ val x.2.2.1 + pre B x.1 = pre A x.1 + 4294967296 ^ x.1 * x.2.1) ((0, 0, [], .slice none 0 0)) (sC rfl (sC rfl (sC rfl (sC rfl (sC rfl sN))))) (fun _ h => h.nilRow _ _) (⟨Nat.zero_le _, by decide, rfl, Wds_nil, rfl⟩) ?_;rintro ⟨i, c, O, u⟩ ⟨hi, hc, hol, hO, hv⟩
  try dsimp only
  simp only at hi hc hol hO hv; have hda := dg_lt ha.wds i; have hdb := dg_lt hb.wds i
  refine cS (sR ?_);iterate 2 refine oV ?_
  refine o_lenW trivial rfl Tryz.underlying40 rfl (ha) ?_;refine oV ?_;refine nT ?_;refine cC rfl (fun h2 => ?_) (fun h2 => ?_)
  ·
   have f2 := h2;try simp only [bl] at f2
   refine cK (tC (cS (cB (sR ?_))));iterate 2 refine oV ?_
   refine oQ Tryz.call164 rfl (rAt_any _ A _ i ha rfl) ?_
   first | refine o_arA trivial rfl rfl rfl (by rw [IntWalk.u64_in _ (by omega)]) ?_ | refine oV ?_
   iterate 2 refine oV ?_
   refine oQ Tryz.call164 rfl (rAt_any _ B _ i hb rfl) ?_
   first | refine o_arS trivial rfl rfl rfl (by rw [IntWalk.u64_in _ (by omega)]) ?_ | refine oV ?_
   refine oV ?_
   first | refine o_arS trivial rfl rfl rfl (by rw [IntWalk.u64_in _ (by omega)]) ?_ | refine oV ?_
   refine oV ?_;refine nS ?_;iterate 2 refine oV ?_
   refine o_rem trivial rfl rfl rfl (by omega) ?_;refine o_convIn trivial rfl Tryz.underlying136 Tryz.underlying101 rfl (by rw [IntWalk.u32_in _ (by omega)]) ?_;refine oB Tryz.underlying40 Tryz.sizeOf101 Tryz.zeroValue101 fun b34 => ?_;refine oD Tryz.underlying40 elem101 fun v35 => ?_;refine oV ?_;refine nR ?_;refine oV ?_;refine o_quo trivial rfl rfl rfl (by omega) (by first | rfl | rw [IntWalk.u64_in _ (by omega)]) ?_
   first | refine o_arS trivial rfl rfl rfl (by rw [IntWalk.u64_in _ (by omega)]) ?_ | refine oV ?_
   refine oV ?_;refine oN (blk_n (tC (cR ?_)));refine oV ?_
   first | (refine o_add trivial rfl rfl rfl ?_ ?_; (omega)) | refine oV ?_
   refine oV ?_;refine oN ?_
   have hst := diff_step (s := (4294967296 + dg A i - dg B i - c) % 4294967296) (c' := 1 - (4294967296 + dg A i - dg B i - c) / 4294967296) (a := dg A i) (b := dg B i) hol hv (by omega)
   have e7 : (1 : Int) - (4294967296 + (dg A i : Int) - (dg B i : Int) - (c : Int)) / 4294967296 = ((1 - (4294967296 + dg A i - dg B i - c) / 4294967296 : Nat) : Int) := by omega
   exact again (i + 1, 1 - (4294967296 + dg A i - dg B i - c) / 4294967296, O ++ [(4294967296 + dg A i - dg B i - c) % 4294967296], v35) (by rw [e7]; exact (sC rfl (sC rfl (sC rfl (sC rfl (sC rfl sN)))))) (fun _ h => by rw [← wl_more O (z := (4294967296 + (dg A i : Int) - (dg B i : Int) - (c : Int)) % 4294967296) (by omega), List.length_append]; exact h.sort (by repeat constructor)) (by show A.length - (i + 1) < A.length - i; omega) ⟨by show i + 1 ≤ _; omega, by show 1 - _ ≤ 1; omega, by show (O ++ [_]).length = i + 1; rw [List.length_append, hol]; rfl, hO.more (by omega), hst⟩
  have f2 := h2;try simp only [bl] at f2
  refine c_exit (then_x (then_x (blk_eq rfl (tC (cS ?_)))))
  have hie : i = A.length := by omega
  subst hie
  rw [pre_end (Nat.le_refl _)] at hv
  have hB : pre B A.length = val B := by
    rcases Nat.lt_or_ge A.length B.length with hlt | hge
    · have h1 := val_split (l := B) (i := A.length) (by omega)
      have h2 := val_lt ha.wds
      have h3 : val (B.drop A.length) = 0 := by
        rcases Nat.eq_zero_or_pos (val (B.drop A.length)) with h | h
        · exact h
        · have : 4294967296 ^ A.length * 1 ≤ 4294967296 ^ A.length * val (B.drop A.length) := Nat.mul_le_mul_left _ h
          omega
      rw [h3, Nat.mul_zero] at h1
      omega
    · exact pre_end hge
  have hc0 : c = 0 := by
    have h2 := val_lt hO
    rw [hol] at h2
    rw [hB] at hv
    rcases Nat.eq_zero_or_pos c with h | h
    · exact h
    · have : 4294967296 ^ A.length * 1 ≤ 4294967296 ^ A.length * c := Nat.mul_le_mul_left _ h
      omega
  subst hc0
  rw [hB, Nat.mul_zero, Nat.add_zero] at hv
  refine c_sealO O .here hO (by unfold maxLen; omega) (fun I1 hx1 hs1 => ?_);refine cR ?_;refine oV ?_;refine oI Tryz.call116 rfl (rTrim_any _ _ hs1 (by omega)) ?_;rintro u2 I2 hx2 hs2';iterate 2 refine oV ?_
  refine nE ?_;refine ret2 rfl rfl rfl ?_;refine leaf (hx1.trans hx2 (Nat.le_refl _)) (List.nil_sublist _) ⟨u2, rfl, ?_⟩; rw [show val O = val A - val B by omega] at hs2'; exact hs2'
theorem rOne_any (va : Value) (A : List Nat) (y c0 : Nat) {I : Hp} (ha : Ws I va A) (hs : A.length ≤ 35184372088500) (hy : y < 4294967296) (hc0 : c0 < 4294967296) : Fun Tryz.prog 148 [va, .int .u32 (y : Int), .int .u32 (c0 : Int)] I [] (fun v I' _ => Ws I' v (natW (val A * y + c0))) := by
  intro w hw
  refine enter3 _ Tryz.func148 rfl Tryz.ntmps148 rfl ?_ hw;refine sR ?_;refine oV ?_;refine nS ?_;refine oV ?_;refine nS ?_;refine oV ?_
  first | refine o_convIn trivial rfl Tryz.underlying101 Tryz.underlying136 rfl (by rw [IntWalk.u64_in _ (by omega)]) ?_ | refine o_conv trivial rfl Tryz.underlying101 Tryz.underlying136 rfl ?_
  refine oV ?_;refine nU ?_;refine oV ?_;refine oN (tC (cB ?_));refine c_loop (ι := Nat × Nat × List Nat × Value) [0, 1] (.cons rfl (.cons rfl .nil)) (fun x => A.length - x.1) (fun x E0 => (7, x.2.2.2) :: (8, .int .u64 (x.2.1 : Nat)) :: (9, .int .i64 (x.1 : Nat)) :: E0) (fun x => St w [] I [.row x.2.2.2 101 1 x.2.2.1.length (wl x.2.2.1)]) (fun x => x.1 ≤ A.length ∧ x.2.1 < 4294967296 ∧ x.2.2.1.length = x.1 ∧ Wds x.2.2.1 ∧ val x.2.2.1 + 4294967296 ^ x.1 * x.2.1 = pre A x.1 * y + c0) ((0, c0, [], .slice none 0 0)) (sC rfl (sC rfl (sC rfl (sC rfl (sC rfl sN))))) (fun _ h => h.nilRow _ _) (⟨Nat.zero_le _, hc0, rfl, Wds_nil, by show 0 + 4294967296 ^ 0 * c0 = 0 * y + c0; omega⟩) ?_;rintro ⟨i, c, O, u⟩ ⟨hi, hc, hol, hO, hv⟩
  try dsimp only
  simp only at hi hc hol hO hv; have hda := dg_lt ha.wds i; have hmw := word_mul hda hy hc
  refine cS (sR ?_);iterate 2 refine oV ?_
  refine o_lenW trivial rfl Tryz.underlying40 rfl (ha) ?_;refine oV ?_;refine nT ?_;refine cC rfl (fun h1 => ?_) (fun h1 => ?_)
  ·
   have f1 := h1;try simp only [bl] at f1
   refine cK (tC (cS (cB (sR ?_))));iterate 2 refine oV ?_
   refine o_elemW trivial rfl Tryz.underlying40 Tryz.sizeOf101 rfl (ha) rfl (by omega) ?_;refine o_load1I trivial rfl Tryz.isAgg101 rfl (ha.cellI (k := i) rfl (by omega)) ?_
   first | refine o_convIn trivial rfl Tryz.underlying101 Tryz.underlying136 rfl (by rw [IntWalk.u64_in _ (by omega)]) ?_ | refine o_conv trivial rfl Tryz.underlying101 Tryz.underlying136 rfl ?_
   refine oV ?_
   first | refine o_convIn trivial rfl Tryz.underlying101 Tryz.underlying136 rfl (by rw [IntWalk.u64_in _ (by omega)]) ?_ | refine o_conv trivial rfl Tryz.underlying101 Tryz.underlying136 rfl ?_
   rw [show (dg A i : Int) = ((dg A i : Nat) : Int) from rfl]
   first | refine o_arM trivial rfl rfl rfl (by rw [IntWalk.u64_in _ (by rw [← Int.natCast_mul]; omega)]) ?_ | refine oV ?_
   refine oV ?_
   rw [← Int.natCast_mul]
   first | refine o_arA trivial rfl rfl rfl (by rw [IntWalk.u64_in _ (by omega)]) ?_ | refine oV ?_
   refine oV ?_;refine nS ?_;iterate 2 refine oV ?_
   refine o_rem trivial rfl rfl rfl (by omega) ?_;refine o_convIn trivial rfl Tryz.underlying136 Tryz.underlying101 rfl (by rw [IntWalk.u32_in _ (by omega)]) ?_;refine oB Tryz.underlying40 Tryz.sizeOf101 Tryz.zeroValue101 fun b33 => ?_;refine oD Tryz.underlying40 elem101 fun v34 => ?_;refine oV ?_;refine nR ?_;refine oV ?_;refine o_quo trivial rfl rfl rfl (by omega) (by first | rfl | rw [IntWalk.u64_in _ (by omega)]) ?_;refine oV ?_;refine oN (blk_n (tC (cR ?_)));refine oV ?_
   first | (refine o_add trivial rfl rfl rfl ?_ ?_; (omega)) | refine oV ?_
   refine oV ?_;refine oN ?_
   have hst := sum_step (s := (dg A i * y + c) % 4294967296) (c' := (dg A i * y + c) / 4294967296) (a := dg A i * y) hol hv (by omega)
   exact again (i + 1, (dg A i * y + c) / 4294967296, O ++ [(dg A i * y + c) % 4294967296], v34) (sC rfl (sC rfl (sC rfl (sC rfl (sC rfl sN))))) (fun _ h => by rw [← wl_more O (z := (((dg A i * y : Nat) : Int) + (c : Int)) % 4294967296) (by omega), List.length_append]; exact h.sort (by repeat constructor)) (by show A.length - (i + 1) < A.length - i; omega) ⟨by show i + 1 ≤ _; omega, by show (dg A i * y + c) / 4294967296 < 4294967296; omega, by show (O ++ [_]).length = i + 1; rw [List.length_append, hol]; rfl, hO.more (by omega), by
     show val (O ++ [_]) + 4294967296 ^ (i + 1) * _ = (pre A i + dg A i * 4294967296 ^ i) * y + c0
     rw [hst, Nat.add_mul, Nat.mul_right_comm]; omega⟩
  have f1 := h1;try simp only [bl] at f1
  refine c_exit (then_x (then_x (blk_eq rfl (tC (cS ?_)))))
  have hie : i = A.length := by omega
  subst hie
  rw [pre_end (Nat.le_refl _)] at hv
  refine cR ?_;iterate 2 refine oV ?_
  refine o_convIn trivial rfl Tryz.underlying136 Tryz.underlying101 rfl (by rw [IntWalk.u32_in _ (by omega)]) ?_;refine oB Tryz.underlying40 Tryz.sizeOf101 Tryz.zeroValue101 fun b40 => ?_;refine oD Tryz.underlying40 elem101 fun v41 => ?_;refine oV ?_;refine oN (tC (cS ?_))
  rw [show wl O ++ ([Value.int .u32 (c : Int)] ++ []) = wl (O ++ [c]) from wl_more O rfl]
  refine c_sealO (O ++ [c]) (by rw [List.length_append]; exact .there .here) (hO.more hc) (by rw [List.length_append, hol]; have := ha.most; unfold maxLen at *; show A.length + 1 ≤ _; omega) (fun I1 hx1 hs1 => ?_)
  rw [← hol, ← val_more] at hv
  refine cR ?_;refine oV ?_;refine oI Tryz.call116 rfl (rTrim_any _ _ hs1 (by rw [List.length_append, hol]; show A.length + 1 ≤ _; omega)) ?_;rintro u2 I2 hx2 hs2';refine oV ?_;refine nE ?_;refine ret1 rfl rfl ?_;refine leaf (hx1.trans hx2 (Nat.le_refl _)) (List.nil_sublist _) ?_; rw [hv] at hs2'; exact hs2'
theorem rShift_any (va : Value) (A : List Nat) (m : Nat) {I : Hp} (ha : Ws I va A) (hs : A.length ≤ 1000000) (hm : m ≤ 100000) : Fun Tryz.prog 147 [va, .int .i64 (m : Int)] I [] (fun v I' _ => Ws I' v (natW (val A * 2 ^ m))) := by
  have hA := val_lt ha.wds
  intro w hw
  refine enter2 _ Tryz.func147 rfl Tryz.ntmps147 rfl ?_ hw;refine sR ?_;refine oV ?_;refine nS ?_;refine oV ?_;refine oI Tryz.call116 rfl (rTrim_any _ _ ha (by omega)) ?_;rintro u1 I1 hx1 hs1;refine oV ?_;refine nU ?_;refine oV ?_;refine oN (tC (cB ?_));refine c_loop (ι := Nat × Value × Hp) [1] (.cons rfl .nil) (fun x => m - x.1) (fun x E0 => (5, x.2.1) :: (6, .int .i64 (x.1 : Nat)) :: E0) (fun x => St w [] x.2.2 []) (fun x => x.1 ≤ m ∧ Ws x.2.2 x.2.1 (natW (val A * 2 ^ x.1)) ∧ Ext w.heap.size I x.2.2) ((0, u1, I1)) (sC rfl (sC rfl (sC rfl sN))) (fun _ h => h) (⟨Nat.zero_le _, by show Ws I1 u1 (natW (val A * 1)); rw [Nat.mul_one]; exact hs1, hx1⟩) ?_;rintro ⟨i, u, I2⟩ ⟨hi, hu, hx2⟩
  try dsimp only
  simp only at hi hu hx2
  refine cS (sR ?_);iterate 3 refine oV ?_
  refine' o_and trivial trivial rfl rfl rfl rfl rfl rfl rfl rfl (fun hb12 => ?_) ?_;rotate_left
  ·
   iterate 2 refine gV hb12 ?_
   refine oN ?_;exact joins rfl
  refine' o_and trivial trivial rfl rfl rfl rfl rfl rfl rfl rfl (fun hb16 => ?_) ?_;rotate_left
  ·
   have fb16 := hb16
   try simp only [bl] at fb16
   refine gV hb16 ?_;refine o_lenW (wS rfl rfl hb16) rfl Tryz.underlying40 rfl (hu) ?_;refine gV hb16 ?_;refine oN ?_;exact joins rfl
  refine nT ?_;refine cC rfl (fun h1 => ?_) (fun h1 => ?_)
  ·
   have f1 := h1;try simp only [bl] at f1
   have hl1 : (natW (val A * 2 ^ i)).length ≤ A.length + (i + 1) := natW_len_le (by
     rw [Nat.pow_add]
     refine Nat.mul_lt_mul'' hA ?_
     have h2 : 2 ^ i < 2 ^ (32 * (i + 1)) := Nat.pow_lt_pow_right (by decide) (by omega)
     rwa [Nat.pow_mul] at h2)
   refine cK (tC (cS (cB (cR ?_))));refine oV ?_;refine oI Tryz.call148 rfl (rOne_any _ _ 2 0 hu (by omega) (by decide) (by decide)) ?_;rintro u3 I3 hx3 hs3;refine oV ?_;refine oN (blk_n (tC (cR ?_)));refine oV ?_
   first | (refine o_add trivial rfl rfl rfl ?_ ?_; (omega)) | refine oV ?_
   refine oV ?_;refine oN ?_
   rw [val_natW, Nat.add_zero, Nat.mul_assoc, ← Nat.pow_succ] at hs3
   exact again (i + 1, u3, I3) (sC rfl (sC rfl (sC rfl sN))) (fun _ h => h) (by show m - (i + 1) < m - i; omega) ⟨by show i + 1 ≤ _; omega, hs3, hx2.trans hx3 (Nat.le_refl _)⟩
  have f1 := h1;try simp only [bl] at f1
  refine c_exit (then_x (then_x (blk_eq rfl (tC (sR ?_)))));iterate 2 refine oV ?_
  refine nE ?_;refine ret1 rfl rfl ?_;refine leaf hx2 (List.nil_sublist _) ?_
  by_cases him : i = m
  · subst him; exact hu
  · have h0 : val A * 2 ^ i = 0 := natW_len_zero.1 (by omega)
    have hp : 0 < 2 ^ i := Nat.pow_pos (by decide)
    have h1 : val A = 0 := by
      rcases Nat.mul_eq_zero.1 h0 with h | h
      · exact h
      · omega
    rw [h1, Nat.zero_mul] at hu ⊢
    exact hu
end Go.Proofs.YtmgpifkekofacaaGreatDoor
namespace Go.Tw
open Go
theorem bits_one {a : Nat} (ha : a < 4294967296) : bits .and .u32 (a : Int) ((1 : Nat) : Int) = ((a % 2 : Nat) : Int) := by
  have h1 : (BitVec.ofInt 32 (a : Int)).toNat = a := by
    rw [BitVec.ofInt_natCast, BitVec.toNat_ofNat]; exact Nat.mod_eq_of_lt (by omega)
  have h2 : (BitVec.ofInt 32 ((1 : Nat) : Int)).toNat = 1 := by
    rw [BitVec.ofInt_natCast, BitVec.toNat_ofNat]
  show IntKind.u32.wrap ((BitVec.ofInt 32 (a : Int) &&& BitVec.ofInt 32 ((1 : Nat) : Int)).toNat : Int) = _
  rw [BitVec.toNat_and, h1, h2, Nat.and_one_is_mod, IntWalk.u32_in _ (by omega)]
section
variable {P : Program} {ops : Array Oper} {rest : List Oper} {n : Nat} {D : List Deferred} {E : Env} {S : World → Prop} {Q : Exit → Act → World → Prop} {d : Nat} {ty : TypeId} {pos : String} {aft : Array Edge} {g : Option (Nat × Bool)}
theorem o_and1 {qm : Bool} {x y : Operand} {t t2 : TypeId} {a : Nat} (hg : Wants ops E g) (hd : Nat.blt d n = true) (hx : ev E x = some (.int .u32 (a : Int))) (hy : ev E y = some (.int .u32 1)) (h : a < 4294967296)
    (k : TL qm P ops Q rest n D ((d, .int .u32 ((a % 2 : Nat) : Int)) :: E) S) : TL qm P ops Q (⟨some d, .binOp .and t x y t2, ty, pos, aft, g⟩ :: rest) n D E S :=
  o_rd hg hd (v := .int .u32 ((a % 2 : Nat) : Int)) (fun a w ha hw d pos aft g => ⟨w, by
    simp only [execOp, ha.ev hx, ha.ev hy, Sem.run_bind, run_eqGuard_int, Result.andThen_ok]
    rw [binOp_and, intBits_and, show (1 : Int) = ((1 : Nat) : Int) from rfl, bits_one h]
    simp, rfl⟩) k
end
theorem val_bit {A : List Nat} (hA : Wds A) {i : Nat} (h : i / 32 < A.length) : dg A (i / 32) / 2 ^ (i % 32) % 2 = val A / 2 ^ i % 2 := by
  have hr : i % 32 < 32 := Nat.mod_lt _ (by decide)
  have h1 := val_split (l := A) (i := i / 32) (by omega)
  have h2 := val_drop h
  have h3 : 2 ^ i = 4294967296 ^ (i / 32) * 2 ^ (i % 32) := by
    rw [pow_bits, ← Nat.pow_add]; congr 1; omega
  have h4 : val A / 4294967296 ^ (i / 32) = val (A.drop (i / 32)) := by
    rw [h1, Nat.add_mul_div_left _ _ (pow_pos _), Nat.div_eq_of_lt (pre_lt hA _), Nat.zero_add]
  have h5 : (4294967296 : Nat) = 2 ^ (i % 32) * (2 * 2 ^ (31 - i % 32)) := by
    rw [← Nat.pow_succ', ← Nat.pow_add, show i % 32 + (31 - i % 32).succ = 32 by omega]
  rw [h3, ← Nat.div_div_eq_div_mul, h4, h2, h5, Nat.mul_assoc, Nat.mul_assoc, Nat.add_mul_div_left _ _ (Nat.pow_pos (by decide)), Nat.add_mul_mod_self_left]
theorem bit_step {a i d q r : Nat} (hd : 0 < d) (hq : q = a / 2 ^ (i + 1) / d) (hr : r = a / 2 ^ (i + 1) % d) :
    (d ≤ 2 * r + a / 2 ^ i % 2 → 2 * q + 1 = a / 2 ^ i / d ∧ 2 * r + a / 2 ^ i % 2 - d = a / 2 ^ i % d) ∧ (¬ d ≤ 2 * r + a / 2 ^ i % 2 → 2 * q = a / 2 ^ i / d ∧ 2 * r + a / 2 ^ i % 2 = a / 2 ^ i % d) := by
  have h1 : a / 2 ^ (i + 1) = a / 2 ^ i / 2 := by rw [Nat.pow_succ, Nat.div_div_eq_div_mul]
  have h2 : r < d := by rw [hr]; exact Nat.mod_lt _ hd
  have h3 := Nat.div_add_mod (a / 2 ^ (i + 1)) d
  rw [← hq, ← hr, h1] at h3
  generalize a / 2 ^ i = b at *
  have hb : b % 2 < 2 := Nat.mod_lt _ (by decide)
  have hm : d * (2 * q) = 2 * (d * q) := Nat.mul_left_comm _ _ _
  constructor
  · intro h
    exact div_unique (by rw [Nat.mul_comm, Nat.mul_add, Nat.mul_one, hm]; omega) (by omega)
  · intro h
    exact div_unique (by rw [Nat.mul_comm, hm]; omega) (by omega)
end Go.Tw
namespace Go.Proofs.YtmgpifkekofacaaGreatDoor
open Go Go.Tw
theorem rBit_any (va : Value) (A : List Nat) (i : Nat) {I : Hp} (ha : Ws I va A) (hs : A.length ≤ 35184372088400) (hi : i < 32 * A.length) : Fun Tryz.prog 149 [va, .int .i64 (i : Int)] I [] (fun v _ _ => v = .int .u32 ((val A / 2 ^ i % 2 : Nat) : Int)) := by
  have hd := dg_lt ha.wds (i / 32)
  have hd2 : dg A (i / 32) / 2 ^ (i % 32) ≤ dg A (i / 32) := Nat.div_le_self _ _
  intro w hw
  refine enter2 _ Tryz.func149 rfl Tryz.ntmps149 rfl ?_ hw;refine sR ?_;refine oV ?_;refine nS ?_;iterate 2 refine oV ?_
  refine o_quo trivial rfl rfl rfl (by omega) (by first | rfl | rw [IntWalk.i64_in _ (by omega)]) ?_
  rw [show (i : Int) / 32 = ((i / 32 : Nat) : Int) by omega]
  refine o_elemW trivial rfl Tryz.underlying40 Tryz.sizeOf101 rfl (ha) rfl (by omega) ?_;refine o_load1I trivial rfl Tryz.isAgg101 rfl (ha.cellI (k := i / 32) rfl (by omega)) ?_;refine oV ?_;refine o_rem trivial rfl rfl rfl (by omega) ?_
  rw [show (i : Int) % 32 = ((i % 32 : Nat) : Int) by omega]
  refine o_shr (2 ^ (i % 32)) trivial rfl rfl rfl (by omega) (by rw [Int.toNat_natCast, show min (i % 32) IntKind.u32.bits = i % 32 from Nat.min_eq_left (by show i % 32 ≤ 32; omega)]) (by omega) ?_
  rw [show (dg A (i / 32) : Int) / ((2 ^ (i % 32) : Nat) : Int) = ((dg A (i / 32) / 2 ^ (i % 32) : Nat) : Int) from (Int.natCast_ediv _ _).symm]
  refine o_and1 trivial rfl rfl rfl (by omega) ?_;refine oV ?_;refine nE ?_;refine ret1 rfl rfl ?_;refine leaf0 (congrArg (Value.int .u32) ?_); rw [val_bit ha.wds (by omega)]
theorem dbl_len {n b k : Nat} (h : (natW n).length ≤ k) (hb : (natW b).length ≤ k) : (natW (2 * n + b)).length ≤ k + 2 := by
  rw [Nat.two_mul]
  exact natW_add_len _ _ (k + 1) (natW_add_len _ _ k h h) (by omega)
theorem one_len {b : Nat} (h : b ≤ 1) : (natW b).length ≤ 1 := natW_len_le (by rw [Nat.pow_one]; omega)
theorem rDiv_any (va vb : Value) (A B : List Nat) {I : Hp} (ha : Ws I va A) (hb : Ws I vb B) (hs : A.length ≤ 35184372088400) (hs2 : B.length ≤ 35184372088400) (h0 : 0 < val B) : Fun Tryz.prog 124 [va, vb] I [] (fun v I' _ => ∃ u1 u2, v = .tuple #[u1, u2, .bool true] ∧ Ws I' u1 (natW (val A / val B)) ∧ Ws I' u2 (natW (val A % val B))) := by
  have hbl : (natW (val B)).length ≤ B.length := natW_len_list hb.wds
  have hbz : (natW (val B)).length ≠ 0 := fun e => by have := natW_len_zero.1 e; omega
  have hA : val A < 2 ^ (32 * A.length) := by have := val_lt ha.wds; rwa [pow_bits] at this
  have hal : (natW (val A)).length ≤ A.length := natW_len_list ha.wds
  intro w hw
  refine enter2 _ Tryz.func124 rfl Tryz.ntmps124 rfl ?_ hw;refine sR ?_;iterate 3 refine oV ?_
  refine nS ?_;refine oV ?_;refine oI Tryz.call116 rfl (rTrim_any _ _ hb (by omega)) ?_;rintro u1 I1 hx1 hs1;refine oV ?_;refine nU ?_;refine oV ?_;refine o_lenW trivial rfl Tryz.underlying40 rfl (hs1) ?_;refine oV ?_;refine nT ?_;refine cC rfl (fun h1 => ?_) (fun h1 => ?_)
  ·
   have f1 := h1;try simp only [bl] at f1
   exfalso; omega
  have f1 := h1;try simp only [bl] at f1
  refine kS ?_;refine oV ?_;refine nS ?_;refine oV ?_;refine nU ?_;refine oV ?_;refine o_lenW trivial rfl Tryz.underlying40 rfl (ha) ?_
  first | (refine o_mul trivial rfl rfl rfl ?_ ?_; (omega)) | refine oV ?_
  first | (refine o_sub trivial rfl rfl rfl ?_ ?_; (omega)) | refine oV ?_
  refine oV ?_;refine oN (tC (cB ?_));refine c_loop (ι := Nat × Int × Value × Value × Hp) [0, 7] (.cons rfl (.cons rfl .nil)) (fun x => x.1) (fun x E0 => (8, x.2.2.1) :: (9, x.2.2.2.1) :: (10, .int .i64 x.2.1) :: E0) (fun x => St w [] x.2.2.2.2 []) (fun x => x.1 ≤ 32 * A.length ∧ x.2.1 = (x.1 : Int) - 1 ∧ Ws x.2.2.2.2 x.2.2.1 (natW (val A / 2 ^ x.1 / val B)) ∧ Ws x.2.2.2.2 x.2.2.2.1 (natW (val A / 2 ^ x.1 % val B)) ∧ Ext w.heap.size I x.2.2.2.2 ∧ I1.Le x.2.2.2.2) ((32 * A.length, 32 * (A.length : Int) - 1, .slice none 0 0, .slice none 0 0, I1)) (sC rfl (sC rfl (sC rfl (sC rfl (sC rfl sN))))) (fun _ h => h) (⟨Nat.le_refl _, by simp only; omega, by simp only; rw [Nat.div_eq_of_lt hA, Nat.zero_div, natW_zero]; exact Ws.nil _, by simp only; rw [Nat.div_eq_of_lt hA, Nat.zero_mod, natW_zero]; exact Ws.nil _, hx1, Hp.Le.refl _⟩) ?_;rintro ⟨j, z, uq, ur, I2⟩ ⟨hj, hz, hq, hr, hx2, hle⟩
  try dsimp only
  simp only at hj hz hq hr hx2 hle; subst hz
  refine cS (sR ?_);iterate 2 refine oV ?_
  refine nT ?_;refine cC rfl (fun h2 => ?_) (fun h2 => ?_)
  ·
   have f2 := h2;try simp only [bl] at f2
   obtain ⟨i, rfl⟩ : ∃ i, j = i + 1 := ⟨j - 1, by omega⟩
   have hql : (natW (val A / 2 ^ (i + 1) / val B)).length ≤ 35184372088400 := Nat.le_trans (natW_le_len (Nat.le_trans (Nat.div_le_self _ _) (Nat.div_le_self _ _))) (Nat.le_trans hal hs)
   have hrl : (natW (val A / 2 ^ (i + 1) % val B)).length ≤ 35184372088400 := Nat.le_trans (natW_le_len (Nat.le_trans (Nat.mod_le _ _) (Nat.div_le_self _ _))) (Nat.le_trans hal hs)
   have hbs := bit_step (a := val A) (i := i) h0 rfl rfl
   have e1 : ((i + 1 : Nat) : Int) - 1 = (i : Nat) := by omega
   rw [e1]
   have hqv : val (natW (val A / 2 ^ (i + 1) / val B)) * 2 + 0 = 2 * (val A / 2 ^ (i + 1) / val B) := by rw [val_natW]; omega
   have hrv : val (natW (val A / 2 ^ (i + 1) % val B)) * 2 + val A / 2 ^ i % 2 = 2 * (val A / 2 ^ (i + 1) % val B) + val A / 2 ^ i % 2 := by rw [val_natW]; omega
   refine cK (tC (cS (cB (sR ?_))));refine oV ?_;refine oI Tryz.call148 rfl (rOne_any _ _ 2 0 hq (by omega) (by decide) (by decide)) ?_;rintro u3 I3 hx3 hs3;refine oV ?_;refine nS ?_;iterate 3 refine oV ?_
   refine oQ Tryz.call149 rfl (rBit_any _ A i (ha.le (hx2.le.trans hx3.le)) (by omega) (by omega)) ?_;refine oI Tryz.call148 rfl (rOne_any _ _ 2 (val A / 2 ^ i % 2) (hr.le hx3.le) (by omega) (by decide) (by omega)) ?_;rintro u4 I4 hx4 hs4;refine oV ?_;refine oN (tC (cS ?_))
   rw [hqv] at hs3
   rw [hrv] at hs4
   have hl3 := dbl_len (n := val A / 2 ^ (i + 1) / val B) (b := 0) hql (by rw [natW_zero]; exact Nat.zero_le _)
   rw [Nat.add_zero] at hl3
   have hl4 := dbl_len (n := val A / 2 ^ (i + 1) % val B) (b := val A / 2 ^ i % 2) hrl (Nat.le_trans (one_len (by omega)) (by decide))
   refine cR ?_;iterate 2 refine oV ?_
   refine oQ Tryz.call145 rfl (rCmp_any _ _ _ _ hs4 (hs1.le (hle.trans (hx3.le.trans hx4.le))) (by omega) (by omega)) ?_;refine oV ?_;refine nT ?_;refine cC rfl (fun h3 => ?_) (fun h3 => ?_)
   ·
    have f3 := h3;try simp only [bl] at f3
    rw [val_natW, val_natW] at f3
    have hge : val B ≤ 2 * (val A / 2 ^ (i + 1) % val B) + val A / 2 ^ i % 2 := by unfold cmpZ at f3; split at f3 <;> (try split at f3) <;> omega
    obtain ⟨hb1, hb2⟩ := hbs.1 hge
    refine sR ?_;iterate 2 refine oV ?_
    refine oI Tryz.call146 rfl (rSub_any _ _ _ _ hs4 (hs1.le (hle.trans (hx3.le.trans hx4.le))) (by omega) (by omega) (by rw [val_natW, val_natW]; exact hge)) ?_;rintro _ I5 hx5 ⟨u5, rfl, hs5⟩;iterate 4 refine oV ?_
    refine nR ?_;refine oV ?_;refine oI Tryz.call148 rfl (rOne_any _ _ 1 1 (hs3.le (hx4.le.trans hx5.le)) (by omega) (by decide) (by decide)) ?_;rintro u6 I6 hx6 hs6;refine oV ?_;refine oN (blk_n (tC (cR ?_)));refine oV ?_
    first | (refine o_sub trivial rfl rfl rfl ?_ ?_; (omega)) | refine oV ?_
    refine oV ?_;refine oN ?_
    first
      | (rw [val_natW, val_natW, hb2] at hs5
         rw [val_natW, Nat.mul_one, hb1] at hs6
         exact again (i, (i : Int) - 1, u6, u5, I6) (sC rfl (sC rfl (sC rfl (sC rfl (sC rfl sN))))) (fun _ h => h) (by show i < i + 1; omega) ⟨by show i ≤ _; omega, rfl, hs6, hs5.le hx6.le, hx2.trans (hx3.trans (hx4.trans (hx5.trans hx6 (Nat.le_refl _)) (Nat.le_refl _)) (Nat.le_refl _)) (Nat.le_refl _), hle.trans (hx3.le.trans (hx4.le.trans (hx5.le.trans hx6.le)))⟩)
      | (rw [hb2] at hs4
         rw [hb1] at hs3
         exact again (i, (i : Int) - 1, u3, u4, I4) (sC rfl (sC rfl (sC rfl (sC rfl (sC rfl sN))))) (fun _ h => h) (by show i < i + 1; omega) ⟨by show i ≤ _; omega, rfl, hs3.le hx4.le, hs4, hx2.trans (hx3.trans hx4 (Nat.le_refl _)) (Nat.le_refl _), hle.trans (hx3.le.trans hx4.le)⟩)
   have f3 := h3;try simp only [bl] at f3
   rw [val_natW, val_natW] at f3
   have hge : ¬ val B ≤ 2 * (val A / 2 ^ (i + 1) % val B) + val A / 2 ^ i % 2 := by unfold cmpZ at f3; split at f3 <;> (try split at f3) <;> omega
   obtain ⟨hb1, hb2⟩ := hbs.2 hge
   refine cK (blk_n (tC (cR ?_)));refine oV ?_
   first | (refine o_sub trivial rfl rfl rfl ?_ ?_; (omega)) | refine oV ?_
   refine oV ?_;refine oN ?_
   first
     | (rw [val_natW, val_natW, hb2] at hs5
        rw [val_natW, Nat.mul_one, hb1] at hs6
        exact again (i, (i : Int) - 1, u6, u5, I6) (sC rfl (sC rfl (sC rfl (sC rfl (sC rfl sN))))) (fun _ h => h) (by show i < i + 1; omega) ⟨by show i ≤ _; omega, rfl, hs6, hs5.le hx6.le, hx2.trans (hx3.trans (hx4.trans (hx5.trans hx6 (Nat.le_refl _)) (Nat.le_refl _)) (Nat.le_refl _)) (Nat.le_refl _), hle.trans (hx3.le.trans (hx4.le.trans (hx5.le.trans hx6.le)))⟩)
     | (rw [hb2] at hs4
        rw [hb1] at hs3
        exact again (i, (i : Int) - 1, u3, u4, I4) (sC rfl (sC rfl (sC rfl (sC rfl (sC rfl sN))))) (fun _ h => h) (by show i < i + 1; omega) ⟨by show i ≤ _; omega, rfl, hs3.le hx4.le, hs4, hx2.trans (hx3.trans hx4 (Nat.le_refl _)) (Nat.le_refl _), hle.trans (hx3.le.trans hx4.le)⟩)
  have f2 := h2;try simp only [bl] at f2
  refine c_exit (then_x (then_x (blk_eq rfl (tC (sR ?_)))));iterate 5 refine oV ?_
  refine nE ?_;refine ret3 rfl rfl rfl rfl ?_
  have hj0 : j = 0 := by omega
  subst hj0
  rw [Nat.pow_zero, Nat.div_one] at hq hr
  exact leaf hx2 (List.nil_sublist _) ⟨uq, ur, rfl, hq, hr⟩
theorem rSmall_any (va : Value) (A : List Nat) (d : Nat) {I : Hp} (ha : Ws I va A) (hs : A.length ≤ 35184372088400) (hd0 : 0 < d) (hd : d < 4294967296) : Fun Tryz.prog 117 [va, .int .u32 (d : Int)] I [] (fun v I' _ => ∃ u, v = .tuple #[u, .int .u32 ((val A % d : Nat) : Int), .bool true] ∧ Ws I' u (natW (val A / d))) := by
  have hv1 : val [d] = d := by rw [val_cons, val_nil]; omega
  intro w hw
  refine enter2 _ Tryz.func117 rfl Tryz.ntmps117 rfl ?_ hw;refine sR ?_;iterate 3 refine oV ?_
  refine nS ?_;iterate 2 refine oV ?_
  refine oB Tryz.underlying40 Tryz.sizeOf101 Tryz.zeroValue101 fun b13 => ?_;refine l_sealW [d] .here (Wds_cons hd Wds_nil) (by unfold maxLen; simp) (fun I1 hx1 hs1 => ?_);refine oI Tryz.call124 rfl (rDiv_any _ _ A [d] (ha.le hx1.le) hs1 hs (by simp) (by rw [hv1]; exact hd0)) ?_;rintro _ I2 hx2 ⟨u1, u2, rfl, hq, hr⟩;iterate 7 refine oV ?_
  refine oN (tC (cS (cS ?_)))
  rw [hv1] at hq hr
  have hrd : val A % d < d := Nat.mod_lt _ hd0
  have hrl := natW_len_le (n := val A % d) (k := 1) (by rw [Nat.pow_one]; omega)
  refine cR ?_;refine oV ?_;refine o_lenW trivial rfl Tryz.underlying40 rfl (hr) ?_;refine oV ?_;refine nT ?_;refine cC rfl (fun h1 => ?_) (fun h1 => ?_)
  ·
   have f1 := h1;try simp only [bl] at f1
   refine sR ?_;iterate 5 refine oV ?_
   refine nF ?_;refine ret3 rfl rfl rfl rfl ?_
   have h0 : val A % d = 0 := natW_len_zero.1 (by omega)
   refine leaf (hx1.trans hx2 (Nat.le_refl _)) (List.nil_sublist _) ⟨u1, ?_, hq⟩; rw [h0]; rfl
  have f1 := h1;try simp only [bl] at f1
  have h0 : val A % d ≠ 0 := fun e => f1 (by rw [e, natW_zero]; rfl)
  have hdg : dg (natW (val A % d)) 0 = val A % d := by rw [natW_pos h0]; show (val A % d) % 4294967296 = _; exact Nat.mod_eq_of_lt (by omega)
  refine cK (tC (cS ?_));refine c_quiet (by kernel_rfl) (by kernel_rfl) (fun _ h => h.drawn) ?_;iterate 2 refine oV ?_
  refine o_elemW trivial rfl Tryz.underlying40 Tryz.sizeOf101 rfl (hr) rfl (by omega) ?_;refine o_load1I trivial rfl Tryz.isAgg101 rfl (hr.cellI (k := 0) rfl (by omega)) ?_;iterate 4 refine oV ?_
  refine nE ?_;refine ret3 rfl rfl rfl rfl ?_;refine leaf (hx1.trans hx2 (Nat.le_refl _)) (List.nil_sublist _) ⟨u1, ?_, hq⟩; rw [hdg]; rfl
theorem natW_even {n : Nat} (h : n ≠ 0) : dg (natW n) 0 % 2 = n % 2 := by
  rw [natW_pos h]; show (n % 4294967296) % 2 = n % 2; omega
structure OddOf (n x k : Nat) : Prop where
  eq : n = 2 ^ k * x
  odd : x % 2 = 1
theorem rOdd_any (va : Value) (n : Nat) {I : Hp} (ha : Ws I va (natW n)) (hs : (natW n).length ≤ 35184372088400) (h0 : 0 < n) : Fun Tryz.prog 144 [va] I [] (fun v I' _ => ∃ u x k, v = .tuple #[u, .int .i64 (k : Nat)] ∧ Ws I' u (natW x) ∧ OddOf n x k) := by
  intro w hw
  refine enter1 _ Tryz.func144 rfl Tryz.ntmps144 rfl ?_ hw;refine sR ?_;iterate 2 refine oV ?_
  refine nS ?_;refine oV ?_;refine oN (tC (cS (cB ?_)));refine c_loop (ι := Nat × Nat × Value × Hp) [] .nil (fun x => x.1) (fun x E0 => (0, x.2.2.1) :: (4, .int .i64 (x.2.1 : Nat)) :: E0) (fun x => St w [] x.2.2.2 []) (fun x => 0 < x.1 ∧ n = 2 ^ x.2.1 * x.1 ∧ Ws x.2.2.2 x.2.2.1 (natW x.1) ∧ (natW x.1).length ≤ 35184372088400 ∧ Ext w.heap.size I x.2.2.2) ((n, 0, va, I)) (sC rfl (sC rfl sN)) (fun _ h => h) (⟨h0, by simp, ha, hs, Ext.refl _ _⟩) ?_;rintro ⟨m, k, u, I1⟩ ⟨hm0, he, hu, hl, hx1⟩
  try dsimp only
  simp only at hm0 he hu hl hx1; have hne : (natW m).length ≠ 0 := fun e => by have := natW_len_zero.1 e; omega
  refine cS (sR ?_);refine oV ?_;refine o_lenW trivial rfl Tryz.underlying40 rfl (hu) ?_;refine oV ?_;refine' o_and trivial trivial rfl rfl rfl rfl rfl rfl rfl rfl (fun hb8 => ?_) ?_;rotate_left
  ·
   have fb8 := hb8
   try simp only [bl] at fb8
   refine gV hb8 ?_;refine o_elemW (wS rfl rfl hb8) rfl Tryz.underlying40 Tryz.sizeOf101 rfl (hu) rfl (by omega) ?_;refine o_load1I (wS rfl rfl hb8) rfl Tryz.isAgg101 rfl (hu.cellI (k := 0) rfl (by omega)) ?_;refine o_rem (wS rfl rfl hb8) rfl rfl rfl (by omega) ?_;refine gV hb8 ?_;refine oN ?_;exact joins rfl
  refine nT ?_;refine cC rfl (fun h1 => ?_) (fun h1 => ?_)
  ·
   have f1 := h1;try simp only [bl] at f1
   have hev := natW_even (n := m) (by omega)
   have hk64 : k < 32 * (natW n).length := by
     have h1 := val_lt (Wds_natW n)
     rw [val_natW, pow_bits] at h1
     have h2 : 2 ^ k ≤ n := by rw [he]; exact Nat.le_mul_of_pos_right _ hm0
     exact (Nat.pow_lt_pow_iff_right (by decide)).1 (Nat.lt_of_le_of_lt h2 h1)
   have hmm : m % 2 = 0 := by omega
   refine cK (tC (cB (sR ?_)));refine oV ?_;refine oI Tryz.call117 rfl (rSmall_any _ _ 2 hu hl (by decide) (by decide)) ?_;rintro _ I2 hx2 ⟨u2, rfl, hs2⟩;iterate 5 refine oV ?_
   refine nR ?_;refine oV ?_
   first | (refine o_add trivial rfl rfl rfl ?_ ?_; (omega)) | refine oV ?_
   refine oV ?_;refine oN (blk_n ?_)
   rw [val_natW] at hs2
   exact again (m / 2, k + 1, u2, I2) (sC rfl (sC rfl sN)) (fun _ h => h) (by show m / 2 < m; omega) ⟨by show 0 < m / 2; omega, by show n = 2 ^ (k + 1) * (m / 2); rw [he, Nat.pow_succ, Nat.mul_assoc]; congr 1; omega, hs2, Nat.le_trans (natW_le_len (Nat.div_le_self _ _)) hl, hx1.trans hx2 (Nat.le_refl _)⟩
  have f1 := h1;try simp only [bl] at f1
  refine c_exit (then_x (then_x (blk_eq rfl (tC (sR ?_)))));iterate 4 refine oV ?_
  refine nE ?_;refine ret2 rfl rfl rfl ?_
  have hev := natW_even (n := m) (by omega)
  exact leaf hx1 (List.nil_sublist _) ⟨u, m, k, rfl, hu, he, by omega⟩
theorem OddOf.pos {n x k : Nat} (h : OddOf n x k) : 0 < x := by have := h.odd; omega
theorem OddOf.le {n x k : Nat} (h : OddOf n x k) : x ≤ n := by rw [h.eq]; exact Nat.le_mul_of_pos_left _ (Nat.pow_pos (by decide))
theorem OddOf.pow_lt {n x k L : Nat} (h : OddOf n x k) (hL : (natW n).length ≤ L) : k < 32 * L := by
  have h1 := val_lt (Wds_natW n)
  rw [val_natW, pow_bits] at h1
  have h2 : 2 ^ k ≤ n := by rw [h.eq]; exact Nat.le_mul_of_pos_right _ h.pos
  have h3 := (Nat.pow_lt_pow_iff_right (by decide)).1 (Nat.lt_of_le_of_lt h2 h1)
  omega
theorem rGcd_any (va vb : Value) (A B : List Nat) {I : Hp} (ha : Ws I va A) (hb : Ws I vb B) (hs : A.length ≤ 3000) (hs2 : B.length ≤ 3000) : Fun Tryz.prog 123 [va, vb] I [] (fun v I' _ => Ws I' v (natW (Nat.gcd (val A) (val B)))) := by
  have hal : (natW (val A)).length ≤ 3000 := Nat.le_trans (natW_len_list ha.wds) hs
  have hbl : (natW (val B)).length ≤ 3000 := Nat.le_trans (natW_len_list hb.wds) hs2
  intro w hw
  refine enter2 _ Tryz.func123 rfl Tryz.ntmps123 rfl ?_ hw;refine sR ?_;refine oV ?_;refine nS ?_;refine oV ?_;refine oI Tryz.call116 rfl (rTrim_any _ _ ha (by omega)) ?_;rintro u1 I1 hx1 hs1;refine oV ?_;refine nS ?_;refine oV ?_;refine oI Tryz.call116 rfl (rTrim_any _ _ (hb.le hx1.le) (by omega)) ?_;rintro u2 I2 hx2 hs2';refine oV ?_;refine nU ?_;refine oV ?_;refine o_lenW trivial rfl Tryz.underlying40 rfl (hs1.le hx2.le) ?_;refine oV ?_;refine nT ?_;refine cC rfl (fun h1 => ?_) (fun h1 => ?_)
  ·
   have f1 := h1;try simp only [bl] at f1
   refine sR ?_;iterate 2 refine oV ?_
   refine nF ?_;refine ret1 rfl rfl ?_
   have h0 : val A = 0 := natW_len_zero.1 (by omega)
   refine leaf (hx1.trans hx2 (Nat.le_refl _)) (List.nil_sublist _) ?_; rw [h0, Nat.gcd_zero_left]; exact hs2'
  have f1 := h1;try simp only [bl] at f1
  refine cK (tC (cS (sR ?_)));refine oV ?_;refine o_lenW trivial rfl Tryz.underlying40 rfl (hs2') ?_;refine oV ?_;refine nT ?_;refine cC rfl (fun h2 => ?_) (fun h2 => ?_)
  ·
   have f2 := h2;try simp only [bl] at f2
   refine sR ?_;iterate 2 refine oV ?_
   refine nF ?_;refine ret1 rfl rfl ?_
   have h0 : val B = 0 := natW_len_zero.1 (by omega)
   refine leaf (hx1.trans hx2 (Nat.le_refl _)) (List.nil_sublist _) ?_; rw [h0, Nat.gcd_zero_right]; exact hs1.le hx2.le
  have f2 := h2;try simp only [bl] at f2
  have hA0 : 0 < val A := Nat.pos_of_ne_zero fun e => f1 (by rw [e, natW_zero]; rfl)
  have hB0 : 0 < val B := Nat.pos_of_ne_zero fun e => f2 (by rw [e, natW_zero]; rfl)
  refine kS ?_;refine oV ?_;refine oI Tryz.call144 rfl (rOdd_any _ _ (hs1.le hx2.le) (by omega) hA0) ?_;rintro _ I3 hx3 ⟨u3, x, n, rfl, hs3, ho3⟩;iterate 5 refine oV ?_
  refine oN (tC (cS ?_))
  have hn := ho3.pow_lt hal
  refine cR ?_;refine oV ?_;refine oI Tryz.call144 rfl (rOdd_any _ _ (hs2'.le hx3.le) (by omega) hB0) ?_;rintro _ I4 hx4 ⟨u4, y, k, rfl, hs4, ho4⟩;iterate 5 refine oV ?_
  refine oN (tC (cS (cB ?_)));refine c_loop (ι := Nat × Nat × Value × Value × Hp) [7, 8] (.cons rfl (.cons rfl .nil)) (fun t => t.1 + t.2.1) (fun t E0 => (5, t.2.2.1) :: (6, t.2.2.2.1) :: E0) (fun t => St w [] t.2.2.2.2 []) (fun t => t.1 % 2 = 1 ∧ t.2.1 % 2 = 1 ∧ Nat.gcd t.1 t.2.1 = Nat.gcd x y ∧ Ws t.2.2.2.2 t.2.2.1 (natW t.1) ∧ Ws t.2.2.2.2 t.2.2.2.1 (natW t.2.1) ∧ (natW t.1).length ≤ 3000 ∧ (natW t.2.1).length ≤ 3000 ∧ Ext w.heap.size I t.2.2.2.2) ((x, y, u3, u4, I4)) (sC rfl (sC rfl (sC rfl (sC rfl sN)))) (fun _ h => h) (⟨ho3.odd, ho4.odd, rfl, hs3.le hx4.le, hs4, Nat.le_trans (natW_le_len ho3.le) hal, Nat.le_trans (natW_le_len ho4.le) hbl, hx1.trans (hx2.trans (hx3.trans hx4 (Nat.le_refl _)) (Nat.le_refl _)) (Nat.le_refl _)⟩) ?_;rintro ⟨a, b, ua, ub, I5⟩ ⟨hao, hbo, hg, hua, hub, hla, hlb, hx5⟩
  try dsimp only
  simp only at hao hbo hg hua hub hla hlb hx5
  refine cS (sR ?_);iterate 2 refine oV ?_
  refine oQ Tryz.call145 rfl (rCmp_any _ _ _ _ hua hub (by omega) (by omega)) ?_;refine oV ?_;refine nT ?_;refine cC rfl (fun h3 => ?_) (fun h3 => ?_)
  ·
   have f3 := h3;try simp only [bl] at f3
   rw [val_natW, val_natW] at f3
   have hab : a ≠ b := fun e => f3 (by rw [e]; exact cmpZ_self _)
   refine cK (tC (cB ?_));refine c_cut (ι := Nat × Nat × Value × Value) [7, 8] (.cons rfl (.cons rfl .nil)) (fun t E0 => (5, t.2.2.1) :: (6, t.2.2.2) :: E0) (fun t => St w [] I5 []) (fun t => t.1 % 2 = 1 ∧ t.2.1 % 2 = 1 ∧ Nat.gcd t.1 t.2.1 = Nat.gcd x y ∧ Ws I5 t.2.2.1 (natW t.1) ∧ Ws I5 t.2.2.2 (natW t.2.1) ∧ (natW t.1).length ≤ 3000 ∧ (natW t.2.1).length ≤ 3000 ∧ t.2.1 < t.1 ∧ t.1 + t.2.1 = a + b) ?_ ?_
   ·
    refine sR ?_;iterate 2 refine oV ?_
    refine oQ Tryz.call145 rfl (rCmp_any _ _ _ _ hua hub (by omega) (by omega)) ?_;refine oV ?_;refine nT ?_;refine cC rfl (fun h4 => ?_) (fun h4 => ?_)
    ·
     have f4 := h4;try simp only [bl] at f4
     rw [val_natW, val_natW] at f4
     have hlt : a < b := by unfold cmpZ at f4; split at f4 <;> (try split at f4) <;> omega
     refine sR ?_;iterate 2 refine oV ?_
     refine nS ?_;iterate 2 refine oV ?_
     refine nR ?_;iterate 2 refine oV ?_
     refine oN ?_
     first | exact meet (b, a, ub, ua) (sC rfl (sC rfl (sC rfl (sC rfl sN)))) (fun _ h => h) ⟨hbo, hao, by rw [Nat.gcd_comm]; exact hg, hub, hua, hlb, hla, hlt, by show b + a = a + b; omega⟩ | exact meet (a, b, ua, ub) (sC rfl (sC rfl (sC rfl (sC rfl sN)))) (fun _ h => h) ⟨hao, hbo, hg, hua, hub, hla, hlb, by show b < a; omega, rfl⟩
    have f4 := h4;try simp only [bl] at f4
    rw [val_natW, val_natW] at f4
    have hlt : ¬ a < b := fun h => by rw [cmpZ_lt (by omega)] at f4; omega
    refine cK ?_
    first | exact meet (b, a, ub, ua) (sC rfl (sC rfl (sC rfl (sC rfl sN)))) (fun _ h => h) ⟨hbo, hao, by rw [Nat.gcd_comm]; exact hg, hub, hua, hlb, hla, hlt, by show b + a = a + b; omega⟩ | exact meet (a, b, ua, ub) (sC rfl (sC rfl (sC rfl (sC rfl sN)))) (fun _ h => h) ⟨hao, hbo, hg, hua, hub, hla, hlb, by show b < a; omega, rfl⟩
   rintro ⟨c, d, uc, ud⟩ ⟨hco, hdo, hg2, huc, hud, hlc, hld, hdc, hsum⟩
   try dsimp only
   refine cS ?_
   simp only at hco hdo hg2 huc hud hlc hld hdc hsum
   refine cR ?_;iterate 2 refine oV ?_
   refine oI Tryz.call146 rfl (rSub_any _ _ _ _ huc hud (by omega) (by omega) (by rw [val_natW, val_natW]; omega)) ?_;rintro _ I6 hx6 ⟨u6, rfl, hs6⟩;iterate 4 refine oV ?_
   refine nT ?_
   rw [val_natW, val_natW] at hs6
   have hl6 : (natW (c - d)).length ≤ 3000 := Nat.le_trans (natW_le_len (Nat.sub_le _ _)) hlc
   refine cR ?_;refine oV ?_;refine oI Tryz.call144 rfl (rOdd_any _ _ hs6 (by omega) (by omega)) ?_;rintro _ I7 hx7 ⟨u7, z, p, rfl, hs7, ho7⟩;iterate 4 refine oV ?_
   refine oN (blk_n ?_);exact again (z, d, u7, ud, I7) (sC rfl (sC rfl (sC rfl (sC rfl sN)))) (fun _ h => h) (by show z + d < a + b; have := ho7.le; omega) ⟨ho7.odd, hdo, by show Nat.gcd z d = _; rw [gcd_less hdo (by omega) ho7.eq]; exact hg2, hs7, hud.le (hx6.le.trans hx7.le), Nat.le_trans (natW_le_len ho7.le) hl6, hld, hx5.trans (hx6.trans hx7 (Nat.le_refl _)) (Nat.le_refl _)⟩
  have f3 := h3;try simp only [bl] at f3
  rw [val_natW, val_natW] at f3
  have hab : a = b := by have := cmpZ_zero f3; omega
  refine c_exit (then_x (then_x (blk_eq rfl (tC (sR ?_)))));iterate 3 refine oV ?_
  refine o_min2 trivial rfl rfl rfl ?_
  rw [show min (n : Int) (k : Int) = ((min n k : Nat) : Int) by omega]
  refine oI Tryz.call147 rfl (rShift_any _ _ (min n k) hua (by omega) (by omega)) ?_;rintro u8 I8 hx8 hs8;refine oV ?_;refine nE ?_;refine ret1 rfl rfl ?_;refine leaf (hx5.trans hx8 (Nat.le_refl _)) (List.nil_sublist _) ?_
  rw [val_natW] at hs8
  rw [ho3.eq, ho4.eq, gcd_twos ho3.odd ho4.odd, ← hg, ← hab, Nat.gcd_self]
  exact hs8
theorem rLowest_any (va vb : Value) (A B : List Nat) {I : Hp} (ha : Ws I va A) (hb : Ws I vb B) (hs : A.length ≤ 3000) (hs2 : B.length ≤ 3000) : Fun Tryz.prog 93 [va, vb] I [] (fun v I' _ => ∃ u1 u2, v = .tuple #[u1, u2, .bool (decide (val B ≠ 0))] ∧ (val B ≠ 0 → Ws I' u1 (natW (val A / Nat.gcd (val A) (val B))) ∧ Ws I' u2 (natW (val B / Nat.gcd (val A) (val B))))) := by
  have hbl : (natW (val B)).length ≤ 3000 := Nat.le_trans (natW_len_list hb.wds) hs2
  intro w hw
  refine enter2 _ Tryz.func93 rfl Tryz.ntmps93 rfl ?_ hw;refine sR ?_;iterate 3 refine oV ?_
  refine nS ?_;refine oV ?_;refine oI Tryz.call116 rfl (rTrim_any _ _ hb (by omega)) ?_;rintro u1 I1 hx1 hs1;refine oV ?_;refine nU ?_;refine oV ?_;refine o_lenW trivial rfl Tryz.underlying40 rfl (hs1) ?_;refine oV ?_;refine nT ?_;refine cC rfl (fun h1 => ?_) (fun h1 => ?_)
  ·
   have f1 := h1;try simp only [bl] at f1
   refine sR ?_;iterate 3 refine oV ?_
   refine nF ?_;refine ret3 rfl rfl rfl rfl ?_
   have h0 : val B = 0 := natW_len_zero.1 (by omega)
   refine leaf hx1 (List.nil_sublist _) ⟨.slice none 0 0, .slice none 0 0, ?_, fun h => absurd h0 h⟩; rw [decide_eq_false (not_not_intro h0)]
  have f1 := h1;try simp only [bl] at f1
  have h0 : 0 < val B := Nat.pos_of_ne_zero fun e => f1 (by rw [e, natW_zero]; rfl)
  have hg : 0 < Nat.gcd (val A) (val B) := Nat.gcd_pos_of_pos_right _ h0
  have hgl : (natW (Nat.gcd (val A) (val B))).length ≤ 3000 := Nat.le_trans (natW_le_len (Nat.gcd_le_right _ h0)) hbl
  refine kS ?_;iterate 2 refine oV ?_
  refine oI Tryz.call123 rfl (rGcd_any _ _ _ _ (ha.le hx1.le) hs1 hs (by omega)) ?_;rintro u2 I2 hx2 hs2';refine oV ?_;refine oN (tC (cS ?_))
  rw [val_natW] at hs2'
  refine cR ?_;iterate 2 refine oV ?_
  refine oI Tryz.call124 rfl (rDiv_any _ _ _ _ (ha.le (hx1.le.trans hx2.le)) hs2' (by omega) (by omega) (by rw [val_natW]; exact hg)) ?_;rintro _ I3 hx3 ⟨u3, u4, rfl, hq3, hr3⟩;iterate 7 refine oV ?_
  refine nS ?_;iterate 2 refine oV ?_
  refine oI Tryz.call124 rfl (rDiv_any _ _ _ _ (hs1.le (hx2.le.trans hx3.le)) (hs2'.le hx3.le) (by omega) (by omega) (by rw [val_natW]; exact hg)) ?_;rintro _ I4 hx4 ⟨u5, u6, rfl, hq5, hr5⟩;iterate 5 refine oV ?_
  refine nS ?_;iterate 5 refine oV ?_
  refine nE ?_;refine ret3 rfl rfl rfl rfl ?_
  rw [val_natW] at hq3
  rw [val_natW, val_natW] at hq5
  refine leaf (hx1.trans (hx2.trans (hx3.trans hx4 (Nat.le_refl _)) (Nat.le_refl _)) (Nat.le_refl _)) (List.nil_sublist _) ⟨u3, u5, ?_, fun _ => ⟨hq3.le hx4.le, hq5⟩⟩; rw [decide_eq_true (by omega)]; rfl
theorem strOf_app (a b : List Int) : strOf a ++ strOf b = strOf (a ++ b) := by
  unfold strOf; rw [List.map_append]; apply ByteArray.ext; simp
theorem decS_nil : decS 0 = ⟨#[48]⟩ := by
  unfold decS decL; rw [digs]; rfl
theorem rPrint_any (va : Value) (A : List Nat) {I : Hp} (ha : Ws I va A) (hs : A.length ≤ 35184372088400) : Fun Tryz.prog 82 [va] I [] (fun v _ _ => v = .string (decS (val A))) := by
  have hdl := digs_words ha.wds hs
  have hal : (natW (val A)).length ≤ 35184372088400 := Nat.le_trans (natW_len_list ha.wds) hs
  intro w hw
  refine enter1 _ Tryz.func82 rfl Tryz.ntmps82 rfl ?_ hw;refine sR ?_;refine oV ?_;refine nS ?_;refine oV ?_;refine oI Tryz.call116 rfl (rTrim_any _ _ ha (by omega)) ?_;rintro u1 I1 hx1 hs1;refine oV ?_;refine nU ?_;refine oV ?_;refine o_lenW trivial rfl Tryz.underlying40 rfl (hs1) ?_;refine oV ?_;refine nT ?_;refine cC rfl (fun h1 => ?_) (fun h1 => ?_)
  ·
   have f1 := h1;try simp only [bl] at f1
   refine sR ?_;refine oV ?_;refine nF ?_;refine ret1 rfl rfl ?_
   have h0 : val A = 0 := natW_len_zero.1 (by omega)
   refine leaf hx1 (List.nil_sublist _) (congrArg Value.string ?_); rw [h0, decS_nil]
  have f1 := h1;try simp only [bl] at f1
  have h0 : 0 < val A := Nat.pos_of_ne_zero fun e => f1 (by rw [e, natW_zero]; rfl)
  refine kS ?_;refine oV ?_;refine oN (tC (cS (cB ?_)));refine c_loop (ι := Nat × List Nat × Value × Hp) [] .nil (fun x => x.1) (fun x E0 => (3, x.2.2.1) :: (4, .string (strOf (x.2.1.reverse.map Int.ofNat))) :: E0) (fun x => St w [] x.2.2.2 []) (fun x => Ws x.2.2.2 x.2.2.1 (natW x.1) ∧ (natW x.1).length ≤ 35184372088400 ∧ x.2.1 ++ digRest x.1 x.2.1 = digs (val A) ∧ (x.1 = 0 → x.2.1 ≠ []) ∧ Ext w.heap.size I x.2.2.2) ((val A, [], u1, I1)) (sC rfl (sC rfl sN)) (fun _ h => h) (⟨hs1, hal, by simp [digRest], fun h => absurd h (by show val A ≠ 0; omega), hx1⟩) ?_;rintro ⟨m, L, u, I2⟩ ⟨hu, hl, hd, hne, hx2⟩
  try dsimp only
  simp only at hu hl hd hne hx2; have hol : L.length ≤ (digs (val A)).length := by rw [← hd, List.length_append]; omega
  refine cS (sR ?_);refine oV ?_;refine o_lenW trivial rfl Tryz.underlying40 rfl (hu) ?_;refine oV ?_;refine nT ?_;refine cC rfl (fun h2 => ?_) (fun h2 => ?_)
  ·
   have f2 := h2;try simp only [bl] at f2
   have hm0 : 0 < m := Nat.pos_of_ne_zero fun e => by rw [e, natW_zero] at f2; simp at f2
   rw [digs_step L (.inl hm0)] at hd
   have hsz : (strOf (L.reverse.map Int.ofNat)).size = L.length := by rw [strOf_size]; simp
   refine cK (tC (cB (sR ?_)));refine oV ?_;refine oI Tryz.call117 rfl (rSmall_any _ _ 10 hu hl (by decide) (by decide)) ?_;rintro _ I3 hx3 ⟨u3, rfl, hs3⟩;iterate 7 refine oV ?_
   refine nS ?_;refine oV ?_
   first | refine o_arA trivial rfl rfl rfl (by rw [IntWalk.u32_in _ (by omega)]) ?_ | refine oV ?_
   refine o_convIn trivial rfl Tryz.underlying101 Tryz.underlying5 rfl (by rw [IntWalk.u8_in _ (by omega)]) ?_;refine oB Tryz.underlying150 Tryz.sizeOf5 Tryz.zeroValue5 fun b25 => ?_;refine o_bytesStr (ns := [(48 : Int) + ((val (natW m) % 10 : Nat) : Int)]) trivial rfl Tryz.underlying150 Tryz.underlying5 Tryz.underlying9 rfl (by repeat constructor) rfl ?_;refine oV ?_;refine o_cat trivial rfl rfl rfl (by rw [strOf_size, hsz]; simp only [List.length_cons, List.length_nil]; omega) ?_;refine oV ?_;refine nR ?_;iterate 2 refine oV ?_
   refine oN (blk_n ?_)
   rw [val_natW] at hs3
   have e1 : strOf [(48 : Int) + ((val (natW m) % 10 : Nat) : Int)] ++ strOf (L.reverse.map Int.ofNat) = strOf ((L ++ [48 + m % 10]).reverse.map Int.ofNat) := by
     rw [strOf_app, val_natW, List.reverse_append]; rfl
   rw [e1]
   exact again (m / 10, L ++ [48 + m % 10], u3, I3) (sC rfl (sC rfl sN)) (fun _ h => h.drop (List.nil_sublist _)) (by show m / 10 < m; omega) ⟨hs3, Nat.le_trans (natW_le_len (Nat.div_le_self _ _)) hl, by show (L ++ [48 + m % 10]) ++ digRest (m / 10) (L ++ [48 + m % 10]) = _; rw [← hd]; simp, fun _ => by simp, hx2.trans hx3 (Nat.le_refl _)⟩
  have f2 := h2;try simp only [bl] at f2
  have hm0 : m = 0 := natW_len_zero.1 (by omega)
  refine c_exit (then_x (then_x (blk_eq rfl (tC (sR ?_)))));iterate 2 refine oV ?_
  refine nE ?_;refine ret1 rfl rfl ?_;refine leaf hx2 (List.nil_sublist _) (congrArg Value.string ?_)
  unfold digRest at hd
  rw [if_pos ⟨hm0, hne hm0⟩, List.append_nil] at hd
  unfold decS decL
  rw [← hd]
theorem natW_one : natW 1 = [1] := by rw [natW_pos (by decide), show 1 / 4294967296 = 0 from rfl, natW_zero]
theorem rlow_any (neg : Bool) (va vb : Value) (A B : List Nat) {I : Hp} (ha : Ws I va A) (hb : Ws I vb B) (hs : A.length ≤ 3000) (hs2 : B.length ≤ 3000) : Fun Tryz.prog 61 [.agg #[.bool neg, va], vb] I [] (fun v I' _ => RatV I' v (lowQ neg (val A) (val B))) := by
  intro w hw
  refine enter2 _ Tryz.func61 rfl Tryz.ntmps61 rfl ?_ hw;refine sR ?_;refine o_box trivial rfl rfl rfl (fun b2 => ?_);refine o_alloc trivial rfl Tryz.zeroValue42 rfl (fun b4 => ?_);refine nS ?_;refine oF 1 Tryz.underlying99 Tryz.sizeOf40 ?_;refine oL Tryz.isAgg40 ?_;refine oV ?_;refine oI Tryz.call93 rfl (rLowest_any _ _ _ _ ha hb hs hs2) ?_;rintro _ I1 hx1 ⟨u1, u2, rfl, hs1⟩;iterate 7 refine oV ?_
  refine nU ?_;iterate 2 refine oV ?_
  refine' o_or trivial trivial rfl rfl rfl rfl rfl rfl rfl rfl (fun hb18 => ?_) ?_;rotate_left
  ·
   have fb18 := hb18
   try simp only [bl] at fb18
   have hB : val B ≠ 0 := by simpa using hb18
   obtain ⟨hu1, hu2⟩ := hs1 hB
   refine gV hb18 ?_;refine o_lenW (wS rfl rfl hb18) rfl Tryz.underlying40 rfl (hu1) ?_;refine gV hb18 ?_;refine oN ?_;exact joins rfl
  refine nT ?_;refine cC rfl (fun h1 => ?_) (fun h1 => ?_)
  ·
   have f1 := h1;try simp only [bl] at f1
   have h0 : val B = 0 ∨ val A = 0 := by
     rcases f1 with f1 | f1
     · exact .inl (Decidable.not_not.1 f1)
     · by_cases hB : val B = 0
       · exact .inl hB
       · exact .inr (div_gcd_zero (natW_len_zero.1 (by omega)) hB)
   refine sR ?_;refine oB Tryz.underlying40 Tryz.sizeOf101 Tryz.zeroValue101 fun b23 => ?_;refine l_sealW [1] .here (Wds_cons (by decide) Wds_nil) (by unfold maxLen; simp) (fun I2 hx2 hs2' => ?_);refine o_buildS trivial rfl (bld42) rfl (.cons rfl (by first | exact (Ws.cells1 (by assumption)).1 | exact (Slc.cells1 (by assumption)).1 | rfl) (by rfl) (by repeat constructor) .nil) ?_;refine oS Tryz.sizeOf42 ?_;refine nF ?_;refine retR rfl (.agg Tryz.isAgg42 Tryz.sizeOf42 rfl (by repeat constructor) rfl .nil) ?_;refine leaf (hx1.trans hx2 (Nat.le_refl _)) (List.nil_sublist _) ?_
   rw [lowQ_zero h0]; exact RatV.zero (by rw [natW_one]; exact hs2')
  have f1 := h1;try simp only [bl] at f1
  have hB : val B ≠ 0 := fun e => f1.1 e
  obtain ⟨hu1, hu2⟩ := hs1 hB
  have hA : val A ≠ 0 := fun e => f1.2 (by rw [e, Nat.zero_div, natW_zero]; rfl)
  obtain ⟨e1, e2, e3⟩ := lowQ_parts (neg := neg) hA hB
  refine kS ?_;refine oF 0 Tryz.underlying99 Tryz.sizeOf4 ?_;refine oL Tryz.isAgg4 ?_;iterate 2 refine oV ?_
  refine o_buildS trivial rfl (bld42) rfl (.cons rfl rfl rfl (by repeat constructor) (.cons rfl (by first | exact (Ws.cells1 (by assumption)).1 | exact (Slc.cells1 (by assumption)).1 | rfl) (by rfl) (by repeat constructor) (.cons rfl (by first | exact (Ws.cells1 (by assumption)).1 | exact (Slc.cells1 (by assumption)).1 | rfl) (by rfl) (by repeat constructor) .nil))) ?_;refine oS Tryz.sizeOf42 ?_;refine nE ?_;refine retR rfl (.agg Tryz.isAgg42 Tryz.sizeOf42 rfl (by repeat constructor) rfl .nil) ?_;refine leaf hx1 (List.nil_sublist _) ⟨u1, u2, ?_, ?_, ?_⟩
  · rw [e3]; rfl
  · rw [e1]; exact hu1
  · rw [e2]; exact hu2
theorem rFix_any (neg : Bool) (va vb : Value) (A B : List Nat) {I : Hp} (ha : Ws I va A) (hb : Ws I vb B) (hs : A.length ≤ 3000) (hs2 : B.length ≤ 3000) : Fun Tryz.prog 115 [.agg #[.bool neg, va, vb]] I [] (fun v I' _ => RatV I' v (lowQ neg (val A) (val B))) := by
  intro w hw
  refine enter1 _ Tryz.func115 rfl Tryz.ntmps115 rfl ?_ hw;refine sR ?_;refine o_box trivial rfl rfl rfl (fun b1 => ?_);refine o_alloc trivial rfl Tryz.zeroValue42 rfl (fun b2 => ?_);refine nS ?_;refine oF 0 Tryz.underlying42 Tryz.sizeOf4 ?_;refine oL Tryz.isAgg4 ?_;refine oF 1 Tryz.underlying42 Tryz.sizeOf40 ?_;refine oL Tryz.isAgg40 ?_;refine o_buildS trivial rfl (bld99) rfl (.cons rfl rfl rfl (by repeat constructor) (.cons rfl (by first | exact (Ws.cells1 (by assumption)).1 | exact (Slc.cells1 (by assumption)).1 | rfl) (by rfl) (by repeat constructor) .nil)) ?_;refine oF 2 Tryz.underlying42 Tryz.sizeOf40 ?_;refine oL Tryz.isAgg40 ?_;refine oI Tryz.call61 rfl (rlow_any neg _ _ _ _ ha hb hs hs2) ?_;rintro _ I1 hx1 ⟨u1, u2, rfl, h1, h2⟩;refine oS Tryz.sizeOf42 ?_;refine nE ?_;refine retR rfl (.agg Tryz.isAgg42 Tryz.sizeOf42 rfl (by repeat constructor) rfl .nil) ?_;exact leaf hx1 (List.nil_sublist _) ⟨u1, u2, rfl, h1, h2⟩
theorem rEqual_any (s1 s2 : Bool) (va vb vc vd : Value) (A B C D : List Nat) {I : Hp} (ha : Ws I va A) (hb : Ws I vb B) (hc : Ws I vc C) (hd : Ws I vd D) : Fun Tryz.prog 80 [.agg #[.bool s1, va, vb], .agg #[.bool s2, vc, vd]] I [] (fun v _ _ => v = .bool (decide (s1 = s2) && decide (A = C) && decide (B = D))) := by
  intro w hw
  refine enter2 _ Tryz.func80 rfl Tryz.ntmps80 rfl ?_ hw;refine sR ?_;refine o_box trivial rfl rfl rfl (fun b2 => ?_);refine o_box trivial rfl rfl rfl (fun b3 => ?_);refine oV ?_;refine nS ?_;refine oF 0 Tryz.underlying42 Tryz.sizeOf4 ?_;refine oL Tryz.isAgg4 ?_;refine oF 0 Tryz.underlying42 Tryz.sizeOf4 ?_;refine oL Tryz.isAgg4 ?_;refine o_eqlB trivial rfl rfl rfl Tryz.underlying4 ?_;refine' o_and trivial trivial rfl rfl rfl rfl rfl rfl rfl rfl (fun hb10 => ?_) ?_;rotate_left
  ·
   have fb10 := hb10
   try simp only [bl] at fb10
   refine gF hb10 1 Tryz.underlying42 Tryz.sizeOf40 ?_;refine gL hb10 Tryz.isAgg40 ?_;refine gF hb10 1 Tryz.underlying42 Tryz.sizeOf40 ?_;refine gL hb10 Tryz.isAgg40 ?_;refine o_callQ (wS rfl rfl hb10) rfl Tryz.call114 rfl (rWords_any _ _ _ _ ha hc) ?_;refine oN ?_;exact joins rfl
  refine' o_and trivial trivial rfl rfl rfl rfl rfl rfl rfl rfl (fun hb17 => ?_) ?_;rotate_left
  ·
   have fb17 := hb17
   try simp only [bl] at fb17
   refine gF hb17 2 Tryz.underlying42 Tryz.sizeOf40 ?_;refine gL hb17 Tryz.isAgg40 ?_;refine gF hb17 2 Tryz.underlying42 Tryz.sizeOf40 ?_;refine gL hb17 Tryz.isAgg40 ?_;refine o_callQ (wS rfl rfl hb17) rfl Tryz.call114 rfl (rWords_any _ _ _ _ hb hd) ?_;refine oN ?_;exact joins rfl
  refine oV ?_;refine nE ?_;refine ret1 rfl rfl ?_;refine leaf0 (congrArg Value.bool ?_)
  congr 2
theorem rRight_any (neg : Bool) (va vb : Value) (A B : List Nat) {I : Hp} (ha : Ws I va A) (hb : Ws I vb B) (hs : A.length ≤ 3000) (hs2 : B.length ≤ 3000) : Fun Tryz.prog 81 [.agg #[.bool neg, va, vb]] I [] (fun v _ _ => v = .bool (ratRight neg A B)) := by
  intro w hw
  refine enter1 _ Tryz.func81 rfl Tryz.ntmps81 rfl ?_ hw;refine sR ?_;refine o_box trivial rfl rfl rfl (fun b1 => ?_);refine oV ?_;refine oN (tC (cS ?_));refine h_beginB (m := 5) [.box b1 _] (by repeat constructor) (by kernel_rfl) rfl ?_;refine qT (i := 0) (qB 5 1) (Hp.Le.refl _) rfl rfl (oA Tryz.isAgg42 Tryz.sizeOf42 qF) ?_;refine qT (i := 2) (qB 5 5) (Hp.Le.refl _) rfl rfl (oA Tryz.isAgg42 Tryz.sizeOf42 qF) ?_;refine qO (i := 1) (qB 5 7) rfl ?_;refine oI Tryz.call115 rfl (rFix_any neg _ _ _ _ ha hb hs hs2) ?_;rintro _ I1 hx1 ⟨u1, u2, rfl, h1, h2⟩;refine qM (hx1.le) ?_;refine qO (i := 3) (qB 5 15) rfl ?_;refine oQ Tryz.call80 rfl (rEqual_any _ neg _ _ _ _ _ _ A B h1 h2 (ha.le hx1.le) (hb.le hx1.le)) ?_;refine qM (hx1.le) ?_;refine qT (i := 4) (qB 5 31) (hx1.le) rfl rfl (oV qF) ?_;refine h_end (by kernel_rfl) ?_;refine tC (cT ?_);refine ret1 rfl rfl ?_;refine leaf hx1 (List.nil_sublist _) (congrArg Value.bool ?_)
  unfold ratRight
  rw [Bool.eq_iff_iff]
  simp only [Bool.and_eq_true, decide_eq_true_eq]
  constructor <;> (rintro ⟨⟨k1, k2⟩, k3⟩; exact ⟨⟨k1.symm, k2.symm⟩, k3.symm⟩)
end Go.Proofs.YtmgpifkekofacaaGreatDoor
namespace Go.Tw
open Go
def laid : List (ByteArray × Ex) → Nat → List LetC × List NodeC
  | [], _ => ([], [])
  | (s, x) :: l, b => (⟨s, (b : Int) + x.n - 1⟩ :: (laid l (b + x.n)).1, x.nd b ++ (laid l (b + x.n)).2)
theorem laid_more (s : ByteArray) (x : Ex) : ∀ (l : List (ByteArray × Ex)) (b : Nat), laid (l ++ [(s, x)]) b = ((laid l b).1 ++ [⟨s, ((b + (laid l b).2.length : Nat) : Int) + x.n - 1⟩], (laid l b).2 ++ x.nd (b + (laid l b).2.length))
  | [], b => by simp [laid]
  | (t, y) :: l, b => by
    have ih := laid_more s x l (b + y.n)
    simp only [List.cons_append, laid, ih, List.length_append, y.nd_len, Nat.add_assoc, List.append_assoc]
theorem laid_lets (l : List (ByteArray × Ex)) : ∀ b, (laid l b).1.length = l.length := by
  induction l with
  | nil => intro b; rfl
  | cons a l ih => intro b; obtain ⟨s, x⟩ := a; simp [laid, ih]
def NamesOk (l : List ByteArray) : Prop := ∀ s ∈ l, nameZ s = true
def LetsOk (l : List (ByteArray × Ex)) : Prop := ∀ a ∈ l, nameZ a.1 = true ∧ a.2.ok
structure Shaped (p : ProgC) (l : List (ByteArray × Ex)) : Prop where
  lets : p.lets = (laid l 0).1
  all : p.all = (laid l 0).2
  ok : LetsOk l
theorem nameT_ok {x : Tok} (h : nameT x = true) : nameZ x.text = true := by
  unfold nameT at h
  simp at h
  exact h.2
theorem namesZ_ok : ∀ (r : List Tok) {l : List ByteArray} {r1 : List Tok}, namesZ r = .ok l r1 → NamesOk l ∧ r1 <:+ r
  | [], _, _, h => by cases h
  | [x], _, _, h => by cases h
  | x :: y :: r, l, r1, h => by
    rw [namesZ] at h
    split at h
    · rename_i hx
      split at h
      · cases hn : namesZ r with
        | bad r2 => rw [hn] at h; cases h
        | ok m r2 =>
          rw [hn] at h
          cases h
          obtain ⟨h1, h2⟩ := namesZ_ok r hn
          refine ⟨fun s hs => ?_, h2.trans ⟨[_, _], rfl⟩⟩
          rcases List.mem_cons.1 hs with rfl | hs
          · exact nameT_ok hx
          · exact h1 s hs
      · split at h
        · cases h
          refine ⟨fun s hs => ?_, ⟨[_, _], rfl⟩⟩
          rw [List.mem_singleton.1 hs]
          exact nameT_ok hx
        · cases h
    · cases h
theorem Lt1.ex {all a1 : List NodeC} {r r1 : List Tok} {s : ByteArray} (h : Lt1 all r (.ok s a1 r1)) (hr : ToksOk r) : nameZ s = true ∧ r1 <:+ r ∧ ∃ x : Ex, x.ok ∧ a1 = all ++ x.nd all.length := by
  cases h with
  | ok h1 h2 h3 h4 =>
    have hs := h3.suf
    refine ⟨nameT_ok h1, ((List.suffix_cons _ _).trans hs).trans ⟨[_, _], rfl⟩, ?_⟩;exact h3.ex (hr.suf ⟨[_, _], rfl⟩) _ _ rfl
theorem Lts.ex {ls : List LetC} {all : List NodeC} {r : List Tok} {o : LSO} (h : Lts ls all r o) : ToksOk r → ∀ l : List (ByteArray × Ex), LetsOk l → ls = (laid l 0).1 → all = (laid l 0).2 → ∀ ls1 a1 r1, o = .ok ls1 a1 r1 → r1 <:+ r ∧ ∃ l', LetsOk l' ∧ ls1 = (laid l' 0).1 ∧ a1 = (laid l' 0).2 := by
  induction h with
  | fin _ => intro hr l hl h1 h2 _ _ _ e; cases e; exact ⟨List.suffix_refl _, l, hl, h1, h2⟩
  | bad _ _ => intro hr l hl h1 h2 _ _ _ e; cases e
  | more hx h3 h4 ih =>
    intro hr l hl h1 h2 ls1 a2 r2 e
    have hr1 := hr.suf (List.suffix_cons _ _)
    obtain ⟨k1, k2, x, hx2, e2⟩ := h3.ex hr1
    subst h1 h2
    obtain ⟨q1, q2⟩ := ih (hr1.suf k2) (l ++ [(_, x)]) (fun a ha => by
      rcases List.mem_append.1 ha with ha | ha
      · exact hl a ha
      · rw [List.mem_singleton.1 ha]; exact ⟨k1, hx2⟩) (by rw [laid_more, e2, lastI_nd]; simp) (by rw [laid_more, e2]; simp) _ _ _ e
    exact ⟨q1.trans (k2.trans (List.suffix_cons _ _)), q2⟩
theorem Prg.ex {r : List Tok} {p : ProgC} (h : Prg r (.ok p)) (hr : ToksOk r) : ∃ l, Shaped p l ∧ NamesOk p.ins ∧ NamesOk p.outs ∧ 1 ≤ p.ins.length ∧ 1 ≤ p.outs.length := by
  cases h with
  | ok h1 h2 h3 h4 h5 =>
    have hr1 := hr.suf (List.suffix_cons _ _)
    obtain ⟨k1, k2⟩ := namesZ_ok _ h2
    obtain ⟨q1, l, q2, q3, q4⟩ := h3.ex (hr1.suf k2) [] (fun a ha => by cases ha) rfl rfl _ _ _ rfl
    obtain ⟨k3, k4⟩ := namesZ_ok _ h5
    have f1 := namesZ_len _ |> fun h => (by rw [h2] at h; exact h : NOut.fits _ (.ok _ _))
    have f2 := namesZ_len _ |> fun h => (by rw [h5] at h; exact h : NOut.fits _ (.ok _ _))
    exact ⟨l, ⟨q3, q4, q2⟩, k1, k3, f1.2, f2.2⟩
def Ex.hs : Ex → List Nat
  | .ref _ => [1]
  | .num _ => [1]
  | .neg x => x.hs ++ [x.h + 1]
  | .pow x _ => x.hs ++ [x.h + 1]
  | .bin _ x y => x.hs ++ y.hs ++ [max x.h y.h + 1]
theorem Ex.hs_len (x : Ex) : x.hs.length = x.n := by
  induction x with
  | ref t => rfl
  | num q => rfl
  | neg x ih => simp [Ex.hs, Ex.n, ih]
  | pow x e ih => simp [Ex.hs, Ex.n, ih]
  | bin k x y ih1 ih2 => simp [Ex.hs, Ex.n, ih1, ih2, Nat.add_assoc]
theorem Ex.hs_last (x : Ex) : x.hs[x.n - 1]? = some x.h := by
  cases x with
  | ref t => rfl
  | num q => rfl
  | neg x => simp [Ex.hs, Ex.n, Ex.h, List.getElem?_append, x.hs_len]
  | pow x e => simp [Ex.hs, Ex.n, Ex.h, List.getElem?_append, x.hs_len]
  | bin k x y => simp [Ex.hs, Ex.n, Ex.h, List.getElem?_append, x.hs_len, y.hs_len]
def hsAll (l : List (ByteArray × Ex)) : List Nat := (l.map fun a => a.2.hs).flatten
def tallZ (l : List NodeC) : Nat → Int → Nat
  | 0, _ => 0
  | f + 1, i => match l[i.toNat]? with
    | none => 0
    | some n => if n.kind ≤ 1 then 1 else if n.kind ≤ 5 then 1 + max (tallZ l f n.a) (tallZ l f n.b) else 1 + tallZ l f n.a
def At (l : List NodeC) (b : Nat) (x : Ex) : Prop := ∀ j c, (x.nd b)[j]? = some c → l[b + j]? = some c
theorem At.left {l m : List NodeC} {b : Nat} (h : ∀ j c, (m)[j]? = some c → l[b + j]? = some c) {u v : List NodeC} (e : m = u ++ v) : ∀ j c, u[j]? = some c → l[b + j]? = some c := by
  intro j c hj
  refine h j c ?_
  rw [e, List.getElem?_append_left]
  · exact hj
  · obtain ⟨h1, _⟩ := List.getElem?_eq_some_iff.1 hj; exact h1
theorem At.right {l m : List NodeC} {b : Nat} (h : ∀ j c, (m)[j]? = some c → l[b + j]? = some c) {u v : List NodeC} (e : m = u ++ v) : ∀ j c, v[j]? = some c → l[b + u.length + j]? = some c := by
  intro j c hj
  rw [Nat.add_assoc]
  refine h _ c ?_
  rw [e, List.getElem?_append_right (by omega), Nat.add_sub_cancel_left]
  exact hj
theorem tall_last : ∀ (x : Ex) {l : List NodeC} {b f : Nat}, x.ok → At l b x → b + x.n ≤ f → tallZ l f ((b : Int) + x.n - 1) = x.h := by
  intro x
  induction x with
  | ref t =>
    intro l b f _ h hf
    obtain ⟨f, rfl⟩ : ∃ g, f = g + 1 := ⟨f - 1, by simp [Ex.n] at hf; omega⟩
    have := h 0 _ rfl
    have e : ((b : Int) + (Ex.ref t).n - 1).toNat = b + 0 := by simp [Ex.n]
    unfold tallZ
    rw [e, this]; rfl
  | num q =>
    intro l b f _ h hf
    obtain ⟨f, rfl⟩ : ∃ g, f = g + 1 := ⟨f - 1, by simp [Ex.n] at hf; omega⟩
    have := h 0 _ rfl
    have e : ((b : Int) + (Ex.num q).n - 1).toNat = b + 0 := by simp [Ex.n]
    unfold tallZ
    rw [e, this]; rfl
  | neg x ih =>
    intro l b f hok h hf
    obtain ⟨f, rfl⟩ : ∃ g, f = g + 1 := ⟨f - 1, by simp [Ex.n] at hf; omega⟩
    have hl := At.left h (u := x.nd b) rfl
    have hr := At.right h (u := x.nd b) rfl 0 _ rfl
    rw [x.nd_len] at hr
    have e : ((b : Int) + (Ex.neg x).n - 1).toNat = b + x.n + 0 := by simp [Ex.n]; omega
    unfold tallZ
    rw [e, hr]
    show 1 + tallZ l f ((b : Int) + x.n - 1) = x.h + 1
    rw [ih hok hl (by simp [Ex.n] at hf; omega)]
    omega
  | pow x e0 ih =>
    intro l b f hok h hf
    obtain ⟨f, rfl⟩ : ∃ g, f = g + 1 := ⟨f - 1, by simp [Ex.n] at hf; omega⟩
    have hl := At.left h (u := x.nd b) rfl
    have hr := At.right h (u := x.nd b) rfl 0 _ rfl
    rw [x.nd_len] at hr
    have e : ((b : Int) + (Ex.pow x e0).n - 1).toNat = b + x.n + 0 := by simp [Ex.n]; omega
    unfold tallZ
    rw [e, hr]
    show 1 + tallZ l f ((b : Int) + x.n - 1) = x.h + 1
    rw [ih hok.1 hl (by simp [Ex.n] at hf; omega)]
    omega
  | bin k x y ih1 ih2 =>
    intro l b f hok h hf
    obtain ⟨f, rfl⟩ : ∃ g, f = g + 1 := ⟨f - 1, by simp [Ex.n] at hf; omega⟩
    have hxy := At.left h (u := x.nd b ++ y.nd (b + x.n)) rfl
    have hl := At.left hxy (u := x.nd b) rfl
    have hm := At.right hxy (u := x.nd b) rfl
    rw [x.nd_len] at hm
    have hr := At.right h (u := x.nd b ++ y.nd (b + x.n)) rfl 0 _ rfl
    rw [List.length_append, x.nd_len, y.nd_len] at hr
    have e : ((b : Int) + (Ex.bin k x y).n - 1).toNat = b + (x.n + y.n) + 0 := by simp [Ex.n]; omega
    unfold tallZ
    rw [e, hr]
    obtain ⟨k1, k2, o1, o2⟩ := hok
    show (if k ≤ 1 then 1 else if k ≤ 5 then 1 + max (tallZ l f ((b : Int) + x.n - 1)) (tallZ l f ((b : Int) + x.n + y.n - 1)) else 1 + tallZ l f ((b : Int) + x.n - 1)) = max x.h y.h + 1
    rw [if_neg (by omega), if_pos k2, ih1 o1 hl (by simp [Ex.n] at hf; omega)]
    have := ih2 (b := b + x.n) (f := f) o2 hm (by simp [Ex.n] at hf; omega)
    rw [show (((b + x.n : Nat) : Int) + y.n - 1) = (b : Int) + x.n + y.n - 1 by omega] at this
    rw [this]
    omega
theorem tall_all : ∀ (x : Ex) {l : List NodeC} {b f : Nat}, x.ok → At l b x → b + x.n ≤ f → ∀ j, j < x.n → some (tallZ l f ((b + j : Nat) : Int)) = x.hs[j]? := by
  intro x
  have last : ∀ (x : Ex) {l : List NodeC} {b f : Nat}, x.ok → At l b x → b + x.n ≤ f → some (tallZ l f ((b + (x.n - 1) : Nat) : Int)) = x.hs[x.n - 1]? := fun x l b f h1 h2 h3 => by
    have := x.n_pos
    rw [show ((b + (x.n - 1) : Nat) : Int) = (b : Int) + x.n - 1 by omega, tall_last x h1 h2 h3, x.hs_last]
  induction x with
  | ref t => intro l b f h1 h2 h3 j hj; simp [Ex.n] at hj; subst hj; exact last _ h1 h2 h3
  | num q => intro l b f h1 h2 h3 j hj; simp [Ex.n] at hj; subst hj; exact last _ h1 h2 h3
  | neg x ih =>
    intro l b f hok h hf j hj
    by_cases hl : j = x.n
    · subst hl; exact last _ hok h hf
    · simp only [Ex.n] at hj hf
      have hl' := At.left h (u := x.nd b) rfl
      rw [ih hok hl' (by omega) j (by omega)]
      simp only [Ex.hs]
      rw [List.getElem?_append_left (by rw [x.hs_len]; omega)]
  | pow x e0 ih =>
    intro l b f hok h hf j hj
    by_cases hl : j = x.n
    · subst hl; exact last _ hok h hf
    · simp only [Ex.n] at hj hf
      have hl' := At.left h (u := x.nd b) rfl
      rw [ih hok.1 hl' (by omega) j (by omega)]
      simp only [Ex.hs]
      rw [List.getElem?_append_left (by rw [x.hs_len]; omega)]
  | bin k x y ih1 ih2 =>
    intro l b f hok h hf j hj
    by_cases hl : j = x.n + y.n
    · subst hl; exact last _ hok h hf
    · simp only [Ex.n] at hj hf
      have hxy := At.left h (u := x.nd b ++ y.nd (b + x.n)) rfl
      have hl' := At.left hxy (u := x.nd b) rfl
      have hm := At.right hxy (u := x.nd b) rfl
      rw [x.nd_len] at hm
      simp only [Ex.hs]
      rw [List.getElem?_append_left (by rw [List.length_append, x.hs_len, y.hs_len]; omega)]
      by_cases hx : j < x.n
      · rw [ih1 hok.2.2.1 hl' (by omega) j hx, List.getElem?_append_left (by rw [x.hs_len]; omega)]
      · rw [List.getElem?_append_right (by rw [x.hs_len]; omega), x.hs_len]
        have := ih2 (b := b + x.n) (f := f) hok.2.2.2 hm (by omega) (j - x.n) (by omega)
        rw [← this, show b + x.n + (j - x.n) = b + j by omega]
end Go.Tw
