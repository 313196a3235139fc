/-
  ScopeChecks, part 4: the texts Tree7, Tree8, Arr2, Right, Right2, Right3, Read4, Read5, Read6, Read7, Read8, Read9, Read10, Parse11, RefR, RefL, RefL2, RefL3, RefL4, RefL5, RefL6, Tree9, RefH as one.
-/
import Derived.Test.YtmgpifkekofacaaGreatDoorQScopeChecksC
set_option linter.unusedVariables false
set_option linter.unusedSimpArgs false
set_option linter.unnecessarySimpa false
set_option maxHeartbeats 1000000
namespace Go.Proofs.YtmgpifkekofacaaGreatDoor
open Go Go.Tw
def _root_.Go.Tw.NodeC.bare (c : NodeC) : Bool := c.name.toList.isEmpty && emptyZ c.neg c.n c.d
def partsZ (c : NodeC) : Option Nat :=
  if c.kind = 0 then (if nameZ c.name && emptyZ c.neg c.n c.d && decide (c.a = 0) && decide (c.b = 0) && decide (c.e = 0) then some 0 else none)
  else if c.kind = 1 then (if c.name.toList.isEmpty && (constOK c.neg c.n c.d && !c.neg) && decide (c.a = 0) && decide (c.b = 0) && decide (c.e = 0) then some 0 else none)
  else if 2 ≤ c.kind ∧ c.kind ≤ 5 then (if c.bare && decide (c.e = 0) then some 2 else none)
  else if c.kind = 6 then (if c.bare && decide (c.b = 0) && decide (c.e = 0) then some 1 else none)
  else if c.kind = 7 then (if c.bare && decide (c.b = 0) && decide (-20 ≤ c.e) && decide (c.e ≤ 20) then some 1 else none)
  else none
theorem nil_of_isEmpty {s : ByteArray} (h : s.toList.isEmpty = true) : s = ⟨#[]⟩ := by
  have h1 : s.toList = [] := List.isEmpty_iff.1 h
  rw [toList_data] at h1
  cases s
  congr
  exact Array.toList_inj.1 (by simpa using h1)
theorem emptyZ_iff {neg : Bool} {A B : List Nat} : emptyZ neg A B = true ↔ neg = false ∧ A = [] ∧ B = [] := by
  unfold emptyZ
  simp [and_assoc]
theorem _root_.Go.Tw.NodeC.bare_iff {c : NodeC} : c.bare = true ↔ c.name = ⟨#[]⟩ ∧ c.neg = false ∧ c.n = [] ∧ c.d = [] := by
  unfold NodeC.bare
  rw [Bool.and_eq_true, emptyZ_iff]
  constructor
  · rintro ⟨h1, h2⟩; exact ⟨nil_of_isEmpty h1, h2⟩
  · rintro ⟨h1, h2⟩; exact ⟨by rw [h1, ByteArray.toList_eq]; rfl, h2⟩
theorem parts_ref {t : ByteArray} (h : nameZ t = true) : partsZ (refN t) = some 0 := by unfold partsZ refN; simp [h, emptyZ]
theorem constOK_num {q : Rat} (h : (Ex.num q).ok) : constOK (decide (q.num < 0)) (natW q.num.natAbs) (natW q.den) = true := by
  unfold constOK ratRight
  rw [val_natW, val_natW, lowQ_self]
  simp [h.2.1, h.2.2]
theorem parts_num {q : Rat} (h : (Ex.num q).ok) : partsZ (numN q) = some 0 := by
  have hc := constOK_num h
  have hn : decide (q.num < 0) = false := decide_eq_false (Int.not_lt.2 h.1)
  rw [hn] at hc
  unfold partsZ numN
  rw [hn]
  simp [hc]
theorem parts_neg (a : Int) : partsZ (negN a) = some 1 := by unfold partsZ negN NodeC.bare; simp [emptyZ]
theorem parts_pow {a e : Int} (h : -20 ≤ e ∧ e ≤ 20) : partsZ (powN a e) = some 1 := by unfold partsZ powN NodeC.bare; simp [emptyZ, h.1, h.2]
theorem parts_bin {k a b : Int} (h : 2 ≤ k ∧ k ≤ 5) : partsZ (binN k a b) = some 2 := by
  unfold partsZ binN NodeC.bare
  simp [emptyZ, h.1, h.2, show ¬ k = 0 by omega, show ¬ k = 1 by omega]
theorem parts_zero {c : NodeC} (h : partsZ c = some 0) : ∃ x : Ex, x.ok ∧ x.n = 1 ∧ x.h = 1 ∧ (∀ b, x.nd b = [c]) ∧ x.hs = [1] := by
  unfold partsZ at h
  split at h
  · rename_i hk
    split at h
    · rename_i hc
      simp only [Bool.and_eq_true, decide_eq_true_eq, emptyZ_iff] at hc
      obtain ⟨⟨⟨⟨h1, h2, h3, h4⟩, h5⟩, h6⟩, h7⟩ := hc
      refine ⟨.ref c.name, h1, rfl, rfl, fun _ => ?_, rfl⟩
      cases c
      simp_all [Ex.nd, refN]
    · cases h
  · split at h
    · rename_i hk
      split at h
      · rename_i hc
        simp only [Bool.and_eq_true, decide_eq_true_eq, Bool.not_eq_true'] at hc
        obtain ⟨⟨⟨⟨h1, h2, h3⟩, h5⟩, h6⟩, h7⟩ := hc
        have h1 := nil_of_isEmpty h1
        unfold constOK ratRight at h2
        simp only [Bool.and_eq_true, decide_eq_true_eq] at h2
        obtain ⟨⟨⟨⟨g1, g2⟩, g3⟩, g4⟩, g5⟩ := h2
        generalize hq : lowQ c.neg (val c.n) (val c.d) = q at g1 g2 g3
        have hd : ¬ q.num < 0 := by rw [h3] at g1; simpa using g1.symm
        refine ⟨.num q, ⟨by omega, ?_, ?_⟩, rfl, rfl, fun _ => ?_, rfl⟩
        · rw [g2, val_natW] at g4; exact g4
        · rw [g3, val_natW] at g5; exact g5
        · cases c
          simp_all [Ex.nd, numN]
      · cases h
    · split at h
      · split at h <;> cases h
      · split at h
        · split at h <;> cases h
        · split at h
          · split at h <;> cases h
          · cases h
theorem parts_one {c : NodeC} (h : partsZ c = some 1) : c = negN c.a ∨ (c = powN c.a c.e ∧ -20 ≤ c.e ∧ c.e ≤ 20) := by
  unfold partsZ at h
  split at h
  · split at h <;> cases h
  · split at h
    · split at h <;> cases h
    · split at h
      · split at h <;> cases h
      · split at h
        · rename_i hk
          split at h
          · rename_i hc
            simp only [Bool.and_eq_true, decide_eq_true_eq, NodeC.bare_iff] at hc
            left
            cases c
            simp_all [negN]
          · cases h
        · split at h
          · rename_i hk
            split at h
            · rename_i hc
              simp only [Bool.and_eq_true, decide_eq_true_eq, NodeC.bare_iff] at hc
              right
              refine ⟨?_, hc.1.2, hc.2⟩
              cases c
              simp_all [powN]
            · cases h
          · cases h
theorem parts_two {c : NodeC} (h : partsZ c = some 2) : c = binN c.kind c.a c.b ∧ 2 ≤ c.kind ∧ c.kind ≤ 5 := by
  unfold partsZ at h
  split at h
  · split at h <;> cases h
  · split at h
    · split at h <;> cases h
    · split at h
      · rename_i hk
        split at h
        · rename_i hc
          simp only [Bool.and_eq_true, decide_eq_true_eq, NodeC.bare_iff] at hc
          refine ⟨?_, hk⟩
          cases c
          simp_all [binN]
        · cases h
      · split at h
        · split at h <;> cases h
        · split at h
          · split at h <;> cases h
          · cases h
theorem parts_le {c : NodeC} {k : Nat} (h : partsZ c = some k) : k ≤ 2 := by
  unfold partsZ at h
  repeat' split at h
  all_goals first | (cases h; decide) | cases h
def madeOk (c : NodeC) (fr : Int) : List Nat → Bool
  | [] => true
  | [x] => decide (c.a = x + fr)
  | [x, y] => decide (c.a = x + fr) && decide (c.b = y + fr)
  | _ => false
def hOf (out : List Nat) (made : List Nat) : Nat := (made.map fun x => out.getD x 0).foldl max 0
def stepH (fr : Int) (st : List Nat × List Nat) (c : NodeC) : Option (List Nat × List Nat) :=
  match partsZ c with
  | none => none
  | some k => if k ≤ st.2.length ∧ madeOk c fr (st.2.drop (st.2.length - k)) = true then some (st.1 ++ [hOf st.1 (st.2.drop (st.2.length - k)) + 1], st.2.take (st.2.length - k) ++ [st.1.length]) else none
def runH (fr : Int) : List NodeC → List Nat × List Nat → Option (List Nat × List Nat)
  | [], st => some st
  | c :: l, st => (stepH fr st c).bind (runH fr l)
theorem runH_app (fr : Int) : ∀ (l m : List NodeC) (st : List Nat × List Nat), runH fr (l ++ m) st = (runH fr l st).bind (runH fr m)
  | [], m, st => rfl
  | c :: l, m, st => by
    show (stepH fr st c).bind (runH fr (l ++ m)) = ((stepH fr st c).bind (runH fr l)).bind (runH fr m)
    cases stepH fr st c with
    | none => rfl
    | some s => exact runH_app fr l m s
theorem runH_one (fr : Int) (c : NodeC) (st : List Nat × List Nat) : runH fr [c] st = stepH fr st c := by
  show (stepH fr st c).bind _ = _
  cases stepH fr st c <;> rfl
theorem take_last1 {α : Type} (S : List α) (x : α) : (S ++ [x]).take ((S ++ [x]).length - 1) = S ∧ (S ++ [x]).drop ((S ++ [x]).length - 1) = [x] := by simp
theorem take_last2 {α : Type} (S : List α) (x y : α) : (S ++ [x] ++ [y]).take ((S ++ [x] ++ [y]).length - 2) = S ∧ (S ++ [x] ++ [y]).drop ((S ++ [x] ++ [y]).length - 2) = [x, y] := by simp
theorem getD_hs (out : List Nat) (x : Ex) (m : List Nat) : (out ++ x.hs ++ m).getD (out.length + x.n - 1) 0 = x.h := by
  have h1 := x.n_pos
  have := x.hs_last
  rw [List.getD_eq_getElem?_getD, List.append_assoc, List.getElem?_append_right (by omega), List.getElem?_append_left (by rw [x.hs_len]; omega), show out.length + x.n - 1 - out.length = x.n - 1 by omega, this]
  rfl
theorem run_ex (fr : Int) : ∀ (x : Ex) (out S : List Nat) (b : Nat), x.ok → (b : Int) = fr + out.length → runH fr (x.nd b) (out, S) = some (out ++ x.hs, S ++ [out.length + x.n - 1]) := by
  intro x
  induction x with
  | ref t =>
    intro out S b hok hb
    show runH fr [refN t] _ = _
    rw [runH_one]
    unfold stepH
    rw [parts_ref hok]
    dsimp only
    rw [if_pos ⟨by omega, by simp [madeOk]⟩]
    simp [hOf, Ex.hs, Ex.n]
  | num q =>
    intro out S b hok hb
    show runH fr [numN q] _ = _
    rw [runH_one]
    unfold stepH
    rw [parts_num hok]
    dsimp only
    rw [if_pos ⟨by omega, by simp [madeOk]⟩]
    simp [hOf, Ex.hs, Ex.n]
  | neg x ih =>
    intro out S b hok hb
    show runH fr (x.nd b ++ [negN _]) _ = _
    rw [runH_app, ih out S b hok hb]
    show runH fr [negN _] _ = _
    rw [runH_one]
    unfold stepH
    rw [parts_neg]
    dsimp only
    obtain ⟨e1, e2⟩ := take_last1 S (out.length + x.n - 1)
    have h1 := x.n_pos
    have hg := getD_hs out x []
    rw [List.append_nil] at hg
    rw [e1, e2, if_pos ⟨by simp, decide_eq_true (show (b : Int) + x.n - 1 = ((out.length + x.n - 1 : Nat) : Int) + fr by omega)⟩]
    simp only [hOf, List.map_cons, List.map_nil, List.foldl_cons, List.foldl_nil, hg, Ex.hs, Ex.n, List.length_append, x.hs_len, Nat.zero_max, List.append_assoc]
    rfl
  | pow x e ih =>
    intro out S b hok hb
    show runH fr (x.nd b ++ [powN _ e]) _ = _
    rw [runH_app, ih out S b hok.1 hb]
    show runH fr [powN _ e] _ = _
    rw [runH_one]
    unfold stepH
    rw [parts_pow hok.2]
    dsimp only
    obtain ⟨e1, e2⟩ := take_last1 S (out.length + x.n - 1)
    have h1 := x.n_pos
    have hg := getD_hs out x []
    rw [List.append_nil] at hg
    rw [e1, e2, if_pos ⟨by simp, decide_eq_true (show (b : Int) + x.n - 1 = ((out.length + x.n - 1 : Nat) : Int) + fr by omega)⟩]
    simp only [hOf, List.map_cons, List.map_nil, List.foldl_cons, List.foldl_nil, hg, Ex.hs, Ex.n, List.length_append, x.hs_len, Nat.zero_max, List.append_assoc]
    rfl
  | bin k x y ih1 ih2 =>
    intro out S b hok hb
    obtain ⟨k1, k2, o1, o2⟩ := hok
    have h1 := x.n_pos
    have h2 := y.n_pos
    show runH fr (x.nd b ++ y.nd (b + x.n) ++ [binN k _ _]) _ = _
    rw [runH_app, runH_app, ih1 out S b o1 hb]
    show (runH fr (y.nd (b + x.n)) (out ++ x.hs, S ++ [out.length + x.n - 1])).bind _ = _
    rw [ih2 (out ++ x.hs) (S ++ [out.length + x.n - 1]) (b + x.n) o2 (by rw [List.length_append, x.hs_len]; omega)]
    show runH fr [binN k _ _] _ = _
    rw [runH_one]
    unfold stepH
    rw [parts_bin ⟨k1, k2⟩]
    dsimp only
    obtain ⟨e1, e2⟩ := take_last2 S (out.length + x.n - 1) ((out ++ x.hs).length + y.n - 1)
    have hg1 := getD_hs out x y.hs
    have hg2 := getD_hs (out ++ x.hs) y []
    rw [List.append_nil] at hg2
    rw [e1, e2, if_pos ⟨by simp, by simp only [madeOk, Bool.and_eq_true]; exact ⟨decide_eq_true (show (b : Int) + x.n - 1 = ((out.length + x.n - 1 : Nat) : Int) + fr by omega), decide_eq_true (show (b : Int) + x.n + y.n - 1 = (((out ++ x.hs).length + y.n - 1 : Nat) : Int) + fr by rw [List.length_append, x.hs_len]; omega)⟩⟩]
    simp only [hOf, List.map_cons, List.map_nil, List.foldl_cons, List.foldl_nil, hg1, hg2, Nat.zero_max]
    simp only [Ex.hs, Ex.n, List.length_append, x.hs_len, y.hs_len, List.append_assoc]
    congr 4
def fnd : List Ex → Nat → List NodeC
  | [], _ => []
  | x :: l, b => x.nd b ++ fnd l (b + x.n)
def flen : List Ex → Nat
  | [] => 0
  | x :: l => x.n + flen l
def fpos : List Ex → Nat → List Nat
  | [], _ => []
  | x :: l, b => (b + x.n - 1) :: fpos l (b + x.n)
def fhs (l : List Ex) : List Nat := (l.map Ex.hs).flatten
theorem fhs_len : ∀ (l : List Ex), (fhs l).length = flen l
  | [] => rfl
  | x :: l => by
    have := fhs_len l
    simp only [fhs] at *
    simp [flen, x.hs_len, this]
theorem flen_app : ∀ (l m : List Ex), flen (l ++ m) = flen l + flen m
  | [], m => by simp [flen]
  | x :: l, m => by simp [flen, flen_app l m, Nat.add_assoc]
theorem fnd_app : ∀ (l m : List Ex) (b : Nat), fnd (l ++ m) b = fnd l b ++ fnd m (b + flen l)
  | [], m, b => by simp [fnd, flen]
  | x :: l, m, b => by simp [fnd, flen, fnd_app l m, Nat.add_assoc]
theorem fpos_app : ∀ (l m : List Ex) (b : Nat), fpos (l ++ m) b = fpos l b ++ fpos m (b + flen l)
  | [], m, b => by simp [fpos, flen]
  | x :: l, m, b => by simp [fpos, flen, fpos_app l m, Nat.add_assoc]
theorem fhs_app (l m : List Ex) : fhs (l ++ m) = fhs l ++ fhs m := by simp [fhs]
theorem fpos_len : ∀ (l : List Ex) (b : Nat), (fpos l b).length = l.length
  | [], _ => rfl
  | x :: l, b => by simp [fpos, fpos_len l]
theorem run_inv (b : Nat) (l : List NodeC) : ∀ st, runH (b : Int) l ([], []) = some st → ∃ fs : List Ex, (∀ x ∈ fs, x.ok) ∧ l = fnd fs b ∧ st.1 = fhs fs ∧ st.2 = fpos fs 0 := by
  refine rev_ind (motive := fun l => ∀ st, runH (b : Int) l ([], []) = some st → ∃ fs : List Ex, (∀ x ∈ fs, x.ok) ∧ l = fnd fs b ∧ st.1 = fhs fs ∧ st.2 = fpos fs 0) ?_ ?_ l
  · intro st h; cases h; exact ⟨[], fun x hx => (by cases hx), rfl, rfl, rfl⟩
  · intro l c ih st h
    rw [runH_app] at h
    cases hr : runH (b : Int) l ([], []) with
    | none => rw [hr] at h; cases h
    | some s1 =>
      rw [hr] at h
      change runH (b : Int) [c] s1 = some st at h
      rw [runH_one] at h
      obtain ⟨fs, hok, e1, e2, e3⟩ := ih _ hr
      unfold stepH at h
      cases hp : partsZ c with
      | none => rw [hp] at h; cases h
      | some k =>
        rw [hp] at h
        dsimp only at h
        split at h
        · rename_i hc
          cases h
          have hk := parts_le hp
          have hlen : s1.2.length = fs.length := by rw [e3, fpos_len]
          have hout : s1.1.length = flen fs := by rw [e2, fhs_len]
          rcases (by omega : k = 0 ∨ k = 1 ∨ k = 2) with rfl | rfl | rfl
          · obtain ⟨x, q1, q2, q3, q4, q5⟩ := parts_zero hp
            refine ⟨fs ++ [x], fun y hy => ?_, ?_, ?_, ?_⟩
            · rcases List.mem_append.1 hy with hy | hy
              · exact hok y hy
              · rw [List.mem_singleton.1 hy]; exact q1
            · rw [fnd_app, e1]; simp [fnd, q4]
            · dsimp only; rw [fhs_app, e2]; simp [hOf, fhs, q5]
            · dsimp only; rw [fpos_app, e3, hout]; simp [fpos, q2]
          · obtain ⟨fs, x, rfl⟩ : ∃ fs' x, fs = fs' ++ [x] := by
              rcases List.eq_nil_or_concat fs with rfl | ⟨a, b', rfl⟩
              · have := hc.1; rw [hlen] at this; simp at this
              · exact ⟨a, b', by simp⟩
            have h1 := x.n_pos
            have ep : fpos (fs ++ [x]) 0 = fpos fs 0 ++ [flen fs + x.n - 1] := by rw [fpos_app]; simp [fpos]
            rw [ep] at e3
            obtain ⟨t1, t2⟩ := take_last1 (fpos fs 0) (flen fs + x.n - 1)
            rw [e3] at hc ⊢
            rw [t1, t2]
            rw [t2] at hc
            have hm := hc.2
            simp only [madeOk, decide_eq_true_eq] at hm
            have hx : x.ok := hok x (by simp)
            have hf : ∀ y ∈ fs, y.ok := fun y hy => hok y (by simp [hy])
            have hg : s1.1.getD (flen fs + x.n - 1) 0 = x.h := by
              have := getD_hs (fhs fs) x []
              rw [fhs_len] at this
              rw [e2, fhs_app, ← this]; simp [fhs]
            have key : ∀ y : Ex, y.ok → y.n = x.n + 1 → y.hs = x.hs ++ [x.h + 1] → y.nd (b + flen fs) = x.nd (b + flen fs) ++ [c] → ∃ fs1 : List Ex, (∀ x ∈ fs1, x.ok) ∧ l ++ [c] = fnd fs1 b ∧ s1.1 ++ [hOf s1.1 [flen fs + x.n - 1] + 1] = fhs fs1 ∧ fpos fs 0 ++ [s1.1.length] = fpos fs1 0 := by
              intro y hy hn hh hnd
              refine ⟨fs ++ [y], fun z hz => ?_, ?_, ?_, ?_⟩
              · rcases List.mem_append.1 hz with hz | hz
                · exact hf z hz
                · rw [List.mem_singleton.1 hz]; exact hy
              · rw [fnd_app, e1, fnd_app]; simp [fnd, hnd]
              · rw [e2, fhs_app, fhs_app]; simp [fhs, hh, hOf]; rw [e2] at hg; simp [fhs] at hg; exact hg
              · rw [fpos_app, hout, flen_app]; simp [fpos, flen, hn]
            rcases parts_one hp with ec | ⟨ec, he⟩
            · refine key (.neg x) hx rfl rfl ?_
              rw [ec]
              simp only [Ex.nd]
              congr 3
              omega
            · refine key (.pow x c.e) ⟨hx, he⟩ rfl rfl ?_
              conv => rhs; rw [ec]
              simp only [Ex.nd]
              congr 3
              omega
          · obtain ⟨fs, x, y, rfl⟩ : ∃ fs' x y, fs = fs' ++ [x] ++ [y] := by
              rcases List.eq_nil_or_concat fs with rfl | ⟨a, b', rfl⟩
              · have := hc.1; rw [hlen] at this; simp at this
              · rcases List.eq_nil_or_concat a with rfl | ⟨a2, b2, rfl⟩
                · have := hc.1; rw [hlen] at this; simp at this
                · exact ⟨a2, b2, b', by simp⟩
            have h1 := x.n_pos
            have h2 := y.n_pos
            have ep : fpos (fs ++ [x] ++ [y]) 0 = fpos fs 0 ++ [flen fs + x.n - 1] ++ [flen fs + x.n + y.n - 1] := by rw [fpos_app, fpos_app, flen_app]; simp [fpos, flen]
            rw [ep] at e3
            obtain ⟨t1, t2⟩ := take_last2 (fpos fs 0) (flen fs + x.n - 1) (flen fs + x.n + y.n - 1)
            rw [e3] at hc ⊢
            rw [t1, t2]
            rw [t2] at hc
            have hm := hc.2
            simp only [madeOk, Bool.and_eq_true, decide_eq_true_eq] at hm
            have hx : x.ok := hok x (by simp)
            have hy : y.ok := hok y (by simp)
            have hf : ∀ y ∈ fs, y.ok := fun y hy => hok y (by simp [hy])
            have hg1 : s1.1.getD (flen fs + x.n - 1) 0 = x.h := by
              have := getD_hs (fhs fs) x y.hs
              rw [fhs_len] at this
              rw [e2, fhs_app, fhs_app, ← this]; simp [fhs]
            have hg2 : s1.1.getD (flen fs + x.n + y.n - 1) 0 = y.h := by
              have := getD_hs (fhs fs ++ x.hs) y []
              rw [List.length_append, fhs_len, x.hs_len] at this
              rw [e2, fhs_app, fhs_app, ← this]; simp [fhs]
            obtain ⟨ec, hk2⟩ := parts_two hp
            refine ⟨fs ++ [.bin c.kind x y], fun z hz => ?_, ?_, ?_, ?_⟩
            · rcases List.mem_append.1 hz with hz | hz
              · exact hf z hz
              · rw [List.mem_singleton.1 hz]; exact ⟨hk2.1, hk2.2, hx, hy⟩
            · rw [fnd_app, e1, fnd_app, fnd_app, flen_app]
              simp only [fnd, Ex.nd, List.append_nil, List.append_assoc, flen]
              congr 3
              · rw [Nat.add_zero, Nat.add_assoc]
              · conv => lhs; rw [ec]
                congr 2 <;> omega
            · dsimp only
              simp only [hOf, List.map_cons, List.map_nil, List.foldl_cons, List.foldl_nil, hg1, hg2, Nat.zero_max]
              rw [e2, fhs_app, fhs_app, fhs_app]; simp [fhs, Ex.hs]
            · dsimp only
              rw [fpos_app, hout, flen_app, flen_app]; simp [fpos, flen, Ex.n]; omega
        · cases h
def hZ (l : List NodeC) (b : Nat) : Option (List Nat) := match runH (b : Int) l ([], []) with
  | some (out, [_]) => some out
  | _ => none
theorem hZ_ex {x : Ex} (h : x.ok) (b : Nat) : hZ (x.nd b) b = some x.hs := by
  unfold hZ
  rw [run_ex (b : Int) x [] [] b h (by simp)]
  simp
theorem hZ_inv {l : List NodeC} {b : Nat} {out : List Nat} (h : hZ l b = some out) : ∃ x : Ex, x.ok ∧ l = x.nd b ∧ out = x.hs := by
  unfold hZ at h
  split at h
  · rename_i o z hr
    cases h
    obtain ⟨fs, h1, h2, h3, h4⟩ := run_inv b l _ hr
    dsimp only at h3 h4
    have hl := congrArg List.length h4
    rw [fpos_len] at hl
    obtain ⟨x, rfl⟩ := List.length_eq_one_iff.1 hl.symm
    exact ⟨x, h1 x (by simp), by rw [h2]; simp [fnd], by rw [h3]; simp [fhs]⟩
  · cases h
structure RightP (p : ProgC) (l : List (ByteArray × Ex)) : Prop extends Shaped p l where
  ins : NamesOk p.ins ∧ 1 ≤ p.ins.length ∧ p.ins.length ≤ 40
  outs : NamesOk p.outs ∧ 1 ≤ p.outs.length ∧ p.outs.length ≤ 40
  few : l.length ≤ 40 ∧ p.all.length ≤ 400
  low : ∀ a ∈ l, a.2.h ≤ 60
theorem _root_.Go.Tw.Ex.hs_le (x : Ex) : ∀ k ∈ x.hs, k ≤ x.h := by
  induction x with
  | ref t => intro k hk; simp [Ex.hs] at hk; subst hk; exact Nat.le_refl _
  | num q => intro k hk; simp [Ex.hs] at hk; subst hk; exact Nat.le_refl _
  | neg x ih =>
    intro k hk
    simp only [Ex.hs, List.mem_append, List.mem_singleton] at hk
    rcases hk with hk | rfl
    · have := ih k hk; simp only [Ex.h]; omega
    · exact Nat.le_refl _
  | pow x e ih =>
    intro k hk
    simp only [Ex.hs, List.mem_append, List.mem_singleton] at hk
    rcases hk with hk | rfl
    · have := ih k hk; simp only [Ex.h]; omega
    · exact Nat.le_refl _
  | bin _ x y ih1 ih2 =>
    intro k hk
    simp only [Ex.hs, List.mem_append, List.mem_singleton] at hk
    rcases hk with (hk | hk) | rfl
    · have := ih1 k hk; simp only [Ex.h]; omega
    · have := ih2 k hk; simp only [Ex.h]; omega
    · exact Nat.le_refl _
theorem _root_.Go.Tw.Ex.h_le (x : Ex) : x.h ≤ x.n := by
  induction x with
  | ref t => exact Nat.le_refl _
  | num q => exact Nat.le_refl _
  | neg x ih => simp only [Ex.h, Ex.n]; omega
  | pow x e ih => simp only [Ex.h, Ex.n]; omega
  | bin k x y ih1 ih2 => simp only [Ex.h, Ex.n]; omega
theorem _root_.Go.Tw.Ex.h_mem (x : Ex) : x.h ∈ x.hs := List.mem_of_getElem? x.hs_last
theorem hs_low {x : Ex} {m : Nat} : (∀ k ∈ x.hs, k ≤ m) ↔ x.h ≤ m := ⟨fun h => h _ x.h_mem, fun h k hk => Nat.le_trans (x.hs_le k hk) h⟩
theorem hsAll_mem {l : List (ByteArray × Ex)} {m : Nat} : (∀ k ∈ hsAll l, k ≤ m) ↔ ∀ a ∈ l, a.2.h ≤ m := by
  unfold hsAll
  constructor
  · intro h a ha
    exact hs_low.1 fun k hk => h k (List.mem_flatten.2 ⟨_, List.mem_map.2 ⟨a, ha, rfl⟩, hk⟩)
  · intro h k hk
    obtain ⟨_, h1, h2⟩ := List.mem_flatten.1 hk
    obtain ⟨a, ha, rfl⟩ := List.mem_map.1 h1
    exact hs_low.2 (h a ha) k h2
theorem laid_len : ∀ (l : List (ByteArray × Ex)) (b : Nat), (laid l b).2.length = (hsAll l).length
  | [], _ => rfl
  | (s, x) :: l, b => by
    have := laid_len l (b + x.n)
    simp only [hsAll] at *
    simp [laid, x.nd_len, x.hs_len, this]
def namesOK (l : List ByteArray) : Bool := l.all nameZ
theorem namesOK_iff {l : List ByteArray} : namesOK l = true ↔ NamesOk l := by unfold namesOK NamesOk; simp
def tGo (all : List NodeC) : List LetC → List Nat → Option (List Nat)
  | [], out => some out
  | c :: ls, out => if nameZ c.name = true ∧ (out.length : Int) ≤ c.root ∧ c.root < all.length then (hZ ((all.take (c.root + 1).toNat).drop out.length) out.length).bind fun h => tGo all ls (out ++ h) else none
def tZ (p : ProgC) : Option (List Nat) :=
  if namesOK p.ins = true ∧ 1 ≤ p.ins.length ∧ p.ins.length ≤ 40 ∧ namesOK p.outs = true ∧ 1 ≤ p.outs.length ∧ p.outs.length ≤ 40 ∧ p.lets.length ≤ 40 ∧ p.all.length ≤ 400 then
    (tGo p.all p.lets []).bind fun out => if (∀ k ∈ out, k ≤ 60) ∧ out.length = p.all.length then some out else none
  else none
theorem seg_ex {all : List NodeC} {b : Nat} {x : Ex} {rest : List NodeC} {pre : List NodeC} (hb : pre.length = b) (h : all = pre ++ (x.nd b ++ rest)) : (all.take ((b : Int) + x.n - 1 + 1).toNat).drop b = x.nd b := by
  have e : ((b : Int) + x.n - 1 + 1).toNat = b + x.n := by omega
  rw [e, h, ← hb, List.take_length_add_append, List.drop_left, List.take_append_of_le_length (by rw [x.nd_len]; exact Nat.le_refl _), List.take_of_length_le (by rw [x.nd_len]; exact Nat.le_refl _)]
theorem tGo_ex (all : List NodeC) : ∀ (l : List (ByteArray × Ex)) (pre : List NodeC) (out : List Nat) (rest : List NodeC), LetsOk l → pre.length = out.length → all = pre ++ ((laid l out.length).2 ++ rest) → tGo all (laid l out.length).1 out = some (out ++ hsAll l)
  | [], pre, out, rest, _, _, _ => by simp [laid, tGo, hsAll]
  | (s, x) :: l, pre, out, rest, hl, hp, ha => by
    have h1 := x.n_pos
    obtain ⟨g1, g2⟩ := hl (s, x) (by simp)
    simp only [laid, tGo]
    have hlen : all.length = out.length + x.n + ((laid l (out.length + x.n)).2.length + rest.length) := by rw [ha]; simp [laid, x.nd_len, hp]; omega
    rw [if_pos ⟨g1, by omega, by omega⟩]
    have ha2 : all = pre ++ (x.nd out.length ++ ((laid l (out.length + x.n)).2 ++ rest)) := by rw [ha]; simp [laid]
    rw [seg_ex hp ha2, hZ_ex g2]
    have ih := tGo_ex all l (pre ++ x.nd out.length) (out ++ x.hs) rest (fun a h => hl a (by simp [h])) (by simp [x.nd_len, x.hs_len, hp]) (by rw [ha2]; simp [x.hs_len])
    rw [List.length_append, x.hs_len] at ih
    show tGo all _ _ = _
    rw [ih]
    simp [hsAll]
theorem tGo_inv (all : List NodeC) {o : List Nat} : ∀ (ls : List LetC) (l0 : List (ByteArray × Ex)) (out : List Nat), LetsOk l0 → all.take out.length = (laid l0 0).2 → out = hsAll l0 → out.length ≤ all.length → tGo all ls out = some o → ∃ l, LetsOk l ∧ (laid l0 0).1 ++ ls = (laid l 0).1 ∧ all.take o.length = (laid l 0).2 ∧ o = hsAll l ∧ o.length ≤ all.length
  | [], l0, out, h1, h2, h3, h4, h => by
    cases h
    exact ⟨l0, h1, by simp, h2, h3, h4⟩
  | c :: ls, l0, out, h1, h2, h3, h4, h => by
    unfold tGo at h
    split at h
    · rename_i hc
      cases hh : hZ ((all.take (c.root + 1).toNat).drop out.length) out.length with
      | none => rw [hh] at h; cases h
      | some hs =>
        rw [hh] at h
        change tGo all ls (out ++ hs) = some o at h
        obtain ⟨x, q1, q2, q3⟩ := hZ_inv hh
        have hl := congrArg List.length q2
        rw [x.nd_len, List.length_drop, List.length_take] at hl
        have hlen : out.length + x.n = (c.root + 1).toNat := by omega
        have htk : all.take (out ++ hs).length = (laid l0 0).2 ++ x.nd out.length := by
          rw [q3, List.length_append, x.hs_len, hlen, ← q2, ← h2]
          have := List.take_append_drop out.length (all.take (c.root + 1).toNat)
          rw [List.take_take, Nat.min_eq_left (by omega)] at this
          exact this.symm
        have e0 : (laid l0 0).2.length = out.length := by rw [laid_len, h3]
        have hm := laid_more c.name x l0 0
        obtain ⟨l, k1, k2, k3⟩ := tGo_inv (o := o) all ls (l0 ++ [(c.name, x)]) (out ++ hs) (fun a ha => by
          rcases List.mem_append.1 ha with ha | ha
          · exact h1 a ha
          · rw [List.mem_singleton.1 ha]; exact ⟨hc.1, q1⟩) (by rw [htk, hm]; simp [e0]) (by rw [h3, q3]; simp [hsAll]) (by rw [q3, List.length_append, x.hs_len]; omega) h
        refine ⟨l, k1, ?_, k3⟩
        rw [← k2, hm]
        simp only [List.append_assoc, List.singleton_append]
        congr 2
        cases c with
        | mk nm rt =>
          congr 1
          dsimp only at hlen hc
          rw [e0]
          omega
    · cases h
theorem tZ_right {p : ProgC} {l : List (ByteArray × Ex)} (h : RightP p l) : tZ p = some (hsAll l) := by
  have hlets : p.lets.length = l.length := by rw [h.lets, laid_lets]
  have hall : p.all.length = (hsAll l).length := by rw [h.all, laid_len]
  unfold tZ
  rw [if_pos ⟨namesOK_iff.2 h.ins.1, h.ins.2.1, h.ins.2.2, namesOK_iff.2 h.outs.1, h.outs.2.1, h.outs.2.2, by rw [hlets]; exact h.few.1, h.few.2⟩]
  have := tGo_ex p.all l [] [] [] h.ok rfl (by simp [h.all])
  rw [h.lets]
  change tGo p.all (laid l 0).1 [] = _ at this
  rw [this]
  show (if _ then _ else _) = _
  rw [List.nil_append, if_pos ⟨hsAll_mem.2 h.low, hall.symm⟩]
theorem tZ_inv {p : ProgC} {o : List Nat} (h : tZ p = some o) : ∃ l, RightP p l ∧ o = hsAll l := by
  unfold tZ at h
  split at h
  · rename_i hc
    obtain ⟨c1, c2, c3, c4, c5, c6, c7, c8⟩ := hc
    cases hg : tGo p.all p.lets [] with
    | none => rw [hg] at h; cases h
    | some out =>
      rw [hg] at h
      change (if _ then _ else _) = _ at h
      split at h
      · rename_i hc2
        cases h
        obtain ⟨l, k1, k2, k3, k4, k5⟩ := tGo_inv (o := o) p.all p.lets [] [] (fun a ha => by cases ha) rfl rfl (by simp) hg
        rw [hc2.2, List.take_length] at k3
        have k2' : p.lets = (laid l 0).1 := k2
        refine ⟨l, ⟨⟨k2', k3, k1⟩, ⟨namesOK_iff.1 c1, c2, c3⟩, ⟨namesOK_iff.1 c4, c5, c6⟩, ⟨by rw [← laid_lets l 0, ← k2']; exact c7, c8⟩, ?_⟩, k4⟩
        rw [k4] at hc2
        exact hsAll_mem.1 hc2.1
      · cases h
  · cases h
theorem tZ_iff {p : ProgC} : (tZ p).isSome = true ↔ ∃ l, RightP p l :=
  ⟨fun h => by
    cases e : tZ p with
    | none => rw [e] at h; cases h
    | some o => obtain ⟨l, h1, _⟩ := tZ_inv e; exact ⟨l, h1⟩, fun ⟨l, h⟩ => by rw [tZ_right h]; rfl⟩
def begZ (l : List NodeC) (fr : Int) : Nat → Int → Int
  | 0, _ => fr - 1
  | f + 1, i => if i < fr then fr - 1 else match l[i.toNat]? with
    | none => fr - 1
    | some n => if n.kind = 0 ∨ n.kind = 1 then i
      else if n.kind = 6 ∨ n.kind = 7 then (if n.a ≠ i - 1 then fr - 1 else begZ l fr f n.a)
      else if n.b ≠ i - 1 then fr - 1
      else if begZ l fr f n.b < fr ∨ n.a ≠ begZ l fr f n.b - 1 then fr - 1 else begZ l fr f n.a
theorem begZ_ex {l : List NodeC} {fr : Int} (hfr : 0 ≤ fr) : ∀ (x : Ex) (b f : Nat), x.ok → At l b x → fr ≤ b → b + x.n ≤ f → begZ l fr f ((b : Int) + x.n - 1) = b := by
  intro x
  induction x with
  | ref t =>
    intro b f _ h hb hf
    obtain ⟨f, rfl⟩ : ∃ g, f = g + 1 := ⟨f - 1, by simp [Ex.n] at hf; omega⟩
    have := h 0 _ rfl
    have e : ((b : Int) + (Ex.ref t).n - 1).toNat = b + 0 := by simp [Ex.n]
    unfold begZ
    rw [e, this, if_neg (by simp [Ex.n]; omega)]
    simp [refN, Ex.n]
  | num q =>
    intro b f _ h hb hf
    obtain ⟨f, rfl⟩ : ∃ g, f = g + 1 := ⟨f - 1, by simp [Ex.n] at hf; omega⟩
    have := h 0 _ rfl
    have e : ((b : Int) + (Ex.num q).n - 1).toNat = b + 0 := by simp [Ex.n]
    unfold begZ
    rw [e, this, if_neg (by simp [Ex.n]; omega)]
    simp [numN, Ex.n]
  | neg x ih =>
    intro b f hok h hb hf
    obtain ⟨f, rfl⟩ : ∃ g, f = g + 1 := ⟨f - 1, by simp [Ex.n] at hf; omega⟩
    have hl := At.left h (u := x.nd b) rfl
    have hr := At.right h (u := x.nd b) rfl 0 _ rfl
    rw [x.nd_len] at hr
    have h1 := x.n_pos
    have e : ((b : Int) + (Ex.neg x).n - 1).toNat = b + x.n + 0 := by simp [Ex.n]; omega
    unfold begZ
    rw [e, hr, if_neg (by simp [Ex.n]; omega)]
    show (if (6 : Int) = 0 ∨ (6 : Int) = 1 then _ else if (6 : Int) = 6 ∨ (6 : Int) = 7 then (if (b : Int) + x.n - 1 ≠ (b : Int) + (Ex.neg x).n - 1 - 1 then fr - 1 else begZ l fr f ((b : Int) + x.n - 1)) else _) = _
    rw [if_neg (by decide), if_pos (by decide), if_neg (by simp [Ex.n]; omega)]
    exact ih b f hok hl hb (by simp [Ex.n] at hf; omega)
  | pow x e0 ih =>
    intro b f hok h hb hf
    obtain ⟨f, rfl⟩ : ∃ g, f = g + 1 := ⟨f - 1, by simp [Ex.n] at hf; omega⟩
    have hl := At.left h (u := x.nd b) rfl
    have hr := At.right h (u := x.nd b) rfl 0 _ rfl
    rw [x.nd_len] at hr
    have h1 := x.n_pos
    have e : ((b : Int) + (Ex.pow x e0).n - 1).toNat = b + x.n + 0 := by simp [Ex.n]; omega
    unfold begZ
    rw [e, hr, if_neg (by simp [Ex.n]; omega)]
    show (if (7 : Int) = 0 ∨ (7 : Int) = 1 then _ else if (7 : Int) = 6 ∨ (7 : Int) = 7 then (if (b : Int) + x.n - 1 ≠ (b : Int) + (Ex.pow x e0).n - 1 - 1 then fr - 1 else begZ l fr f ((b : Int) + x.n - 1)) else _) = _
    rw [if_neg (by decide), if_pos (by decide), if_neg (by simp [Ex.n]; omega)]
    exact ih b f hok.1 hl hb (by simp [Ex.n] at hf; omega)
  | bin k x y ih1 ih2 =>
    intro b f hok h hb hf
    obtain ⟨f, rfl⟩ : ∃ g, f = g + 1 := ⟨f - 1, by simp [Ex.n] at hf; omega⟩
    have hxy := At.left h (u := x.nd b ++ y.nd (b + x.n)) rfl
    have hl := At.left hxy (u := x.nd b) rfl
    have hm := At.right hxy (u := x.nd b) rfl
    rw [x.nd_len] at hm
    have hr := At.right h (u := x.nd b ++ y.nd (b + x.n)) rfl 0 _ rfl
    rw [List.length_append, x.nd_len, y.nd_len] at hr
    have h1 := x.n_pos
    have h2 := y.n_pos
    have e : ((b : Int) + (Ex.bin k x y).n - 1).toNat = b + (x.n + y.n) + 0 := by simp [Ex.n]; omega
    obtain ⟨k1, k2, o1, o2⟩ := hok
    have hf' : b + x.n + y.n ≤ f := by simp [Ex.n] at hf; omega
    have i2 := ih2 (b + x.n) f o2 hm (by omega) (by omega)
    rw [show (((b + x.n : Nat) : Int) + y.n - 1) = (b : Int) + x.n + y.n - 1 by omega] at i2
    have i1 := ih1 b f o1 hl hb (by omega)
    unfold begZ
    rw [e, hr, if_neg (by simp [Ex.n]; omega)]
    show (if k = 0 ∨ k = 1 then _ else if k = 6 ∨ k = 7 then _ else if (b : Int) + x.n + y.n - 1 ≠ (b : Int) + (Ex.bin k x y).n - 1 - 1 then fr - 1 else if begZ l fr f ((b : Int) + x.n + y.n - 1) < fr ∨ (b : Int) + x.n - 1 ≠ begZ l fr f ((b : Int) + x.n + y.n - 1) - 1 then fr - 1 else begZ l fr f ((b : Int) + x.n - 1)) = _
    rw [if_neg (by omega), if_neg (by omega), if_neg (by simp [Ex.n]; omega), i2, if_neg (by omega), i1]
theorem _root_.Go.Tw.At.glue {l : List NodeC} {b : Nat} {u v : List NodeC} (h1 : ∀ j c, u[j]? = some c → l[b + j]? = some c) (h2 : ∀ j c, v[j]? = some c → l[b + u.length + j]? = some c) : ∀ j c, (u ++ v)[j]? = some c → l[b + j]? = some c := by
  intro j c hj
  by_cases h : j < u.length
  · rw [List.getElem?_append_left h] at hj; exact h1 j c hj
  · rw [List.getElem?_append_right (by omega)] at hj
    have := h2 _ c hj
    rw [show b + u.length + (j - u.length) = b + j by omega] at this
    exact this
theorem begZ_inv {l : List NodeC} {fr : Int} (hfr : 0 ≤ fr) (hok : ∀ c ∈ l, (partsZ c).isSome = true) : ∀ (f : Nat) (i : Int), i < l.length → fr ≤ begZ l fr f i → ∃ (b : Nat) (x : Ex), begZ l fr f i = b ∧ x.ok ∧ At l b x ∧ (b : Int) + x.n - 1 = i := by
  intro f
  induction f with
  | zero => intro i _ h; simp only [begZ] at h; omega
  | succ f ih =>
    intro i hi h
    unfold begZ at h ⊢
    split at h
    · omega
    · rename_i hif
      rw [if_neg hif]
      cases hn : l[i.toNat]? with
      | none => rw [hn] at h; simp only at h; omega
      | some n =>
        rw [hn] at h
        dsimp only at h ⊢
        have hp := hok n (List.mem_of_getElem? hn)
        obtain ⟨k, hk⟩ := Option.isSome_iff_exists.1 hp
        have one : ∀ {b : Nat} {u : List NodeC}, b + u.length = i.toNat → ∀ j c, [n][j]? = some c → l[b + u.length + j]? = some c := by
          intro b u e j c hj
          have : j = 0 := by
            have := List.getElem?_eq_some_iff.1 hj
            obtain ⟨h1, _⟩ := this
            simp at h1; exact h1
          subst this
          rw [e]
          simp at hj
          subst hj
          exact hn
        have kk := parts_le hk
        have kind : (k = 0 → n.kind = 0 ∨ n.kind = 1) ∧ (k = 1 → n.kind = 6 ∨ n.kind = 7) ∧ (k = 2 → 2 ≤ n.kind ∧ n.kind ≤ 5) := by
          refine ⟨?_, ?_, ?_⟩
          · rintro rfl
            unfold partsZ at hk
            by_cases h0 : n.kind = 0
            · exact .inl h0
            · by_cases h1 : n.kind = 1
              · exact .inr h1
              · rw [if_neg h0, if_neg h1] at hk
                repeat' split at hk
                all_goals cases hk
          · rintro rfl
            rcases parts_one hk with e | ⟨e, _⟩
            · left; rw [e]; rfl
            · right; rw [e]; rfl
          · rintro rfl
            exact (parts_two hk).2
        rcases (by omega : k = 0 ∨ k = 1 ∨ k = 2) with rfl | rfl | rfl
        · have h01 := kind.1 rfl
          rw [if_pos h01] at h ⊢
          obtain ⟨x, q1, q2, q3, q4, q5⟩ := parts_zero hk
          refine ⟨i.toNat, x, by omega, q1, ?_, by rw [q2]; omega⟩
          intro j c hj
          rw [q4] at hj
          exact one (b := i.toNat) (u := []) rfl j c hj
        · have h67 := kind.2.1 rfl
          rw [if_neg (by omega), if_pos h67] at h ⊢
          split at h
          · omega
          · rename_i ha
            rw [if_neg ha]
            have ha : n.a = i - 1 := by omega
            obtain ⟨b, x, e1, q1, q2, q3⟩ := ih n.a (by omega) h
            have key : ∀ y : Ex, y.ok → y.n = x.n + 1 → y.nd b = x.nd b ++ [n] → ∃ (b : Nat) (x : Ex), begZ l fr f n.a = b ∧ x.ok ∧ At l b x ∧ (b : Int) + x.n - 1 = i := fun y hy hn' hd => ⟨b, y, e1, hy, by
              unfold At
              rw [hd]
              exact At.glue q2 (by rw [x.nd_len]; have := one (b := b) (u := x.nd b) (by rw [x.nd_len]; omega); rw [x.nd_len] at this; exact this), by omega⟩
            rcases parts_one hk with e | ⟨e, he⟩
            · exact key (.neg x) q1 rfl (by rw [e, ← q3]; rfl)
            · refine key (.pow x n.e) ⟨q1, he⟩ rfl ?_
              conv => rhs; rw [e, ← q3]
              rfl
        · have h25 := kind.2.2 rfl
          rw [if_neg (by omega), if_neg (by omega)] at h ⊢
          split at h
          · omega
          · rename_i hb'
            rw [if_neg hb']
            have hb' : n.b = i - 1 := by omega
            split at h
            · omega
            · rename_i hc
              rw [if_neg hc]
              obtain ⟨b2, y, e2, p1, p2, p3⟩ := ih n.b (by omega) (by omega)
              rw [e2] at hc
              obtain ⟨b, x, e1, q1, q2, q3⟩ := ih n.a (by omega) h
              have hb2 : b2 = b + x.n := by omega
              subst hb2
              obtain ⟨ec, _⟩ := parts_two hk
              have hd : (Ex.bin n.kind x y).nd b = x.nd b ++ y.nd (b + x.n) ++ [n] := by
                conv => rhs; rw [ec, ← q3, ← p3]
                simp only [Ex.nd]
                congr 3
              refine ⟨b, .bin n.kind x y, e1, ⟨h25.1, h25.2, q1, p1⟩, ?_, by simp only [Ex.n]; omega⟩
              unfold At
              rw [hd]
              refine At.glue (At.glue q2 (by rw [x.nd_len]; exact p2)) ?_
              have := one (b := b) (u := x.nd b ++ y.nd (b + x.n)) (by rw [List.length_append, x.nd_len, y.nd_len]; omega)
              exact this
end Go.Proofs.YtmgpifkekofacaaGreatDoor
namespace Go.Tw
open Go Go.RowKit
section
variable {P : Program} {Q : Exit → Act → World → Prop} {n : Nat} {D : List Deferred} {E : Env} {S S' : World → Prop} {ops : Array Oper} {rest : List Oper} {d : Nat} {op : Op} {ty : TypeId} {pos : String} {aft : Array Edge} {g : Option (Nat × Bool)} {v : Value} {w0 : World} {X : List Nat} {I I0 : Hp} {B B0 R : List Item}
theorem o_indexA {qm : Bool} {t : TypeId} {x ix : Operand} {u iv r : Value} (hg : Wants ops E g) (hd : Nat.blt d n = true) (hx : ev E x = some u) (hi : ev E ix = some iv) (hr : ∀ w, (Instr.index t u iv).run P w = .ok r w)
    (k : TL qm P ops Q rest n D ((d, r) :: E) S) : TL qm P ops Q (⟨some d, .index t x ix, ty, pos, aft, g⟩ :: rest) n D E S :=
  o_rd hg hd (v := r) (fun a w ha hw d pos aft g => ⟨w, by simp only [execOp, ha.ev hx, ha.ev hi, Sem.run_bind, hr, Result.andThen_ok]; rfl, rfl⟩) k
end
end Go.Tw
namespace Go.Proofs.YtmgpifkekofacaaGreatDoor
open Go Go.Tw
theorem name_all (s : ByteArray) {I : Hp} : Fun Tryz.prog 33 [.string s] I [] (fun v _ _ => v = .bool (nameZ s)) := by
  intro w hw
  refine enter1 _ Tryz.func33 rfl Tryz.ntmps33 rfl ?_ hw;refine sR ?_;refine oV ?_;refine nU ?_;iterate 2 refine oV ?_
  refine' o_or trivial trivial rfl rfl rfl rfl rfl rfl rfl rfl (fun hb8 => ?_) ?_;rotate_left
  ·
   have fb8 := hb8
   try simp only [bl] at fb8
   refine gV hb8 ?_;refine o_lenS (wS rfl rfl hb8) rfl Tryz.underlying9 rfl ?_;refine gV hb8 ?_;refine oN ?_;exact joins rfl
  refine' o_or trivial trivial rfl rfl rfl rfl rfl rfl rfl rfl (fun hb13 => ?_) ?_;rotate_left
  ·
   have fb13 := hb13
   try simp only [bl] at fb13
   refine gV hb13 ?_;refine oP (wS rfl rfl hb13) rfl Tryz.call58 rfl (key_any _) ?_;refine oN ?_;exact joins rfl
  refine nT ?_;refine cC rfl (fun h1 => ?_) (fun h1 => ?_)
  ·
   have f1 := h1;try simp only [bl] at f1
   simp only [nil_eq] at f1
   refine sR ?_;refine oV ?_;refine nF ?_;refine ret1 rfl rfl ?_;refine leaf0 ?_; rw [nameZ_none (by rcases f1 with (f | f) | f; exact .inl (by omega); exact .inr (.inl (by omega)); exact .inr (.inr f))]
  have f1 := h1;try simp only [bl] at f1
  simp only [nil_eq] at f1
  refine cK (tC (cS (sR ?_)));refine oV ?_;refine o_range trivial rfl Tryz.underlying9 rfl (fun b18 => ?_);refine oN (tC (cB ?_));refine c_loop (ι := Nat) [18] (.cons rfl .nil) (fun x => s.size - x) (fun x E0 => E0) (fun x => St w [] I [.box b18 (.stringIter s x)]) (fun x => x ≤ s.size ∧ nameZ s = nameGo s (s.size - x) x) (0) (sC rfl sN) (fun _ h => h) (⟨Nat.zero_le _, nameZ_some (by omega) (by omega) f1.2⟩) ?_;rintro i ⟨hle, hF⟩
  try dsimp only
  have hwd := width_pos s i
  refine cS ?_
  rcases Nat.lt_or_ge i s.size with hp | hp
  ·
   refine cR ?_;refine o_next trivial rfl rfl (by repeat constructor) hp ?_;refine oV ?_;refine oN (tC (cS ?_));refine c_cond_t rfl rfl ?_;refine cK (tC (cB (sR ?_)));iterate 4 refine oV ?_
   refine nS ?_;refine oV ?_;refine oP trivial rfl Tryz.call59 rfl (kind_any _) ?_;refine oV ?_;refine nS ?_;iterate 2 refine oV ?_
   refine' o_and trivial trivial rfl rfl rfl rfl rfl rfl rfl rfl (fun hb27 => ?_) ?_;rotate_left
   ·
    iterate 2 refine gV hb27 ?_
    refine' o_or (wS rfl rfl hb27) (wS rfl rfl hb27) rfl rfl rfl rfl rfl rfl rfl rfl (fun hb30 => ?_) ?_;rotate_left
    ·
     iterate 2 refine gV hb30 ?_
     refine oN ?_;exact joins rfl
    refine oN ?_;exact joins rfl
   refine nT ?_;refine cC rfl (fun h3 => ?_) (fun h3 => ?_)
   ·
    have f3 := h3;try simp only [bl] at f3
    refine sR ?_;refine oV ?_;refine oN (tC (cT (blk_r (tR (blk_r (tR ?_))))));refine ret1 rfl rfl ?_;refine leaf0 ?_; rw [hF, nameGo_no hp (by omega)]
   have f3 := h3;try simp only [bl] at f3
   refine cK (blk_n ?_)
   have hwi := width_in s i hp; exact again _ (sC rfl sN) (fun _ h => h) (by show s.size - (i + (Utf8.decode s i).2) < s.size - i; omega) ⟨by omega, hF.trans (nameGo_step hp (by omega))⟩
  refine cR ?_;refine o_nextEnd trivial rfl rfl (by repeat constructor) hp ?_;refine oV ?_;refine oN (tC (cS ?_));refine c_cond_f rfl rfl ?_;refine c_exit (then_x (then_x (blk_eq rfl (tC (sR ?_)))));refine oV ?_;refine nE ?_;refine ret1 rfl rfl ?_;refine leaf0 ?_; rw [hF, nameGo_end (by omega)]
theorem refName_all (s : ByteArray) : PureC Tryz.prog 50 [.string s] (.bool (nameZ s)) := by
  intro w
  refine enter1 _ Tryz.func50 rfl Tryz.ntmps50 rfl ?_ (S := fun w1 => w1 = w) rfl;refine sR ?_;refine oV ?_;refine nU ?_;refine oV ?_;refine o_lenS trivial rfl Tryz.underlying9 rfl ?_;refine oV ?_;refine' o_or trivial trivial rfl rfl rfl rfl rfl rfl rfl rfl (fun hb10 => ?_) ?_;rotate_left
  ·
   have fb10 := hb10
   try simp only [bl] at fb10
   refine gV hb10 ?_;refine o_lenS (wS rfl rfl hb10) rfl Tryz.underlying9 rfl ?_;refine gV hb10 ?_;refine oN ?_;exact joins rfl
  refine' o_or trivial trivial rfl rfl rfl rfl rfl rfl rfl rfl (fun hb15 => ?_) ?_;rotate_left
  ·
   have fb15 := hb15
   try simp only [bl] at fb15
   refine gV hb15 ?_;refine oP (wS rfl rfl hb15) rfl Tryz.call83 rfl (refKey_any _) ?_;refine oN ?_;exact joins rfl
  refine nT ?_;refine cC rfl (fun h1 => ?_) (fun h1 => ?_)
  ·
   have f1 := h1;try simp only [bl] at f1
   refine sR ?_;refine oV ?_;refine nF ?_;refine ret1 rfl rfl ?_;refine fun _ hw => ⟨?_, hw⟩; rw [nameZ_none (by rcases f1 with (f | f) | f; exact .inl (by omega); exact .inr (.inl (by omega)); exact .inr (.inr f))]
  have f1 := h1;try simp only [bl] at f1
  refine kS ?_;refine oV ?_;refine oN (tC (cS (cB ?_)));refine c_loop (ι := Nat) [0] (.cons rfl .nil) (fun x => s.size - x) (fun x E0 => (3, .int .i64 (x : Int)) :: E0) (fun x => fun w1 => w1 = w) (fun x => x ≤ s.size ∧ nameZ s = nameGo s (s.size - x) x) (0) (sC rfl (sC rfl sN)) (fun _ h => h) (⟨Nat.zero_le _, nameZ_some (by omega) (by omega) f1.2⟩) ?_;rintro i ⟨hle, hF⟩
  try dsimp only
  have hwd := width_pos s i
  refine cS (sR ?_);iterate 2 refine oV ?_
  refine o_lenS trivial rfl Tryz.underlying9 rfl ?_;refine oV ?_;refine nT ?_;refine cC rfl (fun h2 => ?_) (fun h2 => ?_)
  ·
   have f2 := h2;try simp only [bl] at f2
   refine cK (tC (cB (sR ?_)));iterate 2 refine oV ?_
   refine oP trivial rfl Tryz.call79 rfl (refNext_in _ _ (by omega) (by omega)) ?_;iterate 5 refine oV ?_
   refine nS ?_;refine oV ?_;refine oP trivial rfl Tryz.call84 rfl (refKind_any _) ?_;refine oV ?_;refine nU ?_;iterate 2 refine oV ?_
   refine' o_and trivial trivial rfl rfl rfl rfl rfl rfl rfl rfl (fun hb33 => ?_) ?_;rotate_left
   ·
    iterate 2 refine gV hb33 ?_
    refine oN ?_;exact joins rfl
   refine' o_or trivial trivial rfl rfl rfl rfl rfl rfl rfl rfl (fun hb37 => ?_) ?_;rotate_left
   ·
    iterate 2 refine gV hb37 ?_
    refine' o_and (wS rfl rfl hb37) (wS rfl rfl hb37) rfl rfl rfl rfl rfl rfl rfl rfl (fun hb40 => ?_) ?_;rotate_left
    ·
     iterate 2 refine gV hb40 ?_
     refine oN ?_;exact joins rfl
    refine oN ?_;exact joins rfl
   refine nT ?_;refine cC rfl (fun h3 => ?_) (fun h3 => ?_)
   ·
    have f3 := h3;try simp only [bl] at f3
    refine sR ?_;refine oV ?_;refine oN (tC (cT (tR (blk_r (tR (blk_r (tR ?_)))))));refine ret1 rfl rfl ?_;refine fun _ hw => ⟨?_, hw⟩; rw [hF, nameGo_no (by omega) (by omega)]
   have f3 := h3;try simp only [bl] at f3
   refine cK (tC (cR ?_));iterate 2 refine oV ?_
   first | (refine o_add trivial rfl rfl rfl ?_ ?_; (omega)) | refine oV ?_
   refine oV ?_;refine oN (blk_n ?_)
   have hwi := width_in s i (by omega); exact again _ (sC rfl (sC rfl sN)) (fun _ h => h) (by show s.size - (i + (Utf8.decode s i).2) < s.size - i; omega) ⟨by omega, hF.trans (nameGo_step (by omega) (by omega))⟩
  have f2 := h2;try simp only [bl] at f2
  refine c_exit (then_x (then_x (blk_eq rfl (tC (sR ?_)))));refine oV ?_;refine nE ?_;refine ret1 rfl rfl ?_;refine fun _ hw => ⟨?_, hw⟩; rw [hF, nameGo_end (by omega)]
theorem scs_at {I : Hp} {v : Value} {l : List ByteArray} (h : Slc I 1 v (scs l)) {i : Nat} {s : ByteArray} (hs : l[i]? = some s) : I.cell? ⟨slcB v, slcO v + i * 1, none⟩ = some (.string s) :=
  h.cells i _ (by unfold scs; rw [List.getElem?_map, hs]; rfl) 0 _ rfl
theorem scs_len (l : List ByteArray) : (scs l).length = l.length := by simp [scs]
theorem all_step {α : Type} {p : α → Bool} {l : List α} {i : Nat} {x : α} (h : l[i]? = some x) : (l.drop i).all p = (p x && (l.drop (i + 1)).all p) := by
  rw [List.drop_eq_getElem_cons (List.getElem?_eq_some_iff.1 h).1, List.all_cons, (List.getElem?_eq_some_iff.1 h).2]
theorem trList_any (v : Value) (l : List ByteArray) (m : Int) {I : Hp} (h : Slc I 1 v (scs l)) : Fun Tryz.prog 85 [v, .int .i64 m] I [] (fun r _ _ => r = .bool (namesOK l && decide (m ≤ l.length) && decide (l.length ≤ 40))) := by
  have hl := scs_len l
  have hmx := h.most
  rw [hl] at hmx
  unfold maxLen at hmx
  intro w hw
  refine enter2 _ Tryz.func85 rfl Tryz.ntmps85 rfl ?_ hw;refine sR ?_;refine oV ?_;refine nU ?_;refine oV ?_;refine o_lenSlc trivial rfl Tryz.underlying23 rfl (h) ?_;refine oV ?_;refine oN (tC (cB ?_));refine c_loop (ι := Nat) [0, 1, 7, 8] (.cons rfl (.cons rfl (.cons rfl (.cons rfl .nil)))) (fun x => l.length - x) (fun x E0 => (9, .int .i64 (x : Int)) :: E0) (fun x => St w [] I []) (fun x => x ≤ l.length ∧ l.all nameZ = (l.drop x).all nameZ) (0) (sC rfl (sC rfl (sC rfl (sC rfl (sC rfl sN))))) (fun _ h => h) (⟨Nat.zero_le _, rfl⟩) ?_;rintro i ⟨hi, hF⟩
  try dsimp only
  refine sR ?_;refine oV ?_;refine oN (tC (cS ?_));refine cC rfl (fun h1 => ?_) (fun h1 => ?_)
  ·
   have f1 := h1;try simp only [bl] at f1
   obtain ⟨s, hs⟩ : ∃ s, l[i]? = some s := ⟨l[i]'(by omega), List.getElem?_eq_getElem (by omega)⟩
   refine cK (tC (cS (cB (sR ?_))));refine o_elem trivial rfl Tryz.underlying23 Tryz.sizeOf9 rfl (h) rfl (by omega) ?_;refine o_load1I trivial rfl Tryz.isAgg9 rfl (scs_at h hs) ?_;refine oV ?_;refine nS ?_;refine oV ?_;refine oQ Tryz.call33 rfl (name_all _) ?_;refine oV ?_;refine nT ?_;refine cC rfl (fun h2 => ?_) (fun h2 => ?_)
   ·
    have f2 := h2;try simp only [bl] at f2
    refine sR ?_;refine oV ?_;refine oN (tC (cT (blk_r (tR (tR (blk_r (tR ?_)))))));refine ret1 rfl rfl ?_;refine leaf0 (congrArg Value.bool ?_)
    unfold namesOK
    rw [hF, all_step hs, show nameZ s = false by simpa using h2]; rfl
   have f2 := h2;try simp only [bl] at f2
   refine cK (blk_n (tC (cR ?_)))
   first | (refine o_add trivial rfl rfl rfl ?_ ?_; (omega)) | refine oV ?_
   refine oV ?_;refine oN ?_;exact again (i + 1) (sC rfl (sC rfl (sC rfl (sC rfl (sC rfl sN))))) (fun _ h => h) (by show l.length - (i + 1) < l.length - i; omega) ⟨by show i + 1 ≤ l.length; omega, by rw [hF, all_step hs, show nameZ s = true by simpa using h2]; rfl⟩
  have f1 := h1;try simp only [bl] at f1
  have hin : i = l.length := by omega
  rw [hin, List.drop_length] at hF
  refine c_exit (then_x (then_x (blk_eq rfl (tC (sR ?_)))));refine oV ?_;refine o_lenSlc trivial rfl Tryz.underlying23 rfl (h) ?_;iterate 2 refine oV ?_
  refine' o_and trivial trivial rfl rfl rfl rfl rfl rfl rfl rfl (fun hb21 => ?_) ?_;rotate_left
  ·
   have fb21 := hb21
   try simp only [bl] at fb21
   refine gV hb21 ?_;refine o_lenSlc (wS rfl rfl hb21) rfl Tryz.underlying23 rfl (h) ?_;refine gV hb21 ?_;refine oN ?_;exact joins rfl
  refine oV ?_;refine nE ?_;refine ret1 rfl rfl ?_;refine leaf0 (congrArg Value.bool ?_)
  unfold namesOK
  rw [hF, Bool.eq_iff_iff]
  simp
  omega
theorem trEmpty_any (neg : Bool) (va vb : Value) (A B : List Nat) {I : Hp} (ha : Ws I va A) (hb : Ws I vb B) : Fun Tryz.prog 140 [.agg #[.bool neg, va, vb]] I [] (fun v _ _ => v = .bool (emptyZ neg A B)) := by
  intro w hw
  refine enter1 _ Tryz.func140 rfl Tryz.ntmps140 rfl ?_ hw;refine sR ?_;refine o_box trivial rfl rfl rfl (fun b1 => ?_);refine oV ?_;refine nS ?_;refine oF 0 Tryz.underlying42 Tryz.sizeOf4 ?_;refine oL Tryz.isAgg4 ?_;refine oV ?_;refine' o_and trivial trivial rfl rfl rfl rfl rfl rfl rfl rfl (fun hb6 => ?_) ?_;rotate_left
  ·
   have fb6 := hb6
   try simp only [bl] at fb6
   refine gF hb6 1 Tryz.underlying42 Tryz.sizeOf40 ?_;refine gL hb6 Tryz.isAgg40 ?_;refine o_lenW (wS rfl rfl hb6) rfl Tryz.underlying40 rfl (ha) ?_;refine gV hb6 ?_;refine oN ?_;exact joins rfl
  refine' o_and trivial trivial rfl rfl rfl rfl rfl rfl rfl rfl (fun hb12 => ?_) ?_;rotate_left
  ·
   have fb12 := hb12
   try simp only [bl] at fb12
   refine gF hb12 2 Tryz.underlying42 Tryz.sizeOf40 ?_;refine gL hb12 Tryz.isAgg40 ?_;refine o_lenW (wS rfl rfl hb12) rfl Tryz.underlying40 rfl (hb) ?_;refine gV hb12 ?_;refine oN ?_;exact joins rfl
  refine oV ?_;refine nE ?_;refine ret1 rfl rfl ?_;refine leaf0 (congrArg Value.bool ?_); unfold emptyZ; rw [Bool.eq_iff_iff]; simp
theorem trConst_any (neg : Bool) (va vb : Value) (A B : List Nat) {I : Hp} (ha : Ws I va A) (hb : Ws I vb B) (hs : A.length ≤ 100000) (hs2 : B.length ≤ 100000) : Fun Tryz.prog 141 [.agg #[.bool neg, va, vb]] I [] (fun v _ _ => v = .bool (constOK neg A B && !neg)) := by
  intro w hw
  refine enter1 _ Tryz.func141 rfl Tryz.ntmps141 rfl ?_ hw;refine sR ?_;refine o_box trivial rfl rfl rfl (fun b1 => ?_);refine oV ?_;refine nS ?_;refine oA Tryz.isAgg42 Tryz.sizeOf42 ?_;refine oQ Tryz.call161 rfl (ratRight_any neg _ _ _ _ ha hb (by omega) (by omega)) ?_;refine' o_and trivial trivial rfl rfl rfl rfl rfl rfl rfl rfl (fun hb5 => ?_) ?_;rotate_left
  ·
   have fb5 := hb5
   try simp only [bl] at fb5
   refine gF hb5 0 Tryz.underlying42 Tryz.sizeOf4 ?_;refine gL hb5 Tryz.isAgg4 ?_;refine gV hb5 ?_;refine oN ?_;exact joins rfl
  refine' o_and trivial trivial rfl rfl rfl rfl rfl rfl rfl rfl (fun hb10 => ?_) ?_;rotate_left
  ·
   have fb10 := hb10
   try simp only [bl] at fb10
   refine gF hb10 1 Tryz.underlying42 Tryz.sizeOf40 ?_;refine gL hb10 Tryz.isAgg40 ?_;refine o_callQ (wS rfl rfl hb10) rfl Tryz.call162 rfl (decDigits_any _ _ ha hs) ?_;refine gV hb10 ?_;refine oN ?_;exact joins rfl
  refine' o_and trivial trivial rfl rfl rfl rfl rfl rfl rfl rfl (fun hb16 => ?_) ?_;rotate_left
  ·
   have fb16 := hb16
   try simp only [bl] at fb16
   refine gF hb16 2 Tryz.underlying42 Tryz.sizeOf40 ?_;refine gL hb16 Tryz.isAgg40 ?_;refine o_callQ (wS rfl rfl hb16) rfl Tryz.call162 rfl (decDigits_any _ _ hb hs2) ?_;refine gV hb16 ?_;refine oN ?_;exact joins rfl
  refine oV ?_;refine nE ?_;refine ret1 rfl rfl ?_;refine leaf0 (congrArg Value.bool ?_); unfold constOK; rw [Bool.eq_iff_iff]; simp only [Bool.and_eq_true, decide_eq_true_eq]; constructor
  · rintro ⟨⟨⟨h1, h2⟩, h3⟩, h4⟩; exact ⟨⟨⟨h1, by omega⟩, by omega⟩, h2⟩
  · rintro ⟨⟨⟨h1, h2⟩, h3⟩, h4⟩; exact ⟨⟨⟨h1, h4⟩, by omega⟩, by omega⟩
def _root_.Go.Tw.NodeC.few (k : Nat) (c : NodeC) : Prop := c.n.length ≤ k ∧ c.d.length ≤ k
def partsR (c : NodeC) (v : Value) : Prop := ∃ m : Int, v = .tuple #[.int .i64 m, .bool (partsZ c).isSome] ∧ ∀ k, partsZ c = some k → m = k
theorem partsR_of {c : NodeC} {m : Int} {b : Bool} (k : Nat) (hm : m = k) (h : partsZ c = if b = true then some k else none) : partsR c (.tuple #[.int .i64 m, .bool b]) := by
  refine ⟨m, by rw [h]; cases b <;> rfl, fun k' hk => ?_⟩
  rw [h] at hk
  cases b
  · cases hk
  · cases hk; exact hm
theorem nil_beq (s : ByteArray) : (s.toList == (ByteArray.mk #[]).toList) = s.toList.isEmpty := by
  rw [show (ByteArray.mk #[]).toList = [] by rw [ByteArray.toList_eq]]
  cases s.toList <;> rfl
theorem parts_k0 {c : NodeC} (h : c.kind = 0) : partsZ c = if (nameZ c.name && emptyZ c.neg c.n c.d && c.a == 0 && c.b == 0 && c.e == 0) = true then some 0 else none := by unfold partsZ; rw [if_pos h]; rfl
theorem parts_k1 {c : NodeC} (h : c.kind = 1) : partsZ c = if (c.name.toList.isEmpty && (constOK c.neg c.n c.d && !c.neg) && c.a == 0 && c.b == 0 && c.e == 0) = true then some 0 else none := by unfold partsZ; rw [if_neg (by omega), if_pos h]; rfl
theorem parts_k2 {c : NodeC} (h : 2 ≤ c.kind ∧ c.kind ≤ 5) : partsZ c = if (c.name.toList.isEmpty && emptyZ c.neg c.n c.d && c.e == 0) = true then some 2 else none := by unfold partsZ; rw [if_neg (by omega), if_neg (by omega), if_pos h]; rfl
theorem parts_k6 {c : NodeC} (h : c.kind = 6) : partsZ c = if (c.name.toList.isEmpty && emptyZ c.neg c.n c.d && c.b == 0 && c.e == 0) = true then some 1 else none := by unfold partsZ; rw [if_neg (by omega), if_neg (by omega), if_neg (by omega), if_pos h]; rfl
theorem parts_k7 {c : NodeC} (h : c.kind = 7) : partsZ c = if (c.name.toList.isEmpty && emptyZ c.neg c.n c.d && c.b == 0 && decide (c.e ≥ -20) && decide (c.e ≤ 20)) = true then some 1 else none := by unfold partsZ; rw [if_neg (by omega), if_neg (by omega), if_neg (by omega), if_neg (by omega), if_pos h]; rfl
theorem parts_kn {c : NodeC} (h : c.kind < 0 ∨ 7 < c.kind) : partsZ c = none := by unfold partsZ; rw [if_neg (by omega), if_neg (by omega), if_neg (by omega), if_neg (by omega), if_neg (by omega)]
theorem trParts_any (o : NodeV) {I : Hp} (ho : o.ok I) (hf : o.c.few 100000) : Fun Tryz.prog 118 [.agg o.cells.toArray] I [] (fun v _ _ => partsR o.c v) := by
  have ha := ho.1
  have hb := ho.2
  have hb1 := ha.cells1
  have hb2 := hb.cells1
  obtain ⟨⟨kind, a, b, e, name, neg, n, d⟩, vn, vd⟩ := o
  change Ws I vn n at ha
  change Ws I vd d at hb
  unfold NodeV.cells
  intro w hw
  refine enter1 _ Tryz.func118 rfl Tryz.ntmps118 rfl ?_ hw;refine sR ?_;refine o_box trivial rfl rfl rfl (fun b1 => ?_);iterate 2 refine oV ?_
  refine nS ?_;refine oF 4 Tryz.underlying44 Tryz.sizeOf9 ?_;refine oL Tryz.isAgg9 ?_;refine oV ?_;refine' o_and trivial trivial rfl rfl rfl rfl rfl rfl rfl rfl (fun hb8 => ?_) ?_;rotate_left
  ·
   have fb8 := hb8
   try simp only [bl] at fb8
   refine gF hb8 5 Tryz.underlying44 Tryz.sizeOf42 ?_;refine o_loadA (wS rfl rfl hb8) rfl Tryz.isAgg42 Tryz.sizeOf42 rfl (by repeat constructor) (by repeat constructor) ?_;refine o_callQ (wS rfl rfl hb8) rfl Tryz.call140 rfl (trEmpty_any neg vn vd n d ha hb) ?_;refine oN ?_;exact joins rfl
  refine oV ?_;refine nU ?_;refine oF 0 Tryz.underlying44 Tryz.sizeOf3 ?_;refine oL Tryz.isAgg3 ?_;refine oN (tC (cB (sR ?_)));iterate 2 refine oV ?_
  refine nT ?_;refine cC rfl (fun h1 => ?_) (fun h1 => ?_)
  ·
   have f1 := h1;try simp only [bl] at f1
   refine cS ?_;refine c_quiet (by kernel_rfl) (by kernel_rfl) (fun _ h => h.drawn) ?_;refine oF 4 Tryz.underlying44 Tryz.sizeOf9 ?_;refine oL Tryz.isAgg9 ?_;refine oQ Tryz.call33 rfl (name_all _) ?_;refine' o_and trivial trivial rfl rfl rfl rfl rfl rfl rfl rfl (fun hb20 => ?_) ?_;rotate_left
   ·
    have fb20 := hb20
    try simp only [bl] at fb20
    refine gF hb20 5 Tryz.underlying44 Tryz.sizeOf42 ?_;refine o_loadA (wS rfl rfl hb20) rfl Tryz.isAgg42 Tryz.sizeOf42 rfl (by repeat constructor) (by repeat constructor) ?_;refine o_callQ (wS rfl rfl hb20) rfl Tryz.call140 rfl (trEmpty_any neg vn vd n d ha hb) ?_;refine oN ?_;exact joins rfl
   refine' o_and trivial trivial rfl rfl rfl rfl rfl rfl rfl rfl (fun hb25 => ?_) ?_;rotate_left
   ·
    have fb25 := hb25
    try simp only [bl] at fb25
    refine gF hb25 1 Tryz.underlying44 Tryz.sizeOf3 ?_;refine gL hb25 Tryz.isAgg3 ?_;refine gV hb25 ?_;refine oN ?_;exact joins rfl
   refine' o_and trivial trivial rfl rfl rfl rfl rfl rfl rfl rfl (fun hb30 => ?_) ?_;rotate_left
   ·
    have fb30 := hb30
    try simp only [bl] at fb30
    refine gF hb30 2 Tryz.underlying44 Tryz.sizeOf3 ?_;refine gL hb30 Tryz.isAgg3 ?_;refine gV hb30 ?_;refine oN ?_;exact joins rfl
   refine' o_and trivial trivial rfl rfl rfl rfl rfl rfl rfl rfl (fun hb35 => ?_) ?_;rotate_left
   ·
    have fb35 := hb35
    try simp only [bl] at fb35
    refine gF hb35 3 Tryz.underlying44 Tryz.sizeOf3 ?_;refine gL hb35 Tryz.isAgg3 ?_;refine gV hb35 ?_;refine oN ?_;exact joins rfl
   iterate 2 refine oV ?_
   refine oN (tC (cT (blk_r (tR ?_))));refine ret2 rfl rfl rfl ?_;refine leaf0 (partsR_of 0 rfl ?_); rw [parts_k0 (show kind = 0 by omega)]; try rfl
  have f1 := h1;try simp only [bl] at f1
  refine sR ?_;iterate 2 refine oV ?_
  refine nT ?_;refine cC rfl (fun h2 => ?_) (fun h2 => ?_)
  ·
   have f2 := h2;try simp only [bl] at f2
   refine cS ?_;refine c_quiet (by kernel_rfl) (by kernel_rfl) (fun _ h => h.drawn) ?_;refine oF 4 Tryz.underlying44 Tryz.sizeOf9 ?_;refine oL Tryz.isAgg9 ?_;refine oV ?_;refine' o_and trivial trivial rfl rfl rfl rfl rfl rfl rfl rfl (fun hb45 => ?_) ?_;rotate_left
   ·
    have fb45 := hb45
    try simp only [bl] at fb45
    refine gF hb45 5 Tryz.underlying44 Tryz.sizeOf42 ?_;refine o_loadA (wS rfl rfl hb45) rfl Tryz.isAgg42 Tryz.sizeOf42 rfl (by repeat constructor) (by repeat constructor) ?_;refine o_callQ (wS rfl rfl hb45) rfl Tryz.call141 rfl (trConst_any neg vn vd n d ha hb hf.1 hf.2) ?_;refine oN ?_;exact joins rfl
   refine' o_and trivial trivial rfl rfl rfl rfl rfl rfl rfl rfl (fun hb50 => ?_) ?_;rotate_left
   ·
    have fb50 := hb50
    try simp only [bl] at fb50
    refine gF hb50 1 Tryz.underlying44 Tryz.sizeOf3 ?_;refine gL hb50 Tryz.isAgg3 ?_;refine gV hb50 ?_;refine oN ?_;exact joins rfl
   refine' o_and trivial trivial rfl rfl rfl rfl rfl rfl rfl rfl (fun hb55 => ?_) ?_;rotate_left
   ·
    have fb55 := hb55
    try simp only [bl] at fb55
    refine gF hb55 2 Tryz.underlying44 Tryz.sizeOf3 ?_;refine gL hb55 Tryz.isAgg3 ?_;refine gV hb55 ?_;refine oN ?_;exact joins rfl
   refine' o_and trivial trivial rfl rfl rfl rfl rfl rfl rfl rfl (fun hb60 => ?_) ?_;rotate_left
   ·
    have fb60 := hb60
    try simp only [bl] at fb60
    refine gF hb60 3 Tryz.underlying44 Tryz.sizeOf3 ?_;refine gL hb60 Tryz.isAgg3 ?_;refine gV hb60 ?_;refine oN ?_;exact joins rfl
   iterate 2 refine oV ?_
   refine oN (tC (cT (blk_r (tR ?_))));refine ret2 rfl rfl rfl ?_;refine leaf0 (partsR_of 0 rfl ?_); rw [parts_k1 (show kind = 1 by omega), nil_beq]; try rfl
  have f2 := h2;try simp only [bl] at f2
  refine c_cut (ι := Bool) [1, 4, 14] (.cons rfl (.cons rfl (.cons rfl .nil))) (fun z E0 => (65, .bool z) :: E0) (fun z => St w [] I [.box b1 (.cells [.int .i64 kind, .int .i64 a, .int .i64 b, .int .i64 e, .string name, .bool neg, vn, vd].toArray 44 (0, 0))]) (fun z => (z = true ↔ 2 ≤ kind ∧ kind ≤ 5)) ?_ ?_
  ·
   refine sR ?_;iterate 2 refine oV ?_
   refine nT ?_;refine cC rfl (fun h3 => ?_) (fun h3 => ?_)
   ·
    have f3 := h3;try simp only [bl] at f3
    refine cK ?_
    first | exact meet (decide (kind = 2)) (sC rfl (sC rfl (sC rfl (sC rfl sN)))) (fun _ h => h) (by simp only [decide_eq_true_eq]; omega) | exact meet (decide (kind = 3)) (sC rfl (sC rfl (sC rfl (sC rfl sN)))) (fun _ h => h) (by simp only [decide_eq_true_eq]; omega) | exact meet (decide (kind = 4)) (sC rfl (sC rfl (sC rfl (sC rfl sN)))) (fun _ h => h) (by simp only [decide_eq_true_eq]; omega) | exact meet (decide (kind = 5)) (sC rfl (sC rfl (sC rfl (sC rfl sN)))) (fun _ h => h) (by simp only [decide_eq_true_eq]; omega)
   have f3 := h3;try simp only [bl] at f3
   refine sR ?_;iterate 2 refine oV ?_
   refine nT ?_;refine cC rfl (fun h4 => ?_) (fun h4 => ?_)
   ·
    have f4 := h4;try simp only [bl] at f4
    refine cK ?_
    first | exact meet (decide (kind = 2)) (sC rfl (sC rfl (sC rfl (sC rfl sN)))) (fun _ h => h) (by simp only [decide_eq_true_eq]; omega) | exact meet (decide (kind = 3)) (sC rfl (sC rfl (sC rfl (sC rfl sN)))) (fun _ h => h) (by simp only [decide_eq_true_eq]; omega) | exact meet (decide (kind = 4)) (sC rfl (sC rfl (sC rfl (sC rfl sN)))) (fun _ h => h) (by simp only [decide_eq_true_eq]; omega) | exact meet (decide (kind = 5)) (sC rfl (sC rfl (sC rfl (sC rfl sN)))) (fun _ h => h) (by simp only [decide_eq_true_eq]; omega)
   have f4 := h4;try simp only [bl] at f4
   refine sR ?_;iterate 2 refine oV ?_
   refine nT ?_;refine cC rfl (fun h5 => ?_) (fun h5 => ?_)
   ·
    have f5 := h5;try simp only [bl] at f5
    refine cK ?_
    first | exact meet (decide (kind = 2)) (sC rfl (sC rfl (sC rfl (sC rfl sN)))) (fun _ h => h) (by simp only [decide_eq_true_eq]; omega) | exact meet (decide (kind = 3)) (sC rfl (sC rfl (sC rfl (sC rfl sN)))) (fun _ h => h) (by simp only [decide_eq_true_eq]; omega) | exact meet (decide (kind = 4)) (sC rfl (sC rfl (sC rfl (sC rfl sN)))) (fun _ h => h) (by simp only [decide_eq_true_eq]; omega) | exact meet (decide (kind = 5)) (sC rfl (sC rfl (sC rfl (sC rfl sN)))) (fun _ h => h) (by simp only [decide_eq_true_eq]; omega)
   have f5 := h5;try simp only [bl] at f5
   refine cR ?_;iterate 2 refine oV ?_
   refine oN ?_
   first | exact meet (decide (kind = 2)) (sC rfl (sC rfl (sC rfl (sC rfl sN)))) (fun _ h => h) (by simp only [decide_eq_true_eq]; omega) | exact meet (decide (kind = 3)) (sC rfl (sC rfl (sC rfl (sC rfl sN)))) (fun _ h => h) (by simp only [decide_eq_true_eq]; omega) | exact meet (decide (kind = 4)) (sC rfl (sC rfl (sC rfl (sC rfl sN)))) (fun _ h => h) (by simp only [decide_eq_true_eq]; omega) | exact meet (decide (kind = 5)) (sC rfl (sC rfl (sC rfl (sC rfl sN)))) (fun _ h => h) (by simp only [decide_eq_true_eq]; omega)
  rintro z hz
  try dsimp only
  refine cC rfl (fun h6 => ?_) (fun h6 => ?_)
  ·
   have f6 := h6;try simp only [bl] at f6
   have hk := hz.1 (by simpa using h6)
   refine cS ?_;refine c_quiet (by kernel_rfl) (by kernel_rfl) (fun _ h => h.drawn) ?_;refine oV ?_;refine' o_and trivial trivial rfl rfl rfl rfl rfl rfl rfl rfl (fun hb71 => ?_) ?_;rotate_left
   ·
    have fb71 := hb71
    try simp only [bl] at fb71
    refine gF hb71 3 Tryz.underlying44 Tryz.sizeOf3 ?_;refine gL hb71 Tryz.isAgg3 ?_;refine gV hb71 ?_;refine oN ?_;exact joins rfl
   iterate 2 refine oV ?_
   refine oN (tC (cT (blk_r (tR ?_))));refine ret2 rfl rfl rfl ?_
   first
   | (exfalso; omega)
   | (refine leaf0 (partsR_of 0 rfl ?_); rw [parts_k0 (show kind = 0 by omega)]; try rfl)
   | (refine leaf0 (partsR_of 0 rfl ?_); rw [parts_k1 (show kind = 1 by omega), nil_beq]; try rfl)
   | (refine leaf0 (partsR_of 2 rfl ?_); rw [parts_k2 (show 2 ≤ kind ∧ kind ≤ 5 by omega), nil_beq]; try rfl)
   | (refine leaf0 (partsR_of 1 rfl ?_); rw [parts_k6 (show kind = 6 by omega), nil_beq]; try rfl)
   | (refine leaf0 (partsR_of 1 rfl ?_); rw [parts_k7 (show kind = 7 by omega), nil_beq]; try rfl)
   | (refine leaf0 (partsR_of 0 rfl ?_); rw [parts_kn (show kind < 0 ∨ 7 < kind by omega)]; try rfl)
  have f6 := h6;try simp only [bl] at f6
  have hk : ¬ (2 ≤ kind ∧ kind ≤ 5) := fun h => by simp [hz.2 h] at h6
  refine sR ?_;iterate 2 refine oV ?_
  refine nT ?_;refine cC rfl (fun h7 => ?_) (fun h7 => ?_)
  ·
   have f7 := h7;try simp only [bl] at f7
   refine cS ?_;refine c_quiet (by kernel_rfl) (by kernel_rfl) (fun _ h => h.drawn) ?_;refine oV ?_;refine' o_and trivial trivial rfl rfl rfl rfl rfl rfl rfl rfl (fun hb79 => ?_) ?_;rotate_left
   ·
    have fb79 := hb79
    try simp only [bl] at fb79
    refine gF hb79 2 Tryz.underlying44 Tryz.sizeOf3 ?_;refine gL hb79 Tryz.isAgg3 ?_;refine gV hb79 ?_;refine oN ?_;exact joins rfl
   refine' o_and trivial trivial rfl rfl rfl rfl rfl rfl rfl rfl (fun hb84 => ?_) ?_;rotate_left
   ·
    have fb84 := hb84
    try simp only [bl] at fb84
    refine gF hb84 3 Tryz.underlying44 Tryz.sizeOf3 ?_;refine gL hb84 Tryz.isAgg3 ?_;refine gV hb84 ?_;refine oN ?_;exact joins rfl
   iterate 2 refine oV ?_
   refine oN (tC (cT (blk_r (tR ?_))));refine ret2 rfl rfl rfl ?_
   first
   | (exfalso; omega)
   | (refine leaf0 (partsR_of 0 rfl ?_); rw [parts_k0 (show kind = 0 by omega)]; try rfl)
   | (refine leaf0 (partsR_of 0 rfl ?_); rw [parts_k1 (show kind = 1 by omega), nil_beq]; try rfl)
   | (refine leaf0 (partsR_of 2 rfl ?_); rw [parts_k2 (show 2 ≤ kind ∧ kind ≤ 5 by omega), nil_beq]; try rfl)
   | (refine leaf0 (partsR_of 1 rfl ?_); rw [parts_k6 (show kind = 6 by omega), nil_beq]; try rfl)
   | (refine leaf0 (partsR_of 1 rfl ?_); rw [parts_k7 (show kind = 7 by omega), nil_beq]; try rfl)
   | (refine leaf0 (partsR_of 0 rfl ?_); rw [parts_kn (show kind < 0 ∨ 7 < kind by omega)]; try rfl)
  have f7 := h7;try simp only [bl] at f7
  refine sR ?_;iterate 2 refine oV ?_
  refine nT ?_;refine cC rfl (fun h8 => ?_) (fun h8 => ?_)
  ·
   have f8 := h8;try simp only [bl] at f8
   refine cS ?_;refine c_quiet (by kernel_rfl) (by kernel_rfl) (fun _ h => h.drawn) ?_;refine oV ?_;refine' o_and trivial trivial rfl rfl rfl rfl rfl rfl rfl rfl (fun hb92 => ?_) ?_;rotate_left
   ·
    have fb92 := hb92
    try simp only [bl] at fb92
    refine gF hb92 2 Tryz.underlying44 Tryz.sizeOf3 ?_;refine gL hb92 Tryz.isAgg3 ?_;refine gV hb92 ?_;refine oN ?_;exact joins rfl
   refine' o_and trivial trivial rfl rfl rfl rfl rfl rfl rfl rfl (fun hb97 => ?_) ?_;rotate_left
   ·
    have fb97 := hb97
    try simp only [bl] at fb97
    refine gF hb97 3 Tryz.underlying44 Tryz.sizeOf3 ?_;refine gL hb97 Tryz.isAgg3 ?_;refine gV hb97 ?_;refine oN ?_;exact joins rfl
   refine' o_and trivial trivial rfl rfl rfl rfl rfl rfl rfl rfl (fun hb102 => ?_) ?_;rotate_left
   ·
    have fb102 := hb102
    try simp only [bl] at fb102
    refine gF hb102 3 Tryz.underlying44 Tryz.sizeOf3 ?_;refine gL hb102 Tryz.isAgg3 ?_;refine gV hb102 ?_;refine oN ?_;exact joins rfl
   iterate 2 refine oV ?_
   refine oN (tC (cT (blk_r (tR ?_))));refine ret2 rfl rfl rfl ?_
   first
   | (exfalso; omega)
   | (refine leaf0 (partsR_of 0 rfl ?_); rw [parts_k0 (show kind = 0 by omega)]; try rfl)
   | (refine leaf0 (partsR_of 0 rfl ?_); rw [parts_k1 (show kind = 1 by omega), nil_beq]; try rfl)
   | (refine leaf0 (partsR_of 2 rfl ?_); rw [parts_k2 (show 2 ≤ kind ∧ kind ≤ 5 by omega), nil_beq]; try rfl)
   | (refine leaf0 (partsR_of 1 rfl ?_); rw [parts_k6 (show kind = 6 by omega), nil_beq]; try rfl)
   | (refine leaf0 (partsR_of 1 rfl ?_); rw [parts_k7 (show kind = 7 by omega), nil_beq]; try rfl)
   | (refine leaf0 (partsR_of 0 rfl ?_); rw [parts_kn (show kind < 0 ∨ 7 < kind by omega)]; try rfl)
  have f8 := h8;try simp only [bl] at f8
  refine cK (blk_n (tC (sR ?_)));iterate 2 refine oV ?_
  refine nE ?_;refine ret2 rfl rfl rfl ?_
  first
  | (exfalso; omega)
  | (refine leaf0 (partsR_of 0 rfl ?_); rw [parts_k0 (show kind = 0 by omega)]; try rfl)
  | (refine leaf0 (partsR_of 0 rfl ?_); rw [parts_k1 (show kind = 1 by omega), nil_beq]; try rfl)
  | (refine leaf0 (partsR_of 2 rfl ?_); rw [parts_k2 (show 2 ≤ kind ∧ kind ≤ 5 by omega), nil_beq]; try rfl)
  | (refine leaf0 (partsR_of 1 rfl ?_); rw [parts_k6 (show kind = 6 by omega), nil_beq]; try rfl)
  | (refine leaf0 (partsR_of 1 rfl ?_); rw [parts_k7 (show kind = 7 by omega), nil_beq]; try rfl)
  | (refine leaf0 (partsR_of 0 rfl ?_); rw [parts_kn (show kind < 0 ∨ 7 < kind by omega)]; try rfl)
def nss (S : List Nat) : List (List Value) := S.map fun (x : Nat) => [Value.int .i64 (x : Int)]
theorem nss_len (S : List Nat) : (nss S).length = S.length := by simp [nss]
theorem nss_flat (S : List Nat) : (nss S).flatten = nvs S := nvs_flat S
theorem nss_plain (S : List Nat) : ∀ c ∈ nss S, plain1 c = true := by
  intro c hc
  obtain ⟨x, _, rfl⟩ := List.mem_map.1 hc
  rfl
theorem nss_one (S : List Nat) : ∀ c ∈ nss S, c.length = 1 := by
  intro c hc
  obtain ⟨x, _, rfl⟩ := List.mem_map.1 hc
  rfl
theorem nss_at {I : Hp} {v : Value} {l : List Nat} (h : Slc I 1 v (nss l)) {i : Nat} {z : Nat} (hz : l[i]? = some z) : I.cell? ⟨slcB v, slcO v + i * 1, none⟩ = some (.int .i64 (z : Int)) :=
  h.cells i _ (by unfold nss; rw [List.getElem?_map, hz]; rfl) 0 _ rfl
theorem nds_at {I : Hp} {v : Value} {ns : List NodeV} (h : Slc I 8 v (nds ns)) {i : Nat} {o : NodeV} (ho : ns[i]? = some o) : ∀ k y, o.cells[k]? = some y → I.cell? ⟨slcB v, slcO v + i * 8 + k, none⟩ = some y :=
  h.cells i _ (by unfold nds; rw [List.getElem?_map, ho]; rfl)
theorem nds_len (ns : List NodeV) : (nds ns).length = ns.length := by simp [nds]
def wantN (c : NodeC) (j : Nat) : Int := if j = 0 then c.a else c.b
theorem madeOk_iff {c : NodeC} {fr : Int} {made : List Nat} (hl : made.length ≤ 2) : madeOk c fr made = true ↔ ∀ (j x : Nat), made[j]? = some x → wantN c j = (x : Int) + fr := by
  match made, hl with
  | [], _ => simp [madeOk]
  | [x], _ =>
    simp only [madeOk, decide_eq_true_eq]
    constructor
    · intro h j y hj
      cases j with
      | zero => simp at hj; subst hj; exact h
      | succ j => simp at hj
    · intro h; exact h 0 x rfl
  | [x, y], _ =>
    simp only [madeOk, Bool.and_eq_true, decide_eq_true_eq]
    constructor
    · rintro ⟨h1, h2⟩ j z hj
      match j with
      | 0 => simp at hj; subst hj; exact h1
      | 1 => simp at hj; subst hj; exact h2
      | j + 2 => simp at hj
    · intro h; exact ⟨h 0 x rfl, h 1 y rfl⟩
  | _ :: _ :: _ :: _, hl => simp at hl
theorem hOf_more (out : List Nat) {made : List Nat} {j x : Nat} (h : made[j]? = some x) : hOf out (made.take (j + 1)) = max (hOf out (made.take j)) (out.getD x 0) := by
  unfold hOf
  rw [List.take_add_one, h, List.map_append, List.foldl_append]
  rfl
theorem runH_stop {fr : Int} {l : List NodeC} {i : Nat} {c : NodeC} {st : List Nat × List Nat} (hi : l[i]? = some c) (h : runH fr (l.take i) ([], []) = some st) (hs : stepH fr st c = none) : runH fr l ([], []) = none := by
  have e : l = l.take i ++ c :: l.drop (i + 1) := by
    have hlt := (List.getElem?_eq_some_iff.1 hi).1
    have h2 := (List.getElem?_eq_some_iff.1 hi).2
    conv => lhs; rw [← List.take_append_drop i l, List.drop_eq_getElem_cons hlt, h2]
  rw [e, runH_app, h]
  show (stepH fr st c).bind _ = none
  rw [hs]; rfl
theorem runH_next {fr : Int} {l : List NodeC} {i : Nat} {c : NodeC} {st st' : List Nat × List Nat} (hi : l[i]? = some c) (h : runH fr (l.take i) ([], []) = some st) (hs : stepH fr st c = some st') : runH fr (l.take (i + 1)) ([], []) = some st' := by
  rw [List.take_add_one, hi, runH_app, h]
  show (stepH fr st c).bind _ = _
  rw [hs]; rfl
theorem hZ_none {l : List NodeC} {b : Nat} (h : runH (b : Int) l ([], []) = none) : hZ l b = none := by unfold hZ; rw [h]
theorem hZ_of {l : List NodeC} {b : Nat} {out S : List Nat} (h : runH (b : Int) l ([], []) = some (out, S)) : hZ l b = if S.length = 1 then some out else none := by
  unfold hZ
  rw [h]
  match S with
  | [] => rfl
  | [x] => rfl
  | x :: y :: S => rw [if_neg (by simp)]
def hRes (o : Option (List Nat)) (v : Value) (I' : Hp) : Prop := ∃ u, v = .tuple #[u, .bool o.isSome] ∧ ∀ hs, o = some hs → Slc I' 1 u (nss hs)
theorem hRes_none {o : Option (List Nat)} {u : Value} {I' : Hp} (h : o = none) : hRes o (.tuple #[u, .bool false]) I' := ⟨u, by rw [h]; rfl, fun hs e => by rw [h] at e; cases e⟩
theorem hRes_last {o : Option (List Nat)} {out : List Nat} {c : Prop} [Decidable c] {b : Bool} {u : Value} {I' : Hp} (h : o = if c then some out else none) (hb : b = decide c) (hs : Slc I' 1 u (nss out)) : hRes o (.tuple #[u, .bool b]) I' := by
  refine ⟨u, ?_, fun l e => ?_⟩
  · rw [h, hb]; by_cases hc : c <;> simp [hc]
  · rw [h] at e
    split at e
    · cases e; exact hs
    · cases e
theorem heights_any (va : Value) (ns : List NodeV) (fr : Nat) {I : Hp} (hsa : Slc I 8 va (nds ns)) (hok : ∀ o ∈ ns, o.ok I) (hf : ∀ o ∈ ns, o.c.few 100000) (hn : ns.length ≤ 100000) (hfr : fr ≤ 100000) :
    Fun Tryz.prog 86 [va, .int .i64 (fr : Int)] I [] (fun v I' _ => hRes (hZ (ns.map NodeV.c) fr) v I') := by
  have hln := nds_len ns
  intro w hw
  refine enter2 _ Tryz.func86 rfl Tryz.ntmps86 rfl ?_ hw;refine sR ?_;iterate 2 refine oV ?_
  refine nS ?_;iterate 2 refine oV ?_
  refine nU ?_;refine oV ?_;refine o_lenSlc trivial rfl Tryz.underlying25 rfl (hsa) ?_;refine oV ?_;refine oN (tC (cB ?_));refine c_loop (ι := Nat × List Nat × List Nat × Value × Value × Hp) [1, 17, 18] (.cons rfl (.cons rfl (.cons rfl .nil))) (fun x => ns.length - x.1) (fun x E0 => (6, x.2.2.2.1) :: (7, x.2.2.2.2.1) :: (19, .int .i64 (x.1 : Int)) :: E0) (fun x => St w [] x.2.2.2.2.2 [.row x.2.2.2.1 3 1 x.2.1.length (nvs x.2.1)]) (fun x => x.1 ≤ ns.length ∧ x.2.1.length = x.1 ∧ runH (fr : Int) ((ns.map NodeV.c).take x.1) ([], []) = some (x.2.1, x.2.2.1) ∧ Slc x.2.2.2.2.2 1 x.2.2.2.2.1 (nss x.2.2.1) ∧ (∀ k ∈ x.2.2.1, k < x.1) ∧ (∀ k ∈ x.2.1, k ≤ x.1) ∧ x.2.2.1.length ≤ x.1 ∧ Ext w.heap.size I x.2.2.2.2.2) ((0, [], [], .slice none 0 0, .slice none 0 0, I)) (sC rfl (sC rfl (sC rfl (sC rfl (sC rfl (sC rfl sN)))))) (fun _ h => h.nilRow _ _) (⟨Nat.zero_le _, rfl, rfl, Slc.nil _ _, fun k hk => (by cases hk), fun k hk => (by cases hk), Nat.le_refl _, Ext.refl _ _⟩) ?_;rintro ⟨i, out, S, uo, us, I1⟩ ⟨hi, hol, hrun, hS, hSl, hoh, hSn, hx1⟩
  try dsimp only
  simp only at hi hol hrun hS hSl hoh hSn hx1; have hsl := nss_len S
  refine sR ?_;refine oV ?_;refine oN (tC (cS ?_));refine cC rfl (fun h1 => ?_) (fun h1 => ?_)
  ·
   have f1 := h1;try simp only [bl] at f1
   obtain ⟨o, ho⟩ : ∃ o, ns[i]? = some o := ⟨ns[i]'(by omega), List.getElem?_eq_getElem (by omega)⟩
   have hoc : (ns.map NodeV.c)[i]? = some o.c := by rw [List.getElem?_map, ho]; rfl
   have hom := List.mem_of_getElem? ho
   have hoo := (hok o hom).le hx1.le
   have hw1 : Ws I1 o.vn o.c.n := hoo.1
   have hw2 : Ws I1 o.vd o.c.d := hoo.2
   refine cK (tC (cS (cB (sR ?_))));refine oV ?_;refine o_elem trivial rfl Tryz.underlying25 Tryz.sizeOf44 rfl (hsa.le hx1.le) rfl (by omega) ?_;refine o_loadAI trivial rfl Tryz.isAgg44 Tryz.sizeOf44 rfl rfl (nds_at (hsa.le hx1.le) ho) ?_;refine o_alloc trivial rfl Tryz.zeroValue44 rfl (fun b9 => ?_);refine oV ?_;refine oS Tryz.sizeOf44 ?_;refine nS ?_;refine oA Tryz.isAgg44 Tryz.sizeOf44 ?_;refine o_call0 trivial rfl Tryz.call118 rfl (trParts_any o hoo (hf o hom)) ?_;rintro _ ⟨m, rfl, hm⟩;iterate 5 refine oV ?_
   refine nU ?_;iterate 2 refine oV ?_
   refine' o_or trivial trivial rfl rfl rfl rfl rfl rfl rfl rfl (fun hb31 => ?_) ?_;rotate_left
   ·
    have fb31 := hb31
    try simp only [bl] at fb31
    refine gV hb31 ?_;refine o_lenSlc (wS rfl rfl hb31) rfl Tryz.underlying37 rfl (hS) ?_;iterate 2 refine gV hb31 ?_
    refine oN ?_;exact joins rfl
   refine nT ?_;refine cC rfl (fun h2 => ?_) (fun h2 => ?_)
   ·
    have f2 := h2;try simp only [bl] at f2
    have hno : hZ (ns.map NodeV.c) fr = none := by
      refine hZ_none (runH_stop hoc hrun ?_)
      unfold stepH
      cases hp : partsZ o.c with
      | none => rfl
      | some k =>
        have := hm k hp
        have h2' := h2
        rw [hp] at h2'
        simp at h2'
        dsimp only
        rw [if_neg (fun hh => by have := hh.1; omega)]
    refine sR ?_;iterate 2 refine oV ?_
    refine oN (tC (cT (tR (blk_r (tR (tR (blk_r (tR ?_))))))));refine ret2 rfl rfl rfl ?_;exact leaf hx1 (List.nil_sublist _) (hRes_none hno)
   have f2 := h2;try simp only [bl] at f2
   obtain ⟨k, hk⟩ := Option.isSome_iff_exists.1 f2.1
   have hmk := hm k hk
   subst hmk
   have hk2 := parts_le hk
   have hkl : k ≤ S.length := by have := f2.2; omega
   have hcutA := hS.cut (lo := (((nss S).length : Int) - (k : Int)).toNat) (hi := (nss S).length) (by omega) (Nat.le_refl _)
   rw [List.take_length] at hcutA
   have hmd : (nss S).drop (((nss S).length : Int) - (k : Int)).toNat = nss (S.drop (S.length - k)) := by unfold nss; rw [List.map_drop, List.length_map]; congr 1; omega
   rw [hmd] at hcutA
   have hcutB := hS.cut (lo := 0) (hi := (((nss S).length : Int) - (k : Int)).toNat) (by omega) (by omega)
   have hmt : (nss S).take (((nss S).length : Int) - (k : Int)).toNat = nss (S.take (S.length - k)) := by unfold nss; rw [List.map_take, List.length_map]; congr 1; omega
   rw [List.drop_zero, hmt] at hcutB
   have hmsub : ∀ x ∈ S.drop (S.length - k), x < i := fun x hx => hSl x (List.mem_of_mem_drop hx)
   have hml : (S.drop (S.length - k)).length = k := by rw [List.length_drop]; omega
   have hstep : stepH (fr : Int) (out, S) o.c = if madeOk o.c fr (S.drop (S.length - k)) = true then some (out ++ [hOf out (S.drop (S.length - k)) + 1], S.take (S.length - k) ++ [out.length]) else none := by
     unfold stepH
     rw [hk]
     dsimp only
     by_cases hmo : madeOk o.c fr (S.drop (S.length - k)) = true
     · rw [if_pos ⟨hkl, hmo⟩, if_pos hmo]
     · rw [if_neg (fun hh => hmo hh.2), if_neg hmo]
   have htl : (S.take (S.length - k)).length = S.length - k := by rw [List.length_take]; omega
   have htm : ∀ x ∈ S.take (S.length - k), x < i := fun x hx => hSl x (List.mem_of_mem_take hx)
   generalize S.drop (S.length - k) = made at hcutA hmsub hml hstep
   generalize S.take (S.length - k) = S2 at hcutB hstep htl htm
   refine kS ?_;iterate 2 refine oV ?_
   refine o_lenSlc trivial rfl Tryz.underlying37 rfl (hS) ?_;refine oV ?_
   first | (refine o_sub trivial rfl rfl rfl ?_ ?_; (omega)) | refine oV ?_
   refine o_cutLo trivial rfl Tryz.underlying37 Tryz.sizeOf3 rfl (hS) rfl (by omega) ?_;refine oV ?_;refine nS ?_;iterate 2 refine oV ?_
   refine o_lenSlc trivial rfl Tryz.underlying37 rfl (hS) ?_;refine oV ?_
   first | (refine o_sub trivial rfl rfl rfl ?_ ?_; (omega)) | refine oV ?_
   refine o_cutHi trivial rfl Tryz.underlying37 Tryz.sizeOf3 rfl (hS) rfl (by omega) ?_;refine oV ?_;refine nS ?_;refine oV ?_;refine nU ?_;refine oV ?_;refine o_lenSlc trivial rfl Tryz.underlying37 rfl (hcutA) ?_;refine oV ?_;refine oN (tC (cB ?_));refine c_loop (ι := Nat × Nat) [1, 6, 7, 8, 9, 17, 18, 19, 49, 50] (.cons rfl (.cons rfl (.cons rfl (.cons rfl (.cons rfl (.cons rfl (.cons rfl (.cons rfl (.cons rfl (.cons rfl .nil)))))))))) (fun x => made.length - x.1) (fun x E0 => (13, .int .i64 (x.2 : Int)) :: (51, .int .i64 (x.1 : Int)) :: E0) (fun x => St w [] I1 [.row uo 3 1 out.length (nvs out), .box b9 (.cells o.cells.toArray 44 (0, 0))]) (fun x => x.1 ≤ made.length ∧ x.2 = hOf out (made.take x.1) ∧ x.2 ≤ i ∧ ∀ j y, j < x.1 → made[j]? = some y → wantN o.c j = y + (fr : Int)) ((0, 0)) (sC rfl (sC rfl (sC rfl (sC rfl (sC rfl (sC rfl (sC rfl (sC rfl (sC rfl (sC rfl (sC rfl (sC rfl sN)))))))))))) (fun _ h => h.sort (by repeat constructor)) (⟨Nat.zero_le _, rfl, Nat.zero_le _, fun j y hj => absurd hj (Nat.not_lt_zero _)⟩) ?_;rintro ⟨j, h⟩ ⟨hj, hh, hhi, hpre⟩
   try dsimp only
   simp only at hj hh hhi hpre; have hml2 := nss_len made
   refine sR ?_;refine oV ?_;refine oN (tC (cS ?_));refine cC rfl (fun h3 => ?_) (fun h3 => ?_)
   ·
    have f3 := h3;try simp only [bl] at f3
    obtain ⟨y, hy⟩ : ∃ y, made[j]? = some y := ⟨made[j]'(by omega), List.getElem?_eq_getElem (by omega)⟩
    have hyi := hmsub y (List.mem_of_getElem? hy)
    refine cK (tC (cS (cB (sR ?_))));refine oV ?_;refine o_elem trivial rfl Tryz.underlying37 Tryz.sizeOf3 rfl (hcutA) rfl (by omega) ?_;refine o_load1I trivial rfl Tryz.isAgg3 rfl (nss_at hcutA hy) ?_;iterate 2 refine oV ?_
    refine oN (tC (cS (cS ?_)))
    rcases (show j = 0 ∨ j = 1 by omega) with rfl | rfl
    ·
     refine cR ?_;refine oF 1 Tryz.underlying44 Tryz.sizeOf3 ?_;refine oL Tryz.isAgg3 ?_;refine oF 2 Tryz.underlying44 Tryz.sizeOf3 ?_;refine oL Tryz.isAgg3 ?_;refine o_build (r := .agg #[.int .i64 o.c.a, .int .i64 o.c.b]) trivial rfl rfl (fun w => by kernel_rfl) ?_;refine oV ?_;refine o_indexA (r := .int .i64 o.c.a) trivial rfl rfl rfl (fun w => by kernel_rfl) ?_;refine oV ?_;refine nS ?_;iterate 3 refine oV ?_
     first | (refine o_add trivial rfl rfl rfl ?_ ?_; (omega)) | refine oV ?_
     refine oV ?_;refine nT ?_;refine cC rfl (fun h4 => ?_) (fun h4 => ?_)
     ·
      have f4 := h4;try simp only [bl] at f4
      have hno : hZ (ns.map NodeV.c) fr = none := by
        refine hZ_none (runH_stop hoc hrun ?_)
        rw [hstep, if_neg]
        intro hmo
        have hw := (madeOk_iff (by omega)).1 hmo _ _ hy
        exact f4 hw
      refine sR ?_;iterate 2 refine oV ?_
      refine oN (tC (cT (tR (blk_r (tR (tR (blk_r (tR (blk_r (tR (tR (blk_r (tR ?_)))))))))))));refine ret2 rfl rfl rfl ?_
      first
      | exact leaf hx1 (List.nil_sublist _) (hRes_none hno)
      | (have hin : i = ns.length := by omega
         subst hin
         rw [List.take_of_length_le (by rw [List.length_map]; exact Nat.le_refl _)] at hrun
         have hz := hZ_of hrun
         exact fun w' hw' => leafRowX (e := 3) (size := 1) (nn := out.length) (u := uo) (xss := nss out) (B := []) hx1 (nss_len _) (nss_one _) (by unfold maxLen; omega) (fun I' hl hs' => hRes_last hz (by rw [Bool.eq_iff_iff]; simp; omega) hs') w' (by rw [nss_flat]; exact hw'))
     have f4 := h4;try simp only [bl] at f4
     refine cK (tC (cR ?_));iterate 3 refine oV ?_
     refine o_elemRow trivial rfl Tryz.underlying37 Tryz.sizeOf3 rfl (by repeat constructor) rfl (by omega) ?_;refine o_loadRow1 trivial rfl Tryz.isAgg3 (by repeat constructor) rfl (by rw [show ((y : Nat) : Int).toNat * 1 = y by omega]; exact nvs_get (by omega)) ?_;refine o_max2 trivial rfl rfl rfl ?_;refine oV ?_;refine oN (blk_n (tC ?_))
     have hy0 := le_getD (k := i) hoh y
     rw [show max (h : Int) ((out.getD y 0 : Nat) : Int) = ((max h (out.getD y 0) : Nat) : Int) by omega]
     refine cR ?_
     first | (refine o_add trivial rfl rfl rfl ?_ ?_; (omega)) | refine oV ?_
     refine oV ?_;refine oN ?_
     first
     | exact again (0 + 1, max h (out.getD y 0)) (sC rfl (sC rfl (sC rfl (sC rfl (sC rfl (sC rfl (sC rfl (sC rfl (sC rfl (sC rfl (sC rfl (sC rfl sN)))))))))))) (fun _ h => h.sort (by repeat constructor)) (by show made.length - (0 + 1) < made.length - 0; omega) ⟨by show 0 + 1 ≤ _; omega, by rw [hOf_more out hy, ← hh], by simp only; omega, fun j' y' hj' hy' => by
         have e : j' = 0 := by simp only at hj'; omega
         subst e
         rw [hy] at hy'
         rw [← Option.some.inj hy']
         exact f4⟩
     | exact again (1 + 1, max h (out.getD y 0)) (sC rfl (sC rfl (sC rfl (sC rfl (sC rfl (sC rfl (sC rfl (sC rfl (sC rfl (sC rfl (sC rfl (sC rfl sN)))))))))))) (fun _ h => h.sort (by repeat constructor)) (by show made.length - (1 + 1) < made.length - 1; omega) ⟨by show 1 + 1 ≤ _; omega, by rw [hOf_more out hy, ← hh], by simp only; omega, fun j' y' hj' hy' => by
         rcases (by simp only at hj'; omega : j' < 1 ∨ j' = 1) with e | e
         · exact hpre j' y' e hy'
         · subst e
           rw [hy] at hy'
           rw [← Option.some.inj hy']
           exact f4⟩
    refine cR ?_;refine oF 1 Tryz.underlying44 Tryz.sizeOf3 ?_;refine oL Tryz.isAgg3 ?_;refine oF 2 Tryz.underlying44 Tryz.sizeOf3 ?_;refine oL Tryz.isAgg3 ?_;refine o_build (r := .agg #[.int .i64 o.c.a, .int .i64 o.c.b]) trivial rfl rfl (fun w => by kernel_rfl) ?_;refine oV ?_;refine o_indexA (r := .int .i64 o.c.b) trivial rfl rfl rfl (fun w => by kernel_rfl) ?_;refine oV ?_;refine nS ?_;iterate 3 refine oV ?_
    first | (refine o_add trivial rfl rfl rfl ?_ ?_; (omega)) | refine oV ?_
    refine oV ?_;refine nT ?_;refine cC rfl (fun h4 => ?_) (fun h4 => ?_)
    ·
     have f4 := h4;try simp only [bl] at f4
     have hno : hZ (ns.map NodeV.c) fr = none := by
       refine hZ_none (runH_stop hoc hrun ?_)
       rw [hstep, if_neg]
       intro hmo
       have hw := (madeOk_iff (by omega)).1 hmo _ _ hy
       exact f4 hw
     refine sR ?_;iterate 2 refine oV ?_
     refine oN (tC (cT (tR (blk_r (tR (tR (blk_r (tR (blk_r (tR (tR (blk_r (tR ?_)))))))))))));refine ret2 rfl rfl rfl ?_
     first
     | exact leaf hx1 (List.nil_sublist _) (hRes_none hno)
     | (have hin : i = ns.length := by omega
        subst hin
        rw [List.take_of_length_le (by rw [List.length_map]; exact Nat.le_refl _)] at hrun
        have hz := hZ_of hrun
        exact fun w' hw' => leafRowX (e := 3) (size := 1) (nn := out.length) (u := uo) (xss := nss out) (B := []) hx1 (nss_len _) (nss_one _) (by unfold maxLen; omega) (fun I' hl hs' => hRes_last hz (by rw [Bool.eq_iff_iff]; simp; omega) hs') w' (by rw [nss_flat]; exact hw'))
    have f4 := h4;try simp only [bl] at f4
    refine cK (tC (cR ?_));iterate 3 refine oV ?_
    refine o_elemRow trivial rfl Tryz.underlying37 Tryz.sizeOf3 rfl (by repeat constructor) rfl (by omega) ?_;refine o_loadRow1 trivial rfl Tryz.isAgg3 (by repeat constructor) rfl (by rw [show ((y : Nat) : Int).toNat * 1 = y by omega]; exact nvs_get (by omega)) ?_;refine o_max2 trivial rfl rfl rfl ?_;refine oV ?_;refine oN (blk_n (tC ?_))
    have hy0 := le_getD (k := i) hoh y
    rw [show max (h : Int) ((out.getD y 0 : Nat) : Int) = ((max h (out.getD y 0) : Nat) : Int) by omega]
    refine cR ?_
    first | (refine o_add trivial rfl rfl rfl ?_ ?_; (omega)) | refine oV ?_
    refine oV ?_;refine oN ?_
    first
    | exact again (0 + 1, max h (out.getD y 0)) (sC rfl (sC rfl (sC rfl (sC rfl (sC rfl (sC rfl (sC rfl (sC rfl (sC rfl (sC rfl (sC rfl (sC rfl sN)))))))))))) (fun _ h => h.sort (by repeat constructor)) (by show made.length - (0 + 1) < made.length - 0; omega) ⟨by show 0 + 1 ≤ _; omega, by rw [hOf_more out hy, ← hh], by simp only; omega, fun j' y' hj' hy' => by
        have e : j' = 0 := by simp only at hj'; omega
        subst e
        rw [hy] at hy'
        rw [← Option.some.inj hy']
        exact f4⟩
    | exact again (1 + 1, max h (out.getD y 0)) (sC rfl (sC rfl (sC rfl (sC rfl (sC rfl (sC rfl (sC rfl (sC rfl (sC rfl (sC rfl (sC rfl (sC rfl sN)))))))))))) (fun _ h => h.sort (by repeat constructor)) (by show made.length - (1 + 1) < made.length - 1; omega) ⟨by show 1 + 1 ≤ _; omega, by rw [hOf_more out hy, ← hh], by simp only; omega, fun j' y' hj' hy' => by
        rcases (by simp only at hj'; omega : j' < 1 ∨ j' = 1) with e | e
        · exact hpre j' y' e hy'
        · subst e
          rw [hy] at hy'
          rw [← Option.some.inj hy']
          exact f4⟩
   have f3 := h3;try simp only [bl] at f3
   refine c_exit (then_x (then_x (blk_eq rfl (tC (cS ?_)))))
   have hjm : j = made.length := by omega
   subst hjm
   rw [List.take_length] at hh
   have hmo : madeOk o.c fr made = true := (madeOk_iff (by omega)).2 fun j' y' hy' => hpre j' y' (List.getElem?_eq_some_iff.1 hy').1 hy'
   rw [if_pos hmo, ← hh] at hstep
   have hnx := runH_next hoc hrun hstep
   have hs2l := nss_len S2
   refine cR ?_;iterate 2 refine oV ?_
   first | (refine o_add trivial rfl rfl rfl ?_ ?_; (omega)) | refine oV ?_
   refine oB Tryz.underlying37 Tryz.sizeOf3 Tryz.zeroValue3 fun b78 => ?_;refine oD Tryz.underlying37 elem3 fun v79 => ?_;refine oV ?_;refine nR ?_;refine o_emptySl trivial rfl Tryz.underlying37 Tryz.sizeOf3 (fun v80 => ?_);refine oV ?_;refine oE Tryz.underlying37 elem3 (hcutB) (nss_plain _) fun v82 => ?_;refine oV ?_;refine oB Tryz.underlying37 Tryz.sizeOf3 Tryz.zeroValue3 fun b84 => ?_;refine oD Tryz.underlying37 elem3 fun v85 => ?_;refine oV ?_;refine oN (blk_n (tC ?_))
   rw [show ([] : List Value) ++ (nss S2).flatten ++ ([Value.int .i64 (i : Int)] ++ []) = (nss (S2 ++ [i])).flatten by simp [nss]]
   refine c_sealR (u := v85) (xss := nss (S2 ++ [i])) (by repeat constructor) (by rw [nss_len, hs2l, List.length_append]; simp only [List.length_cons, List.length_nil]; omega) (nss_one _) (by unfold maxLen; omega) (fun I2 hx2 hs2 => ?_);refine cR ?_
   first | (refine o_add trivial rfl rfl rfl ?_ ?_; (omega)) | refine oV ?_
   refine oV ?_;refine oN ?_
   exact again (i + 1, out ++ [h + 1], S2 ++ [i], v79, v85, I2) (sC rfl (sC rfl (sC rfl (sC rfl (sC rfl (sC rfl sN)))))) (fun _ h => by rw [← nvs_more, List.length_append]; exact h.sort (by repeat constructor)) (by show ns.length - (i + 1) < ns.length - i; omega) ⟨by show i + 1 ≤ _; omega, by rw [List.length_append, hol]; rfl, by rw [hol] at hnx; exact hnx, hs2, fun k hk => by
     show k < i + 1
     rcases List.mem_append.1 hk with hk | hk
     · have := htm k hk; omega
     · rw [List.mem_singleton.1 hk]; omega, fun k hk => by
     show k ≤ i + 1
     rcases List.mem_append.1 hk with hk | hk
     · have := hoh k hk; omega
     · rw [List.mem_singleton.1 hk]; omega, by rw [List.length_append]; show S2.length + 1 ≤ i + 1; omega, hx1.trans hx2 (Nat.le_refl _)⟩
  have f1 := h1;try simp only [bl] at f1
  refine c_exit (then_x (then_x (blk_eq rfl (tC (sR ?_)))));iterate 2 refine oV ?_
  refine o_lenSlc trivial rfl Tryz.underlying37 rfl (hS) ?_;iterate 3 refine oV ?_
  refine nE ?_;refine ret2 rfl rfl rfl ?_
  first
  | exact leaf hx1 (List.nil_sublist _) (hRes_none hno)
  | (have hin : i = ns.length := by omega
     subst hin
     rw [List.take_of_length_le (by rw [List.length_map]; exact Nat.le_refl _)] at hrun
     have hz := hZ_of hrun
     exact fun w' hw' => leafRowX (e := 3) (size := 1) (nn := out.length) (u := uo) (xss := nss out) (B := []) hx1 (nss_len _) (nss_one _) (by unfold maxLen; omega) (fun I' hl hs' => hRes_last hz (by rw [Bool.eq_iff_iff]; simp; omega) hs') w' (by rw [nss_flat]; exact hw'))
theorem lts_at {I : Hp} {v : Value} {ls : List LetC} (h : Slc I 2 v (ls.map LetC.cells)) {i : Nat} {c : LetC} (hc : ls[i]? = some c) : ∀ k y, c.cells[k]? = some y → I.cell? ⟨slcB v, slcO v + i * 2 + k, none⟩ = some y :=
  h.cells i _ (by rw [List.getElem?_map, hc]; rfl)
theorem tGo_drop {all : List NodeC} {ls : List LetC} {i : Nat} {c : LetC} (h : ls[i]? = some c) (out : List Nat) : tGo all (ls.drop i) out = if nameZ c.name = true ∧ (out.length : Int) ≤ c.root ∧ c.root < all.length then (hZ ((all.take (c.root + 1).toNat).drop out.length) out.length).bind fun h => tGo all (ls.drop (i + 1)) (out ++ h) else none := by
  rw [List.drop_eq_getElem_cons (List.getElem?_eq_some_iff.1 h).1, (List.getElem?_eq_some_iff.1 h).2]; rfl
theorem hZ_len {l : List NodeC} {b : Nat} {h : List Nat} (e : hZ l b = some h) : h.length = l.length ∧ ∀ k ∈ h, k ≤ l.length := by
  obtain ⟨x, _, rfl, rfl⟩ := hZ_inv e
  rw [x.hs_len, x.nd_len]
  exact ⟨rfl, fun k hk => Nat.le_trans (x.hs_le k hk) x.h_le⟩
def tFin (all : List NodeC) (out : List Nat) : Option (List Nat) := if (∀ k ∈ out, k ≤ 60) ∧ out.length = all.length then some out else none
theorem trTall_any (vi vl vo va : Value) (p : ProgC) (ns : List NodeV) {I : Hp} (hp : ProgV I vi vl vo va p ns) (hf : ∀ o ∈ ns, o.c.few 100000) :
    Fun Tryz.prog 53 [.agg #[vi, vl, vo, va]] I [] (fun v I' _ => hRes (tZ p) v I') := by
  have hsi := hp.si
  have hsl := hp.sl
  have hso := hp.so
  have hsa := hp.sa
  have hli := scs_len p.ins
  have hlo := scs_len p.outs
  have hll : (p.lets.map LetC.cells).length = p.lets.length := List.length_map _
  have hla := nds_len ns
  have hal : p.all.length = ns.length := by rw [← hp.eq, List.length_map]
  have htz : tZ p = if (namesOK p.ins && decide ((1 : Int) ≤ p.ins.length) && decide (p.ins.length ≤ 40)) = true ∧ (namesOK p.outs && decide ((1 : Int) ≤ p.outs.length) && decide (p.outs.length ≤ 40)) = true ∧ p.lets.length ≤ 40 ∧ p.all.length ≤ 400 then (tGo p.all p.lets []).bind (tFin p.all) else none := by
    unfold tZ
    by_cases hc : (namesOK p.ins && decide ((1 : Int) ≤ p.ins.length) && decide (p.ins.length ≤ 40)) = true ∧ (namesOK p.outs && decide ((1 : Int) ≤ p.outs.length) && decide (p.outs.length ≤ 40)) = true ∧ p.lets.length ≤ 40 ∧ p.all.length ≤ 400
    · rw [if_pos hc, if_pos (by
        simp only [Bool.and_eq_true, decide_eq_true_eq] at hc
        obtain ⟨⟨⟨a1, a2⟩, a3⟩, ⟨⟨b1, b2⟩, b3⟩, c3, c4⟩ := hc
        exact ⟨a1, by omega, a3, b1, by omega, b3, c3, c4⟩)]; rfl
    · rw [if_neg hc, if_neg (fun hh => hc (by
        simp only [Bool.and_eq_true, decide_eq_true_eq]
        exact ⟨⟨⟨hh.1, by omega⟩, hh.2.2.1⟩, ⟨⟨hh.2.2.2.1, by omega⟩, hh.2.2.2.2.2.1⟩, hh.2.2.2.2.2.2⟩))]
  intro w hw
  refine enter1 _ Tryz.func53 rfl Tryz.ntmps53 rfl ?_ hw;refine sR ?_;refine o_box trivial rfl rfl rfl (fun b1 => ?_);iterate 2 refine oV ?_
  refine nU ?_;refine oF 0 Tryz.underlying27 Tryz.sizeOf23 ?_;refine oL Tryz.isAgg23 ?_;refine oQ Tryz.call85 rfl (trList_any _ _ _ hsi) ?_;refine oV ?_;refine' o_or trivial trivial rfl rfl rfl rfl rfl rfl rfl rfl (fun hb15 => ?_) ?_;rotate_left
  ·
   have fb15 := hb15
   try simp only [bl] at fb15
   refine gF hb15 2 Tryz.underlying27 Tryz.sizeOf23 ?_;refine gL hb15 Tryz.isAgg23 ?_;refine o_callQ (wS rfl rfl hb15) rfl Tryz.call85 rfl (trList_any _ _ _ hso) ?_;refine gV hb15 ?_;refine oN ?_;exact joins rfl
  refine' o_or trivial trivial rfl rfl rfl rfl rfl rfl rfl rfl (fun hb21 => ?_) ?_;rotate_left
  ·
   have fb21 := hb21
   try simp only [bl] at fb21
   refine gF hb21 1 Tryz.underlying27 Tryz.sizeOf24 ?_;refine gL hb21 Tryz.isAgg24 ?_;refine o_lenSlc (wS rfl rfl hb21) rfl Tryz.underlying24 rfl (hsl) ?_;refine gV hb21 ?_;refine oN ?_;exact joins rfl
  refine' o_or trivial trivial rfl rfl rfl rfl rfl rfl rfl rfl (fun hb27 => ?_) ?_;rotate_left
  ·
   have fb27 := hb27
   try simp only [bl] at fb27
   refine gF hb27 3 Tryz.underlying27 Tryz.sizeOf25 ?_;refine gL hb27 Tryz.isAgg25 ?_;refine o_lenSlc (wS rfl rfl hb27) rfl Tryz.underlying25 rfl (hsa) ?_;refine gV hb27 ?_;refine oN ?_;exact joins rfl
  refine nT ?_;refine cC rfl (fun h1 => ?_) (fun h1 => ?_)
  ·
   have f1 := h1;try simp only [bl] at f1
   have hno : tZ p = none := by
     rw [htz, if_neg]
     rintro ⟨c1, c2, c3, c4⟩
     rw [c1, c2] at h1
     simp at h1
     omega
   refine sR ?_;iterate 2 refine oV ?_
   refine nF ?_;refine ret2 rfl rfl rfl ?_;exact leaf0 (hRes_none hno)
  have f1 := h1;try simp only [bl] at f1
  have hgo : tZ p = (tGo p.all p.lets []).bind (tFin p.all) := by
    rw [htz, if_pos]
    simp only [Bool.or_eq_false_iff, Bool.not_eq_false', decide_eq_false_iff_not] at h1
    exact ⟨h1.1.1.1, h1.1.1.2, by omega, by omega⟩
  have hfew : p.lets.length ≤ 40 ∧ p.all.length ≤ 400 := by
    simp only [Bool.or_eq_false_iff, Bool.not_eq_false', decide_eq_false_iff_not] at h1
    exact ⟨by omega, by omega⟩
  refine kS ?_;refine oV ?_;refine nU ?_;refine oF 1 Tryz.underlying27 Tryz.sizeOf24 ?_;refine oL Tryz.isAgg24 ?_;refine o_lenSlc trivial rfl Tryz.underlying24 rfl (hsl) ?_;refine oV ?_;refine oN (tC (cB ?_));refine c_loop (ι := Nat × List Nat × Value × Hp) [1, 34, 35] (.cons rfl (.cons rfl (.cons rfl .nil))) (fun x => p.lets.length - x.1) (fun x E0 => (4, x.2.2.1) :: (36, .int .i64 (x.1 : Int)) :: E0) (fun x => St w [] x.2.2.2 [.row x.2.2.1 3 1 x.2.1.length (nvs x.2.1), .box b1 (.cells #[vi, vl, vo, va] 27 (0, 0))]) (fun x => x.1 ≤ p.lets.length ∧ tGo p.all p.lets [] = tGo p.all (p.lets.drop x.1) x.2.1 ∧ x.2.1.length ≤ p.all.length ∧ Ext w.heap.size I x.2.2.2 ∧ ∀ k ∈ x.2.1, k ≤ 400) ((0, [], .slice none 0 0, I)) (sC rfl (sC rfl (sC rfl (sC rfl (sC rfl sN))))) (fun _ h => (h.nilRow _ _).sort (by repeat constructor)) (⟨Nat.zero_le _, rfl, Nat.zero_le _, Ext.refl _ _, fun k hk => by cases hk⟩) ?_;rintro ⟨i, out, uo, I1⟩ ⟨hi, hF, hol, hx1, h400⟩
  try dsimp only
  simp only at hi hF hol hx1 h400
  refine sR ?_;refine oV ?_;refine oN (tC (cS ?_));refine cC rfl (fun h2 => ?_) (fun h2 => ?_)
  ·
   have f2 := h2;try simp only [bl] at f2
   obtain ⟨c, hc⟩ : ∃ c, p.lets[i]? = some c := ⟨p.lets[i]'(by omega), List.getElem?_eq_getElem (by omega)⟩
   rw [tGo_drop hc] at hF
   refine cK (tC (cS (cB (sR ?_))));refine o_elem trivial rfl Tryz.underlying24 Tryz.sizeOf46 rfl (hsl.le hx1.le) rfl (by omega) ?_;refine o_loadAI trivial rfl Tryz.isAgg46 Tryz.sizeOf46 rfl rfl (lts_at (hsl.le hx1.le) hc) ?_;refine o_alloc trivial rfl Tryz.zeroValue46 rfl (fun b6 => ?_);refine oS Tryz.sizeOf46 ?_;refine nU ?_;refine oF 0 Tryz.underlying46 Tryz.sizeOf9 ?_;refine oL Tryz.isAgg9 ?_;refine oQ Tryz.call33 rfl (name_all _) ?_;refine oV ?_;refine' o_or trivial trivial rfl rfl rfl rfl rfl rfl rfl rfl (fun hb44 => ?_) ?_;rotate_left
   ·
    have fb44 := hb44
    try simp only [bl] at fb44
    refine gF hb44 1 Tryz.underlying46 Tryz.sizeOf3 ?_;refine gL hb44 Tryz.isAgg3 ?_;refine gV hb44 ?_;refine o_lenRow (wS rfl rfl hb44) rfl Tryz.underlying37 rfl (by repeat constructor) ?_;refine gV hb44 ?_;refine oN ?_;exact joins rfl
   refine' o_or trivial trivial rfl rfl rfl rfl rfl rfl rfl rfl (fun hb51 => ?_) ?_;rotate_left
   ·
    have fb51 := hb51
    try simp only [bl] at fb51
    refine gF hb51 1 Tryz.underlying46 Tryz.sizeOf3 ?_;refine gL hb51 Tryz.isAgg3 ?_;refine gF hb51 3 Tryz.underlying27 Tryz.sizeOf25 ?_;refine gL hb51 Tryz.isAgg25 ?_;refine o_lenSlc (wS rfl rfl hb51) rfl Tryz.underlying25 rfl (hsa.le hx1.le) ?_;refine gV hb51 ?_;refine oN ?_;exact joins rfl
   refine nT ?_;refine cC rfl (fun h3 => ?_) (fun h3 => ?_)
   ·
    have f3 := h3;try simp only [bl] at f3
    have hno : tZ p = none := by
      rw [hgo, hF, if_neg]
      · rfl
      · rintro ⟨c1, c2, c3⟩
        rw [c1] at h3
        simp at h3
        omega
    refine sR ?_;iterate 2 refine oV ?_
    refine oN (tC (cT (tR (blk_r (tR (tR (blk_r (tR ?_))))))));refine ret2 rfl rfl rfl ?_
    first
    | exact leaf (hx1.trans hx2 (Nat.le_refl _)) (List.nil_sublist _) (hRes_none hno)
    | exact leaf hx1 (List.nil_sublist _) (hRes_none hno)
    | (have hjo : j = out.length := by omega
       subst hjo
       have hall : ∀ k ∈ out, k ≤ 60 := fun k hk => by
         obtain ⟨j', hj', rfl⟩ := List.getElem_of_mem hk
         exact hlow j' _ hj' (List.getElem?_eq_getElem hj')
       have hz : tZ p = if out.length = p.all.length then some out else none := by
         rw [hfin]
         unfold tFin
         by_cases he : out.length = p.all.length
         · rw [if_pos ⟨hall, he⟩, if_pos he]
         · rw [if_neg (fun hh => he hh.2), if_neg he]
       exact fun w' hw' => leafRowX (e := 3) (size := 1) (nn := out.length) (u := uo) (xss := nss out) hx1 (nss_len _) (nss_one _) (by unfold maxLen; omega) (fun I' hl hs' => hRes_last hz (by rw [Bool.eq_iff_iff]; simp; omega) hs') w' (by rw [nss_flat]; exact hw'))
   have f3 := h3;try simp only [bl] at f3
   have hg3 : nameZ c.name = true ∧ (out.length : Int) ≤ c.root ∧ c.root < p.all.length := by
     simp only [Bool.or_eq_false_iff, Bool.not_eq_false', decide_eq_false_iff_not] at h3
     exact ⟨h3.1.1, by omega, by omega⟩
   rw [if_pos hg3] at hF
   have hcut := (hsa.le hx1.le).cut (lo := ((out.length : Nat) : Int).toNat) (hi := (c.root + 1).toNat) (by omega) (by omega)
   have hseg : ((nds ns).take (c.root + 1).toNat).drop ((out.length : Nat) : Int).toNat = nds ((ns.take (c.root + 1).toNat).drop out.length) := by unfold nds; rw [List.map_drop, List.map_take, Int.toNat_natCast]
   rw [hseg] at hcut
   have hsub : ∀ o ∈ (ns.take (c.root + 1).toNat).drop out.length, o ∈ ns := fun o ho => List.mem_of_mem_take (List.mem_of_mem_drop ho)
   have hmap : ((ns.take (c.root + 1).toNat).drop out.length).map NodeV.c = (p.all.take (c.root + 1).toNat).drop out.length := by rw [List.map_drop, List.map_take, hp.eq]
   have hsl2 : ((ns.take (c.root + 1).toNat).drop out.length).length = (c.root + 1).toNat - out.length := by rw [List.length_drop, List.length_take]; omega
   refine kS ?_;refine oF 3 Tryz.underlying27 Tryz.sizeOf25 ?_;refine oL Tryz.isAgg25 ?_;refine oV ?_;refine o_lenRow trivial rfl Tryz.underlying37 rfl (by repeat constructor) ?_;refine oF 1 Tryz.underlying46 Tryz.sizeOf3 ?_;refine oL Tryz.isAgg3 ?_
   first | (refine o_add trivial rfl rfl rfl ?_ ?_; (omega)) | refine oV ?_
   refine o_cutMid trivial rfl Tryz.underlying25 Tryz.sizeOf44 rfl (hsa.le hx1.le) rfl rfl (by omega) ?_;refine oV ?_;refine o_lenRow trivial rfl Tryz.underlying37 rfl (by repeat constructor) ?_;refine oI Tryz.call86 rfl (heights_any _ ((ns.take (c.root + 1).toNat).drop out.length) out.length hcut (fun o ho => (hp.ok o (hsub o ho)).le hx1.le) (fun o ho => hf o (hsub o ho)) (by omega) (by omega)) ?_;rintro _ I2 hx2 ⟨u, rfl, hhs⟩;iterate 5 refine oV ?_
   refine oN (tC (cS (cS ?_)))
   rw [hmap] at hhs ⊢
   refine cR ?_;iterate 2 refine oV ?_
   refine nT ?_;refine cC rfl (fun h4 => ?_) (fun h4 => ?_)
   ·
    have f4 := h4;try simp only [bl] at f4
    have hno : tZ p = none := by
      have hz : hZ ((p.all.take (c.root + 1).toNat).drop out.length) out.length = none := by
        cases hz : hZ ((p.all.take (c.root + 1).toNat).drop out.length) out.length with
        | none => rfl
        | some l => rw [hz] at h4; cases h4
      rw [hgo, hF, hz]; rfl
    refine sR ?_;iterate 2 refine oV ?_
    refine oN (tC (cT (tR (blk_r (tR (tR (blk_r (tR ?_))))))));refine ret2 rfl rfl rfl ?_
    first
    | exact leaf (hx1.trans hx2 (Nat.le_refl _)) (List.nil_sublist _) (hRes_none hno)
    | exact leaf hx1 (List.nil_sublist _) (hRes_none hno)
    | (have hjo : j = out.length := by omega
       subst hjo
       have hall : ∀ k ∈ out, k ≤ 60 := fun k hk => by
         obtain ⟨j', hj', rfl⟩ := List.getElem_of_mem hk
         exact hlow j' _ hj' (List.getElem?_eq_getElem hj')
       have hz : tZ p = if out.length = p.all.length then some out else none := by
         rw [hfin]
         unfold tFin
         by_cases he : out.length = p.all.length
         · rw [if_pos ⟨hall, he⟩, if_pos he]
         · rw [if_neg (fun hh => he hh.2), if_neg he]
       exact fun w' hw' => leafRowX (e := 3) (size := 1) (nn := out.length) (u := uo) (xss := nss out) hx1 (nss_len _) (nss_one _) (by unfold maxLen; omega) (fun I' hl hs' => hRes_last hz (by rw [Bool.eq_iff_iff]; simp; omega) hs') w' (by rw [nss_flat]; exact hw'))
   have f4 := h4;try simp only [bl] at f4
   obtain ⟨hl, hz⟩ : ∃ l, hZ ((p.all.take (c.root + 1).toNat).drop out.length) out.length = some l := Option.isSome_iff_exists.1 (by simpa using h4)
   have hsz := hhs _ hz
   obtain ⟨hzl, hzb⟩ := hZ_len hz
   rw [← hmap, List.length_map, hsl2] at hzl hzb
   rw [hz] at hF
   have hnl := nss_len hl
   refine cK (tC (cR ?_));iterate 2 refine oV ?_
   refine oE Tryz.underlying37 elem3 (hsz) (nss_plain _) fun v77 => ?_;refine oV ?_;refine oN (blk_n (tC (cR ?_)))
   first | (refine o_add trivial rfl rfl rfl ?_ ?_; (omega)) | refine oV ?_
   refine oV ?_;refine oN ?_
   exact again (i + 1, out ++ hl, v77, I2) (sC rfl (sC rfl (sC rfl (sC rfl (sC rfl sN))))) (fun _ h => by rw [nss_flat, nss_len] at h; rw [List.length_append, show nvs (out ++ hl) = nvs out ++ nvs hl by simp [nvs]]; exact h.sort (by repeat constructor)) (by show p.lets.length - (i + 1) < p.lets.length - i; omega) ⟨by show i + 1 ≤ _; omega, hF, by rw [List.length_append]; show out.length + hl.length ≤ _; omega, hx1.trans hx2 (Nat.le_refl _), fun k hk => by
     rcases List.mem_append.1 hk with hk | hk
     · exact h400 k hk
     · have := hzb k hk; omega⟩
  have f2 := h2;try simp only [bl] at f2
  refine c_exit (then_x (then_x (blk_eq rfl (tC (cS (cS ?_))))))
  have hin : i = p.lets.length := by omega
  subst hin
  rw [List.drop_length] at hF
  have hfin : tZ p = tFin p.all out := by rw [hgo, hF]; rfl
  refine cR ?_;refine oV ?_;refine o_lenRow trivial rfl Tryz.underlying37 rfl (by repeat constructor) ?_;refine oV ?_;refine oN (tC (cB ?_));refine c_loop (ι := Nat) [1, 4, 79, 80] (.cons rfl (.cons rfl (.cons rfl (.cons rfl .nil)))) (fun x => out.length - x) (fun x E0 => (81, .int .i64 (x : Int)) :: E0) (fun x => St w [] I1 [.row uo 3 1 out.length (nvs out), .box b1 (.cells #[vi, vl, vo, va] 27 (0, 0))]) (fun x => x ≤ out.length ∧ ∀ j k, j < x → out[j]? = some k → k ≤ 60) (0) (sC rfl (sC rfl (sC rfl (sC rfl (sC rfl sN))))) (fun _ h => h) (⟨Nat.zero_le _, fun j k hj => absurd hj (Nat.not_lt_zero _)⟩) ?_;rintro j ⟨hj, hlow⟩
  try dsimp only
  refine sR ?_;refine oV ?_;refine oN (tC (cS ?_));refine cC rfl (fun h5 => ?_) (fun h5 => ?_)
  ·
   have f5 := h5;try simp only [bl] at f5
   obtain ⟨k, hk⟩ : ∃ k, out[j]? = some k := ⟨out[j]'(by omega), List.getElem?_eq_getElem (by omega)⟩
   have hkd : out.getD j 0 = k := by rw [List.getD_eq_getElem?_getD, hk]; rfl
   refine cK (tC (cS (cB (sR ?_))));refine o_elemRow trivial rfl Tryz.underlying37 Tryz.sizeOf3 rfl (by repeat constructor) rfl (by omega) ?_;refine o_loadRow1 trivial rfl Tryz.isAgg3 (by repeat constructor) rfl (by rw [show ((j : Nat) : Int).toNat * 1 = j by omega]; exact nvs_get (by omega)) ?_;refine oV ?_;refine nS ?_;iterate 2 refine oV ?_
   refine nT ?_;refine cC rfl (fun h6 => ?_) (fun h6 => ?_)
   ·
    have f6 := h6;try simp only [bl] at f6
    have hno : tZ p = none := by
      rw [hfin]
      unfold tFin
      rw [if_neg]
      rintro ⟨hh, _⟩
      have := hh k (List.mem_of_getElem? hk)
      omega
    refine sR ?_;iterate 2 refine oV ?_
    refine oN (tC (cT (blk_r (tR (tR (blk_r (tR ?_)))))));refine ret2 rfl rfl rfl ?_
    first
    | exact leaf (hx1.trans hx2 (Nat.le_refl _)) (List.nil_sublist _) (hRes_none hno)
    | exact leaf hx1 (List.nil_sublist _) (hRes_none hno)
    | (have hjo : j = out.length := by omega
       subst hjo
       have hall : ∀ k ∈ out, k ≤ 60 := fun k hk => by
         obtain ⟨j', hj', rfl⟩ := List.getElem_of_mem hk
         exact hlow j' _ hj' (List.getElem?_eq_getElem hj')
       have hz : tZ p = if out.length = p.all.length then some out else none := by
         rw [hfin]
         unfold tFin
         by_cases he : out.length = p.all.length
         · rw [if_pos ⟨hall, he⟩, if_pos he]
         · rw [if_neg (fun hh => he hh.2), if_neg he]
       exact fun w' hw' => leafRowX (e := 3) (size := 1) (nn := out.length) (u := uo) (xss := nss out) hx1 (nss_len _) (nss_one _) (by unfold maxLen; omega) (fun I' hl hs' => hRes_last hz (by rw [Bool.eq_iff_iff]; simp; omega) hs') w' (by rw [nss_flat]; exact hw'))
   have f6 := h6;try simp only [bl] at f6
   refine cK (blk_n (tC (cR ?_)))
   first | (refine o_add trivial rfl rfl rfl ?_ ?_; (omega)) | refine oV ?_
   refine oV ?_;refine oN ?_
   exact again (j + 1) (sC rfl (sC rfl (sC rfl (sC rfl (sC rfl sN))))) (fun _ h => h.sort (by repeat constructor)) (by show out.length - (j + 1) < out.length - j; omega) ⟨by show j + 1 ≤ _; omega, fun j' k' hj' hk' => by
     have hj2 : j' < j + 1 := hj'
     rcases (by omega : j' < j ∨ j' = j) with e | e
     · exact hlow j' k' e hk'
     · subst e
       rw [hk] at hk'
       rw [← Option.some.inj hk']
       omega⟩
  have f5 := h5;try simp only [bl] at f5
  refine c_exit (then_x (then_x (blk_eq rfl (tC (cS ?_)))));refine c_quiet (by kernel_rfl) (by kernel_rfl) (fun _ h => h.drawn) ?_;iterate 2 refine oV ?_
  refine o_lenRow trivial rfl Tryz.underlying37 rfl (by repeat constructor) ?_;refine oF 3 Tryz.underlying27 Tryz.sizeOf25 ?_;refine oL Tryz.isAgg25 ?_;refine o_lenSlc trivial rfl Tryz.underlying25 rfl (hsa.le hx1.le) ?_;iterate 3 refine oV ?_
  refine nE ?_;refine ret2 rfl rfl rfl ?_
  first
  | exact leaf (hx1.trans hx2 (Nat.le_refl _)) (List.nil_sublist _) (hRes_none hno)
  | exact leaf hx1 (List.nil_sublist _) (hRes_none hno)
  | (have hjo : j = out.length := by omega
     subst hjo
     have hall : ∀ k ∈ out, k ≤ 60 := fun k hk => by
       obtain ⟨j', hj', rfl⟩ := List.getElem_of_mem hk
       exact hlow j' _ hj' (List.getElem?_eq_getElem hj')
     have hz : tZ p = if out.length = p.all.length then some out else none := by
       rw [hfin]
       unfold tFin
       by_cases he : out.length = p.all.length
       · rw [if_pos ⟨hall, he⟩, if_pos he]
       · rw [if_neg (fun hh => he hh.2), if_neg he]
     exact fun w' hw' => leafRowX (e := 3) (size := 1) (nn := out.length) (u := uo) (xss := nss out) hx1 (nss_len _) (nss_one _) (by unfold maxLen; omega) (fun I' hl hs' => hRes_last hz (by rw [Bool.eq_iff_iff]; simp; omega) hs') w' (by rw [nss_flat]; exact hw'))
theorem trRight_any (vi vl vo va : Value) (p : ProgC) (ns : List NodeV) {I : Hp} (hp : ProgV I vi vl vo va p ns) (hf : ∀ o ∈ ns, o.c.few 100000) :
    Fun Tryz.prog 21 [.agg #[vi, vl, vo, va]] I [] (fun v _ _ => v = .bool (tZ p).isSome) := by
  have hsi := hp.si
  have hsl := hp.sl
  have hso := hp.so
  have hsa := hp.sa
  intro w hw
  refine enter1 _ Tryz.func21 rfl Tryz.ntmps21 rfl ?_ hw;refine sR ?_;refine o_box trivial rfl rfl rfl (fun b1 => ?_);refine oV ?_;refine nS ?_;refine oA Tryz.isAgg27 Tryz.sizeOf27 ?_;refine oI Tryz.call53 rfl (trTall_any vi vl vo va p ns hp hf) ?_;rintro _ I2 hx2 ⟨u, rfl, hhs⟩;iterate 5 refine oV ?_
  refine nS ?_;iterate 2 refine oV ?_
  refine nE ?_;refine ret1 rfl rfl ?_;exact leaf hx2 (List.nil_sublist _) rfl
abbrev nmR (u : Value) (l : List ByteArray) : Tw.Item := .row u 9 1 l.length (scs l).flatten
theorem scs_more (l : List ByteArray) (s : ByteArray) : (scs (l ++ [s])).flatten = (scs l).flatten ++ [.string s] := by simp [scs]
def NmRes (L : List Tok) (i' : Nat) (ok : Bool) (l : List ByteArray) : NOut → Prop
  | .bad r => ok = false ∧ L.drop i' = r ∧ i' ≤ L.length
  | .ok m r => ok = true ∧ l = m ∧ L.drop i' = r ∧ i' ≤ L.length
theorem adv_true {i : Nat} {b : Bool} (h : b = true) : adv b i = i + 1 := by rw [h]; rfl
theorem adv_false {i : Nat} {b : Bool} (h : b = false) : adv b i = i := by rw [h]; rfl
theorem drop_cons {L : List Tok} {i : Nat} (h : i < L.length) : L.drop i = tkAt L i :: L.drop (i + 1) := by rw [List.drop_eq_getElem_cons h, tkAt_in (List.getElem?_eq_getElem h)]
theorem nm_no {L : List Tok} {i : Nat} (h : hdN (L.drop i) = false) : namesZ (L.drop i) = .bad (L.drop i) := namesZ_no h
theorem nm_name {L : List Tok} {i : Nat} (h : hdN (L.drop i) = true) : nameT (tkAt L i) = true := by
  rw [drop_cons (hdN_lt h)] at h; exact h
theorem nm_comma {L : List Tok} {i : Nat} (h : hdN (L.drop i) = true) (hc : hdT (L.drop (i + 1)) 2 commaS = true) : namesZ (L.drop i) = (namesZ (L.drop (i + 2))).cons (tkAt L i).text := by
  rw [drop_cons (hdN_lt h), namesZ_comma (nm_name h) hc, List.drop_drop]
theorem nm_end {L : List Tok} {i : Nat} (h : hdN (L.drop i) = true) (hc : hdT (L.drop (i + 1)) 2 commaS = false) : namesZ (L.drop i) = if hdT (L.drop (i + 1)) 2 semiS then .ok [(tkAt L i).text] (L.drop (i + 2)) else .bad (L.drop (i + 1)) := by
  rw [drop_cons (hdN_lt h), namesZ_end (nm_name h) hc, List.drop_drop]
theorem rdNames_any (b i : Nat) (vall vs vi vl vo va : Value) (L : List Tok) {I : Hp} (hL : Slc I 4 vall (L.map Tok.cells)) (hn : L.length ≤ 10000) (hs : TkSmall L) (hi : i ≤ L.length) : Fun Tryz.prog 70 [.pointer (some ⟨b, 0, none⟩)] I [rdB b vall i vs vi vl vo va]
    (fun v I' B' => I = I' ∧ ∃ u ok i' u' l, v = .tuple #[u, .bool ok] ∧ B' = [rdB b vall i' vs vi vl vo va, nmR u' l] ∧ NmRes L i' ok l (namesZ (L.drop i)) ∧ (ok = true → u' = u ∧ l.length ≤ L.length) ∧ u.cells = #[u] ∧ u.oneCell' = true) := by
  intro w hw
  refine enter1 _ Tryz.func70 rfl Tryz.ntmps70 rfl ?_ hw;refine sR ?_;iterate 2 refine oV ?_
  refine nS ?_;refine oV ?_;refine oN (tC (cB ?_));refine c_loop (ι := Nat × List ByteArray × Value) [0] (.cons rfl .nil) (fun x => L.length - x.1) (fun x E0 => (4, x.2.2) :: E0) (fun x => St w (keysOf [rdB b vall i vs vi vl vo va]) I [rdB b vall x.1 vs vi vl vo va, nmR x.2.2 x.2.1]) (fun x => x.1 ≤ L.length ∧ x.2.1.length ≤ x.1 ∧ namesZ (L.drop i) = (namesZ (L.drop x.1)).after x.2.1) ((i, [], .slice none 0 0)) (sC rfl (sC rfl sN)) (fun _ h => (h.nilRow 9 1).sort (by repeat constructor)) (⟨hi, Nat.zero_le _, (NOut.after_nil _).symm⟩) ?_;rintro ⟨j, out, u⟩ ⟨hj, hout, hF⟩
  try dsimp only
  simp only at hj hout hF
  refine cB (sR ?_);refine oV ?_;refine oC trivial rfl Tryz.call101 rfl (rdName_any b j vall vs vi vl vo va L hL (by omega) hs) (by repeat constructor) ?_;rintro _ _ _ hx1 ⟨rfl, rfl, rfl⟩;iterate 5 refine oV ?_
  refine nU ?_;iterate 2 refine oV ?_
  refine nT ?_;refine cC rfl (fun h1 => ?_) (fun h1 => ?_)
  ·
   have f1 := h1;try simp only [bl] at f1
   have hN : hdN (L.drop j) = false := by simpa using f1
   refine sR ?_;iterate 2 refine oV ?_
   refine oN (tC (cT (tR (blk_r (tR (blk_r ?_))))));refine ret2 rfl rfl rfl ?_;exact fun w' hw' => ⟨I, [rdB b vall j vs vi vl vo va, nmR u out], (by rw [adv_false hN] at hw'; exact hw'.sort (by repeat constructor)), Ext.refl _ _, rfl, _, _, j, u, out, rfl, rfl, by rw [hF, nm_no hN]; exact ⟨rfl, rfl, hj⟩, fun h => (by cases h), rfl, rfl⟩
  have f1 := h1;try simp only [bl] at f1
  have hN : hdN (L.drop j) = true := by simpa using f1
  rw [adv_true hN, if_pos hN]
  have hlt := hdN_lt hN
  refine kS ?_;iterate 2 refine oV ?_
  refine oB Tryz.underlying23 Tryz.sizeOf9 Tryz.zeroValue9 fun b16 => ?_;refine oD Tryz.underlying23 elem9 fun v17 => ?_;refine oV ?_;refine nS ?_;refine oV ?_;refine oC trivial rfl Tryz.call102 rfl (rdMark_any b (j + 1) vall vs vi vl vo va commaS L hL (by omega)) (by repeat constructor) ?_;rintro _ _ _ hx2 ⟨rfl, rfl, rfl⟩;refine oV ?_;refine nT ?_;refine cC rfl (fun h2 => ?_) (fun h2 => ?_)
  ·
   have f2 := h2;try simp only [bl] at f2
   have hC : hdT (L.drop (j + 1)) 2 commaS = false := by simpa using f2
   rw [adv_false hC]
   refine sR ?_;refine l_rowCells (u := v17) (by repeat constructor) (fun hcv => ?_);iterate 2 refine oV ?_
   refine oC trivial rfl Tryz.call102 rfl (rdMark_any b (j + 1) vall vs vi vl vo va semiS L hL (by omega)) (by repeat constructor) ?_;rintro _ _ _ hx3 ⟨rfl, rfl, rfl⟩;iterate 2 refine oV ?_
   refine oN (tC (cT (blk_r (tR (blk_r ?_)))));refine ret2 rfl rfl rfl ?_;refine fun w' hw' => ⟨I, [rdB b vall (adv (hdT (L.drop (j + 1)) 2 semiS) (j + 1)) vs vi vl vo va, nmR v17 (out ++ [(tkAt L j).text])], (by unfold nmR; rw [scs_more, List.length_append]; exact hw'.sort (by repeat constructor)), Ext.refl _ _, rfl, _, _, _, _, _, rfl, rfl, ?_, fun _ => ⟨rfl, by rw [List.length_append]; show out.length + 1 ≤ _; omega⟩, hcv⟩
   rw [hF, nm_end hN hC]
   cases hS : hdT (L.drop (j + 1)) 2 semiS with
   | true => exact ⟨rfl, rfl, rfl, hdT_lt hS⟩
   | false => exact ⟨rfl, rfl, (by show j + 1 ≤ L.length; omega)⟩
  have f2 := h2;try simp only [bl] at f2
  have hC : hdT (L.drop (j + 1)) 2 commaS = true := by simpa using f2
  rw [adv_true hC]
  have hlt2 := hdT_lt hC
  refine cK (blk_n ?_);exact again (j + 2, out ++ [(tkAt L j).text], v17) (sC rfl (sC rfl sN)) (fun _ h => by unfold nmR; rw [scs_more, List.length_append]; exact h.sort (by repeat constructor)) (by show L.length - (j + 2) < L.length - j; omega) ⟨by show j + 2 ≤ L.length; omega, by rw [List.length_append]; show out.length + 1 ≤ j + 2; omega, by rw [hF, nm_comma hN hC, NOut.after_cons]⟩
theorem rdAtom_any (b i : Nat) (vall vs vi vl vo va : Value) (ns : List NodeV) (K : List Value) (L : List Tok) {I : Hp} (hM : Mx I) (hL : Slc I 4 vall (L.map Tok.cells)) (hn : L.length ≤ 10000) (hs : TkSmall L) (hto : ToksOk L) (hK : K.length ≤ 90000) (hns : ns.length ≤ 90000) :
    Fun Tryz.prog 154 [.pointer (some ⟨b, 0, none⟩)] I [rdB b vall i vs vi vl vo va, skR vs K, ndR va ns]
    (fun v I' B' => (v = .bool false ∧ I = I' ∧ B' = [rdB b vall i vs vi vl vo va, skR vs K, ndR va ns] ∧ (i < L.length → leafT (tkAt L i) = false)) ∨
      (v = .bool true ∧ i < L.length ∧ leafT (tkAt L i) = true ∧ ∃ vs' va' c, c.ok I' ∧ c.c = leafN (tkAt L i) ∧ B' = [rdB b vall (i + 1) vs' vi vl vo va', skR vs' (K ++ [odI ns.length]), ndR va' (ns ++ [c])])) := by
  have hnode : ∀ (c : NodeV) (vs va : Value) {I1 : Hp} (hc : c.ok I1) (j : Nat), Fun Tryz.prog 159 [.pointer (some ⟨b, 0, none⟩), ndV c] I1 [rdB b vall j vs vi vl vo va, skR vs K, ndR va ns]
    (fun v I' B' => I1 = I' ∧ v = .tuple #[] ∧ ∃ vs' va', B' = [rdB b vall j vs' vi vl vo va', skR vs' (K ++ [odI ns.length]), ndR va' (ns ++ [c])]) := fun c vs va {I1} hc j => node_any b j vall vs vi vl vo va c ns K hc hK hns
  intro w hw
  refine enter1 _ Tryz.func154 rfl Tryz.ntmps154 rfl ?_ hw;refine sR ?_;refine oV ?_;refine nU ?_;refine oV ?_;refine oC trivial rfl Tryz.call101 rfl (rdName_any b i vall vs vi vl vo va L hL (by omega) hs) (by repeat constructor) ?_;rintro _ _ _ hx1 ⟨rfl, rfl, rfl⟩;iterate 5 refine oV ?_
  refine nS ?_;refine oV ?_;refine nT ?_;refine cC rfl (fun h1 => ?_) (fun h1 => ?_)
  ·
   have f1 := h1;try simp only [bl] at f1
   have hN : hdN (L.drop i) = true := f1
   rw [adv_true hN, if_pos hN]
   have hlt := hdN_lt hN
   have hnm := nm_name hN
   refine sR ?_;iterate 2 refine oV ?_
   refine o_buildS trivial rfl (bld44) rfl (.cons rfl rfl rfl (by repeat constructor) (.cons rfl rfl rfl (by repeat constructor) .nil)) ?_;refine oC trivial rfl Tryz.call159 rfl (hnode ⟨refN (tkAt L i).text, .slice none 0 0, .slice none 0 0⟩ vs va ⟨Ws.nil _, Ws.nil _⟩ (i + 1)) (by repeat constructor) ?_;rintro _ _ _ hx2 ⟨rfl, rfl, vs', va', rfl⟩;refine nS ?_;refine oV ?_;refine nF ?_;refine ret1 rfl rfl ?_;refine fun w' hw' => ⟨I, [rdB b vall (i + 1) vs' vi vl vo va', skR vs' (K ++ [odI ns.length]), ndR va' (ns ++ [⟨refN (tkAt L i).text, .slice none 0 0, .slice none 0 0⟩])], hw'.sort (by repeat constructor), Ext.refl _ _, .inr ⟨rfl, hlt, ?_, vs', va', _, ⟨Ws.nil _, Ws.nil _⟩, ?_, rfl⟩⟩
   · unfold leafT; unfold nameT at hnm; rw [hnm, Bool.or_true]
   · unfold nameT at hnm; simp at hnm; unfold leafN; rw [if_neg (by rw [hnm.1]; decide)]
  have f1 := h1;try simp only [bl] at f1
  have hN : hdN (L.drop i) = false := by simpa using f1
  rw [adv_false hN]
  refine kS ?_;refine oV ?_;refine oC trivial rfl Tryz.call41 rfl (rdNext_any b i vall vs vi vl vo va L hL) (by repeat constructor) ?_;rintro _ _ _ hx2 ⟨rfl, rfl, rfl⟩;iterate 3 refine oV ?_
  refine o_alloc trivial rfl Tryz.zeroValue68 rfl (fun b5 => ?_);refine oS Tryz.sizeOf68 ?_;refine oV ?_;refine nU ?_;iterate 2 refine oV ?_
  refine' o_or trivial trivial rfl rfl rfl rfl rfl rfl rfl rfl (fun hb26 => ?_) ?_;rotate_left
  ·
   have fb26 := hb26
   try simp only [bl] at fb26
   refine gF hb26 0 Tryz.underlying68 Tryz.sizeOf3 ?_;refine gL hb26 Tryz.isAgg3 ?_;refine gV hb26 ?_;refine oN ?_;exact joins rfl
  refine nT ?_;refine cC rfl (fun h2 => ?_) (fun h2 => ?_)
  ·
   have f2 := h2;try simp only [bl] at f2
   have h3 := or2_t h2
   refine sR ?_;refine oV ?_;refine nF ?_;refine ret1 rfl rfl ?_;refine fun w' hw' => ⟨I, [rdB b vall i vs vi vl vo va, skR vs K, ndR va ns], hw'.sort (by repeat constructor), Ext.refl _ _, .inl ⟨rfl, rfl, rfl, fun hlt => ?_⟩⟩
   rw [hdN_at, decide_eq_true hlt, Bool.true_and] at hN
   rw [decide_eq_true hlt, Bool.true_and] at h3
   unfold leafT
   unfold nameT at hN
   rw [hN, Bool.or_false]
   exact h3
  have f2 := h2;try simp only [bl] at f2
  have h3 := or2_f h2
  simp at h3
  have hz := hto (tkAt L i) (by rw [tkAt_in (List.getElem?_eq_getElem h3.1)]; exact List.getElem_mem h3.1) h3.2
  refine kS ?_;refine oF 1 Tryz.underlying68 Tryz.sizeOf9 ?_;refine oL Tryz.isAgg9 ?_;refine oI Tryz.call167 rfl (ratParse_any _ hM hz) ?_;rintro _ I3 hx3 ⟨ra, rb, rfl, hra, hrb⟩;iterate 3 refine oV ?_
  refine o_alloc trivial rfl Tryz.zeroValue42 rfl (fun b7 => ?_);refine oS Tryz.sizeOf42 ?_;refine oV ?_;refine nS ?_;iterate 2 refine oV ?_
  refine oF 1 Tryz.underlying66 Tryz.sizeOf3 ?_;refine oL Tryz.isAgg3 ?_
  first | (refine o_add trivial rfl rfl rfl ?_ ?_; (omega)) | refine oV ?_
  refine oV ?_;refine oF 1 Tryz.underlying66 Tryz.sizeOf3 ?_;refine oS Tryz.sizeOf3 ?_;refine nS ?_;refine oV ?_;refine oA Tryz.isAgg42 Tryz.sizeOf42 ?_;refine o_buildS trivial rfl (bld44) rfl (.cons rfl rfl rfl (by repeat constructor) (.cons rfl rfl rfl (by repeat constructor) .nil)) ?_;refine oC trivial rfl Tryz.call159 rfl (hnode ⟨numN (numQ (tkAt L i).text), ra, rb⟩ vs va ⟨hra, hrb⟩ (i + 1)) (by repeat constructor) ?_;rintro _ _ _ hx4 ⟨rfl, rfl, vs', va', rfl⟩;refine nS ?_;refine oV ?_;refine nE ?_;refine ret1 rfl rfl ?_;refine fun w' hw' => ⟨I3, [rdB b vall (i + 1) vs' vi vl vo va', skR vs' (K ++ [odI ns.length]), ndR va' (ns ++ [⟨numN (numQ (tkAt L i).text), ra, rb⟩])], hw'.sort (by repeat constructor), hx3, .inr ⟨rfl, h3.1, ?_, vs', va', _, ⟨hra, hrb⟩, ?_, rfl⟩⟩
  · unfold leafT; rw [h3.2]; rfl
  · unfold leafN; rw [if_pos h3.2]
theorem expo_some {L : List Tok} {i : Nat} {e : Option Int} {r1 : List Tok} (he : Expo (L.drop i) e r1) {j : Nat} (hj : j = adv (hdT (L.drop i) 2 minusS) i) (hlt : j < L.length) (hk : (tkAt L j).kind = 1) {n : Nat} (hn : expoZ (tkAt L j).text = some n) :
    e = some ((if hdT (L.drop i) 2 minusS then -1 else 1) * (n : Int)) ∧ r1 = L.drop (j + 1) := by
  cases hm : hdT (L.drop i) 2 minusS with
  | true =>
    rw [adv_true hm] at hj
    subst hj
    have hi := hdT_lt hm
    have hx : isT (tkAt L i) 2 minusS = true := by rw [drop_cons hi] at hm; exact hm
    have h2 : Expo (L.drop i) (some (-(n : Int))) (L.drop (i + 1 + 1)) := by rw [drop_cons hi, drop_cons hlt]; exact .neg hx hk hn
    obtain ⟨rfl, rfl⟩ := he.det h2
    exact ⟨by simp, rfl⟩
  | false =>
    rw [adv_false hm] at hj
    subst hj
    have hx : isT (tkAt L j) 2 minusS = false := by rw [drop_cons hlt] at hm; exact hm
    have h2 : Expo (L.drop j) (some (n : Int)) (L.drop (j + 1)) := by rw [drop_cons hlt]; exact .pos hx hk hn
    obtain ⟨rfl, rfl⟩ := he.det h2
    exact ⟨by simp, rfl⟩
theorem expo_none {L : List Tok} {i : Nat} {e : Option Int} {r1 : List Tok} (he : Expo (L.drop i) e r1) {j : Nat} (hj : j = adv (hdT (L.drop i) 2 minusS) i) (hn : j < L.length → (tkAt L j).kind = 1 → expoZ (tkAt L j).text = none) :
    e = none ∧ r1 = L.drop j := by
  cases hm : hdT (L.drop i) 2 minusS with
  | true =>
    rw [adv_true hm] at hj
    subst hj
    have hi := hdT_lt hm
    have hx : isT (tkAt L i) 2 minusS = true := by rw [drop_cons hi] at hm; exact hm
    by_cases hlt : i + 1 < L.length
    · have h2 : Expo (L.drop i) none (L.drop (i + 1)) := by rw [drop_cons hi, drop_cons hlt]; exact .neg_bad hx (hn hlt)
      obtain ⟨rfl, rfl⟩ := he.det h2
      exact ⟨rfl, rfl⟩
    · have h2 : Expo (L.drop i) none (L.drop (i + 1)) := by rw [drop_cons hi, List.drop_eq_nil_of_le (by omega)]; exact .neg_end hx
      obtain ⟨rfl, rfl⟩ := he.det h2
      exact ⟨rfl, rfl⟩
  | false =>
    rw [adv_false hm] at hj
    subst hj
    by_cases hlt : j < L.length
    · have hx : isT (tkAt L j) 2 minusS = false := by rw [drop_cons hlt] at hm; exact hm
      have h2 : Expo (L.drop j) none (L.drop j) := by rw [drop_cons hlt]; exact .pos_bad hx (hn hlt)
      obtain ⟨rfl, rfl⟩ := he.det h2
      exact ⟨rfl, rfl⟩
    · have h2 : Expo (L.drop j) none (L.drop j) := by rw [List.drop_eq_nil_of_le (by omega)]; exact .pos_end
      obtain ⟨rfl, rfl⟩ := he.det h2
      exact ⟨rfl, rfl⟩
theorem rdExpo_any (b i : Nat) (vall vs vi vl vo va : Value) (a : Int) (ns : List NodeV) (K : List Value) (L : List Tok) {I : Hp} (hE : Errs I) (hL : Slc I 4 vall (L.map Tok.cells)) (hn : L.length ≤ 10000) (hs : TkSmall L) (hto : ToksOk L) (hK : K.length ≤ 90000) (hns : ns.length ≤ 90000) (hi : i ≤ L.length) {e : Option Int} {r1 : List Tok} (he : Expo (L.drop i) e r1) :
    Fun Tryz.prog 155 [.pointer (some ⟨b, 0, none⟩)] I [rdB b vall i vs vi vl vo va, skR vs (K ++ [odI a]), ndR va ns]
    (fun v I' B' => I = I' ∧ ((e = none ∧ v = .bool false ∧ ∃ i', i' ≤ L.length ∧ r1 = L.drop i' ∧ B' = [rdB b vall i' vs vi vl vo va, skR vs (K ++ [odI a]), ndR va ns]) ∨
      (∃ z, e = some z ∧ v = .bool true ∧ ∃ i' vs' va' c, i < i' ∧ i' ≤ L.length ∧ r1 = L.drop i' ∧ c.ok I ∧ c.c = powN a z ∧ B' = [rdB b vall i' vs' vi vl vo va', skR vs' (K ++ [odI ns.length]), ndR va' (ns ++ [c])]))) := by
  have hnode : ∀ (c : NodeV) (vs va : Value) (hc : c.ok I) (j : Nat), Fun Tryz.prog 159 [.pointer (some ⟨b, 0, none⟩), ndV c] I [rdB b vall j vs vi vl vo va, skR vs K, ndR va ns]
    (fun v I' B' => I = I' ∧ v = .tuple #[] ∧ ∃ vs' va', B' = [rdB b vall j vs' vi vl vo va', skR vs' (K ++ [odI ns.length]), ndR va' (ns ++ [c])]) := fun c vs va hc j => node_any b j vall vs vi vl vo va c ns K hc hK hns
  obtain ⟨j, hj⟩ : ∃ j, j = adv (hdT (L.drop i) 2 minusS) i := ⟨_, rfl⟩
  have hjl : j ≤ L.length := by rw [hj]; exact adv_le hi
  have hji : i ≤ j := by rw [hj]; unfold adv; split <;> omega
  have hbad : (∀ m, Lib.atoiAll (tkAt L j).text.data.toList ≠ .ok m) → j < L.length → (tkAt L j).kind = 1 → expoZ (tkAt L j).text = none := fun h hlt hk => by
    have hz := hto (tkAt L j) (by rw [tkAt_in (List.getElem?_eq_getElem hlt)]; exact List.getElem_mem hlt) hk
    cases hx : expoZ (tkAt L j).text with
    | none => rfl
    | some n => exact absurd ((expo_atoi hz n).1 hx).1 (h _)
  have hgood : ∀ {n : Int}, Lib.atoiAll (tkAt L j).text.data.toList = .ok n → j < L.length → (tkAt L j).kind = 1 → 0 ≤ n ∧ (n ≤ 20 → expoZ (tkAt L j).text = some n.toNat) ∧ (20 < n → expoZ (tkAt L j).text = none) := fun {n} h hlt hk => by
    have hz := hto (tkAt L j) (by rw [tkAt_in (List.getElem?_eq_getElem hlt)]; exact List.getElem_mem hlt) hk
    have h0 := atoi_pos hz h
    refine ⟨h0, fun h20 => (expo_atoi hz _).2 ⟨by rw [h, Int.toNat_of_nonneg h0], by omega⟩, fun h20 => ?_⟩
    cases hx : expoZ (tkAt L j).text with
    | none => rfl
    | some m =>
      have := (expo_atoi hz m).1 hx
      rw [h] at this
      have h3 := Lib.NumEnd.ok.inj this.1
      omega
  intro w hw
  refine enter1 _ Tryz.func155 rfl Tryz.ntmps155 rfl ?_ hw;refine sR ?_;refine oV ?_;refine nS ?_;refine oV ?_;refine nU ?_;refine oV ?_;refine oC trivial rfl Tryz.call102 rfl (rdMark_any b i vall vs vi vl vo va minusS L hL (by omega)) (by repeat constructor) ?_;rintro _ _ _ hx1 ⟨rfl, rfl, rfl⟩;refine nT ?_;refine cC rfl (fun h1 => ?_) (fun h1 => ?_)
  ·
   have f1 := h1;try simp only [bl] at f1
   refine cR ?_;refine oV ?_;refine oN (tC (cS ?_))
   rw [← hj]
   refine cR ?_;refine oV ?_;refine oC trivial rfl Tryz.call41 rfl (rdNext_any b j vall vs vi vl vo va L hL) (by repeat constructor) ?_;rintro _ _ _ hx2 ⟨rfl, rfl, rfl⟩;iterate 3 refine oV ?_
   refine o_alloc trivial rfl Tryz.zeroValue68 rfl (fun b4 => ?_);refine oS Tryz.sizeOf68 ?_;refine oV ?_;refine nS ?_;refine oF 1 Tryz.underlying68 Tryz.sizeOf9 ?_;refine oL Tryz.isAgg9 ?_;refine o_call0 trivial rfl Tryz.call168 rfl (atoi_any _ hE (by have := hs.at_ j; omega)) ?_;rintro _ ⟨n, er, rfl, hA⟩;iterate 5 refine oV ?_
   refine oN (tC (cS (cS ?_)))
   rcases hA with ⟨hA, rfl⟩ | ⟨hA, N, rfl⟩
   ·
    refine cR ?_;iterate 2 refine oV ?_
    refine' o_or trivial trivial rfl rfl rfl rfl rfl rfl rfl rfl (fun hb23 => ?_) ?_;rotate_left
    ·
     have fb23 := hb23
     try simp only [bl] at fb23
     refine gF hb23 0 Tryz.underlying68 Tryz.sizeOf3 ?_;refine gL hb23 Tryz.isAgg3 ?_;refine gV hb23 ?_;refine oN ?_;exact joins rfl
    refine' o_or trivial trivial rfl rfl rfl rfl rfl rfl rfl rfl (fun hb28 => ?_) ?_;rotate_left
    ·
     refine gV hb28 ?_;refine o_bin (v := .bool false) (wS rfl rfl hb28) rfl rfl rfl (fun w => by kernel_rfl) ?_;refine oN ?_;exact joins rfl
    refine' o_or trivial trivial rfl rfl rfl rfl rfl rfl rfl rfl (fun hb32 => ?_) ?_;rotate_left
    ·
     iterate 2 refine gV hb32 ?_
     refine oN ?_;exact joins rfl
    refine nT ?_;refine cC rfl (fun h2 => ?_) (fun h2 => ?_)
    ·
     have f2 := h2;try simp only [bl] at f2
     have h3 : expoZ (tkAt L j).text = none ∨ ¬ (j < L.length ∧ (tkAt L j).kind = 1) := by
       by_cases hc : j < L.length ∧ (tkAt L j).kind = 1
       · left
         refine (hgood hA hc.1 hc.2).2.2 ?_
         rw [decide_eq_true hc.1, hc.2] at h2
         simpa using h2
       · exact .inr hc
     have hr := expo_none he hj (fun k1 k2 => h3.elim id fun h => absurd ⟨k1, k2⟩ h)
     refine sR ?_;refine oV ?_;refine nF ?_;refine ret1 rfl rfl ?_
     first
     | exact fun w' hw' => ⟨I, [rdB b vall j vs vi vl vo va, skR vs (K ++ [odI a]), ndR va ns], hw'.sort (by repeat constructor), Ext.refl _ _, rfl, .inl ⟨hr.1, rfl, j, hjl, hr.2, rfl⟩⟩
     | exact fun w' hw' => ⟨I, [rdB b vall (j + 1) vs3 vi vl vo va3, skR vs3 (K ++ [odI ns.length]), ndR va3 (ns ++ [_])], hw'.sort (by repeat constructor), Ext.refl _ _, rfl, .inr ⟨_, hr.1, rfl, j + 1, vs3, va3, _, by omega, by omega, hr.2, ⟨Ws.nil _, Ws.nil _⟩, by rw [f1]; rfl, rfl⟩⟩
    have f2 := h2;try simp only [bl] at f2
    have h3 : j < L.length ∧ (tkAt L j).kind = 1 ∧ n ≤ 20 := by
      simp at h2
      exact ⟨h2.1.1, h2.1.2, by omega⟩
    obtain ⟨hn0, hn1, _⟩ := hgood hA h3.1 h3.2.1
    have hr := expo_some he hj h3.1 h3.2.1 (hn1 h3.2.2)
    rw [Int.toNat_of_nonneg hn0] at hr
    refine kS ?_;iterate 2 refine oV ?_
    refine oF 1 Tryz.underlying66 Tryz.sizeOf3 ?_;refine oL Tryz.isAgg3 ?_
    first | (refine o_add trivial rfl rfl rfl ?_ ?_; (omega)) | refine oV ?_
    refine oV ?_;refine oF 1 Tryz.underlying66 Tryz.sizeOf3 ?_;refine oS Tryz.sizeOf3 ?_;refine nS ?_;iterate 2 refine oV ?_
    refine oC trivial rfl Tryz.call158 rfl (rdNumber_any b (j + 1) vall vs vi vl vo va a K (by omega)) (by repeat constructor) ?_;rintro _ _ _ hx4 ⟨rfl, rfl, vs2, rfl⟩;iterate 2 refine oV ?_
    first | (refine o_mul trivial rfl rfl rfl ?_ ?_; (omega)) | refine oV ?_
    refine o_buildS trivial rfl (bld44) rfl (.cons rfl rfl rfl (by repeat constructor) (.cons rfl rfl rfl (by repeat constructor) (.cons rfl rfl rfl (by repeat constructor) .nil))) ?_;refine oC trivial rfl Tryz.call159 rfl (hnode ⟨powN a (_ * n), .slice none 0 0, .slice none 0 0⟩ vs2 va ⟨Ws.nil _, Ws.nil _⟩ (j + 1)) (by repeat constructor) ?_;rintro _ _ _ hx5 ⟨rfl, rfl, vs3, va3, rfl⟩;refine nS ?_;refine oV ?_;refine nE ?_;refine ret1 rfl rfl ?_
    first
    | exact fun w' hw' => ⟨I, [rdB b vall j vs vi vl vo va, skR vs (K ++ [odI a]), ndR va ns], hw'.sort (by repeat constructor), Ext.refl _ _, rfl, .inl ⟨hr.1, rfl, j, hjl, hr.2, rfl⟩⟩
    | exact fun w' hw' => ⟨I, [rdB b vall (j + 1) vs3 vi vl vo va3, skR vs3 (K ++ [odI ns.length]), ndR va3 (ns ++ [_])], hw'.sort (by repeat constructor), Ext.refl _ _, rfl, .inr ⟨_, hr.1, rfl, j + 1, vs3, va3, _, by omega, by omega, hr.2, ⟨Ws.nil _, Ws.nil _⟩, by rw [f1]; rfl, rfl⟩⟩
   refine cR ?_;iterate 2 refine oV ?_
   refine' o_or trivial trivial rfl rfl rfl rfl rfl rfl rfl rfl (fun hb23 => ?_) ?_;rotate_left
   ·
    have fb23 := hb23
    try simp only [bl] at fb23
    refine gF hb23 0 Tryz.underlying68 Tryz.sizeOf3 ?_;refine gL hb23 Tryz.isAgg3 ?_;refine gV hb23 ?_;refine oN ?_;exact joins rfl
   refine' o_or trivial trivial rfl rfl rfl rfl rfl rfl rfl rfl (fun hb28 => ?_) ?_;rotate_left
   ·
    refine gV hb28 ?_;refine o_bin (v := .bool true) (wS rfl rfl hb28) rfl rfl rfl (fun w => by kernel_rfl) ?_;refine oN ?_;exact joins rfl
   refine' o_or trivial trivial rfl rfl rfl rfl rfl rfl rfl rfl (fun hb32 => ?_) ?_;rotate_left
   ·
    iterate 2 refine gV hb32 ?_
    refine oN ?_;exact joins rfl
   refine nT ?_;refine cC rfl (fun h2 => ?_) (fun h2 => ?_)
   ·
    have f2 := h2;try simp only [bl] at f2
    have hr := expo_none he hj (hbad hA)
    refine sR ?_;refine oV ?_;refine nF ?_;refine ret1 rfl rfl ?_;exact fun w' hw' => ⟨I, [rdB b vall j vs vi vl vo va, skR vs (K ++ [odI a]), ndR va ns], hw'.sort (by repeat constructor), Ext.refl _ _, rfl, .inl ⟨hr.1, rfl, j, hjl, hr.2, rfl⟩⟩
   have f2 := h2;try simp only [bl] at f2
   exfalso; rw [Bool.or_true, Bool.true_or] at h2; cases h2
  have f1 := h1;try simp only [bl] at f1
  refine cK (tC (cS ?_))
  rw [← hj]
  refine cR ?_;refine oV ?_;refine oC trivial rfl Tryz.call41 rfl (rdNext_any b j vall vs vi vl vo va L hL) (by repeat constructor) ?_;rintro _ _ _ hx2 ⟨rfl, rfl, rfl⟩;iterate 3 refine oV ?_
  refine o_alloc trivial rfl Tryz.zeroValue68 rfl (fun b4 => ?_);refine oS Tryz.sizeOf68 ?_;refine oV ?_;refine nS ?_;refine oF 1 Tryz.underlying68 Tryz.sizeOf9 ?_;refine oL Tryz.isAgg9 ?_;refine o_call0 trivial rfl Tryz.call168 rfl (atoi_any _ hE (by have := hs.at_ j; omega)) ?_;rintro _ ⟨n, er, rfl, hA⟩;iterate 5 refine oV ?_
  refine oN (tC (cS (cS ?_)))
  rcases hA with ⟨hA, rfl⟩ | ⟨hA, N, rfl⟩
  ·
   refine cR ?_;iterate 2 refine oV ?_
   refine' o_or trivial trivial rfl rfl rfl rfl rfl rfl rfl rfl (fun hb23 => ?_) ?_;rotate_left
   ·
    have fb23 := hb23
    try simp only [bl] at fb23
    refine gF hb23 0 Tryz.underlying68 Tryz.sizeOf3 ?_;refine gL hb23 Tryz.isAgg3 ?_;refine gV hb23 ?_;refine oN ?_;exact joins rfl
   refine' o_or trivial trivial rfl rfl rfl rfl rfl rfl rfl rfl (fun hb28 => ?_) ?_;rotate_left
   ·
    refine gV hb28 ?_;refine o_bin (v := .bool false) (wS rfl rfl hb28) rfl rfl rfl (fun w => by kernel_rfl) ?_;refine oN ?_;exact joins rfl
   refine' o_or trivial trivial rfl rfl rfl rfl rfl rfl rfl rfl (fun hb32 => ?_) ?_;rotate_left
   ·
    iterate 2 refine gV hb32 ?_
    refine oN ?_;exact joins rfl
   refine nT ?_;refine cC rfl (fun h2 => ?_) (fun h2 => ?_)
   ·
    have f2 := h2;try simp only [bl] at f2
    have h3 : expoZ (tkAt L j).text = none ∨ ¬ (j < L.length ∧ (tkAt L j).kind = 1) := by
      by_cases hc : j < L.length ∧ (tkAt L j).kind = 1
      · left
        refine (hgood hA hc.1 hc.2).2.2 ?_
        rw [decide_eq_true hc.1, hc.2] at h2
        simpa using h2
      · exact .inr hc
    have hr := expo_none he hj (fun k1 k2 => h3.elim id fun h => absurd ⟨k1, k2⟩ h)
    refine sR ?_;refine oV ?_;refine nF ?_;refine ret1 rfl rfl ?_
    first
    | exact fun w' hw' => ⟨I, [rdB b vall j vs vi vl vo va, skR vs (K ++ [odI a]), ndR va ns], hw'.sort (by repeat constructor), Ext.refl _ _, rfl, .inl ⟨hr.1, rfl, j, hjl, hr.2, rfl⟩⟩
    | exact fun w' hw' => ⟨I, [rdB b vall (j + 1) vs3 vi vl vo va3, skR vs3 (K ++ [odI ns.length]), ndR va3 (ns ++ [_])], hw'.sort (by repeat constructor), Ext.refl _ _, rfl, .inr ⟨_, hr.1, rfl, j + 1, vs3, va3, _, by omega, by omega, hr.2, ⟨Ws.nil _, Ws.nil _⟩, by rw [f1]; rfl, rfl⟩⟩
   have f2 := h2;try simp only [bl] at f2
   have h3 : j < L.length ∧ (tkAt L j).kind = 1 ∧ n ≤ 20 := by
     simp at h2
     exact ⟨h2.1.1, h2.1.2, by omega⟩
   obtain ⟨hn0, hn1, _⟩ := hgood hA h3.1 h3.2.1
   have hr := expo_some he hj h3.1 h3.2.1 (hn1 h3.2.2)
   rw [Int.toNat_of_nonneg hn0] at hr
   refine kS ?_;iterate 2 refine oV ?_
   refine oF 1 Tryz.underlying66 Tryz.sizeOf3 ?_;refine oL Tryz.isAgg3 ?_
   first | (refine o_add trivial rfl rfl rfl ?_ ?_; (omega)) | refine oV ?_
   refine oV ?_;refine oF 1 Tryz.underlying66 Tryz.sizeOf3 ?_;refine oS Tryz.sizeOf3 ?_;refine nS ?_;iterate 2 refine oV ?_
   refine oC trivial rfl Tryz.call158 rfl (rdNumber_any b (j + 1) vall vs vi vl vo va a K (by omega)) (by repeat constructor) ?_;rintro _ _ _ hx4 ⟨rfl, rfl, vs2, rfl⟩;iterate 2 refine oV ?_
   first | (refine o_mul trivial rfl rfl rfl ?_ ?_; (omega)) | refine oV ?_
   refine o_buildS trivial rfl (bld44) rfl (.cons rfl rfl rfl (by repeat constructor) (.cons rfl rfl rfl (by repeat constructor) (.cons rfl rfl rfl (by repeat constructor) .nil))) ?_;refine oC trivial rfl Tryz.call159 rfl (hnode ⟨powN a (_ * n), .slice none 0 0, .slice none 0 0⟩ vs2 va ⟨Ws.nil _, Ws.nil _⟩ (j + 1)) (by repeat constructor) ?_;rintro _ _ _ hx5 ⟨rfl, rfl, vs3, va3, rfl⟩;refine nS ?_;refine oV ?_;refine nE ?_;refine ret1 rfl rfl ?_
   first
   | exact fun w' hw' => ⟨I, [rdB b vall j vs vi vl vo va, skR vs (K ++ [odI a]), ndR va ns], hw'.sort (by repeat constructor), Ext.refl _ _, rfl, .inl ⟨hr.1, rfl, j, hjl, hr.2, rfl⟩⟩
   | exact fun w' hw' => ⟨I, [rdB b vall (j + 1) vs3 vi vl vo va3, skR vs3 (K ++ [odI ns.length]), ndR va3 (ns ++ [_])], hw'.sort (by repeat constructor), Ext.refl _ _, rfl, .inr ⟨_, hr.1, rfl, j + 1, vs3, va3, _, by omega, by omega, hr.2, ⟨Ws.nil _, Ws.nil _⟩, by rw [f1]; rfl, rfl⟩⟩
  refine cR ?_;iterate 2 refine oV ?_
  refine' o_or trivial trivial rfl rfl rfl rfl rfl rfl rfl rfl (fun hb23 => ?_) ?_;rotate_left
  ·
   have fb23 := hb23
   try simp only [bl] at fb23
   refine gF hb23 0 Tryz.underlying68 Tryz.sizeOf3 ?_;refine gL hb23 Tryz.isAgg3 ?_;refine gV hb23 ?_;refine oN ?_;exact joins rfl
  refine' o_or trivial trivial rfl rfl rfl rfl rfl rfl rfl rfl (fun hb28 => ?_) ?_;rotate_left
  ·
   refine gV hb28 ?_;refine o_bin (v := .bool true) (wS rfl rfl hb28) rfl rfl rfl (fun w => by kernel_rfl) ?_;refine oN ?_;exact joins rfl
  refine' o_or trivial trivial rfl rfl rfl rfl rfl rfl rfl rfl (fun hb32 => ?_) ?_;rotate_left
  ·
   iterate 2 refine gV hb32 ?_
   refine oN ?_;exact joins rfl
  refine nT ?_;refine cC rfl (fun h2 => ?_) (fun h2 => ?_)
  ·
   have f2 := h2;try simp only [bl] at f2
   have hr := expo_none he hj (hbad hA)
   refine sR ?_;refine oV ?_;refine nF ?_;refine ret1 rfl rfl ?_;exact fun w' hw' => ⟨I, [rdB b vall j vs vi vl vo va, skR vs (K ++ [odI a]), ndR va ns], hw'.sort (by repeat constructor), Ext.refl _ _, rfl, .inl ⟨hr.1, rfl, j, hjl, hr.2, rfl⟩⟩
  have f2 := h2;try simp only [bl] at f2
  exfalso; rw [Bool.or_true, Bool.true_or] at h2; cases h2
theorem rdExpo_u (b i : Nat) (vall vs vi vl vo va : Value) (a : Int) (ns : List NodeV) (K : List Value) (L : List Tok) {I : Hp} (hE : Errs I) (hL : Slc I 4 vall (L.map Tok.cells)) (hn : L.length ≤ 10000) (hs : TkSmall L) (hto : ToksOk L) (hK : K.length ≤ 90000) (hns : ns.length ≤ 90000) (hi : i ≤ L.length) {e : Option Int} {r1 : List Tok} (he : Expo (L.drop i) e r1) :
    Fun Tryz.prog 155 [.pointer (some ⟨b, 0, none⟩)] I [rdB b vall i vs vi vl vo va, skR vs (K ++ [odI a]), ndR va ns]
    (fun v I' B' => I = I' ∧ ∃ ok i' vs' va' ns' Kv, v = .bool ok ∧ B' = [rdB b vall i' vs' vi vl vo va', skR vs' Kv, ndR va' ns'] ∧ i' ≤ L.length ∧ (ok = false → e = none ∧ r1 = L.drop i') ∧
      (ok = true → ∃ z c, e = some z ∧ r1 = L.drop i' ∧ i < i' ∧ c.ok I ∧ c.c = powN a z ∧ Kv = K ++ [odI ns.length] ∧ ns' = ns ++ [c])) :=
  fun_mono (rdExpo_any b i vall vs vi vl vo va a ns K L hE hL hn hs hto hK hns hi he) fun v I' B' h => by
    rcases h with ⟨rfl, ⟨h1, rfl, i', h2, h3, rfl⟩ | ⟨z, h1, rfl, i', vs', va', c, h2, h3, h4, h5, h6, rfl⟩⟩
    · exact ⟨rfl, _, i', _, _, _, _, rfl, rfl, h2, fun _ => ⟨h1, h3⟩, fun h => by cases h⟩
    · exact ⟨rfl, _, i', _, _, _, _, rfl, rfl, h3, fun h => (by cases h), fun _ => ⟨z, c, h1, h4, h2, h5, h6, rfl, rfl⟩⟩
theorem rdAtom_yes (b i : Nat) (vall vs vi vl vo va : Value) (ns : List NodeV) (K : List Value) (L : List Tok) {I : Hp} (hM : Mx I) (hL : Slc I 4 vall (L.map Tok.cells)) (hn : L.length ≤ 10000) (hs : TkSmall L) (hto : ToksOk L) (hK : K.length ≤ 90000) (hns : ns.length ≤ 90000) (hlt : i < L.length) (hlf : leafT (tkAt L i) = true) :
    Fun Tryz.prog 154 [.pointer (some ⟨b, 0, none⟩)] I [rdB b vall i vs vi vl vo va, skR vs K, ndR va ns]
    (fun v I' B' => v = .bool true ∧ ∃ vs' va' c, c.ok I' ∧ c.c = leafN (tkAt L i) ∧ B' = [rdB b vall (i + 1) vs' vi vl vo va', skR vs' (K ++ [odI ns.length]), ndR va' (ns ++ [c])]) :=
  fun_mono (rdAtom_any b i vall vs vi vl vo va ns K L hM hL hn hs hto hK hns) fun v I' B' h => by
    rcases h with ⟨h1, h2, h3, h4⟩ | ⟨h1, _, _, h2⟩
    · rw [h4 hlt] at hlf; cases hlf
    · exact ⟨h1, h2⟩
theorem rdAtom_no (b i : Nat) (vall vs vi vl vo va : Value) (ns : List NodeV) (K : List Value) (L : List Tok) {I : Hp} (hM : Mx I) (hL : Slc I 4 vall (L.map Tok.cells)) (hn : L.length ≤ 10000) (hs : TkSmall L) (hto : ToksOk L) (hK : K.length ≤ 90000) (hns : ns.length ≤ 90000) (hlf : ¬ (i < L.length ∧ leafT (tkAt L i) = true)) :
    Fun Tryz.prog 154 [.pointer (some ⟨b, 0, none⟩)] I [rdB b vall i vs vi vl vo va, skR vs K, ndR va ns]
    (fun v I' B' => I = I' ∧ v = .bool false ∧ B' = [rdB b vall i vs vi vl vo va, skR vs K, ndR va ns]) :=
  fun_mono (rdAtom_any b i vall vs vi vl vo va ns K L hM hL hn hs hto hK hns) fun v I' B' h => by
    rcases h with ⟨h1, h2, h3, h4⟩ | ⟨h1, h2, h3, _⟩
    · exact ⟨h2, h1, h3⟩
    · exact absurd ⟨h2, h3⟩ hlf
structure Rd (L : List Tok) (I : Hp) (i' : Nat) (ns' : List NodeV) (Kv : List Value) (K' : List Fr) : Prop where
  kv : Kv = stk K' ++ [odI (lastN ns')]
  fr : FrOk K'
  ok : ∀ o ∈ ns', o.ok I
  pos : 1 ≤ ns'.length
  few : ns'.length + K'.length ≤ i'
theorem run_minus {L : List Tok} {K : List Fr} {all : List NodeC} {i : Nat} {o : POut} (h : RunE K all (L.drop i) o) (hm : hdT (L.drop i) 2 minusS = true) : RunE (.neg :: K) all (L.drop (i + 1)) o := by
  have hi := hdT_lt hm
  rw [drop_cons hi] at h hm
  exact h.minus hm
theorem run_lpar {L : List Tok} {K : List Fr} {all : List NodeC} {i : Nat} {o : POut} (h : RunE K all (L.drop i) o) (hm : hdT (L.drop i) 2 lpar = true) : RunE (.br :: K) all (L.drop (i + 1)) o := by
  have hi := hdT_lt hm
  rw [drop_cons hi] at h hm
  exact h.bracket hm
theorem run_leaf {L : List Tok} {K : List Fr} {all : List NodeC} {i : Nat} {o : POut} (h : RunE K all (L.drop i) o) (h0 : hdT (L.drop i) 2 minusS = false) (h1 : hdT (L.drop i) 2 lpar = false) (hlt : i < L.length) (hl : leafT (tkAt L i) = true) : RunA K (all ++ [leafN (tkAt L i)]) (L.drop (i + 1)) o := by
  rw [drop_cons hlt] at h h0 h1
  have := h.leaf h0 h1
  rwa [if_pos hl] at this
theorem run_noleaf {L : List Tok} {K : List Fr} {all : List NodeC} {i : Nat} {o : POut} (h : RunE K all (L.drop i) o) (h0 : hdT (L.drop i) 2 minusS = false) (h1 : hdT (L.drop i) 2 lpar = false) (hl : ¬ (i < L.length ∧ leafT (tkAt L i) = true)) : o = .bad (L.drop i) := by
  by_cases hlt : i < L.length
  · rw [drop_cons hlt] at h h0 h1 ⊢
    have := h.leaf h0 h1
    rwa [if_neg (fun e => hl ⟨hlt, e⟩)] at this
  · rw [List.drop_eq_nil_of_le (by omega)] at h ⊢
    exact h.nil
theorem rdOpen_any (b i : Nat) (vall vs vi vl vo va : Value) (ns : List NodeV) (K : List Fr) (L : List Tok) {I : Hp} (hM : Mx I) (hL : Slc I 4 vall (L.map Tok.cells)) (hn : L.length ≤ 10000) (hs : TkSmall L) (hto : ToksOk L) (hK : FrOk K) (hok : ∀ o ∈ ns, o.ok I) (hb : ns.length + K.length ≤ i) (hi : i ≤ L.length) {o : POut} (h : RunE K (ns.map NodeV.c) (L.drop i) o) :
    Fun Tryz.prog 131 [.pointer (some ⟨b, 0, none⟩)] I [rdB b vall i vs vi vl vo va, skR vs (stk K), ndR va ns]
    (fun v I' B' => ∃ ok i' vs' va' ns' Kv, v = .bool ok ∧ B' = [rdB b vall i' vs' vi vl vo va', skR vs' Kv, ndR va' ns'] ∧ i' ≤ L.length ∧ (ok = false → o = .bad (L.drop i')) ∧ (ok = true → ∃ K', Rd L I' i' ns' Kv K' ∧ RunA K' (ns'.map NodeV.c) (L.drop i') o ∧ i < i')) := by
  intro w hw
  refine enter1 _ Tryz.func131 rfl Tryz.ntmps131 rfl ?_ hw;refine sR ?_;refine oV ?_;refine oN (tC (cB ?_));refine c_loop (ι := Nat × List Fr × Value) [0] (.cons rfl .nil) (fun x => L.length - x.1) (fun x E0 => E0) (fun x => St w (keysOf [rdB b vall i vs vi vl vo va, skR vs (stk K), ndR va ns]) I [rdB b vall x.1 x.2.2 vi vl vo va, skR x.2.2 (stk x.2.1), ndR va ns]) (fun x => x.1 ≤ L.length ∧ FrOk x.2.1 ∧ ns.length + x.2.1.length ≤ x.1 ∧ RunE x.2.1 (ns.map NodeV.c) (L.drop x.1) o ∧ i ≤ x.1) ((i, K, vs)) (sC rfl sN) (fun _ h => h) (⟨hi, hK, hb, h, Nat.le_refl _⟩) ?_;rintro ⟨j, K1, us⟩ ⟨hj, hK1, hb1, hr, hij⟩
  try dsimp only
  simp only at hj hK1 hb1 hr hij; have hst := stk_len K1
  refine cB (cB (sR ?_));refine oV ?_;refine oC trivial rfl Tryz.call102 rfl (rdMark_any b j vall us vi vl vo va minusS L hL (by omega)) (by repeat constructor) ?_;rintro _ _ _ hx1 ⟨rfl, rfl, rfl⟩;refine oV ?_;refine nT ?_;refine cC rfl (fun h1 => ?_) (fun h1 => ?_)
  ·
   have f1 := h1;try simp only [bl] at f1
   have hm : hdT (L.drop j) 2 minusS = true := h1
   rw [adv_true hm]
   have hlt := hdT_lt hm
   refine cR ?_;refine oV ?_;refine o_buildS trivial rfl (bld162) rfl (.cons rfl rfl rfl (by repeat constructor) (.cons rfl rfl rfl (by repeat constructor) .nil)) ?_;refine o_ifaceS trivial rfl rfl (fun w => by kernel_rfl) ?_;refine oC trivial rfl Tryz.call135 rfl (push_any b (j + 1) vall us vi vl vo va (opV 6 3 false) 162 (stk K1) (by omega)) (by repeat constructor) ?_;rintro _ _ _ hx2 ⟨rfl, rfl, us2, rfl⟩;refine oN (blk_n (blk_n ?_))
   first
   | exact again (j + 1, .neg :: K1, us2) (sC rfl sN) (fun _ h => h.sort (by repeat constructor)) (by show L.length - (j + 1) < L.length - j; omega) ⟨by show j + 1 ≤ _; omega, hK1, by show ns.length + (K1.length + 1) ≤ j + 1; omega, run_minus hr hm, by show i ≤ j + 1; omega⟩
   | exact again (j + 1, .br :: K1, us2) (sC rfl sN) (fun _ h => h.sort (by repeat constructor)) (by show L.length - (j + 1) < L.length - j; omega) ⟨by show j + 1 ≤ _; omega, hK1, by show ns.length + (K1.length + 1) ≤ j + 1; omega, run_lpar hr hq, by show i ≤ j + 1; omega⟩
  have f1 := h1;try simp only [bl] at f1
  have hm : hdT (L.drop j) 2 minusS = false := h1
  rw [adv_false hm]
  refine sR ?_;refine oV ?_;refine oC trivial rfl Tryz.call102 rfl (rdMark_any b j vall us vi vl vo va lpar L hL (by omega)) (by repeat constructor) ?_;rintro _ _ _ hx1 ⟨rfl, rfl, rfl⟩;refine oV ?_;refine nT ?_;refine cC rfl (fun h2 => ?_) (fun h2 => ?_)
  ·
   have f2 := h2;try simp only [bl] at f2
   have hq : hdT (L.drop j) 2 lpar = true := h2
   rw [adv_true hq]
   have hlt := hdT_lt hq
   refine cR ?_;refine oV ?_;refine o_buildS trivial rfl (bld162) rfl (.cons rfl rfl rfl (by repeat constructor) .nil) ?_;refine o_ifaceS trivial rfl rfl (fun w => by kernel_rfl) ?_;refine oC trivial rfl Tryz.call135 rfl (push_any b (j + 1) vall us vi vl vo va (opV 0 0 true) 162 (stk K1) (by omega)) (by repeat constructor) ?_;rintro _ _ _ hx2 ⟨rfl, rfl, us2, rfl⟩;refine oN (blk_n (blk_n ?_))
   first
   | exact again (j + 1, .neg :: K1, us2) (sC rfl sN) (fun _ h => h.sort (by repeat constructor)) (by show L.length - (j + 1) < L.length - j; omega) ⟨by show j + 1 ≤ _; omega, hK1, by show ns.length + (K1.length + 1) ≤ j + 1; omega, run_minus hr hm, by show i ≤ j + 1; omega⟩
   | exact again (j + 1, .br :: K1, us2) (sC rfl sN) (fun _ h => h.sort (by repeat constructor)) (by show L.length - (j + 1) < L.length - j; omega) ⟨by show j + 1 ≤ _; omega, hK1, by show ns.length + (K1.length + 1) ≤ j + 1; omega, run_lpar hr hq, by show i ≤ j + 1; omega⟩
  have f2 := h2;try simp only [bl] at f2
  have hq : hdT (L.drop j) 2 lpar = false := h2
  rw [adv_false hq]
  refine cS ?_
  by_cases hlf : j < L.length ∧ leafT (tkAt L j) = true
  ·
   refine cR ?_;refine oV ?_;refine oC trivial rfl Tryz.call154 rfl (rdAtom_yes b j vall us vi vl vo va ns (stk K1) L hM hL hn hs hto (by omega) (by omega) hlf.1 hlf.2) (by repeat constructor) ?_;rintro _ I3 _ hx3 ⟨rfl, us3, va3, c3, hc3, hcc, rfl⟩;refine oV ?_;refine oN (tC (cT (blk_r (blk_r (tR (blk_r ?_))))));refine ret1 rfl rfl ?_;refine fun w' hw' => ⟨I3, _, hw'.sort (by repeat constructor), hx3, true, j + 1, us3, va3, ns ++ [c3], _, rfl, rfl, hlf.1, fun h => (by cases h), fun _ => ⟨K1, ⟨by rw [lastN_more], hK1, ?_, by simp, by rw [List.length_append]; show ns.length + 1 + K1.length ≤ j + 1; omega⟩, ?_, by omega⟩⟩
   · intro o ho
     rcases List.mem_append.1 ho with ho | ho
     · exact (hok o ho).le hx3.le
     · rw [List.mem_singleton.1 ho]; exact hc3
   · rw [List.map_append]
     show RunA K1 (ns.map NodeV.c ++ [c3.c]) _ _
     rw [hcc]
     exact run_leaf hr hm hq hlf.1 hlf.2
  refine cR ?_;refine oV ?_;refine oC trivial rfl Tryz.call154 rfl (rdAtom_no b j vall us vi vl vo va ns (stk K1) L hM hL hn hs hto (by omega) (by omega) hlf) (by repeat constructor) ?_;rintro _ _ _ hx3 ⟨rfl, rfl, rfl⟩;refine oV ?_;refine oN (tC (cT (blk_r (blk_r (tR (blk_r ?_))))));refine ret1 rfl rfl ?_;exact fun w' hw' => ⟨I, [rdB b vall j us vi vl vo va, skR us (stk K1), ndR va ns], hw'.sort (by repeat constructor), Ext.refl _ _, false, j, us, va, ns, _, rfl, rfl, hj, fun _ => run_noleaf hr hm hq hlf, fun h => by cases h⟩
theorem run_nocaret {L : List Tok} {K : List Fr} {all : List NodeC} {i : Nat} {o : POut} (h : RunA K all (L.drop i) o) (hm : hdT (L.drop i) 2 caret = false) : RunM K true all (L.drop i) o := h.none hm
theorem run_caret {L : List Tok} {K : List Fr} {all : List NodeC} {i : Nat} {o : POut} {e : Option Int} {r1 : List Tok} (h : RunA K all (L.drop i) o) (hm : hdT (L.drop i) 2 caret = true) (he : Expo (L.drop (i + 1)) e r1) : match e with
    | some e => RunM K true (all ++ [powN (lastI all) e]) r1 o
    | none => o = .bad r1 := by
  have hi := hdT_lt hm
  rw [drop_cons hi] at h hm
  cases e <;> exact h.caret hm he
theorem run_shut {L : List Tok} {K : List Fr} {all : List NodeC} {i : Nat} {o : POut} (hK : FrOk K) (h : RunM K true all (L.drop i) o) (hm : hdT (L.drop i) 2 rpar = true) : match (foldK 0 K all).1 with
    | .br :: K' => RunA K' (foldK 0 K all).2 (L.drop (i + 1)) o
    | _ => o = .bad (L.drop i) := by
  have hi := hdT_lt hm
  rw [drop_cons hi] at h hm ⊢
  exact h.shut hK hm
theorem frOk_br {K : List Fr} (h : FrOk (.br :: K)) : FrOk K := h
theorem rdShut_any (b i : Nat) (vall vs vi vl vo va : Value) (ns : List NodeV) (K : List Fr) (L : List Tok) {I : Hp} (hE : Errs I) (hL : Slc I 4 vall (L.map Tok.cells)) (hn : L.length ≤ 10000) (hs : TkSmall L) (hto : ToksOk L) (hK : FrOk K) (hok : ∀ o ∈ ns, o.ok I) (h1 : 1 ≤ ns.length) (hb : ns.length + K.length ≤ i) (hi : i ≤ L.length) {o : POut} (h : RunA K (ns.map NodeV.c) (L.drop i) o) :
    Fun Tryz.prog 132 [.pointer (some ⟨b, 0, none⟩)] I [rdB b vall i vs vi vl vo va, skR vs (stk K ++ [odI (lastN ns)]), ndR va ns]
    (fun v I' B' => I = I' ∧ ∃ ok i' vs' va' ns' Kv, v = .bool ok ∧ B' = [rdB b vall i' vs' vi vl vo va', skR vs' Kv, ndR va' ns'] ∧ i' ≤ L.length ∧ (ok = false → o = .bad (L.drop i')) ∧ (ok = true → ∃ K', Rd L I i' ns' Kv K' ∧ RunM K' true (ns'.map NodeV.c) (L.drop i') o ∧ hdT (L.drop i') 2 rpar = false ∧ i ≤ i')) := by
  intro w hw
  refine enter1 _ Tryz.func132 rfl Tryz.ntmps132 rfl ?_ hw;refine sR ?_;refine oV ?_;refine oN (tC (cB ?_));refine c_loop (ι := Nat × List Fr × List NodeV × Value × Value) [0] (.cons rfl .nil) (fun x => L.length - x.1) (fun x E0 => E0) (fun x => St w (keysOf [rdB b vall i vs vi vl vo va, skR vs (stk K ++ [odI (lastN ns)]), ndR va ns]) I [rdB b vall x.1 x.2.2.2.1 vi vl vo x.2.2.2.2, skR x.2.2.2.1 (stk x.2.1 ++ [odI (lastN x.2.2.1)]), ndR x.2.2.2.2 x.2.2.1]) (fun x => x.1 ≤ L.length ∧ FrOk x.2.1 ∧ (∀ o ∈ x.2.2.1, o.ok I) ∧ 1 ≤ x.2.2.1.length ∧ x.2.2.1.length + x.2.1.length ≤ x.1 ∧ RunA x.2.1 (x.2.2.1.map NodeV.c) (L.drop x.1) o ∧ i ≤ x.1) ((i, K, ns, vs, va)) (sC rfl sN) (fun _ h => h) (⟨hi, hK, hok, h1, hb, h, Nat.le_refl _⟩) ?_;rintro ⟨j, K1, n0, us, ua⟩ ⟨hj, hK1, hok0, hn0, hb0, hr, hij⟩
  try dsimp only
  simp only at hj hK1 hok0 hn0 hb0 hr hij; have hst := stk_len K1
  refine cB (cS (sR ?_));refine oV ?_;refine oC trivial rfl Tryz.call102 rfl (rdMark_any b j vall us vi vl vo ua caret L hL (by omega)) (by repeat constructor) ?_;rintro _ _ _ hx1 ⟨rfl, rfl, rfl⟩;refine o_fork trivial rfl rfl (fun hb10 => ?_) (fun hb10 => ?_)
  ·
   have fb10 := hb10
   try simp only [bl] at fb10
   have hm : hdT (L.drop j) 2 caret = true := hb10
   rw [adv_true hm]
   have hlt := hdT_lt hm
   obtain ⟨e, r1, he⟩ := Expo.some_out (L.drop (j + 1))
   have hce := run_caret hr hm he
   refine o_pv (wS rfl rfl rfl) rfl rfl ?_;refine oC (wS rfl rfl rfl) rfl Tryz.call155 rfl (rdExpo_u b (j + 1) vall us vi vl vo ua (lastN n0) n0 (stk K1) L hE hL hn hs hto (by omega) (by omega) (by omega) he) (by repeat constructor) ?_;rintro _ _ _ hx2 ⟨rfl, ok, j1, us1, ua1, n1, Kv, rfl, rfl, hj1, hno, hyes⟩;refine o_pv (wS rfl rfl rfl) rfl rfl ?_;refine oV ?_;refine nT ?_;refine cC rfl (fun h1 => ?_) (fun h1 => ?_)
   ·
    have f1 := h1;try simp only [bl] at f1
    have hk : ok = false := by simpa using f1
    obtain ⟨rfl, rfl⟩ := hno hk
    refine sR ?_;refine oV ?_;refine oN (tC (cT (tR (blk_r (tR (blk_r ?_))))));refine ret1 rfl rfl ?_
    first
    | exact fun w' hw' => ⟨I, _, hw'.sort (by repeat constructor), Ext.refl _ _, rfl, false, j1, us1, ua1, n1, Kv, rfl, rfl, hj1, fun _ => hce, fun h => by cases h⟩
    | exact fun w' hw' => ⟨I, [rdB b vall j1 us2 vi vl vo ua2, skR us2 (stk K2 ++ [odI (lastN n2)]), ndR ua2 n2], hw'.sort (by repeat constructor), Ext.refl _ _, rfl, true, j1, us2, ua2, n2, _, rfl, rfl, hj1, fun h => (by cases h), fun _ => ⟨K2, ⟨rfl, hK2, hok2, hn2, by omega⟩, hM2, hp, hij1⟩⟩
    | exact fun w' hw' => ⟨I, [rdB b vall j1 us3 vi vl vo ua3, skR us3 (stk [] ++ [odI (lastN n3)]), ndR ua3 n3], hw'.sort (by repeat constructor), Ext.refl _ _, rfl, false, j1, us3, ua3, n3, _, rfl, rfl, hj1, fun _ => hsh, fun h => by cases h⟩
    | exact fun w' hw' => ⟨I, [rdB b vall j1 us3 vi vl vo ua3, skR us3 (stk K4 ++ preF f ++ [opI (opK f) (opP f) (opB f)] ++ [odI (lastN n3)]), ndR ua3 n3], hw'.sort (by repeat constructor), Ext.refl _ _, rfl, false, j1, us3, ua3, n3, _, rfl, rfl, hj1, fun _ => hfin, fun h => by cases h⟩
   have f1 := h1;try simp only [bl] at f1
   have hk : ok = true := by simpa using f1
   obtain ⟨z, c, rfl, rfl, hlt1, hc1, hc2, rfl, rfl⟩ := hyes hk
   have hok1 : ∀ o ∈ n0 ++ [c], o.ok I := fun o ho => by
     rcases List.mem_append.1 ho with ho | ho
     · exact hok0 o ho
     · rw [List.mem_singleton.1 ho]; exact hc1
   have hM : RunM K1 true ((n0 ++ [c]).map NodeV.c) (L.drop j1) o := by rw [List.map_append]; show RunM K1 true (n0.map NodeV.c ++ [c.c]) _ _; rw [hc2, lastN_eq]; exact hce
   have hln : (n0 ++ [c]).length = n0.length + 1 := by simp
   rw [← lastN_more n0 c]
   have hij1 : i ≤ j1 := by omega
   have hb1 : (n0 ++ [c]).length + K1.length ≤ j1 := by omega
   have hn1 : 1 ≤ (n0 ++ [c]).length := by omega
   have hjj : j ≤ j1 := by omega
   generalize n0 ++ [c] = n1 at hok1 hM hb1 hn1 ⊢
   refine kS ?_;refine oV ?_;refine oC trivial rfl Tryz.call134 rfl (fold_any b j1 vall us1 vi vl vo ua1 3 n1 K1 hK1 hok1 (by omega) hn1) (by repeat constructor) ?_;rintro _ _ _ hx3 ⟨rfl, rfl, us2, ua2, n2, rfl, hc2, hok2, hn2, hb2⟩;refine oN (tC (cS ?_))
   have hM2 := RunM.fold (b := 3) (.inl rfl) hK1 hM
   have hK2 := foldK_ok (b := 3) (all := n1.map NodeV.c) hK1
   rw [← hc2] at hM2
   generalize (foldK 3 K1 (n1.map NodeV.c)).1 = K2 at hM2 hK2 hb2 ⊢
   refine cR ?_;refine oV ?_;refine oC trivial rfl Tryz.call41 rfl (rdNext_any b j1 vall us2 vi vl vo ua2 L hL) (by repeat constructor) ?_;rintro _ _ _ hx4 ⟨rfl, rfl, rfl⟩;iterate 3 refine oV ?_
   refine o_alloc trivial rfl Tryz.zeroValue68 rfl (fun b3 => ?_);refine oS Tryz.sizeOf68 ?_;refine oV ?_;refine nU ?_;refine oF 0 Tryz.underlying68 Tryz.sizeOf3 ?_;refine oL Tryz.isAgg3 ?_;refine oV ?_;refine' o_or trivial trivial rfl rfl rfl rfl rfl rfl rfl rfl (fun hb25 => ?_) ?_;rotate_left
   ·
    have fb25 := hb25
    try simp only [bl] at fb25
    refine gF hb25 1 Tryz.underlying68 Tryz.sizeOf9 ?_;refine gL hb25 Tryz.isAgg9 ?_;refine gV hb25 ?_;refine oN ?_;exact joins rfl
   refine nT ?_;refine cC rfl (fun h2 => ?_) (fun h2 => ?_)
   ·
    have f2 := h2;try simp only [bl] at f2
    have hp : hdT (L.drop j1) 2 rpar = false := by
      rw [hdT_at]
      unfold isT
      rw [Bool.and_eq_false_iff]
      right
      exact or2_t h2
    refine sR ?_;refine oV ?_;refine oN (tC (cT (tR (blk_r (tR (blk_r ?_))))));refine ret1 rfl rfl ?_
    first
    | exact fun w' hw' => ⟨I, _, hw'.sort (by repeat constructor), Ext.refl _ _, rfl, false, j1, us1, ua1, n1, Kv, rfl, rfl, hj1, fun _ => hce, fun h => by cases h⟩
    | exact fun w' hw' => ⟨I, [rdB b vall j1 us2 vi vl vo ua2, skR us2 (stk K2 ++ [odI (lastN n2)]), ndR ua2 n2], hw'.sort (by repeat constructor), Ext.refl _ _, rfl, true, j1, us2, ua2, n2, _, rfl, rfl, hj1, fun h => (by cases h), fun _ => ⟨K2, ⟨rfl, hK2, hok2, hn2, by omega⟩, hM2, hp, hij1⟩⟩
    | exact fun w' hw' => ⟨I, [rdB b vall j1 us3 vi vl vo ua3, skR us3 (stk [] ++ [odI (lastN n3)]), ndR ua3 n3], hw'.sort (by repeat constructor), Ext.refl _ _, rfl, false, j1, us3, ua3, n3, _, rfl, rfl, hj1, fun _ => hsh, fun h => by cases h⟩
    | exact fun w' hw' => ⟨I, [rdB b vall j1 us3 vi vl vo ua3, skR us3 (stk K4 ++ preF f ++ [opI (opK f) (opP f) (opB f)] ++ [odI (lastN n3)]), ndR ua3 n3], hw'.sort (by repeat constructor), Ext.refl _ _, rfl, false, j1, us3, ua3, n3, _, rfl, rfl, hj1, fun _ => hfin, fun h => by cases h⟩
   have f2 := h2;try simp only [bl] at f2
   have hp0 : isT (tkAt L j1) 2 rpar = true := or2_f h2
   have hlt1 : j1 < L.length := by
     rcases Nat.lt_or_ge j1 L.length with hh | hh
     · exact hh
     · rw [tkAt_out hh] at hp0
       exact absurd hp0 (by decide)
   have hp : hdT (L.drop j1) 2 rpar = true := by rw [hdT_at, decide_eq_true hlt1, hp0]; rfl
   have hsh := run_shut hK2 hM2 hp
   refine kS ?_;refine oV ?_;refine oC trivial rfl Tryz.call134 rfl (fold_any b j1 vall us2 vi vl vo ua2 0 n2 K2 hK2 hok2 (by omega) hn2) (by repeat constructor) ?_;rintro _ _ _ hx5 ⟨rfl, rfl, us3, ua3, n3, rfl, hc3, hok3, hn3, hb3⟩;refine oN (tC (cS (cS ?_)))
   have hK3 := foldK_ok (b := 0) (all := n2.map NodeV.c) hK2
   rw [← hc3] at hsh
   generalize (foldK 0 K2 (n2.map NodeV.c)).1 = K3 at hsh hK3 hb3 ⊢
   rcases K3 with _ | ⟨f, K4⟩
   ·
    refine cR ?_;refine oV ?_;refine oC trivial rfl Tryz.call156 rfl (top_low b j1 vall us3 vi vl vo ua3 (stk [] ++ [odI (lastN n3)]) (Nat.le_refl 1)) (by repeat constructor) ?_;rintro _ _ _ hx6 ⟨rfl, rfl, rfl⟩;iterate 3 refine oV ?_
    refine o_alloc trivial rfl Tryz.zeroValue162 rfl (fun b5 => ?_);refine oS Tryz.sizeOf162 ?_;refine oV ?_;refine nS ?_;iterate 2 refine oV ?_
    refine' o_or trivial trivial rfl rfl rfl rfl rfl rfl rfl rfl (fun hb39 => ?_) ?_;rotate_left
    ·
     have fb39 := hb39
     try simp only [bl] at fb39
     refine gF hb39 2 Tryz.underlying162 Tryz.sizeOf4 ?_;refine gL hb39 Tryz.isAgg4 ?_;refine gV hb39 ?_;refine oN ?_;exact joins rfl
    refine nT ?_;refine c_cond_t rfl (by rfl) ?_;refine sR ?_;refine oV ?_;refine oN (tC (cT (tR (blk_r (tR (blk_r ?_))))));refine ret1 rfl rfl ?_
    first
    | exact fun w' hw' => ⟨I, _, hw'.sort (by repeat constructor), Ext.refl _ _, rfl, false, j1, us1, ua1, n1, Kv, rfl, rfl, hj1, fun _ => hce, fun h => by cases h⟩
    | exact fun w' hw' => ⟨I, [rdB b vall j1 us2 vi vl vo ua2, skR us2 (stk K2 ++ [odI (lastN n2)]), ndR ua2 n2], hw'.sort (by repeat constructor), Ext.refl _ _, rfl, true, j1, us2, ua2, n2, _, rfl, rfl, hj1, fun h => (by cases h), fun _ => ⟨K2, ⟨rfl, hK2, hok2, hn2, by omega⟩, hM2, hp, hij1⟩⟩
    | exact fun w' hw' => ⟨I, [rdB b vall j1 us3 vi vl vo ua3, skR us3 (stk [] ++ [odI (lastN n3)]), ndR ua3 n3], hw'.sort (by repeat constructor), Ext.refl _ _, rfl, false, j1, us3, ua3, n3, _, rfl, rfl, hj1, fun _ => hsh, fun h => by cases h⟩
    | exact fun w' hw' => ⟨I, [rdB b vall j1 us3 vi vl vo ua3, skR us3 (stk K4 ++ preF f ++ [opI (opK f) (opP f) (opB f)] ++ [odI (lastN n3)]), ndR ua3 n3], hw'.sort (by repeat constructor), Ext.refl _ _, rfl, false, j1, us3, ua3, n3, _, rfl, rfl, hj1, fun _ => hfin, fun h => by cases h⟩
   rw [stk_top]
   have hst4 := stk_len K4
   have hpf := preF_len f
   simp only [List.length_cons] at hb3
   have hsl : (stk K4 ++ preF f).length ≤ 80000 := by rw [List.length_append]; omega
   have hsl2 : (stk K4 ++ preF f ++ [opI (opK f) (opP f) (opB f)]).length ≤ 80001 := by rw [List.length_append]; exact Nat.succ_le_succ hsl
   refine cR ?_;refine oV ?_;refine oC trivial rfl Tryz.call156 rfl (top_op b j1 vall us3 vi vl vo ua3 (odI (lastN n3)) (opK f) (opP f) (opB f) (stk K4 ++ preF f) (by omega)) (by repeat constructor) ?_;rintro _ _ _ hx6 ⟨rfl, rfl, rfl⟩;iterate 3 refine oV ?_
   refine o_alloc trivial rfl Tryz.zeroValue162 rfl (fun b5 => ?_);refine oS Tryz.sizeOf162 ?_;refine oV ?_;refine nS ?_;iterate 2 refine oV ?_
   refine' o_or trivial trivial rfl rfl rfl rfl rfl rfl rfl rfl (fun hb39 => ?_) ?_;rotate_left
   ·
    have fb39 := hb39
    try simp only [bl] at fb39
    refine gF hb39 2 Tryz.underlying162 Tryz.sizeOf4 ?_;refine gL hb39 Tryz.isAgg4 ?_;refine gV hb39 ?_;refine oN ?_;exact joins rfl
   refine nT ?_;refine cC rfl (fun h3 => ?_) (fun h3 => ?_)
   ·
    have f3 := h3;try simp only [bl] at f3
    have hbr : opB f = false := by simpa [bl] using h3
    have hfin : o = .bad (L.drop j1) := by
      cases f with
      | br => cases hbr
      | neg => exact hsh
      | bin k a => exact hsh
    refine sR ?_;refine oV ?_;refine oN (tC (cT (tR (blk_r (tR (blk_r ?_))))));refine ret1 rfl rfl ?_
    first
    | exact fun w' hw' => ⟨I, _, hw'.sort (by repeat constructor), Ext.refl _ _, rfl, false, j1, us1, ua1, n1, Kv, rfl, rfl, hj1, fun _ => hce, fun h => by cases h⟩
    | exact fun w' hw' => ⟨I, [rdB b vall j1 us2 vi vl vo ua2, skR us2 (stk K2 ++ [odI (lastN n2)]), ndR ua2 n2], hw'.sort (by repeat constructor), Ext.refl _ _, rfl, true, j1, us2, ua2, n2, _, rfl, rfl, hj1, fun h => (by cases h), fun _ => ⟨K2, ⟨rfl, hK2, hok2, hn2, by omega⟩, hM2, hp, hij1⟩⟩
    | exact fun w' hw' => ⟨I, [rdB b vall j1 us3 vi vl vo ua3, skR us3 (stk [] ++ [odI (lastN n3)]), ndR ua3 n3], hw'.sort (by repeat constructor), Ext.refl _ _, rfl, false, j1, us3, ua3, n3, _, rfl, rfl, hj1, fun _ => hsh, fun h => by cases h⟩
    | exact fun w' hw' => ⟨I, [rdB b vall j1 us3 vi vl vo ua3, skR us3 (stk K4 ++ preF f ++ [opI (opK f) (opP f) (opB f)] ++ [odI (lastN n3)]), ndR ua3 n3], hw'.sort (by repeat constructor), Ext.refl _ _, rfl, false, j1, us3, ua3, n3, _, rfl, rfl, hj1, fun _ => hfin, fun h => by cases h⟩
   have f3 := h3;try simp only [bl] at f3
   have hbr : opB f = true := by simpa [bl] using h3
   have hfb : f = .br := by
     cases f with
     | br => rfl
     | neg => cases hbr
     | bin k a => cases hbr
   subst hfb
   refine kS ?_;iterate 2 refine oV ?_
   refine oF 1 Tryz.underlying66 Tryz.sizeOf3 ?_;refine oL Tryz.isAgg3 ?_
   first | (refine o_add trivial rfl rfl rfl ?_ ?_; (omega)) | refine oV ?_
   refine oV ?_;refine oF 1 Tryz.underlying66 Tryz.sizeOf3 ?_;refine oS Tryz.sizeOf3 ?_;refine nS ?_;refine oV ?_;refine oC trivial rfl Tryz.call157 rfl (pop_any b (j1 + 1) vall us3 vi vl vo ua3 (odI (lastN n3)) (stk K4 ++ preF .br ++ [opI (opK .br) (opP .br) (opB .br)]) (by omega)) (by repeat constructor) ?_;rintro _ _ _ hx7 ⟨rfl, rfl, us4, rfl⟩;refine oV ?_;refine nS ?_;refine oV ?_;refine oC trivial rfl Tryz.call157 rfl (pop_any b (j1 + 1) vall us4 vi vl vo ua3 (opI (opK .br) (opP .br) (opB .br)) (stk K4 ++ preF .br) (by omega)) (by repeat constructor) ?_;rintro _ _ _ hx8 ⟨rfl, rfl, us5, rfl⟩;refine nR ?_;iterate 2 refine oV ?_
   refine oC trivial rfl Tryz.call135 rfl (push_any b (j1 + 1) vall us5 vi vl vo ua3 (.int .i64 (lastN n3)) 194 (stk K4 ++ preF .br) (by omega)) (by repeat constructor) ?_;rintro _ _ _ hx9 ⟨rfl, rfl, us6, rfl⟩;refine oN (blk_n ?_);exact again (j1 + 1, K4, n3, us6, ua3) (sC rfl sN) (fun _ h => by simp only [preF, List.append_nil] at h; exact h.sort (by repeat constructor)) (by first | (show L.length - (j1 + 1) < L.length - j; omega) | (show L.length - (j1 + 1) < L.length - j1; omega)) ⟨by show j1 + 1 ≤ _; omega, frOk_br hK3, hok3, hn3, by show n3.length + K4.length ≤ j1 + 1; omega, hsh, by show i ≤ j1 + 1; omega⟩
  have fb10 := hb10
  try simp only [bl] at fb10
  have hm : hdT (L.drop j) 2 caret = false := hb10
  rw [adv_false hm]
  have hM : RunM K1 true (n0.map NodeV.c) (L.drop j) o := run_nocaret hr hm
  obtain ⟨j1, rfl⟩ : ∃ j1, j1 = j := ⟨j, rfl⟩
  obtain ⟨us1, rfl⟩ : ∃ us1, us1 = us := ⟨us, rfl⟩
  obtain ⟨ua1, rfl⟩ : ∃ ua1, ua1 = ua := ⟨ua, rfl⟩
  obtain ⟨n1, rfl⟩ : ∃ n1, n1 = n0 := ⟨n0, rfl⟩
  have hok1 := hok0
  have hb1 := hb0
  have hn1 := hn0
  have hj1 := hj
  have hij1 : i ≤ j1 := hij
  iterate 3 refine o_skip (skips_some rfl rfl rfl) rfl ?_
  refine oV ?_;refine nT ?_;refine c_cond_f rfl rfl ?_;refine kS ?_;refine oV ?_;refine oC trivial rfl Tryz.call134 rfl (fold_any b j1 vall us1 vi vl vo ua1 3 n1 K1 hK1 hok1 (by omega) hn1) (by repeat constructor) ?_;rintro _ _ _ hx3 ⟨rfl, rfl, us2, ua2, n2, rfl, hc2, hok2, hn2, hb2⟩;refine oN (tC (cS ?_))
  have hM2 := RunM.fold (b := 3) (.inl rfl) hK1 hM
  have hK2 := foldK_ok (b := 3) (all := n1.map NodeV.c) hK1
  rw [← hc2] at hM2
  generalize (foldK 3 K1 (n1.map NodeV.c)).1 = K2 at hM2 hK2 hb2 ⊢
  refine cR ?_;refine oV ?_;refine oC trivial rfl Tryz.call41 rfl (rdNext_any b j1 vall us2 vi vl vo ua2 L hL) (by repeat constructor) ?_;rintro _ _ _ hx4 ⟨rfl, rfl, rfl⟩;iterate 3 refine oV ?_
  refine o_alloc trivial rfl Tryz.zeroValue68 rfl (fun b3 => ?_);refine oS Tryz.sizeOf68 ?_;refine oV ?_;refine nU ?_;refine oF 0 Tryz.underlying68 Tryz.sizeOf3 ?_;refine oL Tryz.isAgg3 ?_;refine oV ?_;refine' o_or trivial trivial rfl rfl rfl rfl rfl rfl rfl rfl (fun hb25 => ?_) ?_;rotate_left
  ·
   have fb25 := hb25
   try simp only [bl] at fb25
   refine gF hb25 1 Tryz.underlying68 Tryz.sizeOf9 ?_;refine gL hb25 Tryz.isAgg9 ?_;refine gV hb25 ?_;refine oN ?_;exact joins rfl
  refine nT ?_;refine cC rfl (fun h2 => ?_) (fun h2 => ?_)
  ·
   have f2 := h2;try simp only [bl] at f2
   have hp : hdT (L.drop j1) 2 rpar = false := by
     rw [hdT_at]
     unfold isT
     rw [Bool.and_eq_false_iff]
     right
     exact or2_t h2
   refine sR ?_;refine oV ?_;refine oN (tC (cT (tR (blk_r (tR (blk_r ?_))))));refine ret1 rfl rfl ?_
   first
   | exact fun w' hw' => ⟨I, _, hw'.sort (by repeat constructor), Ext.refl _ _, rfl, false, j1, us1, ua1, n1, Kv, rfl, rfl, hj1, fun _ => hce, fun h => by cases h⟩
   | exact fun w' hw' => ⟨I, [rdB b vall j1 us2 vi vl vo ua2, skR us2 (stk K2 ++ [odI (lastN n2)]), ndR ua2 n2], hw'.sort (by repeat constructor), Ext.refl _ _, rfl, true, j1, us2, ua2, n2, _, rfl, rfl, hj1, fun h => (by cases h), fun _ => ⟨K2, ⟨rfl, hK2, hok2, hn2, by omega⟩, hM2, hp, hij1⟩⟩
   | exact fun w' hw' => ⟨I, [rdB b vall j1 us3 vi vl vo ua3, skR us3 (stk [] ++ [odI (lastN n3)]), ndR ua3 n3], hw'.sort (by repeat constructor), Ext.refl _ _, rfl, false, j1, us3, ua3, n3, _, rfl, rfl, hj1, fun _ => hsh, fun h => by cases h⟩
   | exact fun w' hw' => ⟨I, [rdB b vall j1 us3 vi vl vo ua3, skR us3 (stk K4 ++ preF f ++ [opI (opK f) (opP f) (opB f)] ++ [odI (lastN n3)]), ndR ua3 n3], hw'.sort (by repeat constructor), Ext.refl _ _, rfl, false, j1, us3, ua3, n3, _, rfl, rfl, hj1, fun _ => hfin, fun h => by cases h⟩
  have f2 := h2;try simp only [bl] at f2
  have hp0 : isT (tkAt L j1) 2 rpar = true := or2_f h2
  have hlt1 : j1 < L.length := by
    rcases Nat.lt_or_ge j1 L.length with hh | hh
    · exact hh
    · rw [tkAt_out hh] at hp0
      exact absurd hp0 (by decide)
  have hp : hdT (L.drop j1) 2 rpar = true := by rw [hdT_at, decide_eq_true hlt1, hp0]; rfl
  have hsh := run_shut hK2 hM2 hp
  refine kS ?_;refine oV ?_;refine oC trivial rfl Tryz.call134 rfl (fold_any b j1 vall us2 vi vl vo ua2 0 n2 K2 hK2 hok2 (by omega) hn2) (by repeat constructor) ?_;rintro _ _ _ hx5 ⟨rfl, rfl, us3, ua3, n3, rfl, hc3, hok3, hn3, hb3⟩;refine oN (tC (cS (cS ?_)))
  have hK3 := foldK_ok (b := 0) (all := n2.map NodeV.c) hK2
  rw [← hc3] at hsh
  generalize (foldK 0 K2 (n2.map NodeV.c)).1 = K3 at hsh hK3 hb3 ⊢
  rcases K3 with _ | ⟨f, K4⟩
  ·
   refine cR ?_;refine oV ?_;refine oC trivial rfl Tryz.call156 rfl (top_low b j1 vall us3 vi vl vo ua3 (stk [] ++ [odI (lastN n3)]) (Nat.le_refl 1)) (by repeat constructor) ?_;rintro _ _ _ hx6 ⟨rfl, rfl, rfl⟩;iterate 3 refine oV ?_
   refine o_alloc trivial rfl Tryz.zeroValue162 rfl (fun b5 => ?_);refine oS Tryz.sizeOf162 ?_;refine oV ?_;refine nS ?_;iterate 2 refine oV ?_
   refine' o_or trivial trivial rfl rfl rfl rfl rfl rfl rfl rfl (fun hb39 => ?_) ?_;rotate_left
   ·
    have fb39 := hb39
    try simp only [bl] at fb39
    refine gF hb39 2 Tryz.underlying162 Tryz.sizeOf4 ?_;refine gL hb39 Tryz.isAgg4 ?_;refine gV hb39 ?_;refine oN ?_;exact joins rfl
   refine nT ?_;refine c_cond_t rfl (by rfl) ?_;refine sR ?_;refine oV ?_;refine oN (tC (cT (tR (blk_r (tR (blk_r ?_))))));refine ret1 rfl rfl ?_
   first
   | exact fun w' hw' => ⟨I, _, hw'.sort (by repeat constructor), Ext.refl _ _, rfl, false, j1, us1, ua1, n1, Kv, rfl, rfl, hj1, fun _ => hce, fun h => by cases h⟩
   | exact fun w' hw' => ⟨I, [rdB b vall j1 us2 vi vl vo ua2, skR us2 (stk K2 ++ [odI (lastN n2)]), ndR ua2 n2], hw'.sort (by repeat constructor), Ext.refl _ _, rfl, true, j1, us2, ua2, n2, _, rfl, rfl, hj1, fun h => (by cases h), fun _ => ⟨K2, ⟨rfl, hK2, hok2, hn2, by omega⟩, hM2, hp, hij1⟩⟩
   | exact fun w' hw' => ⟨I, [rdB b vall j1 us3 vi vl vo ua3, skR us3 (stk [] ++ [odI (lastN n3)]), ndR ua3 n3], hw'.sort (by repeat constructor), Ext.refl _ _, rfl, false, j1, us3, ua3, n3, _, rfl, rfl, hj1, fun _ => hsh, fun h => by cases h⟩
   | exact fun w' hw' => ⟨I, [rdB b vall j1 us3 vi vl vo ua3, skR us3 (stk K4 ++ preF f ++ [opI (opK f) (opP f) (opB f)] ++ [odI (lastN n3)]), ndR ua3 n3], hw'.sort (by repeat constructor), Ext.refl _ _, rfl, false, j1, us3, ua3, n3, _, rfl, rfl, hj1, fun _ => hfin, fun h => by cases h⟩
  rw [stk_top]
  have hst4 := stk_len K4
  have hpf := preF_len f
  simp only [List.length_cons] at hb3
  have hsl : (stk K4 ++ preF f).length ≤ 80000 := by rw [List.length_append]; omega
  have hsl2 : (stk K4 ++ preF f ++ [opI (opK f) (opP f) (opB f)]).length ≤ 80001 := by rw [List.length_append]; exact Nat.succ_le_succ hsl
  refine cR ?_;refine oV ?_;refine oC trivial rfl Tryz.call156 rfl (top_op b j1 vall us3 vi vl vo ua3 (odI (lastN n3)) (opK f) (opP f) (opB f) (stk K4 ++ preF f) (by omega)) (by repeat constructor) ?_;rintro _ _ _ hx6 ⟨rfl, rfl, rfl⟩;iterate 3 refine oV ?_
  refine o_alloc trivial rfl Tryz.zeroValue162 rfl (fun b5 => ?_);refine oS Tryz.sizeOf162 ?_;refine oV ?_;refine nS ?_;iterate 2 refine oV ?_
  refine' o_or trivial trivial rfl rfl rfl rfl rfl rfl rfl rfl (fun hb39 => ?_) ?_;rotate_left
  ·
   have fb39 := hb39
   try simp only [bl] at fb39
   refine gF hb39 2 Tryz.underlying162 Tryz.sizeOf4 ?_;refine gL hb39 Tryz.isAgg4 ?_;refine gV hb39 ?_;refine oN ?_;exact joins rfl
  refine nT ?_;refine cC rfl (fun h3 => ?_) (fun h3 => ?_)
  ·
   have f3 := h3;try simp only [bl] at f3
   have hbr : opB f = false := by simpa [bl] using h3
   have hfin : o = .bad (L.drop j1) := by
     cases f with
     | br => cases hbr
     | neg => exact hsh
     | bin k a => exact hsh
   refine sR ?_;refine oV ?_;refine oN (tC (cT (tR (blk_r (tR (blk_r ?_))))));refine ret1 rfl rfl ?_
   first
   | exact fun w' hw' => ⟨I, _, hw'.sort (by repeat constructor), Ext.refl _ _, rfl, false, j1, us1, ua1, n1, Kv, rfl, rfl, hj1, fun _ => hce, fun h => by cases h⟩
   | exact fun w' hw' => ⟨I, [rdB b vall j1 us2 vi vl vo ua2, skR us2 (stk K2 ++ [odI (lastN n2)]), ndR ua2 n2], hw'.sort (by repeat constructor), Ext.refl _ _, rfl, true, j1, us2, ua2, n2, _, rfl, rfl, hj1, fun h => (by cases h), fun _ => ⟨K2, ⟨rfl, hK2, hok2, hn2, by omega⟩, hM2, hp, hij1⟩⟩
   | exact fun w' hw' => ⟨I, [rdB b vall j1 us3 vi vl vo ua3, skR us3 (stk [] ++ [odI (lastN n3)]), ndR ua3 n3], hw'.sort (by repeat constructor), Ext.refl _ _, rfl, false, j1, us3, ua3, n3, _, rfl, rfl, hj1, fun _ => hsh, fun h => by cases h⟩
   | exact fun w' hw' => ⟨I, [rdB b vall j1 us3 vi vl vo ua3, skR us3 (stk K4 ++ preF f ++ [opI (opK f) (opP f) (opB f)] ++ [odI (lastN n3)]), ndR ua3 n3], hw'.sort (by repeat constructor), Ext.refl _ _, rfl, false, j1, us3, ua3, n3, _, rfl, rfl, hj1, fun _ => hfin, fun h => by cases h⟩
  have f3 := h3;try simp only [bl] at f3
  have hbr : opB f = true := by simpa [bl] using h3
  have hfb : f = .br := by
    cases f with
    | br => rfl
    | neg => cases hbr
    | bin k a => cases hbr
  subst hfb
  refine kS ?_;iterate 2 refine oV ?_
  refine oF 1 Tryz.underlying66 Tryz.sizeOf3 ?_;refine oL Tryz.isAgg3 ?_
  first | (refine o_add trivial rfl rfl rfl ?_ ?_; (omega)) | refine oV ?_
  refine oV ?_;refine oF 1 Tryz.underlying66 Tryz.sizeOf3 ?_;refine oS Tryz.sizeOf3 ?_;refine nS ?_;refine oV ?_;refine oC trivial rfl Tryz.call157 rfl (pop_any b (j1 + 1) vall us3 vi vl vo ua3 (odI (lastN n3)) (stk K4 ++ preF .br ++ [opI (opK .br) (opP .br) (opB .br)]) (by omega)) (by repeat constructor) ?_;rintro _ _ _ hx7 ⟨rfl, rfl, us4, rfl⟩;refine oV ?_;refine nS ?_;refine oV ?_;refine oC trivial rfl Tryz.call157 rfl (pop_any b (j1 + 1) vall us4 vi vl vo ua3 (opI (opK .br) (opP .br) (opB .br)) (stk K4 ++ preF .br) (by omega)) (by repeat constructor) ?_;rintro _ _ _ hx8 ⟨rfl, rfl, us5, rfl⟩;refine nR ?_;iterate 2 refine oV ?_
  refine oC trivial rfl Tryz.call135 rfl (push_any b (j1 + 1) vall us5 vi vl vo ua3 (.int .i64 (lastN n3)) 194 (stk K4 ++ preF .br) (by omega)) (by repeat constructor) ?_;rintro _ _ _ hx9 ⟨rfl, rfl, us6, rfl⟩;refine oN (blk_n ?_);exact again (j1 + 1, K4, n3, us6, ua3) (sC rfl sN) (fun _ h => by simp only [preF, List.append_nil] at h; exact h.sort (by repeat constructor)) (by first | (show L.length - (j1 + 1) < L.length - j; omega) | (show L.length - (j1 + 1) < L.length - j1; omega)) ⟨by show j1 + 1 ≤ _; omega, frOk_br hK3, hok3, hn3, by show n3.length + K4.length ≤ j1 + 1; omega, hsh, by show i ≤ j1 + 1; omega⟩
def signK (s : ByteArray) : Int := if s.toList == plusS.toList then 2 else if s.toList == minusS.toList then 3 else if s.toList == starS.toList then 4 else if s.toList == slashS.toList then 5 else 0
theorem sign_none {x : Tok} (h : x.kind ≠ 2 ∨ signK x.text = 0) : mulK x = none ∧ addK x = none := by
  unfold mulK addK isT
  rcases h with h | h
  · have e : (x.kind == 2) = false := by simpa using h
    rw [e]
    exact ⟨rfl, rfl⟩
  · unfold signK at h
    split at h
    · omega
    · rename_i h1
      split at h
      · omega
      · rename_i h2
        split at h
        · omega
        · rename_i h3
          split at h
          · omega
          · rename_i h4
            rw [Bool.not_eq_true] at h1 h2 h3 h4
            rw [h1, h2, h3, h4, Bool.and_false]
            exact ⟨rfl, rfl⟩
theorem sign_some {x : Tok} (hk : x.kind = 2) (h : signK x.text ≠ 0) : (mulK x = some (signK x.text) ∧ bindK (signK x.text) = 2) ∨ (addK x = some (signK x.text) ∧ bindK (signK x.text) = 1) := by
  have e : (x.kind == 2) = true := by simpa using hk
  have hsk : ∀ {a b : ByteArray}, a.toList ≠ b.toList → (x.text.toList == a.toList) = true → (x.text.toList == b.toList) = false := fun {a b} hab h1 => by
    rw [beq_iff_eq] at h1
    rw [beq_eq_false_iff_ne, h1]
    exact hab
  have d1 : plusS.toList ≠ starS.toList := by rw [ByteArray.toList_eq, ByteArray.toList_eq]; decide
  have d2 : plusS.toList ≠ slashS.toList := by rw [ByteArray.toList_eq, ByteArray.toList_eq]; decide
  have d3 : minusS.toList ≠ starS.toList := by rw [ByteArray.toList_eq, ByteArray.toList_eq]; decide
  have d4 : minusS.toList ≠ slashS.toList := by rw [ByteArray.toList_eq, ByteArray.toList_eq]; decide
  unfold mulK addK isT
  rw [e]
  simp only [Bool.true_and]
  unfold signK at h ⊢
  by_cases h1 : (x.text.toList == plusS.toList) = true
  · right; rw [if_pos h1, if_pos h1]; exact ⟨rfl, by decide⟩
  · rw [if_neg h1] at h ⊢
    rw [if_neg h1]
    by_cases h2 : (x.text.toList == minusS.toList) = true
    · right; rw [if_pos h2, if_pos h2]; exact ⟨rfl, by decide⟩
    · rw [if_neg h2] at h ⊢
      by_cases h3 : (x.text.toList == starS.toList) = true
      · left; rw [if_pos h3, if_pos h3]; exact ⟨rfl, by decide⟩
      · rw [if_neg h3] at h ⊢
        rw [if_neg h3]
        by_cases h4 : (x.text.toList == slashS.toList) = true
        · left; rw [if_pos h4, if_pos h4]; exact ⟨rfl, by decide⟩
        · rw [if_neg h4] at h; exact absurd rfl h
theorem run_sign {L : List Tok} {K : List Fr} {all : List NodeC} {j : Nat} {o : POut} {k : Int} (hK : FrOk K) (h : RunM K true all (L.drop j) o) (hlt : j < L.length) (hkind : (tkAt L j).kind = 2) (hk : k = signK (tkAt L j).text) (h0 : k ≠ 0) :
    RunE (.bin k (lastI (foldK (bindK k) K all).2) :: (foldK (bindK k) K all).1) (foldK (bindK k) K all).2 (L.drop (j + 1)) o ∧ 2 ≤ k ∧ k ≤ 5 := by
  rw [drop_cons hlt] at h
  subst hk
  rcases sign_some hkind h0 with ⟨h1, h2⟩ | ⟨h1, h2⟩
  · rw [h2]; exact ⟨h.mul hK h1, mulK_le h1⟩
  · rw [h2]; exact ⟨h.add hK h1, addK_le h1⟩
theorem run_none {L : List Tok} {j : Nat} (h : ¬ (j < L.length ∧ (tkAt L j).kind = 2 ∧ signK (tkAt L j).text ≠ 0)) : hdK mulK (L.drop j) = none ∧ hdK addK (L.drop j) = none := by
  by_cases hlt : j < L.length
  · rw [drop_cons hlt]
    refine sign_none ?_
    by_cases hk : (tkAt L j).kind = 2
    · right
      by_cases hs : signK (tkAt L j).text = 0
      · exact hs
      · exact absurd ⟨hlt, hk, hs⟩ h
    · exact .inl hk
  · rw [List.drop_eq_nil_of_le (by omega)]
    exact ⟨rfl, rfl⟩
theorem stk_nil {K : List Fr} (h : (stk K).length = 0) : K = [] := by
  cases K with
  | nil => rfl
  | cons f K => cases f <;> simp [stk, encF] at h
theorem rdSum_any (b i : Nat) (vall vi vl vo va : Value) (ns : List NodeV) (L : List Tok) {I : Hp} (hM : Mx I) (hE : Errs I) (hL : Slc I 4 vall (L.map Tok.cells)) (hn : L.length ≤ 10000) (hs : TkSmall L) (hto : ToksOk L) (hok : ∀ o ∈ ns, o.ok I) (hb : ns.length ≤ i) (hi : i ≤ L.length) {o : POut} (h : RunE [] (ns.map NodeV.c) (L.drop i) o) :
    Fun Tryz.prog 103 [.pointer (some ⟨b, 0, none⟩)] I [rdB b vall i (.slice none 0 0) vi vl vo va, ndR va ns]
    (fun v I' B' => ∃ ok i' vs' va' ns', v = .bool ok ∧ B' = [rdB b vall i' vs' vi vl vo va', ndR va' ns'] ∧ i' ≤ L.length ∧ (ok = false → o = .bad (L.drop i')) ∧ (ok = true → o = .ok (ns'.map NodeV.c) (L.drop i') ∧ vs' = .slice none 0 0 ∧ (∀ o ∈ ns', o.ok I') ∧ ns'.length ≤ i' ∧ i < i')) := by
  intro w hw
  refine enter1 _ Tryz.func103 rfl Tryz.ntmps103 rfl ?_ hw;refine sR ?_;refine oV ?_;refine oN (tC (cS (cB ?_)));refine c_loop (ι := Nat × List Fr × List NodeV × Value × Value × Hp) [0] (.cons rfl .nil) (fun x => L.length - x.1) (fun x E0 => E0) (fun x => St w (keysOf [rdB b vall i (.slice none 0 0) vi vl vo va, ndR va ns]) x.2.2.2.2.2 [rdB b vall x.1 x.2.2.2.1 vi vl vo x.2.2.2.2.1, skR x.2.2.2.1 (stk x.2.1), ndR x.2.2.2.2.1 x.2.2.1]) (fun x => x.1 ≤ L.length ∧ FrOk x.2.1 ∧ (∀ o ∈ x.2.2.1, o.ok x.2.2.2.2.2) ∧ x.2.2.1.length + x.2.1.length ≤ x.1 ∧ RunE x.2.1 (x.2.2.1.map NodeV.c) (L.drop x.1) o ∧ Ext w.heap.size I x.2.2.2.2.2 ∧ i ≤ x.1) ((i, [], ns, .slice none 0 0, va, I)) (sC rfl sN) (fun _ h => (h.nilRow 20 1).sort (by repeat constructor)) (⟨hi, trivial, hok, hb, h, Ext.refl _ _, Nat.le_refl _⟩) ?_;rintro ⟨j, K1, n0, us, ua, I1⟩ ⟨hj, hK1, hok0, hb0, hr, hx1, hij⟩
  try dsimp only
  simp only at hj hK1 hok0 hb0 hr hx1 hij; have hst := stk_len K1
  refine cB (cS (sR ?_));refine oV ?_;refine oC trivial rfl Tryz.call131 rfl (rdOpen_any b j vall us vi vl vo ua n0 K1 L (hM.le hx1.le) (hL.le hx1.le) hn hs hto hK1 hok0 hb0 hj hr) (by repeat constructor) ?_;rintro _ I2 _ hx2 ⟨ok1, j1, us1, ua1, n1, Kv1, rfl, rfl, hj1, hno1, hyes1⟩;refine oV ?_;refine o_fork trivial rfl rfl (fun hb10 => ?_) (fun hb10 => ?_)
  ·
   have fb10 := hb10
   try simp only [bl] at fb10
   have hk1 : ok1 = false := by simpa using hb10
   iterate 3 refine o_skip (skips_some rfl rfl rfl) rfl ?_
   refine oV ?_;refine nT ?_;refine c_cond_t rfl rfl ?_;refine sR ?_;refine oV ?_;refine oN (tC (cT (tR (blk_r (tR (blk_r (tR ?_)))))));refine ret1 rfl rfl ?_
   first
   | exact fun w' hw' => ⟨I2, [rdB b vall (j2 + 1) (.slice none 0 0) vi vl vo ua3, ndR ua3 n3], hw'.sort (by repeat constructor), hx1.trans hx2 (Nat.le_refl _), true, j2 + 1, _, ua3, n3, rfl, rfl, hlt2, fun h => (by cases h), fun _ => ⟨hfin, rfl, hok3, by omega, by omega⟩⟩
   | exact fun w' hw' => ⟨I2, [rdB b vall j2 us3 vi vl vo ua3, ndR ua3 n3], hw'.sort (by repeat constructor), hx1.trans hx2 (Nat.le_refl _), false, j2, _, ua3, n3, rfl, rfl, hj2, fun _ => hfb, fun h => by cases h⟩
   | exact fun w' hw' => ⟨I2, [rdB b vall j2 us2 vi vl vo ua2, ndR ua2 n2], hw'.sort (by repeat constructor), hx1.trans hx2 (Nat.le_refl _), false, j2, _, ua2, n2, rfl, rfl, hj2, fun _ => hno2 hk2, fun h => by cases h⟩
   | exact fun w' hw' => ⟨I2, [rdB b vall j1 us1 vi vl vo ua1, ndR ua1 n1], hw'.sort (by repeat constructor), hx1.trans hx2 (Nat.le_refl _), false, j1, _, ua1, n1, rfl, rfl, hj1, fun _ => hno1 hk1, fun h => by cases h⟩
  have fb10 := hb10
  try simp only [bl] at fb10
  have hk1 : ok1 = true := by simpa using hb10
  obtain ⟨K2, hRd, hA, hlt1⟩ := hyes1 hk1
  obtain rfl := hRd.kv
  refine o_pv (wS rfl rfl rfl) rfl rfl ?_;refine oC (wS rfl rfl rfl) rfl Tryz.call132 rfl (rdShut_any b j1 vall us1 vi vl vo ua1 n1 K2 L (hE.le (hx1.le.trans hx2.le)) (hL.le (hx1.le.trans hx2.le)) hn hs hto hRd.fr hRd.ok hRd.pos hRd.few hj1 hA) (by repeat constructor) ?_;rintro _ _ _ hx3 ⟨rfl, ok2, j2, us2, ua2, n2, Kv2, rfl, rfl, hj2, hno2, hyes2⟩;refine o_pv (wS rfl rfl rfl) rfl rfl ?_;refine oV ?_;refine nT ?_;refine cC rfl (fun h1 => ?_) (fun h1 => ?_)
  ·
   have f1 := h1;try simp only [bl] at f1
   have hk2 : ok2 = false := by simpa using f1
   refine sR ?_;refine oV ?_;refine oN (tC (cT (tR (blk_r (tR (blk_r (tR ?_)))))));refine ret1 rfl rfl ?_
   first
   | exact fun w' hw' => ⟨I2, [rdB b vall (j2 + 1) (.slice none 0 0) vi vl vo ua3, ndR ua3 n3], hw'.sort (by repeat constructor), hx1.trans hx2 (Nat.le_refl _), true, j2 + 1, _, ua3, n3, rfl, rfl, hlt2, fun h => (by cases h), fun _ => ⟨hfin, rfl, hok3, by omega, by omega⟩⟩
   | exact fun w' hw' => ⟨I2, [rdB b vall j2 us3 vi vl vo ua3, ndR ua3 n3], hw'.sort (by repeat constructor), hx1.trans hx2 (Nat.le_refl _), false, j2, _, ua3, n3, rfl, rfl, hj2, fun _ => hfb, fun h => by cases h⟩
   | exact fun w' hw' => ⟨I2, [rdB b vall j2 us2 vi vl vo ua2, ndR ua2 n2], hw'.sort (by repeat constructor), hx1.trans hx2 (Nat.le_refl _), false, j2, _, ua2, n2, rfl, rfl, hj2, fun _ => hno2 hk2, fun h => by cases h⟩
   | exact fun w' hw' => ⟨I2, [rdB b vall j1 us1 vi vl vo ua1, ndR ua1 n1], hw'.sort (by repeat constructor), hx1.trans hx2 (Nat.le_refl _), false, j1, _, ua1, n1, rfl, rfl, hj1, fun _ => hno1 hk1, fun h => by cases h⟩
  have f1 := h1;try simp only [bl] at f1
  have hk2 : ok2 = true := by simpa using f1
  obtain ⟨K3, hRd3, hM3, hp3, hj12⟩ := hyes2 hk2
  obtain rfl := hRd3.kv
  have hf3 := hRd3.few
  have hp1 := hRd3.pos
  refine kS ?_;refine oV ?_;refine oC trivial rfl Tryz.call41 rfl (rdNext_any b j2 vall us2 vi vl vo ua2 L (hL.le (hx1.le.trans hx2.le))) (by repeat constructor) ?_;rintro _ _ _ hx4 ⟨rfl, rfl, rfl⟩;iterate 3 refine oV ?_
  refine o_alloc trivial rfl Tryz.zeroValue68 rfl (fun b3 => ?_);refine oS Tryz.sizeOf68 ?_;refine oV ?_;refine nS ?_;refine oF 1 Tryz.underlying68 Tryz.sizeOf9 ?_;refine oL Tryz.isAgg9 ?_;refine oI Tryz.call133 rfl (signs_any _) ?_;rintro _ _ hx5 ⟨rfl, k, rfl, hk⟩;iterate 3 refine oV ?_
  refine o_alloc trivial rfl Tryz.zeroValue162 rfl (fun b5 => ?_);refine oS Tryz.sizeOf162 ?_;refine oV ?_;refine nU ?_;iterate 2 refine oV ?_
  refine' o_or trivial trivial rfl rfl rfl rfl rfl rfl rfl rfl (fun hb28 => ?_) ?_;rotate_left
  ·
   have fb28 := hb28
   try simp only [bl] at fb28
   refine gF hb28 0 Tryz.underlying68 Tryz.sizeOf3 ?_;refine gL hb28 Tryz.isAgg3 ?_;refine gV hb28 ?_;refine oN ?_;exact joins rfl
  refine' o_or trivial trivial rfl rfl rfl rfl rfl rfl rfl rfl (fun hb33 => ?_) ?_;rotate_left
  ·
   have fb33 := hb33
   try simp only [bl] at fb33
   iterate 2 refine gV hb33 ?_
   refine oN ?_;exact joins rfl
  refine nT ?_;refine cC rfl (fun h2 => ?_) (fun h2 => ?_)
  ·
   have f2 := h2;try simp only [bl] at f2
   have hnm := run_none (L := L) (j := j2) (fun hh => by
     have h3 := or3_t h2
     rw [decide_eq_true hh.1, hh.2.1, decide_eq_true (show k ≠ 0 from by rw [hk]; exact hh.2.2)] at h3
     simp at h3)
   refine c_exit (then_x (blk_ne rfl (then_x (blk_eq rfl (tC (sR ?_))))));refine oV ?_;refine oC trivial rfl Tryz.call134 rfl (fold_any b j2 vall us2 vi vl vo ua2 0 n2 K3 hRd3.fr hRd3.ok (by omega) hp1) (by repeat constructor) ?_;rintro _ _ _ hx6 ⟨rfl, rfl, us3, ua3, n3, rfl, hc3, hok3, hn3, hb3⟩;refine oN (tC (cS (cS ?_)))
   have hfin := RunM.fin hRd3.fr hM3 hnm.1 hnm.2 hp3
   rw [← hc3] at hfin
   generalize (foldK 0 K3 (n2.map NodeV.c)).1 = K4 at hfin hb3 ⊢
   refine cR ?_;iterate 2 refine oV ?_
   refine oF 2 Tryz.underlying66 Tryz.sizeOf64 ?_;refine oL Tryz.isAgg64 ?_;refine o_lenRow trivial rfl Tryz.underlying64 rfl (by repeat constructor) ?_;refine oV ?_;refine o_fork trivial rfl rfl (fun hb60 => ?_) (fun hb60 => ?_)
   ·
    have fb60 := hb60
    try simp only [bl] at fb60
    have hlen : (stk K4 ++ [odI (lastN n3)]).length ≠ 1 := by
      intro e; rw [e] at hb60; cases hb60
    have hfb : o = .bad (L.drop j2) := by
      rw [if_neg (fun hh => hlen (by rw [hh.1]; rfl))] at hfin
      exact hfin
    iterate 3 refine o_skip (skips_some rfl rfl rfl) rfl ?_
    refine oV ?_;refine nT ?_;refine c_cond_t rfl rfl ?_;refine sR ?_;refine oV ?_;refine nF ?_;refine ret1 rfl rfl ?_
    first
    | exact fun w' hw' => ⟨I2, [rdB b vall (j2 + 1) (.slice none 0 0) vi vl vo ua3, ndR ua3 n3], hw'.sort (by repeat constructor), hx1.trans hx2 (Nat.le_refl _), true, j2 + 1, _, ua3, n3, rfl, rfl, hlt2, fun h => (by cases h), fun _ => ⟨hfin, rfl, hok3, by omega, by omega⟩⟩
    | exact fun w' hw' => ⟨I2, [rdB b vall j2 us3 vi vl vo ua3, ndR ua3 n3], hw'.sort (by repeat constructor), hx1.trans hx2 (Nat.le_refl _), false, j2, _, ua3, n3, rfl, rfl, hj2, fun _ => hfb, fun h => by cases h⟩
    | exact fun w' hw' => ⟨I2, [rdB b vall j2 us2 vi vl vo ua2, ndR ua2 n2], hw'.sort (by repeat constructor), hx1.trans hx2 (Nat.le_refl _), false, j2, _, ua2, n2, rfl, rfl, hj2, fun _ => hno2 hk2, fun h => by cases h⟩
    | exact fun w' hw' => ⟨I2, [rdB b vall j1 us1 vi vl vo ua1, ndR ua1 n1], hw'.sort (by repeat constructor), hx1.trans hx2 (Nat.le_refl _), false, j1, _, ua1, n1, rfl, rfl, hj1, fun _ => hno1 hk1, fun h => by cases h⟩
   have fb60 := hb60
   try simp only [bl] at fb60
   have hlen : (stk K4 ++ [odI (lastN n3)]).length = 1 := by
     have := fb60
     omega
   have hK0 : K4 = [] := stk_nil (by rw [List.length_append] at hlen; change (stk K4).length + 1 = 1 at hlen; omega)
   subst hK0
   refine o_pv (wS rfl rfl rfl) rfl rfl ?_;refine oC (wS rfl rfl rfl) rfl Tryz.call102 rfl (rdMark_any b j2 vall us3 vi vl vo ua3 semiS L (hL.le (hx1.le.trans hx2.le)) (by omega)) (by repeat constructor) ?_;rintro _ _ _ hx7 ⟨rfl, rfl, rfl⟩;refine o_pv (wS rfl rfl rfl) rfl rfl ?_;refine oV ?_;refine nT ?_;refine cC rfl (fun h3 => ?_) (fun h3 => ?_)
   ·
    have f3 := h3;try simp only [bl] at f3
    have hm : hdT (L.drop j2) 2 semiS = false := by simpa using f3
    rw [adv_false hm]
    have hfb : o = .bad (L.drop j2) := by
      rw [if_neg (fun hh => by rw [hm] at hh; cases hh.2)] at hfin
      exact hfin
    refine sR ?_;refine oV ?_;refine nF ?_;refine ret1 rfl rfl ?_
    first
    | exact fun w' hw' => ⟨I2, [rdB b vall (j2 + 1) (.slice none 0 0) vi vl vo ua3, ndR ua3 n3], hw'.sort (by repeat constructor), hx1.trans hx2 (Nat.le_refl _), true, j2 + 1, _, ua3, n3, rfl, rfl, hlt2, fun h => (by cases h), fun _ => ⟨hfin, rfl, hok3, by omega, by omega⟩⟩
    | exact fun w' hw' => ⟨I2, [rdB b vall j2 us3 vi vl vo ua3, ndR ua3 n3], hw'.sort (by repeat constructor), hx1.trans hx2 (Nat.le_refl _), false, j2, _, ua3, n3, rfl, rfl, hj2, fun _ => hfb, fun h => by cases h⟩
    | exact fun w' hw' => ⟨I2, [rdB b vall j2 us2 vi vl vo ua2, ndR ua2 n2], hw'.sort (by repeat constructor), hx1.trans hx2 (Nat.le_refl _), false, j2, _, ua2, n2, rfl, rfl, hj2, fun _ => hno2 hk2, fun h => by cases h⟩
    | exact fun w' hw' => ⟨I2, [rdB b vall j1 us1 vi vl vo ua1, ndR ua1 n1], hw'.sort (by repeat constructor), hx1.trans hx2 (Nat.le_refl _), false, j1, _, ua1, n1, rfl, rfl, hj1, fun _ => hno1 hk1, fun h => by cases h⟩
   have f3 := h3;try simp only [bl] at f3
   have hm : hdT (L.drop j2) 2 semiS = true := by simpa using f3
   rw [adv_true hm]
   have hlt2 := hdT_lt hm
   rw [if_pos ⟨rfl, hm⟩, List.drop_drop] at hfin
   refine kS ?_;iterate 2 refine oV ?_
   refine oF 2 Tryz.underlying66 Tryz.sizeOf64 ?_;refine oS Tryz.sizeOf64 ?_;refine nS ?_;refine oV ?_;refine nE ?_;refine ret1 rfl rfl ?_
   first
   | exact fun w' hw' => ⟨I2, [rdB b vall (j2 + 1) (.slice none 0 0) vi vl vo ua3, ndR ua3 n3], hw'.sort (by repeat constructor), hx1.trans hx2 (Nat.le_refl _), true, j2 + 1, _, ua3, n3, rfl, rfl, hlt2, fun h => (by cases h), fun _ => ⟨hfin, rfl, hok3, by omega, by omega⟩⟩
   | exact fun w' hw' => ⟨I2, [rdB b vall j2 us3 vi vl vo ua3, ndR ua3 n3], hw'.sort (by repeat constructor), hx1.trans hx2 (Nat.le_refl _), false, j2, _, ua3, n3, rfl, rfl, hj2, fun _ => hfb, fun h => by cases h⟩
   | exact fun w' hw' => ⟨I2, [rdB b vall j2 us2 vi vl vo ua2, ndR ua2 n2], hw'.sort (by repeat constructor), hx1.trans hx2 (Nat.le_refl _), false, j2, _, ua2, n2, rfl, rfl, hj2, fun _ => hno2 hk2, fun h => by cases h⟩
   | exact fun w' hw' => ⟨I2, [rdB b vall j1 us1 vi vl vo ua1, ndR ua1 n1], hw'.sort (by repeat constructor), hx1.trans hx2 (Nat.le_refl _), false, j1, _, ua1, n1, rfl, rfl, hj1, fun _ => hno1 hk1, fun h => by cases h⟩
  have f2 := h2;try simp only [bl] at f2
  have h3 := or3_f h2
  simp only [Bool.and_eq_true, decide_eq_true_eq, beq_iff_eq] at h3
  obtain ⟨h31, h32, h33⟩ := h3
  obtain ⟨hE4, hk25⟩ := run_sign hRd3.fr hM3 h31 h32 hk h33
  rw [if_neg h33]
  refine kS ?_;iterate 2 refine oV ?_
  refine oF 1 Tryz.underlying66 Tryz.sizeOf3 ?_;refine oL Tryz.isAgg3 ?_
  first | (refine o_add trivial rfl rfl rfl ?_ ?_; (omega)) | refine oV ?_
  refine oV ?_;refine oF 1 Tryz.underlying66 Tryz.sizeOf3 ?_;refine oS Tryz.sizeOf3 ?_;refine nS ?_;refine oV ?_;refine oF 1 Tryz.underlying162 Tryz.sizeOf3 ?_;refine oL Tryz.isAgg3 ?_;refine oC trivial rfl Tryz.call134 rfl (fold_any b (j2 + 1) vall us2 vi vl vo ua2 (bindK k) n2 K3 hRd3.fr hRd3.ok (by omega) hp1) (by repeat constructor) ?_;rintro _ _ _ hx6 ⟨rfl, rfl, us3, ua3, n3, rfl, hc3, hok3, hn3, hb3⟩;refine nT ?_
  have hK4 := foldK_ok (b := bindK k) (all := n2.map NodeV.c) hRd3.fr
  rw [← hc3] at hE4
  generalize (foldK (bindK k) K3 (n2.map NodeV.c)).1 = K4 at hE4 hK4 hb3 ⊢
  have hst4 := stk_len K4
  refine cR ?_;refine oV ?_;refine oA Tryz.isAgg162 Tryz.sizeOf162 ?_;refine o_ifaceS trivial rfl rfl (fun w => by kernel_rfl) ?_;refine oC trivial rfl Tryz.call135 rfl (push_any b (j2 + 1) vall us3 vi vl vo ua3 (opV k (bindK k) false) 162 (stk K4 ++ [odI (lastN n3)]) (by rw [List.length_append]; show (stk K4).length + 1 ≤ _; omega)) (by repeat constructor) ?_;rintro _ _ _ hx7 ⟨rfl, rfl, us4, rfl⟩;refine oN (blk_n ?_);exact again (j2 + 1, .bin k (lastN n3) :: K4, n3, us4, ua3, I2) (sC rfl sN) (fun _ h => by rw [List.append_assoc] at h; exact h.sort (by repeat constructor)) (by show L.length - (j2 + 1) < L.length - j; omega) ⟨by show j2 + 1 ≤ _; omega, ⟨hk25.1, hk25.2, hK4⟩, hok3, by show n3.length + (K4.length + 1) ≤ j2 + 1; omega, by rw [← lastN_eq] at hE4; exact hE4, hx1.trans hx2 (Nat.le_refl _), by show i ≤ j2 + 1; omega⟩
theorem run_start {all : List NodeC} {r : List Tok} {o q : POut} (h : Ps .sum all r q) (ho : q.then_ o fun a2 r2 => match r2 with
      | y :: r3 => if isT y 2 semiS then o = .ok a2 r3 else o = .bad r2
      | [] => o = .bad []) : RunE [] all r o := by
  cases h with
  | sum_bad h =>
    cases h with
    | product_bad h => exact ⟨_, h, ho⟩
    | product_ok h1 h2 => exact ⟨_, h1, _, h2, ho⟩
  | sum_ok h h3 =>
    cases h with
    | product_ok h1 h2 => exact ⟨_, h1, _, h2, _, h3, ho⟩
theorem let_run {L : List Tok} {all : List NodeC} {i : Nat} {o1 : LO} (h : Lt1 all (L.drop i) o1) (hN : hdN (L.drop i) = true) (hq : hdT (L.drop (i + 1)) 2 equalS = true) :
    ∃ o, RunE [] all (L.drop (i + 2)) o ∧ (∀ r, o = .bad r → o1 = .bad r) ∧ ∀ a r, o = .ok a r → o1 = .ok (tkAt L i).text a r := by
  have h1 := hdN_lt hN
  have h2 := hdT_lt hq
  rw [drop_cons h1, drop_cons h2] at h
  rw [drop_cons h1] at hN
  rw [drop_cons h2] at hq
  cases h with
  | noname h0 => simp only [hdN] at hN h0; rw [hN] at h0; cases h0
  | noeq _ h0 => rw [hq] at h0; cases h0
  | sumbad _ _ h3 => exact ⟨_, run_start h3 rfl, fun r hr => by cases hr; rfl, fun a r hr => by cases hr⟩
  | @nosemi a1 _ _ _ r1 _ _ h3 h4 =>
    refine ⟨.bad r1, run_start h3 ?_, fun r hr => by cases hr; rfl, fun a r hr => by cases hr⟩
    cases r1 with
    | nil => rfl
    | cons y r => show (if _ then _ else _); rw [if_neg (by simp only [hdT] at h4; rw [h4]; decide)]
  | ok _ _ h3 h4 =>
    refine ⟨.ok _ _, run_start h3 ?_, fun r hr => (by cases hr), fun a r hr => by cases hr; rfl⟩
    show (if _ then _ else _)
    rw [if_pos h4]
theorem let_noname {L : List Tok} {all : List NodeC} {i : Nat} {o1 : LO} (h : Lt1 all (L.drop i) o1) (hN : hdN (L.drop i) = false) : o1 = .bad (L.drop i) := by
  generalize L.drop i = r at h hN
  cases h with
  | noname _ => rfl
  | noeq h1 _ => simp only [hdN] at hN; rw [hN] at h1; cases h1
  | sumbad h1 _ _ => simp only [hdN] at hN; rw [hN] at h1; cases h1
  | nosemi h1 _ _ _ => simp only [hdN] at hN; rw [hN] at h1; cases h1
  | ok h1 _ _ _ => simp only [hdN] at hN; rw [hN] at h1; cases h1
theorem let_noeq {L : List Tok} {all : List NodeC} {i : Nat} {o1 : LO} (h : Lt1 all (L.drop i) o1) (hN : hdN (L.drop i) = true) (hq : hdT (L.drop (i + 1)) 2 equalS = false) : o1 = .bad (L.drop (i + 1)) := by
  have h1 := hdN_lt hN
  rw [drop_cons h1] at h hN
  generalize L.drop (i + 1) = r at h hN hq
  cases h with
  | noname h0 => rw [hN] at h0; cases h0
  | noeq _ _ => rfl
  | sumbad _ h0 _ => simp only [hdT] at hq; rw [hq] at h0; cases h0
  | nosemi _ h0 _ _ => simp only [hdT] at hq; rw [hq] at h0; cases h0
  | ok _ h0 _ _ => simp only [hdT] at hq; rw [hq] at h0; cases h0
theorem lts_more (ls : List LetC) (c : LetC) : ((ls ++ [c]).map LetC.cells).flatten = (ls.map LetC.cells).flatten ++ c.cells := by simp
theorem rdLet_any (b i : Nat) (vall vi vl vo va : Value) (ls : List LetC) (ns : List NodeV) (L : List Tok) {I : Hp} (hM : Mx I) (hE : Errs I) (hL : Slc I 4 vall (L.map Tok.cells)) (hn : L.length ≤ 10000) (hs : TkSmall L) (hto : ToksOk L) (hok : ∀ o ∈ ns, o.ok I) (hb : ns.length ≤ i) (hls : ls.length ≤ i) (hi : i ≤ L.length) {o : LO} (h : Lt1 (ns.map NodeV.c) (L.drop i) o) :
    Fun Tryz.prog 71 [.pointer (some ⟨b, 0, none⟩)] I [rdB b vall i (.slice none 0 0) vi vl vo va, ltR vl ls, ndR va ns]
    (fun v I' B' => ∃ ok i' vs' vl' va' ns' ls', v = .bool ok ∧ B' = [rdB b vall i' vs' vi vl' vo va', ltR vl' ls', ndR va' ns'] ∧ i' ≤ L.length ∧ (ok = false → o = .bad (L.drop i')) ∧ (ok = true → ∃ s, o = .ok s (ns'.map NodeV.c) (L.drop i') ∧ vs' = .slice none 0 0 ∧ (∀ o ∈ ns', o.ok I') ∧ ns'.length ≤ i' ∧ ls' = ls ++ [⟨s, lastN ns'⟩] ∧ i < i')) := by
  intro w hw
  refine enter1 _ Tryz.func71 rfl Tryz.ntmps71 rfl ?_ hw;refine sR ?_;refine oV ?_;refine nS ?_;refine oV ?_;refine oC trivial rfl Tryz.call101 rfl (rdName_any b i vall (.slice none 0 0) vi vl vo va L hL (by omega) hs) (by repeat constructor) ?_;rintro _ _ _ hx1 ⟨rfl, rfl, rfl⟩;iterate 5 refine oV ?_
  refine nU ?_;iterate 2 refine oV ?_
  refine o_fork trivial rfl rfl (fun hb12 => ?_) (fun hb12 => ?_)
  ·
   have fb12 := hb12
   try simp only [bl] at fb12
   have hN : hdN (L.drop i) = false := by simpa using hb12
   rw [adv_false hN]
   iterate 3 refine o_skip (skips_some rfl rfl rfl) rfl ?_
   iterate 2 refine oV ?_
   iterate 3 refine o_skip (skips_some rfl rfl rfl) rfl ?_
   refine oV ?_;refine nT ?_;refine c_cond_t rfl rfl ?_;refine sR ?_;refine oV ?_;refine nF ?_;refine ret1 rfl rfl ?_
   first
   | exact fun w' hw' => ⟨I2, [rdB b vall j (.slice none 0 0) vi v38 vo ua, ltR v38 (ls ++ [⟨(tkAt L i).text, lastN n2⟩]), ndR ua n2], (by unfold ltR; rw [lts_more, List.length_append]; exact hw'.sort (by repeat constructor)), hx3, true, j, _, v38, ua, n2, _, rfl, rfl, hj, fun h => (by cases h), fun _ => ⟨_, ho3 _ _ he, rfl, hok2, hb2, rfl, by omega⟩⟩
   | exact fun w' hw' => ⟨I2, [rdB b vall j us vi vl vo ua, ltR vl ls, ndR ua n2], hw'.sort (by repeat constructor), hx3, false, j, _, vl, ua, n2, ls, rfl, rfl, hj, fun _ => ho2 _ (hno hk), fun h => by cases h⟩
   | exact fun w' hw' => ⟨I, [rdB b vall (i + 1) (.slice none 0 0) vi vl vo va, ltR vl ls, ndR va ns], hw'.sort (by repeat constructor), Ext.refl _ _, false, i + 1, _, vl, va, ns, ls, rfl, rfl, hlt, fun _ => let_noeq h hN hq, fun h => by cases h⟩
   | exact fun w' hw' => ⟨I, [rdB b vall i (.slice none 0 0) vi vl vo va, ltR vl ls, ndR va ns], hw'.sort (by repeat constructor), Ext.refl _ _, false, i, _, vl, va, ns, ls, rfl, rfl, hi, fun _ => let_noname h hN, fun h => by cases h⟩
  have fb12 := hb12
  try simp only [bl] at fb12
  have hN : hdN (L.drop i) = true := by simpa using hb12
  rw [adv_true hN]
  have hlt := hdN_lt hN
  refine o_pv (wS rfl rfl rfl) rfl rfl ?_;refine oC (wS rfl rfl rfl) rfl Tryz.call102 rfl (rdMark_any b (i + 1) vall (.slice none 0 0) vi vl vo va equalS L hL (by omega)) (by repeat constructor) ?_;rintro _ _ _ hx2 ⟨rfl, rfl, rfl⟩;refine o_pv (wS rfl rfl rfl) rfl rfl ?_;refine oV ?_;refine o_fork trivial rfl rfl (fun hb17 => ?_) (fun hb17 => ?_)
  ·
   have fb17 := hb17
   try simp only [bl] at fb17
   have hq : hdT (L.drop (i + 1)) 2 equalS = false := by simpa using hb17
   rw [adv_false hq]
   iterate 3 refine o_skip (skips_some rfl rfl rfl) rfl ?_
   refine oV ?_;refine nT ?_;refine c_cond_t rfl rfl ?_;refine sR ?_;refine oV ?_;refine nF ?_;refine ret1 rfl rfl ?_
   first
   | exact fun w' hw' => ⟨I2, [rdB b vall j (.slice none 0 0) vi v38 vo ua, ltR v38 (ls ++ [⟨(tkAt L i).text, lastN n2⟩]), ndR ua n2], (by unfold ltR; rw [lts_more, List.length_append]; exact hw'.sort (by repeat constructor)), hx3, true, j, _, v38, ua, n2, _, rfl, rfl, hj, fun h => (by cases h), fun _ => ⟨_, ho3 _ _ he, rfl, hok2, hb2, rfl, by omega⟩⟩
   | exact fun w' hw' => ⟨I2, [rdB b vall j us vi vl vo ua, ltR vl ls, ndR ua n2], hw'.sort (by repeat constructor), hx3, false, j, _, vl, ua, n2, ls, rfl, rfl, hj, fun _ => ho2 _ (hno hk), fun h => by cases h⟩
   | exact fun w' hw' => ⟨I, [rdB b vall (i + 1) (.slice none 0 0) vi vl vo va, ltR vl ls, ndR va ns], hw'.sort (by repeat constructor), Ext.refl _ _, false, i + 1, _, vl, va, ns, ls, rfl, rfl, hlt, fun _ => let_noeq h hN hq, fun h => by cases h⟩
   | exact fun w' hw' => ⟨I, [rdB b vall i (.slice none 0 0) vi vl vo va, ltR vl ls, ndR va ns], hw'.sort (by repeat constructor), Ext.refl _ _, false, i, _, vl, va, ns, ls, rfl, rfl, hi, fun _ => let_noname h hN, fun h => by cases h⟩
  have fb17 := hb17
  try simp only [bl] at fb17
  have hq : hdT (L.drop (i + 1)) 2 equalS = true := by simpa using hb17
  rw [adv_true hq]
  have hlt2 := hdT_lt hq
  obtain ⟨o2, hr2, ho2, ho3⟩ := let_run h hN hq
  refine o_pv (wS rfl rfl rfl) rfl rfl ?_;refine oC (wS rfl rfl rfl) rfl Tryz.call103 rfl (rdSum_any b (i + 1 + 1) vall vi vl vo va ns L hM hE hL hn hs hto hok (by omega) (by omega) hr2) (by repeat constructor) ?_;rintro _ I2 _ hx3 ⟨ok2, j, us, ua, n2, rfl, rfl, hj, hno, hyes⟩;refine o_pv (wS rfl rfl rfl) rfl rfl ?_;refine oV ?_;refine nT ?_;refine cC rfl (fun h1 => ?_) (fun h1 => ?_)
  ·
   have f1 := h1;try simp only [bl] at f1
   have hk : ok2 = false := by simpa using f1
   refine sR ?_;refine oV ?_;refine nF ?_;refine ret1 rfl rfl ?_
   first
   | exact fun w' hw' => ⟨I2, [rdB b vall j (.slice none 0 0) vi v38 vo ua, ltR v38 (ls ++ [⟨(tkAt L i).text, lastN n2⟩]), ndR ua n2], (by unfold ltR; rw [lts_more, List.length_append]; exact hw'.sort (by repeat constructor)), hx3, true, j, _, v38, ua, n2, _, rfl, rfl, hj, fun h => (by cases h), fun _ => ⟨_, ho3 _ _ he, rfl, hok2, hb2, rfl, by omega⟩⟩
   | exact fun w' hw' => ⟨I2, [rdB b vall j us vi vl vo ua, ltR vl ls, ndR ua n2], hw'.sort (by repeat constructor), hx3, false, j, _, vl, ua, n2, ls, rfl, rfl, hj, fun _ => ho2 _ (hno hk), fun h => by cases h⟩
   | exact fun w' hw' => ⟨I, [rdB b vall (i + 1) (.slice none 0 0) vi vl vo va, ltR vl ls, ndR va ns], hw'.sort (by repeat constructor), Ext.refl _ _, false, i + 1, _, vl, va, ns, ls, rfl, rfl, hlt, fun _ => let_noeq h hN hq, fun h => by cases h⟩
   | exact fun w' hw' => ⟨I, [rdB b vall i (.slice none 0 0) vi vl vo va, ltR vl ls, ndR va ns], hw'.sort (by repeat constructor), Ext.refl _ _, false, i, _, vl, va, ns, ls, rfl, rfl, hi, fun _ => let_noname h hN, fun h => by cases h⟩
  have f1 := h1;try simp only [bl] at f1
  have hk : ok2 = true := by simpa using f1
  obtain ⟨he, rfl, hok2, hb2, hlt3⟩ := hyes hk
  rw [if_pos hN]
  refine cK (tC (cS ?_));refine h_beginB (m := 21) [ndR ua n2] (by repeat constructor) (by kernel_rfl) rfl ?_;refine qT (i := 0) (qB 21 1) (Hp.Le.refl _) rfl rfl (oV qF) ?_;refine qT (i := 1) (qB 21 3) (Hp.Le.refl _) rfl rfl (oV qF) ?_;refine qT (i := 2) (qB 21 7) (Hp.Le.refl _) rfl rfl (oV qF) ?_;refine qT (i := 3) (qB 21 15) (Hp.Le.refl _) rfl rfl (oF 3 Tryz.underlying66 Tryz.sizeOf27 qF) ?_;refine qT (i := 4) (qB 21 31) (Hp.Le.refl _) rfl rfl (oF 1 Tryz.underlying27 Tryz.sizeOf24 qF) ?_;refine qT (i := 6) (qB 21 95) (Hp.Le.refl _) rfl rfl (oV qF) ?_;refine qT (i := 7) (qB 21 223) (Hp.Le.refl _) rfl rfl (oV qF) ?_;refine qT (i := 8) (qB 21 479) (Hp.Le.refl _) rfl rfl (oV qF) ?_;refine qT (i := 9) (qB 21 991) (Hp.Le.refl _) rfl rfl (oF 3 Tryz.underlying66 Tryz.sizeOf27 qF) ?_;refine qT (i := 10) (qB 21 2015) (Hp.Le.refl _) rfl rfl (oF 3 Tryz.underlying27 Tryz.sizeOf25 qF) ?_;refine h_go [5, 11] (by kernel_rfl) rfl (TWHs.cons ?_ (TWHs.cons ?_ TWHs.nil))
  ·
   refine qP (qB 21 2047) rfl ?_;refine oL Tryz.isAgg24 ?_;refine qM (Hp.Le.refl _) ?_;refine qO (i := 11) (qB 21 4095) rfl ?_;refine oL Tryz.isAgg25 ?_;refine qM (Hp.Le.refl _) ?_;refine qT (i := 12) (qB 21 8191) (Hp.Le.refl _) rfl rfl (o_lenRow trivial rfl Tryz.underlying25 rfl (by repeat constructor) qF) ?_;refine' qT (i := 13) (qB 21 16383) (Hp.Le.refl _) rfl rfl ?hh0 ?kk0
   case hh0 =>
    first | (refine o_sub trivial rfl rfl rfl ?_ ?_; (omega)) | refine oV ?_
    exact qF
   refine qT (i := 14) (qB 21 32767) (Hp.Le.refl _) rfl rfl (o_buildS trivial rfl (bld46) rfl (.cons rfl rfl rfl (by repeat constructor) (.cons rfl rfl rfl (by repeat constructor) .nil)) qF) ?_;refine qO (i := 15) (qB 21 65535) rfl ?_;refine oB Tryz.underlying24 Tryz.sizeOf46 Tryz.zeroValue46 fun b37 => ?_;refine qM (Hp.Le.refl _) ?_;refine qO (i := 16) (qB 21 131071) rfl ?_;refine oD Tryz.underlying24 elem46 fun v38 => ?_;refine qM (Hp.Le.refl _) ?_;refine qT (i := 17) (qB 21 262143) (Hp.Le.refl _) rfl rfl (oV qF) ?_;refine qT (i := 18) (qB 21 524287) (Hp.Le.refl _) rfl rfl (oF 3 Tryz.underlying66 Tryz.sizeOf27 qF) ?_;refine qT (i := 19) (qB 21 1048575) (Hp.Le.refl _) rfl rfl (oF 1 Tryz.underlying27 Tryz.sizeOf24 qF) ?_;refine qO (i := 20) (qB 21 2097151) rfl ?_;refine l_rowCells (u := v38) (by repeat constructor) (fun hcv => ?_);refine o_storeBox1 trivial rfl rfl (hcv).1 Tryz.sizeOf24 (hcv).2 (by repeat constructor) (by exact Nat.le_of_ble_eq_true rfl) ?_;refine qM (Hp.Le.refl _) ?_;refine h_end (by kernel_rfl) ?_;refine tC (sR ?_);refine oV ?_;refine nE ?_;refine ret1 rfl rfl ?_
   first
   | exact fun w' hw' => ⟨I2, [rdB b vall j (.slice none 0 0) vi v38 vo ua, ltR v38 (ls ++ [⟨(tkAt L i).text, lastN n2⟩]), ndR ua n2], (by unfold ltR; rw [lts_more, List.length_append]; exact hw'.sort (by repeat constructor)), hx3, true, j, _, v38, ua, n2, _, rfl, rfl, hj, fun h => (by cases h), fun _ => ⟨_, ho3 _ _ he, rfl, hok2, hb2, rfl, by omega⟩⟩
   | exact fun w' hw' => ⟨I2, [rdB b vall j us vi vl vo ua, ltR vl ls, ndR ua n2], hw'.sort (by repeat constructor), hx3, false, j, _, vl, ua, n2, ls, rfl, rfl, hj, fun _ => ho2 _ (hno hk), fun h => by cases h⟩
   | exact fun w' hw' => ⟨I, [rdB b vall (i + 1) (.slice none 0 0) vi vl vo va, ltR vl ls, ndR va ns], hw'.sort (by repeat constructor), Ext.refl _ _, false, i + 1, _, vl, va, ns, ls, rfl, rfl, hlt, fun _ => let_noeq h hN hq, fun h => by cases h⟩
   | exact fun w' hw' => ⟨I, [rdB b vall i (.slice none 0 0) vi vl vo va, ltR vl ls, ndR va ns], hw'.sort (by repeat constructor), Ext.refl _ _, false, i, _, vl, va, ns, ls, rfl, rfl, hi, fun _ => let_noname h hN, fun h => by cases h⟩
  refine qP (qB 21 4063) rfl ?_;refine oL Tryz.isAgg25 ?_;refine qM (Hp.Le.refl _) ?_;refine qT (i := 12) (qB 21 8159) (Hp.Le.refl _) rfl rfl (o_lenRow trivial rfl Tryz.underlying25 rfl (by repeat constructor) qF) ?_;refine' qT (i := 13) (qB 21 16351) (Hp.Le.refl _) rfl rfl ?hh1 ?kk1
  case hh1 =>
   first | (refine o_sub trivial rfl rfl rfl ?_ ?_; (omega)) | refine oV ?_
   exact qF
  refine qT (i := 14) (qB 21 32735) (Hp.Le.refl _) rfl rfl (o_buildS trivial rfl (bld46) rfl (.cons rfl rfl rfl (by repeat constructor) (.cons rfl rfl rfl (by repeat constructor) .nil)) qF) ?_;refine h_go [5, 15] (by kernel_rfl) rfl (TWHs.cons ?_ (TWHs.cons ?_ TWHs.nil))
  ·
   refine qP (qB 21 32767) rfl ?_;refine oL Tryz.isAgg24 ?_;refine qM (Hp.Le.refl _) ?_;refine qO (i := 15) (qB 21 65535) rfl ?_;refine oB Tryz.underlying24 Tryz.sizeOf46 Tryz.zeroValue46 fun b37 => ?_;refine qM (Hp.Le.refl _) ?_;refine qO (i := 16) (qB 21 131071) rfl ?_;refine oD Tryz.underlying24 elem46 fun v38 => ?_;refine qM (Hp.Le.refl _) ?_;refine qT (i := 17) (qB 21 262143) (Hp.Le.refl _) rfl rfl (oV qF) ?_;refine qT (i := 18) (qB 21 524287) (Hp.Le.refl _) rfl rfl (oF 3 Tryz.underlying66 Tryz.sizeOf27 qF) ?_;refine qT (i := 19) (qB 21 1048575) (Hp.Le.refl _) rfl rfl (oF 1 Tryz.underlying27 Tryz.sizeOf24 qF) ?_;refine qO (i := 20) (qB 21 2097151) rfl ?_;refine l_rowCells (u := v38) (by repeat constructor) (fun hcv => ?_);refine o_storeBox1 trivial rfl rfl (hcv).1 Tryz.sizeOf24 (hcv).2 (by repeat constructor) (by exact Nat.le_of_ble_eq_true rfl) ?_;refine qM (Hp.Le.refl _) ?_;refine h_end (by kernel_rfl) ?_;refine tC (sR ?_);refine oV ?_;refine nE ?_;refine ret1 rfl rfl ?_
   first
   | exact fun w' hw' => ⟨I2, [rdB b vall j (.slice none 0 0) vi v38 vo ua, ltR v38 (ls ++ [⟨(tkAt L i).text, lastN n2⟩]), ndR ua n2], (by unfold ltR; rw [lts_more, List.length_append]; exact hw'.sort (by repeat constructor)), hx3, true, j, _, v38, ua, n2, _, rfl, rfl, hj, fun h => (by cases h), fun _ => ⟨_, ho3 _ _ he, rfl, hok2, hb2, rfl, by omega⟩⟩
   | exact fun w' hw' => ⟨I2, [rdB b vall j us vi vl vo ua, ltR vl ls, ndR ua n2], hw'.sort (by repeat constructor), hx3, false, j, _, vl, ua, n2, ls, rfl, rfl, hj, fun _ => ho2 _ (hno hk), fun h => by cases h⟩
   | exact fun w' hw' => ⟨I, [rdB b vall (i + 1) (.slice none 0 0) vi vl vo va, ltR vl ls, ndR va ns], hw'.sort (by repeat constructor), Ext.refl _ _, false, i + 1, _, vl, va, ns, ls, rfl, rfl, hlt, fun _ => let_noeq h hN hq, fun h => by cases h⟩
   | exact fun w' hw' => ⟨I, [rdB b vall i (.slice none 0 0) vi vl vo va, ltR vl ls, ndR va ns], hw'.sort (by repeat constructor), Ext.refl _ _, false, i, _, vl, va, ns, ls, rfl, rfl, hi, fun _ => let_noname h hN, fun h => by cases h⟩
  refine qP (qB 21 65503) rfl ?_;refine oB Tryz.underlying24 Tryz.sizeOf46 Tryz.zeroValue46 fun b37 => ?_;refine qM (Hp.Le.refl _) ?_;refine qO (i := 5) (qB 21 65535) rfl ?_;refine oL Tryz.isAgg24 ?_;refine qM (Hp.Le.refl _) ?_;refine qO (i := 16) (qB 21 131071) rfl ?_;refine oD Tryz.underlying24 elem46 fun v38 => ?_;refine qM (Hp.Le.refl _) ?_;refine qT (i := 17) (qB 21 262143) (Hp.Le.refl _) rfl rfl (oV qF) ?_;refine qT (i := 18) (qB 21 524287) (Hp.Le.refl _) rfl rfl (oF 3 Tryz.underlying66 Tryz.sizeOf27 qF) ?_;refine qT (i := 19) (qB 21 1048575) (Hp.Le.refl _) rfl rfl (oF 1 Tryz.underlying27 Tryz.sizeOf24 qF) ?_;refine qO (i := 20) (qB 21 2097151) rfl ?_;refine l_rowCells (u := v38) (by repeat constructor) (fun hcv => ?_);refine o_storeBox1 trivial rfl rfl (hcv).1 Tryz.sizeOf24 (hcv).2 (by repeat constructor) (by exact Nat.le_of_ble_eq_true rfl) ?_;refine qM (Hp.Le.refl _) ?_;refine h_end (by kernel_rfl) ?_;refine tC (sR ?_);refine oV ?_;refine nE ?_;refine ret1 rfl rfl ?_
  first
  | exact fun w' hw' => ⟨I2, [rdB b vall j (.slice none 0 0) vi v38 vo ua, ltR v38 (ls ++ [⟨(tkAt L i).text, lastN n2⟩]), ndR ua n2], (by unfold ltR; rw [lts_more, List.length_append]; exact hw'.sort (by repeat constructor)), hx3, true, j, _, v38, ua, n2, _, rfl, rfl, hj, fun h => (by cases h), fun _ => ⟨_, ho3 _ _ he, rfl, hok2, hb2, rfl, by omega⟩⟩
  | exact fun w' hw' => ⟨I2, [rdB b vall j us vi vl vo ua, ltR vl ls, ndR ua n2], hw'.sort (by repeat constructor), hx3, false, j, _, vl, ua, n2, ls, rfl, rfl, hj, fun _ => ho2 _ (hno hk), fun h => by cases h⟩
  | exact fun w' hw' => ⟨I, [rdB b vall (i + 1) (.slice none 0 0) vi vl vo va, ltR vl ls, ndR va ns], hw'.sort (by repeat constructor), Ext.refl _ _, false, i + 1, _, vl, va, ns, ls, rfl, rfl, hlt, fun _ => let_noeq h hN hq, fun h => by cases h⟩
  | exact fun w' hw' => ⟨I, [rdB b vall i (.slice none 0 0) vi vl vo va, ltR vl ls, ndR va ns], hw'.sort (by repeat constructor), Ext.refl _ _, false, i, _, vl, va, ns, ls, rfl, rfl, hi, fun _ => let_noname h hN, fun h => by cases h⟩
def PrgTail (ins : List ByteArray) (o : PO) (ls : List LetC) (all : List NodeC) (r2 : List Tok) : Prop :=
  (hdT r2 0 outS = false → o = .bad r2) ∧ (hdT r2 0 outS = true → (∀ r3, namesZ (r2.drop 1) = .bad r3 → o = .bad r3) ∧ (∀ outs r3, namesZ (r2.drop 1) = .ok outs r3 → (r3 = [] → o = .ok ⟨ins, ls, outs, all⟩) ∧ (r3 ≠ [] → o = .bad r3)))
theorem prg_parts {r : List Tok} {o : PO} (h : Prg r o) : (hdT r 0 inS = false → o = .bad r) ∧ (hdT r 0 inS = true → (∀ r1, namesZ (r.drop 1) = .bad r1 → o = .bad r1) ∧ ∀ ins r1, namesZ (r.drop 1) = .ok ins r1 → ∃ oL, Lts [] [] r1 oL ∧ (∀ r2, oL = .bad r2 → o = .bad r2) ∧ ∀ ls all r2, oL = .ok ls all r2 → PrgTail ins o ls all r2) := by
  cases h with
  | noin h0 => exact ⟨fun _ => rfl, fun h => by rw [h0] at h; cases h⟩
  | insbad h0 h1 =>
    refine ⟨fun h => (by simp only [hdT] at h; rw [h0] at h; cases h), fun _ => ⟨fun r1 hr => (by simp only [List.drop_one, List.tail_cons] at hr; rw [h1] at hr; cases hr; rfl), fun ins r1 hr => by simp only [List.drop_one, List.tail_cons] at hr; rw [h1] at hr; cases hr⟩⟩
  | letsbad h0 h1 h2 =>
    refine ⟨fun h => (by simp only [hdT] at h; rw [h0] at h; cases h), fun _ => ⟨fun r1 hr => (by simp only [List.drop_one, List.tail_cons] at hr; rw [h1] at hr; cases hr), fun ins r1 hr => ?_⟩⟩
    simp only [List.drop_one, List.tail_cons] at hr; rw [h1] at hr; cases hr
    exact ⟨_, h2, fun r2 hr => (by cases hr; rfl), fun ls all r2 hr => by cases hr⟩
  | noout h0 h1 h2 h3 =>
    refine ⟨fun h => (by simp only [hdT] at h; rw [h0] at h; cases h), fun _ => ⟨fun r1 hr => (by simp only [List.drop_one, List.tail_cons] at hr; rw [h1] at hr; cases hr), fun ins r1 hr => ?_⟩⟩
    simp only [List.drop_one, List.tail_cons] at hr; rw [h1] at hr; cases hr
    refine ⟨_, h2, fun r2 hr => (by cases hr), fun ls all r2 hr => ?_⟩
    cases hr
    exact ⟨fun _ => rfl, fun h => by rw [h3] at h; cases h⟩
  | outsbad h0 h1 h2 h3 h4 =>
    refine ⟨fun h => (by simp only [hdT] at h; rw [h0] at h; cases h), fun _ => ⟨fun r1 hr => (by simp only [List.drop_one, List.tail_cons] at hr; rw [h1] at hr; cases hr), fun ins r1 hr => ?_⟩⟩
    simp only [List.drop_one, List.tail_cons] at hr; rw [h1] at hr; cases hr
    refine ⟨_, h2, fun r2 hr => (by cases hr), fun ls all r2 hr => ?_⟩
    cases hr
    refine ⟨fun h => (by simp only [hdT] at h; rw [h3] at h; cases h), fun _ => ⟨fun r3 hr => ?_, fun outs r3 hr => ?_⟩⟩
    · simp only [List.drop_one, List.tail_cons] at hr; rw [h4] at hr; cases hr; rfl
    · simp only [List.drop_one, List.tail_cons] at hr; rw [h4] at hr; cases hr
  | tail h0 h1 h2 h3 h4 =>
    refine ⟨fun h => (by simp only [hdT] at h; rw [h0] at h; cases h), fun _ => ⟨fun r1 hr => (by simp only [List.drop_one, List.tail_cons] at hr; rw [h1] at hr; cases hr), fun ins r1 hr => ?_⟩⟩
    simp only [List.drop_one, List.tail_cons] at hr; rw [h1] at hr; cases hr
    refine ⟨_, h2, fun r2 hr => (by cases hr), fun ls all r2 hr => ?_⟩
    cases hr
    refine ⟨fun h => (by simp only [hdT] at h; rw [h3] at h; cases h), fun _ => ⟨fun r3 hr => ?_, fun outs r3 hr => ?_⟩⟩
    · simp only [List.drop_one, List.tail_cons] at hr; rw [h4] at hr; cases hr
    · simp only [List.drop_one, List.tail_cons] at hr; rw [h4] at hr; cases hr
      exact ⟨fun h => (by cases h), fun _ => rfl⟩
  | ok h0 h1 h2 h3 h4 =>
    refine ⟨fun h => (by simp only [hdT] at h; rw [h0] at h; cases h), fun _ => ⟨fun r1 hr => (by simp only [List.drop_one, List.tail_cons] at hr; rw [h1] at hr; cases hr), fun ins r1 hr => ?_⟩⟩
    simp only [List.drop_one, List.tail_cons] at hr; rw [h1] at hr; cases hr
    refine ⟨_, h2, fun r2 hr => (by cases hr), fun ls all r2 hr => ?_⟩
    cases hr
    refine ⟨fun h => (by simp only [hdT] at h; rw [h3] at h; cases h), fun _ => ⟨fun r3 hr => ?_, fun outs r3 hr => ?_⟩⟩
    · simp only [List.drop_one, List.tail_cons] at hr; rw [h4] at hr; cases hr
    · simp only [List.drop_one, List.tail_cons] at hr; rw [h4] at hr; cases hr
      exact ⟨fun _ => rfl, fun h => absurd rfl h⟩
theorem lts_parts {ls : List LetC} {all : List NodeC} {r : List Tok} {oL : LSO} (h : Lts ls all r oL) : (hdT r 0 letS = false → oL = .ok ls all r) ∧ (hdT r 0 letS = true → ∃ o1, Lt1 all (r.drop 1) o1 ∧ (∀ r1, o1 = .bad r1 → oL = .bad r1) ∧ ∀ n a1 r1, o1 = .ok n a1 r1 → Lts (ls ++ [⟨n, lastI a1⟩]) a1 r1 oL) := by
  cases h with
  | fin h0 => exact ⟨fun _ => rfl, fun h => by rw [h0] at h; cases h⟩
  | bad h0 h1 => exact ⟨fun h => (by simp only [hdT] at h; rw [h0] at h; cases h), fun _ => ⟨_, h1, fun r1 hr => (by cases hr; rfl), fun n a1 r1 hr => by cases hr⟩⟩
  | more h0 h1 h2 => exact ⟨fun h => (by simp only [hdT] at h; rw [h0] at h; cases h), fun _ => ⟨_, h1, fun r1 hr => (by cases hr), fun n a1 r1 hr => by cases hr; exact h2⟩⟩
theorem nm_bad {L : List Tok} {i' : Nat} {ok : Bool} {l : List ByteArray} {o : NOut} (h : NmRes L i' ok l o) (hk : ok = false) : o = .bad (L.drop i') := by
  cases o with
  | bad r => rw [h.2.1]
  | ok m r => rw [h.1] at hk; cases hk
theorem nm_good {L : List Tok} {i' : Nat} {ok : Bool} {l : List ByteArray} {o : NOut} (h : NmRes L i' ok l o) (hk : ok = true) : o = .ok l (L.drop i') := by
  cases o with
  | bad r => rw [h.1] at hk; cases hk
  | ok m r => rw [h.2.1, h.2.2.1]
theorem nm_le {L : List Tok} {i' : Nat} {ok : Bool} {l : List ByteArray} {o : NOut} (h : NmRes L i' ok l o) : i' ≤ L.length := by
  cases o with
  | bad r => exact h.2.2
  | ok m r => exact h.2.2.2
abbrev N0 : Value := .slice none 0 0
theorem rdProgram_any (b : Nat) (vall : Value) (L : List Tok) {I : Hp} (hM : Mx I) (hE : Errs I) (hL : Slc I 4 vall (L.map Tok.cells)) (hn : L.length ≤ 10000) (hs : TkSmall L) (hto : ToksOk L) {o : PO} (h : Prg L o) :
    Fun Tryz.prog 40 [.pointer (some ⟨b, 0, none⟩)] I [rdB b vall 0 N0 N0 N0 N0 N0]
    (fun v I' B' => ∃ ok i' vs' vi' vl' vo' va' wi wl wo wa ins ls outs ns, v = .bool ok ∧ B' = [rdB b vall i' vs' vi' vl' vo' va', nmR wi ins, ltR wl ls, nmR wo outs, ndR wa ns] ∧ i' ≤ L.length ∧ (ok = false → o = .bad (L.drop i')) ∧ (ok = true → wi = vi' ∧ wl = vl' ∧ wo = vo' ∧ wa = va' ∧ (∀ o ∈ ns, o.ok I') ∧ o = .ok ⟨ins, ls, outs, ns.map NodeV.c⟩ ∧ ins.length ≤ 10000 ∧ ls.length ≤ 10000 ∧ outs.length ≤ 10000 ∧ ns.length ≤ 10000)) := by
  have hP := prg_parts h
  rw [← List.drop_zero (l := L)] at hP
  intro w hw
  refine enter1 _ Tryz.func40 rfl Tryz.ntmps40 rfl ?_ hw;refine sR ?_;refine oV ?_;refine nS ?_;refine oV ?_;refine nU ?_;refine oV ?_;refine oC trivial rfl Tryz.call69 rfl (rdKey_any b 0 vall N0 N0 N0 N0 N0 inS L hL (by omega)) (by repeat constructor) ?_;rintro _ _ _ hx1 ⟨rfl, rfl, rfl⟩;refine oV ?_;refine nT ?_;refine cC rfl (fun h1 => ?_) (fun h1 => ?_)
  ·
   have f1 := h1;try simp only [bl] at f1
   have hm : hdT (L.drop 0) 0 inS = false := by simpa using f1
   rw [adv_false hm]
   have hfin := hP.1 hm
   refine sR ?_;refine oV ?_;refine nF ?_;refine ret1 rfl rfl ?_
   first
   | exact fun w' hw' => ⟨I, [rdB b vall 0 N0 N0 N0 N0 N0, nmR N0 [], ltR N0 [], nmR N0 [], ndR N0 []], ((((hw'.nilRow 9 1).nilRow 46 2).nilRow 9 1).nilRow 44 8).sort (by repeat constructor), Ext.refl _ _, false, 0, _, _, _, _, _, _, _, _, _, _, _, _, _, rfl, rfl, Nat.zero_le _, fun _ => hfin, fun h => by cases h⟩
   | exact fun w' hw' => ⟨I, [rdB b vall j1 N0 u1 N0 N0 N0, nmR N0 [], ltR N0 [], nmR N0 [], ndR N0 []], ((((hw'.nilRow 9 1).nilRow 46 2).nilRow 9 1).nilRow 44 8).sort (by repeat constructor), Ext.refl _ _, false, j1, _, _, _, _, _, _, _, _, _, _, _, _, _, rfl, rfl, hj1, fun _ => hfin, fun h => by cases h⟩
   | exact fun w' hw' => ⟨I2, [rdB b vall j2 us2 u1' ul2 N0 ua2, nmR N0 [], ltR N0 [], nmR N0 [], ndR N0 []], ((((hw'.nilRow 9 1).nilRow 46 2).nilRow 9 1).nilRow 44 8).sort (by repeat constructor), hx3.trans hx5 (Nat.le_refl _), false, j2, _, _, _, _, _, _, _, _, _, _, _, _, _, rfl, rfl, hj2, fun _ => hfin, fun h => by cases h⟩
   | exact fun w' hw' => ⟨I1, [rdB b vall j N0 u1' ul N0 ua, nmR N0 [], ltR N0 [], nmR N0 [], ndR N0 []], ((((hw'.nilRow 9 1).nilRow 46 2).nilRow 9 1).nilRow 44 8).sort (by repeat constructor), hx3, false, j, _, _, _, _, _, _, _, _, _, _, _, _, _, rfl, rfl, hj, fun _ => hfin, fun h => by cases h⟩
   | (refine fun w' hw' => ⟨I1, [rdB b vall j3 N0 u1' ul u3 ua, nmR u1' l1, ltR ul ls, nmR u3' l3, ndR ua n0], hw'.sort (by repeat constructor), hx3, _, j3, _, _, _, _, _, u1', ul, u3', ua, l1, ls, l3, n0, rfl, rfl, nm_le hres3, ?_, ?_⟩
      · intro hk
        cases ok3 with
        | false => exact hT1 _ (nm_bad hres3 rfl)
        | true =>
          refine (hT2 _ _ (nm_good hres3 rfl)).2 ?_
          have := nm_le hres3
          simp at hk
          intro e
          rw [List.drop_eq_nil_iff] at e
          omega
      · intro hk
        cases ok3 with
        | false => cases hk
        | true =>
          obtain ⟨rfl, hl3⟩ := hu3 rfl
          refine ⟨rfl, rfl, rfl, rfl, hok0, (hT2 _ _ (nm_good hres3 rfl)).1 ?_, by omega, by omega, by omega, by omega⟩
          simp at hk
          exact List.drop_eq_nil_of_le (by omega))
  have f1 := h1;try simp only [bl] at f1
  have hm : hdT (L.drop 0) 0 inS = true := by simpa using f1
  rw [adv_true hm]
  have hlt := hdT_lt hm
  have hP2 := hP.2 hm
  rw [List.drop_drop] at hP2
  refine cK (tC (cS (sR ?_)));iterate 2 refine oV ?_
  refine oC trivial rfl Tryz.call70 rfl (rdNames_any b (0 + 1) vall N0 N0 N0 N0 N0 L hL hn hs (by omega)) (by repeat constructor) ?_;rintro _ _ _ hx2 ⟨rfl, u1, ok1, j1, u1', l1, rfl, rfl, hres, hu, hcell⟩;iterate 4 refine oV ?_
  refine oF 3 Tryz.underlying66 Tryz.sizeOf27 ?_;refine oF 0 Tryz.underlying27 Tryz.sizeOf23 ?_;refine o_storeBox1 trivial rfl rfl (hcell).1 Tryz.sizeOf23 (hcell).2 (by repeat constructor) (by exact Nat.le_of_ble_eq_true rfl) ?_;refine oV ?_;refine oN (tC (cS ?_))
  have hj1 := nm_le hres
  refine cR ?_;iterate 2 refine oV ?_
  refine nT ?_;refine cC rfl (fun h2 => ?_) (fun h2 => ?_)
  ·
   have f2 := h2;try simp only [bl] at f2
   have hk : ok1 = false := by simpa using f2
   have hfin := hP2.1 _ (nm_bad hres hk)
   refine sR ?_;refine oV ?_;refine nF ?_;refine ret1 rfl rfl ?_
   first
   | exact fun w' hw' => ⟨I, [rdB b vall 0 N0 N0 N0 N0 N0, nmR N0 [], ltR N0 [], nmR N0 [], ndR N0 []], ((((hw'.nilRow 9 1).nilRow 46 2).nilRow 9 1).nilRow 44 8).sort (by repeat constructor), Ext.refl _ _, false, 0, _, _, _, _, _, _, _, _, _, _, _, _, _, rfl, rfl, Nat.zero_le _, fun _ => hfin, fun h => by cases h⟩
   | exact fun w' hw' => ⟨I, [rdB b vall j1 N0 u1 N0 N0 N0, nmR N0 [], ltR N0 [], nmR N0 [], ndR N0 []], ((((hw'.nilRow 9 1).nilRow 46 2).nilRow 9 1).nilRow 44 8).sort (by repeat constructor), Ext.refl _ _, false, j1, _, _, _, _, _, _, _, _, _, _, _, _, _, rfl, rfl, hj1, fun _ => hfin, fun h => by cases h⟩
   | exact fun w' hw' => ⟨I2, [rdB b vall j2 us2 u1' ul2 N0 ua2, nmR N0 [], ltR N0 [], nmR N0 [], ndR N0 []], ((((hw'.nilRow 9 1).nilRow 46 2).nilRow 9 1).nilRow 44 8).sort (by repeat constructor), hx3.trans hx5 (Nat.le_refl _), false, j2, _, _, _, _, _, _, _, _, _, _, _, _, _, rfl, rfl, hj2, fun _ => hfin, fun h => by cases h⟩
   | exact fun w' hw' => ⟨I1, [rdB b vall j N0 u1' ul N0 ua, nmR N0 [], ltR N0 [], nmR N0 [], ndR N0 []], ((((hw'.nilRow 9 1).nilRow 46 2).nilRow 9 1).nilRow 44 8).sort (by repeat constructor), hx3, false, j, _, _, _, _, _, _, _, _, _, _, _, _, _, rfl, rfl, hj, fun _ => hfin, fun h => by cases h⟩
   | (refine fun w' hw' => ⟨I1, [rdB b vall j3 N0 u1' ul u3 ua, nmR u1' l1, ltR ul ls, nmR u3' l3, ndR ua n0], hw'.sort (by repeat constructor), hx3, _, j3, _, _, _, _, _, u1', ul, u3', ua, l1, ls, l3, n0, rfl, rfl, nm_le hres3, ?_, ?_⟩
      · intro hk
        cases ok3 with
        | false => exact hT1 _ (nm_bad hres3 rfl)
        | true =>
          refine (hT2 _ _ (nm_good hres3 rfl)).2 ?_
          have := nm_le hres3
          simp at hk
          intro e
          rw [List.drop_eq_nil_iff] at e
          omega
      · intro hk
        cases ok3 with
        | false => cases hk
        | true =>
          obtain ⟨rfl, hl3⟩ := hu3 rfl
          refine ⟨rfl, rfl, rfl, rfl, hok0, (hT2 _ _ (nm_good hres3 rfl)).1 ?_, by omega, by omega, by omega, by omega⟩
          simp at hk
          exact List.drop_eq_nil_of_le (by omega))
  have f2 := h2;try simp only [bl] at f2
  have hk : ok1 = true := by simpa using f2
  obtain ⟨rfl, hl1⟩ := hu hk
  obtain ⟨oL, hLt, hbadL, hokL⟩ := hP2.2 _ _ (nm_good hres hk)
  refine cK (tC (cS (cB ?_)));refine c_loop (ι := Nat × List LetC × List NodeV × Value × Value × Hp) [0] (.cons rfl .nil) (fun x => L.length - x.1) (fun x E0 => E0) (fun x => St w (keysOf [rdB b vall 0 N0 N0 N0 N0 N0]) x.2.2.2.2.2 [rdB b vall x.1 N0 u1' x.2.2.2.1 N0 x.2.2.2.2.1, nmR u1' l1, ltR x.2.2.2.1 x.2.1, ndR x.2.2.2.2.1 x.2.2.1]) (fun x => x.1 ≤ L.length ∧ x.2.1.length ≤ x.1 ∧ x.2.2.1.length ≤ x.1 ∧ (∀ o ∈ x.2.2.1, o.ok x.2.2.2.2.2) ∧ Lts x.2.1 (x.2.2.1.map NodeV.c) (L.drop x.1) oL ∧ Ext w.heap.size I x.2.2.2.2.2) ((j1, [], [], N0, N0, I)) (sC rfl sN) (fun _ h => ((h.nilRow 46 2).nilRow 44 8).sort (by repeat constructor)) (⟨hj1, Nat.zero_le _, Nat.zero_le _, fun o ho => (by cases ho), hLt, Ext.refl _ _⟩) ?_;rintro ⟨j, ls, n0, ul, ua, I1⟩ ⟨hj, hls0, hn0, hok0, hr, hx3⟩
  try dsimp only
  simp only at hj hls0 hn0 hok0 hr hx3; have hlp := lts_parts hr
  refine cS (sR ?_);refine oV ?_;refine oC trivial rfl Tryz.call69 rfl (rdKey_any b j vall N0 u1' ul N0 ua letS L (hL.le hx3.le) (by omega)) (by repeat constructor) ?_;rintro _ _ _ hx4 ⟨rfl, rfl, rfl⟩;refine nT ?_;refine cC rfl (fun h3 => ?_) (fun h3 => ?_)
  ·
   have f3 := h3;try simp only [bl] at f3
   have hm3 : hdT (L.drop j) 0 letS = true := h3
   rw [adv_true hm3]
   have hlt3 := hdT_lt hm3
   obtain ⟨o1, hL1, hb1, hg1⟩ := hlp.2 hm3
   rw [List.drop_drop] at hL1
   refine cK (tC (cB (sR ?_)));refine oV ?_;refine oC trivial rfl Tryz.call71 rfl (rdLet_any b (j + 1) vall u1' ul N0 ua ls n0 L (hM.le hx3.le) (hE.le hx3.le) (hL.le hx3.le) hn hs hto hok0 (by omega) (by omega) (by omega) hL1) (by repeat constructor) ?_;rintro _ I2 _ hx5 ⟨ok2, j2, us2, ul2, ua2, n2, ls2, rfl, rfl, hj2, hno2, hyes2⟩;refine oV ?_;refine nT ?_;refine cC rfl (fun h4 => ?_) (fun h4 => ?_)
   ·
    have f4 := h4;try simp only [bl] at f4
    have hk4 : ok2 = false := by simpa using f4
    have hfin := hbadL _ (hb1 _ (hno2 hk4))
    refine sR ?_;refine oV ?_;refine oN (tC (cT (blk_r (tR (blk_r (tR ?_))))));refine ret1 rfl rfl ?_
    first
    | exact fun w' hw' => ⟨I, [rdB b vall 0 N0 N0 N0 N0 N0, nmR N0 [], ltR N0 [], nmR N0 [], ndR N0 []], ((((hw'.nilRow 9 1).nilRow 46 2).nilRow 9 1).nilRow 44 8).sort (by repeat constructor), Ext.refl _ _, false, 0, _, _, _, _, _, _, _, _, _, _, _, _, _, rfl, rfl, Nat.zero_le _, fun _ => hfin, fun h => by cases h⟩
    | exact fun w' hw' => ⟨I, [rdB b vall j1 N0 u1 N0 N0 N0, nmR N0 [], ltR N0 [], nmR N0 [], ndR N0 []], ((((hw'.nilRow 9 1).nilRow 46 2).nilRow 9 1).nilRow 44 8).sort (by repeat constructor), Ext.refl _ _, false, j1, _, _, _, _, _, _, _, _, _, _, _, _, _, rfl, rfl, hj1, fun _ => hfin, fun h => by cases h⟩
    | exact fun w' hw' => ⟨I2, [rdB b vall j2 us2 u1' ul2 N0 ua2, nmR N0 [], ltR N0 [], nmR N0 [], ndR N0 []], ((((hw'.nilRow 9 1).nilRow 46 2).nilRow 9 1).nilRow 44 8).sort (by repeat constructor), hx3.trans hx5 (Nat.le_refl _), false, j2, _, _, _, _, _, _, _, _, _, _, _, _, _, rfl, rfl, hj2, fun _ => hfin, fun h => by cases h⟩
    | exact fun w' hw' => ⟨I1, [rdB b vall j N0 u1' ul N0 ua, nmR N0 [], ltR N0 [], nmR N0 [], ndR N0 []], ((((hw'.nilRow 9 1).nilRow 46 2).nilRow 9 1).nilRow 44 8).sort (by repeat constructor), hx3, false, j, _, _, _, _, _, _, _, _, _, _, _, _, _, rfl, rfl, hj, fun _ => hfin, fun h => by cases h⟩
    | (refine fun w' hw' => ⟨I1, [rdB b vall j3 N0 u1' ul u3 ua, nmR u1' l1, ltR ul ls, nmR u3' l3, ndR ua n0], hw'.sort (by repeat constructor), hx3, _, j3, _, _, _, _, _, u1', ul, u3', ua, l1, ls, l3, n0, rfl, rfl, nm_le hres3, ?_, ?_⟩
       · intro hk
         cases ok3 with
         | false => exact hT1 _ (nm_bad hres3 rfl)
         | true =>
           refine (hT2 _ _ (nm_good hres3 rfl)).2 ?_
           have := nm_le hres3
           simp at hk
           intro e
           rw [List.drop_eq_nil_iff] at e
           omega
       · intro hk
         cases ok3 with
         | false => cases hk
         | true =>
           obtain ⟨rfl, hl3⟩ := hu3 rfl
           refine ⟨rfl, rfl, rfl, rfl, hok0, (hT2 _ _ (nm_good hres3 rfl)).1 ?_, by omega, by omega, by omega, by omega⟩
           simp at hk
           exact List.drop_eq_nil_of_le (by omega))
   have f4 := h4;try simp only [bl] at f4
   have hk4 : ok2 = true := by simpa using f4
   obtain ⟨s, he, rfl, hok2, hn2, rfl, hlt4⟩ := hyes2 hk4
   refine cK (blk_n ?_);exact again (j2, ls ++ [⟨s, lastN n2⟩], n2, ul2, ua2, I2) (sC rfl sN) (fun _ h => h.sort (by repeat constructor)) (by show L.length - j2 < L.length - j; omega) ⟨hj2, by rw [List.length_append]; show ls.length + 1 ≤ j2; omega, hn2, hok2, by rw [lastN_eq]; exact hg1 _ _ _ he, hx3.trans hx5 (Nat.le_refl _)⟩
  have f3 := h3;try simp only [bl] at f3
  have hm3 : hdT (L.drop j) 0 letS = false := h3
  rw [adv_false hm3]
  have hT := hokL _ _ _ (hlp.1 hm3)
  refine c_exit (then_x (then_x (blk_eq rfl (tC (cS (sR ?_))))));refine oV ?_;refine oC trivial rfl Tryz.call69 rfl (rdKey_any b j vall N0 u1' ul N0 ua outS L (hL.le hx3.le) (by omega)) (by repeat constructor) ?_;rintro _ _ _ hx5 ⟨rfl, rfl, rfl⟩;refine oV ?_;refine nT ?_;refine cC rfl (fun h5 => ?_) (fun h5 => ?_)
  ·
   have f5 := h5;try simp only [bl] at f5
   have hm5 : hdT (L.drop j) 0 outS = false := by simpa using f5
   rw [adv_false hm5]
   have hfin := hT.1 hm5
   refine sR ?_;refine oV ?_;refine nF ?_;refine ret1 rfl rfl ?_
   first
   | exact fun w' hw' => ⟨I, [rdB b vall 0 N0 N0 N0 N0 N0, nmR N0 [], ltR N0 [], nmR N0 [], ndR N0 []], ((((hw'.nilRow 9 1).nilRow 46 2).nilRow 9 1).nilRow 44 8).sort (by repeat constructor), Ext.refl _ _, false, 0, _, _, _, _, _, _, _, _, _, _, _, _, _, rfl, rfl, Nat.zero_le _, fun _ => hfin, fun h => by cases h⟩
   | exact fun w' hw' => ⟨I, [rdB b vall j1 N0 u1 N0 N0 N0, nmR N0 [], ltR N0 [], nmR N0 [], ndR N0 []], ((((hw'.nilRow 9 1).nilRow 46 2).nilRow 9 1).nilRow 44 8).sort (by repeat constructor), Ext.refl _ _, false, j1, _, _, _, _, _, _, _, _, _, _, _, _, _, rfl, rfl, hj1, fun _ => hfin, fun h => by cases h⟩
   | exact fun w' hw' => ⟨I2, [rdB b vall j2 us2 u1' ul2 N0 ua2, nmR N0 [], ltR N0 [], nmR N0 [], ndR N0 []], ((((hw'.nilRow 9 1).nilRow 46 2).nilRow 9 1).nilRow 44 8).sort (by repeat constructor), hx3.trans hx5 (Nat.le_refl _), false, j2, _, _, _, _, _, _, _, _, _, _, _, _, _, rfl, rfl, hj2, fun _ => hfin, fun h => by cases h⟩
   | exact fun w' hw' => ⟨I1, [rdB b vall j N0 u1' ul N0 ua, nmR N0 [], ltR N0 [], nmR N0 [], ndR N0 []], ((((hw'.nilRow 9 1).nilRow 46 2).nilRow 9 1).nilRow 44 8).sort (by repeat constructor), hx3, false, j, _, _, _, _, _, _, _, _, _, _, _, _, _, rfl, rfl, hj, fun _ => hfin, fun h => by cases h⟩
   | (refine fun w' hw' => ⟨I1, [rdB b vall j3 N0 u1' ul u3 ua, nmR u1' l1, ltR ul ls, nmR u3' l3, ndR ua n0], hw'.sort (by repeat constructor), hx3, _, j3, _, _, _, _, _, u1', ul, u3', ua, l1, ls, l3, n0, rfl, rfl, nm_le hres3, ?_, ?_⟩
      · intro hk
        cases ok3 with
        | false => exact hT1 _ (nm_bad hres3 rfl)
        | true =>
          refine (hT2 _ _ (nm_good hres3 rfl)).2 ?_
          have := nm_le hres3
          simp at hk
          intro e
          rw [List.drop_eq_nil_iff] at e
          omega
      · intro hk
        cases ok3 with
        | false => cases hk
        | true =>
          obtain ⟨rfl, hl3⟩ := hu3 rfl
          refine ⟨rfl, rfl, rfl, rfl, hok0, (hT2 _ _ (nm_good hres3 rfl)).1 ?_, by omega, by omega, by omega, by omega⟩
          simp at hk
          exact List.drop_eq_nil_of_le (by omega))
  have f5 := h5;try simp only [bl] at f5
  have hm5 : hdT (L.drop j) 0 outS = true := by simpa using f5
  rw [adv_true hm5]
  have hlt5 := hdT_lt hm5
  obtain ⟨hT1, hT2⟩ := hT.2 hm5
  rw [List.drop_drop] at hT1 hT2
  refine kS ?_;iterate 2 refine oV ?_
  refine oC trivial rfl Tryz.call70 rfl (rdNames_any b (j + 1) vall N0 u1' ul N0 ua L (hL.le hx3.le) hn hs (by omega)) (by repeat constructor) ?_;rintro _ _ _ hx6 ⟨rfl, u3, ok3, j3, u3', l3, rfl, rfl, hres3, hu3, hcell3⟩;iterate 4 refine oV ?_
  refine oF 3 Tryz.underlying66 Tryz.sizeOf27 ?_;refine oF 2 Tryz.underlying27 Tryz.sizeOf23 ?_;refine o_storeBox1 trivial rfl rfl (hcell3).1 Tryz.sizeOf23 (hcell3).2 (by repeat constructor) (by exact Nat.le_of_ble_eq_true rfl) ?_;refine oV ?_;refine oN (tC (cS ?_));refine c_quiet (by kernel_rfl) (by kernel_rfl) (fun _ h => h.drawn) ?_;refine oV ?_;refine' o_and trivial trivial rfl rfl rfl rfl rfl rfl rfl rfl (fun hb36 => ?_) ?_;rotate_left
  ·
   have fb36 := hb36
   try simp only [bl] at fb36
   iterate 2 refine gV hb36 ?_
   refine gF hb36 1 Tryz.underlying66 Tryz.sizeOf3 ?_;refine gL hb36 Tryz.isAgg3 ?_;iterate 2 refine gV hb36 ?_
   refine gF hb36 0 Tryz.underlying66 Tryz.sizeOf60 ?_;refine gL hb36 Tryz.isAgg60 ?_;refine o_lenSlc (wS rfl rfl hb36) rfl Tryz.underlying60 rfl (hL.le hx3.le) ?_;refine gV hb36 ?_;refine oN ?_;exact joins rfl
  refine oV ?_;refine nE ?_;refine ret1 rfl rfl ?_
  first
  | exact fun w' hw' => ⟨I, [rdB b vall 0 N0 N0 N0 N0 N0, nmR N0 [], ltR N0 [], nmR N0 [], ndR N0 []], ((((hw'.nilRow 9 1).nilRow 46 2).nilRow 9 1).nilRow 44 8).sort (by repeat constructor), Ext.refl _ _, false, 0, _, _, _, _, _, _, _, _, _, _, _, _, _, rfl, rfl, Nat.zero_le _, fun _ => hfin, fun h => by cases h⟩
  | exact fun w' hw' => ⟨I, [rdB b vall j1 N0 u1 N0 N0 N0, nmR N0 [], ltR N0 [], nmR N0 [], ndR N0 []], ((((hw'.nilRow 9 1).nilRow 46 2).nilRow 9 1).nilRow 44 8).sort (by repeat constructor), Ext.refl _ _, false, j1, _, _, _, _, _, _, _, _, _, _, _, _, _, rfl, rfl, hj1, fun _ => hfin, fun h => by cases h⟩
  | exact fun w' hw' => ⟨I2, [rdB b vall j2 us2 u1' ul2 N0 ua2, nmR N0 [], ltR N0 [], nmR N0 [], ndR N0 []], ((((hw'.nilRow 9 1).nilRow 46 2).nilRow 9 1).nilRow 44 8).sort (by repeat constructor), hx3.trans hx5 (Nat.le_refl _), false, j2, _, _, _, _, _, _, _, _, _, _, _, _, _, rfl, rfl, hj2, fun _ => hfin, fun h => by cases h⟩
  | exact fun w' hw' => ⟨I1, [rdB b vall j N0 u1' ul N0 ua, nmR N0 [], ltR N0 [], nmR N0 [], ndR N0 []], ((((hw'.nilRow 9 1).nilRow 46 2).nilRow 9 1).nilRow 44 8).sort (by repeat constructor), hx3, false, j, _, _, _, _, _, _, _, _, _, _, _, _, _, rfl, rfl, hj, fun _ => hfin, fun h => by cases h⟩
  | (refine fun w' hw' => ⟨I1, [rdB b vall j3 N0 u1' ul u3 ua, nmR u1' l1, ltR ul ls, nmR u3' l3, ndR ua n0], hw'.sort (by repeat constructor), hx3, _, j3, _, _, _, _, _, u1', ul, u3', ua, l1, ls, l3, n0, rfl, rfl, nm_le hres3, ?_, ?_⟩
     · intro hk
       cases ok3 with
       | false => exact hT1 _ (nm_bad hres3 rfl)
       | true =>
         refine (hT2 _ _ (nm_good hres3 rfl)).2 ?_
         have := nm_le hres3
         simp at hk
         intro e
         rw [List.drop_eq_nil_iff] at e
         omega
     · intro hk
       cases ok3 with
       | false => cases hk
       | true =>
         obtain ⟨rfl, hl3⟩ := hu3 rfl
         refine ⟨rfl, rfl, rfl, rfl, hok0, (hT2 _ _ (nm_good hres3 rfl)).1 ?_, by omega, by omega, by omega, by omega⟩
         simp at hk
         exact List.drop_eq_nil_of_le (by omega))
structure ToksFine (s : ByteArray) (L : List Tok) : Prop where
  ok : ToksOk L
  small : ∀ t ∈ L, t.text.size ≤ s.size
  few : L.length ≤ 4000
theorem tokZ_fine (s : ByteArray) (i : Nat) : ((tokZ s i).kind = 1 → numZ (tokZ s i).text = true) ∧ (tokZ s i).text.size ≤ s.size := by
  have hx : ∀ a b : Nat, (s.extract a b).size ≤ s.size := fun a b => by rw [ByteArray.size_extract]; omega
  unfold tokZ
  split
  · split
    · exact ⟨fun h => (by cases h), Nat.zero_le _⟩
    · exact ⟨fun h => (by cases h), hx _ _⟩
  · split
    · split
      · exact ⟨fun h => (by cases h), Nat.zero_le _⟩
      · split
        · rename_i h; exact ⟨fun _ => h, hx _ _⟩
        · exact ⟨fun h => (by cases h), Nat.zero_le _⟩
    · split
      · exact ⟨fun h => (by cases h), hx _ _⟩
      · exact ⟨fun h => (by cases h), Nat.zero_le _⟩
theorem lexAt_fine (s : ByteArray) : ∀ (f i : Nat) (out : List Tok), s.size ≤ i + f → ToksFine s out → ToksFine s (lexAt s i out).toks := by
  intro f
  induction f with
  | zero => intro i out h ho; rw [lexAt_end (by omega)]; exact ho
  | succ f ih =>
    intro i out h ho
    by_cases hi : i < s.size
    · rw [lexAt_open hi]
      split
      · exact ih (i + 1) out (by omega) ho
      · split
        · exact ⟨fun t ht => (by cases ht), fun t ht => (by cases ht), Nat.zero_le _⟩
        · split
          · exact ⟨fun t ht => (by cases ht), fun t ht => (by cases ht), Nat.zero_le _⟩
          · rename_i h4 he
            have hst := tokZ_stop hi (Decidable.not_not.1 he)
            obtain ⟨k1, k2⟩ := tokZ_fine s i
            refine ih (tokZ s i).stop _ (by omega) ⟨fun t ht => ?_, fun t ht => ?_, by rw [List.length_append]; show out.length + 1 ≤ 4000; omega⟩
            · rcases List.mem_append.1 ht with ht | ht
              · exact ho.ok t ht
              · rw [List.mem_singleton.1 ht]; exact k1
            · rcases List.mem_append.1 ht with ht | ht
              · exact ho.small t ht
              · rw [List.mem_singleton.1 ht]; exact k2
    · rw [lexAt_end (by omega)]; exact ho
theorem lexZ_fine {s : ByteArray} (hs : s.size ≤ 60000) : ToksFine s (lexZ s).toks := by
  rw [lexZ_at hs]
  exact lexAt_fine s s.size 0 [] (by omega) ⟨fun t ht => (by cases ht), fun t ht => (by cases ht), Nat.zero_le _⟩
structure PRes where
  p : ProgC
  line : Int
  col : Int
  err : Int
def noP : ProgC := ⟨[], [], [], []⟩
noncomputable def prgZ (L : List Tok) : PO := Classical.choose (Prg.some_out L)
theorem prgZ_is (L : List Tok) : Prg L (prgZ L) := Classical.choose_spec (Prg.some_out L)
noncomputable def parseT (s : ByteArray) (o : PO) : PRes := match o with
  | .bad [] => ⟨noP, (placeZ s s.size).1, (placeZ s s.size).2, 5⟩
  | .bad (t :: _) => ⟨noP, t.line, t.col, 5⟩
  | .ok p => if (tZ p).isSome = true then ⟨p, 0, 0, 0⟩ else ⟨noP, 1, 1, 4⟩
noncomputable def parseZ (s : ByteArray) : PRes := if (lexZ s).err ≠ 0 then ⟨noP, (lexZ s).line, (lexZ s).col, (lexZ s).err⟩ else parseT s (prgZ (lexZ s).toks)
theorem digs_ten_lt : ∀ (n : Nat), n < 10 ^ (digs n).length := by
  intro n
  induction n using Nat.strongRecOn with
  | ind n ih =>
    unfold digs
    split
    · simp; omega
    · rename_i h
      have := ih (n / 10) (by omega)
      rw [List.length_cons, Nat.pow_succ]
      omega
theorem Ex.few_all : ∀ (x : Ex) (b : Nat), x.ok → ∀ c ∈ x.nd b, c.few 5 := by
  intro x
  have none0 : ∀ {c : NodeC}, c.n = [] → c.d = [] → c.few 5 := fun h1 h2 => ⟨by rw [h1]; exact Nat.zero_le _, by rw [h2]; exact Nat.zero_le _⟩
  induction x with
  | ref t => intro b _ c hc; rw [List.mem_singleton.1 hc]; exact none0 rfl rfl
  | num q =>
    intro b hok c hc
    rw [List.mem_singleton.1 hc]
    have h1 := digs_ten_lt q.num.natAbs
    have h2 := digs_ten_lt q.den
    exact ⟨natW_forty (Nat.lt_of_lt_of_le h1 (Nat.pow_le_pow_right (by decide) hok.2.1)), natW_forty (Nat.lt_of_lt_of_le h2 (Nat.pow_le_pow_right (by decide) hok.2.2))⟩
  | neg x ih =>
    intro b hok c hc
    rcases List.mem_append.1 hc with hc | hc
    · exact ih b hok c hc
    · rw [List.mem_singleton.1 hc]; exact none0 rfl rfl
  | pow x e ih =>
    intro b hok c hc
    rcases List.mem_append.1 hc with hc | hc
    · exact ih b hok.1 c hc
    · rw [List.mem_singleton.1 hc]; exact none0 rfl rfl
  | bin k x y ih1 ih2 =>
    intro b hok c hc
    rcases List.mem_append.1 hc with hc | hc
    · rcases List.mem_append.1 hc with hc | hc
      · exact ih1 b hok.2.2.1 c hc
      · exact ih2 _ hok.2.2.2 c hc
    · rw [List.mem_singleton.1 hc]; exact none0 rfl rfl
theorem laid_few : ∀ (l : List (ByteArray × Ex)) (b : Nat), LetsOk l → ∀ c ∈ (laid l b).2, c.few 5
  | [], _, _, c, hc => by cases hc
  | (s, x) :: l, b, h, c, hc => by
    simp only [laid] at hc
    rcases List.mem_append.1 hc with hc | hc
    · exact Ex.few_all x b (h (s, x) (by simp)).2 c hc
    · exact laid_few l _ (fun a ha => h a (by simp [ha])) c hc
theorem Prg.few_all {L : List Tok} {p : ProgC} (h : Prg L (.ok p)) (hr : ToksOk L) : ∀ c ∈ p.all, c.few 5 := by
  obtain ⟨l, hs, _⟩ := h.ex hr
  rw [hs.all]
  exact laid_few l 0 hs.ok
def ParseV (r : PRes) (v : Value) (I' : Hp) : Prop := ∃ vi vl vo va ns, v = .tuple #[.agg #[vi, vl, vo, va], .agg #[.int .i64 r.line, .int .i64 r.col], .int .i64 r.err] ∧ ProgV I' vi vl vo va r.p ns ∧ ∀ o ∈ ns, o.c.few 5
theorem ProgV.nil (I : Hp) : ProgV I N0 N0 N0 N0 noP [] := ⟨Slc.nil _ _, Slc.nil _ _, Slc.nil _ _, Slc.nil _ _, fun o ho => (by cases ho), rfl⟩
theorem scs_one (l : List ByteArray) : ∀ c ∈ scs l, c.length = 1 := by
  intro c hc
  obtain ⟨x, _, rfl⟩ := List.mem_map.1 hc
  rfl
theorem nds_eight (l : List NodeV) : ∀ c ∈ nds l, c.length = 8 := by
  intro c hc
  obtain ⟨x, _, rfl⟩ := List.mem_map.1 hc
  rfl
theorem lts_two (l : List LetC) : ∀ c ∈ l.map LetC.cells, c.length = 2 := by
  intro c hc
  obtain ⟨x, _, rfl⟩ := List.mem_map.1 hc
  rfl
theorem parse_any (s : ByteArray) {I : Hp} (hT : Tabs I) (hM : Mx I) (hE : Errs I) (hs : s.size ≤ 60000) : Fun Tryz.prog 15 [.string s] I [] (fun v I' _ => ParseV (parseZ s) v I') := by
  have hfine := lexZ_fine hs
  intro w hw
  refine enter1 _ Tryz.func15 rfl Tryz.ntmps15 rfl ?_ hw;refine sR ?_;refine o_alloc trivial rfl Tryz.zeroValue27 rfl (fun b2 => ?_);refine o_alloc trivial rfl Tryz.zeroValue29 rfl (fun b3 => ?_);refine oV ?_;refine nS ?_;refine oV ?_;refine oI Tryz.call39 rfl (lex_any s hT hM hs) ?_;rintro _ I1 hx1 ⟨u1, rfl, hs1⟩;iterate 4 refine oV ?_
  refine o_alloc trivial rfl Tryz.zeroValue29 rfl (fun b6 => ?_);refine oV ?_;refine oS Tryz.sizeOf29 ?_;refine oV ?_;refine nU ?_;iterate 2 refine oV ?_
  refine nT ?_;refine cC rfl (fun h1 => ?_) (fun h1 => ?_)
  ·
   have f1 := h1;try simp only [bl] at f1
   have hz : parseZ s = ⟨noP, (lexZ s).line, (lexZ s).col, (lexZ s).err⟩ := by unfold parseZ; rw [if_pos (by simpa using h1)]
   refine cS ?_;refine h_beginB (m := 6) [.box b6 _] (by repeat constructor) (by kernel_rfl) rfl ?_;refine qT (i := 0) (qB 6 1) (Hp.Le.refl _) rfl rfl (o_buildS trivial rfl (bld27) rfl .nil qF) ?_;refine qT (i := 1) (qB 6 3) (Hp.Le.refl _) rfl rfl (oA Tryz.isAgg29 Tryz.sizeOf29 qF) ?_;refine qT (i := 2) (qB 6 7) (Hp.Le.refl _) rfl rfl (oV qF) ?_;refine qO (i := 3) (qB 6 15) rfl ?_;refine oS Tryz.sizeOf27 ?_;refine qM (Hp.Le.refl _) ?_;refine qO (i := 4) (qB 6 31) rfl ?_;refine oS Tryz.sizeOf29 ?_;refine qM (Hp.Le.refl _) ?_;refine qT (i := 5) (qB 6 63) (Hp.Le.refl _) rfl rfl (oV qF) ?_;refine h_end (by kernel_rfl) ?_;refine tC (cT (tR ?_));refine retR rfl (.agg Tryz.isAgg27 Tryz.sizeOf27 rfl (by repeat constructor) rfl (.agg Tryz.isAgg29 Tryz.sizeOf29 rfl (by repeat constructor) rfl (.tmp rfl .nil))) ?_;refine leaf hx1 (List.nil_sublist _) ?_
   rw [hz]
   exact ⟨N0, N0, N0, N0, [], rfl, ProgV.nil _, fun o ho => by cases ho⟩
  have f1 := h1;try simp only [bl] at f1
  have hz : parseZ s = parseT s (prgZ (lexZ s).toks) := by unfold parseZ; rw [if_neg (by simpa using h1)]
  have hP := prgZ_is (lexZ s).toks
  generalize prgZ (lexZ s).toks = o at hz hP
  have htf := hfine.few
  have hsm : TkSmall (lexZ s).toks := fun t ht => Nat.le_trans (hfine.small t ht) hs
  refine kS ?_;refine oV ?_;refine o_buildS trivial rfl (bld66) rfl (.cons rfl (by first | exact (Ws.cells1 (by assumption)).1 | exact (Slc.cells1 (by assumption)).1 | rfl) (by rfl) (by repeat constructor) .nil) ?_;refine o_box trivial rfl rfl rfl (fun b24 => ?_);refine oV ?_;refine nU ?_;refine oV ?_;refine oC trivial rfl Tryz.call40 rfl (rdProgram_any b24 u1 (lexZ s).toks (hM.le hx1.le) (hE.le hx1.le) hs1 (by omega) hsm hfine.ok hP) (by repeat constructor) ?_;rintro _ I2 _ hx2 ⟨ok, i, us, vi, vl, vo, va, wi, wl, wo, wa, ins, ls, outs, ns, rfl, rfl, hi, hno, hyes⟩;refine oV ?_;refine nT ?_;refine cC rfl (fun h2 => ?_) (fun h2 => ?_)
  ·
   have f2 := h2;try simp only [bl] at f2
   have hk : ok = false := by simpa using f2
   have hbad := hno hk
   refine cS (sR ?_);refine oV ?_;refine oC trivial rfl Tryz.call41 rfl (rdNext_any b24 i u1 us vi vl vo va (lexZ s).toks (hs1.le hx2.le)) (by repeat constructor) ?_;rintro _ _ _ hx3 ⟨rfl, rfl, rfl⟩;iterate 3 refine oV ?_
   refine o_alloc trivial rfl Tryz.zeroValue68 rfl (fun b9 => ?_);refine oS Tryz.sizeOf68 ?_;refine oV ?_;refine nS ?_;refine oV ?_;refine nT ?_;refine cC rfl (fun h3 => ?_) (fun h3 => ?_)
   ·
    have f3 := h3;try simp only [bl] at f3
    refine cS ?_;refine h_beginB (m := 6) [.box b9 _] (by repeat constructor) (by kernel_rfl) rfl ?_;refine qT (i := 0) (qB 6 1) (Hp.Le.refl _) rfl rfl (o_buildS trivial rfl (bld27) rfl .nil qF) ?_;refine qT (i := 1) (qB 6 3) (Hp.Le.refl _) rfl rfl (oF 2 Tryz.underlying68 Tryz.sizeOf29 qF) ?_;refine qT (i := 2) (qB 6 7) (Hp.Le.refl _) rfl rfl (oA Tryz.isAgg29 Tryz.sizeOf29 qF) ?_;refine qO (i := 3) (qB 6 15) rfl ?_;refine oS Tryz.sizeOf27 ?_;refine qM (Hp.Le.refl _) ?_;refine qO (i := 4) (qB 6 31) rfl ?_;refine oS Tryz.sizeOf29 ?_;refine qM (Hp.Le.refl _) ?_;refine qT (i := 5) (qB 6 63) (Hp.Le.refl _) rfl rfl (oV qF) ?_;refine h_end (by kernel_rfl) ?_;refine tC (cT (tR (tR ?_)));refine retR rfl (.agg Tryz.isAgg27 Tryz.sizeOf27 rfl (by repeat constructor) rfl (.agg Tryz.isAgg29 Tryz.sizeOf29 rfl (by repeat constructor) rfl (.tmp rfl .nil))) ?_;refine leaf (hx1.trans hx2 (Nat.le_refl _)) (List.nil_sublist _) ?_
    rw [hz, hbad, drop_cons (by simpa using h3)]
    exact ⟨N0, N0, N0, N0, [], rfl, ProgV.nil _, fun o ho => by cases ho⟩
   have f3 := h3;try simp only [bl] at f3
   refine kS ?_;refine o_buildS trivial rfl (bld27) rfl .nil ?_;iterate 2 refine oV ?_
   refine o_lenS trivial rfl Tryz.underlying9 rfl ?_;refine oQ Tryz.call28 rfl (place_any s (s.size : Nat) (by omega)) ?_;refine oS Tryz.sizeOf27 ?_;refine oS Tryz.sizeOf29 ?_;refine oV ?_;refine nF ?_;refine retR rfl (.agg Tryz.isAgg27 Tryz.sizeOf27 rfl (by repeat constructor) rfl (.agg Tryz.isAgg29 Tryz.sizeOf29 rfl (by repeat constructor) rfl (.tmp rfl .nil))) ?_;refine leaf (hx1.trans hx2 (Nat.le_refl _)) (List.nil_sublist _) ?_
   rw [hz, hbad, List.drop_eq_nil_of_le (by have := f3; omega)]
   exact ⟨N0, N0, N0, N0, [], rfl, ProgV.nil _, fun o ho => by cases ho⟩
  have f2 := h2;try simp only [bl] at f2
  have hk : ok = true := by simpa using f2
  obtain ⟨rfl, rfl, rfl, rfl, hok, rfl, hb1, hb2, hb3, hb4⟩ := hyes hk
  have hfew : ∀ o ∈ ns, o.c.few 5 := fun o ho => Prg.few_all hP hfine.ok o.c (List.mem_map.2 ⟨o, ho, rfl⟩)
  refine cK (tC (cS (cS ?_)));refine c_sealR (u := wi) (xss := scs ins) (by repeat constructor) (scs_len _) (scs_one _) (by unfold maxLen; omega) (fun I3 hx3 hsi => ?_);refine c_sealR (u := wl) (xss := ls.map LetC.cells) (by repeat constructor) (List.length_map _) (lts_two _) (by unfold maxLen; omega) (fun I4 hx4 hsl => ?_);refine c_sealR (u := wo) (xss := scs outs) (by repeat constructor) (scs_len _) (scs_one _) (by unfold maxLen; omega) (fun I5 hx5 hso => ?_);refine c_sealR (u := wa) (xss := nds ns) (by repeat constructor) (nds_len _) (nds_eight _) (by unfold maxLen; omega) (fun I6 hx6 hsa => ?_)
  have hsi := hsi.le (hx4.le.trans (hx5.le.trans hx6.le))
  have hsl := hsl.le (hx5.le.trans hx6.le)
  have hso := hso.le hx6.le
  have hpv : ProgV I6 wi wl wo wa ⟨ins, ls, outs, ns.map NodeV.c⟩ ns := ⟨hsi, hsl, hso, hsa, fun o ho => (hok o ho).le (hx3.le.trans (hx4.le.trans (hx5.le.trans hx6.le))), rfl⟩
  have hx16 : Ext w.heap.size I I6 := hx1.trans (hx2.trans (hx3.trans (hx4.trans (hx5.trans hx6 (Nat.le_refl _)) (Nat.le_refl _)) (Nat.le_refl _)) (Nat.le_refl _)) (Nat.le_refl _)
  refine cR ?_;iterate 2 refine oV ?_
  refine oF 3 Tryz.underlying66 Tryz.sizeOf27 ?_;refine oA Tryz.isAgg27 Tryz.sizeOf27 ?_;refine oQ Tryz.call21 rfl (trRight_any wi wl wo wa _ ns hpv (fun o ho => ⟨by have := (hfew o ho).1; omega, by have := (hfew o ho).2; omega⟩)) ?_;refine oV ?_;refine nT ?_;refine cC rfl (fun h4 => ?_) (fun h4 => ?_)
  ·
   have f4 := h4;try simp only [bl] at f4
   refine sR ?_;refine o_buildS trivial rfl (bld27) rfl .nil ?_;refine o_buildS trivial rfl (bld29) rfl (.cons rfl rfl rfl (by repeat constructor) (.cons rfl rfl rfl (by repeat constructor) .nil)) ?_;refine oS Tryz.sizeOf27 ?_;refine oS Tryz.sizeOf29 ?_;refine oV ?_;refine nF ?_;refine retR rfl (.agg Tryz.isAgg27 Tryz.sizeOf27 rfl (by repeat constructor) rfl (.agg Tryz.isAgg29 Tryz.sizeOf29 rfl (by repeat constructor) rfl (.tmp rfl .nil))) ?_;refine leaf hx16 (List.nil_sublist _) ?_
   rw [hz]
   unfold parseT
   dsimp only
   rw [if_neg (by simpa using h4)]
   exact ⟨N0, N0, N0, N0, [], rfl, ProgV.nil _, fun o ho => by cases ho⟩
  have f4 := h4;try simp only [bl] at f4
  refine kS ?_;iterate 2 refine oV ?_
  refine oF 3 Tryz.underlying66 Tryz.sizeOf27 ?_;refine oA Tryz.isAgg27 Tryz.sizeOf27 ?_;refine o_buildS trivial rfl (bld29) rfl .nil ?_;refine oS Tryz.sizeOf27 ?_;refine oS Tryz.sizeOf29 ?_;refine oV ?_;refine nE ?_;refine retR rfl (.agg Tryz.isAgg27 Tryz.sizeOf27 rfl (by repeat constructor) rfl (.agg Tryz.isAgg29 Tryz.sizeOf29 rfl (by repeat constructor) rfl (.tmp rfl .nil))) ?_;refine leaf hx16 (List.nil_sublist _) ?_
  rw [hz]
  unfold parseT
  dsimp only
  rw [if_pos (by simpa using h4)]
  exact ⟨wi, wl, wo, wa, ns, rfl, hpv, hfew⟩
def isR (bad : Bool) (L : List Tok) (i : Nat) (k : Int) (s : ByteArray) : Bool := !bad && hdT (L.drop i) k s
theorem add_none {L : List Tok} {j : Nat} (h : (isR false L j 2 plusS || isR false L j 2 minusS) = false) : hdK addK (L.drop j) = none := by
  unfold isR at h
  simp only [Bool.not_false, Bool.true_and, Bool.or_eq_false_iff] at h
  cases hr : L.drop j with
  | nil => rfl
  | cons x r =>
    rw [hr] at h
    simp only [hdT] at h
    show addK x = none
    unfold addK
    rw [h.1, h.2]; rfl
def LowN (l : List NodeC) : Prop := ∀ (i : Nat) (c : NodeC), l[i]? = some c → 1 < c.kind → 0 ≤ c.a ∧ c.a < i ∧ (c.kind ≤ 5 → 0 ≤ c.b ∧ c.b < i)
theorem nd_low : ∀ (x : Ex) (b j : Nat) (c : NodeC), x.ok → (x.nd b)[j]? = some c → 1 < c.kind → (b : Int) ≤ c.a ∧ c.a < (b + j : Nat) ∧ (c.kind ≤ 5 → (b : Int) ≤ c.b ∧ c.b < (b + j : Nat)) := by
  intro x
  have last : ∀ {u : List NodeC} {c0 c : NodeC} {j : Nat}, (u ++ [c0])[j]? = some c → ¬ j < u.length → j = u.length ∧ c = c0 := by
    intro u c0 c j h hj
    rw [List.getElem?_append_right (by omega)] at h
    have := (List.getElem?_eq_some_iff.1 h)
    obtain ⟨h1, h2⟩ := this
    simp at h1 h2
    exact ⟨by omega, h2.symm⟩
  induction x with
  | ref t =>
    intro b j c _ h hk
    have : c = refN t := by
      obtain ⟨h1, h2⟩ := List.getElem?_eq_some_iff.1 h
      simp [Ex.nd] at h2; exact h2.symm
    subst this
    exact absurd hk (by simp [refN])
  | num q =>
    intro b j c _ h hk
    have : c = numN q := by
      obtain ⟨h1, h2⟩ := List.getElem?_eq_some_iff.1 h
      simp [Ex.nd] at h2; exact h2.symm
    subst this
    exact absurd hk (by simp [numN])
  | neg x ih =>
    intro b j c hok h hk
    have hp := x.n_pos
    have hl := x.nd_len b
    by_cases hj : j < (x.nd b).length
    · simp only [Ex.nd] at h
      rw [List.getElem?_append_left hj] at h
      exact ih b j c hok h hk
    · obtain ⟨e1, e2⟩ := last h hj
      subst e2
      refine ⟨?_, ?_, ?_⟩
      · show (b : Int) ≤ (b : Int) + x.n - 1; omega
      · show (b : Int) + x.n - 1 < _; omega
      · intro h5; exact absurd h5 (by show ¬ (6 : Int) ≤ 5; decide)
  | pow x e ih =>
    intro b j c hok h hk
    have hp := x.n_pos
    have hl := x.nd_len b
    by_cases hj : j < (x.nd b).length
    · simp only [Ex.nd] at h
      rw [List.getElem?_append_left hj] at h
      exact ih b j c hok.1 h hk
    · obtain ⟨e1, e2⟩ := last h hj
      subst e2
      refine ⟨?_, ?_, ?_⟩
      · show (b : Int) ≤ (b : Int) + x.n - 1; omega
      · show (b : Int) + x.n - 1 < _; omega
      · intro h5; exact absurd h5 (by show ¬ (7 : Int) ≤ 5; decide)
  | bin k x y ih1 ih2 =>
    intro b j c hok h hk
    have hp := x.n_pos
    have hp2 := y.n_pos
    have hl := x.nd_len b
    have hl2 := y.nd_len (b + x.n)
    by_cases hj : j < (x.nd b ++ y.nd (b + x.n)).length
    · simp only [Ex.nd] at h
      rw [List.getElem?_append_left hj] at h
      by_cases hx : j < (x.nd b).length
      · rw [List.getElem?_append_left hx] at h
        exact ih1 b j c hok.2.2.1 h hk
      · rw [List.getElem?_append_right (by omega)] at h
        have := ih2 (b + x.n) _ c hok.2.2.2 h hk
        refine ⟨by omega, by omega, fun h5 => ?_⟩
        have := this.2.2 h5
        omega
    · obtain ⟨e1, e2⟩ := last h hj
      rw [List.length_append] at e1
      subst e2
      refine ⟨?_, ?_, fun _ => ⟨?_, ?_⟩⟩
      · show (b : Int) ≤ (b : Int) + x.n - 1; omega
      · show (b : Int) + x.n - 1 < _; omega
      · show (b : Int) ≤ (b : Int) + x.n + y.n - 1; omega
      · show (b : Int) + x.n + y.n - 1 < _; omega
theorem laid_low : ∀ (l : List (ByteArray × Ex)) (b j : Nat) (c : NodeC), LetsOk l → (laid l b).2[j]? = some c → 1 < c.kind → (b : Int) ≤ c.a ∧ c.a < (b + j : Nat) ∧ (c.kind ≤ 5 → (b : Int) ≤ c.b ∧ c.b < (b + j : Nat))
  | [], _, _, _, _, h, _ => by cases h
  | (s, x) :: l, b, j, c, hok, h, hk => by
    simp only [laid] at h
    have hl := x.nd_len b
    by_cases hx : j < (x.nd b).length
    · rw [List.getElem?_append_left hx] at h
      exact nd_low x b j c (hok (s, x) (by simp)).2 h hk
    · rw [List.getElem?_append_right (by omega)] at h
      have := laid_low l (b + x.n) _ c (fun a ha => hok a (by simp [ha])) h hk
      refine ⟨by omega, by omega, fun h5 => ?_⟩
      have := this.2.2 h5
      omega
theorem shaped_low {p : ProgC} {l : List (ByteArray × Ex)} (h : Shaped p l) : LowN p.all := fun i c hc hk => by
  rw [h.all] at hc
  have := laid_low l 0 i c h.ok hc hk
  refine ⟨by omega, by omega, fun h5 => ?_⟩
  have := this.2.2 h5
  omega
theorem tall_fuel {l : List NodeC} (h : LowN l) : ∀ (i f g : Nat), i < f → i < g → tallZ l f i = tallZ l g i := by
  intro i
  induction i using Nat.strongRecOn with
  | ind i ih =>
    intro f g hf hg
    obtain ⟨f, rfl⟩ : ∃ k, f = k + 1 := ⟨f - 1, by omega⟩
    obtain ⟨g, rfl⟩ : ∃ k, g = k + 1 := ⟨g - 1, by omega⟩
    unfold tallZ
    rw [Int.toNat_natCast]
    cases hc : l[i]? with
    | none => rfl
    | some c =>
      dsimp only
      by_cases h1 : c.kind ≤ 1
      · rw [if_pos h1, if_pos h1]
      · obtain ⟨a1, a2, a3⟩ := h i c hc (by omega)
        have ea : c.a = (c.a.toNat : Int) := by omega
        rw [if_neg h1, if_neg h1]
        by_cases h5 : c.kind ≤ 5
        · obtain ⟨b1, b2⟩ := a3 h5
          have eb : c.b = (c.b.toNat : Int) := by omega
          rw [if_pos h5, if_pos h5, ea, eb, ih c.a.toNat (by omega) f g (by omega) (by omega), ih c.b.toNat (by omega) f g (by omega) (by omega)]
        · rw [if_neg h5, if_neg h5, ea, ih c.a.toNat (by omega) f g (by omega) (by omega)]
theorem tall_le {l : List NodeC} (h : LowN l) : ∀ (i f : Nat), i < f → tallZ l f i ≤ i + 1 := by
  intro i
  induction i using Nat.strongRecOn with
  | ind i ih =>
    intro f hf
    obtain ⟨f, rfl⟩ : ∃ k, f = k + 1 := ⟨f - 1, by omega⟩
    unfold tallZ
    rw [Int.toNat_natCast]
    cases hc : l[i]? with
    | none => exact Nat.zero_le _
    | some c =>
      dsimp only
      by_cases h1 : c.kind ≤ 1
      · rw [if_pos h1]; omega
      · obtain ⟨a1, a2, a3⟩ := h i c hc (by omega)
        have ea : c.a = (c.a.toNat : Int) := by omega
        have := ih c.a.toNat (by omega) f (by omega)
        rw [if_neg h1]
        by_cases h5 : c.kind ≤ 5
        · obtain ⟨b1, b2⟩ := a3 h5
          have eb : c.b = (c.b.toNat : Int) := by omega
          have := ih c.b.toNat (by omega) f (by omega)
          rw [if_pos h5, ea, eb]
          omega
        · rw [if_neg h5, ea]; omega
def heightsZ (l : List NodeC) : List Nat := (List.range l.length).map fun (i : Nat) => tallZ l l.length (i : Int)
theorem heightsZ_len (l : List NodeC) : (heightsZ l).length = l.length := by simp [heightsZ]
theorem tall_laid (all : List NodeC) : ∀ (l : List (ByteArray × Ex)) (b f : Nat), LetsOk l → (∀ j c, (laid l b).2[j]? = some c → all[b + j]? = some c) → b + (laid l b).2.length ≤ f → ∀ j, j < (laid l b).2.length → some (tallZ all f ((b + j : Nat) : Int)) = (hsAll l)[j]?
  | [], b, f, _, _, _, j, hj => by cases hj
  | (s, x) :: l, b, f, hok, h, hf, j, hj => by
    have hx := (hok (s, x) (by simp)).2
    have hl := x.nd_len b
    simp only [laid] at h hf hj
    rw [List.length_append, hl] at hf hj
    have hA : At all b x := At.left h (u := x.nd b) rfl
    have hR := At.right h (u := x.nd b) rfl
    rw [hl] at hR
    have e : hsAll ((s, x) :: l) = x.hs ++ hsAll l := by simp [hsAll]
    rw [e]
    by_cases hjx : j < x.n
    · rw [List.getElem?_append_left (by rw [x.hs_len]; exact hjx)]
      exact tall_all x hx hA (by omega) j hjx
    · rw [List.getElem?_append_right (by rw [x.hs_len]; omega), x.hs_len]
      have := tall_laid all l (b + x.n) f (fun a ha => hok a (by simp [ha])) hR (by omega) (j - x.n) (by omega)
      rw [← this, show b + x.n + (j - x.n) = b + j by omega]
theorem heights_laid {p : ProgC} {l : List (ByteArray × Ex)} (h : Shaped p l) : heightsZ p.all = hsAll l := by
  have hlen : p.all.length = (hsAll l).length := by rw [h.all, laid_len]
  apply List.ext_getElem?
  intro j
  by_cases hj : j < p.all.length
  · have := tall_laid p.all l 0 p.all.length h.ok (fun j c hc => by rw [h.all, Nat.zero_add]; exact hc) (by rw [h.all]; omega) j (by rw [← h.all]; exact hj)
    rw [Nat.zero_add] at this
    rw [← this]
    simp [heightsZ, hj]
  · rw [List.getElem?_eq_none (by rw [heightsZ_len]; omega), List.getElem?_eq_none (by omega)]
def longZ (p : ProgC) : Bool := decide (400 < p.all.length) || decide (40 < p.ins.length) || decide (40 < p.lets.length) || decide (40 < p.outs.length) || (heightsZ p.all).any fun h => decide (60 < h)
theorem long_right {p : ProgC} {l : List (ByteArray × Ex)} (h : Shaped p l) (hi : NamesOk p.ins ∧ 1 ≤ p.ins.length) (ho : NamesOk p.outs ∧ 1 ≤ p.outs.length) : (tZ p).isSome = !longZ p := by
  have hlets : p.lets.length = l.length := by rw [h.lets, laid_lets]
  rw [Bool.eq_iff_iff, tZ_iff, Bool.not_eq_true']
  unfold longZ
  simp only [Bool.or_eq_false_iff, decide_eq_false_iff_not, List.any_eq_false, decide_eq_true_eq]
  constructor
  · rintro ⟨l', hr⟩
    have hl' : p.lets.length = l'.length := by rw [hr.lets, laid_lets]
    refine ⟨⟨⟨⟨by have := hr.few.2; omega, by have := hr.ins.2.2; omega⟩, by have := hr.few.1; omega⟩, by have := hr.outs.2.2; omega⟩, fun k hk => ?_⟩
    rw [heights_laid hr.toShaped] at hk
    have := hsAll_mem.2 hr.low k hk
    omega
  · rintro ⟨⟨⟨⟨c1, c2⟩, c3⟩, c4⟩, c5⟩
    refine ⟨l, ⟨h, ⟨hi.1, hi.2, by omega⟩, ⟨ho.1, ho.2, by omega⟩, ⟨by omega, by omega⟩, ?_⟩⟩;refine hsAll_mem.1 fun k hk => ?_
    rw [← heights_laid h] at hk
    have := c5 k hk
    omega
theorem rrTall_any (va : Value) (ns : List NodeV) {I : Hp} (hsa : Slc I 8 va (nds ns)) (hok : ∀ o ∈ ns, o.ok I) (hlow : LowN (ns.map NodeV.c)) (hn : ns.length ≤ 100000) : ∀ i : Nat, i < ns.length → Fun Tryz.prog 52 [va, .int .i64 (i : Nat)] I [] (fun v _ _ => v = .int .i64 ((tallZ (ns.map NodeV.c) (ns.length) (i : Int) : Nat) : Int)) := by
  intro i
  have hln := nds_len ns
  induction i using Nat.strongRecOn with
  | ind i ih =>
    intro hi
    obtain ⟨o, ho⟩ : ∃ o, ns[i]? = some o := ⟨ns[i]'hi, List.getElem?_eq_getElem hi⟩
    have hoc : (ns.map NodeV.c)[i]? = some o.c := by rw [List.getElem?_map, ho]; rfl
    have hom := List.mem_of_getElem? ho
    have hw1 : Ws I o.vn o.c.n := (hok o hom).1
    have hw2 : Ws I o.vd o.c.d := (hok o hom).2
    have hlo := hlow i o.c hoc
    obtain ⟨f, hf⟩ : ∃ f, ns.length = f + 1 := ⟨ns.length - 1, by omega⟩
    have htz : tallZ (ns.map NodeV.c) ns.length (i : Int) = if o.c.kind ≤ 1 then 1 else if o.c.kind ≤ 5 then 1 + max (tallZ (ns.map NodeV.c) f o.c.a) (tallZ (ns.map NodeV.c) f o.c.b) else 1 + tallZ (ns.map NodeV.c) f o.c.a := by
      rw [hf]
      conv => lhs; unfold tallZ
      rw [Int.toNat_natCast, hoc]
    have hta : 1 < o.c.kind → tallZ (ns.map NodeV.c) f o.c.a = tallZ (ns.map NodeV.c) ns.length o.c.a := fun hk => by
      obtain ⟨a1, a2, _⟩ := hlo hk
      have ea : o.c.a = (o.c.a.toNat : Int) := by omega
      rw [ea]
      exact tall_fuel hlow _ _ _ (by omega) (by omega)
    have htb : 1 < o.c.kind → o.c.kind ≤ 5 → tallZ (ns.map NodeV.c) f o.c.b = tallZ (ns.map NodeV.c) ns.length o.c.b := fun hk h5 => by
      obtain ⟨a1, a2, a3⟩ := hlo hk
      obtain ⟨b1, b2⟩ := a3 h5
      have eb : o.c.b = (o.c.b.toNat : Int) := by omega
      rw [eb]
      exact tall_fuel hlow _ _ _ (by omega) (by omega)
    have hca : 1 < o.c.kind → (Fun Tryz.prog 52 [va, .int .i64 o.c.a] I [] (fun v _ _ => v = .int .i64 ((tallZ (ns.map NodeV.c) (ns.length) o.c.a : Nat) : Int))) ∧ tallZ (ns.map NodeV.c) (ns.length) o.c.a ≤ 100000 := fun hk => by
      obtain ⟨a1, a2, _⟩ := hlo hk
      have ea : o.c.a = (o.c.a.toNat : Int) := by omega
      rw [ea]
      exact ⟨ih _ (by omega) (by omega), by have := tall_le hlow o.c.a.toNat ns.length (by omega); omega⟩
    have hcb : 1 < o.c.kind → o.c.kind ≤ 5 → (Fun Tryz.prog 52 [va, .int .i64 o.c.b] I [] (fun v _ _ => v = .int .i64 ((tallZ (ns.map NodeV.c) (ns.length) o.c.b : Nat) : Int))) ∧ tallZ (ns.map NodeV.c) (ns.length) o.c.b ≤ 100000 := fun hk h5 => by
      obtain ⟨a1, a2, a3⟩ := hlo hk
      obtain ⟨b1, b2⟩ := a3 h5
      have eb : o.c.b = (o.c.b.toNat : Int) := by omega
      rw [eb]
      exact ⟨ih _ (by omega) (by omega), by have := tall_le hlow o.c.b.toNat ns.length (by omega); omega⟩
    intro w hw
    refine enter2 _ Tryz.func52 rfl Tryz.ntmps52 rfl ?_ hw;refine sR ?_;refine oV ?_;refine nS ?_;iterate 2 refine oV ?_
    refine o_elem trivial rfl Tryz.underlying25 Tryz.sizeOf44 rfl (hsa) rfl (by omega) ?_;refine o_loadAI trivial rfl Tryz.isAgg44 Tryz.sizeOf44 rfl rfl (nds_at hsa ho) ?_;refine o_alloc trivial rfl Tryz.zeroValue44 rfl (fun b5 => ?_);refine oS Tryz.sizeOf44 ?_;refine oN (tC (cS (cB (sR ?_))));refine oF 0 Tryz.underlying44 Tryz.sizeOf3 ?_;refine oL Tryz.isAgg3 ?_;iterate 2 refine oV ?_
    refine nT ?_;refine cC rfl (fun h1 => ?_) (fun h1 => ?_)
    ·
     have f1 := h1;try simp only [bl] at f1
     refine sR ?_;refine oV ?_;refine oN (tC (cT (blk_r (tR ?_))));refine ret1 rfl rfl ?_;refine leaf0 (congrArg (Value.int .i64) ?_); rw [htz, if_pos (by omega)]; rfl
    have f1 := h1;try simp only [bl] at f1
    obtain ⟨ca, cal⟩ := hca (by omega)
    refine sR ?_;refine oF 0 Tryz.underlying44 Tryz.sizeOf3 ?_;refine oL Tryz.isAgg3 ?_;iterate 2 refine oV ?_
    refine nT ?_;refine cC rfl (fun h2 => ?_) (fun h2 => ?_)
    ·
     have f2 := h2;try simp only [bl] at f2
     obtain ⟨cb, cbl⟩ := hcb (by omega) (by omega)
     refine cS ?_;refine c_quiet (by kernel_rfl) (by kernel_rfl) (fun _ h => h.drawn) ?_;refine oV ?_;refine oF 1 Tryz.underlying44 Tryz.sizeOf3 ?_;refine oL Tryz.isAgg3 ?_;refine oQ Tryz.call52 rfl ca ?_;refine oV ?_;refine oF 2 Tryz.underlying44 Tryz.sizeOf3 ?_;refine oL Tryz.isAgg3 ?_;refine oQ Tryz.call52 rfl cb ?_;refine o_max2 trivial rfl rfl rfl ?_
     first | (refine o_add trivial rfl rfl rfl ?_ ?_; (omega)) | refine oV ?_
     refine oV ?_;refine oN (tC (cT (blk_r (tR ?_))));refine ret1 rfl rfl ?_;refine leaf0 (congrArg (Value.int .i64) ?_); rw [htz, if_neg (by omega), if_pos (by omega), hta (by omega), htb (by omega) (by omega)]; omega
    have f2 := h2;try simp only [bl] at f2
    refine cK (blk_n (tC (sR ?_)));refine oV ?_;refine oF 1 Tryz.underlying44 Tryz.sizeOf3 ?_;refine oL Tryz.isAgg3 ?_;refine oQ Tryz.call52 rfl ca ?_
    first | (refine o_add trivial rfl rfl rfl ?_ ?_; (omega)) | refine oV ?_
    refine oV ?_;refine nE ?_;refine ret1 rfl rfl ?_;refine leaf0 (congrArg (Value.int .i64) ?_); rw [htz, if_neg (by omega), if_neg (by omega), hta (by omega)]; omega
theorem rrHeights_any (vi vl vo va : Value) (p : ProgC) (ns : List NodeV) {I : Hp} (hp : ProgV I vi vl vo va p ns) (hlow : LowN p.all) (hn : ns.length ≤ 100000) :
    Fun Tryz.prog 20 [.agg #[vi, vl, vo, va]] I [] (fun v I' _ => Slc I' 1 v (nss (heightsZ p.all))) := by
  have hsi := hp.si
  have hsl := hp.sl
  have hso := hp.so
  have hsa := hp.sa
  have hla := nds_len ns
  have hal : p.all.length = ns.length := by rw [← hp.eq, List.length_map]
  rw [← hp.eq] at hlow
  have hhz := heightsZ_len p.all
  have hget : ∀ i, i < ns.length → (heightsZ p.all)[i]? = some (tallZ (ns.map NodeV.c) ns.length (i : Int)) := fun i hi => by
    unfold heightsZ
    rw [List.getElem?_map, List.getElem?_range (by omega), hp.eq, hal]; rfl
  intro w hw
  refine enter1 _ Tryz.func20 rfl Tryz.ntmps20 rfl ?_ hw;refine sR ?_;refine o_box trivial rfl rfl rfl (fun b1 => ?_);refine oV ?_;refine nS ?_;refine oV ?_;refine nU ?_;refine oV ?_;refine oN (tC (cB ?_));refine c_loop (ι := Nat × Value) [1] (.cons rfl .nil) (fun x => ns.length - x.1) (fun x E0 => (3, x.2) :: (4, .int .i64 (x.1 : Int)) :: E0) (fun x => St w [] I [.row x.2 3 1 x.1 (nvs ((heightsZ p.all).take x.1)), .box b1 (.cells #[vi, vl, vo, va] 27 (0, 0))]) (fun x => x.1 ≤ ns.length) ((0, .slice none 0 0)) (sC rfl (sC rfl (sC rfl sN))) (fun _ h => (h.nilRow _ _).sort (by repeat constructor)) (Nat.zero_le _) ?_;rintro ⟨i, uo⟩ hi
  try dsimp only
  simp only at hi
  refine cS (sR ?_);refine oV ?_;refine oF 3 Tryz.underlying27 Tryz.sizeOf25 ?_;refine oL Tryz.isAgg25 ?_;refine o_lenSlc trivial rfl Tryz.underlying25 rfl (hsa) ?_;refine oV ?_;refine nT ?_;refine cC rfl (fun h1 => ?_) (fun h1 => ?_)
  ·
   have f1 := h1;try simp only [bl] at f1
   have hg := hget i (by omega)
   refine cK (tC (cS (cB (cR ?_))));refine oV ?_;refine oF 3 Tryz.underlying27 Tryz.sizeOf25 ?_;refine oL Tryz.isAgg25 ?_;refine oV ?_;refine oQ Tryz.call52 rfl (rrTall_any va ns hsa hp.ok hlow hn i (by omega)) ?_;refine oB Tryz.underlying37 Tryz.sizeOf3 Tryz.zeroValue3 fun b17 => ?_;refine oD Tryz.underlying37 elem3 fun v18 => ?_;refine oV ?_;refine oN (blk_n (tC (cR ?_)));refine oV ?_
   first | (refine o_add trivial rfl rfl rfl ?_ ?_; (omega)) | refine oV ?_
   refine oV ?_;refine oN ?_;exact again (i + 1, v18) (sC rfl (sC rfl (sC rfl sN))) (fun _ h => by rw [List.take_add_one, hg, show nvs ((heightsZ p.all).take i ++ (some (tallZ (ns.map NodeV.c) ns.length (i : Int))).toList) = nvs ((heightsZ p.all).take i) ++ [.int .i64 ((tallZ (ns.map NodeV.c) ns.length (i : Int) : Nat) : Int)] by simp [nvs]]; exact h.sort (by repeat constructor)) (by show ns.length - (i + 1) < ns.length - i; omega) (by show i + 1 ≤ _; omega)
  have f1 := h1;try simp only [bl] at f1
  refine c_exit (then_x (then_x (blk_eq rfl (tC (sR ?_)))));iterate 2 refine oV ?_
  refine nE ?_;refine ret1 rfl rfl ?_
  have hin : i = ns.length := by omega
  subst hin
  exact fun w' hw' => leafRow (e := 3) (size := 1) (nn := ns.length) (u := uo) (xss := nss (heightsZ p.all)) (by rw [nss_len, hhz, hal]) (nss_one _) (by unfold maxLen; omega) (fun I' hl hs' => hs') w' (by rw [nss_flat]; rw [List.take_of_length_le (by omega)] at hw'; exact hw')
theorem rrLong_any (vi vl vo va : Value) (p : ProgC) (ns : List NodeV) {I : Hp} (hp : ProgV I vi vl vo va p ns) (hlow : LowN p.all) (hn : ns.length ≤ 100000) :
    Fun Tryz.prog 45 [.agg #[vi, vl, vo, va]] I [] (fun v _ _ => v = .bool (longZ p)) := by
  have hsi := hp.si
  have hsl := hp.sl
  have hso := hp.so
  have hsa := hp.sa
  have hli := scs_len p.ins
  have hlo := scs_len p.outs
  have hll : (p.lets.map LetC.cells).length = p.lets.length := List.length_map _
  have hla := nds_len ns
  have hal : p.all.length = ns.length := by rw [← hp.eq, List.length_map]
  have hhz := heightsZ_len p.all
  have hnl := nss_len (heightsZ p.all)
  intro w hw
  refine enter1 _ Tryz.func45 rfl Tryz.ntmps45 rfl ?_ hw;refine sR ?_;refine o_box trivial rfl rfl rfl (fun b1 => ?_);refine oV ?_;refine nU ?_;refine oF 3 Tryz.underlying27 Tryz.sizeOf25 ?_;refine oL Tryz.isAgg25 ?_;refine o_lenSlc trivial rfl Tryz.underlying25 rfl (hsa) ?_;refine oV ?_;refine' o_or trivial trivial rfl rfl rfl rfl rfl rfl rfl rfl (fun hb9 => ?_) ?_;rotate_left
  ·
   have fb9 := hb9
   try simp only [bl] at fb9
   refine gF hb9 0 Tryz.underlying27 Tryz.sizeOf23 ?_;refine gL hb9 Tryz.isAgg23 ?_;refine o_lenSlc (wS rfl rfl hb9) rfl Tryz.underlying23 rfl (hsi) ?_;refine gV hb9 ?_;refine oN ?_;exact joins rfl
  refine' o_or trivial trivial rfl rfl rfl rfl rfl rfl rfl rfl (fun hb15 => ?_) ?_;rotate_left
  ·
   have fb15 := hb15
   try simp only [bl] at fb15
   refine gF hb15 1 Tryz.underlying27 Tryz.sizeOf24 ?_;refine gL hb15 Tryz.isAgg24 ?_;refine o_lenSlc (wS rfl rfl hb15) rfl Tryz.underlying24 rfl (hsl) ?_;refine gV hb15 ?_;refine oN ?_;exact joins rfl
  refine' o_or trivial trivial rfl rfl rfl rfl rfl rfl rfl rfl (fun hb21 => ?_) ?_;rotate_left
  ·
   have fb21 := hb21
   try simp only [bl] at fb21
   refine gF hb21 2 Tryz.underlying27 Tryz.sizeOf23 ?_;refine gL hb21 Tryz.isAgg23 ?_;refine o_lenSlc (wS rfl rfl hb21) rfl Tryz.underlying23 rfl (hso) ?_;refine gV hb21 ?_;refine oN ?_;exact joins rfl
  refine nT ?_;refine cC rfl (fun h1 => ?_) (fun h1 => ?_)
  ·
   have f1 := h1;try simp only [bl] at f1
   refine sR ?_;refine oV ?_;refine nF ?_;refine ret1 rfl rfl ?_;refine leaf0 (congrArg Value.bool ?_)
   unfold longZ
   simp at h1
   simp
   omega
  have f1 := h1;try simp only [bl] at f1
  have hno : ¬ 400 < p.all.length ∧ ¬ 40 < p.ins.length ∧ ¬ 40 < p.lets.length ∧ ¬ 40 < p.outs.length := by
    simp at h1
    omega
  refine kS ?_;refine oA Tryz.isAgg27 Tryz.sizeOf27 ?_;refine oI Tryz.call20 rfl (rrHeights_any vi vl vo va p ns hp hlow hn) ?_;rintro v28 I2 hx2 hs2;refine oV ?_;refine nU ?_;refine oV ?_;refine oN (tC (cB ?_));refine c_loop (ι := Nat) [3] (.cons rfl .nil) (fun x => (heightsZ p.all).length - x) (fun x E0 => (4, .int .i64 (x : Int)) :: E0) (fun x => St w [] I2 [.box b1 (.cells #[vi, vl, vo, va] 27 (0, 0))]) (fun x => x ≤ (heightsZ p.all).length ∧ (heightsZ p.all).any (fun h => decide (60 < h)) = ((heightsZ p.all).drop x).any (fun h => decide (60 < h))) (0) (sC rfl (sC rfl sN)) (fun _ h => h) (⟨Nat.zero_le _, rfl⟩) ?_;rintro i ⟨hi, hF⟩
  try dsimp only
  refine cS (sR ?_);iterate 2 refine oV ?_
  refine o_lenSlc trivial rfl Tryz.underlying37 rfl (hs2) ?_;refine oV ?_;refine nT ?_;refine cC rfl (fun h2 => ?_) (fun h2 => ?_)
  ·
   have f2 := h2;try simp only [bl] at f2
   obtain ⟨k, hk⟩ : ∃ k, (heightsZ p.all)[i]? = some k := ⟨(heightsZ p.all)[i]'(by omega), List.getElem?_eq_getElem (by omega)⟩
   have hst : ((heightsZ p.all).drop i).any (fun h => decide (60 < h)) = (decide (60 < k) || ((heightsZ p.all).drop (i + 1)).any (fun h => decide (60 < h))) := by
     rw [List.drop_eq_getElem_cons (List.getElem?_eq_some_iff.1 hk).1, List.any_cons, (List.getElem?_eq_some_iff.1 hk).2]
   refine cK (tC (cS (cB (sR ?_))));iterate 2 refine oV ?_
   refine o_elem trivial rfl Tryz.underlying37 Tryz.sizeOf3 rfl (hs2) rfl (by omega) ?_;refine o_load1I trivial rfl Tryz.isAgg3 rfl (nss_at hs2 hk) ?_;refine oV ?_;refine nT ?_;refine cC rfl (fun h3 => ?_) (fun h3 => ?_)
   ·
    have f3 := h3;try simp only [bl] at f3
    refine sR ?_;refine oV ?_;refine oN (tC (cT (blk_r (tR (tR (blk_r (tR ?_)))))));refine ret1 rfl rfl ?_;refine leaf hx2 (List.nil_sublist _) (congrArg Value.bool ?_)
    unfold longZ
    rw [hF, hst, decide_eq_true (show 60 < k by omega)]
    simp
   have f3 := h3;try simp only [bl] at f3
   refine cK (blk_n (tC (cR ?_)));refine oV ?_
   first | (refine o_add trivial rfl rfl rfl ?_ ?_; (omega)) | refine oV ?_
   refine oV ?_;refine oN ?_;exact again (i + 1) (sC rfl (sC rfl sN)) (fun _ h => h) (by show (heightsZ p.all).length - (i + 1) < (heightsZ p.all).length - i; omega) ⟨by show i + 1 ≤ _; omega, by rw [hF, hst, decide_eq_false (show ¬ 60 < k by omega)]; rfl⟩
  have f2 := h2;try simp only [bl] at f2
  refine c_exit (then_x (then_x (blk_eq rfl (tC (sR ?_)))));refine oV ?_;refine nE ?_;refine ret1 rfl rfl ?_;refine leaf hx2 (List.nil_sublist _) (congrArg Value.bool ?_)
  rw [List.drop_eq_nil_of_le (by omega)] at hF
  unfold longZ
  rw [hF]
  simp
  omega
end Go.Proofs.YtmgpifkekofacaaGreatDoor
