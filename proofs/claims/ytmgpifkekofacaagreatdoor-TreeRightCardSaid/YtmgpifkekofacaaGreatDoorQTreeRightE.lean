/-
  TreeRight, part 5: the texts Tree11, Ref8b, RefW, Law11b as one.
-/
import Derived.Test.YtmgpifkekofacaaGreatDoorQTreeRightD
set_option linter.unusedVariables false
set_option linter.unusedSimpArgs false
set_option linter.unnecessarySimpa false
set_option maxHeartbeats 1000000
namespace Go.Proofs.YtmgpifkekofacaaGreatDoor
open Go Go.Tw
theorem placeGo_one (s : ByteArray) (a : Int) : ∀ (f i : Nat) (l c : Int), 1 ≤ l → 1 ≤ c → 1 ≤ (placeGo s a f i l c).1 ∧ 1 ≤ (placeGo s a f i l c).2
  | 0, i, l, c, hl, hc => ⟨hl, hc⟩
  | f + 1, i, l, c, hl, hc => by
    unfold placeGo
    split
    · exact ⟨hl, hc⟩
    · split
      · exact ⟨hl, hc⟩
      · split
        · exact placeGo_one s a f _ _ _ (by omega) (by omega)
        · exact placeGo_one s a f _ _ _ (by omega) (by omega)
theorem place_one (s : ByteArray) (a : Int) : 1 ≤ (placeZ s a).1 ∧ 1 ≤ (placeZ s a).2 := placeGo_one s a _ _ _ _ (by decide) (by decide)
def LexOne (r : LexR) : Prop := (r.err ≠ 0 → 1 ≤ r.line ∧ 1 ≤ r.col) ∧ ∀ t ∈ r.toks, 1 ≤ t.line ∧ 1 ≤ t.col
theorem lexGo_one (s : ByteArray) : ∀ (f i : Nat) (out : List Tok), (∀ t ∈ out, 1 ≤ t.line ∧ 1 ≤ t.col) → LexOne (lexGo s f i out)
  | 0, i, out, h => ⟨fun h => absurd rfl h, h⟩
  | f + 1, i, out, h => by
    unfold lexGo
    split
    · exact ⟨fun h => absurd rfl h, h⟩
    · split
      · exact lexGo_one s f _ _ h
      · split
        · exact ⟨fun _ => place_one s i, fun t ht => by cases ht⟩
        · split
          · exact ⟨fun _ => place_one s i, fun t ht => by cases ht⟩
          · refine lexGo_one s f _ _ fun t ht => ?_
            rcases List.mem_append.1 ht with ht | ht
            · exact h t ht
            · rw [List.mem_singleton.1 ht]; exact place_one s i
theorem lexZ_one (s : ByteArray) : LexOne (lexZ s) := by
  unfold lexZ
  split
  · exact ⟨fun _ => ⟨by decide, by decide⟩, fun t ht => by cases ht⟩
  · exact lexGo_one s _ _ _ fun t ht => by cases ht
def _root_.Go.Tw.NOut.rest : NOut → List Tok
  | .bad r => r
  | .ok _ r => r
theorem namesZ_suf : ∀ (r : List Tok), (namesZ r).rest <:+ r
  | [] => List.suffix_refl _
  | [x] => by
    unfold namesZ
    split
    · exact List.nil_suffix
    · exact List.suffix_refl _
  | x :: y :: r => by
    have ih := namesZ_suf r
    unfold namesZ
    split
    · split
      · cases h : namesZ r with
        | bad r1 => rw [h] at ih; exact List.IsSuffix.trans ih ⟨[_, _], rfl⟩
        | ok l r1 => rw [h] at ih; exact List.IsSuffix.trans ih ⟨[_, _], rfl⟩
      · split
        · exact ⟨[_, _], rfl⟩
        · exact List.suffix_cons _ _
    · exact List.suffix_refl _
def _root_.Go.Tw.LO.rest : LO → List Tok
  | .bad r => r
  | .ok _ _ r => r
theorem _root_.Go.Tw.Lt1.suf {all : List NodeC} {r : List Tok} {o : LO} (h : Lt1 all r o) : o.rest <:+ r := by
  cases h with
  | noname _ => exact List.suffix_refl _
  | noeq _ _ => exact List.suffix_cons _ _
  | sumbad _ _ h => exact List.IsSuffix.trans h.suf ⟨[_, _], rfl⟩
  | nosemi _ _ h _ => exact List.IsSuffix.trans h.suf ⟨[_, _], rfl⟩
  | ok _ _ h _ => exact List.IsSuffix.trans ((List.suffix_cons _ _).trans h.suf) ⟨[_, _], rfl⟩
def _root_.Go.Tw.LSO.rest : LSO → List Tok
  | .bad r => r
  | .ok _ _ r => r
theorem _root_.Go.Tw.Lts.suf {ls : List LetC} {all : List NodeC} {r : List Tok} {o : LSO} (h : Lts ls all r o) : o.rest <:+ r := by
  induction h with
  | fin _ => exact List.suffix_refl _
  | bad _ h => exact List.IsSuffix.trans h.suf (List.suffix_cons _ _)
  | more _ h _ ih => exact ih.trans (List.IsSuffix.trans h.suf (List.suffix_cons _ _))
theorem _root_.Go.Tw.Prg.suf {r r1 : List Tok} (h : Prg r (.bad r1)) : r1 <:+ r := by
  have nm : ∀ {r r1 : List Tok} {l : List ByteArray}, namesZ r = .ok l r1 → r1 <:+ r := fun {r r1 l} h => by have := namesZ_suf r; rw [h] at this; exact this
  have nb : ∀ {r r1 : List Tok}, namesZ r = .bad r1 → r1 <:+ r := fun {r r1} h => by have := namesZ_suf r; rw [h] at this; exact this
  cases h with
  | noin _ => exact List.suffix_refl _
  | insbad _ h => exact (nb h).trans (List.suffix_cons _ _)
  | letsbad _ h1 h2 => exact h2.suf.trans ((nm h1).trans (List.suffix_cons _ _))
  | noout _ h1 h2 _ => exact h2.suf.trans ((nm h1).trans (List.suffix_cons _ _))
  | outsbad _ h1 h2 _ h3 => exact (nb h3).trans ((List.suffix_cons _ _).trans (h2.suf.trans ((nm h1).trans (List.suffix_cons _ _))))
  | tail _ h1 h2 _ h3 => exact (nm h3).trans ((List.suffix_cons _ _).trans (h2.suf.trans ((nm h1).trans (List.suffix_cons _ _))))
theorem parseZ_cases (s : ByteArray) : ((parseZ s).err ≠ 0 ∧ (parseZ s).p = noP ∧ 1 ≤ (parseZ s).line ∧ 1 ≤ (parseZ s).col) ∨ ((parseZ s).err = 0 ∧ (parseZ s).line = 0 ∧ (parseZ s).col = 0 ∧ ∃ l, RightP (parseZ s).p l) := by
  have hl := lexZ_one s
  unfold parseZ
  split
  · rename_i h
    exact .inl ⟨h, rfl, hl.1 h⟩
  · have hP := prgZ_is (lexZ s).toks
    generalize prgZ (lexZ s).toks = o at hP
    cases o with
    | ok p =>
      unfold parseT
      dsimp only
      split
      · rename_i h; exact .inr ⟨rfl, rfl, rfl, tZ_iff.1 h⟩
      · exact .inl ⟨by decide, rfl, by decide, by decide⟩
    | bad r =>
      cases r with
      | nil => exact .inl ⟨by show (5 : Int) ≠ 0; decide, rfl, place_one s _⟩
      | cons t r =>
        have hm := hP.suf.subset List.mem_cons_self
        exact .inl ⟨by show (5 : Int) ≠ 0; decide, rfl, hl.2 t hm⟩
def usesN (c : NodeC) : List Nat := if c.kind < 2 then [] else if c.kind ≤ 5 then [c.a.toNat, c.b.toNat] else [c.a.toNat]
def usesL (l : List NodeC) : List Nat := l.flatMap usesN
def rootsL (l : List LetC) : List Nat := l.map fun c => c.root.toNat
theorem usesL_app (l m : List NodeC) : usesL (l ++ m) = usesL l ++ usesL m := List.flatMap_append
theorem ite_of {p : Prop} [Decidable p] {x : Nat} (h1 : p → x = 1) (h2 : ¬ p → x = 0) : x = if p then 1 else 0 := by
  by_cases h : p
  · rw [if_pos h]; exact h1 h
  · rw [if_neg h]; exact h2 h
theorem ite_or {p : Prop} [Decidable p] {x : Nat} (h : x = if p then 1 else 0) : (p ∧ x = 1) ∨ (¬ p ∧ x = 0) := by
  by_cases hp : p
  · rw [if_pos hp] at h; exact .inl ⟨hp, h⟩
  · rw [if_neg hp] at h; exact .inr ⟨hp, h⟩
theorem count_one (a j : Nat) : List.count j [a] = if a = j then 1 else 0 := by
  rw [List.count_singleton]
  simp only [beq_iff_eq]
theorem nd_uses : ∀ (x : Ex) (b j : Nat), x.ok → (usesL (x.nd b) ++ [b + x.n - 1]).count j = if b ≤ j ∧ j < b + x.n then 1 else 0 := by
  intro x
  induction x with
  | ref t =>
    intro b j h
    have e : usesL ((Ex.ref t).nd b) = [] := rfl
    rw [e, List.nil_append]
    refine ite_of (fun h => ?_) fun h => ?_ <;> (rcases ite_or (count_one (b + (Ex.ref t).n - 1) j) with ⟨k1, k2⟩ | ⟨k1, k2⟩ <;> simp only [Ex.n] at h k1 <;> omega)
  | num q =>
    intro b j h
    have e : usesL ((Ex.num q).nd b) = [] := rfl
    rw [e, List.nil_append]
    refine ite_of (fun h => ?_) fun h => ?_ <;> (rcases ite_or (count_one (b + (Ex.num q).n - 1) j) with ⟨k1, k2⟩ | ⟨k1, k2⟩ <;> simp only [Ex.n] at h k1 <;> omega)
  | neg x ih =>
    intro b j h
    have hn := x.n_pos
    have e : usesL [negN ((b : Int) + x.n - 1)] = [b + x.n - 1] := by
      show [((b : Int) + x.n - 1).toNat] = _
      congr 1; omega
    have i1 := ite_or (ih b j h)
    have c1 := ite_or (count_one (b + (x.n + 1) - 1) j)
    rw [Ex.nd, usesL_app, e, List.count_append, Ex.n]
    exact ite_of (fun _ => by omega) fun _ => by omega
  | pow x k ih =>
    intro b j h
    have hn := x.n_pos
    have e : usesL [powN ((b : Int) + x.n - 1) k] = [b + x.n - 1] := by
      show [((b : Int) + x.n - 1).toNat] = _
      congr 1; omega
    have i1 := ite_or (ih b j h.1)
    have c1 := ite_or (count_one (b + (x.n + 1) - 1) j)
    rw [Ex.nd, usesL_app, e, List.count_append, Ex.n]
    exact ite_of (fun _ => by omega) fun _ => by omega
  | bin k x y ih1 ih2 =>
    intro b j h
    have hn := x.n_pos
    have hm := y.n_pos
    have e : usesL [binN k ((b : Int) + x.n - 1) ((b : Int) + x.n + y.n - 1)] = [b + x.n - 1] ++ [b + x.n + y.n - 1] := by
      show usesN _ ++ [] = _
      unfold usesN
      have h1 := h.1
      have h2 := h.2.1
      rw [if_neg (by show ¬ k < 2; omega), if_pos (by show k ≤ 5; exact h2), List.append_nil]
      show [((b : Int) + x.n - 1).toNat, ((b : Int) + x.n + y.n - 1).toNat] = _
      rw [show ((b : Int) + x.n - 1).toNat = b + x.n - 1 by omega, show ((b : Int) + x.n + y.n - 1).toNat = b + x.n + y.n - 1 by omega]
      rfl
    have i1 := ite_or (ih1 b j h.2.2.1)
    have i2 := ite_or (ih2 (b + x.n) j h.2.2.2)
    have c1 := ite_or (count_one (b + (x.n + y.n + 1) - 1) j)
    rw [List.count_append] at i1 i2
    rw [Ex.nd, usesL_app, usesL_app, e, List.count_append, List.count_append, List.count_append, List.count_append, Ex.n]
    exact ite_of (fun _ => by omega) fun _ => by omega
theorem laid_uses : ∀ (l : List (ByteArray × Ex)) (b j : Nat), LetsOk l → (usesL (laid l b).2 ++ rootsL (laid l b).1).count j = if b ≤ j ∧ j < b + (laid l b).2.length then 1 else 0
  | [], b, j, _ => by
    refine ite_of (fun h => ?_) fun _ => rfl
    change b ≤ j ∧ j < b + 0 at h
    omega
  | (s, x) :: l, b, j, h => by
    have h1 := ite_or (nd_uses x b j (h _ List.mem_cons_self).2)
    have h2 := ite_or (laid_uses l (b + x.n) j fun a ha => h a (List.mem_cons_of_mem _ ha))
    have hn := x.n_pos
    have e : rootsL (laid ((s, x) :: l) b).1 = [b + x.n - 1] ++ rootsL (laid l (b + x.n)).1 := by
      show ((b : Int) + x.n - 1).toNat :: _ = _
      rw [show ((b : Int) + x.n - 1).toNat = b + x.n - 1 by omega]
      rfl
    show List.count j (usesL (x.nd b ++ (laid l (b + x.n)).2) ++ rootsL (laid ((s, x) :: l) b).1) = if b ≤ j ∧ j < b + (x.nd b ++ (laid l (b + x.n)).2).length then 1 else 0
    rw [e, usesL_app, List.length_append, x.nd_len, List.count_append, List.count_append, List.count_append]
    rw [List.count_append] at h1 h2
    exact ite_of (fun _ => by omega) fun _ => by omega
def cntL (n : Nat) (us : List Nat) : List Nat := (List.range n).map fun j => us.count j
theorem cntL_len (n : Nat) (us : List Nat) : (cntL n us).length = n := by simp [cntL]
theorem cntL_get {n : Nat} {us : List Nat} {j : Nat} (h : j < n) : (cntL n us).getD j 0 = us.count j := by
  unfold cntL
  rw [List.getD_eq_getElem?_getD, List.getElem?_map, List.getElem?_range h]
  rfl
theorem cntL_set {n : Nat} {us : List Nat} {k : Nat} : (cntL n us).set k (us.count k + 1) = cntL n (us ++ [k]) := by
  apply List.ext_getElem?
  intro j
  rw [List.getElem?_set]
  unfold cntL
  by_cases hj : j < n
  · rw [List.getElem?_map, List.getElem?_map, List.getElem?_range hj]
    simp only [Option.map_some, List.count_append, List.count_singleton]
    by_cases hk : k = j
    · subst hk; simp [hj]
    · rw [if_neg hk]; simp [hk]
  · rw [List.getElem?_eq_none (l := (List.range n).map _) (by simp; omega), List.getElem?_eq_none (by simp; omega)]
    split
    · rw [if_neg (by simp; omega)]
    · rfl
theorem cntL_nil (n : Nat) : cntL n [] = List.replicate n 0 := by
  apply List.ext_getElem?
  intro j
  unfold cntL
  by_cases hj : j < n
  · rw [List.getElem?_map, List.getElem?_range hj, List.getElem?_replicate, if_pos hj]; rfl
  · rw [List.getElem?_eq_none (by simp; omega), List.getElem?_eq_none (by simp; omega)]
theorem laid_roots : ∀ (l : List (ByteArray × Ex)) (b : Nat), ∀ c ∈ (laid l b).1, (b : Int) ≤ c.root ∧ c.root < b + (laid l b).2.length
  | [], b, c, hc => by cases hc
  | (s, x) :: l, b, c, hc => by
    have hn := x.n_pos
    show (b : Int) ≤ c.root ∧ c.root < b + ((x.nd b ++ (laid l (b + x.n)).2).length : Nat)
    rw [List.length_append, x.nd_len]
    rcases List.mem_cons.1 hc with rfl | hc
    · dsimp only; omega
    · have := laid_roots l (b + x.n) c hc
      omega
end Go.Proofs.YtmgpifkekofacaaGreatDoor
namespace Go.Tw
open Go
theorem Few.pow {k : Nat} {q : Rat} (h : Few k q) (m : Nat) : Few (k * m + 1) (q ^ m) := by
  have key : ∀ a : Nat, a < 4294967296 ^ k → a ^ m < 4294967296 ^ (k * m + 1) := fun a ha => by
    have h2 : a ^ m ≤ (4294967296 ^ k) ^ m := Nat.pow_le_pow_left (Nat.le_of_lt ha) m
    rw [← Nat.pow_mul] at h2
    exact Nat.lt_of_le_of_lt h2 (Nat.pow_lt_pow_right (by decide) (Nat.lt_succ_self _))
  exact ⟨by rw [Rat.num_pow, Int.natAbs_pow]; exact key _ h.num, by rw [Rat.den_pow]; exact key _ h.den⟩
theorem RV.at_ {I : Hp} {v : Value} {rs : List RV} (h : Slc I 3 v (rcs rs)) {i : Nat} {r : RV} (hr : rs[i]? = some r) : ∀ k y, ([.bool (decide (r.q.num < 0)), r.vn, r.vd] : List Value)[k]? = some y → I.cell? ⟨slcB v, slcO v + i * 3 + k, none⟩ = some y :=
  h.cells i _ (by unfold rcs; rw [List.getElem?_map, hr]; rfl)
end Go.Tw
namespace Go.Proofs.YtmgpifkekofacaaGreatDoor
open Go Go.Tw
theorem nd_parts : ∀ (x : Ex) (b : Nat), x.ok → ∀ c ∈ x.nd b, (partsZ c).isSome = true := by
  intro x
  induction x with
  | ref t => intro b h c hc; rw [List.mem_singleton.1 hc, parts_ref h]; rfl
  | num q => intro b h c hc; rw [List.mem_singleton.1 hc, parts_num h]; rfl
  | neg x ih =>
    intro b h c hc
    rcases List.mem_append.1 hc with hc | hc
    · exact ih b h c hc
    · rw [List.mem_singleton.1 hc, parts_neg]; rfl
  | pow x e ih =>
    intro b h c hc
    rcases List.mem_append.1 hc with hc | hc
    · exact ih b h.1 c hc
    · rw [List.mem_singleton.1 hc, parts_pow h.2]; rfl
  | bin k x y ih1 ih2 =>
    intro b h c hc
    obtain ⟨h1, h2, h3, h4⟩ := h
    rcases List.mem_append.1 hc with hc | hc
    · rcases List.mem_append.1 hc with hc | hc
      · exact ih1 b h3 c hc
      · exact ih2 _ h4 c hc
    · rw [List.mem_singleton.1 hc, parts_bin ⟨h1, h2⟩]; rfl
theorem laid_parts : ∀ (l : List (ByteArray × Ex)) (b : Nat), LetsOk l → ∀ c ∈ (laid l b).2, (partsZ c).isSome = true
  | [], _, _, c, hc => by cases hc
  | (s, x) :: l, b, h, c, hc => by
    rcases List.mem_append.1 hc with hc | hc
    · exact nd_parts x b (h _ List.mem_cons_self).2 c hc
    · exact laid_parts l _ (fun a ha => h a (List.mem_cons_of_mem _ ha)) c hc
theorem isSome_if {b : Bool} {k : Nat} : (if b = true then some k else none).isSome = b := by cases b <;> rfl
theorem made_nvs (m : Nat) : (madeCells [Value.int .i64 0].toArray (m * 1)).toList = nvs (List.replicate m 0) := by
  rw [Nat.mul_one]; exact (toList_madeCells_one _ _).trans (by simp [nvs])
theorem nvs_set {l : List Nat} {k x : Nat} {z : Int} (h : z = x) : (nvs l).set k (.int .i64 z) = nvs (l.set k x) := by
  subst h; unfold nvs; rw [List.map_set]
theorem cnt_bump {n k : Nat} {us : List Nat} {z : Int} {i : Nat} (hi : i = k) (hk : k < n) (hz : z = ((cntL n us).getD k 0 : Nat) + 1) : (nvs (cntL n us)).set i (.int .i64 z) = nvs (cntL n (us ++ [k])) := by
  subst hi
  rw [nvs_set (x := us.count i + 1) (by rw [hz, cntL_get hk]; rfl), cntL_set]
theorem cntL_le {n : Nat} {us : List Nat} {k : Nat} : (cntL n us).getD k 0 ≤ us.length := by
  by_cases hk : k < n
  · rw [cntL_get hk]; exact List.count_le_length
  · rw [List.getD_eq_getElem?_getD, List.getElem?_eq_none (by rw [cntL_len]; omega)]; exact Nat.zero_le _
theorem usesN_len (c : NodeC) : (usesN c).length ≤ 2 := by
  unfold usesN
  split
  · simp
  · split <;> simp
theorem usesL_len : ∀ (l : List NodeC), (usesL l).length ≤ 2 * l.length
  | [] => Nat.le_refl _
  | c :: l => by
    have h1 := usesN_len c
    have h2 := usesL_len l
    show (usesN c ++ usesL l).length ≤ _
    rw [List.length_append, List.length_cons]
    omega
theorem usesL_take {l : List NodeC} {i : Nat} {c : NodeC} (h : l[i]? = some c) : usesL (l.take (i + 1)) = usesL (l.take i) ++ usesN c := by
  rw [List.take_add_one, h, usesL_app]
  show _ ++ (usesN c ++ []) = _
  rw [List.append_nil]
theorem rootsL_take {l : List LetC} {i : Nat} {c : LetC} (h : l[i]? = some c) : rootsL (l.take (i + 1)) = rootsL (l.take i) ++ [c.root.toNat] := by
  rw [List.take_add_one, h]
  simp [rootsL]
theorem TreeRight_any (s : ByteArray) {I : Hp} (hT : Tabs I) (hM : Mx I) (hE : Errs I) : Fun Tryz.prog 5 [.string s] I [] (fun v _ _ => v = .bool true) := by
  have hcs := parseZ_cases s
  intro w hw
  refine enter1 _ Tryz.func5 rfl Tryz.ntmps5 rfl ?_ hw
  refine cS (cR ?_)
  refine oV ?_
  refine oN (tC (cS (cR ?_)))
  refine o_callQ trivial rfl Tryz.call14 rfl (awake11_any hT hM hE) ?_
  refine oV ?_
  refine oN (tC (cS (cS (cR ?_))))
  refine oV ?_
  refine o_lenS trivial rfl Tryz.underlying9 rfl ?_
  refine oV ?_
  refine oN (tC ?_)
  refine cC rfl (fun h1 => ?_) (fun h1 => ?_)
  ·
   have f1 := h1
   try simp only [bl] at f1
   refine cS (cR ?_)
   iterate 2 refine oV ?_
   refine oN (tC (cT (tR ?_)))
   refine ret1 rfl rfl ?_
   exact leaf0 rfl
  have f1 := h1
  try simp only [bl] at f1
  refine cK (tC (cS (cR ?_)))
  refine oV ?_
  refine o_callI trivial rfl Tryz.call15 rfl (parse_any s hT hM hE (by omega)) ?_
  rintro _ I1 hx1 ⟨vi, vl, vo, va, ns, rfl, hp, hf⟩
  refine oV ?_
  have hsi := hp.si
  have hsl := hp.sl
  have hso := hp.so
  have hsa := hp.sa
  generalize parseZ s = pz at *
  obtain ⟨p, line, col, err⟩ := pz
  dsimp only at hp hsi hsl hso hsa hcs
  have hal : p.all.length = ns.length := by rw [← hp.eq, List.length_map]
  have hli := scs_len p.ins
  have hla := nds_len ns
  have hll : (p.lets.map LetC.cells).length = p.lets.length := List.length_map _
  iterate 3 refine oV ?_
  refine o_alloc trivial rfl Tryz.zeroValue27 rfl (fun b4 => ?_)
  refine o_alloc trivial rfl Tryz.zeroValue29 rfl (fun b5 => ?_)
  refine oS Tryz.sizeOf27 ?_
  refine oS Tryz.sizeOf29 ?_
  refine oV ?_
  refine oN (tC (cS (cS (cR ?_))))
  iterate 2 refine oV ?_
  refine oN (tC ?_)
  refine cC rfl (fun h2 => ?_) (fun h2 => ?_)
  ·
   have f2 := h2
   try simp only [bl] at f2
   obtain ⟨g1, g2, g3, g4⟩ : err ≠ 0 ∧ p = noP ∧ 1 ≤ line ∧ 1 ≤ col := by
     rcases hcs with h | h
     · exact h
     · exact absurd h.1 f2
   have hn0 : (nds ns).length = 0 := by rw [hla, ← hal, g2]; rfl
   have hi0 : (scs p.ins).length = 0 := by rw [g2]; rfl
   refine cS (cR ?_)
   refine oV ?_
   refine' o_and trivial trivial rfl rfl rfl rfl rfl rfl rfl rfl (fun hb26 => ?_) ?_
   rotate_left
   ·
    have fb26 := hb26
    try simp only [bl] at fb26
    refine oX (T := 25) (off := 3) (wS rfl rfl hb26) rfl Tryz.underlying27 rfl rfl rfl Tryz.sizeOf25 rfl rfl ?_
    refine o_load1 (wS rfl rfl hb26) rfl Tryz.isAgg25 rfl (by repeat constructor) (by repeat constructor) ?_
    refine o_lenSlc (wS rfl rfl hb26) rfl Tryz.underlying25 rfl (hsa) ?_
    refine o_pv (wS rfl rfl hb26) rfl rfl ?_
    refine oN ?_
    exact joins rfl
   refine' o_and trivial trivial rfl rfl rfl rfl rfl rfl rfl rfl (fun hb32 => ?_) ?_
   rotate_left
   ·
    have fb32 := hb32
    try simp only [bl] at fb32
    refine oX (T := 23) (off := 0) (wS rfl rfl hb32) rfl Tryz.underlying27 rfl rfl rfl Tryz.sizeOf23 rfl rfl ?_
    refine o_load1 (wS rfl rfl hb32) rfl Tryz.isAgg23 rfl (by repeat constructor) (by repeat constructor) ?_
    refine o_lenSlc (wS rfl rfl hb32) rfl Tryz.underlying23 rfl (hsi) ?_
    refine o_pv (wS rfl rfl hb32) rfl rfl ?_
    refine oN ?_
    exact joins rfl
   refine' o_and trivial trivial rfl rfl rfl rfl rfl rfl rfl rfl (fun hb38 => ?_) ?_
   rotate_left
   ·
    have fb38 := hb38
    try simp only [bl] at fb38
    refine oX (T := 3) (off := 0) (wS rfl rfl hb38) rfl Tryz.underlying29 rfl rfl rfl Tryz.sizeOf3 rfl rfl ?_
    refine o_load1 (wS rfl rfl hb38) rfl Tryz.isAgg3 rfl (by repeat constructor) (by repeat constructor) ?_
    refine o_pv (wS rfl rfl hb38) rfl rfl ?_
    refine oN ?_
    exact joins rfl
   refine' o_and trivial trivial rfl rfl rfl rfl rfl rfl rfl rfl (fun hb43 => ?_) ?_
   rotate_left
   ·
    have fb43 := hb43
    try simp only [bl] at fb43
    refine oX (T := 3) (off := 1) (wS rfl rfl hb43) rfl Tryz.underlying29 rfl rfl rfl Tryz.sizeOf3 rfl rfl ?_
    refine o_load1 (wS rfl rfl hb43) rfl Tryz.isAgg3 rfl (by repeat constructor) (by repeat constructor) ?_
    refine o_pv (wS rfl rfl hb43) rfl rfl ?_
    refine oN ?_
    exact joins rfl
   refine oV ?_
   refine oN (tC (cT (tR ?_)))
   refine ret1 rfl rfl ?_
   refine leaf hx1 (List.nil_sublist _) (congrArg Value.bool ?_)
   rw [hn0, hi0]
   simp
   omega
  have f2 := h2
  try simp only [bl] at f2
  obtain ⟨g1, g2, g3, l, hr⟩ : err = 0 ∧ line = 0 ∧ col = 0 ∧ ∃ l, RightP p l := by
    rcases hcs with h | h
    · exact absurd f2 h.1
    · exact h
  subst g2 g3
  obtain ⟨N, hN⟩ : ∃ N, N = ns.length := ⟨_, rfl⟩
  have hlow := shaped_low hr.toShaped
  have hfe := hr.few
  have hpt : ∀ c ∈ p.all, (partsZ c).isSome = true := fun c hc => laid_parts l 0 hr.ok c (by rw [← hr.all]; exact hc)
  have hlb : p.lets.length ≤ 40 := by rw [hr.lets, laid_lets]; exact hr.few.1
  refine cK (tC (cS (cR ?_)))
  refine oF 3 Tryz.underlying27 Tryz.sizeOf25 ?_
  refine oL Tryz.isAgg25 ?_
  refine o_lenSlc trivial rfl Tryz.underlying25 rfl (hsa) ?_
  refine o_makeBox trivial rfl Tryz.underlying37 elemz3 rfl rfl (by omega) (by omega) (by first | omega | (unfold maxLen; omega)) (fun b51 => ?_)
  refine oV ?_
  refine oN (tC (cS (cS ?_)))
  rw [show ((nds ns).length : Int).toNat = N by omega, made_nvs, ← cntL_nil]
  refine cR ?_
  refine oV ?_
  refine oN (tC (cB ?_))
  refine c_loop (ι := Nat) [3, 4, 5, 7] (.cons rfl (.cons rfl (.cons rfl (.cons rfl .nil)))) (fun i => ns.length - i) (fun i E0 => (8, .int .i64 (i : Nat)) :: E0) (fun i => St w [] I1 [.box b51 (.cells (nvs (cntL N (usesL (p.all.take i)))).toArray 3 (0, 0)), .box b5 (.cells #[.int .i64 0, .int .i64 0] 29 (0, 0)), .box b4 (.cells #[vi, vl, vo, va] 27 (0, 0))]) (fun i => i ≤ ns.length) (0) (sC rfl (sC rfl (sC rfl (sC rfl (sC rfl sN))))) (fun _ h => h) (Nat.zero_le _) ?_
  rintro i hi
  try dsimp only
  refine cS (cS (cR ?_))
  refine oV ?_
  refine oF 3 Tryz.underlying27 Tryz.sizeOf25 ?_
  refine oL Tryz.isAgg25 ?_
  refine o_lenSlc trivial rfl Tryz.underlying25 rfl (hsa) ?_
  refine oV ?_
  refine oN (tC ?_)
  refine cC rfl (fun h3 => ?_) (fun h3 => ?_)
  ·
   have f3 := h3
   try simp only [bl] at f3
   obtain ⟨o, ho⟩ : ∃ o, ns[i]? = some o := ⟨ns[i]'(by omega), List.getElem?_eq_getElem (by omega)⟩
   have hom := List.mem_of_getElem? ho
   have hoc : p.all[i]? = some o.c := by rw [← hp.eq, List.getElem?_map, ho]; rfl
   have hw1 : Ws I1 o.vn o.c.n := (hp.ok o hom).1
   have hw2 : Ws I1 o.vd o.c.d := (hp.ok o hom).2
   have hut := usesL_take hoc
   have hul := usesL_len (p.all.take i)
   have htl : (p.all.take i).length = i := by rw [List.length_take]; omega
   have hlo := hlow i o.c hoc
   have hpo := hpt o.c (List.mem_of_getElem? hoc)
   have hbz : 5 < o.c.kind → o.c.b = 0 := fun hk => by
     rcases Decidable.em (7 < o.c.kind) with h8 | h8
     · rw [parts_kn (.inr h8)] at hpo; cases hpo
     · rcases (show o.c.kind = 6 ∨ o.c.kind = 7 by omega) with h6 | h6
       · rw [parts_k6 h6, isSome_if] at hpo; simp at hpo; exact hpo.1.2
       · rw [parts_k7 h6, isSome_if] at hpo; simp at hpo; exact hpo.1.1.2
   have hle0 := cntL_le (n := N) (us := usesL (p.all.take i)) (k := o.c.a.toNat)
   refine cK (tC (cS (cB (cS (cR ?_)))))
   refine oF 3 Tryz.underlying27 Tryz.sizeOf25 ?_
   refine oL Tryz.isAgg25 ?_
   refine oV ?_
   refine o_elem trivial rfl Tryz.underlying25 Tryz.sizeOf44 rfl (hsa) rfl (by omega) ?_
   refine o_loadAI trivial rfl Tryz.isAgg44 Tryz.sizeOf44 rfl rfl (nds_at hsa ho) ?_
   refine o_alloc trivial rfl Tryz.zeroValue44 rfl (fun b9 => ?_)
   refine oS Tryz.sizeOf44 ?_
   refine oN (tC (cS (cS (cR ?_))))
   refine oF 0 Tryz.underlying44 Tryz.sizeOf3 ?_
   refine oL Tryz.isAgg3 ?_
   refine oV ?_
   refine oN (tC ?_)
   refine cC rfl (fun h4 => ?_) (fun h4 => ?_)
   ·
    have f4 := h4
    try simp only [bl] at f4
    have hun : usesN o.c = [] := if_pos f4
    refine c_exit (then_x (blk_eq rfl (tC ?_)))
    first | rw [cnt_bump (k := o.c.b.toNat) (by omega) (by omega) rfl] | skip
    refine cR ?_
    refine oV ?_
    first | (refine o_add trivial rfl rfl rfl ?_ ?_; (omega)) | refine oV ?_
    refine oV ?_
    refine oN ?_
    exact again (i + 1) (sC rfl (sC rfl (sC rfl (sC rfl (sC rfl sN))))) (fun _ h => by rw [hut, hun]; (first | rw [List.append_nil] | rw [← List.append_assoc] | skip); exact h.sort (by repeat constructor)) (by show ns.length - (i + 1) < ns.length - i; omega) (by show i + 1 ≤ ns.length; omega)
   have f4 := h4
   try simp only [bl] at f4
   have hk2 : ¬ o.c.kind < 2 := by omega
   obtain ⟨q1, q2, q3⟩ := hlo (by omega)
   refine cK (tC (cS (cS (cR ?_))))
   refine oF 1 Tryz.underlying44 Tryz.sizeOf3 ?_
   refine oL Tryz.isAgg3 ?_
   refine oV ?_
   refine' o_or trivial trivial rfl rfl rfl rfl rfl rfl rfl rfl (fun hb70 => ?_) ?_
   rotate_left
   ·
    have fb70 := hb70
    try simp only [bl] at fb70
    refine oX (T := 3) (off := 1) (wS rfl rfl hb70) rfl Tryz.underlying44 rfl rfl rfl Tryz.sizeOf3 rfl rfl ?_
    refine o_load1 (wS rfl rfl hb70) rfl Tryz.isAgg3 rfl (by repeat constructor) (by repeat constructor) ?_
    iterate 2 refine o_pv (wS rfl rfl hb70) rfl rfl ?_
    refine oN ?_
    exact joins rfl
   refine' o_or trivial trivial rfl rfl rfl rfl rfl rfl rfl rfl (fun hb76 => ?_) ?_
   rotate_left
   ·
    have fb76 := hb76
    try simp only [bl] at fb76
    refine oX (T := 3) (off := 2) (wS rfl rfl hb76) rfl Tryz.underlying44 rfl rfl rfl Tryz.sizeOf3 rfl rfl ?_
    refine o_load1 (wS rfl rfl hb76) rfl Tryz.isAgg3 rfl (by repeat constructor) (by repeat constructor) ?_
    refine o_pv (wS rfl rfl hb76) rfl rfl ?_
    refine oN ?_
    exact joins rfl
   refine' o_or trivial trivial rfl rfl rfl rfl rfl rfl rfl rfl (fun hb81 => ?_) ?_
   rotate_left
   ·
    have fb81 := hb81
    try simp only [bl] at fb81
    refine oX (T := 3) (off := 2) (wS rfl rfl hb81) rfl Tryz.underlying44 rfl rfl rfl Tryz.sizeOf3 rfl rfl ?_
    refine o_load1 (wS rfl rfl hb81) rfl Tryz.isAgg3 rfl (by repeat constructor) (by repeat constructor) ?_
    iterate 2 refine o_pv (wS rfl rfl hb81) rfl rfl ?_
    refine oN ?_
    exact joins rfl
   refine oN (tC ?_)
   refine cC rfl (fun h5 => ?_) (fun h5 => ?_)
   ·
    have f5 := h5
    try simp only [bl] at f5
    exfalso; omega
   have f5 := h5
   try simp only [bl] at f5
   refine cK (tC (cS (cR ?_)))
   refine oV ?_
   refine oF 1 Tryz.underlying44 Tryz.sizeOf3 ?_
   refine oL Tryz.isAgg3 ?_
   refine o_elemV trivial rfl Tryz.underlying37 Tryz.sizeOf3 rfl rfl (by omega) ?_
   refine o_loadBox1 trivial rfl Tryz.isAgg3 rfl (by repeat constructor) ((by rw [show (0 + (o.c.a).toNat * 1) = o.c.a.toNat by omega]; exact nvs_get (by rw [cntL_len]; omega))) ?_
   first | (refine o_add trivial rfl rfl rfl ?_ ?_; (omega)) | refine oV ?_
   refine o_elemV trivial rfl Tryz.underlying37 Tryz.sizeOf3 rfl rfl (by omega) ?_
   refine o_storeBox1 trivial rfl rfl rfl Tryz.sizeOf3 rfl (by repeat constructor) (by rw [nvs_len, cntL_len]; omega) ?_
   refine oN (tC (cS ?_))
   rw [cnt_bump (k := o.c.a.toNat) (by omega) (by omega) rfl]
   have hle1 := cntL_le (n := N) (us := usesL (p.all.take i) ++ [o.c.a.toNat]) (k := o.c.b.toNat)
   rw [List.length_append] at hle1
   have hl1 : [o.c.a.toNat].length = 1 := rfl
   refine cR ?_
   refine oF 0 Tryz.underlying44 Tryz.sizeOf3 ?_
   refine oL Tryz.isAgg3 ?_
   refine oV ?_
   refine oN (tC ?_)
   refine cC rfl (fun h6 => ?_) (fun h6 => ?_)
   ·
    have f6 := h6
    try simp only [bl] at f6
    have hun : usesN o.c = [o.c.a.toNat] ++ [o.c.b.toNat] := by unfold usesN; rw [if_neg hk2, if_pos (by omega)]; rfl
    have hqb := q3 (by omega)
    refine cR ?_
    refine oV ?_
    refine oF 2 Tryz.underlying44 Tryz.sizeOf3 ?_
    refine oL Tryz.isAgg3 ?_
    refine o_elemV trivial rfl Tryz.underlying37 Tryz.sizeOf3 rfl rfl (by omega) ?_
    refine o_loadBox1 trivial rfl Tryz.isAgg3 rfl (by repeat constructor) ((by rw [show (0 + (o.c.b).toNat * 1) = o.c.b.toNat by omega]; exact nvs_get (by rw [cntL_len]; omega))) ?_
    first | (refine o_add trivial rfl rfl rfl ?_ ?_; (omega)) | refine oV ?_
    refine o_elemV trivial rfl Tryz.underlying37 Tryz.sizeOf3 rfl rfl (by omega) ?_
    refine o_storeBox1 trivial rfl rfl rfl Tryz.sizeOf3 rfl (by repeat constructor) (by rw [nvs_len, cntL_len]; omega) ?_
    refine oN (blk_n (tC ?_))
    first | rw [cnt_bump (k := o.c.b.toNat) (by omega) (by omega) rfl] | skip
    refine cR ?_
    refine oV ?_
    first | (refine o_add trivial rfl rfl rfl ?_ ?_; (omega)) | refine oV ?_
    refine oV ?_
    refine oN ?_
    exact again (i + 1) (sC rfl (sC rfl (sC rfl (sC rfl (sC rfl sN))))) (fun _ h => by rw [hut, hun]; (first | rw [List.append_nil] | rw [← List.append_assoc] | skip); exact h.sort (by repeat constructor)) (by show ns.length - (i + 1) < ns.length - i; omega) (by show i + 1 ≤ ns.length; omega)
   have f6 := h6
   try simp only [bl] at f6
   have hun : usesN o.c = [o.c.a.toNat] := by unfold usesN; rw [if_neg hk2, if_neg (by omega)]
   refine cK (blk_n (tC ?_))
   first | rw [cnt_bump (k := o.c.b.toNat) (by omega) (by omega) rfl] | skip
   refine cR ?_
   refine oV ?_
   first | (refine o_add trivial rfl rfl rfl ?_ ?_; (omega)) | refine oV ?_
   refine oV ?_
   refine oN ?_
   exact again (i + 1) (sC rfl (sC rfl (sC rfl (sC rfl (sC rfl sN))))) (fun _ h => by rw [hut, hun]; (first | rw [List.append_nil] | rw [← List.append_assoc] | skip); exact h.sort (by repeat constructor)) (by show ns.length - (i + 1) < ns.length - i; omega) (by show i + 1 ≤ ns.length; omega)
  have f3 := h3
  try simp only [bl] at f3
  have hin : p.all.take i = p.all := List.take_of_length_le (by omega)
  rw [hin]
  have hul := usesL_len p.all
  refine c_exit (then_x (then_x (blk_eq rfl (tC (cS (cS (cR ?_)))))))
  refine oV ?_
  refine oN (tC (cB ?_))
  refine c_loop (ι := Nat) [3, 4, 5, 7] (.cons rfl (.cons rfl (.cons rfl (.cons rfl .nil)))) (fun j => p.lets.length - j) (fun j E0 => (10, .int .i64 (j : Nat)) :: E0) (fun j => St w [] I1 [.box b51 (.cells (nvs (cntL N (usesL p.all ++ rootsL (p.lets.take j)))).toArray 3 (0, 0)), .box b5 (.cells #[.int .i64 0, .int .i64 0] 29 (0, 0)), .box b4 (.cells #[vi, vl, vo, va] 27 (0, 0))]) (fun j => j ≤ p.lets.length) (0) (sC rfl (sC rfl (sC rfl (sC rfl (sC rfl sN))))) (fun _ h => by rw [show rootsL (p.lets.take 0) = [] from rfl, List.append_nil]; exact h.sort (by repeat constructor)) (Nat.zero_le _) ?_
  rintro j hj
  try dsimp only
  refine cS (cS (cR ?_))
  refine oV ?_
  refine oF 1 Tryz.underlying27 Tryz.sizeOf24 ?_
  refine oL Tryz.isAgg24 ?_
  refine o_lenSlc trivial rfl Tryz.underlying24 rfl (hsl) ?_
  refine oV ?_
  refine oN (tC ?_)
  refine cC rfl (fun h7 => ?_) (fun h7 => ?_)
  ·
   have f7 := h7
   try simp only [bl] at f7
   obtain ⟨c, hc⟩ : ∃ c, p.lets[j]? = some c := ⟨p.lets[j]'(by omega), List.getElem?_eq_getElem (by omega)⟩
   have hrt := rootsL_take hc
   have hcr := laid_roots l 0 c (by rw [← hr.lets]; exact List.mem_of_getElem? hc)
   rw [← hr.all] at hcr
   have hle2 := cntL_le (n := N) (us := usesL p.all ++ rootsL (p.lets.take j)) (k := c.root.toNat)
   have hrl : (rootsL (p.lets.take j)).length ≤ 40 := by unfold rootsL; rw [List.length_map, List.length_take]; omega
   rw [List.length_append] at hle2
   refine cK (tC (cS (cB (cS (cS (cR ?_))))))
   refine oF 1 Tryz.underlying27 Tryz.sizeOf24 ?_
   refine oL Tryz.isAgg24 ?_
   refine oV ?_
   refine o_elem trivial rfl Tryz.underlying24 Tryz.sizeOf46 rfl (hsl) rfl (by omega) ?_
   refine oF 1 Tryz.underlying46 Tryz.sizeOf3 ?_
   refine o_load1I trivial rfl Tryz.isAgg3 rfl (lts_at hsl hc 1 _ rfl) ?_
   refine oV ?_
   refine' o_or trivial trivial rfl rfl rfl rfl rfl rfl rfl rfl (fun hb118 => ?_) ?_
   rotate_left
   ·
    have fb118 := hb118
    try simp only [bl] at fb118
    refine oX (T := 24) (off := 1) (wS rfl rfl hb118) rfl Tryz.underlying27 rfl rfl rfl Tryz.sizeOf24 rfl rfl ?_
    refine o_load1 (wS rfl rfl hb118) rfl Tryz.isAgg24 rfl (by repeat constructor) (by repeat constructor) ?_
    refine o_pv (wS rfl rfl hb118) rfl rfl ?_
    refine o_elem (wS rfl rfl hb118) rfl Tryz.underlying24 Tryz.sizeOf46 rfl (hsl) rfl (by omega) ?_
    refine oX (T := 3) (off := 1) (wS rfl rfl hb118) rfl Tryz.underlying46 rfl rfl rfl Tryz.sizeOf3 rfl rfl ?_
    refine o_load1I (wS rfl rfl hb118) rfl Tryz.isAgg3 rfl (lts_at hsl hc 1 _ rfl) ?_
    refine o_pv (wS rfl rfl hb118) rfl rfl ?_
    refine o_lenL (wS rfl rfl hb118) rfl Tryz.underlying37 rfl ?_
    refine o_pv (wS rfl rfl hb118) rfl rfl ?_
    refine oN ?_
    exact joins rfl
   refine oN (tC ?_)
   refine cC rfl (fun h8 => ?_) (fun h8 => ?_)
   ·
    have f8 := h8
    try simp only [bl] at f8
    exfalso; omega
   have f8 := h8
   try simp only [bl] at f8
   refine cK (tC (cR ?_))
   refine oV ?_
   refine oF 1 Tryz.underlying27 Tryz.sizeOf24 ?_
   refine oL Tryz.isAgg24 ?_
   refine oV ?_
   refine o_elem trivial rfl Tryz.underlying24 Tryz.sizeOf46 rfl (hsl) rfl (by omega) ?_
   refine oF 1 Tryz.underlying46 Tryz.sizeOf3 ?_
   refine o_load1I trivial rfl Tryz.isAgg3 rfl (lts_at hsl hc 1 _ rfl) ?_
   refine o_elemV trivial rfl Tryz.underlying37 Tryz.sizeOf3 rfl rfl (by omega) ?_
   refine o_loadBox1 trivial rfl Tryz.isAgg3 rfl (by repeat constructor) ((by rw [show (0 + (c.root).toNat * 1) = c.root.toNat by omega]; exact nvs_get (by rw [cntL_len]; omega))) ?_
   first | (refine o_add trivial rfl rfl rfl ?_ ?_; (omega)) | refine oV ?_
   refine o_elemV trivial rfl Tryz.underlying37 Tryz.sizeOf3 rfl rfl (by omega) ?_
   refine o_storeBox1 trivial rfl rfl rfl Tryz.sizeOf3 rfl (by repeat constructor) (by rw [nvs_len, cntL_len]; omega) ?_
   refine oN (blk_n (tC ?_))
   rw [cnt_bump (k := c.root.toNat) (by omega) (by omega) rfl]
   refine cR ?_
   refine oV ?_
   first | (refine o_add trivial rfl rfl rfl ?_ ?_; (omega)) | refine oV ?_
   refine oV ?_
   refine oN ?_
   exact again (j + 1) (sC rfl (sC rfl (sC rfl (sC rfl (sC rfl sN))))) (fun _ h => by rw [hrt, ← List.append_assoc]; exact h.sort (by repeat constructor)) (by show p.lets.length - (j + 1) < p.lets.length - j; omega) (by show j + 1 ≤ p.lets.length; omega)
  have f7 := h7
  try simp only [bl] at f7
  have hjn : p.lets.take j = p.lets := List.take_of_length_le (by omega)
  rw [hjn]
  refine c_exit (then_x (then_x (blk_eq rfl (tC (cS (cS (cR ?_)))))))
  refine oV ?_
  refine oN (tC (cB ?_))
  refine c_loop (ι := Nat) [3, 4, 5, 7] (.cons rfl (.cons rfl (.cons rfl (.cons rfl .nil)))) (fun k => N - k) (fun k E0 => (11, .int .i64 (k : Nat)) :: E0) (fun k => St w [] I1 [.box b51 (.cells (nvs (cntL N (usesL p.all ++ rootsL p.lets))).toArray 3 (0, 0)), .box b5 (.cells #[.int .i64 0, .int .i64 0] 29 (0, 0)), .box b4 (.cells #[vi, vl, vo, va] 27 (0, 0))]) (fun k => k ≤ N) (0) (sC rfl (sC rfl (sC rfl (sC rfl (sC rfl sN))))) (fun _ h => h) (Nat.zero_le _) ?_
  rintro k hk
  try dsimp only
  refine cS (cS (cR ?_))
  iterate 2 refine oV ?_
  refine o_lenL trivial rfl Tryz.underlying37 rfl ?_
  refine oV ?_
  refine oN (tC ?_)
  refine cC rfl (fun h9 => ?_) (fun h9 => ?_)
  ·
   have f9 := h9
   try simp only [bl] at f9
   have hcu : (cntL N (usesL p.all ++ rootsL p.lets)).getD k 0 = 1 := by
     have := laid_uses l 0 k hr.ok
     rw [← hr.lets, ← hr.all, if_pos (by omega)] at this
     rw [cntL_get (by omega), this]
   refine cK (tC (cS (cB (cS (cR ?_)))))
   iterate 2 refine oV ?_
   refine o_elemV trivial rfl Tryz.underlying37 Tryz.sizeOf3 rfl rfl (by omega) ?_
   refine o_loadBox1 trivial rfl Tryz.isAgg3 rfl (by repeat constructor) ((by rw [show (0 + ((k : Nat) : Int).toNat * 1) = k by omega]; exact (nvs_get (by rw [cntL_len]; omega)).trans (by rw [hcu]))) ?_
   refine oV ?_
   refine oN (tC ?_)
   refine cC rfl (fun h10 => ?_) (fun h10 => ?_)
   ·
    have f10 := h10
    try simp only [bl] at f10
    exfalso; revert h10; decide
   have f10 := h10
   try simp only [bl] at f10
   refine cK (blk_n (tC (cR ?_)))
   refine oV ?_
   first | (refine o_add trivial rfl rfl rfl ?_ ?_; (omega)) | refine oV ?_
   refine oV ?_
   refine oN ?_
   exact again (k + 1) (sC rfl (sC rfl (sC rfl (sC rfl (sC rfl sN))))) (fun _ h => h) (by show N - (k + 1) < N - k; omega) (by show k + 1 ≤ N; omega)
  have f9 := h9
  try simp only [bl] at f9
  have hri := trRight_any vi vl vo va p ns hp (fun o ho => ⟨by have := (hf o ho).1; omega, by have := (hf o ho).2; omega⟩)
  rw [tZ_right hr] at hri
  refine c_exit (then_x (then_x (blk_eq rfl (tC (cS (cR ?_))))))
  refine oV ?_
  refine' o_and trivial trivial rfl rfl rfl rfl rfl rfl rfl rfl (fun hb152 => ?_) ?_
  rotate_left
  ·
   have fb152 := hb152
   try simp only [bl] at fb152
   refine o_loadA (wS rfl rfl hb152) rfl Tryz.isAgg27 Tryz.sizeOf27 rfl (by repeat constructor) (by repeat constructor) ?_
   refine o_callQ (wS rfl rfl hb152) rfl Tryz.call21 rfl hri ?_
   refine oN ?_
   exact joins rfl
  refine' o_and trivial trivial rfl rfl rfl rfl rfl rfl rfl rfl (fun hb156 => ?_) ?_
  rotate_left
  ·
   have fb156 := hb156
   try simp only [bl] at fb156
   refine o_loadA (wS rfl rfl hb156) rfl Tryz.isAgg29 Tryz.sizeOf29 rfl (by repeat constructor) (by repeat constructor) ?_
   refine o_buildS (wS rfl rfl hb156) rfl (bld29) rfl .nil ?_
   refine o_eqlV (wS rfl rfl hb156) rfl rfl rfl Tryz.eqGuardType29 (EqV.struct Tryz.underlying29 Tryz.stoodInHeld29 (EqP.cons (T := 3) (o := 0) (by decide) rfl rfl (.one Tryz.isAgg3 (by repeat constructor)) (.one Tryz.isAgg3 (by repeat constructor)) (EqV.int Tryz.underlying3) (EqP.last (T := 3) (o := 1) (by decide) rfl rfl (.one Tryz.isAgg3 (by repeat constructor)) (.one Tryz.isAgg3 (by repeat constructor)) (EqV.int Tryz.underlying3)))) ?_
   refine oN ?_
   exact joins rfl
  refine oV ?_
  refine oN (tC (cT ?_))
  refine ret1 rfl rfl ?_
  refine leaf hx1 (List.nil_sublist _) (congrArg Value.bool ?_)
  simp
end Go.Proofs.YtmgpifkekofacaaGreatDoor
