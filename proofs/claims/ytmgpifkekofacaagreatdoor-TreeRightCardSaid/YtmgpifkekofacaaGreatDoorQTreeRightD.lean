/-
  TreeRight, part 4: the texts Read5, Read6, Read7, Read8, Read9, Read10, Parse11, Tree10, Value, Value2, Ref1, Ref2, Ref3, Ref4, Ref5, Ref7, Ref8, RefP, RefR, RefL, RefL2, RefL3, RefL4, RefL5, RefL6, Tree9, RefH, RefH2, Law11 as one.
-/
import Derived.Test.YtmgpifkekofacaaGreatDoorQTreeRightC
set_option linter.unusedVariables false
set_option linter.unusedSimpArgs false
set_option linter.unnecessarySimpa false
set_option maxHeartbeats 1000000
namespace Go.Proofs.YtmgpifkekofacaaGreatDoor
open Go Go.Tw
theorem expo_some {L : List Tok} {i : Nat} {e : Option Int} {r1 : List Tok} (he : Expo (L.drop i) e r1) {j : Nat} (hj : j = adv (hdT (L.drop i) 2 minusS) i) (hlt : j < L.length) (hk : (tkAt L j).kind = 1) {n : Nat} (hn : expoZ (tkAt L j).text = some n) :
    e = some ((if hdT (L.drop i) 2 minusS then -1 else 1) * (n : Int)) ∧ r1 = L.drop (j + 1) := by
  cases hm : hdT (L.drop i) 2 minusS with
  | true =>
    rw [adv_true hm] at hj
    subst hj
    have hi := hdT_lt hm
    have hx : isT (tkAt L i) 2 minusS = true := by rw [drop_cons hi] at hm; exact hm
    have h2 : Expo (L.drop i) (some (-(n : Int))) (L.drop (i + 1 + 1)) := by rw [drop_cons hi, drop_cons hlt]; exact .neg hx hk hn
    obtain ⟨rfl, rfl⟩ := he.det h2
    exact ⟨by simp, rfl⟩
  | false =>
    rw [adv_false hm] at hj
    subst hj
    have hx : isT (tkAt L j) 2 minusS = false := by rw [drop_cons hlt] at hm; exact hm
    have h2 : Expo (L.drop j) (some (n : Int)) (L.drop (j + 1)) := by rw [drop_cons hlt]; exact .pos hx hk hn
    obtain ⟨rfl, rfl⟩ := he.det h2
    exact ⟨by simp, rfl⟩
theorem expo_none {L : List Tok} {i : Nat} {e : Option Int} {r1 : List Tok} (he : Expo (L.drop i) e r1) {j : Nat} (hj : j = adv (hdT (L.drop i) 2 minusS) i) (hn : j < L.length → (tkAt L j).kind = 1 → expoZ (tkAt L j).text = none) :
    e = none ∧ r1 = L.drop j := by
  cases hm : hdT (L.drop i) 2 minusS with
  | true =>
    rw [adv_true hm] at hj
    subst hj
    have hi := hdT_lt hm
    have hx : isT (tkAt L i) 2 minusS = true := by rw [drop_cons hi] at hm; exact hm
    by_cases hlt : i + 1 < L.length
    · have h2 : Expo (L.drop i) none (L.drop (i + 1)) := by rw [drop_cons hi, drop_cons hlt]; exact .neg_bad hx (hn hlt)
      obtain ⟨rfl, rfl⟩ := he.det h2
      exact ⟨rfl, rfl⟩
    · have h2 : Expo (L.drop i) none (L.drop (i + 1)) := by rw [drop_cons hi, List.drop_eq_nil_of_le (by omega)]; exact .neg_end hx
      obtain ⟨rfl, rfl⟩ := he.det h2
      exact ⟨rfl, rfl⟩
  | false =>
    rw [adv_false hm] at hj
    subst hj
    by_cases hlt : j < L.length
    · have hx : isT (tkAt L j) 2 minusS = false := by rw [drop_cons hlt] at hm; exact hm
      have h2 : Expo (L.drop j) none (L.drop j) := by rw [drop_cons hlt]; exact .pos_bad hx (hn hlt)
      obtain ⟨rfl, rfl⟩ := he.det h2
      exact ⟨rfl, rfl⟩
    · have h2 : Expo (L.drop j) none (L.drop j) := by rw [List.drop_eq_nil_of_le (by omega)]; exact .pos_end
      obtain ⟨rfl, rfl⟩ := he.det h2
      exact ⟨rfl, rfl⟩
theorem rdExpo_any (b i : Nat) (vall vs vi vl vo va : Value) (a : Int) (ns : List NodeV) (K : List Value) (L : List Tok) {I : Hp} (hE : Errs I) (hL : Slc I 4 vall (L.map Tok.cells)) (hn : L.length ≤ 10000) (hs : TkSmall L) (hto : ToksOk L) (hK : K.length ≤ 90000) (hns : ns.length ≤ 90000) (hi : i ≤ L.length) {e : Option Int} {r1 : List Tok} (he : Expo (L.drop i) e r1) :
    Fun Tryz.prog 155 [.pointer (some ⟨b, 0, none⟩)] I [rdB b vall i vs vi vl vo va, skR vs (K ++ [odI a]), ndR va ns]
    (fun v I' B' => I = I' ∧ ((e = none ∧ v = .bool false ∧ ∃ i', i' ≤ L.length ∧ r1 = L.drop i' ∧ B' = [rdB b vall i' vs vi vl vo va, skR vs (K ++ [odI a]), ndR va ns]) ∨
      (∃ z, e = some z ∧ v = .bool true ∧ ∃ i' vs' va' c, i < i' ∧ i' ≤ L.length ∧ r1 = L.drop i' ∧ c.ok I ∧ c.c = powN a z ∧ B' = [rdB b vall i' vs' vi vl vo va', skR vs' (K ++ [odI ns.length]), ndR va' (ns ++ [c])]))) := by
  have hnode : ∀ (c : NodeV) (vs va : Value) (hc : c.ok I) (j : Nat), Fun Tryz.prog 159 [.pointer (some ⟨b, 0, none⟩), ndV c] I [rdB b vall j vs vi vl vo va, skR vs K, ndR va ns]
    (fun v I' B' => I = I' ∧ v = .tuple #[] ∧ ∃ vs' va', B' = [rdB b vall j vs' vi vl vo va', skR vs' (K ++ [odI ns.length]), ndR va' (ns ++ [c])]) := fun c vs va hc j => node_any b j vall vs vi vl vo va c ns K hc hK hns
  obtain ⟨j, hj⟩ : ∃ j, j = adv (hdT (L.drop i) 2 minusS) i := ⟨_, rfl⟩
  have hjl : j ≤ L.length := by rw [hj]; exact adv_le hi
  have hji : i ≤ j := by rw [hj]; unfold adv; split <;> omega
  have hbad : (∀ m, Lib.atoiAll (tkAt L j).text.data.toList ≠ .ok m) → j < L.length → (tkAt L j).kind = 1 → expoZ (tkAt L j).text = none := fun h hlt hk => by
    have hz := hto (tkAt L j) (by rw [tkAt_in (List.getElem?_eq_getElem hlt)]; exact List.getElem_mem hlt) hk
    cases hx : expoZ (tkAt L j).text with
    | none => rfl
    | some n => exact absurd ((expo_atoi hz n).1 hx).1 (h _)
  have hgood : ∀ {n : Int}, Lib.atoiAll (tkAt L j).text.data.toList = .ok n → j < L.length → (tkAt L j).kind = 1 → 0 ≤ n ∧ (n ≤ 20 → expoZ (tkAt L j).text = some n.toNat) ∧ (20 < n → expoZ (tkAt L j).text = none) := fun {n} h hlt hk => by
    have hz := hto (tkAt L j) (by rw [tkAt_in (List.getElem?_eq_getElem hlt)]; exact List.getElem_mem hlt) hk
    have h0 := atoi_pos hz h
    refine ⟨h0, fun h20 => (expo_atoi hz _).2 ⟨by rw [h, Int.toNat_of_nonneg h0], by omega⟩, fun h20 => ?_⟩
    cases hx : expoZ (tkAt L j).text with
    | none => rfl
    | some m =>
      have := (expo_atoi hz m).1 hx
      rw [h] at this
      have h3 := Lib.NumEnd.ok.inj this.1
      omega
  intro w hw
  refine enter1 _ Tryz.func155 rfl Tryz.ntmps155 rfl ?_ hw
  refine cS (cR ?_)
  refine oV ?_
  refine oN (tC (cS (cR ?_)))
  refine oV ?_
  refine oN (tC (cS (cS (cR ?_))))
  refine oV ?_
  refine oC trivial rfl Tryz.call102 rfl (rdMark_any b i vall vs vi vl vo va minusS L hL (by omega)) (by repeat constructor) ?_
  rintro _ _ _ hx1 ⟨rfl, rfl, rfl⟩
  refine oN (tC ?_)
  refine cC rfl (fun h1 => ?_) (fun h1 => ?_)
  ·
   have f1 := h1
   try simp only [bl] at f1
   refine cR ?_
   refine oV ?_
   refine oN (tC (cS ?_))
   rw [← hj]
   refine cR ?_
   refine oV ?_
   refine oC trivial rfl Tryz.call41 rfl (rdNext_any b j vall vs vi vl vo va L hL) (by repeat constructor) ?_
   rintro _ _ _ hx2 ⟨rfl, rfl, rfl⟩
   iterate 3 refine oV ?_
   refine o_alloc trivial rfl Tryz.zeroValue68 rfl (fun b4 => ?_)
   refine oS Tryz.sizeOf68 ?_
   refine oV ?_
   refine oN (tC (cS (cR ?_)))
   refine oF 1 Tryz.underlying68 Tryz.sizeOf9 ?_
   refine oL Tryz.isAgg9 ?_
   refine o_call0 trivial rfl Tryz.call168 rfl (atoi_any _ hE (by have := hs.at_ j; omega)) ?_
   rintro _ ⟨n, er, rfl, hA⟩
   iterate 5 refine oV ?_
   refine oN (tC (cS (cS ?_)))
   rcases hA with ⟨hA, rfl⟩ | ⟨hA, N, rfl⟩
   ·
    refine cR ?_
    iterate 2 refine oV ?_
    refine' o_or trivial trivial rfl rfl rfl rfl rfl rfl rfl rfl (fun hb23 => ?_) ?_
    rotate_left
    ·
     have fb23 := hb23
     try simp only [bl] at fb23
     refine oX (T := 3) (off := 0) (wS rfl rfl hb23) rfl Tryz.underlying68 rfl rfl rfl Tryz.sizeOf3 rfl rfl ?_
     refine o_load1 (wS rfl rfl hb23) rfl Tryz.isAgg3 rfl (by repeat constructor) (by repeat constructor) ?_
     refine o_pv (wS rfl rfl hb23) rfl rfl ?_
     refine oN ?_
     exact joins rfl
    refine' o_or trivial trivial rfl rfl rfl rfl rfl rfl rfl rfl (fun hb28 => ?_) ?_
    rotate_left
    ·
     refine o_pv (wS rfl rfl hb28) rfl rfl ?_
     refine o_bin (v := .bool false) (wS rfl rfl hb28) rfl rfl rfl (fun w => by kernel_rfl) ?_
     refine oN ?_
     exact joins rfl
    refine' o_or trivial trivial rfl rfl rfl rfl rfl rfl rfl rfl (fun hb32 => ?_) ?_
    rotate_left
    ·
     iterate 2 refine o_pv (wS rfl rfl hb32) rfl rfl ?_
     refine oN ?_
     exact joins rfl
    refine oN (tC ?_)
    refine cC rfl (fun h2 => ?_) (fun h2 => ?_)
    ·
     have f2 := h2
     try simp only [bl] at f2
     have h3 : expoZ (tkAt L j).text = none ∨ ¬ (j < L.length ∧ (tkAt L j).kind = 1) := by
       by_cases hc : j < L.length ∧ (tkAt L j).kind = 1
       · left
         refine (hgood hA hc.1 hc.2).2.2 ?_
         rw [decide_eq_true hc.1, hc.2] at h2
         simpa using h2
       · exact .inr hc
     have hr := expo_none he hj (fun k1 k2 => h3.elim id fun h => absurd ⟨k1, k2⟩ h)
     refine cS (cR ?_)
     refine oV ?_
     refine oN (tC (cT (tR ?_)))
     refine ret1 rfl rfl ?_
     first
     | exact fun w' hw' => ⟨I, [rdB b vall j vs vi vl vo va, skR vs (K ++ [odI a]), ndR va ns], hw'.sort (by repeat constructor), Ext.refl _ _, rfl, .inl ⟨hr.1, rfl, j, hjl, hr.2, rfl⟩⟩
     | exact fun w' hw' => ⟨I, [rdB b vall (j + 1) vs3 vi vl vo va3, skR vs3 (K ++ [odI ns.length]), ndR va3 (ns ++ [_])], hw'.sort (by repeat constructor), Ext.refl _ _, rfl, .inr ⟨_, hr.1, rfl, j + 1, vs3, va3, _, by omega, by omega, hr.2, ⟨Ws.nil _, Ws.nil _⟩, by rw [f1]; rfl, rfl⟩⟩
    have f2 := h2
    try simp only [bl] at f2
    have h3 : j < L.length ∧ (tkAt L j).kind = 1 ∧ n ≤ 20 := by
      simp at h2
      exact ⟨h2.1.1, h2.1.2, by omega⟩
    obtain ⟨hn0, hn1, _⟩ := hgood hA h3.1 h3.2.1
    have hr := expo_some he hj h3.1 h3.2.1 (hn1 h3.2.2)
    rw [Int.toNat_of_nonneg hn0] at hr
    refine cK (tC (cS (cR ?_)))
    iterate 2 refine oV ?_
    refine oF 1 Tryz.underlying66 Tryz.sizeOf3 ?_
    refine oL Tryz.isAgg3 ?_
    first | (refine o_add trivial rfl rfl rfl ?_ ?_; (omega)) | refine oV ?_
    refine oV ?_
    refine oF 1 Tryz.underlying66 Tryz.sizeOf3 ?_
    refine oS Tryz.sizeOf3 ?_
    refine oN (tC (cS (cR ?_)))
    iterate 2 refine oV ?_
    refine oC trivial rfl Tryz.call158 rfl (rdNumber_any b (j + 1) vall vs vi vl vo va a K (by omega)) (by repeat constructor) ?_
    rintro _ _ _ hx4 ⟨rfl, rfl, vs2, rfl⟩
    iterate 2 refine oV ?_
    first | (refine o_mul trivial rfl rfl rfl ?_ ?_; (omega)) | refine oV ?_
    refine o_buildS trivial rfl (bld44) rfl (.cons rfl rfl rfl (by repeat constructor) (.cons rfl rfl rfl (by repeat constructor) (.cons rfl rfl rfl (by repeat constructor) .nil))) ?_
    refine oC trivial rfl Tryz.call159 rfl (hnode ⟨powN a (_ * n), .slice none 0 0, .slice none 0 0⟩ vs2 va ⟨Ws.nil _, Ws.nil _⟩ (j + 1)) (by repeat constructor) ?_
    rintro _ _ _ hx5 ⟨rfl, rfl, vs3, va3, rfl⟩
    refine oN (tC (cS (cR ?_)))
    refine oV ?_
    refine oN (tC (cT ?_))
    refine ret1 rfl rfl ?_
    first
    | exact fun w' hw' => ⟨I, [rdB b vall j vs vi vl vo va, skR vs (K ++ [odI a]), ndR va ns], hw'.sort (by repeat constructor), Ext.refl _ _, rfl, .inl ⟨hr.1, rfl, j, hjl, hr.2, rfl⟩⟩
    | exact fun w' hw' => ⟨I, [rdB b vall (j + 1) vs3 vi vl vo va3, skR vs3 (K ++ [odI ns.length]), ndR va3 (ns ++ [_])], hw'.sort (by repeat constructor), Ext.refl _ _, rfl, .inr ⟨_, hr.1, rfl, j + 1, vs3, va3, _, by omega, by omega, hr.2, ⟨Ws.nil _, Ws.nil _⟩, by rw [f1]; rfl, rfl⟩⟩
   refine cR ?_
   iterate 2 refine oV ?_
   refine' o_or trivial trivial rfl rfl rfl rfl rfl rfl rfl rfl (fun hb23 => ?_) ?_
   rotate_left
   ·
    have fb23 := hb23
    try simp only [bl] at fb23
    refine oX (T := 3) (off := 0) (wS rfl rfl hb23) rfl Tryz.underlying68 rfl rfl rfl Tryz.sizeOf3 rfl rfl ?_
    refine o_load1 (wS rfl rfl hb23) rfl Tryz.isAgg3 rfl (by repeat constructor) (by repeat constructor) ?_
    refine o_pv (wS rfl rfl hb23) rfl rfl ?_
    refine oN ?_
    exact joins rfl
   refine' o_or trivial trivial rfl rfl rfl rfl rfl rfl rfl rfl (fun hb28 => ?_) ?_
   rotate_left
   ·
    refine o_pv (wS rfl rfl hb28) rfl rfl ?_
    refine o_bin (v := .bool true) (wS rfl rfl hb28) rfl rfl rfl (fun w => by kernel_rfl) ?_
    refine oN ?_
    exact joins rfl
   refine' o_or trivial trivial rfl rfl rfl rfl rfl rfl rfl rfl (fun hb32 => ?_) ?_
   rotate_left
   ·
    iterate 2 refine o_pv (wS rfl rfl hb32) rfl rfl ?_
    refine oN ?_
    exact joins rfl
   refine oN (tC ?_)
   refine cC rfl (fun h2 => ?_) (fun h2 => ?_)
   ·
    have f2 := h2
    try simp only [bl] at f2
    have hr := expo_none he hj (hbad hA)
    refine cS (cR ?_)
    refine oV ?_
    refine oN (tC (cT (tR ?_)))
    refine ret1 rfl rfl ?_
    exact fun w' hw' => ⟨I, [rdB b vall j vs vi vl vo va, skR vs (K ++ [odI a]), ndR va ns], hw'.sort (by repeat constructor), Ext.refl _ _, rfl, .inl ⟨hr.1, rfl, j, hjl, hr.2, rfl⟩⟩
   have f2 := h2
   try simp only [bl] at f2
   exfalso; rw [Bool.or_true, Bool.true_or] at h2; cases h2
  have f1 := h1
  try simp only [bl] at f1
  refine cK (tC (cS ?_))
  rw [← hj]
  refine cR ?_
  refine oV ?_
  refine oC trivial rfl Tryz.call41 rfl (rdNext_any b j vall vs vi vl vo va L hL) (by repeat constructor) ?_
  rintro _ _ _ hx2 ⟨rfl, rfl, rfl⟩
  iterate 3 refine oV ?_
  refine o_alloc trivial rfl Tryz.zeroValue68 rfl (fun b4 => ?_)
  refine oS Tryz.sizeOf68 ?_
  refine oV ?_
  refine oN (tC (cS (cR ?_)))
  refine oF 1 Tryz.underlying68 Tryz.sizeOf9 ?_
  refine oL Tryz.isAgg9 ?_
  refine o_call0 trivial rfl Tryz.call168 rfl (atoi_any _ hE (by have := hs.at_ j; omega)) ?_
  rintro _ ⟨n, er, rfl, hA⟩
  iterate 5 refine oV ?_
  refine oN (tC (cS (cS ?_)))
  rcases hA with ⟨hA, rfl⟩ | ⟨hA, N, rfl⟩
  ·
   refine cR ?_
   iterate 2 refine oV ?_
   refine' o_or trivial trivial rfl rfl rfl rfl rfl rfl rfl rfl (fun hb23 => ?_) ?_
   rotate_left
   ·
    have fb23 := hb23
    try simp only [bl] at fb23
    refine oX (T := 3) (off := 0) (wS rfl rfl hb23) rfl Tryz.underlying68 rfl rfl rfl Tryz.sizeOf3 rfl rfl ?_
    refine o_load1 (wS rfl rfl hb23) rfl Tryz.isAgg3 rfl (by repeat constructor) (by repeat constructor) ?_
    refine o_pv (wS rfl rfl hb23) rfl rfl ?_
    refine oN ?_
    exact joins rfl
   refine' o_or trivial trivial rfl rfl rfl rfl rfl rfl rfl rfl (fun hb28 => ?_) ?_
   rotate_left
   ·
    refine o_pv (wS rfl rfl hb28) rfl rfl ?_
    refine o_bin (v := .bool false) (wS rfl rfl hb28) rfl rfl rfl (fun w => by kernel_rfl) ?_
    refine oN ?_
    exact joins rfl
   refine' o_or trivial trivial rfl rfl rfl rfl rfl rfl rfl rfl (fun hb32 => ?_) ?_
   rotate_left
   ·
    iterate 2 refine o_pv (wS rfl rfl hb32) rfl rfl ?_
    refine oN ?_
    exact joins rfl
   refine oN (tC ?_)
   refine cC rfl (fun h2 => ?_) (fun h2 => ?_)
   ·
    have f2 := h2
    try simp only [bl] at f2
    have h3 : expoZ (tkAt L j).text = none ∨ ¬ (j < L.length ∧ (tkAt L j).kind = 1) := by
      by_cases hc : j < L.length ∧ (tkAt L j).kind = 1
      · left
        refine (hgood hA hc.1 hc.2).2.2 ?_
        rw [decide_eq_true hc.1, hc.2] at h2
        simpa using h2
      · exact .inr hc
    have hr := expo_none he hj (fun k1 k2 => h3.elim id fun h => absurd ⟨k1, k2⟩ h)
    refine cS (cR ?_)
    refine oV ?_
    refine oN (tC (cT (tR ?_)))
    refine ret1 rfl rfl ?_
    first
    | exact fun w' hw' => ⟨I, [rdB b vall j vs vi vl vo va, skR vs (K ++ [odI a]), ndR va ns], hw'.sort (by repeat constructor), Ext.refl _ _, rfl, .inl ⟨hr.1, rfl, j, hjl, hr.2, rfl⟩⟩
    | exact fun w' hw' => ⟨I, [rdB b vall (j + 1) vs3 vi vl vo va3, skR vs3 (K ++ [odI ns.length]), ndR va3 (ns ++ [_])], hw'.sort (by repeat constructor), Ext.refl _ _, rfl, .inr ⟨_, hr.1, rfl, j + 1, vs3, va3, _, by omega, by omega, hr.2, ⟨Ws.nil _, Ws.nil _⟩, by rw [f1]; rfl, rfl⟩⟩
   have f2 := h2
   try simp only [bl] at f2
   have h3 : j < L.length ∧ (tkAt L j).kind = 1 ∧ n ≤ 20 := by
     simp at h2
     exact ⟨h2.1.1, h2.1.2, by omega⟩
   obtain ⟨hn0, hn1, _⟩ := hgood hA h3.1 h3.2.1
   have hr := expo_some he hj h3.1 h3.2.1 (hn1 h3.2.2)
   rw [Int.toNat_of_nonneg hn0] at hr
   refine cK (tC (cS (cR ?_)))
   iterate 2 refine oV ?_
   refine oF 1 Tryz.underlying66 Tryz.sizeOf3 ?_
   refine oL Tryz.isAgg3 ?_
   first | (refine o_add trivial rfl rfl rfl ?_ ?_; (omega)) | refine oV ?_
   refine oV ?_
   refine oF 1 Tryz.underlying66 Tryz.sizeOf3 ?_
   refine oS Tryz.sizeOf3 ?_
   refine oN (tC (cS (cR ?_)))
   iterate 2 refine oV ?_
   refine oC trivial rfl Tryz.call158 rfl (rdNumber_any b (j + 1) vall vs vi vl vo va a K (by omega)) (by repeat constructor) ?_
   rintro _ _ _ hx4 ⟨rfl, rfl, vs2, rfl⟩
   iterate 2 refine oV ?_
   first | (refine o_mul trivial rfl rfl rfl ?_ ?_; (omega)) | refine oV ?_
   refine o_buildS trivial rfl (bld44) rfl (.cons rfl rfl rfl (by repeat constructor) (.cons rfl rfl rfl (by repeat constructor) (.cons rfl rfl rfl (by repeat constructor) .nil))) ?_
   refine oC trivial rfl Tryz.call159 rfl (hnode ⟨powN a (_ * n), .slice none 0 0, .slice none 0 0⟩ vs2 va ⟨Ws.nil _, Ws.nil _⟩ (j + 1)) (by repeat constructor) ?_
   rintro _ _ _ hx5 ⟨rfl, rfl, vs3, va3, rfl⟩
   refine oN (tC (cS (cR ?_)))
   refine oV ?_
   refine oN (tC (cT ?_))
   refine ret1 rfl rfl ?_
   first
   | exact fun w' hw' => ⟨I, [rdB b vall j vs vi vl vo va, skR vs (K ++ [odI a]), ndR va ns], hw'.sort (by repeat constructor), Ext.refl _ _, rfl, .inl ⟨hr.1, rfl, j, hjl, hr.2, rfl⟩⟩
   | exact fun w' hw' => ⟨I, [rdB b vall (j + 1) vs3 vi vl vo va3, skR vs3 (K ++ [odI ns.length]), ndR va3 (ns ++ [_])], hw'.sort (by repeat constructor), Ext.refl _ _, rfl, .inr ⟨_, hr.1, rfl, j + 1, vs3, va3, _, by omega, by omega, hr.2, ⟨Ws.nil _, Ws.nil _⟩, by rw [f1]; rfl, rfl⟩⟩
  refine cR ?_
  iterate 2 refine oV ?_
  refine' o_or trivial trivial rfl rfl rfl rfl rfl rfl rfl rfl (fun hb23 => ?_) ?_
  rotate_left
  ·
   have fb23 := hb23
   try simp only [bl] at fb23
   refine oX (T := 3) (off := 0) (wS rfl rfl hb23) rfl Tryz.underlying68 rfl rfl rfl Tryz.sizeOf3 rfl rfl ?_
   refine o_load1 (wS rfl rfl hb23) rfl Tryz.isAgg3 rfl (by repeat constructor) (by repeat constructor) ?_
   refine o_pv (wS rfl rfl hb23) rfl rfl ?_
   refine oN ?_
   exact joins rfl
  refine' o_or trivial trivial rfl rfl rfl rfl rfl rfl rfl rfl (fun hb28 => ?_) ?_
  rotate_left
  ·
   refine o_pv (wS rfl rfl hb28) rfl rfl ?_
   refine o_bin (v := .bool true) (wS rfl rfl hb28) rfl rfl rfl (fun w => by kernel_rfl) ?_
   refine oN ?_
   exact joins rfl
  refine' o_or trivial trivial rfl rfl rfl rfl rfl rfl rfl rfl (fun hb32 => ?_) ?_
  rotate_left
  ·
   iterate 2 refine o_pv (wS rfl rfl hb32) rfl rfl ?_
   refine oN ?_
   exact joins rfl
  refine oN (tC ?_)
  refine cC rfl (fun h2 => ?_) (fun h2 => ?_)
  ·
   have f2 := h2
   try simp only [bl] at f2
   have hr := expo_none he hj (hbad hA)
   refine cS (cR ?_)
   refine oV ?_
   refine oN (tC (cT (tR ?_)))
   refine ret1 rfl rfl ?_
   exact fun w' hw' => ⟨I, [rdB b vall j vs vi vl vo va, skR vs (K ++ [odI a]), ndR va ns], hw'.sort (by repeat constructor), Ext.refl _ _, rfl, .inl ⟨hr.1, rfl, j, hjl, hr.2, rfl⟩⟩
  have f2 := h2
  try simp only [bl] at f2
  exfalso; rw [Bool.or_true, Bool.true_or] at h2; cases h2
theorem rdExpo_u (b i : Nat) (vall vs vi vl vo va : Value) (a : Int) (ns : List NodeV) (K : List Value) (L : List Tok) {I : Hp} (hE : Errs I) (hL : Slc I 4 vall (L.map Tok.cells)) (hn : L.length ≤ 10000) (hs : TkSmall L) (hto : ToksOk L) (hK : K.length ≤ 90000) (hns : ns.length ≤ 90000) (hi : i ≤ L.length) {e : Option Int} {r1 : List Tok} (he : Expo (L.drop i) e r1) :
    Fun Tryz.prog 155 [.pointer (some ⟨b, 0, none⟩)] I [rdB b vall i vs vi vl vo va, skR vs (K ++ [odI a]), ndR va ns]
    (fun v I' B' => I = I' ∧ ∃ ok i' vs' va' ns' Kv, v = .bool ok ∧ B' = [rdB b vall i' vs' vi vl vo va', skR vs' Kv, ndR va' ns'] ∧ i' ≤ L.length ∧ (ok = false → e = none ∧ r1 = L.drop i') ∧
      (ok = true → ∃ z c, e = some z ∧ r1 = L.drop i' ∧ i < i' ∧ c.ok I ∧ c.c = powN a z ∧ Kv = K ++ [odI ns.length] ∧ ns' = ns ++ [c])) :=
  fun_mono (rdExpo_any b i vall vs vi vl vo va a ns K L hE hL hn hs hto hK hns hi he) fun v I' B' h => by
    rcases h with ⟨rfl, ⟨h1, rfl, i', h2, h3, rfl⟩ | ⟨z, h1, rfl, i', vs', va', c, h2, h3, h4, h5, h6, rfl⟩⟩
    · exact ⟨rfl, _, i', _, _, _, _, rfl, rfl, h2, fun _ => ⟨h1, h3⟩, fun h => by cases h⟩
    · exact ⟨rfl, _, i', _, _, _, _, rfl, rfl, h3, fun h => (by cases h), fun _ => ⟨z, c, h1, h4, h2, h5, h6, rfl, rfl⟩⟩
theorem rdAtom_yes (b i : Nat) (vall vs vi vl vo va : Value) (ns : List NodeV) (K : List Value) (L : List Tok) {I : Hp} (hM : Mx I) (hL : Slc I 4 vall (L.map Tok.cells)) (hn : L.length ≤ 10000) (hs : TkSmall L) (hto : ToksOk L) (hK : K.length ≤ 90000) (hns : ns.length ≤ 90000) (hlt : i < L.length) (hlf : leafT (tkAt L i) = true) :
    Fun Tryz.prog 154 [.pointer (some ⟨b, 0, none⟩)] I [rdB b vall i vs vi vl vo va, skR vs K, ndR va ns]
    (fun v I' B' => v = .bool true ∧ ∃ vs' va' c, c.ok I' ∧ c.c = leafN (tkAt L i) ∧ B' = [rdB b vall (i + 1) vs' vi vl vo va', skR vs' (K ++ [odI ns.length]), ndR va' (ns ++ [c])]) :=
  fun_mono (rdAtom_any b i vall vs vi vl vo va ns K L hM hL hn hs hto hK hns) fun v I' B' h => by
    rcases h with ⟨h1, h2, h3, h4⟩ | ⟨h1, _, _, h2⟩
    · rw [h4 hlt] at hlf; cases hlf
    · exact ⟨h1, h2⟩
theorem rdAtom_no (b i : Nat) (vall vs vi vl vo va : Value) (ns : List NodeV) (K : List Value) (L : List Tok) {I : Hp} (hM : Mx I) (hL : Slc I 4 vall (L.map Tok.cells)) (hn : L.length ≤ 10000) (hs : TkSmall L) (hto : ToksOk L) (hK : K.length ≤ 90000) (hns : ns.length ≤ 90000) (hlf : ¬ (i < L.length ∧ leafT (tkAt L i) = true)) :
    Fun Tryz.prog 154 [.pointer (some ⟨b, 0, none⟩)] I [rdB b vall i vs vi vl vo va, skR vs K, ndR va ns]
    (fun v I' B' => I = I' ∧ v = .bool false ∧ B' = [rdB b vall i vs vi vl vo va, skR vs K, ndR va ns]) :=
  fun_mono (rdAtom_any b i vall vs vi vl vo va ns K L hM hL hn hs hto hK hns) fun v I' B' h => by
    rcases h with ⟨h1, h2, h3, h4⟩ | ⟨h1, h2, h3, _⟩
    · exact ⟨h2, h1, h3⟩
    · exact absurd ⟨h2, h3⟩ hlf
structure Rd (L : List Tok) (I : Hp) (i' : Nat) (ns' : List NodeV) (Kv : List Value) (K' : List Fr) : Prop where
  kv : Kv = stk K' ++ [odI (lastN ns')]
  fr : FrOk K'
  ok : ∀ o ∈ ns', o.ok I
  pos : 1 ≤ ns'.length
  few : ns'.length + K'.length ≤ i'
theorem run_minus {L : List Tok} {K : List Fr} {all : List NodeC} {i : Nat} {o : POut} (h : RunE K all (L.drop i) o) (hm : hdT (L.drop i) 2 minusS = true) : RunE (.neg :: K) all (L.drop (i + 1)) o := by
  have hi := hdT_lt hm
  rw [drop_cons hi] at h hm
  exact h.minus hm
theorem run_lpar {L : List Tok} {K : List Fr} {all : List NodeC} {i : Nat} {o : POut} (h : RunE K all (L.drop i) o) (hm : hdT (L.drop i) 2 lpar = true) : RunE (.br :: K) all (L.drop (i + 1)) o := by
  have hi := hdT_lt hm
  rw [drop_cons hi] at h hm
  exact h.bracket hm
theorem run_leaf {L : List Tok} {K : List Fr} {all : List NodeC} {i : Nat} {o : POut} (h : RunE K all (L.drop i) o) (h0 : hdT (L.drop i) 2 minusS = false) (h1 : hdT (L.drop i) 2 lpar = false) (hlt : i < L.length) (hl : leafT (tkAt L i) = true) : RunA K (all ++ [leafN (tkAt L i)]) (L.drop (i + 1)) o := by
  rw [drop_cons hlt] at h h0 h1
  have := h.leaf h0 h1
  rwa [if_pos hl] at this
theorem run_noleaf {L : List Tok} {K : List Fr} {all : List NodeC} {i : Nat} {o : POut} (h : RunE K all (L.drop i) o) (h0 : hdT (L.drop i) 2 minusS = false) (h1 : hdT (L.drop i) 2 lpar = false) (hl : ¬ (i < L.length ∧ leafT (tkAt L i) = true)) : o = .bad (L.drop i) := by
  by_cases hlt : i < L.length
  · rw [drop_cons hlt] at h h0 h1 ⊢
    have := h.leaf h0 h1
    rwa [if_neg (fun e => hl ⟨hlt, e⟩)] at this
  · rw [List.drop_eq_nil_of_le (by omega)] at h ⊢
    exact h.nil
theorem rdOpen_any (b i : Nat) (vall vs vi vl vo va : Value) (ns : List NodeV) (K : List Fr) (L : List Tok) {I : Hp} (hM : Mx I) (hL : Slc I 4 vall (L.map Tok.cells)) (hn : L.length ≤ 10000) (hs : TkSmall L) (hto : ToksOk L) (hK : FrOk K) (hok : ∀ o ∈ ns, o.ok I) (hb : ns.length + K.length ≤ i) (hi : i ≤ L.length) {o : POut} (h : RunE K (ns.map NodeV.c) (L.drop i) o) :
    Fun Tryz.prog 131 [.pointer (some ⟨b, 0, none⟩)] I [rdB b vall i vs vi vl vo va, skR vs (stk K), ndR va ns]
    (fun v I' B' => ∃ ok i' vs' va' ns' Kv, v = .bool ok ∧ B' = [rdB b vall i' vs' vi vl vo va', skR vs' Kv, ndR va' ns'] ∧ i' ≤ L.length ∧ (ok = false → o = .bad (L.drop i')) ∧ (ok = true → ∃ K', Rd L I' i' ns' Kv K' ∧ RunA K' (ns'.map NodeV.c) (L.drop i') o ∧ i < i')) := by
  intro w hw
  refine enter1 _ Tryz.func131 rfl Tryz.ntmps131 rfl ?_ hw
  refine cS (cR ?_)
  refine oV ?_
  refine oN (tC (cB ?_))
  refine c_loop (ι := Nat × List Fr × Value) [0] (.cons rfl .nil) (fun x => L.length - x.1) (fun x E0 => E0) (fun x => St w (keysOf [rdB b vall i vs vi vl vo va, skR vs (stk K), ndR va ns]) I [rdB b vall x.1 x.2.2 vi vl vo va, skR x.2.2 (stk x.2.1), ndR va ns]) (fun x => x.1 ≤ L.length ∧ FrOk x.2.1 ∧ ns.length + x.2.1.length ≤ x.1 ∧ RunE x.2.1 (ns.map NodeV.c) (L.drop x.1) o ∧ i ≤ x.1) ((i, K, vs)) (sC rfl sN) (fun _ h => h) (⟨hi, hK, hb, h, Nat.le_refl _⟩) ?_
  rintro ⟨j, K1, us⟩ ⟨hj, hK1, hb1, hr, hij⟩
  try dsimp only
  simp only at hj hK1 hb1 hr hij; have hst := stk_len K1
  refine cB (cB (cS (cR ?_)))
  refine oV ?_
  refine oC trivial rfl Tryz.call102 rfl (rdMark_any b j vall us vi vl vo va minusS L hL (by omega)) (by repeat constructor) ?_
  rintro _ _ _ hx1 ⟨rfl, rfl, rfl⟩
  refine oV ?_
  refine oN (tC ?_)
  refine cC rfl (fun h1 => ?_) (fun h1 => ?_)
  ·
   have f1 := h1
   try simp only [bl] at f1
   have hm : hdT (L.drop j) 2 minusS = true := h1
   rw [adv_true hm]
   have hlt := hdT_lt hm
   refine cR ?_
   refine oV ?_
   refine o_buildS trivial rfl (bld162) rfl (.cons rfl rfl rfl (by repeat constructor) (.cons rfl rfl rfl (by repeat constructor) .nil)) ?_
   refine o_ifaceS trivial rfl rfl (fun w => by kernel_rfl) ?_
   refine oC trivial rfl Tryz.call135 rfl (push_any b (j + 1) vall us vi vl vo va (opV 6 3 false) 162 (stk K1) (by omega)) (by repeat constructor) ?_
   rintro _ _ _ hx2 ⟨rfl, rfl, us2, rfl⟩
   refine oN (blk_n (blk_n ?_))
   first
   | exact again (j + 1, .neg :: K1, us2) (sC rfl sN) (fun _ h => h.sort (by repeat constructor)) (by show L.length - (j + 1) < L.length - j; omega) ⟨by show j + 1 ≤ _; omega, hK1, by show ns.length + (K1.length + 1) ≤ j + 1; omega, run_minus hr hm, by show i ≤ j + 1; omega⟩
   | exact again (j + 1, .br :: K1, us2) (sC rfl sN) (fun _ h => h.sort (by repeat constructor)) (by show L.length - (j + 1) < L.length - j; omega) ⟨by show j + 1 ≤ _; omega, hK1, by show ns.length + (K1.length + 1) ≤ j + 1; omega, run_lpar hr hq, by show i ≤ j + 1; omega⟩
  have f1 := h1
  try simp only [bl] at f1
  have hm : hdT (L.drop j) 2 minusS = false := h1
  rw [adv_false hm]
  refine cS (cR ?_)
  refine oV ?_
  refine oC trivial rfl Tryz.call102 rfl (rdMark_any b j vall us vi vl vo va lpar L hL (by omega)) (by repeat constructor) ?_
  rintro _ _ _ hx1 ⟨rfl, rfl, rfl⟩
  refine oV ?_
  refine oN (tC ?_)
  refine cC rfl (fun h2 => ?_) (fun h2 => ?_)
  ·
   have f2 := h2
   try simp only [bl] at f2
   have hq : hdT (L.drop j) 2 lpar = true := h2
   rw [adv_true hq]
   have hlt := hdT_lt hq
   refine cR ?_
   refine oV ?_
   refine o_buildS trivial rfl (bld162) rfl (.cons rfl rfl rfl (by repeat constructor) .nil) ?_
   refine o_ifaceS trivial rfl rfl (fun w => by kernel_rfl) ?_
   refine oC trivial rfl Tryz.call135 rfl (push_any b (j + 1) vall us vi vl vo va (opV 0 0 true) 162 (stk K1) (by omega)) (by repeat constructor) ?_
   rintro _ _ _ hx2 ⟨rfl, rfl, us2, rfl⟩
   refine oN (blk_n (blk_n ?_))
   first
   | exact again (j + 1, .neg :: K1, us2) (sC rfl sN) (fun _ h => h.sort (by repeat constructor)) (by show L.length - (j + 1) < L.length - j; omega) ⟨by show j + 1 ≤ _; omega, hK1, by show ns.length + (K1.length + 1) ≤ j + 1; omega, run_minus hr hm, by show i ≤ j + 1; omega⟩
   | exact again (j + 1, .br :: K1, us2) (sC rfl sN) (fun _ h => h.sort (by repeat constructor)) (by show L.length - (j + 1) < L.length - j; omega) ⟨by show j + 1 ≤ _; omega, hK1, by show ns.length + (K1.length + 1) ≤ j + 1; omega, run_lpar hr hq, by show i ≤ j + 1; omega⟩
  have f2 := h2
  try simp only [bl] at f2
  have hq : hdT (L.drop j) 2 lpar = false := h2
  rw [adv_false hq]
  refine cS ?_
  by_cases hlf : j < L.length ∧ leafT (tkAt L j) = true
  ·
   refine cR ?_
   refine oV ?_
   refine oC trivial rfl Tryz.call154 rfl (rdAtom_yes b j vall us vi vl vo va ns (stk K1) L hM hL hn hs hto (by omega) (by omega) hlf.1 hlf.2) (by repeat constructor) ?_
   rintro _ I3 _ hx3 ⟨rfl, us3, va3, c3, hc3, hcc, rfl⟩
   refine oV ?_
   refine oN (tC (cT (blk_r (blk_r (tR (blk_r ?_))))))
   refine ret1 rfl rfl ?_
   refine fun w' hw' => ⟨I3, _, hw'.sort (by repeat constructor), hx3, true, j + 1, us3, va3, ns ++ [c3], _, rfl, rfl, hlf.1, fun h => (by cases h), fun _ => ⟨K1, ⟨by rw [lastN_more], hK1, ?_, by simp, by rw [List.length_append]; show ns.length + 1 + K1.length ≤ j + 1; omega⟩, ?_, by omega⟩⟩
   · intro o ho
     rcases List.mem_append.1 ho with ho | ho
     · exact (hok o ho).le hx3.le
     · rw [List.mem_singleton.1 ho]; exact hc3
   · rw [List.map_append]
     show RunA K1 (ns.map NodeV.c ++ [c3.c]) _ _
     rw [hcc]
     exact run_leaf hr hm hq hlf.1 hlf.2
  refine cR ?_
  refine oV ?_
  refine oC trivial rfl Tryz.call154 rfl (rdAtom_no b j vall us vi vl vo va ns (stk K1) L hM hL hn hs hto (by omega) (by omega) hlf) (by repeat constructor) ?_
  rintro _ _ _ hx3 ⟨rfl, rfl, rfl⟩
  refine oV ?_
  refine oN (tC (cT (blk_r (blk_r (tR (blk_r ?_))))))
  refine ret1 rfl rfl ?_
  exact fun w' hw' => ⟨I, [rdB b vall j us vi vl vo va, skR us (stk K1), ndR va ns], hw'.sort (by repeat constructor), Ext.refl _ _, false, j, us, va, ns, _, rfl, rfl, hj, fun _ => run_noleaf hr hm hq hlf, fun h => by cases h⟩
theorem run_nocaret {L : List Tok} {K : List Fr} {all : List NodeC} {i : Nat} {o : POut} (h : RunA K all (L.drop i) o) (hm : hdT (L.drop i) 2 caret = false) : RunM K true all (L.drop i) o := h.none hm
theorem run_caret {L : List Tok} {K : List Fr} {all : List NodeC} {i : Nat} {o : POut} {e : Option Int} {r1 : List Tok} (h : RunA K all (L.drop i) o) (hm : hdT (L.drop i) 2 caret = true) (he : Expo (L.drop (i + 1)) e r1) : match e with
    | some e => RunM K true (all ++ [powN (lastI all) e]) r1 o
    | none => o = .bad r1 := by
  have hi := hdT_lt hm
  rw [drop_cons hi] at h hm
  cases e <;> exact h.caret hm he
theorem run_shut {L : List Tok} {K : List Fr} {all : List NodeC} {i : Nat} {o : POut} (hK : FrOk K) (h : RunM K true all (L.drop i) o) (hm : hdT (L.drop i) 2 rpar = true) : match (foldK 0 K all).1 with
    | .br :: K' => RunA K' (foldK 0 K all).2 (L.drop (i + 1)) o
    | _ => o = .bad (L.drop i) := by
  have hi := hdT_lt hm
  rw [drop_cons hi] at h hm ⊢
  exact h.shut hK hm
theorem frOk_br {K : List Fr} (h : FrOk (.br :: K)) : FrOk K := h
theorem rdShut_any (b i : Nat) (vall vs vi vl vo va : Value) (ns : List NodeV) (K : List Fr) (L : List Tok) {I : Hp} (hE : Errs I) (hL : Slc I 4 vall (L.map Tok.cells)) (hn : L.length ≤ 10000) (hs : TkSmall L) (hto : ToksOk L) (hK : FrOk K) (hok : ∀ o ∈ ns, o.ok I) (h1 : 1 ≤ ns.length) (hb : ns.length + K.length ≤ i) (hi : i ≤ L.length) {o : POut} (h : RunA K (ns.map NodeV.c) (L.drop i) o) :
    Fun Tryz.prog 132 [.pointer (some ⟨b, 0, none⟩)] I [rdB b vall i vs vi vl vo va, skR vs (stk K ++ [odI (lastN ns)]), ndR va ns]
    (fun v I' B' => I = I' ∧ ∃ ok i' vs' va' ns' Kv, v = .bool ok ∧ B' = [rdB b vall i' vs' vi vl vo va', skR vs' Kv, ndR va' ns'] ∧ i' ≤ L.length ∧ (ok = false → o = .bad (L.drop i')) ∧ (ok = true → ∃ K', Rd L I i' ns' Kv K' ∧ RunM K' true (ns'.map NodeV.c) (L.drop i') o ∧ hdT (L.drop i') 2 rpar = false ∧ i ≤ i')) := by
  intro w hw
  refine enter1 _ Tryz.func132 rfl Tryz.ntmps132 rfl ?_ hw
  refine cS (cR ?_)
  refine oV ?_
  refine oN (tC (cB ?_))
  refine c_loop (ι := Nat × List Fr × List NodeV × Value × Value) [0] (.cons rfl .nil) (fun x => L.length - x.1) (fun x E0 => E0) (fun x => St w (keysOf [rdB b vall i vs vi vl vo va, skR vs (stk K ++ [odI (lastN ns)]), ndR va ns]) I [rdB b vall x.1 x.2.2.2.1 vi vl vo x.2.2.2.2, skR x.2.2.2.1 (stk x.2.1 ++ [odI (lastN x.2.2.1)]), ndR x.2.2.2.2 x.2.2.1]) (fun x => x.1 ≤ L.length ∧ FrOk x.2.1 ∧ (∀ o ∈ x.2.2.1, o.ok I) ∧ 1 ≤ x.2.2.1.length ∧ x.2.2.1.length + x.2.1.length ≤ x.1 ∧ RunA x.2.1 (x.2.2.1.map NodeV.c) (L.drop x.1) o ∧ i ≤ x.1) ((i, K, ns, vs, va)) (sC rfl sN) (fun _ h => h) (⟨hi, hK, hok, h1, hb, h, Nat.le_refl _⟩) ?_
  rintro ⟨j, K1, n0, us, ua⟩ ⟨hj, hK1, hok0, hn0, hb0, hr, hij⟩
  try dsimp only
  simp only at hj hK1 hok0 hn0 hb0 hr hij; have hst := stk_len K1
  refine cB (cS (cS (cR ?_)))
  refine oV ?_
  refine oC trivial rfl Tryz.call102 rfl (rdMark_any b j vall us vi vl vo ua caret L hL (by omega)) (by repeat constructor) ?_
  rintro _ _ _ hx1 ⟨rfl, rfl, rfl⟩
  refine o_fork trivial rfl rfl (fun hb10 => ?_) (fun hb10 => ?_)
  ·
   have fb10 := hb10
   try simp only [bl] at fb10
   have hm : hdT (L.drop j) 2 caret = true := hb10
   rw [adv_true hm]
   have hlt := hdT_lt hm
   obtain ⟨e, r1, he⟩ := Expo.some_out (L.drop (j + 1))
   have hce := run_caret hr hm he
   refine o_pv (wS rfl rfl rfl) rfl rfl ?_
   refine oC (wS rfl rfl rfl) rfl Tryz.call155 rfl (rdExpo_u b (j + 1) vall us vi vl vo ua (lastN n0) n0 (stk K1) L hE hL hn hs hto (by omega) (by omega) (by omega) he) (by repeat constructor) ?_
   rintro _ _ _ hx2 ⟨rfl, ok, j1, us1, ua1, n1, Kv, rfl, rfl, hj1, hno, hyes⟩
   refine o_pv (wS rfl rfl rfl) rfl rfl ?_
   refine oV ?_
   refine oN (tC ?_)
   refine cC rfl (fun h1 => ?_) (fun h1 => ?_)
   ·
    have f1 := h1
    try simp only [bl] at f1
    have hk : ok = false := by simpa using f1
    obtain ⟨rfl, rfl⟩ := hno hk
    refine cS (cR ?_)
    refine oV ?_
    refine oN (tC (cT (tR (blk_r (tR (blk_r ?_))))))
    refine ret1 rfl rfl ?_
    first
    | exact fun w' hw' => ⟨I, _, hw'.sort (by repeat constructor), Ext.refl _ _, rfl, false, j1, us1, ua1, n1, Kv, rfl, rfl, hj1, fun _ => hce, fun h => by cases h⟩
    | exact fun w' hw' => ⟨I, [rdB b vall j1 us2 vi vl vo ua2, skR us2 (stk K2 ++ [odI (lastN n2)]), ndR ua2 n2], hw'.sort (by repeat constructor), Ext.refl _ _, rfl, true, j1, us2, ua2, n2, _, rfl, rfl, hj1, fun h => (by cases h), fun _ => ⟨K2, ⟨rfl, hK2, hok2, hn2, by omega⟩, hM2, hp, hij1⟩⟩
    | exact fun w' hw' => ⟨I, [rdB b vall j1 us3 vi vl vo ua3, skR us3 (stk [] ++ [odI (lastN n3)]), ndR ua3 n3], hw'.sort (by repeat constructor), Ext.refl _ _, rfl, false, j1, us3, ua3, n3, _, rfl, rfl, hj1, fun _ => hsh, fun h => by cases h⟩
    | exact fun w' hw' => ⟨I, [rdB b vall j1 us3 vi vl vo ua3, skR us3 (stk K4 ++ preF f ++ [opI (opK f) (opP f) (opB f)] ++ [odI (lastN n3)]), ndR ua3 n3], hw'.sort (by repeat constructor), Ext.refl _ _, rfl, false, j1, us3, ua3, n3, _, rfl, rfl, hj1, fun _ => hfin, fun h => by cases h⟩
   have f1 := h1
   try simp only [bl] at f1
   have hk : ok = true := by simpa using f1
   obtain ⟨z, c, rfl, rfl, hlt1, hc1, hc2, rfl, rfl⟩ := hyes hk
   have hok1 : ∀ o ∈ n0 ++ [c], o.ok I := fun o ho => by
     rcases List.mem_append.1 ho with ho | ho
     · exact hok0 o ho
     · rw [List.mem_singleton.1 ho]; exact hc1
   have hM : RunM K1 true ((n0 ++ [c]).map NodeV.c) (L.drop j1) o := by rw [List.map_append]; show RunM K1 true (n0.map NodeV.c ++ [c.c]) _ _; rw [hc2, lastN_eq]; exact hce
   have hln : (n0 ++ [c]).length = n0.length + 1 := by simp
   rw [← lastN_more n0 c]
   have hij1 : i ≤ j1 := by omega
   have hb1 : (n0 ++ [c]).length + K1.length ≤ j1 := by omega
   have hn1 : 1 ≤ (n0 ++ [c]).length := by omega
   have hjj : j ≤ j1 := by omega
   generalize n0 ++ [c] = n1 at hok1 hM hb1 hn1 ⊢
   refine cK (tC (cS (cR ?_)))
   refine oV ?_
   refine oC trivial rfl Tryz.call134 rfl (fold_any b j1 vall us1 vi vl vo ua1 3 n1 K1 hK1 hok1 (by omega) hn1) (by repeat constructor) ?_
   rintro _ _ _ hx3 ⟨rfl, rfl, us2, ua2, n2, rfl, hc2, hok2, hn2, hb2⟩
   refine oN (tC (cS ?_))
   have hM2 := RunM.fold (b := 3) (.inl rfl) hK1 hM
   have hK2 := foldK_ok (b := 3) (all := n1.map NodeV.c) hK1
   rw [← hc2] at hM2
   generalize (foldK 3 K1 (n1.map NodeV.c)).1 = K2 at hM2 hK2 hb2 ⊢
   refine cR ?_
   refine oV ?_
   refine oC trivial rfl Tryz.call41 rfl (rdNext_any b j1 vall us2 vi vl vo ua2 L hL) (by repeat constructor) ?_
   rintro _ _ _ hx4 ⟨rfl, rfl, rfl⟩
   iterate 3 refine oV ?_
   refine o_alloc trivial rfl Tryz.zeroValue68 rfl (fun b3 => ?_)
   refine oS Tryz.sizeOf68 ?_
   refine oV ?_
   refine oN (tC (cS (cS (cR ?_))))
   refine oF 0 Tryz.underlying68 Tryz.sizeOf3 ?_
   refine oL Tryz.isAgg3 ?_
   refine oV ?_
   refine' o_or trivial trivial rfl rfl rfl rfl rfl rfl rfl rfl (fun hb25 => ?_) ?_
   rotate_left
   ·
    have fb25 := hb25
    try simp only [bl] at fb25
    refine oX (T := 9) (off := 1) (wS rfl rfl hb25) rfl Tryz.underlying68 rfl rfl rfl Tryz.sizeOf9 rfl rfl ?_
    refine o_load1 (wS rfl rfl hb25) rfl Tryz.isAgg9 rfl (by repeat constructor) (by repeat constructor) ?_
    refine o_pv (wS rfl rfl hb25) rfl rfl ?_
    refine oN ?_
    exact joins rfl
   refine oN (tC ?_)
   refine cC rfl (fun h2 => ?_) (fun h2 => ?_)
   ·
    have f2 := h2
    try simp only [bl] at f2
    have hp : hdT (L.drop j1) 2 rpar = false := by
      rw [hdT_at]
      unfold isT
      rw [Bool.and_eq_false_iff]
      right
      exact or2_t h2
    refine cS (cR ?_)
    refine oV ?_
    refine oN (tC (cT (tR (blk_r (tR (blk_r ?_))))))
    refine ret1 rfl rfl ?_
    first
    | exact fun w' hw' => ⟨I, _, hw'.sort (by repeat constructor), Ext.refl _ _, rfl, false, j1, us1, ua1, n1, Kv, rfl, rfl, hj1, fun _ => hce, fun h => by cases h⟩
    | exact fun w' hw' => ⟨I, [rdB b vall j1 us2 vi vl vo ua2, skR us2 (stk K2 ++ [odI (lastN n2)]), ndR ua2 n2], hw'.sort (by repeat constructor), Ext.refl _ _, rfl, true, j1, us2, ua2, n2, _, rfl, rfl, hj1, fun h => (by cases h), fun _ => ⟨K2, ⟨rfl, hK2, hok2, hn2, by omega⟩, hM2, hp, hij1⟩⟩
    | exact fun w' hw' => ⟨I, [rdB b vall j1 us3 vi vl vo ua3, skR us3 (stk [] ++ [odI (lastN n3)]), ndR ua3 n3], hw'.sort (by repeat constructor), Ext.refl _ _, rfl, false, j1, us3, ua3, n3, _, rfl, rfl, hj1, fun _ => hsh, fun h => by cases h⟩
    | exact fun w' hw' => ⟨I, [rdB b vall j1 us3 vi vl vo ua3, skR us3 (stk K4 ++ preF f ++ [opI (opK f) (opP f) (opB f)] ++ [odI (lastN n3)]), ndR ua3 n3], hw'.sort (by repeat constructor), Ext.refl _ _, rfl, false, j1, us3, ua3, n3, _, rfl, rfl, hj1, fun _ => hfin, fun h => by cases h⟩
   have f2 := h2
   try simp only [bl] at f2
   have hp0 : isT (tkAt L j1) 2 rpar = true := or2_f h2
   have hlt1 : j1 < L.length := by
     rcases Nat.lt_or_ge j1 L.length with hh | hh
     · exact hh
     · rw [tkAt_out hh] at hp0
       exact absurd hp0 (by decide)
   have hp : hdT (L.drop j1) 2 rpar = true := by rw [hdT_at, decide_eq_true hlt1, hp0]; rfl
   have hsh := run_shut hK2 hM2 hp
   refine cK (tC (cS (cR ?_)))
   refine oV ?_
   refine oC trivial rfl Tryz.call134 rfl (fold_any b j1 vall us2 vi vl vo ua2 0 n2 K2 hK2 hok2 (by omega) hn2) (by repeat constructor) ?_
   rintro _ _ _ hx5 ⟨rfl, rfl, us3, ua3, n3, rfl, hc3, hok3, hn3, hb3⟩
   refine oN (tC (cS (cS ?_)))
   have hK3 := foldK_ok (b := 0) (all := n2.map NodeV.c) hK2
   rw [← hc3] at hsh
   generalize (foldK 0 K2 (n2.map NodeV.c)).1 = K3 at hsh hK3 hb3 ⊢
   rcases K3 with _ | ⟨f, K4⟩
   ·
    refine cR ?_
    refine oV ?_
    refine oC trivial rfl Tryz.call156 rfl (top_low b j1 vall us3 vi vl vo ua3 (stk [] ++ [odI (lastN n3)]) (Nat.le_refl 1)) (by repeat constructor) ?_
    rintro _ _ _ hx6 ⟨rfl, rfl, rfl⟩
    iterate 3 refine oV ?_
    refine o_alloc trivial rfl Tryz.zeroValue162 rfl (fun b5 => ?_)
    refine oS Tryz.sizeOf162 ?_
    refine oV ?_
    refine oN (tC (cS (cR ?_)))
    iterate 2 refine oV ?_
    refine' o_or trivial trivial rfl rfl rfl rfl rfl rfl rfl rfl (fun hb39 => ?_) ?_
    rotate_left
    ·
     have fb39 := hb39
     try simp only [bl] at fb39
     refine oX (T := 4) (off := 2) (wS rfl rfl hb39) rfl Tryz.underlying162 rfl rfl rfl Tryz.sizeOf4 rfl rfl ?_
     refine o_load1 (wS rfl rfl hb39) rfl Tryz.isAgg4 rfl (by repeat constructor) (by repeat constructor) ?_
     refine o_pv (wS rfl rfl hb39) rfl rfl ?_
     refine oN ?_
     exact joins rfl
    refine oN (tC ?_)
    refine c_cond_t rfl (by rfl) ?_
    refine cS (cR ?_)
    refine oV ?_
    refine oN (tC (cT (tR (blk_r (tR (blk_r ?_))))))
    refine ret1 rfl rfl ?_
    first
    | exact fun w' hw' => ⟨I, _, hw'.sort (by repeat constructor), Ext.refl _ _, rfl, false, j1, us1, ua1, n1, Kv, rfl, rfl, hj1, fun _ => hce, fun h => by cases h⟩
    | exact fun w' hw' => ⟨I, [rdB b vall j1 us2 vi vl vo ua2, skR us2 (stk K2 ++ [odI (lastN n2)]), ndR ua2 n2], hw'.sort (by repeat constructor), Ext.refl _ _, rfl, true, j1, us2, ua2, n2, _, rfl, rfl, hj1, fun h => (by cases h), fun _ => ⟨K2, ⟨rfl, hK2, hok2, hn2, by omega⟩, hM2, hp, hij1⟩⟩
    | exact fun w' hw' => ⟨I, [rdB b vall j1 us3 vi vl vo ua3, skR us3 (stk [] ++ [odI (lastN n3)]), ndR ua3 n3], hw'.sort (by repeat constructor), Ext.refl _ _, rfl, false, j1, us3, ua3, n3, _, rfl, rfl, hj1, fun _ => hsh, fun h => by cases h⟩
    | exact fun w' hw' => ⟨I, [rdB b vall j1 us3 vi vl vo ua3, skR us3 (stk K4 ++ preF f ++ [opI (opK f) (opP f) (opB f)] ++ [odI (lastN n3)]), ndR ua3 n3], hw'.sort (by repeat constructor), Ext.refl _ _, rfl, false, j1, us3, ua3, n3, _, rfl, rfl, hj1, fun _ => hfin, fun h => by cases h⟩
   rw [stk_top]
   have hst4 := stk_len K4
   have hpf := preF_len f
   simp only [List.length_cons] at hb3
   have hsl : (stk K4 ++ preF f).length ≤ 80000 := by rw [List.length_append]; omega
   have hsl2 : (stk K4 ++ preF f ++ [opI (opK f) (opP f) (opB f)]).length ≤ 80001 := by rw [List.length_append]; exact Nat.succ_le_succ hsl
   refine cR ?_
   refine oV ?_
   refine oC trivial rfl Tryz.call156 rfl (top_op b j1 vall us3 vi vl vo ua3 (odI (lastN n3)) (opK f) (opP f) (opB f) (stk K4 ++ preF f) (by omega)) (by repeat constructor) ?_
   rintro _ _ _ hx6 ⟨rfl, rfl, rfl⟩
   iterate 3 refine oV ?_
   refine o_alloc trivial rfl Tryz.zeroValue162 rfl (fun b5 => ?_)
   refine oS Tryz.sizeOf162 ?_
   refine oV ?_
   refine oN (tC (cS (cR ?_)))
   iterate 2 refine oV ?_
   refine' o_or trivial trivial rfl rfl rfl rfl rfl rfl rfl rfl (fun hb39 => ?_) ?_
   rotate_left
   ·
    have fb39 := hb39
    try simp only [bl] at fb39
    refine oX (T := 4) (off := 2) (wS rfl rfl hb39) rfl Tryz.underlying162 rfl rfl rfl Tryz.sizeOf4 rfl rfl ?_
    refine o_load1 (wS rfl rfl hb39) rfl Tryz.isAgg4 rfl (by repeat constructor) (by repeat constructor) ?_
    refine o_pv (wS rfl rfl hb39) rfl rfl ?_
    refine oN ?_
    exact joins rfl
   refine oN (tC ?_)
   refine cC rfl (fun h3 => ?_) (fun h3 => ?_)
   ·
    have f3 := h3
    try simp only [bl] at f3
    have hbr : opB f = false := by simpa [bl] using h3
    have hfin : o = .bad (L.drop j1) := by
      cases f with
      | br => cases hbr
      | neg => exact hsh
      | bin k a => exact hsh
    refine cS (cR ?_)
    refine oV ?_
    refine oN (tC (cT (tR (blk_r (tR (blk_r ?_))))))
    refine ret1 rfl rfl ?_
    first
    | exact fun w' hw' => ⟨I, _, hw'.sort (by repeat constructor), Ext.refl _ _, rfl, false, j1, us1, ua1, n1, Kv, rfl, rfl, hj1, fun _ => hce, fun h => by cases h⟩
    | exact fun w' hw' => ⟨I, [rdB b vall j1 us2 vi vl vo ua2, skR us2 (stk K2 ++ [odI (lastN n2)]), ndR ua2 n2], hw'.sort (by repeat constructor), Ext.refl _ _, rfl, true, j1, us2, ua2, n2, _, rfl, rfl, hj1, fun h => (by cases h), fun _ => ⟨K2, ⟨rfl, hK2, hok2, hn2, by omega⟩, hM2, hp, hij1⟩⟩
    | exact fun w' hw' => ⟨I, [rdB b vall j1 us3 vi vl vo ua3, skR us3 (stk [] ++ [odI (lastN n3)]), ndR ua3 n3], hw'.sort (by repeat constructor), Ext.refl _ _, rfl, false, j1, us3, ua3, n3, _, rfl, rfl, hj1, fun _ => hsh, fun h => by cases h⟩
    | exact fun w' hw' => ⟨I, [rdB b vall j1 us3 vi vl vo ua3, skR us3 (stk K4 ++ preF f ++ [opI (opK f) (opP f) (opB f)] ++ [odI (lastN n3)]), ndR ua3 n3], hw'.sort (by repeat constructor), Ext.refl _ _, rfl, false, j1, us3, ua3, n3, _, rfl, rfl, hj1, fun _ => hfin, fun h => by cases h⟩
   have f3 := h3
   try simp only [bl] at f3
   have hbr : opB f = true := by simpa [bl] using h3
   have hfb : f = .br := by
     cases f with
     | br => rfl
     | neg => cases hbr
     | bin k a => cases hbr
   subst hfb
   refine cK (tC (cS (cR ?_)))
   iterate 2 refine oV ?_
   refine oF 1 Tryz.underlying66 Tryz.sizeOf3 ?_
   refine oL Tryz.isAgg3 ?_
   first | (refine o_add trivial rfl rfl rfl ?_ ?_; (omega)) | refine oV ?_
   refine oV ?_
   refine oF 1 Tryz.underlying66 Tryz.sizeOf3 ?_
   refine oS Tryz.sizeOf3 ?_
   refine oN (tC (cS (cR ?_)))
   refine oV ?_
   refine oC trivial rfl Tryz.call157 rfl (pop_any b (j1 + 1) vall us3 vi vl vo ua3 (odI (lastN n3)) (stk K4 ++ preF .br ++ [opI (opK .br) (opP .br) (opB .br)]) (by omega)) (by repeat constructor) ?_
   rintro _ _ _ hx7 ⟨rfl, rfl, us4, rfl⟩
   refine oV ?_
   refine oN (tC (cS (cR ?_)))
   refine oV ?_
   refine oC trivial rfl Tryz.call157 rfl (pop_any b (j1 + 1) vall us4 vi vl vo ua3 (opI (opK .br) (opP .br) (opB .br)) (stk K4 ++ preF .br) (by omega)) (by repeat constructor) ?_
   rintro _ _ _ hx8 ⟨rfl, rfl, us5, rfl⟩
   refine oN (tC (cR ?_))
   iterate 2 refine oV ?_
   refine oC trivial rfl Tryz.call135 rfl (push_any b (j1 + 1) vall us5 vi vl vo ua3 (.int .i64 (lastN n3)) 194 (stk K4 ++ preF .br) (by omega)) (by repeat constructor) ?_
   rintro _ _ _ hx9 ⟨rfl, rfl, us6, rfl⟩
   refine oN (blk_n ?_)
   exact again (j1 + 1, K4, n3, us6, ua3) (sC rfl sN) (fun _ h => by simp only [preF, List.append_nil] at h; exact h.sort (by repeat constructor)) (by first | (show L.length - (j1 + 1) < L.length - j; omega) | (show L.length - (j1 + 1) < L.length - j1; omega)) ⟨by show j1 + 1 ≤ _; omega, frOk_br hK3, hok3, hn3, by show n3.length + K4.length ≤ j1 + 1; omega, hsh, by show i ≤ j1 + 1; omega⟩
  have fb10 := hb10
  try simp only [bl] at fb10
  have hm : hdT (L.drop j) 2 caret = false := hb10
  rw [adv_false hm]
  have hM : RunM K1 true (n0.map NodeV.c) (L.drop j) o := run_nocaret hr hm
  obtain ⟨j1, rfl⟩ : ∃ j1, j1 = j := ⟨j, rfl⟩
  obtain ⟨us1, rfl⟩ : ∃ us1, us1 = us := ⟨us, rfl⟩
  obtain ⟨ua1, rfl⟩ : ∃ ua1, ua1 = ua := ⟨ua, rfl⟩
  obtain ⟨n1, rfl⟩ : ∃ n1, n1 = n0 := ⟨n0, rfl⟩
  have hok1 := hok0
  have hb1 := hb0
  have hn1 := hn0
  have hj1 := hj
  have hij1 : i ≤ j1 := hij
  iterate 3 refine o_skip (skips_some rfl rfl rfl) rfl ?_
  refine oV ?_
  refine oN (tC ?_)
  refine c_cond_f rfl rfl ?_
  refine cK (tC (cS (cR ?_)))
  refine oV ?_
  refine oC trivial rfl Tryz.call134 rfl (fold_any b j1 vall us1 vi vl vo ua1 3 n1 K1 hK1 hok1 (by omega) hn1) (by repeat constructor) ?_
  rintro _ _ _ hx3 ⟨rfl, rfl, us2, ua2, n2, rfl, hc2, hok2, hn2, hb2⟩
  refine oN (tC (cS ?_))
  have hM2 := RunM.fold (b := 3) (.inl rfl) hK1 hM
  have hK2 := foldK_ok (b := 3) (all := n1.map NodeV.c) hK1
  rw [← hc2] at hM2
  generalize (foldK 3 K1 (n1.map NodeV.c)).1 = K2 at hM2 hK2 hb2 ⊢
  refine cR ?_
  refine oV ?_
  refine oC trivial rfl Tryz.call41 rfl (rdNext_any b j1 vall us2 vi vl vo ua2 L hL) (by repeat constructor) ?_
  rintro _ _ _ hx4 ⟨rfl, rfl, rfl⟩
  iterate 3 refine oV ?_
  refine o_alloc trivial rfl Tryz.zeroValue68 rfl (fun b3 => ?_)
  refine oS Tryz.sizeOf68 ?_
  refine oV ?_
  refine oN (tC (cS (cS (cR ?_))))
  refine oF 0 Tryz.underlying68 Tryz.sizeOf3 ?_
  refine oL Tryz.isAgg3 ?_
  refine oV ?_
  refine' o_or trivial trivial rfl rfl rfl rfl rfl rfl rfl rfl (fun hb25 => ?_) ?_
  rotate_left
  ·
   have fb25 := hb25
   try simp only [bl] at fb25
   refine oX (T := 9) (off := 1) (wS rfl rfl hb25) rfl Tryz.underlying68 rfl rfl rfl Tryz.sizeOf9 rfl rfl ?_
   refine o_load1 (wS rfl rfl hb25) rfl Tryz.isAgg9 rfl (by repeat constructor) (by repeat constructor) ?_
   refine o_pv (wS rfl rfl hb25) rfl rfl ?_
   refine oN ?_
   exact joins rfl
  refine oN (tC ?_)
  refine cC rfl (fun h2 => ?_) (fun h2 => ?_)
  ·
   have f2 := h2
   try simp only [bl] at f2
   have hp : hdT (L.drop j1) 2 rpar = false := by
     rw [hdT_at]
     unfold isT
     rw [Bool.and_eq_false_iff]
     right
     exact or2_t h2
   refine cS (cR ?_)
   refine oV ?_
   refine oN (tC (cT (tR (blk_r (tR (blk_r ?_))))))
   refine ret1 rfl rfl ?_
   first
   | exact fun w' hw' => ⟨I, _, hw'.sort (by repeat constructor), Ext.refl _ _, rfl, false, j1, us1, ua1, n1, Kv, rfl, rfl, hj1, fun _ => hce, fun h => by cases h⟩
   | exact fun w' hw' => ⟨I, [rdB b vall j1 us2 vi vl vo ua2, skR us2 (stk K2 ++ [odI (lastN n2)]), ndR ua2 n2], hw'.sort (by repeat constructor), Ext.refl _ _, rfl, true, j1, us2, ua2, n2, _, rfl, rfl, hj1, fun h => (by cases h), fun _ => ⟨K2, ⟨rfl, hK2, hok2, hn2, by omega⟩, hM2, hp, hij1⟩⟩
   | exact fun w' hw' => ⟨I, [rdB b vall j1 us3 vi vl vo ua3, skR us3 (stk [] ++ [odI (lastN n3)]), ndR ua3 n3], hw'.sort (by repeat constructor), Ext.refl _ _, rfl, false, j1, us3, ua3, n3, _, rfl, rfl, hj1, fun _ => hsh, fun h => by cases h⟩
   | exact fun w' hw' => ⟨I, [rdB b vall j1 us3 vi vl vo ua3, skR us3 (stk K4 ++ preF f ++ [opI (opK f) (opP f) (opB f)] ++ [odI (lastN n3)]), ndR ua3 n3], hw'.sort (by repeat constructor), Ext.refl _ _, rfl, false, j1, us3, ua3, n3, _, rfl, rfl, hj1, fun _ => hfin, fun h => by cases h⟩
  have f2 := h2
  try simp only [bl] at f2
  have hp0 : isT (tkAt L j1) 2 rpar = true := or2_f h2
  have hlt1 : j1 < L.length := by
    rcases Nat.lt_or_ge j1 L.length with hh | hh
    · exact hh
    · rw [tkAt_out hh] at hp0
      exact absurd hp0 (by decide)
  have hp : hdT (L.drop j1) 2 rpar = true := by rw [hdT_at, decide_eq_true hlt1, hp0]; rfl
  have hsh := run_shut hK2 hM2 hp
  refine cK (tC (cS (cR ?_)))
  refine oV ?_
  refine oC trivial rfl Tryz.call134 rfl (fold_any b j1 vall us2 vi vl vo ua2 0 n2 K2 hK2 hok2 (by omega) hn2) (by repeat constructor) ?_
  rintro _ _ _ hx5 ⟨rfl, rfl, us3, ua3, n3, rfl, hc3, hok3, hn3, hb3⟩
  refine oN (tC (cS (cS ?_)))
  have hK3 := foldK_ok (b := 0) (all := n2.map NodeV.c) hK2
  rw [← hc3] at hsh
  generalize (foldK 0 K2 (n2.map NodeV.c)).1 = K3 at hsh hK3 hb3 ⊢
  rcases K3 with _ | ⟨f, K4⟩
  ·
   refine cR ?_
   refine oV ?_
   refine oC trivial rfl Tryz.call156 rfl (top_low b j1 vall us3 vi vl vo ua3 (stk [] ++ [odI (lastN n3)]) (Nat.le_refl 1)) (by repeat constructor) ?_
   rintro _ _ _ hx6 ⟨rfl, rfl, rfl⟩
   iterate 3 refine oV ?_
   refine o_alloc trivial rfl Tryz.zeroValue162 rfl (fun b5 => ?_)
   refine oS Tryz.sizeOf162 ?_
   refine oV ?_
   refine oN (tC (cS (cR ?_)))
   iterate 2 refine oV ?_
   refine' o_or trivial trivial rfl rfl rfl rfl rfl rfl rfl rfl (fun hb39 => ?_) ?_
   rotate_left
   ·
    have fb39 := hb39
    try simp only [bl] at fb39
    refine oX (T := 4) (off := 2) (wS rfl rfl hb39) rfl Tryz.underlying162 rfl rfl rfl Tryz.sizeOf4 rfl rfl ?_
    refine o_load1 (wS rfl rfl hb39) rfl Tryz.isAgg4 rfl (by repeat constructor) (by repeat constructor) ?_
    refine o_pv (wS rfl rfl hb39) rfl rfl ?_
    refine oN ?_
    exact joins rfl
   refine oN (tC ?_)
   refine c_cond_t rfl (by rfl) ?_
   refine cS (cR ?_)
   refine oV ?_
   refine oN (tC (cT (tR (blk_r (tR (blk_r ?_))))))
   refine ret1 rfl rfl ?_
   first
   | exact fun w' hw' => ⟨I, _, hw'.sort (by repeat constructor), Ext.refl _ _, rfl, false, j1, us1, ua1, n1, Kv, rfl, rfl, hj1, fun _ => hce, fun h => by cases h⟩
   | exact fun w' hw' => ⟨I, [rdB b vall j1 us2 vi vl vo ua2, skR us2 (stk K2 ++ [odI (lastN n2)]), ndR ua2 n2], hw'.sort (by repeat constructor), Ext.refl _ _, rfl, true, j1, us2, ua2, n2, _, rfl, rfl, hj1, fun h => (by cases h), fun _ => ⟨K2, ⟨rfl, hK2, hok2, hn2, by omega⟩, hM2, hp, hij1⟩⟩
   | exact fun w' hw' => ⟨I, [rdB b vall j1 us3 vi vl vo ua3, skR us3 (stk [] ++ [odI (lastN n3)]), ndR ua3 n3], hw'.sort (by repeat constructor), Ext.refl _ _, rfl, false, j1, us3, ua3, n3, _, rfl, rfl, hj1, fun _ => hsh, fun h => by cases h⟩
   | exact fun w' hw' => ⟨I, [rdB b vall j1 us3 vi vl vo ua3, skR us3 (stk K4 ++ preF f ++ [opI (opK f) (opP f) (opB f)] ++ [odI (lastN n3)]), ndR ua3 n3], hw'.sort (by repeat constructor), Ext.refl _ _, rfl, false, j1, us3, ua3, n3, _, rfl, rfl, hj1, fun _ => hfin, fun h => by cases h⟩
  rw [stk_top]
  have hst4 := stk_len K4
  have hpf := preF_len f
  simp only [List.length_cons] at hb3
  have hsl : (stk K4 ++ preF f).length ≤ 80000 := by rw [List.length_append]; omega
  have hsl2 : (stk K4 ++ preF f ++ [opI (opK f) (opP f) (opB f)]).length ≤ 80001 := by rw [List.length_append]; exact Nat.succ_le_succ hsl
  refine cR ?_
  refine oV ?_
  refine oC trivial rfl Tryz.call156 rfl (top_op b j1 vall us3 vi vl vo ua3 (odI (lastN n3)) (opK f) (opP f) (opB f) (stk K4 ++ preF f) (by omega)) (by repeat constructor) ?_
  rintro _ _ _ hx6 ⟨rfl, rfl, rfl⟩
  iterate 3 refine oV ?_
  refine o_alloc trivial rfl Tryz.zeroValue162 rfl (fun b5 => ?_)
  refine oS Tryz.sizeOf162 ?_
  refine oV ?_
  refine oN (tC (cS (cR ?_)))
  iterate 2 refine oV ?_
  refine' o_or trivial trivial rfl rfl rfl rfl rfl rfl rfl rfl (fun hb39 => ?_) ?_
  rotate_left
  ·
   have fb39 := hb39
   try simp only [bl] at fb39
   refine oX (T := 4) (off := 2) (wS rfl rfl hb39) rfl Tryz.underlying162 rfl rfl rfl Tryz.sizeOf4 rfl rfl ?_
   refine o_load1 (wS rfl rfl hb39) rfl Tryz.isAgg4 rfl (by repeat constructor) (by repeat constructor) ?_
   refine o_pv (wS rfl rfl hb39) rfl rfl ?_
   refine oN ?_
   exact joins rfl
  refine oN (tC ?_)
  refine cC rfl (fun h3 => ?_) (fun h3 => ?_)
  ·
   have f3 := h3
   try simp only [bl] at f3
   have hbr : opB f = false := by simpa [bl] using h3
   have hfin : o = .bad (L.drop j1) := by
     cases f with
     | br => cases hbr
     | neg => exact hsh
     | bin k a => exact hsh
   refine cS (cR ?_)
   refine oV ?_
   refine oN (tC (cT (tR (blk_r (tR (blk_r ?_))))))
   refine ret1 rfl rfl ?_
   first
   | exact fun w' hw' => ⟨I, _, hw'.sort (by repeat constructor), Ext.refl _ _, rfl, false, j1, us1, ua1, n1, Kv, rfl, rfl, hj1, fun _ => hce, fun h => by cases h⟩
   | exact fun w' hw' => ⟨I, [rdB b vall j1 us2 vi vl vo ua2, skR us2 (stk K2 ++ [odI (lastN n2)]), ndR ua2 n2], hw'.sort (by repeat constructor), Ext.refl _ _, rfl, true, j1, us2, ua2, n2, _, rfl, rfl, hj1, fun h => (by cases h), fun _ => ⟨K2, ⟨rfl, hK2, hok2, hn2, by omega⟩, hM2, hp, hij1⟩⟩
   | exact fun w' hw' => ⟨I, [rdB b vall j1 us3 vi vl vo ua3, skR us3 (stk [] ++ [odI (lastN n3)]), ndR ua3 n3], hw'.sort (by repeat constructor), Ext.refl _ _, rfl, false, j1, us3, ua3, n3, _, rfl, rfl, hj1, fun _ => hsh, fun h => by cases h⟩
   | exact fun w' hw' => ⟨I, [rdB b vall j1 us3 vi vl vo ua3, skR us3 (stk K4 ++ preF f ++ [opI (opK f) (opP f) (opB f)] ++ [odI (lastN n3)]), ndR ua3 n3], hw'.sort (by repeat constructor), Ext.refl _ _, rfl, false, j1, us3, ua3, n3, _, rfl, rfl, hj1, fun _ => hfin, fun h => by cases h⟩
  have f3 := h3
  try simp only [bl] at f3
  have hbr : opB f = true := by simpa [bl] using h3
  have hfb : f = .br := by
    cases f with
    | br => rfl
    | neg => cases hbr
    | bin k a => cases hbr
  subst hfb
  refine cK (tC (cS (cR ?_)))
  iterate 2 refine oV ?_
  refine oF 1 Tryz.underlying66 Tryz.sizeOf3 ?_
  refine oL Tryz.isAgg3 ?_
  first | (refine o_add trivial rfl rfl rfl ?_ ?_; (omega)) | refine oV ?_
  refine oV ?_
  refine oF 1 Tryz.underlying66 Tryz.sizeOf3 ?_
  refine oS Tryz.sizeOf3 ?_
  refine oN (tC (cS (cR ?_)))
  refine oV ?_
  refine oC trivial rfl Tryz.call157 rfl (pop_any b (j1 + 1) vall us3 vi vl vo ua3 (odI (lastN n3)) (stk K4 ++ preF .br ++ [opI (opK .br) (opP .br) (opB .br)]) (by omega)) (by repeat constructor) ?_
  rintro _ _ _ hx7 ⟨rfl, rfl, us4, rfl⟩
  refine oV ?_
  refine oN (tC (cS (cR ?_)))
  refine oV ?_
  refine oC trivial rfl Tryz.call157 rfl (pop_any b (j1 + 1) vall us4 vi vl vo ua3 (opI (opK .br) (opP .br) (opB .br)) (stk K4 ++ preF .br) (by omega)) (by repeat constructor) ?_
  rintro _ _ _ hx8 ⟨rfl, rfl, us5, rfl⟩
  refine oN (tC (cR ?_))
  iterate 2 refine oV ?_
  refine oC trivial rfl Tryz.call135 rfl (push_any b (j1 + 1) vall us5 vi vl vo ua3 (.int .i64 (lastN n3)) 194 (stk K4 ++ preF .br) (by omega)) (by repeat constructor) ?_
  rintro _ _ _ hx9 ⟨rfl, rfl, us6, rfl⟩
  refine oN (blk_n ?_)
  exact again (j1 + 1, K4, n3, us6, ua3) (sC rfl sN) (fun _ h => by simp only [preF, List.append_nil] at h; exact h.sort (by repeat constructor)) (by first | (show L.length - (j1 + 1) < L.length - j; omega) | (show L.length - (j1 + 1) < L.length - j1; omega)) ⟨by show j1 + 1 ≤ _; omega, frOk_br hK3, hok3, hn3, by show n3.length + K4.length ≤ j1 + 1; omega, hsh, by show i ≤ j1 + 1; omega⟩
def signK (s : ByteArray) : Int := if s.toList == plusS.toList then 2 else if s.toList == minusS.toList then 3 else if s.toList == starS.toList then 4 else if s.toList == slashS.toList then 5 else 0
theorem sign_none {x : Tok} (h : x.kind ≠ 2 ∨ signK x.text = 0) : mulK x = none ∧ addK x = none := by
  unfold mulK addK isT
  rcases h with h | h
  · have e : (x.kind == 2) = false := by simpa using h
    rw [e]
    exact ⟨rfl, rfl⟩
  · unfold signK at h
    split at h
    · omega
    · rename_i h1
      split at h
      · omega
      · rename_i h2
        split at h
        · omega
        · rename_i h3
          split at h
          · omega
          · rename_i h4
            rw [Bool.not_eq_true] at h1 h2 h3 h4
            rw [h1, h2, h3, h4, Bool.and_false]
            exact ⟨rfl, rfl⟩
theorem sign_some {x : Tok} (hk : x.kind = 2) (h : signK x.text ≠ 0) : (mulK x = some (signK x.text) ∧ bindK (signK x.text) = 2) ∨ (addK x = some (signK x.text) ∧ bindK (signK x.text) = 1) := by
  have e : (x.kind == 2) = true := by simpa using hk
  have hsk : ∀ {a b : ByteArray}, a.toList ≠ b.toList → (x.text.toList == a.toList) = true → (x.text.toList == b.toList) = false := fun {a b} hab h1 => by
    rw [beq_iff_eq] at h1
    rw [beq_eq_false_iff_ne, h1]
    exact hab
  have d1 : plusS.toList ≠ starS.toList := by rw [ByteArray.toList_eq, ByteArray.toList_eq]; decide
  have d2 : plusS.toList ≠ slashS.toList := by rw [ByteArray.toList_eq, ByteArray.toList_eq]; decide
  have d3 : minusS.toList ≠ starS.toList := by rw [ByteArray.toList_eq, ByteArray.toList_eq]; decide
  have d4 : minusS.toList ≠ slashS.toList := by rw [ByteArray.toList_eq, ByteArray.toList_eq]; decide
  unfold mulK addK isT
  rw [e]
  simp only [Bool.true_and]
  unfold signK at h ⊢
  by_cases h1 : (x.text.toList == plusS.toList) = true
  · right; rw [if_pos h1, if_pos h1]; exact ⟨rfl, by decide⟩
  · rw [if_neg h1] at h ⊢
    rw [if_neg h1]
    by_cases h2 : (x.text.toList == minusS.toList) = true
    · right; rw [if_pos h2, if_pos h2]; exact ⟨rfl, by decide⟩
    · rw [if_neg h2] at h ⊢
      by_cases h3 : (x.text.toList == starS.toList) = true
      · left; rw [if_pos h3, if_pos h3]; exact ⟨rfl, by decide⟩
      · rw [if_neg h3] at h ⊢
        rw [if_neg h3]
        by_cases h4 : (x.text.toList == slashS.toList) = true
        · left; rw [if_pos h4, if_pos h4]; exact ⟨rfl, by decide⟩
        · rw [if_neg h4] at h; exact absurd rfl h
theorem run_sign {L : List Tok} {K : List Fr} {all : List NodeC} {j : Nat} {o : POut} {k : Int} (hK : FrOk K) (h : RunM K true all (L.drop j) o) (hlt : j < L.length) (hkind : (tkAt L j).kind = 2) (hk : k = signK (tkAt L j).text) (h0 : k ≠ 0) :
    RunE (.bin k (lastI (foldK (bindK k) K all).2) :: (foldK (bindK k) K all).1) (foldK (bindK k) K all).2 (L.drop (j + 1)) o ∧ 2 ≤ k ∧ k ≤ 5 := by
  rw [drop_cons hlt] at h
  subst hk
  rcases sign_some hkind h0 with ⟨h1, h2⟩ | ⟨h1, h2⟩
  · rw [h2]; exact ⟨h.mul hK h1, mulK_le h1⟩
  · rw [h2]; exact ⟨h.add hK h1, addK_le h1⟩
theorem run_none {L : List Tok} {j : Nat} (h : ¬ (j < L.length ∧ (tkAt L j).kind = 2 ∧ signK (tkAt L j).text ≠ 0)) : hdK mulK (L.drop j) = none ∧ hdK addK (L.drop j) = none := by
  by_cases hlt : j < L.length
  · rw [drop_cons hlt]
    refine sign_none ?_
    by_cases hk : (tkAt L j).kind = 2
    · right
      by_cases hs : signK (tkAt L j).text = 0
      · exact hs
      · exact absurd ⟨hlt, hk, hs⟩ h
    · exact .inl hk
  · rw [List.drop_eq_nil_of_le (by omega)]
    exact ⟨rfl, rfl⟩
theorem stk_nil {K : List Fr} (h : (stk K).length = 0) : K = [] := by
  cases K with
  | nil => rfl
  | cons f K => cases f <;> simp [stk, encF] at h
theorem rdSum_any (b i : Nat) (vall vi vl vo va : Value) (ns : List NodeV) (L : List Tok) {I : Hp} (hM : Mx I) (hE : Errs I) (hL : Slc I 4 vall (L.map Tok.cells)) (hn : L.length ≤ 10000) (hs : TkSmall L) (hto : ToksOk L) (hok : ∀ o ∈ ns, o.ok I) (hb : ns.length ≤ i) (hi : i ≤ L.length) {o : POut} (h : RunE [] (ns.map NodeV.c) (L.drop i) o) :
    Fun Tryz.prog 103 [.pointer (some ⟨b, 0, none⟩)] I [rdB b vall i (.slice none 0 0) vi vl vo va, ndR va ns]
    (fun v I' B' => ∃ ok i' vs' va' ns', v = .bool ok ∧ B' = [rdB b vall i' vs' vi vl vo va', ndR va' ns'] ∧ i' ≤ L.length ∧ (ok = false → o = .bad (L.drop i')) ∧ (ok = true → o = .ok (ns'.map NodeV.c) (L.drop i') ∧ vs' = .slice none 0 0 ∧ (∀ o ∈ ns', o.ok I') ∧ ns'.length ≤ i' ∧ i < i')) := by
  intro w hw
  refine enter1 _ Tryz.func103 rfl Tryz.ntmps103 rfl ?_ hw
  refine cS (cR ?_)
  refine oV ?_
  refine oN (tC (cS (cB ?_)))
  refine c_loop (ι := Nat × List Fr × List NodeV × Value × Value × Hp) [0] (.cons rfl .nil) (fun x => L.length - x.1) (fun x E0 => E0) (fun x => St w (keysOf [rdB b vall i (.slice none 0 0) vi vl vo va, ndR va ns]) x.2.2.2.2.2 [rdB b vall x.1 x.2.2.2.1 vi vl vo x.2.2.2.2.1, skR x.2.2.2.1 (stk x.2.1), ndR x.2.2.2.2.1 x.2.2.1]) (fun x => x.1 ≤ L.length ∧ FrOk x.2.1 ∧ (∀ o ∈ x.2.2.1, o.ok x.2.2.2.2.2) ∧ x.2.2.1.length + x.2.1.length ≤ x.1 ∧ RunE x.2.1 (x.2.2.1.map NodeV.c) (L.drop x.1) o ∧ Ext w.heap.size I x.2.2.2.2.2 ∧ i ≤ x.1) ((i, [], ns, .slice none 0 0, va, I)) (sC rfl sN) (fun _ h => (h.nilRow 20 1).sort (by repeat constructor)) (⟨hi, trivial, hok, hb, h, Ext.refl _ _, Nat.le_refl _⟩) ?_
  rintro ⟨j, K1, n0, us, ua, I1⟩ ⟨hj, hK1, hok0, hb0, hr, hx1, hij⟩
  try dsimp only
  simp only at hj hK1 hok0 hb0 hr hx1 hij; have hst := stk_len K1
  refine cB (cS (cS (cR ?_)))
  refine oV ?_
  refine oC trivial rfl Tryz.call131 rfl (rdOpen_any b j vall us vi vl vo ua n0 K1 L (hM.le hx1.le) (hL.le hx1.le) hn hs hto hK1 hok0 hb0 hj hr) (by repeat constructor) ?_
  rintro _ I2 _ hx2 ⟨ok1, j1, us1, ua1, n1, Kv1, rfl, rfl, hj1, hno1, hyes1⟩
  refine oV ?_
  refine o_fork trivial rfl rfl (fun hb10 => ?_) (fun hb10 => ?_)
  ·
   have fb10 := hb10
   try simp only [bl] at fb10
   have hk1 : ok1 = false := by simpa using hb10
   iterate 3 refine o_skip (skips_some rfl rfl rfl) rfl ?_
   refine oV ?_
   refine oN (tC ?_)
   refine c_cond_t rfl rfl ?_
   refine cS (cR ?_)
   refine oV ?_
   refine oN (tC (cT (tR (blk_r (tR (blk_r (tR ?_)))))))
   refine ret1 rfl rfl ?_
   first
   | exact fun w' hw' => ⟨I2, [rdB b vall (j2 + 1) (.slice none 0 0) vi vl vo ua3, ndR ua3 n3], hw'.sort (by repeat constructor), hx1.trans hx2 (Nat.le_refl _), true, j2 + 1, _, ua3, n3, rfl, rfl, hlt2, fun h => (by cases h), fun _ => ⟨hfin, rfl, hok3, by omega, by omega⟩⟩
   | exact fun w' hw' => ⟨I2, [rdB b vall j2 us3 vi vl vo ua3, ndR ua3 n3], hw'.sort (by repeat constructor), hx1.trans hx2 (Nat.le_refl _), false, j2, _, ua3, n3, rfl, rfl, hj2, fun _ => hfb, fun h => by cases h⟩
   | exact fun w' hw' => ⟨I2, [rdB b vall j2 us2 vi vl vo ua2, ndR ua2 n2], hw'.sort (by repeat constructor), hx1.trans hx2 (Nat.le_refl _), false, j2, _, ua2, n2, rfl, rfl, hj2, fun _ => hno2 hk2, fun h => by cases h⟩
   | exact fun w' hw' => ⟨I2, [rdB b vall j1 us1 vi vl vo ua1, ndR ua1 n1], hw'.sort (by repeat constructor), hx1.trans hx2 (Nat.le_refl _), false, j1, _, ua1, n1, rfl, rfl, hj1, fun _ => hno1 hk1, fun h => by cases h⟩
  have fb10 := hb10
  try simp only [bl] at fb10
  have hk1 : ok1 = true := by simpa using hb10
  obtain ⟨K2, hRd, hA, hlt1⟩ := hyes1 hk1
  obtain rfl := hRd.kv
  refine o_pv (wS rfl rfl rfl) rfl rfl ?_
  refine oC (wS rfl rfl rfl) rfl Tryz.call132 rfl (rdShut_any b j1 vall us1 vi vl vo ua1 n1 K2 L (hE.le (hx1.le.trans hx2.le)) (hL.le (hx1.le.trans hx2.le)) hn hs hto hRd.fr hRd.ok hRd.pos hRd.few hj1 hA) (by repeat constructor) ?_
  rintro _ _ _ hx3 ⟨rfl, ok2, j2, us2, ua2, n2, Kv2, rfl, rfl, hj2, hno2, hyes2⟩
  refine o_pv (wS rfl rfl rfl) rfl rfl ?_
  refine oV ?_
  refine oN (tC ?_)
  refine cC rfl (fun h1 => ?_) (fun h1 => ?_)
  ·
   have f1 := h1
   try simp only [bl] at f1
   have hk2 : ok2 = false := by simpa using f1
   refine cS (cR ?_)
   refine oV ?_
   refine oN (tC (cT (tR (blk_r (tR (blk_r (tR ?_)))))))
   refine ret1 rfl rfl ?_
   first
   | exact fun w' hw' => ⟨I2, [rdB b vall (j2 + 1) (.slice none 0 0) vi vl vo ua3, ndR ua3 n3], hw'.sort (by repeat constructor), hx1.trans hx2 (Nat.le_refl _), true, j2 + 1, _, ua3, n3, rfl, rfl, hlt2, fun h => (by cases h), fun _ => ⟨hfin, rfl, hok3, by omega, by omega⟩⟩
   | exact fun w' hw' => ⟨I2, [rdB b vall j2 us3 vi vl vo ua3, ndR ua3 n3], hw'.sort (by repeat constructor), hx1.trans hx2 (Nat.le_refl _), false, j2, _, ua3, n3, rfl, rfl, hj2, fun _ => hfb, fun h => by cases h⟩
   | exact fun w' hw' => ⟨I2, [rdB b vall j2 us2 vi vl vo ua2, ndR ua2 n2], hw'.sort (by repeat constructor), hx1.trans hx2 (Nat.le_refl _), false, j2, _, ua2, n2, rfl, rfl, hj2, fun _ => hno2 hk2, fun h => by cases h⟩
   | exact fun w' hw' => ⟨I2, [rdB b vall j1 us1 vi vl vo ua1, ndR ua1 n1], hw'.sort (by repeat constructor), hx1.trans hx2 (Nat.le_refl _), false, j1, _, ua1, n1, rfl, rfl, hj1, fun _ => hno1 hk1, fun h => by cases h⟩
  have f1 := h1
  try simp only [bl] at f1
  have hk2 : ok2 = true := by simpa using f1
  obtain ⟨K3, hRd3, hM3, hp3, hj12⟩ := hyes2 hk2
  obtain rfl := hRd3.kv
  have hf3 := hRd3.few
  have hp1 := hRd3.pos
  refine cK (tC (cS (cR ?_)))
  refine oV ?_
  refine oC trivial rfl Tryz.call41 rfl (rdNext_any b j2 vall us2 vi vl vo ua2 L (hL.le (hx1.le.trans hx2.le))) (by repeat constructor) ?_
  rintro _ _ _ hx4 ⟨rfl, rfl, rfl⟩
  iterate 3 refine oV ?_
  refine o_alloc trivial rfl Tryz.zeroValue68 rfl (fun b3 => ?_)
  refine oS Tryz.sizeOf68 ?_
  refine oV ?_
  refine oN (tC (cS (cR ?_)))
  refine oF 1 Tryz.underlying68 Tryz.sizeOf9 ?_
  refine oL Tryz.isAgg9 ?_
  refine o_callI trivial rfl Tryz.call133 rfl (signs_any _) ?_
  rintro _ _ hx5 ⟨rfl, k, rfl, hk⟩
  iterate 3 refine oV ?_
  refine o_alloc trivial rfl Tryz.zeroValue162 rfl (fun b5 => ?_)
  refine oS Tryz.sizeOf162 ?_
  refine oV ?_
  refine oN (tC (cS (cS (cR ?_))))
  iterate 2 refine oV ?_
  refine' o_or trivial trivial rfl rfl rfl rfl rfl rfl rfl rfl (fun hb28 => ?_) ?_
  rotate_left
  ·
   have fb28 := hb28
   try simp only [bl] at fb28
   refine oX (T := 3) (off := 0) (wS rfl rfl hb28) rfl Tryz.underlying68 rfl rfl rfl Tryz.sizeOf3 rfl rfl ?_
   refine o_load1 (wS rfl rfl hb28) rfl Tryz.isAgg3 rfl (by repeat constructor) (by repeat constructor) ?_
   refine o_pv (wS rfl rfl hb28) rfl rfl ?_
   refine oN ?_
   exact joins rfl
  refine' o_or trivial trivial rfl rfl rfl rfl rfl rfl rfl rfl (fun hb33 => ?_) ?_
  rotate_left
  ·
   have fb33 := hb33
   try simp only [bl] at fb33
   iterate 2 refine o_pv (wS rfl rfl hb33) rfl rfl ?_
   refine oN ?_
   exact joins rfl
  refine oN (tC ?_)
  refine cC rfl (fun h2 => ?_) (fun h2 => ?_)
  ·
   have f2 := h2
   try simp only [bl] at f2
   have hnm := run_none (L := L) (j := j2) (fun hh => by
     have h3 := or3_t h2
     rw [decide_eq_true hh.1, hh.2.1, decide_eq_true (show k ≠ 0 from by rw [hk]; exact hh.2.2)] at h3
     simp at h3)
   refine c_exit (then_x (blk_ne rfl (then_x (blk_eq rfl (tC (cS (cR ?_)))))))
   refine oV ?_
   refine oC trivial rfl Tryz.call134 rfl (fold_any b j2 vall us2 vi vl vo ua2 0 n2 K3 hRd3.fr hRd3.ok (by omega) hp1) (by repeat constructor) ?_
   rintro _ _ _ hx6 ⟨rfl, rfl, us3, ua3, n3, rfl, hc3, hok3, hn3, hb3⟩
   refine oN (tC (cS (cS ?_)))
   have hfin := RunM.fin hRd3.fr hM3 hnm.1 hnm.2 hp3
   rw [← hc3] at hfin
   generalize (foldK 0 K3 (n2.map NodeV.c)).1 = K4 at hfin hb3 ⊢
   refine cR ?_
   iterate 2 refine oV ?_
   refine oF 2 Tryz.underlying66 Tryz.sizeOf64 ?_
   refine oL Tryz.isAgg64 ?_
   refine o_lenRow trivial rfl Tryz.underlying64 rfl (by repeat constructor) ?_
   refine oV ?_
   refine o_fork trivial rfl rfl (fun hb60 => ?_) (fun hb60 => ?_)
   ·
    have fb60 := hb60
    try simp only [bl] at fb60
    have hlen : (stk K4 ++ [odI (lastN n3)]).length ≠ 1 := by
      intro e; rw [e] at hb60; cases hb60
    have hfb : o = .bad (L.drop j2) := by
      rw [if_neg (fun hh => hlen (by rw [hh.1]; rfl))] at hfin
      exact hfin
    iterate 3 refine o_skip (skips_some rfl rfl rfl) rfl ?_
    refine oV ?_
    refine oN (tC ?_)
    refine c_cond_t rfl rfl ?_
    refine cS (cR ?_)
    refine oV ?_
    refine oN (tC (cT (tR ?_)))
    refine ret1 rfl rfl ?_
    first
    | exact fun w' hw' => ⟨I2, [rdB b vall (j2 + 1) (.slice none 0 0) vi vl vo ua3, ndR ua3 n3], hw'.sort (by repeat constructor), hx1.trans hx2 (Nat.le_refl _), true, j2 + 1, _, ua3, n3, rfl, rfl, hlt2, fun h => (by cases h), fun _ => ⟨hfin, rfl, hok3, by omega, by omega⟩⟩
    | exact fun w' hw' => ⟨I2, [rdB b vall j2 us3 vi vl vo ua3, ndR ua3 n3], hw'.sort (by repeat constructor), hx1.trans hx2 (Nat.le_refl _), false, j2, _, ua3, n3, rfl, rfl, hj2, fun _ => hfb, fun h => by cases h⟩
    | exact fun w' hw' => ⟨I2, [rdB b vall j2 us2 vi vl vo ua2, ndR ua2 n2], hw'.sort (by repeat constructor), hx1.trans hx2 (Nat.le_refl _), false, j2, _, ua2, n2, rfl, rfl, hj2, fun _ => hno2 hk2, fun h => by cases h⟩
    | exact fun w' hw' => ⟨I2, [rdB b vall j1 us1 vi vl vo ua1, ndR ua1 n1], hw'.sort (by repeat constructor), hx1.trans hx2 (Nat.le_refl _), false, j1, _, ua1, n1, rfl, rfl, hj1, fun _ => hno1 hk1, fun h => by cases h⟩
   have fb60 := hb60
   try simp only [bl] at fb60
   have hlen : (stk K4 ++ [odI (lastN n3)]).length = 1 := by
     have := fb60
     omega
   have hK0 : K4 = [] := stk_nil (by rw [List.length_append] at hlen; change (stk K4).length + 1 = 1 at hlen; omega)
   subst hK0
   refine o_pv (wS rfl rfl rfl) rfl rfl ?_
   refine oC (wS rfl rfl rfl) rfl Tryz.call102 rfl (rdMark_any b j2 vall us3 vi vl vo ua3 semiS L (hL.le (hx1.le.trans hx2.le)) (by omega)) (by repeat constructor) ?_
   rintro _ _ _ hx7 ⟨rfl, rfl, rfl⟩
   refine o_pv (wS rfl rfl rfl) rfl rfl ?_
   refine oV ?_
   refine oN (tC ?_)
   refine cC rfl (fun h3 => ?_) (fun h3 => ?_)
   ·
    have f3 := h3
    try simp only [bl] at f3
    have hm : hdT (L.drop j2) 2 semiS = false := by simpa using f3
    rw [adv_false hm]
    have hfb : o = .bad (L.drop j2) := by
      rw [if_neg (fun hh => by rw [hm] at hh; cases hh.2)] at hfin
      exact hfin
    refine cS (cR ?_)
    refine oV ?_
    refine oN (tC (cT (tR ?_)))
    refine ret1 rfl rfl ?_
    first
    | exact fun w' hw' => ⟨I2, [rdB b vall (j2 + 1) (.slice none 0 0) vi vl vo ua3, ndR ua3 n3], hw'.sort (by repeat constructor), hx1.trans hx2 (Nat.le_refl _), true, j2 + 1, _, ua3, n3, rfl, rfl, hlt2, fun h => (by cases h), fun _ => ⟨hfin, rfl, hok3, by omega, by omega⟩⟩
    | exact fun w' hw' => ⟨I2, [rdB b vall j2 us3 vi vl vo ua3, ndR ua3 n3], hw'.sort (by repeat constructor), hx1.trans hx2 (Nat.le_refl _), false, j2, _, ua3, n3, rfl, rfl, hj2, fun _ => hfb, fun h => by cases h⟩
    | exact fun w' hw' => ⟨I2, [rdB b vall j2 us2 vi vl vo ua2, ndR ua2 n2], hw'.sort (by repeat constructor), hx1.trans hx2 (Nat.le_refl _), false, j2, _, ua2, n2, rfl, rfl, hj2, fun _ => hno2 hk2, fun h => by cases h⟩
    | exact fun w' hw' => ⟨I2, [rdB b vall j1 us1 vi vl vo ua1, ndR ua1 n1], hw'.sort (by repeat constructor), hx1.trans hx2 (Nat.le_refl _), false, j1, _, ua1, n1, rfl, rfl, hj1, fun _ => hno1 hk1, fun h => by cases h⟩
   have f3 := h3
   try simp only [bl] at f3
   have hm : hdT (L.drop j2) 2 semiS = true := by simpa using f3
   rw [adv_true hm]
   have hlt2 := hdT_lt hm
   rw [if_pos ⟨rfl, hm⟩, List.drop_drop] at hfin
   refine cK (tC (cS (cR ?_)))
   iterate 2 refine oV ?_
   refine oF 2 Tryz.underlying66 Tryz.sizeOf64 ?_
   refine oS Tryz.sizeOf64 ?_
   refine oN (tC (cS (cR ?_)))
   refine oV ?_
   refine oN (tC (cT ?_))
   refine ret1 rfl rfl ?_
   first
   | exact fun w' hw' => ⟨I2, [rdB b vall (j2 + 1) (.slice none 0 0) vi vl vo ua3, ndR ua3 n3], hw'.sort (by repeat constructor), hx1.trans hx2 (Nat.le_refl _), true, j2 + 1, _, ua3, n3, rfl, rfl, hlt2, fun h => (by cases h), fun _ => ⟨hfin, rfl, hok3, by omega, by omega⟩⟩
   | exact fun w' hw' => ⟨I2, [rdB b vall j2 us3 vi vl vo ua3, ndR ua3 n3], hw'.sort (by repeat constructor), hx1.trans hx2 (Nat.le_refl _), false, j2, _, ua3, n3, rfl, rfl, hj2, fun _ => hfb, fun h => by cases h⟩
   | exact fun w' hw' => ⟨I2, [rdB b vall j2 us2 vi vl vo ua2, ndR ua2 n2], hw'.sort (by repeat constructor), hx1.trans hx2 (Nat.le_refl _), false, j2, _, ua2, n2, rfl, rfl, hj2, fun _ => hno2 hk2, fun h => by cases h⟩
   | exact fun w' hw' => ⟨I2, [rdB b vall j1 us1 vi vl vo ua1, ndR ua1 n1], hw'.sort (by repeat constructor), hx1.trans hx2 (Nat.le_refl _), false, j1, _, ua1, n1, rfl, rfl, hj1, fun _ => hno1 hk1, fun h => by cases h⟩
  have f2 := h2
  try simp only [bl] at f2
  have h3 := or3_f h2
  simp only [Bool.and_eq_true, decide_eq_true_eq, beq_iff_eq] at h3
  obtain ⟨h31, h32, h33⟩ := h3
  obtain ⟨hE4, hk25⟩ := run_sign hRd3.fr hM3 h31 h32 hk h33
  rw [if_neg h33]
  refine cK (tC (cS (cR ?_)))
  iterate 2 refine oV ?_
  refine oF 1 Tryz.underlying66 Tryz.sizeOf3 ?_
  refine oL Tryz.isAgg3 ?_
  first | (refine o_add trivial rfl rfl rfl ?_ ?_; (omega)) | refine oV ?_
  refine oV ?_
  refine oF 1 Tryz.underlying66 Tryz.sizeOf3 ?_
  refine oS Tryz.sizeOf3 ?_
  refine oN (tC (cS (cR ?_)))
  refine oV ?_
  refine oF 1 Tryz.underlying162 Tryz.sizeOf3 ?_
  refine oL Tryz.isAgg3 ?_
  refine oC trivial rfl Tryz.call134 rfl (fold_any b (j2 + 1) vall us2 vi vl vo ua2 (bindK k) n2 K3 hRd3.fr hRd3.ok (by omega) hp1) (by repeat constructor) ?_
  rintro _ _ _ hx6 ⟨rfl, rfl, us3, ua3, n3, rfl, hc3, hok3, hn3, hb3⟩
  refine oN (tC ?_)
  have hK4 := foldK_ok (b := bindK k) (all := n2.map NodeV.c) hRd3.fr
  rw [← hc3] at hE4
  generalize (foldK (bindK k) K3 (n2.map NodeV.c)).1 = K4 at hE4 hK4 hb3 ⊢
  have hst4 := stk_len K4
  refine cR ?_
  refine oV ?_
  refine oA Tryz.isAgg162 Tryz.sizeOf162 ?_
  refine o_ifaceS trivial rfl rfl (fun w => by kernel_rfl) ?_
  refine oC trivial rfl Tryz.call135 rfl (push_any b (j2 + 1) vall us3 vi vl vo ua3 (opV k (bindK k) false) 162 (stk K4 ++ [odI (lastN n3)]) (by rw [List.length_append]; show (stk K4).length + 1 ≤ _; omega)) (by repeat constructor) ?_
  rintro _ _ _ hx7 ⟨rfl, rfl, us4, rfl⟩
  refine oN (blk_n ?_)
  exact again (j2 + 1, .bin k (lastN n3) :: K4, n3, us4, ua3, I2) (sC rfl sN) (fun _ h => by rw [List.append_assoc] at h; exact h.sort (by repeat constructor)) (by show L.length - (j2 + 1) < L.length - j; omega) ⟨by show j2 + 1 ≤ _; omega, ⟨hk25.1, hk25.2, hK4⟩, hok3, by show n3.length + (K4.length + 1) ≤ j2 + 1; omega, by rw [← lastN_eq] at hE4; exact hE4, hx1.trans hx2 (Nat.le_refl _), by show i ≤ j2 + 1; omega⟩
theorem run_start {all : List NodeC} {r : List Tok} {o q : POut} (h : Ps .sum all r q) (ho : q.then_ o fun a2 r2 => match r2 with
      | y :: r3 => if isT y 2 semiS then o = .ok a2 r3 else o = .bad r2
      | [] => o = .bad []) : RunE [] all r o := by
  cases h with
  | sum_bad h =>
    cases h with
    | product_bad h => exact ⟨_, h, ho⟩
    | product_ok h1 h2 => exact ⟨_, h1, _, h2, ho⟩
  | sum_ok h h3 =>
    cases h with
    | product_ok h1 h2 => exact ⟨_, h1, _, h2, _, h3, ho⟩
theorem let_run {L : List Tok} {all : List NodeC} {i : Nat} {o1 : LO} (h : Lt1 all (L.drop i) o1) (hN : hdN (L.drop i) = true) (hq : hdT (L.drop (i + 1)) 2 equalS = true) :
    ∃ o, RunE [] all (L.drop (i + 2)) o ∧ (∀ r, o = .bad r → o1 = .bad r) ∧ ∀ a r, o = .ok a r → o1 = .ok (tkAt L i).text a r := by
  have h1 := hdN_lt hN
  have h2 := hdT_lt hq
  rw [drop_cons h1, drop_cons h2] at h
  rw [drop_cons h1] at hN
  rw [drop_cons h2] at hq
  cases h with
  | noname h0 => simp only [hdN] at hN h0; rw [hN] at h0; cases h0
  | noeq _ h0 => rw [hq] at h0; cases h0
  | sumbad _ _ h3 => exact ⟨_, run_start h3 rfl, fun r hr => by cases hr; rfl, fun a r hr => by cases hr⟩
  | @nosemi a1 _ _ _ r1 _ _ h3 h4 =>
    refine ⟨.bad r1, run_start h3 ?_, fun r hr => by cases hr; rfl, fun a r hr => by cases hr⟩
    cases r1 with
    | nil => rfl
    | cons y r => show (if _ then _ else _); rw [if_neg (by simp only [hdT] at h4; rw [h4]; decide)]
  | ok _ _ h3 h4 =>
    refine ⟨.ok _ _, run_start h3 ?_, fun r hr => (by cases hr), fun a r hr => by cases hr; rfl⟩
    show (if _ then _ else _)
    rw [if_pos h4]
theorem let_noname {L : List Tok} {all : List NodeC} {i : Nat} {o1 : LO} (h : Lt1 all (L.drop i) o1) (hN : hdN (L.drop i) = false) : o1 = .bad (L.drop i) := by
  generalize L.drop i = r at h hN
  cases h with
  | noname _ => rfl
  | noeq h1 _ => simp only [hdN] at hN; rw [hN] at h1; cases h1
  | sumbad h1 _ _ => simp only [hdN] at hN; rw [hN] at h1; cases h1
  | nosemi h1 _ _ _ => simp only [hdN] at hN; rw [hN] at h1; cases h1
  | ok h1 _ _ _ => simp only [hdN] at hN; rw [hN] at h1; cases h1
theorem let_noeq {L : List Tok} {all : List NodeC} {i : Nat} {o1 : LO} (h : Lt1 all (L.drop i) o1) (hN : hdN (L.drop i) = true) (hq : hdT (L.drop (i + 1)) 2 equalS = false) : o1 = .bad (L.drop (i + 1)) := by
  have h1 := hdN_lt hN
  rw [drop_cons h1] at h hN
  generalize L.drop (i + 1) = r at h hN hq
  cases h with
  | noname h0 => rw [hN] at h0; cases h0
  | noeq _ _ => rfl
  | sumbad _ h0 _ => simp only [hdT] at hq; rw [hq] at h0; cases h0
  | nosemi _ h0 _ _ => simp only [hdT] at hq; rw [hq] at h0; cases h0
  | ok _ h0 _ _ => simp only [hdT] at hq; rw [hq] at h0; cases h0
theorem lts_more (ls : List LetC) (c : LetC) : ((ls ++ [c]).map LetC.cells).flatten = (ls.map LetC.cells).flatten ++ c.cells := by simp
theorem rdLet_any (b i : Nat) (vall vi vl vo va : Value) (ls : List LetC) (ns : List NodeV) (L : List Tok) {I : Hp} (hM : Mx I) (hE : Errs I) (hL : Slc I 4 vall (L.map Tok.cells)) (hn : L.length ≤ 10000) (hs : TkSmall L) (hto : ToksOk L) (hok : ∀ o ∈ ns, o.ok I) (hb : ns.length ≤ i) (hls : ls.length ≤ i) (hi : i ≤ L.length) {o : LO} (h : Lt1 (ns.map NodeV.c) (L.drop i) o) :
    Fun Tryz.prog 71 [.pointer (some ⟨b, 0, none⟩)] I [rdB b vall i (.slice none 0 0) vi vl vo va, ltR vl ls, ndR va ns]
    (fun v I' B' => ∃ ok i' vs' vl' va' ns' ls', v = .bool ok ∧ B' = [rdB b vall i' vs' vi vl' vo va', ltR vl' ls', ndR va' ns'] ∧ i' ≤ L.length ∧ (ok = false → o = .bad (L.drop i')) ∧ (ok = true → ∃ s, o = .ok s (ns'.map NodeV.c) (L.drop i') ∧ vs' = .slice none 0 0 ∧ (∀ o ∈ ns', o.ok I') ∧ ns'.length ≤ i' ∧ ls' = ls ++ [⟨s, lastN ns'⟩] ∧ i < i')) := by
  intro w hw
  refine enter1 _ Tryz.func71 rfl Tryz.ntmps71 rfl ?_ hw
  refine cS (cR ?_)
  refine oV ?_
  refine oN (tC (cS (cR ?_)))
  refine oV ?_
  refine oC trivial rfl Tryz.call101 rfl (rdName_any b i vall (.slice none 0 0) vi vl vo va L hL (by omega) hs) (by repeat constructor) ?_
  rintro _ _ _ hx1 ⟨rfl, rfl, rfl⟩
  iterate 5 refine oV ?_
  refine oN (tC (cS (cS (cR ?_))))
  iterate 2 refine oV ?_
  refine o_fork trivial rfl rfl (fun hb12 => ?_) (fun hb12 => ?_)
  ·
   have fb12 := hb12
   try simp only [bl] at fb12
   have hN : hdN (L.drop i) = false := by simpa using hb12
   rw [adv_false hN]
   iterate 3 refine o_skip (skips_some rfl rfl rfl) rfl ?_
   iterate 2 refine oV ?_
   iterate 3 refine o_skip (skips_some rfl rfl rfl) rfl ?_
   refine oV ?_
   refine oN (tC ?_)
   refine c_cond_t rfl rfl ?_
   refine cS (cR ?_)
   refine oV ?_
   refine oN (tC (cT (tR ?_)))
   refine ret1 rfl rfl ?_
   first
   | exact fun w' hw' => ⟨I2, [rdB b vall j (.slice none 0 0) vi v38 vo ua, ltR v38 (ls ++ [⟨(tkAt L i).text, lastN n2⟩]), ndR ua n2], (by unfold ltR; rw [lts_more, List.length_append]; exact hw'.sort (by repeat constructor)), hx3, true, j, _, v38, ua, n2, _, rfl, rfl, hj, fun h => (by cases h), fun _ => ⟨_, ho3 _ _ he, rfl, hok2, hb2, rfl, by omega⟩⟩
   | exact fun w' hw' => ⟨I2, [rdB b vall j us vi vl vo ua, ltR vl ls, ndR ua n2], hw'.sort (by repeat constructor), hx3, false, j, _, vl, ua, n2, ls, rfl, rfl, hj, fun _ => ho2 _ (hno hk), fun h => by cases h⟩
   | exact fun w' hw' => ⟨I, [rdB b vall (i + 1) (.slice none 0 0) vi vl vo va, ltR vl ls, ndR va ns], hw'.sort (by repeat constructor), Ext.refl _ _, false, i + 1, _, vl, va, ns, ls, rfl, rfl, hlt, fun _ => let_noeq h hN hq, fun h => by cases h⟩
   | exact fun w' hw' => ⟨I, [rdB b vall i (.slice none 0 0) vi vl vo va, ltR vl ls, ndR va ns], hw'.sort (by repeat constructor), Ext.refl _ _, false, i, _, vl, va, ns, ls, rfl, rfl, hi, fun _ => let_noname h hN, fun h => by cases h⟩
  have fb12 := hb12
  try simp only [bl] at fb12
  have hN : hdN (L.drop i) = true := by simpa using hb12
  rw [adv_true hN]
  have hlt := hdN_lt hN
  refine o_pv (wS rfl rfl rfl) rfl rfl ?_
  refine oC (wS rfl rfl rfl) rfl Tryz.call102 rfl (rdMark_any b (i + 1) vall (.slice none 0 0) vi vl vo va equalS L hL (by omega)) (by repeat constructor) ?_
  rintro _ _ _ hx2 ⟨rfl, rfl, rfl⟩
  refine o_pv (wS rfl rfl rfl) rfl rfl ?_
  refine oV ?_
  refine o_fork trivial rfl rfl (fun hb17 => ?_) (fun hb17 => ?_)
  ·
   have fb17 := hb17
   try simp only [bl] at fb17
   have hq : hdT (L.drop (i + 1)) 2 equalS = false := by simpa using hb17
   rw [adv_false hq]
   iterate 3 refine o_skip (skips_some rfl rfl rfl) rfl ?_
   refine oV ?_
   refine oN (tC ?_)
   refine c_cond_t rfl rfl ?_
   refine cS (cR ?_)
   refine oV ?_
   refine oN (tC (cT (tR ?_)))
   refine ret1 rfl rfl ?_
   first
   | exact fun w' hw' => ⟨I2, [rdB b vall j (.slice none 0 0) vi v38 vo ua, ltR v38 (ls ++ [⟨(tkAt L i).text, lastN n2⟩]), ndR ua n2], (by unfold ltR; rw [lts_more, List.length_append]; exact hw'.sort (by repeat constructor)), hx3, true, j, _, v38, ua, n2, _, rfl, rfl, hj, fun h => (by cases h), fun _ => ⟨_, ho3 _ _ he, rfl, hok2, hb2, rfl, by omega⟩⟩
   | exact fun w' hw' => ⟨I2, [rdB b vall j us vi vl vo ua, ltR vl ls, ndR ua n2], hw'.sort (by repeat constructor), hx3, false, j, _, vl, ua, n2, ls, rfl, rfl, hj, fun _ => ho2 _ (hno hk), fun h => by cases h⟩
   | exact fun w' hw' => ⟨I, [rdB b vall (i + 1) (.slice none 0 0) vi vl vo va, ltR vl ls, ndR va ns], hw'.sort (by repeat constructor), Ext.refl _ _, false, i + 1, _, vl, va, ns, ls, rfl, rfl, hlt, fun _ => let_noeq h hN hq, fun h => by cases h⟩
   | exact fun w' hw' => ⟨I, [rdB b vall i (.slice none 0 0) vi vl vo va, ltR vl ls, ndR va ns], hw'.sort (by repeat constructor), Ext.refl _ _, false, i, _, vl, va, ns, ls, rfl, rfl, hi, fun _ => let_noname h hN, fun h => by cases h⟩
  have fb17 := hb17
  try simp only [bl] at fb17
  have hq : hdT (L.drop (i + 1)) 2 equalS = true := by simpa using hb17
  rw [adv_true hq]
  have hlt2 := hdT_lt hq
  obtain ⟨o2, hr2, ho2, ho3⟩ := let_run h hN hq
  refine o_pv (wS rfl rfl rfl) rfl rfl ?_
  refine oC (wS rfl rfl rfl) rfl Tryz.call103 rfl (rdSum_any b (i + 1 + 1) vall vi vl vo va ns L hM hE hL hn hs hto hok (by omega) (by omega) hr2) (by repeat constructor) ?_
  rintro _ I2 _ hx3 ⟨ok2, j, us, ua, n2, rfl, rfl, hj, hno, hyes⟩
  refine o_pv (wS rfl rfl rfl) rfl rfl ?_
  refine oV ?_
  refine oN (tC ?_)
  refine cC rfl (fun h1 => ?_) (fun h1 => ?_)
  ·
   have f1 := h1
   try simp only [bl] at f1
   have hk : ok2 = false := by simpa using f1
   refine cS (cR ?_)
   refine oV ?_
   refine oN (tC (cT (tR ?_)))
   refine ret1 rfl rfl ?_
   first
   | exact fun w' hw' => ⟨I2, [rdB b vall j (.slice none 0 0) vi v38 vo ua, ltR v38 (ls ++ [⟨(tkAt L i).text, lastN n2⟩]), ndR ua n2], (by unfold ltR; rw [lts_more, List.length_append]; exact hw'.sort (by repeat constructor)), hx3, true, j, _, v38, ua, n2, _, rfl, rfl, hj, fun h => (by cases h), fun _ => ⟨_, ho3 _ _ he, rfl, hok2, hb2, rfl, by omega⟩⟩
   | exact fun w' hw' => ⟨I2, [rdB b vall j us vi vl vo ua, ltR vl ls, ndR ua n2], hw'.sort (by repeat constructor), hx3, false, j, _, vl, ua, n2, ls, rfl, rfl, hj, fun _ => ho2 _ (hno hk), fun h => by cases h⟩
   | exact fun w' hw' => ⟨I, [rdB b vall (i + 1) (.slice none 0 0) vi vl vo va, ltR vl ls, ndR va ns], hw'.sort (by repeat constructor), Ext.refl _ _, false, i + 1, _, vl, va, ns, ls, rfl, rfl, hlt, fun _ => let_noeq h hN hq, fun h => by cases h⟩
   | exact fun w' hw' => ⟨I, [rdB b vall i (.slice none 0 0) vi vl vo va, ltR vl ls, ndR va ns], hw'.sort (by repeat constructor), Ext.refl _ _, false, i, _, vl, va, ns, ls, rfl, rfl, hi, fun _ => let_noname h hN, fun h => by cases h⟩
  have f1 := h1
  try simp only [bl] at f1
  have hk : ok2 = true := by simpa using f1
  obtain ⟨he, rfl, hok2, hb2, hlt3⟩ := hyes hk
  rw [if_pos hN]
  refine cK (tC (cS ?_))
  refine h_beginB (m := 21) [ndR ua n2] (by repeat constructor) (by kernel_rfl) rfl ?_
  refine qT (i := 0) (qB 21 1) (Hp.Le.refl _) rfl rfl (oV qF) ?_
  refine qT (i := 1) (qB 21 3) (Hp.Le.refl _) rfl rfl (oV qF) ?_
  refine qT (i := 2) (qB 21 7) (Hp.Le.refl _) rfl rfl (oV qF) ?_
  refine qT (i := 3) (qB 21 15) (Hp.Le.refl _) rfl rfl (oF 3 Tryz.underlying66 Tryz.sizeOf27 qF) ?_
  refine qT (i := 4) (qB 21 31) (Hp.Le.refl _) rfl rfl (oF 1 Tryz.underlying27 Tryz.sizeOf24 qF) ?_
  refine qT (i := 6) (qB 21 95) (Hp.Le.refl _) rfl rfl (oV qF) ?_
  refine qT (i := 7) (qB 21 223) (Hp.Le.refl _) rfl rfl (oV qF) ?_
  refine qT (i := 8) (qB 21 479) (Hp.Le.refl _) rfl rfl (oV qF) ?_
  refine qT (i := 9) (qB 21 991) (Hp.Le.refl _) rfl rfl (oF 3 Tryz.underlying66 Tryz.sizeOf27 qF) ?_
  refine qT (i := 10) (qB 21 2015) (Hp.Le.refl _) rfl rfl (oF 3 Tryz.underlying27 Tryz.sizeOf25 qF) ?_
  refine h_go [5, 11] (by kernel_rfl) rfl (TWHs.cons ?_ (TWHs.cons ?_ TWHs.nil))
  ·
   refine qP (qB 21 2047) rfl ?_
   refine oL Tryz.isAgg24 ?_
   refine qM (Hp.Le.refl _) ?_
   refine qO (i := 11) (qB 21 4095) rfl ?_
   refine oL Tryz.isAgg25 ?_
   refine qM (Hp.Le.refl _) ?_
   refine qT (i := 12) (qB 21 8191) (Hp.Le.refl _) rfl rfl (o_lenRow trivial rfl Tryz.underlying25 rfl (by repeat constructor) qF) ?_
   refine' qT (i := 13) (qB 21 16383) (Hp.Le.refl _) rfl rfl ?hh0 ?kk0
   case hh0 =>
    first | (refine o_sub trivial rfl rfl rfl ?_ ?_; (omega)) | refine oV ?_
    exact qF
   refine qT (i := 14) (qB 21 32767) (Hp.Le.refl _) rfl rfl (o_buildS trivial rfl (bld46) rfl (.cons rfl rfl rfl (by repeat constructor) (.cons rfl rfl rfl (by repeat constructor) .nil)) qF) ?_
   refine qO (i := 15) (qB 21 65535) rfl ?_
   refine o_buildSl trivial rfl Tryz.underlying24 Tryz.sizeOf46 Tryz.zeroValue46 (by decide) (by decide) rfl (by repeat first | exact rfl | constructor) rfl (fun b37 => ?_)
   refine qM (Hp.Le.refl _) ?_
   refine qO (i := 16) (qB 21 131071) rfl ?_
   refine o_appendBox trivial rfl Tryz.underlying24 (elem46) (by decide) rfl rfl (fun v' => (by repeat constructor)) (by repeat constructor) rfl (by first | rfl | decide) (by first | omega | (unfold maxLen; omega)) (by omega) (fun v38 => ?_)
   refine qM (Hp.Le.refl _) ?_
   refine qT (i := 17) (qB 21 262143) (Hp.Le.refl _) rfl rfl (oV qF) ?_
   refine qT (i := 18) (qB 21 524287) (Hp.Le.refl _) rfl rfl (oF 3 Tryz.underlying66 Tryz.sizeOf27 qF) ?_
   refine qT (i := 19) (qB 21 1048575) (Hp.Le.refl _) rfl rfl (oF 1 Tryz.underlying27 Tryz.sizeOf24 qF) ?_
   refine qO (i := 20) (qB 21 2097151) rfl ?_
   refine l_rowCells (u := v38) (by repeat constructor) (fun hcv => ?_)
   refine o_storeBox1 trivial rfl rfl (hcv).1 Tryz.sizeOf24 (hcv).2 (by repeat constructor) (by exact Nat.le_of_ble_eq_true rfl) ?_
   refine qM (Hp.Le.refl _) ?_
   refine h_end (by kernel_rfl) ?_
   refine tC (cS (cR ?_))
   refine oV ?_
   refine oN (tC (cT ?_))
   refine ret1 rfl rfl ?_
   first
   | exact fun w' hw' => ⟨I2, [rdB b vall j (.slice none 0 0) vi v38 vo ua, ltR v38 (ls ++ [⟨(tkAt L i).text, lastN n2⟩]), ndR ua n2], (by unfold ltR; rw [lts_more, List.length_append]; exact hw'.sort (by repeat constructor)), hx3, true, j, _, v38, ua, n2, _, rfl, rfl, hj, fun h => (by cases h), fun _ => ⟨_, ho3 _ _ he, rfl, hok2, hb2, rfl, by omega⟩⟩
   | exact fun w' hw' => ⟨I2, [rdB b vall j us vi vl vo ua, ltR vl ls, ndR ua n2], hw'.sort (by repeat constructor), hx3, false, j, _, vl, ua, n2, ls, rfl, rfl, hj, fun _ => ho2 _ (hno hk), fun h => by cases h⟩
   | exact fun w' hw' => ⟨I, [rdB b vall (i + 1) (.slice none 0 0) vi vl vo va, ltR vl ls, ndR va ns], hw'.sort (by repeat constructor), Ext.refl _ _, false, i + 1, _, vl, va, ns, ls, rfl, rfl, hlt, fun _ => let_noeq h hN hq, fun h => by cases h⟩
   | exact fun w' hw' => ⟨I, [rdB b vall i (.slice none 0 0) vi vl vo va, ltR vl ls, ndR va ns], hw'.sort (by repeat constructor), Ext.refl _ _, false, i, _, vl, va, ns, ls, rfl, rfl, hi, fun _ => let_noname h hN, fun h => by cases h⟩
  refine qP (qB 21 4063) rfl ?_
  refine oL Tryz.isAgg25 ?_
  refine qM (Hp.Le.refl _) ?_
  refine qT (i := 12) (qB 21 8159) (Hp.Le.refl _) rfl rfl (o_lenRow trivial rfl Tryz.underlying25 rfl (by repeat constructor) qF) ?_
  refine' qT (i := 13) (qB 21 16351) (Hp.Le.refl _) rfl rfl ?hh1 ?kk1
  case hh1 =>
   first | (refine o_sub trivial rfl rfl rfl ?_ ?_; (omega)) | refine oV ?_
   exact qF
  refine qT (i := 14) (qB 21 32735) (Hp.Le.refl _) rfl rfl (o_buildS trivial rfl (bld46) rfl (.cons rfl rfl rfl (by repeat constructor) (.cons rfl rfl rfl (by repeat constructor) .nil)) qF) ?_
  refine h_go [5, 15] (by kernel_rfl) rfl (TWHs.cons ?_ (TWHs.cons ?_ TWHs.nil))
  ·
   refine qP (qB 21 32767) rfl ?_
   refine oL Tryz.isAgg24 ?_
   refine qM (Hp.Le.refl _) ?_
   refine qO (i := 15) (qB 21 65535) rfl ?_
   refine o_buildSl trivial rfl Tryz.underlying24 Tryz.sizeOf46 Tryz.zeroValue46 (by decide) (by decide) rfl (by repeat first | exact rfl | constructor) rfl (fun b37 => ?_)
   refine qM (Hp.Le.refl _) ?_
   refine qO (i := 16) (qB 21 131071) rfl ?_
   refine o_appendBox trivial rfl Tryz.underlying24 (elem46) (by decide) rfl rfl (fun v' => (by repeat constructor)) (by repeat constructor) rfl (by first | rfl | decide) (by first | omega | (unfold maxLen; omega)) (by omega) (fun v38 => ?_)
   refine qM (Hp.Le.refl _) ?_
   refine qT (i := 17) (qB 21 262143) (Hp.Le.refl _) rfl rfl (oV qF) ?_
   refine qT (i := 18) (qB 21 524287) (Hp.Le.refl _) rfl rfl (oF 3 Tryz.underlying66 Tryz.sizeOf27 qF) ?_
   refine qT (i := 19) (qB 21 1048575) (Hp.Le.refl _) rfl rfl (oF 1 Tryz.underlying27 Tryz.sizeOf24 qF) ?_
   refine qO (i := 20) (qB 21 2097151) rfl ?_
   refine l_rowCells (u := v38) (by repeat constructor) (fun hcv => ?_)
   refine o_storeBox1 trivial rfl rfl (hcv).1 Tryz.sizeOf24 (hcv).2 (by repeat constructor) (by exact Nat.le_of_ble_eq_true rfl) ?_
   refine qM (Hp.Le.refl _) ?_
   refine h_end (by kernel_rfl) ?_
   refine tC (cS (cR ?_))
   refine oV ?_
   refine oN (tC (cT ?_))
   refine ret1 rfl rfl ?_
   first
   | exact fun w' hw' => ⟨I2, [rdB b vall j (.slice none 0 0) vi v38 vo ua, ltR v38 (ls ++ [⟨(tkAt L i).text, lastN n2⟩]), ndR ua n2], (by unfold ltR; rw [lts_more, List.length_append]; exact hw'.sort (by repeat constructor)), hx3, true, j, _, v38, ua, n2, _, rfl, rfl, hj, fun h => (by cases h), fun _ => ⟨_, ho3 _ _ he, rfl, hok2, hb2, rfl, by omega⟩⟩
   | exact fun w' hw' => ⟨I2, [rdB b vall j us vi vl vo ua, ltR vl ls, ndR ua n2], hw'.sort (by repeat constructor), hx3, false, j, _, vl, ua, n2, ls, rfl, rfl, hj, fun _ => ho2 _ (hno hk), fun h => by cases h⟩
   | exact fun w' hw' => ⟨I, [rdB b vall (i + 1) (.slice none 0 0) vi vl vo va, ltR vl ls, ndR va ns], hw'.sort (by repeat constructor), Ext.refl _ _, false, i + 1, _, vl, va, ns, ls, rfl, rfl, hlt, fun _ => let_noeq h hN hq, fun h => by cases h⟩
   | exact fun w' hw' => ⟨I, [rdB b vall i (.slice none 0 0) vi vl vo va, ltR vl ls, ndR va ns], hw'.sort (by repeat constructor), Ext.refl _ _, false, i, _, vl, va, ns, ls, rfl, rfl, hi, fun _ => let_noname h hN, fun h => by cases h⟩
  refine qP (qB 21 65503) rfl ?_
  refine o_buildSl trivial rfl Tryz.underlying24 Tryz.sizeOf46 Tryz.zeroValue46 (by decide) (by decide) rfl (by repeat first | exact rfl | constructor) rfl (fun b37 => ?_)
  refine qM (Hp.Le.refl _) ?_
  refine qO (i := 5) (qB 21 65535) rfl ?_
  refine oL Tryz.isAgg24 ?_
  refine qM (Hp.Le.refl _) ?_
  refine qO (i := 16) (qB 21 131071) rfl ?_
  refine o_appendBox trivial rfl Tryz.underlying24 (elem46) (by decide) rfl rfl (fun v' => (by repeat constructor)) (by repeat constructor) rfl (by first | rfl | decide) (by first | omega | (unfold maxLen; omega)) (by omega) (fun v38 => ?_)
  refine qM (Hp.Le.refl _) ?_
  refine qT (i := 17) (qB 21 262143) (Hp.Le.refl _) rfl rfl (oV qF) ?_
  refine qT (i := 18) (qB 21 524287) (Hp.Le.refl _) rfl rfl (oF 3 Tryz.underlying66 Tryz.sizeOf27 qF) ?_
  refine qT (i := 19) (qB 21 1048575) (Hp.Le.refl _) rfl rfl (oF 1 Tryz.underlying27 Tryz.sizeOf24 qF) ?_
  refine qO (i := 20) (qB 21 2097151) rfl ?_
  refine l_rowCells (u := v38) (by repeat constructor) (fun hcv => ?_)
  refine o_storeBox1 trivial rfl rfl (hcv).1 Tryz.sizeOf24 (hcv).2 (by repeat constructor) (by exact Nat.le_of_ble_eq_true rfl) ?_
  refine qM (Hp.Le.refl _) ?_
  refine h_end (by kernel_rfl) ?_
  refine tC (cS (cR ?_))
  refine oV ?_
  refine oN (tC (cT ?_))
  refine ret1 rfl rfl ?_
  first
  | exact fun w' hw' => ⟨I2, [rdB b vall j (.slice none 0 0) vi v38 vo ua, ltR v38 (ls ++ [⟨(tkAt L i).text, lastN n2⟩]), ndR ua n2], (by unfold ltR; rw [lts_more, List.length_append]; exact hw'.sort (by repeat constructor)), hx3, true, j, _, v38, ua, n2, _, rfl, rfl, hj, fun h => (by cases h), fun _ => ⟨_, ho3 _ _ he, rfl, hok2, hb2, rfl, by omega⟩⟩
  | exact fun w' hw' => ⟨I2, [rdB b vall j us vi vl vo ua, ltR vl ls, ndR ua n2], hw'.sort (by repeat constructor), hx3, false, j, _, vl, ua, n2, ls, rfl, rfl, hj, fun _ => ho2 _ (hno hk), fun h => by cases h⟩
  | exact fun w' hw' => ⟨I, [rdB b vall (i + 1) (.slice none 0 0) vi vl vo va, ltR vl ls, ndR va ns], hw'.sort (by repeat constructor), Ext.refl _ _, false, i + 1, _, vl, va, ns, ls, rfl, rfl, hlt, fun _ => let_noeq h hN hq, fun h => by cases h⟩
  | exact fun w' hw' => ⟨I, [rdB b vall i (.slice none 0 0) vi vl vo va, ltR vl ls, ndR va ns], hw'.sort (by repeat constructor), Ext.refl _ _, false, i, _, vl, va, ns, ls, rfl, rfl, hi, fun _ => let_noname h hN, fun h => by cases h⟩
def PrgTail (ins : List ByteArray) (o : PO) (ls : List LetC) (all : List NodeC) (r2 : List Tok) : Prop :=
  (hdT r2 0 outS = false → o = .bad r2) ∧ (hdT r2 0 outS = true → (∀ r3, namesZ (r2.drop 1) = .bad r3 → o = .bad r3) ∧ (∀ outs r3, namesZ (r2.drop 1) = .ok outs r3 → (r3 = [] → o = .ok ⟨ins, ls, outs, all⟩) ∧ (r3 ≠ [] → o = .bad r3)))
theorem prg_parts {r : List Tok} {o : PO} (h : Prg r o) : (hdT r 0 inS = false → o = .bad r) ∧ (hdT r 0 inS = true → (∀ r1, namesZ (r.drop 1) = .bad r1 → o = .bad r1) ∧ ∀ ins r1, namesZ (r.drop 1) = .ok ins r1 → ∃ oL, Lts [] [] r1 oL ∧ (∀ r2, oL = .bad r2 → o = .bad r2) ∧ ∀ ls all r2, oL = .ok ls all r2 → PrgTail ins o ls all r2) := by
  cases h with
  | noin h0 => exact ⟨fun _ => rfl, fun h => by rw [h0] at h; cases h⟩
  | insbad h0 h1 =>
    refine ⟨fun h => (by simp only [hdT] at h; rw [h0] at h; cases h), fun _ => ⟨fun r1 hr => (by simp only [List.drop_one, List.tail_cons] at hr; rw [h1] at hr; cases hr; rfl), fun ins r1 hr => by simp only [List.drop_one, List.tail_cons] at hr; rw [h1] at hr; cases hr⟩⟩
  | letsbad h0 h1 h2 =>
    refine ⟨fun h => (by simp only [hdT] at h; rw [h0] at h; cases h), fun _ => ⟨fun r1 hr => (by simp only [List.drop_one, List.tail_cons] at hr; rw [h1] at hr; cases hr), fun ins r1 hr => ?_⟩⟩
    simp only [List.drop_one, List.tail_cons] at hr; rw [h1] at hr; cases hr
    exact ⟨_, h2, fun r2 hr => (by cases hr; rfl), fun ls all r2 hr => by cases hr⟩
  | noout h0 h1 h2 h3 =>
    refine ⟨fun h => (by simp only [hdT] at h; rw [h0] at h; cases h), fun _ => ⟨fun r1 hr => (by simp only [List.drop_one, List.tail_cons] at hr; rw [h1] at hr; cases hr), fun ins r1 hr => ?_⟩⟩
    simp only [List.drop_one, List.tail_cons] at hr; rw [h1] at hr; cases hr
    refine ⟨_, h2, fun r2 hr => (by cases hr), fun ls all r2 hr => ?_⟩
    cases hr
    exact ⟨fun _ => rfl, fun h => by rw [h3] at h; cases h⟩
  | outsbad h0 h1 h2 h3 h4 =>
    refine ⟨fun h => (by simp only [hdT] at h; rw [h0] at h; cases h), fun _ => ⟨fun r1 hr => (by simp only [List.drop_one, List.tail_cons] at hr; rw [h1] at hr; cases hr), fun ins r1 hr => ?_⟩⟩
    simp only [List.drop_one, List.tail_cons] at hr; rw [h1] at hr; cases hr
    refine ⟨_, h2, fun r2 hr => (by cases hr), fun ls all r2 hr => ?_⟩
    cases hr
    refine ⟨fun h => (by simp only [hdT] at h; rw [h3] at h; cases h), fun _ => ⟨fun r3 hr => ?_, fun outs r3 hr => ?_⟩⟩
    · simp only [List.drop_one, List.tail_cons] at hr; rw [h4] at hr; cases hr; rfl
    · simp only [List.drop_one, List.tail_cons] at hr; rw [h4] at hr; cases hr
  | tail h0 h1 h2 h3 h4 =>
    refine ⟨fun h => (by simp only [hdT] at h; rw [h0] at h; cases h), fun _ => ⟨fun r1 hr => (by simp only [List.drop_one, List.tail_cons] at hr; rw [h1] at hr; cases hr), fun ins r1 hr => ?_⟩⟩
    simp only [List.drop_one, List.tail_cons] at hr; rw [h1] at hr; cases hr
    refine ⟨_, h2, fun r2 hr => (by cases hr), fun ls all r2 hr => ?_⟩
    cases hr
    refine ⟨fun h => (by simp only [hdT] at h; rw [h3] at h; cases h), fun _ => ⟨fun r3 hr => ?_, fun outs r3 hr => ?_⟩⟩
    · simp only [List.drop_one, List.tail_cons] at hr; rw [h4] at hr; cases hr
    · simp only [List.drop_one, List.tail_cons] at hr; rw [h4] at hr; cases hr
      exact ⟨fun h => (by cases h), fun _ => rfl⟩
  | ok h0 h1 h2 h3 h4 =>
    refine ⟨fun h => (by simp only [hdT] at h; rw [h0] at h; cases h), fun _ => ⟨fun r1 hr => (by simp only [List.drop_one, List.tail_cons] at hr; rw [h1] at hr; cases hr), fun ins r1 hr => ?_⟩⟩
    simp only [List.drop_one, List.tail_cons] at hr; rw [h1] at hr; cases hr
    refine ⟨_, h2, fun r2 hr => (by cases hr), fun ls all r2 hr => ?_⟩
    cases hr
    refine ⟨fun h => (by simp only [hdT] at h; rw [h3] at h; cases h), fun _ => ⟨fun r3 hr => ?_, fun outs r3 hr => ?_⟩⟩
    · simp only [List.drop_one, List.tail_cons] at hr; rw [h4] at hr; cases hr
    · simp only [List.drop_one, List.tail_cons] at hr; rw [h4] at hr; cases hr
      exact ⟨fun _ => rfl, fun h => absurd rfl h⟩
theorem lts_parts {ls : List LetC} {all : List NodeC} {r : List Tok} {oL : LSO} (h : Lts ls all r oL) : (hdT r 0 letS = false → oL = .ok ls all r) ∧ (hdT r 0 letS = true → ∃ o1, Lt1 all (r.drop 1) o1 ∧ (∀ r1, o1 = .bad r1 → oL = .bad r1) ∧ ∀ n a1 r1, o1 = .ok n a1 r1 → Lts (ls ++ [⟨n, lastI a1⟩]) a1 r1 oL) := by
  cases h with
  | fin h0 => exact ⟨fun _ => rfl, fun h => by rw [h0] at h; cases h⟩
  | bad h0 h1 => exact ⟨fun h => (by simp only [hdT] at h; rw [h0] at h; cases h), fun _ => ⟨_, h1, fun r1 hr => (by cases hr; rfl), fun n a1 r1 hr => by cases hr⟩⟩
  | more h0 h1 h2 => exact ⟨fun h => (by simp only [hdT] at h; rw [h0] at h; cases h), fun _ => ⟨_, h1, fun r1 hr => (by cases hr), fun n a1 r1 hr => by cases hr; exact h2⟩⟩
theorem nm_bad {L : List Tok} {i' : Nat} {ok : Bool} {l : List ByteArray} {o : NOut} (h : NmRes L i' ok l o) (hk : ok = false) : o = .bad (L.drop i') := by
  cases o with
  | bad r => rw [h.2.1]
  | ok m r => rw [h.1] at hk; cases hk
theorem nm_good {L : List Tok} {i' : Nat} {ok : Bool} {l : List ByteArray} {o : NOut} (h : NmRes L i' ok l o) (hk : ok = true) : o = .ok l (L.drop i') := by
  cases o with
  | bad r => rw [h.1] at hk; cases hk
  | ok m r => rw [h.2.1, h.2.2.1]
theorem nm_le {L : List Tok} {i' : Nat} {ok : Bool} {l : List ByteArray} {o : NOut} (h : NmRes L i' ok l o) : i' ≤ L.length := by
  cases o with
  | bad r => exact h.2.2
  | ok m r => exact h.2.2.2
abbrev N0 : Value := .slice none 0 0
theorem rdProgram_any (b : Nat) (vall : Value) (L : List Tok) {I : Hp} (hM : Mx I) (hE : Errs I) (hL : Slc I 4 vall (L.map Tok.cells)) (hn : L.length ≤ 10000) (hs : TkSmall L) (hto : ToksOk L) {o : PO} (h : Prg L o) :
    Fun Tryz.prog 40 [.pointer (some ⟨b, 0, none⟩)] I [rdB b vall 0 N0 N0 N0 N0 N0]
    (fun v I' B' => ∃ ok i' vs' vi' vl' vo' va' wi wl wo wa ins ls outs ns, v = .bool ok ∧ B' = [rdB b vall i' vs' vi' vl' vo' va', nmR wi ins, ltR wl ls, nmR wo outs, ndR wa ns] ∧ i' ≤ L.length ∧ (ok = false → o = .bad (L.drop i')) ∧ (ok = true → wi = vi' ∧ wl = vl' ∧ wo = vo' ∧ wa = va' ∧ (∀ o ∈ ns, o.ok I') ∧ o = .ok ⟨ins, ls, outs, ns.map NodeV.c⟩ ∧ ins.length ≤ 10000 ∧ ls.length ≤ 10000 ∧ outs.length ≤ 10000 ∧ ns.length ≤ 10000)) := by
  have hP := prg_parts h
  rw [← List.drop_zero (l := L)] at hP
  intro w hw
  refine enter1 _ Tryz.func40 rfl Tryz.ntmps40 rfl ?_ hw
  refine cS (cR ?_)
  refine oV ?_
  refine oN (tC (cS (cR ?_)))
  refine oV ?_
  refine oN (tC (cS (cS (cR ?_))))
  refine oV ?_
  refine oC trivial rfl Tryz.call69 rfl (rdKey_any b 0 vall N0 N0 N0 N0 N0 inS L hL (by omega)) (by repeat constructor) ?_
  rintro _ _ _ hx1 ⟨rfl, rfl, rfl⟩
  refine oV ?_
  refine oN (tC ?_)
  refine cC rfl (fun h1 => ?_) (fun h1 => ?_)
  ·
   have f1 := h1
   try simp only [bl] at f1
   have hm : hdT (L.drop 0) 0 inS = false := by simpa using f1
   rw [adv_false hm]
   have hfin := hP.1 hm
   refine cS (cR ?_)
   refine oV ?_
   refine oN (tC (cT (tR ?_)))
   refine ret1 rfl rfl ?_
   first
   | exact fun w' hw' => ⟨I, [rdB b vall 0 N0 N0 N0 N0 N0, nmR N0 [], ltR N0 [], nmR N0 [], ndR N0 []], ((((hw'.nilRow 9 1).nilRow 46 2).nilRow 9 1).nilRow 44 8).sort (by repeat constructor), Ext.refl _ _, false, 0, _, _, _, _, _, _, _, _, _, _, _, _, _, rfl, rfl, Nat.zero_le _, fun _ => hfin, fun h => by cases h⟩
   | exact fun w' hw' => ⟨I, [rdB b vall j1 N0 u1 N0 N0 N0, nmR N0 [], ltR N0 [], nmR N0 [], ndR N0 []], ((((hw'.nilRow 9 1).nilRow 46 2).nilRow 9 1).nilRow 44 8).sort (by repeat constructor), Ext.refl _ _, false, j1, _, _, _, _, _, _, _, _, _, _, _, _, _, rfl, rfl, hj1, fun _ => hfin, fun h => by cases h⟩
   | exact fun w' hw' => ⟨I2, [rdB b vall j2 us2 u1' ul2 N0 ua2, nmR N0 [], ltR N0 [], nmR N0 [], ndR N0 []], ((((hw'.nilRow 9 1).nilRow 46 2).nilRow 9 1).nilRow 44 8).sort (by repeat constructor), hx3.trans hx5 (Nat.le_refl _), false, j2, _, _, _, _, _, _, _, _, _, _, _, _, _, rfl, rfl, hj2, fun _ => hfin, fun h => by cases h⟩
   | exact fun w' hw' => ⟨I1, [rdB b vall j N0 u1' ul N0 ua, nmR N0 [], ltR N0 [], nmR N0 [], ndR N0 []], ((((hw'.nilRow 9 1).nilRow 46 2).nilRow 9 1).nilRow 44 8).sort (by repeat constructor), hx3, false, j, _, _, _, _, _, _, _, _, _, _, _, _, _, rfl, rfl, hj, fun _ => hfin, fun h => by cases h⟩
   | (refine fun w' hw' => ⟨I1, [rdB b vall j3 N0 u1' ul u3 ua, nmR u1' l1, ltR ul ls, nmR u3' l3, ndR ua n0], hw'.sort (by repeat constructor), hx3, _, j3, _, _, _, _, _, u1', ul, u3', ua, l1, ls, l3, n0, rfl, rfl, nm_le hres3, ?_, ?_⟩
      · intro hk
        cases ok3 with
        | false => exact hT1 _ (nm_bad hres3 rfl)
        | true =>
          refine (hT2 _ _ (nm_good hres3 rfl)).2 ?_
          have := nm_le hres3
          simp at hk
          intro e
          rw [List.drop_eq_nil_iff] at e
          omega
      · intro hk
        cases ok3 with
        | false => cases hk
        | true =>
          obtain ⟨rfl, hl3⟩ := hu3 rfl
          refine ⟨rfl, rfl, rfl, rfl, hok0, (hT2 _ _ (nm_good hres3 rfl)).1 ?_, by omega, by omega, by omega, by omega⟩
          simp at hk
          exact List.drop_eq_nil_of_le (by omega))
  have f1 := h1
  try simp only [bl] at f1
  have hm : hdT (L.drop 0) 0 inS = true := by simpa using f1
  rw [adv_true hm]
  have hlt := hdT_lt hm
  have hP2 := hP.2 hm
  rw [List.drop_drop] at hP2
  refine cK (tC (cS (cS (cR ?_))))
  iterate 2 refine oV ?_
  refine oC trivial rfl Tryz.call70 rfl (rdNames_any b (0 + 1) vall N0 N0 N0 N0 N0 L hL hn hs (by omega)) (by repeat constructor) ?_
  rintro _ _ _ hx2 ⟨rfl, u1, ok1, j1, u1', l1, rfl, rfl, hres, hu, hcell⟩
  iterate 4 refine oV ?_
  refine oF 3 Tryz.underlying66 Tryz.sizeOf27 ?_
  refine oF 0 Tryz.underlying27 Tryz.sizeOf23 ?_
  refine o_storeBox1 trivial rfl rfl (hcell).1 Tryz.sizeOf23 (hcell).2 (by repeat constructor) (by exact Nat.le_of_ble_eq_true rfl) ?_
  refine oV ?_
  refine oN (tC (cS ?_))
  have hj1 := nm_le hres
  refine cR ?_
  iterate 2 refine oV ?_
  refine oN (tC ?_)
  refine cC rfl (fun h2 => ?_) (fun h2 => ?_)
  ·
   have f2 := h2
   try simp only [bl] at f2
   have hk : ok1 = false := by simpa using f2
   have hfin := hP2.1 _ (nm_bad hres hk)
   refine cS (cR ?_)
   refine oV ?_
   refine oN (tC (cT (tR ?_)))
   refine ret1 rfl rfl ?_
   first
   | exact fun w' hw' => ⟨I, [rdB b vall 0 N0 N0 N0 N0 N0, nmR N0 [], ltR N0 [], nmR N0 [], ndR N0 []], ((((hw'.nilRow 9 1).nilRow 46 2).nilRow 9 1).nilRow 44 8).sort (by repeat constructor), Ext.refl _ _, false, 0, _, _, _, _, _, _, _, _, _, _, _, _, _, rfl, rfl, Nat.zero_le _, fun _ => hfin, fun h => by cases h⟩
   | exact fun w' hw' => ⟨I, [rdB b vall j1 N0 u1 N0 N0 N0, nmR N0 [], ltR N0 [], nmR N0 [], ndR N0 []], ((((hw'.nilRow 9 1).nilRow 46 2).nilRow 9 1).nilRow 44 8).sort (by repeat constructor), Ext.refl _ _, false, j1, _, _, _, _, _, _, _, _, _, _, _, _, _, rfl, rfl, hj1, fun _ => hfin, fun h => by cases h⟩
   | exact fun w' hw' => ⟨I2, [rdB b vall j2 us2 u1' ul2 N0 ua2, nmR N0 [], ltR N0 [], nmR N0 [], ndR N0 []], ((((hw'.nilRow 9 1).nilRow 46 2).nilRow 9 1).nilRow 44 8).sort (by repeat constructor), hx3.trans hx5 (Nat.le_refl _), false, j2, _, _, _, _, _, _, _, _, _, _, _, _, _, rfl, rfl, hj2, fun _ => hfin, fun h => by cases h⟩
   | exact fun w' hw' => ⟨I1, [rdB b vall j N0 u1' ul N0 ua, nmR N0 [], ltR N0 [], nmR N0 [], ndR N0 []], ((((hw'.nilRow 9 1).nilRow 46 2).nilRow 9 1).nilRow 44 8).sort (by repeat constructor), hx3, false, j, _, _, _, _, _, _, _, _, _, _, _, _, _, rfl, rfl, hj, fun _ => hfin, fun h => by cases h⟩
   | (refine fun w' hw' => ⟨I1, [rdB b vall j3 N0 u1' ul u3 ua, nmR u1' l1, ltR ul ls, nmR u3' l3, ndR ua n0], hw'.sort (by repeat constructor), hx3, _, j3, _, _, _, _, _, u1', ul, u3', ua, l1, ls, l3, n0, rfl, rfl, nm_le hres3, ?_, ?_⟩
      · intro hk
        cases ok3 with
        | false => exact hT1 _ (nm_bad hres3 rfl)
        | true =>
          refine (hT2 _ _ (nm_good hres3 rfl)).2 ?_
          have := nm_le hres3
          simp at hk
          intro e
          rw [List.drop_eq_nil_iff] at e
          omega
      · intro hk
        cases ok3 with
        | false => cases hk
        | true =>
          obtain ⟨rfl, hl3⟩ := hu3 rfl
          refine ⟨rfl, rfl, rfl, rfl, hok0, (hT2 _ _ (nm_good hres3 rfl)).1 ?_, by omega, by omega, by omega, by omega⟩
          simp at hk
          exact List.drop_eq_nil_of_le (by omega))
  have f2 := h2
  try simp only [bl] at f2
  have hk : ok1 = true := by simpa using f2
  obtain ⟨rfl, hl1⟩ := hu hk
  obtain ⟨oL, hLt, hbadL, hokL⟩ := hP2.2 _ _ (nm_good hres hk)
  refine cK (tC (cS (cB ?_)))
  refine c_loop (ι := Nat × List LetC × List NodeV × Value × Value × Hp) [0] (.cons rfl .nil) (fun x => L.length - x.1) (fun x E0 => E0) (fun x => St w (keysOf [rdB b vall 0 N0 N0 N0 N0 N0]) x.2.2.2.2.2 [rdB b vall x.1 N0 u1' x.2.2.2.1 N0 x.2.2.2.2.1, nmR u1' l1, ltR x.2.2.2.1 x.2.1, ndR x.2.2.2.2.1 x.2.2.1]) (fun x => x.1 ≤ L.length ∧ x.2.1.length ≤ x.1 ∧ x.2.2.1.length ≤ x.1 ∧ (∀ o ∈ x.2.2.1, o.ok x.2.2.2.2.2) ∧ Lts x.2.1 (x.2.2.1.map NodeV.c) (L.drop x.1) oL ∧ Ext w.heap.size I x.2.2.2.2.2) ((j1, [], [], N0, N0, I)) (sC rfl sN) (fun _ h => ((h.nilRow 46 2).nilRow 44 8).sort (by repeat constructor)) (⟨hj1, Nat.zero_le _, Nat.zero_le _, fun o ho => (by cases ho), hLt, Ext.refl _ _⟩) ?_
  rintro ⟨j, ls, n0, ul, ua, I1⟩ ⟨hj, hls0, hn0, hok0, hr, hx3⟩
  try dsimp only
  simp only at hj hls0 hn0 hok0 hr hx3; have hlp := lts_parts hr
  refine cS (cS (cR ?_))
  refine oV ?_
  refine oC trivial rfl Tryz.call69 rfl (rdKey_any b j vall N0 u1' ul N0 ua letS L (hL.le hx3.le) (by omega)) (by repeat constructor) ?_
  rintro _ _ _ hx4 ⟨rfl, rfl, rfl⟩
  refine oN (tC ?_)
  refine cC rfl (fun h3 => ?_) (fun h3 => ?_)
  ·
   have f3 := h3
   try simp only [bl] at f3
   have hm3 : hdT (L.drop j) 0 letS = true := h3
   rw [adv_true hm3]
   have hlt3 := hdT_lt hm3
   obtain ⟨o1, hL1, hb1, hg1⟩ := hlp.2 hm3
   rw [List.drop_drop] at hL1
   refine cK (tC (cB (cS (cR ?_))))
   refine oV ?_
   refine oC trivial rfl Tryz.call71 rfl (rdLet_any b (j + 1) vall u1' ul N0 ua ls n0 L (hM.le hx3.le) (hE.le hx3.le) (hL.le hx3.le) hn hs hto hok0 (by omega) (by omega) (by omega) hL1) (by repeat constructor) ?_
   rintro _ I2 _ hx5 ⟨ok2, j2, us2, ul2, ua2, n2, ls2, rfl, rfl, hj2, hno2, hyes2⟩
   refine oV ?_
   refine oN (tC ?_)
   refine cC rfl (fun h4 => ?_) (fun h4 => ?_)
   ·
    have f4 := h4
    try simp only [bl] at f4
    have hk4 : ok2 = false := by simpa using f4
    have hfin := hbadL _ (hb1 _ (hno2 hk4))
    refine cS (cR ?_)
    refine oV ?_
    refine oN (tC (cT (blk_r (tR (blk_r (tR ?_))))))
    refine ret1 rfl rfl ?_
    first
    | exact fun w' hw' => ⟨I, [rdB b vall 0 N0 N0 N0 N0 N0, nmR N0 [], ltR N0 [], nmR N0 [], ndR N0 []], ((((hw'.nilRow 9 1).nilRow 46 2).nilRow 9 1).nilRow 44 8).sort (by repeat constructor), Ext.refl _ _, false, 0, _, _, _, _, _, _, _, _, _, _, _, _, _, rfl, rfl, Nat.zero_le _, fun _ => hfin, fun h => by cases h⟩
    | exact fun w' hw' => ⟨I, [rdB b vall j1 N0 u1 N0 N0 N0, nmR N0 [], ltR N0 [], nmR N0 [], ndR N0 []], ((((hw'.nilRow 9 1).nilRow 46 2).nilRow 9 1).nilRow 44 8).sort (by repeat constructor), Ext.refl _ _, false, j1, _, _, _, _, _, _, _, _, _, _, _, _, _, rfl, rfl, hj1, fun _ => hfin, fun h => by cases h⟩
    | exact fun w' hw' => ⟨I2, [rdB b vall j2 us2 u1' ul2 N0 ua2, nmR N0 [], ltR N0 [], nmR N0 [], ndR N0 []], ((((hw'.nilRow 9 1).nilRow 46 2).nilRow 9 1).nilRow 44 8).sort (by repeat constructor), hx3.trans hx5 (Nat.le_refl _), false, j2, _, _, _, _, _, _, _, _, _, _, _, _, _, rfl, rfl, hj2, fun _ => hfin, fun h => by cases h⟩
    | exact fun w' hw' => ⟨I1, [rdB b vall j N0 u1' ul N0 ua, nmR N0 [], ltR N0 [], nmR N0 [], ndR N0 []], ((((hw'.nilRow 9 1).nilRow 46 2).nilRow 9 1).nilRow 44 8).sort (by repeat constructor), hx3, false, j, _, _, _, _, _, _, _, _, _, _, _, _, _, rfl, rfl, hj, fun _ => hfin, fun h => by cases h⟩
    | (refine fun w' hw' => ⟨I1, [rdB b vall j3 N0 u1' ul u3 ua, nmR u1' l1, ltR ul ls, nmR u3' l3, ndR ua n0], hw'.sort (by repeat constructor), hx3, _, j3, _, _, _, _, _, u1', ul, u3', ua, l1, ls, l3, n0, rfl, rfl, nm_le hres3, ?_, ?_⟩
       · intro hk
         cases ok3 with
         | false => exact hT1 _ (nm_bad hres3 rfl)
         | true =>
           refine (hT2 _ _ (nm_good hres3 rfl)).2 ?_
           have := nm_le hres3
           simp at hk
           intro e
           rw [List.drop_eq_nil_iff] at e
           omega
       · intro hk
         cases ok3 with
         | false => cases hk
         | true =>
           obtain ⟨rfl, hl3⟩ := hu3 rfl
           refine ⟨rfl, rfl, rfl, rfl, hok0, (hT2 _ _ (nm_good hres3 rfl)).1 ?_, by omega, by omega, by omega, by omega⟩
           simp at hk
           exact List.drop_eq_nil_of_le (by omega))
   have f4 := h4
   try simp only [bl] at f4
   have hk4 : ok2 = true := by simpa using f4
   obtain ⟨s, he, rfl, hok2, hn2, rfl, hlt4⟩ := hyes2 hk4
   refine cK (blk_n ?_)
   exact again (j2, ls ++ [⟨s, lastN n2⟩], n2, ul2, ua2, I2) (sC rfl sN) (fun _ h => h.sort (by repeat constructor)) (by show L.length - j2 < L.length - j; omega) ⟨hj2, by rw [List.length_append]; show ls.length + 1 ≤ j2; omega, hn2, hok2, by rw [lastN_eq]; exact hg1 _ _ _ he, hx3.trans hx5 (Nat.le_refl _)⟩
  have f3 := h3
  try simp only [bl] at f3
  have hm3 : hdT (L.drop j) 0 letS = false := h3
  rw [adv_false hm3]
  have hT := hokL _ _ _ (hlp.1 hm3)
  refine c_exit (then_x (then_x (blk_eq rfl (tC (cS (cS (cR ?_)))))))
  refine oV ?_
  refine oC trivial rfl Tryz.call69 rfl (rdKey_any b j vall N0 u1' ul N0 ua outS L (hL.le hx3.le) (by omega)) (by repeat constructor) ?_
  rintro _ _ _ hx5 ⟨rfl, rfl, rfl⟩
  refine oV ?_
  refine oN (tC ?_)
  refine cC rfl (fun h5 => ?_) (fun h5 => ?_)
  ·
   have f5 := h5
   try simp only [bl] at f5
   have hm5 : hdT (L.drop j) 0 outS = false := by simpa using f5
   rw [adv_false hm5]
   have hfin := hT.1 hm5
   refine cS (cR ?_)
   refine oV ?_
   refine oN (tC (cT (tR ?_)))
   refine ret1 rfl rfl ?_
   first
   | exact fun w' hw' => ⟨I, [rdB b vall 0 N0 N0 N0 N0 N0, nmR N0 [], ltR N0 [], nmR N0 [], ndR N0 []], ((((hw'.nilRow 9 1).nilRow 46 2).nilRow 9 1).nilRow 44 8).sort (by repeat constructor), Ext.refl _ _, false, 0, _, _, _, _, _, _, _, _, _, _, _, _, _, rfl, rfl, Nat.zero_le _, fun _ => hfin, fun h => by cases h⟩
   | exact fun w' hw' => ⟨I, [rdB b vall j1 N0 u1 N0 N0 N0, nmR N0 [], ltR N0 [], nmR N0 [], ndR N0 []], ((((hw'.nilRow 9 1).nilRow 46 2).nilRow 9 1).nilRow 44 8).sort (by repeat constructor), Ext.refl _ _, false, j1, _, _, _, _, _, _, _, _, _, _, _, _, _, rfl, rfl, hj1, fun _ => hfin, fun h => by cases h⟩
   | exact fun w' hw' => ⟨I2, [rdB b vall j2 us2 u1' ul2 N0 ua2, nmR N0 [], ltR N0 [], nmR N0 [], ndR N0 []], ((((hw'.nilRow 9 1).nilRow 46 2).nilRow 9 1).nilRow 44 8).sort (by repeat constructor), hx3.trans hx5 (Nat.le_refl _), false, j2, _, _, _, _, _, _, _, _, _, _, _, _, _, rfl, rfl, hj2, fun _ => hfin, fun h => by cases h⟩
   | exact fun w' hw' => ⟨I1, [rdB b vall j N0 u1' ul N0 ua, nmR N0 [], ltR N0 [], nmR N0 [], ndR N0 []], ((((hw'.nilRow 9 1).nilRow 46 2).nilRow 9 1).nilRow 44 8).sort (by repeat constructor), hx3, false, j, _, _, _, _, _, _, _, _, _, _, _, _, _, rfl, rfl, hj, fun _ => hfin, fun h => by cases h⟩
   | (refine fun w' hw' => ⟨I1, [rdB b vall j3 N0 u1' ul u3 ua, nmR u1' l1, ltR ul ls, nmR u3' l3, ndR ua n0], hw'.sort (by repeat constructor), hx3, _, j3, _, _, _, _, _, u1', ul, u3', ua, l1, ls, l3, n0, rfl, rfl, nm_le hres3, ?_, ?_⟩
      · intro hk
        cases ok3 with
        | false => exact hT1 _ (nm_bad hres3 rfl)
        | true =>
          refine (hT2 _ _ (nm_good hres3 rfl)).2 ?_
          have := nm_le hres3
          simp at hk
          intro e
          rw [List.drop_eq_nil_iff] at e
          omega
      · intro hk
        cases ok3 with
        | false => cases hk
        | true =>
          obtain ⟨rfl, hl3⟩ := hu3 rfl
          refine ⟨rfl, rfl, rfl, rfl, hok0, (hT2 _ _ (nm_good hres3 rfl)).1 ?_, by omega, by omega, by omega, by omega⟩
          simp at hk
          exact List.drop_eq_nil_of_le (by omega))
  have f5 := h5
  try simp only [bl] at f5
  have hm5 : hdT (L.drop j) 0 outS = true := by simpa using f5
  rw [adv_true hm5]
  have hlt5 := hdT_lt hm5
  obtain ⟨hT1, hT2⟩ := hT.2 hm5
  rw [List.drop_drop] at hT1 hT2
  refine cK (tC (cS (cR ?_)))
  iterate 2 refine oV ?_
  refine oC trivial rfl Tryz.call70 rfl (rdNames_any b (j + 1) vall N0 u1' ul N0 ua L (hL.le hx3.le) hn hs (by omega)) (by repeat constructor) ?_
  rintro _ _ _ hx6 ⟨rfl, u3, ok3, j3, u3', l3, rfl, rfl, hres3, hu3, hcell3⟩
  iterate 4 refine oV ?_
  refine oF 3 Tryz.underlying66 Tryz.sizeOf27 ?_
  refine oF 2 Tryz.underlying27 Tryz.sizeOf23 ?_
  refine o_storeBox1 trivial rfl rfl (hcell3).1 Tryz.sizeOf23 (hcell3).2 (by repeat constructor) (by exact Nat.le_of_ble_eq_true rfl) ?_
  refine oV ?_
  refine oN (tC (cS ?_))
  refine c_quiet (by kernel_rfl) (by kernel_rfl) (fun _ h => h.drawn) ?_
  refine oV ?_
  refine' o_and trivial trivial rfl rfl rfl rfl rfl rfl rfl rfl (fun hb36 => ?_) ?_
  rotate_left
  ·
   have fb36 := hb36
   try simp only [bl] at fb36
   iterate 2 refine o_pv (wS rfl rfl hb36) rfl rfl ?_
   refine oX (T := 3) (off := 1) (wS rfl rfl hb36) rfl Tryz.underlying66 rfl rfl rfl Tryz.sizeOf3 rfl rfl ?_
   refine o_load1 (wS rfl rfl hb36) rfl Tryz.isAgg3 rfl (by repeat constructor) (by repeat constructor) ?_
   iterate 2 refine o_pv (wS rfl rfl hb36) rfl rfl ?_
   refine oX (T := 60) (off := 0) (wS rfl rfl hb36) rfl Tryz.underlying66 rfl rfl rfl Tryz.sizeOf60 rfl rfl ?_
   refine o_load1 (wS rfl rfl hb36) rfl Tryz.isAgg60 rfl (by repeat constructor) (by repeat constructor) ?_
   refine o_lenSlc (wS rfl rfl hb36) rfl Tryz.underlying60 rfl (hL.le hx3.le) ?_
   refine o_pv (wS rfl rfl hb36) rfl rfl ?_
   refine oN ?_
   exact joins rfl
  refine oV ?_
  refine oN (tC (cT ?_))
  refine ret1 rfl rfl ?_
  first
  | exact fun w' hw' => ⟨I, [rdB b vall 0 N0 N0 N0 N0 N0, nmR N0 [], ltR N0 [], nmR N0 [], ndR N0 []], ((((hw'.nilRow 9 1).nilRow 46 2).nilRow 9 1).nilRow 44 8).sort (by repeat constructor), Ext.refl _ _, false, 0, _, _, _, _, _, _, _, _, _, _, _, _, _, rfl, rfl, Nat.zero_le _, fun _ => hfin, fun h => by cases h⟩
  | exact fun w' hw' => ⟨I, [rdB b vall j1 N0 u1 N0 N0 N0, nmR N0 [], ltR N0 [], nmR N0 [], ndR N0 []], ((((hw'.nilRow 9 1).nilRow 46 2).nilRow 9 1).nilRow 44 8).sort (by repeat constructor), Ext.refl _ _, false, j1, _, _, _, _, _, _, _, _, _, _, _, _, _, rfl, rfl, hj1, fun _ => hfin, fun h => by cases h⟩
  | exact fun w' hw' => ⟨I2, [rdB b vall j2 us2 u1' ul2 N0 ua2, nmR N0 [], ltR N0 [], nmR N0 [], ndR N0 []], ((((hw'.nilRow 9 1).nilRow 46 2).nilRow 9 1).nilRow 44 8).sort (by repeat constructor), hx3.trans hx5 (Nat.le_refl _), false, j2, _, _, _, _, _, _, _, _, _, _, _, _, _, rfl, rfl, hj2, fun _ => hfin, fun h => by cases h⟩
  | exact fun w' hw' => ⟨I1, [rdB b vall j N0 u1' ul N0 ua, nmR N0 [], ltR N0 [], nmR N0 [], ndR N0 []], ((((hw'.nilRow 9 1).nilRow 46 2).nilRow 9 1).nilRow 44 8).sort (by repeat constructor), hx3, false, j, _, _, _, _, _, _, _, _, _, _, _, _, _, rfl, rfl, hj, fun _ => hfin, fun h => by cases h⟩
  | (refine fun w' hw' => ⟨I1, [rdB b vall j3 N0 u1' ul u3 ua, nmR u1' l1, ltR ul ls, nmR u3' l3, ndR ua n0], hw'.sort (by repeat constructor), hx3, _, j3, _, _, _, _, _, u1', ul, u3', ua, l1, ls, l3, n0, rfl, rfl, nm_le hres3, ?_, ?_⟩
     · intro hk
       cases ok3 with
       | false => exact hT1 _ (nm_bad hres3 rfl)
       | true =>
         refine (hT2 _ _ (nm_good hres3 rfl)).2 ?_
         have := nm_le hres3
         simp at hk
         intro e
         rw [List.drop_eq_nil_iff] at e
         omega
     · intro hk
       cases ok3 with
       | false => cases hk
       | true =>
         obtain ⟨rfl, hl3⟩ := hu3 rfl
         refine ⟨rfl, rfl, rfl, rfl, hok0, (hT2 _ _ (nm_good hres3 rfl)).1 ?_, by omega, by omega, by omega, by omega⟩
         simp at hk
         exact List.drop_eq_nil_of_le (by omega))
structure ToksFine (s : ByteArray) (L : List Tok) : Prop where
  ok : ToksOk L
  small : ∀ t ∈ L, t.text.size ≤ s.size
  few : L.length ≤ 4000
theorem tokZ_fine (s : ByteArray) (i : Nat) : ((tokZ s i).kind = 1 → numZ (tokZ s i).text = true) ∧ (tokZ s i).text.size ≤ s.size := by
  have hx : ∀ a b : Nat, (s.extract a b).size ≤ s.size := fun a b => by rw [ByteArray.size_extract]; omega
  unfold tokZ
  split
  · split
    · exact ⟨fun h => (by cases h), Nat.zero_le _⟩
    · exact ⟨fun h => (by cases h), hx _ _⟩
  · split
    · split
      · exact ⟨fun h => (by cases h), Nat.zero_le _⟩
      · split
        · rename_i h; exact ⟨fun _ => h, hx _ _⟩
        · exact ⟨fun h => (by cases h), Nat.zero_le _⟩
    · split
      · exact ⟨fun h => (by cases h), hx _ _⟩
      · exact ⟨fun h => (by cases h), Nat.zero_le _⟩
theorem lexAt_fine (s : ByteArray) : ∀ (f i : Nat) (out : List Tok), s.size ≤ i + f → ToksFine s out → ToksFine s (lexAt s i out).toks := by
  intro f
  induction f with
  | zero => intro i out h ho; rw [lexAt_end (by omega)]; exact ho
  | succ f ih =>
    intro i out h ho
    by_cases hi : i < s.size
    · rw [lexAt_open hi]
      split
      · exact ih (i + 1) out (by omega) ho
      · split
        · exact ⟨fun t ht => (by cases ht), fun t ht => (by cases ht), Nat.zero_le _⟩
        · split
          · exact ⟨fun t ht => (by cases ht), fun t ht => (by cases ht), Nat.zero_le _⟩
          · rename_i h4 he
            have hst := tokZ_stop hi (Decidable.not_not.1 he)
            obtain ⟨k1, k2⟩ := tokZ_fine s i
            refine ih (tokZ s i).stop _ (by omega) ⟨fun t ht => ?_, fun t ht => ?_, by rw [List.length_append]; show out.length + 1 ≤ 4000; omega⟩
            · rcases List.mem_append.1 ht with ht | ht
              · exact ho.ok t ht
              · rw [List.mem_singleton.1 ht]; exact k1
            · rcases List.mem_append.1 ht with ht | ht
              · exact ho.small t ht
              · rw [List.mem_singleton.1 ht]; exact k2
    · rw [lexAt_end (by omega)]; exact ho
theorem lexZ_fine {s : ByteArray} (hs : s.size ≤ 60000) : ToksFine s (lexZ s).toks := by
  rw [lexZ_at hs]
  exact lexAt_fine s s.size 0 [] (by omega) ⟨fun t ht => (by cases ht), fun t ht => (by cases ht), Nat.zero_le _⟩
structure PRes where
  p : ProgC
  line : Int
  col : Int
  err : Int
def noP : ProgC := ⟨[], [], [], []⟩
noncomputable def prgZ (L : List Tok) : PO := Classical.choose (Prg.some_out L)
theorem prgZ_is (L : List Tok) : Prg L (prgZ L) := Classical.choose_spec (Prg.some_out L)
noncomputable def parseT (s : ByteArray) (o : PO) : PRes := match o with
  | .bad [] => ⟨noP, (placeZ s s.size).1, (placeZ s s.size).2, 5⟩
  | .bad (t :: _) => ⟨noP, t.line, t.col, 5⟩
  | .ok p => if (tZ p).isSome = true then ⟨p, 0, 0, 0⟩ else ⟨noP, 1, 1, 4⟩
noncomputable def parseZ (s : ByteArray) : PRes := if (lexZ s).err ≠ 0 then ⟨noP, (lexZ s).line, (lexZ s).col, (lexZ s).err⟩ else parseT s (prgZ (lexZ s).toks)
theorem digs_ten_lt : ∀ (n : Nat), n < 10 ^ (digs n).length := by
  intro n
  induction n using Nat.strongRecOn with
  | ind n ih =>
    unfold digs
    split
    · simp; omega
    · rename_i h
      have := ih (n / 10) (by omega)
      rw [List.length_cons, Nat.pow_succ]
      omega
theorem Ex.few_all : ∀ (x : Ex) (b : Nat), x.ok → ∀ c ∈ x.nd b, c.few 5 := by
  intro x
  have none0 : ∀ {c : NodeC}, c.n = [] → c.d = [] → c.few 5 := fun h1 h2 => ⟨by rw [h1]; exact Nat.zero_le _, by rw [h2]; exact Nat.zero_le _⟩
  induction x with
  | ref t => intro b _ c hc; rw [List.mem_singleton.1 hc]; exact none0 rfl rfl
  | num q =>
    intro b hok c hc
    rw [List.mem_singleton.1 hc]
    have h1 := digs_ten_lt q.num.natAbs
    have h2 := digs_ten_lt q.den
    exact ⟨natW_forty (Nat.lt_of_lt_of_le h1 (Nat.pow_le_pow_right (by decide) hok.2.1)), natW_forty (Nat.lt_of_lt_of_le h2 (Nat.pow_le_pow_right (by decide) hok.2.2))⟩
  | neg x ih =>
    intro b hok c hc
    rcases List.mem_append.1 hc with hc | hc
    · exact ih b hok c hc
    · rw [List.mem_singleton.1 hc]; exact none0 rfl rfl
  | pow x e ih =>
    intro b hok c hc
    rcases List.mem_append.1 hc with hc | hc
    · exact ih b hok.1 c hc
    · rw [List.mem_singleton.1 hc]; exact none0 rfl rfl
  | bin k x y ih1 ih2 =>
    intro b hok c hc
    rcases List.mem_append.1 hc with hc | hc
    · rcases List.mem_append.1 hc with hc | hc
      · exact ih1 b hok.2.2.1 c hc
      · exact ih2 _ hok.2.2.2 c hc
    · rw [List.mem_singleton.1 hc]; exact none0 rfl rfl
theorem laid_few : ∀ (l : List (ByteArray × Ex)) (b : Nat), LetsOk l → ∀ c ∈ (laid l b).2, c.few 5
  | [], _, _, c, hc => by cases hc
  | (s, x) :: l, b, h, c, hc => by
    simp only [laid] at hc
    rcases List.mem_append.1 hc with hc | hc
    · exact Ex.few_all x b (h (s, x) (by simp)).2 c hc
    · exact laid_few l _ (fun a ha => h a (by simp [ha])) c hc
theorem Prg.few_all {L : List Tok} {p : ProgC} (h : Prg L (.ok p)) (hr : ToksOk L) : ∀ c ∈ p.all, c.few 5 := by
  obtain ⟨l, hs, _⟩ := h.ex hr
  rw [hs.all]
  exact laid_few l 0 hs.ok
def ParseV (r : PRes) (v : Value) (I' : Hp) : Prop := ∃ vi vl vo va ns, v = .tuple #[.agg #[vi, vl, vo, va], .agg #[.int .i64 r.line, .int .i64 r.col], .int .i64 r.err] ∧ ProgV I' vi vl vo va r.p ns ∧ ∀ o ∈ ns, o.c.few 5
theorem ProgV.nil (I : Hp) : ProgV I N0 N0 N0 N0 noP [] := ⟨Slc.nil _ _, Slc.nil _ _, Slc.nil _ _, Slc.nil _ _, fun o ho => (by cases ho), rfl⟩
theorem scs_one (l : List ByteArray) : ∀ c ∈ scs l, c.length = 1 := by
  intro c hc
  obtain ⟨x, _, rfl⟩ := List.mem_map.1 hc
  rfl
theorem nds_eight (l : List NodeV) : ∀ c ∈ nds l, c.length = 8 := by
  intro c hc
  obtain ⟨x, _, rfl⟩ := List.mem_map.1 hc
  rfl
theorem lts_two (l : List LetC) : ∀ c ∈ l.map LetC.cells, c.length = 2 := by
  intro c hc
  obtain ⟨x, _, rfl⟩ := List.mem_map.1 hc
  rfl
theorem parse_any (s : ByteArray) {I : Hp} (hT : Tabs I) (hM : Mx I) (hE : Errs I) (hs : s.size ≤ 60000) : Fun Tryz.prog 15 [.string s] I [] (fun v I' _ => ParseV (parseZ s) v I') := by
  have hfine := lexZ_fine hs
  intro w hw
  refine enter1 _ Tryz.func15 rfl Tryz.ntmps15 rfl ?_ hw
  refine cS (cR ?_)
  refine o_alloc trivial rfl Tryz.zeroValue27 rfl (fun b2 => ?_)
  refine o_alloc trivial rfl Tryz.zeroValue29 rfl (fun b3 => ?_)
  refine oV ?_
  refine oN (tC (cS (cR ?_)))
  refine oV ?_
  refine o_callI trivial rfl Tryz.call39 rfl (lex_any s hT hM hs) ?_
  rintro _ I1 hx1 ⟨u1, rfl, hs1⟩
  iterate 4 refine oV ?_
  refine o_alloc trivial rfl Tryz.zeroValue29 rfl (fun b6 => ?_)
  refine oV ?_
  refine oS Tryz.sizeOf29 ?_
  refine oV ?_
  refine oN (tC (cS (cS (cR ?_))))
  iterate 2 refine oV ?_
  refine oN (tC ?_)
  refine cC rfl (fun h1 => ?_) (fun h1 => ?_)
  ·
   have f1 := h1
   try simp only [bl] at f1
   have hz : parseZ s = ⟨noP, (lexZ s).line, (lexZ s).col, (lexZ s).err⟩ := by unfold parseZ; rw [if_pos (by simpa using h1)]
   refine cS ?_
   refine h_beginB (m := 6) [.box b6 _] (by repeat constructor) (by kernel_rfl) rfl ?_
   refine qT (i := 0) (qB 6 1) (Hp.Le.refl _) rfl rfl (o_buildS trivial rfl (bld27) rfl .nil qF) ?_
   refine qT (i := 1) (qB 6 3) (Hp.Le.refl _) rfl rfl (oA Tryz.isAgg29 Tryz.sizeOf29 qF) ?_
   refine qT (i := 2) (qB 6 7) (Hp.Le.refl _) rfl rfl (oV qF) ?_
   refine qO (i := 3) (qB 6 15) rfl ?_
   refine oS Tryz.sizeOf27 ?_
   refine qM (Hp.Le.refl _) ?_
   refine qO (i := 4) (qB 6 31) rfl ?_
   refine oS Tryz.sizeOf29 ?_
   refine qM (Hp.Le.refl _) ?_
   refine qT (i := 5) (qB 6 63) (Hp.Le.refl _) rfl rfl (oV qF) ?_
   refine h_end (by kernel_rfl) ?_
   refine tC (cT (tR ?_))
   refine retR rfl (.agg Tryz.isAgg27 Tryz.sizeOf27 rfl (by repeat constructor) rfl (.agg Tryz.isAgg29 Tryz.sizeOf29 rfl (by repeat constructor) rfl (.tmp rfl .nil))) ?_
   refine leaf hx1 (List.nil_sublist _) ?_
   rw [hz]
   exact ⟨N0, N0, N0, N0, [], rfl, ProgV.nil _, fun o ho => by cases ho⟩
  have f1 := h1
  try simp only [bl] at f1
  have hz : parseZ s = parseT s (prgZ (lexZ s).toks) := by unfold parseZ; rw [if_neg (by simpa using h1)]
  have hP := prgZ_is (lexZ s).toks
  generalize prgZ (lexZ s).toks = o at hz hP
  have htf := hfine.few
  have hsm : TkSmall (lexZ s).toks := fun t ht => Nat.le_trans (hfine.small t ht) hs
  refine cK (tC (cS (cR ?_)))
  refine oV ?_
  refine o_buildS trivial rfl (bld66) rfl (.cons rfl (by first | exact (Ws.cells1 (by assumption)).1 | exact (Slc.cells1 (by assumption)).1 | rfl) (by rfl) (by repeat constructor) .nil) ?_
  refine o_box trivial rfl rfl rfl (fun b24 => ?_)
  refine oV ?_
  refine oN (tC (cS (cS (cR ?_))))
  refine oV ?_
  refine oC trivial rfl Tryz.call40 rfl (rdProgram_any b24 u1 (lexZ s).toks (hM.le hx1.le) (hE.le hx1.le) hs1 (by omega) hsm hfine.ok hP) (by repeat constructor) ?_
  rintro _ I2 _ hx2 ⟨ok, i, us, vi, vl, vo, va, wi, wl, wo, wa, ins, ls, outs, ns, rfl, rfl, hi, hno, hyes⟩
  refine oV ?_
  refine oN (tC ?_)
  refine cC rfl (fun h2 => ?_) (fun h2 => ?_)
  ·
   have f2 := h2
   try simp only [bl] at f2
   have hk : ok = false := by simpa using f2
   have hbad := hno hk
   refine cS (cS (cR ?_))
   refine oV ?_
   refine oC trivial rfl Tryz.call41 rfl (rdNext_any b24 i u1 us vi vl vo va (lexZ s).toks (hs1.le hx2.le)) (by repeat constructor) ?_
   rintro _ _ _ hx3 ⟨rfl, rfl, rfl⟩
   iterate 3 refine oV ?_
   refine o_alloc trivial rfl Tryz.zeroValue68 rfl (fun b9 => ?_)
   refine oS Tryz.sizeOf68 ?_
   refine oV ?_
   refine oN (tC (cS (cR ?_)))
   refine oV ?_
   refine oN (tC ?_)
   refine cC rfl (fun h3 => ?_) (fun h3 => ?_)
   ·
    have f3 := h3
    try simp only [bl] at f3
    refine cS ?_
    refine h_beginB (m := 6) [.box b9 _] (by repeat constructor) (by kernel_rfl) rfl ?_
    refine qT (i := 0) (qB 6 1) (Hp.Le.refl _) rfl rfl (o_buildS trivial rfl (bld27) rfl .nil qF) ?_
    refine qT (i := 1) (qB 6 3) (Hp.Le.refl _) rfl rfl (oF 2 Tryz.underlying68 Tryz.sizeOf29 qF) ?_
    refine qT (i := 2) (qB 6 7) (Hp.Le.refl _) rfl rfl (oA Tryz.isAgg29 Tryz.sizeOf29 qF) ?_
    refine qO (i := 3) (qB 6 15) rfl ?_
    refine oS Tryz.sizeOf27 ?_
    refine qM (Hp.Le.refl _) ?_
    refine qO (i := 4) (qB 6 31) rfl ?_
    refine oS Tryz.sizeOf29 ?_
    refine qM (Hp.Le.refl _) ?_
    refine qT (i := 5) (qB 6 63) (Hp.Le.refl _) rfl rfl (oV qF) ?_
    refine h_end (by kernel_rfl) ?_
    refine tC (cT (tR (tR ?_)))
    refine retR rfl (.agg Tryz.isAgg27 Tryz.sizeOf27 rfl (by repeat constructor) rfl (.agg Tryz.isAgg29 Tryz.sizeOf29 rfl (by repeat constructor) rfl (.tmp rfl .nil))) ?_
    refine leaf (hx1.trans hx2 (Nat.le_refl _)) (List.nil_sublist _) ?_
    rw [hz, hbad, drop_cons (by simpa using h3)]
    exact ⟨N0, N0, N0, N0, [], rfl, ProgV.nil _, fun o ho => by cases ho⟩
   have f3 := h3
   try simp only [bl] at f3
   refine cK (tC (cS (cR ?_)))
   refine o_buildS trivial rfl (bld27) rfl .nil ?_
   iterate 2 refine oV ?_
   refine o_lenS trivial rfl Tryz.underlying9 rfl ?_
   refine o_callQ trivial rfl Tryz.call28 rfl (place_any s (s.size : Nat) (by omega)) ?_
   refine oS Tryz.sizeOf27 ?_
   refine oS Tryz.sizeOf29 ?_
   refine oV ?_
   refine oN (tC (cT (tR ?_)))
   refine retR rfl (.agg Tryz.isAgg27 Tryz.sizeOf27 rfl (by repeat constructor) rfl (.agg Tryz.isAgg29 Tryz.sizeOf29 rfl (by repeat constructor) rfl (.tmp rfl .nil))) ?_
   refine leaf (hx1.trans hx2 (Nat.le_refl _)) (List.nil_sublist _) ?_
   rw [hz, hbad, List.drop_eq_nil_of_le (by have := f3; omega)]
   exact ⟨N0, N0, N0, N0, [], rfl, ProgV.nil _, fun o ho => by cases ho⟩
  have f2 := h2
  try simp only [bl] at f2
  have hk : ok = true := by simpa using f2
  obtain ⟨rfl, rfl, rfl, rfl, hok, rfl, hb1, hb2, hb3, hb4⟩ := hyes hk
  have hfew : ∀ o ∈ ns, o.c.few 5 := fun o ho => Prg.few_all hP hfine.ok o.c (List.mem_map.2 ⟨o, ho, rfl⟩)
  refine cK (tC (cS (cS ?_)))
  refine c_sealR (u := wi) (xss := scs ins) (by repeat constructor) (scs_len _) (scs_one _) (by unfold maxLen; omega) (fun I3 hx3 hsi => ?_)
  refine c_sealR (u := wl) (xss := ls.map LetC.cells) (by repeat constructor) (List.length_map _) (lts_two _) (by unfold maxLen; omega) (fun I4 hx4 hsl => ?_)
  refine c_sealR (u := wo) (xss := scs outs) (by repeat constructor) (scs_len _) (scs_one _) (by unfold maxLen; omega) (fun I5 hx5 hso => ?_)
  refine c_sealR (u := wa) (xss := nds ns) (by repeat constructor) (nds_len _) (nds_eight _) (by unfold maxLen; omega) (fun I6 hx6 hsa => ?_)
  have hsi := hsi.le (hx4.le.trans (hx5.le.trans hx6.le))
  have hsl := hsl.le (hx5.le.trans hx6.le)
  have hso := hso.le hx6.le
  have hpv : ProgV I6 wi wl wo wa ⟨ins, ls, outs, ns.map NodeV.c⟩ ns := ⟨hsi, hsl, hso, hsa, fun o ho => (hok o ho).le (hx3.le.trans (hx4.le.trans (hx5.le.trans hx6.le))), rfl⟩
  have hx16 : Ext w.heap.size I I6 := hx1.trans (hx2.trans (hx3.trans (hx4.trans (hx5.trans hx6 (Nat.le_refl _)) (Nat.le_refl _)) (Nat.le_refl _)) (Nat.le_refl _)) (Nat.le_refl _)
  refine cR ?_
  iterate 2 refine oV ?_
  refine oF 3 Tryz.underlying66 Tryz.sizeOf27 ?_
  refine oA Tryz.isAgg27 Tryz.sizeOf27 ?_
  refine o_callQ trivial rfl Tryz.call21 rfl (trRight_any wi wl wo wa _ ns hpv (fun o ho => ⟨by have := (hfew o ho).1; omega, by have := (hfew o ho).2; omega⟩)) ?_
  refine oV ?_
  refine oN (tC ?_)
  refine cC rfl (fun h4 => ?_) (fun h4 => ?_)
  ·
   have f4 := h4
   try simp only [bl] at f4
   refine cS (cR ?_)
   refine o_buildS trivial rfl (bld27) rfl .nil ?_
   refine o_buildS trivial rfl (bld29) rfl (.cons rfl rfl rfl (by repeat constructor) (.cons rfl rfl rfl (by repeat constructor) .nil)) ?_
   refine oS Tryz.sizeOf27 ?_
   refine oS Tryz.sizeOf29 ?_
   refine oV ?_
   refine oN (tC (cT (tR ?_)))
   refine retR rfl (.agg Tryz.isAgg27 Tryz.sizeOf27 rfl (by repeat constructor) rfl (.agg Tryz.isAgg29 Tryz.sizeOf29 rfl (by repeat constructor) rfl (.tmp rfl .nil))) ?_
   refine leaf hx16 (List.nil_sublist _) ?_
   rw [hz]
   unfold parseT
   dsimp only
   rw [if_neg (by simpa using h4)]
   exact ⟨N0, N0, N0, N0, [], rfl, ProgV.nil _, fun o ho => by cases ho⟩
  have f4 := h4
  try simp only [bl] at f4
  refine cK (tC (cS (cR ?_)))
  iterate 2 refine oV ?_
  refine oF 3 Tryz.underlying66 Tryz.sizeOf27 ?_
  refine oA Tryz.isAgg27 Tryz.sizeOf27 ?_
  refine o_buildS trivial rfl (bld29) rfl .nil ?_
  refine oS Tryz.sizeOf27 ?_
  refine oS Tryz.sizeOf29 ?_
  refine oV ?_
  refine oN (tC (cT ?_))
  refine retR rfl (.agg Tryz.isAgg27 Tryz.sizeOf27 rfl (by repeat constructor) rfl (.agg Tryz.isAgg29 Tryz.sizeOf29 rfl (by repeat constructor) rfl (.tmp rfl .nil))) ?_
  refine leaf hx16 (List.nil_sublist _) ?_
  rw [hz]
  unfold parseT
  dsimp only
  rw [if_pos (by simpa using h4)]
  exact ⟨wi, wl, wo, wa, ns, rfl, hpv, hfew⟩
def expoF : List Tok → Option Int × List Tok
  | [] => (none, [])
  | x :: r => if isT x 2 minusS then (match r with
      | [] => (none, [])
      | y :: r' => if y.kind = 1 then (match expoZ y.text with | some n => (some (-(n : Int)), r') | none => (none, y :: r')) else (none, y :: r'))
    else if x.kind = 1 then (match expoZ x.text with | some n => (some (n : Int), r) | none => (none, x :: r)) else (none, x :: r)
theorem Expo.fn {r r1 : List Tok} {e : Option Int} (h : Expo r e r1) : expoF r = (e, r1) := by
  cases h with
  | neg h1 h2 h3 => simp only [expoF, h1, if_true, h2, h3]
  | neg_end h1 => simp only [expoF, h1, if_true]
  | @neg_bad x y r h1 h2 =>
    simp only [expoF, h1, if_true]
    by_cases hk : y.kind = 1
    · rw [if_pos hk, h2 hk]
    · rw [if_neg hk]
  | pos h1 h2 h3 => simp [expoF, h1, h2, h3]
  | pos_end => rfl
  | @pos_bad y r h1 h2 =>
    simp only [expoF, h1]
    by_cases hk : y.kind = 1
    · rw [if_neg (by decide), if_pos hk, h2 hk]
    · rw [if_neg (by decide), if_neg hk]
def psF : Nat → Lv → List NodeC → List Tok → POut
  | 0, _, _, r => .bad r
  | f + 1, .atom, all, r => match r with
    | [] => .bad []
    | x :: r' => if isT x 2 lpar then (match psF f .sum all r' with
        | .bad r1 => .bad r1
        | .ok a1 r1 => if hdT r1 2 rpar then .ok a1 (r1.drop 1) else .bad r1)
      else if leafT x then .ok (all ++ [leafN x]) r' else .bad (x :: r')
  | f + 1, .powL, all, r => match r with
    | [] => .ok all []
    | x :: r' => if isT x 2 Go.Tw.caret then (match expoF r' with
        | (some e, r1) => .ok (all ++ [powN (lastI all) e]) r1
        | (none, r1) => .bad r1) else .ok all (x :: r')
  | f + 1, .power, all, r => match psF f .atom all r with
    | .bad r1 => .bad r1
    | .ok a1 r1 => psF f .powL a1 r1
  | f + 1, .factor, all, r => match r with
    | [] => psF f .power all []
    | x :: r' => if isT x 2 minusS then (match psF f .factor all r' with
        | .bad r1 => .bad r1
        | .ok a1 r1 => .ok (a1 ++ [negN (lastI a1)]) r1) else psF f .power all (x :: r')
  | f + 1, .prodL, all, r => match hdK mulK r with
    | none => .ok all r
    | some k => match psF f .factor all (r.drop 1) with
      | .bad r1 => .bad r1
      | .ok a1 r1 => psF f .prodL (a1 ++ [binN k (lastI all) (lastI a1)]) r1
  | f + 1, .product, all, r => match psF f .factor all r with
    | .bad r1 => .bad r1
    | .ok a1 r1 => psF f .prodL a1 r1
  | f + 1, .sumL, all, r => match hdK addK r with
    | none => .ok all r
    | some k => match psF f .product all (r.drop 1) with
      | .bad r1 => .bad r1
      | .ok a1 r1 => psF f .sumL (a1 ++ [binN k (lastI all) (lastI a1)]) r1
  | f + 1, .sum, all, r => match psF f .product all r with
    | .bad r1 => .bad r1
    | .ok a1 r1 => psF f .sumL a1 r1
def rkL : Lv → Nat
  | .atom => 1
  | .powL => 1
  | .power => 2
  | .factor => 3
  | .prodL => 1
  | .product => 4
  | .sumL => 1
  | .sum => 5
theorem ps_fn {lv : Lv} {all : List NodeC} {r : List Tok} {o : POut} (h : Ps lv all r o) : ∀ f, 8 * r.length + rkL lv ≤ f → psF f lv all r = o := by
  have len1 : ∀ {lv : Lv} {all a1 : List NodeC} {r r1 : List Tok}, Ps lv all r (.ok a1 r1) → r1.length + lv.need ≤ r.length := fun h => h.len
  induction h with
  | par_bad hx h ih =>
    intro f hf
    obtain ⟨f, rfl⟩ : ∃ g, f = g + 1 := ⟨f - 1, by simp only [rkL] at hf; omega⟩
    simp only [List.length_cons, rkL] at hf
    simp only [psF, hx, if_true]
    rw [ih f (by simp only [rkL]; omega)]
  | par_ok hx h hy ih =>
    intro f hf
    obtain ⟨f, rfl⟩ : ∃ g, f = g + 1 := ⟨f - 1, by simp only [rkL] at hf; omega⟩
    simp only [List.length_cons, rkL] at hf
    simp only [psF, hx, if_true]
    rw [ih f (by simp only [rkL]; omega)]
    simp only [hdT, hy, if_true, List.drop_one, List.tail_cons]
  | par_no hx h hy ih =>
    intro f hf
    obtain ⟨f, rfl⟩ : ∃ g, f = g + 1 := ⟨f - 1, by simp only [rkL] at hf; omega⟩
    simp only [List.length_cons, rkL] at hf
    simp only [psF, hx, if_true]
    rw [ih f (by simp only [rkL]; omega)]
    simp only [hy]
    rfl
  | @leaf all x r hl =>
    intro f hf
    obtain ⟨f, rfl⟩ : ∃ g, f = g + 1 := ⟨f - 1, by simp only [rkL] at hf; omega⟩
    have hp : isT x 2 lpar = false := by
      cases hb : isT x 2 lpar with
      | false => rfl
      | true => rw [leafT, (isT_iff.1 hb).1] at hl; exact absurd hl (by simp)
    simp [psF, hp, hl]
  | none =>
    intro f hf
    obtain ⟨f, rfl⟩ : ∃ g, f = g + 1 := ⟨f - 1, by simp only [rkL] at hf; omega⟩
    rfl
  | no h1 h2 =>
    intro f hf
    obtain ⟨f, rfl⟩ : ∃ g, f = g + 1 := ⟨f - 1, by simp only [rkL] at hf; omega⟩
    simp [psF, h1, h2]
  | @pow_none all r h1 =>
    intro f hf
    obtain ⟨f, rfl⟩ : ∃ g, f = g + 1 := ⟨f - 1, by simp only [rkL] at hf; omega⟩
    cases r with
    | nil => rfl
    | cons x r => simp only [hdT] at h1; simp [psF, h1]
  | pow_ok h1 h2 =>
    intro f hf
    obtain ⟨f, rfl⟩ : ∃ g, f = g + 1 := ⟨f - 1, by simp only [rkL] at hf; omega⟩
    simp [psF, h1, Expo.fn h2]
  | pow_bad h1 h2 =>
    intro f hf
    obtain ⟨f, rfl⟩ : ∃ g, f = g + 1 := ⟨f - 1, by simp only [rkL] at hf; omega⟩
    simp [psF, h1, Expo.fn h2]
  | power_bad h ih =>
    intro f hf
    obtain ⟨f, rfl⟩ : ∃ g, f = g + 1 := ⟨f - 1, by simp only [rkL] at hf; omega⟩
    simp only [psF]
    rw [ih f (by simp only [rkL] at hf ⊢; omega)]
  | power_ok h h2 ih ih2 =>
    intro f hf
    obtain ⟨f, rfl⟩ : ∃ g, f = g + 1 := ⟨f - 1, by simp only [rkL] at hf; omega⟩
    have hl := len1 h
    simp only [psF]
    rw [ih f (by simp only [rkL] at hf ⊢; omega)]
    exact ih2 f (by simp only [rkL, Lv.need] at hf hl ⊢; omega)
  | neg_bad hx h ih =>
    intro f hf
    obtain ⟨f, rfl⟩ : ∃ g, f = g + 1 := ⟨f - 1, by simp only [rkL] at hf; omega⟩
    simp only [List.length_cons, rkL] at hf
    simp only [psF, hx, if_true]
    rw [ih f (by simp only [rkL]; omega)]
  | neg_ok hx h ih =>
    intro f hf
    obtain ⟨f, rfl⟩ : ∃ g, f = g + 1 := ⟨f - 1, by simp only [rkL] at hf; omega⟩
    simp only [List.length_cons, rkL] at hf
    simp only [psF, hx, if_true]
    rw [ih f (by simp only [rkL]; omega)]
  | @fac all r o h1 h ih =>
    intro f hf
    obtain ⟨f, rfl⟩ : ∃ g, f = g + 1 := ⟨f - 1, by simp only [rkL] at hf; omega⟩
    have := ih f (by simp only [rkL] at hf ⊢; omega)
    cases r with
    | nil => exact this
    | cons x r =>
      simp only [hdT] at h1
      simp only [psF, h1]
      exact this
  | prodL_end h1 =>
    intro f hf
    obtain ⟨f, rfl⟩ : ∃ g, f = g + 1 := ⟨f - 1, by simp only [rkL] at hf; omega⟩
    simp only [psF, h1]
  | @prodL_bad all x r r1 k hk h ih =>
    intro f hf
    obtain ⟨f, rfl⟩ : ∃ g, f = g + 1 := ⟨f - 1, by simp only [rkL] at hf; omega⟩
    simp only [List.length_cons, rkL] at hf
    have hk' : hdK mulK (x :: r) = some k := hk
    simp only [psF, hk', List.drop_one, List.tail_cons]
    rw [ih f (by simp only [rkL]; omega)]
  | @prodL_ok all a1 x r r1 k o hk h h2 ih ih2 =>
    intro f hf
    obtain ⟨f, rfl⟩ : ∃ g, f = g + 1 := ⟨f - 1, by simp only [rkL] at hf; omega⟩
    simp only [List.length_cons, rkL] at hf
    have hl := len1 h
    have hk' : hdK mulK (x :: r) = some k := hk
    simp only [psF, hk', List.drop_one, List.tail_cons]
    rw [ih f (by simp only [rkL]; omega)]
    exact ih2 f (by simp only [rkL, Lv.need] at hl ⊢; omega)
  | product_bad h ih =>
    intro f hf
    obtain ⟨f, rfl⟩ : ∃ g, f = g + 1 := ⟨f - 1, by simp only [rkL] at hf; omega⟩
    simp only [psF]
    rw [ih f (by simp only [rkL] at hf ⊢; omega)]
  | product_ok h h2 ih ih2 =>
    intro f hf
    obtain ⟨f, rfl⟩ : ∃ g, f = g + 1 := ⟨f - 1, by simp only [rkL] at hf; omega⟩
    have hl := len1 h
    simp only [psF]
    rw [ih f (by simp only [rkL] at hf ⊢; omega)]
    exact ih2 f (by simp only [rkL, Lv.need] at hf hl ⊢; omega)
  | sumL_end h1 =>
    intro f hf
    obtain ⟨f, rfl⟩ : ∃ g, f = g + 1 := ⟨f - 1, by simp only [rkL] at hf; omega⟩
    simp only [psF, h1]
  | @sumL_bad all x r r1 k hk h ih =>
    intro f hf
    obtain ⟨f, rfl⟩ : ∃ g, f = g + 1 := ⟨f - 1, by simp only [rkL] at hf; omega⟩
    simp only [List.length_cons, rkL] at hf
    have hk' : hdK addK (x :: r) = some k := hk
    simp only [psF, hk', List.drop_one, List.tail_cons]
    rw [ih f (by simp only [rkL]; omega)]
  | @sumL_ok all a1 x r r1 k o hk h h2 ih ih2 =>
    intro f hf
    obtain ⟨f, rfl⟩ : ∃ g, f = g + 1 := ⟨f - 1, by simp only [rkL] at hf; omega⟩
    simp only [List.length_cons, rkL] at hf
    have hl := len1 h
    have hk' : hdK addK (x :: r) = some k := hk
    simp only [psF, hk', List.drop_one, List.tail_cons]
    rw [ih f (by simp only [rkL]; omega)]
    exact ih2 f (by simp only [rkL, Lv.need] at hl ⊢; omega)
  | sum_bad h ih =>
    intro f hf
    obtain ⟨f, rfl⟩ : ∃ g, f = g + 1 := ⟨f - 1, by simp only [rkL] at hf; omega⟩
    simp only [psF]
    rw [ih f (by simp only [rkL] at hf ⊢; omega)]
  | sum_ok h h2 ih ih2 =>
    intro f hf
    obtain ⟨f, rfl⟩ : ∃ g, f = g + 1 := ⟨f - 1, by simp only [rkL] at hf; omega⟩
    have hl := len1 h
    simp only [psF]
    rw [ih f (by simp only [rkL] at hf ⊢; omega)]
    exact ih2 f (by simp only [rkL, Lv.need] at hf hl ⊢; omega)
def lt1F (all : List NodeC) (r : List Tok) : LO := match r with
  | [] => .bad []
  | x :: r' => if nameT x then (if hdT r' 2 equalS then (match psF (8 * r'.length + 5) .sum all (r'.drop 1) with
      | .bad r1 => .bad r1
      | .ok a1 r1 => if hdT r1 2 semiS then .ok x.text a1 (r1.drop 1) else .bad r1) else .bad r') else .bad (x :: r')
theorem lt1_fn {all : List NodeC} {r : List Tok} {o : LO} (h : Lt1 all r o) : lt1F all r = o := by
  cases h with
  | noname h0 => cases r with
    | nil => rfl
    | cons x r => simp only [hdN] at h0; simp [lt1F, h0]
  | @noeq x r h0 h1 => simp only [lt1F, h0, if_true, h1]; rfl
  | @sumbad x y r r1 h0 h1 h2 =>
    have h1' : hdT (y :: r) 2 equalS = true := h1
    have := ps_fn h2 (8 * (y :: r).length + 5) (by simp only [rkL, List.length_cons]; omega)
    simp only [lt1F, h0, if_true, h1', List.drop_one, List.tail_cons, this]
  | @nosemi a1 x y r r1 h0 h1 h2 h3 =>
    have h1' : hdT (y :: r) 2 equalS = true := h1
    have := ps_fn h2 (8 * (y :: r).length + 5) (by simp only [rkL, List.length_cons]; omega)
    simp only [lt1F, h0, if_true, h1', List.drop_one, List.tail_cons, this, h3]
    rfl
  | @ok a1 x y z r r1 h0 h1 h2 h3 =>
    have h1' : hdT (y :: r) 2 equalS = true := h1
    have h3' : hdT (z :: r1) 2 semiS = true := h3
    have := ps_fn h2 (8 * (y :: r).length + 5) (by simp only [rkL, List.length_cons]; omega)
    simp only [lt1F, h0, if_true, h1', List.drop_one, List.tail_cons, this, h3']
def ltsF : Nat → List LetC → List NodeC → List Tok → LSO
  | 0, ls, all, r => .bad r
  | f + 1, ls, all, r => if hdT r 0 letS then (match lt1F all (r.drop 1) with
      | .bad r1 => .bad r1
      | .ok n a1 r1 => ltsF f (ls ++ [⟨n, lastI a1⟩]) a1 r1) else .ok ls all r
theorem lts_fn {ls : List LetC} {all : List NodeC} {r : List Tok} {o : LSO} (h : Lts ls all r o) : ∀ f, r.length < f → ltsF f ls all r = o := by
  induction h with
  | fin h0 =>
    intro f hf
    obtain ⟨f, rfl⟩ : ∃ g, f = g + 1 := ⟨f - 1, by omega⟩
    simp [ltsF, h0]
  | @bad ls all x r r1 h0 h1 =>
    intro f hf
    obtain ⟨f, rfl⟩ : ∃ g, f = g + 1 := ⟨f - 1, by omega⟩
    have h0' : hdT (x :: r) 0 letS = true := h0
    simp only [ltsF, h0', if_true, List.drop_one, List.tail_cons, lt1_fn h1]
  | @more ls all a1 x n r r1 o h0 h1 h2 ih =>
    intro f hf
    obtain ⟨f, rfl⟩ : ∃ g, f = g + 1 := ⟨f - 1, by omega⟩
    have hl := h1.len
    have h0' : hdT (x :: r) 0 letS = true := h0
    simp only [List.length_cons] at hf
    simp only [ltsF, h0', if_true, List.drop_one, List.tail_cons, lt1_fn h1, ih f (by omega)]
def prgF (r : List Tok) : PO :=
  if hdT r 0 inS then (match namesZ (r.drop 1) with
    | .bad r1 => .bad r1
    | .ok ins r1 => match ltsF (r1.length + 1) [] [] r1 with
      | .bad r2 => .bad r2
      | .ok ls all r2 => if hdT r2 0 outS then (match namesZ (r2.drop 1) with
          | .bad r3 => .bad r3
          | .ok outs [] => .ok ⟨ins, ls, outs, all⟩
          | .ok outs (z :: r3) => .bad (z :: r3)) else .bad r2) else .bad r
theorem prg_fn {r : List Tok} {o : PO} (h : Prg r o) : prgF r = o := by
  have h0' : ∀ {x : Tok} {r : List Tok} {k : Int} {t : ByteArray}, isT x k t = true → hdT (x :: r) k t = true := fun h => h
  cases h with
  | noin h0 => simp [prgF, h0]
  | insbad h0 h1 => simp [prgF, h0' h0, h1]
  | letsbad h0 h1 h2 => simp [prgF, h0' h0, h1, lts_fn h2 _ (Nat.lt_succ_self _)]
  | noout h0 h1 h2 h3 => simp [prgF, h0' h0, h1, lts_fn h2 _ (Nat.lt_succ_self _), h3]
  | outsbad h0 h1 h2 h3 h4 => simp [prgF, h0' h0, h1, lts_fn h2 _ (Nat.lt_succ_self _), h0' h3, h4]
  | tail h0 h1 h2 h3 h4 => simp [prgF, h0' h0, h1, lts_fn h2 _ (Nat.lt_succ_self _), h0' h3, h4]
  | ok h0 h1 h2 h3 h4 => simp [prgF, h0' h0, h1, lts_fn h2 _ (Nat.lt_succ_self _), h0' h3, h4]
theorem prgZ_fn (r : List Tok) : prgZ r = prgF r := (prg_fn (prgZ_is r)).symm
theorem prgZ_eq {r : List Tok} {o : PO} (h : Prg r o) : prgZ r = o := (prgZ_fn r).trans (prg_fn h)
end Go.Proofs.YtmgpifkekofacaaGreatDoor
namespace Go.Tw
open Go
structure RV where
  q : Rat
  vn : Value
  vd : Value
def RV.cells (r : RV) : List Value := [.bool (decide (r.q.num < 0)), r.vn, r.vd]
def RV.ok (I : Hp) (r : RV) : Prop := Ws I r.vn (natW r.q.num.natAbs) ∧ Ws I r.vd (natW r.q.den)
theorem RV.ok.le {I I' : Hp} {r : RV} (h : r.ok I) (hl : I.Le I') : r.ok I' := ⟨h.1.le hl, h.2.le hl⟩
def rcs (rs : List RV) : List (List Value) := rs.map RV.cells
end Go.Tw
namespace Go.Proofs.YtmgpifkekofacaaGreatDoor
open Go Go.Tw
end Go.Proofs.YtmgpifkekofacaaGreatDoor
namespace Go.Tw
open Go
structure NV where
  neg : Bool
  n : List Nat
  d : List Nat
  vn : Value
  vd : Value
def NV.cells (x : NV) : List Value := [.bool x.neg, x.vn, x.vd]
def NV.ok (I : Hp) (x : NV) : Prop := Ws I x.vn x.n ∧ Ws I x.vd x.d
def NV.q (x : NV) : Rat := lowQ x.neg (val x.n) (val x.d)
theorem NV.ok.le {I I' : Hp} {r : NV} (h : r.ok I) (hl : I.Le I') : r.ok I' := ⟨h.1.le hl, h.2.le hl⟩
structure PtV (I : Hp) (v : Value) (xs : List NV) : Prop where
  s : Slc I 3 v (xs.map NV.cells)
  ok : ∀ x ∈ xs, x.ok I
theorem PtV.le {I I' : Hp} {v : Value} {xs : List NV} (h : PtV I v xs) (hl : I.Le I') : PtV I' v xs := ⟨h.s.le hl, fun o ho => (h.ok o ho).le hl⟩
theorem NV.at_ {I : Hp} {v : Value} {xs : List NV} (h : PtV I v xs) {i : Nat} {x : NV} (hx : xs[i]? = some x) : ∀ k y, ([.bool x.neg, x.vn, x.vd] : List Value)[k]? = some y → I.cell? ⟨slcB v, slcO v + i * 3 + k, none⟩ = some y :=
  h.s.cells i _ (by rw [List.getElem?_map, hx]; rfl)
structure RsV (I : Hp) (v : Value) (l : List Rat) : Prop where
  out : ∃ rs : List RV, Slc I 3 v (rcs rs) ∧ (∀ r ∈ rs, r.ok I) ∧ rs.map RV.q = l
theorem RsV.le {I I' : Hp} {v : Value} {l : List Rat} (h : RsV I v l) (hl : I.Le I') : RsV I' v l := let ⟨rs, h1, h2, h3⟩ := h.out; ⟨rs, h1.le hl, fun r hr => (h2 r hr).le hl, h3⟩
end Go.Tw
namespace Go.Proofs.YtmgpifkekofacaaGreatDoor
open Go Go.Tw
end Go.Proofs.YtmgpifkekofacaaGreatDoor
namespace Go.Tw
open Go Go.RowKit
theorem wl_more {z : Int} {x : Nat} (O : List Nat) (h : z = x) : wl O ++ [.int .u32 z] = wl (O ++ [x]) := by subst h; simp [wl]
theorem take_more {A : List Nat} {i : Nat} (h : i < A.length) : A.take (i + 1) = A.take i ++ [dg A i] := by
  rw [List.take_add_one, dg_some h]; rfl
theorem eq_of_dg {A B : List Nat} (hl : A.length = B.length) (h : ∀ j, j < A.length → dg A j = dg B j) : A = B := by
  refine List.ext_getElem hl fun i h1 h2 => ?_
  have := h i h1
  rwa [dg_in h1, dg_in h2] at this
theorem cmp_lt {A B : List Nat} (hA : Wds A) (hB : Wds B) {i : Nat} (h : dg A i < dg B i) (he : ∀ t, i < t → dg A t = dg B t) : val A < val B := by
  have key : ∀ k, pre A (i + 1 + k) < pre B (i + 1 + k) := by
    intro k
    induction k with
    | zero =>
      have h1 := pre_lt hA i
      show pre A i + dg A i * 4294967296 ^ i < pre B i + dg B i * 4294967296 ^ i
      have h2 : (dg A i + 1) * 4294967296 ^ i ≤ dg B i * 4294967296 ^ i := Nat.mul_le_mul_right _ h
      rw [Nat.add_mul, Nat.one_mul] at h2
      omega
    | succ k ih =>
      show pre A (i + 1 + k) + dg A (i + 1 + k) * 4294967296 ^ (i + 1 + k) < pre B (i + 1 + k) + dg B (i + 1 + k) * 4294967296 ^ (i + 1 + k)
      rw [he (i + 1 + k) (by omega)]
      omega
  have h1 := key (A.length + B.length)
  rwa [pre_out (by omega), pre_out (by omega)] at h1
theorem val_same {A B : List Nat} (he : ∀ t, dg A t = dg B t) : val A = val B := by
  have h1 : pre A (A.length + B.length) = pre B (A.length + B.length) := pre_same fun j _ => he j
  rwa [pre_out (by omega), pre_out (by omega)] at h1
theorem val_more (O : List Nat) (x : Nat) : val (O ++ [x]) = val O + 4294967296 ^ O.length * x := by
  rw [val_app, val_cons, val_nil, Nat.mul_zero, Nat.add_zero]
theorem Wds.more {O : List Nat} (h : Wds O) {x : Nat} (hx : x < 4294967296) : Wds (O ++ [x]) := h.app (Wds_cons hx Wds_nil)
section
variable {P : Program} {Q : Exit → Act → World → Prop} {n : Nat} {D : List Deferred} {E : Env} {ops : Array Oper} {w0 : World} {I : Hp} {B B' : List Item}
theorem leafWX {w : World} {e : TypeId} {u v : Value} {O : List Nat} {I I1 : Hp} {B : List Item} {R : Value → Hp → List Item → Prop} (he : Ext w.heap.size I I1) (hw : Wds O) (hm : O.length ≤ maxLen) (h : ∀ I', I1.Le I' → Ws I' u O → R v I' []) :
    ∀ w', St w [] I1 (.row u e 1 O.length (wl O) :: B) w' → Post w [] I R v w' := by
  rw [← wcs_flat]
  exact leafRowX he (wcs_len O) (wcs_one O) hm fun I' hl hs => h I' hl ⟨hs, hw⟩
theorem c_sealO {c : Code} {e : TypeId} {u : Value} (O : List Nat) (ht : Take (.row u e 1 O.length (wl O)) B B') (hw : Wds O) (hm : O.length ≤ maxLen)
    (k : ∀ I', Ext w0.heap.size I I' → Ws I' u O → TC P c Q n D E (St w0 [] I' B')) : TC P c Q n D E (St w0 [] I B) :=
  c_sealR (xss := wcs O) (by rw [wcs_flat]; exact ht) (wcs_len O) (wcs_one O) hm fun I' hx hs => k I' hx ⟨hs, hw⟩
end
end Go.Tw
namespace Go.Proofs.YtmgpifkekofacaaGreatDoor
open Go Go.Tw
theorem rLow_any (va : Value) (A : List Nat) {I : Hp} (ha : Ws I va A) (hs : A.length ≤ 1000000000) : Fun Tryz.prog 139 [va] I [] (fun v _ _ => v = .int .i64 (lowL A : Nat)) := by
  intro w hw
  refine enter1 _ Tryz.func139 rfl Tryz.ntmps139 rfl ?_ hw
  refine cS (cR ?_)
  refine oV ?_
  refine oN (tC (cS (cR ?_)))
  refine oV ?_
  refine oN (tC (cS (cS (cR ?_))))
  refine oV ?_
  refine oN (tC (cB ?_))
  refine c_loop (ι := Nat) [0] (.cons rfl .nil) (fun i => A.length - i) (fun i E0 => (3, .int .i64 (low A i : Nat)) :: (4, .int .i64 (i : Nat)) :: E0) (fun i => St w [] I []) (fun i => i ≤ A.length) (0) (sC rfl (sC rfl (sC rfl sN))) (fun _ h => h) (Nat.zero_le _) ?_
  rintro i hi
  try dsimp only
  refine cS (cS (cR ?_))
  iterate 2 refine oV ?_
  refine o_lenW trivial rfl Tryz.underlying40 rfl (ha) ?_
  refine oV ?_
  refine oN (tC ?_)
  refine cC rfl (fun h1 => ?_) (fun h1 => ?_)
  ·
   have f1 := h1
   try simp only [bl] at f1
   refine cK (tC (cS (cB (cS (cR ?_)))))
   iterate 2 refine oV ?_
   refine o_elemW trivial rfl Tryz.underlying40 Tryz.sizeOf101 rfl (ha) rfl (by omega) ?_
   refine o_load1I trivial rfl Tryz.isAgg101 rfl (ha.cellI (k := i) rfl (by omega)) ?_
   refine oV ?_
   refine oN (tC ?_)
   refine cC rfl (fun h2 => ?_) (fun h2 => ?_)
   ·
    have f2 := h2
    try simp only [bl] at f2
    have hlow : low A (i + 1) = i + 1 := by show (if dg A i = 0 then low A i else i + 1) = i + 1; rw [if_neg (by omega)]
    refine cR ?_
    refine oV ?_
    first | (refine o_add trivial rfl rfl rfl ?_ ?_; (omega)) | refine oV ?_
    refine oV ?_
    refine oN (blk_n (tC (cR ?_)))
    refine oV ?_
    first | (refine o_add trivial rfl rfl rfl ?_ ?_; (omega)) | refine oV ?_
    refine oV ?_
    refine oN ?_
    exact again (i + 1) (by rw [hlow]; exact (sC rfl (sC rfl (sC rfl sN)))) (fun _ h => h) (by show A.length - (i + 1) < A.length - i; omega) (by show i + 1 ≤ _; omega)
   have f2 := h2
   try simp only [bl] at f2
   have hlow : low A (i + 1) = low A i := by show (if dg A i = 0 then low A i else i + 1) = low A i; rw [if_pos (by omega)]
   refine cK (blk_n (tC (cR ?_)))
   refine oV ?_
   first | (refine o_add trivial rfl rfl rfl ?_ ?_; (omega)) | refine oV ?_
   refine oV ?_
   refine oN ?_
   exact again (i + 1) (by rw [hlow]; exact (sC rfl (sC rfl (sC rfl sN)))) (fun _ h => h) (by show A.length - (i + 1) < A.length - i; omega) (by show i + 1 ≤ _; omega)
  have f1 := h1
  try simp only [bl] at f1
  refine c_exit (then_x (then_x (blk_eq rfl (tC (cS (cR ?_))))))
  iterate 2 refine oV ?_
  refine oN (tC (cT ?_))
  refine ret1 rfl rfl ?_
  have hie : i = A.length := by omega
  subst hie; exact leaf0 rfl
theorem rWords_any (va vb : Value) (A B : List Nat) {I : Hp} (ha : Ws I va A) (hb : Ws I vb B) : Fun Tryz.prog 114 [va, vb] I [] (fun v _ _ => v = .bool (decide (A = B))) := by
  have hs := ha.most
  unfold maxLen at hs
  intro w hw
  refine enter2 _ Tryz.func114 rfl Tryz.ntmps114 rfl ?_ hw
  refine cS (cR ?_)
  refine oV ?_
  refine oN (tC (cS (cS (cR ?_))))
  refine oV ?_
  refine o_lenW trivial rfl Tryz.underlying40 rfl (ha) ?_
  refine oV ?_
  refine o_lenW trivial rfl Tryz.underlying40 rfl (hb) ?_
  refine oV ?_
  refine oN (tC ?_)
  refine cC rfl (fun h1 => ?_) (fun h1 => ?_)
  ·
   have f1 := h1
   try simp only [bl] at f1
   refine cS (cR ?_)
   refine oV ?_
   refine oN (tC (cT (tR ?_)))
   refine ret1 rfl rfl ?_
   refine leaf0 (congrArg Value.bool ?_); rw [decide_eq_false]; intro e; exact f1 (by rw [e])
  have f1 := h1
  try simp only [bl] at f1
  refine cK (tC (cS (cS (cR ?_))))
  refine oV ?_
  refine oN (tC (cB ?_))
  refine c_loop (ι := Nat) [0, 1] (.cons rfl (.cons rfl .nil)) (fun i => A.length - i) (fun i E0 => (5, .int .i64 (i : Nat)) :: E0) (fun i => St w [] I []) (fun i => i ≤ A.length ∧ ∀ j, j < i → dg A j = dg B j) (0) (sC rfl (sC rfl (sC rfl sN))) (fun _ h => h) (⟨Nat.zero_le _, fun j h => absurd h (Nat.not_lt_zero _)⟩) ?_
  rintro i ⟨hi, he⟩
  try dsimp only
  refine cS (cS (cR ?_))
  iterate 2 refine oV ?_
  refine o_lenW trivial rfl Tryz.underlying40 rfl (ha) ?_
  refine oV ?_
  refine oN (tC ?_)
  refine cC rfl (fun h2 => ?_) (fun h2 => ?_)
  ·
   have f2 := h2
   try simp only [bl] at f2
   refine cK (tC (cS (cB (cS ?_))))
   refine c_quiet (by kernel_rfl) (by kernel_rfl) (fun _ h => h.drawn) ?_
   iterate 2 refine oV ?_
   refine o_elemW trivial rfl Tryz.underlying40 Tryz.sizeOf101 rfl (ha) rfl (by omega) ?_
   refine o_load1I trivial rfl Tryz.isAgg101 rfl (ha.cellI (k := i) rfl (by omega)) ?_
   iterate 2 refine oV ?_
   refine o_elemW trivial rfl Tryz.underlying40 Tryz.sizeOf101 rfl (hb) rfl (by omega) ?_
   refine o_load1I trivial rfl Tryz.isAgg101 rfl (hb.cellI (k := i) rfl (by omega)) ?_
   refine oV ?_
   refine oN (tC ?_)
   refine cC rfl (fun h3 => ?_) (fun h3 => ?_)
   ·
    have f3 := h3
    try simp only [bl] at f3
    refine cS (cR ?_)
    refine oV ?_
    refine oN (tC (cT (blk_r (tR (tR (blk_r (tR ?_)))))))
    refine ret1 rfl rfl ?_
    refine leaf0 (congrArg Value.bool ?_); rw [decide_eq_false]; intro e; exact f3 (by rw [e])
   have f3 := h3
   try simp only [bl] at f3
   refine cK (blk_n (tC (cR ?_)))
   refine oV ?_
   first | (refine o_add trivial rfl rfl rfl ?_ ?_; (omega)) | refine oV ?_
   refine oV ?_
   refine oN ?_
   exact again (i + 1) (sC rfl (sC rfl (sC rfl sN))) (fun _ h => h) (by show A.length - (i + 1) < A.length - i; omega) ⟨by show i + 1 ≤ _; omega, fun j hj => by
     by_cases hji : j = i
     · subst hji; omega
     · exact he j (by omega)⟩
  have f2 := h2
  try simp only [bl] at f2
  refine c_exit (then_x (then_x (blk_eq rfl (tC (cS (cR ?_))))))
  refine oV ?_
  refine oN (tC (cT ?_))
  refine ret1 rfl rfl ?_
  refine leaf0 (congrArg Value.bool ?_); rw [decide_eq_true]; exact eq_of_dg (by omega) fun j hj => he j (by omega)
theorem rTrim_any (va : Value) (A : List Nat) {I : Hp} (ha : Ws I va A) (hs : A.length ≤ 1000000000) : Fun Tryz.prog 116 [va] I [] (fun v I' _ => Ws I' v (natW (val A))) := by
  have hle : lowL A ≤ A.length := low_le A _
  intro w hw
  refine enter1 _ Tryz.func116 rfl Tryz.ntmps116 rfl ?_ hw
  refine cS (cR ?_)
  refine oV ?_
  refine oN (tC (cS (cR ?_)))
  refine oV ?_
  refine o_callQ trivial rfl Tryz.call139 rfl (rLow_any _ _ ha hs) ?_
  refine oV ?_
  refine oN (tC (cS (cR ?_)))
  refine oV ?_
  refine oN (tC (cS (cS (cR ?_))))
  refine oV ?_
  refine oN (tC (cB ?_))
  refine c_loop (ι := Nat × Value) [0, 3] (.cons rfl (.cons rfl .nil)) (fun x => lowL A - x.1) (fun x E0 => (4, x.2) :: (5, .int .i64 (x.1 : Nat)) :: E0) (fun x => St w [] I [.row x.2 101 1 x.1 (wl (A.take x.1))]) (fun x => x.1 ≤ lowL A) ((0, .slice none 0 0)) (sC rfl (sC rfl (sC rfl (sC rfl sN)))) (fun _ h => h.nilRow _ _) (Nat.zero_le _) ?_
  rintro ⟨i, u⟩ hi
  try dsimp only
  simp only at hi
  refine cS (cS (cR ?_))
  iterate 3 refine oV ?_
  refine oN (tC ?_)
  refine cC rfl (fun h1 => ?_) (fun h1 => ?_)
  ·
   have f1 := h1
   try simp only [bl] at f1
   refine cK (tC (cS (cB (cR ?_))))
   iterate 3 refine oV ?_
   refine o_elemW trivial rfl Tryz.underlying40 Tryz.sizeOf101 rfl (ha) rfl (by omega) ?_
   refine o_load1I trivial rfl Tryz.isAgg101 rfl (ha.cellI (k := i) rfl (by omega)) ?_
   refine o_buildSl trivial rfl Tryz.underlying40 Tryz.sizeOf101 Tryz.zeroValue101 (by decide) (by decide) rfl (by repeat first | exact rfl | constructor) rfl (fun b18 => ?_)
   refine o_appendBox trivial rfl Tryz.underlying40 (elem101) (by decide) rfl rfl (fun v' => (by repeat constructor)) (by repeat constructor) rfl (by first | rfl | decide) (by first | omega | (unfold maxLen; omega)) (by omega) (fun v19 => ?_)
   refine oV ?_
   refine oN (blk_n (tC (cR ?_)))
   refine oV ?_
   first | (refine o_add trivial rfl rfl rfl ?_ ?_; (omega)) | refine oV ?_
   refine oV ?_
   refine oN ?_
   exact again (i + 1, v19) (sC rfl (sC rfl (sC rfl (sC rfl sN)))) (fun _ h => by rw [take_more (by omega), ← wl_more _ rfl]; exact h.sort (by repeat constructor)) (by show lowL A - (i + 1) < lowL A - i; omega) (by show i + 1 ≤ _; omega)
  have f1 := h1
  try simp only [bl] at f1
  refine c_exit (then_x (then_x (blk_eq rfl (tC (cS (cR ?_))))))
  iterate 2 refine oV ?_
  refine oN (tC (cT ?_))
  refine ret1 rfl rfl ?_
  have hie : i = lowL A := by omega
  subst hie
  have hlen : (A.take (lowL A)).length = lowL A := by rw [List.length_take]; omega
  have hm := ha.most
  exact fun w' hw' => leafWX (O := A.take (lowL A)) (Ext.refl _ _) (ha.wds.take _) (by omega) (fun I' hl hs => by rw [← trim_eq ha.wds]; exact hs) w' (by rw [hlen]; exact hw')
theorem rAt_any (va : Value) (A : List Nat) (i : Int) (k : Nat) {I : Hp} (ha : Ws I va A) (hi : i = k) : Fun Tryz.prog 164 [va, .int .i64 i] I [] (fun v _ _ => v = .int .u64 (dg A k : Nat)) := by
  subst hi
  intro w hw
  refine enter2 _ Tryz.func164 rfl Tryz.ntmps164 rfl ?_ hw
  refine cS (cR ?_)
  refine oV ?_
  refine oN (tC (cS (cS (cR ?_))))
  iterate 2 refine oV ?_
  refine' o_or trivial trivial rfl rfl rfl rfl rfl rfl rfl rfl (fun hb7 => ?_) ?_
  rotate_left
  ·
   have fb7 := hb7
   try simp only [bl] at fb7
   iterate 2 refine o_pv (wS rfl rfl hb7) rfl rfl ?_
   refine o_lenW (wS rfl rfl hb7) rfl Tryz.underlying40 rfl (ha) ?_
   refine o_pv (wS rfl rfl hb7) rfl rfl ?_
   refine oN ?_
   exact joins rfl
  refine oN (tC ?_)
  refine cC rfl (fun h1 => ?_) (fun h1 => ?_)
  ·
   have f1 := h1
   try simp only [bl] at f1
   refine cS (cR ?_)
   refine oV ?_
   refine oN (tC (cT (tR ?_)))
   refine ret1 rfl rfl ?_
   refine leaf0 (congrArg (Value.int .u64) ?_); rw [dg_out (by omega)]; rfl
  have f1 := h1
  try simp only [bl] at f1
  refine cK (tC (cS (cR ?_)))
  iterate 2 refine oV ?_
  refine o_elemW trivial rfl Tryz.underlying40 Tryz.sizeOf101 rfl (ha) rfl (by omega) ?_
  refine o_load1I trivial rfl Tryz.isAgg101 rfl (ha.cellI (k := k) rfl (by omega)) ?_
  have hdl := dg_lt ha.wds k
  first | refine o_convIn trivial rfl Tryz.underlying101 Tryz.underlying136 rfl (by rw [IntWalk.u64_in _ (by omega)]) ?_ | refine o_conv trivial rfl Tryz.underlying101 Tryz.underlying136 rfl ?_
  refine oV ?_
  refine oN (tC (cT ?_))
  refine ret1 rfl rfl ?_
  exact leaf0 rfl
theorem rOf_any (n : Nat) {I : Hp} (hn : n < 18446744073709551616) : Fun Tryz.prog 94 [.int .u64 (n : Int)] I [] (fun v I' _ => Ws I' v (natW n)) := by
  have hnl : (natW n).length ≤ 2 := natW_len_le (by rw [show (4294967296 : Nat) ^ 2 = 18446744073709551616 by decide]; exact hn)
  intro w hw
  refine enter1 _ Tryz.func94 rfl Tryz.ntmps94 rfl ?_ hw
  refine cS (cR ?_)
  refine oV ?_
  refine oN (tC (cS (cR ?_)))
  refine oV ?_
  refine oN (tC (cS (cB ?_)))
  refine c_loop (ι := Nat × List Nat × Value) [] .nil (fun x => x.1) (fun x E0 => (0, .int .u64 (x.1 : Nat)) :: (3, x.2.2) :: E0) (fun x => St w [] I [.row x.2.2 101 1 x.2.1.length (wl x.2.1)]) (fun x => x.2.1 ++ natW x.1 = natW n ∧ x.1 < 18446744073709551616) ((n, [], .slice none 0 0)) (sC rfl (sC rfl sN)) (fun _ h => h.nilRow _ _) (⟨rfl, hn⟩) ?_
  rintro ⟨m, O, u⟩ ⟨hO, hm⟩
  try dsimp only
  simp only at hO hm; have hol : O.length ≤ 2 := by rw [← hO, List.length_append] at hnl; omega
  refine cS (cS (cR ?_))
  iterate 2 refine oV ?_
  refine oN (tC ?_)
  refine cC rfl (fun h1 => ?_) (fun h1 => ?_)
  ·
   have f1 := h1
   try simp only [bl] at f1
   have hm0 : m ≠ 0 := by omega
   refine cK (tC (cB (cS (cR ?_))))
   iterate 2 refine oV ?_
   refine o_rem trivial rfl rfl rfl (by omega) ?_
   refine o_convIn trivial rfl Tryz.underlying136 Tryz.underlying101 rfl (by rw [IntWalk.u32_in _ (by omega)]) ?_
   refine o_buildSl trivial rfl Tryz.underlying40 Tryz.sizeOf101 Tryz.zeroValue101 (by decide) (by decide) rfl (by repeat first | exact rfl | constructor) rfl (fun b10 => ?_)
   refine o_appendBox trivial rfl Tryz.underlying40 (elem101) (by decide) rfl rfl (fun v' => (by repeat constructor)) (by repeat constructor) rfl (by first | rfl | decide) (by first | omega | (unfold maxLen; omega)) (by omega) (fun v11 => ?_)
   refine oV ?_
   refine oN (tC (cR ?_))
   refine oV ?_
   refine o_quo trivial rfl rfl rfl (by omega) (by first | rfl | rw [IntWalk.u64_in _ (by omega)]) ?_
   refine oV ?_
   refine oN (blk_n ?_)
   exact again (m / 4294967296, O ++ [m % 4294967296], v11) (sC rfl (sC rfl sN)) (fun _ h => by rw [← wl_more O (z := (m : Int) % 4294967296) (by omega), List.length_append]; exact h.sort (by repeat constructor)) (by show m / 4294967296 < m; omega) ⟨by show (O ++ [m % 4294967296]) ++ natW (m / 4294967296) = natW n; rw [← hO, natW_pos hm0]; simp, by show m / 4294967296 < _; omega⟩
  have f1 := h1
  try simp only [bl] at f1
  refine c_exit (then_x (then_x (blk_eq rfl (tC (cS (cR ?_))))))
  iterate 2 refine oV ?_
  refine oN (tC (cT ?_))
  refine ret1 rfl rfl ?_
  have hm0 : m = 0 := by omega
  subst hm0
  rw [natW_zero, List.append_nil] at hO
  exact leafWX (Ext.refl _ _) (by rw [hO]; exact Wds_natW n) (by unfold maxLen; omega) (fun I' hl hs => by rw [← hO]; exact hs)
theorem rCmp_any (va vb : Value) (A B : List Nat) {I : Hp} (ha : Ws I va A) (hb : Ws I vb B) (hs : A.length ≤ 1000000000) (hs2 : B.length ≤ 1000000000) : Fun Tryz.prog 145 [va, vb] I [] (fun v _ _ => v = .int .i64 (cmpZ (val A : Nat) (val B : Nat))) := by
  intro w hw
  refine enter2 _ Tryz.func145 rfl Tryz.ntmps145 rfl ?_ hw
  refine cS (cR ?_)
  refine oV ?_
  refine oN (tC (cS (cR ?_)))
  refine oV ?_
  refine o_lenW trivial rfl Tryz.underlying40 rfl (ha) ?_
  refine oV ?_
  refine o_lenW trivial rfl Tryz.underlying40 rfl (hb) ?_
  refine o_max2 trivial rfl rfl rfl ?_
  refine oV ?_
  refine oN (tC (cS (cS (cR ?_))))
  refine oV ?_
  first | (refine o_sub trivial rfl rfl rfl ?_ ?_; (omega)) | refine oV ?_
  refine oV ?_
  refine oN (tC (cB ?_))
  refine c_loop (ι := Nat × Int) [0, 1] (.cons rfl (.cons rfl .nil)) (fun x => x.1) (fun x E0 => (6, .int .i64 x.2) :: E0) (fun x => St w [] I []) (fun x => x.2 = (x.1 : Int) - 1 ∧ x.1 ≤ 1000000000 ∧ ∀ t, x.1 ≤ t → dg A t = dg B t) ((max A.length B.length, max (A.length : Int) (B.length : Int) - 1)) (sC rfl (sC rfl (sC rfl sN))) (fun _ h => h) (⟨by simp only; omega, by show max A.length B.length ≤ _; omega, fun t ht => by have h9 : max A.length B.length ≤ t := ht; rw [dg_out (by omega), dg_out (by omega)]⟩) ?_
  rintro ⟨j, z⟩ ⟨hz, hj, he⟩
  try dsimp only
  simp only at hz hj he; subst hz
  refine cS (cS (cR ?_))
  iterate 2 refine oV ?_
  refine oN (tC ?_)
  refine cC rfl (fun h1 => ?_) (fun h1 => ?_)
  ·
   have f1 := h1
   try simp only [bl] at f1
   refine cK (tC (cS (cB (cS (cS (cR ?_))))))
   iterate 2 refine oV ?_
   refine o_callQ trivial rfl Tryz.call164 rfl (rAt_any _ A _ (j - 1) ha (by omega)) ?_
   iterate 2 refine oV ?_
   refine o_callQ trivial rfl Tryz.call164 rfl (rAt_any _ B _ (j - 1) hb (by omega)) ?_
   refine oV ?_
   refine oN (tC ?_)
   refine cC rfl (fun h2 => ?_) (fun h2 => ?_)
   ·
    have f2 := h2
    try simp only [bl] at f2
    refine cS (cR ?_)
    refine oV ?_
    refine oN (tC (cT (tR (blk_r (tR (tR (blk_r (tR ?_))))))))
    refine ret1 rfl rfl ?_
    refine leaf0 (congrArg (Value.int .i64) ?_)
    have := cmp_lt ha.wds hb.wds (i := j - 1) (by omega) (fun t ht => he t (by omega))
    rw [cmpZ_lt (by omega)]
   have f2 := h2
   try simp only [bl] at f2
   refine cK (tC (cS (cR ?_)))
   iterate 2 refine oV ?_
   refine o_callQ trivial rfl Tryz.call164 rfl (rAt_any _ A _ (j - 1) ha (by omega)) ?_
   iterate 2 refine oV ?_
   refine o_callQ trivial rfl Tryz.call164 rfl (rAt_any _ B _ (j - 1) hb (by omega)) ?_
   refine oV ?_
   refine oN (tC ?_)
   refine cC rfl (fun h3 => ?_) (fun h3 => ?_)
   ·
    have f3 := h3
    try simp only [bl] at f3
    refine cS (cR ?_)
    refine oV ?_
    refine oN (tC (cT (blk_r (tR (tR (blk_r (tR ?_)))))))
    refine ret1 rfl rfl ?_
    refine leaf0 (congrArg (Value.int .i64) ?_)
    have := cmp_lt hb.wds ha.wds (i := j - 1) (by omega) (fun t ht => (he t (by omega)).symm)
    rw [cmpZ_gt (by omega)]
   have f3 := h3
   try simp only [bl] at f3
   refine cK (blk_n (tC (cR ?_)))
   refine oV ?_
   first | (refine o_sub trivial rfl rfl rfl ?_ ?_; (omega)) | refine oV ?_
   refine oV ?_
   refine oN ?_
   exact again (j - 1, (j : Int) - 1 - 1) (sC rfl (sC rfl (sC rfl sN))) (fun _ h => h) (by show j - 1 < j; omega) ⟨by simp only; omega, by show j - 1 ≤ _; omega, fun t ht => by
     have h9 : j - 1 ≤ t := ht
     by_cases htj : t = j - 1
     · subst htj; omega
     · exact he t (by omega)⟩
  have f1 := h1
  try simp only [bl] at f1
  refine c_exit (then_x (then_x (blk_eq rfl (tC (cS (cR ?_))))))
  refine oV ?_
  refine oN (tC (cT ?_))
  refine ret1 rfl rfl ?_
  refine leaf0 (congrArg (Value.int .i64) ?_)
  rw [val_same (A := A) (B := B) fun t => he t (by omega), cmpZ_self]
end Go.Proofs.YtmgpifkekofacaaGreatDoor
namespace Go.Tw
theorem pre_end {A : List Nat} {k : Nat} (h : A.length ≤ k) : pre A k = val A := pre_out h
theorem sum_step {O : List Nat} {T i s c c' a : Nat} (hl : O.length = i) (h : val O + 4294967296 ^ i * c = T) (hs : s + 4294967296 * c' = a + c) : val (O ++ [s]) + 4294967296 ^ (i + 1) * c' = T + a * 4294967296 ^ i := by
  rw [val_more, hl, pow_succ]
  have e1 : 4294967296 ^ i * 4294967296 * c' = 4294967296 ^ i * (4294967296 * c') := Nat.mul_assoc _ _ _
  have e2 : 4294967296 ^ i * s + 4294967296 ^ i * (4294967296 * c') = 4294967296 ^ i * a + 4294967296 ^ i * c := by rw [← Nat.mul_add, ← Nat.mul_add, hs]
  have e3 : a * 4294967296 ^ i = 4294967296 ^ i * a := Nat.mul_comm _ _
  rw [e1, e3]
  generalize 4294967296 ^ i * s = x1 at *
  generalize 4294967296 ^ i * (4294967296 * c') = x2 at *
  generalize 4294967296 ^ i * a = x3 at *
  generalize 4294967296 ^ i * c = x4 at *
  omega
theorem diff_step {O : List Nat} {T U i s c c' a b : Nat} (hl : O.length = i) (h : val O + U = T + 4294967296 ^ i * c) (hs : s + b + c = a + 4294967296 * c') : val (O ++ [s]) + (U + b * 4294967296 ^ i) = (T + a * 4294967296 ^ i) + 4294967296 ^ (i + 1) * c' := by
  rw [val_more, hl, pow_succ]
  have e1 : 4294967296 ^ i * 4294967296 * c' = 4294967296 ^ i * (4294967296 * c') := Nat.mul_assoc _ _ _
  have e2 : 4294967296 ^ i * s + 4294967296 ^ i * b + 4294967296 ^ i * c = 4294967296 ^ i * a + 4294967296 ^ i * (4294967296 * c') := by rw [← Nat.mul_add, ← Nat.mul_add, ← Nat.mul_add, hs]
  have e3 : a * 4294967296 ^ i = 4294967296 ^ i * a := Nat.mul_comm _ _
  have e4 : b * 4294967296 ^ i = 4294967296 ^ i * b := Nat.mul_comm _ _
  rw [e1, e3, e4]
  generalize 4294967296 ^ i * s = x1 at *
  generalize 4294967296 ^ i * (4294967296 * c') = x2 at *
  generalize 4294967296 ^ i * a = x3 at *
  generalize 4294967296 ^ i * b = x5 at *
  generalize 4294967296 ^ i * c = x4 at *
  omega
theorem word_mul {a w c : Nat} (ha : a < 4294967296) (hw : w < 4294967296) (hc : c < 4294967296) : a * w + c < 4294967296 * 4294967296 := by
  have h1 : a * w ≤ 4294967295 * 4294967295 := Nat.mul_le_mul (by omega) (by omega)
  omega
end Go.Tw
namespace Go.Proofs.YtmgpifkekofacaaGreatDoor
open Go Go.Tw
theorem rSub_any (va vb : Value) (A B : List Nat) {I : Hp} (ha : Ws I va A) (hb : Ws I vb B) (hs : A.length ≤ 100000000) (hs2 : B.length ≤ 100000000) (hle : val B ≤ val A) : Fun Tryz.prog 146 [va, vb] I [] (fun v I' _ => ∃ u, v = .tuple #[u, .bool true] ∧ Ws I' u (natW (val A - val B))) := by
  have hcmp : ¬ cmpZ (val A : Nat) (val B : Nat) < 0 := by unfold cmpZ; split <;> (try split) <;> omega
  intro w hw
  refine enter2 _ Tryz.func146 rfl Tryz.ntmps146 rfl ?_ hw
  refine cS (cR ?_)
  iterate 2 refine oV ?_
  refine oN (tC (cS (cS (cR ?_))))
  iterate 2 refine oV ?_
  refine o_callQ trivial rfl Tryz.call145 rfl (rCmp_any _ _ _ _ ha hb (by omega) (by omega)) ?_
  refine oV ?_
  refine oN (tC ?_)
  refine cC rfl (fun h1 => ?_) (fun h1 => ?_)
  ·
   have f1 := h1
   try simp only [bl] at f1
   exfalso; exact hcmp f1
  have f1 := h1
  try simp only [bl] at f1
  refine cK (tC (cS (cR ?_)))
  refine oV ?_
  refine oN (tC (cS (cR ?_)))
  refine oV ?_
  refine oN (tC (cS (cS (cR ?_))))
  refine oV ?_
  refine oN (tC (cB ?_))
  refine c_loop (ι := Nat × Nat × List Nat × Value) [0, 1] (.cons rfl (.cons rfl .nil)) (fun x => A.length - x.1) (fun x E0 => (6, x.2.2.2) :: (7, .int .u64 (x.2.1 : Nat)) :: (8, .int .i64 (x.1 : Nat)) :: E0) (fun x => St w [] I [.row x.2.2.2 101 1 x.2.2.1.length (wl x.2.2.1)]) (fun x => x.1 ≤ A.length ∧ x.2.1 ≤ 1 ∧ x.2.2.1.length = x.1 ∧ Wds x.2.2.1 ∧ val x.2.2.1 + pre B x.1 = pre A x.1 + 4294967296 ^ x.1 * x.2.1) ((0, 0, [], .slice none 0 0)) (sC rfl (sC rfl (sC rfl (sC rfl (sC rfl sN))))) (fun _ h => h.nilRow _ _) (⟨Nat.zero_le _, by decide, rfl, Wds_nil, rfl⟩) ?_
  rintro ⟨i, c, O, u⟩ ⟨hi, hc, hol, hO, hv⟩
  try dsimp only
  simp only at hi hc hol hO hv; have hda := dg_lt ha.wds i; have hdb := dg_lt hb.wds i
  refine cS (cS (cR ?_))
  iterate 2 refine oV ?_
  refine o_lenW trivial rfl Tryz.underlying40 rfl (ha) ?_
  refine oV ?_
  refine oN (tC ?_)
  refine cC rfl (fun h2 => ?_) (fun h2 => ?_)
  ·
   have f2 := h2
   try simp only [bl] at f2
   refine cK (tC (cS (cB (cS (cR ?_)))))
   iterate 2 refine oV ?_
   refine o_callQ trivial rfl Tryz.call164 rfl (rAt_any _ A _ i ha rfl) ?_
   first | refine o_arA trivial rfl rfl rfl (by rw [IntWalk.u64_in _ (by omega)]) ?_ | refine oV ?_
   iterate 2 refine oV ?_
   refine o_callQ trivial rfl Tryz.call164 rfl (rAt_any _ B _ i hb rfl) ?_
   first | refine o_arS trivial rfl rfl rfl (by rw [IntWalk.u64_in _ (by omega)]) ?_ | refine oV ?_
   refine oV ?_
   first | refine o_arS trivial rfl rfl rfl (by rw [IntWalk.u64_in _ (by omega)]) ?_ | refine oV ?_
   refine oV ?_
   refine oN (tC (cS (cR ?_)))
   iterate 2 refine oV ?_
   refine o_rem trivial rfl rfl rfl (by omega) ?_
   refine o_convIn trivial rfl Tryz.underlying136 Tryz.underlying101 rfl (by rw [IntWalk.u32_in _ (by omega)]) ?_
   refine o_buildSl trivial rfl Tryz.underlying40 Tryz.sizeOf101 Tryz.zeroValue101 (by decide) (by decide) rfl (by repeat first | exact rfl | constructor) rfl (fun b34 => ?_)
   refine o_appendBox trivial rfl Tryz.underlying40 (elem101) (by decide) rfl rfl (fun v' => (by repeat constructor)) (by repeat constructor) rfl (by first | rfl | decide) (by first | omega | (unfold maxLen; omega)) (by omega) (fun v35 => ?_)
   refine oV ?_
   refine oN (tC (cR ?_))
   refine oV ?_
   refine o_quo trivial rfl rfl rfl (by omega) (by first | rfl | rw [IntWalk.u64_in _ (by omega)]) ?_
   first | refine o_arS trivial rfl rfl rfl (by rw [IntWalk.u64_in _ (by omega)]) ?_ | refine oV ?_
   refine oV ?_
   refine oN (blk_n (tC (cR ?_)))
   refine oV ?_
   first | (refine o_add trivial rfl rfl rfl ?_ ?_; (omega)) | refine oV ?_
   refine oV ?_
   refine oN ?_
   have hst := diff_step (s := (4294967296 + dg A i - dg B i - c) % 4294967296) (c' := 1 - (4294967296 + dg A i - dg B i - c) / 4294967296) (a := dg A i) (b := dg B i) hol hv (by omega)
   have e7 : (1 : Int) - (4294967296 + (dg A i : Int) - (dg B i : Int) - (c : Int)) / 4294967296 = ((1 - (4294967296 + dg A i - dg B i - c) / 4294967296 : Nat) : Int) := by omega
   exact again (i + 1, 1 - (4294967296 + dg A i - dg B i - c) / 4294967296, O ++ [(4294967296 + dg A i - dg B i - c) % 4294967296], v35) (by rw [e7]; exact (sC rfl (sC rfl (sC rfl (sC rfl (sC rfl sN)))))) (fun _ h => by rw [← wl_more O (z := (4294967296 + (dg A i : Int) - (dg B i : Int) - (c : Int)) % 4294967296) (by omega), List.length_append]; exact h.sort (by repeat constructor)) (by show A.length - (i + 1) < A.length - i; omega) ⟨by show i + 1 ≤ _; omega, by show 1 - _ ≤ 1; omega, by show (O ++ [_]).length = i + 1; rw [List.length_append, hol]; rfl, hO.more (by omega), hst⟩
  have f2 := h2
  try simp only [bl] at f2
  refine c_exit (then_x (then_x (blk_eq rfl (tC (cS ?_)))))
  have hie : i = A.length := by omega
  subst hie
  rw [pre_end (Nat.le_refl _)] at hv
  have hB : pre B A.length = val B := by
    rcases Nat.lt_or_ge A.length B.length with hlt | hge
    · have h1 := val_split (l := B) (i := A.length) (by omega)
      have h2 := val_lt ha.wds
      have h3 : val (B.drop A.length) = 0 := by
        rcases Nat.eq_zero_or_pos (val (B.drop A.length)) with h | h
        · exact h
        · have : 4294967296 ^ A.length * 1 ≤ 4294967296 ^ A.length * val (B.drop A.length) := Nat.mul_le_mul_left _ h
          omega
      rw [h3, Nat.mul_zero] at h1
      omega
    · exact pre_end hge
  have hc0 : c = 0 := by
    have h2 := val_lt hO
    rw [hol] at h2
    rw [hB] at hv
    rcases Nat.eq_zero_or_pos c with h | h
    · exact h
    · have : 4294967296 ^ A.length * 1 ≤ 4294967296 ^ A.length * c := Nat.mul_le_mul_left _ h
      omega
  subst hc0
  rw [hB, Nat.mul_zero, Nat.add_zero] at hv
  refine c_sealO O .here hO (by unfold maxLen; omega) (fun I1 hx1 hs1 => ?_)
  refine cR ?_
  refine oV ?_
  refine o_callI trivial rfl Tryz.call116 rfl (rTrim_any _ _ hs1 (by omega)) ?_
  rintro u2 I2 hx2 hs2'
  iterate 2 refine oV ?_
  refine oN (tC (cT ?_))
  refine ret2 rfl rfl rfl ?_
  refine leaf (hx1.trans hx2 (Nat.le_refl _)) (List.nil_sublist _) ⟨u2, rfl, ?_⟩; rw [show val O = val A - val B by omega] at hs2'; exact hs2'
theorem rOne_any (va : Value) (A : List Nat) (y c0 : Nat) {I : Hp} (ha : Ws I va A) (hs : A.length ≤ 100000000) (hy : y < 4294967296) (hc0 : c0 < 4294967296) : Fun Tryz.prog 148 [va, .int .u32 (y : Int), .int .u32 (c0 : Int)] I [] (fun v I' _ => Ws I' v (natW (val A * y + c0))) := by
  intro w hw
  refine enter3 _ Tryz.func148 rfl Tryz.ntmps148 rfl ?_ hw
  refine cS (cR ?_)
  refine oV ?_
  refine oN (tC (cS (cR ?_)))
  refine oV ?_
  refine oN (tC (cS (cR ?_)))
  refine oV ?_
  first | refine o_convIn trivial rfl Tryz.underlying101 Tryz.underlying136 rfl (by rw [IntWalk.u64_in _ (by omega)]) ?_ | refine o_conv trivial rfl Tryz.underlying101 Tryz.underlying136 rfl ?_
  refine oV ?_
  refine oN (tC (cS (cS (cR ?_))))
  refine oV ?_
  refine oN (tC (cB ?_))
  refine c_loop (ι := Nat × Nat × List Nat × Value) [0, 1] (.cons rfl (.cons rfl .nil)) (fun x => A.length - x.1) (fun x E0 => (7, x.2.2.2) :: (8, .int .u64 (x.2.1 : Nat)) :: (9, .int .i64 (x.1 : Nat)) :: E0) (fun x => St w [] I [.row x.2.2.2 101 1 x.2.2.1.length (wl x.2.2.1)]) (fun x => x.1 ≤ A.length ∧ x.2.1 < 4294967296 ∧ x.2.2.1.length = x.1 ∧ Wds x.2.2.1 ∧ val x.2.2.1 + 4294967296 ^ x.1 * x.2.1 = pre A x.1 * y + c0) ((0, c0, [], .slice none 0 0)) (sC rfl (sC rfl (sC rfl (sC rfl (sC rfl sN))))) (fun _ h => h.nilRow _ _) (⟨Nat.zero_le _, hc0, rfl, Wds_nil, by show 0 + 4294967296 ^ 0 * c0 = 0 * y + c0; omega⟩) ?_
  rintro ⟨i, c, O, u⟩ ⟨hi, hc, hol, hO, hv⟩
  try dsimp only
  simp only at hi hc hol hO hv; have hda := dg_lt ha.wds i; have hmw := word_mul hda hy hc
  refine cS (cS (cR ?_))
  iterate 2 refine oV ?_
  refine o_lenW trivial rfl Tryz.underlying40 rfl (ha) ?_
  refine oV ?_
  refine oN (tC ?_)
  refine cC rfl (fun h1 => ?_) (fun h1 => ?_)
  ·
   have f1 := h1
   try simp only [bl] at f1
   refine cK (tC (cS (cB (cS (cR ?_)))))
   iterate 2 refine oV ?_
   refine o_elemW trivial rfl Tryz.underlying40 Tryz.sizeOf101 rfl (ha) rfl (by omega) ?_
   refine o_load1I trivial rfl Tryz.isAgg101 rfl (ha.cellI (k := i) rfl (by omega)) ?_
   first | refine o_convIn trivial rfl Tryz.underlying101 Tryz.underlying136 rfl (by rw [IntWalk.u64_in _ (by omega)]) ?_ | refine o_conv trivial rfl Tryz.underlying101 Tryz.underlying136 rfl ?_
   refine oV ?_
   first | refine o_convIn trivial rfl Tryz.underlying101 Tryz.underlying136 rfl (by rw [IntWalk.u64_in _ (by omega)]) ?_ | refine o_conv trivial rfl Tryz.underlying101 Tryz.underlying136 rfl ?_
   rw [show (dg A i : Int) = ((dg A i : Nat) : Int) from rfl]
   first | refine o_arM trivial rfl rfl rfl (by rw [IntWalk.u64_in _ (by rw [← Int.natCast_mul]; omega)]) ?_ | refine oV ?_
   refine oV ?_
   rw [← Int.natCast_mul]
   first | refine o_arA trivial rfl rfl rfl (by rw [IntWalk.u64_in _ (by omega)]) ?_ | refine oV ?_
   refine oV ?_
   refine oN (tC (cS (cR ?_)))
   iterate 2 refine oV ?_
   refine o_rem trivial rfl rfl rfl (by omega) ?_
   refine o_convIn trivial rfl Tryz.underlying136 Tryz.underlying101 rfl (by rw [IntWalk.u32_in _ (by omega)]) ?_
   refine o_buildSl trivial rfl Tryz.underlying40 Tryz.sizeOf101 Tryz.zeroValue101 (by decide) (by decide) rfl (by repeat first | exact rfl | constructor) rfl (fun b33 => ?_)
   refine o_appendBox trivial rfl Tryz.underlying40 (elem101) (by decide) rfl rfl (fun v' => (by repeat constructor)) (by repeat constructor) rfl (by first | rfl | decide) (by first | omega | (unfold maxLen; omega)) (by omega) (fun v34 => ?_)
   refine oV ?_
   refine oN (tC (cR ?_))
   refine oV ?_
   refine o_quo trivial rfl rfl rfl (by omega) (by first | rfl | rw [IntWalk.u64_in _ (by omega)]) ?_
   refine oV ?_
   refine oN (blk_n (tC (cR ?_)))
   refine oV ?_
   first | (refine o_add trivial rfl rfl rfl ?_ ?_; (omega)) | refine oV ?_
   refine oV ?_
   refine oN ?_
   have hst := sum_step (s := (dg A i * y + c) % 4294967296) (c' := (dg A i * y + c) / 4294967296) (a := dg A i * y) hol hv (by omega)
   exact again (i + 1, (dg A i * y + c) / 4294967296, O ++ [(dg A i * y + c) % 4294967296], v34) (sC rfl (sC rfl (sC rfl (sC rfl (sC rfl sN))))) (fun _ h => by rw [← wl_more O (z := (((dg A i * y : Nat) : Int) + (c : Int)) % 4294967296) (by omega), List.length_append]; exact h.sort (by repeat constructor)) (by show A.length - (i + 1) < A.length - i; omega) ⟨by show i + 1 ≤ _; omega, by show (dg A i * y + c) / 4294967296 < 4294967296; omega, by show (O ++ [_]).length = i + 1; rw [List.length_append, hol]; rfl, hO.more (by omega), by
     show val (O ++ [_]) + 4294967296 ^ (i + 1) * _ = (pre A i + dg A i * 4294967296 ^ i) * y + c0
     rw [hst, Nat.add_mul, Nat.mul_right_comm]; omega⟩
  have f1 := h1
  try simp only [bl] at f1
  refine c_exit (then_x (then_x (blk_eq rfl (tC (cS ?_)))))
  have hie : i = A.length := by omega
  subst hie
  rw [pre_end (Nat.le_refl _)] at hv
  refine cR ?_
  iterate 2 refine oV ?_
  refine o_convIn trivial rfl Tryz.underlying136 Tryz.underlying101 rfl (by rw [IntWalk.u32_in _ (by omega)]) ?_
  refine o_buildSl trivial rfl Tryz.underlying40 Tryz.sizeOf101 Tryz.zeroValue101 (by decide) (by decide) rfl (by repeat first | exact rfl | constructor) rfl (fun b40 => ?_)
  refine o_appendBox trivial rfl Tryz.underlying40 (elem101) (by decide) rfl rfl (fun v' => (by repeat constructor)) (by repeat constructor) rfl (by first | rfl | decide) (by first | omega | (unfold maxLen; omega)) (by omega) (fun v41 => ?_)
  refine oV ?_
  refine oN (tC (cS ?_))
  rw [show wl O ++ ([Value.int .u32 (c : Int)] ++ []) = wl (O ++ [c]) from wl_more O rfl]
  refine c_sealO (O ++ [c]) (by rw [List.length_append]; exact .there .here) (hO.more hc) (by rw [List.length_append, hol]; have := ha.most; unfold maxLen at *; show A.length + 1 ≤ _; omega) (fun I1 hx1 hs1 => ?_)
  rw [← hol, ← val_more] at hv
  refine cR ?_
  refine oV ?_
  refine o_callI trivial rfl Tryz.call116 rfl (rTrim_any _ _ hs1 (by rw [List.length_append, hol]; show A.length + 1 ≤ _; omega)) ?_
  rintro u2 I2 hx2 hs2'
  refine oV ?_
  refine oN (tC (cT ?_))
  refine ret1 rfl rfl ?_
  refine leaf (hx1.trans hx2 (Nat.le_refl _)) (List.nil_sublist _) ?_; rw [hv] at hs2'; exact hs2'
theorem rShift_any (va : Value) (A : List Nat) (m : Nat) {I : Hp} (ha : Ws I va A) (hs : A.length ≤ 1000000) (hm : m ≤ 100000) : Fun Tryz.prog 147 [va, .int .i64 (m : Int)] I [] (fun v I' _ => Ws I' v (natW (val A * 2 ^ m))) := by
  have hA := val_lt ha.wds
  intro w hw
  refine enter2 _ Tryz.func147 rfl Tryz.ntmps147 rfl ?_ hw
  refine cS (cR ?_)
  refine oV ?_
  refine oN (tC (cS (cR ?_)))
  refine oV ?_
  refine o_callI trivial rfl Tryz.call116 rfl (rTrim_any _ _ ha (by omega)) ?_
  rintro u1 I1 hx1 hs1
  refine oV ?_
  refine oN (tC (cS (cS (cR ?_))))
  refine oV ?_
  refine oN (tC (cB ?_))
  refine c_loop (ι := Nat × Value × Hp) [1] (.cons rfl .nil) (fun x => m - x.1) (fun x E0 => (5, x.2.1) :: (6, .int .i64 (x.1 : Nat)) :: E0) (fun x => St w [] x.2.2 []) (fun x => x.1 ≤ m ∧ Ws x.2.2 x.2.1 (natW (val A * 2 ^ x.1)) ∧ Ext w.heap.size I x.2.2) ((0, u1, I1)) (sC rfl (sC rfl (sC rfl sN))) (fun _ h => h) (⟨Nat.zero_le _, by show Ws I1 u1 (natW (val A * 1)); rw [Nat.mul_one]; exact hs1, hx1⟩) ?_
  rintro ⟨i, u, I2⟩ ⟨hi, hu, hx2⟩
  try dsimp only
  simp only at hi hu hx2
  refine cS (cS (cR ?_))
  iterate 3 refine oV ?_
  refine' o_and trivial trivial rfl rfl rfl rfl rfl rfl rfl rfl (fun hb12 => ?_) ?_
  rotate_left
  ·
   iterate 2 refine o_pv (wS rfl rfl hb12) rfl rfl ?_
   refine oN ?_
   exact joins rfl
  refine' o_and trivial trivial rfl rfl rfl rfl rfl rfl rfl rfl (fun hb16 => ?_) ?_
  rotate_left
  ·
   have fb16 := hb16
   try simp only [bl] at fb16
   refine o_pv (wS rfl rfl hb16) rfl rfl ?_
   refine o_lenW (wS rfl rfl hb16) rfl Tryz.underlying40 rfl (hu) ?_
   refine o_pv (wS rfl rfl hb16) rfl rfl ?_
   refine oN ?_
   exact joins rfl
  refine oN (tC ?_)
  refine cC rfl (fun h1 => ?_) (fun h1 => ?_)
  ·
   have f1 := h1
   try simp only [bl] at f1
   have hl1 : (natW (val A * 2 ^ i)).length ≤ A.length + (i + 1) := natW_len_le (by
     rw [Nat.pow_add]
     refine Nat.mul_lt_mul'' hA ?_
     have h2 : 2 ^ i < 2 ^ (32 * (i + 1)) := Nat.pow_lt_pow_right (by decide) (by omega)
     rwa [Nat.pow_mul] at h2)
   refine cK (tC (cS (cB (cR ?_))))
   refine oV ?_
   refine o_callI trivial rfl Tryz.call148 rfl (rOne_any _ _ 2 0 hu (by omega) (by decide) (by decide)) ?_
   rintro u3 I3 hx3 hs3
   refine oV ?_
   refine oN (blk_n (tC (cR ?_)))
   refine oV ?_
   first | (refine o_add trivial rfl rfl rfl ?_ ?_; (omega)) | refine oV ?_
   refine oV ?_
   refine oN ?_
   rw [val_natW, Nat.add_zero, Nat.mul_assoc, ← Nat.pow_succ] at hs3
   exact again (i + 1, u3, I3) (sC rfl (sC rfl (sC rfl sN))) (fun _ h => h) (by show m - (i + 1) < m - i; omega) ⟨by show i + 1 ≤ _; omega, hs3, hx2.trans hx3 (Nat.le_refl _)⟩
  have f1 := h1
  try simp only [bl] at f1
  refine c_exit (then_x (then_x (blk_eq rfl (tC (cS (cR ?_))))))
  iterate 2 refine oV ?_
  refine oN (tC (cT ?_))
  refine ret1 rfl rfl ?_
  refine leaf hx2 (List.nil_sublist _) ?_
  by_cases him : i = m
  · subst him; exact hu
  · have h0 : val A * 2 ^ i = 0 := natW_len_zero.1 (by omega)
    have hp : 0 < 2 ^ i := Nat.pow_pos (by decide)
    have h1 : val A = 0 := by
      rcases Nat.mul_eq_zero.1 h0 with h | h
      · exact h
      · omega
    rw [h1, Nat.zero_mul] at hu ⊢
    exact hu
end Go.Proofs.YtmgpifkekofacaaGreatDoor
namespace Go.Tw
open Go
theorem bits_one {a : Nat} (ha : a < 4294967296) : bits .and .u32 (a : Int) ((1 : Nat) : Int) = ((a % 2 : Nat) : Int) := by
  have h1 : (BitVec.ofInt 32 (a : Int)).toNat = a := by
    rw [BitVec.ofInt_natCast, BitVec.toNat_ofNat]; exact Nat.mod_eq_of_lt (by omega)
  have h2 : (BitVec.ofInt 32 ((1 : Nat) : Int)).toNat = 1 := by
    rw [BitVec.ofInt_natCast, BitVec.toNat_ofNat]
  show IntKind.u32.wrap ((BitVec.ofInt 32 (a : Int) &&& BitVec.ofInt 32 ((1 : Nat) : Int)).toNat : Int) = _
  rw [BitVec.toNat_and, h1, h2, Nat.and_one_is_mod, IntWalk.u32_in _ (by omega)]
section
variable {P : Program} {ops : Array Oper} {rest : List Oper} {n : Nat} {D : List Deferred} {E : Env} {S : World → Prop} {Q : Exit → Act → World → Prop} {d : Nat} {ty : TypeId} {pos : String} {aft : Array Edge} {g : Option (Nat × Bool)}
theorem o_and1 {qm : Bool} {x y : Operand} {t t2 : TypeId} {a : Nat} (hg : Wants ops E g) (hd : Nat.blt d n = true) (hx : ev E x = some (.int .u32 (a : Int))) (hy : ev E y = some (.int .u32 1)) (h : a < 4294967296)
    (k : TL qm P ops Q rest n D ((d, .int .u32 ((a % 2 : Nat) : Int)) :: E) S) : TL qm P ops Q (⟨some d, .binOp .and t x y t2, ty, pos, aft, g⟩ :: rest) n D E S :=
  o_rd hg hd (v := .int .u32 ((a % 2 : Nat) : Int)) (fun a w ha hw d pos aft g => ⟨w, by
    simp only [execOp, ha.ev hx, ha.ev hy, Sem.run_bind, run_eqGuard_int, Result.andThen_ok]
    rw [binOp_and, intBits_and, show (1 : Int) = ((1 : Nat) : Int) from rfl, bits_one h]
    simp, rfl⟩) k
end
theorem val_bit {A : List Nat} (hA : Wds A) {i : Nat} (h : i / 32 < A.length) : dg A (i / 32) / 2 ^ (i % 32) % 2 = val A / 2 ^ i % 2 := by
  have hr : i % 32 < 32 := Nat.mod_lt _ (by decide)
  have h1 := val_split (l := A) (i := i / 32) (by omega)
  have h2 := val_drop h
  have h3 : 2 ^ i = 4294967296 ^ (i / 32) * 2 ^ (i % 32) := by
    rw [pow_bits, ← Nat.pow_add]; congr 1; omega
  have h4 : val A / 4294967296 ^ (i / 32) = val (A.drop (i / 32)) := by
    rw [h1, Nat.add_mul_div_left _ _ (pow_pos _), Nat.div_eq_of_lt (pre_lt hA _), Nat.zero_add]
  have h5 : (4294967296 : Nat) = 2 ^ (i % 32) * (2 * 2 ^ (31 - i % 32)) := by
    rw [← Nat.pow_succ', ← Nat.pow_add, show i % 32 + (31 - i % 32).succ = 32 by omega]
  rw [h3, ← Nat.div_div_eq_div_mul, h4, h2, h5, Nat.mul_assoc, Nat.mul_assoc, Nat.add_mul_div_left _ _ (Nat.pow_pos (by decide)), Nat.add_mul_mod_self_left]
theorem bit_step {a i d q r : Nat} (hd : 0 < d) (hq : q = a / 2 ^ (i + 1) / d) (hr : r = a / 2 ^ (i + 1) % d) :
    (d ≤ 2 * r + a / 2 ^ i % 2 → 2 * q + 1 = a / 2 ^ i / d ∧ 2 * r + a / 2 ^ i % 2 - d = a / 2 ^ i % d) ∧ (¬ d ≤ 2 * r + a / 2 ^ i % 2 → 2 * q = a / 2 ^ i / d ∧ 2 * r + a / 2 ^ i % 2 = a / 2 ^ i % d) := by
  have h1 : a / 2 ^ (i + 1) = a / 2 ^ i / 2 := by rw [Nat.pow_succ, Nat.div_div_eq_div_mul]
  have h2 : r < d := by rw [hr]; exact Nat.mod_lt _ hd
  have h3 := Nat.div_add_mod (a / 2 ^ (i + 1)) d
  rw [← hq, ← hr, h1] at h3
  generalize a / 2 ^ i = b at *
  have hb : b % 2 < 2 := Nat.mod_lt _ (by decide)
  have hm : d * (2 * q) = 2 * (d * q) := Nat.mul_left_comm _ _ _
  constructor
  · intro h
    exact div_unique (by rw [Nat.mul_comm, Nat.mul_add, Nat.mul_one, hm]; omega) (by omega)
  · intro h
    exact div_unique (by rw [Nat.mul_comm, hm]; omega) (by omega)
end Go.Tw
namespace Go.Proofs.YtmgpifkekofacaaGreatDoor
open Go Go.Tw
theorem rBit_any (va : Value) (A : List Nat) (i : Nat) {I : Hp} (ha : Ws I va A) (hs : A.length ≤ 1000000) (hi : i < 32 * A.length) : Fun Tryz.prog 149 [va, .int .i64 (i : Int)] I [] (fun v _ _ => v = .int .u32 ((val A / 2 ^ i % 2 : Nat) : Int)) := by
  have hd := dg_lt ha.wds (i / 32)
  have hd2 : dg A (i / 32) / 2 ^ (i % 32) ≤ dg A (i / 32) := Nat.div_le_self _ _
  intro w hw
  refine enter2 _ Tryz.func149 rfl Tryz.ntmps149 rfl ?_ hw
  refine cS (cR ?_)
  refine oV ?_
  refine oN (tC (cS (cR ?_)))
  iterate 2 refine oV ?_
  refine o_quo trivial rfl rfl rfl (by omega) (by first | rfl | rw [IntWalk.i64_in _ (by omega)]) ?_
  rw [show (i : Int) / 32 = ((i / 32 : Nat) : Int) by omega]
  refine o_elemW trivial rfl Tryz.underlying40 Tryz.sizeOf101 rfl (ha) rfl (by omega) ?_
  refine o_load1I trivial rfl Tryz.isAgg101 rfl (ha.cellI (k := i / 32) rfl (by omega)) ?_
  refine oV ?_
  refine o_rem trivial rfl rfl rfl (by omega) ?_
  rw [show (i : Int) % 32 = ((i % 32 : Nat) : Int) by omega]
  refine o_shr (2 ^ (i % 32)) trivial rfl rfl rfl (by omega) (by rw [Int.toNat_natCast, show min (i % 32) IntKind.u32.bits = i % 32 from Nat.min_eq_left (by show i % 32 ≤ 32; omega)]) (by omega) ?_
  rw [show (dg A (i / 32) : Int) / ((2 ^ (i % 32) : Nat) : Int) = ((dg A (i / 32) / 2 ^ (i % 32) : Nat) : Int) from (Int.natCast_ediv _ _).symm]
  refine o_and1 trivial rfl rfl rfl (by omega) ?_
  refine oV ?_
  refine oN (tC (cT ?_))
  refine ret1 rfl rfl ?_
  refine leaf0 (congrArg (Value.int .u32) ?_); rw [val_bit ha.wds (by omega)]
theorem dbl_len {n b k : Nat} (h : (natW n).length ≤ k) (hb : (natW b).length ≤ k) : (natW (2 * n + b)).length ≤ k + 2 := by
  rw [Nat.two_mul]
  exact natW_add_len _ _ (k + 1) (natW_add_len _ _ k h h) (by omega)
theorem one_len {b : Nat} (h : b ≤ 1) : (natW b).length ≤ 1 := natW_len_le (by rw [Nat.pow_one]; omega)
theorem rDiv_any (va vb : Value) (A B : List Nat) {I : Hp} (ha : Ws I va A) (hb : Ws I vb B) (hs : A.length ≤ 100000) (hs2 : B.length ≤ 100000) (h0 : 0 < val B) : Fun Tryz.prog 124 [va, vb] I [] (fun v I' _ => ∃ u1 u2, v = .tuple #[u1, u2, .bool true] ∧ Ws I' u1 (natW (val A / val B)) ∧ Ws I' u2 (natW (val A % val B))) := by
  have hbl : (natW (val B)).length ≤ B.length := natW_len_list hb.wds
  have hbz : (natW (val B)).length ≠ 0 := fun e => by have := natW_len_zero.1 e; omega
  have hA : val A < 2 ^ (32 * A.length) := by have := val_lt ha.wds; rwa [pow_bits] at this
  have hal : (natW (val A)).length ≤ A.length := natW_len_list ha.wds
  intro w hw
  refine enter2 _ Tryz.func124 rfl Tryz.ntmps124 rfl ?_ hw
  refine cS (cR ?_)
  iterate 3 refine oV ?_
  refine oN (tC (cS (cR ?_)))
  refine oV ?_
  refine o_callI trivial rfl Tryz.call116 rfl (rTrim_any _ _ hb (by omega)) ?_
  rintro u1 I1 hx1 hs1
  refine oV ?_
  refine oN (tC (cS (cS (cR ?_))))
  refine oV ?_
  refine o_lenW trivial rfl Tryz.underlying40 rfl (hs1) ?_
  refine oV ?_
  refine oN (tC ?_)
  refine cC rfl (fun h1 => ?_) (fun h1 => ?_)
  ·
   have f1 := h1
   try simp only [bl] at f1
   exfalso; omega
  have f1 := h1
  try simp only [bl] at f1
  refine cK (tC (cS (cR ?_)))
  refine oV ?_
  refine oN (tC (cS (cR ?_)))
  refine oV ?_
  refine oN (tC (cS (cS (cR ?_))))
  refine oV ?_
  refine o_lenW trivial rfl Tryz.underlying40 rfl (ha) ?_
  first | (refine o_mul trivial rfl rfl rfl ?_ ?_; (omega)) | refine oV ?_
  first | (refine o_sub trivial rfl rfl rfl ?_ ?_; (omega)) | refine oV ?_
  refine oV ?_
  refine oN (tC (cB ?_))
  refine c_loop (ι := Nat × Int × Value × Value × Hp) [0, 7] (.cons rfl (.cons rfl .nil)) (fun x => x.1) (fun x E0 => (8, x.2.2.1) :: (9, x.2.2.2.1) :: (10, .int .i64 x.2.1) :: E0) (fun x => St w [] x.2.2.2.2 []) (fun x => x.1 ≤ 32 * A.length ∧ x.2.1 = (x.1 : Int) - 1 ∧ Ws x.2.2.2.2 x.2.2.1 (natW (val A / 2 ^ x.1 / val B)) ∧ Ws x.2.2.2.2 x.2.2.2.1 (natW (val A / 2 ^ x.1 % val B)) ∧ Ext w.heap.size I x.2.2.2.2 ∧ I1.Le x.2.2.2.2) ((32 * A.length, 32 * (A.length : Int) - 1, .slice none 0 0, .slice none 0 0, I1)) (sC rfl (sC rfl (sC rfl (sC rfl (sC rfl sN))))) (fun _ h => h) (⟨Nat.le_refl _, by simp only; omega, by simp only; rw [Nat.div_eq_of_lt hA, Nat.zero_div, natW_zero]; exact Ws.nil _, by simp only; rw [Nat.div_eq_of_lt hA, Nat.zero_mod, natW_zero]; exact Ws.nil _, hx1, Hp.Le.refl _⟩) ?_
  rintro ⟨j, z, uq, ur, I2⟩ ⟨hj, hz, hq, hr, hx2, hle⟩
  try dsimp only
  simp only at hj hz hq hr hx2 hle; subst hz
  refine cS (cS (cR ?_))
  iterate 2 refine oV ?_
  refine oN (tC ?_)
  refine cC rfl (fun h2 => ?_) (fun h2 => ?_)
  ·
   have f2 := h2
   try simp only [bl] at f2
   obtain ⟨i, rfl⟩ : ∃ i, j = i + 1 := ⟨j - 1, by omega⟩
   have hql : (natW (val A / 2 ^ (i + 1) / val B)).length ≤ 100000 := Nat.le_trans (natW_le_len (Nat.le_trans (Nat.div_le_self _ _) (Nat.div_le_self _ _))) (Nat.le_trans hal hs)
   have hrl : (natW (val A / 2 ^ (i + 1) % val B)).length ≤ 100000 := Nat.le_trans (natW_le_len (Nat.le_trans (Nat.mod_le _ _) (Nat.div_le_self _ _))) (Nat.le_trans hal hs)
   have hbs := bit_step (a := val A) (i := i) h0 rfl rfl
   have e1 : ((i + 1 : Nat) : Int) - 1 = (i : Nat) := by omega
   rw [e1]
   have hqv : val (natW (val A / 2 ^ (i + 1) / val B)) * 2 + 0 = 2 * (val A / 2 ^ (i + 1) / val B) := by rw [val_natW]; omega
   have hrv : val (natW (val A / 2 ^ (i + 1) % val B)) * 2 + val A / 2 ^ i % 2 = 2 * (val A / 2 ^ (i + 1) % val B) + val A / 2 ^ i % 2 := by rw [val_natW]; omega
   refine cK (tC (cS (cB (cS (cR ?_)))))
   refine oV ?_
   refine o_callI trivial rfl Tryz.call148 rfl (rOne_any _ _ 2 0 hq (by omega) (by decide) (by decide)) ?_
   rintro u3 I3 hx3 hs3
   refine oV ?_
   refine oN (tC (cS (cR ?_)))
   iterate 3 refine oV ?_
   refine o_callQ trivial rfl Tryz.call149 rfl (rBit_any _ A i (ha.le (hx2.le.trans hx3.le)) (by omega) (by omega)) ?_
   refine o_callI trivial rfl Tryz.call148 rfl (rOne_any _ _ 2 (val A / 2 ^ i % 2) (hr.le hx3.le) (by omega) (by decide) (by omega)) ?_
   rintro u4 I4 hx4 hs4
   refine oV ?_
   refine oN (tC (cS ?_))
   rw [hqv] at hs3
   rw [hrv] at hs4
   have hl3 := dbl_len (n := val A / 2 ^ (i + 1) / val B) (b := 0) hql (by rw [natW_zero]; exact Nat.zero_le _)
   rw [Nat.add_zero] at hl3
   have hl4 := dbl_len (n := val A / 2 ^ (i + 1) % val B) (b := val A / 2 ^ i % 2) hrl (Nat.le_trans (one_len (by omega)) (by decide))
   refine cR ?_
   iterate 2 refine oV ?_
   refine o_callQ trivial rfl Tryz.call145 rfl (rCmp_any _ _ _ _ hs4 (hs1.le (hle.trans (hx3.le.trans hx4.le))) (by omega) (by omega)) ?_
   refine oV ?_
   refine oN (tC ?_)
   refine cC rfl (fun h3 => ?_) (fun h3 => ?_)
   ·
    have f3 := h3
    try simp only [bl] at f3
    rw [val_natW, val_natW] at f3
    have hge : val B ≤ 2 * (val A / 2 ^ (i + 1) % val B) + val A / 2 ^ i % 2 := by unfold cmpZ at f3; split at f3 <;> (try split at f3) <;> omega
    obtain ⟨hb1, hb2⟩ := hbs.1 hge
    refine cS (cR ?_)
    iterate 2 refine oV ?_
    refine o_callI trivial rfl Tryz.call146 rfl (rSub_any _ _ _ _ hs4 (hs1.le (hle.trans (hx3.le.trans hx4.le))) (by omega) (by omega) (by rw [val_natW, val_natW]; exact hge)) ?_
    rintro _ I5 hx5 ⟨u5, rfl, hs5⟩
    iterate 4 refine oV ?_
    refine oN (tC (cR ?_))
    refine oV ?_
    refine o_callI trivial rfl Tryz.call148 rfl (rOne_any _ _ 1 1 (hs3.le (hx4.le.trans hx5.le)) (by omega) (by decide) (by decide)) ?_
    rintro u6 I6 hx6 hs6
    refine oV ?_
    refine oN (blk_n (tC (cR ?_)))
    refine oV ?_
    first | (refine o_sub trivial rfl rfl rfl ?_ ?_; (omega)) | refine oV ?_
    refine oV ?_
    refine oN ?_
    first
      | (rw [val_natW, val_natW, hb2] at hs5
         rw [val_natW, Nat.mul_one, hb1] at hs6
         exact again (i, (i : Int) - 1, u6, u5, I6) (sC rfl (sC rfl (sC rfl (sC rfl (sC rfl sN))))) (fun _ h => h) (by show i < i + 1; omega) ⟨by show i ≤ _; omega, rfl, hs6, hs5.le hx6.le, hx2.trans (hx3.trans (hx4.trans (hx5.trans hx6 (Nat.le_refl _)) (Nat.le_refl _)) (Nat.le_refl _)) (Nat.le_refl _), hle.trans (hx3.le.trans (hx4.le.trans (hx5.le.trans hx6.le)))⟩)
      | (rw [hb2] at hs4
         rw [hb1] at hs3
         exact again (i, (i : Int) - 1, u3, u4, I4) (sC rfl (sC rfl (sC rfl (sC rfl (sC rfl sN))))) (fun _ h => h) (by show i < i + 1; omega) ⟨by show i ≤ _; omega, rfl, hs3.le hx4.le, hs4, hx2.trans (hx3.trans hx4 (Nat.le_refl _)) (Nat.le_refl _), hle.trans (hx3.le.trans hx4.le)⟩)
   have f3 := h3
   try simp only [bl] at f3
   rw [val_natW, val_natW] at f3
   have hge : ¬ val B ≤ 2 * (val A / 2 ^ (i + 1) % val B) + val A / 2 ^ i % 2 := by unfold cmpZ at f3; split at f3 <;> (try split at f3) <;> omega
   obtain ⟨hb1, hb2⟩ := hbs.2 hge
   refine cK (blk_n (tC (cR ?_)))
   refine oV ?_
   first | (refine o_sub trivial rfl rfl rfl ?_ ?_; (omega)) | refine oV ?_
   refine oV ?_
   refine oN ?_
   first
     | (rw [val_natW, val_natW, hb2] at hs5
        rw [val_natW, Nat.mul_one, hb1] at hs6
        exact again (i, (i : Int) - 1, u6, u5, I6) (sC rfl (sC rfl (sC rfl (sC rfl (sC rfl sN))))) (fun _ h => h) (by show i < i + 1; omega) ⟨by show i ≤ _; omega, rfl, hs6, hs5.le hx6.le, hx2.trans (hx3.trans (hx4.trans (hx5.trans hx6 (Nat.le_refl _)) (Nat.le_refl _)) (Nat.le_refl _)) (Nat.le_refl _), hle.trans (hx3.le.trans (hx4.le.trans (hx5.le.trans hx6.le)))⟩)
     | (rw [hb2] at hs4
        rw [hb1] at hs3
        exact again (i, (i : Int) - 1, u3, u4, I4) (sC rfl (sC rfl (sC rfl (sC rfl (sC rfl sN))))) (fun _ h => h) (by show i < i + 1; omega) ⟨by show i ≤ _; omega, rfl, hs3.le hx4.le, hs4, hx2.trans (hx3.trans hx4 (Nat.le_refl _)) (Nat.le_refl _), hle.trans (hx3.le.trans hx4.le)⟩)
  have f2 := h2
  try simp only [bl] at f2
  refine c_exit (then_x (then_x (blk_eq rfl (tC (cS (cR ?_))))))
  iterate 5 refine oV ?_
  refine oN (tC (cT ?_))
  refine ret3 rfl rfl rfl rfl ?_
  have hj0 : j = 0 := by omega
  subst hj0
  rw [Nat.pow_zero, Nat.div_one] at hq hr
  exact leaf hx2 (List.nil_sublist _) ⟨uq, ur, rfl, hq, hr⟩
theorem rSmall_any (va : Value) (A : List Nat) (d : Nat) {I : Hp} (ha : Ws I va A) (hs : A.length ≤ 100000) (hd0 : 0 < d) (hd : d < 4294967296) : Fun Tryz.prog 117 [va, .int .u32 (d : Int)] I [] (fun v I' _ => ∃ u, v = .tuple #[u, .int .u32 ((val A % d : Nat) : Int), .bool true] ∧ Ws I' u (natW (val A / d))) := by
  have hv1 : val [d] = d := by rw [val_cons, val_nil]; omega
  intro w hw
  refine enter2 _ Tryz.func117 rfl Tryz.ntmps117 rfl ?_ hw
  refine cS (cR ?_)
  iterate 3 refine oV ?_
  refine oN (tC (cS (cR ?_)))
  iterate 2 refine oV ?_
  refine o_buildSl trivial rfl Tryz.underlying40 Tryz.sizeOf101 Tryz.zeroValue101 (by decide) (by decide) rfl (by repeat first | exact rfl | constructor) rfl (fun b13 => ?_)
  refine l_sealW [d] .here (Wds_cons hd Wds_nil) (by unfold maxLen; simp) (fun I1 hx1 hs1 => ?_)
  refine o_callI trivial rfl Tryz.call124 rfl (rDiv_any _ _ A [d] (ha.le hx1.le) hs1 hs (by simp) (by rw [hv1]; exact hd0)) ?_
  rintro _ I2 hx2 ⟨u1, u2, rfl, hq, hr⟩
  iterate 7 refine oV ?_
  refine oN (tC (cS (cS ?_)))
  rw [hv1] at hq hr
  have hrd : val A % d < d := Nat.mod_lt _ hd0
  have hrl := natW_len_le (n := val A % d) (k := 1) (by rw [Nat.pow_one]; omega)
  refine cR ?_
  refine oV ?_
  refine o_lenW trivial rfl Tryz.underlying40 rfl (hr) ?_
  refine oV ?_
  refine oN (tC ?_)
  refine cC rfl (fun h1 => ?_) (fun h1 => ?_)
  ·
   have f1 := h1
   try simp only [bl] at f1
   refine cS (cR ?_)
   iterate 5 refine oV ?_
   refine oN (tC (cT (tR ?_)))
   refine ret3 rfl rfl rfl rfl ?_
   have h0 : val A % d = 0 := natW_len_zero.1 (by omega)
   refine leaf (hx1.trans hx2 (Nat.le_refl _)) (List.nil_sublist _) ⟨u1, ?_, hq⟩; rw [h0]; rfl
  have f1 := h1
  try simp only [bl] at f1
  have h0 : val A % d ≠ 0 := fun e => f1 (by rw [e, natW_zero]; rfl)
  have hdg : dg (natW (val A % d)) 0 = val A % d := by rw [natW_pos h0]; show (val A % d) % 4294967296 = _; exact Nat.mod_eq_of_lt (by omega)
  refine cK (tC (cS ?_))
  refine c_quiet (by kernel_rfl) (by kernel_rfl) (fun _ h => h.drawn) ?_
  iterate 2 refine oV ?_
  refine o_elemW trivial rfl Tryz.underlying40 Tryz.sizeOf101 rfl (hr) rfl (by omega) ?_
  refine o_load1I trivial rfl Tryz.isAgg101 rfl (hr.cellI (k := 0) rfl (by omega)) ?_
  iterate 4 refine oV ?_
  refine oN (tC (cT ?_))
  refine ret3 rfl rfl rfl rfl ?_
  refine leaf (hx1.trans hx2 (Nat.le_refl _)) (List.nil_sublist _) ⟨u1, ?_, hq⟩; rw [hdg]; rfl
theorem natW_even {n : Nat} (h : n ≠ 0) : dg (natW n) 0 % 2 = n % 2 := by
  rw [natW_pos h]; show (n % 4294967296) % 2 = n % 2; omega
structure OddOf (n x k : Nat) : Prop where
  eq : n = 2 ^ k * x
  odd : x % 2 = 1
theorem rOdd_any (va : Value) (n : Nat) {I : Hp} (ha : Ws I va (natW n)) (hs : (natW n).length ≤ 100000) (h0 : 0 < n) : Fun Tryz.prog 144 [va] I [] (fun v I' _ => ∃ u x k, v = .tuple #[u, .int .i64 (k : Nat)] ∧ Ws I' u (natW x) ∧ OddOf n x k) := by
  intro w hw
  refine enter1 _ Tryz.func144 rfl Tryz.ntmps144 rfl ?_ hw
  refine cS (cR ?_)
  iterate 2 refine oV ?_
  refine oN (tC (cS (cR ?_)))
  refine oV ?_
  refine oN (tC (cS (cB ?_)))
  refine c_loop (ι := Nat × Nat × Value × Hp) [] .nil (fun x => x.1) (fun x E0 => (0, x.2.2.1) :: (4, .int .i64 (x.2.1 : Nat)) :: E0) (fun x => St w [] x.2.2.2 []) (fun x => 0 < x.1 ∧ n = 2 ^ x.2.1 * x.1 ∧ Ws x.2.2.2 x.2.2.1 (natW x.1) ∧ (natW x.1).length ≤ 100000 ∧ Ext w.heap.size I x.2.2.2) ((n, 0, va, I)) (sC rfl (sC rfl sN)) (fun _ h => h) (⟨h0, by simp, ha, hs, Ext.refl _ _⟩) ?_
  rintro ⟨m, k, u, I1⟩ ⟨hm0, he, hu, hl, hx1⟩
  try dsimp only
  simp only at hm0 he hu hl hx1; have hne : (natW m).length ≠ 0 := fun e => by have := natW_len_zero.1 e; omega
  refine cS (cS (cR ?_))
  refine oV ?_
  refine o_lenW trivial rfl Tryz.underlying40 rfl (hu) ?_
  refine oV ?_
  refine' o_and trivial trivial rfl rfl rfl rfl rfl rfl rfl rfl (fun hb8 => ?_) ?_
  rotate_left
  ·
   have fb8 := hb8
   try simp only [bl] at fb8
   refine o_pv (wS rfl rfl hb8) rfl rfl ?_
   refine o_elemW (wS rfl rfl hb8) rfl Tryz.underlying40 Tryz.sizeOf101 rfl (hu) rfl (by omega) ?_
   refine o_load1I (wS rfl rfl hb8) rfl Tryz.isAgg101 rfl (hu.cellI (k := 0) rfl (by omega)) ?_
   refine o_rem (wS rfl rfl hb8) rfl rfl rfl (by omega) ?_
   refine o_pv (wS rfl rfl hb8) rfl rfl ?_
   refine oN ?_
   exact joins rfl
  refine oN (tC ?_)
  refine cC rfl (fun h1 => ?_) (fun h1 => ?_)
  ·
   have f1 := h1
   try simp only [bl] at f1
   have hev := natW_even (n := m) (by omega)
   have hk64 : k < 32 * (natW n).length := by
     have h1 := val_lt (Wds_natW n)
     rw [val_natW, pow_bits] at h1
     have h2 : 2 ^ k ≤ n := by rw [he]; exact Nat.le_mul_of_pos_right _ hm0
     exact (Nat.pow_lt_pow_iff_right (by decide)).1 (Nat.lt_of_le_of_lt h2 h1)
   have hmm : m % 2 = 0 := by omega
   refine cK (tC (cB (cS (cR ?_))))
   refine oV ?_
   refine o_callI trivial rfl Tryz.call117 rfl (rSmall_any _ _ 2 hu hl (by decide) (by decide)) ?_
   rintro _ I2 hx2 ⟨u2, rfl, hs2⟩
   iterate 5 refine oV ?_
   refine oN (tC (cR ?_))
   refine oV ?_
   first | (refine o_add trivial rfl rfl rfl ?_ ?_; (omega)) | refine oV ?_
   refine oV ?_
   refine oN (blk_n ?_)
   rw [val_natW] at hs2
   exact again (m / 2, k + 1, u2, I2) (sC rfl (sC rfl sN)) (fun _ h => h) (by show m / 2 < m; omega) ⟨by show 0 < m / 2; omega, by show n = 2 ^ (k + 1) * (m / 2); rw [he, Nat.pow_succ, Nat.mul_assoc]; congr 1; omega, hs2, Nat.le_trans (natW_le_len (Nat.div_le_self _ _)) hl, hx1.trans hx2 (Nat.le_refl _)⟩
  have f1 := h1
  try simp only [bl] at f1
  refine c_exit (then_x (then_x (blk_eq rfl (tC (cS (cR ?_))))))
  iterate 4 refine oV ?_
  refine oN (tC (cT ?_))
  refine ret2 rfl rfl rfl ?_
  have hev := natW_even (n := m) (by omega)
  exact leaf hx1 (List.nil_sublist _) ⟨u, m, k, rfl, hu, he, by omega⟩
theorem OddOf.pos {n x k : Nat} (h : OddOf n x k) : 0 < x := by have := h.odd; omega
theorem OddOf.le {n x k : Nat} (h : OddOf n x k) : x ≤ n := by rw [h.eq]; exact Nat.le_mul_of_pos_left _ (Nat.pow_pos (by decide))
theorem OddOf.pow_lt {n x k L : Nat} (h : OddOf n x k) (hL : (natW n).length ≤ L) : k < 32 * L := by
  have h1 := val_lt (Wds_natW n)
  rw [val_natW, pow_bits] at h1
  have h2 : 2 ^ k ≤ n := by rw [h.eq]; exact Nat.le_mul_of_pos_right _ h.pos
  have h3 := (Nat.pow_lt_pow_iff_right (by decide)).1 (Nat.lt_of_le_of_lt h2 h1)
  omega
theorem rGcd_any (va vb : Value) (A B : List Nat) {I : Hp} (ha : Ws I va A) (hb : Ws I vb B) (hs : A.length ≤ 3000) (hs2 : B.length ≤ 3000) : Fun Tryz.prog 123 [va, vb] I [] (fun v I' _ => Ws I' v (natW (Nat.gcd (val A) (val B)))) := by
  have hal : (natW (val A)).length ≤ 3000 := Nat.le_trans (natW_len_list ha.wds) hs
  have hbl : (natW (val B)).length ≤ 3000 := Nat.le_trans (natW_len_list hb.wds) hs2
  intro w hw
  refine enter2 _ Tryz.func123 rfl Tryz.ntmps123 rfl ?_ hw
  refine cS (cR ?_)
  refine oV ?_
  refine oN (tC (cS (cR ?_)))
  refine oV ?_
  refine o_callI trivial rfl Tryz.call116 rfl (rTrim_any _ _ ha (by omega)) ?_
  rintro u1 I1 hx1 hs1
  refine oV ?_
  refine oN (tC (cS (cR ?_)))
  refine oV ?_
  refine o_callI trivial rfl Tryz.call116 rfl (rTrim_any _ _ (hb.le hx1.le) (by omega)) ?_
  rintro u2 I2 hx2 hs2'
  refine oV ?_
  refine oN (tC (cS (cS (cR ?_))))
  refine oV ?_
  refine o_lenW trivial rfl Tryz.underlying40 rfl (hs1.le hx2.le) ?_
  refine oV ?_
  refine oN (tC ?_)
  refine cC rfl (fun h1 => ?_) (fun h1 => ?_)
  ·
   have f1 := h1
   try simp only [bl] at f1
   refine cS (cR ?_)
   iterate 2 refine oV ?_
   refine oN (tC (cT (tR ?_)))
   refine ret1 rfl rfl ?_
   have h0 : val A = 0 := natW_len_zero.1 (by omega)
   refine leaf (hx1.trans hx2 (Nat.le_refl _)) (List.nil_sublist _) ?_; rw [h0, Nat.gcd_zero_left]; exact hs2'
  have f1 := h1
  try simp only [bl] at f1
  refine cK (tC (cS (cS (cR ?_))))
  refine oV ?_
  refine o_lenW trivial rfl Tryz.underlying40 rfl (hs2') ?_
  refine oV ?_
  refine oN (tC ?_)
  refine cC rfl (fun h2 => ?_) (fun h2 => ?_)
  ·
   have f2 := h2
   try simp only [bl] at f2
   refine cS (cR ?_)
   iterate 2 refine oV ?_
   refine oN (tC (cT (tR ?_)))
   refine ret1 rfl rfl ?_
   have h0 : val B = 0 := natW_len_zero.1 (by omega)
   refine leaf (hx1.trans hx2 (Nat.le_refl _)) (List.nil_sublist _) ?_; rw [h0, Nat.gcd_zero_right]; exact hs1.le hx2.le
  have f2 := h2
  try simp only [bl] at f2
  have hA0 : 0 < val A := Nat.pos_of_ne_zero fun e => f1 (by rw [e, natW_zero]; rfl)
  have hB0 : 0 < val B := Nat.pos_of_ne_zero fun e => f2 (by rw [e, natW_zero]; rfl)
  refine cK (tC (cS (cR ?_)))
  refine oV ?_
  refine o_callI trivial rfl Tryz.call144 rfl (rOdd_any _ _ (hs1.le hx2.le) (by omega) hA0) ?_
  rintro _ I3 hx3 ⟨u3, x, n, rfl, hs3, ho3⟩
  iterate 5 refine oV ?_
  refine oN (tC (cS ?_))
  have hn := ho3.pow_lt hal
  refine cR ?_
  refine oV ?_
  refine o_callI trivial rfl Tryz.call144 rfl (rOdd_any _ _ (hs2'.le hx3.le) (by omega) hB0) ?_
  rintro _ I4 hx4 ⟨u4, y, k, rfl, hs4, ho4⟩
  iterate 5 refine oV ?_
  refine oN (tC (cS (cB ?_)))
  refine c_loop (ι := Nat × Nat × Value × Value × Hp) [7, 8] (.cons rfl (.cons rfl .nil)) (fun t => t.1 + t.2.1) (fun t E0 => (5, t.2.2.1) :: (6, t.2.2.2.1) :: E0) (fun t => St w [] t.2.2.2.2 []) (fun t => t.1 % 2 = 1 ∧ t.2.1 % 2 = 1 ∧ Nat.gcd t.1 t.2.1 = Nat.gcd x y ∧ Ws t.2.2.2.2 t.2.2.1 (natW t.1) ∧ Ws t.2.2.2.2 t.2.2.2.1 (natW t.2.1) ∧ (natW t.1).length ≤ 3000 ∧ (natW t.2.1).length ≤ 3000 ∧ Ext w.heap.size I t.2.2.2.2) ((x, y, u3, u4, I4)) (sC rfl (sC rfl (sC rfl (sC rfl sN)))) (fun _ h => h) (⟨ho3.odd, ho4.odd, rfl, hs3.le hx4.le, hs4, Nat.le_trans (natW_le_len ho3.le) hal, Nat.le_trans (natW_le_len ho4.le) hbl, hx1.trans (hx2.trans (hx3.trans hx4 (Nat.le_refl _)) (Nat.le_refl _)) (Nat.le_refl _)⟩) ?_
  rintro ⟨a, b, ua, ub, I5⟩ ⟨hao, hbo, hg, hua, hub, hla, hlb, hx5⟩
  try dsimp only
  simp only at hao hbo hg hua hub hla hlb hx5
  refine cS (cS (cR ?_))
  iterate 2 refine oV ?_
  refine o_callQ trivial rfl Tryz.call145 rfl (rCmp_any _ _ _ _ hua hub (by omega) (by omega)) ?_
  refine oV ?_
  refine oN (tC ?_)
  refine cC rfl (fun h3 => ?_) (fun h3 => ?_)
  ·
   have f3 := h3
   try simp only [bl] at f3
   rw [val_natW, val_natW] at f3
   have hab : a ≠ b := fun e => f3 (by rw [e]; exact cmpZ_self _)
   refine cK (tC (cB ?_))
   refine c_cut (ι := Nat × Nat × Value × Value) [7, 8] (.cons rfl (.cons rfl .nil)) (fun t E0 => (5, t.2.2.1) :: (6, t.2.2.2) :: E0) (fun t => St w [] I5 []) (fun t => t.1 % 2 = 1 ∧ t.2.1 % 2 = 1 ∧ Nat.gcd t.1 t.2.1 = Nat.gcd x y ∧ Ws I5 t.2.2.1 (natW t.1) ∧ Ws I5 t.2.2.2 (natW t.2.1) ∧ (natW t.1).length ≤ 3000 ∧ (natW t.2.1).length ≤ 3000 ∧ t.2.1 < t.1 ∧ t.1 + t.2.1 = a + b) ?_ ?_
   ·
    refine cS (cR ?_)
    iterate 2 refine oV ?_
    refine o_callQ trivial rfl Tryz.call145 rfl (rCmp_any _ _ _ _ hua hub (by omega) (by omega)) ?_
    refine oV ?_
    refine oN (tC ?_)
    refine cC rfl (fun h4 => ?_) (fun h4 => ?_)
    ·
     have f4 := h4
     try simp only [bl] at f4
     rw [val_natW, val_natW] at f4
     have hlt : a < b := by unfold cmpZ at f4; split at f4 <;> (try split at f4) <;> omega
     refine cS (cR ?_)
     iterate 2 refine oV ?_
     refine oN (tC (cS (cR ?_)))
     iterate 2 refine oV ?_
     refine oN (tC (cR ?_))
     iterate 2 refine oV ?_
     refine oN ?_
     first | exact meet (b, a, ub, ua) (sC rfl (sC rfl (sC rfl (sC rfl sN)))) (fun _ h => h) ⟨hbo, hao, by rw [Nat.gcd_comm]; exact hg, hub, hua, hlb, hla, hlt, by show b + a = a + b; omega⟩ | exact meet (a, b, ua, ub) (sC rfl (sC rfl (sC rfl (sC rfl sN)))) (fun _ h => h) ⟨hao, hbo, hg, hua, hub, hla, hlb, by show b < a; omega, rfl⟩
    have f4 := h4
    try simp only [bl] at f4
    rw [val_natW, val_natW] at f4
    have hlt : ¬ a < b := fun h => by rw [cmpZ_lt (by omega)] at f4; omega
    refine cK ?_
    first | exact meet (b, a, ub, ua) (sC rfl (sC rfl (sC rfl (sC rfl sN)))) (fun _ h => h) ⟨hbo, hao, by rw [Nat.gcd_comm]; exact hg, hub, hua, hlb, hla, hlt, by show b + a = a + b; omega⟩ | exact meet (a, b, ua, ub) (sC rfl (sC rfl (sC rfl (sC rfl sN)))) (fun _ h => h) ⟨hao, hbo, hg, hua, hub, hla, hlb, by show b < a; omega, rfl⟩
   rintro ⟨c, d, uc, ud⟩ ⟨hco, hdo, hg2, huc, hud, hlc, hld, hdc, hsum⟩
   try dsimp only
   refine cS ?_
   simp only at hco hdo hg2 huc hud hlc hld hdc hsum
   refine cR ?_
   iterate 2 refine oV ?_
   refine o_callI trivial rfl Tryz.call146 rfl (rSub_any _ _ _ _ huc hud (by omega) (by omega) (by rw [val_natW, val_natW]; omega)) ?_
   rintro _ I6 hx6 ⟨u6, rfl, hs6⟩
   iterate 4 refine oV ?_
   refine oN (tC ?_)
   rw [val_natW, val_natW] at hs6
   have hl6 : (natW (c - d)).length ≤ 3000 := Nat.le_trans (natW_le_len (Nat.sub_le _ _)) hlc
   refine cR ?_
   refine oV ?_
   refine o_callI trivial rfl Tryz.call144 rfl (rOdd_any _ _ hs6 (by omega) (by omega)) ?_
   rintro _ I7 hx7 ⟨u7, z, p, rfl, hs7, ho7⟩
   iterate 4 refine oV ?_
   refine oN (blk_n ?_)
   exact again (z, d, u7, ud, I7) (sC rfl (sC rfl (sC rfl (sC rfl sN)))) (fun _ h => h) (by show z + d < a + b; have := ho7.le; omega) ⟨ho7.odd, hdo, by show Nat.gcd z d = _; rw [gcd_less hdo (by omega) ho7.eq]; exact hg2, hs7, hud.le (hx6.le.trans hx7.le), Nat.le_trans (natW_le_len ho7.le) hl6, hld, hx5.trans (hx6.trans hx7 (Nat.le_refl _)) (Nat.le_refl _)⟩
  have f3 := h3
  try simp only [bl] at f3
  rw [val_natW, val_natW] at f3
  have hab : a = b := by have := cmpZ_zero f3; omega
  refine c_exit (then_x (then_x (blk_eq rfl (tC (cS (cR ?_))))))
  iterate 3 refine oV ?_
  refine o_min2 trivial rfl rfl rfl ?_
  rw [show min (n : Int) (k : Int) = ((min n k : Nat) : Int) by omega]
  refine o_callI trivial rfl Tryz.call147 rfl (rShift_any _ _ (min n k) hua (by omega) (by omega)) ?_
  rintro u8 I8 hx8 hs8
  refine oV ?_
  refine oN (tC (cT ?_))
  refine ret1 rfl rfl ?_
  refine leaf (hx5.trans hx8 (Nat.le_refl _)) (List.nil_sublist _) ?_
  rw [val_natW] at hs8
  rw [ho3.eq, ho4.eq, gcd_twos ho3.odd ho4.odd, ← hg, ← hab, Nat.gcd_self]
  exact hs8
theorem rLowest_any (va vb : Value) (A B : List Nat) {I : Hp} (ha : Ws I va A) (hb : Ws I vb B) (hs : A.length ≤ 3000) (hs2 : B.length ≤ 3000) : Fun Tryz.prog 93 [va, vb] I [] (fun v I' _ => ∃ u1 u2, v = .tuple #[u1, u2, .bool (decide (val B ≠ 0))] ∧ (val B ≠ 0 → Ws I' u1 (natW (val A / Nat.gcd (val A) (val B))) ∧ Ws I' u2 (natW (val B / Nat.gcd (val A) (val B))))) := by
  have hbl : (natW (val B)).length ≤ 3000 := Nat.le_trans (natW_len_list hb.wds) hs2
  intro w hw
  refine enter2 _ Tryz.func93 rfl Tryz.ntmps93 rfl ?_ hw
  refine cS (cR ?_)
  iterate 3 refine oV ?_
  refine oN (tC (cS (cR ?_)))
  refine oV ?_
  refine o_callI trivial rfl Tryz.call116 rfl (rTrim_any _ _ hb (by omega)) ?_
  rintro u1 I1 hx1 hs1
  refine oV ?_
  refine oN (tC (cS (cS (cR ?_))))
  refine oV ?_
  refine o_lenW trivial rfl Tryz.underlying40 rfl (hs1) ?_
  refine oV ?_
  refine oN (tC ?_)
  refine cC rfl (fun h1 => ?_) (fun h1 => ?_)
  ·
   have f1 := h1
   try simp only [bl] at f1
   refine cS (cR ?_)
   iterate 3 refine oV ?_
   refine oN (tC (cT (tR ?_)))
   refine ret3 rfl rfl rfl rfl ?_
   have h0 : val B = 0 := natW_len_zero.1 (by omega)
   refine leaf hx1 (List.nil_sublist _) ⟨.slice none 0 0, .slice none 0 0, ?_, fun h => absurd h0 h⟩; rw [decide_eq_false (not_not_intro h0)]
  have f1 := h1
  try simp only [bl] at f1
  have h0 : 0 < val B := Nat.pos_of_ne_zero fun e => f1 (by rw [e, natW_zero]; rfl)
  have hg : 0 < Nat.gcd (val A) (val B) := Nat.gcd_pos_of_pos_right _ h0
  have hgl : (natW (Nat.gcd (val A) (val B))).length ≤ 3000 := Nat.le_trans (natW_le_len (Nat.gcd_le_right _ h0)) hbl
  refine cK (tC (cS (cR ?_)))
  iterate 2 refine oV ?_
  refine o_callI trivial rfl Tryz.call123 rfl (rGcd_any _ _ _ _ (ha.le hx1.le) hs1 hs (by omega)) ?_
  rintro u2 I2 hx2 hs2'
  refine oV ?_
  refine oN (tC (cS ?_))
  rw [val_natW] at hs2'
  refine cR ?_
  iterate 2 refine oV ?_
  refine o_callI trivial rfl Tryz.call124 rfl (rDiv_any _ _ _ _ (ha.le (hx1.le.trans hx2.le)) hs2' (by omega) (by omega) (by rw [val_natW]; exact hg)) ?_
  rintro _ I3 hx3 ⟨u3, u4, rfl, hq3, hr3⟩
  iterate 7 refine oV ?_
  refine oN (tC (cS (cR ?_)))
  iterate 2 refine oV ?_
  refine o_callI trivial rfl Tryz.call124 rfl (rDiv_any _ _ _ _ (hs1.le (hx2.le.trans hx3.le)) (hs2'.le hx3.le) (by omega) (by omega) (by rw [val_natW]; exact hg)) ?_
  rintro _ I4 hx4 ⟨u5, u6, rfl, hq5, hr5⟩
  iterate 5 refine oV ?_
  refine oN (tC (cS (cR ?_)))
  iterate 5 refine oV ?_
  refine oN (tC (cT ?_))
  refine ret3 rfl rfl rfl rfl ?_
  rw [val_natW] at hq3
  rw [val_natW, val_natW] at hq5
  refine leaf (hx1.trans (hx2.trans (hx3.trans hx4 (Nat.le_refl _)) (Nat.le_refl _)) (Nat.le_refl _)) (List.nil_sublist _) ⟨u3, u5, ?_, fun _ => ⟨hq3.le hx4.le, hq5⟩⟩; rw [decide_eq_true (by omega)]; rfl
theorem rOf7_any (n : Int) {I : Hp} (hn : -1000000 ≤ n ∧ n ≤ 1000000) : Fun Tryz.prog 62 [.int .i64 n] I [] (fun v I' _ => IntV I' v n) := by
  intro w hw
  refine enter1 _ Tryz.func62 rfl Tryz.ntmps62 rfl ?_ hw
  refine cS (cR ?_)
  refine o_alloc trivial rfl Tryz.zeroValue99 rfl (fun b2 => ?_)
  refine oN (tC (cS (cS (cR ?_))))
  iterate 2 refine oV ?_
  refine oN (tC ?_)
  refine cC rfl (fun h1 => ?_) (fun h1 => ?_)
  ·
   have f1 := h1
   try simp only [bl] at f1
   refine cS (cR ?_)
   refine oV ?_
   first | refine o_convIn trivial rfl Tryz.underlying3 Tryz.underlying136 rfl (by rw [IntWalk.u64_in _ (by omega)]) ?_ | refine o_conv trivial rfl Tryz.underlying3 Tryz.underlying136 rfl ?_
   rw [show n = ((n.natAbs : Nat) : Int) by omega]
   refine o_callI trivial rfl Tryz.call94 rfl (rOf_any n.natAbs (by omega)) ?_
   rintro u1 I1 hx1 hs1
   refine o_buildS trivial rfl (bld99) rfl (.cons rfl (by first | exact (Ws.cells1 (by assumption)).1 | exact (Slc.cells1 (by assumption)).1 | rfl) (by rfl) (by repeat constructor) .nil) ?_
   refine oS Tryz.sizeOf99 ?_
   refine oN (tC (cT (tR ?_)))
   refine retR rfl (.agg Tryz.isAgg99 Tryz.sizeOf99 rfl (by repeat constructor) rfl .nil) ?_
   refine leaf hx1 (List.nil_sublist _) ⟨u1, ?_, hs1⟩; rw [decide_eq_false (by omega)]; rfl
  have f1 := h1
  try simp only [bl] at f1
  refine cK (tC (cS (cR ?_)))
  refine oV ?_
  first | refine o_convIn trivial rfl Tryz.underlying3 Tryz.underlying136 rfl (by rw [IntWalk.u64_in _ (by omega)]) ?_ | refine o_conv trivial rfl Tryz.underlying3 Tryz.underlying136 rfl ?_
  first | refine o_arS trivial rfl rfl rfl (by rw [IntWalk.u64_in _ (by omega)]) ?_ | refine oV ?_
  refine oV ?_
  refine oN (tC (cS ?_))
  rw [show IntKind.u64.wrap (0 - IntKind.u64.wrap n) = ((n.natAbs : Nat) : Int) by simp only [IntKind.wrap_u64]; omega]
  refine cR ?_
  refine oV ?_
  refine o_callI trivial rfl Tryz.call94 rfl (rOf_any n.natAbs (by omega)) ?_
  rintro u2 I2 hx2 hs2
  refine o_buildS trivial rfl (bld99) rfl (.cons rfl rfl rfl (by repeat constructor) (.cons rfl (by first | exact (Ws.cells1 (by assumption)).1 | exact (Slc.cells1 (by assumption)).1 | rfl) (by rfl) (by repeat constructor) .nil)) ?_
  refine oS Tryz.sizeOf99 ?_
  refine oN (tC (cT ?_))
  refine retR rfl (.agg Tryz.isAgg99 Tryz.sizeOf99 rfl (by repeat constructor) rfl .nil) ?_
  refine leaf hx2 (List.nil_sublist _) ⟨u2, ?_, hs2⟩; rw [decide_eq_true (by omega)]; rfl
theorem natW_one : natW 1 = [1] := by rw [natW_pos (by decide), show 1 / 4294967296 = 0 from rfl, natW_zero]
theorem rlow_any (neg : Bool) (va vb : Value) (A B : List Nat) {I : Hp} (ha : Ws I va A) (hb : Ws I vb B) (hs : A.length ≤ 3000) (hs2 : B.length ≤ 3000) : Fun Tryz.prog 61 [.agg #[.bool neg, va], vb] I [] (fun v I' _ => RatV I' v (lowQ neg (val A) (val B))) := by
  intro w hw
  refine enter2 _ Tryz.func61 rfl Tryz.ntmps61 rfl ?_ hw
  refine cS (cR ?_)
  refine o_box trivial rfl rfl rfl (fun b2 => ?_)
  refine o_alloc trivial rfl Tryz.zeroValue42 rfl (fun b4 => ?_)
  refine oN (tC (cS (cR ?_)))
  refine oF 1 Tryz.underlying99 Tryz.sizeOf40 ?_
  refine oL Tryz.isAgg40 ?_
  refine oV ?_
  refine o_callI trivial rfl Tryz.call93 rfl (rLowest_any _ _ _ _ ha hb hs hs2) ?_
  rintro _ I1 hx1 ⟨u1, u2, rfl, hs1⟩
  iterate 7 refine oV ?_
  refine oN (tC (cS (cS (cR ?_))))
  iterate 2 refine oV ?_
  refine' o_or trivial trivial rfl rfl rfl rfl rfl rfl rfl rfl (fun hb18 => ?_) ?_
  rotate_left
  ·
   have fb18 := hb18
   try simp only [bl] at fb18
   have hB : val B ≠ 0 := by simpa using hb18
   obtain ⟨hu1, hu2⟩ := hs1 hB
   refine o_pv (wS rfl rfl hb18) rfl rfl ?_
   refine o_lenW (wS rfl rfl hb18) rfl Tryz.underlying40 rfl (hu1) ?_
   refine o_pv (wS rfl rfl hb18) rfl rfl ?_
   refine oN ?_
   exact joins rfl
  refine oN (tC ?_)
  refine cC rfl (fun h1 => ?_) (fun h1 => ?_)
  ·
   have f1 := h1
   try simp only [bl] at f1
   have h0 : val B = 0 ∨ val A = 0 := by
     rcases f1 with f1 | f1
     · exact .inl (Decidable.not_not.1 f1)
     · by_cases hB : val B = 0
       · exact .inl hB
       · exact .inr (div_gcd_zero (natW_len_zero.1 (by omega)) hB)
   refine cS (cR ?_)
   refine o_buildSl trivial rfl Tryz.underlying40 Tryz.sizeOf101 Tryz.zeroValue101 (by decide) (by decide) rfl (by repeat first | exact rfl | constructor) rfl (fun b23 => ?_)
   refine l_sealW [1] .here (Wds_cons (by decide) Wds_nil) (by unfold maxLen; simp) (fun I2 hx2 hs2' => ?_)
   refine o_buildS trivial rfl (bld42) rfl (.cons rfl (by first | exact (Ws.cells1 (by assumption)).1 | exact (Slc.cells1 (by assumption)).1 | rfl) (by rfl) (by repeat constructor) .nil) ?_
   refine oS Tryz.sizeOf42 ?_
   refine oN (tC (cT (tR ?_)))
   refine retR rfl (.agg Tryz.isAgg42 Tryz.sizeOf42 rfl (by repeat constructor) rfl .nil) ?_
   refine leaf (hx1.trans hx2 (Nat.le_refl _)) (List.nil_sublist _) ?_
   rw [lowQ_zero h0]; exact RatV.zero (by rw [natW_one]; exact hs2')
  have f1 := h1
  try simp only [bl] at f1
  have hB : val B ≠ 0 := fun e => f1.1 e
  obtain ⟨hu1, hu2⟩ := hs1 hB
  have hA : val A ≠ 0 := fun e => f1.2 (by rw [e, Nat.zero_div, natW_zero]; rfl)
  obtain ⟨e1, e2, e3⟩ := lowQ_parts (neg := neg) hA hB
  refine cK (tC (cS (cR ?_)))
  refine oF 0 Tryz.underlying99 Tryz.sizeOf4 ?_
  refine oL Tryz.isAgg4 ?_
  iterate 2 refine oV ?_
  refine o_buildS trivial rfl (bld42) rfl (.cons rfl rfl rfl (by repeat constructor) (.cons rfl (by first | exact (Ws.cells1 (by assumption)).1 | exact (Slc.cells1 (by assumption)).1 | rfl) (by rfl) (by repeat constructor) (.cons rfl (by first | exact (Ws.cells1 (by assumption)).1 | exact (Slc.cells1 (by assumption)).1 | rfl) (by rfl) (by repeat constructor) .nil))) ?_
  refine oS Tryz.sizeOf42 ?_
  refine oN (tC (cT ?_))
  refine retR rfl (.agg Tryz.isAgg42 Tryz.sizeOf42 rfl (by repeat constructor) rfl .nil) ?_
  refine leaf hx1 (List.nil_sublist _) ⟨u1, u2, ?_, ?_, ?_⟩
  · rw [e3]; rfl
  · rw [e1]; exact hu1
  · rw [e2]; exact hu2
theorem rEqual_any (s1 s2 : Bool) (va vb vc vd : Value) (A B C D : List Nat) {I : Hp} (ha : Ws I va A) (hb : Ws I vb B) (hc : Ws I vc C) (hd : Ws I vd D) : Fun Tryz.prog 80 [.agg #[.bool s1, va, vb], .agg #[.bool s2, vc, vd]] I [] (fun v _ _ => v = .bool (decide (s1 = s2) && decide (A = C) && decide (B = D))) := by
  intro w hw
  refine enter2 _ Tryz.func80 rfl Tryz.ntmps80 rfl ?_ hw
  refine cS (cR ?_)
  refine o_box trivial rfl rfl rfl (fun b2 => ?_)
  refine o_box trivial rfl rfl rfl (fun b3 => ?_)
  refine oV ?_
  refine oN (tC (cS (cR ?_)))
  refine oF 0 Tryz.underlying42 Tryz.sizeOf4 ?_
  refine oL Tryz.isAgg4 ?_
  refine oF 0 Tryz.underlying42 Tryz.sizeOf4 ?_
  refine oL Tryz.isAgg4 ?_
  refine o_eqlB trivial rfl rfl rfl Tryz.underlying4 ?_
  refine' o_and trivial trivial rfl rfl rfl rfl rfl rfl rfl rfl (fun hb10 => ?_) ?_
  rotate_left
  ·
   have fb10 := hb10
   try simp only [bl] at fb10
   refine oX (T := 40) (off := 1) (wS rfl rfl hb10) rfl Tryz.underlying42 rfl rfl rfl Tryz.sizeOf40 rfl rfl ?_
   refine o_load1 (wS rfl rfl hb10) rfl Tryz.isAgg40 rfl (by repeat constructor) (by repeat constructor) ?_
   refine oX (T := 40) (off := 1) (wS rfl rfl hb10) rfl Tryz.underlying42 rfl rfl rfl Tryz.sizeOf40 rfl rfl ?_
   refine o_load1 (wS rfl rfl hb10) rfl Tryz.isAgg40 rfl (by repeat constructor) (by repeat constructor) ?_
   refine o_callQ (wS rfl rfl hb10) rfl Tryz.call114 rfl (rWords_any _ _ _ _ ha hc) ?_
   refine oN ?_
   exact joins rfl
  refine' o_and trivial trivial rfl rfl rfl rfl rfl rfl rfl rfl (fun hb17 => ?_) ?_
  rotate_left
  ·
   have fb17 := hb17
   try simp only [bl] at fb17
   refine oX (T := 40) (off := 2) (wS rfl rfl hb17) rfl Tryz.underlying42 rfl rfl rfl Tryz.sizeOf40 rfl rfl ?_
   refine o_load1 (wS rfl rfl hb17) rfl Tryz.isAgg40 rfl (by repeat constructor) (by repeat constructor) ?_
   refine oX (T := 40) (off := 2) (wS rfl rfl hb17) rfl Tryz.underlying42 rfl rfl rfl Tryz.sizeOf40 rfl rfl ?_
   refine o_load1 (wS rfl rfl hb17) rfl Tryz.isAgg40 rfl (by repeat constructor) (by repeat constructor) ?_
   refine o_callQ (wS rfl rfl hb17) rfl Tryz.call114 rfl (rWords_any _ _ _ _ hb hd) ?_
   refine oN ?_
   exact joins rfl
  refine oV ?_
  refine oN (tC (cT ?_))
  refine ret1 rfl rfl ?_
  refine leaf0 (congrArg Value.bool ?_)
  congr 2
theorem val_one : val [1] = 1 := by rw [val_cons, val_nil]
theorem rOf8_any (n : Int) {I : Hp} (hn : -1000000 ≤ n ∧ n ≤ 1000000) : Fun Tryz.prog 38 [.int .i64 n] I [] (fun v I' _ => RatV I' v (mkRat n 1)) := by
  have hl : (natW n.natAbs).length ≤ 3000 := natW_len_of (k := 1) (by rw [Nat.pow_one]; omega) (by decide)
  intro w hw
  refine enter1 _ Tryz.func38 rfl Tryz.ntmps38 rfl ?_ hw
  refine cS (cR ?_)
  refine o_alloc trivial rfl Tryz.zeroValue42 rfl (fun b2 => ?_)
  refine oN (tC (cS (cR ?_)))
  refine oV ?_
  refine o_callI trivial rfl Tryz.call62 rfl (rOf7_any n hn) ?_
  rintro _ I1 hx1 ⟨u1, rfl, hs1⟩
  refine o_buildSl trivial rfl Tryz.underlying40 Tryz.sizeOf101 Tryz.zeroValue101 (by decide) (by decide) rfl (by repeat first | exact rfl | constructor) rfl (fun b5 => ?_)
  refine l_sealW [1] .here (Wds_cons (by decide) Wds_nil) (by unfold maxLen; simp) (fun I2 hx2 hs2 => ?_)
  refine o_callI trivial rfl Tryz.call61 rfl (rlow_any (decide (n < 0)) _ _ _ _ (hs1.le hx2.le) hs2 hl (by simp)) ?_
  rintro _ I3 hx3 ⟨u3, u4, rfl, h3, h4⟩
  refine oS Tryz.sizeOf42 ?_
  refine oN (tC (cT ?_))
  refine retR rfl (.agg Tryz.isAgg42 Tryz.sizeOf42 rfl (by repeat constructor) rfl .nil) ?_
  rw [val_natW, val_one, lowQ_int] at h3 h4
  refine leaf (hx1.trans (hx2.trans hx3 (Nat.le_refl _)) (Nat.le_refl _)) (List.nil_sublist _) ⟨u3, u4, ?_, h3, h4⟩
  rw [val_natW, val_one, lowQ_int]; rfl
def isR (bad : Bool) (L : List Tok) (i : Nat) (k : Int) (s : ByteArray) : Bool := !bad && hdT (L.drop i) k s
theorem add_none {L : List Tok} {j : Nat} (h : (isR false L j 2 plusS || isR false L j 2 minusS) = false) : hdK addK (L.drop j) = none := by
  unfold isR at h
  simp only [Bool.not_false, Bool.true_and, Bool.or_eq_false_iff] at h
  cases hr : L.drop j with
  | nil => rfl
  | cons x r =>
    rw [hr] at h
    simp only [hdT] at h
    show addK x = none
    unfold addK
    rw [h.1, h.2]; rfl
def LowN (l : List NodeC) : Prop := ∀ (i : Nat) (c : NodeC), l[i]? = some c → 1 < c.kind → 0 ≤ c.a ∧ c.a < i ∧ (c.kind ≤ 5 → 0 ≤ c.b ∧ c.b < i)
theorem nd_low : ∀ (x : Ex) (b j : Nat) (c : NodeC), x.ok → (x.nd b)[j]? = some c → 1 < c.kind → (b : Int) ≤ c.a ∧ c.a < (b + j : Nat) ∧ (c.kind ≤ 5 → (b : Int) ≤ c.b ∧ c.b < (b + j : Nat)) := by
  intro x
  have last : ∀ {u : List NodeC} {c0 c : NodeC} {j : Nat}, (u ++ [c0])[j]? = some c → ¬ j < u.length → j = u.length ∧ c = c0 := by
    intro u c0 c j h hj
    rw [List.getElem?_append_right (by omega)] at h
    have := (List.getElem?_eq_some_iff.1 h)
    obtain ⟨h1, h2⟩ := this
    simp at h1 h2
    exact ⟨by omega, h2.symm⟩
  induction x with
  | ref t =>
    intro b j c _ h hk
    have : c = refN t := by
      obtain ⟨h1, h2⟩ := List.getElem?_eq_some_iff.1 h
      simp [Ex.nd] at h2; exact h2.symm
    subst this
    exact absurd hk (by simp [refN])
  | num q =>
    intro b j c _ h hk
    have : c = numN q := by
      obtain ⟨h1, h2⟩ := List.getElem?_eq_some_iff.1 h
      simp [Ex.nd] at h2; exact h2.symm
    subst this
    exact absurd hk (by simp [numN])
  | neg x ih =>
    intro b j c hok h hk
    have hp := x.n_pos
    have hl := x.nd_len b
    by_cases hj : j < (x.nd b).length
    · simp only [Ex.nd] at h
      rw [List.getElem?_append_left hj] at h
      exact ih b j c hok h hk
    · obtain ⟨e1, e2⟩ := last h hj
      subst e2
      refine ⟨?_, ?_, ?_⟩
      · show (b : Int) ≤ (b : Int) + x.n - 1; omega
      · show (b : Int) + x.n - 1 < _; omega
      · intro h5; exact absurd h5 (by show ¬ (6 : Int) ≤ 5; decide)
  | pow x e ih =>
    intro b j c hok h hk
    have hp := x.n_pos
    have hl := x.nd_len b
    by_cases hj : j < (x.nd b).length
    · simp only [Ex.nd] at h
      rw [List.getElem?_append_left hj] at h
      exact ih b j c hok.1 h hk
    · obtain ⟨e1, e2⟩ := last h hj
      subst e2
      refine ⟨?_, ?_, ?_⟩
      · show (b : Int) ≤ (b : Int) + x.n - 1; omega
      · show (b : Int) + x.n - 1 < _; omega
      · intro h5; exact absurd h5 (by show ¬ (7 : Int) ≤ 5; decide)
  | bin k x y ih1 ih2 =>
    intro b j c hok h hk
    have hp := x.n_pos
    have hp2 := y.n_pos
    have hl := x.nd_len b
    have hl2 := y.nd_len (b + x.n)
    by_cases hj : j < (x.nd b ++ y.nd (b + x.n)).length
    · simp only [Ex.nd] at h
      rw [List.getElem?_append_left hj] at h
      by_cases hx : j < (x.nd b).length
      · rw [List.getElem?_append_left hx] at h
        exact ih1 b j c hok.2.2.1 h hk
      · rw [List.getElem?_append_right (by omega)] at h
        have := ih2 (b + x.n) _ c hok.2.2.2 h hk
        refine ⟨by omega, by omega, fun h5 => ?_⟩
        have := this.2.2 h5
        omega
    · obtain ⟨e1, e2⟩ := last h hj
      rw [List.length_append] at e1
      subst e2
      refine ⟨?_, ?_, fun _ => ⟨?_, ?_⟩⟩
      · show (b : Int) ≤ (b : Int) + x.n - 1; omega
      · show (b : Int) + x.n - 1 < _; omega
      · show (b : Int) ≤ (b : Int) + x.n + y.n - 1; omega
      · show (b : Int) + x.n + y.n - 1 < _; omega
theorem laid_low : ∀ (l : List (ByteArray × Ex)) (b j : Nat) (c : NodeC), LetsOk l → (laid l b).2[j]? = some c → 1 < c.kind → (b : Int) ≤ c.a ∧ c.a < (b + j : Nat) ∧ (c.kind ≤ 5 → (b : Int) ≤ c.b ∧ c.b < (b + j : Nat))
  | [], _, _, _, _, h, _ => by cases h
  | (s, x) :: l, b, j, c, hok, h, hk => by
    simp only [laid] at h
    have hl := x.nd_len b
    by_cases hx : j < (x.nd b).length
    · rw [List.getElem?_append_left hx] at h
      exact nd_low x b j c (hok (s, x) (by simp)).2 h hk
    · rw [List.getElem?_append_right (by omega)] at h
      have := laid_low l (b + x.n) _ c (fun a ha => hok a (by simp [ha])) h hk
      refine ⟨by omega, by omega, fun h5 => ?_⟩
      have := this.2.2 h5
      omega
theorem shaped_low {p : ProgC} {l : List (ByteArray × Ex)} (h : Shaped p l) : LowN p.all := fun i c hc hk => by
  rw [h.all] at hc
  have := laid_low l 0 i c h.ok hc hk
  refine ⟨by omega, by omega, fun h5 => ?_⟩
  have := this.2.2 h5
  omega
theorem rrNodeEq_any (x y : NodeV) {I : Hp} (hx : x.ok I) (hy : y.ok I) (he : x.c = y.c) : Fun Tryz.prog 46 [.agg x.cells.toArray, .agg y.cells.toArray] I [] (fun v _ _ => v = .bool true) := by
  obtain ⟨⟨kind, a, b, e, name, neg, n, d⟩, vn, vd⟩ := x
  obtain ⟨c2, vn2, vd2⟩ := y
  change (⟨kind, a, b, e, name, neg, n, d⟩ : NodeC) = c2 at he
  subst he
  have ha : Ws I vn n := hx.1
  have hb : Ws I vd d := hx.2
  have hc : Ws I vn2 n := hy.1
  have hd : Ws I vd2 d := hy.2
  unfold NodeV.cells
  intro w hw
  refine enter2 _ Tryz.func46 rfl Tryz.ntmps46 rfl ?_ hw
  refine cS (cR ?_)
  refine o_box trivial rfl rfl rfl (fun b2 => ?_)
  refine o_box trivial rfl rfl rfl (fun b3 => ?_)
  refine oV ?_
  refine oN (tC (cS (cR ?_)))
  refine oF 0 Tryz.underlying44 Tryz.sizeOf3 ?_
  refine oL Tryz.isAgg3 ?_
  refine oF 0 Tryz.underlying44 Tryz.sizeOf3 ?_
  refine oL Tryz.isAgg3 ?_
  refine oV ?_
  refine' o_and trivial trivial rfl rfl rfl rfl rfl rfl rfl rfl (fun hb10 => ?_) ?_
  rotate_left
  ·
   have fb10 := hb10
   try simp only [bl] at fb10
   refine oX (T := 3) (off := 1) (wS rfl rfl hb10) rfl Tryz.underlying44 rfl rfl rfl Tryz.sizeOf3 rfl rfl ?_
   refine o_load1 (wS rfl rfl hb10) rfl Tryz.isAgg3 rfl (by repeat constructor) (by repeat constructor) ?_
   refine oX (T := 3) (off := 1) (wS rfl rfl hb10) rfl Tryz.underlying44 rfl rfl rfl Tryz.sizeOf3 rfl rfl ?_
   refine o_load1 (wS rfl rfl hb10) rfl Tryz.isAgg3 rfl (by repeat constructor) (by repeat constructor) ?_
   refine o_pv (wS rfl rfl hb10) rfl rfl ?_
   refine oN ?_
   exact joins rfl
  refine' o_and trivial trivial rfl rfl rfl rfl rfl rfl rfl rfl (fun hb17 => ?_) ?_
  rotate_left
  ·
   have fb17 := hb17
   try simp only [bl] at fb17
   refine oX (T := 3) (off := 2) (wS rfl rfl hb17) rfl Tryz.underlying44 rfl rfl rfl Tryz.sizeOf3 rfl rfl ?_
   refine o_load1 (wS rfl rfl hb17) rfl Tryz.isAgg3 rfl (by repeat constructor) (by repeat constructor) ?_
   refine oX (T := 3) (off := 2) (wS rfl rfl hb17) rfl Tryz.underlying44 rfl rfl rfl Tryz.sizeOf3 rfl rfl ?_
   refine o_load1 (wS rfl rfl hb17) rfl Tryz.isAgg3 rfl (by repeat constructor) (by repeat constructor) ?_
   refine o_pv (wS rfl rfl hb17) rfl rfl ?_
   refine oN ?_
   exact joins rfl
  refine' o_and trivial trivial rfl rfl rfl rfl rfl rfl rfl rfl (fun hb24 => ?_) ?_
  rotate_left
  ·
   have fb24 := hb24
   try simp only [bl] at fb24
   refine oX (T := 3) (off := 3) (wS rfl rfl hb24) rfl Tryz.underlying44 rfl rfl rfl Tryz.sizeOf3 rfl rfl ?_
   refine o_load1 (wS rfl rfl hb24) rfl Tryz.isAgg3 rfl (by repeat constructor) (by repeat constructor) ?_
   refine oX (T := 3) (off := 3) (wS rfl rfl hb24) rfl Tryz.underlying44 rfl rfl rfl Tryz.sizeOf3 rfl rfl ?_
   refine o_load1 (wS rfl rfl hb24) rfl Tryz.isAgg3 rfl (by repeat constructor) (by repeat constructor) ?_
   refine o_pv (wS rfl rfl hb24) rfl rfl ?_
   refine oN ?_
   exact joins rfl
  refine' o_and trivial trivial rfl rfl rfl rfl rfl rfl rfl rfl (fun hb31 => ?_) ?_
  rotate_left
  ·
   have fb31 := hb31
   try simp only [bl] at fb31
   refine oX (T := 9) (off := 4) (wS rfl rfl hb31) rfl Tryz.underlying44 rfl rfl rfl Tryz.sizeOf9 rfl rfl ?_
   refine o_load1 (wS rfl rfl hb31) rfl Tryz.isAgg9 rfl (by repeat constructor) (by repeat constructor) ?_
   refine oX (T := 9) (off := 4) (wS rfl rfl hb31) rfl Tryz.underlying44 rfl rfl rfl Tryz.sizeOf9 rfl rfl ?_
   refine o_load1 (wS rfl rfl hb31) rfl Tryz.isAgg9 rfl (by repeat constructor) (by repeat constructor) ?_
   refine o_pv (wS rfl rfl hb31) rfl rfl ?_
   refine oN ?_
   exact joins rfl
  refine' o_and trivial trivial rfl rfl rfl rfl rfl rfl rfl rfl (fun hb38 => ?_) ?_
  rotate_left
  ·
   have fb38 := hb38
   try simp only [bl] at fb38
   refine oX (T := 42) (off := 5) (wS rfl rfl hb38) rfl Tryz.underlying44 rfl rfl rfl Tryz.sizeOf42 rfl rfl ?_
   refine o_loadA (wS rfl rfl hb38) rfl Tryz.isAgg42 Tryz.sizeOf42 rfl (by repeat constructor) (by repeat constructor) ?_
   refine oX (T := 42) (off := 5) (wS rfl rfl hb38) rfl Tryz.underlying44 rfl rfl rfl Tryz.sizeOf42 rfl rfl ?_
   refine o_loadA (wS rfl rfl hb38) rfl Tryz.isAgg42 Tryz.sizeOf42 rfl (by repeat constructor) (by repeat constructor) ?_
   refine o_callQ (wS rfl rfl hb38) rfl Tryz.call80 rfl (rEqual_any neg neg vn vd vn2 vd2 n d n d ha hb hc hd) ?_
   refine oN ?_
   exact joins rfl
  refine oV ?_
  refine oN (tC (cT ?_))
  refine ret1 rfl rfl ?_
  refine leaf0 (congrArg Value.bool ?_)
  simp
theorem rrNamesEq_any (va vb : Value) (l : List ByteArray) {I : Hp} (ha : Slc I 1 va (scs l)) (hb : Slc I 1 vb (scs l)) : Fun Tryz.prog 35 [va, vb] I [] (fun v _ _ => v = .bool true) := by
  have hl := scs_len l
  have hmx := ha.most
  rw [hl] at hmx
  unfold maxLen at hmx
  intro w hw
  refine enter2 _ Tryz.func35 rfl Tryz.ntmps35 rfl ?_ hw
  refine cS (cR ?_)
  refine oV ?_
  refine oN (tC (cS (cS (cR ?_))))
  refine oV ?_
  refine o_lenSlc trivial rfl Tryz.underlying23 rfl (ha) ?_
  refine oV ?_
  refine o_lenSlc trivial rfl Tryz.underlying23 rfl (hb) ?_
  refine oV ?_
  refine oN (tC ?_)
  refine cC rfl (fun h1 => ?_) (fun h1 => ?_)
  ·
   have f1 := h1
   try simp only [bl] at f1
   exfalso; simp at h1
  have f1 := h1
  try simp only [bl] at f1
  refine cK (tC (cS (cS (cR ?_))))
  refine oV ?_
  refine oN (tC (cB ?_))
  refine c_loop (ι := Nat) [0, 1] (.cons rfl (.cons rfl .nil)) (fun x => l.length - x) (fun x E0 => (5, .int .i64 (x : Int)) :: E0) (fun x => St w [] I []) (fun x => x ≤ l.length) (0) (sC rfl (sC rfl (sC rfl sN))) (fun _ h => h) (Nat.zero_le _) ?_
  rintro i hi
  try dsimp only
  refine cS (cS (cR ?_))
  iterate 2 refine oV ?_
  refine o_lenSlc trivial rfl Tryz.underlying23 rfl (ha) ?_
  refine oV ?_
  refine oN (tC ?_)
  refine cC rfl (fun h2 => ?_) (fun h2 => ?_)
  ·
   have f2 := h2
   try simp only [bl] at f2
   obtain ⟨s, hs⟩ : ∃ s, l[i]? = some s := ⟨l[i]'(by omega), List.getElem?_eq_getElem (by omega)⟩
   refine cK (tC (cS (cB (cS ?_))))
   refine c_quiet (by kernel_rfl) (by kernel_rfl) (fun _ h => h.drawn) ?_
   iterate 2 refine oV ?_
   refine o_elem trivial rfl Tryz.underlying23 Tryz.sizeOf9 rfl (ha) rfl (by omega) ?_
   refine o_load1I trivial rfl Tryz.isAgg9 rfl (scs_at ha hs) ?_
   iterate 2 refine oV ?_
   refine o_elem trivial rfl Tryz.underlying23 Tryz.sizeOf9 rfl (hb) rfl (by omega) ?_
   refine o_load1I trivial rfl Tryz.isAgg9 rfl (scs_at hb hs) ?_
   refine oV ?_
   refine oN (tC ?_)
   refine cC rfl (fun h3 => ?_) (fun h3 => ?_)
   ·
    have f3 := h3
    try simp only [bl] at f3
    exfalso; simp at h3
   have f3 := h3
   try simp only [bl] at f3
   refine cK (blk_n (tC (cR ?_)))
   refine oV ?_
   first | (refine o_add trivial rfl rfl rfl ?_ ?_; (omega)) | refine oV ?_
   refine oV ?_
   refine oN ?_
   exact again (i + 1) (sC rfl (sC rfl (sC rfl sN))) (fun _ h => h) (by show l.length - (i + 1) < l.length - i; omega) (by show i + 1 ≤ _; omega)
  have f2 := h2
  try simp only [bl] at f2
  refine c_exit (then_x (then_x (blk_eq rfl (tC (cS (cR ?_))))))
  refine oV ?_
  refine oN (tC (cT ?_))
  refine ret1 rfl rfl ?_
  exact leaf0 rfl
theorem rrSame_any (vi vl vo va ui ul uo ua : Value) (p : ProgC) (ns ms : List NodeV) {I : Hp} (hp : ProgV I vi vl vo va p ns) (hq : ProgV I ui ul uo ua p ms) :
    Fun Tryz.prog 17 [.agg #[vi, vl, vo, va], .agg #[ui, ul, uo, ua]] I [] (fun v _ _ => v = .bool true) := by
  have hsi := hp.si
  have hsl := hp.sl
  have hso := hp.so
  have hsa := hp.sa
  have gsi := hq.si
  have gsl := hq.sl
  have gso := hq.so
  have gsa := hq.sa
  have hll : (p.lets.map LetC.cells).length = p.lets.length := List.length_map _
  have hla := nds_len ns
  have gla := nds_len ms
  have hal : p.all.length = ns.length := by rw [← hp.eq, List.length_map]
  have gal : p.all.length = ms.length := by rw [← hq.eq, List.length_map]
  have hmx := hsl.most
  rw [hll] at hmx
  unfold maxLen at hmx
  have hmy := hsa.most
  rw [hla] at hmy
  unfold maxLen at hmy
  intro w hw
  refine enter2 _ Tryz.func17 rfl Tryz.ntmps17 rfl ?_ hw
  refine cS (cR ?_)
  refine o_box trivial rfl rfl rfl (fun b2 => ?_)
  refine o_box trivial rfl rfl rfl (fun b3 => ?_)
  refine oV ?_
  refine oN (tC (cS (cS (cR ?_))))
  refine oF 1 Tryz.underlying27 Tryz.sizeOf24 ?_
  refine oL Tryz.isAgg24 ?_
  refine o_lenSlc trivial rfl Tryz.underlying24 rfl (hsl) ?_
  refine oF 1 Tryz.underlying27 Tryz.sizeOf24 ?_
  refine oL Tryz.isAgg24 ?_
  refine o_lenSlc trivial rfl Tryz.underlying24 rfl (gsl) ?_
  refine oV ?_
  refine' o_or trivial trivial rfl rfl rfl rfl rfl rfl rfl rfl (fun hb15 => ?_) ?_
  rotate_left
  ·
   have fb15 := hb15
   try simp only [bl] at fb15
   refine oX (T := 25) (off := 3) (wS rfl rfl hb15) rfl Tryz.underlying27 rfl rfl rfl Tryz.sizeOf25 rfl rfl ?_
   refine o_load1 (wS rfl rfl hb15) rfl Tryz.isAgg25 rfl (by repeat constructor) (by repeat constructor) ?_
   refine o_lenSlc (wS rfl rfl hb15) rfl Tryz.underlying25 rfl (hsa) ?_
   refine oX (T := 25) (off := 3) (wS rfl rfl hb15) rfl Tryz.underlying27 rfl rfl rfl Tryz.sizeOf25 rfl rfl ?_
   refine o_load1 (wS rfl rfl hb15) rfl Tryz.isAgg25 rfl (by repeat constructor) (by repeat constructor) ?_
   refine o_lenSlc (wS rfl rfl hb15) rfl Tryz.underlying25 rfl (gsa) ?_
   refine o_pv (wS rfl rfl hb15) rfl rfl ?_
   refine oN ?_
   exact joins rfl
  refine oN (tC ?_)
  refine cC rfl (fun h1 => ?_) (fun h1 => ?_)
  ·
   have f1 := h1
   try simp only [bl] at f1
   exfalso
   simp at h1
   omega
  have f1 := h1
  try simp only [bl] at f1
  refine cK (tC (cS (cS (cR ?_))))
  refine oV ?_
  refine oN (tC (cB ?_))
  refine c_loop (ι := Nat) [2, 3] (.cons rfl (.cons rfl .nil)) (fun x => p.lets.length - x) (fun x E0 => (5, .int .i64 (x : Int)) :: E0) (fun x => St w [] I [.box b3 (.cells #[ui, ul, uo, ua] 27 (0, 0)), .box b2 (.cells #[vi, vl, vo, va] 27 (0, 0))]) (fun x => x ≤ p.lets.length) (0) (sC rfl (sC rfl (sC rfl sN))) (fun _ h => h) (Nat.zero_le _) ?_
  rintro i hi
  try dsimp only
  refine cS (cS (cR ?_))
  refine oV ?_
  refine oF 1 Tryz.underlying27 Tryz.sizeOf24 ?_
  refine oL Tryz.isAgg24 ?_
  refine o_lenSlc trivial rfl Tryz.underlying24 rfl (hsl) ?_
  refine oV ?_
  refine oN (tC ?_)
  refine cC rfl (fun h2 => ?_) (fun h2 => ?_)
  ·
   have f2 := h2
   try simp only [bl] at f2
   obtain ⟨c, hc⟩ : ∃ c, p.lets[i]? = some c := ⟨p.lets[i]'(by omega), List.getElem?_eq_getElem (by omega)⟩
   refine cK (tC (cS (cB (cS ?_))))
   refine c_quiet (by kernel_rfl) (by kernel_rfl) (fun _ h => h.drawn) ?_
   refine oF 1 Tryz.underlying27 Tryz.sizeOf24 ?_
   refine oL Tryz.isAgg24 ?_
   refine oV ?_
   refine o_elem trivial rfl Tryz.underlying24 Tryz.sizeOf46 rfl (hsl) rfl (by omega) ?_
   refine o_loadAI trivial rfl Tryz.isAgg46 Tryz.sizeOf46 rfl rfl (lts_at hsl hc) ?_
   refine oF 1 Tryz.underlying27 Tryz.sizeOf24 ?_
   refine oL Tryz.isAgg24 ?_
   refine oV ?_
   refine o_elem trivial rfl Tryz.underlying24 Tryz.sizeOf46 rfl (gsl) rfl (by omega) ?_
   refine o_loadAI trivial rfl Tryz.isAgg46 Tryz.sizeOf46 rfl rfl (lts_at gsl hc) ?_
   refine o_neqV trivial rfl rfl rfl Tryz.eqGuardType46 (EqV.struct Tryz.underlying46 Tryz.stoodInHeld46 (EqP.cons (T := 9) (o := 0) (by decide) rfl rfl (.one Tryz.isAgg9 (by repeat constructor)) (.one Tryz.isAgg9 (by repeat constructor)) (EqV.str Tryz.underlying9) (EqP.last (T := 3) (o := 1) (by decide) rfl rfl (.one Tryz.isAgg3 (by repeat constructor)) (.one Tryz.isAgg3 (by repeat constructor)) (EqV.int Tryz.underlying3)))) ?_
   refine oN (tC ?_)
   refine cC rfl (fun h3 => ?_) (fun h3 => ?_)
   ·
    have f3 := h3
    try simp only [bl] at f3
    exfalso
    simp at h3
   have f3 := h3
   try simp only [bl] at f3
   refine cK (blk_n (tC (cR ?_)))
   refine oV ?_
   first | (refine o_add trivial rfl rfl rfl ?_ ?_; (omega)) | refine oV ?_
   refine oV ?_
   refine oN ?_
   exact again (i + 1) (sC rfl (sC rfl (sC rfl sN))) (fun _ h => h) (by show p.lets.length - (i + 1) < p.lets.length - i; omega) (by show i + 1 ≤ _; omega)
  have f2 := h2
  try simp only [bl] at f2
  refine c_exit (then_x (then_x (blk_eq rfl (tC (cS (cS (cR ?_)))))))
  refine oV ?_
  refine oN (tC (cB ?_))
  refine c_loop (ι := Nat) [2, 3] (.cons rfl (.cons rfl .nil)) (fun x => ns.length - x) (fun x E0 => (6, .int .i64 (x : Int)) :: E0) (fun x => St w [] I [.box b3 (.cells #[ui, ul, uo, ua] 27 (0, 0)), .box b2 (.cells #[vi, vl, vo, va] 27 (0, 0))]) (fun x => x ≤ ns.length) (0) (sC rfl (sC rfl (sC rfl sN))) (fun _ h => h) (Nat.zero_le _) ?_
  rintro j hj
  try dsimp only
  refine cS (cS (cR ?_))
  refine oV ?_
  refine oF 3 Tryz.underlying27 Tryz.sizeOf25 ?_
  refine oL Tryz.isAgg25 ?_
  refine o_lenSlc trivial rfl Tryz.underlying25 rfl (hsa) ?_
  refine oV ?_
  refine oN (tC ?_)
  refine cC rfl (fun h4 => ?_) (fun h4 => ?_)
  ·
   have f4 := h4
   try simp only [bl] at f4
   obtain ⟨x, hx⟩ : ∃ x, ns[j]? = some x := ⟨ns[j]'(by omega), List.getElem?_eq_getElem (by omega)⟩
   obtain ⟨y, hy⟩ : ∃ y, ms[j]? = some y := ⟨ms[j]'(by omega), List.getElem?_eq_getElem (by omega)⟩
   have hxy : x.c = y.c := by
     have e := congrArg (fun l => l[j]?) (hp.eq.trans hq.eq.symm)
     simp only [List.getElem?_map, hx, hy] at e
     exact Option.some.inj e
   refine cK (tC (cS (cB (cS ?_))))
   refine c_quiet (by kernel_rfl) (by kernel_rfl) (fun _ h => h.drawn) ?_
   refine oF 3 Tryz.underlying27 Tryz.sizeOf25 ?_
   refine oL Tryz.isAgg25 ?_
   refine oV ?_
   refine o_elem trivial rfl Tryz.underlying25 Tryz.sizeOf44 rfl (hsa) rfl (by omega) ?_
   refine o_loadAI trivial rfl Tryz.isAgg44 Tryz.sizeOf44 rfl rfl (nds_at hsa hx) ?_
   refine oF 3 Tryz.underlying27 Tryz.sizeOf25 ?_
   refine oL Tryz.isAgg25 ?_
   refine oV ?_
   refine o_elem trivial rfl Tryz.underlying25 Tryz.sizeOf44 rfl (gsa) rfl (by omega) ?_
   refine o_loadAI trivial rfl Tryz.isAgg44 Tryz.sizeOf44 rfl rfl (nds_at gsa hy) ?_
   refine o_callQ trivial rfl Tryz.call46 rfl (rrNodeEq_any x y (hp.ok x (List.mem_of_getElem? hx)) (hq.ok y (List.mem_of_getElem? hy)) hxy) ?_
   refine oV ?_
   refine oN (tC (cS (cR ?_)))
   iterate 2 refine oV ?_
   refine oN (tC ?_)
   refine c_cond_f rfl (by rfl) ?_
   refine cK (blk_n (tC (cR ?_)))
   refine oV ?_
   first | (refine o_add trivial rfl rfl rfl ?_ ?_; (omega)) | refine oV ?_
   refine oV ?_
   refine oN ?_
   exact again (j + 1) (sC rfl (sC rfl (sC rfl sN))) (fun _ h => h) (by show ns.length - (j + 1) < ns.length - j; omega) (by show j + 1 ≤ _; omega)
  have f4 := h4
  try simp only [bl] at f4
  refine c_exit (then_x (then_x (blk_eq rfl (tC (cS (cR ?_))))))
  refine oF 0 Tryz.underlying27 Tryz.sizeOf23 ?_
  refine oL Tryz.isAgg23 ?_
  refine oF 0 Tryz.underlying27 Tryz.sizeOf23 ?_
  refine oL Tryz.isAgg23 ?_
  refine o_callQ trivial rfl Tryz.call35 rfl (rrNamesEq_any vi ui p.ins hsi gsi) ?_
  refine' o_and trivial trivial rfl rfl rfl rfl rfl rfl rfl rfl (fun hb67 => ?_) ?_
  rotate_left
  ·
   have fb67 := hb67
   try simp only [bl] at fb67
   refine oX (T := 23) (off := 2) (wS rfl rfl hb67) rfl Tryz.underlying27 rfl rfl rfl Tryz.sizeOf23 rfl rfl ?_
   refine o_load1 (wS rfl rfl hb67) rfl Tryz.isAgg23 rfl (by repeat constructor) (by repeat constructor) ?_
   refine oX (T := 23) (off := 2) (wS rfl rfl hb67) rfl Tryz.underlying27 rfl rfl rfl Tryz.sizeOf23 rfl rfl ?_
   refine o_load1 (wS rfl rfl hb67) rfl Tryz.isAgg23 rfl (by repeat constructor) (by repeat constructor) ?_
   refine o_callQ (wS rfl rfl hb67) rfl Tryz.call35 rfl (rrNamesEq_any vo uo p.outs hso gso) ?_
   refine oN ?_
   exact joins rfl
  refine oV ?_
  refine oN (tC (cT ?_))
  refine ret1 rfl rfl ?_
  exact leaf0 rfl
def awS : ByteArray := ⟨#[105, 110, 32, 120, 59, 32, 108, 101, 116, 32, 97, 32, 61, 32, 50, 32, 42, 32, 120, 32, 94, 32, 45, 51, 59, 32, 111, 117, 116, 32, 97, 59]⟩
def awT (k : Int) (s : ByteArray) (c : Int) : Tok := ⟨k, s, 1, c⟩
def awX : ByteArray := ⟨#[120]⟩
def awA : ByteArray := ⟨#[97]⟩
def awTwo : ByteArray := ⟨#[50]⟩
def awThree : ByteArray := ⟨#[51]⟩
def awL1 : List Tok := [awT 1 awTwo 15, awT 2 starS 17, awT 0 awX 19, awT 2 Go.Tw.caret 21, awT 2 minusS 23, awT 1 awThree 24, awT 2 semiS 25, awT 0 outS 27, awT 0 awA 31, awT 2 semiS 32]
def awL2 : List Tok := awT 0 inS 1 :: awT 0 awX 4 :: awT 2 semiS 5 :: awT 0 letS 7 :: awT 0 awA 11 :: awT 2 equalS 13 :: awL1
theorem awS_lex : lexZ awS = ⟨awL2, 0, 0, 0⟩ := by kernel_rfl
theorem awQ : numQ awTwo = mkRat 2 1 := by
  have h1 : cutZ awTwo = awTwo.size := by kernel_rfl
  unfold numQ
  rw [if_pos h1, h1, cut_full, toList_data]
  rfl
def awP : ProgC := ⟨[awX], [⟨awA, 3⟩], [awA], [numN (mkRat 2 1), refN awX, powN 1 (-3), binN 4 0 2]⟩
def awE : Ex := .bin 4 (.num (mkRat 2 1)) (.pow (.ref awX) (-3))
theorem nameZ_X : nameZ awX = true := by kernel_rfl
theorem nameZ_A : nameZ awA = true := by kernel_rfl
theorem isT_self {k : Int} {s : ByteArray} {c : Int} : isT (awT k s c) k s = true := by simp [isT, awT]
theorem awE_ok : awE.ok := ⟨by decide, by decide, ⟨by decide +kernel, by decide +kernel, by decide +kernel⟩, nameZ_X, by decide, by decide⟩
theorem awR : RightP awP [(awA, awE)] where
  lets := rfl
  all := rfl
  ok := fun a ha => by rw [List.mem_singleton.1 ha]; exact ⟨nameZ_A, awE_ok⟩
  ins := ⟨fun s hs => by rw [List.mem_singleton.1 hs]; exact nameZ_X, by decide, by decide⟩
  outs := ⟨fun s hs => by rw [List.mem_singleton.1 hs]; exact nameZ_A, by decide, by decide⟩
  few := ⟨by decide, by decide⟩
  low := fun a ha => by rw [List.mem_singleton.1 ha]; decide
theorem awH : tZ awP = some [1, 1, 2, 3] := tZ_right awR
theorem isT_no {x : Tok} {k : Int} {t : ByteArray} (h : x.kind ≠ k) : isT x k t = false := by simp [isT, h]
theorem isT_un {k : Int} {s t : ByteArray} {c : Int} (h : s.data.toList ≠ t.data.toList) : isT (awT k s c) k t = false := by
  unfold isT awT
  rw [toList_data, toList_data]
  have : (s.data.toList == t.data.toList) = false := by simpa using h
  rw [this, Bool.and_false]
theorem awSum : Ps .sum [] awL1 (.ok [numN (mkRat 2 1), refN awX, powN 1 (-3), binN 4 0 2] [awT 2 semiS 25, awT 0 outS 27, awT 0 awA 31, awT 2 semiS 32]) := by
  have h1 : leafT (awT 1 awTwo 15) = true := rfl
  have h2 : leafT (awT 0 awX 19) = true := by unfold leafT; simp [awT, nameZ_X]
  have m1 : mulK (awT 2 starS 17) = some 4 := by unfold mulK; rw [if_pos isT_self]
  have m2 : mulK (awT 2 semiS 25) = none := by unfold mulK; rw [if_neg (by rw [isT_un (by decide)]; decide), if_neg (by rw [isT_un (by decide)]; decide)]
  have a2 : addK (awT 2 semiS 25) = none := by unfold addK; rw [if_neg (by rw [isT_un (by decide)]; decide), if_neg (by rw [isT_un (by decide)]; decide)]
  have l1 : leafN (awT 1 awTwo 15) = numN (mkRat 2 1) := by unfold leafN; rw [if_pos (show (awT 1 awTwo 15).kind = 1 from rfl)]; show numN (numQ awTwo) = _; rw [awQ]
  have l2 : leafN (awT 0 awX 19) = refN awX := by unfold leafN; rw [if_neg (by decide)]; rfl
  have e1 : expoZ awThree = some 3 := by unfold expoZ; rw [toList_data]; rfl
  have p1 := Ps.leaf (all := []) (r := awL1.tail) h1
  rw [l1] at p1
  have p2 := Ps.leaf (all := [numN (mkRat 2 1)]) (r := [awT 2 Go.Tw.caret 21, awT 2 minusS 23, awT 1 awThree 24, awT 2 semiS 25, awT 0 outS 27, awT 0 awA 31, awT 2 semiS 32]) h2
  rw [l2] at p2
  refine .sum_ok (.product_ok (.fac (isT_no (by decide)) (.power_ok p1 (.pow_none (isT_un (by decide))))) (.prodL_ok m1 (.fac (isT_no (by decide)) (.power_ok p2 (.pow_ok isT_self (.neg isT_self rfl e1)))) (.prodL_end m2))) (.sumL_end a2)
theorem nameT_X {c : Int} : nameT (awT 0 awX c) = true := by unfold nameT; simp [awT, nameZ_X]
theorem nameT_A {c : Int} : nameT (awT 0 awA c) = true := by unfold nameT; simp [awT, nameZ_A]
theorem namesZ_aw {c d : Int} {s : ByteArray} {r : List Tok} (h : nameT (awT 0 s c) = true) : namesZ (awT 0 s c :: awT 2 semiS d :: r) = .ok [s] r := by
  unfold namesZ
  rw [if_pos h, if_neg (by rw [isT_un (by decide)]; decide), if_pos isT_self]
  rfl
theorem awPrg : prgZ awL2 = .ok awP :=
  prgZ_eq (.ok isT_self (namesZ_aw nameT_X) (.more isT_self (.ok nameT_A isT_self awSum isT_self) (.fin (isT_un (by decide)))) isT_self (namesZ_aw nameT_A))
theorem awS_parse : parseZ awS = ⟨awP, 0, 0, 0⟩ := by
  unfold parseZ
  rw [awS_lex]
  dsimp only
  rw [if_neg (by decide), awPrg]
  unfold parseT
  dsimp only
  rw [if_pos (by rw [awH]; rfl)]
theorem ints_any (va vb : Value) (l : List Nat) {I : Hp} (ha : Slc I 1 va (nss l)) (hb : Slc I 1 vb (nss l)) : Fun Tryz.prog 22 [va, vb] I [] (fun v _ _ => v = .bool true) := by
  have hl := nss_len l
  have hmx := ha.most
  rw [hl] at hmx
  unfold maxLen at hmx
  intro w hw
  refine enter2 _ Tryz.func22 rfl Tryz.ntmps22 rfl ?_ hw
  refine cS (cR ?_)
  refine oV ?_
  refine oN (tC (cS (cS (cR ?_))))
  refine oV ?_
  refine o_lenSlc trivial rfl Tryz.underlying37 rfl (ha) ?_
  refine oV ?_
  refine o_lenSlc trivial rfl Tryz.underlying37 rfl (hb) ?_
  refine oV ?_
  refine oN (tC ?_)
  refine cC rfl (fun h1 => ?_) (fun h1 => ?_)
  ·
   have f1 := h1
   try simp only [bl] at f1
   exfalso; simp at h1
  have f1 := h1
  try simp only [bl] at f1
  refine cK (tC (cS (cS (cR ?_))))
  refine oV ?_
  refine oN (tC (cB ?_))
  refine c_loop (ι := Nat) [0, 1] (.cons rfl (.cons rfl .nil)) (fun x => l.length - x) (fun x E0 => (5, .int .i64 (x : Int)) :: E0) (fun x => St w [] I []) (fun x => x ≤ l.length) (0) (sC rfl (sC rfl (sC rfl sN))) (fun _ h => h) (Nat.zero_le _) ?_
  rintro i hi
  try dsimp only
  refine cS (cS (cR ?_))
  iterate 2 refine oV ?_
  refine o_lenSlc trivial rfl Tryz.underlying37 rfl (ha) ?_
  refine oV ?_
  refine oN (tC ?_)
  refine cC rfl (fun h2 => ?_) (fun h2 => ?_)
  ·
   have f2 := h2
   try simp only [bl] at f2
   obtain ⟨s, hs⟩ : ∃ s, l[i]? = some s := ⟨l[i]'(by omega), List.getElem?_eq_getElem (by omega)⟩
   refine cK (tC (cS (cB (cS ?_))))
   refine c_quiet (by kernel_rfl) (by kernel_rfl) (fun _ h => h.drawn) ?_
   iterate 2 refine oV ?_
   refine o_elem trivial rfl Tryz.underlying37 Tryz.sizeOf3 rfl (ha) rfl (by omega) ?_
   refine o_load1I trivial rfl Tryz.isAgg3 rfl (nss_at ha hs) ?_
   iterate 2 refine oV ?_
   refine o_elem trivial rfl Tryz.underlying37 Tryz.sizeOf3 rfl (hb) rfl (by omega) ?_
   refine o_load1I trivial rfl Tryz.isAgg3 rfl (nss_at hb hs) ?_
   refine oV ?_
   refine oN (tC ?_)
   refine cC rfl (fun h3 => ?_) (fun h3 => ?_)
   ·
    have f3 := h3
    try simp only [bl] at f3
    exfalso; simp at h3
   have f3 := h3
   try simp only [bl] at f3
   refine cK (blk_n (tC (cR ?_)))
   refine oV ?_
   first | (refine o_add trivial rfl rfl rfl ?_ ?_; (omega)) | refine oV ?_
   refine oV ?_
   refine oN ?_
   exact again (i + 1) (sC rfl (sC rfl (sC rfl sN))) (fun _ h => h) (by show l.length - (i + 1) < l.length - i; omega) (by show i + 1 ≤ _; omega)
  have f2 := h2
  try simp only [bl] at f2
  refine c_exit (then_x (then_x (blk_eq rfl (tC (cS (cR ?_))))))
  refine oV ?_
  refine oN (tC (cT ?_))
  refine ret1 rfl rfl ?_
  exact leaf0 rfl
theorem awW {I : Hp} {b1 b2 b3 b4 : Nat} {T1 T2 T3 : TypeId} {u1 u2 : Value} (h1 : I b1 = some (.cells #[.string ⟨#[120]⟩] T1 (0, 0))) (h2 : I b2 = some (.cells #[.string ⟨#[97]⟩, .int .i64 3] T2 (0, 0))) (h3 : I b3 = some (.cells #[.string ⟨#[97]⟩] T1 (0, 0))) (h4 : I b4 = some (.cells ((NodeV.cells ⟨numN (mkRat 2 1), u1, u2⟩ ++ (NodeV.cells ⟨refN awX, N0, N0⟩ ++ (NodeV.cells ⟨powN 1 (-3), N0, N0⟩ ++ (NodeV.cells ⟨binN 4 0 2, N0, N0⟩ ++ []))))).toArray T3 (0, 0)))
    (k1 : Ws I u1 (natW (mkRat 2 1).num.natAbs)) (k2 : Ws I u2 (natW (mkRat 2 1).den)) :
    ProgV I (.slice (some ⟨b1, 0, none⟩) 1 1) (.slice (some ⟨b2, 0, none⟩) 1 1) (.slice (some ⟨b3, 0, none⟩) 1 1) (.slice (some ⟨b4, 0, none⟩) 4 4) awP [⟨numN (mkRat 2 1), u1, u2⟩, ⟨refN awX, N0, N0⟩, ⟨powN 1 (-3), N0, N0⟩, ⟨binN 4 0 2, N0, N0⟩] where
  si := Slc.of_box (sz := 1) (xss := scs awP.ins) (c := 1) h1 (scs_one _) (by decide) (by decide)
  sl := Slc.of_box (sz := 2) (xss := awP.lets.map LetC.cells) (c := 1) h2 (fun c hc => by rw [List.mem_singleton.1 hc]; rfl) (by decide) (by decide)
  so := Slc.of_box (sz := 1) (xss := scs awP.outs) (c := 1) h3 (scs_one _) (by decide) (by decide)
  sa := Slc.of_box (sz := 8) (xss := nds [⟨numN (mkRat 2 1), u1, u2⟩, ⟨refN awX, N0, N0⟩, ⟨powN 1 (-3), N0, N0⟩, ⟨binN 4 0 2, N0, N0⟩]) (c := 4) h4 (nds_eight _) (by unfold maxLen; exact Nat.le_of_ble_eq_true rfl) (Nat.le_of_ble_eq_true rfl)
  ok := fun o ho => by
    simp only [List.mem_cons, List.not_mem_nil, or_false] at ho
    rcases ho with rfl | rfl | rfl | rfl
    · exact ⟨k1, k2⟩
    · exact ⟨Ws.nil _, Ws.nil _⟩
    · exact ⟨Ws.nil _, Ws.nil _⟩
    · exact ⟨Ws.nil _, Ws.nil _⟩
  eq := rfl
theorem awake11_any {I : Hp} (hT : Tabs I) (hM : Mx I) (hE : Errs I) : Fun Tryz.prog 14 [] I [] (fun v _ _ => v = .bool true) := by
  have hpa := parse_any awS hT hM hE (by decide)
  rw [awS_parse] at hpa
  intro w hw
  refine enter0 _ Tryz.func14 rfl Tryz.ntmps14 ?_ hw
  refine cS (cR ?_)
  refine oV ?_
  refine oN (tC (cS (cR ?_)))
  refine o_callI trivial rfl Tryz.call15 rfl hpa ?_
  rintro _ I1 hx1 ⟨vi, vl, vo, va, ns, rfl, hp, hf⟩
  refine oV ?_
  have hp : ProgV I1 vi vl vo va awP ns := hp
  have hsi := hp.si
  have hsl := hp.sl
  have hso := hp.so
  have hsa := hp.sa
  iterate 3 refine oV ?_
  refine o_alloc trivial rfl Tryz.zeroValue27 rfl (fun b1 => ?_)
  refine o_alloc trivial rfl Tryz.zeroValue29 rfl (fun b2 => ?_)
  refine oS Tryz.sizeOf27 ?_
  refine oS Tryz.sizeOf29 ?_
  refine oV ?_
  refine oN (tC (cS (cR ?_)))
  refine o_buildSl trivial rfl Tryz.underlying23 Tryz.sizeOf9 Tryz.zeroValue9 (by decide) (by decide) rfl (by repeat first | exact rfl | constructor) rfl (fun b10 => ?_)
  refine o_buildS trivial rfl (bld46) rfl (.cons rfl rfl rfl (by repeat constructor) (.cons rfl rfl rfl (by repeat constructor) .nil)) ?_
  refine o_buildSl trivial rfl Tryz.underlying24 Tryz.sizeOf46 Tryz.zeroValue46 (by decide) (by decide) rfl (by repeat first | exact rfl | constructor) rfl (fun b12 => ?_)
  refine o_buildSl trivial rfl Tryz.underlying23 Tryz.sizeOf9 Tryz.zeroValue9 (by decide) (by decide) rfl (by repeat first | exact rfl | constructor) rfl (fun b13 => ?_)
  refine o_callI trivial rfl Tryz.call38 rfl (rOf8_any 2 (by decide)) ?_
  rintro _ I2 hx2 ⟨u1, u2, rfl, k1, k2⟩
  iterate 2 refine o_buildS trivial rfl (bld44) rfl (.cons rfl rfl rfl (by repeat constructor) (.cons rfl rfl rfl (by repeat constructor) .nil)) ?_
  iterate 2 refine o_buildS trivial rfl (bld44) rfl (.cons rfl rfl rfl (by repeat constructor) (.cons rfl rfl rfl (by repeat constructor) (.cons rfl rfl rfl (by repeat constructor) .nil))) ?_
  refine o_buildSl trivial rfl Tryz.underlying25 Tryz.sizeOf44 Tryz.zeroValue44 (by decide) (by decide) rfl (by repeat first | exact rfl | constructor) rfl (fun b19 => ?_)
  refine l_sealB (b := b19) .here (fun I3 hx3 hb19 => ?_)
  refine l_sealB (b := b13) .here (fun I4 hx4 hb13 => ?_)
  refine l_sealB (b := b12) .here (fun I5 hx5 hb12 => ?_)
  refine l_sealB (b := b10) .here (fun I6 hx6 hb10 => ?_)
  have hl2 := hx2.le.trans (hx3.le.trans (hx4.le.trans (hx5.le.trans hx6.le)))
  have hl3 := hx3.le.trans (hx4.le.trans (hx5.le.trans hx6.le))
  have hq := awW (u1 := u1) (u2 := u2) hb10 (hx6.le _ _ hb12) (hx6.le _ _ (hx5.le _ _ hb13)) (hx6.le _ _ (hx5.le _ _ (hx4.le _ _ hb19))) (k1.le hl3) (k2.le hl3)
  have hp6 := hp.le hl2
  have hri := trRight_any _ _ _ _ _ _ hp6 (fun o ho => ⟨by have := (hf o ho).1; omega, by have := (hf o ho).2; omega⟩)
  have hhe := trHeights_any _ _ _ _ _ _ hp6 (fun o ho => ⟨by have := (hf o ho).1; omega, by have := (hf o ho).2; omega⟩)
  rw [awH] at hri hhe
  refine o_buildS trivial rfl (bld27) rfl (.cons rfl (by first | exact (Ws.cells1 (by assumption)).1 | exact (Slc.cells1 (by assumption)).1 | rfl) (by rfl) (by repeat constructor) (.cons rfl (by first | exact (Ws.cells1 (by assumption)).1 | exact (Slc.cells1 (by assumption)).1 | rfl) (by rfl) (by repeat constructor) (.cons rfl (by first | exact (Ws.cells1 (by assumption)).1 | exact (Slc.cells1 (by assumption)).1 | rfl) (by rfl) (by repeat constructor) (.cons rfl (by first | exact (Ws.cells1 (by assumption)).1 | exact (Slc.cells1 (by assumption)).1 | rfl) (by rfl) (by repeat constructor) .nil)))) ?_
  refine o_alloc trivial rfl Tryz.zeroValue27 rfl (fun b4 => ?_)
  refine oS Tryz.sizeOf27 ?_
  refine oN (tC (cS (cR ?_)))
  iterate 2 refine oV ?_
  refine' o_and trivial trivial rfl rfl rfl rfl rfl rfl rfl rfl (fun hb23 => ?_) ?_
  rotate_left
  ·
   have fb23 := hb23
   try simp only [bl] at fb23
   refine o_loadA (wS rfl rfl hb23) rfl Tryz.isAgg29 Tryz.sizeOf29 rfl (by repeat constructor) (by repeat constructor) ?_
   refine o_buildS (wS rfl rfl hb23) rfl (bld29) rfl .nil ?_
   refine o_eqlV (wS rfl rfl hb23) rfl rfl rfl Tryz.eqGuardType29 (EqV.struct Tryz.underlying29 Tryz.stoodInHeld29 (EqP.cons (T := 3) (o := 0) (by decide) rfl rfl (.one Tryz.isAgg3 (by repeat constructor)) (.one Tryz.isAgg3 (by repeat constructor)) (EqV.int Tryz.underlying3) (EqP.last (T := 3) (o := 1) (by decide) rfl rfl (.one Tryz.isAgg3 (by repeat constructor)) (.one Tryz.isAgg3 (by repeat constructor)) (EqV.int Tryz.underlying3)))) ?_
   refine oN ?_
   exact joins rfl
  refine' o_and trivial trivial rfl rfl rfl rfl rfl rfl rfl rfl (fun hb28 => ?_) ?_
  rotate_left
  ·
   have fb28 := hb28
   try simp only [bl] at fb28
   iterate 2 refine o_loadA (wS rfl rfl hb28) rfl Tryz.isAgg27 Tryz.sizeOf27 rfl (by repeat constructor) (by repeat constructor) ?_
   refine o_callQ (wS rfl rfl hb28) rfl Tryz.call17 rfl (rrSame_any _ _ _ _ _ _ _ _ _ _ _ hp6 hq) ?_
   refine oN ?_
   exact joins rfl
  refine' o_and trivial trivial rfl rfl rfl rfl rfl rfl rfl rfl (fun hb33 => ?_) ?_
  rotate_left
  ·
   have fb33 := hb33
   try simp only [bl] at fb33
   refine o_loadA (wS rfl rfl hb33) rfl Tryz.isAgg27 Tryz.sizeOf27 rfl (by repeat constructor) (by repeat constructor) ?_
   refine o_callQ (wS rfl rfl hb33) rfl Tryz.call21 rfl hri ?_
   refine oN ?_
   exact joins rfl
  refine' o_and trivial trivial rfl rfl rfl rfl rfl rfl rfl rfl (fun hb37 => ?_) ?_
  rotate_left
  ·
   have fb37 := hb37
   try simp only [bl] at fb37
   refine o_loadA (wS rfl rfl hb37) rfl Tryz.isAgg27 Tryz.sizeOf27 rfl (by repeat constructor) (by repeat constructor) ?_
   refine o_callI (wS rfl rfl hb37) rfl Tryz.call23 rfl hhe ?_
   rintro _ I7 hx7 hs7
   refine o_buildSl (wS rfl rfl hb37) rfl Tryz.underlying37 Tryz.sizeOf3 Tryz.zeroValue3 (by decide) (by decide) rfl (by repeat first | exact rfl | constructor) rfl (fun b40 => ?_)
   refine l_sealB .here (fun I8 hx8 hb40 => ?_)
   refine o_callQ (wS rfl rfl hb37) rfl Tryz.call22 rfl (ints_any _ _ [1, 1, 2, 3] (hs7.le hx8.le) (Slc.of_box (sz := 1) (xss := nss [1, 1, 2, 3]) (c := 4) hb40 (nss_one _) (by decide) (by decide))) ?_
   refine oN ?_
   exact joinsW rfl (fun _ h => (h.sort (by repeat constructor)).fewer ((hx7.le).trans hx8.le))
  refine oV ?_
  refine oN (tC (cT ?_))
  refine ret1 rfl rfl ?_
  exact leaf (hx1.trans (hx2.trans (hx3.trans (hx4.trans (hx5.trans hx6 (Nat.le_refl _)) (Nat.le_refl _)) (Nat.le_refl _)) (Nat.le_refl _)) (Nat.le_refl _)) (List.nil_sublist _) (congrArg Value.bool (by simp))
end Go.Proofs.YtmgpifkekofacaaGreatDoor
