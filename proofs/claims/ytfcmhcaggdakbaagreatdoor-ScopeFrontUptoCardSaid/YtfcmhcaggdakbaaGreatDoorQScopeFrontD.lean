/-
  ScopeFront, part 4: the texts Read5, Read6, Read7, Read8, Read9, Read10, Parse11, RefR, RefL, RefL2, RefL3, RefL4, RefL5, RefL6, Tree9, RefH, Ref8b, RefB, RefW, Tree10, RefH2, Law11, RefW2, Scope, Scope2, Scope3, Ref13, Scope4, Ref13b, Law13, Law09, Ren, More, LexCat, LexCat2, Show1, Front, Mix, Law13r, Law13m, Law13f, Open, OpenB, Open11 as one.
-/
import Derived.Test.YtfcmhcaggdakbaaGreatDoorQScopeFrontC
import Derived.Deep.Slices
set_option linter.unusedVariables false
set_option linter.unusedSimpArgs false
set_option linter.unnecessarySimpa false
set_option maxHeartbeats 1000000
namespace Go.Proofs.YtfcmhcaggdakbaaGreatDoor
open Go Go.Tw
theorem expo_some {L : List Tok} {i : Nat} {e : Option Int} {r1 : List Tok} (he : Expo (L.drop i) e r1) {j : Nat} (hj : j = adv (hdT (L.drop i) 2 minusS) i) (hlt : j < L.length) (hk : (tkAt L j).kind = 1) {n : Nat} (hn : expoZ (tkAt L j).text = some n) :
    e = some ((if hdT (L.drop i) 2 minusS then -1 else 1) * (n : Int)) ∧ r1 = L.drop (j + 1) := by
  cases hm : hdT (L.drop i) 2 minusS with
  | true =>
    rw [adv_true hm] at hj
    subst hj
    have hi := hdT_lt hm
    have hx : isT (tkAt L i) 2 minusS = true := by rw [drop_cons hi] at hm; exact hm
    have h2 : Expo (L.drop i) (some (-(n : Int))) (L.drop (i + 1 + 1)) := by rw [drop_cons hi, drop_cons hlt]; exact .neg hx hk hn
    obtain ⟨rfl, rfl⟩ := he.det h2
    exact ⟨by simp, rfl⟩
  | false =>
    rw [adv_false hm] at hj
    subst hj
    have hx : isT (tkAt L j) 2 minusS = false := by rw [drop_cons hlt] at hm; exact hm
    have h2 : Expo (L.drop j) (some (n : Int)) (L.drop (j + 1)) := by rw [drop_cons hlt]; exact .pos hx hk hn
    obtain ⟨rfl, rfl⟩ := he.det h2
    exact ⟨by simp, rfl⟩
theorem expo_none {L : List Tok} {i : Nat} {e : Option Int} {r1 : List Tok} (he : Expo (L.drop i) e r1) {j : Nat} (hj : j = adv (hdT (L.drop i) 2 minusS) i) (hn : j < L.length → (tkAt L j).kind = 1 → expoZ (tkAt L j).text = none) :
    e = none ∧ r1 = L.drop j := by
  cases hm : hdT (L.drop i) 2 minusS with
  | true =>
    rw [adv_true hm] at hj
    subst hj
    have hi := hdT_lt hm
    have hx : isT (tkAt L i) 2 minusS = true := by rw [drop_cons hi] at hm; exact hm
    by_cases hlt : i + 1 < L.length
    · have h2 : Expo (L.drop i) none (L.drop (i + 1)) := by rw [drop_cons hi, drop_cons hlt]; exact .neg_bad hx (hn hlt)
      obtain ⟨rfl, rfl⟩ := he.det h2
      exact ⟨rfl, rfl⟩
    · have h2 : Expo (L.drop i) none (L.drop (i + 1)) := by rw [drop_cons hi, List.drop_eq_nil_of_le (by omega)]; exact .neg_end hx
      obtain ⟨rfl, rfl⟩ := he.det h2
      exact ⟨rfl, rfl⟩
  | false =>
    rw [adv_false hm] at hj
    subst hj
    by_cases hlt : j < L.length
    · have hx : isT (tkAt L j) 2 minusS = false := by rw [drop_cons hlt] at hm; exact hm
      have h2 : Expo (L.drop j) none (L.drop j) := by rw [drop_cons hlt]; exact .pos_bad hx (hn hlt)
      obtain ⟨rfl, rfl⟩ := he.det h2
      exact ⟨rfl, rfl⟩
    · have h2 : Expo (L.drop j) none (L.drop j) := by rw [List.drop_eq_nil_of_le (by omega)]; exact .pos_end
      obtain ⟨rfl, rfl⟩ := he.det h2
      exact ⟨rfl, rfl⟩
theorem rdExpo_any (b i : Nat) (vall vs vi vl vo va : Value) (a : Int) (ns : List NodeV) (K : List Value) (L : List Tok) {I : Hp} (hE : Errs I) (hL : Slc I 4 vall (L.map Tok.cells)) (hn : L.length ≤ 10000) (hs : TkSmall L) (hto : ToksOk L) (hK : K.length ≤ 90000) (hns : ns.length ≤ 90000) (hi : i ≤ L.length) {e : Option Int} {r1 : List Tok} (he : Expo (L.drop i) e r1) :
    Fun Tryz.prog 196 [.pointer (some ⟨b, 0, none⟩)] I [rdB b vall i vs vi vl vo va, skR vs (K ++ [odI a]), ndR va ns]
    (fun v I' B' => I = I' ∧ ((e = none ∧ v = .bool false ∧ ∃ i', i' ≤ L.length ∧ r1 = L.drop i' ∧ B' = [rdB b vall i' vs vi vl vo va, skR vs (K ++ [odI a]), ndR va ns]) ∨
      (∃ z, e = some z ∧ v = .bool true ∧ ∃ i' vs' va' c, i < i' ∧ i' ≤ L.length ∧ r1 = L.drop i' ∧ c.ok I ∧ c.c = powN a z ∧ B' = [rdB b vall i' vs' vi vl vo va', skR vs' (K ++ [odI ns.length]), ndR va' (ns ++ [c])]))) := by
  have hnode : ∀ (c : NodeV) (vs va : Value) (hc : c.ok I) (j : Nat), Fun Tryz.prog 200 [.pointer (some ⟨b, 0, none⟩), ndV c] I [rdB b vall j vs vi vl vo va, skR vs K, ndR va ns]
    (fun v I' B' => I = I' ∧ v = .tuple #[] ∧ ∃ vs' va', B' = [rdB b vall j vs' vi vl vo va', skR vs' (K ++ [odI ns.length]), ndR va' (ns ++ [c])]) := fun c vs va hc j => node_any b j vall vs vi vl vo va c ns K hc hK hns
  obtain ⟨j, hj⟩ : ∃ j, j = adv (hdT (L.drop i) 2 minusS) i := ⟨_, rfl⟩
  have hjl : j ≤ L.length := by rw [hj]; exact adv_le hi
  have hji : i ≤ j := by rw [hj]; unfold adv; split <;> omega
  have hbad : (∀ m, Lib.atoiAll (tkAt L j).text.data.toList ≠ .ok m) → j < L.length → (tkAt L j).kind = 1 → expoZ (tkAt L j).text = none := fun h hlt hk => by
    have hz := hto (tkAt L j) (by rw [tkAt_in (List.getElem?_eq_getElem hlt)]; exact List.getElem_mem hlt) hk
    cases hx : expoZ (tkAt L j).text with
    | none => rfl
    | some n => exact absurd ((expo_atoi hz n).1 hx).1 (h _)
  have hgood : ∀ {n : Int}, Lib.atoiAll (tkAt L j).text.data.toList = .ok n → j < L.length → (tkAt L j).kind = 1 → 0 ≤ n ∧ (n ≤ 20 → expoZ (tkAt L j).text = some n.toNat) ∧ (20 < n → expoZ (tkAt L j).text = none) := fun {n} h hlt hk => by
    have hz := hto (tkAt L j) (by rw [tkAt_in (List.getElem?_eq_getElem hlt)]; exact List.getElem_mem hlt) hk
    have h0 := atoi_pos hz h
    refine ⟨h0, fun h20 => (expo_atoi hz _).2 ⟨by rw [h, Int.toNat_of_nonneg h0], by omega⟩, fun h20 => ?_⟩
    cases hx : expoZ (tkAt L j).text with
    | none => rfl
    | some m =>
      have := (expo_atoi hz m).1 hx
      rw [h] at this
      have h3 := Lib.NumEnd.ok.inj this.1
      omega
  intro w hw
  refine enter1 _ Tryz.func196 rfl Tryz.ntmps196 rfl ?_ hw;refine sR ?_;refine oV ?_;refine nS ?_;refine oV ?_;refine nU ?_;refine oV ?_;refine oC trivial rfl Tryz.call140 rfl (rdMark_any b i vall vs vi vl vo va minusS L hL (by omega)) (by repeat constructor) ?_;rintro _ _ _ hx1 ⟨rfl, rfl, rfl⟩;refine nT ?_;refine cC rfl (fun h1 => ?_) (fun h1 => ?_)
  ·
   have f1 := h1;try simp only [bl] at f1
   refine cR ?_;refine oV ?_;refine oN (tC (cS ?_))
   rw [← hj]
   refine cR ?_;refine oV ?_;refine oC trivial rfl Tryz.call59 rfl (rdNext_any b j vall vs vi vl vo va L hL) (by repeat constructor) ?_;rintro _ _ _ hx2 ⟨rfl, rfl, rfl⟩;iterate 3 refine oV ?_
   refine o_alloc trivial rfl Tryz.zeroValue103 rfl (fun b4 => ?_);refine oS Tryz.sizeOf103 ?_;refine oV ?_;refine nS ?_;refine oF 1 Tryz.underlying103 Tryz.sizeOf9 ?_;refine oL Tryz.isAgg9 ?_;refine o_call0 trivial rfl Tryz.call216 rfl (atoi_any _ hE (by have := hs.at_ j; omega)) ?_;rintro _ ⟨n, er, rfl, hA⟩;iterate 5 refine oV ?_
   refine oN (tC (cS (cS ?_)))
   rcases hA with ⟨hA, rfl⟩ | ⟨hA, N, rfl⟩
   ·
    refine cR ?_;iterate 2 refine oV ?_
    refine' o_or trivial trivial rfl rfl rfl rfl rfl rfl rfl rfl (fun hb23 => ?_) ?_;rotate_left
    ·
     have fb23 := hb23
     try simp only [bl] at fb23
     refine gF hb23 0 Tryz.underlying103 Tryz.sizeOf3 ?_;refine gL hb23 Tryz.isAgg3 ?_;refine gV hb23 ?_;refine oN ?_;exact joins rfl
    refine' o_or trivial trivial rfl rfl rfl rfl rfl rfl rfl rfl (fun hb28 => ?_) ?_;rotate_left
    ·
     refine gV hb28 ?_;refine o_bin (v := .bool false) (wS rfl rfl hb28) rfl rfl rfl (fun w => by kernel_rfl) ?_;refine oN ?_;exact joins rfl
    refine' o_or trivial trivial rfl rfl rfl rfl rfl rfl rfl rfl (fun hb32 => ?_) ?_;rotate_left
    ·
     iterate 2 refine gV hb32 ?_
     refine oN ?_;exact joins rfl
    refine nT ?_;refine cC rfl (fun h2 => ?_) (fun h2 => ?_)
    ·
     have f2 := h2;try simp only [bl] at f2
     have h3 : expoZ (tkAt L j).text = none ∨ ¬ (j < L.length ∧ (tkAt L j).kind = 1) := by
       by_cases hc : j < L.length ∧ (tkAt L j).kind = 1
       · left
         refine (hgood hA hc.1 hc.2).2.2 ?_
         rw [decide_eq_true hc.1, hc.2] at h2
         simpa using h2
       · exact .inr hc
     have hr := expo_none he hj (fun k1 k2 => h3.elim id fun h => absurd ⟨k1, k2⟩ h)
     refine sR ?_;refine oV ?_;refine nF ?_;refine ret1 rfl rfl ?_
     first
     | exact fun w' hw' => ⟨I, [rdB b vall j vs vi vl vo va, skR vs (K ++ [odI a]), ndR va ns], hw'.sort (by repeat constructor), Ext.refl _ _, rfl, .inl ⟨hr.1, rfl, j, hjl, hr.2, rfl⟩⟩
     | exact fun w' hw' => ⟨I, [rdB b vall (j + 1) vs3 vi vl vo va3, skR vs3 (K ++ [odI ns.length]), ndR va3 (ns ++ [_])], hw'.sort (by repeat constructor), Ext.refl _ _, rfl, .inr ⟨_, hr.1, rfl, j + 1, vs3, va3, _, by omega, by omega, hr.2, ⟨Ws.nil _, Ws.nil _⟩, by rw [f1]; rfl, rfl⟩⟩
    have f2 := h2;try simp only [bl] at f2
    have h3 : j < L.length ∧ (tkAt L j).kind = 1 ∧ n ≤ 20 := by
      simp at h2
      exact ⟨h2.1.1, h2.1.2, by omega⟩
    obtain ⟨hn0, hn1, _⟩ := hgood hA h3.1 h3.2.1
    have hr := expo_some he hj h3.1 h3.2.1 (hn1 h3.2.2)
    rw [Int.toNat_of_nonneg hn0] at hr
    refine kS ?_;iterate 2 refine oV ?_
    refine oF 1 Tryz.underlying101 Tryz.sizeOf3 ?_;refine oL Tryz.isAgg3 ?_
    first | (refine o_add trivial rfl rfl rfl ?_ ?_; (omega)) | refine oV ?_
    refine oV ?_;refine oF 1 Tryz.underlying101 Tryz.sizeOf3 ?_;refine oS Tryz.sizeOf3 ?_;refine nS ?_;iterate 2 refine oV ?_
    refine oC trivial rfl Tryz.call199 rfl (rdNumber_any b (j + 1) vall vs vi vl vo va a K (by omega)) (by repeat constructor) ?_;rintro _ _ _ hx4 ⟨rfl, rfl, vs2, rfl⟩;iterate 2 refine oV ?_
    first | (refine o_mul trivial rfl rfl rfl ?_ ?_; (omega)) | refine oV ?_
    refine o_buildS trivial rfl (bld37) rfl (.cons rfl rfl rfl (by repeat constructor) (.cons rfl rfl rfl (by repeat constructor) (.cons rfl rfl rfl (by repeat constructor) .nil))) ?_;refine oC trivial rfl Tryz.call200 rfl (hnode ⟨powN a (_ * n), .slice none 0 0, .slice none 0 0⟩ vs2 va ⟨Ws.nil _, Ws.nil _⟩ (j + 1)) (by repeat constructor) ?_;rintro _ _ _ hx5 ⟨rfl, rfl, vs3, va3, rfl⟩;refine nS ?_;refine oV ?_;refine nE ?_;refine ret1 rfl rfl ?_
    first
    | exact fun w' hw' => ⟨I, [rdB b vall j vs vi vl vo va, skR vs (K ++ [odI a]), ndR va ns], hw'.sort (by repeat constructor), Ext.refl _ _, rfl, .inl ⟨hr.1, rfl, j, hjl, hr.2, rfl⟩⟩
    | exact fun w' hw' => ⟨I, [rdB b vall (j + 1) vs3 vi vl vo va3, skR vs3 (K ++ [odI ns.length]), ndR va3 (ns ++ [_])], hw'.sort (by repeat constructor), Ext.refl _ _, rfl, .inr ⟨_, hr.1, rfl, j + 1, vs3, va3, _, by omega, by omega, hr.2, ⟨Ws.nil _, Ws.nil _⟩, by rw [f1]; rfl, rfl⟩⟩
   refine cR ?_;iterate 2 refine oV ?_
   refine' o_or trivial trivial rfl rfl rfl rfl rfl rfl rfl rfl (fun hb23 => ?_) ?_;rotate_left
   ·
    have fb23 := hb23
    try simp only [bl] at fb23
    refine gF hb23 0 Tryz.underlying103 Tryz.sizeOf3 ?_;refine gL hb23 Tryz.isAgg3 ?_;refine gV hb23 ?_;refine oN ?_;exact joins rfl
   refine' o_or trivial trivial rfl rfl rfl rfl rfl rfl rfl rfl (fun hb28 => ?_) ?_;rotate_left
   ·
    refine gV hb28 ?_;refine o_bin (v := .bool true) (wS rfl rfl hb28) rfl rfl rfl (fun w => by kernel_rfl) ?_;refine oN ?_;exact joins rfl
   refine' o_or trivial trivial rfl rfl rfl rfl rfl rfl rfl rfl (fun hb32 => ?_) ?_;rotate_left
   ·
    iterate 2 refine gV hb32 ?_
    refine oN ?_;exact joins rfl
   refine nT ?_;refine cC rfl (fun h2 => ?_) (fun h2 => ?_)
   ·
    have f2 := h2;try simp only [bl] at f2
    have hr := expo_none he hj (hbad hA)
    refine sR ?_;refine oV ?_;refine nF ?_;refine ret1 rfl rfl ?_;exact fun w' hw' => ⟨I, [rdB b vall j vs vi vl vo va, skR vs (K ++ [odI a]), ndR va ns], hw'.sort (by repeat constructor), Ext.refl _ _, rfl, .inl ⟨hr.1, rfl, j, hjl, hr.2, rfl⟩⟩
   have f2 := h2;try simp only [bl] at f2
   exfalso; rw [Bool.or_true, Bool.true_or] at h2; cases h2
  have f1 := h1;try simp only [bl] at f1
  refine cK (tC (cS ?_))
  rw [← hj]
  refine cR ?_;refine oV ?_;refine oC trivial rfl Tryz.call59 rfl (rdNext_any b j vall vs vi vl vo va L hL) (by repeat constructor) ?_;rintro _ _ _ hx2 ⟨rfl, rfl, rfl⟩;iterate 3 refine oV ?_
  refine o_alloc trivial rfl Tryz.zeroValue103 rfl (fun b4 => ?_);refine oS Tryz.sizeOf103 ?_;refine oV ?_;refine nS ?_;refine oF 1 Tryz.underlying103 Tryz.sizeOf9 ?_;refine oL Tryz.isAgg9 ?_;refine o_call0 trivial rfl Tryz.call216 rfl (atoi_any _ hE (by have := hs.at_ j; omega)) ?_;rintro _ ⟨n, er, rfl, hA⟩;iterate 5 refine oV ?_
  refine oN (tC (cS (cS ?_)))
  rcases hA with ⟨hA, rfl⟩ | ⟨hA, N, rfl⟩
  ·
   refine cR ?_;iterate 2 refine oV ?_
   refine' o_or trivial trivial rfl rfl rfl rfl rfl rfl rfl rfl (fun hb23 => ?_) ?_;rotate_left
   ·
    have fb23 := hb23
    try simp only [bl] at fb23
    refine gF hb23 0 Tryz.underlying103 Tryz.sizeOf3 ?_;refine gL hb23 Tryz.isAgg3 ?_;refine gV hb23 ?_;refine oN ?_;exact joins rfl
   refine' o_or trivial trivial rfl rfl rfl rfl rfl rfl rfl rfl (fun hb28 => ?_) ?_;rotate_left
   ·
    refine gV hb28 ?_;refine o_bin (v := .bool false) (wS rfl rfl hb28) rfl rfl rfl (fun w => by kernel_rfl) ?_;refine oN ?_;exact joins rfl
   refine' o_or trivial trivial rfl rfl rfl rfl rfl rfl rfl rfl (fun hb32 => ?_) ?_;rotate_left
   ·
    iterate 2 refine gV hb32 ?_
    refine oN ?_;exact joins rfl
   refine nT ?_;refine cC rfl (fun h2 => ?_) (fun h2 => ?_)
   ·
    have f2 := h2;try simp only [bl] at f2
    have h3 : expoZ (tkAt L j).text = none ∨ ¬ (j < L.length ∧ (tkAt L j).kind = 1) := by
      by_cases hc : j < L.length ∧ (tkAt L j).kind = 1
      · left
        refine (hgood hA hc.1 hc.2).2.2 ?_
        rw [decide_eq_true hc.1, hc.2] at h2
        simpa using h2
      · exact .inr hc
    have hr := expo_none he hj (fun k1 k2 => h3.elim id fun h => absurd ⟨k1, k2⟩ h)
    refine sR ?_;refine oV ?_;refine nF ?_;refine ret1 rfl rfl ?_
    first
    | exact fun w' hw' => ⟨I, [rdB b vall j vs vi vl vo va, skR vs (K ++ [odI a]), ndR va ns], hw'.sort (by repeat constructor), Ext.refl _ _, rfl, .inl ⟨hr.1, rfl, j, hjl, hr.2, rfl⟩⟩
    | exact fun w' hw' => ⟨I, [rdB b vall (j + 1) vs3 vi vl vo va3, skR vs3 (K ++ [odI ns.length]), ndR va3 (ns ++ [_])], hw'.sort (by repeat constructor), Ext.refl _ _, rfl, .inr ⟨_, hr.1, rfl, j + 1, vs3, va3, _, by omega, by omega, hr.2, ⟨Ws.nil _, Ws.nil _⟩, by rw [f1]; rfl, rfl⟩⟩
   have f2 := h2;try simp only [bl] at f2
   have h3 : j < L.length ∧ (tkAt L j).kind = 1 ∧ n ≤ 20 := by
     simp at h2
     exact ⟨h2.1.1, h2.1.2, by omega⟩
   obtain ⟨hn0, hn1, _⟩ := hgood hA h3.1 h3.2.1
   have hr := expo_some he hj h3.1 h3.2.1 (hn1 h3.2.2)
   rw [Int.toNat_of_nonneg hn0] at hr
   refine kS ?_;iterate 2 refine oV ?_
   refine oF 1 Tryz.underlying101 Tryz.sizeOf3 ?_;refine oL Tryz.isAgg3 ?_
   first | (refine o_add trivial rfl rfl rfl ?_ ?_; (omega)) | refine oV ?_
   refine oV ?_;refine oF 1 Tryz.underlying101 Tryz.sizeOf3 ?_;refine oS Tryz.sizeOf3 ?_;refine nS ?_;iterate 2 refine oV ?_
   refine oC trivial rfl Tryz.call199 rfl (rdNumber_any b (j + 1) vall vs vi vl vo va a K (by omega)) (by repeat constructor) ?_;rintro _ _ _ hx4 ⟨rfl, rfl, vs2, rfl⟩;iterate 2 refine oV ?_
   first | (refine o_mul trivial rfl rfl rfl ?_ ?_; (omega)) | refine oV ?_
   refine o_buildS trivial rfl (bld37) rfl (.cons rfl rfl rfl (by repeat constructor) (.cons rfl rfl rfl (by repeat constructor) (.cons rfl rfl rfl (by repeat constructor) .nil))) ?_;refine oC trivial rfl Tryz.call200 rfl (hnode ⟨powN a (_ * n), .slice none 0 0, .slice none 0 0⟩ vs2 va ⟨Ws.nil _, Ws.nil _⟩ (j + 1)) (by repeat constructor) ?_;rintro _ _ _ hx5 ⟨rfl, rfl, vs3, va3, rfl⟩;refine nS ?_;refine oV ?_;refine nE ?_;refine ret1 rfl rfl ?_
   first
   | exact fun w' hw' => ⟨I, [rdB b vall j vs vi vl vo va, skR vs (K ++ [odI a]), ndR va ns], hw'.sort (by repeat constructor), Ext.refl _ _, rfl, .inl ⟨hr.1, rfl, j, hjl, hr.2, rfl⟩⟩
   | exact fun w' hw' => ⟨I, [rdB b vall (j + 1) vs3 vi vl vo va3, skR vs3 (K ++ [odI ns.length]), ndR va3 (ns ++ [_])], hw'.sort (by repeat constructor), Ext.refl _ _, rfl, .inr ⟨_, hr.1, rfl, j + 1, vs3, va3, _, by omega, by omega, hr.2, ⟨Ws.nil _, Ws.nil _⟩, by rw [f1]; rfl, rfl⟩⟩
  refine cR ?_;iterate 2 refine oV ?_
  refine' o_or trivial trivial rfl rfl rfl rfl rfl rfl rfl rfl (fun hb23 => ?_) ?_;rotate_left
  ·
   have fb23 := hb23
   try simp only [bl] at fb23
   refine gF hb23 0 Tryz.underlying103 Tryz.sizeOf3 ?_;refine gL hb23 Tryz.isAgg3 ?_;refine gV hb23 ?_;refine oN ?_;exact joins rfl
  refine' o_or trivial trivial rfl rfl rfl rfl rfl rfl rfl rfl (fun hb28 => ?_) ?_;rotate_left
  ·
   refine gV hb28 ?_;refine o_bin (v := .bool true) (wS rfl rfl hb28) rfl rfl rfl (fun w => by kernel_rfl) ?_;refine oN ?_;exact joins rfl
  refine' o_or trivial trivial rfl rfl rfl rfl rfl rfl rfl rfl (fun hb32 => ?_) ?_;rotate_left
  ·
   iterate 2 refine gV hb32 ?_
   refine oN ?_;exact joins rfl
  refine nT ?_;refine cC rfl (fun h2 => ?_) (fun h2 => ?_)
  ·
   have f2 := h2;try simp only [bl] at f2
   have hr := expo_none he hj (hbad hA)
   refine sR ?_;refine oV ?_;refine nF ?_;refine ret1 rfl rfl ?_;exact fun w' hw' => ⟨I, [rdB b vall j vs vi vl vo va, skR vs (K ++ [odI a]), ndR va ns], hw'.sort (by repeat constructor), Ext.refl _ _, rfl, .inl ⟨hr.1, rfl, j, hjl, hr.2, rfl⟩⟩
  have f2 := h2;try simp only [bl] at f2
  exfalso; rw [Bool.or_true, Bool.true_or] at h2; cases h2
theorem rdExpo_u (b i : Nat) (vall vs vi vl vo va : Value) (a : Int) (ns : List NodeV) (K : List Value) (L : List Tok) {I : Hp} (hE : Errs I) (hL : Slc I 4 vall (L.map Tok.cells)) (hn : L.length ≤ 10000) (hs : TkSmall L) (hto : ToksOk L) (hK : K.length ≤ 90000) (hns : ns.length ≤ 90000) (hi : i ≤ L.length) {e : Option Int} {r1 : List Tok} (he : Expo (L.drop i) e r1) :
    Fun Tryz.prog 196 [.pointer (some ⟨b, 0, none⟩)] I [rdB b vall i vs vi vl vo va, skR vs (K ++ [odI a]), ndR va ns]
    (fun v I' B' => I = I' ∧ ∃ ok i' vs' va' ns' Kv, v = .bool ok ∧ B' = [rdB b vall i' vs' vi vl vo va', skR vs' Kv, ndR va' ns'] ∧ i' ≤ L.length ∧ (ok = false → e = none ∧ r1 = L.drop i') ∧
      (ok = true → ∃ z c, e = some z ∧ r1 = L.drop i' ∧ i < i' ∧ c.ok I ∧ c.c = powN a z ∧ Kv = K ++ [odI ns.length] ∧ ns' = ns ++ [c])) :=
  fun_mono (rdExpo_any b i vall vs vi vl vo va a ns K L hE hL hn hs hto hK hns hi he) fun v I' B' h => by
    rcases h with ⟨rfl, ⟨h1, rfl, i', h2, h3, rfl⟩ | ⟨z, h1, rfl, i', vs', va', c, h2, h3, h4, h5, h6, rfl⟩⟩
    · exact ⟨rfl, _, i', _, _, _, _, rfl, rfl, h2, fun _ => ⟨h1, h3⟩, fun h => by cases h⟩
    · exact ⟨rfl, _, i', _, _, _, _, rfl, rfl, h3, fun h => (by cases h), fun _ => ⟨z, c, h1, h4, h2, h5, h6, rfl, rfl⟩⟩
theorem rdAtom_yes (b i : Nat) (vall vs vi vl vo va : Value) (ns : List NodeV) (K : List Value) (L : List Tok) {I : Hp} (hM : Mx I) (hL : Slc I 4 vall (L.map Tok.cells)) (hn : L.length ≤ 10000) (hs : TkSmall L) (hto : ToksOk L) (hK : K.length ≤ 90000) (hns : ns.length ≤ 90000) (hlt : i < L.length) (hlf : leafT (tkAt L i) = true) :
    Fun Tryz.prog 195 [.pointer (some ⟨b, 0, none⟩)] I [rdB b vall i vs vi vl vo va, skR vs K, ndR va ns]
    (fun v I' B' => v = .bool true ∧ ∃ vs' va' c, c.ok I' ∧ c.c = leafN (tkAt L i) ∧ B' = [rdB b vall (i + 1) vs' vi vl vo va', skR vs' (K ++ [odI ns.length]), ndR va' (ns ++ [c])]) :=
  fun_mono (rdAtom_any b i vall vs vi vl vo va ns K L hM hL hn hs hto hK hns) fun v I' B' h => by
    rcases h with ⟨h1, h2, h3, h4⟩ | ⟨h1, _, _, h2⟩
    · rw [h4 hlt] at hlf; cases hlf
    · exact ⟨h1, h2⟩
theorem rdAtom_no (b i : Nat) (vall vs vi vl vo va : Value) (ns : List NodeV) (K : List Value) (L : List Tok) {I : Hp} (hM : Mx I) (hL : Slc I 4 vall (L.map Tok.cells)) (hn : L.length ≤ 10000) (hs : TkSmall L) (hto : ToksOk L) (hK : K.length ≤ 90000) (hns : ns.length ≤ 90000) (hlf : ¬ (i < L.length ∧ leafT (tkAt L i) = true)) :
    Fun Tryz.prog 195 [.pointer (some ⟨b, 0, none⟩)] I [rdB b vall i vs vi vl vo va, skR vs K, ndR va ns]
    (fun v I' B' => I = I' ∧ v = .bool false ∧ B' = [rdB b vall i vs vi vl vo va, skR vs K, ndR va ns]) :=
  fun_mono (rdAtom_any b i vall vs vi vl vo va ns K L hM hL hn hs hto hK hns) fun v I' B' h => by
    rcases h with ⟨h1, h2, h3, h4⟩ | ⟨h1, h2, h3, _⟩
    · exact ⟨h2, h1, h3⟩
    · exact absurd ⟨h2, h3⟩ hlf
structure Rd (L : List Tok) (I : Hp) (i' : Nat) (ns' : List NodeV) (Kv : List Value) (K' : List Fr) : Prop where
  kv : Kv = stk K' ++ [odI (lastN ns')]
  fr : FrOk K'
  ok : ∀ o ∈ ns', o.ok I
  pos : 1 ≤ ns'.length
  few : ns'.length + K'.length ≤ i'
theorem run_minus {L : List Tok} {K : List Fr} {all : List NodeC} {i : Nat} {o : POut} (h : RunE K all (L.drop i) o) (hm : hdT (L.drop i) 2 minusS = true) : RunE (.neg :: K) all (L.drop (i + 1)) o := by
  have hi := hdT_lt hm
  rw [drop_cons hi] at h hm
  exact h.minus hm
theorem run_lpar {L : List Tok} {K : List Fr} {all : List NodeC} {i : Nat} {o : POut} (h : RunE K all (L.drop i) o) (hm : hdT (L.drop i) 2 lpar = true) : RunE (.br :: K) all (L.drop (i + 1)) o := by
  have hi := hdT_lt hm
  rw [drop_cons hi] at h hm
  exact h.bracket hm
theorem run_leaf {L : List Tok} {K : List Fr} {all : List NodeC} {i : Nat} {o : POut} (h : RunE K all (L.drop i) o) (h0 : hdT (L.drop i) 2 minusS = false) (h1 : hdT (L.drop i) 2 lpar = false) (hlt : i < L.length) (hl : leafT (tkAt L i) = true) : RunA K (all ++ [leafN (tkAt L i)]) (L.drop (i + 1)) o := by
  rw [drop_cons hlt] at h h0 h1
  have := h.leaf h0 h1
  rwa [if_pos hl] at this
theorem run_noleaf {L : List Tok} {K : List Fr} {all : List NodeC} {i : Nat} {o : POut} (h : RunE K all (L.drop i) o) (h0 : hdT (L.drop i) 2 minusS = false) (h1 : hdT (L.drop i) 2 lpar = false) (hl : ¬ (i < L.length ∧ leafT (tkAt L i) = true)) : o = .bad (L.drop i) := by
  by_cases hlt : i < L.length
  · rw [drop_cons hlt] at h h0 h1 ⊢
    have := h.leaf h0 h1
    rwa [if_neg (fun e => hl ⟨hlt, e⟩)] at this
  · rw [List.drop_eq_nil_of_le (by omega)] at h ⊢
    exact h.nil
theorem rdOpen_any (b i : Nat) (vall vs vi vl vo va : Value) (ns : List NodeV) (K : List Fr) (L : List Tok) {I : Hp} (hM : Mx I) (hL : Slc I 4 vall (L.map Tok.cells)) (hn : L.length ≤ 10000) (hs : TkSmall L) (hto : ToksOk L) (hK : FrOk K) (hok : ∀ o ∈ ns, o.ok I) (hb : ns.length + K.length ≤ i) (hi : i ≤ L.length) {o : POut} (h : RunE K (ns.map NodeV.c) (L.drop i) o) :
    Fun Tryz.prog 169 [.pointer (some ⟨b, 0, none⟩)] I [rdB b vall i vs vi vl vo va, skR vs (stk K), ndR va ns]
    (fun v I' B' => ∃ ok i' vs' va' ns' Kv, v = .bool ok ∧ B' = [rdB b vall i' vs' vi vl vo va', skR vs' Kv, ndR va' ns'] ∧ i' ≤ L.length ∧ (ok = false → o = .bad (L.drop i')) ∧ (ok = true → ∃ K', Rd L I' i' ns' Kv K' ∧ RunA K' (ns'.map NodeV.c) (L.drop i') o ∧ i < i')) := by
  intro w hw
  refine enter1 _ Tryz.func169 rfl Tryz.ntmps169 rfl ?_ hw;refine sR ?_;refine oV ?_;refine oN (tC (cB ?_));refine c_loop (ι := Nat × List Fr × Value) [0] (.cons rfl .nil) (fun x => L.length - x.1) (fun x E0 => E0) (fun x => St w (keysOf [rdB b vall i vs vi vl vo va, skR vs (stk K), ndR va ns]) I [rdB b vall x.1 x.2.2 vi vl vo va, skR x.2.2 (stk x.2.1), ndR va ns]) (fun x => x.1 ≤ L.length ∧ FrOk x.2.1 ∧ ns.length + x.2.1.length ≤ x.1 ∧ RunE x.2.1 (ns.map NodeV.c) (L.drop x.1) o ∧ i ≤ x.1) ((i, K, vs)) (sC rfl sN) (fun _ h => h) (⟨hi, hK, hb, h, Nat.le_refl _⟩) ?_;rintro ⟨j, K1, us⟩ ⟨hj, hK1, hb1, hr, hij⟩
  try dsimp only
  simp only at hj hK1 hb1 hr hij; have hst := stk_len K1
  refine cB (cB (sR ?_));refine oV ?_;refine oC trivial rfl Tryz.call140 rfl (rdMark_any b j vall us vi vl vo va minusS L hL (by omega)) (by repeat constructor) ?_;rintro _ _ _ hx1 ⟨rfl, rfl, rfl⟩;refine oV ?_;refine nT ?_;refine cC rfl (fun h1 => ?_) (fun h1 => ?_)
  ·
   have f1 := h1;try simp only [bl] at f1
   have hm : hdT (L.drop j) 2 minusS = true := h1
   rw [adv_true hm]
   have hlt := hdT_lt hm
   refine cR ?_;refine oV ?_;refine o_buildS trivial rfl (bld204) rfl (.cons rfl rfl rfl (by repeat constructor) (.cons rfl rfl rfl (by repeat constructor) .nil)) ?_;refine o_ifaceS trivial rfl rfl (fun w => by kernel_rfl) ?_;refine oC trivial rfl Tryz.call173 rfl (push_any b (j + 1) vall us vi vl vo va (opV 6 3 false) 204 (stk K1) (by omega)) (by repeat constructor) ?_;rintro _ _ _ hx2 ⟨rfl, rfl, us2, rfl⟩;refine oN (blk_n (blk_n ?_))
   first
   | exact again (j + 1, .neg :: K1, us2) (sC rfl sN) (fun _ h => h.sort (by repeat constructor)) (by show L.length - (j + 1) < L.length - j; omega) ⟨by show j + 1 ≤ _; omega, hK1, by show ns.length + (K1.length + 1) ≤ j + 1; omega, run_minus hr hm, by show i ≤ j + 1; omega⟩
   | exact again (j + 1, .br :: K1, us2) (sC rfl sN) (fun _ h => h.sort (by repeat constructor)) (by show L.length - (j + 1) < L.length - j; omega) ⟨by show j + 1 ≤ _; omega, hK1, by show ns.length + (K1.length + 1) ≤ j + 1; omega, run_lpar hr hq, by show i ≤ j + 1; omega⟩
  have f1 := h1;try simp only [bl] at f1
  have hm : hdT (L.drop j) 2 minusS = false := h1
  rw [adv_false hm]
  refine sR ?_;refine oV ?_;refine oC trivial rfl Tryz.call140 rfl (rdMark_any b j vall us vi vl vo va lpar L hL (by omega)) (by repeat constructor) ?_;rintro _ _ _ hx1 ⟨rfl, rfl, rfl⟩;refine oV ?_;refine nT ?_;refine cC rfl (fun h2 => ?_) (fun h2 => ?_)
  ·
   have f2 := h2;try simp only [bl] at f2
   have hq : hdT (L.drop j) 2 lpar = true := h2
   rw [adv_true hq]
   have hlt := hdT_lt hq
   refine cR ?_;refine oV ?_;refine o_buildS trivial rfl (bld204) rfl (.cons rfl rfl rfl (by repeat constructor) .nil) ?_;refine o_ifaceS trivial rfl rfl (fun w => by kernel_rfl) ?_;refine oC trivial rfl Tryz.call173 rfl (push_any b (j + 1) vall us vi vl vo va (opV 0 0 true) 204 (stk K1) (by omega)) (by repeat constructor) ?_;rintro _ _ _ hx2 ⟨rfl, rfl, us2, rfl⟩;refine oN (blk_n (blk_n ?_))
   first
   | exact again (j + 1, .neg :: K1, us2) (sC rfl sN) (fun _ h => h.sort (by repeat constructor)) (by show L.length - (j + 1) < L.length - j; omega) ⟨by show j + 1 ≤ _; omega, hK1, by show ns.length + (K1.length + 1) ≤ j + 1; omega, run_minus hr hm, by show i ≤ j + 1; omega⟩
   | exact again (j + 1, .br :: K1, us2) (sC rfl sN) (fun _ h => h.sort (by repeat constructor)) (by show L.length - (j + 1) < L.length - j; omega) ⟨by show j + 1 ≤ _; omega, hK1, by show ns.length + (K1.length + 1) ≤ j + 1; omega, run_lpar hr hq, by show i ≤ j + 1; omega⟩
  have f2 := h2;try simp only [bl] at f2
  have hq : hdT (L.drop j) 2 lpar = false := h2
  rw [adv_false hq]
  refine cS ?_
  by_cases hlf : j < L.length ∧ leafT (tkAt L j) = true
  ·
   refine cR ?_;refine oV ?_;refine oC trivial rfl Tryz.call195 rfl (rdAtom_yes b j vall us vi vl vo va ns (stk K1) L hM hL hn hs hto (by omega) (by omega) hlf.1 hlf.2) (by repeat constructor) ?_;rintro _ I3 _ hx3 ⟨rfl, us3, va3, c3, hc3, hcc, rfl⟩;refine oV ?_;refine oN (tC (cT (blk_r (blk_r (tR (blk_r ?_))))));refine ret1 rfl rfl ?_;refine fun w' hw' => ⟨I3, _, hw'.sort (by repeat constructor), hx3, true, j + 1, us3, va3, ns ++ [c3], _, rfl, rfl, hlf.1, fun h => (by cases h), fun _ => ⟨K1, ⟨by rw [lastN_more], hK1, ?_, by simp, by rw [List.length_append]; show ns.length + 1 + K1.length ≤ j + 1; omega⟩, ?_, by omega⟩⟩
   · intro o ho
     rcases List.mem_append.1 ho with ho | ho
     · exact (hok o ho).le hx3.le
     · rw [List.mem_singleton.1 ho]; exact hc3
   · rw [List.map_append]
     show RunA K1 (ns.map NodeV.c ++ [c3.c]) _ _
     rw [hcc]
     exact run_leaf hr hm hq hlf.1 hlf.2
  refine cR ?_;refine oV ?_;refine oC trivial rfl Tryz.call195 rfl (rdAtom_no b j vall us vi vl vo va ns (stk K1) L hM hL hn hs hto (by omega) (by omega) hlf) (by repeat constructor) ?_;rintro _ _ _ hx3 ⟨rfl, rfl, rfl⟩;refine oV ?_;refine oN (tC (cT (blk_r (blk_r (tR (blk_r ?_))))));refine ret1 rfl rfl ?_;exact fun w' hw' => ⟨I, [rdB b vall j us vi vl vo va, skR us (stk K1), ndR va ns], hw'.sort (by repeat constructor), Ext.refl _ _, false, j, us, va, ns, _, rfl, rfl, hj, fun _ => run_noleaf hr hm hq hlf, fun h => by cases h⟩
theorem run_nocaret {L : List Tok} {K : List Fr} {all : List NodeC} {i : Nat} {o : POut} (h : RunA K all (L.drop i) o) (hm : hdT (L.drop i) 2 caret = false) : RunM K true all (L.drop i) o := h.none hm
theorem run_caret {L : List Tok} {K : List Fr} {all : List NodeC} {i : Nat} {o : POut} {e : Option Int} {r1 : List Tok} (h : RunA K all (L.drop i) o) (hm : hdT (L.drop i) 2 caret = true) (he : Expo (L.drop (i + 1)) e r1) : match e with
    | some e => RunM K true (all ++ [powN (lastI all) e]) r1 o
    | none => o = .bad r1 := by
  have hi := hdT_lt hm
  rw [drop_cons hi] at h hm
  cases e <;> exact h.caret hm he
theorem run_shut {L : List Tok} {K : List Fr} {all : List NodeC} {i : Nat} {o : POut} (hK : FrOk K) (h : RunM K true all (L.drop i) o) (hm : hdT (L.drop i) 2 rpar = true) : match (foldK 0 K all).1 with
    | .br :: K' => RunA K' (foldK 0 K all).2 (L.drop (i + 1)) o
    | _ => o = .bad (L.drop i) := by
  have hi := hdT_lt hm
  rw [drop_cons hi] at h hm ⊢
  exact h.shut hK hm
theorem frOk_br {K : List Fr} (h : FrOk (.br :: K)) : FrOk K := h
theorem rdShut_any (b i : Nat) (vall vs vi vl vo va : Value) (ns : List NodeV) (K : List Fr) (L : List Tok) {I : Hp} (hE : Errs I) (hL : Slc I 4 vall (L.map Tok.cells)) (hn : L.length ≤ 10000) (hs : TkSmall L) (hto : ToksOk L) (hK : FrOk K) (hok : ∀ o ∈ ns, o.ok I) (h1 : 1 ≤ ns.length) (hb : ns.length + K.length ≤ i) (hi : i ≤ L.length) {o : POut} (h : RunA K (ns.map NodeV.c) (L.drop i) o) :
    Fun Tryz.prog 170 [.pointer (some ⟨b, 0, none⟩)] I [rdB b vall i vs vi vl vo va, skR vs (stk K ++ [odI (lastN ns)]), ndR va ns]
    (fun v I' B' => I = I' ∧ ∃ ok i' vs' va' ns' Kv, v = .bool ok ∧ B' = [rdB b vall i' vs' vi vl vo va', skR vs' Kv, ndR va' ns'] ∧ i' ≤ L.length ∧ (ok = false → o = .bad (L.drop i')) ∧ (ok = true → ∃ K', Rd L I i' ns' Kv K' ∧ RunM K' true (ns'.map NodeV.c) (L.drop i') o ∧ hdT (L.drop i') 2 rpar = false ∧ i ≤ i')) := by
  intro w hw
  refine enter1 _ Tryz.func170 rfl Tryz.ntmps170 rfl ?_ hw;refine sR ?_;refine oV ?_;refine oN (tC (cB ?_));refine c_loop (ι := Nat × List Fr × List NodeV × Value × Value) [0] (.cons rfl .nil) (fun x => L.length - x.1) (fun x E0 => E0) (fun x => St w (keysOf [rdB b vall i vs vi vl vo va, skR vs (stk K ++ [odI (lastN ns)]), ndR va ns]) I [rdB b vall x.1 x.2.2.2.1 vi vl vo x.2.2.2.2, skR x.2.2.2.1 (stk x.2.1 ++ [odI (lastN x.2.2.1)]), ndR x.2.2.2.2 x.2.2.1]) (fun x => x.1 ≤ L.length ∧ FrOk x.2.1 ∧ (∀ o ∈ x.2.2.1, o.ok I) ∧ 1 ≤ x.2.2.1.length ∧ x.2.2.1.length + x.2.1.length ≤ x.1 ∧ RunA x.2.1 (x.2.2.1.map NodeV.c) (L.drop x.1) o ∧ i ≤ x.1) ((i, K, ns, vs, va)) (sC rfl sN) (fun _ h => h) (⟨hi, hK, hok, h1, hb, h, Nat.le_refl _⟩) ?_;rintro ⟨j, K1, n0, us, ua⟩ ⟨hj, hK1, hok0, hn0, hb0, hr, hij⟩
  try dsimp only
  simp only at hj hK1 hok0 hn0 hb0 hr hij; have hst := stk_len K1
  refine cB (cS (sR ?_));refine oV ?_;refine oC trivial rfl Tryz.call140 rfl (rdMark_any b j vall us vi vl vo ua caret L hL (by omega)) (by repeat constructor) ?_;rintro _ _ _ hx1 ⟨rfl, rfl, rfl⟩;refine o_fork trivial rfl rfl (fun hb10 => ?_) (fun hb10 => ?_)
  ·
   have fb10 := hb10
   try simp only [bl] at fb10
   have hm : hdT (L.drop j) 2 caret = true := hb10
   rw [adv_true hm]
   have hlt := hdT_lt hm
   obtain ⟨e, r1, he⟩ := Expo.some_out (L.drop (j + 1))
   have hce := run_caret hr hm he
   refine o_pv (wS rfl rfl rfl) rfl rfl ?_;refine oC (wS rfl rfl rfl) rfl Tryz.call196 rfl (rdExpo_u b (j + 1) vall us vi vl vo ua (lastN n0) n0 (stk K1) L hE hL hn hs hto (by omega) (by omega) (by omega) he) (by repeat constructor) ?_;rintro _ _ _ hx2 ⟨rfl, ok, j1, us1, ua1, n1, Kv, rfl, rfl, hj1, hno, hyes⟩;refine o_pv (wS rfl rfl rfl) rfl rfl ?_;refine oV ?_;refine nT ?_;refine cC rfl (fun h1 => ?_) (fun h1 => ?_)
   ·
    have f1 := h1;try simp only [bl] at f1
    have hk : ok = false := by simpa using f1
    obtain ⟨rfl, rfl⟩ := hno hk
    refine sR ?_;refine oV ?_;refine oN (tC (cT (tR (blk_r (tR (blk_r ?_))))));refine ret1 rfl rfl ?_
    first
    | exact fun w' hw' => ⟨I, _, hw'.sort (by repeat constructor), Ext.refl _ _, rfl, false, j1, us1, ua1, n1, Kv, rfl, rfl, hj1, fun _ => hce, fun h => by cases h⟩
    | exact fun w' hw' => ⟨I, [rdB b vall j1 us2 vi vl vo ua2, skR us2 (stk K2 ++ [odI (lastN n2)]), ndR ua2 n2], hw'.sort (by repeat constructor), Ext.refl _ _, rfl, true, j1, us2, ua2, n2, _, rfl, rfl, hj1, fun h => (by cases h), fun _ => ⟨K2, ⟨rfl, hK2, hok2, hn2, by omega⟩, hM2, hp, hij1⟩⟩
    | exact fun w' hw' => ⟨I, [rdB b vall j1 us3 vi vl vo ua3, skR us3 (stk [] ++ [odI (lastN n3)]), ndR ua3 n3], hw'.sort (by repeat constructor), Ext.refl _ _, rfl, false, j1, us3, ua3, n3, _, rfl, rfl, hj1, fun _ => hsh, fun h => by cases h⟩
    | exact fun w' hw' => ⟨I, [rdB b vall j1 us3 vi vl vo ua3, skR us3 (stk K4 ++ preF f ++ [opI (opK f) (opP f) (opB f)] ++ [odI (lastN n3)]), ndR ua3 n3], hw'.sort (by repeat constructor), Ext.refl _ _, rfl, false, j1, us3, ua3, n3, _, rfl, rfl, hj1, fun _ => hfin, fun h => by cases h⟩
   have f1 := h1;try simp only [bl] at f1
   have hk : ok = true := by simpa using f1
   obtain ⟨z, c, rfl, rfl, hlt1, hc1, hc2, rfl, rfl⟩ := hyes hk
   have hok1 : ∀ o ∈ n0 ++ [c], o.ok I := fun o ho => by
     rcases List.mem_append.1 ho with ho | ho
     · exact hok0 o ho
     · rw [List.mem_singleton.1 ho]; exact hc1
   have hM : RunM K1 true ((n0 ++ [c]).map NodeV.c) (L.drop j1) o := by rw [List.map_append]; show RunM K1 true (n0.map NodeV.c ++ [c.c]) _ _; rw [hc2, lastN_eq]; exact hce
   have hln : (n0 ++ [c]).length = n0.length + 1 := by simp
   rw [← lastN_more n0 c]
   have hij1 : i ≤ j1 := by omega
   have hb1 : (n0 ++ [c]).length + K1.length ≤ j1 := by omega
   have hn1 : 1 ≤ (n0 ++ [c]).length := by omega
   have hjj : j ≤ j1 := by omega
   generalize n0 ++ [c] = n1 at hok1 hM hb1 hn1 ⊢
   refine kS ?_;refine oV ?_;refine oC trivial rfl Tryz.call172 rfl (fold_any b j1 vall us1 vi vl vo ua1 3 n1 K1 hK1 hok1 (by omega) hn1) (by repeat constructor) ?_;rintro _ _ _ hx3 ⟨rfl, rfl, us2, ua2, n2, rfl, hc2, hok2, hn2, hb2⟩;refine oN (tC (cS ?_))
   have hM2 := RunM.fold (b := 3) (.inl rfl) hK1 hM
   have hK2 := foldK_ok (b := 3) (all := n1.map NodeV.c) hK1
   rw [← hc2] at hM2
   generalize (foldK 3 K1 (n1.map NodeV.c)).1 = K2 at hM2 hK2 hb2 ⊢
   refine cR ?_;refine oV ?_;refine oC trivial rfl Tryz.call59 rfl (rdNext_any b j1 vall us2 vi vl vo ua2 L hL) (by repeat constructor) ?_;rintro _ _ _ hx4 ⟨rfl, rfl, rfl⟩;iterate 3 refine oV ?_
   refine o_alloc trivial rfl Tryz.zeroValue103 rfl (fun b3 => ?_);refine oS Tryz.sizeOf103 ?_;refine oV ?_;refine nU ?_;refine oF 0 Tryz.underlying103 Tryz.sizeOf3 ?_;refine oL Tryz.isAgg3 ?_;refine oV ?_;refine' o_or trivial trivial rfl rfl rfl rfl rfl rfl rfl rfl (fun hb25 => ?_) ?_;rotate_left
   ·
    have fb25 := hb25
    try simp only [bl] at fb25
    refine gF hb25 1 Tryz.underlying103 Tryz.sizeOf9 ?_;refine gL hb25 Tryz.isAgg9 ?_;refine gV hb25 ?_;refine oN ?_;exact joins rfl
   refine nT ?_;refine cC rfl (fun h2 => ?_) (fun h2 => ?_)
   ·
    have f2 := h2;try simp only [bl] at f2
    have hp : hdT (L.drop j1) 2 rpar = false := by
      rw [hdT_at]
      unfold isT
      rw [Bool.and_eq_false_iff]
      right
      exact or2_t h2
    refine sR ?_;refine oV ?_;refine oN (tC (cT (tR (blk_r (tR (blk_r ?_))))));refine ret1 rfl rfl ?_
    first
    | exact fun w' hw' => ⟨I, _, hw'.sort (by repeat constructor), Ext.refl _ _, rfl, false, j1, us1, ua1, n1, Kv, rfl, rfl, hj1, fun _ => hce, fun h => by cases h⟩
    | exact fun w' hw' => ⟨I, [rdB b vall j1 us2 vi vl vo ua2, skR us2 (stk K2 ++ [odI (lastN n2)]), ndR ua2 n2], hw'.sort (by repeat constructor), Ext.refl _ _, rfl, true, j1, us2, ua2, n2, _, rfl, rfl, hj1, fun h => (by cases h), fun _ => ⟨K2, ⟨rfl, hK2, hok2, hn2, by omega⟩, hM2, hp, hij1⟩⟩
    | exact fun w' hw' => ⟨I, [rdB b vall j1 us3 vi vl vo ua3, skR us3 (stk [] ++ [odI (lastN n3)]), ndR ua3 n3], hw'.sort (by repeat constructor), Ext.refl _ _, rfl, false, j1, us3, ua3, n3, _, rfl, rfl, hj1, fun _ => hsh, fun h => by cases h⟩
    | exact fun w' hw' => ⟨I, [rdB b vall j1 us3 vi vl vo ua3, skR us3 (stk K4 ++ preF f ++ [opI (opK f) (opP f) (opB f)] ++ [odI (lastN n3)]), ndR ua3 n3], hw'.sort (by repeat constructor), Ext.refl _ _, rfl, false, j1, us3, ua3, n3, _, rfl, rfl, hj1, fun _ => hfin, fun h => by cases h⟩
   have f2 := h2;try simp only [bl] at f2
   have hp0 : isT (tkAt L j1) 2 rpar = true := or2_f h2
   have hlt1 : j1 < L.length := by
     rcases Nat.lt_or_ge j1 L.length with hh | hh
     · exact hh
     · rw [tkAt_out hh] at hp0
       exact absurd hp0 (by decide)
   have hp : hdT (L.drop j1) 2 rpar = true := by rw [hdT_at, decide_eq_true hlt1, hp0]; rfl
   have hsh := run_shut hK2 hM2 hp
   refine kS ?_;refine oV ?_;refine oC trivial rfl Tryz.call172 rfl (fold_any b j1 vall us2 vi vl vo ua2 0 n2 K2 hK2 hok2 (by omega) hn2) (by repeat constructor) ?_;rintro _ _ _ hx5 ⟨rfl, rfl, us3, ua3, n3, rfl, hc3, hok3, hn3, hb3⟩;refine oN (tC (cS (cS ?_)))
   have hK3 := foldK_ok (b := 0) (all := n2.map NodeV.c) hK2
   rw [← hc3] at hsh
   generalize (foldK 0 K2 (n2.map NodeV.c)).1 = K3 at hsh hK3 hb3 ⊢
   rcases K3 with _ | ⟨f, K4⟩
   ·
    refine cR ?_;refine oV ?_;refine oC trivial rfl Tryz.call197 rfl (top_low b j1 vall us3 vi vl vo ua3 (stk [] ++ [odI (lastN n3)]) (Nat.le_refl 1)) (by repeat constructor) ?_;rintro _ _ _ hx6 ⟨rfl, rfl, rfl⟩;iterate 3 refine oV ?_
    refine o_alloc trivial rfl Tryz.zeroValue204 rfl (fun b5 => ?_);refine oS Tryz.sizeOf204 ?_;refine oV ?_;refine nS ?_;iterate 2 refine oV ?_
    refine' o_or trivial trivial rfl rfl rfl rfl rfl rfl rfl rfl (fun hb39 => ?_) ?_;rotate_left
    ·
     have fb39 := hb39
     try simp only [bl] at fb39
     refine gF hb39 2 Tryz.underlying204 Tryz.sizeOf4 ?_;refine gL hb39 Tryz.isAgg4 ?_;refine gV hb39 ?_;refine oN ?_;exact joins rfl
    refine nT ?_;refine c_cond_t rfl (by rfl) ?_;refine sR ?_;refine oV ?_;refine oN (tC (cT (tR (blk_r (tR (blk_r ?_))))));refine ret1 rfl rfl ?_
    first
    | exact fun w' hw' => ⟨I, _, hw'.sort (by repeat constructor), Ext.refl _ _, rfl, false, j1, us1, ua1, n1, Kv, rfl, rfl, hj1, fun _ => hce, fun h => by cases h⟩
    | exact fun w' hw' => ⟨I, [rdB b vall j1 us2 vi vl vo ua2, skR us2 (stk K2 ++ [odI (lastN n2)]), ndR ua2 n2], hw'.sort (by repeat constructor), Ext.refl _ _, rfl, true, j1, us2, ua2, n2, _, rfl, rfl, hj1, fun h => (by cases h), fun _ => ⟨K2, ⟨rfl, hK2, hok2, hn2, by omega⟩, hM2, hp, hij1⟩⟩
    | exact fun w' hw' => ⟨I, [rdB b vall j1 us3 vi vl vo ua3, skR us3 (stk [] ++ [odI (lastN n3)]), ndR ua3 n3], hw'.sort (by repeat constructor), Ext.refl _ _, rfl, false, j1, us3, ua3, n3, _, rfl, rfl, hj1, fun _ => hsh, fun h => by cases h⟩
    | exact fun w' hw' => ⟨I, [rdB b vall j1 us3 vi vl vo ua3, skR us3 (stk K4 ++ preF f ++ [opI (opK f) (opP f) (opB f)] ++ [odI (lastN n3)]), ndR ua3 n3], hw'.sort (by repeat constructor), Ext.refl _ _, rfl, false, j1, us3, ua3, n3, _, rfl, rfl, hj1, fun _ => hfin, fun h => by cases h⟩
   rw [stk_top]
   have hst4 := stk_len K4
   have hpf := preF_len f
   simp only [List.length_cons] at hb3
   have hsl : (stk K4 ++ preF f).length ≤ 80000 := by rw [List.length_append]; omega
   have hsl2 : (stk K4 ++ preF f ++ [opI (opK f) (opP f) (opB f)]).length ≤ 80001 := by rw [List.length_append]; exact Nat.succ_le_succ hsl
   refine cR ?_;refine oV ?_;refine oC trivial rfl Tryz.call197 rfl (top_op b j1 vall us3 vi vl vo ua3 (odI (lastN n3)) (opK f) (opP f) (opB f) (stk K4 ++ preF f) (by omega)) (by repeat constructor) ?_;rintro _ _ _ hx6 ⟨rfl, rfl, rfl⟩;iterate 3 refine oV ?_
   refine o_alloc trivial rfl Tryz.zeroValue204 rfl (fun b5 => ?_);refine oS Tryz.sizeOf204 ?_;refine oV ?_;refine nS ?_;iterate 2 refine oV ?_
   refine' o_or trivial trivial rfl rfl rfl rfl rfl rfl rfl rfl (fun hb39 => ?_) ?_;rotate_left
   ·
    have fb39 := hb39
    try simp only [bl] at fb39
    refine gF hb39 2 Tryz.underlying204 Tryz.sizeOf4 ?_;refine gL hb39 Tryz.isAgg4 ?_;refine gV hb39 ?_;refine oN ?_;exact joins rfl
   refine nT ?_;refine cC rfl (fun h3 => ?_) (fun h3 => ?_)
   ·
    have f3 := h3;try simp only [bl] at f3
    have hbr : opB f = false := by simpa [bl] using h3
    have hfin : o = .bad (L.drop j1) := by
      cases f with
      | br => cases hbr
      | neg => exact hsh
      | bin k a => exact hsh
    refine sR ?_;refine oV ?_;refine oN (tC (cT (tR (blk_r (tR (blk_r ?_))))));refine ret1 rfl rfl ?_
    first
    | exact fun w' hw' => ⟨I, _, hw'.sort (by repeat constructor), Ext.refl _ _, rfl, false, j1, us1, ua1, n1, Kv, rfl, rfl, hj1, fun _ => hce, fun h => by cases h⟩
    | exact fun w' hw' => ⟨I, [rdB b vall j1 us2 vi vl vo ua2, skR us2 (stk K2 ++ [odI (lastN n2)]), ndR ua2 n2], hw'.sort (by repeat constructor), Ext.refl _ _, rfl, true, j1, us2, ua2, n2, _, rfl, rfl, hj1, fun h => (by cases h), fun _ => ⟨K2, ⟨rfl, hK2, hok2, hn2, by omega⟩, hM2, hp, hij1⟩⟩
    | exact fun w' hw' => ⟨I, [rdB b vall j1 us3 vi vl vo ua3, skR us3 (stk [] ++ [odI (lastN n3)]), ndR ua3 n3], hw'.sort (by repeat constructor), Ext.refl _ _, rfl, false, j1, us3, ua3, n3, _, rfl, rfl, hj1, fun _ => hsh, fun h => by cases h⟩
    | exact fun w' hw' => ⟨I, [rdB b vall j1 us3 vi vl vo ua3, skR us3 (stk K4 ++ preF f ++ [opI (opK f) (opP f) (opB f)] ++ [odI (lastN n3)]), ndR ua3 n3], hw'.sort (by repeat constructor), Ext.refl _ _, rfl, false, j1, us3, ua3, n3, _, rfl, rfl, hj1, fun _ => hfin, fun h => by cases h⟩
   have f3 := h3;try simp only [bl] at f3
   have hbr : opB f = true := by simpa [bl] using h3
   have hfb : f = .br := by
     cases f with
     | br => rfl
     | neg => cases hbr
     | bin k a => cases hbr
   subst hfb
   refine kS ?_;iterate 2 refine oV ?_
   refine oF 1 Tryz.underlying101 Tryz.sizeOf3 ?_;refine oL Tryz.isAgg3 ?_
   first | (refine o_add trivial rfl rfl rfl ?_ ?_; (omega)) | refine oV ?_
   refine oV ?_;refine oF 1 Tryz.underlying101 Tryz.sizeOf3 ?_;refine oS Tryz.sizeOf3 ?_;refine nS ?_;refine oV ?_;refine oC trivial rfl Tryz.call198 rfl (pop_any b (j1 + 1) vall us3 vi vl vo ua3 (odI (lastN n3)) (stk K4 ++ preF .br ++ [opI (opK .br) (opP .br) (opB .br)]) (by omega)) (by repeat constructor) ?_;rintro _ _ _ hx7 ⟨rfl, rfl, us4, rfl⟩;refine oV ?_;refine nS ?_;refine oV ?_;refine oC trivial rfl Tryz.call198 rfl (pop_any b (j1 + 1) vall us4 vi vl vo ua3 (opI (opK .br) (opP .br) (opB .br)) (stk K4 ++ preF .br) (by omega)) (by repeat constructor) ?_;rintro _ _ _ hx8 ⟨rfl, rfl, us5, rfl⟩;refine nR ?_;iterate 2 refine oV ?_
   refine oC trivial rfl Tryz.call173 rfl (push_any b (j1 + 1) vall us5 vi vl vo ua3 (.int .i64 (lastN n3)) 245 (stk K4 ++ preF .br) (by omega)) (by repeat constructor) ?_;rintro _ _ _ hx9 ⟨rfl, rfl, us6, rfl⟩;refine oN (blk_n ?_);exact again (j1 + 1, K4, n3, us6, ua3) (sC rfl sN) (fun _ h => by simp only [preF, List.append_nil] at h; exact h.sort (by repeat constructor)) (by first | (show L.length - (j1 + 1) < L.length - j; omega) | (show L.length - (j1 + 1) < L.length - j1; omega)) ⟨by show j1 + 1 ≤ _; omega, frOk_br hK3, hok3, hn3, by show n3.length + K4.length ≤ j1 + 1; omega, hsh, by show i ≤ j1 + 1; omega⟩
  have fb10 := hb10
  try simp only [bl] at fb10
  have hm : hdT (L.drop j) 2 caret = false := hb10
  rw [adv_false hm]
  have hM : RunM K1 true (n0.map NodeV.c) (L.drop j) o := run_nocaret hr hm
  obtain ⟨j1, rfl⟩ : ∃ j1, j1 = j := ⟨j, rfl⟩
  obtain ⟨us1, rfl⟩ : ∃ us1, us1 = us := ⟨us, rfl⟩
  obtain ⟨ua1, rfl⟩ : ∃ ua1, ua1 = ua := ⟨ua, rfl⟩
  obtain ⟨n1, rfl⟩ : ∃ n1, n1 = n0 := ⟨n0, rfl⟩
  have hok1 := hok0
  have hb1 := hb0
  have hn1 := hn0
  have hj1 := hj
  have hij1 : i ≤ j1 := hij
  iterate 3 refine o_skip (skips_some rfl rfl rfl) rfl ?_
  refine oV ?_;refine nT ?_;refine c_cond_f rfl rfl ?_;refine kS ?_;refine oV ?_;refine oC trivial rfl Tryz.call172 rfl (fold_any b j1 vall us1 vi vl vo ua1 3 n1 K1 hK1 hok1 (by omega) hn1) (by repeat constructor) ?_;rintro _ _ _ hx3 ⟨rfl, rfl, us2, ua2, n2, rfl, hc2, hok2, hn2, hb2⟩;refine oN (tC (cS ?_))
  have hM2 := RunM.fold (b := 3) (.inl rfl) hK1 hM
  have hK2 := foldK_ok (b := 3) (all := n1.map NodeV.c) hK1
  rw [← hc2] at hM2
  generalize (foldK 3 K1 (n1.map NodeV.c)).1 = K2 at hM2 hK2 hb2 ⊢
  refine cR ?_;refine oV ?_;refine oC trivial rfl Tryz.call59 rfl (rdNext_any b j1 vall us2 vi vl vo ua2 L hL) (by repeat constructor) ?_;rintro _ _ _ hx4 ⟨rfl, rfl, rfl⟩;iterate 3 refine oV ?_
  refine o_alloc trivial rfl Tryz.zeroValue103 rfl (fun b3 => ?_);refine oS Tryz.sizeOf103 ?_;refine oV ?_;refine nU ?_;refine oF 0 Tryz.underlying103 Tryz.sizeOf3 ?_;refine oL Tryz.isAgg3 ?_;refine oV ?_;refine' o_or trivial trivial rfl rfl rfl rfl rfl rfl rfl rfl (fun hb25 => ?_) ?_;rotate_left
  ·
   have fb25 := hb25
   try simp only [bl] at fb25
   refine gF hb25 1 Tryz.underlying103 Tryz.sizeOf9 ?_;refine gL hb25 Tryz.isAgg9 ?_;refine gV hb25 ?_;refine oN ?_;exact joins rfl
  refine nT ?_;refine cC rfl (fun h2 => ?_) (fun h2 => ?_)
  ·
   have f2 := h2;try simp only [bl] at f2
   have hp : hdT (L.drop j1) 2 rpar = false := by
     rw [hdT_at]
     unfold isT
     rw [Bool.and_eq_false_iff]
     right
     exact or2_t h2
   refine sR ?_;refine oV ?_;refine oN (tC (cT (tR (blk_r (tR (blk_r ?_))))));refine ret1 rfl rfl ?_
   first
   | exact fun w' hw' => ⟨I, _, hw'.sort (by repeat constructor), Ext.refl _ _, rfl, false, j1, us1, ua1, n1, Kv, rfl, rfl, hj1, fun _ => hce, fun h => by cases h⟩
   | exact fun w' hw' => ⟨I, [rdB b vall j1 us2 vi vl vo ua2, skR us2 (stk K2 ++ [odI (lastN n2)]), ndR ua2 n2], hw'.sort (by repeat constructor), Ext.refl _ _, rfl, true, j1, us2, ua2, n2, _, rfl, rfl, hj1, fun h => (by cases h), fun _ => ⟨K2, ⟨rfl, hK2, hok2, hn2, by omega⟩, hM2, hp, hij1⟩⟩
   | exact fun w' hw' => ⟨I, [rdB b vall j1 us3 vi vl vo ua3, skR us3 (stk [] ++ [odI (lastN n3)]), ndR ua3 n3], hw'.sort (by repeat constructor), Ext.refl _ _, rfl, false, j1, us3, ua3, n3, _, rfl, rfl, hj1, fun _ => hsh, fun h => by cases h⟩
   | exact fun w' hw' => ⟨I, [rdB b vall j1 us3 vi vl vo ua3, skR us3 (stk K4 ++ preF f ++ [opI (opK f) (opP f) (opB f)] ++ [odI (lastN n3)]), ndR ua3 n3], hw'.sort (by repeat constructor), Ext.refl _ _, rfl, false, j1, us3, ua3, n3, _, rfl, rfl, hj1, fun _ => hfin, fun h => by cases h⟩
  have f2 := h2;try simp only [bl] at f2
  have hp0 : isT (tkAt L j1) 2 rpar = true := or2_f h2
  have hlt1 : j1 < L.length := by
    rcases Nat.lt_or_ge j1 L.length with hh | hh
    · exact hh
    · rw [tkAt_out hh] at hp0
      exact absurd hp0 (by decide)
  have hp : hdT (L.drop j1) 2 rpar = true := by rw [hdT_at, decide_eq_true hlt1, hp0]; rfl
  have hsh := run_shut hK2 hM2 hp
  refine kS ?_;refine oV ?_;refine oC trivial rfl Tryz.call172 rfl (fold_any b j1 vall us2 vi vl vo ua2 0 n2 K2 hK2 hok2 (by omega) hn2) (by repeat constructor) ?_;rintro _ _ _ hx5 ⟨rfl, rfl, us3, ua3, n3, rfl, hc3, hok3, hn3, hb3⟩;refine oN (tC (cS (cS ?_)))
  have hK3 := foldK_ok (b := 0) (all := n2.map NodeV.c) hK2
  rw [← hc3] at hsh
  generalize (foldK 0 K2 (n2.map NodeV.c)).1 = K3 at hsh hK3 hb3 ⊢
  rcases K3 with _ | ⟨f, K4⟩
  ·
   refine cR ?_;refine oV ?_;refine oC trivial rfl Tryz.call197 rfl (top_low b j1 vall us3 vi vl vo ua3 (stk [] ++ [odI (lastN n3)]) (Nat.le_refl 1)) (by repeat constructor) ?_;rintro _ _ _ hx6 ⟨rfl, rfl, rfl⟩;iterate 3 refine oV ?_
   refine o_alloc trivial rfl Tryz.zeroValue204 rfl (fun b5 => ?_);refine oS Tryz.sizeOf204 ?_;refine oV ?_;refine nS ?_;iterate 2 refine oV ?_
   refine' o_or trivial trivial rfl rfl rfl rfl rfl rfl rfl rfl (fun hb39 => ?_) ?_;rotate_left
   ·
    have fb39 := hb39
    try simp only [bl] at fb39
    refine gF hb39 2 Tryz.underlying204 Tryz.sizeOf4 ?_;refine gL hb39 Tryz.isAgg4 ?_;refine gV hb39 ?_;refine oN ?_;exact joins rfl
   refine nT ?_;refine c_cond_t rfl (by rfl) ?_;refine sR ?_;refine oV ?_;refine oN (tC (cT (tR (blk_r (tR (blk_r ?_))))));refine ret1 rfl rfl ?_
   first
   | exact fun w' hw' => ⟨I, _, hw'.sort (by repeat constructor), Ext.refl _ _, rfl, false, j1, us1, ua1, n1, Kv, rfl, rfl, hj1, fun _ => hce, fun h => by cases h⟩
   | exact fun w' hw' => ⟨I, [rdB b vall j1 us2 vi vl vo ua2, skR us2 (stk K2 ++ [odI (lastN n2)]), ndR ua2 n2], hw'.sort (by repeat constructor), Ext.refl _ _, rfl, true, j1, us2, ua2, n2, _, rfl, rfl, hj1, fun h => (by cases h), fun _ => ⟨K2, ⟨rfl, hK2, hok2, hn2, by omega⟩, hM2, hp, hij1⟩⟩
   | exact fun w' hw' => ⟨I, [rdB b vall j1 us3 vi vl vo ua3, skR us3 (stk [] ++ [odI (lastN n3)]), ndR ua3 n3], hw'.sort (by repeat constructor), Ext.refl _ _, rfl, false, j1, us3, ua3, n3, _, rfl, rfl, hj1, fun _ => hsh, fun h => by cases h⟩
   | exact fun w' hw' => ⟨I, [rdB b vall j1 us3 vi vl vo ua3, skR us3 (stk K4 ++ preF f ++ [opI (opK f) (opP f) (opB f)] ++ [odI (lastN n3)]), ndR ua3 n3], hw'.sort (by repeat constructor), Ext.refl _ _, rfl, false, j1, us3, ua3, n3, _, rfl, rfl, hj1, fun _ => hfin, fun h => by cases h⟩
  rw [stk_top]
  have hst4 := stk_len K4
  have hpf := preF_len f
  simp only [List.length_cons] at hb3
  have hsl : (stk K4 ++ preF f).length ≤ 80000 := by rw [List.length_append]; omega
  have hsl2 : (stk K4 ++ preF f ++ [opI (opK f) (opP f) (opB f)]).length ≤ 80001 := by rw [List.length_append]; exact Nat.succ_le_succ hsl
  refine cR ?_;refine oV ?_;refine oC trivial rfl Tryz.call197 rfl (top_op b j1 vall us3 vi vl vo ua3 (odI (lastN n3)) (opK f) (opP f) (opB f) (stk K4 ++ preF f) (by omega)) (by repeat constructor) ?_;rintro _ _ _ hx6 ⟨rfl, rfl, rfl⟩;iterate 3 refine oV ?_
  refine o_alloc trivial rfl Tryz.zeroValue204 rfl (fun b5 => ?_);refine oS Tryz.sizeOf204 ?_;refine oV ?_;refine nS ?_;iterate 2 refine oV ?_
  refine' o_or trivial trivial rfl rfl rfl rfl rfl rfl rfl rfl (fun hb39 => ?_) ?_;rotate_left
  ·
   have fb39 := hb39
   try simp only [bl] at fb39
   refine gF hb39 2 Tryz.underlying204 Tryz.sizeOf4 ?_;refine gL hb39 Tryz.isAgg4 ?_;refine gV hb39 ?_;refine oN ?_;exact joins rfl
  refine nT ?_;refine cC rfl (fun h3 => ?_) (fun h3 => ?_)
  ·
   have f3 := h3;try simp only [bl] at f3
   have hbr : opB f = false := by simpa [bl] using h3
   have hfin : o = .bad (L.drop j1) := by
     cases f with
     | br => cases hbr
     | neg => exact hsh
     | bin k a => exact hsh
   refine sR ?_;refine oV ?_;refine oN (tC (cT (tR (blk_r (tR (blk_r ?_))))));refine ret1 rfl rfl ?_
   first
   | exact fun w' hw' => ⟨I, _, hw'.sort (by repeat constructor), Ext.refl _ _, rfl, false, j1, us1, ua1, n1, Kv, rfl, rfl, hj1, fun _ => hce, fun h => by cases h⟩
   | exact fun w' hw' => ⟨I, [rdB b vall j1 us2 vi vl vo ua2, skR us2 (stk K2 ++ [odI (lastN n2)]), ndR ua2 n2], hw'.sort (by repeat constructor), Ext.refl _ _, rfl, true, j1, us2, ua2, n2, _, rfl, rfl, hj1, fun h => (by cases h), fun _ => ⟨K2, ⟨rfl, hK2, hok2, hn2, by omega⟩, hM2, hp, hij1⟩⟩
   | exact fun w' hw' => ⟨I, [rdB b vall j1 us3 vi vl vo ua3, skR us3 (stk [] ++ [odI (lastN n3)]), ndR ua3 n3], hw'.sort (by repeat constructor), Ext.refl _ _, rfl, false, j1, us3, ua3, n3, _, rfl, rfl, hj1, fun _ => hsh, fun h => by cases h⟩
   | exact fun w' hw' => ⟨I, [rdB b vall j1 us3 vi vl vo ua3, skR us3 (stk K4 ++ preF f ++ [opI (opK f) (opP f) (opB f)] ++ [odI (lastN n3)]), ndR ua3 n3], hw'.sort (by repeat constructor), Ext.refl _ _, rfl, false, j1, us3, ua3, n3, _, rfl, rfl, hj1, fun _ => hfin, fun h => by cases h⟩
  have f3 := h3;try simp only [bl] at f3
  have hbr : opB f = true := by simpa [bl] using h3
  have hfb : f = .br := by
    cases f with
    | br => rfl
    | neg => cases hbr
    | bin k a => cases hbr
  subst hfb
  refine kS ?_;iterate 2 refine oV ?_
  refine oF 1 Tryz.underlying101 Tryz.sizeOf3 ?_;refine oL Tryz.isAgg3 ?_
  first | (refine o_add trivial rfl rfl rfl ?_ ?_; (omega)) | refine oV ?_
  refine oV ?_;refine oF 1 Tryz.underlying101 Tryz.sizeOf3 ?_;refine oS Tryz.sizeOf3 ?_;refine nS ?_;refine oV ?_;refine oC trivial rfl Tryz.call198 rfl (pop_any b (j1 + 1) vall us3 vi vl vo ua3 (odI (lastN n3)) (stk K4 ++ preF .br ++ [opI (opK .br) (opP .br) (opB .br)]) (by omega)) (by repeat constructor) ?_;rintro _ _ _ hx7 ⟨rfl, rfl, us4, rfl⟩;refine oV ?_;refine nS ?_;refine oV ?_;refine oC trivial rfl Tryz.call198 rfl (pop_any b (j1 + 1) vall us4 vi vl vo ua3 (opI (opK .br) (opP .br) (opB .br)) (stk K4 ++ preF .br) (by omega)) (by repeat constructor) ?_;rintro _ _ _ hx8 ⟨rfl, rfl, us5, rfl⟩;refine nR ?_;iterate 2 refine oV ?_
  refine oC trivial rfl Tryz.call173 rfl (push_any b (j1 + 1) vall us5 vi vl vo ua3 (.int .i64 (lastN n3)) 245 (stk K4 ++ preF .br) (by omega)) (by repeat constructor) ?_;rintro _ _ _ hx9 ⟨rfl, rfl, us6, rfl⟩;refine oN (blk_n ?_);exact again (j1 + 1, K4, n3, us6, ua3) (sC rfl sN) (fun _ h => by simp only [preF, List.append_nil] at h; exact h.sort (by repeat constructor)) (by first | (show L.length - (j1 + 1) < L.length - j; omega) | (show L.length - (j1 + 1) < L.length - j1; omega)) ⟨by show j1 + 1 ≤ _; omega, frOk_br hK3, hok3, hn3, by show n3.length + K4.length ≤ j1 + 1; omega, hsh, by show i ≤ j1 + 1; omega⟩
def signK (s : ByteArray) : Int := if s.toList == plusS.toList then 2 else if s.toList == minusS.toList then 3 else if s.toList == starS.toList then 4 else if s.toList == slashS.toList then 5 else 0
theorem sign_none {x : Tok} (h : x.kind ≠ 2 ∨ signK x.text = 0) : mulK x = none ∧ addK x = none := by
  unfold mulK addK isT
  rcases h with h | h
  · have e : (x.kind == 2) = false := by simpa using h
    rw [e]
    exact ⟨rfl, rfl⟩
  · unfold signK at h
    split at h
    · omega
    · rename_i h1
      split at h
      · omega
      · rename_i h2
        split at h
        · omega
        · rename_i h3
          split at h
          · omega
          · rename_i h4
            rw [Bool.not_eq_true] at h1 h2 h3 h4
            rw [h1, h2, h3, h4, Bool.and_false]
            exact ⟨rfl, rfl⟩
theorem sign_some {x : Tok} (hk : x.kind = 2) (h : signK x.text ≠ 0) : (mulK x = some (signK x.text) ∧ bindK (signK x.text) = 2) ∨ (addK x = some (signK x.text) ∧ bindK (signK x.text) = 1) := by
  have e : (x.kind == 2) = true := by simpa using hk
  have hsk : ∀ {a b : ByteArray}, a.toList ≠ b.toList → (x.text.toList == a.toList) = true → (x.text.toList == b.toList) = false := fun {a b} hab h1 => by
    rw [beq_iff_eq] at h1
    rw [beq_eq_false_iff_ne, h1]
    exact hab
  have d1 : plusS.toList ≠ starS.toList := by rw [ByteArray.toList_eq, ByteArray.toList_eq]; decide
  have d2 : plusS.toList ≠ slashS.toList := by rw [ByteArray.toList_eq, ByteArray.toList_eq]; decide
  have d3 : minusS.toList ≠ starS.toList := by rw [ByteArray.toList_eq, ByteArray.toList_eq]; decide
  have d4 : minusS.toList ≠ slashS.toList := by rw [ByteArray.toList_eq, ByteArray.toList_eq]; decide
  unfold mulK addK isT
  rw [e]
  simp only [Bool.true_and]
  unfold signK at h ⊢
  by_cases h1 : (x.text.toList == plusS.toList) = true
  · right; rw [if_pos h1, if_pos h1]; exact ⟨rfl, by decide⟩
  · rw [if_neg h1] at h ⊢
    rw [if_neg h1]
    by_cases h2 : (x.text.toList == minusS.toList) = true
    · right; rw [if_pos h2, if_pos h2]; exact ⟨rfl, by decide⟩
    · rw [if_neg h2] at h ⊢
      by_cases h3 : (x.text.toList == starS.toList) = true
      · left; rw [if_pos h3, if_pos h3]; exact ⟨rfl, by decide⟩
      · rw [if_neg h3] at h ⊢
        rw [if_neg h3]
        by_cases h4 : (x.text.toList == slashS.toList) = true
        · left; rw [if_pos h4, if_pos h4]; exact ⟨rfl, by decide⟩
        · rw [if_neg h4] at h; exact absurd rfl h
theorem run_sign {L : List Tok} {K : List Fr} {all : List NodeC} {j : Nat} {o : POut} {k : Int} (hK : FrOk K) (h : RunM K true all (L.drop j) o) (hlt : j < L.length) (hkind : (tkAt L j).kind = 2) (hk : k = signK (tkAt L j).text) (h0 : k ≠ 0) :
    RunE (.bin k (lastI (foldK (bindK k) K all).2) :: (foldK (bindK k) K all).1) (foldK (bindK k) K all).2 (L.drop (j + 1)) o ∧ 2 ≤ k ∧ k ≤ 5 := by
  rw [drop_cons hlt] at h
  subst hk
  rcases sign_some hkind h0 with ⟨h1, h2⟩ | ⟨h1, h2⟩
  · rw [h2]; exact ⟨h.mul hK h1, mulK_le h1⟩
  · rw [h2]; exact ⟨h.add hK h1, addK_le h1⟩
theorem run_none {L : List Tok} {j : Nat} (h : ¬ (j < L.length ∧ (tkAt L j).kind = 2 ∧ signK (tkAt L j).text ≠ 0)) : hdK mulK (L.drop j) = none ∧ hdK addK (L.drop j) = none := by
  by_cases hlt : j < L.length
  · rw [drop_cons hlt]
    refine sign_none ?_
    by_cases hk : (tkAt L j).kind = 2
    · right
      by_cases hs : signK (tkAt L j).text = 0
      · exact hs
      · exact absurd ⟨hlt, hk, hs⟩ h
    · exact .inl hk
  · rw [List.drop_eq_nil_of_le (by omega)]
    exact ⟨rfl, rfl⟩
theorem stk_nil {K : List Fr} (h : (stk K).length = 0) : K = [] := by
  cases K with
  | nil => rfl
  | cons f K => cases f <;> simp [stk, encF] at h
theorem rdSum_any (b i : Nat) (vall vi vl vo va : Value) (ns : List NodeV) (L : List Tok) {I : Hp} (hM : Mx I) (hE : Errs I) (hL : Slc I 4 vall (L.map Tok.cells)) (hn : L.length ≤ 10000) (hs : TkSmall L) (hto : ToksOk L) (hok : ∀ o ∈ ns, o.ok I) (hb : ns.length ≤ i) (hi : i ≤ L.length) {o : POut} (h : RunE [] (ns.map NodeV.c) (L.drop i) o) :
    Fun Tryz.prog 141 [.pointer (some ⟨b, 0, none⟩)] I [rdB b vall i (.slice none 0 0) vi vl vo va, ndR va ns]
    (fun v I' B' => ∃ ok i' vs' va' ns', v = .bool ok ∧ B' = [rdB b vall i' vs' vi vl vo va', ndR va' ns'] ∧ i' ≤ L.length ∧ (ok = false → o = .bad (L.drop i')) ∧ (ok = true → o = .ok (ns'.map NodeV.c) (L.drop i') ∧ vs' = .slice none 0 0 ∧ (∀ o ∈ ns', o.ok I') ∧ ns'.length ≤ i' ∧ i < i')) := by
  intro w hw
  refine enter1 _ Tryz.func141 rfl Tryz.ntmps141 rfl ?_ hw;refine sR ?_;refine oV ?_;refine oN (tC (cS (cB ?_)));refine c_loop (ι := Nat × List Fr × List NodeV × Value × Value × Hp) [0] (.cons rfl .nil) (fun x => L.length - x.1) (fun x E0 => E0) (fun x => St w (keysOf [rdB b vall i (.slice none 0 0) vi vl vo va, ndR va ns]) x.2.2.2.2.2 [rdB b vall x.1 x.2.2.2.1 vi vl vo x.2.2.2.2.1, skR x.2.2.2.1 (stk x.2.1), ndR x.2.2.2.2.1 x.2.2.1]) (fun x => x.1 ≤ L.length ∧ FrOk x.2.1 ∧ (∀ o ∈ x.2.2.1, o.ok x.2.2.2.2.2) ∧ x.2.2.1.length + x.2.1.length ≤ x.1 ∧ RunE x.2.1 (x.2.2.1.map NodeV.c) (L.drop x.1) o ∧ Ext w.heap.size I x.2.2.2.2.2 ∧ i ≤ x.1) ((i, [], ns, .slice none 0 0, va, I)) (sC rfl sN) (fun _ h => (h.nilRow 20 1).sort (by repeat constructor)) (⟨hi, trivial, hok, hb, h, Ext.refl _ _, Nat.le_refl _⟩) ?_;rintro ⟨j, K1, n0, us, ua, I1⟩ ⟨hj, hK1, hok0, hb0, hr, hx1, hij⟩
  try dsimp only
  simp only at hj hK1 hok0 hb0 hr hx1 hij; have hst := stk_len K1
  refine cB (cS (sR ?_));refine oV ?_;refine oC trivial rfl Tryz.call169 rfl (rdOpen_any b j vall us vi vl vo ua n0 K1 L (hM.le hx1.le) (hL.le hx1.le) hn hs hto hK1 hok0 hb0 hj hr) (by repeat constructor) ?_;rintro _ I2 _ hx2 ⟨ok1, j1, us1, ua1, n1, Kv1, rfl, rfl, hj1, hno1, hyes1⟩;refine oV ?_;refine o_fork trivial rfl rfl (fun hb10 => ?_) (fun hb10 => ?_)
  ·
   have fb10 := hb10
   try simp only [bl] at fb10
   have hk1 : ok1 = false := by simpa using hb10
   iterate 3 refine o_skip (skips_some rfl rfl rfl) rfl ?_
   refine oV ?_;refine nT ?_;refine c_cond_t rfl rfl ?_;refine sR ?_;refine oV ?_;refine oN (tC (cT (tR (blk_r (tR (blk_r (tR ?_)))))));refine ret1 rfl rfl ?_
   first
   | exact fun w' hw' => ⟨I2, [rdB b vall (j2 + 1) (.slice none 0 0) vi vl vo ua3, ndR ua3 n3], hw'.sort (by repeat constructor), hx1.trans hx2 (Nat.le_refl _), true, j2 + 1, _, ua3, n3, rfl, rfl, hlt2, fun h => (by cases h), fun _ => ⟨hfin, rfl, hok3, by omega, by omega⟩⟩
   | exact fun w' hw' => ⟨I2, [rdB b vall j2 us3 vi vl vo ua3, ndR ua3 n3], hw'.sort (by repeat constructor), hx1.trans hx2 (Nat.le_refl _), false, j2, _, ua3, n3, rfl, rfl, hj2, fun _ => hfb, fun h => by cases h⟩
   | exact fun w' hw' => ⟨I2, [rdB b vall j2 us2 vi vl vo ua2, ndR ua2 n2], hw'.sort (by repeat constructor), hx1.trans hx2 (Nat.le_refl _), false, j2, _, ua2, n2, rfl, rfl, hj2, fun _ => hno2 hk2, fun h => by cases h⟩
   | exact fun w' hw' => ⟨I2, [rdB b vall j1 us1 vi vl vo ua1, ndR ua1 n1], hw'.sort (by repeat constructor), hx1.trans hx2 (Nat.le_refl _), false, j1, _, ua1, n1, rfl, rfl, hj1, fun _ => hno1 hk1, fun h => by cases h⟩
  have fb10 := hb10
  try simp only [bl] at fb10
  have hk1 : ok1 = true := by simpa using hb10
  obtain ⟨K2, hRd, hA, hlt1⟩ := hyes1 hk1
  obtain rfl := hRd.kv
  refine o_pv (wS rfl rfl rfl) rfl rfl ?_;refine oC (wS rfl rfl rfl) rfl Tryz.call170 rfl (rdShut_any b j1 vall us1 vi vl vo ua1 n1 K2 L (hE.le (hx1.le.trans hx2.le)) (hL.le (hx1.le.trans hx2.le)) hn hs hto hRd.fr hRd.ok hRd.pos hRd.few hj1 hA) (by repeat constructor) ?_;rintro _ _ _ hx3 ⟨rfl, ok2, j2, us2, ua2, n2, Kv2, rfl, rfl, hj2, hno2, hyes2⟩;refine o_pv (wS rfl rfl rfl) rfl rfl ?_;refine oV ?_;refine nT ?_;refine cC rfl (fun h1 => ?_) (fun h1 => ?_)
  ·
   have f1 := h1;try simp only [bl] at f1
   have hk2 : ok2 = false := by simpa using f1
   refine sR ?_;refine oV ?_;refine oN (tC (cT (tR (blk_r (tR (blk_r (tR ?_)))))));refine ret1 rfl rfl ?_
   first
   | exact fun w' hw' => ⟨I2, [rdB b vall (j2 + 1) (.slice none 0 0) vi vl vo ua3, ndR ua3 n3], hw'.sort (by repeat constructor), hx1.trans hx2 (Nat.le_refl _), true, j2 + 1, _, ua3, n3, rfl, rfl, hlt2, fun h => (by cases h), fun _ => ⟨hfin, rfl, hok3, by omega, by omega⟩⟩
   | exact fun w' hw' => ⟨I2, [rdB b vall j2 us3 vi vl vo ua3, ndR ua3 n3], hw'.sort (by repeat constructor), hx1.trans hx2 (Nat.le_refl _), false, j2, _, ua3, n3, rfl, rfl, hj2, fun _ => hfb, fun h => by cases h⟩
   | exact fun w' hw' => ⟨I2, [rdB b vall j2 us2 vi vl vo ua2, ndR ua2 n2], hw'.sort (by repeat constructor), hx1.trans hx2 (Nat.le_refl _), false, j2, _, ua2, n2, rfl, rfl, hj2, fun _ => hno2 hk2, fun h => by cases h⟩
   | exact fun w' hw' => ⟨I2, [rdB b vall j1 us1 vi vl vo ua1, ndR ua1 n1], hw'.sort (by repeat constructor), hx1.trans hx2 (Nat.le_refl _), false, j1, _, ua1, n1, rfl, rfl, hj1, fun _ => hno1 hk1, fun h => by cases h⟩
  have f1 := h1;try simp only [bl] at f1
  have hk2 : ok2 = true := by simpa using f1
  obtain ⟨K3, hRd3, hM3, hp3, hj12⟩ := hyes2 hk2
  obtain rfl := hRd3.kv
  have hf3 := hRd3.few
  have hp1 := hRd3.pos
  refine kS ?_;refine oV ?_;refine oC trivial rfl Tryz.call59 rfl (rdNext_any b j2 vall us2 vi vl vo ua2 L (hL.le (hx1.le.trans hx2.le))) (by repeat constructor) ?_;rintro _ _ _ hx4 ⟨rfl, rfl, rfl⟩;iterate 3 refine oV ?_
  refine o_alloc trivial rfl Tryz.zeroValue103 rfl (fun b3 => ?_);refine oS Tryz.sizeOf103 ?_;refine oV ?_;refine nS ?_;refine oF 1 Tryz.underlying103 Tryz.sizeOf9 ?_;refine oL Tryz.isAgg9 ?_;refine oI Tryz.call171 rfl (signs_any _) ?_;rintro _ _ hx5 ⟨rfl, k, rfl, hk⟩;iterate 3 refine oV ?_
  refine o_alloc trivial rfl Tryz.zeroValue204 rfl (fun b5 => ?_);refine oS Tryz.sizeOf204 ?_;refine oV ?_;refine nU ?_;iterate 2 refine oV ?_
  refine' o_or trivial trivial rfl rfl rfl rfl rfl rfl rfl rfl (fun hb28 => ?_) ?_;rotate_left
  ·
   have fb28 := hb28
   try simp only [bl] at fb28
   refine gF hb28 0 Tryz.underlying103 Tryz.sizeOf3 ?_;refine gL hb28 Tryz.isAgg3 ?_;refine gV hb28 ?_;refine oN ?_;exact joins rfl
  refine' o_or trivial trivial rfl rfl rfl rfl rfl rfl rfl rfl (fun hb33 => ?_) ?_;rotate_left
  ·
   have fb33 := hb33
   try simp only [bl] at fb33
   iterate 2 refine gV hb33 ?_
   refine oN ?_;exact joins rfl
  refine nT ?_;refine cC rfl (fun h2 => ?_) (fun h2 => ?_)
  ·
   have f2 := h2;try simp only [bl] at f2
   have hnm := run_none (L := L) (j := j2) (fun hh => by
     have h3 := or3_t h2
     rw [decide_eq_true hh.1, hh.2.1, decide_eq_true (show k ≠ 0 from by rw [hk]; exact hh.2.2)] at h3
     simp at h3)
   refine c_exit (then_x (blk_ne rfl (then_x (blk_eq rfl (tC (sR ?_))))));refine oV ?_;refine oC trivial rfl Tryz.call172 rfl (fold_any b j2 vall us2 vi vl vo ua2 0 n2 K3 hRd3.fr hRd3.ok (by omega) hp1) (by repeat constructor) ?_;rintro _ _ _ hx6 ⟨rfl, rfl, us3, ua3, n3, rfl, hc3, hok3, hn3, hb3⟩;refine oN (tC (cS (cS ?_)))
   have hfin := RunM.fin hRd3.fr hM3 hnm.1 hnm.2 hp3
   rw [← hc3] at hfin
   generalize (foldK 0 K3 (n2.map NodeV.c)).1 = K4 at hfin hb3 ⊢
   refine cR ?_;iterate 2 refine oV ?_
   refine oF 2 Tryz.underlying101 Tryz.sizeOf99 ?_;refine oL Tryz.isAgg99 ?_;refine o_lenRow trivial rfl Tryz.underlying99 rfl (by repeat constructor) ?_;refine oV ?_;refine o_fork trivial rfl rfl (fun hb60 => ?_) (fun hb60 => ?_)
   ·
    have fb60 := hb60
    try simp only [bl] at fb60
    have hlen : (stk K4 ++ [odI (lastN n3)]).length ≠ 1 := by
      intro e; rw [e] at hb60; cases hb60
    have hfb : o = .bad (L.drop j2) := by
      rw [if_neg (fun hh => hlen (by rw [hh.1]; rfl))] at hfin
      exact hfin
    iterate 3 refine o_skip (skips_some rfl rfl rfl) rfl ?_
    refine oV ?_;refine nT ?_;refine c_cond_t rfl rfl ?_;refine sR ?_;refine oV ?_;refine nF ?_;refine ret1 rfl rfl ?_
    first
    | exact fun w' hw' => ⟨I2, [rdB b vall (j2 + 1) (.slice none 0 0) vi vl vo ua3, ndR ua3 n3], hw'.sort (by repeat constructor), hx1.trans hx2 (Nat.le_refl _), true, j2 + 1, _, ua3, n3, rfl, rfl, hlt2, fun h => (by cases h), fun _ => ⟨hfin, rfl, hok3, by omega, by omega⟩⟩
    | exact fun w' hw' => ⟨I2, [rdB b vall j2 us3 vi vl vo ua3, ndR ua3 n3], hw'.sort (by repeat constructor), hx1.trans hx2 (Nat.le_refl _), false, j2, _, ua3, n3, rfl, rfl, hj2, fun _ => hfb, fun h => by cases h⟩
    | exact fun w' hw' => ⟨I2, [rdB b vall j2 us2 vi vl vo ua2, ndR ua2 n2], hw'.sort (by repeat constructor), hx1.trans hx2 (Nat.le_refl _), false, j2, _, ua2, n2, rfl, rfl, hj2, fun _ => hno2 hk2, fun h => by cases h⟩
    | exact fun w' hw' => ⟨I2, [rdB b vall j1 us1 vi vl vo ua1, ndR ua1 n1], hw'.sort (by repeat constructor), hx1.trans hx2 (Nat.le_refl _), false, j1, _, ua1, n1, rfl, rfl, hj1, fun _ => hno1 hk1, fun h => by cases h⟩
   have fb60 := hb60
   try simp only [bl] at fb60
   have hlen : (stk K4 ++ [odI (lastN n3)]).length = 1 := by
     have := fb60
     omega
   have hK0 : K4 = [] := stk_nil (by rw [List.length_append] at hlen; change (stk K4).length + 1 = 1 at hlen; omega)
   subst hK0
   refine o_pv (wS rfl rfl rfl) rfl rfl ?_;refine oC (wS rfl rfl rfl) rfl Tryz.call140 rfl (rdMark_any b j2 vall us3 vi vl vo ua3 semiS L (hL.le (hx1.le.trans hx2.le)) (by omega)) (by repeat constructor) ?_;rintro _ _ _ hx7 ⟨rfl, rfl, rfl⟩;refine o_pv (wS rfl rfl rfl) rfl rfl ?_;refine oV ?_;refine nT ?_;refine cC rfl (fun h3 => ?_) (fun h3 => ?_)
   ·
    have f3 := h3;try simp only [bl] at f3
    have hm : hdT (L.drop j2) 2 semiS = false := by simpa using f3
    rw [adv_false hm]
    have hfb : o = .bad (L.drop j2) := by
      rw [if_neg (fun hh => by rw [hm] at hh; cases hh.2)] at hfin
      exact hfin
    refine sR ?_;refine oV ?_;refine nF ?_;refine ret1 rfl rfl ?_
    first
    | exact fun w' hw' => ⟨I2, [rdB b vall (j2 + 1) (.slice none 0 0) vi vl vo ua3, ndR ua3 n3], hw'.sort (by repeat constructor), hx1.trans hx2 (Nat.le_refl _), true, j2 + 1, _, ua3, n3, rfl, rfl, hlt2, fun h => (by cases h), fun _ => ⟨hfin, rfl, hok3, by omega, by omega⟩⟩
    | exact fun w' hw' => ⟨I2, [rdB b vall j2 us3 vi vl vo ua3, ndR ua3 n3], hw'.sort (by repeat constructor), hx1.trans hx2 (Nat.le_refl _), false, j2, _, ua3, n3, rfl, rfl, hj2, fun _ => hfb, fun h => by cases h⟩
    | exact fun w' hw' => ⟨I2, [rdB b vall j2 us2 vi vl vo ua2, ndR ua2 n2], hw'.sort (by repeat constructor), hx1.trans hx2 (Nat.le_refl _), false, j2, _, ua2, n2, rfl, rfl, hj2, fun _ => hno2 hk2, fun h => by cases h⟩
    | exact fun w' hw' => ⟨I2, [rdB b vall j1 us1 vi vl vo ua1, ndR ua1 n1], hw'.sort (by repeat constructor), hx1.trans hx2 (Nat.le_refl _), false, j1, _, ua1, n1, rfl, rfl, hj1, fun _ => hno1 hk1, fun h => by cases h⟩
   have f3 := h3;try simp only [bl] at f3
   have hm : hdT (L.drop j2) 2 semiS = true := by simpa using f3
   rw [adv_true hm]
   have hlt2 := hdT_lt hm
   rw [if_pos ⟨rfl, hm⟩, List.drop_drop] at hfin
   refine kS ?_;iterate 2 refine oV ?_
   refine oF 2 Tryz.underlying101 Tryz.sizeOf99 ?_;refine oS Tryz.sizeOf99 ?_;refine nS ?_;refine oV ?_;refine nE ?_;refine ret1 rfl rfl ?_
   first
   | exact fun w' hw' => ⟨I2, [rdB b vall (j2 + 1) (.slice none 0 0) vi vl vo ua3, ndR ua3 n3], hw'.sort (by repeat constructor), hx1.trans hx2 (Nat.le_refl _), true, j2 + 1, _, ua3, n3, rfl, rfl, hlt2, fun h => (by cases h), fun _ => ⟨hfin, rfl, hok3, by omega, by omega⟩⟩
   | exact fun w' hw' => ⟨I2, [rdB b vall j2 us3 vi vl vo ua3, ndR ua3 n3], hw'.sort (by repeat constructor), hx1.trans hx2 (Nat.le_refl _), false, j2, _, ua3, n3, rfl, rfl, hj2, fun _ => hfb, fun h => by cases h⟩
   | exact fun w' hw' => ⟨I2, [rdB b vall j2 us2 vi vl vo ua2, ndR ua2 n2], hw'.sort (by repeat constructor), hx1.trans hx2 (Nat.le_refl _), false, j2, _, ua2, n2, rfl, rfl, hj2, fun _ => hno2 hk2, fun h => by cases h⟩
   | exact fun w' hw' => ⟨I2, [rdB b vall j1 us1 vi vl vo ua1, ndR ua1 n1], hw'.sort (by repeat constructor), hx1.trans hx2 (Nat.le_refl _), false, j1, _, ua1, n1, rfl, rfl, hj1, fun _ => hno1 hk1, fun h => by cases h⟩
  have f2 := h2;try simp only [bl] at f2
  have h3 := or3_f h2
  simp only [Bool.and_eq_true, decide_eq_true_eq, beq_iff_eq] at h3
  obtain ⟨h31, h32, h33⟩ := h3
  obtain ⟨hE4, hk25⟩ := run_sign hRd3.fr hM3 h31 h32 hk h33
  rw [if_neg h33]
  refine kS ?_;iterate 2 refine oV ?_
  refine oF 1 Tryz.underlying101 Tryz.sizeOf3 ?_;refine oL Tryz.isAgg3 ?_
  first | (refine o_add trivial rfl rfl rfl ?_ ?_; (omega)) | refine oV ?_
  refine oV ?_;refine oF 1 Tryz.underlying101 Tryz.sizeOf3 ?_;refine oS Tryz.sizeOf3 ?_;refine nS ?_;refine oV ?_;refine oF 1 Tryz.underlying204 Tryz.sizeOf3 ?_;refine oL Tryz.isAgg3 ?_;refine oC trivial rfl Tryz.call172 rfl (fold_any b (j2 + 1) vall us2 vi vl vo ua2 (bindK k) n2 K3 hRd3.fr hRd3.ok (by omega) hp1) (by repeat constructor) ?_;rintro _ _ _ hx6 ⟨rfl, rfl, us3, ua3, n3, rfl, hc3, hok3, hn3, hb3⟩;refine nT ?_
  have hK4 := foldK_ok (b := bindK k) (all := n2.map NodeV.c) hRd3.fr
  rw [← hc3] at hE4
  generalize (foldK (bindK k) K3 (n2.map NodeV.c)).1 = K4 at hE4 hK4 hb3 ⊢
  have hst4 := stk_len K4
  refine cR ?_;refine oV ?_;refine oA Tryz.isAgg204 Tryz.sizeOf204 ?_;refine o_ifaceS trivial rfl rfl (fun w => by kernel_rfl) ?_;refine oC trivial rfl Tryz.call173 rfl (push_any b (j2 + 1) vall us3 vi vl vo ua3 (opV k (bindK k) false) 204 (stk K4 ++ [odI (lastN n3)]) (by rw [List.length_append]; show (stk K4).length + 1 ≤ _; omega)) (by repeat constructor) ?_;rintro _ _ _ hx7 ⟨rfl, rfl, us4, rfl⟩;refine oN (blk_n ?_);exact again (j2 + 1, .bin k (lastN n3) :: K4, n3, us4, ua3, I2) (sC rfl sN) (fun _ h => by rw [List.append_assoc] at h; exact h.sort (by repeat constructor)) (by show L.length - (j2 + 1) < L.length - j; omega) ⟨by show j2 + 1 ≤ _; omega, ⟨hk25.1, hk25.2, hK4⟩, hok3, by show n3.length + (K4.length + 1) ≤ j2 + 1; omega, by rw [← lastN_eq] at hE4; exact hE4, hx1.trans hx2 (Nat.le_refl _), by show i ≤ j2 + 1; omega⟩
theorem run_start {all : List NodeC} {r : List Tok} {o q : POut} (h : Ps .sum all r q) (ho : q.then_ o fun a2 r2 => match r2 with
      | y :: r3 => if isT y 2 semiS then o = .ok a2 r3 else o = .bad r2
      | [] => o = .bad []) : RunE [] all r o := by
  cases h with
  | sum_bad h =>
    cases h with
    | product_bad h => exact ⟨_, h, ho⟩
    | product_ok h1 h2 => exact ⟨_, h1, _, h2, ho⟩
  | sum_ok h h3 =>
    cases h with
    | product_ok h1 h2 => exact ⟨_, h1, _, h2, _, h3, ho⟩
theorem let_run {L : List Tok} {all : List NodeC} {i : Nat} {o1 : LO} (h : Lt1 all (L.drop i) o1) (hN : hdN (L.drop i) = true) (hq : hdT (L.drop (i + 1)) 2 equalS = true) :
    ∃ o, RunE [] all (L.drop (i + 2)) o ∧ (∀ r, o = .bad r → o1 = .bad r) ∧ ∀ a r, o = .ok a r → o1 = .ok (tkAt L i).text a r := by
  have h1 := hdN_lt hN
  have h2 := hdT_lt hq
  rw [drop_cons h1, drop_cons h2] at h
  rw [drop_cons h1] at hN
  rw [drop_cons h2] at hq
  cases h with
  | noname h0 => simp only [hdN] at hN h0; rw [hN] at h0; cases h0
  | noeq _ h0 => rw [hq] at h0; cases h0
  | sumbad _ _ h3 => exact ⟨_, run_start h3 rfl, fun r hr => by cases hr; rfl, fun a r hr => by cases hr⟩
  | @nosemi a1 _ _ _ r1 _ _ h3 h4 =>
    refine ⟨.bad r1, run_start h3 ?_, fun r hr => by cases hr; rfl, fun a r hr => by cases hr⟩
    cases r1 with
    | nil => rfl
    | cons y r => show (if _ then _ else _); rw [if_neg (by simp only [hdT] at h4; rw [h4]; decide)]
  | ok _ _ h3 h4 =>
    refine ⟨.ok _ _, run_start h3 ?_, fun r hr => (by cases hr), fun a r hr => by cases hr; rfl⟩
    show (if _ then _ else _)
    rw [if_pos h4]
theorem let_noname {L : List Tok} {all : List NodeC} {i : Nat} {o1 : LO} (h : Lt1 all (L.drop i) o1) (hN : hdN (L.drop i) = false) : o1 = .bad (L.drop i) := by
  generalize L.drop i = r at h hN
  cases h with
  | noname _ => rfl
  | noeq h1 _ => simp only [hdN] at hN; rw [hN] at h1; cases h1
  | sumbad h1 _ _ => simp only [hdN] at hN; rw [hN] at h1; cases h1
  | nosemi h1 _ _ _ => simp only [hdN] at hN; rw [hN] at h1; cases h1
  | ok h1 _ _ _ => simp only [hdN] at hN; rw [hN] at h1; cases h1
theorem let_noeq {L : List Tok} {all : List NodeC} {i : Nat} {o1 : LO} (h : Lt1 all (L.drop i) o1) (hN : hdN (L.drop i) = true) (hq : hdT (L.drop (i + 1)) 2 equalS = false) : o1 = .bad (L.drop (i + 1)) := by
  have h1 := hdN_lt hN
  rw [drop_cons h1] at h hN
  generalize L.drop (i + 1) = r at h hN hq
  cases h with
  | noname h0 => rw [hN] at h0; cases h0
  | noeq _ _ => rfl
  | sumbad _ h0 _ => simp only [hdT] at hq; rw [hq] at h0; cases h0
  | nosemi _ h0 _ _ => simp only [hdT] at hq; rw [hq] at h0; cases h0
  | ok _ h0 _ _ => simp only [hdT] at hq; rw [hq] at h0; cases h0
theorem lts_more (ls : List LetC) (c : LetC) : ((ls ++ [c]).map LetC.cells).flatten = (ls.map LetC.cells).flatten ++ c.cells := by simp
theorem rdLet_any (b i : Nat) (vall vi vl vo va : Value) (ls : List LetC) (ns : List NodeV) (L : List Tok) {I : Hp} (hM : Mx I) (hE : Errs I) (hL : Slc I 4 vall (L.map Tok.cells)) (hn : L.length ≤ 10000) (hs : TkSmall L) (hto : ToksOk L) (hok : ∀ o ∈ ns, o.ok I) (hb : ns.length ≤ i) (hls : ls.length ≤ i) (hi : i ≤ L.length) {o : LO} (h : Lt1 (ns.map NodeV.c) (L.drop i) o) :
    Fun Tryz.prog 105 [.pointer (some ⟨b, 0, none⟩)] I [rdB b vall i (.slice none 0 0) vi vl vo va, ltR vl ls, ndR va ns]
    (fun v I' B' => ∃ ok i' vs' vl' va' ns' ls', v = .bool ok ∧ B' = [rdB b vall i' vs' vi vl' vo va', ltR vl' ls', ndR va' ns'] ∧ i' ≤ L.length ∧ (ok = false → o = .bad (L.drop i')) ∧ (ok = true → ∃ s, o = .ok s (ns'.map NodeV.c) (L.drop i') ∧ vs' = .slice none 0 0 ∧ (∀ o ∈ ns', o.ok I') ∧ ns'.length ≤ i' ∧ ls' = ls ++ [⟨s, lastN ns'⟩] ∧ i < i')) := by
  intro w hw
  refine enter1 _ Tryz.func105 rfl Tryz.ntmps105 rfl ?_ hw;refine sR ?_;refine oV ?_;refine nS ?_;refine oV ?_;refine oC trivial rfl Tryz.call139 rfl (rdName_any b i vall (.slice none 0 0) vi vl vo va L hL (by omega) hs) (by repeat constructor) ?_;rintro _ _ _ hx1 ⟨rfl, rfl, rfl⟩;iterate 5 refine oV ?_
  refine nU ?_;iterate 2 refine oV ?_
  refine o_fork trivial rfl rfl (fun hb12 => ?_) (fun hb12 => ?_)
  ·
   have fb12 := hb12
   try simp only [bl] at fb12
   have hN : hdN (L.drop i) = false := by simpa using hb12
   rw [adv_false hN]
   iterate 3 refine o_skip (skips_some rfl rfl rfl) rfl ?_
   iterate 2 refine oV ?_
   iterate 3 refine o_skip (skips_some rfl rfl rfl) rfl ?_
   refine oV ?_;refine nT ?_;refine c_cond_t rfl rfl ?_;refine sR ?_;refine oV ?_;refine nF ?_;refine ret1 rfl rfl ?_
   first
   | exact fun w' hw' => ⟨I2, [rdB b vall j (.slice none 0 0) vi v38 vo ua, ltR v38 (ls ++ [⟨(tkAt L i).text, lastN n2⟩]), ndR ua n2], (by unfold ltR; rw [lts_more, List.length_append]; exact hw'.sort (by repeat constructor)), hx3, true, j, _, v38, ua, n2, _, rfl, rfl, hj, fun h => (by cases h), fun _ => ⟨_, ho3 _ _ he, rfl, hok2, hb2, rfl, by omega⟩⟩
   | exact fun w' hw' => ⟨I2, [rdB b vall j us vi vl vo ua, ltR vl ls, ndR ua n2], hw'.sort (by repeat constructor), hx3, false, j, _, vl, ua, n2, ls, rfl, rfl, hj, fun _ => ho2 _ (hno hk), fun h => by cases h⟩
   | exact fun w' hw' => ⟨I, [rdB b vall (i + 1) (.slice none 0 0) vi vl vo va, ltR vl ls, ndR va ns], hw'.sort (by repeat constructor), Ext.refl _ _, false, i + 1, _, vl, va, ns, ls, rfl, rfl, hlt, fun _ => let_noeq h hN hq, fun h => by cases h⟩
   | exact fun w' hw' => ⟨I, [rdB b vall i (.slice none 0 0) vi vl vo va, ltR vl ls, ndR va ns], hw'.sort (by repeat constructor), Ext.refl _ _, false, i, _, vl, va, ns, ls, rfl, rfl, hi, fun _ => let_noname h hN, fun h => by cases h⟩
  have fb12 := hb12
  try simp only [bl] at fb12
  have hN : hdN (L.drop i) = true := by simpa using hb12
  rw [adv_true hN]
  have hlt := hdN_lt hN
  refine o_pv (wS rfl rfl rfl) rfl rfl ?_;refine oC (wS rfl rfl rfl) rfl Tryz.call140 rfl (rdMark_any b (i + 1) vall (.slice none 0 0) vi vl vo va equalS L hL (by omega)) (by repeat constructor) ?_;rintro _ _ _ hx2 ⟨rfl, rfl, rfl⟩;refine o_pv (wS rfl rfl rfl) rfl rfl ?_;refine oV ?_;refine o_fork trivial rfl rfl (fun hb17 => ?_) (fun hb17 => ?_)
  ·
   have fb17 := hb17
   try simp only [bl] at fb17
   have hq : hdT (L.drop (i + 1)) 2 equalS = false := by simpa using hb17
   rw [adv_false hq]
   iterate 3 refine o_skip (skips_some rfl rfl rfl) rfl ?_
   refine oV ?_;refine nT ?_;refine c_cond_t rfl rfl ?_;refine sR ?_;refine oV ?_;refine nF ?_;refine ret1 rfl rfl ?_
   first
   | exact fun w' hw' => ⟨I2, [rdB b vall j (.slice none 0 0) vi v38 vo ua, ltR v38 (ls ++ [⟨(tkAt L i).text, lastN n2⟩]), ndR ua n2], (by unfold ltR; rw [lts_more, List.length_append]; exact hw'.sort (by repeat constructor)), hx3, true, j, _, v38, ua, n2, _, rfl, rfl, hj, fun h => (by cases h), fun _ => ⟨_, ho3 _ _ he, rfl, hok2, hb2, rfl, by omega⟩⟩
   | exact fun w' hw' => ⟨I2, [rdB b vall j us vi vl vo ua, ltR vl ls, ndR ua n2], hw'.sort (by repeat constructor), hx3, false, j, _, vl, ua, n2, ls, rfl, rfl, hj, fun _ => ho2 _ (hno hk), fun h => by cases h⟩
   | exact fun w' hw' => ⟨I, [rdB b vall (i + 1) (.slice none 0 0) vi vl vo va, ltR vl ls, ndR va ns], hw'.sort (by repeat constructor), Ext.refl _ _, false, i + 1, _, vl, va, ns, ls, rfl, rfl, hlt, fun _ => let_noeq h hN hq, fun h => by cases h⟩
   | exact fun w' hw' => ⟨I, [rdB b vall i (.slice none 0 0) vi vl vo va, ltR vl ls, ndR va ns], hw'.sort (by repeat constructor), Ext.refl _ _, false, i, _, vl, va, ns, ls, rfl, rfl, hi, fun _ => let_noname h hN, fun h => by cases h⟩
  have fb17 := hb17
  try simp only [bl] at fb17
  have hq : hdT (L.drop (i + 1)) 2 equalS = true := by simpa using hb17
  rw [adv_true hq]
  have hlt2 := hdT_lt hq
  obtain ⟨o2, hr2, ho2, ho3⟩ := let_run h hN hq
  refine o_pv (wS rfl rfl rfl) rfl rfl ?_;refine oC (wS rfl rfl rfl) rfl Tryz.call141 rfl (rdSum_any b (i + 1 + 1) vall vi vl vo va ns L hM hE hL hn hs hto hok (by omega) (by omega) hr2) (by repeat constructor) ?_;rintro _ I2 _ hx3 ⟨ok2, j, us, ua, n2, rfl, rfl, hj, hno, hyes⟩;refine o_pv (wS rfl rfl rfl) rfl rfl ?_;refine oV ?_;refine nT ?_;refine cC rfl (fun h1 => ?_) (fun h1 => ?_)
  ·
   have f1 := h1;try simp only [bl] at f1
   have hk : ok2 = false := by simpa using f1
   refine sR ?_;refine oV ?_;refine nF ?_;refine ret1 rfl rfl ?_
   first
   | exact fun w' hw' => ⟨I2, [rdB b vall j (.slice none 0 0) vi v38 vo ua, ltR v38 (ls ++ [⟨(tkAt L i).text, lastN n2⟩]), ndR ua n2], (by unfold ltR; rw [lts_more, List.length_append]; exact hw'.sort (by repeat constructor)), hx3, true, j, _, v38, ua, n2, _, rfl, rfl, hj, fun h => (by cases h), fun _ => ⟨_, ho3 _ _ he, rfl, hok2, hb2, rfl, by omega⟩⟩
   | exact fun w' hw' => ⟨I2, [rdB b vall j us vi vl vo ua, ltR vl ls, ndR ua n2], hw'.sort (by repeat constructor), hx3, false, j, _, vl, ua, n2, ls, rfl, rfl, hj, fun _ => ho2 _ (hno hk), fun h => by cases h⟩
   | exact fun w' hw' => ⟨I, [rdB b vall (i + 1) (.slice none 0 0) vi vl vo va, ltR vl ls, ndR va ns], hw'.sort (by repeat constructor), Ext.refl _ _, false, i + 1, _, vl, va, ns, ls, rfl, rfl, hlt, fun _ => let_noeq h hN hq, fun h => by cases h⟩
   | exact fun w' hw' => ⟨I, [rdB b vall i (.slice none 0 0) vi vl vo va, ltR vl ls, ndR va ns], hw'.sort (by repeat constructor), Ext.refl _ _, false, i, _, vl, va, ns, ls, rfl, rfl, hi, fun _ => let_noname h hN, fun h => by cases h⟩
  have f1 := h1;try simp only [bl] at f1
  have hk : ok2 = true := by simpa using f1
  obtain ⟨he, rfl, hok2, hb2, hlt3⟩ := hyes hk
  rw [if_pos hN]
  refine cK (tC (cS ?_));refine h_beginB (m := 21) [ndR ua n2] (by repeat constructor) (by kernel_rfl) rfl ?_;refine qT (i := 0) (qB 21 1) (Hp.Le.refl _) rfl rfl (oV qF) ?_;refine qT (i := 1) (qB 21 3) (Hp.Le.refl _) rfl rfl (oV qF) ?_;refine qT (i := 2) (qB 21 7) (Hp.Le.refl _) rfl rfl (oV qF) ?_;refine qT (i := 3) (qB 21 15) (Hp.Le.refl _) rfl rfl (oF 3 Tryz.underlying101 Tryz.sizeOf26 qF) ?_;refine qT (i := 4) (qB 21 31) (Hp.Le.refl _) rfl rfl (oF 1 Tryz.underlying26 Tryz.sizeOf23 qF) ?_;refine qT (i := 6) (qB 21 95) (Hp.Le.refl _) rfl rfl (oV qF) ?_;refine qT (i := 7) (qB 21 223) (Hp.Le.refl _) rfl rfl (oV qF) ?_;refine qT (i := 8) (qB 21 479) (Hp.Le.refl _) rfl rfl (oV qF) ?_;refine qT (i := 9) (qB 21 991) (Hp.Le.refl _) rfl rfl (oF 3 Tryz.underlying101 Tryz.sizeOf26 qF) ?_;refine qT (i := 10) (qB 21 2015) (Hp.Le.refl _) rfl rfl (oF 3 Tryz.underlying26 Tryz.sizeOf24 qF) ?_;refine h_go [5, 11] (by kernel_rfl) rfl (TWHs.cons ?_ (TWHs.cons ?_ TWHs.nil))
  ·
   refine qP (qB 21 2047) rfl ?_;refine oL Tryz.isAgg23 ?_;refine qM (Hp.Le.refl _) ?_;refine qO (i := 11) (qB 21 4095) rfl ?_;refine oL Tryz.isAgg24 ?_;refine qM (Hp.Le.refl _) ?_;refine qT (i := 12) (qB 21 8191) (Hp.Le.refl _) rfl rfl (o_lenRow trivial rfl Tryz.underlying24 rfl (by repeat constructor) qF) ?_;refine' qT (i := 13) (qB 21 16383) (Hp.Le.refl _) rfl rfl ?hh0 ?kk0
   case hh0 =>
    first | (refine o_sub trivial rfl rfl rfl ?_ ?_; (omega)) | refine oV ?_
    exact qF
   refine qT (i := 14) (qB 21 32767) (Hp.Le.refl _) rfl rfl (o_buildS trivial rfl (bld39) rfl (.cons rfl rfl rfl (by repeat constructor) (.cons rfl rfl rfl (by repeat constructor) .nil)) qF) ?_;refine qO (i := 15) (qB 21 65535) rfl ?_;refine oB Tryz.underlying23 Tryz.sizeOf39 Tryz.zeroValue39 fun b37 => ?_;refine qM (Hp.Le.refl _) ?_;refine qO (i := 16) (qB 21 131071) rfl ?_;refine oD Tryz.underlying23 elem39 fun v38 => ?_;refine qM (Hp.Le.refl _) ?_;refine qT (i := 17) (qB 21 262143) (Hp.Le.refl _) rfl rfl (oV qF) ?_;refine qT (i := 18) (qB 21 524287) (Hp.Le.refl _) rfl rfl (oF 3 Tryz.underlying101 Tryz.sizeOf26 qF) ?_;refine qT (i := 19) (qB 21 1048575) (Hp.Le.refl _) rfl rfl (oF 1 Tryz.underlying26 Tryz.sizeOf23 qF) ?_;refine qO (i := 20) (qB 21 2097151) rfl ?_;refine l_rowCells (u := v38) (by repeat constructor) (fun hcv => ?_);refine o_storeBox1 trivial rfl rfl (hcv).1 Tryz.sizeOf23 (hcv).2 (by repeat constructor) (by exact Nat.le_of_ble_eq_true rfl) ?_;refine qM (Hp.Le.refl _) ?_;refine h_end (by kernel_rfl) ?_;refine tC (sR ?_);refine oV ?_;refine nE ?_;refine ret1 rfl rfl ?_
   first
   | exact fun w' hw' => ⟨I2, [rdB b vall j (.slice none 0 0) vi v38 vo ua, ltR v38 (ls ++ [⟨(tkAt L i).text, lastN n2⟩]), ndR ua n2], (by unfold ltR; rw [lts_more, List.length_append]; exact hw'.sort (by repeat constructor)), hx3, true, j, _, v38, ua, n2, _, rfl, rfl, hj, fun h => (by cases h), fun _ => ⟨_, ho3 _ _ he, rfl, hok2, hb2, rfl, by omega⟩⟩
   | exact fun w' hw' => ⟨I2, [rdB b vall j us vi vl vo ua, ltR vl ls, ndR ua n2], hw'.sort (by repeat constructor), hx3, false, j, _, vl, ua, n2, ls, rfl, rfl, hj, fun _ => ho2 _ (hno hk), fun h => by cases h⟩
   | exact fun w' hw' => ⟨I, [rdB b vall (i + 1) (.slice none 0 0) vi vl vo va, ltR vl ls, ndR va ns], hw'.sort (by repeat constructor), Ext.refl _ _, false, i + 1, _, vl, va, ns, ls, rfl, rfl, hlt, fun _ => let_noeq h hN hq, fun h => by cases h⟩
   | exact fun w' hw' => ⟨I, [rdB b vall i (.slice none 0 0) vi vl vo va, ltR vl ls, ndR va ns], hw'.sort (by repeat constructor), Ext.refl _ _, false, i, _, vl, va, ns, ls, rfl, rfl, hi, fun _ => let_noname h hN, fun h => by cases h⟩
  refine qP (qB 21 4063) rfl ?_;refine oL Tryz.isAgg24 ?_;refine qM (Hp.Le.refl _) ?_;refine qT (i := 12) (qB 21 8159) (Hp.Le.refl _) rfl rfl (o_lenRow trivial rfl Tryz.underlying24 rfl (by repeat constructor) qF) ?_;refine' qT (i := 13) (qB 21 16351) (Hp.Le.refl _) rfl rfl ?hh1 ?kk1
  case hh1 =>
   first | (refine o_sub trivial rfl rfl rfl ?_ ?_; (omega)) | refine oV ?_
   exact qF
  refine qT (i := 14) (qB 21 32735) (Hp.Le.refl _) rfl rfl (o_buildS trivial rfl (bld39) rfl (.cons rfl rfl rfl (by repeat constructor) (.cons rfl rfl rfl (by repeat constructor) .nil)) qF) ?_;refine h_go [5, 15] (by kernel_rfl) rfl (TWHs.cons ?_ (TWHs.cons ?_ TWHs.nil))
  ·
   refine qP (qB 21 32767) rfl ?_;refine oL Tryz.isAgg23 ?_;refine qM (Hp.Le.refl _) ?_;refine qO (i := 15) (qB 21 65535) rfl ?_;refine oB Tryz.underlying23 Tryz.sizeOf39 Tryz.zeroValue39 fun b37 => ?_;refine qM (Hp.Le.refl _) ?_;refine qO (i := 16) (qB 21 131071) rfl ?_;refine oD Tryz.underlying23 elem39 fun v38 => ?_;refine qM (Hp.Le.refl _) ?_;refine qT (i := 17) (qB 21 262143) (Hp.Le.refl _) rfl rfl (oV qF) ?_;refine qT (i := 18) (qB 21 524287) (Hp.Le.refl _) rfl rfl (oF 3 Tryz.underlying101 Tryz.sizeOf26 qF) ?_;refine qT (i := 19) (qB 21 1048575) (Hp.Le.refl _) rfl rfl (oF 1 Tryz.underlying26 Tryz.sizeOf23 qF) ?_;refine qO (i := 20) (qB 21 2097151) rfl ?_;refine l_rowCells (u := v38) (by repeat constructor) (fun hcv => ?_);refine o_storeBox1 trivial rfl rfl (hcv).1 Tryz.sizeOf23 (hcv).2 (by repeat constructor) (by exact Nat.le_of_ble_eq_true rfl) ?_;refine qM (Hp.Le.refl _) ?_;refine h_end (by kernel_rfl) ?_;refine tC (sR ?_);refine oV ?_;refine nE ?_;refine ret1 rfl rfl ?_
   first
   | exact fun w' hw' => ⟨I2, [rdB b vall j (.slice none 0 0) vi v38 vo ua, ltR v38 (ls ++ [⟨(tkAt L i).text, lastN n2⟩]), ndR ua n2], (by unfold ltR; rw [lts_more, List.length_append]; exact hw'.sort (by repeat constructor)), hx3, true, j, _, v38, ua, n2, _, rfl, rfl, hj, fun h => (by cases h), fun _ => ⟨_, ho3 _ _ he, rfl, hok2, hb2, rfl, by omega⟩⟩
   | exact fun w' hw' => ⟨I2, [rdB b vall j us vi vl vo ua, ltR vl ls, ndR ua n2], hw'.sort (by repeat constructor), hx3, false, j, _, vl, ua, n2, ls, rfl, rfl, hj, fun _ => ho2 _ (hno hk), fun h => by cases h⟩
   | exact fun w' hw' => ⟨I, [rdB b vall (i + 1) (.slice none 0 0) vi vl vo va, ltR vl ls, ndR va ns], hw'.sort (by repeat constructor), Ext.refl _ _, false, i + 1, _, vl, va, ns, ls, rfl, rfl, hlt, fun _ => let_noeq h hN hq, fun h => by cases h⟩
   | exact fun w' hw' => ⟨I, [rdB b vall i (.slice none 0 0) vi vl vo va, ltR vl ls, ndR va ns], hw'.sort (by repeat constructor), Ext.refl _ _, false, i, _, vl, va, ns, ls, rfl, rfl, hi, fun _ => let_noname h hN, fun h => by cases h⟩
  refine qP (qB 21 65503) rfl ?_;refine oB Tryz.underlying23 Tryz.sizeOf39 Tryz.zeroValue39 fun b37 => ?_;refine qM (Hp.Le.refl _) ?_;refine qO (i := 5) (qB 21 65535) rfl ?_;refine oL Tryz.isAgg23 ?_;refine qM (Hp.Le.refl _) ?_;refine qO (i := 16) (qB 21 131071) rfl ?_;refine oD Tryz.underlying23 elem39 fun v38 => ?_;refine qM (Hp.Le.refl _) ?_;refine qT (i := 17) (qB 21 262143) (Hp.Le.refl _) rfl rfl (oV qF) ?_;refine qT (i := 18) (qB 21 524287) (Hp.Le.refl _) rfl rfl (oF 3 Tryz.underlying101 Tryz.sizeOf26 qF) ?_;refine qT (i := 19) (qB 21 1048575) (Hp.Le.refl _) rfl rfl (oF 1 Tryz.underlying26 Tryz.sizeOf23 qF) ?_;refine qO (i := 20) (qB 21 2097151) rfl ?_;refine l_rowCells (u := v38) (by repeat constructor) (fun hcv => ?_);refine o_storeBox1 trivial rfl rfl (hcv).1 Tryz.sizeOf23 (hcv).2 (by repeat constructor) (by exact Nat.le_of_ble_eq_true rfl) ?_;refine qM (Hp.Le.refl _) ?_;refine h_end (by kernel_rfl) ?_;refine tC (sR ?_);refine oV ?_;refine nE ?_;refine ret1 rfl rfl ?_
  first
  | exact fun w' hw' => ⟨I2, [rdB b vall j (.slice none 0 0) vi v38 vo ua, ltR v38 (ls ++ [⟨(tkAt L i).text, lastN n2⟩]), ndR ua n2], (by unfold ltR; rw [lts_more, List.length_append]; exact hw'.sort (by repeat constructor)), hx3, true, j, _, v38, ua, n2, _, rfl, rfl, hj, fun h => (by cases h), fun _ => ⟨_, ho3 _ _ he, rfl, hok2, hb2, rfl, by omega⟩⟩
  | exact fun w' hw' => ⟨I2, [rdB b vall j us vi vl vo ua, ltR vl ls, ndR ua n2], hw'.sort (by repeat constructor), hx3, false, j, _, vl, ua, n2, ls, rfl, rfl, hj, fun _ => ho2 _ (hno hk), fun h => by cases h⟩
  | exact fun w' hw' => ⟨I, [rdB b vall (i + 1) (.slice none 0 0) vi vl vo va, ltR vl ls, ndR va ns], hw'.sort (by repeat constructor), Ext.refl _ _, false, i + 1, _, vl, va, ns, ls, rfl, rfl, hlt, fun _ => let_noeq h hN hq, fun h => by cases h⟩
  | exact fun w' hw' => ⟨I, [rdB b vall i (.slice none 0 0) vi vl vo va, ltR vl ls, ndR va ns], hw'.sort (by repeat constructor), Ext.refl _ _, false, i, _, vl, va, ns, ls, rfl, rfl, hi, fun _ => let_noname h hN, fun h => by cases h⟩
def PrgTail (ins : List ByteArray) (o : PO) (ls : List LetC) (all : List NodeC) (r2 : List Tok) : Prop :=
  (hdT r2 0 outS = false → o = .bad r2) ∧ (hdT r2 0 outS = true → (∀ r3, namesZ (r2.drop 1) = .bad r3 → o = .bad r3) ∧ (∀ outs r3, namesZ (r2.drop 1) = .ok outs r3 → (r3 = [] → o = .ok ⟨ins, ls, outs, all⟩) ∧ (r3 ≠ [] → o = .bad r3)))
theorem prg_parts {r : List Tok} {o : PO} (h : Prg r o) : (hdT r 0 inS = false → o = .bad r) ∧ (hdT r 0 inS = true → (∀ r1, namesZ (r.drop 1) = .bad r1 → o = .bad r1) ∧ ∀ ins r1, namesZ (r.drop 1) = .ok ins r1 → ∃ oL, Lts [] [] r1 oL ∧ (∀ r2, oL = .bad r2 → o = .bad r2) ∧ ∀ ls all r2, oL = .ok ls all r2 → PrgTail ins o ls all r2) := by
  cases h with
  | noin h0 => exact ⟨fun _ => rfl, fun h => by rw [h0] at h; cases h⟩
  | insbad h0 h1 =>
    refine ⟨fun h => (by simp only [hdT] at h; rw [h0] at h; cases h), fun _ => ⟨fun r1 hr => (by simp only [List.drop_one, List.tail_cons] at hr; rw [h1] at hr; cases hr; rfl), fun ins r1 hr => by simp only [List.drop_one, List.tail_cons] at hr; rw [h1] at hr; cases hr⟩⟩
  | letsbad h0 h1 h2 =>
    refine ⟨fun h => (by simp only [hdT] at h; rw [h0] at h; cases h), fun _ => ⟨fun r1 hr => (by simp only [List.drop_one, List.tail_cons] at hr; rw [h1] at hr; cases hr), fun ins r1 hr => ?_⟩⟩
    simp only [List.drop_one, List.tail_cons] at hr; rw [h1] at hr; cases hr
    exact ⟨_, h2, fun r2 hr => (by cases hr; rfl), fun ls all r2 hr => by cases hr⟩
  | noout h0 h1 h2 h3 =>
    refine ⟨fun h => (by simp only [hdT] at h; rw [h0] at h; cases h), fun _ => ⟨fun r1 hr => (by simp only [List.drop_one, List.tail_cons] at hr; rw [h1] at hr; cases hr), fun ins r1 hr => ?_⟩⟩
    simp only [List.drop_one, List.tail_cons] at hr; rw [h1] at hr; cases hr
    refine ⟨_, h2, fun r2 hr => (by cases hr), fun ls all r2 hr => ?_⟩
    cases hr
    exact ⟨fun _ => rfl, fun h => by rw [h3] at h; cases h⟩
  | outsbad h0 h1 h2 h3 h4 =>
    refine ⟨fun h => (by simp only [hdT] at h; rw [h0] at h; cases h), fun _ => ⟨fun r1 hr => (by simp only [List.drop_one, List.tail_cons] at hr; rw [h1] at hr; cases hr), fun ins r1 hr => ?_⟩⟩
    simp only [List.drop_one, List.tail_cons] at hr; rw [h1] at hr; cases hr
    refine ⟨_, h2, fun r2 hr => (by cases hr), fun ls all r2 hr => ?_⟩
    cases hr
    refine ⟨fun h => (by simp only [hdT] at h; rw [h3] at h; cases h), fun _ => ⟨fun r3 hr => ?_, fun outs r3 hr => ?_⟩⟩
    · simp only [List.drop_one, List.tail_cons] at hr; rw [h4] at hr; cases hr; rfl
    · simp only [List.drop_one, List.tail_cons] at hr; rw [h4] at hr; cases hr
  | tail h0 h1 h2 h3 h4 =>
    refine ⟨fun h => (by simp only [hdT] at h; rw [h0] at h; cases h), fun _ => ⟨fun r1 hr => (by simp only [List.drop_one, List.tail_cons] at hr; rw [h1] at hr; cases hr), fun ins r1 hr => ?_⟩⟩
    simp only [List.drop_one, List.tail_cons] at hr; rw [h1] at hr; cases hr
    refine ⟨_, h2, fun r2 hr => (by cases hr), fun ls all r2 hr => ?_⟩
    cases hr
    refine ⟨fun h => (by simp only [hdT] at h; rw [h3] at h; cases h), fun _ => ⟨fun r3 hr => ?_, fun outs r3 hr => ?_⟩⟩
    · simp only [List.drop_one, List.tail_cons] at hr; rw [h4] at hr; cases hr
    · simp only [List.drop_one, List.tail_cons] at hr; rw [h4] at hr; cases hr
      exact ⟨fun h => (by cases h), fun _ => rfl⟩
  | ok h0 h1 h2 h3 h4 =>
    refine ⟨fun h => (by simp only [hdT] at h; rw [h0] at h; cases h), fun _ => ⟨fun r1 hr => (by simp only [List.drop_one, List.tail_cons] at hr; rw [h1] at hr; cases hr), fun ins r1 hr => ?_⟩⟩
    simp only [List.drop_one, List.tail_cons] at hr; rw [h1] at hr; cases hr
    refine ⟨_, h2, fun r2 hr => (by cases hr), fun ls all r2 hr => ?_⟩
    cases hr
    refine ⟨fun h => (by simp only [hdT] at h; rw [h3] at h; cases h), fun _ => ⟨fun r3 hr => ?_, fun outs r3 hr => ?_⟩⟩
    · simp only [List.drop_one, List.tail_cons] at hr; rw [h4] at hr; cases hr
    · simp only [List.drop_one, List.tail_cons] at hr; rw [h4] at hr; cases hr
      exact ⟨fun _ => rfl, fun h => absurd rfl h⟩
theorem lts_parts {ls : List LetC} {all : List NodeC} {r : List Tok} {oL : LSO} (h : Lts ls all r oL) : (hdT r 0 letS = false → oL = .ok ls all r) ∧ (hdT r 0 letS = true → ∃ o1, Lt1 all (r.drop 1) o1 ∧ (∀ r1, o1 = .bad r1 → oL = .bad r1) ∧ ∀ n a1 r1, o1 = .ok n a1 r1 → Lts (ls ++ [⟨n, lastI a1⟩]) a1 r1 oL) := by
  cases h with
  | fin h0 => exact ⟨fun _ => rfl, fun h => by rw [h0] at h; cases h⟩
  | bad h0 h1 => exact ⟨fun h => (by simp only [hdT] at h; rw [h0] at h; cases h), fun _ => ⟨_, h1, fun r1 hr => (by cases hr; rfl), fun n a1 r1 hr => by cases hr⟩⟩
  | more h0 h1 h2 => exact ⟨fun h => (by simp only [hdT] at h; rw [h0] at h; cases h), fun _ => ⟨_, h1, fun r1 hr => (by cases hr), fun n a1 r1 hr => by cases hr; exact h2⟩⟩
theorem nm_bad {L : List Tok} {i' : Nat} {ok : Bool} {l : List ByteArray} {o : NOut} (h : NmRes L i' ok l o) (hk : ok = false) : o = .bad (L.drop i') := by
  cases o with
  | bad r => rw [h.2.1]
  | ok m r => rw [h.1] at hk; cases hk
theorem nm_good {L : List Tok} {i' : Nat} {ok : Bool} {l : List ByteArray} {o : NOut} (h : NmRes L i' ok l o) (hk : ok = true) : o = .ok l (L.drop i') := by
  cases o with
  | bad r => rw [h.1] at hk; cases hk
  | ok m r => rw [h.2.1, h.2.2.1]
theorem nm_le {L : List Tok} {i' : Nat} {ok : Bool} {l : List ByteArray} {o : NOut} (h : NmRes L i' ok l o) : i' ≤ L.length := by
  cases o with
  | bad r => exact h.2.2
  | ok m r => exact h.2.2.2
abbrev N0 : Value := .slice none 0 0
theorem rdProgram_any (b : Nat) (vall : Value) (L : List Tok) {I : Hp} (hM : Mx I) (hE : Errs I) (hL : Slc I 4 vall (L.map Tok.cells)) (hn : L.length ≤ 10000) (hs : TkSmall L) (hto : ToksOk L) {o : PO} (h : Prg L o) :
    Fun Tryz.prog 58 [.pointer (some ⟨b, 0, none⟩)] I [rdB b vall 0 N0 N0 N0 N0 N0]
    (fun v I' B' => ∃ ok i' vs' vi' vl' vo' va' wi wl wo wa ins ls outs ns, v = .bool ok ∧ B' = [rdB b vall i' vs' vi' vl' vo' va', nmR wi ins, ltR wl ls, nmR wo outs, ndR wa ns] ∧ i' ≤ L.length ∧ (ok = false → o = .bad (L.drop i')) ∧ (ok = true → wi = vi' ∧ wl = vl' ∧ wo = vo' ∧ wa = va' ∧ (∀ o ∈ ns, o.ok I') ∧ o = .ok ⟨ins, ls, outs, ns.map NodeV.c⟩ ∧ ins.length ≤ 10000 ∧ ls.length ≤ 10000 ∧ outs.length ≤ 10000 ∧ ns.length ≤ 10000)) := by
  have hP := prg_parts h
  rw [← List.drop_zero (l := L)] at hP
  intro w hw
  refine enter1 _ Tryz.func58 rfl Tryz.ntmps58 rfl ?_ hw;refine sR ?_;refine oV ?_;refine nS ?_;refine oV ?_;refine nU ?_;refine oV ?_;refine oC trivial rfl Tryz.call103 rfl (rdKey_any b 0 vall N0 N0 N0 N0 N0 inS L hL (by omega)) (by repeat constructor) ?_;rintro _ _ _ hx1 ⟨rfl, rfl, rfl⟩;refine oV ?_;refine nT ?_;refine cC rfl (fun h1 => ?_) (fun h1 => ?_)
  ·
   have f1 := h1;try simp only [bl] at f1
   have hm : hdT (L.drop 0) 0 inS = false := by simpa using f1
   rw [adv_false hm]
   have hfin := hP.1 hm
   refine sR ?_;refine oV ?_;refine nF ?_;refine ret1 rfl rfl ?_
   first
   | exact fun w' hw' => ⟨I, [rdB b vall 0 N0 N0 N0 N0 N0, nmR N0 [], ltR N0 [], nmR N0 [], ndR N0 []], ((((hw'.nilRow 9 1).nilRow 39 2).nilRow 9 1).nilRow 37 8).sort (by repeat constructor), Ext.refl _ _, false, 0, _, _, _, _, _, _, _, _, _, _, _, _, _, rfl, rfl, Nat.zero_le _, fun _ => hfin, fun h => by cases h⟩
   | exact fun w' hw' => ⟨I, [rdB b vall j1 N0 u1 N0 N0 N0, nmR N0 [], ltR N0 [], nmR N0 [], ndR N0 []], ((((hw'.nilRow 9 1).nilRow 39 2).nilRow 9 1).nilRow 37 8).sort (by repeat constructor), Ext.refl _ _, false, j1, _, _, _, _, _, _, _, _, _, _, _, _, _, rfl, rfl, hj1, fun _ => hfin, fun h => by cases h⟩
   | exact fun w' hw' => ⟨I2, [rdB b vall j2 us2 u1' ul2 N0 ua2, nmR N0 [], ltR N0 [], nmR N0 [], ndR N0 []], ((((hw'.nilRow 9 1).nilRow 39 2).nilRow 9 1).nilRow 37 8).sort (by repeat constructor), hx3.trans hx5 (Nat.le_refl _), false, j2, _, _, _, _, _, _, _, _, _, _, _, _, _, rfl, rfl, hj2, fun _ => hfin, fun h => by cases h⟩
   | exact fun w' hw' => ⟨I1, [rdB b vall j N0 u1' ul N0 ua, nmR N0 [], ltR N0 [], nmR N0 [], ndR N0 []], ((((hw'.nilRow 9 1).nilRow 39 2).nilRow 9 1).nilRow 37 8).sort (by repeat constructor), hx3, false, j, _, _, _, _, _, _, _, _, _, _, _, _, _, rfl, rfl, hj, fun _ => hfin, fun h => by cases h⟩
   | (refine fun w' hw' => ⟨I1, [rdB b vall j3 N0 u1' ul u3 ua, nmR u1' l1, ltR ul ls, nmR u3' l3, ndR ua n0], hw'.sort (by repeat constructor), hx3, _, j3, _, _, _, _, _, u1', ul, u3', ua, l1, ls, l3, n0, rfl, rfl, nm_le hres3, ?_, ?_⟩
      · intro hk
        cases ok3 with
        | false => exact hT1 _ (nm_bad hres3 rfl)
        | true =>
          refine (hT2 _ _ (nm_good hres3 rfl)).2 ?_
          have := nm_le hres3
          simp at hk
          intro e
          rw [List.drop_eq_nil_iff] at e
          omega
      · intro hk
        cases ok3 with
        | false => cases hk
        | true =>
          obtain ⟨rfl, hl3⟩ := hu3 rfl
          refine ⟨rfl, rfl, rfl, rfl, hok0, (hT2 _ _ (nm_good hres3 rfl)).1 ?_, by omega, by omega, by omega, by omega⟩
          simp at hk
          exact List.drop_eq_nil_of_le (by omega))
  have f1 := h1;try simp only [bl] at f1
  have hm : hdT (L.drop 0) 0 inS = true := by simpa using f1
  rw [adv_true hm]
  have hlt := hdT_lt hm
  have hP2 := hP.2 hm
  rw [List.drop_drop] at hP2
  refine cK (tC (cS (sR ?_)));iterate 2 refine oV ?_
  refine oC trivial rfl Tryz.call104 rfl (rdNames_any b (0 + 1) vall N0 N0 N0 N0 N0 L hL hn hs (by omega)) (by repeat constructor) ?_;rintro _ _ _ hx2 ⟨rfl, u1, ok1, j1, u1', l1, rfl, rfl, hres, hu, hcell⟩;iterate 4 refine oV ?_
  refine oF 3 Tryz.underlying101 Tryz.sizeOf26 ?_;refine oF 0 Tryz.underlying26 Tryz.sizeOf22 ?_;refine o_storeBox1 trivial rfl rfl (hcell).1 Tryz.sizeOf22 (hcell).2 (by repeat constructor) (by exact Nat.le_of_ble_eq_true rfl) ?_;refine oV ?_;refine oN (tC (cS ?_))
  have hj1 := nm_le hres
  refine cR ?_;iterate 2 refine oV ?_
  refine nT ?_;refine cC rfl (fun h2 => ?_) (fun h2 => ?_)
  ·
   have f2 := h2;try simp only [bl] at f2
   have hk : ok1 = false := by simpa using f2
   have hfin := hP2.1 _ (nm_bad hres hk)
   refine sR ?_;refine oV ?_;refine nF ?_;refine ret1 rfl rfl ?_
   first
   | exact fun w' hw' => ⟨I, [rdB b vall 0 N0 N0 N0 N0 N0, nmR N0 [], ltR N0 [], nmR N0 [], ndR N0 []], ((((hw'.nilRow 9 1).nilRow 39 2).nilRow 9 1).nilRow 37 8).sort (by repeat constructor), Ext.refl _ _, false, 0, _, _, _, _, _, _, _, _, _, _, _, _, _, rfl, rfl, Nat.zero_le _, fun _ => hfin, fun h => by cases h⟩
   | exact fun w' hw' => ⟨I, [rdB b vall j1 N0 u1 N0 N0 N0, nmR N0 [], ltR N0 [], nmR N0 [], ndR N0 []], ((((hw'.nilRow 9 1).nilRow 39 2).nilRow 9 1).nilRow 37 8).sort (by repeat constructor), Ext.refl _ _, false, j1, _, _, _, _, _, _, _, _, _, _, _, _, _, rfl, rfl, hj1, fun _ => hfin, fun h => by cases h⟩
   | exact fun w' hw' => ⟨I2, [rdB b vall j2 us2 u1' ul2 N0 ua2, nmR N0 [], ltR N0 [], nmR N0 [], ndR N0 []], ((((hw'.nilRow 9 1).nilRow 39 2).nilRow 9 1).nilRow 37 8).sort (by repeat constructor), hx3.trans hx5 (Nat.le_refl _), false, j2, _, _, _, _, _, _, _, _, _, _, _, _, _, rfl, rfl, hj2, fun _ => hfin, fun h => by cases h⟩
   | exact fun w' hw' => ⟨I1, [rdB b vall j N0 u1' ul N0 ua, nmR N0 [], ltR N0 [], nmR N0 [], ndR N0 []], ((((hw'.nilRow 9 1).nilRow 39 2).nilRow 9 1).nilRow 37 8).sort (by repeat constructor), hx3, false, j, _, _, _, _, _, _, _, _, _, _, _, _, _, rfl, rfl, hj, fun _ => hfin, fun h => by cases h⟩
   | (refine fun w' hw' => ⟨I1, [rdB b vall j3 N0 u1' ul u3 ua, nmR u1' l1, ltR ul ls, nmR u3' l3, ndR ua n0], hw'.sort (by repeat constructor), hx3, _, j3, _, _, _, _, _, u1', ul, u3', ua, l1, ls, l3, n0, rfl, rfl, nm_le hres3, ?_, ?_⟩
      · intro hk
        cases ok3 with
        | false => exact hT1 _ (nm_bad hres3 rfl)
        | true =>
          refine (hT2 _ _ (nm_good hres3 rfl)).2 ?_
          have := nm_le hres3
          simp at hk
          intro e
          rw [List.drop_eq_nil_iff] at e
          omega
      · intro hk
        cases ok3 with
        | false => cases hk
        | true =>
          obtain ⟨rfl, hl3⟩ := hu3 rfl
          refine ⟨rfl, rfl, rfl, rfl, hok0, (hT2 _ _ (nm_good hres3 rfl)).1 ?_, by omega, by omega, by omega, by omega⟩
          simp at hk
          exact List.drop_eq_nil_of_le (by omega))
  have f2 := h2;try simp only [bl] at f2
  have hk : ok1 = true := by simpa using f2
  obtain ⟨rfl, hl1⟩ := hu hk
  obtain ⟨oL, hLt, hbadL, hokL⟩ := hP2.2 _ _ (nm_good hres hk)
  refine cK (tC (cS (cB ?_)));refine c_loop (ι := Nat × List LetC × List NodeV × Value × Value × Hp) [0] (.cons rfl .nil) (fun x => L.length - x.1) (fun x E0 => E0) (fun x => St w (keysOf [rdB b vall 0 N0 N0 N0 N0 N0]) x.2.2.2.2.2 [rdB b vall x.1 N0 u1' x.2.2.2.1 N0 x.2.2.2.2.1, nmR u1' l1, ltR x.2.2.2.1 x.2.1, ndR x.2.2.2.2.1 x.2.2.1]) (fun x => x.1 ≤ L.length ∧ x.2.1.length ≤ x.1 ∧ x.2.2.1.length ≤ x.1 ∧ (∀ o ∈ x.2.2.1, o.ok x.2.2.2.2.2) ∧ Lts x.2.1 (x.2.2.1.map NodeV.c) (L.drop x.1) oL ∧ Ext w.heap.size I x.2.2.2.2.2) ((j1, [], [], N0, N0, I)) (sC rfl sN) (fun _ h => ((h.nilRow 39 2).nilRow 37 8).sort (by repeat constructor)) (⟨hj1, Nat.zero_le _, Nat.zero_le _, fun o ho => (by cases ho), hLt, Ext.refl _ _⟩) ?_;rintro ⟨j, ls, n0, ul, ua, I1⟩ ⟨hj, hls0, hn0, hok0, hr, hx3⟩
  try dsimp only
  simp only at hj hls0 hn0 hok0 hr hx3; have hlp := lts_parts hr
  refine cS (sR ?_);refine oV ?_;refine oC trivial rfl Tryz.call103 rfl (rdKey_any b j vall N0 u1' ul N0 ua letS L (hL.le hx3.le) (by omega)) (by repeat constructor) ?_;rintro _ _ _ hx4 ⟨rfl, rfl, rfl⟩;refine nT ?_;refine cC rfl (fun h3 => ?_) (fun h3 => ?_)
  ·
   have f3 := h3;try simp only [bl] at f3
   have hm3 : hdT (L.drop j) 0 letS = true := h3
   rw [adv_true hm3]
   have hlt3 := hdT_lt hm3
   obtain ⟨o1, hL1, hb1, hg1⟩ := hlp.2 hm3
   rw [List.drop_drop] at hL1
   refine cK (tC (cB (sR ?_)));refine oV ?_;refine oC trivial rfl Tryz.call105 rfl (rdLet_any b (j + 1) vall u1' ul N0 ua ls n0 L (hM.le hx3.le) (hE.le hx3.le) (hL.le hx3.le) hn hs hto hok0 (by omega) (by omega) (by omega) hL1) (by repeat constructor) ?_;rintro _ I2 _ hx5 ⟨ok2, j2, us2, ul2, ua2, n2, ls2, rfl, rfl, hj2, hno2, hyes2⟩;refine oV ?_;refine nT ?_;refine cC rfl (fun h4 => ?_) (fun h4 => ?_)
   ·
    have f4 := h4;try simp only [bl] at f4
    have hk4 : ok2 = false := by simpa using f4
    have hfin := hbadL _ (hb1 _ (hno2 hk4))
    refine sR ?_;refine oV ?_;refine oN (tC (cT (blk_r (tR (blk_r (tR ?_))))));refine ret1 rfl rfl ?_
    first
    | exact fun w' hw' => ⟨I, [rdB b vall 0 N0 N0 N0 N0 N0, nmR N0 [], ltR N0 [], nmR N0 [], ndR N0 []], ((((hw'.nilRow 9 1).nilRow 39 2).nilRow 9 1).nilRow 37 8).sort (by repeat constructor), Ext.refl _ _, false, 0, _, _, _, _, _, _, _, _, _, _, _, _, _, rfl, rfl, Nat.zero_le _, fun _ => hfin, fun h => by cases h⟩
    | exact fun w' hw' => ⟨I, [rdB b vall j1 N0 u1 N0 N0 N0, nmR N0 [], ltR N0 [], nmR N0 [], ndR N0 []], ((((hw'.nilRow 9 1).nilRow 39 2).nilRow 9 1).nilRow 37 8).sort (by repeat constructor), Ext.refl _ _, false, j1, _, _, _, _, _, _, _, _, _, _, _, _, _, rfl, rfl, hj1, fun _ => hfin, fun h => by cases h⟩
    | exact fun w' hw' => ⟨I2, [rdB b vall j2 us2 u1' ul2 N0 ua2, nmR N0 [], ltR N0 [], nmR N0 [], ndR N0 []], ((((hw'.nilRow 9 1).nilRow 39 2).nilRow 9 1).nilRow 37 8).sort (by repeat constructor), hx3.trans hx5 (Nat.le_refl _), false, j2, _, _, _, _, _, _, _, _, _, _, _, _, _, rfl, rfl, hj2, fun _ => hfin, fun h => by cases h⟩
    | exact fun w' hw' => ⟨I1, [rdB b vall j N0 u1' ul N0 ua, nmR N0 [], ltR N0 [], nmR N0 [], ndR N0 []], ((((hw'.nilRow 9 1).nilRow 39 2).nilRow 9 1).nilRow 37 8).sort (by repeat constructor), hx3, false, j, _, _, _, _, _, _, _, _, _, _, _, _, _, rfl, rfl, hj, fun _ => hfin, fun h => by cases h⟩
    | (refine fun w' hw' => ⟨I1, [rdB b vall j3 N0 u1' ul u3 ua, nmR u1' l1, ltR ul ls, nmR u3' l3, ndR ua n0], hw'.sort (by repeat constructor), hx3, _, j3, _, _, _, _, _, u1', ul, u3', ua, l1, ls, l3, n0, rfl, rfl, nm_le hres3, ?_, ?_⟩
       · intro hk
         cases ok3 with
         | false => exact hT1 _ (nm_bad hres3 rfl)
         | true =>
           refine (hT2 _ _ (nm_good hres3 rfl)).2 ?_
           have := nm_le hres3
           simp at hk
           intro e
           rw [List.drop_eq_nil_iff] at e
           omega
       · intro hk
         cases ok3 with
         | false => cases hk
         | true =>
           obtain ⟨rfl, hl3⟩ := hu3 rfl
           refine ⟨rfl, rfl, rfl, rfl, hok0, (hT2 _ _ (nm_good hres3 rfl)).1 ?_, by omega, by omega, by omega, by omega⟩
           simp at hk
           exact List.drop_eq_nil_of_le (by omega))
   have f4 := h4;try simp only [bl] at f4
   have hk4 : ok2 = true := by simpa using f4
   obtain ⟨s, he, rfl, hok2, hn2, rfl, hlt4⟩ := hyes2 hk4
   refine cK (blk_n ?_);exact again (j2, ls ++ [⟨s, lastN n2⟩], n2, ul2, ua2, I2) (sC rfl sN) (fun _ h => h.sort (by repeat constructor)) (by show L.length - j2 < L.length - j; omega) ⟨hj2, by rw [List.length_append]; show ls.length + 1 ≤ j2; omega, hn2, hok2, by rw [lastN_eq]; exact hg1 _ _ _ he, hx3.trans hx5 (Nat.le_refl _)⟩
  have f3 := h3;try simp only [bl] at f3
  have hm3 : hdT (L.drop j) 0 letS = false := h3
  rw [adv_false hm3]
  have hT := hokL _ _ _ (hlp.1 hm3)
  refine c_exit (then_x (then_x (blk_eq rfl (tC (cS (sR ?_))))));refine oV ?_;refine oC trivial rfl Tryz.call103 rfl (rdKey_any b j vall N0 u1' ul N0 ua outS L (hL.le hx3.le) (by omega)) (by repeat constructor) ?_;rintro _ _ _ hx5 ⟨rfl, rfl, rfl⟩;refine oV ?_;refine nT ?_;refine cC rfl (fun h5 => ?_) (fun h5 => ?_)
  ·
   have f5 := h5;try simp only [bl] at f5
   have hm5 : hdT (L.drop j) 0 outS = false := by simpa using f5
   rw [adv_false hm5]
   have hfin := hT.1 hm5
   refine sR ?_;refine oV ?_;refine nF ?_;refine ret1 rfl rfl ?_
   first
   | exact fun w' hw' => ⟨I, [rdB b vall 0 N0 N0 N0 N0 N0, nmR N0 [], ltR N0 [], nmR N0 [], ndR N0 []], ((((hw'.nilRow 9 1).nilRow 39 2).nilRow 9 1).nilRow 37 8).sort (by repeat constructor), Ext.refl _ _, false, 0, _, _, _, _, _, _, _, _, _, _, _, _, _, rfl, rfl, Nat.zero_le _, fun _ => hfin, fun h => by cases h⟩
   | exact fun w' hw' => ⟨I, [rdB b vall j1 N0 u1 N0 N0 N0, nmR N0 [], ltR N0 [], nmR N0 [], ndR N0 []], ((((hw'.nilRow 9 1).nilRow 39 2).nilRow 9 1).nilRow 37 8).sort (by repeat constructor), Ext.refl _ _, false, j1, _, _, _, _, _, _, _, _, _, _, _, _, _, rfl, rfl, hj1, fun _ => hfin, fun h => by cases h⟩
   | exact fun w' hw' => ⟨I2, [rdB b vall j2 us2 u1' ul2 N0 ua2, nmR N0 [], ltR N0 [], nmR N0 [], ndR N0 []], ((((hw'.nilRow 9 1).nilRow 39 2).nilRow 9 1).nilRow 37 8).sort (by repeat constructor), hx3.trans hx5 (Nat.le_refl _), false, j2, _, _, _, _, _, _, _, _, _, _, _, _, _, rfl, rfl, hj2, fun _ => hfin, fun h => by cases h⟩
   | exact fun w' hw' => ⟨I1, [rdB b vall j N0 u1' ul N0 ua, nmR N0 [], ltR N0 [], nmR N0 [], ndR N0 []], ((((hw'.nilRow 9 1).nilRow 39 2).nilRow 9 1).nilRow 37 8).sort (by repeat constructor), hx3, false, j, _, _, _, _, _, _, _, _, _, _, _, _, _, rfl, rfl, hj, fun _ => hfin, fun h => by cases h⟩
   | (refine fun w' hw' => ⟨I1, [rdB b vall j3 N0 u1' ul u3 ua, nmR u1' l1, ltR ul ls, nmR u3' l3, ndR ua n0], hw'.sort (by repeat constructor), hx3, _, j3, _, _, _, _, _, u1', ul, u3', ua, l1, ls, l3, n0, rfl, rfl, nm_le hres3, ?_, ?_⟩
      · intro hk
        cases ok3 with
        | false => exact hT1 _ (nm_bad hres3 rfl)
        | true =>
          refine (hT2 _ _ (nm_good hres3 rfl)).2 ?_
          have := nm_le hres3
          simp at hk
          intro e
          rw [List.drop_eq_nil_iff] at e
          omega
      · intro hk
        cases ok3 with
        | false => cases hk
        | true =>
          obtain ⟨rfl, hl3⟩ := hu3 rfl
          refine ⟨rfl, rfl, rfl, rfl, hok0, (hT2 _ _ (nm_good hres3 rfl)).1 ?_, by omega, by omega, by omega, by omega⟩
          simp at hk
          exact List.drop_eq_nil_of_le (by omega))
  have f5 := h5;try simp only [bl] at f5
  have hm5 : hdT (L.drop j) 0 outS = true := by simpa using f5
  rw [adv_true hm5]
  have hlt5 := hdT_lt hm5
  obtain ⟨hT1, hT2⟩ := hT.2 hm5
  rw [List.drop_drop] at hT1 hT2
  refine kS ?_;iterate 2 refine oV ?_
  refine oC trivial rfl Tryz.call104 rfl (rdNames_any b (j + 1) vall N0 u1' ul N0 ua L (hL.le hx3.le) hn hs (by omega)) (by repeat constructor) ?_;rintro _ _ _ hx6 ⟨rfl, u3, ok3, j3, u3', l3, rfl, rfl, hres3, hu3, hcell3⟩;iterate 4 refine oV ?_
  refine oF 3 Tryz.underlying101 Tryz.sizeOf26 ?_;refine oF 2 Tryz.underlying26 Tryz.sizeOf22 ?_;refine o_storeBox1 trivial rfl rfl (hcell3).1 Tryz.sizeOf22 (hcell3).2 (by repeat constructor) (by exact Nat.le_of_ble_eq_true rfl) ?_;refine oV ?_;refine oN (tC (cS ?_));refine c_quiet (by kernel_rfl) (by kernel_rfl) (fun _ h => h.drawn) ?_;refine oV ?_;refine' o_and trivial trivial rfl rfl rfl rfl rfl rfl rfl rfl (fun hb36 => ?_) ?_;rotate_left
  ·
   have fb36 := hb36
   try simp only [bl] at fb36
   iterate 2 refine gV hb36 ?_
   refine gF hb36 1 Tryz.underlying101 Tryz.sizeOf3 ?_;refine gL hb36 Tryz.isAgg3 ?_;iterate 2 refine gV hb36 ?_
   refine gF hb36 0 Tryz.underlying101 Tryz.sizeOf95 ?_;refine gL hb36 Tryz.isAgg95 ?_;refine o_lenSlc (wS rfl rfl hb36) rfl Tryz.underlying95 rfl (hL.le hx3.le) ?_;refine gV hb36 ?_;refine oN ?_;exact joins rfl
  refine oV ?_;refine nE ?_;refine ret1 rfl rfl ?_
  first
  | exact fun w' hw' => ⟨I, [rdB b vall 0 N0 N0 N0 N0 N0, nmR N0 [], ltR N0 [], nmR N0 [], ndR N0 []], ((((hw'.nilRow 9 1).nilRow 39 2).nilRow 9 1).nilRow 37 8).sort (by repeat constructor), Ext.refl _ _, false, 0, _, _, _, _, _, _, _, _, _, _, _, _, _, rfl, rfl, Nat.zero_le _, fun _ => hfin, fun h => by cases h⟩
  | exact fun w' hw' => ⟨I, [rdB b vall j1 N0 u1 N0 N0 N0, nmR N0 [], ltR N0 [], nmR N0 [], ndR N0 []], ((((hw'.nilRow 9 1).nilRow 39 2).nilRow 9 1).nilRow 37 8).sort (by repeat constructor), Ext.refl _ _, false, j1, _, _, _, _, _, _, _, _, _, _, _, _, _, rfl, rfl, hj1, fun _ => hfin, fun h => by cases h⟩
  | exact fun w' hw' => ⟨I2, [rdB b vall j2 us2 u1' ul2 N0 ua2, nmR N0 [], ltR N0 [], nmR N0 [], ndR N0 []], ((((hw'.nilRow 9 1).nilRow 39 2).nilRow 9 1).nilRow 37 8).sort (by repeat constructor), hx3.trans hx5 (Nat.le_refl _), false, j2, _, _, _, _, _, _, _, _, _, _, _, _, _, rfl, rfl, hj2, fun _ => hfin, fun h => by cases h⟩
  | exact fun w' hw' => ⟨I1, [rdB b vall j N0 u1' ul N0 ua, nmR N0 [], ltR N0 [], nmR N0 [], ndR N0 []], ((((hw'.nilRow 9 1).nilRow 39 2).nilRow 9 1).nilRow 37 8).sort (by repeat constructor), hx3, false, j, _, _, _, _, _, _, _, _, _, _, _, _, _, rfl, rfl, hj, fun _ => hfin, fun h => by cases h⟩
  | (refine fun w' hw' => ⟨I1, [rdB b vall j3 N0 u1' ul u3 ua, nmR u1' l1, ltR ul ls, nmR u3' l3, ndR ua n0], hw'.sort (by repeat constructor), hx3, _, j3, _, _, _, _, _, u1', ul, u3', ua, l1, ls, l3, n0, rfl, rfl, nm_le hres3, ?_, ?_⟩
     · intro hk
       cases ok3 with
       | false => exact hT1 _ (nm_bad hres3 rfl)
       | true =>
         refine (hT2 _ _ (nm_good hres3 rfl)).2 ?_
         have := nm_le hres3
         simp at hk
         intro e
         rw [List.drop_eq_nil_iff] at e
         omega
     · intro hk
       cases ok3 with
       | false => cases hk
       | true =>
         obtain ⟨rfl, hl3⟩ := hu3 rfl
         refine ⟨rfl, rfl, rfl, rfl, hok0, (hT2 _ _ (nm_good hres3 rfl)).1 ?_, by omega, by omega, by omega, by omega⟩
         simp at hk
         exact List.drop_eq_nil_of_le (by omega))
structure ToksFine (s : ByteArray) (L : List Tok) : Prop where
  ok : ToksOk L
  small : ∀ t ∈ L, t.text.size ≤ s.size
  few : L.length ≤ 4000
theorem tokZ_fine (s : ByteArray) (i : Nat) : ((tokZ s i).kind = 1 → numZ (tokZ s i).text = true) ∧ (tokZ s i).text.size ≤ s.size := by
  have hx : ∀ a b : Nat, (s.extract a b).size ≤ s.size := fun a b => by rw [ByteArray.size_extract]; omega
  unfold tokZ
  split
  · split
    · exact ⟨fun h => (by cases h), Nat.zero_le _⟩
    · exact ⟨fun h => (by cases h), hx _ _⟩
  · split
    · split
      · exact ⟨fun h => (by cases h), Nat.zero_le _⟩
      · split
        · rename_i h; exact ⟨fun _ => h, hx _ _⟩
        · exact ⟨fun h => (by cases h), Nat.zero_le _⟩
    · split
      · exact ⟨fun h => (by cases h), hx _ _⟩
      · exact ⟨fun h => (by cases h), Nat.zero_le _⟩
theorem lexAt_fine (s : ByteArray) : ∀ (f i : Nat) (out : List Tok), s.size ≤ i + f → ToksFine s out → ToksFine s (lexAt s i out).toks := by
  intro f
  induction f with
  | zero => intro i out h ho; rw [lexAt_end (by omega)]; exact ho
  | succ f ih =>
    intro i out h ho
    by_cases hi : i < s.size
    · rw [lexAt_open hi]
      split
      · exact ih (i + 1) out (by omega) ho
      · split
        · exact ⟨fun t ht => (by cases ht), fun t ht => (by cases ht), Nat.zero_le _⟩
        · split
          · exact ⟨fun t ht => (by cases ht), fun t ht => (by cases ht), Nat.zero_le _⟩
          · rename_i h4 he
            have hst := tokZ_stop hi (Decidable.not_not.1 he)
            obtain ⟨k1, k2⟩ := tokZ_fine s i
            refine ih (tokZ s i).stop _ (by omega) ⟨fun t ht => ?_, fun t ht => ?_, by rw [List.length_append]; show out.length + 1 ≤ 4000; omega⟩
            · rcases List.mem_append.1 ht with ht | ht
              · exact ho.ok t ht
              · rw [List.mem_singleton.1 ht]; exact k1
            · rcases List.mem_append.1 ht with ht | ht
              · exact ho.small t ht
              · rw [List.mem_singleton.1 ht]; exact k2
    · rw [lexAt_end (by omega)]; exact ho
theorem lexZ_fine {s : ByteArray} (hs : s.size ≤ 60000) : ToksFine s (lexZ s).toks := by
  rw [lexZ_at hs]
  exact lexAt_fine s s.size 0 [] (by omega) ⟨fun t ht => (by cases ht), fun t ht => (by cases ht), Nat.zero_le _⟩
structure PRes where
  p : ProgC
  line : Int
  col : Int
  err : Int
def noP : ProgC := ⟨[], [], [], []⟩
noncomputable def prgZ (L : List Tok) : PO := Classical.choose (Prg.some_out L)
theorem prgZ_is (L : List Tok) : Prg L (prgZ L) := Classical.choose_spec (Prg.some_out L)
noncomputable def parseT (s : ByteArray) (o : PO) : PRes := match o with
  | .bad [] => ⟨noP, (placeZ s s.size).1, (placeZ s s.size).2, 5⟩
  | .bad (t :: _) => ⟨noP, t.line, t.col, 5⟩
  | .ok p => if (tZ p).isSome = true then ⟨p, 0, 0, 0⟩ else ⟨noP, 1, 1, 4⟩
noncomputable def parseZ (s : ByteArray) : PRes := if (lexZ s).err ≠ 0 then ⟨noP, (lexZ s).line, (lexZ s).col, (lexZ s).err⟩ else parseT s (prgZ (lexZ s).toks)
theorem digs_ten_lt : ∀ (n : Nat), n < 10 ^ (digs n).length := by
  intro n
  induction n using Nat.strongRecOn with
  | ind n ih =>
    unfold digs
    split
    · simp; omega
    · rename_i h
      have := ih (n / 10) (by omega)
      rw [List.length_cons, Nat.pow_succ]
      omega
theorem Ex.few_all : ∀ (x : Ex) (b : Nat), x.ok → ∀ c ∈ x.nd b, c.few 5 := by
  intro x
  have none0 : ∀ {c : NodeC}, c.n = [] → c.d = [] → c.few 5 := fun h1 h2 => ⟨by rw [h1]; exact Nat.zero_le _, by rw [h2]; exact Nat.zero_le _⟩
  induction x with
  | ref t => intro b _ c hc; rw [List.mem_singleton.1 hc]; exact none0 rfl rfl
  | num q =>
    intro b hok c hc
    rw [List.mem_singleton.1 hc]
    have h1 := digs_ten_lt q.num.natAbs
    have h2 := digs_ten_lt q.den
    exact ⟨natW_forty (Nat.lt_of_lt_of_le h1 (Nat.pow_le_pow_right (by decide) hok.2.1)), natW_forty (Nat.lt_of_lt_of_le h2 (Nat.pow_le_pow_right (by decide) hok.2.2))⟩
  | neg x ih =>
    intro b hok c hc
    rcases List.mem_append.1 hc with hc | hc
    · exact ih b hok c hc
    · rw [List.mem_singleton.1 hc]; exact none0 rfl rfl
  | pow x e ih =>
    intro b hok c hc
    rcases List.mem_append.1 hc with hc | hc
    · exact ih b hok.1 c hc
    · rw [List.mem_singleton.1 hc]; exact none0 rfl rfl
  | bin k x y ih1 ih2 =>
    intro b hok c hc
    rcases List.mem_append.1 hc with hc | hc
    · rcases List.mem_append.1 hc with hc | hc
      · exact ih1 b hok.2.2.1 c hc
      · exact ih2 _ hok.2.2.2 c hc
    · rw [List.mem_singleton.1 hc]; exact none0 rfl rfl
theorem laid_few : ∀ (l : List (ByteArray × Ex)) (b : Nat), LetsOk l → ∀ c ∈ (laid l b).2, c.few 5
  | [], _, _, c, hc => by cases hc
  | (s, x) :: l, b, h, c, hc => by
    simp only [laid] at hc
    rcases List.mem_append.1 hc with hc | hc
    · exact Ex.few_all x b (h (s, x) (by simp)).2 c hc
    · exact laid_few l _ (fun a ha => h a (by simp [ha])) c hc
theorem Prg.few_all {L : List Tok} {p : ProgC} (h : Prg L (.ok p)) (hr : ToksOk L) : ∀ c ∈ p.all, c.few 5 := by
  obtain ⟨l, hs, _⟩ := h.ex hr
  rw [hs.all]
  exact laid_few l 0 hs.ok
def ParseV (r : PRes) (v : Value) (I' : Hp) : Prop := ∃ vi vl vo va ns, v = .tuple #[.agg #[vi, vl, vo, va], .agg #[.int .i64 r.line, .int .i64 r.col], .int .i64 r.err] ∧ ProgV I' vi vl vo va r.p ns ∧ ∀ o ∈ ns, o.c.few 5
theorem ProgV.nil (I : Hp) : ProgV I N0 N0 N0 N0 noP [] := ⟨Slc.nil _ _, Slc.nil _ _, Slc.nil _ _, Slc.nil _ _, fun o ho => (by cases ho), rfl⟩
theorem scs_one (l : List ByteArray) : ∀ c ∈ scs l, c.length = 1 := by
  intro c hc
  obtain ⟨x, _, rfl⟩ := List.mem_map.1 hc
  rfl
theorem nds_eight (l : List NodeV) : ∀ c ∈ nds l, c.length = 8 := by
  intro c hc
  obtain ⟨x, _, rfl⟩ := List.mem_map.1 hc
  rfl
theorem lts_two (l : List LetC) : ∀ c ∈ l.map LetC.cells, c.length = 2 := by
  intro c hc
  obtain ⟨x, _, rfl⟩ := List.mem_map.1 hc
  rfl
theorem parse_any (s : ByteArray) {I : Hp} (hT : Tabs I) (hM : Mx I) (hE : Errs I) (hs : s.size ≤ 60000) : Fun Tryz.prog 27 [.string s] I [] (fun v I' _ => ParseV (parseZ s) v I') := by
  have hfine := lexZ_fine hs
  intro w hw
  refine enter1 _ Tryz.func27 rfl Tryz.ntmps27 rfl ?_ hw;refine sR ?_;refine o_alloc trivial rfl Tryz.zeroValue26 rfl (fun b2 => ?_);refine o_alloc trivial rfl Tryz.zeroValue48 rfl (fun b3 => ?_);refine oV ?_;refine nS ?_;refine oV ?_;refine oI Tryz.call57 rfl (lex_any s hT hM hs) ?_;rintro _ I1 hx1 ⟨u1, rfl, hs1⟩;iterate 4 refine oV ?_
  refine o_alloc trivial rfl Tryz.zeroValue48 rfl (fun b6 => ?_);refine oV ?_;refine oS Tryz.sizeOf48 ?_;refine oV ?_;refine nU ?_;iterate 2 refine oV ?_
  refine nT ?_;refine cC rfl (fun h1 => ?_) (fun h1 => ?_)
  ·
   have f1 := h1;try simp only [bl] at f1
   have hz : parseZ s = ⟨noP, (lexZ s).line, (lexZ s).col, (lexZ s).err⟩ := by unfold parseZ; rw [if_pos (by simpa using h1)]
   refine cS ?_;refine h_beginB (m := 6) [.box b6 _] (by repeat constructor) (by kernel_rfl) rfl ?_;refine qT (i := 0) (qB 6 1) (Hp.Le.refl _) rfl rfl (o_buildS trivial rfl (bld26) rfl .nil qF) ?_;refine qT (i := 1) (qB 6 3) (Hp.Le.refl _) rfl rfl (oA Tryz.isAgg48 Tryz.sizeOf48 qF) ?_;refine qT (i := 2) (qB 6 7) (Hp.Le.refl _) rfl rfl (oV qF) ?_;refine qO (i := 3) (qB 6 15) rfl ?_;refine oS Tryz.sizeOf26 ?_;refine qM (Hp.Le.refl _) ?_;refine qO (i := 4) (qB 6 31) rfl ?_;refine oS Tryz.sizeOf48 ?_;refine qM (Hp.Le.refl _) ?_;refine qT (i := 5) (qB 6 63) (Hp.Le.refl _) rfl rfl (oV qF) ?_;refine h_end (by kernel_rfl) ?_;refine tC (cT (tR ?_));refine retR rfl (.agg Tryz.isAgg26 Tryz.sizeOf26 rfl (by repeat constructor) rfl (.agg Tryz.isAgg48 Tryz.sizeOf48 rfl (by repeat constructor) rfl (.tmp rfl .nil))) ?_;refine leaf hx1 (List.nil_sublist _) ?_
   rw [hz]
   exact ⟨N0, N0, N0, N0, [], rfl, ProgV.nil _, fun o ho => by cases ho⟩
  have f1 := h1;try simp only [bl] at f1
  have hz : parseZ s = parseT s (prgZ (lexZ s).toks) := by unfold parseZ; rw [if_neg (by simpa using h1)]
  have hP := prgZ_is (lexZ s).toks
  generalize prgZ (lexZ s).toks = o at hz hP
  have htf := hfine.few
  have hsm : TkSmall (lexZ s).toks := fun t ht => Nat.le_trans (hfine.small t ht) hs
  refine kS ?_;refine oV ?_;refine o_buildS trivial rfl (bld101) rfl (.cons rfl (by first | exact (Ws.cells1 (by assumption)).1 | exact (Slc.cells1 (by assumption)).1 | rfl) (by rfl) (by repeat constructor) .nil) ?_;refine o_box trivial rfl rfl rfl (fun b24 => ?_);refine oV ?_;refine nU ?_;refine oV ?_;refine oC trivial rfl Tryz.call58 rfl (rdProgram_any b24 u1 (lexZ s).toks (hM.le hx1.le) (hE.le hx1.le) hs1 (by omega) hsm hfine.ok hP) (by repeat constructor) ?_;rintro _ I2 _ hx2 ⟨ok, i, us, vi, vl, vo, va, wi, wl, wo, wa, ins, ls, outs, ns, rfl, rfl, hi, hno, hyes⟩;refine oV ?_;refine nT ?_;refine cC rfl (fun h2 => ?_) (fun h2 => ?_)
  ·
   have f2 := h2;try simp only [bl] at f2
   have hk : ok = false := by simpa using f2
   have hbad := hno hk
   refine cS (sR ?_);refine oV ?_;refine oC trivial rfl Tryz.call59 rfl (rdNext_any b24 i u1 us vi vl vo va (lexZ s).toks (hs1.le hx2.le)) (by repeat constructor) ?_;rintro _ _ _ hx3 ⟨rfl, rfl, rfl⟩;iterate 3 refine oV ?_
   refine o_alloc trivial rfl Tryz.zeroValue103 rfl (fun b9 => ?_);refine oS Tryz.sizeOf103 ?_;refine oV ?_;refine nS ?_;refine oV ?_;refine nT ?_;refine cC rfl (fun h3 => ?_) (fun h3 => ?_)
   ·
    have f3 := h3;try simp only [bl] at f3
    refine cS ?_;refine h_beginB (m := 6) [.box b9 _] (by repeat constructor) (by kernel_rfl) rfl ?_;refine qT (i := 0) (qB 6 1) (Hp.Le.refl _) rfl rfl (o_buildS trivial rfl (bld26) rfl .nil qF) ?_;refine qT (i := 1) (qB 6 3) (Hp.Le.refl _) rfl rfl (oF 2 Tryz.underlying103 Tryz.sizeOf48 qF) ?_;refine qT (i := 2) (qB 6 7) (Hp.Le.refl _) rfl rfl (oA Tryz.isAgg48 Tryz.sizeOf48 qF) ?_;refine qO (i := 3) (qB 6 15) rfl ?_;refine oS Tryz.sizeOf26 ?_;refine qM (Hp.Le.refl _) ?_;refine qO (i := 4) (qB 6 31) rfl ?_;refine oS Tryz.sizeOf48 ?_;refine qM (Hp.Le.refl _) ?_;refine qT (i := 5) (qB 6 63) (Hp.Le.refl _) rfl rfl (oV qF) ?_;refine h_end (by kernel_rfl) ?_;refine tC (cT (tR (tR ?_)));refine retR rfl (.agg Tryz.isAgg26 Tryz.sizeOf26 rfl (by repeat constructor) rfl (.agg Tryz.isAgg48 Tryz.sizeOf48 rfl (by repeat constructor) rfl (.tmp rfl .nil))) ?_;refine leaf (hx1.trans hx2 (Nat.le_refl _)) (List.nil_sublist _) ?_
    rw [hz, hbad, drop_cons (by simpa using h3)]
    exact ⟨N0, N0, N0, N0, [], rfl, ProgV.nil _, fun o ho => by cases ho⟩
   have f3 := h3;try simp only [bl] at f3
   refine kS ?_;refine o_buildS trivial rfl (bld26) rfl .nil ?_;iterate 2 refine oV ?_
   refine o_lenS trivial rfl Tryz.underlying9 rfl ?_;refine oQ Tryz.call60 rfl (place_any s (s.size : Nat) (by omega)) ?_;refine oS Tryz.sizeOf26 ?_;refine oS Tryz.sizeOf48 ?_;refine oV ?_;refine nF ?_;refine retR rfl (.agg Tryz.isAgg26 Tryz.sizeOf26 rfl (by repeat constructor) rfl (.agg Tryz.isAgg48 Tryz.sizeOf48 rfl (by repeat constructor) rfl (.tmp rfl .nil))) ?_;refine leaf (hx1.trans hx2 (Nat.le_refl _)) (List.nil_sublist _) ?_
   rw [hz, hbad, List.drop_eq_nil_of_le (by have := f3; omega)]
   exact ⟨N0, N0, N0, N0, [], rfl, ProgV.nil _, fun o ho => by cases ho⟩
  have f2 := h2;try simp only [bl] at f2
  have hk : ok = true := by simpa using f2
  obtain ⟨rfl, rfl, rfl, rfl, hok, rfl, hb1, hb2, hb3, hb4⟩ := hyes hk
  have hfew : ∀ o ∈ ns, o.c.few 5 := fun o ho => Prg.few_all hP hfine.ok o.c (List.mem_map.2 ⟨o, ho, rfl⟩)
  refine cK (tC (cS (cS ?_)));refine c_sealR (u := wi) (xss := scs ins) (by repeat constructor) (scs_len _) (scs_one _) (by unfold maxLen; omega) (fun I3 hx3 hsi => ?_);refine c_sealR (u := wl) (xss := ls.map LetC.cells) (by repeat constructor) (List.length_map _) (lts_two _) (by unfold maxLen; omega) (fun I4 hx4 hsl => ?_);refine c_sealR (u := wo) (xss := scs outs) (by repeat constructor) (scs_len _) (scs_one _) (by unfold maxLen; omega) (fun I5 hx5 hso => ?_);refine c_sealR (u := wa) (xss := nds ns) (by repeat constructor) (nds_len _) (nds_eight _) (by unfold maxLen; omega) (fun I6 hx6 hsa => ?_)
  have hsi := hsi.le (hx4.le.trans (hx5.le.trans hx6.le))
  have hsl := hsl.le (hx5.le.trans hx6.le)
  have hso := hso.le hx6.le
  have hpv : ProgV I6 wi wl wo wa ⟨ins, ls, outs, ns.map NodeV.c⟩ ns := ⟨hsi, hsl, hso, hsa, fun o ho => (hok o ho).le (hx3.le.trans (hx4.le.trans (hx5.le.trans hx6.le))), rfl⟩
  have hx16 : Ext w.heap.size I I6 := hx1.trans (hx2.trans (hx3.trans (hx4.trans (hx5.trans hx6 (Nat.le_refl _)) (Nat.le_refl _)) (Nat.le_refl _)) (Nat.le_refl _)) (Nat.le_refl _)
  refine cR ?_;iterate 2 refine oV ?_
  refine oF 3 Tryz.underlying101 Tryz.sizeOf26 ?_;refine oA Tryz.isAgg26 Tryz.sizeOf26 ?_;refine oQ Tryz.call26 rfl (trRight_any wi wl wo wa _ ns hpv (fun o ho => ⟨by have := (hfew o ho).1; omega, by have := (hfew o ho).2; omega⟩)) ?_;refine oV ?_;refine nT ?_;refine cC rfl (fun h4 => ?_) (fun h4 => ?_)
  ·
   have f4 := h4;try simp only [bl] at f4
   refine sR ?_;refine o_buildS trivial rfl (bld26) rfl .nil ?_;refine o_buildS trivial rfl (bld48) rfl (.cons rfl rfl rfl (by repeat constructor) (.cons rfl rfl rfl (by repeat constructor) .nil)) ?_;refine oS Tryz.sizeOf26 ?_;refine oS Tryz.sizeOf48 ?_;refine oV ?_;refine nF ?_;refine retR rfl (.agg Tryz.isAgg26 Tryz.sizeOf26 rfl (by repeat constructor) rfl (.agg Tryz.isAgg48 Tryz.sizeOf48 rfl (by repeat constructor) rfl (.tmp rfl .nil))) ?_;refine leaf hx16 (List.nil_sublist _) ?_
   rw [hz]
   unfold parseT
   dsimp only
   rw [if_neg (by simpa using h4)]
   exact ⟨N0, N0, N0, N0, [], rfl, ProgV.nil _, fun o ho => by cases ho⟩
  have f4 := h4;try simp only [bl] at f4
  refine kS ?_;iterate 2 refine oV ?_
  refine oF 3 Tryz.underlying101 Tryz.sizeOf26 ?_;refine oA Tryz.isAgg26 Tryz.sizeOf26 ?_;refine o_buildS trivial rfl (bld48) rfl .nil ?_;refine oS Tryz.sizeOf26 ?_;refine oS Tryz.sizeOf48 ?_;refine oV ?_;refine nE ?_;refine retR rfl (.agg Tryz.isAgg26 Tryz.sizeOf26 rfl (by repeat constructor) rfl (.agg Tryz.isAgg48 Tryz.sizeOf48 rfl (by repeat constructor) rfl (.tmp rfl .nil))) ?_;refine leaf hx16 (List.nil_sublist _) ?_
  rw [hz]
  unfold parseT
  dsimp only
  rw [if_pos (by simpa using h4)]
  exact ⟨wi, wl, wo, wa, ns, rfl, hpv, hfew⟩
def isR (bad : Bool) (L : List Tok) (i : Nat) (k : Int) (s : ByteArray) : Bool := !bad && hdT (L.drop i) k s
theorem add_none {L : List Tok} {j : Nat} (h : (isR false L j 2 plusS || isR false L j 2 minusS) = false) : hdK addK (L.drop j) = none := by
  unfold isR at h
  simp only [Bool.not_false, Bool.true_and, Bool.or_eq_false_iff] at h
  cases hr : L.drop j with
  | nil => rfl
  | cons x r =>
    rw [hr] at h
    simp only [hdT] at h
    show addK x = none
    unfold addK
    rw [h.1, h.2]; rfl
end Go.Proofs.YtfcmhcaggdakbaaGreatDoor
namespace Go.Tw
open Go
theorem Few.pow {k : Nat} {q : Rat} (h : Few k q) (m : Nat) : Few (k * m + 1) (q ^ m) := by
  have key : ∀ a : Nat, a < 4294967296 ^ k → a ^ m < 4294967296 ^ (k * m + 1) := fun a ha => by
    have h2 : a ^ m ≤ (4294967296 ^ k) ^ m := Nat.pow_le_pow_left (Nat.le_of_lt ha) m
    rw [← Nat.pow_mul] at h2
    exact Nat.lt_of_le_of_lt h2 (Nat.pow_lt_pow_right (by decide) (Nat.lt_succ_self _))
  exact ⟨by rw [Rat.num_pow, Int.natAbs_pow]; exact key _ h.num, by rw [Rat.den_pow]; exact key _ h.den⟩
theorem RV.at_ {I : Hp} {v : Value} {rs : List RV} (h : Slc I 3 v (rcs rs)) {i : Nat} {r : RV} (hr : rs[i]? = some r) : ∀ k y, ([.bool (decide (r.q.num < 0)), r.vn, r.vd] : List Value)[k]? = some y → I.cell? ⟨slcB v, slcO v + i * 3 + k, none⟩ = some y :=
  h.cells i _ (by unfold rcs; rw [List.getElem?_map, hr]; rfl)
end Go.Tw
namespace Go.Proofs.YtfcmhcaggdakbaaGreatDoor
open Go Go.Tw
theorem rFew_any (vx : Value) (xs : List NV) (k : Int) {I : Hp} (h : PtV I vx xs) : Fun Tryz.prog 40 [vx, .int .i64 k] I [] (fun v _ _ => v = .bool (xs.all fun x => decide ((x.n.length : Int) ≤ k ∧ (x.d.length : Int) ≤ k))) := by
  have hl1 : (xs.map NV.cells).length = xs.length := List.length_map _
  have hs1 := h.s
  have hm1 := hs1.most
  unfold maxLen at hm1
  intro w hw
  refine enter2 _ Tryz.func40 rfl Tryz.ntmps40 rfl ?_ hw;refine sR ?_;refine oV ?_;refine nU ?_;refine oV ?_;refine oN (tC (cB ?_));refine c_loop (ι := Nat) [0, 1] (.cons rfl (.cons rfl .nil)) (fun i => xs.length - i) (fun i E0 => (5, .int .i64 (i : Nat)) :: E0) (fun i => St w [] I []) (fun i => i ≤ xs.length ∧ ((xs.take i).all fun x => decide ((x.n.length : Int) ≤ k ∧ (x.d.length : Int) ≤ k)) = true) (0) (sC rfl (sC rfl (sC rfl sN))) (fun _ h => h) (⟨Nat.zero_le _, rfl⟩) ?_;rintro i ⟨hi, he⟩
  try dsimp only
  refine cS (sR ?_);iterate 2 refine oV ?_
  refine o_lenSlc trivial rfl Tryz.underlying72 rfl (hs1) ?_;refine oV ?_;refine nT ?_;refine cC rfl (fun h1 => ?_) (fun h1 => ?_)
  ·
   have f1 := h1;try simp only [bl] at f1
   have hi1 : i < xs.length := by omega
   obtain ⟨x, hx⟩ : ∃ x, xs[i]? = some x := ⟨xs[i], List.getElem?_eq_getElem hi1⟩
   obtain ⟨hxn, hxd⟩ := h.ok x (List.mem_of_getElem? hx)
   refine cK (tC (cS (cB (sR ?_))));iterate 2 refine oV ?_
   refine o_elem trivial rfl Tryz.underlying72 Tryz.sizeOf35 rfl (hs1) rfl (by omega) ?_;refine oF 1 Tryz.underlying35 Tryz.sizeOf33 ?_;refine o_load1I trivial rfl Tryz.isAgg33 rfl (NV.at_ h hx 1 _ rfl) ?_;refine o_lenW trivial rfl Tryz.underlying33 rfl (hxn) ?_;iterate 2 refine oV ?_
   refine' o_or trivial trivial rfl rfl rfl rfl rfl rfl rfl rfl (fun hb20 => ?_) ?_;rotate_left
   ·
    have fb20 := hb20
    try simp only [bl] at fb20
    iterate 2 refine gV hb20 ?_
    refine o_elem (wS rfl rfl hb20) rfl Tryz.underlying72 Tryz.sizeOf35 rfl (hs1) rfl (by omega) ?_;refine gF hb20 2 Tryz.underlying35 Tryz.sizeOf33 ?_;refine o_load1I (wS rfl rfl hb20) rfl Tryz.isAgg33 rfl (NV.at_ h hx 2 _ rfl) ?_;refine o_lenW (wS rfl rfl hb20) rfl Tryz.underlying33 rfl (hxd) ?_;iterate 2 refine gV hb20 ?_
    refine oN ?_;exact joins rfl
   refine nT ?_;refine cC rfl (fun h2 => ?_) (fun h2 => ?_)
   ·
    have f2 := h2;try simp only [bl] at f2
    refine sR ?_;refine oV ?_;refine oN (tC (cT (blk_r (tR (tR (blk_r (tR ?_)))))));refine ret1 rfl rfl ?_;refine leaf0 (congrArg Value.bool ?_)
    symm
    rw [List.all_eq_false]
    exact ⟨x, List.mem_of_getElem? hx, by simp; omega⟩
   have f2 := h2;try simp only [bl] at f2
   refine cK (blk_n (tC (cR ?_)));refine oV ?_
   first | (refine o_add trivial rfl rfl rfl ?_ ?_; (omega)) | refine oV ?_
   refine oV ?_;refine oN ?_;exact again (i + 1) (sC rfl (sC rfl (sC rfl sN))) (fun _ h => h) (by show xs.length - (i + 1) < xs.length - i; omega) ⟨by show i + 1 ≤ _; omega, by rw [List.take_add_one, hx, List.all_append, he]; simp; omega⟩
  have f1 := h1;try simp only [bl] at f1
  refine c_exit (then_x (then_x (blk_eq rfl (tC (sR ?_)))));refine oV ?_;refine nE ?_;refine ret1 rfl rfl ?_;refine leaf0 (congrArg Value.bool ?_)
  rw [List.take_of_length_le (by omega)] at he
  exact he.symm
def bgGo (all : List NodeC) : List LetC → Int → Option Int
  | [], fr => some fr
  | l :: ls, fr => if nameZ l.name = true ∧ fr ≤ l.root ∧ l.root < all.length ∧ begZ all fr all.length l.root = fr then bgGo all ls (l.root + 1) else none
theorem bgGo_ex (all : List NodeC) : ∀ (l : List (ByteArray × Ex)) (b : Nat), LetsOk l → (∀ j c, (laid l b).2[j]? = some c → all[b + j]? = some c) → b + (laid l b).2.length ≤ all.length → bgGo all (laid l b).1 b = some ((b + (laid l b).2.length : Nat) : Int)
  | [], b, _, _, _ => by simp [bgGo, laid]
  | (s, x) :: l, b, h, hat, hle => by
    obtain ⟨h1, h2⟩ := h _ List.mem_cons_self
    have hn := x.n_pos
    have hln : (x.nd b ++ (laid l (b + x.n)).2).length = x.n + (laid l (b + x.n)).2.length := by rw [List.length_append, x.nd_len]
    change b + (x.nd b ++ (laid l (b + x.n)).2).length ≤ _ at hle
    have hA : At all b x := fun j c hj => hat j c (by
      show (x.nd b ++ (laid l (b + x.n)).2)[j]? = some c
      rw [List.getElem?_append_left (List.getElem?_eq_some_iff.1 hj).1]; exact hj)
    have hB := begZ_ex (fr := (b : Int)) (by omega) x b all.length h2 hA (Int.le_refl _) (by omega)
    show bgGo all (⟨s, (b : Int) + x.n - 1⟩ :: (laid l (b + x.n)).1) b = _
    unfold bgGo
    rw [if_pos ⟨h1, by dsimp only; omega, by dsimp only; omega, hB⟩]
    have e : ((b : Int) + x.n - 1 + 1) = ((b + x.n : Nat) : Int) := by omega
    dsimp only
    rw [e, bgGo_ex all l (b + x.n) (fun a ha => h a (List.mem_cons_of_mem _ ha)) (fun j c hj => by
      have := hat (x.n + j) c (by
        show (x.nd b ++ (laid l (b + x.n)).2)[x.n + j]? = some c
        rw [List.getElem?_append_right (by rw [x.nd_len]; omega), x.nd_len, Nat.add_sub_cancel_left]; exact hj)
      rw [Nat.add_assoc]; exact this) (by omega)]
    show some _ = some (((b + (x.nd b ++ (laid l (b + x.n)).2).length : Nat)) : Int)
    rw [hln]
    congr 2
    omega
def fewP (p : ProgC) (most : Int) : Bool := decide ((p.all.length : Int) ≤ most ∧ p.ins.length ≤ 8 ∧ p.lets.length ≤ 8 ∧ p.outs.length ≤ 8) && p.all.all fun c => decide (c.n.length ≤ 6 ∧ c.d.length ≤ 6 ∧ c.name.size ≤ 60)
theorem PtV.lone {I : Hp} {b : Nat} {neg : Bool} {n d : List Nat} {vn vd : Value} {T : TypeId} {fz : Nat × Nat} (hb : I b = some (.cells ([.bool neg, vn, vd] ++ [] : List Value).toArray T fz)) (hn : Ws I vn n) (hd : Ws I vd d) : PtV I (.slice (some ⟨b, 0, none⟩) 1 1) [⟨neg, n, d, vn, vd⟩] :=
  ⟨Slc.of_box (xss := [[.bool neg, vn, vd]]) hb (fun c hc => by rw [List.mem_singleton.1 hc]; rfl) (by unfold maxLen; simp) (Nat.le_refl _), fun x hx => by rw [List.mem_singleton.1 hx]; exact ⟨hn, hd⟩⟩
def expoF : List Tok → Option Int × List Tok
  | [] => (none, [])
  | x :: r => if isT x 2 minusS then (match r with
      | [] => (none, [])
      | y :: r' => if y.kind = 1 then (match expoZ y.text with | some n => (some (-(n : Int)), r') | none => (none, y :: r')) else (none, y :: r'))
    else if x.kind = 1 then (match expoZ x.text with | some n => (some (n : Int), r) | none => (none, x :: r)) else (none, x :: r)
theorem Expo.fn {r r1 : List Tok} {e : Option Int} (h : Expo r e r1) : expoF r = (e, r1) := by
  cases h with
  | neg h1 h2 h3 => simp only [expoF, h1, if_true, h2, h3]
  | neg_end h1 => simp only [expoF, h1, if_true]
  | @neg_bad x y r h1 h2 =>
    simp only [expoF, h1, if_true]
    by_cases hk : y.kind = 1
    · rw [if_pos hk, h2 hk]
    · rw [if_neg hk]
  | pos h1 h2 h3 => simp [expoF, h1, h2, h3]
  | pos_end => rfl
  | @pos_bad y r h1 h2 =>
    simp only [expoF, h1]
    by_cases hk : y.kind = 1
    · rw [if_neg (by decide), if_pos hk, h2 hk]
    · rw [if_neg (by decide), if_neg hk]
def psF : Nat → Lv → List NodeC → List Tok → POut
  | 0, _, _, r => .bad r
  | f + 1, .atom, all, r => match r with
    | [] => .bad []
    | x :: r' => if isT x 2 lpar then (match psF f .sum all r' with
        | .bad r1 => .bad r1
        | .ok a1 r1 => if hdT r1 2 rpar then .ok a1 (r1.drop 1) else .bad r1)
      else if leafT x then .ok (all ++ [leafN x]) r' else .bad (x :: r')
  | f + 1, .powL, all, r => match r with
    | [] => .ok all []
    | x :: r' => if isT x 2 Go.Tw.caret then (match expoF r' with
        | (some e, r1) => .ok (all ++ [powN (lastI all) e]) r1
        | (none, r1) => .bad r1) else .ok all (x :: r')
  | f + 1, .power, all, r => match psF f .atom all r with
    | .bad r1 => .bad r1
    | .ok a1 r1 => psF f .powL a1 r1
  | f + 1, .factor, all, r => match r with
    | [] => psF f .power all []
    | x :: r' => if isT x 2 minusS then (match psF f .factor all r' with
        | .bad r1 => .bad r1
        | .ok a1 r1 => .ok (a1 ++ [negN (lastI a1)]) r1) else psF f .power all (x :: r')
  | f + 1, .prodL, all, r => match hdK mulK r with
    | none => .ok all r
    | some k => match psF f .factor all (r.drop 1) with
      | .bad r1 => .bad r1
      | .ok a1 r1 => psF f .prodL (a1 ++ [binN k (lastI all) (lastI a1)]) r1
  | f + 1, .product, all, r => match psF f .factor all r with
    | .bad r1 => .bad r1
    | .ok a1 r1 => psF f .prodL a1 r1
  | f + 1, .sumL, all, r => match hdK addK r with
    | none => .ok all r
    | some k => match psF f .product all (r.drop 1) with
      | .bad r1 => .bad r1
      | .ok a1 r1 => psF f .sumL (a1 ++ [binN k (lastI all) (lastI a1)]) r1
  | f + 1, .sum, all, r => match psF f .product all r with
    | .bad r1 => .bad r1
    | .ok a1 r1 => psF f .sumL a1 r1
def rkL : Lv → Nat
  | .atom => 1
  | .powL => 1
  | .power => 2
  | .factor => 3
  | .prodL => 1
  | .product => 4
  | .sumL => 1
  | .sum => 5
theorem ps_fn {lv : Lv} {all : List NodeC} {r : List Tok} {o : POut} (h : Ps lv all r o) : ∀ f, 8 * r.length + rkL lv ≤ f → psF f lv all r = o := by
  have len1 : ∀ {lv : Lv} {all a1 : List NodeC} {r r1 : List Tok}, Ps lv all r (.ok a1 r1) → r1.length + lv.need ≤ r.length := fun h => h.len
  induction h with
  | par_bad hx h ih =>
    intro f hf
    obtain ⟨f, rfl⟩ : ∃ g, f = g + 1 := ⟨f - 1, by simp only [rkL] at hf; omega⟩
    simp only [List.length_cons, rkL] at hf
    simp only [psF, hx, if_true]
    rw [ih f (by simp only [rkL]; omega)]
  | par_ok hx h hy ih =>
    intro f hf
    obtain ⟨f, rfl⟩ : ∃ g, f = g + 1 := ⟨f - 1, by simp only [rkL] at hf; omega⟩
    simp only [List.length_cons, rkL] at hf
    simp only [psF, hx, if_true]
    rw [ih f (by simp only [rkL]; omega)]
    simp only [hdT, hy, if_true, List.drop_one, List.tail_cons]
  | par_no hx h hy ih =>
    intro f hf
    obtain ⟨f, rfl⟩ : ∃ g, f = g + 1 := ⟨f - 1, by simp only [rkL] at hf; omega⟩
    simp only [List.length_cons, rkL] at hf
    simp only [psF, hx, if_true]
    rw [ih f (by simp only [rkL]; omega)]
    simp only [hy]
    rfl
  | @leaf all x r hl =>
    intro f hf
    obtain ⟨f, rfl⟩ : ∃ g, f = g + 1 := ⟨f - 1, by simp only [rkL] at hf; omega⟩
    have hp : isT x 2 lpar = false := by
      cases hb : isT x 2 lpar with
      | false => rfl
      | true => rw [leafT, (isT_iff.1 hb).1] at hl; exact absurd hl (by simp)
    simp [psF, hp, hl]
  | none =>
    intro f hf
    obtain ⟨f, rfl⟩ : ∃ g, f = g + 1 := ⟨f - 1, by simp only [rkL] at hf; omega⟩
    rfl
  | no h1 h2 =>
    intro f hf
    obtain ⟨f, rfl⟩ : ∃ g, f = g + 1 := ⟨f - 1, by simp only [rkL] at hf; omega⟩
    simp [psF, h1, h2]
  | @pow_none all r h1 =>
    intro f hf
    obtain ⟨f, rfl⟩ : ∃ g, f = g + 1 := ⟨f - 1, by simp only [rkL] at hf; omega⟩
    cases r with
    | nil => rfl
    | cons x r => simp only [hdT] at h1; simp [psF, h1]
  | pow_ok h1 h2 =>
    intro f hf
    obtain ⟨f, rfl⟩ : ∃ g, f = g + 1 := ⟨f - 1, by simp only [rkL] at hf; omega⟩
    simp [psF, h1, Expo.fn h2]
  | pow_bad h1 h2 =>
    intro f hf
    obtain ⟨f, rfl⟩ : ∃ g, f = g + 1 := ⟨f - 1, by simp only [rkL] at hf; omega⟩
    simp [psF, h1, Expo.fn h2]
  | power_bad h ih =>
    intro f hf
    obtain ⟨f, rfl⟩ : ∃ g, f = g + 1 := ⟨f - 1, by simp only [rkL] at hf; omega⟩
    simp only [psF]
    rw [ih f (by simp only [rkL] at hf ⊢; omega)]
  | power_ok h h2 ih ih2 =>
    intro f hf
    obtain ⟨f, rfl⟩ : ∃ g, f = g + 1 := ⟨f - 1, by simp only [rkL] at hf; omega⟩
    have hl := len1 h
    simp only [psF]
    rw [ih f (by simp only [rkL] at hf ⊢; omega)]
    exact ih2 f (by simp only [rkL, Lv.need] at hf hl ⊢; omega)
  | neg_bad hx h ih =>
    intro f hf
    obtain ⟨f, rfl⟩ : ∃ g, f = g + 1 := ⟨f - 1, by simp only [rkL] at hf; omega⟩
    simp only [List.length_cons, rkL] at hf
    simp only [psF, hx, if_true]
    rw [ih f (by simp only [rkL]; omega)]
  | neg_ok hx h ih =>
    intro f hf
    obtain ⟨f, rfl⟩ : ∃ g, f = g + 1 := ⟨f - 1, by simp only [rkL] at hf; omega⟩
    simp only [List.length_cons, rkL] at hf
    simp only [psF, hx, if_true]
    rw [ih f (by simp only [rkL]; omega)]
  | @fac all r o h1 h ih =>
    intro f hf
    obtain ⟨f, rfl⟩ : ∃ g, f = g + 1 := ⟨f - 1, by simp only [rkL] at hf; omega⟩
    have := ih f (by simp only [rkL] at hf ⊢; omega)
    cases r with
    | nil => exact this
    | cons x r =>
      simp only [hdT] at h1
      simp only [psF, h1]
      exact this
  | prodL_end h1 =>
    intro f hf
    obtain ⟨f, rfl⟩ : ∃ g, f = g + 1 := ⟨f - 1, by simp only [rkL] at hf; omega⟩
    simp only [psF, h1]
  | @prodL_bad all x r r1 k hk h ih =>
    intro f hf
    obtain ⟨f, rfl⟩ : ∃ g, f = g + 1 := ⟨f - 1, by simp only [rkL] at hf; omega⟩
    simp only [List.length_cons, rkL] at hf
    have hk' : hdK mulK (x :: r) = some k := hk
    simp only [psF, hk', List.drop_one, List.tail_cons]
    rw [ih f (by simp only [rkL]; omega)]
  | @prodL_ok all a1 x r r1 k o hk h h2 ih ih2 =>
    intro f hf
    obtain ⟨f, rfl⟩ : ∃ g, f = g + 1 := ⟨f - 1, by simp only [rkL] at hf; omega⟩
    simp only [List.length_cons, rkL] at hf
    have hl := len1 h
    have hk' : hdK mulK (x :: r) = some k := hk
    simp only [psF, hk', List.drop_one, List.tail_cons]
    rw [ih f (by simp only [rkL]; omega)]
    exact ih2 f (by simp only [rkL, Lv.need] at hl ⊢; omega)
  | product_bad h ih =>
    intro f hf
    obtain ⟨f, rfl⟩ : ∃ g, f = g + 1 := ⟨f - 1, by simp only [rkL] at hf; omega⟩
    simp only [psF]
    rw [ih f (by simp only [rkL] at hf ⊢; omega)]
  | product_ok h h2 ih ih2 =>
    intro f hf
    obtain ⟨f, rfl⟩ : ∃ g, f = g + 1 := ⟨f - 1, by simp only [rkL] at hf; omega⟩
    have hl := len1 h
    simp only [psF]
    rw [ih f (by simp only [rkL] at hf ⊢; omega)]
    exact ih2 f (by simp only [rkL, Lv.need] at hf hl ⊢; omega)
  | sumL_end h1 =>
    intro f hf
    obtain ⟨f, rfl⟩ : ∃ g, f = g + 1 := ⟨f - 1, by simp only [rkL] at hf; omega⟩
    simp only [psF, h1]
  | @sumL_bad all x r r1 k hk h ih =>
    intro f hf
    obtain ⟨f, rfl⟩ : ∃ g, f = g + 1 := ⟨f - 1, by simp only [rkL] at hf; omega⟩
    simp only [List.length_cons, rkL] at hf
    have hk' : hdK addK (x :: r) = some k := hk
    simp only [psF, hk', List.drop_one, List.tail_cons]
    rw [ih f (by simp only [rkL]; omega)]
  | @sumL_ok all a1 x r r1 k o hk h h2 ih ih2 =>
    intro f hf
    obtain ⟨f, rfl⟩ : ∃ g, f = g + 1 := ⟨f - 1, by simp only [rkL] at hf; omega⟩
    simp only [List.length_cons, rkL] at hf
    have hl := len1 h
    have hk' : hdK addK (x :: r) = some k := hk
    simp only [psF, hk', List.drop_one, List.tail_cons]
    rw [ih f (by simp only [rkL]; omega)]
    exact ih2 f (by simp only [rkL, Lv.need] at hl ⊢; omega)
  | sum_bad h ih =>
    intro f hf
    obtain ⟨f, rfl⟩ : ∃ g, f = g + 1 := ⟨f - 1, by simp only [rkL] at hf; omega⟩
    simp only [psF]
    rw [ih f (by simp only [rkL] at hf ⊢; omega)]
  | sum_ok h h2 ih ih2 =>
    intro f hf
    obtain ⟨f, rfl⟩ : ∃ g, f = g + 1 := ⟨f - 1, by simp only [rkL] at hf; omega⟩
    have hl := len1 h
    simp only [psF]
    rw [ih f (by simp only [rkL] at hf ⊢; omega)]
    exact ih2 f (by simp only [rkL, Lv.need] at hf hl ⊢; omega)
def lt1F (all : List NodeC) (r : List Tok) : LO := match r with
  | [] => .bad []
  | x :: r' => if nameT x then (if hdT r' 2 equalS then (match psF (8 * r'.length + 5) .sum all (r'.drop 1) with
      | .bad r1 => .bad r1
      | .ok a1 r1 => if hdT r1 2 semiS then .ok x.text a1 (r1.drop 1) else .bad r1) else .bad r') else .bad (x :: r')
theorem lt1_fn {all : List NodeC} {r : List Tok} {o : LO} (h : Lt1 all r o) : lt1F all r = o := by
  cases h with
  | noname h0 => cases r with
    | nil => rfl
    | cons x r => simp only [hdN] at h0; simp [lt1F, h0]
  | @noeq x r h0 h1 => simp only [lt1F, h0, if_true, h1]; rfl
  | @sumbad x y r r1 h0 h1 h2 =>
    have h1' : hdT (y :: r) 2 equalS = true := h1
    have := ps_fn h2 (8 * (y :: r).length + 5) (by simp only [rkL, List.length_cons]; omega)
    simp only [lt1F, h0, if_true, h1', List.drop_one, List.tail_cons, this]
  | @nosemi a1 x y r r1 h0 h1 h2 h3 =>
    have h1' : hdT (y :: r) 2 equalS = true := h1
    have := ps_fn h2 (8 * (y :: r).length + 5) (by simp only [rkL, List.length_cons]; omega)
    simp only [lt1F, h0, if_true, h1', List.drop_one, List.tail_cons, this, h3]
    rfl
  | @ok a1 x y z r r1 h0 h1 h2 h3 =>
    have h1' : hdT (y :: r) 2 equalS = true := h1
    have h3' : hdT (z :: r1) 2 semiS = true := h3
    have := ps_fn h2 (8 * (y :: r).length + 5) (by simp only [rkL, List.length_cons]; omega)
    simp only [lt1F, h0, if_true, h1', List.drop_one, List.tail_cons, this, h3']
def ltsF : Nat → List LetC → List NodeC → List Tok → LSO
  | 0, ls, all, r => .bad r
  | f + 1, ls, all, r => if hdT r 0 letS then (match lt1F all (r.drop 1) with
      | .bad r1 => .bad r1
      | .ok n a1 r1 => ltsF f (ls ++ [⟨n, lastI a1⟩]) a1 r1) else .ok ls all r
theorem lts_fn {ls : List LetC} {all : List NodeC} {r : List Tok} {o : LSO} (h : Lts ls all r o) : ∀ f, r.length < f → ltsF f ls all r = o := by
  induction h with
  | fin h0 =>
    intro f hf
    obtain ⟨f, rfl⟩ : ∃ g, f = g + 1 := ⟨f - 1, by omega⟩
    simp [ltsF, h0]
  | @bad ls all x r r1 h0 h1 =>
    intro f hf
    obtain ⟨f, rfl⟩ : ∃ g, f = g + 1 := ⟨f - 1, by omega⟩
    have h0' : hdT (x :: r) 0 letS = true := h0
    simp only [ltsF, h0', if_true, List.drop_one, List.tail_cons, lt1_fn h1]
  | @more ls all a1 x n r r1 o h0 h1 h2 ih =>
    intro f hf
    obtain ⟨f, rfl⟩ : ∃ g, f = g + 1 := ⟨f - 1, by omega⟩
    have hl := h1.len
    have h0' : hdT (x :: r) 0 letS = true := h0
    simp only [List.length_cons] at hf
    simp only [ltsF, h0', if_true, List.drop_one, List.tail_cons, lt1_fn h1, ih f (by omega)]
def prgF (r : List Tok) : PO :=
  if hdT r 0 inS then (match namesZ (r.drop 1) with
    | .bad r1 => .bad r1
    | .ok ins r1 => match ltsF (r1.length + 1) [] [] r1 with
      | .bad r2 => .bad r2
      | .ok ls all r2 => if hdT r2 0 outS then (match namesZ (r2.drop 1) with
          | .bad r3 => .bad r3
          | .ok outs [] => .ok ⟨ins, ls, outs, all⟩
          | .ok outs (z :: r3) => .bad (z :: r3)) else .bad r2) else .bad r
theorem prg_fn {r : List Tok} {o : PO} (h : Prg r o) : prgF r = o := by
  have h0' : ∀ {x : Tok} {r : List Tok} {k : Int} {t : ByteArray}, isT x k t = true → hdT (x :: r) k t = true := fun h => h
  cases h with
  | noin h0 => simp [prgF, h0]
  | insbad h0 h1 => simp [prgF, h0' h0, h1]
  | letsbad h0 h1 h2 => simp [prgF, h0' h0, h1, lts_fn h2 _ (Nat.lt_succ_self _)]
  | noout h0 h1 h2 h3 => simp [prgF, h0' h0, h1, lts_fn h2 _ (Nat.lt_succ_self _), h3]
  | outsbad h0 h1 h2 h3 h4 => simp [prgF, h0' h0, h1, lts_fn h2 _ (Nat.lt_succ_self _), h0' h3, h4]
  | tail h0 h1 h2 h3 h4 => simp [prgF, h0' h0, h1, lts_fn h2 _ (Nat.lt_succ_self _), h0' h3, h4]
  | ok h0 h1 h2 h3 h4 => simp [prgF, h0' h0, h1, lts_fn h2 _ (Nat.lt_succ_self _), h0' h3, h4]
theorem prgZ_fn (r : List Tok) : prgZ r = prgF r := (prg_fn (prgZ_is r)).symm
theorem prgZ_eq {r : List Tok} {o : PO} (h : Prg r o) : prgZ r = o := (prgZ_fn r).trans (prg_fn h)
def awT (k : Int) (s : ByteArray) (c : Int) : Tok := ⟨k, s, 1, c⟩
def awX : ByteArray := ⟨#[120]⟩
def awA : ByteArray := ⟨#[97]⟩
theorem nameZ_X : nameZ awX = true := by kernel_rfl
theorem nameZ_A : nameZ awA = true := by kernel_rfl
theorem isT_self {k : Int} {s : ByteArray} {c : Int} : isT (awT k s c) k s = true := by simp [isT, awT]
theorem isT_no {x : Tok} {k : Int} {t : ByteArray} (h : x.kind ≠ k) : isT x k t = false := by simp [isT, h]
theorem isT_un {k : Int} {s t : ByteArray} {c : Int} (h : s.data.toList ≠ t.data.toList) : isT (awT k s c) k t = false := by
  unfold isT awT
  rw [toList_data, toList_data]
  have : (s.data.toList == t.data.toList) = false := by simpa using h
  rw [this, Bool.and_false]
theorem nameT_X {c : Int} : nameT (awT 0 awX c) = true := by unfold nameT; simp [awT, nameZ_X]
theorem nameT_A {c : Int} : nameT (awT 0 awA c) = true := by unfold nameT; simp [awT, nameZ_A]
theorem namesZ_aw {c d : Int} {s : ByteArray} {r : List Tok} (h : nameT (awT 0 s c) = true) : namesZ (awT 0 s c :: awT 2 semiS d :: r) = .ok [s] r := by
  unfold namesZ
  rw [if_pos h, if_neg (by rw [isT_un (by decide)]; decide), if_pos isT_self]
  rfl
theorem rrFew_any (vi vl vo va : Value) (p : ProgC) (ns : List NodeV) (most : Int) {I : Hp} (hp : ProgV I vi vl vo va p ns) :
    Fun Tryz.prog 16 [.agg #[vi, vl, vo, va], .int .i64 most] I [] (fun v _ _ => v = .bool (fewP p most)) := by
  have hsi := hp.si
  have hsl := hp.sl
  have hso := hp.so
  have hsa := hp.sa
  have hli := scs_len p.ins
  have hlo := scs_len p.outs
  have hll : (p.lets.map LetC.cells).length = p.lets.length := List.length_map _
  have hla := nds_len ns
  have hal : p.all.length = ns.length := by rw [← hp.eq, List.length_map]
  have hm1 := hsa.most
  unfold maxLen at hm1
  intro w hw
  refine enter2 _ Tryz.func16 rfl Tryz.ntmps16 rfl ?_ hw;refine sR ?_;refine o_box trivial rfl rfl rfl (fun b2 => ?_);refine oV ?_;refine nU ?_;refine oF 3 Tryz.underlying26 Tryz.sizeOf24 ?_;refine oL Tryz.isAgg24 ?_;refine o_lenSlc trivial rfl Tryz.underlying24 rfl (hsa) ?_;iterate 2 refine oV ?_
  refine' o_or trivial trivial rfl rfl rfl rfl rfl rfl rfl rfl (fun hb12 => ?_) ?_;rotate_left
  ·
   have fb12 := hb12
   try simp only [bl] at fb12
   refine gF hb12 0 Tryz.underlying26 Tryz.sizeOf22 ?_;refine gL hb12 Tryz.isAgg22 ?_;refine o_lenSlc (wS rfl rfl hb12) rfl Tryz.underlying22 rfl (hsi) ?_;refine gV hb12 ?_;refine oN ?_;exact joins rfl
  refine' o_or trivial trivial rfl rfl rfl rfl rfl rfl rfl rfl (fun hb18 => ?_) ?_;rotate_left
  ·
   have fb18 := hb18
   try simp only [bl] at fb18
   refine gF hb18 1 Tryz.underlying26 Tryz.sizeOf23 ?_;refine gL hb18 Tryz.isAgg23 ?_;refine o_lenSlc (wS rfl rfl hb18) rfl Tryz.underlying23 rfl (hsl) ?_;refine gV hb18 ?_;refine oN ?_;exact joins rfl
  refine' o_or trivial trivial rfl rfl rfl rfl rfl rfl rfl rfl (fun hb24 => ?_) ?_;rotate_left
  ·
   have fb24 := hb24
   try simp only [bl] at fb24
   refine gF hb24 2 Tryz.underlying26 Tryz.sizeOf22 ?_;refine gL hb24 Tryz.isAgg22 ?_;refine o_lenSlc (wS rfl rfl hb24) rfl Tryz.underlying22 rfl (hso) ?_;refine gV hb24 ?_;refine oN ?_;exact joins rfl
  refine nT ?_;refine cC rfl (fun h1 => ?_) (fun h1 => ?_)
  ·
   have f1 := h1;try simp only [bl] at f1
   refine sR ?_;refine oV ?_;refine nF ?_;refine ret1 rfl rfl ?_;refine leaf0 (congrArg Value.bool ?_); unfold fewP; rw [decide_eq_false (by omega), Bool.false_and]
  have f1 := h1;try simp only [bl] at f1
  have hg : decide ((p.all.length : Int) ≤ most ∧ p.ins.length ≤ 8 ∧ p.lets.length ≤ 8 ∧ p.outs.length ≤ 8) = true := decide_eq_true (by omega)
  refine cK (tC (cS (sR ?_)));refine oV ?_;refine oN (tC (cB ?_));refine c_loop (ι := Nat) [2] (.cons rfl .nil) (fun i => ns.length - i) (fun i E0 => (5, .int .i64 (i : Nat)) :: E0) (fun i => St w [] I [.box b2 (.cells #[vi, vl, vo, va] 26 (0, 0))]) (fun i => i ≤ ns.length ∧ ((ns.take i).all fun o => decide (o.c.n.length ≤ 6 ∧ o.c.d.length ≤ 6 ∧ o.c.name.size ≤ 60)) = true) (0) (sC rfl (sC rfl sN)) (fun _ h => h) (⟨Nat.zero_le _, rfl⟩) ?_;rintro i ⟨hi, hall⟩
  try dsimp only
  refine cS (sR ?_);refine oV ?_;refine oF 3 Tryz.underlying26 Tryz.sizeOf24 ?_;refine oL Tryz.isAgg24 ?_;refine o_lenSlc trivial rfl Tryz.underlying24 rfl (hsa) ?_;refine oV ?_;refine nT ?_;refine cC rfl (fun h2 => ?_) (fun h2 => ?_)
  ·
   have f2 := h2;try simp only [bl] at f2
   obtain ⟨o, ho⟩ : ∃ o, ns[i]? = some o := ⟨ns[i]'(by omega), List.getElem?_eq_getElem (by omega)⟩
   have hom := List.mem_of_getElem? ho
   obtain ⟨hvn, hvd⟩ := hp.ok o hom
   refine cK (tC (cS (cB (sR ?_))));refine oF 3 Tryz.underlying26 Tryz.sizeOf24 ?_;refine oL Tryz.isAgg24 ?_;refine oV ?_;refine o_elem trivial rfl Tryz.underlying24 Tryz.sizeOf37 rfl (hsa) rfl (by omega) ?_;refine oF 5 Tryz.underlying37 Tryz.sizeOf35 ?_;refine o_loadAI trivial rfl Tryz.isAgg35 Tryz.sizeOf35 rfl rfl (fun k y hk => by have hc := nds_at hsa ho (5 + k) y (by rw [Nat.add_comm]; exact hk); rw [← Nat.add_assoc] at hc; exact hc) ?_;refine oB Tryz.underlying72 Tryz.sizeOf35 Tryz.zeroValue35 fun b43 => ?_;refine l_sealB .here (fun I1 hx1 hb43 => ?_);refine oQ Tryz.call40 rfl (rFew_any _ _ 6 (PtV.lone hb43 (hvn.le hx1.le) (hvd.le hx1.le))) ?_;refine oV ?_;refine oN (tC (cS ?_))
   rw [show ([(⟨o.c.neg, o.c.n, o.c.d, o.vn, o.vd⟩ : NV)].all fun x => decide ((x.n.length : Int) ≤ 6 ∧ (x.d.length : Int) ≤ 6)) = decide ((o.c.n.length : Int) ≤ 6 ∧ (o.c.d.length : Int) ≤ 6) from Bool.and_true _]
   refine cR ?_;iterate 2 refine oV ?_
   refine' o_or trivial trivial rfl rfl rfl rfl rfl rfl rfl rfl (fun hb47 => ?_) ?_;rotate_left
   ·
    have fb47 := hb47
    try simp only [bl] at fb47
    refine gF hb47 3 Tryz.underlying26 Tryz.sizeOf24 ?_;refine gL hb47 Tryz.isAgg24 ?_;refine gV hb47 ?_;refine o_elem (wS rfl rfl hb47) rfl Tryz.underlying24 Tryz.sizeOf37 rfl (hsa) rfl (by omega) ?_;refine gF hb47 4 Tryz.underlying37 Tryz.sizeOf9 ?_;refine o_load1I (wS rfl rfl hb47) rfl Tryz.isAgg9 rfl (hx1.le.cell (nds_at hsa ho 4 _ rfl)) ?_;refine o_lenS (wS rfl rfl hb47) rfl Tryz.underlying9 rfl ?_;refine gV hb47 ?_;refine oN ?_;exact joins rfl
   refine nT ?_;refine cC rfl (fun h3 => ?_) (fun h3 => ?_)
   ·
    have f3 := h3;try simp only [bl] at f3
    refine sR ?_;refine oV ?_;refine oN (tC (cT (blk_r (tR (tR (blk_r (tR ?_)))))));refine ret1 rfl rfl ?_;refine leaf hx1 (List.nil_sublist _) (congrArg Value.bool ?_)
    unfold fewP
    rw [hg, Bool.true_and]
    symm
    rw [List.all_eq_false]
    exact ⟨o.c, by rw [← hp.eq]; exact List.mem_map_of_mem hom, by simp only [decide_eq_true_eq]; omega⟩
   have f3 := h3;try simp only [bl] at f3
   refine cK (blk_n (tC (cR ?_)));refine oV ?_
   first | (refine o_add trivial rfl rfl rfl ?_ ?_; (omega)) | refine oV ?_
   refine oV ?_;refine oN ?_
   exact again (i + 1) (sC rfl (sC rfl sN)) (fun _ h => (h.sort (by repeat constructor)).fewer hx1.le) (by show ns.length - (i + 1) < ns.length - i; omega) ⟨by show i + 1 ≤ _; omega, by
     rw [List.take_add_one, ho, List.all_append, hall]
     simp only [Option.toList, List.all_cons, List.all_nil, Bool.and_true, Bool.true_and, decide_eq_true_eq]
     omega⟩
  have f2 := h2;try simp only [bl] at f2
  refine c_exit (then_x (then_x (blk_eq rfl (tC (sR ?_)))));refine oV ?_;refine nE ?_;refine ret1 rfl rfl ?_;refine leaf0 (congrArg Value.bool ?_)
  rw [List.take_of_length_le (by omega)] at hall
  unfold fewP
  rw [hg, Bool.true_and, ← hp.eq, List.all_map]
  exact hall.symm
theorem bgGo_cons (all : List NodeC) (l : LetC) (ls : List LetC) (fr : Int) : bgGo all (l :: ls) fr = if nameZ l.name = true ∧ fr ≤ l.root ∧ l.root < all.length ∧ begZ all fr all.length l.root = fr then bgGo all ls (l.root + 1) else none := rfl
theorem few_of {p : ProgC} {ns : List NodeV} {k : Int} (h : fewP p k = true) (he : ns.map NodeV.c = p.all) : (p.all.length : Int) ≤ k ∧ p.ins.length ≤ 8 ∧ p.lets.length ≤ 8 ∧ p.outs.length ≤ 8 ∧ (∀ o ∈ ns, o.c.few 6) ∧ ∀ o ∈ ns, o.c.name.size ≤ 60 := by
  unfold fewP at h
  rw [Bool.and_eq_true, decide_eq_true_eq, List.all_eq_true] at h
  obtain ⟨⟨h1, h2, h3, h4⟩, h5⟩ := h
  refine ⟨h1, h2, h3, h4, fun o ho => ?_, fun o ho => ?_⟩
  · have := h5 o.c (by rw [← he]; exact List.mem_map_of_mem ho)
    rw [decide_eq_true_eq] at this
    exact ⟨this.1, this.2.1⟩
  · have := h5 o.c (by rw [← he]; exact List.mem_map_of_mem ho)
    rw [decide_eq_true_eq] at this
    exact this.2.2
def hasK (s : ByteArray) (K : KN) : Bool := (getK s K).isSome
def insZ : List ByteArray → Nat → KN → ByteArray × Int × KN
  | [], _, K => (⟨#[]⟩, 0, K)
  | s :: l, i, K => if hasK s K = true then (s, 7, K) else insZ l (i + 1) (K ++ [(s, ⟨false, (i : Nat)⟩)])
def nodesZ (K : KN) : List NodeC → List ByteArray → Option ByteArray × List ByteArray
  | [], L => (none, L)
  | c :: r, L => if c.kind ≠ 0 then nodesZ K r L else if hasK c.name K = true then nodesZ K r (L ++ [c.name]) else (some c.name, L)
def segZ (all : List NodeC) (fr hi : Int) : List NodeC := (all.take hi.toNat).drop fr.toNat
def letsZ (all : List NodeC) : List LetC → Nat → Int → KN → List ByteArray → ByteArray × Int × KN × List ByteArray
  | [], _, _, K, L => (⟨#[]⟩, 0, K, L)
  | l :: ls, i, fr, K, L => match nodesZ K (segZ all fr (l.root + 1)) L with
    | (some n, L') => (n, 6, K, L')
    | (none, L') => if hasK l.name K = true then (l.name, 7, K, L') else letsZ all ls (i + 1) (l.root + 1) (K ++ [(l.name, ⟨true, (i : Nat)⟩)]) L'
def ousZ (K : KN) : List ByteArray → List ByteArray → ByteArray × Int × List ByteArray
  | [], L => (⟨#[]⟩, 0, L)
  | s :: r, L => if hasK s K = true then ousZ K r (L ++ [s]) else (s, 6, L)
structure SR where
  name : ByteArray
  err : Int
  K : KN
  L : List ByteArray
def readZ (p : ProgC) : SR :=
  if (tZ p).isSome = true then
    if (insZ p.ins 0 []).2.1 ≠ 0 then ⟨(insZ p.ins 0 []).1, (insZ p.ins 0 []).2.1, (insZ p.ins 0 []).2.2, []⟩
    else if (letsZ p.all p.lets 0 0 (insZ p.ins 0 []).2.2 []).2.1 ≠ 0 then ⟨(letsZ p.all p.lets 0 0 (insZ p.ins 0 []).2.2 []).1, (letsZ p.all p.lets 0 0 (insZ p.ins 0 []).2.2 []).2.1, (letsZ p.all p.lets 0 0 (insZ p.ins 0 []).2.2 []).2.2.1, (letsZ p.all p.lets 0 0 (insZ p.ins 0 []).2.2 []).2.2.2⟩
    else ⟨(ousZ (letsZ p.all p.lets 0 0 (insZ p.ins 0 []).2.2 []).2.2.1 p.outs (letsZ p.all p.lets 0 0 (insZ p.ins 0 []).2.2 []).2.2.2).1, (ousZ (letsZ p.all p.lets 0 0 (insZ p.ins 0 []).2.2 []).2.2.1 p.outs (letsZ p.all p.lets 0 0 (insZ p.ins 0 []).2.2 []).2.2.2).2.1, (letsZ p.all p.lets 0 0 (insZ p.ins 0 []).2.2 []).2.2.1, (ousZ (letsZ p.all p.lets 0 0 (insZ p.ins 0 []).2.2 []).2.2.1 p.outs (letsZ p.all p.lets 0 0 (insZ p.ins 0 []).2.2 []).2.2.2).2.2⟩
  else ⟨⟨#[]⟩, 1, [], []⟩
def tbI (b bk bu : Nat) : Tw.Item := .box b (.cells [.map (some bk), .map (some bu)].toArray 83 (0, 0))
def knI (bk : Nat) (K : KN) : Tw.Item := .box bk (knO K)
def usI (bu : Nat) (L : List ByteArray) : Tw.Item := .box bu (usO L)
def putN (s : ByteArray) (p : PL) (K : KN) : KN := if hasK s K = true then K else K ++ [(s, p)]
theorem add_any (b bk bu : Nat) (K : KN) (s : ByteArray) (p : PL) {I : Hp} : Fun Tryz.prog 113 [.pointer (some ⟨b, 0, none⟩), .string s, .agg #[.bool p.l, .int .i64 p.i]] I [tbI b bk bu, knI bk K]
    (fun v I' B' => I = I' ∧ v = .int .i64 (if hasK s K = true then 7 else 0) ∧ B' = [tbI b bk bu, knI bk (putN s p K)]) := by
  unfold tbI knI
  intro w hw
  refine enter3 _ Tryz.func113 rfl Tryz.ntmps113 rfl ?_ hw;refine sR ?_;refine o_box trivial rfl rfl rfl (fun b5 => ?_);refine oV ?_;refine nU ?_;iterate 2 refine oV ?_
  refine oF 0 Tryz.underlying83 Tryz.sizeOf80 ?_;refine oL Tryz.isAgg80 ?_;refine oV ?_;refine o_lookK trivial rfl Tryz.underlying80 Tryz.underlying9 Tryz.zeroValue78 rfl rfl (by repeat constructor) ?_;iterate 3 refine oV ?_
  refine o_alloc trivial rfl Tryz.zeroValue78 rfl (fun b7 => ?_);refine oS Tryz.sizeOf78 ?_;refine oV ?_;refine nS ?_;refine oV ?_;refine nT ?_;refine cC rfl (fun h1 => ?_) (fun h1 => ?_)
  ·
   have f1 := h1;try simp only [bl] at f1
   have hh : hasK s K = true := h1
   refine sR ?_;refine oV ?_;refine nF ?_;refine ret1 rfl rfl ?_;exact fun w' hw' => ⟨I, [tbI b bk bu, knI bk K], hw'.sort (by repeat constructor), Ext.refl _ _, rfl, by rw [if_pos hh], by unfold putN; rw [if_pos hh]; rfl⟩
  have f1 := h1;try simp only [bl] at f1
  have hh : hasK s K = false := h1
  refine cK (tC (cS ?_));refine h_beginB (m := 7) [.box b5 _] (by repeat constructor) (by kernel_rfl) rfl ?_;refine qT (i := 0) (qB 7 1) (Hp.Le.refl _) rfl rfl (oV qF) ?_;refine qT (i := 1) (qB 7 3) (Hp.Le.refl _) rfl rfl (oV qF) ?_;refine qT (i := 2) (qB 7 7) (Hp.Le.refl _) rfl rfl (oF 0 Tryz.underlying83 Tryz.sizeOf80 qF) ?_;refine qT (i := 4) (qB 7 23) (Hp.Le.refl _) rfl rfl (oV qF) ?_;refine qT (i := 5) (qB 7 55) (Hp.Le.refl _) rfl rfl (oA Tryz.isAgg78 Tryz.sizeOf78 qF) ?_;refine qO (i := 3) (qB 7 63) rfl ?_;refine oL Tryz.isAgg80 ?_;refine qM (Hp.Le.refl _) ?_;refine qO (i := 6) (qB 7 127) rfl ?_;refine o_putK (hh) trivial Tryz.underlying80 Tryz.underlying9 rfl rfl rfl (by repeat constructor) ?_;refine qM (Hp.Le.refl _) ?_;refine h_end (by kernel_rfl) ?_;refine tC (sR ?_);refine oV ?_;refine nE ?_;refine ret1 rfl rfl ?_;exact fun w' hw' => ⟨I, [tbI b bk bu, knI bk (K ++ [(s, p)])], hw'.sort (by repeat constructor), Ext.refl _ _, rfl, by rw [hh]; rfl, by unfold putN; rw [hh]; rfl⟩
def useL (s : ByteArray) (K : KN) (L : List ByteArray) : List ByteArray := if hasK s K = true then L ++ [s] else L
theorem use_any (b bk bu : Nat) (K : KN) (L : List ByteArray) (s : ByteArray) {I : Hp} (hL : L.length ≤ 1000000) : Fun Tryz.prog 74 [.pointer (some ⟨b, 0, none⟩), .string s] I [tbI b bk bu, knI bk K, usI bu L]
    (fun v I' B' => I = I' ∧ v = .int .i64 (if hasK s K = true then 0 else 6) ∧ B' = [tbI b bk bu, knI bk K, usI bu (useL s K L)]) := by
  have hcl := cnt_le s L
  unfold tbI knI usI
  intro w hw
  refine enter2 _ Tryz.func74 rfl Tryz.ntmps74 rfl ?_ hw;refine sR ?_;refine oV ?_;refine nU ?_;iterate 2 refine oV ?_
  refine oF 0 Tryz.underlying83 Tryz.sizeOf80 ?_;refine oL Tryz.isAgg80 ?_;refine oV ?_;refine o_lookK trivial rfl Tryz.underlying80 Tryz.underlying9 Tryz.zeroValue78 rfl rfl (by repeat constructor) ?_;iterate 3 refine oV ?_
  refine o_alloc trivial rfl Tryz.zeroValue78 rfl (fun b5 => ?_);refine oS Tryz.sizeOf78 ?_;refine oV ?_;refine nS ?_;iterate 2 refine oV ?_
  refine nT ?_;refine cC rfl (fun h1 => ?_) (fun h1 => ?_)
  ·
   have f1 := h1;try simp only [bl] at f1
   have hh : hasK s K = false := by
     unfold hasK
     cases e : (getK s K).isSome with
     | false => rfl
     | true => rw [e] at h1; cases h1
   refine sR ?_;refine oV ?_;refine nF ?_;refine ret1 rfl rfl ?_;exact fun w' hw' => ⟨I, [tbI b bk bu, knI bk K, usI bu L], hw'.sort (by repeat constructor), Ext.refl _ _, rfl, by rw [hh]; rfl, by unfold useL; rw [hh]; rfl⟩
  have f1 := h1;try simp only [bl] at f1
  have hh : hasK s K = true := by
    unfold hasK
    cases e : (getK s K).isSome with
    | true => rfl
    | false => rw [e] at h1; cases h1
  refine kS ?_;iterate 2 refine oV ?_
  refine oF 1 Tryz.underlying83 Tryz.sizeOf81 ?_;refine oL Tryz.isAgg81 ?_;refine oV ?_;refine o_lookU trivial rfl Tryz.underlying81 Tryz.underlying9 Tryz.zeroValue3 rfl rfl (by repeat constructor) ?_
  first | (refine o_add trivial rfl rfl rfl ?_ ?_; (omega)) | refine oV ?_
  refine o_putU trivial Tryz.underlying81 Tryz.underlying9 rfl rfl rfl (by repeat constructor) ?_;refine nS ?_;refine oV ?_;refine nE ?_;refine ret1 rfl rfl ?_;exact fun w' hw' => ⟨I, [tbI b bk bu, knI bk K, usI bu (L ++ [s])], hw'.sort (by repeat constructor), Ext.refl _ _, rfl, by rw [if_pos hh], by unfold useL; rw [if_pos hh]; rfl⟩
theorem insZ_step {l : List ByteArray} {i : Nat} {s : ByteArray} (h : l[i]? = some s) (K : KN) : insZ (l.drop i) i K = if hasK s K = true then (s, 7, K) else insZ (l.drop (i + 1)) (i + 1) (K ++ [(s, ⟨false, (i : Nat)⟩)]) := by
  obtain ⟨h1, h2⟩ := List.getElem?_eq_some_iff.1 h
  rw [List.drop_eq_getElem_cons h1, h2]
  rfl
theorem ins_any (b bk bu : Nat) (K : KN) (v : Value) (l : List ByteArray) {I : Hp} (h : Slc I 1 v (scs l)) : Fun Tryz.prog 72 [.pointer (some ⟨b, 0, none⟩), v] I [tbI b bk bu, knI bk K]
    (fun v I' B' => I = I' ∧ v = .tuple #[.string (insZ l 0 K).1, .int .i64 (insZ l 0 K).2.1] ∧ B' = [tbI b bk bu, knI bk (insZ l 0 K).2.2]) := by
  have hl := scs_len l
  have hmx := h.most
  rw [hl] at hmx
  unfold maxLen at hmx
  intro w hw
  refine enter2 _ Tryz.func72 rfl Tryz.ntmps72 rfl ?_ hw;refine sR ?_;iterate 2 refine oV ?_
  refine nU ?_;refine oV ?_;refine o_lenSlc trivial rfl Tryz.underlying22 rfl (h) ?_;refine oV ?_;refine oN (tC (cB ?_));refine c_loop (ι := Nat × KN) [0, 9, 10] (.cons rfl (.cons rfl (.cons rfl .nil))) (fun x => l.length - x.1) (fun x E0 => (11, .int .i64 (x.1 : Nat)) :: E0) (fun x => St w (keysOf [tbI b bk bu, knI bk K]) I [tbI b bk bu, knI bk x.2]) (fun x => x.1 ≤ l.length ∧ insZ l 0 K = insZ (l.drop x.1) x.1 x.2) ((0, K)) (sC rfl (sC rfl (sC rfl (sC rfl sN)))) (fun _ h => h) (⟨Nat.zero_le _, rfl⟩) ?_;rintro ⟨i, K1⟩ ⟨hi, hF⟩
  try dsimp only
  simp only at hi hF
  refine sR ?_;refine oV ?_;refine oN (tC (cS ?_));refine cC rfl (fun h1 => ?_) (fun h1 => ?_)
  ·
   have f1 := h1;try simp only [bl] at f1
   obtain ⟨s, hs⟩ : ∃ s, l[i]? = some s := ⟨l[i]'(by omega), List.getElem?_eq_getElem (by omega)⟩
   rw [insZ_step hs] at hF
   refine cK (tC (cS (cB (sR ?_))));refine oV ?_;refine o_elem trivial rfl Tryz.underlying22 Tryz.sizeOf9 rfl (h) rfl (by omega) ?_;refine o_load1I trivial rfl Tryz.isAgg9 rfl (scs_at h hs) ?_;iterate 2 refine oV ?_
   refine nS ?_;iterate 3 refine oV ?_
   refine o_buildS trivial rfl (bld78) rfl (.cons rfl rfl rfl (by repeat constructor) .nil) ?_;refine oC trivial rfl Tryz.call113 rfl (add_any b bk bu K1 s ⟨false, (i : Nat)⟩) (by repeat constructor) ?_;rintro _ _ _ hxa ⟨rfl, rfl, rfl⟩;refine oV ?_;refine nS ?_;iterate 2 refine oV ?_
   refine nT ?_;refine cC rfl (fun h2 => ?_) (fun h2 => ?_)
   ·
    have f2 := h2;try simp only [bl] at f2
    have hh : hasK s K1 = true := by
      cases e : hasK s K1 with
      | true => rfl
      | false => rw [e] at h2; simp at h2
    rw [if_pos hh] at hF
    refine sR ?_;iterate 4 refine oV ?_
    refine oN (tC (cT (blk_r (tR (tR (blk_r (tR ?_)))))));refine ret2 rfl rfl rfl ?_;exact fun w' hw' => ⟨I, [tbI b bk bu, knI bk K1], (by unfold putN at hw'; rw [if_pos hh] at hw'; exact hw'.sort (by repeat constructor)), Ext.refl _ _, rfl, by rw [hF, if_pos hh], by rw [hF]⟩
   have f2 := h2;try simp only [bl] at f2
   have hh : hasK s K1 = false := by
     cases e : hasK s K1 with
     | false => rfl
     | true => rw [e] at h2; simp at h2
   rw [hh, if_neg (by decide)] at hF
   refine cK (blk_n (tC (cR ?_)))
   first | (refine o_add trivial rfl rfl rfl ?_ ?_; (omega)) | refine oV ?_
   refine oV ?_;refine oN ?_;exact again (i + 1, K1 ++ [(s, ⟨false, (i : Nat)⟩)]) (sC rfl (sC rfl (sC rfl (sC rfl sN)))) (fun _ h => by unfold putN at h; rw [hh] at h; exact h.sort (by repeat constructor)) (by show l.length - (i + 1) < l.length - i; omega) ⟨by show i + 1 ≤ _; omega, hF⟩
  have f1 := h1;try simp only [bl] at f1
  have hin : l.drop i = [] := List.drop_of_length_le (by omega)
  rw [hin] at hF
  refine c_exit (then_x (then_x (blk_eq rfl (tC (sR ?_)))));iterate 2 refine oV ?_
  refine nE ?_;refine ret2 rfl rfl rfl ?_;exact fun w' hw' => ⟨I, [tbI b bk bu, knI bk K1], hw'.sort (by repeat constructor), Ext.refl _ _, rfl, by rw [hF]; rfl, by rw [hF]; rfl⟩
theorem nodesZ_step {seg : List NodeV} {j : Nat} {o : NodeV} (h : seg[j]? = some o) (K : KN) (L : List ByteArray) : nodesZ K ((seg.drop j).map NodeV.c) L = if o.c.kind ≠ 0 then nodesZ K ((seg.drop (j + 1)).map NodeV.c) L else if hasK o.c.name K = true then nodesZ K ((seg.drop (j + 1)).map NodeV.c) (L ++ [o.c.name]) else (some o.c.name, L) := by
  obtain ⟨h1, h2⟩ := List.getElem?_eq_some_iff.1 h
  rw [List.drop_eq_getElem_cons h1, h2]
  rfl
theorem letsZ_step {ls : List LetC} {i : Nat} {c : LetC} (h : ls[i]? = some c) (all : List NodeC) (fr : Int) (K : KN) (L : List ByteArray) : letsZ all (ls.drop i) i fr K L = match nodesZ K (segZ all fr (c.root + 1)) L with
    | (some n, L') => (n, 6, K, L')
    | (none, L') => if hasK c.name K = true then (c.name, 7, K, L') else letsZ all (ls.drop (i + 1)) (i + 1) (c.root + 1) (K ++ [(c.name, ⟨true, (i : Nat)⟩)]) L' := by
  obtain ⟨h1, h2⟩ := List.getElem?_eq_some_iff.1 h
  rw [List.drop_eq_getElem_cons h1, h2]
  rfl
theorem lets_any (b bk bu : Nat) (K : KN) (L : List ByteArray) (vi vl vo va : Value) (p : ProgC) (ns : List NodeV) {I : Hp} (hp : ProgV I vi vl vo va p ns) (hgo : bgGo p.all p.lets 0 = some (p.all.length : Int)) (hn : p.all.length ≤ 1000) (hL : L.length ≤ 1000) :
    Fun Tryz.prog 73 [.pointer (some ⟨b, 0, none⟩), .agg #[vi, vl, vo, va]] I [tbI b bk bu, knI bk K, usI bu L]
    (fun v I' B' => I = I' ∧ v = .tuple #[.string (letsZ p.all p.lets 0 0 K L).1, .int .i64 (letsZ p.all p.lets 0 0 K L).2.1] ∧ B' = [tbI b bk bu, knI bk (letsZ p.all p.lets 0 0 K L).2.2.1, usI bu (letsZ p.all p.lets 0 0 K L).2.2.2]) := by
  have hsi := hp.si
  have hsl := hp.sl
  have hso := hp.so
  have hsa := hp.sa
  have hll : (p.lets.map LetC.cells).length = p.lets.length := List.length_map _
  have hla := nds_len ns
  have hal : p.all.length = ns.length := by rw [← hp.eq, List.length_map]
  have hmx := hsl.most
  rw [hll] at hmx
  unfold maxLen at hmx
  intro w hw
  refine enter2 _ Tryz.func73 rfl Tryz.ntmps73 rfl ?_ hw;refine sR ?_;refine o_box trivial rfl rfl rfl (fun b3 => ?_);iterate 2 refine oV ?_
  refine nS ?_;refine oV ?_;refine nU ?_;refine oF 1 Tryz.underlying26 Tryz.sizeOf23 ?_;refine oL Tryz.isAgg23 ?_;refine o_lenSlc trivial rfl Tryz.underlying23 rfl (hsl) ?_;refine oV ?_;refine oN (tC (cB ?_));refine c_loop (ι := Nat × Int × KN × List ByteArray) [0, 3, 14, 15] (.cons rfl (.cons rfl (.cons rfl (.cons rfl .nil)))) (fun x => p.lets.length - x.1) (fun x E0 => (6, .int .i64 x.2.1) :: (16, .int .i64 (x.1 : Nat)) :: E0) (fun x => St w (keysOf [tbI b bk bu, knI bk K, usI bu L]) I [tbI b bk bu, knI bk x.2.2.1, usI bu x.2.2.2, .box b3 (.cells #[vi, vl, vo, va] 26 (0, 0))]) (fun x => x.1 ≤ p.lets.length ∧ 0 ≤ x.2.1 ∧ x.2.1 ≤ ns.length ∧ bgGo p.all (p.lets.drop x.1) x.2.1 = some (p.all.length : Int) ∧ letsZ p.all p.lets 0 0 K L = letsZ p.all (p.lets.drop x.1) x.1 x.2.1 x.2.2.1 x.2.2.2 ∧ (x.2.2.2.length : Int) ≤ 1000 + x.2.1) ((0, 0, K, L)) (sC rfl (sC rfl (sC rfl (sC rfl (sC rfl (sC rfl sN)))))) (fun _ h => h.sort (by repeat constructor)) (⟨Nat.zero_le _, Int.le_refl _, by show (0 : Int) ≤ ns.length; omega, hgo, rfl, by show (L.length : Int) ≤ 1000 + 0; omega⟩) ?_;rintro ⟨i, fr, K1, L1⟩ ⟨hi, hfr0, hfr1, hg, hF, hL1⟩
  try dsimp only
  simp only at hi hfr0 hfr1 hg hF hL1
  refine sR ?_;refine oV ?_;refine oN (tC (cS ?_));refine cC rfl (fun h1 => ?_) (fun h1 => ?_)
  ·
   have f1 := h1;try simp only [bl] at f1
   obtain ⟨c, hc⟩ : ∃ c, p.lets[i]? = some c := ⟨p.lets[i]'(by omega), List.getElem?_eq_getElem (by omega)⟩
   have hdr : p.lets.drop i = c :: p.lets.drop (i + 1) := by rw [List.drop_eq_getElem_cons (List.getElem?_eq_some_iff.1 hc).1, (List.getElem?_eq_some_iff.1 hc).2]
   rw [letsZ_step hc] at hF
   rw [hdr, bgGo_cons] at hg
   by_cases hcd : nameZ c.name = true ∧ fr ≤ c.root ∧ c.root < p.all.length ∧ begZ p.all fr p.all.length c.root = fr
   case' neg => rw [if_neg hcd] at hg; cases hg
   rw [if_pos hcd] at hg
   obtain ⟨_, c2, c3, _⟩ := hcd
   obtain ⟨seg, hseg⟩ : ∃ seg, seg = (ns.take (c.root + 1).toNat).drop fr.toNat := ⟨_, rfl⟩
   have hsegl : (seg.length : Int) = c.root + 1 - fr := by rw [hseg, List.length_drop, List.length_take]; omega
   have hcut : Slc I 8 (slcCut va fr.toNat (c.root + 1).toNat 8) (nds seg) := by
     have h9 := hsa.cut (lo := fr.toNat) (hi := (c.root + 1).toNat) (by omega) (by omega)
     have e9 : nds seg = ((nds ns).take (c.root + 1).toNat).drop fr.toNat := by rw [hseg]; unfold nds; rw [List.map_drop, List.map_take]
     rw [e9]; exact h9
   have hsc : segZ p.all fr (c.root + 1) = seg.map NodeV.c := by rw [hseg, ← hp.eq]; unfold segZ; rw [List.map_drop, List.map_take]
   have hsok : ∀ o ∈ seg, o.ok I := fun o ho => hp.ok o (by rw [hseg] at ho; exact List.mem_of_mem_take (List.mem_of_mem_drop ho))
   rw [hsc] at hF
   have hnl := nds_len seg
   refine cK (tC (cS (cB (sR ?_))));refine oV ?_;refine o_elem trivial rfl Tryz.underlying23 Tryz.sizeOf39 rfl (hsl) rfl (by omega) ?_;refine o_loadAI trivial rfl Tryz.isAgg39 Tryz.sizeOf39 rfl rfl (lts_at hsl hc) ?_;refine o_alloc trivial rfl Tryz.zeroValue39 rfl (fun b8 => ?_);refine oV ?_;refine oS Tryz.sizeOf39 ?_;refine nU ?_;refine oF 3 Tryz.underlying26 Tryz.sizeOf24 ?_;refine oL Tryz.isAgg24 ?_;refine oV ?_;refine oF 1 Tryz.underlying39 Tryz.sizeOf3 ?_;refine oL Tryz.isAgg3 ?_
   first | (refine o_add trivial rfl rfl rfl ?_ ?_; (omega)) | refine oV ?_
   refine o_cutMid trivial rfl Tryz.underlying24 Tryz.sizeOf37 rfl (hsa) rfl rfl (by omega) ?_;refine o_lenSlc trivial rfl Tryz.underlying24 rfl (hcut) ?_;refine oV ?_;refine oN (tC (cB ?_));refine c_loop (ι := Nat × List ByteArray) [0, 3, 7, 8, 14, 15, 16, 27, 28] (.cons rfl (.cons rfl (.cons rfl (.cons rfl (.cons rfl (.cons rfl (.cons rfl (.cons rfl (.cons rfl .nil))))))))) (fun x => seg.length - x.1) (fun x E0 => (29, .int .i64 (x.1 : Nat)) :: E0) (fun x => St w (keysOf [tbI b bk bu, knI bk K, usI bu L]) I [tbI b bk bu, knI bk K1, usI bu x.2, .box b8 (.cells #[.string c.name, .int .i64 c.root] 39 (0, 0)), .box b3 (.cells #[vi, vl, vo, va] 26 (0, 0))]) (fun x => x.1 ≤ seg.length ∧ nodesZ K1 (seg.map NodeV.c) L1 = nodesZ K1 ((seg.drop x.1).map NodeV.c) x.2 ∧ x.2.length ≤ L1.length + x.1) ((0, L1)) (sC rfl (sC rfl (sC rfl (sC rfl (sC rfl (sC rfl (sC rfl (sC rfl (sC rfl (sC rfl sN)))))))))) (fun _ h => h.sort (by repeat constructor)) (⟨Nat.zero_le _, rfl, Nat.le_refl _⟩) ?_;rintro ⟨j, L2⟩ ⟨hj, hF2, hL2⟩
   try dsimp only
   simp only at hj hF2 hL2
   refine sR ?_;refine oV ?_;refine oN (tC (cS ?_));refine cC rfl (fun h2 => ?_) (fun h2 => ?_)
   ·
    have f2 := h2;try simp only [bl] at f2
    obtain ⟨o, ho⟩ : ∃ o, seg[j]? = some o := ⟨seg[j]'(by omega), List.getElem?_eq_getElem (by omega)⟩
    have hom := List.mem_of_getElem? ho
    have hw1 : Ws I o.vn o.c.n := (hsok o hom).1
    have hw2 : Ws I o.vd o.c.d := (hsok o hom).2
    rw [nodesZ_step ho] at hF2
    refine cK (tC (cS (cB (sR ?_))));refine o_elem trivial rfl Tryz.underlying24 Tryz.sizeOf37 rfl (hcut) rfl (by omega) ?_;refine o_loadAI trivial rfl Tryz.isAgg37 Tryz.sizeOf37 rfl rfl (nds_at hcut ho) ?_;refine o_alloc trivial rfl Tryz.zeroValue37 rfl (fun b10 => ?_);refine oS Tryz.sizeOf37 ?_;refine nU ?_;refine oF 0 Tryz.underlying37 Tryz.sizeOf3 ?_;refine oL Tryz.isAgg3 ?_;refine oV ?_;refine nT ?_;refine cC rfl (fun h3 => ?_) (fun h3 => ?_)
    ·
     have f3 := h3;try simp only [bl] at f3
     have hk0 : o.c.kind ≠ 0 := by simpa using h3
     rw [if_pos hk0] at hF2
     refine c_exit (then_x (blk_eq rfl (tC (cR ?_))))
     first | (refine o_add trivial rfl rfl rfl ?_ ?_; (omega)) | refine oV ?_
     refine oV ?_;refine oN ?_
     first | exact again (j + 1, L2) (sC rfl (sC rfl (sC rfl (sC rfl (sC rfl (sC rfl (sC rfl (sC rfl (sC rfl (sC rfl sN)))))))))) (fun _ h => h.sort (by repeat constructor)) (by show seg.length - (j + 1) < seg.length - j; omega) ⟨by show j + 1 ≤ _; omega, hF2, by show L2.length ≤ L1.length + (j + 1); omega⟩ | exact again (j + 1, L2 ++ [o.c.name]) (sC rfl (sC rfl (sC rfl (sC rfl (sC rfl (sC rfl (sC rfl (sC rfl (sC rfl (sC rfl sN)))))))))) (fun _ h => by unfold useL at h; rw [if_pos hh] at h; exact h.sort (by repeat constructor)) (by show seg.length - (j + 1) < seg.length - j; omega) ⟨by show j + 1 ≤ _; omega, hF2, by show (L2 ++ [o.c.name]).length ≤ L1.length + (j + 1); rw [List.length_append]; show L2.length + 1 ≤ _; omega⟩
    have f3 := h3;try simp only [bl] at f3
    have hk0 : o.c.kind = 0 := by simpa using h3
    rw [if_neg (not_not_intro hk0)] at hF2
    refine kS ?_;refine oV ?_;refine oF 4 Tryz.underlying37 Tryz.sizeOf9 ?_;refine oL Tryz.isAgg9 ?_;refine oC trivial rfl Tryz.call74 rfl (use_any b bk bu K1 L2 o.c.name (by omega)) (by repeat constructor) ?_;rintro _ _ _ hxu ⟨rfl, rfl, rfl⟩;refine oV ?_;refine nS ?_;iterate 2 refine oV ?_
    refine nT ?_;refine cC rfl (fun h4 => ?_) (fun h4 => ?_)
    ·
     have f4 := h4;try simp only [bl] at f4
     have hh : hasK o.c.name K1 = false := by
       cases e : hasK o.c.name K1 with
       | false => rfl
       | true => rw [e] at h4; simp at h4
     rw [hh, if_neg (by decide)] at hF2
     rw [hF2] at hF
     refine sR ?_;refine oF 4 Tryz.underlying37 Tryz.sizeOf9 ?_;refine oL Tryz.isAgg9 ?_;iterate 3 refine oV ?_
     refine oN (tC (cT (blk_r (tR (tR (blk_r (tR (blk_r (tR (tR (blk_r (tR ?_))))))))))));refine ret2 rfl rfl rfl ?_;exact fun w' hw' => ⟨I, [tbI b bk bu, knI bk K1, usI bu L2], (by unfold useL at hw'; rw [hh, if_neg (by decide)] at hw'; exact hw'.sort (by repeat constructor)), Ext.refl _ _, rfl, by rw [hF, hh]; rfl, by rw [hF]⟩
    have f4 := h4;try simp only [bl] at f4
    have hh : hasK o.c.name K1 = true := by
      cases e : hasK o.c.name K1 with
      | true => rfl
      | false => rw [e] at h4; simp at h4
    rw [if_pos hh] at hF2
    refine cK (blk_n (tC (cR ?_)))
    first | (refine o_add trivial rfl rfl rfl ?_ ?_; (omega)) | refine oV ?_
    refine oV ?_;refine oN ?_
    first | exact again (j + 1, L2) (sC rfl (sC rfl (sC rfl (sC rfl (sC rfl (sC rfl (sC rfl (sC rfl (sC rfl (sC rfl sN)))))))))) (fun _ h => h.sort (by repeat constructor)) (by show seg.length - (j + 1) < seg.length - j; omega) ⟨by show j + 1 ≤ _; omega, hF2, by show L2.length ≤ L1.length + (j + 1); omega⟩ | exact again (j + 1, L2 ++ [o.c.name]) (sC rfl (sC rfl (sC rfl (sC rfl (sC rfl (sC rfl (sC rfl (sC rfl (sC rfl (sC rfl sN)))))))))) (fun _ h => by unfold useL at h; rw [if_pos hh] at h; exact h.sort (by repeat constructor)) (by show seg.length - (j + 1) < seg.length - j; omega) ⟨by show j + 1 ≤ _; omega, hF2, by show (L2 ++ [o.c.name]).length ≤ L1.length + (j + 1); rw [List.length_append]; show L2.length + 1 ≤ _; omega⟩
   have f2 := h2;try simp only [bl] at f2
   have hjn : seg.drop j = [] := List.drop_of_length_le (by omega)
   rw [hjn] at hF2
   have hF3 : nodesZ K1 (seg.map NodeV.c) L1 = (none, L2) := hF2
   rw [hF3] at hF
   dsimp only at hF
   refine c_exit (then_x (then_x (blk_eq rfl (tC (sR ?_)))));refine oF 1 Tryz.underlying39 Tryz.sizeOf3 ?_;refine oL Tryz.isAgg3 ?_
   first | (refine o_add trivial rfl rfl rfl ?_ ?_; (omega)) | refine oV ?_
   refine oV ?_;refine nS ?_;refine oV ?_;refine oF 0 Tryz.underlying39 Tryz.sizeOf9 ?_;refine oL Tryz.isAgg9 ?_;refine oV ?_;refine o_buildS trivial rfl (bld78) rfl (.cons rfl rfl rfl (by repeat constructor) (.cons rfl rfl rfl (by repeat constructor) .nil)) ?_;refine oC trivial rfl Tryz.call113 rfl (add_any b bk bu K1 c.name ⟨true, (i : Nat)⟩) (by repeat constructor) ?_;rintro _ _ _ hxa ⟨rfl, rfl, rfl⟩;refine oV ?_;refine nS ?_;iterate 2 refine oV ?_
   refine nT ?_;refine cC rfl (fun h5 => ?_) (fun h5 => ?_)
   ·
    have f5 := h5;try simp only [bl] at f5
    have hh : hasK c.name K1 = true := by
      cases e : hasK c.name K1 with
      | true => rfl
      | false => rw [e] at h5; simp at h5
    rw [if_pos hh] at hF
    refine sR ?_;refine oF 0 Tryz.underlying39 Tryz.sizeOf9 ?_;refine oL Tryz.isAgg9 ?_;iterate 3 refine oV ?_
    refine oN (tC (cT (blk_r (tR (tR (blk_r (tR ?_)))))));refine ret2 rfl rfl rfl ?_;exact fun w' hw' => ⟨I, [tbI b bk bu, knI bk K1, usI bu L2], (by unfold putN at hw'; rw [if_pos hh] at hw'; exact hw'.sort (by repeat constructor)), Ext.refl _ _, rfl, by rw [hF, if_pos hh], by rw [hF]⟩
   have f5 := h5;try simp only [bl] at f5
   have hh : hasK c.name K1 = false := by
     cases e : hasK c.name K1 with
     | false => rfl
     | true => rw [e] at h5; simp at h5
   rw [hh, if_neg (by decide)] at hF
   refine cK (blk_n (tC (cR ?_)))
   first | (refine o_add trivial rfl rfl rfl ?_ ?_; (omega)) | refine oV ?_
   refine oV ?_;refine oN ?_;exact again (i + 1, c.root + 1, K1 ++ [(c.name, ⟨true, (i : Nat)⟩)], L2) (sC rfl (sC rfl (sC rfl (sC rfl (sC rfl (sC rfl sN)))))) (fun _ h => by unfold putN at h; rw [hh, if_neg (by decide)] at h; exact h.sort (by repeat constructor)) (by show p.lets.length - (i + 1) < p.lets.length - i; omega) ⟨by show i + 1 ≤ _; omega, by show 0 ≤ c.root + 1; omega, by show c.root + 1 ≤ _; omega, hg, hF, by show (L2.length : Int) ≤ 1000 + (c.root + 1); omega⟩
  have f1 := h1;try simp only [bl] at f1
  have hin : p.lets.drop i = [] := List.drop_of_length_le (by omega)
  rw [hin] at hF
  refine c_exit (then_x (then_x (blk_eq rfl (tC (sR ?_)))));iterate 2 refine oV ?_
  refine nE ?_;refine ret2 rfl rfl rfl ?_;exact fun w' hw' => ⟨I, [tbI b bk bu, knI bk K1, usI bu L1], hw'.sort (by repeat constructor), Ext.refl _ _, rfl, by rw [hF]; rfl, by rw [hF]; rfl⟩
theorem right_bg {p : ProgC} {l : List (ByteArray × Ex)} (hr : RightP p l) : bgGo p.all p.lets 0 = some (p.all.length : Int) := by
  have hg := bgGo_ex p.all l 0 hr.ok (fun j c hj => by rw [hr.all, Nat.zero_add]; exact hj) (by rw [Nat.zero_add, ← hr.all]; exact Nat.le_refl _)
  rw [← hr.lets, ← hr.all, Nat.zero_add] at hg
  exact hg
theorem nodesZ_len (K : KN) : ∀ (r : List NodeC) (L : List ByteArray), (nodesZ K r L).2.length ≤ L.length + r.length
  | [], L => Nat.le_refl _
  | c :: r, L => by
    have h1 := nodesZ_len K r L
    have h2 := nodesZ_len K r (L ++ [c.name])
    rw [List.length_append] at h2
    have h3 : [c.name].length = 1 := rfl
    unfold nodesZ
    rw [List.length_cons]
    split
    · omega
    · split
      · omega
      · show L.length ≤ _; omega
theorem letsZ_len (all : List NodeC) : ∀ (ls : List LetC) (i : Nat) (fr : Int) (K : KN) (L : List ByteArray), (letsZ all ls i fr K L).2.2.2.length ≤ L.length + ls.length * all.length
  | [], i, fr, K, L => by show L.length ≤ _; omega
  | l :: ls, i, fr, K, L => by
    have h1 := nodesZ_len K (segZ all fr (l.root + 1)) L
    have h2 : (segZ all fr (l.root + 1)).length ≤ all.length := by unfold segZ; rw [List.length_drop, List.length_take]; omega
    unfold letsZ
    rw [List.length_cons, Nat.succ_mul]
    cases hn : nodesZ K (segZ all fr (l.root + 1)) L with
    | mk e L' =>
      rw [hn] at h1
      cases e with
      | some n => show L'.length ≤ _; dsimp only at h1; omega
      | none =>
        dsimp only at h1 ⊢
        split
        · show L'.length ≤ _; omega
        · have h3 := letsZ_len all ls (i + 1) (l.root + 1) (K ++ [(l.name, ⟨true, (i : Nat)⟩)]) L'
          omega
theorem ousZ_step {l : List ByteArray} {i : Nat} {s : ByteArray} (h : l[i]? = some s) (K : KN) (L : List ByteArray) : ousZ K (l.drop i) L = if hasK s K = true then ousZ K (l.drop (i + 1)) (L ++ [s]) else (s, 6, L) := by
  obtain ⟨h1, h2⟩ := List.getElem?_eq_some_iff.1 h
  rw [List.drop_eq_getElem_cons h1, h2]
  rfl
theorem readZ_not {p : ProgC} (h : (tZ p).isSome = false) : readZ p = ⟨⟨#[]⟩, 1, [], []⟩ := by unfold readZ; rw [h]; rfl
theorem readZ_ins {p : ProgC} {n : ByteArray} {e : Int} {K : KN} (h : (tZ p).isSome = true) (hi : insZ p.ins 0 [] = (n, e, K)) (he : e ≠ 0) : readZ p = ⟨n, e, K, []⟩ := by unfold readZ; rw [if_pos h, hi, if_pos he]
theorem readZ_lets {p : ProgC} {n m : ByteArray} {e : Int} {K K2 : KN} {L : List ByteArray} (h : (tZ p).isSome = true) (hi : insZ p.ins 0 [] = (n, 0, K)) (hl : letsZ p.all p.lets 0 0 K [] = (m, e, K2, L)) (he : e ≠ 0) : readZ p = ⟨m, e, K2, L⟩ := by
  unfold readZ
  rw [if_pos h, hi, if_neg (by simp), hl, if_pos he]
theorem readZ_outs {p : ProgC} {n m : ByteArray} {K K2 : KN} {L : List ByteArray} (h : (tZ p).isSome = true) (hi : insZ p.ins 0 [] = (n, 0, K)) (hl : letsZ p.all p.lets 0 0 K [] = (m, 0, K2, L)) : readZ p = ⟨(ousZ K2 p.outs L).1, (ousZ K2 p.outs L).2.1, K2, (ousZ K2 p.outs L).2.2⟩ := by
  unfold readZ
  rw [if_pos h, hi, if_neg (by simp), hl, if_neg (by simp)]
theorem scRead_any (vi vl vo va : Value) (p : ProgC) (ns : List NodeV) {I : Hp} (hp : ProgV I vi vl vo va p ns) (hf : ∀ o ∈ ns, o.c.few 2000000) :
    Fun Tryz.prog 41 [.agg #[vi, vl, vo, va]] I [] (fun v I' B' => I = I' ∧ ∃ b bk bu, v = .tuple #[.pointer (some ⟨b, 0, none⟩), .string (readZ p).name, .int .i64 (readZ p).err] ∧ B' = [tbI b bk bu, knI bk (readZ p).K, usI bu (readZ p).L]) := by
  have hsi := hp.si
  have hsl := hp.sl
  have hso := hp.so
  have hsa := hp.sa
  have hlo := scs_len p.outs
  intro w hw
  refine enter1 _ Tryz.func41 rfl Tryz.ntmps41 rfl ?_ hw;refine sR ?_;refine o_box trivial rfl rfl rfl (fun b1 => ?_);iterate 3 refine oV ?_
  refine nS ?_;refine o_makeMap trivial rfl (fun b13 => ?_);refine o_makeMap trivial rfl (fun b14 => ?_);refine o_buildS trivial rfl (bld83) rfl (.cons rfl rfl rfl (by repeat constructor) (.cons rfl rfl rfl (by repeat constructor) .nil)) ?_;refine o_box trivial rfl rfl rfl (fun b16 => ?_);refine oV ?_;refine nU ?_;refine oA Tryz.isAgg26 Tryz.sizeOf26 ?_;refine oQ Tryz.call26 rfl (trRight_any vi vl vo va p ns hp hf) ?_;refine oV ?_;refine nT ?_;refine cC rfl (fun h1 => ?_) (fun h1 => ?_)
  ·
   have f1 := h1;try simp only [bl] at f1
   have ht : (tZ p).isSome = false := by simpa using h1
   refine sR ?_;iterate 4 refine oV ?_
   refine nF ?_;refine ret3 rfl rfl rfl rfl ?_;exact fun w' hw' => ⟨I, [tbI b16 b13 b14, knI b13 [], usI b14 []], hw'.sort (by repeat constructor), Ext.refl _ _, rfl, b16, b13, b14, by rw [readZ_not ht], by rw [readZ_not ht]⟩
  have f1 := h1;try simp only [bl] at f1
  have ht : (tZ p).isSome = true := by
    cases e : (tZ p).isSome with
    | true => rfl
    | false => rw [e] at h1; cases h1
  obtain ⟨l, hl⟩ := tZ_iff.1 ht
  have hgo := right_bg hl
  have hfe := hl.few
  have hlb : p.lets.length ≤ 40 := by rw [hl.lets, laid_lets]; exact hl.few.1
  have hob := hl.outs.2.2
  have hll0 := letsZ_len p.all p.lets 0 0 (insZ p.ins 0 []).2.2 []
  have hmul : p.lets.length * p.all.length ≤ 40 * 400 := Nat.mul_le_mul hlb hfe.2
  refine cK (tC (cS (sR ?_)));refine oV ?_;refine oF 0 Tryz.underlying26 Tryz.sizeOf22 ?_;refine oL Tryz.isAgg22 ?_;refine l_imp (S' := St w [] I [tbI b16 b13 b14, knI b13 [], usI b14 [], .box b1 (.cells #[vi, vl, vo, va] 26 (0, 0))]) (fun _ h => h.sort (by repeat constructor)) ?_;refine oC trivial rfl Tryz.call72 rfl (ins_any b16 b13 b14 [] vi p.ins hsi) (by repeat constructor) ?_;rintro _ _ _ hxi ⟨rfl, rfl, rfl⟩;iterate 5 refine oV ?_
  refine oN (tC (cS ?_))
  generalize hi : insZ p.ins 0 [] = ri at *
  obtain ⟨n1, e1, K1⟩ := ri
  dsimp only at hll0 ⊢
  refine cR ?_;iterate 2 refine oV ?_
  refine nT ?_;refine cC rfl (fun h2 => ?_) (fun h2 => ?_)
  ·
   have f2 := h2;try simp only [bl] at f2
   have he1 : e1 ≠ 0 := by simpa using h2
   refine sR ?_;iterate 6 refine oV ?_
   refine nF ?_;refine ret3 rfl rfl rfl rfl ?_;exact fun w' hw' => ⟨I, [tbI b16 b13 b14, knI b13 K1, usI b14 []], hw'.sort (by repeat constructor), Ext.refl _ _, rfl, b16, b13, b14, by rw [readZ_ins ht hi he1]; rfl, by rw [readZ_ins ht hi he1]⟩
  have f2 := h2;try simp only [bl] at f2
  obtain rfl : e1 = 0 := by simpa using h2
  refine cK (tC (cS (sR ?_)));refine oV ?_;refine oA Tryz.isAgg26 Tryz.sizeOf26 ?_;refine oC trivial rfl Tryz.call73 rfl (lets_any b16 b13 b14 K1 [] vi vl vo va p ns hp hgo (by omega) (Nat.zero_le _)) (by repeat constructor) ?_;rintro _ _ _ hxl ⟨rfl, rfl, rfl⟩;iterate 5 refine oV ?_
  refine oN (tC (cS ?_))
  generalize hz : letsZ p.all p.lets 0 0 K1 [] = rz at *
  obtain ⟨m1, e2, K2, L2⟩ := rz
  dsimp only at hll0 ⊢
  refine cR ?_;iterate 2 refine oV ?_
  refine nT ?_;refine cC rfl (fun h3 => ?_) (fun h3 => ?_)
  ·
   have f3 := h3;try simp only [bl] at f3
   have he2 : e2 ≠ 0 := by simpa using h3
   refine sR ?_;iterate 6 refine oV ?_
   refine nF ?_;refine ret3 rfl rfl rfl rfl ?_;exact fun w' hw' => ⟨I, [tbI b16 b13 b14, knI b13 K2, usI b14 L2], hw'.sort (by repeat constructor), Ext.refl _ _, rfl, b16, b13, b14, by rw [readZ_lets ht hi hz he2]; rfl, by rw [readZ_lets ht hi hz he2]⟩
  have f3 := h3;try simp only [bl] at f3
  obtain rfl : e2 = 0 := by simpa using h3
  have hrz := readZ_outs ht hi hz
  have hl2 : L2.length ≤ 16000 := by
    have h9 : ([] : List ByteArray).length = 0 := rfl
    omega
  refine cK (tC (cS (sR ?_)));refine oF 2 Tryz.underlying26 Tryz.sizeOf22 ?_;refine oL Tryz.isAgg22 ?_;refine o_lenSlc trivial rfl Tryz.underlying22 rfl (hso) ?_;refine oV ?_;refine oN (tC (cB ?_));refine c_loop (ι := Nat × List ByteArray) [5, 45, 46] (.cons rfl (.cons rfl (.cons rfl .nil))) (fun x => p.outs.length - x.1) (fun x E0 => (47, .int .i64 (x.1 : Nat)) :: E0) (fun x => St w [] I [tbI b16 b13 b14, knI b13 K2, usI b14 x.2, .box b1 (.cells #[vi, vl, vo, va] 26 (0, 0))]) (fun x => x.1 ≤ p.outs.length ∧ ousZ K2 p.outs L2 = ousZ K2 (p.outs.drop x.1) x.2 ∧ x.2.length ≤ L2.length + x.1) ((0, L2)) (sC rfl (sC rfl (sC rfl (sC rfl sN)))) (fun _ h => h.sort (by repeat constructor)) (⟨Nat.zero_le _, rfl, Nat.le_refl _⟩) ?_;rintro ⟨i, L3⟩ ⟨hi3, hF, hL3⟩
  try dsimp only
  simp only at hi3 hF hL3
  refine sR ?_;refine oV ?_;refine oN (tC (cS ?_));refine cC rfl (fun h4 => ?_) (fun h4 => ?_)
  ·
   have f4 := h4;try simp only [bl] at f4
   obtain ⟨s, hs⟩ : ∃ s, p.outs[i]? = some s := ⟨p.outs[i]'(by omega), List.getElem?_eq_getElem (by omega)⟩
   rw [ousZ_step hs] at hF
   refine cK (tC (cS (cB (sR ?_))));refine o_elem trivial rfl Tryz.underlying22 Tryz.sizeOf9 rfl (hso) rfl (by omega) ?_;refine o_load1I trivial rfl Tryz.isAgg9 rfl (scs_at hso hs) ?_;refine oV ?_;refine nS ?_;iterate 2 refine oV ?_
   refine oC trivial rfl Tryz.call74 rfl (use_any b16 b13 b14 K2 L3 s (by omega)) (by repeat constructor) ?_;rintro _ _ _ hxu ⟨rfl, rfl, rfl⟩;refine oV ?_;refine nS ?_;iterate 2 refine oV ?_
   refine nT ?_;refine cC rfl (fun h5 => ?_) (fun h5 => ?_)
   ·
    have f5 := h5;try simp only [bl] at f5
    have hh : hasK s K2 = false := by
      cases e : hasK s K2 with
      | false => rfl
      | true => rw [e] at h5; simp at h5
    rw [hh, if_neg (by decide)] at hF
    rw [hF] at hrz
    refine sR ?_;iterate 6 refine oV ?_
    refine oN (tC (cT (blk_r (tR (tR (blk_r (tR ?_)))))));refine ret3 rfl rfl rfl rfl ?_;exact fun w' hw' => ⟨I, [tbI b16 b13 b14, knI b13 K2, usI b14 L3], (by unfold useL at hw'; rw [hh, if_neg (by decide)] at hw'; exact hw'.sort (by repeat constructor)), Ext.refl _ _, rfl, b16, b13, b14, by rw [hrz, hh]; rfl, by rw [hrz]⟩
   have f5 := h5;try simp only [bl] at f5
   have hh : hasK s K2 = true := by
     cases e : hasK s K2 with
     | true => rfl
     | false => rw [e] at h5; simp at h5
   rw [if_pos hh] at hF
   refine cK (blk_n (tC (cR ?_)))
   first | (refine o_add trivial rfl rfl rfl ?_ ?_; (omega)) | refine oV ?_
   refine oV ?_;refine oN ?_;exact again (i + 1, L3 ++ [s]) (sC rfl (sC rfl (sC rfl (sC rfl sN)))) (fun _ h => by unfold useL at h; rw [if_pos hh] at h; exact h.sort (by repeat constructor)) (by show p.outs.length - (i + 1) < p.outs.length - i; omega) ⟨by show i + 1 ≤ _; omega, hF, by show (L3 ++ [s]).length ≤ L2.length + (i + 1); rw [List.length_append]; show L3.length + 1 ≤ _; omega⟩
  have f4 := h4;try simp only [bl] at f4
  have hin : p.outs.drop i = [] := List.drop_of_length_le (by omega)
  rw [hin] at hF
  have hF2 : ousZ K2 p.outs L2 = (⟨#[]⟩, 0, L3) := hF
  rw [hF2] at hrz
  refine c_exit (then_x (then_x (blk_eq rfl (tC (sR ?_)))));iterate 4 refine oV ?_
  refine nE ?_;refine ret3 rfl rfl rfl rfl ?_;exact fun w' hw' => ⟨I, [tbI b16 b13 b14, knI b13 K2, usI b14 L3], hw'.sort (by repeat constructor), Ext.refl _ _, rfl, b16, b13, b14, by rw [hrz], by rw [hrz]⟩
theorem scCheck_any (vi vl vo va : Value) (p : ProgC) (ns : List NodeV) {I : Hp} (hp : ProgV I vi vl vo va p ns) (hf : ∀ o ∈ ns, o.c.few 2000000) :
    Fun Tryz.prog 17 [.agg #[vi, vl, vo, va]] I [] (fun v _ _ => v = .tuple #[.string (readZ p).name, .int .i64 (readZ p).err]) := by
  have hsi := hp.si
  have hsl := hp.sl
  have hso := hp.so
  have hsa := hp.sa
  intro w hw
  refine enter1 _ Tryz.func17 rfl Tryz.ntmps17 rfl ?_ hw;refine sR ?_;refine o_box trivial rfl rfl rfl (fun b1 => ?_);iterate 2 refine oV ?_
  refine nS ?_;refine oA Tryz.isAgg26 Tryz.sizeOf26 ?_;refine oC trivial rfl Tryz.call41 rfl (scRead_any vi vl vo va p ns hp hf) (by repeat constructor) ?_;rintro _ _ _ hxr ⟨rfl, b, bk, bu, rfl, rfl⟩;iterate 6 refine oV ?_
  refine nS ?_;iterate 4 refine oV ?_
  refine nE ?_;refine ret2 rfl rfl rfl ?_;exact leaf0 rfl
def whereZ (p : ProgC) (s : ByteArray) : Bool × Int × Bool := if (readZ p).err = 0 ∧ hasK s (readZ p).K = true then (((getK s (readZ p).K).getD ⟨false, 0⟩).l, ((getK s (readZ p).K).getD ⟨false, 0⟩).i, true) else (false, 0, false)
theorem scWhere_any (vi vl vo va : Value) (p : ProgC) (ns : List NodeV) (s : ByteArray) {I : Hp} (hp : ProgV I vi vl vo va p ns) (hf : ∀ o ∈ ns, o.c.few 2000000) :
    Fun Tryz.prog 19 [.agg #[vi, vl, vo, va], .string s] I [] (fun v _ _ => v = .tuple #[.bool (whereZ p s).1, .int .i64 (whereZ p s).2.1, .bool (whereZ p s).2.2]) := by
  have hsi := hp.si
  have hsl := hp.sl
  have hso := hp.so
  have hsa := hp.sa
  intro w hw
  refine enter2 _ Tryz.func19 rfl Tryz.ntmps19 rfl ?_ hw;refine sR ?_;refine o_box trivial rfl rfl rfl (fun b2 => ?_);iterate 3 refine oV ?_
  refine nS ?_;refine oA Tryz.isAgg26 Tryz.sizeOf26 ?_;refine oC trivial rfl Tryz.call41 rfl (scRead_any vi vl vo va p ns hp hf) (by repeat constructor) ?_;rintro _ _ _ hxr ⟨rfl, b, bk, bu, rfl, rfl⟩;iterate 7 refine oV ?_
  refine nS ?_;iterate 2 refine oV ?_
  refine oF 0 Tryz.underlying83 Tryz.sizeOf80 ?_;refine oL Tryz.isAgg80 ?_;refine oV ?_;refine o_lookK trivial rfl Tryz.underlying80 Tryz.underlying9 Tryz.zeroValue78 rfl rfl (by repeat constructor) ?_;iterate 3 refine oV ?_
  refine o_alloc trivial rfl Tryz.zeroValue78 rfl (fun b10 => ?_);refine oS Tryz.sizeOf78 ?_;refine oV ?_;refine nU ?_;iterate 2 refine oV ?_
  refine' o_or trivial trivial rfl rfl rfl rfl rfl rfl rfl rfl (fun hb29 => ?_) ?_;rotate_left
  ·
   have fb29 := hb29
   try simp only [bl] at fb29
   iterate 2 refine gV hb29 ?_
   refine oN ?_;exact joins rfl
  refine nT ?_;refine cC rfl (fun h1 => ?_) (fun h1 => ?_)
  ·
   have f1 := h1;try simp only [bl] at f1
   have hz : whereZ p s = (false, 0, false) := if_neg (fun hh => by
     have h9 := h1
     rw [hh.1] at h9
     have h8 : (getK s (readZ p).K).isSome = true := hh.2
     rw [h8] at h9
     cases h9)
   refine sR ?_;iterate 3 refine oV ?_
   refine nF ?_;refine ret3 rfl rfl rfl rfl ?_;refine leaf0 ?_; rw [hz]
  have f1 := h1;try simp only [bl] at f1
  have hz : whereZ p s = (((getK s (readZ p).K).getD ⟨false, 0⟩).l, ((getK s (readZ p).K).getD ⟨false, 0⟩).i, true) := if_pos (by
    have h9 := h1
    simp only [Bool.or_eq_false_iff, Bool.not_eq_false'] at h9
    exact ⟨by simpa using h9.1, h9.2⟩)
  refine cK (tC (cS ?_));refine c_quiet (by kernel_rfl) (by kernel_rfl) (fun _ h => h.drawn) ?_;refine oF 0 Tryz.underlying78 Tryz.sizeOf4 ?_;refine oL Tryz.isAgg4 ?_;refine oF 1 Tryz.underlying78 Tryz.sizeOf3 ?_;refine oL Tryz.isAgg3 ?_;iterate 3 refine oV ?_
  refine nE ?_;refine ret3 rfl rfl rfl rfl ?_;refine leaf0 ?_; rw [hz]
def memB (s : ByteArray) : List ByteArray → Bool
  | [] => false
  | x :: l => decide (s = x) || memB s l
theorem memB_iff (s : ByteArray) : ∀ (l : List ByteArray), memB s l = true ↔ s ∈ l
  | [] => by simp [memB]
  | x :: l => by rw [memB, Bool.or_eq_true, decide_eq_true_eq, memB_iff s l, List.mem_cons]
def enumK (b : Bool) : List ByteArray → Nat → KN
  | [], _ => []
  | s :: l, i => (s, ⟨b, (i : Nat)⟩) :: enumK b l (i + 1)
theorem insZ_ok : ∀ {l : List ByteArray} {i : Nat} {K K' : KN} {n : ByteArray}, insZ l i K = (n, 0, K') → K' = K ++ enumK false l i
  | [], i, K, K', n, h => by
    have := congrArg (fun x => x.2.2) h
    rw [enumK, List.append_nil]; exact this.symm
  | s :: l, i, K, K', n, h => by
    rw [insZ] at h
    split at h
    · have := congrArg (fun x => x.2.1) h
      simp at this
    · rw [insZ_ok h, enumK, List.append_assoc]; rfl
def refsZ : List NodeC → List ByteArray
  | [] => []
  | c :: r => if c.kind ≠ 0 then refsZ r else c.name :: refsZ r
theorem refsZ_app : ∀ (a b : List NodeC), refsZ (a ++ b) = refsZ a ++ refsZ b
  | [], b => rfl
  | c :: a, b => by
    rw [List.cons_append, refsZ, refsZ, refsZ_app a b]
    split <;> rfl
theorem nodesZ_ok {K : KN} : ∀ {r : List NodeC} {L L' : List ByteArray}, nodesZ K r L = (none, L') → L' = L ++ refsZ r
  | [], L, L', h => by
    have := congrArg Prod.snd h
    rw [refsZ, List.append_nil]; exact this.symm
  | c :: r, L, L', h => by
    rw [nodesZ] at h
    rw [refsZ]
    split at h
    · rename_i hk
      rw [if_pos hk]; exact nodesZ_ok h
    · rename_i hk
      rw [if_neg hk]
      split at h
      · rw [nodesZ_ok h, List.append_assoc]; rfl
      · have := congrArg Prod.fst h
        cases this
theorem seg_app {all : List NodeC} {fr hi : Int} (h0 : 0 ≤ fr) (h : fr ≤ hi) (h2 : hi ≤ all.length) : segZ all fr hi ++ all.drop hi.toNat = all.drop fr.toNat := by
  unfold segZ
  have e := List.take_append_drop hi.toNat all
  conv => rhs; rw [← e]
  rw [List.drop_append, List.length_take, show fr.toNat - min hi.toNat all.length = 0 by omega, List.drop_zero]
theorem letsZ_ok {all : List NodeC} : ∀ {ls : List LetC} {i : Nat} {fr : Int} {K K' : KN} {L L' : List ByteArray} {n : ByteArray}, letsZ all ls i fr K L = (n, 0, K', L') → bgGo all ls fr = some (all.length : Int) → 0 ≤ fr → K' = K ++ enumK true (ls.map LetC.name) i ∧ L' = L ++ refsZ (all.drop fr.toNat)
  | [], i, fr, K, K', L, L', n, h, hg, h0 => by
    have h1 := congrArg (fun x => x.2.2.1) h
    have h2 := congrArg (fun x => x.2.2.2) h
    have h3 : fr = (all.length : Int) := Option.some.inj hg
    refine ⟨by rw [List.map_nil, enumK, List.append_nil]; exact h1.symm, ?_⟩
    rw [h3, Int.toNat_natCast, List.drop_length, refsZ, List.append_nil]
    exact h2.symm
  | c :: ls, i, fr, K, K', L, L', n, h, hg, h0 => by
    rw [letsZ] at h
    rw [bgGo_cons] at hg
    by_cases hcd : nameZ c.name = true ∧ fr ≤ c.root ∧ c.root < all.length ∧ begZ all fr all.length c.root = fr
    · rw [if_pos hcd] at hg
      cases hn : nodesZ K (segZ all fr (c.root + 1)) L with
      | mk e L1 =>
        rw [hn] at h
        cases e with
        | some m =>
          have := congrArg (fun x => x.2.1) h
          simp at this
        | none =>
          dsimp only at h
          split at h
          · have := congrArg (fun x => x.2.1) h
            simp at this
          · obtain ⟨h1, h2⟩ := letsZ_ok h hg (by omega)
            refine ⟨by rw [h1, List.map_cons, enumK, List.append_assoc]; rfl, ?_⟩
            rw [h2, nodesZ_ok hn, List.append_assoc, ← refsZ_app, seg_app h0 (by omega) (by omega)]
    · rw [if_neg hcd] at hg; cases hg
theorem ousZ_ok {K : KN} : ∀ {l L L' : List ByteArray} {n : ByteArray}, ousZ K l L = (n, 0, L') → L' = L ++ l
  | [], L, L', n, h => by
    have := congrArg (fun x => x.2.2) h
    rw [List.append_nil]; exact this.symm
  | s :: l, L, L', n, h => by
    rw [ousZ] at h
    split at h
    · rw [ousZ_ok h, List.append_assoc]; rfl
    · have := congrArg (fun x => x.2.1) h
      simp at this
theorem readZ_ok {p : ProgC} (h : (readZ p).err = 0) : (readZ p).K = enumK false p.ins 0 ++ enumK true (p.lets.map LetC.name) 0 ∧ (readZ p).L = refsZ p.all ++ p.outs := by
  cases ht : (tZ p).isSome with
  | false => rw [readZ_not ht] at h; cases h
  | true =>
    obtain ⟨l, hl⟩ := tZ_iff.1 ht
    have hgo := right_bg hl
    cases hi : insZ p.ins 0 [] with
    | mk n x =>
      obtain ⟨e, K⟩ := x
      by_cases he : e = 0
      · subst he
        cases hz : letsZ p.all p.lets 0 0 K [] with
        | mk m y =>
          obtain ⟨e2, K2, L2⟩ := y
          by_cases he2 : e2 = 0
          · subst he2
            have hr := readZ_outs ht hi hz
            rw [hr] at h ⊢
            dsimp only at h ⊢
            obtain ⟨h1, h2⟩ := letsZ_ok hz hgo (Int.le_refl _)
            cases ho : ousZ K2 p.outs L2 with
            | mk n3 z =>
              obtain ⟨e3, L3⟩ := z
              rw [ho] at h
              dsimp only at h
              subst h
              refine ⟨by rw [h1, insZ_ok hi]; rfl, ?_⟩
              show L3 = _
              rw [ousZ_ok ho, h2]
              rfl
          · rw [readZ_lets ht hi hz he2] at h; exact absurd h he2
      · rw [readZ_ins ht hi he] at h; exact absurd h he
theorem getK_app (s : ByteArray) : ∀ (A B : KN), getK s (A ++ B) = match getK s A with
    | some p => some p
    | none => getK s B
  | [], B => rfl
  | (t, p) :: A, B => by
    rw [List.cons_append, getK, getK]
    split
    · rfl
    · exact getK_app s A B
def s13A : ByteArray := ⟨#[105, 110, 32, 120, 59, 32, 108, 101, 116, 32, 97, 32, 61, 32, 98, 59, 32, 108, 101, 116, 32, 98, 32, 61, 32, 120, 59, 32, 111, 117, 116, 32, 97, 59]⟩
def s13B : ByteArray := ⟨#[105, 110, 32, 120, 59, 32, 108, 101, 116, 32, 98, 32, 61, 32, 120, 59, 32, 108, 101, 116, 32, 97, 32, 61, 32, 98, 59, 32, 111, 117, 116, 32, 97, 59]⟩
def awB : ByteArray := ⟨#[98]⟩
def t13A : List Tok := [awT 0 inS 1, awT 0 awX 4, awT 2 semiS 5, awT 0 letS 7, awT 0 awA 11, awT 2 equalS 13, awT 0 awB 15, awT 2 semiS 16, awT 0 letS 18, awT 0 awB 22, awT 2 equalS 24, awT 0 awX 26, awT 2 semiS 27, awT 0 outS 29, awT 0 awA 33, awT 2 semiS 34]
def t13B : List Tok := [awT 0 inS 1, awT 0 awX 4, awT 2 semiS 5, awT 0 letS 7, awT 0 awB 11, awT 2 equalS 13, awT 0 awX 15, awT 2 semiS 16, awT 0 letS 18, awT 0 awA 22, awT 2 equalS 24, awT 0 awB 26, awT 2 semiS 27, awT 0 outS 29, awT 0 awA 33, awT 2 semiS 34]
theorem lex13A : lexZ s13A = ⟨t13A, 0, 0, 0⟩ := by kernel_rfl
theorem lex13B : lexZ s13B = ⟨t13B, 0, 0, 0⟩ := by kernel_rfl
theorem nameZ_B : nameZ awB = true := by kernel_rfl
theorem nameT_B {c : Int} : nameT (awT 0 awB c) = true := by unfold nameT; simp [awT, nameZ_B]
def p13A : ProgC := ⟨[awX], [⟨awA, 0⟩, ⟨awB, 1⟩], [awA], [refN awB, refN awX]⟩
def p13B : ProgC := ⟨[awX], [⟨awB, 0⟩, ⟨awA, 1⟩], [awA], [refN awX, refN awB]⟩
theorem right13A : RightP p13A [(awA, .ref awB), (awB, .ref awX)] where
  lets := rfl
  all := rfl
  ok := fun a ha => by
    simp only [List.mem_cons, List.not_mem_nil, or_false] at ha
    rcases ha with rfl | rfl
    · exact ⟨nameZ_A, nameZ_B⟩
    · exact ⟨nameZ_B, nameZ_X⟩
  ins := ⟨fun s hs => by rw [List.mem_singleton.1 hs]; exact nameZ_X, by decide, by decide⟩
  outs := ⟨fun s hs => by rw [List.mem_singleton.1 hs]; exact nameZ_A, by decide, by decide⟩
  few := ⟨by decide, by decide⟩
  low := fun a ha => by
    simp only [List.mem_cons, List.not_mem_nil, or_false] at ha
    rcases ha with rfl | rfl <;> decide
theorem right13B : RightP p13B [(awB, .ref awX), (awA, .ref awB)] where
  lets := rfl
  all := rfl
  ok := fun a ha => by
    simp only [List.mem_cons, List.not_mem_nil, or_false] at ha
    rcases ha with rfl | rfl
    · exact ⟨nameZ_B, nameZ_X⟩
    · exact ⟨nameZ_A, nameZ_B⟩
  ins := ⟨fun s hs => by rw [List.mem_singleton.1 hs]; exact nameZ_X, by decide, by decide⟩
  outs := ⟨fun s hs => by rw [List.mem_singleton.1 hs]; exact nameZ_A, by decide, by decide⟩
  few := ⟨by decide, by decide⟩
  low := fun a ha => by
    simp only [List.mem_cons, List.not_mem_nil, or_false] at ha
    rcases ha with rfl | rfl <;> decide
theorem sum13 {s : ByteArray} {c d : Int} (h : nameZ s = true) (all : List NodeC) (r : List Tok) : Ps .sum all (awT 0 s c :: awT 2 semiS d :: r) (.ok (all ++ [refN s]) (awT 2 semiS d :: r)) := by
  have h2 : leafT (awT 0 s c) = true := by unfold leafT; simp [awT, h]
  have l2 : leafN (awT 0 s c) = refN s := by unfold leafN; rw [if_neg (show ¬ (awT 0 s c).kind = 1 by show ¬ (0 : Int) = 1; decide)]; rfl
  have p2 := Ps.leaf (all := all) (r := awT 2 semiS d :: r) h2
  rw [l2] at p2
  have m2 : mulK (awT 2 semiS d) = none := by unfold mulK; rw [if_neg (by rw [isT_un (by decide)]; decide), if_neg (by rw [isT_un (by decide)]; decide)]
  have a2 : addK (awT 2 semiS d) = none := by unfold addK; rw [if_neg (by rw [isT_un (by decide)]; decide), if_neg (by rw [isT_un (by decide)]; decide)]
  exact .sum_ok (.product_ok (.fac (isT_no (by show (0 : Int) ≠ 2; decide)) (.power_ok p2 (.pow_none (isT_un (by decide))))) (.prodL_end m2)) (.sumL_end a2)
theorem prg13A : prgZ t13A = .ok p13A :=
  prgZ_eq (.ok isT_self (namesZ_aw nameT_X) (.more isT_self (.ok nameT_A isT_self (sum13 nameZ_B [] _) isT_self) (.more isT_self (.ok nameT_B isT_self (sum13 nameZ_X [refN awB] _) isT_self) (.fin (isT_un (by decide))))) isT_self (namesZ_aw nameT_A))
theorem prg13B : prgZ t13B = .ok p13B :=
  prgZ_eq (.ok isT_self (namesZ_aw nameT_X) (.more isT_self (.ok nameT_B isT_self (sum13 nameZ_X [] _) isT_self) (.more isT_self (.ok nameT_A isT_self (sum13 nameZ_B [refN awX] _) isT_self) (.fin (isT_un (by decide))))) isT_self (namesZ_aw nameT_A))
theorem parse13A : parseZ s13A = ⟨p13A, 0, 0, 0⟩ := by
  unfold parseZ
  rw [lex13A]
  dsimp only
  rw [if_neg (by decide), prg13A]
  unfold parseT
  dsimp only
  rw [if_pos (by rw [tZ_right right13A]; rfl)]
theorem parse13B : parseZ s13B = ⟨p13B, 0, 0, 0⟩ := by
  unfold parseZ
  rw [lex13B]
  dsimp only
  rw [if_neg (by decide), prg13B]
  unfold parseT
  dsimp only
  rw [if_pos (by rw [tZ_right right13B]; rfl)]
theorem read13A : readZ p13A = ⟨awB, 6, [(awX, ⟨false, 0⟩)], []⟩ :=
  readZ_lets (K := [(awX, ⟨false, 0⟩)]) (n := ⟨#[]⟩) (by rw [tZ_right right13A]; rfl) (by kernel_rfl) (by kernel_rfl) (by decide)
theorem read13B : readZ p13B = ⟨⟨#[]⟩, 0, [(awX, ⟨false, 0⟩), (awB, ⟨true, 0⟩), (awA, ⟨true, 1⟩)], [awX, awB, awA]⟩ := by
  have h := readZ_outs (p := p13B) (n := ⟨#[]⟩) (m := ⟨#[]⟩) (K := [(awX, ⟨false, 0⟩)]) (K2 := [(awX, ⟨false, 0⟩), (awB, ⟨true, 0⟩), (awA, ⟨true, 1⟩)]) (L := [awX, awB]) (by rw [tZ_right right13B]; rfl) (by kernel_rfl) (by kernel_rfl)
  exact h.trans (by kernel_rfl)
theorem where13B : whereZ p13B awA = (true, 1, true) := by
  unfold whereZ
  rw [read13B]
  kernel_rfl
theorem awake13_any {I : Hp} (hT : Tabs I) (hM : Mx I) (hE : Errs I) : Fun Tryz.prog 15 [] I [] (fun v _ _ => v = .bool true) := by
  have hpa := parse_any s13A hT hM hE (by decide)
  rw [parse13A] at hpa
  intro w hw
  refine enter0 _ Tryz.func15 rfl Tryz.ntmps15 ?_ hw;refine sR ?_;refine oV ?_;refine nS ?_;refine oI Tryz.call27 rfl hpa ?_;rintro _ I1 hx1 ⟨vi, vl, vo, va, ns, rfl, hp, hf⟩;refine oV ?_
  have hp : ProgV I1 vi vl vo va p13A ns := hp
  have hsi := hp.si
  have hsl := hp.sl
  have hso := hp.so
  have hsa := hp.sa
  have hpb := parse_any s13B (hT.le hx1.le) (hM.le hx1.le) (hE.le hx1.le) (by decide)
  rw [parse13B] at hpb
  iterate 3 refine oV ?_
  refine o_alloc trivial rfl Tryz.zeroValue26 rfl (fun b1 => ?_);refine o_alloc trivial rfl Tryz.zeroValue48 rfl (fun b2 => ?_);refine oS Tryz.sizeOf26 ?_;refine oS Tryz.sizeOf48 ?_;refine oV ?_;refine nS ?_;refine oI Tryz.call27 rfl hpb ?_;rintro _ I2 hx2 ⟨ui, ul, uo, ua, ms, rfl, hq, hg⟩;refine oV ?_
  have hq : ProgV I2 ui ul uo ua p13B ms := hq
  have hti := hq.si
  have htl := hq.sl
  have hto := hq.so
  have hta := hq.sa
  have hf' : ∀ o ∈ ns, o.c.few 2000000 := fun o ho => ⟨Nat.le_trans (hf o ho).1 (by decide), Nat.le_trans (hf o ho).2 (by decide)⟩
  have hg' : ∀ o ∈ ms, o.c.few 2000000 := fun o ho => ⟨Nat.le_trans (hg o ho).1 (by decide), Nat.le_trans (hg o ho).2 (by decide)⟩
  have hc1 := scCheck_any vi vl vo va p13A ns (hp.le hx2.le) hf'
  have hc2 := scCheck_any ui ul uo ua p13B ms hq hg'
  have hw := scWhere_any ui ul uo ua p13B ms awA hq hg'
  rw [read13A] at hc1
  rw [read13B] at hc2
  rw [where13B] at hw
  iterate 3 refine oV ?_
  refine o_alloc trivial rfl Tryz.zeroValue26 rfl (fun b4 => ?_);refine o_alloc trivial rfl Tryz.zeroValue48 rfl (fun b5 => ?_);refine oS Tryz.sizeOf26 ?_;refine oS Tryz.sizeOf48 ?_;refine oV ?_;refine nS ?_;refine oA Tryz.isAgg26 Tryz.sizeOf26 ?_;refine oQ Tryz.call17 rfl hc1 ?_;iterate 5 refine oV ?_
  refine nS ?_;refine oA Tryz.isAgg26 Tryz.sizeOf26 ?_;refine oQ Tryz.call17 rfl hc2 ?_;iterate 5 refine oV ?_
  refine nS ?_;refine oA Tryz.isAgg26 Tryz.sizeOf26 ?_;refine oQ Tryz.call19 rfl hw ?_;iterate 7 refine oV ?_
  refine nS ?_;iterate 2 refine oV ?_
  refine' o_and trivial trivial rfl rfl rfl rfl rfl rfl rfl rfl (fun hb42 => ?_) ?_;rotate_left
  ·
   iterate 2 refine gV hb42 ?_
   refine oN ?_;exact joins rfl
  refine' o_and trivial trivial rfl rfl rfl rfl rfl rfl rfl rfl (fun hb46 => ?_) ?_;rotate_left
  ·
   iterate 2 refine gV hb46 ?_
   refine oN ?_;exact joins rfl
  refine' o_and trivial trivial rfl rfl rfl rfl rfl rfl rfl rfl (fun hb50 => ?_) ?_;rotate_left
  ·
   iterate 2 refine gV hb50 ?_
   refine oN ?_;exact joins rfl
  refine' o_and trivial trivial rfl rfl rfl rfl rfl rfl rfl rfl (fun hb54 => ?_) ?_;rotate_left
  ·
   iterate 2 refine gV hb54 ?_
   refine oN ?_;exact joins rfl
  refine' o_and trivial trivial rfl rfl rfl rfl rfl rfl rfl rfl (fun hb58 => ?_) ?_;rotate_left
  ·
   iterate 2 refine gV hb58 ?_
   refine oN ?_;exact joins rfl
  refine' o_and trivial trivial rfl rfl rfl rfl rfl rfl rfl rfl (fun hb62 => ?_) ?_;rotate_left
  ·
   refine gV hb62 ?_;refine oN ?_;exact joins rfl
  refine' o_and trivial trivial rfl rfl rfl rfl rfl rfl rfl rfl (fun hb65 => ?_) ?_;rotate_left
  ·
   iterate 2 refine gV hb65 ?_
   refine oN ?_;exact joins rfl
  refine' o_and trivial trivial rfl rfl rfl rfl rfl rfl rfl rfl (fun hb69 => ?_) ?_;rotate_left
  ·
   refine gV hb69 ?_;refine oN ?_;exact joins rfl
  refine oV ?_;refine nE ?_;refine ret1 rfl rfl ?_;refine leaf (hx1.trans hx2 (Nat.le_refl _)) (List.nil_sublist _) (congrArg Value.bool ?_); kernel_rfl
def us (s : ByteArray) : ByteArray := s ++ ⟨#[95]⟩
theorem segZ_app {all x : List NodeC} {fr hi : Int} (h : hi ≤ all.length) : segZ (all ++ x) fr hi = segZ all fr hi := by
  unfold segZ
  rw [List.take_append_of_le_length (by omega)]
theorem readZ_parts {p : ProgC} (h : (readZ p).err = 0) : ∃ (l : List (ByteArray × Ex)) (n m r : ByteArray) (K1 : KN) (L2 : List ByteArray), RightP p l ∧ insZ p.ins 0 [] = (n, 0, K1) ∧ letsZ p.all p.lets 0 0 K1 [] = (m, 0, (readZ p).K, L2) ∧ ousZ (readZ p).K p.outs L2 = (r, 0, (readZ p).L) := by
  cases ht : (tZ p).isSome with
  | false => rw [readZ_not ht] at h; cases h
  | true =>
    obtain ⟨l, hl⟩ := tZ_iff.1 ht
    cases hi : insZ p.ins 0 [] with
    | mk n x =>
      obtain ⟨e, K⟩ := x
      by_cases he : e = 0
      · subst he
        cases hz : letsZ p.all p.lets 0 0 K [] with
        | mk m y =>
          obtain ⟨e2, K2, L2⟩ := y
          by_cases he2 : e2 = 0
          · subst he2
            have hr := readZ_outs ht hi hz
            rw [hr] at h ⊢
            dsimp only at h ⊢
            refine ⟨l, n, m, (ousZ K2 p.outs L2).1, K, L2, hl, rfl, hz, ?_⟩
            rw [← h]
          · rw [readZ_lets ht hi hz he2] at h; exact absurd h he2
      · rw [readZ_ins ht hi he] at h; exact absurd h he
theorem decodeN_bar (n n' b0 b1 b2 b3 c1 c2 c3 : Nat) (hpos : 1 ≤ n) (hn : n ≤ n') (h1 : 1 < n → c1 = b1) (h2 : 2 < n → c2 = b2) (h3 : 3 < n → c3 = b3)
    (k1 : n = 1 → 1 < n' → c1 / 64 ≠ 2) (k2 : n = 2 → 2 < n' → c2 / 64 ≠ 2) (k3 : n = 3 → 3 < n' → c3 / 64 ≠ 2) : Lib.decodeN n' b0 c1 c2 c3 = Lib.decodeN n b0 b1 b2 b3 := by
  have e1 : (1 < n' ∧ c1 / 64 = 2) ↔ (1 < n ∧ b1 / 64 = 2) := by
    by_cases q : 1 < n
    · rw [h1 q]
      constructor
      · rintro ⟨_, h⟩; exact ⟨q, h⟩
      · rintro ⟨_, h⟩; exact ⟨by omega, h⟩
    · have q1 : n = 1 := by omega
      constructor
      · rintro ⟨p1, p2⟩; exact absurd p2 (k1 q1 p1)
      · rintro ⟨p1, _⟩; omega
  have e2 : ((1 < n' ∧ c1 / 64 = 2) ∧ (2 < n' ∧ c2 / 64 = 2)) ↔ ((1 < n ∧ b1 / 64 = 2) ∧ (2 < n ∧ b2 / 64 = 2)) := by
    by_cases q : 2 < n
    · rw [e1, h2 q]
      constructor
      · rintro ⟨h, _, h'⟩; exact ⟨h, q, h'⟩
      · rintro ⟨h, _, h'⟩; exact ⟨h, by omega, h'⟩
    · constructor
      · rintro ⟨h, p1, p2⟩
        have h' := e1.1 h
        exact absurd p2 (k2 (by omega) p1)
      · rintro ⟨_, p1, _⟩; omega
  have e3 : ((1 < n' ∧ c1 / 64 = 2) ∧ (2 < n' ∧ c2 / 64 = 2) ∧ (3 < n' ∧ c3 / 64 = 2)) ↔ ((1 < n ∧ b1 / 64 = 2) ∧ (2 < n ∧ b2 / 64 = 2) ∧ (3 < n ∧ b3 / 64 = 2)) := by
    constructor
    · rintro ⟨x1, x2, x3⟩
      have y := e2.1 ⟨x1, x2⟩
      by_cases q : 3 < n
      · exact ⟨y.1, y.2, q, by rw [← h3 q]; exact x3.2⟩
      · exact absurd x3.2 (k3 (by omega) x3.1)
    · rintro ⟨x1, x2, x3⟩
      have y := e2.2 ⟨x1, x2⟩
      exact ⟨y.1, y.2, by omega, by rw [h3 x3.1]; exact x3.2⟩
  unfold Lib.decodeN
  by_cases g0 : b0 < 128
  · rw [if_pos g0, if_pos g0]
  · rw [if_neg g0, if_neg g0]
    by_cases g1 : b0 / 32 = 6 ∧ (1 < n ∧ b1 / 64 = 2)
    · rw [if_pos g1, if_pos ⟨g1.1, e1.2 g1.2⟩, h1 g1.2.1]
    · rw [if_neg g1, if_neg (fun h => g1 ⟨h.1, e1.1 h.2⟩)]
      by_cases g2 : b0 / 16 = 14 ∧ (1 < n ∧ b1 / 64 = 2) ∧ (2 < n ∧ b2 / 64 = 2)
      · rw [if_pos g2, if_pos ⟨g2.1, e2.2 g2.2⟩, h1 g2.2.1.1, h2 g2.2.2.1]
      · rw [if_neg g2, if_neg (fun h => g2 ⟨h.1, e2.1 h.2⟩)]
        by_cases g3 : b0 / 8 = 30 ∧ (1 < n ∧ b1 / 64 = 2) ∧ (2 < n ∧ b2 / 64 = 2) ∧ (3 < n ∧ b3 / 64 = 2)
        · rw [if_pos g3, if_pos ⟨g3.1, e3.2 g3.2⟩, h1 g3.2.1.1, h2 g3.2.2.1.1, h3 g3.2.2.2.1]
        · rw [if_neg g3, if_neg (fun h => g3 ⟨h.1, e3.1 h.2⟩)]
def Bl (x : ByteArray) : Prop := x.size = 0 ∨ (x.get! 0).toNat = 10 ∨ (x.get! 0).toNat = 32
theorem get_mid (s x : ByteArray) : (s ++ x).get! s.size = x.get! 0 := get_right s x 0
theorem bl_decode {s x : ByteArray} (hx : Bl x) {i : Nat} (hi : i < s.size) : Utf8.decode (s ++ x) i = Utf8.decode s i := by
  have hsz : (s ++ x).size = s.size + x.size := ByteArray.size_append
  have hm := get_mid s x
  have hstop : s.size < (s ++ x).size → ((s ++ x).get! s.size).toNat / 64 ≠ 2 := fun h => by
    rw [hm]
    rcases hx with h0 | h0 | h0 <;> omega
  rw [Lib.decode_at, Lib.decode_at, get_left s x i hi]
  refine decodeN_bar _ _ _ _ _ _ _ _ _ (by omega) (by omega) (fun h => by rw [get_left s x _ (by omega)]) (fun h => by rw [get_left s x _ (by omega)]) (fun h => by rw [get_left s x _ (by omega)]) (fun h h' => ?_) (fun h h' => ?_) (fun h h' => ?_)
  · rw [show i + 1 = s.size by omega]; exact hstop (by omega)
  · rw [show i + 2 = s.size by omega]; exact hstop (by omega)
  · rw [show i + 3 = s.size by omega]; exact hstop (by omega)
theorem bl_kAt {s x : ByteArray} (hx : Bl x) {i : Nat} (hi : i < s.size) : kAt (s ++ x) i = kAt s i := by unfold kAt; rw [bl_decode hx hi]
theorem kAt_ascii {s : ByteArray} {i : Nat} (h : (s.get! i).toNat < 128) : kAt s i = kindZ (s.get! i).toNat := by unfold kAt; rw [Go.Tw.decode_ascii h]
theorem bl_mid {s x : ByteArray} (hx : Bl x) (h : s.size < (s ++ x).size) : kAt (s ++ x) s.size = 3 ∧ ((s ++ x).get! s.size).toNat ≠ 124 := by
  have hsz : (s ++ x).size = s.size + x.size := ByteArray.size_append
  have hm := get_mid s x
  rcases hx with h0 | h0 | h0
  · omega
  · rw [kAt_ascii (by rw [hm]; omega), hm, h0]; exact ⟨by decide, by decide⟩
  · rw [kAt_ascii (by rw [hm]; omega), hm, h0]; exact ⟨by decide, by decide⟩
theorem bl_run {p : Int → Bool} {s x : ByteArray} (hx : Bl x) (hp : p 3 = false) : ∀ (f i : Nat), s.size ≤ i + f → i ≤ s.size → runAt p (s ++ x) i = runAt p s i
  | 0, i, h, hi => by
    have e : i = s.size := by omega
    subst e
    rw [runAt_end (s := s) (Nat.le_refl _)]
    rcases Nat.lt_or_ge s.size (s ++ x).size with h1 | h1
    · exact runAt_stop h1 (by rw [(bl_mid hx h1).1]; exact hp)
    · rw [runAt_end h1]
      have hsz : (s ++ x).size = s.size + x.size := ByteArray.size_append
      omega
  | f + 1, i, h, hi => by
    rcases Nat.lt_or_ge i s.size with h1 | h1
    · have hsz : (s ++ x).size = s.size + x.size := ByteArray.size_append
      have hw := width_pos s i
      have hin := width_in s i h1
      cases hk : p (kAt s i) with
      | false => rw [runAt_stop h1 hk, runAt_stop (by omega) (by rw [bl_kAt hx h1]; exact hk)]
      | true =>
        rw [runAt_step h1 hk, runAt_step (by omega) (by rw [bl_kAt hx h1]; exact hk), bl_decode hx h1]
        exact bl_run hx hp f _ (by omega) hin
    · exact bl_run hx hp 0 i (by omega) hi
theorem ext_left {s x : ByteArray} {i j : Nat} (hj : j ≤ s.size) : (s ++ x).extract i j = s.extract i j := by
  rw [ByteArray.extract_append]
  have : x.extract (i - s.size) (j - s.size) = ByteArray.empty := ByteArray.extract_eq_empty_iff.2 (by omega)
  rw [this, ByteArray.append_empty]
theorem bl_numEnd {s x : ByteArray} (hx : Bl x) {i : Nat} (hi : i ≤ s.size) : numEnd (s ++ x) i = numEnd s i := by
  have hr := bl_run (p := isDigit) hx rfl s.size i (by omega) hi
  have hle := runAt_le isDigit s i hi
  have hsz : (s ++ x).size = s.size + x.size := ByteArray.size_append
  unfold numEnd
  rw [hr]
  rcases Nat.lt_or_ge (runAt isDigit s i) s.size with h1 | h1
  · rw [get_left s x _ h1, bl_run (p := isDigit) hx rfl s.size (runAt isDigit s i + 1) (by omega) (by omega)]
    by_cases h2 : runAt isDigit s i < s.size ∧ (s.get! (runAt isDigit s i)).toNat = 124 ∧ runAt isDigit s i + 1 < runAt isDigit s (runAt isDigit s i + 1)
    · rw [if_pos h2, if_pos ⟨by omega, h2.2⟩]
    · rw [if_neg h2, if_neg (fun h => h2 ⟨h1, h.2⟩)]
  · rw [if_neg (c := runAt isDigit s i < s.size ∧ _) (by omega)]
    have e : runAt isDigit s i = s.size := by omega
    rw [e, if_neg]
    rintro ⟨h2, h3, _⟩;exact (bl_mid hx h2).2 h3
theorem bl_tok {s x : ByteArray} (hx : Bl x) {i : Nat} (hi : i < s.size) : tokZ (s ++ x) i = tokZ s i := by
  have hw := runAt_le isWord s i (by omega)
  have hn := (numEnd_ge s i (by omega)).2
  have hin := width_in s i hi
  unfold tokZ
  rw [bl_kAt hx hi, bl_run (p := isWord) hx rfl s.size i (by omega) (by omega), bl_numEnd hx (by omega), bl_decode hx hi, ext_left hw, ext_left hn, ext_left hin]
theorem _root_.Go.Tw.Hops.head {s : ByteArray} {i b : Nat} (h : Hops s i b) : i = b ∨ (i < s.size ∧ Hops s (i + (Utf8.decode s i).2) b) := by
  induction h with
  | refl => exact .inl rfl
  | @step j _ hj ih =>
    rcases ih with rfl | ⟨h1, h2⟩
    · exact .inr ⟨hj, .refl⟩
    · exact .inr ⟨h1, h2.step hj⟩
theorem _root_.Go.Tw.Hops.mid {s : ByteArray} {i a b : Nat} (ha : Hops s i a) (hb : Hops s i b) : a ≤ b → Hops s a b := by
  induction ha with
  | refl => intro _; exact hb
  | @step j _ hj ih =>
    intro h
    have hw := width_pos s j
    rcases (ih (by omega)).head with h1 | h1
    · omega
    · exact h1.2
theorem cut_decode {s : ByteArray} {B i : Nat} (hB : B ≤ s.size) (hi : i < B) (h : Hops s i B) : Utf8.decode (s.extract 0 B) i = Utf8.decode s i ∧ Hops s (i + (Utf8.decode s i).2) B ∧ i + (Utf8.decode s i).2 ≤ B := by
  rcases h.head with h1 | ⟨h1, h2⟩
  · omega
  · have hge := h2.ge
    have e := decode_piece s 0 B i hB (by omega) (by rw [Nat.zero_add]; exact hge)
    rw [Nat.zero_add] at e
    exact ⟨e, h2, hge⟩
theorem cut_kAt {s : ByteArray} {B i : Nat} (hB : B ≤ s.size) (hi : i < B) (h : Hops s i B) : kAt (s.extract 0 B) i = kAt s i := by unfold kAt; rw [(cut_decode hB hi h).1]
theorem cut_size {s : ByteArray} {B : Nat} (hB : B ≤ s.size) : (s.extract 0 B).size = B := by rw [ByteArray.size_extract]; omega
theorem cut_run (p : Int → Bool) {s : ByteArray} {B : Nat} (hB : B ≤ s.size) : ∀ (f i : Nat), B ≤ i + f → i ≤ B → Hops s i B → runAt p (s.extract 0 B) i = min (runAt p s i) B
  | 0, i, h, hi, _ => by
    have e : i = B := by omega
    subst e
    have := runAt_ge p s i hB
    rw [runAt_end (by rw [cut_size hB]; omega), cut_size hB]
    omega
  | f + 1, i, h, hi, hh => by
    rcases Nat.lt_or_ge i B with h1 | h1
    · obtain ⟨e1, e2, e3⟩ := cut_decode hB h1 hh
      have hw := width_pos s i
      cases hk : p (kAt s i) with
      | false =>
        rw [runAt_stop (s := s) (by omega) hk, runAt_stop (by rw [cut_size hB]; exact h1) (by rw [cut_kAt hB h1 hh]; exact hk)]
        omega
      | true =>
        rw [runAt_step (s := s) (by omega) hk, runAt_step (by rw [cut_size hB]; exact h1) (by rw [cut_kAt hB h1 hh]; exact hk), e1]
        exact cut_run p hB f _ (by omega) e3 e2
    · exact cut_run p hB 0 i (by omega) hi hh
theorem ext_cut {s : ByteArray} {B i j : Nat} (hj : j ≤ B) : (s.extract 0 B).extract i j = s.extract i j := by
  rw [ByteArray.extract_extract, Nat.zero_add, Nat.zero_add, Nat.min_eq_left hj]
theorem cut_get {s : ByteArray} {B i : Nat} (hB : B ≤ s.size) (hi : i < B) : (s.extract 0 B).get! i = s.get! i := by
  have := get_piece s 0 B i hB (by omega)
  rw [Nat.zero_add] at this
  exact this
theorem cut_numEnd {s : ByteArray} {B i : Nat} (hB : B ≤ s.size) (hi : i ≤ B) (h : Hops s i B) (hn : numEnd s i ≤ B) : numEnd (s.extract 0 B) i = numEnd s i := by
  have hr1 := cut_run isDigit hB B i (by omega) hi h
  have hs1 := runAt_steps isDigit s s.size i (by omega) (by omega)
  have hb := runAt_le isDigit s i (by omega)
  have hsz := cut_size hB
  have hr : runAt isDigit s i ≤ numEnd s i := by
    unfold numEnd
    split
    · rename_i h'; omega
    · exact Nat.le_refl _
  have e1 : runAt isDigit (s.extract 0 B) i = runAt isDigit s i := by rw [hr1]; omega
  have e2 : runAt isDigit s i < B → (s.get! (runAt isDigit s i)).toNat = 124 → runAt isDigit (s.extract 0 B) (runAt isDigit s i + 1) = min (runAt isDigit s (runAt isDigit s i + 1)) B := fun hlt h124 => by
    have hst := hs1.step (show runAt isDigit s i < s.size by omega)
    rw [Go.Tw.decode_ascii (s := s) (i := runAt isDigit s i) (by omega)] at hst
    exact cut_run isDigit hB B _ (by omega) (by show runAt isDigit s i + 1 ≤ B; omega) (hst.mid h (by show runAt isDigit s i + 1 ≤ B; omega))
  unfold numEnd at hn ⊢
  rw [e1, hsz]
  by_cases h2 : runAt isDigit s i < s.size ∧ (s.get! (runAt isDigit s i)).toNat = 124 ∧ runAt isDigit s i + 1 < runAt isDigit s (runAt isDigit s i + 1)
  · rw [if_pos h2] at hn ⊢
    have hlt : runAt isDigit s i < B := by omega
    have e3 := e2 hlt h2.2.1
    rw [cut_get hB hlt, e3, if_pos ⟨hlt, h2.2.1, by omega⟩]
    omega
  · rw [if_neg h2]
    by_cases h3 : runAt isDigit s i < B ∧ ((s.extract 0 B).get! (runAt isDigit s i)).toNat = 124 ∧ runAt isDigit s i + 1 < runAt isDigit (s.extract 0 B) (runAt isDigit s i + 1)
    · exfalso
      obtain ⟨h4, h5, h6⟩ := h3
      rw [cut_get hB h4] at h5
      rw [e2 h4 h5] at h6
      exact h2 ⟨by omega, h5, by omega⟩
    · rw [if_neg h3]
theorem cut_tok {s : ByteArray} {B i : Nat} (hB : B ≤ s.size) (hi : i < B) (h : Hops s i B) (he : (tokZ s i).err = 0) (hst : (tokZ s i).stop ≤ B) : tokZ (s.extract 0 B) i = tokZ s i := by
  obtain ⟨e1, e2, e3⟩ := cut_decode hB hi h
  have ek := cut_kAt hB hi h
  unfold tokZ at he hst ⊢
  rw [ek, e1]
  by_cases h1 : kAt s i = 1
  · rw [if_pos h1] at he hst
    have hle : runAt isWord s i ≤ B := by
      split at hst <;> exact hst
    have hr := cut_run isWord hB B i (by omega) (by omega) h
    rw [Nat.min_eq_left hle] at hr
    rw [if_pos h1, if_pos h1, hr, ext_cut hle]
  · rw [if_neg h1] at he hst
    rw [if_neg h1, if_neg h1]
    by_cases h2 : kAt s i = 2
    · rw [if_pos h2] at he hst
      have hle : numEnd s i ≤ B := by
        split at hst
        · exact hst
        · split at hst <;> exact hst
      rw [if_pos h2, if_pos h2, cut_numEnd hB (by omega) h hle, ext_cut hle]
    · rw [if_neg h2, if_neg h2, ext_cut e3]
def tokAt (s : ByteArray) (i : Nat) : Tok := ⟨(tokZ s i).kind, (tokZ s i).text, (placeZ s i).1, (placeZ s i).2⟩
inductive Lexed (s : ByteArray) : Nat → Nat → List Tok → Prop
  | refl (i : Nat) : Lexed s i i []
  | blank {i j : Nat} {ts : List Tok} : i < s.size → kAt s i = 3 → Lexed s (i + 1) j ts → Lexed s i j ts
  | tok {i j : Nat} {ts : List Tok} : i < s.size → kAt s i ≠ 3 → (tokZ s i).err = 0 → Lexed s (tokZ s i).stop j ts → Lexed s i j (tokAt s i :: ts)
theorem Lexed.trans {s : ByteArray} {i j k : Nat} {ts us : List Tok} (h : Lexed s i j ts) (h2 : Lexed s j k us) : Lexed s i k (ts ++ us) := by
  induction h with
  | refl => exact h2
  | blank a b _ ih => exact .blank a b (ih h2)
  | tok a b c _ ih => exact .tok a b c (ih h2)
theorem Lexed.hops {s : ByteArray} {i j : Nat} {ts : List Tok} (h : Lexed s i j ts) : Hops s i j := by
  induction h with
  | refl => exact .refl
  | blank a b _ ih =>
    have := (Hops.refl (s := s)).step a
    rw [kAt_three b] at this
    exact this.trans ih
  | tok a b c _ ih => exact (tok_hops a c).trans ih
theorem Lexed.few {s : ByteArray} {i j : Nat} {ts : List Tok} (h : Lexed s i j ts) : i + ts.length ≤ j := by
  induction h with
  | refl => simp
  | blank a b _ ih => omega
  | tok a b c _ ih => have := tokZ_stop a c; simp only [List.length_cons]; omega
theorem Lexed.lex {s : ByteArray} {i j : Nat} {ts : List Tok} (h : Lexed s i j ts) : ∀ out : List Tok, out.length + ts.length ≤ 4000 → lexAt s i out = lexAt s j (out ++ ts) := by
  induction h with
  | refl => intro out _; rw [List.append_nil]
  | blank a b _ ih => intro out hl; rw [lexAt_open a, if_pos b]; exact ih out hl
  | tok a b c _ ih =>
    intro out hl
    simp only [List.length_cons] at hl
    rw [lexAt_open a, if_neg b, if_neg (by omega), if_neg (not_not_intro c), ih _ (by simp; omega), List.append_assoc]
    rfl
theorem Lexed.all (s : ByteArray) : ∀ (f i : Nat), s.size ≤ i + f → i ≤ s.size → ∃ j ts, Lexed s i j ts ∧ (j = s.size ∨ (j < s.size ∧ kAt s j ≠ 3 ∧ (tokZ s j).err ≠ 0))
  | 0, i, h, hi => ⟨i, [], .refl i, .inl (by omega)⟩
  | f + 1, i, h, hi => by
    rcases Nat.lt_or_ge i s.size with h1 | h1
    · by_cases h3 : kAt s i = 3
      · obtain ⟨j, ts, a, b⟩ := Lexed.all s f (i + 1) (by omega) (by omega)
        exact ⟨j, ts, .blank h1 h3 a, b⟩
      · by_cases h4 : (tokZ s i).err = 0
        · have hst := tokZ_stop h1 h4
          obtain ⟨j, ts, a, b⟩ := Lexed.all s f (tokZ s i).stop (by omega) hst.2
          exact ⟨j, _, .tok h1 h3 h4 a, b⟩
        · exact ⟨i, [], .refl i, .inr ⟨h1, h3, h4⟩⟩
    · exact ⟨i, [], .refl i, .inl (by omega)⟩
theorem Lexed.bad {s : ByteArray} {ts : List Tok} {j : Nat} (hs : s.size ≤ 4000) (h : Lexed s 0 j ts) (h1 : j < s.size) (h2 : kAt s j ≠ 3) (h3 : (tokZ s j).err ≠ 0) : lexZ s = ⟨[], (placeZ s j).1, (placeZ s j).2, (tokZ s j).err⟩ := by
  have hf := h.few
  rw [lexZ_at (by omega), h.lex [] (by simp; omega), lexAt_open h1, if_neg h2, if_neg (by simp; omega), if_pos h3]
theorem bl_place {s x : ByteArray} (hx : Bl x) {i : Nat} (h : Hops s 0 i) : Hops (s ++ x) 0 i ∧ placeZ (s ++ x) i = placeZ s i := by
  induction h with
  | refl => exact ⟨.refl, by rw [show ((0 : Nat) : Int) = 0 from rfl, placeZ_first, placeZ_first]⟩
  | @step j h hj ih =>
    have hsz : (s ++ x).size = s.size + x.size := ByteArray.size_append
    have hd := bl_decode hx hj
    have h1 := ih.1.step (show j < (s ++ x).size by omega)
    have h2 := place_step ih.1 (show j < (s ++ x).size by omega)
    rw [hd] at h1 h2
    exact ⟨h1, by rw [h2, place_step h hj, ih.2]⟩
theorem bl_tokAt {s x : ByteArray} (hx : Bl x) {i : Nat} (hi : i < s.size) (h : Hops s 0 i) : tokAt (s ++ x) i = tokAt s i := by unfold tokAt; rw [bl_tok hx hi, (bl_place hx h).2]
theorem Lexed.bl {s x : ByteArray} (hx : Bl x) {i j : Nat} {ts : List Tok} (h : Lexed s i j ts) : Hops s 0 i → Lexed (s ++ x) i j ts := by
  have hsz : (s ++ x).size = s.size + x.size := ByteArray.size_append
  induction h with
  | refl => intro _; exact .refl _
  | blank a b _ ih =>
    intro h0
    have h1 := h0.step a
    rw [kAt_three b] at h1
    exact .blank (by omega) (by rw [bl_kAt hx a]; exact b) (ih h1)
  | tok a b c _ ih =>
    intro h0
    have h1 := h0.trans (tok_hops a c)
    rw [← bl_tokAt hx a h0]
    exact .tok (by omega) (by rw [bl_kAt hx a]; exact b) (by rw [bl_tok hx a]; exact c) (by rw [bl_tok hx a]; exact ih h1)
theorem cut_place {s : ByteArray} {B i : Nat} (hB : B ≤ s.size) (h : Hops s 0 i) (hi : i ≤ B) : placeZ (s.extract 0 B) i = placeZ s i := by
  have hw := width_pos (s.extract 0 B) i
  obtain ⟨h1, hr⟩ := steps_piece (Hops.refl (s := s) (a := 0)) hB h hi
  rw [show ((0 : Nat) : Int) = 0 from rfl, placeZ_first] at hr
  have e := hr.here (at_ := (i : Int)) (by omega) (.inl (by rw [Nat.sub_zero]; omega))
  rw [e]
  refine Prod.ext (by simp only; omega) ?_
  simp only
  split <;> omega
theorem Lexed.ge {s : ByteArray} {i j : Nat} {ts : List Tok} (h : Lexed s i j ts) : i ≤ j := h.hops.ge
theorem Lexed.cut {s : ByteArray} {B i j : Nat} {ts : List Tok} (hB : B ≤ s.size) (h : Lexed s i j ts) : Hops s 0 i → Hops s j B → Lexed (s.extract 0 B) i j ts := by
  have hsz := cut_size hB
  induction h with
  | refl => intro _ _; exact .refl _
  | @blank i j ts a b c ih =>
    intro h0 hj
    have h1 := (Hops.refl (s := s)).step a
    rw [kAt_three b] at h1
    have hle := (c.hops.trans hj).ge
    exact .blank (by omega) (by rw [cut_kAt hB (by omega) (h1.trans (c.hops.trans hj))]; exact b) (ih (h0.trans h1) hj)
  | @tok i j ts a b c d ih =>
    intro h0 hj
    have h1 := tok_hops a c
    have hst := tokZ_stop a c
    have hle := (d.hops.trans hj).ge
    have hh := h1.trans (d.hops.trans hj)
    have ht := cut_tok hB (by omega) hh c hle
    have e : tokAt (s.extract 0 B) i = tokAt s i := by unfold tokAt; rw [ht, cut_place hB h0 (by omega)]
    rw [← e]
    exact .tok (by omega) (by rw [cut_kAt hB (by omega) hh]; exact b) (by rw [ht]; exact c) (by rw [ht]; exact ih (h0.trans h1) hj)
theorem Lexed.split {s : ByteArray} {i j : Nat} {ts : List Tok} (h : Lexed s i j ts) : ∀ n (hn : n < ts.length), ∃ k, Lexed s i k (ts.take n) ∧ k < s.size ∧ kAt s k ≠ 3 ∧ (tokZ s k).err = 0 ∧ ts[n] = tokAt s k ∧ Lexed s (tokZ s k).stop j (ts.drop (n + 1)) := by
  induction h with
  | refl => intro n hn; simp at hn
  | blank a b _ ih =>
    intro n hn
    obtain ⟨k, h1, h2⟩ := ih n hn
    exact ⟨k, .blank a b h1, h2⟩
  | @tok i j ts a b c d ih =>
    intro n hn
    cases n with
    | zero => exact ⟨i, .refl i, a, b, c, rfl, d⟩
    | succ n =>
      obtain ⟨k, h1, h2, h3, h4, h5, h6⟩ := ih n (by simpa using hn)
      exact ⟨k, .tok a b c h1, h2, h3, h4, by simpa using h5, h6⟩
inductive Likes : List Tok → List Tok → Prop
  | nil : Likes [] []
  | cons {t u : Tok} {ts us : List Tok} : (t.kind = u.kind ∧ t.text = u.text) → Likes ts us → Likes (t :: ts) (u :: us)
theorem Likes.len {ts us : List Tok} (h : Likes ts us) : ts.length = us.length := by
  induction h with
  | nil => rfl
  | cons _ _ ih => simp [ih]
theorem Likes.get {ts us : List Tok} (h : Likes ts us) : ∀ i (h1 : i < ts.length) (h2 : i < us.length), (ts[i]).kind = (us[i]).kind ∧ (ts[i]).text = (us[i]).text := by
  induction h with
  | nil => intro i h1; simp at h1
  | cons a _ ih =>
    intro i h1 h2
    cases i with
    | zero => exact a
    | succ i => exact ih i (by simpa using h1) (by simpa using h2)
structure Plus (u : ByteArray) (n : Nat) : Prop where
  le : n ≤ u.size
  few : u.size ≤ 60000
  get : ∀ i, i < n → (u.get! i).toNat = 43
theorem Plus.kAt {u : ByteArray} {n i : Nat} (h : Plus u n) (hi : i < n) : kAt u i = 4 := by
  rw [kAt_ascii (by rw [h.get i hi]; omega), h.get i hi]; decide
theorem Plus.dec {u : ByteArray} {n i : Nat} (h : Plus u n) (hi : i < n) : Utf8.decode u i = (43, 1) := by
  rw [Go.Tw.decode_ascii (by rw [h.get i hi]; omega), h.get i hi]
theorem Plus.tok {u : ByteArray} {n i : Nat} (h : Plus u n) (hi : i < n) : (tokZ u i).err = 0 ∧ (tokZ u i).stop = i + 1 := by
  unfold tokZ
  rw [h.kAt hi, h.dec hi]
  exact ⟨rfl, rfl⟩
theorem name_parts {s : ByteArray} (h : nameZ s = true) : 1 ≤ s.size ∧ s.size ≤ 40 ∧ keyZ s = false ∧ nameGo s (s.size - 0) 0 = true := by
  unfold nameZ at h
  simp only [Bool.and_eq_true, decide_eq_true_eq, Bool.not_eq_true'] at h
  exact ⟨h.1.1.1, h.1.1.2, h.1.2, h.2⟩
def thenL (r : ByteArray × Int × KN × List ByteArray) (f : KN → List ByteArray → ByteArray × Int × KN × List ByteArray) : ByteArray × Int × KN × List ByteArray := if r.2.1 = 0 then f r.2.2.1 r.2.2.2 else r
theorem letsZ_two {A X : List NodeC} {ls' : List LetC} : ∀ {ls : List LetC} {i : Nat} {fr : Int} {K : KN} {L : List ByteArray}, bgGo A ls fr = some (A.length : Int) → letsZ (A ++ X) (ls ++ ls') i fr K L = thenL (letsZ A ls i fr K L) fun K' L' => letsZ (A ++ X) ls' (i + ls.length) (A.length : Int) K' L'
  | [], i, fr, K, L, hg => by
    have h3 : fr = (A.length : Int) := Option.some.inj hg
    rw [h3]
    rfl
  | c :: ls, i, fr, K, L, hg => by
    rw [bgGo_cons] at hg
    by_cases hcd : nameZ c.name = true ∧ fr ≤ c.root ∧ c.root < A.length ∧ begZ A fr A.length c.root = fr
    · rw [if_pos hcd] at hg
      rw [List.cons_append, letsZ, letsZ, segZ_app (by omega)]
      cases hn : nodesZ K (segZ A fr (c.root + 1)) L with
      | mk e L1 =>
        cases e with
        | some m => rfl
        | none =>
          dsimp only
          by_cases hh : hasK c.name K = true
          · rw [if_pos hh, if_pos hh]; rfl
          · rw [if_neg hh, if_neg hh, letsZ_two hg, List.length_cons, show i + 1 + ls.length = i + (ls.length + 1) by omega]
    · rw [if_neg hcd] at hg; cases hg
theorem nodesZ_has {K : KN} : ∀ {r : List NodeC} {L L' : List ByteArray}, nodesZ K r L = (none, L') → ∀ c ∈ r, c.kind = 0 → hasK c.name K = true
  | [], L, L', h, c, hc, _ => by cases hc
  | d :: r, L, L', h, c, hc, h0 => by
    rw [nodesZ] at h
    split at h
    · rename_i hk
      rcases List.mem_cons.1 hc with rfl | hc
      · exact absurd h0 hk
      · exact nodesZ_has h c hc h0
    · split at h
      · rename_i hh
        rcases List.mem_cons.1 hc with rfl | hc
        · exact hh
        · exact nodesZ_has h c hc h0
      · have := congrArg Prod.fst h
        cases this
theorem enumK_lt {b : Bool} {s : ByteArray} {q : PL} : ∀ {l : List ByteArray} {i : Nat}, getK s (enumK b l i) = some q → q.l = b ∧ q.i < (i + l.length : Nat)
  | [], i, h => by cases h
  | t :: l, i, h => by
    rw [enumK, getK] at h
    split at h
    · cases h; refine ⟨rfl, ?_⟩; show ((i : Nat) : Int) < _; rw [List.length_cons]; omega
    · obtain ⟨h1, h2⟩ := enumK_lt h
      refine ⟨h1, ?_⟩
      rw [List.length_cons]
      omega
theorem ousZ_less {K : KN} {s : ByteArray} {q : PL} : ∀ {l L L' : List ByteArray} {n : ByteArray}, ousZ (K ++ [(s, q)]) l L = (n, 0, L') → hasK s K = false → ∀ M, ((ousZ K l M).1, (ousZ K l M).2.1) = if memB s l = true then (s, 6) else (⟨#[]⟩, 0)
  | [], L, L', n, h, hk, M => rfl
  | t :: l, L, L', n, h, hk, M => by
    rw [ousZ] at h
    split at h
    · rename_i ht
      rw [ousZ]
      by_cases hts : t = s
      · subst hts
        rw [hk, if_neg (by decide), if_pos ((memB_iff _ _).2 List.mem_cons_self)]
      · have hh : hasK t K = true := by
          unfold hasK at ht ⊢
          rw [getK_app] at ht
          cases e : getK t K with
          | some q => rfl
          | none =>
            rw [e] at ht
            have : getK t [(s, q)] = none := if_neg hts
            rw [this] at ht
            cases ht
        rw [if_pos hh, ousZ_less h hk]
        have : memB s (t :: l) = memB s l := by
          have h1 := memB_iff s (t :: l)
          have h2 := memB_iff s l
          have h3 : (s ∈ t :: l) ↔ s ∈ l := by rw [List.mem_cons]; exact ⟨fun h => h.resolve_left (fun e => hts e.symm), .inr⟩
          rw [h3, ← h2] at h1
          cases e1 : memB s (t :: l) <;> cases e2 : memB s l <;> simp_all
        rw [this]
    · have := congrArg (fun x => x.2.1) h
      simp at this
def frontP (p : ProgC) (fr : Nat) : ProgC := ⟨p.ins, p.lets.take (p.lets.length - 1), p.outs, p.all.take fr⟩
theorem laid_end : ∀ (l : List (ByteArray × Ex)) (b : Nat) (c : LetC), (laid l b).1[l.length - 1]? = some c → c.root + 1 = (b + (laid l b).2.length : Nat)
  | [], b, c, h => by cases h
  | [(s, x)], b, c, h => by
    have : (⟨s, (b : Int) + x.n - 1⟩ : LetC) = c := Option.some.inj h
    rw [← this]
    simp [laid, x.nd_len]
  | (s, x) :: y :: l, b, c, h => by
    have h1 : (laid (y :: l) (b + x.n)).1[(y :: l).length - 1]? = some c := h
    have h2 := laid_end (y :: l) (b + x.n) c h1
    have e : (laid ((s, x) :: y :: l) b).2 = x.nd b ++ (laid (y :: l) (b + x.n)).2 := rfl
    rw [h2, e, List.length_append, x.nd_len]
    omega
structure FrontR (p : ProgC) (fr : Nat) : Prop where
  le : fr ≤ p.all.length
  first : p.lets.length = 1 → fr = 0
  later : ∀ c, p.lets[p.lets.length - 2]? = some c → 2 ≤ p.lets.length → c.root + 1 = fr
  last : ∃ c, p.lets[p.lets.length - 1]? = some c ∧ ((readZ (frontP p fr)).name, (readZ (frontP p fr)).err) = if memB c.name p.outs = true then (c.name, 6) else (⟨#[]⟩, 0)
  names : ∀ i, fr ≤ i → ∀ c, p.all[i]? = some c → c.kind = 0 → (whereZ p c.name).2.2 = true ∧ ((whereZ p c.name).1 = true → (whereZ p c.name).2.1 < ((p.lets.length - 1 : Nat) : Int))
  outs : ∀ s ∈ p.outs, s ≠ ⟨#[]⟩
theorem read_front {p : ProgC} (h : (readZ p).err = 0) (h0 : p.lets.length ≠ 0) : ∃ fr, FrontR p fr := by
  obtain ⟨l, n, m, r, K1, L2, hl, hi, hz, ho⟩ := readZ_parts h
  obtain ⟨hK, _⟩ := readZ_ok h
  have hll : p.lets.length = l.length := by rw [hl.lets, laid_lets]
  rcases List.eq_nil_or_concat l with rfl | ⟨l', ⟨s, x⟩, rfl⟩
  · exact absurd hll h0
  rw [List.concat_eq_append] at hl hll
  rw [List.length_append] at hll
  have hll : p.lets.length = l'.length + 1 := hll
  have elaid := laid_more s x l' 0
  rw [Nat.zero_add] at elaid
  generalize hA : (laid l' 0).2 = A at elaid
  generalize hls : (laid l' 0).1 = ls at elaid
  have hlsl : ls.length = l'.length := by rw [← hls, laid_lets]
  have e1 := hl.lets
  have e2 := hl.all
  rw [elaid] at e1 e2
  dsimp only at e1 e2
  have hq : frontP p A.length = ⟨p.ins, ls, p.outs, A⟩ := by
    unfold frontP
    rw [e1, e2, List.take_left]
    congr 1
    rw [List.length_append, show ls.length + [LetC.mk s ((A.length : Nat) + x.n - 1)].length - 1 = ls.length from rfl, List.take_left]
  have hqR : RightP (frontP p A.length) l' := by
    rw [hq]
    refine ⟨⟨hls.symm, hA.symm, fun a ha => hl.ok a (List.mem_append_left _ ha)⟩, hl.ins, hl.outs, ⟨?_, ?_⟩, fun a ha => hl.low a (List.mem_append_left _ ha)⟩
    · have := hl.few.1; rw [List.length_append] at this; omega
    · have := hl.few.2; rw [e2, List.length_append] at this; show A.length ≤ 400; omega
  have hgo := right_bg hqR
  rw [hq] at hgo
  dsimp only at hgo
  rw [e1, e2, letsZ_two hgo] at hz
  unfold thenL at hz
  by_cases hne : (letsZ A ls 0 0 K1 []).2.1 = 0
  case neg => rw [if_neg hne] at hz; rw [hz] at hne; exact absurd rfl hne
  rw [if_pos hne] at hz
  dsimp only at hz
  generalize hK' : (letsZ A ls 0 0 K1 []).2.2.1 = K' at hz
  generalize hL' : (letsZ A ls 0 0 K1 []).2.2.2 = L' at hz
  have hlz : letsZ A ls 0 0 K1 [] = ((letsZ A ls 0 0 K1 []).1, 0, K', L') := Prod.ext rfl (Prod.ext hne (Prod.ext hK' hL'))
  have hseg : segZ (A ++ x.nd A.length) (A.length : Int) ((A.length : Int) + x.n - 1 + 1) = x.nd A.length := by
    unfold segZ
    rw [show ((A.length : Int) + x.n - 1 + 1).toNat = A.length + x.n by omega, List.take_of_length_le (by rw [List.length_append, x.nd_len]; exact Nat.le_refl _), Int.toNat_natCast, List.drop_left]
  rw [letsZ] at hz
  dsimp only at hz
  rw [hseg] at hz
  cases hn : nodesZ K' (x.nd A.length) L' with
  | mk e L3 =>
  rw [hn] at hz
  cases e with
  | some m => dsimp only at hz; have := congrArg (fun x => x.2.1) hz; simp at this
  | none =>
  dsimp only at hz
  by_cases hh : hasK s K' = true
  case pos => rw [if_pos hh] at hz; have := congrArg (fun x => x.2.1) hz; simp at this
  rw [if_neg hh] at hz
  have hh : hasK s K' = false := by
    cases e : hasK s K' with
    | false => rfl
    | true => exact absurd e hh
  have hKK : (readZ p).K = K' ++ [(s, ⟨true, ((0 + ls.length : Nat) : Int)⟩)] := (congrArg (fun x => x.2.2.1) hz).symm
  rw [hKK] at ho
  have hless := ousZ_less ho hh L'
  have hrq : readZ (frontP p A.length) = ⟨(ousZ K' p.outs L').1, (ousZ K' p.outs L').2.1, K', (ousZ K' p.outs L').2.2⟩ := by
    have ht : (tZ (frontP p A.length)).isSome = true := by rw [tZ_right hqR]; rfl
    rw [hq] at ht ⊢
    exact readZ_outs (p := ⟨p.ins, ls, p.outs, A⟩) ht hi hlz
  have hKe := (letsZ_ok hlz hgo (Int.le_refl _)).1
  have hKi := insZ_ok hi
  rw [List.nil_append] at hKi
  rw [hKi] at hKe
  refine ⟨A.length, ⟨by rw [e2, List.length_append]; omega, fun h1 => ?_, fun c hc h2 => ?_, ⟨⟨s, ((A.length : Nat) : Int) + x.n - 1⟩, ?_, ?_⟩, fun i hi2 c hc hk => ?_, fun t ht e => ?_⟩⟩
  · have : l' = [] := List.eq_nil_of_length_eq_zero (by omega)
    rw [this] at hA
    rw [← hA]; rfl
  · rw [e1, List.getElem?_append_left (by rw [List.length_append, hlsl]; simp; omega), ← hls] at hc
    rw [List.length_append, show ([LetC.mk s ((A.length : Nat) + x.n - 1)] : List LetC).length = 1 from rfl, laid_lets] at hc
    have := laid_end l' 0 c (by rw [show l'.length - 1 = l'.length + 1 - 2 by omega]; exact hc)
    rw [this, hA, Nat.zero_add]
  · rw [hll, e1, ← hlsl]
    show (ls ++ [_])[ls.length]? = _
    rw [List.getElem?_append_right (Nat.le_refl _), Nat.sub_self]; rfl
  · rw [hrq]; exact hless
  · rw [e2, List.getElem?_append_right (by omega)] at hc
    have hmem := List.mem_of_getElem? hc
    have hhas := nodesZ_has hn c hmem hk
    unfold hasK at hhas
    obtain ⟨q, hq2⟩ := Option.isSome_iff_exists.1 hhas
    have hgk : getK c.name (readZ p).K = some q := by rw [hKK, getK_app, hq2]
    have hw : whereZ p c.name = (q.l, q.i, true) := by
      unfold whereZ hasK
      rw [hgk, if_pos ⟨h, rfl⟩]; rfl
    rw [hw]
    refine ⟨rfl, fun hql => ?_⟩
    rw [hKe, getK_app] at hq2
    rw [hll]
    show q.i < ((l'.length : Nat) : Int)
    cases e : getK c.name (enumK false p.ins 0) with
    | some q' =>
      rw [e] at hq2
      cases hq2
      have := (enumK_lt e).1
      rw [this] at hql; cases hql
    | none =>
      rw [e] at hq2
      have := (enumK_lt hq2).2
      rw [List.length_map, hlsl] at this
      omega
  · have h9 := hl.outs.1 t ht
    rw [e] at h9
    have := (name_parts h9).1
    exact absurd this (by decide)
end Go.Proofs.YtfcmhcaggdakbaaGreatDoor
namespace Go.Tw
end Go.Tw
namespace Go.Proofs.YtfcmhcaggdakbaaGreatDoor
open Go Go.Tw
theorem map_take {α β : Type} {f : α → β} {l : List α} {i : Nat} {x : α} (h : l[i]? = some x) : (l.take (i + 1)).map f = (l.take i).map f ++ [f x] := by
  rw [List.take_add_one, h, List.map_append]; rfl
theorem memB_more {n t : ByteArray} {l : List ByteArray} {i : Nat} (h : l[i]? = some t) : memB n (l.take (i + 1)) = true ↔ (memB n (l.take i) = true ∨ t = n) := by
  rw [memB_iff, memB_iff, List.take_add_one, h]
  simp [eq_comm]
theorem bytes_eq {s t : ByteArray} (h : s.toList = t.toList) : s = t := by
  rw [toList_data, toList_data] at h
  exact ByteArray.ext (Array.toList_inj.1 h)
theorem ScopeFront_any (vi vl vo va : Value) (p : ProgC) (ns : List NodeV) {I : Hp} (hp : ProgV I vi vl vo va p ns) (hf : ∀ o ∈ ns, o.c.few 2000000) (hT : Tabs I) (hM : Mx I) (hE : Errs I) : Fun Tryz.prog 4 [.agg #[vi, vl, vo, va]] I [] (fun v _ _ => v = .bool true) := by
  have hsi := hp.si
  have hsl := hp.sl
  have hso := hp.so
  have hsa := hp.sa
  have hla := nds_len ns
  have hal : p.all.length = ns.length := by rw [← hp.eq, List.length_map]
  have hll : (p.lets.map LetC.cells).length = p.lets.length := List.length_map _
  intro w hw
  refine enter1 _ Tryz.func4 rfl Tryz.ntmps4 rfl ?_ hw;refine sR ?_;refine o_box trivial rfl rfl rfl (fun b1 => ?_);refine oV ?_;refine nS ?_;refine oQ Tryz.call15 rfl (awake13_any hT hM hE) ?_;refine oV ?_;refine nS ?_;refine oA Tryz.isAgg26 Tryz.sizeOf26 ?_;refine oQ Tryz.call16 rfl (rrFew_any vi vl vo va p ns 40 hp) ?_;refine oV ?_;refine nS ?_;refine oA Tryz.isAgg26 Tryz.sizeOf26 ?_;refine oQ Tryz.call17 rfl (scCheck_any vi vl vo va p ns hp hf) ?_;iterate 5 refine oV ?_
  refine nU ?_;iterate 2 refine oV ?_
  refine' o_or trivial trivial rfl rfl rfl rfl rfl rfl rfl rfl (fun hb28 => ?_) ?_;rotate_left
  ·
   iterate 2 refine gV hb28 ?_
   refine oN ?_;exact joins rfl
  refine' o_or trivial trivial rfl rfl rfl rfl rfl rfl rfl rfl (fun hb32 => ?_) ?_;rotate_left
  ·
   have fb32 := hb32
   try simp only [bl] at fb32
   refine gF hb32 1 Tryz.underlying26 Tryz.sizeOf23 ?_;refine gL hb32 Tryz.isAgg23 ?_;refine o_lenSlc (wS rfl rfl hb32) rfl Tryz.underlying23 rfl (hsl) ?_;refine gV hb32 ?_;refine oN ?_;exact joins rfl
  refine nT ?_;refine cC rfl (fun h1 => ?_) (fun h1 => ?_)
  ·
   have f1 := h1;try simp only [bl] at f1
   refine sR ?_;iterate 2 refine oV ?_
   refine nF ?_;refine ret1 rfl rfl ?_;exact leaf0 rfl
  have f1 := h1;try simp only [bl] at f1
  obtain ⟨⟨g1, g2⟩, g3⟩ : (fewP p 40 = true ∧ (readZ p).err = 0) ∧ p.lets.length ≠ 0 := by
    rw [hll] at h1
    simp only [bl] at h1
    exact ⟨⟨by simpa using h1.1.1, by simpa using h1.1.2⟩, by have := h1.2; omega⟩
  obtain ⟨m1, m2, m3, m4, m5, m6⟩ := few_of g1 hp.eq
  obtain ⟨fr, R⟩ := read_front g2 g3
  obtain ⟨K, hK⟩ : ∃ K, p.lets.length = K + 1 := ⟨p.lets.length - 1, by omega⟩
  obtain ⟨cl, hcl, hres⟩ := R.last
  rw [hK, Nat.add_sub_cancel] at hcl
  have hfr := R.le
  have hq : ProgV I vi (slcCut vl 0 K 2) vo (slcCut va 0 fr 8) (frontP p fr) (ns.take fr) := by
    have c1 := hsl.cut (lo := 0) (hi := K) (by omega) (by omega)
    have c2 := hsa.cut (lo := 0) (hi := fr) (by omega) (by omega)
    refine ⟨hsi, ?_, hso, ?_, fun o ho => hp.ok o (List.mem_of_mem_take ho), by rw [List.map_take, hp.eq]; rfl⟩
    · show Slc I 2 _ ((p.lets.take (p.lets.length - 1)).map LetC.cells)
      rw [hK, Nat.add_sub_cancel, List.map_take]
      exact c1
    · have e9 : nds (ns.take fr) = (nds ns).take fr := by unfold nds; rw [List.map_take]
      rw [e9]; exact c2
  have hqf : ∀ o ∈ ns.take fr, o.c.few 2000000 := fun o ho => hf o (List.mem_of_mem_take ho)
  refine kS ?_;refine oF 1 Tryz.underlying26 Tryz.sizeOf23 ?_;refine oL Tryz.isAgg23 ?_;refine o_lenSlc trivial rfl Tryz.underlying23 rfl (hsl) ?_
  first | (refine o_sub trivial rfl rfl rfl ?_ ?_; (omega)) | refine oV ?_
  refine oV ?_;refine nS ?_
  rw [show (((p.lets.map LetC.cells).length : Nat) : Int) - 1 = ((K : Nat) : Int) by omega]
  refine oA Tryz.isAgg26 Tryz.sizeOf26 ?_;refine o_alloc trivial rfl Tryz.zeroValue26 rfl (fun b8 => ?_);refine oS Tryz.sizeOf26 ?_;refine nS ?_;refine oF 1 Tryz.underlying26 Tryz.sizeOf23 ?_;refine oL Tryz.isAgg23 ?_;refine oV ?_;refine o_cutHi trivial rfl Tryz.underlying23 Tryz.sizeOf39 rfl (hsl) rfl (by omega) ?_;refine oF 1 Tryz.underlying26 Tryz.sizeOf23 ?_;refine o_storeBox1 trivial rfl rfl (hq.sl.cells1).1 Tryz.sizeOf23 (hq.sl.cells1).2 (by repeat constructor) (by exact Nat.le_of_ble_eq_true rfl) ?_;refine nS ?_;refine oV ?_;refine nT ?_;refine c_cut (ι := Unit) [1, 3, 7, 8] (.cons rfl (.cons rfl (.cons rfl (.cons rfl .nil)))) (fun x E0 => (9, .int .i64 (fr : Nat)) :: E0) (fun x => St w [] I [.box b8 (.cells [vi, slcCut vl 0 K 2, vo, va].toArray 26 (0, 0)), .box b1 (.cells #[vi, vl, vo, va] 26 (0, 0))]) (fun x => True) ?_ ?_
  ·
   refine sR ?_;iterate 2 refine oV ?_
   refine nT ?_;refine cC rfl (fun h2 => ?_) (fun h2 => ?_)
   ·
    have f2 := h2;try simp only [bl] at f2
    obtain ⟨c2, hc2⟩ : ∃ c, p.lets[K - 1]? = some c := ⟨p.lets[K - 1]'(by omega), List.getElem?_eq_getElem (by omega)⟩
    have hr2 := R.later c2 (by rw [hK, show K + 1 - 2 = K - 1 by omega]; exact hc2) (by omega)
    refine cR ?_;refine oF 1 Tryz.underlying26 Tryz.sizeOf23 ?_;refine oL Tryz.isAgg23 ?_;refine oV ?_
    first | (refine o_sub trivial rfl rfl rfl ?_ ?_; (omega)) | refine oV ?_
    rw [show ((K : Nat) : Int) - 1 = ((K - 1 : Nat) : Int) by omega]
    refine o_elem trivial rfl Tryz.underlying23 Tryz.sizeOf39 rfl (hsl) rfl (by omega) ?_;refine oF 1 Tryz.underlying39 Tryz.sizeOf3 ?_;refine o_load1I trivial rfl Tryz.isAgg3 rfl (lts_at hsl hc2 1 _ rfl) ?_
    first | (refine o_add trivial rfl rfl rfl ?_ ?_; (omega)) | refine oV ?_
    refine oV ?_;refine oN ?_
    first | exact meet () (by rw [hr2]; exact (sC rfl (sC rfl (sC rfl (sC rfl (sC rfl sN)))))) (fun _ h => h) trivial | (have e : fr = 0 := R.first (by omega); exact meet () (by rw [e]; exact (sC rfl (sC rfl (sC rfl (sC rfl (sC rfl sN)))))) (fun _ h => h) trivial)
   have f2 := h2;try simp only [bl] at f2
   refine cK ?_
   first | exact meet () (by rw [hr2]; exact (sC rfl (sC rfl (sC rfl (sC rfl (sC rfl sN)))))) (fun _ h => h) trivial | (have e : fr = 0 := R.first (by omega); exact meet () (by rw [e]; exact (sC rfl (sC rfl (sC rfl (sC rfl (sC rfl sN)))))) (fun _ h => h) trivial)
  rintro _ _
  try dsimp only
  refine cS (sR ?_);iterate 2 refine oV ?_
  refine' o_or trivial trivial rfl rfl rfl rfl rfl rfl rfl rfl (fun hb61 => ?_) ?_;rotate_left
  ·
   have fb61 := hb61
   try simp only [bl] at fb61
   refine gV hb61 ?_;refine gF hb61 3 Tryz.underlying26 Tryz.sizeOf24 ?_;refine gL hb61 Tryz.isAgg24 ?_;refine o_lenSlc (wS rfl rfl hb61) rfl Tryz.underlying24 rfl (hsa) ?_;refine gV hb61 ?_;refine oN ?_;exact joins rfl
  refine nT ?_;refine cC rfl (fun h3 => ?_) (fun h3 => ?_)
  ·
   have f3 := h3;try simp only [bl] at f3
   exfalso; rw [hla] at f3; omega
  have f3 := h3;try simp only [bl] at f3
  refine kS ?_;refine oF 3 Tryz.underlying26 Tryz.sizeOf24 ?_;refine oL Tryz.isAgg24 ?_;refine oV ?_;refine o_cutHi trivial rfl Tryz.underlying24 Tryz.sizeOf37 rfl (hsa) rfl (by omega) ?_;refine oF 3 Tryz.underlying26 Tryz.sizeOf24 ?_;refine o_storeBox1 trivial rfl rfl (hq.sa.cells1).1 Tryz.sizeOf24 (hq.sa.cells1).2 (by repeat constructor) (by exact Nat.le_of_ble_eq_true rfl) ?_;refine nS ?_;refine oV ?_;refine nU ?_;refine oV ?_;refine oN (tC (cB ?_));refine c_loop (ι := Nat × ByteArray) [1, 3, 7, 8, 9] (.cons rfl (.cons rfl (.cons rfl (.cons rfl (.cons rfl .nil))))) (fun x => p.outs.length - x.1) (fun x E0 => (10, .string x.2) :: (11, .int .i64 (x.1 : Nat)) :: E0) (fun x => St w [] I [.box b8 (.cells [vi, slcCut vl 0 K 2, vo, slcCut va 0 fr 8].toArray 26 (0, 0)), .box b1 (.cells #[vi, vl, vo, va] 26 (0, 0))]) (fun x => x.1 ≤ p.outs.length ∧ x.2 = if memB cl.name (p.outs.take x.1) = true then cl.name else ⟨#[]⟩) ((0, ⟨#[]⟩)) (sC rfl (sC rfl (sC rfl (sC rfl (sC rfl (sC rfl (sC rfl sN))))))) (fun _ h => h) (⟨Nat.zero_le _, rfl⟩) ?_;rintro ⟨i, s⟩ ⟨hi, hs⟩
  try dsimp only
  simp only at hi hs; have hol := scs_len p.outs
  refine cS (sR ?_);refine oV ?_;refine oF 2 Tryz.underlying26 Tryz.sizeOf22 ?_;refine oL Tryz.isAgg22 ?_;refine o_lenSlc trivial rfl Tryz.underlying22 rfl (hso) ?_;refine oV ?_;refine nT ?_;refine cC rfl (fun h4 => ?_) (fun h4 => ?_)
  ·
   have f4 := h4;try simp only [bl] at f4
   obtain ⟨t, ht⟩ : ∃ t, p.outs[i]? = some t := ⟨p.outs[i]'(by omega), List.getElem?_eq_getElem (by omega)⟩
   have hmo := memB_more (n := cl.name) ht
   refine cK (tC (cS (cB (cS ?_))));refine c_quiet (by kernel_rfl) (by kernel_rfl) (fun _ h => h.drawn) ?_;refine oF 2 Tryz.underlying26 Tryz.sizeOf22 ?_;refine oL Tryz.isAgg22 ?_;refine oV ?_;refine o_elem trivial rfl Tryz.underlying22 Tryz.sizeOf9 rfl (hso) rfl (by omega) ?_;refine o_load1I trivial rfl Tryz.isAgg9 rfl (scs_at hso ht) ?_;refine oF 1 Tryz.underlying26 Tryz.sizeOf23 ?_;refine oL Tryz.isAgg23 ?_;refine oV ?_;refine o_elem trivial rfl Tryz.underlying23 Tryz.sizeOf39 rfl (hsl) rfl (by omega) ?_;refine oF 0 Tryz.underlying39 Tryz.sizeOf9 ?_;refine o_load1I trivial rfl Tryz.isAgg9 rfl (lts_at hsl hcl 0 _ rfl) ?_;refine oV ?_;refine nT ?_;refine cC rfl (fun h5 => ?_) (fun h5 => ?_)
   ·
    have f5 := h5;try simp only [bl] at f5
    have htn : t = cl.name := bytes_eq (by simpa using h5)
    refine cR ?_;refine oF 2 Tryz.underlying26 Tryz.sizeOf22 ?_;refine oL Tryz.isAgg22 ?_;refine oV ?_;refine o_elem trivial rfl Tryz.underlying22 Tryz.sizeOf9 rfl (hso) rfl (by omega) ?_;refine o_load1I trivial rfl Tryz.isAgg9 rfl (scs_at hso ht) ?_;refine oV ?_;refine oN (blk_n (tC (cR ?_)));refine oV ?_
    first | (refine o_add trivial rfl rfl rfl ?_ ?_; (omega)) | refine oV ?_
    refine oV ?_;refine oN ?_
    first | exact again (i + 1, t) (sC rfl (sC rfl (sC rfl (sC rfl (sC rfl (sC rfl (sC rfl sN))))))) (fun _ h => h) (by show p.outs.length - (i + 1) < p.outs.length - i; omega) ⟨by show i + 1 ≤ _; omega, by show t = _; rw [if_pos (hmo.2 (.inr htn))]; exact htn⟩ | exact again (i + 1, s) (sC rfl (sC rfl (sC rfl (sC rfl (sC rfl (sC rfl (sC rfl sN))))))) (fun _ h => h) (by show p.outs.length - (i + 1) < p.outs.length - i; omega) ⟨by show i + 1 ≤ _; omega, by
      show s = _
      rw [hs]
      by_cases hm : memB cl.name (p.outs.take i) = true
      · rw [if_pos hm, if_pos (hmo.2 (.inl hm))]
      · rw [if_neg hm, if_neg (fun h => (hmo.1 h).elim hm htn)]⟩
   have f5 := h5;try simp only [bl] at f5
   have htn : t ≠ cl.name := fun e => by rw [e] at h5; simp at h5
   refine cK (blk_n (tC (cR ?_)));refine oV ?_
   first | (refine o_add trivial rfl rfl rfl ?_ ?_; (omega)) | refine oV ?_
   refine oV ?_;refine oN ?_
   first | exact again (i + 1, t) (sC rfl (sC rfl (sC rfl (sC rfl (sC rfl (sC rfl (sC rfl sN))))))) (fun _ h => h) (by show p.outs.length - (i + 1) < p.outs.length - i; omega) ⟨by show i + 1 ≤ _; omega, by show t = _; rw [if_pos (hmo.2 (.inr htn))]; exact htn⟩ | exact again (i + 1, s) (sC rfl (sC rfl (sC rfl (sC rfl (sC rfl (sC rfl (sC rfl sN))))))) (fun _ h => h) (by show p.outs.length - (i + 1) < p.outs.length - i; omega) ⟨by show i + 1 ≤ _; omega, by
     show s = _
     rw [hs]
     by_cases hm : memB cl.name (p.outs.take i) = true
     · rw [if_pos hm, if_pos (hmo.2 (.inl hm))]
     · rw [if_neg hm, if_neg (fun h => (hmo.1 h).elim hm htn)]⟩
  have f4 := h4;try simp only [bl] at f4
  have hie : p.outs.take i = p.outs := List.take_of_length_le (by omega)
  rw [hie] at hs
  refine c_exit (then_x (then_x (blk_eq rfl (tC (cS (sR ?_))))));iterate 2 refine oV ?_
  refine oN (tC (cB ?_));refine c_loop (ι := Nat) [1, 3, 7, 8, 10] (.cons rfl (.cons rfl (.cons rfl (.cons rfl (.cons rfl .nil))))) (fun x => ns.length - x) (fun x E0 => (12, .int .i64 (x : Nat)) :: E0) (fun x => St w [] I [.box b8 (.cells [vi, slcCut vl 0 K 2, vo, slcCut va 0 fr 8].toArray 26 (0, 0)), .box b1 (.cells #[vi, vl, vo, va] 26 (0, 0))]) (fun x => fr ≤ x ∧ x ≤ ns.length) (fr) (sC rfl (sC rfl (sC rfl (sC rfl (sC rfl (sC rfl sN)))))) (fun _ h => h) (⟨Nat.le_refl _, by omega⟩) ?_;rintro j ⟨hj, hj2⟩
  try dsimp only
  refine cS (sR ?_);refine oV ?_;refine oF 3 Tryz.underlying26 Tryz.sizeOf24 ?_;refine oL Tryz.isAgg24 ?_;refine o_lenSlc trivial rfl Tryz.underlying24 rfl (hsa) ?_;refine oV ?_;refine nT ?_;refine cC rfl (fun h6 => ?_) (fun h6 => ?_)
  ·
   have f6 := h6;try simp only [bl] at f6
   obtain ⟨o, ho⟩ : ∃ o, ns[j]? = some o := ⟨ns[j]'(by omega), List.getElem?_eq_getElem (by omega)⟩
   have hoc : p.all[j]? = some o.c := by rw [← hp.eq, List.getElem?_map, ho]; rfl
   have hnm := R.names j hj o.c hoc
   rw [hK, Nat.add_sub_cancel] at hnm
   refine cK (tC (cS (cB (cS ?_))));refine c_quiet (by kernel_rfl) (by kernel_rfl) (fun _ h => h.drawn) ?_;refine oA Tryz.isAgg26 Tryz.sizeOf26 ?_;refine oF 3 Tryz.underlying26 Tryz.sizeOf24 ?_;refine oL Tryz.isAgg24 ?_;refine oV ?_;refine o_elem trivial rfl Tryz.underlying24 Tryz.sizeOf37 rfl (hsa) rfl (by omega) ?_;refine oF 4 Tryz.underlying37 Tryz.sizeOf9 ?_;refine o_load1I trivial rfl Tryz.isAgg9 rfl (nds_at hsa ho 4 _ rfl) ?_;refine oQ Tryz.call19 rfl (scWhere_any vi vl vo va p ns o.c.name hp hf) ?_;iterate 7 refine oV ?_
   refine nS ?_;refine oF 3 Tryz.underlying26 Tryz.sizeOf24 ?_;refine oL Tryz.isAgg24 ?_;refine oV ?_;refine o_elem trivial rfl Tryz.underlying24 Tryz.sizeOf37 rfl (hsa) rfl (by omega) ?_;refine oF 0 Tryz.underlying37 Tryz.sizeOf3 ?_;refine o_load1I trivial rfl Tryz.isAgg3 rfl (nds_at hsa ho 0 _ rfl) ?_;refine oV ?_;refine' o_and trivial trivial rfl rfl rfl rfl rfl rfl rfl rfl (fun hb124 => ?_) ?_;rotate_left
   ·
    have fb124 := hb124
    try simp only [bl] at fb124
    iterate 2 refine gV hb124 ?_
    refine' o_or (wS rfl rfl hb124) (wS rfl rfl hb124) rfl rfl rfl rfl rfl rfl rfl rfl (fun hb127 => ?_) ?_;rotate_left
    ·
     refine gV hb127 ?_;refine' o_and (wS rfl rfl hb127) (wS rfl rfl hb127) rfl rfl rfl rfl rfl rfl rfl rfl (fun hb129 => ?_) ?_;rotate_left
     ·
      iterate 3 refine gV hb129 ?_
      refine oN ?_;exact joins rfl
     refine oN ?_;exact joins rfl
    refine oN ?_;exact joins rfl
   refine nT ?_;refine cC rfl (fun h7 => ?_) (fun h7 => ?_)
   ·
    have f7 := h7;try simp only [bl] at f7
    exfalso
    obtain ⟨k1, k2⟩ := f7
    obtain ⟨n1, n2⟩ := hnm k1
    rcases k2 with k2 | ⟨k2, k3⟩
    · rw [n1] at k2; cases k2
    · have := n2 k2; omega
   have f7 := h7;try simp only [bl] at f7
   refine cK (blk_n (tC (cR ?_)));refine oV ?_
   first | (refine o_add trivial rfl rfl rfl ?_ ?_; (omega)) | refine oV ?_
   refine oV ?_;refine oN ?_;exact again (j + 1) (sC rfl (sC rfl (sC rfl (sC rfl (sC rfl (sC rfl sN)))))) (fun _ h => h) (by show ns.length - (j + 1) < ns.length - j; omega) ⟨by show fr ≤ j + 1; omega, by show j + 1 ≤ _; omega⟩
  have f6 := h6;try simp only [bl] at f6
  refine c_exit (then_x (then_x (blk_eq rfl (tC (sR ?_)))));refine oA Tryz.isAgg26 Tryz.sizeOf26 ?_;refine oQ Tryz.call17 rfl (scCheck_any vi (slcCut vl 0 K 2) vo (slcCut va 0 fr 8) (frontP p fr) (ns.take fr) hq hqf) ?_;iterate 5 refine oV ?_
  refine nU ?_;iterate 2 refine oV ?_
  refine nT ?_;refine cC rfl (fun h8 => ?_) (fun h8 => ?_)
  ·
   have f8 := h8;try simp only [bl] at f8
   have hm8 : memB cl.name p.outs = true := by
     cases e : memB cl.name p.outs with
     | true => rfl
     | false => rw [e, if_neg (by decide)] at hs; rw [hs] at h8; simp at h8
   rw [if_pos hm8] at hs hres
   refine sR ?_;refine oV ?_;refine' o_and trivial trivial rfl rfl rfl rfl rfl rfl rfl rfl (fun hb144 => ?_) ?_;rotate_left
   ·
    iterate 3 refine gV hb144 ?_
    refine oN ?_;exact joins rfl
   refine' o_and trivial trivial rfl rfl rfl rfl rfl rfl rfl rfl (fun hb149 => ?_) ?_;rotate_left
   ·
    iterate 2 refine gV hb149 ?_
    refine oN ?_;exact joins rfl
   refine oV ?_;refine nF ?_;refine ret1 rfl rfl ?_;refine leaf0 (congrArg Value.bool ?_); rw [show (readZ (frontP p fr)).name = _ from congrArg Prod.fst hres, show (readZ (frontP p fr)).err = _ from congrArg Prod.snd hres, hs]; simp
  have f8 := h8;try simp only [bl] at f8
  have hm8 : memB cl.name p.outs = false := by
    cases e : memB cl.name p.outs with
    | false => rfl
    | true =>
      rw [e, if_pos rfl] at hs
      exact absurd (bytes_eq (by simpa [hs] using h8)) (R.outs cl.name ((memB_iff _ _).1 e))
  rw [hm8, if_neg (by decide)] at hs hres
  refine kS ?_;refine oV ?_;refine' o_and trivial trivial rfl rfl rfl rfl rfl rfl rfl rfl (fun hb154 => ?_) ?_;rotate_left
  ·
   iterate 2 refine gV hb154 ?_
   refine oN ?_;exact joins rfl
  refine' o_and trivial trivial rfl rfl rfl rfl rfl rfl rfl rfl (fun hb158 => ?_) ?_;rotate_left
  ·
   iterate 2 refine gV hb158 ?_
   refine oN ?_;exact joins rfl
  refine oV ?_;refine nE ?_;refine ret1 rfl rfl ?_;refine leaf0 (congrArg Value.bool ?_); rw [show (readZ (frontP p fr)).name = _ from congrArg Prod.fst hres, show (readZ (frontP p fr)).err = _ from congrArg Prod.snd hres]; simp
end Go.Proofs.YtfcmhcaggdakbaaGreatDoor
namespace Go.Tw
open Go Go.RowKit Go.ChangeShapes Go.WideShapes Go.ChangeAt Go.Deep
def Tr {H : Type} (enc : TypeId × Value → H) (P : Program) (W : World) (t : TypeId) (cs : List Value) : Prop := ∃ n x, DataW.trod enc P W 0 (fun _ => true) true n t cs = some x
section
variable {base : Nat} {H : Type} {enc : TypeId × Value → H} {P : Program} {W : World} {t e : TypeId} {v : Value} {cs : List Value} {d : DataW H} {ps : List MemPlace}
theorem tr_int {k : IntKind} (ht : P.underlying t = some (.int k)) (h : Tr enc P W t [v]) : ∃ z, v = .int k z ∧ (Lit.int k z).wf = true := by
  obtain ⟨n, x, h⟩ := h
  obtain ⟨z, h1, _, h2⟩ := DataW.trod_int ht h
  exact ⟨z, (List.cons.inj h1).1, h2⟩
theorem tr_bool (ht : P.underlying t = some .bool) (h : Tr enc P W t [v]) : ∃ b, v = .bool b := by
  obtain ⟨n, x, h⟩ := h
  obtain ⟨z, h1, _⟩ := DataW.trod_bool ht h
  exact ⟨z, (List.cons.inj h1).1⟩
theorem tr_string (ht : P.underlying t = some .string) (h : Tr enc P W t [v]) : ∃ s : ByteArray, v = .string s ∧ s.size ≤ maxLen := by
  obtain ⟨n, x, h⟩ := h
  obtain ⟨z, h1, _, h2⟩ := DataW.trod_string ht h
  exact ⟨z, (List.cons.inj h1).1, h2⟩
theorem tr_struct {fs : Array Field} (ht : P.underlying t = some (.struct fs)) (h : Tr enc P W t cs) : cs.length = P.cellsOf t ∧ ∀ (i : Nat) (f : Field), fs[i]? = some f → Tr enc P W f.type ((cs.drop f.offset).take (P.cellsOf f.type)) := by
  obtain ⟨n, x, h⟩ := h
  obtain ⟨xs, m, _, _, hl, hx, hf⟩ := DataW.trod_struct ht h
  refine ⟨hl, fun i f hi => ?_⟩
  have h1 := hf i f hi
  have hlt : i < xs.length := by rw [hx]; exact (Array.getElem?_eq_some_iff.1 hi).1
  rw [List.getElem?_eq_getElem hlt] at h1
  exact ⟨m, _, h1⟩
theorem tr_rows {sz : Nat} (ht : P.underlying t = some (.slice e)) (hsz : P.cellsOf e = sz) (hpos : 0 < sz) (h : Tr enc P W t [v]) : ∃ xss : List (List Value), Slc (World.hp W) sz v xss ∧ ∀ c ∈ xss, Tr enc P W e c := by
  obtain ⟨n, x, h⟩ := h
  rcases open_slice ht h with ⟨h1, _⟩ | ⟨a, len, cap, m, n', D, Pl, h1, hb, hl, hc, hm, _, hx⟩
  · obtain rfl := (List.cons.inj h1).1
    exact ⟨[], Slc.nil _ _, fun c hc => by cases hc⟩
  · obtain rfl := (List.cons.inj h1).1
    subst hsz
    simp only [if_true] at hm
    subst hm
    obtain ⟨G, hG⟩ := choose_lt (α := List Value) (p := fun i cs' => W.cells? 0 (a.add (i * P.cellsOf e)) (P.cellsOf e) = some cs' ∧ DataW.trod enc P W 0 (fun _ => true) true n' e cs' = some (D i, Pl i)) hx
    have hcell : ∀ i, i < m → (G i).length = P.cellsOf e ∧ ∀ k, k < P.cellsOf e → W.cell? (a.add (i * P.cellsOf e + k)) = (G i)[k]? := fun i hi => by
      obtain ⟨h2, h3, h4⟩ := World.cells?_some (hG i hi).1
      refine ⟨h3, fun k hk => ?_⟩
      rw [← h4 k hk, add_add]
    refine ⟨(List.range len).map G, ?_, fun c hc => ?_⟩
    · have hlen : ((List.range len).map G).length = len := by simp
      have hlens : ∀ c ∈ (List.range len).map G, c.length = P.cellsOf e := fun c hc => by
        obtain ⟨i, hi, rfl⟩ := List.mem_map.1 hc
        exact (hcell i (by have := List.mem_range.1 hi; omega)).1
      by_cases h0 : m = 0
      · have hl0 : len = 0 := by omega
        subst h0
        subst hl0
        exact Slc.nilA _ _ _
      · have hsp : a.spot = none := by
          have h2 := (hcell 0 (by omega)).2 0 hpos
          have h3 : 0 < (G 0).length := by rw [(hcell 0 (by omega)).1]; exact hpos
          rw [List.getElem?_eq_getElem h3] at h2
          unfold World.cell? at h2
          split at h2
          · split at h2
            · cases h2
            · rename_i hs
              have hz : a.add (0 * P.cellsOf e + 0) = a := by rw [Nat.zero_mul]; unfold Addr.add; simp
              rw [hz] at hs
              cases hsp : a.spot with
              | none => rfl
              | some s => rw [hsp] at hs; simp at hs
          · cases h2
        obtain ⟨b, off, s⟩ := a
        change s = none at hsp
        subst hsp
        refine ⟨.inr ⟨b, off, m, by rw [hlen], by rw [hlen]; exact hl⟩, fun j c hj k u hk => ?_, hlens, by rw [hlen]; omega⟩
        rw [List.getElem?_map] at hj
        have hjl : j < len := by
          by_cases hjl : j < len
          · exact hjl
          · rw [List.getElem?_eq_none (by simp; omega)] at hj; cases hj
        rw [List.getElem?_range hjl] at hj
        cases hj
        have hkl := (List.getElem?_eq_some_iff.1 hk).1
        rw [(hcell j (by omega)).1] at hkl
        have h2 := (hcell j (by omega)).2 k hkl
        rw [hk, add_none] at h2
        rw [hp_cell]
        simp only [slcB, slcO]
        rw [Nat.add_assoc]
        exact h2
    · obtain ⟨i, hi, rfl⟩ := List.mem_map.1 hc
      exact ⟨n', _, (hG i (by have := List.mem_range.1 hi; omega)).2⟩
theorem tr_ints {k : IntKind} {xss : List (List Value)} {sz : Nat} (ht : P.underlying t = some (.int k)) (hs : Slc (World.hp W) 1 v xss) (h : ∀ c ∈ xss, Tr enc P W t c) : ∃ zs : List Int, xss = zs.map (fun z => [.int k z]) ∧ ∀ z ∈ zs, (Lit.int k z).wf = true := by
  have key : ∀ (l : List (List Value)), (∀ c ∈ l, c.length = 1 ∧ Tr enc P W t c) → ∃ zs : List Int, l = zs.map (fun z => [.int k z]) ∧ ∀ z ∈ zs, (Lit.int k z).wf = true := by
    intro l
    induction l with
    | nil => exact fun _ => ⟨[], rfl, fun z hz => by cases hz⟩
    | cons c l ih =>
      intro hl
      obtain ⟨zs, h1, h2⟩ := ih fun c hc => hl c (List.mem_cons_of_mem _ hc)
      obtain ⟨h3, h4⟩ := hl c List.mem_cons_self
      match c, h3 with
      | [x], _ =>
        obtain ⟨z, rfl, h5⟩ := tr_int ht h4
        exact ⟨z :: zs, by rw [h1]; rfl, fun y hy => by
          rcases List.mem_cons.1 hy with rfl | hy
          · exact h5
          · exact h2 y hy⟩
  exact key xss fun c hc => ⟨hs.lens c hc, h c hc⟩
theorem rows_map {α : Type} {f : α → List Value} {p : α → Prop} {xss : List (List Value)} (h : ∀ c ∈ xss, ∃ a, c = f a ∧ p a) : ∃ zs : List α, xss = zs.map f ∧ ∀ a ∈ zs, p a := by
  induction xss with
  | nil => exact ⟨[], rfl, fun a h => by cases h⟩
  | cons c l ih =>
    obtain ⟨zs, h1, h2⟩ := ih fun c hc => h c (List.mem_cons_of_mem _ hc)
    obtain ⟨a, ha, hp⟩ := h c List.mem_cons_self
    exact ⟨a :: zs, by rw [ha, h1]; rfl, fun b hb => by
      rcases List.mem_cons.1 hb with rfl | hb
      · exact hp
      · exact h2 b hb⟩
end
end Go.Tw
namespace Go.Tw
open Go Go.RowKit Go.ChangeShapes Go.WideShapes Go.ChangeAt Go.Deep
def TrB {H : Type} (enc : TypeId × Value → H) (P : Program) (W : World) (t : TypeId) (cs : List Value) : Prop := ∃ n x, DataW.trod enc P W 0 (fun _ => true) true n t cs = some x ∧ ∀ k ∈ x.1.weights P t, k ≤ reachBytes
section
variable {base : Nat} {H : Type} {enc : TypeId × Value → H} {P : Program} {W : World} {t e : TypeId} {v : Value} {cs : List Value} {d : DataW H} {ps : List MemPlace}
theorem TrB.tr (h : TrB enc P W t cs) : Tr enc P W t cs := by
  obtain ⟨n, x, h, _⟩ := h
  exact ⟨n, x, h⟩
end
end Go.Tw
namespace Go.Proofs.YtfcmhcaggdakbaaGreatDoor
open Go Go.Tw Go.ChangeShapes Go.WideShapes Go.ChangeAt
set_option maxRecDepth 100000
section
variable {base : Nat} {H : Type} {enc : TypeId × Value → H} {W : World} {v : Value} {cs : List Value} {d : DataW H} {ps : List MemPlace}
theorem ce_int : Tryz.prog.cellsOf 3 = 1 := by kernel_rfl
theorem ce_bool : Tryz.prog.cellsOf 4 = 1 := by kernel_rfl
theorem ce_str : Tryz.prog.cellsOf 9 = 1 := by kernel_rfl
theorem ce_u32 : Tryz.prog.cellsOf 134 = 1 := by kernel_rfl
theorem ce_u32s : Tryz.prog.cellsOf 33 = 1 := by kernel_rfl
theorem ce_rat : Tryz.prog.cellsOf 35 = 3 := by kernel_rfl
theorem ce_node : Tryz.prog.cellsOf 37 = 8 := by kernel_rfl
theorem ce_let : Tryz.prog.cellsOf 39 = 2 := by kernel_rfl
theorem ce_prog : Tryz.prog.cellsOf 26 = 4 := by kernel_rfl
theorem ce_strs : Tryz.prog.cellsOf 22 = 1 := by kernel_rfl
theorem ce_lets : Tryz.prog.cellsOf 23 = 1 := by kernel_rfl
theorem ce_nodes : Tryz.prog.cellsOf 24 = 1 := by kernel_rfl
theorem of2 {l : List Value} (h : l.length = 2) : ∃ a b, l = [a, b] := by
  match l, h with
  | [a, b], _ => exact ⟨a, b, rfl⟩
theorem of3 {l : List Value} (h : l.length = 3) : ∃ a b c, l = [a, b, c] := by
  match l, h with
  | [a, b, c], _ => exact ⟨a, b, c, rfl⟩
theorem of4 {l : List Value} (h : l.length = 4) : ∃ a b c d, l = [a, b, c, d] := by
  match l, h with
  | [a, b, c, d], _ => exact ⟨a, b, c, d, rfl⟩
theorem of8 {l : List Value} (h : l.length = 8) : ∃ a b c d e f g i, l = [a, b, c, d, e, f, g, i] := by
  match l, h with
  | [a, b, c, d, e, f, g, i], _ => exact ⟨a, b, c, d, e, f, g, i, rfl⟩
theorem tr_let (h : Tr enc Tryz.prog W 39 cs) : ∃ o : LetC, cs = o.cells ∧ True := by
  obtain ⟨h1, h2⟩ := tr_struct Tryz.underlying39 h
  obtain ⟨a, b, rfl⟩ := of2 (by rw [h1]; exact ce_let)
  have k0 := h2 0 _ rfl
  have k1 := h2 1 _ rfl
  change Tr enc Tryz.prog W 9 (List.take (Tryz.prog.cellsOf 9) [a, b]) at k0
  change Tr enc Tryz.prog W 3 (List.take (Tryz.prog.cellsOf 3) [b]) at k1
  rw [ce_str] at k0
  rw [ce_int] at k1
  obtain ⟨s, rfl, _⟩ := tr_string Tryz.underlying9 k0
  obtain ⟨z, rfl, _⟩ := tr_int Tryz.underlying3 k1
  exact ⟨⟨s, z⟩, rfl, trivial⟩
theorem tr_strs (h : Tr enc Tryz.prog W 22 [v]) : ∃ l : List ByteArray, Slc (World.hp W) 1 v (scs l) := by
  obtain ⟨xss, s1, s2⟩ := tr_rows (sz := 1) Tryz.underlying22 ce_str (by decide) h
  obtain ⟨zs, rfl, _⟩ := rows_map (f := fun s : ByteArray => [Value.string s]) (p := fun _ => True) fun c hc => by
    have hl := s1.lens c hc
    match c, hl with
    | [x], _ =>
      obtain ⟨s, rfl, _⟩ := tr_string Tryz.underlying9 (s2 _ hc)
      exact ⟨s, rfl, trivial⟩
  exact ⟨zs, s1⟩
end
end Go.Proofs.YtfcmhcaggdakbaaGreatDoor
