/-
  ShowNeeds, part 4: the texts Read7, Read8, Read9, Read10, Parse11, Tree10, LexCat, LexCat2, Show1, Show2, Show3, Show5, Pcs, Print, Needs, Node, ShowW, Show4 as one.
-/
import Derived.Test.YtfcmhcaggdakbaaGreatDoorQShowNeedsC
import Derived.Lib.AppendIntMem
set_option linter.unusedVariables false
set_option linter.unusedSimpArgs false
set_option linter.unnecessarySimpa false
set_option maxHeartbeats 1000000
namespace Go.Proofs.YtfcmhcaggdakbaaGreatDoor
open Go Go.Tw
theorem run_nocaret {L : List Tok} {K : List Fr} {all : List NodeC} {i : Nat} {o : POut} (h : RunA K all (L.drop i) o) (hm : hdT (L.drop i) 2 caret = false) : RunM K true all (L.drop i) o := h.none hm
theorem run_caret {L : List Tok} {K : List Fr} {all : List NodeC} {i : Nat} {o : POut} {e : Option Int} {r1 : List Tok} (h : RunA K all (L.drop i) o) (hm : hdT (L.drop i) 2 caret = true) (he : Expo (L.drop (i + 1)) e r1) : match e with
    | some e => RunM K true (all ++ [powN (lastI all) e]) r1 o
    | none => o = .bad r1 := by
  have hi := hdT_lt hm
  rw [drop_cons hi] at h hm
  cases e <;> exact h.caret hm he
theorem run_shut {L : List Tok} {K : List Fr} {all : List NodeC} {i : Nat} {o : POut} (hK : FrOk K) (h : RunM K true all (L.drop i) o) (hm : hdT (L.drop i) 2 rpar = true) : match (foldK 0 K all).1 with
    | .br :: K' => RunA K' (foldK 0 K all).2 (L.drop (i + 1)) o
    | _ => o = .bad (L.drop i) := by
  have hi := hdT_lt hm
  rw [drop_cons hi] at h hm ⊢
  exact h.shut hK hm
theorem frOk_br {K : List Fr} (h : FrOk (.br :: K)) : FrOk K := h
theorem rdShut_any (b i : Nat) (vall vs vi vl vo va : Value) (ns : List NodeV) (K : List Fr) (L : List Tok) {I : Hp} (hE : Errs I) (hL : Slc I 4 vall (L.map Tok.cells)) (hn : L.length ≤ 10000) (hs : TkSmall L) (hto : ToksOk L) (hK : FrOk K) (hok : ∀ o ∈ ns, o.ok I) (h1 : 1 ≤ ns.length) (hb : ns.length + K.length ≤ i) (hi : i ≤ L.length) {o : POut} (h : RunA K (ns.map NodeV.c) (L.drop i) o) :
    Fun Tryz.prog 170 [.pointer (some ⟨b, 0, none⟩)] I [rdB b vall i vs vi vl vo va, skR vs (stk K ++ [odI (lastN ns)]), ndR va ns]
    (fun v I' B' => I = I' ∧ ∃ ok i' vs' va' ns' Kv, v = .bool ok ∧ B' = [rdB b vall i' vs' vi vl vo va', skR vs' Kv, ndR va' ns'] ∧ i' ≤ L.length ∧ (ok = false → o = .bad (L.drop i')) ∧ (ok = true → ∃ K', Rd L I i' ns' Kv K' ∧ RunM K' true (ns'.map NodeV.c) (L.drop i') o ∧ hdT (L.drop i') 2 rpar = false ∧ i ≤ i')) := by
  intro w hw
  refine enter1 _ Tryz.func170 rfl Tryz.ntmps170 rfl ?_ hw;refine sR ?_;refine oV ?_;refine oN (tC (cB ?_));refine c_loop (ι := Nat × List Fr × List NodeV × Value × Value) [0] (.cons rfl .nil) (fun x => L.length - x.1) (fun x E0 => E0) (fun x => St w (keysOf [rdB b vall i vs vi vl vo va, skR vs (stk K ++ [odI (lastN ns)]), ndR va ns]) I [rdB b vall x.1 x.2.2.2.1 vi vl vo x.2.2.2.2, skR x.2.2.2.1 (stk x.2.1 ++ [odI (lastN x.2.2.1)]), ndR x.2.2.2.2 x.2.2.1]) (fun x => x.1 ≤ L.length ∧ FrOk x.2.1 ∧ (∀ o ∈ x.2.2.1, o.ok I) ∧ 1 ≤ x.2.2.1.length ∧ x.2.2.1.length + x.2.1.length ≤ x.1 ∧ RunA x.2.1 (x.2.2.1.map NodeV.c) (L.drop x.1) o ∧ i ≤ x.1) ((i, K, ns, vs, va)) (sC rfl sN) (fun _ h => h) (⟨hi, hK, hok, h1, hb, h, Nat.le_refl _⟩) ?_;rintro ⟨j, K1, n0, us, ua⟩ ⟨hj, hK1, hok0, hn0, hb0, hr, hij⟩
  try dsimp only
  simp only at hj hK1 hok0 hn0 hb0 hr hij; have hst := stk_len K1
  refine cB (cS (sR ?_));refine oV ?_;refine oC trivial rfl Tryz.call140 rfl (rdMark_any b j vall us vi vl vo ua caret L hL (by omega)) (by repeat constructor) ?_;rintro _ _ _ hx1 ⟨rfl, rfl, rfl⟩;refine o_fork trivial rfl rfl (fun hb10 => ?_) (fun hb10 => ?_)
  ·
   have fb10 := hb10
   try simp only [bl] at fb10
   have hm : hdT (L.drop j) 2 caret = true := hb10
   rw [adv_true hm]
   have hlt := hdT_lt hm
   obtain ⟨e, r1, he⟩ := Expo.some_out (L.drop (j + 1))
   have hce := run_caret hr hm he
   refine o_pv (wS rfl rfl rfl) rfl rfl ?_;refine oC (wS rfl rfl rfl) rfl Tryz.call196 rfl (rdExpo_u b (j + 1) vall us vi vl vo ua (lastN n0) n0 (stk K1) L hE hL hn hs hto (by omega) (by omega) (by omega) he) (by repeat constructor) ?_;rintro _ _ _ hx2 ⟨rfl, ok, j1, us1, ua1, n1, Kv, rfl, rfl, hj1, hno, hyes⟩;refine o_pv (wS rfl rfl rfl) rfl rfl ?_;refine oV ?_;refine nT ?_;refine cC rfl (fun h1 => ?_) (fun h1 => ?_)
   ·
    have f1 := h1;try simp only [bl] at f1
    have hk : ok = false := by simpa using f1
    obtain ⟨rfl, rfl⟩ := hno hk
    refine sR ?_;refine oV ?_;refine oN (tC (cT (tR (blk_r (tR (blk_r ?_))))));refine ret1 rfl rfl ?_
    first
    | exact fun w' hw' => ⟨I, _, hw'.sort (by repeat constructor), Ext.refl _ _, rfl, false, j1, us1, ua1, n1, Kv, rfl, rfl, hj1, fun _ => hce, fun h => by cases h⟩
    | exact fun w' hw' => ⟨I, [rdB b vall j1 us2 vi vl vo ua2, skR us2 (stk K2 ++ [odI (lastN n2)]), ndR ua2 n2], hw'.sort (by repeat constructor), Ext.refl _ _, rfl, true, j1, us2, ua2, n2, _, rfl, rfl, hj1, fun h => (by cases h), fun _ => ⟨K2, ⟨rfl, hK2, hok2, hn2, by omega⟩, hM2, hp, hij1⟩⟩
    | exact fun w' hw' => ⟨I, [rdB b vall j1 us3 vi vl vo ua3, skR us3 (stk [] ++ [odI (lastN n3)]), ndR ua3 n3], hw'.sort (by repeat constructor), Ext.refl _ _, rfl, false, j1, us3, ua3, n3, _, rfl, rfl, hj1, fun _ => hsh, fun h => by cases h⟩
    | exact fun w' hw' => ⟨I, [rdB b vall j1 us3 vi vl vo ua3, skR us3 (stk K4 ++ preF f ++ [opI (opK f) (opP f) (opB f)] ++ [odI (lastN n3)]), ndR ua3 n3], hw'.sort (by repeat constructor), Ext.refl _ _, rfl, false, j1, us3, ua3, n3, _, rfl, rfl, hj1, fun _ => hfin, fun h => by cases h⟩
   have f1 := h1;try simp only [bl] at f1
   have hk : ok = true := by simpa using f1
   obtain ⟨z, c, rfl, rfl, hlt1, hc1, hc2, rfl, rfl⟩ := hyes hk
   have hok1 : ∀ o ∈ n0 ++ [c], o.ok I := fun o ho => by
     rcases List.mem_append.1 ho with ho | ho
     · exact hok0 o ho
     · rw [List.mem_singleton.1 ho]; exact hc1
   have hM : RunM K1 true ((n0 ++ [c]).map NodeV.c) (L.drop j1) o := by rw [List.map_append]; show RunM K1 true (n0.map NodeV.c ++ [c.c]) _ _; rw [hc2, lastN_eq]; exact hce
   have hln : (n0 ++ [c]).length = n0.length + 1 := by simp
   rw [← lastN_more n0 c]
   have hij1 : i ≤ j1 := by omega
   have hb1 : (n0 ++ [c]).length + K1.length ≤ j1 := by omega
   have hn1 : 1 ≤ (n0 ++ [c]).length := by omega
   have hjj : j ≤ j1 := by omega
   generalize n0 ++ [c] = n1 at hok1 hM hb1 hn1 ⊢
   refine kS ?_;refine oV ?_;refine oC trivial rfl Tryz.call172 rfl (fold_any b j1 vall us1 vi vl vo ua1 3 n1 K1 hK1 hok1 (by omega) hn1) (by repeat constructor) ?_;rintro _ _ _ hx3 ⟨rfl, rfl, us2, ua2, n2, rfl, hc2, hok2, hn2, hb2⟩;refine oN (tC (cS ?_))
   have hM2 := RunM.fold (b := 3) (.inl rfl) hK1 hM
   have hK2 := foldK_ok (b := 3) (all := n1.map NodeV.c) hK1
   rw [← hc2] at hM2
   generalize (foldK 3 K1 (n1.map NodeV.c)).1 = K2 at hM2 hK2 hb2 ⊢
   refine cR ?_;refine oV ?_;refine oC trivial rfl Tryz.call59 rfl (rdNext_any b j1 vall us2 vi vl vo ua2 L hL) (by repeat constructor) ?_;rintro _ _ _ hx4 ⟨rfl, rfl, rfl⟩;iterate 3 refine oV ?_
   refine o_alloc trivial rfl Tryz.zeroValue103 rfl (fun b3 => ?_);refine oS Tryz.sizeOf103 ?_;refine oV ?_;refine nU ?_;refine oF 0 Tryz.underlying103 Tryz.sizeOf3 ?_;refine oL Tryz.isAgg3 ?_;refine oV ?_;refine' o_or trivial trivial rfl rfl rfl rfl rfl rfl rfl rfl (fun hb25 => ?_) ?_;rotate_left
   ·
    have fb25 := hb25
    try simp only [bl] at fb25
    refine gF hb25 1 Tryz.underlying103 Tryz.sizeOf9 ?_;refine gL hb25 Tryz.isAgg9 ?_;refine gV hb25 ?_;refine oN ?_;exact joins rfl
   refine nT ?_;refine cC rfl (fun h2 => ?_) (fun h2 => ?_)
   ·
    have f2 := h2;try simp only [bl] at f2
    have hp : hdT (L.drop j1) 2 rpar = false := by
      rw [hdT_at]
      unfold isT
      rw [Bool.and_eq_false_iff]
      right
      exact or2_t h2
    refine sR ?_;refine oV ?_;refine oN (tC (cT (tR (blk_r (tR (blk_r ?_))))));refine ret1 rfl rfl ?_
    first
    | exact fun w' hw' => ⟨I, _, hw'.sort (by repeat constructor), Ext.refl _ _, rfl, false, j1, us1, ua1, n1, Kv, rfl, rfl, hj1, fun _ => hce, fun h => by cases h⟩
    | exact fun w' hw' => ⟨I, [rdB b vall j1 us2 vi vl vo ua2, skR us2 (stk K2 ++ [odI (lastN n2)]), ndR ua2 n2], hw'.sort (by repeat constructor), Ext.refl _ _, rfl, true, j1, us2, ua2, n2, _, rfl, rfl, hj1, fun h => (by cases h), fun _ => ⟨K2, ⟨rfl, hK2, hok2, hn2, by omega⟩, hM2, hp, hij1⟩⟩
    | exact fun w' hw' => ⟨I, [rdB b vall j1 us3 vi vl vo ua3, skR us3 (stk [] ++ [odI (lastN n3)]), ndR ua3 n3], hw'.sort (by repeat constructor), Ext.refl _ _, rfl, false, j1, us3, ua3, n3, _, rfl, rfl, hj1, fun _ => hsh, fun h => by cases h⟩
    | exact fun w' hw' => ⟨I, [rdB b vall j1 us3 vi vl vo ua3, skR us3 (stk K4 ++ preF f ++ [opI (opK f) (opP f) (opB f)] ++ [odI (lastN n3)]), ndR ua3 n3], hw'.sort (by repeat constructor), Ext.refl _ _, rfl, false, j1, us3, ua3, n3, _, rfl, rfl, hj1, fun _ => hfin, fun h => by cases h⟩
   have f2 := h2;try simp only [bl] at f2
   have hp0 : isT (tkAt L j1) 2 rpar = true := or2_f h2
   have hlt1 : j1 < L.length := by
     rcases Nat.lt_or_ge j1 L.length with hh | hh
     · exact hh
     · rw [tkAt_out hh] at hp0
       exact absurd hp0 (by decide)
   have hp : hdT (L.drop j1) 2 rpar = true := by rw [hdT_at, decide_eq_true hlt1, hp0]; rfl
   have hsh := run_shut hK2 hM2 hp
   refine kS ?_;refine oV ?_;refine oC trivial rfl Tryz.call172 rfl (fold_any b j1 vall us2 vi vl vo ua2 0 n2 K2 hK2 hok2 (by omega) hn2) (by repeat constructor) ?_;rintro _ _ _ hx5 ⟨rfl, rfl, us3, ua3, n3, rfl, hc3, hok3, hn3, hb3⟩;refine oN (tC (cS (cS ?_)))
   have hK3 := foldK_ok (b := 0) (all := n2.map NodeV.c) hK2
   rw [← hc3] at hsh
   generalize (foldK 0 K2 (n2.map NodeV.c)).1 = K3 at hsh hK3 hb3 ⊢
   rcases K3 with _ | ⟨f, K4⟩
   ·
    refine cR ?_;refine oV ?_;refine oC trivial rfl Tryz.call197 rfl (top_low b j1 vall us3 vi vl vo ua3 (stk [] ++ [odI (lastN n3)]) (Nat.le_refl 1)) (by repeat constructor) ?_;rintro _ _ _ hx6 ⟨rfl, rfl, rfl⟩;iterate 3 refine oV ?_
    refine o_alloc trivial rfl Tryz.zeroValue204 rfl (fun b5 => ?_);refine oS Tryz.sizeOf204 ?_;refine oV ?_;refine nS ?_;iterate 2 refine oV ?_
    refine' o_or trivial trivial rfl rfl rfl rfl rfl rfl rfl rfl (fun hb39 => ?_) ?_;rotate_left
    ·
     have fb39 := hb39
     try simp only [bl] at fb39
     refine gF hb39 2 Tryz.underlying204 Tryz.sizeOf4 ?_;refine gL hb39 Tryz.isAgg4 ?_;refine gV hb39 ?_;refine oN ?_;exact joins rfl
    refine nT ?_;refine c_cond_t rfl (by rfl) ?_;refine sR ?_;refine oV ?_;refine oN (tC (cT (tR (blk_r (tR (blk_r ?_))))));refine ret1 rfl rfl ?_
    first
    | exact fun w' hw' => ⟨I, _, hw'.sort (by repeat constructor), Ext.refl _ _, rfl, false, j1, us1, ua1, n1, Kv, rfl, rfl, hj1, fun _ => hce, fun h => by cases h⟩
    | exact fun w' hw' => ⟨I, [rdB b vall j1 us2 vi vl vo ua2, skR us2 (stk K2 ++ [odI (lastN n2)]), ndR ua2 n2], hw'.sort (by repeat constructor), Ext.refl _ _, rfl, true, j1, us2, ua2, n2, _, rfl, rfl, hj1, fun h => (by cases h), fun _ => ⟨K2, ⟨rfl, hK2, hok2, hn2, by omega⟩, hM2, hp, hij1⟩⟩
    | exact fun w' hw' => ⟨I, [rdB b vall j1 us3 vi vl vo ua3, skR us3 (stk [] ++ [odI (lastN n3)]), ndR ua3 n3], hw'.sort (by repeat constructor), Ext.refl _ _, rfl, false, j1, us3, ua3, n3, _, rfl, rfl, hj1, fun _ => hsh, fun h => by cases h⟩
    | exact fun w' hw' => ⟨I, [rdB b vall j1 us3 vi vl vo ua3, skR us3 (stk K4 ++ preF f ++ [opI (opK f) (opP f) (opB f)] ++ [odI (lastN n3)]), ndR ua3 n3], hw'.sort (by repeat constructor), Ext.refl _ _, rfl, false, j1, us3, ua3, n3, _, rfl, rfl, hj1, fun _ => hfin, fun h => by cases h⟩
   rw [stk_top]
   have hst4 := stk_len K4
   have hpf := preF_len f
   simp only [List.length_cons] at hb3
   have hsl : (stk K4 ++ preF f).length ≤ 80000 := by rw [List.length_append]; omega
   have hsl2 : (stk K4 ++ preF f ++ [opI (opK f) (opP f) (opB f)]).length ≤ 80001 := by rw [List.length_append]; exact Nat.succ_le_succ hsl
   refine cR ?_;refine oV ?_;refine oC trivial rfl Tryz.call197 rfl (top_op b j1 vall us3 vi vl vo ua3 (odI (lastN n3)) (opK f) (opP f) (opB f) (stk K4 ++ preF f) (by omega)) (by repeat constructor) ?_;rintro _ _ _ hx6 ⟨rfl, rfl, rfl⟩;iterate 3 refine oV ?_
   refine o_alloc trivial rfl Tryz.zeroValue204 rfl (fun b5 => ?_);refine oS Tryz.sizeOf204 ?_;refine oV ?_;refine nS ?_;iterate 2 refine oV ?_
   refine' o_or trivial trivial rfl rfl rfl rfl rfl rfl rfl rfl (fun hb39 => ?_) ?_;rotate_left
   ·
    have fb39 := hb39
    try simp only [bl] at fb39
    refine gF hb39 2 Tryz.underlying204 Tryz.sizeOf4 ?_;refine gL hb39 Tryz.isAgg4 ?_;refine gV hb39 ?_;refine oN ?_;exact joins rfl
   refine nT ?_;refine cC rfl (fun h3 => ?_) (fun h3 => ?_)
   ·
    have f3 := h3;try simp only [bl] at f3
    have hbr : opB f = false := by simpa [bl] using h3
    have hfin : o = .bad (L.drop j1) := by
      cases f with
      | br => cases hbr
      | neg => exact hsh
      | bin k a => exact hsh
    refine sR ?_;refine oV ?_;refine oN (tC (cT (tR (blk_r (tR (blk_r ?_))))));refine ret1 rfl rfl ?_
    first
    | exact fun w' hw' => ⟨I, _, hw'.sort (by repeat constructor), Ext.refl _ _, rfl, false, j1, us1, ua1, n1, Kv, rfl, rfl, hj1, fun _ => hce, fun h => by cases h⟩
    | exact fun w' hw' => ⟨I, [rdB b vall j1 us2 vi vl vo ua2, skR us2 (stk K2 ++ [odI (lastN n2)]), ndR ua2 n2], hw'.sort (by repeat constructor), Ext.refl _ _, rfl, true, j1, us2, ua2, n2, _, rfl, rfl, hj1, fun h => (by cases h), fun _ => ⟨K2, ⟨rfl, hK2, hok2, hn2, by omega⟩, hM2, hp, hij1⟩⟩
    | exact fun w' hw' => ⟨I, [rdB b vall j1 us3 vi vl vo ua3, skR us3 (stk [] ++ [odI (lastN n3)]), ndR ua3 n3], hw'.sort (by repeat constructor), Ext.refl _ _, rfl, false, j1, us3, ua3, n3, _, rfl, rfl, hj1, fun _ => hsh, fun h => by cases h⟩
    | exact fun w' hw' => ⟨I, [rdB b vall j1 us3 vi vl vo ua3, skR us3 (stk K4 ++ preF f ++ [opI (opK f) (opP f) (opB f)] ++ [odI (lastN n3)]), ndR ua3 n3], hw'.sort (by repeat constructor), Ext.refl _ _, rfl, false, j1, us3, ua3, n3, _, rfl, rfl, hj1, fun _ => hfin, fun h => by cases h⟩
   have f3 := h3;try simp only [bl] at f3
   have hbr : opB f = true := by simpa [bl] using h3
   have hfb : f = .br := by
     cases f with
     | br => rfl
     | neg => cases hbr
     | bin k a => cases hbr
   subst hfb
   refine kS ?_;iterate 2 refine oV ?_
   refine oF 1 Tryz.underlying101 Tryz.sizeOf3 ?_;refine oL Tryz.isAgg3 ?_
   first | (refine o_add trivial rfl rfl rfl ?_ ?_; (omega)) | refine oV ?_
   refine oV ?_;refine oF 1 Tryz.underlying101 Tryz.sizeOf3 ?_;refine oS Tryz.sizeOf3 ?_;refine nS ?_;refine oV ?_;refine oC trivial rfl Tryz.call198 rfl (pop_any b (j1 + 1) vall us3 vi vl vo ua3 (odI (lastN n3)) (stk K4 ++ preF .br ++ [opI (opK .br) (opP .br) (opB .br)]) (by omega)) (by repeat constructor) ?_;rintro _ _ _ hx7 ⟨rfl, rfl, us4, rfl⟩;refine oV ?_;refine nS ?_;refine oV ?_;refine oC trivial rfl Tryz.call198 rfl (pop_any b (j1 + 1) vall us4 vi vl vo ua3 (opI (opK .br) (opP .br) (opB .br)) (stk K4 ++ preF .br) (by omega)) (by repeat constructor) ?_;rintro _ _ _ hx8 ⟨rfl, rfl, us5, rfl⟩;refine nR ?_;iterate 2 refine oV ?_
   refine oC trivial rfl Tryz.call173 rfl (push_any b (j1 + 1) vall us5 vi vl vo ua3 (.int .i64 (lastN n3)) 245 (stk K4 ++ preF .br) (by omega)) (by repeat constructor) ?_;rintro _ _ _ hx9 ⟨rfl, rfl, us6, rfl⟩;refine oN (blk_n ?_);exact again (j1 + 1, K4, n3, us6, ua3) (sC rfl sN) (fun _ h => by simp only [preF, List.append_nil] at h; exact h.sort (by repeat constructor)) (by first | (show L.length - (j1 + 1) < L.length - j; omega) | (show L.length - (j1 + 1) < L.length - j1; omega)) ⟨by show j1 + 1 ≤ _; omega, frOk_br hK3, hok3, hn3, by show n3.length + K4.length ≤ j1 + 1; omega, hsh, by show i ≤ j1 + 1; omega⟩
  have fb10 := hb10
  try simp only [bl] at fb10
  have hm : hdT (L.drop j) 2 caret = false := hb10
  rw [adv_false hm]
  have hM : RunM K1 true (n0.map NodeV.c) (L.drop j) o := run_nocaret hr hm
  obtain ⟨j1, rfl⟩ : ∃ j1, j1 = j := ⟨j, rfl⟩
  obtain ⟨us1, rfl⟩ : ∃ us1, us1 = us := ⟨us, rfl⟩
  obtain ⟨ua1, rfl⟩ : ∃ ua1, ua1 = ua := ⟨ua, rfl⟩
  obtain ⟨n1, rfl⟩ : ∃ n1, n1 = n0 := ⟨n0, rfl⟩
  have hok1 := hok0
  have hb1 := hb0
  have hn1 := hn0
  have hj1 := hj
  have hij1 : i ≤ j1 := hij
  iterate 3 refine o_skip (skips_some rfl rfl rfl) rfl ?_
  refine oV ?_;refine nT ?_;refine c_cond_f rfl rfl ?_;refine kS ?_;refine oV ?_;refine oC trivial rfl Tryz.call172 rfl (fold_any b j1 vall us1 vi vl vo ua1 3 n1 K1 hK1 hok1 (by omega) hn1) (by repeat constructor) ?_;rintro _ _ _ hx3 ⟨rfl, rfl, us2, ua2, n2, rfl, hc2, hok2, hn2, hb2⟩;refine oN (tC (cS ?_))
  have hM2 := RunM.fold (b := 3) (.inl rfl) hK1 hM
  have hK2 := foldK_ok (b := 3) (all := n1.map NodeV.c) hK1
  rw [← hc2] at hM2
  generalize (foldK 3 K1 (n1.map NodeV.c)).1 = K2 at hM2 hK2 hb2 ⊢
  refine cR ?_;refine oV ?_;refine oC trivial rfl Tryz.call59 rfl (rdNext_any b j1 vall us2 vi vl vo ua2 L hL) (by repeat constructor) ?_;rintro _ _ _ hx4 ⟨rfl, rfl, rfl⟩;iterate 3 refine oV ?_
  refine o_alloc trivial rfl Tryz.zeroValue103 rfl (fun b3 => ?_);refine oS Tryz.sizeOf103 ?_;refine oV ?_;refine nU ?_;refine oF 0 Tryz.underlying103 Tryz.sizeOf3 ?_;refine oL Tryz.isAgg3 ?_;refine oV ?_;refine' o_or trivial trivial rfl rfl rfl rfl rfl rfl rfl rfl (fun hb25 => ?_) ?_;rotate_left
  ·
   have fb25 := hb25
   try simp only [bl] at fb25
   refine gF hb25 1 Tryz.underlying103 Tryz.sizeOf9 ?_;refine gL hb25 Tryz.isAgg9 ?_;refine gV hb25 ?_;refine oN ?_;exact joins rfl
  refine nT ?_;refine cC rfl (fun h2 => ?_) (fun h2 => ?_)
  ·
   have f2 := h2;try simp only [bl] at f2
   have hp : hdT (L.drop j1) 2 rpar = false := by
     rw [hdT_at]
     unfold isT
     rw [Bool.and_eq_false_iff]
     right
     exact or2_t h2
   refine sR ?_;refine oV ?_;refine oN (tC (cT (tR (blk_r (tR (blk_r ?_))))));refine ret1 rfl rfl ?_
   first
   | exact fun w' hw' => ⟨I, _, hw'.sort (by repeat constructor), Ext.refl _ _, rfl, false, j1, us1, ua1, n1, Kv, rfl, rfl, hj1, fun _ => hce, fun h => by cases h⟩
   | exact fun w' hw' => ⟨I, [rdB b vall j1 us2 vi vl vo ua2, skR us2 (stk K2 ++ [odI (lastN n2)]), ndR ua2 n2], hw'.sort (by repeat constructor), Ext.refl _ _, rfl, true, j1, us2, ua2, n2, _, rfl, rfl, hj1, fun h => (by cases h), fun _ => ⟨K2, ⟨rfl, hK2, hok2, hn2, by omega⟩, hM2, hp, hij1⟩⟩
   | exact fun w' hw' => ⟨I, [rdB b vall j1 us3 vi vl vo ua3, skR us3 (stk [] ++ [odI (lastN n3)]), ndR ua3 n3], hw'.sort (by repeat constructor), Ext.refl _ _, rfl, false, j1, us3, ua3, n3, _, rfl, rfl, hj1, fun _ => hsh, fun h => by cases h⟩
   | exact fun w' hw' => ⟨I, [rdB b vall j1 us3 vi vl vo ua3, skR us3 (stk K4 ++ preF f ++ [opI (opK f) (opP f) (opB f)] ++ [odI (lastN n3)]), ndR ua3 n3], hw'.sort (by repeat constructor), Ext.refl _ _, rfl, false, j1, us3, ua3, n3, _, rfl, rfl, hj1, fun _ => hfin, fun h => by cases h⟩
  have f2 := h2;try simp only [bl] at f2
  have hp0 : isT (tkAt L j1) 2 rpar = true := or2_f h2
  have hlt1 : j1 < L.length := by
    rcases Nat.lt_or_ge j1 L.length with hh | hh
    · exact hh
    · rw [tkAt_out hh] at hp0
      exact absurd hp0 (by decide)
  have hp : hdT (L.drop j1) 2 rpar = true := by rw [hdT_at, decide_eq_true hlt1, hp0]; rfl
  have hsh := run_shut hK2 hM2 hp
  refine kS ?_;refine oV ?_;refine oC trivial rfl Tryz.call172 rfl (fold_any b j1 vall us2 vi vl vo ua2 0 n2 K2 hK2 hok2 (by omega) hn2) (by repeat constructor) ?_;rintro _ _ _ hx5 ⟨rfl, rfl, us3, ua3, n3, rfl, hc3, hok3, hn3, hb3⟩;refine oN (tC (cS (cS ?_)))
  have hK3 := foldK_ok (b := 0) (all := n2.map NodeV.c) hK2
  rw [← hc3] at hsh
  generalize (foldK 0 K2 (n2.map NodeV.c)).1 = K3 at hsh hK3 hb3 ⊢
  rcases K3 with _ | ⟨f, K4⟩
  ·
   refine cR ?_;refine oV ?_;refine oC trivial rfl Tryz.call197 rfl (top_low b j1 vall us3 vi vl vo ua3 (stk [] ++ [odI (lastN n3)]) (Nat.le_refl 1)) (by repeat constructor) ?_;rintro _ _ _ hx6 ⟨rfl, rfl, rfl⟩;iterate 3 refine oV ?_
   refine o_alloc trivial rfl Tryz.zeroValue204 rfl (fun b5 => ?_);refine oS Tryz.sizeOf204 ?_;refine oV ?_;refine nS ?_;iterate 2 refine oV ?_
   refine' o_or trivial trivial rfl rfl rfl rfl rfl rfl rfl rfl (fun hb39 => ?_) ?_;rotate_left
   ·
    have fb39 := hb39
    try simp only [bl] at fb39
    refine gF hb39 2 Tryz.underlying204 Tryz.sizeOf4 ?_;refine gL hb39 Tryz.isAgg4 ?_;refine gV hb39 ?_;refine oN ?_;exact joins rfl
   refine nT ?_;refine c_cond_t rfl (by rfl) ?_;refine sR ?_;refine oV ?_;refine oN (tC (cT (tR (blk_r (tR (blk_r ?_))))));refine ret1 rfl rfl ?_
   first
   | exact fun w' hw' => ⟨I, _, hw'.sort (by repeat constructor), Ext.refl _ _, rfl, false, j1, us1, ua1, n1, Kv, rfl, rfl, hj1, fun _ => hce, fun h => by cases h⟩
   | exact fun w' hw' => ⟨I, [rdB b vall j1 us2 vi vl vo ua2, skR us2 (stk K2 ++ [odI (lastN n2)]), ndR ua2 n2], hw'.sort (by repeat constructor), Ext.refl _ _, rfl, true, j1, us2, ua2, n2, _, rfl, rfl, hj1, fun h => (by cases h), fun _ => ⟨K2, ⟨rfl, hK2, hok2, hn2, by omega⟩, hM2, hp, hij1⟩⟩
   | exact fun w' hw' => ⟨I, [rdB b vall j1 us3 vi vl vo ua3, skR us3 (stk [] ++ [odI (lastN n3)]), ndR ua3 n3], hw'.sort (by repeat constructor), Ext.refl _ _, rfl, false, j1, us3, ua3, n3, _, rfl, rfl, hj1, fun _ => hsh, fun h => by cases h⟩
   | exact fun w' hw' => ⟨I, [rdB b vall j1 us3 vi vl vo ua3, skR us3 (stk K4 ++ preF f ++ [opI (opK f) (opP f) (opB f)] ++ [odI (lastN n3)]), ndR ua3 n3], hw'.sort (by repeat constructor), Ext.refl _ _, rfl, false, j1, us3, ua3, n3, _, rfl, rfl, hj1, fun _ => hfin, fun h => by cases h⟩
  rw [stk_top]
  have hst4 := stk_len K4
  have hpf := preF_len f
  simp only [List.length_cons] at hb3
  have hsl : (stk K4 ++ preF f).length ≤ 80000 := by rw [List.length_append]; omega
  have hsl2 : (stk K4 ++ preF f ++ [opI (opK f) (opP f) (opB f)]).length ≤ 80001 := by rw [List.length_append]; exact Nat.succ_le_succ hsl
  refine cR ?_;refine oV ?_;refine oC trivial rfl Tryz.call197 rfl (top_op b j1 vall us3 vi vl vo ua3 (odI (lastN n3)) (opK f) (opP f) (opB f) (stk K4 ++ preF f) (by omega)) (by repeat constructor) ?_;rintro _ _ _ hx6 ⟨rfl, rfl, rfl⟩;iterate 3 refine oV ?_
  refine o_alloc trivial rfl Tryz.zeroValue204 rfl (fun b5 => ?_);refine oS Tryz.sizeOf204 ?_;refine oV ?_;refine nS ?_;iterate 2 refine oV ?_
  refine' o_or trivial trivial rfl rfl rfl rfl rfl rfl rfl rfl (fun hb39 => ?_) ?_;rotate_left
  ·
   have fb39 := hb39
   try simp only [bl] at fb39
   refine gF hb39 2 Tryz.underlying204 Tryz.sizeOf4 ?_;refine gL hb39 Tryz.isAgg4 ?_;refine gV hb39 ?_;refine oN ?_;exact joins rfl
  refine nT ?_;refine cC rfl (fun h3 => ?_) (fun h3 => ?_)
  ·
   have f3 := h3;try simp only [bl] at f3
   have hbr : opB f = false := by simpa [bl] using h3
   have hfin : o = .bad (L.drop j1) := by
     cases f with
     | br => cases hbr
     | neg => exact hsh
     | bin k a => exact hsh
   refine sR ?_;refine oV ?_;refine oN (tC (cT (tR (blk_r (tR (blk_r ?_))))));refine ret1 rfl rfl ?_
   first
   | exact fun w' hw' => ⟨I, _, hw'.sort (by repeat constructor), Ext.refl _ _, rfl, false, j1, us1, ua1, n1, Kv, rfl, rfl, hj1, fun _ => hce, fun h => by cases h⟩
   | exact fun w' hw' => ⟨I, [rdB b vall j1 us2 vi vl vo ua2, skR us2 (stk K2 ++ [odI (lastN n2)]), ndR ua2 n2], hw'.sort (by repeat constructor), Ext.refl _ _, rfl, true, j1, us2, ua2, n2, _, rfl, rfl, hj1, fun h => (by cases h), fun _ => ⟨K2, ⟨rfl, hK2, hok2, hn2, by omega⟩, hM2, hp, hij1⟩⟩
   | exact fun w' hw' => ⟨I, [rdB b vall j1 us3 vi vl vo ua3, skR us3 (stk [] ++ [odI (lastN n3)]), ndR ua3 n3], hw'.sort (by repeat constructor), Ext.refl _ _, rfl, false, j1, us3, ua3, n3, _, rfl, rfl, hj1, fun _ => hsh, fun h => by cases h⟩
   | exact fun w' hw' => ⟨I, [rdB b vall j1 us3 vi vl vo ua3, skR us3 (stk K4 ++ preF f ++ [opI (opK f) (opP f) (opB f)] ++ [odI (lastN n3)]), ndR ua3 n3], hw'.sort (by repeat constructor), Ext.refl _ _, rfl, false, j1, us3, ua3, n3, _, rfl, rfl, hj1, fun _ => hfin, fun h => by cases h⟩
  have f3 := h3;try simp only [bl] at f3
  have hbr : opB f = true := by simpa [bl] using h3
  have hfb : f = .br := by
    cases f with
    | br => rfl
    | neg => cases hbr
    | bin k a => cases hbr
  subst hfb
  refine kS ?_;iterate 2 refine oV ?_
  refine oF 1 Tryz.underlying101 Tryz.sizeOf3 ?_;refine oL Tryz.isAgg3 ?_
  first | (refine o_add trivial rfl rfl rfl ?_ ?_; (omega)) | refine oV ?_
  refine oV ?_;refine oF 1 Tryz.underlying101 Tryz.sizeOf3 ?_;refine oS Tryz.sizeOf3 ?_;refine nS ?_;refine oV ?_;refine oC trivial rfl Tryz.call198 rfl (pop_any b (j1 + 1) vall us3 vi vl vo ua3 (odI (lastN n3)) (stk K4 ++ preF .br ++ [opI (opK .br) (opP .br) (opB .br)]) (by omega)) (by repeat constructor) ?_;rintro _ _ _ hx7 ⟨rfl, rfl, us4, rfl⟩;refine oV ?_;refine nS ?_;refine oV ?_;refine oC trivial rfl Tryz.call198 rfl (pop_any b (j1 + 1) vall us4 vi vl vo ua3 (opI (opK .br) (opP .br) (opB .br)) (stk K4 ++ preF .br) (by omega)) (by repeat constructor) ?_;rintro _ _ _ hx8 ⟨rfl, rfl, us5, rfl⟩;refine nR ?_;iterate 2 refine oV ?_
  refine oC trivial rfl Tryz.call173 rfl (push_any b (j1 + 1) vall us5 vi vl vo ua3 (.int .i64 (lastN n3)) 245 (stk K4 ++ preF .br) (by omega)) (by repeat constructor) ?_;rintro _ _ _ hx9 ⟨rfl, rfl, us6, rfl⟩;refine oN (blk_n ?_);exact again (j1 + 1, K4, n3, us6, ua3) (sC rfl sN) (fun _ h => by simp only [preF, List.append_nil] at h; exact h.sort (by repeat constructor)) (by first | (show L.length - (j1 + 1) < L.length - j; omega) | (show L.length - (j1 + 1) < L.length - j1; omega)) ⟨by show j1 + 1 ≤ _; omega, frOk_br hK3, hok3, hn3, by show n3.length + K4.length ≤ j1 + 1; omega, hsh, by show i ≤ j1 + 1; omega⟩
def signK (s : ByteArray) : Int := if s.toList == plusS.toList then 2 else if s.toList == minusS.toList then 3 else if s.toList == starS.toList then 4 else if s.toList == slashS.toList then 5 else 0
theorem sign_none {x : Tok} (h : x.kind ≠ 2 ∨ signK x.text = 0) : mulK x = none ∧ addK x = none := by
  unfold mulK addK isT
  rcases h with h | h
  · have e : (x.kind == 2) = false := by simpa using h
    rw [e]
    exact ⟨rfl, rfl⟩
  · unfold signK at h
    split at h
    · omega
    · rename_i h1
      split at h
      · omega
      · rename_i h2
        split at h
        · omega
        · rename_i h3
          split at h
          · omega
          · rename_i h4
            rw [Bool.not_eq_true] at h1 h2 h3 h4
            rw [h1, h2, h3, h4, Bool.and_false]
            exact ⟨rfl, rfl⟩
theorem sign_some {x : Tok} (hk : x.kind = 2) (h : signK x.text ≠ 0) : (mulK x = some (signK x.text) ∧ bindK (signK x.text) = 2) ∨ (addK x = some (signK x.text) ∧ bindK (signK x.text) = 1) := by
  have e : (x.kind == 2) = true := by simpa using hk
  have hsk : ∀ {a b : ByteArray}, a.toList ≠ b.toList → (x.text.toList == a.toList) = true → (x.text.toList == b.toList) = false := fun {a b} hab h1 => by
    rw [beq_iff_eq] at h1
    rw [beq_eq_false_iff_ne, h1]
    exact hab
  have d1 : plusS.toList ≠ starS.toList := by rw [ByteArray.toList_eq, ByteArray.toList_eq]; decide
  have d2 : plusS.toList ≠ slashS.toList := by rw [ByteArray.toList_eq, ByteArray.toList_eq]; decide
  have d3 : minusS.toList ≠ starS.toList := by rw [ByteArray.toList_eq, ByteArray.toList_eq]; decide
  have d4 : minusS.toList ≠ slashS.toList := by rw [ByteArray.toList_eq, ByteArray.toList_eq]; decide
  unfold mulK addK isT
  rw [e]
  simp only [Bool.true_and]
  unfold signK at h ⊢
  by_cases h1 : (x.text.toList == plusS.toList) = true
  · right; rw [if_pos h1, if_pos h1]; exact ⟨rfl, by decide⟩
  · rw [if_neg h1] at h ⊢
    rw [if_neg h1]
    by_cases h2 : (x.text.toList == minusS.toList) = true
    · right; rw [if_pos h2, if_pos h2]; exact ⟨rfl, by decide⟩
    · rw [if_neg h2] at h ⊢
      by_cases h3 : (x.text.toList == starS.toList) = true
      · left; rw [if_pos h3, if_pos h3]; exact ⟨rfl, by decide⟩
      · rw [if_neg h3] at h ⊢
        rw [if_neg h3]
        by_cases h4 : (x.text.toList == slashS.toList) = true
        · left; rw [if_pos h4, if_pos h4]; exact ⟨rfl, by decide⟩
        · rw [if_neg h4] at h; exact absurd rfl h
theorem run_sign {L : List Tok} {K : List Fr} {all : List NodeC} {j : Nat} {o : POut} {k : Int} (hK : FrOk K) (h : RunM K true all (L.drop j) o) (hlt : j < L.length) (hkind : (tkAt L j).kind = 2) (hk : k = signK (tkAt L j).text) (h0 : k ≠ 0) :
    RunE (.bin k (lastI (foldK (bindK k) K all).2) :: (foldK (bindK k) K all).1) (foldK (bindK k) K all).2 (L.drop (j + 1)) o ∧ 2 ≤ k ∧ k ≤ 5 := by
  rw [drop_cons hlt] at h
  subst hk
  rcases sign_some hkind h0 with ⟨h1, h2⟩ | ⟨h1, h2⟩
  · rw [h2]; exact ⟨h.mul hK h1, mulK_le h1⟩
  · rw [h2]; exact ⟨h.add hK h1, addK_le h1⟩
theorem run_none {L : List Tok} {j : Nat} (h : ¬ (j < L.length ∧ (tkAt L j).kind = 2 ∧ signK (tkAt L j).text ≠ 0)) : hdK mulK (L.drop j) = none ∧ hdK addK (L.drop j) = none := by
  by_cases hlt : j < L.length
  · rw [drop_cons hlt]
    refine sign_none ?_
    by_cases hk : (tkAt L j).kind = 2
    · right
      by_cases hs : signK (tkAt L j).text = 0
      · exact hs
      · exact absurd ⟨hlt, hk, hs⟩ h
    · exact .inl hk
  · rw [List.drop_eq_nil_of_le (by omega)]
    exact ⟨rfl, rfl⟩
theorem stk_nil {K : List Fr} (h : (stk K).length = 0) : K = [] := by
  cases K with
  | nil => rfl
  | cons f K => cases f <;> simp [stk, encF] at h
theorem rdSum_any (b i : Nat) (vall vi vl vo va : Value) (ns : List NodeV) (L : List Tok) {I : Hp} (hM : Mx I) (hE : Errs I) (hL : Slc I 4 vall (L.map Tok.cells)) (hn : L.length ≤ 10000) (hs : TkSmall L) (hto : ToksOk L) (hok : ∀ o ∈ ns, o.ok I) (hb : ns.length ≤ i) (hi : i ≤ L.length) {o : POut} (h : RunE [] (ns.map NodeV.c) (L.drop i) o) :
    Fun Tryz.prog 141 [.pointer (some ⟨b, 0, none⟩)] I [rdB b vall i (.slice none 0 0) vi vl vo va, ndR va ns]
    (fun v I' B' => ∃ ok i' vs' va' ns', v = .bool ok ∧ B' = [rdB b vall i' vs' vi vl vo va', ndR va' ns'] ∧ i' ≤ L.length ∧ (ok = false → o = .bad (L.drop i')) ∧ (ok = true → o = .ok (ns'.map NodeV.c) (L.drop i') ∧ vs' = .slice none 0 0 ∧ (∀ o ∈ ns', o.ok I') ∧ ns'.length ≤ i' ∧ i < i')) := by
  intro w hw
  refine enter1 _ Tryz.func141 rfl Tryz.ntmps141 rfl ?_ hw;refine sR ?_;refine oV ?_;refine oN (tC (cS (cB ?_)));refine c_loop (ι := Nat × List Fr × List NodeV × Value × Value × Hp) [0] (.cons rfl .nil) (fun x => L.length - x.1) (fun x E0 => E0) (fun x => St w (keysOf [rdB b vall i (.slice none 0 0) vi vl vo va, ndR va ns]) x.2.2.2.2.2 [rdB b vall x.1 x.2.2.2.1 vi vl vo x.2.2.2.2.1, skR x.2.2.2.1 (stk x.2.1), ndR x.2.2.2.2.1 x.2.2.1]) (fun x => x.1 ≤ L.length ∧ FrOk x.2.1 ∧ (∀ o ∈ x.2.2.1, o.ok x.2.2.2.2.2) ∧ x.2.2.1.length + x.2.1.length ≤ x.1 ∧ RunE x.2.1 (x.2.2.1.map NodeV.c) (L.drop x.1) o ∧ Ext w.heap.size I x.2.2.2.2.2 ∧ i ≤ x.1) ((i, [], ns, .slice none 0 0, va, I)) (sC rfl sN) (fun _ h => (h.nilRow 20 1).sort (by repeat constructor)) (⟨hi, trivial, hok, hb, h, Ext.refl _ _, Nat.le_refl _⟩) ?_;rintro ⟨j, K1, n0, us, ua, I1⟩ ⟨hj, hK1, hok0, hb0, hr, hx1, hij⟩
  try dsimp only
  simp only at hj hK1 hok0 hb0 hr hx1 hij; have hst := stk_len K1
  refine cB (cS (sR ?_));refine oV ?_;refine oC trivial rfl Tryz.call169 rfl (rdOpen_any b j vall us vi vl vo ua n0 K1 L (hM.le hx1.le) (hL.le hx1.le) hn hs hto hK1 hok0 hb0 hj hr) (by repeat constructor) ?_;rintro _ I2 _ hx2 ⟨ok1, j1, us1, ua1, n1, Kv1, rfl, rfl, hj1, hno1, hyes1⟩;refine oV ?_;refine o_fork trivial rfl rfl (fun hb10 => ?_) (fun hb10 => ?_)
  ·
   have fb10 := hb10
   try simp only [bl] at fb10
   have hk1 : ok1 = false := by simpa using hb10
   iterate 3 refine o_skip (skips_some rfl rfl rfl) rfl ?_
   refine oV ?_;refine nT ?_;refine c_cond_t rfl rfl ?_;refine sR ?_;refine oV ?_;refine oN (tC (cT (tR (blk_r (tR (blk_r (tR ?_)))))));refine ret1 rfl rfl ?_
   first
   | exact fun w' hw' => ⟨I2, [rdB b vall (j2 + 1) (.slice none 0 0) vi vl vo ua3, ndR ua3 n3], hw'.sort (by repeat constructor), hx1.trans hx2 (Nat.le_refl _), true, j2 + 1, _, ua3, n3, rfl, rfl, hlt2, fun h => (by cases h), fun _ => ⟨hfin, rfl, hok3, by omega, by omega⟩⟩
   | exact fun w' hw' => ⟨I2, [rdB b vall j2 us3 vi vl vo ua3, ndR ua3 n3], hw'.sort (by repeat constructor), hx1.trans hx2 (Nat.le_refl _), false, j2, _, ua3, n3, rfl, rfl, hj2, fun _ => hfb, fun h => by cases h⟩
   | exact fun w' hw' => ⟨I2, [rdB b vall j2 us2 vi vl vo ua2, ndR ua2 n2], hw'.sort (by repeat constructor), hx1.trans hx2 (Nat.le_refl _), false, j2, _, ua2, n2, rfl, rfl, hj2, fun _ => hno2 hk2, fun h => by cases h⟩
   | exact fun w' hw' => ⟨I2, [rdB b vall j1 us1 vi vl vo ua1, ndR ua1 n1], hw'.sort (by repeat constructor), hx1.trans hx2 (Nat.le_refl _), false, j1, _, ua1, n1, rfl, rfl, hj1, fun _ => hno1 hk1, fun h => by cases h⟩
  have fb10 := hb10
  try simp only [bl] at fb10
  have hk1 : ok1 = true := by simpa using hb10
  obtain ⟨K2, hRd, hA, hlt1⟩ := hyes1 hk1
  obtain rfl := hRd.kv
  refine o_pv (wS rfl rfl rfl) rfl rfl ?_;refine oC (wS rfl rfl rfl) rfl Tryz.call170 rfl (rdShut_any b j1 vall us1 vi vl vo ua1 n1 K2 L (hE.le (hx1.le.trans hx2.le)) (hL.le (hx1.le.trans hx2.le)) hn hs hto hRd.fr hRd.ok hRd.pos hRd.few hj1 hA) (by repeat constructor) ?_;rintro _ _ _ hx3 ⟨rfl, ok2, j2, us2, ua2, n2, Kv2, rfl, rfl, hj2, hno2, hyes2⟩;refine o_pv (wS rfl rfl rfl) rfl rfl ?_;refine oV ?_;refine nT ?_;refine cC rfl (fun h1 => ?_) (fun h1 => ?_)
  ·
   have f1 := h1;try simp only [bl] at f1
   have hk2 : ok2 = false := by simpa using f1
   refine sR ?_;refine oV ?_;refine oN (tC (cT (tR (blk_r (tR (blk_r (tR ?_)))))));refine ret1 rfl rfl ?_
   first
   | exact fun w' hw' => ⟨I2, [rdB b vall (j2 + 1) (.slice none 0 0) vi vl vo ua3, ndR ua3 n3], hw'.sort (by repeat constructor), hx1.trans hx2 (Nat.le_refl _), true, j2 + 1, _, ua3, n3, rfl, rfl, hlt2, fun h => (by cases h), fun _ => ⟨hfin, rfl, hok3, by omega, by omega⟩⟩
   | exact fun w' hw' => ⟨I2, [rdB b vall j2 us3 vi vl vo ua3, ndR ua3 n3], hw'.sort (by repeat constructor), hx1.trans hx2 (Nat.le_refl _), false, j2, _, ua3, n3, rfl, rfl, hj2, fun _ => hfb, fun h => by cases h⟩
   | exact fun w' hw' => ⟨I2, [rdB b vall j2 us2 vi vl vo ua2, ndR ua2 n2], hw'.sort (by repeat constructor), hx1.trans hx2 (Nat.le_refl _), false, j2, _, ua2, n2, rfl, rfl, hj2, fun _ => hno2 hk2, fun h => by cases h⟩
   | exact fun w' hw' => ⟨I2, [rdB b vall j1 us1 vi vl vo ua1, ndR ua1 n1], hw'.sort (by repeat constructor), hx1.trans hx2 (Nat.le_refl _), false, j1, _, ua1, n1, rfl, rfl, hj1, fun _ => hno1 hk1, fun h => by cases h⟩
  have f1 := h1;try simp only [bl] at f1
  have hk2 : ok2 = true := by simpa using f1
  obtain ⟨K3, hRd3, hM3, hp3, hj12⟩ := hyes2 hk2
  obtain rfl := hRd3.kv
  have hf3 := hRd3.few
  have hp1 := hRd3.pos
  refine kS ?_;refine oV ?_;refine oC trivial rfl Tryz.call59 rfl (rdNext_any b j2 vall us2 vi vl vo ua2 L (hL.le (hx1.le.trans hx2.le))) (by repeat constructor) ?_;rintro _ _ _ hx4 ⟨rfl, rfl, rfl⟩;iterate 3 refine oV ?_
  refine o_alloc trivial rfl Tryz.zeroValue103 rfl (fun b3 => ?_);refine oS Tryz.sizeOf103 ?_;refine oV ?_;refine nS ?_;refine oF 1 Tryz.underlying103 Tryz.sizeOf9 ?_;refine oL Tryz.isAgg9 ?_;refine oI Tryz.call171 rfl (signs_any _) ?_;rintro _ _ hx5 ⟨rfl, k, rfl, hk⟩;iterate 3 refine oV ?_
  refine o_alloc trivial rfl Tryz.zeroValue204 rfl (fun b5 => ?_);refine oS Tryz.sizeOf204 ?_;refine oV ?_;refine nU ?_;iterate 2 refine oV ?_
  refine' o_or trivial trivial rfl rfl rfl rfl rfl rfl rfl rfl (fun hb28 => ?_) ?_;rotate_left
  ·
   have fb28 := hb28
   try simp only [bl] at fb28
   refine gF hb28 0 Tryz.underlying103 Tryz.sizeOf3 ?_;refine gL hb28 Tryz.isAgg3 ?_;refine gV hb28 ?_;refine oN ?_;exact joins rfl
  refine' o_or trivial trivial rfl rfl rfl rfl rfl rfl rfl rfl (fun hb33 => ?_) ?_;rotate_left
  ·
   have fb33 := hb33
   try simp only [bl] at fb33
   iterate 2 refine gV hb33 ?_
   refine oN ?_;exact joins rfl
  refine nT ?_;refine cC rfl (fun h2 => ?_) (fun h2 => ?_)
  ·
   have f2 := h2;try simp only [bl] at f2
   have hnm := run_none (L := L) (j := j2) (fun hh => by
     have h3 := or3_t h2
     rw [decide_eq_true hh.1, hh.2.1, decide_eq_true (show k ≠ 0 from by rw [hk]; exact hh.2.2)] at h3
     simp at h3)
   refine c_exit (then_x (blk_ne rfl (then_x (blk_eq rfl (tC (sR ?_))))));refine oV ?_;refine oC trivial rfl Tryz.call172 rfl (fold_any b j2 vall us2 vi vl vo ua2 0 n2 K3 hRd3.fr hRd3.ok (by omega) hp1) (by repeat constructor) ?_;rintro _ _ _ hx6 ⟨rfl, rfl, us3, ua3, n3, rfl, hc3, hok3, hn3, hb3⟩;refine oN (tC (cS (cS ?_)))
   have hfin := RunM.fin hRd3.fr hM3 hnm.1 hnm.2 hp3
   rw [← hc3] at hfin
   generalize (foldK 0 K3 (n2.map NodeV.c)).1 = K4 at hfin hb3 ⊢
   refine cR ?_;iterate 2 refine oV ?_
   refine oF 2 Tryz.underlying101 Tryz.sizeOf99 ?_;refine oL Tryz.isAgg99 ?_;refine o_lenRow trivial rfl Tryz.underlying99 rfl (by repeat constructor) ?_;refine oV ?_;refine o_fork trivial rfl rfl (fun hb60 => ?_) (fun hb60 => ?_)
   ·
    have fb60 := hb60
    try simp only [bl] at fb60
    have hlen : (stk K4 ++ [odI (lastN n3)]).length ≠ 1 := by
      intro e; rw [e] at hb60; cases hb60
    have hfb : o = .bad (L.drop j2) := by
      rw [if_neg (fun hh => hlen (by rw [hh.1]; rfl))] at hfin
      exact hfin
    iterate 3 refine o_skip (skips_some rfl rfl rfl) rfl ?_
    refine oV ?_;refine nT ?_;refine c_cond_t rfl rfl ?_;refine sR ?_;refine oV ?_;refine nF ?_;refine ret1 rfl rfl ?_
    first
    | exact fun w' hw' => ⟨I2, [rdB b vall (j2 + 1) (.slice none 0 0) vi vl vo ua3, ndR ua3 n3], hw'.sort (by repeat constructor), hx1.trans hx2 (Nat.le_refl _), true, j2 + 1, _, ua3, n3, rfl, rfl, hlt2, fun h => (by cases h), fun _ => ⟨hfin, rfl, hok3, by omega, by omega⟩⟩
    | exact fun w' hw' => ⟨I2, [rdB b vall j2 us3 vi vl vo ua3, ndR ua3 n3], hw'.sort (by repeat constructor), hx1.trans hx2 (Nat.le_refl _), false, j2, _, ua3, n3, rfl, rfl, hj2, fun _ => hfb, fun h => by cases h⟩
    | exact fun w' hw' => ⟨I2, [rdB b vall j2 us2 vi vl vo ua2, ndR ua2 n2], hw'.sort (by repeat constructor), hx1.trans hx2 (Nat.le_refl _), false, j2, _, ua2, n2, rfl, rfl, hj2, fun _ => hno2 hk2, fun h => by cases h⟩
    | exact fun w' hw' => ⟨I2, [rdB b vall j1 us1 vi vl vo ua1, ndR ua1 n1], hw'.sort (by repeat constructor), hx1.trans hx2 (Nat.le_refl _), false, j1, _, ua1, n1, rfl, rfl, hj1, fun _ => hno1 hk1, fun h => by cases h⟩
   have fb60 := hb60
   try simp only [bl] at fb60
   have hlen : (stk K4 ++ [odI (lastN n3)]).length = 1 := by
     have := fb60
     omega
   have hK0 : K4 = [] := stk_nil (by rw [List.length_append] at hlen; change (stk K4).length + 1 = 1 at hlen; omega)
   subst hK0
   refine o_pv (wS rfl rfl rfl) rfl rfl ?_;refine oC (wS rfl rfl rfl) rfl Tryz.call140 rfl (rdMark_any b j2 vall us3 vi vl vo ua3 semiS L (hL.le (hx1.le.trans hx2.le)) (by omega)) (by repeat constructor) ?_;rintro _ _ _ hx7 ⟨rfl, rfl, rfl⟩;refine o_pv (wS rfl rfl rfl) rfl rfl ?_;refine oV ?_;refine nT ?_;refine cC rfl (fun h3 => ?_) (fun h3 => ?_)
   ·
    have f3 := h3;try simp only [bl] at f3
    have hm : hdT (L.drop j2) 2 semiS = false := by simpa using f3
    rw [adv_false hm]
    have hfb : o = .bad (L.drop j2) := by
      rw [if_neg (fun hh => by rw [hm] at hh; cases hh.2)] at hfin
      exact hfin
    refine sR ?_;refine oV ?_;refine nF ?_;refine ret1 rfl rfl ?_
    first
    | exact fun w' hw' => ⟨I2, [rdB b vall (j2 + 1) (.slice none 0 0) vi vl vo ua3, ndR ua3 n3], hw'.sort (by repeat constructor), hx1.trans hx2 (Nat.le_refl _), true, j2 + 1, _, ua3, n3, rfl, rfl, hlt2, fun h => (by cases h), fun _ => ⟨hfin, rfl, hok3, by omega, by omega⟩⟩
    | exact fun w' hw' => ⟨I2, [rdB b vall j2 us3 vi vl vo ua3, ndR ua3 n3], hw'.sort (by repeat constructor), hx1.trans hx2 (Nat.le_refl _), false, j2, _, ua3, n3, rfl, rfl, hj2, fun _ => hfb, fun h => by cases h⟩
    | exact fun w' hw' => ⟨I2, [rdB b vall j2 us2 vi vl vo ua2, ndR ua2 n2], hw'.sort (by repeat constructor), hx1.trans hx2 (Nat.le_refl _), false, j2, _, ua2, n2, rfl, rfl, hj2, fun _ => hno2 hk2, fun h => by cases h⟩
    | exact fun w' hw' => ⟨I2, [rdB b vall j1 us1 vi vl vo ua1, ndR ua1 n1], hw'.sort (by repeat constructor), hx1.trans hx2 (Nat.le_refl _), false, j1, _, ua1, n1, rfl, rfl, hj1, fun _ => hno1 hk1, fun h => by cases h⟩
   have f3 := h3;try simp only [bl] at f3
   have hm : hdT (L.drop j2) 2 semiS = true := by simpa using f3
   rw [adv_true hm]
   have hlt2 := hdT_lt hm
   rw [if_pos ⟨rfl, hm⟩, List.drop_drop] at hfin
   refine kS ?_;iterate 2 refine oV ?_
   refine oF 2 Tryz.underlying101 Tryz.sizeOf99 ?_;refine oS Tryz.sizeOf99 ?_;refine nS ?_;refine oV ?_;refine nE ?_;refine ret1 rfl rfl ?_
   first
   | exact fun w' hw' => ⟨I2, [rdB b vall (j2 + 1) (.slice none 0 0) vi vl vo ua3, ndR ua3 n3], hw'.sort (by repeat constructor), hx1.trans hx2 (Nat.le_refl _), true, j2 + 1, _, ua3, n3, rfl, rfl, hlt2, fun h => (by cases h), fun _ => ⟨hfin, rfl, hok3, by omega, by omega⟩⟩
   | exact fun w' hw' => ⟨I2, [rdB b vall j2 us3 vi vl vo ua3, ndR ua3 n3], hw'.sort (by repeat constructor), hx1.trans hx2 (Nat.le_refl _), false, j2, _, ua3, n3, rfl, rfl, hj2, fun _ => hfb, fun h => by cases h⟩
   | exact fun w' hw' => ⟨I2, [rdB b vall j2 us2 vi vl vo ua2, ndR ua2 n2], hw'.sort (by repeat constructor), hx1.trans hx2 (Nat.le_refl _), false, j2, _, ua2, n2, rfl, rfl, hj2, fun _ => hno2 hk2, fun h => by cases h⟩
   | exact fun w' hw' => ⟨I2, [rdB b vall j1 us1 vi vl vo ua1, ndR ua1 n1], hw'.sort (by repeat constructor), hx1.trans hx2 (Nat.le_refl _), false, j1, _, ua1, n1, rfl, rfl, hj1, fun _ => hno1 hk1, fun h => by cases h⟩
  have f2 := h2;try simp only [bl] at f2
  have h3 := or3_f h2
  simp only [Bool.and_eq_true, decide_eq_true_eq, beq_iff_eq] at h3
  obtain ⟨h31, h32, h33⟩ := h3
  obtain ⟨hE4, hk25⟩ := run_sign hRd3.fr hM3 h31 h32 hk h33
  rw [if_neg h33]
  refine kS ?_;iterate 2 refine oV ?_
  refine oF 1 Tryz.underlying101 Tryz.sizeOf3 ?_;refine oL Tryz.isAgg3 ?_
  first | (refine o_add trivial rfl rfl rfl ?_ ?_; (omega)) | refine oV ?_
  refine oV ?_;refine oF 1 Tryz.underlying101 Tryz.sizeOf3 ?_;refine oS Tryz.sizeOf3 ?_;refine nS ?_;refine oV ?_;refine oF 1 Tryz.underlying204 Tryz.sizeOf3 ?_;refine oL Tryz.isAgg3 ?_;refine oC trivial rfl Tryz.call172 rfl (fold_any b (j2 + 1) vall us2 vi vl vo ua2 (bindK k) n2 K3 hRd3.fr hRd3.ok (by omega) hp1) (by repeat constructor) ?_;rintro _ _ _ hx6 ⟨rfl, rfl, us3, ua3, n3, rfl, hc3, hok3, hn3, hb3⟩;refine nT ?_
  have hK4 := foldK_ok (b := bindK k) (all := n2.map NodeV.c) hRd3.fr
  rw [← hc3] at hE4
  generalize (foldK (bindK k) K3 (n2.map NodeV.c)).1 = K4 at hE4 hK4 hb3 ⊢
  have hst4 := stk_len K4
  refine cR ?_;refine oV ?_;refine oA Tryz.isAgg204 Tryz.sizeOf204 ?_;refine o_ifaceS trivial rfl rfl (fun w => by kernel_rfl) ?_;refine oC trivial rfl Tryz.call173 rfl (push_any b (j2 + 1) vall us3 vi vl vo ua3 (opV k (bindK k) false) 204 (stk K4 ++ [odI (lastN n3)]) (by rw [List.length_append]; show (stk K4).length + 1 ≤ _; omega)) (by repeat constructor) ?_;rintro _ _ _ hx7 ⟨rfl, rfl, us4, rfl⟩;refine oN (blk_n ?_);exact again (j2 + 1, .bin k (lastN n3) :: K4, n3, us4, ua3, I2) (sC rfl sN) (fun _ h => by rw [List.append_assoc] at h; exact h.sort (by repeat constructor)) (by show L.length - (j2 + 1) < L.length - j; omega) ⟨by show j2 + 1 ≤ _; omega, ⟨hk25.1, hk25.2, hK4⟩, hok3, by show n3.length + (K4.length + 1) ≤ j2 + 1; omega, by rw [← lastN_eq] at hE4; exact hE4, hx1.trans hx2 (Nat.le_refl _), by show i ≤ j2 + 1; omega⟩
theorem run_start {all : List NodeC} {r : List Tok} {o q : POut} (h : Ps .sum all r q) (ho : q.then_ o fun a2 r2 => match r2 with
      | y :: r3 => if isT y 2 semiS then o = .ok a2 r3 else o = .bad r2
      | [] => o = .bad []) : RunE [] all r o := by
  cases h with
  | sum_bad h =>
    cases h with
    | product_bad h => exact ⟨_, h, ho⟩
    | product_ok h1 h2 => exact ⟨_, h1, _, h2, ho⟩
  | sum_ok h h3 =>
    cases h with
    | product_ok h1 h2 => exact ⟨_, h1, _, h2, _, h3, ho⟩
theorem let_run {L : List Tok} {all : List NodeC} {i : Nat} {o1 : LO} (h : Lt1 all (L.drop i) o1) (hN : hdN (L.drop i) = true) (hq : hdT (L.drop (i + 1)) 2 equalS = true) :
    ∃ o, RunE [] all (L.drop (i + 2)) o ∧ (∀ r, o = .bad r → o1 = .bad r) ∧ ∀ a r, o = .ok a r → o1 = .ok (tkAt L i).text a r := by
  have h1 := hdN_lt hN
  have h2 := hdT_lt hq
  rw [drop_cons h1, drop_cons h2] at h
  rw [drop_cons h1] at hN
  rw [drop_cons h2] at hq
  cases h with
  | noname h0 => simp only [hdN] at hN h0; rw [hN] at h0; cases h0
  | noeq _ h0 => rw [hq] at h0; cases h0
  | sumbad _ _ h3 => exact ⟨_, run_start h3 rfl, fun r hr => by cases hr; rfl, fun a r hr => by cases hr⟩
  | @nosemi a1 _ _ _ r1 _ _ h3 h4 =>
    refine ⟨.bad r1, run_start h3 ?_, fun r hr => by cases hr; rfl, fun a r hr => by cases hr⟩
    cases r1 with
    | nil => rfl
    | cons y r => show (if _ then _ else _); rw [if_neg (by simp only [hdT] at h4; rw [h4]; decide)]
  | ok _ _ h3 h4 =>
    refine ⟨.ok _ _, run_start h3 ?_, fun r hr => (by cases hr), fun a r hr => by cases hr; rfl⟩
    show (if _ then _ else _)
    rw [if_pos h4]
theorem let_noname {L : List Tok} {all : List NodeC} {i : Nat} {o1 : LO} (h : Lt1 all (L.drop i) o1) (hN : hdN (L.drop i) = false) : o1 = .bad (L.drop i) := by
  generalize L.drop i = r at h hN
  cases h with
  | noname _ => rfl
  | noeq h1 _ => simp only [hdN] at hN; rw [hN] at h1; cases h1
  | sumbad h1 _ _ => simp only [hdN] at hN; rw [hN] at h1; cases h1
  | nosemi h1 _ _ _ => simp only [hdN] at hN; rw [hN] at h1; cases h1
  | ok h1 _ _ _ => simp only [hdN] at hN; rw [hN] at h1; cases h1
theorem let_noeq {L : List Tok} {all : List NodeC} {i : Nat} {o1 : LO} (h : Lt1 all (L.drop i) o1) (hN : hdN (L.drop i) = true) (hq : hdT (L.drop (i + 1)) 2 equalS = false) : o1 = .bad (L.drop (i + 1)) := by
  have h1 := hdN_lt hN
  rw [drop_cons h1] at h hN
  generalize L.drop (i + 1) = r at h hN hq
  cases h with
  | noname h0 => rw [hN] at h0; cases h0
  | noeq _ _ => rfl
  | sumbad _ h0 _ => simp only [hdT] at hq; rw [hq] at h0; cases h0
  | nosemi _ h0 _ _ => simp only [hdT] at hq; rw [hq] at h0; cases h0
  | ok _ h0 _ _ => simp only [hdT] at hq; rw [hq] at h0; cases h0
theorem lts_more (ls : List LetC) (c : LetC) : ((ls ++ [c]).map LetC.cells).flatten = (ls.map LetC.cells).flatten ++ c.cells := by simp
theorem rdLet_any (b i : Nat) (vall vi vl vo va : Value) (ls : List LetC) (ns : List NodeV) (L : List Tok) {I : Hp} (hM : Mx I) (hE : Errs I) (hL : Slc I 4 vall (L.map Tok.cells)) (hn : L.length ≤ 10000) (hs : TkSmall L) (hto : ToksOk L) (hok : ∀ o ∈ ns, o.ok I) (hb : ns.length ≤ i) (hls : ls.length ≤ i) (hi : i ≤ L.length) {o : LO} (h : Lt1 (ns.map NodeV.c) (L.drop i) o) :
    Fun Tryz.prog 105 [.pointer (some ⟨b, 0, none⟩)] I [rdB b vall i (.slice none 0 0) vi vl vo va, ltR vl ls, ndR va ns]
    (fun v I' B' => ∃ ok i' vs' vl' va' ns' ls', v = .bool ok ∧ B' = [rdB b vall i' vs' vi vl' vo va', ltR vl' ls', ndR va' ns'] ∧ i' ≤ L.length ∧ (ok = false → o = .bad (L.drop i')) ∧ (ok = true → ∃ s, o = .ok s (ns'.map NodeV.c) (L.drop i') ∧ vs' = .slice none 0 0 ∧ (∀ o ∈ ns', o.ok I') ∧ ns'.length ≤ i' ∧ ls' = ls ++ [⟨s, lastN ns'⟩] ∧ i < i')) := by
  intro w hw
  refine enter1 _ Tryz.func105 rfl Tryz.ntmps105 rfl ?_ hw;refine sR ?_;refine oV ?_;refine nS ?_;refine oV ?_;refine oC trivial rfl Tryz.call139 rfl (rdName_any b i vall (.slice none 0 0) vi vl vo va L hL (by omega) hs) (by repeat constructor) ?_;rintro _ _ _ hx1 ⟨rfl, rfl, rfl⟩;iterate 5 refine oV ?_
  refine nU ?_;iterate 2 refine oV ?_
  refine o_fork trivial rfl rfl (fun hb12 => ?_) (fun hb12 => ?_)
  ·
   have fb12 := hb12
   try simp only [bl] at fb12
   have hN : hdN (L.drop i) = false := by simpa using hb12
   rw [adv_false hN]
   iterate 3 refine o_skip (skips_some rfl rfl rfl) rfl ?_
   iterate 2 refine oV ?_
   iterate 3 refine o_skip (skips_some rfl rfl rfl) rfl ?_
   refine oV ?_;refine nT ?_;refine c_cond_t rfl rfl ?_;refine sR ?_;refine oV ?_;refine nF ?_;refine ret1 rfl rfl ?_
   first
   | exact fun w' hw' => ⟨I2, [rdB b vall j (.slice none 0 0) vi v38 vo ua, ltR v38 (ls ++ [⟨(tkAt L i).text, lastN n2⟩]), ndR ua n2], (by unfold ltR; rw [lts_more, List.length_append]; exact hw'.sort (by repeat constructor)), hx3, true, j, _, v38, ua, n2, _, rfl, rfl, hj, fun h => (by cases h), fun _ => ⟨_, ho3 _ _ he, rfl, hok2, hb2, rfl, by omega⟩⟩
   | exact fun w' hw' => ⟨I2, [rdB b vall j us vi vl vo ua, ltR vl ls, ndR ua n2], hw'.sort (by repeat constructor), hx3, false, j, _, vl, ua, n2, ls, rfl, rfl, hj, fun _ => ho2 _ (hno hk), fun h => by cases h⟩
   | exact fun w' hw' => ⟨I, [rdB b vall (i + 1) (.slice none 0 0) vi vl vo va, ltR vl ls, ndR va ns], hw'.sort (by repeat constructor), Ext.refl _ _, false, i + 1, _, vl, va, ns, ls, rfl, rfl, hlt, fun _ => let_noeq h hN hq, fun h => by cases h⟩
   | exact fun w' hw' => ⟨I, [rdB b vall i (.slice none 0 0) vi vl vo va, ltR vl ls, ndR va ns], hw'.sort (by repeat constructor), Ext.refl _ _, false, i, _, vl, va, ns, ls, rfl, rfl, hi, fun _ => let_noname h hN, fun h => by cases h⟩
  have fb12 := hb12
  try simp only [bl] at fb12
  have hN : hdN (L.drop i) = true := by simpa using hb12
  rw [adv_true hN]
  have hlt := hdN_lt hN
  refine o_pv (wS rfl rfl rfl) rfl rfl ?_;refine oC (wS rfl rfl rfl) rfl Tryz.call140 rfl (rdMark_any b (i + 1) vall (.slice none 0 0) vi vl vo va equalS L hL (by omega)) (by repeat constructor) ?_;rintro _ _ _ hx2 ⟨rfl, rfl, rfl⟩;refine o_pv (wS rfl rfl rfl) rfl rfl ?_;refine oV ?_;refine o_fork trivial rfl rfl (fun hb17 => ?_) (fun hb17 => ?_)
  ·
   have fb17 := hb17
   try simp only [bl] at fb17
   have hq : hdT (L.drop (i + 1)) 2 equalS = false := by simpa using hb17
   rw [adv_false hq]
   iterate 3 refine o_skip (skips_some rfl rfl rfl) rfl ?_
   refine oV ?_;refine nT ?_;refine c_cond_t rfl rfl ?_;refine sR ?_;refine oV ?_;refine nF ?_;refine ret1 rfl rfl ?_
   first
   | exact fun w' hw' => ⟨I2, [rdB b vall j (.slice none 0 0) vi v38 vo ua, ltR v38 (ls ++ [⟨(tkAt L i).text, lastN n2⟩]), ndR ua n2], (by unfold ltR; rw [lts_more, List.length_append]; exact hw'.sort (by repeat constructor)), hx3, true, j, _, v38, ua, n2, _, rfl, rfl, hj, fun h => (by cases h), fun _ => ⟨_, ho3 _ _ he, rfl, hok2, hb2, rfl, by omega⟩⟩
   | exact fun w' hw' => ⟨I2, [rdB b vall j us vi vl vo ua, ltR vl ls, ndR ua n2], hw'.sort (by repeat constructor), hx3, false, j, _, vl, ua, n2, ls, rfl, rfl, hj, fun _ => ho2 _ (hno hk), fun h => by cases h⟩
   | exact fun w' hw' => ⟨I, [rdB b vall (i + 1) (.slice none 0 0) vi vl vo va, ltR vl ls, ndR va ns], hw'.sort (by repeat constructor), Ext.refl _ _, false, i + 1, _, vl, va, ns, ls, rfl, rfl, hlt, fun _ => let_noeq h hN hq, fun h => by cases h⟩
   | exact fun w' hw' => ⟨I, [rdB b vall i (.slice none 0 0) vi vl vo va, ltR vl ls, ndR va ns], hw'.sort (by repeat constructor), Ext.refl _ _, false, i, _, vl, va, ns, ls, rfl, rfl, hi, fun _ => let_noname h hN, fun h => by cases h⟩
  have fb17 := hb17
  try simp only [bl] at fb17
  have hq : hdT (L.drop (i + 1)) 2 equalS = true := by simpa using hb17
  rw [adv_true hq]
  have hlt2 := hdT_lt hq
  obtain ⟨o2, hr2, ho2, ho3⟩ := let_run h hN hq
  refine o_pv (wS rfl rfl rfl) rfl rfl ?_;refine oC (wS rfl rfl rfl) rfl Tryz.call141 rfl (rdSum_any b (i + 1 + 1) vall vi vl vo va ns L hM hE hL hn hs hto hok (by omega) (by omega) hr2) (by repeat constructor) ?_;rintro _ I2 _ hx3 ⟨ok2, j, us, ua, n2, rfl, rfl, hj, hno, hyes⟩;refine o_pv (wS rfl rfl rfl) rfl rfl ?_;refine oV ?_;refine nT ?_;refine cC rfl (fun h1 => ?_) (fun h1 => ?_)
  ·
   have f1 := h1;try simp only [bl] at f1
   have hk : ok2 = false := by simpa using f1
   refine sR ?_;refine oV ?_;refine nF ?_;refine ret1 rfl rfl ?_
   first
   | exact fun w' hw' => ⟨I2, [rdB b vall j (.slice none 0 0) vi v38 vo ua, ltR v38 (ls ++ [⟨(tkAt L i).text, lastN n2⟩]), ndR ua n2], (by unfold ltR; rw [lts_more, List.length_append]; exact hw'.sort (by repeat constructor)), hx3, true, j, _, v38, ua, n2, _, rfl, rfl, hj, fun h => (by cases h), fun _ => ⟨_, ho3 _ _ he, rfl, hok2, hb2, rfl, by omega⟩⟩
   | exact fun w' hw' => ⟨I2, [rdB b vall j us vi vl vo ua, ltR vl ls, ndR ua n2], hw'.sort (by repeat constructor), hx3, false, j, _, vl, ua, n2, ls, rfl, rfl, hj, fun _ => ho2 _ (hno hk), fun h => by cases h⟩
   | exact fun w' hw' => ⟨I, [rdB b vall (i + 1) (.slice none 0 0) vi vl vo va, ltR vl ls, ndR va ns], hw'.sort (by repeat constructor), Ext.refl _ _, false, i + 1, _, vl, va, ns, ls, rfl, rfl, hlt, fun _ => let_noeq h hN hq, fun h => by cases h⟩
   | exact fun w' hw' => ⟨I, [rdB b vall i (.slice none 0 0) vi vl vo va, ltR vl ls, ndR va ns], hw'.sort (by repeat constructor), Ext.refl _ _, false, i, _, vl, va, ns, ls, rfl, rfl, hi, fun _ => let_noname h hN, fun h => by cases h⟩
  have f1 := h1;try simp only [bl] at f1
  have hk : ok2 = true := by simpa using f1
  obtain ⟨he, rfl, hok2, hb2, hlt3⟩ := hyes hk
  rw [if_pos hN]
  refine cK (tC (cS ?_));refine h_beginB (m := 21) [ndR ua n2] (by repeat constructor) (by kernel_rfl) rfl ?_;refine qT (i := 0) (qB 21 1) (Hp.Le.refl _) rfl rfl (oV qF) ?_;refine qT (i := 1) (qB 21 3) (Hp.Le.refl _) rfl rfl (oV qF) ?_;refine qT (i := 2) (qB 21 7) (Hp.Le.refl _) rfl rfl (oV qF) ?_;refine qT (i := 3) (qB 21 15) (Hp.Le.refl _) rfl rfl (oF 3 Tryz.underlying101 Tryz.sizeOf26 qF) ?_;refine qT (i := 4) (qB 21 31) (Hp.Le.refl _) rfl rfl (oF 1 Tryz.underlying26 Tryz.sizeOf23 qF) ?_;refine qT (i := 6) (qB 21 95) (Hp.Le.refl _) rfl rfl (oV qF) ?_;refine qT (i := 7) (qB 21 223) (Hp.Le.refl _) rfl rfl (oV qF) ?_;refine qT (i := 8) (qB 21 479) (Hp.Le.refl _) rfl rfl (oV qF) ?_;refine qT (i := 9) (qB 21 991) (Hp.Le.refl _) rfl rfl (oF 3 Tryz.underlying101 Tryz.sizeOf26 qF) ?_;refine qT (i := 10) (qB 21 2015) (Hp.Le.refl _) rfl rfl (oF 3 Tryz.underlying26 Tryz.sizeOf24 qF) ?_;refine h_go [5, 11] (by kernel_rfl) rfl (TWHs.cons ?_ (TWHs.cons ?_ TWHs.nil))
  ·
   refine qP (qB 21 2047) rfl ?_;refine oL Tryz.isAgg23 ?_;refine qM (Hp.Le.refl _) ?_;refine qO (i := 11) (qB 21 4095) rfl ?_;refine oL Tryz.isAgg24 ?_;refine qM (Hp.Le.refl _) ?_;refine qT (i := 12) (qB 21 8191) (Hp.Le.refl _) rfl rfl (o_lenRow trivial rfl Tryz.underlying24 rfl (by repeat constructor) qF) ?_;refine' qT (i := 13) (qB 21 16383) (Hp.Le.refl _) rfl rfl ?hh0 ?kk0
   case hh0 =>
    first | (refine o_sub trivial rfl rfl rfl ?_ ?_; (omega)) | refine oV ?_
    exact qF
   refine qT (i := 14) (qB 21 32767) (Hp.Le.refl _) rfl rfl (o_buildS trivial rfl (bld39) rfl (.cons rfl rfl rfl (by repeat constructor) (.cons rfl rfl rfl (by repeat constructor) .nil)) qF) ?_;refine qO (i := 15) (qB 21 65535) rfl ?_;refine oB Tryz.underlying23 Tryz.sizeOf39 Tryz.zeroValue39 fun b37 => ?_;refine qM (Hp.Le.refl _) ?_;refine qO (i := 16) (qB 21 131071) rfl ?_;refine oD Tryz.underlying23 elem39 fun v38 => ?_;refine qM (Hp.Le.refl _) ?_;refine qT (i := 17) (qB 21 262143) (Hp.Le.refl _) rfl rfl (oV qF) ?_;refine qT (i := 18) (qB 21 524287) (Hp.Le.refl _) rfl rfl (oF 3 Tryz.underlying101 Tryz.sizeOf26 qF) ?_;refine qT (i := 19) (qB 21 1048575) (Hp.Le.refl _) rfl rfl (oF 1 Tryz.underlying26 Tryz.sizeOf23 qF) ?_;refine qO (i := 20) (qB 21 2097151) rfl ?_;refine l_rowCells (u := v38) (by repeat constructor) (fun hcv => ?_);refine o_storeBox1 trivial rfl rfl (hcv).1 Tryz.sizeOf23 (hcv).2 (by repeat constructor) (by exact Nat.le_of_ble_eq_true rfl) ?_;refine qM (Hp.Le.refl _) ?_;refine h_end (by kernel_rfl) ?_;refine tC (sR ?_);refine oV ?_;refine nE ?_;refine ret1 rfl rfl ?_
   first
   | exact fun w' hw' => ⟨I2, [rdB b vall j (.slice none 0 0) vi v38 vo ua, ltR v38 (ls ++ [⟨(tkAt L i).text, lastN n2⟩]), ndR ua n2], (by unfold ltR; rw [lts_more, List.length_append]; exact hw'.sort (by repeat constructor)), hx3, true, j, _, v38, ua, n2, _, rfl, rfl, hj, fun h => (by cases h), fun _ => ⟨_, ho3 _ _ he, rfl, hok2, hb2, rfl, by omega⟩⟩
   | exact fun w' hw' => ⟨I2, [rdB b vall j us vi vl vo ua, ltR vl ls, ndR ua n2], hw'.sort (by repeat constructor), hx3, false, j, _, vl, ua, n2, ls, rfl, rfl, hj, fun _ => ho2 _ (hno hk), fun h => by cases h⟩
   | exact fun w' hw' => ⟨I, [rdB b vall (i + 1) (.slice none 0 0) vi vl vo va, ltR vl ls, ndR va ns], hw'.sort (by repeat constructor), Ext.refl _ _, false, i + 1, _, vl, va, ns, ls, rfl, rfl, hlt, fun _ => let_noeq h hN hq, fun h => by cases h⟩
   | exact fun w' hw' => ⟨I, [rdB b vall i (.slice none 0 0) vi vl vo va, ltR vl ls, ndR va ns], hw'.sort (by repeat constructor), Ext.refl _ _, false, i, _, vl, va, ns, ls, rfl, rfl, hi, fun _ => let_noname h hN, fun h => by cases h⟩
  refine qP (qB 21 4063) rfl ?_;refine oL Tryz.isAgg24 ?_;refine qM (Hp.Le.refl _) ?_;refine qT (i := 12) (qB 21 8159) (Hp.Le.refl _) rfl rfl (o_lenRow trivial rfl Tryz.underlying24 rfl (by repeat constructor) qF) ?_;refine' qT (i := 13) (qB 21 16351) (Hp.Le.refl _) rfl rfl ?hh1 ?kk1
  case hh1 =>
   first | (refine o_sub trivial rfl rfl rfl ?_ ?_; (omega)) | refine oV ?_
   exact qF
  refine qT (i := 14) (qB 21 32735) (Hp.Le.refl _) rfl rfl (o_buildS trivial rfl (bld39) rfl (.cons rfl rfl rfl (by repeat constructor) (.cons rfl rfl rfl (by repeat constructor) .nil)) qF) ?_;refine h_go [5, 15] (by kernel_rfl) rfl (TWHs.cons ?_ (TWHs.cons ?_ TWHs.nil))
  ·
   refine qP (qB 21 32767) rfl ?_;refine oL Tryz.isAgg23 ?_;refine qM (Hp.Le.refl _) ?_;refine qO (i := 15) (qB 21 65535) rfl ?_;refine oB Tryz.underlying23 Tryz.sizeOf39 Tryz.zeroValue39 fun b37 => ?_;refine qM (Hp.Le.refl _) ?_;refine qO (i := 16) (qB 21 131071) rfl ?_;refine oD Tryz.underlying23 elem39 fun v38 => ?_;refine qM (Hp.Le.refl _) ?_;refine qT (i := 17) (qB 21 262143) (Hp.Le.refl _) rfl rfl (oV qF) ?_;refine qT (i := 18) (qB 21 524287) (Hp.Le.refl _) rfl rfl (oF 3 Tryz.underlying101 Tryz.sizeOf26 qF) ?_;refine qT (i := 19) (qB 21 1048575) (Hp.Le.refl _) rfl rfl (oF 1 Tryz.underlying26 Tryz.sizeOf23 qF) ?_;refine qO (i := 20) (qB 21 2097151) rfl ?_;refine l_rowCells (u := v38) (by repeat constructor) (fun hcv => ?_);refine o_storeBox1 trivial rfl rfl (hcv).1 Tryz.sizeOf23 (hcv).2 (by repeat constructor) (by exact Nat.le_of_ble_eq_true rfl) ?_;refine qM (Hp.Le.refl _) ?_;refine h_end (by kernel_rfl) ?_;refine tC (sR ?_);refine oV ?_;refine nE ?_;refine ret1 rfl rfl ?_
   first
   | exact fun w' hw' => ⟨I2, [rdB b vall j (.slice none 0 0) vi v38 vo ua, ltR v38 (ls ++ [⟨(tkAt L i).text, lastN n2⟩]), ndR ua n2], (by unfold ltR; rw [lts_more, List.length_append]; exact hw'.sort (by repeat constructor)), hx3, true, j, _, v38, ua, n2, _, rfl, rfl, hj, fun h => (by cases h), fun _ => ⟨_, ho3 _ _ he, rfl, hok2, hb2, rfl, by omega⟩⟩
   | exact fun w' hw' => ⟨I2, [rdB b vall j us vi vl vo ua, ltR vl ls, ndR ua n2], hw'.sort (by repeat constructor), hx3, false, j, _, vl, ua, n2, ls, rfl, rfl, hj, fun _ => ho2 _ (hno hk), fun h => by cases h⟩
   | exact fun w' hw' => ⟨I, [rdB b vall (i + 1) (.slice none 0 0) vi vl vo va, ltR vl ls, ndR va ns], hw'.sort (by repeat constructor), Ext.refl _ _, false, i + 1, _, vl, va, ns, ls, rfl, rfl, hlt, fun _ => let_noeq h hN hq, fun h => by cases h⟩
   | exact fun w' hw' => ⟨I, [rdB b vall i (.slice none 0 0) vi vl vo va, ltR vl ls, ndR va ns], hw'.sort (by repeat constructor), Ext.refl _ _, false, i, _, vl, va, ns, ls, rfl, rfl, hi, fun _ => let_noname h hN, fun h => by cases h⟩
  refine qP (qB 21 65503) rfl ?_;refine oB Tryz.underlying23 Tryz.sizeOf39 Tryz.zeroValue39 fun b37 => ?_;refine qM (Hp.Le.refl _) ?_;refine qO (i := 5) (qB 21 65535) rfl ?_;refine oL Tryz.isAgg23 ?_;refine qM (Hp.Le.refl _) ?_;refine qO (i := 16) (qB 21 131071) rfl ?_;refine oD Tryz.underlying23 elem39 fun v38 => ?_;refine qM (Hp.Le.refl _) ?_;refine qT (i := 17) (qB 21 262143) (Hp.Le.refl _) rfl rfl (oV qF) ?_;refine qT (i := 18) (qB 21 524287) (Hp.Le.refl _) rfl rfl (oF 3 Tryz.underlying101 Tryz.sizeOf26 qF) ?_;refine qT (i := 19) (qB 21 1048575) (Hp.Le.refl _) rfl rfl (oF 1 Tryz.underlying26 Tryz.sizeOf23 qF) ?_;refine qO (i := 20) (qB 21 2097151) rfl ?_;refine l_rowCells (u := v38) (by repeat constructor) (fun hcv => ?_);refine o_storeBox1 trivial rfl rfl (hcv).1 Tryz.sizeOf23 (hcv).2 (by repeat constructor) (by exact Nat.le_of_ble_eq_true rfl) ?_;refine qM (Hp.Le.refl _) ?_;refine h_end (by kernel_rfl) ?_;refine tC (sR ?_);refine oV ?_;refine nE ?_;refine ret1 rfl rfl ?_
  first
  | exact fun w' hw' => ⟨I2, [rdB b vall j (.slice none 0 0) vi v38 vo ua, ltR v38 (ls ++ [⟨(tkAt L i).text, lastN n2⟩]), ndR ua n2], (by unfold ltR; rw [lts_more, List.length_append]; exact hw'.sort (by repeat constructor)), hx3, true, j, _, v38, ua, n2, _, rfl, rfl, hj, fun h => (by cases h), fun _ => ⟨_, ho3 _ _ he, rfl, hok2, hb2, rfl, by omega⟩⟩
  | exact fun w' hw' => ⟨I2, [rdB b vall j us vi vl vo ua, ltR vl ls, ndR ua n2], hw'.sort (by repeat constructor), hx3, false, j, _, vl, ua, n2, ls, rfl, rfl, hj, fun _ => ho2 _ (hno hk), fun h => by cases h⟩
  | exact fun w' hw' => ⟨I, [rdB b vall (i + 1) (.slice none 0 0) vi vl vo va, ltR vl ls, ndR va ns], hw'.sort (by repeat constructor), Ext.refl _ _, false, i + 1, _, vl, va, ns, ls, rfl, rfl, hlt, fun _ => let_noeq h hN hq, fun h => by cases h⟩
  | exact fun w' hw' => ⟨I, [rdB b vall i (.slice none 0 0) vi vl vo va, ltR vl ls, ndR va ns], hw'.sort (by repeat constructor), Ext.refl _ _, false, i, _, vl, va, ns, ls, rfl, rfl, hi, fun _ => let_noname h hN, fun h => by cases h⟩
def PrgTail (ins : List ByteArray) (o : PO) (ls : List LetC) (all : List NodeC) (r2 : List Tok) : Prop :=
  (hdT r2 0 outS = false → o = .bad r2) ∧ (hdT r2 0 outS = true → (∀ r3, namesZ (r2.drop 1) = .bad r3 → o = .bad r3) ∧ (∀ outs r3, namesZ (r2.drop 1) = .ok outs r3 → (r3 = [] → o = .ok ⟨ins, ls, outs, all⟩) ∧ (r3 ≠ [] → o = .bad r3)))
theorem prg_parts {r : List Tok} {o : PO} (h : Prg r o) : (hdT r 0 inS = false → o = .bad r) ∧ (hdT r 0 inS = true → (∀ r1, namesZ (r.drop 1) = .bad r1 → o = .bad r1) ∧ ∀ ins r1, namesZ (r.drop 1) = .ok ins r1 → ∃ oL, Lts [] [] r1 oL ∧ (∀ r2, oL = .bad r2 → o = .bad r2) ∧ ∀ ls all r2, oL = .ok ls all r2 → PrgTail ins o ls all r2) := by
  cases h with
  | noin h0 => exact ⟨fun _ => rfl, fun h => by rw [h0] at h; cases h⟩
  | insbad h0 h1 =>
    refine ⟨fun h => (by simp only [hdT] at h; rw [h0] at h; cases h), fun _ => ⟨fun r1 hr => (by simp only [List.drop_one, List.tail_cons] at hr; rw [h1] at hr; cases hr; rfl), fun ins r1 hr => by simp only [List.drop_one, List.tail_cons] at hr; rw [h1] at hr; cases hr⟩⟩
  | letsbad h0 h1 h2 =>
    refine ⟨fun h => (by simp only [hdT] at h; rw [h0] at h; cases h), fun _ => ⟨fun r1 hr => (by simp only [List.drop_one, List.tail_cons] at hr; rw [h1] at hr; cases hr), fun ins r1 hr => ?_⟩⟩
    simp only [List.drop_one, List.tail_cons] at hr; rw [h1] at hr; cases hr
    exact ⟨_, h2, fun r2 hr => (by cases hr; rfl), fun ls all r2 hr => by cases hr⟩
  | noout h0 h1 h2 h3 =>
    refine ⟨fun h => (by simp only [hdT] at h; rw [h0] at h; cases h), fun _ => ⟨fun r1 hr => (by simp only [List.drop_one, List.tail_cons] at hr; rw [h1] at hr; cases hr), fun ins r1 hr => ?_⟩⟩
    simp only [List.drop_one, List.tail_cons] at hr; rw [h1] at hr; cases hr
    refine ⟨_, h2, fun r2 hr => (by cases hr), fun ls all r2 hr => ?_⟩
    cases hr
    exact ⟨fun _ => rfl, fun h => by rw [h3] at h; cases h⟩
  | outsbad h0 h1 h2 h3 h4 =>
    refine ⟨fun h => (by simp only [hdT] at h; rw [h0] at h; cases h), fun _ => ⟨fun r1 hr => (by simp only [List.drop_one, List.tail_cons] at hr; rw [h1] at hr; cases hr), fun ins r1 hr => ?_⟩⟩
    simp only [List.drop_one, List.tail_cons] at hr; rw [h1] at hr; cases hr
    refine ⟨_, h2, fun r2 hr => (by cases hr), fun ls all r2 hr => ?_⟩
    cases hr
    refine ⟨fun h => (by simp only [hdT] at h; rw [h3] at h; cases h), fun _ => ⟨fun r3 hr => ?_, fun outs r3 hr => ?_⟩⟩
    · simp only [List.drop_one, List.tail_cons] at hr; rw [h4] at hr; cases hr; rfl
    · simp only [List.drop_one, List.tail_cons] at hr; rw [h4] at hr; cases hr
  | tail h0 h1 h2 h3 h4 =>
    refine ⟨fun h => (by simp only [hdT] at h; rw [h0] at h; cases h), fun _ => ⟨fun r1 hr => (by simp only [List.drop_one, List.tail_cons] at hr; rw [h1] at hr; cases hr), fun ins r1 hr => ?_⟩⟩
    simp only [List.drop_one, List.tail_cons] at hr; rw [h1] at hr; cases hr
    refine ⟨_, h2, fun r2 hr => (by cases hr), fun ls all r2 hr => ?_⟩
    cases hr
    refine ⟨fun h => (by simp only [hdT] at h; rw [h3] at h; cases h), fun _ => ⟨fun r3 hr => ?_, fun outs r3 hr => ?_⟩⟩
    · simp only [List.drop_one, List.tail_cons] at hr; rw [h4] at hr; cases hr
    · simp only [List.drop_one, List.tail_cons] at hr; rw [h4] at hr; cases hr
      exact ⟨fun h => (by cases h), fun _ => rfl⟩
  | ok h0 h1 h2 h3 h4 =>
    refine ⟨fun h => (by simp only [hdT] at h; rw [h0] at h; cases h), fun _ => ⟨fun r1 hr => (by simp only [List.drop_one, List.tail_cons] at hr; rw [h1] at hr; cases hr), fun ins r1 hr => ?_⟩⟩
    simp only [List.drop_one, List.tail_cons] at hr; rw [h1] at hr; cases hr
    refine ⟨_, h2, fun r2 hr => (by cases hr), fun ls all r2 hr => ?_⟩
    cases hr
    refine ⟨fun h => (by simp only [hdT] at h; rw [h3] at h; cases h), fun _ => ⟨fun r3 hr => ?_, fun outs r3 hr => ?_⟩⟩
    · simp only [List.drop_one, List.tail_cons] at hr; rw [h4] at hr; cases hr
    · simp only [List.drop_one, List.tail_cons] at hr; rw [h4] at hr; cases hr
      exact ⟨fun _ => rfl, fun h => absurd rfl h⟩
theorem lts_parts {ls : List LetC} {all : List NodeC} {r : List Tok} {oL : LSO} (h : Lts ls all r oL) : (hdT r 0 letS = false → oL = .ok ls all r) ∧ (hdT r 0 letS = true → ∃ o1, Lt1 all (r.drop 1) o1 ∧ (∀ r1, o1 = .bad r1 → oL = .bad r1) ∧ ∀ n a1 r1, o1 = .ok n a1 r1 → Lts (ls ++ [⟨n, lastI a1⟩]) a1 r1 oL) := by
  cases h with
  | fin h0 => exact ⟨fun _ => rfl, fun h => by rw [h0] at h; cases h⟩
  | bad h0 h1 => exact ⟨fun h => (by simp only [hdT] at h; rw [h0] at h; cases h), fun _ => ⟨_, h1, fun r1 hr => (by cases hr; rfl), fun n a1 r1 hr => by cases hr⟩⟩
  | more h0 h1 h2 => exact ⟨fun h => (by simp only [hdT] at h; rw [h0] at h; cases h), fun _ => ⟨_, h1, fun r1 hr => (by cases hr), fun n a1 r1 hr => by cases hr; exact h2⟩⟩
theorem nm_bad {L : List Tok} {i' : Nat} {ok : Bool} {l : List ByteArray} {o : NOut} (h : NmRes L i' ok l o) (hk : ok = false) : o = .bad (L.drop i') := by
  cases o with
  | bad r => rw [h.2.1]
  | ok m r => rw [h.1] at hk; cases hk
theorem nm_good {L : List Tok} {i' : Nat} {ok : Bool} {l : List ByteArray} {o : NOut} (h : NmRes L i' ok l o) (hk : ok = true) : o = .ok l (L.drop i') := by
  cases o with
  | bad r => rw [h.1] at hk; cases hk
  | ok m r => rw [h.2.1, h.2.2.1]
theorem nm_le {L : List Tok} {i' : Nat} {ok : Bool} {l : List ByteArray} {o : NOut} (h : NmRes L i' ok l o) : i' ≤ L.length := by
  cases o with
  | bad r => exact h.2.2
  | ok m r => exact h.2.2.2
abbrev N0 : Value := .slice none 0 0
theorem rdProgram_any (b : Nat) (vall : Value) (L : List Tok) {I : Hp} (hM : Mx I) (hE : Errs I) (hL : Slc I 4 vall (L.map Tok.cells)) (hn : L.length ≤ 10000) (hs : TkSmall L) (hto : ToksOk L) {o : PO} (h : Prg L o) :
    Fun Tryz.prog 58 [.pointer (some ⟨b, 0, none⟩)] I [rdB b vall 0 N0 N0 N0 N0 N0]
    (fun v I' B' => ∃ ok i' vs' vi' vl' vo' va' wi wl wo wa ins ls outs ns, v = .bool ok ∧ B' = [rdB b vall i' vs' vi' vl' vo' va', nmR wi ins, ltR wl ls, nmR wo outs, ndR wa ns] ∧ i' ≤ L.length ∧ (ok = false → o = .bad (L.drop i')) ∧ (ok = true → wi = vi' ∧ wl = vl' ∧ wo = vo' ∧ wa = va' ∧ (∀ o ∈ ns, o.ok I') ∧ o = .ok ⟨ins, ls, outs, ns.map NodeV.c⟩ ∧ ins.length ≤ 10000 ∧ ls.length ≤ 10000 ∧ outs.length ≤ 10000 ∧ ns.length ≤ 10000)) := by
  have hP := prg_parts h
  rw [← List.drop_zero (l := L)] at hP
  intro w hw
  refine enter1 _ Tryz.func58 rfl Tryz.ntmps58 rfl ?_ hw;refine sR ?_;refine oV ?_;refine nS ?_;refine oV ?_;refine nU ?_;refine oV ?_;refine oC trivial rfl Tryz.call103 rfl (rdKey_any b 0 vall N0 N0 N0 N0 N0 inS L hL (by omega)) (by repeat constructor) ?_;rintro _ _ _ hx1 ⟨rfl, rfl, rfl⟩;refine oV ?_;refine nT ?_;refine cC rfl (fun h1 => ?_) (fun h1 => ?_)
  ·
   have f1 := h1;try simp only [bl] at f1
   have hm : hdT (L.drop 0) 0 inS = false := by simpa using f1
   rw [adv_false hm]
   have hfin := hP.1 hm
   refine sR ?_;refine oV ?_;refine nF ?_;refine ret1 rfl rfl ?_
   first
   | exact fun w' hw' => ⟨I, [rdB b vall 0 N0 N0 N0 N0 N0, nmR N0 [], ltR N0 [], nmR N0 [], ndR N0 []], ((((hw'.nilRow 9 1).nilRow 39 2).nilRow 9 1).nilRow 37 8).sort (by repeat constructor), Ext.refl _ _, false, 0, _, _, _, _, _, _, _, _, _, _, _, _, _, rfl, rfl, Nat.zero_le _, fun _ => hfin, fun h => by cases h⟩
   | exact fun w' hw' => ⟨I, [rdB b vall j1 N0 u1 N0 N0 N0, nmR N0 [], ltR N0 [], nmR N0 [], ndR N0 []], ((((hw'.nilRow 9 1).nilRow 39 2).nilRow 9 1).nilRow 37 8).sort (by repeat constructor), Ext.refl _ _, false, j1, _, _, _, _, _, _, _, _, _, _, _, _, _, rfl, rfl, hj1, fun _ => hfin, fun h => by cases h⟩
   | exact fun w' hw' => ⟨I2, [rdB b vall j2 us2 u1' ul2 N0 ua2, nmR N0 [], ltR N0 [], nmR N0 [], ndR N0 []], ((((hw'.nilRow 9 1).nilRow 39 2).nilRow 9 1).nilRow 37 8).sort (by repeat constructor), hx3.trans hx5 (Nat.le_refl _), false, j2, _, _, _, _, _, _, _, _, _, _, _, _, _, rfl, rfl, hj2, fun _ => hfin, fun h => by cases h⟩
   | exact fun w' hw' => ⟨I1, [rdB b vall j N0 u1' ul N0 ua, nmR N0 [], ltR N0 [], nmR N0 [], ndR N0 []], ((((hw'.nilRow 9 1).nilRow 39 2).nilRow 9 1).nilRow 37 8).sort (by repeat constructor), hx3, false, j, _, _, _, _, _, _, _, _, _, _, _, _, _, rfl, rfl, hj, fun _ => hfin, fun h => by cases h⟩
   | (refine fun w' hw' => ⟨I1, [rdB b vall j3 N0 u1' ul u3 ua, nmR u1' l1, ltR ul ls, nmR u3' l3, ndR ua n0], hw'.sort (by repeat constructor), hx3, _, j3, _, _, _, _, _, u1', ul, u3', ua, l1, ls, l3, n0, rfl, rfl, nm_le hres3, ?_, ?_⟩
      · intro hk
        cases ok3 with
        | false => exact hT1 _ (nm_bad hres3 rfl)
        | true =>
          refine (hT2 _ _ (nm_good hres3 rfl)).2 ?_
          have := nm_le hres3
          simp at hk
          intro e
          rw [List.drop_eq_nil_iff] at e
          omega
      · intro hk
        cases ok3 with
        | false => cases hk
        | true =>
          obtain ⟨rfl, hl3⟩ := hu3 rfl
          refine ⟨rfl, rfl, rfl, rfl, hok0, (hT2 _ _ (nm_good hres3 rfl)).1 ?_, by omega, by omega, by omega, by omega⟩
          simp at hk
          exact List.drop_eq_nil_of_le (by omega))
  have f1 := h1;try simp only [bl] at f1
  have hm : hdT (L.drop 0) 0 inS = true := by simpa using f1
  rw [adv_true hm]
  have hlt := hdT_lt hm
  have hP2 := hP.2 hm
  rw [List.drop_drop] at hP2
  refine cK (tC (cS (sR ?_)));iterate 2 refine oV ?_
  refine oC trivial rfl Tryz.call104 rfl (rdNames_any b (0 + 1) vall N0 N0 N0 N0 N0 L hL hn hs (by omega)) (by repeat constructor) ?_;rintro _ _ _ hx2 ⟨rfl, u1, ok1, j1, u1', l1, rfl, rfl, hres, hu, hcell⟩;iterate 4 refine oV ?_
  refine oF 3 Tryz.underlying101 Tryz.sizeOf26 ?_;refine oF 0 Tryz.underlying26 Tryz.sizeOf22 ?_;refine o_storeBox1 trivial rfl rfl (hcell).1 Tryz.sizeOf22 (hcell).2 (by repeat constructor) (by exact Nat.le_of_ble_eq_true rfl) ?_;refine oV ?_;refine oN (tC (cS ?_))
  have hj1 := nm_le hres
  refine cR ?_;iterate 2 refine oV ?_
  refine nT ?_;refine cC rfl (fun h2 => ?_) (fun h2 => ?_)
  ·
   have f2 := h2;try simp only [bl] at f2
   have hk : ok1 = false := by simpa using f2
   have hfin := hP2.1 _ (nm_bad hres hk)
   refine sR ?_;refine oV ?_;refine nF ?_;refine ret1 rfl rfl ?_
   first
   | exact fun w' hw' => ⟨I, [rdB b vall 0 N0 N0 N0 N0 N0, nmR N0 [], ltR N0 [], nmR N0 [], ndR N0 []], ((((hw'.nilRow 9 1).nilRow 39 2).nilRow 9 1).nilRow 37 8).sort (by repeat constructor), Ext.refl _ _, false, 0, _, _, _, _, _, _, _, _, _, _, _, _, _, rfl, rfl, Nat.zero_le _, fun _ => hfin, fun h => by cases h⟩
   | exact fun w' hw' => ⟨I, [rdB b vall j1 N0 u1 N0 N0 N0, nmR N0 [], ltR N0 [], nmR N0 [], ndR N0 []], ((((hw'.nilRow 9 1).nilRow 39 2).nilRow 9 1).nilRow 37 8).sort (by repeat constructor), Ext.refl _ _, false, j1, _, _, _, _, _, _, _, _, _, _, _, _, _, rfl, rfl, hj1, fun _ => hfin, fun h => by cases h⟩
   | exact fun w' hw' => ⟨I2, [rdB b vall j2 us2 u1' ul2 N0 ua2, nmR N0 [], ltR N0 [], nmR N0 [], ndR N0 []], ((((hw'.nilRow 9 1).nilRow 39 2).nilRow 9 1).nilRow 37 8).sort (by repeat constructor), hx3.trans hx5 (Nat.le_refl _), false, j2, _, _, _, _, _, _, _, _, _, _, _, _, _, rfl, rfl, hj2, fun _ => hfin, fun h => by cases h⟩
   | exact fun w' hw' => ⟨I1, [rdB b vall j N0 u1' ul N0 ua, nmR N0 [], ltR N0 [], nmR N0 [], ndR N0 []], ((((hw'.nilRow 9 1).nilRow 39 2).nilRow 9 1).nilRow 37 8).sort (by repeat constructor), hx3, false, j, _, _, _, _, _, _, _, _, _, _, _, _, _, rfl, rfl, hj, fun _ => hfin, fun h => by cases h⟩
   | (refine fun w' hw' => ⟨I1, [rdB b vall j3 N0 u1' ul u3 ua, nmR u1' l1, ltR ul ls, nmR u3' l3, ndR ua n0], hw'.sort (by repeat constructor), hx3, _, j3, _, _, _, _, _, u1', ul, u3', ua, l1, ls, l3, n0, rfl, rfl, nm_le hres3, ?_, ?_⟩
      · intro hk
        cases ok3 with
        | false => exact hT1 _ (nm_bad hres3 rfl)
        | true =>
          refine (hT2 _ _ (nm_good hres3 rfl)).2 ?_
          have := nm_le hres3
          simp at hk
          intro e
          rw [List.drop_eq_nil_iff] at e
          omega
      · intro hk
        cases ok3 with
        | false => cases hk
        | true =>
          obtain ⟨rfl, hl3⟩ := hu3 rfl
          refine ⟨rfl, rfl, rfl, rfl, hok0, (hT2 _ _ (nm_good hres3 rfl)).1 ?_, by omega, by omega, by omega, by omega⟩
          simp at hk
          exact List.drop_eq_nil_of_le (by omega))
  have f2 := h2;try simp only [bl] at f2
  have hk : ok1 = true := by simpa using f2
  obtain ⟨rfl, hl1⟩ := hu hk
  obtain ⟨oL, hLt, hbadL, hokL⟩ := hP2.2 _ _ (nm_good hres hk)
  refine cK (tC (cS (cB ?_)));refine c_loop (ι := Nat × List LetC × List NodeV × Value × Value × Hp) [0] (.cons rfl .nil) (fun x => L.length - x.1) (fun x E0 => E0) (fun x => St w (keysOf [rdB b vall 0 N0 N0 N0 N0 N0]) x.2.2.2.2.2 [rdB b vall x.1 N0 u1' x.2.2.2.1 N0 x.2.2.2.2.1, nmR u1' l1, ltR x.2.2.2.1 x.2.1, ndR x.2.2.2.2.1 x.2.2.1]) (fun x => x.1 ≤ L.length ∧ x.2.1.length ≤ x.1 ∧ x.2.2.1.length ≤ x.1 ∧ (∀ o ∈ x.2.2.1, o.ok x.2.2.2.2.2) ∧ Lts x.2.1 (x.2.2.1.map NodeV.c) (L.drop x.1) oL ∧ Ext w.heap.size I x.2.2.2.2.2) ((j1, [], [], N0, N0, I)) (sC rfl sN) (fun _ h => ((h.nilRow 39 2).nilRow 37 8).sort (by repeat constructor)) (⟨hj1, Nat.zero_le _, Nat.zero_le _, fun o ho => (by cases ho), hLt, Ext.refl _ _⟩) ?_;rintro ⟨j, ls, n0, ul, ua, I1⟩ ⟨hj, hls0, hn0, hok0, hr, hx3⟩
  try dsimp only
  simp only at hj hls0 hn0 hok0 hr hx3; have hlp := lts_parts hr
  refine cS (sR ?_);refine oV ?_;refine oC trivial rfl Tryz.call103 rfl (rdKey_any b j vall N0 u1' ul N0 ua letS L (hL.le hx3.le) (by omega)) (by repeat constructor) ?_;rintro _ _ _ hx4 ⟨rfl, rfl, rfl⟩;refine nT ?_;refine cC rfl (fun h3 => ?_) (fun h3 => ?_)
  ·
   have f3 := h3;try simp only [bl] at f3
   have hm3 : hdT (L.drop j) 0 letS = true := h3
   rw [adv_true hm3]
   have hlt3 := hdT_lt hm3
   obtain ⟨o1, hL1, hb1, hg1⟩ := hlp.2 hm3
   rw [List.drop_drop] at hL1
   refine cK (tC (cB (sR ?_)));refine oV ?_;refine oC trivial rfl Tryz.call105 rfl (rdLet_any b (j + 1) vall u1' ul N0 ua ls n0 L (hM.le hx3.le) (hE.le hx3.le) (hL.le hx3.le) hn hs hto hok0 (by omega) (by omega) (by omega) hL1) (by repeat constructor) ?_;rintro _ I2 _ hx5 ⟨ok2, j2, us2, ul2, ua2, n2, ls2, rfl, rfl, hj2, hno2, hyes2⟩;refine oV ?_;refine nT ?_;refine cC rfl (fun h4 => ?_) (fun h4 => ?_)
   ·
    have f4 := h4;try simp only [bl] at f4
    have hk4 : ok2 = false := by simpa using f4
    have hfin := hbadL _ (hb1 _ (hno2 hk4))
    refine sR ?_;refine oV ?_;refine oN (tC (cT (blk_r (tR (blk_r (tR ?_))))));refine ret1 rfl rfl ?_
    first
    | exact fun w' hw' => ⟨I, [rdB b vall 0 N0 N0 N0 N0 N0, nmR N0 [], ltR N0 [], nmR N0 [], ndR N0 []], ((((hw'.nilRow 9 1).nilRow 39 2).nilRow 9 1).nilRow 37 8).sort (by repeat constructor), Ext.refl _ _, false, 0, _, _, _, _, _, _, _, _, _, _, _, _, _, rfl, rfl, Nat.zero_le _, fun _ => hfin, fun h => by cases h⟩
    | exact fun w' hw' => ⟨I, [rdB b vall j1 N0 u1 N0 N0 N0, nmR N0 [], ltR N0 [], nmR N0 [], ndR N0 []], ((((hw'.nilRow 9 1).nilRow 39 2).nilRow 9 1).nilRow 37 8).sort (by repeat constructor), Ext.refl _ _, false, j1, _, _, _, _, _, _, _, _, _, _, _, _, _, rfl, rfl, hj1, fun _ => hfin, fun h => by cases h⟩
    | exact fun w' hw' => ⟨I2, [rdB b vall j2 us2 u1' ul2 N0 ua2, nmR N0 [], ltR N0 [], nmR N0 [], ndR N0 []], ((((hw'.nilRow 9 1).nilRow 39 2).nilRow 9 1).nilRow 37 8).sort (by repeat constructor), hx3.trans hx5 (Nat.le_refl _), false, j2, _, _, _, _, _, _, _, _, _, _, _, _, _, rfl, rfl, hj2, fun _ => hfin, fun h => by cases h⟩
    | exact fun w' hw' => ⟨I1, [rdB b vall j N0 u1' ul N0 ua, nmR N0 [], ltR N0 [], nmR N0 [], ndR N0 []], ((((hw'.nilRow 9 1).nilRow 39 2).nilRow 9 1).nilRow 37 8).sort (by repeat constructor), hx3, false, j, _, _, _, _, _, _, _, _, _, _, _, _, _, rfl, rfl, hj, fun _ => hfin, fun h => by cases h⟩
    | (refine fun w' hw' => ⟨I1, [rdB b vall j3 N0 u1' ul u3 ua, nmR u1' l1, ltR ul ls, nmR u3' l3, ndR ua n0], hw'.sort (by repeat constructor), hx3, _, j3, _, _, _, _, _, u1', ul, u3', ua, l1, ls, l3, n0, rfl, rfl, nm_le hres3, ?_, ?_⟩
       · intro hk
         cases ok3 with
         | false => exact hT1 _ (nm_bad hres3 rfl)
         | true =>
           refine (hT2 _ _ (nm_good hres3 rfl)).2 ?_
           have := nm_le hres3
           simp at hk
           intro e
           rw [List.drop_eq_nil_iff] at e
           omega
       · intro hk
         cases ok3 with
         | false => cases hk
         | true =>
           obtain ⟨rfl, hl3⟩ := hu3 rfl
           refine ⟨rfl, rfl, rfl, rfl, hok0, (hT2 _ _ (nm_good hres3 rfl)).1 ?_, by omega, by omega, by omega, by omega⟩
           simp at hk
           exact List.drop_eq_nil_of_le (by omega))
   have f4 := h4;try simp only [bl] at f4
   have hk4 : ok2 = true := by simpa using f4
   obtain ⟨s, he, rfl, hok2, hn2, rfl, hlt4⟩ := hyes2 hk4
   refine cK (blk_n ?_);exact again (j2, ls ++ [⟨s, lastN n2⟩], n2, ul2, ua2, I2) (sC rfl sN) (fun _ h => h.sort (by repeat constructor)) (by show L.length - j2 < L.length - j; omega) ⟨hj2, by rw [List.length_append]; show ls.length + 1 ≤ j2; omega, hn2, hok2, by rw [lastN_eq]; exact hg1 _ _ _ he, hx3.trans hx5 (Nat.le_refl _)⟩
  have f3 := h3;try simp only [bl] at f3
  have hm3 : hdT (L.drop j) 0 letS = false := h3
  rw [adv_false hm3]
  have hT := hokL _ _ _ (hlp.1 hm3)
  refine c_exit (then_x (then_x (blk_eq rfl (tC (cS (sR ?_))))));refine oV ?_;refine oC trivial rfl Tryz.call103 rfl (rdKey_any b j vall N0 u1' ul N0 ua outS L (hL.le hx3.le) (by omega)) (by repeat constructor) ?_;rintro _ _ _ hx5 ⟨rfl, rfl, rfl⟩;refine oV ?_;refine nT ?_;refine cC rfl (fun h5 => ?_) (fun h5 => ?_)
  ·
   have f5 := h5;try simp only [bl] at f5
   have hm5 : hdT (L.drop j) 0 outS = false := by simpa using f5
   rw [adv_false hm5]
   have hfin := hT.1 hm5
   refine sR ?_;refine oV ?_;refine nF ?_;refine ret1 rfl rfl ?_
   first
   | exact fun w' hw' => ⟨I, [rdB b vall 0 N0 N0 N0 N0 N0, nmR N0 [], ltR N0 [], nmR N0 [], ndR N0 []], ((((hw'.nilRow 9 1).nilRow 39 2).nilRow 9 1).nilRow 37 8).sort (by repeat constructor), Ext.refl _ _, false, 0, _, _, _, _, _, _, _, _, _, _, _, _, _, rfl, rfl, Nat.zero_le _, fun _ => hfin, fun h => by cases h⟩
   | exact fun w' hw' => ⟨I, [rdB b vall j1 N0 u1 N0 N0 N0, nmR N0 [], ltR N0 [], nmR N0 [], ndR N0 []], ((((hw'.nilRow 9 1).nilRow 39 2).nilRow 9 1).nilRow 37 8).sort (by repeat constructor), Ext.refl _ _, false, j1, _, _, _, _, _, _, _, _, _, _, _, _, _, rfl, rfl, hj1, fun _ => hfin, fun h => by cases h⟩
   | exact fun w' hw' => ⟨I2, [rdB b vall j2 us2 u1' ul2 N0 ua2, nmR N0 [], ltR N0 [], nmR N0 [], ndR N0 []], ((((hw'.nilRow 9 1).nilRow 39 2).nilRow 9 1).nilRow 37 8).sort (by repeat constructor), hx3.trans hx5 (Nat.le_refl _), false, j2, _, _, _, _, _, _, _, _, _, _, _, _, _, rfl, rfl, hj2, fun _ => hfin, fun h => by cases h⟩
   | exact fun w' hw' => ⟨I1, [rdB b vall j N0 u1' ul N0 ua, nmR N0 [], ltR N0 [], nmR N0 [], ndR N0 []], ((((hw'.nilRow 9 1).nilRow 39 2).nilRow 9 1).nilRow 37 8).sort (by repeat constructor), hx3, false, j, _, _, _, _, _, _, _, _, _, _, _, _, _, rfl, rfl, hj, fun _ => hfin, fun h => by cases h⟩
   | (refine fun w' hw' => ⟨I1, [rdB b vall j3 N0 u1' ul u3 ua, nmR u1' l1, ltR ul ls, nmR u3' l3, ndR ua n0], hw'.sort (by repeat constructor), hx3, _, j3, _, _, _, _, _, u1', ul, u3', ua, l1, ls, l3, n0, rfl, rfl, nm_le hres3, ?_, ?_⟩
      · intro hk
        cases ok3 with
        | false => exact hT1 _ (nm_bad hres3 rfl)
        | true =>
          refine (hT2 _ _ (nm_good hres3 rfl)).2 ?_
          have := nm_le hres3
          simp at hk
          intro e
          rw [List.drop_eq_nil_iff] at e
          omega
      · intro hk
        cases ok3 with
        | false => cases hk
        | true =>
          obtain ⟨rfl, hl3⟩ := hu3 rfl
          refine ⟨rfl, rfl, rfl, rfl, hok0, (hT2 _ _ (nm_good hres3 rfl)).1 ?_, by omega, by omega, by omega, by omega⟩
          simp at hk
          exact List.drop_eq_nil_of_le (by omega))
  have f5 := h5;try simp only [bl] at f5
  have hm5 : hdT (L.drop j) 0 outS = true := by simpa using f5
  rw [adv_true hm5]
  have hlt5 := hdT_lt hm5
  obtain ⟨hT1, hT2⟩ := hT.2 hm5
  rw [List.drop_drop] at hT1 hT2
  refine kS ?_;iterate 2 refine oV ?_
  refine oC trivial rfl Tryz.call104 rfl (rdNames_any b (j + 1) vall N0 u1' ul N0 ua L (hL.le hx3.le) hn hs (by omega)) (by repeat constructor) ?_;rintro _ _ _ hx6 ⟨rfl, u3, ok3, j3, u3', l3, rfl, rfl, hres3, hu3, hcell3⟩;iterate 4 refine oV ?_
  refine oF 3 Tryz.underlying101 Tryz.sizeOf26 ?_;refine oF 2 Tryz.underlying26 Tryz.sizeOf22 ?_;refine o_storeBox1 trivial rfl rfl (hcell3).1 Tryz.sizeOf22 (hcell3).2 (by repeat constructor) (by exact Nat.le_of_ble_eq_true rfl) ?_;refine oV ?_;refine oN (tC (cS ?_));refine c_quiet (by kernel_rfl) (by kernel_rfl) (fun _ h => h.drawn) ?_;refine oV ?_;refine' o_and trivial trivial rfl rfl rfl rfl rfl rfl rfl rfl (fun hb36 => ?_) ?_;rotate_left
  ·
   have fb36 := hb36
   try simp only [bl] at fb36
   iterate 2 refine gV hb36 ?_
   refine gF hb36 1 Tryz.underlying101 Tryz.sizeOf3 ?_;refine gL hb36 Tryz.isAgg3 ?_;iterate 2 refine gV hb36 ?_
   refine gF hb36 0 Tryz.underlying101 Tryz.sizeOf95 ?_;refine gL hb36 Tryz.isAgg95 ?_;refine o_lenSlc (wS rfl rfl hb36) rfl Tryz.underlying95 rfl (hL.le hx3.le) ?_;refine gV hb36 ?_;refine oN ?_;exact joins rfl
  refine oV ?_;refine nE ?_;refine ret1 rfl rfl ?_
  first
  | exact fun w' hw' => ⟨I, [rdB b vall 0 N0 N0 N0 N0 N0, nmR N0 [], ltR N0 [], nmR N0 [], ndR N0 []], ((((hw'.nilRow 9 1).nilRow 39 2).nilRow 9 1).nilRow 37 8).sort (by repeat constructor), Ext.refl _ _, false, 0, _, _, _, _, _, _, _, _, _, _, _, _, _, rfl, rfl, Nat.zero_le _, fun _ => hfin, fun h => by cases h⟩
  | exact fun w' hw' => ⟨I, [rdB b vall j1 N0 u1 N0 N0 N0, nmR N0 [], ltR N0 [], nmR N0 [], ndR N0 []], ((((hw'.nilRow 9 1).nilRow 39 2).nilRow 9 1).nilRow 37 8).sort (by repeat constructor), Ext.refl _ _, false, j1, _, _, _, _, _, _, _, _, _, _, _, _, _, rfl, rfl, hj1, fun _ => hfin, fun h => by cases h⟩
  | exact fun w' hw' => ⟨I2, [rdB b vall j2 us2 u1' ul2 N0 ua2, nmR N0 [], ltR N0 [], nmR N0 [], ndR N0 []], ((((hw'.nilRow 9 1).nilRow 39 2).nilRow 9 1).nilRow 37 8).sort (by repeat constructor), hx3.trans hx5 (Nat.le_refl _), false, j2, _, _, _, _, _, _, _, _, _, _, _, _, _, rfl, rfl, hj2, fun _ => hfin, fun h => by cases h⟩
  | exact fun w' hw' => ⟨I1, [rdB b vall j N0 u1' ul N0 ua, nmR N0 [], ltR N0 [], nmR N0 [], ndR N0 []], ((((hw'.nilRow 9 1).nilRow 39 2).nilRow 9 1).nilRow 37 8).sort (by repeat constructor), hx3, false, j, _, _, _, _, _, _, _, _, _, _, _, _, _, rfl, rfl, hj, fun _ => hfin, fun h => by cases h⟩
  | (refine fun w' hw' => ⟨I1, [rdB b vall j3 N0 u1' ul u3 ua, nmR u1' l1, ltR ul ls, nmR u3' l3, ndR ua n0], hw'.sort (by repeat constructor), hx3, _, j3, _, _, _, _, _, u1', ul, u3', ua, l1, ls, l3, n0, rfl, rfl, nm_le hres3, ?_, ?_⟩
     · intro hk
       cases ok3 with
       | false => exact hT1 _ (nm_bad hres3 rfl)
       | true =>
         refine (hT2 _ _ (nm_good hres3 rfl)).2 ?_
         have := nm_le hres3
         simp at hk
         intro e
         rw [List.drop_eq_nil_iff] at e
         omega
     · intro hk
       cases ok3 with
       | false => cases hk
       | true =>
         obtain ⟨rfl, hl3⟩ := hu3 rfl
         refine ⟨rfl, rfl, rfl, rfl, hok0, (hT2 _ _ (nm_good hres3 rfl)).1 ?_, by omega, by omega, by omega, by omega⟩
         simp at hk
         exact List.drop_eq_nil_of_le (by omega))
structure ToksFine (s : ByteArray) (L : List Tok) : Prop where
  ok : ToksOk L
  small : ∀ t ∈ L, t.text.size ≤ s.size
  few : L.length ≤ 4000
theorem tokZ_fine (s : ByteArray) (i : Nat) : ((tokZ s i).kind = 1 → numZ (tokZ s i).text = true) ∧ (tokZ s i).text.size ≤ s.size := by
  have hx : ∀ a b : Nat, (s.extract a b).size ≤ s.size := fun a b => by rw [ByteArray.size_extract]; omega
  unfold tokZ
  split
  · split
    · exact ⟨fun h => (by cases h), Nat.zero_le _⟩
    · exact ⟨fun h => (by cases h), hx _ _⟩
  · split
    · split
      · exact ⟨fun h => (by cases h), Nat.zero_le _⟩
      · split
        · rename_i h; exact ⟨fun _ => h, hx _ _⟩
        · exact ⟨fun h => (by cases h), Nat.zero_le _⟩
    · split
      · exact ⟨fun h => (by cases h), hx _ _⟩
      · exact ⟨fun h => (by cases h), Nat.zero_le _⟩
theorem lexAt_fine (s : ByteArray) : ∀ (f i : Nat) (out : List Tok), s.size ≤ i + f → ToksFine s out → ToksFine s (lexAt s i out).toks := by
  intro f
  induction f with
  | zero => intro i out h ho; rw [lexAt_end (by omega)]; exact ho
  | succ f ih =>
    intro i out h ho
    by_cases hi : i < s.size
    · rw [lexAt_open hi]
      split
      · exact ih (i + 1) out (by omega) ho
      · split
        · exact ⟨fun t ht => (by cases ht), fun t ht => (by cases ht), Nat.zero_le _⟩
        · split
          · exact ⟨fun t ht => (by cases ht), fun t ht => (by cases ht), Nat.zero_le _⟩
          · rename_i h4 he
            have hst := tokZ_stop hi (Decidable.not_not.1 he)
            obtain ⟨k1, k2⟩ := tokZ_fine s i
            refine ih (tokZ s i).stop _ (by omega) ⟨fun t ht => ?_, fun t ht => ?_, by rw [List.length_append]; show out.length + 1 ≤ 4000; omega⟩
            · rcases List.mem_append.1 ht with ht | ht
              · exact ho.ok t ht
              · rw [List.mem_singleton.1 ht]; exact k1
            · rcases List.mem_append.1 ht with ht | ht
              · exact ho.small t ht
              · rw [List.mem_singleton.1 ht]; exact k2
    · rw [lexAt_end (by omega)]; exact ho
theorem lexZ_fine {s : ByteArray} (hs : s.size ≤ 60000) : ToksFine s (lexZ s).toks := by
  rw [lexZ_at hs]
  exact lexAt_fine s s.size 0 [] (by omega) ⟨fun t ht => (by cases ht), fun t ht => (by cases ht), Nat.zero_le _⟩
structure PRes where
  p : ProgC
  line : Int
  col : Int
  err : Int
def noP : ProgC := ⟨[], [], [], []⟩
noncomputable def prgZ (L : List Tok) : PO := Classical.choose (Prg.some_out L)
theorem prgZ_is (L : List Tok) : Prg L (prgZ L) := Classical.choose_spec (Prg.some_out L)
noncomputable def parseT (s : ByteArray) (o : PO) : PRes := match o with
  | .bad [] => ⟨noP, (placeZ s s.size).1, (placeZ s s.size).2, 5⟩
  | .bad (t :: _) => ⟨noP, t.line, t.col, 5⟩
  | .ok p => if (tZ p).isSome = true then ⟨p, 0, 0, 0⟩ else ⟨noP, 1, 1, 4⟩
noncomputable def parseZ (s : ByteArray) : PRes := if (lexZ s).err ≠ 0 then ⟨noP, (lexZ s).line, (lexZ s).col, (lexZ s).err⟩ else parseT s (prgZ (lexZ s).toks)
theorem digs_ten_lt : ∀ (n : Nat), n < 10 ^ (digs n).length := by
  intro n
  induction n using Nat.strongRecOn with
  | ind n ih =>
    unfold digs
    split
    · simp; omega
    · rename_i h
      have := ih (n / 10) (by omega)
      rw [List.length_cons, Nat.pow_succ]
      omega
theorem Ex.few_all : ∀ (x : Ex) (b : Nat), x.ok → ∀ c ∈ x.nd b, c.few 5 := by
  intro x
  have none0 : ∀ {c : NodeC}, c.n = [] → c.d = [] → c.few 5 := fun h1 h2 => ⟨by rw [h1]; exact Nat.zero_le _, by rw [h2]; exact Nat.zero_le _⟩
  induction x with
  | ref t => intro b _ c hc; rw [List.mem_singleton.1 hc]; exact none0 rfl rfl
  | num q =>
    intro b hok c hc
    rw [List.mem_singleton.1 hc]
    have h1 := digs_ten_lt q.num.natAbs
    have h2 := digs_ten_lt q.den
    exact ⟨natW_forty (Nat.lt_of_lt_of_le h1 (Nat.pow_le_pow_right (by decide) hok.2.1)), natW_forty (Nat.lt_of_lt_of_le h2 (Nat.pow_le_pow_right (by decide) hok.2.2))⟩
  | neg x ih =>
    intro b hok c hc
    rcases List.mem_append.1 hc with hc | hc
    · exact ih b hok c hc
    · rw [List.mem_singleton.1 hc]; exact none0 rfl rfl
  | pow x e ih =>
    intro b hok c hc
    rcases List.mem_append.1 hc with hc | hc
    · exact ih b hok.1 c hc
    · rw [List.mem_singleton.1 hc]; exact none0 rfl rfl
  | bin k x y ih1 ih2 =>
    intro b hok c hc
    rcases List.mem_append.1 hc with hc | hc
    · rcases List.mem_append.1 hc with hc | hc
      · exact ih1 b hok.2.2.1 c hc
      · exact ih2 _ hok.2.2.2 c hc
    · rw [List.mem_singleton.1 hc]; exact none0 rfl rfl
theorem laid_few : ∀ (l : List (ByteArray × Ex)) (b : Nat), LetsOk l → ∀ c ∈ (laid l b).2, c.few 5
  | [], _, _, c, hc => by cases hc
  | (s, x) :: l, b, h, c, hc => by
    simp only [laid] at hc
    rcases List.mem_append.1 hc with hc | hc
    · exact Ex.few_all x b (h (s, x) (by simp)).2 c hc
    · exact laid_few l _ (fun a ha => h a (by simp [ha])) c hc
theorem Prg.few_all {L : List Tok} {p : ProgC} (h : Prg L (.ok p)) (hr : ToksOk L) : ∀ c ∈ p.all, c.few 5 := by
  obtain ⟨l, hs, _⟩ := h.ex hr
  rw [hs.all]
  exact laid_few l 0 hs.ok
def ParseV (r : PRes) (v : Value) (I' : Hp) : Prop := ∃ vi vl vo va ns, v = .tuple #[.agg #[vi, vl, vo, va], .agg #[.int .i64 r.line, .int .i64 r.col], .int .i64 r.err] ∧ ProgV I' vi vl vo va r.p ns ∧ ∀ o ∈ ns, o.c.few 5
theorem ProgV.nil (I : Hp) : ProgV I N0 N0 N0 N0 noP [] := ⟨Slc.nil _ _, Slc.nil _ _, Slc.nil _ _, Slc.nil _ _, fun o ho => (by cases ho), rfl⟩
theorem scs_one (l : List ByteArray) : ∀ c ∈ scs l, c.length = 1 := by
  intro c hc
  obtain ⟨x, _, rfl⟩ := List.mem_map.1 hc
  rfl
theorem nds_eight (l : List NodeV) : ∀ c ∈ nds l, c.length = 8 := by
  intro c hc
  obtain ⟨x, _, rfl⟩ := List.mem_map.1 hc
  rfl
theorem lts_two (l : List LetC) : ∀ c ∈ l.map LetC.cells, c.length = 2 := by
  intro c hc
  obtain ⟨x, _, rfl⟩ := List.mem_map.1 hc
  rfl
theorem parse_any (s : ByteArray) {I : Hp} (hT : Tabs I) (hM : Mx I) (hE : Errs I) (hs : s.size ≤ 60000) : Fun Tryz.prog 27 [.string s] I [] (fun v I' _ => ParseV (parseZ s) v I') := by
  have hfine := lexZ_fine hs
  intro w hw
  refine enter1 _ Tryz.func27 rfl Tryz.ntmps27 rfl ?_ hw;refine sR ?_;refine o_alloc trivial rfl Tryz.zeroValue26 rfl (fun b2 => ?_);refine o_alloc trivial rfl Tryz.zeroValue48 rfl (fun b3 => ?_);refine oV ?_;refine nS ?_;refine oV ?_;refine oI Tryz.call57 rfl (lex_any s hT hM hs) ?_;rintro _ I1 hx1 ⟨u1, rfl, hs1⟩;iterate 4 refine oV ?_
  refine o_alloc trivial rfl Tryz.zeroValue48 rfl (fun b6 => ?_);refine oV ?_;refine oS Tryz.sizeOf48 ?_;refine oV ?_;refine nU ?_;iterate 2 refine oV ?_
  refine nT ?_;refine cC rfl (fun h1 => ?_) (fun h1 => ?_)
  ·
   have f1 := h1;try simp only [bl] at f1
   have hz : parseZ s = ⟨noP, (lexZ s).line, (lexZ s).col, (lexZ s).err⟩ := by unfold parseZ; rw [if_pos (by simpa using h1)]
   refine cS ?_;refine h_beginB (m := 6) [.box b6 _] (by repeat constructor) (by kernel_rfl) rfl ?_;refine qT (i := 0) (qB 6 1) (Hp.Le.refl _) rfl rfl (o_buildS trivial rfl (bld26) rfl .nil qF) ?_;refine qT (i := 1) (qB 6 3) (Hp.Le.refl _) rfl rfl (oA Tryz.isAgg48 Tryz.sizeOf48 qF) ?_;refine qT (i := 2) (qB 6 7) (Hp.Le.refl _) rfl rfl (oV qF) ?_;refine qO (i := 3) (qB 6 15) rfl ?_;refine oS Tryz.sizeOf26 ?_;refine qM (Hp.Le.refl _) ?_;refine qO (i := 4) (qB 6 31) rfl ?_;refine oS Tryz.sizeOf48 ?_;refine qM (Hp.Le.refl _) ?_;refine qT (i := 5) (qB 6 63) (Hp.Le.refl _) rfl rfl (oV qF) ?_;refine h_end (by kernel_rfl) ?_;refine tC (cT (tR ?_));refine retR rfl (.agg Tryz.isAgg26 Tryz.sizeOf26 rfl (by repeat constructor) rfl (.agg Tryz.isAgg48 Tryz.sizeOf48 rfl (by repeat constructor) rfl (.tmp rfl .nil))) ?_;refine leaf hx1 (List.nil_sublist _) ?_
   rw [hz]
   exact ⟨N0, N0, N0, N0, [], rfl, ProgV.nil _, fun o ho => by cases ho⟩
  have f1 := h1;try simp only [bl] at f1
  have hz : parseZ s = parseT s (prgZ (lexZ s).toks) := by unfold parseZ; rw [if_neg (by simpa using h1)]
  have hP := prgZ_is (lexZ s).toks
  generalize prgZ (lexZ s).toks = o at hz hP
  have htf := hfine.few
  have hsm : TkSmall (lexZ s).toks := fun t ht => Nat.le_trans (hfine.small t ht) hs
  refine kS ?_;refine oV ?_;refine o_buildS trivial rfl (bld101) rfl (.cons rfl (by first | exact (Ws.cells1 (by assumption)).1 | exact (Slc.cells1 (by assumption)).1 | rfl) (by rfl) (by repeat constructor) .nil) ?_;refine o_box trivial rfl rfl rfl (fun b24 => ?_);refine oV ?_;refine nU ?_;refine oV ?_;refine oC trivial rfl Tryz.call58 rfl (rdProgram_any b24 u1 (lexZ s).toks (hM.le hx1.le) (hE.le hx1.le) hs1 (by omega) hsm hfine.ok hP) (by repeat constructor) ?_;rintro _ I2 _ hx2 ⟨ok, i, us, vi, vl, vo, va, wi, wl, wo, wa, ins, ls, outs, ns, rfl, rfl, hi, hno, hyes⟩;refine oV ?_;refine nT ?_;refine cC rfl (fun h2 => ?_) (fun h2 => ?_)
  ·
   have f2 := h2;try simp only [bl] at f2
   have hk : ok = false := by simpa using f2
   have hbad := hno hk
   refine cS (sR ?_);refine oV ?_;refine oC trivial rfl Tryz.call59 rfl (rdNext_any b24 i u1 us vi vl vo va (lexZ s).toks (hs1.le hx2.le)) (by repeat constructor) ?_;rintro _ _ _ hx3 ⟨rfl, rfl, rfl⟩;iterate 3 refine oV ?_
   refine o_alloc trivial rfl Tryz.zeroValue103 rfl (fun b9 => ?_);refine oS Tryz.sizeOf103 ?_;refine oV ?_;refine nS ?_;refine oV ?_;refine nT ?_;refine cC rfl (fun h3 => ?_) (fun h3 => ?_)
   ·
    have f3 := h3;try simp only [bl] at f3
    refine cS ?_;refine h_beginB (m := 6) [.box b9 _] (by repeat constructor) (by kernel_rfl) rfl ?_;refine qT (i := 0) (qB 6 1) (Hp.Le.refl _) rfl rfl (o_buildS trivial rfl (bld26) rfl .nil qF) ?_;refine qT (i := 1) (qB 6 3) (Hp.Le.refl _) rfl rfl (oF 2 Tryz.underlying103 Tryz.sizeOf48 qF) ?_;refine qT (i := 2) (qB 6 7) (Hp.Le.refl _) rfl rfl (oA Tryz.isAgg48 Tryz.sizeOf48 qF) ?_;refine qO (i := 3) (qB 6 15) rfl ?_;refine oS Tryz.sizeOf26 ?_;refine qM (Hp.Le.refl _) ?_;refine qO (i := 4) (qB 6 31) rfl ?_;refine oS Tryz.sizeOf48 ?_;refine qM (Hp.Le.refl _) ?_;refine qT (i := 5) (qB 6 63) (Hp.Le.refl _) rfl rfl (oV qF) ?_;refine h_end (by kernel_rfl) ?_;refine tC (cT (tR (tR ?_)));refine retR rfl (.agg Tryz.isAgg26 Tryz.sizeOf26 rfl (by repeat constructor) rfl (.agg Tryz.isAgg48 Tryz.sizeOf48 rfl (by repeat constructor) rfl (.tmp rfl .nil))) ?_;refine leaf (hx1.trans hx2 (Nat.le_refl _)) (List.nil_sublist _) ?_
    rw [hz, hbad, drop_cons (by simpa using h3)]
    exact ⟨N0, N0, N0, N0, [], rfl, ProgV.nil _, fun o ho => by cases ho⟩
   have f3 := h3;try simp only [bl] at f3
   refine kS ?_;refine o_buildS trivial rfl (bld26) rfl .nil ?_;iterate 2 refine oV ?_
   refine o_lenS trivial rfl Tryz.underlying9 rfl ?_;refine oQ Tryz.call60 rfl (place_any s (s.size : Nat) (by omega)) ?_;refine oS Tryz.sizeOf26 ?_;refine oS Tryz.sizeOf48 ?_;refine oV ?_;refine nF ?_;refine retR rfl (.agg Tryz.isAgg26 Tryz.sizeOf26 rfl (by repeat constructor) rfl (.agg Tryz.isAgg48 Tryz.sizeOf48 rfl (by repeat constructor) rfl (.tmp rfl .nil))) ?_;refine leaf (hx1.trans hx2 (Nat.le_refl _)) (List.nil_sublist _) ?_
   rw [hz, hbad, List.drop_eq_nil_of_le (by have := f3; omega)]
   exact ⟨N0, N0, N0, N0, [], rfl, ProgV.nil _, fun o ho => by cases ho⟩
  have f2 := h2;try simp only [bl] at f2
  have hk : ok = true := by simpa using f2
  obtain ⟨rfl, rfl, rfl, rfl, hok, rfl, hb1, hb2, hb3, hb4⟩ := hyes hk
  have hfew : ∀ o ∈ ns, o.c.few 5 := fun o ho => Prg.few_all hP hfine.ok o.c (List.mem_map.2 ⟨o, ho, rfl⟩)
  refine cK (tC (cS (cS ?_)));refine c_sealR (u := wi) (xss := scs ins) (by repeat constructor) (scs_len _) (scs_one _) (by unfold maxLen; omega) (fun I3 hx3 hsi => ?_);refine c_sealR (u := wl) (xss := ls.map LetC.cells) (by repeat constructor) (List.length_map _) (lts_two _) (by unfold maxLen; omega) (fun I4 hx4 hsl => ?_);refine c_sealR (u := wo) (xss := scs outs) (by repeat constructor) (scs_len _) (scs_one _) (by unfold maxLen; omega) (fun I5 hx5 hso => ?_);refine c_sealR (u := wa) (xss := nds ns) (by repeat constructor) (nds_len _) (nds_eight _) (by unfold maxLen; omega) (fun I6 hx6 hsa => ?_)
  have hsi := hsi.le (hx4.le.trans (hx5.le.trans hx6.le))
  have hsl := hsl.le (hx5.le.trans hx6.le)
  have hso := hso.le hx6.le
  have hpv : ProgV I6 wi wl wo wa ⟨ins, ls, outs, ns.map NodeV.c⟩ ns := ⟨hsi, hsl, hso, hsa, fun o ho => (hok o ho).le (hx3.le.trans (hx4.le.trans (hx5.le.trans hx6.le))), rfl⟩
  have hx16 : Ext w.heap.size I I6 := hx1.trans (hx2.trans (hx3.trans (hx4.trans (hx5.trans hx6 (Nat.le_refl _)) (Nat.le_refl _)) (Nat.le_refl _)) (Nat.le_refl _)) (Nat.le_refl _)
  refine cR ?_;iterate 2 refine oV ?_
  refine oF 3 Tryz.underlying101 Tryz.sizeOf26 ?_;refine oA Tryz.isAgg26 Tryz.sizeOf26 ?_;refine oQ Tryz.call26 rfl (trRight_any wi wl wo wa _ ns hpv (fun o ho => ⟨by have := (hfew o ho).1; omega, by have := (hfew o ho).2; omega⟩)) ?_;refine oV ?_;refine nT ?_;refine cC rfl (fun h4 => ?_) (fun h4 => ?_)
  ·
   have f4 := h4;try simp only [bl] at f4
   refine sR ?_;refine o_buildS trivial rfl (bld26) rfl .nil ?_;refine o_buildS trivial rfl (bld48) rfl (.cons rfl rfl rfl (by repeat constructor) (.cons rfl rfl rfl (by repeat constructor) .nil)) ?_;refine oS Tryz.sizeOf26 ?_;refine oS Tryz.sizeOf48 ?_;refine oV ?_;refine nF ?_;refine retR rfl (.agg Tryz.isAgg26 Tryz.sizeOf26 rfl (by repeat constructor) rfl (.agg Tryz.isAgg48 Tryz.sizeOf48 rfl (by repeat constructor) rfl (.tmp rfl .nil))) ?_;refine leaf hx16 (List.nil_sublist _) ?_
   rw [hz]
   unfold parseT
   dsimp only
   rw [if_neg (by simpa using h4)]
   exact ⟨N0, N0, N0, N0, [], rfl, ProgV.nil _, fun o ho => by cases ho⟩
  have f4 := h4;try simp only [bl] at f4
  refine kS ?_;iterate 2 refine oV ?_
  refine oF 3 Tryz.underlying101 Tryz.sizeOf26 ?_;refine oA Tryz.isAgg26 Tryz.sizeOf26 ?_;refine o_buildS trivial rfl (bld48) rfl .nil ?_;refine oS Tryz.sizeOf26 ?_;refine oS Tryz.sizeOf48 ?_;refine oV ?_;refine nE ?_;refine retR rfl (.agg Tryz.isAgg26 Tryz.sizeOf26 rfl (by repeat constructor) rfl (.agg Tryz.isAgg48 Tryz.sizeOf48 rfl (by repeat constructor) rfl (.tmp rfl .nil))) ?_;refine leaf hx16 (List.nil_sublist _) ?_
  rw [hz]
  unfold parseT
  dsimp only
  rw [if_pos (by simpa using h4)]
  exact ⟨wi, wl, wo, wa, ns, rfl, hpv, hfew⟩
def expoF : List Tok → Option Int × List Tok
  | [] => (none, [])
  | x :: r => if isT x 2 minusS then (match r with
      | [] => (none, [])
      | y :: r' => if y.kind = 1 then (match expoZ y.text with | some n => (some (-(n : Int)), r') | none => (none, y :: r')) else (none, y :: r'))
    else if x.kind = 1 then (match expoZ x.text with | some n => (some (n : Int), r) | none => (none, x :: r)) else (none, x :: r)
theorem Expo.fn {r r1 : List Tok} {e : Option Int} (h : Expo r e r1) : expoF r = (e, r1) := by
  cases h with
  | neg h1 h2 h3 => simp only [expoF, h1, if_true, h2, h3]
  | neg_end h1 => simp only [expoF, h1, if_true]
  | @neg_bad x y r h1 h2 =>
    simp only [expoF, h1, if_true]
    by_cases hk : y.kind = 1
    · rw [if_pos hk, h2 hk]
    · rw [if_neg hk]
  | pos h1 h2 h3 => simp [expoF, h1, h2, h3]
  | pos_end => rfl
  | @pos_bad y r h1 h2 =>
    simp only [expoF, h1]
    by_cases hk : y.kind = 1
    · rw [if_neg (by decide), if_pos hk, h2 hk]
    · rw [if_neg (by decide), if_neg hk]
def psF : Nat → Lv → List NodeC → List Tok → POut
  | 0, _, _, r => .bad r
  | f + 1, .atom, all, r => match r with
    | [] => .bad []
    | x :: r' => if isT x 2 lpar then (match psF f .sum all r' with
        | .bad r1 => .bad r1
        | .ok a1 r1 => if hdT r1 2 rpar then .ok a1 (r1.drop 1) else .bad r1)
      else if leafT x then .ok (all ++ [leafN x]) r' else .bad (x :: r')
  | f + 1, .powL, all, r => match r with
    | [] => .ok all []
    | x :: r' => if isT x 2 Go.Tw.caret then (match expoF r' with
        | (some e, r1) => .ok (all ++ [powN (lastI all) e]) r1
        | (none, r1) => .bad r1) else .ok all (x :: r')
  | f + 1, .power, all, r => match psF f .atom all r with
    | .bad r1 => .bad r1
    | .ok a1 r1 => psF f .powL a1 r1
  | f + 1, .factor, all, r => match r with
    | [] => psF f .power all []
    | x :: r' => if isT x 2 minusS then (match psF f .factor all r' with
        | .bad r1 => .bad r1
        | .ok a1 r1 => .ok (a1 ++ [negN (lastI a1)]) r1) else psF f .power all (x :: r')
  | f + 1, .prodL, all, r => match hdK mulK r with
    | none => .ok all r
    | some k => match psF f .factor all (r.drop 1) with
      | .bad r1 => .bad r1
      | .ok a1 r1 => psF f .prodL (a1 ++ [binN k (lastI all) (lastI a1)]) r1
  | f + 1, .product, all, r => match psF f .factor all r with
    | .bad r1 => .bad r1
    | .ok a1 r1 => psF f .prodL a1 r1
  | f + 1, .sumL, all, r => match hdK addK r with
    | none => .ok all r
    | some k => match psF f .product all (r.drop 1) with
      | .bad r1 => .bad r1
      | .ok a1 r1 => psF f .sumL (a1 ++ [binN k (lastI all) (lastI a1)]) r1
  | f + 1, .sum, all, r => match psF f .product all r with
    | .bad r1 => .bad r1
    | .ok a1 r1 => psF f .sumL a1 r1
def rkL : Lv → Nat
  | .atom => 1
  | .powL => 1
  | .power => 2
  | .factor => 3
  | .prodL => 1
  | .product => 4
  | .sumL => 1
  | .sum => 5
theorem ps_fn {lv : Lv} {all : List NodeC} {r : List Tok} {o : POut} (h : Ps lv all r o) : ∀ f, 8 * r.length + rkL lv ≤ f → psF f lv all r = o := by
  have len1 : ∀ {lv : Lv} {all a1 : List NodeC} {r r1 : List Tok}, Ps lv all r (.ok a1 r1) → r1.length + lv.need ≤ r.length := fun h => h.len
  induction h with
  | par_bad hx h ih =>
    intro f hf
    obtain ⟨f, rfl⟩ : ∃ g, f = g + 1 := ⟨f - 1, by simp only [rkL] at hf; omega⟩
    simp only [List.length_cons, rkL] at hf
    simp only [psF, hx, if_true]
    rw [ih f (by simp only [rkL]; omega)]
  | par_ok hx h hy ih =>
    intro f hf
    obtain ⟨f, rfl⟩ : ∃ g, f = g + 1 := ⟨f - 1, by simp only [rkL] at hf; omega⟩
    simp only [List.length_cons, rkL] at hf
    simp only [psF, hx, if_true]
    rw [ih f (by simp only [rkL]; omega)]
    simp only [hdT, hy, if_true, List.drop_one, List.tail_cons]
  | par_no hx h hy ih =>
    intro f hf
    obtain ⟨f, rfl⟩ : ∃ g, f = g + 1 := ⟨f - 1, by simp only [rkL] at hf; omega⟩
    simp only [List.length_cons, rkL] at hf
    simp only [psF, hx, if_true]
    rw [ih f (by simp only [rkL]; omega)]
    simp only [hy]
    rfl
  | @leaf all x r hl =>
    intro f hf
    obtain ⟨f, rfl⟩ : ∃ g, f = g + 1 := ⟨f - 1, by simp only [rkL] at hf; omega⟩
    have hp : isT x 2 lpar = false := by
      cases hb : isT x 2 lpar with
      | false => rfl
      | true => rw [leafT, (isT_iff.1 hb).1] at hl; exact absurd hl (by simp)
    simp [psF, hp, hl]
  | none =>
    intro f hf
    obtain ⟨f, rfl⟩ : ∃ g, f = g + 1 := ⟨f - 1, by simp only [rkL] at hf; omega⟩
    rfl
  | no h1 h2 =>
    intro f hf
    obtain ⟨f, rfl⟩ : ∃ g, f = g + 1 := ⟨f - 1, by simp only [rkL] at hf; omega⟩
    simp [psF, h1, h2]
  | @pow_none all r h1 =>
    intro f hf
    obtain ⟨f, rfl⟩ : ∃ g, f = g + 1 := ⟨f - 1, by simp only [rkL] at hf; omega⟩
    cases r with
    | nil => rfl
    | cons x r => simp only [hdT] at h1; simp [psF, h1]
  | pow_ok h1 h2 =>
    intro f hf
    obtain ⟨f, rfl⟩ : ∃ g, f = g + 1 := ⟨f - 1, by simp only [rkL] at hf; omega⟩
    simp [psF, h1, Expo.fn h2]
  | pow_bad h1 h2 =>
    intro f hf
    obtain ⟨f, rfl⟩ : ∃ g, f = g + 1 := ⟨f - 1, by simp only [rkL] at hf; omega⟩
    simp [psF, h1, Expo.fn h2]
  | power_bad h ih =>
    intro f hf
    obtain ⟨f, rfl⟩ : ∃ g, f = g + 1 := ⟨f - 1, by simp only [rkL] at hf; omega⟩
    simp only [psF]
    rw [ih f (by simp only [rkL] at hf ⊢; omega)]
  | power_ok h h2 ih ih2 =>
    intro f hf
    obtain ⟨f, rfl⟩ : ∃ g, f = g + 1 := ⟨f - 1, by simp only [rkL] at hf; omega⟩
    have hl := len1 h
    simp only [psF]
    rw [ih f (by simp only [rkL] at hf ⊢; omega)]
    exact ih2 f (by simp only [rkL, Lv.need] at hf hl ⊢; omega)
  | neg_bad hx h ih =>
    intro f hf
    obtain ⟨f, rfl⟩ : ∃ g, f = g + 1 := ⟨f - 1, by simp only [rkL] at hf; omega⟩
    simp only [List.length_cons, rkL] at hf
    simp only [psF, hx, if_true]
    rw [ih f (by simp only [rkL]; omega)]
  | neg_ok hx h ih =>
    intro f hf
    obtain ⟨f, rfl⟩ : ∃ g, f = g + 1 := ⟨f - 1, by simp only [rkL] at hf; omega⟩
    simp only [List.length_cons, rkL] at hf
    simp only [psF, hx, if_true]
    rw [ih f (by simp only [rkL]; omega)]
  | @fac all r o h1 h ih =>
    intro f hf
    obtain ⟨f, rfl⟩ : ∃ g, f = g + 1 := ⟨f - 1, by simp only [rkL] at hf; omega⟩
    have := ih f (by simp only [rkL] at hf ⊢; omega)
    cases r with
    | nil => exact this
    | cons x r =>
      simp only [hdT] at h1
      simp only [psF, h1]
      exact this
  | prodL_end h1 =>
    intro f hf
    obtain ⟨f, rfl⟩ : ∃ g, f = g + 1 := ⟨f - 1, by simp only [rkL] at hf; omega⟩
    simp only [psF, h1]
  | @prodL_bad all x r r1 k hk h ih =>
    intro f hf
    obtain ⟨f, rfl⟩ : ∃ g, f = g + 1 := ⟨f - 1, by simp only [rkL] at hf; omega⟩
    simp only [List.length_cons, rkL] at hf
    have hk' : hdK mulK (x :: r) = some k := hk
    simp only [psF, hk', List.drop_one, List.tail_cons]
    rw [ih f (by simp only [rkL]; omega)]
  | @prodL_ok all a1 x r r1 k o hk h h2 ih ih2 =>
    intro f hf
    obtain ⟨f, rfl⟩ : ∃ g, f = g + 1 := ⟨f - 1, by simp only [rkL] at hf; omega⟩
    simp only [List.length_cons, rkL] at hf
    have hl := len1 h
    have hk' : hdK mulK (x :: r) = some k := hk
    simp only [psF, hk', List.drop_one, List.tail_cons]
    rw [ih f (by simp only [rkL]; omega)]
    exact ih2 f (by simp only [rkL, Lv.need] at hl ⊢; omega)
  | product_bad h ih =>
    intro f hf
    obtain ⟨f, rfl⟩ : ∃ g, f = g + 1 := ⟨f - 1, by simp only [rkL] at hf; omega⟩
    simp only [psF]
    rw [ih f (by simp only [rkL] at hf ⊢; omega)]
  | product_ok h h2 ih ih2 =>
    intro f hf
    obtain ⟨f, rfl⟩ : ∃ g, f = g + 1 := ⟨f - 1, by simp only [rkL] at hf; omega⟩
    have hl := len1 h
    simp only [psF]
    rw [ih f (by simp only [rkL] at hf ⊢; omega)]
    exact ih2 f (by simp only [rkL, Lv.need] at hf hl ⊢; omega)
  | sumL_end h1 =>
    intro f hf
    obtain ⟨f, rfl⟩ : ∃ g, f = g + 1 := ⟨f - 1, by simp only [rkL] at hf; omega⟩
    simp only [psF, h1]
  | @sumL_bad all x r r1 k hk h ih =>
    intro f hf
    obtain ⟨f, rfl⟩ : ∃ g, f = g + 1 := ⟨f - 1, by simp only [rkL] at hf; omega⟩
    simp only [List.length_cons, rkL] at hf
    have hk' : hdK addK (x :: r) = some k := hk
    simp only [psF, hk', List.drop_one, List.tail_cons]
    rw [ih f (by simp only [rkL]; omega)]
  | @sumL_ok all a1 x r r1 k o hk h h2 ih ih2 =>
    intro f hf
    obtain ⟨f, rfl⟩ : ∃ g, f = g + 1 := ⟨f - 1, by simp only [rkL] at hf; omega⟩
    simp only [List.length_cons, rkL] at hf
    have hl := len1 h
    have hk' : hdK addK (x :: r) = some k := hk
    simp only [psF, hk', List.drop_one, List.tail_cons]
    rw [ih f (by simp only [rkL]; omega)]
    exact ih2 f (by simp only [rkL, Lv.need] at hl ⊢; omega)
  | sum_bad h ih =>
    intro f hf
    obtain ⟨f, rfl⟩ : ∃ g, f = g + 1 := ⟨f - 1, by simp only [rkL] at hf; omega⟩
    simp only [psF]
    rw [ih f (by simp only [rkL] at hf ⊢; omega)]
  | sum_ok h h2 ih ih2 =>
    intro f hf
    obtain ⟨f, rfl⟩ : ∃ g, f = g + 1 := ⟨f - 1, by simp only [rkL] at hf; omega⟩
    have hl := len1 h
    simp only [psF]
    rw [ih f (by simp only [rkL] at hf ⊢; omega)]
    exact ih2 f (by simp only [rkL, Lv.need] at hf hl ⊢; omega)
def lt1F (all : List NodeC) (r : List Tok) : LO := match r with
  | [] => .bad []
  | x :: r' => if nameT x then (if hdT r' 2 equalS then (match psF (8 * r'.length + 5) .sum all (r'.drop 1) with
      | .bad r1 => .bad r1
      | .ok a1 r1 => if hdT r1 2 semiS then .ok x.text a1 (r1.drop 1) else .bad r1) else .bad r') else .bad (x :: r')
theorem lt1_fn {all : List NodeC} {r : List Tok} {o : LO} (h : Lt1 all r o) : lt1F all r = o := by
  cases h with
  | noname h0 => cases r with
    | nil => rfl
    | cons x r => simp only [hdN] at h0; simp [lt1F, h0]
  | @noeq x r h0 h1 => simp only [lt1F, h0, if_true, h1]; rfl
  | @sumbad x y r r1 h0 h1 h2 =>
    have h1' : hdT (y :: r) 2 equalS = true := h1
    have := ps_fn h2 (8 * (y :: r).length + 5) (by simp only [rkL, List.length_cons]; omega)
    simp only [lt1F, h0, if_true, h1', List.drop_one, List.tail_cons, this]
  | @nosemi a1 x y r r1 h0 h1 h2 h3 =>
    have h1' : hdT (y :: r) 2 equalS = true := h1
    have := ps_fn h2 (8 * (y :: r).length + 5) (by simp only [rkL, List.length_cons]; omega)
    simp only [lt1F, h0, if_true, h1', List.drop_one, List.tail_cons, this, h3]
    rfl
  | @ok a1 x y z r r1 h0 h1 h2 h3 =>
    have h1' : hdT (y :: r) 2 equalS = true := h1
    have h3' : hdT (z :: r1) 2 semiS = true := h3
    have := ps_fn h2 (8 * (y :: r).length + 5) (by simp only [rkL, List.length_cons]; omega)
    simp only [lt1F, h0, if_true, h1', List.drop_one, List.tail_cons, this, h3']
def ltsF : Nat → List LetC → List NodeC → List Tok → LSO
  | 0, ls, all, r => .bad r
  | f + 1, ls, all, r => if hdT r 0 letS then (match lt1F all (r.drop 1) with
      | .bad r1 => .bad r1
      | .ok n a1 r1 => ltsF f (ls ++ [⟨n, lastI a1⟩]) a1 r1) else .ok ls all r
theorem lts_fn {ls : List LetC} {all : List NodeC} {r : List Tok} {o : LSO} (h : Lts ls all r o) : ∀ f, r.length < f → ltsF f ls all r = o := by
  induction h with
  | fin h0 =>
    intro f hf
    obtain ⟨f, rfl⟩ : ∃ g, f = g + 1 := ⟨f - 1, by omega⟩
    simp [ltsF, h0]
  | @bad ls all x r r1 h0 h1 =>
    intro f hf
    obtain ⟨f, rfl⟩ : ∃ g, f = g + 1 := ⟨f - 1, by omega⟩
    have h0' : hdT (x :: r) 0 letS = true := h0
    simp only [ltsF, h0', if_true, List.drop_one, List.tail_cons, lt1_fn h1]
  | @more ls all a1 x n r r1 o h0 h1 h2 ih =>
    intro f hf
    obtain ⟨f, rfl⟩ : ∃ g, f = g + 1 := ⟨f - 1, by omega⟩
    have hl := h1.len
    have h0' : hdT (x :: r) 0 letS = true := h0
    simp only [List.length_cons] at hf
    simp only [ltsF, h0', if_true, List.drop_one, List.tail_cons, lt1_fn h1, ih f (by omega)]
def prgF (r : List Tok) : PO :=
  if hdT r 0 inS then (match namesZ (r.drop 1) with
    | .bad r1 => .bad r1
    | .ok ins r1 => match ltsF (r1.length + 1) [] [] r1 with
      | .bad r2 => .bad r2
      | .ok ls all r2 => if hdT r2 0 outS then (match namesZ (r2.drop 1) with
          | .bad r3 => .bad r3
          | .ok outs [] => .ok ⟨ins, ls, outs, all⟩
          | .ok outs (z :: r3) => .bad (z :: r3)) else .bad r2) else .bad r
theorem prg_fn {r : List Tok} {o : PO} (h : Prg r o) : prgF r = o := by
  have h0' : ∀ {x : Tok} {r : List Tok} {k : Int} {t : ByteArray}, isT x k t = true → hdT (x :: r) k t = true := fun h => h
  cases h with
  | noin h0 => simp [prgF, h0]
  | insbad h0 h1 => simp [prgF, h0' h0, h1]
  | letsbad h0 h1 h2 => simp [prgF, h0' h0, h1, lts_fn h2 _ (Nat.lt_succ_self _)]
  | noout h0 h1 h2 h3 => simp [prgF, h0' h0, h1, lts_fn h2 _ (Nat.lt_succ_self _), h3]
  | outsbad h0 h1 h2 h3 h4 => simp [prgF, h0' h0, h1, lts_fn h2 _ (Nat.lt_succ_self _), h0' h3, h4]
  | tail h0 h1 h2 h3 h4 => simp [prgF, h0' h0, h1, lts_fn h2 _ (Nat.lt_succ_self _), h0' h3, h4]
  | ok h0 h1 h2 h3 h4 => simp [prgF, h0' h0, h1, lts_fn h2 _ (Nat.lt_succ_self _), h0' h3, h4]
theorem prgZ_fn (r : List Tok) : prgZ r = prgF r := (prg_fn (prgZ_is r)).symm
theorem decodeN_bar (n n' b0 b1 b2 b3 c1 c2 c3 : Nat) (hpos : 1 ≤ n) (hn : n ≤ n') (h1 : 1 < n → c1 = b1) (h2 : 2 < n → c2 = b2) (h3 : 3 < n → c3 = b3)
    (k1 : n = 1 → 1 < n' → c1 / 64 ≠ 2) (k2 : n = 2 → 2 < n' → c2 / 64 ≠ 2) (k3 : n = 3 → 3 < n' → c3 / 64 ≠ 2) : Lib.decodeN n' b0 c1 c2 c3 = Lib.decodeN n b0 b1 b2 b3 := by
  have e1 : (1 < n' ∧ c1 / 64 = 2) ↔ (1 < n ∧ b1 / 64 = 2) := by
    by_cases q : 1 < n
    · rw [h1 q]
      constructor
      · rintro ⟨_, h⟩; exact ⟨q, h⟩
      · rintro ⟨_, h⟩; exact ⟨by omega, h⟩
    · have q1 : n = 1 := by omega
      constructor
      · rintro ⟨p1, p2⟩; exact absurd p2 (k1 q1 p1)
      · rintro ⟨p1, _⟩; omega
  have e2 : ((1 < n' ∧ c1 / 64 = 2) ∧ (2 < n' ∧ c2 / 64 = 2)) ↔ ((1 < n ∧ b1 / 64 = 2) ∧ (2 < n ∧ b2 / 64 = 2)) := by
    by_cases q : 2 < n
    · rw [e1, h2 q]
      constructor
      · rintro ⟨h, _, h'⟩; exact ⟨h, q, h'⟩
      · rintro ⟨h, _, h'⟩; exact ⟨h, by omega, h'⟩
    · constructor
      · rintro ⟨h, p1, p2⟩
        have h' := e1.1 h
        exact absurd p2 (k2 (by omega) p1)
      · rintro ⟨_, p1, _⟩; omega
  have e3 : ((1 < n' ∧ c1 / 64 = 2) ∧ (2 < n' ∧ c2 / 64 = 2) ∧ (3 < n' ∧ c3 / 64 = 2)) ↔ ((1 < n ∧ b1 / 64 = 2) ∧ (2 < n ∧ b2 / 64 = 2) ∧ (3 < n ∧ b3 / 64 = 2)) := by
    constructor
    · rintro ⟨x1, x2, x3⟩
      have y := e2.1 ⟨x1, x2⟩
      by_cases q : 3 < n
      · exact ⟨y.1, y.2, q, by rw [← h3 q]; exact x3.2⟩
      · exact absurd x3.2 (k3 (by omega) x3.1)
    · rintro ⟨x1, x2, x3⟩
      have y := e2.2 ⟨x1, x2⟩
      exact ⟨y.1, y.2, by omega, by rw [h3 x3.1]; exact x3.2⟩
  unfold Lib.decodeN
  by_cases g0 : b0 < 128
  · rw [if_pos g0, if_pos g0]
  · rw [if_neg g0, if_neg g0]
    by_cases g1 : b0 / 32 = 6 ∧ (1 < n ∧ b1 / 64 = 2)
    · rw [if_pos g1, if_pos ⟨g1.1, e1.2 g1.2⟩, h1 g1.2.1]
    · rw [if_neg g1, if_neg (fun h => g1 ⟨h.1, e1.1 h.2⟩)]
      by_cases g2 : b0 / 16 = 14 ∧ (1 < n ∧ b1 / 64 = 2) ∧ (2 < n ∧ b2 / 64 = 2)
      · rw [if_pos g2, if_pos ⟨g2.1, e2.2 g2.2⟩, h1 g2.2.1.1, h2 g2.2.2.1]
      · rw [if_neg g2, if_neg (fun h => g2 ⟨h.1, e2.1 h.2⟩)]
        by_cases g3 : b0 / 8 = 30 ∧ (1 < n ∧ b1 / 64 = 2) ∧ (2 < n ∧ b2 / 64 = 2) ∧ (3 < n ∧ b3 / 64 = 2)
        · rw [if_pos g3, if_pos ⟨g3.1, e3.2 g3.2⟩, h1 g3.2.1.1, h2 g3.2.2.1.1, h3 g3.2.2.2.1]
        · rw [if_neg g3, if_neg (fun h => g3 ⟨h.1, e3.1 h.2⟩)]
def Bl (x : ByteArray) : Prop := x.size = 0 ∨ (x.get! 0).toNat = 10 ∨ (x.get! 0).toNat = 32
theorem get_mid (s x : ByteArray) : (s ++ x).get! s.size = x.get! 0 := get_right s x 0
theorem bl_decode {s x : ByteArray} (hx : Bl x) {i : Nat} (hi : i < s.size) : Utf8.decode (s ++ x) i = Utf8.decode s i := by
  have hsz : (s ++ x).size = s.size + x.size := ByteArray.size_append
  have hm := get_mid s x
  have hstop : s.size < (s ++ x).size → ((s ++ x).get! s.size).toNat / 64 ≠ 2 := fun h => by
    rw [hm]
    rcases hx with h0 | h0 | h0 <;> omega
  rw [Lib.decode_at, Lib.decode_at, get_left s x i hi]
  refine decodeN_bar _ _ _ _ _ _ _ _ _ (by omega) (by omega) (fun h => by rw [get_left s x _ (by omega)]) (fun h => by rw [get_left s x _ (by omega)]) (fun h => by rw [get_left s x _ (by omega)]) (fun h h' => ?_) (fun h h' => ?_) (fun h h' => ?_)
  · rw [show i + 1 = s.size by omega]; exact hstop (by omega)
  · rw [show i + 2 = s.size by omega]; exact hstop (by omega)
  · rw [show i + 3 = s.size by omega]; exact hstop (by omega)
theorem bl_kAt {s x : ByteArray} (hx : Bl x) {i : Nat} (hi : i < s.size) : kAt (s ++ x) i = kAt s i := by unfold kAt; rw [bl_decode hx hi]
theorem kAt_ascii {s : ByteArray} {i : Nat} (h : (s.get! i).toNat < 128) : kAt s i = kindZ (s.get! i).toNat := by unfold kAt; rw [Go.Tw.decode_ascii h]
theorem bl_mid {s x : ByteArray} (hx : Bl x) (h : s.size < (s ++ x).size) : kAt (s ++ x) s.size = 3 ∧ ((s ++ x).get! s.size).toNat ≠ 124 := by
  have hsz : (s ++ x).size = s.size + x.size := ByteArray.size_append
  have hm := get_mid s x
  rcases hx with h0 | h0 | h0
  · omega
  · rw [kAt_ascii (by rw [hm]; omega), hm, h0]; exact ⟨by decide, by decide⟩
  · rw [kAt_ascii (by rw [hm]; omega), hm, h0]; exact ⟨by decide, by decide⟩
theorem bl_run {p : Int → Bool} {s x : ByteArray} (hx : Bl x) (hp : p 3 = false) : ∀ (f i : Nat), s.size ≤ i + f → i ≤ s.size → runAt p (s ++ x) i = runAt p s i
  | 0, i, h, hi => by
    have e : i = s.size := by omega
    subst e
    rw [runAt_end (s := s) (Nat.le_refl _)]
    rcases Nat.lt_or_ge s.size (s ++ x).size with h1 | h1
    · exact runAt_stop h1 (by rw [(bl_mid hx h1).1]; exact hp)
    · rw [runAt_end h1]
      have hsz : (s ++ x).size = s.size + x.size := ByteArray.size_append
      omega
  | f + 1, i, h, hi => by
    rcases Nat.lt_or_ge i s.size with h1 | h1
    · have hsz : (s ++ x).size = s.size + x.size := ByteArray.size_append
      have hw := width_pos s i
      have hin := width_in s i h1
      cases hk : p (kAt s i) with
      | false => rw [runAt_stop h1 hk, runAt_stop (by omega) (by rw [bl_kAt hx h1]; exact hk)]
      | true =>
        rw [runAt_step h1 hk, runAt_step (by omega) (by rw [bl_kAt hx h1]; exact hk), bl_decode hx h1]
        exact bl_run hx hp f _ (by omega) hin
    · exact bl_run hx hp 0 i (by omega) hi
theorem ext_left {s x : ByteArray} {i j : Nat} (hj : j ≤ s.size) : (s ++ x).extract i j = s.extract i j := by
  rw [ByteArray.extract_append]
  have : x.extract (i - s.size) (j - s.size) = ByteArray.empty := ByteArray.extract_eq_empty_iff.2 (by omega)
  rw [this, ByteArray.append_empty]
theorem bl_numEnd {s x : ByteArray} (hx : Bl x) {i : Nat} (hi : i ≤ s.size) : numEnd (s ++ x) i = numEnd s i := by
  have hr := bl_run (p := isDigit) hx rfl s.size i (by omega) hi
  have hle := runAt_le isDigit s i hi
  have hsz : (s ++ x).size = s.size + x.size := ByteArray.size_append
  unfold numEnd
  rw [hr]
  rcases Nat.lt_or_ge (runAt isDigit s i) s.size with h1 | h1
  · rw [get_left s x _ h1, bl_run (p := isDigit) hx rfl s.size (runAt isDigit s i + 1) (by omega) (by omega)]
    by_cases h2 : runAt isDigit s i < s.size ∧ (s.get! (runAt isDigit s i)).toNat = 124 ∧ runAt isDigit s i + 1 < runAt isDigit s (runAt isDigit s i + 1)
    · rw [if_pos h2, if_pos ⟨by omega, h2.2⟩]
    · rw [if_neg h2, if_neg (fun h => h2 ⟨h1, h.2⟩)]
  · rw [if_neg (c := runAt isDigit s i < s.size ∧ _) (by omega)]
    have e : runAt isDigit s i = s.size := by omega
    rw [e, if_neg]
    rintro ⟨h2, h3, _⟩;exact (bl_mid hx h2).2 h3
theorem bl_tok {s x : ByteArray} (hx : Bl x) {i : Nat} (hi : i < s.size) : tokZ (s ++ x) i = tokZ s i := by
  have hw := runAt_le isWord s i (by omega)
  have hn := (numEnd_ge s i (by omega)).2
  have hin := width_in s i hi
  unfold tokZ
  rw [bl_kAt hx hi, bl_run (p := isWord) hx rfl s.size i (by omega) (by omega), bl_numEnd hx (by omega), bl_decode hx hi, ext_left hw, ext_left hn, ext_left hin]
theorem run_tail (p : Int → Bool) (s : ByteArray) (a i : Nat) (ha : a ≤ s.size) : runAt p s (a + i) = a + runAt p (s.extract a s.size) i := by
  have h := runGo_tail p s a ha (s.size - a - i) i
  have hs : (s.extract a s.size).size = s.size - a := by simp
  unfold runAt
  rw [hs, show s.size - (a + i) = s.size - a - i by omega]
  omega
theorem ext_tail {s : ByteArray} {a i j : Nat} (hj : a + j ≤ s.size) : (s.extract a s.size).extract i j = s.extract (a + i) (a + j) := by
  rw [ByteArray.extract_extract, Nat.min_eq_left hj]
theorem numEnd_tail (s : ByteArray) (a i : Nat) (ha : a ≤ s.size) : numEnd s (a + i) = a + numEnd (s.extract a s.size) i := by
  have hs : (s.extract a s.size).size = s.size - a := by simp
  unfold numEnd
  rw [run_tail isDigit s a i ha, get_tail s a _ ha, hs]
  have e := run_tail isDigit s a (runAt isDigit (s.extract a s.size) i + 1) ha
  rw [← Nat.add_assoc] at e
  rw [e]
  by_cases h : runAt isDigit (s.extract a s.size) i < s.size - a ∧ (s.get! (a + runAt isDigit (s.extract a s.size) i)).toNat = 124 ∧ runAt isDigit (s.extract a s.size) i + 1 < runAt isDigit (s.extract a s.size) (runAt isDigit (s.extract a s.size) i + 1)
  · rw [if_pos h, if_pos ⟨by omega, h.2.1, by omega⟩]
  · rw [if_neg h, if_neg (fun h' => h ⟨by omega, h'.2.1, by omega⟩)]
def _root_.Go.Tw.TokR.on (a : Nat) (t : TokR) : TokR := ⟨t.kind, t.text, a + t.stop, t.err⟩
theorem kAt_tail (s : ByteArray) (a i : Nat) (ha : a ≤ s.size) : kAt s (a + i) = kAt (s.extract a s.size) i := by unfold kAt; rw [decode_tail s a i ha]
theorem tok_tail (s : ByteArray) (a i : Nat) (hi : a + i < s.size) : tokZ s (a + i) = (tokZ (s.extract a s.size) i).on a := by
  have ha : a ≤ s.size := by omega
  have hs : (s.extract a s.size).size = s.size - a := by simp
  have hw := runAt_le isWord (s.extract a s.size) i (by omega)
  have hn := (numEnd_ge (s.extract a s.size) i (by omega)).2
  have hin := width_in (s.extract a s.size) i (by omega)
  unfold tokZ
  rw [kAt_tail s a i ha, run_tail isWord s a i ha, numEnd_tail s a i ha, ← decode_tail s a i ha, Nat.add_assoc a i, ← ext_tail (i := i) (j := runAt isWord (s.extract a s.size) i) (by omega), ← ext_tail (i := i) (j := numEnd (s.extract a s.size) i) (by omega), ← ext_tail (i := i) (j := i + (Utf8.decode (s.extract a s.size) i).2) (by omega)]
  by_cases h1 : kAt (s.extract a s.size) i = 1
  · rw [if_pos h1, if_pos h1, show a + runAt isWord (s.extract a s.size) i - (a + i) = runAt isWord (s.extract a s.size) i - i by omega]
    split <;> rfl
  · rw [if_neg h1, if_neg h1]
    by_cases h2 : kAt (s.extract a s.size) i = 2
    · rw [if_pos h2, if_pos h2]
      split
      · rfl
      · split <;> rfl
    · rw [if_neg h2, if_neg h2]
      split <;> rfl
theorem _root_.Go.Tw.Hops.head {s : ByteArray} {i b : Nat} (h : Hops s i b) : i = b ∨ (i < s.size ∧ Hops s (i + (Utf8.decode s i).2) b) := by
  induction h with
  | refl => exact .inl rfl
  | @step j _ hj ih =>
    rcases ih with rfl | ⟨h1, h2⟩
    · exact .inr ⟨hj, .refl⟩
    · exact .inr ⟨h1, h2.step hj⟩
theorem _root_.Go.Tw.Hops.mid {s : ByteArray} {i a b : Nat} (ha : Hops s i a) (hb : Hops s i b) : a ≤ b → Hops s a b := by
  induction ha with
  | refl => intro _; exact hb
  | @step j _ hj ih =>
    intro h
    have hw := width_pos s j
    rcases (ih (by omega)).head with h1 | h1
    · omega
    · exact h1.2
theorem cut_decode {s : ByteArray} {B i : Nat} (hB : B ≤ s.size) (hi : i < B) (h : Hops s i B) : Utf8.decode (s.extract 0 B) i = Utf8.decode s i ∧ Hops s (i + (Utf8.decode s i).2) B ∧ i + (Utf8.decode s i).2 ≤ B := by
  rcases h.head with h1 | ⟨h1, h2⟩
  · omega
  · have hge := h2.ge
    have e := decode_piece s 0 B i hB (by omega) (by rw [Nat.zero_add]; exact hge)
    rw [Nat.zero_add] at e
    exact ⟨e, h2, hge⟩
theorem cut_kAt {s : ByteArray} {B i : Nat} (hB : B ≤ s.size) (hi : i < B) (h : Hops s i B) : kAt (s.extract 0 B) i = kAt s i := by unfold kAt; rw [(cut_decode hB hi h).1]
theorem cut_size {s : ByteArray} {B : Nat} (hB : B ≤ s.size) : (s.extract 0 B).size = B := by rw [ByteArray.size_extract]; omega
theorem cut_run (p : Int → Bool) {s : ByteArray} {B : Nat} (hB : B ≤ s.size) : ∀ (f i : Nat), B ≤ i + f → i ≤ B → Hops s i B → runAt p (s.extract 0 B) i = min (runAt p s i) B
  | 0, i, h, hi, _ => by
    have e : i = B := by omega
    subst e
    have := runAt_ge p s i hB
    rw [runAt_end (by rw [cut_size hB]; omega), cut_size hB]
    omega
  | f + 1, i, h, hi, hh => by
    rcases Nat.lt_or_ge i B with h1 | h1
    · obtain ⟨e1, e2, e3⟩ := cut_decode hB h1 hh
      have hw := width_pos s i
      cases hk : p (kAt s i) with
      | false =>
        rw [runAt_stop (s := s) (by omega) hk, runAt_stop (by rw [cut_size hB]; exact h1) (by rw [cut_kAt hB h1 hh]; exact hk)]
        omega
      | true =>
        rw [runAt_step (s := s) (by omega) hk, runAt_step (by rw [cut_size hB]; exact h1) (by rw [cut_kAt hB h1 hh]; exact hk), e1]
        exact cut_run p hB f _ (by omega) e3 e2
    · exact cut_run p hB 0 i (by omega) hi hh
theorem ext_cut {s : ByteArray} {B i j : Nat} (hj : j ≤ B) : (s.extract 0 B).extract i j = s.extract i j := by
  rw [ByteArray.extract_extract, Nat.zero_add, Nat.zero_add, Nat.min_eq_left hj]
theorem cut_get {s : ByteArray} {B i : Nat} (hB : B ≤ s.size) (hi : i < B) : (s.extract 0 B).get! i = s.get! i := by
  have := get_piece s 0 B i hB (by omega)
  rw [Nat.zero_add] at this
  exact this
theorem cut_numEnd {s : ByteArray} {B i : Nat} (hB : B ≤ s.size) (hi : i ≤ B) (h : Hops s i B) (hn : numEnd s i ≤ B) : numEnd (s.extract 0 B) i = numEnd s i := by
  have hr1 := cut_run isDigit hB B i (by omega) hi h
  have hs1 := runAt_steps isDigit s s.size i (by omega) (by omega)
  have hb := runAt_le isDigit s i (by omega)
  have hsz := cut_size hB
  have hr : runAt isDigit s i ≤ numEnd s i := by
    unfold numEnd
    split
    · rename_i h'; omega
    · exact Nat.le_refl _
  have e1 : runAt isDigit (s.extract 0 B) i = runAt isDigit s i := by rw [hr1]; omega
  have e2 : runAt isDigit s i < B → (s.get! (runAt isDigit s i)).toNat = 124 → runAt isDigit (s.extract 0 B) (runAt isDigit s i + 1) = min (runAt isDigit s (runAt isDigit s i + 1)) B := fun hlt h124 => by
    have hst := hs1.step (show runAt isDigit s i < s.size by omega)
    rw [Go.Tw.decode_ascii (s := s) (i := runAt isDigit s i) (by omega)] at hst
    exact cut_run isDigit hB B _ (by omega) (by show runAt isDigit s i + 1 ≤ B; omega) (hst.mid h (by show runAt isDigit s i + 1 ≤ B; omega))
  unfold numEnd at hn ⊢
  rw [e1, hsz]
  by_cases h2 : runAt isDigit s i < s.size ∧ (s.get! (runAt isDigit s i)).toNat = 124 ∧ runAt isDigit s i + 1 < runAt isDigit s (runAt isDigit s i + 1)
  · rw [if_pos h2] at hn ⊢
    have hlt : runAt isDigit s i < B := by omega
    have e3 := e2 hlt h2.2.1
    rw [cut_get hB hlt, e3, if_pos ⟨hlt, h2.2.1, by omega⟩]
    omega
  · rw [if_neg h2]
    by_cases h3 : runAt isDigit s i < B ∧ ((s.extract 0 B).get! (runAt isDigit s i)).toNat = 124 ∧ runAt isDigit s i + 1 < runAt isDigit (s.extract 0 B) (runAt isDigit s i + 1)
    · exfalso
      obtain ⟨h4, h5, h6⟩ := h3
      rw [cut_get hB h4] at h5
      rw [e2 h4 h5] at h6
      exact h2 ⟨by omega, h5, by omega⟩
    · rw [if_neg h3]
theorem cut_tok {s : ByteArray} {B i : Nat} (hB : B ≤ s.size) (hi : i < B) (h : Hops s i B) (he : (tokZ s i).err = 0) (hst : (tokZ s i).stop ≤ B) : tokZ (s.extract 0 B) i = tokZ s i := by
  obtain ⟨e1, e2, e3⟩ := cut_decode hB hi h
  have ek := cut_kAt hB hi h
  unfold tokZ at he hst ⊢
  rw [ek, e1]
  by_cases h1 : kAt s i = 1
  · rw [if_pos h1] at he hst
    have hle : runAt isWord s i ≤ B := by
      split at hst <;> exact hst
    have hr := cut_run isWord hB B i (by omega) (by omega) h
    rw [Nat.min_eq_left hle] at hr
    rw [if_pos h1, if_pos h1, hr, ext_cut hle]
  · rw [if_neg h1] at he hst
    rw [if_neg h1, if_neg h1]
    by_cases h2 : kAt s i = 2
    · rw [if_pos h2] at he hst
      have hle : numEnd s i ≤ B := by
        split at hst
        · exact hst
        · split at hst <;> exact hst
      rw [if_pos h2, if_pos h2, cut_numEnd hB (by omega) h hle, ext_cut hle]
    · rw [if_neg h2, if_neg h2, ext_cut e3]
def tokAt (s : ByteArray) (i : Nat) : Tok := ⟨(tokZ s i).kind, (tokZ s i).text, (placeZ s i).1, (placeZ s i).2⟩
inductive Lexed (s : ByteArray) : Nat → Nat → List Tok → Prop
  | refl (i : Nat) : Lexed s i i []
  | blank {i j : Nat} {ts : List Tok} : i < s.size → kAt s i = 3 → Lexed s (i + 1) j ts → Lexed s i j ts
  | tok {i j : Nat} {ts : List Tok} : i < s.size → kAt s i ≠ 3 → (tokZ s i).err = 0 → Lexed s (tokZ s i).stop j ts → Lexed s i j (tokAt s i :: ts)
theorem Lexed.trans {s : ByteArray} {i j k : Nat} {ts us : List Tok} (h : Lexed s i j ts) (h2 : Lexed s j k us) : Lexed s i k (ts ++ us) := by
  induction h with
  | refl => exact h2
  | blank a b _ ih => exact .blank a b (ih h2)
  | tok a b c _ ih => exact .tok a b c (ih h2)
theorem Lexed.hops {s : ByteArray} {i j : Nat} {ts : List Tok} (h : Lexed s i j ts) : Hops s i j := by
  induction h with
  | refl => exact .refl
  | blank a b _ ih =>
    have := (Hops.refl (s := s)).step a
    rw [kAt_three b] at this
    exact this.trans ih
  | tok a b c _ ih => exact (tok_hops a c).trans ih
theorem Lexed.few {s : ByteArray} {i j : Nat} {ts : List Tok} (h : Lexed s i j ts) : i + ts.length ≤ j := by
  induction h with
  | refl => simp
  | blank a b _ ih => omega
  | tok a b c _ ih => have := tokZ_stop a c; simp only [List.length_cons]; omega
theorem Lexed.lex {s : ByteArray} {i j : Nat} {ts : List Tok} (h : Lexed s i j ts) : ∀ out : List Tok, out.length + ts.length ≤ 4000 → lexAt s i out = lexAt s j (out ++ ts) := by
  induction h with
  | refl => intro out _; rw [List.append_nil]
  | blank a b _ ih => intro out hl; rw [lexAt_open a, if_pos b]; exact ih out hl
  | tok a b c _ ih =>
    intro out hl
    simp only [List.length_cons] at hl
    rw [lexAt_open a, if_neg b, if_neg (by omega), if_neg (not_not_intro c), ih _ (by simp; omega), List.append_assoc]
    rfl
theorem Lexed.all (s : ByteArray) : ∀ (f i : Nat), s.size ≤ i + f → i ≤ s.size → ∃ j ts, Lexed s i j ts ∧ (j = s.size ∨ (j < s.size ∧ kAt s j ≠ 3 ∧ (tokZ s j).err ≠ 0))
  | 0, i, h, hi => ⟨i, [], .refl i, .inl (by omega)⟩
  | f + 1, i, h, hi => by
    rcases Nat.lt_or_ge i s.size with h1 | h1
    · by_cases h3 : kAt s i = 3
      · obtain ⟨j, ts, a, b⟩ := Lexed.all s f (i + 1) (by omega) (by omega)
        exact ⟨j, ts, .blank h1 h3 a, b⟩
      · by_cases h4 : (tokZ s i).err = 0
        · have hst := tokZ_stop h1 h4
          obtain ⟨j, ts, a, b⟩ := Lexed.all s f (tokZ s i).stop (by omega) hst.2
          exact ⟨j, _, .tok h1 h3 h4 a, b⟩
        · exact ⟨i, [], .refl i, .inr ⟨h1, h3, h4⟩⟩
    · exact ⟨i, [], .refl i, .inl (by omega)⟩
inductive Lexes (s : ByteArray) : LexR → Prop
  | fine {ts : List Tok} : Lexed s 0 s.size ts → Lexes s ⟨ts, 0, 0, 0⟩
  | bad {j : Nat} {ts : List Tok} : Lexed s 0 j ts → j < s.size → kAt s j ≠ 3 → (tokZ s j).err ≠ 0 → Lexes s ⟨[], (placeZ s j).1, (placeZ s j).2, (tokZ s j).err⟩
theorem Lexed.fine {s : ByteArray} {ts : List Tok} (hs : s.size ≤ 4000) (h : Lexed s 0 s.size ts) : lexZ s = ⟨ts, 0, 0, 0⟩ := by
  have hf := h.few
  rw [lexZ_at (by omega), h.lex [] (by simp; omega), lexAt_end (Nat.le_refl _)]
  rfl
theorem Lexed.bad {s : ByteArray} {ts : List Tok} {j : Nat} (hs : s.size ≤ 4000) (h : Lexed s 0 j ts) (h1 : j < s.size) (h2 : kAt s j ≠ 3) (h3 : (tokZ s j).err ≠ 0) : lexZ s = ⟨[], (placeZ s j).1, (placeZ s j).2, (tokZ s j).err⟩ := by
  have hf := h.few
  rw [lexZ_at (by omega), h.lex [] (by simp; omega), lexAt_open h1, if_neg h2, if_neg (by simp; omega), if_pos h3]
theorem lexes (s : ByteArray) (hs : s.size ≤ 4000) : Lexes s (lexZ s) := by
  obtain ⟨j, ts, a, b⟩ := Lexed.all s s.size 0 (by omega) (by omega)
  rcases b with rfl | ⟨b1, b2, b3⟩
  · rw [a.fine hs]; exact .fine a
  · rw [a.bad hs b1 b2 b3]; exact .bad a b1 b2 b3
theorem bl_place {s x : ByteArray} (hx : Bl x) {i : Nat} (h : Hops s 0 i) : Hops (s ++ x) 0 i ∧ placeZ (s ++ x) i = placeZ s i := by
  induction h with
  | refl => exact ⟨.refl, by rw [show ((0 : Nat) : Int) = 0 from rfl, placeZ_first, placeZ_first]⟩
  | @step j h hj ih =>
    have hsz : (s ++ x).size = s.size + x.size := ByteArray.size_append
    have hd := bl_decode hx hj
    have h1 := ih.1.step (show j < (s ++ x).size by omega)
    have h2 := place_step ih.1 (show j < (s ++ x).size by omega)
    rw [hd] at h1 h2
    exact ⟨h1, by rw [h2, place_step h hj, ih.2]⟩
theorem bl_tokAt {s x : ByteArray} (hx : Bl x) {i : Nat} (hi : i < s.size) (h : Hops s 0 i) : tokAt (s ++ x) i = tokAt s i := by unfold tokAt; rw [bl_tok hx hi, (bl_place hx h).2]
theorem Lexed.bl {s x : ByteArray} (hx : Bl x) {i j : Nat} {ts : List Tok} (h : Lexed s i j ts) : Hops s 0 i → Lexed (s ++ x) i j ts := by
  have hsz : (s ++ x).size = s.size + x.size := ByteArray.size_append
  induction h with
  | refl => intro _; exact .refl _
  | blank a b _ ih =>
    intro h0
    have h1 := h0.step a
    rw [kAt_three b] at h1
    exact .blank (by omega) (by rw [bl_kAt hx a]; exact b) (ih h1)
  | tok a b c _ ih =>
    intro h0
    have h1 := h0.trans (tok_hops a c)
    rw [← bl_tokAt hx a h0]
    exact .tok (by omega) (by rw [bl_kAt hx a]; exact b) (by rw [bl_tok hx a]; exact c) (by rw [bl_tok hx a]; exact ih h1)
def _root_.Go.Tw.Tok.down (n : Int) (t : Tok) : Tok := ⟨t.kind, t.text, t.line + n, t.col⟩
theorem cut_place {s : ByteArray} {B i : Nat} (hB : B ≤ s.size) (h : Hops s 0 i) (hi : i ≤ B) : placeZ (s.extract 0 B) i = placeZ s i := by
  have hw := width_pos (s.extract 0 B) i
  obtain ⟨h1, hr⟩ := steps_piece (Hops.refl (s := s) (a := 0)) hB h hi
  rw [show ((0 : Nat) : Int) = 0 from rfl, placeZ_first] at hr
  have e := hr.here (at_ := (i : Int)) (by omega) (.inl (by rw [Nat.sub_zero]; omega))
  rw [e]
  refine Prod.ext (by simp only; omega) ?_
  simp only
  split <;> omega
theorem Lexed.ge {s : ByteArray} {i j : Nat} {ts : List Tok} (h : Lexed s i j ts) : i ≤ j := h.hops.ge
theorem Lexed.cut {s : ByteArray} {B i j : Nat} {ts : List Tok} (hB : B ≤ s.size) (h : Lexed s i j ts) : Hops s 0 i → Hops s j B → Lexed (s.extract 0 B) i j ts := by
  have hsz := cut_size hB
  induction h with
  | refl => intro _ _; exact .refl _
  | @blank i j ts a b c ih =>
    intro h0 hj
    have h1 := (Hops.refl (s := s)).step a
    rw [kAt_three b] at h1
    have hle := (c.hops.trans hj).ge
    exact .blank (by omega) (by rw [cut_kAt hB (by omega) (h1.trans (c.hops.trans hj))]; exact b) (ih (h0.trans h1) hj)
  | @tok i j ts a b c d ih =>
    intro h0 hj
    have h1 := tok_hops a c
    have hst := tokZ_stop a c
    have hle := (d.hops.trans hj).ge
    have hh := h1.trans (d.hops.trans hj)
    have ht := cut_tok hB (by omega) hh c hle
    have e : tokAt (s.extract 0 B) i = tokAt s i := by unfold tokAt; rw [ht, cut_place hB h0 (by omega)]
    rw [← e]
    exact .tok (by omega) (by rw [cut_kAt hB (by omega) hh]; exact b) (by rw [ht]; exact c) (by rw [ht]; exact ih (h0.trans h1) hj)
theorem Lexed.split {s : ByteArray} {i j : Nat} {ts : List Tok} (h : Lexed s i j ts) : ∀ n (hn : n < ts.length), ∃ k, Lexed s i k (ts.take n) ∧ k < s.size ∧ kAt s k ≠ 3 ∧ (tokZ s k).err = 0 ∧ ts[n] = tokAt s k ∧ Lexed s (tokZ s k).stop j (ts.drop (n + 1)) := by
  induction h with
  | refl => intro n hn; simp at hn
  | blank a b _ ih =>
    intro n hn
    obtain ⟨k, h1, h2⟩ := ih n hn
    exact ⟨k, .blank a b h1, h2⟩
  | @tok i j ts a b c d ih =>
    intro n hn
    cases n with
    | zero => exact ⟨i, .refl i, a, b, c, rfl, d⟩
    | succ n =>
      obtain ⟨k, h1, h2, h3, h4, h5, h6⟩ := ih n (by simpa using hn)
      exact ⟨k, .tok a b c h1, h2, h3, h4, by simpa using h5, h6⟩
structure Good (t : Tok) : Prop where
  some : 0 < t.text.size
  kind : kAt t.text 0 ≠ 3
  same : tokZ t.text 0 = ⟨t.kind, t.text, t.text.size, 0⟩
theorem tok_text {s : ByteArray} {i : Nat} (hi : i < s.size) (h : (tokZ s i).err = 0) : (tokZ s i).text = s.extract i (tokZ s i).stop := by
  unfold tokZ at h ⊢
  by_cases h1 : kAt s i = 1
  · rw [if_pos h1] at h ⊢
    split
    · rename_i h2; rw [if_pos h2] at h; simp at h
    · rfl
  · rw [if_neg h1] at h ⊢
    by_cases h2 : kAt s i = 2
    · rw [if_pos h2] at h ⊢
      split
      · rename_i h5; rw [if_pos h5] at h; simp at h
      · rename_i h5
        rw [if_neg h5] at h
        split
        · rfl
        · rename_i h6; rw [if_neg h6] at h; simp at h
    · rw [if_neg h2] at h ⊢
      by_cases h3 : kAt s i = 4
      · rw [if_pos h3]
      · rw [if_neg h3] at h; simp at h
theorem tok_good {s : ByteArray} {i : Nat} (hi : i < s.size) (h3 : kAt s i ≠ 3) (h : (tokZ s i).err = 0) : Good (tokAt s i) := by
  have hst := tokZ_stop hi h
  have htx := tok_text hi h
  have hc := cut_tok hst.2 hst.1 (tok_hops hi h) h (Nat.le_refl _)
  have hsz := cut_size hst.2
  have hk := cut_kAt hst.2 hst.1 (tok_hops hi h)
  have hx : (s.extract 0 (tokZ s i).stop).extract i (s.extract 0 (tokZ s i).stop).size = (tokZ s i).text := by rw [hsz, ext_cut (Nat.le_refl _), htx]
  have ht := tok_tail (s.extract 0 (tokZ s i).stop) i 0 (by omega)
  have hkt := kAt_tail (s.extract 0 (tokZ s i).stop) i 0 (by omega)
  rw [Nat.add_zero, hx] at ht hkt
  have hlen : (tokZ s i).text.size = (tokZ s i).stop - i := by rw [htx, ByteArray.size_extract]; omega
  refine ⟨by show 0 < (tokZ s i).text.size; omega, by show kAt (tokZ s i).text 0 ≠ 3; rw [← hkt, hk]; exact h3, ?_⟩
  show tokZ (tokZ s i).text 0 = ⟨(tokZ s i).kind, (tokZ s i).text, (tokZ s i).text.size, 0⟩
  rw [hc] at ht
  generalize tokZ (tokZ s i).text 0 = y at ht
  obtain ⟨y1, y2, y3, y4⟩ := y
  have g1 := congrArg TokR.kind ht
  have g2 := congrArg TokR.text ht
  have g3 := congrArg TokR.stop ht
  have g4 := congrArg TokR.err ht
  simp only [TokR.on] at g1 g2 g3 g4
  rw [g1, g2]
  have e3 : y3 = y2.size := by rw [← g2]; omega
  have e4 : y4 = 0 := by omega
  rw [e3, e4]
theorem Lexed.good {s : ByteArray} {i j : Nat} {ts : List Tok} (h : Lexed s i j ts) : ∀ t ∈ ts, Good t := by
  induction h with
  | refl => intro t ht; cases ht
  | blank a b _ ih => exact ih
  | tok a b c _ ih =>
    intro t ht
    rcases List.mem_cons.1 ht with rfl | ht
    · exact tok_good a b c
    · exact ih t ht
inductive Likes : List Tok → List Tok → Prop
  | nil : Likes [] []
  | cons {t u : Tok} {ts us : List Tok} : (t.kind = u.kind ∧ t.text = u.text) → Likes ts us → Likes (t :: ts) (u :: us)
theorem Likes.len {ts us : List Tok} (h : Likes ts us) : ts.length = us.length := by
  induction h with
  | nil => rfl
  | cons _ _ ih => simp [ih]
theorem Likes.get {ts us : List Tok} (h : Likes ts us) : ∀ i (h1 : i < ts.length) (h2 : i < us.length), (ts[i]).kind = (us[i]).kind ∧ (ts[i]).text = (us[i]).text := by
  induction h with
  | nil => intro i h1; simp at h1
  | cons a _ ih =>
    intro i h1 h2
    cases i with
    | zero => exact a
    | succ i => exact ih i (by simpa using h1) (by simpa using h2)
structure Plus (u : ByteArray) (n : Nat) : Prop where
  le : n ≤ u.size
  few : u.size ≤ 60000
  get : ∀ i, i < n → (u.get! i).toNat = 43
theorem Plus.kAt {u : ByteArray} {n i : Nat} (h : Plus u n) (hi : i < n) : kAt u i = 4 := by
  rw [kAt_ascii (by rw [h.get i hi]; omega), h.get i hi]; decide
theorem Plus.dec {u : ByteArray} {n i : Nat} (h : Plus u n) (hi : i < n) : Utf8.decode u i = (43, 1) := by
  rw [Go.Tw.decode_ascii (by rw [h.get i hi]; omega), h.get i hi]
theorem Plus.tok {u : ByteArray} {n i : Nat} (h : Plus u n) (hi : i < n) : (tokZ u i).err = 0 ∧ (tokZ u i).stop = i + 1 := by
  unfold tokZ
  rw [h.kAt hi, h.dec hi]
  exact ⟨rfl, rfl⟩
def DgS (s : ByteArray) : Prop := ∀ j, j < s.size → 48 ≤ (s.get! j).toNat ∧ (s.get! j).toNat ≤ 57
theorem byte_nat {n : Nat} (h : n ≤ 57) : (UInt8.ofNat n).toNat = n := by
  rw [UInt8.toNat_ofNat']; omega
theorem decS_list (n : Nat) : (decS n).toList = (digs n).reverse.map UInt8.ofNat := by
  rw [toList_data]
  unfold decS decL strOf
  simp [List.map_map]
theorem decS_dg (n : Nat) : DgS (decS n) := by
  intro j hj
  have h1 := get_toList hj
  rw [decS_list, List.getElem?_map] at h1
  cases hx : (digs n).reverse[j]? with
  | none => rw [hx] at h1; cases h1
  | some x =>
    rw [hx] at h1
    have hb := digs_byte n x (List.mem_reverse.1 (List.mem_of_getElem? hx))
    have e := Option.some.inj h1
    rw [← e, byte_nat hb.2]
    exact hb
theorem digs_val : ∀ n : Nat, decN ((digs n).reverse.map UInt8.ofNat) = n := by
  intro n
  induction n using Nat.strongRecOn with
  | ind n ih =>
    rw [digs]
    split
    · rename_i h
      show 10 * 0 + ((UInt8.ofNat (48 + n)).toNat - 48) = n
      rw [byte_nat (by omega)]
      omega
    · rename_i h
      rw [List.reverse_cons, List.map_append, List.map_cons, List.map_nil, decN_app, ih (n / 10) (by omega), byte_nat (by omega)]
      omega
theorem decS_val (n : Nat) : decN (decS n).toList = n := by rw [decS_list]; exact digs_val n
theorem digs_top : ∀ n : Nat, 10 ≤ n → ∃ x l, (digs n).reverse = x :: l ∧ x ≠ 48 := by
  intro n
  induction n using Nat.strongRecOn with
  | ind n ih =>
    intro h
    rw [digs, dif_neg (by omega), List.reverse_cons]
    by_cases h1 : n / 10 < 10
    · rw [digs, dif_pos h1]
      exact ⟨48 + n / 10, [48 + n % 10], rfl, by omega⟩
    · obtain ⟨x, l, e, hx⟩ := ih (n / 10) (by omega) (by omega)
      rw [e]
      exact ⟨x, l ++ [48 + n % 10], rfl, hx⟩
theorem decS_one {n : Nat} (h : n < 10) : (decS n).size = 1 := by rw [decS_size, digs, dif_pos h]; rfl
theorem decS_top (n : Nat) : (decS n).size = 1 ∨ ((decS n).get! 0).toNat ≠ 48 := by
  by_cases h : n < 10
  · exact .inl (decS_one h)
  · refine .inr ?_
    obtain ⟨x, l, e, hx⟩ := digs_top n (by omega)
    have hp := digs_pos n
    have h1 := get_toList (s := decS n) (j := 0) (by rw [decS_size]; exact hp)
    have hb := digs_byte n x (List.mem_reverse.1 (by rw [e]; exact List.mem_cons_self))
    rw [decS_list, e] at h1
    have e2 := Option.some.inj h1
    rw [← e2, byte_nat hb.2]
    exact hx
theorem dg_kAt {s : ByteArray} {i : Nat} (h : 48 ≤ (s.get! i).toNat ∧ (s.get! i).toNat ≤ 57) : kAt s i = 2 ∧ (Utf8.decode s i).2 = 1 := by
  have h1 : kAt s i = 2 := by
    rw [kAt_ascii (by omega)]
    exact kindZ_two.2 ⟨by omega, by omega⟩
  exact ⟨h1, (kAt_two h1).1⟩
theorem run_dg {s : ByteArray} {b : Nat} (hb : b ≤ s.size) (hstop : b < s.size → isDigit (kAt s b) = false) : ∀ (f i : Nat), b ≤ i + f → i ≤ b → (∀ j, i ≤ j → j < b → 48 ≤ (s.get! j).toNat ∧ (s.get! j).toNat ≤ 57) → runAt isDigit s i = b := by
  intro f
  induction f with
  | zero =>
    intro i h1 h2 _
    have : i = b := by omega
    subst this
    rcases Nat.lt_or_ge i s.size with h | h
    · exact runAt_stop h (hstop h)
    · rw [runAt_end h]; omega
  | succ f ih =>
    intro i h1 h2 hd
    by_cases hi : i < b
    · have hk := dg_kAt (hd i (Nat.le_refl _) hi)
      rw [runAt_step (by omega) (by rw [hk.1]; rfl), hk.2]
      exact ih (i + 1) (by omega) (by omega) fun j hj => hd j (by omega)
    · have : i = b := by omega
      subst this
      rcases Nat.lt_or_ge i s.size with h | h
      · exact runAt_stop h (hstop h)
      · rw [runAt_end h]; omega
theorem dg_run {s : ByteArray} (h : DgS s) {i : Nat} (hi : i ≤ s.size) : runAt isDigit s i = s.size :=
  run_dg (Nat.le_refl _) (fun h => absurd h (Nat.lt_irrefl _)) s.size i (by omega) hi fun j _ hj => h j hj
theorem part_of {s : ByteArray} (h : DgS s) (h1 : 1 ≤ s.size) (h2 : s.size ≤ 40) (h3 : s.size = 1 ∨ (s.get! 0).toNat ≠ 48) : partZ s = true := by
  unfold partZ
  rw [dg_run h (Nat.zero_le _)]
  simp only [Bool.and_eq_true, Bool.or_eq_true, decide_eq_true_eq]
  exact ⟨⟨⟨h1, h2⟩, trivial⟩, h3⟩
theorem decS_part {n : Nat} (h : (digs n).length ≤ 40) : partZ (decS n) = true :=
  part_of (decS_dg n) (by rw [decS_size]; exact digs_pos n) (by rw [decS_size]; exact h) (decS_top n)
theorem dg_cut {s : ByteArray} (h : DgS s) : ∀ (f i : Nat), s.size ≤ i + f → i ≤ s.size → cutGo s (s.size - i) i = s.size := by
  intro f
  induction f with
  | zero => intro i h1 h2; exact cutGo_end (by omega)
  | succ f ih =>
    intro i h1 h2
    rcases Nat.lt_or_ge i s.size with hi | hi
    · rw [cutGo_step hi (by have := h i hi; omega)]
      exact ih (i + 1) (by omega) hi
    · exact cutGo_end hi
theorem dg_cutZ {s : ByteArray} (h : DgS s) : cutZ s = s.size := dg_cut h s.size 0 (by omega) (Nat.zero_le _)
theorem cut_first {s : ByteArray} {b : Nat} (hb : b < s.size) (h1 : (s.get! b).toNat = 124) (h : ∀ j, j < b → (s.get! j).toNat ≠ 124) : cutZ s = b := by
  have key : ∀ (f i : Nat), b ≤ i + f → i ≤ b → cutGo s (s.size - i) i = b := by
    intro f
    induction f with
    | zero =>
      intro i k1 k2
      have : i = b := by omega
      subst this
      exact cutGo_stop hb h1
    | succ f ih =>
      intro i k1 k2
      by_cases hi : i < b
      · rw [cutGo_step (by omega) (h i hi)]
        exact ih (i + 1) (by omega) hi
      · have : i = b := by omega
        subst this
        exact cutGo_stop hb h1
  exact key b 0 (by omega) (Nat.zero_le _)
def ratS (q : Rat) : ByteArray := if q.den = 1 then decS q.num.natAbs else decS q.num.natAbs ++ ⟨#[124]⟩ ++ decS q.den
structure NumS (s : ByteArray) (q : Rat) : Prop where
  num : numZ s = true
  val : numQ s = q
  good : Good ⟨1, s, 0, 0⟩
theorem good_num {s : ByteArray} (h0 : 0 < s.size) (hd : 48 ≤ (s.get! 0).toNat ∧ (s.get! 0).toNat ≤ 57) (hn : numZ s = true) (he : numEnd s 0 = s.size) (hc : cutZ s ≤ 40) (hc2 : s.size - cutZ s ≤ 41) : Good ⟨1, s, 0, 0⟩ := by
  have hk := (dg_kAt hd).1
  refine ⟨h0, by show kAt s 0 ≠ 3; rw [hk]; decide, ?_⟩
  show tokZ s 0 = ⟨1, s, s.size, 0⟩
  unfold tokZ
  rw [if_neg (by rw [hk]; decide), if_pos hk, he, cut_full, if_neg (by omega), if_pos hn]
theorem num_whole {n : Nat} (h : (digs n).length ≤ 40) : NumS (decS n) (mkRat n 1) := by
  have hd := decS_dg n
  have hp := decS_part h
  have hs : 0 < (decS n).size := by rw [decS_size]; exact digs_pos n
  have hc := dg_cutZ hd
  have hn : numZ (decS n) = true := by unfold numZ; rw [if_pos hc]; exact hp
  refine ⟨hn, ?_, good_num hs (hd 0 hs) hn ?_ (by rw [hc, decS_size]; exact h) (by rw [hc]; omega)⟩
  · unfold numQ
    rw [if_pos hc, hc, cut_full, decS_val]
  · unfold numEnd
    rw [dg_run hd (Nat.zero_le _), if_neg (by omega)]
theorem num_both {n d : Nat} (h : (digs n).length ≤ 40) (h2 : (digs d).length ≤ 40) (hd0 : d ≠ 0) : NumS (decS n ++ ⟨#[124]⟩ ++ decS d) (mkRat n d) := by
  generalize hs : decS n ++ (⟨#[124]⟩ : ByteArray) ++ decS d = s
  have hdn := decS_dg n
  have hdd := decS_dg d
  have hn0 : 0 < (decS n).size := by rw [decS_size]; exact digs_pos n
  have hd1 : 0 < (decS d).size := by rw [decS_size]; exact digs_pos d
  have hn4 : (decS n).size ≤ 40 := by rw [decS_size]; exact h
  have hd4 : (decS d).size ≤ 40 := by rw [decS_size]; exact h2
  have hsz : s.size = (decS n).size + 1 + (decS d).size := by rw [← hs, ByteArray.size_append, ByteArray.size_append]; rfl
  have hsz1 : (decS n ++ (⟨#[124]⟩ : ByteArray)).size = (decS n).size + 1 := by rw [ByteArray.size_append]; rfl
  have g1 : ∀ j, j < (decS n).size → s.get! j = (decS n).get! j := fun j hj => by rw [← hs, get_left _ _ _ (by omega), get_left _ _ _ hj]
  have g2 : (s.get! (decS n).size).toNat = 124 := by
    rw [← hs, get_left _ _ _ (by omega)]
    have := get_right (decS n) ⟨#[124]⟩ 0
    rw [Nat.add_zero] at this
    rw [this]; rfl
  have g3 : ∀ j, s.get! ((decS n).size + 1 + j) = (decS d).get! j := fun j => by
    rw [← hs, ← hsz1]; exact get_right _ _ _
  have hcut : cutZ s = (decS n).size := cut_first (by omega) g2 fun j hj => by rw [g1 j hj]; have := hdn j hj; omega
  have x1 : s.extract 0 (decS n).size = decS n := by rw [← hs, ByteArray.append_assoc]; exact ByteArray.extract_append_eq_left rfl
  have x2 : s.extract ((decS n).size + 1) s.size = decS d := by
    have := tail_of (decS n ++ (⟨#[124]⟩ : ByteArray)) (decS d)
    rw [hs, hsz1] at this
    exact this
  have hnot : ((decS d).toList == (ByteArray.mk #[48]).toList) = false := by
    rw [beq_eq_false_iff_ne]
    intro e
    have := decS_val d
    rw [e, toList_data] at this
    exact hd0 this.symm
  have hn : numZ s = true := by
    unfold numZ
    rw [if_neg (by omega), hcut, x1, x2, decS_part h, decS_part h2, hnot]
    rfl
  have r1 : runAt isDigit s 0 = (decS n).size := run_dg (by omega) (fun _ => by
    rw [kAt_ascii (by omega), g2]; rfl) s.size 0 (by omega) (Nat.zero_le _) fun j _ hj => by rw [g1 j hj]; exact hdn j hj
  have r2 : runAt isDigit s ((decS n).size + 1) = s.size := run_dg (Nat.le_refl _) (fun h => absurd h (Nat.lt_irrefl _)) s.size _ (by omega) (by omega) fun j h1 h2 => by
    obtain ⟨k, rfl⟩ : ∃ k, j = (decS n).size + 1 + k := ⟨j - ((decS n).size + 1), by omega⟩
    rw [g3]; exact hdd k (by omega)
  refine ⟨hn, ?_, good_num (by omega) (by rw [g1 0 hn0]; exact hdn 0 hn0) hn ?_ (by omega) (by omega)⟩
  · unfold numQ
    rw [if_neg (by omega), hcut, x1, x2, decS_val, decS_val]
  · unfold numEnd
    rw [r1, if_pos ⟨by omega, g2, by rw [r2]; omega⟩, r2]
theorem num_rat {q : Rat} (h0 : 0 ≤ q.num) (h1 : (digs q.num.natAbs).length ≤ 40) (h2 : (digs q.den).length ≤ 40) : NumS (ratS q) q := by
  have e : ((q.num.natAbs : Nat) : Int) = q.num := by omega
  have hq : mkRat (q.num.natAbs : Int) q.den = q := by rw [e]; exact Rat.mkRat_self q
  unfold ratS
  split
  · rename_i hd
    have := num_whole h1
    rw [hd] at hq
    rw [hq] at this
    exact this
  · have := num_both h1 h2 q.den_nz
    rw [hq] at this
    exact this
theorem expo_dec {n : Nat} (h : n ≤ 20) : expoZ (decS n) = some n := by
  have hv := decS_val n
  have hd := decS_dg n
  unfold expoZ
  by_cases h1 : n < 10
  · rw [if_pos (decS_one h1), hv]
  · have hs : (decS n).size = 2 := by rw [decS_size, digs, dif_neg h1, digs, dif_pos (by omega)]; rfl
    rw [if_neg (by omega), if_pos ⟨hs, by have := hd 1 (by omega); omega, by rw [hv]; exact h⟩, hv]
theorem name_run (s : ByteArray) : ∀ (f i : Nat), s.size ≤ i + f → i ≤ s.size → nameGo s (s.size - i) i = true → runAt isWord s i = s.size := by
  intro f
  induction f with
  | zero => intro i h1 h2 _; exact runAt_end (by omega)
  | succ f ih =>
    intro i h1 h2 hn
    rcases Nat.lt_or_ge i s.size with hi | hi
    · have hw := width_in s i hi
      have hp := width_pos s i
      have hno : ¬ ((kindZ (Utf8.decode s i).1 ≠ 1 ∧ kindZ (Utf8.decode s i).1 ≠ 2) ∨ (kindZ (Utf8.decode s i).1 = 2 ∧ i = 0)) := fun h => by
        rw [nameGo_no hi h] at hn; cases hn
      rw [nameGo_step hi hno] at hn
      have hk : isWord (kAt s i) = true := by
        unfold isWord kAt
        have : kindZ (Utf8.decode s i).1 = 1 ∨ kindZ (Utf8.decode s i).1 = 2 := by
          by_cases a : kindZ (Utf8.decode s i).1 = 1
          · exact .inl a
          · by_cases b : kindZ (Utf8.decode s i).1 = 2
            · exact .inr b
            · exact absurd (.inl ⟨a, b⟩) hno
        rcases this with a | a <;> rw [a] <;> rfl
      rw [runAt_step hi hk]
      exact ih _ (by omega) (by omega) hn
    · exact runAt_end hi
theorem name_parts {s : ByteArray} (h : nameZ s = true) : 1 ≤ s.size ∧ s.size ≤ 40 ∧ keyZ s = false ∧ nameGo s (s.size - 0) 0 = true := by
  unfold nameZ at h
  simp only [Bool.and_eq_true, decide_eq_true_eq, Bool.not_eq_true'] at h
  exact ⟨h.1.1.1, h.1.1.2, h.1.2, h.2⟩
theorem good_name {s : ByteArray} (h : nameZ s = true) : Good ⟨0, s, 0, 0⟩ := by
  obtain ⟨h1, h2, _, h4⟩ := name_parts h
  have hr := name_run s s.size 0 (by omega) (Nat.zero_le _) h4
  have hk : kAt s 0 = 1 := by
    have hno : ¬ ((kindZ (Utf8.decode s 0).1 ≠ 1 ∧ kindZ (Utf8.decode s 0).1 ≠ 2) ∨ (kindZ (Utf8.decode s 0).1 = 2 ∧ (0 : Nat) = 0)) := fun h => by
      rw [nameGo_no h1 h] at h4; cases h4
    by_cases a : kindZ (Utf8.decode s 0).1 = 1
    · exact a
    · by_cases b : kindZ (Utf8.decode s 0).1 = 2
      · exact absurd (.inr ⟨b, rfl⟩) hno
      · exact absurd (.inl ⟨a, b⟩) hno
  refine ⟨h1, by show kAt s 0 ≠ 3; rw [hk]; decide, ?_⟩
  show tokZ s 0 = ⟨0, s, s.size, 0⟩
  unfold tokZ
  rw [if_pos hk, hr, if_neg (by omega), cut_full]
def tk (k : Int) (s : ByteArray) : Tok := ⟨k, s, 0, 0⟩
def signS (k : Int) : ByteArray := if k = 2 then plusS else if k = 3 then minusS else if k = 4 then starS else slashS
def restK : List ByteArray → List Tok
  | [] => [tk 2 semiS]
  | s :: l => tk 2 commaS :: tk 0 s :: restK l
def namesK (key : ByteArray) : List ByteArray → List Tok
  | [] => [tk 0 key, tk 2 semiS]
  | s :: l => tk 0 key :: tk 0 s :: restK l
theorem good_key {s : ByteArray} (h : s = inS ∨ s = letS ∨ s = outS) : Good (tk 0 s) := by
  rcases h with rfl | rfl | rfl
  · exact ⟨by decide, by decide +kernel, by kernel_rfl⟩
  · exact ⟨by decide, by decide +kernel, by kernel_rfl⟩
  · exact ⟨by decide, by decide +kernel, by kernel_rfl⟩
theorem sign_in (k : Int) : signS k = lpar ∨ signS k = rpar ∨ signS k = Go.Tw.caret ∨ signS k = minusS ∨ signS k = plusS ∨ signS k = starS ∨ signS k = slashS ∨ signS k = semiS ∨ signS k = commaS ∨ signS k = equalS := by
  unfold signS
  split
  · simp
  · split
    · simp
    · split <;> simp
theorem digs_small {n : Nat} (h : n ≤ 20) : (digs n).length ≤ 40 := digs_forty (Nat.lt_of_le_of_lt h (by decide))
theorem isT_tk (k : Int) (s : ByteArray) : isT (tk k s) k s = true := by simp [isT, tk]
theorem isT_ne {k : Int} {s t : ByteArray} (h : s.data.toList ≠ t.data.toList) : isT (tk k s) k t = false := by
  unfold isT tk
  rw [toList_data, toList_data]
  have : (s.data.toList == t.data.toList) = false := by simpa using h
  rw [this, Bool.and_false]
theorem isT_kd {x : Tok} {k : Int} {t : ByteArray} (h : x.kind ≠ k) : isT x k t = false := by simp [isT, h]
structure Ends (r : List Tok) : Prop where
  pw : hdT r 2 Go.Tw.caret = false
  ml : hdK mulK r = none
  ad : hdK addK r = none
theorem mulK_none {x : Tok} (h1 : isT x 2 starS = false) (h2 : isT x 2 slashS = false) : mulK x = none := by unfold mulK; rw [if_neg (by rw [h1]; decide), if_neg (by rw [h2]; decide)]
theorem addK_none {x : Tok} (h1 : isT x 2 plusS = false) (h2 : isT x 2 minusS = false) : addK x = none := by unfold addK; rw [if_neg (by rw [h1]; decide), if_neg (by rw [h2]; decide)]
theorem ends_rpar (r : List Tok) : Ends (tk 2 rpar :: r) := ⟨isT_ne (by decide), mulK_none (isT_ne (by decide)) (isT_ne (by decide)), addK_none (isT_ne (by decide)) (isT_ne (by decide))⟩
theorem ends_semi (r : List Tok) : Ends (tk 2 semiS :: r) := ⟨isT_ne (by decide), mulK_none (isT_ne (by decide)) (isT_ne (by decide)), addK_none (isT_ne (by decide)) (isT_ne (by decide))⟩
theorem sign_pow (k : Int) (r : List Tok) : hdT (tk 2 (signS k) :: r) 2 Go.Tw.caret = false := by
  unfold signS
  split
  · exact isT_ne (by decide)
  · split
    · exact isT_ne (by decide)
    · split <;> exact isT_ne (by decide)
theorem sign_mul {k : Int} (h : k = 4 ∨ k = 5) : mulK (tk 2 (signS k)) = some k := by
  rcases h with rfl | rfl
  · show mulK (tk 2 starS) = some 4; unfold mulK; rw [if_pos (isT_tk 2 starS)]
  · show mulK (tk 2 slashS) = some 5; unfold mulK; rw [if_neg (by rw [isT_ne (by decide)]; decide), if_pos (isT_tk 2 slashS)]
theorem sign_add {k : Int} (h : k = 2 ∨ k = 3) : addK (tk 2 (signS k)) = some k ∧ mulK (tk 2 (signS k)) = none := by
  rcases h with rfl | rfl
  · exact ⟨by show addK (tk 2 plusS) = some 2; unfold addK; rw [if_pos (isT_tk 2 plusS)], mulK_none (isT_ne (by decide)) (isT_ne (by decide))⟩
  · exact ⟨by show addK (tk 2 minusS) = some 3; unfold addK; rw [if_neg (by rw [isT_ne (by decide)]; decide), if_pos (isT_tk 2 minusS)], mulK_none (isT_ne (by decide)) (isT_ne (by decide))⟩
theorem restK_names : ∀ (l : List ByteArray) (s : ByteArray) (r : List Tok), nameZ s = true → NamesOk l → namesZ (tk 0 s :: (restK l ++ r)) = .ok (s :: l) r
  | [], s, r, h, _ => by
    have hn : nameT (tk 0 s) = true := by unfold nameT tk; rw [h]; rfl
    show namesZ (tk 0 s :: tk 2 semiS :: r) = _
    rw [namesZ, if_pos hn, if_neg (by rw [isT_ne (by decide)]; decide), if_pos (isT_tk 2 semiS)]
    rfl
  | t :: l, s, r, h, hl => by
    have hn : nameT (tk 0 s) = true := by unfold nameT tk; rw [h]; rfl
    have ih := restK_names l t r (hl t List.mem_cons_self) fun b hb => hl b (List.mem_cons_of_mem _ hb)
    show namesZ (tk 0 s :: tk 2 commaS :: (tk 0 t :: (restK l ++ r))) = _
    rw [namesZ, if_pos hn, if_pos (isT_tk 2 commaS), ih]
    rfl
def st (t : Tok) : Tok := tk t.kind t.text
theorem isT_st (x : Tok) (k : Int) (t : ByteArray) : isT (st x) k t = isT x k t := by cases x; rfl
theorem hdT_st (r : List Tok) (k : Int) (t : ByteArray) : hdT (r.map st) k t = hdT r k t := by cases r <;> rfl
theorem hdK_mul (r : List Tok) : hdK mulK (r.map st) = hdK mulK r := by cases r <;> rfl
theorem hdK_add (r : List Tok) : hdK addK (r.map st) = hdK addK r := by cases r <;> rfl
def _root_.Go.Tw.POut.st : POut → POut
  | .bad r => .bad (r.map Go.Proofs.YtfcmhcaggdakbaaGreatDoor.st)
  | .ok a r => .ok a (r.map Go.Proofs.YtfcmhcaggdakbaaGreatDoor.st)
theorem expoF_st (r : List Tok) : expoF (r.map st) = ((expoF r).1, (expoF r).2.map st) := by
  cases r with
  | nil => rfl
  | cons x r =>
    simp only [List.map_cons, expoF, isT_st]
    by_cases c : isT x 2 minusS = true
    · rw [if_pos c, if_pos c]
      cases r with
      | nil => rfl
      | cons y r =>
        by_cases hk : y.kind = 1
        · have hk' : (st y).kind = 1 := hk
          cases he : expoZ y.text with
          | none => have he' : expoZ (st y).text = none := he; simp only [List.map_cons, if_pos hk, if_pos hk', he, he']
          | some n => have he' : expoZ (st y).text = some n := he; simp only [List.map_cons, if_pos hk, if_pos hk', he, he']
        · have hk' : ¬ (st y).kind = 1 := hk
          simp only [List.map_cons, if_neg hk, if_neg hk']
    · rw [if_neg c, if_neg c]
      by_cases hk : x.kind = 1
      · have hk' : (st x).kind = 1 := hk
        cases he : expoZ x.text with
        | none => have he' : expoZ (st x).text = none := he; simp only [if_pos hk, if_pos hk', he, he', List.map_cons]
        | some n => have he' : expoZ (st x).text = some n := he; simp only [if_pos hk, if_pos hk', he, he', List.map_cons]
      · have hk' : ¬ (st x).kind = 1 := hk
        simp only [if_neg hk, if_neg hk', List.map_cons]
theorem psF_st : ∀ (f : Nat) (lv : Lv) (all : List NodeC) (r : List Tok), psF f lv all (r.map st) = (psF f lv all r).st := by
  intro f
  induction f with
  | zero => intro lv all r; rfl
  | succ f ih =>
    intro lv all r
    cases lv with
    | atom =>
      cases r with
      | nil => rfl
      | cons x r =>
        simp only [List.map_cons, psF, isT_st]
        by_cases c : isT x 2 lpar = true
        · rw [if_pos c, if_pos c, ih]
          cases psF f .sum all r with
          | bad r1 => rfl
          | ok a r1 =>
            simp only [POut.st, hdT_st]
            by_cases c2 : hdT r1 2 rpar = true
            · rw [if_pos c2, if_pos c2, ← List.map_drop]
            · rw [if_neg c2, if_neg c2]
        · rw [if_neg c, if_neg c]
          have hl : leafT (st x) = leafT x := by cases x; rfl
          rw [hl]
          by_cases c2 : leafT x = true
          · rw [if_pos c2, if_pos c2]; rfl
          · rw [if_neg c2, if_neg c2]; rfl
    | powL =>
      cases r with
      | nil => rfl
      | cons x r =>
        simp only [List.map_cons, psF, isT_st]
        by_cases c : isT x 2 Go.Tw.caret = true
        · rw [if_pos c, if_pos c, expoF_st]
          rcases expoF r with ⟨e, r1⟩
          cases e <;> rfl
        · rw [if_neg c, if_neg c]; rfl
    | power =>
      simp only [psF]
      rw [ih]
      cases psF f .atom all r with
      | bad r1 => rfl
      | ok a r1 => exact ih _ _ _
    | factor =>
      cases r with
      | nil => exact ih .power all []
      | cons x r =>
        simp only [List.map_cons, psF, isT_st]
        by_cases c : isT x 2 minusS = true
        · rw [if_pos c, if_pos c, ih]
          cases psF f .factor all r with
          | bad r1 => rfl
          | ok a r1 => rfl
        · rw [if_neg c, if_neg c]
          have := ih .power all (x :: r)
          rw [List.map_cons] at this
          exact this
    | prodL =>
      simp only [psF, hdK_mul]
      cases hdK mulK r with
      | none => rfl
      | some k =>
        dsimp only
        rw [← List.map_drop, ih]
        cases psF f .factor all (r.drop 1) with
        | bad r1 => rfl
        | ok a r1 => exact ih _ _ _
    | product =>
      simp only [psF]
      rw [ih]
      cases psF f .factor all r with
      | bad r1 => rfl
      | ok a r1 => exact ih _ _ _
    | sumL =>
      simp only [psF, hdK_add]
      cases hdK addK r with
      | none => rfl
      | some k =>
        dsimp only
        rw [← List.map_drop, ih]
        cases psF f .product all (r.drop 1) with
        | bad r1 => rfl
        | ok a r1 => exact ih _ _ _
    | sum =>
      simp only [psF]
      rw [ih]
      cases psF f .product all r with
      | bad r1 => rfl
      | ok a r1 => exact ih _ _ _
def _root_.Go.Tw.NOut.st : NOut → NOut
  | .bad r => .bad (r.map Go.Proofs.YtfcmhcaggdakbaaGreatDoor.st)
  | .ok l r => .ok l (r.map Go.Proofs.YtfcmhcaggdakbaaGreatDoor.st)
theorem namesZ_st : ∀ (r : List Tok), namesZ (r.map st) = (namesZ r).st
  | [] => rfl
  | [x] => by
    show NOut.bad (if nameT x = true then [] else [st x]) = (NOut.bad (if nameT x = true then [] else [x])).st
    by_cases c : nameT x = true
    · rw [if_pos c, if_pos c]; rfl
    · rw [if_neg c, if_neg c]; rfl
  | x :: y :: r => by
    have ih := namesZ_st r
    rw [List.map_cons, List.map_cons, namesZ, namesZ]
    have e1 : nameT (st x) = nameT x := by cases x; rfl
    rw [e1, isT_st, isT_st]
    by_cases c : nameT x = true
    · rw [if_pos c, if_pos c]
      by_cases c2 : isT y 2 commaS = true
      · rw [if_pos c2, if_pos c2, ih]
        cases namesZ r <;> rfl
      · rw [if_neg c2, if_neg c2]
        by_cases c3 : isT y 2 semiS = true
        · rw [if_pos c3, if_pos c3]; rfl
        · rw [if_neg c3, if_neg c3]; rfl
    · rw [if_neg c, if_neg c]; rfl
def _root_.Go.Tw.LO.st : LO → LO
  | .bad r => .bad (r.map Go.Proofs.YtfcmhcaggdakbaaGreatDoor.st)
  | .ok n a r => .ok n a (r.map Go.Proofs.YtfcmhcaggdakbaaGreatDoor.st)
theorem lt1F_st (all : List NodeC) (r : List Tok) : lt1F all (r.map st) = (lt1F all r).st := by
  cases r with
  | nil => rfl
  | cons x r =>
    simp only [List.map_cons, lt1F]
    have e1 : nameT (st x) = nameT x := by cases x; rfl
    rw [e1, hdT_st]
    by_cases c : nameT x = true
    · rw [if_pos c, if_pos c]
      by_cases c2 : hdT r 2 equalS = true
      · rw [if_pos c2, if_pos c2, List.length_map, ← List.map_drop, psF_st]
        cases psF (8 * r.length + 5) .sum all (r.drop 1) with
        | bad r1 => rfl
        | ok a r1 =>
          simp only [POut.st, hdT_st]
          by_cases c3 : hdT r1 2 semiS = true
          · rw [if_pos c3, if_pos c3, ← List.map_drop]; rfl
          · rw [if_neg c3, if_neg c3]; rfl
      · rw [if_neg c2, if_neg c2]; rfl
    · rw [if_neg c, if_neg c]; rfl
def _root_.Go.Tw.LSO.st : LSO → LSO
  | .bad r => .bad (r.map Go.Proofs.YtfcmhcaggdakbaaGreatDoor.st)
  | .ok l a r => .ok l a (r.map Go.Proofs.YtfcmhcaggdakbaaGreatDoor.st)
theorem ltsF_st : ∀ (f : Nat) (ls : List LetC) (all : List NodeC) (r : List Tok), ltsF f ls all (r.map st) = (ltsF f ls all r).st := by
  intro f
  induction f with
  | zero => intro ls all r; rfl
  | succ f ih =>
    intro ls all r
    simp only [ltsF, hdT_st]
    by_cases c : hdT r 0 letS = true
    · rw [if_pos c, if_pos c, ← List.map_drop, lt1F_st]
      cases lt1F all (r.drop 1) with
      | bad r1 => rfl
      | ok n a r1 => exact ih _ _ _
    · rw [if_neg c, if_neg c]; rfl
def _root_.Go.Tw.PO.st : PO → PO
  | .bad r => .bad (r.map Go.Proofs.YtfcmhcaggdakbaaGreatDoor.st)
  | .ok p => .ok p
theorem prgF_st (r : List Tok) : prgF (r.map st) = (prgF r).st := by
  simp only [prgF, hdT_st]
  by_cases c : hdT r 0 inS = true
  · rw [if_pos c, if_pos c, ← List.map_drop, namesZ_st]
    cases namesZ (r.drop 1) with
    | bad r1 => rfl
    | ok ins r1 =>
      simp only [NOut.st]
      rw [List.length_map, ltsF_st]
      cases ltsF (r1.length + 1) [] [] r1 with
      | bad r2 => rfl
      | ok ls all r2 =>
        simp only [LSO.st, hdT_st]
        by_cases c2 : hdT r2 0 outS = true
        · rw [if_pos c2, if_pos c2, ← List.map_drop, namesZ_st]
          cases namesZ (r2.drop 1) with
          | bad r3 => rfl
          | ok outs r3 => cases r3 <;> rfl
        · rw [if_neg c2, if_neg c2]; rfl
  · rw [if_neg c, if_neg c]; rfl
theorem prgZ_ok_st {L T : List Tok} {p : ProgC} (h : L.map st = T) (hT : Prg T (.ok p)) : prgZ L = .ok p := by
  have h1 := prgF_st L
  rw [h, prg_fn hT] at h1
  rw [prgZ_fn]
  cases e : prgF L with
  | bad r => rw [e] at h1; cases h1
  | ok q => rw [e] at h1; cases h1; rfl
theorem good_small {t : Tok} (g : Good t) : t.text.size ≤ 81 := by
  have h := g.same
  have h0 := g.some
  unfold tokZ at h
  split at h
  · split at h
    · cases congrArg TokR.err h
    · have := congrArg TokR.stop h
      dsimp only at this
      omega
  · split at h
    · split at h
      · cases congrArg TokR.err h
      · rename_i hc
        split at h
        · have h2 := congrArg TokR.stop h
          dsimp only at h2
          rw [h2, cut_full] at hc
          have := cutZ_le t.text
          omega
        · cases congrArg TokR.err h
    · split at h
      · have h2 := congrArg TokR.stop h
        dsimp only at h2
        have := width_pos t.text 0
        omega
      · cases congrArg TokR.err h
theorem likes_st {ts us : List Tok} (h : Likes ts us) : us.map st = ts.map st := by
  induction h with
  | nil => rfl
  | cons a _ ih => rw [List.map_cons, List.map_cons, ih]; unfold st; rw [a.1, a.2]
theorem restK_st : ∀ (l : List ByteArray), (restK l).map st = restK l
  | [] => rfl
  | s :: l => by
    have h := restK_st l
    simp [restK, h]
    exact ⟨rfl, rfl⟩
theorem namesK_st (key : ByteArray) (l : List ByteArray) : (namesK key l).map st = namesK key l := by
  cases l with
  | nil => rfl
  | cons s l =>
    have h := restK_st l
    simp [namesK, h]
    exact ⟨rfl, rfl⟩
def Cl (b : UInt8) : Prop := b ≠ 32 ∧ b ≠ 59 ∧ b ≠ 61
def ClS (s : ByteArray) : Prop := ∀ b ∈ s.data.toList, Cl b
theorem cont_byte {s : ByteArray} {i j : Nat} (h1 : i < j) (h2 : j < i + (Utf8.decode s i).2) : 128 ≤ (s.get! j).toNat := by
  rw [Lib.decode_at] at h2
  unfold Lib.decodeN at h2
  have hj : j = i + 1 ∨ j = i + 2 ∨ j = i + 3 ∨ i + 4 ≤ j := by omega
  repeat' split at h2
  all_goals (dsimp only at h2; rcases hj with rfl | rfl | rfl | hj <;> omega)
def NoS (s : ByteArray) : Prop := ∀ b ∈ s.data.toList, b ≠ 32 ∧ b ≠ 61
theorem ClS.no {s : ByteArray} (h : ClS s) : NoS s := fun b hb => ⟨(h b hb).1, (h b hb).2.2⟩
def bk (l : List UInt8) : ByteArray := ⟨l.toArray⟩
structure Sg (t : Tok) : Prop where
  kind : t.kind = 2
  text : ∃ b : UInt8, t.text = ⟨#[b]⟩ ∧ b.toNat < 128 ∧ kindZ b.toNat = 4
theorem sg_tok {t : Tok} (h : Sg t) (p x : ByteArray) : kAt (p ++ (t.text ++ x)) p.size = 4 ∧ tokZ (p ++ (t.text ++ x)) p.size = ⟨2, t.text, p.size + 1, 0⟩ := by
  obtain ⟨hk, b, e, hb, h4⟩ := h
  have h0 : (t.text ++ x).get! 0 = b := by rw [e, get_left (⟨#[b]⟩ : ByteArray) x 0 Nat.zero_lt_one]; rfl
  have h1 : (p ++ (t.text ++ x)).get! p.size = b := by rw [get_mid, h0]
  have hka : kAt (p ++ (t.text ++ x)) p.size = 4 := by rw [kAt_ascii (by rw [h1]; exact hb), h1]; exact h4
  have hsz : (p ++ (t.text ++ x)).size = p.size + (1 + x.size) := by rw [ByteArray.size_append, ByteArray.size_append, e]; rfl
  refine ⟨hka, ?_⟩
  have ht := tok_tail (p ++ (t.text ++ x)) p.size 0 (by omega)
  rw [tail_of, Nat.add_zero] at ht
  rw [ht]
  have hk0 : kAt (t.text ++ x) 0 = 4 := by rw [kAt_ascii (by rw [h0]; exact hb), h0]; exact h4
  unfold tokZ
  rw [hk0, if_neg (by decide), if_neg (by decide), if_pos rfl, Go.Tw.decode_ascii (by rw [h0]; exact hb)]
  show (⟨2, (t.text ++ x).extract 0 1, p.size + 1, 0⟩ : TokR) = _
  rw [ext_left (show 1 ≤ t.text.size by rw [e]; exact Nat.le_refl _), e]
  rfl
theorem blank3 (p x : ByteArray) (b : UInt8) (h : b = 32 ∨ b = 10 ∨ b = 9) : p.size < (p ++ (⟨#[b]⟩ ++ x)).size ∧ kAt (p ++ (⟨#[b]⟩ ++ x)) p.size = 3 := by
  have h0 : ((⟨#[b]⟩ : ByteArray) ++ x).get! 0 = b := by rw [get_left (⟨#[b]⟩ : ByteArray) x 0 Nat.zero_lt_one]; rfl
  have h1 : (p ++ (⟨#[b]⟩ ++ x)).get! p.size = b := by rw [get_mid, h0]
  refine ⟨by rw [ByteArray.size_append, ByteArray.size_append]; show _ < _ + (1 + _); omega, ?_⟩
  rcases h with rfl | rfl | rfl
  · rw [kAt_ascii (by rw [h1]; decide), h1]; decide
  · rw [kAt_ascii (by rw [h1]; decide), h1]; decide
  · rw [kAt_ascii (by rw [h1]; decide), h1]; decide
def Bs (x : ByteArray) : Prop := x.size = 0 ∨ ((x.get! 0).toNat < 128 ∧ (kindZ (x.get! 0).toNat = 3 ∨ kindZ (x.get! 0).toNat = 4))
theorem kind_bar : kindZ 124 = 0 := by decide
theorem bs_decode {s x : ByteArray} (hx : Bs x) {i : Nat} (hi : i < s.size) : Utf8.decode (s ++ x) i = Utf8.decode s i := by
  have hsz : (s ++ x).size = s.size + x.size := ByteArray.size_append
  have hm := get_mid s x
  have hstop : s.size < (s ++ x).size → ((s ++ x).get! s.size).toNat / 64 ≠ 2 := fun h => by
    rw [hm]
    rcases hx with h0 | ⟨h0, _⟩ <;> omega
  rw [Lib.decode_at, Lib.decode_at, get_left s x i hi]
  refine decodeN_bar _ _ _ _ _ _ _ _ _ (by omega) (by omega) (fun h => by rw [get_left s x _ (by omega)]) (fun h => by rw [get_left s x _ (by omega)]) (fun h => by rw [get_left s x _ (by omega)]) (fun h h' => ?_) (fun h h' => ?_) (fun h h' => ?_)
  · rw [show i + 1 = s.size by omega]; exact hstop (by omega)
  · rw [show i + 2 = s.size by omega]; exact hstop (by omega)
  · rw [show i + 3 = s.size by omega]; exact hstop (by omega)
theorem bs_kAt {s x : ByteArray} (hx : Bs x) {i : Nat} (hi : i < s.size) : kAt (s ++ x) i = kAt s i := by unfold kAt; rw [bs_decode hx hi]
theorem bs_mid {s x : ByteArray} (hx : Bs x) (h : s.size < (s ++ x).size) : (kAt (s ++ x) s.size = 3 ∨ kAt (s ++ x) s.size = 4) ∧ ((s ++ x).get! s.size).toNat ≠ 124 := by
  have hsz : (s ++ x).size = s.size + x.size := ByteArray.size_append
  have hm := get_mid s x
  rcases hx with h0 | ⟨h0, h1⟩
  · omega
  · rw [kAt_ascii (by rw [hm]; omega), hm]
    refine ⟨h1, fun e => ?_⟩
    rw [show (((x.get! 0).toNat : Nat) : Int) = 124 by rw [e]; rfl, kind_bar] at h1
    rcases h1 with h1 | h1 <;> cases h1
theorem bs_run {p : Int → Bool} {s x : ByteArray} (hx : Bs x) (hp : p 3 = false) (hp4 : p 4 = false) : ∀ (f i : Nat), s.size ≤ i + f → i ≤ s.size → runAt p (s ++ x) i = runAt p s i
  | 0, i, h, hi => by
    have e : i = s.size := by omega
    subst e
    rw [runAt_end (s := s) (Nat.le_refl _)]
    rcases Nat.lt_or_ge s.size (s ++ x).size with h1 | h1
    · exact runAt_stop h1 (by rcases (bs_mid hx h1).1 with e | e <;> rw [e] <;> assumption)
    · rw [runAt_end h1]
      have hsz : (s ++ x).size = s.size + x.size := ByteArray.size_append
      omega
  | f + 1, i, h, hi => by
    rcases Nat.lt_or_ge i s.size with h1 | h1
    · have hsz : (s ++ x).size = s.size + x.size := ByteArray.size_append
      have hw := width_pos s i
      have hin := width_in s i h1
      cases hk : p (kAt s i) with
      | false => rw [runAt_stop h1 hk, runAt_stop (by omega) (by rw [bs_kAt hx h1]; exact hk)]
      | true =>
        rw [runAt_step h1 hk, runAt_step (by omega) (by rw [bs_kAt hx h1]; exact hk), bs_decode hx h1]
        exact bs_run hx hp hp4 f _ (by omega) hin
    · exact bs_run hx hp hp4 0 i (by omega) hi
theorem bs_numEnd {s x : ByteArray} (hx : Bs x) {i : Nat} (hi : i ≤ s.size) : numEnd (s ++ x) i = numEnd s i := by
  have hr := bs_run (p := isDigit) hx rfl rfl s.size i (by omega) hi
  have hle := runAt_le isDigit s i hi
  have hsz : (s ++ x).size = s.size + x.size := ByteArray.size_append
  unfold numEnd
  rw [hr]
  rcases Nat.lt_or_ge (runAt isDigit s i) s.size with h1 | h1
  · rw [get_left s x _ h1, bs_run (p := isDigit) hx rfl rfl s.size (runAt isDigit s i + 1) (by omega) (by omega)]
    by_cases h2 : runAt isDigit s i < s.size ∧ (s.get! (runAt isDigit s i)).toNat = 124 ∧ runAt isDigit s i + 1 < runAt isDigit s (runAt isDigit s i + 1)
    · rw [if_pos h2, if_pos ⟨by omega, h2.2⟩]
    · rw [if_neg h2, if_neg (fun h => h2 ⟨h1, h.2⟩)]
  · rw [if_neg (c := runAt isDigit s i < s.size ∧ _) (by omega)]
    have e : runAt isDigit s i = s.size := by omega
    rw [e, if_neg]
    rintro ⟨h2, h3, _⟩;exact (bs_mid hx h2).2 h3
theorem bs_tok {s x : ByteArray} (hx : Bs x) {i : Nat} (hi : i < s.size) : tokZ (s ++ x) i = tokZ s i := by
  have hw := runAt_le isWord s i (by omega)
  have hn := (numEnd_ge s i (by omega)).2
  have hin := width_in s i hi
  unfold tokZ
  rw [bs_kAt hx hi, bs_run (p := isWord) hx rfl rfl s.size i (by omega) (by omega), bs_numEnd hx (by omega), bs_decode hx hi, ext_left hw, ext_left hn, ext_left hin]
def txZ : List Tok → ByteArray
  | [] => ⟨#[]⟩
  | t :: r => t.text ++ txZ r
theorem txZ_app : ∀ (a b : List Tok), txZ (a ++ b) = txZ a ++ txZ b
  | [], b => by show _ = ByteArray.empty ++ _; rw [ByteArray.empty_append]; rfl
  | t :: a, b => by rw [List.cons_append, txZ, txZ, txZ_app a b, ByteArray.append_assoc]
def tksZ (l : List Tok) : List Tok := l.filter fun t => t.kind != 3
theorem tksZ_app (a b : List Tok) : tksZ (a ++ b) = tksZ a ++ tksZ b := by unfold tksZ; rw [List.filter_append]
structure Gap (t : Tok) : Prop where
  kind : t.kind = 3
  text : t.text = ⟨#[32]⟩ ∨ t.text = ⟨#[10]⟩
def Stops : List Tok → Prop
  | [] => True
  | t :: _ => Gap t ∨ Sg t
def Pieces : List Tok → Prop
  | [] => True
  | t :: r => (Gap t ∨ Sg t ∨ (Good t ∧ t.kind ≠ 3 ∧ Stops r)) ∧ Pieces r
theorem stops_bs {r : List Tok} (h : Stops r) : Bs (txZ r) := by
  cases r with
  | nil => exact .inl rfl
  | cons t r =>
    right
    rcases h with h | h
    · have e : (t.text ++ txZ r).get! 0 = t.text.get! 0 := get_left _ _ 0 (by rcases h.text with e | e <;> rw [e] <;> exact Nat.zero_lt_one)
      rw [txZ, e]
      rcases h.text with e | e <;> rw [e]
      · exact ⟨by decide, .inl (by decide)⟩
      · exact ⟨by decide, .inl (by decide)⟩
    · obtain ⟨_, b, e, hb, h4⟩ := h
      have e2 : (t.text ++ txZ r).get! 0 = b := by rw [get_left _ _ 0 (by rw [e]; exact Nat.zero_lt_one), e]; rfl
      rw [txZ, e2]
      exact ⟨hb, .inr h4⟩
theorem pcs_lex : ∀ (ts : List Tok) (p : ByteArray), Pieces ts → ∃ us, Lexed (p ++ txZ ts) p.size (p ++ txZ ts).size us ∧ Likes (tksZ ts) us
  | [], p, _ => ⟨[], by
    have e : p ++ txZ [] = p := ByteArray.append_empty
    rw [e]; exact .refl _, .nil⟩
  | t :: r, p, ⟨g, hr⟩ => by
    obtain ⟨us, h1, h2⟩ := pcs_lex r (p ++ t.text) hr
    rw [ByteArray.append_assoc] at h1
    have e2 : (p ++ t.text).size = p.size + t.text.size := ByteArray.size_append
    rw [e2] at h1
    show ∃ us, Lexed (p ++ (t.text ++ txZ r)) p.size (p ++ (t.text ++ txZ r)).size us ∧ _
    rcases g with g | g
    · have hk : tksZ (t :: r) = tksZ r := by unfold tksZ; rw [List.filter_cons, if_neg (by rw [g.kind]; decide)]
      rw [hk]
      have h3 : ∃ b : UInt8, t.text = ⟨#[b]⟩ ∧ (b = 32 ∨ b = 10 ∨ b = 9) := by
        rcases g.text with e | e
        · exact ⟨32, e, .inl rfl⟩
        · exact ⟨10, e, .inr (.inl rfl)⟩
      obtain ⟨b, e, hb⟩ := h3
      have h4 := blank3 p (txZ r) b hb
      rw [e] at h1 ⊢
      have h1 : Lexed (p ++ (⟨#[b]⟩ ++ txZ r)) (p.size + 1) (p ++ (⟨#[b]⟩ ++ txZ r)).size us := h1
      exact ⟨us, .blank h4.1 h4.2 h1, h2⟩
    · have hk3 : t.kind ≠ 3 := by
        rcases g with g | g
        · rw [g.kind]; decide
        · exact g.2.1
      have hk : tksZ (t :: r) = t :: tksZ r := by unfold tksZ; rw [List.filter_cons, if_pos (by simp [hk3])]
      rw [hk]
      have htk : p.size < (p ++ (t.text ++ txZ r)).size ∧ kAt (p ++ (t.text ++ txZ r)) p.size ≠ 3 ∧ tokZ (p ++ (t.text ++ txZ r)) p.size = ⟨t.kind, t.text, p.size + t.text.size, 0⟩ := by
        rcases g with gs | ⟨gd, _, hst⟩
        · have := sg_tok gs p (txZ r)
          obtain ⟨hk, b, e, _⟩ := gs
          refine ⟨by rw [ByteArray.size_append, ByteArray.size_append, e]; show _ < _ + (1 + _); omega, by rw [this.1]; decide, ?_⟩
          rw [this.2, hk, e]
          rfl
        · have hbl := stops_bs hst
          have hgs : 0 < t.text.size := gd.some
          have hsz : (p ++ (t.text ++ txZ r)).size = p.size + (t.text.size + (txZ r).size) := by rw [ByteArray.size_append, ByteArray.size_append]
          have htl := tail_of p (t.text ++ txZ r)
          have hk := kAt_tail (p ++ (t.text ++ txZ r)) p.size 0 (by omega)
          have ht := tok_tail (p ++ (t.text ++ txZ r)) p.size 0 (by omega)
          rw [htl, Nat.add_zero] at hk ht
          rw [bs_kAt hbl hgs] at hk
          rw [bs_tok hbl hgs, gd.same] at ht
          exact ⟨by omega, by rw [hk]; exact gd.kind, ht⟩
      obtain ⟨k1, k2, k3⟩ := htk
      refine ⟨tokAt (p ++ (t.text ++ txZ r)) p.size :: us, .tok k1 k2 (by rw [k3]) (by rw [k3]; exact h1), .cons ⟨?_, ?_⟩ h2⟩
      · show t.kind = (tokZ (p ++ (t.text ++ txZ r)) p.size).kind; rw [k3]
      · show t.text = (tokZ (p ++ (t.text ++ txZ r)) p.size).text; rw [k3]
theorem lex_pcs {ts : List Tok} (h : Pieces ts) (hs : (txZ ts).size ≤ 60000) (hn : (tksZ ts).length ≤ 4000) : ∃ us, lexZ (txZ ts) = ⟨us, 0, 0, 0⟩ ∧ us.map st = (tksZ ts).map st := by
  obtain ⟨us, h1, h2⟩ := pcs_lex ts ⟨#[]⟩ h
  have e : (⟨#[]⟩ : ByteArray) ++ txZ ts = txZ ts := ByteArray.empty_append
  rw [e] at h1
  have h4 := h2.len
  refine ⟨us, ?_, likes_st h2⟩
  have h1' : Lexed (txZ ts) 0 (txZ ts).size us := h1
  rw [lexZ_at hs, Lexed.lex h1' [] (by simp; omega), lexAt_end (Nat.le_refl _)]
  rfl
def bindZ (k : Int) : Int := if k = 2 ∨ k = 3 then 1 else if k = 4 ∨ k = 5 then 2 else if k = 6 then 3 else if k = 7 then 4 else 5
def bindE : Ex → Int
  | .ref _ => 5
  | .num _ => 5
  | .neg _ => 3
  | .pow _ _ => 4
  | .bin k _ _ => if 4 ≤ k then 2 else 1
theorem bindE_pos (x : Ex) : 1 ≤ bindE x := by
  cases x <;> simp only [bindE] <;> (try split) <;> omega
def gp : Tok := tk 3 ⟨#[32]⟩
def nl : Tok := tk 3 ⟨#[10]⟩
def expP (e : Int) : List Tok := (if e < 0 then [tk 2 minusS] else []) ++ [tk 1 (decS e.natAbs)]
def brk (m : Bool) (l : List Tok) : List Tok := if m then tk 2 lpar :: (l ++ [tk 2 rpar]) else l
def shP : Ex → List Tok
  | .ref t => [tk 0 t]
  | .num q => [tk 1 (ratS q)]
  | .neg x => tk 2 minusS :: brk (decide (bindE x < 3)) (shP x)
  | .pow x e => brk (decide (bindE x < 5)) (shP x) ++ tk 2 Go.Tw.caret :: expP e
  | .bin k x y => brk (decide (bindE x < if 4 ≤ k then 2 else 1)) (shP x) ++ gp :: tk 2 (signS k) :: gp :: brk (decide (bindE y < (if 4 ≤ k then 2 else 1) + 1)) (shP y)
def partP (x : Ex) (least : Int) : List Tok := brk (decide (bindE x < least)) (shP x)
theorem partP_all (x : Ex) {m : Int} (h : m ≤ 1) : partP x m = shP x := by
  unfold partP brk
  rw [decide_eq_false (by have := bindE_pos x; omega)]
  rfl
theorem tks_brk (m : Bool) (l : List Tok) : tksZ (brk m l) = brk m (tksZ l) := by
  cases m with
  | false => rfl
  | true =>
    show tksZ (tk 2 lpar :: (l ++ [tk 2 rpar])) = tk 2 lpar :: (tksZ l ++ [tk 2 rpar])
    have e : tk 2 lpar :: (l ++ [tk 2 rpar]) = [tk 2 lpar] ++ (l ++ [tk 2 rpar]) := rfl
    rw [e, tksZ_app, tksZ_app]
    rfl
def TA (L : List Tok) (x : Ex) : Prop := ∀ (all : List NodeC) (r : List Tok) (o : POut), hdT r 2 Go.Tw.caret = false → hdK mulK r = none → Ps .sumL (all ++ x.nd all.length) r o → Ps .sum all (L ++ r) o
def TB (L : List Tok) (x : Ex) : Prop := ∀ (all : List NodeC) (r : List Tok) (o : POut), hdT r 2 Go.Tw.caret = false → Ps .prodL (all ++ x.nd all.length) r o → Ps .product all (L ++ r) o
def TCf (L : List Tok) (x : Ex) : Prop := ∀ (all : List NodeC) (r : List Tok), hdT r 2 Go.Tw.caret = false → Ps .factor all (L ++ r) (.ok (all ++ x.nd all.length) r)
def TDp (L : List Tok) (x : Ex) : Prop := (∀ r, hdT (L ++ r) 2 minusS = false) ∧ ∀ (all : List NodeC) (r : List Tok), hdT r 2 Go.Tw.caret = false → Ps .power all (L ++ r) (.ok (all ++ x.nd all.length) r)
def TEa (L : List Tok) (x : Ex) : Prop := (∀ r, hdT (L ++ r) 2 minusS = false) ∧ ∀ (all : List NodeC) (r : List Tok), Ps .atom all (L ++ r) (.ok (all ++ x.nd all.length) r)
theorem te_td {L : List Tok} {x : Ex} (h : TEa L x) : TDp L x := ⟨h.1, fun all r hr => .power_ok (h.2 all r) (.pow_none hr)⟩
theorem td_tc {L : List Tok} {x : Ex} (h : TDp L x) : TCf L x := fun all r hr => .fac (h.1 r) (h.2 all r hr)
theorem tc_tb {L : List Tok} {x : Ex} (h : TCf L x) : TB L x := fun all r o hr ho => .product_ok (h all r hr) ho
theorem tb_ta {L : List Tok} {x : Ex} (h : TB L x) : TA L x := fun all r o hr hm ho => .sum_ok (h all r _ hr (.prodL_end hm)) ho
def Own (L : List Tok) (x : Ex) (b : Int) : Prop := (5 ≤ b → TEa L x) ∧ (4 ≤ b → TDp L x) ∧ (3 ≤ b → TCf L x) ∧ (2 ≤ b → TB L x) ∧ TA L x
theorem own_e {L : List Tok} {x : Ex} {b : Int} (h : TEa L x) : Own L x b := ⟨fun _ => h, fun _ => te_td h, fun _ => td_tc (te_td h), fun _ => tc_tb (td_tc (te_td h)), tb_ta (tc_tb (td_tc (te_td h)))⟩
theorem own_d {L : List Tok} {x : Ex} (h : TDp L x) : Own L x 4 := ⟨fun h => absurd h (by decide), fun _ => h, fun _ => td_tc h, fun _ => tc_tb (td_tc h), tb_ta (tc_tb (td_tc h))⟩
theorem own_c {L : List Tok} {x : Ex} (h : TCf L x) : Own L x 3 := ⟨fun h => absurd h (by decide), fun h => absurd h (by decide), fun _ => h, fun _ => tc_tb h, tb_ta (tc_tb h)⟩
theorem own_b {L : List Tok} {x : Ex} (h : TB L x) : Own L x 2 := ⟨fun h => absurd h (by decide), fun h => absurd h (by decide), fun h => absurd h (by decide), fun _ => h, tb_ta h⟩
theorem own_a {L : List Tok} {x : Ex} (h : TA L x) : Own L x 1 := ⟨fun h => absurd h (by decide), fun h => absurd h (by decide), fun h => absurd h (by decide), fun h => absurd h (by decide), h⟩
theorem par_te {L : List Tok} {x : Ex} (h : TA L x) : TEa (tk 2 lpar :: (L ++ [tk 2 rpar])) x := by
  refine ⟨fun r => isT_ne (by decide), fun all r => ?_⟩
  have he := ends_rpar r
  have h1 := h all (tk 2 rpar :: r) _ he.pw he.ml (.sumL_end he.ad)
  have e : (tk 2 lpar :: (L ++ [tk 2 rpar])) ++ r = tk 2 lpar :: (L ++ (tk 2 rpar :: r)) := by simp
  rw [e]
  exact .par_ok (isT_tk 2 lpar) h1 (isT_tk 2 rpar)
theorem own_brk {L : List Tok} {x : Ex} {b : Int} (h : Own L x b) (m : Int) (hm : m ≤ 5) : Own (brk (decide (b < m)) L) x m := by
  unfold brk
  by_cases hb : b < m
  · rw [decide_eq_true hb, if_pos rfl]
    exact own_e (par_te h.2.2.2.2)
  · rw [decide_eq_false hb, if_neg (by decide)]
    exact ⟨fun h5 => h.1 (by omega), fun h5 => h.2.1 (by omega), fun h5 => h.2.2.1 (by omega), fun h5 => h.2.2.2.1 (by omega), h.2.2.2.2⟩
theorem expP_expo {e : Int} (h : -20 ≤ e ∧ e ≤ 20) (r : List Tok) : Expo (expP e ++ r) (some e) r := by
  unfold expP
  by_cases he : e < 0
  · rw [if_pos he]
    have h1 := Expo.neg (x := tk 2 minusS) (y := tk 1 (decS e.natAbs)) (r := r) (isT_tk 2 minusS) rfl (expo_dec (n := e.natAbs) (by omega))
    rw [show -((e.natAbs : Nat) : Int) = e by omega] at h1
    exact h1
  · rw [if_neg he]
    have h1 := Expo.pos (y := tk 1 (decS e.natAbs)) (r := r) (isT_kd (by show (1 : Int) ≠ 2; decide)) rfl (expo_dec (n := e.natAbs) (by omega))
    rw [show ((e.natAbs : Nat) : Int) = e by omega] at h1
    exact h1
theorem tks_exp (e : Int) : tksZ (expP e) = expP e := by
  unfold expP
  split <;> rfl
theorem tks_cons {t : Tok} {r : List Tok} (h : t.kind ≠ 3) : tksZ (t :: r) = t :: tksZ r := by unfold tksZ; rw [List.filter_cons, if_pos (by simp [h])]
theorem tks_gap {t : Tok} {r : List Tok} (h : t.kind = 3) : tksZ (t :: r) = tksZ r := by unfold tksZ; rw [List.filter_cons, if_neg (by rw [h]; decide)]
theorem sh_own : ∀ (x : Ex), x.ok → Own (tksZ (shP x)) x (bindE x) := by
  intro x
  induction x with
  | ref t =>
    intro h
    refine own_e ⟨fun r => isT_kd (by show (0 : Int) ≠ 2; decide), fun all r => ?_⟩
    have h1 : leafT (tk 0 t) = true := by unfold leafT tk; rw [show nameZ t = true from h]; rfl
    have h2 := Ps.leaf (all := all) (r := r) h1
    rw [show leafN (tk 0 t) = refN t from if_neg (by show ¬ (0 : Int) = 1; decide)] at h2
    exact h2
  | num q =>
    intro h
    refine own_e ⟨fun r => isT_kd (by show (1 : Int) ≠ 2; decide), fun all r => ?_⟩
    have hn := num_rat h.1 h.2.1 h.2.2
    have h2 := Ps.leaf (all := all) (x := tk 1 (ratS q)) (r := r) rfl
    rw [show leafN (tk 1 (ratS q)) = numN (numQ (ratS q)) from if_pos rfl, hn.val] at h2
    exact h2
  | neg x ih =>
    intro h
    have h1 := (own_brk (ih h) 3 (by decide)).2.2.1 (Int.le_refl _)
    refine own_c fun all r hr => ?_
    have h2 := h1 all r hr
    have h3 := Ps.neg_ok (x := tk 2 minusS) (isT_tk 2 minusS) h2
    rw [lastI_nd] at h3
    rw [shP, tks_cons (by show (2 : Int) ≠ 3; decide), tks_brk]
    simp only [Ex.nd, ← List.append_assoc]
    exact h3
  | pow x e ih =>
    intro h
    have h1 := (own_brk (ih h.1) 5 (by decide)).1 (Int.le_refl _)
    have e0 : tksZ (shP (.pow x e)) = brk (decide (bindE x < 5)) (tksZ (shP x)) ++ tk 2 Go.Tw.caret :: expP e := by
      rw [shP, tksZ_app, tks_brk, tks_cons (by show (2 : Int) ≠ 3; decide), tks_exp]
    rw [e0]
    generalize brk (decide (bindE x < 5)) (tksZ (shP x)) = L at h1
    refine own_d ⟨fun r => by rw [List.append_assoc]; exact h1.1 _, fun all r hr => ?_⟩
    have h2 := h1.2 all (tk 2 Go.Tw.caret :: (expP e ++ r))
    have h3 : Ps .power all (L ++ tk 2 Go.Tw.caret :: (expP e ++ r)) _ := .power_ok h2 (.pow_ok (isT_tk 2 Go.Tw.caret) (expP_expo h.2 r))
    rw [lastI_nd] at h3
    have e2 : (L ++ tk 2 Go.Tw.caret :: expP e) ++ r = L ++ tk 2 Go.Tw.caret :: (expP e ++ r) := by simp
    rw [e2]
    simp only [Ex.nd, ← List.append_assoc]
    exact h3
  | bin k x y ih1 ih2 =>
    intro h
    obtain ⟨k2, k5, hx, hy⟩ := h
    have ih1 := ih1 hx
    have ih2 := ih2 hy
    have e0 : tksZ (shP (.bin k x y)) = brk (decide (bindE x < if 4 ≤ k then 2 else 1)) (tksZ (shP x)) ++ tk 2 (signS k) :: brk (decide (bindE y < (if 4 ≤ k then 2 else 1) + 1)) (tksZ (shP y)) := by
      rw [shP, tksZ_app, tks_brk, tks_gap rfl, tks_cons (by show (2 : Int) ≠ 3; decide), tks_gap rfl, tks_brk]
    rw [e0]
    have enodes : ∀ all : List NodeC, all ++ x.nd all.length ++ y.nd (all ++ x.nd all.length).length ++ [binN k (lastI (all ++ x.nd all.length)) (lastI (all ++ x.nd all.length ++ y.nd (all ++ x.nd all.length).length))] = all ++ (Ex.bin k x y).nd all.length := fun all => by
      have hlen : (all ++ x.nd all.length).length = all.length + x.n := by rw [List.length_append, x.nd_len]
      have hla : lastI (all ++ x.nd all.length ++ y.nd (all ++ x.nd all.length).length) = (all.length : Int) + x.n + y.n - 1 := by
        rw [lastI_nd, hlen]; omega
      rw [hla, lastI_nd, hlen]
      simp only [Ex.nd, List.append_assoc]
    by_cases hk : 4 ≤ k
    · rw [if_pos hk]
      have eb : bindE (.bin k x y) = 2 := if_pos hk
      rw [eb]
      have h1 := (own_brk ih1 2 (by decide)).2.2.2.1 (Int.le_refl _)
      have h2 := (own_brk ih2 (2 + 1) (by decide)).2.2.1 (Int.le_refl _)
      generalize brk (decide (bindE x < 2)) (tksZ (shP x)) = L at h1
      generalize brk (decide (bindE y < 2 + 1)) (tksZ (shP y)) = M at h2
      refine own_b fun all r o hr ho => ?_
      have hm := sign_mul (k := k) (by omega)
      have h3 := h2 (all ++ x.nd all.length) r hr
      rw [← enodes] at ho
      have h4 := h1 all (tk 2 (signS k) :: (M ++ r)) o (sign_pow k _) (.prodL_ok hm h3 ho)
      have e2 : (L ++ tk 2 (signS k) :: M) ++ r = L ++ tk 2 (signS k) :: (M ++ r) := by simp
      rw [e2]
      exact h4
    · rw [if_neg hk]
      have eb : bindE (.bin k x y) = 1 := if_neg hk
      rw [eb]
      have h1 := (own_brk ih1 1 (by decide)).2.2.2.2
      have h2 := (own_brk ih2 (1 + 1) (by decide)).2.2.2.1 (Int.le_refl _)
      generalize brk (decide (bindE x < 1)) (tksZ (shP x)) = L at h1
      generalize brk (decide (bindE y < 1 + 1)) (tksZ (shP y)) = M at h2
      refine own_a fun all r o hr hmr ho => ?_
      obtain ⟨hm, hn⟩ := sign_add (k := k) (by omega)
      have h3 := h2 (all ++ x.nd all.length) r _ hr (.prodL_end hmr)
      rw [← enodes] at ho
      have h4 := h1 all (tk 2 (signS k) :: (M ++ r)) o (sign_pow k _) hn (.sumL_ok hm h3 ho)
      have e2 : (L ++ tk 2 (signS k) :: M) ++ r = L ++ tk 2 (signS k) :: (M ++ r) := by simp
      rw [e2]
      exact h4
theorem sh_sum {x : Ex} (h : x.ok) (all : List NodeC) {r : List Tok} (hr : Ends r) : Ps .sum all (tksZ (shP x) ++ r) (.ok (all ++ x.nd all.length) r) :=
  (sh_own x h).2.2.2.2 all r _ hr.pw hr.ml (.sumL_end hr.ad)
def restP : List ByteArray → List Tok
  | [] => [tk 2 semiS, nl]
  | s :: l => tk 2 commaS :: gp :: tk 0 s :: restP l
def namesP (key : ByteArray) : List ByteArray → List Tok
  | [] => [tk 0 key, gp, tk 2 semiS, nl]
  | s :: l => tk 0 key :: gp :: tk 0 s :: restP l
def letP (a : ByteArray × Ex) : List Tok := tk 0 letS :: gp :: tk 0 a.1 :: gp :: tk 2 equalS :: gp :: (shP a.2 ++ [tk 2 semiS, nl])
def letsP : List (ByteArray × Ex) → List Tok
  | [] => []
  | a :: l => letP a ++ letsP l
def progP (ins outs : List ByteArray) (l : List (ByteArray × Ex)) : List Tok := namesP inS ins ++ (letsP l ++ namesP outS outs)
def letQ (a : ByteArray × Ex) : List Tok := tk 0 letS :: tk 0 a.1 :: tk 2 equalS :: (tksZ (shP a.2) ++ [tk 2 semiS])
def letsQ : List (ByteArray × Ex) → List Tok
  | [] => []
  | a :: l => letQ a ++ letsQ l
def progQ (ins outs : List ByteArray) (l : List (ByteArray × Ex)) : List Tok := namesK inS ins ++ (letsQ l ++ namesK outS outs)
theorem letQ_lt1 {a : ByteArray × Ex} (h1 : nameZ a.1 = true) (h2 : a.2.ok) (all : List NodeC) (r : List Tok) : Lt1 all (tk 0 a.1 :: tk 2 equalS :: (tksZ (shP a.2) ++ tk 2 semiS :: r)) (.ok a.1 (all ++ a.2.nd all.length) r) :=
  .ok (by unfold nameT tk; rw [h1]; rfl) (isT_tk 2 equalS) (sh_sum h2 all (ends_semi r)) (isT_tk 2 semiS)
theorem letsQ_lts : ∀ (l : List (ByteArray × Ex)) (ls : List LetC) (all : List NodeC) (r : List Tok), LetsOk l → hdT r 0 letS = false → Lts ls all (letsQ l ++ r) (.ok (ls ++ (laid l all.length).1) (all ++ (laid l all.length).2) r)
  | [], ls, all, r, _, hr => by
    have := Lts.fin (ls := ls) (all := all) hr
    simpa [letsQ, laid] using this
  | (s, x) :: l, ls, all, r, h, hr => by
    obtain ⟨h1, h2⟩ := h _ List.mem_cons_self
    have e1 := letQ_lt1 (a := (s, x)) h1 h2 all (letsQ l ++ r)
    have ih := letsQ_lts l (ls ++ [⟨s, lastI (all ++ x.nd all.length)⟩]) (all ++ x.nd all.length) r (fun b hb => h b (List.mem_cons_of_mem _ hb)) hr
    have hlen : (all ++ x.nd all.length).length = all.length + x.n := by rw [List.length_append, x.nd_len]
    have e2 := Lts.more (ls := ls) (x := tk 0 letS) (isT_tk 0 letS) e1 ih
    rw [lastI_nd, hlen] at e2
    have e3 : letsQ ((s, x) :: l) ++ r = tk 0 letS :: tk 0 s :: tk 2 equalS :: (tksZ (shP x) ++ tk 2 semiS :: (letsQ l ++ r)) := by simp [letsQ, letQ]
    rw [e3]
    simpa [laid, List.append_assoc] using e2
theorem progQ_prg {ins outs : List ByteArray} {l : List (ByteArray × Ex)} (h1 : NamesOk ins) (hi : 1 ≤ ins.length) (h2 : LetsOk l) (h3 : NamesOk outs) (ho : 1 ≤ outs.length) : Prg (progQ ins outs l) (.ok ⟨ins, (laid l 0).1, outs, (laid l 0).2⟩) := by
  cases ins with
  | nil => simp at hi
  | cons s ins =>
    cases outs with
    | nil => simp at ho
    | cons t outs =>
      have a1 := restK_names ins s (letsQ l ++ namesK outS (t :: outs)) (h1 s List.mem_cons_self) fun b hb => h1 b (List.mem_cons_of_mem _ hb)
      have a2 := letsQ_lts l [] [] (namesK outS (t :: outs)) h2 (isT_ne (by decide))
      have a3 := restK_names outs t [] (h3 t List.mem_cons_self) fun b hb => h3 b (List.mem_cons_of_mem _ hb)
      rw [List.append_nil] at a3
      exact .ok (isT_tk 0 inS) a1 a2 (isT_tk 0 outS) a3
theorem gap_gp : Gap gp := ⟨rfl, .inl rfl⟩
theorem sg_of {s : ByteArray} (h : s = lpar ∨ s = rpar ∨ s = Go.Tw.caret ∨ s = minusS ∨ s = plusS ∨ s = starS ∨ s = slashS ∨ s = semiS ∨ s = commaS ∨ s = equalS) : Sg (tk 2 s) := by
  rcases h with rfl | rfl | rfl | rfl | rfl | rfl | rfl | rfl | rfl | rfl <;> exact ⟨rfl, _, rfl, by decide, by decide⟩
theorem good_tk {t : Tok} (h : Good t) (h3 : t.kind ≠ 3) {r : List Tok} (hs : Stops r) (hr : Pieces r) : Pieces (t :: r) := ⟨.inr (.inr ⟨h, h3, hs⟩), hr⟩
theorem sg_tk {s : ByteArray} (h : s = lpar ∨ s = rpar ∨ s = Go.Tw.caret ∨ s = minusS ∨ s = plusS ∨ s = starS ∨ s = slashS ∨ s = semiS ∨ s = commaS ∨ s = equalS) {r : List Tok} (hr : Pieces r) : Pieces (tk 2 s :: r) := ⟨.inr (.inl (sg_of h)), hr⟩
theorem gp_tk {r : List Tok} (hr : Pieces r) : Pieces (gp :: r) := ⟨.inl gap_gp, hr⟩
theorem brk_pcs {m : Bool} {l : List Tok} (h : ∀ r, Stops r → Pieces r → Pieces (l ++ r)) {r : List Tok} (hs : Stops r) (hr : Pieces r) : Pieces (brk m l ++ r) := by
  cases m with
  | false => exact h r hs hr
  | true =>
    have e : brk true l ++ r = tk 2 lpar :: (l ++ (tk 2 rpar :: r)) := by simp [brk]
    rw [e]
    exact sg_tk (by simp) (h _ (.inr (sg_of (by simp))) (sg_tk (by simp) hr))
theorem exp_pcs {e : Int} (he : -20 ≤ e ∧ e ≤ 20) {r : List Tok} (hs : Stops r) (hr : Pieces r) : Pieces (expP e ++ r) := by
  have h1 : Pieces (tk 1 (decS e.natAbs) :: r) := good_tk (num_whole (digs_small (by omega))).good (by show (1 : Int) ≠ 3; decide) hs hr
  unfold expP
  split
  · exact sg_tk (by simp) h1
  · exact h1
theorem sh_pcs : ∀ (x : Ex), x.ok → ∀ r, Stops r → Pieces r → Pieces (shP x ++ r) := by
  intro x
  induction x with
  | ref t => intro h r hs hr; exact good_tk (good_name h) (by show (0 : Int) ≠ 3; decide) hs hr
  | num q => intro h r hs hr; exact good_tk (num_rat h.1 h.2.1 h.2.2).good (by show (1 : Int) ≠ 3; decide) hs hr
  | neg x ih => intro h r hs hr; exact sg_tk (by simp) (brk_pcs (ih h) hs hr)
  | pow x e ih =>
    intro h r hs hr
    have e2 : shP (.pow x e) ++ r = brk (decide (bindE x < 5)) (shP x) ++ (tk 2 Go.Tw.caret :: (expP e ++ r)) := by simp [shP]
    rw [e2]
    exact brk_pcs (ih h.1) (.inr (sg_of (by simp))) (sg_tk (by simp) (exp_pcs h.2 hs hr))
  | bin k x y ih1 ih2 =>
    intro h r hs hr
    have e2 : shP (.bin k x y) ++ r = brk (decide (bindE x < if 4 ≤ k then 2 else 1)) (shP x) ++ (gp :: tk 2 (signS k) :: gp :: (brk (decide (bindE y < (if 4 ≤ k then 2 else 1) + 1)) (shP y) ++ r)) := by simp [shP]
    rw [e2]
    exact brk_pcs (ih1 h.2.2.1) (.inl gap_gp) (gp_tk (sg_tk (sign_in k) (gp_tk (brk_pcs (ih2 h.2.2.2) hs hr))))
theorem brk_len (m : Bool) (l : List Tok) : (brk m l).length ≤ l.length + 2 := by
  cases m <;> simp [brk]
theorem exp_len (e : Int) : (expP e).length ≤ 2 := by unfold expP; split <;> simp
theorem sh_len : ∀ (x : Ex), (shP x).length + 4 ≤ 7 * x.n := by
  intro x
  induction x with
  | ref t => show 1 + 4 ≤ 7; decide
  | num q => show 1 + 4 ≤ 7; decide
  | neg x ih => have := brk_len (decide (bindE x < 3)) (shP x); simp only [shP, List.length_cons, Ex.n]; omega
  | pow x e ih => have := brk_len (decide (bindE x < 5)) (shP x); have := exp_len e; simp only [shP, List.length_append, List.length_cons, Ex.n]; omega
  | bin k x y ih1 ih2 =>
    have := brk_len (decide (bindE x < if 4 ≤ k then 2 else 1)) (shP x)
    have := brk_len (decide (bindE y < (if 4 ≤ k then 2 else 1) + 1)) (shP y)
    simp only [shP, List.length_append, List.length_cons, Ex.n]
    omega
theorem tks_len (l : List Tok) : (tksZ l).length ≤ l.length := List.length_filter_le _ _
def textZ (p : ProgC) (l : List (ByteArray × Ex)) : ByteArray := txZ (progP p.ins p.outs l)
theorem tx_cons (t : Tok) (r : List Tok) : (txZ (t :: r)).size = t.text.size + (txZ r).size := by rw [txZ, ByteArray.size_append]
theorem tx_app (a b : List Tok) : (txZ (a ++ b)).size = (txZ a).size + (txZ b).size := by rw [txZ_app, ByteArray.size_append]
theorem brk_size (m : Bool) (l : List Tok) : (txZ (brk m l)).size ≤ (txZ l).size + 2 := by
  cases m with
  | false => show (txZ l).size ≤ _; omega
  | true =>
    show (txZ (tk 2 lpar :: (l ++ [tk 2 rpar]))).size ≤ _
    rw [tx_cons, tx_app]
    show 1 + ((txZ l).size + 1) ≤ _
    omega
theorem exp_size {e : Int} (h : -20 ≤ e ∧ e ≤ 20) : (txZ (expP e)).size ≤ 42 := by
  have h1 := digs_small (n := e.natAbs) (by omega)
  have h2 : (txZ [tk 1 (decS e.natAbs)]).size = (decS e.natAbs).size + 0 := tx_cons _ _
  rw [decS_size] at h2
  unfold expP
  split
  · show (txZ (tk 2 minusS :: [tk 1 (decS e.natAbs)])).size ≤ 42
    rw [tx_cons, h2]
    show 1 + _ ≤ 42
    omega
  · show (txZ [tk 1 (decS e.natAbs)]).size ≤ 42
    omega
theorem sh_size : ∀ (x : Ex), x.ok → (txZ (shP x)).size ≤ 81 * x.n := by
  intro x
  induction x with
  | ref t => intro h; have := good_small (good_name h); show (txZ [tk 0 t]).size ≤ 81; rw [tx_cons]; show t.size + 0 ≤ 81; exact this
  | num q => intro h; have := good_small (num_rat h.1 h.2.1 h.2.2).good; show (txZ [tk 1 (ratS q)]).size ≤ 81; rw [tx_cons]; show (ratS q).size + 0 ≤ 81; exact this
  | neg x ih =>
    intro h
    have h1 := brk_size (decide (bindE x < 3)) (shP x)
    have h2 := ih h
    simp only [shP, Ex.n]
    rw [tx_cons]
    show 1 + _ ≤ _
    omega
  | pow x e ih =>
    intro h
    have h1 := brk_size (decide (bindE x < 5)) (shP x)
    have h2 := ih h.1
    have h3 := exp_size h.2
    simp only [shP, Ex.n]
    rw [tx_app, tx_cons]
    show _ + (1 + _) ≤ _
    omega
  | bin k x y ih1 ih2 =>
    intro h
    have h1 := brk_size (decide (bindE x < if 4 ≤ k then 2 else 1)) (shP x)
    have h2 := brk_size (decide (bindE y < (if 4 ≤ k then 2 else 1) + 1)) (shP y)
    have h3 := ih1 h.2.2.1
    have h4 := ih2 h.2.2.2
    have hs : (tk 2 (signS k)).text.size = 1 := by unfold tk signS; dsimp only; split <;> (try rfl); split <;> (try rfl); split <;> rfl
    simp only [shP, Ex.n]
    rw [tx_app, tx_cons, tx_cons, tx_cons, hs]
    show _ + (1 + (1 + (1 + _))) ≤ _
    omega
theorem rest_size : ∀ (l : List ByteArray), NamesOk l → (txZ (restP l)).size ≤ 42 * l.length + 2
  | [], _ => by decide
  | s :: l, h => by
    have h1 := rest_size l fun b hb => h b (List.mem_cons_of_mem _ hb)
    have h2 := (name_parts (h s List.mem_cons_self)).2.1
    rw [restP, tx_cons, tx_cons, tx_cons, List.length_cons]
    show 1 + (1 + (s.size + _)) ≤ _
    omega
theorem names_size {key : ByteArray} (hk : key.size ≤ 3) (l : List ByteArray) (h : NamesOk l) : (txZ (namesP key l)).size ≤ 42 * l.length + 6 := by
  cases l with
  | nil =>
    show (txZ (tk 0 key :: [gp, tk 2 semiS, nl])).size ≤ _
    rw [tx_cons]
    show key.size + 3 ≤ _
    omega
  | cons s l =>
    have h1 := rest_size l fun b hb => h b (List.mem_cons_of_mem _ hb)
    have h2 := (name_parts (h s List.mem_cons_self)).2.1
    rw [namesP, tx_cons, tx_cons, tx_cons, List.length_cons]
    show key.size + (1 + (s.size + _)) ≤ _
    omega
theorem lets_size : ∀ (l : List (ByteArray × Ex)) (b : Nat), LetsOk l → (txZ (letsP l)).size ≤ 49 * l.length + 81 * (laid l b).2.length
  | [], b, _ => Nat.zero_le _
  | (s, x) :: l, b, h => by
    have h1 := lets_size l (b + x.n) fun a ha => h a (List.mem_cons_of_mem _ ha)
    have h2 := sh_size x (h _ List.mem_cons_self).2
    have h3 := (name_parts (h (s, x) List.mem_cons_self).1).2.1
    have e2 : (laid ((s, x) :: l) b).2.length = x.n + (laid l (b + x.n)).2.length := by simp [laid, x.nd_len]
    have e3 : (txZ (letP (s, x))).size = 3 + (1 + (s.size + (1 + (1 + (1 + ((txZ (shP x)).size + 2)))))) := by
      unfold letP
      rw [tx_cons, tx_cons, tx_cons, tx_cons, tx_cons, tx_cons, tx_app]
      rfl
    dsimp only at h3
    rw [letsP, tx_app, e3, e2, List.length_cons]
    omega
theorem text_size {p : ProgC} {l : List (ByteArray × Ex)} (h : RightP p l) : (textZ p l).size ≤ 81 * p.all.length + 5500 := by
  have hll : p.lets.length = l.length := by rw [h.lets, laid_lets]
  have h1 := names_size (key := inS) (by decide) p.ins h.ins.1
  have h2 := names_size (key := outS) (by decide) p.outs h.outs.1
  have h3 := lets_size l 0 h.ok
  rw [← h.all] at h3
  have h4 := h.ins.2.2
  have h5 := h.outs.2.2
  have h6 := h.few.1
  unfold textZ progP
  rw [tx_app, tx_app]
  omega
theorem shP_st : ∀ (x : Ex), (tksZ (shP x)).map st = tksZ (shP x) := by
  have hb : ∀ (m : Bool) (l : List Tok), l.map st = l → (brk m l).map st = brk m l := fun m l h => by
    cases m with
    | false => exact h
    | true => simp [brk, h]; exact ⟨rfl, rfl⟩
  intro x
  induction x with
  | ref t => rfl
  | num q => rfl
  | neg x ih => rw [shP, tks_cons (by show (2 : Int) ≠ 3; decide), tks_brk, List.map_cons, hb _ _ ih]; rfl
  | pow x e ih =>
    rw [shP, tksZ_app, tks_brk, tks_cons (by show (2 : Int) ≠ 3; decide), tks_exp, List.map_append, List.map_cons, hb _ _ ih]
    congr 1
    unfold expP
    split <;> rfl
  | bin k x y ih1 ih2 =>
    rw [shP, tksZ_app, tks_brk, tks_gap rfl, tks_cons (by show (2 : Int) ≠ 3; decide), tks_gap rfl, tks_brk, List.map_append, List.map_cons, hb _ _ ih1, hb _ _ ih2]
    rfl
theorem letsQ_st : ∀ (l : List (ByteArray × Ex)), (letsQ l).map st = letsQ l
  | [] => rfl
  | a :: l => by
    rw [letsQ, List.map_append, letsQ_st l]
    congr 1
    unfold letQ
    simp only [List.map_cons, List.map_append, shP_st, List.map_nil]
    rfl
theorem progQ_st (ins outs : List ByteArray) (l : List (ByteArray × Ex)) : (progQ ins outs l).map st = progQ ins outs l := by
  unfold progQ
  rw [List.map_append, List.map_append, namesK_st, namesK_st, letsQ_st]
def pc (m : Bool) : Nat := if m then 1 else 0
def inn : Ex → Nat
  | .ref _ => 0
  | .num _ => 0
  | .neg x => inn x + pc (decide (bindE x < 3))
  | .pow x _ => inn x + pc (decide (bindE x < 5))
  | .bin k x y => inn x + pc (decide (bindE x < if 4 ≤ k then 2 else 1)) + (inn y + pc (decide (bindE y < (if 4 ≤ k then 2 else 1) + 1)))
def need (x : Ex) (m : Int) : Nat := inn x + pc (decide (bindE x < m))
theorem pc_le (m : Bool) : pc m ≤ 1 := by cases m <;> decide
theorem pc_mono {b m n : Int} (h : m ≤ n) : pc (decide (b < m)) ≤ pc (decide (b < n)) := by
  by_cases h1 : b < m
  · rw [decide_eq_true h1, decide_eq_true (show b < n by omega)]; exact Nat.le_refl _
  · rw [decide_eq_false h1]; exact Nat.zero_le _
theorem need_mono (x : Ex) {m n : Int} (h : m ≤ n) : need x m ≤ need x n := Nat.add_le_add_left (pc_mono h) _
theorem need_low (x : Ex) {m : Int} (h : m ≤ 1) : need x m = inn x := by
  unfold need
  rw [decide_eq_false (by have := bindE_pos x; omega)]; rfl
theorem need_up (x : Ex) (m : Int) : need x m ≤ inn x + 1 := Nat.add_le_add_left (pc_le _) _
def lp : List Tok → Nat
  | [] => 0
  | t :: r => pc (isT t 2 lpar) + lp r
theorem lp_app : ∀ (a b : List Tok), lp (a ++ b) = lp a + lp b
  | [], b => by rw [List.nil_append]; show lp b = 0 + lp b; omega
  | t :: a, b => by rw [List.cons_append, lp, lp, lp_app a b]; omega
def Lv.at_ : Lv → Int
  | .atom => 5
  | .powL => 4
  | .power => 4
  | .factor => 3
  | .prodL => 2
  | .product => 2
  | .sumL => 1
  | .sum => 1
def Lv.from_ : Lv → Int
  | .powL => 5
  | lv => Lv.at_ lv
def cntOut (lv : Lv) (all : List NodeC) (r : List Tok) (a1 : List NodeC) (r1 : List Tok) : Prop :=
  if lv.tail then ∀ (b : List NodeC) (x : Ex), x.ok → all = b ++ x.nd b.length → ∃ y : Ex, y.ok ∧ a1 = b ++ y.nd b.length ∧ lp r1 + need y (Lv.at_ lv) ≤ lp r + need x (Lv.from_ lv)
  else ∃ y : Ex, y.ok ∧ a1 = all ++ y.nd all.length ∧ lp r1 + need y (Lv.at_ lv) ≤ lp r
theorem Expo.lp_ {r r1 : List Tok} {e : Option Int} (h : Expo r e r1) : lp r1 ≤ lp r := by
  have h1 : ∀ (x : Tok) (r : List Tok), lp r ≤ lp (x :: r) := fun x r => Nat.le_add_left _ _
  cases h with
  | neg _ _ _ => exact Nat.le_trans (h1 _ _) (h1 _ _)
  | neg_end _ => exact h1 _ _
  | neg_bad _ _ => exact h1 _ _
  | pos _ _ _ => exact h1 _ _
  | pos_end => exact Nat.le_refl _
  | pos_bad _ _ => exact Nat.le_refl _
theorem Ps.cnt {lv : Lv} {all : List NodeC} {r : List Tok} {o : POut} (h : Ps lv all r o) (hr : ToksOk r) : ∀ a1 r1, o = .ok a1 r1 → cntOut lv all r a1 r1 := by
  have bin_ex : ∀ {k : Int} {all a1 b : List NodeC} {x y : Ex}, 2 ≤ k ∧ k ≤ 5 → x.ok → y.ok → all = b ++ x.nd b.length → a1 = all ++ y.nd all.length → (Ex.bin k x y).ok ∧ a1 ++ [binN k (lastI all) (lastI a1)] = b ++ (Ex.bin k x y).nd b.length := by
    rintro k all a1 b x y hk hx hy rfl rfl;refine ⟨⟨hk.1, hk.2, hx, hy⟩, ?_⟩
    rw [lastI_nd, lastI_nd, List.length_append, x.nd_len, List.append_assoc, List.append_assoc]
    simp only [Ex.nd, List.append_assoc]
    congr 4
  have hc : ∀ (x : Tok) (r : List Tok), lp r ≤ lp (x :: r) := fun x r => Nat.le_add_left _ _
  induction h with
  | par_bad _ _ _ => intro _ _ e; cases e
  | @par_ok all a1 x y r r1 h1 h2 h3 ih =>
    intro _ _ e; cases e
    obtain ⟨z, hz, ez, hl⟩ := ih (hr.suf (List.suffix_cons _ _)) _ _ rfl
    refine ⟨z, hz, ez, ?_⟩
    have hy := hc y r1
    have hu := need_up z 5
    have hn : need z (Lv.at_ .sum) = inn z := need_low z (Int.le_refl _)
    rw [hn] at hl
    show lp r1 + need z 5 ≤ pc (isT x 2 lpar) + lp r
    rw [h1]
    show _ ≤ 1 + _
    omega
  | par_no _ _ _ _ => intro _ _ e; cases e
  | @leaf all x r h =>
    intro _ _ e; cases e
    obtain ⟨y, h1, hn, h3⟩ := leaf_ex h (hr _ (by simp))
    refine ⟨y, h1, by rw [h3], ?_⟩
    have h0 : need y 5 = 0 := by
      cases y with
      | ref t => rfl
      | num q => rfl
      | neg x => have := x.n_pos; simp only [Ex.n] at hn; omega
      | pow x e => have := x.n_pos; simp only [Ex.n] at hn; omega
      | bin k x y => have := x.n_pos; simp only [Ex.n] at hn; omega
    have := hc x r
    show lp r + need y 5 ≤ _
    omega
  | none => intro _ _ e; cases e
  | no _ _ => intro _ _ e; cases e
  | pow_none _ =>
    intro _ _ e; cases e
    exact fun b x hx hb => ⟨x, hx, hb, Nat.add_le_add_left (need_mono x (by decide)) _⟩
  | @pow_ok all x r r1 ee h1 h =>
    intro _ _ e; cases e
    refine fun b y hx hb => ⟨.pow y _, ⟨hx, h.le (hr.suf (List.suffix_cons _ _))⟩, ?_, ?_⟩
    · rw [hb, lastI_nd, List.append_assoc]; rfl
    · have h2 := Expo.lp_ h
      have h3 := hc x r
      have h4 : need (.pow y ee) (Lv.at_ .powL) = need y 5 := by
        unfold need
        rw [decide_eq_false (show ¬ bindE (.pow y ee) < Lv.at_ .powL by show ¬ (4 : Int) < 4; decide)]
        rfl
      rw [h4]
      show _ ≤ lp (x :: r) + need y 5
      omega
  | pow_bad _ _ => intro _ _ e; cases e
  | power_bad _ _ => intro _ _ e; cases e
  | power_ok h1 _ ih1 ih2 =>
    intro _ _ e
    obtain ⟨y, hy, e1, l1⟩ := ih1 hr _ _ rfl
    obtain ⟨z, hz, e2, l2⟩ := ih2 (hr.suf h1.suf) _ _ e _ y hy e1
    refine ⟨z, hz, e2, ?_⟩
    change _ + need y 5 ≤ _ at l1
    change _ + need z 4 ≤ _ + need y 5 at l2
    show _ + need z 4 ≤ _
    omega
  | neg_bad _ _ _ => intro _ _ e; cases e
  | @neg_ok all a1 x r r1 h1 h2 ih =>
    intro _ _ e; cases e
    obtain ⟨y, hy, e1, l1⟩ := ih (hr.suf (List.suffix_cons _ _)) _ _ rfl
    refine ⟨.neg y, hy, ?_, ?_⟩
    · rw [e1, lastI_nd, List.append_assoc]; rfl
    · have h3 := hc x r
      have h4 : need (.neg y) (Lv.at_ .factor) = need y 3 := by
        unfold need
        rw [decide_eq_false (show ¬ bindE (.neg y) < Lv.at_ .factor by show ¬ (3 : Int) < 3; decide)]
        rfl
      rw [h4]
      change _ + need y 3 ≤ _ at l1
      omega
  | fac _ _ ih =>
    intro _ _ e
    obtain ⟨y, hy, e1, l1⟩ := ih hr _ _ e
    refine ⟨y, hy, e1, Nat.le_trans (Nat.add_le_add_left (need_mono y (by decide)) _) l1⟩
  | prodL_end _ =>
    intro _ _ e; cases e
    exact fun b x hx hb => ⟨x, hx, hb, Nat.le_refl _⟩
  | prodL_bad _ _ _ => intro _ _ e; cases e
  | @prodL_ok all a1 x r r1 k o hk h1 h2 ih1 ih2 =>
    intro _ _ e b z hx hb
    have hr1 := hr.suf (List.suffix_cons _ _)
    obtain ⟨y, hy, e1, l1⟩ := ih1 hr1 _ _ rfl
    obtain ⟨h2, h3⟩ := bin_ex (mulK_le hk) hx hy hb e1
    obtain ⟨u, hu, e2, l2⟩ := ih2 (hr1.suf h1.suf) _ _ e b _ h2 h3
    refine ⟨u, hu, e2, ?_⟩
    have hxr := hc x r
    have h4 : need (.bin k z y) 2 = need z 2 + need y 3 := by
      have hge := (mulK_ge hk).1
      unfold need
      rw [decide_eq_false (show ¬ bindE (.bin k z y) < 2 by show ¬ (if 4 ≤ k then (2 : Int) else 1) < 2; rw [if_pos hge]; decide)]
      show inn z + pc (decide (bindE z < if 4 ≤ k then 2 else 1)) + (inn y + pc (decide (bindE y < (if 4 ≤ k then 2 else 1) + 1))) + 0 = _
      rw [if_pos hge]; rfl
    change _ + need u 2 ≤ _ + need (.bin k z y) 2 at l2
    change _ + need y 3 ≤ _ at l1
    show _ + need u 2 ≤ _ + need z 2
    omega
  | product_bad _ _ => intro _ _ e; cases e
  | product_ok h1 _ ih1 ih2 =>
    intro _ _ e
    obtain ⟨y, hy, e1, l1⟩ := ih1 hr _ _ rfl
    obtain ⟨z, hz, e2, l2⟩ := ih2 (hr.suf h1.suf) _ _ e _ y hy e1
    refine ⟨z, hz, e2, ?_⟩
    have hm := need_mono y (show (2 : Int) ≤ 3 by decide)
    change _ + need y 3 ≤ _ at l1
    change _ + need z 2 ≤ _ + need y 2 at l2
    show _ + need z 2 ≤ _
    omega
  | sumL_end _ =>
    intro _ _ e; cases e
    exact fun b x hx hb => ⟨x, hx, hb, Nat.le_refl _⟩
  | sumL_bad _ _ _ => intro _ _ e; cases e
  | @sumL_ok all a1 x r r1 k o hk h1 h2 ih1 ih2 =>
    intro _ _ e b z hx hb
    have hr1 := hr.suf (List.suffix_cons _ _)
    obtain ⟨y, hy, e1, l1⟩ := ih1 hr1 _ _ rfl
    obtain ⟨h2, h3⟩ := bin_ex (addK_le hk) hx hy hb e1
    obtain ⟨u, hu, e2, l2⟩ := ih2 (hr1.suf h1.suf) _ _ e b _ h2 h3
    refine ⟨u, hu, e2, ?_⟩
    have hxr := hc x r
    have h4 : need (.bin k z y) 1 = need z 1 + need y 2 := by
      have hlt := (addK_lt hk).2
      unfold need
      rw [decide_eq_false (show ¬ bindE (.bin k z y) < 1 by show ¬ (if 4 ≤ k then (2 : Int) else 1) < 1; rw [if_neg (by omega)]; decide)]
      show inn z + pc (decide (bindE z < if 4 ≤ k then 2 else 1)) + (inn y + pc (decide (bindE y < (if 4 ≤ k then 2 else 1) + 1))) + 0 = _
      rw [if_neg (by omega)]; rfl
    change _ + need u 1 ≤ _ + need (.bin k z y) 1 at l2
    change _ + need y 2 ≤ _ at l1
    show _ + need u 1 ≤ _ + need z 1
    omega
  | sum_bad _ _ => intro _ _ e; cases e
  | sum_ok h1 _ ih1 ih2 =>
    intro _ _ e
    obtain ⟨y, hy, e1, l1⟩ := ih1 hr _ _ rfl
    obtain ⟨z, hz, e2, l2⟩ := ih2 (hr.suf h1.suf) _ _ e _ y hy e1
    refine ⟨z, hz, e2, ?_⟩
    have hm := need_mono y (show (1 : Int) ≤ 2 by decide)
    change _ + need y 2 ≤ _ at l1
    change _ + need z 1 ≤ _ + need y 1 at l2
    show _ + need z 1 ≤ _
    omega
def innAll (l : List (ByteArray × Ex)) : Nat := (l.map fun a => inn a.2).sum
theorem innAll_app (a b : List (ByteArray × Ex)) : innAll (a ++ b) = innAll a + innAll b := by simp [innAll]
theorem lp_suf {a b : List Tok} (h : a <:+ b) : lp a ≤ lp b := by
  obtain ⟨c, rfl⟩ := h
  rw [lp_app]; omega
theorem Lt1.cnt {all a1 : List NodeC} {r r1 : List Tok} {s : ByteArray} (h : Lt1 all r (.ok s a1 r1)) (hr : ToksOk r) : nameZ s = true ∧ r1 <:+ r ∧ ∃ x : Ex, x.ok ∧ a1 = all ++ x.nd all.length ∧ lp r1 + inn x ≤ lp r := by
  obtain ⟨k1, k2, _⟩ := h.ex hr
  refine ⟨k1, k2, ?_⟩
  cases h with
  | ok h1 h2 h3 h4 =>
    obtain ⟨x, hx, e, hl⟩ := Ps.cnt h3 (hr.suf ⟨[_, _], rfl⟩) _ _ rfl
    refine ⟨x, hx, e, ?_⟩
    rw [show need x (Lv.at_ .sum) = inn x from need_low x (Int.le_refl _)] at hl
    rename_i x' y' z' r'
    have a1 : lp r1 ≤ lp (z' :: r1) := Nat.le_add_left _ _
    have a2 : lp r' ≤ lp (x' :: y' :: r') := lp_suf ⟨[_, _], rfl⟩
    omega
theorem Lts.cnt {ls : List LetC} {all : List NodeC} {r : List Tok} {o : LSO} (h : Lts ls all r o) : ToksOk r → ∀ l : List (ByteArray × Ex), LetsOk l → ls = (laid l 0).1 → all = (laid l 0).2 → ∀ ls1 a1 r1, o = .ok ls1 a1 r1 → r1 <:+ r ∧ ∃ l', LetsOk l' ∧ ls1 = (laid l' 0).1 ∧ a1 = (laid l' 0).2 ∧ lp r1 + innAll l' ≤ lp r + innAll l := by
  induction h with
  | fin _ => intro hr l hl h1 h2 _ _ _ e; cases e; exact ⟨List.suffix_refl _, l, hl, h1, h2, Nat.le_refl _⟩
  | bad _ _ => intro hr l hl h1 h2 _ _ _ e; cases e
  | more hx h3 h4 ih =>
    intro hr l hl h1 h2 ls1 a2 r2 e
    have hr1 := hr.suf (List.suffix_cons _ _)
    obtain ⟨k1, k2, x, hx2, e2, hc⟩ := Lt1.cnt h3 hr1
    subst h1 h2
    obtain ⟨q1, l', q2, q3, q4, q5⟩ := ih (hr1.suf k2) (l ++ [(_, x)]) (fun a ha => by
      rcases List.mem_append.1 ha with ha | ha
      · exact hl a ha
      · rw [List.mem_singleton.1 ha]; exact ⟨k1, hx2⟩) (by rw [laid_more, e2, lastI_nd]; simp) (by rw [laid_more, e2]; simp) _ _ _ e
    refine ⟨q1.trans (k2.trans (List.suffix_cons _ _)), l', q2, q3, q4, ?_⟩
    rw [innAll_app] at q5
    have e5 : ∀ s : ByteArray, innAll [(s, x)] = inn x := fun s => by simp [innAll]
    rw [e5] at q5
    rename_i a1' x' n' r' r1' o'
    have h9 : lp r' ≤ lp (x' :: r') := Nat.le_add_left _ _
    omega
theorem Prg.cnt {r : List Tok} {p : ProgC} (h : Prg r (.ok p)) (hr : ToksOk r) : ∃ l, Shaped p l ∧ innAll l ≤ lp r := by
  cases h with
  | ok h1 h2 h3 h4 h5 =>
    have hr1 := hr.suf (List.suffix_cons _ _)
    obtain ⟨k1, k2⟩ := namesZ_ok _ h2
    obtain ⟨q1, l, q2, q3, q4, q5⟩ := Lts.cnt h3 (hr1.suf k2) [] (fun a ha => by cases ha) rfl rfl _ _ _ rfl
    refine ⟨l, ⟨q3, q4, q2⟩, ?_⟩
    rename_i x' y' r' r1' r2' i' o' l' a'
    have h6 : lp r1' ≤ lp (x' :: r') := lp_suf (k2.trans (List.suffix_cons _ _))
    have h7 : innAll [] = 0 := rfl
    omega
theorem nat_words {a b : Nat} (h : natW a = natW b) : a = b := by
  have := congrArg val h
  rwa [val_natW, val_natW] at this
theorem nd_inj : ∀ (x y : Ex) (b : Nat), x.ok → y.ok → x.nd b = y.nd b → x = y := by
  have app : ∀ {α : Type} {u v : List α} {a c : α}, u ++ [a] = v ++ [c] → u = v ∧ a = c := fun h => by
    have h1 := congrArg List.reverse h
    simp only [List.reverse_append, List.reverse_cons, List.reverse_nil, List.nil_append, List.singleton_append] at h1
    obtain ⟨h2, h3⟩ := List.cons.inj h1
    exact ⟨List.reverse_inj.1 h3, h2⟩
  have kd : ∀ (x : Ex) (b : Nat), x.ok → ∃ u c, x.nd b = u ++ [c] ∧ c.kind = (match x with
    | .ref _ => (0 : Int)
    | .num _ => 1
    | .neg _ => 6
    | .pow _ _ => 7
    | .bin k _ _ => k) := fun x b _ => by
    cases x with
    | ref t => exact ⟨[], _, rfl, rfl⟩
    | num q => exact ⟨[], _, rfl, rfl⟩
    | neg x => exact ⟨_, _, rfl, rfl⟩
    | pow x e => exact ⟨_, _, rfl, rfl⟩
    | bin k x y => exact ⟨_, _, rfl, rfl⟩
  have same : ∀ (x y : Ex) (b : Nat), x.ok → y.ok → x.nd b = y.nd b → (match x with
    | .ref _ => (0 : Int)
    | .num _ => 1
    | .neg _ => 6
    | .pow _ _ => 7
    | .bin k _ _ => k) = (match y with
    | .ref _ => (0 : Int)
    | .num _ => 1
    | .neg _ => 6
    | .pow _ _ => 7
    | .bin k _ _ => k) := fun x y b hx hy h => by
    obtain ⟨u, c, e1, k1⟩ := kd x b hx
    obtain ⟨v, d, e2, k2⟩ := kd y b hy
    rw [e1, e2] at h
    rw [← k1, ← k2, (app h).2]
  intro x
  induction x with
  | ref t =>
    intro y b hx hy h
    have hk := same _ _ b hx hy h
    cases y with
    | ref u => have := congrArg NodeC.name (List.cons.inj h).1; exact congrArg Ex.ref this
    | num q => cases hk
    | neg y => cases hk
    | pow y e => cases hk
    | bin k y z => have := hy.1; simp only at hk; omega
  | num q =>
    intro y b hx hy h
    have hk := same _ _ b hx hy h
    cases y with
    | ref u => cases hk
    | num q' =>
      have h1 := (List.cons.inj h).1
      have h2 := nat_words (congrArg NodeC.n h1)
      have h3 := nat_words (congrArg NodeC.d h1)
      have h4 := hx.1
      have h5 := hy.1
      exact congrArg Ex.num (Rat.ext (by omega) h3)
    | neg y => cases hk
    | pow y e => cases hk
    | bin k y z => have := hy.1; simp only at hk; omega
  | neg x ih =>
    intro y b hx hy h
    have hk := same _ _ b hx hy h
    cases y with
    | ref u => cases hk
    | num q => cases hk
    | neg y => exact congrArg Ex.neg (ih y b hx hy (app h).1)
    | pow y e => cases hk
    | bin k y z => have := hy.2.1; simp only at hk; omega
  | pow x e ih =>
    intro y b hx hy h
    have hk := same _ _ b hx hy h
    cases y with
    | ref u => cases hk
    | num q => cases hk
    | neg y => cases hk
    | pow y e' =>
      obtain ⟨h1, h2⟩ := app h
      have h3 : e = e' := congrArg NodeC.e h2
      rw [h3, ih y b hx.1 hy.1 h1]
    | bin k y z => have := hy.2.1; simp only at hk; omega
  | bin k x1 x2 ih1 ih2 =>
    intro y b hx hy h
    have hk := same _ _ b hx hy h
    cases y with
    | ref u => have := hx.1; simp only at hk; omega
    | num q => have := hx.1; simp only at hk; omega
    | neg y => have := hx.2.1; simp only at hk; omega
    | pow y e => have := hx.2.1; simp only at hk; omega
    | bin k' y1 y2 =>
      obtain ⟨h1, h2⟩ := app h
      have h3 : k = k' := congrArg NodeC.kind h2
      have h4 : (b : Int) + x1.n - 1 = (b : Int) + y1.n - 1 := congrArg NodeC.a h2
      have h5 : x1.n = y1.n := by omega
      obtain ⟨h6, h7⟩ := List.append_inj h1 (by rw [x1.nd_len, y1.nd_len, h5])
      rw [h5] at h7
      rw [h3, ih1 y1 b hx.2.2.1 hy.2.2.1 h6, ih2 y2 _ hx.2.2.2 hy.2.2.2 h7]
def cn (b : UInt8) (l : List UInt8) : Nat := (l.filter (· == b)).length
theorem cn_app (b : UInt8) (l m : List UInt8) : cn b (l ++ m) = cn b l + cn b m := by unfold cn; rw [List.filter_append, List.length_append]
theorem cn_cons (b x : UInt8) (l : List UInt8) : cn b (x :: l) = (if x = b then 1 else 0) + cn b l := by
  unfold cn
  rw [List.filter_cons]
  by_cases h : x = b
  · rw [if_pos (by simp [h]), if_pos h, List.length_cons]; omega
  · rw [if_neg (by simp [h]), if_neg h]; omega
theorem lexed_lp {s : ByteArray} {i j : Nat} {ts : List Tok} (h : Lexed s i j ts) : lp ts ≤ cn 40 (s.data.toList.drop i) := by
  have hd : ∀ {i : Nat}, i < s.size → s.data.toList.drop i = s.get! i :: s.data.toList.drop (i + 1) := fun {i} hi => by
    have hl : i < s.data.toList.length := by simpa using hi
    rw [List.drop_eq_getElem_cons hl]
    congr 1
    exact (getElem!_pos s.data i hi).symm
  have mono : ∀ {i k : Nat}, i ≤ k → cn 40 (s.data.toList.drop k) ≤ cn 40 (s.data.toList.drop i) := fun {i k} hik => by
    obtain ⟨d, rfl⟩ := Nat.exists_eq_add_of_le hik
    have := List.take_append_drop d (s.data.toList.drop i)
    rw [List.drop_drop] at this
    have h2 := congrArg (cn 40) this
    rw [cn_app] at h2
    omega
  induction h with
  | refl i => exact Nat.zero_le _
  | blank a b _ ih => exact Nat.le_trans ih (mono (by omega))
  | @tok i j ts a b c _ ih =>
    have hst := (tokZ_stop a c).1
    have htx := tok_text a c
    show pc (isT (tokAt s i) 2 lpar) + lp ts ≤ _
    cases hp : isT (tokAt s i) 2 lpar with
    | false => show 0 + lp ts ≤ _; have := mono (i := i) (k := (tokZ s i).stop) (by omega); omega
    | true =>
      have h1 : (tokAt s i).text = lpar := (isT_iff.1 hp).2
      have h2 : (tokZ s i).text = lpar := h1
      rw [h2] at htx
      have h3 : s.get! i = 40 := by
        have hb : i < (tokZ s i).stop := by omega
        have hle := (tokZ_stop a c).2
        have e2 : (s.extract i (tokZ s i).stop).get! 0 = s.get! i := by
          have e3 := get_tail (s.extract 0 (tokZ s i).stop) i 0 (by rw [cut_size hle]; omega)
          rw [cut_size hle, Nat.add_zero, ext_cut (Nat.le_refl _), cut_get hle hb] at e3
          exact e3
        rw [← e2, ← htx]
        rfl
      rw [hd a, cn_cons, if_pos h3]
      show 1 + lp ts ≤ _
      have := mono (i := i + 1) (k := (tokZ s i).stop) (by omega)
      omega
theorem lexZ_lp {s : ByteArray} (hs : s.size ≤ 4000) : lp (lexZ s).toks ≤ cn 40 s.data.toList := by
  have h := lexes s hs
  generalize lexZ s = L at h
  cases h with
  | fine h => have := lexed_lp h; exact this
  | bad => exact Nat.zero_le _
structure NodeAt (l : List NodeC) (i : Int) (x : Ex) : Prop where
  ok : x.ok
  lie : ∃ b : Nat, At l b x ∧ i = (b : Int) + x.n - 1
theorem nd_at {l : List NodeC} {b : Nat} {x : Ex} (h : At l b x) {u : List NodeC} {c : NodeC} (e : x.nd b = u ++ [c]) : l[b + u.length]? = some c := by
  refine h u.length c ?_
  rw [e, List.getElem?_append_right (Nat.le_refl _), Nat.sub_self]; rfl
theorem NodeAt.in_ {l : List NodeC} {i : Int} {x : Ex} (h : NodeAt l i x) : 0 ≤ i ∧ i < l.length := by
  obtain ⟨hx, b, ha, hi⟩ := h
  have hp := x.n_pos
  have hl : (x.nd b)[x.n - 1]? = some ((x.nd b)[x.n - 1]'(by rw [x.nd_len]; omega)) := List.getElem?_eq_getElem _
  have := ha _ _ hl
  have h2 := (List.getElem?_eq_some_iff.1 this).1
  omega
theorem NodeAt.ref {l : List NodeC} {i : Int} {t : ByteArray} (h : NodeAt l i (.ref t)) : l[i.toNat]? = some (refN t) := by
  obtain ⟨_, b, ha, hi⟩ := h
  have h1 := nd_at ha (u := []) (c := refN t) rfl
  rw [show i.toNat = b + 0 by simp only [Ex.n] at hi; omega]; exact h1
theorem NodeAt.num {l : List NodeC} {i : Int} {q : Rat} (h : NodeAt l i (.num q)) : l[i.toNat]? = some (numN q) := by
  obtain ⟨_, b, ha, hi⟩ := h
  have h1 := nd_at ha (u := []) (c := numN q) rfl
  rw [show i.toNat = b + 0 by simp only [Ex.n] at hi; omega]; exact h1
theorem NodeAt.neg {l : List NodeC} {i : Int} {x : Ex} (h : NodeAt l i (.neg x)) : ∃ a, l[i.toNat]? = some (negN a) ∧ NodeAt l a x ∧ a < i := by
  obtain ⟨hx, b, ha, hi⟩ := h
  have h1 := nd_at ha (u := x.nd b) rfl
  rw [x.nd_len] at h1
  refine ⟨(b : Int) + x.n - 1, ?_, ⟨hx, b, At.left ha rfl, rfl⟩, by simp only [Ex.n] at hi; omega⟩
  rw [show i.toNat = b + x.n by simp only [Ex.n] at hi; omega]; exact h1
theorem NodeAt.pow {l : List NodeC} {i : Int} {x : Ex} {e : Int} (h : NodeAt l i (.pow x e)) : ∃ a, l[i.toNat]? = some (powN a e) ∧ NodeAt l a x ∧ a < i := by
  obtain ⟨hx, b, ha, hi⟩ := h
  have h1 := nd_at ha (u := x.nd b) rfl
  rw [x.nd_len] at h1
  refine ⟨(b : Int) + x.n - 1, ?_, ⟨hx.1, b, At.left ha rfl, rfl⟩, by simp only [Ex.n] at hi; omega⟩
  rw [show i.toNat = b + x.n by simp only [Ex.n] at hi; omega]; exact h1
theorem NodeAt.bin {l : List NodeC} {i : Int} {x y : Ex} {k : Int} (h : NodeAt l i (.bin k x y)) : ∃ a c, l[i.toNat]? = some (binN k a c) ∧ NodeAt l a x ∧ NodeAt l c y ∧ a < i ∧ c < i := by
  obtain ⟨⟨_, _, hx, hy⟩, b, ha, hi⟩ := h
  have h1 := nd_at ha (u := x.nd b ++ y.nd (b + x.n)) rfl
  rw [List.length_append, x.nd_len, y.nd_len] at h1
  have ha1 : At l b x := At.left ha (u := x.nd b) (v := y.nd (b + x.n) ++ [binN k ((b : Int) + x.n - 1) ((b : Int) + x.n + y.n - 1)]) (by simp only [Ex.nd, List.append_assoc])
  have ha2 := At.right (At.left ha (u := x.nd b ++ y.nd (b + x.n)) rfl) (u := x.nd b) (v := y.nd (b + x.n)) rfl
  rw [x.nd_len] at ha2
  refine ⟨(b : Int) + x.n - 1, (b : Int) + x.n + y.n - 1, ?_, ⟨hx, b, ha1, rfl⟩, ⟨hy, b + x.n, ha2, by omega⟩, ?_, ?_⟩
  · rw [show i.toNat = b + (x.n + y.n) by simp only [Ex.n] at hi; omega]; exact h1
  · simp only [Ex.n] at hi; omega
  · simp only [Ex.n] at hi; omega
theorem sub_ex : ∀ (x : Ex) {l : List NodeC} {b : Nat}, x.ok → At l b x → ∀ j, j < x.n → ∃ y, NodeAt l ((b + j : Nat) : Int) y ∧ y.h ≤ x.h ∧ y.n ≤ x.n := by
  intro x
  induction x with
  | ref t => intro l b hx ha j hj; simp only [Ex.n] at hj; exact ⟨.ref t, ⟨hx, b, ha, by simp only [Ex.n]; omega⟩, Nat.le_refl _, Nat.le_refl _⟩
  | num q => intro l b hx ha j hj; simp only [Ex.n] at hj; exact ⟨.num q, ⟨hx, b, ha, by simp only [Ex.n]; omega⟩, Nat.le_refl _, Nat.le_refl _⟩
  | neg x ih =>
    intro l b hx ha j hj
    simp only [Ex.n] at hj
    by_cases h : j < x.n
    · obtain ⟨y, h1, h2, h3⟩ := ih hx (At.left ha (u := x.nd b) rfl) j h
      exact ⟨y, h1, by simp only [Ex.h]; omega, by simp only [Ex.n]; omega⟩
    · exact ⟨.neg x, ⟨hx, b, ha, by simp only [Ex.n]; omega⟩, Nat.le_refl _, Nat.le_refl _⟩
  | pow x e ih =>
    intro l b hx ha j hj
    simp only [Ex.n] at hj
    by_cases h : j < x.n
    · obtain ⟨y, h1, h2, h3⟩ := ih hx.1 (At.left ha (u := x.nd b) rfl) j h
      exact ⟨y, h1, by simp only [Ex.h]; omega, by simp only [Ex.n]; omega⟩
    · exact ⟨.pow x e, ⟨hx, b, ha, by simp only [Ex.n]; omega⟩, Nat.le_refl _, Nat.le_refl _⟩
  | bin k x y ih1 ih2 =>
    intro l b hx ha j hj
    simp only [Ex.n] at hj
    have ha1 : At l b x := At.left ha (u := x.nd b) (v := y.nd (b + x.n) ++ [binN k ((b : Int) + x.n - 1) ((b : Int) + x.n + y.n - 1)]) (by simp only [Ex.nd, List.append_assoc])
    have ha2 := At.right (At.left ha (u := x.nd b ++ y.nd (b + x.n)) rfl) (u := x.nd b) (v := y.nd (b + x.n)) rfl
    rw [x.nd_len] at ha2
    by_cases h : j < x.n
    · obtain ⟨z, h1, h2, h3⟩ := ih1 hx.2.2.1 ha1 j h
      exact ⟨z, h1, by simp only [Ex.h]; omega, by simp only [Ex.n]; omega⟩
    · by_cases h4 : j < x.n + y.n
      · obtain ⟨z, h1, h2, h3⟩ := ih2 hx.2.2.2 ha2 (j - x.n) (by omega)
        rw [show b + x.n + (j - x.n) = b + j by omega] at h1
        exact ⟨z, h1, by simp only [Ex.h]; omega, by simp only [Ex.n]; omega⟩
      · exact ⟨.bin k x y, ⟨hx, b, ha, by simp only [Ex.n]; omega⟩, Nat.le_refl _, Nat.le_refl _⟩
theorem laid_sub : ∀ (l : List (ByteArray × Ex)) (b : Nat) {all : List NodeC}, LetsOk l → (∀ j c, (laid l b).2[j]? = some c → all[b + j]? = some c) → ∀ j, j < (laid l b).2.length → ∃ a ∈ l, ∃ y, NodeAt all ((b + j : Nat) : Int) y ∧ y.h ≤ a.2.h ∧ y.n ≤ a.2.n
  | [], b, all, _, _, j, hj => by simp [laid] at hj
  | (s, x) :: l, b, all, h, ha, j, hj => by
    have e : (laid ((s, x) :: l) b).2 = x.nd b ++ (laid l (b + x.n)).2 := rfl
    have a1 := At.left ha e
    have a2 := At.right ha e
    rw [x.nd_len] at a2
    rw [e, List.length_append, x.nd_len] at hj
    by_cases h1 : j < x.n
    · obtain ⟨y, k1, k2, k3⟩ := sub_ex x (h _ List.mem_cons_self).2 a1 j h1
      exact ⟨_, List.mem_cons_self, y, k1, k2, k3⟩
    · obtain ⟨a, k0, y, k1, k2, k3⟩ := laid_sub l (b + x.n) (fun a ha => h a (List.mem_cons_of_mem _ ha)) a2 (j - x.n) (by omega)
      rw [show b + x.n + (j - x.n) = b + j by omega] at k1
      exact ⟨a, List.mem_cons_of_mem _ k0, y, k1, k2, k3⟩
theorem laid_root : ∀ (l : List (ByteArray × Ex)) (b : Nat) {all : List NodeC}, LetsOk l → (∀ (j : Nat) (c : NodeC), (laid l b).2[j]? = some c → all[b + j]? = some c) → ∀ (j : Nat) (c : LetC), (laid l b).1[j]? = some c → ∃ x, l[j]? = some (c.name, x) ∧ NodeAt all c.root x
  | [], b, all, _, _, j, c, hj => by simp [laid] at hj
  | (s, x) :: l, b, all, h, ha, 0, c, hj => by
    have e : (laid ((s, x) :: l) b).2 = x.nd b ++ (laid l (b + x.n)).2 := rfl
    have a1 := At.left ha e
    have e1 : (⟨s, (b : Int) + x.n - 1⟩ : LetC) = c := Option.some.inj hj
    subst e1
    exact ⟨x, rfl, ⟨(h _ List.mem_cons_self).2, b, a1, rfl⟩⟩
  | (s, x) :: l, b, all, h, ha, j + 1, c, hj => by
    have e : (laid ((s, x) :: l) b).2 = x.nd b ++ (laid l (b + x.n)).2 := rfl
    have a2 := At.right ha e
    rw [x.nd_len] at a2
    exact laid_root l (b + x.n) (fun a ha => h a (List.mem_cons_of_mem _ ha)) a2 j c hj
theorem RightP.node {p : ProgC} {l : List (ByteArray × Ex)} (h : RightP p l) {i : Int} (h0 : 0 ≤ i) (h1 : i < p.all.length) : ∃ y, NodeAt p.all i y ∧ y.h ≤ 60 := by
  have ha : ∀ j c, (laid l 0).2[j]? = some c → p.all[0 + j]? = some c := fun j c hj => by rw [h.all, Nat.zero_add]; exact hj
  obtain ⟨a, k0, y, k1, k2, k3⟩ := laid_sub l 0 h.ok ha i.toNat (by rw [← h.all]; omega)
  rw [show ((0 + i.toNat : Nat) : Int) = i by omega] at k1
  exact ⟨y, k1, Nat.le_trans k2 (h.low a k0)⟩
theorem RightP.root {p : ProgC} {l : List (ByteArray × Ex)} (h : RightP p l) {j : Nat} {c : LetC} (hj : p.lets[j]? = some c) : ∃ x, l[j]? = some (c.name, x) ∧ NodeAt p.all c.root x ∧ x.h ≤ 60 := by
  have ha : ∀ j c, (laid l 0).2[j]? = some c → p.all[0 + j]? = some c := fun j c hj => by rw [h.all, Nat.zero_add]; exact hj
  rw [h.lets] at hj
  obtain ⟨x, k1, k2⟩ := laid_root l 0 h.ok ha j c hj
  exact ⟨x, k1, k2, h.low (c.name, x) (List.mem_of_getElem? k1)⟩
theorem NodeAt.few {l : List NodeC} {i : Int} {x : Ex} (h : NodeAt l i x) : x.n ≤ l.length := by
  have h1 := h.in_
  obtain ⟨_, b, _, hi⟩ := h
  omega
def P10 (I : Hp) : Prop := ∃ T f, I 1 = some (.cells (Lib.pow10Tab.map fun z => Value.int .u64 z).toArray T f)
theorem P10.le {I I' : Hp} (h : P10 I) (hl : I.Le I') : P10 I' := by
  obtain ⟨T, f, h⟩ := h
  exact ⟨T, f, hl _ _ h⟩
theorem P10.tab {I : Hp} (h : P10 I) {w : World} (hw : I.In w) : Lib.TabIs Tryz.prog w "internal/strconv.uint64pow10" .u64 Lib.pow10Tab := by
  obtain ⟨T, f, h⟩ := h
  have hg : Tryz.prog.globalNamed "internal/strconv.uint64pow10" = some 1 := by kernel_rfl
  unfold Lib.TabIs World.var?
  rw [hg]
  show (match w.heap[1]? with
    | some (.cells cs _ _) => some cs
    | _ => none) = _
  rw [hw _ _ h]
theorem dec_digs (n : Nat) : Lib.decDigits n = (digs n).reverse.map UInt8.ofNat := by
  induction n using Nat.strongRecOn with
  | _ n ih =>
    by_cases h : n < 10
    · rw [Lib.decDigits, dif_pos h, digs, dif_pos h]; rfl
    · rw [Lib.decDigits, dif_neg h, digs, dif_neg h, ih (n / 10) (by omega)]
      simp
theorem dec_decS (n : Nat) : (⟨(Lib.decDigits n).toArray⟩ : ByteArray) = decS n := by
  have h := decS_list n
  rw [toList_data] at h
  rw [dec_digs, ← h]
theorem exp_text (e : Int) : txZ (expP e) = ⟨(Lib.itoa e).toArray⟩ := by
  have h1 : ∀ s : ByteArray, txZ [tk 1 s] = s := fun s => by show s ++ ByteArray.empty = s; rw [ByteArray.append_empty]
  unfold expP Lib.itoa
  by_cases he : e < 0
  · rw [if_pos he, if_pos he]
    show minusS ++ txZ [tk 1 (decS e.natAbs)] = _
    rw [h1, ← dec_decS]
    apply ByteArray.ext
    simp [minusS]
  · rw [if_neg he, if_neg he]
    show txZ [tk 1 (decS e.natAbs)] = _
    rw [h1, ← dec_decS, show e.natAbs = e.toNat by omega]
theorem itoa_any (e : Int) {I : Hp} (hP : P10 I) (he : -1000 ≤ e ∧ e ≤ 1000) : Fun Tryz.prog 93 [.int .i64 e] I [] (fun v _ _ => v = .string (txZ (expP e))) := by
  refine fun_below fun w hw => ?_;refine (Tryz.strconv_Itoa e (by omega) (by omega) w (hP.tab hw)).mono ?_;rintro x w' ⟨rfl, k, os, rfl⟩;exact ⟨_, rfl, by rw [exp_text], Lib.below_grow _ _ (Nat.le_refl _) k os⟩
def joinS : List ByteArray → ByteArray
  | [] => ⟨#[]⟩
  | s :: l => s ++ txZ (restP l).dropLast.dropLast
theorem rest_drop : ∀ (l : List ByteArray), restP l = (restP l).dropLast.dropLast ++ [tk 2 semiS, nl]
  | [] => rfl
  | s :: l => by
    have ih := rest_drop l
    have h2 : ∃ a b r, restP l = a :: b :: r := by
      cases l with
      | nil => exact ⟨_, _, _, rfl⟩
      | cons t l => exact ⟨_, _, _, rfl⟩
    obtain ⟨a, b, r, e⟩ := h2
    have e3 : (restP (s :: l)).dropLast.dropLast = tk 2 commaS :: gp :: tk 0 s :: (restP l).dropLast.dropLast := by
      rw [restP, e]
      cases r with
      | nil => rfl
      | cons c r => simp [List.dropLast]
    rw [e3, List.cons_append, List.cons_append, List.cons_append, ← ih]
    rfl
theorem names_text {key s : ByteArray} {l : List ByteArray} : txZ (namesP key (s :: l)) = key ++ (⟨#[32]⟩ ++ (joinS (s :: l) ++ ⟨#[59, 10]⟩)) := by
  show txZ (tk 0 key :: gp :: tk 0 s :: restP l) = _
  conv => lhs; rw [rest_drop l]
  simp only [txZ, txZ_app, joinS, ByteArray.append_assoc]
  rfl
theorem rest_tail : ∀ (l : List ByteArray), (txZ (restP l).dropLast.dropLast).data.toList = Lib.joinTail [44, 32] (l.map (·.data.toList))
  | [] => rfl
  | s :: l => by
    have ih := rest_tail l
    have h2 : ∃ a b r, restP l = a :: b :: r := by
      cases l with
      | nil => exact ⟨_, _, _, rfl⟩
      | cons t l => exact ⟨_, _, _, rfl⟩
    obtain ⟨a, b, r, e⟩ := h2
    have e3 : (restP (s :: l)).dropLast.dropLast = tk 2 commaS :: gp :: tk 0 s :: (restP l).dropLast.dropLast := by
      rw [restP, e]
      cases r with
      | nil => rfl
      | cons c r => simp [List.dropLast]
    rw [e3]
    show (commaS ++ (⟨#[32]⟩ ++ (s ++ txZ (restP l).dropLast.dropLast))).data.toList = _
    simp only [ByteArray.data_append, Array.toList_append, ih]
    simp [Lib.joinTail, commaS]
theorem join_text (s : ByteArray) (l : List ByteArray) : (⟨(Lib.join ((s :: l).map (·.data.toList)) [44, 32]).toArray⟩ : ByteArray) = joinS (s :: l) := by
  rw [List.map_cons, Lib.join_cons, ← rest_tail]
  apply ByteArray.ext
  simp [joinS, ByteArray.data_append]
theorem joins_size {l : List ByteArray} (h : NamesOk l) : (joinS l).size ≤ 42 * l.length := by
  cases l with
  | nil => decide
  | cons s l =>
    have h1 := rest_size l fun b hb => h b (List.mem_cons_of_mem _ hb)
    have h2 := (name_parts (h s List.mem_cons_self)).2.1
    rw [rest_drop l, tx_app] at h1
    have h3 : (txZ [tk 2 semiS, nl]).size = 2 := by decide
    show (s ++ txZ _).size ≤ _
    rw [ByteArray.size_append, List.length_cons]
    omega
theorem join_any (v : Value) (l : List ByteArray) {I : Hp} (h : Slc I 1 v (scs l)) (h0 : 1 ≤ l.length) (hs : (joinS l).size ≤ 1000000) : Fun Tryz.prog 53 [v, .string ⟨#[44, 32]⟩] I [] (fun v _ _ => v = .string (joinS l)) := by
  have hl := scs_len l
  obtain ⟨s, r, rfl⟩ : ∃ s r, l = s :: r := by
    cases l with
    | nil => simp at h0
    | cons s r => exact ⟨s, r, rfl⟩
  rcases h.shape with ⟨A, _, e⟩ | ⟨b, off, cap, rfl, hc⟩
  · rw [e] at hl; simp at hl
  rw [hl] at hc ⊢
  have hmx := h.most
  rw [hl] at hmx
  have hjt := join_text s r
  have hsz := congrArg ByteArray.size hjt
  change (Lib.join ((s :: r).map (·.data.toList)) [44, 32]).toArray.size = _ at hsz
  rw [List.size_toArray] at hsz
  have hlen : ∀ (y : ByteArray) (q : List ByteArray), q.length ≤ (txZ (restP q).dropLast.dropLast).size := fun y q => by
    have h1 : ∀ q : List ByteArray, q.length ≤ (Lib.joinTail [44, 32] (q.map (·.data.toList))).length := fun q => by
      induction q with
      | nil => exact Nat.zero_le _
      | cons t q ih =>
        have e : Lib.joinTail [44, 32] ((t :: q).map (·.data.toList)) = [44, 32] ++ t.data.toList ++ Lib.joinTail [44, 32] (q.map (·.data.toList)) := by simp [Lib.joinTail]
        rw [e, List.length_append, List.length_append, List.length_cons]
        show _ ≤ 2 + _ + _
        omega
    have h2 := h1 q
    rw [← rest_tail] at h2
    simpa using h2
  have hjs : (joinS (s :: r)).size = s.size + (txZ (restP r).dropLast.dropLast).size := ByteArray.size_append
  have hrl := hlen s r
  refine fun_below fun w hw => ?_
  have hcell : ∀ (j : Nat) x, (s :: r)[j]? = some x → w.cell? ⟨b, off + j, none⟩ = some (.string x) := fun j x hj => by
    have h1 := scs_at h hj
    rw [Nat.mul_one] at h1
    exact Hp.In.cell hw h1
  have hbk : b < w.heap.size := by
    have h1 := hcell 0 s rfl
    unfold World.cell? at h1
    split at h1
    · rename_i hb; exact (Array.getElem?_eq_some_iff.1 hb).1
    · cases h1
  refine (Tryz.strings_Join b off cap (s :: r) ⟨#[44, 32]⟩ w hcell hbk (by rw [List.length_cons]; omega) hc (by show (Lib.join _ [44, 32]).length ≤ _; omega)).mono ?_;rintro x w' ⟨rfl, hb⟩;exact ⟨_, rfl, congrArg Value.string hjt, hb⟩
theorem intFix_any (n : Nat) (va : Value) {I : Hp} (ha : Ws I va (natW n)) (hs : (natW n).length ≤ 100000) : Fun Tryz.prog 152 [.agg #[.bool false, va]] I [] (fun v I' _ => ∃ u, v = .agg #[.bool false, u] ∧ Ws I' u (natW n)) := by
  intro w hw
  refine enter1 _ Tryz.func152 rfl Tryz.ntmps152 rfl ?_ hw;refine sR ?_;refine o_box trivial rfl rfl rfl (fun b1 => ?_);refine o_alloc trivial rfl Tryz.zeroValue132 rfl (fun b2 => ?_);refine nS ?_;refine oF 0 Tryz.underlying132 Tryz.sizeOf4 ?_;refine oL Tryz.isAgg4 ?_;refine oF 1 Tryz.underlying132 Tryz.sizeOf33 ?_;refine oL Tryz.isAgg33 ?_;refine oI Tryz.call182 rfl (signed_any false va (natW n) ha (by omega)) ?_;rintro _ I1 hx1 ⟨u, rfl, hu⟩;refine oS Tryz.sizeOf132 ?_;refine nE ?_;refine retR rfl (.agg Tryz.isAgg132 Tryz.sizeOf132 rfl (by repeat constructor) rfl .nil) ?_;refine leaf hx1 (List.nil_sublist _) ⟨u, ?_, ?_⟩
  · rw [decide_eq_false (by rw [if_neg (by decide)]; omega)]; rfl
  · rw [if_neg (by decide), Int.natAbs_natCast, val_natW] at hu; exact hu
theorem wPrint_any (n : Nat) (va : Value) {I : Hp} (ha : Ws I va (natW n)) (hs : (natW n).length ≤ 100000) (hd : (digs n).length ≤ 40) : Fun Tryz.prog 126 [.agg #[.bool false, va]] I [] (fun v _ _ => v = .string (decS n)) := by
  have hfx := intFix_any n va ha hs
  intro w hw
  refine enter1 _ Tryz.func126 rfl Tryz.ntmps126 rfl ?_ hw;refine sR ?_;refine o_box trivial rfl rfl rfl (fun b1 => ?_);refine oV ?_;refine nS ?_;refine oA Tryz.isAgg132 Tryz.sizeOf132 ?_;refine oI Tryz.call152 rfl hfx ?_;rintro _ I1 hx1 ⟨u, rfl, hu⟩;refine oS Tryz.sizeOf132 ?_;refine nU ?_;refine oF 0 Tryz.underlying132 Tryz.sizeOf4 ?_;refine oL Tryz.isAgg4 ?_;refine nT ?_;refine c_cond_f rfl (by rfl) ?_;refine kS ?_;refine oF 1 Tryz.underlying132 Tryz.sizeOf33 ?_;refine oL Tryz.isAgg33 ?_;refine oQ Tryz.call130 rfl (decPrint_any _ _ hu (by omega)) ?_;refine oV ?_;refine nE ?_;refine ret1 rfl rfl ?_;refine leaf hx1 (List.nil_sublist _) (congrArg Value.string ?_); rw [val_natW]
theorem qPrint_any (q : Rat) (va vb : Value) {I : Hp} (ha : Ws I va (natW q.num.natAbs)) (hb : Ws I vb (natW q.den)) (hk : Few 3000 q) (h0 : 0 ≤ q.num) (h1 : (digs q.num.natAbs).length ≤ 40) (h2 : (digs q.den).length ≤ 40) : Fun Tryz.prog 92 [.agg #[.bool (decide (q.num < 0)), va, vb]] I [] (fun v _ _ => v = .string (ratS q)) := by
  have hneg : decide (q.num < 0) = false := decide_eq_false (by omega)
  have hln : (natW q.num.natAbs).length ≤ 3000 := natW_few hk.num (Nat.le_refl _)
  have hld : (natW q.den).length ≤ 3000 := natW_few hk.den (Nat.le_refl _)
  have hof := qof_any q va vb ha hb (hk.le (by decide))
  have hsn : (decS q.num.natAbs).size ≤ 40 := by rw [decS_size]; exact h1
  have hsd : (decS (val (natW q.den))).size ≤ 40 := by rw [val_natW, decS_size]; exact h2
  clear hk
  intro w hw
  refine enter1 _ Tryz.func92 rfl Tryz.ntmps92 rfl ?_ hw;refine sR ?_;refine o_box trivial rfl rfl rfl (fun b1 => ?_);refine oV ?_;refine nS ?_;refine oA Tryz.isAgg35 Tryz.sizeOf35 ?_;refine oI Tryz.call125 rfl hof ?_;rintro _ I1 hx1 ⟨u1, u2, rfl, hs1, hs2⟩;refine o_alloc trivial rfl Tryz.zeroValue177 rfl (fun b3 => ?_);refine oS Tryz.sizeOf177 ?_;refine nS ?_;refine oF 0 Tryz.underlying177 Tryz.sizeOf175 ?_;refine oA Tryz.isAgg175 Tryz.sizeOf175 ?_;refine oQ Tryz.call127 rfl (above_any q u1 u2 hs1 hs2) ?_
  rw [hneg]
  refine oQ Tryz.call126 rfl (wPrint_any q.num.natAbs _ hs1 (by omega) h1) ?_;refine oV ?_;refine oN (tC (cS (cS ?_)));refine h_beginB (m := 7) [.box b3 _] (by repeat constructor) (by kernel_rfl) rfl ?_;refine qT (i := 0) (qB 7 1) (Hp.Le.refl _) rfl rfl (oF 0 Tryz.underlying177 Tryz.sizeOf175 qF) ?_;refine qT (i := 1) (qB 7 3) (Hp.Le.refl _) rfl rfl (oF 0 Tryz.underlying175 Tryz.sizeOf35 qF) ?_;refine qT (i := 2) (qB 7 7) (Hp.Le.refl _) rfl rfl (oF 2 Tryz.underlying35 Tryz.sizeOf33 qF) ?_;refine qT (i := 3) (qB 7 15) (Hp.Le.refl _) rfl rfl (oL Tryz.isAgg33 qF) ?_;refine qO (i := 4) (qB 7 31) rfl ?_;refine oI Tryz.call129 rfl (natOf_any 1 (by decide)) ?_;rintro u3 I2 hx2 hs3;refine qM (hx2.le) ?_;refine qO (i := 5) (qB 7 63) rfl ?_;refine oQ Tryz.call128 rfl (natCmp_any _ _ _ _ (hs2.le hx2.le) hs3 (by omega) (natW_len_of (k := 1) (by decide) (by decide))) ?_;refine qM (hx2.le) ?_;refine qT (i := 6) (qB 7 127) (hx2.le) rfl rfl (oV qF) ?_;refine h_end (by kernel_rfl) ?_;refine tC ?_;refine cC rfl (fun h1 => ?_) (fun h1 => ?_)
  ·
   have f1 := h1;try simp only [bl] at f1
   refine sR ?_;iterate 2 refine oV ?_
   refine nF ?_;refine ret1 rfl rfl ?_;refine leaf (hx1.trans hx2 (Nat.le_refl _)) (List.nil_sublist _) (congrArg Value.string ?_)
   have hd : q.den = 1 := by
     rw [val_natW, val_natW] at f1
     unfold cmpZ at f1
     split at f1
     · omega
     · split at f1 <;> omega
   unfold ratS
   rw [if_pos hd]
  have f1 := h1;try simp only [bl] at f1
  refine kS ?_;refine oV ?_;refine o_cat trivial rfl rfl rfl (by first | omega | (simp only [ByteArray.size_append, lit_size, strOf_size, List.length_replicate, List.size_toArray, List.length_cons, List.length_nil]; omega) | (simp; omega)) ?_;refine oF 0 Tryz.underlying177 Tryz.sizeOf175 ?_;refine oF 0 Tryz.underlying175 Tryz.sizeOf35 ?_;refine oF 2 Tryz.underlying35 Tryz.sizeOf33 ?_;refine oL Tryz.isAgg33 ?_;refine oQ Tryz.call130 rfl (decPrint_any _ _ (hs2.le hx2.le) (by omega)) ?_;refine o_cat trivial rfl rfl rfl (by first | omega | (simp only [ByteArray.size_append, lit_size, strOf_size, List.length_replicate, List.size_toArray, List.length_cons, List.length_nil]; omega) | (simp; omega)) ?_;refine oV ?_;refine nE ?_;refine ret1 rfl rfl ?_;refine leaf (hx1.trans hx2 (Nat.le_refl _)) (List.nil_sublist _) (congrArg Value.string ?_)
  have hd : ¬ q.den = 1 := fun h => by
    rw [val_natW, val_natW, h] at f1
    exact f1 rfl
  unfold ratS
  rw [if_neg hd, val_natW]
theorem binds_any (k : Int) : PureC Tryz.prog 91 [.int .i64 k] (.int .i64 (bindZ k)) := by
  intro w
  refine enter1 _ Tryz.func91 rfl Tryz.ntmps91 rfl ?_ (S := fun w1 => w1 = w) rfl;refine sR ?_;refine oV ?_;refine nU ?_;refine oV ?_;refine oN (tC (cB (cS (sR ?_))));iterate 2 refine oV ?_
  refine nT ?_;refine cC rfl (fun h1 => ?_) (fun h1 => ?_)
  ·
   have f1 := h1;try simp only [bl] at f1
   refine cK (tC ?_);refine cC rfl (fun h2 => ?_) (fun h2 => ?_)
   ·
    have f2 := h2;try simp only [bl] at f2
    refine sR ?_;refine oV ?_;refine oN (tC (cT (blk_r (tR ?_))));refine ret1 rfl rfl ?_;refine fun _ hw => ⟨congrArg (Value.int .i64) ?_, hw⟩; unfold bindZ; (repeat' split) <;> omega
   have f2 := h2;try simp only [bl] at f2
   refine cS (sR ?_);iterate 2 refine oV ?_
   refine nT ?_;refine cC rfl (fun h3 => ?_) (fun h3 => ?_)
   ·
    have f3 := h3;try simp only [bl] at f3
    refine cK (tC ?_);refine cC rfl (fun h4 => ?_) (fun h4 => ?_)
    ·
     have f4 := h4;try simp only [bl] at f4
     refine sR ?_;refine oV ?_;refine oN (tC (cT (blk_r (tR ?_))));refine ret1 rfl rfl ?_;refine fun _ hw => ⟨congrArg (Value.int .i64) ?_, hw⟩; unfold bindZ; (repeat' split) <;> omega
    have f4 := h4;try simp only [bl] at f4
    refine sR ?_;iterate 2 refine oV ?_
    refine nT ?_;refine cC rfl (fun h5 => ?_) (fun h5 => ?_)
    ·
     have f5 := h5;try simp only [bl] at f5
     refine sR ?_;refine oV ?_;refine oN (tC (cT (blk_r (tR ?_))));refine ret1 rfl rfl ?_;refine fun _ hw => ⟨congrArg (Value.int .i64) ?_, hw⟩; unfold bindZ; (repeat' split) <;> omega
    have f5 := h5;try simp only [bl] at f5
    refine sR ?_;iterate 2 refine oV ?_
    refine nT ?_;refine cC rfl (fun h6 => ?_) (fun h6 => ?_)
    ·
     have f6 := h6;try simp only [bl] at f6
     refine sR ?_;refine oV ?_;refine oN (tC (cT (blk_r (tR ?_))));refine ret1 rfl rfl ?_;refine fun _ hw => ⟨congrArg (Value.int .i64) ?_, hw⟩; unfold bindZ; (repeat' split) <;> omega
    have f6 := h6;try simp only [bl] at f6
    refine cK (blk_n (tC (sR ?_)));refine oV ?_;refine nE ?_;refine ret1 rfl rfl ?_;refine fun _ hw => ⟨congrArg (Value.int .i64) ?_, hw⟩; unfold bindZ; (repeat' split) <;> omega
   have f3 := h3;try simp only [bl] at f3
   refine cR ?_;iterate 2 refine oV ?_
   refine nT ?_;refine cC rfl (fun h4 => ?_) (fun h4 => ?_)
   ·
    have f4 := h4;try simp only [bl] at f4
    refine sR ?_;refine oV ?_;refine oN (tC (cT (blk_r (tR ?_))));refine ret1 rfl rfl ?_;refine fun _ hw => ⟨congrArg (Value.int .i64) ?_, hw⟩; unfold bindZ; (repeat' split) <;> omega
   have f4 := h4;try simp only [bl] at f4
   refine sR ?_;iterate 2 refine oV ?_
   refine nT ?_;refine cC rfl (fun h5 => ?_) (fun h5 => ?_)
   ·
    have f5 := h5;try simp only [bl] at f5
    refine sR ?_;refine oV ?_;refine oN (tC (cT (blk_r (tR ?_))));refine ret1 rfl rfl ?_;refine fun _ hw => ⟨congrArg (Value.int .i64) ?_, hw⟩; unfold bindZ; (repeat' split) <;> omega
   have f5 := h5;try simp only [bl] at f5
   refine sR ?_;iterate 2 refine oV ?_
   refine nT ?_;refine cC rfl (fun h6 => ?_) (fun h6 => ?_)
   ·
    have f6 := h6;try simp only [bl] at f6
    refine sR ?_;refine oV ?_;refine oN (tC (cT (blk_r (tR ?_))));refine ret1 rfl rfl ?_;refine fun _ hw => ⟨congrArg (Value.int .i64) ?_, hw⟩; unfold bindZ; (repeat' split) <;> omega
   have f6 := h6;try simp only [bl] at f6
   refine cK (blk_n (tC (sR ?_)));refine oV ?_;refine nE ?_;refine ret1 rfl rfl ?_;refine fun _ hw => ⟨congrArg (Value.int .i64) ?_, hw⟩; unfold bindZ; (repeat' split) <;> omega
  have f1 := h1;try simp only [bl] at f1
  refine cR ?_;iterate 2 refine oV ?_
  refine nT ?_;refine cC rfl (fun h2 => ?_) (fun h2 => ?_)
  ·
   have f2 := h2;try simp only [bl] at f2
   refine sR ?_;refine oV ?_;refine oN (tC (cT (blk_r (tR ?_))));refine ret1 rfl rfl ?_;refine fun _ hw => ⟨congrArg (Value.int .i64) ?_, hw⟩; unfold bindZ; (repeat' split) <;> omega
  have f2 := h2;try simp only [bl] at f2
  refine cS (sR ?_);iterate 2 refine oV ?_
  refine nT ?_;refine cC rfl (fun h3 => ?_) (fun h3 => ?_)
  ·
   have f3 := h3;try simp only [bl] at f3
   refine cK (tC ?_);refine cC rfl (fun h4 => ?_) (fun h4 => ?_)
   ·
    have f4 := h4;try simp only [bl] at f4
    refine sR ?_;refine oV ?_;refine oN (tC (cT (blk_r (tR ?_))));refine ret1 rfl rfl ?_;refine fun _ hw => ⟨congrArg (Value.int .i64) ?_, hw⟩; unfold bindZ; (repeat' split) <;> omega
   have f4 := h4;try simp only [bl] at f4
   refine sR ?_;iterate 2 refine oV ?_
   refine nT ?_;refine cC rfl (fun h5 => ?_) (fun h5 => ?_)
   ·
    have f5 := h5;try simp only [bl] at f5
    refine sR ?_;refine oV ?_;refine oN (tC (cT (blk_r (tR ?_))));refine ret1 rfl rfl ?_;refine fun _ hw => ⟨congrArg (Value.int .i64) ?_, hw⟩; unfold bindZ; (repeat' split) <;> omega
   have f5 := h5;try simp only [bl] at f5
   refine sR ?_;iterate 2 refine oV ?_
   refine nT ?_;refine cC rfl (fun h6 => ?_) (fun h6 => ?_)
   ·
    have f6 := h6;try simp only [bl] at f6
    refine sR ?_;refine oV ?_;refine oN (tC (cT (blk_r (tR ?_))));refine ret1 rfl rfl ?_;refine fun _ hw => ⟨congrArg (Value.int .i64) ?_, hw⟩; unfold bindZ; (repeat' split) <;> omega
   have f6 := h6;try simp only [bl] at f6
   refine cK (blk_n (tC (sR ?_)));refine oV ?_;refine nE ?_;refine ret1 rfl rfl ?_;refine fun _ hw => ⟨congrArg (Value.int .i64) ?_, hw⟩; unfold bindZ; (repeat' split) <;> omega
  have f3 := h3;try simp only [bl] at f3
  refine cR ?_;iterate 2 refine oV ?_
  refine nT ?_;refine cC rfl (fun h4 => ?_) (fun h4 => ?_)
  ·
   have f4 := h4;try simp only [bl] at f4
   refine sR ?_;refine oV ?_;refine oN (tC (cT (blk_r (tR ?_))));refine ret1 rfl rfl ?_;refine fun _ hw => ⟨congrArg (Value.int .i64) ?_, hw⟩; unfold bindZ; (repeat' split) <;> omega
  have f4 := h4;try simp only [bl] at f4
  refine sR ?_;iterate 2 refine oV ?_
  refine nT ?_;refine cC rfl (fun h5 => ?_) (fun h5 => ?_)
  ·
   have f5 := h5;try simp only [bl] at f5
   refine sR ?_;refine oV ?_;refine oN (tC (cT (blk_r (tR ?_))));refine ret1 rfl rfl ?_;refine fun _ hw => ⟨congrArg (Value.int .i64) ?_, hw⟩; unfold bindZ; (repeat' split) <;> omega
  have f5 := h5;try simp only [bl] at f5
  refine sR ?_;iterate 2 refine oV ?_
  refine nT ?_;refine cC rfl (fun h6 => ?_) (fun h6 => ?_)
  ·
   have f6 := h6;try simp only [bl] at f6
   refine sR ?_;refine oV ?_;refine oN (tC (cT (blk_r (tR ?_))));refine ret1 rfl rfl ?_;refine fun _ hw => ⟨congrArg (Value.int .i64) ?_, hw⟩; unfold bindZ; (repeat' split) <;> omega
  have f6 := h6;try simp only [bl] at f6
  refine cK (blk_n (tC (sR ?_)));refine oV ?_;refine nE ?_;refine ret1 rfl rfl ?_;refine fun _ hw => ⟨congrArg (Value.int .i64) ?_, hw⟩; unfold bindZ; (repeat' split) <;> omega
def betw (s : ByteArray) (m : Bool) : ByteArray := if m then ⟨#[40]⟩ ++ s ++ ⟨#[41]⟩ else s
theorem between_any (s : ByteArray) (m : Bool) (hs : s.size ≤ 1000000) : PureC Tryz.prog 94 [.string s, .bool m] (.string (betw s m)) := by
  intro w
  refine enter2 _ Tryz.func94 rfl Tryz.ntmps94 rfl ?_ (S := fun w1 => w1 = w) rfl;refine sR ?_;refine oV ?_;refine nU ?_;refine oV ?_;refine nT ?_;refine cC rfl (fun h1 => ?_) (fun h1 => ?_)
  ·
   have f1 := h1;try simp only [bl] at f1
   refine sR ?_;refine oV ?_;iterate 2 refine o_cat trivial rfl rfl rfl (by first | omega | (simp only [ByteArray.size_append, lit_size, strOf_size, List.length_replicate, List.size_toArray, List.length_cons, List.length_nil]; omega) | (simp; omega)) ?_
   refine oV ?_;refine nF ?_;refine ret1 rfl rfl ?_;refine fun _ hw => ⟨congrArg Value.string ?_, hw⟩; unfold betw; rw [if_pos h1]
  have f1 := h1;try simp only [bl] at f1
  refine kS ?_;iterate 2 refine oV ?_
  refine nE ?_;refine ret1 rfl rfl ?_;refine fun _ hw => ⟨congrArg Value.string ?_, hw⟩; unfold betw; rw [h1]; rfl
theorem brk_text (m : Bool) (l : List Tok) : txZ (brk m l) = betw (txZ l) m := by
  cases m with
  | false => rfl
  | true =>
    show txZ (tk 2 lpar :: (l ++ [tk 2 rpar])) = _
    rw [txZ, txZ_app]
    show lpar ++ (txZ l ++ (rpar ++ ByteArray.empty)) = _
    rw [ByteArray.append_empty, ← ByteArray.append_assoc]
    rfl
theorem bind_kind {l : List NodeC} {i : Int} {x : Ex} (h : NodeAt l i x) {c : NodeC} (hc : l[i.toNat]? = some c) : bindZ c.kind = bindE x ∧ (c.kind = 0 → x = .ref c.name) ∧ (c.kind = 1 → ∃ q, x = .num q ∧ c = numN q) ∧
    (c.kind = 6 → ∃ y, x = .neg y ∧ NodeAt l c.a y ∧ y.n < x.n) ∧ (c.kind = 7 → ∃ y, x = .pow y c.e ∧ NodeAt l c.a y ∧ y.n < x.n) ∧
    (c.kind ≠ 0 → c.kind ≠ 1 → c.kind ≠ 6 → c.kind ≠ 7 → ∃ y z, x = .bin c.kind y z ∧ NodeAt l c.a y ∧ NodeAt l c.b z ∧ y.n < x.n ∧ z.n < x.n ∧ 2 ≤ c.kind ∧ c.kind ≤ 5) := by
  cases x with
  | ref t =>
    have h1 := h.ref
    rw [hc] at h1
    cases Option.some.inj h1
    exact ⟨rfl, fun _ => rfl, fun h => absurd h (by show ¬ (0 : Int) = 1; decide), fun h => absurd h (by show ¬ (0 : Int) = 6; decide), fun h => absurd h (by show ¬ (0 : Int) = 7; decide), fun h => absurd rfl h⟩
  | num q =>
    have h1 := h.num
    rw [hc] at h1
    cases Option.some.inj h1
    exact ⟨rfl, fun h => absurd h (by show ¬ (1 : Int) = 0; decide), fun _ => ⟨q, rfl, rfl⟩, fun h => absurd h (by show ¬ (1 : Int) = 6; decide), fun h => absurd h (by show ¬ (1 : Int) = 7; decide), fun _ h => absurd rfl h⟩
  | neg y =>
    obtain ⟨a, h1, h2, h3⟩ := h.neg
    rw [hc] at h1
    cases Option.some.inj h1
    exact ⟨rfl, fun h => absurd h (by show ¬ (6 : Int) = 0; decide), fun h => absurd h (by show ¬ (6 : Int) = 1; decide), fun _ => ⟨y, rfl, h2, by simp only [Ex.n]; omega⟩, fun h => absurd h (by show ¬ (6 : Int) = 7; decide), fun _ _ h => absurd rfl h⟩
  | pow y e =>
    obtain ⟨a, h1, h2, h3⟩ := h.pow
    rw [hc] at h1
    cases Option.some.inj h1
    exact ⟨rfl, fun h => absurd h (by show ¬ (7 : Int) = 0; decide), fun h => absurd h (by show ¬ (7 : Int) = 1; decide), fun h => absurd h (by show ¬ (7 : Int) = 6; decide), fun _ => ⟨y, rfl, h2, by simp only [Ex.n]; omega⟩, fun _ _ _ h => absurd rfl h⟩
  | bin k y z =>
    obtain ⟨a, b, h1, h2, h3, _, _⟩ := h.bin
    have hk := h.ok
    rw [hc] at h1
    cases Option.some.inj h1
    obtain ⟨k2, k5, _, _⟩ := hk
    refine ⟨?_, fun h => ?_, fun h => ?_, fun h => ?_, fun h => ?_, fun _ _ _ _ => ⟨y, z, rfl, h2, h3, by simp only [Ex.n]; omega, by simp only [Ex.n]; omega, k2, k5⟩⟩
    · show bindZ k = if 4 ≤ k then 2 else 1
      unfold bindZ
      (repeat' split) <;> omega
    · change k = 0 at h; omega
    · change k = 1 at h; omega
    · change k = 6 at h; omega
    · change k = 7 at h; omega
theorem part_size {x : Ex} (h : x.ok) (m : Int) : (txZ (partP x m)).size ≤ 81 * x.n + 2 := by
  have h1 := brk_size (decide (bindE x < m)) (shP x)
  have h2 := sh_size x h
  unfold partP
  omega
theorem tx_one (t : Tok) (r : List Tok) : txZ (t :: r) = t.text ++ txZ r := rfl
theorem sign_cut {k : Int} (h : 2 ≤ k ∧ k ≤ 5) : (⟨#[43, 45, 42, 47]⟩ : ByteArray).extract (k - 2).toNat (k - 2 + 1).toNat = signS k := by
  rcases (show k = 2 ∨ k = 3 ∨ k = 4 ∨ k = 5 by omega) with rfl | rfl | rfl | rfl <;> kernel_rfl
theorem few_words {q : Rat} {k : Nat} (h1 : (natW q.num.natAbs).length ≤ k) (h2 : (natW q.den).length ≤ k) : Few k q := by
  have k1 := val_lt (Wds_natW q.num.natAbs)
  have k2 := val_lt (Wds_natW q.den)
  rw [val_natW] at k1 k2
  exact ⟨Nat.lt_of_lt_of_le k1 (Nat.pow_le_pow_right (by decide) h1), Nat.lt_of_lt_of_le k2 (Nat.pow_le_pow_right (by decide) h2)⟩
theorem shNode_any (va : Value) (ns : List NodeV) {I : Hp} (hsa : Slc I 8 va (nds ns)) (hok : ∀ o ∈ ns, o.ok I) (hf : ∀ o ∈ ns, o.c.few 3000) (hn : ns.length ≤ 1000) (hP : P10 I) (b2 b3 : Nat) {T2 T3 : TypeId} {z2 z3 : Nat × Nat}
    (hB2 : I b2 = some (.cells #[va] T2 z2)) (hB3 : I b3 = some (.cells #[.func (.func 90) ([] : List Value).toArray [Value.pointer (some ⟨b2, 0, none⟩), Value.pointer (some ⟨b3, 0, none⟩)].toArray] T3 z3)) : ∀ (N : Nat) (x : Ex), x.n ≤ N → ∀ (i least : Int), NodeAt (ns.map NodeV.c) i x → -10 ≤ least → least ≤ 10 →
    Fun Tryz.prog 90 [.int .i64 i, .int .i64 least, .pointer (some ⟨b2, 0, none⟩), .pointer (some ⟨b3, 0, none⟩)] I [] (fun v _ _ => v = .string (txZ (partP x least)))
  | 0, x, hx, _, _, _, _, _ => absurd hx (by have := x.n_pos; omega)
  | N + 1, x, hx, i, least, hi, hl1, hl2 => by
    have ih := shNode_any va ns hsa hok hf hn hP b2 b3 hB2 hB3 N
    have hln := nds_len ns
    have hin := hi.in_
    rw [List.length_map] at hin
    have hfew := hi.few
    rw [List.length_map] at hfew
    obtain ⟨k, rfl⟩ : ∃ k : Nat, i = k := ⟨i.toNat, by omega⟩
    obtain ⟨o, ho⟩ : ∃ o, ns[k]? = some o := ⟨ns[k]'(by omega), List.getElem?_eq_getElem (by omega)⟩
    have hom := List.mem_of_getElem? ho
    have hw1 : Ws I o.vn o.c.n := (hok o hom).1
    have hw2 : Ws I o.vd o.c.d := (hok o hom).2
    obtain ⟨e0, e1, e2, e3, e4, e5⟩ := bind_kind hi (c := o.c) (by rw [Int.toNat_natCast, List.getElem?_map, ho]; rfl)
    have hbe := bindE_pos x
    have hbz : bindZ o.c.kind ≤ 5 := by unfold bindZ; (repeat' split) <;> omega
    have hxs := sh_size x hi.ok
    have hpart : txZ (partP x least) = betw (txZ (shP x)) (decide (bindZ o.c.kind < least)) := by rw [e0]; exact brk_text _ _
    intro w hw
    refine enter4 _ Tryz.func90 rfl Tryz.ntmps90 rfl ?_ hw;refine sR ?_;refine oV ?_;refine nS ?_;refine o_load1I trivial rfl Tryz.isAgg24 rfl (by unfold Hp.cell?; rw [hB2]; rfl) ?_;refine oV ?_;refine o_elem trivial rfl Tryz.underlying24 Tryz.sizeOf37 rfl (hsa) rfl (by omega) ?_;refine o_loadAI trivial rfl Tryz.isAgg37 Tryz.sizeOf37 rfl rfl (nds_at hsa ho) ?_;refine o_alloc trivial rfl Tryz.zeroValue37 rfl (fun b7 => ?_);refine oS Tryz.sizeOf37 ?_;refine nS ?_;refine oF 0 Tryz.underlying37 Tryz.sizeOf3 ?_;refine oL Tryz.isAgg3 ?_;refine oP trivial rfl Tryz.call91 rfl (binds_any o.c.kind) ?_;refine oV ?_;refine nS ?_;refine oV ?_;refine nU ?_;refine oF 0 Tryz.underlying37 Tryz.sizeOf3 ?_;refine oL Tryz.isAgg3 ?_;refine oN (tC (cB (sR ?_)));iterate 2 refine oV ?_
    refine nT ?_;refine cC rfl (fun h1 => ?_) (fun h1 => ?_)
    ·
     have f1 := h1;try simp only [bl] at f1
     have hT : txZ (shP x) = o.c.name := by
       rw [e1 f1]; show o.c.name ++ ByteArray.empty = _; rw [ByteArray.append_empty]
     refine cR ?_;refine oF 4 Tryz.underlying37 Tryz.sizeOf9 ?_;refine oL Tryz.isAgg9 ?_;refine oV ?_;refine oN (blk_n (tC (sR ?_)));iterate 4 refine oV ?_
     refine oP trivial rfl Tryz.call94 rfl (between_any _ _ (by rw [← hT]; omega)) ?_;refine oV ?_;refine nE ?_;refine ret1 rfl rfl ?_;refine leaf0 (congrArg Value.string ?_); rw [hpart, hT]
    have f1 := h1;try simp only [bl] at f1
    refine sR ?_;iterate 2 refine oV ?_
    refine nT ?_;refine cC rfl (fun h2 => ?_) (fun h2 => ?_)
    ·
     have f2 := h2;try simp only [bl] at f2
     obtain ⟨q, rfl, hc⟩ := e2 f2
     have hT : txZ (shP (.num q)) = ratS q := by show ratS q ++ ByteArray.empty = _; rw [ByteArray.append_empty]
     have hq : Fun Tryz.prog 92 [.agg #[.bool o.c.neg, o.vn, o.vd]] I [] (fun v _ _ => v = .string (ratS q)) := by
       rw [hc] at hw1 hw2 ⊢
       have hfo := hf o hom
       rw [hc] at hfo
       exact qPrint_any q o.vn o.vd hw1 hw2 (few_words hfo.1 hfo.2) hi.ok.1 hi.ok.2.1 hi.ok.2.2
     refine cR ?_;refine oF 5 Tryz.underlying37 Tryz.sizeOf35 ?_;refine oA Tryz.isAgg35 Tryz.sizeOf35 ?_;refine oQ Tryz.call92 rfl hq ?_;refine oV ?_;refine oN (blk_n (tC (sR ?_)));iterate 4 refine oV ?_
     refine oP trivial rfl Tryz.call94 rfl (between_any _ _ (by rw [← hT]; omega)) ?_;refine oV ?_;refine nE ?_;refine ret1 rfl rfl ?_;refine leaf0 (congrArg Value.string ?_); rw [hpart, hT]
    have f2 := h2;try simp only [bl] at f2
    refine sR ?_;iterate 2 refine oV ?_
    refine nT ?_;refine cC rfl (fun h3 => ?_) (fun h3 => ?_)
    ·
     have f3 := h3;try simp only [bl] at f3
     obtain ⟨y, rfl, hy, hyn⟩ := e3 f3
     have hb3 : bindZ o.c.kind = 3 := e0
     have hpy := part_size hy.ok (bindZ o.c.kind)
     have hT : txZ (shP (.neg y)) = ⟨#[45]⟩ ++ txZ (partP y (bindZ o.c.kind)) := by rw [hb3]; rfl
     refine cR ?_;refine o_load1I trivial rfl Tryz.isAgg146 rfl (by unfold Hp.cell?; rw [hB3]; rfl) ?_;refine oF 1 Tryz.underlying37 Tryz.sizeOf3 ?_;refine oL Tryz.isAgg3 ?_;refine oV ?_;refine o_callQT trivial rfl rfl Tryz.call90 rfl rfl (ih y (by omega) _ _ hy (by omega) (by omega)) ?_;refine o_cat trivial rfl rfl rfl (by first | omega | (simp only [ByteArray.size_append, lit_size, strOf_size, List.length_replicate, List.size_toArray, List.length_cons, List.length_nil]; omega) | (simp; omega)) ?_;refine oV ?_;refine oN (blk_n (tC (sR ?_)));iterate 4 refine oV ?_
     refine oP trivial rfl Tryz.call94 rfl (between_any _ _ (by rw [← hT]; omega)) ?_;refine oV ?_;refine nE ?_;refine ret1 rfl rfl ?_;refine leaf0 (congrArg Value.string ?_); rw [hpart, hT]
    have f3 := h3;try simp only [bl] at f3
    refine sR ?_;iterate 2 refine oV ?_
    refine nT ?_;refine cC rfl (fun h4 => ?_) (fun h4 => ?_)
    ·
     have f4 := h4;try simp only [bl] at f4
     obtain ⟨y, rfl, hy, hyn⟩ := e4 f4
     have hb4 : bindZ o.c.kind = 4 := e0
     have hpy := part_size hy.ok (bindZ o.c.kind + 1)
     have hes := exp_size hi.ok.2
     have hT : txZ (shP (.pow y o.c.e)) = txZ (partP y (bindZ o.c.kind + 1)) ++ ⟨#[94]⟩ ++ txZ (expP o.c.e) := by
       rw [hb4]
       show txZ (partP y 5 ++ tk 2 Go.Tw.caret :: expP o.c.e) = _
       rw [txZ_app, tx_one, ByteArray.append_assoc]
       rfl
     refine c_quiet (by kernel_rfl) (by kernel_rfl) (fun _ h => h.drawn) ?_;refine o_load1I trivial rfl Tryz.isAgg146 rfl (by unfold Hp.cell?; rw [hB3]; rfl) ?_;refine oF 1 Tryz.underlying37 Tryz.sizeOf3 ?_;refine oL Tryz.isAgg3 ?_;refine oV ?_
     first | (refine o_add trivial rfl rfl rfl ?_ ?_; (omega)) | refine oV ?_
     refine o_callQT trivial rfl rfl Tryz.call90 rfl rfl (ih y (by omega) _ _ hy (by omega) (by omega)) ?_;refine o_cat trivial rfl rfl rfl (by first | omega | (simp only [ByteArray.size_append, lit_size, strOf_size, List.length_replicate, List.size_toArray, List.length_cons, List.length_nil]; omega) | (simp; omega)) ?_;refine oF 3 Tryz.underlying37 Tryz.sizeOf3 ?_;refine oL Tryz.isAgg3 ?_;refine oQ Tryz.call93 rfl (itoa_any _ hP (by have := hi.ok.2; omega)) ?_;refine o_cat trivial rfl rfl rfl (by first | omega | (simp only [ByteArray.size_append, lit_size, strOf_size, List.length_replicate, List.size_toArray, List.length_cons, List.length_nil]; omega) | (simp; omega)) ?_;refine oV ?_;refine oN (blk_n (tC (sR ?_)));iterate 4 refine oV ?_
     refine oP trivial rfl Tryz.call94 rfl (between_any _ _ (by rw [← hT]; omega)) ?_;refine oV ?_;refine nE ?_;refine ret1 rfl rfl ?_;refine leaf0 (congrArg Value.string ?_); rw [hpart, hT]
    have f4 := h4;try simp only [bl] at f4
    obtain ⟨y, z, rfl, hy, hz, hyn, hzn, k2, k5⟩ := e5 (by omega) (by omega) (by omega) (by omega)
    have hb5 : bindZ o.c.kind = if 4 ≤ o.c.kind then 2 else 1 := e0
    have hpy := part_size hy.ok (bindZ o.c.kind)
    have hpz := part_size hz.ok (bindZ o.c.kind + 1)
    have hss : (signS o.c.kind).size = 1 := by unfold signS; split <;> (try rfl); split <;> (try rfl); split <;> rfl
    have hT : txZ (shP (.bin o.c.kind y z)) = txZ (partP y (bindZ o.c.kind)) ++ ⟨#[32]⟩ ++ signS o.c.kind ++ ⟨#[32]⟩ ++ txZ (partP z (bindZ o.c.kind + 1)) := by
      rw [hb5]
      show txZ (partP y _ ++ gp :: tk 2 (signS o.c.kind) :: gp :: partP z _) = _
      rw [txZ_app, tx_one, tx_one, tx_one]
      simp only [ByteArray.append_assoc]
      rfl
    refine c_quiet (by kernel_rfl) (by kernel_rfl) (fun _ h => h.drawn) ?_;refine o_load1I trivial rfl Tryz.isAgg146 rfl (by unfold Hp.cell?; rw [hB3]; rfl) ?_;refine oF 1 Tryz.underlying37 Tryz.sizeOf3 ?_;refine oL Tryz.isAgg3 ?_;refine oV ?_;refine o_callQT trivial rfl rfl Tryz.call90 rfl rfl (ih y (by omega) _ _ hy (by omega) (by omega)) ?_;refine o_cat trivial rfl rfl rfl (by first | omega | (simp only [ByteArray.size_append, lit_size, strOf_size, List.length_replicate, List.size_toArray, List.length_cons, List.length_nil]; omega) | (simp; omega)) ?_;refine oF 0 Tryz.underlying37 Tryz.sizeOf3 ?_;refine oL Tryz.isAgg3 ?_
    first | (refine o_sub trivial rfl rfl rfl ?_ ?_; (omega)) | refine oV ?_
    refine oF 0 Tryz.underlying37 Tryz.sizeOf3 ?_;refine oL Tryz.isAgg3 ?_
    first | (refine o_sub trivial rfl rfl rfl ?_ ?_; (omega)) | refine oV ?_
    first | (refine o_add trivial rfl rfl rfl ?_ ?_; (omega)) | refine oV ?_
    refine o_sliceS3 trivial rfl Tryz.underlying9 rfl rfl rfl (by have h4z : (ByteArray.mk #[43, 45, 42, 47]).size = 4 := rfl; omega) ?_
    rw [sign_cut ⟨k2, k5⟩]
    iterate 2 refine o_cat trivial rfl rfl rfl (by first | omega | (simp only [ByteArray.size_append, lit_size, strOf_size, List.length_replicate, List.size_toArray, List.length_cons, List.length_nil]; omega) | (simp; omega)) ?_
    refine o_load1I trivial rfl Tryz.isAgg146 rfl (by unfold Hp.cell?; rw [hB3]; rfl) ?_;refine oF 2 Tryz.underlying37 Tryz.sizeOf3 ?_;refine oL Tryz.isAgg3 ?_;refine oV ?_
    first | (refine o_add trivial rfl rfl rfl ?_ ?_; (omega)) | refine oV ?_
    refine o_callQT trivial rfl rfl Tryz.call90 rfl rfl (ih z (by omega) _ _ hz (by omega) (by omega)) ?_;refine o_cat trivial rfl rfl rfl (by first | omega | (simp only [ByteArray.size_append, lit_size, strOf_size, List.length_replicate, List.size_toArray, List.length_cons, List.length_nil]; omega) | (simp; omega)) ?_;refine oV ?_;refine oN (blk_n (tC (sR ?_)));iterate 4 refine oV ?_
    refine oP trivial rfl Tryz.call94 rfl (between_any _ _ (by rw [← hT]; omega)) ?_;refine oV ?_;refine nE ?_;refine ret1 rfl rfl ?_;refine leaf0 (congrArg Value.string ?_); rw [hpart, hT]
theorem shRoot_any (va : Value) (ns : List NodeV) {I : Hp} (hsa : Slc I 8 va (nds ns)) (hok : ∀ o ∈ ns, o.ok I) (hf : ∀ o ∈ ns, o.c.few 3000) (hn : ns.length ≤ 1000) (hP : P10 I) (x : Ex) (i : Int) (hi : NodeAt (ns.map NodeV.c) i x) :
    Fun Tryz.prog 54 [va, .int .i64 i] I [] (fun v _ _ => v = .string (txZ (shP x))) := by
  intro w hw
  refine enter2 _ Tryz.func54 rfl Tryz.ntmps54 rfl ?_ hw;refine sR ?_;refine o_box (cs := [_]) trivial rfl rfl (hsa.cells1).1 (fun b2 => ?_);refine oV ?_;refine nS ?_;refine o_alloc trivial rfl Tryz.zeroValue146 rfl (fun b5 => ?_);refine nS ?_;refine oV ?_;refine oS Tryz.sizeOf146 ?_;refine oN (tC (cS ?_));refine c_sealB (b := b5) (by repeat constructor) (fun I1 hx1 hb1 => ?_);refine c_sealB (b := b2) (by repeat constructor) (fun I2 hx2 hb2 => ?_)
  have hl2 := hx1.le.trans hx2.le
  have hw9 := shNode_any va ns (hsa.le hl2) (fun o ho => (hok o ho).le hl2) hf hn (hP.le hl2) b2 b5 hb2 (hx2.le _ _ hb1) x.n x (Nat.le_refl _) i 0 hi (by decide) (by decide)
  rw [partP_all x (by decide)] at hw9
  refine cR ?_;refine o_load1I trivial rfl Tryz.isAgg146 rfl (by unfold Hp.cell?; rw [hx2.le _ _ hb1]; rfl) ?_;refine oV ?_;refine o_callQT trivial rfl rfl Tryz.call90 rfl rfl hw9 ?_;refine oV ?_;refine nE ?_;refine ret1 rfl rfl ?_;refine leaf (hx1.trans hx2 (Nat.le_refl _)) (List.nil_sublist _) rfl
def ExprS (p : ProgC) (i : Int) (s : ByteArray) : Prop := ((tZ p).isSome = true ∧ 0 ≤ i ∧ i < p.all.length ∧ ∃ x, NodeAt p.all i x ∧ x.h ≤ 60 ∧ s = txZ (shP x)) ∨ (((tZ p).isSome = false ∨ i < 0 ∨ (p.all.length : Int) ≤ i) ∧ s = ⟨#[]⟩)
def PrintS (p : ProgC) (s : ByteArray) : Prop := (∃ l, RightP p l ∧ s = textZ p l) ∨ ((tZ p).isSome = false ∧ s = ⟨#[]⟩)
theorem showExpr_any (vi vl vo va : Value) (p : ProgC) (ns : List NodeV) (i : Int) (s : ByteArray) {I : Hp} (hp : ProgV I vi vl vo va p ns) (hf : ∀ o ∈ ns, o.c.few 3000) (hn : ns.length ≤ 1000) (hP : P10 I) (hs : ExprS p i s) :
    Fun Tryz.prog 25 [.agg #[vi, vl, vo, va], .int .i64 i] I [] (fun v _ _ => v = .string s) := by
  have hsi := hp.si
  have hsl := hp.sl
  have hso := hp.so
  have hsa := hp.sa
  have hla := nds_len ns
  have hal : p.all.length = ns.length := by rw [← hp.eq, List.length_map]
  intro w hw
  refine enter2 _ Tryz.func25 rfl Tryz.ntmps25 rfl ?_ hw;refine sR ?_;refine o_box trivial rfl rfl rfl (fun b2 => ?_);refine oV ?_;refine nU ?_;iterate 2 refine oV ?_
  refine' o_or trivial trivial rfl rfl rfl rfl rfl rfl rfl rfl (fun hb7 => ?_) ?_;rotate_left
  ·
   have fb7 := hb7
   try simp only [bl] at fb7
   refine gV hb7 ?_;refine gF hb7 3 Tryz.underlying26 Tryz.sizeOf24 ?_;refine gL hb7 Tryz.isAgg24 ?_;refine o_lenSlc (wS rfl rfl hb7) rfl Tryz.underlying24 rfl (hsa) ?_;refine gV hb7 ?_;refine oN ?_;exact joins rfl
  refine' o_or trivial trivial rfl rfl rfl rfl rfl rfl rfl rfl (fun hb14 => ?_) ?_;rotate_left
  ·
   have fb14 := hb14
   try simp only [bl] at fb14
   refine o_loadA (wS rfl rfl hb14) rfl Tryz.isAgg26 Tryz.sizeOf26 rfl (by repeat constructor) (by repeat constructor) ?_;refine o_callQ (wS rfl rfl hb14) rfl Tryz.call26 rfl (trRight_any vi vl vo va p ns hp (fun o ho => ⟨Nat.le_trans (hf o ho).1 (by decide), Nat.le_trans (hf o ho).2 (by decide)⟩)) ?_;refine gV hb14 ?_;refine oN ?_;exact joins rfl
  refine nT ?_;refine cC rfl (fun h1 => ?_) (fun h1 => ?_)
  ·
   have f1 := h1;try simp only [bl] at f1
   have hz : s = ⟨#[]⟩ := by
     rcases hs with ⟨t1, t2, t3, _⟩ | ⟨_, t⟩
     · exfalso
       rw [t1] at f1
       rw [hla] at f1
       rcases f1 with (f1 | f1) | f1
       · omega
       · omega
       · cases f1
     · exact t
   refine sR ?_;refine oV ?_;refine nF ?_;refine ret1 rfl rfl ?_;refine leaf0 ?_; rw [hz]
  have f1 := h1;try simp only [bl] at f1
  obtain ⟨x, hx, hxs⟩ : ∃ x, NodeAt p.all i x ∧ s = txZ (shP x) := by
    rcases hs with ⟨t1, t2, t3, x, hx, _, hxs⟩ | ⟨t, _⟩
    · exact ⟨x, hx, hxs⟩
    · exfalso
      rw [hla] at f1
      rcases t with t | t | t
      · rw [t] at f1; cases f1.2
      · omega
      · omega
  rw [← hp.eq] at hx
  refine kS ?_;refine oF 3 Tryz.underlying26 Tryz.sizeOf24 ?_;refine oL Tryz.isAgg24 ?_;refine oV ?_;refine oQ Tryz.call54 rfl (shRoot_any va ns hsa hp.ok hf hn hP x i hx) ?_;refine oV ?_;refine nE ?_;refine ret1 rfl rfl ?_;refine leaf0 ?_; rw [hxs]
theorem lets_app : ∀ (a b : List (ByteArray × Ex)), letsP (a ++ b) = letsP a ++ letsP b
  | [], b => rfl
  | x :: a, b => by rw [List.cons_append, letsP, letsP, lets_app a b, List.append_assoc]
theorem lets_take {l : List (ByteArray × Ex)} (i : Nat) : (txZ (letsP (l.take i))).size ≤ (txZ (letsP l)).size := by
  have h : (txZ (letsP (l.take i ++ l.drop i))).size = (txZ (letsP l)).size := by rw [List.take_append_drop]
  rw [lets_app, tx_app] at h
  omega
theorem lets_more {l : List (ByteArray × Ex)} {i : Nat} {s : ByteArray} {x : Ex} (h : l[i]? = some (s, x)) (hd : ByteArray) : hd ++ txZ (letsP (l.take (i + 1))) = (hd ++ txZ (letsP (l.take i))) ++ (⟨#[108, 101, 116, 32]⟩ ++ s ++ ⟨#[32, 61, 32]⟩ ++ txZ (shP x) ++ ⟨#[59, 10]⟩) := by
  rw [List.take_add_one, h, Option.toList_some, lets_app, txZ_app, ByteArray.append_assoc]
  congr 2
  show txZ (letP (s, x) ++ []) = _
  rw [List.append_nil]
  unfold letP
  rw [tx_one, tx_one, tx_one, tx_one, tx_one, tx_one, txZ_app]
  have e1 : (⟨#[108, 101, 116, 32]⟩ : ByteArray) = (tk 0 letS).text ++ gp.text := rfl
  have e2 : (⟨#[32, 61, 32]⟩ : ByteArray) = gp.text ++ ((tk 2 equalS).text ++ gp.text) := rfl
  have e3 : (⟨#[59, 10]⟩ : ByteArray) = txZ [tk 2 semiS, nl] := rfl
  rw [e1, e2, e3]
  simp only [ByteArray.append_assoc]
  rfl
theorem showPrint_any (vi vl vo va : Value) (p : ProgC) (ns : List NodeV) (s : ByteArray) {I : Hp} (hp : ProgV I vi vl vo va p ns) (hf : ∀ o ∈ ns, o.c.few 3000) (hn : ns.length ≤ 1000) (hP : P10 I) (hs : PrintS p s) :
    Fun Tryz.prog 23 [.agg #[vi, vl, vo, va]] I [] (fun v _ _ => v = .string s) := by
  have hsi := hp.si
  have hsl := hp.sl
  have hso := hp.so
  have hsa := hp.sa
  have hla := nds_len ns
  have hal : p.all.length = ns.length := by rw [← hp.eq, List.length_map]
  have hll : (p.lets.map LetC.cells).length = p.lets.length := List.length_map _
  intro w hw
  refine enter1 _ Tryz.func23 rfl Tryz.ntmps23 rfl ?_ hw;refine sR ?_;refine o_box trivial rfl rfl rfl (fun b1 => ?_);refine oV ?_;refine nU ?_;refine oA Tryz.isAgg26 Tryz.sizeOf26 ?_;refine oQ Tryz.call26 rfl (trRight_any vi vl vo va p ns hp (fun o ho => ⟨Nat.le_trans (hf o ho).1 (by decide), Nat.le_trans (hf o ho).2 (by decide)⟩)) ?_;refine oV ?_;refine nT ?_;refine cC rfl (fun h1 => ?_) (fun h1 => ?_)
  ·
   have f1 := h1;try simp only [bl] at f1
   have hz : s = ⟨#[]⟩ := by
     rcases hs with ⟨l, hl, _⟩ | ⟨_, t⟩
     · rw [tZ_right hl] at f1; cases f1
     · exact t
   refine sR ?_;refine oV ?_;refine nF ?_;refine ret1 rfl rfl ?_;refine leaf0 ?_; rw [hz]
  have f1 := h1;try simp only [bl] at f1
  obtain ⟨l, hl, hxs⟩ : ∃ l, RightP p l ∧ s = textZ p l := by
    rcases hs with h | ⟨t, _⟩
    · exact h
    · rw [t] at f1; cases f1
  have hts := text_size hl
  have hfw := hl.few.2
  have hpl : p.lets.length = l.length := by rw [hl.lets, laid_lets]
  have hji := joins_size hl.ins.1
  have hjo := joins_size hl.outs.1
  have hi40 := hl.ins.2.2
  have ho40 := hl.outs.2.2
  have hl40 := hl.few.1
  have hlz : (txZ (letsP l)).size ≤ 81 * p.all.length + 5500 := by
    unfold textZ progP at hts
    rw [tx_app, tx_app] at hts
    omega
  refine kS ?_;refine oF 0 Tryz.underlying26 Tryz.sizeOf22 ?_;refine oL Tryz.isAgg22 ?_;refine oQ Tryz.call53 rfl (join_any vi p.ins hsi hl.ins.2.1 (by omega)) ?_;refine o_cat trivial rfl rfl rfl (by show 3 + _ ≤ _; omega) ?_;refine o_cat trivial rfl rfl rfl (by rw [ByteArray.size_append]; show 3 + _ + 2 ≤ _; omega) ?_;refine oV ?_;refine oN (tC (cS (cS ?_)))
  obtain ⟨hd, hhd⟩ : ∃ hd : ByteArray, hd = ⟨#[105, 110, 32]⟩ ++ joinS p.ins ++ ⟨#[59, 10]⟩ := ⟨_, rfl⟩
  have hds : hd.size ≤ 2000 := by rw [hhd, ByteArray.size_append, ByteArray.size_append]; show 3 + _ + 2 ≤ _; omega
  have hd0 : hd = hd ++ txZ (letsP (l.take 0)) := by rw [List.take_zero]; show hd = hd ++ ByteArray.empty; rw [ByteArray.append_empty]
  rw [← hhd, hd0]
  refine cR ?_;refine oF 1 Tryz.underlying26 Tryz.sizeOf23 ?_;refine oL Tryz.isAgg23 ?_;refine o_lenSlc trivial rfl Tryz.underlying23 rfl (hsl) ?_;refine oV ?_;refine oN (tC (cB ?_));refine c_loop (ι := Nat) [1, 15, 16] (.cons rfl (.cons rfl (.cons rfl .nil))) (fun x => p.lets.length - x) (fun x E0 => (3, .string (hd ++ txZ (letsP (l.take x)))) :: (17, .int .i64 (x : Nat)) :: E0) (fun x => St w [] I [.box b1 (.cells #[vi, vl, vo, va] 26 (0, 0))]) (fun x => x ≤ p.lets.length) (0) (sC rfl (sC rfl (sC rfl (sC rfl (sC rfl sN))))) (fun _ h => h) (Nat.zero_le _) ?_;rintro i hi
  try dsimp only
  refine sR ?_;refine oV ?_;refine oN (tC (cS ?_));refine cC rfl (fun h2 => ?_) (fun h2 => ?_)
  ·
   have f2 := h2;try simp only [bl] at f2
   obtain ⟨c, hc⟩ : ∃ c, p.lets[i]? = some c := ⟨p.lets[i]'(by omega), List.getElem?_eq_getElem (by omega)⟩
   obtain ⟨x, hx1, hx2, hx3⟩ := hl.root hc
   rw [← hp.eq] at hx2
   have hxs2 := sh_size x hx2.ok
   have hxn := hx2.few
   rw [List.length_map] at hxn
   have hmore := lets_more hx1 hd
   have htk := lets_take (l := l) i
   have hnm : c.name.size ≤ 40 := (name_parts (hl.ok _ (List.mem_of_getElem? hx1)).1).2.1
   refine cK (tC (cS (cB (sR ?_))));refine o_elem trivial rfl Tryz.underlying23 Tryz.sizeOf39 rfl (hsl) rfl (by omega) ?_;refine o_loadAI trivial rfl Tryz.isAgg39 Tryz.sizeOf39 rfl rfl (lts_at hsl hc) ?_;refine o_alloc trivial rfl Tryz.zeroValue39 rfl (fun b5 => ?_);refine oS Tryz.sizeOf39 ?_;refine nT ?_;refine c_quiet (by kernel_rfl) (by kernel_rfl) (fun _ h => h.drawn) ?_;refine oV ?_;refine oF 0 Tryz.underlying39 Tryz.sizeOf9 ?_;refine oL Tryz.isAgg9 ?_;refine o_cat trivial rfl rfl rfl (by show 4 + _ ≤ _; omega) ?_;refine o_cat trivial rfl rfl rfl (by rw [ByteArray.size_append]; show 4 + _ + 3 ≤ _; omega) ?_;refine oF 3 Tryz.underlying26 Tryz.sizeOf24 ?_;refine oL Tryz.isAgg24 ?_;refine oF 1 Tryz.underlying39 Tryz.sizeOf3 ?_;refine oL Tryz.isAgg3 ?_;refine oQ Tryz.call54 rfl (shRoot_any va ns hsa hp.ok hf hn hP x c.root hx2) ?_;refine o_cat trivial rfl rfl rfl (by rw [ByteArray.size_append, ByteArray.size_append]; show 4 + _ + 3 + _ ≤ _; omega) ?_;refine o_cat trivial rfl rfl rfl (by rw [ByteArray.size_append, ByteArray.size_append, ByteArray.size_append]; show 4 + _ + 3 + _ + 2 ≤ _; omega) ?_;refine o_cat trivial rfl rfl rfl (by rw [ByteArray.size_append, ByteArray.size_append, ByteArray.size_append, ByteArray.size_append, ByteArray.size_append]; show _ + _ + (4 + _ + 3 + _ + 2) ≤ _; omega) ?_;refine oV ?_;refine oN (blk_n (tC (cR ?_)))
   first | (refine o_add trivial rfl rfl rfl ?_ ?_; (omega)) | refine oV ?_
   refine oV ?_;refine oN ?_;exact again (i + 1) (by rw [hmore]; exact (sC rfl (sC rfl (sC rfl (sC rfl (sC rfl sN)))))) (fun _ h => h.sort (by repeat constructor)) (by show p.lets.length - (i + 1) < p.lets.length - i; omega) (by show i + 1 ≤ _; omega)
  have f2 := h2;try simp only [bl] at f2
  have htk2 : l.take i = l := List.take_of_length_le (by omega)
  rw [htk2]
  refine c_exit (then_x (then_x (blk_eq rfl (tC (sR ?_)))));refine oV ?_;refine o_cat trivial rfl rfl rfl (by rw [ByteArray.size_append]; show _ + _ + 4 ≤ _; omega) ?_;refine oF 2 Tryz.underlying26 Tryz.sizeOf22 ?_;refine oL Tryz.isAgg22 ?_;refine oQ Tryz.call53 rfl (join_any vo p.outs hso hl.outs.2.1 (by omega)) ?_;refine o_cat trivial rfl rfl rfl (by rw [ByteArray.size_append, ByteArray.size_append]; show _ + _ + 4 + _ ≤ _; omega) ?_;refine o_cat trivial rfl rfl rfl (by rw [ByteArray.size_append, ByteArray.size_append, ByteArray.size_append]; show _ + _ + 4 + _ + 2 ≤ _; omega) ?_;refine oV ?_;refine nE ?_;refine ret1 rfl rfl ?_;refine leaf0 (congrArg Value.string ?_)
  rw [hxs, hhd]
  unfold textZ progP
  rw [txZ_app, txZ_app]
  have e1 : ∀ (key : ByteArray) (l : List ByteArray), 1 ≤ l.length → txZ (namesP key l) = key ++ (⟨#[32]⟩ ++ (joinS l ++ ⟨#[59, 10]⟩)) := fun key l h => by
    cases l with
    | nil => simp at h
    | cons s l => exact names_text
  rw [e1 _ _ hl.ins.2.1, e1 _ _ hl.outs.2.1]
  have e2 : (⟨#[105, 110, 32]⟩ : ByteArray) = inS ++ ⟨#[32]⟩ := rfl
  have e3 : (⟨#[111, 117, 116, 32]⟩ : ByteArray) = outS ++ ⟨#[32]⟩ := rfl
  rw [e2, e3]
  simp only [ByteArray.append_assoc]
theorem sum_bad {all : List NodeC} {L r : List Tok} (h : Ps .atom all L (.bad r)) (h1 : hdT L 2 minusS = false) : Ps .sum all L (.bad r) := .sum_bad (.product_bad (.fac h1 (.power_bad h)))
def _root_.Go.Tw.LSO.left : LSO → List Tok
  | .bad r => r
  | .ok _ _ r => r
end Go.Proofs.YtfcmhcaggdakbaaGreatDoor
