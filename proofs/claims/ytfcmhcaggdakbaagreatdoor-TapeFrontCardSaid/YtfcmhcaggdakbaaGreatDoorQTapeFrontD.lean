/-
  TapeFront, part 4: the texts Parse, Read4, Read5, Read6, Read7, Read8, Read9, Read10, Parse11, Tree10, LexCat, LexCat2, Show1, Show2, Show3, Show5, Pcs, Print, Node, Map, Map2, Value, Value2, Ref1, Ref2, Ref3 as one.
-/
import Derived.Test.YtfcmhcaggdakbaaGreatDoorQTapeFrontC
import Derived.Laws.Entries
import Derived.MapKept
set_option linter.unusedVariables false
set_option linter.unusedSimpArgs false
set_option linter.unnecessarySimpa false
set_option maxHeartbeats 1000000
namespace Go.Proofs.YtfcmhcaggdakbaaGreatDoor
open Go Go.Tw
theorem fun_mono {f : FuncId} {vs : List Value} {I : Hp} {B : List Tw.Item} {R R' : Value → Hp → List Tw.Item → Prop} (h : Fun Tryz.prog f vs I B R) (hr : ∀ v I' B', R v I' B' → R' v I' B') : Fun Tryz.prog f vs I B R' := fun w hw =>
  (h w hw).mono fun v w' ⟨I', B', h1, h2, h3⟩ => ⟨I', B', h1, h2, hr v I' B' h3⟩
theorem deciDigit_any (r : Int) (h : 48 ≤ r ∧ r ≤ 57) : PureC Tryz.prog 234 [.int .i32 r] (.tuple #[.int .u32 (r - 48), .bool true]) := by
  intro w
  refine enter1 _ Tryz.func234 rfl Tryz.ntmps234 rfl ?_ (S := fun w1 => w1 = w) rfl;refine sR ?_;iterate 2 refine oV ?_
  refine nS ?_;iterate 2 refine oV ?_
  rw [IntWalk.i32_in _ (by omega)]
  refine o_convIn trivial rfl Tryz.underlying21 Tryz.underlying134 rfl (by rw [IntWalk.u32_in _ (by omega)]) ?_;iterate 2 refine oV ?_
  refine' o_and trivial trivial rfl rfl rfl rfl rfl rfl rfl rfl (fun hb9 => ?_) ?_;rotate_left
  ·
   iterate 2 refine gV hb9 ?_
   refine oN ?_;exact joins rfl
  iterate 2 refine oV ?_
  refine nE ?_;refine ret2 rfl rfl rfl ?_;refine fun _ hw => ⟨?_, hw⟩; rw [decide_eq_true (show r ≥ 48 by omega), decide_eq_true (show r ≤ 57 by omega)]; rfl
theorem decN_take {s : ByteArray} {i : Nat} (h : i < s.size) : decN (s.toList.take (i + 1)) = 10 * decN (s.toList.take i) + ((s.get! i).toNat - 48) := by
  rw [List.take_add_one, get_toList h]
  exact decN_app _ _
theorem natW_forty {n : Nat} (h : n < 10 ^ 40) : (natW n).length ≤ 5 := natW_len_le (Nat.lt_of_lt_of_le h (by decide))
theorem decN_forty {s : ByteArray} (h : partZ s = true) (i : Nat) : decN (s.toList.take i) < 10 ^ 40 := by
  obtain ⟨h1, h2, h3, _⟩ := partZ_digit h
  have hm := partZ_mem h1
  refine Nat.lt_of_lt_of_le (decN_lt fun b hb => hm b (List.mem_of_mem_take hb)) (Nat.pow_le_pow_right (by decide) ?_)
  rw [List.length_take, toList_len]
  omega
theorem deciParse_any (s : ByteArray) {I : Hp} (hz : partZ s = true) : Fun Tryz.prog 225 [.string s] I [] (fun v I' _ => ∃ u, v = .tuple #[u, .int .i64 0] ∧ Ws I' u (natW (decN s.toList))) := by
  obtain ⟨g1, g2, g3, g4⟩ := partZ_digit hz
  have hf : (s.toList == (ByteArray.mk #[]).toList) = false := by
    rw [beq_eq_false_iff_ne]
    intro e
    have := toList_len s
    rw [e] at this
    rw [ByteArray.toList_eq] at this
    change 0 = s.size at this
    omega
  intro w hw
  refine enter1 _ Tryz.func225 rfl Tryz.ntmps225 rfl ?_ hw;refine sR ?_;iterate 2 refine oV ?_
  refine nU ?_;refine oV ?_;refine o_lenS trivial rfl Tryz.underlying9 rfl ?_;refine oV ?_;refine nT ?_;refine cC rfl (fun h1 => ?_) (fun h1 => ?_)
  ·
   have f1 := h1;try simp only [bl] at f1
   exfalso; omega
  have f1 := h1;try simp only [bl] at f1
  refine cK (tC (cS (sR ?_)));iterate 2 refine oV ?_
  refine' o_or trivial trivial rfl rfl rfl rfl rfl rfl rfl rfl (fun hb14 => ?_) ?_;rotate_left
  ·
   have fb14 := hb14
   try simp only [bl] at fb14
   refine gV hb14 ?_;refine o_idxS (wS rfl rfl hb14) rfl Tryz.underlying9 rfl rfl (by omega) ?_;refine gV hb14 ?_;refine' o_and (wS rfl rfl hb14) (wS rfl rfl hb14) rfl rfl rfl rfl rfl rfl rfl rfl (fun hb18 => ?_) ?_;rotate_left
   ·
    have fb18 := hb18
    try simp only [bl] at fb18
    refine gV hb18 ?_;refine o_lenS (wS rfl rfl hb18) rfl Tryz.underlying9 rfl ?_;refine gV hb18 ?_;refine oN ?_;exact joins rfl
   refine oN ?_;exact joins rfl
  refine nT ?_;refine cC rfl (fun h2 => ?_) (fun h2 => ?_)
  ·
   have f2 := h2;try simp only [bl] at f2
   exfalso
   rw [hf, Bool.false_or] at h2
   simp at h2
   rcases g4 with g4 | g4 <;> omega
  have f2 := h2;try simp only [bl] at f2
  refine kS ?_;refine oV ?_;refine nU ?_;refine oV ?_;refine o_range trivial rfl Tryz.underlying9 rfl (fun b25 => ?_);refine oN (tC (cB ?_));refine c_loop (ι := Nat × Value × Hp) [25] (.cons rfl .nil) (fun x => s.size - x.1) (fun x E0 => (4, x.2.1) :: E0) (fun x => St w [] x.2.2 [.box b25 (.stringIter s x.1)]) (fun x => x.1 ≤ s.size ∧ Ws x.2.2 x.2.1 (natW (decN (s.toList.take x.1))) ∧ Ext w.heap.size I x.2.2) ((0, .slice none 0 0, I)) (sC rfl (sC rfl sN)) (fun _ h => h) (⟨Nat.zero_le _, by rw [List.take_zero]; exact (by rw [show decN [] = 0 from rfl, natW_zero]; exact Ws.nil _), Ext.refl _ _⟩) ?_;rintro ⟨i, u, I1⟩ ⟨hle, hu, hx1⟩
  try dsimp only
  simp only at hle hu hx1
  refine cS ?_
  rcases Nat.lt_or_ge i s.size with hp | hp
  ·
   have hb := g1 i hp
   have hdec : Utf8.decode s i = ((s.get! i).toNat, 1) := Go.Tw.decode_ascii (by omega)
   obtain ⟨c, hc1, hc2, hc3⟩ : ∃ c : Nat, c < 4294967296 ∧ (((Utf8.decode s i).1 : Nat) : Int) - 48 = (c : Int) ∧ c = (s.get! i).toNat - 48 := ⟨_, by omega, by rw [hdec]; show ((s.get! i).toNat : Int) - 48 = _; omega, rfl⟩
   refine cR ?_;refine o_next trivial rfl rfl (by repeat constructor) hp ?_;refine oV ?_;refine oN (tC (cS ?_));refine c_cond_t rfl rfl ?_;refine cK (tC (cB (sR ?_)));iterate 2 refine oV ?_
   refine nS ?_;refine oV ?_;refine oP trivial rfl Tryz.call234 rfl (deciDigit_any _ (by rw [hdec]; show 48 ≤ ((s.get! i).toNat : Int) ∧ ((s.get! i).toNat : Int) ≤ 57; omega)) ?_;iterate 5 refine oV ?_
   refine nU ?_;iterate 2 refine oV ?_
   refine nT ?_;refine c_cond_f rfl (by rfl) ?_;refine cK (tC (cR ?_))
   rw [hc2]
   iterate 2 refine oV ?_
   refine oI Tryz.call235 rfl (one_any _ _ 10 c hu (by have := natW_forty (decN_forty hz i); omega) (by decide) hc1) ?_;rintro v38 I2 hx2 hs2;refine oV ?_;refine oN (blk_n ?_);exact again (i + 1, v38, I2) (sC rfl (sC rfl sN)) (fun _ h => by rw [hdec] at h; exact h.sort (by repeat constructor)) (by show s.size - (i + 1) < s.size - i; omega) ⟨by show i + 1 ≤ s.size; omega, by rw [decN_take hp, Nat.mul_comm, ← hc3]; rw [val_natW] at hs2; exact hs2, hx1.trans hx2 (Nat.le_refl _)⟩
  refine cR ?_;refine o_nextEnd trivial rfl rfl (by repeat constructor) hp ?_;refine oV ?_;refine oN (tC (cS ?_));refine c_cond_f rfl rfl ?_;refine c_exit (then_x (then_x (blk_eq rfl (tC (sR ?_)))));iterate 3 refine oV ?_
  refine nE ?_;refine ret2 rfl rfl rfl ?_;refine leaf hx1 (List.nil_sublist _) ⟨_, rfl, ?_⟩
  rw [List.take_of_length_le (by rw [toList_len]; omega)] at hu
  exact hu
theorem cutMinus_any (s : ByteArray) {I : Hp} (hs : 1 ≤ s.size) (h : (s.get! 0).toNat ≠ 45) : Fun Tryz.prog 166 [.string s, .string ⟨#[45]⟩] I [] (fun v _ _ => v = .tuple #[.string s, .bool false]) := by
  refine fun_below fun w hw => ?_;refine (Tryz.strings_CutPrefix s ⟨#[45]⟩ w).mono ?_;rintro e w' ⟨rfl, rfl⟩
  have hl := list_get s 0 (by omega)
  rw [List.drop_zero] at hl
  have hp : Lib.hasPrefix s.data.toList (ByteArray.mk #[45]).data.toList = false := by
    rw [hl]
    show (List.isPrefixOf [45] _) = false
    simp only [List.isPrefixOf, Bool.and_true, beq_eq_false_iff_ne]
    intro e
    exact h (by rw [← e]; rfl)
  refine ⟨_, rfl, ?_, ⟨rfl, rfl, rfl, Nat.le_refl _, fun _ _ => rfl⟩⟩
  unfold Lib.trimPrefix
  rw [hp]
  rfl
theorem wholeParse_any (s : ByteArray) {I : Hp} (hz : partZ s = true) : Fun Tryz.prog 224 [.string s] I [] (fun v I' _ => ∃ u, v = .tuple #[.agg #[.bool false, u], .int .i64 0] ∧ Ws I' u (natW (decN s.toList))) := by
  obtain ⟨g1, g2, g3, g4⟩ := partZ_digit hz
  have g5 := g1 0 (by omega)
  intro w hw
  refine enter1 _ Tryz.func224 rfl Tryz.ntmps224 rfl ?_ hw;refine sR ?_;refine o_alloc trivial rfl Tryz.zeroValue132 rfl (fun b2 => ?_);refine oV ?_;refine nS ?_;refine oV ?_;refine oQ Tryz.call166 rfl (cutMinus_any _ g2 (by omega)) ?_;iterate 5 refine oV ?_
  refine nS ?_;refine oV ?_;refine oI Tryz.call225 rfl (deciParse_any s hz) ?_;rintro _ I1 hx1 ⟨u, rfl, hu⟩;iterate 5 refine oV ?_
  refine nU ?_;iterate 2 refine oV ?_
  refine nT ?_;refine c_cond_f rfl (by rfl) ?_;refine kS ?_;iterate 2 refine oV ?_
  refine oI Tryz.call182 rfl (signed_any false u _ hu (by have := natW_forty (decN_forty hz s.size); rw [List.take_of_length_le (by rw [toList_len]; omega)] at this; omega)) ?_;rintro v24 I2 hx2 ⟨vm, rfl, hvm⟩;refine oS Tryz.sizeOf132 ?_;refine oV ?_;refine nE ?_;refine retR rfl (.agg Tryz.isAgg132 Tryz.sizeOf132 rfl (by repeat constructor) rfl (.tmp rfl .nil)) ?_;refine leaf (hx1.trans hx2 (Nat.le_refl _)) (List.nil_sublist _) ⟨vm, ?_, ?_⟩
  · rw [decide_eq_false]
    · rfl
    · show ¬ ((val (natW (decN s.toList)) : Nat) : Int) < 0; omega
  · rw [val_natW] at hvm; exact hvm
theorem qMakeNat_any (n d : Nat) (va vb : Value) {I : Hp} (ha : Ws I va (natW n)) (hb : Ws I vb (natW d)) (hs : (natW n).length ≤ 2000000) (hs2 : (natW d).length ≤ 2000000) (hd : d ≠ 0) : Fun Tryz.prog 226 [.agg #[.bool false, va], .agg #[.bool false, vb]] I [] (fun v I' _ => ∃ a b, v = .tuple #[.agg #[.bool (decide ((mkRat (n : Int) d).num < 0)), a, b], .int .i64 0] ∧ Ws I' a (natW (mkRat (n : Int) d).num.natAbs) ∧ Ws I' b (natW (mkRat (n : Int) d).den)) := by
  have h := qMake_any (n : Int) (d : Int) va vb (I := I) ha hb hs hs2
  rw [decide_eq_false (show ¬ (n : Int) < 0 by omega), decide_eq_false (show ¬ (d : Int) < 0 by omega)] at h
  refine fun_mono h fun v I' B' hr => ?_
  obtain ⟨s, x, y, X, Y, e1, e2, e3, e4⟩ := hr
  have hd' : ¬ (d : Int) = 0 := by omega
  obtain ⟨rfl, rfl, rfl⟩ := e4 hd'
  rw [if_neg hd'] at e1
  exact ⟨x, y, e1, e2, e3⟩
theorem ratParse_any (s : ByteArray) {I : Hp} (hM : Mx I) (hz : numZ s = true) : Fun Tryz.prog 215 [.string s] I [] (fun v I' _ => ∃ a b, v = .tuple #[.agg #[.bool (decide ((numQ s).num < 0)), a, b], .int .i64 0] ∧ Ws I' a (natW (numQ s).num.natAbs) ∧ Ws I' b (natW (numQ s).den)) := by
  have hsz : s.size ≤ 81 ∧ partZ (s.extract 0 (cutZ s)) = true := by
    have hle := cutZ_le s
    unfold numZ at hz
    split at hz
    · rename_i hc
      obtain ⟨_, _, k, _⟩ := partZ_digit hz
      rw [hc, cut_full]
      exact ⟨by omega, hz⟩
    · simp only [Bool.and_eq_true] at hz
      obtain ⟨_, _, k, _⟩ := partZ_digit hz.1.1
      obtain ⟨_, _, k2, _⟩ := partZ_digit hz.1.2
      rw [ByteArray.size_extract] at k k2
      exact ⟨by omega, hz.1.1⟩
  have htail : cutZ s ≠ s.size → partZ (s.extract (cutZ s + 1) s.size) = true ∧ decN (s.extract (cutZ s + 1) s.size).toList ≠ 0 := fun hc => by
    unfold numZ at hz
    rw [if_neg hc] at hz
    simp only [Bool.and_eq_true, Bool.not_eq_true'] at hz
    exact ⟨hz.1.2, decN_pos hz.1.2 hz.2⟩
  have hfew : ∀ {u : ByteArray}, partZ u = true → (natW (decN u.toList)).length ≤ 2000000 := fun {u} hu => by
    have := natW_forty (decN_forty hu u.size)
    rw [List.take_of_length_le (by rw [toList_len]; omega)] at this
    omega
  have hhead := hfew hsz.2
  have hcl := cutZ_le s
  intro w hw
  refine enter1 _ Tryz.func215 rfl Tryz.ntmps215 rfl ?_ hw;refine sR ?_;refine o_alloc trivial rfl Tryz.zeroValue35 rfl (fun b2 => ?_);refine oV ?_;refine nS ?_;refine oV ?_;refine oQ Tryz.call167 rfl (cut_any s hM (by omega)) ?_;iterate 7 refine oV ?_
  refine nS ?_;refine oV ?_;refine oI Tryz.call224 rfl (wholeParse_any (s.extract 0 (cutZ s)) hsz.2) ?_;rintro _ I1 hx1 ⟨u, rfl, hu⟩;iterate 3 refine oV ?_
  refine o_alloc trivial rfl Tryz.zeroValue132 rfl (fun b7 => ?_);refine oS Tryz.sizeOf132 ?_;refine oV ?_;refine nU ?_;iterate 2 refine oV ?_
  refine nT ?_;refine c_cond_f rfl (by rfl) ?_;refine kS ?_;refine oI Tryz.call129 rfl (natOf_any 1 (by decide)) ?_;rintro v25 I2 hx2 hs2;refine oV ?_;refine nU ?_;refine oV ?_;refine nT ?_;refine cC rfl (fun h2 => ?_) (fun h2 => ?_)
  ·
   have f2 := h2;try simp only [bl] at f2
   have hc : cutZ s ≠ s.size := by omega
   obtain ⟨hz2, hz3⟩ := htail hc
   refine cR ?_;refine oV ?_;refine oI Tryz.call225 rfl (deciParse_any _ hz2) ?_;rintro _ I3 hx3 ⟨u3, rfl, hu3⟩;iterate 5 refine oV ?_
   refine nU ?_;iterate 2 refine oV ?_
   refine nT ?_;refine c_cond_f rfl (by rfl) ?_;refine kS ?_;refine oA Tryz.isAgg132 Tryz.sizeOf132 ?_;refine oV ?_;refine o_buildS trivial rfl (bld132) rfl (.cons rfl (by exact (Ws.cells1 (by assumption)).1) (by rfl) (by repeat constructor) .nil) ?_;refine oI Tryz.call226 rfl (by exact qMakeNat_any _ _ _ _ (hu.le (hx2.le.trans hx3.le)) hu3 hhead (hfew hz2) hz3) ?_;rintro _ I4 hx4 ⟨a, b, rfl, ha, hb⟩;iterate 2 refine oV ?_
   refine oS Tryz.sizeOf35 ?_;refine oV ?_;refine nE ?_;refine retR rfl (.agg Tryz.isAgg35 Tryz.sizeOf35 rfl (by repeat constructor) rfl (.tmp rfl .nil)) ?_
   (refine leaf (hx1.trans (hx2.trans (hx3.trans hx4 (Nat.le_refl _)) (Nat.le_refl _)) (Nat.le_refl _)) (List.nil_sublist _) ⟨a, b, ?_, ?_, ?_⟩ <;> unfold numQ <;> rw [if_neg hc] <;> first | rfl | exact ha | exact hb)
  have f2 := h2;try simp only [bl] at f2
  have hc : cutZ s = s.size := by omega
  refine cK (tC (cS (sR ?_)));iterate 2 refine oV ?_
  refine nT ?_;refine c_cond_f rfl (by rfl) ?_;refine kS ?_;refine oA Tryz.isAgg132 Tryz.sizeOf132 ?_;refine oV ?_;refine o_buildS trivial rfl (bld132) rfl (.cons rfl (by exact (Ws.cells1 (by assumption)).1) (by rfl) (by repeat constructor) .nil) ?_;refine oI Tryz.call226 rfl (by (exact qMakeNat_any _ 1 _ _ (hu.le hx2.le) hs2 hhead (by rw [show natW 1 = [1] by rw [natW_pos (by decide)]; simp [natW_zero]]; decide) (by decide))) ?_;rintro _ I4 hx4 ⟨a, b, rfl, ha, hb⟩;iterate 2 refine oV ?_
  refine oS Tryz.sizeOf35 ?_;refine oV ?_;refine nE ?_;refine retR rfl (.agg Tryz.isAgg35 Tryz.sizeOf35 rfl (by repeat constructor) rfl (.tmp rfl .nil)) ?_
  (refine leaf (hx1.trans (hx2.trans hx4 (Nat.le_refl _)) (Nat.le_refl _)) (List.nil_sublist _) ⟨a, b, ?_, ?_, ?_⟩ <;> unfold numQ <;> rw [if_pos hc] <;> first | rfl | exact ha | exact hb)
abbrev nmR (u : Value) (l : List ByteArray) : Tw.Item := .row u 9 1 l.length (scs l).flatten
theorem scs_more (l : List ByteArray) (s : ByteArray) : (scs (l ++ [s])).flatten = (scs l).flatten ++ [.string s] := by simp [scs]
def NmRes (L : List Tok) (i' : Nat) (ok : Bool) (l : List ByteArray) : NOut → Prop
  | .bad r => ok = false ∧ L.drop i' = r ∧ i' ≤ L.length
  | .ok m r => ok = true ∧ l = m ∧ L.drop i' = r ∧ i' ≤ L.length
theorem adv_true {i : Nat} {b : Bool} (h : b = true) : adv b i = i + 1 := by rw [h]; rfl
theorem adv_false {i : Nat} {b : Bool} (h : b = false) : adv b i = i := by rw [h]; rfl
theorem drop_cons {L : List Tok} {i : Nat} (h : i < L.length) : L.drop i = tkAt L i :: L.drop (i + 1) := by rw [List.drop_eq_getElem_cons h, tkAt_in (List.getElem?_eq_getElem h)]
theorem nm_no {L : List Tok} {i : Nat} (h : hdN (L.drop i) = false) : namesZ (L.drop i) = .bad (L.drop i) := namesZ_no h
theorem nm_name {L : List Tok} {i : Nat} (h : hdN (L.drop i) = true) : nameT (tkAt L i) = true := by
  rw [drop_cons (hdN_lt h)] at h; exact h
theorem nm_comma {L : List Tok} {i : Nat} (h : hdN (L.drop i) = true) (hc : hdT (L.drop (i + 1)) 2 commaS = true) : namesZ (L.drop i) = (namesZ (L.drop (i + 2))).cons (tkAt L i).text := by
  rw [drop_cons (hdN_lt h), namesZ_comma (nm_name h) hc, List.drop_drop]
theorem nm_end {L : List Tok} {i : Nat} (h : hdN (L.drop i) = true) (hc : hdT (L.drop (i + 1)) 2 commaS = false) : namesZ (L.drop i) = if hdT (L.drop (i + 1)) 2 semiS then .ok [(tkAt L i).text] (L.drop (i + 2)) else .bad (L.drop (i + 1)) := by
  rw [drop_cons (hdN_lt h), namesZ_end (nm_name h) hc, List.drop_drop]
theorem rdNames_any (b i : Nat) (vall vs vi vl vo va : Value) (L : List Tok) {I : Hp} (hL : Slc I 4 vall (L.map Tok.cells)) (hn : L.length ≤ 10000) (hs : TkSmall L) (hi : i ≤ L.length) : Fun Tryz.prog 104 [.pointer (some ⟨b, 0, none⟩)] I [rdB b vall i vs vi vl vo va]
    (fun v I' B' => I = I' ∧ ∃ u ok i' u' l, v = .tuple #[u, .bool ok] ∧ B' = [rdB b vall i' vs vi vl vo va, nmR u' l] ∧ NmRes L i' ok l (namesZ (L.drop i)) ∧ (ok = true → u' = u ∧ l.length ≤ L.length) ∧ u.cells = #[u] ∧ u.oneCell' = true) := by
  intro w hw
  refine enter1 _ Tryz.func104 rfl Tryz.ntmps104 rfl ?_ hw;refine sR ?_;iterate 2 refine oV ?_
  refine nS ?_;refine oV ?_;refine oN (tC (cB ?_));refine c_loop (ι := Nat × List ByteArray × Value) [0] (.cons rfl .nil) (fun x => L.length - x.1) (fun x E0 => (4, x.2.2) :: E0) (fun x => St w (keysOf [rdB b vall i vs vi vl vo va]) I [rdB b vall x.1 vs vi vl vo va, nmR x.2.2 x.2.1]) (fun x => x.1 ≤ L.length ∧ x.2.1.length ≤ x.1 ∧ namesZ (L.drop i) = (namesZ (L.drop x.1)).after x.2.1) ((i, [], .slice none 0 0)) (sC rfl (sC rfl sN)) (fun _ h => (h.nilRow 9 1).sort (by repeat constructor)) (⟨hi, Nat.zero_le _, (NOut.after_nil _).symm⟩) ?_;rintro ⟨j, out, u⟩ ⟨hj, hout, hF⟩
  try dsimp only
  simp only at hj hout hF
  refine cB (sR ?_);refine oV ?_;refine oC trivial rfl Tryz.call139 rfl (rdName_any b j vall vs vi vl vo va L hL (by omega) hs) (by repeat constructor) ?_;rintro _ _ _ hx1 ⟨rfl, rfl, rfl⟩;iterate 5 refine oV ?_
  refine nU ?_;iterate 2 refine oV ?_
  refine nT ?_;refine cC rfl (fun h1 => ?_) (fun h1 => ?_)
  ·
   have f1 := h1;try simp only [bl] at f1
   have hN : hdN (L.drop j) = false := by simpa using f1
   refine sR ?_;iterate 2 refine oV ?_
   refine oN (tC (cT (tR (blk_r (tR (blk_r ?_))))));refine ret2 rfl rfl rfl ?_;exact fun w' hw' => ⟨I, [rdB b vall j vs vi vl vo va, nmR u out], (by rw [adv_false hN] at hw'; exact hw'.sort (by repeat constructor)), Ext.refl _ _, rfl, _, _, j, u, out, rfl, rfl, by rw [hF, nm_no hN]; exact ⟨rfl, rfl, hj⟩, fun h => (by cases h), rfl, rfl⟩
  have f1 := h1;try simp only [bl] at f1
  have hN : hdN (L.drop j) = true := by simpa using f1
  rw [adv_true hN, if_pos hN]
  have hlt := hdN_lt hN
  refine kS ?_;iterate 2 refine oV ?_
  refine oB Tryz.underlying22 Tryz.sizeOf9 Tryz.zeroValue9 fun b16 => ?_;refine oD Tryz.underlying22 elem9 fun v17 => ?_;refine oV ?_;refine nS ?_;refine oV ?_;refine oC trivial rfl Tryz.call140 rfl (rdMark_any b (j + 1) vall vs vi vl vo va commaS L hL (by omega)) (by repeat constructor) ?_;rintro _ _ _ hx2 ⟨rfl, rfl, rfl⟩;refine oV ?_;refine nT ?_;refine cC rfl (fun h2 => ?_) (fun h2 => ?_)
  ·
   have f2 := h2;try simp only [bl] at f2
   have hC : hdT (L.drop (j + 1)) 2 commaS = false := by simpa using f2
   rw [adv_false hC]
   refine sR ?_;refine l_rowCells (u := v17) (by repeat constructor) (fun hcv => ?_);iterate 2 refine oV ?_
   refine oC trivial rfl Tryz.call140 rfl (rdMark_any b (j + 1) vall vs vi vl vo va semiS L hL (by omega)) (by repeat constructor) ?_;rintro _ _ _ hx3 ⟨rfl, rfl, rfl⟩;iterate 2 refine oV ?_
   refine oN (tC (cT (blk_r (tR (blk_r ?_)))));refine ret2 rfl rfl rfl ?_;refine fun w' hw' => ⟨I, [rdB b vall (adv (hdT (L.drop (j + 1)) 2 semiS) (j + 1)) vs vi vl vo va, nmR v17 (out ++ [(tkAt L j).text])], (by unfold nmR; rw [scs_more, List.length_append]; exact hw'.sort (by repeat constructor)), Ext.refl _ _, rfl, _, _, _, _, _, rfl, rfl, ?_, fun _ => ⟨rfl, by rw [List.length_append]; show out.length + 1 ≤ _; omega⟩, hcv⟩
   rw [hF, nm_end hN hC]
   cases hS : hdT (L.drop (j + 1)) 2 semiS with
   | true => exact ⟨rfl, rfl, rfl, hdT_lt hS⟩
   | false => exact ⟨rfl, rfl, (by show j + 1 ≤ L.length; omega)⟩
  have f2 := h2;try simp only [bl] at f2
  have hC : hdT (L.drop (j + 1)) 2 commaS = true := by simpa using f2
  rw [adv_true hC]
  have hlt2 := hdT_lt hC
  refine cK (blk_n ?_);exact again (j + 2, out ++ [(tkAt L j).text], v17) (sC rfl (sC rfl sN)) (fun _ h => by unfold nmR; rw [scs_more, List.length_append]; exact h.sort (by repeat constructor)) (by show L.length - (j + 2) < L.length - j; omega) ⟨by show j + 2 ≤ L.length; omega, by rw [List.length_append]; show out.length + 1 ≤ j + 2; omega, by rw [hF, nm_comma hN hC, NOut.after_cons]⟩
theorem rdAtom_any (b i : Nat) (vall vs vi vl vo va : Value) (ns : List NodeV) (K : List Value) (L : List Tok) {I : Hp} (hM : Mx I) (hL : Slc I 4 vall (L.map Tok.cells)) (hn : L.length ≤ 10000) (hs : TkSmall L) (hto : ToksOk L) (hK : K.length ≤ 90000) (hns : ns.length ≤ 90000) :
    Fun Tryz.prog 195 [.pointer (some ⟨b, 0, none⟩)] I [rdB b vall i vs vi vl vo va, skR vs K, ndR va ns]
    (fun v I' B' => (v = .bool false ∧ I = I' ∧ B' = [rdB b vall i vs vi vl vo va, skR vs K, ndR va ns] ∧ (i < L.length → leafT (tkAt L i) = false)) ∨
      (v = .bool true ∧ i < L.length ∧ leafT (tkAt L i) = true ∧ ∃ vs' va' c, c.ok I' ∧ c.c = leafN (tkAt L i) ∧ B' = [rdB b vall (i + 1) vs' vi vl vo va', skR vs' (K ++ [odI ns.length]), ndR va' (ns ++ [c])])) := by
  have hnode : ∀ (c : NodeV) (vs va : Value) {I1 : Hp} (hc : c.ok I1) (j : Nat), Fun Tryz.prog 200 [.pointer (some ⟨b, 0, none⟩), ndV c] I1 [rdB b vall j vs vi vl vo va, skR vs K, ndR va ns]
    (fun v I' B' => I1 = I' ∧ v = .tuple #[] ∧ ∃ vs' va', B' = [rdB b vall j vs' vi vl vo va', skR vs' (K ++ [odI ns.length]), ndR va' (ns ++ [c])]) := fun c vs va {I1} hc j => node_any b j vall vs vi vl vo va c ns K hc hK hns
  intro w hw
  refine enter1 _ Tryz.func195 rfl Tryz.ntmps195 rfl ?_ hw;refine sR ?_;refine oV ?_;refine nU ?_;refine oV ?_;refine oC trivial rfl Tryz.call139 rfl (rdName_any b i vall vs vi vl vo va L hL (by omega) hs) (by repeat constructor) ?_;rintro _ _ _ hx1 ⟨rfl, rfl, rfl⟩;iterate 5 refine oV ?_
  refine nS ?_;refine oV ?_;refine nT ?_;refine cC rfl (fun h1 => ?_) (fun h1 => ?_)
  ·
   have f1 := h1;try simp only [bl] at f1
   have hN : hdN (L.drop i) = true := f1
   rw [adv_true hN, if_pos hN]
   have hlt := hdN_lt hN
   have hnm := nm_name hN
   refine sR ?_;iterate 2 refine oV ?_
   refine o_buildS trivial rfl (bld37) rfl (.cons rfl rfl rfl (by repeat constructor) (.cons rfl rfl rfl (by repeat constructor) .nil)) ?_;refine oC trivial rfl Tryz.call200 rfl (hnode ⟨refN (tkAt L i).text, .slice none 0 0, .slice none 0 0⟩ vs va ⟨Ws.nil _, Ws.nil _⟩ (i + 1)) (by repeat constructor) ?_;rintro _ _ _ hx2 ⟨rfl, rfl, vs', va', rfl⟩;refine nS ?_;refine oV ?_;refine nF ?_;refine ret1 rfl rfl ?_;refine fun w' hw' => ⟨I, [rdB b vall (i + 1) vs' vi vl vo va', skR vs' (K ++ [odI ns.length]), ndR va' (ns ++ [⟨refN (tkAt L i).text, .slice none 0 0, .slice none 0 0⟩])], hw'.sort (by repeat constructor), Ext.refl _ _, .inr ⟨rfl, hlt, ?_, vs', va', _, ⟨Ws.nil _, Ws.nil _⟩, ?_, rfl⟩⟩
   · unfold leafT; unfold nameT at hnm; rw [hnm, Bool.or_true]
   · unfold nameT at hnm; simp at hnm; unfold leafN; rw [if_neg (by rw [hnm.1]; decide)]
  have f1 := h1;try simp only [bl] at f1
  have hN : hdN (L.drop i) = false := by simpa using f1
  rw [adv_false hN]
  refine kS ?_;refine oV ?_;refine oC trivial rfl Tryz.call59 rfl (rdNext_any b i vall vs vi vl vo va L hL) (by repeat constructor) ?_;rintro _ _ _ hx2 ⟨rfl, rfl, rfl⟩;iterate 3 refine oV ?_
  refine o_alloc trivial rfl Tryz.zeroValue103 rfl (fun b5 => ?_);refine oS Tryz.sizeOf103 ?_;refine oV ?_;refine nU ?_;iterate 2 refine oV ?_
  refine' o_or trivial trivial rfl rfl rfl rfl rfl rfl rfl rfl (fun hb26 => ?_) ?_;rotate_left
  ·
   have fb26 := hb26
   try simp only [bl] at fb26
   refine gF hb26 0 Tryz.underlying103 Tryz.sizeOf3 ?_;refine gL hb26 Tryz.isAgg3 ?_;refine gV hb26 ?_;refine oN ?_;exact joins rfl
  refine nT ?_;refine cC rfl (fun h2 => ?_) (fun h2 => ?_)
  ·
   have f2 := h2;try simp only [bl] at f2
   have h3 := or2_t h2
   refine sR ?_;refine oV ?_;refine nF ?_;refine ret1 rfl rfl ?_;refine fun w' hw' => ⟨I, [rdB b vall i vs vi vl vo va, skR vs K, ndR va ns], hw'.sort (by repeat constructor), Ext.refl _ _, .inl ⟨rfl, rfl, rfl, fun hlt => ?_⟩⟩
   rw [hdN_at, decide_eq_true hlt, Bool.true_and] at hN
   rw [decide_eq_true hlt, Bool.true_and] at h3
   unfold leafT
   unfold nameT at hN
   rw [hN, Bool.or_false]
   exact h3
  have f2 := h2;try simp only [bl] at f2
  have h3 := or2_f h2
  simp at h3
  have hz := hto (tkAt L i) (by rw [tkAt_in (List.getElem?_eq_getElem h3.1)]; exact List.getElem_mem h3.1) h3.2
  refine kS ?_;refine oF 1 Tryz.underlying103 Tryz.sizeOf9 ?_;refine oL Tryz.isAgg9 ?_;refine oI Tryz.call215 rfl (ratParse_any _ hM hz) ?_;rintro _ I3 hx3 ⟨ra, rb, rfl, hra, hrb⟩;iterate 3 refine oV ?_
  refine o_alloc trivial rfl Tryz.zeroValue35 rfl (fun b7 => ?_);refine oS Tryz.sizeOf35 ?_;refine oV ?_;refine nS ?_;iterate 2 refine oV ?_
  refine oF 1 Tryz.underlying101 Tryz.sizeOf3 ?_;refine oL Tryz.isAgg3 ?_
  (refine o_add trivial rfl rfl rfl ?_ ?_; (omega))
  refine oV ?_;refine oF 1 Tryz.underlying101 Tryz.sizeOf3 ?_;refine oS Tryz.sizeOf3 ?_;refine nS ?_;refine oV ?_;refine oA Tryz.isAgg35 Tryz.sizeOf35 ?_;refine o_buildS trivial rfl (bld37) rfl (.cons rfl rfl rfl (by repeat constructor) (.cons rfl rfl rfl (by repeat constructor) .nil)) ?_;refine oC trivial rfl Tryz.call200 rfl (hnode ⟨numN (numQ (tkAt L i).text), ra, rb⟩ vs va ⟨hra, hrb⟩ (i + 1)) (by repeat constructor) ?_;rintro _ _ _ hx4 ⟨rfl, rfl, vs', va', rfl⟩;refine nS ?_;refine oV ?_;refine nE ?_;refine ret1 rfl rfl ?_;refine fun w' hw' => ⟨I3, [rdB b vall (i + 1) vs' vi vl vo va', skR vs' (K ++ [odI ns.length]), ndR va' (ns ++ [⟨numN (numQ (tkAt L i).text), ra, rb⟩])], hw'.sort (by repeat constructor), hx3, .inr ⟨rfl, h3.1, ?_, vs', va', _, ⟨hra, hrb⟩, ?_, rfl⟩⟩
  · unfold leafT; rw [h3.2]; rfl
  · unfold leafN; rw [if_pos h3.2]
theorem expo_some {L : List Tok} {i : Nat} {e : Option Int} {r1 : List Tok} (he : Expo (L.drop i) e r1) {j : Nat} (hj : j = adv (hdT (L.drop i) 2 minusS) i) (hlt : j < L.length) (hk : (tkAt L j).kind = 1) {n : Nat} (hn : expoZ (tkAt L j).text = some n) :
    e = some ((if hdT (L.drop i) 2 minusS then -1 else 1) * (n : Int)) ∧ r1 = L.drop (j + 1) := by
  cases hm : hdT (L.drop i) 2 minusS with
  | true =>
    rw [adv_true hm] at hj
    subst hj
    have hi := hdT_lt hm
    have hx : isT (tkAt L i) 2 minusS = true := by rw [drop_cons hi] at hm; exact hm
    have h2 : Expo (L.drop i) (some (-(n : Int))) (L.drop (i + 1 + 1)) := by rw [drop_cons hi, drop_cons hlt]; exact .neg hx hk hn
    obtain ⟨rfl, rfl⟩ := he.det h2
    exact ⟨by simp, rfl⟩
  | false =>
    rw [adv_false hm] at hj
    subst hj
    have hx : isT (tkAt L j) 2 minusS = false := by rw [drop_cons hlt] at hm; exact hm
    have h2 : Expo (L.drop j) (some (n : Int)) (L.drop (j + 1)) := by rw [drop_cons hlt]; exact .pos hx hk hn
    obtain ⟨rfl, rfl⟩ := he.det h2
    exact ⟨by simp, rfl⟩
theorem expo_none {L : List Tok} {i : Nat} {e : Option Int} {r1 : List Tok} (he : Expo (L.drop i) e r1) {j : Nat} (hj : j = adv (hdT (L.drop i) 2 minusS) i) (hn : j < L.length → (tkAt L j).kind = 1 → expoZ (tkAt L j).text = none) :
    e = none ∧ r1 = L.drop j := by
  cases hm : hdT (L.drop i) 2 minusS with
  | true =>
    rw [adv_true hm] at hj
    subst hj
    have hi := hdT_lt hm
    have hx : isT (tkAt L i) 2 minusS = true := by rw [drop_cons hi] at hm; exact hm
    by_cases hlt : i + 1 < L.length
    · have h2 : Expo (L.drop i) none (L.drop (i + 1)) := by rw [drop_cons hi, drop_cons hlt]; exact .neg_bad hx (hn hlt)
      obtain ⟨rfl, rfl⟩ := he.det h2
      exact ⟨rfl, rfl⟩
    · have h2 : Expo (L.drop i) none (L.drop (i + 1)) := by rw [drop_cons hi, List.drop_eq_nil_of_le (by omega)]; exact .neg_end hx
      obtain ⟨rfl, rfl⟩ := he.det h2
      exact ⟨rfl, rfl⟩
  | false =>
    rw [adv_false hm] at hj
    subst hj
    by_cases hlt : j < L.length
    · have hx : isT (tkAt L j) 2 minusS = false := by rw [drop_cons hlt] at hm; exact hm
      have h2 : Expo (L.drop j) none (L.drop j) := by rw [drop_cons hlt]; exact .pos_bad hx (hn hlt)
      obtain ⟨rfl, rfl⟩ := he.det h2
      exact ⟨rfl, rfl⟩
    · have h2 : Expo (L.drop j) none (L.drop j) := by rw [List.drop_eq_nil_of_le (by omega)]; exact .pos_end
      obtain ⟨rfl, rfl⟩ := he.det h2
      exact ⟨rfl, rfl⟩
theorem rdExpo_any (b i : Nat) (vall vs vi vl vo va : Value) (a : Int) (ns : List NodeV) (K : List Value) (L : List Tok) {I : Hp} (hE : Errs I) (hL : Slc I 4 vall (L.map Tok.cells)) (hn : L.length ≤ 10000) (hs : TkSmall L) (hto : ToksOk L) (hK : K.length ≤ 90000) (hns : ns.length ≤ 90000) (hi : i ≤ L.length) {e : Option Int} {r1 : List Tok} (he : Expo (L.drop i) e r1) :
    Fun Tryz.prog 196 [.pointer (some ⟨b, 0, none⟩)] I [rdB b vall i vs vi vl vo va, skR vs (K ++ [odI a]), ndR va ns]
    (fun v I' B' => I = I' ∧ ((e = none ∧ v = .bool false ∧ ∃ i', i' ≤ L.length ∧ r1 = L.drop i' ∧ B' = [rdB b vall i' vs vi vl vo va, skR vs (K ++ [odI a]), ndR va ns]) ∨
      (∃ z, e = some z ∧ v = .bool true ∧ ∃ i' vs' va' c, i < i' ∧ i' ≤ L.length ∧ r1 = L.drop i' ∧ c.ok I ∧ c.c = powN a z ∧ B' = [rdB b vall i' vs' vi vl vo va', skR vs' (K ++ [odI ns.length]), ndR va' (ns ++ [c])]))) := by
  have hnode : ∀ (c : NodeV) (vs va : Value) (hc : c.ok I) (j : Nat), Fun Tryz.prog 200 [.pointer (some ⟨b, 0, none⟩), ndV c] I [rdB b vall j vs vi vl vo va, skR vs K, ndR va ns]
    (fun v I' B' => I = I' ∧ v = .tuple #[] ∧ ∃ vs' va', B' = [rdB b vall j vs' vi vl vo va', skR vs' (K ++ [odI ns.length]), ndR va' (ns ++ [c])]) := fun c vs va hc j => node_any b j vall vs vi vl vo va c ns K hc hK hns
  obtain ⟨j, hj⟩ : ∃ j, j = adv (hdT (L.drop i) 2 minusS) i := ⟨_, rfl⟩
  have hjl : j ≤ L.length := by rw [hj]; exact adv_le hi
  have hji : i ≤ j := by rw [hj]; unfold adv; split <;> omega
  have hbad : (∀ m, Lib.atoiAll (tkAt L j).text.data.toList ≠ .ok m) → j < L.length → (tkAt L j).kind = 1 → expoZ (tkAt L j).text = none := fun h hlt hk => by
    have hz := hto (tkAt L j) (by rw [tkAt_in (List.getElem?_eq_getElem hlt)]; exact List.getElem_mem hlt) hk
    cases hx : expoZ (tkAt L j).text with
    | none => rfl
    | some n => exact absurd ((expo_atoi hz n).1 hx).1 (h _)
  have hgood : ∀ {n : Int}, Lib.atoiAll (tkAt L j).text.data.toList = .ok n → j < L.length → (tkAt L j).kind = 1 → 0 ≤ n ∧ (n ≤ 20 → expoZ (tkAt L j).text = some n.toNat) ∧ (20 < n → expoZ (tkAt L j).text = none) := fun {n} h hlt hk => by
    have hz := hto (tkAt L j) (by rw [tkAt_in (List.getElem?_eq_getElem hlt)]; exact List.getElem_mem hlt) hk
    have h0 := atoi_pos hz h
    refine ⟨h0, fun h20 => (expo_atoi hz _).2 ⟨by rw [h, Int.toNat_of_nonneg h0], by omega⟩, fun h20 => ?_⟩
    cases hx : expoZ (tkAt L j).text with
    | none => rfl
    | some m =>
      have := (expo_atoi hz m).1 hx
      rw [h] at this
      have h3 := Lib.NumEnd.ok.inj this.1
      omega
  intro w hw
  refine enter1 _ Tryz.func196 rfl Tryz.ntmps196 rfl ?_ hw;refine sR ?_;refine oV ?_;refine nS ?_;refine oV ?_;refine nU ?_;refine oV ?_;refine oC trivial rfl Tryz.call140 rfl (rdMark_any b i vall vs vi vl vo va minusS L hL (by omega)) (by repeat constructor) ?_;rintro _ _ _ hx1 ⟨rfl, rfl, rfl⟩;refine nT ?_;refine cC rfl (fun h1 => ?_) (fun h1 => ?_)
  ·
   have f1 := h1;try simp only [bl] at f1
   refine cR ?_;refine oV ?_;refine oN (tC (cS ?_))
   rw [← hj]
   refine cR ?_;refine oV ?_;refine oC trivial rfl Tryz.call59 rfl (rdNext_any b j vall vs vi vl vo va L hL) (by repeat constructor) ?_;rintro _ _ _ hx2 ⟨rfl, rfl, rfl⟩;iterate 3 refine oV ?_
   refine o_alloc trivial rfl Tryz.zeroValue103 rfl (fun b4 => ?_);refine oS Tryz.sizeOf103 ?_;refine oV ?_;refine nS ?_;refine oF 1 Tryz.underlying103 Tryz.sizeOf9 ?_;refine oL Tryz.isAgg9 ?_;refine o_call0 trivial rfl Tryz.call216 rfl (atoi_any _ hE (by have := hs.at_ j; omega)) ?_;rintro _ ⟨n, er, rfl, hA⟩;iterate 5 refine oV ?_
   refine oN (tC (cS (cS ?_)))
   rcases hA with ⟨hA, rfl⟩ | ⟨hA, N, rfl⟩
   ·
    refine cR ?_;iterate 2 refine oV ?_
    refine' o_or trivial trivial rfl rfl rfl rfl rfl rfl rfl rfl (fun hb23 => ?_) ?_;rotate_left
    ·
     have fb23 := hb23
     try simp only [bl] at fb23
     refine gF hb23 0 Tryz.underlying103 Tryz.sizeOf3 ?_;refine gL hb23 Tryz.isAgg3 ?_;refine gV hb23 ?_;refine oN ?_;exact joins rfl
    refine' o_or trivial trivial rfl rfl rfl rfl rfl rfl rfl rfl (fun hb28 => ?_) ?_;rotate_left
    ·
     refine gV hb28 ?_;refine o_bin (v := .bool false) (wS rfl rfl hb28) rfl rfl rfl (fun w => by kernel_rfl) ?_;refine oN ?_;exact joins rfl
    refine' o_or trivial trivial rfl rfl rfl rfl rfl rfl rfl rfl (fun hb32 => ?_) ?_;rotate_left
    ·
     iterate 2 refine gV hb32 ?_
     refine oN ?_;exact joins rfl
    refine nT ?_;refine cC rfl (fun h2 => ?_) (fun h2 => ?_)
    ·
     have f2 := h2;try simp only [bl] at f2
     have h3 : expoZ (tkAt L j).text = none ∨ ¬ (j < L.length ∧ (tkAt L j).kind = 1) := by
       by_cases hc : j < L.length ∧ (tkAt L j).kind = 1
       · left
         refine (hgood hA hc.1 hc.2).2.2 ?_
         rw [decide_eq_true hc.1, hc.2] at h2
         simpa using h2
       · exact .inr hc
     have hr := expo_none he hj (fun k1 k2 => h3.elim id fun h => absurd ⟨k1, k2⟩ h)
     refine sR ?_;refine oV ?_;refine nF ?_;refine ret1 rfl rfl ?_;exact fun w' hw' => ⟨I, [rdB b vall j vs vi vl vo va, skR vs (K ++ [odI a]), ndR va ns], hw'.sort (by repeat constructor), Ext.refl _ _, rfl, .inl ⟨hr.1, rfl, j, hjl, hr.2, rfl⟩⟩
    have f2 := h2;try simp only [bl] at f2
    have h3 : j < L.length ∧ (tkAt L j).kind = 1 ∧ n ≤ 20 := by
      simp at h2
      exact ⟨h2.1.1, h2.1.2, by omega⟩
    obtain ⟨hn0, hn1, _⟩ := hgood hA h3.1 h3.2.1
    have hr := expo_some he hj h3.1 h3.2.1 (hn1 h3.2.2)
    rw [Int.toNat_of_nonneg hn0] at hr
    refine kS ?_;iterate 2 refine oV ?_
    refine oF 1 Tryz.underlying101 Tryz.sizeOf3 ?_;refine oL Tryz.isAgg3 ?_
    (refine o_add trivial rfl rfl rfl ?_ ?_; (omega))
    refine oV ?_;refine oF 1 Tryz.underlying101 Tryz.sizeOf3 ?_;refine oS Tryz.sizeOf3 ?_;refine nS ?_;iterate 2 refine oV ?_
    refine oC trivial rfl Tryz.call199 rfl (rdNumber_any b (j + 1) vall vs vi vl vo va a K (by omega)) (by repeat constructor) ?_;rintro _ _ _ hx4 ⟨rfl, rfl, vs2, rfl⟩;iterate 2 refine oV ?_
    (refine o_mul trivial rfl rfl rfl ?_ ?_; (omega))
    refine o_buildS trivial rfl (bld37) rfl (.cons rfl rfl rfl (by repeat constructor) (.cons rfl rfl rfl (by repeat constructor) (.cons rfl rfl rfl (by repeat constructor) .nil))) ?_;refine oC trivial rfl Tryz.call200 rfl (hnode ⟨powN a (_ * n), .slice none 0 0, .slice none 0 0⟩ vs2 va ⟨Ws.nil _, Ws.nil _⟩ (j + 1)) (by repeat constructor) ?_;rintro _ _ _ hx5 ⟨rfl, rfl, vs3, va3, rfl⟩;refine nS ?_;refine oV ?_;refine nE ?_;refine ret1 rfl rfl ?_
    (exact fun w' hw' => ⟨I, [rdB b vall (j + 1) vs3 vi vl vo va3, skR vs3 (K ++ [odI ns.length]), ndR va3 (ns ++ [_])], hw'.sort (by repeat constructor), Ext.refl _ _, rfl, .inr ⟨_, hr.1, rfl, j + 1, vs3, va3, _, by omega, by omega, hr.2, ⟨Ws.nil _, Ws.nil _⟩, by rw [f1]; rfl, rfl⟩⟩)
   refine cR ?_;iterate 2 refine oV ?_
   refine' o_or trivial trivial rfl rfl rfl rfl rfl rfl rfl rfl (fun hb23 => ?_) ?_;rotate_left
   ·
    have fb23 := hb23
    try simp only [bl] at fb23
    refine gF hb23 0 Tryz.underlying103 Tryz.sizeOf3 ?_;refine gL hb23 Tryz.isAgg3 ?_;refine gV hb23 ?_;refine oN ?_;exact joins rfl
   refine' o_or trivial trivial rfl rfl rfl rfl rfl rfl rfl rfl (fun hb28 => ?_) ?_;rotate_left
   ·
    refine gV hb28 ?_;refine o_bin (v := .bool true) (wS rfl rfl hb28) rfl rfl rfl (fun w => by kernel_rfl) ?_;refine oN ?_;exact joins rfl
   refine' o_or trivial trivial rfl rfl rfl rfl rfl rfl rfl rfl (fun hb32 => ?_) ?_;rotate_left
   ·
    iterate 2 refine gV hb32 ?_
    refine oN ?_;exact joins rfl
   refine nT ?_;refine cC rfl (fun h2 => ?_) (fun h2 => ?_)
   ·
    have f2 := h2;try simp only [bl] at f2
    have hr := expo_none he hj (hbad hA)
    refine sR ?_;refine oV ?_;refine nF ?_;refine ret1 rfl rfl ?_;exact fun w' hw' => ⟨I, [rdB b vall j vs vi vl vo va, skR vs (K ++ [odI a]), ndR va ns], hw'.sort (by repeat constructor), Ext.refl _ _, rfl, .inl ⟨hr.1, rfl, j, hjl, hr.2, rfl⟩⟩
   have f2 := h2;try simp only [bl] at f2
   exfalso; rw [Bool.or_true, Bool.true_or] at h2; cases h2
  have f1 := h1;try simp only [bl] at f1
  refine cK (tC (cS ?_))
  rw [← hj]
  refine cR ?_;refine oV ?_;refine oC trivial rfl Tryz.call59 rfl (rdNext_any b j vall vs vi vl vo va L hL) (by repeat constructor) ?_;rintro _ _ _ hx2 ⟨rfl, rfl, rfl⟩;iterate 3 refine oV ?_
  refine o_alloc trivial rfl Tryz.zeroValue103 rfl (fun b4 => ?_);refine oS Tryz.sizeOf103 ?_;refine oV ?_;refine nS ?_;refine oF 1 Tryz.underlying103 Tryz.sizeOf9 ?_;refine oL Tryz.isAgg9 ?_;refine o_call0 trivial rfl Tryz.call216 rfl (atoi_any _ hE (by have := hs.at_ j; omega)) ?_;rintro _ ⟨n, er, rfl, hA⟩;iterate 5 refine oV ?_
  refine oN (tC (cS (cS ?_)))
  rcases hA with ⟨hA, rfl⟩ | ⟨hA, N, rfl⟩
  ·
   refine cR ?_;iterate 2 refine oV ?_
   refine' o_or trivial trivial rfl rfl rfl rfl rfl rfl rfl rfl (fun hb23 => ?_) ?_;rotate_left
   ·
    have fb23 := hb23
    try simp only [bl] at fb23
    refine gF hb23 0 Tryz.underlying103 Tryz.sizeOf3 ?_;refine gL hb23 Tryz.isAgg3 ?_;refine gV hb23 ?_;refine oN ?_;exact joins rfl
   refine' o_or trivial trivial rfl rfl rfl rfl rfl rfl rfl rfl (fun hb28 => ?_) ?_;rotate_left
   ·
    refine gV hb28 ?_;refine o_bin (v := .bool false) (wS rfl rfl hb28) rfl rfl rfl (fun w => by kernel_rfl) ?_;refine oN ?_;exact joins rfl
   refine' o_or trivial trivial rfl rfl rfl rfl rfl rfl rfl rfl (fun hb32 => ?_) ?_;rotate_left
   ·
    iterate 2 refine gV hb32 ?_
    refine oN ?_;exact joins rfl
   refine nT ?_;refine cC rfl (fun h2 => ?_) (fun h2 => ?_)
   ·
    have f2 := h2;try simp only [bl] at f2
    have h3 : expoZ (tkAt L j).text = none ∨ ¬ (j < L.length ∧ (tkAt L j).kind = 1) := by
      by_cases hc : j < L.length ∧ (tkAt L j).kind = 1
      · left
        refine (hgood hA hc.1 hc.2).2.2 ?_
        rw [decide_eq_true hc.1, hc.2] at h2
        simpa using h2
      · exact .inr hc
    have hr := expo_none he hj (fun k1 k2 => h3.elim id fun h => absurd ⟨k1, k2⟩ h)
    refine sR ?_;refine oV ?_;refine nF ?_;refine ret1 rfl rfl ?_;exact fun w' hw' => ⟨I, [rdB b vall j vs vi vl vo va, skR vs (K ++ [odI a]), ndR va ns], hw'.sort (by repeat constructor), Ext.refl _ _, rfl, .inl ⟨hr.1, rfl, j, hjl, hr.2, rfl⟩⟩
   have f2 := h2;try simp only [bl] at f2
   have h3 : j < L.length ∧ (tkAt L j).kind = 1 ∧ n ≤ 20 := by
     simp at h2
     exact ⟨h2.1.1, h2.1.2, by omega⟩
   obtain ⟨hn0, hn1, _⟩ := hgood hA h3.1 h3.2.1
   have hr := expo_some he hj h3.1 h3.2.1 (hn1 h3.2.2)
   rw [Int.toNat_of_nonneg hn0] at hr
   refine kS ?_;iterate 2 refine oV ?_
   refine oF 1 Tryz.underlying101 Tryz.sizeOf3 ?_;refine oL Tryz.isAgg3 ?_
   (refine o_add trivial rfl rfl rfl ?_ ?_; (omega))
   refine oV ?_;refine oF 1 Tryz.underlying101 Tryz.sizeOf3 ?_;refine oS Tryz.sizeOf3 ?_;refine nS ?_;iterate 2 refine oV ?_
   refine oC trivial rfl Tryz.call199 rfl (rdNumber_any b (j + 1) vall vs vi vl vo va a K (by omega)) (by repeat constructor) ?_;rintro _ _ _ hx4 ⟨rfl, rfl, vs2, rfl⟩;iterate 2 refine oV ?_
   (refine o_mul trivial rfl rfl rfl ?_ ?_; (omega))
   refine o_buildS trivial rfl (bld37) rfl (.cons rfl rfl rfl (by repeat constructor) (.cons rfl rfl rfl (by repeat constructor) (.cons rfl rfl rfl (by repeat constructor) .nil))) ?_;refine oC trivial rfl Tryz.call200 rfl (hnode ⟨powN a (_ * n), .slice none 0 0, .slice none 0 0⟩ vs2 va ⟨Ws.nil _, Ws.nil _⟩ (j + 1)) (by repeat constructor) ?_;rintro _ _ _ hx5 ⟨rfl, rfl, vs3, va3, rfl⟩;refine nS ?_;refine oV ?_;refine nE ?_;refine ret1 rfl rfl ?_
   (exact fun w' hw' => ⟨I, [rdB b vall (j + 1) vs3 vi vl vo va3, skR vs3 (K ++ [odI ns.length]), ndR va3 (ns ++ [_])], hw'.sort (by repeat constructor), Ext.refl _ _, rfl, .inr ⟨_, hr.1, rfl, j + 1, vs3, va3, _, by omega, by omega, hr.2, ⟨Ws.nil _, Ws.nil _⟩, by rw [f1]; rfl, rfl⟩⟩)
  refine cR ?_;iterate 2 refine oV ?_
  refine' o_or trivial trivial rfl rfl rfl rfl rfl rfl rfl rfl (fun hb23 => ?_) ?_;rotate_left
  ·
   have fb23 := hb23
   try simp only [bl] at fb23
   refine gF hb23 0 Tryz.underlying103 Tryz.sizeOf3 ?_;refine gL hb23 Tryz.isAgg3 ?_;refine gV hb23 ?_;refine oN ?_;exact joins rfl
  refine' o_or trivial trivial rfl rfl rfl rfl rfl rfl rfl rfl (fun hb28 => ?_) ?_;rotate_left
  ·
   refine gV hb28 ?_;refine o_bin (v := .bool true) (wS rfl rfl hb28) rfl rfl rfl (fun w => by kernel_rfl) ?_;refine oN ?_;exact joins rfl
  refine' o_or trivial trivial rfl rfl rfl rfl rfl rfl rfl rfl (fun hb32 => ?_) ?_;rotate_left
  ·
   iterate 2 refine gV hb32 ?_
   refine oN ?_;exact joins rfl
  refine nT ?_;refine cC rfl (fun h2 => ?_) (fun h2 => ?_)
  ·
   have f2 := h2;try simp only [bl] at f2
   have hr := expo_none he hj (hbad hA)
   refine sR ?_;refine oV ?_;refine nF ?_;refine ret1 rfl rfl ?_;exact fun w' hw' => ⟨I, [rdB b vall j vs vi vl vo va, skR vs (K ++ [odI a]), ndR va ns], hw'.sort (by repeat constructor), Ext.refl _ _, rfl, .inl ⟨hr.1, rfl, j, hjl, hr.2, rfl⟩⟩
  have f2 := h2;try simp only [bl] at f2
  exfalso; rw [Bool.or_true, Bool.true_or] at h2; cases h2
theorem rdExpo_u (b i : Nat) (vall vs vi vl vo va : Value) (a : Int) (ns : List NodeV) (K : List Value) (L : List Tok) {I : Hp} (hE : Errs I) (hL : Slc I 4 vall (L.map Tok.cells)) (hn : L.length ≤ 10000) (hs : TkSmall L) (hto : ToksOk L) (hK : K.length ≤ 90000) (hns : ns.length ≤ 90000) (hi : i ≤ L.length) {e : Option Int} {r1 : List Tok} (he : Expo (L.drop i) e r1) :
    Fun Tryz.prog 196 [.pointer (some ⟨b, 0, none⟩)] I [rdB b vall i vs vi vl vo va, skR vs (K ++ [odI a]), ndR va ns]
    (fun v I' B' => I = I' ∧ ∃ ok i' vs' va' ns' Kv, v = .bool ok ∧ B' = [rdB b vall i' vs' vi vl vo va', skR vs' Kv, ndR va' ns'] ∧ i' ≤ L.length ∧ (ok = false → e = none ∧ r1 = L.drop i') ∧
      (ok = true → ∃ z c, e = some z ∧ r1 = L.drop i' ∧ i < i' ∧ c.ok I ∧ c.c = powN a z ∧ Kv = K ++ [odI ns.length] ∧ ns' = ns ++ [c])) :=
  fun_mono (rdExpo_any b i vall vs vi vl vo va a ns K L hE hL hn hs hto hK hns hi he) fun v I' B' h => by
    rcases h with ⟨rfl, ⟨h1, rfl, i', h2, h3, rfl⟩ | ⟨z, h1, rfl, i', vs', va', c, h2, h3, h4, h5, h6, rfl⟩⟩
    · exact ⟨rfl, _, i', _, _, _, _, rfl, rfl, h2, fun _ => ⟨h1, h3⟩, fun h => by cases h⟩
    · exact ⟨rfl, _, i', _, _, _, _, rfl, rfl, h3, fun h => (by cases h), fun _ => ⟨z, c, h1, h4, h2, h5, h6, rfl, rfl⟩⟩
theorem rdAtom_yes (b i : Nat) (vall vs vi vl vo va : Value) (ns : List NodeV) (K : List Value) (L : List Tok) {I : Hp} (hM : Mx I) (hL : Slc I 4 vall (L.map Tok.cells)) (hn : L.length ≤ 10000) (hs : TkSmall L) (hto : ToksOk L) (hK : K.length ≤ 90000) (hns : ns.length ≤ 90000) (hlt : i < L.length) (hlf : leafT (tkAt L i) = true) :
    Fun Tryz.prog 195 [.pointer (some ⟨b, 0, none⟩)] I [rdB b vall i vs vi vl vo va, skR vs K, ndR va ns]
    (fun v I' B' => v = .bool true ∧ ∃ vs' va' c, c.ok I' ∧ c.c = leafN (tkAt L i) ∧ B' = [rdB b vall (i + 1) vs' vi vl vo va', skR vs' (K ++ [odI ns.length]), ndR va' (ns ++ [c])]) :=
  fun_mono (rdAtom_any b i vall vs vi vl vo va ns K L hM hL hn hs hto hK hns) fun v I' B' h => by
    rcases h with ⟨h1, h2, h3, h4⟩ | ⟨h1, _, _, h2⟩
    · rw [h4 hlt] at hlf; cases hlf
    · exact ⟨h1, h2⟩
theorem rdAtom_no (b i : Nat) (vall vs vi vl vo va : Value) (ns : List NodeV) (K : List Value) (L : List Tok) {I : Hp} (hM : Mx I) (hL : Slc I 4 vall (L.map Tok.cells)) (hn : L.length ≤ 10000) (hs : TkSmall L) (hto : ToksOk L) (hK : K.length ≤ 90000) (hns : ns.length ≤ 90000) (hlf : ¬ (i < L.length ∧ leafT (tkAt L i) = true)) :
    Fun Tryz.prog 195 [.pointer (some ⟨b, 0, none⟩)] I [rdB b vall i vs vi vl vo va, skR vs K, ndR va ns]
    (fun v I' B' => I = I' ∧ v = .bool false ∧ B' = [rdB b vall i vs vi vl vo va, skR vs K, ndR va ns]) :=
  fun_mono (rdAtom_any b i vall vs vi vl vo va ns K L hM hL hn hs hto hK hns) fun v I' B' h => by
    rcases h with ⟨h1, h2, h3, h4⟩ | ⟨h1, h2, h3, _⟩
    · exact ⟨h2, h1, h3⟩
    · exact absurd ⟨h2, h3⟩ hlf
structure Rd (L : List Tok) (I : Hp) (i' : Nat) (ns' : List NodeV) (Kv : List Value) (K' : List Fr) : Prop where
  kv : Kv = stk K' ++ [odI (lastN ns')]
  fr : FrOk K'
  ok : ∀ o ∈ ns', o.ok I
  pos : 1 ≤ ns'.length
  few : ns'.length + K'.length ≤ i'
theorem run_minus {L : List Tok} {K : List Fr} {all : List NodeC} {i : Nat} {o : POut} (h : RunE K all (L.drop i) o) (hm : hdT (L.drop i) 2 minusS = true) : RunE (.neg :: K) all (L.drop (i + 1)) o := by
  have hi := hdT_lt hm
  rw [drop_cons hi] at h hm
  exact h.minus hm
theorem run_lpar {L : List Tok} {K : List Fr} {all : List NodeC} {i : Nat} {o : POut} (h : RunE K all (L.drop i) o) (hm : hdT (L.drop i) 2 lpar = true) : RunE (.br :: K) all (L.drop (i + 1)) o := by
  have hi := hdT_lt hm
  rw [drop_cons hi] at h hm
  exact h.bracket hm
theorem run_leaf {L : List Tok} {K : List Fr} {all : List NodeC} {i : Nat} {o : POut} (h : RunE K all (L.drop i) o) (h0 : hdT (L.drop i) 2 minusS = false) (h1 : hdT (L.drop i) 2 lpar = false) (hlt : i < L.length) (hl : leafT (tkAt L i) = true) : RunA K (all ++ [leafN (tkAt L i)]) (L.drop (i + 1)) o := by
  rw [drop_cons hlt] at h h0 h1
  have := h.leaf h0 h1
  rwa [if_pos hl] at this
theorem run_noleaf {L : List Tok} {K : List Fr} {all : List NodeC} {i : Nat} {o : POut} (h : RunE K all (L.drop i) o) (h0 : hdT (L.drop i) 2 minusS = false) (h1 : hdT (L.drop i) 2 lpar = false) (hl : ¬ (i < L.length ∧ leafT (tkAt L i) = true)) : o = .bad (L.drop i) := by
  by_cases hlt : i < L.length
  · rw [drop_cons hlt] at h h0 h1 ⊢
    have := h.leaf h0 h1
    rwa [if_neg (fun e => hl ⟨hlt, e⟩)] at this
  · rw [List.drop_eq_nil_of_le (by omega)] at h ⊢
    exact h.nil
theorem rdOpen_any (b i : Nat) (vall vs vi vl vo va : Value) (ns : List NodeV) (K : List Fr) (L : List Tok) {I : Hp} (hM : Mx I) (hL : Slc I 4 vall (L.map Tok.cells)) (hn : L.length ≤ 10000) (hs : TkSmall L) (hto : ToksOk L) (hK : FrOk K) (hok : ∀ o ∈ ns, o.ok I) (hb : ns.length + K.length ≤ i) (hi : i ≤ L.length) {o : POut} (h : RunE K (ns.map NodeV.c) (L.drop i) o) :
    Fun Tryz.prog 169 [.pointer (some ⟨b, 0, none⟩)] I [rdB b vall i vs vi vl vo va, skR vs (stk K), ndR va ns]
    (fun v I' B' => ∃ ok i' vs' va' ns' Kv, v = .bool ok ∧ B' = [rdB b vall i' vs' vi vl vo va', skR vs' Kv, ndR va' ns'] ∧ i' ≤ L.length ∧ (ok = false → o = .bad (L.drop i')) ∧ (ok = true → ∃ K', Rd L I' i' ns' Kv K' ∧ RunA K' (ns'.map NodeV.c) (L.drop i') o ∧ i < i')) := by
  intro w hw
  refine enter1 _ Tryz.func169 rfl Tryz.ntmps169 rfl ?_ hw;refine sR ?_;refine oV ?_;refine oN (tC (cB ?_));refine c_loop (ι := Nat × List Fr × Value) [0] (.cons rfl .nil) (fun x => L.length - x.1) (fun x E0 => E0) (fun x => St w (keysOf [rdB b vall i vs vi vl vo va, skR vs (stk K), ndR va ns]) I [rdB b vall x.1 x.2.2 vi vl vo va, skR x.2.2 (stk x.2.1), ndR va ns]) (fun x => x.1 ≤ L.length ∧ FrOk x.2.1 ∧ ns.length + x.2.1.length ≤ x.1 ∧ RunE x.2.1 (ns.map NodeV.c) (L.drop x.1) o ∧ i ≤ x.1) ((i, K, vs)) (sC rfl sN) (fun _ h => h) (⟨hi, hK, hb, h, Nat.le_refl _⟩) ?_;rintro ⟨j, K1, us⟩ ⟨hj, hK1, hb1, hr, hij⟩
  try dsimp only
  simp only at hj hK1 hb1 hr hij; have hst := stk_len K1
  refine cB (cB (sR ?_));refine oV ?_;refine oC trivial rfl Tryz.call140 rfl (rdMark_any b j vall us vi vl vo va minusS L hL (by omega)) (by repeat constructor) ?_;rintro _ _ _ hx1 ⟨rfl, rfl, rfl⟩;refine oV ?_;refine nT ?_;refine cC rfl (fun h1 => ?_) (fun h1 => ?_)
  ·
   have f1 := h1;try simp only [bl] at f1
   have hm : hdT (L.drop j) 2 minusS = true := h1
   rw [adv_true hm]
   have hlt := hdT_lt hm
   refine cR ?_;refine oV ?_;refine o_buildS trivial rfl (bld204) rfl (.cons rfl rfl rfl (by repeat constructor) (.cons rfl rfl rfl (by repeat constructor) .nil)) ?_;refine o_ifaceS trivial rfl rfl (fun w => by kernel_rfl) ?_;refine oC trivial rfl Tryz.call173 rfl (push_any b (j + 1) vall us vi vl vo va (opV 6 3 false) 204 (stk K1) (by omega)) (by repeat constructor) ?_;rintro _ _ _ hx2 ⟨rfl, rfl, us2, rfl⟩;refine oN (blk_n (blk_n ?_))
   (exact again (j + 1, .neg :: K1, us2) (sC rfl sN) (fun _ h => h.sort (by repeat constructor)) (by show L.length - (j + 1) < L.length - j; omega) ⟨by show j + 1 ≤ _; omega, hK1, by show ns.length + (K1.length + 1) ≤ j + 1; omega, run_minus hr hm, by show i ≤ j + 1; omega⟩)
  have f1 := h1;try simp only [bl] at f1
  have hm : hdT (L.drop j) 2 minusS = false := h1
  rw [adv_false hm]
  refine sR ?_;refine oV ?_;refine oC trivial rfl Tryz.call140 rfl (rdMark_any b j vall us vi vl vo va lpar L hL (by omega)) (by repeat constructor) ?_;rintro _ _ _ hx1 ⟨rfl, rfl, rfl⟩;refine oV ?_;refine nT ?_;refine cC rfl (fun h2 => ?_) (fun h2 => ?_)
  ·
   have f2 := h2;try simp only [bl] at f2
   have hq : hdT (L.drop j) 2 lpar = true := h2
   rw [adv_true hq]
   have hlt := hdT_lt hq
   refine cR ?_;refine oV ?_;refine o_buildS trivial rfl (bld204) rfl (.cons rfl rfl rfl (by repeat constructor) .nil) ?_;refine o_ifaceS trivial rfl rfl (fun w => by kernel_rfl) ?_;refine oC trivial rfl Tryz.call173 rfl (push_any b (j + 1) vall us vi vl vo va (opV 0 0 true) 204 (stk K1) (by omega)) (by repeat constructor) ?_;rintro _ _ _ hx2 ⟨rfl, rfl, us2, rfl⟩;refine oN (blk_n (blk_n ?_))
   (exact again (j + 1, .br :: K1, us2) (sC rfl sN) (fun _ h => h.sort (by repeat constructor)) (by show L.length - (j + 1) < L.length - j; omega) ⟨by show j + 1 ≤ _; omega, hK1, by show ns.length + (K1.length + 1) ≤ j + 1; omega, run_lpar hr hq, by show i ≤ j + 1; omega⟩)
  have f2 := h2;try simp only [bl] at f2
  have hq : hdT (L.drop j) 2 lpar = false := h2
  rw [adv_false hq]
  refine cS ?_
  by_cases hlf : j < L.length ∧ leafT (tkAt L j) = true
  ·
   refine cR ?_;refine oV ?_;refine oC trivial rfl Tryz.call195 rfl (rdAtom_yes b j vall us vi vl vo va ns (stk K1) L hM hL hn hs hto (by omega) (by omega) hlf.1 hlf.2) (by repeat constructor) ?_;rintro _ I3 _ hx3 ⟨rfl, us3, va3, c3, hc3, hcc, rfl⟩;refine oV ?_;refine oN (tC (cT (blk_r (blk_r (tR (blk_r ?_))))));refine ret1 rfl rfl ?_;refine fun w' hw' => ⟨I3, _, hw'.sort (by repeat constructor), hx3, true, j + 1, us3, va3, ns ++ [c3], _, rfl, rfl, hlf.1, fun h => (by cases h), fun _ => ⟨K1, ⟨by rw [lastN_more], hK1, ?_, by simp, by rw [List.length_append]; show ns.length + 1 + K1.length ≤ j + 1; omega⟩, ?_, by omega⟩⟩
   · intro o ho
     rcases List.mem_append.1 ho with ho | ho
     · exact (hok o ho).le hx3.le
     · rw [List.mem_singleton.1 ho]; exact hc3
   · rw [List.map_append]
     show RunA K1 (ns.map NodeV.c ++ [c3.c]) _ _
     rw [hcc]
     exact run_leaf hr hm hq hlf.1 hlf.2
  refine cR ?_;refine oV ?_;refine oC trivial rfl Tryz.call195 rfl (rdAtom_no b j vall us vi vl vo va ns (stk K1) L hM hL hn hs hto (by omega) (by omega) hlf) (by repeat constructor) ?_;rintro _ _ _ hx3 ⟨rfl, rfl, rfl⟩;refine oV ?_;refine oN (tC (cT (blk_r (blk_r (tR (blk_r ?_))))));refine ret1 rfl rfl ?_;exact fun w' hw' => ⟨I, [rdB b vall j us vi vl vo va, skR us (stk K1), ndR va ns], hw'.sort (by repeat constructor), Ext.refl _ _, false, j, us, va, ns, _, rfl, rfl, hj, fun _ => run_noleaf hr hm hq hlf, fun h => by cases h⟩
theorem run_nocaret {L : List Tok} {K : List Fr} {all : List NodeC} {i : Nat} {o : POut} (h : RunA K all (L.drop i) o) (hm : hdT (L.drop i) 2 caret = false) : RunM K true all (L.drop i) o := h.none hm
theorem run_caret {L : List Tok} {K : List Fr} {all : List NodeC} {i : Nat} {o : POut} {e : Option Int} {r1 : List Tok} (h : RunA K all (L.drop i) o) (hm : hdT (L.drop i) 2 caret = true) (he : Expo (L.drop (i + 1)) e r1) : match e with
    | some e => RunM K true (all ++ [powN (lastI all) e]) r1 o
    | none => o = .bad r1 := by
  have hi := hdT_lt hm
  rw [drop_cons hi] at h hm
  cases e <;> exact h.caret hm he
theorem run_shut {L : List Tok} {K : List Fr} {all : List NodeC} {i : Nat} {o : POut} (hK : FrOk K) (h : RunM K true all (L.drop i) o) (hm : hdT (L.drop i) 2 rpar = true) : match (foldK 0 K all).1 with
    | .br :: K' => RunA K' (foldK 0 K all).2 (L.drop (i + 1)) o
    | _ => o = .bad (L.drop i) := by
  have hi := hdT_lt hm
  rw [drop_cons hi] at h hm ⊢
  exact h.shut hK hm
theorem frOk_br {K : List Fr} (h : FrOk (.br :: K)) : FrOk K := h
theorem rdShut_any (b i : Nat) (vall vs vi vl vo va : Value) (ns : List NodeV) (K : List Fr) (L : List Tok) {I : Hp} (hE : Errs I) (hL : Slc I 4 vall (L.map Tok.cells)) (hn : L.length ≤ 10000) (hs : TkSmall L) (hto : ToksOk L) (hK : FrOk K) (hok : ∀ o ∈ ns, o.ok I) (h1 : 1 ≤ ns.length) (hb : ns.length + K.length ≤ i) (hi : i ≤ L.length) {o : POut} (h : RunA K (ns.map NodeV.c) (L.drop i) o) :
    Fun Tryz.prog 170 [.pointer (some ⟨b, 0, none⟩)] I [rdB b vall i vs vi vl vo va, skR vs (stk K ++ [odI (lastN ns)]), ndR va ns]
    (fun v I' B' => I = I' ∧ ∃ ok i' vs' va' ns' Kv, v = .bool ok ∧ B' = [rdB b vall i' vs' vi vl vo va', skR vs' Kv, ndR va' ns'] ∧ i' ≤ L.length ∧ (ok = false → o = .bad (L.drop i')) ∧ (ok = true → ∃ K', Rd L I i' ns' Kv K' ∧ RunM K' true (ns'.map NodeV.c) (L.drop i') o ∧ hdT (L.drop i') 2 rpar = false ∧ i ≤ i')) := by
  intro w hw
  refine enter1 _ Tryz.func170 rfl Tryz.ntmps170 rfl ?_ hw;refine sR ?_;refine oV ?_;refine oN (tC (cB ?_));refine c_loop (ι := Nat × List Fr × List NodeV × Value × Value) [0] (.cons rfl .nil) (fun x => L.length - x.1) (fun x E0 => E0) (fun x => St w (keysOf [rdB b vall i vs vi vl vo va, skR vs (stk K ++ [odI (lastN ns)]), ndR va ns]) I [rdB b vall x.1 x.2.2.2.1 vi vl vo x.2.2.2.2, skR x.2.2.2.1 (stk x.2.1 ++ [odI (lastN x.2.2.1)]), ndR x.2.2.2.2 x.2.2.1]) (fun x => x.1 ≤ L.length ∧ FrOk x.2.1 ∧ (∀ o ∈ x.2.2.1, o.ok I) ∧ 1 ≤ x.2.2.1.length ∧ x.2.2.1.length + x.2.1.length ≤ x.1 ∧ RunA x.2.1 (x.2.2.1.map NodeV.c) (L.drop x.1) o ∧ i ≤ x.1) ((i, K, ns, vs, va)) (sC rfl sN) (fun _ h => h) (⟨hi, hK, hok, h1, hb, h, Nat.le_refl _⟩) ?_;rintro ⟨j, K1, n0, us, ua⟩ ⟨hj, hK1, hok0, hn0, hb0, hr, hij⟩
  try dsimp only
  simp only at hj hK1 hok0 hn0 hb0 hr hij; have hst := stk_len K1
  refine cB (cS (sR ?_));refine oV ?_;refine oC trivial rfl Tryz.call140 rfl (rdMark_any b j vall us vi vl vo ua caret L hL (by omega)) (by repeat constructor) ?_;rintro _ _ _ hx1 ⟨rfl, rfl, rfl⟩;refine o_fork trivial rfl rfl (fun hb10 => ?_) (fun hb10 => ?_)
  ·
   have fb10 := hb10
   try simp only [bl] at fb10
   have hm : hdT (L.drop j) 2 caret = true := hb10
   rw [adv_true hm]
   have hlt := hdT_lt hm
   obtain ⟨e, r1, he⟩ := Expo.some_out (L.drop (j + 1))
   have hce := run_caret hr hm he
   refine o_pv (wS rfl rfl rfl) rfl rfl ?_;refine oC (wS rfl rfl rfl) rfl Tryz.call196 rfl (rdExpo_u b (j + 1) vall us vi vl vo ua (lastN n0) n0 (stk K1) L hE hL hn hs hto (by omega) (by omega) (by omega) he) (by repeat constructor) ?_;rintro _ _ _ hx2 ⟨rfl, ok, j1, us1, ua1, n1, Kv, rfl, rfl, hj1, hno, hyes⟩;refine o_pv (wS rfl rfl rfl) rfl rfl ?_;refine oV ?_;refine nT ?_;refine cC rfl (fun h1 => ?_) (fun h1 => ?_)
   ·
    have f1 := h1;try simp only [bl] at f1
    have hk : ok = false := by simpa using f1
    obtain ⟨rfl, rfl⟩ := hno hk
    refine sR ?_;refine oV ?_;refine oN (tC (cT (tR (blk_r (tR (blk_r ?_))))));refine ret1 rfl rfl ?_;exact fun w' hw' => ⟨I, _, hw'.sort (by repeat constructor), Ext.refl _ _, rfl, false, j1, us1, ua1, n1, Kv, rfl, rfl, hj1, fun _ => hce, fun h => by cases h⟩
   have f1 := h1;try simp only [bl] at f1
   have hk : ok = true := by simpa using f1
   obtain ⟨z, c, rfl, rfl, hlt1, hc1, hc2, rfl, rfl⟩ := hyes hk
   have hok1 : ∀ o ∈ n0 ++ [c], o.ok I := fun o ho => by
     rcases List.mem_append.1 ho with ho | ho
     · exact hok0 o ho
     · rw [List.mem_singleton.1 ho]; exact hc1
   have hM : RunM K1 true ((n0 ++ [c]).map NodeV.c) (L.drop j1) o := by rw [List.map_append]; show RunM K1 true (n0.map NodeV.c ++ [c.c]) _ _; rw [hc2, lastN_eq]; exact hce
   have hln : (n0 ++ [c]).length = n0.length + 1 := by simp
   rw [← lastN_more n0 c]
   have hij1 : i ≤ j1 := by omega
   have hb1 : (n0 ++ [c]).length + K1.length ≤ j1 := by omega
   have hn1 : 1 ≤ (n0 ++ [c]).length := by omega
   have hjj : j ≤ j1 := by omega
   generalize n0 ++ [c] = n1 at hok1 hM hb1 hn1 ⊢
   refine kS ?_;refine oV ?_;refine oC trivial rfl Tryz.call172 rfl (fold_any b j1 vall us1 vi vl vo ua1 3 n1 K1 hK1 hok1 (by omega) hn1) (by repeat constructor) ?_;rintro _ _ _ hx3 ⟨rfl, rfl, us2, ua2, n2, rfl, hc2, hok2, hn2, hb2⟩;refine oN (tC (cS ?_))
   have hM2 := RunM.fold (b := 3) (.inl rfl) hK1 hM
   have hK2 := foldK_ok (b := 3) (all := n1.map NodeV.c) hK1
   rw [← hc2] at hM2
   generalize (foldK 3 K1 (n1.map NodeV.c)).1 = K2 at hM2 hK2 hb2 ⊢
   refine cR ?_;refine oV ?_;refine oC trivial rfl Tryz.call59 rfl (rdNext_any b j1 vall us2 vi vl vo ua2 L hL) (by repeat constructor) ?_;rintro _ _ _ hx4 ⟨rfl, rfl, rfl⟩;iterate 3 refine oV ?_
   refine o_alloc trivial rfl Tryz.zeroValue103 rfl (fun b3 => ?_);refine oS Tryz.sizeOf103 ?_;refine oV ?_;refine nU ?_;refine oF 0 Tryz.underlying103 Tryz.sizeOf3 ?_;refine oL Tryz.isAgg3 ?_;refine oV ?_;refine' o_or trivial trivial rfl rfl rfl rfl rfl rfl rfl rfl (fun hb25 => ?_) ?_;rotate_left
   ·
    have fb25 := hb25
    try simp only [bl] at fb25
    refine gF hb25 1 Tryz.underlying103 Tryz.sizeOf9 ?_;refine gL hb25 Tryz.isAgg9 ?_;refine gV hb25 ?_;refine oN ?_;exact joins rfl
   refine nT ?_;refine cC rfl (fun h2 => ?_) (fun h2 => ?_)
   ·
    have f2 := h2;try simp only [bl] at f2
    have hp : hdT (L.drop j1) 2 rpar = false := by
      rw [hdT_at]
      unfold isT
      rw [Bool.and_eq_false_iff]
      right
      exact or2_t h2
    refine sR ?_;refine oV ?_;refine oN (tC (cT (tR (blk_r (tR (blk_r ?_))))));refine ret1 rfl rfl ?_;exact fun w' hw' => ⟨I, [rdB b vall j1 us2 vi vl vo ua2, skR us2 (stk K2 ++ [odI (lastN n2)]), ndR ua2 n2], hw'.sort (by repeat constructor), Ext.refl _ _, rfl, true, j1, us2, ua2, n2, _, rfl, rfl, hj1, fun h => (by cases h), fun _ => ⟨K2, ⟨rfl, hK2, hok2, hn2, by omega⟩, hM2, hp, hij1⟩⟩
   have f2 := h2;try simp only [bl] at f2
   have hp0 : isT (tkAt L j1) 2 rpar = true := or2_f h2
   have hlt1 : j1 < L.length := by
     rcases Nat.lt_or_ge j1 L.length with hh | hh
     · exact hh
     · rw [tkAt_out hh] at hp0
       exact absurd hp0 (by decide)
   have hp : hdT (L.drop j1) 2 rpar = true := by rw [hdT_at, decide_eq_true hlt1, hp0]; rfl
   have hsh := run_shut hK2 hM2 hp
   refine kS ?_;refine oV ?_;refine oC trivial rfl Tryz.call172 rfl (fold_any b j1 vall us2 vi vl vo ua2 0 n2 K2 hK2 hok2 (by omega) hn2) (by repeat constructor) ?_;rintro _ _ _ hx5 ⟨rfl, rfl, us3, ua3, n3, rfl, hc3, hok3, hn3, hb3⟩;refine oN (tC (cS (cS ?_)))
   have hK3 := foldK_ok (b := 0) (all := n2.map NodeV.c) hK2
   rw [← hc3] at hsh
   generalize (foldK 0 K2 (n2.map NodeV.c)).1 = K3 at hsh hK3 hb3 ⊢
   rcases K3 with _ | ⟨f, K4⟩
   ·
    refine cR ?_;refine oV ?_;refine oC trivial rfl Tryz.call197 rfl (top_low b j1 vall us3 vi vl vo ua3 (stk [] ++ [odI (lastN n3)]) (Nat.le_refl 1)) (by repeat constructor) ?_;rintro _ _ _ hx6 ⟨rfl, rfl, rfl⟩;iterate 3 refine oV ?_
    refine o_alloc trivial rfl Tryz.zeroValue204 rfl (fun b5 => ?_);refine oS Tryz.sizeOf204 ?_;refine oV ?_;refine nS ?_;iterate 2 refine oV ?_
    refine' o_or trivial trivial rfl rfl rfl rfl rfl rfl rfl rfl (fun hb39 => ?_) ?_;rotate_left
    ·
     have fb39 := hb39
     try simp only [bl] at fb39
     refine gF hb39 2 Tryz.underlying204 Tryz.sizeOf4 ?_;refine gL hb39 Tryz.isAgg4 ?_;refine gV hb39 ?_;refine oN ?_;exact joins rfl
    refine nT ?_;refine c_cond_t rfl (by rfl) ?_;refine sR ?_;refine oV ?_;refine oN (tC (cT (tR (blk_r (tR (blk_r ?_))))));refine ret1 rfl rfl ?_;exact fun w' hw' => ⟨I, [rdB b vall j1 us3 vi vl vo ua3, skR us3 (stk [] ++ [odI (lastN n3)]), ndR ua3 n3], hw'.sort (by repeat constructor), Ext.refl _ _, rfl, false, j1, us3, ua3, n3, _, rfl, rfl, hj1, fun _ => hsh, fun h => by cases h⟩
   rw [stk_top]
   have hst4 := stk_len K4
   have hpf := preF_len f
   simp only [List.length_cons] at hb3
   have hsl : (stk K4 ++ preF f).length ≤ 80000 := by rw [List.length_append]; omega
   have hsl2 : (stk K4 ++ preF f ++ [opI (opK f) (opP f) (opB f)]).length ≤ 80001 := by rw [List.length_append]; exact Nat.succ_le_succ hsl
   refine cR ?_;refine oV ?_;refine oC trivial rfl Tryz.call197 rfl (top_op b j1 vall us3 vi vl vo ua3 (odI (lastN n3)) (opK f) (opP f) (opB f) (stk K4 ++ preF f) (by omega)) (by repeat constructor) ?_;rintro _ _ _ hx6 ⟨rfl, rfl, rfl⟩;iterate 3 refine oV ?_
   refine o_alloc trivial rfl Tryz.zeroValue204 rfl (fun b5 => ?_);refine oS Tryz.sizeOf204 ?_;refine oV ?_;refine nS ?_;iterate 2 refine oV ?_
   refine' o_or trivial trivial rfl rfl rfl rfl rfl rfl rfl rfl (fun hb39 => ?_) ?_;rotate_left
   ·
    have fb39 := hb39
    try simp only [bl] at fb39
    refine gF hb39 2 Tryz.underlying204 Tryz.sizeOf4 ?_;refine gL hb39 Tryz.isAgg4 ?_;refine gV hb39 ?_;refine oN ?_;exact joins rfl
   refine nT ?_;refine cC rfl (fun h3 => ?_) (fun h3 => ?_)
   ·
    have f3 := h3;try simp only [bl] at f3
    have hbr : opB f = false := by simpa [bl] using h3
    have hfin : o = .bad (L.drop j1) := by
      cases f with
      | br => cases hbr
      | neg => exact hsh
      | bin k a => exact hsh
    refine sR ?_;refine oV ?_;refine oN (tC (cT (tR (blk_r (tR (blk_r ?_))))));refine ret1 rfl rfl ?_;exact fun w' hw' => ⟨I, [rdB b vall j1 us3 vi vl vo ua3, skR us3 (stk K4 ++ preF f ++ [opI (opK f) (opP f) (opB f)] ++ [odI (lastN n3)]), ndR ua3 n3], hw'.sort (by repeat constructor), Ext.refl _ _, rfl, false, j1, us3, ua3, n3, _, rfl, rfl, hj1, fun _ => hfin, fun h => by cases h⟩
   have f3 := h3;try simp only [bl] at f3
   have hbr : opB f = true := by simpa [bl] using h3
   have hfb : f = .br := by
     cases f with
     | br => rfl
     | neg => cases hbr
     | bin k a => cases hbr
   subst hfb
   refine kS ?_;iterate 2 refine oV ?_
   refine oF 1 Tryz.underlying101 Tryz.sizeOf3 ?_;refine oL Tryz.isAgg3 ?_
   (refine o_add trivial rfl rfl rfl ?_ ?_; (omega))
   refine oV ?_;refine oF 1 Tryz.underlying101 Tryz.sizeOf3 ?_;refine oS Tryz.sizeOf3 ?_;refine nS ?_;refine oV ?_;refine oC trivial rfl Tryz.call198 rfl (pop_any b (j1 + 1) vall us3 vi vl vo ua3 (odI (lastN n3)) (stk K4 ++ preF .br ++ [opI (opK .br) (opP .br) (opB .br)]) (by omega)) (by repeat constructor) ?_;rintro _ _ _ hx7 ⟨rfl, rfl, us4, rfl⟩;refine oV ?_;refine nS ?_;refine oV ?_;refine oC trivial rfl Tryz.call198 rfl (pop_any b (j1 + 1) vall us4 vi vl vo ua3 (opI (opK .br) (opP .br) (opB .br)) (stk K4 ++ preF .br) (by omega)) (by repeat constructor) ?_;rintro _ _ _ hx8 ⟨rfl, rfl, us5, rfl⟩;refine nR ?_;iterate 2 refine oV ?_
   refine oC trivial rfl Tryz.call173 rfl (push_any b (j1 + 1) vall us5 vi vl vo ua3 (.int .i64 (lastN n3)) 245 (stk K4 ++ preF .br) (by omega)) (by repeat constructor) ?_;rintro _ _ _ hx9 ⟨rfl, rfl, us6, rfl⟩;refine oN (blk_n ?_);exact again (j1 + 1, K4, n3, us6, ua3) (sC rfl sN) (fun _ h => by simp only [preF, List.append_nil] at h; exact h.sort (by repeat constructor)) (by (show L.length - (j1 + 1) < L.length - j; omega)) ⟨by show j1 + 1 ≤ _; omega, frOk_br hK3, hok3, hn3, by show n3.length + K4.length ≤ j1 + 1; omega, hsh, by show i ≤ j1 + 1; omega⟩
  have fb10 := hb10
  try simp only [bl] at fb10
  have hm : hdT (L.drop j) 2 caret = false := hb10
  rw [adv_false hm]
  have hM : RunM K1 true (n0.map NodeV.c) (L.drop j) o := run_nocaret hr hm
  obtain ⟨j1, rfl⟩ : ∃ j1, j1 = j := ⟨j, rfl⟩
  obtain ⟨us1, rfl⟩ : ∃ us1, us1 = us := ⟨us, rfl⟩
  obtain ⟨ua1, rfl⟩ : ∃ ua1, ua1 = ua := ⟨ua, rfl⟩
  obtain ⟨n1, rfl⟩ : ∃ n1, n1 = n0 := ⟨n0, rfl⟩
  have hok1 := hok0
  have hb1 := hb0
  have hn1 := hn0
  have hj1 := hj
  have hij1 : i ≤ j1 := hij
  iterate 3 refine o_skip (skips_some rfl rfl rfl) rfl ?_
  refine oV ?_;refine nT ?_;refine c_cond_f rfl rfl ?_;refine kS ?_;refine oV ?_;refine oC trivial rfl Tryz.call172 rfl (fold_any b j1 vall us1 vi vl vo ua1 3 n1 K1 hK1 hok1 (by omega) hn1) (by repeat constructor) ?_;rintro _ _ _ hx3 ⟨rfl, rfl, us2, ua2, n2, rfl, hc2, hok2, hn2, hb2⟩;refine oN (tC (cS ?_))
  have hM2 := RunM.fold (b := 3) (.inl rfl) hK1 hM
  have hK2 := foldK_ok (b := 3) (all := n1.map NodeV.c) hK1
  rw [← hc2] at hM2
  generalize (foldK 3 K1 (n1.map NodeV.c)).1 = K2 at hM2 hK2 hb2 ⊢
  refine cR ?_;refine oV ?_;refine oC trivial rfl Tryz.call59 rfl (rdNext_any b j1 vall us2 vi vl vo ua2 L hL) (by repeat constructor) ?_;rintro _ _ _ hx4 ⟨rfl, rfl, rfl⟩;iterate 3 refine oV ?_
  refine o_alloc trivial rfl Tryz.zeroValue103 rfl (fun b3 => ?_);refine oS Tryz.sizeOf103 ?_;refine oV ?_;refine nU ?_;refine oF 0 Tryz.underlying103 Tryz.sizeOf3 ?_;refine oL Tryz.isAgg3 ?_;refine oV ?_;refine' o_or trivial trivial rfl rfl rfl rfl rfl rfl rfl rfl (fun hb25 => ?_) ?_;rotate_left
  ·
   have fb25 := hb25
   try simp only [bl] at fb25
   refine gF hb25 1 Tryz.underlying103 Tryz.sizeOf9 ?_;refine gL hb25 Tryz.isAgg9 ?_;refine gV hb25 ?_;refine oN ?_;exact joins rfl
  refine nT ?_;refine cC rfl (fun h2 => ?_) (fun h2 => ?_)
  ·
   have f2 := h2;try simp only [bl] at f2
   have hp : hdT (L.drop j1) 2 rpar = false := by
     rw [hdT_at]
     unfold isT
     rw [Bool.and_eq_false_iff]
     right
     exact or2_t h2
   refine sR ?_;refine oV ?_;refine oN (tC (cT (tR (blk_r (tR (blk_r ?_))))));refine ret1 rfl rfl ?_;exact fun w' hw' => ⟨I, [rdB b vall j1 us2 vi vl vo ua2, skR us2 (stk K2 ++ [odI (lastN n2)]), ndR ua2 n2], hw'.sort (by repeat constructor), Ext.refl _ _, rfl, true, j1, us2, ua2, n2, _, rfl, rfl, hj1, fun h => (by cases h), fun _ => ⟨K2, ⟨rfl, hK2, hok2, hn2, by omega⟩, hM2, hp, hij1⟩⟩
  have f2 := h2;try simp only [bl] at f2
  have hp0 : isT (tkAt L j1) 2 rpar = true := or2_f h2
  have hlt1 : j1 < L.length := by
    rcases Nat.lt_or_ge j1 L.length with hh | hh
    · exact hh
    · rw [tkAt_out hh] at hp0
      exact absurd hp0 (by decide)
  have hp : hdT (L.drop j1) 2 rpar = true := by rw [hdT_at, decide_eq_true hlt1, hp0]; rfl
  have hsh := run_shut hK2 hM2 hp
  refine kS ?_;refine oV ?_;refine oC trivial rfl Tryz.call172 rfl (fold_any b j1 vall us2 vi vl vo ua2 0 n2 K2 hK2 hok2 (by omega) hn2) (by repeat constructor) ?_;rintro _ _ _ hx5 ⟨rfl, rfl, us3, ua3, n3, rfl, hc3, hok3, hn3, hb3⟩;refine oN (tC (cS (cS ?_)))
  have hK3 := foldK_ok (b := 0) (all := n2.map NodeV.c) hK2
  rw [← hc3] at hsh
  generalize (foldK 0 K2 (n2.map NodeV.c)).1 = K3 at hsh hK3 hb3 ⊢
  rcases K3 with _ | ⟨f, K4⟩
  ·
   refine cR ?_;refine oV ?_;refine oC trivial rfl Tryz.call197 rfl (top_low b j1 vall us3 vi vl vo ua3 (stk [] ++ [odI (lastN n3)]) (Nat.le_refl 1)) (by repeat constructor) ?_;rintro _ _ _ hx6 ⟨rfl, rfl, rfl⟩;iterate 3 refine oV ?_
   refine o_alloc trivial rfl Tryz.zeroValue204 rfl (fun b5 => ?_);refine oS Tryz.sizeOf204 ?_;refine oV ?_;refine nS ?_;iterate 2 refine oV ?_
   refine' o_or trivial trivial rfl rfl rfl rfl rfl rfl rfl rfl (fun hb39 => ?_) ?_;rotate_left
   ·
    have fb39 := hb39
    try simp only [bl] at fb39
    refine gF hb39 2 Tryz.underlying204 Tryz.sizeOf4 ?_;refine gL hb39 Tryz.isAgg4 ?_;refine gV hb39 ?_;refine oN ?_;exact joins rfl
   refine nT ?_;refine c_cond_t rfl (by rfl) ?_;refine sR ?_;refine oV ?_;refine oN (tC (cT (tR (blk_r (tR (blk_r ?_))))));refine ret1 rfl rfl ?_;exact fun w' hw' => ⟨I, [rdB b vall j1 us3 vi vl vo ua3, skR us3 (stk [] ++ [odI (lastN n3)]), ndR ua3 n3], hw'.sort (by repeat constructor), Ext.refl _ _, rfl, false, j1, us3, ua3, n3, _, rfl, rfl, hj1, fun _ => hsh, fun h => by cases h⟩
  rw [stk_top]
  have hst4 := stk_len K4
  have hpf := preF_len f
  simp only [List.length_cons] at hb3
  have hsl : (stk K4 ++ preF f).length ≤ 80000 := by rw [List.length_append]; omega
  have hsl2 : (stk K4 ++ preF f ++ [opI (opK f) (opP f) (opB f)]).length ≤ 80001 := by rw [List.length_append]; exact Nat.succ_le_succ hsl
  refine cR ?_;refine oV ?_;refine oC trivial rfl Tryz.call197 rfl (top_op b j1 vall us3 vi vl vo ua3 (odI (lastN n3)) (opK f) (opP f) (opB f) (stk K4 ++ preF f) (by omega)) (by repeat constructor) ?_;rintro _ _ _ hx6 ⟨rfl, rfl, rfl⟩;iterate 3 refine oV ?_
  refine o_alloc trivial rfl Tryz.zeroValue204 rfl (fun b5 => ?_);refine oS Tryz.sizeOf204 ?_;refine oV ?_;refine nS ?_;iterate 2 refine oV ?_
  refine' o_or trivial trivial rfl rfl rfl rfl rfl rfl rfl rfl (fun hb39 => ?_) ?_;rotate_left
  ·
   have fb39 := hb39
   try simp only [bl] at fb39
   refine gF hb39 2 Tryz.underlying204 Tryz.sizeOf4 ?_;refine gL hb39 Tryz.isAgg4 ?_;refine gV hb39 ?_;refine oN ?_;exact joins rfl
  refine nT ?_;refine cC rfl (fun h3 => ?_) (fun h3 => ?_)
  ·
   have f3 := h3;try simp only [bl] at f3
   have hbr : opB f = false := by simpa [bl] using h3
   have hfin : o = .bad (L.drop j1) := by
     cases f with
     | br => cases hbr
     | neg => exact hsh
     | bin k a => exact hsh
   refine sR ?_;refine oV ?_;refine oN (tC (cT (tR (blk_r (tR (blk_r ?_))))));refine ret1 rfl rfl ?_;exact fun w' hw' => ⟨I, [rdB b vall j1 us3 vi vl vo ua3, skR us3 (stk K4 ++ preF f ++ [opI (opK f) (opP f) (opB f)] ++ [odI (lastN n3)]), ndR ua3 n3], hw'.sort (by repeat constructor), Ext.refl _ _, rfl, false, j1, us3, ua3, n3, _, rfl, rfl, hj1, fun _ => hfin, fun h => by cases h⟩
  have f3 := h3;try simp only [bl] at f3
  have hbr : opB f = true := by simpa [bl] using h3
  have hfb : f = .br := by
    cases f with
    | br => rfl
    | neg => cases hbr
    | bin k a => cases hbr
  subst hfb
  refine kS ?_;iterate 2 refine oV ?_
  refine oF 1 Tryz.underlying101 Tryz.sizeOf3 ?_;refine oL Tryz.isAgg3 ?_
  (refine o_add trivial rfl rfl rfl ?_ ?_; (omega))
  refine oV ?_;refine oF 1 Tryz.underlying101 Tryz.sizeOf3 ?_;refine oS Tryz.sizeOf3 ?_;refine nS ?_;refine oV ?_;refine oC trivial rfl Tryz.call198 rfl (pop_any b (j1 + 1) vall us3 vi vl vo ua3 (odI (lastN n3)) (stk K4 ++ preF .br ++ [opI (opK .br) (opP .br) (opB .br)]) (by omega)) (by repeat constructor) ?_;rintro _ _ _ hx7 ⟨rfl, rfl, us4, rfl⟩;refine oV ?_;refine nS ?_;refine oV ?_;refine oC trivial rfl Tryz.call198 rfl (pop_any b (j1 + 1) vall us4 vi vl vo ua3 (opI (opK .br) (opP .br) (opB .br)) (stk K4 ++ preF .br) (by omega)) (by repeat constructor) ?_;rintro _ _ _ hx8 ⟨rfl, rfl, us5, rfl⟩;refine nR ?_;iterate 2 refine oV ?_
  refine oC trivial rfl Tryz.call173 rfl (push_any b (j1 + 1) vall us5 vi vl vo ua3 (.int .i64 (lastN n3)) 245 (stk K4 ++ preF .br) (by omega)) (by repeat constructor) ?_;rintro _ _ _ hx9 ⟨rfl, rfl, us6, rfl⟩;refine oN (blk_n ?_);exact again (j1 + 1, K4, n3, us6, ua3) (sC rfl sN) (fun _ h => by simp only [preF, List.append_nil] at h; exact h.sort (by repeat constructor)) (by (show L.length - (j1 + 1) < L.length - j1; omega)) ⟨by show j1 + 1 ≤ _; omega, frOk_br hK3, hok3, hn3, by show n3.length + K4.length ≤ j1 + 1; omega, hsh, by show i ≤ j1 + 1; omega⟩
def signK (s : ByteArray) : Int := if s.toList == plusS.toList then 2 else if s.toList == minusS.toList then 3 else if s.toList == starS.toList then 4 else if s.toList == slashS.toList then 5 else 0
theorem sign_none {x : Tok} (h : x.kind ≠ 2 ∨ signK x.text = 0) : mulK x = none ∧ addK x = none := by
  unfold mulK addK isT
  rcases h with h | h
  · have e : (x.kind == 2) = false := by simpa using h
    rw [e]
    exact ⟨rfl, rfl⟩
  · unfold signK at h
    split at h
    · omega
    · rename_i h1
      split at h
      · omega
      · rename_i h2
        split at h
        · omega
        · rename_i h3
          split at h
          · omega
          · rename_i h4
            rw [Bool.not_eq_true] at h1 h2 h3 h4
            rw [h1, h2, h3, h4, Bool.and_false]
            exact ⟨rfl, rfl⟩
theorem sign_some {x : Tok} (hk : x.kind = 2) (h : signK x.text ≠ 0) : (mulK x = some (signK x.text) ∧ bindK (signK x.text) = 2) ∨ (addK x = some (signK x.text) ∧ bindK (signK x.text) = 1) := by
  have e : (x.kind == 2) = true := by simpa using hk
  have hsk : ∀ {a b : ByteArray}, a.toList ≠ b.toList → (x.text.toList == a.toList) = true → (x.text.toList == b.toList) = false := fun {a b} hab h1 => by
    rw [beq_iff_eq] at h1
    rw [beq_eq_false_iff_ne, h1]
    exact hab
  have d1 : plusS.toList ≠ starS.toList := by rw [ByteArray.toList_eq, ByteArray.toList_eq]; decide
  have d2 : plusS.toList ≠ slashS.toList := by rw [ByteArray.toList_eq, ByteArray.toList_eq]; decide
  have d3 : minusS.toList ≠ starS.toList := by rw [ByteArray.toList_eq, ByteArray.toList_eq]; decide
  have d4 : minusS.toList ≠ slashS.toList := by rw [ByteArray.toList_eq, ByteArray.toList_eq]; decide
  unfold mulK addK isT
  rw [e]
  simp only [Bool.true_and]
  unfold signK at h ⊢
  by_cases h1 : (x.text.toList == plusS.toList) = true
  · right; rw [if_pos h1, if_pos h1]; exact ⟨rfl, by decide⟩
  · rw [if_neg h1] at h ⊢
    rw [if_neg h1]
    by_cases h2 : (x.text.toList == minusS.toList) = true
    · right; rw [if_pos h2, if_pos h2]; exact ⟨rfl, by decide⟩
    · rw [if_neg h2] at h ⊢
      by_cases h3 : (x.text.toList == starS.toList) = true
      · left; rw [if_pos h3, if_pos h3]; exact ⟨rfl, by decide⟩
      · rw [if_neg h3] at h ⊢
        rw [if_neg h3]
        by_cases h4 : (x.text.toList == slashS.toList) = true
        · left; rw [if_pos h4, if_pos h4]; exact ⟨rfl, by decide⟩
        · rw [if_neg h4] at h; exact absurd rfl h
theorem run_sign {L : List Tok} {K : List Fr} {all : List NodeC} {j : Nat} {o : POut} {k : Int} (hK : FrOk K) (h : RunM K true all (L.drop j) o) (hlt : j < L.length) (hkind : (tkAt L j).kind = 2) (hk : k = signK (tkAt L j).text) (h0 : k ≠ 0) :
    RunE (.bin k (lastI (foldK (bindK k) K all).2) :: (foldK (bindK k) K all).1) (foldK (bindK k) K all).2 (L.drop (j + 1)) o ∧ 2 ≤ k ∧ k ≤ 5 := by
  rw [drop_cons hlt] at h
  subst hk
  rcases sign_some hkind h0 with ⟨h1, h2⟩ | ⟨h1, h2⟩
  · rw [h2]; exact ⟨h.mul hK h1, mulK_le h1⟩
  · rw [h2]; exact ⟨h.add hK h1, addK_le h1⟩
theorem run_none {L : List Tok} {j : Nat} (h : ¬ (j < L.length ∧ (tkAt L j).kind = 2 ∧ signK (tkAt L j).text ≠ 0)) : hdK mulK (L.drop j) = none ∧ hdK addK (L.drop j) = none := by
  by_cases hlt : j < L.length
  · rw [drop_cons hlt]
    refine sign_none ?_
    by_cases hk : (tkAt L j).kind = 2
    · right
      by_cases hs : signK (tkAt L j).text = 0
      · exact hs
      · exact absurd ⟨hlt, hk, hs⟩ h
    · exact .inl hk
  · rw [List.drop_eq_nil_of_le (by omega)]
    exact ⟨rfl, rfl⟩
theorem stk_nil {K : List Fr} (h : (stk K).length = 0) : K = [] := by
  cases K with
  | nil => rfl
  | cons f K => cases f <;> simp [stk, encF] at h
theorem rdSum_any (b i : Nat) (vall vi vl vo va : Value) (ns : List NodeV) (L : List Tok) {I : Hp} (hM : Mx I) (hE : Errs I) (hL : Slc I 4 vall (L.map Tok.cells)) (hn : L.length ≤ 10000) (hs : TkSmall L) (hto : ToksOk L) (hok : ∀ o ∈ ns, o.ok I) (hb : ns.length ≤ i) (hi : i ≤ L.length) {o : POut} (h : RunE [] (ns.map NodeV.c) (L.drop i) o) :
    Fun Tryz.prog 141 [.pointer (some ⟨b, 0, none⟩)] I [rdB b vall i (.slice none 0 0) vi vl vo va, ndR va ns]
    (fun v I' B' => ∃ ok i' vs' va' ns', v = .bool ok ∧ B' = [rdB b vall i' vs' vi vl vo va', ndR va' ns'] ∧ i' ≤ L.length ∧ (ok = false → o = .bad (L.drop i')) ∧ (ok = true → o = .ok (ns'.map NodeV.c) (L.drop i') ∧ vs' = .slice none 0 0 ∧ (∀ o ∈ ns', o.ok I') ∧ ns'.length ≤ i' ∧ i < i')) := by
  intro w hw
  refine enter1 _ Tryz.func141 rfl Tryz.ntmps141 rfl ?_ hw;refine sR ?_;refine oV ?_;refine oN (tC (cS (cB ?_)));refine c_loop (ι := Nat × List Fr × List NodeV × Value × Value × Hp) [0] (.cons rfl .nil) (fun x => L.length - x.1) (fun x E0 => E0) (fun x => St w (keysOf [rdB b vall i (.slice none 0 0) vi vl vo va, ndR va ns]) x.2.2.2.2.2 [rdB b vall x.1 x.2.2.2.1 vi vl vo x.2.2.2.2.1, skR x.2.2.2.1 (stk x.2.1), ndR x.2.2.2.2.1 x.2.2.1]) (fun x => x.1 ≤ L.length ∧ FrOk x.2.1 ∧ (∀ o ∈ x.2.2.1, o.ok x.2.2.2.2.2) ∧ x.2.2.1.length + x.2.1.length ≤ x.1 ∧ RunE x.2.1 (x.2.2.1.map NodeV.c) (L.drop x.1) o ∧ Ext w.heap.size I x.2.2.2.2.2 ∧ i ≤ x.1) ((i, [], ns, .slice none 0 0, va, I)) (sC rfl sN) (fun _ h => (h.nilRow 20 1).sort (by repeat constructor)) (⟨hi, trivial, hok, hb, h, Ext.refl _ _, Nat.le_refl _⟩) ?_;rintro ⟨j, K1, n0, us, ua, I1⟩ ⟨hj, hK1, hok0, hb0, hr, hx1, hij⟩
  try dsimp only
  simp only at hj hK1 hok0 hb0 hr hx1 hij; have hst := stk_len K1
  refine cB (cS (sR ?_));refine oV ?_;refine oC trivial rfl Tryz.call169 rfl (rdOpen_any b j vall us vi vl vo ua n0 K1 L (hM.le hx1.le) (hL.le hx1.le) hn hs hto hK1 hok0 hb0 hj hr) (by repeat constructor) ?_;rintro _ I2 _ hx2 ⟨ok1, j1, us1, ua1, n1, Kv1, rfl, rfl, hj1, hno1, hyes1⟩;refine oV ?_;refine o_fork trivial rfl rfl (fun hb10 => ?_) (fun hb10 => ?_)
  ·
   have fb10 := hb10
   try simp only [bl] at fb10
   have hk1 : ok1 = false := by simpa using hb10
   iterate 3 refine o_skip (skips_some rfl rfl rfl) rfl ?_
   refine oV ?_;refine nT ?_;refine c_cond_t rfl rfl ?_;refine sR ?_;refine oV ?_;refine oN (tC (cT (tR (blk_r (tR (blk_r (tR ?_)))))));refine ret1 rfl rfl ?_;exact fun w' hw' => ⟨I2, [rdB b vall j1 us1 vi vl vo ua1, ndR ua1 n1], hw'.sort (by repeat constructor), hx1.trans hx2 (Nat.le_refl _), false, j1, _, ua1, n1, rfl, rfl, hj1, fun _ => hno1 hk1, fun h => by cases h⟩
  have fb10 := hb10
  try simp only [bl] at fb10
  have hk1 : ok1 = true := by simpa using hb10
  obtain ⟨K2, hRd, hA, hlt1⟩ := hyes1 hk1
  obtain rfl := hRd.kv
  refine o_pv (wS rfl rfl rfl) rfl rfl ?_;refine oC (wS rfl rfl rfl) rfl Tryz.call170 rfl (rdShut_any b j1 vall us1 vi vl vo ua1 n1 K2 L (hE.le (hx1.le.trans hx2.le)) (hL.le (hx1.le.trans hx2.le)) hn hs hto hRd.fr hRd.ok hRd.pos hRd.few hj1 hA) (by repeat constructor) ?_;rintro _ _ _ hx3 ⟨rfl, ok2, j2, us2, ua2, n2, Kv2, rfl, rfl, hj2, hno2, hyes2⟩;refine o_pv (wS rfl rfl rfl) rfl rfl ?_;refine oV ?_;refine nT ?_;refine cC rfl (fun h1 => ?_) (fun h1 => ?_)
  ·
   have f1 := h1;try simp only [bl] at f1
   have hk2 : ok2 = false := by simpa using f1
   refine sR ?_;refine oV ?_;refine oN (tC (cT (tR (blk_r (tR (blk_r (tR ?_)))))));refine ret1 rfl rfl ?_;exact fun w' hw' => ⟨I2, [rdB b vall j2 us2 vi vl vo ua2, ndR ua2 n2], hw'.sort (by repeat constructor), hx1.trans hx2 (Nat.le_refl _), false, j2, _, ua2, n2, rfl, rfl, hj2, fun _ => hno2 hk2, fun h => by cases h⟩
  have f1 := h1;try simp only [bl] at f1
  have hk2 : ok2 = true := by simpa using f1
  obtain ⟨K3, hRd3, hM3, hp3, hj12⟩ := hyes2 hk2
  obtain rfl := hRd3.kv
  have hf3 := hRd3.few
  have hp1 := hRd3.pos
  refine kS ?_;refine oV ?_;refine oC trivial rfl Tryz.call59 rfl (rdNext_any b j2 vall us2 vi vl vo ua2 L (hL.le (hx1.le.trans hx2.le))) (by repeat constructor) ?_;rintro _ _ _ hx4 ⟨rfl, rfl, rfl⟩;iterate 3 refine oV ?_
  refine o_alloc trivial rfl Tryz.zeroValue103 rfl (fun b3 => ?_);refine oS Tryz.sizeOf103 ?_;refine oV ?_;refine nS ?_;refine oF 1 Tryz.underlying103 Tryz.sizeOf9 ?_;refine oL Tryz.isAgg9 ?_;refine oI Tryz.call171 rfl (signs_any _) ?_;rintro _ _ hx5 ⟨rfl, k, rfl, hk⟩;iterate 3 refine oV ?_
  refine o_alloc trivial rfl Tryz.zeroValue204 rfl (fun b5 => ?_);refine oS Tryz.sizeOf204 ?_;refine oV ?_;refine nU ?_;iterate 2 refine oV ?_
  refine' o_or trivial trivial rfl rfl rfl rfl rfl rfl rfl rfl (fun hb28 => ?_) ?_;rotate_left
  ·
   have fb28 := hb28
   try simp only [bl] at fb28
   refine gF hb28 0 Tryz.underlying103 Tryz.sizeOf3 ?_;refine gL hb28 Tryz.isAgg3 ?_;refine gV hb28 ?_;refine oN ?_;exact joins rfl
  refine' o_or trivial trivial rfl rfl rfl rfl rfl rfl rfl rfl (fun hb33 => ?_) ?_;rotate_left
  ·
   have fb33 := hb33
   try simp only [bl] at fb33
   iterate 2 refine gV hb33 ?_
   refine oN ?_;exact joins rfl
  refine nT ?_;refine cC rfl (fun h2 => ?_) (fun h2 => ?_)
  ·
   have f2 := h2;try simp only [bl] at f2
   have hnm := run_none (L := L) (j := j2) (fun hh => by
     have h3 := or3_t h2
     rw [decide_eq_true hh.1, hh.2.1, decide_eq_true (show k ≠ 0 from by rw [hk]; exact hh.2.2)] at h3
     simp at h3)
   refine c_exit (then_x (blk_ne rfl (then_x (blk_eq rfl (tC (sR ?_))))));refine oV ?_;refine oC trivial rfl Tryz.call172 rfl (fold_any b j2 vall us2 vi vl vo ua2 0 n2 K3 hRd3.fr hRd3.ok (by omega) hp1) (by repeat constructor) ?_;rintro _ _ _ hx6 ⟨rfl, rfl, us3, ua3, n3, rfl, hc3, hok3, hn3, hb3⟩;refine oN (tC (cS (cS ?_)))
   have hfin := RunM.fin hRd3.fr hM3 hnm.1 hnm.2 hp3
   rw [← hc3] at hfin
   generalize (foldK 0 K3 (n2.map NodeV.c)).1 = K4 at hfin hb3 ⊢
   refine cR ?_;iterate 2 refine oV ?_
   refine oF 2 Tryz.underlying101 Tryz.sizeOf99 ?_;refine oL Tryz.isAgg99 ?_;refine o_lenRow trivial rfl Tryz.underlying99 rfl (by repeat constructor) ?_;refine oV ?_;refine o_fork trivial rfl rfl (fun hb60 => ?_) (fun hb60 => ?_)
   ·
    have fb60 := hb60
    try simp only [bl] at fb60
    have hlen : (stk K4 ++ [odI (lastN n3)]).length ≠ 1 := by
      intro e; rw [e] at hb60; cases hb60
    have hfb : o = .bad (L.drop j2) := by
      rw [if_neg (fun hh => hlen (by rw [hh.1]; rfl))] at hfin
      exact hfin
    iterate 3 refine o_skip (skips_some rfl rfl rfl) rfl ?_
    refine oV ?_;refine nT ?_;refine c_cond_t rfl rfl ?_;refine sR ?_;refine oV ?_;refine nF ?_;refine ret1 rfl rfl ?_;exact fun w' hw' => ⟨I2, [rdB b vall j2 us3 vi vl vo ua3, ndR ua3 n3], hw'.sort (by repeat constructor), hx1.trans hx2 (Nat.le_refl _), false, j2, _, ua3, n3, rfl, rfl, hj2, fun _ => hfb, fun h => by cases h⟩
   have fb60 := hb60
   try simp only [bl] at fb60
   have hlen : (stk K4 ++ [odI (lastN n3)]).length = 1 := by
     have := fb60
     omega
   have hK0 : K4 = [] := stk_nil (by rw [List.length_append] at hlen; change (stk K4).length + 1 = 1 at hlen; omega)
   subst hK0
   refine o_pv (wS rfl rfl rfl) rfl rfl ?_;refine oC (wS rfl rfl rfl) rfl Tryz.call140 rfl (rdMark_any b j2 vall us3 vi vl vo ua3 semiS L (hL.le (hx1.le.trans hx2.le)) (by omega)) (by repeat constructor) ?_;rintro _ _ _ hx7 ⟨rfl, rfl, rfl⟩;refine o_pv (wS rfl rfl rfl) rfl rfl ?_;refine oV ?_;refine nT ?_;refine cC rfl (fun h3 => ?_) (fun h3 => ?_)
   ·
    have f3 := h3;try simp only [bl] at f3
    have hm : hdT (L.drop j2) 2 semiS = false := by simpa using f3
    rw [adv_false hm]
    have hfb : o = .bad (L.drop j2) := by
      rw [if_neg (fun hh => by rw [hm] at hh; cases hh.2)] at hfin
      exact hfin
    refine sR ?_;refine oV ?_;refine nF ?_;refine ret1 rfl rfl ?_;exact fun w' hw' => ⟨I2, [rdB b vall j2 us3 vi vl vo ua3, ndR ua3 n3], hw'.sort (by repeat constructor), hx1.trans hx2 (Nat.le_refl _), false, j2, _, ua3, n3, rfl, rfl, hj2, fun _ => hfb, fun h => by cases h⟩
   have f3 := h3;try simp only [bl] at f3
   have hm : hdT (L.drop j2) 2 semiS = true := by simpa using f3
   rw [adv_true hm]
   have hlt2 := hdT_lt hm
   rw [if_pos ⟨rfl, hm⟩, List.drop_drop] at hfin
   refine kS ?_;iterate 2 refine oV ?_
   refine oF 2 Tryz.underlying101 Tryz.sizeOf99 ?_;refine oS Tryz.sizeOf99 ?_;refine nS ?_;refine oV ?_;refine nE ?_;refine ret1 rfl rfl ?_;exact fun w' hw' => ⟨I2, [rdB b vall (j2 + 1) (.slice none 0 0) vi vl vo ua3, ndR ua3 n3], hw'.sort (by repeat constructor), hx1.trans hx2 (Nat.le_refl _), true, j2 + 1, _, ua3, n3, rfl, rfl, hlt2, fun h => (by cases h), fun _ => ⟨hfin, rfl, hok3, by omega, by omega⟩⟩
  have f2 := h2;try simp only [bl] at f2
  have h3 := or3_f h2
  simp only [Bool.and_eq_true, decide_eq_true_eq, beq_iff_eq] at h3
  obtain ⟨h31, h32, h33⟩ := h3
  obtain ⟨hE4, hk25⟩ := run_sign hRd3.fr hM3 h31 h32 hk h33
  rw [if_neg h33]
  refine kS ?_;iterate 2 refine oV ?_
  refine oF 1 Tryz.underlying101 Tryz.sizeOf3 ?_;refine oL Tryz.isAgg3 ?_
  (refine o_add trivial rfl rfl rfl ?_ ?_; (omega))
  refine oV ?_;refine oF 1 Tryz.underlying101 Tryz.sizeOf3 ?_;refine oS Tryz.sizeOf3 ?_;refine nS ?_;refine oV ?_;refine oF 1 Tryz.underlying204 Tryz.sizeOf3 ?_;refine oL Tryz.isAgg3 ?_;refine oC trivial rfl Tryz.call172 rfl (fold_any b (j2 + 1) vall us2 vi vl vo ua2 (bindK k) n2 K3 hRd3.fr hRd3.ok (by omega) hp1) (by repeat constructor) ?_;rintro _ _ _ hx6 ⟨rfl, rfl, us3, ua3, n3, rfl, hc3, hok3, hn3, hb3⟩;refine nT ?_
  have hK4 := foldK_ok (b := bindK k) (all := n2.map NodeV.c) hRd3.fr
  rw [← hc3] at hE4
  generalize (foldK (bindK k) K3 (n2.map NodeV.c)).1 = K4 at hE4 hK4 hb3 ⊢
  have hst4 := stk_len K4
  refine cR ?_;refine oV ?_;refine oA Tryz.isAgg204 Tryz.sizeOf204 ?_;refine o_ifaceS trivial rfl rfl (fun w => by kernel_rfl) ?_;refine oC trivial rfl Tryz.call173 rfl (push_any b (j2 + 1) vall us3 vi vl vo ua3 (opV k (bindK k) false) 204 (stk K4 ++ [odI (lastN n3)]) (by rw [List.length_append]; show (stk K4).length + 1 ≤ _; omega)) (by repeat constructor) ?_;rintro _ _ _ hx7 ⟨rfl, rfl, us4, rfl⟩;refine oN (blk_n ?_);exact again (j2 + 1, .bin k (lastN n3) :: K4, n3, us4, ua3, I2) (sC rfl sN) (fun _ h => by rw [List.append_assoc] at h; exact h.sort (by repeat constructor)) (by show L.length - (j2 + 1) < L.length - j; omega) ⟨by show j2 + 1 ≤ _; omega, ⟨hk25.1, hk25.2, hK4⟩, hok3, by show n3.length + (K4.length + 1) ≤ j2 + 1; omega, by rw [← lastN_eq] at hE4; exact hE4, hx1.trans hx2 (Nat.le_refl _), by show i ≤ j2 + 1; omega⟩
theorem run_start {all : List NodeC} {r : List Tok} {o q : POut} (h : Ps .sum all r q) (ho : q.then_ o fun a2 r2 => match r2 with
      | y :: r3 => if isT y 2 semiS then o = .ok a2 r3 else o = .bad r2
      | [] => o = .bad []) : RunE [] all r o := by
  cases h with
  | sum_bad h =>
    cases h with
    | product_bad h => exact ⟨_, h, ho⟩
    | product_ok h1 h2 => exact ⟨_, h1, _, h2, ho⟩
  | sum_ok h h3 =>
    cases h with
    | product_ok h1 h2 => exact ⟨_, h1, _, h2, _, h3, ho⟩
theorem let_run {L : List Tok} {all : List NodeC} {i : Nat} {o1 : LO} (h : Lt1 all (L.drop i) o1) (hN : hdN (L.drop i) = true) (hq : hdT (L.drop (i + 1)) 2 equalS = true) :
    ∃ o, RunE [] all (L.drop (i + 2)) o ∧ (∀ r, o = .bad r → o1 = .bad r) ∧ ∀ a r, o = .ok a r → o1 = .ok (tkAt L i).text a r := by
  have h1 := hdN_lt hN
  have h2 := hdT_lt hq
  rw [drop_cons h1, drop_cons h2] at h
  rw [drop_cons h1] at hN
  rw [drop_cons h2] at hq
  cases h with
  | noname h0 => simp only [hdN] at hN h0; rw [hN] at h0; cases h0
  | noeq _ h0 => rw [hq] at h0; cases h0
  | sumbad _ _ h3 => exact ⟨_, run_start h3 rfl, fun r hr => by cases hr; rfl, fun a r hr => by cases hr⟩
  | @nosemi a1 _ _ _ r1 _ _ h3 h4 =>
    refine ⟨.bad r1, run_start h3 ?_, fun r hr => by cases hr; rfl, fun a r hr => by cases hr⟩
    cases r1 with
    | nil => rfl
    | cons y r => show (if _ then _ else _); rw [if_neg (by simp only [hdT] at h4; rw [h4]; decide)]
  | ok _ _ h3 h4 =>
    refine ⟨.ok _ _, run_start h3 ?_, fun r hr => (by cases hr), fun a r hr => by cases hr; rfl⟩
    show (if _ then _ else _)
    rw [if_pos h4]
theorem let_noname {L : List Tok} {all : List NodeC} {i : Nat} {o1 : LO} (h : Lt1 all (L.drop i) o1) (hN : hdN (L.drop i) = false) : o1 = .bad (L.drop i) := by
  generalize L.drop i = r at h hN
  cases h with
  | noname _ => rfl
  | noeq h1 _ => simp only [hdN] at hN; rw [hN] at h1; cases h1
  | sumbad h1 _ _ => simp only [hdN] at hN; rw [hN] at h1; cases h1
  | nosemi h1 _ _ _ => simp only [hdN] at hN; rw [hN] at h1; cases h1
  | ok h1 _ _ _ => simp only [hdN] at hN; rw [hN] at h1; cases h1
theorem let_noeq {L : List Tok} {all : List NodeC} {i : Nat} {o1 : LO} (h : Lt1 all (L.drop i) o1) (hN : hdN (L.drop i) = true) (hq : hdT (L.drop (i + 1)) 2 equalS = false) : o1 = .bad (L.drop (i + 1)) := by
  have h1 := hdN_lt hN
  rw [drop_cons h1] at h hN
  generalize L.drop (i + 1) = r at h hN hq
  cases h with
  | noname h0 => rw [hN] at h0; cases h0
  | noeq _ _ => rfl
  | sumbad _ h0 _ => simp only [hdT] at hq; rw [hq] at h0; cases h0
  | nosemi _ h0 _ _ => simp only [hdT] at hq; rw [hq] at h0; cases h0
  | ok _ h0 _ _ => simp only [hdT] at hq; rw [hq] at h0; cases h0
theorem lts_more (ls : List LetC) (c : LetC) : ((ls ++ [c]).map LetC.cells).flatten = (ls.map LetC.cells).flatten ++ c.cells := by simp
theorem rdLet_any (b i : Nat) (vall vi vl vo va : Value) (ls : List LetC) (ns : List NodeV) (L : List Tok) {I : Hp} (hM : Mx I) (hE : Errs I) (hL : Slc I 4 vall (L.map Tok.cells)) (hn : L.length ≤ 10000) (hs : TkSmall L) (hto : ToksOk L) (hok : ∀ o ∈ ns, o.ok I) (hb : ns.length ≤ i) (hls : ls.length ≤ i) (hi : i ≤ L.length) {o : LO} (h : Lt1 (ns.map NodeV.c) (L.drop i) o) :
    Fun Tryz.prog 105 [.pointer (some ⟨b, 0, none⟩)] I [rdB b vall i (.slice none 0 0) vi vl vo va, ltR vl ls, ndR va ns]
    (fun v I' B' => ∃ ok i' vs' vl' va' ns' ls', v = .bool ok ∧ B' = [rdB b vall i' vs' vi vl' vo va', ltR vl' ls', ndR va' ns'] ∧ i' ≤ L.length ∧ (ok = false → o = .bad (L.drop i')) ∧ (ok = true → ∃ s, o = .ok s (ns'.map NodeV.c) (L.drop i') ∧ vs' = .slice none 0 0 ∧ (∀ o ∈ ns', o.ok I') ∧ ns'.length ≤ i' ∧ ls' = ls ++ [⟨s, lastN ns'⟩] ∧ i < i')) := by
  intro w hw
  refine enter1 _ Tryz.func105 rfl Tryz.ntmps105 rfl ?_ hw;refine sR ?_;refine oV ?_;refine nS ?_;refine oV ?_;refine oC trivial rfl Tryz.call139 rfl (rdName_any b i vall (.slice none 0 0) vi vl vo va L hL (by omega) hs) (by repeat constructor) ?_;rintro _ _ _ hx1 ⟨rfl, rfl, rfl⟩;iterate 5 refine oV ?_
  refine nU ?_;iterate 2 refine oV ?_
  refine o_fork trivial rfl rfl (fun hb12 => ?_) (fun hb12 => ?_)
  ·
   have fb12 := hb12
   try simp only [bl] at fb12
   have hN : hdN (L.drop i) = false := by simpa using hb12
   rw [adv_false hN]
   iterate 3 refine o_skip (skips_some rfl rfl rfl) rfl ?_
   iterate 2 refine oV ?_
   iterate 3 refine o_skip (skips_some rfl rfl rfl) rfl ?_
   refine oV ?_;refine nT ?_;refine c_cond_t rfl rfl ?_;refine sR ?_;refine oV ?_;refine nF ?_;refine ret1 rfl rfl ?_;exact fun w' hw' => ⟨I, [rdB b vall i (.slice none 0 0) vi vl vo va, ltR vl ls, ndR va ns], hw'.sort (by repeat constructor), Ext.refl _ _, false, i, _, vl, va, ns, ls, rfl, rfl, hi, fun _ => let_noname h hN, fun h => by cases h⟩
  have fb12 := hb12
  try simp only [bl] at fb12
  have hN : hdN (L.drop i) = true := by simpa using hb12
  rw [adv_true hN]
  have hlt := hdN_lt hN
  refine o_pv (wS rfl rfl rfl) rfl rfl ?_;refine oC (wS rfl rfl rfl) rfl Tryz.call140 rfl (rdMark_any b (i + 1) vall (.slice none 0 0) vi vl vo va equalS L hL (by omega)) (by repeat constructor) ?_;rintro _ _ _ hx2 ⟨rfl, rfl, rfl⟩;refine o_pv (wS rfl rfl rfl) rfl rfl ?_;refine oV ?_;refine o_fork trivial rfl rfl (fun hb17 => ?_) (fun hb17 => ?_)
  ·
   have fb17 := hb17
   try simp only [bl] at fb17
   have hq : hdT (L.drop (i + 1)) 2 equalS = false := by simpa using hb17
   rw [adv_false hq]
   iterate 3 refine o_skip (skips_some rfl rfl rfl) rfl ?_
   refine oV ?_;refine nT ?_;refine c_cond_t rfl rfl ?_;refine sR ?_;refine oV ?_;refine nF ?_;refine ret1 rfl rfl ?_;exact fun w' hw' => ⟨I, [rdB b vall (i + 1) (.slice none 0 0) vi vl vo va, ltR vl ls, ndR va ns], hw'.sort (by repeat constructor), Ext.refl _ _, false, i + 1, _, vl, va, ns, ls, rfl, rfl, hlt, fun _ => let_noeq h hN hq, fun h => by cases h⟩
  have fb17 := hb17
  try simp only [bl] at fb17
  have hq : hdT (L.drop (i + 1)) 2 equalS = true := by simpa using hb17
  rw [adv_true hq]
  have hlt2 := hdT_lt hq
  obtain ⟨o2, hr2, ho2, ho3⟩ := let_run h hN hq
  refine o_pv (wS rfl rfl rfl) rfl rfl ?_;refine oC (wS rfl rfl rfl) rfl Tryz.call141 rfl (rdSum_any b (i + 1 + 1) vall vi vl vo va ns L hM hE hL hn hs hto hok (by omega) (by omega) hr2) (by repeat constructor) ?_;rintro _ I2 _ hx3 ⟨ok2, j, us, ua, n2, rfl, rfl, hj, hno, hyes⟩;refine o_pv (wS rfl rfl rfl) rfl rfl ?_;refine oV ?_;refine nT ?_;refine cC rfl (fun h1 => ?_) (fun h1 => ?_)
  ·
   have f1 := h1;try simp only [bl] at f1
   have hk : ok2 = false := by simpa using f1
   refine sR ?_;refine oV ?_;refine nF ?_;refine ret1 rfl rfl ?_;exact fun w' hw' => ⟨I2, [rdB b vall j us vi vl vo ua, ltR vl ls, ndR ua n2], hw'.sort (by repeat constructor), hx3, false, j, _, vl, ua, n2, ls, rfl, rfl, hj, fun _ => ho2 _ (hno hk), fun h => by cases h⟩
  have f1 := h1;try simp only [bl] at f1
  have hk : ok2 = true := by simpa using f1
  obtain ⟨he, rfl, hok2, hb2, hlt3⟩ := hyes hk
  rw [if_pos hN]
  refine cK (tC (cS ?_));refine h_beginB (m := 21) [ndR ua n2] (by repeat constructor) (by kernel_rfl) rfl ?_;refine qT (i := 0) (qB 21 1) (Hp.Le.refl _) rfl rfl (oV qF) ?_;refine qT (i := 1) (qB 21 3) (Hp.Le.refl _) rfl rfl (oV qF) ?_;refine qT (i := 2) (qB 21 7) (Hp.Le.refl _) rfl rfl (oV qF) ?_;refine qT (i := 3) (qB 21 15) (Hp.Le.refl _) rfl rfl (oF 3 Tryz.underlying101 Tryz.sizeOf26 qF) ?_;refine qT (i := 4) (qB 21 31) (Hp.Le.refl _) rfl rfl (oF 1 Tryz.underlying26 Tryz.sizeOf23 qF) ?_;refine qT (i := 6) (qB 21 95) (Hp.Le.refl _) rfl rfl (oV qF) ?_;refine qT (i := 7) (qB 21 223) (Hp.Le.refl _) rfl rfl (oV qF) ?_;refine qT (i := 8) (qB 21 479) (Hp.Le.refl _) rfl rfl (oV qF) ?_;refine qT (i := 9) (qB 21 991) (Hp.Le.refl _) rfl rfl (oF 3 Tryz.underlying101 Tryz.sizeOf26 qF) ?_;refine qT (i := 10) (qB 21 2015) (Hp.Le.refl _) rfl rfl (oF 3 Tryz.underlying26 Tryz.sizeOf24 qF) ?_;refine h_go [5, 11] (by kernel_rfl) rfl (TWHs.cons ?_ (TWHs.cons ?_ TWHs.nil))
  ·
   refine qP (qB 21 2047) rfl ?_;refine oL Tryz.isAgg23 ?_;refine qM (Hp.Le.refl _) ?_;refine qO (i := 11) (qB 21 4095) rfl ?_;refine oL Tryz.isAgg24 ?_;refine qM (Hp.Le.refl _) ?_;refine qT (i := 12) (qB 21 8191) (Hp.Le.refl _) rfl rfl (o_lenRow trivial rfl Tryz.underlying24 rfl (by repeat constructor) qF) ?_;refine' qT (i := 13) (qB 21 16383) (Hp.Le.refl _) rfl rfl ?hh0 ?kk0
   case hh0 =>
    (refine o_sub trivial rfl rfl rfl ?_ ?_; (omega))
    exact qF
   refine qT (i := 14) (qB 21 32767) (Hp.Le.refl _) rfl rfl (o_buildS trivial rfl (bld39) rfl (.cons rfl rfl rfl (by repeat constructor) (.cons rfl rfl rfl (by repeat constructor) .nil)) qF) ?_;refine qO (i := 15) (qB 21 65535) rfl ?_;refine oB Tryz.underlying23 Tryz.sizeOf39 Tryz.zeroValue39 fun b37 => ?_;refine qM (Hp.Le.refl _) ?_;refine qO (i := 16) (qB 21 131071) rfl ?_;refine oD Tryz.underlying23 elem39 fun v38 => ?_;refine qM (Hp.Le.refl _) ?_;refine qT (i := 17) (qB 21 262143) (Hp.Le.refl _) rfl rfl (oV qF) ?_;refine qT (i := 18) (qB 21 524287) (Hp.Le.refl _) rfl rfl (oF 3 Tryz.underlying101 Tryz.sizeOf26 qF) ?_;refine qT (i := 19) (qB 21 1048575) (Hp.Le.refl _) rfl rfl (oF 1 Tryz.underlying26 Tryz.sizeOf23 qF) ?_;refine qO (i := 20) (qB 21 2097151) rfl ?_;refine l_rowCells (u := v38) (by repeat constructor) (fun hcv => ?_);refine o_storeBox1 trivial rfl rfl (hcv).1 Tryz.sizeOf23 (hcv).2 (by repeat constructor) (by exact Nat.le_of_ble_eq_true rfl) ?_;refine qM (Hp.Le.refl _) ?_;refine h_end (by kernel_rfl) ?_;refine tC (sR ?_);refine oV ?_;refine nE ?_;refine ret1 rfl rfl ?_
   (exact fun w' hw' => ⟨I2, [rdB b vall j (.slice none 0 0) vi v38 vo ua, ltR v38 (ls ++ [⟨(tkAt L i).text, lastN n2⟩]), ndR ua n2], (by unfold ltR; rw [lts_more, List.length_append]; exact hw'.sort (by repeat constructor)), hx3, true, j, _, v38, ua, n2, _, rfl, rfl, hj, fun h => (by cases h), fun _ => ⟨_, ho3 _ _ he, rfl, hok2, hb2, rfl, by omega⟩⟩)
  refine qP (qB 21 4063) rfl ?_;refine oL Tryz.isAgg24 ?_;refine qM (Hp.Le.refl _) ?_;refine qT (i := 12) (qB 21 8159) (Hp.Le.refl _) rfl rfl (o_lenRow trivial rfl Tryz.underlying24 rfl (by repeat constructor) qF) ?_;refine' qT (i := 13) (qB 21 16351) (Hp.Le.refl _) rfl rfl ?hh1 ?kk1
  case hh1 =>
   (refine o_sub trivial rfl rfl rfl ?_ ?_; (omega))
   exact qF
  refine qT (i := 14) (qB 21 32735) (Hp.Le.refl _) rfl rfl (o_buildS trivial rfl (bld39) rfl (.cons rfl rfl rfl (by repeat constructor) (.cons rfl rfl rfl (by repeat constructor) .nil)) qF) ?_;refine h_go [5, 15] (by kernel_rfl) rfl (TWHs.cons ?_ (TWHs.cons ?_ TWHs.nil))
  ·
   refine qP (qB 21 32767) rfl ?_;refine oL Tryz.isAgg23 ?_;refine qM (Hp.Le.refl _) ?_;refine qO (i := 15) (qB 21 65535) rfl ?_;refine oB Tryz.underlying23 Tryz.sizeOf39 Tryz.zeroValue39 fun b37 => ?_;refine qM (Hp.Le.refl _) ?_;refine qO (i := 16) (qB 21 131071) rfl ?_;refine oD Tryz.underlying23 elem39 fun v38 => ?_;refine qM (Hp.Le.refl _) ?_;refine qT (i := 17) (qB 21 262143) (Hp.Le.refl _) rfl rfl (oV qF) ?_;refine qT (i := 18) (qB 21 524287) (Hp.Le.refl _) rfl rfl (oF 3 Tryz.underlying101 Tryz.sizeOf26 qF) ?_;refine qT (i := 19) (qB 21 1048575) (Hp.Le.refl _) rfl rfl (oF 1 Tryz.underlying26 Tryz.sizeOf23 qF) ?_;refine qO (i := 20) (qB 21 2097151) rfl ?_;refine l_rowCells (u := v38) (by repeat constructor) (fun hcv => ?_);refine o_storeBox1 trivial rfl rfl (hcv).1 Tryz.sizeOf23 (hcv).2 (by repeat constructor) (by exact Nat.le_of_ble_eq_true rfl) ?_;refine qM (Hp.Le.refl _) ?_;refine h_end (by kernel_rfl) ?_;refine tC (sR ?_);refine oV ?_;refine nE ?_;refine ret1 rfl rfl ?_
   (exact fun w' hw' => ⟨I2, [rdB b vall j (.slice none 0 0) vi v38 vo ua, ltR v38 (ls ++ [⟨(tkAt L i).text, lastN n2⟩]), ndR ua n2], (by unfold ltR; rw [lts_more, List.length_append]; exact hw'.sort (by repeat constructor)), hx3, true, j, _, v38, ua, n2, _, rfl, rfl, hj, fun h => (by cases h), fun _ => ⟨_, ho3 _ _ he, rfl, hok2, hb2, rfl, by omega⟩⟩)
  refine qP (qB 21 65503) rfl ?_;refine oB Tryz.underlying23 Tryz.sizeOf39 Tryz.zeroValue39 fun b37 => ?_;refine qM (Hp.Le.refl _) ?_;refine qO (i := 5) (qB 21 65535) rfl ?_;refine oL Tryz.isAgg23 ?_;refine qM (Hp.Le.refl _) ?_;refine qO (i := 16) (qB 21 131071) rfl ?_;refine oD Tryz.underlying23 elem39 fun v38 => ?_;refine qM (Hp.Le.refl _) ?_;refine qT (i := 17) (qB 21 262143) (Hp.Le.refl _) rfl rfl (oV qF) ?_;refine qT (i := 18) (qB 21 524287) (Hp.Le.refl _) rfl rfl (oF 3 Tryz.underlying101 Tryz.sizeOf26 qF) ?_;refine qT (i := 19) (qB 21 1048575) (Hp.Le.refl _) rfl rfl (oF 1 Tryz.underlying26 Tryz.sizeOf23 qF) ?_;refine qO (i := 20) (qB 21 2097151) rfl ?_;refine l_rowCells (u := v38) (by repeat constructor) (fun hcv => ?_);refine o_storeBox1 trivial rfl rfl (hcv).1 Tryz.sizeOf23 (hcv).2 (by repeat constructor) (by exact Nat.le_of_ble_eq_true rfl) ?_;refine qM (Hp.Le.refl _) ?_;refine h_end (by kernel_rfl) ?_;refine tC (sR ?_);refine oV ?_;refine nE ?_;refine ret1 rfl rfl ?_
  (exact fun w' hw' => ⟨I2, [rdB b vall j (.slice none 0 0) vi v38 vo ua, ltR v38 (ls ++ [⟨(tkAt L i).text, lastN n2⟩]), ndR ua n2], (by unfold ltR; rw [lts_more, List.length_append]; exact hw'.sort (by repeat constructor)), hx3, true, j, _, v38, ua, n2, _, rfl, rfl, hj, fun h => (by cases h), fun _ => ⟨_, ho3 _ _ he, rfl, hok2, hb2, rfl, by omega⟩⟩)
def PrgTail (ins : List ByteArray) (o : PO) (ls : List LetC) (all : List NodeC) (r2 : List Tok) : Prop :=
  (hdT r2 0 outS = false → o = .bad r2) ∧ (hdT r2 0 outS = true → (∀ r3, namesZ (r2.drop 1) = .bad r3 → o = .bad r3) ∧ (∀ outs r3, namesZ (r2.drop 1) = .ok outs r3 → (r3 = [] → o = .ok ⟨ins, ls, outs, all⟩) ∧ (r3 ≠ [] → o = .bad r3)))
theorem prg_parts {r : List Tok} {o : PO} (h : Prg r o) : (hdT r 0 inS = false → o = .bad r) ∧ (hdT r 0 inS = true → (∀ r1, namesZ (r.drop 1) = .bad r1 → o = .bad r1) ∧ ∀ ins r1, namesZ (r.drop 1) = .ok ins r1 → ∃ oL, Lts [] [] r1 oL ∧ (∀ r2, oL = .bad r2 → o = .bad r2) ∧ ∀ ls all r2, oL = .ok ls all r2 → PrgTail ins o ls all r2) := by
  cases h with
  | noin h0 => exact ⟨fun _ => rfl, fun h => by rw [h0] at h; cases h⟩
  | insbad h0 h1 =>
    refine ⟨fun h => (by simp only [hdT] at h; rw [h0] at h; cases h), fun _ => ⟨fun r1 hr => (by simp only [List.drop_one, List.tail_cons] at hr; rw [h1] at hr; cases hr; rfl), fun ins r1 hr => by simp only [List.drop_one, List.tail_cons] at hr; rw [h1] at hr; cases hr⟩⟩
  | letsbad h0 h1 h2 =>
    refine ⟨fun h => (by simp only [hdT] at h; rw [h0] at h; cases h), fun _ => ⟨fun r1 hr => (by simp only [List.drop_one, List.tail_cons] at hr; rw [h1] at hr; cases hr), fun ins r1 hr => ?_⟩⟩
    simp only [List.drop_one, List.tail_cons] at hr; rw [h1] at hr; cases hr
    exact ⟨_, h2, fun r2 hr => (by cases hr; rfl), fun ls all r2 hr => by cases hr⟩
  | noout h0 h1 h2 h3 =>
    refine ⟨fun h => (by simp only [hdT] at h; rw [h0] at h; cases h), fun _ => ⟨fun r1 hr => (by simp only [List.drop_one, List.tail_cons] at hr; rw [h1] at hr; cases hr), fun ins r1 hr => ?_⟩⟩
    simp only [List.drop_one, List.tail_cons] at hr; rw [h1] at hr; cases hr
    refine ⟨_, h2, fun r2 hr => (by cases hr), fun ls all r2 hr => ?_⟩
    cases hr
    exact ⟨fun _ => rfl, fun h => by rw [h3] at h; cases h⟩
  | outsbad h0 h1 h2 h3 h4 =>
    refine ⟨fun h => (by simp only [hdT] at h; rw [h0] at h; cases h), fun _ => ⟨fun r1 hr => (by simp only [List.drop_one, List.tail_cons] at hr; rw [h1] at hr; cases hr), fun ins r1 hr => ?_⟩⟩
    simp only [List.drop_one, List.tail_cons] at hr; rw [h1] at hr; cases hr
    refine ⟨_, h2, fun r2 hr => (by cases hr), fun ls all r2 hr => ?_⟩
    cases hr
    refine ⟨fun h => (by simp only [hdT] at h; rw [h3] at h; cases h), fun _ => ⟨fun r3 hr => ?_, fun outs r3 hr => ?_⟩⟩
    · simp only [List.drop_one, List.tail_cons] at hr; rw [h4] at hr; cases hr; rfl
    · simp only [List.drop_one, List.tail_cons] at hr; rw [h4] at hr; cases hr
  | tail h0 h1 h2 h3 h4 =>
    refine ⟨fun h => (by simp only [hdT] at h; rw [h0] at h; cases h), fun _ => ⟨fun r1 hr => (by simp only [List.drop_one, List.tail_cons] at hr; rw [h1] at hr; cases hr), fun ins r1 hr => ?_⟩⟩
    simp only [List.drop_one, List.tail_cons] at hr; rw [h1] at hr; cases hr
    refine ⟨_, h2, fun r2 hr => (by cases hr), fun ls all r2 hr => ?_⟩
    cases hr
    refine ⟨fun h => (by simp only [hdT] at h; rw [h3] at h; cases h), fun _ => ⟨fun r3 hr => ?_, fun outs r3 hr => ?_⟩⟩
    · simp only [List.drop_one, List.tail_cons] at hr; rw [h4] at hr; cases hr
    · simp only [List.drop_one, List.tail_cons] at hr; rw [h4] at hr; cases hr
      exact ⟨fun h => (by cases h), fun _ => rfl⟩
  | ok h0 h1 h2 h3 h4 =>
    refine ⟨fun h => (by simp only [hdT] at h; rw [h0] at h; cases h), fun _ => ⟨fun r1 hr => (by simp only [List.drop_one, List.tail_cons] at hr; rw [h1] at hr; cases hr), fun ins r1 hr => ?_⟩⟩
    simp only [List.drop_one, List.tail_cons] at hr; rw [h1] at hr; cases hr
    refine ⟨_, h2, fun r2 hr => (by cases hr), fun ls all r2 hr => ?_⟩
    cases hr
    refine ⟨fun h => (by simp only [hdT] at h; rw [h3] at h; cases h), fun _ => ⟨fun r3 hr => ?_, fun outs r3 hr => ?_⟩⟩
    · simp only [List.drop_one, List.tail_cons] at hr; rw [h4] at hr; cases hr
    · simp only [List.drop_one, List.tail_cons] at hr; rw [h4] at hr; cases hr
      exact ⟨fun _ => rfl, fun h => absurd rfl h⟩
theorem lts_parts {ls : List LetC} {all : List NodeC} {r : List Tok} {oL : LSO} (h : Lts ls all r oL) : (hdT r 0 letS = false → oL = .ok ls all r) ∧ (hdT r 0 letS = true → ∃ o1, Lt1 all (r.drop 1) o1 ∧ (∀ r1, o1 = .bad r1 → oL = .bad r1) ∧ ∀ n a1 r1, o1 = .ok n a1 r1 → Lts (ls ++ [⟨n, lastI a1⟩]) a1 r1 oL) := by
  cases h with
  | fin h0 => exact ⟨fun _ => rfl, fun h => by rw [h0] at h; cases h⟩
  | bad h0 h1 => exact ⟨fun h => (by simp only [hdT] at h; rw [h0] at h; cases h), fun _ => ⟨_, h1, fun r1 hr => (by cases hr; rfl), fun n a1 r1 hr => by cases hr⟩⟩
  | more h0 h1 h2 => exact ⟨fun h => (by simp only [hdT] at h; rw [h0] at h; cases h), fun _ => ⟨_, h1, fun r1 hr => (by cases hr), fun n a1 r1 hr => by cases hr; exact h2⟩⟩
theorem nm_bad {L : List Tok} {i' : Nat} {ok : Bool} {l : List ByteArray} {o : NOut} (h : NmRes L i' ok l o) (hk : ok = false) : o = .bad (L.drop i') := by
  cases o with
  | bad r => rw [h.2.1]
  | ok m r => rw [h.1] at hk; cases hk
theorem nm_good {L : List Tok} {i' : Nat} {ok : Bool} {l : List ByteArray} {o : NOut} (h : NmRes L i' ok l o) (hk : ok = true) : o = .ok l (L.drop i') := by
  cases o with
  | bad r => rw [h.1] at hk; cases hk
  | ok m r => rw [h.2.1, h.2.2.1]
theorem nm_le {L : List Tok} {i' : Nat} {ok : Bool} {l : List ByteArray} {o : NOut} (h : NmRes L i' ok l o) : i' ≤ L.length := by
  cases o with
  | bad r => exact h.2.2
  | ok m r => exact h.2.2.2
abbrev N0 : Value := .slice none 0 0
theorem rdProgram_any (b : Nat) (vall : Value) (L : List Tok) {I : Hp} (hM : Mx I) (hE : Errs I) (hL : Slc I 4 vall (L.map Tok.cells)) (hn : L.length ≤ 10000) (hs : TkSmall L) (hto : ToksOk L) {o : PO} (h : Prg L o) :
    Fun Tryz.prog 58 [.pointer (some ⟨b, 0, none⟩)] I [rdB b vall 0 N0 N0 N0 N0 N0]
    (fun v I' B' => ∃ ok i' vs' vi' vl' vo' va' wi wl wo wa ins ls outs ns, v = .bool ok ∧ B' = [rdB b vall i' vs' vi' vl' vo' va', nmR wi ins, ltR wl ls, nmR wo outs, ndR wa ns] ∧ i' ≤ L.length ∧ (ok = false → o = .bad (L.drop i')) ∧ (ok = true → wi = vi' ∧ wl = vl' ∧ wo = vo' ∧ wa = va' ∧ (∀ o ∈ ns, o.ok I') ∧ o = .ok ⟨ins, ls, outs, ns.map NodeV.c⟩ ∧ ins.length ≤ 10000 ∧ ls.length ≤ 10000 ∧ outs.length ≤ 10000 ∧ ns.length ≤ 10000)) := by
  have hP := prg_parts h
  rw [← List.drop_zero (l := L)] at hP
  intro w hw
  refine enter1 _ Tryz.func58 rfl Tryz.ntmps58 rfl ?_ hw;refine sR ?_;refine oV ?_;refine nS ?_;refine oV ?_;refine nU ?_;refine oV ?_;refine oC trivial rfl Tryz.call103 rfl (rdKey_any b 0 vall N0 N0 N0 N0 N0 inS L hL (by omega)) (by repeat constructor) ?_;rintro _ _ _ hx1 ⟨rfl, rfl, rfl⟩;refine oV ?_;refine nT ?_;refine cC rfl (fun h1 => ?_) (fun h1 => ?_)
  ·
   have f1 := h1;try simp only [bl] at f1
   have hm : hdT (L.drop 0) 0 inS = false := by simpa using f1
   rw [adv_false hm]
   have hfin := hP.1 hm
   refine sR ?_;refine oV ?_;refine nF ?_;refine ret1 rfl rfl ?_;exact fun w' hw' => ⟨I, [rdB b vall 0 N0 N0 N0 N0 N0, nmR N0 [], ltR N0 [], nmR N0 [], ndR N0 []], ((((hw'.nilRow 9 1).nilRow 39 2).nilRow 9 1).nilRow 37 8).sort (by repeat constructor), Ext.refl _ _, false, 0, _, _, _, _, _, _, _, _, _, _, _, _, _, rfl, rfl, Nat.zero_le _, fun _ => hfin, fun h => by cases h⟩
  have f1 := h1;try simp only [bl] at f1
  have hm : hdT (L.drop 0) 0 inS = true := by simpa using f1
  rw [adv_true hm]
  have hlt := hdT_lt hm
  have hP2 := hP.2 hm
  rw [List.drop_drop] at hP2
  refine cK (tC (cS (sR ?_)));iterate 2 refine oV ?_
  refine oC trivial rfl Tryz.call104 rfl (rdNames_any b (0 + 1) vall N0 N0 N0 N0 N0 L hL hn hs (by omega)) (by repeat constructor) ?_;rintro _ _ _ hx2 ⟨rfl, u1, ok1, j1, u1', l1, rfl, rfl, hres, hu, hcell⟩;iterate 4 refine oV ?_
  refine oF 3 Tryz.underlying101 Tryz.sizeOf26 ?_;refine oF 0 Tryz.underlying26 Tryz.sizeOf22 ?_;refine o_storeBox1 trivial rfl rfl (hcell).1 Tryz.sizeOf22 (hcell).2 (by repeat constructor) (by exact Nat.le_of_ble_eq_true rfl) ?_;refine oV ?_;refine oN (tC (cS ?_))
  have hj1 := nm_le hres
  refine cR ?_;iterate 2 refine oV ?_
  refine nT ?_;refine cC rfl (fun h2 => ?_) (fun h2 => ?_)
  ·
   have f2 := h2;try simp only [bl] at f2
   have hk : ok1 = false := by simpa using f2
   have hfin := hP2.1 _ (nm_bad hres hk)
   refine sR ?_;refine oV ?_;refine nF ?_;refine ret1 rfl rfl ?_;exact fun w' hw' => ⟨I, [rdB b vall j1 N0 u1 N0 N0 N0, nmR N0 [], ltR N0 [], nmR N0 [], ndR N0 []], ((((hw'.nilRow 9 1).nilRow 39 2).nilRow 9 1).nilRow 37 8).sort (by repeat constructor), Ext.refl _ _, false, j1, _, _, _, _, _, _, _, _, _, _, _, _, _, rfl, rfl, hj1, fun _ => hfin, fun h => by cases h⟩
  have f2 := h2;try simp only [bl] at f2
  have hk : ok1 = true := by simpa using f2
  obtain ⟨rfl, hl1⟩ := hu hk
  obtain ⟨oL, hLt, hbadL, hokL⟩ := hP2.2 _ _ (nm_good hres hk)
  refine cK (tC (cS (cB ?_)));refine c_loop (ι := Nat × List LetC × List NodeV × Value × Value × Hp) [0] (.cons rfl .nil) (fun x => L.length - x.1) (fun x E0 => E0) (fun x => St w (keysOf [rdB b vall 0 N0 N0 N0 N0 N0]) x.2.2.2.2.2 [rdB b vall x.1 N0 u1' x.2.2.2.1 N0 x.2.2.2.2.1, nmR u1' l1, ltR x.2.2.2.1 x.2.1, ndR x.2.2.2.2.1 x.2.2.1]) (fun x => x.1 ≤ L.length ∧ x.2.1.length ≤ x.1 ∧ x.2.2.1.length ≤ x.1 ∧ (∀ o ∈ x.2.2.1, o.ok x.2.2.2.2.2) ∧ Lts x.2.1 (x.2.2.1.map NodeV.c) (L.drop x.1) oL ∧ Ext w.heap.size I x.2.2.2.2.2) ((j1, [], [], N0, N0, I)) (sC rfl sN) (fun _ h => ((h.nilRow 39 2).nilRow 37 8).sort (by repeat constructor)) (⟨hj1, Nat.zero_le _, Nat.zero_le _, fun o ho => (by cases ho), hLt, Ext.refl _ _⟩) ?_;rintro ⟨j, ls, n0, ul, ua, I1⟩ ⟨hj, hls0, hn0, hok0, hr, hx3⟩
  try dsimp only
  simp only at hj hls0 hn0 hok0 hr hx3; have hlp := lts_parts hr
  refine cS (sR ?_);refine oV ?_;refine oC trivial rfl Tryz.call103 rfl (rdKey_any b j vall N0 u1' ul N0 ua letS L (hL.le hx3.le) (by omega)) (by repeat constructor) ?_;rintro _ _ _ hx4 ⟨rfl, rfl, rfl⟩;refine nT ?_;refine cC rfl (fun h3 => ?_) (fun h3 => ?_)
  ·
   have f3 := h3;try simp only [bl] at f3
   have hm3 : hdT (L.drop j) 0 letS = true := h3
   rw [adv_true hm3]
   have hlt3 := hdT_lt hm3
   obtain ⟨o1, hL1, hb1, hg1⟩ := hlp.2 hm3
   rw [List.drop_drop] at hL1
   refine cK (tC (cB (sR ?_)));refine oV ?_;refine oC trivial rfl Tryz.call105 rfl (rdLet_any b (j + 1) vall u1' ul N0 ua ls n0 L (hM.le hx3.le) (hE.le hx3.le) (hL.le hx3.le) hn hs hto hok0 (by omega) (by omega) (by omega) hL1) (by repeat constructor) ?_;rintro _ I2 _ hx5 ⟨ok2, j2, us2, ul2, ua2, n2, ls2, rfl, rfl, hj2, hno2, hyes2⟩;refine oV ?_;refine nT ?_;refine cC rfl (fun h4 => ?_) (fun h4 => ?_)
   ·
    have f4 := h4;try simp only [bl] at f4
    have hk4 : ok2 = false := by simpa using f4
    have hfin := hbadL _ (hb1 _ (hno2 hk4))
    refine sR ?_;refine oV ?_;refine oN (tC (cT (blk_r (tR (blk_r (tR ?_))))));refine ret1 rfl rfl ?_;exact fun w' hw' => ⟨I2, [rdB b vall j2 us2 u1' ul2 N0 ua2, nmR N0 [], ltR N0 [], nmR N0 [], ndR N0 []], ((((hw'.nilRow 9 1).nilRow 39 2).nilRow 9 1).nilRow 37 8).sort (by repeat constructor), hx3.trans hx5 (Nat.le_refl _), false, j2, _, _, _, _, _, _, _, _, _, _, _, _, _, rfl, rfl, hj2, fun _ => hfin, fun h => by cases h⟩
   have f4 := h4;try simp only [bl] at f4
   have hk4 : ok2 = true := by simpa using f4
   obtain ⟨s, he, rfl, hok2, hn2, rfl, hlt4⟩ := hyes2 hk4
   refine cK (blk_n ?_);exact again (j2, ls ++ [⟨s, lastN n2⟩], n2, ul2, ua2, I2) (sC rfl sN) (fun _ h => h.sort (by repeat constructor)) (by show L.length - j2 < L.length - j; omega) ⟨hj2, by rw [List.length_append]; show ls.length + 1 ≤ j2; omega, hn2, hok2, by rw [lastN_eq]; exact hg1 _ _ _ he, hx3.trans hx5 (Nat.le_refl _)⟩
  have f3 := h3;try simp only [bl] at f3
  have hm3 : hdT (L.drop j) 0 letS = false := h3
  rw [adv_false hm3]
  have hT := hokL _ _ _ (hlp.1 hm3)
  refine c_exit (then_x (then_x (blk_eq rfl (tC (cS (sR ?_))))));refine oV ?_;refine oC trivial rfl Tryz.call103 rfl (rdKey_any b j vall N0 u1' ul N0 ua outS L (hL.le hx3.le) (by omega)) (by repeat constructor) ?_;rintro _ _ _ hx5 ⟨rfl, rfl, rfl⟩;refine oV ?_;refine nT ?_;refine cC rfl (fun h5 => ?_) (fun h5 => ?_)
  ·
   have f5 := h5;try simp only [bl] at f5
   have hm5 : hdT (L.drop j) 0 outS = false := by simpa using f5
   rw [adv_false hm5]
   have hfin := hT.1 hm5
   refine sR ?_;refine oV ?_;refine nF ?_;refine ret1 rfl rfl ?_;exact fun w' hw' => ⟨I1, [rdB b vall j N0 u1' ul N0 ua, nmR N0 [], ltR N0 [], nmR N0 [], ndR N0 []], ((((hw'.nilRow 9 1).nilRow 39 2).nilRow 9 1).nilRow 37 8).sort (by repeat constructor), hx3, false, j, _, _, _, _, _, _, _, _, _, _, _, _, _, rfl, rfl, hj, fun _ => hfin, fun h => by cases h⟩
  have f5 := h5;try simp only [bl] at f5
  have hm5 : hdT (L.drop j) 0 outS = true := by simpa using f5
  rw [adv_true hm5]
  have hlt5 := hdT_lt hm5
  obtain ⟨hT1, hT2⟩ := hT.2 hm5
  rw [List.drop_drop] at hT1 hT2
  refine kS ?_;iterate 2 refine oV ?_
  refine oC trivial rfl Tryz.call104 rfl (rdNames_any b (j + 1) vall N0 u1' ul N0 ua L (hL.le hx3.le) hn hs (by omega)) (by repeat constructor) ?_;rintro _ _ _ hx6 ⟨rfl, u3, ok3, j3, u3', l3, rfl, rfl, hres3, hu3, hcell3⟩;iterate 4 refine oV ?_
  refine oF 3 Tryz.underlying101 Tryz.sizeOf26 ?_;refine oF 2 Tryz.underlying26 Tryz.sizeOf22 ?_;refine o_storeBox1 trivial rfl rfl (hcell3).1 Tryz.sizeOf22 (hcell3).2 (by repeat constructor) (by exact Nat.le_of_ble_eq_true rfl) ?_;refine oV ?_;refine oN (tC (cS ?_));refine c_quiet (by kernel_rfl) (by kernel_rfl) (fun _ h => h.drawn) ?_;refine oV ?_;refine' o_and trivial trivial rfl rfl rfl rfl rfl rfl rfl rfl (fun hb36 => ?_) ?_;rotate_left
  ·
   have fb36 := hb36
   try simp only [bl] at fb36
   iterate 2 refine gV hb36 ?_
   refine gF hb36 1 Tryz.underlying101 Tryz.sizeOf3 ?_;refine gL hb36 Tryz.isAgg3 ?_;iterate 2 refine gV hb36 ?_
   refine gF hb36 0 Tryz.underlying101 Tryz.sizeOf95 ?_;refine gL hb36 Tryz.isAgg95 ?_;refine o_lenSlc (wS rfl rfl hb36) rfl Tryz.underlying95 rfl (hL.le hx3.le) ?_;refine gV hb36 ?_;refine oN ?_;exact joins rfl
  refine oV ?_;refine nE ?_;refine ret1 rfl rfl ?_
  (refine fun w' hw' => ⟨I1, [rdB b vall j3 N0 u1' ul u3 ua, nmR u1' l1, ltR ul ls, nmR u3' l3, ndR ua n0], hw'.sort (by repeat constructor), hx3, _, j3, _, _, _, _, _, u1', ul, u3', ua, l1, ls, l3, n0, rfl, rfl, nm_le hres3, ?_, ?_⟩
   · intro hk
     cases ok3 with
     | false => exact hT1 _ (nm_bad hres3 rfl)
     | true =>
       refine (hT2 _ _ (nm_good hres3 rfl)).2 ?_
       have := nm_le hres3
       simp at hk
       intro e
       rw [List.drop_eq_nil_iff] at e
       omega
   · intro hk
     cases ok3 with
     | false => cases hk
     | true =>
       obtain ⟨rfl, hl3⟩ := hu3 rfl
       refine ⟨rfl, rfl, rfl, rfl, hok0, (hT2 _ _ (nm_good hres3 rfl)).1 ?_, by omega, by omega, by omega, by omega⟩
       simp at hk
       exact List.drop_eq_nil_of_le (by omega))
structure ToksFine (s : ByteArray) (L : List Tok) : Prop where
  ok : ToksOk L
  small : ∀ t ∈ L, t.text.size ≤ s.size
  few : L.length ≤ 4000
theorem tokZ_fine (s : ByteArray) (i : Nat) : ((tokZ s i).kind = 1 → numZ (tokZ s i).text = true) ∧ (tokZ s i).text.size ≤ s.size := by
  have hx : ∀ a b : Nat, (s.extract a b).size ≤ s.size := fun a b => by rw [ByteArray.size_extract]; omega
  unfold tokZ
  split
  · split
    · exact ⟨fun h => (by cases h), Nat.zero_le _⟩
    · exact ⟨fun h => (by cases h), hx _ _⟩
  · split
    · split
      · exact ⟨fun h => (by cases h), Nat.zero_le _⟩
      · split
        · rename_i h; exact ⟨fun _ => h, hx _ _⟩
        · exact ⟨fun h => (by cases h), Nat.zero_le _⟩
    · split
      · exact ⟨fun h => (by cases h), hx _ _⟩
      · exact ⟨fun h => (by cases h), Nat.zero_le _⟩
theorem lexAt_fine (s : ByteArray) : ∀ (f i : Nat) (out : List Tok), s.size ≤ i + f → ToksFine s out → ToksFine s (lexAt s i out).toks := by
  intro f
  induction f with
  | zero => intro i out h ho; rw [lexAt_end (by omega)]; exact ho
  | succ f ih =>
    intro i out h ho
    by_cases hi : i < s.size
    · rw [lexAt_open hi]
      split
      · exact ih (i + 1) out (by omega) ho
      · split
        · exact ⟨fun t ht => (by cases ht), fun t ht => (by cases ht), Nat.zero_le _⟩
        · split
          · exact ⟨fun t ht => (by cases ht), fun t ht => (by cases ht), Nat.zero_le _⟩
          · rename_i h4 he
            have hst := tokZ_stop hi (Decidable.not_not.1 he)
            obtain ⟨k1, k2⟩ := tokZ_fine s i
            refine ih (tokZ s i).stop _ (by omega) ⟨fun t ht => ?_, fun t ht => ?_, by rw [List.length_append]; show out.length + 1 ≤ 4000; omega⟩
            · rcases List.mem_append.1 ht with ht | ht
              · exact ho.ok t ht
              · rw [List.mem_singleton.1 ht]; exact k1
            · rcases List.mem_append.1 ht with ht | ht
              · exact ho.small t ht
              · rw [List.mem_singleton.1 ht]; exact k2
    · rw [lexAt_end (by omega)]; exact ho
theorem lexZ_fine {s : ByteArray} (hs : s.size ≤ 60000) : ToksFine s (lexZ s).toks := by
  rw [lexZ_at hs]
  exact lexAt_fine s s.size 0 [] (by omega) ⟨fun t ht => (by cases ht), fun t ht => (by cases ht), Nat.zero_le _⟩
structure PRes where
  p : ProgC
  line : Int
  col : Int
  err : Int
def noP : ProgC := ⟨[], [], [], []⟩
noncomputable def prgZ (L : List Tok) : PO := Classical.choose (Prg.some_out L)
theorem prgZ_is (L : List Tok) : Prg L (prgZ L) := Classical.choose_spec (Prg.some_out L)
noncomputable def parseT (s : ByteArray) (o : PO) : PRes := match o with
  | .bad [] => ⟨noP, (placeZ s s.size).1, (placeZ s s.size).2, 5⟩
  | .bad (t :: _) => ⟨noP, t.line, t.col, 5⟩
  | .ok p => if (tZ p).isSome = true then ⟨p, 0, 0, 0⟩ else ⟨noP, 1, 1, 4⟩
noncomputable def parseZ (s : ByteArray) : PRes := if (lexZ s).err ≠ 0 then ⟨noP, (lexZ s).line, (lexZ s).col, (lexZ s).err⟩ else parseT s (prgZ (lexZ s).toks)
theorem digs_ten_lt : ∀ (n : Nat), n < 10 ^ (digs n).length := by
  intro n
  induction n using Nat.strongRecOn with
  | ind n ih =>
    unfold digs
    split
    · simp; omega
    · rename_i h
      have := ih (n / 10) (by omega)
      rw [List.length_cons, Nat.pow_succ]
      omega
theorem Ex.few_all : ∀ (x : Ex) (b : Nat), x.ok → ∀ c ∈ x.nd b, c.few 5 := by
  intro x
  have none0 : ∀ {c : NodeC}, c.n = [] → c.d = [] → c.few 5 := fun h1 h2 => ⟨by rw [h1]; exact Nat.zero_le _, by rw [h2]; exact Nat.zero_le _⟩
  induction x with
  | ref t => intro b _ c hc; rw [List.mem_singleton.1 hc]; exact none0 rfl rfl
  | num q =>
    intro b hok c hc
    rw [List.mem_singleton.1 hc]
    have h1 := digs_ten_lt q.num.natAbs
    have h2 := digs_ten_lt q.den
    exact ⟨natW_forty (Nat.lt_of_lt_of_le h1 (Nat.pow_le_pow_right (by decide) hok.2.1)), natW_forty (Nat.lt_of_lt_of_le h2 (Nat.pow_le_pow_right (by decide) hok.2.2))⟩
  | neg x ih =>
    intro b hok c hc
    rcases List.mem_append.1 hc with hc | hc
    · exact ih b hok c hc
    · rw [List.mem_singleton.1 hc]; exact none0 rfl rfl
  | pow x e ih =>
    intro b hok c hc
    rcases List.mem_append.1 hc with hc | hc
    · exact ih b hok.1 c hc
    · rw [List.mem_singleton.1 hc]; exact none0 rfl rfl
  | bin k x y ih1 ih2 =>
    intro b hok c hc
    rcases List.mem_append.1 hc with hc | hc
    · rcases List.mem_append.1 hc with hc | hc
      · exact ih1 b hok.2.2.1 c hc
      · exact ih2 _ hok.2.2.2 c hc
    · rw [List.mem_singleton.1 hc]; exact none0 rfl rfl
theorem laid_few : ∀ (l : List (ByteArray × Ex)) (b : Nat), LetsOk l → ∀ c ∈ (laid l b).2, c.few 5
  | [], _, _, c, hc => by cases hc
  | (s, x) :: l, b, h, c, hc => by
    simp only [laid] at hc
    rcases List.mem_append.1 hc with hc | hc
    · exact Ex.few_all x b (h (s, x) (by simp)).2 c hc
    · exact laid_few l _ (fun a ha => h a (by simp [ha])) c hc
theorem Prg.few_all {L : List Tok} {p : ProgC} (h : Prg L (.ok p)) (hr : ToksOk L) : ∀ c ∈ p.all, c.few 5 := by
  obtain ⟨l, hs, _⟩ := h.ex hr
  rw [hs.all]
  exact laid_few l 0 hs.ok
def ParseV (r : PRes) (v : Value) (I' : Hp) : Prop := ∃ vi vl vo va ns, v = .tuple #[.agg #[vi, vl, vo, va], .agg #[.int .i64 r.line, .int .i64 r.col], .int .i64 r.err] ∧ ProgV I' vi vl vo va r.p ns ∧ ∀ o ∈ ns, o.c.few 5
theorem ProgV.nil (I : Hp) : ProgV I N0 N0 N0 N0 noP [] := ⟨Slc.nil _ _, Slc.nil _ _, Slc.nil _ _, Slc.nil _ _, fun o ho => (by cases ho), rfl⟩
theorem scs_one (l : List ByteArray) : ∀ c ∈ scs l, c.length = 1 := by
  intro c hc
  obtain ⟨x, _, rfl⟩ := List.mem_map.1 hc
  rfl
theorem nds_eight (l : List NodeV) : ∀ c ∈ nds l, c.length = 8 := by
  intro c hc
  obtain ⟨x, _, rfl⟩ := List.mem_map.1 hc
  rfl
theorem lts_two (l : List LetC) : ∀ c ∈ l.map LetC.cells, c.length = 2 := by
  intro c hc
  obtain ⟨x, _, rfl⟩ := List.mem_map.1 hc
  rfl
theorem parse_any (s : ByteArray) {I : Hp} (hT : Tabs I) (hM : Mx I) (hE : Errs I) (hs : s.size ≤ 60000) : Fun Tryz.prog 27 [.string s] I [] (fun v I' _ => ParseV (parseZ s) v I') := by
  have hfine := lexZ_fine hs
  intro w hw
  refine enter1 _ Tryz.func27 rfl Tryz.ntmps27 rfl ?_ hw;refine sR ?_;refine o_alloc trivial rfl Tryz.zeroValue26 rfl (fun b2 => ?_);refine o_alloc trivial rfl Tryz.zeroValue48 rfl (fun b3 => ?_);refine oV ?_;refine nS ?_;refine oV ?_;refine oI Tryz.call57 rfl (lex_any s hT hM hs) ?_;rintro _ I1 hx1 ⟨u1, rfl, hs1⟩;iterate 4 refine oV ?_
  refine o_alloc trivial rfl Tryz.zeroValue48 rfl (fun b6 => ?_);refine oV ?_;refine oS Tryz.sizeOf48 ?_;refine oV ?_;refine nU ?_;iterate 2 refine oV ?_
  refine nT ?_;refine cC rfl (fun h1 => ?_) (fun h1 => ?_)
  ·
   have f1 := h1;try simp only [bl] at f1
   have hz : parseZ s = ⟨noP, (lexZ s).line, (lexZ s).col, (lexZ s).err⟩ := by unfold parseZ; rw [if_pos (by simpa using h1)]
   refine cS ?_;refine h_beginB (m := 6) [.box b6 _] (by repeat constructor) (by kernel_rfl) rfl ?_;refine qT (i := 0) (qB 6 1) (Hp.Le.refl _) rfl rfl (o_buildS trivial rfl (bld26) rfl .nil qF) ?_;refine qT (i := 1) (qB 6 3) (Hp.Le.refl _) rfl rfl (oA Tryz.isAgg48 Tryz.sizeOf48 qF) ?_;refine qT (i := 2) (qB 6 7) (Hp.Le.refl _) rfl rfl (oV qF) ?_;refine qO (i := 3) (qB 6 15) rfl ?_;refine oS Tryz.sizeOf26 ?_;refine qM (Hp.Le.refl _) ?_;refine qO (i := 4) (qB 6 31) rfl ?_;refine oS Tryz.sizeOf48 ?_;refine qM (Hp.Le.refl _) ?_;refine qT (i := 5) (qB 6 63) (Hp.Le.refl _) rfl rfl (oV qF) ?_;refine h_end (by kernel_rfl) ?_;refine tC (cT (tR ?_));refine retR rfl (.agg Tryz.isAgg26 Tryz.sizeOf26 rfl (by repeat constructor) rfl (.agg Tryz.isAgg48 Tryz.sizeOf48 rfl (by repeat constructor) rfl (.tmp rfl .nil))) ?_;refine leaf hx1 (List.nil_sublist _) ?_
   rw [hz]
   exact ⟨N0, N0, N0, N0, [], rfl, ProgV.nil _, fun o ho => by cases ho⟩
  have f1 := h1;try simp only [bl] at f1
  have hz : parseZ s = parseT s (prgZ (lexZ s).toks) := by unfold parseZ; rw [if_neg (by simpa using h1)]
  have hP := prgZ_is (lexZ s).toks
  generalize prgZ (lexZ s).toks = o at hz hP
  have htf := hfine.few
  have hsm : TkSmall (lexZ s).toks := fun t ht => Nat.le_trans (hfine.small t ht) hs
  refine kS ?_;refine oV ?_;refine o_buildS trivial rfl (bld101) rfl (.cons rfl (by exact (Slc.cells1 (by assumption)).1) (by rfl) (by repeat constructor) .nil) ?_;refine o_box trivial rfl rfl rfl (fun b24 => ?_);refine oV ?_;refine nU ?_;refine oV ?_;refine oC trivial rfl Tryz.call58 rfl (rdProgram_any b24 u1 (lexZ s).toks (hM.le hx1.le) (hE.le hx1.le) hs1 (by omega) hsm hfine.ok hP) (by repeat constructor) ?_;rintro _ I2 _ hx2 ⟨ok, i, us, vi, vl, vo, va, wi, wl, wo, wa, ins, ls, outs, ns, rfl, rfl, hi, hno, hyes⟩;refine oV ?_;refine nT ?_;refine cC rfl (fun h2 => ?_) (fun h2 => ?_)
  ·
   have f2 := h2;try simp only [bl] at f2
   have hk : ok = false := by simpa using f2
   have hbad := hno hk
   refine cS (sR ?_);refine oV ?_;refine oC trivial rfl Tryz.call59 rfl (rdNext_any b24 i u1 us vi vl vo va (lexZ s).toks (hs1.le hx2.le)) (by repeat constructor) ?_;rintro _ _ _ hx3 ⟨rfl, rfl, rfl⟩;iterate 3 refine oV ?_
   refine o_alloc trivial rfl Tryz.zeroValue103 rfl (fun b9 => ?_);refine oS Tryz.sizeOf103 ?_;refine oV ?_;refine nS ?_;refine oV ?_;refine nT ?_;refine cC rfl (fun h3 => ?_) (fun h3 => ?_)
   ·
    have f3 := h3;try simp only [bl] at f3
    refine cS ?_;refine h_beginB (m := 6) [.box b9 _] (by repeat constructor) (by kernel_rfl) rfl ?_;refine qT (i := 0) (qB 6 1) (Hp.Le.refl _) rfl rfl (o_buildS trivial rfl (bld26) rfl .nil qF) ?_;refine qT (i := 1) (qB 6 3) (Hp.Le.refl _) rfl rfl (oF 2 Tryz.underlying103 Tryz.sizeOf48 qF) ?_;refine qT (i := 2) (qB 6 7) (Hp.Le.refl _) rfl rfl (oA Tryz.isAgg48 Tryz.sizeOf48 qF) ?_;refine qO (i := 3) (qB 6 15) rfl ?_;refine oS Tryz.sizeOf26 ?_;refine qM (Hp.Le.refl _) ?_;refine qO (i := 4) (qB 6 31) rfl ?_;refine oS Tryz.sizeOf48 ?_;refine qM (Hp.Le.refl _) ?_;refine qT (i := 5) (qB 6 63) (Hp.Le.refl _) rfl rfl (oV qF) ?_;refine h_end (by kernel_rfl) ?_;refine tC (cT (tR (tR ?_)));refine retR rfl (.agg Tryz.isAgg26 Tryz.sizeOf26 rfl (by repeat constructor) rfl (.agg Tryz.isAgg48 Tryz.sizeOf48 rfl (by repeat constructor) rfl (.tmp rfl .nil))) ?_;refine leaf (hx1.trans hx2 (Nat.le_refl _)) (List.nil_sublist _) ?_
    rw [hz, hbad, drop_cons (by simpa using h3)]
    exact ⟨N0, N0, N0, N0, [], rfl, ProgV.nil _, fun o ho => by cases ho⟩
   have f3 := h3;try simp only [bl] at f3
   refine kS ?_;refine o_buildS trivial rfl (bld26) rfl .nil ?_;iterate 2 refine oV ?_
   refine o_lenS trivial rfl Tryz.underlying9 rfl ?_;refine oQ Tryz.call60 rfl (place_any s (s.size : Nat) (by omega)) ?_;refine oS Tryz.sizeOf26 ?_;refine oS Tryz.sizeOf48 ?_;refine oV ?_;refine nF ?_;refine retR rfl (.agg Tryz.isAgg26 Tryz.sizeOf26 rfl (by repeat constructor) rfl (.agg Tryz.isAgg48 Tryz.sizeOf48 rfl (by repeat constructor) rfl (.tmp rfl .nil))) ?_;refine leaf (hx1.trans hx2 (Nat.le_refl _)) (List.nil_sublist _) ?_
   rw [hz, hbad, List.drop_eq_nil_of_le (by have := f3; omega)]
   exact ⟨N0, N0, N0, N0, [], rfl, ProgV.nil _, fun o ho => by cases ho⟩
  have f2 := h2;try simp only [bl] at f2
  have hk : ok = true := by simpa using f2
  obtain ⟨rfl, rfl, rfl, rfl, hok, rfl, hb1, hb2, hb3, hb4⟩ := hyes hk
  have hfew : ∀ o ∈ ns, o.c.few 5 := fun o ho => Prg.few_all hP hfine.ok o.c (List.mem_map.2 ⟨o, ho, rfl⟩)
  refine cK (tC (cS (cS ?_)));refine c_sealR (u := wi) (xss := scs ins) (by repeat constructor) (scs_len _) (scs_one _) (by unfold maxLen; omega) (fun I3 hx3 hsi => ?_);refine c_sealR (u := wl) (xss := ls.map LetC.cells) (by repeat constructor) (List.length_map _) (lts_two _) (by unfold maxLen; omega) (fun I4 hx4 hsl => ?_);refine c_sealR (u := wo) (xss := scs outs) (by repeat constructor) (scs_len _) (scs_one _) (by unfold maxLen; omega) (fun I5 hx5 hso => ?_);refine c_sealR (u := wa) (xss := nds ns) (by repeat constructor) (nds_len _) (nds_eight _) (by unfold maxLen; omega) (fun I6 hx6 hsa => ?_)
  have hsi := hsi.le (hx4.le.trans (hx5.le.trans hx6.le))
  have hsl := hsl.le (hx5.le.trans hx6.le)
  have hso := hso.le hx6.le
  have hpv : ProgV I6 wi wl wo wa ⟨ins, ls, outs, ns.map NodeV.c⟩ ns := ⟨hsi, hsl, hso, hsa, fun o ho => (hok o ho).le (hx3.le.trans (hx4.le.trans (hx5.le.trans hx6.le))), rfl⟩
  have hx16 : Ext w.heap.size I I6 := hx1.trans (hx2.trans (hx3.trans (hx4.trans (hx5.trans hx6 (Nat.le_refl _)) (Nat.le_refl _)) (Nat.le_refl _)) (Nat.le_refl _)) (Nat.le_refl _)
  refine cR ?_;iterate 2 refine oV ?_
  refine oF 3 Tryz.underlying101 Tryz.sizeOf26 ?_;refine oA Tryz.isAgg26 Tryz.sizeOf26 ?_;refine oQ Tryz.call26 rfl (trRight_any wi wl wo wa _ ns hpv (fun o ho => ⟨by have := (hfew o ho).1; omega, by have := (hfew o ho).2; omega⟩)) ?_;refine oV ?_;refine nT ?_;refine cC rfl (fun h4 => ?_) (fun h4 => ?_)
  ·
   have f4 := h4;try simp only [bl] at f4
   refine sR ?_;refine o_buildS trivial rfl (bld26) rfl .nil ?_;refine o_buildS trivial rfl (bld48) rfl (.cons rfl rfl rfl (by repeat constructor) (.cons rfl rfl rfl (by repeat constructor) .nil)) ?_;refine oS Tryz.sizeOf26 ?_;refine oS Tryz.sizeOf48 ?_;refine oV ?_;refine nF ?_;refine retR rfl (.agg Tryz.isAgg26 Tryz.sizeOf26 rfl (by repeat constructor) rfl (.agg Tryz.isAgg48 Tryz.sizeOf48 rfl (by repeat constructor) rfl (.tmp rfl .nil))) ?_;refine leaf hx16 (List.nil_sublist _) ?_
   rw [hz]
   unfold parseT
   dsimp only
   rw [if_neg (by simpa using h4)]
   exact ⟨N0, N0, N0, N0, [], rfl, ProgV.nil _, fun o ho => by cases ho⟩
  have f4 := h4;try simp only [bl] at f4
  refine kS ?_;iterate 2 refine oV ?_
  refine oF 3 Tryz.underlying101 Tryz.sizeOf26 ?_;refine oA Tryz.isAgg26 Tryz.sizeOf26 ?_;refine o_buildS trivial rfl (bld48) rfl .nil ?_;refine oS Tryz.sizeOf26 ?_;refine oS Tryz.sizeOf48 ?_;refine oV ?_;refine nE ?_;refine retR rfl (.agg Tryz.isAgg26 Tryz.sizeOf26 rfl (by repeat constructor) rfl (.agg Tryz.isAgg48 Tryz.sizeOf48 rfl (by repeat constructor) rfl (.tmp rfl .nil))) ?_;refine leaf hx16 (List.nil_sublist _) ?_
  rw [hz]
  unfold parseT
  dsimp only
  rw [if_pos (by simpa using h4)]
  exact ⟨wi, wl, wo, wa, ns, rfl, hpv, hfew⟩
def expoF : List Tok → Option Int × List Tok
  | [] => (none, [])
  | x :: r => if isT x 2 minusS then (match r with
      | [] => (none, [])
      | y :: r' => if y.kind = 1 then (match expoZ y.text with | some n => (some (-(n : Int)), r') | none => (none, y :: r')) else (none, y :: r'))
    else if x.kind = 1 then (match expoZ x.text with | some n => (some (n : Int), r) | none => (none, x :: r)) else (none, x :: r)
theorem Expo.fn {r r1 : List Tok} {e : Option Int} (h : Expo r e r1) : expoF r = (e, r1) := by
  cases h with
  | neg h1 h2 h3 => simp only [expoF, h1, if_true, h2, h3]
  | neg_end h1 => simp only [expoF, h1, if_true]
  | @neg_bad x y r h1 h2 =>
    simp only [expoF, h1, if_true]
    by_cases hk : y.kind = 1
    · rw [if_pos hk, h2 hk]
    · rw [if_neg hk]
  | pos h1 h2 h3 => simp [expoF, h1, h2, h3]
  | pos_end => rfl
  | @pos_bad y r h1 h2 =>
    simp only [expoF, h1]
    by_cases hk : y.kind = 1
    · rw [if_neg (by decide), if_pos hk, h2 hk]
    · rw [if_neg (by decide), if_neg hk]
def psF : Nat → Lv → List NodeC → List Tok → POut
  | 0, _, _, r => .bad r
  | f + 1, .atom, all, r => match r with
    | [] => .bad []
    | x :: r' => if isT x 2 lpar then (match psF f .sum all r' with
        | .bad r1 => .bad r1
        | .ok a1 r1 => if hdT r1 2 rpar then .ok a1 (r1.drop 1) else .bad r1)
      else if leafT x then .ok (all ++ [leafN x]) r' else .bad (x :: r')
  | f + 1, .powL, all, r => match r with
    | [] => .ok all []
    | x :: r' => if isT x 2 Go.Tw.caret then (match expoF r' with
        | (some e, r1) => .ok (all ++ [powN (lastI all) e]) r1
        | (none, r1) => .bad r1) else .ok all (x :: r')
  | f + 1, .power, all, r => match psF f .atom all r with
    | .bad r1 => .bad r1
    | .ok a1 r1 => psF f .powL a1 r1
  | f + 1, .factor, all, r => match r with
    | [] => psF f .power all []
    | x :: r' => if isT x 2 minusS then (match psF f .factor all r' with
        | .bad r1 => .bad r1
        | .ok a1 r1 => .ok (a1 ++ [negN (lastI a1)]) r1) else psF f .power all (x :: r')
  | f + 1, .prodL, all, r => match hdK mulK r with
    | none => .ok all r
    | some k => match psF f .factor all (r.drop 1) with
      | .bad r1 => .bad r1
      | .ok a1 r1 => psF f .prodL (a1 ++ [binN k (lastI all) (lastI a1)]) r1
  | f + 1, .product, all, r => match psF f .factor all r with
    | .bad r1 => .bad r1
    | .ok a1 r1 => psF f .prodL a1 r1
  | f + 1, .sumL, all, r => match hdK addK r with
    | none => .ok all r
    | some k => match psF f .product all (r.drop 1) with
      | .bad r1 => .bad r1
      | .ok a1 r1 => psF f .sumL (a1 ++ [binN k (lastI all) (lastI a1)]) r1
  | f + 1, .sum, all, r => match psF f .product all r with
    | .bad r1 => .bad r1
    | .ok a1 r1 => psF f .sumL a1 r1
def rkL : Lv → Nat
  | .atom => 1
  | .powL => 1
  | .power => 2
  | .factor => 3
  | .prodL => 1
  | .product => 4
  | .sumL => 1
  | .sum => 5
theorem ps_fn {lv : Lv} {all : List NodeC} {r : List Tok} {o : POut} (h : Ps lv all r o) : ∀ f, 8 * r.length + rkL lv ≤ f → psF f lv all r = o := by
  have len1 : ∀ {lv : Lv} {all a1 : List NodeC} {r r1 : List Tok}, Ps lv all r (.ok a1 r1) → r1.length + lv.need ≤ r.length := fun h => h.len
  induction h with
  | par_bad hx h ih =>
    intro f hf
    obtain ⟨f, rfl⟩ : ∃ g, f = g + 1 := ⟨f - 1, by simp only [rkL] at hf; omega⟩
    simp only [List.length_cons, rkL] at hf
    simp only [psF, hx, if_true]
    rw [ih f (by simp only [rkL]; omega)]
  | par_ok hx h hy ih =>
    intro f hf
    obtain ⟨f, rfl⟩ : ∃ g, f = g + 1 := ⟨f - 1, by simp only [rkL] at hf; omega⟩
    simp only [List.length_cons, rkL] at hf
    simp only [psF, hx, if_true]
    rw [ih f (by simp only [rkL]; omega)]
    simp only [hdT, hy, if_true, List.drop_one, List.tail_cons]
  | par_no hx h hy ih =>
    intro f hf
    obtain ⟨f, rfl⟩ : ∃ g, f = g + 1 := ⟨f - 1, by simp only [rkL] at hf; omega⟩
    simp only [List.length_cons, rkL] at hf
    simp only [psF, hx, if_true]
    rw [ih f (by simp only [rkL]; omega)]
    simp only [hy]
    rfl
  | @leaf all x r hl =>
    intro f hf
    obtain ⟨f, rfl⟩ : ∃ g, f = g + 1 := ⟨f - 1, by simp only [rkL] at hf; omega⟩
    have hp : isT x 2 lpar = false := by
      cases hb : isT x 2 lpar with
      | false => rfl
      | true => rw [leafT, (isT_iff.1 hb).1] at hl; exact absurd hl (by simp)
    simp [psF, hp, hl]
  | none =>
    intro f hf
    obtain ⟨f, rfl⟩ : ∃ g, f = g + 1 := ⟨f - 1, by simp only [rkL] at hf; omega⟩
    rfl
  | no h1 h2 =>
    intro f hf
    obtain ⟨f, rfl⟩ : ∃ g, f = g + 1 := ⟨f - 1, by simp only [rkL] at hf; omega⟩
    simp [psF, h1, h2]
  | @pow_none all r h1 =>
    intro f hf
    obtain ⟨f, rfl⟩ : ∃ g, f = g + 1 := ⟨f - 1, by simp only [rkL] at hf; omega⟩
    cases r with
    | nil => rfl
    | cons x r => simp only [hdT] at h1; simp [psF, h1]
  | pow_ok h1 h2 =>
    intro f hf
    obtain ⟨f, rfl⟩ : ∃ g, f = g + 1 := ⟨f - 1, by simp only [rkL] at hf; omega⟩
    simp [psF, h1, Expo.fn h2]
  | pow_bad h1 h2 =>
    intro f hf
    obtain ⟨f, rfl⟩ : ∃ g, f = g + 1 := ⟨f - 1, by simp only [rkL] at hf; omega⟩
    simp [psF, h1, Expo.fn h2]
  | power_bad h ih =>
    intro f hf
    obtain ⟨f, rfl⟩ : ∃ g, f = g + 1 := ⟨f - 1, by simp only [rkL] at hf; omega⟩
    simp only [psF]
    rw [ih f (by simp only [rkL] at hf ⊢; omega)]
  | power_ok h h2 ih ih2 =>
    intro f hf
    obtain ⟨f, rfl⟩ : ∃ g, f = g + 1 := ⟨f - 1, by simp only [rkL] at hf; omega⟩
    have hl := len1 h
    simp only [psF]
    rw [ih f (by simp only [rkL] at hf ⊢; omega)]
    exact ih2 f (by simp only [rkL, Lv.need] at hf hl ⊢; omega)
  | neg_bad hx h ih =>
    intro f hf
    obtain ⟨f, rfl⟩ : ∃ g, f = g + 1 := ⟨f - 1, by simp only [rkL] at hf; omega⟩
    simp only [List.length_cons, rkL] at hf
    simp only [psF, hx, if_true]
    rw [ih f (by simp only [rkL]; omega)]
  | neg_ok hx h ih =>
    intro f hf
    obtain ⟨f, rfl⟩ : ∃ g, f = g + 1 := ⟨f - 1, by simp only [rkL] at hf; omega⟩
    simp only [List.length_cons, rkL] at hf
    simp only [psF, hx, if_true]
    rw [ih f (by simp only [rkL]; omega)]
  | @fac all r o h1 h ih =>
    intro f hf
    obtain ⟨f, rfl⟩ : ∃ g, f = g + 1 := ⟨f - 1, by simp only [rkL] at hf; omega⟩
    have := ih f (by simp only [rkL] at hf ⊢; omega)
    cases r with
    | nil => exact this
    | cons x r =>
      simp only [hdT] at h1
      simp only [psF, h1]
      exact this
  | prodL_end h1 =>
    intro f hf
    obtain ⟨f, rfl⟩ : ∃ g, f = g + 1 := ⟨f - 1, by simp only [rkL] at hf; omega⟩
    simp only [psF, h1]
  | @prodL_bad all x r r1 k hk h ih =>
    intro f hf
    obtain ⟨f, rfl⟩ : ∃ g, f = g + 1 := ⟨f - 1, by simp only [rkL] at hf; omega⟩
    simp only [List.length_cons, rkL] at hf
    have hk' : hdK mulK (x :: r) = some k := hk
    simp only [psF, hk', List.drop_one, List.tail_cons]
    rw [ih f (by simp only [rkL]; omega)]
  | @prodL_ok all a1 x r r1 k o hk h h2 ih ih2 =>
    intro f hf
    obtain ⟨f, rfl⟩ : ∃ g, f = g + 1 := ⟨f - 1, by simp only [rkL] at hf; omega⟩
    simp only [List.length_cons, rkL] at hf
    have hl := len1 h
    have hk' : hdK mulK (x :: r) = some k := hk
    simp only [psF, hk', List.drop_one, List.tail_cons]
    rw [ih f (by simp only [rkL]; omega)]
    exact ih2 f (by simp only [rkL, Lv.need] at hl ⊢; omega)
  | product_bad h ih =>
    intro f hf
    obtain ⟨f, rfl⟩ : ∃ g, f = g + 1 := ⟨f - 1, by simp only [rkL] at hf; omega⟩
    simp only [psF]
    rw [ih f (by simp only [rkL] at hf ⊢; omega)]
  | product_ok h h2 ih ih2 =>
    intro f hf
    obtain ⟨f, rfl⟩ : ∃ g, f = g + 1 := ⟨f - 1, by simp only [rkL] at hf; omega⟩
    have hl := len1 h
    simp only [psF]
    rw [ih f (by simp only [rkL] at hf ⊢; omega)]
    exact ih2 f (by simp only [rkL, Lv.need] at hf hl ⊢; omega)
  | sumL_end h1 =>
    intro f hf
    obtain ⟨f, rfl⟩ : ∃ g, f = g + 1 := ⟨f - 1, by simp only [rkL] at hf; omega⟩
    simp only [psF, h1]
  | @sumL_bad all x r r1 k hk h ih =>
    intro f hf
    obtain ⟨f, rfl⟩ : ∃ g, f = g + 1 := ⟨f - 1, by simp only [rkL] at hf; omega⟩
    simp only [List.length_cons, rkL] at hf
    have hk' : hdK addK (x :: r) = some k := hk
    simp only [psF, hk', List.drop_one, List.tail_cons]
    rw [ih f (by simp only [rkL]; omega)]
  | @sumL_ok all a1 x r r1 k o hk h h2 ih ih2 =>
    intro f hf
    obtain ⟨f, rfl⟩ : ∃ g, f = g + 1 := ⟨f - 1, by simp only [rkL] at hf; omega⟩
    simp only [List.length_cons, rkL] at hf
    have hl := len1 h
    have hk' : hdK addK (x :: r) = some k := hk
    simp only [psF, hk', List.drop_one, List.tail_cons]
    rw [ih f (by simp only [rkL]; omega)]
    exact ih2 f (by simp only [rkL, Lv.need] at hl ⊢; omega)
  | sum_bad h ih =>
    intro f hf
    obtain ⟨f, rfl⟩ : ∃ g, f = g + 1 := ⟨f - 1, by simp only [rkL] at hf; omega⟩
    simp only [psF]
    rw [ih f (by simp only [rkL] at hf ⊢; omega)]
  | sum_ok h h2 ih ih2 =>
    intro f hf
    obtain ⟨f, rfl⟩ : ∃ g, f = g + 1 := ⟨f - 1, by simp only [rkL] at hf; omega⟩
    have hl := len1 h
    simp only [psF]
    rw [ih f (by simp only [rkL] at hf ⊢; omega)]
    exact ih2 f (by simp only [rkL, Lv.need] at hf hl ⊢; omega)
def lt1F (all : List NodeC) (r : List Tok) : LO := match r with
  | [] => .bad []
  | x :: r' => if nameT x then (if hdT r' 2 equalS then (match psF (8 * r'.length + 5) .sum all (r'.drop 1) with
      | .bad r1 => .bad r1
      | .ok a1 r1 => if hdT r1 2 semiS then .ok x.text a1 (r1.drop 1) else .bad r1) else .bad r') else .bad (x :: r')
theorem lt1_fn {all : List NodeC} {r : List Tok} {o : LO} (h : Lt1 all r o) : lt1F all r = o := by
  cases h with
  | noname h0 => cases r with
    | nil => rfl
    | cons x r => simp only [hdN] at h0; simp [lt1F, h0]
  | @noeq x r h0 h1 => simp only [lt1F, h0, if_true, h1]; rfl
  | @sumbad x y r r1 h0 h1 h2 =>
    have h1' : hdT (y :: r) 2 equalS = true := h1
    have := ps_fn h2 (8 * (y :: r).length + 5) (by simp only [rkL, List.length_cons]; omega)
    simp only [lt1F, h0, if_true, h1', List.drop_one, List.tail_cons, this]
  | @nosemi a1 x y r r1 h0 h1 h2 h3 =>
    have h1' : hdT (y :: r) 2 equalS = true := h1
    have := ps_fn h2 (8 * (y :: r).length + 5) (by simp only [rkL, List.length_cons]; omega)
    simp only [lt1F, h0, if_true, h1', List.drop_one, List.tail_cons, this, h3]
    rfl
  | @ok a1 x y z r r1 h0 h1 h2 h3 =>
    have h1' : hdT (y :: r) 2 equalS = true := h1
    have h3' : hdT (z :: r1) 2 semiS = true := h3
    have := ps_fn h2 (8 * (y :: r).length + 5) (by simp only [rkL, List.length_cons]; omega)
    simp only [lt1F, h0, if_true, h1', List.drop_one, List.tail_cons, this, h3']
def ltsF : Nat → List LetC → List NodeC → List Tok → LSO
  | 0, ls, all, r => .bad r
  | f + 1, ls, all, r => if hdT r 0 letS then (match lt1F all (r.drop 1) with
      | .bad r1 => .bad r1
      | .ok n a1 r1 => ltsF f (ls ++ [⟨n, lastI a1⟩]) a1 r1) else .ok ls all r
theorem lts_fn {ls : List LetC} {all : List NodeC} {r : List Tok} {o : LSO} (h : Lts ls all r o) : ∀ f, r.length < f → ltsF f ls all r = o := by
  induction h with
  | fin h0 =>
    intro f hf
    obtain ⟨f, rfl⟩ : ∃ g, f = g + 1 := ⟨f - 1, by omega⟩
    simp [ltsF, h0]
  | @bad ls all x r r1 h0 h1 =>
    intro f hf
    obtain ⟨f, rfl⟩ : ∃ g, f = g + 1 := ⟨f - 1, by omega⟩
    have h0' : hdT (x :: r) 0 letS = true := h0
    simp only [ltsF, h0', if_true, List.drop_one, List.tail_cons, lt1_fn h1]
  | @more ls all a1 x n r r1 o h0 h1 h2 ih =>
    intro f hf
    obtain ⟨f, rfl⟩ : ∃ g, f = g + 1 := ⟨f - 1, by omega⟩
    have hl := h1.len
    have h0' : hdT (x :: r) 0 letS = true := h0
    simp only [List.length_cons] at hf
    simp only [ltsF, h0', if_true, List.drop_one, List.tail_cons, lt1_fn h1, ih f (by omega)]
def prgF (r : List Tok) : PO :=
  if hdT r 0 inS then (match namesZ (r.drop 1) with
    | .bad r1 => .bad r1
    | .ok ins r1 => match ltsF (r1.length + 1) [] [] r1 with
      | .bad r2 => .bad r2
      | .ok ls all r2 => if hdT r2 0 outS then (match namesZ (r2.drop 1) with
          | .bad r3 => .bad r3
          | .ok outs [] => .ok ⟨ins, ls, outs, all⟩
          | .ok outs (z :: r3) => .bad (z :: r3)) else .bad r2) else .bad r
theorem prg_fn {r : List Tok} {o : PO} (h : Prg r o) : prgF r = o := by
  have h0' : ∀ {x : Tok} {r : List Tok} {k : Int} {t : ByteArray}, isT x k t = true → hdT (x :: r) k t = true := fun h => h
  cases h with
  | noin h0 => simp [prgF, h0]
  | insbad h0 h1 => simp [prgF, h0' h0, h1]
  | letsbad h0 h1 h2 => simp [prgF, h0' h0, h1, lts_fn h2 _ (Nat.lt_succ_self _)]
  | noout h0 h1 h2 h3 => simp [prgF, h0' h0, h1, lts_fn h2 _ (Nat.lt_succ_self _), h3]
  | outsbad h0 h1 h2 h3 h4 => simp [prgF, h0' h0, h1, lts_fn h2 _ (Nat.lt_succ_self _), h0' h3, h4]
  | tail h0 h1 h2 h3 h4 => simp [prgF, h0' h0, h1, lts_fn h2 _ (Nat.lt_succ_self _), h0' h3, h4]
  | ok h0 h1 h2 h3 h4 => simp [prgF, h0' h0, h1, lts_fn h2 _ (Nat.lt_succ_self _), h0' h3, h4]
theorem prgZ_fn (r : List Tok) : prgZ r = prgF r := (prg_fn (prgZ_is r)).symm
theorem decodeN_bar (n n' b0 b1 b2 b3 c1 c2 c3 : Nat) (hpos : 1 ≤ n) (hn : n ≤ n') (h1 : 1 < n → c1 = b1) (h2 : 2 < n → c2 = b2) (h3 : 3 < n → c3 = b3)
    (k1 : n = 1 → 1 < n' → c1 / 64 ≠ 2) (k2 : n = 2 → 2 < n' → c2 / 64 ≠ 2) (k3 : n = 3 → 3 < n' → c3 / 64 ≠ 2) : Lib.decodeN n' b0 c1 c2 c3 = Lib.decodeN n b0 b1 b2 b3 := by
  have e1 : (1 < n' ∧ c1 / 64 = 2) ↔ (1 < n ∧ b1 / 64 = 2) := by
    by_cases q : 1 < n
    · rw [h1 q]
      constructor
      · rintro ⟨_, h⟩; exact ⟨q, h⟩
      · rintro ⟨_, h⟩; exact ⟨by omega, h⟩
    · have q1 : n = 1 := by omega
      constructor
      · rintro ⟨p1, p2⟩; exact absurd p2 (k1 q1 p1)
      · rintro ⟨p1, _⟩; omega
  have e2 : ((1 < n' ∧ c1 / 64 = 2) ∧ (2 < n' ∧ c2 / 64 = 2)) ↔ ((1 < n ∧ b1 / 64 = 2) ∧ (2 < n ∧ b2 / 64 = 2)) := by
    by_cases q : 2 < n
    · rw [e1, h2 q]
      constructor
      · rintro ⟨h, _, h'⟩; exact ⟨h, q, h'⟩
      · rintro ⟨h, _, h'⟩; exact ⟨h, by omega, h'⟩
    · constructor
      · rintro ⟨h, p1, p2⟩
        have h' := e1.1 h
        exact absurd p2 (k2 (by omega) p1)
      · rintro ⟨_, p1, _⟩; omega
  have e3 : ((1 < n' ∧ c1 / 64 = 2) ∧ (2 < n' ∧ c2 / 64 = 2) ∧ (3 < n' ∧ c3 / 64 = 2)) ↔ ((1 < n ∧ b1 / 64 = 2) ∧ (2 < n ∧ b2 / 64 = 2) ∧ (3 < n ∧ b3 / 64 = 2)) := by
    constructor
    · rintro ⟨x1, x2, x3⟩
      have y := e2.1 ⟨x1, x2⟩
      by_cases q : 3 < n
      · exact ⟨y.1, y.2, q, by rw [← h3 q]; exact x3.2⟩
      · exact absurd x3.2 (k3 (by omega) x3.1)
    · rintro ⟨x1, x2, x3⟩
      have y := e2.2 ⟨x1, x2⟩
      exact ⟨y.1, y.2, by omega, by rw [h3 x3.1]; exact x3.2⟩
  unfold Lib.decodeN
  by_cases g0 : b0 < 128
  · rw [if_pos g0, if_pos g0]
  · rw [if_neg g0, if_neg g0]
    by_cases g1 : b0 / 32 = 6 ∧ (1 < n ∧ b1 / 64 = 2)
    · rw [if_pos g1, if_pos ⟨g1.1, e1.2 g1.2⟩, h1 g1.2.1]
    · rw [if_neg g1, if_neg (fun h => g1 ⟨h.1, e1.1 h.2⟩)]
      by_cases g2 : b0 / 16 = 14 ∧ (1 < n ∧ b1 / 64 = 2) ∧ (2 < n ∧ b2 / 64 = 2)
      · rw [if_pos g2, if_pos ⟨g2.1, e2.2 g2.2⟩, h1 g2.2.1.1, h2 g2.2.2.1]
      · rw [if_neg g2, if_neg (fun h => g2 ⟨h.1, e2.1 h.2⟩)]
        by_cases g3 : b0 / 8 = 30 ∧ (1 < n ∧ b1 / 64 = 2) ∧ (2 < n ∧ b2 / 64 = 2) ∧ (3 < n ∧ b3 / 64 = 2)
        · rw [if_pos g3, if_pos ⟨g3.1, e3.2 g3.2⟩, h1 g3.2.1.1, h2 g3.2.2.1.1, h3 g3.2.2.2.1]
        · rw [if_neg g3, if_neg (fun h => g3 ⟨h.1, e3.1 h.2⟩)]
def Bl (x : ByteArray) : Prop := x.size = 0 ∨ (x.get! 0).toNat = 10 ∨ (x.get! 0).toNat = 32
theorem get_mid (s x : ByteArray) : (s ++ x).get! s.size = x.get! 0 := get_right s x 0
theorem bl_decode {s x : ByteArray} (hx : Bl x) {i : Nat} (hi : i < s.size) : Utf8.decode (s ++ x) i = Utf8.decode s i := by
  have hsz : (s ++ x).size = s.size + x.size := ByteArray.size_append
  have hm := get_mid s x
  have hstop : s.size < (s ++ x).size → ((s ++ x).get! s.size).toNat / 64 ≠ 2 := fun h => by
    rw [hm]
    rcases hx with h0 | h0 | h0 <;> omega
  rw [Lib.decode_at, Lib.decode_at, get_left s x i hi]
  refine decodeN_bar _ _ _ _ _ _ _ _ _ (by omega) (by omega) (fun h => by rw [get_left s x _ (by omega)]) (fun h => by rw [get_left s x _ (by omega)]) (fun h => by rw [get_left s x _ (by omega)]) (fun h h' => ?_) (fun h h' => ?_) (fun h h' => ?_)
  · rw [show i + 1 = s.size by omega]; exact hstop (by omega)
  · rw [show i + 2 = s.size by omega]; exact hstop (by omega)
  · rw [show i + 3 = s.size by omega]; exact hstop (by omega)
theorem bl_kAt {s x : ByteArray} (hx : Bl x) {i : Nat} (hi : i < s.size) : kAt (s ++ x) i = kAt s i := by unfold kAt; rw [bl_decode hx hi]
theorem kAt_ascii {s : ByteArray} {i : Nat} (h : (s.get! i).toNat < 128) : kAt s i = kindZ (s.get! i).toNat := by unfold kAt; rw [Go.Tw.decode_ascii h]
theorem bl_mid {s x : ByteArray} (hx : Bl x) (h : s.size < (s ++ x).size) : kAt (s ++ x) s.size = 3 ∧ ((s ++ x).get! s.size).toNat ≠ 124 := by
  have hsz : (s ++ x).size = s.size + x.size := ByteArray.size_append
  have hm := get_mid s x
  rcases hx with h0 | h0 | h0
  · omega
  · rw [kAt_ascii (by rw [hm]; omega), hm, h0]; exact ⟨by decide, by decide⟩
  · rw [kAt_ascii (by rw [hm]; omega), hm, h0]; exact ⟨by decide, by decide⟩
theorem bl_run {p : Int → Bool} {s x : ByteArray} (hx : Bl x) (hp : p 3 = false) : ∀ (f i : Nat), s.size ≤ i + f → i ≤ s.size → runAt p (s ++ x) i = runAt p s i
  | 0, i, h, hi => by
    have e : i = s.size := by omega
    subst e
    rw [runAt_end (s := s) (Nat.le_refl _)]
    rcases Nat.lt_or_ge s.size (s ++ x).size with h1 | h1
    · exact runAt_stop h1 (by rw [(bl_mid hx h1).1]; exact hp)
    · rw [runAt_end h1]
      have hsz : (s ++ x).size = s.size + x.size := ByteArray.size_append
      omega
  | f + 1, i, h, hi => by
    rcases Nat.lt_or_ge i s.size with h1 | h1
    · have hsz : (s ++ x).size = s.size + x.size := ByteArray.size_append
      have hw := width_pos s i
      have hin := width_in s i h1
      cases hk : p (kAt s i) with
      | false => rw [runAt_stop h1 hk, runAt_stop (by omega) (by rw [bl_kAt hx h1]; exact hk)]
      | true =>
        rw [runAt_step h1 hk, runAt_step (by omega) (by rw [bl_kAt hx h1]; exact hk), bl_decode hx h1]
        exact bl_run hx hp f _ (by omega) hin
    · exact bl_run hx hp 0 i (by omega) hi
theorem ext_left {s x : ByteArray} {i j : Nat} (hj : j ≤ s.size) : (s ++ x).extract i j = s.extract i j := by
  rw [ByteArray.extract_append]
  have : x.extract (i - s.size) (j - s.size) = ByteArray.empty := ByteArray.extract_eq_empty_iff.2 (by omega)
  rw [this, ByteArray.append_empty]
theorem bl_numEnd {s x : ByteArray} (hx : Bl x) {i : Nat} (hi : i ≤ s.size) : numEnd (s ++ x) i = numEnd s i := by
  have hr := bl_run (p := isDigit) hx rfl s.size i (by omega) hi
  have hle := runAt_le isDigit s i hi
  have hsz : (s ++ x).size = s.size + x.size := ByteArray.size_append
  unfold numEnd
  rw [hr]
  rcases Nat.lt_or_ge (runAt isDigit s i) s.size with h1 | h1
  · rw [get_left s x _ h1, bl_run (p := isDigit) hx rfl s.size (runAt isDigit s i + 1) (by omega) (by omega)]
    by_cases h2 : runAt isDigit s i < s.size ∧ (s.get! (runAt isDigit s i)).toNat = 124 ∧ runAt isDigit s i + 1 < runAt isDigit s (runAt isDigit s i + 1)
    · rw [if_pos h2, if_pos ⟨by omega, h2.2⟩]
    · rw [if_neg h2, if_neg (fun h => h2 ⟨h1, h.2⟩)]
  · rw [if_neg (c := runAt isDigit s i < s.size ∧ _) (by omega)]
    have e : runAt isDigit s i = s.size := by omega
    rw [e, if_neg]
    rintro ⟨h2, h3, _⟩;exact (bl_mid hx h2).2 h3
theorem bl_tok {s x : ByteArray} (hx : Bl x) {i : Nat} (hi : i < s.size) : tokZ (s ++ x) i = tokZ s i := by
  have hw := runAt_le isWord s i (by omega)
  have hn := (numEnd_ge s i (by omega)).2
  have hin := width_in s i hi
  unfold tokZ
  rw [bl_kAt hx hi, bl_run (p := isWord) hx rfl s.size i (by omega) (by omega), bl_numEnd hx (by omega), bl_decode hx hi, ext_left hw, ext_left hn, ext_left hin]
theorem run_tail (p : Int → Bool) (s : ByteArray) (a i : Nat) (ha : a ≤ s.size) : runAt p s (a + i) = a + runAt p (s.extract a s.size) i := by
  have h := runGo_tail p s a ha (s.size - a - i) i
  have hs : (s.extract a s.size).size = s.size - a := by simp
  unfold runAt
  rw [hs, show s.size - (a + i) = s.size - a - i by omega]
  omega
theorem ext_tail {s : ByteArray} {a i j : Nat} (hj : a + j ≤ s.size) : (s.extract a s.size).extract i j = s.extract (a + i) (a + j) := by
  rw [ByteArray.extract_extract, Nat.min_eq_left hj]
theorem numEnd_tail (s : ByteArray) (a i : Nat) (ha : a ≤ s.size) : numEnd s (a + i) = a + numEnd (s.extract a s.size) i := by
  have hs : (s.extract a s.size).size = s.size - a := by simp
  unfold numEnd
  rw [run_tail isDigit s a i ha, get_tail s a _ ha, hs]
  have e := run_tail isDigit s a (runAt isDigit (s.extract a s.size) i + 1) ha
  rw [← Nat.add_assoc] at e
  rw [e]
  by_cases h : runAt isDigit (s.extract a s.size) i < s.size - a ∧ (s.get! (a + runAt isDigit (s.extract a s.size) i)).toNat = 124 ∧ runAt isDigit (s.extract a s.size) i + 1 < runAt isDigit (s.extract a s.size) (runAt isDigit (s.extract a s.size) i + 1)
  · rw [if_pos h, if_pos ⟨by omega, h.2.1, by omega⟩]
  · rw [if_neg h, if_neg (fun h' => h ⟨by omega, h'.2.1, by omega⟩)]
def _root_.Go.Tw.TokR.on (a : Nat) (t : TokR) : TokR := ⟨t.kind, t.text, a + t.stop, t.err⟩
theorem kAt_tail (s : ByteArray) (a i : Nat) (ha : a ≤ s.size) : kAt s (a + i) = kAt (s.extract a s.size) i := by unfold kAt; rw [decode_tail s a i ha]
theorem tok_tail (s : ByteArray) (a i : Nat) (hi : a + i < s.size) : tokZ s (a + i) = (tokZ (s.extract a s.size) i).on a := by
  have ha : a ≤ s.size := by omega
  have hs : (s.extract a s.size).size = s.size - a := by simp
  have hw := runAt_le isWord (s.extract a s.size) i (by omega)
  have hn := (numEnd_ge (s.extract a s.size) i (by omega)).2
  have hin := width_in (s.extract a s.size) i (by omega)
  unfold tokZ
  rw [kAt_tail s a i ha, run_tail isWord s a i ha, numEnd_tail s a i ha, ← decode_tail s a i ha, Nat.add_assoc a i, ← ext_tail (i := i) (j := runAt isWord (s.extract a s.size) i) (by omega), ← ext_tail (i := i) (j := numEnd (s.extract a s.size) i) (by omega), ← ext_tail (i := i) (j := i + (Utf8.decode (s.extract a s.size) i).2) (by omega)]
  by_cases h1 : kAt (s.extract a s.size) i = 1
  · rw [if_pos h1, if_pos h1, show a + runAt isWord (s.extract a s.size) i - (a + i) = runAt isWord (s.extract a s.size) i - i by omega]
    split <;> rfl
  · rw [if_neg h1, if_neg h1]
    by_cases h2 : kAt (s.extract a s.size) i = 2
    · rw [if_pos h2, if_pos h2]
      split
      · rfl
      · split <;> rfl
    · rw [if_neg h2, if_neg h2]
      split <;> rfl
theorem _root_.Go.Tw.Hops.head {s : ByteArray} {i b : Nat} (h : Hops s i b) : i = b ∨ (i < s.size ∧ Hops s (i + (Utf8.decode s i).2) b) := by
  induction h with
  | refl => exact .inl rfl
  | @step j _ hj ih =>
    rcases ih with rfl | ⟨h1, h2⟩
    · exact .inr ⟨hj, .refl⟩
    · exact .inr ⟨h1, h2.step hj⟩
theorem _root_.Go.Tw.Hops.mid {s : ByteArray} {i a b : Nat} (ha : Hops s i a) (hb : Hops s i b) : a ≤ b → Hops s a b := by
  induction ha with
  | refl => intro _; exact hb
  | @step j _ hj ih =>
    intro h
    have hw := width_pos s j
    rcases (ih (by omega)).head with h1 | h1
    · omega
    · exact h1.2
theorem cut_decode {s : ByteArray} {B i : Nat} (hB : B ≤ s.size) (hi : i < B) (h : Hops s i B) : Utf8.decode (s.extract 0 B) i = Utf8.decode s i ∧ Hops s (i + (Utf8.decode s i).2) B ∧ i + (Utf8.decode s i).2 ≤ B := by
  rcases h.head with h1 | ⟨h1, h2⟩
  · omega
  · have hge := h2.ge
    have e := decode_piece s 0 B i hB (by omega) (by rw [Nat.zero_add]; exact hge)
    rw [Nat.zero_add] at e
    exact ⟨e, h2, hge⟩
theorem cut_kAt {s : ByteArray} {B i : Nat} (hB : B ≤ s.size) (hi : i < B) (h : Hops s i B) : kAt (s.extract 0 B) i = kAt s i := by unfold kAt; rw [(cut_decode hB hi h).1]
theorem cut_size {s : ByteArray} {B : Nat} (hB : B ≤ s.size) : (s.extract 0 B).size = B := by rw [ByteArray.size_extract]; omega
theorem cut_run (p : Int → Bool) {s : ByteArray} {B : Nat} (hB : B ≤ s.size) : ∀ (f i : Nat), B ≤ i + f → i ≤ B → Hops s i B → runAt p (s.extract 0 B) i = min (runAt p s i) B
  | 0, i, h, hi, _ => by
    have e : i = B := by omega
    subst e
    have := runAt_ge p s i hB
    rw [runAt_end (by rw [cut_size hB]; omega), cut_size hB]
    omega
  | f + 1, i, h, hi, hh => by
    rcases Nat.lt_or_ge i B with h1 | h1
    · obtain ⟨e1, e2, e3⟩ := cut_decode hB h1 hh
      have hw := width_pos s i
      cases hk : p (kAt s i) with
      | false =>
        rw [runAt_stop (s := s) (by omega) hk, runAt_stop (by rw [cut_size hB]; exact h1) (by rw [cut_kAt hB h1 hh]; exact hk)]
        omega
      | true =>
        rw [runAt_step (s := s) (by omega) hk, runAt_step (by rw [cut_size hB]; exact h1) (by rw [cut_kAt hB h1 hh]; exact hk), e1]
        exact cut_run p hB f _ (by omega) e3 e2
    · exact cut_run p hB 0 i (by omega) hi hh
theorem ext_cut {s : ByteArray} {B i j : Nat} (hj : j ≤ B) : (s.extract 0 B).extract i j = s.extract i j := by
  rw [ByteArray.extract_extract, Nat.zero_add, Nat.zero_add, Nat.min_eq_left hj]
theorem cut_get {s : ByteArray} {B i : Nat} (hB : B ≤ s.size) (hi : i < B) : (s.extract 0 B).get! i = s.get! i := by
  have := get_piece s 0 B i hB (by omega)
  rw [Nat.zero_add] at this
  exact this
theorem cut_numEnd {s : ByteArray} {B i : Nat} (hB : B ≤ s.size) (hi : i ≤ B) (h : Hops s i B) (hn : numEnd s i ≤ B) : numEnd (s.extract 0 B) i = numEnd s i := by
  have hr1 := cut_run isDigit hB B i (by omega) hi h
  have hs1 := runAt_steps isDigit s s.size i (by omega) (by omega)
  have hb := runAt_le isDigit s i (by omega)
  have hsz := cut_size hB
  have hr : runAt isDigit s i ≤ numEnd s i := by
    unfold numEnd
    split
    · rename_i h'; omega
    · exact Nat.le_refl _
  have e1 : runAt isDigit (s.extract 0 B) i = runAt isDigit s i := by rw [hr1]; omega
  have e2 : runAt isDigit s i < B → (s.get! (runAt isDigit s i)).toNat = 124 → runAt isDigit (s.extract 0 B) (runAt isDigit s i + 1) = min (runAt isDigit s (runAt isDigit s i + 1)) B := fun hlt h124 => by
    have hst := hs1.step (show runAt isDigit s i < s.size by omega)
    rw [Go.Tw.decode_ascii (s := s) (i := runAt isDigit s i) (by omega)] at hst
    exact cut_run isDigit hB B _ (by omega) (by show runAt isDigit s i + 1 ≤ B; omega) (hst.mid h (by show runAt isDigit s i + 1 ≤ B; omega))
  unfold numEnd at hn ⊢
  rw [e1, hsz]
  by_cases h2 : runAt isDigit s i < s.size ∧ (s.get! (runAt isDigit s i)).toNat = 124 ∧ runAt isDigit s i + 1 < runAt isDigit s (runAt isDigit s i + 1)
  · rw [if_pos h2] at hn ⊢
    have hlt : runAt isDigit s i < B := by omega
    have e3 := e2 hlt h2.2.1
    rw [cut_get hB hlt, e3, if_pos ⟨hlt, h2.2.1, by omega⟩]
    omega
  · rw [if_neg h2]
    by_cases h3 : runAt isDigit s i < B ∧ ((s.extract 0 B).get! (runAt isDigit s i)).toNat = 124 ∧ runAt isDigit s i + 1 < runAt isDigit (s.extract 0 B) (runAt isDigit s i + 1)
    · exfalso
      obtain ⟨h4, h5, h6⟩ := h3
      rw [cut_get hB h4] at h5
      rw [e2 h4 h5] at h6
      exact h2 ⟨by omega, h5, by omega⟩
    · rw [if_neg h3]
theorem cut_tok {s : ByteArray} {B i : Nat} (hB : B ≤ s.size) (hi : i < B) (h : Hops s i B) (he : (tokZ s i).err = 0) (hst : (tokZ s i).stop ≤ B) : tokZ (s.extract 0 B) i = tokZ s i := by
  obtain ⟨e1, e2, e3⟩ := cut_decode hB hi h
  have ek := cut_kAt hB hi h
  unfold tokZ at he hst ⊢
  rw [ek, e1]
  by_cases h1 : kAt s i = 1
  · rw [if_pos h1] at he hst
    have hle : runAt isWord s i ≤ B := by
      split at hst <;> exact hst
    have hr := cut_run isWord hB B i (by omega) (by omega) h
    rw [Nat.min_eq_left hle] at hr
    rw [if_pos h1, if_pos h1, hr, ext_cut hle]
  · rw [if_neg h1] at he hst
    rw [if_neg h1, if_neg h1]
    by_cases h2 : kAt s i = 2
    · rw [if_pos h2] at he hst
      have hle : numEnd s i ≤ B := by
        split at hst
        · exact hst
        · split at hst <;> exact hst
      rw [if_pos h2, if_pos h2, cut_numEnd hB (by omega) h hle, ext_cut hle]
    · rw [if_neg h2, if_neg h2, ext_cut e3]
def tokAt (s : ByteArray) (i : Nat) : Tok := ⟨(tokZ s i).kind, (tokZ s i).text, (placeZ s i).1, (placeZ s i).2⟩
inductive Lexed (s : ByteArray) : Nat → Nat → List Tok → Prop
  | refl (i : Nat) : Lexed s i i []
  | blank {i j : Nat} {ts : List Tok} : i < s.size → kAt s i = 3 → Lexed s (i + 1) j ts → Lexed s i j ts
  | tok {i j : Nat} {ts : List Tok} : i < s.size → kAt s i ≠ 3 → (tokZ s i).err = 0 → Lexed s (tokZ s i).stop j ts → Lexed s i j (tokAt s i :: ts)
theorem Lexed.trans {s : ByteArray} {i j k : Nat} {ts us : List Tok} (h : Lexed s i j ts) (h2 : Lexed s j k us) : Lexed s i k (ts ++ us) := by
  induction h with
  | refl => exact h2
  | blank a b _ ih => exact .blank a b (ih h2)
  | tok a b c _ ih => exact .tok a b c (ih h2)
theorem Lexed.hops {s : ByteArray} {i j : Nat} {ts : List Tok} (h : Lexed s i j ts) : Hops s i j := by
  induction h with
  | refl => exact .refl
  | blank a b _ ih =>
    have := (Hops.refl (s := s)).step a
    rw [kAt_three b] at this
    exact this.trans ih
  | tok a b c _ ih => exact (tok_hops a c).trans ih
theorem Lexed.few {s : ByteArray} {i j : Nat} {ts : List Tok} (h : Lexed s i j ts) : i + ts.length ≤ j := by
  induction h with
  | refl => simp
  | blank a b _ ih => omega
  | tok a b c _ ih => have := tokZ_stop a c; simp only [List.length_cons]; omega
theorem Lexed.lex {s : ByteArray} {i j : Nat} {ts : List Tok} (h : Lexed s i j ts) : ∀ out : List Tok, out.length + ts.length ≤ 4000 → lexAt s i out = lexAt s j (out ++ ts) := by
  induction h with
  | refl => intro out _; rw [List.append_nil]
  | blank a b _ ih => intro out hl; rw [lexAt_open a, if_pos b]; exact ih out hl
  | tok a b c _ ih =>
    intro out hl
    simp only [List.length_cons] at hl
    rw [lexAt_open a, if_neg b, if_neg (by omega), if_neg (not_not_intro c), ih _ (by simp; omega), List.append_assoc]
    rfl
theorem Lexed.all (s : ByteArray) : ∀ (f i : Nat), s.size ≤ i + f → i ≤ s.size → ∃ j ts, Lexed s i j ts ∧ (j = s.size ∨ (j < s.size ∧ kAt s j ≠ 3 ∧ (tokZ s j).err ≠ 0))
  | 0, i, h, hi => ⟨i, [], .refl i, .inl (by omega)⟩
  | f + 1, i, h, hi => by
    rcases Nat.lt_or_ge i s.size with h1 | h1
    · by_cases h3 : kAt s i = 3
      · obtain ⟨j, ts, a, b⟩ := Lexed.all s f (i + 1) (by omega) (by omega)
        exact ⟨j, ts, .blank h1 h3 a, b⟩
      · by_cases h4 : (tokZ s i).err = 0
        · have hst := tokZ_stop h1 h4
          obtain ⟨j, ts, a, b⟩ := Lexed.all s f (tokZ s i).stop (by omega) hst.2
          exact ⟨j, _, .tok h1 h3 h4 a, b⟩
        · exact ⟨i, [], .refl i, .inr ⟨h1, h3, h4⟩⟩
    · exact ⟨i, [], .refl i, .inl (by omega)⟩
theorem Lexed.bad {s : ByteArray} {ts : List Tok} {j : Nat} (hs : s.size ≤ 4000) (h : Lexed s 0 j ts) (h1 : j < s.size) (h2 : kAt s j ≠ 3) (h3 : (tokZ s j).err ≠ 0) : lexZ s = ⟨[], (placeZ s j).1, (placeZ s j).2, (tokZ s j).err⟩ := by
  have hf := h.few
  rw [lexZ_at (by omega), h.lex [] (by simp; omega), lexAt_open h1, if_neg h2, if_neg (by simp; omega), if_pos h3]
theorem bl_place {s x : ByteArray} (hx : Bl x) {i : Nat} (h : Hops s 0 i) : Hops (s ++ x) 0 i ∧ placeZ (s ++ x) i = placeZ s i := by
  induction h with
  | refl => exact ⟨.refl, by rw [show ((0 : Nat) : Int) = 0 from rfl, placeZ_first, placeZ_first]⟩
  | @step j h hj ih =>
    have hsz : (s ++ x).size = s.size + x.size := ByteArray.size_append
    have hd := bl_decode hx hj
    have h1 := ih.1.step (show j < (s ++ x).size by omega)
    have h2 := place_step ih.1 (show j < (s ++ x).size by omega)
    rw [hd] at h1 h2
    exact ⟨h1, by rw [h2, place_step h hj, ih.2]⟩
theorem bl_tokAt {s x : ByteArray} (hx : Bl x) {i : Nat} (hi : i < s.size) (h : Hops s 0 i) : tokAt (s ++ x) i = tokAt s i := by unfold tokAt; rw [bl_tok hx hi, (bl_place hx h).2]
theorem Lexed.bl {s x : ByteArray} (hx : Bl x) {i j : Nat} {ts : List Tok} (h : Lexed s i j ts) : Hops s 0 i → Lexed (s ++ x) i j ts := by
  have hsz : (s ++ x).size = s.size + x.size := ByteArray.size_append
  induction h with
  | refl => intro _; exact .refl _
  | blank a b _ ih =>
    intro h0
    have h1 := h0.step a
    rw [kAt_three b] at h1
    exact .blank (by omega) (by rw [bl_kAt hx a]; exact b) (ih h1)
  | tok a b c _ ih =>
    intro h0
    have h1 := h0.trans (tok_hops a c)
    rw [← bl_tokAt hx a h0]
    exact .tok (by omega) (by rw [bl_kAt hx a]; exact b) (by rw [bl_tok hx a]; exact c) (by rw [bl_tok hx a]; exact ih h1)
theorem cut_place {s : ByteArray} {B i : Nat} (hB : B ≤ s.size) (h : Hops s 0 i) (hi : i ≤ B) : placeZ (s.extract 0 B) i = placeZ s i := by
  have hw := width_pos (s.extract 0 B) i
  obtain ⟨h1, hr⟩ := steps_piece (Hops.refl (s := s) (a := 0)) hB h hi
  rw [show ((0 : Nat) : Int) = 0 from rfl, placeZ_first] at hr
  have e := hr.here (at_ := (i : Int)) (by omega) (.inl (by rw [Nat.sub_zero]; omega))
  rw [e]
  refine Prod.ext (by simp only; omega) ?_
  simp only
  split <;> omega
theorem Lexed.ge {s : ByteArray} {i j : Nat} {ts : List Tok} (h : Lexed s i j ts) : i ≤ j := h.hops.ge
theorem Lexed.cut {s : ByteArray} {B i j : Nat} {ts : List Tok} (hB : B ≤ s.size) (h : Lexed s i j ts) : Hops s 0 i → Hops s j B → Lexed (s.extract 0 B) i j ts := by
  have hsz := cut_size hB
  induction h with
  | refl => intro _ _; exact .refl _
  | @blank i j ts a b c ih =>
    intro h0 hj
    have h1 := (Hops.refl (s := s)).step a
    rw [kAt_three b] at h1
    have hle := (c.hops.trans hj).ge
    exact .blank (by omega) (by rw [cut_kAt hB (by omega) (h1.trans (c.hops.trans hj))]; exact b) (ih (h0.trans h1) hj)
  | @tok i j ts a b c d ih =>
    intro h0 hj
    have h1 := tok_hops a c
    have hst := tokZ_stop a c
    have hle := (d.hops.trans hj).ge
    have hh := h1.trans (d.hops.trans hj)
    have ht := cut_tok hB (by omega) hh c hle
    have e : tokAt (s.extract 0 B) i = tokAt s i := by unfold tokAt; rw [ht, cut_place hB h0 (by omega)]
    rw [← e]
    exact .tok (by omega) (by rw [cut_kAt hB (by omega) hh]; exact b) (by rw [ht]; exact c) (by rw [ht]; exact ih (h0.trans h1) hj)
theorem Lexed.split {s : ByteArray} {i j : Nat} {ts : List Tok} (h : Lexed s i j ts) : ∀ n (hn : n < ts.length), ∃ k, Lexed s i k (ts.take n) ∧ k < s.size ∧ kAt s k ≠ 3 ∧ (tokZ s k).err = 0 ∧ ts[n] = tokAt s k ∧ Lexed s (tokZ s k).stop j (ts.drop (n + 1)) := by
  induction h with
  | refl => intro n hn; simp at hn
  | blank a b _ ih =>
    intro n hn
    obtain ⟨k, h1, h2⟩ := ih n hn
    exact ⟨k, .blank a b h1, h2⟩
  | @tok i j ts a b c d ih =>
    intro n hn
    cases n with
    | zero => exact ⟨i, .refl i, a, b, c, rfl, d⟩
    | succ n =>
      obtain ⟨k, h1, h2, h3, h4, h5, h6⟩ := ih n (by simpa using hn)
      exact ⟨k, .tok a b c h1, h2, h3, h4, by simpa using h5, h6⟩
structure Good (t : Tok) : Prop where
  some : 0 < t.text.size
  kind : kAt t.text 0 ≠ 3
  same : tokZ t.text 0 = ⟨t.kind, t.text, t.text.size, 0⟩
theorem tok_text {s : ByteArray} {i : Nat} (hi : i < s.size) (h : (tokZ s i).err = 0) : (tokZ s i).text = s.extract i (tokZ s i).stop := by
  unfold tokZ at h ⊢
  by_cases h1 : kAt s i = 1
  · rw [if_pos h1] at h ⊢
    split
    · rename_i h2; rw [if_pos h2] at h; simp at h
    · rfl
  · rw [if_neg h1] at h ⊢
    by_cases h2 : kAt s i = 2
    · rw [if_pos h2] at h ⊢
      split
      · rename_i h5; rw [if_pos h5] at h; simp at h
      · rename_i h5
        rw [if_neg h5] at h
        split
        · rfl
        · rename_i h6; rw [if_neg h6] at h; simp at h
    · rw [if_neg h2] at h ⊢
      by_cases h3 : kAt s i = 4
      · rw [if_pos h3]
      · rw [if_neg h3] at h; simp at h
theorem tok_good {s : ByteArray} {i : Nat} (hi : i < s.size) (h3 : kAt s i ≠ 3) (h : (tokZ s i).err = 0) : Good (tokAt s i) := by
  have hst := tokZ_stop hi h
  have htx := tok_text hi h
  have hc := cut_tok hst.2 hst.1 (tok_hops hi h) h (Nat.le_refl _)
  have hsz := cut_size hst.2
  have hk := cut_kAt hst.2 hst.1 (tok_hops hi h)
  have hx : (s.extract 0 (tokZ s i).stop).extract i (s.extract 0 (tokZ s i).stop).size = (tokZ s i).text := by rw [hsz, ext_cut (Nat.le_refl _), htx]
  have ht := tok_tail (s.extract 0 (tokZ s i).stop) i 0 (by omega)
  have hkt := kAt_tail (s.extract 0 (tokZ s i).stop) i 0 (by omega)
  rw [Nat.add_zero, hx] at ht hkt
  have hlen : (tokZ s i).text.size = (tokZ s i).stop - i := by rw [htx, ByteArray.size_extract]; omega
  refine ⟨by show 0 < (tokZ s i).text.size; omega, by show kAt (tokZ s i).text 0 ≠ 3; rw [← hkt, hk]; exact h3, ?_⟩
  show tokZ (tokZ s i).text 0 = ⟨(tokZ s i).kind, (tokZ s i).text, (tokZ s i).text.size, 0⟩
  rw [hc] at ht
  generalize tokZ (tokZ s i).text 0 = y at ht
  obtain ⟨y1, y2, y3, y4⟩ := y
  have g1 := congrArg TokR.kind ht
  have g2 := congrArg TokR.text ht
  have g3 := congrArg TokR.stop ht
  have g4 := congrArg TokR.err ht
  simp only [TokR.on] at g1 g2 g3 g4
  rw [g1, g2]
  have e3 : y3 = y2.size := by rw [← g2]; omega
  have e4 : y4 = 0 := by omega
  rw [e3, e4]
theorem Lexed.good {s : ByteArray} {i j : Nat} {ts : List Tok} (h : Lexed s i j ts) : ∀ t ∈ ts, Good t := by
  induction h with
  | refl => intro t ht; cases ht
  | blank a b _ ih => exact ih
  | tok a b c _ ih =>
    intro t ht
    rcases List.mem_cons.1 ht with rfl | ht
    · exact tok_good a b c
    · exact ih t ht
inductive Likes : List Tok → List Tok → Prop
  | nil : Likes [] []
  | cons {t u : Tok} {ts us : List Tok} : (t.kind = u.kind ∧ t.text = u.text) → Likes ts us → Likes (t :: ts) (u :: us)
theorem Likes.len {ts us : List Tok} (h : Likes ts us) : ts.length = us.length := by
  induction h with
  | nil => rfl
  | cons _ _ ih => simp [ih]
theorem Likes.get {ts us : List Tok} (h : Likes ts us) : ∀ i (h1 : i < ts.length) (h2 : i < us.length), (ts[i]).kind = (us[i]).kind ∧ (ts[i]).text = (us[i]).text := by
  induction h with
  | nil => intro i h1; simp at h1
  | cons a _ ih =>
    intro i h1 h2
    cases i with
    | zero => exact a
    | succ i => exact ih i (by simpa using h1) (by simpa using h2)
structure Plus (u : ByteArray) (n : Nat) : Prop where
  le : n ≤ u.size
  few : u.size ≤ 60000
  get : ∀ i, i < n → (u.get! i).toNat = 43
theorem Plus.kAt {u : ByteArray} {n i : Nat} (h : Plus u n) (hi : i < n) : kAt u i = 4 := by
  rw [kAt_ascii (by rw [h.get i hi]; omega), h.get i hi]; decide
theorem Plus.dec {u : ByteArray} {n i : Nat} (h : Plus u n) (hi : i < n) : Utf8.decode u i = (43, 1) := by
  rw [Go.Tw.decode_ascii (by rw [h.get i hi]; omega), h.get i hi]
theorem Plus.tok {u : ByteArray} {n i : Nat} (h : Plus u n) (hi : i < n) : (tokZ u i).err = 0 ∧ (tokZ u i).stop = i + 1 := by
  unfold tokZ
  rw [h.kAt hi, h.dec hi]
  exact ⟨rfl, rfl⟩
theorem Plus.place {u : ByteArray} {n : Nat} (h : Plus u n) : ∀ i, i ≤ n → Hops u 0 i ∧ placeZ u i = (1, (i : Int) + 1)
  | 0, _ => ⟨.refl, placeZ_first u⟩
  | i + 1, hi => by
    have ih := h.place i (by omega)
    have hl := h.le
    have h1 := ih.1.step (show i < u.size by omega)
    have h2 := place_step ih.1 (show i < u.size by omega)
    rw [h.dec (by omega)] at h1 h2
    refine ⟨h1, ?_⟩
    rw [h2, if_neg (by decide), ih.2]
    exact Prod.ext rfl (by show (i : Int) + 1 + 1 = ((i + 1 : Nat) : Int) + 1; omega)
def DgS (s : ByteArray) : Prop := ∀ j, j < s.size → 48 ≤ (s.get! j).toNat ∧ (s.get! j).toNat ≤ 57
theorem byte_nat {n : Nat} (h : n ≤ 57) : (UInt8.ofNat n).toNat = n := by
  rw [UInt8.toNat_ofNat']; omega
theorem decS_list (n : Nat) : (decS n).toList = (digs n).reverse.map UInt8.ofNat := by
  rw [toList_data]
  unfold decS decL strOf
  simp [List.map_map]
theorem decS_dg (n : Nat) : DgS (decS n) := by
  intro j hj
  have h1 := get_toList hj
  rw [decS_list, List.getElem?_map] at h1
  cases hx : (digs n).reverse[j]? with
  | none => rw [hx] at h1; cases h1
  | some x =>
    rw [hx] at h1
    have hb := digs_byte n x (List.mem_reverse.1 (List.mem_of_getElem? hx))
    have e := Option.some.inj h1
    rw [← e, byte_nat hb.2]
    exact hb
theorem digs_val : ∀ n : Nat, decN ((digs n).reverse.map UInt8.ofNat) = n := by
  intro n
  induction n using Nat.strongRecOn with
  | ind n ih =>
    rw [digs]
    split
    · rename_i h
      show 10 * 0 + ((UInt8.ofNat (48 + n)).toNat - 48) = n
      rw [byte_nat (by omega)]
      omega
    · rename_i h
      rw [List.reverse_cons, List.map_append, List.map_cons, List.map_nil, decN_app, ih (n / 10) (by omega), byte_nat (by omega)]
      omega
theorem decS_val (n : Nat) : decN (decS n).toList = n := by rw [decS_list]; exact digs_val n
theorem digs_top : ∀ n : Nat, 10 ≤ n → ∃ x l, (digs n).reverse = x :: l ∧ x ≠ 48 := by
  intro n
  induction n using Nat.strongRecOn with
  | ind n ih =>
    intro h
    rw [digs, dif_neg (by omega), List.reverse_cons]
    by_cases h1 : n / 10 < 10
    · rw [digs, dif_pos h1]
      exact ⟨48 + n / 10, [48 + n % 10], rfl, by omega⟩
    · obtain ⟨x, l, e, hx⟩ := ih (n / 10) (by omega) (by omega)
      rw [e]
      exact ⟨x, l ++ [48 + n % 10], rfl, hx⟩
theorem decS_one {n : Nat} (h : n < 10) : (decS n).size = 1 := by rw [decS_size, digs, dif_pos h]; rfl
theorem decS_top (n : Nat) : (decS n).size = 1 ∨ ((decS n).get! 0).toNat ≠ 48 := by
  by_cases h : n < 10
  · exact .inl (decS_one h)
  · refine .inr ?_
    obtain ⟨x, l, e, hx⟩ := digs_top n (by omega)
    have hp := digs_pos n
    have h1 := get_toList (s := decS n) (j := 0) (by rw [decS_size]; exact hp)
    have hb := digs_byte n x (List.mem_reverse.1 (by rw [e]; exact List.mem_cons_self))
    rw [decS_list, e] at h1
    have e2 := Option.some.inj h1
    rw [← e2, byte_nat hb.2]
    exact hx
theorem dg_kAt {s : ByteArray} {i : Nat} (h : 48 ≤ (s.get! i).toNat ∧ (s.get! i).toNat ≤ 57) : kAt s i = 2 ∧ (Utf8.decode s i).2 = 1 := by
  have h1 : kAt s i = 2 := by
    rw [kAt_ascii (by omega)]
    exact kindZ_two.2 ⟨by omega, by omega⟩
  exact ⟨h1, (kAt_two h1).1⟩
theorem run_dg {s : ByteArray} {b : Nat} (hb : b ≤ s.size) (hstop : b < s.size → isDigit (kAt s b) = false) : ∀ (f i : Nat), b ≤ i + f → i ≤ b → (∀ j, i ≤ j → j < b → 48 ≤ (s.get! j).toNat ∧ (s.get! j).toNat ≤ 57) → runAt isDigit s i = b := by
  intro f
  induction f with
  | zero =>
    intro i h1 h2 _
    have : i = b := by omega
    subst this
    rcases Nat.lt_or_ge i s.size with h | h
    · exact runAt_stop h (hstop h)
    · rw [runAt_end h]; omega
  | succ f ih =>
    intro i h1 h2 hd
    by_cases hi : i < b
    · have hk := dg_kAt (hd i (Nat.le_refl _) hi)
      rw [runAt_step (by omega) (by rw [hk.1]; rfl), hk.2]
      exact ih (i + 1) (by omega) (by omega) fun j hj => hd j (by omega)
    · have : i = b := by omega
      subst this
      rcases Nat.lt_or_ge i s.size with h | h
      · exact runAt_stop h (hstop h)
      · rw [runAt_end h]; omega
theorem dg_run {s : ByteArray} (h : DgS s) {i : Nat} (hi : i ≤ s.size) : runAt isDigit s i = s.size :=
  run_dg (Nat.le_refl _) (fun h => absurd h (Nat.lt_irrefl _)) s.size i (by omega) hi fun j _ hj => h j hj
theorem part_of {s : ByteArray} (h : DgS s) (h1 : 1 ≤ s.size) (h2 : s.size ≤ 40) (h3 : s.size = 1 ∨ (s.get! 0).toNat ≠ 48) : partZ s = true := by
  unfold partZ
  rw [dg_run h (Nat.zero_le _)]
  simp only [Bool.and_eq_true, Bool.or_eq_true, decide_eq_true_eq]
  exact ⟨⟨⟨h1, h2⟩, trivial⟩, h3⟩
theorem decS_part {n : Nat} (h : (digs n).length ≤ 40) : partZ (decS n) = true :=
  part_of (decS_dg n) (by rw [decS_size]; exact digs_pos n) (by rw [decS_size]; exact h) (decS_top n)
theorem dg_cut {s : ByteArray} (h : DgS s) : ∀ (f i : Nat), s.size ≤ i + f → i ≤ s.size → cutGo s (s.size - i) i = s.size := by
  intro f
  induction f with
  | zero => intro i h1 h2; exact cutGo_end (by omega)
  | succ f ih =>
    intro i h1 h2
    rcases Nat.lt_or_ge i s.size with hi | hi
    · rw [cutGo_step hi (by have := h i hi; omega)]
      exact ih (i + 1) (by omega) hi
    · exact cutGo_end hi
theorem dg_cutZ {s : ByteArray} (h : DgS s) : cutZ s = s.size := dg_cut h s.size 0 (by omega) (Nat.zero_le _)
theorem cut_first {s : ByteArray} {b : Nat} (hb : b < s.size) (h1 : (s.get! b).toNat = 124) (h : ∀ j, j < b → (s.get! j).toNat ≠ 124) : cutZ s = b := by
  have key : ∀ (f i : Nat), b ≤ i + f → i ≤ b → cutGo s (s.size - i) i = b := by
    intro f
    induction f with
    | zero =>
      intro i k1 k2
      have : i = b := by omega
      subst this
      exact cutGo_stop hb h1
    | succ f ih =>
      intro i k1 k2
      by_cases hi : i < b
      · rw [cutGo_step (by omega) (h i hi)]
        exact ih (i + 1) (by omega) hi
      · have : i = b := by omega
        subst this
        exact cutGo_stop hb h1
  exact key b 0 (by omega) (Nat.zero_le _)
def ratS (q : Rat) : ByteArray := if q.den = 1 then decS q.num.natAbs else decS q.num.natAbs ++ ⟨#[124]⟩ ++ decS q.den
structure NumS (s : ByteArray) (q : Rat) : Prop where
  num : numZ s = true
  val : numQ s = q
  good : Good ⟨1, s, 0, 0⟩
theorem good_num {s : ByteArray} (h0 : 0 < s.size) (hd : 48 ≤ (s.get! 0).toNat ∧ (s.get! 0).toNat ≤ 57) (hn : numZ s = true) (he : numEnd s 0 = s.size) (hc : cutZ s ≤ 40) (hc2 : s.size - cutZ s ≤ 41) : Good ⟨1, s, 0, 0⟩ := by
  have hk := (dg_kAt hd).1
  refine ⟨h0, by show kAt s 0 ≠ 3; rw [hk]; decide, ?_⟩
  show tokZ s 0 = ⟨1, s, s.size, 0⟩
  unfold tokZ
  rw [if_neg (by rw [hk]; decide), if_pos hk, he, cut_full, if_neg (by omega), if_pos hn]
theorem num_whole {n : Nat} (h : (digs n).length ≤ 40) : NumS (decS n) (mkRat n 1) := by
  have hd := decS_dg n
  have hp := decS_part h
  have hs : 0 < (decS n).size := by rw [decS_size]; exact digs_pos n
  have hc := dg_cutZ hd
  have hn : numZ (decS n) = true := by unfold numZ; rw [if_pos hc]; exact hp
  refine ⟨hn, ?_, good_num hs (hd 0 hs) hn ?_ (by rw [hc, decS_size]; exact h) (by rw [hc]; omega)⟩
  · unfold numQ
    rw [if_pos hc, hc, cut_full, decS_val]
  · unfold numEnd
    rw [dg_run hd (Nat.zero_le _), if_neg (by omega)]
theorem num_both {n d : Nat} (h : (digs n).length ≤ 40) (h2 : (digs d).length ≤ 40) (hd0 : d ≠ 0) : NumS (decS n ++ ⟨#[124]⟩ ++ decS d) (mkRat n d) := by
  generalize hs : decS n ++ (⟨#[124]⟩ : ByteArray) ++ decS d = s
  have hdn := decS_dg n
  have hdd := decS_dg d
  have hn0 : 0 < (decS n).size := by rw [decS_size]; exact digs_pos n
  have hd1 : 0 < (decS d).size := by rw [decS_size]; exact digs_pos d
  have hn4 : (decS n).size ≤ 40 := by rw [decS_size]; exact h
  have hd4 : (decS d).size ≤ 40 := by rw [decS_size]; exact h2
  have hsz : s.size = (decS n).size + 1 + (decS d).size := by rw [← hs, ByteArray.size_append, ByteArray.size_append]; rfl
  have hsz1 : (decS n ++ (⟨#[124]⟩ : ByteArray)).size = (decS n).size + 1 := by rw [ByteArray.size_append]; rfl
  have g1 : ∀ j, j < (decS n).size → s.get! j = (decS n).get! j := fun j hj => by rw [← hs, get_left _ _ _ (by omega), get_left _ _ _ hj]
  have g2 : (s.get! (decS n).size).toNat = 124 := by
    rw [← hs, get_left _ _ _ (by omega)]
    have := get_right (decS n) ⟨#[124]⟩ 0
    rw [Nat.add_zero] at this
    rw [this]; rfl
  have g3 : ∀ j, s.get! ((decS n).size + 1 + j) = (decS d).get! j := fun j => by
    rw [← hs, ← hsz1]; exact get_right _ _ _
  have hcut : cutZ s = (decS n).size := cut_first (by omega) g2 fun j hj => by rw [g1 j hj]; have := hdn j hj; omega
  have x1 : s.extract 0 (decS n).size = decS n := by rw [← hs, ByteArray.append_assoc]; exact ByteArray.extract_append_eq_left rfl
  have x2 : s.extract ((decS n).size + 1) s.size = decS d := by
    have := tail_of (decS n ++ (⟨#[124]⟩ : ByteArray)) (decS d)
    rw [hs, hsz1] at this
    exact this
  have hnot : ((decS d).toList == (ByteArray.mk #[48]).toList) = false := by
    rw [beq_eq_false_iff_ne]
    intro e
    have := decS_val d
    rw [e, toList_data] at this
    exact hd0 this.symm
  have hn : numZ s = true := by
    unfold numZ
    rw [if_neg (by omega), hcut, x1, x2, decS_part h, decS_part h2, hnot]
    rfl
  have r1 : runAt isDigit s 0 = (decS n).size := run_dg (by omega) (fun _ => by
    rw [kAt_ascii (by omega), g2]; rfl) s.size 0 (by omega) (Nat.zero_le _) fun j _ hj => by rw [g1 j hj]; exact hdn j hj
  have r2 : runAt isDigit s ((decS n).size + 1) = s.size := run_dg (Nat.le_refl _) (fun h => absurd h (Nat.lt_irrefl _)) s.size _ (by omega) (by omega) fun j h1 h2 => by
    obtain ⟨k, rfl⟩ : ∃ k, j = (decS n).size + 1 + k := ⟨j - ((decS n).size + 1), by omega⟩
    rw [g3]; exact hdd k (by omega)
  refine ⟨hn, ?_, good_num (by omega) (by rw [g1 0 hn0]; exact hdn 0 hn0) hn ?_ (by omega) (by omega)⟩
  · unfold numQ
    rw [if_neg (by omega), hcut, x1, x2, decS_val, decS_val]
  · unfold numEnd
    rw [r1, if_pos ⟨by omega, g2, by rw [r2]; omega⟩, r2]
theorem num_rat {q : Rat} (h0 : 0 ≤ q.num) (h1 : (digs q.num.natAbs).length ≤ 40) (h2 : (digs q.den).length ≤ 40) : NumS (ratS q) q := by
  have e : ((q.num.natAbs : Nat) : Int) = q.num := by omega
  have hq : mkRat (q.num.natAbs : Int) q.den = q := by rw [e]; exact Rat.mkRat_self q
  unfold ratS
  split
  · rename_i hd
    have := num_whole h1
    rw [hd] at hq
    rw [hq] at this
    exact this
  · have := num_both h1 h2 q.den_nz
    rw [hq] at this
    exact this
theorem expo_dec {n : Nat} (h : n ≤ 20) : expoZ (decS n) = some n := by
  have hv := decS_val n
  have hd := decS_dg n
  unfold expoZ
  by_cases h1 : n < 10
  · rw [if_pos (decS_one h1), hv]
  · have hs : (decS n).size = 2 := by rw [decS_size, digs, dif_neg h1, digs, dif_pos (by omega)]; rfl
    rw [if_neg (by omega), if_pos ⟨hs, by have := hd 1 (by omega); omega, by rw [hv]; exact h⟩, hv]
def tk (k : Int) (s : ByteArray) : Tok := ⟨k, s, 0, 0⟩
def signS (k : Int) : ByteArray := if k = 2 then plusS else if k = 3 then minusS else if k = 4 then starS else slashS
def restK : List ByteArray → List Tok
  | [] => [tk 2 semiS]
  | s :: l => tk 2 commaS :: tk 0 s :: restK l
def namesK (key : ByteArray) : List ByteArray → List Tok
  | [] => [tk 0 key, tk 2 semiS]
  | s :: l => tk 0 key :: tk 0 s :: restK l
theorem isT_tk (k : Int) (s : ByteArray) : isT (tk k s) k s = true := by simp [isT, tk]
theorem isT_ne {k : Int} {s t : ByteArray} (h : s.data.toList ≠ t.data.toList) : isT (tk k s) k t = false := by
  unfold isT tk
  rw [toList_data, toList_data]
  have : (s.data.toList == t.data.toList) = false := by simpa using h
  rw [this, Bool.and_false]
theorem isT_kd {x : Tok} {k : Int} {t : ByteArray} (h : x.kind ≠ k) : isT x k t = false := by simp [isT, h]
structure Ends (r : List Tok) : Prop where
  pw : hdT r 2 Go.Tw.caret = false
  ml : hdK mulK r = none
  ad : hdK addK r = none
theorem mulK_none {x : Tok} (h1 : isT x 2 starS = false) (h2 : isT x 2 slashS = false) : mulK x = none := by unfold mulK; rw [if_neg (by rw [h1]; decide), if_neg (by rw [h2]; decide)]
theorem addK_none {x : Tok} (h1 : isT x 2 plusS = false) (h2 : isT x 2 minusS = false) : addK x = none := by unfold addK; rw [if_neg (by rw [h1]; decide), if_neg (by rw [h2]; decide)]
theorem ends_rpar (r : List Tok) : Ends (tk 2 rpar :: r) := ⟨isT_ne (by decide), mulK_none (isT_ne (by decide)) (isT_ne (by decide)), addK_none (isT_ne (by decide)) (isT_ne (by decide))⟩
theorem ends_semi (r : List Tok) : Ends (tk 2 semiS :: r) := ⟨isT_ne (by decide), mulK_none (isT_ne (by decide)) (isT_ne (by decide)), addK_none (isT_ne (by decide)) (isT_ne (by decide))⟩
theorem sign_pow (k : Int) (r : List Tok) : hdT (tk 2 (signS k) :: r) 2 Go.Tw.caret = false := by
  unfold signS
  split
  · exact isT_ne (by decide)
  · split
    · exact isT_ne (by decide)
    · split <;> exact isT_ne (by decide)
theorem sign_mul {k : Int} (h : k = 4 ∨ k = 5) : mulK (tk 2 (signS k)) = some k := by
  rcases h with rfl | rfl
  · show mulK (tk 2 starS) = some 4; unfold mulK; rw [if_pos (isT_tk 2 starS)]
  · show mulK (tk 2 slashS) = some 5; unfold mulK; rw [if_neg (by rw [isT_ne (by decide)]; decide), if_pos (isT_tk 2 slashS)]
theorem sign_add {k : Int} (h : k = 2 ∨ k = 3) : addK (tk 2 (signS k)) = some k ∧ mulK (tk 2 (signS k)) = none := by
  rcases h with rfl | rfl
  · exact ⟨by show addK (tk 2 plusS) = some 2; unfold addK; rw [if_pos (isT_tk 2 plusS)], mulK_none (isT_ne (by decide)) (isT_ne (by decide))⟩
  · exact ⟨by show addK (tk 2 minusS) = some 3; unfold addK; rw [if_neg (by rw [isT_ne (by decide)]; decide), if_pos (isT_tk 2 minusS)], mulK_none (isT_ne (by decide)) (isT_ne (by decide))⟩
theorem restK_names : ∀ (l : List ByteArray) (s : ByteArray) (r : List Tok), nameZ s = true → NamesOk l → namesZ (tk 0 s :: (restK l ++ r)) = .ok (s :: l) r
  | [], s, r, h, _ => by
    have hn : nameT (tk 0 s) = true := by unfold nameT tk; rw [h]; rfl
    show namesZ (tk 0 s :: tk 2 semiS :: r) = _
    rw [namesZ, if_pos hn, if_neg (by rw [isT_ne (by decide)]; decide), if_pos (isT_tk 2 semiS)]
    rfl
  | t :: l, s, r, h, hl => by
    have hn : nameT (tk 0 s) = true := by unfold nameT tk; rw [h]; rfl
    have ih := restK_names l t r (hl t List.mem_cons_self) fun b hb => hl b (List.mem_cons_of_mem _ hb)
    show namesZ (tk 0 s :: tk 2 commaS :: (tk 0 t :: (restK l ++ r))) = _
    rw [namesZ, if_pos hn, if_pos (isT_tk 2 commaS), ih]
    rfl
def st (t : Tok) : Tok := tk t.kind t.text
theorem isT_st (x : Tok) (k : Int) (t : ByteArray) : isT (st x) k t = isT x k t := by cases x; rfl
theorem hdT_st (r : List Tok) (k : Int) (t : ByteArray) : hdT (r.map st) k t = hdT r k t := by cases r <;> rfl
theorem hdK_mul (r : List Tok) : hdK mulK (r.map st) = hdK mulK r := by cases r <;> rfl
theorem hdK_add (r : List Tok) : hdK addK (r.map st) = hdK addK r := by cases r <;> rfl
def _root_.Go.Tw.POut.st : POut → POut
  | .bad r => .bad (r.map Go.Proofs.YtfcmhcaggdakbaaGreatDoor.st)
  | .ok a r => .ok a (r.map Go.Proofs.YtfcmhcaggdakbaaGreatDoor.st)
theorem expoF_st (r : List Tok) : expoF (r.map st) = ((expoF r).1, (expoF r).2.map st) := by
  cases r with
  | nil => rfl
  | cons x r =>
    simp only [List.map_cons, expoF, isT_st]
    by_cases c : isT x 2 minusS = true
    · rw [if_pos c, if_pos c]
      cases r with
      | nil => rfl
      | cons y r =>
        by_cases hk : y.kind = 1
        · have hk' : (st y).kind = 1 := hk
          cases he : expoZ y.text with
          | none => have he' : expoZ (st y).text = none := he; simp only [List.map_cons, if_pos hk, if_pos hk', he, he']
          | some n => have he' : expoZ (st y).text = some n := he; simp only [List.map_cons, if_pos hk, if_pos hk', he, he']
        · have hk' : ¬ (st y).kind = 1 := hk
          simp only [List.map_cons, if_neg hk, if_neg hk']
    · rw [if_neg c, if_neg c]
      by_cases hk : x.kind = 1
      · have hk' : (st x).kind = 1 := hk
        cases he : expoZ x.text with
        | none => have he' : expoZ (st x).text = none := he; simp only [if_pos hk, if_pos hk', he, he', List.map_cons]
        | some n => have he' : expoZ (st x).text = some n := he; simp only [if_pos hk, if_pos hk', he, he', List.map_cons]
      · have hk' : ¬ (st x).kind = 1 := hk
        simp only [if_neg hk, if_neg hk', List.map_cons]
theorem psF_st : ∀ (f : Nat) (lv : Lv) (all : List NodeC) (r : List Tok), psF f lv all (r.map st) = (psF f lv all r).st := by
  intro f
  induction f with
  | zero => intro lv all r; rfl
  | succ f ih =>
    intro lv all r
    cases lv with
    | atom =>
      cases r with
      | nil => rfl
      | cons x r =>
        simp only [List.map_cons, psF, isT_st]
        by_cases c : isT x 2 lpar = true
        · rw [if_pos c, if_pos c, ih]
          cases psF f .sum all r with
          | bad r1 => rfl
          | ok a r1 =>
            simp only [POut.st, hdT_st]
            by_cases c2 : hdT r1 2 rpar = true
            · rw [if_pos c2, if_pos c2, ← List.map_drop]
            · rw [if_neg c2, if_neg c2]
        · rw [if_neg c, if_neg c]
          have hl : leafT (st x) = leafT x := by cases x; rfl
          rw [hl]
          by_cases c2 : leafT x = true
          · rw [if_pos c2, if_pos c2]; rfl
          · rw [if_neg c2, if_neg c2]; rfl
    | powL =>
      cases r with
      | nil => rfl
      | cons x r =>
        simp only [List.map_cons, psF, isT_st]
        by_cases c : isT x 2 Go.Tw.caret = true
        · rw [if_pos c, if_pos c, expoF_st]
          rcases expoF r with ⟨e, r1⟩
          cases e <;> rfl
        · rw [if_neg c, if_neg c]; rfl
    | power =>
      simp only [psF]
      rw [ih]
      cases psF f .atom all r with
      | bad r1 => rfl
      | ok a r1 => exact ih _ _ _
    | factor =>
      cases r with
      | nil => exact ih .power all []
      | cons x r =>
        simp only [List.map_cons, psF, isT_st]
        by_cases c : isT x 2 minusS = true
        · rw [if_pos c, if_pos c, ih]
          cases psF f .factor all r with
          | bad r1 => rfl
          | ok a r1 => rfl
        · rw [if_neg c, if_neg c]
          have := ih .power all (x :: r)
          rw [List.map_cons] at this
          exact this
    | prodL =>
      simp only [psF, hdK_mul]
      cases hdK mulK r with
      | none => rfl
      | some k =>
        dsimp only
        rw [← List.map_drop, ih]
        cases psF f .factor all (r.drop 1) with
        | bad r1 => rfl
        | ok a r1 => exact ih _ _ _
    | product =>
      simp only [psF]
      rw [ih]
      cases psF f .factor all r with
      | bad r1 => rfl
      | ok a r1 => exact ih _ _ _
    | sumL =>
      simp only [psF, hdK_add]
      cases hdK addK r with
      | none => rfl
      | some k =>
        dsimp only
        rw [← List.map_drop, ih]
        cases psF f .product all (r.drop 1) with
        | bad r1 => rfl
        | ok a r1 => exact ih _ _ _
    | sum =>
      simp only [psF]
      rw [ih]
      cases psF f .product all r with
      | bad r1 => rfl
      | ok a r1 => exact ih _ _ _
def _root_.Go.Tw.NOut.st : NOut → NOut
  | .bad r => .bad (r.map Go.Proofs.YtfcmhcaggdakbaaGreatDoor.st)
  | .ok l r => .ok l (r.map Go.Proofs.YtfcmhcaggdakbaaGreatDoor.st)
theorem namesZ_st : ∀ (r : List Tok), namesZ (r.map st) = (namesZ r).st
  | [] => rfl
  | [x] => by
    show NOut.bad (if nameT x = true then [] else [st x]) = (NOut.bad (if nameT x = true then [] else [x])).st
    by_cases c : nameT x = true
    · rw [if_pos c, if_pos c]; rfl
    · rw [if_neg c, if_neg c]; rfl
  | x :: y :: r => by
    have ih := namesZ_st r
    rw [List.map_cons, List.map_cons, namesZ, namesZ]
    have e1 : nameT (st x) = nameT x := by cases x; rfl
    rw [e1, isT_st, isT_st]
    by_cases c : nameT x = true
    · rw [if_pos c, if_pos c]
      by_cases c2 : isT y 2 commaS = true
      · rw [if_pos c2, if_pos c2, ih]
        cases namesZ r <;> rfl
      · rw [if_neg c2, if_neg c2]
        by_cases c3 : isT y 2 semiS = true
        · rw [if_pos c3, if_pos c3]; rfl
        · rw [if_neg c3, if_neg c3]; rfl
    · rw [if_neg c, if_neg c]; rfl
def _root_.Go.Tw.LO.st : LO → LO
  | .bad r => .bad (r.map Go.Proofs.YtfcmhcaggdakbaaGreatDoor.st)
  | .ok n a r => .ok n a (r.map Go.Proofs.YtfcmhcaggdakbaaGreatDoor.st)
theorem lt1F_st (all : List NodeC) (r : List Tok) : lt1F all (r.map st) = (lt1F all r).st := by
  cases r with
  | nil => rfl
  | cons x r =>
    simp only [List.map_cons, lt1F]
    have e1 : nameT (st x) = nameT x := by cases x; rfl
    rw [e1, hdT_st]
    by_cases c : nameT x = true
    · rw [if_pos c, if_pos c]
      by_cases c2 : hdT r 2 equalS = true
      · rw [if_pos c2, if_pos c2, List.length_map, ← List.map_drop, psF_st]
        cases psF (8 * r.length + 5) .sum all (r.drop 1) with
        | bad r1 => rfl
        | ok a r1 =>
          simp only [POut.st, hdT_st]
          by_cases c3 : hdT r1 2 semiS = true
          · rw [if_pos c3, if_pos c3, ← List.map_drop]; rfl
          · rw [if_neg c3, if_neg c3]; rfl
      · rw [if_neg c2, if_neg c2]; rfl
    · rw [if_neg c, if_neg c]; rfl
def _root_.Go.Tw.LSO.st : LSO → LSO
  | .bad r => .bad (r.map Go.Proofs.YtfcmhcaggdakbaaGreatDoor.st)
  | .ok l a r => .ok l a (r.map Go.Proofs.YtfcmhcaggdakbaaGreatDoor.st)
theorem ltsF_st : ∀ (f : Nat) (ls : List LetC) (all : List NodeC) (r : List Tok), ltsF f ls all (r.map st) = (ltsF f ls all r).st := by
  intro f
  induction f with
  | zero => intro ls all r; rfl
  | succ f ih =>
    intro ls all r
    simp only [ltsF, hdT_st]
    by_cases c : hdT r 0 letS = true
    · rw [if_pos c, if_pos c, ← List.map_drop, lt1F_st]
      cases lt1F all (r.drop 1) with
      | bad r1 => rfl
      | ok n a r1 => exact ih _ _ _
    · rw [if_neg c, if_neg c]; rfl
def _root_.Go.Tw.PO.st : PO → PO
  | .bad r => .bad (r.map Go.Proofs.YtfcmhcaggdakbaaGreatDoor.st)
  | .ok p => .ok p
theorem prgF_st (r : List Tok) : prgF (r.map st) = (prgF r).st := by
  simp only [prgF, hdT_st]
  by_cases c : hdT r 0 inS = true
  · rw [if_pos c, if_pos c, ← List.map_drop, namesZ_st]
    cases namesZ (r.drop 1) with
    | bad r1 => rfl
    | ok ins r1 =>
      simp only [NOut.st]
      rw [List.length_map, ltsF_st]
      cases ltsF (r1.length + 1) [] [] r1 with
      | bad r2 => rfl
      | ok ls all r2 =>
        simp only [LSO.st, hdT_st]
        by_cases c2 : hdT r2 0 outS = true
        · rw [if_pos c2, if_pos c2, ← List.map_drop, namesZ_st]
          cases namesZ (r2.drop 1) with
          | bad r3 => rfl
          | ok outs r3 => cases r3 <;> rfl
        · rw [if_neg c2, if_neg c2]; rfl
  · rw [if_neg c, if_neg c]; rfl
theorem prgZ_ok_st {L T : List Tok} {p : ProgC} (h : L.map st = T) (hT : Prg T (.ok p)) : prgZ L = .ok p := by
  have h1 := prgF_st L
  rw [h, prg_fn hT] at h1
  rw [prgZ_fn]
  cases e : prgF L with
  | bad r => rw [e] at h1; cases h1
  | ok q => rw [e] at h1; cases h1; rfl
def Cl (b : UInt8) : Prop := b ≠ 32 ∧ b ≠ 59 ∧ b ≠ 61
def ClS (s : ByteArray) : Prop := ∀ b ∈ s.data.toList, Cl b
def NoS (s : ByteArray) : Prop := ∀ b ∈ s.data.toList, b ≠ 32 ∧ b ≠ 61
theorem ClS.no {s : ByteArray} (h : ClS s) : NoS s := fun b hb => ⟨(h b hb).1, (h b hb).2.2⟩
def bk (l : List UInt8) : ByteArray := ⟨l.toArray⟩
def tksZ (l : List Tok) : List Tok := l.filter fun t => t.kind != 3
theorem tksZ_app (a b : List Tok) : tksZ (a ++ b) = tksZ a ++ tksZ b := by unfold tksZ; rw [List.filter_append]
def bindE : Ex → Int
  | .ref _ => 5
  | .num _ => 5
  | .neg _ => 3
  | .pow _ _ => 4
  | .bin k _ _ => if 4 ≤ k then 2 else 1
theorem bindE_pos (x : Ex) : 1 ≤ bindE x := by
  cases x <;> simp only [bindE] <;> (try split) <;> omega
def gp : Tok := tk 3 ⟨#[32]⟩
def expP (e : Int) : List Tok := (if e < 0 then [tk 2 minusS] else []) ++ [tk 1 (decS e.natAbs)]
def brk (m : Bool) (l : List Tok) : List Tok := if m then tk 2 lpar :: (l ++ [tk 2 rpar]) else l
def shP : Ex → List Tok
  | .ref t => [tk 0 t]
  | .num q => [tk 1 (ratS q)]
  | .neg x => tk 2 minusS :: brk (decide (bindE x < 3)) (shP x)
  | .pow x e => brk (decide (bindE x < 5)) (shP x) ++ tk 2 Go.Tw.caret :: expP e
  | .bin k x y => brk (decide (bindE x < if 4 ≤ k then 2 else 1)) (shP x) ++ gp :: tk 2 (signS k) :: gp :: brk (decide (bindE y < (if 4 ≤ k then 2 else 1) + 1)) (shP y)
theorem tks_brk (m : Bool) (l : List Tok) : tksZ (brk m l) = brk m (tksZ l) := by
  cases m with
  | false => rfl
  | true =>
    show tksZ (tk 2 lpar :: (l ++ [tk 2 rpar])) = tk 2 lpar :: (tksZ l ++ [tk 2 rpar])
    have e : tk 2 lpar :: (l ++ [tk 2 rpar]) = [tk 2 lpar] ++ (l ++ [tk 2 rpar]) := rfl
    rw [e, tksZ_app, tksZ_app]
    rfl
def TA (L : List Tok) (x : Ex) : Prop := ∀ (all : List NodeC) (r : List Tok) (o : POut), hdT r 2 Go.Tw.caret = false → hdK mulK r = none → Ps .sumL (all ++ x.nd all.length) r o → Ps .sum all (L ++ r) o
def TB (L : List Tok) (x : Ex) : Prop := ∀ (all : List NodeC) (r : List Tok) (o : POut), hdT r 2 Go.Tw.caret = false → Ps .prodL (all ++ x.nd all.length) r o → Ps .product all (L ++ r) o
def TCf (L : List Tok) (x : Ex) : Prop := ∀ (all : List NodeC) (r : List Tok), hdT r 2 Go.Tw.caret = false → Ps .factor all (L ++ r) (.ok (all ++ x.nd all.length) r)
def TDp (L : List Tok) (x : Ex) : Prop := (∀ r, hdT (L ++ r) 2 minusS = false) ∧ ∀ (all : List NodeC) (r : List Tok), hdT r 2 Go.Tw.caret = false → Ps .power all (L ++ r) (.ok (all ++ x.nd all.length) r)
def TEa (L : List Tok) (x : Ex) : Prop := (∀ r, hdT (L ++ r) 2 minusS = false) ∧ ∀ (all : List NodeC) (r : List Tok), Ps .atom all (L ++ r) (.ok (all ++ x.nd all.length) r)
theorem te_td {L : List Tok} {x : Ex} (h : TEa L x) : TDp L x := ⟨h.1, fun all r hr => .power_ok (h.2 all r) (.pow_none hr)⟩
theorem td_tc {L : List Tok} {x : Ex} (h : TDp L x) : TCf L x := fun all r hr => .fac (h.1 r) (h.2 all r hr)
theorem tc_tb {L : List Tok} {x : Ex} (h : TCf L x) : TB L x := fun all r o hr ho => .product_ok (h all r hr) ho
theorem tb_ta {L : List Tok} {x : Ex} (h : TB L x) : TA L x := fun all r o hr hm ho => .sum_ok (h all r _ hr (.prodL_end hm)) ho
def Own (L : List Tok) (x : Ex) (b : Int) : Prop := (5 ≤ b → TEa L x) ∧ (4 ≤ b → TDp L x) ∧ (3 ≤ b → TCf L x) ∧ (2 ≤ b → TB L x) ∧ TA L x
theorem own_e {L : List Tok} {x : Ex} {b : Int} (h : TEa L x) : Own L x b := ⟨fun _ => h, fun _ => te_td h, fun _ => td_tc (te_td h), fun _ => tc_tb (td_tc (te_td h)), tb_ta (tc_tb (td_tc (te_td h)))⟩
theorem own_d {L : List Tok} {x : Ex} (h : TDp L x) : Own L x 4 := ⟨fun h => absurd h (by decide), fun _ => h, fun _ => td_tc h, fun _ => tc_tb (td_tc h), tb_ta (tc_tb (td_tc h))⟩
theorem own_c {L : List Tok} {x : Ex} (h : TCf L x) : Own L x 3 := ⟨fun h => absurd h (by decide), fun h => absurd h (by decide), fun _ => h, fun _ => tc_tb h, tb_ta (tc_tb h)⟩
theorem own_b {L : List Tok} {x : Ex} (h : TB L x) : Own L x 2 := ⟨fun h => absurd h (by decide), fun h => absurd h (by decide), fun h => absurd h (by decide), fun _ => h, tb_ta h⟩
theorem own_a {L : List Tok} {x : Ex} (h : TA L x) : Own L x 1 := ⟨fun h => absurd h (by decide), fun h => absurd h (by decide), fun h => absurd h (by decide), fun h => absurd h (by decide), h⟩
theorem par_te {L : List Tok} {x : Ex} (h : TA L x) : TEa (tk 2 lpar :: (L ++ [tk 2 rpar])) x := by
  refine ⟨fun r => isT_ne (by decide), fun all r => ?_⟩
  have he := ends_rpar r
  have h1 := h all (tk 2 rpar :: r) _ he.pw he.ml (.sumL_end he.ad)
  have e : (tk 2 lpar :: (L ++ [tk 2 rpar])) ++ r = tk 2 lpar :: (L ++ (tk 2 rpar :: r)) := by simp
  rw [e]
  exact .par_ok (isT_tk 2 lpar) h1 (isT_tk 2 rpar)
theorem own_brk {L : List Tok} {x : Ex} {b : Int} (h : Own L x b) (m : Int) (hm : m ≤ 5) : Own (brk (decide (b < m)) L) x m := by
  unfold brk
  by_cases hb : b < m
  · rw [decide_eq_true hb, if_pos rfl]
    exact own_e (par_te h.2.2.2.2)
  · rw [decide_eq_false hb, if_neg (by decide)]
    exact ⟨fun h5 => h.1 (by omega), fun h5 => h.2.1 (by omega), fun h5 => h.2.2.1 (by omega), fun h5 => h.2.2.2.1 (by omega), h.2.2.2.2⟩
theorem expP_expo {e : Int} (h : -20 ≤ e ∧ e ≤ 20) (r : List Tok) : Expo (expP e ++ r) (some e) r := by
  unfold expP
  by_cases he : e < 0
  · rw [if_pos he]
    have h1 := Expo.neg (x := tk 2 minusS) (y := tk 1 (decS e.natAbs)) (r := r) (isT_tk 2 minusS) rfl (expo_dec (n := e.natAbs) (by omega))
    rw [show -((e.natAbs : Nat) : Int) = e by omega] at h1
    exact h1
  · rw [if_neg he]
    have h1 := Expo.pos (y := tk 1 (decS e.natAbs)) (r := r) (isT_kd (by show (1 : Int) ≠ 2; decide)) rfl (expo_dec (n := e.natAbs) (by omega))
    rw [show ((e.natAbs : Nat) : Int) = e by omega] at h1
    exact h1
theorem tks_exp (e : Int) : tksZ (expP e) = expP e := by
  unfold expP
  split <;> rfl
theorem tks_cons {t : Tok} {r : List Tok} (h : t.kind ≠ 3) : tksZ (t :: r) = t :: tksZ r := by unfold tksZ; rw [List.filter_cons, if_pos (by simp [h])]
theorem tks_gap {t : Tok} {r : List Tok} (h : t.kind = 3) : tksZ (t :: r) = tksZ r := by unfold tksZ; rw [List.filter_cons, if_neg (by rw [h]; decide)]
theorem sh_own : ∀ (x : Ex), x.ok → Own (tksZ (shP x)) x (bindE x) := by
  intro x
  induction x with
  | ref t =>
    intro h
    refine own_e ⟨fun r => isT_kd (by show (0 : Int) ≠ 2; decide), fun all r => ?_⟩
    have h1 : leafT (tk 0 t) = true := by unfold leafT tk; rw [show nameZ t = true from h]; rfl
    have h2 := Ps.leaf (all := all) (r := r) h1
    rw [show leafN (tk 0 t) = refN t from if_neg (by show ¬ (0 : Int) = 1; decide)] at h2
    exact h2
  | num q =>
    intro h
    refine own_e ⟨fun r => isT_kd (by show (1 : Int) ≠ 2; decide), fun all r => ?_⟩
    have hn := num_rat h.1 h.2.1 h.2.2
    have h2 := Ps.leaf (all := all) (x := tk 1 (ratS q)) (r := r) rfl
    rw [show leafN (tk 1 (ratS q)) = numN (numQ (ratS q)) from if_pos rfl, hn.val] at h2
    exact h2
  | neg x ih =>
    intro h
    have h1 := (own_brk (ih h) 3 (by decide)).2.2.1 (Int.le_refl _)
    refine own_c fun all r hr => ?_
    have h2 := h1 all r hr
    have h3 := Ps.neg_ok (x := tk 2 minusS) (isT_tk 2 minusS) h2
    rw [lastI_nd] at h3
    rw [shP, tks_cons (by show (2 : Int) ≠ 3; decide), tks_brk]
    simp only [Ex.nd, ← List.append_assoc]
    exact h3
  | pow x e ih =>
    intro h
    have h1 := (own_brk (ih h.1) 5 (by decide)).1 (Int.le_refl _)
    have e0 : tksZ (shP (.pow x e)) = brk (decide (bindE x < 5)) (tksZ (shP x)) ++ tk 2 Go.Tw.caret :: expP e := by
      rw [shP, tksZ_app, tks_brk, tks_cons (by show (2 : Int) ≠ 3; decide), tks_exp]
    rw [e0]
    generalize brk (decide (bindE x < 5)) (tksZ (shP x)) = L at h1
    refine own_d ⟨fun r => by rw [List.append_assoc]; exact h1.1 _, fun all r hr => ?_⟩
    have h2 := h1.2 all (tk 2 Go.Tw.caret :: (expP e ++ r))
    have h3 : Ps .power all (L ++ tk 2 Go.Tw.caret :: (expP e ++ r)) _ := .power_ok h2 (.pow_ok (isT_tk 2 Go.Tw.caret) (expP_expo h.2 r))
    rw [lastI_nd] at h3
    have e2 : (L ++ tk 2 Go.Tw.caret :: expP e) ++ r = L ++ tk 2 Go.Tw.caret :: (expP e ++ r) := by simp
    rw [e2]
    simp only [Ex.nd, ← List.append_assoc]
    exact h3
  | bin k x y ih1 ih2 =>
    intro h
    obtain ⟨k2, k5, hx, hy⟩ := h
    have ih1 := ih1 hx
    have ih2 := ih2 hy
    have e0 : tksZ (shP (.bin k x y)) = brk (decide (bindE x < if 4 ≤ k then 2 else 1)) (tksZ (shP x)) ++ tk 2 (signS k) :: brk (decide (bindE y < (if 4 ≤ k then 2 else 1) + 1)) (tksZ (shP y)) := by
      rw [shP, tksZ_app, tks_brk, tks_gap rfl, tks_cons (by show (2 : Int) ≠ 3; decide), tks_gap rfl, tks_brk]
    rw [e0]
    have enodes : ∀ all : List NodeC, all ++ x.nd all.length ++ y.nd (all ++ x.nd all.length).length ++ [binN k (lastI (all ++ x.nd all.length)) (lastI (all ++ x.nd all.length ++ y.nd (all ++ x.nd all.length).length))] = all ++ (Ex.bin k x y).nd all.length := fun all => by
      have hlen : (all ++ x.nd all.length).length = all.length + x.n := by rw [List.length_append, x.nd_len]
      have hla : lastI (all ++ x.nd all.length ++ y.nd (all ++ x.nd all.length).length) = (all.length : Int) + x.n + y.n - 1 := by
        rw [lastI_nd, hlen]; omega
      rw [hla, lastI_nd, hlen]
      simp only [Ex.nd, List.append_assoc]
    by_cases hk : 4 ≤ k
    · rw [if_pos hk]
      have eb : bindE (.bin k x y) = 2 := if_pos hk
      rw [eb]
      have h1 := (own_brk ih1 2 (by decide)).2.2.2.1 (Int.le_refl _)
      have h2 := (own_brk ih2 (2 + 1) (by decide)).2.2.1 (Int.le_refl _)
      generalize brk (decide (bindE x < 2)) (tksZ (shP x)) = L at h1
      generalize brk (decide (bindE y < 2 + 1)) (tksZ (shP y)) = M at h2
      refine own_b fun all r o hr ho => ?_
      have hm := sign_mul (k := k) (by omega)
      have h3 := h2 (all ++ x.nd all.length) r hr
      rw [← enodes] at ho
      have h4 := h1 all (tk 2 (signS k) :: (M ++ r)) o (sign_pow k _) (.prodL_ok hm h3 ho)
      have e2 : (L ++ tk 2 (signS k) :: M) ++ r = L ++ tk 2 (signS k) :: (M ++ r) := by simp
      rw [e2]
      exact h4
    · rw [if_neg hk]
      have eb : bindE (.bin k x y) = 1 := if_neg hk
      rw [eb]
      have h1 := (own_brk ih1 1 (by decide)).2.2.2.2
      have h2 := (own_brk ih2 (1 + 1) (by decide)).2.2.2.1 (Int.le_refl _)
      generalize brk (decide (bindE x < 1)) (tksZ (shP x)) = L at h1
      generalize brk (decide (bindE y < 1 + 1)) (tksZ (shP y)) = M at h2
      refine own_a fun all r o hr hmr ho => ?_
      obtain ⟨hm, hn⟩ := sign_add (k := k) (by omega)
      have h3 := h2 (all ++ x.nd all.length) r _ hr (.prodL_end hmr)
      rw [← enodes] at ho
      have h4 := h1 all (tk 2 (signS k) :: (M ++ r)) o (sign_pow k _) hn (.sumL_ok hm h3 ho)
      have e2 : (L ++ tk 2 (signS k) :: M) ++ r = L ++ tk 2 (signS k) :: (M ++ r) := by simp
      rw [e2]
      exact h4
theorem sh_sum {x : Ex} (h : x.ok) (all : List NodeC) {r : List Tok} (hr : Ends r) : Ps .sum all (tksZ (shP x) ++ r) (.ok (all ++ x.nd all.length) r) :=
  (sh_own x h).2.2.2.2 all r _ hr.pw hr.ml (.sumL_end hr.ad)
def letQ (a : ByteArray × Ex) : List Tok := tk 0 letS :: tk 0 a.1 :: tk 2 equalS :: (tksZ (shP a.2) ++ [tk 2 semiS])
def letsQ : List (ByteArray × Ex) → List Tok
  | [] => []
  | a :: l => letQ a ++ letsQ l
def progQ (ins outs : List ByteArray) (l : List (ByteArray × Ex)) : List Tok := namesK inS ins ++ (letsQ l ++ namesK outS outs)
theorem letQ_lt1 {a : ByteArray × Ex} (h1 : nameZ a.1 = true) (h2 : a.2.ok) (all : List NodeC) (r : List Tok) : Lt1 all (tk 0 a.1 :: tk 2 equalS :: (tksZ (shP a.2) ++ tk 2 semiS :: r)) (.ok a.1 (all ++ a.2.nd all.length) r) :=
  .ok (by unfold nameT tk; rw [h1]; rfl) (isT_tk 2 equalS) (sh_sum h2 all (ends_semi r)) (isT_tk 2 semiS)
theorem letsQ_lts : ∀ (l : List (ByteArray × Ex)) (ls : List LetC) (all : List NodeC) (r : List Tok), LetsOk l → hdT r 0 letS = false → Lts ls all (letsQ l ++ r) (.ok (ls ++ (laid l all.length).1) (all ++ (laid l all.length).2) r)
  | [], ls, all, r, _, hr => by
    have := Lts.fin (ls := ls) (all := all) hr
    simpa [letsQ, laid] using this
  | (s, x) :: l, ls, all, r, h, hr => by
    obtain ⟨h1, h2⟩ := h _ List.mem_cons_self
    have e1 := letQ_lt1 (a := (s, x)) h1 h2 all (letsQ l ++ r)
    have ih := letsQ_lts l (ls ++ [⟨s, lastI (all ++ x.nd all.length)⟩]) (all ++ x.nd all.length) r (fun b hb => h b (List.mem_cons_of_mem _ hb)) hr
    have hlen : (all ++ x.nd all.length).length = all.length + x.n := by rw [List.length_append, x.nd_len]
    have e2 := Lts.more (ls := ls) (x := tk 0 letS) (isT_tk 0 letS) e1 ih
    rw [lastI_nd, hlen] at e2
    have e3 : letsQ ((s, x) :: l) ++ r = tk 0 letS :: tk 0 s :: tk 2 equalS :: (tksZ (shP x) ++ tk 2 semiS :: (letsQ l ++ r)) := by simp [letsQ, letQ]
    rw [e3]
    simpa [laid, List.append_assoc] using e2
theorem progQ_prg {ins outs : List ByteArray} {l : List (ByteArray × Ex)} (h1 : NamesOk ins) (hi : 1 ≤ ins.length) (h2 : LetsOk l) (h3 : NamesOk outs) (ho : 1 ≤ outs.length) : Prg (progQ ins outs l) (.ok ⟨ins, (laid l 0).1, outs, (laid l 0).2⟩) := by
  cases ins with
  | nil => simp at hi
  | cons s ins =>
    cases outs with
    | nil => simp at ho
    | cons t outs =>
      have a1 := restK_names ins s (letsQ l ++ namesK outS (t :: outs)) (h1 s List.mem_cons_self) fun b hb => h1 b (List.mem_cons_of_mem _ hb)
      have a2 := letsQ_lts l [] [] (namesK outS (t :: outs)) h2 (isT_ne (by decide))
      have a3 := restK_names outs t [] (h3 t List.mem_cons_self) fun b hb => h3 b (List.mem_cons_of_mem _ hb)
      rw [List.append_nil] at a3
      exact .ok (isT_tk 0 inS) a1 a2 (isT_tk 0 outS) a3
structure NodeAt (l : List NodeC) (i : Int) (x : Ex) : Prop where
  ok : x.ok
  lie : ∃ b : Nat, At l b x ∧ i = (b : Int) + x.n - 1
theorem nd_at {l : List NodeC} {b : Nat} {x : Ex} (h : At l b x) {u : List NodeC} {c : NodeC} (e : x.nd b = u ++ [c]) : l[b + u.length]? = some c := by
  refine h u.length c ?_
  rw [e, List.getElem?_append_right (Nat.le_refl _), Nat.sub_self]; rfl
theorem NodeAt.in_ {l : List NodeC} {i : Int} {x : Ex} (h : NodeAt l i x) : 0 ≤ i ∧ i < l.length := by
  obtain ⟨hx, b, ha, hi⟩ := h
  have hp := x.n_pos
  have hl : (x.nd b)[x.n - 1]? = some ((x.nd b)[x.n - 1]'(by rw [x.nd_len]; omega)) := List.getElem?_eq_getElem _
  have := ha _ _ hl
  have h2 := (List.getElem?_eq_some_iff.1 this).1
  omega
theorem NodeAt.ref {l : List NodeC} {i : Int} {t : ByteArray} (h : NodeAt l i (.ref t)) : l[i.toNat]? = some (refN t) := by
  obtain ⟨_, b, ha, hi⟩ := h
  have h1 := nd_at ha (u := []) (c := refN t) rfl
  rw [show i.toNat = b + 0 by simp only [Ex.n] at hi; omega]; exact h1
theorem NodeAt.num {l : List NodeC} {i : Int} {q : Rat} (h : NodeAt l i (.num q)) : l[i.toNat]? = some (numN q) := by
  obtain ⟨_, b, ha, hi⟩ := h
  have h1 := nd_at ha (u := []) (c := numN q) rfl
  rw [show i.toNat = b + 0 by simp only [Ex.n] at hi; omega]; exact h1
theorem NodeAt.neg {l : List NodeC} {i : Int} {x : Ex} (h : NodeAt l i (.neg x)) : ∃ a, l[i.toNat]? = some (negN a) ∧ NodeAt l a x ∧ a < i := by
  obtain ⟨hx, b, ha, hi⟩ := h
  have h1 := nd_at ha (u := x.nd b) rfl
  rw [x.nd_len] at h1
  refine ⟨(b : Int) + x.n - 1, ?_, ⟨hx, b, At.left ha rfl, rfl⟩, by simp only [Ex.n] at hi; omega⟩
  rw [show i.toNat = b + x.n by simp only [Ex.n] at hi; omega]; exact h1
theorem NodeAt.pow {l : List NodeC} {i : Int} {x : Ex} {e : Int} (h : NodeAt l i (.pow x e)) : ∃ a, l[i.toNat]? = some (powN a e) ∧ NodeAt l a x ∧ a < i := by
  obtain ⟨hx, b, ha, hi⟩ := h
  have h1 := nd_at ha (u := x.nd b) rfl
  rw [x.nd_len] at h1
  refine ⟨(b : Int) + x.n - 1, ?_, ⟨hx.1, b, At.left ha rfl, rfl⟩, by simp only [Ex.n] at hi; omega⟩
  rw [show i.toNat = b + x.n by simp only [Ex.n] at hi; omega]; exact h1
theorem NodeAt.bin {l : List NodeC} {i : Int} {x y : Ex} {k : Int} (h : NodeAt l i (.bin k x y)) : ∃ a c, l[i.toNat]? = some (binN k a c) ∧ NodeAt l a x ∧ NodeAt l c y ∧ a < i ∧ c < i := by
  obtain ⟨⟨_, _, hx, hy⟩, b, ha, hi⟩ := h
  have h1 := nd_at ha (u := x.nd b ++ y.nd (b + x.n)) rfl
  rw [List.length_append, x.nd_len, y.nd_len] at h1
  have ha1 : At l b x := At.left ha (u := x.nd b) (v := y.nd (b + x.n) ++ [binN k ((b : Int) + x.n - 1) ((b : Int) + x.n + y.n - 1)]) (by simp only [Ex.nd, List.append_assoc])
  have ha2 := At.right (At.left ha (u := x.nd b ++ y.nd (b + x.n)) rfl) (u := x.nd b) (v := y.nd (b + x.n)) rfl
  rw [x.nd_len] at ha2
  refine ⟨(b : Int) + x.n - 1, (b : Int) + x.n + y.n - 1, ?_, ⟨hx, b, ha1, rfl⟩, ⟨hy, b + x.n, ha2, by omega⟩, ?_, ?_⟩
  · rw [show i.toNat = b + (x.n + y.n) by simp only [Ex.n] at hi; omega]; exact h1
  · simp only [Ex.n] at hi; omega
  · simp only [Ex.n] at hi; omega
theorem sub_ex : ∀ (x : Ex) {l : List NodeC} {b : Nat}, x.ok → At l b x → ∀ j, j < x.n → ∃ y, NodeAt l ((b + j : Nat) : Int) y ∧ y.h ≤ x.h ∧ y.n ≤ x.n := by
  intro x
  induction x with
  | ref t => intro l b hx ha j hj; simp only [Ex.n] at hj; exact ⟨.ref t, ⟨hx, b, ha, by simp only [Ex.n]; omega⟩, Nat.le_refl _, Nat.le_refl _⟩
  | num q => intro l b hx ha j hj; simp only [Ex.n] at hj; exact ⟨.num q, ⟨hx, b, ha, by simp only [Ex.n]; omega⟩, Nat.le_refl _, Nat.le_refl _⟩
  | neg x ih =>
    intro l b hx ha j hj
    simp only [Ex.n] at hj
    by_cases h : j < x.n
    · obtain ⟨y, h1, h2, h3⟩ := ih hx (At.left ha (u := x.nd b) rfl) j h
      exact ⟨y, h1, by simp only [Ex.h]; omega, by simp only [Ex.n]; omega⟩
    · exact ⟨.neg x, ⟨hx, b, ha, by simp only [Ex.n]; omega⟩, Nat.le_refl _, Nat.le_refl _⟩
  | pow x e ih =>
    intro l b hx ha j hj
    simp only [Ex.n] at hj
    by_cases h : j < x.n
    · obtain ⟨y, h1, h2, h3⟩ := ih hx.1 (At.left ha (u := x.nd b) rfl) j h
      exact ⟨y, h1, by simp only [Ex.h]; omega, by simp only [Ex.n]; omega⟩
    · exact ⟨.pow x e, ⟨hx, b, ha, by simp only [Ex.n]; omega⟩, Nat.le_refl _, Nat.le_refl _⟩
  | bin k x y ih1 ih2 =>
    intro l b hx ha j hj
    simp only [Ex.n] at hj
    have ha1 : At l b x := At.left ha (u := x.nd b) (v := y.nd (b + x.n) ++ [binN k ((b : Int) + x.n - 1) ((b : Int) + x.n + y.n - 1)]) (by simp only [Ex.nd, List.append_assoc])
    have ha2 := At.right (At.left ha (u := x.nd b ++ y.nd (b + x.n)) rfl) (u := x.nd b) (v := y.nd (b + x.n)) rfl
    rw [x.nd_len] at ha2
    by_cases h : j < x.n
    · obtain ⟨z, h1, h2, h3⟩ := ih1 hx.2.2.1 ha1 j h
      exact ⟨z, h1, by simp only [Ex.h]; omega, by simp only [Ex.n]; omega⟩
    · by_cases h4 : j < x.n + y.n
      · obtain ⟨z, h1, h2, h3⟩ := ih2 hx.2.2.2 ha2 (j - x.n) (by omega)
        rw [show b + x.n + (j - x.n) = b + j by omega] at h1
        exact ⟨z, h1, by simp only [Ex.h]; omega, by simp only [Ex.n]; omega⟩
      · exact ⟨.bin k x y, ⟨hx, b, ha, by simp only [Ex.n]; omega⟩, Nat.le_refl _, Nat.le_refl _⟩
theorem laid_sub : ∀ (l : List (ByteArray × Ex)) (b : Nat) {all : List NodeC}, LetsOk l → (∀ j c, (laid l b).2[j]? = some c → all[b + j]? = some c) → ∀ j, j < (laid l b).2.length → ∃ a ∈ l, ∃ y, NodeAt all ((b + j : Nat) : Int) y ∧ y.h ≤ a.2.h ∧ y.n ≤ a.2.n
  | [], b, all, _, _, j, hj => by simp [laid] at hj
  | (s, x) :: l, b, all, h, ha, j, hj => by
    have e : (laid ((s, x) :: l) b).2 = x.nd b ++ (laid l (b + x.n)).2 := rfl
    have a1 := At.left ha e
    have a2 := At.right ha e
    rw [x.nd_len] at a2
    rw [e, List.length_append, x.nd_len] at hj
    by_cases h1 : j < x.n
    · obtain ⟨y, k1, k2, k3⟩ := sub_ex x (h _ List.mem_cons_self).2 a1 j h1
      exact ⟨_, List.mem_cons_self, y, k1, k2, k3⟩
    · obtain ⟨a, k0, y, k1, k2, k3⟩ := laid_sub l (b + x.n) (fun a ha => h a (List.mem_cons_of_mem _ ha)) a2 (j - x.n) (by omega)
      rw [show b + x.n + (j - x.n) = b + j by omega] at k1
      exact ⟨a, List.mem_cons_of_mem _ k0, y, k1, k2, k3⟩
theorem laid_root : ∀ (l : List (ByteArray × Ex)) (b : Nat) {all : List NodeC}, LetsOk l → (∀ (j : Nat) (c : NodeC), (laid l b).2[j]? = some c → all[b + j]? = some c) → ∀ (j : Nat) (c : LetC), (laid l b).1[j]? = some c → ∃ x, l[j]? = some (c.name, x) ∧ NodeAt all c.root x
  | [], b, all, _, _, j, c, hj => by simp [laid] at hj
  | (s, x) :: l, b, all, h, ha, 0, c, hj => by
    have e : (laid ((s, x) :: l) b).2 = x.nd b ++ (laid l (b + x.n)).2 := rfl
    have a1 := At.left ha e
    have e1 : (⟨s, (b : Int) + x.n - 1⟩ : LetC) = c := Option.some.inj hj
    subst e1
    exact ⟨x, rfl, ⟨(h _ List.mem_cons_self).2, b, a1, rfl⟩⟩
  | (s, x) :: l, b, all, h, ha, j + 1, c, hj => by
    have e : (laid ((s, x) :: l) b).2 = x.nd b ++ (laid l (b + x.n)).2 := rfl
    have a2 := At.right ha e
    rw [x.nd_len] at a2
    exact laid_root l (b + x.n) (fun a ha => h a (List.mem_cons_of_mem _ ha)) a2 j c hj
theorem RightP.node {p : ProgC} {l : List (ByteArray × Ex)} (h : RightP p l) {i : Int} (h0 : 0 ≤ i) (h1 : i < p.all.length) : ∃ y, NodeAt p.all i y ∧ y.h ≤ 60 := by
  have ha : ∀ j c, (laid l 0).2[j]? = some c → p.all[0 + j]? = some c := fun j c hj => by rw [h.all, Nat.zero_add]; exact hj
  obtain ⟨a, k0, y, k1, k2, k3⟩ := laid_sub l 0 h.ok ha i.toNat (by rw [← h.all]; omega)
  rw [show ((0 + i.toNat : Nat) : Int) = i by omega] at k1
  exact ⟨y, k1, Nat.le_trans k2 (h.low a k0)⟩
theorem RightP.root {p : ProgC} {l : List (ByteArray × Ex)} (h : RightP p l) {j : Nat} {c : LetC} (hj : p.lets[j]? = some c) : ∃ x, l[j]? = some (c.name, x) ∧ NodeAt p.all c.root x ∧ x.h ≤ 60 := by
  have ha : ∀ j c, (laid l 0).2[j]? = some c → p.all[0 + j]? = some c := fun j c hj => by rw [h.all, Nat.zero_add]; exact hj
  rw [h.lets] at hj
  obtain ⟨x, k1, k2⟩ := laid_root l 0 h.ok ha j c hj
  exact ⟨x, k1, k2, h.low (c.name, x) (List.mem_of_getElem? k1)⟩
theorem NodeAt.few {l : List NodeC} {i : Int} {x : Ex} (h : NodeAt l i x) : x.n ≤ l.length := by
  have h1 := h.in_
  obtain ⟨_, b, _, hi⟩ := h
  omega
end Go.Proofs.YtfcmhcaggdakbaaGreatDoor
namespace Go.Tw
open Go Go.RowKit
def mEs : List (ByteArray × Value) → Nat → List MapEntry
  | [], _ => []
  | (s, v) :: l, i => ⟨.string s, v, i⟩ :: mEs l (i + 1)
def mapO (l : List (ByteArray × Value)) : Obj := .map (mEs l 0).toArray l.length
def mFind (k : ByteArray) : List (ByteArray × Value) → Nat → Option (Nat × Value)
  | [], _ => none
  | (s, v) :: l, j => if k = s then some (j, v) else mFind k l (j + 1)
def mPut (k : ByteArray) (v : Value) : List (ByteArray × Value) → List (ByteArray × Value)
  | [] => [(k, v)]
  | (s, u) :: l => if k = s then (k, v) :: l else (s, u) :: mPut k v l
theorem mEs_app : ∀ (l m : List (ByteArray × Value)) (i : Nat), mEs (l ++ m) i = mEs l i ++ mEs m (i + l.length)
  | [], m, i => rfl
  | (s, v) :: l, m, i => by
    rw [List.cons_append, mEs, mEs, mEs_app l m (i + 1), List.length_cons, List.cons_append]
    congr 3
    omega
theorem bytes_beq (a b : ByteArray) : (a == b) = decide (a = b) := by
  show (a.data == b.data) = _
  by_cases h : a = b
  · subst h; simp
  · rw [decide_eq_false h]
    have : a.data ≠ b.data := fun e => h (ByteArray.ext e)
    simpa using this
theorem findNow_mEs (k : ByteArray) : ∀ (l : List (ByteArray × Value)) (i j : Nat), Instr.findNow .string (.string k) (mEs l i) j = some (mFind k l j)
  | [], _, _ => rfl
  | (s, v) :: l, i, j => by
    rw [mEs, mFind]
    unfold Instr.findNow
    by_cases h : k = s
    · subst h
      rw [if_pos rfl]
      have e : (k == k) = true := by rw [bytes_beq]; exact decide_eq_true rfl
      simp only [Instr.sameNow, e]
    · rw [if_neg h]
      have e : (k == s) = false := by rw [bytes_beq]; exact decide_eq_false h
      simp only [Instr.sameNow, e]
      exact findNow_mEs k l (i + 1) (j + 1)
theorem mFind_none {k : ByteArray} {v : Value} : ∀ {l : List (ByteArray × Value)} {j : Nat}, mFind k l j = none → mPut k v l = l ++ [(k, v)]
  | [], _, _ => rfl
  | (s, u) :: l, j, h => by
    rw [mFind] at h
    split at h
    · cases h
    · rename_i hn
      rw [mPut, if_neg hn, mFind_none h]
      rfl
theorem mFind_some {k : ByteArray} {v x : Value} {i0 : Nat} : ∀ {l : List (ByteArray × Value)} {j i : Nat}, mFind k l j = some (i, x) → j ≤ i ∧ i - j < l.length ∧ (mEs l i0)[i - j]? = some ⟨.string k, x, i0 + (i - j)⟩ ∧ (mEs l i0).modify (i - j) (fun e => { e with key := .string k, val := v }) = mEs (mPut k v l) i0 ∧ (mPut k v l).length = l.length
  | [], _, _, h => by cases h
  | (s, u) :: l, j, i, h => by
    rw [mFind] at h
    split at h
    · rename_i hs
      cases h
      subst hs
      rw [Nat.sub_self, mPut, if_pos rfl]
      exact ⟨Nat.le_refl _, by simp, rfl, rfl, rfl⟩
    · rename_i hn
      obtain ⟨h1, h2, h3, h4, h5⟩ := mFind_some (v := v) (i0 := i0 + 1) h
      have e : i - j = i - (j + 1) + 1 := by omega
      rw [mPut, if_neg hn, e]
      refine ⟨by omega, by rw [List.length_cons]; omega, ?_, ?_, by rw [List.length_cons, List.length_cons, h5]⟩
      · rw [mEs, List.getElem?_cons_succ, h3]
        congr 2
        omega
      · rw [mEs, mEs, List.modify_succ_cons, h4]
section
variable {P : Program} {Q : Exit → Act → World → Prop} {n : Nat} {D : List Deferred} {E : Env} {S S' : World → Prop} {ops : Array Oper} {rest : List Oper} {d : Nat} {op : Op} {ty : TypeId} {pos : String} {aft : Array Edge} {g : Option (Nat × Bool)} {v : Value} {w0 : World} {X : List Nat} {I : Hp} {B : List Item}
theorem run_findKey {kt : TypeId} (hk : P.underlying kt = some .string) (w : World) (k : ByteArray) (l : List (ByteArray × Value)) : (Instr.findKey kt (.string k) (mEs l 0)).run P w = .ok (mFind k l 0) w := by
  simp [Instr.findKey, run_underlying hk, findNow_mEs, Result.andThen]
theorem run_checkKey {kt : TypeId} (hk : P.underlying kt = some .string) (w : World) (b : Bool) (k : ByteArray) : (Instr.checkKey b 10000 kt (.string k)).run P w = .ok () w := by
  unfold Instr.checkKey
  simp [run_underlying hk, Result.andThen]
theorem o_makeMap {t : TypeId} (hg : Wants ops E g) (hd : Nat.blt d n = true)
    (k : ∀ b, TL false P ops Q rest n D ((d, .map (some b)) :: E) (St w0 X I (.box b (mapO []) :: B))) : TL false P ops Q (⟨some d, .makeMap t none, ty, pos, aft, g⟩ :: rest) n D E (St w0 X I B) :=
  o_opX (ι := Nat) (V := fun b => .map (some b)) (SX := fun b => St w0 X I (.box b (mapO []) :: B)) (F := fun _ => True) hg hd
    (fun a w ha hw d pos aft g => ⟨w.alloc (mapO []), w.heap.size, by
      simp [execOp, Instr.makeMap, newObj, Sem.run, Result.andThen]; rfl,
      hw.new (But.alloc w _) (heap_alloc_new w _) (fun b hb => by cases hb; exact Nat.le_refl _), trivial⟩) (fun b _ => k b)
theorem o_lookupOk {qm : Bool} {t kt et : TypeId} {m x : Operand} {b : Nat} {key : ByteArray} {l : List (ByteArray × Value)} {z : Value} (hg : Wants ops E g) (hd : Nat.blt d n = true) (hu : P.underlying t = some (.map kt et)) (hk : P.underlying kt = some .string) (hz : ∀ w, (zeroValue et).run P w = .ok z w) (hm : ev E m = some (.map (some b))) (hx : ev E x = some (.string key)) (hB : Item.box b (mapO l) ∈ B)
    (k : TL qm P ops Q rest n D ((d, .tuple #[((mFind key l 0).map Prod.snd).getD z, .bool (mFind key l 0).isSome]) :: E) (St w0 X I B)) : TL qm P ops Q (⟨some d, .lookup t m x true, ty, pos, aft, g⟩ :: rest) n D E (St w0 X I B) :=
  o_rd hg hd (v := .tuple #[((mFind key l 0).map Prod.snd).getD z, .bool (mFind key l 0).isSome]) (fun a w ha hw d pos aft g => ⟨w, by
    have hbox : w.heap[b]? = some (.map (mEs l 0).toArray l.length) := hw.own _ hB
    have hf := run_findKey hk w key l
    have hc := run_checkKey hk w (mEs l 0).isEmpty key
    cases hfd : mFind key l 0 with
    | none =>
      rw [hfd] at hf
      simp [execOp, ha.ev hm, ha.ev hx, Instr.lookup, run_underlying hu, MapKept.run_getObj_map hbox, hc, hf, hz, Result.andThen]
    | some y =>
      obtain ⟨i, u⟩ := y
      rw [hfd] at hf
      simp [execOp, ha.ev hm, ha.ev hx, Instr.lookup, run_underlying hu, MapKept.run_getObj_map hbox, hc, hf, hz, Result.andThen], rfl⟩) k
theorem o_lookup {qm : Bool} {t kt et : TypeId} {m x : Operand} {b : Nat} {key : ByteArray} {l : List (ByteArray × Value)} {z : Value} (hg : Wants ops E g) (hd : Nat.blt d n = true) (hu : P.underlying t = some (.map kt et)) (hk : P.underlying kt = some .string) (hz : ∀ w, (zeroValue et).run P w = .ok z w) (hm : ev E m = some (.map (some b))) (hx : ev E x = some (.string key)) (hB : Item.box b (mapO l) ∈ B)
    (k : TL qm P ops Q rest n D ((d, ((mFind key l 0).map Prod.snd).getD z) :: E) (St w0 X I B)) : TL qm P ops Q (⟨some d, .lookup t m x false, ty, pos, aft, g⟩ :: rest) n D E (St w0 X I B) :=
  o_rd hg hd (v := ((mFind key l 0).map Prod.snd).getD z) (fun a w ha hw d pos aft g => ⟨w, by
    have hbox : w.heap[b]? = some (.map (mEs l 0).toArray l.length) := hw.own _ hB
    have hf := run_findKey hk w key l
    have hc := run_checkKey hk w (mEs l 0).isEmpty key
    cases hfd : mFind key l 0 with
    | none =>
      rw [hfd] at hf
      simp [execOp, ha.ev hm, ha.ev hx, Instr.lookup, run_underlying hu, MapKept.run_getObj_map hbox, hc, hf, hz, Result.andThen]
    | some y =>
      obtain ⟨i, u⟩ := y
      rw [hfd] at hf
      simp [execOp, ha.ev hm, ha.ev hx, Instr.lookup, run_underlying hu, MapKept.run_getObj_map hbox, hc, hf, hz, Result.andThen], rfl⟩) k
theorem map_set {w : World} {b : Nat} {o o' : Obj} (hb : w.heap[b]? = some o) : But (some b) w { w with heap := w.heap.setIfInBounds b o' } ∧ (w.heap.setIfInBounds b o')[b]? = some o' := by
  refine ⟨⟨rfl, rfl, rfl, by simp, fun k hk hne => ?_⟩, ?_⟩
  · have : b ≠ k := fun e => hne (by rw [e])
    simp [Array.getElem?_setIfInBounds, this]
  · have hlt := (Array.getElem?_eq_some_iff.1 hb).1
    simp [hlt]
theorem run_mapPut {t kt et : TypeId} {w : World} {b : Nat} {key : ByteArray} {val : Value} {l : List (ByteArray × Value)} (hu : P.underlying t = some (.map kt et)) (hk : P.underlying kt = some .string) (hbox : w.heap[b]? = some (mapO l)) :
    (Instr.mapUpdate t (.map (some b)) (.string key) val).run P w = .ok () { w with heap := w.heap.setIfInBounds b (mapO (mPut key val l)) } := by
  have hbox' : w.heap[b]? = some (.map (mEs l 0).toArray l.length) := hbox
  have hf := run_findKey hk w key l
  have hc := run_checkKey hk w false key
  cases hfd : mFind key l 0 with
  | none =>
    rw [hfd] at hf
    have e : mapO (mPut key val l) = .map ((mEs l 0).toArray.push ⟨.string key, val, l.length⟩) (l.length + 1) := by
      rw [mFind_none hfd]
      unfold mapO
      rw [mEs_app, List.length_append]
      simp [mEs]
    rw [e]
    simp [Instr.mapUpdate, run_underlying hu, MapKept.run_getObj_map hbox', hc, hf, setObj, Sem.run, Result.andThen, hbox']
  | some y =>
    obtain ⟨i, u⟩ := y
    obtain ⟨_, h2, h3, h4, h5⟩ := mFind_some (v := val) (i0 := 0) hfd
    rw [Nat.sub_zero] at h2 h3 h4
    rw [hfd] at hf
    have e : mapO (mPut key val l) = .map ((mEs l 0).toArray.modify i fun e => { e with key := .string key, val := val }) l.length := by
      unfold mapO
      rw [h5, ← h4]
      congr 1
      apply Array.ext'
      simp
    rw [e]
    have e2 : (key == key) = true := by rw [bytes_beq]; exact decide_eq_true rfl
    simp [Instr.mapUpdate, run_underlying hu, MapKept.run_getObj_map hbox', hc, hf, setObj, Sem.run, Result.andThen, hbox', h3, Instr.keyThatStays, Instr.sameBits, e2]
theorem o_mapPut {t kt et : TypeId} {m x y : Operand} {b : Nat} {key : ByteArray} {l : List (ByteArray × Value)} {B' : List Item} (hg : Wants ops E g) (hu : P.underlying t = some (.map kt et)) (hk : P.underlying kt = some .string) (hm : ev E m = some (.map (some b))) (hx : ev E x = some (.string key)) (hy : ev E y = some v) (hB : Put B (.box b (mapO l)) B' (.box b (mapO (mPut key v l))))
    (k : TL false P ops Q rest n D E (St w0 X I B')) : TL false P ops Q (⟨none, .mapUpdate t m x y, ty, pos, aft, g⟩ :: rest) n D E (St w0 X I B) :=
  o_op0 hg (S' := St w0 X I B') (fun a w ha hS d pos aft g => by
    have hbox : w.heap[b]? = some (mapO l) := hS.own _ hB.mem
    obtain ⟨h1, h2⟩ := map_set (o' := mapO (mPut key v l)) hbox
    exact ⟨_, by simp only [execOp, ha.ev hm, ha.ev hx, ha.ev hy, run_mapPut hu hk hbox, Sem.run_bind, Sem.run_pure, Result.andThen_ok], hS.turn hB h1 h2 (fun _ h => .inl h)⟩) k
end
end Go.Tw
namespace Go.Tw
open Go Go.RowKit
structure PL where
  l : Bool
  i : Int
abbrev KN := List (ByteArray × PL)
def plV (p : PL) : Value := .agg #[.bool p.l, .int .i64 p.i]
def knO (K : KN) : Obj := mapO (K.map fun a => (a.1, plV a.2))
def getK (s : ByteArray) : KN → Option PL
  | [] => none
  | (t, p) :: K => if s = t then some p else getK s K
theorem find_kn (s : ByteArray) : ∀ (K : KN) (j : Nat), (mFind s (K.map fun a => (a.1, plV a.2)) j).map Prod.snd = (getK s K).map plV
  | [], _ => rfl
  | (t, p) :: K, j => by
    rw [List.map_cons, mFind, getK]
    split
    · rfl
    · exact find_kn s K (j + 1)
theorem find_knS (s : ByteArray) (K : KN) : (mFind s (K.map fun a => (a.1, plV a.2)) 0).isSome = (getK s K).isSome := by
  have h := congrArg Option.isSome (find_kn s K 0)
  rw [Option.isSome_map, Option.isSome_map] at h
  exact h
theorem find_knV (s : ByteArray) (K : KN) : ((mFind s (K.map fun a => (a.1, plV a.2)) 0).map Prod.snd).getD (.agg #[.bool false, .int .i64 0]) = .agg #[.bool ((getK s K).getD ⟨false, 0⟩).l, .int .i64 ((getK s K).getD ⟨false, 0⟩).i] := by
  rw [find_kn]
  cases getK s K <;> rfl
theorem put_kn {s : ByteArray} {K : KN} {p : PL} (h : (getK s K).isSome = false) : mapO (mPut s (plV p) (K.map fun a => (a.1, plV a.2))) = knO (K ++ [(s, p)]) := by
  have hn : mFind s (K.map fun a => (a.1, plV a.2)) 0 = none := by
    have := find_knS s K
    rw [h] at this
    exact Option.not_isSome_iff_eq_none.1 (by rw [this]; decide)
  rw [mFind_none hn]
  unfold knO
  rw [List.map_append]
  rfl
def getN (s : ByteArray) : List (ByteArray × Nat) → Nat
  | [] => 0
  | (t, n) :: U => if s = t then n else getN s U
def incN (s : ByteArray) : List (ByteArray × Nat) → List (ByteArray × Nat)
  | [] => [(s, 1)]
  | (t, n) :: U => if s = t then (s, n + 1) :: U else (t, n) :: incN s U
def usU (L : List ByteArray) : List (ByteArray × Nat) := L.foldl (fun U s => incN s U) []
def usO (L : List ByteArray) : Obj := mapO ((usU L).map fun a => (a.1, .int .i64 (a.2 : Nat)))
theorem usU_more (L : List ByteArray) (s : ByteArray) : usU (L ++ [s]) = incN s (usU L) := by unfold usU; rw [List.foldl_append]; rfl
theorem getN_inc (x s : ByteArray) : ∀ (U : List (ByteArray × Nat)), getN x (incN s U) = getN x U + if x = s then 1 else 0
  | [] => by
    show (if x = s then 1 else 0) = 0 + _
    rw [Nat.zero_add]
  | (t, n) :: U => by
    have ih := getN_inc x s U
    rw [incN]
    split
    · rename_i h
      subst h
      rw [getN, getN]
      by_cases hx : x = s
      · rw [if_pos hx, if_pos hx, if_pos hx]
      · rw [if_neg hx, if_neg hx, if_neg hx]; rfl
    · rename_i h
      rw [getN, getN]
      by_cases hx : x = t
      · rw [if_pos hx, if_pos hx, if_neg (fun e => h (by rw [← e, hx]))]; rfl
      · rw [if_neg hx, if_neg hx, ih]
def cnt (s : ByteArray) : List ByteArray → Nat
  | [] => 0
  | x :: L => (if s = x then 1 else 0) + cnt s L
theorem cnt_more (s x : ByteArray) : ∀ (L : List ByteArray), cnt s (L ++ [x]) = cnt s L + if s = x then 1 else 0
  | [] => by simp [cnt]
  | y :: L => by rw [List.cons_append, cnt, cnt, cnt_more s x L, Nat.add_assoc]
theorem cnt_le (s : ByteArray) : ∀ (L : List ByteArray), cnt s L ≤ L.length
  | [] => Nat.le_refl _
  | y :: L => by
    have := cnt_le s L
    rw [cnt, List.length_cons]
    split <;> omega
theorem getN_us (x : ByteArray) (L : List ByteArray) : getN x (usU L) = cnt x L := by
  have key : ∀ (n : Nat) (L : List ByteArray), L.length = n → getN x (usU L) = cnt x L := by
    intro n
    induction n with
    | zero =>
      intro L h
      rw [List.length_eq_zero_iff.1 h]; rfl
    | succ n ih =>
      intro L h
      have hne : L ≠ [] := fun e => by rw [e] at h; cases h
      rw [← List.dropLast_concat_getLast hne, usU_more, getN_inc, ih L.dropLast (by rw [List.length_dropLast, h]; rfl), cnt_more]
  exact key L.length L rfl
theorem find_us (s : ByteArray) : ∀ (U : List (ByteArray × Nat)) (j : Nat), ((mFind s (U.map fun a => (a.1, Value.int .i64 (a.2 : Nat))) j).map Prod.snd).getD (.int .i64 0) = .int .i64 (getN s U : Nat)
  | [], _ => rfl
  | (t, p) :: K, j => by
    rw [List.map_cons, mFind, getN]
    split
    · rfl
    · exact find_us s K (j + 1)
theorem put_us (s : ByteArray) : ∀ (U : List (ByteArray × Nat)), mPut s (.int .i64 ((getN s U : Nat) + 1)) (U.map fun a => (a.1, Value.int .i64 (a.2 : Nat))) = (incN s U).map fun a => (a.1, Value.int .i64 (a.2 : Nat))
  | [] => rfl
  | (t, n) :: U => by
    have ih := put_us s U
    rw [List.map_cons, mPut, incN, getN]
    by_cases h : s = t
    · rw [if_pos h, if_pos h, if_pos h]; rfl
    · rw [if_neg h, if_neg h, if_neg h, ih]; rfl
section
variable {P : Program} {Q : Exit → Act → World → Prop} {n : Nat} {D : List Deferred} {E : Env} {S S' : World → Prop} {ops : Array Oper} {rest : List Oper} {d : Nat} {op : Op} {ty : TypeId} {pos : String} {aft : Array Edge} {g : Option (Nat × Bool)} {v : Value} {w0 : World} {X : List Nat} {I : Hp} {B : List Item}
theorem o_lookK {qm : Bool} {t kt et : TypeId} {m x : Operand} {b : Nat} {key : ByteArray} {K : KN} (hg : Wants ops E g) (hd : Nat.blt d n = true) (hu : P.underlying t = some (.map kt et)) (hk : P.underlying kt = some .string) (hz : ∀ w, (zeroValue et).run P w = .ok (.agg #[.bool false, .int .i64 0]) w) (hm : ev E m = some (.map (some b))) (hx : ev E x = some (.string key)) (hB : Item.box b (knO K) ∈ B)
    (k : TL qm P ops Q rest n D ((d, .tuple #[.agg #[.bool ((getK key K).getD ⟨false, 0⟩).l, .int .i64 ((getK key K).getD ⟨false, 0⟩).i], .bool (getK key K).isSome]) :: E) (St w0 X I B)) : TL qm P ops Q (⟨some d, .lookup t m x true, ty, pos, aft, g⟩ :: rest) n D E (St w0 X I B) :=
  o_lookupOk hg hd hu hk hz hm hx hB (by rw [find_knV, find_knS]; exact k)
theorem o_putK {t kt et : TypeId} {m x y : Operand} {b : Nat} {key : ByteArray} {K : KN} {p : PL} {B' : List Item} (hn : (getK key K).isSome = false) (hg : Wants ops E g) (hu : P.underlying t = some (.map kt et)) (hk : P.underlying kt = some .string) (hm : ev E m = some (.map (some b))) (hx : ev E x = some (.string key)) (hy : ev E y = some (plV p)) (hB : Put B (.box b (knO K)) B' (.box b (knO (K ++ [(key, p)]))))
    (k : TL false P ops Q rest n D E (St w0 X I B')) : TL false P ops Q (⟨none, .mapUpdate t m x y, ty, pos, aft, g⟩ :: rest) n D E (St w0 X I B) :=
  o_mapPut (l := K.map fun a => (a.1, plV a.2)) hg hu hk hm hx hy (by rw [put_kn hn]; exact hB) k
theorem o_lookU {qm : Bool} {t kt et : TypeId} {m x : Operand} {b : Nat} {key : ByteArray} {L : List ByteArray} (hg : Wants ops E g) (hd : Nat.blt d n = true) (hu : P.underlying t = some (.map kt et)) (hk : P.underlying kt = some .string) (hz : ∀ w, (zeroValue et).run P w = .ok (.int .i64 0) w) (hm : ev E m = some (.map (some b))) (hx : ev E x = some (.string key)) (hB : Item.box b (usO L) ∈ B)
    (k : TL qm P ops Q rest n D ((d, .int .i64 (cnt key L : Nat)) :: E) (St w0 X I B)) : TL qm P ops Q (⟨some d, .lookup t m x false, ty, pos, aft, g⟩ :: rest) n D E (St w0 X I B) :=
  o_lookup hg hd hu hk hz hm hx hB (by rw [find_us, getN_us]; exact k)
theorem o_putU {t kt et : TypeId} {m x y : Operand} {b : Nat} {key : ByteArray} {L : List ByteArray} {B' : List Item} (hg : Wants ops E g) (hu : P.underlying t = some (.map kt et)) (hk : P.underlying kt = some .string) (hm : ev E m = some (.map (some b))) (hx : ev E x = some (.string key)) (hy : ev E y = some (.int .i64 ((cnt key L : Nat) + 1))) (hB : Put B (.box b (usO L)) B' (.box b (usO (L ++ [key]))))
    (k : TL false P ops Q rest n D E (St w0 X I B')) : TL false P ops Q (⟨none, .mapUpdate t m x y, ty, pos, aft, g⟩ :: rest) n D E (St w0 X I B) :=
  o_mapPut (l := (usU L).map fun a => (a.1, Value.int .i64 (a.2 : Nat))) hg hu hk hm hx hy (by
    have e : mapO (mPut key (.int .i64 ((cnt key L : Nat) + 1)) ((usU L).map fun a => (a.1, Value.int .i64 (a.2 : Nat)))) = usO (L ++ [key]) := by
      unfold usO
      rw [usU_more, ← put_us, getN_us]
    rw [e]
    exact hB) k
end
end Go.Tw
namespace Go.Tw
open Go
structure RV where
  q : Rat
  vn : Value
  vd : Value
def RV.cells (r : RV) : List Value := [.bool (decide (r.q.num < 0)), r.vn, r.vd]
def RV.ok (I : Hp) (r : RV) : Prop := Ws I r.vn (natW r.q.num.natAbs) ∧ Ws I r.vd (natW r.q.den)
theorem RV.ok.le {I I' : Hp} {r : RV} (h : r.ok I) (hl : I.Le I') : r.ok I' := ⟨h.1.le hl, h.2.le hl⟩
def rcs (rs : List RV) : List (List Value) := rs.map RV.cells
theorem rcs_len (rs : List RV) : (rcs rs).length = rs.length := by simp [rcs]
theorem rcs_three (rs : List RV) : ∀ c ∈ rcs rs, c.length = 3 := by
  intro c hc
  obtain ⟨r, _, rfl⟩ := List.mem_map.1 hc
  rfl
def zth (l : List Rat) (i : Int) : Rat := l.getD i.toNat 0
def opR (o : OpC) (l : List Rat) : Option Rat :=
  if o.code = 2 then some (zth l o.a + zth l o.b)
  else if o.code = 3 then some (zth l o.a - zth l o.b)
  else if o.code = 4 then some (zth l o.a * zth l o.b)
  else if o.code = 5 then (if zth l o.b = 0 then none else some (zth l o.a / zth l o.b))
  else if o.code = 6 then some (-zth l o.a)
  else if o.code = 7 then (if o.e < 0 ∧ zth l o.a = 0 then none else some (zth l o.a ^ o.e))
  else some (lowQ o.neg (val o.n) (val o.d))
structure OpOK (o : OpC) (l : List Rat) : Prop where
  place : 2 ≤ o.code → o.code ≤ 7 → 0 ≤ o.a ∧ o.a < l.length ∧ 0 ≤ o.b ∧ o.b < l.length
  few : ∀ q ∈ l, Few 50000 q
  pow : o.code = 7 → ∃ c, Few c (zth l o.a) ∧ c ≤ 4096 ∧ c * o.e.natAbs ≤ 4096 ∧ -64 ≤ o.e ∧ o.e ≤ 64
  lits : o.n.length ≤ 100000 ∧ o.d.length ≤ 100000
end Go.Tw
namespace Go.Proofs.YtfcmhcaggdakbaaGreatDoor
open Go Go.Tw
end Go.Proofs.YtfcmhcaggdakbaaGreatDoor
namespace Go.Tw
open Go
structure NV where
  neg : Bool
  n : List Nat
  d : List Nat
  vn : Value
  vd : Value
def NV.cells (x : NV) : List Value := [.bool x.neg, x.vn, x.vd]
def NV.ok (I : Hp) (x : NV) : Prop := Ws I x.vn x.n ∧ Ws I x.vd x.d
def NV.q (x : NV) : Rat := lowQ x.neg (val x.n) (val x.d)
theorem NV.ok.le {I I' : Hp} {r : NV} (h : r.ok I) (hl : I.Le I') : r.ok I' := ⟨h.1.le hl, h.2.le hl⟩
structure PtV (I : Hp) (v : Value) (xs : List NV) : Prop where
  s : Slc I 3 v (xs.map NV.cells)
  ok : ∀ x ∈ xs, x.ok I
theorem PtV.le {I I' : Hp} {v : Value} {xs : List NV} (h : PtV I v xs) (hl : I.Le I') : PtV I' v xs := ⟨h.s.le hl, fun o ho => (h.ok o ho).le hl⟩
theorem NV.at_ {I : Hp} {v : Value} {xs : List NV} (h : PtV I v xs) {i : Nat} {x : NV} (hx : xs[i]? = some x) : ∀ k y, ([.bool x.neg, x.vn, x.vd] : List Value)[k]? = some y → I.cell? ⟨slcB v, slcO v + i * 3 + k, none⟩ = some y :=
  h.s.cells i _ (by rw [List.getElem?_map, hx]; rfl)
structure RsV (I : Hp) (v : Value) (l : List Rat) : Prop where
  out : ∃ rs : List RV, Slc I 3 v (rcs rs) ∧ (∀ r ∈ rs, r.ok I) ∧ rs.map RV.q = l
theorem RsV.le {I I' : Hp} {v : Value} {l : List Rat} (h : RsV I v l) (hl : I.Le I') : RsV I' v l := let ⟨rs, h1, h2, h3⟩ := h.out; ⟨rs, h1.le hl, fun r hr => (h2 r hr).le hl, h3⟩
def OpsOK : List OpC → List Rat → Prop
  | [], _ => True
  | o :: r, l => OpOK o l ∧ ∀ q, opR o l = some q → OpsOK r (l ++ [q])
end Go.Tw
namespace Go.Proofs.YtfcmhcaggdakbaaGreatDoor
open Go Go.Tw
theorem wgts_len : ∀ {ops : List OpC} {l r : List Nat}, wgts ops l = some r → r.length = l.length + ops.length
  | [], l, r, h => by cases h; rfl
  | o :: ops, l, r, h => by
    unfold wgts at h
    split at h
    · split at h
      · have := wgts_len h
        simp only [List.length_append, List.length_cons, List.length_nil] at this ⊢
        omega
      · cases h
    · cases h
theorem tapeW_parts {t : TapeC} {l : List Nat} (h : tapeW t = some l) : 1 ≤ t.ins ∧ t.ins ≤ 40 ∧ 1 ≤ t.outs.length ∧ t.outs.length ≤ 40 ∧ t.ops.length ≤ 400 ∧ wgts t.ops (List.replicate t.ins.toNat 1) = some l ∧ ∀ z ∈ t.outs, 0 ≤ z ∧ z < l.length := by
  unfold tapeW at h
  split at h
  · cases h
  · rename_i hg
    split at h
    · cases h
    · rename_i l' hw
      split at h
      · rename_i hall
        cases h
        refine ⟨by omega, by omega, by omega, by omega, by omega, hw, fun z hz => ?_⟩
        have := List.all_eq_true.1 hall z hz
        simpa using this
      · cases h
end Go.Proofs.YtfcmhcaggdakbaaGreatDoor
namespace Go.Tw
open Go Go.RowKit
theorem wl_more {z : Int} {x : Nat} (O : List Nat) (h : z = x) : wl O ++ [.int .u32 z] = wl (O ++ [x]) := by subst h; simp [wl]
theorem take_more {A : List Nat} {i : Nat} (h : i < A.length) : A.take (i + 1) = A.take i ++ [dg A i] := by
  rw [List.take_add_one, dg_some h]; rfl
theorem eq_of_dg {A B : List Nat} (hl : A.length = B.length) (h : ∀ j, j < A.length → dg A j = dg B j) : A = B := by
  refine List.ext_getElem hl fun i h1 h2 => ?_
  have := h i h1
  rwa [dg_in h1, dg_in h2] at this
theorem cmp_lt {A B : List Nat} (hA : Wds A) (hB : Wds B) {i : Nat} (h : dg A i < dg B i) (he : ∀ t, i < t → dg A t = dg B t) : val A < val B := by
  have key : ∀ k, pre A (i + 1 + k) < pre B (i + 1 + k) := by
    intro k
    induction k with
    | zero =>
      have h1 := pre_lt hA i
      show pre A i + dg A i * 4294967296 ^ i < pre B i + dg B i * 4294967296 ^ i
      have h2 : (dg A i + 1) * 4294967296 ^ i ≤ dg B i * 4294967296 ^ i := Nat.mul_le_mul_right _ h
      rw [Nat.add_mul, Nat.one_mul] at h2
      omega
    | succ k ih =>
      show pre A (i + 1 + k) + dg A (i + 1 + k) * 4294967296 ^ (i + 1 + k) < pre B (i + 1 + k) + dg B (i + 1 + k) * 4294967296 ^ (i + 1 + k)
      rw [he (i + 1 + k) (by omega)]
      omega
  have h1 := key (A.length + B.length)
  rwa [pre_out (by omega), pre_out (by omega)] at h1
theorem val_same {A B : List Nat} (he : ∀ t, dg A t = dg B t) : val A = val B := by
  have h1 : pre A (A.length + B.length) = pre B (A.length + B.length) := pre_same fun j _ => he j
  rwa [pre_out (by omega), pre_out (by omega)] at h1
theorem val_more (O : List Nat) (x : Nat) : val (O ++ [x]) = val O + 4294967296 ^ O.length * x := by
  rw [val_app, val_cons, val_nil, Nat.mul_zero, Nat.add_zero]
theorem Wds.more {O : List Nat} (h : Wds O) {x : Nat} (hx : x < 4294967296) : Wds (O ++ [x]) := h.app (Wds_cons hx Wds_nil)
section
variable {P : Program} {Q : Exit → Act → World → Prop} {n : Nat} {D : List Deferred} {E : Env} {ops : Array Oper} {w0 : World} {I : Hp} {B B' : List Item}
theorem leafWX {w : World} {e : TypeId} {u v : Value} {O : List Nat} {I I1 : Hp} {B : List Item} {R : Value → Hp → List Item → Prop} (he : Ext w.heap.size I I1) (hw : Wds O) (hm : O.length ≤ maxLen) (h : ∀ I', I1.Le I' → Ws I' u O → R v I' []) :
    ∀ w', St w [] I1 (.row u e 1 O.length (wl O) :: B) w' → Post w [] I R v w' := by
  rw [← wcs_flat]
  exact leafRowX he (wcs_len O) (wcs_one O) hm fun I' hl hs => h I' hl ⟨hs, hw⟩
theorem c_sealO {c : Code} {e : TypeId} {u : Value} (O : List Nat) (ht : Take (.row u e 1 O.length (wl O)) B B') (hw : Wds O) (hm : O.length ≤ maxLen)
    (k : ∀ I', Ext w0.heap.size I I' → Ws I' u O → TC P c Q n D E (St w0 [] I' B')) : TC P c Q n D E (St w0 [] I B) :=
  c_sealR (xss := wcs O) (by rw [wcs_flat]; exact ht) (wcs_len O) (wcs_one O) hm fun I' hx hs => k I' hx ⟨hs, hw⟩
end
end Go.Tw
namespace Go.Proofs.YtfcmhcaggdakbaaGreatDoor
open Go Go.Tw
theorem rLow_any (va : Value) (A : List Nat) {I : Hp} (ha : Ws I va A) (hs : A.length ≤ 35184372088600) : Fun Tryz.prog 147 [va] I [] (fun v _ _ => v = .int .i64 (lowL A : Nat)) := by
  intro w hw
  refine enter1 _ Tryz.func147 rfl Tryz.ntmps147 rfl ?_ hw;refine sR ?_;refine oV ?_;refine nS ?_;refine oV ?_;refine nU ?_;refine oV ?_;refine oN (tC (cB ?_));refine c_loop (ι := Nat) [0] (.cons rfl .nil) (fun i => A.length - i) (fun i E0 => (3, .int .i64 (low A i : Nat)) :: (4, .int .i64 (i : Nat)) :: E0) (fun i => St w [] I []) (fun i => i ≤ A.length) (0) (sC rfl (sC rfl (sC rfl sN))) (fun _ h => h) (Nat.zero_le _) ?_;rintro i hi
  try dsimp only
  refine cS (sR ?_);iterate 2 refine oV ?_
  refine o_lenW trivial rfl Tryz.underlying33 rfl (ha) ?_;refine oV ?_;refine nT ?_;refine cC rfl (fun h1 => ?_) (fun h1 => ?_)
  ·
   have f1 := h1;try simp only [bl] at f1
   refine cK (tC (cS (cB (sR ?_))));iterate 2 refine oV ?_
   refine o_elemW trivial rfl Tryz.underlying33 Tryz.sizeOf134 rfl (ha) rfl (by omega) ?_;refine o_load1I trivial rfl Tryz.isAgg134 rfl (ha.cellI (k := i) rfl (by omega)) ?_;refine oV ?_;refine nT ?_;refine cC rfl (fun h2 => ?_) (fun h2 => ?_)
   ·
    have f2 := h2;try simp only [bl] at f2
    have hlow : low A (i + 1) = i + 1 := by show (if dg A i = 0 then low A i else i + 1) = i + 1; rw [if_neg (by omega)]
    refine cR ?_;refine oV ?_
    (refine o_add trivial rfl rfl rfl ?_ ?_; (omega))
    refine oV ?_;refine oN (blk_n (tC (cR ?_)));refine oV ?_
    (refine o_add trivial rfl rfl rfl ?_ ?_; (omega))
    refine oV ?_;refine oN ?_;exact again (i + 1) (by rw [hlow]; exact (sC rfl (sC rfl (sC rfl sN)))) (fun _ h => h) (by show A.length - (i + 1) < A.length - i; omega) (by show i + 1 ≤ _; omega)
   have f2 := h2;try simp only [bl] at f2
   have hlow : low A (i + 1) = low A i := by show (if dg A i = 0 then low A i else i + 1) = low A i; rw [if_pos (by omega)]
   refine cK (blk_n (tC (cR ?_)));refine oV ?_
   (refine o_add trivial rfl rfl rfl ?_ ?_; (omega))
   refine oV ?_;refine oN ?_;exact again (i + 1) (by rw [hlow]; exact (sC rfl (sC rfl (sC rfl sN)))) (fun _ h => h) (by show A.length - (i + 1) < A.length - i; omega) (by show i + 1 ≤ _; omega)
  have f1 := h1;try simp only [bl] at f1
  refine c_exit (then_x (then_x (blk_eq rfl (tC (sR ?_)))));iterate 2 refine oV ?_
  refine nE ?_;refine ret1 rfl rfl ?_
  have hie : i = A.length := by omega
  subst hie; exact leaf0 rfl
theorem rWords_any (va vb : Value) (A B : List Nat) {I : Hp} (ha : Ws I va A) (hb : Ws I vb B) : Fun Tryz.prog 85 [va, vb] I [] (fun v _ _ => v = .bool (decide (A = B))) := by
  have hs := ha.most
  unfold maxLen at hs
  intro w hw
  refine enter2 _ Tryz.func85 rfl Tryz.ntmps85 rfl ?_ hw;refine sR ?_;refine oV ?_;refine nU ?_;refine oV ?_;refine o_lenW trivial rfl Tryz.underlying33 rfl (ha) ?_;refine oV ?_;refine o_lenW trivial rfl Tryz.underlying33 rfl (hb) ?_;refine oV ?_;refine nT ?_;refine cC rfl (fun h1 => ?_) (fun h1 => ?_)
  ·
   have f1 := h1;try simp only [bl] at f1
   refine sR ?_;refine oV ?_;refine nF ?_;refine ret1 rfl rfl ?_;refine leaf0 (congrArg Value.bool ?_); rw [decide_eq_false]; intro e; exact f1 (by rw [e])
  have f1 := h1;try simp only [bl] at f1
  refine cK (tC (cS (sR ?_)));refine oV ?_;refine oN (tC (cB ?_));refine c_loop (ι := Nat) [0, 1] (.cons rfl (.cons rfl .nil)) (fun i => A.length - i) (fun i E0 => (5, .int .i64 (i : Nat)) :: E0) (fun i => St w [] I []) (fun i => i ≤ A.length ∧ ∀ j, j < i → dg A j = dg B j) (0) (sC rfl (sC rfl (sC rfl sN))) (fun _ h => h) (⟨Nat.zero_le _, fun j h => absurd h (Nat.not_lt_zero _)⟩) ?_;rintro i ⟨hi, he⟩
  try dsimp only
  refine cS (sR ?_);iterate 2 refine oV ?_
  refine o_lenW trivial rfl Tryz.underlying33 rfl (ha) ?_;refine oV ?_;refine nT ?_;refine cC rfl (fun h2 => ?_) (fun h2 => ?_)
  ·
   have f2 := h2;try simp only [bl] at f2
   refine cK (tC (cS (cB (cS ?_))));refine c_quiet (by kernel_rfl) (by kernel_rfl) (fun _ h => h.drawn) ?_;iterate 2 refine oV ?_
   refine o_elemW trivial rfl Tryz.underlying33 Tryz.sizeOf134 rfl (ha) rfl (by omega) ?_;refine o_load1I trivial rfl Tryz.isAgg134 rfl (ha.cellI (k := i) rfl (by omega)) ?_;iterate 2 refine oV ?_
   refine o_elemW trivial rfl Tryz.underlying33 Tryz.sizeOf134 rfl (hb) rfl (by omega) ?_;refine o_load1I trivial rfl Tryz.isAgg134 rfl (hb.cellI (k := i) rfl (by omega)) ?_;refine oV ?_;refine nT ?_;refine cC rfl (fun h3 => ?_) (fun h3 => ?_)
   ·
    have f3 := h3;try simp only [bl] at f3
    refine sR ?_;refine oV ?_;refine oN (tC (cT (blk_r (tR (tR (blk_r (tR ?_)))))));refine ret1 rfl rfl ?_;refine leaf0 (congrArg Value.bool ?_); rw [decide_eq_false]; intro e; exact f3 (by rw [e])
   have f3 := h3;try simp only [bl] at f3
   refine cK (blk_n (tC (cR ?_)));refine oV ?_
   (refine o_add trivial rfl rfl rfl ?_ ?_; (omega))
   refine oV ?_;refine oN ?_
   exact again (i + 1) (sC rfl (sC rfl (sC rfl sN))) (fun _ h => h) (by show A.length - (i + 1) < A.length - i; omega) ⟨by show i + 1 ≤ _; omega, fun j hj => by
     by_cases hji : j = i
     · subst hji; omega
     · exact he j (by omega)⟩
  have f2 := h2;try simp only [bl] at f2
  refine c_exit (then_x (then_x (blk_eq rfl (tC (sR ?_)))));refine oV ?_;refine nE ?_;refine ret1 rfl rfl ?_;refine leaf0 (congrArg Value.bool ?_); rw [decide_eq_true]; exact eq_of_dg (by omega) fun j hj => he j (by omega)
theorem rTrim_any (va : Value) (A : List Nat) {I : Hp} (ha : Ws I va A) (hs : A.length ≤ 35184372088600) : Fun Tryz.prog 115 [va] I [] (fun v I' _ => Ws I' v (natW (val A))) := by
  have hle : lowL A ≤ A.length := low_le A _
  intro w hw
  refine enter1 _ Tryz.func115 rfl Tryz.ntmps115 rfl ?_ hw;refine sR ?_;refine oV ?_;refine nS ?_;refine oV ?_;refine oQ Tryz.call147 rfl (rLow_any _ _ ha hs) ?_;refine oV ?_;refine nS ?_;refine oV ?_;refine nU ?_;refine oV ?_;refine oN (tC (cB ?_));refine c_loop (ι := Nat × Value) [0, 3] (.cons rfl (.cons rfl .nil)) (fun x => lowL A - x.1) (fun x E0 => (4, x.2) :: (5, .int .i64 (x.1 : Nat)) :: E0) (fun x => St w [] I [.row x.2 134 1 x.1 (wl (A.take x.1))]) (fun x => x.1 ≤ lowL A) ((0, .slice none 0 0)) (sC rfl (sC rfl (sC rfl (sC rfl sN)))) (fun _ h => h.nilRow _ _) (Nat.zero_le _) ?_;rintro ⟨i, u⟩ hi
  try dsimp only
  simp only at hi
  refine cS (sR ?_);iterate 3 refine oV ?_
  refine nT ?_;refine cC rfl (fun h1 => ?_) (fun h1 => ?_)
  ·
   have f1 := h1;try simp only [bl] at f1
   refine cK (tC (cS (cB (cR ?_))));iterate 3 refine oV ?_
   refine o_elemW trivial rfl Tryz.underlying33 Tryz.sizeOf134 rfl (ha) rfl (by omega) ?_;refine o_load1I trivial rfl Tryz.isAgg134 rfl (ha.cellI (k := i) rfl (by omega)) ?_;refine oB Tryz.underlying33 Tryz.sizeOf134 Tryz.zeroValue134 fun b18 => ?_;refine oD Tryz.underlying33 elem134 fun v19 => ?_;refine oV ?_;refine oN (blk_n (tC (cR ?_)));refine oV ?_
   (refine o_add trivial rfl rfl rfl ?_ ?_; (omega))
   refine oV ?_;refine oN ?_;exact again (i + 1, v19) (sC rfl (sC rfl (sC rfl (sC rfl sN)))) (fun _ h => by rw [take_more (by omega), ← wl_more _ rfl]; exact h.sort (by repeat constructor)) (by show lowL A - (i + 1) < lowL A - i; omega) (by show i + 1 ≤ _; omega)
  have f1 := h1;try simp only [bl] at f1
  refine c_exit (then_x (then_x (blk_eq rfl (tC (sR ?_)))));iterate 2 refine oV ?_
  refine nE ?_;refine ret1 rfl rfl ?_
  have hie : i = lowL A := by omega
  subst hie
  have hlen : (A.take (lowL A)).length = lowL A := by rw [List.length_take]; omega
  have hm := ha.most
  exact fun w' hw' => leafWX (O := A.take (lowL A)) (Ext.refl _ _) (ha.wds.take _) (by omega) (fun I' hl hs => by rw [← trim_eq ha.wds]; exact hs) w' (by rw [hlen]; exact hw')
theorem rAt_any (va : Value) (A : List Nat) (i : Int) (k : Nat) {I : Hp} (ha : Ws I va A) (hi : i = k) : Fun Tryz.prog 205 [va, .int .i64 i] I [] (fun v _ _ => v = .int .u64 (dg A k : Nat)) := by
  subst hi
  intro w hw
  refine enter2 _ Tryz.func205 rfl Tryz.ntmps205 rfl ?_ hw;refine sR ?_;refine oV ?_;refine nU ?_;iterate 2 refine oV ?_
  refine' o_or trivial trivial rfl rfl rfl rfl rfl rfl rfl rfl (fun hb7 => ?_) ?_;rotate_left
  ·
   have fb7 := hb7
   try simp only [bl] at fb7
   iterate 2 refine gV hb7 ?_
   refine o_lenW (wS rfl rfl hb7) rfl Tryz.underlying33 rfl (ha) ?_;refine gV hb7 ?_;refine oN ?_;exact joins rfl
  refine nT ?_;refine cC rfl (fun h1 => ?_) (fun h1 => ?_)
  ·
   have f1 := h1;try simp only [bl] at f1
   refine sR ?_;refine oV ?_;refine nF ?_;refine ret1 rfl rfl ?_;refine leaf0 (congrArg (Value.int .u64) ?_); rw [dg_out (by omega)]; rfl
  have f1 := h1;try simp only [bl] at f1
  refine kS ?_;iterate 2 refine oV ?_
  refine o_elemW trivial rfl Tryz.underlying33 Tryz.sizeOf134 rfl (ha) rfl (by omega) ?_;refine o_load1I trivial rfl Tryz.isAgg134 rfl (ha.cellI (k := k) rfl (by omega)) ?_
  have hdl := dg_lt ha.wds k
  refine o_convIn trivial rfl Tryz.underlying134 Tryz.underlying136 rfl (by rw [IntWalk.u64_in _ (by omega)]) ?_;refine oV ?_;refine nE ?_;refine ret1 rfl rfl ?_;exact leaf0 rfl
theorem rOf_any (n : Nat) {I : Hp} (hn : n < 18446744073709551616) : Fun Tryz.prog 86 [.int .u64 (n : Int)] I [] (fun v I' _ => Ws I' v (natW n)) := by
  have hnl : (natW n).length ≤ 2 := natW_len_le (by rw [show (4294967296 : Nat) ^ 2 = 18446744073709551616 by decide]; exact hn)
  intro w hw
  refine enter1 _ Tryz.func86 rfl Tryz.ntmps86 rfl ?_ hw;refine sR ?_;refine oV ?_;refine nS ?_;refine oV ?_;refine oN (tC (cS (cB ?_)));refine c_loop (ι := Nat × List Nat × Value) [] .nil (fun x => x.1) (fun x E0 => (0, .int .u64 (x.1 : Nat)) :: (3, x.2.2) :: E0) (fun x => St w [] I [.row x.2.2 134 1 x.2.1.length (wl x.2.1)]) (fun x => x.2.1 ++ natW x.1 = natW n ∧ x.1 < 18446744073709551616) ((n, [], .slice none 0 0)) (sC rfl (sC rfl sN)) (fun _ h => h.nilRow _ _) (⟨rfl, hn⟩) ?_;rintro ⟨m, O, u⟩ ⟨hO, hm⟩
  try dsimp only
  simp only at hO hm; have hol : O.length ≤ 2 := by rw [← hO, List.length_append] at hnl; omega
  refine cS (sR ?_);iterate 2 refine oV ?_
  refine nT ?_;refine cC rfl (fun h1 => ?_) (fun h1 => ?_)
  ·
   have f1 := h1;try simp only [bl] at f1
   have hm0 : m ≠ 0 := by omega
   refine cK (tC (cB (sR ?_)));iterate 2 refine oV ?_
   refine o_rem trivial rfl rfl rfl (by omega) ?_;refine o_convIn trivial rfl Tryz.underlying136 Tryz.underlying134 rfl (by rw [IntWalk.u32_in _ (by omega)]) ?_;refine oB Tryz.underlying33 Tryz.sizeOf134 Tryz.zeroValue134 fun b10 => ?_;refine oD Tryz.underlying33 elem134 fun v11 => ?_;refine oV ?_;refine nR ?_;refine oV ?_;refine o_quo trivial rfl rfl rfl (by omega) (by rw [IntWalk.u64_in _ (by omega)]) ?_;refine oV ?_;refine oN (blk_n ?_);exact again (m / 4294967296, O ++ [m % 4294967296], v11) (sC rfl (sC rfl sN)) (fun _ h => by rw [← wl_more O (z := (m : Int) % 4294967296) (by omega), List.length_append]; exact h.sort (by repeat constructor)) (by show m / 4294967296 < m; omega) ⟨by show (O ++ [m % 4294967296]) ++ natW (m / 4294967296) = natW n; rw [← hO, natW_pos hm0]; simp, by show m / 4294967296 < _; omega⟩
  have f1 := h1;try simp only [bl] at f1
  refine c_exit (then_x (then_x (blk_eq rfl (tC (sR ?_)))));iterate 2 refine oV ?_
  refine nE ?_;refine ret1 rfl rfl ?_
  have hm0 : m = 0 := by omega
  subst hm0
  rw [natW_zero, List.append_nil] at hO
  exact leafWX (Ext.refl _ _) (by rw [hO]; exact Wds_natW n) (by unfold maxLen; omega) (fun I' hl hs => by rw [← hO]; exact hs)
theorem rCmp_any (va vb : Value) (A B : List Nat) {I : Hp} (ha : Ws I va A) (hb : Ws I vb B) (hs : A.length ≤ 35184372088600) (hs2 : B.length ≤ 35184372088600) : Fun Tryz.prog 179 [va, vb] I [] (fun v _ _ => v = .int .i64 (cmpZ (val A : Nat) (val B : Nat))) := by
  intro w hw
  refine enter2 _ Tryz.func179 rfl Tryz.ntmps179 rfl ?_ hw;refine sR ?_;refine oV ?_;refine nS ?_;refine oV ?_;refine o_lenW trivial rfl Tryz.underlying33 rfl (ha) ?_;refine oV ?_;refine o_lenW trivial rfl Tryz.underlying33 rfl (hb) ?_;refine o_max2 trivial rfl rfl rfl ?_;refine oV ?_;refine nU ?_;refine oV ?_
  (refine o_sub trivial rfl rfl rfl ?_ ?_; (omega))
  refine oV ?_;refine oN (tC (cB ?_));refine c_loop (ι := Nat × Int) [0, 1] (.cons rfl (.cons rfl .nil)) (fun x => x.1) (fun x E0 => (6, .int .i64 x.2) :: E0) (fun x => St w [] I []) (fun x => x.2 = (x.1 : Int) - 1 ∧ x.1 ≤ 35184372088600 ∧ ∀ t, x.1 ≤ t → dg A t = dg B t) ((max A.length B.length, max (A.length : Int) (B.length : Int) - 1)) (sC rfl (sC rfl (sC rfl sN))) (fun _ h => h) (⟨by simp only; omega, by show max A.length B.length ≤ _; omega, fun t ht => by have h9 : max A.length B.length ≤ t := ht; rw [dg_out (by omega), dg_out (by omega)]⟩) ?_;rintro ⟨j, z⟩ ⟨hz, hj, he⟩
  try dsimp only
  simp only at hz hj he; subst hz
  refine cS (sR ?_);iterate 2 refine oV ?_
  refine nT ?_;refine cC rfl (fun h1 => ?_) (fun h1 => ?_)
  ·
   have f1 := h1;try simp only [bl] at f1
   refine cK (tC (cS (cB (cS (sR ?_)))));iterate 2 refine oV ?_
   refine oQ Tryz.call205 rfl (rAt_any _ A _ (j - 1) ha (by omega)) ?_;iterate 2 refine oV ?_
   refine oQ Tryz.call205 rfl (rAt_any _ B _ (j - 1) hb (by omega)) ?_;refine oV ?_;refine nT ?_;refine cC rfl (fun h2 => ?_) (fun h2 => ?_)
   ·
    have f2 := h2;try simp only [bl] at f2
    refine sR ?_;refine oV ?_;refine oN (tC (cT (tR (blk_r (tR (tR (blk_r (tR ?_))))))));refine ret1 rfl rfl ?_;refine leaf0 (congrArg (Value.int .i64) ?_)
    have := cmp_lt ha.wds hb.wds (i := j - 1) (by omega) (fun t ht => he t (by omega))
    rw [cmpZ_lt (by omega)]
   have f2 := h2;try simp only [bl] at f2
   refine kS ?_;iterate 2 refine oV ?_
   refine oQ Tryz.call205 rfl (rAt_any _ A _ (j - 1) ha (by omega)) ?_;iterate 2 refine oV ?_
   refine oQ Tryz.call205 rfl (rAt_any _ B _ (j - 1) hb (by omega)) ?_;refine oV ?_;refine nT ?_;refine cC rfl (fun h3 => ?_) (fun h3 => ?_)
   ·
    have f3 := h3;try simp only [bl] at f3
    refine sR ?_;refine oV ?_;refine oN (tC (cT (blk_r (tR (tR (blk_r (tR ?_)))))));refine ret1 rfl rfl ?_;refine leaf0 (congrArg (Value.int .i64) ?_)
    have := cmp_lt hb.wds ha.wds (i := j - 1) (by omega) (fun t ht => (he t (by omega)).symm)
    rw [cmpZ_gt (by omega)]
   have f3 := h3;try simp only [bl] at f3
   refine cK (blk_n (tC (cR ?_)));refine oV ?_
   (refine o_sub trivial rfl rfl rfl ?_ ?_; (omega))
   refine oV ?_;refine oN ?_
   exact again (j - 1, (j : Int) - 1 - 1) (sC rfl (sC rfl (sC rfl sN))) (fun _ h => h) (by show j - 1 < j; omega) ⟨by simp only; omega, by show j - 1 ≤ _; omega, fun t ht => by
     have h9 : j - 1 ≤ t := ht
     by_cases htj : t = j - 1
     · subst htj; omega
     · exact he t (by omega)⟩
  have f1 := h1;try simp only [bl] at f1
  refine c_exit (then_x (then_x (blk_eq rfl (tC (sR ?_)))));refine oV ?_;refine nE ?_;refine ret1 rfl rfl ?_;refine leaf0 (congrArg (Value.int .i64) ?_)
  rw [val_same (A := A) (B := B) fun t => he t (by omega), cmpZ_self]
end Go.Proofs.YtfcmhcaggdakbaaGreatDoor
namespace Go.Tw
theorem pre_end {A : List Nat} {k : Nat} (h : A.length ≤ k) : pre A k = val A := pre_out h
theorem sum_step {O : List Nat} {T i s c c' a : Nat} (hl : O.length = i) (h : val O + 4294967296 ^ i * c = T) (hs : s + 4294967296 * c' = a + c) : val (O ++ [s]) + 4294967296 ^ (i + 1) * c' = T + a * 4294967296 ^ i := by
  rw [val_more, hl, pow_succ]
  have e1 : 4294967296 ^ i * 4294967296 * c' = 4294967296 ^ i * (4294967296 * c') := Nat.mul_assoc _ _ _
  have e2 : 4294967296 ^ i * s + 4294967296 ^ i * (4294967296 * c') = 4294967296 ^ i * a + 4294967296 ^ i * c := by rw [← Nat.mul_add, ← Nat.mul_add, hs]
  have e3 : a * 4294967296 ^ i = 4294967296 ^ i * a := Nat.mul_comm _ _
  rw [e1, e3]
  generalize 4294967296 ^ i * s = x1 at *
  generalize 4294967296 ^ i * (4294967296 * c') = x2 at *
  generalize 4294967296 ^ i * a = x3 at *
  generalize 4294967296 ^ i * c = x4 at *
  omega
theorem diff_step {O : List Nat} {T U i s c c' a b : Nat} (hl : O.length = i) (h : val O + U = T + 4294967296 ^ i * c) (hs : s + b + c = a + 4294967296 * c') : val (O ++ [s]) + (U + b * 4294967296 ^ i) = (T + a * 4294967296 ^ i) + 4294967296 ^ (i + 1) * c' := by
  rw [val_more, hl, pow_succ]
  have e1 : 4294967296 ^ i * 4294967296 * c' = 4294967296 ^ i * (4294967296 * c') := Nat.mul_assoc _ _ _
  have e2 : 4294967296 ^ i * s + 4294967296 ^ i * b + 4294967296 ^ i * c = 4294967296 ^ i * a + 4294967296 ^ i * (4294967296 * c') := by rw [← Nat.mul_add, ← Nat.mul_add, ← Nat.mul_add, hs]
  have e3 : a * 4294967296 ^ i = 4294967296 ^ i * a := Nat.mul_comm _ _
  have e4 : b * 4294967296 ^ i = 4294967296 ^ i * b := Nat.mul_comm _ _
  rw [e1, e3, e4]
  generalize 4294967296 ^ i * s = x1 at *
  generalize 4294967296 ^ i * (4294967296 * c') = x2 at *
  generalize 4294967296 ^ i * a = x3 at *
  generalize 4294967296 ^ i * b = x5 at *
  generalize 4294967296 ^ i * c = x4 at *
  omega
theorem word_mul {a w c : Nat} (ha : a < 4294967296) (hw : w < 4294967296) (hc : c < 4294967296) : a * w + c < 4294967296 * 4294967296 := by
  have h1 : a * w ≤ 4294967295 * 4294967295 := Nat.mul_le_mul (by omega) (by omega)
  omega
end Go.Tw
namespace Go.Proofs.YtfcmhcaggdakbaaGreatDoor
open Go Go.Tw
theorem rSub_any (va vb : Value) (A B : List Nat) {I : Hp} (ha : Ws I va A) (hb : Ws I vb B) (hs : A.length ≤ 35184372088500) (hs2 : B.length ≤ 35184372088500) (hle : val B ≤ val A) : Fun Tryz.prog 180 [va, vb] I [] (fun v I' _ => ∃ u, v = .tuple #[u, .bool true] ∧ Ws I' u (natW (val A - val B))) := by
  have hcmp : ¬ cmpZ (val A : Nat) (val B : Nat) < 0 := by unfold cmpZ; split <;> (try split) <;> omega
  intro w hw
  refine enter2 _ Tryz.func180 rfl Tryz.ntmps180 rfl ?_ hw;refine sR ?_;iterate 2 refine oV ?_
  refine nU ?_;iterate 2 refine oV ?_
  refine oQ Tryz.call179 rfl (rCmp_any _ _ _ _ ha hb (by omega) (by omega)) ?_;refine oV ?_;refine nT ?_;refine cC rfl (fun h1 => ?_) (fun h1 => ?_)
  ·
   have f1 := h1;try simp only [bl] at f1
   exfalso; exact hcmp f1
  have f1 := h1;try simp only [bl] at f1
  refine kS ?_;refine oV ?_;refine nS ?_;refine oV ?_;refine nU ?_;refine oV ?_;refine oN (tC (cB ?_));refine c_loop (ι := Nat × Nat × List Nat × Value) [0, 1] (.cons rfl (.cons rfl .nil)) (fun x => A.length - x.1) (fun x E0 => (6, x.2.2.2) :: (7, .int .u64 (x.2.1 : Nat)) :: (8, .int .i64 (x.1 : Nat)) :: E0) (fun x => St w [] I [.row x.2.2.2 134 1 x.2.2.1.length (wl x.2.2.1)]) (fun x => x.1 ≤ A.length ∧ x.2.1 ≤ 1 ∧ x.2.2.1.length = x.1 ∧ Wds x.2.2.1 ∧ val x.2.2.1 + pre B x.1 = pre A x.1 + 4294967296 ^ x.1 * x.2.1) ((0, 0, [], .slice none 0 0)) (sC rfl (sC rfl (sC rfl (sC rfl (sC rfl sN))))) (fun _ h => h.nilRow _ _) (⟨Nat.zero_le _, by decide, rfl, Wds_nil, rfl⟩) ?_;rintro ⟨i, c, O, u⟩ ⟨hi, hc, hol, hO, hv⟩
  try dsimp only
  simp only at hi hc hol hO hv; have hda := dg_lt ha.wds i; have hdb := dg_lt hb.wds i
  refine cS (sR ?_);iterate 2 refine oV ?_
  refine o_lenW trivial rfl Tryz.underlying33 rfl (ha) ?_;refine oV ?_;refine nT ?_;refine cC rfl (fun h2 => ?_) (fun h2 => ?_)
  ·
   have f2 := h2;try simp only [bl] at f2
   refine cK (tC (cS (cB (sR ?_))));iterate 2 refine oV ?_
   refine oQ Tryz.call205 rfl (rAt_any _ A _ i ha rfl) ?_;refine o_arA trivial rfl rfl rfl (by rw [IntWalk.u64_in _ (by omega)]) ?_;iterate 2 refine oV ?_
   refine oQ Tryz.call205 rfl (rAt_any _ B _ i hb rfl) ?_;refine o_arS trivial rfl rfl rfl (by rw [IntWalk.u64_in _ (by omega)]) ?_;refine oV ?_;refine o_arS trivial rfl rfl rfl (by rw [IntWalk.u64_in _ (by omega)]) ?_;refine oV ?_;refine nS ?_;iterate 2 refine oV ?_
   refine o_rem trivial rfl rfl rfl (by omega) ?_;refine o_convIn trivial rfl Tryz.underlying136 Tryz.underlying134 rfl (by rw [IntWalk.u32_in _ (by omega)]) ?_;refine oB Tryz.underlying33 Tryz.sizeOf134 Tryz.zeroValue134 fun b34 => ?_;refine oD Tryz.underlying33 elem134 fun v35 => ?_;refine oV ?_;refine nR ?_;refine oV ?_;refine o_quo trivial rfl rfl rfl (by omega) (by rw [IntWalk.u64_in _ (by omega)]) ?_;refine o_arS trivial rfl rfl rfl (by rw [IntWalk.u64_in _ (by omega)]) ?_;refine oV ?_;refine oN (blk_n (tC (cR ?_)));refine oV ?_
   (refine o_add trivial rfl rfl rfl ?_ ?_; (omega))
   refine oV ?_;refine oN ?_
   have hst := diff_step (s := (4294967296 + dg A i - dg B i - c) % 4294967296) (c' := 1 - (4294967296 + dg A i - dg B i - c) / 4294967296) (a := dg A i) (b := dg B i) hol hv (by omega)
   have e7 : (1 : Int) - (4294967296 + (dg A i : Int) - (dg B i : Int) - (c : Int)) / 4294967296 = ((1 - (4294967296 + dg A i - dg B i - c) / 4294967296 : Nat) : Int) := by omega
   exact again (i + 1, 1 - (4294967296 + dg A i - dg B i - c) / 4294967296, O ++ [(4294967296 + dg A i - dg B i - c) % 4294967296], v35) (by rw [e7]; exact (sC rfl (sC rfl (sC rfl (sC rfl (sC rfl sN)))))) (fun _ h => by rw [← wl_more O (z := (4294967296 + (dg A i : Int) - (dg B i : Int) - (c : Int)) % 4294967296) (by omega), List.length_append]; exact h.sort (by repeat constructor)) (by show A.length - (i + 1) < A.length - i; omega) ⟨by show i + 1 ≤ _; omega, by show 1 - _ ≤ 1; omega, by show (O ++ [_]).length = i + 1; rw [List.length_append, hol]; rfl, hO.more (by omega), hst⟩
  have f2 := h2;try simp only [bl] at f2
  refine c_exit (then_x (then_x (blk_eq rfl (tC (cS ?_)))))
  have hie : i = A.length := by omega
  subst hie
  rw [pre_end (Nat.le_refl _)] at hv
  have hB : pre B A.length = val B := by
    rcases Nat.lt_or_ge A.length B.length with hlt | hge
    · have h1 := val_split (l := B) (i := A.length) (by omega)
      have h2 := val_lt ha.wds
      have h3 : val (B.drop A.length) = 0 := by
        rcases Nat.eq_zero_or_pos (val (B.drop A.length)) with h | h
        · exact h
        · have : 4294967296 ^ A.length * 1 ≤ 4294967296 ^ A.length * val (B.drop A.length) := Nat.mul_le_mul_left _ h
          omega
      rw [h3, Nat.mul_zero] at h1
      omega
    · exact pre_end hge
  have hc0 : c = 0 := by
    have h2 := val_lt hO
    rw [hol] at h2
    rw [hB] at hv
    rcases Nat.eq_zero_or_pos c with h | h
    · exact h
    · have : 4294967296 ^ A.length * 1 ≤ 4294967296 ^ A.length * c := Nat.mul_le_mul_left _ h
      omega
  subst hc0
  rw [hB, Nat.mul_zero, Nat.add_zero] at hv
  refine c_sealO O .here hO (by unfold maxLen; omega) (fun I1 hx1 hs1 => ?_);refine cR ?_;refine oV ?_;refine oI Tryz.call115 rfl (rTrim_any _ _ hs1 (by omega)) ?_;rintro u2 I2 hx2 hs2';iterate 2 refine oV ?_
  refine nE ?_;refine ret2 rfl rfl rfl ?_;refine leaf (hx1.trans hx2 (Nat.le_refl _)) (List.nil_sublist _) ⟨u2, rfl, ?_⟩; rw [show val O = val A - val B by omega] at hs2'; exact hs2'
theorem rOne_any (va : Value) (A : List Nat) (y c0 : Nat) {I : Hp} (ha : Ws I va A) (hs : A.length ≤ 35184372088500) (hy : y < 4294967296) (hc0 : c0 < 4294967296) : Fun Tryz.prog 177 [va, .int .u32 (y : Int), .int .u32 (c0 : Int)] I [] (fun v I' _ => Ws I' v (natW (val A * y + c0))) := by
  intro w hw
  refine enter3 _ Tryz.func177 rfl Tryz.ntmps177 rfl ?_ hw;refine sR ?_;refine oV ?_;refine nS ?_;refine oV ?_;refine nS ?_;refine oV ?_;refine o_convIn trivial rfl Tryz.underlying134 Tryz.underlying136 rfl (by rw [IntWalk.u64_in _ (by omega)]) ?_;refine oV ?_;refine nU ?_;refine oV ?_;refine oN (tC (cB ?_));refine c_loop (ι := Nat × Nat × List Nat × Value) [0, 1] (.cons rfl (.cons rfl .nil)) (fun x => A.length - x.1) (fun x E0 => (7, x.2.2.2) :: (8, .int .u64 (x.2.1 : Nat)) :: (9, .int .i64 (x.1 : Nat)) :: E0) (fun x => St w [] I [.row x.2.2.2 134 1 x.2.2.1.length (wl x.2.2.1)]) (fun x => x.1 ≤ A.length ∧ x.2.1 < 4294967296 ∧ x.2.2.1.length = x.1 ∧ Wds x.2.2.1 ∧ val x.2.2.1 + 4294967296 ^ x.1 * x.2.1 = pre A x.1 * y + c0) ((0, c0, [], .slice none 0 0)) (sC rfl (sC rfl (sC rfl (sC rfl (sC rfl sN))))) (fun _ h => h.nilRow _ _) (⟨Nat.zero_le _, hc0, rfl, Wds_nil, by show 0 + 4294967296 ^ 0 * c0 = 0 * y + c0; omega⟩) ?_;rintro ⟨i, c, O, u⟩ ⟨hi, hc, hol, hO, hv⟩
  try dsimp only
  simp only at hi hc hol hO hv; have hda := dg_lt ha.wds i; have hmw := word_mul hda hy hc
  refine cS (sR ?_);iterate 2 refine oV ?_
  refine o_lenW trivial rfl Tryz.underlying33 rfl (ha) ?_;refine oV ?_;refine nT ?_;refine cC rfl (fun h1 => ?_) (fun h1 => ?_)
  ·
   have f1 := h1;try simp only [bl] at f1
   refine cK (tC (cS (cB (sR ?_))));iterate 2 refine oV ?_
   refine o_elemW trivial rfl Tryz.underlying33 Tryz.sizeOf134 rfl (ha) rfl (by omega) ?_;refine o_load1I trivial rfl Tryz.isAgg134 rfl (ha.cellI (k := i) rfl (by omega)) ?_;refine o_convIn trivial rfl Tryz.underlying134 Tryz.underlying136 rfl (by rw [IntWalk.u64_in _ (by omega)]) ?_;refine oV ?_;refine o_convIn trivial rfl Tryz.underlying134 Tryz.underlying136 rfl (by rw [IntWalk.u64_in _ (by omega)]) ?_
   rw [show (dg A i : Int) = ((dg A i : Nat) : Int) from rfl]
   (refine o_arM trivial rfl rfl rfl (by rw [IntWalk.u64_in _ (by rw [← Int.natCast_mul]; omega)]) ?_)
   refine oV ?_
   rw [← Int.natCast_mul]
   refine o_arA trivial rfl rfl rfl (by rw [IntWalk.u64_in _ (by omega)]) ?_;refine oV ?_;refine nS ?_;iterate 2 refine oV ?_
   refine o_rem trivial rfl rfl rfl (by omega) ?_;refine o_convIn trivial rfl Tryz.underlying136 Tryz.underlying134 rfl (by rw [IntWalk.u32_in _ (by omega)]) ?_;refine oB Tryz.underlying33 Tryz.sizeOf134 Tryz.zeroValue134 fun b33 => ?_;refine oD Tryz.underlying33 elem134 fun v34 => ?_;refine oV ?_;refine nR ?_;refine oV ?_;refine o_quo trivial rfl rfl rfl (by omega) (by rw [IntWalk.u64_in _ (by omega)]) ?_;refine oV ?_;refine oN (blk_n (tC (cR ?_)));refine oV ?_
   (refine o_add trivial rfl rfl rfl ?_ ?_; (omega))
   refine oV ?_;refine oN ?_
   have hst := sum_step (s := (dg A i * y + c) % 4294967296) (c' := (dg A i * y + c) / 4294967296) (a := dg A i * y) hol hv (by omega)
   exact again (i + 1, (dg A i * y + c) / 4294967296, O ++ [(dg A i * y + c) % 4294967296], v34) (sC rfl (sC rfl (sC rfl (sC rfl (sC rfl sN))))) (fun _ h => by rw [← wl_more O (z := (((dg A i * y : Nat) : Int) + (c : Int)) % 4294967296) (by omega), List.length_append]; exact h.sort (by repeat constructor)) (by show A.length - (i + 1) < A.length - i; omega) ⟨by show i + 1 ≤ _; omega, by show (dg A i * y + c) / 4294967296 < 4294967296; omega, by show (O ++ [_]).length = i + 1; rw [List.length_append, hol]; rfl, hO.more (by omega), by
     show val (O ++ [_]) + 4294967296 ^ (i + 1) * _ = (pre A i + dg A i * 4294967296 ^ i) * y + c0
     rw [hst, Nat.add_mul, Nat.mul_right_comm]; omega⟩
  have f1 := h1;try simp only [bl] at f1
  refine c_exit (then_x (then_x (blk_eq rfl (tC (cS ?_)))))
  have hie : i = A.length := by omega
  subst hie
  rw [pre_end (Nat.le_refl _)] at hv
  refine cR ?_;iterate 2 refine oV ?_
  refine o_convIn trivial rfl Tryz.underlying136 Tryz.underlying134 rfl (by rw [IntWalk.u32_in _ (by omega)]) ?_;refine oB Tryz.underlying33 Tryz.sizeOf134 Tryz.zeroValue134 fun b40 => ?_;refine oD Tryz.underlying33 elem134 fun v41 => ?_;refine oV ?_;refine oN (tC (cS ?_))
  rw [show wl O ++ ([Value.int .u32 (c : Int)] ++ []) = wl (O ++ [c]) from wl_more O rfl]
  refine c_sealO (O ++ [c]) (by rw [List.length_append]; exact .there .here) (hO.more hc) (by rw [List.length_append, hol]; have := ha.most; unfold maxLen at *; show A.length + 1 ≤ _; omega) (fun I1 hx1 hs1 => ?_)
  rw [← hol, ← val_more] at hv
  refine cR ?_;refine oV ?_;refine oI Tryz.call115 rfl (rTrim_any _ _ hs1 (by rw [List.length_append, hol]; show A.length + 1 ≤ _; omega)) ?_;rintro u2 I2 hx2 hs2';refine oV ?_;refine nE ?_;refine ret1 rfl rfl ?_;refine leaf (hx1.trans hx2 (Nat.le_refl _)) (List.nil_sublist _) ?_; rw [hv] at hs2'; exact hs2'
theorem rShift_any (va : Value) (A : List Nat) (m : Nat) {I : Hp} (ha : Ws I va A) (hs : A.length ≤ 1000000) (hm : m ≤ 100000) : Fun Tryz.prog 202 [va, .int .i64 (m : Int)] I [] (fun v I' _ => Ws I' v (natW (val A * 2 ^ m))) := by
  have hA := val_lt ha.wds
  intro w hw
  refine enter2 _ Tryz.func202 rfl Tryz.ntmps202 rfl ?_ hw;refine sR ?_;refine oV ?_;refine nS ?_;refine oV ?_;refine oI Tryz.call115 rfl (rTrim_any _ _ ha (by omega)) ?_;rintro u1 I1 hx1 hs1;refine oV ?_;refine nU ?_;refine oV ?_;refine oN (tC (cB ?_));refine c_loop (ι := Nat × Value × Hp) [1] (.cons rfl .nil) (fun x => m - x.1) (fun x E0 => (5, x.2.1) :: (6, .int .i64 (x.1 : Nat)) :: E0) (fun x => St w [] x.2.2 []) (fun x => x.1 ≤ m ∧ Ws x.2.2 x.2.1 (natW (val A * 2 ^ x.1)) ∧ Ext w.heap.size I x.2.2) ((0, u1, I1)) (sC rfl (sC rfl (sC rfl sN))) (fun _ h => h) (⟨Nat.zero_le _, by show Ws I1 u1 (natW (val A * 1)); rw [Nat.mul_one]; exact hs1, hx1⟩) ?_;rintro ⟨i, u, I2⟩ ⟨hi, hu, hx2⟩
  try dsimp only
  simp only at hi hu hx2
  refine cS (sR ?_);iterate 3 refine oV ?_
  refine' o_and trivial trivial rfl rfl rfl rfl rfl rfl rfl rfl (fun hb12 => ?_) ?_;rotate_left
  ·
   iterate 2 refine gV hb12 ?_
   refine oN ?_;exact joins rfl
  refine' o_and trivial trivial rfl rfl rfl rfl rfl rfl rfl rfl (fun hb16 => ?_) ?_;rotate_left
  ·
   have fb16 := hb16
   try simp only [bl] at fb16
   refine gV hb16 ?_;refine o_lenW (wS rfl rfl hb16) rfl Tryz.underlying33 rfl (hu) ?_;refine gV hb16 ?_;refine oN ?_;exact joins rfl
  refine nT ?_;refine cC rfl (fun h1 => ?_) (fun h1 => ?_)
  ·
   have f1 := h1;try simp only [bl] at f1
   have hl1 : (natW (val A * 2 ^ i)).length ≤ A.length + (i + 1) := natW_len_le (by
     rw [Nat.pow_add]
     refine Nat.mul_lt_mul'' hA ?_
     have h2 : 2 ^ i < 2 ^ (32 * (i + 1)) := Nat.pow_lt_pow_right (by decide) (by omega)
     rwa [Nat.pow_mul] at h2)
   refine cK (tC (cS (cB (cR ?_))));refine oV ?_;refine oI Tryz.call177 rfl (rOne_any _ _ 2 0 hu (by omega) (by decide) (by decide)) ?_;rintro u3 I3 hx3 hs3;refine oV ?_;refine oN (blk_n (tC (cR ?_)));refine oV ?_
   (refine o_add trivial rfl rfl rfl ?_ ?_; (omega))
   refine oV ?_;refine oN ?_
   rw [val_natW, Nat.add_zero, Nat.mul_assoc, ← Nat.pow_succ] at hs3
   exact again (i + 1, u3, I3) (sC rfl (sC rfl (sC rfl sN))) (fun _ h => h) (by show m - (i + 1) < m - i; omega) ⟨by show i + 1 ≤ _; omega, hs3, hx2.trans hx3 (Nat.le_refl _)⟩
  have f1 := h1;try simp only [bl] at f1
  refine c_exit (then_x (then_x (blk_eq rfl (tC (sR ?_)))));iterate 2 refine oV ?_
  refine nE ?_;refine ret1 rfl rfl ?_;refine leaf hx2 (List.nil_sublist _) ?_
  by_cases him : i = m
  · subst him; exact hu
  · have h0 : val A * 2 ^ i = 0 := natW_len_zero.1 (by omega)
    have hp : 0 < 2 ^ i := Nat.pow_pos (by decide)
    have h1 : val A = 0 := by
      rcases Nat.mul_eq_zero.1 h0 with h | h
      · exact h
      · omega
    rw [h1, Nat.zero_mul] at hu ⊢
    exact hu
end Go.Proofs.YtfcmhcaggdakbaaGreatDoor
