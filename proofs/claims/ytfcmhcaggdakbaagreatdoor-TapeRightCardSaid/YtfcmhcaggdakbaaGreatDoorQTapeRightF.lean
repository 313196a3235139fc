/-
  TapeRight, part 6: the texts Law14, Law14r, Open, Open11 as one.
-/
import Derived.Test.YtfcmhcaggdakbaaGreatDoorQTapeRightE
import Derived.Deep.Slices
set_option linter.unusedVariables false
set_option linter.unusedSimpArgs false
set_option linter.unnecessarySimpa false
set_option maxHeartbeats 1000000
namespace Go.Proofs.YtfcmhcaggdakbaaGreatDoor
open Go Go.Tw
def s14 : ByteArray := ⟨#[105, 110, 32, 120, 59, 32, 108, 101, 116, 32, 97, 32, 61, 32, 120, 59, 32, 108, 101, 116, 32, 98, 32, 61, 32, 97, 32, 42, 32, 40, 97, 32, 43, 32, 49, 41, 59, 32, 111, 117, 116, 32, 98, 44, 32, 120, 59]⟩
def x14 : Ex := .bin 4 (.ref awA) (.bin 2 (.ref awA) (.num 1))
def l14 : List (ByteArray × Ex) := [(awA, .ref awX), (awB, x14)]
def p14 : ProgC := ⟨[awX], (laid l14 0).1, [awB, awX], (laid l14 0).2⟩
def t14 : TapeC := ⟨1, [constC (mkRat 1 1), ⟨2, 0, 1, 0, false, [], []⟩, ⟨4, 0, 2, 0, false, [], []⟩], [3, 0]⟩
theorem ok14 : x14.ok := ⟨by decide, by decide, nameZ_A, by decide, by decide, nameZ_A, ok_num (n := 1) (by decide)⟩
theorem right14 : RightP p14 l14 where
  lets := rfl
  all := rfl
  ok := fun a ha => by
    simp only [l14, List.mem_cons, List.not_mem_nil, or_false] at ha
    rcases ha with rfl | rfl
    · exact ⟨nameZ_A, nameZ_X⟩
    · exact ⟨nameZ_B, ok14⟩
  ins := ⟨fun s hs => by rw [List.mem_singleton.1 hs]; exact nameZ_X, by decide, by decide⟩
  outs := ⟨fun s hs => by
    simp only [p14, List.mem_cons, List.not_mem_nil, or_false] at hs
    rcases hs with rfl | rfl
    · exact nameZ_B
    · exact nameZ_X, by decide, by decide⟩
  few := ⟨by decide, by decide⟩
  low := fun a ha => by
    simp only [l14, List.mem_cons, List.not_mem_nil, or_false] at ha
    rcases ha with rfl | rfl <;> decide
theorem toks14 : progQ p14.ins p14.outs l14 = [tk 0 inS, tk 0 awX, tk 2 semiS, tk 0 letS, tk 0 awA, tk 2 equalS, tk 0 awX, tk 2 semiS, tk 0 letS, tk 0 awB, tk 2 equalS, tk 0 awA, tk 2 starS, tk 2 lpar, tk 0 awA, tk 2 plusS, tk 1 ⟨#[49]⟩, tk 2 rpar, tk 2 semiS, tk 0 outS, tk 0 awB, tk 2 commaS, tk 0 awX, tk 2 semiS] := by
  have h1 : shP (.ref awX) = [tk 0 awX] := rfl
  have h2 : shP x14 = [tk 0 awA, gp, tk 2 starS, gp, tk 2 lpar, tk 0 awA, gp, tk 2 plusS, gp, tk 1 (ratS 1), tk 2 rpar] := rfl
  show namesK inS p14.ins ++ ((letQ (awA, .ref awX) ++ (letQ (awB, x14) ++ [])) ++ namesK outS p14.outs) = _
  unfold letQ
  dsimp only
  rw [h1, h2, rat1]
  rfl
theorem parse14 : parseZ s14 = ⟨p14, 0, 0, 0⟩ := parse_of (by kernel_rfl) (by rw [toks14]; kernel_rfl) right14
def K14 : KN := [(awX, ⟨false, 0⟩), (awA, ⟨true, 0⟩), (awB, ⟨true, 1⟩)]
theorem read14 : (readZ p14).err = 0 ∧ (readZ p14).K = K14 := by
  have h := readZ_outs (p := p14) (n := ⟨#[]⟩) (m := ⟨#[]⟩) (K := [(awX, ⟨false, 0⟩)]) (K2 := K14) (L := [awX, awA, awA]) (by rw [tZ_right right14]; rfl) (by kernel_rfl) (by kernel_rfl)
  rw [h]
  exact ⟨by kernel_rfl, rfl⟩
theorem where14 (s : ByteArray) : whereZ p14 s = if hasK s K14 = true then (((getK s K14).getD ⟨false, 0⟩).l, ((getK s K14).getD ⟨false, 0⟩).i, true) else (false, 0, false) := by
  unfold whereZ
  rw [read14.1, read14.2]
  simp
theorem lowGo_ref {p : ProgC} {c : NodeC} {r : List NodeC} {i : Nat} {pl : List Int} {ops : List OpC} {z : Int} (h : c.kind = 0) (hz : plcZ p pl c.name = z) : lowGo p (c :: r) i pl ops = lowGo p r (i + 1) (pl.set i z) ops := by
  rw [lowGo, if_pos h, hz]
theorem lowGo_op {p : ProgC} {c : NodeC} {r : List NodeC} {i : Nat} {pl : List Int} {ops : List OpC} (h : c.kind ≠ 0) : lowGo p (c :: r) i pl ops = lowGo p r (i + 1) (pl.set i ((p.ins.length : Int) + ops.length)) (ops ++ [opL c (pl.set i ((p.ins.length : Int) + ops.length))]) := by
  rw [lowGo, if_neg h]
theorem lowT14 : lowT p14 = t14 := by
  have hp : ∀ pl s, plcZ p14 pl s = if (whereZ p14 s).1 = true then pl.getD ((p14.lets.getD (whereZ p14 s).2.1.toNat ⟨⟨#[]⟩, 0⟩).root.toNat) 0 else (whereZ p14 s).2.1 := fun _ _ => rfl
  have wX : whereZ p14 awX = (false, 0, true) := by rw [where14]; kernel_rfl
  have wA : whereZ p14 awA = (true, 0, true) := by rw [where14]; kernel_rfl
  have wB : whereZ p14 awB = (true, 1, true) := by rw [where14]; kernel_rfl
  have pX : ∀ pl, plcZ p14 pl awX = 0 := fun pl => by rw [hp, wX]; rfl
  have pA : ∀ pl, plcZ p14 pl awA = pl.getD 0 0 := fun pl => by rw [hp, wA]; rfl
  have pB : ∀ pl, plcZ p14 pl awB = pl.getD 5 0 := fun pl => by rw [hp, wB]; rfl
  have e1 : lowAll p14 = ([0, 0, 0, 1, 2, 3], t14.ops) := by
    unfold lowAll
    have e2 : p14.all = [refN awX, refN awA, refN awA, numN 1, binN 2 2 3, binN 4 1 4] := by kernel_rfl
    rw [e2]
    show lowGo p14 _ 0 [0, 0, 0, 0, 0, 0] [] = _
    rw [lowGo_ref rfl (pX _), lowGo_ref rfl (pA _), lowGo_ref rfl (pA _), lowGo_op (by decide), lowGo_op (by decide), lowGo_op (by decide)]
    have e3 : mkRat 1 1 = (1 : Rat) := by decide +kernel
    unfold t14
    rw [e3]
    rfl
  unfold lowT
  rw [e1]
  show (⟨1, t14.ops, [plcZ p14 [0, 0, 0, 1, 2, 3] awB, plcZ p14 [0, 0, 0, 1, 2, 3] awX]⟩ : TapeC) = _
  rw [pB, pX]
  rfl
theorem w14 : tapeW t14 = some [1, 1, 2, 3] := by
  have h := constC_ok (q := mkRat 1 1) (by decide +kernel) (by decide +kernel)
  unfold tapeW t14
  simp only [wgts, h, constC_w, if_true]
  decide +kernel
theorem low14 : lowZ p14 = ⟨t14, ⟨#[]⟩, 0⟩ := by
  unfold lowZ
  rw [if_neg (by rw [read14.1]; decide), lowT14, w14]
  exact if_pos rfl
theorem few14 : ∀ o ∈ t14.ops, OpC.few 3000 o := fun o ho => by
  simp only [t14, List.mem_cons, List.not_mem_nil, or_false] at ho
  rcases ho with rfl | rfl | rfl
  · exact few_const (bd_small (by decide) (by decide))
  · exact few_none _ _ _ _
  · exact few_none _ _ _ _
theorem few_two {l : List OpC} (h : ∀ o ∈ l, OpC.few 3000 o) : ∀ o ∈ l, OpC.few 2000000 o := fun o ho => ⟨Nat.le_trans (h o ho).1 (by decide), Nat.le_trans (h o ho).2 (by decide)⟩
theorem awake14_any {I : Hp} (hT : Tabs I) (hM : Mx I) (hE : Errs I) : Fun Tryz.prog 29 [] I [] (fun v _ _ => v = .bool true) := by
  have hpa := parse_any s14 hT hM hE (by decide)
  rw [parse14] at hpa
  intro w hw
  refine enter0 _ Tryz.func29 rfl Tryz.ntmps29 ?_ hw;refine sR ?_;refine oV ?_;refine nS ?_;refine oI Tryz.call27 rfl hpa ?_;rintro _ I1 hx1 ⟨vi, vl, vo, va, ns, rfl, hp, hf⟩;refine oV ?_
  have hp : ProgV I1 vi vl vo va p14 ns := hp
  have hsi := hp.si
  have hsl := hp.sl
  have hso := hp.so
  have hsa := hp.sa
  have hf' : ∀ o ∈ ns, o.c.few 3000 := fun o ho => ⟨Nat.le_trans (hf o ho).1 (by decide), Nat.le_trans (hf o ho).2 (by decide)⟩
  have hlow := lowerT_any vi vl vo va p14 ns hp hf'
  rw [low14] at hlow
  iterate 3 refine oV ?_
  refine o_alloc trivial rfl Tryz.zeroValue26 rfl (fun b1 => ?_);refine o_alloc trivial rfl Tryz.zeroValue48 rfl (fun b2 => ?_);refine oS Tryz.sizeOf26 ?_;refine oS Tryz.sizeOf48 ?_;refine oV ?_;refine nS ?_;refine oA Tryz.isAgg26 Tryz.sizeOf26 ?_;refine oI Tryz.call30 rfl hlow ?_;rintro _ I2 hx2 ⟨wo, wu, os, rfl, ht, hfo⟩;refine oV ?_
  have ht : TapeV I2 wo wu t14 os := ht
  have hto := ht.so
  have htu := ht.su
  iterate 3 refine oV ?_
  refine o_alloc trivial rfl Tryz.zeroValue56 rfl (fun b4 => ?_);refine oS Tryz.sizeOf56 ?_;iterate 2 refine oV ?_
  refine nS ?_;refine oI Tryz.call63 rfl (rOf8_any 1 (by decide)) ?_;rintro _ I3 hx3 ⟨u1, u2, rfl, k1, k2⟩;refine o_buildS trivial rfl (bld69) rfl (.cons rfl rfl rfl (by repeat constructor) (.cons rfl rfl rfl (by repeat constructor) .nil)) ?_;iterate 2 refine o_buildS trivial rfl (bld69) rfl (.cons rfl rfl rfl (by repeat constructor) (.cons rfl rfl rfl (by repeat constructor) (.cons rfl rfl rfl (by repeat constructor) .nil))) ?_
  refine oB Tryz.underlying54 Tryz.sizeOf69 Tryz.zeroValue69 fun b23 => ?_;refine oB Tryz.underlying52 Tryz.sizeOf3 Tryz.zeroValue3 fun b24 => ?_;refine l_sealB (b := b23) (.there .here) (fun I4 hx4 hb23 => ?_);refine l_sealB (b := b24) .here (fun I5 hx5 hb24 => ?_)
  have hl5 := hx4.le.trans hx5.le
  have hq : TapeV I5 (.slice (some ⟨b23, 0, none⟩) 3 3) (.slice (some ⟨b24, 0, none⟩) 2 2) t14 [⟨constC (mkRat 1 1), u1, u2⟩, plainO 2 0 1 0, plainO 4 0 2 0] := TapeV.of (t := t14) [⟨constC (mkRat 1 1), u1, u2⟩, plainO 2 0 1 0, plainO 4 0 2 0] (hx5.le _ _ hb23) hb24 (fun o ho => by
    simp only [List.mem_cons, List.not_mem_nil, or_false] at ho
    rcases ho with rfl | rfl | rfl
    · exact ⟨k1.le hl5, k2.le hl5⟩
    · exact plainO_ok _ _ _ _ _
    · exact plainO_ok _ _ _ _ _) rfl (Nat.le_of_ble_eq_true rfl) (Nat.le_of_ble_eq_true rfl)
  have ht5 := ht.le (hx3.le.trans hl5)
  have hwt := tWeights_any t14 wo wu os ht5 (few_two few14)
  have hri := tapeRight_any t14 wo wu os ht5 (few_two few14)
  have hsm := tSame_any wo wu _ _ t14 t14 os _ ht5 hq
  rw [w14] at hwt hri
  refine o_buildS trivial rfl (bld56) rfl (.cons rfl rfl rfl (by repeat constructor) (.cons rfl (by rfl) (by rfl) (by repeat constructor) (.cons rfl (by rfl) (by rfl) (by repeat constructor) .nil))) ?_;refine o_alloc trivial rfl Tryz.zeroValue56 rfl (fun b7 => ?_);refine oS Tryz.sizeOf56 ?_;refine nS ?_;iterate 2 refine oV ?_
  refine' o_and trivial trivial rfl rfl rfl rfl rfl rfl rfl rfl (fun hb28 => ?_) ?_;rotate_left
  ·
   iterate 2 refine gV hb28 ?_
   refine oN ?_;exact joins rfl
  refine' o_and trivial trivial rfl rfl rfl rfl rfl rfl rfl rfl (fun hb32 => ?_) ?_;rotate_left
  ·
   iterate 2 refine gV hb32 ?_
   refine oN ?_;exact joins rfl
  refine' o_and trivial trivial rfl rfl rfl rfl rfl rfl rfl rfl (fun hb36 => ?_) ?_;rotate_left
  ·
   have fb36 := hb36
   try simp only [bl] at fb36
   iterate 2 refine o_loadA (wS rfl rfl hb36) rfl Tryz.isAgg56 Tryz.sizeOf56 rfl (by repeat constructor) (by repeat constructor) ?_
   refine o_callQ (wS rfl rfl hb36) rfl Tryz.call32 rfl hsm ?_;refine oN ?_;exact joins rfl
  refine' o_and trivial trivial rfl rfl rfl rfl rfl rfl rfl rfl (fun hb41 => ?_) ?_;rotate_left
  ·
   have fb41 := hb41
   try simp only [bl] at fb41
   refine o_loadA (wS rfl rfl hb41) rfl Tryz.isAgg56 Tryz.sizeOf56 rfl (by repeat constructor) (by repeat constructor) ?_;refine o_callI (wS rfl rfl hb41) rfl Tryz.call37 rfl hwt ?_;rintro _ I6 hx6 hs6;refine o_buildSl (wS rfl rfl hb41) rfl Tryz.underlying52 Tryz.sizeOf3 Tryz.zeroValue3 (by decide) (by decide) rfl (by repeat first | exact rfl | constructor) rfl (fun b44 => ?_);refine l_sealB .here (fun I7 hx7 hb44 => ?_)
   have hri := tapeRight_any t14 wo wu os (ht5.le (hx6.le.trans hx7.le)) (few_two few14)
   rw [w14] at hri
   refine o_callQ (wS rfl rfl hb41) rfl Tryz.call36 rfl (ints_any _ _ [1, 1, 2, 3] (hs6.le hx7.le) (Slc.of_box (sz := 1) (xss := nss [1, 1, 2, 3]) (c := 4) hb44 (nss_one _) (by decide) (by decide))) ?_;refine oN ?_;exact joinsW rfl (fun _ h => (h.sort (by repeat constructor)).fewer ((hx6.le).trans hx7.le))
  refine' o_and trivial trivial rfl rfl rfl rfl rfl rfl rfl rfl (fun hb47 => ?_) ?_;rotate_left
  ·
   have fb47 := hb47
   try simp only [bl] at fb47
   refine o_loadA (wS rfl rfl hb47) rfl Tryz.isAgg56 Tryz.sizeOf56 rfl (by repeat constructor) (by repeat constructor) ?_;refine o_callQ (wS rfl rfl hb47) rfl Tryz.call34 rfl hri ?_;refine oN ?_;exact joins rfl
  refine oV ?_;refine nE ?_;refine ret1 rfl rfl ?_;exact leaf (hx1.trans (hx2.trans (hx3.trans (hx4.trans hx5 (Nat.le_refl _)) (Nat.le_refl _)) (Nat.le_refl _)) (Nat.le_refl _)) (List.nil_sublist _) (congrArg Value.bool (by simp [eqB_self]))
theorem low_bad {p : ProgC} (h : (lowZ p).err ≠ 0) : (lowZ p).t = noT := by
  unfold lowZ at h ⊢
  split
  · rfl
  · rename_i h1
    rw [if_neg h1] at h
    split
    · rename_i h2
      rw [if_pos h2] at h
      exact absurd rfl h
    · rfl
theorem low_ok {p : ProgC} (h : (lowZ p).err = 0) : (∃ l, RightP p l) ∧ lowZ p = ⟨lowT p, ⟨#[]⟩, 0⟩ ∧ (tapeW (lowT p)).isSome = true := by
  unfold lowZ at h ⊢
  split at h
  · rename_i h1; exact absurd h h1
  · rename_i h1
    split at h
    · rename_i h2
      have h3 : (readZ p).err = 0 := by omega
      obtain ⟨l, _, _, _, _, _, hl, _⟩ := readZ_parts h3
      exact ⟨⟨l, hl⟩, by rw [if_neg h1, if_pos h2], h2⟩
    · cases h
def cntZ (l : List NodeC) : Nat := (l.filter fun c => c.kind != 0).length
theorem cnt_take {l : List NodeC} {i : Nat} {c : NodeC} (h : l[i]? = some c) : cntZ (l.take (i + 1)) = cntZ (l.take i) + if c.kind ≠ 0 then 1 else 0 := by
  unfold cntZ
  rw [List.take_add_one, h, Option.toList_some, List.filter_append, List.length_append]
  congr 1
  by_cases hc : c.kind = 0
  · rw [if_neg (by simpa using hc)]; simp [hc]
  · rw [if_pos hc]; simp [hc]
theorem cnt_le (l : List NodeC) : cntZ l ≤ l.length := List.length_filter_le _ _
theorem low_ops (p : ProgC) : (lowT p).ops.length = cntZ p.all := by
  have h := (lowGo_len p p.all 0 (List.replicate p.all.length 0) []).2
  show (lowAll p).2.length = _
  unfold lowAll
  rw [h]
  unfold cntZ
  simp
theorem TapeRight_any (vi vl vo va : Value) (p : ProgC) (ns : List NodeV) {I : Hp} (hp : ProgV I vi vl vo va p ns) (hT : Tabs I) (hM : Mx I) (hE : Errs I) (hP : P10 I) : Fun Tryz.prog 14 [.agg #[vi, vl, vo, va]] I [] (fun v _ _ => v = .bool true) := by
  have hsi := hp.si
  have hsl := hp.sl
  have hso := hp.so
  have hsa := hp.sa
  have hla := nds_len ns
  have hli := scs_len p.ins
  have hlo := scs_len p.outs
  have hal : p.all.length = ns.length := by rw [← hp.eq, List.length_map]
  intro w hw
  refine enter1 _ Tryz.func14 rfl Tryz.ntmps14 rfl ?_ hw;refine sR ?_;refine o_box trivial rfl rfl rfl (fun b1 => ?_);refine oV ?_;refine nS ?_;refine oQ Tryz.call29 rfl (awake14_any hT hM hE) ?_;refine oV ?_;refine nS ?_;refine oA Tryz.isAgg26 Tryz.sizeOf26 ?_;refine oQ Tryz.call16 rfl (rrFew_any vi vl vo va p ns 40 hp) ?_;refine oV ?_;refine nU ?_;iterate 2 refine oV ?_
  refine nT ?_;refine cC rfl (fun h1 => ?_) (fun h1 => ?_)
  ·
   have f1 := h1;try simp only [bl] at f1
   refine sR ?_;iterate 2 refine oV ?_
   refine nF ?_;refine ret1 rfl rfl ?_;exact leaf0 rfl
  have f1 := h1;try simp only [bl] at f1
  obtain ⟨g1, g2, g3⟩ := fewC_of (by simpa using h1) hp.eq
  refine kS ?_;refine oA Tryz.isAgg26 Tryz.sizeOf26 ?_;refine oI Tryz.call30 rfl (lowerT_any vi vl vo va p ns hp g1) ?_;rintro _ I1 hx1 ⟨wo, wu, os, rfl, ht, hf⟩;refine oV ?_
  have hto := ht.so
  have htu := ht.su
  have hol : (os.map OpV.cells).length = os.length := List.length_map _
  have hul := ics_len (lowZ p).t.outs
  have hol2 : os.length = (lowZ p).t.ops.length := by rw [← ht.eq, List.length_map]
  iterate 3 refine oV ?_
  refine o_alloc trivial rfl Tryz.zeroValue56 rfl (fun b5 => ?_);refine oS Tryz.sizeOf56 ?_;iterate 2 refine oV ?_
  refine nU ?_;iterate 2 refine oV ?_
  refine nT ?_;refine cC rfl (fun h2 => ?_) (fun h2 => ?_)
  ·
   have f2 := h2;try simp only [bl] at f2
   have hbad := low_bad f2
   have hb1 : (lowZ p).t.ops.length = 0 := by rw [hbad]; rfl
   have hb2 : (lowZ p).t.outs.length = 0 := by rw [hbad]; rfl
   have hb3 : (lowZ p).t.ins = 0 := by rw [hbad]; rfl
   refine sR ?_;refine oV ?_;refine' o_and trivial trivial rfl rfl rfl rfl rfl rfl rfl rfl (fun hb31 => ?_) ?_;rotate_left
   ·
    have fb31 := hb31
    try simp only [bl] at fb31
    refine gF hb31 1 Tryz.underlying56 Tryz.sizeOf54 ?_;refine gL hb31 Tryz.isAgg54 ?_;refine o_lenSlc (wS rfl rfl hb31) rfl Tryz.underlying54 rfl (hto) ?_;refine gV hb31 ?_;refine oN ?_;exact joins rfl
   refine' o_and trivial trivial rfl rfl rfl rfl rfl rfl rfl rfl (fun hb37 => ?_) ?_;rotate_left
   ·
    have fb37 := hb37
    try simp only [bl] at fb37
    refine gF hb37 2 Tryz.underlying56 Tryz.sizeOf52 ?_;refine gL hb37 Tryz.isAgg52 ?_;refine o_lenSlc (wS rfl rfl hb37) rfl Tryz.underlying52 rfl (htu) ?_;refine gV hb37 ?_;refine oN ?_;exact joins rfl
   refine' o_and trivial trivial rfl rfl rfl rfl rfl rfl rfl rfl (fun hb43 => ?_) ?_;rotate_left
   ·
    have fb43 := hb43
    try simp only [bl] at fb43
    refine gF hb43 0 Tryz.underlying56 Tryz.sizeOf3 ?_;refine gL hb43 Tryz.isAgg3 ?_;refine gV hb43 ?_;refine oN ?_;exact joins rfl
   refine oV ?_;refine nF ?_;refine ret1 rfl rfl ?_;refine leaf hx1 (List.nil_sublist _) (congrArg Value.bool ?_); rw [hol, hol2, hul, hb1, hb2, hb3]; rfl
  have f2 := h2;try simp only [bl] at f2
  obtain ⟨⟨l, hl⟩, hz, hw⟩ := low_ok f2
  refine kS ?_;refine oA Tryz.isAgg26 Tryz.sizeOf26 ?_;refine oQ Tryz.call23 rfl (showPrint_any vi vl vo va p ns _ (hp.le hx1.le) g1 g2 (hP.le hx1.le) (.inl ⟨l, hl, rfl⟩)) ?_;refine oI Tryz.call27 rfl (back_any hl (hT.le hx1.le) (hM.le hx1.le) (hE.le hx1.le)) ?_;rintro _ I2 hx2 ⟨ui, ul, uo, ua, ms, rfl, hq, hg⟩;refine oV ?_
  have hq : ProgV I2 ui ul uo ua p ms := hq
  have hti := hq.si
  have htl := hq.sl
  have hto2 := hq.so
  have hta := hq.sa
  iterate 3 refine oV ?_
  refine o_alloc trivial rfl Tryz.zeroValue26 rfl (fun b8 => ?_);refine o_alloc trivial rfl Tryz.zeroValue48 rfl (fun b9 => ?_);refine oS Tryz.sizeOf26 ?_;refine oS Tryz.sizeOf48 ?_;refine oV ?_;refine nS ?_;refine oA Tryz.isAgg26 Tryz.sizeOf26 ?_;refine oI Tryz.call30 rfl (lowerT_any ui ul uo ua p ms hq (few5 hg)) ?_;rintro _ I3 hx3 ⟨ko, ku, ps, rfl, ht3, hf3⟩;refine oV ?_
  have hko := ht3.so
  have hku := ht3.su
  have hl3 := hx2.le.trans hx3.le
  have ht1 := ht.le hl3
  have hsa3 := hsa.le (hx1.le.trans hl3)
  iterate 3 refine oV ?_
  refine o_alloc trivial rfl Tryz.zeroValue56 rfl (fun b11 => ?_);refine oS Tryz.sizeOf56 ?_;iterate 2 refine oV ?_
  refine nS ?_
  skip
  refine oV ?_;refine nU ?_;refine oV ?_;refine oN (tC (cB ?_));refine c_loop (ι := Nat) [1, 3, 5, 6, 10, 11, 13] (.cons rfl (.cons rfl (.cons rfl (.cons rfl (.cons rfl (.cons rfl (.cons rfl .nil))))))) (fun x => ns.length - x) (fun x E0 => (14, .int .i64 (cntZ (p.all.take x) : Nat)) :: (15, .int .i64 (x : Nat)) :: E0) (fun x => St w [] I3 [.box b11 (.cells #[.int .i64 (lowZ p).t.ins, ko, ku] 56 (0, 0)), .box b5 (.cells #[.int .i64 (lowZ p).t.ins, wo, wu] 56 (0, 0)), .box b1 (.cells #[vi, vl, vo, va] 26 (0, 0))]) (fun x => x ≤ ns.length) (0) (sC rfl (sC rfl (sC rfl (sC rfl (sC rfl (sC rfl (sC rfl (sC rfl (sC rfl sN))))))))) (fun _ h => h.sort (by repeat constructor)) (Nat.zero_le _) ?_;rintro i hi
  try dsimp only
  have hcl := cnt_le (p.all.take i); rw [List.length_take] at hcl
  refine cS (sR ?_);refine oV ?_;refine oF 3 Tryz.underlying26 Tryz.sizeOf24 ?_;refine oL Tryz.isAgg24 ?_;refine o_lenSlc trivial rfl Tryz.underlying24 rfl (hsa3) ?_;refine oV ?_;refine nT ?_;refine cC rfl (fun h3 => ?_) (fun h3 => ?_)
  ·
   have f3 := h3;try simp only [bl] at f3
   obtain ⟨o, ho⟩ : ∃ o, ns[i]? = some o := ⟨ns[i]'(by omega), List.getElem?_eq_getElem (by omega)⟩
   have hoc : p.all[i]? = some o.c := by rw [← hp.eq, List.getElem?_map, ho]; rfl
   have hct := cnt_take hoc
   refine cK (tC (cS (cB (sR ?_))));refine oF 3 Tryz.underlying26 Tryz.sizeOf24 ?_;refine oL Tryz.isAgg24 ?_;refine oV ?_;refine o_elem trivial rfl Tryz.underlying24 Tryz.sizeOf37 rfl (hsa3) rfl (by omega) ?_;refine oF 0 Tryz.underlying37 Tryz.sizeOf3 ?_;refine o_load1I trivial rfl Tryz.isAgg3 rfl (nds_at hsa3 ho 0 _ rfl) ?_;refine oV ?_;refine nT ?_;refine cC rfl (fun h4 => ?_) (fun h4 => ?_)
   ·
    have f4 := h4;try simp only [bl] at f4
    rw [if_pos f4] at hct
    have hce : ((cntZ (p.all.take i) : Nat) : Int) + 1 = ((cntZ (p.all.take (i + 1)) : Nat) : Int) := by omega
    refine cR ?_;refine oV ?_
    (refine o_add trivial rfl rfl rfl ?_ ?_; (omega))
    rw [hce]
    refine oV ?_;refine oN (blk_n (tC (cR ?_)));refine oV ?_
    (refine o_add trivial rfl rfl rfl ?_ ?_; (omega))
    refine oV ?_;refine oN ?_;exact again (i + 1) (sC rfl (sC rfl (sC rfl (sC rfl (sC rfl (sC rfl (sC rfl (sC rfl (sC rfl sN))))))))) (fun _ h => h.sort (by repeat constructor)) (by show ns.length - (i + 1) < ns.length - i; omega) (by show i + 1 ≤ _; omega)
   have f4 := h4;try simp only [bl] at f4
   rw [if_neg (by simpa using f4)] at hct
   have hct2 : cntZ (p.all.take (i + 1)) = cntZ (p.all.take i) := hct
   rw [← hct2]
   refine cK (blk_n (tC (cR ?_)));refine oV ?_
   (refine o_add trivial rfl rfl rfl ?_ ?_; (omega))
   refine oV ?_;refine oN ?_;exact again (i + 1) (sC rfl (sC rfl (sC rfl (sC rfl (sC rfl (sC rfl (sC rfl (sC rfl (sC rfl sN))))))))) (fun _ h => h.sort (by repeat constructor)) (by show ns.length - (i + 1) < ns.length - i; omega) (by show i + 1 ≤ _; omega)
  have f3 := h3;try simp only [bl] at f3
  have hin : i = p.all.length := by omega
  rw [hin, List.take_length]
  have hsi3 := hsi.le (hx1.le.trans hl3)
  have hso3 := hso.le (hx1.le.trans hl3)
  have hri := tapeRight_any (lowZ p).t wo wu os ht1 (few_two hf)
  have hq1 : (lowZ p).t.ops.length = cntZ p.all := by rw [hz]; exact low_ops p
  have hq2 : (lowZ p).t.ins = (p.ins.length : Nat) := by rw [hz]; rfl
  have hq3 : (lowZ p).t.outs.length = p.outs.length := by rw [hz]; exact List.length_map _
  have hq4 : (lowZ p).name = ⟨#[]⟩ := by rw [hz]
  have hq5 : (tapeW (lowZ p).t).isSome = true := by rw [hz]; exact hw
  rw [hq5] at hri
  refine c_exit (then_x (then_x (blk_eq rfl (tC (sR ?_)))));refine oV ?_;refine' o_and trivial trivial rfl rfl rfl rfl rfl rfl rfl rfl (fun hb78 => ?_) ?_;rotate_left
  ·
   iterate 2 refine gV hb78 ?_
   refine oN ?_;exact joins rfl
  refine' o_and trivial trivial rfl rfl rfl rfl rfl rfl rfl rfl (fun hb82 => ?_) ?_;rotate_left
  ·
   have fb82 := hb82
   try simp only [bl] at fb82
   refine o_loadA (wS rfl rfl hb82) rfl Tryz.isAgg56 Tryz.sizeOf56 rfl (by repeat constructor) (by repeat constructor) ?_;refine o_callQ (wS rfl rfl hb82) rfl Tryz.call34 rfl hri ?_;refine oN ?_;exact joins rfl
  refine' o_and trivial trivial rfl rfl rfl rfl rfl rfl rfl rfl (fun hb86 => ?_) ?_;rotate_left
  ·
   have fb86 := hb86
   try simp only [bl] at fb86
   refine gF hb86 1 Tryz.underlying56 Tryz.sizeOf54 ?_;refine gL hb86 Tryz.isAgg54 ?_;refine o_lenSlc (wS rfl rfl hb86) rfl Tryz.underlying54 rfl (ht1.so) ?_;iterate 2 refine gV hb86 ?_
   refine oN ?_;exact joins rfl
  refine' o_and trivial trivial rfl rfl rfl rfl rfl rfl rfl rfl (fun hb93 => ?_) ?_;rotate_left
  ·
   have fb93 := hb93
   try simp only [bl] at fb93
   refine gF hb93 0 Tryz.underlying56 Tryz.sizeOf3 ?_;refine gL hb93 Tryz.isAgg3 ?_;refine gF hb93 0 Tryz.underlying26 Tryz.sizeOf22 ?_;refine gL hb93 Tryz.isAgg22 ?_;refine o_lenSlc (wS rfl rfl hb93) rfl Tryz.underlying22 rfl (hsi3) ?_;refine gV hb93 ?_;refine oN ?_;exact joins rfl
  refine' o_and trivial trivial rfl rfl rfl rfl rfl rfl rfl rfl (fun hb101 => ?_) ?_;rotate_left
  ·
   have fb101 := hb101
   try simp only [bl] at fb101
   refine gF hb101 2 Tryz.underlying56 Tryz.sizeOf52 ?_;refine gL hb101 Tryz.isAgg52 ?_;refine o_lenSlc (wS rfl rfl hb101) rfl Tryz.underlying52 rfl (ht1.su) ?_;refine gF hb101 2 Tryz.underlying26 Tryz.sizeOf22 ?_;refine gL hb101 Tryz.isAgg22 ?_;refine o_lenSlc (wS rfl rfl hb101) rfl Tryz.underlying22 rfl (hso3) ?_;refine gV hb101 ?_;refine oN ?_;exact joins rfl
  refine' o_and trivial trivial rfl rfl rfl rfl rfl rfl rfl rfl (fun hb110 => ?_) ?_;rotate_left
  ·
   iterate 2 refine gV hb110 ?_
   refine oN ?_;exact joins rfl
  refine' o_and trivial trivial rfl rfl rfl rfl rfl rfl rfl rfl (fun hb114 => ?_) ?_;rotate_left
  ·
   iterate 2 refine gV hb114 ?_
   refine oN ?_;exact joins rfl
  refine' o_and trivial trivial rfl rfl rfl rfl rfl rfl rfl rfl (fun hb118 => ?_) ?_;rotate_left
  ·
   have fb118 := hb118
   try simp only [bl] at fb118
   iterate 2 refine o_loadA (wS rfl rfl hb118) rfl Tryz.isAgg56 Tryz.sizeOf56 rfl (by repeat constructor) (by repeat constructor) ?_
   refine o_callQ (wS rfl rfl hb118) rfl Tryz.call32 rfl (tSame_any wo wu ko ku _ _ os ps ht1 ht3) ?_;refine oN ?_;exact joins rfl
  refine oV ?_;refine nE ?_;refine ret1 rfl rfl ?_;refine leaf (hx1.trans (hx2.trans hx3 (Nat.le_refl _)) (Nat.le_refl _)) (List.nil_sublist _) (congrArg Value.bool ?_)
  rw [hol, hol2, hq1, hq2, hli, hlo, hul, hq3, hq4, eqB_self, f2]
  simp
end Go.Proofs.YtfcmhcaggdakbaaGreatDoor
namespace Go.Tw
open Go Go.RowKit Go.ChangeShapes Go.WideShapes Go.ChangeAt Go.Deep
def Tr {H : Type} (enc : TypeId × Value → H) (P : Program) (W : World) (t : TypeId) (cs : List Value) : Prop := ∃ n x, DataW.trod enc P W 0 (fun _ => true) true n t cs = some x
section
variable {base : Nat} {H : Type} {enc : TypeId × Value → H} {P : Program} {W : World} {t e : TypeId} {v : Value} {cs : List Value} {d : DataW H} {ps : List MemPlace}
theorem tr_of_struct {fs : Array Field} (ht : P.underlying t = some (.struct fs)) (hval : Value.okWide P W .any base t v) (h : DataW.Trod enc P W 0 (fun _ => true) true t v d ps) : ∃ cs : List Value, v = .agg cs.toArray ∧ Tr enc P W t cs := by
  obtain ⟨cs, rfl, _⟩ := okWide_struct ht hval
  obtain ⟨n, h⟩ := h
  exact ⟨cs.toList, by simp, n, _, h⟩
theorem tr_int {k : IntKind} (ht : P.underlying t = some (.int k)) (h : Tr enc P W t [v]) : ∃ z, v = .int k z ∧ (Lit.int k z).wf = true := by
  obtain ⟨n, x, h⟩ := h
  obtain ⟨z, h1, _, h2⟩ := DataW.trod_int ht h
  exact ⟨z, (List.cons.inj h1).1, h2⟩
theorem tr_bool (ht : P.underlying t = some .bool) (h : Tr enc P W t [v]) : ∃ b, v = .bool b := by
  obtain ⟨n, x, h⟩ := h
  obtain ⟨z, h1, _⟩ := DataW.trod_bool ht h
  exact ⟨z, (List.cons.inj h1).1⟩
theorem tr_string (ht : P.underlying t = some .string) (h : Tr enc P W t [v]) : ∃ s : ByteArray, v = .string s ∧ s.size ≤ maxLen := by
  obtain ⟨n, x, h⟩ := h
  obtain ⟨z, h1, _, h2⟩ := DataW.trod_string ht h
  exact ⟨z, (List.cons.inj h1).1, h2⟩
theorem tr_struct {fs : Array Field} (ht : P.underlying t = some (.struct fs)) (h : Tr enc P W t cs) : cs.length = P.cellsOf t ∧ ∀ (i : Nat) (f : Field), fs[i]? = some f → Tr enc P W f.type ((cs.drop f.offset).take (P.cellsOf f.type)) := by
  obtain ⟨n, x, h⟩ := h
  obtain ⟨xs, m, _, _, hl, hx, hf⟩ := DataW.trod_struct ht h
  refine ⟨hl, fun i f hi => ?_⟩
  have h1 := hf i f hi
  have hlt : i < xs.length := by rw [hx]; exact (Array.getElem?_eq_some_iff.1 hi).1
  rw [List.getElem?_eq_getElem hlt] at h1
  exact ⟨m, _, h1⟩
theorem tr_rows {sz : Nat} (ht : P.underlying t = some (.slice e)) (hsz : P.cellsOf e = sz) (hpos : 0 < sz) (h : Tr enc P W t [v]) : ∃ xss : List (List Value), Slc (World.hp W) sz v xss ∧ ∀ c ∈ xss, Tr enc P W e c := by
  obtain ⟨n, x, h⟩ := h
  rcases open_slice ht h with ⟨h1, _⟩ | ⟨a, len, cap, m, n', D, Pl, h1, hb, hl, hc, hm, _, hx⟩
  · obtain rfl := (List.cons.inj h1).1
    exact ⟨[], Slc.nil _ _, fun c hc => by cases hc⟩
  · obtain rfl := (List.cons.inj h1).1
    subst hsz
    simp only [if_true] at hm
    subst hm
    obtain ⟨G, hG⟩ := choose_lt (α := List Value) (p := fun i cs' => W.cells? 0 (a.add (i * P.cellsOf e)) (P.cellsOf e) = some cs' ∧ DataW.trod enc P W 0 (fun _ => true) true n' e cs' = some (D i, Pl i)) hx
    have hcell : ∀ i, i < m → (G i).length = P.cellsOf e ∧ ∀ k, k < P.cellsOf e → W.cell? (a.add (i * P.cellsOf e + k)) = (G i)[k]? := fun i hi => by
      obtain ⟨h2, h3, h4⟩ := World.cells?_some (hG i hi).1
      refine ⟨h3, fun k hk => ?_⟩
      rw [← h4 k hk, add_add]
    refine ⟨(List.range len).map G, ?_, fun c hc => ?_⟩
    · have hlen : ((List.range len).map G).length = len := by simp
      have hlens : ∀ c ∈ (List.range len).map G, c.length = P.cellsOf e := fun c hc => by
        obtain ⟨i, hi, rfl⟩ := List.mem_map.1 hc
        exact (hcell i (by have := List.mem_range.1 hi; omega)).1
      by_cases h0 : m = 0
      · have hl0 : len = 0 := by omega
        subst h0
        subst hl0
        exact Slc.nilA _ _ _
      · have hsp : a.spot = none := by
          have h2 := (hcell 0 (by omega)).2 0 hpos
          have h3 : 0 < (G 0).length := by rw [(hcell 0 (by omega)).1]; exact hpos
          rw [List.getElem?_eq_getElem h3] at h2
          unfold World.cell? at h2
          split at h2
          · split at h2
            · cases h2
            · rename_i hs
              have hz : a.add (0 * P.cellsOf e + 0) = a := by rw [Nat.zero_mul]; unfold Addr.add; simp
              rw [hz] at hs
              cases hsp : a.spot with
              | none => rfl
              | some s => rw [hsp] at hs; simp at hs
          · cases h2
        obtain ⟨b, off, s⟩ := a
        change s = none at hsp
        subst hsp
        refine ⟨.inr ⟨b, off, m, by rw [hlen], by rw [hlen]; exact hl⟩, fun j c hj k u hk => ?_, hlens, by rw [hlen]; omega⟩
        rw [List.getElem?_map] at hj
        have hjl : j < len := by
          by_cases hjl : j < len
          · exact hjl
          · rw [List.getElem?_eq_none (by simp; omega)] at hj; cases hj
        rw [List.getElem?_range hjl] at hj
        cases hj
        have hkl := (List.getElem?_eq_some_iff.1 hk).1
        rw [(hcell j (by omega)).1] at hkl
        have h2 := (hcell j (by omega)).2 k hkl
        rw [hk, add_none] at h2
        rw [hp_cell]
        simp only [slcB, slcO]
        rw [Nat.add_assoc]
        exact h2
    · obtain ⟨i, hi, rfl⟩ := List.mem_map.1 hc
      exact ⟨n', _, (hG i (by have := List.mem_range.1 hi; omega)).2⟩
theorem tr_ints {k : IntKind} {xss : List (List Value)} {sz : Nat} (ht : P.underlying t = some (.int k)) (hs : Slc (World.hp W) 1 v xss) (h : ∀ c ∈ xss, Tr enc P W t c) : ∃ zs : List Int, xss = zs.map (fun z => [.int k z]) ∧ ∀ z ∈ zs, (Lit.int k z).wf = true := by
  have key : ∀ (l : List (List Value)), (∀ c ∈ l, c.length = 1 ∧ Tr enc P W t c) → ∃ zs : List Int, l = zs.map (fun z => [.int k z]) ∧ ∀ z ∈ zs, (Lit.int k z).wf = true := by
    intro l
    induction l with
    | nil => exact fun _ => ⟨[], rfl, fun z hz => by cases hz⟩
    | cons c l ih =>
      intro hl
      obtain ⟨zs, h1, h2⟩ := ih fun c hc => hl c (List.mem_cons_of_mem _ hc)
      obtain ⟨h3, h4⟩ := hl c List.mem_cons_self
      match c, h3 with
      | [x], _ =>
        obtain ⟨z, rfl, h5⟩ := tr_int ht h4
        exact ⟨z :: zs, by rw [h1]; rfl, fun y hy => by
          rcases List.mem_cons.1 hy with rfl | hy
          · exact h5
          · exact h2 y hy⟩
  exact key xss fun c hc => ⟨hs.lens c hc, h c hc⟩
theorem rows_map {α : Type} {f : α → List Value} {p : α → Prop} {xss : List (List Value)} (h : ∀ c ∈ xss, ∃ a, c = f a ∧ p a) : ∃ zs : List α, xss = zs.map f ∧ ∀ a ∈ zs, p a := by
  induction xss with
  | nil => exact ⟨[], rfl, fun a h => by cases h⟩
  | cons c l ih =>
    obtain ⟨zs, h1, h2⟩ := ih fun c hc => h c (List.mem_cons_of_mem _ hc)
    obtain ⟨a, ha, hp⟩ := h c List.mem_cons_self
    exact ⟨a :: zs, by rw [ha, h1]; rfl, fun b hb => by
      rcases List.mem_cons.1 hb with rfl | hb
      · exact hp
      · exact h2 b hb⟩
end
end Go.Tw
namespace Go.Proofs.YtfcmhcaggdakbaaGreatDoor
open Go Go.Tw Go.ChangeShapes Go.WideShapes Go.ChangeAt
set_option maxRecDepth 100000
section
variable {base : Nat} {H : Type} {enc : TypeId × Value → H} {W : World} {v : Value} {cs : List Value} {d : DataW H} {ps : List MemPlace}
theorem ce_int : Tryz.prog.cellsOf 3 = 1 := by kernel_rfl
theorem ce_bool : Tryz.prog.cellsOf 4 = 1 := by kernel_rfl
theorem ce_str : Tryz.prog.cellsOf 9 = 1 := by kernel_rfl
theorem ce_u32 : Tryz.prog.cellsOf 134 = 1 := by kernel_rfl
theorem ce_u32s : Tryz.prog.cellsOf 33 = 1 := by kernel_rfl
theorem ce_rat : Tryz.prog.cellsOf 35 = 3 := by kernel_rfl
theorem ce_node : Tryz.prog.cellsOf 37 = 8 := by kernel_rfl
theorem ce_let : Tryz.prog.cellsOf 39 = 2 := by kernel_rfl
theorem ce_prog : Tryz.prog.cellsOf 26 = 4 := by kernel_rfl
theorem ce_strs : Tryz.prog.cellsOf 22 = 1 := by kernel_rfl
theorem ce_lets : Tryz.prog.cellsOf 23 = 1 := by kernel_rfl
theorem ce_nodes : Tryz.prog.cellsOf 24 = 1 := by kernel_rfl
theorem of2 {l : List Value} (h : l.length = 2) : ∃ a b, l = [a, b] := by
  match l, h with
  | [a, b], _ => exact ⟨a, b, rfl⟩
theorem of3 {l : List Value} (h : l.length = 3) : ∃ a b c, l = [a, b, c] := by
  match l, h with
  | [a, b, c], _ => exact ⟨a, b, c, rfl⟩
theorem of4 {l : List Value} (h : l.length = 4) : ∃ a b c d, l = [a, b, c, d] := by
  match l, h with
  | [a, b, c, d], _ => exact ⟨a, b, c, d, rfl⟩
theorem of8 {l : List Value} (h : l.length = 8) : ∃ a b c d e f g i, l = [a, b, c, d, e, f, g, i] := by
  match l, h with
  | [a, b, c, d, e, f, g, i], _ => exact ⟨a, b, c, d, e, f, g, i, rfl⟩
theorem tr_wds (h : Tr enc Tryz.prog W 33 [v]) : ∃ O, Ws (World.hp W) v O := by
  obtain ⟨xss, h1, h2⟩ := tr_rows Tryz.underlying33 ce_u32 (by decide) h
  obtain ⟨zs, rfl, h3⟩ := tr_ints (sz := 1) Tryz.underlying134 h1 h2
  refine ⟨zs.map Int.toNat, ⟨?_, fun x hx => ?_⟩⟩
  · have e : wcs (zs.map Int.toNat) = zs.map (fun z => [Value.int .u32 z]) := by
      unfold wcs
      rw [List.map_map]
      refine List.map_congr_left fun z hz => ?_
      have := bounds_u32 (h3 z hz)
      show [Value.int .u32 ((z.toNat : Nat) : Int)] = _
      rw [Int.toNat_of_nonneg this.1]
    rw [e]; exact h1
  · obtain ⟨z, hz, rfl⟩ := List.mem_map.1 hx
    have := bounds_u32 (h3 z hz)
    omega
theorem tr_num (h : Tr enc Tryz.prog W 35 cs) : ∃ s n d b c, cs = [.bool s, b, c] ∧ Ws (World.hp W) b n ∧ Ws (World.hp W) c d := by
  obtain ⟨h1, h2⟩ := tr_struct Tryz.underlying35 h
  obtain ⟨a, b, c, rfl⟩ := of3 (by rw [h1]; exact ce_rat)
  have k0 := h2 0 _ rfl
  have k1 := h2 1 _ rfl
  have k2 := h2 2 _ rfl
  change Tr enc Tryz.prog W 4 (List.take (Tryz.prog.cellsOf 4) [a, b, c]) at k0
  change Tr enc Tryz.prog W 33 (List.take (Tryz.prog.cellsOf 33) [b, c]) at k1
  change Tr enc Tryz.prog W 33 (List.take (Tryz.prog.cellsOf 33) [c]) at k2
  rw [ce_bool] at k0
  rw [ce_u32s] at k1 k2
  obtain ⟨s, rfl⟩ := tr_bool Tryz.underlying4 k0
  obtain ⟨n, hn⟩ := tr_wds k1
  obtain ⟨dd, hd⟩ := tr_wds k2
  exact ⟨s, n, dd, b, c, rfl, hn, hd⟩
theorem tr_node (h : Tr enc Tryz.prog W 37 cs) : ∃ o : NodeV, cs = o.cells ∧ o.ok (World.hp W) := by
  obtain ⟨h1, h2⟩ := tr_struct Tryz.underlying37 h
  obtain ⟨a, b, c, d, e, f, g, i, rfl⟩ := of8 (by rw [h1]; exact ce_node)
  have k0 := h2 0 _ rfl
  have k1 := h2 1 _ rfl
  have k2 := h2 2 _ rfl
  have k3 := h2 3 _ rfl
  have k4 := h2 4 _ rfl
  have k5 := h2 5 _ rfl
  change Tr enc Tryz.prog W 3 (List.take (Tryz.prog.cellsOf 3) [a, b, c, d, e, f, g, i]) at k0
  change Tr enc Tryz.prog W 3 (List.take (Tryz.prog.cellsOf 3) [b, c, d, e, f, g, i]) at k1
  change Tr enc Tryz.prog W 3 (List.take (Tryz.prog.cellsOf 3) [c, d, e, f, g, i]) at k2
  change Tr enc Tryz.prog W 3 (List.take (Tryz.prog.cellsOf 3) [d, e, f, g, i]) at k3
  change Tr enc Tryz.prog W 9 (List.take (Tryz.prog.cellsOf 9) [e, f, g, i]) at k4
  change Tr enc Tryz.prog W 35 (List.take (Tryz.prog.cellsOf 35) [f, g, i]) at k5
  rw [ce_int] at k0 k1 k2 k3
  rw [ce_str] at k4
  rw [ce_rat] at k5
  obtain ⟨z0, rfl, b0⟩ := tr_int Tryz.underlying3 k0
  obtain ⟨z1, rfl, b1⟩ := tr_int Tryz.underlying3 k1
  obtain ⟨z2, rfl, b2⟩ := tr_int Tryz.underlying3 k2
  obtain ⟨z3, rfl, b3⟩ := tr_int Tryz.underlying3 k3
  obtain ⟨s, rfl, _⟩ := tr_string Tryz.underlying9 k4
  obtain ⟨ng, n, dd, vb, vc, hx, hn, hd⟩ := tr_num k5
  obtain ⟨rfl, h5⟩ := List.cons.inj hx
  obtain ⟨rfl, h6⟩ := List.cons.inj h5
  obtain ⟨rfl, _⟩ := List.cons.inj h6
  exact ⟨⟨⟨z0, z1, z2, z3, s, ng, n, dd⟩, g, i⟩, rfl, hn, hd⟩
theorem tr_let (h : Tr enc Tryz.prog W 39 cs) : ∃ o : LetC, cs = o.cells ∧ True := by
  obtain ⟨h1, h2⟩ := tr_struct Tryz.underlying39 h
  obtain ⟨a, b, rfl⟩ := of2 (by rw [h1]; exact ce_let)
  have k0 := h2 0 _ rfl
  have k1 := h2 1 _ rfl
  change Tr enc Tryz.prog W 9 (List.take (Tryz.prog.cellsOf 9) [a, b]) at k0
  change Tr enc Tryz.prog W 3 (List.take (Tryz.prog.cellsOf 3) [b]) at k1
  rw [ce_str] at k0
  rw [ce_int] at k1
  obtain ⟨s, rfl, _⟩ := tr_string Tryz.underlying9 k0
  obtain ⟨z, rfl, _⟩ := tr_int Tryz.underlying3 k1
  exact ⟨⟨s, z⟩, rfl, trivial⟩
theorem tr_strs (h : Tr enc Tryz.prog W 22 [v]) : ∃ l : List ByteArray, Slc (World.hp W) 1 v (scs l) := by
  obtain ⟨xss, s1, s2⟩ := tr_rows (sz := 1) Tryz.underlying22 ce_str (by decide) h
  obtain ⟨zs, rfl, _⟩ := rows_map (f := fun s : ByteArray => [Value.string s]) (p := fun _ => True) fun c hc => by
    have hl := s1.lens c hc
    match c, hl with
    | [x], _ =>
      obtain ⟨s, rfl, _⟩ := tr_string Tryz.underlying9 (s2 _ hc)
      exact ⟨s, rfl, trivial⟩
  exact ⟨zs, s1⟩
theorem open_Pg (hval : Value.okWide Tryz.prog W .any base 26 v) (h : DataW.Trod enc Tryz.prog W 0 (fun _ => true) true 26 v d ps) : ∃ (p : ProgC) (vi vl vo va : Value) (ns : List NodeV), v = .agg #[vi, vl, vo, va] ∧ ProgV (World.hp W) vi vl vo va p ns := by
  obtain ⟨cs, rfl, hh⟩ := tr_of_struct Tryz.underlying26 hval h
  obtain ⟨h1, h2⟩ := tr_struct Tryz.underlying26 hh
  obtain ⟨a, b, c, e, rfl⟩ := of4 (by rw [h1]; exact ce_prog)
  have k0 := h2 0 _ rfl
  have k1 := h2 1 _ rfl
  have k2 := h2 2 _ rfl
  have k3 := h2 3 _ rfl
  change Tr enc Tryz.prog W 22 (List.take (Tryz.prog.cellsOf 22) [a, b, c, e]) at k0
  change Tr enc Tryz.prog W 23 (List.take (Tryz.prog.cellsOf 23) [b, c, e]) at k1
  change Tr enc Tryz.prog W 22 (List.take (Tryz.prog.cellsOf 22) [c, e]) at k2
  change Tr enc Tryz.prog W 24 (List.take (Tryz.prog.cellsOf 24) [e]) at k3
  rw [ce_strs] at k0 k2
  rw [ce_lets] at k1
  rw [ce_nodes] at k3
  obtain ⟨li, gi⟩ := tr_strs k0
  obtain ⟨lo, go⟩ := tr_strs k2
  obtain ⟨xss, s1, s2⟩ := tr_rows (sz := 2) Tryz.underlying23 ce_let (by decide) k1
  obtain ⟨ls, rfl, _⟩ := rows_map (f := LetC.cells) (p := fun _ => True) fun c hc => tr_let (s2 c hc)
  obtain ⟨yss, u1, u2⟩ := tr_rows (sz := 8) Tryz.underlying24 ce_node (by decide) k3
  obtain ⟨ns, rfl, u3⟩ := rows_map (f := NodeV.cells) (p := fun o => o.ok (World.hp W)) fun c hc => tr_node (u2 c hc)
  exact ⟨⟨li, ls, lo, ns.map NodeV.c⟩, a, b, c, e, ns, rfl, gi, s1, go, u1, u3, rfl⟩
end
end Go.Proofs.YtfcmhcaggdakbaaGreatDoor
