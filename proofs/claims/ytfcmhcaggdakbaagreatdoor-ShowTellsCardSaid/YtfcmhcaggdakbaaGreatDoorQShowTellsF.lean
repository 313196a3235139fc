/-
  ShowTells, part 6: the texts Law12, Open, Open11 as one.
-/
import Derived.Test.YtfcmhcaggdakbaaGreatDoorQShowTellsE
import Derived.Deep.Slices
set_option linter.unusedVariables false
set_option linter.unusedSimpArgs false
set_option linter.unnecessarySimpa false
set_option maxHeartbeats 1000000
namespace Go.Proofs.YtfcmhcaggdakbaaGreatDoor
open Go Go.Tw
theorem parse_of {s : ByteArray} {p : ProgC} {l : List (ByteArray × Ex)} (h1 : (lexZ s).err = 0) (h2 : (lexZ s).toks.map st = progQ p.ins p.outs l) (h : RightP p l) : parseZ s = ⟨p, 0, 0, 0⟩ := by
  have hp := progQ_prg h.ins.1 h.ins.2.1 h.ok h.outs.1 h.outs.2.1
  rw [← h.lets, ← h.all] at hp
  unfold parseZ
  rw [h1, if_neg (by decide), prgZ_ok_st h2 hp]
  unfold parseT
  dsimp only
  rw [if_pos (by rw [tZ_right h]; rfl)]
def s12 : ByteArray := ⟨#[105, 110, 32, 120, 59, 32, 108, 101, 116, 32, 97, 61, 40, 50, 42, 120, 41, 94, 50, 45, 40, 49, 45, 120, 41, 59, 32, 111, 117, 116, 32, 97, 59]⟩
def m12 : Ex := .bin 4 (.num 2) (.ref awX)
def x12 : Ex := .bin 3 (.pow m12 2) (.bin 3 (.num 1) (.ref awX))
def p12 : ProgC := ⟨[awX], (laid [(awA, x12)] 0).1, [awA], (laid [(awA, x12)] 0).2⟩
theorem dec1 : decS 1 = ⟨#[49]⟩ := by
  have h : digs 1 = [49] := by rw [digs, dif_pos (by decide)]
  unfold decS decL; rw [h]; rfl
theorem dec2 : decS 2 = ⟨#[50]⟩ := by
  have h : digs 2 = [50] := by rw [digs, dif_pos (by decide)]
  unfold decS decL; rw [h]; rfl
theorem rat1 : ratS 1 = ⟨#[49]⟩ := by
  unfold ratS; rw [if_pos (show (1 : Rat).den = 1 from rfl)]; exact dec1
theorem rat2 : ratS 2 = ⟨#[50]⟩ := by
  unfold ratS; rw [if_pos (show (2 : Rat).den = 1 from rfl)]; exact dec2
theorem ok_num {n : Nat} (h : n ≤ 9) : (Ex.num (n : Rat)).ok := by
  have e : digs n = [48 + n] := by rw [digs, dif_pos (by omega)]
  have e1 : digs 1 = [49] := by rw [digs, dif_pos (by decide)]
  refine ⟨?_, ?_, ?_⟩
  · show (0 : Int) ≤ ((n : Int) : Int); omega
  · show (digs ((n : Int).natAbs)).length ≤ 40; rw [Int.natAbs_natCast, e]; show 1 ≤ 40; decide
  · show (digs 1).length ≤ 40; rw [e1]; decide
theorem ok12 : x12.ok := ⟨by decide, by decide, ⟨⟨by decide, by decide, ok_num (n := 2) (by decide), nameZ_X⟩, by decide, by decide⟩, by decide, by decide, ok_num (n := 1) (by decide), nameZ_X⟩
theorem right12 : RightP p12 [(awA, x12)] where
  lets := rfl
  all := rfl
  ok := fun a ha => by rw [List.mem_singleton.1 ha]; exact ⟨nameZ_A, ok12⟩
  ins := ⟨fun s hs => by rw [List.mem_singleton.1 hs]; exact nameZ_X, by decide, by decide⟩
  outs := ⟨fun s hs => by rw [List.mem_singleton.1 hs]; exact nameZ_A, by decide, by decide⟩
  few := ⟨by decide, by decide⟩
  low := fun a ha => by rw [List.mem_singleton.1 ha]; decide
theorem sh12 : shP x12 = [tk 2 lpar, tk 1 (ratS 2), gp, tk 2 starS, gp, tk 0 awX, tk 2 rpar, tk 2 Go.Tw.caret, tk 1 (decS 2), gp, tk 2 minusS, gp, tk 2 lpar, tk 1 (ratS 1), gp, tk 2 minusS, gp, tk 0 awX, tk 2 rpar] := rfl
theorem toks12 : progQ p12.ins p12.outs [(awA, x12)] = [tk 0 inS, tk 0 awX, tk 2 semiS, tk 0 letS, tk 0 awA, tk 2 equalS, tk 2 lpar, tk 1 ⟨#[50]⟩, tk 2 starS, tk 0 awX, tk 2 rpar, tk 2 Go.Tw.caret, tk 1 ⟨#[50]⟩, tk 2 minusS, tk 2 lpar, tk 1 ⟨#[49]⟩, tk 2 minusS, tk 0 awX, tk 2 rpar, tk 2 semiS, tk 0 outS, tk 0 awA, tk 2 semiS] := by
  unfold progQ letsQ letQ
  rw [sh12, rat1, rat2, dec2]
  rfl
theorem parse12 : parseZ s12 = ⟨p12, 0, 0, 0⟩ := parse_of (by kernel_rfl) (by rw [toks12]; kernel_rfl) right12
def d12 : ByteArray := ⟨#[105, 110, 32, 120, 59, 10, 108, 101, 116, 32, 97, 32, 61, 32, 40, 50, 32, 42, 32, 120, 41, 94, 50, 32, 45, 32, 40, 49, 32, 45, 32, 120, 41, 59, 10, 111, 117, 116, 32, 97, 59, 10]⟩
theorem text12 : textZ p12 [(awA, x12)] = d12 := by
  unfold textZ progP letsP letP
  rw [sh12, rat1, rat2, dec2]
  kernel_rfl
theorem print12 : PrintS p12 d12 := .inl ⟨_, right12, text12.symm⟩
theorem expr12 : ExprS p12 2 ⟨#[50, 32, 42, 32, 120]⟩ := by
  refine .inl ⟨by rw [tZ_right right12]; rfl, by decide, by decide, m12, ⟨⟨by decide, by decide, ok_num (n := 2) (by decide), nameZ_X⟩, 0, ?_, rfl⟩, by decide, ?_⟩
  · intro j c h
    rw [Nat.zero_add]
    have hj : j < 3 := (List.getElem?_eq_some_iff.1 h).1
    rcases (show j = 0 ∨ j = 1 ∨ j = 2 by omega) with rfl | rfl | rfl <;> exact h
  · have e : shP m12 = [tk 1 (ratS 2), gp, tk 2 starS, gp, tk 0 awX] := rfl
    rw [e, rat2]
    rfl
theorem awake12_any {I : Hp} (hT : Tabs I) (hM : Mx I) (hE : Errs I) (hP : P10 I) : Fun Tryz.prog 20 [] I [] (fun v _ _ => v = .bool true) := by
  have hpa := parse_any s12 hT hM hE (by decide)
  rw [parse12] at hpa
  intro w hw
  refine enter0 _ Tryz.func20 rfl Tryz.ntmps20 ?_ hw;refine sR ?_;refine oV ?_;refine nS ?_;refine oI Tryz.call27 rfl hpa ?_;rintro _ I1 hx1 ⟨vi, vl, vo, va, ns, rfl, hp, hf⟩;refine oV ?_
  have hp : ProgV I1 vi vl vo va p12 ns := hp
  have hsi := hp.si
  have hsl := hp.sl
  have hso := hp.so
  have hsa := hp.sa
  have hf' : ∀ o ∈ ns, o.c.few 3000 := fun o ho => ⟨Nat.le_trans (hf o ho).1 (by decide), Nat.le_trans (hf o ho).2 (by decide)⟩
  have hnl : ns.length ≤ 1000 := by
    have h9 : ns.length = p12.all.length := by rw [← hp.eq, List.length_map]
    rw [h9]; decide
  have h1 := showPrint_any vi vl vo va p12 ns d12 hp hf' hnl (hP.le hx1.le) print12
  have h2 := showExpr_any vi vl vo va p12 ns 2 ⟨#[50, 32, 42, 32, 120]⟩ hp hf' hnl (hP.le hx1.le) expr12
  iterate 3 refine oV ?_
  refine o_alloc trivial rfl Tryz.zeroValue26 rfl (fun b1 => ?_);refine o_alloc trivial rfl Tryz.zeroValue48 rfl (fun b2 => ?_);refine oS Tryz.sizeOf26 ?_;refine oS Tryz.sizeOf48 ?_;refine oV ?_;refine nS ?_;iterate 2 refine oV ?_
  refine' o_and trivial trivial rfl rfl rfl rfl rfl rfl rfl rfl (fun hb11 => ?_) ?_;rotate_left
  ·
   have fb11 := hb11
   try simp only [bl] at fb11
   refine o_loadA (wS rfl rfl hb11) rfl Tryz.isAgg26 Tryz.sizeOf26 rfl (by repeat constructor) (by repeat constructor) ?_;refine o_callQ (wS rfl rfl hb11) rfl Tryz.call23 rfl h1 ?_;refine gV hb11 ?_;refine oN ?_;exact joins rfl
  refine' o_and trivial trivial rfl rfl rfl rfl rfl rfl rfl rfl (fun hb16 => ?_) ?_;rotate_left
  ·
   have fb16 := hb16
   try simp only [bl] at fb16
   refine o_loadA (wS rfl rfl hb16) rfl Tryz.isAgg26 Tryz.sizeOf26 rfl (by repeat constructor) (by repeat constructor) ?_;refine o_callQ (wS rfl rfl hb16) rfl Tryz.call25 rfl h2 ?_;refine gV hb16 ?_;refine oN ?_;exact joins rfl
  refine oV ?_;refine nE ?_;refine ret1 rfl rfl ?_;refine leaf hx1 (List.nil_sublist _) (congrArg Value.bool ?_); kernel_rfl
theorem fewC_of {p : ProgC} {ns : List NodeV} (h : fewP p 40 = true) (he : ns.map NodeV.c = p.all) : (∀ o ∈ ns, o.c.few 3000) ∧ ns.length ≤ 1000 ∧ ∀ o ∈ ns, o.c.few 2000000 := by
  obtain ⟨m1, m2, m3, m4, m5, m6⟩ := few_of h he
  refine ⟨fun o ho => few_up (m5 o ho) (by decide), ?_, fun o ho => few_up (m5 o ho) (by decide)⟩
  have : ns.length = p.all.length := by rw [← he, List.length_map]
  omega
theorem ShowTells_any (vi vl vo va : Value) (p : ProgC) (ns : List NodeV) (i : Int) {I : Hp} (hp : ProgV I vi vl vo va p ns) (hb : -9223372036854775808 ≤ i ∧ i ≤ 9223372036854775807) (hT : Tabs I) (hM : Mx I) (hE : Errs I) (hP : P10 I) : Fun Tryz.prog 5 [.agg #[vi, vl, vo, va], .int .i64 i] I [] (fun v _ _ => v = .bool true) := by
  have hsi := hp.si
  have hsl := hp.sl
  have hso := hp.so
  have hsa := hp.sa
  have hla := nds_len ns
  have hal : p.all.length = ns.length := by rw [← hp.eq, List.length_map]
  obtain ⟨s1, hs1⟩ := print_is p
  obtain ⟨s2, hs2⟩ := expr_is p i
  intro w hw
  refine enter2 _ Tryz.func5 rfl Tryz.ntmps5 rfl ?_ hw;refine sR ?_;refine o_box trivial rfl rfl rfl (fun b2 => ?_);refine oV ?_;refine nS ?_;refine oQ Tryz.call20 rfl (awake12_any hT hM hE hP) ?_;refine oV ?_;refine nS ?_;refine oA Tryz.isAgg26 Tryz.sizeOf26 ?_;refine oQ Tryz.call16 rfl (rrFew_any vi vl vo va p ns 40 hp) ?_;refine oV ?_;refine nU ?_;iterate 2 refine oV ?_
  refine nT ?_;refine cC rfl (fun h1 => ?_) (fun h1 => ?_)
  ·
   have f1 := h1;try simp only [bl] at f1
   refine sR ?_;iterate 2 refine oV ?_
   refine nF ?_;refine ret1 rfl rfl ?_;exact leaf0 rfl
  have f1 := h1;try simp only [bl] at f1
  obtain ⟨g1, g2, g3⟩ := fewC_of (by simpa using h1) hp.eq
  have hr := rrRight_any vi vl vo va p ns hp g1
  rw [rightZ_eq] at hr
  refine kS ?_;refine oA Tryz.isAgg26 Tryz.sizeOf26 ?_;refine oQ Tryz.call21 rfl hr ?_;refine oV ?_;refine nS ?_;refine oV ?_;refine nU ?_;refine oV ?_;refine' o_and trivial trivial rfl rfl rfl rfl rfl rfl rfl rfl (fun hb18 => ?_) ?_;rotate_left
  ·
   iterate 2 refine gV hb18 ?_
   refine oN ?_;exact joins rfl
  refine' o_and trivial trivial rfl rfl rfl rfl rfl rfl rfl rfl (fun hb22 => ?_) ?_;rotate_left
  ·
   have fb22 := hb22
   try simp only [bl] at fb22
   refine gV hb22 ?_;refine gF hb22 3 Tryz.underlying26 Tryz.sizeOf24 ?_;refine gL hb22 Tryz.isAgg24 ?_;refine o_lenSlc (wS rfl rfl hb22) rfl Tryz.underlying24 rfl (hsa) ?_;refine gV hb22 ?_;refine oN ?_;exact joins rfl
  refine nT ?_;refine cC rfl (fun h2 => ?_) (fun h2 => ?_)
  ·
   have f2 := h2;try simp only [bl] at f2
   obtain ⟨⟨k1, k2⟩, k3⟩ := f2
   rw [hla] at k3
   obtain ⟨x, hx, hxs⟩ : ∃ x, NodeAt p.all i x ∧ s2 = txZ (shP x) := by
     rcases hs2 with ⟨_, _, _, x, hx, _, e⟩ | ⟨t, _⟩
     · exact ⟨x, hx, e⟩
     · exfalso
       rcases t with t | t | t
       · rw [t] at k1; cases k1
       · omega
       · omega
   rw [← hp.eq] at hx
   rw [hxs] at hs2
   refine cR ?_;refine oF 3 Tryz.underlying26 Tryz.sizeOf24 ?_;refine oL Tryz.isAgg24 ?_;refine oV ?_;refine oQ Tryz.call22 rfl (nNode_any va ns hsa hp.ok g1 g2 x.n x (Nat.le_refl _) i hx) ?_;refine oV ?_;refine oN (tC (cS ?_));refine c_quiet (by kernel_rfl) (by kernel_rfl) (fun _ h => h.drawn) ?_;refine oV ?_;refine' o_and trivial trivial rfl rfl rfl rfl rfl rfl rfl rfl (fun hb34 => ?_) ?_;rotate_left
   ·
    have fb34 := hb34
    try simp only [bl] at fb34
    refine o_loadA (wS rfl rfl hb34) rfl Tryz.isAgg26 Tryz.sizeOf26 rfl (by repeat constructor) (by repeat constructor) ?_;refine o_callQ (wS rfl rfl hb34) rfl Tryz.call23 rfl (showPrint_any vi vl vo va p ns s1 hp g1 g2 hP hs1) ?_;refine o_loadA (wS rfl rfl hb34) rfl Tryz.isAgg26 Tryz.sizeOf26 rfl (by repeat constructor) (by repeat constructor) ?_;refine o_callQ (wS rfl rfl hb34) rfl Tryz.call24 rfl (nPrint_any vi vl vo va p ns s1 hp g1 g2 hs1 hr) ?_;refine gV hb34 ?_;refine oN ?_;exact joins rfl
   refine' o_and trivial trivial rfl rfl rfl rfl rfl rfl rfl rfl (fun hb41 => ?_) ?_;rotate_left
   ·
    have fb41 := hb41
    try simp only [bl] at fb41
    refine o_loadA (wS rfl rfl hb41) rfl Tryz.isAgg26 Tryz.sizeOf26 rfl (by repeat constructor) (by repeat constructor) ?_;refine gV hb41 ?_;refine o_callQ (wS rfl rfl hb41) rfl Tryz.call25 rfl (showExpr_any vi vl vo va p ns i _ hp g1 g2 hP hs2) ?_;iterate 2 refine gV hb41 ?_
    refine oN ?_;exact joins rfl
   refine oV ?_;refine nE ?_;refine ret1 rfl rfl ?_;refine leaf0 (congrArg Value.bool ?_); simp
  have f2 := h2;try simp only [bl] at f2
  have hxs : s2 = ⟨#[]⟩ := by
    rcases hs2 with ⟨t1, t2, t3, _⟩ | ⟨_, e⟩
    · exfalso
      rw [t1, hla] at h2
      simp at h2
      omega
    · exact e
  rw [hxs] at hs2
  refine cK (tC (cS ?_));refine c_quiet (by kernel_rfl) (by kernel_rfl) (fun _ h => h.drawn) ?_;refine oV ?_;refine' o_and trivial trivial rfl rfl rfl rfl rfl rfl rfl rfl (fun hb34 => ?_) ?_;rotate_left
  ·
   have fb34 := hb34
   try simp only [bl] at fb34
   refine o_loadA (wS rfl rfl hb34) rfl Tryz.isAgg26 Tryz.sizeOf26 rfl (by repeat constructor) (by repeat constructor) ?_;refine o_callQ (wS rfl rfl hb34) rfl Tryz.call23 rfl (showPrint_any vi vl vo va p ns s1 hp g1 g2 hP hs1) ?_;refine o_loadA (wS rfl rfl hb34) rfl Tryz.isAgg26 Tryz.sizeOf26 rfl (by repeat constructor) (by repeat constructor) ?_;refine o_callQ (wS rfl rfl hb34) rfl Tryz.call24 rfl (nPrint_any vi vl vo va p ns s1 hp g1 g2 hs1 hr) ?_;refine gV hb34 ?_;refine oN ?_;exact joins rfl
  refine' o_and trivial trivial rfl rfl rfl rfl rfl rfl rfl rfl (fun hb41 => ?_) ?_;rotate_left
  ·
   have fb41 := hb41
   try simp only [bl] at fb41
   refine o_loadA (wS rfl rfl hb41) rfl Tryz.isAgg26 Tryz.sizeOf26 rfl (by repeat constructor) (by repeat constructor) ?_;refine gV hb41 ?_;refine o_callQ (wS rfl rfl hb41) rfl Tryz.call25 rfl (showExpr_any vi vl vo va p ns i _ hp g1 g2 hP hs2) ?_;iterate 2 refine gV hb41 ?_
   refine oN ?_;exact joins rfl
  refine oV ?_;refine nE ?_;refine ret1 rfl rfl ?_;refine leaf0 (congrArg Value.bool ?_); simp
end Go.Proofs.YtfcmhcaggdakbaaGreatDoor
namespace Go.Tw
open Go Go.RowKit Go.ChangeShapes Go.WideShapes Go.ChangeAt Go.Deep
def Tr {H : Type} (enc : TypeId × Value → H) (P : Program) (W : World) (t : TypeId) (cs : List Value) : Prop := ∃ n x, DataW.trod enc P W 0 (fun _ => true) true n t cs = some x
section
variable {base : Nat} {H : Type} {enc : TypeId × Value → H} {P : Program} {W : World} {t e : TypeId} {v : Value} {cs : List Value} {d : DataW H} {ps : List MemPlace}
theorem tr_of_struct {fs : Array Field} (ht : P.underlying t = some (.struct fs)) (hval : Value.okWide P W .any base t v) (h : DataW.Trod enc P W 0 (fun _ => true) true t v d ps) : ∃ cs : List Value, v = .agg cs.toArray ∧ Tr enc P W t cs := by
  obtain ⟨cs, rfl, _⟩ := okWide_struct ht hval
  obtain ⟨n, h⟩ := h
  exact ⟨cs.toList, by simp, n, _, h⟩
theorem tr_int {k : IntKind} (ht : P.underlying t = some (.int k)) (h : Tr enc P W t [v]) : ∃ z, v = .int k z ∧ (Lit.int k z).wf = true := by
  obtain ⟨n, x, h⟩ := h
  obtain ⟨z, h1, _, h2⟩ := DataW.trod_int ht h
  exact ⟨z, (List.cons.inj h1).1, h2⟩
theorem tr_bool (ht : P.underlying t = some .bool) (h : Tr enc P W t [v]) : ∃ b, v = .bool b := by
  obtain ⟨n, x, h⟩ := h
  obtain ⟨z, h1, _⟩ := DataW.trod_bool ht h
  exact ⟨z, (List.cons.inj h1).1⟩
theorem tr_string (ht : P.underlying t = some .string) (h : Tr enc P W t [v]) : ∃ s : ByteArray, v = .string s ∧ s.size ≤ maxLen := by
  obtain ⟨n, x, h⟩ := h
  obtain ⟨z, h1, _, h2⟩ := DataW.trod_string ht h
  exact ⟨z, (List.cons.inj h1).1, h2⟩
theorem tr_struct {fs : Array Field} (ht : P.underlying t = some (.struct fs)) (h : Tr enc P W t cs) : cs.length = P.cellsOf t ∧ ∀ (i : Nat) (f : Field), fs[i]? = some f → Tr enc P W f.type ((cs.drop f.offset).take (P.cellsOf f.type)) := by
  obtain ⟨n, x, h⟩ := h
  obtain ⟨xs, m, _, _, hl, hx, hf⟩ := DataW.trod_struct ht h
  refine ⟨hl, fun i f hi => ?_⟩
  have h1 := hf i f hi
  have hlt : i < xs.length := by rw [hx]; exact (Array.getElem?_eq_some_iff.1 hi).1
  rw [List.getElem?_eq_getElem hlt] at h1
  exact ⟨m, _, h1⟩
theorem tr_rows {sz : Nat} (ht : P.underlying t = some (.slice e)) (hsz : P.cellsOf e = sz) (hpos : 0 < sz) (h : Tr enc P W t [v]) : ∃ xss : List (List Value), Slc (World.hp W) sz v xss ∧ ∀ c ∈ xss, Tr enc P W e c := by
  obtain ⟨n, x, h⟩ := h
  rcases open_slice ht h with ⟨h1, _⟩ | ⟨a, len, cap, m, n', D, Pl, h1, hb, hl, hc, hm, _, hx⟩
  · obtain rfl := (List.cons.inj h1).1
    exact ⟨[], Slc.nil _ _, fun c hc => by cases hc⟩
  · obtain rfl := (List.cons.inj h1).1
    subst hsz
    simp only [if_true] at hm
    subst hm
    obtain ⟨G, hG⟩ := choose_lt (α := List Value) (p := fun i cs' => W.cells? 0 (a.add (i * P.cellsOf e)) (P.cellsOf e) = some cs' ∧ DataW.trod enc P W 0 (fun _ => true) true n' e cs' = some (D i, Pl i)) hx
    have hcell : ∀ i, i < m → (G i).length = P.cellsOf e ∧ ∀ k, k < P.cellsOf e → W.cell? (a.add (i * P.cellsOf e + k)) = (G i)[k]? := fun i hi => by
      obtain ⟨h2, h3, h4⟩ := World.cells?_some (hG i hi).1
      refine ⟨h3, fun k hk => ?_⟩
      rw [← h4 k hk, add_add]
    refine ⟨(List.range len).map G, ?_, fun c hc => ?_⟩
    · have hlen : ((List.range len).map G).length = len := by simp
      have hlens : ∀ c ∈ (List.range len).map G, c.length = P.cellsOf e := fun c hc => by
        obtain ⟨i, hi, rfl⟩ := List.mem_map.1 hc
        exact (hcell i (by have := List.mem_range.1 hi; omega)).1
      by_cases h0 : m = 0
      · have hl0 : len = 0 := by omega
        subst h0
        subst hl0
        exact Slc.nilA _ _ _
      · have hsp : a.spot = none := by
          have h2 := (hcell 0 (by omega)).2 0 hpos
          have h3 : 0 < (G 0).length := by rw [(hcell 0 (by omega)).1]; exact hpos
          rw [List.getElem?_eq_getElem h3] at h2
          unfold World.cell? at h2
          split at h2
          · split at h2
            · cases h2
            · rename_i hs
              have hz : a.add (0 * P.cellsOf e + 0) = a := by rw [Nat.zero_mul]; unfold Addr.add; simp
              rw [hz] at hs
              cases hsp : a.spot with
              | none => rfl
              | some s => rw [hsp] at hs; simp at hs
          · cases h2
        obtain ⟨b, off, s⟩ := a
        change s = none at hsp
        subst hsp
        refine ⟨.inr ⟨b, off, m, by rw [hlen], by rw [hlen]; exact hl⟩, fun j c hj k u hk => ?_, hlens, by rw [hlen]; omega⟩
        rw [List.getElem?_map] at hj
        have hjl : j < len := by
          by_cases hjl : j < len
          · exact hjl
          · rw [List.getElem?_eq_none (by simp; omega)] at hj; cases hj
        rw [List.getElem?_range hjl] at hj
        cases hj
        have hkl := (List.getElem?_eq_some_iff.1 hk).1
        rw [(hcell j (by omega)).1] at hkl
        have h2 := (hcell j (by omega)).2 k hkl
        rw [hk, add_none] at h2
        rw [hp_cell]
        simp only [slcB, slcO]
        rw [Nat.add_assoc]
        exact h2
    · obtain ⟨i, hi, rfl⟩ := List.mem_map.1 hc
      exact ⟨n', _, (hG i (by have := List.mem_range.1 hi; omega)).2⟩
theorem tr_ints {k : IntKind} {xss : List (List Value)} {sz : Nat} (ht : P.underlying t = some (.int k)) (hs : Slc (World.hp W) 1 v xss) (h : ∀ c ∈ xss, Tr enc P W t c) : ∃ zs : List Int, xss = zs.map (fun z => [.int k z]) ∧ ∀ z ∈ zs, (Lit.int k z).wf = true := by
  have key : ∀ (l : List (List Value)), (∀ c ∈ l, c.length = 1 ∧ Tr enc P W t c) → ∃ zs : List Int, l = zs.map (fun z => [.int k z]) ∧ ∀ z ∈ zs, (Lit.int k z).wf = true := by
    intro l
    induction l with
    | nil => exact fun _ => ⟨[], rfl, fun z hz => by cases hz⟩
    | cons c l ih =>
      intro hl
      obtain ⟨zs, h1, h2⟩ := ih fun c hc => hl c (List.mem_cons_of_mem _ hc)
      obtain ⟨h3, h4⟩ := hl c List.mem_cons_self
      match c, h3 with
      | [x], _ =>
        obtain ⟨z, rfl, h5⟩ := tr_int ht h4
        exact ⟨z :: zs, by rw [h1]; rfl, fun y hy => by
          rcases List.mem_cons.1 hy with rfl | hy
          · exact h5
          · exact h2 y hy⟩
  exact key xss fun c hc => ⟨hs.lens c hc, h c hc⟩
theorem rows_map {α : Type} {f : α → List Value} {p : α → Prop} {xss : List (List Value)} (h : ∀ c ∈ xss, ∃ a, c = f a ∧ p a) : ∃ zs : List α, xss = zs.map f ∧ ∀ a ∈ zs, p a := by
  induction xss with
  | nil => exact ⟨[], rfl, fun a h => by cases h⟩
  | cons c l ih =>
    obtain ⟨zs, h1, h2⟩ := ih fun c hc => h c (List.mem_cons_of_mem _ hc)
    obtain ⟨a, ha, hp⟩ := h c List.mem_cons_self
    exact ⟨a :: zs, by rw [ha, h1]; rfl, fun b hb => by
      rcases List.mem_cons.1 hb with rfl | hb
      · exact hp
      · exact h2 b hb⟩
end
end Go.Tw
namespace Go.Proofs.YtfcmhcaggdakbaaGreatDoor
open Go Go.Tw Go.ChangeShapes Go.WideShapes Go.ChangeAt
set_option maxRecDepth 100000
section
variable {base : Nat} {H : Type} {enc : TypeId × Value → H} {W : World} {v : Value} {cs : List Value} {d : DataW H} {ps : List MemPlace}
theorem ce_int : Tryz.prog.cellsOf 3 = 1 := by kernel_rfl
theorem ce_bool : Tryz.prog.cellsOf 4 = 1 := by kernel_rfl
theorem ce_str : Tryz.prog.cellsOf 9 = 1 := by kernel_rfl
theorem ce_u32 : Tryz.prog.cellsOf 134 = 1 := by kernel_rfl
theorem ce_u32s : Tryz.prog.cellsOf 33 = 1 := by kernel_rfl
theorem ce_rat : Tryz.prog.cellsOf 35 = 3 := by kernel_rfl
theorem ce_node : Tryz.prog.cellsOf 37 = 8 := by kernel_rfl
theorem ce_let : Tryz.prog.cellsOf 39 = 2 := by kernel_rfl
theorem ce_prog : Tryz.prog.cellsOf 26 = 4 := by kernel_rfl
theorem ce_strs : Tryz.prog.cellsOf 22 = 1 := by kernel_rfl
theorem ce_lets : Tryz.prog.cellsOf 23 = 1 := by kernel_rfl
theorem ce_nodes : Tryz.prog.cellsOf 24 = 1 := by kernel_rfl
theorem of2 {l : List Value} (h : l.length = 2) : ∃ a b, l = [a, b] := by
  match l, h with
  | [a, b], _ => exact ⟨a, b, rfl⟩
theorem of3 {l : List Value} (h : l.length = 3) : ∃ a b c, l = [a, b, c] := by
  match l, h with
  | [a, b, c], _ => exact ⟨a, b, c, rfl⟩
theorem of4 {l : List Value} (h : l.length = 4) : ∃ a b c d, l = [a, b, c, d] := by
  match l, h with
  | [a, b, c, d], _ => exact ⟨a, b, c, d, rfl⟩
theorem of8 {l : List Value} (h : l.length = 8) : ∃ a b c d e f g i, l = [a, b, c, d, e, f, g, i] := by
  match l, h with
  | [a, b, c, d, e, f, g, i], _ => exact ⟨a, b, c, d, e, f, g, i, rfl⟩
theorem tr_wds (h : Tr enc Tryz.prog W 33 [v]) : ∃ O, Ws (World.hp W) v O := by
  obtain ⟨xss, h1, h2⟩ := tr_rows Tryz.underlying33 ce_u32 (by decide) h
  obtain ⟨zs, rfl, h3⟩ := tr_ints (sz := 1) Tryz.underlying134 h1 h2
  refine ⟨zs.map Int.toNat, ⟨?_, fun x hx => ?_⟩⟩
  · have e : wcs (zs.map Int.toNat) = zs.map (fun z => [Value.int .u32 z]) := by
      unfold wcs
      rw [List.map_map]
      refine List.map_congr_left fun z hz => ?_
      have := bounds_u32 (h3 z hz)
      show [Value.int .u32 ((z.toNat : Nat) : Int)] = _
      rw [Int.toNat_of_nonneg this.1]
    rw [e]; exact h1
  · obtain ⟨z, hz, rfl⟩ := List.mem_map.1 hx
    have := bounds_u32 (h3 z hz)
    omega
theorem tr_num (h : Tr enc Tryz.prog W 35 cs) : ∃ s n d b c, cs = [.bool s, b, c] ∧ Ws (World.hp W) b n ∧ Ws (World.hp W) c d := by
  obtain ⟨h1, h2⟩ := tr_struct Tryz.underlying35 h
  obtain ⟨a, b, c, rfl⟩ := of3 (by rw [h1]; exact ce_rat)
  have k0 := h2 0 _ rfl
  have k1 := h2 1 _ rfl
  have k2 := h2 2 _ rfl
  change Tr enc Tryz.prog W 4 (List.take (Tryz.prog.cellsOf 4) [a, b, c]) at k0
  change Tr enc Tryz.prog W 33 (List.take (Tryz.prog.cellsOf 33) [b, c]) at k1
  change Tr enc Tryz.prog W 33 (List.take (Tryz.prog.cellsOf 33) [c]) at k2
  rw [ce_bool] at k0
  rw [ce_u32s] at k1 k2
  obtain ⟨s, rfl⟩ := tr_bool Tryz.underlying4 k0
  obtain ⟨n, hn⟩ := tr_wds k1
  obtain ⟨dd, hd⟩ := tr_wds k2
  exact ⟨s, n, dd, b, c, rfl, hn, hd⟩
theorem tr_node (h : Tr enc Tryz.prog W 37 cs) : ∃ o : NodeV, cs = o.cells ∧ o.ok (World.hp W) := by
  obtain ⟨h1, h2⟩ := tr_struct Tryz.underlying37 h
  obtain ⟨a, b, c, d, e, f, g, i, rfl⟩ := of8 (by rw [h1]; exact ce_node)
  have k0 := h2 0 _ rfl
  have k1 := h2 1 _ rfl
  have k2 := h2 2 _ rfl
  have k3 := h2 3 _ rfl
  have k4 := h2 4 _ rfl
  have k5 := h2 5 _ rfl
  change Tr enc Tryz.prog W 3 (List.take (Tryz.prog.cellsOf 3) [a, b, c, d, e, f, g, i]) at k0
  change Tr enc Tryz.prog W 3 (List.take (Tryz.prog.cellsOf 3) [b, c, d, e, f, g, i]) at k1
  change Tr enc Tryz.prog W 3 (List.take (Tryz.prog.cellsOf 3) [c, d, e, f, g, i]) at k2
  change Tr enc Tryz.prog W 3 (List.take (Tryz.prog.cellsOf 3) [d, e, f, g, i]) at k3
  change Tr enc Tryz.prog W 9 (List.take (Tryz.prog.cellsOf 9) [e, f, g, i]) at k4
  change Tr enc Tryz.prog W 35 (List.take (Tryz.prog.cellsOf 35) [f, g, i]) at k5
  rw [ce_int] at k0 k1 k2 k3
  rw [ce_str] at k4
  rw [ce_rat] at k5
  obtain ⟨z0, rfl, b0⟩ := tr_int Tryz.underlying3 k0
  obtain ⟨z1, rfl, b1⟩ := tr_int Tryz.underlying3 k1
  obtain ⟨z2, rfl, b2⟩ := tr_int Tryz.underlying3 k2
  obtain ⟨z3, rfl, b3⟩ := tr_int Tryz.underlying3 k3
  obtain ⟨s, rfl, _⟩ := tr_string Tryz.underlying9 k4
  obtain ⟨ng, n, dd, vb, vc, hx, hn, hd⟩ := tr_num k5
  obtain ⟨rfl, h5⟩ := List.cons.inj hx
  obtain ⟨rfl, h6⟩ := List.cons.inj h5
  obtain ⟨rfl, _⟩ := List.cons.inj h6
  exact ⟨⟨⟨z0, z1, z2, z3, s, ng, n, dd⟩, g, i⟩, rfl, hn, hd⟩
theorem tr_let (h : Tr enc Tryz.prog W 39 cs) : ∃ o : LetC, cs = o.cells ∧ True := by
  obtain ⟨h1, h2⟩ := tr_struct Tryz.underlying39 h
  obtain ⟨a, b, rfl⟩ := of2 (by rw [h1]; exact ce_let)
  have k0 := h2 0 _ rfl
  have k1 := h2 1 _ rfl
  change Tr enc Tryz.prog W 9 (List.take (Tryz.prog.cellsOf 9) [a, b]) at k0
  change Tr enc Tryz.prog W 3 (List.take (Tryz.prog.cellsOf 3) [b]) at k1
  rw [ce_str] at k0
  rw [ce_int] at k1
  obtain ⟨s, rfl, _⟩ := tr_string Tryz.underlying9 k0
  obtain ⟨z, rfl, _⟩ := tr_int Tryz.underlying3 k1
  exact ⟨⟨s, z⟩, rfl, trivial⟩
theorem tr_strs (h : Tr enc Tryz.prog W 22 [v]) : ∃ l : List ByteArray, Slc (World.hp W) 1 v (scs l) := by
  obtain ⟨xss, s1, s2⟩ := tr_rows (sz := 1) Tryz.underlying22 ce_str (by decide) h
  obtain ⟨zs, rfl, _⟩ := rows_map (f := fun s : ByteArray => [Value.string s]) (p := fun _ => True) fun c hc => by
    have hl := s1.lens c hc
    match c, hl with
    | [x], _ =>
      obtain ⟨s, rfl, _⟩ := tr_string Tryz.underlying9 (s2 _ hc)
      exact ⟨s, rfl, trivial⟩
  exact ⟨zs, s1⟩
theorem open_Pg (hval : Value.okWide Tryz.prog W .any base 26 v) (h : DataW.Trod enc Tryz.prog W 0 (fun _ => true) true 26 v d ps) : ∃ (p : ProgC) (vi vl vo va : Value) (ns : List NodeV), v = .agg #[vi, vl, vo, va] ∧ ProgV (World.hp W) vi vl vo va p ns := by
  obtain ⟨cs, rfl, hh⟩ := tr_of_struct Tryz.underlying26 hval h
  obtain ⟨h1, h2⟩ := tr_struct Tryz.underlying26 hh
  obtain ⟨a, b, c, e, rfl⟩ := of4 (by rw [h1]; exact ce_prog)
  have k0 := h2 0 _ rfl
  have k1 := h2 1 _ rfl
  have k2 := h2 2 _ rfl
  have k3 := h2 3 _ rfl
  change Tr enc Tryz.prog W 22 (List.take (Tryz.prog.cellsOf 22) [a, b, c, e]) at k0
  change Tr enc Tryz.prog W 23 (List.take (Tryz.prog.cellsOf 23) [b, c, e]) at k1
  change Tr enc Tryz.prog W 22 (List.take (Tryz.prog.cellsOf 22) [c, e]) at k2
  change Tr enc Tryz.prog W 24 (List.take (Tryz.prog.cellsOf 24) [e]) at k3
  rw [ce_strs] at k0 k2
  rw [ce_lets] at k1
  rw [ce_nodes] at k3
  obtain ⟨li, gi⟩ := tr_strs k0
  obtain ⟨lo, go⟩ := tr_strs k2
  obtain ⟨xss, s1, s2⟩ := tr_rows (sz := 2) Tryz.underlying23 ce_let (by decide) k1
  obtain ⟨ls, rfl, _⟩ := rows_map (f := LetC.cells) (p := fun _ => True) fun c hc => tr_let (s2 c hc)
  obtain ⟨yss, u1, u2⟩ := tr_rows (sz := 8) Tryz.underlying24 ce_node (by decide) k3
  obtain ⟨ns, rfl, u3⟩ := rows_map (f := NodeV.cells) (p := fun o => o.ok (World.hp W)) fun c hc => tr_node (u2 c hc)
  exact ⟨⟨li, ls, lo, ns.map NodeV.c⟩, a, b, c, e, ns, rfl, gi, s1, go, u1, u3, rfl⟩
end
end Go.Proofs.YtfcmhcaggdakbaaGreatDoor
