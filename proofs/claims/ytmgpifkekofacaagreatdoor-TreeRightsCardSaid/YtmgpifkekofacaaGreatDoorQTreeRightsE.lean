/-
  TreeRights, part 5: the texts Parse11, RefR, RefL, RefL2, RefL3, RefL4, RefL5, RefL6, Tree9, RefH, Ref8b, RefW, Tree10, RefH2, Law11, RefW2, Open, Open11 as one.
-/
import Derived.Test.YtmgpifkekofacaaGreatDoorQTreeRightsD
import Derived.Deep.Slices
set_option linter.unusedVariables false
set_option linter.unusedSimpArgs false
set_option linter.unnecessarySimpa false
set_option maxHeartbeats 1000000
namespace Go.Proofs.YtmgpifkekofacaaGreatDoor
open Go Go.Tw
structure ToksFine (s : ByteArray) (L : List Tok) : Prop where
  ok : ToksOk L
  small : ∀ t ∈ L, t.text.size ≤ s.size
  few : L.length ≤ 4000
theorem tokZ_fine (s : ByteArray) (i : Nat) : ((tokZ s i).kind = 1 → numZ (tokZ s i).text = true) ∧ (tokZ s i).text.size ≤ s.size := by
  have hx : ∀ a b : Nat, (s.extract a b).size ≤ s.size := fun a b => by rw [ByteArray.size_extract]; omega
  unfold tokZ
  split
  · split
    · exact ⟨fun h => (by cases h), Nat.zero_le _⟩
    · exact ⟨fun h => (by cases h), hx _ _⟩
  · split
    · split
      · exact ⟨fun h => (by cases h), Nat.zero_le _⟩
      · split
        · rename_i h; exact ⟨fun _ => h, hx _ _⟩
        · exact ⟨fun h => (by cases h), Nat.zero_le _⟩
    · split
      · exact ⟨fun h => (by cases h), hx _ _⟩
      · exact ⟨fun h => (by cases h), Nat.zero_le _⟩
theorem lexAt_fine (s : ByteArray) : ∀ (f i : Nat) (out : List Tok), s.size ≤ i + f → ToksFine s out → ToksFine s (lexAt s i out).toks := by
  intro f
  induction f with
  | zero => intro i out h ho; rw [lexAt_end (by omega)]; exact ho
  | succ f ih =>
    intro i out h ho
    by_cases hi : i < s.size
    · rw [lexAt_open hi]
      split
      · exact ih (i + 1) out (by omega) ho
      · split
        · exact ⟨fun t ht => (by cases ht), fun t ht => (by cases ht), Nat.zero_le _⟩
        · split
          · exact ⟨fun t ht => (by cases ht), fun t ht => (by cases ht), Nat.zero_le _⟩
          · rename_i h4 he
            have hst := tokZ_stop hi (Decidable.not_not.1 he)
            obtain ⟨k1, k2⟩ := tokZ_fine s i
            refine ih (tokZ s i).stop _ (by omega) ⟨fun t ht => ?_, fun t ht => ?_, by rw [List.length_append]; show out.length + 1 ≤ 4000; omega⟩
            · rcases List.mem_append.1 ht with ht | ht
              · exact ho.ok t ht
              · rw [List.mem_singleton.1 ht]; exact k1
            · rcases List.mem_append.1 ht with ht | ht
              · exact ho.small t ht
              · rw [List.mem_singleton.1 ht]; exact k2
    · rw [lexAt_end (by omega)]; exact ho
theorem lexZ_fine {s : ByteArray} (hs : s.size ≤ 60000) : ToksFine s (lexZ s).toks := by
  rw [lexZ_at hs]
  exact lexAt_fine s s.size 0 [] (by omega) ⟨fun t ht => (by cases ht), fun t ht => (by cases ht), Nat.zero_le _⟩
structure PRes where
  p : ProgC
  line : Int
  col : Int
  err : Int
def noP : ProgC := ⟨[], [], [], []⟩
noncomputable def prgZ (L : List Tok) : PO := Classical.choose (Prg.some_out L)
theorem prgZ_is (L : List Tok) : Prg L (prgZ L) := Classical.choose_spec (Prg.some_out L)
noncomputable def parseT (s : ByteArray) (o : PO) : PRes := match o with
  | .bad [] => ⟨noP, (placeZ s s.size).1, (placeZ s s.size).2, 5⟩
  | .bad (t :: _) => ⟨noP, t.line, t.col, 5⟩
  | .ok p => if (tZ p).isSome = true then ⟨p, 0, 0, 0⟩ else ⟨noP, 1, 1, 4⟩
noncomputable def parseZ (s : ByteArray) : PRes := if (lexZ s).err ≠ 0 then ⟨noP, (lexZ s).line, (lexZ s).col, (lexZ s).err⟩ else parseT s (prgZ (lexZ s).toks)
theorem digs_ten_lt : ∀ (n : Nat), n < 10 ^ (digs n).length := by
  intro n
  induction n using Nat.strongRecOn with
  | ind n ih =>
    unfold digs
    split
    · simp; omega
    · rename_i h
      have := ih (n / 10) (by omega)
      rw [List.length_cons, Nat.pow_succ]
      omega
theorem Ex.few_all : ∀ (x : Ex) (b : Nat), x.ok → ∀ c ∈ x.nd b, c.few 5 := by
  intro x
  have none0 : ∀ {c : NodeC}, c.n = [] → c.d = [] → c.few 5 := fun h1 h2 => ⟨by rw [h1]; exact Nat.zero_le _, by rw [h2]; exact Nat.zero_le _⟩
  induction x with
  | ref t => intro b _ c hc; rw [List.mem_singleton.1 hc]; exact none0 rfl rfl
  | num q =>
    intro b hok c hc
    rw [List.mem_singleton.1 hc]
    have h1 := digs_ten_lt q.num.natAbs
    have h2 := digs_ten_lt q.den
    exact ⟨natW_forty (Nat.lt_of_lt_of_le h1 (Nat.pow_le_pow_right (by decide) hok.2.1)), natW_forty (Nat.lt_of_lt_of_le h2 (Nat.pow_le_pow_right (by decide) hok.2.2))⟩
  | neg x ih =>
    intro b hok c hc
    rcases List.mem_append.1 hc with hc | hc
    · exact ih b hok c hc
    · rw [List.mem_singleton.1 hc]; exact none0 rfl rfl
  | pow x e ih =>
    intro b hok c hc
    rcases List.mem_append.1 hc with hc | hc
    · exact ih b hok.1 c hc
    · rw [List.mem_singleton.1 hc]; exact none0 rfl rfl
  | bin k x y ih1 ih2 =>
    intro b hok c hc
    rcases List.mem_append.1 hc with hc | hc
    · rcases List.mem_append.1 hc with hc | hc
      · exact ih1 b hok.2.2.1 c hc
      · exact ih2 _ hok.2.2.2 c hc
    · rw [List.mem_singleton.1 hc]; exact none0 rfl rfl
theorem laid_few : ∀ (l : List (ByteArray × Ex)) (b : Nat), LetsOk l → ∀ c ∈ (laid l b).2, c.few 5
  | [], _, _, c, hc => by cases hc
  | (s, x) :: l, b, h, c, hc => by
    simp only [laid] at hc
    rcases List.mem_append.1 hc with hc | hc
    · exact Ex.few_all x b (h (s, x) (by simp)).2 c hc
    · exact laid_few l _ (fun a ha => h a (by simp [ha])) c hc
theorem Prg.few_all {L : List Tok} {p : ProgC} (h : Prg L (.ok p)) (hr : ToksOk L) : ∀ c ∈ p.all, c.few 5 := by
  obtain ⟨l, hs, _⟩ := h.ex hr
  rw [hs.all]
  exact laid_few l 0 hs.ok
def ParseV (r : PRes) (v : Value) (I' : Hp) : Prop := ∃ vi vl vo va ns, v = .tuple #[.agg #[vi, vl, vo, va], .agg #[.int .i64 r.line, .int .i64 r.col], .int .i64 r.err] ∧ ProgV I' vi vl vo va r.p ns ∧ ∀ o ∈ ns, o.c.few 5
theorem ProgV.nil (I : Hp) : ProgV I N0 N0 N0 N0 noP [] := ⟨Slc.nil _ _, Slc.nil _ _, Slc.nil _ _, Slc.nil _ _, fun o ho => (by cases ho), rfl⟩
theorem scs_one (l : List ByteArray) : ∀ c ∈ scs l, c.length = 1 := by
  intro c hc
  obtain ⟨x, _, rfl⟩ := List.mem_map.1 hc
  rfl
theorem nds_eight (l : List NodeV) : ∀ c ∈ nds l, c.length = 8 := by
  intro c hc
  obtain ⟨x, _, rfl⟩ := List.mem_map.1 hc
  rfl
theorem lts_two (l : List LetC) : ∀ c ∈ l.map LetC.cells, c.length = 2 := by
  intro c hc
  obtain ⟨x, _, rfl⟩ := List.mem_map.1 hc
  rfl
theorem parse_any (s : ByteArray) {I : Hp} (hT : Tabs I) (hM : Mx I) (hE : Errs I) (hs : s.size ≤ 60000) : Fun Tryz.prog 15 [.string s] I [] (fun v I' _ => ParseV (parseZ s) v I') := by
  have hfine := lexZ_fine hs
  intro w hw
  refine enter1 _ Tryz.func15 rfl Tryz.ntmps15 rfl ?_ hw
  refine cS (cR ?_)
  refine o_alloc trivial rfl Tryz.zeroValue27 rfl (fun b2 => ?_)
  refine o_alloc trivial rfl Tryz.zeroValue29 rfl (fun b3 => ?_)
  refine oV ?_
  refine oN (tC (cS (cR ?_)))
  refine oV ?_
  refine o_callI trivial rfl Tryz.call39 rfl (lex_any s hT hM hs) ?_
  rintro _ I1 hx1 ⟨u1, rfl, hs1⟩
  iterate 4 refine oV ?_
  refine o_alloc trivial rfl Tryz.zeroValue29 rfl (fun b6 => ?_)
  refine oV ?_
  refine oS Tryz.sizeOf29 ?_
  refine oV ?_
  refine oN (tC (cS (cS (cR ?_))))
  iterate 2 refine oV ?_
  refine oN (tC ?_)
  refine cC rfl (fun h1 => ?_) (fun h1 => ?_)
  ·
   have f1 := h1
   try simp only [bl] at f1
   have hz : parseZ s = ⟨noP, (lexZ s).line, (lexZ s).col, (lexZ s).err⟩ := by unfold parseZ; rw [if_pos (by simpa using h1)]
   refine cS ?_
   refine h_beginB (m := 6) [.box b6 _] (by repeat constructor) (by kernel_rfl) rfl ?_
   refine qT (i := 0) (qB 6 1) (Hp.Le.refl _) rfl rfl (o_buildS trivial rfl (bld27) rfl .nil qF) ?_
   refine qT (i := 1) (qB 6 3) (Hp.Le.refl _) rfl rfl (oA Tryz.isAgg29 Tryz.sizeOf29 qF) ?_
   refine qT (i := 2) (qB 6 7) (Hp.Le.refl _) rfl rfl (oV qF) ?_
   refine qO (i := 3) (qB 6 15) rfl ?_
   refine oS Tryz.sizeOf27 ?_
   refine qM (Hp.Le.refl _) ?_
   refine qO (i := 4) (qB 6 31) rfl ?_
   refine oS Tryz.sizeOf29 ?_
   refine qM (Hp.Le.refl _) ?_
   refine qT (i := 5) (qB 6 63) (Hp.Le.refl _) rfl rfl (oV qF) ?_
   refine h_end (by kernel_rfl) ?_
   refine tC (cT (tR ?_))
   refine retR rfl (.agg Tryz.isAgg27 Tryz.sizeOf27 rfl (by repeat constructor) rfl (.agg Tryz.isAgg29 Tryz.sizeOf29 rfl (by repeat constructor) rfl (.tmp rfl .nil))) ?_
   refine leaf hx1 (List.nil_sublist _) ?_
   rw [hz]
   exact ⟨N0, N0, N0, N0, [], rfl, ProgV.nil _, fun o ho => by cases ho⟩
  have f1 := h1
  try simp only [bl] at f1
  have hz : parseZ s = parseT s (prgZ (lexZ s).toks) := by unfold parseZ; rw [if_neg (by simpa using h1)]
  have hP := prgZ_is (lexZ s).toks
  generalize prgZ (lexZ s).toks = o at hz hP
  have htf := hfine.few
  have hsm : TkSmall (lexZ s).toks := fun t ht => Nat.le_trans (hfine.small t ht) hs
  refine cK (tC (cS (cR ?_)))
  refine oV ?_
  refine o_buildS trivial rfl (bld66) rfl (.cons rfl (by first | exact (Ws.cells1 (by assumption)).1 | exact (Slc.cells1 (by assumption)).1 | rfl) (by rfl) (by repeat constructor) .nil) ?_
  refine o_box trivial rfl rfl rfl (fun b24 => ?_)
  refine oV ?_
  refine oN (tC (cS (cS (cR ?_))))
  refine oV ?_
  refine oC trivial rfl Tryz.call40 rfl (rdProgram_any b24 u1 (lexZ s).toks (hM.le hx1.le) (hE.le hx1.le) hs1 (by omega) hsm hfine.ok hP) (by repeat constructor) ?_
  rintro _ I2 _ hx2 ⟨ok, i, us, vi, vl, vo, va, wi, wl, wo, wa, ins, ls, outs, ns, rfl, rfl, hi, hno, hyes⟩
  refine oV ?_
  refine oN (tC ?_)
  refine cC rfl (fun h2 => ?_) (fun h2 => ?_)
  ·
   have f2 := h2
   try simp only [bl] at f2
   have hk : ok = false := by simpa using f2
   have hbad := hno hk
   refine cS (cS (cR ?_))
   refine oV ?_
   refine oC trivial rfl Tryz.call41 rfl (rdNext_any b24 i u1 us vi vl vo va (lexZ s).toks (hs1.le hx2.le)) (by repeat constructor) ?_
   rintro _ _ _ hx3 ⟨rfl, rfl, rfl⟩
   iterate 3 refine oV ?_
   refine o_alloc trivial rfl Tryz.zeroValue68 rfl (fun b9 => ?_)
   refine oS Tryz.sizeOf68 ?_
   refine oV ?_
   refine oN (tC (cS (cR ?_)))
   refine oV ?_
   refine oN (tC ?_)
   refine cC rfl (fun h3 => ?_) (fun h3 => ?_)
   ·
    have f3 := h3
    try simp only [bl] at f3
    refine cS ?_
    refine h_beginB (m := 6) [.box b9 _] (by repeat constructor) (by kernel_rfl) rfl ?_
    refine qT (i := 0) (qB 6 1) (Hp.Le.refl _) rfl rfl (o_buildS trivial rfl (bld27) rfl .nil qF) ?_
    refine qT (i := 1) (qB 6 3) (Hp.Le.refl _) rfl rfl (oF 2 Tryz.underlying68 Tryz.sizeOf29 qF) ?_
    refine qT (i := 2) (qB 6 7) (Hp.Le.refl _) rfl rfl (oA Tryz.isAgg29 Tryz.sizeOf29 qF) ?_
    refine qO (i := 3) (qB 6 15) rfl ?_
    refine oS Tryz.sizeOf27 ?_
    refine qM (Hp.Le.refl _) ?_
    refine qO (i := 4) (qB 6 31) rfl ?_
    refine oS Tryz.sizeOf29 ?_
    refine qM (Hp.Le.refl _) ?_
    refine qT (i := 5) (qB 6 63) (Hp.Le.refl _) rfl rfl (oV qF) ?_
    refine h_end (by kernel_rfl) ?_
    refine tC (cT (tR (tR ?_)))
    refine retR rfl (.agg Tryz.isAgg27 Tryz.sizeOf27 rfl (by repeat constructor) rfl (.agg Tryz.isAgg29 Tryz.sizeOf29 rfl (by repeat constructor) rfl (.tmp rfl .nil))) ?_
    refine leaf (hx1.trans hx2 (Nat.le_refl _)) (List.nil_sublist _) ?_
    rw [hz, hbad, drop_cons (by simpa using h3)]
    exact ⟨N0, N0, N0, N0, [], rfl, ProgV.nil _, fun o ho => by cases ho⟩
   have f3 := h3
   try simp only [bl] at f3
   refine cK (tC (cS (cR ?_)))
   refine o_buildS trivial rfl (bld27) rfl .nil ?_
   iterate 2 refine oV ?_
   refine o_lenS trivial rfl Tryz.underlying9 rfl ?_
   refine o_callQ trivial rfl Tryz.call28 rfl (place_any s (s.size : Nat) (by omega)) ?_
   refine oS Tryz.sizeOf27 ?_
   refine oS Tryz.sizeOf29 ?_
   refine oV ?_
   refine oN (tC (cT (tR ?_)))
   refine retR rfl (.agg Tryz.isAgg27 Tryz.sizeOf27 rfl (by repeat constructor) rfl (.agg Tryz.isAgg29 Tryz.sizeOf29 rfl (by repeat constructor) rfl (.tmp rfl .nil))) ?_
   refine leaf (hx1.trans hx2 (Nat.le_refl _)) (List.nil_sublist _) ?_
   rw [hz, hbad, List.drop_eq_nil_of_le (by have := f3; omega)]
   exact ⟨N0, N0, N0, N0, [], rfl, ProgV.nil _, fun o ho => by cases ho⟩
  have f2 := h2
  try simp only [bl] at f2
  have hk : ok = true := by simpa using f2
  obtain ⟨rfl, rfl, rfl, rfl, hok, rfl, hb1, hb2, hb3, hb4⟩ := hyes hk
  have hfew : ∀ o ∈ ns, o.c.few 5 := fun o ho => Prg.few_all hP hfine.ok o.c (List.mem_map.2 ⟨o, ho, rfl⟩)
  refine cK (tC (cS (cS ?_)))
  refine c_sealR (u := wi) (xss := scs ins) (by repeat constructor) (scs_len _) (scs_one _) (by unfold maxLen; omega) (fun I3 hx3 hsi => ?_)
  refine c_sealR (u := wl) (xss := ls.map LetC.cells) (by repeat constructor) (List.length_map _) (lts_two _) (by unfold maxLen; omega) (fun I4 hx4 hsl => ?_)
  refine c_sealR (u := wo) (xss := scs outs) (by repeat constructor) (scs_len _) (scs_one _) (by unfold maxLen; omega) (fun I5 hx5 hso => ?_)
  refine c_sealR (u := wa) (xss := nds ns) (by repeat constructor) (nds_len _) (nds_eight _) (by unfold maxLen; omega) (fun I6 hx6 hsa => ?_)
  have hsi := hsi.le (hx4.le.trans (hx5.le.trans hx6.le))
  have hsl := hsl.le (hx5.le.trans hx6.le)
  have hso := hso.le hx6.le
  have hpv : ProgV I6 wi wl wo wa ⟨ins, ls, outs, ns.map NodeV.c⟩ ns := ⟨hsi, hsl, hso, hsa, fun o ho => (hok o ho).le (hx3.le.trans (hx4.le.trans (hx5.le.trans hx6.le))), rfl⟩
  have hx16 : Ext w.heap.size I I6 := hx1.trans (hx2.trans (hx3.trans (hx4.trans (hx5.trans hx6 (Nat.le_refl _)) (Nat.le_refl _)) (Nat.le_refl _)) (Nat.le_refl _)) (Nat.le_refl _)
  refine cR ?_
  iterate 2 refine oV ?_
  refine oF 3 Tryz.underlying66 Tryz.sizeOf27 ?_
  refine oA Tryz.isAgg27 Tryz.sizeOf27 ?_
  refine o_callQ trivial rfl Tryz.call21 rfl (trRight_any wi wl wo wa _ ns hpv (fun o ho => ⟨by have := (hfew o ho).1; omega, by have := (hfew o ho).2; omega⟩)) ?_
  refine oV ?_
  refine oN (tC ?_)
  refine cC rfl (fun h4 => ?_) (fun h4 => ?_)
  ·
   have f4 := h4
   try simp only [bl] at f4
   refine cS (cR ?_)
   refine o_buildS trivial rfl (bld27) rfl .nil ?_
   refine o_buildS trivial rfl (bld29) rfl (.cons rfl rfl rfl (by repeat constructor) (.cons rfl rfl rfl (by repeat constructor) .nil)) ?_
   refine oS Tryz.sizeOf27 ?_
   refine oS Tryz.sizeOf29 ?_
   refine oV ?_
   refine oN (tC (cT (tR ?_)))
   refine retR rfl (.agg Tryz.isAgg27 Tryz.sizeOf27 rfl (by repeat constructor) rfl (.agg Tryz.isAgg29 Tryz.sizeOf29 rfl (by repeat constructor) rfl (.tmp rfl .nil))) ?_
   refine leaf hx16 (List.nil_sublist _) ?_
   rw [hz]
   unfold parseT
   dsimp only
   rw [if_neg (by simpa using h4)]
   exact ⟨N0, N0, N0, N0, [], rfl, ProgV.nil _, fun o ho => by cases ho⟩
  have f4 := h4
  try simp only [bl] at f4
  refine cK (tC (cS (cR ?_)))
  iterate 2 refine oV ?_
  refine oF 3 Tryz.underlying66 Tryz.sizeOf27 ?_
  refine oA Tryz.isAgg27 Tryz.sizeOf27 ?_
  refine o_buildS trivial rfl (bld29) rfl .nil ?_
  refine oS Tryz.sizeOf27 ?_
  refine oS Tryz.sizeOf29 ?_
  refine oV ?_
  refine oN (tC (cT ?_))
  refine retR rfl (.agg Tryz.isAgg27 Tryz.sizeOf27 rfl (by repeat constructor) rfl (.agg Tryz.isAgg29 Tryz.sizeOf29 rfl (by repeat constructor) rfl (.tmp rfl .nil))) ?_
  refine leaf hx16 (List.nil_sublist _) ?_
  rw [hz]
  unfold parseT
  dsimp only
  rw [if_pos (by simpa using h4)]
  exact ⟨wi, wl, wo, wa, ns, rfl, hpv, hfew⟩
def isR (bad : Bool) (L : List Tok) (i : Nat) (k : Int) (s : ByteArray) : Bool := !bad && hdT (L.drop i) k s
theorem add_none {L : List Tok} {j : Nat} (h : (isR false L j 2 plusS || isR false L j 2 minusS) = false) : hdK addK (L.drop j) = none := by
  unfold isR at h
  simp only [Bool.not_false, Bool.true_and, Bool.or_eq_false_iff] at h
  cases hr : L.drop j with
  | nil => rfl
  | cons x r =>
    rw [hr] at h
    simp only [hdT] at h
    show addK x = none
    unfold addK
    rw [h.1, h.2]; rfl
def LowN (l : List NodeC) : Prop := ∀ (i : Nat) (c : NodeC), l[i]? = some c → 1 < c.kind → 0 ≤ c.a ∧ c.a < i ∧ (c.kind ≤ 5 → 0 ≤ c.b ∧ c.b < i)
theorem nd_low : ∀ (x : Ex) (b j : Nat) (c : NodeC), x.ok → (x.nd b)[j]? = some c → 1 < c.kind → (b : Int) ≤ c.a ∧ c.a < (b + j : Nat) ∧ (c.kind ≤ 5 → (b : Int) ≤ c.b ∧ c.b < (b + j : Nat)) := by
  intro x
  have last : ∀ {u : List NodeC} {c0 c : NodeC} {j : Nat}, (u ++ [c0])[j]? = some c → ¬ j < u.length → j = u.length ∧ c = c0 := by
    intro u c0 c j h hj
    rw [List.getElem?_append_right (by omega)] at h
    have := (List.getElem?_eq_some_iff.1 h)
    obtain ⟨h1, h2⟩ := this
    simp at h1 h2
    exact ⟨by omega, h2.symm⟩
  induction x with
  | ref t =>
    intro b j c _ h hk
    have : c = refN t := by
      obtain ⟨h1, h2⟩ := List.getElem?_eq_some_iff.1 h
      simp [Ex.nd] at h2; exact h2.symm
    subst this
    exact absurd hk (by simp [refN])
  | num q =>
    intro b j c _ h hk
    have : c = numN q := by
      obtain ⟨h1, h2⟩ := List.getElem?_eq_some_iff.1 h
      simp [Ex.nd] at h2; exact h2.symm
    subst this
    exact absurd hk (by simp [numN])
  | neg x ih =>
    intro b j c hok h hk
    have hp := x.n_pos
    have hl := x.nd_len b
    by_cases hj : j < (x.nd b).length
    · simp only [Ex.nd] at h
      rw [List.getElem?_append_left hj] at h
      exact ih b j c hok h hk
    · obtain ⟨e1, e2⟩ := last h hj
      subst e2
      refine ⟨?_, ?_, ?_⟩
      · show (b : Int) ≤ (b : Int) + x.n - 1; omega
      · show (b : Int) + x.n - 1 < _; omega
      · intro h5; exact absurd h5 (by show ¬ (6 : Int) ≤ 5; decide)
  | pow x e ih =>
    intro b j c hok h hk
    have hp := x.n_pos
    have hl := x.nd_len b
    by_cases hj : j < (x.nd b).length
    · simp only [Ex.nd] at h
      rw [List.getElem?_append_left hj] at h
      exact ih b j c hok.1 h hk
    · obtain ⟨e1, e2⟩ := last h hj
      subst e2
      refine ⟨?_, ?_, ?_⟩
      · show (b : Int) ≤ (b : Int) + x.n - 1; omega
      · show (b : Int) + x.n - 1 < _; omega
      · intro h5; exact absurd h5 (by show ¬ (7 : Int) ≤ 5; decide)
  | bin k x y ih1 ih2 =>
    intro b j c hok h hk
    have hp := x.n_pos
    have hp2 := y.n_pos
    have hl := x.nd_len b
    have hl2 := y.nd_len (b + x.n)
    by_cases hj : j < (x.nd b ++ y.nd (b + x.n)).length
    · simp only [Ex.nd] at h
      rw [List.getElem?_append_left hj] at h
      by_cases hx : j < (x.nd b).length
      · rw [List.getElem?_append_left hx] at h
        exact ih1 b j c hok.2.2.1 h hk
      · rw [List.getElem?_append_right (by omega)] at h
        have := ih2 (b + x.n) _ c hok.2.2.2 h hk
        refine ⟨by omega, by omega, fun h5 => ?_⟩
        have := this.2.2 h5
        omega
    · obtain ⟨e1, e2⟩ := last h hj
      rw [List.length_append] at e1
      subst e2
      refine ⟨?_, ?_, fun _ => ⟨?_, ?_⟩⟩
      · show (b : Int) ≤ (b : Int) + x.n - 1; omega
      · show (b : Int) + x.n - 1 < _; omega
      · show (b : Int) ≤ (b : Int) + x.n + y.n - 1; omega
      · show (b : Int) + x.n + y.n - 1 < _; omega
theorem laid_low : ∀ (l : List (ByteArray × Ex)) (b j : Nat) (c : NodeC), LetsOk l → (laid l b).2[j]? = some c → 1 < c.kind → (b : Int) ≤ c.a ∧ c.a < (b + j : Nat) ∧ (c.kind ≤ 5 → (b : Int) ≤ c.b ∧ c.b < (b + j : Nat))
  | [], _, _, _, _, h, _ => by cases h
  | (s, x) :: l, b, j, c, hok, h, hk => by
    simp only [laid] at h
    have hl := x.nd_len b
    by_cases hx : j < (x.nd b).length
    · rw [List.getElem?_append_left hx] at h
      exact nd_low x b j c (hok (s, x) (by simp)).2 h hk
    · rw [List.getElem?_append_right (by omega)] at h
      have := laid_low l (b + x.n) _ c (fun a ha => hok a (by simp [ha])) h hk
      refine ⟨by omega, by omega, fun h5 => ?_⟩
      have := this.2.2 h5
      omega
theorem shaped_low {p : ProgC} {l : List (ByteArray × Ex)} (h : Shaped p l) : LowN p.all := fun i c hc hk => by
  rw [h.all] at hc
  have := laid_low l 0 i c h.ok hc hk
  refine ⟨by omega, by omega, fun h5 => ?_⟩
  have := this.2.2 h5
  omega
theorem tall_fuel {l : List NodeC} (h : LowN l) : ∀ (i f g : Nat), i < f → i < g → tallZ l f i = tallZ l g i := by
  intro i
  induction i using Nat.strongRecOn with
  | ind i ih =>
    intro f g hf hg
    obtain ⟨f, rfl⟩ : ∃ k, f = k + 1 := ⟨f - 1, by omega⟩
    obtain ⟨g, rfl⟩ : ∃ k, g = k + 1 := ⟨g - 1, by omega⟩
    unfold tallZ
    rw [Int.toNat_natCast]
    cases hc : l[i]? with
    | none => rfl
    | some c =>
      dsimp only
      by_cases h1 : c.kind ≤ 1
      · rw [if_pos h1, if_pos h1]
      · obtain ⟨a1, a2, a3⟩ := h i c hc (by omega)
        have ea : c.a = (c.a.toNat : Int) := by omega
        rw [if_neg h1, if_neg h1]
        by_cases h5 : c.kind ≤ 5
        · obtain ⟨b1, b2⟩ := a3 h5
          have eb : c.b = (c.b.toNat : Int) := by omega
          rw [if_pos h5, if_pos h5, ea, eb, ih c.a.toNat (by omega) f g (by omega) (by omega), ih c.b.toNat (by omega) f g (by omega) (by omega)]
        · rw [if_neg h5, if_neg h5, ea, ih c.a.toNat (by omega) f g (by omega) (by omega)]
theorem tall_le {l : List NodeC} (h : LowN l) : ∀ (i f : Nat), i < f → tallZ l f i ≤ i + 1 := by
  intro i
  induction i using Nat.strongRecOn with
  | ind i ih =>
    intro f hf
    obtain ⟨f, rfl⟩ : ∃ k, f = k + 1 := ⟨f - 1, by omega⟩
    unfold tallZ
    rw [Int.toNat_natCast]
    cases hc : l[i]? with
    | none => exact Nat.zero_le _
    | some c =>
      dsimp only
      by_cases h1 : c.kind ≤ 1
      · rw [if_pos h1]; omega
      · obtain ⟨a1, a2, a3⟩ := h i c hc (by omega)
        have ea : c.a = (c.a.toNat : Int) := by omega
        have := ih c.a.toNat (by omega) f (by omega)
        rw [if_neg h1]
        by_cases h5 : c.kind ≤ 5
        · obtain ⟨b1, b2⟩ := a3 h5
          have eb : c.b = (c.b.toNat : Int) := by omega
          have := ih c.b.toNat (by omega) f (by omega)
          rw [if_pos h5, ea, eb]
          omega
        · rw [if_neg h5, ea]; omega
def heightsZ (l : List NodeC) : List Nat := (List.range l.length).map fun (i : Nat) => tallZ l l.length (i : Int)
theorem heightsZ_len (l : List NodeC) : (heightsZ l).length = l.length := by simp [heightsZ]
theorem tall_laid (all : List NodeC) : ∀ (l : List (ByteArray × Ex)) (b f : Nat), LetsOk l → (∀ j c, (laid l b).2[j]? = some c → all[b + j]? = some c) → b + (laid l b).2.length ≤ f → ∀ j, j < (laid l b).2.length → some (tallZ all f ((b + j : Nat) : Int)) = (hsAll l)[j]?
  | [], b, f, _, _, _, j, hj => by cases hj
  | (s, x) :: l, b, f, hok, h, hf, j, hj => by
    have hx := (hok (s, x) (by simp)).2
    have hl := x.nd_len b
    simp only [laid] at h hf hj
    rw [List.length_append, hl] at hf hj
    have hA : At all b x := At.left h (u := x.nd b) rfl
    have hR := At.right h (u := x.nd b) rfl
    rw [hl] at hR
    have e : hsAll ((s, x) :: l) = x.hs ++ hsAll l := by simp [hsAll]
    rw [e]
    by_cases hjx : j < x.n
    · rw [List.getElem?_append_left (by rw [x.hs_len]; exact hjx)]
      exact tall_all x hx hA (by omega) j hjx
    · rw [List.getElem?_append_right (by rw [x.hs_len]; omega), x.hs_len]
      have := tall_laid all l (b + x.n) f (fun a ha => hok a (by simp [ha])) hR (by omega) (j - x.n) (by omega)
      rw [← this, show b + x.n + (j - x.n) = b + j by omega]
theorem heights_laid {p : ProgC} {l : List (ByteArray × Ex)} (h : Shaped p l) : heightsZ p.all = hsAll l := by
  have hlen : p.all.length = (hsAll l).length := by rw [h.all, laid_len]
  apply List.ext_getElem?
  intro j
  by_cases hj : j < p.all.length
  · have := tall_laid p.all l 0 p.all.length h.ok (fun j c hc => by rw [h.all, Nat.zero_add]; exact hc) (by rw [h.all]; omega) j (by rw [← h.all]; exact hj)
    rw [Nat.zero_add] at this
    rw [← this]
    simp [heightsZ, hj]
  · rw [List.getElem?_eq_none (by rw [heightsZ_len]; omega), List.getElem?_eq_none (by omega)]
def longZ (p : ProgC) : Bool := decide (400 < p.all.length) || decide (40 < p.ins.length) || decide (40 < p.lets.length) || decide (40 < p.outs.length) || (heightsZ p.all).any fun h => decide (60 < h)
theorem long_right {p : ProgC} {l : List (ByteArray × Ex)} (h : Shaped p l) (hi : NamesOk p.ins ∧ 1 ≤ p.ins.length) (ho : NamesOk p.outs ∧ 1 ≤ p.outs.length) : (tZ p).isSome = !longZ p := by
  have hlets : p.lets.length = l.length := by rw [h.lets, laid_lets]
  rw [Bool.eq_iff_iff, tZ_iff, Bool.not_eq_true']
  unfold longZ
  simp only [Bool.or_eq_false_iff, decide_eq_false_iff_not, List.any_eq_false, decide_eq_true_eq]
  constructor
  · rintro ⟨l', hr⟩
    have hl' : p.lets.length = l'.length := by rw [hr.lets, laid_lets]
    refine ⟨⟨⟨⟨by have := hr.few.2; omega, by have := hr.ins.2.2; omega⟩, by have := hr.few.1; omega⟩, by have := hr.outs.2.2; omega⟩, fun k hk => ?_⟩
    rw [heights_laid hr.toShaped] at hk
    have := hsAll_mem.2 hr.low k hk
    omega
  · rintro ⟨⟨⟨⟨c1, c2⟩, c3⟩, c4⟩, c5⟩
    refine ⟨l, ⟨h, ⟨hi.1, hi.2, by omega⟩, ⟨ho.1, ho.2, by omega⟩, ⟨by omega, by omega⟩, ?_⟩⟩
    refine hsAll_mem.1 fun k hk => ?_
    rw [← heights_laid h] at hk
    have := c5 k hk
    omega
theorem rrTall_any (va : Value) (ns : List NodeV) {I : Hp} (hsa : Slc I 8 va (nds ns)) (hok : ∀ o ∈ ns, o.ok I) (hlow : LowN (ns.map NodeV.c)) (hn : ns.length ≤ 100000) : ∀ i : Nat, i < ns.length → Fun Tryz.prog 52 [va, .int .i64 (i : Nat)] I [] (fun v _ _ => v = .int .i64 ((tallZ (ns.map NodeV.c) (ns.length) (i : Int) : Nat) : Int)) := by
  intro i
  have hln := nds_len ns
  induction i using Nat.strongRecOn with
  | ind i ih =>
    intro hi
    obtain ⟨o, ho⟩ : ∃ o, ns[i]? = some o := ⟨ns[i]'hi, List.getElem?_eq_getElem hi⟩
    have hoc : (ns.map NodeV.c)[i]? = some o.c := by rw [List.getElem?_map, ho]; rfl
    have hom := List.mem_of_getElem? ho
    have hw1 : Ws I o.vn o.c.n := (hok o hom).1
    have hw2 : Ws I o.vd o.c.d := (hok o hom).2
    have hlo := hlow i o.c hoc
    obtain ⟨f, hf⟩ : ∃ f, ns.length = f + 1 := ⟨ns.length - 1, by omega⟩
    have htz : tallZ (ns.map NodeV.c) ns.length (i : Int) = if o.c.kind ≤ 1 then 1 else if o.c.kind ≤ 5 then 1 + max (tallZ (ns.map NodeV.c) f o.c.a) (tallZ (ns.map NodeV.c) f o.c.b) else 1 + tallZ (ns.map NodeV.c) f o.c.a := by
      rw [hf]
      conv => lhs; unfold tallZ
      rw [Int.toNat_natCast, hoc]
    have hta : 1 < o.c.kind → tallZ (ns.map NodeV.c) f o.c.a = tallZ (ns.map NodeV.c) ns.length o.c.a := fun hk => by
      obtain ⟨a1, a2, _⟩ := hlo hk
      have ea : o.c.a = (o.c.a.toNat : Int) := by omega
      rw [ea]
      exact tall_fuel hlow _ _ _ (by omega) (by omega)
    have htb : 1 < o.c.kind → o.c.kind ≤ 5 → tallZ (ns.map NodeV.c) f o.c.b = tallZ (ns.map NodeV.c) ns.length o.c.b := fun hk h5 => by
      obtain ⟨a1, a2, a3⟩ := hlo hk
      obtain ⟨b1, b2⟩ := a3 h5
      have eb : o.c.b = (o.c.b.toNat : Int) := by omega
      rw [eb]
      exact tall_fuel hlow _ _ _ (by omega) (by omega)
    have hca : 1 < o.c.kind → (Fun Tryz.prog 52 [va, .int .i64 o.c.a] I [] (fun v _ _ => v = .int .i64 ((tallZ (ns.map NodeV.c) (ns.length) o.c.a : Nat) : Int))) ∧ tallZ (ns.map NodeV.c) (ns.length) o.c.a ≤ 100000 := fun hk => by
      obtain ⟨a1, a2, _⟩ := hlo hk
      have ea : o.c.a = (o.c.a.toNat : Int) := by omega
      rw [ea]
      exact ⟨ih _ (by omega) (by omega), by have := tall_le hlow o.c.a.toNat ns.length (by omega); omega⟩
    have hcb : 1 < o.c.kind → o.c.kind ≤ 5 → (Fun Tryz.prog 52 [va, .int .i64 o.c.b] I [] (fun v _ _ => v = .int .i64 ((tallZ (ns.map NodeV.c) (ns.length) o.c.b : Nat) : Int))) ∧ tallZ (ns.map NodeV.c) (ns.length) o.c.b ≤ 100000 := fun hk h5 => by
      obtain ⟨a1, a2, a3⟩ := hlo hk
      obtain ⟨b1, b2⟩ := a3 h5
      have eb : o.c.b = (o.c.b.toNat : Int) := by omega
      rw [eb]
      exact ⟨ih _ (by omega) (by omega), by have := tall_le hlow o.c.b.toNat ns.length (by omega); omega⟩
    intro w hw
    refine enter2 _ Tryz.func52 rfl Tryz.ntmps52 rfl ?_ hw
    refine cS (cR ?_)
    refine oV ?_
    refine oN (tC (cS (cR ?_)))
    iterate 2 refine oV ?_
    refine o_elem trivial rfl Tryz.underlying25 Tryz.sizeOf44 rfl (hsa) rfl (by omega) ?_
    refine o_loadAI trivial rfl Tryz.isAgg44 Tryz.sizeOf44 rfl rfl (nds_at hsa ho) ?_
    refine o_alloc trivial rfl Tryz.zeroValue44 rfl (fun b5 => ?_)
    refine oS Tryz.sizeOf44 ?_
    refine oN (tC (cS (cB (cS (cR ?_)))))
    refine oF 0 Tryz.underlying44 Tryz.sizeOf3 ?_
    refine oL Tryz.isAgg3 ?_
    iterate 2 refine oV ?_
    refine oN (tC ?_)
    refine cC rfl (fun h1 => ?_) (fun h1 => ?_)
    ·
     have f1 := h1
     try simp only [bl] at f1
     refine cS (cR ?_)
     refine oV ?_
     refine oN (tC (cT (blk_r (tR ?_))))
     refine ret1 rfl rfl ?_
     refine leaf0 (congrArg (Value.int .i64) ?_); rw [htz, if_pos (by omega)]; rfl
    have f1 := h1
    try simp only [bl] at f1
    obtain ⟨ca, cal⟩ := hca (by omega)
    refine cS (cR ?_)
    refine oF 0 Tryz.underlying44 Tryz.sizeOf3 ?_
    refine oL Tryz.isAgg3 ?_
    iterate 2 refine oV ?_
    refine oN (tC ?_)
    refine cC rfl (fun h2 => ?_) (fun h2 => ?_)
    ·
     have f2 := h2
     try simp only [bl] at f2
     obtain ⟨cb, cbl⟩ := hcb (by omega) (by omega)
     refine cS ?_
     refine c_quiet (by kernel_rfl) (by kernel_rfl) (fun _ h => h.drawn) ?_
     refine oV ?_
     refine oF 1 Tryz.underlying44 Tryz.sizeOf3 ?_
     refine oL Tryz.isAgg3 ?_
     refine o_callQ trivial rfl Tryz.call52 rfl ca ?_
     refine oV ?_
     refine oF 2 Tryz.underlying44 Tryz.sizeOf3 ?_
     refine oL Tryz.isAgg3 ?_
     refine o_callQ trivial rfl Tryz.call52 rfl cb ?_
     refine o_max2 trivial rfl rfl rfl ?_
     first | (refine o_add trivial rfl rfl rfl ?_ ?_; (omega)) | refine oV ?_
     refine oV ?_
     refine oN (tC (cT (blk_r (tR ?_))))
     refine ret1 rfl rfl ?_
     refine leaf0 (congrArg (Value.int .i64) ?_); rw [htz, if_neg (by omega), if_pos (by omega), hta (by omega), htb (by omega) (by omega)]; omega
    have f2 := h2
    try simp only [bl] at f2
    refine cK (blk_n (tC (cS (cR ?_))))
    refine oV ?_
    refine oF 1 Tryz.underlying44 Tryz.sizeOf3 ?_
    refine oL Tryz.isAgg3 ?_
    refine o_callQ trivial rfl Tryz.call52 rfl ca ?_
    first | (refine o_add trivial rfl rfl rfl ?_ ?_; (omega)) | refine oV ?_
    refine oV ?_
    refine oN (tC (cT ?_))
    refine ret1 rfl rfl ?_
    refine leaf0 (congrArg (Value.int .i64) ?_); rw [htz, if_neg (by omega), if_neg (by omega), hta (by omega)]; omega
theorem rrHeights_any (vi vl vo va : Value) (p : ProgC) (ns : List NodeV) {I : Hp} (hp : ProgV I vi vl vo va p ns) (hlow : LowN p.all) (hn : ns.length ≤ 100000) :
    Fun Tryz.prog 20 [.agg #[vi, vl, vo, va]] I [] (fun v I' _ => Slc I' 1 v (nss (heightsZ p.all))) := by
  have hsi := hp.si
  have hsl := hp.sl
  have hso := hp.so
  have hsa := hp.sa
  have hla := nds_len ns
  have hal : p.all.length = ns.length := by rw [← hp.eq, List.length_map]
  rw [← hp.eq] at hlow
  have hhz := heightsZ_len p.all
  have hget : ∀ i, i < ns.length → (heightsZ p.all)[i]? = some (tallZ (ns.map NodeV.c) ns.length (i : Int)) := fun i hi => by
    unfold heightsZ
    rw [List.getElem?_map, List.getElem?_range (by omega), hp.eq, hal]; rfl
  intro w hw
  refine enter1 _ Tryz.func20 rfl Tryz.ntmps20 rfl ?_ hw
  refine cS (cR ?_)
  refine o_box trivial rfl rfl rfl (fun b1 => ?_)
  refine oV ?_
  refine oN (tC (cS (cR ?_)))
  refine oV ?_
  refine oN (tC (cS (cS (cR ?_))))
  refine oV ?_
  refine oN (tC (cB ?_))
  refine c_loop (ι := Nat × Value) [1] (.cons rfl .nil) (fun x => ns.length - x.1) (fun x E0 => (3, x.2) :: (4, .int .i64 (x.1 : Int)) :: E0) (fun x => St w [] I [.row x.2 3 1 x.1 (nvs ((heightsZ p.all).take x.1)), .box b1 (.cells #[vi, vl, vo, va] 27 (0, 0))]) (fun x => x.1 ≤ ns.length) ((0, .slice none 0 0)) (sC rfl (sC rfl (sC rfl sN))) (fun _ h => (h.nilRow _ _).sort (by repeat constructor)) (Nat.zero_le _) ?_
  rintro ⟨i, uo⟩ hi
  try dsimp only
  simp only at hi
  refine cS (cS (cR ?_))
  refine oV ?_
  refine oF 3 Tryz.underlying27 Tryz.sizeOf25 ?_
  refine oL Tryz.isAgg25 ?_
  refine o_lenSlc trivial rfl Tryz.underlying25 rfl (hsa) ?_
  refine oV ?_
  refine oN (tC ?_)
  refine cC rfl (fun h1 => ?_) (fun h1 => ?_)
  ·
   have f1 := h1
   try simp only [bl] at f1
   have hg := hget i (by omega)
   refine cK (tC (cS (cB (cR ?_))))
   refine oV ?_
   refine oF 3 Tryz.underlying27 Tryz.sizeOf25 ?_
   refine oL Tryz.isAgg25 ?_
   refine oV ?_
   refine o_callQ trivial rfl Tryz.call52 rfl (rrTall_any va ns hsa hp.ok hlow hn i (by omega)) ?_
   refine o_buildSl trivial rfl Tryz.underlying37 Tryz.sizeOf3 Tryz.zeroValue3 (by decide) (by decide) rfl (by repeat first | exact rfl | constructor) rfl (fun b17 => ?_)
   refine o_appendBox trivial rfl Tryz.underlying37 (elem3) (by decide) rfl rfl (fun v' => (by repeat constructor)) (by repeat constructor) rfl (by first | rfl | decide) (by first | omega | (unfold maxLen; omega)) (by omega) (fun v18 => ?_)
   refine oV ?_
   refine oN (blk_n (tC (cR ?_)))
   refine oV ?_
   first | (refine o_add trivial rfl rfl rfl ?_ ?_; (omega)) | refine oV ?_
   refine oV ?_
   refine oN ?_
   exact again (i + 1, v18) (sC rfl (sC rfl (sC rfl sN))) (fun _ h => by rw [List.take_add_one, hg, show nvs ((heightsZ p.all).take i ++ (some (tallZ (ns.map NodeV.c) ns.length (i : Int))).toList) = nvs ((heightsZ p.all).take i) ++ [.int .i64 ((tallZ (ns.map NodeV.c) ns.length (i : Int) : Nat) : Int)] by simp [nvs]]; exact h.sort (by repeat constructor)) (by show ns.length - (i + 1) < ns.length - i; omega) (by show i + 1 ≤ _; omega)
  have f1 := h1
  try simp only [bl] at f1
  refine c_exit (then_x (then_x (blk_eq rfl (tC (cS (cR ?_))))))
  iterate 2 refine oV ?_
  refine oN (tC (cT ?_))
  refine ret1 rfl rfl ?_
  have hin : i = ns.length := by omega
  subst hin
  exact fun w' hw' => leafRow (e := 3) (size := 1) (nn := ns.length) (u := uo) (xss := nss (heightsZ p.all)) (by rw [nss_len, hhz, hal]) (nss_one _) (by unfold maxLen; omega) (fun I' hl hs' => hs') w' (by rw [nss_flat]; rw [List.take_of_length_le (by omega)] at hw'; exact hw')
theorem rrLong_any (vi vl vo va : Value) (p : ProgC) (ns : List NodeV) {I : Hp} (hp : ProgV I vi vl vo va p ns) (hlow : LowN p.all) (hn : ns.length ≤ 100000) :
    Fun Tryz.prog 45 [.agg #[vi, vl, vo, va]] I [] (fun v _ _ => v = .bool (longZ p)) := by
  have hsi := hp.si
  have hsl := hp.sl
  have hso := hp.so
  have hsa := hp.sa
  have hli := scs_len p.ins
  have hlo := scs_len p.outs
  have hll : (p.lets.map LetC.cells).length = p.lets.length := List.length_map _
  have hla := nds_len ns
  have hal : p.all.length = ns.length := by rw [← hp.eq, List.length_map]
  have hhz := heightsZ_len p.all
  have hnl := nss_len (heightsZ p.all)
  intro w hw
  refine enter1 _ Tryz.func45 rfl Tryz.ntmps45 rfl ?_ hw
  refine cS (cR ?_)
  refine o_box trivial rfl rfl rfl (fun b1 => ?_)
  refine oV ?_
  refine oN (tC (cS (cS (cR ?_))))
  refine oF 3 Tryz.underlying27 Tryz.sizeOf25 ?_
  refine oL Tryz.isAgg25 ?_
  refine o_lenSlc trivial rfl Tryz.underlying25 rfl (hsa) ?_
  refine oV ?_
  refine' o_or trivial trivial rfl rfl rfl rfl rfl rfl rfl rfl (fun hb9 => ?_) ?_
  rotate_left
  ·
   have fb9 := hb9
   try simp only [bl] at fb9
   refine oX (T := 23) (off := 0) (wS rfl rfl hb9) rfl Tryz.underlying27 rfl rfl rfl Tryz.sizeOf23 rfl rfl ?_
   refine o_load1 (wS rfl rfl hb9) rfl Tryz.isAgg23 rfl (by repeat constructor) (by repeat constructor) ?_
   refine o_lenSlc (wS rfl rfl hb9) rfl Tryz.underlying23 rfl (hsi) ?_
   refine o_pv (wS rfl rfl hb9) rfl rfl ?_
   refine oN ?_
   exact joins rfl
  refine' o_or trivial trivial rfl rfl rfl rfl rfl rfl rfl rfl (fun hb15 => ?_) ?_
  rotate_left
  ·
   have fb15 := hb15
   try simp only [bl] at fb15
   refine oX (T := 24) (off := 1) (wS rfl rfl hb15) rfl Tryz.underlying27 rfl rfl rfl Tryz.sizeOf24 rfl rfl ?_
   refine o_load1 (wS rfl rfl hb15) rfl Tryz.isAgg24 rfl (by repeat constructor) (by repeat constructor) ?_
   refine o_lenSlc (wS rfl rfl hb15) rfl Tryz.underlying24 rfl (hsl) ?_
   refine o_pv (wS rfl rfl hb15) rfl rfl ?_
   refine oN ?_
   exact joins rfl
  refine' o_or trivial trivial rfl rfl rfl rfl rfl rfl rfl rfl (fun hb21 => ?_) ?_
  rotate_left
  ·
   have fb21 := hb21
   try simp only [bl] at fb21
   refine oX (T := 23) (off := 2) (wS rfl rfl hb21) rfl Tryz.underlying27 rfl rfl rfl Tryz.sizeOf23 rfl rfl ?_
   refine o_load1 (wS rfl rfl hb21) rfl Tryz.isAgg23 rfl (by repeat constructor) (by repeat constructor) ?_
   refine o_lenSlc (wS rfl rfl hb21) rfl Tryz.underlying23 rfl (hso) ?_
   refine o_pv (wS rfl rfl hb21) rfl rfl ?_
   refine oN ?_
   exact joins rfl
  refine oN (tC ?_)
  refine cC rfl (fun h1 => ?_) (fun h1 => ?_)
  ·
   have f1 := h1
   try simp only [bl] at f1
   refine cS (cR ?_)
   refine oV ?_
   refine oN (tC (cT (tR ?_)))
   refine ret1 rfl rfl ?_
   refine leaf0 (congrArg Value.bool ?_)
   unfold longZ
   simp at h1
   simp
   omega
  have f1 := h1
  try simp only [bl] at f1
  have hno : ¬ 400 < p.all.length ∧ ¬ 40 < p.ins.length ∧ ¬ 40 < p.lets.length ∧ ¬ 40 < p.outs.length := by
    simp at h1
    omega
  refine cK (tC (cS (cR ?_)))
  refine oA Tryz.isAgg27 Tryz.sizeOf27 ?_
  refine o_callI trivial rfl Tryz.call20 rfl (rrHeights_any vi vl vo va p ns hp hlow hn) ?_
  rintro v28 I2 hx2 hs2
  refine oV ?_
  refine oN (tC (cS (cS (cR ?_))))
  refine oV ?_
  refine oN (tC (cB ?_))
  refine c_loop (ι := Nat) [3] (.cons rfl .nil) (fun x => (heightsZ p.all).length - x) (fun x E0 => (4, .int .i64 (x : Int)) :: E0) (fun x => St w [] I2 [.box b1 (.cells #[vi, vl, vo, va] 27 (0, 0))]) (fun x => x ≤ (heightsZ p.all).length ∧ (heightsZ p.all).any (fun h => decide (60 < h)) = ((heightsZ p.all).drop x).any (fun h => decide (60 < h))) (0) (sC rfl (sC rfl sN)) (fun _ h => h) (⟨Nat.zero_le _, rfl⟩) ?_
  rintro i ⟨hi, hF⟩
  try dsimp only
  refine cS (cS (cR ?_))
  iterate 2 refine oV ?_
  refine o_lenSlc trivial rfl Tryz.underlying37 rfl (hs2) ?_
  refine oV ?_
  refine oN (tC ?_)
  refine cC rfl (fun h2 => ?_) (fun h2 => ?_)
  ·
   have f2 := h2
   try simp only [bl] at f2
   obtain ⟨k, hk⟩ : ∃ k, (heightsZ p.all)[i]? = some k := ⟨(heightsZ p.all)[i]'(by omega), List.getElem?_eq_getElem (by omega)⟩
   have hst : ((heightsZ p.all).drop i).any (fun h => decide (60 < h)) = (decide (60 < k) || ((heightsZ p.all).drop (i + 1)).any (fun h => decide (60 < h))) := by
     rw [List.drop_eq_getElem_cons (List.getElem?_eq_some_iff.1 hk).1, List.any_cons, (List.getElem?_eq_some_iff.1 hk).2]
   refine cK (tC (cS (cB (cS (cR ?_)))))
   iterate 2 refine oV ?_
   refine o_elem trivial rfl Tryz.underlying37 Tryz.sizeOf3 rfl (hs2) rfl (by omega) ?_
   refine o_load1I trivial rfl Tryz.isAgg3 rfl (nss_at hs2 hk) ?_
   refine oV ?_
   refine oN (tC ?_)
   refine cC rfl (fun h3 => ?_) (fun h3 => ?_)
   ·
    have f3 := h3
    try simp only [bl] at f3
    refine cS (cR ?_)
    refine oV ?_
    refine oN (tC (cT (blk_r (tR (tR (blk_r (tR ?_)))))))
    refine ret1 rfl rfl ?_
    refine leaf hx2 (List.nil_sublist _) (congrArg Value.bool ?_)
    unfold longZ
    rw [hF, hst, decide_eq_true (show 60 < k by omega)]
    simp
   have f3 := h3
   try simp only [bl] at f3
   refine cK (blk_n (tC (cR ?_)))
   refine oV ?_
   first | (refine o_add trivial rfl rfl rfl ?_ ?_; (omega)) | refine oV ?_
   refine oV ?_
   refine oN ?_
   exact again (i + 1) (sC rfl (sC rfl sN)) (fun _ h => h) (by show (heightsZ p.all).length - (i + 1) < (heightsZ p.all).length - i; omega) ⟨by show i + 1 ≤ _; omega, by rw [hF, hst, decide_eq_false (show ¬ 60 < k by omega)]; rfl⟩
  have f2 := h2
  try simp only [bl] at f2
  refine c_exit (then_x (then_x (blk_eq rfl (tC (cS (cR ?_))))))
  refine oV ?_
  refine oN (tC (cT ?_))
  refine ret1 rfl rfl ?_
  refine leaf hx2 (List.nil_sublist _) (congrArg Value.bool ?_)
  rw [List.drop_eq_nil_of_le (by omega)] at hF
  unfold longZ
  rw [hF]
  simp
  omega
end Go.Proofs.YtmgpifkekofacaaGreatDoor
namespace Go.Tw
open Go
theorem Few.pow {k : Nat} {q : Rat} (h : Few k q) (m : Nat) : Few (k * m + 1) (q ^ m) := by
  have key : ∀ a : Nat, a < 4294967296 ^ k → a ^ m < 4294967296 ^ (k * m + 1) := fun a ha => by
    have h2 : a ^ m ≤ (4294967296 ^ k) ^ m := Nat.pow_le_pow_left (Nat.le_of_lt ha) m
    rw [← Nat.pow_mul] at h2
    exact Nat.lt_of_le_of_lt h2 (Nat.pow_lt_pow_right (by decide) (Nat.lt_succ_self _))
  exact ⟨by rw [Rat.num_pow, Int.natAbs_pow]; exact key _ h.num, by rw [Rat.den_pow]; exact key _ h.den⟩
theorem RV.at_ {I : Hp} {v : Value} {rs : List RV} (h : Slc I 3 v (rcs rs)) {i : Nat} {r : RV} (hr : rs[i]? = some r) : ∀ k y, ([.bool (decide (r.q.num < 0)), r.vn, r.vd] : List Value)[k]? = some y → I.cell? ⟨slcB v, slcO v + i * 3 + k, none⟩ = some y :=
  h.cells i _ (by unfold rcs; rw [List.getElem?_map, hr]; rfl)
end Go.Tw
namespace Go.Proofs.YtmgpifkekofacaaGreatDoor
open Go Go.Tw
theorem rFew_any (vx : Value) (xs : List NV) (k : Int) {I : Hp} (h : PtV I vx xs) : Fun Tryz.prog 47 [vx, .int .i64 k] I [] (fun v _ _ => v = .bool (xs.all fun x => decide ((x.n.length : Int) ≤ k ∧ (x.d.length : Int) ≤ k))) := by
  have hl1 : (xs.map NV.cells).length = xs.length := List.length_map _
  have hs1 := h.s
  have hm1 := hs1.most
  unfold maxLen at hm1
  intro w hw
  refine enter2 _ Tryz.func47 rfl Tryz.ntmps47 rfl ?_ hw
  refine cS (cR ?_)
  refine oV ?_
  refine oN (tC (cS (cS (cR ?_))))
  refine oV ?_
  refine oN (tC (cB ?_))
  refine c_loop (ι := Nat) [0, 1] (.cons rfl (.cons rfl .nil)) (fun i => xs.length - i) (fun i E0 => (5, .int .i64 (i : Nat)) :: E0) (fun i => St w [] I []) (fun i => i ≤ xs.length ∧ ((xs.take i).all fun x => decide ((x.n.length : Int) ≤ k ∧ (x.d.length : Int) ≤ k)) = true) (0) (sC rfl (sC rfl (sC rfl sN))) (fun _ h => h) (⟨Nat.zero_le _, rfl⟩) ?_
  rintro i ⟨hi, he⟩
  try dsimp only
  refine cS (cS (cR ?_))
  iterate 2 refine oV ?_
  refine o_lenSlc trivial rfl Tryz.underlying76 rfl (hs1) ?_
  refine oV ?_
  refine oN (tC ?_)
  refine cC rfl (fun h1 => ?_) (fun h1 => ?_)
  ·
   have f1 := h1
   try simp only [bl] at f1
   have hi1 : i < xs.length := by omega
   obtain ⟨x, hx⟩ : ∃ x, xs[i]? = some x := ⟨xs[i], List.getElem?_eq_getElem hi1⟩
   obtain ⟨hxn, hxd⟩ := h.ok x (List.mem_of_getElem? hx)
   refine cK (tC (cS (cB (cS (cR ?_)))))
   iterate 2 refine oV ?_
   refine o_elem trivial rfl Tryz.underlying76 Tryz.sizeOf42 rfl (hs1) rfl (by omega) ?_
   refine oF 1 Tryz.underlying42 Tryz.sizeOf40 ?_
   refine o_load1I trivial rfl Tryz.isAgg40 rfl (NV.at_ h hx 1 _ rfl) ?_
   refine o_lenW trivial rfl Tryz.underlying40 rfl (hxn) ?_
   iterate 2 refine oV ?_
   refine' o_or trivial trivial rfl rfl rfl rfl rfl rfl rfl rfl (fun hb20 => ?_) ?_
   rotate_left
   ·
    have fb20 := hb20
    try simp only [bl] at fb20
    iterate 2 refine o_pv (wS rfl rfl hb20) rfl rfl ?_
    refine o_elem (wS rfl rfl hb20) rfl Tryz.underlying76 Tryz.sizeOf42 rfl (hs1) rfl (by omega) ?_
    refine oX (T := 40) (off := 2) (wS rfl rfl hb20) rfl Tryz.underlying42 rfl rfl rfl Tryz.sizeOf40 rfl rfl ?_
    refine o_load1I (wS rfl rfl hb20) rfl Tryz.isAgg40 rfl (NV.at_ h hx 2 _ rfl) ?_
    refine o_lenW (wS rfl rfl hb20) rfl Tryz.underlying40 rfl (hxd) ?_
    iterate 2 refine o_pv (wS rfl rfl hb20) rfl rfl ?_
    refine oN ?_
    exact joins rfl
   refine oN (tC ?_)
   refine cC rfl (fun h2 => ?_) (fun h2 => ?_)
   ·
    have f2 := h2
    try simp only [bl] at f2
    refine cS (cR ?_)
    refine oV ?_
    refine oN (tC (cT (blk_r (tR (tR (blk_r (tR ?_)))))))
    refine ret1 rfl rfl ?_
    refine leaf0 (congrArg Value.bool ?_)
    symm
    rw [List.all_eq_false]
    exact ⟨x, List.mem_of_getElem? hx, by simp; omega⟩
   have f2 := h2
   try simp only [bl] at f2
   refine cK (blk_n (tC (cR ?_)))
   refine oV ?_
   first | (refine o_add trivial rfl rfl rfl ?_ ?_; (omega)) | refine oV ?_
   refine oV ?_
   refine oN ?_
   exact again (i + 1) (sC rfl (sC rfl (sC rfl sN))) (fun _ h => h) (by show xs.length - (i + 1) < xs.length - i; omega) ⟨by show i + 1 ≤ _; omega, by rw [List.take_add_one, hx, List.all_append, he]; simp; omega⟩
  have f1 := h1
  try simp only [bl] at f1
  refine c_exit (then_x (then_x (blk_eq rfl (tC (cS (cR ?_))))))
  refine oV ?_
  refine oN (tC (cT ?_))
  refine ret1 rfl rfl ?_
  refine leaf0 (congrArg Value.bool ?_)
  rw [List.take_of_length_le (by omega)] at he
  exact he.symm
theorem begZ_rng {l : List NodeC} {fr : Int} : ∀ (f : Nat) (i : Int), fr - 1 ≤ begZ l fr f i ∧ begZ l fr f i ≤ max i (fr - 1) := by
  intro f
  induction f with
  | zero => intro i; simp only [begZ]; omega
  | succ f ih =>
    intro i
    unfold begZ
    split
    · omega
    · split
      · omega
      · rename_i n _
        split
        · omega
        · split
          · split
            · omega
            · have := ih n.a; omega
          · split
            · omega
            · split
              · omega
              · have := ih n.a; have := ih n.b; omega
theorem begZ_step {l : List NodeC} {fr i : Int} {f : Nat} {c : NodeC} (hi : ¬ i < fr) (hc : l[i.toNat]? = some c) : begZ l fr (f + 1) i = if c.kind = 0 ∨ c.kind = 1 then i else if c.kind = 6 ∨ c.kind = 7 then (if c.a ≠ i - 1 then fr - 1 else begZ l fr f c.a) else if c.b ≠ i - 1 then fr - 1 else if begZ l fr f c.b < fr ∨ c.a ≠ begZ l fr f c.b - 1 then fr - 1 else begZ l fr f c.a := by
  conv => lhs; unfold begZ
  rw [if_neg hi, hc]
theorem begZ_low {l : List NodeC} {fr i : Int} (f : Nat) (h : i < fr) : begZ l fr f i = fr - 1 := by
  cases f with
  | zero => rfl
  | succ f => unfold begZ; rw [if_pos h]
theorem nd_parts : ∀ (x : Ex) (b : Nat), x.ok → ∀ c ∈ x.nd b, (partsZ c).isSome = true := by
  intro x
  induction x with
  | ref t => intro b h c hc; rw [List.mem_singleton.1 hc, parts_ref h]; rfl
  | num q => intro b h c hc; rw [List.mem_singleton.1 hc, parts_num h]; rfl
  | neg x ih =>
    intro b h c hc
    rcases List.mem_append.1 hc with hc | hc
    · exact ih b h c hc
    · rw [List.mem_singleton.1 hc, parts_neg]; rfl
  | pow x e ih =>
    intro b h c hc
    rcases List.mem_append.1 hc with hc | hc
    · exact ih b h.1 c hc
    · rw [List.mem_singleton.1 hc, parts_pow h.2]; rfl
  | bin k x y ih1 ih2 =>
    intro b h c hc
    obtain ⟨h1, h2, h3, h4⟩ := h
    rcases List.mem_append.1 hc with hc | hc
    · rcases List.mem_append.1 hc with hc | hc
      · exact ih1 b h3 c hc
      · exact ih2 _ h4 c hc
    · rw [List.mem_singleton.1 hc, parts_bin ⟨h1, h2⟩]; rfl
theorem laid_parts : ∀ (l : List (ByteArray × Ex)) (b : Nat), LetsOk l → ∀ c ∈ (laid l b).2, (partsZ c).isSome = true
  | [], _, _, c, hc => by cases hc
  | (s, x) :: l, b, h, c, hc => by
    rcases List.mem_append.1 hc with hc | hc
    · exact nd_parts x b (h _ List.mem_cons_self).2 c hc
    · exact laid_parts l _ (fun a ha => h a (List.mem_cons_of_mem _ ha)) c hc
def bgGo (all : List NodeC) : List LetC → Int → Option Int
  | [], fr => some fr
  | l :: ls, fr => if nameZ l.name = true ∧ fr ≤ l.root ∧ l.root < all.length ∧ begZ all fr all.length l.root = fr then bgGo all ls (l.root + 1) else none
theorem bgGo_ex (all : List NodeC) : ∀ (l : List (ByteArray × Ex)) (b : Nat), LetsOk l → (∀ j c, (laid l b).2[j]? = some c → all[b + j]? = some c) → b + (laid l b).2.length ≤ all.length → bgGo all (laid l b).1 b = some ((b + (laid l b).2.length : Nat) : Int)
  | [], b, _, _, _ => by simp [bgGo, laid]
  | (s, x) :: l, b, h, hat, hle => by
    obtain ⟨h1, h2⟩ := h _ List.mem_cons_self
    have hn := x.n_pos
    have hln : (x.nd b ++ (laid l (b + x.n)).2).length = x.n + (laid l (b + x.n)).2.length := by rw [List.length_append, x.nd_len]
    change b + (x.nd b ++ (laid l (b + x.n)).2).length ≤ _ at hle
    have hA : At all b x := fun j c hj => hat j c (by
      show (x.nd b ++ (laid l (b + x.n)).2)[j]? = some c
      rw [List.getElem?_append_left (List.getElem?_eq_some_iff.1 hj).1]; exact hj)
    have hB := begZ_ex (fr := (b : Int)) (by omega) x b all.length h2 hA (Int.le_refl _) (by omega)
    show bgGo all (⟨s, (b : Int) + x.n - 1⟩ :: (laid l (b + x.n)).1) b = _
    unfold bgGo
    rw [if_pos ⟨h1, by dsimp only; omega, by dsimp only; omega, hB⟩]
    have e : ((b : Int) + x.n - 1 + 1) = ((b + x.n : Nat) : Int) := by omega
    dsimp only
    rw [e, bgGo_ex all l (b + x.n) (fun a ha => h a (List.mem_cons_of_mem _ ha)) (fun j c hj => by
      have := hat (x.n + j) c (by
        show (x.nd b ++ (laid l (b + x.n)).2)[x.n + j]? = some c
        rw [List.getElem?_append_right (by rw [x.nd_len]; omega), x.nd_len, Nat.add_sub_cancel_left]; exact hj)
      rw [Nat.add_assoc]; exact this) (by omega)]
    show some _ = some (((b + (x.nd b ++ (laid l (b + x.n)).2).length : Nat)) : Int)
    rw [hln]
    congr 2
    omega
theorem at_drop {all : List NodeC} {b : Nat} {x : Ex} (h : At all b x) (hb : b + x.n ≤ all.length) : all.drop b = x.nd b ++ all.drop (b + x.n) := by
  apply List.ext_getElem?
  intro j
  by_cases hj : j < x.n
  · rw [List.getElem?_append_left (by rw [x.nd_len]; exact hj), List.getElem?_drop]
    obtain ⟨c, hc⟩ : ∃ c, (x.nd b)[j]? = some c := ⟨_, List.getElem?_eq_getElem (by rw [x.nd_len]; exact hj)⟩
    rw [hc]
    exact h j c hc
  · rw [List.getElem?_append_right (by rw [x.nd_len]; omega), x.nd_len, List.getElem?_drop, List.getElem?_drop]
    congr 1
    omega
theorem bgGo_inv (all : List NodeC) (hok : ∀ c ∈ all, (partsZ c).isSome = true) : ∀ (ls : List LetC) (b : Nat), b ≤ all.length → bgGo all ls b = some (all.length : Int) → ∃ l : List (ByteArray × Ex), LetsOk l ∧ ls = (laid l b).1 ∧ all.drop b = (laid l b).2
  | [], b, hb, h => by
    unfold bgGo at h
    have : b = all.length := by have := Option.some.inj h; omega
    subst this
    exact ⟨[], fun a ha => (by cases ha), rfl, (by rw [List.drop_length]; rfl)⟩
  | l :: ls, b, hb, h => by
    unfold bgGo at h
    split at h
    · rename_i hc
      obtain ⟨c1, c2, c3, c4⟩ := hc
      obtain ⟨b', x, k1, k2, k3, k4⟩ := begZ_inv (fr := (b : Int)) (by omega) hok all.length l.root c3 (by rw [c4]; omega)
      have hbb : b' = b := by omega
      subst hbb
      have hxn := x.n_pos
      have e : l.root + 1 = ((b' + x.n : Nat) : Int) := by omega
      rw [e] at h
      obtain ⟨r, r1, r2, r3⟩ := bgGo_inv all hok ls (b' + x.n) (by omega) h
      refine ⟨(l.name, x) :: r, fun a ha => ?_, ?_, ?_⟩
      · rcases List.mem_cons.1 ha with rfl | ha
        · exact ⟨c1, k2⟩
        · exact r1 a ha
      · show l :: ls = ⟨l.name, (b' : Int) + x.n - 1⟩ :: (laid r (b' + x.n)).1
        rw [← r2]
        obtain ⟨ln, lr⟩ := l
        change (b' : Int) + x.n - 1 = lr at k4
        rw [k4]
      · rw [at_drop k3 (by omega), r3]; rfl
    · cases h
def rightZ (p : ProgC) : Bool := (namesOK p.ins && decide (1 ≤ p.ins.length) && decide (p.ins.length ≤ 40)) && (namesOK p.outs && decide (1 ≤ p.outs.length) && decide (p.outs.length ≤ 40)) && decide (p.lets.length ≤ 40) && decide (p.all.length ≤ 400) && p.all.all (fun c => (partsZ c).isSome) && (bgGo p.all p.lets 0 == some (p.all.length : Int)) && !longZ p
theorem right_shaped {p : ProgC} (h1 : p.all.all (fun c => (partsZ c).isSome) = true) (h2 : bgGo p.all p.lets 0 = some (p.all.length : Int)) : ∃ l, Shaped p l := by
  obtain ⟨l, k1, k2, k3⟩ := bgGo_inv p.all (fun c hc => List.all_eq_true.1 h1 c hc) p.lets 0 (Nat.zero_le _) h2
  exact ⟨l, k2, by rw [List.drop_zero] at k3; exact k3, k1⟩
theorem rightZ_eq (p : ProgC) : rightZ p = (tZ p).isSome := by
  rw [Bool.eq_iff_iff]
  constructor
  · intro h
    unfold rightZ at h
    simp only [Bool.and_eq_true, decide_eq_true_eq, beq_iff_eq] at h
    obtain ⟨⟨⟨⟨⟨⟨⟨⟨a1, a2⟩, a3⟩, ⟨b1, b2⟩, b3⟩, c1⟩, c2⟩, c3⟩, c4⟩, c5⟩ := h
    obtain ⟨l, hl⟩ := right_shaped c3 c4
    rw [long_right hl ⟨namesOK_iff.1 a1, a2⟩ ⟨namesOK_iff.1 b1, b2⟩]
    exact c5
  · intro h
    obtain ⟨l, hr⟩ := tZ_iff.1 h
    have hg := bgGo_ex p.all l 0 hr.ok (fun j c hj => by rw [hr.all, Nat.zero_add]; exact hj) (by rw [Nat.zero_add, ← hr.all]; exact Nat.le_refl _)
    have hlo := long_right hr.toShaped ⟨hr.ins.1, hr.ins.2.1⟩ ⟨hr.outs.1, hr.outs.2.1⟩
    rw [h] at hlo
    have hll : p.lets.length = l.length := by rw [hr.lets, laid_lets]
    unfold rightZ
    rw [← hlo, namesOK_iff.2 hr.ins.1, namesOK_iff.2 hr.outs.1]
    have hp : p.all.all (fun c => (partsZ c).isSome) = true := List.all_eq_true.2 fun c hc => laid_parts l 0 hr.ok c (by rw [← hr.all]; exact hc)
    rw [← hr.lets, ← hr.all] at hg
    have hg' : bgGo p.all p.lets 0 = some (p.all.length : Int) := by rw [show (0 : Int) = ((0 : Nat) : Int) from rfl, hg, Nat.zero_add]
    rw [hp, hg']
    have := hr.ins.2
    have := hr.outs.2
    have := hr.few
    simp
    omega
def fewP (p : ProgC) (most : Int) : Bool := decide ((p.all.length : Int) ≤ most ∧ p.ins.length ≤ 8 ∧ p.lets.length ≤ 8 ∧ p.outs.length ≤ 8) && p.all.all fun c => decide (c.n.length ≤ 6 ∧ c.d.length ≤ 6 ∧ c.name.size ≤ 60)
theorem PtV.lone {I : Hp} {b : Nat} {neg : Bool} {n d : List Nat} {vn vd : Value} {T : TypeId} {fz : Nat × Nat} (hb : I b = some (.cells ([.bool neg, vn, vd] ++ [] : List Value).toArray T fz)) (hn : Ws I vn n) (hd : Ws I vd d) : PtV I (.slice (some ⟨b, 0, none⟩) 1 1) [⟨neg, n, d, vn, vd⟩] :=
  ⟨Slc.of_box (xss := [[.bool neg, vn, vd]]) hb (fun c hc => by rw [List.mem_singleton.1 hc]; rfl) (by unfold maxLen; simp) (Nat.le_refl _), fun x hx => by rw [List.mem_singleton.1 hx]; exact ⟨hn, hd⟩⟩
theorem rrList_any (v : Value) (l : List ByteArray) (m : Int) {I : Hp} (h : Slc I 1 v (scs l)) : Fun Tryz.prog 48 [v, .int .i64 m] I [] (fun r _ _ => r = .bool (namesOK l && decide (m ≤ l.length) && decide (l.length ≤ 40))) := by
  have hl := scs_len l
  have hmx := h.most
  rw [hl] at hmx
  unfold maxLen at hmx
  intro w hw
  refine enter2 _ Tryz.func48 rfl Tryz.ntmps48 rfl ?_ hw
  refine cS (cR ?_)
  refine oV ?_
  refine oN (tC (cS (cS (cR ?_))))
  refine oV ?_
  refine o_lenSlc trivial rfl Tryz.underlying23 rfl (h) ?_
  iterate 2 refine oV ?_
  refine' o_or trivial trivial rfl rfl rfl rfl rfl rfl rfl rfl (fun hb11 => ?_) ?_
  rotate_left
  ·
   have fb11 := hb11
   try simp only [bl] at fb11
   refine o_pv (wS rfl rfl hb11) rfl rfl ?_
   refine o_lenSlc (wS rfl rfl hb11) rfl Tryz.underlying23 rfl (h) ?_
   refine o_pv (wS rfl rfl hb11) rfl rfl ?_
   refine oN ?_
   exact joins rfl
  refine oN (tC ?_)
  refine cC rfl (fun h1 => ?_) (fun h1 => ?_)
  ·
   have f1 := h1
   try simp only [bl] at f1
   refine cS (cR ?_)
   refine oV ?_
   refine oN (tC (cT (tR ?_)))
   refine ret1 rfl rfl ?_
   refine leaf0 (congrArg Value.bool ?_)
   simp at h1
   rw [Bool.eq_iff_iff]
   simp
   omega
  have f1 := h1
  try simp only [bl] at f1
  have hno : m ≤ l.length ∧ l.length ≤ 40 := by simp at h1; omega
  refine cK (tC (cS (cS (cR ?_))))
  refine oV ?_
  refine oN (tC (cB ?_))
  refine c_loop (ι := Nat) [0] (.cons rfl .nil) (fun x => l.length - x) (fun x E0 => (5, .int .i64 (x : Int)) :: E0) (fun x => St w [] I []) (fun x => x ≤ l.length ∧ l.all nameZ = (l.drop x).all nameZ) (0) (sC rfl (sC rfl sN)) (fun _ h => h) (⟨Nat.zero_le _, rfl⟩) ?_
  rintro i ⟨hi, hF⟩
  try dsimp only
  refine cS (cS (cR ?_))
  iterate 2 refine oV ?_
  refine o_lenSlc trivial rfl Tryz.underlying23 rfl (h) ?_
  refine oV ?_
  refine oN (tC ?_)
  refine cC rfl (fun h2 => ?_) (fun h2 => ?_)
  ·
   have f2 := h2
   try simp only [bl] at f2
   obtain ⟨s, hs⟩ : ∃ s, l[i]? = some s := ⟨l[i]'(by omega), List.getElem?_eq_getElem (by omega)⟩
   refine cK (tC (cS (cB (cS (cR ?_)))))
   iterate 2 refine oV ?_
   refine o_elem trivial rfl Tryz.underlying23 Tryz.sizeOf9 rfl (h) rfl (by omega) ?_
   refine o_load1I trivial rfl Tryz.isAgg9 rfl (scs_at h hs) ?_
   refine oP trivial rfl Tryz.call50 rfl (refName_all _) ?_
   refine oV ?_
   refine oN (tC (cS (cR ?_)))
   iterate 2 refine oV ?_
   refine oN (tC ?_)
   refine cC rfl (fun h3 => ?_) (fun h3 => ?_)
   ·
    have f3 := h3
    try simp only [bl] at f3
    refine cS (cR ?_)
    refine oV ?_
    refine oN (tC (cT (blk_r (tR (tR (blk_r (tR ?_)))))))
    refine ret1 rfl rfl ?_
    refine leaf0 (congrArg Value.bool ?_)
    unfold namesOK
    rw [hF, all_step hs, show nameZ s = false by simpa using h3]; rfl
   have f3 := h3
   try simp only [bl] at f3
   refine cK (blk_n (tC (cR ?_)))
   refine oV ?_
   first | (refine o_add trivial rfl rfl rfl ?_ ?_; (omega)) | refine oV ?_
   refine oV ?_
   refine oN ?_
   exact again (i + 1) (sC rfl (sC rfl sN)) (fun _ h => h) (by show l.length - (i + 1) < l.length - i; omega) ⟨by show i + 1 ≤ l.length; omega, by rw [hF, all_step hs, show nameZ s = true by simpa using h3]; rfl⟩
  have f2 := h2
  try simp only [bl] at f2
  have hin : i = l.length := by omega
  rw [hin, List.drop_length] at hF
  refine c_exit (then_x (then_x (blk_eq rfl (tC (cS (cR ?_))))))
  refine oV ?_
  refine oN (tC (cT ?_))
  refine ret1 rfl rfl ?_
  refine leaf0 (congrArg Value.bool ?_)
  unfold namesOK
  rw [hF]
  simp
  omega
theorem isSome_if {b : Bool} {k : Nat} : (if b = true then some k else none).isSome = b := by cases b <;> rfl
theorem rrFields_any (o : NodeV) {I : Hp} (ho : o.ok I) (hf : o.c.few 3000) : Fun Tryz.prog 49 [.agg o.cells.toArray] I [] (fun v _ _ => v = .bool (partsZ o.c).isSome) := by
  have ha := ho.1
  have hb := ho.2
  have hb1 := ha.cells1
  have hb2 := hb.cells1
  obtain ⟨⟨kind, a, b, e, name, neg, n, d⟩, vn, vd⟩ := o
  change Ws I vn n at ha
  change Ws I vd d at hb
  have hq := rEqual_any neg false vn vd (.slice none 0 0) (.slice none 0 0) n d [] [] ha hb (Ws.nil I) (Ws.nil I)
  have hz : (decide (neg = false) && decide (n = []) && decide (d = [])) = emptyZ neg n d := by
    unfold emptyZ
    cases neg <;> cases n <;> cases d <;> simp
  rw [hz] at hq
  have hda := digs_words ha.wds hf.1
  have hdb := digs_words hb.wds hf.2
  have hsa := decS_size (val n)
  have hsb := decS_size (val d)
  unfold NodeV.cells
  intro w hw
  refine enter1 _ Tryz.func49 rfl Tryz.ntmps49 rfl ?_ hw
  refine cS (cR ?_)
  refine o_box trivial rfl rfl rfl (fun b1 => ?_)
  refine oV ?_
  refine oN (tC (cS (cR ?_)))
  refine oF 5 Tryz.underlying44 Tryz.sizeOf42 ?_
  refine oA Tryz.isAgg42 Tryz.sizeOf42 ?_
  refine o_buildS trivial rfl (bld42) rfl .nil ?_
  refine o_callQ trivial rfl Tryz.call80 rfl hq ?_
  refine oV ?_
  refine oN (tC (cS (cB (cS (cR ?_)))))
  refine oF 0 Tryz.underlying44 Tryz.sizeOf3 ?_
  refine oL Tryz.isAgg3 ?_
  iterate 2 refine oV ?_
  refine oN (tC ?_)
  refine cC rfl (fun h1 => ?_) (fun h1 => ?_)
  ·
   have f1 := h1
   try simp only [bl] at f1
   refine cS (cR ?_)
   refine oF 4 Tryz.underlying44 Tryz.sizeOf9 ?_
   refine oL Tryz.isAgg9 ?_
   refine oP trivial rfl Tryz.call50 rfl (refName_all _) ?_
   refine oV ?_
   refine oN (tC (cS (cR ?_)))
   refine oV ?_
   refine' o_and trivial trivial rfl rfl rfl rfl rfl rfl rfl rfl (fun hb18 => ?_) ?_
   rotate_left
   ·
    refine o_pv (wS rfl rfl hb18) rfl rfl ?_
    refine oN ?_
    exact joins rfl
   refine' o_and trivial trivial rfl rfl rfl rfl rfl rfl rfl rfl (fun hb21 => ?_) ?_
   rotate_left
   ·
    have fb21 := hb21
    try simp only [bl] at fb21
    refine oX (T := 3) (off := 1) (wS rfl rfl hb21) rfl Tryz.underlying44 rfl rfl rfl Tryz.sizeOf3 rfl rfl ?_
    refine o_load1 (wS rfl rfl hb21) rfl Tryz.isAgg3 rfl (by repeat constructor) (by repeat constructor) ?_
    refine o_pv (wS rfl rfl hb21) rfl rfl ?_
    refine oN ?_
    exact joins rfl
   refine' o_and trivial trivial rfl rfl rfl rfl rfl rfl rfl rfl (fun hb26 => ?_) ?_
   rotate_left
   ·
    have fb26 := hb26
    try simp only [bl] at fb26
    refine oX (T := 3) (off := 2) (wS rfl rfl hb26) rfl Tryz.underlying44 rfl rfl rfl Tryz.sizeOf3 rfl rfl ?_
    refine o_load1 (wS rfl rfl hb26) rfl Tryz.isAgg3 rfl (by repeat constructor) (by repeat constructor) ?_
    refine o_pv (wS rfl rfl hb26) rfl rfl ?_
    refine oN ?_
    exact joins rfl
   refine' o_and trivial trivial rfl rfl rfl rfl rfl rfl rfl rfl (fun hb31 => ?_) ?_
   rotate_left
   ·
    have fb31 := hb31
    try simp only [bl] at fb31
    refine oX (T := 3) (off := 3) (wS rfl rfl hb31) rfl Tryz.underlying44 rfl rfl rfl Tryz.sizeOf3 rfl rfl ?_
    refine o_load1 (wS rfl rfl hb31) rfl Tryz.isAgg3 rfl (by repeat constructor) (by repeat constructor) ?_
    refine o_pv (wS rfl rfl hb31) rfl rfl ?_
    refine oN ?_
    exact joins rfl
   refine oV ?_
   refine oN (tC (cT (blk_r (tR ?_))))
   refine ret1 rfl rfl ?_
   first
   | (exfalso; omega)
   | (refine leaf0 (congrArg Value.bool ?_); rw [parts_kn (show kind < 0 ∨ 7 < kind by omega)]; rfl)
   | (refine leaf0 (congrArg Value.bool ?_); rw [parts_k0 (show kind = 0 by omega), isSome_if]; done)
   | (refine leaf0 (congrArg Value.bool ?_); rw [parts_k2 (show 2 ≤ kind ∧ kind ≤ 5 by omega), isSome_if, nil_beq]; done)
   | (refine leaf0 (congrArg Value.bool ?_); rw [parts_k6 (show kind = 6 by omega), isSome_if, nil_beq]; done)
   | (refine leaf0 (congrArg Value.bool ?_); rw [parts_k7 (show kind = 7 by omega), isSome_if, nil_beq]; done)
   | (refine leaf0 (congrArg Value.bool ?_); rw [parts_k1 (show kind = 1 by omega), isSome_if, ← nil_beq]; unfold constOK; dsimp only; symm; rw [Bool.eq_false_iff]; intro hh; simp only [Bool.and_eq_true, decide_eq_true_eq, beq_iff_eq, Bool.not_eq_true'] at hh; obtain ⟨⟨⟨⟨g1, ⟨⟨g2, g3⟩, g4⟩, g5⟩, g6⟩, g7⟩, g8⟩ := hh; rcases f3 with ((((f3 | f3) | f3) | f3) | f3) | f3 <;> simp_all <;> done)
   | (refine leaf0 (congrArg Value.bool ?_); rw [parts_k1 (show kind = 1 by omega), isSome_if, ← nil_beq]; unfold constOK; dsimp only; obtain ⟨⟨⟨⟨⟨g1, g2⟩, g3⟩, g4⟩, g5⟩, g6⟩ := f3; rw [g1, g2, g3, g4, g5, g6, hsa, hsb, Bool.eq_iff_iff]; simp; omega)
  have f1 := h1
  try simp only [bl] at f1
  refine cS (cR ?_)
  refine oF 0 Tryz.underlying44 Tryz.sizeOf3 ?_
  refine oL Tryz.isAgg3 ?_
  iterate 2 refine oV ?_
  refine oN (tC ?_)
  refine cC rfl (fun h2 => ?_) (fun h2 => ?_)
  ·
   have f2 := h2
   try simp only [bl] at f2
   refine cS (cR ?_)
   refine oF 5 Tryz.underlying44 Tryz.sizeOf42 ?_
   refine oA Tryz.isAgg42 Tryz.sizeOf42 ?_
   refine o_callQ trivial rfl Tryz.call81 rfl (rRight_any neg _ _ _ _ ha hb hf.1 hf.2) ?_
   refine oV ?_
   refine oN (tC (cS (cS (cR ?_))))
   iterate 2 refine oV ?_
   refine' o_or trivial trivial rfl rfl rfl rfl rfl rfl rfl rfl (fun hb45 => ?_) ?_
   rotate_left
   ·
    have fb45 := hb45
    try simp only [bl] at fb45
    refine oX (T := 42) (off := 5) (wS rfl rfl hb45) rfl Tryz.underlying44 rfl rfl rfl Tryz.sizeOf42 rfl rfl ?_
    refine oX (T := 4) (off := 0) (wS rfl rfl hb45) rfl Tryz.underlying42 rfl rfl rfl Tryz.sizeOf4 rfl rfl ?_
    refine o_load1 (wS rfl rfl hb45) rfl Tryz.isAgg4 rfl (by repeat constructor) (by repeat constructor) ?_
    refine oN ?_
    exact joins rfl
   refine' o_or trivial trivial rfl rfl rfl rfl rfl rfl rfl rfl (fun hb50 => ?_) ?_
   rotate_left
   ·
    have fb50 := hb50
    try simp only [bl] at fb50
    refine oX (T := 9) (off := 4) (wS rfl rfl hb50) rfl Tryz.underlying44 rfl rfl rfl Tryz.sizeOf9 rfl rfl ?_
    refine o_load1 (wS rfl rfl hb50) rfl Tryz.isAgg9 rfl (by repeat constructor) (by repeat constructor) ?_
    refine o_pv (wS rfl rfl hb50) rfl rfl ?_
    refine oN ?_
    exact joins rfl
   refine' o_or trivial trivial rfl rfl rfl rfl rfl rfl rfl rfl (fun hb55 => ?_) ?_
   rotate_left
   ·
    have fb55 := hb55
    try simp only [bl] at fb55
    refine oX (T := 3) (off := 1) (wS rfl rfl hb55) rfl Tryz.underlying44 rfl rfl rfl Tryz.sizeOf3 rfl rfl ?_
    refine o_load1 (wS rfl rfl hb55) rfl Tryz.isAgg3 rfl (by repeat constructor) (by repeat constructor) ?_
    refine o_pv (wS rfl rfl hb55) rfl rfl ?_
    refine oN ?_
    exact joins rfl
   refine' o_or trivial trivial rfl rfl rfl rfl rfl rfl rfl rfl (fun hb60 => ?_) ?_
   rotate_left
   ·
    have fb60 := hb60
    try simp only [bl] at fb60
    refine oX (T := 3) (off := 2) (wS rfl rfl hb60) rfl Tryz.underlying44 rfl rfl rfl Tryz.sizeOf3 rfl rfl ?_
    refine o_load1 (wS rfl rfl hb60) rfl Tryz.isAgg3 rfl (by repeat constructor) (by repeat constructor) ?_
    refine o_pv (wS rfl rfl hb60) rfl rfl ?_
    refine oN ?_
    exact joins rfl
   refine' o_or trivial trivial rfl rfl rfl rfl rfl rfl rfl rfl (fun hb65 => ?_) ?_
   rotate_left
   ·
    have fb65 := hb65
    try simp only [bl] at fb65
    refine oX (T := 3) (off := 3) (wS rfl rfl hb65) rfl Tryz.underlying44 rfl rfl rfl Tryz.sizeOf3 rfl rfl ?_
    refine o_load1 (wS rfl rfl hb65) rfl Tryz.isAgg3 rfl (by repeat constructor) (by repeat constructor) ?_
    refine o_pv (wS rfl rfl hb65) rfl rfl ?_
    refine oN ?_
    exact joins rfl
   refine oN (tC ?_)
   refine cC rfl (fun h3 => ?_) (fun h3 => ?_)
   ·
    have f3 := h3
    try simp only [bl] at f3
    refine cS (cR ?_)
    refine oV ?_
    refine oN (tC (cT (tR (blk_r (tR ?_)))))
    refine ret1 rfl rfl ?_
    first
    | (exfalso; omega)
    | (refine leaf0 (congrArg Value.bool ?_); rw [parts_kn (show kind < 0 ∨ 7 < kind by omega)]; rfl)
    | (refine leaf0 (congrArg Value.bool ?_); rw [parts_k0 (show kind = 0 by omega), isSome_if]; done)
    | (refine leaf0 (congrArg Value.bool ?_); rw [parts_k2 (show 2 ≤ kind ∧ kind ≤ 5 by omega), isSome_if, nil_beq]; done)
    | (refine leaf0 (congrArg Value.bool ?_); rw [parts_k6 (show kind = 6 by omega), isSome_if, nil_beq]; done)
    | (refine leaf0 (congrArg Value.bool ?_); rw [parts_k7 (show kind = 7 by omega), isSome_if, nil_beq]; done)
    | (refine leaf0 (congrArg Value.bool ?_); rw [parts_k1 (show kind = 1 by omega), isSome_if, ← nil_beq]; unfold constOK; dsimp only; symm; rw [Bool.eq_false_iff]; intro hh; simp only [Bool.and_eq_true, decide_eq_true_eq, beq_iff_eq, Bool.not_eq_true'] at hh; obtain ⟨⟨⟨⟨g1, ⟨⟨g2, g3⟩, g4⟩, g5⟩, g6⟩, g7⟩, g8⟩ := hh; rcases f3 with ((((f3 | f3) | f3) | f3) | f3) | f3 <;> simp_all <;> done)
    | (refine leaf0 (congrArg Value.bool ?_); rw [parts_k1 (show kind = 1 by omega), isSome_if, ← nil_beq]; unfold constOK; dsimp only; obtain ⟨⟨⟨⟨⟨g1, g2⟩, g3⟩, g4⟩, g5⟩, g6⟩ := f3; rw [g1, g2, g3, g4, g5, g6, hsa, hsb, Bool.eq_iff_iff]; simp; omega)
   have f3 := h3
   try simp only [bl] at f3
   refine cK (tC (cS (cR ?_)))
   refine oF 5 Tryz.underlying44 Tryz.sizeOf42 ?_
   refine oF 1 Tryz.underlying42 Tryz.sizeOf40 ?_
   refine oL Tryz.isAgg40 ?_
   refine o_callQ trivial rfl Tryz.call82 rfl (rPrint_any _ _ ha (by have := hf.1; dsimp only at this; omega)) ?_
   refine o_lenS trivial rfl Tryz.underlying9 rfl ?_
   refine oV ?_
   refine' o_and trivial trivial rfl rfl rfl rfl rfl rfl rfl rfl (fun hb76 => ?_) ?_
   rotate_left
   ·
    have fb76 := hb76
    try simp only [bl] at fb76
    refine oX (T := 42) (off := 5) (wS rfl rfl hb76) rfl Tryz.underlying44 rfl rfl rfl Tryz.sizeOf42 rfl rfl ?_
    refine oX (T := 40) (off := 2) (wS rfl rfl hb76) rfl Tryz.underlying42 rfl rfl rfl Tryz.sizeOf40 rfl rfl ?_
    refine o_load1 (wS rfl rfl hb76) rfl Tryz.isAgg40 rfl (by repeat constructor) (by repeat constructor) ?_
    refine o_callQ (wS rfl rfl hb76) rfl Tryz.call82 rfl (rPrint_any _ _ hb (by have := hf.2; dsimp only at this; omega)) ?_
    refine o_lenS (wS rfl rfl hb76) rfl Tryz.underlying9 rfl ?_
    refine o_pv (wS rfl rfl hb76) rfl rfl ?_
    refine oN ?_
    exact joins rfl
   refine oV ?_
   refine oN (tC (cT (blk_r (tR ?_))))
   refine ret1 rfl rfl ?_
   first
   | (exfalso; omega)
   | (refine leaf0 (congrArg Value.bool ?_); rw [parts_kn (show kind < 0 ∨ 7 < kind by omega)]; rfl)
   | (refine leaf0 (congrArg Value.bool ?_); rw [parts_k0 (show kind = 0 by omega), isSome_if]; done)
   | (refine leaf0 (congrArg Value.bool ?_); rw [parts_k2 (show 2 ≤ kind ∧ kind ≤ 5 by omega), isSome_if, nil_beq]; done)
   | (refine leaf0 (congrArg Value.bool ?_); rw [parts_k6 (show kind = 6 by omega), isSome_if, nil_beq]; done)
   | (refine leaf0 (congrArg Value.bool ?_); rw [parts_k7 (show kind = 7 by omega), isSome_if, nil_beq]; done)
   | (refine leaf0 (congrArg Value.bool ?_); rw [parts_k1 (show kind = 1 by omega), isSome_if, ← nil_beq]; unfold constOK; dsimp only; symm; rw [Bool.eq_false_iff]; intro hh; simp only [Bool.and_eq_true, decide_eq_true_eq, beq_iff_eq, Bool.not_eq_true'] at hh; obtain ⟨⟨⟨⟨g1, ⟨⟨g2, g3⟩, g4⟩, g5⟩, g6⟩, g7⟩, g8⟩ := hh; rcases f3 with ((((f3 | f3) | f3) | f3) | f3) | f3 <;> simp_all <;> done)
   | (refine leaf0 (congrArg Value.bool ?_); rw [parts_k1 (show kind = 1 by omega), isSome_if, ← nil_beq]; unfold constOK; dsimp only; obtain ⟨⟨⟨⟨⟨g1, g2⟩, g3⟩, g4⟩, g5⟩, g6⟩ := f3; rw [g1, g2, g3, g4, g5, g6, hsa, hsb, Bool.eq_iff_iff]; simp; omega)
  have f2 := h2
  try simp only [bl] at f2
  refine cS (cR ?_)
  refine oF 0 Tryz.underlying44 Tryz.sizeOf3 ?_
  refine oL Tryz.isAgg3 ?_
  refine oV ?_
  refine' o_and trivial trivial rfl rfl rfl rfl rfl rfl rfl rfl (fun hb88 => ?_) ?_
  rotate_left
  ·
   have fb88 := hb88
   try simp only [bl] at fb88
   refine oX (T := 3) (off := 0) (wS rfl rfl hb88) rfl Tryz.underlying44 rfl rfl rfl Tryz.sizeOf3 rfl rfl ?_
   refine o_load1 (wS rfl rfl hb88) rfl Tryz.isAgg3 rfl (by repeat constructor) (by repeat constructor) ?_
   refine o_pv (wS rfl rfl hb88) rfl rfl ?_
   refine oN ?_
   exact joins rfl
  refine oV ?_
  refine oN (tC ?_)
  refine cC rfl (fun h4 => ?_) (fun h4 => ?_)
  ·
   have f4 := h4
   try simp only [bl] at f4
   refine cS (cR ?_)
   refine oF 4 Tryz.underlying44 Tryz.sizeOf9 ?_
   refine oL Tryz.isAgg9 ?_
   refine oV ?_
   refine' o_and trivial trivial rfl rfl rfl rfl rfl rfl rfl rfl (fun hb96 => ?_) ?_
   rotate_left
   ·
    refine o_pv (wS rfl rfl hb96) rfl rfl ?_
    refine oN ?_
    exact joins rfl
   refine' o_and trivial trivial rfl rfl rfl rfl rfl rfl rfl rfl (fun hb99 => ?_) ?_
   rotate_left
   ·
    have fb99 := hb99
    try simp only [bl] at fb99
    refine oX (T := 3) (off := 3) (wS rfl rfl hb99) rfl Tryz.underlying44 rfl rfl rfl Tryz.sizeOf3 rfl rfl ?_
    refine o_load1 (wS rfl rfl hb99) rfl Tryz.isAgg3 rfl (by repeat constructor) (by repeat constructor) ?_
    refine o_pv (wS rfl rfl hb99) rfl rfl ?_
    refine oN ?_
    exact joins rfl
   refine oV ?_
   refine oN (tC (cT (blk_r (tR ?_))))
   refine ret1 rfl rfl ?_
   first
   | (exfalso; omega)
   | (refine leaf0 (congrArg Value.bool ?_); rw [parts_kn (show kind < 0 ∨ 7 < kind by omega)]; rfl)
   | (refine leaf0 (congrArg Value.bool ?_); rw [parts_k0 (show kind = 0 by omega), isSome_if]; done)
   | (refine leaf0 (congrArg Value.bool ?_); rw [parts_k2 (show 2 ≤ kind ∧ kind ≤ 5 by omega), isSome_if, nil_beq]; done)
   | (refine leaf0 (congrArg Value.bool ?_); rw [parts_k6 (show kind = 6 by omega), isSome_if, nil_beq]; done)
   | (refine leaf0 (congrArg Value.bool ?_); rw [parts_k7 (show kind = 7 by omega), isSome_if, nil_beq]; done)
   | (refine leaf0 (congrArg Value.bool ?_); rw [parts_k1 (show kind = 1 by omega), isSome_if, ← nil_beq]; unfold constOK; dsimp only; symm; rw [Bool.eq_false_iff]; intro hh; simp only [Bool.and_eq_true, decide_eq_true_eq, beq_iff_eq, Bool.not_eq_true'] at hh; obtain ⟨⟨⟨⟨g1, ⟨⟨g2, g3⟩, g4⟩, g5⟩, g6⟩, g7⟩, g8⟩ := hh; rcases f3 with ((((f3 | f3) | f3) | f3) | f3) | f3 <;> simp_all <;> done)
   | (refine leaf0 (congrArg Value.bool ?_); rw [parts_k1 (show kind = 1 by omega), isSome_if, ← nil_beq]; unfold constOK; dsimp only; obtain ⟨⟨⟨⟨⟨g1, g2⟩, g3⟩, g4⟩, g5⟩, g6⟩ := f3; rw [g1, g2, g3, g4, g5, g6, hsa, hsb, Bool.eq_iff_iff]; simp; omega)
  have f4 := h4
  try simp only [bl] at f4
  refine cS (cR ?_)
  refine oF 0 Tryz.underlying44 Tryz.sizeOf3 ?_
  refine oL Tryz.isAgg3 ?_
  iterate 2 refine oV ?_
  refine oN (tC ?_)
  refine cC rfl (fun h5 => ?_) (fun h5 => ?_)
  ·
   have f5 := h5
   try simp only [bl] at f5
   refine cS (cR ?_)
   refine oF 4 Tryz.underlying44 Tryz.sizeOf9 ?_
   refine oL Tryz.isAgg9 ?_
   refine oV ?_
   refine' o_and trivial trivial rfl rfl rfl rfl rfl rfl rfl rfl (fun hb111 => ?_) ?_
   rotate_left
   ·
    refine o_pv (wS rfl rfl hb111) rfl rfl ?_
    refine oN ?_
    exact joins rfl
   refine' o_and trivial trivial rfl rfl rfl rfl rfl rfl rfl rfl (fun hb114 => ?_) ?_
   rotate_left
   ·
    have fb114 := hb114
    try simp only [bl] at fb114
    refine oX (T := 3) (off := 2) (wS rfl rfl hb114) rfl Tryz.underlying44 rfl rfl rfl Tryz.sizeOf3 rfl rfl ?_
    refine o_load1 (wS rfl rfl hb114) rfl Tryz.isAgg3 rfl (by repeat constructor) (by repeat constructor) ?_
    refine o_pv (wS rfl rfl hb114) rfl rfl ?_
    refine oN ?_
    exact joins rfl
   refine' o_and trivial trivial rfl rfl rfl rfl rfl rfl rfl rfl (fun hb119 => ?_) ?_
   rotate_left
   ·
    have fb119 := hb119
    try simp only [bl] at fb119
    refine oX (T := 3) (off := 3) (wS rfl rfl hb119) rfl Tryz.underlying44 rfl rfl rfl Tryz.sizeOf3 rfl rfl ?_
    refine o_load1 (wS rfl rfl hb119) rfl Tryz.isAgg3 rfl (by repeat constructor) (by repeat constructor) ?_
    refine o_pv (wS rfl rfl hb119) rfl rfl ?_
    refine oN ?_
    exact joins rfl
   refine oV ?_
   refine oN (tC (cT (blk_r (tR ?_))))
   refine ret1 rfl rfl ?_
   first
   | (exfalso; omega)
   | (refine leaf0 (congrArg Value.bool ?_); rw [parts_kn (show kind < 0 ∨ 7 < kind by omega)]; rfl)
   | (refine leaf0 (congrArg Value.bool ?_); rw [parts_k0 (show kind = 0 by omega), isSome_if]; done)
   | (refine leaf0 (congrArg Value.bool ?_); rw [parts_k2 (show 2 ≤ kind ∧ kind ≤ 5 by omega), isSome_if, nil_beq]; done)
   | (refine leaf0 (congrArg Value.bool ?_); rw [parts_k6 (show kind = 6 by omega), isSome_if, nil_beq]; done)
   | (refine leaf0 (congrArg Value.bool ?_); rw [parts_k7 (show kind = 7 by omega), isSome_if, nil_beq]; done)
   | (refine leaf0 (congrArg Value.bool ?_); rw [parts_k1 (show kind = 1 by omega), isSome_if, ← nil_beq]; unfold constOK; dsimp only; symm; rw [Bool.eq_false_iff]; intro hh; simp only [Bool.and_eq_true, decide_eq_true_eq, beq_iff_eq, Bool.not_eq_true'] at hh; obtain ⟨⟨⟨⟨g1, ⟨⟨g2, g3⟩, g4⟩, g5⟩, g6⟩, g7⟩, g8⟩ := hh; rcases f3 with ((((f3 | f3) | f3) | f3) | f3) | f3 <;> simp_all <;> done)
   | (refine leaf0 (congrArg Value.bool ?_); rw [parts_k1 (show kind = 1 by omega), isSome_if, ← nil_beq]; unfold constOK; dsimp only; obtain ⟨⟨⟨⟨⟨g1, g2⟩, g3⟩, g4⟩, g5⟩, g6⟩ := f3; rw [g1, g2, g3, g4, g5, g6, hsa, hsb, Bool.eq_iff_iff]; simp; omega)
  have f5 := h5
  try simp only [bl] at f5
  refine cS (cR ?_)
  refine oF 0 Tryz.underlying44 Tryz.sizeOf3 ?_
  refine oL Tryz.isAgg3 ?_
  iterate 2 refine oV ?_
  refine oN (tC ?_)
  refine cC rfl (fun h6 => ?_) (fun h6 => ?_)
  ·
   have f6 := h6
   try simp only [bl] at f6
   refine cS (cR ?_)
   refine oF 4 Tryz.underlying44 Tryz.sizeOf9 ?_
   refine oL Tryz.isAgg9 ?_
   refine oV ?_
   refine' o_and trivial trivial rfl rfl rfl rfl rfl rfl rfl rfl (fun hb131 => ?_) ?_
   rotate_left
   ·
    refine o_pv (wS rfl rfl hb131) rfl rfl ?_
    refine oN ?_
    exact joins rfl
   refine' o_and trivial trivial rfl rfl rfl rfl rfl rfl rfl rfl (fun hb134 => ?_) ?_
   rotate_left
   ·
    have fb134 := hb134
    try simp only [bl] at fb134
    refine oX (T := 3) (off := 2) (wS rfl rfl hb134) rfl Tryz.underlying44 rfl rfl rfl Tryz.sizeOf3 rfl rfl ?_
    refine o_load1 (wS rfl rfl hb134) rfl Tryz.isAgg3 rfl (by repeat constructor) (by repeat constructor) ?_
    refine o_pv (wS rfl rfl hb134) rfl rfl ?_
    refine oN ?_
    exact joins rfl
   refine' o_and trivial trivial rfl rfl rfl rfl rfl rfl rfl rfl (fun hb139 => ?_) ?_
   rotate_left
   ·
    have fb139 := hb139
    try simp only [bl] at fb139
    refine oX (T := 3) (off := 3) (wS rfl rfl hb139) rfl Tryz.underlying44 rfl rfl rfl Tryz.sizeOf3 rfl rfl ?_
    refine o_load1 (wS rfl rfl hb139) rfl Tryz.isAgg3 rfl (by repeat constructor) (by repeat constructor) ?_
    refine o_pv (wS rfl rfl hb139) rfl rfl ?_
    refine oN ?_
    exact joins rfl
   refine' o_and trivial trivial rfl rfl rfl rfl rfl rfl rfl rfl (fun hb144 => ?_) ?_
   rotate_left
   ·
    have fb144 := hb144
    try simp only [bl] at fb144
    refine oX (T := 3) (off := 3) (wS rfl rfl hb144) rfl Tryz.underlying44 rfl rfl rfl Tryz.sizeOf3 rfl rfl ?_
    refine o_load1 (wS rfl rfl hb144) rfl Tryz.isAgg3 rfl (by repeat constructor) (by repeat constructor) ?_
    refine o_pv (wS rfl rfl hb144) rfl rfl ?_
    refine oN ?_
    exact joins rfl
   refine oV ?_
   refine oN (tC (cT (blk_r (tR ?_))))
   refine ret1 rfl rfl ?_
   first
   | (exfalso; omega)
   | (refine leaf0 (congrArg Value.bool ?_); rw [parts_kn (show kind < 0 ∨ 7 < kind by omega)]; rfl)
   | (refine leaf0 (congrArg Value.bool ?_); rw [parts_k0 (show kind = 0 by omega), isSome_if]; done)
   | (refine leaf0 (congrArg Value.bool ?_); rw [parts_k2 (show 2 ≤ kind ∧ kind ≤ 5 by omega), isSome_if, nil_beq]; done)
   | (refine leaf0 (congrArg Value.bool ?_); rw [parts_k6 (show kind = 6 by omega), isSome_if, nil_beq]; done)
   | (refine leaf0 (congrArg Value.bool ?_); rw [parts_k7 (show kind = 7 by omega), isSome_if, nil_beq]; done)
   | (refine leaf0 (congrArg Value.bool ?_); rw [parts_k1 (show kind = 1 by omega), isSome_if, ← nil_beq]; unfold constOK; dsimp only; symm; rw [Bool.eq_false_iff]; intro hh; simp only [Bool.and_eq_true, decide_eq_true_eq, beq_iff_eq, Bool.not_eq_true'] at hh; obtain ⟨⟨⟨⟨g1, ⟨⟨g2, g3⟩, g4⟩, g5⟩, g6⟩, g7⟩, g8⟩ := hh; rcases f3 with ((((f3 | f3) | f3) | f3) | f3) | f3 <;> simp_all <;> done)
   | (refine leaf0 (congrArg Value.bool ?_); rw [parts_k1 (show kind = 1 by omega), isSome_if, ← nil_beq]; unfold constOK; dsimp only; obtain ⟨⟨⟨⟨⟨g1, g2⟩, g3⟩, g4⟩, g5⟩, g6⟩ := f3; rw [g1, g2, g3, g4, g5, g6, hsa, hsb, Bool.eq_iff_iff]; simp; omega)
  have f6 := h6
  try simp only [bl] at f6
  refine cK (blk_n (tC (cS (cR ?_))))
  refine oV ?_
  refine oN (tC (cT ?_))
  refine ret1 rfl rfl ?_
  first
  | (exfalso; omega)
  | (refine leaf0 (congrArg Value.bool ?_); rw [parts_kn (show kind < 0 ∨ 7 < kind by omega)]; rfl)
  | (refine leaf0 (congrArg Value.bool ?_); rw [parts_k0 (show kind = 0 by omega), isSome_if]; done)
  | (refine leaf0 (congrArg Value.bool ?_); rw [parts_k2 (show 2 ≤ kind ∧ kind ≤ 5 by omega), isSome_if, nil_beq]; done)
  | (refine leaf0 (congrArg Value.bool ?_); rw [parts_k6 (show kind = 6 by omega), isSome_if, nil_beq]; done)
  | (refine leaf0 (congrArg Value.bool ?_); rw [parts_k7 (show kind = 7 by omega), isSome_if, nil_beq]; done)
  | (refine leaf0 (congrArg Value.bool ?_); rw [parts_k1 (show kind = 1 by omega), isSome_if, ← nil_beq]; unfold constOK; dsimp only; symm; rw [Bool.eq_false_iff]; intro hh; simp only [Bool.and_eq_true, decide_eq_true_eq, beq_iff_eq, Bool.not_eq_true'] at hh; obtain ⟨⟨⟨⟨g1, ⟨⟨g2, g3⟩, g4⟩, g5⟩, g6⟩, g7⟩, g8⟩ := hh; rcases f3 with ((((f3 | f3) | f3) | f3) | f3) | f3 <;> simp_all <;> done)
  | (refine leaf0 (congrArg Value.bool ?_); rw [parts_k1 (show kind = 1 by omega), isSome_if, ← nil_beq]; unfold constOK; dsimp only; obtain ⟨⟨⟨⟨⟨g1, g2⟩, g3⟩, g4⟩, g5⟩, g6⟩ := f3; rw [g1, g2, g3, g4, g5, g6, hsa, hsb, Bool.eq_iff_iff]; simp; omega)
theorem rrBegin_any (va : Value) (ns : List NodeV) (fr : Int) {I : Hp} (hsa : Slc I 8 va (nds ns)) (hok : ∀ o ∈ ns, o.ok I) (hpt : ∀ c ∈ ns.map NodeV.c, (partsZ c).isSome = true) (hfr : 0 ≤ fr ∧ fr ≤ 1000000) (hn : ns.length ≤ 100000) : ∀ (f : Nat) (i : Int), i < ns.length → i < fr + f → -1 ≤ i → Fun Tryz.prog 51 [va, .int .i64 fr, .int .i64 i] I [] (fun v _ _ => v = .int .i64 (begZ (ns.map NodeV.c) fr f i)) := by
  intro f
  have hln := nds_len ns
  induction f with
  | zero =>
    intro i hi hf h1
    have hz := begZ_low (l := ns.map NodeV.c) 0 (show i < fr by omega)
    intro w hw
    refine enter3 _ Tryz.func51 rfl Tryz.ntmps51 rfl ?_ hw
    refine cS (cR ?_)
    refine oV ?_
    refine oN (tC (cS (cS (cR ?_))))
    iterate 3 refine oV ?_
    refine oN (tC ?_)
    refine cC rfl (fun h1 => ?_) (fun h1 => ?_)
    ·
     have f1 := h1
     try simp only [bl] at f1
     refine cS (cR ?_)
     refine oV ?_
     first | (refine o_sub trivial rfl rfl rfl ?_ ?_; (omega)) | refine oV ?_
     refine oV ?_
     refine oN (tC (cT (tR ?_)))
     refine ret1 rfl rfl ?_
     refine leaf0 (congrArg (Value.int .i64) hz.symm)
    have f1 := h1
    try simp only [bl] at f1
    exfalso; omega
  | succ f ih =>
    intro i hi hf h1
    by_cases hlow : i < fr
    · have hz := begZ_low (l := ns.map NodeV.c) (f + 1) hlow
      intro w hw
      refine enter3 _ Tryz.func51 rfl Tryz.ntmps51 rfl ?_ hw
      refine cS (cR ?_)
      refine oV ?_
      refine oN (tC (cS (cS (cR ?_))))
      iterate 3 refine oV ?_
      refine oN (tC ?_)
      refine cC rfl (fun h1 => ?_) (fun h1 => ?_)
      ·
       have f1 := h1
       try simp only [bl] at f1
       refine cS (cR ?_)
       refine oV ?_
       first | (refine o_sub trivial rfl rfl rfl ?_ ?_; (omega)) | refine oV ?_
       refine oV ?_
       refine oN (tC (cT (tR ?_)))
       refine ret1 rfl rfl ?_
       refine leaf0 (congrArg (Value.int .i64) hz.symm)
      have f1 := h1
      try simp only [bl] at f1
      exfalso; omega
    · obtain ⟨k, rfl⟩ : ∃ k : Nat, i = k := ⟨i.toNat, by omega⟩
      obtain ⟨o, ho⟩ : ∃ o, ns[k]? = some o := ⟨ns[k]'(by omega), List.getElem?_eq_getElem (by omega)⟩
      have hoc : (ns.map NodeV.c)[((k : Nat) : Int).toNat]? = some o.c := by rw [Int.toNat_natCast, List.getElem?_map, ho]; rfl
      have hom := List.mem_of_getElem? ho
      have hw1 : Ws I o.vn o.c.n := (hok o hom).1
      have hw2 : Ws I o.vd o.c.d := (hok o hom).2
      have hz := begZ_step (f := f) hlow hoc
      have ra := begZ_rng (l := ns.map NodeV.c) (fr := fr) f o.c.a
      have rb := begZ_rng (l := ns.map NodeV.c) (fr := fr) f o.c.b
      have hkd : 0 ≤ o.c.kind ∧ o.c.kind ≤ 7 := by
        have := hpt o.c (List.mem_map_of_mem hom)
        rcases Decidable.em (o.c.kind < 0 ∨ 7 < o.c.kind) with h | h
        · rw [parts_kn h] at this; cases this
        · omega
      intro w hw
      refine enter3 _ Tryz.func51 rfl Tryz.ntmps51 rfl ?_ hw
      refine cS (cR ?_)
      refine oV ?_
      refine oN (tC (cS (cS (cR ?_))))
      iterate 3 refine oV ?_
      refine oN (tC ?_)
      refine cC rfl (fun h1 => ?_) (fun h1 => ?_)
      ·
       have f1 := h1
       try simp only [bl] at f1
       exfalso; omega
      have f1 := h1
      try simp only [bl] at f1
      refine cK (tC (cS (cR ?_)))
      iterate 2 refine oV ?_
      refine o_elem trivial rfl Tryz.underlying25 Tryz.sizeOf44 rfl (hsa) rfl (by omega) ?_
      refine o_loadAI trivial rfl Tryz.isAgg44 Tryz.sizeOf44 rfl rfl (nds_at hsa ho) ?_
      refine o_alloc trivial rfl Tryz.zeroValue44 rfl (fun b7 => ?_)
      refine oS Tryz.sizeOf44 ?_
      refine oN (tC (cS (cB (cS (cR ?_)))))
      refine oF 0 Tryz.underlying44 Tryz.sizeOf3 ?_
      refine oL Tryz.isAgg3 ?_
      refine oV ?_
      refine' o_or trivial trivial rfl rfl rfl rfl rfl rfl rfl rfl (fun hb22 => ?_) ?_
      rotate_left
      ·
       have fb22 := hb22
       try simp only [bl] at fb22
       refine oX (T := 3) (off := 0) (wS rfl rfl hb22) rfl Tryz.underlying44 rfl rfl rfl Tryz.sizeOf3 rfl rfl ?_
       refine o_load1 (wS rfl rfl hb22) rfl Tryz.isAgg3 rfl (by repeat constructor) (by repeat constructor) ?_
       refine o_pv (wS rfl rfl hb22) rfl rfl ?_
       refine oN ?_
       exact joins rfl
      refine oV ?_
      refine oN (tC ?_)
      refine cC rfl (fun h2 => ?_) (fun h2 => ?_)
      ·
       have f2 := h2
       try simp only [bl] at f2
       refine cS (cR ?_)
       iterate 2 refine oV ?_
       refine oN (tC (cT (blk_r (tR ?_))))
       refine ret1 rfl rfl ?_
       refine leaf0 (congrArg (Value.int .i64) ?_); rw [hz, if_pos (by omega)]
      have f2 := h2
      try simp only [bl] at f2
      refine cS (cR ?_)
      refine oF 0 Tryz.underlying44 Tryz.sizeOf3 ?_
      refine oL Tryz.isAgg3 ?_
      refine oV ?_
      refine' o_or trivial trivial rfl rfl rfl rfl rfl rfl rfl rfl (fun hb32 => ?_) ?_
      rotate_left
      ·
       have fb32 := hb32
       try simp only [bl] at fb32
       refine oX (T := 3) (off := 0) (wS rfl rfl hb32) rfl Tryz.underlying44 rfl rfl rfl Tryz.sizeOf3 rfl rfl ?_
       refine o_load1 (wS rfl rfl hb32) rfl Tryz.isAgg3 rfl (by repeat constructor) (by repeat constructor) ?_
       refine o_pv (wS rfl rfl hb32) rfl rfl ?_
       refine oN ?_
       exact joins rfl
      refine oV ?_
      refine oN (tC ?_)
      refine cC rfl (fun h3 => ?_) (fun h3 => ?_)
      ·
       have f3 := h3
       try simp only [bl] at f3
       refine cS (cS (cR ?_))
       refine oF 1 Tryz.underlying44 Tryz.sizeOf3 ?_
       refine oL Tryz.isAgg3 ?_
       refine oV ?_
       first | (refine o_sub trivial rfl rfl rfl ?_ ?_; (omega)) | refine oV ?_
       refine oV ?_
       refine oN (tC ?_)
       refine cC rfl (fun h4 => ?_) (fun h4 => ?_)
       ·
        have f4 := h4
        try simp only [bl] at f4
        refine cS (cR ?_)
        refine oV ?_
        first | (refine o_sub trivial rfl rfl rfl ?_ ?_; (omega)) | refine oV ?_
        refine oV ?_
        refine oN (tC (cT (tR (blk_r (tR ?_)))))
        refine ret1 rfl rfl ?_
        refine leaf0 (congrArg (Value.int .i64) ?_); rw [hz, if_neg (by omega), if_pos (by omega), if_pos (by omega)]
       have f4 := h4
       try simp only [bl] at f4
       refine cK (tC (cS (cR ?_)))
       iterate 2 refine oV ?_
       refine oF 1 Tryz.underlying44 Tryz.sizeOf3 ?_
       refine oL Tryz.isAgg3 ?_
       refine o_callQ trivial rfl Tryz.call51 rfl (ih o.c.a (by omega) (by omega) (by omega)) ?_
       refine oV ?_
       refine oN (tC (cT (blk_r (tR ?_))))
       refine ret1 rfl rfl ?_
       refine leaf0 (congrArg (Value.int .i64) ?_); rw [hz, if_neg (by omega), if_pos (by omega), if_neg (by omega)]
      have f3 := h3
      try simp only [bl] at f3
      refine cK (blk_n (tC (cS (cS (cR ?_)))))
      refine oF 2 Tryz.underlying44 Tryz.sizeOf3 ?_
      refine oL Tryz.isAgg3 ?_
      refine oV ?_
      first | (refine o_sub trivial rfl rfl rfl ?_ ?_; (omega)) | refine oV ?_
      refine oV ?_
      refine oN (tC ?_)
      refine cC rfl (fun h5 => ?_) (fun h5 => ?_)
      ·
       have f5 := h5
       try simp only [bl] at f5
       refine cS (cR ?_)
       refine oV ?_
       first | (refine o_sub trivial rfl rfl rfl ?_ ?_; (omega)) | refine oV ?_
       refine oV ?_
       refine oN (tC (cT (tR ?_)))
       refine ret1 rfl rfl ?_
       refine leaf0 (congrArg (Value.int .i64) ?_); rw [hz, if_neg (by omega), if_neg (by omega), if_pos (by omega)]
      have f5 := h5
      try simp only [bl] at f5
      refine cK (tC (cS (cR ?_)))
      iterate 2 refine oV ?_
      refine oF 2 Tryz.underlying44 Tryz.sizeOf3 ?_
      refine oL Tryz.isAgg3 ?_
      refine o_callQ trivial rfl Tryz.call51 rfl (ih o.c.b (by omega) (by omega) (by omega)) ?_
      refine oV ?_
      refine oN (tC (cS (cS (cR ?_))))
      iterate 3 refine oV ?_
      refine' o_or trivial trivial rfl rfl rfl rfl rfl rfl rfl rfl (fun hb64 => ?_) ?_
      rotate_left
      ·
       have fb64 := hb64
       try simp only [bl] at fb64
       refine oX (T := 3) (off := 1) (wS rfl rfl hb64) rfl Tryz.underlying44 rfl rfl rfl Tryz.sizeOf3 rfl rfl ?_
       refine o_load1 (wS rfl rfl hb64) rfl Tryz.isAgg3 rfl (by repeat constructor) (by repeat constructor) ?_
       refine o_pv (wS rfl rfl hb64) rfl rfl ?_
       first | (refine o_sub (wS rfl rfl hb64) rfl rfl rfl ?_ ?_; (omega)) | refine o_pv (wS rfl rfl hb64) rfl rfl ?_
       refine o_pv (wS rfl rfl hb64) rfl rfl ?_
       refine oN ?_
       exact joins rfl
      refine oN (tC ?_)
      refine cC rfl (fun h6 => ?_) (fun h6 => ?_)
      ·
       have f6 := h6
       try simp only [bl] at f6
       refine cS (cR ?_)
       refine oV ?_
       first | (refine o_sub trivial rfl rfl rfl ?_ ?_; (omega)) | refine oV ?_
       refine oV ?_
       refine oN (tC (cT (tR ?_)))
       refine ret1 rfl rfl ?_
       refine leaf0 (congrArg (Value.int .i64) ?_); rw [hz, if_neg (by omega), if_neg (by omega), if_neg (by omega), if_pos (by omega)]
      have f6 := h6
      try simp only [bl] at f6
      refine cK (tC (cS (cR ?_)))
      iterate 2 refine oV ?_
      refine oF 1 Tryz.underlying44 Tryz.sizeOf3 ?_
      refine oL Tryz.isAgg3 ?_
      refine o_callQ trivial rfl Tryz.call51 rfl (ih o.c.a (by omega) (by omega) (by omega)) ?_
      refine oV ?_
      refine oN (tC (cT ?_))
      refine ret1 rfl rfl ?_
      refine leaf0 (congrArg (Value.int .i64) ?_); rw [hz, if_neg (by omega), if_neg (by omega), if_neg (by omega), if_neg (by omega)]
def expoF : List Tok → Option Int × List Tok
  | [] => (none, [])
  | x :: r => if isT x 2 minusS then (match r with
      | [] => (none, [])
      | y :: r' => if y.kind = 1 then (match expoZ y.text with | some n => (some (-(n : Int)), r') | none => (none, y :: r')) else (none, y :: r'))
    else if x.kind = 1 then (match expoZ x.text with | some n => (some (n : Int), r) | none => (none, x :: r)) else (none, x :: r)
theorem Expo.fn {r r1 : List Tok} {e : Option Int} (h : Expo r e r1) : expoF r = (e, r1) := by
  cases h with
  | neg h1 h2 h3 => simp only [expoF, h1, if_true, h2, h3]
  | neg_end h1 => simp only [expoF, h1, if_true]
  | @neg_bad x y r h1 h2 =>
    simp only [expoF, h1, if_true]
    by_cases hk : y.kind = 1
    · rw [if_pos hk, h2 hk]
    · rw [if_neg hk]
  | pos h1 h2 h3 => simp [expoF, h1, h2, h3]
  | pos_end => rfl
  | @pos_bad y r h1 h2 =>
    simp only [expoF, h1]
    by_cases hk : y.kind = 1
    · rw [if_neg (by decide), if_pos hk, h2 hk]
    · rw [if_neg (by decide), if_neg hk]
def psF : Nat → Lv → List NodeC → List Tok → POut
  | 0, _, _, r => .bad r
  | f + 1, .atom, all, r => match r with
    | [] => .bad []
    | x :: r' => if isT x 2 lpar then (match psF f .sum all r' with
        | .bad r1 => .bad r1
        | .ok a1 r1 => if hdT r1 2 rpar then .ok a1 (r1.drop 1) else .bad r1)
      else if leafT x then .ok (all ++ [leafN x]) r' else .bad (x :: r')
  | f + 1, .powL, all, r => match r with
    | [] => .ok all []
    | x :: r' => if isT x 2 Go.Tw.caret then (match expoF r' with
        | (some e, r1) => .ok (all ++ [powN (lastI all) e]) r1
        | (none, r1) => .bad r1) else .ok all (x :: r')
  | f + 1, .power, all, r => match psF f .atom all r with
    | .bad r1 => .bad r1
    | .ok a1 r1 => psF f .powL a1 r1
  | f + 1, .factor, all, r => match r with
    | [] => psF f .power all []
    | x :: r' => if isT x 2 minusS then (match psF f .factor all r' with
        | .bad r1 => .bad r1
        | .ok a1 r1 => .ok (a1 ++ [negN (lastI a1)]) r1) else psF f .power all (x :: r')
  | f + 1, .prodL, all, r => match hdK mulK r with
    | none => .ok all r
    | some k => match psF f .factor all (r.drop 1) with
      | .bad r1 => .bad r1
      | .ok a1 r1 => psF f .prodL (a1 ++ [binN k (lastI all) (lastI a1)]) r1
  | f + 1, .product, all, r => match psF f .factor all r with
    | .bad r1 => .bad r1
    | .ok a1 r1 => psF f .prodL a1 r1
  | f + 1, .sumL, all, r => match hdK addK r with
    | none => .ok all r
    | some k => match psF f .product all (r.drop 1) with
      | .bad r1 => .bad r1
      | .ok a1 r1 => psF f .sumL (a1 ++ [binN k (lastI all) (lastI a1)]) r1
  | f + 1, .sum, all, r => match psF f .product all r with
    | .bad r1 => .bad r1
    | .ok a1 r1 => psF f .sumL a1 r1
def rkL : Lv → Nat
  | .atom => 1
  | .powL => 1
  | .power => 2
  | .factor => 3
  | .prodL => 1
  | .product => 4
  | .sumL => 1
  | .sum => 5
theorem ps_fn {lv : Lv} {all : List NodeC} {r : List Tok} {o : POut} (h : Ps lv all r o) : ∀ f, 8 * r.length + rkL lv ≤ f → psF f lv all r = o := by
  have len1 : ∀ {lv : Lv} {all a1 : List NodeC} {r r1 : List Tok}, Ps lv all r (.ok a1 r1) → r1.length + lv.need ≤ r.length := fun h => h.len
  induction h with
  | par_bad hx h ih =>
    intro f hf
    obtain ⟨f, rfl⟩ : ∃ g, f = g + 1 := ⟨f - 1, by simp only [rkL] at hf; omega⟩
    simp only [List.length_cons, rkL] at hf
    simp only [psF, hx, if_true]
    rw [ih f (by simp only [rkL]; omega)]
  | par_ok hx h hy ih =>
    intro f hf
    obtain ⟨f, rfl⟩ : ∃ g, f = g + 1 := ⟨f - 1, by simp only [rkL] at hf; omega⟩
    simp only [List.length_cons, rkL] at hf
    simp only [psF, hx, if_true]
    rw [ih f (by simp only [rkL]; omega)]
    simp only [hdT, hy, if_true, List.drop_one, List.tail_cons]
  | par_no hx h hy ih =>
    intro f hf
    obtain ⟨f, rfl⟩ : ∃ g, f = g + 1 := ⟨f - 1, by simp only [rkL] at hf; omega⟩
    simp only [List.length_cons, rkL] at hf
    simp only [psF, hx, if_true]
    rw [ih f (by simp only [rkL]; omega)]
    simp only [hy]
    rfl
  | @leaf all x r hl =>
    intro f hf
    obtain ⟨f, rfl⟩ : ∃ g, f = g + 1 := ⟨f - 1, by simp only [rkL] at hf; omega⟩
    have hp : isT x 2 lpar = false := by
      cases hb : isT x 2 lpar with
      | false => rfl
      | true => rw [leafT, (isT_iff.1 hb).1] at hl; exact absurd hl (by simp)
    simp [psF, hp, hl]
  | none =>
    intro f hf
    obtain ⟨f, rfl⟩ : ∃ g, f = g + 1 := ⟨f - 1, by simp only [rkL] at hf; omega⟩
    rfl
  | no h1 h2 =>
    intro f hf
    obtain ⟨f, rfl⟩ : ∃ g, f = g + 1 := ⟨f - 1, by simp only [rkL] at hf; omega⟩
    simp [psF, h1, h2]
  | @pow_none all r h1 =>
    intro f hf
    obtain ⟨f, rfl⟩ : ∃ g, f = g + 1 := ⟨f - 1, by simp only [rkL] at hf; omega⟩
    cases r with
    | nil => rfl
    | cons x r => simp only [hdT] at h1; simp [psF, h1]
  | pow_ok h1 h2 =>
    intro f hf
    obtain ⟨f, rfl⟩ : ∃ g, f = g + 1 := ⟨f - 1, by simp only [rkL] at hf; omega⟩
    simp [psF, h1, Expo.fn h2]
  | pow_bad h1 h2 =>
    intro f hf
    obtain ⟨f, rfl⟩ : ∃ g, f = g + 1 := ⟨f - 1, by simp only [rkL] at hf; omega⟩
    simp [psF, h1, Expo.fn h2]
  | power_bad h ih =>
    intro f hf
    obtain ⟨f, rfl⟩ : ∃ g, f = g + 1 := ⟨f - 1, by simp only [rkL] at hf; omega⟩
    simp only [psF]
    rw [ih f (by simp only [rkL] at hf ⊢; omega)]
  | power_ok h h2 ih ih2 =>
    intro f hf
    obtain ⟨f, rfl⟩ : ∃ g, f = g + 1 := ⟨f - 1, by simp only [rkL] at hf; omega⟩
    have hl := len1 h
    simp only [psF]
    rw [ih f (by simp only [rkL] at hf ⊢; omega)]
    exact ih2 f (by simp only [rkL, Lv.need] at hf hl ⊢; omega)
  | neg_bad hx h ih =>
    intro f hf
    obtain ⟨f, rfl⟩ : ∃ g, f = g + 1 := ⟨f - 1, by simp only [rkL] at hf; omega⟩
    simp only [List.length_cons, rkL] at hf
    simp only [psF, hx, if_true]
    rw [ih f (by simp only [rkL]; omega)]
  | neg_ok hx h ih =>
    intro f hf
    obtain ⟨f, rfl⟩ : ∃ g, f = g + 1 := ⟨f - 1, by simp only [rkL] at hf; omega⟩
    simp only [List.length_cons, rkL] at hf
    simp only [psF, hx, if_true]
    rw [ih f (by simp only [rkL]; omega)]
  | @fac all r o h1 h ih =>
    intro f hf
    obtain ⟨f, rfl⟩ : ∃ g, f = g + 1 := ⟨f - 1, by simp only [rkL] at hf; omega⟩
    have := ih f (by simp only [rkL] at hf ⊢; omega)
    cases r with
    | nil => exact this
    | cons x r =>
      simp only [hdT] at h1
      simp only [psF, h1]
      exact this
  | prodL_end h1 =>
    intro f hf
    obtain ⟨f, rfl⟩ : ∃ g, f = g + 1 := ⟨f - 1, by simp only [rkL] at hf; omega⟩
    simp only [psF, h1]
  | @prodL_bad all x r r1 k hk h ih =>
    intro f hf
    obtain ⟨f, rfl⟩ : ∃ g, f = g + 1 := ⟨f - 1, by simp only [rkL] at hf; omega⟩
    simp only [List.length_cons, rkL] at hf
    have hk' : hdK mulK (x :: r) = some k := hk
    simp only [psF, hk', List.drop_one, List.tail_cons]
    rw [ih f (by simp only [rkL]; omega)]
  | @prodL_ok all a1 x r r1 k o hk h h2 ih ih2 =>
    intro f hf
    obtain ⟨f, rfl⟩ : ∃ g, f = g + 1 := ⟨f - 1, by simp only [rkL] at hf; omega⟩
    simp only [List.length_cons, rkL] at hf
    have hl := len1 h
    have hk' : hdK mulK (x :: r) = some k := hk
    simp only [psF, hk', List.drop_one, List.tail_cons]
    rw [ih f (by simp only [rkL]; omega)]
    exact ih2 f (by simp only [rkL, Lv.need] at hl ⊢; omega)
  | product_bad h ih =>
    intro f hf
    obtain ⟨f, rfl⟩ : ∃ g, f = g + 1 := ⟨f - 1, by simp only [rkL] at hf; omega⟩
    simp only [psF]
    rw [ih f (by simp only [rkL] at hf ⊢; omega)]
  | product_ok h h2 ih ih2 =>
    intro f hf
    obtain ⟨f, rfl⟩ : ∃ g, f = g + 1 := ⟨f - 1, by simp only [rkL] at hf; omega⟩
    have hl := len1 h
    simp only [psF]
    rw [ih f (by simp only [rkL] at hf ⊢; omega)]
    exact ih2 f (by simp only [rkL, Lv.need] at hf hl ⊢; omega)
  | sumL_end h1 =>
    intro f hf
    obtain ⟨f, rfl⟩ : ∃ g, f = g + 1 := ⟨f - 1, by simp only [rkL] at hf; omega⟩
    simp only [psF, h1]
  | @sumL_bad all x r r1 k hk h ih =>
    intro f hf
    obtain ⟨f, rfl⟩ : ∃ g, f = g + 1 := ⟨f - 1, by simp only [rkL] at hf; omega⟩
    simp only [List.length_cons, rkL] at hf
    have hk' : hdK addK (x :: r) = some k := hk
    simp only [psF, hk', List.drop_one, List.tail_cons]
    rw [ih f (by simp only [rkL]; omega)]
  | @sumL_ok all a1 x r r1 k o hk h h2 ih ih2 =>
    intro f hf
    obtain ⟨f, rfl⟩ : ∃ g, f = g + 1 := ⟨f - 1, by simp only [rkL] at hf; omega⟩
    simp only [List.length_cons, rkL] at hf
    have hl := len1 h
    have hk' : hdK addK (x :: r) = some k := hk
    simp only [psF, hk', List.drop_one, List.tail_cons]
    rw [ih f (by simp only [rkL]; omega)]
    exact ih2 f (by simp only [rkL, Lv.need] at hl ⊢; omega)
  | sum_bad h ih =>
    intro f hf
    obtain ⟨f, rfl⟩ : ∃ g, f = g + 1 := ⟨f - 1, by simp only [rkL] at hf; omega⟩
    simp only [psF]
    rw [ih f (by simp only [rkL] at hf ⊢; omega)]
  | sum_ok h h2 ih ih2 =>
    intro f hf
    obtain ⟨f, rfl⟩ : ∃ g, f = g + 1 := ⟨f - 1, by simp only [rkL] at hf; omega⟩
    have hl := len1 h
    simp only [psF]
    rw [ih f (by simp only [rkL] at hf ⊢; omega)]
    exact ih2 f (by simp only [rkL, Lv.need] at hf hl ⊢; omega)
def lt1F (all : List NodeC) (r : List Tok) : LO := match r with
  | [] => .bad []
  | x :: r' => if nameT x then (if hdT r' 2 equalS then (match psF (8 * r'.length + 5) .sum all (r'.drop 1) with
      | .bad r1 => .bad r1
      | .ok a1 r1 => if hdT r1 2 semiS then .ok x.text a1 (r1.drop 1) else .bad r1) else .bad r') else .bad (x :: r')
theorem lt1_fn {all : List NodeC} {r : List Tok} {o : LO} (h : Lt1 all r o) : lt1F all r = o := by
  cases h with
  | noname h0 => cases r with
    | nil => rfl
    | cons x r => simp only [hdN] at h0; simp [lt1F, h0]
  | @noeq x r h0 h1 => simp only [lt1F, h0, if_true, h1]; rfl
  | @sumbad x y r r1 h0 h1 h2 =>
    have h1' : hdT (y :: r) 2 equalS = true := h1
    have := ps_fn h2 (8 * (y :: r).length + 5) (by simp only [rkL, List.length_cons]; omega)
    simp only [lt1F, h0, if_true, h1', List.drop_one, List.tail_cons, this]
  | @nosemi a1 x y r r1 h0 h1 h2 h3 =>
    have h1' : hdT (y :: r) 2 equalS = true := h1
    have := ps_fn h2 (8 * (y :: r).length + 5) (by simp only [rkL, List.length_cons]; omega)
    simp only [lt1F, h0, if_true, h1', List.drop_one, List.tail_cons, this, h3]
    rfl
  | @ok a1 x y z r r1 h0 h1 h2 h3 =>
    have h1' : hdT (y :: r) 2 equalS = true := h1
    have h3' : hdT (z :: r1) 2 semiS = true := h3
    have := ps_fn h2 (8 * (y :: r).length + 5) (by simp only [rkL, List.length_cons]; omega)
    simp only [lt1F, h0, if_true, h1', List.drop_one, List.tail_cons, this, h3']
def ltsF : Nat → List LetC → List NodeC → List Tok → LSO
  | 0, ls, all, r => .bad r
  | f + 1, ls, all, r => if hdT r 0 letS then (match lt1F all (r.drop 1) with
      | .bad r1 => .bad r1
      | .ok n a1 r1 => ltsF f (ls ++ [⟨n, lastI a1⟩]) a1 r1) else .ok ls all r
theorem lts_fn {ls : List LetC} {all : List NodeC} {r : List Tok} {o : LSO} (h : Lts ls all r o) : ∀ f, r.length < f → ltsF f ls all r = o := by
  induction h with
  | fin h0 =>
    intro f hf
    obtain ⟨f, rfl⟩ : ∃ g, f = g + 1 := ⟨f - 1, by omega⟩
    simp [ltsF, h0]
  | @bad ls all x r r1 h0 h1 =>
    intro f hf
    obtain ⟨f, rfl⟩ : ∃ g, f = g + 1 := ⟨f - 1, by omega⟩
    have h0' : hdT (x :: r) 0 letS = true := h0
    simp only [ltsF, h0', if_true, List.drop_one, List.tail_cons, lt1_fn h1]
  | @more ls all a1 x n r r1 o h0 h1 h2 ih =>
    intro f hf
    obtain ⟨f, rfl⟩ : ∃ g, f = g + 1 := ⟨f - 1, by omega⟩
    have hl := h1.len
    have h0' : hdT (x :: r) 0 letS = true := h0
    simp only [List.length_cons] at hf
    simp only [ltsF, h0', if_true, List.drop_one, List.tail_cons, lt1_fn h1, ih f (by omega)]
def prgF (r : List Tok) : PO :=
  if hdT r 0 inS then (match namesZ (r.drop 1) with
    | .bad r1 => .bad r1
    | .ok ins r1 => match ltsF (r1.length + 1) [] [] r1 with
      | .bad r2 => .bad r2
      | .ok ls all r2 => if hdT r2 0 outS then (match namesZ (r2.drop 1) with
          | .bad r3 => .bad r3
          | .ok outs [] => .ok ⟨ins, ls, outs, all⟩
          | .ok outs (z :: r3) => .bad (z :: r3)) else .bad r2) else .bad r
theorem prg_fn {r : List Tok} {o : PO} (h : Prg r o) : prgF r = o := by
  have h0' : ∀ {x : Tok} {r : List Tok} {k : Int} {t : ByteArray}, isT x k t = true → hdT (x :: r) k t = true := fun h => h
  cases h with
  | noin h0 => simp [prgF, h0]
  | insbad h0 h1 => simp [prgF, h0' h0, h1]
  | letsbad h0 h1 h2 => simp [prgF, h0' h0, h1, lts_fn h2 _ (Nat.lt_succ_self _)]
  | noout h0 h1 h2 h3 => simp [prgF, h0' h0, h1, lts_fn h2 _ (Nat.lt_succ_self _), h3]
  | outsbad h0 h1 h2 h3 h4 => simp [prgF, h0' h0, h1, lts_fn h2 _ (Nat.lt_succ_self _), h0' h3, h4]
  | tail h0 h1 h2 h3 h4 => simp [prgF, h0' h0, h1, lts_fn h2 _ (Nat.lt_succ_self _), h0' h3, h4]
  | ok h0 h1 h2 h3 h4 => simp [prgF, h0' h0, h1, lts_fn h2 _ (Nat.lt_succ_self _), h0' h3, h4]
theorem prgZ_fn (r : List Tok) : prgZ r = prgF r := (prg_fn (prgZ_is r)).symm
theorem prgZ_eq {r : List Tok} {o : PO} (h : Prg r o) : prgZ r = o := (prgZ_fn r).trans (prg_fn h)
theorem rrNodeEq_any (x y : NodeV) {I : Hp} (hx : x.ok I) (hy : y.ok I) (he : x.c = y.c) : Fun Tryz.prog 46 [.agg x.cells.toArray, .agg y.cells.toArray] I [] (fun v _ _ => v = .bool true) := by
  obtain ⟨⟨kind, a, b, e, name, neg, n, d⟩, vn, vd⟩ := x
  obtain ⟨c2, vn2, vd2⟩ := y
  change (⟨kind, a, b, e, name, neg, n, d⟩ : NodeC) = c2 at he
  subst he
  have ha : Ws I vn n := hx.1
  have hb : Ws I vd d := hx.2
  have hc : Ws I vn2 n := hy.1
  have hd : Ws I vd2 d := hy.2
  unfold NodeV.cells
  intro w hw
  refine enter2 _ Tryz.func46 rfl Tryz.ntmps46 rfl ?_ hw
  refine cS (cR ?_)
  refine o_box trivial rfl rfl rfl (fun b2 => ?_)
  refine o_box trivial rfl rfl rfl (fun b3 => ?_)
  refine oV ?_
  refine oN (tC (cS (cR ?_)))
  refine oF 0 Tryz.underlying44 Tryz.sizeOf3 ?_
  refine oL Tryz.isAgg3 ?_
  refine oF 0 Tryz.underlying44 Tryz.sizeOf3 ?_
  refine oL Tryz.isAgg3 ?_
  refine oV ?_
  refine' o_and trivial trivial rfl rfl rfl rfl rfl rfl rfl rfl (fun hb10 => ?_) ?_
  rotate_left
  ·
   have fb10 := hb10
   try simp only [bl] at fb10
   refine oX (T := 3) (off := 1) (wS rfl rfl hb10) rfl Tryz.underlying44 rfl rfl rfl Tryz.sizeOf3 rfl rfl ?_
   refine o_load1 (wS rfl rfl hb10) rfl Tryz.isAgg3 rfl (by repeat constructor) (by repeat constructor) ?_
   refine oX (T := 3) (off := 1) (wS rfl rfl hb10) rfl Tryz.underlying44 rfl rfl rfl Tryz.sizeOf3 rfl rfl ?_
   refine o_load1 (wS rfl rfl hb10) rfl Tryz.isAgg3 rfl (by repeat constructor) (by repeat constructor) ?_
   refine o_pv (wS rfl rfl hb10) rfl rfl ?_
   refine oN ?_
   exact joins rfl
  refine' o_and trivial trivial rfl rfl rfl rfl rfl rfl rfl rfl (fun hb17 => ?_) ?_
  rotate_left
  ·
   have fb17 := hb17
   try simp only [bl] at fb17
   refine oX (T := 3) (off := 2) (wS rfl rfl hb17) rfl Tryz.underlying44 rfl rfl rfl Tryz.sizeOf3 rfl rfl ?_
   refine o_load1 (wS rfl rfl hb17) rfl Tryz.isAgg3 rfl (by repeat constructor) (by repeat constructor) ?_
   refine oX (T := 3) (off := 2) (wS rfl rfl hb17) rfl Tryz.underlying44 rfl rfl rfl Tryz.sizeOf3 rfl rfl ?_
   refine o_load1 (wS rfl rfl hb17) rfl Tryz.isAgg3 rfl (by repeat constructor) (by repeat constructor) ?_
   refine o_pv (wS rfl rfl hb17) rfl rfl ?_
   refine oN ?_
   exact joins rfl
  refine' o_and trivial trivial rfl rfl rfl rfl rfl rfl rfl rfl (fun hb24 => ?_) ?_
  rotate_left
  ·
   have fb24 := hb24
   try simp only [bl] at fb24
   refine oX (T := 3) (off := 3) (wS rfl rfl hb24) rfl Tryz.underlying44 rfl rfl rfl Tryz.sizeOf3 rfl rfl ?_
   refine o_load1 (wS rfl rfl hb24) rfl Tryz.isAgg3 rfl (by repeat constructor) (by repeat constructor) ?_
   refine oX (T := 3) (off := 3) (wS rfl rfl hb24) rfl Tryz.underlying44 rfl rfl rfl Tryz.sizeOf3 rfl rfl ?_
   refine o_load1 (wS rfl rfl hb24) rfl Tryz.isAgg3 rfl (by repeat constructor) (by repeat constructor) ?_
   refine o_pv (wS rfl rfl hb24) rfl rfl ?_
   refine oN ?_
   exact joins rfl
  refine' o_and trivial trivial rfl rfl rfl rfl rfl rfl rfl rfl (fun hb31 => ?_) ?_
  rotate_left
  ·
   have fb31 := hb31
   try simp only [bl] at fb31
   refine oX (T := 9) (off := 4) (wS rfl rfl hb31) rfl Tryz.underlying44 rfl rfl rfl Tryz.sizeOf9 rfl rfl ?_
   refine o_load1 (wS rfl rfl hb31) rfl Tryz.isAgg9 rfl (by repeat constructor) (by repeat constructor) ?_
   refine oX (T := 9) (off := 4) (wS rfl rfl hb31) rfl Tryz.underlying44 rfl rfl rfl Tryz.sizeOf9 rfl rfl ?_
   refine o_load1 (wS rfl rfl hb31) rfl Tryz.isAgg9 rfl (by repeat constructor) (by repeat constructor) ?_
   refine o_pv (wS rfl rfl hb31) rfl rfl ?_
   refine oN ?_
   exact joins rfl
  refine' o_and trivial trivial rfl rfl rfl rfl rfl rfl rfl rfl (fun hb38 => ?_) ?_
  rotate_left
  ·
   have fb38 := hb38
   try simp only [bl] at fb38
   refine oX (T := 42) (off := 5) (wS rfl rfl hb38) rfl Tryz.underlying44 rfl rfl rfl Tryz.sizeOf42 rfl rfl ?_
   refine o_loadA (wS rfl rfl hb38) rfl Tryz.isAgg42 Tryz.sizeOf42 rfl (by repeat constructor) (by repeat constructor) ?_
   refine oX (T := 42) (off := 5) (wS rfl rfl hb38) rfl Tryz.underlying44 rfl rfl rfl Tryz.sizeOf42 rfl rfl ?_
   refine o_loadA (wS rfl rfl hb38) rfl Tryz.isAgg42 Tryz.sizeOf42 rfl (by repeat constructor) (by repeat constructor) ?_
   refine o_callQ (wS rfl rfl hb38) rfl Tryz.call80 rfl (rEqual_any neg neg vn vd vn2 vd2 n d n d ha hb hc hd) ?_
   refine oN ?_
   exact joins rfl
  refine oV ?_
  refine oN (tC (cT ?_))
  refine ret1 rfl rfl ?_
  refine leaf0 (congrArg Value.bool ?_)
  simp
theorem rrNamesEq_any (va vb : Value) (l : List ByteArray) {I : Hp} (ha : Slc I 1 va (scs l)) (hb : Slc I 1 vb (scs l)) : Fun Tryz.prog 35 [va, vb] I [] (fun v _ _ => v = .bool true) := by
  have hl := scs_len l
  have hmx := ha.most
  rw [hl] at hmx
  unfold maxLen at hmx
  intro w hw
  refine enter2 _ Tryz.func35 rfl Tryz.ntmps35 rfl ?_ hw
  refine cS (cR ?_)
  refine oV ?_
  refine oN (tC (cS (cS (cR ?_))))
  refine oV ?_
  refine o_lenSlc trivial rfl Tryz.underlying23 rfl (ha) ?_
  refine oV ?_
  refine o_lenSlc trivial rfl Tryz.underlying23 rfl (hb) ?_
  refine oV ?_
  refine oN (tC ?_)
  refine cC rfl (fun h1 => ?_) (fun h1 => ?_)
  ·
   have f1 := h1
   try simp only [bl] at f1
   exfalso; simp at h1
  have f1 := h1
  try simp only [bl] at f1
  refine cK (tC (cS (cS (cR ?_))))
  refine oV ?_
  refine oN (tC (cB ?_))
  refine c_loop (ι := Nat) [0, 1] (.cons rfl (.cons rfl .nil)) (fun x => l.length - x) (fun x E0 => (5, .int .i64 (x : Int)) :: E0) (fun x => St w [] I []) (fun x => x ≤ l.length) (0) (sC rfl (sC rfl (sC rfl sN))) (fun _ h => h) (Nat.zero_le _) ?_
  rintro i hi
  try dsimp only
  refine cS (cS (cR ?_))
  iterate 2 refine oV ?_
  refine o_lenSlc trivial rfl Tryz.underlying23 rfl (ha) ?_
  refine oV ?_
  refine oN (tC ?_)
  refine cC rfl (fun h2 => ?_) (fun h2 => ?_)
  ·
   have f2 := h2
   try simp only [bl] at f2
   obtain ⟨s, hs⟩ : ∃ s, l[i]? = some s := ⟨l[i]'(by omega), List.getElem?_eq_getElem (by omega)⟩
   refine cK (tC (cS (cB (cS ?_))))
   refine c_quiet (by kernel_rfl) (by kernel_rfl) (fun _ h => h.drawn) ?_
   iterate 2 refine oV ?_
   refine o_elem trivial rfl Tryz.underlying23 Tryz.sizeOf9 rfl (ha) rfl (by omega) ?_
   refine o_load1I trivial rfl Tryz.isAgg9 rfl (scs_at ha hs) ?_
   iterate 2 refine oV ?_
   refine o_elem trivial rfl Tryz.underlying23 Tryz.sizeOf9 rfl (hb) rfl (by omega) ?_
   refine o_load1I trivial rfl Tryz.isAgg9 rfl (scs_at hb hs) ?_
   refine oV ?_
   refine oN (tC ?_)
   refine cC rfl (fun h3 => ?_) (fun h3 => ?_)
   ·
    have f3 := h3
    try simp only [bl] at f3
    exfalso; simp at h3
   have f3 := h3
   try simp only [bl] at f3
   refine cK (blk_n (tC (cR ?_)))
   refine oV ?_
   first | (refine o_add trivial rfl rfl rfl ?_ ?_; (omega)) | refine oV ?_
   refine oV ?_
   refine oN ?_
   exact again (i + 1) (sC rfl (sC rfl (sC rfl sN))) (fun _ h => h) (by show l.length - (i + 1) < l.length - i; omega) (by show i + 1 ≤ _; omega)
  have f2 := h2
  try simp only [bl] at f2
  refine c_exit (then_x (then_x (blk_eq rfl (tC (cS (cR ?_))))))
  refine oV ?_
  refine oN (tC (cT ?_))
  refine ret1 rfl rfl ?_
  exact leaf0 rfl
theorem rrSame_any (vi vl vo va ui ul uo ua : Value) (p : ProgC) (ns ms : List NodeV) {I : Hp} (hp : ProgV I vi vl vo va p ns) (hq : ProgV I ui ul uo ua p ms) :
    Fun Tryz.prog 17 [.agg #[vi, vl, vo, va], .agg #[ui, ul, uo, ua]] I [] (fun v _ _ => v = .bool true) := by
  have hsi := hp.si
  have hsl := hp.sl
  have hso := hp.so
  have hsa := hp.sa
  have gsi := hq.si
  have gsl := hq.sl
  have gso := hq.so
  have gsa := hq.sa
  have hll : (p.lets.map LetC.cells).length = p.lets.length := List.length_map _
  have hla := nds_len ns
  have gla := nds_len ms
  have hal : p.all.length = ns.length := by rw [← hp.eq, List.length_map]
  have gal : p.all.length = ms.length := by rw [← hq.eq, List.length_map]
  have hmx := hsl.most
  rw [hll] at hmx
  unfold maxLen at hmx
  have hmy := hsa.most
  rw [hla] at hmy
  unfold maxLen at hmy
  intro w hw
  refine enter2 _ Tryz.func17 rfl Tryz.ntmps17 rfl ?_ hw
  refine cS (cR ?_)
  refine o_box trivial rfl rfl rfl (fun b2 => ?_)
  refine o_box trivial rfl rfl rfl (fun b3 => ?_)
  refine oV ?_
  refine oN (tC (cS (cS (cR ?_))))
  refine oF 1 Tryz.underlying27 Tryz.sizeOf24 ?_
  refine oL Tryz.isAgg24 ?_
  refine o_lenSlc trivial rfl Tryz.underlying24 rfl (hsl) ?_
  refine oF 1 Tryz.underlying27 Tryz.sizeOf24 ?_
  refine oL Tryz.isAgg24 ?_
  refine o_lenSlc trivial rfl Tryz.underlying24 rfl (gsl) ?_
  refine oV ?_
  refine' o_or trivial trivial rfl rfl rfl rfl rfl rfl rfl rfl (fun hb15 => ?_) ?_
  rotate_left
  ·
   have fb15 := hb15
   try simp only [bl] at fb15
   refine oX (T := 25) (off := 3) (wS rfl rfl hb15) rfl Tryz.underlying27 rfl rfl rfl Tryz.sizeOf25 rfl rfl ?_
   refine o_load1 (wS rfl rfl hb15) rfl Tryz.isAgg25 rfl (by repeat constructor) (by repeat constructor) ?_
   refine o_lenSlc (wS rfl rfl hb15) rfl Tryz.underlying25 rfl (hsa) ?_
   refine oX (T := 25) (off := 3) (wS rfl rfl hb15) rfl Tryz.underlying27 rfl rfl rfl Tryz.sizeOf25 rfl rfl ?_
   refine o_load1 (wS rfl rfl hb15) rfl Tryz.isAgg25 rfl (by repeat constructor) (by repeat constructor) ?_
   refine o_lenSlc (wS rfl rfl hb15) rfl Tryz.underlying25 rfl (gsa) ?_
   refine o_pv (wS rfl rfl hb15) rfl rfl ?_
   refine oN ?_
   exact joins rfl
  refine oN (tC ?_)
  refine cC rfl (fun h1 => ?_) (fun h1 => ?_)
  ·
   have f1 := h1
   try simp only [bl] at f1
   exfalso
   simp at h1
   omega
  have f1 := h1
  try simp only [bl] at f1
  refine cK (tC (cS (cS (cR ?_))))
  refine oV ?_
  refine oN (tC (cB ?_))
  refine c_loop (ι := Nat) [2, 3] (.cons rfl (.cons rfl .nil)) (fun x => p.lets.length - x) (fun x E0 => (5, .int .i64 (x : Int)) :: E0) (fun x => St w [] I [.box b3 (.cells #[ui, ul, uo, ua] 27 (0, 0)), .box b2 (.cells #[vi, vl, vo, va] 27 (0, 0))]) (fun x => x ≤ p.lets.length) (0) (sC rfl (sC rfl (sC rfl sN))) (fun _ h => h) (Nat.zero_le _) ?_
  rintro i hi
  try dsimp only
  refine cS (cS (cR ?_))
  refine oV ?_
  refine oF 1 Tryz.underlying27 Tryz.sizeOf24 ?_
  refine oL Tryz.isAgg24 ?_
  refine o_lenSlc trivial rfl Tryz.underlying24 rfl (hsl) ?_
  refine oV ?_
  refine oN (tC ?_)
  refine cC rfl (fun h2 => ?_) (fun h2 => ?_)
  ·
   have f2 := h2
   try simp only [bl] at f2
   obtain ⟨c, hc⟩ : ∃ c, p.lets[i]? = some c := ⟨p.lets[i]'(by omega), List.getElem?_eq_getElem (by omega)⟩
   refine cK (tC (cS (cB (cS ?_))))
   refine c_quiet (by kernel_rfl) (by kernel_rfl) (fun _ h => h.drawn) ?_
   refine oF 1 Tryz.underlying27 Tryz.sizeOf24 ?_
   refine oL Tryz.isAgg24 ?_
   refine oV ?_
   refine o_elem trivial rfl Tryz.underlying24 Tryz.sizeOf46 rfl (hsl) rfl (by omega) ?_
   refine o_loadAI trivial rfl Tryz.isAgg46 Tryz.sizeOf46 rfl rfl (lts_at hsl hc) ?_
   refine oF 1 Tryz.underlying27 Tryz.sizeOf24 ?_
   refine oL Tryz.isAgg24 ?_
   refine oV ?_
   refine o_elem trivial rfl Tryz.underlying24 Tryz.sizeOf46 rfl (gsl) rfl (by omega) ?_
   refine o_loadAI trivial rfl Tryz.isAgg46 Tryz.sizeOf46 rfl rfl (lts_at gsl hc) ?_
   refine o_neqV trivial rfl rfl rfl Tryz.eqGuardType46 (EqV.struct Tryz.underlying46 Tryz.stoodInHeld46 (EqP.cons (T := 9) (o := 0) (by decide) rfl rfl (.one Tryz.isAgg9 (by repeat constructor)) (.one Tryz.isAgg9 (by repeat constructor)) (EqV.str Tryz.underlying9) (EqP.last (T := 3) (o := 1) (by decide) rfl rfl (.one Tryz.isAgg3 (by repeat constructor)) (.one Tryz.isAgg3 (by repeat constructor)) (EqV.int Tryz.underlying3)))) ?_
   refine oN (tC ?_)
   refine cC rfl (fun h3 => ?_) (fun h3 => ?_)
   ·
    have f3 := h3
    try simp only [bl] at f3
    exfalso
    simp at h3
   have f3 := h3
   try simp only [bl] at f3
   refine cK (blk_n (tC (cR ?_)))
   refine oV ?_
   first | (refine o_add trivial rfl rfl rfl ?_ ?_; (omega)) | refine oV ?_
   refine oV ?_
   refine oN ?_
   exact again (i + 1) (sC rfl (sC rfl (sC rfl sN))) (fun _ h => h) (by show p.lets.length - (i + 1) < p.lets.length - i; omega) (by show i + 1 ≤ _; omega)
  have f2 := h2
  try simp only [bl] at f2
  refine c_exit (then_x (then_x (blk_eq rfl (tC (cS (cS (cR ?_)))))))
  refine oV ?_
  refine oN (tC (cB ?_))
  refine c_loop (ι := Nat) [2, 3] (.cons rfl (.cons rfl .nil)) (fun x => ns.length - x) (fun x E0 => (6, .int .i64 (x : Int)) :: E0) (fun x => St w [] I [.box b3 (.cells #[ui, ul, uo, ua] 27 (0, 0)), .box b2 (.cells #[vi, vl, vo, va] 27 (0, 0))]) (fun x => x ≤ ns.length) (0) (sC rfl (sC rfl (sC rfl sN))) (fun _ h => h) (Nat.zero_le _) ?_
  rintro j hj
  try dsimp only
  refine cS (cS (cR ?_))
  refine oV ?_
  refine oF 3 Tryz.underlying27 Tryz.sizeOf25 ?_
  refine oL Tryz.isAgg25 ?_
  refine o_lenSlc trivial rfl Tryz.underlying25 rfl (hsa) ?_
  refine oV ?_
  refine oN (tC ?_)
  refine cC rfl (fun h4 => ?_) (fun h4 => ?_)
  ·
   have f4 := h4
   try simp only [bl] at f4
   obtain ⟨x, hx⟩ : ∃ x, ns[j]? = some x := ⟨ns[j]'(by omega), List.getElem?_eq_getElem (by omega)⟩
   obtain ⟨y, hy⟩ : ∃ y, ms[j]? = some y := ⟨ms[j]'(by omega), List.getElem?_eq_getElem (by omega)⟩
   have hxy : x.c = y.c := by
     have e := congrArg (fun l => l[j]?) (hp.eq.trans hq.eq.symm)
     simp only [List.getElem?_map, hx, hy] at e
     exact Option.some.inj e
   refine cK (tC (cS (cB (cS ?_))))
   refine c_quiet (by kernel_rfl) (by kernel_rfl) (fun _ h => h.drawn) ?_
   refine oF 3 Tryz.underlying27 Tryz.sizeOf25 ?_
   refine oL Tryz.isAgg25 ?_
   refine oV ?_
   refine o_elem trivial rfl Tryz.underlying25 Tryz.sizeOf44 rfl (hsa) rfl (by omega) ?_
   refine o_loadAI trivial rfl Tryz.isAgg44 Tryz.sizeOf44 rfl rfl (nds_at hsa hx) ?_
   refine oF 3 Tryz.underlying27 Tryz.sizeOf25 ?_
   refine oL Tryz.isAgg25 ?_
   refine oV ?_
   refine o_elem trivial rfl Tryz.underlying25 Tryz.sizeOf44 rfl (gsa) rfl (by omega) ?_
   refine o_loadAI trivial rfl Tryz.isAgg44 Tryz.sizeOf44 rfl rfl (nds_at gsa hy) ?_
   refine o_callQ trivial rfl Tryz.call46 rfl (rrNodeEq_any x y (hp.ok x (List.mem_of_getElem? hx)) (hq.ok y (List.mem_of_getElem? hy)) hxy) ?_
   refine oV ?_
   refine oN (tC (cS (cR ?_)))
   iterate 2 refine oV ?_
   refine oN (tC ?_)
   refine c_cond_f rfl (by rfl) ?_
   refine cK (blk_n (tC (cR ?_)))
   refine oV ?_
   first | (refine o_add trivial rfl rfl rfl ?_ ?_; (omega)) | refine oV ?_
   refine oV ?_
   refine oN ?_
   exact again (j + 1) (sC rfl (sC rfl (sC rfl sN))) (fun _ h => h) (by show ns.length - (j + 1) < ns.length - j; omega) (by show j + 1 ≤ _; omega)
  have f4 := h4
  try simp only [bl] at f4
  refine c_exit (then_x (then_x (blk_eq rfl (tC (cS (cR ?_))))))
  refine oF 0 Tryz.underlying27 Tryz.sizeOf23 ?_
  refine oL Tryz.isAgg23 ?_
  refine oF 0 Tryz.underlying27 Tryz.sizeOf23 ?_
  refine oL Tryz.isAgg23 ?_
  refine o_callQ trivial rfl Tryz.call35 rfl (rrNamesEq_any vi ui p.ins hsi gsi) ?_
  refine' o_and trivial trivial rfl rfl rfl rfl rfl rfl rfl rfl (fun hb67 => ?_) ?_
  rotate_left
  ·
   have fb67 := hb67
   try simp only [bl] at fb67
   refine oX (T := 23) (off := 2) (wS rfl rfl hb67) rfl Tryz.underlying27 rfl rfl rfl Tryz.sizeOf23 rfl rfl ?_
   refine o_load1 (wS rfl rfl hb67) rfl Tryz.isAgg23 rfl (by repeat constructor) (by repeat constructor) ?_
   refine oX (T := 23) (off := 2) (wS rfl rfl hb67) rfl Tryz.underlying27 rfl rfl rfl Tryz.sizeOf23 rfl rfl ?_
   refine o_load1 (wS rfl rfl hb67) rfl Tryz.isAgg23 rfl (by repeat constructor) (by repeat constructor) ?_
   refine o_callQ (wS rfl rfl hb67) rfl Tryz.call35 rfl (rrNamesEq_any vo uo p.outs hso gso) ?_
   refine oN ?_
   exact joins rfl
  refine oV ?_
  refine oN (tC (cT ?_))
  refine ret1 rfl rfl ?_
  exact leaf0 rfl
def awS : ByteArray := ⟨#[105, 110, 32, 120, 59, 32, 108, 101, 116, 32, 97, 32, 61, 32, 50, 32, 42, 32, 120, 32, 94, 32, 45, 51, 59, 32, 111, 117, 116, 32, 97, 59]⟩
def awT (k : Int) (s : ByteArray) (c : Int) : Tok := ⟨k, s, 1, c⟩
def awX : ByteArray := ⟨#[120]⟩
def awA : ByteArray := ⟨#[97]⟩
def awTwo : ByteArray := ⟨#[50]⟩
def awThree : ByteArray := ⟨#[51]⟩
def awL1 : List Tok := [awT 1 awTwo 15, awT 2 starS 17, awT 0 awX 19, awT 2 Go.Tw.caret 21, awT 2 minusS 23, awT 1 awThree 24, awT 2 semiS 25, awT 0 outS 27, awT 0 awA 31, awT 2 semiS 32]
def awL2 : List Tok := awT 0 inS 1 :: awT 0 awX 4 :: awT 2 semiS 5 :: awT 0 letS 7 :: awT 0 awA 11 :: awT 2 equalS 13 :: awL1
theorem awS_lex : lexZ awS = ⟨awL2, 0, 0, 0⟩ := by kernel_rfl
theorem awQ : numQ awTwo = mkRat 2 1 := by
  have h1 : cutZ awTwo = awTwo.size := by kernel_rfl
  unfold numQ
  rw [if_pos h1, h1, cut_full, toList_data]
  rfl
def awP : ProgC := ⟨[awX], [⟨awA, 3⟩], [awA], [numN (mkRat 2 1), refN awX, powN 1 (-3), binN 4 0 2]⟩
def awE : Ex := .bin 4 (.num (mkRat 2 1)) (.pow (.ref awX) (-3))
theorem nameZ_X : nameZ awX = true := by kernel_rfl
theorem nameZ_A : nameZ awA = true := by kernel_rfl
theorem isT_self {k : Int} {s : ByteArray} {c : Int} : isT (awT k s c) k s = true := by simp [isT, awT]
theorem awE_ok : awE.ok := ⟨by decide, by decide, ⟨by decide +kernel, by decide +kernel, by decide +kernel⟩, nameZ_X, by decide, by decide⟩
theorem awR : RightP awP [(awA, awE)] where
  lets := rfl
  all := rfl
  ok := fun a ha => by rw [List.mem_singleton.1 ha]; exact ⟨nameZ_A, awE_ok⟩
  ins := ⟨fun s hs => by rw [List.mem_singleton.1 hs]; exact nameZ_X, by decide, by decide⟩
  outs := ⟨fun s hs => by rw [List.mem_singleton.1 hs]; exact nameZ_A, by decide, by decide⟩
  few := ⟨by decide, by decide⟩
  low := fun a ha => by rw [List.mem_singleton.1 ha]; decide
theorem awH : tZ awP = some [1, 1, 2, 3] := tZ_right awR
theorem isT_no {x : Tok} {k : Int} {t : ByteArray} (h : x.kind ≠ k) : isT x k t = false := by simp [isT, h]
theorem isT_un {k : Int} {s t : ByteArray} {c : Int} (h : s.data.toList ≠ t.data.toList) : isT (awT k s c) k t = false := by
  unfold isT awT
  rw [toList_data, toList_data]
  have : (s.data.toList == t.data.toList) = false := by simpa using h
  rw [this, Bool.and_false]
theorem awSum : Ps .sum [] awL1 (.ok [numN (mkRat 2 1), refN awX, powN 1 (-3), binN 4 0 2] [awT 2 semiS 25, awT 0 outS 27, awT 0 awA 31, awT 2 semiS 32]) := by
  have h1 : leafT (awT 1 awTwo 15) = true := rfl
  have h2 : leafT (awT 0 awX 19) = true := by unfold leafT; simp [awT, nameZ_X]
  have m1 : mulK (awT 2 starS 17) = some 4 := by unfold mulK; rw [if_pos isT_self]
  have m2 : mulK (awT 2 semiS 25) = none := by unfold mulK; rw [if_neg (by rw [isT_un (by decide)]; decide), if_neg (by rw [isT_un (by decide)]; decide)]
  have a2 : addK (awT 2 semiS 25) = none := by unfold addK; rw [if_neg (by rw [isT_un (by decide)]; decide), if_neg (by rw [isT_un (by decide)]; decide)]
  have l1 : leafN (awT 1 awTwo 15) = numN (mkRat 2 1) := by unfold leafN; rw [if_pos (show (awT 1 awTwo 15).kind = 1 from rfl)]; show numN (numQ awTwo) = _; rw [awQ]
  have l2 : leafN (awT 0 awX 19) = refN awX := by unfold leafN; rw [if_neg (by decide)]; rfl
  have e1 : expoZ awThree = some 3 := by unfold expoZ; rw [toList_data]; rfl
  have p1 := Ps.leaf (all := []) (r := awL1.tail) h1
  rw [l1] at p1
  have p2 := Ps.leaf (all := [numN (mkRat 2 1)]) (r := [awT 2 Go.Tw.caret 21, awT 2 minusS 23, awT 1 awThree 24, awT 2 semiS 25, awT 0 outS 27, awT 0 awA 31, awT 2 semiS 32]) h2
  rw [l2] at p2
  refine .sum_ok (.product_ok (.fac (isT_no (by decide)) (.power_ok p1 (.pow_none (isT_un (by decide))))) (.prodL_ok m1 (.fac (isT_no (by decide)) (.power_ok p2 (.pow_ok isT_self (.neg isT_self rfl e1)))) (.prodL_end m2))) (.sumL_end a2)
theorem nameT_X {c : Int} : nameT (awT 0 awX c) = true := by unfold nameT; simp [awT, nameZ_X]
theorem nameT_A {c : Int} : nameT (awT 0 awA c) = true := by unfold nameT; simp [awT, nameZ_A]
theorem namesZ_aw {c d : Int} {s : ByteArray} {r : List Tok} (h : nameT (awT 0 s c) = true) : namesZ (awT 0 s c :: awT 2 semiS d :: r) = .ok [s] r := by
  unfold namesZ
  rw [if_pos h, if_neg (by rw [isT_un (by decide)]; decide), if_pos isT_self]
  rfl
theorem awPrg : prgZ awL2 = .ok awP :=
  prgZ_eq (.ok isT_self (namesZ_aw nameT_X) (.more isT_self (.ok nameT_A isT_self awSum isT_self) (.fin (isT_un (by decide)))) isT_self (namesZ_aw nameT_A))
theorem awS_parse : parseZ awS = ⟨awP, 0, 0, 0⟩ := by
  unfold parseZ
  rw [awS_lex]
  dsimp only
  rw [if_neg (by decide), awPrg]
  unfold parseT
  dsimp only
  rw [if_pos (by rw [awH]; rfl)]
theorem ints_any (va vb : Value) (l : List Nat) {I : Hp} (ha : Slc I 1 va (nss l)) (hb : Slc I 1 vb (nss l)) : Fun Tryz.prog 22 [va, vb] I [] (fun v _ _ => v = .bool true) := by
  have hl := nss_len l
  have hmx := ha.most
  rw [hl] at hmx
  unfold maxLen at hmx
  intro w hw
  refine enter2 _ Tryz.func22 rfl Tryz.ntmps22 rfl ?_ hw
  refine cS (cR ?_)
  refine oV ?_
  refine oN (tC (cS (cS (cR ?_))))
  refine oV ?_
  refine o_lenSlc trivial rfl Tryz.underlying37 rfl (ha) ?_
  refine oV ?_
  refine o_lenSlc trivial rfl Tryz.underlying37 rfl (hb) ?_
  refine oV ?_
  refine oN (tC ?_)
  refine cC rfl (fun h1 => ?_) (fun h1 => ?_)
  ·
   have f1 := h1
   try simp only [bl] at f1
   exfalso; simp at h1
  have f1 := h1
  try simp only [bl] at f1
  refine cK (tC (cS (cS (cR ?_))))
  refine oV ?_
  refine oN (tC (cB ?_))
  refine c_loop (ι := Nat) [0, 1] (.cons rfl (.cons rfl .nil)) (fun x => l.length - x) (fun x E0 => (5, .int .i64 (x : Int)) :: E0) (fun x => St w [] I []) (fun x => x ≤ l.length) (0) (sC rfl (sC rfl (sC rfl sN))) (fun _ h => h) (Nat.zero_le _) ?_
  rintro i hi
  try dsimp only
  refine cS (cS (cR ?_))
  iterate 2 refine oV ?_
  refine o_lenSlc trivial rfl Tryz.underlying37 rfl (ha) ?_
  refine oV ?_
  refine oN (tC ?_)
  refine cC rfl (fun h2 => ?_) (fun h2 => ?_)
  ·
   have f2 := h2
   try simp only [bl] at f2
   obtain ⟨s, hs⟩ : ∃ s, l[i]? = some s := ⟨l[i]'(by omega), List.getElem?_eq_getElem (by omega)⟩
   refine cK (tC (cS (cB (cS ?_))))
   refine c_quiet (by kernel_rfl) (by kernel_rfl) (fun _ h => h.drawn) ?_
   iterate 2 refine oV ?_
   refine o_elem trivial rfl Tryz.underlying37 Tryz.sizeOf3 rfl (ha) rfl (by omega) ?_
   refine o_load1I trivial rfl Tryz.isAgg3 rfl (nss_at ha hs) ?_
   iterate 2 refine oV ?_
   refine o_elem trivial rfl Tryz.underlying37 Tryz.sizeOf3 rfl (hb) rfl (by omega) ?_
   refine o_load1I trivial rfl Tryz.isAgg3 rfl (nss_at hb hs) ?_
   refine oV ?_
   refine oN (tC ?_)
   refine cC rfl (fun h3 => ?_) (fun h3 => ?_)
   ·
    have f3 := h3
    try simp only [bl] at f3
    exfalso; simp at h3
   have f3 := h3
   try simp only [bl] at f3
   refine cK (blk_n (tC (cR ?_)))
   refine oV ?_
   first | (refine o_add trivial rfl rfl rfl ?_ ?_; (omega)) | refine oV ?_
   refine oV ?_
   refine oN ?_
   exact again (i + 1) (sC rfl (sC rfl (sC rfl sN))) (fun _ h => h) (by show l.length - (i + 1) < l.length - i; omega) (by show i + 1 ≤ _; omega)
  have f2 := h2
  try simp only [bl] at f2
  refine c_exit (then_x (then_x (blk_eq rfl (tC (cS (cR ?_))))))
  refine oV ?_
  refine oN (tC (cT ?_))
  refine ret1 rfl rfl ?_
  exact leaf0 rfl
theorem awW {I : Hp} {b1 b2 b3 b4 : Nat} {T1 T2 T3 : TypeId} {u1 u2 : Value} (h1 : I b1 = some (.cells #[.string ⟨#[120]⟩] T1 (0, 0))) (h2 : I b2 = some (.cells #[.string ⟨#[97]⟩, .int .i64 3] T2 (0, 0))) (h3 : I b3 = some (.cells #[.string ⟨#[97]⟩] T1 (0, 0))) (h4 : I b4 = some (.cells ((NodeV.cells ⟨numN (mkRat 2 1), u1, u2⟩ ++ (NodeV.cells ⟨refN awX, N0, N0⟩ ++ (NodeV.cells ⟨powN 1 (-3), N0, N0⟩ ++ (NodeV.cells ⟨binN 4 0 2, N0, N0⟩ ++ []))))).toArray T3 (0, 0)))
    (k1 : Ws I u1 (natW (mkRat 2 1).num.natAbs)) (k2 : Ws I u2 (natW (mkRat 2 1).den)) :
    ProgV I (.slice (some ⟨b1, 0, none⟩) 1 1) (.slice (some ⟨b2, 0, none⟩) 1 1) (.slice (some ⟨b3, 0, none⟩) 1 1) (.slice (some ⟨b4, 0, none⟩) 4 4) awP [⟨numN (mkRat 2 1), u1, u2⟩, ⟨refN awX, N0, N0⟩, ⟨powN 1 (-3), N0, N0⟩, ⟨binN 4 0 2, N0, N0⟩] where
  si := Slc.of_box (sz := 1) (xss := scs awP.ins) (c := 1) h1 (scs_one _) (by decide) (by decide)
  sl := Slc.of_box (sz := 2) (xss := awP.lets.map LetC.cells) (c := 1) h2 (fun c hc => by rw [List.mem_singleton.1 hc]; rfl) (by decide) (by decide)
  so := Slc.of_box (sz := 1) (xss := scs awP.outs) (c := 1) h3 (scs_one _) (by decide) (by decide)
  sa := Slc.of_box (sz := 8) (xss := nds [⟨numN (mkRat 2 1), u1, u2⟩, ⟨refN awX, N0, N0⟩, ⟨powN 1 (-3), N0, N0⟩, ⟨binN 4 0 2, N0, N0⟩]) (c := 4) h4 (nds_eight _) (by unfold maxLen; exact Nat.le_of_ble_eq_true rfl) (Nat.le_of_ble_eq_true rfl)
  ok := fun o ho => by
    simp only [List.mem_cons, List.not_mem_nil, or_false] at ho
    rcases ho with rfl | rfl | rfl | rfl
    · exact ⟨k1, k2⟩
    · exact ⟨Ws.nil _, Ws.nil _⟩
    · exact ⟨Ws.nil _, Ws.nil _⟩
    · exact ⟨Ws.nil _, Ws.nil _⟩
  eq := rfl
theorem awake11_any {I : Hp} (hT : Tabs I) (hM : Mx I) (hE : Errs I) : Fun Tryz.prog 14 [] I [] (fun v _ _ => v = .bool true) := by
  have hpa := parse_any awS hT hM hE (by decide)
  rw [awS_parse] at hpa
  intro w hw
  refine enter0 _ Tryz.func14 rfl Tryz.ntmps14 ?_ hw
  refine cS (cR ?_)
  refine oV ?_
  refine oN (tC (cS (cR ?_)))
  refine o_callI trivial rfl Tryz.call15 rfl hpa ?_
  rintro _ I1 hx1 ⟨vi, vl, vo, va, ns, rfl, hp, hf⟩
  refine oV ?_
  have hp : ProgV I1 vi vl vo va awP ns := hp
  have hsi := hp.si
  have hsl := hp.sl
  have hso := hp.so
  have hsa := hp.sa
  iterate 3 refine oV ?_
  refine o_alloc trivial rfl Tryz.zeroValue27 rfl (fun b1 => ?_)
  refine o_alloc trivial rfl Tryz.zeroValue29 rfl (fun b2 => ?_)
  refine oS Tryz.sizeOf27 ?_
  refine oS Tryz.sizeOf29 ?_
  refine oV ?_
  refine oN (tC (cS (cR ?_)))
  refine o_buildSl trivial rfl Tryz.underlying23 Tryz.sizeOf9 Tryz.zeroValue9 (by decide) (by decide) rfl (by repeat first | exact rfl | constructor) rfl (fun b10 => ?_)
  refine o_buildS trivial rfl (bld46) rfl (.cons rfl rfl rfl (by repeat constructor) (.cons rfl rfl rfl (by repeat constructor) .nil)) ?_
  refine o_buildSl trivial rfl Tryz.underlying24 Tryz.sizeOf46 Tryz.zeroValue46 (by decide) (by decide) rfl (by repeat first | exact rfl | constructor) rfl (fun b12 => ?_)
  refine o_buildSl trivial rfl Tryz.underlying23 Tryz.sizeOf9 Tryz.zeroValue9 (by decide) (by decide) rfl (by repeat first | exact rfl | constructor) rfl (fun b13 => ?_)
  refine o_callI trivial rfl Tryz.call38 rfl (rOf8_any 2 (by decide)) ?_
  rintro _ I2 hx2 ⟨u1, u2, rfl, k1, k2⟩
  iterate 2 refine o_buildS trivial rfl (bld44) rfl (.cons rfl rfl rfl (by repeat constructor) (.cons rfl rfl rfl (by repeat constructor) .nil)) ?_
  iterate 2 refine o_buildS trivial rfl (bld44) rfl (.cons rfl rfl rfl (by repeat constructor) (.cons rfl rfl rfl (by repeat constructor) (.cons rfl rfl rfl (by repeat constructor) .nil))) ?_
  refine o_buildSl trivial rfl Tryz.underlying25 Tryz.sizeOf44 Tryz.zeroValue44 (by decide) (by decide) rfl (by repeat first | exact rfl | constructor) rfl (fun b19 => ?_)
  refine l_sealB (b := b19) .here (fun I3 hx3 hb19 => ?_)
  refine l_sealB (b := b13) .here (fun I4 hx4 hb13 => ?_)
  refine l_sealB (b := b12) .here (fun I5 hx5 hb12 => ?_)
  refine l_sealB (b := b10) .here (fun I6 hx6 hb10 => ?_)
  have hl2 := hx2.le.trans (hx3.le.trans (hx4.le.trans (hx5.le.trans hx6.le)))
  have hl3 := hx3.le.trans (hx4.le.trans (hx5.le.trans hx6.le))
  have hq := awW (u1 := u1) (u2 := u2) hb10 (hx6.le _ _ hb12) (hx6.le _ _ (hx5.le _ _ hb13)) (hx6.le _ _ (hx5.le _ _ (hx4.le _ _ hb19))) (k1.le hl3) (k2.le hl3)
  have hp6 := hp.le hl2
  have hri := trRight_any _ _ _ _ _ _ hp6 (fun o ho => ⟨by have := (hf o ho).1; omega, by have := (hf o ho).2; omega⟩)
  have hhe := trHeights_any _ _ _ _ _ _ hp6 (fun o ho => ⟨by have := (hf o ho).1; omega, by have := (hf o ho).2; omega⟩)
  rw [awH] at hri hhe
  refine o_buildS trivial rfl (bld27) rfl (.cons rfl (by first | exact (Ws.cells1 (by assumption)).1 | exact (Slc.cells1 (by assumption)).1 | rfl) (by rfl) (by repeat constructor) (.cons rfl (by first | exact (Ws.cells1 (by assumption)).1 | exact (Slc.cells1 (by assumption)).1 | rfl) (by rfl) (by repeat constructor) (.cons rfl (by first | exact (Ws.cells1 (by assumption)).1 | exact (Slc.cells1 (by assumption)).1 | rfl) (by rfl) (by repeat constructor) (.cons rfl (by first | exact (Ws.cells1 (by assumption)).1 | exact (Slc.cells1 (by assumption)).1 | rfl) (by rfl) (by repeat constructor) .nil)))) ?_
  refine o_alloc trivial rfl Tryz.zeroValue27 rfl (fun b4 => ?_)
  refine oS Tryz.sizeOf27 ?_
  refine oN (tC (cS (cR ?_)))
  iterate 2 refine oV ?_
  refine' o_and trivial trivial rfl rfl rfl rfl rfl rfl rfl rfl (fun hb23 => ?_) ?_
  rotate_left
  ·
   have fb23 := hb23
   try simp only [bl] at fb23
   refine o_loadA (wS rfl rfl hb23) rfl Tryz.isAgg29 Tryz.sizeOf29 rfl (by repeat constructor) (by repeat constructor) ?_
   refine o_buildS (wS rfl rfl hb23) rfl (bld29) rfl .nil ?_
   refine o_eqlV (wS rfl rfl hb23) rfl rfl rfl Tryz.eqGuardType29 (EqV.struct Tryz.underlying29 Tryz.stoodInHeld29 (EqP.cons (T := 3) (o := 0) (by decide) rfl rfl (.one Tryz.isAgg3 (by repeat constructor)) (.one Tryz.isAgg3 (by repeat constructor)) (EqV.int Tryz.underlying3) (EqP.last (T := 3) (o := 1) (by decide) rfl rfl (.one Tryz.isAgg3 (by repeat constructor)) (.one Tryz.isAgg3 (by repeat constructor)) (EqV.int Tryz.underlying3)))) ?_
   refine oN ?_
   exact joins rfl
  refine' o_and trivial trivial rfl rfl rfl rfl rfl rfl rfl rfl (fun hb28 => ?_) ?_
  rotate_left
  ·
   have fb28 := hb28
   try simp only [bl] at fb28
   iterate 2 refine o_loadA (wS rfl rfl hb28) rfl Tryz.isAgg27 Tryz.sizeOf27 rfl (by repeat constructor) (by repeat constructor) ?_
   refine o_callQ (wS rfl rfl hb28) rfl Tryz.call17 rfl (rrSame_any _ _ _ _ _ _ _ _ _ _ _ hp6 hq) ?_
   refine oN ?_
   exact joins rfl
  refine' o_and trivial trivial rfl rfl rfl rfl rfl rfl rfl rfl (fun hb33 => ?_) ?_
  rotate_left
  ·
   have fb33 := hb33
   try simp only [bl] at fb33
   refine o_loadA (wS rfl rfl hb33) rfl Tryz.isAgg27 Tryz.sizeOf27 rfl (by repeat constructor) (by repeat constructor) ?_
   refine o_callQ (wS rfl rfl hb33) rfl Tryz.call21 rfl hri ?_
   refine oN ?_
   exact joins rfl
  refine' o_and trivial trivial rfl rfl rfl rfl rfl rfl rfl rfl (fun hb37 => ?_) ?_
  rotate_left
  ·
   have fb37 := hb37
   try simp only [bl] at fb37
   refine o_loadA (wS rfl rfl hb37) rfl Tryz.isAgg27 Tryz.sizeOf27 rfl (by repeat constructor) (by repeat constructor) ?_
   refine o_callI (wS rfl rfl hb37) rfl Tryz.call23 rfl hhe ?_
   rintro _ I7 hx7 hs7
   refine o_buildSl (wS rfl rfl hb37) rfl Tryz.underlying37 Tryz.sizeOf3 Tryz.zeroValue3 (by decide) (by decide) rfl (by repeat first | exact rfl | constructor) rfl (fun b40 => ?_)
   refine l_sealB .here (fun I8 hx8 hb40 => ?_)
   refine o_callQ (wS rfl rfl hb37) rfl Tryz.call22 rfl (ints_any _ _ [1, 1, 2, 3] (hs7.le hx8.le) (Slc.of_box (sz := 1) (xss := nss [1, 1, 2, 3]) (c := 4) hb40 (nss_one _) (by decide) (by decide))) ?_
   refine oN ?_
   exact joinsW rfl (fun _ h => (h.sort (by repeat constructor)).fewer ((hx7.le).trans hx8.le))
  refine oV ?_
  refine oN (tC (cT ?_))
  refine ret1 rfl rfl ?_
  exact leaf (hx1.trans (hx2.trans (hx3.trans (hx4.trans (hx5.trans hx6 (Nat.le_refl _)) (Nat.le_refl _)) (Nat.le_refl _)) (Nat.le_refl _)) (Nat.le_refl _)) (List.nil_sublist _) (congrArg Value.bool (by simp))
theorem rrFew_any (vi vl vo va : Value) (p : ProgC) (ns : List NodeV) (most : Int) {I : Hp} (hp : ProgV I vi vl vo va p ns) :
    Fun Tryz.prog 18 [.agg #[vi, vl, vo, va], .int .i64 most] I [] (fun v _ _ => v = .bool (fewP p most)) := by
  have hsi := hp.si
  have hsl := hp.sl
  have hso := hp.so
  have hsa := hp.sa
  have hli := scs_len p.ins
  have hlo := scs_len p.outs
  have hll : (p.lets.map LetC.cells).length = p.lets.length := List.length_map _
  have hla := nds_len ns
  have hal : p.all.length = ns.length := by rw [← hp.eq, List.length_map]
  have hm1 := hsa.most
  unfold maxLen at hm1
  intro w hw
  refine enter2 _ Tryz.func18 rfl Tryz.ntmps18 rfl ?_ hw
  refine cS (cR ?_)
  refine o_box trivial rfl rfl rfl (fun b2 => ?_)
  refine oV ?_
  refine oN (tC (cS (cS (cR ?_))))
  refine oF 3 Tryz.underlying27 Tryz.sizeOf25 ?_
  refine oL Tryz.isAgg25 ?_
  refine o_lenSlc trivial rfl Tryz.underlying25 rfl (hsa) ?_
  iterate 2 refine oV ?_
  refine' o_or trivial trivial rfl rfl rfl rfl rfl rfl rfl rfl (fun hb12 => ?_) ?_
  rotate_left
  ·
   have fb12 := hb12
   try simp only [bl] at fb12
   refine oX (T := 23) (off := 0) (wS rfl rfl hb12) rfl Tryz.underlying27 rfl rfl rfl Tryz.sizeOf23 rfl rfl ?_
   refine o_load1 (wS rfl rfl hb12) rfl Tryz.isAgg23 rfl (by repeat constructor) (by repeat constructor) ?_
   refine o_lenSlc (wS rfl rfl hb12) rfl Tryz.underlying23 rfl (hsi) ?_
   refine o_pv (wS rfl rfl hb12) rfl rfl ?_
   refine oN ?_
   exact joins rfl
  refine' o_or trivial trivial rfl rfl rfl rfl rfl rfl rfl rfl (fun hb18 => ?_) ?_
  rotate_left
  ·
   have fb18 := hb18
   try simp only [bl] at fb18
   refine oX (T := 24) (off := 1) (wS rfl rfl hb18) rfl Tryz.underlying27 rfl rfl rfl Tryz.sizeOf24 rfl rfl ?_
   refine o_load1 (wS rfl rfl hb18) rfl Tryz.isAgg24 rfl (by repeat constructor) (by repeat constructor) ?_
   refine o_lenSlc (wS rfl rfl hb18) rfl Tryz.underlying24 rfl (hsl) ?_
   refine o_pv (wS rfl rfl hb18) rfl rfl ?_
   refine oN ?_
   exact joins rfl
  refine' o_or trivial trivial rfl rfl rfl rfl rfl rfl rfl rfl (fun hb24 => ?_) ?_
  rotate_left
  ·
   have fb24 := hb24
   try simp only [bl] at fb24
   refine oX (T := 23) (off := 2) (wS rfl rfl hb24) rfl Tryz.underlying27 rfl rfl rfl Tryz.sizeOf23 rfl rfl ?_
   refine o_load1 (wS rfl rfl hb24) rfl Tryz.isAgg23 rfl (by repeat constructor) (by repeat constructor) ?_
   refine o_lenSlc (wS rfl rfl hb24) rfl Tryz.underlying23 rfl (hso) ?_
   refine o_pv (wS rfl rfl hb24) rfl rfl ?_
   refine oN ?_
   exact joins rfl
  refine oN (tC ?_)
  refine cC rfl (fun h1 => ?_) (fun h1 => ?_)
  ·
   have f1 := h1
   try simp only [bl] at f1
   refine cS (cR ?_)
   refine oV ?_
   refine oN (tC (cT (tR ?_)))
   refine ret1 rfl rfl ?_
   refine leaf0 (congrArg Value.bool ?_); unfold fewP; rw [decide_eq_false (by omega), Bool.false_and]
  have f1 := h1
  try simp only [bl] at f1
  have hg : decide ((p.all.length : Int) ≤ most ∧ p.ins.length ≤ 8 ∧ p.lets.length ≤ 8 ∧ p.outs.length ≤ 8) = true := decide_eq_true (by omega)
  refine cK (tC (cS (cS (cR ?_))))
  refine oV ?_
  refine oN (tC (cB ?_))
  refine c_loop (ι := Nat) [2] (.cons rfl .nil) (fun i => ns.length - i) (fun i E0 => (5, .int .i64 (i : Nat)) :: E0) (fun i => St w [] I [.box b2 (.cells #[vi, vl, vo, va] 27 (0, 0))]) (fun i => i ≤ ns.length ∧ ((ns.take i).all fun o => decide (o.c.n.length ≤ 6 ∧ o.c.d.length ≤ 6 ∧ o.c.name.size ≤ 60)) = true) (0) (sC rfl (sC rfl sN)) (fun _ h => h) (⟨Nat.zero_le _, rfl⟩) ?_
  rintro i ⟨hi, hall⟩
  try dsimp only
  refine cS (cS (cR ?_))
  refine oV ?_
  refine oF 3 Tryz.underlying27 Tryz.sizeOf25 ?_
  refine oL Tryz.isAgg25 ?_
  refine o_lenSlc trivial rfl Tryz.underlying25 rfl (hsa) ?_
  refine oV ?_
  refine oN (tC ?_)
  refine cC rfl (fun h2 => ?_) (fun h2 => ?_)
  ·
   have f2 := h2
   try simp only [bl] at f2
   obtain ⟨o, ho⟩ : ∃ o, ns[i]? = some o := ⟨ns[i]'(by omega), List.getElem?_eq_getElem (by omega)⟩
   have hom := List.mem_of_getElem? ho
   obtain ⟨hvn, hvd⟩ := hp.ok o hom
   refine cK (tC (cS (cB (cS (cR ?_)))))
   refine oF 3 Tryz.underlying27 Tryz.sizeOf25 ?_
   refine oL Tryz.isAgg25 ?_
   refine oV ?_
   refine o_elem trivial rfl Tryz.underlying25 Tryz.sizeOf44 rfl (hsa) rfl (by omega) ?_
   refine oF 5 Tryz.underlying44 Tryz.sizeOf42 ?_
   refine o_loadAI trivial rfl Tryz.isAgg42 Tryz.sizeOf42 rfl rfl (fun k y hk => by have hc := nds_at hsa ho (5 + k) y (by rw [Nat.add_comm]; exact hk); rw [← Nat.add_assoc] at hc; exact hc) ?_
   refine o_buildSl trivial rfl Tryz.underlying76 Tryz.sizeOf42 Tryz.zeroValue42 (by decide) (by decide) rfl (by repeat first | exact rfl | constructor) rfl (fun b43 => ?_)
   refine l_sealB .here (fun I1 hx1 hb43 => ?_)
   refine o_callQ trivial rfl Tryz.call47 rfl (rFew_any _ _ 6 (PtV.lone hb43 (hvn.le hx1.le) (hvd.le hx1.le))) ?_
   refine oV ?_
   refine oN (tC (cS ?_))
   rw [show ([(⟨o.c.neg, o.c.n, o.c.d, o.vn, o.vd⟩ : NV)].all fun x => decide ((x.n.length : Int) ≤ 6 ∧ (x.d.length : Int) ≤ 6)) = decide ((o.c.n.length : Int) ≤ 6 ∧ (o.c.d.length : Int) ≤ 6) from Bool.and_true _]
   refine cR ?_
   iterate 2 refine oV ?_
   refine' o_or trivial trivial rfl rfl rfl rfl rfl rfl rfl rfl (fun hb47 => ?_) ?_
   rotate_left
   ·
    have fb47 := hb47
    try simp only [bl] at fb47
    refine oX (T := 25) (off := 3) (wS rfl rfl hb47) rfl Tryz.underlying27 rfl rfl rfl Tryz.sizeOf25 rfl rfl ?_
    refine o_load1 (wS rfl rfl hb47) rfl Tryz.isAgg25 rfl (by repeat constructor) (by repeat constructor) ?_
    refine o_pv (wS rfl rfl hb47) rfl rfl ?_
    refine o_elem (wS rfl rfl hb47) rfl Tryz.underlying25 Tryz.sizeOf44 rfl (hsa) rfl (by omega) ?_
    refine oX (T := 9) (off := 4) (wS rfl rfl hb47) rfl Tryz.underlying44 rfl rfl rfl Tryz.sizeOf9 rfl rfl ?_
    refine o_load1I (wS rfl rfl hb47) rfl Tryz.isAgg9 rfl (hx1.le.cell (nds_at hsa ho 4 _ rfl)) ?_
    refine o_lenS (wS rfl rfl hb47) rfl Tryz.underlying9 rfl ?_
    refine o_pv (wS rfl rfl hb47) rfl rfl ?_
    refine oN ?_
    exact joins rfl
   refine oN (tC ?_)
   refine cC rfl (fun h3 => ?_) (fun h3 => ?_)
   ·
    have f3 := h3
    try simp only [bl] at f3
    refine cS (cR ?_)
    refine oV ?_
    refine oN (tC (cT (blk_r (tR (tR (blk_r (tR ?_)))))))
    refine ret1 rfl rfl ?_
    refine leaf hx1 (List.nil_sublist _) (congrArg Value.bool ?_)
    unfold fewP
    rw [hg, Bool.true_and]
    symm
    rw [List.all_eq_false]
    exact ⟨o.c, by rw [← hp.eq]; exact List.mem_map_of_mem hom, by simp only [decide_eq_true_eq]; omega⟩
   have f3 := h3
   try simp only [bl] at f3
   refine cK (blk_n (tC (cR ?_)))
   refine oV ?_
   first | (refine o_add trivial rfl rfl rfl ?_ ?_; (omega)) | refine oV ?_
   refine oV ?_
   refine oN ?_
   exact again (i + 1) (sC rfl (sC rfl sN)) (fun _ h => (h.sort (by repeat constructor)).fewer hx1.le) (by show ns.length - (i + 1) < ns.length - i; omega) ⟨by show i + 1 ≤ _; omega, by
     rw [List.take_add_one, ho, List.all_append, hall]
     simp only [Option.toList, List.all_cons, List.all_nil, Bool.and_true, Bool.true_and, decide_eq_true_eq]
     omega⟩
  have f2 := h2
  try simp only [bl] at f2
  refine c_exit (then_x (then_x (blk_eq rfl (tC (cS (cR ?_))))))
  refine oV ?_
  refine oN (tC (cT ?_))
  refine ret1 rfl rfl ?_
  refine leaf0 (congrArg Value.bool ?_)
  rw [List.take_of_length_le (by omega)] at hall
  unfold fewP
  rw [hg, Bool.true_and, ← hp.eq, List.all_map]
  exact hall.symm
theorem bgGo_nil (all : List NodeC) (fr : Int) : bgGo all [] fr = some fr := rfl
theorem bgGo_cons (all : List NodeC) (l : LetC) (ls : List LetC) (fr : Int) : bgGo all (l :: ls) fr = if nameZ l.name = true ∧ fr ≤ l.root ∧ l.root < all.length ∧ begZ all fr all.length l.root = fr then bgGo all ls (l.root + 1) else none := rfl
theorem rrRight_any (vi vl vo va : Value) (p : ProgC) (ns : List NodeV) {I : Hp} (hp : ProgV I vi vl vo va p ns) (hf : ∀ o ∈ ns, o.c.few 3000) :
    Fun Tryz.prog 19 [.agg #[vi, vl, vo, va]] I [] (fun v _ _ => v = .bool (rightZ p)) := by
  have hsi := hp.si
  have hsl := hp.sl
  have hso := hp.so
  have hsa := hp.sa
  have hll : (p.lets.map LetC.cells).length = p.lets.length := List.length_map _
  have hla := nds_len ns
  have hal : p.all.length = ns.length := by rw [← hp.eq, List.length_map]
  have hm1 := hsa.most
  unfold maxLen at hm1
  intro w hw
  refine enter1 _ Tryz.func19 rfl Tryz.ntmps19 rfl ?_ hw
  refine cS (cR ?_)
  refine o_box trivial rfl rfl rfl (fun b1 => ?_)
  refine oV ?_
  refine oN (tC (cS (cR ?_)))
  refine oF 0 Tryz.underlying27 Tryz.sizeOf23 ?_
  refine oL Tryz.isAgg23 ?_
  refine o_callQ trivial rfl Tryz.call48 rfl (rrList_any vi p.ins 1 hsi) ?_
  refine oV ?_
  refine oN (tC (cS (cR ?_)))
  refine oF 2 Tryz.underlying27 Tryz.sizeOf23 ?_
  refine oL Tryz.isAgg23 ?_
  refine o_callQ trivial rfl Tryz.call48 rfl (rrList_any vo p.outs 1 hso) ?_
  refine oV ?_
  refine oN (tC (cS (cS (cR ?_))))
  iterate 2 refine oV ?_
  refine' o_or trivial trivial rfl rfl rfl rfl rfl rfl rfl rfl (fun hb20 => ?_) ?_
  rotate_left
  ·
   have fb20 := hb20
   try simp only [bl] at fb20
   iterate 2 refine o_pv (wS rfl rfl hb20) rfl rfl ?_
   refine oN ?_
   exact joins rfl
  refine' o_or trivial trivial rfl rfl rfl rfl rfl rfl rfl rfl (fun hb24 => ?_) ?_
  rotate_left
  ·
   have fb24 := hb24
   try simp only [bl] at fb24
   refine oX (T := 24) (off := 1) (wS rfl rfl hb24) rfl Tryz.underlying27 rfl rfl rfl Tryz.sizeOf24 rfl rfl ?_
   refine o_load1 (wS rfl rfl hb24) rfl Tryz.isAgg24 rfl (by repeat constructor) (by repeat constructor) ?_
   refine o_lenSlc (wS rfl rfl hb24) rfl Tryz.underlying24 rfl (hsl) ?_
   refine o_pv (wS rfl rfl hb24) rfl rfl ?_
   refine oN ?_
   exact joins rfl
  refine' o_or trivial trivial rfl rfl rfl rfl rfl rfl rfl rfl (fun hb30 => ?_) ?_
  rotate_left
  ·
   have fb30 := hb30
   try simp only [bl] at fb30
   refine oX (T := 25) (off := 3) (wS rfl rfl hb30) rfl Tryz.underlying27 rfl rfl rfl Tryz.sizeOf25 rfl rfl ?_
   refine o_load1 (wS rfl rfl hb30) rfl Tryz.isAgg25 rfl (by repeat constructor) (by repeat constructor) ?_
   refine o_lenSlc (wS rfl rfl hb30) rfl Tryz.underlying25 rfl (hsa) ?_
   refine o_pv (wS rfl rfl hb30) rfl rfl ?_
   refine oN ?_
   exact joins rfl
  refine oN (tC ?_)
  refine cC rfl (fun h1 => ?_) (fun h1 => ?_)
  ·
   have f1 := h1
   try simp only [bl] at f1
   refine cS (cR ?_)
   refine oV ?_
   refine oN (tC (cT (tR ?_)))
   refine ret1 rfl rfl ?_
   refine leaf0 (congrArg Value.bool ?_)
   refine Eq.symm (Bool.eq_false_iff.2 fun hh => ?_)
   unfold rightZ at hh
   simp only [Bool.and_eq_true, decide_eq_true_eq, beq_iff_eq] at hh
   obtain ⟨⟨⟨⟨⟨⟨⟨⟨a1, a2⟩, a3⟩, ⟨b1, b2⟩, b3⟩, c1⟩, c2⟩, c3⟩, c4⟩, c5⟩ := hh
   simp [a1, b1] at h1
   omega
  have f1 := h1
  try simp only [bl] at f1
  have hsz : (namesOK p.ins = true ∧ 1 ≤ p.ins.length ∧ p.ins.length ≤ 40) ∧ (namesOK p.outs = true ∧ 1 ≤ p.outs.length ∧ p.outs.length ≤ 40) ∧ p.lets.length ≤ 40 ∧ p.all.length ≤ 400 := by
    obtain ⟨⟨⟨⟨⟨a1, a2⟩, a3⟩, ⟨b1, b2⟩, b3⟩, c1⟩, c2⟩ := f1
    exact ⟨⟨a1, by omega, a3⟩, ⟨b1, by omega, b3⟩, by omega, by omega⟩
  refine cK (tC (cS (cS (cR ?_))))
  refine oV ?_
  refine oN (tC (cB ?_))
  refine c_loop (ι := Nat) [1] (.cons rfl .nil) (fun i => ns.length - i) (fun i E0 => (5, .int .i64 (i : Nat)) :: E0) (fun i => St w [] I [.box b1 (.cells #[vi, vl, vo, va] 27 (0, 0))]) (fun i => i ≤ ns.length ∧ p.all.all (fun c => (partsZ c).isSome) = (p.all.drop i).all (fun c => (partsZ c).isSome)) (0) (sC rfl (sC rfl sN)) (fun _ h => h) (⟨Nat.zero_le _, rfl⟩) ?_
  rintro i ⟨hi, hall⟩
  try dsimp only
  refine cS (cS (cR ?_))
  refine oV ?_
  refine oF 3 Tryz.underlying27 Tryz.sizeOf25 ?_
  refine oL Tryz.isAgg25 ?_
  refine o_lenSlc trivial rfl Tryz.underlying25 rfl (hsa) ?_
  refine oV ?_
  refine oN (tC ?_)
  refine cC rfl (fun h2 => ?_) (fun h2 => ?_)
  ·
   have f2 := h2
   try simp only [bl] at f2
   obtain ⟨o, ho⟩ : ∃ o, ns[i]? = some o := ⟨ns[i]'(by omega), List.getElem?_eq_getElem (by omega)⟩
   have hom := List.mem_of_getElem? ho
   have hoc : p.all[i]? = some o.c := by rw [← hp.eq, List.getElem?_map, ho]; rfl
   have hw1 : Ws I o.vn o.c.n := (hp.ok o hom).1
   have hw2 : Ws I o.vd o.c.d := (hp.ok o hom).2
   refine cK (tC (cS (cB (cS (cR ?_)))))
   refine oF 3 Tryz.underlying27 Tryz.sizeOf25 ?_
   refine oL Tryz.isAgg25 ?_
   refine oV ?_
   refine o_elem trivial rfl Tryz.underlying25 Tryz.sizeOf44 rfl (hsa) rfl (by omega) ?_
   refine o_loadAI trivial rfl Tryz.isAgg44 Tryz.sizeOf44 rfl rfl (nds_at hsa ho) ?_
   refine o_callQ trivial rfl Tryz.call49 rfl (rrFields_any o (hp.ok o hom) (hf o hom)) ?_
   refine oV ?_
   refine oN (tC (cS (cR ?_)))
   iterate 2 refine oV ?_
   refine oN (tC ?_)
   refine cC rfl (fun h3 => ?_) (fun h3 => ?_)
   ·
    have f3 := h3
    try simp only [bl] at f3
    refine cS (cR ?_)
    refine oV ?_
    refine oN (tC (cT (blk_r (tR (tR (blk_r (tR ?_)))))))
    refine ret1 rfl rfl ?_
    refine leaf0 (congrArg Value.bool ?_)
    refine Eq.symm (Bool.eq_false_iff.2 fun hh => ?_)
    unfold rightZ at hh
    simp only [Bool.and_eq_true] at hh
    have h9 := hh.1.1.2
    rw [hall, all_step (p := fun c => (partsZ c).isSome) hoc, show (partsZ o.c).isSome = false by simpa using h3] at h9
    cases h9
   have f3 := h3
   try simp only [bl] at f3
   refine cK (blk_n (tC (cR ?_)))
   refine oV ?_
   first | (refine o_add trivial rfl rfl rfl ?_ ?_; (omega)) | refine oV ?_
   refine oV ?_
   refine oN ?_
   exact again (i + 1) (sC rfl (sC rfl sN)) (fun _ h => h) (by show ns.length - (i + 1) < ns.length - i; omega) ⟨by show i + 1 ≤ ns.length; omega, by rw [hall, all_step (p := fun c => (partsZ c).isSome) hoc, show (partsZ o.c).isSome = true by simpa using h3]; rfl⟩
  have f2 := h2
  try simp only [bl] at f2
  have hin : i = ns.length := by omega
  have hall1 : p.all.all (fun c => (partsZ c).isSome) = true := by rw [hall, hin, ← hal, List.drop_length]; rfl
  have hpt : ∀ c ∈ ns.map NodeV.c, (partsZ c).isSome = true := fun c hc => List.all_eq_true.1 hall1 c (by rw [← hp.eq]; exact hc)
  refine c_exit (then_x (then_x (blk_eq rfl (tC (cS (cR ?_))))))
  refine oV ?_
  refine oN (tC (cS (cS (cR ?_))))
  refine oV ?_
  refine oN (tC (cB ?_))
  refine c_loop (ι := Nat × Int) [1] (.cons rfl .nil) (fun x => p.lets.length - x.1) (fun x E0 => (7, .int .i64 x.2) :: (8, .int .i64 (x.1 : Nat)) :: E0) (fun x => St w [] I [.box b1 (.cells #[vi, vl, vo, va] 27 (0, 0))]) (fun x => x.1 ≤ p.lets.length ∧ 0 ≤ x.2 ∧ x.2 ≤ ns.length ∧ bgGo p.all p.lets 0 = bgGo p.all (p.lets.drop x.1) x.2) ((0, 0)) (sC rfl (sC rfl (sC rfl sN))) (fun _ h => h) (⟨Nat.zero_le _, Int.le_refl _, by omega, rfl⟩) ?_
  rintro ⟨j, fr⟩ ⟨hj, hfr0, hfr1, hgo⟩
  try dsimp only
  refine cS (cS (cR ?_))
  refine oV ?_
  refine oF 1 Tryz.underlying27 Tryz.sizeOf24 ?_
  refine oL Tryz.isAgg24 ?_
  refine o_lenSlc trivial rfl Tryz.underlying24 rfl (hsl) ?_
  refine oV ?_
  refine oN (tC ?_)
  refine cC rfl (fun h4 => ?_) (fun h4 => ?_)
  ·
   have f4 := h4
   try simp only [bl] at f4
   obtain ⟨c, hc⟩ : ∃ c, p.lets[j]? = some c := ⟨p.lets[j]'(by omega), List.getElem?_eq_getElem (by omega)⟩
   have hdr : p.lets.drop j = c :: p.lets.drop (j + 1) := by rw [List.drop_eq_getElem_cons (List.getElem?_eq_some_iff.1 hc).1, (List.getElem?_eq_some_iff.1 hc).2]
   rw [hdr, bgGo_cons] at hgo
   refine cK (tC (cS (cB (cS (cR ?_)))))
   refine oF 1 Tryz.underlying27 Tryz.sizeOf24 ?_
   refine oL Tryz.isAgg24 ?_
   refine oV ?_
   refine o_elem trivial rfl Tryz.underlying24 Tryz.sizeOf46 rfl (hsl) rfl (by omega) ?_
   refine oF 1 Tryz.underlying46 Tryz.sizeOf3 ?_
   refine o_load1I trivial rfl Tryz.isAgg3 rfl (lts_at hsl hc 1 _ rfl) ?_
   refine oV ?_
   refine oN (tC (cS (cR ?_)))
   refine oF 1 Tryz.underlying27 Tryz.sizeOf24 ?_
   refine oL Tryz.isAgg24 ?_
   refine oV ?_
   refine o_elem trivial rfl Tryz.underlying24 Tryz.sizeOf46 rfl (hsl) rfl (by omega) ?_
   refine oF 0 Tryz.underlying46 Tryz.sizeOf9 ?_
   refine o_load1I trivial rfl Tryz.isAgg9 rfl (lts_at hsl hc 0 _ rfl) ?_
   refine oP trivial rfl Tryz.call50 rfl (refName_all _) ?_
   refine oV ?_
   refine oN (tC (cS (cS (cR ?_))))
   iterate 2 refine oV ?_
   refine' o_or trivial trivial rfl rfl rfl rfl rfl rfl rfl rfl (fun hb73 => ?_) ?_
   rotate_left
   ·
    iterate 3 refine o_pv (wS rfl rfl hb73) rfl rfl ?_
    refine oN ?_
    exact joins rfl
   refine' o_or trivial trivial rfl rfl rfl rfl rfl rfl rfl rfl (fun hb78 => ?_) ?_
   rotate_left
   ·
    have fb78 := hb78
    try simp only [bl] at fb78
    refine o_pv (wS rfl rfl hb78) rfl rfl ?_
    refine oX (T := 25) (off := 3) (wS rfl rfl hb78) rfl Tryz.underlying27 rfl rfl rfl Tryz.sizeOf25 rfl rfl ?_
    refine o_load1 (wS rfl rfl hb78) rfl Tryz.isAgg25 rfl (by repeat constructor) (by repeat constructor) ?_
    refine o_lenSlc (wS rfl rfl hb78) rfl Tryz.underlying25 rfl (hsa) ?_
    refine o_pv (wS rfl rfl hb78) rfl rfl ?_
    refine oN ?_
    exact joins rfl
   refine oN (tC ?_)
   refine cC rfl (fun h5 => ?_) (fun h5 => ?_)
   ·
    have f5 := h5
    try simp only [bl] at f5
    refine cS (cR ?_)
    refine oV ?_
    refine oN (tC (cT (tR (blk_r (tR (tR (blk_r (tR ?_))))))))
    refine ret1 rfl rfl ?_
    refine leaf0 (congrArg Value.bool ?_)
    rw [if_neg (by rintro ⟨g1, g2, g3, g4⟩; simp [g1] at h5; omega)] at hgo
    unfold rightZ
    rw [hgo]
    simp
   have f5 := h5
   try simp only [bl] at f5
   refine cK (tC (cS (cS (cR ?_))))
   refine oF 3 Tryz.underlying27 Tryz.sizeOf25 ?_
   refine oL Tryz.isAgg25 ?_
   iterate 2 refine oV ?_
   refine o_callQ trivial rfl Tryz.call51 rfl (rrBegin_any va ns fr hsa hp.ok hpt (by omega) (by omega) p.all.length c.root (by omega) (by omega) (by omega)) ?_
   iterate 2 refine oV ?_
   refine oN (tC ?_)
   refine cC rfl (fun h6 => ?_) (fun h6 => ?_)
   ·
    have f6 := h6
    try simp only [bl] at f6
    refine cS (cR ?_)
    refine oV ?_
    refine oN (tC (cT (tR (blk_r (tR (tR (blk_r (tR ?_))))))))
    refine ret1 rfl rfl ?_
    refine leaf0 (congrArg Value.bool ?_)
    rw [if_neg (by rintro ⟨g1, g2, g3, g4⟩; rw [hp.eq] at f6; exact f6 g4)] at hgo
    unfold rightZ
    rw [hgo]
    simp
   have f6 := h6
   try simp only [bl] at f6
   refine cK (tC (cR ?_))
   refine oV ?_
   first | (refine o_add trivial rfl rfl rfl ?_ ?_; (omega)) | refine oV ?_
   refine oV ?_
   refine oN (blk_n (tC (cR ?_)))
   refine oV ?_
   first | (refine o_add trivial rfl rfl rfl ?_ ?_; (omega)) | refine oV ?_
   refine oV ?_
   refine oN ?_
   exact again (j + 1, c.root + 1) (sC rfl (sC rfl (sC rfl sN))) (fun _ h => h) (by show p.lets.length - (j + 1) < p.lets.length - j; omega) ⟨by show j + 1 ≤ p.lets.length; omega, by show 0 ≤ c.root + 1; omega, by show c.root + 1 ≤ ns.length; omega, by
     rw [if_pos ⟨by simp at h5; exact h5.1.1, by omega, by omega, by rw [hp.eq] at f6; exact f6⟩] at hgo
     exact hgo⟩
  have f4 := h4
  try simp only [bl] at f4
  have hjn : j = p.lets.length := by omega
  rw [hjn, List.drop_length, bgGo_nil] at hgo
  refine c_exit (then_x (then_x (blk_eq rfl (tC (cS (cS (cR ?_)))))))
  refine oV ?_
  refine oF 3 Tryz.underlying27 Tryz.sizeOf25 ?_
  refine oL Tryz.isAgg25 ?_
  refine o_lenSlc trivial rfl Tryz.underlying25 rfl (hsa) ?_
  refine oV ?_
  refine oN (tC ?_)
  refine cC rfl (fun h7 => ?_) (fun h7 => ?_)
  ·
   have f7 := h7
   try simp only [bl] at f7
   refine cS (cR ?_)
   refine oV ?_
   refine oN (tC (cT (tR ?_)))
   refine ret1 rfl rfl ?_
   refine leaf0 (congrArg Value.bool ?_)
   have : (bgGo p.all p.lets 0 == some (p.all.length : Int)) = false := by rw [hgo, beq_eq_false_iff_ne]; intro h; have := Option.some.inj h; omega
   unfold rightZ
   rw [this]
   simp
  have f7 := h7
  try simp only [bl] at f7
  have hgo1 : bgGo p.all p.lets 0 = some (p.all.length : Int) := by rw [hgo]; congr 1; omega
  obtain ⟨l, hl⟩ := right_shaped hall1 hgo1
  have hlow := shaped_low hl
  refine cK (tC (cS (cR ?_)))
  refine oA Tryz.isAgg27 Tryz.sizeOf27 ?_
  refine o_callQ trivial rfl Tryz.call45 rfl (rrLong_any vi vl vo va p ns hp hlow (by omega)) ?_
  refine oV ?_
  refine oN (tC (cS (cR ?_)))
  iterate 3 refine oV ?_
  refine oN (tC (cT ?_))
  refine ret1 rfl rfl ?_
  refine leaf0 (congrArg Value.bool ?_)
  unfold rightZ
  rw [hall1, hgo1, hsz.1.1, hsz.2.1.1]
  rw [decide_eq_true hsz.1.2.1, decide_eq_true hsz.1.2.2, decide_eq_true hsz.2.1.2.1, decide_eq_true hsz.2.1.2.2, decide_eq_true hsz.2.2.1, decide_eq_true hsz.2.2.2]
  simp
theorem few_of {p : ProgC} {ns : List NodeV} {k : Int} (h : fewP p k = true) (he : ns.map NodeV.c = p.all) : (p.all.length : Int) ≤ k ∧ p.ins.length ≤ 8 ∧ p.lets.length ≤ 8 ∧ p.outs.length ≤ 8 ∧ (∀ o ∈ ns, o.c.few 6) ∧ ∀ o ∈ ns, o.c.name.size ≤ 60 := by
  unfold fewP at h
  rw [Bool.and_eq_true, decide_eq_true_eq, List.all_eq_true] at h
  obtain ⟨⟨h1, h2, h3, h4⟩, h5⟩ := h
  refine ⟨h1, h2, h3, h4, fun o ho => ?_, fun o ho => ?_⟩
  · have := h5 o.c (by rw [← he]; exact List.mem_map_of_mem ho)
    rw [decide_eq_true_eq] at this
    exact ⟨this.1, this.2.1⟩
  · have := h5 o.c (by rw [← he]; exact List.mem_map_of_mem ho)
    rw [decide_eq_true_eq] at this
    exact this.2.2
theorem few_up {c : NodeC} {k m : Nat} (h : c.few k) (hk : k ≤ m) : c.few m := ⟨Nat.le_trans h.1 hk, Nat.le_trans h.2 hk⟩
theorem TreeRights_any (vi vl vo va : Value) (p : ProgC) (ns : List NodeV) {I : Hp} (hp : ProgV I vi vl vo va p ns) (hT : Tabs I) (hM : Mx I) (hE : Errs I) : Fun Tryz.prog 4 [.agg #[vi, vl, vo, va]] I [] (fun v _ _ => v = .bool true) := by
  have hsi := hp.si
  have hsl := hp.sl
  have hso := hp.so
  have hsa := hp.sa
  have hal : p.all.length = ns.length := by rw [← hp.eq, List.length_map]
  intro w hw
  refine enter1 _ Tryz.func4 rfl Tryz.ntmps4 rfl ?_ hw
  refine cS (cR ?_)
  refine o_box trivial rfl rfl rfl (fun b1 => ?_)
  refine oV ?_
  refine oN (tC (cS (cR ?_)))
  refine o_callQ trivial rfl Tryz.call14 rfl (awake11_any hT hM hE) ?_
  refine oV ?_
  refine oN (tC (cS (cR ?_)))
  refine oA Tryz.isAgg27 Tryz.sizeOf27 ?_
  refine o_callQ trivial rfl Tryz.call18 rfl (rrFew_any vi vl vo va p ns 40 hp) ?_
  refine oV ?_
  refine oN (tC (cS (cS (cR ?_))))
  iterate 2 refine oV ?_
  refine oN (tC ?_)
  refine cC rfl (fun h1 => ?_) (fun h1 => ?_)
  ·
   have f1 := h1
   try simp only [bl] at f1
   refine cS (cR ?_)
   iterate 2 refine oV ?_
   refine oN (tC (cT (tR ?_)))
   refine ret1 rfl rfl ?_
   first | exact leaf0 rfl | (refine leaf hx1 (List.nil_sublist _) (congrArg Value.bool ?_); simp) | (refine leaf0 (congrArg Value.bool ?_); simp)
  have f1 := h1
  try simp only [bl] at f1
  obtain ⟨m1, m2, m3, m4, m5, m6⟩ := few_of (p := p) (ns := ns) (k := 40) (by simpa using h1) hp.eq
  have hr3 : ∀ o ∈ ns, o.c.few 3000 := fun o ho => few_up (m5 o ho) (by decide)
  have hr4 : ∀ o ∈ ns, o.c.few 100000 := fun o ho => few_up (m5 o ho) (by decide)
  have hri := trRight_any vi vl vo va p ns hp hr4
  have hrr := rrRight_any vi vl vo va p ns hp hr3
  rw [rightZ_eq] at hrr
  refine cK (tC (cS (cR ?_)))
  refine oA Tryz.isAgg27 Tryz.sizeOf27 ?_
  refine o_callQ trivial rfl Tryz.call19 rfl hrr ?_
  refine oV ?_
  refine oN (tC (cS (cR ?_)))
  refine oV ?_
  refine oN (tC (cS (cS (cR ?_))))
  refine oV ?_
  refine oN (tC ?_)
  refine cC rfl (fun h2 => ?_) (fun h2 => ?_)
  ·
   have f2 := h2
   try simp only [bl] at f2
   obtain ⟨l, hl⟩ := tZ_iff.1 h2
   have hgd : (tZ p).getD [] = heightsZ p.all := by rw [heights_laid hl.toShaped, tZ_right hl]; rfl
   refine cR ?_
   refine oA Tryz.isAgg27 Tryz.sizeOf27 ?_
   refine o_callI trivial rfl Tryz.call20 rfl (rrHeights_any vi vl vo va p ns hp (shaped_low hl.toShaped) (by omega)) ?_
   rintro v17 I1 hx1 hs1
   refine oV ?_
   refine oN (tC (cS ?_))
   have hri2 := by first | exact trRight_any vi vl vo va p ns (hp.le hx1.le) hr4 | exact hri
   have hhe2 := by first | exact trHeights_any vi vl vo va p ns (hp.le hx1.le) hr4 | exact trHeights_any vi vl vo va p ns hp hr4
   rw [hgd] at hhe2
   refine cR ?_
   refine oV ?_
   refine' o_and trivial trivial rfl rfl rfl rfl rfl rfl rfl rfl (fun hb19 => ?_) ?_
   rotate_left
   ·
    have fb19 := hb19
    try simp only [bl] at fb19
    refine o_loadA (wS rfl rfl hb19) rfl Tryz.isAgg27 Tryz.sizeOf27 rfl (by repeat constructor) (by repeat constructor) ?_
    refine o_callQ (wS rfl rfl hb19) rfl Tryz.call21 rfl hri2 ?_
    refine o_pv (wS rfl rfl hb19) rfl rfl ?_
    refine o_eqlB (wS rfl rfl hb19) rfl rfl rfl Tryz.underlying4 ?_
    refine oN ?_
    exact joins rfl
   refine' o_and trivial trivial rfl rfl rfl rfl rfl rfl rfl rfl (fun hb25 => ?_) ?_
   rotate_left
   ·
    have fb25 := hb25
    try simp only [bl] at fb25
    refine o_loadA (wS rfl rfl hb25) rfl Tryz.isAgg27 Tryz.sizeOf27 rfl (by repeat constructor) (by repeat constructor) ?_
    refine o_callI (wS rfl rfl hb25) rfl Tryz.call23 rfl hhe2 ?_
    rintro v27 I2 hx2 hs2
    refine o_pv (wS rfl rfl hb25) rfl rfl ?_
    refine o_callQ (wS rfl rfl hb25) rfl Tryz.call22 rfl (by first | exact ints_any _ _ (heightsZ p.all) hs2 (hs1.le hx2.le) | exact ints_any _ _ [] hs2 (Slc.nil _ _)) ?_
    refine oN ?_
    exact joinsW rfl (fun _ h => (h.sort (by repeat constructor)).fewer (hx2.le))
   refine oV ?_
   refine oN (tC (cT ?_))
   refine ret1 rfl rfl ?_
   first | exact leaf0 rfl | (refine leaf hx1 (List.nil_sublist _) (congrArg Value.bool ?_); simp) | (refine leaf0 (congrArg Value.bool ?_); simp)
  have f2 := h2
  try simp only [bl] at f2
  have hgd : (tZ p).getD [] = [] := by
    cases e : tZ p with
    | none => rfl
    | some o => rw [e] at h2; cases h2
  refine cK (tC (cS ?_))
  have hri2 := by first | exact trRight_any vi vl vo va p ns (hp.le hx1.le) hr4 | exact hri
  have hhe2 := by first | exact trHeights_any vi vl vo va p ns (hp.le hx1.le) hr4 | exact trHeights_any vi vl vo va p ns hp hr4
  rw [hgd] at hhe2
  refine cR ?_
  refine oV ?_
  refine' o_and trivial trivial rfl rfl rfl rfl rfl rfl rfl rfl (fun hb19 => ?_) ?_
  rotate_left
  ·
   have fb19 := hb19
   try simp only [bl] at fb19
   refine o_loadA (wS rfl rfl hb19) rfl Tryz.isAgg27 Tryz.sizeOf27 rfl (by repeat constructor) (by repeat constructor) ?_
   refine o_callQ (wS rfl rfl hb19) rfl Tryz.call21 rfl hri2 ?_
   refine o_pv (wS rfl rfl hb19) rfl rfl ?_
   refine o_eqlB (wS rfl rfl hb19) rfl rfl rfl Tryz.underlying4 ?_
   refine oN ?_
   exact joins rfl
  refine' o_and trivial trivial rfl rfl rfl rfl rfl rfl rfl rfl (fun hb25 => ?_) ?_
  rotate_left
  ·
   have fb25 := hb25
   try simp only [bl] at fb25
   refine o_loadA (wS rfl rfl hb25) rfl Tryz.isAgg27 Tryz.sizeOf27 rfl (by repeat constructor) (by repeat constructor) ?_
   refine o_callI (wS rfl rfl hb25) rfl Tryz.call23 rfl hhe2 ?_
   rintro v27 I2 hx2 hs2
   refine o_pv (wS rfl rfl hb25) rfl rfl ?_
   refine o_callQ (wS rfl rfl hb25) rfl Tryz.call22 rfl (by first | exact ints_any _ _ (heightsZ p.all) hs2 (hs1.le hx2.le) | exact ints_any _ _ [] hs2 (Slc.nil _ _)) ?_
   refine oN ?_
   exact joinsW rfl (fun _ h => (h.sort (by repeat constructor)).fewer (hx2.le))
  refine oV ?_
  refine oN (tC (cT ?_))
  refine ret1 rfl rfl ?_
  first | exact leaf0 rfl | (refine leaf hx1 (List.nil_sublist _) (congrArg Value.bool ?_); simp) | (refine leaf0 (congrArg Value.bool ?_); simp)
end Go.Proofs.YtmgpifkekofacaaGreatDoor
namespace Go.Tw
open Go Go.RowKit Go.ChangeShapes Go.WideShapes Go.ChangeAt Go.Deep
def Tr {H : Type} (enc : TypeId × Value → H) (P : Program) (W : World) (t : TypeId) (cs : List Value) : Prop := ∃ n x, DataW.trod enc P W 0 (fun _ => true) true n t cs = some x
section
variable {base : Nat} {H : Type} {enc : TypeId × Value → H} {P : Program} {W : World} {t e : TypeId} {v : Value} {cs : List Value} {d : DataW H} {ps : List MemPlace}
theorem tr_of_struct {fs : Array Field} (ht : P.underlying t = some (.struct fs)) (hval : Value.okWide P W .any base t v) (h : DataW.Trod enc P W 0 (fun _ => true) true t v d ps) : ∃ cs : List Value, v = .agg cs.toArray ∧ Tr enc P W t cs := by
  obtain ⟨cs, rfl, _⟩ := okWide_struct ht hval
  obtain ⟨n, h⟩ := h
  exact ⟨cs.toList, by simp, n, _, h⟩
theorem tr_int {k : IntKind} (ht : P.underlying t = some (.int k)) (h : Tr enc P W t [v]) : ∃ z, v = .int k z ∧ (Lit.int k z).wf = true := by
  obtain ⟨n, x, h⟩ := h
  obtain ⟨z, h1, _, h2⟩ := DataW.trod_int ht h
  exact ⟨z, (List.cons.inj h1).1, h2⟩
theorem tr_bool (ht : P.underlying t = some .bool) (h : Tr enc P W t [v]) : ∃ b, v = .bool b := by
  obtain ⟨n, x, h⟩ := h
  obtain ⟨z, h1, _⟩ := DataW.trod_bool ht h
  exact ⟨z, (List.cons.inj h1).1⟩
theorem tr_string (ht : P.underlying t = some .string) (h : Tr enc P W t [v]) : ∃ s : ByteArray, v = .string s ∧ s.size ≤ maxLen := by
  obtain ⟨n, x, h⟩ := h
  obtain ⟨z, h1, _, h2⟩ := DataW.trod_string ht h
  exact ⟨z, (List.cons.inj h1).1, h2⟩
theorem tr_struct {fs : Array Field} (ht : P.underlying t = some (.struct fs)) (h : Tr enc P W t cs) : cs.length = P.cellsOf t ∧ ∀ (i : Nat) (f : Field), fs[i]? = some f → Tr enc P W f.type ((cs.drop f.offset).take (P.cellsOf f.type)) := by
  obtain ⟨n, x, h⟩ := h
  obtain ⟨xs, m, _, _, hl, hx, hf⟩ := DataW.trod_struct ht h
  refine ⟨hl, fun i f hi => ?_⟩
  have h1 := hf i f hi
  have hlt : i < xs.length := by rw [hx]; exact (Array.getElem?_eq_some_iff.1 hi).1
  rw [List.getElem?_eq_getElem hlt] at h1
  exact ⟨m, _, h1⟩
theorem tr_rows {sz : Nat} (ht : P.underlying t = some (.slice e)) (hsz : P.cellsOf e = sz) (hpos : 0 < sz) (h : Tr enc P W t [v]) : ∃ xss : List (List Value), Slc (World.hp W) sz v xss ∧ ∀ c ∈ xss, Tr enc P W e c := by
  obtain ⟨n, x, h⟩ := h
  rcases open_slice ht h with ⟨h1, _⟩ | ⟨a, len, cap, m, n', D, Pl, h1, hb, hl, hc, hm, _, hx⟩
  · obtain rfl := (List.cons.inj h1).1
    exact ⟨[], Slc.nil _ _, fun c hc => by cases hc⟩
  · obtain rfl := (List.cons.inj h1).1
    subst hsz
    simp only [if_true] at hm
    subst hm
    obtain ⟨G, hG⟩ := choose_lt (α := List Value) (p := fun i cs' => W.cells? 0 (a.add (i * P.cellsOf e)) (P.cellsOf e) = some cs' ∧ DataW.trod enc P W 0 (fun _ => true) true n' e cs' = some (D i, Pl i)) hx
    have hcell : ∀ i, i < m → (G i).length = P.cellsOf e ∧ ∀ k, k < P.cellsOf e → W.cell? (a.add (i * P.cellsOf e + k)) = (G i)[k]? := fun i hi => by
      obtain ⟨h2, h3, h4⟩ := World.cells?_some (hG i hi).1
      refine ⟨h3, fun k hk => ?_⟩
      rw [← h4 k hk, add_add]
    refine ⟨(List.range len).map G, ?_, fun c hc => ?_⟩
    · have hlen : ((List.range len).map G).length = len := by simp
      have hlens : ∀ c ∈ (List.range len).map G, c.length = P.cellsOf e := fun c hc => by
        obtain ⟨i, hi, rfl⟩ := List.mem_map.1 hc
        exact (hcell i (by have := List.mem_range.1 hi; omega)).1
      by_cases h0 : m = 0
      · have hl0 : len = 0 := by omega
        subst h0
        subst hl0
        exact Slc.nilA _ _ _
      · have hsp : a.spot = none := by
          have h2 := (hcell 0 (by omega)).2 0 hpos
          have h3 : 0 < (G 0).length := by rw [(hcell 0 (by omega)).1]; exact hpos
          rw [List.getElem?_eq_getElem h3] at h2
          unfold World.cell? at h2
          split at h2
          · split at h2
            · cases h2
            · rename_i hs
              have hz : a.add (0 * P.cellsOf e + 0) = a := by rw [Nat.zero_mul]; unfold Addr.add; simp
              rw [hz] at hs
              cases hsp : a.spot with
              | none => rfl
              | some s => rw [hsp] at hs; simp at hs
          · cases h2
        obtain ⟨b, off, s⟩ := a
        change s = none at hsp
        subst hsp
        refine ⟨.inr ⟨b, off, m, by rw [hlen], by rw [hlen]; exact hl⟩, fun j c hj k u hk => ?_, hlens, by rw [hlen]; omega⟩
        rw [List.getElem?_map] at hj
        have hjl : j < len := by
          by_cases hjl : j < len
          · exact hjl
          · rw [List.getElem?_eq_none (by simp; omega)] at hj; cases hj
        rw [List.getElem?_range hjl] at hj
        cases hj
        have hkl := (List.getElem?_eq_some_iff.1 hk).1
        rw [(hcell j (by omega)).1] at hkl
        have h2 := (hcell j (by omega)).2 k hkl
        rw [hk, add_none] at h2
        rw [hp_cell]
        simp only [slcB, slcO]
        rw [Nat.add_assoc]
        exact h2
    · obtain ⟨i, hi, rfl⟩ := List.mem_map.1 hc
      exact ⟨n', _, (hG i (by have := List.mem_range.1 hi; omega)).2⟩
theorem tr_ints {k : IntKind} {xss : List (List Value)} {sz : Nat} (ht : P.underlying t = some (.int k)) (hs : Slc (World.hp W) 1 v xss) (h : ∀ c ∈ xss, Tr enc P W t c) : ∃ zs : List Int, xss = zs.map (fun z => [.int k z]) ∧ ∀ z ∈ zs, (Lit.int k z).wf = true := by
  have key : ∀ (l : List (List Value)), (∀ c ∈ l, c.length = 1 ∧ Tr enc P W t c) → ∃ zs : List Int, l = zs.map (fun z => [.int k z]) ∧ ∀ z ∈ zs, (Lit.int k z).wf = true := by
    intro l
    induction l with
    | nil => exact fun _ => ⟨[], rfl, fun z hz => by cases hz⟩
    | cons c l ih =>
      intro hl
      obtain ⟨zs, h1, h2⟩ := ih fun c hc => hl c (List.mem_cons_of_mem _ hc)
      obtain ⟨h3, h4⟩ := hl c List.mem_cons_self
      match c, h3 with
      | [x], _ =>
        obtain ⟨z, rfl, h5⟩ := tr_int ht h4
        exact ⟨z :: zs, by rw [h1]; rfl, fun y hy => by
          rcases List.mem_cons.1 hy with rfl | hy
          · exact h5
          · exact h2 y hy⟩
  exact key xss fun c hc => ⟨hs.lens c hc, h c hc⟩
theorem rows_map {α : Type} {f : α → List Value} {p : α → Prop} {xss : List (List Value)} (h : ∀ c ∈ xss, ∃ a, c = f a ∧ p a) : ∃ zs : List α, xss = zs.map f ∧ ∀ a ∈ zs, p a := by
  induction xss with
  | nil => exact ⟨[], rfl, fun a h => by cases h⟩
  | cons c l ih =>
    obtain ⟨zs, h1, h2⟩ := ih fun c hc => h c (List.mem_cons_of_mem _ hc)
    obtain ⟨a, ha, hp⟩ := h c List.mem_cons_self
    exact ⟨a :: zs, by rw [ha, h1]; rfl, fun b hb => by
      rcases List.mem_cons.1 hb with rfl | hb
      · exact hp
      · exact h2 b hb⟩
end
end Go.Tw
namespace Go.Proofs.YtmgpifkekofacaaGreatDoor
open Go Go.Tw Go.ChangeShapes Go.WideShapes Go.ChangeAt
set_option maxRecDepth 100000
section
variable {base : Nat} {H : Type} {enc : TypeId × Value → H} {W : World} {v : Value} {cs : List Value} {d : DataW H} {ps : List MemPlace}
theorem ce_int : Tryz.prog.cellsOf 3 = 1 := by kernel_rfl
theorem ce_bool : Tryz.prog.cellsOf 4 = 1 := by kernel_rfl
theorem ce_str : Tryz.prog.cellsOf 9 = 1 := by kernel_rfl
theorem ce_u32 : Tryz.prog.cellsOf 101 = 1 := by kernel_rfl
theorem ce_u32s : Tryz.prog.cellsOf 40 = 1 := by kernel_rfl
theorem ce_rat : Tryz.prog.cellsOf 42 = 3 := by kernel_rfl
theorem ce_node : Tryz.prog.cellsOf 44 = 8 := by kernel_rfl
theorem ce_let : Tryz.prog.cellsOf 46 = 2 := by kernel_rfl
theorem ce_prog : Tryz.prog.cellsOf 27 = 4 := by kernel_rfl
theorem ce_strs : Tryz.prog.cellsOf 23 = 1 := by kernel_rfl
theorem ce_lets : Tryz.prog.cellsOf 24 = 1 := by kernel_rfl
theorem ce_nodes : Tryz.prog.cellsOf 25 = 1 := by kernel_rfl
theorem of2 {l : List Value} (h : l.length = 2) : ∃ a b, l = [a, b] := by
  match l, h with
  | [a, b], _ => exact ⟨a, b, rfl⟩
theorem of3 {l : List Value} (h : l.length = 3) : ∃ a b c, l = [a, b, c] := by
  match l, h with
  | [a, b, c], _ => exact ⟨a, b, c, rfl⟩
theorem of4 {l : List Value} (h : l.length = 4) : ∃ a b c d, l = [a, b, c, d] := by
  match l, h with
  | [a, b, c, d], _ => exact ⟨a, b, c, d, rfl⟩
theorem of8 {l : List Value} (h : l.length = 8) : ∃ a b c d e f g i, l = [a, b, c, d, e, f, g, i] := by
  match l, h with
  | [a, b, c, d, e, f, g, i], _ => exact ⟨a, b, c, d, e, f, g, i, rfl⟩
theorem tr_wds (h : Tr enc Tryz.prog W 40 [v]) : ∃ O, Ws (World.hp W) v O := by
  obtain ⟨xss, h1, h2⟩ := tr_rows Tryz.underlying40 ce_u32 (by decide) h
  obtain ⟨zs, rfl, h3⟩ := tr_ints (sz := 1) Tryz.underlying101 h1 h2
  refine ⟨zs.map Int.toNat, ⟨?_, fun x hx => ?_⟩⟩
  · have e : wcs (zs.map Int.toNat) = zs.map (fun z => [Value.int .u32 z]) := by
      unfold wcs
      rw [List.map_map]
      refine List.map_congr_left fun z hz => ?_
      have := bounds_u32 (h3 z hz)
      show [Value.int .u32 ((z.toNat : Nat) : Int)] = _
      rw [Int.toNat_of_nonneg this.1]
    rw [e]; exact h1
  · obtain ⟨z, hz, rfl⟩ := List.mem_map.1 hx
    have := bounds_u32 (h3 z hz)
    omega
theorem tr_num (h : Tr enc Tryz.prog W 42 cs) : ∃ s n d b c, cs = [.bool s, b, c] ∧ Ws (World.hp W) b n ∧ Ws (World.hp W) c d := by
  obtain ⟨h1, h2⟩ := tr_struct Tryz.underlying42 h
  obtain ⟨a, b, c, rfl⟩ := of3 (by rw [h1]; exact ce_rat)
  have k0 := h2 0 _ rfl
  have k1 := h2 1 _ rfl
  have k2 := h2 2 _ rfl
  change Tr enc Tryz.prog W 4 (List.take (Tryz.prog.cellsOf 4) [a, b, c]) at k0
  change Tr enc Tryz.prog W 40 (List.take (Tryz.prog.cellsOf 40) [b, c]) at k1
  change Tr enc Tryz.prog W 40 (List.take (Tryz.prog.cellsOf 40) [c]) at k2
  rw [ce_bool] at k0
  rw [ce_u32s] at k1 k2
  obtain ⟨s, rfl⟩ := tr_bool Tryz.underlying4 k0
  obtain ⟨n, hn⟩ := tr_wds k1
  obtain ⟨dd, hd⟩ := tr_wds k2
  exact ⟨s, n, dd, b, c, rfl, hn, hd⟩
theorem tr_node (h : Tr enc Tryz.prog W 44 cs) : ∃ o : NodeV, cs = o.cells ∧ o.ok (World.hp W) := by
  obtain ⟨h1, h2⟩ := tr_struct Tryz.underlying44 h
  obtain ⟨a, b, c, d, e, f, g, i, rfl⟩ := of8 (by rw [h1]; exact ce_node)
  have k0 := h2 0 _ rfl
  have k1 := h2 1 _ rfl
  have k2 := h2 2 _ rfl
  have k3 := h2 3 _ rfl
  have k4 := h2 4 _ rfl
  have k5 := h2 5 _ rfl
  change Tr enc Tryz.prog W 3 (List.take (Tryz.prog.cellsOf 3) [a, b, c, d, e, f, g, i]) at k0
  change Tr enc Tryz.prog W 3 (List.take (Tryz.prog.cellsOf 3) [b, c, d, e, f, g, i]) at k1
  change Tr enc Tryz.prog W 3 (List.take (Tryz.prog.cellsOf 3) [c, d, e, f, g, i]) at k2
  change Tr enc Tryz.prog W 3 (List.take (Tryz.prog.cellsOf 3) [d, e, f, g, i]) at k3
  change Tr enc Tryz.prog W 9 (List.take (Tryz.prog.cellsOf 9) [e, f, g, i]) at k4
  change Tr enc Tryz.prog W 42 (List.take (Tryz.prog.cellsOf 42) [f, g, i]) at k5
  rw [ce_int] at k0 k1 k2 k3
  rw [ce_str] at k4
  rw [ce_rat] at k5
  obtain ⟨z0, rfl, b0⟩ := tr_int Tryz.underlying3 k0
  obtain ⟨z1, rfl, b1⟩ := tr_int Tryz.underlying3 k1
  obtain ⟨z2, rfl, b2⟩ := tr_int Tryz.underlying3 k2
  obtain ⟨z3, rfl, b3⟩ := tr_int Tryz.underlying3 k3
  obtain ⟨s, rfl, _⟩ := tr_string Tryz.underlying9 k4
  obtain ⟨ng, n, dd, vb, vc, hx, hn, hd⟩ := tr_num k5
  obtain ⟨rfl, h5⟩ := List.cons.inj hx
  obtain ⟨rfl, h6⟩ := List.cons.inj h5
  obtain ⟨rfl, _⟩ := List.cons.inj h6
  exact ⟨⟨⟨z0, z1, z2, z3, s, ng, n, dd⟩, g, i⟩, rfl, hn, hd⟩
theorem tr_let (h : Tr enc Tryz.prog W 46 cs) : ∃ o : LetC, cs = o.cells ∧ True := by
  obtain ⟨h1, h2⟩ := tr_struct Tryz.underlying46 h
  obtain ⟨a, b, rfl⟩ := of2 (by rw [h1]; exact ce_let)
  have k0 := h2 0 _ rfl
  have k1 := h2 1 _ rfl
  change Tr enc Tryz.prog W 9 (List.take (Tryz.prog.cellsOf 9) [a, b]) at k0
  change Tr enc Tryz.prog W 3 (List.take (Tryz.prog.cellsOf 3) [b]) at k1
  rw [ce_str] at k0
  rw [ce_int] at k1
  obtain ⟨s, rfl, _⟩ := tr_string Tryz.underlying9 k0
  obtain ⟨z, rfl, _⟩ := tr_int Tryz.underlying3 k1
  exact ⟨⟨s, z⟩, rfl, trivial⟩
theorem tr_strs (h : Tr enc Tryz.prog W 23 [v]) : ∃ l : List ByteArray, Slc (World.hp W) 1 v (scs l) := by
  obtain ⟨xss, s1, s2⟩ := tr_rows (sz := 1) Tryz.underlying23 ce_str (by decide) h
  obtain ⟨zs, rfl, _⟩ := rows_map (f := fun s : ByteArray => [Value.string s]) (p := fun _ => True) fun c hc => by
    have hl := s1.lens c hc
    match c, hl with
    | [x], _ =>
      obtain ⟨s, rfl, _⟩ := tr_string Tryz.underlying9 (s2 _ hc)
      exact ⟨s, rfl, trivial⟩
  exact ⟨zs, s1⟩
theorem open_Pg (hval : Value.okWide Tryz.prog W .any base 27 v) (h : DataW.Trod enc Tryz.prog W 0 (fun _ => true) true 27 v d ps) : ∃ (p : ProgC) (vi vl vo va : Value) (ns : List NodeV), v = .agg #[vi, vl, vo, va] ∧ ProgV (World.hp W) vi vl vo va p ns := by
  obtain ⟨cs, rfl, hh⟩ := tr_of_struct Tryz.underlying27 hval h
  obtain ⟨h1, h2⟩ := tr_struct Tryz.underlying27 hh
  obtain ⟨a, b, c, e, rfl⟩ := of4 (by rw [h1]; exact ce_prog)
  have k0 := h2 0 _ rfl
  have k1 := h2 1 _ rfl
  have k2 := h2 2 _ rfl
  have k3 := h2 3 _ rfl
  change Tr enc Tryz.prog W 23 (List.take (Tryz.prog.cellsOf 23) [a, b, c, e]) at k0
  change Tr enc Tryz.prog W 24 (List.take (Tryz.prog.cellsOf 24) [b, c, e]) at k1
  change Tr enc Tryz.prog W 23 (List.take (Tryz.prog.cellsOf 23) [c, e]) at k2
  change Tr enc Tryz.prog W 25 (List.take (Tryz.prog.cellsOf 25) [e]) at k3
  rw [ce_strs] at k0 k2
  rw [ce_lets] at k1
  rw [ce_nodes] at k3
  obtain ⟨li, gi⟩ := tr_strs k0
  obtain ⟨lo, go⟩ := tr_strs k2
  obtain ⟨xss, s1, s2⟩ := tr_rows (sz := 2) Tryz.underlying24 ce_let (by decide) k1
  obtain ⟨ls, rfl, _⟩ := rows_map (f := LetC.cells) (p := fun _ => True) fun c hc => tr_let (s2 c hc)
  obtain ⟨yss, u1, u2⟩ := tr_rows (sz := 8) Tryz.underlying25 ce_node (by decide) k3
  obtain ⟨ns, rfl, u3⟩ := rows_map (f := NodeV.cells) (p := fun o => o.ok (World.hp W)) fun c hc => tr_node (u2 c hc)
  exact ⟨⟨li, ls, lo, ns.map NodeV.c⟩, a, b, c, e, ns, rfl, gi, s1, go, u1, u3, rfl⟩
end
end Go.Proofs.YtmgpifkekofacaaGreatDoor
