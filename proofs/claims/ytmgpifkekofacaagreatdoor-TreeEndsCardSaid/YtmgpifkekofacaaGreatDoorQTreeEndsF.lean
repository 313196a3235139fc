/-
  TreeEnds, part 6: the texts LawEnds, Open, OpenB, Open11, Open11B as one.
-/
import Derived.Test.YtmgpifkekofacaaGreatDoorQTreeEndsE
import Derived.Deep.Slices
set_option linter.unusedVariables false
set_option linter.unusedSimpArgs false
set_option linter.unnecessarySimpa false
set_option maxHeartbeats 1000000
namespace Go.Proofs.YtmgpifkekofacaaGreatDoor
open Go Go.Tw
theorem rrRightG_any (vi vl vo va : Value) (p : ProgC) (ns : List NodeV) {I : Hp} (hp : ProgV I vi vl vo va p ns) (hf : ∀ o ∈ ns, o.c.few 35184372088400) :
    Fun Tryz.prog 19 [.agg #[vi, vl, vo, va]] I [] (fun v _ _ => ∃ b, v = .bool b ∧ (fewP p 40 = true → b = rightZ p)) := by
  refine fun_mono (rrRightAll_any vi vl vo va p ns hp hf) fun v I' B' ⟨b, hv, hb⟩ => ⟨b, hv, fun h => hb fun o ho => ?_⟩
  obtain ⟨m1, m2, m3, m4, m5, m6⟩ := few_of h hp.eq
  exact few_up (m5 o ho) (by decide)
theorem rgt_of {I : Hp} {vi vl vo va : Value} {p : ProgC} {ns : List NodeV} (hp : ProgV I vi vl vo va p ns) (hf : fewP p 40 = true) (hr : rightZ p = true) : ∃ l, RgtV I vi vl vo va p ns l := by
  obtain ⟨m1, m2, m3, m4, m5, m6⟩ := few_of hf hp.eq
  rw [rightZ_eq] at hr
  obtain ⟨l, hl⟩ := tZ_iff.1 hr
  exact ⟨l, hp, hl, ⟨by omega, by omega, by omega, by omega⟩, m5⟩
theorem TreeEnds_any (vi vl vo va : Value) (p : ProgC) (ns : List NodeV) (x : Int) {I : Hp} (hp : ProgV I vi vl vo va p ns) (hf : ∀ o ∈ ns, o.c.few 35184372088400) (hx : 0 ≤ x ∧ x ≤ 65535) (hT : Tabs I) (hM : Mx I) (hE : Errs I) : Fun Tryz.prog 8 [.agg #[vi, vl, vo, va], .int .u16 x] I [] (fun v _ _ => v = .bool true) := by
  intro w hw
  refine enter2 _ Tryz.func8 rfl Tryz.ntmps8 rfl ?_ hw;refine sR ?_;refine o_box trivial rfl rfl rfl (fun b2 => ?_);refine oV ?_;refine nS ?_;refine oQ Tryz.call14 rfl (awake11_any hT hM hE) ?_;refine oV ?_;refine nS ?_;refine oA Tryz.isAgg27 Tryz.sizeOf27 ?_;refine oQ Tryz.call18 rfl (rrFew_any vi vl vo va p ns 40 hp) ?_;refine oV ?_;refine nS ?_;refine oA Tryz.isAgg27 Tryz.sizeOf27 ?_;refine o_call0 trivial rfl Tryz.call19 rfl (rrRightG_any vi vl vo va p ns hp hf) ?_;rintro _ ⟨rb, rfl, hrb⟩;refine oV ?_;refine nU ?_;iterate 2 refine oV ?_
  refine' o_or trivial trivial rfl rfl rfl rfl rfl rfl rfl rfl (fun hb22 => ?_) ?_;rotate_left
  ·
   have fb22 := hb22
   try simp only [bl] at fb22
   iterate 2 refine gV hb22 ?_
   refine oN ?_;exact joins rfl
  refine nT ?_;refine cC rfl (fun h1 => ?_) (fun h1 => ?_)
  ·
   have f1 := h1;try simp only [bl] at f1
   refine sR ?_;iterate 2 refine oV ?_
   refine nF ?_;refine ret1 rfl rfl ?_;exact leaf0 rfl
  have f1 := h1;try simp only [bl] at f1
  obtain ⟨g1, g2⟩ : fewP p 40 = true ∧ rb = true := by simpa using f1
  obtain ⟨l, hR⟩ := rgt_of hp g1 (by rw [← hrb g1]; exact g2)
  obtain ⟨T, hTT⟩ : ∃ T, T = progK p.ins p.outs l := ⟨_, rfl⟩
  have hsz := hR.size
  have hgd := hR.good
  have hcut := fun (n : Nat) hn => text_cut (n := n) hR.rg hR.fw hn
  have hTl : 0 < T.length ∧ T.length ≤ 600 := by
    have h1 := hR.len
    have h2 := progK_len p.ins p.outs l
    rw [← hR.rg.all, ← hTT] at h2
    refine ⟨?_, by omega⟩
    rw [hTT]; unfold progK
    rw [List.length_append]
    have : 0 < (namesK inS p.ins).length := by cases p.ins <;> exact Nat.succ_pos _
    omega
  have hTs : (joinZ T).size ≤ 50000 := by
    have h1 := joinZ_size T (by rw [hTT]; exact progK_good hR.rg.ins.1 hR.rg.ok hR.rg.outs.1)
    omega
  have htx := rrTexts_any hR
  rw [← hTT] at htx
  rw [← hTT] at hcut
  refine kS ?_;refine oA Tryz.isAgg27 Tryz.sizeOf27 ?_;refine oI Tryz.call27 rfl htx ?_;rintro v28 I1 hx1 hs1;refine oV ?_;refine oN (tC (cS ?_))
  have hl := scx_len T
  refine cR ?_;refine oV ?_
  first | refine o_convIn trivial rfl Tryz.underlying48 Tryz.underlying3 rfl (by rw [IntWalk.i64_in _ (by omega)]) ?_ | refine o_conv trivial rfl Tryz.underlying48 Tryz.underlying3 rfl ?_
  refine oV ?_;refine o_lenSlc trivial rfl Tryz.underlying23 rfl (hs1) ?_;refine o_rem trivial rfl rfl rfl (by omega) ?_;refine oV ?_;refine oN (tC (cS ?_))
  obtain ⟨n, hn⟩ : ∃ n : Nat, n = (x % ((scs (txs T)).length : Int)).toNat := ⟨_, rfl⟩
  have hm0 : 0 ≤ x % ((scs (txs T)).length : Int) := Int.emod_nonneg _ (by omega)
  have hm1 : x % ((scs (txs T)).length : Int) < ((scs (txs T)).length : Int) := Int.emod_lt_of_pos _ (by omega)
  rw [show x % ((scs (txs T)).length : Int) = (n : Int) by omega]
  have hnl : n < T.length := by omega
  refine cR ?_;refine oV ?_;refine nU ?_;refine oV ?_;refine oN (tC (cB ?_));refine c_loop (ι := Nat) [5, 8, 9] (.cons rfl (.cons rfl (.cons rfl .nil))) (fun i => n - i) (fun i E0 => (10, .string (joinZ (T.take i))) :: (11, .int .i64 (i : Nat)) :: E0) (fun i => St w [] I1 [.box b2 (.cells #[vi, vl, vo, va] 27 (0, 0))]) (fun i => i ≤ n) (0) (sC rfl (sC rfl (sC rfl (sC rfl (sC rfl sN))))) (fun _ h => h) (Nat.zero_le _) ?_;rintro i hi
  try dsimp only
  refine cS (sR ?_);iterate 3 refine oV ?_
  refine nT ?_;refine cC rfl (fun h2 => ?_) (fun h2 => ?_)
  ·
   have f2 := h2;try simp only [bl] at f2
   obtain ⟨t, ht⟩ : ∃ t, T[i]? = some t := ⟨T[i]'(by omega), List.getElem?_eq_getElem (by omega)⟩
   have hst : joinZ (T.take (i + 1)) = joinZ (T.take i) ++ t.text ++ ⟨#[32]⟩ := by rw [List.take_add_one, ht]; exact joinZ_app _ _
   have hle := joinZ_take_le T (i + 1)
   have hsz : (joinZ (T.take (i + 1))).size = (joinZ (T.take i)).size + t.text.size + 1 := by rw [hst, ByteArray.size_append, ByteArray.size_append]; rfl
   refine cK (tC (cS (cB (cR ?_))));iterate 3 refine oV ?_
   refine o_elem trivial rfl Tryz.underlying23 Tryz.sizeOf9 rfl (hs1) rfl (by omega) ?_;refine o_load1I trivial rfl Tryz.isAgg9 rfl (scs_at hs1 (show (txs T)[i]? = some t.text by unfold txs; rw [List.getElem?_map, ht]; rfl)) ?_;refine o_cat trivial rfl rfl rfl (by omega) ?_;refine o_cat trivial rfl rfl rfl (by rw [ByteArray.size_append] ; show _ + _ + 1 ≤ _ ; omega) ?_;refine oV ?_;refine oN (blk_n (tC (cR ?_)));refine oV ?_
   first | (refine o_add trivial rfl rfl rfl ?_ ?_; (omega)) | refine oV ?_
   refine oV ?_;refine oN ?_;exact again (i + 1) (by rw [hst]; exact (sC rfl (sC rfl (sC rfl (sC rfl (sC rfl sN)))))) (fun _ h => h) (by show n - (i + 1) < n - i; omega) (by show i + 1 ≤ _; omega)
  have f2 := h2;try simp only [bl] at f2
  have hin : i = n := by omega
  subst hin
  have hle := joinZ_take_le T i
  have hpa := parse_any (joinZ (T.take i)) (I := I1) (hT.le hx1.le) (hM.le hx1.le) (hE.le hx1.le) (by omega)
  rw [hcut i hnl] at hpa
  refine c_exit (then_x (then_x (blk_eq rfl (tC (sR ?_)))));refine oV ?_;refine oI Tryz.call15 rfl hpa ?_;rintro _ I2 hx2 ⟨ui, ul, uo, ua, ms, rfl, hq, _⟩;refine oV ?_
  have hsi : Slc I2 1 ui (scs []) := hq.si
  have hsl := hq.sl
  have hso := hq.so
  have hsa := hq.sa
  iterate 3 refine oV ?_
  refine o_alloc trivial rfl Tryz.zeroValue27 rfl (fun b12 => ?_);refine o_alloc trivial rfl Tryz.zeroValue29 rfl (fun b13 => ?_);refine oS Tryz.sizeOf27 ?_;refine oS Tryz.sizeOf29 ?_;refine oV ?_;refine oN (tC (cS ?_));refine c_quiet (by kernel_rfl) (by kernel_rfl) (fun _ h => h.drawn) ?_;refine oV ?_;refine' o_and trivial trivial rfl rfl rfl rfl rfl rfl rfl rfl (fun hb53 => ?_) ?_;rotate_left
  ·
   iterate 2 refine gV hb53 ?_
   refine oN ?_;exact joins rfl
  refine' o_and trivial trivial rfl rfl rfl rfl rfl rfl rfl rfl (fun hb57 => ?_) ?_;rotate_left
  ·
   have fb57 := hb57
   try simp only [bl] at fb57
   refine o_loadA (wS rfl rfl hb57) rfl Tryz.isAgg29 Tryz.sizeOf29 rfl (by repeat constructor) (by repeat constructor) ?_;iterate 2 refine gV hb57 ?_
   refine o_lenS (wS rfl rfl hb57) rfl Tryz.underlying9 rfl ?_;refine o_callQ (wS rfl rfl hb57) rfl Tryz.call28 rfl (place_any (joinZ (T.take i)) (joinZ (T.take i)).size (by omega)) ?_;refine o_eqlV (wS rfl rfl hb57) rfl rfl rfl Tryz.eqGuardType29 (EqV.struct Tryz.underlying29 Tryz.stoodInHeld29 (EqP.cons (T := 3) (o := 0) (by decide) rfl rfl (.one Tryz.isAgg3 (by repeat constructor)) (.one Tryz.isAgg3 (by repeat constructor)) (EqV.int Tryz.underlying3) (EqP.last (T := 3) (o := 1) (by decide) rfl rfl (.one Tryz.isAgg3 (by repeat constructor)) (.one Tryz.isAgg3 (by repeat constructor)) (EqV.int Tryz.underlying3)))) ?_;refine oN ?_;exact joins rfl
  refine' o_and trivial trivial rfl rfl rfl rfl rfl rfl rfl rfl (fun hb65 => ?_) ?_;rotate_left
  ·
   have fb65 := hb65
   try simp only [bl] at fb65
   refine gF hb65 0 Tryz.underlying27 Tryz.sizeOf23 ?_;refine gL hb65 Tryz.isAgg23 ?_;refine o_lenSlc (wS rfl rfl hb65) rfl Tryz.underlying23 rfl (hsi) ?_;refine gV hb65 ?_;refine oN ?_;exact joins rfl
  refine oV ?_;refine nE ?_;refine ret1 rfl rfl ?_;refine leaf (hx1.trans hx2 (Nat.le_refl _)) (List.nil_sublist _) (congrArg Value.bool ?_); simp [scs]
end Go.Proofs.YtmgpifkekofacaaGreatDoor
namespace Go.Tw
open Go Go.RowKit Go.ChangeShapes Go.WideShapes Go.ChangeAt Go.Deep
def Tr {H : Type} (enc : TypeId × Value → H) (P : Program) (W : World) (t : TypeId) (cs : List Value) : Prop := ∃ n x, DataW.trod enc P W 0 (fun _ => true) true n t cs = some x
section
variable {base : Nat} {H : Type} {enc : TypeId × Value → H} {P : Program} {W : World} {t e : TypeId} {v : Value} {cs : List Value} {d : DataW H} {ps : List MemPlace}
theorem tr_int {k : IntKind} (ht : P.underlying t = some (.int k)) (h : Tr enc P W t [v]) : ∃ z, v = .int k z ∧ (Lit.int k z).wf = true := by
  obtain ⟨n, x, h⟩ := h
  obtain ⟨z, h1, _, h2⟩ := DataW.trod_int ht h
  exact ⟨z, (List.cons.inj h1).1, h2⟩
theorem tr_bool (ht : P.underlying t = some .bool) (h : Tr enc P W t [v]) : ∃ b, v = .bool b := by
  obtain ⟨n, x, h⟩ := h
  obtain ⟨z, h1, _⟩ := DataW.trod_bool ht h
  exact ⟨z, (List.cons.inj h1).1⟩
theorem tr_string (ht : P.underlying t = some .string) (h : Tr enc P W t [v]) : ∃ s : ByteArray, v = .string s ∧ s.size ≤ maxLen := by
  obtain ⟨n, x, h⟩ := h
  obtain ⟨z, h1, _, h2⟩ := DataW.trod_string ht h
  exact ⟨z, (List.cons.inj h1).1, h2⟩
theorem tr_struct {fs : Array Field} (ht : P.underlying t = some (.struct fs)) (h : Tr enc P W t cs) : cs.length = P.cellsOf t ∧ ∀ (i : Nat) (f : Field), fs[i]? = some f → Tr enc P W f.type ((cs.drop f.offset).take (P.cellsOf f.type)) := by
  obtain ⟨n, x, h⟩ := h
  obtain ⟨xs, m, _, _, hl, hx, hf⟩ := DataW.trod_struct ht h
  refine ⟨hl, fun i f hi => ?_⟩
  have h1 := hf i f hi
  have hlt : i < xs.length := by rw [hx]; exact (Array.getElem?_eq_some_iff.1 hi).1
  rw [List.getElem?_eq_getElem hlt] at h1
  exact ⟨m, _, h1⟩
theorem tr_rows {sz : Nat} (ht : P.underlying t = some (.slice e)) (hsz : P.cellsOf e = sz) (hpos : 0 < sz) (h : Tr enc P W t [v]) : ∃ xss : List (List Value), Slc (World.hp W) sz v xss ∧ ∀ c ∈ xss, Tr enc P W e c := by
  obtain ⟨n, x, h⟩ := h
  rcases open_slice ht h with ⟨h1, _⟩ | ⟨a, len, cap, m, n', D, Pl, h1, hb, hl, hc, hm, _, hx⟩
  · obtain rfl := (List.cons.inj h1).1
    exact ⟨[], Slc.nil _ _, fun c hc => by cases hc⟩
  · obtain rfl := (List.cons.inj h1).1
    subst hsz
    simp only [if_true] at hm
    subst hm
    obtain ⟨G, hG⟩ := choose_lt (α := List Value) (p := fun i cs' => W.cells? 0 (a.add (i * P.cellsOf e)) (P.cellsOf e) = some cs' ∧ DataW.trod enc P W 0 (fun _ => true) true n' e cs' = some (D i, Pl i)) hx
    have hcell : ∀ i, i < m → (G i).length = P.cellsOf e ∧ ∀ k, k < P.cellsOf e → W.cell? (a.add (i * P.cellsOf e + k)) = (G i)[k]? := fun i hi => by
      obtain ⟨h2, h3, h4⟩ := World.cells?_some (hG i hi).1
      refine ⟨h3, fun k hk => ?_⟩
      rw [← h4 k hk, add_add]
    refine ⟨(List.range len).map G, ?_, fun c hc => ?_⟩
    · have hlen : ((List.range len).map G).length = len := by simp
      have hlens : ∀ c ∈ (List.range len).map G, c.length = P.cellsOf e := fun c hc => by
        obtain ⟨i, hi, rfl⟩ := List.mem_map.1 hc
        exact (hcell i (by have := List.mem_range.1 hi; omega)).1
      by_cases h0 : m = 0
      · have hl0 : len = 0 := by omega
        subst h0
        subst hl0
        exact Slc.nilA _ _ _
      · have hsp : a.spot = none := by
          have h2 := (hcell 0 (by omega)).2 0 hpos
          have h3 : 0 < (G 0).length := by rw [(hcell 0 (by omega)).1]; exact hpos
          rw [List.getElem?_eq_getElem h3] at h2
          unfold World.cell? at h2
          split at h2
          · split at h2
            · cases h2
            · rename_i hs
              have hz : a.add (0 * P.cellsOf e + 0) = a := by rw [Nat.zero_mul]; unfold Addr.add; simp
              rw [hz] at hs
              cases hsp : a.spot with
              | none => rfl
              | some s => rw [hsp] at hs; simp at hs
          · cases h2
        obtain ⟨b, off, s⟩ := a
        change s = none at hsp
        subst hsp
        refine ⟨.inr ⟨b, off, m, by rw [hlen], by rw [hlen]; exact hl⟩, fun j c hj k u hk => ?_, hlens, by rw [hlen]; omega⟩
        rw [List.getElem?_map] at hj
        have hjl : j < len := by
          by_cases hjl : j < len
          · exact hjl
          · rw [List.getElem?_eq_none (by simp; omega)] at hj; cases hj
        rw [List.getElem?_range hjl] at hj
        cases hj
        have hkl := (List.getElem?_eq_some_iff.1 hk).1
        rw [(hcell j (by omega)).1] at hkl
        have h2 := (hcell j (by omega)).2 k hkl
        rw [hk, add_none] at h2
        rw [hp_cell]
        simp only [slcB, slcO]
        rw [Nat.add_assoc]
        exact h2
    · obtain ⟨i, hi, rfl⟩ := List.mem_map.1 hc
      exact ⟨n', _, (hG i (by have := List.mem_range.1 hi; omega)).2⟩
theorem tr_ints {k : IntKind} {xss : List (List Value)} {sz : Nat} (ht : P.underlying t = some (.int k)) (hs : Slc (World.hp W) 1 v xss) (h : ∀ c ∈ xss, Tr enc P W t c) : ∃ zs : List Int, xss = zs.map (fun z => [.int k z]) ∧ ∀ z ∈ zs, (Lit.int k z).wf = true := by
  have key : ∀ (l : List (List Value)), (∀ c ∈ l, c.length = 1 ∧ Tr enc P W t c) → ∃ zs : List Int, l = zs.map (fun z => [.int k z]) ∧ ∀ z ∈ zs, (Lit.int k z).wf = true := by
    intro l
    induction l with
    | nil => exact fun _ => ⟨[], rfl, fun z hz => by cases hz⟩
    | cons c l ih =>
      intro hl
      obtain ⟨zs, h1, h2⟩ := ih fun c hc => hl c (List.mem_cons_of_mem _ hc)
      obtain ⟨h3, h4⟩ := hl c List.mem_cons_self
      match c, h3 with
      | [x], _ =>
        obtain ⟨z, rfl, h5⟩ := tr_int ht h4
        exact ⟨z :: zs, by rw [h1]; rfl, fun y hy => by
          rcases List.mem_cons.1 hy with rfl | hy
          · exact h5
          · exact h2 y hy⟩
  exact key xss fun c hc => ⟨hs.lens c hc, h c hc⟩
theorem rows_map {α : Type} {f : α → List Value} {p : α → Prop} {xss : List (List Value)} (h : ∀ c ∈ xss, ∃ a, c = f a ∧ p a) : ∃ zs : List α, xss = zs.map f ∧ ∀ a ∈ zs, p a := by
  induction xss with
  | nil => exact ⟨[], rfl, fun a h => by cases h⟩
  | cons c l ih =>
    obtain ⟨zs, h1, h2⟩ := ih fun c hc => h c (List.mem_cons_of_mem _ hc)
    obtain ⟨a, ha, hp⟩ := h c List.mem_cons_self
    exact ⟨a :: zs, by rw [ha, h1]; rfl, fun b hb => by
      rcases List.mem_cons.1 hb with rfl | hb
      · exact hp
      · exact h2 b hb⟩
end
end Go.Tw
namespace Go.Tw
open Go Go.RowKit Go.ChangeShapes Go.WideShapes Go.ChangeAt Go.Deep
def TrB {H : Type} (enc : TypeId × Value → H) (P : Program) (W : World) (t : TypeId) (cs : List Value) : Prop := ∃ n x, DataW.trod enc P W 0 (fun _ => true) true n t cs = some x ∧ ∀ k ∈ x.1.weights P t, k ≤ reachBytes
section
variable {base : Nat} {H : Type} {enc : TypeId × Value → H} {P : Program} {W : World} {t e : TypeId} {v : Value} {cs : List Value} {d : DataW H} {ps : List MemPlace}
theorem TrB.tr (h : TrB enc P W t cs) : Tr enc P W t cs := by
  obtain ⟨n, x, h, _⟩ := h
  exact ⟨n, x, h⟩
theorem each_mem {ts : List TypeId} {ds : List (DataW H)} {i : Nat} {k : Nat} (h1 : ts[i]? = some t) (h2 : ds[i]? = some d) (h : k ∈ d.weights P t) : k ∈ DataW.weightsEach P ts ds := by
  induction ts generalizing ds i with
  | nil => cases h1
  | cons a ts ih =>
    cases ds with
    | nil => cases h2
    | cons b ds =>
      unfold DataW.weightsEach
      cases i with
      | zero => cases h1; cases h2; exact List.mem_append_left _ h
      | succ i => exact List.mem_append_right _ (ih h1 h2)
theorem all_mem {ds : List (DataW H)} {k : Nat} (h2 : d ∈ ds) (h : k ∈ d.weights P e) : k ∈ DataW.weightsAll P e ds := by
  induction ds with
  | nil => cases h2
  | cons b ds ih =>
    unfold DataW.weightsAll
    rcases List.mem_cons.1 h2 with rfl | h2
    · exact List.mem_append_left _ h
    · exact List.mem_append_right _ (ih h2)
theorem trB_of_struct {fs : Array Field} (ht : P.underlying t = some (.struct fs)) (hval : Value.okWide P W .any base t v) (h : DataW.Trod enc P W 0 (fun _ => true) true t v d ps) (hw : ∀ k ∈ d.weights P t, k ≤ reachBytes) : ∃ cs : List Value, v = .agg cs.toArray ∧ TrB enc P W t cs := by
  obtain ⟨cs, rfl, _⟩ := okWide_struct ht hval
  obtain ⟨n, h⟩ := h
  exact ⟨cs.toList, by simp, n, _, h, hw⟩
theorem trB_struct {fs : Array Field} (ht : P.underlying t = some (.struct fs)) (h : TrB enc P W t cs) : cs.length = P.cellsOf t ∧ ∀ (i : Nat) (f : Field), fs[i]? = some f → TrB enc P W f.type ((cs.drop f.offset).take (P.cellsOf f.type)) := by
  obtain ⟨n, x, h, hw⟩ := h
  obtain ⟨xs, m, _, rfl, hl, hx, hf⟩ := DataW.trod_struct ht h
  refine ⟨hl, fun i f hi => ?_⟩
  have h1 := hf i f hi
  have hlt : i < xs.length := by rw [hx]; exact (Array.getElem?_eq_some_iff.1 hi).1
  rw [List.getElem?_eq_getElem hlt] at h1
  refine ⟨m, _, h1, fun k hk => hw k ?_⟩
  unfold DataW.weights
  simp only [ht]
  refine each_mem (i := i) (t := f.type) (d := xs[i].1) ?_ ?_ hk
  · rw [List.getElem?_map, Array.getElem?_toList, hi]; rfl
  · rw [List.getElem?_map, List.getElem?_eq_getElem hlt]; rfl
theorem trB_rows {sz : Nat} (ht : P.underlying t = some (.slice e)) (hsz : P.cellsOf e = sz) (hpos : 0 < sz) (h : TrB enc P W t [v]) : ∃ xss : List (List Value), Slc (World.hp W) sz v xss ∧ (∀ c ∈ xss, TrB enc P W e c) ∧ xss.length * P.bytesOf e ≤ reachBytes := by
  obtain ⟨n, x, h, hw⟩ := h
  rcases open_slice ht h with ⟨h1, _⟩ | ⟨a, len, cap, m, n', D, Pl, h1, hb, hl, hc, hm, hxx, hx⟩
  · obtain rfl := (List.cons.inj h1).1
    exact ⟨[], Slc.nil _ _, (fun c hc => by cases hc), by simp⟩
  · obtain rfl := (List.cons.inj h1).1
    subst hsz
    simp only [if_true] at hm
    subst hm
    subst hxx
    unfold DataW.weights at hw
    simp only [ht] at hw
    obtain ⟨G, hG⟩ := choose_lt (α := List Value) (p := fun i cs' => W.cells? 0 (a.add (i * P.cellsOf e)) (P.cellsOf e) = some cs' ∧ DataW.trod enc P W 0 (fun _ => true) true n' e cs' = some (D i, Pl i)) hx
    have hcell : ∀ i, i < m → (G i).length = P.cellsOf e ∧ ∀ k, k < P.cellsOf e → W.cell? (a.add (i * P.cellsOf e + k)) = (G i)[k]? := fun i hi => by
      obtain ⟨h2, h3, h4⟩ := World.cells?_some (hG i hi).1
      refine ⟨h3, fun k hk => ?_⟩
      rw [← h4 k hk, add_add]
    refine ⟨(List.range len).map G, ?_, fun c hc => ?_, ?_⟩
    · have hlen : ((List.range len).map G).length = len := by simp
      have hlens : ∀ c ∈ (List.range len).map G, c.length = P.cellsOf e := fun c hc => by
        obtain ⟨i, hi, rfl⟩ := List.mem_map.1 hc
        exact (hcell i (by have := List.mem_range.1 hi; omega)).1
      by_cases h0 : m = 0
      · have hl0 : len = 0 := by omega
        subst h0
        subst hl0
        exact Slc.nilA _ _ _
      · have hsp : a.spot = none := by
          have h2 := (hcell 0 (by omega)).2 0 hpos
          have h3 : 0 < (G 0).length := by rw [(hcell 0 (by omega)).1]; exact hpos
          rw [List.getElem?_eq_getElem h3] at h2
          unfold World.cell? at h2
          split at h2
          · split at h2
            · cases h2
            · rename_i hs
              have hz : a.add (0 * P.cellsOf e + 0) = a := by rw [Nat.zero_mul]; unfold Addr.add; simp
              rw [hz] at hs
              cases hsp : a.spot with
              | none => rfl
              | some s => rw [hsp] at hs; simp at hs
          · cases h2
        obtain ⟨b, off, s⟩ := a
        change s = none at hsp
        subst hsp
        refine ⟨.inr ⟨b, off, m, by rw [hlen], by rw [hlen]; exact hl⟩, fun j c hj k u hk => ?_, hlens, by rw [hlen]; omega⟩
        rw [List.getElem?_map] at hj
        have hjl : j < len := by
          by_cases hjl : j < len
          · exact hjl
          · rw [List.getElem?_eq_none (by simp; omega)] at hj; cases hj
        rw [List.getElem?_range hjl] at hj
        cases hj
        have hkl := (List.getElem?_eq_some_iff.1 hk).1
        rw [(hcell j (by omega)).1] at hkl
        have h2 := (hcell j (by omega)).2 k hkl
        rw [hk, add_none] at h2
        rw [hp_cell]
        simp only [slcB, slcO]
        rw [Nat.add_assoc]
        exact h2
    · obtain ⟨i, hi, rfl⟩ := List.mem_map.1 hc
      have hil := List.mem_range.1 hi
      refine ⟨n', _, (hG i (by omega)).2, fun k hk => hw k (List.mem_cons_of_mem _ (List.mem_append_left _ ?_))⟩;exact all_mem (List.mem_map.2 ⟨i, hi, rfl⟩) hk
    · have h9 := hw _ List.mem_cons_self
      refine Nat.le_trans (Nat.mul_le_mul_right _ ?_) h9
      simp
end
end Go.Tw
namespace Go.Proofs.YtmgpifkekofacaaGreatDoor
open Go Go.Tw Go.ChangeShapes Go.WideShapes Go.ChangeAt
set_option maxRecDepth 100000
section
variable {base : Nat} {H : Type} {enc : TypeId × Value → H} {W : World} {v : Value} {cs : List Value} {d : DataW H} {ps : List MemPlace}
theorem ce_int : Tryz.prog.cellsOf 3 = 1 := by kernel_rfl
theorem ce_bool : Tryz.prog.cellsOf 4 = 1 := by kernel_rfl
theorem ce_str : Tryz.prog.cellsOf 9 = 1 := by kernel_rfl
theorem ce_u32 : Tryz.prog.cellsOf 101 = 1 := by kernel_rfl
theorem ce_u32s : Tryz.prog.cellsOf 40 = 1 := by kernel_rfl
theorem ce_rat : Tryz.prog.cellsOf 42 = 3 := by kernel_rfl
theorem ce_node : Tryz.prog.cellsOf 44 = 8 := by kernel_rfl
theorem ce_let : Tryz.prog.cellsOf 46 = 2 := by kernel_rfl
theorem ce_prog : Tryz.prog.cellsOf 27 = 4 := by kernel_rfl
theorem ce_strs : Tryz.prog.cellsOf 23 = 1 := by kernel_rfl
theorem ce_lets : Tryz.prog.cellsOf 24 = 1 := by kernel_rfl
theorem ce_nodes : Tryz.prog.cellsOf 25 = 1 := by kernel_rfl
theorem of2 {l : List Value} (h : l.length = 2) : ∃ a b, l = [a, b] := by
  match l, h with
  | [a, b], _ => exact ⟨a, b, rfl⟩
theorem of3 {l : List Value} (h : l.length = 3) : ∃ a b c, l = [a, b, c] := by
  match l, h with
  | [a, b, c], _ => exact ⟨a, b, c, rfl⟩
theorem of4 {l : List Value} (h : l.length = 4) : ∃ a b c d, l = [a, b, c, d] := by
  match l, h with
  | [a, b, c, d], _ => exact ⟨a, b, c, d, rfl⟩
theorem of8 {l : List Value} (h : l.length = 8) : ∃ a b c d e f g i, l = [a, b, c, d, e, f, g, i] := by
  match l, h with
  | [a, b, c, d, e, f, g, i], _ => exact ⟨a, b, c, d, e, f, g, i, rfl⟩
theorem tr_let (h : Tr enc Tryz.prog W 46 cs) : ∃ o : LetC, cs = o.cells ∧ True := by
  obtain ⟨h1, h2⟩ := tr_struct Tryz.underlying46 h
  obtain ⟨a, b, rfl⟩ := of2 (by rw [h1]; exact ce_let)
  have k0 := h2 0 _ rfl
  have k1 := h2 1 _ rfl
  change Tr enc Tryz.prog W 9 (List.take (Tryz.prog.cellsOf 9) [a, b]) at k0
  change Tr enc Tryz.prog W 3 (List.take (Tryz.prog.cellsOf 3) [b]) at k1
  rw [ce_str] at k0
  rw [ce_int] at k1
  obtain ⟨s, rfl, _⟩ := tr_string Tryz.underlying9 k0
  obtain ⟨z, rfl, _⟩ := tr_int Tryz.underlying3 k1
  exact ⟨⟨s, z⟩, rfl, trivial⟩
theorem tr_strs (h : Tr enc Tryz.prog W 23 [v]) : ∃ l : List ByteArray, Slc (World.hp W) 1 v (scs l) := by
  obtain ⟨xss, s1, s2⟩ := tr_rows (sz := 1) Tryz.underlying23 ce_str (by decide) h
  obtain ⟨zs, rfl, _⟩ := rows_map (f := fun s : ByteArray => [Value.string s]) (p := fun _ => True) fun c hc => by
    have hl := s1.lens c hc
    match c, hl with
    | [x], _ =>
      obtain ⟨s, rfl, _⟩ := tr_string Tryz.underlying9 (s2 _ hc)
      exact ⟨s, rfl, trivial⟩
  exact ⟨zs, s1⟩
end
end Go.Proofs.YtmgpifkekofacaaGreatDoor
namespace Go.Proofs.YtmgpifkekofacaaGreatDoor
open Go Go.Tw Go.ChangeShapes Go.WideShapes Go.ChangeAt
set_option maxRecDepth 100000
section
variable {base : Nat} {H : Type} {enc : TypeId × Value → H} {W : World} {v : Value} {cs : List Value} {d : DataW H} {ps : List MemPlace}
theorem by_u32 : Tryz.prog.bytesOf 101 = 4 := by kernel_rfl
theorem trB_wds (h : TrB enc Tryz.prog W 40 [v]) : ∃ O, Ws (World.hp W) v O ∧ O.length ≤ 35184372088400 := by
  obtain ⟨xss, h1, h2, h4⟩ := trB_rows Tryz.underlying40 ce_u32 (by decide) h
  obtain ⟨zs, rfl, h3⟩ := tr_ints (sz := 1) Tryz.underlying101 h1 (fun c hc => (h2 c hc).tr)
  rw [by_u32, List.length_map] at h4
  unfold reachBytes at h4
  refine ⟨zs.map Int.toNat, ⟨?_, fun x hx => ?_⟩, by rw [List.length_map]; omega⟩
  · have e : wcs (zs.map Int.toNat) = zs.map (fun z => [Value.int .u32 z]) := by
      unfold wcs
      rw [List.map_map]
      refine List.map_congr_left fun z hz => ?_
      have := bounds_u32 (h3 z hz)
      show [Value.int .u32 ((z.toNat : Nat) : Int)] = _
      rw [Int.toNat_of_nonneg this.1]
    rw [e]; exact h1
  · obtain ⟨z, hz, rfl⟩ := List.mem_map.1 hx
    have := bounds_u32 (h3 z hz)
    omega
theorem trB_num (h : TrB enc Tryz.prog W 42 cs) : ∃ s n d b c, cs = [.bool s, b, c] ∧ Ws (World.hp W) b n ∧ Ws (World.hp W) c d ∧ n.length ≤ 35184372088400 ∧ d.length ≤ 35184372088400 := by
  obtain ⟨h1, h2⟩ := trB_struct Tryz.underlying42 h
  obtain ⟨a, b, c, rfl⟩ := of3 (by rw [h1]; exact ce_rat)
  have k0 := (h2 0 _ rfl).tr
  have k1 := h2 1 _ rfl
  have k2 := h2 2 _ rfl
  change Tr enc Tryz.prog W 4 (List.take (Tryz.prog.cellsOf 4) [a, b, c]) at k0
  change TrB enc Tryz.prog W 40 (List.take (Tryz.prog.cellsOf 40) [b, c]) at k1
  change TrB enc Tryz.prog W 40 (List.take (Tryz.prog.cellsOf 40) [c]) at k2
  rw [ce_bool] at k0
  rw [ce_u32s] at k1 k2
  obtain ⟨s, rfl⟩ := tr_bool Tryz.underlying4 k0
  obtain ⟨n, hn, hnl⟩ := trB_wds k1
  obtain ⟨dd, hd, hdl⟩ := trB_wds k2
  exact ⟨s, n, dd, b, c, rfl, hn, hd, hnl, hdl⟩
theorem trB_node (h : TrB enc Tryz.prog W 44 cs) : ∃ o : NodeV, cs = o.cells ∧ o.ok (World.hp W) ∧ o.c.few 35184372088400 := by
  obtain ⟨h1, h2⟩ := trB_struct Tryz.underlying44 h
  obtain ⟨a, b, c, d, e, f, g, i, rfl⟩ := of8 (by rw [h1]; exact ce_node)
  have k0 := (h2 0 _ rfl).tr
  have k1 := (h2 1 _ rfl).tr
  have k2 := (h2 2 _ rfl).tr
  have k3 := (h2 3 _ rfl).tr
  have k4 := (h2 4 _ rfl).tr
  have k5 := h2 5 _ rfl
  change Tr enc Tryz.prog W 3 (List.take (Tryz.prog.cellsOf 3) [a, b, c, d, e, f, g, i]) at k0
  change Tr enc Tryz.prog W 3 (List.take (Tryz.prog.cellsOf 3) [b, c, d, e, f, g, i]) at k1
  change Tr enc Tryz.prog W 3 (List.take (Tryz.prog.cellsOf 3) [c, d, e, f, g, i]) at k2
  change Tr enc Tryz.prog W 3 (List.take (Tryz.prog.cellsOf 3) [d, e, f, g, i]) at k3
  change Tr enc Tryz.prog W 9 (List.take (Tryz.prog.cellsOf 9) [e, f, g, i]) at k4
  change TrB enc Tryz.prog W 42 (List.take (Tryz.prog.cellsOf 42) [f, g, i]) at k5
  rw [ce_int] at k0 k1 k2 k3
  rw [ce_str] at k4
  rw [ce_rat] at k5
  obtain ⟨z0, rfl, b0⟩ := tr_int Tryz.underlying3 k0
  obtain ⟨z1, rfl, b1⟩ := tr_int Tryz.underlying3 k1
  obtain ⟨z2, rfl, b2⟩ := tr_int Tryz.underlying3 k2
  obtain ⟨z3, rfl, b3⟩ := tr_int Tryz.underlying3 k3
  obtain ⟨s, rfl, _⟩ := tr_string Tryz.underlying9 k4
  obtain ⟨ng, n, dd, vb, vc, hx, hn, hd, hnl, hdl⟩ := trB_num k5
  obtain ⟨rfl, h5⟩ := List.cons.inj hx
  obtain ⟨rfl, h6⟩ := List.cons.inj h5
  obtain ⟨rfl, _⟩ := List.cons.inj h6
  exact ⟨⟨⟨z0, z1, z2, z3, s, ng, n, dd⟩, g, i⟩, rfl, ⟨hn, hd⟩, hnl, hdl⟩
theorem open_Pb (hval : Value.okWide Tryz.prog W .any base 27 v) (h : DataW.Trod enc Tryz.prog W 0 (fun _ => true) true 27 v d ps) (hw : ∀ k ∈ d.weights Tryz.prog 27, k ≤ reachBytes) : ∃ (p : ProgC) (vi vl vo va : Value) (ns : List NodeV), v = .agg #[vi, vl, vo, va] ∧ ProgV (World.hp W) vi vl vo va p ns ∧ ∀ o ∈ ns, o.c.few 35184372088400 := by
  obtain ⟨cs, rfl, hh⟩ := trB_of_struct Tryz.underlying27 hval h hw
  obtain ⟨h1, h2⟩ := trB_struct Tryz.underlying27 hh
  obtain ⟨a, b, c, e, rfl⟩ := of4 (by rw [h1]; exact ce_prog)
  have k0 := (h2 0 _ rfl).tr
  have k1 := (h2 1 _ rfl).tr
  have k2 := (h2 2 _ rfl).tr
  have k3 := h2 3 _ rfl
  change Tr enc Tryz.prog W 23 (List.take (Tryz.prog.cellsOf 23) [a, b, c, e]) at k0
  change Tr enc Tryz.prog W 24 (List.take (Tryz.prog.cellsOf 24) [b, c, e]) at k1
  change Tr enc Tryz.prog W 23 (List.take (Tryz.prog.cellsOf 23) [c, e]) at k2
  change TrB enc Tryz.prog W 25 (List.take (Tryz.prog.cellsOf 25) [e]) at k3
  rw [ce_strs] at k0 k2
  rw [ce_lets] at k1
  rw [ce_nodes] at k3
  obtain ⟨li, gi⟩ := tr_strs k0
  obtain ⟨lo, go⟩ := tr_strs k2
  obtain ⟨xss, s1, s2⟩ := tr_rows (sz := 2) Tryz.underlying24 ce_let (by decide) k1
  obtain ⟨ls, rfl, _⟩ := rows_map (f := LetC.cells) (p := fun _ => True) fun c hc => tr_let (s2 c hc)
  obtain ⟨yss, u1, u2, _⟩ := trB_rows (sz := 8) Tryz.underlying25 ce_node (by decide) k3
  obtain ⟨ns, rfl, u3⟩ := rows_map (f := NodeV.cells) (p := fun o => o.ok (World.hp W) ∧ o.c.few 35184372088400) fun c hc => trB_node (u2 c hc)
  exact ⟨⟨li, ls, lo, ns.map NodeV.c⟩, a, b, c, e, ns, rfl, ⟨gi, s1, go, u1, fun o ho => (u3 o ho).1, rfl⟩, fun o ho => (u3 o ho).2⟩
end
end Go.Proofs.YtmgpifkekofacaaGreatDoor
