/-
  TapeFront, part 6: the texts Law14f, Open, Open15 as one.
-/
import Derived.Test.YtfcmhcaggdakbaaGreatDoorQTapeFrontE
import Derived.Deep.Slices
set_option linter.unusedVariables false
set_option linter.unusedSimpArgs false
set_option linter.unnecessarySimpa false
set_option maxHeartbeats 1000000
namespace Go.Proofs.YtfcmhcaggdakbaaGreatDoor
open Go Go.Tw
def headT (t : TapeC) (n : Nat) : TapeC := ⟨t.ins, t.ops.take n, [t.ins + n - 1, 0]⟩
def badT (t : TapeC) (n : Nat) : TapeC := ⟨t.ins, t.ops.take n, [t.ins + n]⟩
theorem head_law {t : TapeC} {w : List Nat} {n : Nat} (hn : n ≤ t.ops.length) (hw : tapeW t = some w) : tapeW (headT t n) = some (w.take (t.ins.toNat + n)) ∧ tapeW (badT t n) = none ∧ w.length = t.ins.toNat + t.ops.length := by
  obtain ⟨p1, p2, p3, p4, p5, p6, p7⟩ := tapeW_parts hw
  have e : wgts (t.ops.take n ++ t.ops.drop n) (List.replicate t.ins.toNat 1) = some w := by rw [List.take_append_drop]; exact p6
  have hwl := wgts_len p6
  rw [List.length_replicate] at hwl
  rw [wgts_app] at e
  cases hr : wgts (t.ops.take n) (List.replicate t.ins.toNat 1) with
  | none => rw [hr] at e; cases e
  | some r =>
    rw [hr] at e
    change wgts (t.ops.drop n) r = some w at e
    have hl := wgts_len hr
    rw [List.length_replicate, List.length_take, Nat.min_eq_left hn] at hl
    obtain ⟨s, rfl⟩ := wgts_pre e
    have e3 : (t.ops.take n).length ≤ t.ops.length := by rw [List.length_take]; omega
    refine ⟨?_, ?_, hwl⟩
    · unfold tapeW
      show (if t.ins < 1 ∨ 40 < t.ins ∨ 2 < 1 ∨ 40 < 2 ∨ 400 < (t.ops.take n).length then none else match wgts (t.ops.take n) (List.replicate t.ins.toNat 1) with | none => none | some l => if ([t.ins + n - 1, 0].all fun z => decide (0 ≤ z ∧ z < (l.length : Int))) = true then some l else none) = _
      rw [if_neg (by omega), hr]
      rw [← hl, List.take_left']
      · refine if_pos ?_
        rw [List.all_cons, List.all_cons, List.all_nil, Bool.and_true, Bool.and_eq_true, decide_eq_true_eq, decide_eq_true_eq]
        omega
      · rfl
    · unfold tapeW
      show (if t.ins < 1 ∨ 40 < t.ins ∨ 1 < 1 ∨ 40 < 1 ∨ 400 < (t.ops.take n).length then none else match wgts (t.ops.take n) (List.replicate t.ins.toNat 1) with | none => none | some l => if ([t.ins + n].all fun z => decide (0 ≤ z ∧ z < (l.length : Int))) = true then some l else none) = _
      rw [if_neg (by omega), hr]
      refine if_neg ?_
      rw [List.all_cons, List.all_nil, Bool.and_true, decide_eq_true_eq]
      omega
theorem TapeFront_any (ins k : Int) (vouts vl : Value) (outs : List Int) (ts : List TurnC) {I : Hp} (hins : 0 ≤ ins ∧ ins ≤ 255) (hk : 0 ≤ k ∧ k ≤ 255) (ho : ByV I vouts outs) (hl : TnV I vl ts) (hT : Tabs I) (hM : Mx I) (hE : Errs I) :
    Fun Tryz.prog 12 [.int .u8 ins, vouts, vl, .int .u8 k] I [] (fun v _ _ => v = .bool true) := by
  have hbl := bcs_len outs
  have htk : (ts.map TurnC.cells).length = ts.length := List.length_map _
  have hls := hl.s
  have hos := ho.s
  intro w hw
  refine enter4 _ Tryz.func12 rfl Tryz.ntmps12 rfl ?_ hw;refine sR ?_;refine oV ?_;refine nS ?_;refine oQ Tryz.call29 rfl (awake14_any hT hM hE) ?_;refine oV ?_;refine nU ?_;refine oV ?_;refine o_lenSlc trivial rfl Tryz.underlying65 rfl (hl.s) ?_;refine oV ?_;refine' o_or trivial trivial rfl rfl rfl rfl rfl rfl rfl rfl (fun hb20 => ?_) ?_;rotate_left
  ·
   have fb20 := hb20
   try simp only [bl] at fb20
   refine gV hb20 ?_;refine o_lenSlc (wS rfl rfl hb20) rfl Tryz.underlying64 rfl (ho.s) ?_;refine gV hb20 ?_;refine oN ?_;exact joins rfl
  refine nT ?_;refine cC rfl (fun h1 => ?_) (fun h1 => ?_)
  ·
   have f1 := h1;try simp only [bl] at f1
   refine sR ?_;iterate 2 refine oV ?_
   refine nF ?_;refine ret1 rfl rfl ?_;exact leaf0 rfl
  have f1 := h1;try simp only [bl] at f1
  obtain ⟨hTw, hTf⟩ := madeT_ok (ins := ins) (outs := outs) (ts := ts) hins (by omega) hl.ok (by omega)
  refine kS ?_;iterate 3 refine oV ?_
  refine oI Tryz.call39 rfl (made_any ins 12 vouts vl outs ts hins ho hl (by decide) (by omega) (by omega)) ?_;rintro _ I1 hx1 ⟨vo, vu, os, rfl, htv⟩
  have hso1 := htv.so
  have hsu1 := htv.su
  have hosl : os.length = ts.length := by
    rw [← List.length_map (f := OpV.c), htv.eq]
    exact (made14_ok hl.ok (Twelve.ones (k := (1 + ins % 3).toNat) (by omega))).2.2.1
  have hoT : (madeT ins outs ts).ops.length = ts.length := (made14_ok hl.ok (Twelve.ones (k := (1 + ins % 3).toNat) (by omega))).2.2.1
  have hoc1 : (os.map OpV.cells).length = os.length := List.length_map _
  refine o_alloc trivial rfl Tryz.zeroValue56 rfl (fun b10 => ?_);refine oS Tryz.sizeOf56 ?_;refine nS ?_;refine oV ?_
  first | refine o_convIn trivial rfl Tryz.underlying5 Tryz.underlying3 rfl (by rw [IntWalk.i64_in _ (by omega)]) ?_ | refine o_conv trivial rfl Tryz.underlying5 Tryz.underlying3 rfl ?_
  refine oF 1 Tryz.underlying56 Tryz.sizeOf54 ?_;refine oL Tryz.isAgg54 ?_;refine o_lenSlc trivial rfl Tryz.underlying54 rfl (hso1) ?_
  first | (refine o_add trivial rfl rfl rfl ?_ ?_; (omega)) | refine oV ?_
  refine o_rem trivial rfl rfl rfl (by omega) ?_;refine oV ?_;refine oN (tC (cS ?_))
  have hn0 := mod_in (a := k) (n := os.length + 1) (by omega)
  have en : k % (((os.map OpV.cells).length : Nat) + 1) = k % ((os.length + 1 : Nat) : Int) := by rw [hoc1]; rfl
  obtain ⟨n, hn⟩ : ∃ n : Nat, k % (((os.map OpV.cells).length : Nat) + 1) = n := ⟨(k % ((os.length + 1 : Nat) : Int)).toNat, by omega⟩
  have hn2 : n ≤ os.length := by omega
  rw [hn]
  have hcut := hso1.cut (lo := 0) (hi := ((n : Nat) : Int).toNat) (Nat.zero_le _) (by omega)
  refine h_beginB (m := 15) [.box b10 _] (by repeat constructor) (by kernel_rfl) rfl ?_;refine qT (i := 0) (qB 15 1) (Hp.Le.refl _) rfl rfl (oF 0 Tryz.underlying56 Tryz.sizeOf3 qF) ?_;refine qT (i := 1) (qB 15 3) (Hp.Le.refl _) rfl rfl (oL Tryz.isAgg3 qF) ?_;refine qT (i := 2) (qB 15 7) (Hp.Le.refl _) rfl rfl (oF 1 Tryz.underlying56 Tryz.sizeOf54 qF) ?_;refine qT (i := 3) (qB 15 15) (Hp.Le.refl _) rfl rfl (oL Tryz.isAgg54 qF) ?_;refine qT (i := 4) (qB 15 31) (Hp.Le.refl _) rfl rfl (oV qF) ?_;refine qT (i := 5) (qB 15 63) (Hp.Le.refl _) rfl rfl (o_cutHi trivial rfl Tryz.underlying54 Tryz.sizeOf69 rfl (hso1) rfl (by omega) qF) ?_;refine qT (i := 6) (qB 15 127) (Hp.Le.refl _) rfl rfl (oF 0 Tryz.underlying56 Tryz.sizeOf3 qF) ?_;refine qT (i := 7) (qB 15 255) (Hp.Le.refl _) rfl rfl (oL Tryz.isAgg3 qF) ?_;refine qT (i := 8) (qB 15 511) (Hp.Le.refl _) rfl rfl (oV qF) ?_;refine' qT (i := 9) (qB 15 1023) (Hp.Le.refl _) rfl rfl ?hh0 ?kk0
  case hh0 =>
   first | (refine o_add trivial rfl rfl rfl ?_ ?_; (omega)) | refine oV ?_
   exact qF
  refine' qT (i := 10) (qB 15 2047) (Hp.Le.refl _) rfl rfl ?hh1 ?kk1
  case hh1 =>
   first | (refine o_sub trivial rfl rfl rfl ?_ ?_; (omega)) | refine oV ?_
   exact qF
  refine h_go [11, 13] (by kernel_rfl) rfl (TWHs.cons ?_ (TWHs.cons ?_ TWHs.nil))
  ·
   refine qP (qB 15 4095) rfl ?_;refine oB Tryz.underlying52 Tryz.sizeOf3 Tryz.zeroValue3 fun b48 => ?_;refine qM (Hp.Le.refl _) ?_;refine qT (i := 12) (qB 15 8191) (Hp.Le.refl _) rfl rfl (o_buildS trivial rfl (bld56) rfl (.cons rfl rfl rfl (by repeat constructor) (.cons rfl (by first | exact (Ws.cells1 (by assumption)).1 | exact (Slc.cells1 (by assumption)).1 | rfl) (by rfl) (by repeat constructor) (.cons rfl (by first | exact (Ws.cells1 (by assumption)).1 | exact (Slc.cells1 (by assumption)).1 | rfl) (by rfl) (by repeat constructor) .nil))) qF) ?_;refine qO (i := 13) (qB 15 16383) rfl ?_;refine o_alloc trivial rfl Tryz.zeroValue56 rfl (fun b12 => ?_);refine qM (Hp.Le.refl _) ?_;refine qO (i := 14) (qB 15 32767) rfl ?_;refine oS Tryz.sizeOf56 ?_;refine qM (Hp.Le.refl _) ?_;refine h_end (by kernel_rfl) ?_;refine tC (cS ?_);refine c_sealB (b := b48) (by repeat constructor) (fun I2 hx2 hb48 => ?_)
   have htA := htv.le hx2.le
   have hcutA := htA.so.cut (lo := 0) (hi := n) (Nat.zero_le _) (by omega)
   rw [List.drop_zero, ← List.map_take] at hcutA
   have hokA : ∀ o ∈ os.take n, o.ok I2 := fun o ho => htA.ok o (List.mem_of_mem_take ho)
   have heqA : (os.take n).map OpV.c = (madeT ins outs ts).ops.take n := by rw [List.map_take, htv.eq]
   have htU : TapeV I2 (slcCut vo 0 n 7) (.slice (some ⟨b48, 0, none⟩) 2 2) (headT (madeT ins outs ts) n) (os.take n) :=
     ⟨hcutA, hokA, heqA, Slc.of_box (xss := ics [(1 + ins % 3) + n - 1, 0]) hb48 (ics_one _) (by unfold maxLen; simp [ics]) (Nat.le_refl _)⟩
   have hfU : ∀ o ∈ (headT (madeT ins outs ts) n).ops, OpC.few 3000 o := fun o ho => hTf o (List.mem_of_mem_take ho)
   obtain ⟨L1, L2, L3⟩ := head_law (n := n) (by omega) hTw
   obtain ⟨W0, hW0⟩ : ∃ W0, W0 = (made14 ts (List.replicate (1 + ins % 3).toNat 1)).2 := ⟨_, rfl⟩
   rw [← hW0] at L1 L3 hTw
   have hti : (madeT ins outs ts).ins = 1 + ins % 3 := rfl
   rw [hti] at L1 L3
   have hwA := tWeights_any (madeT ins outs ts) vo vu os htA (few_two hTf)
   rw [hTw] at hwA
   refine cR ?_;refine oA Tryz.isAgg56 Tryz.sizeOf56 ?_;refine oI Tryz.call37 rfl hwA ?_;rintro u3 I3 hx3 hs3;refine oV ?_;refine nS ?_;refine oA Tryz.isAgg56 Tryz.sizeOf56 ?_
   have hwU := tWeights_any (headT (madeT ins outs ts) n) _ _ _ (htU.le hx3.le) (few_two hfU)
   rw [L1] at hwU
   refine oI Tryz.call37 rfl hwU ?_;rintro u4 I4 hx4 hs4;refine oV ?_;refine nS ?_;refine oA Tryz.isAgg56 Tryz.sizeOf56 ?_;refine o_alloc trivial rfl Tryz.zeroValue56 rfl (fun b15 => ?_);refine oS Tryz.sizeOf56 ?_;refine nS ?_;refine oF 0 Tryz.underlying56 Tryz.sizeOf3 ?_;refine oL Tryz.isAgg3 ?_;refine oV ?_
   first | (refine o_add trivial rfl rfl rfl ?_ ?_; (omega)) | refine oV ?_
   refine oB Tryz.underlying52 Tryz.sizeOf3 Tryz.zeroValue3 fun b59 => ?_;refine oF 2 Tryz.underlying56 Tryz.sizeOf52 ?_;refine oS Tryz.sizeOf52 ?_;refine oN (tC (cS (cS ?_)));refine c_sealB (b := b59) (by repeat constructor) (fun I5 hx5 hb59 => ?_)
   have hl34 := hx3.le.trans hx4.le
   have hl5 := hl34.trans hx5.le
   have htB : TapeV I5 (slcCut vo 0 n 7) (.slice (some ⟨b59, 0, none⟩) 1 1) (badT (madeT ins outs ts) n) (os.take n) :=
     ⟨hcutA.le hl5, fun o ho => (hokA o ho).le hl5, heqA, Slc.of_box (xss := ics [(1 + ins % 3) + n]) hb59 (ics_one _) (by unfold maxLen; simp [ics]) (Nat.le_refl _)⟩
   have hs3' := hs3.le (hx4.le.trans hx5.le)
   have hs4' := hs4.le hx5.le
   change Slc I5 1 u3 (nls W0) at hs3'
   change Slc I5 1 u4 (nls (W0.take ((1 + ins % 3).toNat + n))) at hs4'
   have hn3 := nls_len W0
   have hn4 := nls_len (W0.take ((1 + ins % 3).toNat + n))
   rw [List.length_take] at hn4
   have hcut3 : Slc I5 1 (slcCut u3 0 (((nls (W0.take ((1 + ins % 3).toNat + n))).length : Nat) : Int).toNat 1) (nls (W0.take ((1 + ins % 3).toNat + n))) := by
     have h := hs3'.cut (lo := 0) (hi := (((nls (W0.take ((1 + ins % 3).toNat + n))).length : Nat) : Int).toNat) (Nat.zero_le _) (by omega)
     rw [List.drop_zero] at h
     refine cast (congrArg (Slc I5 1 _) ?_) h
     unfold nls
     rw [← List.map_take]
     congr 1
     rw [Int.toNat_natCast, List.length_map, List.length_take, L3]
     rw [Nat.min_eq_left (by omega)]
   have hrA := tapeRight_any (madeT ins outs ts) vo vu os (htA.le hl5) (few_two hTf)
   have hrU := tapeRight_any (headT (madeT ins outs ts) n) _ _ _ (htU.le hl5) (few_two hfU)
   have hrB := tapeRight_any (badT (madeT ins outs ts) n) _ _ _ htB (few_two hfU)
   rw [hTw] at hrA
   rw [L1] at hrU
   rw [L2] at hrB
   refine cR ?_;refine oV ?_;refine o_lenSlc trivial rfl Tryz.underlying52 rfl (hs3') ?_;refine oV ?_;refine o_lenSlc trivial rfl Tryz.underlying52 rfl (hs4') ?_;refine oV ?_;refine' o_or trivial trivial rfl rfl rfl rfl rfl rfl rfl rfl (fun hb66 => ?_) ?_;rotate_left
   ·
    have fb66 := hb66
    try simp only [bl] at fb66
    refine gV hb66 ?_;refine o_lenSlc (wS rfl rfl hb66) rfl Tryz.underlying52 rfl (hs4') ?_;refine gF hb66 0 Tryz.underlying56 Tryz.sizeOf3 ?_;refine gL hb66 Tryz.isAgg3 ?_;refine gV hb66 ?_
    first | (refine o_add (wS rfl rfl hb66) rfl rfl rfl ?_ ?_; (omega)) | refine gV hb66 ?_
    refine gV hb66 ?_;refine oN ?_;exact joins rfl
   refine nT ?_;refine cC rfl (fun h2 => ?_) (fun h2 => ?_)
   ·
    have f2 := h2;try simp only [bl] at f2
    exfalso; omega
   have f2 := h2;try simp only [bl] at f2
   refine kS ?_;refine oV ?_;refine' o_and trivial trivial rfl rfl rfl rfl rfl rfl rfl rfl (fun hb76 => ?_) ?_;rotate_left
   ·
    have fb76 := hb76
    try simp only [bl] at fb76
    refine o_loadA (wS rfl rfl hb76) rfl Tryz.isAgg56 Tryz.sizeOf56 rfl (by repeat constructor) (by repeat constructor) ?_;refine o_callQ (wS rfl rfl hb76) rfl Tryz.call34 rfl hrA ?_;refine oN ?_;exact joins rfl
   refine' o_and trivial trivial rfl rfl rfl rfl rfl rfl rfl rfl (fun hb80 => ?_) ?_;rotate_left
   ·
    have fb80 := hb80
    try simp only [bl] at fb80
    refine o_loadA (wS rfl rfl hb80) rfl Tryz.isAgg56 Tryz.sizeOf56 rfl (by repeat constructor) (by repeat constructor) ?_;refine o_callQ (wS rfl rfl hb80) rfl Tryz.call34 rfl hrU ?_;refine oN ?_;exact joins rfl
   refine' o_and trivial trivial rfl rfl rfl rfl rfl rfl rfl rfl (fun hb84 => ?_) ?_;rotate_left
   ·
    have fb84 := hb84
    try simp only [bl] at fb84
    refine o_loadA (wS rfl rfl hb84) rfl Tryz.isAgg56 Tryz.sizeOf56 rfl (by repeat constructor) (by repeat constructor) ?_;refine o_callQ (wS rfl rfl hb84) rfl Tryz.call34 rfl hrB ?_;refine gV hb84 ?_;refine oN ?_;exact joins rfl
   refine' o_and trivial trivial rfl rfl rfl rfl rfl rfl rfl rfl (fun hb89 => ?_) ?_;rotate_left
   ·
    have fb89 := hb89
    try simp only [bl] at fb89
    iterate 2 refine gV hb89 ?_
    refine o_lenSlc (wS rfl rfl hb89) rfl Tryz.underlying52 rfl (hs4') ?_;refine o_cutHi (wS rfl rfl hb89) rfl Tryz.underlying52 Tryz.sizeOf3 rfl (hs3') rfl (by omega) ?_;refine gV hb89 ?_;refine o_callQ (wS rfl rfl hb89) rfl Tryz.call36 rfl (ints_any _ _ (W0.take ((1 + ins % 3).toNat + n)) hcut3 hs4') ?_;refine oN ?_;exact joins rfl
   refine oV ?_;refine nE ?_;refine ret1 rfl rfl ?_;exact leaf (hx1.trans (hx2.trans (hx3.trans (hx4.trans hx5 (Nat.le_refl _)) (Nat.le_refl _)) (Nat.le_refl _)) (Nat.le_refl _)) (List.nil_sublist _) (congrArg Value.bool (by simp))
  refine qP (qB 15 10239) rfl ?_;refine o_alloc trivial rfl Tryz.zeroValue56 rfl (fun b12 => ?_);refine qM (Hp.Le.refl _) ?_;refine qO (i := 11) (qB 15 12287) rfl ?_;refine oB Tryz.underlying52 Tryz.sizeOf3 Tryz.zeroValue3 fun b48 => ?_;refine qM (Hp.Le.refl _) ?_;refine qT (i := 12) (qB 15 16383) (Hp.Le.refl _) rfl rfl (o_buildS trivial rfl (bld56) rfl (.cons rfl rfl rfl (by repeat constructor) (.cons rfl (by first | exact (Ws.cells1 (by assumption)).1 | exact (Slc.cells1 (by assumption)).1 | rfl) (by rfl) (by repeat constructor) (.cons rfl (by first | exact (Ws.cells1 (by assumption)).1 | exact (Slc.cells1 (by assumption)).1 | rfl) (by rfl) (by repeat constructor) .nil))) qF) ?_;refine qO (i := 14) (qB 15 32767) rfl ?_;refine oS Tryz.sizeOf56 ?_;refine qM (Hp.Le.refl _) ?_;refine h_end (by kernel_rfl) ?_;refine tC (cS ?_);refine c_sealB (b := b48) (by repeat constructor) (fun I2 hx2 hb48 => ?_)
  have htA := htv.le hx2.le
  have hcutA := htA.so.cut (lo := 0) (hi := n) (Nat.zero_le _) (by omega)
  rw [List.drop_zero, ← List.map_take] at hcutA
  have hokA : ∀ o ∈ os.take n, o.ok I2 := fun o ho => htA.ok o (List.mem_of_mem_take ho)
  have heqA : (os.take n).map OpV.c = (madeT ins outs ts).ops.take n := by rw [List.map_take, htv.eq]
  have htU : TapeV I2 (slcCut vo 0 n 7) (.slice (some ⟨b48, 0, none⟩) 2 2) (headT (madeT ins outs ts) n) (os.take n) :=
    ⟨hcutA, hokA, heqA, Slc.of_box (xss := ics [(1 + ins % 3) + n - 1, 0]) hb48 (ics_one _) (by unfold maxLen; simp [ics]) (Nat.le_refl _)⟩
  have hfU : ∀ o ∈ (headT (madeT ins outs ts) n).ops, OpC.few 3000 o := fun o ho => hTf o (List.mem_of_mem_take ho)
  obtain ⟨L1, L2, L3⟩ := head_law (n := n) (by omega) hTw
  obtain ⟨W0, hW0⟩ : ∃ W0, W0 = (made14 ts (List.replicate (1 + ins % 3).toNat 1)).2 := ⟨_, rfl⟩
  rw [← hW0] at L1 L3 hTw
  have hti : (madeT ins outs ts).ins = 1 + ins % 3 := rfl
  rw [hti] at L1 L3
  have hwA := tWeights_any (madeT ins outs ts) vo vu os htA (few_two hTf)
  rw [hTw] at hwA
  refine cR ?_;refine oA Tryz.isAgg56 Tryz.sizeOf56 ?_;refine oI Tryz.call37 rfl hwA ?_;rintro u3 I3 hx3 hs3;refine oV ?_;refine nS ?_;refine oA Tryz.isAgg56 Tryz.sizeOf56 ?_
  have hwU := tWeights_any (headT (madeT ins outs ts) n) _ _ _ (htU.le hx3.le) (few_two hfU)
  rw [L1] at hwU
  refine oI Tryz.call37 rfl hwU ?_;rintro u4 I4 hx4 hs4;refine oV ?_;refine nS ?_;refine oA Tryz.isAgg56 Tryz.sizeOf56 ?_;refine o_alloc trivial rfl Tryz.zeroValue56 rfl (fun b15 => ?_);refine oS Tryz.sizeOf56 ?_;refine nS ?_;refine oF 0 Tryz.underlying56 Tryz.sizeOf3 ?_;refine oL Tryz.isAgg3 ?_;refine oV ?_
  first | (refine o_add trivial rfl rfl rfl ?_ ?_; (omega)) | refine oV ?_
  refine oB Tryz.underlying52 Tryz.sizeOf3 Tryz.zeroValue3 fun b59 => ?_;refine oF 2 Tryz.underlying56 Tryz.sizeOf52 ?_;refine oS Tryz.sizeOf52 ?_;refine oN (tC (cS (cS ?_)));refine c_sealB (b := b59) (by repeat constructor) (fun I5 hx5 hb59 => ?_)
  have hl34 := hx3.le.trans hx4.le
  have hl5 := hl34.trans hx5.le
  have htB : TapeV I5 (slcCut vo 0 n 7) (.slice (some ⟨b59, 0, none⟩) 1 1) (badT (madeT ins outs ts) n) (os.take n) :=
    ⟨hcutA.le hl5, fun o ho => (hokA o ho).le hl5, heqA, Slc.of_box (xss := ics [(1 + ins % 3) + n]) hb59 (ics_one _) (by unfold maxLen; simp [ics]) (Nat.le_refl _)⟩
  have hs3' := hs3.le (hx4.le.trans hx5.le)
  have hs4' := hs4.le hx5.le
  change Slc I5 1 u3 (nls W0) at hs3'
  change Slc I5 1 u4 (nls (W0.take ((1 + ins % 3).toNat + n))) at hs4'
  have hn3 := nls_len W0
  have hn4 := nls_len (W0.take ((1 + ins % 3).toNat + n))
  rw [List.length_take] at hn4
  have hcut3 : Slc I5 1 (slcCut u3 0 (((nls (W0.take ((1 + ins % 3).toNat + n))).length : Nat) : Int).toNat 1) (nls (W0.take ((1 + ins % 3).toNat + n))) := by
    have h := hs3'.cut (lo := 0) (hi := (((nls (W0.take ((1 + ins % 3).toNat + n))).length : Nat) : Int).toNat) (Nat.zero_le _) (by omega)
    rw [List.drop_zero] at h
    refine cast (congrArg (Slc I5 1 _) ?_) h
    unfold nls
    rw [← List.map_take]
    congr 1
    rw [Int.toNat_natCast, List.length_map, List.length_take, L3]
    rw [Nat.min_eq_left (by omega)]
  have hrA := tapeRight_any (madeT ins outs ts) vo vu os (htA.le hl5) (few_two hTf)
  have hrU := tapeRight_any (headT (madeT ins outs ts) n) _ _ _ (htU.le hl5) (few_two hfU)
  have hrB := tapeRight_any (badT (madeT ins outs ts) n) _ _ _ htB (few_two hfU)
  rw [hTw] at hrA
  rw [L1] at hrU
  rw [L2] at hrB
  refine cR ?_;refine oV ?_;refine o_lenSlc trivial rfl Tryz.underlying52 rfl (hs3') ?_;refine oV ?_;refine o_lenSlc trivial rfl Tryz.underlying52 rfl (hs4') ?_;refine oV ?_;refine' o_or trivial trivial rfl rfl rfl rfl rfl rfl rfl rfl (fun hb66 => ?_) ?_;rotate_left
  ·
   have fb66 := hb66
   try simp only [bl] at fb66
   refine gV hb66 ?_;refine o_lenSlc (wS rfl rfl hb66) rfl Tryz.underlying52 rfl (hs4') ?_;refine gF hb66 0 Tryz.underlying56 Tryz.sizeOf3 ?_;refine gL hb66 Tryz.isAgg3 ?_;refine gV hb66 ?_
   first | (refine o_add (wS rfl rfl hb66) rfl rfl rfl ?_ ?_; (omega)) | refine gV hb66 ?_
   refine gV hb66 ?_;refine oN ?_;exact joins rfl
  refine nT ?_;refine cC rfl (fun h2 => ?_) (fun h2 => ?_)
  ·
   have f2 := h2;try simp only [bl] at f2
   exfalso; omega
  have f2 := h2;try simp only [bl] at f2
  refine kS ?_;refine oV ?_;refine' o_and trivial trivial rfl rfl rfl rfl rfl rfl rfl rfl (fun hb76 => ?_) ?_;rotate_left
  ·
   have fb76 := hb76
   try simp only [bl] at fb76
   refine o_loadA (wS rfl rfl hb76) rfl Tryz.isAgg56 Tryz.sizeOf56 rfl (by repeat constructor) (by repeat constructor) ?_;refine o_callQ (wS rfl rfl hb76) rfl Tryz.call34 rfl hrA ?_;refine oN ?_;exact joins rfl
  refine' o_and trivial trivial rfl rfl rfl rfl rfl rfl rfl rfl (fun hb80 => ?_) ?_;rotate_left
  ·
   have fb80 := hb80
   try simp only [bl] at fb80
   refine o_loadA (wS rfl rfl hb80) rfl Tryz.isAgg56 Tryz.sizeOf56 rfl (by repeat constructor) (by repeat constructor) ?_;refine o_callQ (wS rfl rfl hb80) rfl Tryz.call34 rfl hrU ?_;refine oN ?_;exact joins rfl
  refine' o_and trivial trivial rfl rfl rfl rfl rfl rfl rfl rfl (fun hb84 => ?_) ?_;rotate_left
  ·
   have fb84 := hb84
   try simp only [bl] at fb84
   refine o_loadA (wS rfl rfl hb84) rfl Tryz.isAgg56 Tryz.sizeOf56 rfl (by repeat constructor) (by repeat constructor) ?_;refine o_callQ (wS rfl rfl hb84) rfl Tryz.call34 rfl hrB ?_;refine gV hb84 ?_;refine oN ?_;exact joins rfl
  refine' o_and trivial trivial rfl rfl rfl rfl rfl rfl rfl rfl (fun hb89 => ?_) ?_;rotate_left
  ·
   have fb89 := hb89
   try simp only [bl] at fb89
   iterate 2 refine gV hb89 ?_
   refine o_lenSlc (wS rfl rfl hb89) rfl Tryz.underlying52 rfl (hs4') ?_;refine o_cutHi (wS rfl rfl hb89) rfl Tryz.underlying52 Tryz.sizeOf3 rfl (hs3') rfl (by omega) ?_;refine gV hb89 ?_;refine o_callQ (wS rfl rfl hb89) rfl Tryz.call36 rfl (ints_any _ _ (W0.take ((1 + ins % 3).toNat + n)) hcut3 hs4') ?_;refine oN ?_;exact joins rfl
  refine oV ?_;refine nE ?_;refine ret1 rfl rfl ?_;exact leaf (hx1.trans (hx2.trans (hx3.trans (hx4.trans hx5 (Nat.le_refl _)) (Nat.le_refl _)) (Nat.le_refl _)) (Nat.le_refl _)) (List.nil_sublist _) (congrArg Value.bool (by simp))
end Go.Proofs.YtfcmhcaggdakbaaGreatDoor
namespace Go.Tw
open Go Go.RowKit Go.ChangeShapes Go.WideShapes Go.ChangeAt Go.Deep
def Tr {H : Type} (enc : TypeId × Value → H) (P : Program) (W : World) (t : TypeId) (cs : List Value) : Prop := ∃ n x, DataW.trod enc P W 0 (fun _ => true) true n t cs = some x
section
variable {base : Nat} {H : Type} {enc : TypeId × Value → H} {P : Program} {W : World} {t e : TypeId} {v : Value} {cs : List Value} {d : DataW H} {ps : List MemPlace}
theorem tr_of_slice (ht : P.underlying t = some (.slice e)) (hval : Value.okWide P W .any base t v) (h : DataW.Trod enc P W 0 (fun _ => true) true t v d ps) : Tr enc P W t [v] := by
  obtain ⟨a, len, cap, rfl⟩ := okWide_slice ht hval
  obtain ⟨n, h⟩ := h
  exact ⟨n, _, h⟩
theorem tr_int {k : IntKind} (ht : P.underlying t = some (.int k)) (h : Tr enc P W t [v]) : ∃ z, v = .int k z ∧ (Lit.int k z).wf = true := by
  obtain ⟨n, x, h⟩ := h
  obtain ⟨z, h1, _, h2⟩ := DataW.trod_int ht h
  exact ⟨z, (List.cons.inj h1).1, h2⟩
theorem tr_struct {fs : Array Field} (ht : P.underlying t = some (.struct fs)) (h : Tr enc P W t cs) : cs.length = P.cellsOf t ∧ ∀ (i : Nat) (f : Field), fs[i]? = some f → Tr enc P W f.type ((cs.drop f.offset).take (P.cellsOf f.type)) := by
  obtain ⟨n, x, h⟩ := h
  obtain ⟨xs, m, _, _, hl, hx, hf⟩ := DataW.trod_struct ht h
  refine ⟨hl, fun i f hi => ?_⟩
  have h1 := hf i f hi
  have hlt : i < xs.length := by rw [hx]; exact (Array.getElem?_eq_some_iff.1 hi).1
  rw [List.getElem?_eq_getElem hlt] at h1
  exact ⟨m, _, h1⟩
theorem tr_rows {sz : Nat} (ht : P.underlying t = some (.slice e)) (hsz : P.cellsOf e = sz) (hpos : 0 < sz) (h : Tr enc P W t [v]) : ∃ xss : List (List Value), Slc (World.hp W) sz v xss ∧ ∀ c ∈ xss, Tr enc P W e c := by
  obtain ⟨n, x, h⟩ := h
  rcases open_slice ht h with ⟨h1, _⟩ | ⟨a, len, cap, m, n', D, Pl, h1, hb, hl, hc, hm, _, hx⟩
  · obtain rfl := (List.cons.inj h1).1
    exact ⟨[], Slc.nil _ _, fun c hc => by cases hc⟩
  · obtain rfl := (List.cons.inj h1).1
    subst hsz
    simp only [if_true] at hm
    subst hm
    obtain ⟨G, hG⟩ := choose_lt (α := List Value) (p := fun i cs' => W.cells? 0 (a.add (i * P.cellsOf e)) (P.cellsOf e) = some cs' ∧ DataW.trod enc P W 0 (fun _ => true) true n' e cs' = some (D i, Pl i)) hx
    have hcell : ∀ i, i < m → (G i).length = P.cellsOf e ∧ ∀ k, k < P.cellsOf e → W.cell? (a.add (i * P.cellsOf e + k)) = (G i)[k]? := fun i hi => by
      obtain ⟨h2, h3, h4⟩ := World.cells?_some (hG i hi).1
      refine ⟨h3, fun k hk => ?_⟩
      rw [← h4 k hk, add_add]
    refine ⟨(List.range len).map G, ?_, fun c hc => ?_⟩
    · have hlen : ((List.range len).map G).length = len := by simp
      have hlens : ∀ c ∈ (List.range len).map G, c.length = P.cellsOf e := fun c hc => by
        obtain ⟨i, hi, rfl⟩ := List.mem_map.1 hc
        exact (hcell i (by have := List.mem_range.1 hi; omega)).1
      by_cases h0 : m = 0
      · have hl0 : len = 0 := by omega
        subst h0
        subst hl0
        exact Slc.nilA _ _ _
      · have hsp : a.spot = none := by
          have h2 := (hcell 0 (by omega)).2 0 hpos
          have h3 : 0 < (G 0).length := by rw [(hcell 0 (by omega)).1]; exact hpos
          rw [List.getElem?_eq_getElem h3] at h2
          unfold World.cell? at h2
          split at h2
          · split at h2
            · cases h2
            · rename_i hs
              have hz : a.add (0 * P.cellsOf e + 0) = a := by rw [Nat.zero_mul]; unfold Addr.add; simp
              rw [hz] at hs
              cases hsp : a.spot with
              | none => rfl
              | some s => rw [hsp] at hs; simp at hs
          · cases h2
        obtain ⟨b, off, s⟩ := a
        change s = none at hsp
        subst hsp
        refine ⟨.inr ⟨b, off, m, by rw [hlen], by rw [hlen]; exact hl⟩, fun j c hj k u hk => ?_, hlens, by rw [hlen]; omega⟩
        rw [List.getElem?_map] at hj
        have hjl : j < len := by
          by_cases hjl : j < len
          · exact hjl
          · rw [List.getElem?_eq_none (by simp; omega)] at hj; cases hj
        rw [List.getElem?_range hjl] at hj
        cases hj
        have hkl := (List.getElem?_eq_some_iff.1 hk).1
        rw [(hcell j (by omega)).1] at hkl
        have h2 := (hcell j (by omega)).2 k hkl
        rw [hk, add_none] at h2
        rw [hp_cell]
        simp only [slcB, slcO]
        rw [Nat.add_assoc]
        exact h2
    · obtain ⟨i, hi, rfl⟩ := List.mem_map.1 hc
      exact ⟨n', _, (hG i (by have := List.mem_range.1 hi; omega)).2⟩
theorem tr_ints {k : IntKind} {xss : List (List Value)} {sz : Nat} (ht : P.underlying t = some (.int k)) (hs : Slc (World.hp W) 1 v xss) (h : ∀ c ∈ xss, Tr enc P W t c) : ∃ zs : List Int, xss = zs.map (fun z => [.int k z]) ∧ ∀ z ∈ zs, (Lit.int k z).wf = true := by
  have key : ∀ (l : List (List Value)), (∀ c ∈ l, c.length = 1 ∧ Tr enc P W t c) → ∃ zs : List Int, l = zs.map (fun z => [.int k z]) ∧ ∀ z ∈ zs, (Lit.int k z).wf = true := by
    intro l
    induction l with
    | nil => exact fun _ => ⟨[], rfl, fun z hz => by cases hz⟩
    | cons c l ih =>
      intro hl
      obtain ⟨zs, h1, h2⟩ := ih fun c hc => hl c (List.mem_cons_of_mem _ hc)
      obtain ⟨h3, h4⟩ := hl c List.mem_cons_self
      match c, h3 with
      | [x], _ =>
        obtain ⟨z, rfl, h5⟩ := tr_int ht h4
        exact ⟨z :: zs, by rw [h1]; rfl, fun y hy => by
          rcases List.mem_cons.1 hy with rfl | hy
          · exact h5
          · exact h2 y hy⟩
  exact key xss fun c hc => ⟨hs.lens c hc, h c hc⟩
theorem rows_map {α : Type} {f : α → List Value} {p : α → Prop} {xss : List (List Value)} (h : ∀ c ∈ xss, ∃ a, c = f a ∧ p a) : ∃ zs : List α, xss = zs.map f ∧ ∀ a ∈ zs, p a := by
  induction xss with
  | nil => exact ⟨[], rfl, fun a h => by cases h⟩
  | cons c l ih =>
    obtain ⟨zs, h1, h2⟩ := ih fun c hc => h c (List.mem_cons_of_mem _ hc)
    obtain ⟨a, ha, hp⟩ := h c List.mem_cons_self
    exact ⟨a :: zs, by rw [ha, h1]; rfl, fun b hb => by
      rcases List.mem_cons.1 hb with rfl | hb
      · exact hp
      · exact h2 b hb⟩
end
end Go.Tw
namespace Go.Proofs.YtfcmhcaggdakbaaGreatDoor
open Go Go.Tw Go.ChangeShapes Go.WideShapes Go.ChangeAt
set_option maxRecDepth 100000
section
variable {base : Nat} {H : Type} {enc : TypeId × Value → H} {W : World} {v : Value} {cs : List Value} {d : DataW H} {ps : List MemPlace}
theorem cells_u8 : Tryz.prog.cellsOf 5 = 1 := by kernel_rfl
theorem cells_turn : Tryz.prog.cellsOf 117 = 4 := by kernel_rfl
theorem four {l : List Value} (h : l.length = 4) : ∃ a b c d, l = [a, b, c, d] := by
  match l, h with
  | [a, b, c, d], _ => exact ⟨a, b, c, d, rfl⟩
theorem tr_turn (h : Tr enc Tryz.prog W 117 cs) : ∃ x : TurnC, cs = x.cells ∧ x.ok := by
  obtain ⟨h1, h2⟩ := tr_struct Tryz.underlying117 h
  obtain ⟨a, b, c, d, rfl⟩ := four (by rw [h1]; exact cells_turn)
  have k0 := h2 0 _ rfl
  have k1 := h2 1 _ rfl
  have k2 := h2 2 _ rfl
  have k3 := h2 3 _ rfl
  change Tr enc Tryz.prog W 5 (List.take (Tryz.prog.cellsOf 5) [a, b, c, d]) at k0
  change Tr enc Tryz.prog W 5 (List.take (Tryz.prog.cellsOf 5) [b, c, d]) at k1
  change Tr enc Tryz.prog W 5 (List.take (Tryz.prog.cellsOf 5) [c, d]) at k2
  change Tr enc Tryz.prog W 5 (List.take (Tryz.prog.cellsOf 5) [d]) at k3
  rw [cells_u8] at k0 k1 k2 k3
  obtain ⟨z0, rfl, b0⟩ := tr_int Tryz.underlying5 k0
  obtain ⟨z1, rfl, b1⟩ := tr_int Tryz.underlying5 k1
  obtain ⟨z2, rfl, b2⟩ := tr_int Tryz.underlying5 k2
  obtain ⟨z3, rfl, b3⟩ := tr_int Tryz.underlying5 k3
  exact ⟨⟨z0, z1, z2, z3⟩, rfl, bounds_u8 b0, bounds_u8 b1, bounds_u8 b2, bounds_u8 b3⟩
theorem open_Tn (hval : Value.okWide Tryz.prog W .any base 65 v) (h : DataW.Trod enc Tryz.prog W 0 (fun _ => true) true 65 v d ps) : ∃ ts, TnV (World.hp W) v ts := by
  obtain ⟨xss, h1, h2⟩ := tr_rows (sz := 4) Tryz.underlying65 cells_turn (by decide) (tr_of_slice Tryz.underlying65 hval h)
  obtain ⟨ts, rfl, h3⟩ := rows_map (f := TurnC.cells) (p := TurnC.ok) fun c hc => tr_turn (h2 c hc)
  exact ⟨ts, h1, h3⟩
theorem open_By (hval : Value.okWide Tryz.prog W .any base 64 v) (h : DataW.Trod enc Tryz.prog W 0 (fun _ => true) true 64 v d ps) : ∃ l, ByV (World.hp W) v l := by
  obtain ⟨xss, h1, h2⟩ := tr_rows (sz := 1) Tryz.underlying64 cells_u8 (by decide) (tr_of_slice Tryz.underlying64 hval h)
  obtain ⟨zs, rfl, h3⟩ := tr_ints (sz := 1) Tryz.underlying5 h1 h2
  exact ⟨zs, h1, fun z hz => bounds_u8 (h3 z hz)⟩
end
end Go.Proofs.YtfcmhcaggdakbaaGreatDoor
