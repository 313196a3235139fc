/-
  Chapter 10: the lexer of package lex.
-/
import Derived.Test.YtmflkokhhknlaaaDoorLex4
import Derived.Test.YtmflkokhhknlaaaDoorLexPlain3
namespace Go.Proofs.YtmflkokhhknlaaaDoor
open Go Go.Tw
set_option linter.unusedVariables false
set_option linter.unusedSimpArgs false
set_option linter.unnecessarySimpa false
set_option maxHeartbeats 1000000
/-- What reads a token of a kind. -/
def rdF (k : Int) : FuncId := if k = 1 then 54 else if k = 2 then 55 else if k = 4 then 56 else 57
theorem rdF_call (k : Int) (args : Array Value) (w : World) : (callFunc (rdF k) args).run Tryd.prog w = .ok (.enter (rdF k) args) w := by
  unfold rdF
  repeat' split
  · exact Tryd.call54 args w
  · exact Tryd.call55 args w
  · exact Tryd.call56 args w
  · exact Tryd.call57 args w
theorem rdF_any (b : Nat) (s : ByteArray) (i : Nat) {I : Hp} (hM : Mx I) (hi : i < s.size) (hs : s.size ≤ 60000) : Fun Tryd.prog (rdF (kAt s i)) [.pointer (some ⟨b, 0, none⟩)] I [rdr b s i] (fun v I' B => v = rdTok s i ∧ B = [rdr b s (tokZ s i).stop] ∧ I = I') := by
  have hst : (tokZ s i).stop = if kAt s i = 1 then runAt isWord s i else if kAt s i = 2 then numEnd s i else if kAt s i = 4 then i + 1 else i := by
    unfold tokZ
    by_cases h1 : kAt s i = 1
    · rw [if_pos h1, if_pos h1]; split <;> rfl
    · rw [if_neg h1, if_neg h1]
      by_cases h2 : kAt s i = 2
      · rw [if_pos h2, if_pos h2]; split
        · rfl
        · split <;> rfl
      · rw [if_neg h2, if_neg h2]
        by_cases h4 : kAt s i = 4
        · rw [if_pos h4, if_pos h4, kAt_four h4]
        · rw [if_neg h4, if_neg h4]
  rw [hst]
  unfold rdF
  by_cases h1 : kAt s i = 1
  · rw [if_pos h1, if_pos h1]; exact word_any b s i hi h1 hs
  · rw [if_neg h1, if_neg h1]
    by_cases h2 : kAt s i = 2
    · rw [if_pos h2, if_pos h2]; exact numR_any b s i hM hi h2 hs
    · rw [if_neg h2, if_neg h2]
      by_cases h4 : kAt s i = 4
      · rw [if_pos h4, if_pos h4]; exact mark_any b s i hi h4 hs
      · rw [if_neg h4, if_neg h4]; exact other_any b s i hi h1 h2 h4
theorem next_at (s : ByteArray) (i : Nat) {I : Hp} (hT : Tabs I) (hi : i < s.size) : Fun Tryd.prog 18 [.string s, .int .i64 (i : Int)] I [] (fun v _ _ => v = .tuple #[.int .i32 ((Utf8.decode s i).1 : Int), .int .i64 ((Utf8.decode s i).2 : Int)]) := by
  have h := next_any s i (I := I) hT
  rw [nextZ_in hi] at h
  exact h
theorem read_any (b : Nat) (s : ByteArray) (i : Nat) {I : Hp} (hT : Tabs I) (hi : i < s.size) (hs : s.size ≤ 60000) : Fun Tryd.prog 45 [.pointer (some ⟨b, 0, none⟩)] I [rdr b s i] (fun v I' B => v = .func (.func (rdF (kAt s i))) #[.pointer (some ⟨b, 0, none⟩)] #[] ∧ B = [rdr b s i] ∧ I = I') := by
  intro w hw
  refine enter1 _ Tryd.func45 rfl Tryd.ntmps45 rfl ?_ hw
  refine c_seq ?_
  refine c_region ?_
  refine o_pv trivial rfl rfl ?_
  refine o_nil ?_
  refine then_c ?_
  refine c_seq ?_
  refine c_quiet (by kernel_rfl) (by kernel_rfl) (fun _ h => h.drawn) ?_
  refine o_pv trivial rfl rfl ?_
  refine o_pv trivial rfl rfl ?_
  refine o_fieldAddr (T := 9) (off := 0) trivial rfl Tryd.underlying55 rfl rfl rfl Tryd.sizeOf9 rfl rfl ?_
  refine o_load1 trivial rfl Tryd.isAgg9 rfl (by first | exact .head _ | exact .tail _ (.head _) | exact .tail _ (.tail _ (.head _)) | exact .tail _ (.tail _ (.tail _ (.head _))) | exact .tail _ (.tail _ (.tail _ (.tail _ (.head _)))) | exact .tail _ (.tail _ (.tail _ (.tail _ (.tail _ (.head _)))))) (by repeat constructor) ?_
  refine o_pv trivial rfl rfl ?_
  refine o_pv trivial rfl rfl ?_
  refine o_fieldAddr (T := 3) (off := 1) trivial rfl Tryd.underlying55 rfl rfl rfl Tryd.sizeOf3 rfl rfl ?_
  refine o_load1 trivial rfl Tryd.isAgg3 rfl (by first | exact .head _ | exact .tail _ (.head _) | exact .tail _ (.tail _ (.head _)) | exact .tail _ (.tail _ (.tail _ (.head _))) | exact .tail _ (.tail _ (.tail _ (.tail _ (.head _)))) | exact .tail _ (.tail _ (.tail _ (.tail _ (.tail _ (.head _)))))) (by repeat constructor) ?_
  refine o_callQ trivial rfl Tryd.call18 rfl (next_at _ _ hT hi) ?_
  refine o_pv trivial rfl rfl ?_
  refine o_pv trivial rfl rfl ?_
  refine o_pv trivial rfl rfl ?_
  refine o_pv trivial rfl rfl ?_
  refine o_pv trivial rfl rfl ?_
  refine o_nil ?_
  refine then_c ?_
  refine c_seq ?_
  refine c_seq ?_
  refine c_region ?_
  refine o_pv trivial rfl rfl ?_
  refine o_callP trivial rfl Tryd.call16 rfl (kind_any _) ?_
  refine o_nil ?_
  refine then_c ?_
  refine c_block ?_
  refine c_seq ?_
  refine c_region ?_
  refine o_pv trivial rfl rfl ?_
  refine o_pv trivial rfl rfl ?_
  refine o_nil ?_
  refine then_c ?_
  refine c_cond rfl (fun h1 => ?_) (fun h1 => ?_)
  · skip
    have f1 := h1
    try simp only [Bool.or_eq_true, Bool.and_eq_true, Bool.or_eq_false_iff, Bool.and_eq_false_iff, decide_eq_true_eq, decide_eq_false_iff_not, beq_iff_eq, beq_eq_false_iff_ne, bne_iff_ne, bne_eq_false_iff_eq, Bool.not_eq_true', Bool.not_eq_false', ne_eq, Int.not_lt, Int.not_le, ge_iff_le, gt_iff_lt] at f1
    refine c_seq ?_
    refine c_region ?_
    refine o_pv trivial rfl rfl ?_
    refine o_pv trivial rfl rfl ?_
    refine o_pv trivial rfl rfl ?_
    refine o_nil ?_
    refine then_c ?_
    refine c_ret ?_
    refine blk_r ?_
    refine then_r ?_
    refine ret1 rfl rfl ?_
    refine leaf (Ext.refl _ _) (List.Sublist.refl _) ⟨?_, rfl, rfl⟩; unfold rdF; rw [if_pos (show kAt s i = 1 from f1)]
  · skip
    have f1 := h1
    try simp only [Bool.or_eq_true, Bool.and_eq_true, Bool.or_eq_false_iff, Bool.and_eq_false_iff, decide_eq_true_eq, decide_eq_false_iff_not, beq_iff_eq, beq_eq_false_iff_ne, bne_iff_ne, bne_eq_false_iff_eq, Bool.not_eq_true', Bool.not_eq_false', ne_eq, Int.not_lt, Int.not_le, ge_iff_le, gt_iff_lt] at f1
    refine c_seq ?_
    refine c_region ?_
    refine o_pv trivial rfl rfl ?_
    refine o_pv trivial rfl rfl ?_
    refine o_nil ?_
    refine then_c ?_
    refine c_cond rfl (fun h2 => ?_) (fun h2 => ?_)
    · skip
      have f2 := h2
      try simp only [Bool.or_eq_true, Bool.and_eq_true, Bool.or_eq_false_iff, Bool.and_eq_false_iff, decide_eq_true_eq, decide_eq_false_iff_not, beq_iff_eq, beq_eq_false_iff_ne, bne_iff_ne, bne_eq_false_iff_eq, Bool.not_eq_true', Bool.not_eq_false', ne_eq, Int.not_lt, Int.not_le, ge_iff_le, gt_iff_lt] at f2
      refine c_seq ?_
      refine c_region ?_
      refine o_pv trivial rfl rfl ?_
      refine o_pv trivial rfl rfl ?_
      refine o_pv trivial rfl rfl ?_
      refine o_nil ?_
      refine then_c ?_
      refine c_ret ?_
      refine blk_r ?_
      refine then_r ?_
      refine ret1 rfl rfl ?_
      refine leaf (Ext.refl _ _) (List.Sublist.refl _) ⟨?_, rfl, rfl⟩; unfold rdF; rw [if_neg (show ¬ kAt s i = 1 from f1), if_pos (show kAt s i = 2 from f2)]
    · skip
      have f2 := h2
      try simp only [Bool.or_eq_true, Bool.and_eq_true, Bool.or_eq_false_iff, Bool.and_eq_false_iff, decide_eq_true_eq, decide_eq_false_iff_not, beq_iff_eq, beq_eq_false_iff_ne, bne_iff_ne, bne_eq_false_iff_eq, Bool.not_eq_true', Bool.not_eq_false', ne_eq, Int.not_lt, Int.not_le, ge_iff_le, gt_iff_lt] at f2
      refine c_seq ?_
      refine c_region ?_
      refine o_pv trivial rfl rfl ?_
      refine o_pv trivial rfl rfl ?_
      refine o_nil ?_
      refine then_c ?_
      refine c_cond rfl (fun h3 => ?_) (fun h3 => ?_)
      · skip
        have f3 := h3
        try simp only [Bool.or_eq_true, Bool.and_eq_true, Bool.or_eq_false_iff, Bool.and_eq_false_iff, decide_eq_true_eq, decide_eq_false_iff_not, beq_iff_eq, beq_eq_false_iff_ne, bne_iff_ne, bne_eq_false_iff_eq, Bool.not_eq_true', Bool.not_eq_false', ne_eq, Int.not_lt, Int.not_le, ge_iff_le, gt_iff_lt] at f3
        refine c_seq ?_
        refine c_region ?_
        refine o_pv trivial rfl rfl ?_
        refine o_pv trivial rfl rfl ?_
        refine o_pv trivial rfl rfl ?_
        refine o_nil ?_
        refine then_c ?_
        refine c_ret ?_
        refine blk_r ?_
        refine then_r ?_
        refine ret1 rfl rfl ?_
        refine leaf (Ext.refl _ _) (List.Sublist.refl _) ⟨?_, rfl, rfl⟩; unfold rdF; rw [if_neg (show ¬ kAt s i = 1 from f1), if_neg (show ¬ kAt s i = 2 from f2), if_pos (show kAt s i = 4 from f3)]
      · skip
        have f3 := h3
        try simp only [Bool.or_eq_true, Bool.and_eq_true, Bool.or_eq_false_iff, Bool.and_eq_false_iff, decide_eq_true_eq, decide_eq_false_iff_not, beq_iff_eq, beq_eq_false_iff_ne, bne_iff_ne, bne_eq_false_iff_eq, Bool.not_eq_true', Bool.not_eq_false', ne_eq, Int.not_lt, Int.not_le, ge_iff_le, gt_iff_lt] at f3
        refine c_skip ?_
        refine blk_n ?_
        refine then_c ?_
        refine c_seq ?_
        refine c_region ?_
        refine o_pv trivial rfl rfl ?_
        refine o_pv trivial rfl rfl ?_
        refine o_pv trivial rfl rfl ?_
        refine o_nil ?_
        refine then_c ?_
        refine c_ret ?_
        refine ret1 rfl rfl ?_
        refine leaf (Ext.refl _ _) (List.Sublist.refl _) ⟨?_, rfl, rfl⟩; unfold rdF; rw [if_neg (show ¬ kAt s i = 1 from f1), if_neg (show ¬ kAt s i = 2 from f2), if_neg (show ¬ kAt s i = 4 from f3)]
/-- The closure that goes on: the reader and the place. -/
def plcB (b : Nat) (p : Int × Int) : Tw.Item := .box b (.cells #[.int .i64 p.1, .int .i64 p.2] 32 (0, 0))
def ptrB (b b2 : Nat) : Tw.Item := .box b (.cells #[.pointer (some ⟨b2, 0, none⟩)] 53 (0, 0))
theorem move_any (b7 b6 br : Nat) (s : ByteArray) (i j : Nat) {I : Hp} (hs : s.size ≤ 60000) (h0 : Hops s 0 i) (h : Hops s i j) (hj : j ≤ s.size) : Fun Tryd.prog 40 [.int .i64 ((j - i : Nat) : Int), .pointer (some ⟨b7, 0, none⟩), .pointer (some ⟨b6, 0, none⟩)] I [ptrB b7 br, rdr br s i, plcB b6 (placeZ s i)] (fun v I' B => v = .tuple #[] ∧ B = [ptrB b7 br, rdr br s j, plcB b6 (placeZ s j)] ∧ I = I') := by
  have hge := h.ge
  have hmv := steps_move h h0 hj
  have hsz : (s.extract i j).size = j - i := by rw [ByteArray.size_extract]; omega
  have ej : i + (((j - i : Nat) : Int)).toNat = j := by rw [Int.toNat_natCast]; omega
  have hbp := placeZ_bound s i
  have hbc := (steps_rch h0).bc
  have hi0 := h.le (s := s) (by have := h.ge; omega)
  intro w hw
  refine enter3 _ Tryd.func40 rfl Tryd.ntmps40 rfl ?_ hw
  refine c_seq ?_
  refine c_region ?_
  refine o_load1 trivial rfl Tryd.isAgg53 rfl (by first | exact .head _ | exact .tail _ (.head _) | exact .tail _ (.tail _ (.head _)) | exact .tail _ (.tail _ (.tail _ (.head _))) | exact .tail _ (.tail _ (.tail _ (.tail _ (.head _)))) | exact .tail _ (.tail _ (.tail _ (.tail _ (.tail _ (.head _)))))) (by repeat constructor) ?_
  refine o_pv trivial rfl rfl ?_
  refine o_callK trivial rfl Tryd.call41 rfl (take_any br s i ((j - i : Nat) : Int) (by omega) (by omega)) (by repeat' first | exact Takes.nil | exact Take.here | apply Takes.cons | apply Take.there) ?_
  rintro _ _ _ hx ⟨rfl, rfl, rfl⟩
  rw [ej]; refine o_pv trivial rfl rfl ?_
  refine o_callQ trivial rfl Tryd.call20 rfl (place_any (s.extract i j) ((j - i : Nat) : Int) (by omega)) ?_
  refine o_alloc trivial rfl Tryd.zeroValue32 rfl (fun b4 => ?_)
  refine o_store trivial rfl rfl rfl Tryd.sizeOf32 rfl rfl (by first | exact .here | exact .there .here | exact .there (.there .here) | exact .there (.there (.there .here)) | exact .there (.there (.there (.there .here))) | exact .there (.there (.there (.there (.there .here))))) (by repeat constructor) ?_
  refine o_nil ?_
  refine then_c ?_
  refine c_seq ?_
  refine c_region ?_
  refine o_fieldAddr (T := 3) (off := 0) trivial rfl Tryd.underlying32 rfl rfl rfl Tryd.sizeOf3 rfl rfl ?_
  refine o_load1 trivial rfl Tryd.isAgg3 rfl (by first | exact .head _ | exact .tail _ (.head _) | exact .tail _ (.tail _ (.head _)) | exact .tail _ (.tail _ (.tail _ (.head _))) | exact .tail _ (.tail _ (.tail _ (.tail _ (.head _)))) | exact .tail _ (.tail _ (.tail _ (.tail _ (.tail _ (.head _)))))) (by repeat constructor) ?_
  refine o_pv trivial rfl rfl ?_
  refine o_nil ?_
  refine then_c ?_
  refine c_cond rfl (fun h1 => ?_) (fun h1 => ?_)
  · skip
    have f1 := h1
    try simp only [Bool.or_eq_true, Bool.and_eq_true, Bool.or_eq_false_iff, Bool.and_eq_false_iff, decide_eq_true_eq, decide_eq_false_iff_not, beq_iff_eq, beq_eq_false_iff_ne, bne_iff_ne, bne_eq_false_iff_eq, Bool.not_eq_true', Bool.not_eq_false', ne_eq, Int.not_lt, Int.not_le, ge_iff_le, gt_iff_lt] at f1
    refine c_region ?_
    refine o_fieldAddr (T := 3) (off := 0) trivial rfl Tryd.underlying32 rfl rfl rfl Tryd.sizeOf3 rfl rfl ?_
    refine o_load1 trivial rfl Tryd.isAgg3 rfl (by first | exact .head _ | exact .tail _ (.head _) | exact .tail _ (.tail _ (.head _)) | exact .tail _ (.tail _ (.tail _ (.head _))) | exact .tail _ (.tail _ (.tail _ (.tail _ (.head _)))) | exact .tail _ (.tail _ (.tail _ (.tail _ (.tail _ (.head _)))))) (by repeat constructor) ?_
    refine o_fieldAddr (T := 3) (off := 0) trivial rfl Tryd.underlying32 rfl rfl rfl Tryd.sizeOf3 rfl rfl ?_
    refine o_load1 trivial rfl Tryd.isAgg3 rfl (by first | exact .head _ | exact .tail _ (.head _) | exact .tail _ (.tail _ (.head _)) | exact .tail _ (.tail _ (.tail _ (.head _))) | exact .tail _ (.tail _ (.tail _ (.tail _ (.head _)))) | exact .tail _ (.tail _ (.tail _ (.tail _ (.tail _ (.head _)))))) (by repeat constructor) ?_
    first | (refine o_add trivial rfl rfl rfl ?_ ?_; (omega)) | refine o_pv trivial rfl rfl ?_
    first | (refine o_sub trivial rfl rfl rfl ?_ ?_; (omega)) | refine o_pv trivial rfl rfl ?_
    refine o_fieldAddr (T := 3) (off := 1) trivial rfl Tryd.underlying32 rfl rfl rfl Tryd.sizeOf3 rfl rfl ?_
    refine o_load1 trivial rfl Tryd.isAgg3 rfl (by first | exact .head _ | exact .tail _ (.head _) | exact .tail _ (.tail _ (.head _)) | exact .tail _ (.tail _ (.tail _ (.head _))) | exact .tail _ (.tail _ (.tail _ (.tail _ (.head _)))) | exact .tail _ (.tail _ (.tail _ (.tail _ (.tail _ (.head _)))))) (by repeat constructor) ?_
    refine o_buildS trivial rfl (bld32) rfl (.cons rfl rfl rfl (by repeat constructor) (.cons rfl rfl rfl (by repeat constructor) .nil)) ?_
    refine o_store trivial rfl rfl rfl Tryd.sizeOf32 rfl rfl (by first | exact .here | exact .there .here | exact .there (.there .here) | exact .there (.there (.there .here)) | exact .there (.there (.there (.there .here))) | exact .there (.there (.there (.there (.there .here))))) (by repeat constructor) ?_
    refine o_nil ?_
    refine ret0 rfl ?_
    exact fun w' hw' => ⟨I, [ptrB b7 br, rdr br s j, plcB b6 (placeZ s j)], by rw [hmv.2.2, if_pos f1]; exact hw'.sort (by repeat' first | exact Takes.nil | exact Take.here | apply Takes.cons | apply Take.there), Ext.refl _ _, rfl, rfl, rfl⟩
  · skip
    have f1 := h1
    try simp only [Bool.or_eq_true, Bool.and_eq_true, Bool.or_eq_false_iff, Bool.and_eq_false_iff, decide_eq_true_eq, decide_eq_false_iff_not, beq_iff_eq, beq_eq_false_iff_ne, bne_iff_ne, bne_eq_false_iff_eq, Bool.not_eq_true', Bool.not_eq_false', ne_eq, Int.not_lt, Int.not_le, ge_iff_le, gt_iff_lt] at f1
    refine c_region ?_
    refine o_fieldAddr (T := 3) (off := 1) trivial rfl Tryd.underlying32 rfl rfl rfl Tryd.sizeOf3 rfl rfl ?_
    refine o_load1 trivial rfl Tryd.isAgg3 rfl (by first | exact .head _ | exact .tail _ (.head _) | exact .tail _ (.tail _ (.head _)) | exact .tail _ (.tail _ (.tail _ (.head _))) | exact .tail _ (.tail _ (.tail _ (.tail _ (.head _)))) | exact .tail _ (.tail _ (.tail _ (.tail _ (.tail _ (.head _)))))) (by repeat constructor) ?_
    refine o_fieldAddr (T := 3) (off := 1) trivial rfl Tryd.underlying32 rfl rfl rfl Tryd.sizeOf3 rfl rfl ?_
    refine o_load1 trivial rfl Tryd.isAgg3 rfl (by first | exact .head _ | exact .tail _ (.head _) | exact .tail _ (.tail _ (.head _)) | exact .tail _ (.tail _ (.tail _ (.head _))) | exact .tail _ (.tail _ (.tail _ (.tail _ (.head _)))) | exact .tail _ (.tail _ (.tail _ (.tail _ (.tail _ (.head _)))))) (by repeat constructor) ?_
    first | (refine o_sub trivial rfl rfl rfl ?_ ?_; (omega)) | refine o_pv trivial rfl rfl ?_
    first | (refine o_add trivial rfl rfl rfl ?_ ?_; (omega)) | refine o_pv trivial rfl rfl ?_
    refine o_fieldAddr (T := 3) (off := 1) trivial rfl Tryd.underlying32 rfl rfl rfl Tryd.sizeOf3 rfl rfl ?_
    refine o_store trivial rfl rfl rfl Tryd.sizeOf3 rfl rfl (by first | exact .here | exact .there .here | exact .there (.there .here) | exact .there (.there (.there .here)) | exact .there (.there (.there (.there .here))) | exact .there (.there (.there (.there (.there .here))))) (by repeat constructor) ?_
    refine o_nil ?_
    refine ret0 rfl ?_
    exact fun w' hw' => ⟨I, [ptrB b7 br, rdr br s j, plcB b6 (placeZ s j)], by rw [hmv.2.2, if_neg (by omega), Int.add_sub_assoc]; exact hw'.sort (by repeat' first | exact Takes.nil | exact Take.here | apply Takes.cons | apply Take.there), Ext.refl _ _, rfl, rfl, rfl⟩
theorem runTail_any (s : ByteArray) (i : Nat) {I : Hp} (hi : i ≤ s.size) (hs : s.size ≤ 60000) : Fun Tryd.prog 42 [.string (s.extract i s.size), .func (.func 44) #[] #[]] I [] (fun v _ _ => v = .int .i64 ((runAt isBlank s i - i : Nat) : Int)) := by
  have h := run_any (s.extract i s.size) 44 isBlank (I := I) blanks_any Tryd.call44 (by simp; omega)
  have ht := runAt_tail isBlank s i hi
  rw [show runAt isBlank (s.extract i s.size) 0 = runAt isBlank s i - i by omega] at h
  exact h
theorem lex_any (s : ByteArray) {I : Hp} (hT : Tabs I) (hM : Mx I) (hs : s.size ≤ 60000) : Fun Tryd.prog 27 [.string s] I [] (fun v I' _ => LexOut (lexZ s) v I') := by
  rw [lexZ_at (by omega)]
  intro w hw
  refine enter1 _ Tryd.func27 rfl Tryd.ntmps27 rfl ?_ hw
  refine c_seq ?_
  refine c_region ?_
  refine o_pv trivial rfl rfl ?_
  refine o_alloc trivial rfl Tryd.zeroValue32 rfl (fun b3 => ?_)
  refine o_pv trivial rfl rfl ?_
  refine o_nil ?_
  refine then_c ?_
  refine c_seq ?_
  refine c_seq ?_
  refine c_region ?_
  refine o_pv trivial rfl rfl ?_
  refine o_lenS trivial rfl Tryd.underlying9 rfl ?_
  refine o_pv trivial rfl rfl ?_
  refine o_nil ?_
  refine then_c ?_
  refine c_cond rfl (fun h1 => ?_) (fun h1 => ?_)
  · skip
    have f1 := h1
    try simp only [Bool.or_eq_true, Bool.and_eq_true, Bool.or_eq_false_iff, Bool.and_eq_false_iff, decide_eq_true_eq, decide_eq_false_iff_not, beq_iff_eq, beq_eq_false_iff_ne, bne_iff_ne, bne_eq_false_iff_eq, Bool.not_eq_true', Bool.not_eq_false', ne_eq, Int.not_lt, Int.not_le, ge_iff_le, gt_iff_lt] at f1
    exfalso; omega
  · skip
    have f1 := h1
    try simp only [Bool.or_eq_true, Bool.and_eq_true, Bool.or_eq_false_iff, Bool.and_eq_false_iff, decide_eq_true_eq, decide_eq_false_iff_not, beq_iff_eq, beq_eq_false_iff_ne, bne_iff_ne, bne_eq_false_iff_eq, Bool.not_eq_true', Bool.not_eq_false', ne_eq, Int.not_lt, Int.not_le, ge_iff_le, gt_iff_lt] at f1
    refine c_skip ?_
    refine then_c ?_
    refine c_seq ?_
    refine c_region ?_
    refine o_pv trivial rfl rfl ?_
    refine o_nil ?_
    refine then_c ?_
    refine c_seq ?_
    refine c_region ?_
    refine o_buildS trivial rfl (bld32) rfl (.cons rfl rfl rfl (by repeat constructor) (.cons rfl rfl rfl (by repeat constructor) .nil)) ?_
    refine o_alloc trivial rfl Tryd.zeroValue32 rfl (fun b6 => ?_)
    refine o_store trivial rfl rfl rfl Tryd.sizeOf32 rfl rfl (by first | exact .here | exact .there .here | exact .there (.there .here) | exact .there (.there (.there .here)) | exact .there (.there (.there (.there .here))) | exact .there (.there (.there (.there (.there .here))))) (by repeat constructor) ?_
    refine o_nil ?_
    refine then_c ?_
    refine c_seq ?_
    refine c_region ?_
    refine o_pv trivial rfl rfl ?_
    refine o_buildS trivial rfl (bld55) rfl (.cons rfl rfl rfl (by repeat constructor) .nil) ?_
    refine o_box trivial rfl rfl rfl (fun b21 => ?_)
    refine o_alloc trivial rfl Tryd.zeroValue53 rfl (fun b7 => ?_)
    refine o_store trivial rfl rfl rfl Tryd.sizeOf53 rfl rfl (by first | exact .here | exact .there .here | exact .there (.there .here) | exact .there (.there (.there .here)) | exact .there (.there (.there (.there .here))) | exact .there (.there (.there (.there (.there .here))))) (by repeat constructor) ?_
    refine o_nil ?_
    refine then_c ?_
    refine c_seq ?_
    refine c_region ?_
    refine o_pv trivial rfl rfl ?_
    refine o_pv trivial rfl rfl ?_
    refine o_nil ?_
    refine then_c ?_
    refine c_block ?_
    refine c_loop (ι := Nat × List Tok × Value) [3, 6, 7, 8] (.cons rfl (.cons rfl (.cons rfl (.cons rfl .nil)))) (fun x => s.size - x.1) (fun x E0 => (5, x.2.2) :: E0) (fun x => St w [] I [.row x.2.2 45 4 x.2.1.length (x.2.1.map Tok.cells).flatten, .box b3 (.cells #[.int .i64 0, .int .i64 0] 32 (0, 0)), plcB b6 (placeZ s x.1), ptrB b7 b21, rdr b21 s x.1]) (fun x => x.1 ≤ s.size ∧ Hops s 0 x.1 ∧ lexAt s 0 [] = lexAt s x.1 x.2.1 ∧ x.2.1.length ≤ 4000) ((0, [], .slice none 0 0)) (sub_cons rfl (sub_cons rfl (sub_cons rfl (sub_cons rfl (sub_cons rfl sub_nil))))) (fun _ h => by have e0 : placeZ s (((0, [], Value.slice none 0 0) : Nat × List Tok × Value).1 : Int) = (1, 1) := placeZ_first s; rw [e0]; exact (h.nilRow 45 4).sort (by repeat' first | exact Takes.nil | exact Take.here | apply Takes.cons | apply Take.there)) (⟨Nat.zero_le _, .refl, rfl, Nat.zero_le _⟩) ?_
    rintro ⟨i, out, u⟩ ⟨hle, hh, hF, hout⟩
    try dsimp only
    simp only at hle hh hF hout; have hj1 := runAt_ge isBlank s i hle; have hj2 := runAt_le isBlank s i hle; have hjs := runAt_steps isBlank s s.size i (by omega) hle; have hj0 := hh.trans hjs; have hjn := blanks_not s s.size i (by omega) hle; rw [blanks_at s out s.size i (by omega) hle] at hF
    refine c_block ?_
    refine c_seq ?_
    refine c_region ?_
    refine o_pv trivial rfl rfl ?_
    refine o_load1 trivial rfl Tryd.isAgg53 rfl (by first | exact .head _ | exact .tail _ (.head _) | exact .tail _ (.tail _ (.head _)) | exact .tail _ (.tail _ (.tail _ (.head _))) | exact .tail _ (.tail _ (.tail _ (.tail _ (.head _)))) | exact .tail _ (.tail _ (.tail _ (.tail _ (.tail _ (.head _)))))) (by repeat constructor) ?_
    refine o_callK trivial rfl Tryd.call43 rfl (rest_any b21 s i hle) (by repeat' first | exact Takes.nil | exact Take.here | apply Takes.cons | apply Take.there) ?_
    rintro _ _ _ hx1 ⟨rfl, rfl, rfl⟩
    refine o_callQ trivial rfl Tryd.call42 rfl (runTail_any s i hle hs) ?_
    refine o_callKT trivial rfl rfl Tryd.call40 rfl rfl (move_any b7 b6 b21 s i (runAt isBlank s i) hs hh hjs hj2) (by repeat' first | exact Takes.nil | exact Take.here | apply Takes.cons | apply Take.there) ?_
    rintro _ _ _ hx2 ⟨rfl, rfl, rfl⟩
    refine o_nil ?_
    refine then_c ?_
    refine c_seq ?_
    refine c_seq ?_
    refine c_region ?_
    refine o_load1 trivial rfl Tryd.isAgg53 rfl (by first | exact .head _ | exact .tail _ (.head _) | exact .tail _ (.tail _ (.head _)) | exact .tail _ (.tail _ (.tail _ (.head _))) | exact .tail _ (.tail _ (.tail _ (.tail _ (.head _)))) | exact .tail _ (.tail _ (.tail _ (.tail _ (.tail _ (.head _)))))) (by repeat constructor) ?_
    refine o_callK trivial rfl Tryd.call43 rfl (rest_any b21 s (runAt isBlank s i) hj2) (by repeat' first | exact Takes.nil | exact Take.here | apply Takes.cons | apply Take.there) ?_
    rintro _ _ _ hx3 ⟨rfl, rfl, rfl⟩
    refine o_pv trivial rfl rfl ?_
    refine o_nil ?_
    refine then_c ?_
    refine c_cond rfl (fun h2 => ?_) (fun h2 => ?_)
    · skip
      have f2 := h2
      try simp only [Bool.or_eq_true, Bool.and_eq_true, Bool.or_eq_false_iff, Bool.and_eq_false_iff, decide_eq_true_eq, decide_eq_false_iff_not, beq_iff_eq, beq_eq_false_iff_ne, bne_iff_ne, bne_eq_false_iff_eq, Bool.not_eq_true', Bool.not_eq_false', ne_eq, Int.not_lt, Int.not_le, ge_iff_le, gt_iff_lt] at f2
      rw [nil_eq] at f2; have hsz2 : (s.extract (runAt isBlank s i) s.size).size = s.size - (runAt isBlank s i) := by simp
      have hje : s.size ≤ (runAt isBlank s i) := by omega
      refine c_seq ?_
      refine c_region ?_
      refine o_pv trivial rfl rfl ?_
      refine o_buildS trivial rfl (bld32) rfl .nil ?_
      refine o_pv trivial rfl rfl ?_
      refine o_store trivial rfl rfl rfl Tryd.sizeOf32 rfl rfl (by first | exact .here | exact .there .here | exact .there (.there .here) | exact .there (.there (.there .here)) | exact .there (.there (.there (.there .here))) | exact .there (.there (.there (.there (.there .here))))) (by repeat constructor) ?_
      refine o_pv trivial rfl rfl ?_
      refine o_nil ?_
      refine then_c ?_
      refine c_ret ?_
      refine then_r ?_
      refine blk_r ?_
      refine then_r ?_
      refine blk_r ?_
      refine retR rfl (.tmp rfl (.agg Tryd.isAgg32 Tryd.sizeOf32 rfl (by first | exact .head _ | exact .tail _ (.head _) | exact .tail _ (.tail _ (.head _)) | exact .tail _ (.tail _ (.tail _ (.head _))) | exact .tail _ (.tail _ (.tail _ (.tail _ (.head _)))) | exact .tail _ (.tail _ (.tail _ (.tail _ (.tail _ (.head _)))))) rfl (.tmp rfl .nil))) ?_
      exact fun w' hw' => leafRow (e := 45) (size := 4) (nn := out.length) (u := u) (xss := out.map Tok.cells) (B := []) (by simp) (cells_len out) (by unfold maxLen; omega) (fun I' hl hs' => by rw [hF, lexAt_end (by omega)]; exact ⟨_, rfl, hs'⟩) w' (hw'.sort (by repeat' first | exact Takes.nil | exact Take.here | apply Takes.cons | apply Take.there))
    · skip
      have f2 := h2
      try simp only [Bool.or_eq_true, Bool.and_eq_true, Bool.or_eq_false_iff, Bool.and_eq_false_iff, decide_eq_true_eq, decide_eq_false_iff_not, beq_iff_eq, beq_eq_false_iff_ne, bne_iff_ne, bne_eq_false_iff_eq, Bool.not_eq_true', Bool.not_eq_false', ne_eq, Int.not_lt, Int.not_le, ge_iff_le, gt_iff_lt] at f2
      rw [nil_eq] at f2; have hsz2 : (s.extract (runAt isBlank s i) s.size).size = s.size - (runAt isBlank s i) := by simp
      have hj : (runAt isBlank s i) < s.size := by omega
      refine c_skip ?_
      refine then_c ?_
      refine c_seq ?_
      refine c_seq ?_
      refine c_region ?_
      refine o_pv trivial rfl rfl ?_
      refine o_lenRow trivial rfl Tryd.underlying39 rfl (by first | exact .head _ | exact .tail _ (.head _) | exact .tail _ (.tail _ (.head _)) | exact .tail _ (.tail _ (.tail _ (.head _))) | exact .tail _ (.tail _ (.tail _ (.tail _ (.head _)))) | exact .tail _ (.tail _ (.tail _ (.tail _ (.tail _ (.head _)))))) ?_
      refine o_pv trivial rfl rfl ?_
      refine o_nil ?_
      refine then_c ?_
      refine c_cond rfl (fun h3 => ?_) (fun h3 => ?_)
      · skip
        have f3 := h3
        try simp only [Bool.or_eq_true, Bool.and_eq_true, Bool.or_eq_false_iff, Bool.and_eq_false_iff, decide_eq_true_eq, decide_eq_false_iff_not, beq_iff_eq, beq_eq_false_iff_ne, bne_iff_ne, bne_eq_false_iff_eq, Bool.not_eq_true', Bool.not_eq_false', ne_eq, Int.not_lt, Int.not_le, ge_iff_le, gt_iff_lt] at f3
        refine c_seq ?_
        refine c_any (m := 4) (by kernel_rfl) rfl (fun _ h => h.drawn) ?_
        refine a_go [0, 1] (by kernel_rfl) rfl (TWs.cons ?_ (TWs.cons ?_ TWs.nil))
        · skip
          refine a_op #[true, false, false, false] rfl rfl ?_
          refine o_loadA trivial rfl Tryd.isAgg32 Tryd.sizeOf32 rfl (by first | exact .head _ | exact .tail _ (.head _) | exact .tail _ (.tail _ (.head _)) | exact .tail _ (.tail _ (.tail _ (.head _))) | exact .tail _ (.tail _ (.tail _ (.tail _ (.head _)))) | exact .tail _ (.tail _ (.tail _ (.tail _ (.tail _ (.head _)))))) (by repeat constructor) ?_
          refine o_nil ?_
          refine a_next ?_
          refine a_go [1] (by kernel_rfl) rfl (TWs.cons ?_ TWs.nil)
          · skip
            refine a_op #[true, true, false, false] rfl rfl ?_
            refine o_pv trivial rfl rfl ?_
            refine o_nil ?_
            refine a_next ?_
            refine a_go [2] (by kernel_rfl) rfl (TWs.cons ?_ TWs.nil)
            · skip
              refine a_op #[true, true, true, false] rfl rfl ?_
              refine o_store trivial rfl rfl rfl Tryd.sizeOf32 rfl rfl (by first | exact .here | exact .there .here | exact .there (.there .here) | exact .there (.there (.there .here)) | exact .there (.there (.there (.there .here))) | exact .there (.there (.there (.there (.there .here))))) (by repeat constructor) ?_
              refine o_nil ?_
              refine a_next ?_
              refine a_go [3] (by kernel_rfl) rfl (TWs.cons ?_ TWs.nil)
              · skip
                refine a_op #[true, true, true, true] rfl rfl ?_
                refine o_pv trivial rfl rfl ?_
                refine o_nil ?_
                refine a_next ?_
                refine a_end (by kernel_rfl) ?_
                refine then_c ?_
                refine c_ret ?_
                refine then_r ?_
                refine blk_r ?_
                refine then_r ?_
                refine blk_r ?_
                refine retR rfl (.tmp rfl (.agg Tryd.isAgg32 Tryd.sizeOf32 rfl (by first | exact .head _ | exact .tail _ (.head _) | exact .tail _ (.tail _ (.head _)) | exact .tail _ (.tail _ (.tail _ (.head _))) | exact .tail _ (.tail _ (.tail _ (.tail _ (.head _)))) | exact .tail _ (.tail _ (.tail _ (.tail _ (.tail _ (.head _)))))) rfl (.tmp rfl .nil))) ?_
                refine leaf (Ext.refl _ _) (List.nil_sublist _) ?_; rw [hF, lexAt_open hj, if_neg (hjn hj), if_pos (by omega)]; exact ⟨_, rfl, Slc.nil _ _⟩
        · skip
          refine a_op #[false, true, false, false] rfl rfl ?_
          refine o_pv trivial rfl rfl ?_
          refine o_nil ?_
          refine a_next ?_
          refine a_go [0] (by kernel_rfl) rfl (TWs.cons ?_ TWs.nil)
          · skip
            refine a_op #[true, true, false, false] rfl rfl ?_
            refine o_loadA trivial rfl Tryd.isAgg32 Tryd.sizeOf32 rfl (by first | exact .head _ | exact .tail _ (.head _) | exact .tail _ (.tail _ (.head _)) | exact .tail _ (.tail _ (.tail _ (.head _))) | exact .tail _ (.tail _ (.tail _ (.tail _ (.head _)))) | exact .tail _ (.tail _ (.tail _ (.tail _ (.tail _ (.head _)))))) (by repeat constructor) ?_
            refine o_nil ?_
            refine a_next ?_
            refine a_go [2] (by kernel_rfl) rfl (TWs.cons ?_ TWs.nil)
            · skip
              refine a_op #[true, true, true, false] rfl rfl ?_
              refine o_store trivial rfl rfl rfl Tryd.sizeOf32 rfl rfl (by first | exact .here | exact .there .here | exact .there (.there .here) | exact .there (.there (.there .here)) | exact .there (.there (.there (.there .here))) | exact .there (.there (.there (.there (.there .here))))) (by repeat constructor) ?_
              refine o_nil ?_
              refine a_next ?_
              refine a_go [3] (by kernel_rfl) rfl (TWs.cons ?_ TWs.nil)
              · skip
                refine a_op #[true, true, true, true] rfl rfl ?_
                refine o_pv trivial rfl rfl ?_
                refine o_nil ?_
                refine a_next ?_
                refine a_end (by kernel_rfl) ?_
                refine then_c ?_
                refine c_ret ?_
                refine then_r ?_
                refine blk_r ?_
                refine then_r ?_
                refine blk_r ?_
                refine retR rfl (.tmp rfl (.agg Tryd.isAgg32 Tryd.sizeOf32 rfl (by first | exact .head _ | exact .tail _ (.head _) | exact .tail _ (.tail _ (.head _)) | exact .tail _ (.tail _ (.tail _ (.head _))) | exact .tail _ (.tail _ (.tail _ (.tail _ (.head _)))) | exact .tail _ (.tail _ (.tail _ (.tail _ (.tail _ (.head _)))))) rfl (.tmp rfl .nil))) ?_
                refine leaf (Ext.refl _ _) (List.nil_sublist _) ?_; rw [hF, lexAt_open hj, if_neg (hjn hj), if_pos (by omega)]; exact ⟨_, rfl, Slc.nil _ _⟩
      · skip
        have f3 := h3
        try simp only [Bool.or_eq_true, Bool.and_eq_true, Bool.or_eq_false_iff, Bool.and_eq_false_iff, decide_eq_true_eq, decide_eq_false_iff_not, beq_iff_eq, beq_eq_false_iff_ne, bne_iff_ne, bne_eq_false_iff_eq, Bool.not_eq_true', Bool.not_eq_false', ne_eq, Int.not_lt, Int.not_le, ge_iff_le, gt_iff_lt] at f3
        have hcf := rdF_call (kAt s (runAt isBlank s i))
        refine c_skip ?_
        refine then_c ?_
        refine c_seq ?_
        refine c_region ?_
        refine o_load1 trivial rfl Tryd.isAgg53 rfl (by first | exact .head _ | exact .tail _ (.head _) | exact .tail _ (.tail _ (.head _)) | exact .tail _ (.tail _ (.tail _ (.head _))) | exact .tail _ (.tail _ (.tail _ (.tail _ (.head _)))) | exact .tail _ (.tail _ (.tail _ (.tail _ (.tail _ (.head _)))))) (by repeat constructor) ?_
        refine o_pv trivial rfl rfl ?_
        refine o_fieldAddr (T := 3) (off := 1) trivial rfl Tryd.underlying55 rfl rfl rfl Tryd.sizeOf3 rfl rfl ?_
        refine o_load1 trivial rfl Tryd.isAgg3 rfl (by first | exact .head _ | exact .tail _ (.head _) | exact .tail _ (.tail _ (.head _)) | exact .tail _ (.tail _ (.tail _ (.head _))) | exact .tail _ (.tail _ (.tail _ (.tail _ (.head _)))) | exact .tail _ (.tail _ (.tail _ (.tail _ (.tail _ (.head _)))))) (by repeat constructor) ?_
        refine o_pv trivial rfl rfl ?_
        refine o_nil ?_
        refine then_c ?_
        refine c_seq ?_
        refine c_region ?_
        refine o_load1 trivial rfl Tryd.isAgg53 rfl (by first | exact .head _ | exact .tail _ (.head _) | exact .tail _ (.tail _ (.head _)) | exact .tail _ (.tail _ (.tail _ (.head _))) | exact .tail _ (.tail _ (.tail _ (.tail _ (.head _)))) | exact .tail _ (.tail _ (.tail _ (.tail _ (.tail _ (.head _)))))) (by repeat constructor) ?_
        refine o_callK trivial rfl Tryd.call45 rfl (read_any b21 s (runAt isBlank s i) hT hj hs) (by repeat' first | exact Takes.nil | exact Take.here | apply Takes.cons | apply Take.there) ?_
        rintro _ _ _ hx4 ⟨rfl, rfl, rfl⟩
        refine o_callKT trivial rfl rfl hcf rfl rfl (rdF_any b21 s (runAt isBlank s i) hM hj hs) (by repeat' first | exact Takes.nil | exact Take.here | apply Takes.cons | apply Take.there) ?_
        rintro _ _ _ hx5 ⟨rfl, rfl, rfl⟩
        refine o_pv trivial rfl rfl ?_
        refine o_pv trivial rfl rfl ?_
        refine o_pv trivial rfl rfl ?_
        refine o_alloc trivial rfl Tryd.zeroValue45 rfl (fun b10 => ?_)
        refine o_store trivial rfl rfl rfl Tryd.sizeOf45 rfl rfl (by first | exact .here | exact .there .here | exact .there (.there .here) | exact .there (.there (.there .here)) | exact .there (.there (.there (.there .here))) | exact .there (.there (.there (.there (.there .here))))) (by repeat constructor) ?_
        refine o_pv trivial rfl rfl ?_
        refine o_nil ?_
        refine then_c ?_
        refine c_seq ?_
        refine c_seq ?_
        refine c_region ?_
        refine o_pv trivial rfl rfl ?_
        refine o_pv trivial rfl rfl ?_
        refine o_nil ?_
        refine then_c ?_
        refine c_cond rfl (fun h4 => ?_) (fun h4 => ?_)
        · skip
          have f4 := h4
          try simp only [Bool.or_eq_true, Bool.and_eq_true, Bool.or_eq_false_iff, Bool.and_eq_false_iff, decide_eq_true_eq, decide_eq_false_iff_not, beq_iff_eq, beq_eq_false_iff_ne, bne_iff_ne, bne_eq_false_iff_eq, Bool.not_eq_true', Bool.not_eq_false', ne_eq, Int.not_lt, Int.not_le, ge_iff_le, gt_iff_lt] at f4
          refine c_seq ?_
          refine c_any (m := 5) (by kernel_rfl) rfl (fun _ h => h.drawn) ?_
          refine a_go [0, 1, 2] (by kernel_rfl) rfl (TWs.cons ?_ (TWs.cons ?_ (TWs.cons ?_ TWs.nil)))
          · skip
            refine a_op #[true, false, false, false, false] rfl rfl ?_
            refine o_loadA trivial rfl Tryd.isAgg32 Tryd.sizeOf32 rfl (by first | exact .head _ | exact .tail _ (.head _) | exact .tail _ (.tail _ (.head _)) | exact .tail _ (.tail _ (.tail _ (.head _))) | exact .tail _ (.tail _ (.tail _ (.tail _ (.head _)))) | exact .tail _ (.tail _ (.tail _ (.tail _ (.tail _ (.head _)))))) (by repeat constructor) ?_
            refine o_nil ?_
            refine a_next ?_
            refine a_go [1, 2] (by kernel_rfl) rfl (TWs.cons ?_ (TWs.cons ?_ TWs.nil))
            · skip
              refine a_op #[true, true, false, false, false] rfl rfl ?_
              refine o_pv trivial rfl rfl ?_
              refine o_nil ?_
              refine a_next ?_
              refine a_go [2] (by kernel_rfl) rfl (TWs.cons ?_ TWs.nil)
              · skip
                refine a_op #[true, true, true, false, false] rfl rfl ?_
                refine o_pv trivial rfl rfl ?_
                refine o_nil ?_
                refine a_next ?_
                refine a_go [3] (by kernel_rfl) rfl (TWs.cons ?_ TWs.nil)
                · skip
                  refine a_op #[true, true, true, true, false] rfl rfl ?_
                  refine o_store trivial rfl rfl rfl Tryd.sizeOf32 rfl rfl (by first | exact .here | exact .there .here | exact .there (.there .here) | exact .there (.there (.there .here)) | exact .there (.there (.there (.there .here))) | exact .there (.there (.there (.there (.there .here))))) (by repeat constructor) ?_
                  refine o_nil ?_
                  refine a_next ?_
                  refine a_go [4] (by kernel_rfl) rfl (TWs.cons ?_ TWs.nil)
                  · skip
                    refine a_op #[true, true, true, true, true] rfl rfl ?_
                    refine o_pv trivial rfl rfl ?_
                    refine o_nil ?_
                    refine a_next ?_
                    refine a_end (by kernel_rfl) ?_
                    refine then_c ?_
                    refine c_ret ?_
                    refine then_r ?_
                    refine blk_r ?_
                    refine then_r ?_
                    refine blk_r ?_
                    refine retR rfl (.tmp rfl (.agg Tryd.isAgg32 Tryd.sizeOf32 rfl (by first | exact .head _ | exact .tail _ (.head _) | exact .tail _ (.tail _ (.head _)) | exact .tail _ (.tail _ (.tail _ (.head _))) | exact .tail _ (.tail _ (.tail _ (.tail _ (.head _)))) | exact .tail _ (.tail _ (.tail _ (.tail _ (.tail _ (.head _)))))) rfl (.tmp rfl .nil))) ?_
                    refine leaf (Ext.refl _ _) (List.nil_sublist _) ?_; rw [hF, lexAt_open hj, if_neg (hjn hj), if_neg (by omega), if_pos f4]; exact ⟨_, rfl, Slc.nil _ _⟩
            · skip
              refine a_op #[true, false, true, false, false] rfl rfl ?_
              refine o_pv trivial rfl rfl ?_
              refine o_nil ?_
              refine a_next ?_
              refine a_go [1, 3] (by kernel_rfl) rfl (TWs.cons ?_ (TWs.cons ?_ TWs.nil))
              · skip
                refine a_op #[true, true, true, false, false] rfl rfl ?_
                refine o_pv trivial rfl rfl ?_
                refine o_nil ?_
                refine a_next ?_
                refine a_go [3] (by kernel_rfl) rfl (TWs.cons ?_ TWs.nil)
                · skip
                  refine a_op #[true, true, true, true, false] rfl rfl ?_
                  refine o_store trivial rfl rfl rfl Tryd.sizeOf32 rfl rfl (by first | exact .here | exact .there .here | exact .there (.there .here) | exact .there (.there (.there .here)) | exact .there (.there (.there (.there .here))) | exact .there (.there (.there (.there (.there .here))))) (by repeat constructor) ?_
                  refine o_nil ?_
                  refine a_next ?_
                  refine a_go [4] (by kernel_rfl) rfl (TWs.cons ?_ TWs.nil)
                  · skip
                    refine a_op #[true, true, true, true, true] rfl rfl ?_
                    refine o_pv trivial rfl rfl ?_
                    refine o_nil ?_
                    refine a_next ?_
                    refine a_end (by kernel_rfl) ?_
                    refine then_c ?_
                    refine c_ret ?_
                    refine then_r ?_
                    refine blk_r ?_
                    refine then_r ?_
                    refine blk_r ?_
                    refine retR rfl (.tmp rfl (.agg Tryd.isAgg32 Tryd.sizeOf32 rfl (by first | exact .head _ | exact .tail _ (.head _) | exact .tail _ (.tail _ (.head _)) | exact .tail _ (.tail _ (.tail _ (.head _))) | exact .tail _ (.tail _ (.tail _ (.tail _ (.head _)))) | exact .tail _ (.tail _ (.tail _ (.tail _ (.tail _ (.head _)))))) rfl (.tmp rfl .nil))) ?_
                    refine leaf (Ext.refl _ _) (List.nil_sublist _) ?_; rw [hF, lexAt_open hj, if_neg (hjn hj), if_neg (by omega), if_pos f4]; exact ⟨_, rfl, Slc.nil _ _⟩
              · skip
                refine a_op #[true, false, true, true, false] rfl rfl ?_
                refine o_store trivial rfl rfl rfl Tryd.sizeOf32 rfl rfl (by first | exact .here | exact .there .here | exact .there (.there .here) | exact .there (.there (.there .here)) | exact .there (.there (.there (.there .here))) | exact .there (.there (.there (.there (.there .here))))) (by repeat constructor) ?_
                refine o_nil ?_
                refine a_next ?_
                refine a_go [1] (by kernel_rfl) rfl (TWs.cons ?_ TWs.nil)
                · skip
                  refine a_op #[true, true, true, true, false] rfl rfl ?_
                  refine o_pv trivial rfl rfl ?_
                  refine o_nil ?_
                  refine a_next ?_
                  refine a_go [4] (by kernel_rfl) rfl (TWs.cons ?_ TWs.nil)
                  · skip
                    refine a_op #[true, true, true, true, true] rfl rfl ?_
                    refine o_pv trivial rfl rfl ?_
                    refine o_nil ?_
                    refine a_next ?_
                    refine a_end (by kernel_rfl) ?_
                    refine then_c ?_
                    refine c_ret ?_
                    refine then_r ?_
                    refine blk_r ?_
                    refine then_r ?_
                    refine blk_r ?_
                    refine retR rfl (.tmp rfl (.agg Tryd.isAgg32 Tryd.sizeOf32 rfl (by first | exact .head _ | exact .tail _ (.head _) | exact .tail _ (.tail _ (.head _)) | exact .tail _ (.tail _ (.tail _ (.head _))) | exact .tail _ (.tail _ (.tail _ (.tail _ (.head _)))) | exact .tail _ (.tail _ (.tail _ (.tail _ (.tail _ (.head _)))))) rfl (.tmp rfl .nil))) ?_
                    refine leaf (Ext.refl _ _) (List.nil_sublist _) ?_; rw [hF, lexAt_open hj, if_neg (hjn hj), if_neg (by omega), if_pos f4]; exact ⟨_, rfl, Slc.nil _ _⟩
          · skip
            refine a_op #[false, true, false, false, false] rfl rfl ?_
            refine o_pv trivial rfl rfl ?_
            refine o_nil ?_
            refine a_next ?_
            refine a_go [0, 2] (by kernel_rfl) rfl (TWs.cons ?_ (TWs.cons ?_ TWs.nil))
            · skip
              refine a_op #[true, true, false, false, false] rfl rfl ?_
              refine o_loadA trivial rfl Tryd.isAgg32 Tryd.sizeOf32 rfl (by first | exact .head _ | exact .tail _ (.head _) | exact .tail _ (.tail _ (.head _)) | exact .tail _ (.tail _ (.tail _ (.head _))) | exact .tail _ (.tail _ (.tail _ (.tail _ (.head _)))) | exact .tail _ (.tail _ (.tail _ (.tail _ (.tail _ (.head _)))))) (by repeat constructor) ?_
              refine o_nil ?_
              refine a_next ?_
              refine a_go [2] (by kernel_rfl) rfl (TWs.cons ?_ TWs.nil)
              · skip
                refine a_op #[true, true, true, false, false] rfl rfl ?_
                refine o_pv trivial rfl rfl ?_
                refine o_nil ?_
                refine a_next ?_
                refine a_go [3] (by kernel_rfl) rfl (TWs.cons ?_ TWs.nil)
                · skip
                  refine a_op #[true, true, true, true, false] rfl rfl ?_
                  refine o_store trivial rfl rfl rfl Tryd.sizeOf32 rfl rfl (by first | exact .here | exact .there .here | exact .there (.there .here) | exact .there (.there (.there .here)) | exact .there (.there (.there (.there .here))) | exact .there (.there (.there (.there (.there .here))))) (by repeat constructor) ?_
                  refine o_nil ?_
                  refine a_next ?_
                  refine a_go [4] (by kernel_rfl) rfl (TWs.cons ?_ TWs.nil)
                  · skip
                    refine a_op #[true, true, true, true, true] rfl rfl ?_
                    refine o_pv trivial rfl rfl ?_
                    refine o_nil ?_
                    refine a_next ?_
                    refine a_end (by kernel_rfl) ?_
                    refine then_c ?_
                    refine c_ret ?_
                    refine then_r ?_
                    refine blk_r ?_
                    refine then_r ?_
                    refine blk_r ?_
                    refine retR rfl (.tmp rfl (.agg Tryd.isAgg32 Tryd.sizeOf32 rfl (by first | exact .head _ | exact .tail _ (.head _) | exact .tail _ (.tail _ (.head _)) | exact .tail _ (.tail _ (.tail _ (.head _))) | exact .tail _ (.tail _ (.tail _ (.tail _ (.head _)))) | exact .tail _ (.tail _ (.tail _ (.tail _ (.tail _ (.head _)))))) rfl (.tmp rfl .nil))) ?_
                    refine leaf (Ext.refl _ _) (List.nil_sublist _) ?_; rw [hF, lexAt_open hj, if_neg (hjn hj), if_neg (by omega), if_pos f4]; exact ⟨_, rfl, Slc.nil _ _⟩
            · skip
              refine a_op #[false, true, true, false, false] rfl rfl ?_
              refine o_pv trivial rfl rfl ?_
              refine o_nil ?_
              refine a_next ?_
              refine a_go [0] (by kernel_rfl) rfl (TWs.cons ?_ TWs.nil)
              · skip
                refine a_op #[true, true, true, false, false] rfl rfl ?_
                refine o_loadA trivial rfl Tryd.isAgg32 Tryd.sizeOf32 rfl (by first | exact .head _ | exact .tail _ (.head _) | exact .tail _ (.tail _ (.head _)) | exact .tail _ (.tail _ (.tail _ (.head _))) | exact .tail _ (.tail _ (.tail _ (.tail _ (.head _)))) | exact .tail _ (.tail _ (.tail _ (.tail _ (.tail _ (.head _)))))) (by repeat constructor) ?_
                refine o_nil ?_
                refine a_next ?_
                refine a_go [3] (by kernel_rfl) rfl (TWs.cons ?_ TWs.nil)
                · skip
                  refine a_op #[true, true, true, true, false] rfl rfl ?_
                  refine o_store trivial rfl rfl rfl Tryd.sizeOf32 rfl rfl (by first | exact .here | exact .there .here | exact .there (.there .here) | exact .there (.there (.there .here)) | exact .there (.there (.there (.there .here))) | exact .there (.there (.there (.there (.there .here))))) (by repeat constructor) ?_
                  refine o_nil ?_
                  refine a_next ?_
                  refine a_go [4] (by kernel_rfl) rfl (TWs.cons ?_ TWs.nil)
                  · skip
                    refine a_op #[true, true, true, true, true] rfl rfl ?_
                    refine o_pv trivial rfl rfl ?_
                    refine o_nil ?_
                    refine a_next ?_
                    refine a_end (by kernel_rfl) ?_
                    refine then_c ?_
                    refine c_ret ?_
                    refine then_r ?_
                    refine blk_r ?_
                    refine then_r ?_
                    refine blk_r ?_
                    refine retR rfl (.tmp rfl (.agg Tryd.isAgg32 Tryd.sizeOf32 rfl (by first | exact .head _ | exact .tail _ (.head _) | exact .tail _ (.tail _ (.head _)) | exact .tail _ (.tail _ (.tail _ (.head _))) | exact .tail _ (.tail _ (.tail _ (.tail _ (.head _)))) | exact .tail _ (.tail _ (.tail _ (.tail _ (.tail _ (.head _)))))) rfl (.tmp rfl .nil))) ?_
                    refine leaf (Ext.refl _ _) (List.nil_sublist _) ?_; rw [hF, lexAt_open hj, if_neg (hjn hj), if_neg (by omega), if_pos f4]; exact ⟨_, rfl, Slc.nil _ _⟩
          · skip
            refine a_op #[false, false, true, false, false] rfl rfl ?_
            refine o_pv trivial rfl rfl ?_
            refine o_nil ?_
            refine a_next ?_
            refine a_go [0, 1] (by kernel_rfl) rfl (TWs.cons ?_ (TWs.cons ?_ TWs.nil))
            · skip
              refine a_op #[true, false, true, false, false] rfl rfl ?_
              refine o_loadA trivial rfl Tryd.isAgg32 Tryd.sizeOf32 rfl (by first | exact .head _ | exact .tail _ (.head _) | exact .tail _ (.tail _ (.head _)) | exact .tail _ (.tail _ (.tail _ (.head _))) | exact .tail _ (.tail _ (.tail _ (.tail _ (.head _)))) | exact .tail _ (.tail _ (.tail _ (.tail _ (.tail _ (.head _)))))) (by repeat constructor) ?_
              refine o_nil ?_
              refine a_next ?_
              refine a_go [1, 3] (by kernel_rfl) rfl (TWs.cons ?_ (TWs.cons ?_ TWs.nil))
              · skip
                refine a_op #[true, true, true, false, false] rfl rfl ?_
                refine o_pv trivial rfl rfl ?_
                refine o_nil ?_
                refine a_next ?_
                refine a_go [3] (by kernel_rfl) rfl (TWs.cons ?_ TWs.nil)
                · skip
                  refine a_op #[true, true, true, true, false] rfl rfl ?_
                  refine o_store trivial rfl rfl rfl Tryd.sizeOf32 rfl rfl (by first | exact .here | exact .there .here | exact .there (.there .here) | exact .there (.there (.there .here)) | exact .there (.there (.there (.there .here))) | exact .there (.there (.there (.there (.there .here))))) (by repeat constructor) ?_
                  refine o_nil ?_
                  refine a_next ?_
                  refine a_go [4] (by kernel_rfl) rfl (TWs.cons ?_ TWs.nil)
                  · skip
                    refine a_op #[true, true, true, true, true] rfl rfl ?_
                    refine o_pv trivial rfl rfl ?_
                    refine o_nil ?_
                    refine a_next ?_
                    refine a_end (by kernel_rfl) ?_
                    refine then_c ?_
                    refine c_ret ?_
                    refine then_r ?_
                    refine blk_r ?_
                    refine then_r ?_
                    refine blk_r ?_
                    refine retR rfl (.tmp rfl (.agg Tryd.isAgg32 Tryd.sizeOf32 rfl (by first | exact .head _ | exact .tail _ (.head _) | exact .tail _ (.tail _ (.head _)) | exact .tail _ (.tail _ (.tail _ (.head _))) | exact .tail _ (.tail _ (.tail _ (.tail _ (.head _)))) | exact .tail _ (.tail _ (.tail _ (.tail _ (.tail _ (.head _)))))) rfl (.tmp rfl .nil))) ?_
                    refine leaf (Ext.refl _ _) (List.nil_sublist _) ?_; rw [hF, lexAt_open hj, if_neg (hjn hj), if_neg (by omega), if_pos f4]; exact ⟨_, rfl, Slc.nil _ _⟩
              · skip
                refine a_op #[true, false, true, true, false] rfl rfl ?_
                refine o_store trivial rfl rfl rfl Tryd.sizeOf32 rfl rfl (by first | exact .here | exact .there .here | exact .there (.there .here) | exact .there (.there (.there .here)) | exact .there (.there (.there (.there .here))) | exact .there (.there (.there (.there (.there .here))))) (by repeat constructor) ?_
                refine o_nil ?_
                refine a_next ?_
                refine a_go [1] (by kernel_rfl) rfl (TWs.cons ?_ TWs.nil)
                · skip
                  refine a_op #[true, true, true, true, false] rfl rfl ?_
                  refine o_pv trivial rfl rfl ?_
                  refine o_nil ?_
                  refine a_next ?_
                  refine a_go [4] (by kernel_rfl) rfl (TWs.cons ?_ TWs.nil)
                  · skip
                    refine a_op #[true, true, true, true, true] rfl rfl ?_
                    refine o_pv trivial rfl rfl ?_
                    refine o_nil ?_
                    refine a_next ?_
                    refine a_end (by kernel_rfl) ?_
                    refine then_c ?_
                    refine c_ret ?_
                    refine then_r ?_
                    refine blk_r ?_
                    refine then_r ?_
                    refine blk_r ?_
                    refine retR rfl (.tmp rfl (.agg Tryd.isAgg32 Tryd.sizeOf32 rfl (by first | exact .head _ | exact .tail _ (.head _) | exact .tail _ (.tail _ (.head _)) | exact .tail _ (.tail _ (.tail _ (.head _))) | exact .tail _ (.tail _ (.tail _ (.tail _ (.head _)))) | exact .tail _ (.tail _ (.tail _ (.tail _ (.tail _ (.head _)))))) rfl (.tmp rfl .nil))) ?_
                    refine leaf (Ext.refl _ _) (List.nil_sublist _) ?_; rw [hF, lexAt_open hj, if_neg (hjn hj), if_neg (by omega), if_pos f4]; exact ⟨_, rfl, Slc.nil _ _⟩
            · skip
              refine a_op #[false, true, true, false, false] rfl rfl ?_
              refine o_pv trivial rfl rfl ?_
              refine o_nil ?_
              refine a_next ?_
              refine a_go [0] (by kernel_rfl) rfl (TWs.cons ?_ TWs.nil)
              · skip
                refine a_op #[true, true, true, false, false] rfl rfl ?_
                refine o_loadA trivial rfl Tryd.isAgg32 Tryd.sizeOf32 rfl (by first | exact .head _ | exact .tail _ (.head _) | exact .tail _ (.tail _ (.head _)) | exact .tail _ (.tail _ (.tail _ (.head _))) | exact .tail _ (.tail _ (.tail _ (.tail _ (.head _)))) | exact .tail _ (.tail _ (.tail _ (.tail _ (.tail _ (.head _)))))) (by repeat constructor) ?_
                refine o_nil ?_
                refine a_next ?_
                refine a_go [3] (by kernel_rfl) rfl (TWs.cons ?_ TWs.nil)
                · skip
                  refine a_op #[true, true, true, true, false] rfl rfl ?_
                  refine o_store trivial rfl rfl rfl Tryd.sizeOf32 rfl rfl (by first | exact .here | exact .there .here | exact .there (.there .here) | exact .there (.there (.there .here)) | exact .there (.there (.there (.there .here))) | exact .there (.there (.there (.there (.there .here))))) (by repeat constructor) ?_
                  refine o_nil ?_
                  refine a_next ?_
                  refine a_go [4] (by kernel_rfl) rfl (TWs.cons ?_ TWs.nil)
                  · skip
                    refine a_op #[true, true, true, true, true] rfl rfl ?_
                    refine o_pv trivial rfl rfl ?_
                    refine o_nil ?_
                    refine a_next ?_
                    refine a_end (by kernel_rfl) ?_
                    refine then_c ?_
                    refine c_ret ?_
                    refine then_r ?_
                    refine blk_r ?_
                    refine then_r ?_
                    refine blk_r ?_
                    refine retR rfl (.tmp rfl (.agg Tryd.isAgg32 Tryd.sizeOf32 rfl (by first | exact .head _ | exact .tail _ (.head _) | exact .tail _ (.tail _ (.head _)) | exact .tail _ (.tail _ (.tail _ (.head _))) | exact .tail _ (.tail _ (.tail _ (.tail _ (.head _)))) | exact .tail _ (.tail _ (.tail _ (.tail _ (.tail _ (.head _)))))) rfl (.tmp rfl .nil))) ?_
                    refine leaf (Ext.refl _ _) (List.nil_sublist _) ?_; rw [hF, lexAt_open hj, if_neg (hjn hj), if_neg (by omega), if_pos f4]; exact ⟨_, rfl, Slc.nil _ _⟩
        · skip
          have f4 := h4
          try simp only [Bool.or_eq_true, Bool.and_eq_true, Bool.or_eq_false_iff, Bool.and_eq_false_iff, decide_eq_true_eq, decide_eq_false_iff_not, beq_iff_eq, beq_eq_false_iff_ne, bne_iff_ne, bne_eq_false_iff_eq, Bool.not_eq_true', Bool.not_eq_false', ne_eq, Int.not_lt, Int.not_le, ge_iff_le, gt_iff_lt] at f4
          have hst := tokZ_stop hj f4; have hhop := tok_hops hj f4
          refine c_skip ?_
          refine then_c ?_
          refine c_seq ?_
          refine c_region ?_
          refine o_loadA trivial rfl Tryd.isAgg32 Tryd.sizeOf32 rfl (by first | exact .head _ | exact .tail _ (.head _) | exact .tail _ (.tail _ (.head _)) | exact .tail _ (.tail _ (.tail _ (.head _))) | exact .tail _ (.tail _ (.tail _ (.tail _ (.head _)))) | exact .tail _ (.tail _ (.tail _ (.tail _ (.tail _ (.head _)))))) (by repeat constructor) ?_
          refine o_fieldAddr (T := 32) (off := 2) trivial rfl Tryd.underlying45 rfl rfl rfl Tryd.sizeOf32 rfl rfl ?_
          refine o_store trivial rfl rfl rfl Tryd.sizeOf32 rfl rfl (by first | exact .here | exact .there .here | exact .there (.there .here) | exact .there (.there (.there .here)) | exact .there (.there (.there (.there .here))) | exact .there (.there (.there (.there (.there .here))))) (by repeat constructor) ?_
          refine o_nil ?_
          refine then_c ?_
          refine c_seq ?_
          refine c_region ?_
          refine o_pv trivial rfl rfl ?_
          refine o_loadA trivial rfl Tryd.isAgg45 Tryd.sizeOf45 rfl (by first | exact .head _ | exact .tail _ (.head _) | exact .tail _ (.tail _ (.head _)) | exact .tail _ (.tail _ (.tail _ (.head _))) | exact .tail _ (.tail _ (.tail _ (.tail _ (.head _)))) | exact .tail _ (.tail _ (.tail _ (.tail _ (.tail _ (.head _)))))) (by repeat constructor) ?_
          refine o_buildSl trivial rfl Tryd.underlying39 Tryd.sizeOf45 Tryd.zeroValue45 (by decide) (by decide) rfl (by repeat first | exact rfl | constructor) rfl (fun b55 => ?_)
          refine o_appendBox trivial rfl Tryd.underlying39 (elem45) (by decide) rfl rfl (fun v' => (by first | exact .here | exact .there .here | exact .there (.there .here) | exact .there (.there (.there .here)) | exact .there (.there (.there (.there .here))) | exact .there (.there (.there (.there (.there .here)))))) (by first | exact .head _ | exact .tail _ (.head _) | exact .tail _ (.tail _ (.head _)) | exact .tail _ (.tail _ (.tail _ (.head _))) | exact .tail _ (.tail _ (.tail _ (.tail _ (.head _)))) | exact .tail _ (.tail _ (.tail _ (.tail _ (.tail _ (.head _)))))) rfl (by first | rfl | decide) (by first | omega | (unfold maxLen; omega)) (by omega) (fun v56 => ?_)
          refine o_pv trivial rfl rfl ?_
          refine o_nil ?_
          refine then_c ?_
          refine c_seq ?_
          refine c_region ?_
          refine o_load1 trivial rfl Tryd.isAgg53 rfl (by first | exact .head _ | exact .tail _ (.head _) | exact .tail _ (.tail _ (.head _)) | exact .tail _ (.tail _ (.tail _ (.head _))) | exact .tail _ (.tail _ (.tail _ (.tail _ (.head _)))) | exact .tail _ (.tail _ (.tail _ (.tail _ (.tail _ (.head _)))))) (by repeat constructor) ?_
          refine o_pv trivial rfl rfl ?_
          refine o_fieldAddr (T := 3) (off := 1) trivial rfl Tryd.underlying55 rfl rfl rfl Tryd.sizeOf3 rfl rfl ?_
          refine o_load1 trivial rfl Tryd.isAgg3 rfl (by first | exact .head _ | exact .tail _ (.head _) | exact .tail _ (.tail _ (.head _)) | exact .tail _ (.tail _ (.tail _ (.head _))) | exact .tail _ (.tail _ (.tail _ (.tail _ (.head _)))) | exact .tail _ (.tail _ (.tail _ (.tail _ (.tail _ (.head _)))))) (by repeat constructor) ?_
          refine o_pv trivial rfl rfl ?_
          first | (refine o_sub trivial rfl rfl rfl ?_ ?_; (omega)) | refine o_pv trivial rfl rfl ?_
          refine o_pv trivial rfl rfl ?_
          refine o_nil ?_
          refine then_c ?_
          refine c_seq ?_
          refine c_region ?_
          refine o_load1 trivial rfl Tryd.isAgg53 rfl (by first | exact .head _ | exact .tail _ (.head _) | exact .tail _ (.tail _ (.head _)) | exact .tail _ (.tail _ (.tail _ (.head _))) | exact .tail _ (.tail _ (.tail _ (.tail _ (.head _)))) | exact .tail _ (.tail _ (.tail _ (.tail _ (.tail _ (.head _)))))) (by repeat constructor) ?_
          refine o_pv trivial rfl rfl ?_
          refine o_pv trivial rfl rfl ?_
          refine o_fieldAddr (T := 3) (off := 1) trivial rfl Tryd.underlying55 rfl rfl rfl Tryd.sizeOf3 rfl rfl ?_
          refine o_store trivial rfl rfl rfl Tryd.sizeOf3 rfl rfl (by first | exact .here | exact .there .here | exact .there (.there .here) | exact .there (.there (.there .here)) | exact .there (.there (.there (.there .here))) | exact .there (.there (.there (.there (.there .here))))) (by repeat constructor) ?_
          refine o_nil ?_
          refine then_c ?_
          refine c_region ?_
          refine o_pv trivial rfl rfl ?_
          rw [show ((tokZ s (runAt isBlank s i)).stop : Int) - (((runAt isBlank s i) : Nat) : Int) = (((tokZ s (runAt isBlank s i)).stop - (runAt isBlank s i) : Nat) : Int) by omega]; refine o_pv trivial rfl rfl ?_
          refine o_callKT trivial rfl rfl Tryd.call40 rfl rfl (move_any b7 b6 b21 s (runAt isBlank s i) (tokZ s (runAt isBlank s i)).stop hs hj0 hhop hst.2) (by repeat' first | exact Takes.nil | exact Take.here | apply Takes.cons | apply Take.there) ?_
          rintro _ _ _ hx6 ⟨rfl, rfl, rfl⟩
          refine o_nil ?_
          refine blk_n ?_
          exact again ((tokZ s (runAt isBlank s i)).stop, out ++ [⟨(tokZ s (runAt isBlank s i)).kind, (tokZ s (runAt isBlank s i)).text, (placeZ s (runAt isBlank s i)).1, (placeZ s (runAt isBlank s i)).2⟩], v56) (sub_cons rfl (sub_cons rfl (sub_cons rfl (sub_cons rfl (sub_cons rfl sub_nil))))) (fun _ h => by simp only [flat_more, List.length_append]; exact h.sort (by repeat' first | exact Takes.nil | exact Take.here | apply Takes.cons | apply Take.there)) (by show s.size - (tokZ s (runAt isBlank s i)).stop < s.size - i; omega) ⟨hst.2, hj0.trans hhop, by rw [hF, lexAt_open hj, if_neg (hjn hj), if_neg (by omega), if_neg (not_not_intro f4)], by simp only [List.length_append]; show out.length + 1 ≤ 4000; omega⟩
end Go.Proofs.YtmflkokhhknlaaaDoor
