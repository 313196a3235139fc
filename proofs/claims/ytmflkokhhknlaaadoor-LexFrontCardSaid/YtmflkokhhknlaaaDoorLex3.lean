/-
  Chapter 10: the functions of package lex.
-/
import Derived.Test.YtmflkokhhknlaaaDoorLex
namespace Go.Proofs.YtmflkokhhknlaaaDoor
open Go Go.Tw
set_option linter.unusedVariables false
set_option linter.unusedSimpArgs false
set_option linter.unnecessarySimpa false
set_option maxHeartbeats 1000000
theorem letters_any (k : Int) : PureC Tryd.prog 64 [.int .i64 k] (.bool (isWord k)) := by
  intro w
  refine enter1 _ Tryd.func64 rfl Tryd.ntmps64 rfl ?_ (S := fun w1 => w1 = w) rfl
  refine c_seq ?_
  refine c_region ?_
  refine o_pv trivial rfl rfl ?_
  refine o_nil ?_
  refine then_c ?_
  refine c_seq ?_
  refine c_region ?_
  refine o_pv trivial rfl rfl ?_
  refine o_pv trivial rfl rfl ?_
  refine' o_or trivial trivial rfl rfl rfl rfl rfl rfl rfl rfl (fun hb5 => ?_) ?_
  rotate_left
  · skip
    refine o_pv (wants_some rfl rfl hb5) rfl rfl ?_
    refine o_pv (wants_some rfl rfl hb5) rfl rfl ?_
    refine o_nil ?_
    exact joins rfl
  refine o_pv trivial rfl rfl ?_
  refine o_nil ?_
  refine then_c ?_
  refine c_ret ?_
  refine ret1 rfl rfl ?_
  exact fun _ hw => ⟨rfl, hw⟩
theorem digits_any (k : Int) : PureC Tryd.prog 61 [.int .i64 k] (.bool (isDigit k)) := by
  intro w
  refine enter1 _ Tryd.func61 rfl Tryd.ntmps61 rfl ?_ (S := fun w1 => w1 = w) rfl
  refine c_seq ?_
  refine c_region ?_
  refine o_pv trivial rfl rfl ?_
  refine o_nil ?_
  refine then_c ?_
  refine c_seq ?_
  refine c_region ?_
  refine o_pv trivial rfl rfl ?_
  refine o_pv trivial rfl rfl ?_
  refine o_pv trivial rfl rfl ?_
  refine o_nil ?_
  refine then_c ?_
  refine c_ret ?_
  refine ret1 rfl rfl ?_
  exact fun _ hw => ⟨rfl, hw⟩
theorem blanks_any (k : Int) : PureC Tryd.prog 44 [.int .i64 k] (.bool (isBlank k)) := by
  intro w
  refine enter1 _ Tryd.func44 rfl Tryd.ntmps44 rfl ?_ (S := fun w1 => w1 = w) rfl
  refine c_seq ?_
  refine c_region ?_
  refine o_pv trivial rfl rfl ?_
  refine o_nil ?_
  refine then_c ?_
  refine c_seq ?_
  refine c_region ?_
  refine o_pv trivial rfl rfl ?_
  refine o_pv trivial rfl rfl ?_
  refine o_pv trivial rfl rfl ?_
  refine o_nil ?_
  refine then_c ?_
  refine c_ret ?_
  refine ret1 rfl rfl ?_
  exact fun _ hw => ⟨rfl, hw⟩
theorem run_any (s : ByteArray) (F : FuncId) (p : Int → Bool) {I : Hp} (hF : ∀ k, PureC Tryd.prog F [.int .i64 k] (.bool (p k))) (hcall : ∀ args w, (callFunc F args).run Tryd.prog w = .ok (.enter F args) w) (hs : s.size ≤ 100000) : Fun Tryd.prog 42 [.string s, .func (.func F) #[] #[]] I [] (fun v _ _ => v = .int .i64 (runAt p s 0)) := by
  intro w hw
  refine enter2 _ Tryd.func42 rfl Tryd.ntmps42 rfl ?_ hw
  refine c_seq ?_
  refine c_region ?_
  refine o_pv trivial rfl rfl ?_
  refine o_nil ?_
  refine then_c ?_
  refine c_seq ?_
  refine c_seq ?_
  refine c_region ?_
  refine o_pv trivial rfl rfl ?_
  refine o_range trivial rfl Tryd.underlying9 rfl (fun b8 => ?_)
  refine o_nil ?_
  refine then_c ?_
  refine c_block ?_
  refine c_loop (ι := Nat) [0, 1, 8] (.cons rfl (.cons rfl (.cons rfl .nil))) (fun x => s.size - x) (fun x E0 => E0) (fun x => St w [] I [.box b8 (.stringIter s x)]) (fun x => x ≤ s.size ∧ runAt p s 0 = runAt p s x) (0) (sub_cons rfl (sub_cons rfl (sub_cons rfl sub_nil))) (fun _ h => h) (⟨Nat.zero_le _, rfl⟩) ?_
  rintro i ⟨hle, hF'⟩
  try dsimp only
  have hwd := width_pos s i
  refine c_seq ?_
  rcases Nat.lt_or_ge i s.size with hp | hp
  · skip
    refine c_region ?_
    refine o_next trivial rfl rfl (by first | exact .here | exact .there .here | exact .there (.there .here) | exact .there (.there (.there .here)) | exact .there (.there (.there (.there .here))) | exact .there (.there (.there (.there (.there .here))))) hp ?_
    refine o_pv trivial rfl rfl ?_
    refine o_nil ?_
    refine then_c ?_
    refine c_seq ?_
    refine c_cond_t rfl rfl ?_
    refine c_skip ?_
    refine then_c ?_
    refine c_block ?_
    refine c_seq ?_
    refine c_region ?_
    refine o_pv trivial rfl rfl ?_
    refine o_pv trivial rfl rfl ?_
    refine o_pv trivial rfl rfl ?_
    refine o_pv trivial rfl rfl ?_
    refine o_nil ?_
    refine then_c ?_
    refine c_seq ?_
    refine c_region ?_
    refine o_pv trivial rfl rfl ?_
    refine o_pv trivial rfl rfl ?_
    refine o_callP trivial rfl Tryd.call16 rfl (kind_any _) ?_
    refine o_callPT trivial rfl rfl hcall rfl rfl (hF _) ?_
    refine o_pv trivial rfl rfl ?_
    refine o_nil ?_
    refine then_c ?_
    refine c_cond rfl (fun h2 => ?_) (fun h2 => ?_)
    · skip
      have f2 := h2
      try simp only [Bool.or_eq_true, Bool.and_eq_true, Bool.or_eq_false_iff, Bool.and_eq_false_iff, decide_eq_true_eq, decide_eq_false_iff_not, beq_iff_eq, beq_eq_false_iff_ne, bne_iff_ne, bne_eq_false_iff_eq, Bool.not_eq_true', Bool.not_eq_false', ne_eq, Int.not_lt, Int.not_le, ge_iff_le, gt_iff_lt] at f2
      refine c_seq ?_
      refine c_region ?_
      refine o_pv trivial rfl rfl ?_
      refine o_pv trivial rfl rfl ?_
      refine o_nil ?_
      refine then_c ?_
      refine c_ret ?_
      refine blk_r ?_
      refine then_r ?_
      refine blk_r ?_
      refine then_r ?_
      refine ret1 rfl rfl ?_
      refine leaf0 ?_; rw [hF', runAt_stop hp f2]; rfl
    · skip
      have f2 := h2
      try simp only [Bool.or_eq_true, Bool.and_eq_true, Bool.or_eq_false_iff, Bool.and_eq_false_iff, decide_eq_true_eq, decide_eq_false_iff_not, beq_iff_eq, beq_eq_false_iff_ne, bne_iff_ne, bne_eq_false_iff_eq, Bool.not_eq_true', Bool.not_eq_false', ne_eq, Int.not_lt, Int.not_le, ge_iff_le, gt_iff_lt] at f2
      refine c_skip ?_
      refine blk_n ?_
      have hwi := width_in s i hp; exact again _ (sub_cons rfl (sub_cons rfl (sub_cons rfl sub_nil))) (fun _ h => h) (by show s.size - (i + (Utf8.decode s i).2) < s.size - i; omega) ⟨hwi, hF'.trans (runAt_step hp f2)⟩
  · skip
    refine c_region ?_
    refine o_nextEnd trivial rfl rfl (by first | exact .head _ | exact .tail _ (.head _) | exact .tail _ (.tail _ (.head _)) | exact .tail _ (.tail _ (.tail _ (.head _))) | exact .tail _ (.tail _ (.tail _ (.tail _ (.head _)))) | exact .tail _ (.tail _ (.tail _ (.tail _ (.tail _ (.head _)))))) hp ?_
    refine o_pv trivial rfl rfl ?_
    refine o_nil ?_
    refine then_c ?_
    refine c_seq ?_
    refine c_cond_f rfl rfl ?_
    refine c_exit ?_
    refine then_x ?_
    refine then_x ?_
    refine blk_eq rfl ?_
    refine then_c ?_
    refine c_seq ?_
    refine c_region ?_
    refine o_pv trivial rfl rfl ?_
    refine o_lenS trivial rfl Tryd.underlying9 rfl ?_
    refine o_pv trivial rfl rfl ?_
    refine o_nil ?_
    refine then_c ?_
    refine c_ret ?_
    refine ret1 rfl rfl ?_
    refine leaf0 ?_; rw [hF', runAt_end hp]
/-- The reader's box. -/
def rdr (b : Nat) (s : ByteArray) (i : Nat) : Tw.Item := .box b (.cells #[.string s, .int .i64 (i : Int)] 55 (0, 0))
theorem rest_any (b : Nat) (s : ByteArray) (i : Nat) {I : Hp} (hi : i ≤ s.size) : Fun Tryd.prog 43 [.pointer (some ⟨b, 0, none⟩)] I [rdr b s i] (fun v I' B => v = .string (s.extract i s.size) ∧ B = [rdr b s i] ∧ I = I') := by
  unfold rdr
  intro w hw
  refine enter1 _ Tryd.func43 rfl Tryd.ntmps43 rfl ?_ hw
  refine c_seq ?_
  refine c_region ?_
  refine o_pv trivial rfl rfl ?_
  refine o_nil ?_
  refine then_c ?_
  refine c_seq ?_
  refine c_quiet (by kernel_rfl) (by kernel_rfl) (fun _ h => h.drawn) ?_
  refine o_pv trivial rfl rfl ?_
  refine o_pv trivial rfl rfl ?_
  refine o_fieldAddr (T := 9) (off := 0) trivial rfl Tryd.underlying55 rfl rfl rfl Tryd.sizeOf9 rfl rfl ?_
  refine o_load1 trivial rfl Tryd.isAgg9 rfl (by first | exact .head _ | exact .tail _ (.head _) | exact .tail _ (.tail _ (.head _)) | exact .tail _ (.tail _ (.tail _ (.head _))) | exact .tail _ (.tail _ (.tail _ (.tail _ (.head _)))) | exact .tail _ (.tail _ (.tail _ (.tail _ (.tail _ (.head _)))))) (by repeat constructor) ?_
  refine o_pv trivial rfl rfl ?_
  refine o_pv trivial rfl rfl ?_
  refine o_fieldAddr (T := 3) (off := 1) trivial rfl Tryd.underlying55 rfl rfl rfl Tryd.sizeOf3 rfl rfl ?_
  refine o_load1 trivial rfl Tryd.isAgg3 rfl (by first | exact .head _ | exact .tail _ (.head _) | exact .tail _ (.tail _ (.head _)) | exact .tail _ (.tail _ (.tail _ (.head _))) | exact .tail _ (.tail _ (.tail _ (.tail _ (.head _)))) | exact .tail _ (.tail _ (.tail _ (.tail _ (.tail _ (.head _)))))) (by repeat constructor) ?_
  refine o_sliceS1 trivial rfl Tryd.underlying9 rfl rfl (by omega) ?_
  refine o_pv trivial rfl rfl ?_
  refine o_nil ?_
  refine then_c ?_
  refine c_ret ?_
  refine ret1 rfl rfl ?_
  refine leaf (Ext.refl _ _) (List.Sublist.refl _) ⟨?_, rfl, rfl⟩; rw [Int.toNat_natCast]
theorem take_any (b : Nat) (s : ByteArray) (i : Nat) (n : Int) {I : Hp} (hi : 0 ≤ n ∧ i + n ≤ s.size) (hs : s.size ≤ 100000) : Fun Tryd.prog 41 [.pointer (some ⟨b, 0, none⟩), .int .i64 n] I [rdr b s i] (fun v I' B => v = .string (s.extract i (i + n.toNat)) ∧ B = [rdr b s (i + n.toNat)] ∧ I = I') := by
  intro w hw
  refine enter2 _ Tryd.func41 rfl Tryd.ntmps41 rfl ?_ hw
  refine c_seq ?_
  refine c_region ?_
  refine o_pv trivial rfl rfl ?_
  refine o_nil ?_
  refine then_c ?_
  refine c_seq ?_
  refine c_region ?_
  refine o_pv trivial rfl rfl ?_
  refine o_callK trivial rfl Tryd.call43 rfl (rest_any b s i (by omega)) (by repeat' first | exact Takes.nil | exact Take.here | apply Takes.cons | apply Take.there) ?_
  rintro _ _ _ hx1 ⟨rfl, rfl, rfl⟩
  refine o_pv trivial rfl rfl ?_
  refine o_sliceS2 trivial rfl Tryd.underlying9 rfl rfl (by simp; omega) ?_
  refine o_pv trivial rfl rfl ?_
  refine o_nil ?_
  refine then_c ?_
  refine c_seq ?_
  refine c_region ?_
  refine o_pv trivial rfl rfl ?_
  refine o_pv trivial rfl rfl ?_
  refine o_fieldAddr (T := 3) (off := 1) trivial rfl Tryd.underlying55 rfl rfl rfl Tryd.sizeOf3 rfl rfl ?_
  refine o_load1 trivial rfl Tryd.isAgg3 rfl (by first | exact .head _ | exact .tail _ (.head _) | exact .tail _ (.tail _ (.head _)) | exact .tail _ (.tail _ (.tail _ (.head _))) | exact .tail _ (.tail _ (.tail _ (.tail _ (.head _)))) | exact .tail _ (.tail _ (.tail _ (.tail _ (.tail _ (.head _)))))) (by repeat constructor) ?_
  refine o_pv trivial rfl rfl ?_
  first | (refine o_add trivial rfl rfl rfl ?_ ?_; (omega)) | refine o_pv trivial rfl rfl ?_
  refine o_pv trivial rfl rfl ?_
  refine o_fieldAddr (T := 3) (off := 1) trivial rfl Tryd.underlying55 rfl rfl rfl Tryd.sizeOf3 rfl rfl ?_
  refine o_store trivial rfl rfl rfl Tryd.sizeOf3 rfl rfl (by first | exact .here | exact .there .here | exact .there (.there .here) | exact .there (.there (.there .here)) | exact .there (.there (.there (.there .here))) | exact .there (.there (.there (.there (.there .here))))) (by repeat constructor) ?_
  refine o_nil ?_
  refine then_c ?_
  refine c_seq ?_
  refine c_region ?_
  refine o_pv trivial rfl rfl ?_
  refine o_pv trivial rfl rfl ?_
  refine o_nil ?_
  refine then_c ?_
  refine c_ret ?_
  refine ret1 rfl rfl ?_
  refine leaf (Ext.refl _ _) (List.Sublist.refl _) ⟨?_, ?_, rfl⟩
  · show Value.string _ = _
    rw [ByteArray.extract_extract, Nat.add_zero, Nat.min_eq_left (by omega)]
  · unfold rdr
    rw [show ((i + n.toNat : Nat) : Int) = i + n by omega]
    rfl
def rdTok (s : ByteArray) (i : Nat) : Value := .tuple #[.agg #[.int .i64 (tokZ s i).kind, .string (tokZ s i).text, .int .i64 0, .int .i64 0], .int .i64 (tokZ s i).err]
theorem word_any (b : Nat) (s : ByteArray) (i : Nat) {I : Hp} (hi : i < s.size) (hk : kAt s i = 1) (hs : s.size ≤ 60000) : Fun Tryd.prog 54 [.pointer (some ⟨b, 0, none⟩)] I [rdr b s i] (fun v I' B => v = rdTok s i ∧ B = [rdr b s (runAt isWord s i)] ∧ I = I') := by
  have ht := runAt_tail isWord s i (by omega)
  have hge := runAt_ge isWord s i (by omega)
  have hle := runAt_le isWord s i (by omega)
  have hsz : (s.extract i (runAt isWord s i)).size = runAt isWord s i - i := by simp; omega
  have e : i + (((runAt isWord (s.extract i s.size) 0 : Nat) : Int)).toNat = runAt isWord s i := by rw [Int.toNat_natCast]; omega
  intro w hw
  refine enter1 _ Tryd.func54 rfl Tryd.ntmps54 rfl ?_ hw
  refine c_seq ?_
  refine c_region ?_
  refine o_alloc trivial rfl Tryd.zeroValue45 rfl (fun b2 => ?_)
  refine o_pv trivial rfl rfl ?_
  refine o_nil ?_
  refine then_c ?_
  refine c_seq ?_
  refine c_region ?_
  refine o_pv trivial rfl rfl ?_
  refine o_pv trivial rfl rfl ?_
  refine o_callK trivial rfl Tryd.call43 rfl (rest_any b s i (by omega)) (by repeat' first | exact Takes.nil | exact Take.here | apply Takes.cons | apply Take.there) ?_
  rintro _ _ _ hxr ⟨rfl, rfl, rfl⟩
  refine o_callQ trivial rfl Tryd.call42 rfl (by first | exact run_any _ _ isWord letters_any Tryd.call64 (by first | omega | (simp; omega)) | exact run_any _ _ isDigit digits_any Tryd.call61 (by first | omega | (simp; omega)) | exact run_any _ _ isBlank blanks_any Tryd.call44 (by first | omega | (simp; omega))) ?_
  refine o_callK trivial rfl Tryd.call41 rfl (take_any b s i ((runAt isWord (s.extract i s.size) 0 : Nat) : Int) (by omega) (by omega)) (by repeat' first | exact Takes.nil | exact Take.here | apply Takes.cons | apply Take.there) ?_
  rintro _ _ _ hxt ⟨rfl, rfl, rfl⟩
  refine o_pv trivial rfl rfl ?_
  refine o_nil ?_
  refine then_c ?_
  refine c_seq ?_
  refine c_seq ?_
  rw [e]
  refine c_region ?_
  refine o_pv trivial rfl rfl ?_
  refine o_lenS trivial rfl Tryd.underlying9 rfl ?_
  refine o_pv trivial rfl rfl ?_
  refine o_nil ?_
  refine then_c ?_
  refine c_cond rfl (fun h1 => ?_) (fun h1 => ?_)
  · skip
    have f1 := h1
    try simp only [Bool.or_eq_true, Bool.and_eq_true, Bool.or_eq_false_iff, Bool.and_eq_false_iff, decide_eq_true_eq, decide_eq_false_iff_not, beq_iff_eq, beq_eq_false_iff_ne, bne_iff_ne, bne_eq_false_iff_eq, Bool.not_eq_true', Bool.not_eq_false', ne_eq, Int.not_lt, Int.not_le, ge_iff_le, gt_iff_lt] at f1
    refine c_seq ?_
    refine c_region ?_
    refine o_buildS trivial rfl (bld45) rfl .nil ?_
    refine o_store trivial rfl rfl rfl Tryd.sizeOf45 rfl rfl (by first | exact .here | exact .there .here | exact .there (.there .here) | exact .there (.there (.there .here)) | exact .there (.there (.there (.there .here))) | exact .there (.there (.there (.there (.there .here))))) (by repeat constructor) ?_
    refine o_pv trivial rfl rfl ?_
    refine o_nil ?_
    refine then_c ?_
    refine c_ret ?_
    refine then_r ?_
    refine retR rfl (.agg Tryd.isAgg45 Tryd.sizeOf45 rfl (by first | exact .head _ | exact .tail _ (.head _) | exact .tail _ (.tail _ (.head _)) | exact .tail _ (.tail _ (.tail _ (.head _))) | exact .tail _ (.tail _ (.tail _ (.tail _ (.head _)))) | exact .tail _ (.tail _ (.tail _ (.tail _ (.tail _ (.head _)))))) rfl (.tmp rfl .nil)) ?_
    refine leaf (Ext.refl _ _) (.cons_cons _ (List.nil_sublist _)) ⟨?_, rfl, rfl⟩; unfold rdTok tokZ; rw [if_pos hk, if_pos (by omega)]; rfl
  · skip
    have f1 := h1
    try simp only [Bool.or_eq_true, Bool.and_eq_true, Bool.or_eq_false_iff, Bool.and_eq_false_iff, decide_eq_true_eq, decide_eq_false_iff_not, beq_iff_eq, beq_eq_false_iff_ne, bne_iff_ne, bne_eq_false_iff_eq, Bool.not_eq_true', Bool.not_eq_false', ne_eq, Int.not_lt, Int.not_le, ge_iff_le, gt_iff_lt] at f1
    refine c_skip ?_
    refine then_c ?_
    refine c_seq ?_
    refine c_region ?_
    refine o_pv trivial rfl rfl ?_
    refine o_buildS trivial rfl (bld45) rfl (.cons rfl rfl rfl (by repeat constructor) (.cons rfl rfl rfl (by repeat constructor) .nil)) ?_
    refine o_store trivial rfl rfl rfl Tryd.sizeOf45 rfl rfl (by first | exact .here | exact .there .here | exact .there (.there .here) | exact .there (.there (.there .here)) | exact .there (.there (.there (.there .here))) | exact .there (.there (.there (.there (.there .here))))) (by repeat constructor) ?_
    refine o_pv trivial rfl rfl ?_
    refine o_nil ?_
    refine then_c ?_
    refine c_ret ?_
    refine retR rfl (.agg Tryd.isAgg45 Tryd.sizeOf45 rfl (by first | exact .head _ | exact .tail _ (.head _) | exact .tail _ (.tail _ (.head _)) | exact .tail _ (.tail _ (.tail _ (.head _))) | exact .tail _ (.tail _ (.tail _ (.tail _ (.head _)))) | exact .tail _ (.tail _ (.tail _ (.tail _ (.tail _ (.head _)))))) rfl (.tmp rfl .nil)) ?_
    refine leaf (Ext.refl _ _) (.cons_cons _ (List.nil_sublist _)) ⟨?_, rfl, rfl⟩; unfold rdTok tokZ; rw [if_pos hk, if_neg (by omega)]; rfl
theorem mark_any (b : Nat) (s : ByteArray) (i : Nat) {I : Hp} (hi : i < s.size) (hk : kAt s i = 4) (hs : s.size ≤ 60000) : Fun Tryd.prog 56 [.pointer (some ⟨b, 0, none⟩)] I [rdr b s i] (fun v I' B => v = rdTok s i ∧ B = [rdr b s (i + 1)] ∧ I = I') := by
  have h1 := kAt_four hk
  intro w hw
  refine enter1 _ Tryd.func56 rfl Tryd.ntmps56 rfl ?_ hw
  refine c_seq ?_
  refine c_region ?_
  refine o_alloc trivial rfl Tryd.zeroValue45 rfl (fun b2 => ?_)
  refine o_pv trivial rfl rfl ?_
  refine o_nil ?_
  refine then_c ?_
  refine c_seq ?_
  refine c_region ?_
  refine o_pv trivial rfl rfl ?_
  refine o_callK trivial rfl Tryd.call41 rfl (take_any b s i 1 (by omega) (by omega)) (by repeat' first | exact Takes.nil | exact Take.here | apply Takes.cons | apply Take.there) ?_
  rintro _ _ _ hxt ⟨rfl, rfl, rfl⟩
  refine o_buildS trivial rfl (bld45) rfl (.cons rfl rfl rfl (by repeat constructor) (.cons rfl rfl rfl (by repeat constructor) .nil)) ?_
  refine o_store trivial rfl rfl rfl Tryd.sizeOf45 rfl rfl (by first | exact .here | exact .there .here | exact .there (.there .here) | exact .there (.there (.there .here)) | exact .there (.there (.there (.there .here))) | exact .there (.there (.there (.there (.there .here))))) (by repeat constructor) ?_
  refine o_pv trivial rfl rfl ?_
  refine o_nil ?_
  refine then_c ?_
  refine c_ret ?_
  refine retR rfl (.agg Tryd.isAgg45 Tryd.sizeOf45 rfl (by first | exact .head _ | exact .tail _ (.head _) | exact .tail _ (.tail _ (.head _)) | exact .tail _ (.tail _ (.tail _ (.head _))) | exact .tail _ (.tail _ (.tail _ (.tail _ (.head _)))) | exact .tail _ (.tail _ (.tail _ (.tail _ (.tail _ (.head _)))))) rfl (.tmp rfl .nil)) ?_
  refine leaf (Ext.refl _ _) (.cons_cons _ (List.nil_sublist _)) ⟨?_, rfl, rfl⟩; unfold rdTok tokZ; rw [if_neg (by omega), if_neg (by omega), if_pos hk, h1]; rfl
theorem other_any (b : Nat) (s : ByteArray) (i : Nat) {I : Hp} (hi : i < s.size) (h1 : kAt s i ≠ 1) (h2 : kAt s i ≠ 2) (h4 : kAt s i ≠ 4) : Fun Tryd.prog 57 [.pointer (some ⟨b, 0, none⟩)] I [rdr b s i] (fun v I' B => v = rdTok s i ∧ B = [rdr b s i] ∧ I = I') := by
  intro w hw
  refine enter1 _ Tryd.func57 rfl Tryd.ntmps57 rfl ?_ hw
  refine c_seq ?_
  refine c_region ?_
  refine o_alloc trivial rfl Tryd.zeroValue45 rfl (fun b2 => ?_)
  refine o_pv trivial rfl rfl ?_
  refine o_nil ?_
  refine then_c ?_
  refine c_seq ?_
  refine c_region ?_
  refine o_buildS trivial rfl (bld45) rfl .nil ?_
  refine o_store trivial rfl rfl rfl Tryd.sizeOf45 rfl rfl (by first | exact .here | exact .there .here | exact .there (.there .here) | exact .there (.there (.there .here)) | exact .there (.there (.there (.there .here))) | exact .there (.there (.there (.there (.there .here))))) (by repeat constructor) ?_
  refine o_pv trivial rfl rfl ?_
  refine o_nil ?_
  refine then_c ?_
  refine c_ret ?_
  refine retR rfl (.agg Tryd.isAgg45 Tryd.sizeOf45 rfl (by first | exact .head _ | exact .tail _ (.head _) | exact .tail _ (.tail _ (.head _)) | exact .tail _ (.tail _ (.tail _ (.head _))) | exact .tail _ (.tail _ (.tail _ (.tail _ (.head _)))) | exact .tail _ (.tail _ (.tail _ (.tail _ (.tail _ (.head _)))))) rfl (.tmp rfl .nil)) ?_
  refine leaf (Ext.refl _ _) (.cons _ (.cons_cons _ (List.nil_sublist _))) ⟨?_, rfl, rfl⟩; unfold rdTok tokZ; rw [if_neg h1, if_neg h2, if_neg h4]; rfl
theorem part_any (s : ByteArray) {I : Hp} (hs : s.size ≤ 60000) : Fun Tryd.prog 49 [.string s] I [] (fun v _ _ => v = .bool (partZ s)) := by
  intro w hw
  refine enter1 _ Tryd.func49 rfl Tryd.ntmps49 rfl ?_ hw
  refine c_seq ?_
  refine c_region ?_
  refine o_pv trivial rfl rfl ?_
  refine o_nil ?_
  refine then_c ?_
  refine c_seq ?_
  refine c_region ?_
  refine o_pv trivial rfl rfl ?_
  refine o_pv trivial rfl rfl ?_
  refine' o_and trivial trivial rfl rfl rfl rfl rfl rfl rfl rfl (fun hb5 => ?_) ?_
  rotate_left
  · skip
    have fb5 := hb5
    try simp only [Bool.or_eq_true, Bool.and_eq_true, Bool.or_eq_false_iff, Bool.and_eq_false_iff, decide_eq_true_eq, decide_eq_false_iff_not, beq_iff_eq, beq_eq_false_iff_ne, bne_iff_ne, bne_eq_false_iff_eq, Bool.not_eq_true', Bool.not_eq_false', ne_eq, Int.not_lt, Int.not_le, ge_iff_le, gt_iff_lt] at fb5
    refine o_pv (wants_some rfl rfl hb5) rfl rfl ?_
    refine o_lenS (wants_some rfl rfl hb5) rfl Tryd.underlying9 rfl ?_
    refine o_pv (wants_some rfl rfl hb5) rfl rfl ?_
    refine o_nil ?_
    exact joins rfl
  refine' o_and trivial trivial rfl rfl rfl rfl rfl rfl rfl rfl (fun hb10 => ?_) ?_
  rotate_left
  · skip
    have fb10 := hb10
    try simp only [Bool.or_eq_true, Bool.and_eq_true, Bool.or_eq_false_iff, Bool.and_eq_false_iff, decide_eq_true_eq, decide_eq_false_iff_not, beq_iff_eq, beq_eq_false_iff_ne, bne_iff_ne, bne_eq_false_iff_eq, Bool.not_eq_true', Bool.not_eq_false', ne_eq, Int.not_lt, Int.not_le, ge_iff_le, gt_iff_lt] at fb10
    refine o_pv (wants_some rfl rfl hb10) rfl rfl ?_
    refine o_callQ (wants_some rfl rfl hb10) rfl Tryd.call42 rfl (by first | exact run_any _ _ isWord letters_any Tryd.call64 (by first | omega | (simp; omega)) | exact run_any _ _ isDigit digits_any Tryd.call61 (by first | omega | (simp; omega)) | exact run_any _ _ isBlank blanks_any Tryd.call44 (by first | omega | (simp; omega))) ?_
    refine o_pv (wants_some rfl rfl hb10) rfl rfl ?_
    refine o_lenS (wants_some rfl rfl hb10) rfl Tryd.underlying9 rfl ?_
    refine o_pv (wants_some rfl rfl hb10) rfl rfl ?_
    refine o_nil ?_
    exact joins rfl
  refine' o_and trivial trivial rfl rfl rfl rfl rfl rfl rfl rfl (fun hb17 => ?_) ?_
  rotate_left
  · skip
    have fb17 := hb17
    try simp only [Bool.or_eq_true, Bool.and_eq_true, Bool.or_eq_false_iff, Bool.and_eq_false_iff, decide_eq_true_eq, decide_eq_false_iff_not, beq_iff_eq, beq_eq_false_iff_ne, bne_iff_ne, bne_eq_false_iff_eq, Bool.not_eq_true', Bool.not_eq_false', ne_eq, Int.not_lt, Int.not_le, ge_iff_le, gt_iff_lt] at fb17
    refine o_pv (wants_some rfl rfl hb17) rfl rfl ?_
    refine o_idxS (wants_some rfl rfl hb17) rfl Tryd.underlying9 rfl rfl (by have hn := mt nil_eq.2 fb17.1.1; omega) ?_
    refine o_pv (wants_some rfl rfl hb17) rfl rfl ?_
    refine' o_or (wants_some rfl rfl hb17) (wants_some rfl rfl hb17) rfl rfl rfl rfl rfl rfl rfl rfl (fun hb21 => ?_) ?_
    rotate_left
    · skip
      have fb21 := hb21
      try simp only [Bool.or_eq_true, Bool.and_eq_true, Bool.or_eq_false_iff, Bool.and_eq_false_iff, decide_eq_true_eq, decide_eq_false_iff_not, beq_iff_eq, beq_eq_false_iff_ne, bne_iff_ne, bne_eq_false_iff_eq, Bool.not_eq_true', Bool.not_eq_false', ne_eq, Int.not_lt, Int.not_le, ge_iff_le, gt_iff_lt] at fb21
      refine o_pv (wants_some rfl rfl hb21) rfl rfl ?_
      refine o_lenS (wants_some rfl rfl hb21) rfl Tryd.underlying9 rfl ?_
      refine o_pv (wants_some rfl rfl hb21) rfl rfl ?_
      refine o_nil ?_
      exact joins rfl
    refine o_nil ?_
    exact joins rfl
  refine o_pv trivial rfl rfl ?_
  refine o_nil ?_
  refine then_c ?_
  refine c_ret ?_
  refine ret1 rfl rfl ?_
  refine leaf0 (congrArg Value.bool ?_); rw [Bool.eq_iff_iff]; unfold partZ; simp only [Bool.and_eq_true, Bool.or_eq_true, decide_eq_true_eq, beq_iff_eq, bne_iff_ne, Int.toNat_zero, ne_eq, Bool.not_eq_true', beq_eq_false_iff_ne, nil_eq]; omega
end Go.Proofs.YtmflkokhhknlaaaDoor
