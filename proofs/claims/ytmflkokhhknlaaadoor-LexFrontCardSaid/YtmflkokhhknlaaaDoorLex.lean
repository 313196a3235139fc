/-
  Chapter 10's functions: what each returns.
-/
import Derived.Test.YtmflkokhhknlaaaDoorSign
import Derived.Test.YtmflkokhhknlaaaDoorRow
import Derived.Test.YtmflkokhhknlaaaDoorOrder
import Derived.Test.YtmflkokhhknlaaaDoorLexPlain
namespace Go.Proofs.YtmflkokhhknlaaaDoor
open Go Go.Tw
set_option linter.unusedVariables false
set_option linter.unusedSimpArgs false
set_option linter.unnecessarySimpa false
set_option maxHeartbeats 1000000
theorem elem45 : ElemTy Tryd.prog 45 4 40 := ⟨_, _, Tryd.type45, rfl, rfl, rfl, rfl⟩
theorem rKind_any (s : ByteArray) (i : Nat) (hs : s.size ≤ 1000) : PureC Tryd.prog 46 [.string s, .int .i64 (i : Int)] (.tuple #[.int .i64 (kindR s i).1, .int .i64 (kindR s i).2]) := by
  intro w
  refine enter2 _ Tryd.func46 rfl Tryd.ntmps46 rfl ?_ (S := fun w1 => w1 = w) rfl
  refine c_seq ?_
  refine c_region ?_
  refine o_pv trivial rfl rfl ?_
  refine o_pv trivial rfl rfl ?_
  refine o_nil ?_
  refine then_c ?_
  refine c_seq ?_
  refine c_seq ?_
  refine c_region ?_
  refine o_pv trivial rfl rfl ?_
  refine o_pv trivial rfl rfl ?_
  refine o_lenS trivial rfl Tryd.underlying9 rfl ?_
  refine o_pv trivial rfl rfl ?_
  refine o_nil ?_
  refine then_c ?_
  refine c_cond rfl (fun h1 => ?_) (fun h1 => ?_)
  · skip
    have f1 := h1
    try simp only [Bool.or_eq_true, Bool.and_eq_true, Bool.or_eq_false_iff, Bool.and_eq_false_iff, decide_eq_true_eq, decide_eq_false_iff_not, beq_iff_eq, beq_eq_false_iff_ne, bne_iff_ne, bne_eq_false_iff_eq, Bool.not_eq_true', Bool.not_eq_false', ne_eq, Int.not_lt, Int.not_le, ge_iff_le, gt_iff_lt] at f1
    refine c_seq ?_
    refine c_region ?_
    refine o_pv trivial rfl rfl ?_
    refine o_pv trivial rfl rfl ?_
    refine o_nil ?_
    refine then_c ?_
    refine c_ret ?_
    refine then_r ?_
    refine ret2 rfl rfl rfl ?_
    exact fun _ hw => ⟨by rw [kindR_out (by omega)], hw⟩
  · skip
    have f1 := h1
    try simp only [Bool.or_eq_true, Bool.and_eq_true, Bool.or_eq_false_iff, Bool.and_eq_false_iff, decide_eq_true_eq, decide_eq_false_iff_not, beq_iff_eq, beq_eq_false_iff_ne, bne_iff_ne, bne_eq_false_iff_eq, Bool.not_eq_true', Bool.not_eq_false', ne_eq, Int.not_lt, Int.not_le, ge_iff_le, gt_iff_lt] at f1
    refine c_skip ?_
    refine then_c ?_
    refine c_seq ?_
    refine c_region ?_
    refine o_pv trivial rfl rfl ?_
    refine o_pv trivial rfl rfl ?_
    refine o_callP trivial rfl Tryd.call19 rfl (refNext_in _ _ (by omega) (by omega)) ?_
    refine o_pv trivial rfl rfl ?_
    refine o_pv trivial rfl rfl ?_
    refine o_pv trivial rfl rfl ?_
    refine o_pv trivial rfl rfl ?_
    refine o_pv trivial rfl rfl ?_
    refine o_nil ?_
    refine then_c ?_
    refine c_seq ?_
    refine c_region ?_
    refine o_pv trivial rfl rfl ?_
    refine o_callP trivial rfl Tryd.call17 rfl (refKind_any _) ?_
    refine o_pv trivial rfl rfl ?_
    refine o_pv trivial rfl rfl ?_
    refine o_pv trivial rfl rfl ?_
    refine o_nil ?_
    refine then_c ?_
    refine c_ret ?_
    refine ret2 rfl rfl rfl ?_
    exact fun _ hw => ⟨by rw [kindR_in (by omega)]; rfl, hw⟩
theorem runR {p : Int → Bool} {s : ByteArray} {j : Nat} (hle : j ≤ s.size) (h : j < s.size → p (kAt s j) = false) : runAt p s j = j := by
  rcases Nat.lt_or_ge j s.size with hj | hj
  · exact runAt_stop hj (h hj)
  · rw [runAt_end hj]; omega
theorem rDigits_any (s : ByteArray) (i : Nat) (hs : s.size ≤ 1000) (hi : i ≤ s.size) : PureC Tryd.prog 62 [.string s, .int .i64 (i : Int)] (.int .i64 (runAt isDigit s i)) := by
  intro w
  refine enter2 _ Tryd.func62 rfl Tryd.ntmps62 rfl ?_ (S := fun w1 => w1 = w) rfl
  refine c_seq ?_
  refine c_region ?_
  refine o_pv trivial rfl rfl ?_
  refine o_nil ?_
  refine then_c ?_
  refine c_seq ?_
  refine c_region ?_
  refine o_pv trivial rfl rfl ?_
  refine o_pv trivial rfl rfl ?_
  refine o_callP trivial rfl Tryd.call46 rfl (rKind_any _ _ (by omega)) ?_
  refine o_pv trivial rfl rfl ?_
  refine o_pv trivial rfl rfl ?_
  refine o_pv trivial rfl rfl ?_
  refine o_pv trivial rfl rfl ?_
  refine o_pv trivial rfl rfl ?_
  refine o_nil ?_
  refine then_c ?_
  refine c_seq ?_
  refine c_block ?_
  refine c_loop (ι := Nat) [0] (.cons rfl .nil) (fun x => s.size - x) (fun x E0 => (1, .int .i64 (x : Int)) :: (5, .int .i64 (kindR s x).1) :: E0) (fun x => fun w1 => w1 = w) (fun x => x ≤ s.size ∧ runAt isDigit s i = runAt isDigit s x) (i) (sub_cons rfl (sub_cons rfl (sub_cons rfl sub_nil))) (fun _ h => h) (⟨hi, rfl⟩) ?_
  rintro j ⟨hle, hF⟩
  try dsimp only
  refine c_seq ?_
  refine c_seq ?_
  refine c_region ?_
  refine o_pv trivial rfl rfl ?_
  refine o_pv trivial rfl rfl ?_
  refine o_nil ?_
  refine then_c ?_
  refine c_cond rfl (fun h1 => ?_) (fun h1 => ?_)
  · skip
    have f1 := h1
    try simp only [Bool.or_eq_true, Bool.and_eq_true, Bool.or_eq_false_iff, Bool.and_eq_false_iff, decide_eq_true_eq, decide_eq_false_iff_not, beq_iff_eq, beq_eq_false_iff_ne, bne_iff_ne, bne_eq_false_iff_eq, Bool.not_eq_true', Bool.not_eq_false', ne_eq, Int.not_lt, Int.not_le, ge_iff_le, gt_iff_lt] at f1
    have hj := kindR_lt (s := s) (i := j) (by omega); rw [kindR_in hj] at f1; have h2 := kAt_two f1
    refine c_skip ?_
    refine then_c ?_
    refine c_block ?_
    refine c_seq ?_
    refine c_region ?_
    refine o_pv trivial rfl rfl ?_
    first | (refine o_add trivial rfl rfl rfl ?_ ?_; (omega)) | refine o_pv trivial rfl rfl ?_
    refine o_pv trivial rfl rfl ?_
    refine o_nil ?_
    refine then_c ?_
    refine c_region ?_
    refine o_pv trivial rfl rfl ?_
    refine o_pv trivial rfl rfl ?_
    refine o_callP trivial rfl Tryd.call46 rfl (rKind_any _ _ (by omega)) ?_
    refine o_pv trivial rfl rfl ?_
    refine o_pv trivial rfl rfl ?_
    refine o_pv trivial rfl rfl ?_
    refine o_pv trivial rfl rfl ?_
    refine o_nil ?_
    refine blk_n ?_
    exact again (j + 1) (sub_cons rfl (sub_cons rfl (sub_cons rfl sub_nil))) (fun _ h => h) (by show s.size - (j + 1) < s.size - j; omega) ⟨by omega, by rw [hF, runAt_step hj (by unfold isDigit; rw [beq_iff_eq]; exact f1), h2.1]⟩
  · skip
    have f1 := h1
    try simp only [Bool.or_eq_true, Bool.and_eq_true, Bool.or_eq_false_iff, Bool.and_eq_false_iff, decide_eq_true_eq, decide_eq_false_iff_not, beq_iff_eq, beq_eq_false_iff_ne, bne_iff_ne, bne_eq_false_iff_eq, Bool.not_eq_true', Bool.not_eq_false', ne_eq, Int.not_lt, Int.not_le, ge_iff_le, gt_iff_lt] at f1
    refine c_exit ?_
    refine then_x ?_
    refine then_x ?_
    refine blk_eq rfl ?_
    refine then_c ?_
    refine c_seq ?_
    refine c_region ?_
    refine o_pv trivial rfl rfl ?_
    refine o_pv trivial rfl rfl ?_
    refine o_nil ?_
    refine then_c ?_
    refine c_ret ?_
    refine ret1 rfl rfl ?_
    refine fun _ hw => ⟨?_, hw⟩; rw [hF, runR (p := isDigit) hle (fun hj => by rw [kindR_in hj] at f1; unfold isDigit; exact beq_eq_false_iff_ne.2 f1)]
theorem rWord_any (s : ByteArray) (i : Nat) (hs : s.size ≤ 1000) (hi : i ≤ s.size) : PureC Tryd.prog 58 [.string s, .int .i64 (i : Int)] (.int .i64 (runAt isWord s i)) := by
  intro w
  refine enter2 _ Tryd.func58 rfl Tryd.ntmps58 rfl ?_ (S := fun w1 => w1 = w) rfl
  refine c_seq ?_
  refine c_region ?_
  refine o_pv trivial rfl rfl ?_
  refine o_nil ?_
  refine then_c ?_
  refine c_seq ?_
  refine c_region ?_
  refine o_pv trivial rfl rfl ?_
  refine o_pv trivial rfl rfl ?_
  refine o_callP trivial rfl Tryd.call46 rfl (rKind_any _ _ (by omega)) ?_
  refine o_pv trivial rfl rfl ?_
  refine o_pv trivial rfl rfl ?_
  refine o_pv trivial rfl rfl ?_
  refine o_pv trivial rfl rfl ?_
  refine o_pv trivial rfl rfl ?_
  refine o_nil ?_
  refine then_c ?_
  refine c_seq ?_
  refine c_block ?_
  refine c_loop (ι := Nat) [0] (.cons rfl .nil) (fun x => s.size - x) (fun x E0 => (1, .int .i64 (x : Int)) :: (5, .int .i64 (kindR s x).1) :: (6, .int .i64 (kindR s x).2) :: E0) (fun x => fun w1 => w1 = w) (fun x => x ≤ s.size ∧ runAt isWord s i = runAt isWord s x) (i) (sub_cons rfl (sub_cons rfl (sub_cons rfl (sub_cons rfl sub_nil)))) (fun _ h => h) (⟨hi, rfl⟩) ?_
  rintro j ⟨hle, hF⟩
  try dsimp only
  refine c_seq ?_
  refine c_seq ?_
  refine c_region ?_
  refine o_pv trivial rfl rfl ?_
  refine o_pv trivial rfl rfl ?_
  refine' o_or trivial trivial rfl rfl rfl rfl rfl rfl rfl rfl (fun hb15 => ?_) ?_
  rotate_left
  · skip
    refine o_pv (wants_some rfl rfl hb15) rfl rfl ?_
    refine o_pv (wants_some rfl rfl hb15) rfl rfl ?_
    refine o_nil ?_
    exact joins rfl
  refine o_nil ?_
  refine then_c ?_
  refine c_cond rfl (fun h1 => ?_) (fun h1 => ?_)
  · skip
    have f1 := h1
    try simp only [Bool.or_eq_true, Bool.and_eq_true, Bool.or_eq_false_iff, Bool.and_eq_false_iff, decide_eq_true_eq, decide_eq_false_iff_not, beq_iff_eq, beq_eq_false_iff_ne, bne_iff_ne, bne_eq_false_iff_eq, Bool.not_eq_true', Bool.not_eq_false', ne_eq, Int.not_lt, Int.not_le, ge_iff_le, gt_iff_lt] at f1
    have hj := kindR_lt (s := s) (i := j) (by omega); rw [kindR_in hj] at f1 ⊢; have hwd := width_pos s j; have hin := width_in s j hj
    refine c_skip ?_
    refine then_c ?_
    refine c_block ?_
    refine c_seq ?_
    refine c_region ?_
    refine o_pv trivial rfl rfl ?_
    refine o_pv trivial rfl rfl ?_
    first | (refine o_add trivial rfl rfl rfl ?_ ?_; (omega)) | refine o_pv trivial rfl rfl ?_
    refine o_pv trivial rfl rfl ?_
    refine o_nil ?_
    refine then_c ?_
    refine c_region ?_
    refine o_pv trivial rfl rfl ?_
    refine o_pv trivial rfl rfl ?_
    refine o_callP trivial rfl Tryd.call46 rfl (rKind_any _ _ (by omega)) ?_
    refine o_pv trivial rfl rfl ?_
    refine o_pv trivial rfl rfl ?_
    refine o_pv trivial rfl rfl ?_
    refine o_pv trivial rfl rfl ?_
    refine o_pv trivial rfl rfl ?_
    refine o_nil ?_
    refine blk_n ?_
    exact again (j + (Utf8.decode s j).2) (sub_cons rfl (sub_cons rfl (sub_cons rfl (sub_cons rfl sub_nil)))) (fun _ h => h) (by show s.size - (j + (Utf8.decode s j).2) < s.size - j; omega) ⟨hin, hF.trans (runAt_step hj (by unfold isWord; rw [Bool.or_eq_true, beq_iff_eq, beq_iff_eq]; exact f1))⟩
  · skip
    have f1 := h1
    try simp only [Bool.or_eq_true, Bool.and_eq_true, Bool.or_eq_false_iff, Bool.and_eq_false_iff, decide_eq_true_eq, decide_eq_false_iff_not, beq_iff_eq, beq_eq_false_iff_ne, bne_iff_ne, bne_eq_false_iff_eq, Bool.not_eq_true', Bool.not_eq_false', ne_eq, Int.not_lt, Int.not_le, ge_iff_le, gt_iff_lt] at f1
    refine c_exit ?_
    refine then_x ?_
    refine then_x ?_
    refine blk_eq rfl ?_
    refine then_c ?_
    refine c_seq ?_
    refine c_region ?_
    refine o_pv trivial rfl rfl ?_
    refine o_pv trivial rfl rfl ?_
    refine o_nil ?_
    refine then_c ?_
    refine c_ret ?_
    refine ret1 rfl rfl ?_
    refine fun _ hw => ⟨?_, hw⟩; rw [hF, runR (p := isWord) hle (fun hj => by rw [kindR_in hj] at f1; unfold isWord; rw [Bool.or_eq_false_iff, beq_eq_false_iff_ne, beq_eq_false_iff_ne]; exact f1)]
theorem rCut_any (s : ByteArray) (hs : s.size ≤ 100000) : PureC Tryd.prog 50 [.string s] (.int .i64 (cutZ s)) := by
  intro w
  refine enter1 _ Tryd.func50 rfl Tryd.ntmps50 rfl ?_ (S := fun w1 => w1 = w) rfl
  refine c_seq ?_
  refine c_region ?_
  refine o_pv trivial rfl rfl ?_
  refine o_nil ?_
  refine then_c ?_
  refine c_seq ?_
  refine c_seq ?_
  refine c_region ?_
  refine o_pv trivial rfl rfl ?_
  refine o_nil ?_
  refine then_c ?_
  refine c_block ?_
  refine c_loop (ι := Nat) [0] (.cons rfl .nil) (fun x => s.size - x) (fun x E0 => (3, .int .i64 (x : Int)) :: E0) (fun x => fun w1 => w1 = w) (fun x => x ≤ s.size ∧ cutZ s = cutGo s (s.size - x) x) (0) (sub_cons rfl (sub_cons rfl sub_nil)) (fun _ h => h) (⟨Nat.zero_le _, rfl⟩) ?_
  rintro j ⟨hle, hF⟩
  try dsimp only
  refine c_seq ?_
  refine c_seq ?_
  refine c_region ?_
  refine o_pv trivial rfl rfl ?_
  refine o_pv trivial rfl rfl ?_
  refine o_lenS trivial rfl Tryd.underlying9 rfl ?_
  refine o_pv trivial rfl rfl ?_
  refine o_nil ?_
  refine then_c ?_
  refine c_cond rfl (fun h1 => ?_) (fun h1 => ?_)
  · skip
    have f1 := h1
    try simp only [Bool.or_eq_true, Bool.and_eq_true, Bool.or_eq_false_iff, Bool.and_eq_false_iff, decide_eq_true_eq, decide_eq_false_iff_not, beq_iff_eq, beq_eq_false_iff_ne, bne_iff_ne, bne_eq_false_iff_eq, Bool.not_eq_true', Bool.not_eq_false', ne_eq, Int.not_lt, Int.not_le, ge_iff_le, gt_iff_lt] at f1
    refine c_skip ?_
    refine then_c ?_
    refine c_seq ?_
    refine c_block ?_
    refine c_seq ?_
    refine c_region ?_
    refine o_pv trivial rfl rfl ?_
    refine o_pv trivial rfl rfl ?_
    refine o_idxS trivial rfl Tryd.underlying9 rfl rfl (by omega) ?_
    refine o_pv trivial rfl rfl ?_
    refine o_nil ?_
    refine then_c ?_
    refine c_cond rfl (fun h2 => ?_) (fun h2 => ?_)
    · skip
      have f2 := h2
      try simp only [Bool.or_eq_true, Bool.and_eq_true, Bool.or_eq_false_iff, Bool.and_eq_false_iff, decide_eq_true_eq, decide_eq_false_iff_not, beq_iff_eq, beq_eq_false_iff_ne, bne_iff_ne, bne_eq_false_iff_eq, Bool.not_eq_true', Bool.not_eq_false', ne_eq, Int.not_lt, Int.not_le, ge_iff_le, gt_iff_lt] at f2
      refine c_seq ?_
      refine c_region ?_
      refine o_pv trivial rfl rfl ?_
      refine o_pv trivial rfl rfl ?_
      refine o_nil ?_
      refine then_c ?_
      refine c_ret ?_
      refine blk_r ?_
      refine then_r ?_
      refine then_r ?_
      refine blk_r ?_
      refine then_r ?_
      refine ret1 rfl rfl ?_
      refine fun _ hw => ⟨?_, hw⟩; rw [hF, cutGo_stop (by omega) (by rw [Int.toNat_natCast] at f2; omega)]
    · skip
      have f2 := h2
      try simp only [Bool.or_eq_true, Bool.and_eq_true, Bool.or_eq_false_iff, Bool.and_eq_false_iff, decide_eq_true_eq, decide_eq_false_iff_not, beq_iff_eq, beq_eq_false_iff_ne, bne_iff_ne, bne_eq_false_iff_eq, Bool.not_eq_true', Bool.not_eq_false', ne_eq, Int.not_lt, Int.not_le, ge_iff_le, gt_iff_lt] at f2
      refine c_skip ?_
      refine blk_n ?_
      refine then_c ?_
      refine c_region ?_
      refine o_pv trivial rfl rfl ?_
      first | (refine o_add trivial rfl rfl rfl ?_ ?_; (omega)) | refine o_pv trivial rfl rfl ?_
      refine o_pv trivial rfl rfl ?_
      refine o_nil ?_
      exact again (j + 1) (sub_cons rfl (sub_cons rfl sub_nil)) (fun _ h => h) (by show s.size - (j + 1) < s.size - j; omega) ⟨by omega, hF.trans (cutGo_step (by omega) (by rw [Int.toNat_natCast] at f2; omega))⟩
  · skip
    have f1 := h1
    try simp only [Bool.or_eq_true, Bool.and_eq_true, Bool.or_eq_false_iff, Bool.and_eq_false_iff, decide_eq_true_eq, decide_eq_false_iff_not, beq_iff_eq, beq_eq_false_iff_ne, bne_iff_ne, bne_eq_false_iff_eq, Bool.not_eq_true', Bool.not_eq_false', ne_eq, Int.not_lt, Int.not_le, ge_iff_le, gt_iff_lt] at f1
    refine c_exit ?_
    refine then_x ?_
    refine then_x ?_
    refine blk_eq rfl ?_
    refine then_c ?_
    refine c_seq ?_
    refine c_region ?_
    refine o_pv trivial rfl rfl ?_
    refine o_lenS trivial rfl Tryd.underlying9 rfl ?_
    refine o_pv trivial rfl rfl ?_
    refine o_nil ?_
    refine then_c ?_
    refine c_ret ?_
    refine ret1 rfl rfl ?_
    refine fun _ hw => ⟨?_, hw⟩; rw [hF, cutGo_end (by omega)]
theorem rPart_any (s : ByteArray) (hs : s.size ≤ 1000) : PureC Tryd.prog 51 [.string s] (.bool (partZ s)) := by
  intro w
  refine enter1 _ Tryd.func51 rfl Tryd.ntmps51 rfl ?_ (S := fun w1 => w1 = w) rfl
  refine c_seq ?_
  refine c_region ?_
  refine o_pv trivial rfl rfl ?_
  refine o_nil ?_
  refine then_c ?_
  refine c_seq ?_
  refine c_region ?_
  refine o_pv trivial rfl rfl ?_
  refine o_lenS trivial rfl Tryd.underlying9 rfl ?_
  refine o_pv trivial rfl rfl ?_
  refine' o_and trivial trivial rfl rfl rfl rfl rfl rfl rfl rfl (fun hb6 => ?_) ?_
  rotate_left
  · skip
    have fb6 := hb6
    try simp only [Bool.or_eq_true, Bool.and_eq_true, Bool.or_eq_false_iff, Bool.and_eq_false_iff, decide_eq_true_eq, decide_eq_false_iff_not, beq_iff_eq, beq_eq_false_iff_ne, bne_iff_ne, bne_eq_false_iff_eq, Bool.not_eq_true', Bool.not_eq_false', ne_eq, Int.not_lt, Int.not_le, ge_iff_le, gt_iff_lt] at fb6
    refine o_pv (wants_some rfl rfl hb6) rfl rfl ?_
    refine o_lenS (wants_some rfl rfl hb6) rfl Tryd.underlying9 rfl ?_
    refine o_pv (wants_some rfl rfl hb6) rfl rfl ?_
    refine o_nil ?_
    exact joins rfl
  refine' o_and trivial trivial rfl rfl rfl rfl rfl rfl rfl rfl (fun hb11 => ?_) ?_
  rotate_left
  · skip
    have fb11 := hb11
    try simp only [Bool.or_eq_true, Bool.and_eq_true, Bool.or_eq_false_iff, Bool.and_eq_false_iff, decide_eq_true_eq, decide_eq_false_iff_not, beq_iff_eq, beq_eq_false_iff_ne, bne_iff_ne, bne_eq_false_iff_eq, Bool.not_eq_true', Bool.not_eq_false', ne_eq, Int.not_lt, Int.not_le, ge_iff_le, gt_iff_lt] at fb11
    refine o_pv (wants_some rfl rfl hb11) rfl rfl ?_
    refine o_callP (wants_some rfl rfl hb11) rfl Tryd.call62 rfl (rDigits_any s 0 (by omega) (by omega)) ?_
    refine o_pv (wants_some rfl rfl hb11) rfl rfl ?_
    refine o_lenS (wants_some rfl rfl hb11) rfl Tryd.underlying9 rfl ?_
    refine o_pv (wants_some rfl rfl hb11) rfl rfl ?_
    refine o_nil ?_
    exact joins rfl
  refine' o_and trivial trivial rfl rfl rfl rfl rfl rfl rfl rfl (fun hb18 => ?_) ?_
  rotate_left
  · skip
    have fb18 := hb18
    try simp only [Bool.or_eq_true, Bool.and_eq_true, Bool.or_eq_false_iff, Bool.and_eq_false_iff, decide_eq_true_eq, decide_eq_false_iff_not, beq_iff_eq, beq_eq_false_iff_ne, bne_iff_ne, bne_eq_false_iff_eq, Bool.not_eq_true', Bool.not_eq_false', ne_eq, Int.not_lt, Int.not_le, ge_iff_le, gt_iff_lt] at fb18
    refine o_pv (wants_some rfl rfl hb18) rfl rfl ?_
    refine o_lenS (wants_some rfl rfl hb18) rfl Tryd.underlying9 rfl ?_
    refine o_pv (wants_some rfl rfl hb18) rfl rfl ?_
    refine' o_or (wants_some rfl rfl hb18) (wants_some rfl rfl hb18) rfl rfl rfl rfl rfl rfl rfl rfl (fun hb22 => ?_) ?_
    rotate_left
    · skip
      have fb22 := hb22
      try simp only [Bool.or_eq_true, Bool.and_eq_true, Bool.or_eq_false_iff, Bool.and_eq_false_iff, decide_eq_true_eq, decide_eq_false_iff_not, beq_iff_eq, beq_eq_false_iff_ne, bne_iff_ne, bne_eq_false_iff_eq, Bool.not_eq_true', Bool.not_eq_false', ne_eq, Int.not_lt, Int.not_le, ge_iff_le, gt_iff_lt] at fb22
      refine o_pv (wants_some rfl rfl hb22) rfl rfl ?_
      refine o_idxS (wants_some rfl rfl hb22) rfl Tryd.underlying9 rfl rfl (by omega) ?_
      refine o_pv (wants_some rfl rfl hb22) rfl rfl ?_
      refine o_nil ?_
      exact joins rfl
    refine o_nil ?_
    exact joins rfl
  refine o_pv trivial rfl rfl ?_
  refine o_nil ?_
  refine then_c ?_
  refine c_ret ?_
  refine ret1 rfl rfl ?_
  refine fun _ hw => ⟨congrArg Value.bool ?_, hw⟩; rw [Bool.eq_iff_iff]; unfold partZ; simp only [Bool.and_eq_true, Bool.or_eq_true, decide_eq_true_eq, beq_iff_eq, bne_iff_ne, Int.toNat_zero]; omega
theorem rNumber_any (s : ByteArray) (hs : s.size ≤ 1000) : PureC Tryd.prog 31 [.string s] (.bool (numZ s)) := by
  have hc := cutZ_le s
  intro w
  refine enter1 _ Tryd.func31 rfl Tryd.ntmps31 rfl ?_ (S := fun w1 => w1 = w) rfl
  refine c_seq ?_
  refine c_region ?_
  refine o_pv trivial rfl rfl ?_
  refine o_nil ?_
  refine then_c ?_
  refine c_seq ?_
  refine c_region ?_
  refine o_pv trivial rfl rfl ?_
  refine o_callP trivial rfl Tryd.call50 rfl (rCut_any _ (by first | omega | (simp; omega))) ?_
  refine o_pv trivial rfl rfl ?_
  refine o_nil ?_
  refine then_c ?_
  refine c_seq ?_
  refine c_seq ?_
  refine c_region ?_
  refine o_pv trivial rfl rfl ?_
  refine o_pv trivial rfl rfl ?_
  refine o_lenS trivial rfl Tryd.underlying9 rfl ?_
  refine o_pv trivial rfl rfl ?_
  refine o_nil ?_
  refine then_c ?_
  refine c_cond rfl (fun h1 => ?_) (fun h1 => ?_)
  · skip
    have f1 := h1
    try simp only [Bool.or_eq_true, Bool.and_eq_true, Bool.or_eq_false_iff, Bool.and_eq_false_iff, decide_eq_true_eq, decide_eq_false_iff_not, beq_iff_eq, beq_eq_false_iff_ne, bne_iff_ne, bne_eq_false_iff_eq, Bool.not_eq_true', Bool.not_eq_false', ne_eq, Int.not_lt, Int.not_le, ge_iff_le, gt_iff_lt] at f1
    refine c_seq ?_
    refine c_region ?_
    refine o_pv trivial rfl rfl ?_
    refine o_callP trivial rfl Tryd.call51 rfl (rPart_any _ (by first | omega | (simp; omega))) ?_
    refine o_pv trivial rfl rfl ?_
    refine o_nil ?_
    refine then_c ?_
    refine c_ret ?_
    refine then_r ?_
    refine ret1 rfl rfl ?_
    refine fun _ hw => ⟨?_, hw⟩; unfold numZ; rw [if_pos (by omega)]
  · skip
    have f1 := h1
    try simp only [Bool.or_eq_true, Bool.and_eq_true, Bool.or_eq_false_iff, Bool.and_eq_false_iff, decide_eq_true_eq, decide_eq_false_iff_not, beq_iff_eq, beq_eq_false_iff_ne, bne_iff_ne, bne_eq_false_iff_eq, Bool.not_eq_true', Bool.not_eq_false', ne_eq, Int.not_lt, Int.not_le, ge_iff_le, gt_iff_lt] at f1
    refine c_skip ?_
    refine then_c ?_
    refine c_seq ?_
    refine c_region ?_
    refine o_pv trivial rfl rfl ?_
    refine o_pv trivial rfl rfl ?_
    refine o_sliceS2 trivial rfl Tryd.underlying9 rfl rfl (by omega) ?_
    refine o_callP trivial rfl Tryd.call51 rfl (rPart_any _ (by first | omega | (simp; omega))) ?_
    refine' o_and trivial trivial rfl rfl rfl rfl rfl rfl rfl rfl (fun hb16 => ?_) ?_
    rotate_left
    · skip
      have fb16 := hb16
      try simp only [Bool.or_eq_true, Bool.and_eq_true, Bool.or_eq_false_iff, Bool.and_eq_false_iff, decide_eq_true_eq, decide_eq_false_iff_not, beq_iff_eq, beq_eq_false_iff_ne, bne_iff_ne, bne_eq_false_iff_eq, Bool.not_eq_true', Bool.not_eq_false', ne_eq, Int.not_lt, Int.not_le, ge_iff_le, gt_iff_lt] at fb16
      refine o_pv (wants_some rfl rfl hb16) rfl rfl ?_
      refine o_pv (wants_some rfl rfl hb16) rfl rfl ?_
      first | (refine o_add (wants_some rfl rfl hb16) rfl rfl rfl ?_ ?_; (omega)) | refine o_pv (wants_some rfl rfl hb16) rfl rfl ?_
      refine o_sliceS1 (wants_some rfl rfl hb16) rfl Tryd.underlying9 rfl rfl (by omega) ?_
      refine o_callP (wants_some rfl rfl hb16) rfl Tryd.call51 rfl (rPart_any _ (by first | omega | (simp; omega))) ?_
      refine o_nil ?_
      exact joins rfl
    refine' o_and trivial trivial rfl rfl rfl rfl rfl rfl rfl rfl (fun hb23 => ?_) ?_
    rotate_left
    · skip
      have fb23 := hb23
      try simp only [Bool.or_eq_true, Bool.and_eq_true, Bool.or_eq_false_iff, Bool.and_eq_false_iff, decide_eq_true_eq, decide_eq_false_iff_not, beq_iff_eq, beq_eq_false_iff_ne, bne_iff_ne, bne_eq_false_iff_eq, Bool.not_eq_true', Bool.not_eq_false', ne_eq, Int.not_lt, Int.not_le, ge_iff_le, gt_iff_lt] at fb23
      refine o_pv (wants_some rfl rfl hb23) rfl rfl ?_
      refine o_pv (wants_some rfl rfl hb23) rfl rfl ?_
      first | (refine o_add (wants_some rfl rfl hb23) rfl rfl rfl ?_ ?_; (omega)) | refine o_pv (wants_some rfl rfl hb23) rfl rfl ?_
      refine o_sliceS1 (wants_some rfl rfl hb23) rfl Tryd.underlying9 rfl rfl (by omega) ?_
      refine o_pv (wants_some rfl rfl hb23) rfl rfl ?_
      refine o_nil ?_
      exact joins rfl
    refine o_pv trivial rfl rfl ?_
    refine o_nil ?_
    refine then_c ?_
    refine c_ret ?_
    refine ret1 rfl rfl ?_
    refine fun _ hw => ⟨?_, hw⟩; unfold numZ; rw [if_neg (by omega)]; have e : ((cutZ s : Int) + 1).toNat = cutZ s + 1 := by omega
    rw [e, Int.toNat_natCast]
theorem rEnd_any (s : ByteArray) (i : Nat) (hs : s.size ≤ 1000) (hi : i ≤ s.size) : PureC Tryd.prog 59 [.string s, .int .i64 (i : Int)] (.int .i64 (numEnd s i)) := by
  have h1 := runAt_le isDigit s i hi
  intro w
  refine enter2 _ Tryd.func59 rfl Tryd.ntmps59 rfl ?_ (S := fun w1 => w1 = w) rfl
  refine c_seq ?_
  refine c_region ?_
  refine o_pv trivial rfl rfl ?_
  refine o_nil ?_
  refine then_c ?_
  refine c_seq ?_
  refine c_region ?_
  refine o_pv trivial rfl rfl ?_
  refine o_pv trivial rfl rfl ?_
  refine o_callP trivial rfl Tryd.call62 rfl (rDigits_any _ _ (by omega) (by omega)) ?_
  refine o_pv trivial rfl rfl ?_
  refine o_nil ?_
  refine then_c ?_
  refine c_seq ?_
  refine c_seq ?_
  refine c_region ?_
  refine o_pv trivial rfl rfl ?_
  refine o_pv trivial rfl rfl ?_
  refine o_lenS trivial rfl Tryd.underlying9 rfl ?_
  refine o_pv trivial rfl rfl ?_
  refine' o_and trivial trivial rfl rfl rfl rfl rfl rfl rfl rfl (fun hb14 => ?_) ?_
  rotate_left
  · skip
    have fb14 := hb14
    try simp only [Bool.or_eq_true, Bool.and_eq_true, Bool.or_eq_false_iff, Bool.and_eq_false_iff, decide_eq_true_eq, decide_eq_false_iff_not, beq_iff_eq, beq_eq_false_iff_ne, bne_iff_ne, bne_eq_false_iff_eq, Bool.not_eq_true', Bool.not_eq_false', ne_eq, Int.not_lt, Int.not_le, ge_iff_le, gt_iff_lt] at fb14
    refine o_pv (wants_some rfl rfl hb14) rfl rfl ?_
    refine o_pv (wants_some rfl rfl hb14) rfl rfl ?_
    refine o_idxS (wants_some rfl rfl hb14) rfl Tryd.underlying9 rfl rfl (by omega) ?_
    refine o_pv (wants_some rfl rfl hb14) rfl rfl ?_
    refine o_nil ?_
    exact joins rfl
  refine o_nil ?_
  refine then_c ?_
  refine c_cond rfl (fun h1 => ?_) (fun h1 => ?_)
  · skip
    have f1 := h1
    try simp only [Bool.or_eq_true, Bool.and_eq_true, Bool.or_eq_false_iff, Bool.and_eq_false_iff, decide_eq_true_eq, decide_eq_false_iff_not, beq_iff_eq, beq_eq_false_iff_ne, bne_iff_ne, bne_eq_false_iff_eq, Bool.not_eq_true', Bool.not_eq_false', ne_eq, Int.not_lt, Int.not_le, ge_iff_le, gt_iff_lt] at f1
    refine c_seq ?_
    refine c_region ?_
    refine o_pv trivial rfl rfl ?_
    refine o_pv trivial rfl rfl ?_
    first | (refine o_add trivial rfl rfl rfl ?_ ?_; (omega)) | refine o_pv trivial rfl rfl ?_
    refine o_callP trivial rfl Tryd.call62 rfl (rDigits_any s (runAt isDigit s i + 1) (by omega) (by omega)) ?_
    refine o_pv trivial rfl rfl ?_
    refine o_nil ?_
    refine then_c ?_
    refine c_seq ?_
    refine c_region ?_
    refine o_pv trivial rfl rfl ?_
    refine o_pv trivial rfl rfl ?_
    first | (refine o_add trivial rfl rfl rfl ?_ ?_; (omega)) | refine o_pv trivial rfl rfl ?_
    refine o_pv trivial rfl rfl ?_
    refine o_nil ?_
    refine then_c ?_
    refine c_cond rfl (fun h2 => ?_) (fun h2 => ?_)
    · skip
      have f2 := h2
      try simp only [Bool.or_eq_true, Bool.and_eq_true, Bool.or_eq_false_iff, Bool.and_eq_false_iff, decide_eq_true_eq, decide_eq_false_iff_not, beq_iff_eq, beq_eq_false_iff_ne, bne_iff_ne, bne_eq_false_iff_eq, Bool.not_eq_true', Bool.not_eq_false', ne_eq, Int.not_lt, Int.not_le, ge_iff_le, gt_iff_lt] at f2
      refine c_seq ?_
      refine c_region ?_
      refine o_pv trivial rfl rfl ?_
      refine o_pv trivial rfl rfl ?_
      refine o_nil ?_
      refine then_c ?_
      refine c_ret ?_
      refine then_r ?_
      refine ret1 rfl rfl ?_
      refine fun _ hw => ⟨?_, hw⟩; rw [Int.toNat_natCast] at f1; unfold numEnd; rw [if_pos (by omega)]
    · skip
      have f2 := h2
      try simp only [Bool.or_eq_true, Bool.and_eq_true, Bool.or_eq_false_iff, Bool.and_eq_false_iff, decide_eq_true_eq, decide_eq_false_iff_not, beq_iff_eq, beq_eq_false_iff_ne, bne_iff_ne, bne_eq_false_iff_eq, Bool.not_eq_true', Bool.not_eq_false', ne_eq, Int.not_lt, Int.not_le, ge_iff_le, gt_iff_lt] at f2
      refine c_skip ?_
      refine then_c ?_
      refine c_seq ?_
      refine c_region ?_
      refine o_pv trivial rfl rfl ?_
      refine o_pv trivial rfl rfl ?_
      refine o_nil ?_
      refine then_c ?_
      refine c_ret ?_
      refine ret1 rfl rfl ?_
      refine fun _ hw => ⟨?_, hw⟩; rw [Int.toNat_natCast] at f1; unfold numEnd; rw [if_neg (by omega)]
  · skip
    have f1 := h1
    try simp only [Bool.or_eq_true, Bool.and_eq_true, Bool.or_eq_false_iff, Bool.and_eq_false_iff, decide_eq_true_eq, decide_eq_false_iff_not, beq_iff_eq, beq_eq_false_iff_ne, bne_iff_ne, bne_eq_false_iff_eq, Bool.not_eq_true', Bool.not_eq_false', ne_eq, Int.not_lt, Int.not_le, ge_iff_le, gt_iff_lt] at f1
    refine c_skip ?_
    refine then_c ?_
    refine c_seq ?_
    refine c_region ?_
    refine o_pv trivial rfl rfl ?_
    refine o_pv trivial rfl rfl ?_
    refine o_nil ?_
    refine then_c ?_
    refine c_ret ?_
    refine ret1 rfl rfl ?_
    refine fun _ hw => ⟨?_, hw⟩; rw [Int.toNat_natCast] at f1; unfold numEnd; rw [if_neg (by omega)]
def tokV (r : TokR) : Value := .tuple #[.agg #[.int .i64 r.kind, .string r.text, .int .i64 0, .int .i64 0], .int .i64 (r.stop : Int), .int .i64 r.err]
theorem rToken_any (s : ByteArray) (i : Nat) {I : Hp} (hs : s.size ≤ 1000) (hi : i < s.size) : Fun Tryd.prog 47 [.string s, .int .i64 (i : Int)] I [] (fun v _ _ => v = tokV (tokZ s i)) := by
  have hn := numEnd_ge s i (by omega)
  have hw1 := runAt_ge isWord s i (by omega)
  have hw2 := runAt_le isWord s i (by omega)
  have hwd := width_pos s i
  have hin := width_in s i hi
  have hcl := cutZ_le (s.extract i (numEnd s i))
  have hsz : (s.extract i (numEnd s i)).size = numEnd s i - i := by simp; omega
  intro w hw
  refine enter2 _ Tryd.func47 rfl Tryd.ntmps47 rfl ?_ hw
  refine c_seq ?_
  refine c_region ?_
  refine o_alloc trivial rfl Tryd.zeroValue45 rfl (fun b4 => ?_)
  refine o_pv trivial rfl rfl ?_
  refine o_pv trivial rfl rfl ?_
  refine o_nil ?_
  refine then_c ?_
  refine c_seq ?_
  refine c_region ?_
  refine o_pv trivial rfl rfl ?_
  refine o_pv trivial rfl rfl ?_
  refine o_callP trivial rfl Tryd.call46 rfl (rKind_any _ _ (by omega)) ?_
  refine o_pv trivial rfl rfl ?_
  refine o_pv trivial rfl rfl ?_
  refine o_pv trivial rfl rfl ?_
  refine o_pv trivial rfl rfl ?_
  refine o_pv trivial rfl rfl ?_
  refine o_nil ?_
  refine then_c ?_
  refine c_seq ?_
  refine c_seq ?_
  rw [kindR_in hi]
  refine c_region ?_
  refine o_pv trivial rfl rfl ?_
  refine o_nil ?_
  refine then_c ?_
  refine c_block ?_
  refine c_seq ?_
  refine c_region ?_
  refine o_pv trivial rfl rfl ?_
  refine o_pv trivial rfl rfl ?_
  refine o_nil ?_
  refine then_c ?_
  refine c_cond rfl (fun h1 => ?_) (fun h1 => ?_)
  · skip
    have f1 := h1
    try simp only [Bool.or_eq_true, Bool.and_eq_true, Bool.or_eq_false_iff, Bool.and_eq_false_iff, decide_eq_true_eq, decide_eq_false_iff_not, beq_iff_eq, beq_eq_false_iff_ne, bne_iff_ne, bne_eq_false_iff_eq, Bool.not_eq_true', Bool.not_eq_false', ne_eq, Int.not_lt, Int.not_le, ge_iff_le, gt_iff_lt] at f1
    refine c_seq ?_
    refine c_region ?_
    refine o_pv trivial rfl rfl ?_
    refine o_pv trivial rfl rfl ?_
    refine o_callP trivial rfl Tryd.call58 rfl (rWord_any _ _ (by omega) (by omega)) ?_
    refine o_pv trivial rfl rfl ?_
    refine o_nil ?_
    refine then_c ?_
    refine c_seq ?_
    refine c_seq ?_
    refine c_region ?_
    refine o_pv trivial rfl rfl ?_
    refine o_pv trivial rfl rfl ?_
    first | (refine o_sub trivial rfl rfl rfl ?_ ?_; (omega)) | refine o_pv trivial rfl rfl ?_
    refine o_pv trivial rfl rfl ?_
    refine o_nil ?_
    refine then_c ?_
    refine c_cond rfl (fun h2 => ?_) (fun h2 => ?_)
    · skip
      have f2 := h2
      try simp only [Bool.or_eq_true, Bool.and_eq_true, Bool.or_eq_false_iff, Bool.and_eq_false_iff, decide_eq_true_eq, decide_eq_false_iff_not, beq_iff_eq, beq_eq_false_iff_ne, bne_iff_ne, bne_eq_false_iff_eq, Bool.not_eq_true', Bool.not_eq_false', ne_eq, Int.not_lt, Int.not_le, ge_iff_le, gt_iff_lt] at f2
      refine c_seq ?_
      refine c_region ?_
      refine o_buildS trivial rfl (bld45) rfl .nil ?_
      refine o_pv trivial rfl rfl ?_
      refine o_store trivial rfl rfl rfl Tryd.sizeOf45 rfl rfl (by first | exact .here | exact .there .here | exact .there (.there .here) | exact .there (.there (.there .here)) | exact .there (.there (.there (.there .here))) | exact .there (.there (.there (.there (.there .here))))) (by repeat constructor) ?_
      refine o_pv trivial rfl rfl ?_
      refine o_pv trivial rfl rfl ?_
      refine o_nil ?_
      refine then_c ?_
      refine c_ret ?_
      refine then_r ?_
      refine blk_r ?_
      refine then_r ?_
      refine retR rfl (.agg Tryd.isAgg45 Tryd.sizeOf45 rfl (by first | exact .head _ | exact .tail _ (.head _) | exact .tail _ (.tail _ (.head _)) | exact .tail _ (.tail _ (.tail _ (.head _))) | exact .tail _ (.tail _ (.tail _ (.tail _ (.head _)))) | exact .tail _ (.tail _ (.tail _ (.tail _ (.tail _ (.head _)))))) rfl (.tmp rfl (.tmp rfl .nil))) ?_
      refine leaf0 ?_; unfold tokZ; rw [if_pos f1, if_pos (by omega)]; rfl
    · skip
      have f2 := h2
      try simp only [Bool.or_eq_true, Bool.and_eq_true, Bool.or_eq_false_iff, Bool.and_eq_false_iff, decide_eq_true_eq, decide_eq_false_iff_not, beq_iff_eq, beq_eq_false_iff_ne, bne_iff_ne, bne_eq_false_iff_eq, Bool.not_eq_true', Bool.not_eq_false', ne_eq, Int.not_lt, Int.not_le, ge_iff_le, gt_iff_lt] at f2
      refine c_skip ?_
      refine then_c ?_
      refine c_seq ?_
      refine c_region ?_
      refine o_pv trivial rfl rfl ?_
      refine o_pv trivial rfl rfl ?_
      refine o_pv trivial rfl rfl ?_
      refine o_sliceS3 trivial rfl Tryd.underlying9 rfl rfl rfl (by omega) ?_
      refine o_buildS trivial rfl (bld45) rfl (.cons rfl rfl rfl (by repeat constructor) (.cons rfl rfl rfl (by repeat constructor) .nil)) ?_
      refine o_pv trivial rfl rfl ?_
      refine o_store trivial rfl rfl rfl Tryd.sizeOf45 rfl rfl (by first | exact .here | exact .there .here | exact .there (.there .here) | exact .there (.there (.there .here)) | exact .there (.there (.there (.there .here))) | exact .there (.there (.there (.there (.there .here))))) (by repeat constructor) ?_
      refine o_pv trivial rfl rfl ?_
      refine o_pv trivial rfl rfl ?_
      refine o_nil ?_
      refine then_c ?_
      refine c_ret ?_
      refine blk_r ?_
      refine then_r ?_
      refine retR rfl (.agg Tryd.isAgg45 Tryd.sizeOf45 rfl (by first | exact .head _ | exact .tail _ (.head _) | exact .tail _ (.tail _ (.head _)) | exact .tail _ (.tail _ (.tail _ (.head _))) | exact .tail _ (.tail _ (.tail _ (.tail _ (.head _)))) | exact .tail _ (.tail _ (.tail _ (.tail _ (.tail _ (.head _)))))) rfl (.tmp rfl (.tmp rfl .nil))) ?_
      refine leaf0 ?_; unfold tokZ; rw [if_pos f1, if_neg (by omega)]; rfl
  · skip
    have f1 := h1
    try simp only [Bool.or_eq_true, Bool.and_eq_true, Bool.or_eq_false_iff, Bool.and_eq_false_iff, decide_eq_true_eq, decide_eq_false_iff_not, beq_iff_eq, beq_eq_false_iff_ne, bne_iff_ne, bne_eq_false_iff_eq, Bool.not_eq_true', Bool.not_eq_false', ne_eq, Int.not_lt, Int.not_le, ge_iff_le, gt_iff_lt] at f1
    refine c_seq ?_
    refine c_region ?_
    refine o_pv trivial rfl rfl ?_
    refine o_pv trivial rfl rfl ?_
    refine o_nil ?_
    refine then_c ?_
    refine c_cond rfl (fun h3 => ?_) (fun h3 => ?_)
    · skip
      have f3 := h3
      try simp only [Bool.or_eq_true, Bool.and_eq_true, Bool.or_eq_false_iff, Bool.and_eq_false_iff, decide_eq_true_eq, decide_eq_false_iff_not, beq_iff_eq, beq_eq_false_iff_ne, bne_iff_ne, bne_eq_false_iff_eq, Bool.not_eq_true', Bool.not_eq_false', ne_eq, Int.not_lt, Int.not_le, ge_iff_le, gt_iff_lt] at f3
      refine c_seq ?_
      refine c_region ?_
      refine o_pv trivial rfl rfl ?_
      refine o_pv trivial rfl rfl ?_
      refine o_callP trivial rfl Tryd.call59 rfl (rEnd_any _ _ (by omega) (by omega)) ?_
      refine o_pv trivial rfl rfl ?_
      refine o_nil ?_
      refine then_c ?_
      refine c_seq ?_
      refine c_region ?_
      refine o_pv trivial rfl rfl ?_
      refine o_pv trivial rfl rfl ?_
      refine o_pv trivial rfl rfl ?_
      refine o_sliceS3 trivial rfl Tryd.underlying9 rfl rfl rfl (by omega) ?_
      refine o_pv trivial rfl rfl ?_
      refine o_nil ?_
      refine then_c ?_
      refine c_seq ?_
      simp only [Int.toNat_natCast]
      refine c_region ?_
      refine o_pv trivial rfl rfl ?_
      refine o_callP trivial rfl Tryd.call50 rfl (rCut_any _ (by first | omega | (simp; omega))) ?_
      refine o_pv trivial rfl rfl ?_
      refine o_nil ?_
      refine then_c ?_
      refine c_seq ?_
      refine c_seq ?_
      refine c_region ?_
      refine o_pv trivial rfl rfl ?_
      refine o_pv trivial rfl rfl ?_
      refine' o_or trivial trivial rfl rfl rfl rfl rfl rfl rfl rfl (fun hb51 => ?_) ?_
      rotate_left
      · skip
        have fb51 := hb51
        try simp only [Bool.or_eq_true, Bool.and_eq_true, Bool.or_eq_false_iff, Bool.and_eq_false_iff, decide_eq_true_eq, decide_eq_false_iff_not, beq_iff_eq, beq_eq_false_iff_ne, bne_iff_ne, bne_eq_false_iff_eq, Bool.not_eq_true', Bool.not_eq_false', ne_eq, Int.not_lt, Int.not_le, ge_iff_le, gt_iff_lt] at fb51
        refine o_pv (wants_some rfl rfl hb51) rfl rfl ?_
        refine o_lenS (wants_some rfl rfl hb51) rfl Tryd.underlying9 rfl ?_
        refine o_pv (wants_some rfl rfl hb51) rfl rfl ?_
        first | (refine o_sub (wants_some rfl rfl hb51) rfl rfl rfl ?_ ?_; (omega)) | refine o_pv (wants_some rfl rfl hb51) rfl rfl ?_
        refine o_pv (wants_some rfl rfl hb51) rfl rfl ?_
        refine o_nil ?_
        exact joins rfl
      refine o_nil ?_
      refine then_c ?_
      refine c_cond rfl (fun h4 => ?_) (fun h4 => ?_)
      · skip
        have f4 := h4
        try simp only [Bool.or_eq_true, Bool.and_eq_true, Bool.or_eq_false_iff, Bool.and_eq_false_iff, decide_eq_true_eq, decide_eq_false_iff_not, beq_iff_eq, beq_eq_false_iff_ne, bne_iff_ne, bne_eq_false_iff_eq, Bool.not_eq_true', Bool.not_eq_false', ne_eq, Int.not_lt, Int.not_le, ge_iff_le, gt_iff_lt] at f4
        refine c_seq ?_
        refine c_region ?_
        refine o_buildS trivial rfl (bld45) rfl .nil ?_
        refine o_pv trivial rfl rfl ?_
        refine o_store trivial rfl rfl rfl Tryd.sizeOf45 rfl rfl (by first | exact .here | exact .there .here | exact .there (.there .here) | exact .there (.there (.there .here)) | exact .there (.there (.there (.there .here))) | exact .there (.there (.there (.there (.there .here))))) (by repeat constructor) ?_
        refine o_pv trivial rfl rfl ?_
        refine o_pv trivial rfl rfl ?_
        refine o_nil ?_
        refine then_c ?_
        refine c_ret ?_
        refine then_r ?_
        refine blk_r ?_
        refine then_r ?_
        refine retR rfl (.agg Tryd.isAgg45 Tryd.sizeOf45 rfl (by first | exact .head _ | exact .tail _ (.head _) | exact .tail _ (.tail _ (.head _)) | exact .tail _ (.tail _ (.tail _ (.head _))) | exact .tail _ (.tail _ (.tail _ (.tail _ (.head _)))) | exact .tail _ (.tail _ (.tail _ (.tail _ (.tail _ (.head _)))))) rfl (.tmp rfl (.tmp rfl .nil))) ?_
        refine leaf0 ?_; unfold tokZ; rw [if_neg f1, if_pos f3, if_pos (by omega)]; rfl
      · skip
        have f4 := h4
        try simp only [Bool.or_eq_true, Bool.and_eq_true, Bool.or_eq_false_iff, Bool.and_eq_false_iff, decide_eq_true_eq, decide_eq_false_iff_not, beq_iff_eq, beq_eq_false_iff_ne, bne_iff_ne, bne_eq_false_iff_eq, Bool.not_eq_true', Bool.not_eq_false', ne_eq, Int.not_lt, Int.not_le, ge_iff_le, gt_iff_lt] at f4
        refine c_skip ?_
        refine then_c ?_
        refine c_seq ?_
        refine c_region ?_
        refine o_pv trivial rfl rfl ?_
        refine o_callP trivial rfl Tryd.call31 rfl (rNumber_any _ (by first | omega | (simp; omega))) ?_
        refine o_pv trivial rfl rfl ?_
        refine o_nil ?_
        refine then_c ?_
        refine c_seq ?_
        refine c_seq ?_
        refine c_region ?_
        refine o_pv trivial rfl rfl ?_
        refine o_pv trivial rfl rfl ?_
        refine o_nil ?_
        refine then_c ?_
        refine c_cond rfl (fun h5 => ?_) (fun h5 => ?_)
        · skip
          have f5 := h5
          try simp only [Bool.or_eq_true, Bool.and_eq_true, Bool.or_eq_false_iff, Bool.and_eq_false_iff, decide_eq_true_eq, decide_eq_false_iff_not, beq_iff_eq, beq_eq_false_iff_ne, bne_iff_ne, bne_eq_false_iff_eq, Bool.not_eq_true', Bool.not_eq_false', ne_eq, Int.not_lt, Int.not_le, ge_iff_le, gt_iff_lt] at f5
          refine c_seq ?_
          refine c_region ?_
          refine o_buildS trivial rfl (bld45) rfl .nil ?_
          refine o_pv trivial rfl rfl ?_
          refine o_store trivial rfl rfl rfl Tryd.sizeOf45 rfl rfl (by first | exact .here | exact .there .here | exact .there (.there .here) | exact .there (.there (.there .here)) | exact .there (.there (.there (.there .here))) | exact .there (.there (.there (.there (.there .here))))) (by repeat constructor) ?_
          refine o_pv trivial rfl rfl ?_
          refine o_pv trivial rfl rfl ?_
          refine o_nil ?_
          refine then_c ?_
          refine c_ret ?_
          refine then_r ?_
          refine blk_r ?_
          refine then_r ?_
          refine retR rfl (.agg Tryd.isAgg45 Tryd.sizeOf45 rfl (by first | exact .head _ | exact .tail _ (.head _) | exact .tail _ (.tail _ (.head _)) | exact .tail _ (.tail _ (.tail _ (.head _))) | exact .tail _ (.tail _ (.tail _ (.tail _ (.head _)))) | exact .tail _ (.tail _ (.tail _ (.tail _ (.tail _ (.head _)))))) rfl (.tmp rfl (.tmp rfl .nil))) ?_
          refine leaf0 ?_; unfold tokZ; rw [if_neg f1, if_pos f3, if_neg (by omega), if_neg (by rw [f5]; exact Bool.false_ne_true)]; rfl
        · skip
          have f5 := h5
          try simp only [Bool.or_eq_true, Bool.and_eq_true, Bool.or_eq_false_iff, Bool.and_eq_false_iff, decide_eq_true_eq, decide_eq_false_iff_not, beq_iff_eq, beq_eq_false_iff_ne, bne_iff_ne, bne_eq_false_iff_eq, Bool.not_eq_true', Bool.not_eq_false', ne_eq, Int.not_lt, Int.not_le, ge_iff_le, gt_iff_lt] at f5
          refine c_skip ?_
          refine then_c ?_
          refine c_seq ?_
          refine c_region ?_
          refine o_pv trivial rfl rfl ?_
          refine o_buildS trivial rfl (bld45) rfl (.cons rfl rfl rfl (by repeat constructor) (.cons rfl rfl rfl (by repeat constructor) .nil)) ?_
          refine o_pv trivial rfl rfl ?_
          refine o_store trivial rfl rfl rfl Tryd.sizeOf45 rfl rfl (by first | exact .here | exact .there .here | exact .there (.there .here) | exact .there (.there (.there .here)) | exact .there (.there (.there (.there .here))) | exact .there (.there (.there (.there (.there .here))))) (by repeat constructor) ?_
          refine o_pv trivial rfl rfl ?_
          refine o_pv trivial rfl rfl ?_
          refine o_nil ?_
          refine then_c ?_
          refine c_ret ?_
          refine blk_r ?_
          refine then_r ?_
          refine retR rfl (.agg Tryd.isAgg45 Tryd.sizeOf45 rfl (by first | exact .head _ | exact .tail _ (.head _) | exact .tail _ (.tail _ (.head _)) | exact .tail _ (.tail _ (.tail _ (.head _))) | exact .tail _ (.tail _ (.tail _ (.tail _ (.head _)))) | exact .tail _ (.tail _ (.tail _ (.tail _ (.tail _ (.head _)))))) rfl (.tmp rfl (.tmp rfl .nil))) ?_
          refine leaf0 ?_; unfold tokZ; rw [if_neg f1, if_pos f3, if_neg (by omega), if_pos f5]; rfl
    · skip
      have f3 := h3
      try simp only [Bool.or_eq_true, Bool.and_eq_true, Bool.or_eq_false_iff, Bool.and_eq_false_iff, decide_eq_true_eq, decide_eq_false_iff_not, beq_iff_eq, beq_eq_false_iff_ne, bne_iff_ne, bne_eq_false_iff_eq, Bool.not_eq_true', Bool.not_eq_false', ne_eq, Int.not_lt, Int.not_le, ge_iff_le, gt_iff_lt] at f3
      refine c_seq ?_
      refine c_region ?_
      refine o_pv trivial rfl rfl ?_
      refine o_pv trivial rfl rfl ?_
      refine o_nil ?_
      refine then_c ?_
      refine c_cond rfl (fun h6 => ?_) (fun h6 => ?_)
      · skip
        have f6 := h6
        try simp only [Bool.or_eq_true, Bool.and_eq_true, Bool.or_eq_false_iff, Bool.and_eq_false_iff, decide_eq_true_eq, decide_eq_false_iff_not, beq_iff_eq, beq_eq_false_iff_ne, bne_iff_ne, bne_eq_false_iff_eq, Bool.not_eq_true', Bool.not_eq_false', ne_eq, Int.not_lt, Int.not_le, ge_iff_le, gt_iff_lt] at f6
        refine c_seq ?_
        refine c_region ?_
        refine o_pv trivial rfl rfl ?_
        refine o_pv trivial rfl rfl ?_
        refine o_pv trivial rfl rfl ?_
        refine o_pv trivial rfl rfl ?_
        first | (refine o_add trivial rfl rfl rfl ?_ ?_; (omega)) | refine o_pv trivial rfl rfl ?_
        refine o_sliceS3 trivial rfl Tryd.underlying9 rfl rfl rfl (by omega) ?_
        refine o_buildS trivial rfl (bld45) rfl (.cons rfl rfl rfl (by repeat constructor) (.cons rfl rfl rfl (by repeat constructor) .nil)) ?_
        refine o_pv trivial rfl rfl ?_
        refine o_pv trivial rfl rfl ?_
        first | (refine o_add trivial rfl rfl rfl ?_ ?_; (omega)) | refine o_pv trivial rfl rfl ?_
        refine o_store trivial rfl rfl rfl Tryd.sizeOf45 rfl rfl (by first | exact .here | exact .there .here | exact .there (.there .here) | exact .there (.there (.there .here)) | exact .there (.there (.there (.there .here))) | exact .there (.there (.there (.there (.there .here))))) (by repeat constructor) ?_
        refine o_pv trivial rfl rfl ?_
        refine o_pv trivial rfl rfl ?_
        refine o_nil ?_
        refine then_c ?_
        refine c_ret ?_
        refine blk_r ?_
        refine then_r ?_
        refine retR rfl (.agg Tryd.isAgg45 Tryd.sizeOf45 rfl (by first | exact .head _ | exact .tail _ (.head _) | exact .tail _ (.tail _ (.head _)) | exact .tail _ (.tail _ (.tail _ (.head _))) | exact .tail _ (.tail _ (.tail _ (.tail _ (.head _)))) | exact .tail _ (.tail _ (.tail _ (.tail _ (.tail _ (.head _)))))) rfl (.tmp rfl (.tmp rfl .nil))) ?_
        refine leaf0 ?_; unfold tokZ; rw [if_neg f1, if_neg f3, if_pos f6]; rfl
      · skip
        have f6 := h6
        try simp only [Bool.or_eq_true, Bool.and_eq_true, Bool.or_eq_false_iff, Bool.and_eq_false_iff, decide_eq_true_eq, decide_eq_false_iff_not, beq_iff_eq, beq_eq_false_iff_ne, bne_iff_ne, bne_eq_false_iff_eq, Bool.not_eq_true', Bool.not_eq_false', ne_eq, Int.not_lt, Int.not_le, ge_iff_le, gt_iff_lt] at f6
        refine c_skip ?_
        refine blk_n ?_
        refine then_c ?_
        refine c_seq ?_
        refine c_region ?_
        refine o_buildS trivial rfl (bld45) rfl .nil ?_
        refine o_pv trivial rfl rfl ?_
        refine o_store trivial rfl rfl rfl Tryd.sizeOf45 rfl rfl (by first | exact .here | exact .there .here | exact .there (.there .here) | exact .there (.there (.there .here)) | exact .there (.there (.there (.there .here))) | exact .there (.there (.there (.there (.there .here))))) (by repeat constructor) ?_
        refine o_pv trivial rfl rfl ?_
        refine o_pv trivial rfl rfl ?_
        refine o_nil ?_
        refine then_c ?_
        refine c_ret ?_
        refine retR rfl (.agg Tryd.isAgg45 Tryd.sizeOf45 rfl (by first | exact .head _ | exact .tail _ (.head _) | exact .tail _ (.tail _ (.head _)) | exact .tail _ (.tail _ (.tail _ (.head _))) | exact .tail _ (.tail _ (.tail _ (.tail _ (.head _)))) | exact .tail _ (.tail _ (.tail _ (.tail _ (.tail _ (.head _)))))) rfl (.tmp rfl (.tmp rfl .nil))) ?_
        refine leaf0 ?_; unfold tokZ; rw [if_neg f1, if_neg f3, if_neg f6]; rfl
/-- What a lexer returns. -/
def LexOut (r : LexR) (v : Value) (I : Hp) : Prop := ∃ u, v = .tuple #[u, plc (r.line, r.col), .int .i64 r.err] ∧ Slc I 4 u (r.toks.map Tok.cells)
theorem rLex_any (s : ByteArray) {I : Hp} (hs : s.size ≤ 1000) : Fun Tryd.prog 28 [.string s] I [] (fun v I' _ => LexOut (lexZ s) v I') := by
  rw [lexZ_at (by omega)]
  intro w hw
  refine enter1 _ Tryd.func28 rfl Tryd.ntmps28 rfl ?_ hw
  refine c_seq ?_
  refine c_region ?_
  refine o_pv trivial rfl rfl ?_
  refine o_alloc trivial rfl Tryd.zeroValue32 rfl (fun b3 => ?_)
  refine o_pv trivial rfl rfl ?_
  refine o_nil ?_
  refine then_c ?_
  refine c_seq ?_
  refine c_seq ?_
  refine c_region ?_
  refine o_pv trivial rfl rfl ?_
  refine o_lenS trivial rfl Tryd.underlying9 rfl ?_
  refine o_pv trivial rfl rfl ?_
  refine o_nil ?_
  refine then_c ?_
  refine c_cond rfl (fun h1 => ?_) (fun h1 => ?_)
  · skip
    have f1 := h1
    try simp only [Bool.or_eq_true, Bool.and_eq_true, Bool.or_eq_false_iff, Bool.and_eq_false_iff, decide_eq_true_eq, decide_eq_false_iff_not, beq_iff_eq, beq_eq_false_iff_ne, bne_iff_ne, bne_eq_false_iff_eq, Bool.not_eq_true', Bool.not_eq_false', ne_eq, Int.not_lt, Int.not_le, ge_iff_le, gt_iff_lt] at f1
    exfalso; omega
  · skip
    have f1 := h1
    try simp only [Bool.or_eq_true, Bool.and_eq_true, Bool.or_eq_false_iff, Bool.and_eq_false_iff, decide_eq_true_eq, decide_eq_false_iff_not, beq_iff_eq, beq_eq_false_iff_ne, bne_iff_ne, bne_eq_false_iff_eq, Bool.not_eq_true', Bool.not_eq_false', ne_eq, Int.not_lt, Int.not_le, ge_iff_le, gt_iff_lt] at f1
    refine c_skip ?_
    refine then_c ?_
    refine c_seq ?_
    refine c_region ?_
    refine o_pv trivial rfl rfl ?_
    refine o_nil ?_
    refine then_c ?_
    refine c_seq ?_
    refine c_region ?_
    refine o_pv trivial rfl rfl ?_
    refine o_nil ?_
    refine then_c ?_
    refine c_seq ?_
    refine c_block ?_
    refine c_loop (ι := Nat × List Tok × Value) [0, 3] (.cons rfl (.cons rfl .nil)) (fun x => s.size - x.1) (fun x E0 => (5, x.2.2) :: (6, .int .i64 (x.1 : Int)) :: E0) (fun x => St w [] I [.row x.2.2 45 4 x.2.1.length (x.2.1.map Tok.cells).flatten, .box b3 (.cells #[.int .i64 0, .int .i64 0] 32 (0, 0))]) (fun x => x.1 ≤ s.size ∧ lexAt s 0 [] = lexAt s x.1 x.2.1 ∧ x.2.1.length ≤ 4000) ((0, [], .slice none 0 0)) (sub_cons rfl (sub_cons rfl (sub_cons rfl (sub_cons rfl sub_nil)))) (fun _ h => h.nilRow _ _) (⟨Nat.zero_le _, rfl, Nat.zero_le _⟩) ?_
    rintro ⟨i, out, u⟩ ⟨hle, hF, hout⟩
    try dsimp only
    simp only at hle hF hout
    refine c_seq ?_
    refine c_seq ?_
    refine c_region ?_
    refine o_pv trivial rfl rfl ?_
    refine o_pv trivial rfl rfl ?_
    refine o_lenS trivial rfl Tryd.underlying9 rfl ?_
    refine o_pv trivial rfl rfl ?_
    refine o_nil ?_
    refine then_c ?_
    refine c_cond rfl (fun h2 => ?_) (fun h2 => ?_)
    · skip
      have f2 := h2
      try simp only [Bool.or_eq_true, Bool.and_eq_true, Bool.or_eq_false_iff, Bool.and_eq_false_iff, decide_eq_true_eq, decide_eq_false_iff_not, beq_iff_eq, beq_eq_false_iff_ne, bne_iff_ne, bne_eq_false_iff_eq, Bool.not_eq_true', Bool.not_eq_false', ne_eq, Int.not_lt, Int.not_le, ge_iff_le, gt_iff_lt] at f2
      have hi : i < s.size := by omega
      refine c_skip ?_
      refine then_c ?_
      refine c_block ?_
      refine c_seq ?_
      refine c_region ?_
      refine o_pv trivial rfl rfl ?_
      refine o_pv trivial rfl rfl ?_
      refine o_callP trivial rfl Tryd.call46 rfl (rKind_any _ _ (by omega)) ?_
      refine o_pv trivial rfl rfl ?_
      refine o_pv trivial rfl rfl ?_
      refine o_pv trivial rfl rfl ?_
      refine o_pv trivial rfl rfl ?_
      refine o_pv trivial rfl rfl ?_
      refine o_nil ?_
      refine then_c ?_
      refine c_seq ?_
      refine c_seq ?_
      rw [kindR_in hi]
      refine c_region ?_
      refine o_pv trivial rfl rfl ?_
      refine o_pv trivial rfl rfl ?_
      refine o_nil ?_
      refine then_c ?_
      refine c_cond rfl (fun h3 => ?_) (fun h3 => ?_)
      · skip
        have f3 := h3
        try simp only [Bool.or_eq_true, Bool.and_eq_true, Bool.or_eq_false_iff, Bool.and_eq_false_iff, decide_eq_true_eq, decide_eq_false_iff_not, beq_iff_eq, beq_eq_false_iff_ne, bne_iff_ne, bne_eq_false_iff_eq, Bool.not_eq_true', Bool.not_eq_false', ne_eq, Int.not_lt, Int.not_le, ge_iff_le, gt_iff_lt] at f3
        refine c_seq ?_
        refine c_region ?_
        refine o_pv trivial rfl rfl ?_
        first | (refine o_add trivial rfl rfl rfl ?_ ?_; (omega)) | refine o_pv trivial rfl rfl ?_
        refine o_pv trivial rfl rfl ?_
        refine o_nil ?_
        refine then_c ?_
        refine c_exit ?_
        refine then_x ?_
        refine blk_eq rfl ?_
        first | exact again (i + 1, out, u) (sub_cons rfl (sub_cons rfl (sub_cons rfl (sub_cons rfl sub_nil)))) (fun _ h => h) (by show s.size - (i + 1) < s.size - i; omega) ⟨by show i + 1 ≤ s.size; omega, by show _ = lexAt s (i + 1) out; rw [hF, lexAt_open hi, if_pos f3], hout⟩ | exact again ((tokZ s i).stop, out ++ [⟨(tokZ s i).kind, (tokZ s i).text, (placeZ s i).1, (placeZ s i).2⟩], v55) (sub_cons rfl (sub_cons rfl (sub_cons rfl (sub_cons rfl sub_nil)))) (fun _ h => by simp only [flat_more, List.length_append]; exact h.sort (by repeat' first | exact Takes.nil | exact Take.here | apply Takes.cons | apply Take.there)) (by show s.size - (tokZ s i).stop < s.size - i; omega) ⟨hst.2, by rw [hF, lexAt_open hi, if_neg f3, if_neg f4', if_neg f5'], by simp only [List.length_append]; show out.length + 1 ≤ 4000; omega⟩
      · skip
        have f3 := h3
        try simp only [Bool.or_eq_true, Bool.and_eq_true, Bool.or_eq_false_iff, Bool.and_eq_false_iff, decide_eq_true_eq, decide_eq_false_iff_not, beq_iff_eq, beq_eq_false_iff_ne, bne_iff_ne, bne_eq_false_iff_eq, Bool.not_eq_true', Bool.not_eq_false', ne_eq, Int.not_lt, Int.not_le, ge_iff_le, gt_iff_lt] at f3
        refine c_skip ?_
        refine then_c ?_
        refine c_seq ?_
        refine c_seq ?_
        refine c_region ?_
        refine o_pv trivial rfl rfl ?_
        refine o_lenRow trivial rfl Tryd.underlying39 rfl (by first | exact .head _ | exact .tail _ (.head _) | exact .tail _ (.tail _ (.head _)) | exact .tail _ (.tail _ (.tail _ (.head _))) | exact .tail _ (.tail _ (.tail _ (.tail _ (.head _)))) | exact .tail _ (.tail _ (.tail _ (.tail _ (.tail _ (.head _)))))) ?_
        refine o_pv trivial rfl rfl ?_
        refine o_nil ?_
        refine then_c ?_
        refine c_cond rfl (fun h4 => ?_) (fun h4 => ?_)
        · skip
          have f4 := h4
          try simp only [Bool.or_eq_true, Bool.and_eq_true, Bool.or_eq_false_iff, Bool.and_eq_false_iff, decide_eq_true_eq, decide_eq_false_iff_not, beq_iff_eq, beq_eq_false_iff_ne, bne_iff_ne, bne_eq_false_iff_eq, Bool.not_eq_true', Bool.not_eq_false', ne_eq, Int.not_lt, Int.not_le, ge_iff_le, gt_iff_lt] at f4
          refine c_seq ?_
          refine c_region ?_
          refine o_pv trivial rfl rfl ?_
          refine o_pv trivial rfl rfl ?_
          refine o_callQ trivial rfl Tryd.call21 rfl (refPlace_any _ _ (by first | omega | decide | (simp only [ByteArray.size_append, lit_size, strOf_size, List.size_toArray, List.length_cons, List.length_nil]; omega))) ?_
          refine o_pv trivial rfl rfl ?_
          refine o_store trivial rfl rfl rfl Tryd.sizeOf32 rfl rfl (by first | exact .here | exact .there .here | exact .there (.there .here) | exact .there (.there (.there .here)) | exact .there (.there (.there (.there .here))) | exact .there (.there (.there (.there (.there .here))))) (by repeat constructor) ?_
          refine o_pv trivial rfl rfl ?_
          refine o_nil ?_
          refine then_c ?_
          refine c_ret ?_
          refine then_r ?_
          refine blk_r ?_
          refine then_r ?_
          refine blk_r ?_
          refine then_r ?_
          refine retR rfl (.tmp rfl (.agg Tryd.isAgg32 Tryd.sizeOf32 rfl (by first | exact .head _ | exact .tail _ (.head _) | exact .tail _ (.tail _ (.head _)) | exact .tail _ (.tail _ (.tail _ (.head _))) | exact .tail _ (.tail _ (.tail _ (.tail _ (.head _)))) | exact .tail _ (.tail _ (.tail _ (.tail _ (.tail _ (.head _)))))) rfl (.tmp rfl .nil))) ?_
          refine leaf (Ext.refl _ _) (List.nil_sublist _) ?_; rw [hF, lexAt_open hi, if_neg f3, if_pos (by omega)]; exact ⟨_, rfl, Slc.nil _ _⟩
        · skip
          have f4 := h4
          try simp only [Bool.or_eq_true, Bool.and_eq_true, Bool.or_eq_false_iff, Bool.and_eq_false_iff, decide_eq_true_eq, decide_eq_false_iff_not, beq_iff_eq, beq_eq_false_iff_ne, bne_iff_ne, bne_eq_false_iff_eq, Bool.not_eq_true', Bool.not_eq_false', ne_eq, Int.not_lt, Int.not_le, ge_iff_le, gt_iff_lt] at f4
          have f4' : ¬ 4000 ≤ out.length := by omega
          refine c_skip ?_
          refine then_c ?_
          refine c_seq ?_
          refine c_region ?_
          refine o_pv trivial rfl rfl ?_
          refine o_pv trivial rfl rfl ?_
          refine o_callQ trivial rfl Tryd.call47 rfl (rToken_any _ _ (by omega) (by omega)) ?_
          refine o_pv trivial rfl rfl ?_
          refine o_pv trivial rfl rfl ?_
          refine o_pv trivial rfl rfl ?_
          refine o_pv trivial rfl rfl ?_
          refine o_alloc trivial rfl Tryd.zeroValue45 rfl (fun b9 => ?_)
          refine o_store trivial rfl rfl rfl Tryd.sizeOf45 rfl rfl (by first | exact .here | exact .there .here | exact .there (.there .here) | exact .there (.there (.there .here)) | exact .there (.there (.there (.there .here))) | exact .there (.there (.there (.there (.there .here))))) (by repeat constructor) ?_
          refine o_pv trivial rfl rfl ?_
          refine o_pv trivial rfl rfl ?_
          refine o_nil ?_
          refine then_c ?_
          refine c_seq ?_
          refine c_region ?_
          refine o_pv trivial rfl rfl ?_
          refine o_pv trivial rfl rfl ?_
          refine o_callQ trivial rfl Tryd.call21 rfl (refPlace_any _ _ (by first | omega | decide | (simp only [ByteArray.size_append, lit_size, strOf_size, List.size_toArray, List.length_cons, List.length_nil]; omega))) ?_
          refine o_fieldAddr (T := 32) (off := 2) trivial rfl Tryd.underlying45 rfl rfl rfl Tryd.sizeOf32 rfl rfl ?_
          refine o_store trivial rfl rfl rfl Tryd.sizeOf32 rfl rfl (by first | exact .here | exact .there .here | exact .there (.there .here) | exact .there (.there (.there .here)) | exact .there (.there (.there (.there .here))) | exact .there (.there (.there (.there (.there .here))))) (by repeat constructor) ?_
          refine o_nil ?_
          refine then_c ?_
          refine c_seq ?_
          refine c_seq ?_
          refine c_region ?_
          refine o_pv trivial rfl rfl ?_
          refine o_pv trivial rfl rfl ?_
          refine o_nil ?_
          refine then_c ?_
          refine c_cond rfl (fun h5 => ?_) (fun h5 => ?_)
          · skip
            have f5 := h5
            try simp only [Bool.or_eq_true, Bool.and_eq_true, Bool.or_eq_false_iff, Bool.and_eq_false_iff, decide_eq_true_eq, decide_eq_false_iff_not, beq_iff_eq, beq_eq_false_iff_ne, bne_iff_ne, bne_eq_false_iff_eq, Bool.not_eq_true', Bool.not_eq_false', ne_eq, Int.not_lt, Int.not_le, ge_iff_le, gt_iff_lt] at f5
            refine c_seq ?_
            refine c_any (m := 6) (by kernel_rfl) rfl (fun _ h => h.drawn) ?_
            refine a_go [0, 2, 3] (by kernel_rfl) rfl (TWs.cons ?_ (TWs.cons ?_ (TWs.cons ?_ TWs.nil)))
            · skip
              refine a_op #[true, false, false, false, false, false] rfl rfl ?_
              refine o_fieldAddr (T := 32) (off := 2) trivial rfl Tryd.underlying45 rfl rfl rfl Tryd.sizeOf32 rfl rfl ?_
              refine o_nil ?_
              refine a_next ?_
              refine a_go [1, 2, 3] (by kernel_rfl) rfl (TWs.cons ?_ (TWs.cons ?_ (TWs.cons ?_ TWs.nil)))
              · skip
                refine a_op #[true, true, false, false, false, false] rfl rfl ?_
                refine o_loadA trivial rfl Tryd.isAgg32 Tryd.sizeOf32 rfl (by first | exact .head _ | exact .tail _ (.head _) | exact .tail _ (.tail _ (.head _)) | exact .tail _ (.tail _ (.tail _ (.head _))) | exact .tail _ (.tail _ (.tail _ (.tail _ (.head _)))) | exact .tail _ (.tail _ (.tail _ (.tail _ (.tail _ (.head _)))))) (by repeat constructor) ?_
                refine o_nil ?_
                refine a_next ?_
                refine a_go [2, 3] (by kernel_rfl) rfl (TWs.cons ?_ (TWs.cons ?_ TWs.nil))
                · skip
                  refine a_op #[true, true, true, false, false, false] rfl rfl ?_
                  refine o_pv trivial rfl rfl ?_
                  refine o_nil ?_
                  refine a_next ?_
                  refine a_go [3] (by kernel_rfl) rfl (TWs.cons ?_ TWs.nil)
                  · skip
                    refine a_op #[true, true, true, true, false, false] rfl rfl ?_
                    refine o_pv trivial rfl rfl ?_
                    refine o_nil ?_
                    refine a_next ?_
                    refine a_go [4] (by kernel_rfl) rfl (TWs.cons ?_ TWs.nil)
                    · skip
                      refine a_op #[true, true, true, true, true, false] rfl rfl ?_
                      refine o_store trivial rfl rfl rfl Tryd.sizeOf32 rfl rfl (by first | exact .here | exact .there .here | exact .there (.there .here) | exact .there (.there (.there .here)) | exact .there (.there (.there (.there .here))) | exact .there (.there (.there (.there (.there .here))))) (by repeat constructor) ?_
                      refine o_nil ?_
                      refine a_next ?_
                      refine a_go [5] (by kernel_rfl) rfl (TWs.cons ?_ TWs.nil)
                      · skip
                        refine a_op #[true, true, true, true, true, true] rfl rfl ?_
                        refine o_pv trivial rfl rfl ?_
                        refine o_nil ?_
                        refine a_next ?_
                        refine a_end (by kernel_rfl) ?_
                        refine then_c ?_
                        refine c_ret ?_
                        refine then_r ?_
                        refine blk_r ?_
                        refine then_r ?_
                        refine blk_r ?_
                        refine then_r ?_
                        refine retR rfl (.tmp rfl (.agg Tryd.isAgg32 Tryd.sizeOf32 rfl (by first | exact .head _ | exact .tail _ (.head _) | exact .tail _ (.tail _ (.head _)) | exact .tail _ (.tail _ (.tail _ (.head _))) | exact .tail _ (.tail _ (.tail _ (.tail _ (.head _)))) | exact .tail _ (.tail _ (.tail _ (.tail _ (.tail _ (.head _)))))) rfl (.tmp rfl .nil))) ?_
                        refine leaf (Ext.refl _ _) (List.nil_sublist _) ?_; rw [hF, lexAt_open hi, if_neg f3, if_neg f4', if_pos (by omega)]; exact ⟨_, rfl, Slc.nil _ _⟩
                · skip
                  refine a_op #[true, true, false, true, false, false] rfl rfl ?_
                  refine o_pv trivial rfl rfl ?_
                  refine o_nil ?_
                  refine a_next ?_
                  refine a_go [2, 4] (by kernel_rfl) rfl (TWs.cons ?_ (TWs.cons ?_ TWs.nil))
                  · skip
                    refine a_op #[true, true, true, true, false, false] rfl rfl ?_
                    refine o_pv trivial rfl rfl ?_
                    refine o_nil ?_
                    refine a_next ?_
                    refine a_go [4] (by kernel_rfl) rfl (TWs.cons ?_ TWs.nil)
                    · skip
                      refine a_op #[true, true, true, true, true, false] rfl rfl ?_
                      refine o_store trivial rfl rfl rfl Tryd.sizeOf32 rfl rfl (by first | exact .here | exact .there .here | exact .there (.there .here) | exact .there (.there (.there .here)) | exact .there (.there (.there (.there .here))) | exact .there (.there (.there (.there (.there .here))))) (by repeat constructor) ?_
                      refine o_nil ?_
                      refine a_next ?_
                      refine a_go [5] (by kernel_rfl) rfl (TWs.cons ?_ TWs.nil)
                      · skip
                        refine a_op #[true, true, true, true, true, true] rfl rfl ?_
                        refine o_pv trivial rfl rfl ?_
                        refine o_nil ?_
                        refine a_next ?_
                        refine a_end (by kernel_rfl) ?_
                        refine then_c ?_
                        refine c_ret ?_
                        refine then_r ?_
                        refine blk_r ?_
                        refine then_r ?_
                        refine blk_r ?_
                        refine then_r ?_
                        refine retR rfl (.tmp rfl (.agg Tryd.isAgg32 Tryd.sizeOf32 rfl (by first | exact .head _ | exact .tail _ (.head _) | exact .tail _ (.tail _ (.head _)) | exact .tail _ (.tail _ (.tail _ (.head _))) | exact .tail _ (.tail _ (.tail _ (.tail _ (.head _)))) | exact .tail _ (.tail _ (.tail _ (.tail _ (.tail _ (.head _)))))) rfl (.tmp rfl .nil))) ?_
                        refine leaf (Ext.refl _ _) (List.nil_sublist _) ?_; rw [hF, lexAt_open hi, if_neg f3, if_neg f4', if_pos (by omega)]; exact ⟨_, rfl, Slc.nil _ _⟩
                  · skip
                    refine a_op #[true, true, false, true, true, false] rfl rfl ?_
                    refine o_store trivial rfl rfl rfl Tryd.sizeOf32 rfl rfl (by first | exact .here | exact .there .here | exact .there (.there .here) | exact .there (.there (.there .here)) | exact .there (.there (.there (.there .here))) | exact .there (.there (.there (.there (.there .here))))) (by repeat constructor) ?_
                    refine o_nil ?_
                    refine a_next ?_
                    refine a_go [2] (by kernel_rfl) rfl (TWs.cons ?_ TWs.nil)
                    · skip
                      refine a_op #[true, true, true, true, true, false] rfl rfl ?_
                      refine o_pv trivial rfl rfl ?_
                      refine o_nil ?_
                      refine a_next ?_
                      refine a_go [5] (by kernel_rfl) rfl (TWs.cons ?_ TWs.nil)
                      · skip
                        refine a_op #[true, true, true, true, true, true] rfl rfl ?_
                        refine o_pv trivial rfl rfl ?_
                        refine o_nil ?_
                        refine a_next ?_
                        refine a_end (by kernel_rfl) ?_
                        refine then_c ?_
                        refine c_ret ?_
                        refine then_r ?_
                        refine blk_r ?_
                        refine then_r ?_
                        refine blk_r ?_
                        refine then_r ?_
                        refine retR rfl (.tmp rfl (.agg Tryd.isAgg32 Tryd.sizeOf32 rfl (by first | exact .head _ | exact .tail _ (.head _) | exact .tail _ (.tail _ (.head _)) | exact .tail _ (.tail _ (.tail _ (.head _))) | exact .tail _ (.tail _ (.tail _ (.tail _ (.head _)))) | exact .tail _ (.tail _ (.tail _ (.tail _ (.tail _ (.head _)))))) rfl (.tmp rfl .nil))) ?_
                        refine leaf (Ext.refl _ _) (List.nil_sublist _) ?_; rw [hF, lexAt_open hi, if_neg f3, if_neg f4', if_pos (by omega)]; exact ⟨_, rfl, Slc.nil _ _⟩
              · skip
                refine a_op #[true, false, true, false, false, false] rfl rfl ?_
                refine o_pv trivial rfl rfl ?_
                refine o_nil ?_
                refine a_next ?_
                refine a_go [1, 3] (by kernel_rfl) rfl (TWs.cons ?_ (TWs.cons ?_ TWs.nil))
                · skip
                  refine a_op #[true, true, true, false, false, false] rfl rfl ?_
                  refine o_loadA trivial rfl Tryd.isAgg32 Tryd.sizeOf32 rfl (by first | exact .head _ | exact .tail _ (.head _) | exact .tail _ (.tail _ (.head _)) | exact .tail _ (.tail _ (.tail _ (.head _))) | exact .tail _ (.tail _ (.tail _ (.tail _ (.head _)))) | exact .tail _ (.tail _ (.tail _ (.tail _ (.tail _ (.head _)))))) (by repeat constructor) ?_
                  refine o_nil ?_
                  refine a_next ?_
                  refine a_go [3] (by kernel_rfl) rfl (TWs.cons ?_ TWs.nil)
                  · skip
                    refine a_op #[true, true, true, true, false, false] rfl rfl ?_
                    refine o_pv trivial rfl rfl ?_
                    refine o_nil ?_
                    refine a_next ?_
                    refine a_go [4] (by kernel_rfl) rfl (TWs.cons ?_ TWs.nil)
                    · skip
                      refine a_op #[true, true, true, true, true, false] rfl rfl ?_
                      refine o_store trivial rfl rfl rfl Tryd.sizeOf32 rfl rfl (by first | exact .here | exact .there .here | exact .there (.there .here) | exact .there (.there (.there .here)) | exact .there (.there (.there (.there .here))) | exact .there (.there (.there (.there (.there .here))))) (by repeat constructor) ?_
                      refine o_nil ?_
                      refine a_next ?_
                      refine a_go [5] (by kernel_rfl) rfl (TWs.cons ?_ TWs.nil)
                      · skip
                        refine a_op #[true, true, true, true, true, true] rfl rfl ?_
                        refine o_pv trivial rfl rfl ?_
                        refine o_nil ?_
                        refine a_next ?_
                        refine a_end (by kernel_rfl) ?_
                        refine then_c ?_
                        refine c_ret ?_
                        refine then_r ?_
                        refine blk_r ?_
                        refine then_r ?_
                        refine blk_r ?_
                        refine then_r ?_
                        refine retR rfl (.tmp rfl (.agg Tryd.isAgg32 Tryd.sizeOf32 rfl (by first | exact .head _ | exact .tail _ (.head _) | exact .tail _ (.tail _ (.head _)) | exact .tail _ (.tail _ (.tail _ (.head _))) | exact .tail _ (.tail _ (.tail _ (.tail _ (.head _)))) | exact .tail _ (.tail _ (.tail _ (.tail _ (.tail _ (.head _)))))) rfl (.tmp rfl .nil))) ?_
                        refine leaf (Ext.refl _ _) (List.nil_sublist _) ?_; rw [hF, lexAt_open hi, if_neg f3, if_neg f4', if_pos (by omega)]; exact ⟨_, rfl, Slc.nil _ _⟩
                · skip
                  refine a_op #[true, false, true, true, false, false] rfl rfl ?_
                  refine o_pv trivial rfl rfl ?_
                  refine o_nil ?_
                  refine a_next ?_
                  refine a_go [1] (by kernel_rfl) rfl (TWs.cons ?_ TWs.nil)
                  · skip
                    refine a_op #[true, true, true, true, false, false] rfl rfl ?_
                    refine o_loadA trivial rfl Tryd.isAgg32 Tryd.sizeOf32 rfl (by first | exact .head _ | exact .tail _ (.head _) | exact .tail _ (.tail _ (.head _)) | exact .tail _ (.tail _ (.tail _ (.head _))) | exact .tail _ (.tail _ (.tail _ (.tail _ (.head _)))) | exact .tail _ (.tail _ (.tail _ (.tail _ (.tail _ (.head _)))))) (by repeat constructor) ?_
                    refine o_nil ?_
                    refine a_next ?_
                    refine a_go [4] (by kernel_rfl) rfl (TWs.cons ?_ TWs.nil)
                    · skip
                      refine a_op #[true, true, true, true, true, false] rfl rfl ?_
                      refine o_store trivial rfl rfl rfl Tryd.sizeOf32 rfl rfl (by first | exact .here | exact .there .here | exact .there (.there .here) | exact .there (.there (.there .here)) | exact .there (.there (.there (.there .here))) | exact .there (.there (.there (.there (.there .here))))) (by repeat constructor) ?_
                      refine o_nil ?_
                      refine a_next ?_
                      refine a_go [5] (by kernel_rfl) rfl (TWs.cons ?_ TWs.nil)
                      · skip
                        refine a_op #[true, true, true, true, true, true] rfl rfl ?_
                        refine o_pv trivial rfl rfl ?_
                        refine o_nil ?_
                        refine a_next ?_
                        refine a_end (by kernel_rfl) ?_
                        refine then_c ?_
                        refine c_ret ?_
                        refine then_r ?_
                        refine blk_r ?_
                        refine then_r ?_
                        refine blk_r ?_
                        refine then_r ?_
                        refine retR rfl (.tmp rfl (.agg Tryd.isAgg32 Tryd.sizeOf32 rfl (by first | exact .head _ | exact .tail _ (.head _) | exact .tail _ (.tail _ (.head _)) | exact .tail _ (.tail _ (.tail _ (.head _))) | exact .tail _ (.tail _ (.tail _ (.tail _ (.head _)))) | exact .tail _ (.tail _ (.tail _ (.tail _ (.tail _ (.head _)))))) rfl (.tmp rfl .nil))) ?_
                        refine leaf (Ext.refl _ _) (List.nil_sublist _) ?_; rw [hF, lexAt_open hi, if_neg f3, if_neg f4', if_pos (by omega)]; exact ⟨_, rfl, Slc.nil _ _⟩
              · skip
                refine a_op #[true, false, false, true, false, false] rfl rfl ?_
                refine o_pv trivial rfl rfl ?_
                refine o_nil ?_
                refine a_next ?_
                refine a_go [1, 2] (by kernel_rfl) rfl (TWs.cons ?_ (TWs.cons ?_ TWs.nil))
                · skip
                  refine a_op #[true, true, false, true, false, false] rfl rfl ?_
                  refine o_loadA trivial rfl Tryd.isAgg32 Tryd.sizeOf32 rfl (by first | exact .head _ | exact .tail _ (.head _) | exact .tail _ (.tail _ (.head _)) | exact .tail _ (.tail _ (.tail _ (.head _))) | exact .tail _ (.tail _ (.tail _ (.tail _ (.head _)))) | exact .tail _ (.tail _ (.tail _ (.tail _ (.tail _ (.head _)))))) (by repeat constructor) ?_
                  refine o_nil ?_
                  refine a_next ?_
                  refine a_go [2, 4] (by kernel_rfl) rfl (TWs.cons ?_ (TWs.cons ?_ TWs.nil))
                  · skip
                    refine a_op #[true, true, true, true, false, false] rfl rfl ?_
                    refine o_pv trivial rfl rfl ?_
                    refine o_nil ?_
                    refine a_next ?_
                    refine a_go [4] (by kernel_rfl) rfl (TWs.cons ?_ TWs.nil)
                    · skip
                      refine a_op #[true, true, true, true, true, false] rfl rfl ?_
                      refine o_store trivial rfl rfl rfl Tryd.sizeOf32 rfl rfl (by first | exact .here | exact .there .here | exact .there (.there .here) | exact .there (.there (.there .here)) | exact .there (.there (.there (.there .here))) | exact .there (.there (.there (.there (.there .here))))) (by repeat constructor) ?_
                      refine o_nil ?_
                      refine a_next ?_
                      refine a_go [5] (by kernel_rfl) rfl (TWs.cons ?_ TWs.nil)
                      · skip
                        refine a_op #[true, true, true, true, true, true] rfl rfl ?_
                        refine o_pv trivial rfl rfl ?_
                        refine o_nil ?_
                        refine a_next ?_
                        refine a_end (by kernel_rfl) ?_
                        refine then_c ?_
                        refine c_ret ?_
                        refine then_r ?_
                        refine blk_r ?_
                        refine then_r ?_
                        refine blk_r ?_
                        refine then_r ?_
                        refine retR rfl (.tmp rfl (.agg Tryd.isAgg32 Tryd.sizeOf32 rfl (by first | exact .head _ | exact .tail _ (.head _) | exact .tail _ (.tail _ (.head _)) | exact .tail _ (.tail _ (.tail _ (.head _))) | exact .tail _ (.tail _ (.tail _ (.tail _ (.head _)))) | exact .tail _ (.tail _ (.tail _ (.tail _ (.tail _ (.head _)))))) rfl (.tmp rfl .nil))) ?_
                        refine leaf (Ext.refl _ _) (List.nil_sublist _) ?_; rw [hF, lexAt_open hi, if_neg f3, if_neg f4', if_pos (by omega)]; exact ⟨_, rfl, Slc.nil _ _⟩
                  · skip
                    refine a_op #[true, true, false, true, true, false] rfl rfl ?_
                    refine o_store trivial rfl rfl rfl Tryd.sizeOf32 rfl rfl (by first | exact .here | exact .there .here | exact .there (.there .here) | exact .there (.there (.there .here)) | exact .there (.there (.there (.there .here))) | exact .there (.there (.there (.there (.there .here))))) (by repeat constructor) ?_
                    refine o_nil ?_
                    refine a_next ?_
                    refine a_go [2] (by kernel_rfl) rfl (TWs.cons ?_ TWs.nil)
                    · skip
                      refine a_op #[true, true, true, true, true, false] rfl rfl ?_
                      refine o_pv trivial rfl rfl ?_
                      refine o_nil ?_
                      refine a_next ?_
                      refine a_go [5] (by kernel_rfl) rfl (TWs.cons ?_ TWs.nil)
                      · skip
                        refine a_op #[true, true, true, true, true, true] rfl rfl ?_
                        refine o_pv trivial rfl rfl ?_
                        refine o_nil ?_
                        refine a_next ?_
                        refine a_end (by kernel_rfl) ?_
                        refine then_c ?_
                        refine c_ret ?_
                        refine then_r ?_
                        refine blk_r ?_
                        refine then_r ?_
                        refine blk_r ?_
                        refine then_r ?_
                        refine retR rfl (.tmp rfl (.agg Tryd.isAgg32 Tryd.sizeOf32 rfl (by first | exact .head _ | exact .tail _ (.head _) | exact .tail _ (.tail _ (.head _)) | exact .tail _ (.tail _ (.tail _ (.head _))) | exact .tail _ (.tail _ (.tail _ (.tail _ (.head _)))) | exact .tail _ (.tail _ (.tail _ (.tail _ (.tail _ (.head _)))))) rfl (.tmp rfl .nil))) ?_
                        refine leaf (Ext.refl _ _) (List.nil_sublist _) ?_; rw [hF, lexAt_open hi, if_neg f3, if_neg f4', if_pos (by omega)]; exact ⟨_, rfl, Slc.nil _ _⟩
                · skip
                  refine a_op #[true, false, true, true, false, false] rfl rfl ?_
                  refine o_pv trivial rfl rfl ?_
                  refine o_nil ?_
                  refine a_next ?_
                  refine a_go [1] (by kernel_rfl) rfl (TWs.cons ?_ TWs.nil)
                  · skip
                    refine a_op #[true, true, true, true, false, false] rfl rfl ?_
                    refine o_loadA trivial rfl Tryd.isAgg32 Tryd.sizeOf32 rfl (by first | exact .head _ | exact .tail _ (.head _) | exact .tail _ (.tail _ (.head _)) | exact .tail _ (.tail _ (.tail _ (.head _))) | exact .tail _ (.tail _ (.tail _ (.tail _ (.head _)))) | exact .tail _ (.tail _ (.tail _ (.tail _ (.tail _ (.head _)))))) (by repeat constructor) ?_
                    refine o_nil ?_
                    refine a_next ?_
                    refine a_go [4] (by kernel_rfl) rfl (TWs.cons ?_ TWs.nil)
                    · skip
                      refine a_op #[true, true, true, true, true, false] rfl rfl ?_
                      refine o_store trivial rfl rfl rfl Tryd.sizeOf32 rfl rfl (by first | exact .here | exact .there .here | exact .there (.there .here) | exact .there (.there (.there .here)) | exact .there (.there (.there (.there .here))) | exact .there (.there (.there (.there (.there .here))))) (by repeat constructor) ?_
                      refine o_nil ?_
                      refine a_next ?_
                      refine a_go [5] (by kernel_rfl) rfl (TWs.cons ?_ TWs.nil)
                      · skip
                        refine a_op #[true, true, true, true, true, true] rfl rfl ?_
                        refine o_pv trivial rfl rfl ?_
                        refine o_nil ?_
                        refine a_next ?_
                        refine a_end (by kernel_rfl) ?_
                        refine then_c ?_
                        refine c_ret ?_
                        refine then_r ?_
                        refine blk_r ?_
                        refine then_r ?_
                        refine blk_r ?_
                        refine then_r ?_
                        refine retR rfl (.tmp rfl (.agg Tryd.isAgg32 Tryd.sizeOf32 rfl (by first | exact .head _ | exact .tail _ (.head _) | exact .tail _ (.tail _ (.head _)) | exact .tail _ (.tail _ (.tail _ (.head _))) | exact .tail _ (.tail _ (.tail _ (.tail _ (.head _)))) | exact .tail _ (.tail _ (.tail _ (.tail _ (.tail _ (.head _)))))) rfl (.tmp rfl .nil))) ?_
                        refine leaf (Ext.refl _ _) (List.nil_sublist _) ?_; rw [hF, lexAt_open hi, if_neg f3, if_neg f4', if_pos (by omega)]; exact ⟨_, rfl, Slc.nil _ _⟩
            · skip
              refine a_op #[false, false, true, false, false, false] rfl rfl ?_
              refine o_pv trivial rfl rfl ?_
              refine o_nil ?_
              refine a_next ?_
              refine a_go [0, 3] (by kernel_rfl) rfl (TWs.cons ?_ (TWs.cons ?_ TWs.nil))
              · skip
                refine a_op #[true, false, true, false, false, false] rfl rfl ?_
                refine o_fieldAddr (T := 32) (off := 2) trivial rfl Tryd.underlying45 rfl rfl rfl Tryd.sizeOf32 rfl rfl ?_
                refine o_nil ?_
                refine a_next ?_
                refine a_go [1, 3] (by kernel_rfl) rfl (TWs.cons ?_ (TWs.cons ?_ TWs.nil))
                · skip
                  refine a_op #[true, true, true, false, false, false] rfl rfl ?_
                  refine o_loadA trivial rfl Tryd.isAgg32 Tryd.sizeOf32 rfl (by first | exact .head _ | exact .tail _ (.head _) | exact .tail _ (.tail _ (.head _)) | exact .tail _ (.tail _ (.tail _ (.head _))) | exact .tail _ (.tail _ (.tail _ (.tail _ (.head _)))) | exact .tail _ (.tail _ (.tail _ (.tail _ (.tail _ (.head _)))))) (by repeat constructor) ?_
                  refine o_nil ?_
                  refine a_next ?_
                  refine a_go [3] (by kernel_rfl) rfl (TWs.cons ?_ TWs.nil)
                  · skip
                    refine a_op #[true, true, true, true, false, false] rfl rfl ?_
                    refine o_pv trivial rfl rfl ?_
                    refine o_nil ?_
                    refine a_next ?_
                    refine a_go [4] (by kernel_rfl) rfl (TWs.cons ?_ TWs.nil)
                    · skip
                      refine a_op #[true, true, true, true, true, false] rfl rfl ?_
                      refine o_store trivial rfl rfl rfl Tryd.sizeOf32 rfl rfl (by first | exact .here | exact .there .here | exact .there (.there .here) | exact .there (.there (.there .here)) | exact .there (.there (.there (.there .here))) | exact .there (.there (.there (.there (.there .here))))) (by repeat constructor) ?_
                      refine o_nil ?_
                      refine a_next ?_
                      refine a_go [5] (by kernel_rfl) rfl (TWs.cons ?_ TWs.nil)
                      · skip
                        refine a_op #[true, true, true, true, true, true] rfl rfl ?_
                        refine o_pv trivial rfl rfl ?_
                        refine o_nil ?_
                        refine a_next ?_
                        refine a_end (by kernel_rfl) ?_
                        refine then_c ?_
                        refine c_ret ?_
                        refine then_r ?_
                        refine blk_r ?_
                        refine then_r ?_
                        refine blk_r ?_
                        refine then_r ?_
                        refine retR rfl (.tmp rfl (.agg Tryd.isAgg32 Tryd.sizeOf32 rfl (by first | exact .head _ | exact .tail _ (.head _) | exact .tail _ (.tail _ (.head _)) | exact .tail _ (.tail _ (.tail _ (.head _))) | exact .tail _ (.tail _ (.tail _ (.tail _ (.head _)))) | exact .tail _ (.tail _ (.tail _ (.tail _ (.tail _ (.head _)))))) rfl (.tmp rfl .nil))) ?_
                        refine leaf (Ext.refl _ _) (List.nil_sublist _) ?_; rw [hF, lexAt_open hi, if_neg f3, if_neg f4', if_pos (by omega)]; exact ⟨_, rfl, Slc.nil _ _⟩
                · skip
                  refine a_op #[true, false, true, true, false, false] rfl rfl ?_
                  refine o_pv trivial rfl rfl ?_
                  refine o_nil ?_
                  refine a_next ?_
                  refine a_go [1] (by kernel_rfl) rfl (TWs.cons ?_ TWs.nil)
                  · skip
                    refine a_op #[true, true, true, true, false, false] rfl rfl ?_
                    refine o_loadA trivial rfl Tryd.isAgg32 Tryd.sizeOf32 rfl (by first | exact .head _ | exact .tail _ (.head _) | exact .tail _ (.tail _ (.head _)) | exact .tail _ (.tail _ (.tail _ (.head _))) | exact .tail _ (.tail _ (.tail _ (.tail _ (.head _)))) | exact .tail _ (.tail _ (.tail _ (.tail _ (.tail _ (.head _)))))) (by repeat constructor) ?_
                    refine o_nil ?_
                    refine a_next ?_
                    refine a_go [4] (by kernel_rfl) rfl (TWs.cons ?_ TWs.nil)
                    · skip
                      refine a_op #[true, true, true, true, true, false] rfl rfl ?_
                      refine o_store trivial rfl rfl rfl Tryd.sizeOf32 rfl rfl (by first | exact .here | exact .there .here | exact .there (.there .here) | exact .there (.there (.there .here)) | exact .there (.there (.there (.there .here))) | exact .there (.there (.there (.there (.there .here))))) (by repeat constructor) ?_
                      refine o_nil ?_
                      refine a_next ?_
                      refine a_go [5] (by kernel_rfl) rfl (TWs.cons ?_ TWs.nil)
                      · skip
                        refine a_op #[true, true, true, true, true, true] rfl rfl ?_
                        refine o_pv trivial rfl rfl ?_
                        refine o_nil ?_
                        refine a_next ?_
                        refine a_end (by kernel_rfl) ?_
                        refine then_c ?_
                        refine c_ret ?_
                        refine then_r ?_
                        refine blk_r ?_
                        refine then_r ?_
                        refine blk_r ?_
                        refine then_r ?_
                        refine retR rfl (.tmp rfl (.agg Tryd.isAgg32 Tryd.sizeOf32 rfl (by first | exact .head _ | exact .tail _ (.head _) | exact .tail _ (.tail _ (.head _)) | exact .tail _ (.tail _ (.tail _ (.head _))) | exact .tail _ (.tail _ (.tail _ (.tail _ (.head _)))) | exact .tail _ (.tail _ (.tail _ (.tail _ (.tail _ (.head _)))))) rfl (.tmp rfl .nil))) ?_
                        refine leaf (Ext.refl _ _) (List.nil_sublist _) ?_; rw [hF, lexAt_open hi, if_neg f3, if_neg f4', if_pos (by omega)]; exact ⟨_, rfl, Slc.nil _ _⟩
              · skip
                refine a_op #[false, false, true, true, false, false] rfl rfl ?_
                refine o_pv trivial rfl rfl ?_
                refine o_nil ?_
                refine a_next ?_
                refine a_go [0] (by kernel_rfl) rfl (TWs.cons ?_ TWs.nil)
                · skip
                  refine a_op #[true, false, true, true, false, false] rfl rfl ?_
                  refine o_fieldAddr (T := 32) (off := 2) trivial rfl Tryd.underlying45 rfl rfl rfl Tryd.sizeOf32 rfl rfl ?_
                  refine o_nil ?_
                  refine a_next ?_
                  refine a_go [1] (by kernel_rfl) rfl (TWs.cons ?_ TWs.nil)
                  · skip
                    refine a_op #[true, true, true, true, false, false] rfl rfl ?_
                    refine o_loadA trivial rfl Tryd.isAgg32 Tryd.sizeOf32 rfl (by first | exact .head _ | exact .tail _ (.head _) | exact .tail _ (.tail _ (.head _)) | exact .tail _ (.tail _ (.tail _ (.head _))) | exact .tail _ (.tail _ (.tail _ (.tail _ (.head _)))) | exact .tail _ (.tail _ (.tail _ (.tail _ (.tail _ (.head _)))))) (by repeat constructor) ?_
                    refine o_nil ?_
                    refine a_next ?_
                    refine a_go [4] (by kernel_rfl) rfl (TWs.cons ?_ TWs.nil)
                    · skip
                      refine a_op #[true, true, true, true, true, false] rfl rfl ?_
                      refine o_store trivial rfl rfl rfl Tryd.sizeOf32 rfl rfl (by first | exact .here | exact .there .here | exact .there (.there .here) | exact .there (.there (.there .here)) | exact .there (.there (.there (.there .here))) | exact .there (.there (.there (.there (.there .here))))) (by repeat constructor) ?_
                      refine o_nil ?_
                      refine a_next ?_
                      refine a_go [5] (by kernel_rfl) rfl (TWs.cons ?_ TWs.nil)
                      · skip
                        refine a_op #[true, true, true, true, true, true] rfl rfl ?_
                        refine o_pv trivial rfl rfl ?_
                        refine o_nil ?_
                        refine a_next ?_
                        refine a_end (by kernel_rfl) ?_
                        refine then_c ?_
                        refine c_ret ?_
                        refine then_r ?_
                        refine blk_r ?_
                        refine then_r ?_
                        refine blk_r ?_
                        refine then_r ?_
                        refine retR rfl (.tmp rfl (.agg Tryd.isAgg32 Tryd.sizeOf32 rfl (by first | exact .head _ | exact .tail _ (.head _) | exact .tail _ (.tail _ (.head _)) | exact .tail _ (.tail _ (.tail _ (.head _))) | exact .tail _ (.tail _ (.tail _ (.tail _ (.head _)))) | exact .tail _ (.tail _ (.tail _ (.tail _ (.tail _ (.head _)))))) rfl (.tmp rfl .nil))) ?_
                        refine leaf (Ext.refl _ _) (List.nil_sublist _) ?_; rw [hF, lexAt_open hi, if_neg f3, if_neg f4', if_pos (by omega)]; exact ⟨_, rfl, Slc.nil _ _⟩
            · skip
              refine a_op #[false, false, false, true, false, false] rfl rfl ?_
              refine o_pv trivial rfl rfl ?_
              refine o_nil ?_
              refine a_next ?_
              refine a_go [0, 2] (by kernel_rfl) rfl (TWs.cons ?_ (TWs.cons ?_ TWs.nil))
              · skip
                refine a_op #[true, false, false, true, false, false] rfl rfl ?_
                refine o_fieldAddr (T := 32) (off := 2) trivial rfl Tryd.underlying45 rfl rfl rfl Tryd.sizeOf32 rfl rfl ?_
                refine o_nil ?_
                refine a_next ?_
                refine a_go [1, 2] (by kernel_rfl) rfl (TWs.cons ?_ (TWs.cons ?_ TWs.nil))
                · skip
                  refine a_op #[true, true, false, true, false, false] rfl rfl ?_
                  refine o_loadA trivial rfl Tryd.isAgg32 Tryd.sizeOf32 rfl (by first | exact .head _ | exact .tail _ (.head _) | exact .tail _ (.tail _ (.head _)) | exact .tail _ (.tail _ (.tail _ (.head _))) | exact .tail _ (.tail _ (.tail _ (.tail _ (.head _)))) | exact .tail _ (.tail _ (.tail _ (.tail _ (.tail _ (.head _)))))) (by repeat constructor) ?_
                  refine o_nil ?_
                  refine a_next ?_
                  refine a_go [2, 4] (by kernel_rfl) rfl (TWs.cons ?_ (TWs.cons ?_ TWs.nil))
                  · skip
                    refine a_op #[true, true, true, true, false, false] rfl rfl ?_
                    refine o_pv trivial rfl rfl ?_
                    refine o_nil ?_
                    refine a_next ?_
                    refine a_go [4] (by kernel_rfl) rfl (TWs.cons ?_ TWs.nil)
                    · skip
                      refine a_op #[true, true, true, true, true, false] rfl rfl ?_
                      refine o_store trivial rfl rfl rfl Tryd.sizeOf32 rfl rfl (by first | exact .here | exact .there .here | exact .there (.there .here) | exact .there (.there (.there .here)) | exact .there (.there (.there (.there .here))) | exact .there (.there (.there (.there (.there .here))))) (by repeat constructor) ?_
                      refine o_nil ?_
                      refine a_next ?_
                      refine a_go [5] (by kernel_rfl) rfl (TWs.cons ?_ TWs.nil)
                      · skip
                        refine a_op #[true, true, true, true, true, true] rfl rfl ?_
                        refine o_pv trivial rfl rfl ?_
                        refine o_nil ?_
                        refine a_next ?_
                        refine a_end (by kernel_rfl) ?_
                        refine then_c ?_
                        refine c_ret ?_
                        refine then_r ?_
                        refine blk_r ?_
                        refine then_r ?_
                        refine blk_r ?_
                        refine then_r ?_
                        refine retR rfl (.tmp rfl (.agg Tryd.isAgg32 Tryd.sizeOf32 rfl (by first | exact .head _ | exact .tail _ (.head _) | exact .tail _ (.tail _ (.head _)) | exact .tail _ (.tail _ (.tail _ (.head _))) | exact .tail _ (.tail _ (.tail _ (.tail _ (.head _)))) | exact .tail _ (.tail _ (.tail _ (.tail _ (.tail _ (.head _)))))) rfl (.tmp rfl .nil))) ?_
                        refine leaf (Ext.refl _ _) (List.nil_sublist _) ?_; rw [hF, lexAt_open hi, if_neg f3, if_neg f4', if_pos (by omega)]; exact ⟨_, rfl, Slc.nil _ _⟩
                  · skip
                    refine a_op #[true, true, false, true, true, false] rfl rfl ?_
                    refine o_store trivial rfl rfl rfl Tryd.sizeOf32 rfl rfl (by first | exact .here | exact .there .here | exact .there (.there .here) | exact .there (.there (.there .here)) | exact .there (.there (.there (.there .here))) | exact .there (.there (.there (.there (.there .here))))) (by repeat constructor) ?_
                    refine o_nil ?_
                    refine a_next ?_
                    refine a_go [2] (by kernel_rfl) rfl (TWs.cons ?_ TWs.nil)
                    · skip
                      refine a_op #[true, true, true, true, true, false] rfl rfl ?_
                      refine o_pv trivial rfl rfl ?_
                      refine o_nil ?_
                      refine a_next ?_
                      refine a_go [5] (by kernel_rfl) rfl (TWs.cons ?_ TWs.nil)
                      · skip
                        refine a_op #[true, true, true, true, true, true] rfl rfl ?_
                        refine o_pv trivial rfl rfl ?_
                        refine o_nil ?_
                        refine a_next ?_
                        refine a_end (by kernel_rfl) ?_
                        refine then_c ?_
                        refine c_ret ?_
                        refine then_r ?_
                        refine blk_r ?_
                        refine then_r ?_
                        refine blk_r ?_
                        refine then_r ?_
                        refine retR rfl (.tmp rfl (.agg Tryd.isAgg32 Tryd.sizeOf32 rfl (by first | exact .head _ | exact .tail _ (.head _) | exact .tail _ (.tail _ (.head _)) | exact .tail _ (.tail _ (.tail _ (.head _))) | exact .tail _ (.tail _ (.tail _ (.tail _ (.head _)))) | exact .tail _ (.tail _ (.tail _ (.tail _ (.tail _ (.head _)))))) rfl (.tmp rfl .nil))) ?_
                        refine leaf (Ext.refl _ _) (List.nil_sublist _) ?_; rw [hF, lexAt_open hi, if_neg f3, if_neg f4', if_pos (by omega)]; exact ⟨_, rfl, Slc.nil _ _⟩
                · skip
                  refine a_op #[true, false, true, true, false, false] rfl rfl ?_
                  refine o_pv trivial rfl rfl ?_
                  refine o_nil ?_
                  refine a_next ?_
                  refine a_go [1] (by kernel_rfl) rfl (TWs.cons ?_ TWs.nil)
                  · skip
                    refine a_op #[true, true, true, true, false, false] rfl rfl ?_
                    refine o_loadA trivial rfl Tryd.isAgg32 Tryd.sizeOf32 rfl (by first | exact .head _ | exact .tail _ (.head _) | exact .tail _ (.tail _ (.head _)) | exact .tail _ (.tail _ (.tail _ (.head _))) | exact .tail _ (.tail _ (.tail _ (.tail _ (.head _)))) | exact .tail _ (.tail _ (.tail _ (.tail _ (.tail _ (.head _)))))) (by repeat constructor) ?_
                    refine o_nil ?_
                    refine a_next ?_
                    refine a_go [4] (by kernel_rfl) rfl (TWs.cons ?_ TWs.nil)
                    · skip
                      refine a_op #[true, true, true, true, true, false] rfl rfl ?_
                      refine o_store trivial rfl rfl rfl Tryd.sizeOf32 rfl rfl (by first | exact .here | exact .there .here | exact .there (.there .here) | exact .there (.there (.there .here)) | exact .there (.there (.there (.there .here))) | exact .there (.there (.there (.there (.there .here))))) (by repeat constructor) ?_
                      refine o_nil ?_
                      refine a_next ?_
                      refine a_go [5] (by kernel_rfl) rfl (TWs.cons ?_ TWs.nil)
                      · skip
                        refine a_op #[true, true, true, true, true, true] rfl rfl ?_
                        refine o_pv trivial rfl rfl ?_
                        refine o_nil ?_
                        refine a_next ?_
                        refine a_end (by kernel_rfl) ?_
                        refine then_c ?_
                        refine c_ret ?_
                        refine then_r ?_
                        refine blk_r ?_
                        refine then_r ?_
                        refine blk_r ?_
                        refine then_r ?_
                        refine retR rfl (.tmp rfl (.agg Tryd.isAgg32 Tryd.sizeOf32 rfl (by first | exact .head _ | exact .tail _ (.head _) | exact .tail _ (.tail _ (.head _)) | exact .tail _ (.tail _ (.tail _ (.head _))) | exact .tail _ (.tail _ (.tail _ (.tail _ (.head _)))) | exact .tail _ (.tail _ (.tail _ (.tail _ (.tail _ (.head _)))))) rfl (.tmp rfl .nil))) ?_
                        refine leaf (Ext.refl _ _) (List.nil_sublist _) ?_; rw [hF, lexAt_open hi, if_neg f3, if_neg f4', if_pos (by omega)]; exact ⟨_, rfl, Slc.nil _ _⟩
              · skip
                refine a_op #[false, false, true, true, false, false] rfl rfl ?_
                refine o_pv trivial rfl rfl ?_
                refine o_nil ?_
                refine a_next ?_
                refine a_go [0] (by kernel_rfl) rfl (TWs.cons ?_ TWs.nil)
                · skip
                  refine a_op #[true, false, true, true, false, false] rfl rfl ?_
                  refine o_fieldAddr (T := 32) (off := 2) trivial rfl Tryd.underlying45 rfl rfl rfl Tryd.sizeOf32 rfl rfl ?_
                  refine o_nil ?_
                  refine a_next ?_
                  refine a_go [1] (by kernel_rfl) rfl (TWs.cons ?_ TWs.nil)
                  · skip
                    refine a_op #[true, true, true, true, false, false] rfl rfl ?_
                    refine o_loadA trivial rfl Tryd.isAgg32 Tryd.sizeOf32 rfl (by first | exact .head _ | exact .tail _ (.head _) | exact .tail _ (.tail _ (.head _)) | exact .tail _ (.tail _ (.tail _ (.head _))) | exact .tail _ (.tail _ (.tail _ (.tail _ (.head _)))) | exact .tail _ (.tail _ (.tail _ (.tail _ (.tail _ (.head _)))))) (by repeat constructor) ?_
                    refine o_nil ?_
                    refine a_next ?_
                    refine a_go [4] (by kernel_rfl) rfl (TWs.cons ?_ TWs.nil)
                    · skip
                      refine a_op #[true, true, true, true, true, false] rfl rfl ?_
                      refine o_store trivial rfl rfl rfl Tryd.sizeOf32 rfl rfl (by first | exact .here | exact .there .here | exact .there (.there .here) | exact .there (.there (.there .here)) | exact .there (.there (.there (.there .here))) | exact .there (.there (.there (.there (.there .here))))) (by repeat constructor) ?_
                      refine o_nil ?_
                      refine a_next ?_
                      refine a_go [5] (by kernel_rfl) rfl (TWs.cons ?_ TWs.nil)
                      · skip
                        refine a_op #[true, true, true, true, true, true] rfl rfl ?_
                        refine o_pv trivial rfl rfl ?_
                        refine o_nil ?_
                        refine a_next ?_
                        refine a_end (by kernel_rfl) ?_
                        refine then_c ?_
                        refine c_ret ?_
                        refine then_r ?_
                        refine blk_r ?_
                        refine then_r ?_
                        refine blk_r ?_
                        refine then_r ?_
                        refine retR rfl (.tmp rfl (.agg Tryd.isAgg32 Tryd.sizeOf32 rfl (by first | exact .head _ | exact .tail _ (.head _) | exact .tail _ (.tail _ (.head _)) | exact .tail _ (.tail _ (.tail _ (.head _))) | exact .tail _ (.tail _ (.tail _ (.tail _ (.head _)))) | exact .tail _ (.tail _ (.tail _ (.tail _ (.tail _ (.head _)))))) rfl (.tmp rfl .nil))) ?_
                        refine leaf (Ext.refl _ _) (List.nil_sublist _) ?_; rw [hF, lexAt_open hi, if_neg f3, if_neg f4', if_pos (by omega)]; exact ⟨_, rfl, Slc.nil _ _⟩
          · skip
            have f5 := h5
            try simp only [Bool.or_eq_true, Bool.and_eq_true, Bool.or_eq_false_iff, Bool.and_eq_false_iff, decide_eq_true_eq, decide_eq_false_iff_not, beq_iff_eq, beq_eq_false_iff_ne, bne_iff_ne, bne_eq_false_iff_eq, Bool.not_eq_true', Bool.not_eq_false', ne_eq, Int.not_lt, Int.not_le, ge_iff_le, gt_iff_lt] at f5
            have f5' : ¬ (tokZ s i).err ≠ 0 := by omega
            have hst := tokZ_stop hi (by omega)
            refine c_skip ?_
            refine then_c ?_
            refine c_seq ?_
            refine c_region ?_
            refine o_pv trivial rfl rfl ?_
            refine o_loadA trivial rfl Tryd.isAgg45 Tryd.sizeOf45 rfl (by first | exact .head _ | exact .tail _ (.head _) | exact .tail _ (.tail _ (.head _)) | exact .tail _ (.tail _ (.tail _ (.head _))) | exact .tail _ (.tail _ (.tail _ (.tail _ (.head _)))) | exact .tail _ (.tail _ (.tail _ (.tail _ (.tail _ (.head _)))))) (by repeat constructor) ?_
            refine o_buildSl trivial rfl Tryd.underlying39 Tryd.sizeOf45 Tryd.zeroValue45 (by decide) (by decide) rfl (by repeat first | exact rfl | constructor) rfl (fun b54 => ?_)
            refine o_appendBox trivial rfl Tryd.underlying39 (elem45) (by decide) rfl rfl (fun v' => (by first | exact .here | exact .there .here | exact .there (.there .here) | exact .there (.there (.there .here)) | exact .there (.there (.there (.there .here))) | exact .there (.there (.there (.there (.there .here)))))) (by first | exact .head _ | exact .tail _ (.head _) | exact .tail _ (.tail _ (.head _)) | exact .tail _ (.tail _ (.tail _ (.head _))) | exact .tail _ (.tail _ (.tail _ (.tail _ (.head _)))) | exact .tail _ (.tail _ (.tail _ (.tail _ (.tail _ (.head _)))))) rfl (by first | rfl | decide) (by first | omega | (unfold maxLen; omega)) (by omega) (fun v55 => ?_)
            refine o_pv trivial rfl rfl ?_
            refine o_nil ?_
            refine then_c ?_
            refine c_region ?_
            refine o_pv trivial rfl rfl ?_
            refine o_pv trivial rfl rfl ?_
            refine o_nil ?_
            refine blk_n ?_
            first | exact again (i + 1, out, u) (sub_cons rfl (sub_cons rfl (sub_cons rfl (sub_cons rfl sub_nil)))) (fun _ h => h) (by show s.size - (i + 1) < s.size - i; omega) ⟨by show i + 1 ≤ s.size; omega, by show _ = lexAt s (i + 1) out; rw [hF, lexAt_open hi, if_pos f3], hout⟩ | exact again ((tokZ s i).stop, out ++ [⟨(tokZ s i).kind, (tokZ s i).text, (placeZ s i).1, (placeZ s i).2⟩], v55) (sub_cons rfl (sub_cons rfl (sub_cons rfl (sub_cons rfl sub_nil)))) (fun _ h => by simp only [flat_more, List.length_append]; exact h.sort (by repeat' first | exact Takes.nil | exact Take.here | apply Takes.cons | apply Take.there)) (by show s.size - (tokZ s i).stop < s.size - i; omega) ⟨hst.2, by rw [hF, lexAt_open hi, if_neg f3, if_neg f4', if_neg f5'], by simp only [List.length_append]; show out.length + 1 ≤ 4000; omega⟩
    · skip
      have f2 := h2
      try simp only [Bool.or_eq_true, Bool.and_eq_true, Bool.or_eq_false_iff, Bool.and_eq_false_iff, decide_eq_true_eq, decide_eq_false_iff_not, beq_iff_eq, beq_eq_false_iff_ne, bne_iff_ne, bne_eq_false_iff_eq, Bool.not_eq_true', Bool.not_eq_false', ne_eq, Int.not_lt, Int.not_le, ge_iff_le, gt_iff_lt] at f2
      refine c_exit ?_
      refine then_x ?_
      refine then_x ?_
      refine blk_eq rfl ?_
      refine then_c ?_
      refine c_seq ?_
      refine c_region ?_
      refine o_pv trivial rfl rfl ?_
      refine o_buildS trivial rfl (bld32) rfl .nil ?_
      refine o_pv trivial rfl rfl ?_
      refine o_store trivial rfl rfl rfl Tryd.sizeOf32 rfl rfl (by first | exact .here | exact .there .here | exact .there (.there .here) | exact .there (.there (.there .here)) | exact .there (.there (.there (.there .here))) | exact .there (.there (.there (.there (.there .here))))) (by repeat constructor) ?_
      refine o_pv trivial rfl rfl ?_
      refine o_nil ?_
      refine then_c ?_
      refine c_ret ?_
      refine retR rfl (.tmp rfl (.agg Tryd.isAgg32 Tryd.sizeOf32 rfl (by first | exact .head _ | exact .tail _ (.head _) | exact .tail _ (.tail _ (.head _)) | exact .tail _ (.tail _ (.tail _ (.head _))) | exact .tail _ (.tail _ (.tail _ (.tail _ (.head _)))) | exact .tail _ (.tail _ (.tail _ (.tail _ (.tail _ (.head _)))))) rfl (.tmp rfl .nil))) ?_
      refine leafRow (by simp) (cells_len _) (by unfold maxLen; omega) (fun I' hl hs' => ?_); rw [hF, lexAt_end (by omega)]; exact ⟨_, rfl, hs'⟩
end Go.Proofs.YtmflkokhhknlaaaDoor
