/-
  Chapter 9's laws: what each returns.
-/
import Derived.Test.YtmflkokhhknlaaaDoorSign
import Derived.Test.YtmflkokhhknlaaaDoorSignPlain2
namespace Go.Proofs.YtmflkokhhknlaaaDoor
open Go Go.Tw
set_option linter.unusedVariables false
set_option linter.unusedSimpArgs false
set_option linter.unnecessarySimpa false
set_option maxHeartbeats 1000000

theorem awake_any {I : Hp} (hT : Tabs I) : Fun Tryd.prog 15 [] I [] (fun v _ _ => v = .bool true) := by
  intro w hw
  refine enter0 _ Tryd.func15 rfl Tryd.ntmps15 ?_ hw
  refine c_seq ?_
  refine c_region ?_
  refine o_pv trivial rfl rfl ?_
  refine o_nil ?_
  refine then_c ?_
  refine c_seq ?_
  refine c_region ?_
  refine o_callQ trivial rfl Tryd.call18 rfl (next_any _ _ hT) ?_
  refine o_pv trivial rfl rfl ?_
  refine o_pv trivial rfl rfl ?_
  refine o_pv trivial rfl rfl ?_
  refine o_pv trivial rfl rfl ?_
  refine o_pv trivial rfl rfl ?_
  refine o_nil ?_
  refine then_c ?_
  refine c_seq ?_
  refine c_region ?_
  refine' o_and trivial trivial rfl rfl rfl rfl rfl rfl rfl rfl (fun hb8 => ?_) ?_
  rotate_left
  · skip
    have fb8 := hb8
    try simp only [Bool.or_eq_true, Bool.and_eq_true, Bool.or_eq_false_iff, Bool.and_eq_false_iff, decide_eq_true_eq, decide_eq_false_iff_not, beq_iff_eq, beq_eq_false_iff_ne, bne_iff_ne, bne_eq_false_iff_eq, Bool.not_eq_true', Bool.not_eq_false', ne_eq, Int.not_lt, Int.not_le, ge_iff_le, gt_iff_lt] at fb8
    refine o_callP (wants_some rfl rfl hb8) rfl Tryd.call16 rfl (kind_any _) ?_
    refine o_pv (wants_some rfl rfl hb8) rfl rfl ?_
    refine o_nil ?_
    exact joins rfl
  refine o_pv trivial rfl rfl ?_
  refine o_nil ?_
  refine then_c ?_
  refine c_seq ?_
  refine c_region ?_
  refine o_pv trivial rfl rfl ?_
  refine' o_and trivial trivial rfl rfl rfl rfl rfl rfl rfl rfl (fun hb13 => ?_) ?_
  rotate_left
  · skip
    have fb13 := hb13
    try simp only [Bool.or_eq_true, Bool.and_eq_true, Bool.or_eq_false_iff, Bool.and_eq_false_iff, decide_eq_true_eq, decide_eq_false_iff_not, beq_iff_eq, beq_eq_false_iff_ne, bne_iff_ne, bne_eq_false_iff_eq, Bool.not_eq_true', Bool.not_eq_false', ne_eq, Int.not_lt, Int.not_le, ge_iff_le, gt_iff_lt] at fb13
    refine o_callQ (wants_some rfl rfl hb13) rfl Tryd.call20 rfl (place_any _ _ (by first | omega | decide | (simp only [ByteArray.size_append, lit_size, strOf_size, List.size_toArray, List.length_cons, List.length_nil]; omega))) ?_
    refine o_buildS (wants_some rfl rfl hb13) rfl (bld32) rfl (.cons rfl rfl rfl (by repeat constructor) (.cons rfl rfl rfl (by repeat constructor) .nil)) ?_
    refine o_eqlV (wants_some rfl rfl hb13) rfl rfl rfl Tryd.eqGuardType32 (EqV.struct Tryd.underlying32 Tryd.stoodInHeld32 (EqP.cons (T := 3) (o := 0) (by decide) rfl rfl (.one Tryd.isAgg3 (by repeat constructor)) (.one Tryd.isAgg3 (by repeat constructor)) (EqV.int Tryd.underlying3) (EqP.last (T := 3) (o := 1) (by decide) rfl rfl (.one Tryd.isAgg3 (by repeat constructor)) (.one Tryd.isAgg3 (by repeat constructor)) (EqV.int Tryd.underlying3)))) ?_
    refine o_nil ?_
    exact joins rfl
  refine' o_and trivial trivial rfl rfl rfl rfl rfl rfl rfl rfl (fun hb18 => ?_) ?_
  rotate_left
  · skip
    have fb18 := hb18
    try simp only [Bool.or_eq_true, Bool.and_eq_true, Bool.or_eq_false_iff, Bool.and_eq_false_iff, decide_eq_true_eq, decide_eq_false_iff_not, beq_iff_eq, beq_eq_false_iff_ne, bne_iff_ne, bne_eq_false_iff_eq, Bool.not_eq_true', Bool.not_eq_false', ne_eq, Int.not_lt, Int.not_le, ge_iff_le, gt_iff_lt] at fb18
    refine o_callQ (wants_some rfl rfl hb18) rfl Tryd.call22 rfl (name_any _ (by first | omega | decide | (simp only [ByteArray.size_append, lit_size, strOf_size, List.size_toArray, List.length_cons, List.length_nil]; omega))) ?_
    refine o_nil ?_
    exact joins rfl
  refine' o_and trivial trivial rfl rfl rfl rfl rfl rfl rfl rfl (fun hb21 => ?_) ?_
  rotate_left
  · skip
    have fb21 := hb21
    try simp only [Bool.or_eq_true, Bool.and_eq_true, Bool.or_eq_false_iff, Bool.and_eq_false_iff, decide_eq_true_eq, decide_eq_false_iff_not, beq_iff_eq, beq_eq_false_iff_ne, bne_iff_ne, bne_eq_false_iff_eq, Bool.not_eq_true', Bool.not_eq_false', ne_eq, Int.not_lt, Int.not_le, ge_iff_le, gt_iff_lt] at fb21
    refine o_callQ (wants_some rfl rfl hb21) rfl Tryd.call22 rfl (name_any _ (by first | omega | decide | (simp only [ByteArray.size_append, lit_size, strOf_size, List.size_toArray, List.length_cons, List.length_nil]; omega))) ?_
    refine o_pv (wants_some rfl rfl hb21) rfl rfl ?_
    refine o_nil ?_
    exact joins rfl
  refine' o_and trivial trivial rfl rfl rfl rfl rfl rfl rfl rfl (fun hb25 => ?_) ?_
  rotate_left
  · skip
    have fb25 := hb25
    try simp only [Bool.or_eq_true, Bool.and_eq_true, Bool.or_eq_false_iff, Bool.and_eq_false_iff, decide_eq_true_eq, decide_eq_false_iff_not, beq_iff_eq, beq_eq_false_iff_ne, bne_iff_ne, bne_eq_false_iff_eq, Bool.not_eq_true', Bool.not_eq_false', ne_eq, Int.not_lt, Int.not_le, ge_iff_le, gt_iff_lt] at fb25
    refine o_callQ (wants_some rfl rfl hb25) rfl Tryd.call22 rfl (name_any _ (by first | omega | decide | (simp only [ByteArray.size_append, lit_size, strOf_size, List.size_toArray, List.length_cons, List.length_nil]; omega))) ?_
    refine o_pv (wants_some rfl rfl hb25) rfl rfl ?_
    refine o_nil ?_
    exact joins rfl
  refine' o_and trivial trivial rfl rfl rfl rfl rfl rfl rfl rfl (fun hb29 => ?_) ?_
  rotate_left
  · skip
    have fb29 := hb29
    try simp only [Bool.or_eq_true, Bool.and_eq_true, Bool.or_eq_false_iff, Bool.and_eq_false_iff, decide_eq_true_eq, decide_eq_false_iff_not, beq_iff_eq, beq_eq_false_iff_ne, bne_iff_ne, bne_eq_false_iff_eq, Bool.not_eq_true', Bool.not_eq_false', ne_eq, Int.not_lt, Int.not_le, ge_iff_le, gt_iff_lt] at fb29
    refine o_callP (wants_some rfl rfl hb29) rfl Tryd.call24 rfl (key_any _) ?_
    refine o_nil ?_
    exact joins rfl
  refine' o_and trivial trivial rfl rfl rfl rfl rfl rfl rfl rfl (fun hb32 => ?_) ?_
  rotate_left
  · skip
    refine o_pv (wants_some rfl rfl hb32) rfl rfl ?_
    refine o_pv (wants_some rfl rfl hb32) rfl rfl ?_
    refine o_nil ?_
    exact joins rfl
  refine' o_and trivial trivial rfl rfl rfl rfl rfl rfl rfl rfl (fun hb36 => ?_) ?_
  rotate_left
  · skip
    refine o_pv (wants_some rfl rfl hb36) rfl rfl ?_
    refine o_pv (wants_some rfl rfl hb36) rfl rfl ?_
    refine o_nil ?_
    exact joins rfl
  refine o_pv trivial rfl rfl ?_
  refine o_nil ?_
  refine then_c ?_
  refine c_ret ?_
  refine ret1 rfl rfl ?_
  refine leaf0 (congrArg Value.bool ?_); unfold nameZ keyZ; simp only [ByteArray.toList_eq]; kernel_rfl
theorem nextZ_fit (s : ByteArray) (i : Int) : 0 ≤ (nextZ s i).1 ∧ (nextZ s i).1 ≤ 1114111 ∧ 0 ≤ (nextZ s i).2 ∧ (nextZ s i).2 ≤ 4 := by
  unfold nextZ
  have h := rune_le s i.toNat; have h2 := width_pos s i.toNat
  split <;> simp <;> omega
theorem wrap_fit {i : Int} (h : 0 ≤ i ∧ i ≤ 1114111) : IntKind.i64.wrap i = i := IntWalk.i64_in _ (by omega)

theorem SignKinds_any (r : Int) {I : Hp} (hT : Tabs I) (hr : -2147483648 ≤ r ∧ r ≤ 2147483647) : Fun Tryd.prog 3 [.int .i32 r] I [] (fun v _ _ => v = .bool true) := by
  intro w hw
  refine enter1 _ Tryd.func3 rfl Tryd.ntmps3 rfl ?_ hw
  refine c_seq ?_
  refine c_region ?_
  refine o_pv trivial rfl rfl ?_
  refine o_nil ?_
  refine then_c ?_
  refine c_seq ?_
  refine c_region ?_
  refine o_callQ trivial rfl Tryd.call15 rfl (awake_any hT) ?_
  refine o_pv trivial rfl rfl ?_
  refine o_nil ?_
  refine then_c ?_
  refine c_seq ?_
  refine c_region ?_
  refine o_pv trivial rfl rfl ?_
  refine' o_and trivial trivial rfl rfl rfl rfl rfl rfl rfl rfl (fun hb6 => ?_) ?_
  rotate_left
  · skip
    have fb6 := hb6
    try simp only [Bool.or_eq_true, Bool.and_eq_true, Bool.or_eq_false_iff, Bool.and_eq_false_iff, decide_eq_true_eq, decide_eq_false_iff_not, beq_iff_eq, beq_eq_false_iff_ne, bne_iff_ne, bne_eq_false_iff_eq, Bool.not_eq_true', Bool.not_eq_false', ne_eq, Int.not_lt, Int.not_le, ge_iff_le, gt_iff_lt] at fb6
    refine o_pv (wants_some rfl rfl hb6) rfl rfl ?_
    refine o_callP (wants_some rfl rfl hb6) rfl Tryd.call16 rfl (kind_any _) ?_
    refine o_pv (wants_some rfl rfl hb6) rfl rfl ?_
    first | refine o_convIn (wants_some rfl rfl hb6) rfl Tryd.underlying21 Tryd.underlying3 rfl (by rw [IntWalk.i64_in _ (by omega)]) ?_ | refine o_conv (wants_some rfl rfl hb6) rfl Tryd.underlying21 Tryd.underlying3 rfl ?_
    refine o_callP (wants_some rfl rfl hb6) rfl Tryd.call17 rfl (refKind_any _) ?_
    refine o_pv (wants_some rfl rfl hb6) rfl rfl ?_
    refine o_nil ?_
    exact joins rfl
  refine o_pv trivial rfl rfl ?_
  refine o_nil ?_
  refine then_c ?_
  refine c_ret ?_
  refine ret1 rfl rfl ?_
  refine leaf0 ?_; simp
theorem SignNext_any (s : ByteArray) (at_ : Int) {I : Hp} (hT : Tabs I) : Fun Tryd.prog 4 [.string s, .int .i64 at_] I [] (fun v _ _ => v = .bool true) := by
  intro w hw
  refine enter2 _ Tryd.func4 rfl Tryd.ntmps4 rfl ?_ hw
  refine c_seq ?_
  refine c_region ?_
  refine o_pv trivial rfl rfl ?_
  refine o_nil ?_
  refine then_c ?_
  refine c_seq ?_
  refine c_region ?_
  refine o_callQ trivial rfl Tryd.call15 rfl (awake_any hT) ?_
  refine o_pv trivial rfl rfl ?_
  refine o_nil ?_
  refine then_c ?_
  refine c_seq ?_
  refine c_seq ?_
  refine c_region ?_
  refine o_pv trivial rfl rfl ?_
  refine o_lenS trivial rfl Tryd.underlying9 rfl ?_
  refine o_pv trivial rfl rfl ?_
  refine o_nil ?_
  refine then_c ?_
  refine c_cond rfl (fun h1 => ?_) (fun h1 => ?_)
  · skip
    have f1 := h1
    try simp only [Bool.or_eq_true, Bool.and_eq_true, Bool.or_eq_false_iff, Bool.and_eq_false_iff, decide_eq_true_eq, decide_eq_false_iff_not, beq_iff_eq, beq_eq_false_iff_ne, bne_iff_ne, bne_eq_false_iff_eq, Bool.not_eq_true', Bool.not_eq_false', ne_eq, Int.not_lt, Int.not_le, ge_iff_le, gt_iff_lt] at f1
    refine c_seq ?_
    refine c_region ?_
    refine o_pv trivial rfl rfl ?_
    refine o_pv trivial rfl rfl ?_
    refine o_nil ?_
    refine then_c ?_
    refine c_ret ?_
    refine then_r ?_
    refine ret1 rfl rfl ?_
    have hf := nextZ_fit s at_; refine leaf0 ?_; simp [wrap_fit ⟨hf.1, hf.2.1⟩]
  · skip
    have f1 := h1
    try simp only [Bool.or_eq_true, Bool.and_eq_true, Bool.or_eq_false_iff, Bool.and_eq_false_iff, decide_eq_true_eq, decide_eq_false_iff_not, beq_iff_eq, beq_eq_false_iff_ne, bne_iff_ne, bne_eq_false_iff_eq, Bool.not_eq_true', Bool.not_eq_false', ne_eq, Int.not_lt, Int.not_le, ge_iff_le, gt_iff_lt] at f1
    refine c_skip ?_
    refine then_c ?_
    refine c_seq ?_
    refine c_region ?_
    refine o_pv trivial rfl rfl ?_
    refine o_pv trivial rfl rfl ?_
    refine o_callQ trivial rfl Tryd.call18 rfl (next_any _ _ hT) ?_
    refine o_pv trivial rfl rfl ?_
    refine o_pv trivial rfl rfl ?_
    refine o_pv trivial rfl rfl ?_
    refine o_pv trivial rfl rfl ?_
    refine o_pv trivial rfl rfl ?_
    refine o_nil ?_
    refine then_c ?_
    refine c_seq ?_
    refine c_region ?_
    refine o_pv trivial rfl rfl ?_
    refine o_pv trivial rfl rfl ?_
    refine o_callP trivial rfl Tryd.call19 rfl (refNext_any _ _ (by first | omega | decide | (simp only [ByteArray.size_append, lit_size, strOf_size, List.size_toArray, List.length_cons, List.length_nil]; omega))) ?_
    refine o_pv trivial rfl rfl ?_
    refine o_pv trivial rfl rfl ?_
    refine o_pv trivial rfl rfl ?_
    refine o_pv trivial rfl rfl ?_
    refine o_pv trivial rfl rfl ?_
    refine o_nil ?_
    refine then_c ?_
    refine c_seq ?_
    refine c_region ?_
    refine o_pv trivial rfl rfl ?_
    refine' o_and trivial trivial rfl rfl rfl rfl rfl rfl rfl rfl (fun hb28 => ?_) ?_
    rotate_left
    · skip
      have fb28 := hb28
      try simp only [Bool.or_eq_true, Bool.and_eq_true, Bool.or_eq_false_iff, Bool.and_eq_false_iff, decide_eq_true_eq, decide_eq_false_iff_not, beq_iff_eq, beq_eq_false_iff_ne, bne_iff_ne, bne_eq_false_iff_eq, Bool.not_eq_true', Bool.not_eq_false', ne_eq, Int.not_lt, Int.not_le, ge_iff_le, gt_iff_lt] at fb28
      refine o_pv (wants_some rfl rfl hb28) rfl rfl ?_
      first | refine o_convIn (wants_some rfl rfl hb28) rfl Tryd.underlying21 Tryd.underlying3 rfl (by rw [IntWalk.i64_in _ (by omega)]) ?_ | refine o_conv (wants_some rfl rfl hb28) rfl Tryd.underlying21 Tryd.underlying3 rfl ?_
      refine o_pv (wants_some rfl rfl hb28) rfl rfl ?_
      refine o_pv (wants_some rfl rfl hb28) rfl rfl ?_
      refine o_nil ?_
      exact joins rfl
    refine' o_and trivial trivial rfl rfl rfl rfl rfl rfl rfl rfl (fun hb34 => ?_) ?_
    rotate_left
    · skip
      refine o_pv (wants_some rfl rfl hb34) rfl rfl ?_
      refine o_pv (wants_some rfl rfl hb34) rfl rfl ?_
      refine o_pv (wants_some rfl rfl hb34) rfl rfl ?_
      refine o_nil ?_
      exact joins rfl
    refine o_pv trivial rfl rfl ?_
    refine o_nil ?_
    refine then_c ?_
    refine c_ret ?_
    refine ret1 rfl rfl ?_
    have hf := nextZ_fit s at_; refine leaf0 ?_; simp [wrap_fit ⟨hf.1, hf.2.1⟩]
theorem SignPlaces_any (s : ByteArray) (at_ : Int) {I : Hp} (hT : Tabs I) : Fun Tryd.prog 5 [.string s, .int .i64 at_] I [] (fun v _ _ => v = .bool true) := by
  intro w hw
  refine enter2 _ Tryd.func5 rfl Tryd.ntmps5 rfl ?_ hw
  refine c_seq ?_
  refine c_region ?_
  refine o_pv trivial rfl rfl ?_
  refine o_nil ?_
  refine then_c ?_
  refine c_seq ?_
  refine c_region ?_
  refine o_callQ trivial rfl Tryd.call15 rfl (awake_any hT) ?_
  refine o_pv trivial rfl rfl ?_
  refine o_nil ?_
  refine then_c ?_
  refine c_seq ?_
  refine c_seq ?_
  refine c_region ?_
  refine o_pv trivial rfl rfl ?_
  refine o_lenS trivial rfl Tryd.underlying9 rfl ?_
  refine o_pv trivial rfl rfl ?_
  refine o_nil ?_
  refine then_c ?_
  refine c_cond rfl (fun h1 => ?_) (fun h1 => ?_)
  · skip
    have f1 := h1
    try simp only [Bool.or_eq_true, Bool.and_eq_true, Bool.or_eq_false_iff, Bool.and_eq_false_iff, decide_eq_true_eq, decide_eq_false_iff_not, beq_iff_eq, beq_eq_false_iff_ne, bne_iff_ne, bne_eq_false_iff_eq, Bool.not_eq_true', Bool.not_eq_false', ne_eq, Int.not_lt, Int.not_le, ge_iff_le, gt_iff_lt] at f1
    refine c_seq ?_
    refine c_region ?_
    refine o_pv trivial rfl rfl ?_
    refine o_pv trivial rfl rfl ?_
    refine o_nil ?_
    refine then_c ?_
    refine c_ret ?_
    refine then_r ?_
    refine ret1 rfl rfl ?_
    refine leaf0 ?_; simp
  · skip
    have f1 := h1
    try simp only [Bool.or_eq_true, Bool.and_eq_true, Bool.or_eq_false_iff, Bool.and_eq_false_iff, decide_eq_true_eq, decide_eq_false_iff_not, beq_iff_eq, beq_eq_false_iff_ne, bne_iff_ne, bne_eq_false_iff_eq, Bool.not_eq_true', Bool.not_eq_false', ne_eq, Int.not_lt, Int.not_le, ge_iff_le, gt_iff_lt] at f1
    refine c_skip ?_
    refine then_c ?_
    refine c_seq ?_
    refine c_region ?_
    refine o_pv trivial rfl rfl ?_
    refine' o_and trivial trivial rfl rfl rfl rfl rfl rfl rfl rfl (fun hb12 => ?_) ?_
    rotate_left
    · skip
      have fb12 := hb12
      try simp only [Bool.or_eq_true, Bool.and_eq_true, Bool.or_eq_false_iff, Bool.and_eq_false_iff, decide_eq_true_eq, decide_eq_false_iff_not, beq_iff_eq, beq_eq_false_iff_ne, bne_iff_ne, bne_eq_false_iff_eq, Bool.not_eq_true', Bool.not_eq_false', ne_eq, Int.not_lt, Int.not_le, ge_iff_le, gt_iff_lt] at fb12
      refine o_pv (wants_some rfl rfl hb12) rfl rfl ?_
      refine o_pv (wants_some rfl rfl hb12) rfl rfl ?_
      refine o_callQ (wants_some rfl rfl hb12) rfl Tryd.call20 rfl (place_any _ _ (by first | omega | decide | (simp only [ByteArray.size_append, lit_size, strOf_size, List.size_toArray, List.length_cons, List.length_nil]; omega))) ?_
      refine o_pv (wants_some rfl rfl hb12) rfl rfl ?_
      refine o_pv (wants_some rfl rfl hb12) rfl rfl ?_
      refine o_callQ (wants_some rfl rfl hb12) rfl Tryd.call21 rfl (refPlace_any _ _ (by first | omega | decide | (simp only [ByteArray.size_append, lit_size, strOf_size, List.size_toArray, List.length_cons, List.length_nil]; omega))) ?_
      refine o_eqlV (wants_some rfl rfl hb12) rfl rfl rfl Tryd.eqGuardType32 (EqV.struct Tryd.underlying32 Tryd.stoodInHeld32 (EqP.cons (T := 3) (o := 0) (by decide) rfl rfl (.one Tryd.isAgg3 (by repeat constructor)) (.one Tryd.isAgg3 (by repeat constructor)) (EqV.int Tryd.underlying3) (EqP.last (T := 3) (o := 1) (by decide) rfl rfl (.one Tryd.isAgg3 (by repeat constructor)) (.one Tryd.isAgg3 (by repeat constructor)) (EqV.int Tryd.underlying3)))) ?_
      refine o_nil ?_
      exact joins rfl
    refine o_pv trivial rfl rfl ?_
    refine o_nil ?_
    refine then_c ?_
    refine c_ret ?_
    refine ret1 rfl rfl ?_
    refine leaf0 ?_; simp
theorem SignNames_any (s : ByteArray) {I : Hp} (hT : Tabs I) : Fun Tryd.prog 6 [.string s] I [] (fun v _ _ => v = .bool true) := by
  intro w hw
  refine enter1 _ Tryd.func6 rfl Tryd.ntmps6 rfl ?_ hw
  refine c_seq ?_
  refine c_region ?_
  refine o_pv trivial rfl rfl ?_
  refine o_nil ?_
  refine then_c ?_
  refine c_seq ?_
  refine c_region ?_
  refine o_callQ trivial rfl Tryd.call15 rfl (awake_any hT) ?_
  refine o_pv trivial rfl rfl ?_
  refine o_nil ?_
  refine then_c ?_
  refine c_seq ?_
  refine c_seq ?_
  refine c_region ?_
  refine o_pv trivial rfl rfl ?_
  refine o_lenS trivial rfl Tryd.underlying9 rfl ?_
  refine o_pv trivial rfl rfl ?_
  refine o_nil ?_
  refine then_c ?_
  refine c_cond rfl (fun h1 => ?_) (fun h1 => ?_)
  · skip
    have f1 := h1
    try simp only [Bool.or_eq_true, Bool.and_eq_true, Bool.or_eq_false_iff, Bool.and_eq_false_iff, decide_eq_true_eq, decide_eq_false_iff_not, beq_iff_eq, beq_eq_false_iff_ne, bne_iff_ne, bne_eq_false_iff_eq, Bool.not_eq_true', Bool.not_eq_false', ne_eq, Int.not_lt, Int.not_le, ge_iff_le, gt_iff_lt] at f1
    refine c_seq ?_
    refine c_region ?_
    refine o_pv trivial rfl rfl ?_
    refine o_pv trivial rfl rfl ?_
    refine o_nil ?_
    refine then_c ?_
    refine c_ret ?_
    refine then_r ?_
    refine ret1 rfl rfl ?_
    refine leaf0 ?_; simp
  · skip
    have f1 := h1
    try simp only [Bool.or_eq_true, Bool.and_eq_true, Bool.or_eq_false_iff, Bool.and_eq_false_iff, decide_eq_true_eq, decide_eq_false_iff_not, beq_iff_eq, beq_eq_false_iff_ne, bne_iff_ne, bne_eq_false_iff_eq, Bool.not_eq_true', Bool.not_eq_false', ne_eq, Int.not_lt, Int.not_le, ge_iff_le, gt_iff_lt] at f1
    refine c_skip ?_
    refine then_c ?_
    refine c_seq ?_
    refine c_region ?_
    refine o_pv trivial rfl rfl ?_
    refine' o_and trivial trivial rfl rfl rfl rfl rfl rfl rfl rfl (fun hb10 => ?_) ?_
    rotate_left
    · skip
      have fb10 := hb10
      try simp only [Bool.or_eq_true, Bool.and_eq_true, Bool.or_eq_false_iff, Bool.and_eq_false_iff, decide_eq_true_eq, decide_eq_false_iff_not, beq_iff_eq, beq_eq_false_iff_ne, bne_iff_ne, bne_eq_false_iff_eq, Bool.not_eq_true', Bool.not_eq_false', ne_eq, Int.not_lt, Int.not_le, ge_iff_le, gt_iff_lt] at fb10
      refine o_pv (wants_some rfl rfl hb10) rfl rfl ?_
      refine o_callQ (wants_some rfl rfl hb10) rfl Tryd.call22 rfl (name_any _ (by first | omega | decide | (simp only [ByteArray.size_append, lit_size, strOf_size, List.size_toArray, List.length_cons, List.length_nil]; omega))) ?_
      refine o_pv (wants_some rfl rfl hb10) rfl rfl ?_
      refine o_callP (wants_some rfl rfl hb10) rfl Tryd.call23 rfl (refName_any _ (by first | omega | decide | (simp only [ByteArray.size_append, lit_size, strOf_size, List.size_toArray, List.length_cons, List.length_nil]; omega))) ?_
      refine o_eqlB (wants_some rfl rfl hb10) rfl rfl rfl Tryd.underlying4 ?_
      refine o_nil ?_
      exact joins rfl
    refine' o_and trivial trivial rfl rfl rfl rfl rfl rfl rfl rfl (fun hb17 => ?_) ?_
    rotate_left
    · skip
      have fb17 := hb17
      try simp only [Bool.or_eq_true, Bool.and_eq_true, Bool.or_eq_false_iff, Bool.and_eq_false_iff, decide_eq_true_eq, decide_eq_false_iff_not, beq_iff_eq, beq_eq_false_iff_ne, bne_iff_ne, bne_eq_false_iff_eq, Bool.not_eq_true', Bool.not_eq_false', ne_eq, Int.not_lt, Int.not_le, ge_iff_le, gt_iff_lt] at fb17
      refine o_pv (wants_some rfl rfl hb17) rfl rfl ?_
      refine o_callP (wants_some rfl rfl hb17) rfl Tryd.call24 rfl (key_any _) ?_
      refine o_pv (wants_some rfl rfl hb17) rfl rfl ?_
      refine o_callP (wants_some rfl rfl hb17) rfl Tryd.call25 rfl (refKey_any _) ?_
      refine o_eqlB (wants_some rfl rfl hb17) rfl rfl rfl Tryd.underlying4 ?_
      refine o_nil ?_
      exact joins rfl
    refine o_pv trivial rfl rfl ?_
    refine o_nil ?_
    refine then_c ?_
    refine c_ret ?_
    refine ret1 rfl rfl ?_
    refine leaf0 ?_; simp
theorem next_at (s : ByteArray) (i : Nat) {I : Hp} (hT : Tabs I) (hi : i < s.size) : Fun Tryd.prog 18 [.string s, .int .i64 (i : Int)] I [] (fun v _ _ => v = .tuple #[.int .i32 ((Utf8.decode s i).1 : Int), .int .i64 ((Utf8.decode s i).2 : Int)]) := by
  have h := next_any s i (I := I) hT
  rw [nextZ_in hi] at h
  exact h
theorem SignWhole_any (s : ByteArray) {I : Hp} (hT : Tabs I) : Fun Tryd.prog 7 [.string s] I [] (fun v _ _ => v = .bool true) := by
  intro w hw
  refine enter1 _ Tryd.func7 rfl Tryd.ntmps7 rfl ?_ hw
  refine c_seq ?_
  refine c_region ?_
  refine o_pv trivial rfl rfl ?_
  refine o_nil ?_
  refine then_c ?_
  refine c_seq ?_
  refine c_region ?_
  refine o_callQ trivial rfl Tryd.call15 rfl (awake_any hT) ?_
  refine o_pv trivial rfl rfl ?_
  refine o_nil ?_
  refine then_c ?_
  refine c_seq ?_
  refine c_seq ?_
  refine c_region ?_
  refine o_pv trivial rfl rfl ?_
  refine o_lenS trivial rfl Tryd.underlying9 rfl ?_
  refine o_pv trivial rfl rfl ?_
  refine o_nil ?_
  refine then_c ?_
  refine c_cond rfl (fun h1 => ?_) (fun h1 => ?_)
  · skip
    have f1 := h1
    try simp only [Bool.or_eq_true, Bool.and_eq_true, Bool.or_eq_false_iff, Bool.and_eq_false_iff, decide_eq_true_eq, decide_eq_false_iff_not, beq_iff_eq, beq_eq_false_iff_ne, bne_iff_ne, bne_eq_false_iff_eq, Bool.not_eq_true', Bool.not_eq_false', ne_eq, Int.not_lt, Int.not_le, ge_iff_le, gt_iff_lt] at f1
    refine c_seq ?_
    refine c_region ?_
    refine o_pv trivial rfl rfl ?_
    refine o_pv trivial rfl rfl ?_
    refine o_nil ?_
    refine then_c ?_
    refine c_ret ?_
    refine then_r ?_
    refine ret1 rfl rfl ?_
    refine leaf0 ?_; rfl
  · skip
    have f1 := h1
    try simp only [Bool.or_eq_true, Bool.and_eq_true, Bool.or_eq_false_iff, Bool.and_eq_false_iff, decide_eq_true_eq, decide_eq_false_iff_not, beq_iff_eq, beq_eq_false_iff_ne, bne_iff_ne, bne_eq_false_iff_eq, Bool.not_eq_true', Bool.not_eq_false', ne_eq, Int.not_lt, Int.not_le, ge_iff_le, gt_iff_lt] at f1
    refine c_skip ?_
    refine then_c ?_
    refine c_seq ?_
    refine c_region ?_
    refine o_pv trivial rfl rfl ?_
    refine o_nil ?_
    refine then_c ?_
    refine c_seq ?_
    refine c_region ?_
    refine o_pv trivial rfl rfl ?_
    refine o_callQ trivial rfl Tryd.call20 rfl (place_any _ _ (by first | omega | decide | (simp only [ByteArray.size_append, lit_size, strOf_size, List.size_toArray, List.length_cons, List.length_nil]; omega))) ?_
    refine o_alloc trivial rfl Tryd.zeroValue32 rfl (fun b5 => ?_)
    refine o_store trivial rfl rfl rfl Tryd.sizeOf32 rfl rfl (by first | exact .here | exact .there .here | exact .there (.there .here) | exact .there (.there (.there .here)) | exact .there (.there (.there (.there .here))) | exact .there (.there (.there (.there (.there .here))))) (by repeat constructor) ?_
    refine o_nil ?_
    refine then_c ?_
    refine c_seq ?_
    refine c_seq ?_
    refine c_region ?_
    refine o_fieldAddr (T := 3) (off := 0) trivial rfl Tryd.underlying32 rfl rfl rfl Tryd.sizeOf3 rfl rfl ?_
    refine o_load1 trivial rfl Tryd.isAgg3 rfl (by first | exact .head _ | exact .tail _ (.head _) | exact .tail _ (.tail _ (.head _)) | exact .tail _ (.tail _ (.tail _ (.head _))) | exact .tail _ (.tail _ (.tail _ (.tail _ (.head _)))) | exact .tail _ (.tail _ (.tail _ (.tail _ (.tail _ (.head _)))))) (by repeat constructor) ?_
    refine o_pv trivial rfl rfl ?_
    refine' o_or trivial trivial rfl rfl rfl rfl rfl rfl rfl rfl (fun hb21 => ?_) ?_
    rotate_left
    · skip
      have fb21 := hb21
      try simp only [Bool.or_eq_true, Bool.and_eq_true, Bool.or_eq_false_iff, Bool.and_eq_false_iff, decide_eq_true_eq, decide_eq_false_iff_not, beq_iff_eq, beq_eq_false_iff_ne, bne_iff_ne, bne_eq_false_iff_eq, Bool.not_eq_true', Bool.not_eq_false', ne_eq, Int.not_lt, Int.not_le, ge_iff_le, gt_iff_lt] at fb21
      refine o_fieldAddr (T := 3) (off := 1) (wants_some rfl rfl hb21) rfl Tryd.underlying32 rfl rfl rfl Tryd.sizeOf3 rfl rfl ?_
      refine o_load1 (wants_some rfl rfl hb21) rfl Tryd.isAgg3 rfl (by first | exact .head _ | exact .tail _ (.head _) | exact .tail _ (.tail _ (.head _)) | exact .tail _ (.tail _ (.tail _ (.head _))) | exact .tail _ (.tail _ (.tail _ (.tail _ (.head _)))) | exact .tail _ (.tail _ (.tail _ (.tail _ (.tail _ (.head _)))))) (by repeat constructor) ?_
      refine o_pv (wants_some rfl rfl hb21) rfl rfl ?_
      refine o_nil ?_
      exact joins rfl
    refine o_nil ?_
    refine then_c ?_
    refine c_cond rfl (fun h2 => ?_) (fun h2 => ?_)
    · skip
      have f2 := h2
      try simp only [Bool.or_eq_true, Bool.and_eq_true, Bool.or_eq_false_iff, Bool.and_eq_false_iff, decide_eq_true_eq, decide_eq_false_iff_not, beq_iff_eq, beq_eq_false_iff_ne, bne_iff_ne, bne_eq_false_iff_eq, Bool.not_eq_true', Bool.not_eq_false', ne_eq, Int.not_lt, Int.not_le, ge_iff_le, gt_iff_lt] at f2
      exfalso; rw [placeZ_first] at f2; rcases f2 with f2 | f2 <;> exact f2 rfl
    · skip
      have f2 := h2
      try simp only [Bool.or_eq_true, Bool.and_eq_true, Bool.or_eq_false_iff, Bool.and_eq_false_iff, decide_eq_true_eq, decide_eq_false_iff_not, beq_iff_eq, beq_eq_false_iff_ne, bne_iff_ne, bne_eq_false_iff_eq, Bool.not_eq_true', Bool.not_eq_false', ne_eq, Int.not_lt, Int.not_le, ge_iff_le, gt_iff_lt] at f2
      refine c_skip ?_
      refine then_c ?_
      refine c_seq ?_
      refine c_seq ?_
      refine c_region ?_
      refine o_pv trivial rfl rfl ?_
      refine o_range trivial rfl Tryd.underlying9 rfl (fun b27 => ?_)
      refine o_nil ?_
      refine then_c ?_
      refine c_block ?_
      refine c_loop (ι := Nat × Int × Int) [0, 3, 5, 27] (.cons rfl (.cons rfl (.cons rfl (.cons rfl .nil)))) (fun x => s.size - x.1) (fun x E0 => (4, .int .i64 (x.1 : Int)) :: E0) (fun x => St w [] I [.box b27 (.stringIter s x.1), .box b5 (.cells #[.int .i64 x.2.1, .int .i64 x.2.2] 32 (0, 0))]) (fun x => Rch s x.1 x.2.1 x.2.2) ((0, 1, 1)) (sub_cons rfl (sub_cons rfl (sub_cons rfl (sub_cons rfl (sub_cons rfl sub_nil))))) (fun _ h => by rw [placeZ_first] at h; exact h) (Rch.start s) ?_
      rintro ⟨i, l, c⟩ hF
      try dsimp only
      have hle := hF.le; have hbl := hF.bl; have hbc := hF.bc; have hwd := width_pos s i; dsimp only at hle hbl hbc hF
      refine c_seq ?_
      rcases Nat.lt_or_ge i s.size with hp | hp
      · skip
        refine c_region ?_
        refine o_next trivial rfl rfl (by first | exact .here | exact .there .here | exact .there (.there .here) | exact .there (.there (.there .here)) | exact .there (.there (.there (.there .here))) | exact .there (.there (.there (.there (.there .here))))) hp ?_
        refine o_pv trivial rfl rfl ?_
        refine o_nil ?_
        refine then_c ?_
        refine c_seq ?_
        refine c_cond_t rfl rfl ?_
        refine c_skip ?_
        refine then_c ?_
        refine c_block ?_
        refine c_seq ?_
        refine c_region ?_
        refine o_pv trivial rfl rfl ?_
        refine o_pv trivial rfl rfl ?_
        refine o_pv trivial rfl rfl ?_
        refine o_pv trivial rfl rfl ?_
        refine o_nil ?_
        refine then_c ?_
        refine c_seq ?_
        refine c_region ?_
        refine o_pv trivial rfl rfl ?_
        refine o_pv trivial rfl rfl ?_
        refine o_callQ trivial rfl Tryd.call18 rfl (next_at _ _ hT (by first | omega | decide)) ?_
        refine o_pv trivial rfl rfl ?_
        refine o_pv trivial rfl rfl ?_
        refine o_pv trivial rfl rfl ?_
        refine o_pv trivial rfl rfl ?_
        refine o_pv trivial rfl rfl ?_
        refine o_nil ?_
        refine then_c ?_
        refine c_seq ?_
        refine c_seq ?_
        refine c_region ?_
        refine o_pv trivial rfl rfl ?_
        refine o_pv trivial rfl rfl ?_
        refine o_pv trivial rfl rfl ?_
        refine' o_or trivial trivial rfl rfl rfl rfl rfl rfl rfl rfl (fun hb41 => ?_) ?_
        rotate_left
        · skip
          refine o_pv (wants_some rfl rfl hb41) rfl rfl ?_
          refine o_pv (wants_some rfl rfl hb41) rfl rfl ?_
          refine o_pv (wants_some rfl rfl hb41) rfl rfl ?_
          refine o_nil ?_
          exact joins rfl
        refine' o_or trivial trivial rfl rfl rfl rfl rfl rfl rfl rfl (fun hb46 => ?_) ?_
        rotate_left
        · skip
          refine o_pv (wants_some rfl rfl hb46) rfl rfl ?_
          refine o_pv (wants_some rfl rfl hb46) rfl rfl ?_
          refine o_nil ?_
          exact joins rfl
        refine' o_or trivial trivial rfl rfl rfl rfl rfl rfl rfl rfl (fun hb50 => ?_) ?_
        rotate_left
        · skip
          refine o_pv (wants_some rfl rfl hb50) rfl rfl ?_
          refine o_pv (wants_some rfl rfl hb50) rfl rfl ?_
          refine o_nil ?_
          exact joins rfl
        refine o_nil ?_
        refine then_c ?_
        refine c_cond rfl (fun h4 => ?_) (fun h4 => ?_)
        · skip
          have f4 := h4
          try simp only [Bool.or_eq_true, Bool.and_eq_true, Bool.or_eq_false_iff, Bool.and_eq_false_iff, decide_eq_true_eq, decide_eq_false_iff_not, beq_iff_eq, beq_eq_false_iff_ne, bne_iff_ne, bne_eq_false_iff_eq, Bool.not_eq_true', Bool.not_eq_false', ne_eq, Int.not_lt, Int.not_le, ge_iff_le, gt_iff_lt] at f4
          exfalso; have hwi := width_in s i hp; simp at f4; omega
        · skip
          have f4 := h4
          try simp only [Bool.or_eq_true, Bool.and_eq_true, Bool.or_eq_false_iff, Bool.and_eq_false_iff, decide_eq_true_eq, decide_eq_false_iff_not, beq_iff_eq, beq_eq_false_iff_ne, bne_iff_ne, bne_eq_false_iff_eq, Bool.not_eq_true', Bool.not_eq_false', ne_eq, Int.not_lt, Int.not_le, ge_iff_le, gt_iff_lt] at f4
          refine c_skip ?_
          refine then_c ?_
          refine c_seq ?_
          refine c_seq ?_
          refine c_region ?_
          refine o_pv trivial rfl rfl ?_
          refine o_nil ?_
          refine then_c ?_
          refine c_block ?_
          refine c_loop (ι := Nat) [0, 3, 4, 5, 6, 7, 9, 27] (.cons rfl (.cons rfl (.cons rfl (.cons rfl (.cons rfl (.cons rfl (.cons rfl (.cons rfl .nil)))))))) (fun k => (Utf8.decode s i).2 - k) (fun k E0 => (10, .int .i64 (k : Int)) :: E0) (fun k => St w [] I [.box b27 (.stringIter s (i + (Utf8.decode s i).2)), .box b5 (.cells #[.int .i64 l, .int .i64 c] 32 (0, 0))]) (fun k => True) (0) (sub_cons rfl (sub_cons rfl (sub_cons rfl (sub_cons rfl (sub_cons rfl (sub_cons rfl (sub_cons rfl (sub_cons rfl (sub_cons rfl sub_nil))))))))) (fun _ h => h) (trivial) ?_
          rintro k _
          try dsimp only
          refine c_seq ?_
          refine c_seq ?_
          refine c_region ?_
          refine o_pv trivial rfl rfl ?_
          refine o_pv trivial rfl rfl ?_
          refine o_pv trivial rfl rfl ?_
          refine o_nil ?_
          refine then_c ?_
          refine c_cond rfl (fun h5 => ?_) (fun h5 => ?_)
          · skip
            have f5 := h5
            try simp only [Bool.or_eq_true, Bool.and_eq_true, Bool.or_eq_false_iff, Bool.and_eq_false_iff, decide_eq_true_eq, decide_eq_false_iff_not, beq_iff_eq, beq_eq_false_iff_ne, bne_iff_ne, bne_eq_false_iff_eq, Bool.not_eq_true', Bool.not_eq_false', ne_eq, Int.not_lt, Int.not_le, ge_iff_le, gt_iff_lt] at f5
            refine c_skip ?_
            refine then_c ?_
            refine c_seq ?_
            refine c_block ?_
            refine c_seq ?_
            refine c_quiet (by kernel_rfl) (by kernel_rfl) (fun _ h => h.drawn) ?_
            refine o_pv trivial rfl rfl ?_
            refine o_pv trivial rfl rfl ?_
            refine o_pv trivial rfl rfl ?_
            first | (refine o_add trivial rfl rfl rfl ?_ ?_; (omega)) | refine o_pv trivial rfl rfl ?_
            refine o_callQ trivial rfl Tryd.call20 rfl (place_any _ _ (by first | omega | decide | (simp only [ByteArray.size_append, lit_size, strOf_size, List.size_toArray, List.length_cons, List.length_nil]; omega))) ?_
            refine o_loadA trivial rfl Tryd.isAgg32 Tryd.sizeOf32 rfl (by first | exact .head _ | exact .tail _ (.head _) | exact .tail _ (.tail _ (.head _)) | exact .tail _ (.tail _ (.tail _ (.head _))) | exact .tail _ (.tail _ (.tail _ (.tail _ (.head _)))) | exact .tail _ (.tail _ (.tail _ (.tail _ (.tail _ (.head _)))))) (by repeat constructor) ?_
            refine o_neqV trivial rfl rfl rfl Tryd.eqGuardType32 (EqV.struct Tryd.underlying32 Tryd.stoodInHeld32 (EqP.cons (T := 3) (o := 0) (by decide) rfl rfl (.one Tryd.isAgg3 (by repeat constructor)) (.one Tryd.isAgg3 (by repeat constructor)) (EqV.int Tryd.underlying3) (EqP.last (T := 3) (o := 1) (by decide) rfl rfl (.one Tryd.isAgg3 (by repeat constructor)) (.one Tryd.isAgg3 (by repeat constructor)) (EqV.int Tryd.underlying3)))) ?_
            refine o_nil ?_
            refine then_c ?_
            refine c_cond rfl (fun h6 => ?_) (fun h6 => ?_)
            · skip
              have f6 := h6
              try simp only [Bool.or_eq_true, Bool.and_eq_true, Bool.or_eq_false_iff, Bool.and_eq_false_iff, decide_eq_true_eq, decide_eq_false_iff_not, beq_iff_eq, beq_eq_false_iff_ne, bne_iff_ne, bne_eq_false_iff_eq, Bool.not_eq_true', Bool.not_eq_false', ne_eq, Int.not_lt, Int.not_le, ge_iff_le, gt_iff_lt] at f6
              exfalso; rw [hF.here (at_ := i + k) (by omega) (.inl (by omega))] at f6; rcases f6 with f6 | f6 <;> exact f6 rfl
            · skip
              have f6 := h6
              try simp only [Bool.or_eq_true, Bool.and_eq_true, Bool.or_eq_false_iff, Bool.and_eq_false_iff, decide_eq_true_eq, decide_eq_false_iff_not, beq_iff_eq, beq_eq_false_iff_ne, bne_iff_ne, bne_eq_false_iff_eq, Bool.not_eq_true', Bool.not_eq_false', ne_eq, Int.not_lt, Int.not_le, ge_iff_le, gt_iff_lt] at f6
              refine c_skip ?_
              refine blk_n ?_
              refine then_c ?_
              refine c_region ?_
              refine o_pv trivial rfl rfl ?_
              first | (refine o_add trivial rfl rfl rfl ?_ ?_; (omega)) | refine o_pv trivial rfl rfl ?_
              refine o_pv trivial rfl rfl ?_
              refine o_nil ?_
              exact again (k + 1) (sub_cons rfl (sub_cons rfl (sub_cons rfl (sub_cons rfl (sub_cons rfl (sub_cons rfl (sub_cons rfl (sub_cons rfl (sub_cons rfl sub_nil))))))))) (fun _ h => h) (by show (Utf8.decode s i).2 - (k + 1) < (Utf8.decode s i).2 - k; omega) trivial
          · skip
            have f5 := h5
            try simp only [Bool.or_eq_true, Bool.and_eq_true, Bool.or_eq_false_iff, Bool.and_eq_false_iff, decide_eq_true_eq, decide_eq_false_iff_not, beq_iff_eq, beq_eq_false_iff_ne, bne_iff_ne, bne_eq_false_iff_eq, Bool.not_eq_true', Bool.not_eq_false', ne_eq, Int.not_lt, Int.not_le, ge_iff_le, gt_iff_lt] at f5
            refine c_exit ?_
            refine then_x ?_
            refine then_x ?_
            refine blk_eq rfl ?_
            refine then_c ?_
            refine c_seq ?_
            refine c_region ?_
            refine o_pv trivial rfl rfl ?_
            refine o_pv trivial rfl rfl ?_
            first | (refine o_add trivial rfl rfl rfl ?_ ?_; (omega)) | refine o_pv trivial rfl rfl ?_
            refine o_pv trivial rfl rfl ?_
            refine o_nil ?_
            refine then_c ?_
            refine c_seq ?_
            refine c_region ?_
            refine o_fieldAddr (T := 3) (off := 1) trivial rfl Tryd.underlying32 rfl rfl rfl Tryd.sizeOf3 rfl rfl ?_
            refine o_load1 trivial rfl Tryd.isAgg3 rfl (by first | exact .head _ | exact .tail _ (.head _) | exact .tail _ (.tail _ (.head _)) | exact .tail _ (.tail _ (.tail _ (.head _))) | exact .tail _ (.tail _ (.tail _ (.tail _ (.head _)))) | exact .tail _ (.tail _ (.tail _ (.tail _ (.tail _ (.head _)))))) (by repeat constructor) ?_
            first | (refine o_add trivial rfl rfl rfl ?_ ?_; (omega)) | refine o_pv trivial rfl rfl ?_
            refine o_fieldAddr (T := 3) (off := 1) trivial rfl Tryd.underlying32 rfl rfl rfl Tryd.sizeOf3 rfl rfl ?_
            refine o_store trivial rfl rfl rfl Tryd.sizeOf3 rfl rfl (by first | exact .here | exact .there .here | exact .there (.there .here) | exact .there (.there (.there .here)) | exact .there (.there (.there (.there .here))) | exact .there (.there (.there (.there (.there .here))))) (by repeat constructor) ?_
            refine o_nil ?_
            refine then_c ?_
            refine c_seq ?_
            refine c_region ?_
            refine o_pv trivial rfl rfl ?_
            refine o_pv trivial rfl rfl ?_
            refine o_nil ?_
            refine then_c ?_
            refine c_cond rfl (fun h7 => ?_) (fun h7 => ?_)
            · skip
              have f7 := h7
              try simp only [Bool.or_eq_true, Bool.and_eq_true, Bool.or_eq_false_iff, Bool.and_eq_false_iff, decide_eq_true_eq, decide_eq_false_iff_not, beq_iff_eq, beq_eq_false_iff_ne, bne_iff_ne, bne_eq_false_iff_eq, Bool.not_eq_true', Bool.not_eq_false', ne_eq, Int.not_lt, Int.not_le, ge_iff_le, gt_iff_lt] at f7
              refine c_seq ?_
              refine c_region ?_
              refine o_fieldAddr (T := 3) (off := 0) trivial rfl Tryd.underlying32 rfl rfl rfl Tryd.sizeOf3 rfl rfl ?_
              refine o_load1 trivial rfl Tryd.isAgg3 rfl (by first | exact .head _ | exact .tail _ (.head _) | exact .tail _ (.tail _ (.head _)) | exact .tail _ (.tail _ (.tail _ (.head _))) | exact .tail _ (.tail _ (.tail _ (.tail _ (.head _)))) | exact .tail _ (.tail _ (.tail _ (.tail _ (.tail _ (.head _)))))) (by repeat constructor) ?_
              first | (refine o_add trivial rfl rfl rfl ?_ ?_; (omega)) | refine o_pv trivial rfl rfl ?_
              refine o_fieldAddr (T := 3) (off := 0) trivial rfl Tryd.underlying32 rfl rfl rfl Tryd.sizeOf3 rfl rfl ?_
              refine o_store trivial rfl rfl rfl Tryd.sizeOf3 rfl rfl (by first | exact .here | exact .there .here | exact .there (.there .here) | exact .there (.there (.there .here)) | exact .there (.there (.there (.there .here))) | exact .there (.there (.there (.there (.there .here))))) (by repeat constructor) ?_
              refine o_nil ?_
              refine then_c ?_
              refine c_region ?_
              refine o_fieldAddr (T := 3) (off := 1) trivial rfl Tryd.underlying32 rfl rfl rfl Tryd.sizeOf3 rfl rfl ?_
              refine o_store trivial rfl rfl rfl Tryd.sizeOf3 rfl rfl (by first | exact .here | exact .there .here | exact .there (.there .here) | exact .there (.there (.there .here)) | exact .there (.there (.there (.there .here))) | exact .there (.there (.there (.there (.there .here))))) (by repeat constructor) ?_
              refine o_nil ?_
              refine blk_n ?_
              exact again (_, _, _) (sub_cons rfl (sub_cons rfl (sub_cons rfl (sub_cons rfl (sub_cons rfl sub_nil))))) (fun _ h => h) (by show s.size - (i + (Utf8.decode s i).2) < s.size - i; omega) (hF.step hp (by first | exact .inl ⟨by omega, rfl, rfl⟩ | exact .inr ⟨by omega, rfl, rfl⟩))
            · skip
              have f7 := h7
              try simp only [Bool.or_eq_true, Bool.and_eq_true, Bool.or_eq_false_iff, Bool.and_eq_false_iff, decide_eq_true_eq, decide_eq_false_iff_not, beq_iff_eq, beq_eq_false_iff_ne, bne_iff_ne, bne_eq_false_iff_eq, Bool.not_eq_true', Bool.not_eq_false', ne_eq, Int.not_lt, Int.not_le, ge_iff_le, gt_iff_lt] at f7
              refine c_skip ?_
              refine blk_n ?_
              exact again (_, _, _) (sub_cons rfl (sub_cons rfl (sub_cons rfl (sub_cons rfl (sub_cons rfl sub_nil))))) (fun _ h => h) (by show s.size - (i + (Utf8.decode s i).2) < s.size - i; omega) (hF.step hp (by first | exact .inl ⟨by omega, rfl, rfl⟩ | exact .inr ⟨by omega, rfl, rfl⟩))
      · skip
        refine c_region ?_
        refine o_nextEnd trivial rfl rfl (by first | exact .head _ | exact .tail _ (.head _) | exact .tail _ (.tail _ (.head _)) | exact .tail _ (.tail _ (.tail _ (.head _))) | exact .tail _ (.tail _ (.tail _ (.tail _ (.head _)))) | exact .tail _ (.tail _ (.tail _ (.tail _ (.tail _ (.head _)))))) hp ?_
        refine o_pv trivial rfl rfl ?_
        refine o_nil ?_
        refine then_c ?_
        refine c_seq ?_
        refine c_cond_f rfl rfl ?_
        refine c_exit ?_
        refine then_x ?_
        refine then_x ?_
        refine blk_eq rfl ?_
        refine then_c ?_
        refine c_seq ?_
        refine c_quiet (by kernel_rfl) (by kernel_rfl) (fun _ h => h.drawn) ?_
        refine o_pv trivial rfl rfl ?_
        refine' o_and trivial trivial rfl rfl rfl rfl rfl rfl rfl rfl (fun hb81 => ?_) ?_
        rotate_left
        · skip
          have fb81 := hb81
          try simp only [Bool.or_eq_true, Bool.and_eq_true, Bool.or_eq_false_iff, Bool.and_eq_false_iff, decide_eq_true_eq, decide_eq_false_iff_not, beq_iff_eq, beq_eq_false_iff_ne, bne_iff_ne, bne_eq_false_iff_eq, Bool.not_eq_true', Bool.not_eq_false', ne_eq, Int.not_lt, Int.not_le, ge_iff_le, gt_iff_lt] at fb81
          refine o_pv (wants_some rfl rfl hb81) rfl rfl ?_
          refine o_pv (wants_some rfl rfl hb81) rfl rfl ?_
          refine o_lenS (wants_some rfl rfl hb81) rfl Tryd.underlying9 rfl ?_
          refine o_pv (wants_some rfl rfl hb81) rfl rfl ?_
          refine o_nil ?_
          exact joins rfl
        refine' o_and trivial trivial rfl rfl rfl rfl rfl rfl rfl rfl (fun hb87 => ?_) ?_
        rotate_left
        · skip
          have fb87 := hb87
          try simp only [Bool.or_eq_true, Bool.and_eq_true, Bool.or_eq_false_iff, Bool.and_eq_false_iff, decide_eq_true_eq, decide_eq_false_iff_not, beq_iff_eq, beq_eq_false_iff_ne, bne_iff_ne, bne_eq_false_iff_eq, Bool.not_eq_true', Bool.not_eq_false', ne_eq, Int.not_lt, Int.not_le, ge_iff_le, gt_iff_lt] at fb87
          refine o_pv (wants_some rfl rfl hb87) rfl rfl ?_
          refine o_pv (wants_some rfl rfl hb87) rfl rfl ?_
          refine o_callQ (wants_some rfl rfl hb87) rfl Tryd.call20 rfl (place_any _ _ (by first | omega | decide | (simp only [ByteArray.size_append, lit_size, strOf_size, List.size_toArray, List.length_cons, List.length_nil]; omega))) ?_
          refine o_loadA (wants_some rfl rfl hb87) rfl Tryd.isAgg32 Tryd.sizeOf32 rfl (by first | exact .head _ | exact .tail _ (.head _) | exact .tail _ (.tail _ (.head _)) | exact .tail _ (.tail _ (.tail _ (.head _))) | exact .tail _ (.tail _ (.tail _ (.tail _ (.head _)))) | exact .tail _ (.tail _ (.tail _ (.tail _ (.tail _ (.head _)))))) (by repeat constructor) ?_
          refine o_eqlV (wants_some rfl rfl hb87) rfl rfl rfl Tryd.eqGuardType32 (EqV.struct Tryd.underlying32 Tryd.stoodInHeld32 (EqP.cons (T := 3) (o := 0) (by decide) rfl rfl (.one Tryd.isAgg3 (by repeat constructor)) (.one Tryd.isAgg3 (by repeat constructor)) (EqV.int Tryd.underlying3) (EqP.last (T := 3) (o := 1) (by decide) rfl rfl (.one Tryd.isAgg3 (by repeat constructor)) (.one Tryd.isAgg3 (by repeat constructor)) (EqV.int Tryd.underlying3)))) ?_
          refine o_nil ?_
          exact joins rfl
        refine o_pv trivial rfl rfl ?_
        refine o_nil ?_
        refine then_c ?_
        refine c_ret ?_
        refine ret1 rfl rfl ?_
        refine leaf0 (congrArg Value.bool ?_); rw [hF.here (at_ := i) (by omega) (.inr hp)]; simp; omega
theorem SignLines_any (s t : ByteArray) (at_ : Int) {I : Hp} (hT : Tabs I) (ha : 0 ≤ at_ ∧ at_ ≤ 65535) : Fun Tryd.prog 8 [.string s, .string t, .int .u16 at_] I [] (fun v _ _ => v = .bool true) := by
  intro w hw
  refine enter3 _ Tryd.func8 rfl Tryd.ntmps8 rfl ?_ hw
  refine c_seq ?_
  refine c_region ?_
  refine o_pv trivial rfl rfl ?_
  refine o_nil ?_
  refine then_c ?_
  refine c_seq ?_
  refine c_region ?_
  refine o_callQ trivial rfl Tryd.call15 rfl (awake_any hT) ?_
  refine o_pv trivial rfl rfl ?_
  refine o_nil ?_
  refine then_c ?_
  refine c_seq ?_
  refine c_seq ?_
  refine c_region ?_
  refine o_pv trivial rfl rfl ?_
  refine o_lenS trivial rfl Tryd.underlying9 rfl ?_
  refine o_pv trivial rfl rfl ?_
  refine' o_or trivial trivial rfl rfl rfl rfl rfl rfl rfl rfl (fun hb16 => ?_) ?_
  rotate_left
  · skip
    have fb16 := hb16
    try simp only [Bool.or_eq_true, Bool.and_eq_true, Bool.or_eq_false_iff, Bool.and_eq_false_iff, decide_eq_true_eq, decide_eq_false_iff_not, beq_iff_eq, beq_eq_false_iff_ne, bne_iff_ne, bne_eq_false_iff_eq, Bool.not_eq_true', Bool.not_eq_false', ne_eq, Int.not_lt, Int.not_le, ge_iff_le, gt_iff_lt] at fb16
    refine o_pv (wants_some rfl rfl hb16) rfl rfl ?_
    refine o_lenS (wants_some rfl rfl hb16) rfl Tryd.underlying9 rfl ?_
    refine o_pv (wants_some rfl rfl hb16) rfl rfl ?_
    refine o_nil ?_
    exact joins rfl
  refine o_nil ?_
  refine then_c ?_
  refine c_cond rfl (fun h1 => ?_) (fun h1 => ?_)
  · skip
    have f1 := h1
    try simp only [Bool.or_eq_true, Bool.and_eq_true, Bool.or_eq_false_iff, Bool.and_eq_false_iff, decide_eq_true_eq, decide_eq_false_iff_not, beq_iff_eq, beq_eq_false_iff_ne, bne_iff_ne, bne_eq_false_iff_eq, Bool.not_eq_true', Bool.not_eq_false', ne_eq, Int.not_lt, Int.not_le, ge_iff_le, gt_iff_lt] at f1
    refine c_seq ?_
    refine c_region ?_
    refine o_pv trivial rfl rfl ?_
    refine o_pv trivial rfl rfl ?_
    refine o_nil ?_
    refine then_c ?_
    refine c_ret ?_
    refine then_r ?_
    refine ret1 rfl rfl ?_
    refine leaf0 ?_; rfl
  · skip
    have f1 := h1
    try simp only [Bool.or_eq_true, Bool.and_eq_true, Bool.or_eq_false_iff, Bool.and_eq_false_iff, decide_eq_true_eq, decide_eq_false_iff_not, beq_iff_eq, beq_eq_false_iff_ne, bne_iff_ne, bne_eq_false_iff_eq, Bool.not_eq_true', Bool.not_eq_false', ne_eq, Int.not_lt, Int.not_le, ge_iff_le, gt_iff_lt] at f1
    refine c_skip ?_
    refine then_c ?_
    refine c_seq ?_
    refine c_region ?_
    refine o_pv trivial rfl rfl ?_
    refine o_nil ?_
    refine then_c ?_
    refine c_seq ?_
    refine c_seq ?_
    refine c_region ?_
    refine o_pv trivial rfl rfl ?_
    refine o_nil ?_
    refine then_c ?_
    refine c_block ?_
    refine c_loop (ι := Nat) [0, 1, 2, 7] (.cons rfl (.cons rfl (.cons rfl (.cons rfl .nil)))) (fun i => s.size - i) (fun i E0 => (8, .int .i64 (1 + (lines s i : Int))) :: (9, .int .i64 (i : Int)) :: E0) (fun i => St w [] I []) (fun i => i ≤ s.size) (0) (sub_cons rfl (sub_cons rfl (sub_cons rfl (sub_cons rfl (sub_cons rfl (sub_cons rfl sub_nil)))))) (fun _ h => h) (Nat.zero_le _) ?_
    rintro i hle
    try dsimp only
    have hli := lines_le s i; have hpb := placeZ_bound t at_
    refine c_seq ?_
    refine c_seq ?_
    refine c_region ?_
    refine o_pv trivial rfl rfl ?_
    refine o_pv trivial rfl rfl ?_
    refine o_lenS trivial rfl Tryd.underlying9 rfl ?_
    refine o_pv trivial rfl rfl ?_
    refine o_nil ?_
    refine then_c ?_
    refine c_cond rfl (fun h2 => ?_) (fun h2 => ?_)
    · skip
      have f2 := h2
      try simp only [Bool.or_eq_true, Bool.and_eq_true, Bool.or_eq_false_iff, Bool.and_eq_false_iff, decide_eq_true_eq, decide_eq_false_iff_not, beq_iff_eq, beq_eq_false_iff_ne, bne_iff_ne, bne_eq_false_iff_eq, Bool.not_eq_true', Bool.not_eq_false', ne_eq, Int.not_lt, Int.not_le, ge_iff_le, gt_iff_lt] at f2
      refine c_skip ?_
      refine then_c ?_
      refine c_seq ?_
      refine c_block ?_
      refine c_seq ?_
      refine c_region ?_
      refine o_pv trivial rfl rfl ?_
      refine o_pv trivial rfl rfl ?_
      refine o_idxS trivial rfl Tryd.underlying9 rfl rfl (by omega) ?_
      refine o_pv trivial rfl rfl ?_
      refine o_nil ?_
      refine then_c ?_
      refine c_cond rfl (fun h3 => ?_) (fun h3 => ?_)
      · skip
        have f3 := h3
        try simp only [Bool.or_eq_true, Bool.and_eq_true, Bool.or_eq_false_iff, Bool.and_eq_false_iff, decide_eq_true_eq, decide_eq_false_iff_not, beq_iff_eq, beq_eq_false_iff_ne, bne_iff_ne, bne_eq_false_iff_eq, Bool.not_eq_true', Bool.not_eq_false', ne_eq, Int.not_lt, Int.not_le, ge_iff_le, gt_iff_lt] at f3
        rw [Int.toNat_natCast] at f3; have hl1 : (1 + (lines s (i + 1) : Int)) = 1 + lines s i + 1 := by rw [lines_succ, if_pos (by omega)]; omega
        refine c_region ?_
        refine o_pv trivial rfl rfl ?_
        first | (refine o_add trivial rfl rfl rfl ?_ ?_; (omega)) | refine o_pv trivial rfl rfl ?_
        refine o_pv trivial rfl rfl ?_
        refine o_nil ?_
        refine blk_n ?_
        refine then_c ?_
        refine c_region ?_
        refine o_pv trivial rfl rfl ?_
        first | (refine o_add trivial rfl rfl rfl ?_ ?_; (omega)) | refine o_pv trivial rfl rfl ?_
        refine o_pv trivial rfl rfl ?_
        refine o_nil ?_
        exact again (i + 1) (by rw [hl1]; exact (sub_cons rfl (sub_cons rfl (sub_cons rfl (sub_cons rfl (sub_cons rfl (sub_cons rfl sub_nil))))))) (fun _ h => h) (by show s.size - (i + 1) < s.size - i; omega) (by omega)
      · skip
        have f3 := h3
        try simp only [Bool.or_eq_true, Bool.and_eq_true, Bool.or_eq_false_iff, Bool.and_eq_false_iff, decide_eq_true_eq, decide_eq_false_iff_not, beq_iff_eq, beq_eq_false_iff_ne, bne_iff_ne, bne_eq_false_iff_eq, Bool.not_eq_true', Bool.not_eq_false', ne_eq, Int.not_lt, Int.not_le, ge_iff_le, gt_iff_lt] at f3
        rw [Int.toNat_natCast] at f3; have hl1 : (1 + (lines s (i + 1) : Int)) = 1 + lines s i := by rw [lines_succ, if_neg (by omega)]; omega
        refine c_skip ?_
        refine blk_n ?_
        refine then_c ?_
        refine c_region ?_
        refine o_pv trivial rfl rfl ?_
        first | (refine o_add trivial rfl rfl rfl ?_ ?_; (omega)) | refine o_pv trivial rfl rfl ?_
        refine o_pv trivial rfl rfl ?_
        refine o_nil ?_
        exact again (i + 1) (by rw [hl1]; exact (sub_cons rfl (sub_cons rfl (sub_cons rfl (sub_cons rfl (sub_cons rfl (sub_cons rfl sub_nil))))))) (fun _ h => h) (by show s.size - (i + 1) < s.size - i; omega) (by omega)
    · skip
      have f2 := h2
      try simp only [Bool.or_eq_true, Bool.and_eq_true, Bool.or_eq_false_iff, Bool.and_eq_false_iff, decide_eq_true_eq, decide_eq_false_iff_not, beq_iff_eq, beq_eq_false_iff_ne, bne_iff_ne, bne_eq_false_iff_eq, Bool.not_eq_true', Bool.not_eq_false', ne_eq, Int.not_lt, Int.not_le, ge_iff_le, gt_iff_lt] at f2
      refine c_exit ?_
      refine then_x ?_
      refine then_x ?_
      refine blk_eq rfl ?_
      refine then_c ?_
      refine c_seq ?_
      refine c_region ?_
      refine o_pv trivial rfl rfl ?_
      refine o_pv trivial rfl rfl ?_
      first | refine o_convIn trivial rfl Tryd.underlying35 Tryd.underlying3 rfl (by rw [IntWalk.i64_in _ (by omega)]) ?_ | refine o_conv trivial rfl Tryd.underlying35 Tryd.underlying3 rfl ?_
      refine o_callQ trivial rfl Tryd.call20 rfl (place_any _ _ (by first | omega | decide | (simp only [ByteArray.size_append, lit_size, strOf_size, List.size_toArray, List.length_cons, List.length_nil]; omega))) ?_
      refine o_alloc trivial rfl Tryd.zeroValue32 rfl (fun b10 => ?_)
      refine o_store trivial rfl rfl rfl Tryd.sizeOf32 rfl rfl (by first | exact .here | exact .there .here | exact .there (.there .here) | exact .there (.there (.there .here)) | exact .there (.there (.there (.there .here))) | exact .there (.there (.there (.there (.there .here))))) (by repeat constructor) ?_
      refine o_nil ?_
      refine then_c ?_
      refine c_seq ?_
      refine c_region ?_
      refine o_pv trivial rfl rfl ?_
      refine o_cat trivial rfl rfl rfl (by first | omega | (simp only [ByteArray.size_append, lit_size, strOf_size, List.size_toArray, List.length_cons, List.length_nil]; omega)) ?_
      refine o_pv trivial rfl rfl ?_
      refine o_cat trivial rfl rfl rfl (by first | omega | (simp only [ByteArray.size_append, lit_size, strOf_size, List.size_toArray, List.length_cons, List.length_nil]; omega)) ?_
      refine o_pv trivial rfl rfl ?_
      refine o_lenS trivial rfl Tryd.underlying9 rfl ?_
      first | (refine o_add trivial rfl rfl rfl ?_ ?_; (omega)) | refine o_pv trivial rfl rfl ?_
      refine o_pv trivial rfl rfl ?_
      first | refine o_convIn trivial rfl Tryd.underlying35 Tryd.underlying3 rfl (by rw [IntWalk.i64_in _ (by omega)]) ?_ | refine o_conv trivial rfl Tryd.underlying35 Tryd.underlying3 rfl ?_
      first | (refine o_add trivial rfl rfl rfl ?_ ?_; (omega)) | refine o_pv trivial rfl rfl ?_
      refine o_callQ trivial rfl Tryd.call20 rfl (place_any _ _ (by first | omega | decide | (simp only [ByteArray.size_append, lit_size, strOf_size, List.size_toArray, List.length_cons, List.length_nil]; omega))) ?_
      refine o_alloc trivial rfl Tryd.zeroValue32 rfl (fun b11 => ?_)
      refine o_store trivial rfl rfl rfl Tryd.sizeOf32 rfl rfl (by first | exact .here | exact .there .here | exact .there (.there .here) | exact .there (.there (.there .here)) | exact .there (.there (.there (.there .here))) | exact .there (.there (.there (.there (.there .here))))) (by repeat constructor) ?_
      refine o_nil ?_
      refine then_c ?_
      refine c_seq ?_
      refine c_region ?_
      refine o_pv trivial rfl rfl ?_
      refine' o_and trivial trivial rfl rfl rfl rfl rfl rfl rfl rfl (fun hb50 => ?_) ?_
      rotate_left
      · skip
        have fb50 := hb50
        try simp only [Bool.or_eq_true, Bool.and_eq_true, Bool.or_eq_false_iff, Bool.and_eq_false_iff, decide_eq_true_eq, decide_eq_false_iff_not, beq_iff_eq, beq_eq_false_iff_ne, bne_iff_ne, bne_eq_false_iff_eq, Bool.not_eq_true', Bool.not_eq_false', ne_eq, Int.not_lt, Int.not_le, ge_iff_le, gt_iff_lt] at fb50
        refine o_fieldAddr (T := 3) (off := 0) (wants_some rfl rfl hb50) rfl Tryd.underlying32 rfl rfl rfl Tryd.sizeOf3 rfl rfl ?_
        refine o_load1 (wants_some rfl rfl hb50) rfl Tryd.isAgg3 rfl (by first | exact .head _ | exact .tail _ (.head _) | exact .tail _ (.tail _ (.head _)) | exact .tail _ (.tail _ (.tail _ (.head _))) | exact .tail _ (.tail _ (.tail _ (.tail _ (.head _)))) | exact .tail _ (.tail _ (.tail _ (.tail _ (.tail _ (.head _)))))) (by repeat constructor) ?_
        refine o_fieldAddr (T := 3) (off := 0) (wants_some rfl rfl hb50) rfl Tryd.underlying32 rfl rfl rfl Tryd.sizeOf3 rfl rfl ?_
        refine o_load1 (wants_some rfl rfl hb50) rfl Tryd.isAgg3 rfl (by first | exact .head _ | exact .tail _ (.head _) | exact .tail _ (.tail _ (.head _)) | exact .tail _ (.tail _ (.tail _ (.head _))) | exact .tail _ (.tail _ (.tail _ (.tail _ (.head _)))) | exact .tail _ (.tail _ (.tail _ (.tail _ (.tail _ (.head _)))))) (by repeat constructor) ?_
        refine o_pv (wants_some rfl rfl hb50) rfl rfl ?_
        first | (refine o_add (wants_some rfl rfl hb50) rfl rfl rfl ?_ ?_; (omega)) | refine o_pv (wants_some rfl rfl hb50) rfl rfl ?_
        refine o_pv (wants_some rfl rfl hb50) rfl rfl ?_
        refine o_nil ?_
        exact joins rfl
      refine' o_and trivial trivial rfl rfl rfl rfl rfl rfl rfl rfl (fun hb59 => ?_) ?_
      rotate_left
      · skip
        have fb59 := hb59
        try simp only [Bool.or_eq_true, Bool.and_eq_true, Bool.or_eq_false_iff, Bool.and_eq_false_iff, decide_eq_true_eq, decide_eq_false_iff_not, beq_iff_eq, beq_eq_false_iff_ne, bne_iff_ne, bne_eq_false_iff_eq, Bool.not_eq_true', Bool.not_eq_false', ne_eq, Int.not_lt, Int.not_le, ge_iff_le, gt_iff_lt] at fb59
        refine o_fieldAddr (T := 3) (off := 1) (wants_some rfl rfl hb59) rfl Tryd.underlying32 rfl rfl rfl Tryd.sizeOf3 rfl rfl ?_
        refine o_load1 (wants_some rfl rfl hb59) rfl Tryd.isAgg3 rfl (by first | exact .head _ | exact .tail _ (.head _) | exact .tail _ (.tail _ (.head _)) | exact .tail _ (.tail _ (.tail _ (.head _))) | exact .tail _ (.tail _ (.tail _ (.tail _ (.head _)))) | exact .tail _ (.tail _ (.tail _ (.tail _ (.tail _ (.head _)))))) (by repeat constructor) ?_
        refine o_fieldAddr (T := 3) (off := 1) (wants_some rfl rfl hb59) rfl Tryd.underlying32 rfl rfl rfl Tryd.sizeOf3 rfl rfl ?_
        refine o_load1 (wants_some rfl rfl hb59) rfl Tryd.isAgg3 rfl (by first | exact .head _ | exact .tail _ (.head _) | exact .tail _ (.tail _ (.head _)) | exact .tail _ (.tail _ (.tail _ (.head _))) | exact .tail _ (.tail _ (.tail _ (.tail _ (.head _)))) | exact .tail _ (.tail _ (.tail _ (.tail _ (.tail _ (.head _)))))) (by repeat constructor) ?_
        refine o_pv (wants_some rfl rfl hb59) rfl rfl ?_
        refine o_nil ?_
        exact joins rfl
      refine o_pv trivial rfl rfl ?_
      refine o_nil ?_
      refine then_c ?_
      refine c_ret ?_
      refine ret1 rfl rfl ?_
      refine leaf0 (congrArg Value.bool ?_); rw [lines_law s t at_ ha.1, show i = s.size by omega]; simp
theorem longer_law (s : ByteArray) (b : Int) (hs : nameZ s = true) (hb : 0 ≤ b ∧ b ≤ 255) : (true && nameZ (s ++ strOf [b]) == (decide (b < 128) && (kindZ (IntKind.i32.wrap b) == 1 || kindZ (IntKind.i32.wrap b) == 2) && decide (((s ++ strOf [b]).size : Int) ≤ 40) && !keyZ (s ++ strOf [b])) && !nameZ (⟨#[48]⟩ ++ s) && !nameZ (s ++ ⟨#[32]⟩)) = true := by
  obtain ⟨k, rfl⟩ : ∃ k : Nat, b = k := ⟨b.toNat, by omega⟩
  have hw : IntKind.i32.wrap (k : Int) = k := by unfold IntKind.wrap; simp [IntKind.signed, IntKind.bits]; omega
  have hbyte : ((strOf [(k : Int)]).get! 0).toNat = k := by
    show (UInt8.ofNat (k : Int).toNat).toNat = k
    rw [Int.toNat_natCast, UInt8.toNat_ofNat', Nat.mod_eq_of_lt (by omega)]
  rw [name_more s (strOf [(k : Int)]) k hs (strOf_size _) hbyte, name_more s ⟨#[32]⟩ 32 hs rfl rfl, name_ahead, hw, ByteArray.size_append, strOf_size]
  have e1 : decide ((k : Int) < 128) = decide (k < 128) := decide_eq_decide.2 (by omega)
  have e2 : decide (((s.size + [(k : Int)].length : Nat) : Int) ≤ 40) = decide (s.size + 1 ≤ 40) := decide_eq_decide.2 (by simp; omega)
  have e3 : (kindZ (32 : Nat) == 1 || kindZ (32 : Nat) == 2) = false := by decide
  rw [e1, e2, e3]
  simp
theorem SignLonger_any (s : ByteArray) (b : Int) {I : Hp} (hT : Tabs I) (hb : 0 ≤ b ∧ b ≤ 255) : Fun Tryd.prog 9 [.string s, .int .u8 b] I [] (fun v _ _ => v = .bool true) := by
  intro w hw
  refine enter2 _ Tryd.func9 rfl Tryd.ntmps9 rfl ?_ hw
  refine c_seq ?_
  refine c_region ?_
  refine o_pv trivial rfl rfl ?_
  refine o_nil ?_
  refine then_c ?_
  refine c_seq ?_
  refine c_region ?_
  refine o_callQ trivial rfl Tryd.call15 rfl (awake_any hT) ?_
  refine o_pv trivial rfl rfl ?_
  refine o_nil ?_
  refine then_c ?_
  refine c_seq ?_
  refine c_seq ?_
  refine c_region ?_
  refine o_pv trivial rfl rfl ?_
  refine o_lenS trivial rfl Tryd.underlying9 rfl ?_
  refine o_pv trivial rfl rfl ?_
  refine' o_or trivial trivial rfl rfl rfl rfl rfl rfl rfl rfl (fun hb13 => ?_) ?_
  rotate_left
  · skip
    have fb13 := hb13
    try simp only [Bool.or_eq_true, Bool.and_eq_true, Bool.or_eq_false_iff, Bool.and_eq_false_iff, decide_eq_true_eq, decide_eq_false_iff_not, beq_iff_eq, beq_eq_false_iff_ne, bne_iff_ne, bne_eq_false_iff_eq, Bool.not_eq_true', Bool.not_eq_false', ne_eq, Int.not_lt, Int.not_le, ge_iff_le, gt_iff_lt] at fb13
    refine o_pv (wants_some rfl rfl hb13) rfl rfl ?_
    refine o_callQ (wants_some rfl rfl hb13) rfl Tryd.call22 rfl (name_any _ (by first | omega | decide | (simp only [ByteArray.size_append, lit_size, strOf_size, List.size_toArray, List.length_cons, List.length_nil]; omega))) ?_
    refine o_pv (wants_some rfl rfl hb13) rfl rfl ?_
    refine o_nil ?_
    exact joins rfl
  refine o_nil ?_
  refine then_c ?_
  refine c_cond rfl (fun h1 => ?_) (fun h1 => ?_)
  · skip
    have f1 := h1
    try simp only [Bool.or_eq_true, Bool.and_eq_true, Bool.or_eq_false_iff, Bool.and_eq_false_iff, decide_eq_true_eq, decide_eq_false_iff_not, beq_iff_eq, beq_eq_false_iff_ne, bne_iff_ne, bne_eq_false_iff_eq, Bool.not_eq_true', Bool.not_eq_false', ne_eq, Int.not_lt, Int.not_le, ge_iff_le, gt_iff_lt] at f1
    refine c_seq ?_
    refine c_region ?_
    refine o_pv trivial rfl rfl ?_
    refine o_pv trivial rfl rfl ?_
    refine o_nil ?_
    refine then_c ?_
    refine c_ret ?_
    refine then_r ?_
    refine ret1 rfl rfl ?_
    refine leaf0 ?_; rfl
  · skip
    have f1 := h1
    try simp only [Bool.or_eq_true, Bool.and_eq_true, Bool.or_eq_false_iff, Bool.and_eq_false_iff, decide_eq_true_eq, decide_eq_false_iff_not, beq_iff_eq, beq_eq_false_iff_ne, bne_iff_ne, bne_eq_false_iff_eq, Bool.not_eq_true', Bool.not_eq_false', ne_eq, Int.not_lt, Int.not_le, ge_iff_le, gt_iff_lt] at f1
    refine c_skip ?_
    refine then_c ?_
    refine c_seq ?_
    refine c_region ?_
    refine o_pv trivial rfl rfl ?_
    refine o_pv trivial rfl rfl ?_
    refine o_buildSl trivial rfl Tryd.underlying37 Tryd.sizeOf5 Tryd.zeroValue5 (by decide) (by decide) rfl (by repeat first | exact rfl | constructor) rfl (fun b21 => ?_)
    refine o_bytesStr (ns := [b]) trivial rfl Tryd.underlying37 Tryd.underlying5 Tryd.underlying9 rfl (by first | exact .head _ | exact .tail _ (.head _) | exact .tail _ (.tail _ (.head _)) | exact .tail _ (.tail _ (.tail _ (.head _))) | exact .tail _ (.tail _ (.tail _ (.tail _ (.head _)))) | exact .tail _ (.tail _ (.tail _ (.tail _ (.tail _ (.head _)))))) rfl ?_
    refine o_cat trivial rfl rfl rfl (by first | omega | (simp only [ByteArray.size_append, lit_size, strOf_size, List.size_toArray, List.length_cons, List.length_nil]; omega)) ?_
    refine o_pv trivial rfl rfl ?_
    refine o_nil ?_
    refine then_c ?_
    refine c_seq ?_
    refine c_region ?_
    refine o_pv trivial rfl rfl ?_
    refine o_conv trivial rfl Tryd.underlying5 Tryd.underlying21 rfl ?_
    refine o_callP trivial rfl Tryd.call16 rfl (kind_any _) ?_
    refine o_pv trivial rfl rfl ?_
    refine o_nil ?_
    refine then_c ?_
    refine c_seq ?_
    refine c_region ?_
    refine o_pv trivial rfl rfl ?_
    refine o_pv trivial rfl rfl ?_
    refine' o_and trivial trivial rfl rfl rfl rfl rfl rfl rfl rfl (fun hb29 => ?_) ?_
    rotate_left
    · skip
      refine o_pv (wants_some rfl rfl hb29) rfl rfl ?_
      refine o_pv (wants_some rfl rfl hb29) rfl rfl ?_
      refine' o_or (wants_some rfl rfl hb29) (wants_some rfl rfl hb29) rfl rfl rfl rfl rfl rfl rfl rfl (fun hb32 => ?_) ?_
      rotate_left
      · skip
        refine o_pv (wants_some rfl rfl hb32) rfl rfl ?_
        refine o_pv (wants_some rfl rfl hb32) rfl rfl ?_
        refine o_nil ?_
        exact joins rfl
      refine o_nil ?_
      exact joins rfl
    refine' o_and trivial trivial rfl rfl rfl rfl rfl rfl rfl rfl (fun hb37 => ?_) ?_
    rotate_left
    · skip
      have fb37 := hb37
      try simp only [Bool.or_eq_true, Bool.and_eq_true, Bool.or_eq_false_iff, Bool.and_eq_false_iff, decide_eq_true_eq, decide_eq_false_iff_not, beq_iff_eq, beq_eq_false_iff_ne, bne_iff_ne, bne_eq_false_iff_eq, Bool.not_eq_true', Bool.not_eq_false', ne_eq, Int.not_lt, Int.not_le, ge_iff_le, gt_iff_lt] at fb37
      refine o_pv (wants_some rfl rfl hb37) rfl rfl ?_
      refine o_lenS (wants_some rfl rfl hb37) rfl Tryd.underlying9 rfl ?_
      refine o_pv (wants_some rfl rfl hb37) rfl rfl ?_
      refine o_nil ?_
      exact joins rfl
    refine' o_and trivial trivial rfl rfl rfl rfl rfl rfl rfl rfl (fun hb42 => ?_) ?_
    rotate_left
    · skip
      have fb42 := hb42
      try simp only [Bool.or_eq_true, Bool.and_eq_true, Bool.or_eq_false_iff, Bool.and_eq_false_iff, decide_eq_true_eq, decide_eq_false_iff_not, beq_iff_eq, beq_eq_false_iff_ne, bne_iff_ne, bne_eq_false_iff_eq, Bool.not_eq_true', Bool.not_eq_false', ne_eq, Int.not_lt, Int.not_le, ge_iff_le, gt_iff_lt] at fb42
      refine o_pv (wants_some rfl rfl hb42) rfl rfl ?_
      refine o_callP (wants_some rfl rfl hb42) rfl Tryd.call24 rfl (key_any _) ?_
      refine o_pv (wants_some rfl rfl hb42) rfl rfl ?_
      refine o_nil ?_
      exact joins rfl
    refine o_pv trivial rfl rfl ?_
    refine o_nil ?_
    refine then_c ?_
    refine c_seq ?_
    refine c_region ?_
    refine o_pv trivial rfl rfl ?_
    refine' o_and trivial trivial rfl rfl rfl rfl rfl rfl rfl rfl (fun hb48 => ?_) ?_
    rotate_left
    · skip
      have fb48 := hb48
      try simp only [Bool.or_eq_true, Bool.and_eq_true, Bool.or_eq_false_iff, Bool.and_eq_false_iff, decide_eq_true_eq, decide_eq_false_iff_not, beq_iff_eq, beq_eq_false_iff_ne, bne_iff_ne, bne_eq_false_iff_eq, Bool.not_eq_true', Bool.not_eq_false', ne_eq, Int.not_lt, Int.not_le, ge_iff_le, gt_iff_lt] at fb48
      refine o_pv (wants_some rfl rfl hb48) rfl rfl ?_
      refine o_callQ (wants_some rfl rfl hb48) rfl Tryd.call22 rfl (name_any _ (by first | omega | decide | (simp only [ByteArray.size_append, lit_size, strOf_size, List.size_toArray, List.length_cons, List.length_nil]; omega))) ?_
      refine o_pv (wants_some rfl rfl hb48) rfl rfl ?_
      refine o_eqlB (wants_some rfl rfl hb48) rfl rfl rfl Tryd.underlying4 ?_
      refine o_nil ?_
      exact joins rfl
    refine' o_and trivial trivial rfl rfl rfl rfl rfl rfl rfl rfl (fun hb54 => ?_) ?_
    rotate_left
    · skip
      have fb54 := hb54
      try simp only [Bool.or_eq_true, Bool.and_eq_true, Bool.or_eq_false_iff, Bool.and_eq_false_iff, decide_eq_true_eq, decide_eq_false_iff_not, beq_iff_eq, beq_eq_false_iff_ne, bne_iff_ne, bne_eq_false_iff_eq, Bool.not_eq_true', Bool.not_eq_false', ne_eq, Int.not_lt, Int.not_le, ge_iff_le, gt_iff_lt] at fb54
      refine o_pv (wants_some rfl rfl hb54) rfl rfl ?_
      refine o_cat (wants_some rfl rfl hb54) rfl rfl rfl (by first | omega | (simp only [ByteArray.size_append, lit_size, strOf_size, List.size_toArray, List.length_cons, List.length_nil]; omega)) ?_
      refine o_callQ (wants_some rfl rfl hb54) rfl Tryd.call22 rfl (name_any _ (by first | omega | decide | (simp only [ByteArray.size_append, lit_size, strOf_size, List.size_toArray, List.length_cons, List.length_nil]; omega))) ?_
      refine o_pv (wants_some rfl rfl hb54) rfl rfl ?_
      refine o_nil ?_
      exact joins rfl
    refine' o_and trivial trivial rfl rfl rfl rfl rfl rfl rfl rfl (fun hb60 => ?_) ?_
    rotate_left
    · skip
      have fb60 := hb60
      try simp only [Bool.or_eq_true, Bool.and_eq_true, Bool.or_eq_false_iff, Bool.and_eq_false_iff, decide_eq_true_eq, decide_eq_false_iff_not, beq_iff_eq, beq_eq_false_iff_ne, bne_iff_ne, bne_eq_false_iff_eq, Bool.not_eq_true', Bool.not_eq_false', ne_eq, Int.not_lt, Int.not_le, ge_iff_le, gt_iff_lt] at fb60
      refine o_pv (wants_some rfl rfl hb60) rfl rfl ?_
      refine o_cat (wants_some rfl rfl hb60) rfl rfl rfl (by first | omega | (simp only [ByteArray.size_append, lit_size, strOf_size, List.size_toArray, List.length_cons, List.length_nil]; omega)) ?_
      refine o_callQ (wants_some rfl rfl hb60) rfl Tryd.call22 rfl (name_any _ (by first | omega | decide | (simp only [ByteArray.size_append, lit_size, strOf_size, List.size_toArray, List.length_cons, List.length_nil]; omega))) ?_
      refine o_pv (wants_some rfl rfl hb60) rfl rfl ?_
      refine o_nil ?_
      exact joins rfl
    refine o_pv trivial rfl rfl ?_
    refine o_nil ?_
    refine then_c ?_
    refine c_ret ?_
    refine ret1 rfl rfl ?_
    refine leaf0 (congrArg Value.bool ?_); exact longer_law s b f1.2 hb
end Go.Proofs.YtmflkokhhknlaaaDoor
