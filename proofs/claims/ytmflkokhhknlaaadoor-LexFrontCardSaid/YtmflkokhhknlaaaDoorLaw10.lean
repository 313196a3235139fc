/-
  Chapter 10's laws: what each returns.
-/
import Derived.Test.YtmflkokhhknlaaaDoorLex2
import Derived.Test.YtmflkokhhknlaaaDoorLex5
namespace Go.Proofs.YtmflkokhhknlaaaDoor
open Go Go.Tw
set_option linter.unusedVariables false
set_option linter.unusedSimpArgs false
set_option linter.unnecessarySimpa false
set_option maxHeartbeats 1000000
def awk : List Tok := [⟨0, ⟨#[120, 49]⟩, 1, 1⟩, ⟨2, ⟨#[42]⟩, 1, 3⟩, ⟨1, ⟨#[50, 124, 51]⟩, 1, 4⟩]
theorem awk_num : numZ ⟨#[50, 124, 51]⟩ = true := by unfold numZ; simp only [ByteArray.toList_eq]; kernel_rfl
theorem awk_eq : lexZ ⟨#[120, 49, 42, 50, 124, 51]⟩ = ⟨awk, 0, 0, 0⟩ := by kernel_rfl
theorem awake10_any {I : Hp} (hT : Tabs I) (hM : Mx I) : Fun Tryd.prog 26 [] I [] (fun v _ _ => v = .bool true) := by
  have hl := lex_any ⟨#[120, 49, 42, 50, 124, 51]⟩ hT hM (by decide)
  rw [awk_eq] at hl
  intro w hw
  refine enter0 _ Tryd.func26 rfl Tryd.ntmps26 ?_ hw
  refine c_seq ?_
  refine c_region ?_
  refine o_pv trivial rfl rfl ?_
  refine o_nil ?_
  refine then_c ?_
  refine c_seq ?_
  refine c_region ?_
  refine o_callI trivial rfl Tryd.call27 rfl hl ?_
  rintro _ I1 hx1 ⟨u1, rfl, hs1⟩
  refine o_pv trivial rfl rfl ?_
  refine o_pv trivial rfl rfl ?_
  refine o_pv trivial rfl rfl ?_
  refine o_pv trivial rfl rfl ?_
  refine o_alloc trivial rfl Tryd.zeroValue32 rfl (fun b2 => ?_)
  refine o_pv trivial rfl rfl ?_
  refine o_store trivial rfl rfl rfl Tryd.sizeOf32 rfl rfl (by first | exact .here | exact .there .here | exact .there (.there .here) | exact .there (.there (.there .here)) | exact .there (.there (.there (.there .here))) | exact .there (.there (.there (.there (.there .here))))) (by repeat constructor) ?_
  refine o_pv trivial rfl rfl ?_
  refine o_nil ?_
  refine then_c ?_
  refine c_seq ?_
  refine c_seq ?_
  refine c_region ?_
  refine o_pv trivial rfl rfl ?_
  refine o_lenSlc trivial rfl Tryd.underlying39 rfl hs1 ?_
  refine o_pv trivial rfl rfl ?_
  refine' o_or trivial trivial rfl rfl rfl rfl rfl rfl rfl rfl (fun hb12 => ?_) ?_
  rotate_left
  · skip
    refine o_pv (wants_some rfl rfl hb12) rfl rfl ?_
    refine o_pv (wants_some rfl rfl hb12) rfl rfl ?_
    refine o_nil ?_
    exact joins rfl
  refine o_nil ?_
  refine then_c ?_
  refine c_cond rfl (fun h1 => ?_) (fun h1 => ?_)
  · skip
    have f1 := h1
    try simp only [Bool.or_eq_true, Bool.and_eq_true, Bool.or_eq_false_iff, Bool.and_eq_false_iff, decide_eq_true_eq, decide_eq_false_iff_not, beq_iff_eq, beq_eq_false_iff_ne, bne_iff_ne, bne_eq_false_iff_eq, Bool.not_eq_true', Bool.not_eq_false', ne_eq, Int.not_lt, Int.not_le, ge_iff_le, gt_iff_lt] at f1
    exfalso; revert h1; decide
  · skip
    have f1 := h1
    try simp only [Bool.or_eq_true, Bool.and_eq_true, Bool.or_eq_false_iff, Bool.and_eq_false_iff, decide_eq_true_eq, decide_eq_false_iff_not, beq_iff_eq, beq_eq_false_iff_ne, bne_iff_ne, bne_eq_false_iff_eq, Bool.not_eq_true', Bool.not_eq_false', ne_eq, Int.not_lt, Int.not_le, ge_iff_le, gt_iff_lt] at f1
    refine c_skip ?_
    refine then_c ?_
    refine c_seq ?_
    refine c_region ?_
    refine o_pv trivial rfl rfl ?_
    refine o_elem trivial rfl Tryd.underlying39 Tryd.sizeOf45 rfl hs1 rfl (by decide) ?_
    refine o_fieldAddr (T := 9) (off := 1) trivial rfl Tryd.underlying45 rfl rfl rfl Tryd.sizeOf9 rfl rfl ?_
    refine o_load1I trivial rfl Tryd.isAgg9 rfl (hs1.cells 0 _ rfl 1 _ rfl) ?_
    refine o_pv trivial rfl rfl ?_
    refine' o_and trivial trivial rfl rfl rfl rfl rfl rfl rfl rfl (fun hb21 => ?_) ?_
    rotate_left
    · skip
      have fb21 := hb21
      try simp only [Bool.or_eq_true, Bool.and_eq_true, Bool.or_eq_false_iff, Bool.and_eq_false_iff, decide_eq_true_eq, decide_eq_false_iff_not, beq_iff_eq, beq_eq_false_iff_ne, bne_iff_ne, bne_eq_false_iff_eq, Bool.not_eq_true', Bool.not_eq_false', ne_eq, Int.not_lt, Int.not_le, ge_iff_le, gt_iff_lt] at fb21
      refine o_pv (wants_some rfl rfl hb21) rfl rfl ?_
      refine o_elem (wants_some rfl rfl hb21) rfl Tryd.underlying39 Tryd.sizeOf45 rfl hs1 rfl (by decide) ?_
      refine o_fieldAddr (T := 3) (off := 0) (wants_some rfl rfl hb21) rfl Tryd.underlying45 rfl rfl rfl Tryd.sizeOf3 rfl rfl ?_
      refine o_load1I (wants_some rfl rfl hb21) rfl Tryd.isAgg3 rfl (hs1.cells 0 _ rfl 0 _ rfl) ?_
      refine o_pv (wants_some rfl rfl hb21) rfl rfl ?_
      refine o_nil ?_
      exact joins rfl
    refine' o_and trivial trivial rfl rfl rfl rfl rfl rfl rfl rfl (fun hb28 => ?_) ?_
    rotate_left
    · skip
      have fb28 := hb28
      try simp only [Bool.or_eq_true, Bool.and_eq_true, Bool.or_eq_false_iff, Bool.and_eq_false_iff, decide_eq_true_eq, decide_eq_false_iff_not, beq_iff_eq, beq_eq_false_iff_ne, bne_iff_ne, bne_eq_false_iff_eq, Bool.not_eq_true', Bool.not_eq_false', ne_eq, Int.not_lt, Int.not_le, ge_iff_le, gt_iff_lt] at fb28
      refine o_pv (wants_some rfl rfl hb28) rfl rfl ?_
      refine o_elem (wants_some rfl rfl hb28) rfl Tryd.underlying39 Tryd.sizeOf45 rfl hs1 rfl (by decide) ?_
      refine o_fieldAddr (T := 9) (off := 1) (wants_some rfl rfl hb28) rfl Tryd.underlying45 rfl rfl rfl Tryd.sizeOf9 rfl rfl ?_
      refine o_load1I (wants_some rfl rfl hb28) rfl Tryd.isAgg9 rfl (hs1.cells 1 _ rfl 1 _ rfl) ?_
      refine o_pv (wants_some rfl rfl hb28) rfl rfl ?_
      refine o_nil ?_
      exact joins rfl
    refine' o_and trivial trivial rfl rfl rfl rfl rfl rfl rfl rfl (fun hb35 => ?_) ?_
    rotate_left
    · skip
      have fb35 := hb35
      try simp only [Bool.or_eq_true, Bool.and_eq_true, Bool.or_eq_false_iff, Bool.and_eq_false_iff, decide_eq_true_eq, decide_eq_false_iff_not, beq_iff_eq, beq_eq_false_iff_ne, bne_iff_ne, bne_eq_false_iff_eq, Bool.not_eq_true', Bool.not_eq_false', ne_eq, Int.not_lt, Int.not_le, ge_iff_le, gt_iff_lt] at fb35
      refine o_pv (wants_some rfl rfl hb35) rfl rfl ?_
      refine o_elem (wants_some rfl rfl hb35) rfl Tryd.underlying39 Tryd.sizeOf45 rfl hs1 rfl (by decide) ?_
      refine o_fieldAddr (T := 3) (off := 0) (wants_some rfl rfl hb35) rfl Tryd.underlying45 rfl rfl rfl Tryd.sizeOf3 rfl rfl ?_
      refine o_load1I (wants_some rfl rfl hb35) rfl Tryd.isAgg3 rfl (hs1.cells 1 _ rfl 0 _ rfl) ?_
      refine o_pv (wants_some rfl rfl hb35) rfl rfl ?_
      refine o_nil ?_
      exact joins rfl
    refine' o_and trivial trivial rfl rfl rfl rfl rfl rfl rfl rfl (fun hb42 => ?_) ?_
    rotate_left
    · skip
      have fb42 := hb42
      try simp only [Bool.or_eq_true, Bool.and_eq_true, Bool.or_eq_false_iff, Bool.and_eq_false_iff, decide_eq_true_eq, decide_eq_false_iff_not, beq_iff_eq, beq_eq_false_iff_ne, bne_iff_ne, bne_eq_false_iff_eq, Bool.not_eq_true', Bool.not_eq_false', ne_eq, Int.not_lt, Int.not_le, ge_iff_le, gt_iff_lt] at fb42
      refine o_pv (wants_some rfl rfl hb42) rfl rfl ?_
      refine o_elem (wants_some rfl rfl hb42) rfl Tryd.underlying39 Tryd.sizeOf45 rfl hs1 rfl (by decide) ?_
      refine o_fieldAddr (T := 9) (off := 1) (wants_some rfl rfl hb42) rfl Tryd.underlying45 rfl rfl rfl Tryd.sizeOf9 rfl rfl ?_
      refine o_load1I (wants_some rfl rfl hb42) rfl Tryd.isAgg9 rfl (hs1.cells 2 _ rfl 1 _ rfl) ?_
      refine o_pv (wants_some rfl rfl hb42) rfl rfl ?_
      refine o_nil ?_
      exact joins rfl
    refine' o_and trivial trivial rfl rfl rfl rfl rfl rfl rfl rfl (fun hb49 => ?_) ?_
    rotate_left
    · skip
      have fb49 := hb49
      try simp only [Bool.or_eq_true, Bool.and_eq_true, Bool.or_eq_false_iff, Bool.and_eq_false_iff, decide_eq_true_eq, decide_eq_false_iff_not, beq_iff_eq, beq_eq_false_iff_ne, bne_iff_ne, bne_eq_false_iff_eq, Bool.not_eq_true', Bool.not_eq_false', ne_eq, Int.not_lt, Int.not_le, ge_iff_le, gt_iff_lt] at fb49
      refine o_pv (wants_some rfl rfl hb49) rfl rfl ?_
      refine o_elem (wants_some rfl rfl hb49) rfl Tryd.underlying39 Tryd.sizeOf45 rfl hs1 rfl (by decide) ?_
      refine o_fieldAddr (T := 3) (off := 0) (wants_some rfl rfl hb49) rfl Tryd.underlying45 rfl rfl rfl Tryd.sizeOf3 rfl rfl ?_
      refine o_load1I (wants_some rfl rfl hb49) rfl Tryd.isAgg3 rfl (hs1.cells 2 _ rfl 0 _ rfl) ?_
      refine o_pv (wants_some rfl rfl hb49) rfl rfl ?_
      refine o_nil ?_
      exact joins rfl
    refine' o_and trivial trivial rfl rfl rfl rfl rfl rfl rfl rfl (fun hb56 => ?_) ?_
    rotate_left
    · skip
      have fb56 := hb56
      try simp only [Bool.or_eq_true, Bool.and_eq_true, Bool.or_eq_false_iff, Bool.and_eq_false_iff, decide_eq_true_eq, decide_eq_false_iff_not, beq_iff_eq, beq_eq_false_iff_ne, bne_iff_ne, bne_eq_false_iff_eq, Bool.not_eq_true', Bool.not_eq_false', ne_eq, Int.not_lt, Int.not_le, ge_iff_le, gt_iff_lt] at fb56
      refine o_pv (wants_some rfl rfl hb56) rfl rfl ?_
      refine o_elem (wants_some rfl rfl hb56) rfl Tryd.underlying39 Tryd.sizeOf45 rfl hs1 rfl (by decide) ?_
      refine o_fieldAddr (T := 32) (off := 2) (wants_some rfl rfl hb56) rfl Tryd.underlying45 rfl rfl rfl Tryd.sizeOf32 rfl rfl ?_
      refine o_loadAI (wants_some rfl rfl hb56) rfl Tryd.isAgg32 Tryd.sizeOf32 rfl rfl (fun k y hk => by have hc := hs1.cells 2 _ rfl (2 + k) y (by rw [Nat.add_comm]; exact hk); rw [← Nat.add_assoc] at hc; exact hc) ?_
      refine o_buildS (wants_some rfl rfl hb56) rfl (bld32) rfl (.cons rfl rfl rfl (by repeat constructor) (.cons rfl rfl rfl (by repeat constructor) .nil)) ?_
      refine o_eqlV (wants_some rfl rfl hb56) rfl rfl rfl Tryd.eqGuardType32 (EqV.struct Tryd.underlying32 Tryd.stoodInHeld32 (EqP.cons (T := 3) (o := 0) (by decide) rfl rfl (.one Tryd.isAgg3 (by repeat constructor)) (.one Tryd.isAgg3 (by repeat constructor)) (EqV.int Tryd.underlying3) (EqP.last (T := 3) (o := 1) (by decide) rfl rfl (.one Tryd.isAgg3 (by repeat constructor)) (.one Tryd.isAgg3 (by repeat constructor)) (EqV.int Tryd.underlying3)))) ?_
      refine o_nil ?_
      exact joins rfl
    refine' o_and trivial trivial rfl rfl rfl rfl rfl rfl rfl rfl (fun hb64 => ?_) ?_
    rotate_left
    · skip
      have fb64 := hb64
      try simp only [Bool.or_eq_true, Bool.and_eq_true, Bool.or_eq_false_iff, Bool.and_eq_false_iff, decide_eq_true_eq, decide_eq_false_iff_not, beq_iff_eq, beq_eq_false_iff_ne, bne_iff_ne, bne_eq_false_iff_eq, Bool.not_eq_true', Bool.not_eq_false', ne_eq, Int.not_lt, Int.not_le, ge_iff_le, gt_iff_lt] at fb64
      refine o_loadA (wants_some rfl rfl hb64) rfl Tryd.isAgg32 Tryd.sizeOf32 rfl (by first | exact .head _ | exact .tail _ (.head _) | exact .tail _ (.tail _ (.head _)) | exact .tail _ (.tail _ (.tail _ (.head _))) | exact .tail _ (.tail _ (.tail _ (.tail _ (.head _)))) | exact .tail _ (.tail _ (.tail _ (.tail _ (.tail _ (.head _)))))) (by repeat constructor) ?_
      refine o_buildS (wants_some rfl rfl hb64) rfl (bld32) rfl .nil ?_
      refine o_eqlV (wants_some rfl rfl hb64) rfl rfl rfl Tryd.eqGuardType32 (EqV.struct Tryd.underlying32 Tryd.stoodInHeld32 (EqP.cons (T := 3) (o := 0) (by decide) rfl rfl (.one Tryd.isAgg3 (by repeat constructor)) (.one Tryd.isAgg3 (by repeat constructor)) (EqV.int Tryd.underlying3) (EqP.last (T := 3) (o := 1) (by decide) rfl rfl (.one Tryd.isAgg3 (by repeat constructor)) (.one Tryd.isAgg3 (by repeat constructor)) (EqV.int Tryd.underlying3)))) ?_
      refine o_nil ?_
      exact joins rfl
    refine' o_and trivial trivial rfl rfl rfl rfl rfl rfl rfl rfl (fun hb69 => ?_) ?_
    rotate_left
    · skip
      have fb69 := hb69
      try simp only [Bool.or_eq_true, Bool.and_eq_true, Bool.or_eq_false_iff, Bool.and_eq_false_iff, decide_eq_true_eq, decide_eq_false_iff_not, beq_iff_eq, beq_eq_false_iff_ne, bne_iff_ne, bne_eq_false_iff_eq, Bool.not_eq_true', Bool.not_eq_false', ne_eq, Int.not_lt, Int.not_le, ge_iff_le, gt_iff_lt] at fb69
      refine o_callQ (wants_some rfl rfl hb69) rfl Tryd.call30 rfl (number_any _ (hM.le hx1.le) (by decide)) ?_
      refine o_nil ?_
      exact joins rfl
    refine o_pv trivial rfl rfl ?_
    refine o_nil ?_
    refine then_c ?_
    refine c_ret ?_
    refine ret1 rfl rfl ?_
    refine leaf hx1 (List.nil_sublist _) (congrArg Value.bool ?_); rw [awk_num]; simp only [ByteArray.toList_eq]; kernel_rfl
theorem LexTells_any (s : ByteArray) {I : Hp} (hT : Tabs I) (hM : Mx I) : Fun Tryd.prog 10 [.string s] I [] (fun v _ _ => v = .bool true) := by
  intro w hw
  refine enter1 _ Tryd.func10 rfl Tryd.ntmps10 rfl ?_ hw
  refine c_seq ?_
  refine c_region ?_
  refine o_pv trivial rfl rfl ?_
  refine o_nil ?_
  refine then_c ?_
  refine c_seq ?_
  refine c_region ?_
  refine o_callQ trivial rfl Tryd.call26 rfl (awake10_any hT hM) ?_
  refine o_pv trivial rfl rfl ?_
  refine o_nil ?_
  refine then_c ?_
  refine c_seq ?_
  refine c_seq ?_
  refine c_region ?_
  refine o_pv trivial rfl rfl ?_
  refine o_lenS trivial rfl Tryd.underlying9 rfl ?_
  refine o_pv trivial rfl rfl ?_
  refine o_nil ?_
  refine then_c ?_
  refine c_cond rfl (fun h1 => ?_) (fun h1 => ?_)
  · skip
    have f1 := h1
    try simp only [Bool.or_eq_true, Bool.and_eq_true, Bool.or_eq_false_iff, Bool.and_eq_false_iff, decide_eq_true_eq, decide_eq_false_iff_not, beq_iff_eq, beq_eq_false_iff_ne, bne_iff_ne, bne_eq_false_iff_eq, Bool.not_eq_true', Bool.not_eq_false', ne_eq, Int.not_lt, Int.not_le, ge_iff_le, gt_iff_lt] at f1
    refine c_seq ?_
    refine c_region ?_
    refine o_pv trivial rfl rfl ?_
    refine o_pv trivial rfl rfl ?_
    refine o_nil ?_
    refine then_c ?_
    refine c_ret ?_
    refine then_r ?_
    refine ret1 rfl rfl ?_
    refine leaf0 rfl
  · skip
    have f1 := h1
    try simp only [Bool.or_eq_true, Bool.and_eq_true, Bool.or_eq_false_iff, Bool.and_eq_false_iff, decide_eq_true_eq, decide_eq_false_iff_not, beq_iff_eq, beq_eq_false_iff_ne, bne_iff_ne, bne_eq_false_iff_eq, Bool.not_eq_true', Bool.not_eq_false', ne_eq, Int.not_lt, Int.not_le, ge_iff_le, gt_iff_lt] at f1
    refine c_skip ?_
    refine then_c ?_
    refine c_seq ?_
    refine c_region ?_
    refine o_pv trivial rfl rfl ?_
    refine o_callI trivial rfl Tryd.call27 rfl (lex_any _ hT hM (by first | omega | decide | (simp only [ByteArray.size_append, lit_size, strOf_size, List.size_toArray, List.length_cons, List.length_nil]; omega))) ?_
    rintro _ I1 hx1 ⟨u1, rfl, hs1⟩
    refine o_pv trivial rfl rfl ?_
    refine o_pv trivial rfl rfl ?_
    refine o_pv trivial rfl rfl ?_
    refine o_pv trivial rfl rfl ?_
    refine o_alloc trivial rfl Tryd.zeroValue32 rfl (fun b5 => ?_)
    refine o_pv trivial rfl rfl ?_
    refine o_store trivial rfl rfl rfl Tryd.sizeOf32 rfl rfl (by first | exact .here | exact .there .here | exact .there (.there .here) | exact .there (.there (.there .here)) | exact .there (.there (.there (.there .here))) | exact .there (.there (.there (.there (.there .here))))) (by repeat constructor) ?_
    refine o_pv trivial rfl rfl ?_
    refine o_nil ?_
    refine then_c ?_
    refine c_seq ?_
    refine c_region ?_
    refine o_pv trivial rfl rfl ?_
    refine o_callI trivial rfl Tryd.call28 rfl (rLex_any _ (by omega)) ?_
    rintro _ I2 hx2 ⟨u2, rfl, hs2⟩
    refine o_pv trivial rfl rfl ?_
    refine o_pv trivial rfl rfl ?_
    refine o_pv trivial rfl rfl ?_
    refine o_pv trivial rfl rfl ?_
    refine o_alloc trivial rfl Tryd.zeroValue32 rfl (fun b8 => ?_)
    refine o_pv trivial rfl rfl ?_
    refine o_store trivial rfl rfl rfl Tryd.sizeOf32 rfl rfl (by first | exact .here | exact .there .here | exact .there (.there .here) | exact .there (.there (.there .here)) | exact .there (.there (.there (.there .here))) | exact .there (.there (.there (.there (.there .here))))) (by repeat constructor) ?_
    refine o_pv trivial rfl rfl ?_
    refine o_nil ?_
    refine then_c ?_
    refine c_seq ?_
    refine c_region ?_
    refine o_pv trivial rfl rfl ?_
    refine' o_and trivial trivial rfl rfl rfl rfl rfl rfl rfl rfl (fun hb28 => ?_) ?_
    rotate_left
    · skip
      refine o_pv (wants_some rfl rfl hb28) rfl rfl ?_
      refine o_pv (wants_some rfl rfl hb28) rfl rfl ?_
      refine o_pv (wants_some rfl rfl hb28) rfl rfl ?_
      refine o_nil ?_
      exact joins rfl
    refine' o_and trivial trivial rfl rfl rfl rfl rfl rfl rfl rfl (fun hb33 => ?_) ?_
    rotate_left
    · skip
      have fb33 := hb33
      try simp only [Bool.or_eq_true, Bool.and_eq_true, Bool.or_eq_false_iff, Bool.and_eq_false_iff, decide_eq_true_eq, decide_eq_false_iff_not, beq_iff_eq, beq_eq_false_iff_ne, bne_iff_ne, bne_eq_false_iff_eq, Bool.not_eq_true', Bool.not_eq_false', ne_eq, Int.not_lt, Int.not_le, ge_iff_le, gt_iff_lt] at fb33
      refine o_loadA (wants_some rfl rfl hb33) rfl Tryd.isAgg32 Tryd.sizeOf32 rfl (by first | exact .head _ | exact .tail _ (.head _) | exact .tail _ (.tail _ (.head _)) | exact .tail _ (.tail _ (.tail _ (.head _))) | exact .tail _ (.tail _ (.tail _ (.tail _ (.head _)))) | exact .tail _ (.tail _ (.tail _ (.tail _ (.tail _ (.head _)))))) (by repeat constructor) ?_
      refine o_loadA (wants_some rfl rfl hb33) rfl Tryd.isAgg32 Tryd.sizeOf32 rfl (by first | exact .head _ | exact .tail _ (.head _) | exact .tail _ (.tail _ (.head _)) | exact .tail _ (.tail _ (.tail _ (.head _))) | exact .tail _ (.tail _ (.tail _ (.tail _ (.head _)))) | exact .tail _ (.tail _ (.tail _ (.tail _ (.tail _ (.head _)))))) (by repeat constructor) ?_
      refine o_eqlV (wants_some rfl rfl hb33) rfl rfl rfl Tryd.eqGuardType32 (EqV.struct Tryd.underlying32 Tryd.stoodInHeld32 (EqP.cons (T := 3) (o := 0) (by decide) rfl rfl (.one Tryd.isAgg3 (by repeat constructor)) (.one Tryd.isAgg3 (by repeat constructor)) (EqV.int Tryd.underlying3) (EqP.last (T := 3) (o := 1) (by decide) rfl rfl (.one Tryd.isAgg3 (by repeat constructor)) (.one Tryd.isAgg3 (by repeat constructor)) (EqV.int Tryd.underlying3)))) ?_
      refine o_nil ?_
      exact joins rfl
    refine' o_and trivial trivial rfl rfl rfl rfl rfl rfl rfl rfl (fun hb38 => ?_) ?_
    rotate_left
    · skip
      have fb38 := hb38
      try simp only [Bool.or_eq_true, Bool.and_eq_true, Bool.or_eq_false_iff, Bool.and_eq_false_iff, decide_eq_true_eq, decide_eq_false_iff_not, beq_iff_eq, beq_eq_false_iff_ne, bne_iff_ne, bne_eq_false_iff_eq, Bool.not_eq_true', Bool.not_eq_false', ne_eq, Int.not_lt, Int.not_le, ge_iff_le, gt_iff_lt] at fb38
      refine o_pv (wants_some rfl rfl hb38) rfl rfl ?_
      refine o_pv (wants_some rfl rfl hb38) rfl rfl ?_
      refine o_callQ (wants_some rfl rfl hb38) rfl Tryd.call29 rfl (same_any _ _ _ (hs1.le hx2.le) hs2) ?_
      refine o_nil ?_
      exact joins rfl
    refine' o_and trivial trivial rfl rfl rfl rfl rfl rfl rfl rfl (fun hb43 => ?_) ?_
    rotate_left
    · skip
      have fb43 := hb43
      try simp only [Bool.or_eq_true, Bool.and_eq_true, Bool.or_eq_false_iff, Bool.and_eq_false_iff, decide_eq_true_eq, decide_eq_false_iff_not, beq_iff_eq, beq_eq_false_iff_ne, bne_iff_ne, bne_eq_false_iff_eq, Bool.not_eq_true', Bool.not_eq_false', ne_eq, Int.not_lt, Int.not_le, ge_iff_le, gt_iff_lt] at fb43
      refine o_pv (wants_some rfl rfl hb43) rfl rfl ?_
      refine o_callQ (wants_some rfl rfl hb43) rfl Tryd.call30 rfl (number_any s (hM.le (hx1.le.trans hx2.le)) (by omega)) ?_
      refine o_pv (wants_some rfl rfl hb43) rfl rfl ?_
      refine o_callP (wants_some rfl rfl hb43) rfl Tryd.call31 rfl (rNumber_any _ (by first | omega | (simp; omega))) ?_
      refine o_eqlB (wants_some rfl rfl hb43) rfl rfl rfl Tryd.underlying4 ?_
      refine o_nil ?_
      exact joins rfl
    refine o_pv trivial rfl rfl ?_
    refine o_nil ?_
    refine then_c ?_
    refine c_ret ?_
    refine ret1 rfl rfl ?_
    refine leaf (hx1.trans hx2 (Nat.le_refl _)) (List.nil_sublist _) ?_; simp
theorem mx_of {W : World} (h : W.ShapedOpen Tryd.prog) : Mx (World.hp W) := let ⟨m, hm⟩ := Tryd.laysM145.s1_3 W h; ⟨m, hm⟩
end Go.Proofs.YtmflkokhhknlaaaDoor
