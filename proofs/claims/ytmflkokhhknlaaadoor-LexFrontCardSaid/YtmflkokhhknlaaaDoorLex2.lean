/-
  Chapter 10: lists of tokens beside each other.
-/
import Derived.Test.YtmflkokhhknlaaaDoorLex
namespace Go.Proofs.YtmflkokhhknlaaaDoor
open Go Go.Tw
set_option linter.unusedVariables false
set_option linter.unusedSimpArgs false
set_option linter.unnecessarySimpa false
set_option maxHeartbeats 1000000
theorem tok_get {A : List Tok} {i : Nat} (h : i < A.length) : (A.map Tok.cells)[i]? = some (A[i]).cells := by simp [h]
theorem same_any (va vb : Value) (A : List Tok) {I : Hp} (ha : Slc I 4 va (A.map Tok.cells)) (hb : Slc I 4 vb (A.map Tok.cells)) : Fun Tryd.prog 29 [va, vb] I [] (fun v _ _ => v = .bool true) := by
  have hm := ha.most
  rw [List.length_map] at hm
  unfold maxLen at hm
  intro w hw
  refine enter2 _ Tryd.func29 rfl Tryd.ntmps29 rfl ?_ hw
  refine c_seq ?_
  refine c_region ?_
  refine o_pv trivial rfl rfl ?_
  refine o_nil ?_
  refine then_c ?_
  refine c_seq ?_
  refine c_seq ?_
  refine c_region ?_
  refine o_pv trivial rfl rfl ?_
  refine o_lenSlc trivial rfl Tryd.underlying39 rfl ha ?_
  refine o_pv trivial rfl rfl ?_
  refine o_lenSlc trivial rfl Tryd.underlying39 rfl hb ?_
  refine o_pv trivial rfl rfl ?_
  refine o_nil ?_
  refine then_c ?_
  refine c_cond rfl (fun h1 => ?_) (fun h1 => ?_)
  · skip
    have f1 := h1
    try simp only [Bool.or_eq_true, Bool.and_eq_true, Bool.or_eq_false_iff, Bool.and_eq_false_iff, decide_eq_true_eq, decide_eq_false_iff_not, beq_iff_eq, beq_eq_false_iff_ne, bne_iff_ne, bne_eq_false_iff_eq, Bool.not_eq_true', Bool.not_eq_false', ne_eq, Int.not_lt, Int.not_le, ge_iff_le, gt_iff_lt] at f1
    exfalso; simp at f1
  · skip
    have f1 := h1
    try simp only [Bool.or_eq_true, Bool.and_eq_true, Bool.or_eq_false_iff, Bool.and_eq_false_iff, decide_eq_true_eq, decide_eq_false_iff_not, beq_iff_eq, beq_eq_false_iff_ne, bne_iff_ne, bne_eq_false_iff_eq, Bool.not_eq_true', Bool.not_eq_false', ne_eq, Int.not_lt, Int.not_le, ge_iff_le, gt_iff_lt] at f1
    refine c_skip ?_
    refine then_c ?_
    refine c_seq ?_
    refine c_seq ?_
    refine c_region ?_
    refine o_pv trivial rfl rfl ?_
    refine o_nil ?_
    refine then_c ?_
    refine c_block ?_
    refine c_loop (ι := Nat) [0, 1] (.cons rfl (.cons rfl .nil)) (fun x => A.length - x) (fun x E0 => (5, .int .i64 (x : Int)) :: E0) (fun x => St w [] I []) (fun x => x ≤ A.length) (0) (sub_cons rfl (sub_cons rfl (sub_cons rfl sub_nil))) (fun _ h => h) (Nat.zero_le _) ?_
    rintro i hle
    try dsimp only
    refine c_seq ?_
    refine c_seq ?_
    refine c_region ?_
    refine o_pv trivial rfl rfl ?_
    refine o_pv trivial rfl rfl ?_
    refine o_lenSlc trivial rfl Tryd.underlying39 rfl ha ?_
    refine o_pv trivial rfl rfl ?_
    refine o_nil ?_
    refine then_c ?_
    refine c_cond rfl (fun h2 => ?_) (fun h2 => ?_)
    · skip
      have f2 := h2
      try simp only [Bool.or_eq_true, Bool.and_eq_true, Bool.or_eq_false_iff, Bool.and_eq_false_iff, decide_eq_true_eq, decide_eq_false_iff_not, beq_iff_eq, beq_eq_false_iff_ne, bne_iff_ne, bne_eq_false_iff_eq, Bool.not_eq_true', Bool.not_eq_false', ne_eq, Int.not_lt, Int.not_le, ge_iff_le, gt_iff_lt] at f2
      rw [List.length_map] at f2; have hi : i < A.length := by omega
      refine c_skip ?_
      refine then_c ?_
      refine c_seq ?_
      refine c_block ?_
      refine c_seq ?_
      refine c_quiet (by kernel_rfl) (by kernel_rfl) (fun _ h => h.drawn) ?_
      refine o_pv trivial rfl rfl ?_
      refine o_pv trivial rfl rfl ?_
      refine o_elem trivial rfl Tryd.underlying39 Tryd.sizeOf45 rfl ha rfl (by rw [List.length_map]; omega) ?_
      refine o_loadAI trivial rfl Tryd.isAgg45 Tryd.sizeOf45 rfl rfl (ha.cells _ _ (tok_get (i := i) hi)) ?_
      refine o_pv trivial rfl rfl ?_
      refine o_pv trivial rfl rfl ?_
      refine o_elem trivial rfl Tryd.underlying39 Tryd.sizeOf45 rfl hb rfl (by rw [List.length_map]; omega) ?_
      refine o_loadAI trivial rfl Tryd.isAgg45 Tryd.sizeOf45 rfl rfl (hb.cells _ _ (tok_get (i := i) hi)) ?_
      refine o_neqV trivial rfl rfl rfl Tryd.eqGuardType45 (EqV.struct Tryd.underlying45 Tryd.stoodInHeld45 (EqP.cons (T := 3) (o := 0) (by decide) rfl rfl (.one Tryd.isAgg3 (by repeat constructor)) (.one Tryd.isAgg3 (by repeat constructor)) (EqV.int Tryd.underlying3) (EqP.cons (T := 9) (o := 1) (by decide) rfl rfl (.one Tryd.isAgg9 (by repeat constructor)) (.one Tryd.isAgg9 (by repeat constructor)) (EqV.str Tryd.underlying9) (EqP.last (T := 32) (o := 2) (by decide) rfl rfl (.agg Tryd.isAgg32 Tryd.sizeOf32 (by repeat constructor)) (.agg Tryd.isAgg32 Tryd.sizeOf32 (by repeat constructor)) (EqV.struct Tryd.underlying32 Tryd.stoodInHeld32 (EqP.cons (T := 3) (o := 0) (by decide) rfl rfl (.one Tryd.isAgg3 (by repeat constructor)) (.one Tryd.isAgg3 (by repeat constructor)) (EqV.int Tryd.underlying3) (EqP.last (T := 3) (o := 1) (by decide) rfl rfl (.one Tryd.isAgg3 (by repeat constructor)) (.one Tryd.isAgg3 (by repeat constructor)) (EqV.int Tryd.underlying3)))))))) ?_
      refine o_nil ?_
      refine then_c ?_
      refine c_cond rfl (fun h3 => ?_) (fun h3 => ?_)
      · skip
        have f3 := h3
        try simp only [Bool.or_eq_true, Bool.and_eq_true, Bool.or_eq_false_iff, Bool.and_eq_false_iff, decide_eq_true_eq, decide_eq_false_iff_not, beq_iff_eq, beq_eq_false_iff_ne, bne_iff_ne, bne_eq_false_iff_eq, Bool.not_eq_true', Bool.not_eq_false', ne_eq, Int.not_lt, Int.not_le, ge_iff_le, gt_iff_lt] at f3
        exfalso; simp at h3
      · skip
        have f3 := h3
        try simp only [Bool.or_eq_true, Bool.and_eq_true, Bool.or_eq_false_iff, Bool.and_eq_false_iff, decide_eq_true_eq, decide_eq_false_iff_not, beq_iff_eq, beq_eq_false_iff_ne, bne_iff_ne, bne_eq_false_iff_eq, Bool.not_eq_true', Bool.not_eq_false', ne_eq, Int.not_lt, Int.not_le, ge_iff_le, gt_iff_lt] at f3
        refine c_skip ?_
        refine blk_n ?_
        refine then_c ?_
        refine c_region ?_
        refine o_pv trivial rfl rfl ?_
        first | (refine o_add trivial rfl rfl rfl ?_ ?_; (omega)) | refine o_pv trivial rfl rfl ?_
        refine o_pv trivial rfl rfl ?_
        refine o_nil ?_
        exact again (i + 1) (sub_cons rfl (sub_cons rfl (sub_cons rfl sub_nil))) (fun _ h => h) (by show A.length - (i + 1) < A.length - i; omega) (by omega)
    · skip
      have f2 := h2
      try simp only [Bool.or_eq_true, Bool.and_eq_true, Bool.or_eq_false_iff, Bool.and_eq_false_iff, decide_eq_true_eq, decide_eq_false_iff_not, beq_iff_eq, beq_eq_false_iff_ne, bne_iff_ne, bne_eq_false_iff_eq, Bool.not_eq_true', Bool.not_eq_false', ne_eq, Int.not_lt, Int.not_le, ge_iff_le, gt_iff_lt] at f2
      refine c_exit ?_
      refine then_x ?_
      refine then_x ?_
      refine blk_eq rfl ?_
      refine then_c ?_
      refine c_seq ?_
      refine c_region ?_
      refine o_pv trivial rfl rfl ?_
      refine o_nil ?_
      refine then_c ?_
      refine c_ret ?_
      refine ret1 rfl rfl ?_
      exact leaf0 rfl
theorem texts_any (va vb : Value) (A B : List Tok) {I : Hp} (ha : Slc I 4 va (A.map Tok.cells)) (hb : Slc I 4 vb (B.map Tok.cells)) (hl : A.length = B.length) (hq : ∀ i (h1 : i < A.length) (h2 : i < B.length), (A[i]).kind = (B[i]).kind ∧ (A[i]).text = (B[i]).text) : Fun Tryd.prog 32 [va, vb] I [] (fun v _ _ => v = .bool true) := by
  have hm := ha.most
  rw [List.length_map] at hm
  unfold maxLen at hm
  intro w hw
  refine enter2 _ Tryd.func32 rfl Tryd.ntmps32 rfl ?_ hw
  refine c_seq ?_
  refine c_region ?_
  refine o_pv trivial rfl rfl ?_
  refine o_nil ?_
  refine then_c ?_
  refine c_seq ?_
  refine c_seq ?_
  refine c_region ?_
  refine o_pv trivial rfl rfl ?_
  refine o_lenSlc trivial rfl Tryd.underlying39 rfl ha ?_
  refine o_pv trivial rfl rfl ?_
  refine o_lenSlc trivial rfl Tryd.underlying39 rfl hb ?_
  refine o_pv trivial rfl rfl ?_
  refine o_nil ?_
  refine then_c ?_
  refine c_cond rfl (fun h1 => ?_) (fun h1 => ?_)
  · skip
    have f1 := h1
    try simp only [Bool.or_eq_true, Bool.and_eq_true, Bool.or_eq_false_iff, Bool.and_eq_false_iff, decide_eq_true_eq, decide_eq_false_iff_not, beq_iff_eq, beq_eq_false_iff_ne, bne_iff_ne, bne_eq_false_iff_eq, Bool.not_eq_true', Bool.not_eq_false', ne_eq, Int.not_lt, Int.not_le, ge_iff_le, gt_iff_lt] at f1
    exfalso; rw [List.length_map, List.length_map] at f1; omega
  · skip
    have f1 := h1
    try simp only [Bool.or_eq_true, Bool.and_eq_true, Bool.or_eq_false_iff, Bool.and_eq_false_iff, decide_eq_true_eq, decide_eq_false_iff_not, beq_iff_eq, beq_eq_false_iff_ne, bne_iff_ne, bne_eq_false_iff_eq, Bool.not_eq_true', Bool.not_eq_false', ne_eq, Int.not_lt, Int.not_le, ge_iff_le, gt_iff_lt] at f1
    refine c_skip ?_
    refine then_c ?_
    refine c_seq ?_
    refine c_seq ?_
    refine c_region ?_
    refine o_pv trivial rfl rfl ?_
    refine o_nil ?_
    refine then_c ?_
    refine c_block ?_
    refine c_loop (ι := Nat) [0, 1] (.cons rfl (.cons rfl .nil)) (fun x => A.length - x) (fun x E0 => (5, .int .i64 (x : Int)) :: E0) (fun x => St w [] I []) (fun x => x ≤ A.length) (0) (sub_cons rfl (sub_cons rfl (sub_cons rfl sub_nil))) (fun _ h => h) (Nat.zero_le _) ?_
    rintro i hle
    try dsimp only
    refine c_seq ?_
    refine c_seq ?_
    refine c_region ?_
    refine o_pv trivial rfl rfl ?_
    refine o_pv trivial rfl rfl ?_
    refine o_lenSlc trivial rfl Tryd.underlying39 rfl ha ?_
    refine o_pv trivial rfl rfl ?_
    refine o_nil ?_
    refine then_c ?_
    refine c_cond rfl (fun h2 => ?_) (fun h2 => ?_)
    · skip
      have f2 := h2
      try simp only [Bool.or_eq_true, Bool.and_eq_true, Bool.or_eq_false_iff, Bool.and_eq_false_iff, decide_eq_true_eq, decide_eq_false_iff_not, beq_iff_eq, beq_eq_false_iff_ne, bne_iff_ne, bne_eq_false_iff_eq, Bool.not_eq_true', Bool.not_eq_false', ne_eq, Int.not_lt, Int.not_le, ge_iff_le, gt_iff_lt] at f2
      rw [List.length_map] at f2; have hi : i < A.length := by omega
      have hj : i < B.length := by omega
      have hqi := hq i hi hj
      refine c_skip ?_
      refine then_c ?_
      refine c_seq ?_
      refine c_block ?_
      refine c_seq ?_
      refine c_quiet (by kernel_rfl) (by kernel_rfl) (fun _ h => h.drawn) ?_
      refine o_pv trivial rfl rfl ?_
      refine o_pv trivial rfl rfl ?_
      refine o_elem trivial rfl Tryd.underlying39 Tryd.sizeOf45 rfl ha rfl (by rw [List.length_map]; omega) ?_
      refine o_fieldAddr (T := 3) (off := 0) trivial rfl Tryd.underlying45 rfl rfl rfl Tryd.sizeOf3 rfl rfl ?_
      refine o_load1I trivial rfl Tryd.isAgg3 rfl (ha.cells _ _ (tok_get (i := i) hi) 0 _ rfl) ?_
      refine o_pv trivial rfl rfl ?_
      refine o_pv trivial rfl rfl ?_
      refine o_elem trivial rfl Tryd.underlying39 Tryd.sizeOf45 rfl hb rfl (by rw [List.length_map]; omega) ?_
      refine o_fieldAddr (T := 3) (off := 0) trivial rfl Tryd.underlying45 rfl rfl rfl Tryd.sizeOf3 rfl rfl ?_
      refine o_load1I trivial rfl Tryd.isAgg3 rfl (hb.cells _ _ (tok_get (i := i) hj) 0 _ rfl) ?_
      refine o_pv trivial rfl rfl ?_
      refine' o_or trivial trivial rfl rfl rfl rfl rfl rfl rfl rfl (fun hb28 => ?_) ?_
      rotate_left
      · skip
        have fb28 := hb28
        try simp only [Bool.or_eq_true, Bool.and_eq_true, Bool.or_eq_false_iff, Bool.and_eq_false_iff, decide_eq_true_eq, decide_eq_false_iff_not, beq_iff_eq, beq_eq_false_iff_ne, bne_iff_ne, bne_eq_false_iff_eq, Bool.not_eq_true', Bool.not_eq_false', ne_eq, Int.not_lt, Int.not_le, ge_iff_le, gt_iff_lt] at fb28
        refine o_pv (wants_some rfl rfl hb28) rfl rfl ?_
        refine o_pv (wants_some rfl rfl hb28) rfl rfl ?_
        refine o_elem (wants_some rfl rfl hb28) rfl Tryd.underlying39 Tryd.sizeOf45 rfl ha rfl (by rw [List.length_map]; omega) ?_
        refine o_fieldAddr (T := 9) (off := 1) (wants_some rfl rfl hb28) rfl Tryd.underlying45 rfl rfl rfl Tryd.sizeOf9 rfl rfl ?_
        refine o_load1I (wants_some rfl rfl hb28) rfl Tryd.isAgg9 rfl (ha.cells _ _ (tok_get (i := i) hi) 1 _ rfl) ?_
        refine o_pv (wants_some rfl rfl hb28) rfl rfl ?_
        refine o_pv (wants_some rfl rfl hb28) rfl rfl ?_
        refine o_elem (wants_some rfl rfl hb28) rfl Tryd.underlying39 Tryd.sizeOf45 rfl hb rfl (by rw [List.length_map]; omega) ?_
        refine o_fieldAddr (T := 9) (off := 1) (wants_some rfl rfl hb28) rfl Tryd.underlying45 rfl rfl rfl Tryd.sizeOf9 rfl rfl ?_
        refine o_load1I (wants_some rfl rfl hb28) rfl Tryd.isAgg9 rfl (hb.cells _ _ (tok_get (i := i) hj) 1 _ rfl) ?_
        refine o_pv (wants_some rfl rfl hb28) rfl rfl ?_
        refine o_nil ?_
        exact joins rfl
      refine o_nil ?_
      refine then_c ?_
      refine c_cond rfl (fun h3 => ?_) (fun h3 => ?_)
      · skip
        have f3 := h3
        try simp only [Bool.or_eq_true, Bool.and_eq_true, Bool.or_eq_false_iff, Bool.and_eq_false_iff, decide_eq_true_eq, decide_eq_false_iff_not, beq_iff_eq, beq_eq_false_iff_ne, bne_iff_ne, bne_eq_false_iff_eq, Bool.not_eq_true', Bool.not_eq_false', ne_eq, Int.not_lt, Int.not_le, ge_iff_le, gt_iff_lt] at f3
        exfalso; rcases f3 with f3 | f3
        · exact f3 hqi.1
        · rw [hqi.2] at f3; simp at f3
      · skip
        have f3 := h3
        try simp only [Bool.or_eq_true, Bool.and_eq_true, Bool.or_eq_false_iff, Bool.and_eq_false_iff, decide_eq_true_eq, decide_eq_false_iff_not, beq_iff_eq, beq_eq_false_iff_ne, bne_iff_ne, bne_eq_false_iff_eq, Bool.not_eq_true', Bool.not_eq_false', ne_eq, Int.not_lt, Int.not_le, ge_iff_le, gt_iff_lt] at f3
        refine c_skip ?_
        refine blk_n ?_
        refine then_c ?_
        refine c_region ?_
        refine o_pv trivial rfl rfl ?_
        first | (refine o_add trivial rfl rfl rfl ?_ ?_; (omega)) | refine o_pv trivial rfl rfl ?_
        refine o_pv trivial rfl rfl ?_
        refine o_nil ?_
        exact again (i + 1) (sub_cons rfl (sub_cons rfl (sub_cons rfl sub_nil))) (fun _ h => h) (by show A.length - (i + 1) < A.length - i; omega) (by omega)
    · skip
      have f2 := h2
      try simp only [Bool.or_eq_true, Bool.and_eq_true, Bool.or_eq_false_iff, Bool.and_eq_false_iff, decide_eq_true_eq, decide_eq_false_iff_not, beq_iff_eq, beq_eq_false_iff_ne, bne_iff_ne, bne_eq_false_iff_eq, Bool.not_eq_true', Bool.not_eq_false', ne_eq, Int.not_lt, Int.not_le, ge_iff_le, gt_iff_lt] at f2
      refine c_exit ?_
      refine then_x ?_
      refine then_x ?_
      refine blk_eq rfl ?_
      refine then_c ?_
      refine c_seq ?_
      refine c_region ?_
      refine o_pv trivial rfl rfl ?_
      refine o_nil ?_
      refine then_c ?_
      refine c_ret ?_
      refine ret1 rfl rfl ?_
      exact leaf0 rfl
end Go.Proofs.YtmflkokhhknlaaaDoor
