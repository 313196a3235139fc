/-
  Chapter 10's other laws: what each returns.
-/
import Derived.Test.YtmflkokhhknlaaaDoorLaw10
import Derived.Test.YtmflkokhhknlaaaDoorLexCat2
import Derived.Test.YtmflkokhhknlaaaDoorRow2
namespace Go.Proofs.YtmflkokhhknlaaaDoor
open Go Go.Tw
set_option linter.unusedVariables false
set_option linter.unusedSimpArgs false
set_option linter.unnecessarySimpa false
set_option maxHeartbeats 1000000
theorem elemz5 : ElemZ Tryd.prog 5 1 1 [.int .u8 0] := ⟨_, _, Tryd.type5, rfl, rfl, rfl, rfl, rfl⟩

theorem cells_plain (out : List Tok) : ∀ c ∈ out.map Tok.cells, plain1 c = true := by
  intro c hc
  obtain ⟨t, _, rfl⟩ := List.mem_map.1 hc
  rfl
def plusL (n i : Nat) : List Int := List.replicate i 43 ++ List.replicate (n - i) 0
theorem plusL_len {n i : Nat} (h : i ≤ n) : (plusL n i).length = n := by simp [plusL]; omega
theorem plusL_set {n i : Nat} (h : i < n) : (plusL n (i + 1)).map (Value.int .u8) = ((plusL n i).map (Value.int .u8)).take i ++ [Value.int .u8 43] ++ ((plusL n i).map (Value.int .u8)).drop (i + 1) := by
  unfold plusL
  obtain ⟨m, rfl⟩ : ∃ m, n = i + (m + 1) := ⟨n - i - 1, by omega⟩
  rw [show i + (m + 1) - (i + 1) = m by omega, show i + (m + 1) - i = m + 1 by omega]
  simp only [List.map_append, List.map_replicate]
  have e1 : (List.replicate i (Value.int .u8 43)).length = i := List.length_replicate
  rw [List.take_left' e1, List.drop_append, e1, List.drop_eq_nil_of_le (by rw [e1]; omega), show i + 1 - i = 1 by omega, List.nil_append, List.replicate_succ' (n := i), List.replicate_succ (n := m)]
  rfl
theorem plusL_all (n : Nat) : plusL n n = List.replicate n 43 := by simp [plusL]
theorem strOf_plus (n : Nat) : ∀ i, i < n → ((strOf (List.replicate n 43)).get! i).toNat = 43 := fun i hi => by
  have h : i < (strOf (List.replicate n 43)).data.size := by simp [strOf]; omega
  show (strOf (List.replicate n 43)).data[i]!.toNat = 43
  rw [getElem!_pos _ i h]
  simp [strOf]
def addOdd (s : ByteArray) : Bool → ByteArray
  | true => s ++ ⟨#[32, 35]⟩
  | false => s
def plusS (n : Nat) : ByteArray := strOf (List.replicate n 43)
theorem plusS_size (n : Nat) : (plusS n).size = n := by unfold plusS; rw [strOf_size, List.length_replicate]
theorem addOdd_size (n : Nat) (b : Bool) : (addOdd (plusS n) b).size = n + if b then 2 else 0 := by
  cases b
  · exact plusS_size n
  · show (plusS n ++ _).size = _; rw [ByteArray.size_append, plusS_size]; rfl
theorem plus_odd (n : Nat) (b : Bool) (h : n + 2 ≤ 60000) : Plus (addOdd (plusS n) b) n := by
  have hs := addOdd_size n b
  have hz := plusS_size n
  refine ⟨by rw [hs]; omega, by rw [hs]; split <;> omega, fun i hi => ?_⟩
  have hp := strOf_plus n i hi
  cases b
  · exact hp
  · show ((plusS n ++ _).get! i).toNat = 43
    rw [get_left _ _ _ (by omega)]; exact hp
theorem long_law1 (n : Nat) (b : Bool) (h : n + 2 ≤ 60000) (hn : 4000 < n) : lexZ (addOdd (plusS n) b) = ⟨[], 1, 4001, 4⟩ := long_most (plus_odd n b h) hn
theorem long_law2 (n : Nat) (h : n + 2 ≤ 60000) (hn : n ≤ 4000) : ∃ ts, lexZ (addOdd (plusS n) false) = ⟨ts, 0, 0, 0⟩ ∧ ts.length = n := long_fine (plus_odd n false h) hn (addOdd_size n false)
theorem long_law3 (n : Nat) (h : n + 2 ≤ 60000) (hn : n ≤ 4000) : lexZ (addOdd (plusS n) true) = ⟨[], 1, (n : Int) + 2, if n = 4000 then 4 else 5⟩ := by
  have hz := plusS_size n
  have e1 := get_right (plusS n) ⟨#[32, 35]⟩ 0
  have e2 := get_right (plusS n) ⟨#[32, 35]⟩ 1
  rw [hz] at e1 e2
  refine long_odd (plus_odd n true h) hn (addOdd_size n true) ?_ ?_
  · show ((plusS n ++ ⟨#[32, 35]⟩).get! n).toNat = 32; rw [Nat.add_zero] at e1; rw [e1]; rfl
  · show ((plusS n ++ ⟨#[32, 35]⟩).get! (n + 1)).toNat = 35; rw [e2]; rfl
theorem LexLong_any (more : Int) (odd : Bool) {I : Hp} (hT : Tabs I) (hM : Mx I) (hm : 0 ≤ more ∧ more ≤ 255) : Fun Tryd.prog 13 [.int .u8 more, .bool odd] I [] (fun v _ _ => v = .bool true) := by
  have hr : 0 ≤ more % 10 ∧ more % 10 ≤ 9 := by omega
  intro w hw
  refine enter2 _ Tryd.func13 rfl Tryd.ntmps13 rfl ?_ hw
  refine c_seq ?_
  refine c_region ?_
  refine o_pv trivial rfl rfl ?_
  refine o_nil ?_
  refine then_c ?_
  refine c_seq ?_
  refine c_region ?_
  refine o_callQ trivial rfl Tryd.call26 rfl (awake10_any hT hM) ?_
  refine o_pv trivial rfl rfl ?_
  refine o_nil ?_
  refine then_c ?_
  refine c_seq ?_
  refine c_region ?_
  refine o_pv trivial rfl rfl ?_
  refine o_rem trivial rfl rfl rfl (by omega) ?_
  first | refine o_convIn trivial rfl Tryd.underlying5 Tryd.underlying3 rfl (by rw [IntWalk.i64_in _ (by omega)]) ?_ | refine o_conv trivial rfl Tryd.underlying5 Tryd.underlying3 rfl ?_
  first | (refine o_add trivial rfl rfl rfl ?_ ?_; (omega)) | refine o_pv trivial rfl rfl ?_
  refine o_pv trivial rfl rfl ?_
  refine o_nil ?_
  refine then_c ?_
  refine c_seq ?_
  refine c_region ?_
  refine o_pv trivial rfl rfl ?_
  refine o_makeRow trivial rfl Tryd.underlying37 elemz5 rfl rfl (by omega) (by omega) (by first | omega | (unfold maxLen; omega)) (fun v19 => ?_)
  refine o_pv trivial rfl rfl ?_
  refine o_nil ?_
  refine then_c ?_
  refine c_seq ?_
  refine c_seq ?_
  refine c_region ?_
  refine o_pv trivial rfl rfl ?_
  refine o_nil ?_
  refine then_c ?_
  refine c_block ?_
  refine c_loop (ι := Nat) [1, 5, 6, 7] (.cons rfl (.cons rfl (.cons rfl (.cons rfl .nil)))) (fun i => (3995 + more % 10).toNat - i) (fun i E0 => (8, .int .i64 (i : Int)) :: E0) (fun i => St w [] I [.row v19 5 1 (3995 + more % 10).toNat ((plusL (3995 + more % 10).toNat i).map (Value.int .u8))]) (fun i => i ≤ (3995 + more % 10).toNat) (0) (sub_cons rfl (sub_cons rfl (sub_cons rfl (sub_cons rfl (sub_cons rfl sub_nil))))) (fun _ h => by rw [show (plusL (3995 + more % 10).toNat 0).map (Value.int .u8) = (madeCells [Value.int IntKind.u8 0].toArray ((3995 + more % 10).toNat * 1)).toList by rw [Nat.mul_one]; exact ((toList_madeCells_one _ _).trans (by simp [plusL])).symm]; exact h) (Nat.zero_le _) ?_
  rintro i hle
  try dsimp only
  refine c_seq ?_
  refine c_seq ?_
  refine c_region ?_
  refine o_pv trivial rfl rfl ?_
  refine o_pv trivial rfl rfl ?_
  refine o_pv trivial rfl rfl ?_
  refine o_nil ?_
  refine then_c ?_
  refine c_cond rfl (fun h1 => ?_) (fun h1 => ?_)
  · skip
    have f1 := h1
    try simp only [Bool.or_eq_true, Bool.and_eq_true, Bool.or_eq_false_iff, Bool.and_eq_false_iff, decide_eq_true_eq, decide_eq_false_iff_not, beq_iff_eq, beq_eq_false_iff_ne, bne_iff_ne, bne_eq_false_iff_eq, Bool.not_eq_true', Bool.not_eq_false', ne_eq, Int.not_lt, Int.not_le, ge_iff_le, gt_iff_lt] at f1
    refine c_skip ?_
    refine then_c ?_
    refine c_seq ?_
    refine c_block ?_
    refine c_region ?_
    refine o_pv trivial rfl rfl ?_
    refine o_pv trivial rfl rfl ?_
    refine o_elemRow trivial rfl Tryd.underlying37 Tryd.sizeOf5 rfl (by first | exact .head _ | exact .tail _ (.head _) | exact .tail _ (.tail _ (.head _)) | exact .tail _ (.tail _ (.tail _ (.head _))) | exact .tail _ (.tail _ (.tail _ (.tail _ (.head _)))) | exact .tail _ (.tail _ (.tail _ (.tail _ (.tail _ (.head _)))))) rfl (by omega) ?_
    refine o_storeRow (xs' := ((plusL (3995 + more % 10).toNat (i + 1)).map (Value.int .u8))) trivial rfl rfl rfl Tryd.sizeOf5 rfl rfl (by first | exact .here | exact .there .here | exact .there (.there .here) | exact .there (.there (.there .here)) | exact .there (.there (.there (.there .here))) | exact .there (.there (.there (.there (.there .here))))) (by decide) (by omega) (by rw [Int.toNat_natCast, Nat.mul_one]; exact plusL_set (by omega)) ?_
    refine o_nil ?_
    refine blk_n ?_
    refine then_c ?_
    refine c_region ?_
    refine o_pv trivial rfl rfl ?_
    first | (refine o_add trivial rfl rfl rfl ?_ ?_; (omega)) | refine o_pv trivial rfl rfl ?_
    refine o_pv trivial rfl rfl ?_
    refine o_nil ?_
    exact again (i + 1) (sub_cons rfl (sub_cons rfl (sub_cons rfl (sub_cons rfl (sub_cons rfl sub_nil))))) (fun _ h => h) (by show (3995 + more % 10).toNat - (i + 1) < (3995 + more % 10).toNat - i; omega) (by show i + 1 ≤ _; omega)
  · skip
    have f1 := h1
    try simp only [Bool.or_eq_true, Bool.and_eq_true, Bool.or_eq_false_iff, Bool.and_eq_false_iff, decide_eq_true_eq, decide_eq_false_iff_not, beq_iff_eq, beq_eq_false_iff_ne, bne_iff_ne, bne_eq_false_iff_eq, Bool.not_eq_true', Bool.not_eq_false', ne_eq, Int.not_lt, Int.not_le, ge_iff_le, gt_iff_lt] at f1
    refine c_exit ?_
    refine then_x ?_
    refine then_x ?_
    refine blk_eq rfl ?_
    refine then_c ?_
    refine c_seq ?_
    have hiN : i = (3995 + more % 10).toNat := by omega
    subst hiN
    refine c_imp (S' := St w [] I [.row v19 5 1 (3995 + more % 10).toNat ((List.replicate (3995 + more % 10).toNat 43).map (Value.int .u8))]) (fun _ h => by rw [← plusL_all]; exact h) ?_
    refine c_region ?_
    refine o_pv trivial rfl rfl ?_
    refine o_rowStr (ns := List.replicate (3995 + more % 10).toNat 43) trivial rfl Tryd.underlying37 Tryd.underlying5 Tryd.underlying9 rfl (by first | exact .head _ | exact .tail _ (.head _) | exact .tail _ (.tail _ (.head _)) | exact .tail _ (.tail _ (.tail _ (.head _))) | exact .tail _ (.tail _ (.tail _ (.tail _ (.head _)))) | exact .tail _ (.tail _ (.tail _ (.tail _ (.tail _ (.head _)))))) (by omega) ?_
    refine o_pv trivial rfl rfl ?_
    refine o_nil ?_
    refine then_c ?_
    refine c_cut (ι := Unit) [1, 5, 6] (.cons rfl (.cons rfl (.cons rfl .nil))) (fun x E0 => (9, .string (addOdd (plusS (3995 + more % 10).toNat) odd)) :: E0) (fun x => St w [] I []) (fun x => True) ?_ ?_
    · skip
      refine c_seq ?_
      refine c_region ?_
      refine o_pv trivial rfl rfl ?_
      refine o_nil ?_
      refine then_c ?_
      refine c_cond rfl (fun h2 => ?_) (fun h2 => ?_)
      · skip
        have f2 := h2
        try simp only [Bool.or_eq_true, Bool.and_eq_true, Bool.or_eq_false_iff, Bool.and_eq_false_iff, decide_eq_true_eq, decide_eq_false_iff_not, beq_iff_eq, beq_eq_false_iff_ne, bne_iff_ne, bne_eq_false_iff_eq, Bool.not_eq_true', Bool.not_eq_false', ne_eq, Int.not_lt, Int.not_le, ge_iff_le, gt_iff_lt] at f2
        subst f2
        refine c_region ?_
        refine o_pv trivial rfl rfl ?_
        refine o_cat trivial rfl rfl rfl (by first | omega | (simp only [ByteArray.size_append, lit_size, strOf_size, List.length_replicate, List.size_toArray, List.length_cons, List.length_nil]; omega) | (simp; omega)) ?_
        refine o_pv trivial rfl rfl ?_
        refine o_nil ?_
        exact meet () (sub_cons rfl (sub_cons rfl (sub_cons rfl (sub_cons rfl sub_nil)))) (fun _ h => h.drop (List.nil_sublist _)) trivial
      · skip
        have f2 := h2
        try simp only [Bool.or_eq_true, Bool.and_eq_true, Bool.or_eq_false_iff, Bool.and_eq_false_iff, decide_eq_true_eq, decide_eq_false_iff_not, beq_iff_eq, beq_eq_false_iff_ne, bne_iff_ne, bne_eq_false_iff_eq, Bool.not_eq_true', Bool.not_eq_false', ne_eq, Int.not_lt, Int.not_le, ge_iff_le, gt_iff_lt] at f2
        subst f2
        refine c_skip ?_
        exact meet () (sub_cons rfl (sub_cons rfl (sub_cons rfl (sub_cons rfl sub_nil)))) (fun _ h => h.drop (List.nil_sublist _)) trivial
    · skip
      rintro _ _
      try dsimp only
      refine c_seq ?_
      have hsz := addOdd_size (3995 + more % 10).toNat odd
      refine c_region ?_
      refine o_pv trivial rfl rfl ?_
      refine o_callI trivial rfl Tryd.call27 rfl (lex_any _ hT hM (by rw [hsz]; split <;> omega)) ?_
      rintro _ I1 hx1 ⟨u1, rfl, hs1⟩
      refine o_pv trivial rfl rfl ?_
      refine o_pv trivial rfl rfl ?_
      refine o_pv trivial rfl rfl ?_
      refine o_pv trivial rfl rfl ?_
      refine o_alloc trivial rfl Tryd.zeroValue32 rfl (fun b11 => ?_)
      refine o_pv trivial rfl rfl ?_
      refine o_store trivial rfl rfl rfl Tryd.sizeOf32 rfl rfl (by first | exact .here | exact .there .here | exact .there (.there .here) | exact .there (.there (.there .here)) | exact .there (.there (.there (.there .here))) | exact .there (.there (.there (.there (.there .here))))) (by repeat constructor) ?_
      refine o_pv trivial rfl rfl ?_
      refine o_nil ?_
      refine then_c ?_
      refine c_seq ?_
      refine c_seq ?_
      refine c_region ?_
      refine o_pv trivial rfl rfl ?_
      refine o_pv trivial rfl rfl ?_
      refine o_nil ?_
      refine then_c ?_
      refine c_cond rfl (fun h3 => ?_) (fun h3 => ?_)
      · skip
        have f3 := h3
        try simp only [Bool.or_eq_true, Bool.and_eq_true, Bool.or_eq_false_iff, Bool.and_eq_false_iff, decide_eq_true_eq, decide_eq_false_iff_not, beq_iff_eq, beq_eq_false_iff_ne, bne_iff_ne, bne_eq_false_iff_eq, Bool.not_eq_true', Bool.not_eq_false', ne_eq, Int.not_lt, Int.not_le, ge_iff_le, gt_iff_lt] at f3
        have hlaw := long_law1 (3995 + more % 10).toNat odd (by omega) (by omega)
        refine c_seq ?_
        refine c_region ?_
        refine o_pv trivial rfl rfl ?_
        refine' o_and trivial trivial rfl rfl rfl rfl rfl rfl rfl rfl (fun hb42 => ?_) ?_
        rotate_left
        · skip
          refine o_pv (wants_some rfl rfl hb42) rfl rfl ?_
          refine o_pv (wants_some rfl rfl hb42) rfl rfl ?_
          refine o_nil ?_
          exact joins rfl
        refine' o_and trivial trivial rfl rfl rfl rfl rfl rfl rfl rfl (fun hb46 => ?_) ?_
        rotate_left
        · skip
          have fb46 := hb46
          try simp only [Bool.or_eq_true, Bool.and_eq_true, Bool.or_eq_false_iff, Bool.and_eq_false_iff, decide_eq_true_eq, decide_eq_false_iff_not, beq_iff_eq, beq_eq_false_iff_ne, bne_iff_ne, bne_eq_false_iff_eq, Bool.not_eq_true', Bool.not_eq_false', ne_eq, Int.not_lt, Int.not_le, ge_iff_le, gt_iff_lt] at fb46
          refine o_loadA (wants_some rfl rfl hb46) rfl Tryd.isAgg32 Tryd.sizeOf32 rfl (by first | exact .head _ | exact .tail _ (.head _) | exact .tail _ (.tail _ (.head _)) | exact .tail _ (.tail _ (.tail _ (.head _))) | exact .tail _ (.tail _ (.tail _ (.tail _ (.head _)))) | exact .tail _ (.tail _ (.tail _ (.tail _ (.tail _ (.head _)))))) (by repeat constructor) ?_
          refine o_buildS (wants_some rfl rfl hb46) rfl (bld32) rfl (.cons rfl rfl rfl (by repeat constructor) (.cons rfl rfl rfl (by repeat constructor) .nil)) ?_
          refine o_eqlV (wants_some rfl rfl hb46) rfl rfl rfl Tryd.eqGuardType32 (EqV.struct Tryd.underlying32 Tryd.stoodInHeld32 (EqP.cons (T := 3) (o := 0) (by decide) rfl rfl (.one Tryd.isAgg3 (by repeat constructor)) (.one Tryd.isAgg3 (by repeat constructor)) (EqV.int Tryd.underlying3) (EqP.last (T := 3) (o := 1) (by decide) rfl rfl (.one Tryd.isAgg3 (by repeat constructor)) (.one Tryd.isAgg3 (by repeat constructor)) (EqV.int Tryd.underlying3)))) ?_
          refine o_nil ?_
          exact joins rfl
        refine' o_and trivial trivial rfl rfl rfl rfl rfl rfl rfl rfl (fun hb51 => ?_) ?_
        rotate_left
        · skip
          have fb51 := hb51
          try simp only [Bool.or_eq_true, Bool.and_eq_true, Bool.or_eq_false_iff, Bool.and_eq_false_iff, decide_eq_true_eq, decide_eq_false_iff_not, beq_iff_eq, beq_eq_false_iff_ne, bne_iff_ne, bne_eq_false_iff_eq, Bool.not_eq_true', Bool.not_eq_false', ne_eq, Int.not_lt, Int.not_le, ge_iff_le, gt_iff_lt] at fb51
          refine o_pv (wants_some rfl rfl hb51) rfl rfl ?_
          refine o_lenSlc (wants_some rfl rfl hb51) rfl Tryd.underlying39 rfl (hs1) ?_
          refine o_pv (wants_some rfl rfl hb51) rfl rfl ?_
          refine o_nil ?_
          exact joins rfl
        refine o_pv trivial rfl rfl ?_
        refine o_nil ?_
        refine then_c ?_
        refine c_ret ?_
        refine then_r ?_
        refine ret1 rfl rfl ?_
        refine leaf hx1 (List.nil_sublist _) (congrArg Value.bool ?_); rw [hlaw]; rfl
      · skip
        have f3 := h3
        try simp only [Bool.or_eq_true, Bool.and_eq_true, Bool.or_eq_false_iff, Bool.and_eq_false_iff, decide_eq_true_eq, decide_eq_false_iff_not, beq_iff_eq, beq_eq_false_iff_ne, bne_iff_ne, bne_eq_false_iff_eq, Bool.not_eq_true', Bool.not_eq_false', ne_eq, Int.not_lt, Int.not_le, ge_iff_le, gt_iff_lt] at f3
        refine c_skip ?_
        refine then_c ?_
        refine c_seq ?_
        refine c_seq ?_
        refine c_region ?_
        refine o_pv trivial rfl rfl ?_
        refine' o_and trivial trivial rfl rfl rfl rfl rfl rfl rfl rfl (fun hb57 => ?_) ?_
        rotate_left
        · skip
          refine o_pv (wants_some rfl rfl hb57) rfl rfl ?_
          refine o_pv (wants_some rfl rfl hb57) rfl rfl ?_
          refine o_nil ?_
          exact joins rfl
        refine o_nil ?_
        refine then_c ?_
        refine c_cond rfl (fun h4 => ?_) (fun h4 => ?_)
        · skip
          have f4 := h4
          try simp only [Bool.or_eq_true, Bool.and_eq_true, Bool.or_eq_false_iff, Bool.and_eq_false_iff, decide_eq_true_eq, decide_eq_false_iff_not, beq_iff_eq, beq_eq_false_iff_ne, bne_iff_ne, bne_eq_false_iff_eq, Bool.not_eq_true', Bool.not_eq_false', ne_eq, Int.not_lt, Int.not_le, ge_iff_le, gt_iff_lt] at f4
          refine c_seq ?_
          refine c_region ?_
          refine o_pv trivial rfl rfl ?_
          refine' o_and trivial trivial rfl rfl rfl rfl rfl rfl rfl rfl (fun hb62 => ?_) ?_
          rotate_left
          · skip
            refine o_pv (wants_some rfl rfl hb62) rfl rfl ?_
            refine o_pv (wants_some rfl rfl hb62) rfl rfl ?_
            refine o_nil ?_
            exact joins rfl
          refine' o_and trivial trivial rfl rfl rfl rfl rfl rfl rfl rfl (fun hb66 => ?_) ?_
          rotate_left
          · skip
            have fb66 := hb66
            try simp only [Bool.or_eq_true, Bool.and_eq_true, Bool.or_eq_false_iff, Bool.and_eq_false_iff, decide_eq_true_eq, decide_eq_false_iff_not, beq_iff_eq, beq_eq_false_iff_ne, bne_iff_ne, bne_eq_false_iff_eq, Bool.not_eq_true', Bool.not_eq_false', ne_eq, Int.not_lt, Int.not_le, ge_iff_le, gt_iff_lt] at fb66
            refine o_loadA (wants_some rfl rfl hb66) rfl Tryd.isAgg32 Tryd.sizeOf32 rfl (by first | exact .head _ | exact .tail _ (.head _) | exact .tail _ (.tail _ (.head _)) | exact .tail _ (.tail _ (.tail _ (.head _))) | exact .tail _ (.tail _ (.tail _ (.tail _ (.head _)))) | exact .tail _ (.tail _ (.tail _ (.tail _ (.tail _ (.head _)))))) (by repeat constructor) ?_
            refine o_pv (wants_some rfl rfl hb66) rfl rfl ?_
            first | (refine o_add (wants_some rfl rfl hb66) rfl rfl rfl ?_ ?_; (omega)) | refine o_pv (wants_some rfl rfl hb66) rfl rfl ?_
            refine o_buildS (wants_some rfl rfl hb66) rfl (bld32) rfl (.cons rfl rfl rfl (by repeat constructor) (.cons rfl rfl rfl (by repeat constructor) .nil)) ?_
            refine o_eqlV (wants_some rfl rfl hb66) rfl rfl rfl Tryd.eqGuardType32 (EqV.struct Tryd.underlying32 Tryd.stoodInHeld32 (EqP.cons (T := 3) (o := 0) (by decide) rfl rfl (.one Tryd.isAgg3 (by repeat constructor)) (.one Tryd.isAgg3 (by repeat constructor)) (EqV.int Tryd.underlying3) (EqP.last (T := 3) (o := 1) (by decide) rfl rfl (.one Tryd.isAgg3 (by repeat constructor)) (.one Tryd.isAgg3 (by repeat constructor)) (EqV.int Tryd.underlying3)))) ?_
            refine o_nil ?_
            exact joins rfl
          refine' o_and trivial trivial rfl rfl rfl rfl rfl rfl rfl rfl (fun hb73 => ?_) ?_
          rotate_left
          · skip
            have fb73 := hb73
            try simp only [Bool.or_eq_true, Bool.and_eq_true, Bool.or_eq_false_iff, Bool.and_eq_false_iff, decide_eq_true_eq, decide_eq_false_iff_not, beq_iff_eq, beq_eq_false_iff_ne, bne_iff_ne, bne_eq_false_iff_eq, Bool.not_eq_true', Bool.not_eq_false', ne_eq, Int.not_lt, Int.not_le, ge_iff_le, gt_iff_lt] at fb73
            refine o_pv (wants_some rfl rfl hb73) rfl rfl ?_
            refine o_lenSlc (wants_some rfl rfl hb73) rfl Tryd.underlying39 rfl (hs1) ?_
            refine o_pv (wants_some rfl rfl hb73) rfl rfl ?_
            refine o_nil ?_
            exact joins rfl
          refine o_pv trivial rfl rfl ?_
          refine o_nil ?_
          refine then_c ?_
          refine c_ret ?_
          refine then_r ?_
          refine ret1 rfl rfl ?_
          refine leaf hx1 (List.nil_sublist _) (congrArg Value.bool ?_); obtain ⟨f4a, f4b⟩ := f4; subst f4a; rw [long_law3 (3995 + more % 10).toNat (by omega) (by omega), if_pos (by omega)]; simp; omega
        · skip
          have f4 := h4
          try simp only [Bool.or_eq_true, Bool.and_eq_true, Bool.or_eq_false_iff, Bool.and_eq_false_iff, decide_eq_true_eq, decide_eq_false_iff_not, beq_iff_eq, beq_eq_false_iff_ne, bne_iff_ne, bne_eq_false_iff_eq, Bool.not_eq_true', Bool.not_eq_false', ne_eq, Int.not_lt, Int.not_le, ge_iff_le, gt_iff_lt] at f4
          refine c_skip ?_
          refine then_c ?_
          refine c_seq ?_
          refine c_seq ?_
          refine c_region ?_
          refine o_pv trivial rfl rfl ?_
          refine o_nil ?_
          refine then_c ?_
          refine c_cond rfl (fun h5 => ?_) (fun h5 => ?_)
          · skip
            have f5 := h5
            try simp only [Bool.or_eq_true, Bool.and_eq_true, Bool.or_eq_false_iff, Bool.and_eq_false_iff, decide_eq_true_eq, decide_eq_false_iff_not, beq_iff_eq, beq_eq_false_iff_ne, bne_iff_ne, bne_eq_false_iff_eq, Bool.not_eq_true', Bool.not_eq_false', ne_eq, Int.not_lt, Int.not_le, ge_iff_le, gt_iff_lt] at f5
            refine c_seq ?_
            refine c_region ?_
            refine o_pv trivial rfl rfl ?_
            refine' o_and trivial trivial rfl rfl rfl rfl rfl rfl rfl rfl (fun hb80 => ?_) ?_
            rotate_left
            · skip
              refine o_pv (wants_some rfl rfl hb80) rfl rfl ?_
              refine o_pv (wants_some rfl rfl hb80) rfl rfl ?_
              refine o_nil ?_
              exact joins rfl
            refine' o_and trivial trivial rfl rfl rfl rfl rfl rfl rfl rfl (fun hb84 => ?_) ?_
            rotate_left
            · skip
              have fb84 := hb84
              try simp only [Bool.or_eq_true, Bool.and_eq_true, Bool.or_eq_false_iff, Bool.and_eq_false_iff, decide_eq_true_eq, decide_eq_false_iff_not, beq_iff_eq, beq_eq_false_iff_ne, bne_iff_ne, bne_eq_false_iff_eq, Bool.not_eq_true', Bool.not_eq_false', ne_eq, Int.not_lt, Int.not_le, ge_iff_le, gt_iff_lt] at fb84
              refine o_loadA (wants_some rfl rfl hb84) rfl Tryd.isAgg32 Tryd.sizeOf32 rfl (by first | exact .head _ | exact .tail _ (.head _) | exact .tail _ (.tail _ (.head _)) | exact .tail _ (.tail _ (.tail _ (.head _))) | exact .tail _ (.tail _ (.tail _ (.tail _ (.head _)))) | exact .tail _ (.tail _ (.tail _ (.tail _ (.tail _ (.head _)))))) (by repeat constructor) ?_
              refine o_pv (wants_some rfl rfl hb84) rfl rfl ?_
              first | (refine o_add (wants_some rfl rfl hb84) rfl rfl rfl ?_ ?_; (omega)) | refine o_pv (wants_some rfl rfl hb84) rfl rfl ?_
              refine o_buildS (wants_some rfl rfl hb84) rfl (bld32) rfl (.cons rfl rfl rfl (by repeat constructor) (.cons rfl rfl rfl (by repeat constructor) .nil)) ?_
              refine o_eqlV (wants_some rfl rfl hb84) rfl rfl rfl Tryd.eqGuardType32 (EqV.struct Tryd.underlying32 Tryd.stoodInHeld32 (EqP.cons (T := 3) (o := 0) (by decide) rfl rfl (.one Tryd.isAgg3 (by repeat constructor)) (.one Tryd.isAgg3 (by repeat constructor)) (EqV.int Tryd.underlying3) (EqP.last (T := 3) (o := 1) (by decide) rfl rfl (.one Tryd.isAgg3 (by repeat constructor)) (.one Tryd.isAgg3 (by repeat constructor)) (EqV.int Tryd.underlying3)))) ?_
              refine o_nil ?_
              exact joins rfl
            refine' o_and trivial trivial rfl rfl rfl rfl rfl rfl rfl rfl (fun hb91 => ?_) ?_
            rotate_left
            · skip
              have fb91 := hb91
              try simp only [Bool.or_eq_true, Bool.and_eq_true, Bool.or_eq_false_iff, Bool.and_eq_false_iff, decide_eq_true_eq, decide_eq_false_iff_not, beq_iff_eq, beq_eq_false_iff_ne, bne_iff_ne, bne_eq_false_iff_eq, Bool.not_eq_true', Bool.not_eq_false', ne_eq, Int.not_lt, Int.not_le, ge_iff_le, gt_iff_lt] at fb91
              refine o_pv (wants_some rfl rfl hb91) rfl rfl ?_
              refine o_lenSlc (wants_some rfl rfl hb91) rfl Tryd.underlying39 rfl (hs1) ?_
              refine o_pv (wants_some rfl rfl hb91) rfl rfl ?_
              refine o_nil ?_
              exact joins rfl
            refine o_pv trivial rfl rfl ?_
            refine o_nil ?_
            refine then_c ?_
            refine c_ret ?_
            refine then_r ?_
            refine ret1 rfl rfl ?_
            refine leaf hx1 (List.nil_sublist _) (congrArg Value.bool ?_); subst f5; rw [long_law3 (3995 + more % 10).toNat (by omega) (by omega), if_neg (by simp at f4; omega)]; simp; omega
          · skip
            have f5 := h5
            try simp only [Bool.or_eq_true, Bool.and_eq_true, Bool.or_eq_false_iff, Bool.and_eq_false_iff, decide_eq_true_eq, decide_eq_false_iff_not, beq_iff_eq, beq_eq_false_iff_ne, bne_iff_ne, bne_eq_false_iff_eq, Bool.not_eq_true', Bool.not_eq_false', ne_eq, Int.not_lt, Int.not_le, ge_iff_le, gt_iff_lt] at f5
            refine c_skip ?_
            refine then_c ?_
            refine c_seq ?_
            refine c_region ?_
            refine o_pv trivial rfl rfl ?_
            refine' o_and trivial trivial rfl rfl rfl rfl rfl rfl rfl rfl (fun hb97 => ?_) ?_
            rotate_left
            · skip
              refine o_pv (wants_some rfl rfl hb97) rfl rfl ?_
              refine o_pv (wants_some rfl rfl hb97) rfl rfl ?_
              refine o_nil ?_
              exact joins rfl
            refine' o_and trivial trivial rfl rfl rfl rfl rfl rfl rfl rfl (fun hb101 => ?_) ?_
            rotate_left
            · skip
              have fb101 := hb101
              try simp only [Bool.or_eq_true, Bool.and_eq_true, Bool.or_eq_false_iff, Bool.and_eq_false_iff, decide_eq_true_eq, decide_eq_false_iff_not, beq_iff_eq, beq_eq_false_iff_ne, bne_iff_ne, bne_eq_false_iff_eq, Bool.not_eq_true', Bool.not_eq_false', ne_eq, Int.not_lt, Int.not_le, ge_iff_le, gt_iff_lt] at fb101
              refine o_pv (wants_some rfl rfl hb101) rfl rfl ?_
              refine o_lenSlc (wants_some rfl rfl hb101) rfl Tryd.underlying39 rfl (hs1) ?_
              refine o_pv (wants_some rfl rfl hb101) rfl rfl ?_
              refine o_pv (wants_some rfl rfl hb101) rfl rfl ?_
              refine o_nil ?_
              exact joins rfl
            refine o_pv trivial rfl rfl ?_
            refine o_nil ?_
            refine then_c ?_
            refine c_ret ?_
            refine ret1 rfl rfl ?_
            refine leaf hx1 (List.nil_sublist _) (congrArg Value.bool ?_); subst f5; obtain ⟨ts, hl1, hl2⟩ := long_law2 (3995 + more % 10).toNat (by omega) (by omega); rw [hl1]; simp [hl2]; omega
theorem Lexed.lines {s : ByteArray} {i j : Nat} {ts : List Tok} (h : Lexed s i j ts) : ∀ t ∈ ts, 1 ≤ t.line ∧ t.line ≤ 1 + s.size := by
  induction h with
  | refl => intro t ht; cases ht
  | blank a b _ ih => exact ih
  | tok a b c _ ih =>
    intro t ht
    rcases List.mem_cons.1 ht with rfl | ht
    · exact placeZ_bound s _
    · exact ih t ht
theorem lex_lines (s : ByteArray) (hs : s.size ≤ 4000) : (∀ t ∈ (lexZ s).toks, 1 ≤ t.line ∧ t.line ≤ 1 + s.size) ∧ 0 ≤ (lexZ s).line ∧ (lexZ s).line ≤ 1 + s.size ∧ (lexZ s).toks.length ≤ s.size := by
  have h := lexes s hs
  generalize lexZ s = r at h
  cases h with
  | fine a => have hf := a.few; exact ⟨a.lines, by simp, by simp only; omega, by simp only; omega⟩
  | @bad j ts a b1 b2 b3 => have hb := placeZ_bound s j; exact ⟨fun t ht => (by cases ht), by simp only; omega, by simp only; omega, by simp⟩
/-- The tokens of one text, and so many of the other one, further on. -/
def joinL (A B : List Tok) (n : Int) (i : Nat) : List Tok := A ++ (B.take i).map (Tok.down n)
theorem joinL_succ {A B : List Tok} {n : Int} {i : Nat} (h : i < B.length) : joinL A B n (i + 1) = joinL A B n i ++ [(B[i]).down n] := by
  unfold joinL
  rw [List.take_succ_eq_append_getElem h, List.map_append, List.append_assoc]; rfl
theorem joinL_all {A B : List Tok} {n : Int} {i : Nat} (h : B.length ≤ i) : joinL A B n i = A ++ B.map (Tok.down n) := by unfold joinL; rw [List.take_of_length_le h]
theorem joinL_len {A B : List Tok} {n : Int} {i : Nat} (h : i ≤ B.length) : (joinL A B n i).length = A.length + i := by unfold joinL; simp; omega
theorem LexJoins_any (s t : ByteArray) {I : Hp} (hT : Tabs I) (hM : Mx I) : Fun Tryd.prog 11 [.string s, .string t] I [] (fun v _ _ => v = .bool true) := by
  intro w hw
  refine enter2 _ Tryd.func11 rfl Tryd.ntmps11 rfl ?_ hw
  refine c_seq ?_
  refine c_region ?_
  refine o_pv trivial rfl rfl ?_
  refine o_nil ?_
  refine then_c ?_
  refine c_seq ?_
  refine c_region ?_
  refine o_callQ trivial rfl Tryd.call26 rfl (awake10_any hT hM) ?_
  refine o_pv trivial rfl rfl ?_
  refine o_nil ?_
  refine then_c ?_
  refine c_seq ?_
  refine c_seq ?_
  refine c_region ?_
  refine o_pv trivial rfl rfl ?_
  refine o_lenS trivial rfl Tryd.underlying9 rfl ?_
  refine o_pv trivial rfl rfl ?_
  refine' o_or trivial trivial rfl rfl rfl rfl rfl rfl rfl rfl (fun hb24 => ?_) ?_
  rotate_left
  · skip
    have fb24 := hb24
    try simp only [Bool.or_eq_true, Bool.and_eq_true, Bool.or_eq_false_iff, Bool.and_eq_false_iff, decide_eq_true_eq, decide_eq_false_iff_not, beq_iff_eq, beq_eq_false_iff_ne, bne_iff_ne, bne_eq_false_iff_eq, Bool.not_eq_true', Bool.not_eq_false', ne_eq, Int.not_lt, Int.not_le, ge_iff_le, gt_iff_lt] at fb24
    refine o_pv (wants_some rfl rfl hb24) rfl rfl ?_
    refine o_lenS (wants_some rfl rfl hb24) rfl Tryd.underlying9 rfl ?_
    refine o_pv (wants_some rfl rfl hb24) rfl rfl ?_
    refine o_nil ?_
    exact joins rfl
  refine o_nil ?_
  refine then_c ?_
  refine c_cond rfl (fun h1 => ?_) (fun h1 => ?_)
  · skip
    have f1 := h1
    try simp only [Bool.or_eq_true, Bool.and_eq_true, Bool.or_eq_false_iff, Bool.and_eq_false_iff, decide_eq_true_eq, decide_eq_false_iff_not, beq_iff_eq, beq_eq_false_iff_ne, bne_iff_ne, bne_eq_false_iff_eq, Bool.not_eq_true', Bool.not_eq_false', ne_eq, Int.not_lt, Int.not_le, ge_iff_le, gt_iff_lt] at f1
    refine c_seq ?_
    refine c_region ?_
    refine o_pv trivial rfl rfl ?_
    refine o_pv trivial rfl rfl ?_
    refine o_nil ?_
    refine then_c ?_
    refine c_ret ?_
    refine then_r ?_
    refine ret1 rfl rfl ?_
    refine leaf0 ?_; rfl
  · skip
    have f1 := h1
    try simp only [Bool.or_eq_true, Bool.and_eq_true, Bool.or_eq_false_iff, Bool.and_eq_false_iff, decide_eq_true_eq, decide_eq_false_iff_not, beq_iff_eq, beq_eq_false_iff_ne, bne_iff_ne, bne_eq_false_iff_eq, Bool.not_eq_true', Bool.not_eq_false', ne_eq, Int.not_lt, Int.not_le, ge_iff_le, gt_iff_lt] at f1
    have hls := lex_lines s (by omega); have hlt := lex_lines t (by omega); have hlaw := joins_law s t (by omega) (by omega)
    refine c_skip ?_
    refine then_c ?_
    refine c_seq ?_
    refine c_region ?_
    refine o_pv trivial rfl rfl ?_
    refine o_nil ?_
    refine then_c ?_
    refine c_seq ?_
    refine c_seq ?_
    refine c_region ?_
    refine o_pv trivial rfl rfl ?_
    refine o_nil ?_
    refine then_c ?_
    refine c_block ?_
    refine c_loop (ι := Nat) [0, 1, 5] (.cons rfl (.cons rfl (.cons rfl .nil))) (fun i => s.size - i) (fun i E0 => (6, .int .i64 (1 + (lines s i : Int))) :: (7, .int .i64 (i : Int)) :: E0) (fun i => St w [] I []) (fun i => i ≤ s.size) (0) (sub_cons rfl (sub_cons rfl (sub_cons rfl (sub_cons rfl (sub_cons rfl sub_nil))))) (fun _ h => h) (Nat.zero_le _) ?_
    rintro i hle
    try dsimp only
    have hli := lines_le s i
    refine c_seq ?_
    refine c_seq ?_
    refine c_region ?_
    refine o_pv trivial rfl rfl ?_
    refine o_pv trivial rfl rfl ?_
    refine o_lenS trivial rfl Tryd.underlying9 rfl ?_
    refine o_pv trivial rfl rfl ?_
    refine o_nil ?_
    refine then_c ?_
    refine c_cond rfl (fun h2 => ?_) (fun h2 => ?_)
    · skip
      have f2 := h2
      try simp only [Bool.or_eq_true, Bool.and_eq_true, Bool.or_eq_false_iff, Bool.and_eq_false_iff, decide_eq_true_eq, decide_eq_false_iff_not, beq_iff_eq, beq_eq_false_iff_ne, bne_iff_ne, bne_eq_false_iff_eq, Bool.not_eq_true', Bool.not_eq_false', ne_eq, Int.not_lt, Int.not_le, ge_iff_le, gt_iff_lt] at f2
      refine c_skip ?_
      refine then_c ?_
      refine c_seq ?_
      refine c_block ?_
      refine c_seq ?_
      refine c_region ?_
      refine o_pv trivial rfl rfl ?_
      refine o_pv trivial rfl rfl ?_
      refine o_idxS trivial rfl Tryd.underlying9 rfl rfl (by omega) ?_
      refine o_pv trivial rfl rfl ?_
      refine o_nil ?_
      refine then_c ?_
      refine c_cond rfl (fun h3 => ?_) (fun h3 => ?_)
      · skip
        have f3 := h3
        try simp only [Bool.or_eq_true, Bool.and_eq_true, Bool.or_eq_false_iff, Bool.and_eq_false_iff, decide_eq_true_eq, decide_eq_false_iff_not, beq_iff_eq, beq_eq_false_iff_ne, bne_iff_ne, bne_eq_false_iff_eq, Bool.not_eq_true', Bool.not_eq_false', ne_eq, Int.not_lt, Int.not_le, ge_iff_le, gt_iff_lt] at f3
        rw [Int.toNat_natCast] at f3; have hl1 : (1 + (lines s (i + 1) : Int)) = 1 + lines s i + 1 := by rw [lines_succ, if_pos (by omega)]; omega
        refine c_region ?_
        refine o_pv trivial rfl rfl ?_
        first | (refine o_add trivial rfl rfl rfl ?_ ?_; (omega)) | refine o_pv trivial rfl rfl ?_
        refine o_pv trivial rfl rfl ?_
        refine o_nil ?_
        refine blk_n ?_
        refine then_c ?_
        refine c_region ?_
        refine o_pv trivial rfl rfl ?_
        first | (refine o_add trivial rfl rfl rfl ?_ ?_; (omega)) | refine o_pv trivial rfl rfl ?_
        refine o_pv trivial rfl rfl ?_
        refine o_nil ?_
        exact again (i + 1) (by rw [hl1]; exact (sub_cons rfl (sub_cons rfl (sub_cons rfl (sub_cons rfl (sub_cons rfl sub_nil)))))) (fun _ h => h) (by show s.size - (i + 1) < s.size - i; omega) (by omega)
      · skip
        have f3 := h3
        try simp only [Bool.or_eq_true, Bool.and_eq_true, Bool.or_eq_false_iff, Bool.and_eq_false_iff, decide_eq_true_eq, decide_eq_false_iff_not, beq_iff_eq, beq_eq_false_iff_ne, bne_iff_ne, bne_eq_false_iff_eq, Bool.not_eq_true', Bool.not_eq_false', ne_eq, Int.not_lt, Int.not_le, ge_iff_le, gt_iff_lt] at f3
        rw [Int.toNat_natCast] at f3; have hl1 : (1 + (lines s (i + 1) : Int)) = 1 + lines s i := by rw [lines_succ, if_neg (by omega)]; omega
        refine c_skip ?_
        refine blk_n ?_
        refine then_c ?_
        refine c_region ?_
        refine o_pv trivial rfl rfl ?_
        first | (refine o_add trivial rfl rfl rfl ?_ ?_; (omega)) | refine o_pv trivial rfl rfl ?_
        refine o_pv trivial rfl rfl ?_
        refine o_nil ?_
        exact again (i + 1) (by rw [hl1]; exact (sub_cons rfl (sub_cons rfl (sub_cons rfl (sub_cons rfl (sub_cons rfl sub_nil)))))) (fun _ h => h) (by show s.size - (i + 1) < s.size - i; omega) (by omega)
    · skip
      have f2 := h2
      try simp only [Bool.or_eq_true, Bool.and_eq_true, Bool.or_eq_false_iff, Bool.and_eq_false_iff, decide_eq_true_eq, decide_eq_false_iff_not, beq_iff_eq, beq_eq_false_iff_ne, bne_iff_ne, bne_eq_false_iff_eq, Bool.not_eq_true', Bool.not_eq_false', ne_eq, Int.not_lt, Int.not_le, ge_iff_le, gt_iff_lt] at f2
      have his : i = s.size := by omega
      subst his
      refine c_exit ?_
      refine then_x ?_
      refine then_x ?_
      refine blk_eq rfl ?_
      refine then_c ?_
      refine c_seq ?_
      refine c_region ?_
      refine o_pv trivial rfl rfl ?_
      refine o_callI trivial rfl Tryd.call27 rfl (lex_any s hT hM (by omega)) ?_
      rintro _ I1 hx1 ⟨u1, rfl, hs1⟩
      refine o_pv trivial rfl rfl ?_
      refine o_pv trivial rfl rfl ?_
      refine o_pv trivial rfl rfl ?_
      refine o_pv trivial rfl rfl ?_
      refine o_alloc trivial rfl Tryd.zeroValue32 rfl (fun b9 => ?_)
      refine o_pv trivial rfl rfl ?_
      refine o_store trivial rfl rfl rfl Tryd.sizeOf32 rfl rfl (by first | exact .here | exact .there .here | exact .there (.there .here) | exact .there (.there (.there .here)) | exact .there (.there (.there (.there .here))) | exact .there (.there (.there (.there (.there .here))))) (by repeat constructor) ?_
      refine o_pv trivial rfl rfl ?_
      refine o_nil ?_
      refine then_c ?_
      refine c_seq ?_
      refine c_region ?_
      refine o_pv trivial rfl rfl ?_
      refine o_callI trivial rfl Tryd.call27 rfl (lex_any t (hT.le hx1.le) (hM.le hx1.le) (by omega)) ?_
      rintro _ I2 hx2 ⟨u2, rfl, hs2⟩
      refine o_pv trivial rfl rfl ?_
      refine o_pv trivial rfl rfl ?_
      refine o_pv trivial rfl rfl ?_
      refine o_pv trivial rfl rfl ?_
      refine o_alloc trivial rfl Tryd.zeroValue32 rfl (fun b12 => ?_)
      refine o_pv trivial rfl rfl ?_
      refine o_store trivial rfl rfl rfl Tryd.sizeOf32 rfl rfl (by first | exact .here | exact .there .here | exact .there (.there .here) | exact .there (.there (.there .here)) | exact .there (.there (.there (.there .here))) | exact .there (.there (.there (.there (.there .here))))) (by repeat constructor) ?_
      refine o_pv trivial rfl rfl ?_
      refine o_nil ?_
      refine then_c ?_
      refine c_seq ?_
      refine c_region ?_
      refine o_pv trivial rfl rfl ?_
      refine o_cat trivial rfl rfl rfl (by first | omega | (simp only [ByteArray.size_append, lit_size, strOf_size, List.length_replicate, List.size_toArray, List.length_cons, List.length_nil]; omega) | (simp; omega)) ?_
      refine o_pv trivial rfl rfl ?_
      refine o_cat trivial rfl rfl rfl (by first | omega | (simp only [ByteArray.size_append, lit_size, strOf_size, List.length_replicate, List.size_toArray, List.length_cons, List.length_nil]; omega) | (simp; omega)) ?_
      refine o_callI trivial rfl Tryd.call27 rfl (lex_any _ (hT.le (hx1.le.trans hx2.le)) (hM.le (hx1.le.trans hx2.le)) (by simp only [ByteArray.size_append, lit_size, List.size_toArray, List.length_cons, List.length_nil]; omega)) ?_
      rintro _ I3 hx3 ⟨u3, rfl, hs3⟩
      refine o_pv trivial rfl rfl ?_
      refine o_pv trivial rfl rfl ?_
      refine o_pv trivial rfl rfl ?_
      refine o_pv trivial rfl rfl ?_
      refine o_alloc trivial rfl Tryd.zeroValue32 rfl (fun b15 => ?_)
      refine o_pv trivial rfl rfl ?_
      refine o_store trivial rfl rfl rfl Tryd.sizeOf32 rfl rfl (by first | exact .here | exact .there .here | exact .there (.there .here) | exact .there (.there (.there .here)) | exact .there (.there (.there (.there .here))) | exact .there (.there (.there (.there (.there .here))))) (by repeat constructor) ?_
      refine o_pv trivial rfl rfl ?_
      refine o_nil ?_
      refine then_c ?_
      refine c_seq ?_
      refine c_seq ?_
      refine c_region ?_
      refine o_pv trivial rfl rfl ?_
      refine o_pv trivial rfl rfl ?_
      refine o_nil ?_
      refine then_c ?_
      refine c_cond rfl (fun h4 => ?_) (fun h4 => ?_)
      · skip
        have f4 := h4
        try simp only [Bool.or_eq_true, Bool.and_eq_true, Bool.or_eq_false_iff, Bool.and_eq_false_iff, decide_eq_true_eq, decide_eq_false_iff_not, beq_iff_eq, beq_eq_false_iff_ne, bne_iff_ne, bne_eq_false_iff_eq, Bool.not_eq_true', Bool.not_eq_false', ne_eq, Int.not_lt, Int.not_le, ge_iff_le, gt_iff_lt] at f4
        rw [if_pos f4] at hlaw
        refine c_seq ?_
        refine c_region ?_
        refine o_pv trivial rfl rfl ?_
        refine' o_and trivial trivial rfl rfl rfl rfl rfl rfl rfl rfl (fun hb66 => ?_) ?_
        rotate_left
        · skip
          refine o_pv (wants_some rfl rfl hb66) rfl rfl ?_
          refine o_pv (wants_some rfl rfl hb66) rfl rfl ?_
          refine o_pv (wants_some rfl rfl hb66) rfl rfl ?_
          refine o_nil ?_
          exact joins rfl
        refine' o_and trivial trivial rfl rfl rfl rfl rfl rfl rfl rfl (fun hb71 => ?_) ?_
        rotate_left
        · skip
          have fb71 := hb71
          try simp only [Bool.or_eq_true, Bool.and_eq_true, Bool.or_eq_false_iff, Bool.and_eq_false_iff, decide_eq_true_eq, decide_eq_false_iff_not, beq_iff_eq, beq_eq_false_iff_ne, bne_iff_ne, bne_eq_false_iff_eq, Bool.not_eq_true', Bool.not_eq_false', ne_eq, Int.not_lt, Int.not_le, ge_iff_le, gt_iff_lt] at fb71
          refine o_loadA (wants_some rfl rfl hb71) rfl Tryd.isAgg32 Tryd.sizeOf32 rfl (by first | exact .head _ | exact .tail _ (.head _) | exact .tail _ (.tail _ (.head _)) | exact .tail _ (.tail _ (.tail _ (.head _))) | exact .tail _ (.tail _ (.tail _ (.tail _ (.head _)))) | exact .tail _ (.tail _ (.tail _ (.tail _ (.tail _ (.head _)))))) (by repeat constructor) ?_
          refine o_loadA (wants_some rfl rfl hb71) rfl Tryd.isAgg32 Tryd.sizeOf32 rfl (by first | exact .head _ | exact .tail _ (.head _) | exact .tail _ (.tail _ (.head _)) | exact .tail _ (.tail _ (.tail _ (.head _))) | exact .tail _ (.tail _ (.tail _ (.tail _ (.head _)))) | exact .tail _ (.tail _ (.tail _ (.tail _ (.tail _ (.head _)))))) (by repeat constructor) ?_
          refine o_eqlV (wants_some rfl rfl hb71) rfl rfl rfl Tryd.eqGuardType32 (EqV.struct Tryd.underlying32 Tryd.stoodInHeld32 (EqP.cons (T := 3) (o := 0) (by decide) rfl rfl (.one Tryd.isAgg3 (by repeat constructor)) (.one Tryd.isAgg3 (by repeat constructor)) (EqV.int Tryd.underlying3) (EqP.last (T := 3) (o := 1) (by decide) rfl rfl (.one Tryd.isAgg3 (by repeat constructor)) (.one Tryd.isAgg3 (by repeat constructor)) (EqV.int Tryd.underlying3)))) ?_
          refine o_nil ?_
          exact joins rfl
        refine' o_and trivial trivial rfl rfl rfl rfl rfl rfl rfl rfl (fun hb76 => ?_) ?_
        rotate_left
        · skip
          have fb76 := hb76
          try simp only [Bool.or_eq_true, Bool.and_eq_true, Bool.or_eq_false_iff, Bool.and_eq_false_iff, decide_eq_true_eq, decide_eq_false_iff_not, beq_iff_eq, beq_eq_false_iff_ne, bne_iff_ne, bne_eq_false_iff_eq, Bool.not_eq_true', Bool.not_eq_false', ne_eq, Int.not_lt, Int.not_le, ge_iff_le, gt_iff_lt] at fb76
          refine o_pv (wants_some rfl rfl hb76) rfl rfl ?_
          refine o_lenSlc (wants_some rfl rfl hb76) rfl Tryd.underlying39 rfl (hs3) ?_
          refine o_pv (wants_some rfl rfl hb76) rfl rfl ?_
          refine o_nil ?_
          exact joins rfl
        refine o_pv trivial rfl rfl ?_
        refine o_nil ?_
        refine then_c ?_
        refine c_ret ?_
        refine then_r ?_
        refine ret1 rfl rfl ?_
        refine leaf (hx1.trans (hx2.trans hx3 (Nat.le_refl _)) (Nat.le_refl _)) (List.nil_sublist _) (congrArg Value.bool ?_); rw [hlaw]; simp
      · skip
        have f4 := h4
        try simp only [Bool.or_eq_true, Bool.and_eq_true, Bool.or_eq_false_iff, Bool.and_eq_false_iff, decide_eq_true_eq, decide_eq_false_iff_not, beq_iff_eq, beq_eq_false_iff_ne, bne_iff_ne, bne_eq_false_iff_eq, Bool.not_eq_true', Bool.not_eq_false', ne_eq, Int.not_lt, Int.not_le, ge_iff_le, gt_iff_lt] at f4
        rw [if_neg (not_not_intro f4)] at hlaw
        refine c_skip ?_
        refine then_c ?_
        refine c_seq ?_
        refine c_seq ?_
        refine c_region ?_
        refine o_pv trivial rfl rfl ?_
        refine o_pv trivial rfl rfl ?_
        refine o_nil ?_
        refine then_c ?_
        refine c_cond rfl (fun h5 => ?_) (fun h5 => ?_)
        · skip
          have f5 := h5
          try simp only [Bool.or_eq_true, Bool.and_eq_true, Bool.or_eq_false_iff, Bool.and_eq_false_iff, decide_eq_true_eq, decide_eq_false_iff_not, beq_iff_eq, beq_eq_false_iff_ne, bne_iff_ne, bne_eq_false_iff_eq, Bool.not_eq_true', Bool.not_eq_false', ne_eq, Int.not_lt, Int.not_le, ge_iff_le, gt_iff_lt] at f5
          rw [if_pos f5] at hlaw
          refine c_seq ?_
          refine c_region ?_
          refine o_fieldAddr (T := 3) (off := 0) trivial rfl Tryd.underlying32 rfl rfl rfl Tryd.sizeOf3 rfl rfl ?_
          refine o_load1 trivial rfl Tryd.isAgg3 rfl (by first | exact .head _ | exact .tail _ (.head _) | exact .tail _ (.tail _ (.head _)) | exact .tail _ (.tail _ (.tail _ (.head _))) | exact .tail _ (.tail _ (.tail _ (.tail _ (.head _)))) | exact .tail _ (.tail _ (.tail _ (.tail _ (.tail _ (.head _)))))) (by repeat constructor) ?_
          refine o_pv trivial rfl rfl ?_
          first | (refine o_add trivial rfl rfl rfl ?_ ?_; (omega)) | refine o_pv trivial rfl rfl ?_
          refine o_fieldAddr (T := 3) (off := 0) trivial rfl Tryd.underlying32 rfl rfl rfl Tryd.sizeOf3 rfl rfl ?_
          refine o_store trivial rfl rfl rfl Tryd.sizeOf3 rfl rfl (by first | exact .here | exact .there .here | exact .there (.there .here) | exact .there (.there (.there .here)) | exact .there (.there (.there (.there .here))) | exact .there (.there (.there (.there (.there .here))))) (by repeat constructor) ?_
          refine o_nil ?_
          refine then_c ?_
          refine c_seq ?_
          refine c_region ?_
          refine o_pv trivial rfl rfl ?_
          refine' o_and trivial trivial rfl rfl rfl rfl rfl rfl rfl rfl (fun hb89 => ?_) ?_
          rotate_left
          · skip
            refine o_pv (wants_some rfl rfl hb89) rfl rfl ?_
            refine o_pv (wants_some rfl rfl hb89) rfl rfl ?_
            refine o_pv (wants_some rfl rfl hb89) rfl rfl ?_
            refine o_nil ?_
            exact joins rfl
          refine' o_and trivial trivial rfl rfl rfl rfl rfl rfl rfl rfl (fun hb94 => ?_) ?_
          rotate_left
          · skip
            have fb94 := hb94
            try simp only [Bool.or_eq_true, Bool.and_eq_true, Bool.or_eq_false_iff, Bool.and_eq_false_iff, decide_eq_true_eq, decide_eq_false_iff_not, beq_iff_eq, beq_eq_false_iff_ne, bne_iff_ne, bne_eq_false_iff_eq, Bool.not_eq_true', Bool.not_eq_false', ne_eq, Int.not_lt, Int.not_le, ge_iff_le, gt_iff_lt] at fb94
            refine o_loadA (wants_some rfl rfl hb94) rfl Tryd.isAgg32 Tryd.sizeOf32 rfl (by first | exact .head _ | exact .tail _ (.head _) | exact .tail _ (.tail _ (.head _)) | exact .tail _ (.tail _ (.tail _ (.head _))) | exact .tail _ (.tail _ (.tail _ (.tail _ (.head _)))) | exact .tail _ (.tail _ (.tail _ (.tail _ (.tail _ (.head _)))))) (by repeat constructor) ?_
            refine o_loadA (wants_some rfl rfl hb94) rfl Tryd.isAgg32 Tryd.sizeOf32 rfl (by first | exact .head _ | exact .tail _ (.head _) | exact .tail _ (.tail _ (.head _)) | exact .tail _ (.tail _ (.tail _ (.head _))) | exact .tail _ (.tail _ (.tail _ (.tail _ (.head _)))) | exact .tail _ (.tail _ (.tail _ (.tail _ (.tail _ (.head _)))))) (by repeat constructor) ?_
            refine o_eqlV (wants_some rfl rfl hb94) rfl rfl rfl Tryd.eqGuardType32 (EqV.struct Tryd.underlying32 Tryd.stoodInHeld32 (EqP.cons (T := 3) (o := 0) (by decide) rfl rfl (.one Tryd.isAgg3 (by repeat constructor)) (.one Tryd.isAgg3 (by repeat constructor)) (EqV.int Tryd.underlying3) (EqP.last (T := 3) (o := 1) (by decide) rfl rfl (.one Tryd.isAgg3 (by repeat constructor)) (.one Tryd.isAgg3 (by repeat constructor)) (EqV.int Tryd.underlying3)))) ?_
            refine o_nil ?_
            exact joins rfl
          refine' o_and trivial trivial rfl rfl rfl rfl rfl rfl rfl rfl (fun hb99 => ?_) ?_
          rotate_left
          · skip
            have fb99 := hb99
            try simp only [Bool.or_eq_true, Bool.and_eq_true, Bool.or_eq_false_iff, Bool.and_eq_false_iff, decide_eq_true_eq, decide_eq_false_iff_not, beq_iff_eq, beq_eq_false_iff_ne, bne_iff_ne, bne_eq_false_iff_eq, Bool.not_eq_true', Bool.not_eq_false', ne_eq, Int.not_lt, Int.not_le, ge_iff_le, gt_iff_lt] at fb99
            refine o_pv (wants_some rfl rfl hb99) rfl rfl ?_
            refine o_lenSlc (wants_some rfl rfl hb99) rfl Tryd.underlying39 rfl (hs3) ?_
            refine o_pv (wants_some rfl rfl hb99) rfl rfl ?_
            refine o_nil ?_
            exact joins rfl
          refine o_pv trivial rfl rfl ?_
          refine o_nil ?_
          refine then_c ?_
          refine c_ret ?_
          refine then_r ?_
          refine ret1 rfl rfl ?_
          refine leaf (hx1.trans (hx2.trans hx3 (Nat.le_refl _)) (Nat.le_refl _)) (List.nil_sublist _) (congrArg Value.bool ?_); rw [hlaw]; simp
        · skip
          have f5 := h5
          try simp only [Bool.or_eq_true, Bool.and_eq_true, Bool.or_eq_false_iff, Bool.and_eq_false_iff, decide_eq_true_eq, decide_eq_false_iff_not, beq_iff_eq, beq_eq_false_iff_ne, bne_iff_ne, bne_eq_false_iff_eq, Bool.not_eq_true', Bool.not_eq_false', ne_eq, Int.not_lt, Int.not_le, ge_iff_le, gt_iff_lt] at f5
          rw [if_neg (not_not_intro f5)] at hlaw
          refine c_skip ?_
          refine then_c ?_
          refine c_seq ?_
          refine c_region ?_
          refine o_emptySl trivial rfl Tryd.underlying39 Tryd.sizeOf45 (fun v104 => ?_)
          refine o_pv trivial rfl rfl ?_
          refine o_appendSlc trivial rfl Tryd.underlying39 (elem45) (by decide) rfl rfl (fun v' => (by first | exact .here | exact .there .here | exact .there (.there .here) | exact .there (.there (.there .here)) | exact .there (.there (.there (.there .here))) | exact .there (.there (.there (.there (.there .here)))))) (hs1.le (hx2.le.trans hx3.le)) (cells_plain _) (by rw [List.length_map]; unfold maxLen; omega) (by rw [List.length_map]; omega) (fun v106 => ?_)
          refine o_pv trivial rfl rfl ?_
          refine o_nil ?_
          refine then_c ?_
          refine c_seq ?_
          refine c_seq ?_
          refine c_region ?_
          refine o_pv trivial rfl rfl ?_
          refine o_nil ?_
          refine then_c ?_
          refine c_block ?_
          refine c_loop (ι := Nat × Value) [5, 6, 11, 14, 16] (.cons rfl (.cons rfl (.cons rfl (.cons rfl (.cons rfl .nil))))) (fun x => (lexZ t).toks.length - x.1) (fun x E0 => (17, x.2) :: (18, .int .i64 (x.1 : Int)) :: E0) (fun x => St w [] I3 [.row x.2 45 4 ((lexZ s).toks.length + x.1) ((joinL (lexZ s).toks (lexZ t).toks (1 + (lines s s.size : Int)) x.1).map Tok.cells).flatten]) (fun x => x.1 ≤ (lexZ t).toks.length) ((0, v106)) (sub_cons rfl (sub_cons rfl (sub_cons rfl (sub_cons rfl (sub_cons rfl (sub_cons rfl (sub_cons rfl sub_nil))))))) (fun _ h => by have h' := h.drop (B' := [_]) ((List.nil_sublist _).cons_cons _); simpa [joinL] using h') (Nat.zero_le _) ?_
          rintro ⟨i, u⟩ hle2
          try dsimp only
          simp only at hle2
          refine c_seq ?_
          refine c_seq ?_
          refine c_region ?_
          refine o_pv trivial rfl rfl ?_
          refine o_pv trivial rfl rfl ?_
          refine o_lenSlc trivial rfl Tryd.underlying39 rfl (hs2.le hx3.le) ?_
          refine o_pv trivial rfl rfl ?_
          refine o_nil ?_
          refine then_c ?_
          refine c_cond rfl (fun h6 => ?_) (fun h6 => ?_)
          · skip
            have f6 := h6
            try simp only [Bool.or_eq_true, Bool.and_eq_true, Bool.or_eq_false_iff, Bool.and_eq_false_iff, decide_eq_true_eq, decide_eq_false_iff_not, beq_iff_eq, beq_eq_false_iff_ne, bne_iff_ne, bne_eq_false_iff_eq, Bool.not_eq_true', Bool.not_eq_false', ne_eq, Int.not_lt, Int.not_le, ge_iff_le, gt_iff_lt] at f6
            rw [List.length_map] at f6; have hi : i < (lexZ t).toks.length := by omega
            have hb := hlt.1 _ (List.getElem_mem hi)
            refine c_skip ?_
            refine then_c ?_
            refine c_seq ?_
            refine c_block ?_
            refine c_seq ?_
            refine c_region ?_
            refine o_pv trivial rfl rfl ?_
            refine o_pv trivial rfl rfl ?_
            refine o_elem trivial rfl Tryd.underlying39 Tryd.sizeOf45 rfl (hs2.le hx3.le) rfl (by rw [List.length_map]; omega) ?_
            refine o_loadAI trivial rfl Tryd.isAgg45 Tryd.sizeOf45 rfl rfl ((hs2.le hx3.le).cells _ _ (tok_get (i := i) hi)) ?_
            refine o_alloc trivial rfl Tryd.zeroValue45 rfl (fun b19 => ?_)
            refine o_store trivial rfl rfl rfl Tryd.sizeOf45 rfl rfl (by first | exact .here | exact .there .here | exact .there (.there .here) | exact .there (.there (.there .here)) | exact .there (.there (.there (.there .here))) | exact .there (.there (.there (.there (.there .here))))) (by repeat constructor) ?_
            refine o_nil ?_
            refine then_c ?_
            refine c_seq ?_
            refine c_region ?_
            refine o_fieldAddr (T := 32) (off := 2) trivial rfl Tryd.underlying45 rfl rfl rfl Tryd.sizeOf32 rfl rfl ?_
            refine o_fieldAddr (T := 3) (off := 0) trivial rfl Tryd.underlying32 rfl rfl rfl Tryd.sizeOf3 rfl rfl ?_
            refine o_load1 trivial rfl Tryd.isAgg3 rfl (by first | exact .head _ | exact .tail _ (.head _) | exact .tail _ (.tail _ (.head _)) | exact .tail _ (.tail _ (.tail _ (.head _))) | exact .tail _ (.tail _ (.tail _ (.tail _ (.head _)))) | exact .tail _ (.tail _ (.tail _ (.tail _ (.tail _ (.head _)))))) (by repeat constructor) ?_
            refine o_pv trivial rfl rfl ?_
            first | (refine o_add trivial rfl rfl rfl ?_ ?_; (omega)) | refine o_pv trivial rfl rfl ?_
            refine o_fieldAddr (T := 32) (off := 2) trivial rfl Tryd.underlying45 rfl rfl rfl Tryd.sizeOf32 rfl rfl ?_
            refine o_fieldAddr (T := 3) (off := 0) trivial rfl Tryd.underlying32 rfl rfl rfl Tryd.sizeOf3 rfl rfl ?_
            refine o_store trivial rfl rfl rfl Tryd.sizeOf3 rfl rfl (by first | exact .here | exact .there .here | exact .there (.there .here) | exact .there (.there (.there .here)) | exact .there (.there (.there (.there .here))) | exact .there (.there (.there (.there (.there .here))))) (by repeat constructor) ?_
            refine o_nil ?_
            refine then_c ?_
            refine c_region ?_
            refine o_pv trivial rfl rfl ?_
            refine o_loadA trivial rfl Tryd.isAgg45 Tryd.sizeOf45 rfl (by first | exact .head _ | exact .tail _ (.head _) | exact .tail _ (.tail _ (.head _)) | exact .tail _ (.tail _ (.tail _ (.head _))) | exact .tail _ (.tail _ (.tail _ (.tail _ (.head _)))) | exact .tail _ (.tail _ (.tail _ (.tail _ (.tail _ (.head _)))))) (by repeat constructor) ?_
            refine o_buildSl trivial rfl Tryd.underlying39 Tryd.sizeOf45 Tryd.zeroValue45 (by decide) (by decide) rfl (by repeat first | exact rfl | constructor) rfl (fun b126 => ?_)
            refine o_appendBox trivial rfl Tryd.underlying39 (elem45) (by decide) rfl rfl (fun v' => (by first | exact .here | exact .there .here | exact .there (.there .here) | exact .there (.there (.there .here)) | exact .there (.there (.there (.there .here))) | exact .there (.there (.there (.there (.there .here)))))) (by first | exact .head _ | exact .tail _ (.head _) | exact .tail _ (.tail _ (.head _)) | exact .tail _ (.tail _ (.tail _ (.head _))) | exact .tail _ (.tail _ (.tail _ (.tail _ (.head _)))) | exact .tail _ (.tail _ (.tail _ (.tail _ (.tail _ (.head _)))))) rfl (by first | rfl | decide) (by first | omega | (unfold maxLen; omega)) (by omega) (fun v127 => ?_)
            refine o_pv trivial rfl rfl ?_
            refine o_nil ?_
            refine blk_n ?_
            refine then_c ?_
            refine c_region ?_
            refine o_pv trivial rfl rfl ?_
            first | (refine o_add trivial rfl rfl rfl ?_ ?_; (omega)) | refine o_pv trivial rfl rfl ?_
            refine o_pv trivial rfl rfl ?_
            refine o_nil ?_
            exact again (i + 1, v127) (sub_cons rfl (sub_cons rfl (sub_cons rfl (sub_cons rfl (sub_cons rfl (sub_cons rfl (sub_cons rfl sub_nil))))))) (fun _ h => by simp only [joinL_succ hi, flat_more]; exact h.sort (by repeat' first | exact Takes.nil | exact Take.here | apply Takes.cons | apply Take.there)) (by show (lexZ t).toks.length - (i + 1) < (lexZ t).toks.length - i; omega) (by show i + 1 ≤ _; omega)
          · skip
            have f6 := h6
            try simp only [Bool.or_eq_true, Bool.and_eq_true, Bool.or_eq_false_iff, Bool.and_eq_false_iff, decide_eq_true_eq, decide_eq_false_iff_not, beq_iff_eq, beq_eq_false_iff_ne, bne_iff_ne, bne_eq_false_iff_eq, Bool.not_eq_true', Bool.not_eq_false', ne_eq, Int.not_lt, Int.not_le, ge_iff_le, gt_iff_lt] at f6
            rw [List.length_map] at f6; have hge : (lexZ t).toks.length ≤ i := by omega
            refine c_exit ?_
            refine then_x ?_
            refine then_x ?_
            refine blk_eq rfl ?_
            refine then_c ?_
            refine c_seq ?_
            refine c_seal (xss := (joinL (lexZ s).toks (lexZ t).toks (1 + (lines s s.size : Int)) i).map Tok.cells) (by rw [List.length_map, joinL_len hle2]) (cells_len _) (by unfold maxLen; omega) (fun I4 hx4 hs4 => ?_)
            rw [joinL_all hge] at hs4
            rw [hlaw] at hs3
            refine c_region ?_
            refine o_pv trivial rfl rfl ?_
            refine' o_and trivial trivial rfl rfl rfl rfl rfl rfl rfl rfl (fun hb129 => ?_) ?_
            rotate_left
            · skip
              refine o_pv (wants_some rfl rfl hb129) rfl rfl ?_
              refine o_pv (wants_some rfl rfl hb129) rfl rfl ?_
              refine o_nil ?_
              exact joins rfl
            refine' o_and trivial trivial rfl rfl rfl rfl rfl rfl rfl rfl (fun hb133 => ?_) ?_
            rotate_left
            · skip
              have fb133 := hb133
              try simp only [Bool.or_eq_true, Bool.and_eq_true, Bool.or_eq_false_iff, Bool.and_eq_false_iff, decide_eq_true_eq, decide_eq_false_iff_not, beq_iff_eq, beq_eq_false_iff_ne, bne_iff_ne, bne_eq_false_iff_eq, Bool.not_eq_true', Bool.not_eq_false', ne_eq, Int.not_lt, Int.not_le, ge_iff_le, gt_iff_lt] at fb133
              refine o_pv (wants_some rfl rfl hb133) rfl rfl ?_
              refine o_pv (wants_some rfl rfl hb133) rfl rfl ?_
              refine o_callQ (wants_some rfl rfl hb133) rfl Tryd.call29 rfl (same_any _ _ _ (hs3.le hx4.le) hs4) ?_
              refine o_nil ?_
              exact joins rfl
            refine o_pv trivial rfl rfl ?_
            refine o_nil ?_
            refine then_c ?_
            refine c_ret ?_
            refine ret1 rfl rfl ?_
            refine leaf (hx1.trans (hx2.trans (hx3.trans hx4 (Nat.le_refl _)) (Nat.le_refl _)) (Nat.le_refl _)) (List.nil_sublist _) (congrArg Value.bool ?_); rw [hlaw]; simp
theorem lexes_fine {s : ByteArray} (hs : s.size ≤ 4000) (h : (lexZ s).err = 0) : Lexed s 0 s.size (lexZ s).toks := by
  have hl := lexes s hs
  generalize lexZ s = r at hl h
  cases hl with
  | fine a => exact a
  | bad a b1 b2 b3 => exact absurd h b3
theorem LexFront_any (s : ByteArray) (k : Int) {I : Hp} (hT : Tabs I) (hM : Mx I) (hk : 0 ≤ k ∧ k ≤ 255) : Fun Tryd.prog 14 [.string s, .int .u8 k] I [] (fun v _ _ => v = .bool true) := by
  intro w hw
  refine enter2 _ Tryd.func14 rfl Tryd.ntmps14 rfl ?_ hw
  refine c_seq ?_
  refine c_region ?_
  refine o_pv trivial rfl rfl ?_
  refine o_nil ?_
  refine then_c ?_
  refine c_seq ?_
  refine c_region ?_
  refine o_callQ trivial rfl Tryd.call26 rfl (awake10_any hT hM) ?_
  refine o_pv trivial rfl rfl ?_
  refine o_nil ?_
  refine then_c ?_
  refine c_seq ?_
  refine c_seq ?_
  refine c_region ?_
  refine o_pv trivial rfl rfl ?_
  refine o_lenS trivial rfl Tryd.underlying9 rfl ?_
  refine o_pv trivial rfl rfl ?_
  refine o_nil ?_
  refine then_c ?_
  refine c_cond rfl (fun h1 => ?_) (fun h1 => ?_)
  · skip
    have f1 := h1
    try simp only [Bool.or_eq_true, Bool.and_eq_true, Bool.or_eq_false_iff, Bool.and_eq_false_iff, decide_eq_true_eq, decide_eq_false_iff_not, beq_iff_eq, beq_eq_false_iff_ne, bne_iff_ne, bne_eq_false_iff_eq, Bool.not_eq_true', Bool.not_eq_false', ne_eq, Int.not_lt, Int.not_le, ge_iff_le, gt_iff_lt] at f1
    refine c_seq ?_
    refine c_region ?_
    refine o_pv trivial rfl rfl ?_
    refine o_pv trivial rfl rfl ?_
    refine o_nil ?_
    refine then_c ?_
    refine c_ret ?_
    refine then_r ?_
    refine ret1 rfl rfl ?_
    refine leaf0 ?_; rfl
  · skip
    have f1 := h1
    try simp only [Bool.or_eq_true, Bool.and_eq_true, Bool.or_eq_false_iff, Bool.and_eq_false_iff, decide_eq_true_eq, decide_eq_false_iff_not, beq_iff_eq, beq_eq_false_iff_ne, bne_iff_ne, bne_eq_false_iff_eq, Bool.not_eq_true', Bool.not_eq_false', ne_eq, Int.not_lt, Int.not_le, ge_iff_le, gt_iff_lt] at f1
    have hls := lex_lines s (by omega)
    refine c_skip ?_
    refine then_c ?_
    refine c_seq ?_
    refine c_region ?_
    refine o_pv trivial rfl rfl ?_
    refine o_callI trivial rfl Tryd.call27 rfl (lex_any s hT hM (by omega)) ?_
    rintro _ I1 hx1 ⟨u1, rfl, hs1⟩
    refine o_pv trivial rfl rfl ?_
    refine o_pv trivial rfl rfl ?_
    refine o_pv trivial rfl rfl ?_
    refine o_pv trivial rfl rfl ?_
    refine o_alloc trivial rfl Tryd.zeroValue32 rfl (fun b7 => ?_)
    refine o_pv trivial rfl rfl ?_
    refine o_store trivial rfl rfl rfl Tryd.sizeOf32 rfl rfl (by first | exact .here | exact .there .here | exact .there (.there .here) | exact .there (.there (.there .here)) | exact .there (.there (.there (.there .here))) | exact .there (.there (.there (.there (.there .here))))) (by repeat constructor) ?_
    refine o_pv trivial rfl rfl ?_
    refine o_nil ?_
    refine then_c ?_
    refine c_seq ?_
    refine c_seq ?_
    refine c_region ?_
    refine o_pv trivial rfl rfl ?_
    refine o_pv trivial rfl rfl ?_
    refine' o_or trivial trivial rfl rfl rfl rfl rfl rfl rfl rfl (fun hb28 => ?_) ?_
    rotate_left
    · skip
      have fb28 := hb28
      try simp only [Bool.or_eq_true, Bool.and_eq_true, Bool.or_eq_false_iff, Bool.and_eq_false_iff, decide_eq_true_eq, decide_eq_false_iff_not, beq_iff_eq, beq_eq_false_iff_ne, bne_iff_ne, bne_eq_false_iff_eq, Bool.not_eq_true', Bool.not_eq_false', ne_eq, Int.not_lt, Int.not_le, ge_iff_le, gt_iff_lt] at fb28
      refine o_pv (wants_some rfl rfl hb28) rfl rfl ?_
      refine o_lenSlc (wants_some rfl rfl hb28) rfl Tryd.underlying39 rfl (hs1) ?_
      refine o_pv (wants_some rfl rfl hb28) rfl rfl ?_
      refine o_nil ?_
      exact joins rfl
    refine o_nil ?_
    refine then_c ?_
    refine c_cond rfl (fun h2 => ?_) (fun h2 => ?_)
    · skip
      have f2 := h2
      try simp only [Bool.or_eq_true, Bool.and_eq_true, Bool.or_eq_false_iff, Bool.and_eq_false_iff, decide_eq_true_eq, decide_eq_false_iff_not, beq_iff_eq, beq_eq_false_iff_ne, bne_iff_ne, bne_eq_false_iff_eq, Bool.not_eq_true', Bool.not_eq_false', ne_eq, Int.not_lt, Int.not_le, ge_iff_le, gt_iff_lt] at f2
      refine c_seq ?_
      refine c_region ?_
      refine o_pv trivial rfl rfl ?_
      refine o_pv trivial rfl rfl ?_
      refine o_nil ?_
      refine then_c ?_
      refine c_ret ?_
      refine then_r ?_
      refine ret1 rfl rfl ?_
      refine leaf hx1 (List.nil_sublist _) ?_; rfl
    · skip
      have f2 := h2
      try simp only [Bool.or_eq_true, Bool.and_eq_true, Bool.or_eq_false_iff, Bool.and_eq_false_iff, decide_eq_true_eq, decide_eq_false_iff_not, beq_iff_eq, beq_eq_false_iff_ne, bne_iff_ne, bne_eq_false_iff_eq, Bool.not_eq_true', Bool.not_eq_false', ne_eq, Int.not_lt, Int.not_le, ge_iff_le, gt_iff_lt] at f2
      rw [List.length_map] at f2; have hlx := lexes_fine (by omega) f2.1
      refine c_skip ?_
      refine then_c ?_
      refine c_seq ?_
      have hmp : 0 < (((lexZ s).toks.map Tok.cells).length : Int) := by rw [List.length_map]; omega
      refine c_region ?_
      refine o_pv trivial rfl rfl ?_
      first | refine o_convIn trivial rfl Tryd.underlying5 Tryd.underlying3 rfl (by rw [IntWalk.i64_in _ (by omega)]) ?_ | refine o_conv trivial rfl Tryd.underlying5 Tryd.underlying3 rfl ?_
      refine o_pv trivial rfl rfl ?_
      refine o_lenSlc trivial rfl Tryd.underlying39 rfl (hs1) ?_
      refine o_rem trivial rfl rfl rfl (by omega) ?_
      refine o_pv trivial rfl rfl ?_
      refine o_nil ?_
      refine then_c ?_
      refine c_seq ?_
      obtain ⟨N, hN⟩ : ∃ N : Nat, k % (((lexZ s).toks.map Tok.cells).length : Int) = N := ⟨_, (Int.toNat_of_nonneg (Int.emod_nonneg _ (by rw [List.length_map]; omega))).symm⟩
      rw [hN]
      have hNl : N < (lexZ s).toks.length := by have h0 := Int.emod_lt_of_pos k (show 0 < (((lexZ s).toks.map Tok.cells).length : Int) by rw [List.length_map]; omega); rw [hN, List.length_map] at h0; omega
      obtain ⟨p, hp1, hp2, hp3, hp4, hp5, hp6⟩ := hlx.split N hNl
      have hst := tokZ_stop hp2 hp4
      have htk : ((lexZ s).toks.map Tok.cells)[N]? = some (tokAt s p).cells := by rw [tok_get hNl, hp5]
      have htx := tok_text hp2 hp4
      have htl : (tokAt s p).text.size = (tokZ s p).stop - p := by show (tokZ s p).text.size = _; rw [htx, ByteArray.size_extract]; omega
      have hlx0 := hp1.hops
      refine c_region ?_
      refine o_pv trivial rfl rfl ?_
      refine o_nil ?_
      refine then_c ?_
      refine c_seq ?_
      refine c_block ?_
      refine c_loop (ι := Nat) [0, 5, 6, 9] (.cons rfl (.cons rfl (.cons rfl (.cons rfl .nil)))) (fun x => s.size - x) (fun x E0 => (10, .int .i64 (x : Int)) :: E0) (fun x => St w [] I1 []) (fun x => x ≤ p) (0) (sub_cons rfl (sub_cons rfl (sub_cons rfl (sub_cons rfl (sub_cons rfl sub_nil))))) (fun _ h => h.drop (List.nil_sublist _)) (Nat.zero_le _) ?_
      rintro i hle
      try dsimp only
      refine c_seq ?_
      refine c_seq ?_
      refine c_quiet (by kernel_rfl) (by kernel_rfl) (fun _ h => h.drawn) ?_
      refine o_pv trivial rfl rfl ?_
      refine o_pv trivial rfl rfl ?_
      refine o_lenS trivial rfl Tryd.underlying9 rfl ?_
      refine o_pv trivial rfl rfl ?_
      refine' o_and trivial trivial rfl rfl rfl rfl rfl rfl rfl rfl (fun hb43 => ?_) ?_
      rotate_left
      · skip
        have fb43 := hb43
        try simp only [Bool.or_eq_true, Bool.and_eq_true, Bool.or_eq_false_iff, Bool.and_eq_false_iff, decide_eq_true_eq, decide_eq_false_iff_not, beq_iff_eq, beq_eq_false_iff_ne, bne_iff_ne, bne_eq_false_iff_eq, Bool.not_eq_true', Bool.not_eq_false', ne_eq, Int.not_lt, Int.not_le, ge_iff_le, gt_iff_lt] at fb43
        refine o_pv (wants_some rfl rfl hb43) rfl rfl ?_
        refine o_pv (wants_some rfl rfl hb43) rfl rfl ?_
        refine o_callQ (wants_some rfl rfl hb43) rfl Tryd.call20 rfl (place_any _ _ (by first | omega | decide | (simp only [ByteArray.size_append, lit_size, strOf_size, List.size_toArray, List.length_cons, List.length_nil]; omega))) ?_
        refine o_pv (wants_some rfl rfl hb43) rfl rfl ?_
        refine o_pv (wants_some rfl rfl hb43) rfl rfl ?_
        refine o_elem (wants_some rfl rfl hb43) rfl Tryd.underlying39 Tryd.sizeOf45 rfl (hs1) rfl (by rw [List.length_map]; omega) ?_
        refine o_fieldAddr (T := 32) (off := 2) (wants_some rfl rfl hb43) rfl Tryd.underlying45 rfl rfl rfl Tryd.sizeOf32 rfl rfl ?_
        refine o_loadAI (wants_some rfl rfl hb43) rfl Tryd.isAgg32 Tryd.sizeOf32 rfl rfl (fun k y hk => by have hc := hs1.cells N _ htk (2 + k) y (by rw [Nat.add_comm]; exact hk); rw [← Nat.add_assoc] at hc; exact hc) ?_
        refine o_neqV (wants_some rfl rfl hb43) rfl rfl rfl Tryd.eqGuardType32 (EqV.struct Tryd.underlying32 Tryd.stoodInHeld32 (EqP.cons (T := 3) (o := 0) (by decide) rfl rfl (.one Tryd.isAgg3 (by repeat constructor)) (.one Tryd.isAgg3 (by repeat constructor)) (EqV.int Tryd.underlying3) (EqP.last (T := 3) (o := 1) (by decide) rfl rfl (.one Tryd.isAgg3 (by repeat constructor)) (.one Tryd.isAgg3 (by repeat constructor)) (EqV.int Tryd.underlying3)))) ?_
        refine o_nil ?_
        exact joins rfl
      refine o_nil ?_
      refine then_c ?_
      refine c_cond rfl (fun h3 => ?_) (fun h3 => ?_)
      · skip
        have f3 := h3
        try simp only [Bool.or_eq_true, Bool.and_eq_true, Bool.or_eq_false_iff, Bool.and_eq_false_iff, decide_eq_true_eq, decide_eq_false_iff_not, beq_iff_eq, beq_eq_false_iff_ne, bne_iff_ne, bne_eq_false_iff_eq, Bool.not_eq_true', Bool.not_eq_false', ne_eq, Int.not_lt, Int.not_le, ge_iff_le, gt_iff_lt] at f3
        have hip : i ≠ p := fun e => by
          subst e
          rcases f3.2 with f3 | f3 <;> exact f3 rfl
        refine c_skip ?_
        refine then_c ?_
        refine c_block ?_
        refine c_region ?_
        refine o_pv trivial rfl rfl ?_
        first | (refine o_add trivial rfl rfl rfl ?_ ?_; (omega)) | refine o_pv trivial rfl rfl ?_
        refine o_pv trivial rfl rfl ?_
        refine o_nil ?_
        refine blk_n ?_
        exact again (i + 1) (sub_cons rfl (sub_cons rfl (sub_cons rfl (sub_cons rfl (sub_cons rfl sub_nil))))) (fun _ h => h) (by show s.size - (i + 1) < s.size - i; omega) (by omega)
      · skip
        have f3 := h3
        try simp only [Bool.or_eq_true, Bool.and_eq_true, Bool.or_eq_false_iff, Bool.and_eq_false_iff, decide_eq_true_eq, decide_eq_false_iff_not, beq_iff_eq, beq_eq_false_iff_ne, bne_iff_ne, bne_eq_false_iff_eq, Bool.not_eq_true', Bool.not_eq_false', ne_eq, Int.not_lt, Int.not_le, ge_iff_le, gt_iff_lt] at f3
        have hip : i = p := by
          rcases f3 with f3 | f3
          · omega
          · rcases Nat.lt_or_ge i p with h9 | h9
            · exact absurd (Prod.ext f3.1 f3.2) (at_ne hlx0 h9)
            · omega
        subst hip
        refine c_exit ?_
        refine then_x ?_
        refine then_x ?_
        refine blk_eq rfl ?_
        refine then_c ?_
        refine c_seq ?_
        refine c_region ?_
        refine o_pv trivial rfl rfl ?_
        refine o_pv trivial rfl rfl ?_
        refine o_pv trivial rfl rfl ?_
        refine o_elem trivial rfl Tryd.underlying39 Tryd.sizeOf45 rfl (hs1) rfl (by rw [List.length_map]; omega) ?_
        refine o_fieldAddr (T := 9) (off := 1) trivial rfl Tryd.underlying45 rfl rfl rfl Tryd.sizeOf9 rfl rfl ?_
        refine o_load1I trivial rfl Tryd.isAgg9 rfl (hs1.cells N _ htk 1 _ rfl) ?_
        refine o_lenS trivial rfl Tryd.underlying9 rfl ?_
        first | (refine o_add trivial rfl rfl rfl ?_ ?_; (omega)) | refine o_pv trivial rfl rfl ?_
        refine o_pv trivial rfl rfl ?_
        refine o_nil ?_
        refine then_c ?_
        refine c_seq ?_
        refine c_seq ?_
        rw [show ((i : Int) + ((tokAt s i).text.size : Int)) = ((tokZ s i).stop : Int) by rw [htl]; omega]
        refine c_region ?_
        refine o_pv trivial rfl rfl ?_
        refine o_pv trivial rfl rfl ?_
        refine o_lenS trivial rfl Tryd.underlying9 rfl ?_
        refine o_pv trivial rfl rfl ?_
        refine o_nil ?_
        refine then_c ?_
        refine c_cond rfl (fun h4 => ?_) (fun h4 => ?_)
        · skip
          have f4 := h4
          try simp only [Bool.or_eq_true, Bool.and_eq_true, Bool.or_eq_false_iff, Bool.and_eq_false_iff, decide_eq_true_eq, decide_eq_false_iff_not, beq_iff_eq, beq_eq_false_iff_ne, bne_iff_ne, bne_eq_false_iff_eq, Bool.not_eq_true', Bool.not_eq_false', ne_eq, Int.not_lt, Int.not_le, ge_iff_le, gt_iff_lt] at f4
          exfalso; omega
        · skip
          have f4 := h4
          try simp only [Bool.or_eq_true, Bool.and_eq_true, Bool.or_eq_false_iff, Bool.and_eq_false_iff, decide_eq_true_eq, decide_eq_false_iff_not, beq_iff_eq, beq_eq_false_iff_ne, bne_iff_ne, bne_eq_false_iff_eq, Bool.not_eq_true', Bool.not_eq_false', ne_eq, Int.not_lt, Int.not_le, ge_iff_le, gt_iff_lt] at f4
          refine c_skip ?_
          refine then_c ?_
          refine c_seq ?_
          refine c_region ?_
          refine o_pv trivial rfl rfl ?_
          refine o_pv trivial rfl rfl ?_
          refine o_sliceS2 trivial rfl Tryd.underlying9 rfl rfl (by omega) ?_
          refine o_callI trivial rfl Tryd.call27 rfl (lex_any _ (hT.le hx1.le) (hM.le hx1.le) (by rw [ByteArray.size_extract]; omega)) ?_
          rintro _ I2 hx2 ⟨u2, rfl, hs2⟩
          refine o_pv trivial rfl rfl ?_
          refine o_pv trivial rfl rfl ?_
          refine o_pv trivial rfl rfl ?_
          refine o_pv trivial rfl rfl ?_
          refine o_alloc trivial rfl Tryd.zeroValue32 rfl (fun b13 => ?_)
          refine o_pv trivial rfl rfl ?_
          refine o_store trivial rfl rfl rfl Tryd.sizeOf32 rfl rfl (by first | exact .here | exact .there .here | exact .there (.there .here) | exact .there (.there (.there .here)) | exact .there (.there (.there (.there .here))) | exact .there (.there (.there (.there (.there .here))))) (by repeat constructor) ?_
          refine o_pv trivial rfl rfl ?_
          refine o_nil ?_
          refine then_c ?_
          refine c_seq ?_
          have hlaw := front_law (by omega) hp1 hp2 hp3 hp4
          rw [Int.toNat_natCast] at hs2 ⊢
          rw [hlaw] at hs2 ⊢
          have hcut := (hs1.le hx2.le).cut (lo := 0) (hi := ((N : Int) + 1).toNat) (by omega) (by rw [List.length_map]; omega)
          rw [show ((N : Int) + 1).toNat = N + 1 by omega, List.drop_zero, ← List.map_take, List.take_succ_eq_append_getElem hNl, hp5] at hcut
          refine c_region ?_
          refine o_pv trivial rfl rfl ?_
          refine' o_and trivial trivial rfl rfl rfl rfl rfl rfl rfl rfl (fun hb77 => ?_) ?_
          rotate_left
          · skip
            refine o_pv (wants_some rfl rfl hb77) rfl rfl ?_
            refine o_pv (wants_some rfl rfl hb77) rfl rfl ?_
            refine o_nil ?_
            exact joins rfl
          refine' o_and trivial trivial rfl rfl rfl rfl rfl rfl rfl rfl (fun hb81 => ?_) ?_
          rotate_left
          · skip
            have fb81 := hb81
            try simp only [Bool.or_eq_true, Bool.and_eq_true, Bool.or_eq_false_iff, Bool.and_eq_false_iff, decide_eq_true_eq, decide_eq_false_iff_not, beq_iff_eq, beq_eq_false_iff_ne, bne_iff_ne, bne_eq_false_iff_eq, Bool.not_eq_true', Bool.not_eq_false', ne_eq, Int.not_lt, Int.not_le, ge_iff_le, gt_iff_lt] at fb81
            refine o_pv (wants_some rfl rfl hb81) rfl rfl ?_
            refine o_pv (wants_some rfl rfl hb81) rfl rfl ?_
            refine o_pv (wants_some rfl rfl hb81) rfl rfl ?_
            first | (refine o_add (wants_some rfl rfl hb81) rfl rfl rfl ?_ ?_; (omega)) | refine o_pv (wants_some rfl rfl hb81) rfl rfl ?_
            refine o_cutHi (wants_some rfl rfl hb81) rfl Tryd.underlying39 Tryd.sizeOf45 rfl (hs1.le hx2.le) rfl (by rw [List.length_map]; omega) ?_
            refine o_callQ (wants_some rfl rfl hb81) rfl Tryd.call29 rfl (same_any _ _ _ hs2 (by rw [show ((N : Int) + 1).toNat = N + 1 by omega]; exact hcut)) ?_
            refine o_nil ?_
            exact joins rfl
          refine o_pv trivial rfl rfl ?_
          refine o_nil ?_
          refine then_c ?_
          refine c_ret ?_
          refine ret1 rfl rfl ?_
          refine leaf (hx1.trans hx2 (Nat.le_refl _)) (List.nil_sublist _) (congrArg Value.bool ?_); rfl
/-- Where LexAgain stands: so many tokens are done, byte x comes next. -/
structure Done (s : ByteArray) (i x : Nat) (u : ByteArray) : Prop where
  le : i ≤ (lexZ s).toks.length
  text : u = joinZ ((lexZ s).toks.take i)
  size : u.size ≤ 2 * x
  hops : Hops s 0 x
  rest : i < (lexZ s).toks.length → Lexed s x s.size ((lexZ s).toks.drop i)
theorem Done.next {s : ByteArray} {i x : Nat} {u : ByteArray} (h : Done s i x u) (hi : i < (lexZ s).toks.length) : ∃ p, x ≤ p ∧ p < s.size ∧ (tokZ s p).err = 0 ∧ ((lexZ s).toks)[i] = tokAt s p ∧ Hops s 0 p ∧ Done s (i + 1) (tokZ s p).stop (u ++ (tokAt s p).text ++ ⟨#[32]⟩) := by
  have hx := h.rest hi
  have hne : 0 < ((lexZ s).toks.drop i).length := by simp; omega
  obtain ⟨p, h1, h2, h3, h4, h5, h6⟩ := hx.split 0 hne
  rw [List.getElem_drop] at h5
  simp only [Nat.add_zero] at h5
  have hst := tokZ_stop h2 h4
  have htx := tok_text h2 h4
  have hp0 := h.hops.trans h1.hops
  refine ⟨p, h1.hops.ge, h2, h4, h5, hp0, ⟨hi, ?_, ?_, hp0.trans (tok_hops h2 h4), fun _ => ?_⟩⟩
  · rw [List.take_succ_eq_append_getElem hi, joinZ_app, ← h.text, h5]
  · have hs := h.size
    have hge := h1.hops.ge
    have e : (tokAt s p).text.size = (tokZ s p).stop - p := by show (tokZ s p).text.size = _; rw [htx, ByteArray.size_extract]; omega
    have e1 : (⟨#[32]⟩ : ByteArray).size = 1 := rfl
    rw [ByteArray.size_append, ByteArray.size_append, e, e1]
    omega
  · rw [List.drop_drop, Nat.zero_add, Nat.add_comm] at h6
    rw [Nat.add_comm]
    exact h6
theorem Done.start {s : ByteArray} (h : (lexZ s).err = 0 ∨ (lexZ s).toks = []) (hs : s.size ≤ 4000) : Done s 0 0 ⟨#[]⟩ :=
  ⟨Nat.zero_le _, rfl, Nat.zero_le _, .refl, fun hlt => by
    rcases h with h | h
    · exact lexes_fine hs h
    · rw [h] at hlt; simp at hlt⟩
theorem lexes_none {s : ByteArray} (hs : s.size ≤ 4000) : (lexZ s).err = 0 ∨ (lexZ s).toks = [] := by
  have hl := lexes s hs
  generalize lexZ s = r at hl
  cases hl with
  | fine a => exact .inl rfl
  | bad a b1 b2 b3 => exact .inr rfl
theorem again_any {s : ByteArray} (hs : s.size ≤ 2000) : ∃ us, lexZ (joinZ (lexZ s).toks) = ⟨us, 0, 0, 0⟩ ∧ Likes (lexZ s).toks us := by
  rcases lexes_none (s := s) (by omega) with h | h
  · exact again_law hs (lexes_fine (by omega) h)
  · rw [h]; exact ⟨[], rfl, .nil⟩
theorem LexAgain_any (s : ByteArray) {I : Hp} (hT : Tabs I) (hM : Mx I) : Fun Tryd.prog 12 [.string s] I [] (fun v _ _ => v = .bool true) := by
  intro w hw
  refine enter1 _ Tryd.func12 rfl Tryd.ntmps12 rfl ?_ hw
  refine c_seq ?_
  refine c_region ?_
  refine o_pv trivial rfl rfl ?_
  refine o_nil ?_
  refine then_c ?_
  refine c_seq ?_
  refine c_region ?_
  refine o_callQ trivial rfl Tryd.call26 rfl (awake10_any hT hM) ?_
  refine o_pv trivial rfl rfl ?_
  refine o_nil ?_
  refine then_c ?_
  refine c_seq ?_
  refine c_seq ?_
  refine c_region ?_
  refine o_pv trivial rfl rfl ?_
  refine o_lenS trivial rfl Tryd.underlying9 rfl ?_
  refine o_pv trivial rfl rfl ?_
  refine o_nil ?_
  refine then_c ?_
  refine c_cond rfl (fun h1 => ?_) (fun h1 => ?_)
  · skip
    have f1 := h1
    try simp only [Bool.or_eq_true, Bool.and_eq_true, Bool.or_eq_false_iff, Bool.and_eq_false_iff, decide_eq_true_eq, decide_eq_false_iff_not, beq_iff_eq, beq_eq_false_iff_ne, bne_iff_ne, bne_eq_false_iff_eq, Bool.not_eq_true', Bool.not_eq_false', ne_eq, Int.not_lt, Int.not_le, ge_iff_le, gt_iff_lt] at f1
    refine c_seq ?_
    refine c_region ?_
    refine o_pv trivial rfl rfl ?_
    refine o_pv trivial rfl rfl ?_
    refine o_nil ?_
    refine then_c ?_
    refine c_ret ?_
    refine then_r ?_
    refine ret1 rfl rfl ?_
    refine leaf0 ?_; rfl
  · skip
    have f1 := h1
    try simp only [Bool.or_eq_true, Bool.and_eq_true, Bool.or_eq_false_iff, Bool.and_eq_false_iff, decide_eq_true_eq, decide_eq_false_iff_not, beq_iff_eq, beq_eq_false_iff_ne, bne_iff_ne, bne_eq_false_iff_eq, Bool.not_eq_true', Bool.not_eq_false', ne_eq, Int.not_lt, Int.not_le, ge_iff_le, gt_iff_lt] at f1
    have hls := lex_lines s (by omega); have hno := lexes_none (s := s) (by omega)
    refine c_skip ?_
    refine then_c ?_
    refine c_seq ?_
    refine c_region ?_
    refine o_pv trivial rfl rfl ?_
    refine o_callI trivial rfl Tryd.call27 rfl (lex_any s hT hM (by omega)) ?_
    rintro _ I1 hx1 ⟨u1, rfl, hs1⟩
    refine o_pv trivial rfl rfl ?_
    refine o_pv trivial rfl rfl ?_
    refine o_pv trivial rfl rfl ?_
    refine o_pv trivial rfl rfl ?_
    refine o_alloc trivial rfl Tryd.zeroValue32 rfl (fun b5 => ?_)
    refine o_pv trivial rfl rfl ?_
    refine o_store trivial rfl rfl rfl Tryd.sizeOf32 rfl rfl (by first | exact .here | exact .there .here | exact .there (.there .here) | exact .there (.there (.there .here)) | exact .there (.there (.there (.there .here))) | exact .there (.there (.there (.there (.there .here))))) (by repeat constructor) ?_
    refine o_pv trivial rfl rfl ?_
    refine o_nil ?_
    refine then_c ?_
    refine c_seq ?_
    refine c_region ?_
    refine o_pv trivial rfl rfl ?_
    refine o_nil ?_
    refine then_c ?_
    refine c_seq ?_
    refine c_region ?_
    refine o_pv trivial rfl rfl ?_
    refine o_nil ?_
    refine then_c ?_
    refine c_seq ?_
    refine c_seq ?_
    refine c_region ?_
    refine o_pv trivial rfl rfl ?_
    refine o_nil ?_
    refine then_c ?_
    refine c_block ?_
    refine c_loop (ι := Nat × Nat × ByteArray) [0, 3, 4, 6] (.cons rfl (.cons rfl (.cons rfl (.cons rfl .nil)))) (fun x => (lexZ s).toks.length - x.1) (fun x E0 => (7, .string x.2.2) :: (8, .int .i64 (x.2.1 : Int)) :: (9, .int .i64 (x.1 : Int)) :: E0) (fun x => St w [] I1 []) (fun x => Done s x.1 x.2.1 x.2.2) ((0, 0, ⟨#[]⟩)) (sub_cons rfl (sub_cons rfl (sub_cons rfl (sub_cons rfl (sub_cons rfl (sub_cons rfl (sub_cons rfl sub_nil))))))) (fun _ h => h.drop (List.nil_sublist _)) (Done.start hno (by omega)) ?_
    rintro ⟨i, q, u⟩ hF
    try dsimp only
    simp only at hF; have hsz := hF.size; have hq := hF.hops.le (Nat.zero_le _)
    refine c_seq ?_
    refine c_seq ?_
    refine c_region ?_
    refine o_pv trivial rfl rfl ?_
    refine o_pv trivial rfl rfl ?_
    refine o_lenSlc trivial rfl Tryd.underlying39 rfl (hs1) ?_
    refine o_pv trivial rfl rfl ?_
    refine o_nil ?_
    refine then_c ?_
    refine c_cond rfl (fun h2 => ?_) (fun h2 => ?_)
    · skip
      have f2 := h2
      try simp only [Bool.or_eq_true, Bool.and_eq_true, Bool.or_eq_false_iff, Bool.and_eq_false_iff, decide_eq_true_eq, decide_eq_false_iff_not, beq_iff_eq, beq_eq_false_iff_ne, bne_iff_ne, bne_eq_false_iff_eq, Bool.not_eq_true', Bool.not_eq_false', ne_eq, Int.not_lt, Int.not_le, ge_iff_le, gt_iff_lt] at f2
      rw [List.length_map] at f2; have hi : i < (lexZ s).toks.length := by omega
      obtain ⟨p, hp1, hp2, hp3, hp4, hp5, hp6⟩ := hF.next hi
      have hst := tokZ_stop hp2 hp3
      have htk : ((lexZ s).toks.map Tok.cells)[i]? = some (tokAt s p).cells := by rw [tok_get hi, hp4]
      have htx := tok_text hp2 hp3
      have htl : (tokAt s p).text.size = (tokZ s p).stop - p := by show (tokZ s p).text.size = _; rw [htx, ByteArray.size_extract]; omega
      refine c_skip ?_
      refine then_c ?_
      refine c_seq ?_
      refine c_block ?_
      refine c_seq ?_
      refine c_region ?_
      refine o_pv trivial rfl rfl ?_
      refine o_pv trivial rfl rfl ?_
      refine o_pv trivial rfl rfl ?_
      refine o_elem trivial rfl Tryd.underlying39 Tryd.sizeOf45 rfl (hs1) rfl (by rw [List.length_map]; omega) ?_
      refine o_fieldAddr (T := 9) (off := 1) trivial rfl Tryd.underlying45 rfl rfl rfl Tryd.sizeOf9 rfl rfl ?_
      refine o_load1I trivial rfl Tryd.isAgg9 rfl (hs1.cells i _ htk 1 _ rfl) ?_
      refine o_cat trivial rfl rfl rfl (by first | omega | (simp only [ByteArray.size_append, lit_size, strOf_size, List.length_replicate, List.size_toArray, List.length_cons, List.length_nil]; omega) | (simp; omega)) ?_
      refine o_cat trivial rfl rfl rfl (by first | omega | (simp only [ByteArray.size_append, lit_size, strOf_size, List.length_replicate, List.size_toArray, List.length_cons, List.length_nil]; omega) | (simp; omega)) ?_
      refine o_pv trivial rfl rfl ?_
      refine o_nil ?_
      refine then_c ?_
      refine c_seq ?_
      refine c_block ?_
      refine c_loop (ι := Nat) [0, 3, 4, 6, 7, 9] (.cons rfl (.cons rfl (.cons rfl (.cons rfl (.cons rfl (.cons rfl .nil)))))) (fun x => s.size - x) (fun x E0 => (8, .int .i64 (x : Int)) :: E0) (fun x => St w [] I1 []) (fun x => q ≤ x ∧ x ≤ p) (q) (sub_cons rfl (sub_cons rfl (sub_cons rfl (sub_cons rfl (sub_cons rfl (sub_cons rfl (sub_cons rfl sub_nil))))))) (fun _ h => h) (⟨Nat.le_refl _, hp1⟩) ?_
      rintro y ⟨hy1, hy2⟩
      try dsimp only
      refine c_seq ?_
      refine c_seq ?_
      refine c_quiet (by kernel_rfl) (by kernel_rfl) (fun _ h => h.drawn) ?_
      refine o_pv trivial rfl rfl ?_
      refine o_pv trivial rfl rfl ?_
      refine o_lenS trivial rfl Tryd.underlying9 rfl ?_
      refine o_pv trivial rfl rfl ?_
      refine' o_and trivial trivial rfl rfl rfl rfl rfl rfl rfl rfl (fun hb42 => ?_) ?_
      rotate_left
      · skip
        have fb42 := hb42
        try simp only [Bool.or_eq_true, Bool.and_eq_true, Bool.or_eq_false_iff, Bool.and_eq_false_iff, decide_eq_true_eq, decide_eq_false_iff_not, beq_iff_eq, beq_eq_false_iff_ne, bne_iff_ne, bne_eq_false_iff_eq, Bool.not_eq_true', Bool.not_eq_false', ne_eq, Int.not_lt, Int.not_le, ge_iff_le, gt_iff_lt] at fb42
        refine o_pv (wants_some rfl rfl hb42) rfl rfl ?_
        refine o_pv (wants_some rfl rfl hb42) rfl rfl ?_
        refine o_callQ (wants_some rfl rfl hb42) rfl Tryd.call20 rfl (place_any _ _ (by first | omega | decide | (simp only [ByteArray.size_append, lit_size, strOf_size, List.size_toArray, List.length_cons, List.length_nil]; omega))) ?_
        refine o_pv (wants_some rfl rfl hb42) rfl rfl ?_
        refine o_pv (wants_some rfl rfl hb42) rfl rfl ?_
        refine o_elem (wants_some rfl rfl hb42) rfl Tryd.underlying39 Tryd.sizeOf45 rfl (hs1) rfl (by rw [List.length_map]; omega) ?_
        refine o_fieldAddr (T := 32) (off := 2) (wants_some rfl rfl hb42) rfl Tryd.underlying45 rfl rfl rfl Tryd.sizeOf32 rfl rfl ?_
        refine o_loadAI (wants_some rfl rfl hb42) rfl Tryd.isAgg32 Tryd.sizeOf32 rfl rfl (fun k y hk => by have hc := hs1.cells i _ htk (2 + k) y (by rw [Nat.add_comm]; exact hk); rw [← Nat.add_assoc] at hc; exact hc) ?_
        refine o_neqV (wants_some rfl rfl hb42) rfl rfl rfl Tryd.eqGuardType32 (EqV.struct Tryd.underlying32 Tryd.stoodInHeld32 (EqP.cons (T := 3) (o := 0) (by decide) rfl rfl (.one Tryd.isAgg3 (by repeat constructor)) (.one Tryd.isAgg3 (by repeat constructor)) (EqV.int Tryd.underlying3) (EqP.last (T := 3) (o := 1) (by decide) rfl rfl (.one Tryd.isAgg3 (by repeat constructor)) (.one Tryd.isAgg3 (by repeat constructor)) (EqV.int Tryd.underlying3)))) ?_
        refine o_nil ?_
        exact joins rfl
      refine o_nil ?_
      refine then_c ?_
      refine c_cond rfl (fun h3 => ?_) (fun h3 => ?_)
      · skip
        have f3 := h3
        try simp only [Bool.or_eq_true, Bool.and_eq_true, Bool.or_eq_false_iff, Bool.and_eq_false_iff, decide_eq_true_eq, decide_eq_false_iff_not, beq_iff_eq, beq_eq_false_iff_ne, bne_iff_ne, bne_eq_false_iff_eq, Bool.not_eq_true', Bool.not_eq_false', ne_eq, Int.not_lt, Int.not_le, ge_iff_le, gt_iff_lt] at f3
        have hip : y ≠ p := fun e => by
          subst e
          rcases f3.2 with f3 | f3 <;> exact f3 rfl
        refine c_skip ?_
        refine then_c ?_
        refine c_block ?_
        refine c_region ?_
        refine o_pv trivial rfl rfl ?_
        first | (refine o_add trivial rfl rfl rfl ?_ ?_; (omega)) | refine o_pv trivial rfl rfl ?_
        refine o_pv trivial rfl rfl ?_
        refine o_nil ?_
        refine blk_n ?_
        exact again (y + 1) (sub_cons rfl (sub_cons rfl (sub_cons rfl (sub_cons rfl (sub_cons rfl (sub_cons rfl (sub_cons rfl sub_nil))))))) (fun _ h => h) (by show s.size - (y + 1) < s.size - y; omega) ⟨by omega, by omega⟩
      · skip
        have f3 := h3
        try simp only [Bool.or_eq_true, Bool.and_eq_true, Bool.or_eq_false_iff, Bool.and_eq_false_iff, decide_eq_true_eq, decide_eq_false_iff_not, beq_iff_eq, beq_eq_false_iff_ne, bne_iff_ne, bne_eq_false_iff_eq, Bool.not_eq_true', Bool.not_eq_false', ne_eq, Int.not_lt, Int.not_le, ge_iff_le, gt_iff_lt] at f3
        have hip : y = p := by
          rcases f3 with f3 | f3
          · omega
          · rcases Nat.lt_or_ge y p with h9 | h9
            · exact absurd (Prod.ext f3.1 f3.2) (at_ne hp5 h9)
            · omega
        subst hip
        refine c_exit ?_
        refine then_x ?_
        refine then_x ?_
        refine blk_eq rfl ?_
        refine then_c ?_
        refine c_seq ?_
        refine c_seq ?_
        refine c_region ?_
        refine o_pv trivial rfl rfl ?_
        refine o_lenS trivial rfl Tryd.underlying9 rfl ?_
        refine o_pv trivial rfl rfl ?_
        first | (refine o_sub trivial rfl rfl rfl ?_ ?_; (omega)) | refine o_pv trivial rfl rfl ?_
        refine o_pv trivial rfl rfl ?_
        refine o_pv trivial rfl rfl ?_
        refine o_elem trivial rfl Tryd.underlying39 Tryd.sizeOf45 rfl (hs1) rfl (by rw [List.length_map]; omega) ?_
        refine o_fieldAddr (T := 9) (off := 1) trivial rfl Tryd.underlying45 rfl rfl rfl Tryd.sizeOf9 rfl rfl ?_
        refine o_load1I trivial rfl Tryd.isAgg9 rfl (hs1.cells i _ htk 1 _ rfl) ?_
        refine o_lenS trivial rfl Tryd.underlying9 rfl ?_
        refine o_pv trivial rfl rfl ?_
        refine o_nil ?_
        refine then_c ?_
        refine c_cond rfl (fun h4 => ?_) (fun h4 => ?_)
        · skip
          have f4 := h4
          try simp only [Bool.or_eq_true, Bool.and_eq_true, Bool.or_eq_false_iff, Bool.and_eq_false_iff, decide_eq_true_eq, decide_eq_false_iff_not, beq_iff_eq, beq_eq_false_iff_ne, bne_iff_ne, bne_eq_false_iff_eq, Bool.not_eq_true', Bool.not_eq_false', ne_eq, Int.not_lt, Int.not_le, ge_iff_le, gt_iff_lt] at f4
          exfalso; omega
        · skip
          have f4 := h4
          try simp only [Bool.or_eq_true, Bool.and_eq_true, Bool.or_eq_false_iff, Bool.and_eq_false_iff, decide_eq_true_eq, decide_eq_false_iff_not, beq_iff_eq, beq_eq_false_iff_ne, bne_iff_ne, bne_eq_false_iff_eq, Bool.not_eq_true', Bool.not_eq_false', ne_eq, Int.not_lt, Int.not_le, ge_iff_le, gt_iff_lt] at f4
          refine c_skip ?_
          refine then_c ?_
          refine c_seq ?_
          refine c_seq ?_
          refine c_quiet (by kernel_rfl) (by kernel_rfl) (fun _ h => h.drawn) ?_
          refine o_pv trivial rfl rfl ?_
          refine o_pv trivial rfl rfl ?_
          refine o_pv trivial rfl rfl ?_
          refine o_pv trivial rfl rfl ?_
          refine o_pv trivial rfl rfl ?_
          refine o_elem trivial rfl Tryd.underlying39 Tryd.sizeOf45 rfl (hs1) rfl (by rw [List.length_map]; omega) ?_
          refine o_fieldAddr (T := 9) (off := 1) trivial rfl Tryd.underlying45 rfl rfl rfl Tryd.sizeOf9 rfl rfl ?_
          refine o_load1I trivial rfl Tryd.isAgg9 rfl (hs1.cells i _ htk 1 _ rfl) ?_
          refine o_lenS trivial rfl Tryd.underlying9 rfl ?_
          first | (refine o_add trivial rfl rfl rfl ?_ ?_; (omega)) | refine o_pv trivial rfl rfl ?_
          refine o_sliceS3 trivial rfl Tryd.underlying9 rfl rfl rfl (by omega) ?_
          refine o_pv trivial rfl rfl ?_
          refine o_pv trivial rfl rfl ?_
          refine o_elem trivial rfl Tryd.underlying39 Tryd.sizeOf45 rfl (hs1) rfl (by rw [List.length_map]; omega) ?_
          refine o_fieldAddr (T := 9) (off := 1) trivial rfl Tryd.underlying45 rfl rfl rfl Tryd.sizeOf9 rfl rfl ?_
          refine o_load1I trivial rfl Tryd.isAgg9 rfl (hs1.cells i _ htk 1 _ rfl) ?_
          refine o_pv trivial rfl rfl ?_
          refine o_nil ?_
          refine then_c ?_
          refine c_cond rfl (fun h5 => ?_) (fun h5 => ?_)
          · skip
            have f5 := h5
            try simp only [Bool.or_eq_true, Bool.and_eq_true, Bool.or_eq_false_iff, Bool.and_eq_false_iff, decide_eq_true_eq, decide_eq_false_iff_not, beq_iff_eq, beq_eq_false_iff_ne, bne_iff_ne, bne_eq_false_iff_eq, Bool.not_eq_true', Bool.not_eq_false', ne_eq, Int.not_lt, Int.not_le, ge_iff_le, gt_iff_lt] at f5
            exfalso; apply f5; rw [show ((y : Int) + ((tokAt s y).text.size : Int)).toNat = (tokZ s y).stop by rw [htl]; omega, Int.toNat_natCast]; exact congrArg ByteArray.toList htx.symm
          · skip
            have f5 := h5
            try simp only [Bool.or_eq_true, Bool.and_eq_true, Bool.or_eq_false_iff, Bool.and_eq_false_iff, decide_eq_true_eq, decide_eq_false_iff_not, beq_iff_eq, beq_eq_false_iff_ne, bne_iff_ne, bne_eq_false_iff_eq, Bool.not_eq_true', Bool.not_eq_false', ne_eq, Int.not_lt, Int.not_le, ge_iff_le, gt_iff_lt] at f5
            refine c_skip ?_
            refine then_c ?_
            refine c_region ?_
            refine o_pv trivial rfl rfl ?_
            refine o_pv trivial rfl rfl ?_
            refine o_pv trivial rfl rfl ?_
            refine o_elem trivial rfl Tryd.underlying39 Tryd.sizeOf45 rfl (hs1) rfl (by rw [List.length_map]; omega) ?_
            refine o_fieldAddr (T := 9) (off := 1) trivial rfl Tryd.underlying45 rfl rfl rfl Tryd.sizeOf9 rfl rfl ?_
            refine o_load1I trivial rfl Tryd.isAgg9 rfl (hs1.cells i _ htk 1 _ rfl) ?_
            refine o_lenS trivial rfl Tryd.underlying9 rfl ?_
            first | (refine o_add trivial rfl rfl rfl ?_ ?_; (omega)) | refine o_pv trivial rfl rfl ?_
            refine o_pv trivial rfl rfl ?_
            refine o_nil ?_
            refine blk_n ?_
            refine then_c ?_
            rw [show ((y : Int) + ((tokAt s y).text.size : Int)) = ((tokZ s y).stop : Int) by rw [htl]; omega]
            refine c_region ?_
            refine o_pv trivial rfl rfl ?_
            first | (refine o_add trivial rfl rfl rfl ?_ ?_; (omega)) | refine o_pv trivial rfl rfl ?_
            refine o_pv trivial rfl rfl ?_
            refine o_nil ?_
            exact again (i + 1, (tokZ s y).stop, u ++ (tokAt s y).text ++ ⟨#[32]⟩) (sub_cons rfl (sub_cons rfl (sub_cons rfl (sub_cons rfl (sub_cons rfl (sub_cons rfl (sub_cons rfl sub_nil))))))) (fun _ h => h) (by show (lexZ s).toks.length - (i + 1) < (lexZ s).toks.length - i; omega) hp6
    · skip
      have f2 := h2
      try simp only [Bool.or_eq_true, Bool.and_eq_true, Bool.or_eq_false_iff, Bool.and_eq_false_iff, decide_eq_true_eq, decide_eq_false_iff_not, beq_iff_eq, beq_eq_false_iff_ne, bne_iff_ne, bne_eq_false_iff_eq, Bool.not_eq_true', Bool.not_eq_false', ne_eq, Int.not_lt, Int.not_le, ge_iff_le, gt_iff_lt] at f2
      rw [List.length_map] at f2; have hie : i = (lexZ s).toks.length := by have := hF.le; omega
      refine c_exit ?_
      refine then_x ?_
      refine then_x ?_
      refine blk_eq rfl ?_
      refine then_c ?_
      refine c_seq ?_
      have hue : u = joinZ (lexZ s).toks := by rw [hF.text, hie, List.take_length]
      obtain ⟨us, hl1, hl2⟩ := again_any (s := s) (by omega)
      rw [← hue] at hl1
      refine c_region ?_
      refine o_pv trivial rfl rfl ?_
      refine o_callI trivial rfl Tryd.call27 rfl (lex_any u (hT.le hx1.le) (hM.le hx1.le) (by omega)) ?_
      rintro _ I2 hx2 ⟨u2, rfl, hs2⟩
      refine o_pv trivial rfl rfl ?_
      refine o_pv trivial rfl rfl ?_
      refine o_pv trivial rfl rfl ?_
      refine o_pv trivial rfl rfl ?_
      refine o_alloc trivial rfl Tryd.zeroValue32 rfl (fun b11 => ?_)
      refine o_pv trivial rfl rfl ?_
      refine o_store trivial rfl rfl rfl Tryd.sizeOf32 rfl rfl (by first | exact .here | exact .there .here | exact .there (.there .here) | exact .there (.there (.there .here)) | exact .there (.there (.there (.there .here))) | exact .there (.there (.there (.there (.there .here))))) (by repeat constructor) ?_
      refine o_pv trivial rfl rfl ?_
      refine o_nil ?_
      refine then_c ?_
      refine c_seq ?_
      rw [hl1] at hs2 ⊢
      refine c_region ?_
      refine o_pv trivial rfl rfl ?_
      refine' o_and trivial trivial rfl rfl rfl rfl rfl rfl rfl rfl (fun hb98 => ?_) ?_
      rotate_left
      · skip
        have fb98 := hb98
        try simp only [Bool.or_eq_true, Bool.and_eq_true, Bool.or_eq_false_iff, Bool.and_eq_false_iff, decide_eq_true_eq, decide_eq_false_iff_not, beq_iff_eq, beq_eq_false_iff_ne, bne_iff_ne, bne_eq_false_iff_eq, Bool.not_eq_true', Bool.not_eq_false', ne_eq, Int.not_lt, Int.not_le, ge_iff_le, gt_iff_lt] at fb98
        refine o_pv (wants_some rfl rfl hb98) rfl rfl ?_
        refine o_pv (wants_some rfl rfl hb98) rfl rfl ?_
        refine' o_or (wants_some rfl rfl hb98) (wants_some rfl rfl hb98) rfl rfl rfl rfl rfl rfl rfl rfl (fun hb101 => ?_) ?_
        rotate_left
        · skip
          have fb101 := hb101
          try simp only [Bool.or_eq_true, Bool.and_eq_true, Bool.or_eq_false_iff, Bool.and_eq_false_iff, decide_eq_true_eq, decide_eq_false_iff_not, beq_iff_eq, beq_eq_false_iff_ne, bne_iff_ne, bne_eq_false_iff_eq, Bool.not_eq_true', Bool.not_eq_false', ne_eq, Int.not_lt, Int.not_le, ge_iff_le, gt_iff_lt] at fb101
          refine o_pv (wants_some rfl rfl hb101) rfl rfl ?_
          refine o_lenSlc (wants_some rfl rfl hb101) rfl Tryd.underlying39 rfl (hs1.le hx2.le) ?_
          refine o_pv (wants_some rfl rfl hb101) rfl rfl ?_
          refine o_nil ?_
          exact joins rfl
        refine o_nil ?_
        exact joins rfl
      refine' o_and trivial trivial rfl rfl rfl rfl rfl rfl rfl rfl (fun hb107 => ?_) ?_
      rotate_left
      · skip
        refine o_pv (wants_some rfl rfl hb107) rfl rfl ?_
        refine o_pv (wants_some rfl rfl hb107) rfl rfl ?_
        refine o_nil ?_
        exact joins rfl
      refine' o_and trivial trivial rfl rfl rfl rfl rfl rfl rfl rfl (fun hb111 => ?_) ?_
      rotate_left
      · skip
        have fb111 := hb111
        try simp only [Bool.or_eq_true, Bool.and_eq_true, Bool.or_eq_false_iff, Bool.and_eq_false_iff, decide_eq_true_eq, decide_eq_false_iff_not, beq_iff_eq, beq_eq_false_iff_ne, bne_iff_ne, bne_eq_false_iff_eq, Bool.not_eq_true', Bool.not_eq_false', ne_eq, Int.not_lt, Int.not_le, ge_iff_le, gt_iff_lt] at fb111
        refine o_pv (wants_some rfl rfl hb111) rfl rfl ?_
        refine o_pv (wants_some rfl rfl hb111) rfl rfl ?_
        refine o_callQ (wants_some rfl rfl hb111) rfl Tryd.call32 rfl (texts_any _ _ _ us (hs1.le hx2.le) hs2 hl2.len hl2.get) ?_
        refine o_nil ?_
        exact joins rfl
      refine o_pv trivial rfl rfl ?_
      refine o_nil ?_
      refine then_c ?_
      refine c_ret ?_
      refine ret1 rfl rfl ?_
      refine leaf (hx1.trans hx2 (Nat.le_refl _)) (List.nil_sublist _) (congrArg Value.bool ?_); rcases hno with h | h <;> simp [h]
end Go.Proofs.YtmflkokhhknlaaaDoor
