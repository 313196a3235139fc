/-
  Chapter 9's functions: what each returns, by the lemmas of XOps.
-/
import Derived.Test.YtmflkokhhknlaaaDoorTypes
import Derived.Test.YtmflkokhhknlaaaDoorSignPlain
import Derived.Test.YtmflkokhhknlaaaDoorShelf
import Derived.Shelf.Unicode.DecodeSlow
namespace Go.Proofs.YtmflkokhhknlaaaDoor
open Go Go.Tw
set_option linter.unusedVariables false
set_option linter.unusedSimpArgs false
set_option linter.unnecessarySimpa false
set_option maxHeartbeats 1000000

/-- A contract of the library's that leaves what lay below. -/
theorem fun_below {f : FuncId} {vs : List Value} {I : Hp} {R : Value → Prop} (h : ∀ w, I.In w → Calls Tryd.prog f vs.toArray w fun e w' => ∃ v, e = .returned v ∧ R v ∧ RowKit.Below w.heap.size w w') : Fun Tryd.prog f vs I [] (fun v _ _ => R v) := fun w hw =>
  (h w hw.imm).mono fun e w' ⟨v, he, hR, hb⟩ => ⟨v, he, ⟨I, [], (St.start hw.imm).still (But.of_below hb), Ext.refl _ _, hR⟩⟩

/-- The two tables of package utf8, where nobody writes. -/
def Tabs (I : Hp) : Prop :=
  (∀ c, c < 256 → I.cell? ⟨0, c, none⟩ = some (.int .u8 (Lib.firstT c))) ∧
  (∀ i, i < 16 → I.cell? ⟨1, 2 * i, none⟩ = some (.int .u8 (Lib.accLo i)) ∧ I.cell? ⟨1, 2 * i + 1, none⟩ = some (.int .u8 (Lib.accHi i)))
theorem Tabs.le {I I' : Hp} (h : Tabs I) (hl : I.Le I') : Tabs I' := ⟨fun c hc => hl.cell (h.1 c hc), fun i hi => ⟨hl.cell (h.2 i hi).1, hl.cell (h.2 i hi).2⟩⟩
theorem Tabs.utf8 {I : Hp} {w : World} (h : Tabs I) (hI : I.In w) : Lib.Utf8Tabs 0 1 w := ⟨fun c hc => hI.cell (h.1 c hc), fun i hi => ⟨hI.cell (h.2 i hi).1, hI.cell (h.2 i hi).2⟩⟩

theorem within_any (r a b : Int) : PureC Tryd.prog 33 [.int .i32 r, .int .i32 a, .int .i32 b] (.bool (decide (r ≥ a) && decide (r ≤ b))) := by
  intro w
  refine enter3 _ Tryd.func33 rfl Tryd.ntmps33 rfl ?_ (S := fun w1 => w1 = w) rfl
  refine c_seq ?_
  refine c_region ?_
  refine o_pv trivial rfl rfl ?_
  refine o_nil ?_
  refine then_c ?_
  refine c_seq ?_
  refine c_region ?_
  refine o_pv trivial rfl rfl ?_
  refine o_pv trivial rfl rfl ?_
  refine o_pv trivial rfl rfl ?_
  refine' o_and trivial trivial rfl rfl rfl rfl rfl rfl rfl rfl (fun hb10 => ?_) ?_
  rotate_left
  · skip
    refine o_pv (wants_some rfl rfl hb10) rfl rfl ?_
    refine o_pv (wants_some rfl rfl hb10) rfl rfl ?_
    refine o_pv (wants_some rfl rfl hb10) rfl rfl ?_
    refine o_nil ?_
    exact joins rfl
  refine o_pv trivial rfl rfl ?_
  refine o_nil ?_
  refine then_c ?_
  refine c_ret ?_
  refine ret1 rfl rfl ?_
  exact fun _ hw => ⟨rfl, hw⟩

theorem refKind_any (r : Int) : PureC Tryd.prog 17 [.int .i64 r] (.int .i64 (kindZ r)) := by
  intro w
  refine enter1 _ Tryd.func17 rfl Tryd.ntmps17 rfl ?_ (S := fun w1 => w1 = w) rfl
  refine c_seq ?_
  refine c_region ?_
  refine o_pv trivial rfl rfl ?_
  refine o_nil ?_
  refine then_c ?_
  refine c_seq ?_
  refine c_block ?_
  refine c_seq ?_
  refine c_region ?_
  refine o_pv trivial rfl rfl ?_
  refine o_pv trivial rfl rfl ?_
  refine' o_and trivial trivial rfl rfl rfl rfl rfl rfl rfl rfl (fun hb6 => ?_) ?_
  rotate_left
  · skip
    refine o_pv (wants_some rfl rfl hb6) rfl rfl ?_
    refine o_pv (wants_some rfl rfl hb6) rfl rfl ?_
    refine o_nil ?_
    exact joins rfl
  refine' o_or trivial trivial rfl rfl rfl rfl rfl rfl rfl rfl (fun hb10 => ?_) ?_
  rotate_left
  · skip
    refine o_pv (wants_some rfl rfl hb10) rfl rfl ?_
    refine o_pv (wants_some rfl rfl hb10) rfl rfl ?_
    refine' o_and (wants_some rfl rfl hb10) (wants_some rfl rfl hb10) rfl rfl rfl rfl rfl rfl rfl rfl (fun hb13 => ?_) ?_
    rotate_left
    · skip
      refine o_pv (wants_some rfl rfl hb13) rfl rfl ?_
      refine o_pv (wants_some rfl rfl hb13) rfl rfl ?_
      refine o_nil ?_
      exact joins rfl
    refine o_nil ?_
    exact joins rfl
  refine' o_or trivial trivial rfl rfl rfl rfl rfl rfl rfl rfl (fun hb18 => ?_) ?_
  rotate_left
  · skip
    refine o_pv (wants_some rfl rfl hb18) rfl rfl ?_
    refine o_pv (wants_some rfl rfl hb18) rfl rfl ?_
    refine o_nil ?_
    exact joins rfl
  refine' o_or trivial trivial rfl rfl rfl rfl rfl rfl rfl rfl (fun hb22 => ?_) ?_
  rotate_left
  · skip
    refine o_pv (wants_some rfl rfl hb22) rfl rfl ?_
    refine o_pv (wants_some rfl rfl hb22) rfl rfl ?_
    refine' o_and (wants_some rfl rfl hb22) (wants_some rfl rfl hb22) rfl rfl rfl rfl rfl rfl rfl rfl (fun hb25 => ?_) ?_
    rotate_left
    · skip
      refine o_pv (wants_some rfl rfl hb25) rfl rfl ?_
      refine o_pv (wants_some rfl rfl hb25) rfl rfl ?_
      refine o_nil ?_
      exact joins rfl
    refine' o_and (wants_some rfl rfl hb22) (wants_some rfl rfl hb22) rfl rfl rfl rfl rfl rfl rfl rfl (fun hb29 => ?_) ?_
    rotate_left
    · skip
      refine o_pv (wants_some rfl rfl hb29) rfl rfl ?_
      refine o_pv (wants_some rfl rfl hb29) rfl rfl ?_
      refine o_nil ?_
      exact joins rfl
    refine o_nil ?_
    exact joins rfl
  refine o_pv trivial rfl rfl ?_
  refine o_nil ?_
  refine then_c ?_
  refine c_cond rfl (fun h1 => ?_) (fun h1 => ?_)
  · skip
    have f1 := h1
    try simp only [Bool.or_eq_true, Bool.and_eq_true, Bool.or_eq_false_iff, Bool.and_eq_false_iff, decide_eq_true_eq, decide_eq_false_iff_not, beq_iff_eq, beq_eq_false_iff_ne, bne_iff_ne, bne_eq_false_iff_eq, Bool.not_eq_true', Bool.not_eq_false', ne_eq, Int.not_lt, Int.not_le, ge_iff_le, gt_iff_lt] at f1
    refine c_seq ?_
    refine c_region ?_
    refine o_pv trivial rfl rfl ?_
    refine o_nil ?_
    refine then_c ?_
    refine c_ret ?_
    refine blk_r ?_
    refine then_r ?_
    refine ret1 rfl rfl ?_
    exact fun _ hw => ⟨congrArg (Value.int .i64) (by unfold kindZ; repeat' split <;> omega), hw⟩
  · skip
    have f1 := h1
    try simp only [Bool.or_eq_true, Bool.and_eq_true, Bool.or_eq_false_iff, Bool.and_eq_false_iff, decide_eq_true_eq, decide_eq_false_iff_not, beq_iff_eq, beq_eq_false_iff_ne, bne_iff_ne, bne_eq_false_iff_eq, Bool.not_eq_true', Bool.not_eq_false', ne_eq, Int.not_lt, Int.not_le, ge_iff_le, gt_iff_lt] at f1
    refine c_seq ?_
    refine c_region ?_
    refine o_pv trivial rfl rfl ?_
    refine o_pv trivial rfl rfl ?_
    refine' o_and trivial trivial rfl rfl rfl rfl rfl rfl rfl rfl (fun hb37 => ?_) ?_
    rotate_left
    · skip
      refine o_pv (wants_some rfl rfl hb37) rfl rfl ?_
      refine o_pv (wants_some rfl rfl hb37) rfl rfl ?_
      refine o_nil ?_
      exact joins rfl
    refine o_pv trivial rfl rfl ?_
    refine o_nil ?_
    refine then_c ?_
    refine c_cond rfl (fun h2 => ?_) (fun h2 => ?_)
    · skip
      have f2 := h2
      try simp only [Bool.or_eq_true, Bool.and_eq_true, Bool.or_eq_false_iff, Bool.and_eq_false_iff, decide_eq_true_eq, decide_eq_false_iff_not, beq_iff_eq, beq_eq_false_iff_ne, bne_iff_ne, bne_eq_false_iff_eq, Bool.not_eq_true', Bool.not_eq_false', ne_eq, Int.not_lt, Int.not_le, ge_iff_le, gt_iff_lt] at f2
      refine c_seq ?_
      refine c_region ?_
      refine o_pv trivial rfl rfl ?_
      refine o_nil ?_
      refine then_c ?_
      refine c_ret ?_
      refine blk_r ?_
      refine then_r ?_
      refine ret1 rfl rfl ?_
      exact fun _ hw => ⟨congrArg (Value.int .i64) (by unfold kindZ; repeat' split <;> omega), hw⟩
    · skip
      have f2 := h2
      try simp only [Bool.or_eq_true, Bool.and_eq_true, Bool.or_eq_false_iff, Bool.and_eq_false_iff, decide_eq_true_eq, decide_eq_false_iff_not, beq_iff_eq, beq_eq_false_iff_ne, bne_iff_ne, bne_eq_false_iff_eq, Bool.not_eq_true', Bool.not_eq_false', ne_eq, Int.not_lt, Int.not_le, ge_iff_le, gt_iff_lt] at f2
      refine c_seq ?_
      refine c_region ?_
      refine o_pv trivial rfl rfl ?_
      refine o_pv trivial rfl rfl ?_
      refine' o_or trivial trivial rfl rfl rfl rfl rfl rfl rfl rfl (fun hb44 => ?_) ?_
      rotate_left
      · skip
        refine o_pv (wants_some rfl rfl hb44) rfl rfl ?_
        refine o_pv (wants_some rfl rfl hb44) rfl rfl ?_
        refine o_nil ?_
        exact joins rfl
      refine' o_or trivial trivial rfl rfl rfl rfl rfl rfl rfl rfl (fun hb48 => ?_) ?_
      rotate_left
      · skip
        refine o_pv (wants_some rfl rfl hb48) rfl rfl ?_
        refine o_pv (wants_some rfl rfl hb48) rfl rfl ?_
        refine o_nil ?_
        exact joins rfl
      refine' o_or trivial trivial rfl rfl rfl rfl rfl rfl rfl rfl (fun hb52 => ?_) ?_
      rotate_left
      · skip
        refine o_pv (wants_some rfl rfl hb52) rfl rfl ?_
        refine o_pv (wants_some rfl rfl hb52) rfl rfl ?_
        refine o_nil ?_
        exact joins rfl
      refine o_pv trivial rfl rfl ?_
      refine o_nil ?_
      refine then_c ?_
      refine c_cond rfl (fun h3 => ?_) (fun h3 => ?_)
      · skip
        have f3 := h3
        try simp only [Bool.or_eq_true, Bool.and_eq_true, Bool.or_eq_false_iff, Bool.and_eq_false_iff, decide_eq_true_eq, decide_eq_false_iff_not, beq_iff_eq, beq_eq_false_iff_ne, bne_iff_ne, bne_eq_false_iff_eq, Bool.not_eq_true', Bool.not_eq_false', ne_eq, Int.not_lt, Int.not_le, ge_iff_le, gt_iff_lt] at f3
        refine c_seq ?_
        refine c_region ?_
        refine o_pv trivial rfl rfl ?_
        refine o_nil ?_
        refine then_c ?_
        refine c_ret ?_
        refine blk_r ?_
        refine then_r ?_
        refine ret1 rfl rfl ?_
        exact fun _ hw => ⟨congrArg (Value.int .i64) (by unfold kindZ; repeat' split <;> omega), hw⟩
      · skip
        have f3 := h3
        try simp only [Bool.or_eq_true, Bool.and_eq_true, Bool.or_eq_false_iff, Bool.and_eq_false_iff, decide_eq_true_eq, decide_eq_false_iff_not, beq_iff_eq, beq_eq_false_iff_ne, bne_iff_ne, bne_eq_false_iff_eq, Bool.not_eq_true', Bool.not_eq_false', ne_eq, Int.not_lt, Int.not_le, ge_iff_le, gt_iff_lt] at f3
        refine c_seq ?_
        refine c_region ?_
        refine o_pv trivial rfl rfl ?_
        refine o_pv trivial rfl rfl ?_
        refine' o_or trivial trivial rfl rfl rfl rfl rfl rfl rfl rfl (fun hb59 => ?_) ?_
        rotate_left
        · skip
          refine o_pv (wants_some rfl rfl hb59) rfl rfl ?_
          refine o_pv (wants_some rfl rfl hb59) rfl rfl ?_
          refine o_nil ?_
          exact joins rfl
        refine' o_or trivial trivial rfl rfl rfl rfl rfl rfl rfl rfl (fun hb63 => ?_) ?_
        rotate_left
        · skip
          refine o_pv (wants_some rfl rfl hb63) rfl rfl ?_
          refine o_pv (wants_some rfl rfl hb63) rfl rfl ?_
          refine o_nil ?_
          exact joins rfl
        refine' o_or trivial trivial rfl rfl rfl rfl rfl rfl rfl rfl (fun hb67 => ?_) ?_
        rotate_left
        · skip
          refine o_pv (wants_some rfl rfl hb67) rfl rfl ?_
          refine o_pv (wants_some rfl rfl hb67) rfl rfl ?_
          refine o_nil ?_
          exact joins rfl
        refine' o_or trivial trivial rfl rfl rfl rfl rfl rfl rfl rfl (fun hb71 => ?_) ?_
        rotate_left
        · skip
          refine o_pv (wants_some rfl rfl hb71) rfl rfl ?_
          refine o_pv (wants_some rfl rfl hb71) rfl rfl ?_
          refine o_nil ?_
          exact joins rfl
        refine' o_or trivial trivial rfl rfl rfl rfl rfl rfl rfl rfl (fun hb75 => ?_) ?_
        rotate_left
        · skip
          refine o_pv (wants_some rfl rfl hb75) rfl rfl ?_
          refine o_pv (wants_some rfl rfl hb75) rfl rfl ?_
          refine o_nil ?_
          exact joins rfl
        refine' o_or trivial trivial rfl rfl rfl rfl rfl rfl rfl rfl (fun hb79 => ?_) ?_
        rotate_left
        · skip
          refine o_pv (wants_some rfl rfl hb79) rfl rfl ?_
          refine o_pv (wants_some rfl rfl hb79) rfl rfl ?_
          refine o_nil ?_
          exact joins rfl
        refine' o_or trivial trivial rfl rfl rfl rfl rfl rfl rfl rfl (fun hb83 => ?_) ?_
        rotate_left
        · skip
          refine o_pv (wants_some rfl rfl hb83) rfl rfl ?_
          refine o_pv (wants_some rfl rfl hb83) rfl rfl ?_
          refine o_nil ?_
          exact joins rfl
        refine' o_or trivial trivial rfl rfl rfl rfl rfl rfl rfl rfl (fun hb87 => ?_) ?_
        rotate_left
        · skip
          refine o_pv (wants_some rfl rfl hb87) rfl rfl ?_
          refine o_pv (wants_some rfl rfl hb87) rfl rfl ?_
          refine o_nil ?_
          exact joins rfl
        refine' o_or trivial trivial rfl rfl rfl rfl rfl rfl rfl rfl (fun hb91 => ?_) ?_
        rotate_left
        · skip
          refine o_pv (wants_some rfl rfl hb91) rfl rfl ?_
          refine o_pv (wants_some rfl rfl hb91) rfl rfl ?_
          refine o_nil ?_
          exact joins rfl
        refine o_pv trivial rfl rfl ?_
        refine o_nil ?_
        refine then_c ?_
        refine c_cond rfl (fun h4 => ?_) (fun h4 => ?_)
        · skip
          have f4 := h4
          try simp only [Bool.or_eq_true, Bool.and_eq_true, Bool.or_eq_false_iff, Bool.and_eq_false_iff, decide_eq_true_eq, decide_eq_false_iff_not, beq_iff_eq, beq_eq_false_iff_ne, bne_iff_ne, bne_eq_false_iff_eq, Bool.not_eq_true', Bool.not_eq_false', ne_eq, Int.not_lt, Int.not_le, ge_iff_le, gt_iff_lt] at f4
          refine c_seq ?_
          refine c_region ?_
          refine o_pv trivial rfl rfl ?_
          refine o_nil ?_
          refine then_c ?_
          refine c_ret ?_
          refine blk_r ?_
          refine then_r ?_
          refine ret1 rfl rfl ?_
          exact fun _ hw => ⟨congrArg (Value.int .i64) (by unfold kindZ; repeat' split <;> omega), hw⟩
        · skip
          have f4 := h4
          try simp only [Bool.or_eq_true, Bool.and_eq_true, Bool.or_eq_false_iff, Bool.and_eq_false_iff, decide_eq_true_eq, decide_eq_false_iff_not, beq_iff_eq, beq_eq_false_iff_ne, bne_iff_ne, bne_eq_false_iff_eq, Bool.not_eq_true', Bool.not_eq_false', ne_eq, Int.not_lt, Int.not_le, ge_iff_le, gt_iff_lt] at f4
          refine c_skip ?_
          refine blk_n ?_
          refine then_c ?_
          refine c_seq ?_
          refine c_region ?_
          refine o_pv trivial rfl rfl ?_
          refine o_nil ?_
          refine then_c ?_
          refine c_ret ?_
          refine ret1 rfl rfl ?_
          exact fun _ hw => ⟨congrArg (Value.int .i64) (by unfold kindZ; repeat' split <;> omega), hw⟩

theorem indexByte_any (s : ByteArray) (c : Int) : PureC Tryd.prog 34 [.string s, .int .u8 c] (.int .i64 (Lib.indexByte s.data.toList c.toNat.toUInt8)) := fun w =>
  (Tryd.strings_IndexByte s c w).mono fun _ _ ⟨h1, h2⟩ => ⟨_, h1, rfl, h2⟩
set_option maxRecDepth 100000 in
theorem blank_fin : ∀ x : Fin 128, (decide (Lib.indexByte [32, 9, 10, 13] ((x.val : Int).toNat.toUInt8) ≥ 0)) = decide (x.val = 9 ∨ x.val = 10 ∨ x.val = 13 ∨ x.val = 32) := by decide
set_option maxRecDepth 100000 in
theorem mark_fin : ∀ x : Fin 128, (decide (Lib.indexByte [43, 45, 42, 47, 94, 40, 41, 61, 59, 44] ((x.val : Int).toNat.toUInt8) ≥ 0)) = decide (x.val = 43 ∨ x.val = 45 ∨ x.val = 42 ∨ x.val = 47 ∨ x.val = 94 ∨ x.val = 40 ∨ x.val = 41 ∨ x.val = 61 ∨ x.val = 59 ∨ x.val = 44) := by decide
theorem blank_at (r : Int) (h : (0 : Int) ≤ r ∧ r ≤ 127) : decide (Lib.indexByte [32, 9, 10, 13] ((IntKind.u8.wrap r).toNat.toUInt8) ≥ 0) = decide (r = 9 ∨ r = 10 ∨ r = 13 ∨ r = 32) := by
  have e : IntKind.u8.wrap r = r := IntWalk.u8_in r ⟨h.1, by omega⟩
  rw [e]
  have := blank_fin ⟨r.toNat, by omega⟩
  simp only at this
  rw [show ((r.toNat : Nat) : Int) = r by omega] at this
  rw [this]
  apply decide_eq_decide.2
  omega
theorem mark_at (r : Int) (h : (0 : Int) ≤ r ∧ r ≤ 127) : decide (Lib.indexByte [43, 45, 42, 47, 94, 40, 41, 61, 59, 44] ((IntKind.u8.wrap r).toNat.toUInt8) ≥ 0) = decide (r = 43 ∨ r = 45 ∨ r = 42 ∨ r = 47 ∨ r = 94 ∨ r = 40 ∨ r = 41 ∨ r = 61 ∨ r = 59 ∨ r = 44) := by
  have e : IntKind.u8.wrap r = r := IntWalk.u8_in r ⟨h.1, by omega⟩
  rw [e]
  have := mark_fin ⟨r.toNat, by omega⟩
  simp only at this
  rw [show ((r.toNat : Nat) : Int) = r by omega] at this
  rw [this]
  apply decide_eq_decide.2
  omega
theorem blank_iff (r : Int) : 0 ≤ r ∧ r ≤ 127 → (0 ≤ Lib.indexByte [32, 9, 10, 13] ((IntKind.u8.wrap r).toNat.toUInt8) ↔ (r = 9 ∨ r = 10 ∨ r = 13 ∨ r = 32)) := fun h => by
  have := blank_at r h
  rw [decide_eq_decide] at this
  exact this
theorem mark_iff (r : Int) : 0 ≤ r ∧ r ≤ 127 → (0 ≤ Lib.indexByte [43, 45, 42, 47, 94, 40, 41, 61, 59, 44] ((IntKind.u8.wrap r).toNat.toUInt8) ↔ (r = 43 ∨ r = 45 ∨ r = 42 ∨ r = 47 ∨ r = 94 ∨ r = 40 ∨ r = 41 ∨ r = 61 ∨ r = 59 ∨ r = 44)) := fun h => by
  have := mark_at r h
  rw [decide_eq_decide] at this
  exact this

theorem kind_any (r : Int) : PureC Tryd.prog 16 [.int .i32 r] (.int .i64 (kindZ r)) := by
  have hb := blank_iff r
  have hm := mark_iff r
  intro w
  refine enter1 _ Tryd.func16 rfl Tryd.ntmps16 rfl ?_ (S := fun w1 => w1 = w) rfl
  refine c_seq ?_
  refine c_region ?_
  refine o_pv trivial rfl rfl ?_
  refine o_nil ?_
  refine then_c ?_
  refine c_seq ?_
  refine c_block ?_
  refine c_seq ?_
  refine c_region ?_
  refine o_pv trivial rfl rfl ?_
  refine o_callP trivial rfl Tryd.call33 rfl (within_any _ _ _) ?_
  refine' o_or trivial trivial rfl rfl rfl rfl rfl rfl rfl rfl (fun hb6 => ?_) ?_
  rotate_left
  · skip
    have fb6 := hb6
    try simp only [Bool.or_eq_true, Bool.and_eq_true, Bool.or_eq_false_iff, Bool.and_eq_false_iff, decide_eq_true_eq, decide_eq_false_iff_not, beq_iff_eq, beq_eq_false_iff_ne, bne_iff_ne, bne_eq_false_iff_eq, Bool.not_eq_true', Bool.not_eq_false', ne_eq, Int.not_lt, Int.not_le, ge_iff_le, gt_iff_lt] at fb6
    refine o_pv (wants_some rfl rfl hb6) rfl rfl ?_
    refine o_callP (wants_some rfl rfl hb6) rfl Tryd.call33 rfl (within_any _ _ _) ?_
    refine o_nil ?_
    exact joins rfl
  refine' o_or trivial trivial rfl rfl rfl rfl rfl rfl rfl rfl (fun hb10 => ?_) ?_
  rotate_left
  · skip
    refine o_pv (wants_some rfl rfl hb10) rfl rfl ?_
    refine o_pv (wants_some rfl rfl hb10) rfl rfl ?_
    refine o_nil ?_
    exact joins rfl
  refine' o_or trivial trivial rfl rfl rfl rfl rfl rfl rfl rfl (fun hb14 => ?_) ?_
  rotate_left
  · skip
    have fb14 := hb14
    try simp only [Bool.or_eq_true, Bool.and_eq_true, Bool.or_eq_false_iff, Bool.and_eq_false_iff, decide_eq_true_eq, decide_eq_false_iff_not, beq_iff_eq, beq_eq_false_iff_ne, bne_iff_ne, bne_eq_false_iff_eq, Bool.not_eq_true', Bool.not_eq_false', ne_eq, Int.not_lt, Int.not_le, ge_iff_le, gt_iff_lt] at fb14
    refine o_pv (wants_some rfl rfl hb14) rfl rfl ?_
    refine o_callP (wants_some rfl rfl hb14) rfl Tryd.call33 rfl (within_any _ _ _) ?_
    refine' o_and (wants_some rfl rfl hb14) (wants_some rfl rfl hb14) rfl rfl rfl rfl rfl rfl rfl rfl (fun hb17 => ?_) ?_
    rotate_left
    · skip
      refine o_pv (wants_some rfl rfl hb17) rfl rfl ?_
      refine o_pv (wants_some rfl rfl hb17) rfl rfl ?_
      refine o_nil ?_
      exact joins rfl
    refine o_nil ?_
    exact joins rfl
  refine o_pv trivial rfl rfl ?_
  refine o_nil ?_
  refine then_c ?_
  refine c_cond rfl (fun h1 => ?_) (fun h1 => ?_)
  · skip
    have f1 := h1
    try simp only [Bool.or_eq_true, Bool.and_eq_true, Bool.or_eq_false_iff, Bool.and_eq_false_iff, decide_eq_true_eq, decide_eq_false_iff_not, beq_iff_eq, beq_eq_false_iff_ne, bne_iff_ne, bne_eq_false_iff_eq, Bool.not_eq_true', Bool.not_eq_false', ne_eq, Int.not_lt, Int.not_le, ge_iff_le, gt_iff_lt] at f1
    refine c_seq ?_
    refine c_region ?_
    refine o_pv trivial rfl rfl ?_
    refine o_nil ?_
    refine then_c ?_
    refine c_ret ?_
    refine blk_r ?_
    refine then_r ?_
    refine ret1 rfl rfl ?_
    exact fun _ hw => ⟨congrArg (Value.int .i64) (by unfold kindZ; repeat' split <;> omega), hw⟩
  · skip
    have f1 := h1
    try simp only [Bool.or_eq_true, Bool.and_eq_true, Bool.or_eq_false_iff, Bool.and_eq_false_iff, decide_eq_true_eq, decide_eq_false_iff_not, beq_iff_eq, beq_eq_false_iff_ne, bne_iff_ne, bne_eq_false_iff_eq, Bool.not_eq_true', Bool.not_eq_false', ne_eq, Int.not_lt, Int.not_le, ge_iff_le, gt_iff_lt] at f1
    refine c_seq ?_
    refine c_region ?_
    refine o_pv trivial rfl rfl ?_
    refine o_callP trivial rfl Tryd.call33 rfl (within_any _ _ _) ?_
    refine o_pv trivial rfl rfl ?_
    refine o_nil ?_
    refine then_c ?_
    refine c_cond rfl (fun h2 => ?_) (fun h2 => ?_)
    · skip
      have f2 := h2
      try simp only [Bool.or_eq_true, Bool.and_eq_true, Bool.or_eq_false_iff, Bool.and_eq_false_iff, decide_eq_true_eq, decide_eq_false_iff_not, beq_iff_eq, beq_eq_false_iff_ne, bne_iff_ne, bne_eq_false_iff_eq, Bool.not_eq_true', Bool.not_eq_false', ne_eq, Int.not_lt, Int.not_le, ge_iff_le, gt_iff_lt] at f2
      refine c_seq ?_
      refine c_region ?_
      refine o_pv trivial rfl rfl ?_
      refine o_nil ?_
      refine then_c ?_
      refine c_ret ?_
      refine blk_r ?_
      refine then_r ?_
      refine ret1 rfl rfl ?_
      exact fun _ hw => ⟨congrArg (Value.int .i64) (by unfold kindZ; repeat' split <;> omega), hw⟩
    · skip
      have f2 := h2
      try simp only [Bool.or_eq_true, Bool.and_eq_true, Bool.or_eq_false_iff, Bool.and_eq_false_iff, decide_eq_true_eq, decide_eq_false_iff_not, beq_iff_eq, beq_eq_false_iff_ne, bne_iff_ne, bne_eq_false_iff_eq, Bool.not_eq_true', Bool.not_eq_false', ne_eq, Int.not_lt, Int.not_le, ge_iff_le, gt_iff_lt] at f2
      refine c_seq ?_
      refine c_region ?_
      refine o_pv trivial rfl rfl ?_
      refine o_callP trivial rfl Tryd.call33 rfl (within_any _ _ _) ?_
      refine' o_and trivial trivial rfl rfl rfl rfl rfl rfl rfl rfl (fun hb28 => ?_) ?_
      rotate_left
      · skip
        have fb28 := hb28
        try simp only [Bool.or_eq_true, Bool.and_eq_true, Bool.or_eq_false_iff, Bool.and_eq_false_iff, decide_eq_true_eq, decide_eq_false_iff_not, beq_iff_eq, beq_eq_false_iff_ne, bne_iff_ne, bne_eq_false_iff_eq, Bool.not_eq_true', Bool.not_eq_false', ne_eq, Int.not_lt, Int.not_le, ge_iff_le, gt_iff_lt] at fb28
        refine o_pv (wants_some rfl rfl hb28) rfl rfl ?_
        refine o_conv (wants_some rfl rfl hb28) rfl Tryd.underlying21 Tryd.underlying5 rfl ?_
        refine o_callP (wants_some rfl rfl hb28) rfl Tryd.call34 rfl (indexByte_any _ _) ?_
        refine o_pv (wants_some rfl rfl hb28) rfl rfl ?_
        refine o_nil ?_
        exact joins rfl
      refine o_pv trivial rfl rfl ?_
      refine o_nil ?_
      refine then_c ?_
      refine c_cond rfl (fun h3 => ?_) (fun h3 => ?_)
      · skip
        have f3 := h3
        try simp only [Bool.or_eq_true, Bool.and_eq_true, Bool.or_eq_false_iff, Bool.and_eq_false_iff, decide_eq_true_eq, decide_eq_false_iff_not, beq_iff_eq, beq_eq_false_iff_ne, bne_iff_ne, bne_eq_false_iff_eq, Bool.not_eq_true', Bool.not_eq_false', ne_eq, Int.not_lt, Int.not_le, ge_iff_le, gt_iff_lt] at f3
        refine c_seq ?_
        refine c_region ?_
        refine o_pv trivial rfl rfl ?_
        refine o_nil ?_
        refine then_c ?_
        refine c_ret ?_
        refine blk_r ?_
        refine then_r ?_
        refine ret1 rfl rfl ?_
        exact fun _ hw => ⟨congrArg (Value.int .i64) (by unfold kindZ; repeat' split <;> omega), hw⟩
      · skip
        have f3 := h3
        try simp only [Bool.or_eq_true, Bool.and_eq_true, Bool.or_eq_false_iff, Bool.and_eq_false_iff, decide_eq_true_eq, decide_eq_false_iff_not, beq_iff_eq, beq_eq_false_iff_ne, bne_iff_ne, bne_eq_false_iff_eq, Bool.not_eq_true', Bool.not_eq_false', ne_eq, Int.not_lt, Int.not_le, ge_iff_le, gt_iff_lt] at f3
        refine c_seq ?_
        refine c_region ?_
        refine o_pv trivial rfl rfl ?_
        refine o_callP trivial rfl Tryd.call33 rfl (within_any _ _ _) ?_
        refine' o_and trivial trivial rfl rfl rfl rfl rfl rfl rfl rfl (fun hb37 => ?_) ?_
        rotate_left
        · skip
          have fb37 := hb37
          try simp only [Bool.or_eq_true, Bool.and_eq_true, Bool.or_eq_false_iff, Bool.and_eq_false_iff, decide_eq_true_eq, decide_eq_false_iff_not, beq_iff_eq, beq_eq_false_iff_ne, bne_iff_ne, bne_eq_false_iff_eq, Bool.not_eq_true', Bool.not_eq_false', ne_eq, Int.not_lt, Int.not_le, ge_iff_le, gt_iff_lt] at fb37
          refine o_pv (wants_some rfl rfl hb37) rfl rfl ?_
          refine o_conv (wants_some rfl rfl hb37) rfl Tryd.underlying21 Tryd.underlying5 rfl ?_
          refine o_callP (wants_some rfl rfl hb37) rfl Tryd.call34 rfl (indexByte_any _ _) ?_
          refine o_pv (wants_some rfl rfl hb37) rfl rfl ?_
          refine o_nil ?_
          exact joins rfl
        refine o_pv trivial rfl rfl ?_
        refine o_nil ?_
        refine then_c ?_
        refine c_cond rfl (fun h4 => ?_) (fun h4 => ?_)
        · skip
          have f4 := h4
          try simp only [Bool.or_eq_true, Bool.and_eq_true, Bool.or_eq_false_iff, Bool.and_eq_false_iff, decide_eq_true_eq, decide_eq_false_iff_not, beq_iff_eq, beq_eq_false_iff_ne, bne_iff_ne, bne_eq_false_iff_eq, Bool.not_eq_true', Bool.not_eq_false', ne_eq, Int.not_lt, Int.not_le, ge_iff_le, gt_iff_lt] at f4
          refine c_seq ?_
          refine c_region ?_
          refine o_pv trivial rfl rfl ?_
          refine o_nil ?_
          refine then_c ?_
          refine c_ret ?_
          refine blk_r ?_
          refine then_r ?_
          refine ret1 rfl rfl ?_
          exact fun _ hw => ⟨congrArg (Value.int .i64) (by unfold kindZ; repeat' split <;> omega), hw⟩
        · skip
          have f4 := h4
          try simp only [Bool.or_eq_true, Bool.and_eq_true, Bool.or_eq_false_iff, Bool.and_eq_false_iff, decide_eq_true_eq, decide_eq_false_iff_not, beq_iff_eq, beq_eq_false_iff_ne, bne_iff_ne, bne_eq_false_iff_eq, Bool.not_eq_true', Bool.not_eq_false', ne_eq, Int.not_lt, Int.not_le, ge_iff_le, gt_iff_lt] at f4
          refine c_skip ?_
          refine blk_n ?_
          refine then_c ?_
          refine c_seq ?_
          refine c_region ?_
          refine o_pv trivial rfl rfl ?_
          refine o_nil ?_
          refine then_c ?_
          refine c_ret ?_
          refine ret1 rfl rfl ?_
          exact fun _ hw => ⟨congrArg (Value.int .i64) (by unfold kindZ; repeat' split <;> omega), hw⟩

theorem decode_any (s : ByteArray) {I : Hp} (hT : Tabs I) : Fun Tryd.prog 35 [.string s] I [] (fun v _ _ => v = .tuple #[.int .i32 (Lib.decodeGo s).1, .int .i64 (Lib.decodeGo s).2]) :=
  fun_below fun w hI => (Tryd.utf8_DecodeRuneInString s w (hT.utf8 hI)).mono fun _ _ ⟨h1, h2⟩ => ⟨_, h1, rfl, h2⟩

theorem next_any (s : ByteArray) (i : Int) {I : Hp} (hT : Tabs I) : Fun Tryd.prog 18 [.string s, .int .i64 i] I [] (fun v _ _ => v = .tuple #[.int .i32 (nextZ s i).1, .int .i64 (nextZ s i).2]) := by
  intro w hw
  refine enter2 _ Tryd.func18 rfl Tryd.ntmps18 rfl ?_ hw
  refine c_seq ?_
  refine c_region ?_
  refine o_pv trivial rfl rfl ?_
  refine o_pv trivial rfl rfl ?_
  refine o_nil ?_
  refine then_c ?_
  refine c_seq ?_
  refine c_seq ?_
  refine c_region ?_
  refine o_pv trivial rfl rfl ?_
  refine o_pv trivial rfl rfl ?_
  refine' o_or trivial trivial rfl rfl rfl rfl rfl rfl rfl rfl (fun hb8 => ?_) ?_
  rotate_left
  · skip
    have fb8 := hb8
    try simp only [Bool.or_eq_true, Bool.and_eq_true, Bool.or_eq_false_iff, Bool.and_eq_false_iff, decide_eq_true_eq, decide_eq_false_iff_not, beq_iff_eq, beq_eq_false_iff_ne, bne_iff_ne, bne_eq_false_iff_eq, Bool.not_eq_true', Bool.not_eq_false', ne_eq, Int.not_lt, Int.not_le, ge_iff_le, gt_iff_lt] at fb8
    refine o_pv (wants_some rfl rfl hb8) rfl rfl ?_
    refine o_pv (wants_some rfl rfl hb8) rfl rfl ?_
    refine o_lenS (wants_some rfl rfl hb8) rfl Tryd.underlying9 rfl ?_
    refine o_pv (wants_some rfl rfl hb8) rfl rfl ?_
    refine o_nil ?_
    exact joins rfl
  refine o_nil ?_
  refine then_c ?_
  refine c_cond rfl (fun h1 => ?_) (fun h1 => ?_)
  · skip
    have f1 := h1
    try simp only [Bool.or_eq_true, Bool.and_eq_true, Bool.or_eq_false_iff, Bool.and_eq_false_iff, decide_eq_true_eq, decide_eq_false_iff_not, beq_iff_eq, beq_eq_false_iff_ne, bne_iff_ne, bne_eq_false_iff_eq, Bool.not_eq_true', Bool.not_eq_false', ne_eq, Int.not_lt, Int.not_le, ge_iff_le, gt_iff_lt] at f1
    refine c_seq ?_
    refine c_region ?_
    refine o_pv trivial rfl rfl ?_
    refine o_pv trivial rfl rfl ?_
    refine o_nil ?_
    refine then_c ?_
    refine c_ret ?_
    refine then_r ?_
    refine ret2 rfl rfl rfl ?_
    refine leaf0 ?_; unfold nextZ; rw [if_pos f1]
  · skip
    have f1 := h1
    try simp only [Bool.or_eq_true, Bool.and_eq_true, Bool.or_eq_false_iff, Bool.and_eq_false_iff, decide_eq_true_eq, decide_eq_false_iff_not, beq_iff_eq, beq_eq_false_iff_ne, bne_iff_ne, bne_eq_false_iff_eq, Bool.not_eq_true', Bool.not_eq_false', ne_eq, Int.not_lt, Int.not_le, ge_iff_le, gt_iff_lt] at f1
    refine c_skip ?_
    refine then_c ?_
    refine c_seq ?_
    refine c_region ?_
    refine o_pv trivial rfl rfl ?_
    refine o_pv trivial rfl rfl ?_
    refine o_sliceS1 trivial rfl Tryd.underlying9 rfl rfl (by omega) ?_
    refine o_callQ trivial rfl Tryd.call35 rfl (decode_any _ hT) ?_
    refine o_pv trivial rfl rfl ?_
    refine o_pv trivial rfl rfl ?_
    refine o_pv trivial rfl rfl ?_
    refine o_pv trivial rfl rfl ?_
    refine o_nil ?_
    refine then_c ?_
    refine c_ret ?_
    refine ret2 rfl rfl rfl ?_
    have hn : ¬ (i < 0 ∨ (s.size : Int) ≤ i) := by omega
    have hn2 : ¬ ((s.extract i.toNat s.size).size = 0) := by simp; omega
    refine leaf0 ?_
    unfold nextZ Lib.decodeGo
    rw [if_neg hn, if_neg hn2, decode_tail s _ _ (by omega)]
    rfl

theorem key_any (s : ByteArray) : PureC Tryd.prog 24 [.string s] (.bool (keyZ s)) := by
  intro w
  refine enter1 _ Tryd.func24 rfl Tryd.ntmps24 rfl ?_ (S := fun w1 => w1 = w) rfl
  refine c_seq ?_
  refine c_region ?_
  refine o_pv trivial rfl rfl ?_
  refine o_nil ?_
  refine then_c ?_
  refine c_seq ?_
  refine c_region ?_
  refine o_pv trivial rfl rfl ?_
  refine o_pv trivial rfl rfl ?_
  refine' o_or trivial trivial rfl rfl rfl rfl rfl rfl rfl rfl (fun hb5 => ?_) ?_
  rotate_left
  · skip
    refine o_pv (wants_some rfl rfl hb5) rfl rfl ?_
    refine o_pv (wants_some rfl rfl hb5) rfl rfl ?_
    refine o_nil ?_
    exact joins rfl
  refine' o_or trivial trivial rfl rfl rfl rfl rfl rfl rfl rfl (fun hb9 => ?_) ?_
  rotate_left
  · skip
    refine o_pv (wants_some rfl rfl hb9) rfl rfl ?_
    refine o_pv (wants_some rfl rfl hb9) rfl rfl ?_
    refine o_nil ?_
    exact joins rfl
  refine o_pv trivial rfl rfl ?_
  refine o_nil ?_
  refine then_c ?_
  refine c_ret ?_
  refine ret1 rfl rfl ?_
  exact fun _ hw => ⟨rfl, hw⟩
theorem refKey_any (s : ByteArray) : PureC Tryd.prog 25 [.string s] (.bool (keyZ s)) := by
  intro w
  refine enter1 _ Tryd.func25 rfl Tryd.ntmps25 rfl ?_ (S := fun w1 => w1 = w) rfl
  refine c_seq ?_
  refine c_region ?_
  refine o_pv trivial rfl rfl ?_
  refine o_nil ?_
  refine then_c ?_
  refine c_seq ?_
  refine c_region ?_
  refine o_pv trivial rfl rfl ?_
  refine o_pv trivial rfl rfl ?_
  refine' o_or trivial trivial rfl rfl rfl rfl rfl rfl rfl rfl (fun hb5 => ?_) ?_
  rotate_left
  · skip
    refine o_pv (wants_some rfl rfl hb5) rfl rfl ?_
    refine o_pv (wants_some rfl rfl hb5) rfl rfl ?_
    refine o_nil ?_
    exact joins rfl
  refine' o_or trivial trivial rfl rfl rfl rfl rfl rfl rfl rfl (fun hb9 => ?_) ?_
  rotate_left
  · skip
    refine o_pv (wants_some rfl rfl hb9) rfl rfl ?_
    refine o_pv (wants_some rfl rfl hb9) rfl rfl ?_
    refine o_nil ?_
    exact joins rfl
  refine o_pv trivial rfl rfl ?_
  refine o_nil ?_
  refine then_c ?_
  refine c_ret ?_
  refine ret1 rfl rfl ?_
  exact fun _ hw => ⟨rfl, hw⟩

theorem refIn_any (s : ByteArray) (i a b : Int) (hi : 0 ≤ i) : PureC Tryd.prog 36 [.string s, .int .i64 i, .int .i64 a, .int .i64 b] (.bool (inZ s i a b)) := by
  have hbyte := (s.get! i.toNat).toNat_lt
  intro w
  refine enter4 _ Tryd.func36 rfl Tryd.ntmps36 rfl ?_ (S := fun w1 => w1 = w) rfl
  refine c_seq ?_
  refine c_region ?_
  refine o_pv trivial rfl rfl ?_
  refine o_nil ?_
  refine then_c ?_
  refine c_seq ?_
  refine c_region ?_
  refine o_pv trivial rfl rfl ?_
  refine o_pv trivial rfl rfl ?_
  refine o_lenS trivial rfl Tryd.underlying9 rfl ?_
  refine o_pv trivial rfl rfl ?_
  refine' o_and trivial trivial rfl rfl rfl rfl rfl rfl rfl rfl (fun hb13 => ?_) ?_
  rotate_left
  · skip
    have fb13 := hb13
    try simp only [Bool.or_eq_true, Bool.and_eq_true, Bool.or_eq_false_iff, Bool.and_eq_false_iff, decide_eq_true_eq, decide_eq_false_iff_not, beq_iff_eq, beq_eq_false_iff_ne, bne_iff_ne, bne_eq_false_iff_eq, Bool.not_eq_true', Bool.not_eq_false', ne_eq, Int.not_lt, Int.not_le, ge_iff_le, gt_iff_lt] at fb13
    refine o_pv (wants_some rfl rfl hb13) rfl rfl ?_
    refine o_pv (wants_some rfl rfl hb13) rfl rfl ?_
    refine o_idxS (wants_some rfl rfl hb13) rfl Tryd.underlying9 rfl rfl (by omega) ?_
    first | refine o_convIn (wants_some rfl rfl hb13) rfl Tryd.underlying5 Tryd.underlying3 rfl (by rw [IntWalk.i64_in _ (by omega)]) ?_ | refine o_conv (wants_some rfl rfl hb13) rfl Tryd.underlying5 Tryd.underlying3 rfl ?_
    refine o_pv (wants_some rfl rfl hb13) rfl rfl ?_
    refine o_pv (wants_some rfl rfl hb13) rfl rfl ?_
    refine o_nil ?_
    exact joins rfl
  refine' o_and trivial trivial rfl rfl rfl rfl rfl rfl rfl rfl (fun hb21 => ?_) ?_
  rotate_left
  · skip
    have fb21 := hb21
    try simp only [Bool.or_eq_true, Bool.and_eq_true, Bool.or_eq_false_iff, Bool.and_eq_false_iff, decide_eq_true_eq, decide_eq_false_iff_not, beq_iff_eq, beq_eq_false_iff_ne, bne_iff_ne, bne_eq_false_iff_eq, Bool.not_eq_true', Bool.not_eq_false', ne_eq, Int.not_lt, Int.not_le, ge_iff_le, gt_iff_lt] at fb21
    refine o_pv (wants_some rfl rfl hb21) rfl rfl ?_
    refine o_pv (wants_some rfl rfl hb21) rfl rfl ?_
    refine o_idxS (wants_some rfl rfl hb21) rfl Tryd.underlying9 rfl rfl (by omega) ?_
    first | refine o_convIn (wants_some rfl rfl hb21) rfl Tryd.underlying5 Tryd.underlying3 rfl (by rw [IntWalk.i64_in _ (by omega)]) ?_ | refine o_conv (wants_some rfl rfl hb21) rfl Tryd.underlying5 Tryd.underlying3 rfl ?_
    refine o_pv (wants_some rfl rfl hb21) rfl rfl ?_
    refine o_pv (wants_some rfl rfl hb21) rfl rfl ?_
    refine o_nil ?_
    exact joins rfl
  refine o_pv trivial rfl rfl ?_
  refine o_nil ?_
  refine then_c ?_
  refine c_ret ?_
  refine ret1 rfl rfl ?_
  exact fun _ hw => ⟨rfl, hw⟩
theorem refLow_any (s : ByteArray) (i : Int) (hi : 0 ≤ i ∧ i < s.size) : PureC Tryd.prog 37 [.string s, .int .i64 i] (.int .i64 ((s.get! i.toNat).toNat % 64)) := by
  have hbyte := (s.get! i.toNat).toNat_lt
  intro w
  refine enter2 _ Tryd.func37 rfl Tryd.ntmps37 rfl ?_ (S := fun w1 => w1 = w) rfl
  refine c_seq ?_
  refine c_region ?_
  refine o_pv trivial rfl rfl ?_
  refine o_nil ?_
  refine then_c ?_
  refine c_seq ?_
  refine c_region ?_
  refine o_pv trivial rfl rfl ?_
  refine o_pv trivial rfl rfl ?_
  refine o_idxS trivial rfl Tryd.underlying9 rfl rfl (by omega) ?_
  first | refine o_convIn trivial rfl Tryd.underlying5 Tryd.underlying3 rfl (by rw [IntWalk.i64_in _ (by omega)]) ?_ | refine o_conv trivial rfl Tryd.underlying5 Tryd.underlying3 rfl ?_
  refine o_rem trivial rfl rfl rfl (by omega) ?_
  refine o_pv trivial rfl rfl ?_
  refine o_nil ?_
  refine then_c ?_
  refine c_ret ?_
  refine ret1 rfl rfl ?_
  exact fun _ hw => ⟨rfl, hw⟩

theorem refThree_any (s : ByteArray) (i : Int) (hi : 0 ≤ i ∧ i < s.size) (hs : s.size ≤ 1000) : PureC Tryd.prog 38 [.string s, .int .i64 i] (.int .i64 (threeZ s i)) := by
  have hbyte := (s.get! i.toNat).toNat_lt
  have hbyte1 := (s.get! (i + 1).toNat).toNat_lt
  have hbyte2 := (s.get! (i + 2).toNat).toNat_lt
  intro w
  refine enter2 _ Tryd.func38 rfl Tryd.ntmps38 rfl ?_ (S := fun w1 => w1 = w) rfl
  refine c_seq ?_
  refine c_region ?_
  refine o_pv trivial rfl rfl ?_
  refine o_nil ?_
  refine then_c ?_
  refine c_seq ?_
  refine c_region ?_
  refine o_pv trivial rfl rfl ?_
  refine o_pv trivial rfl rfl ?_
  refine o_idxS trivial rfl Tryd.underlying9 rfl rfl (by omega) ?_
  first | refine o_convIn trivial rfl Tryd.underlying5 Tryd.underlying3 rfl (by rw [IntWalk.i64_in _ (by omega)]) ?_ | refine o_conv trivial rfl Tryd.underlying5 Tryd.underlying3 rfl ?_
  refine o_pv trivial rfl rfl ?_
  refine o_nil ?_
  refine then_c ?_
  refine c_seq ?_
  refine c_region ?_
  refine o_pv trivial rfl rfl ?_
  refine o_nil ?_
  refine then_c ?_
  refine c_seq ?_
  refine c_region ?_
  refine o_pv trivial rfl rfl ?_
  refine o_nil ?_
  refine then_c ?_
  refine c_cut (ι := Int) [0, 1, 5, 7] (.cons rfl (.cons rfl (.cons rfl (.cons rfl .nil)))) (fun fr E0 => (6, .int .i64 fr) :: E0) (fun fr => fun w1 => w1 = w) (fun fr => fr = if ((s.get! i.toNat).toNat : Int) = 224 then 160 else 128) ?_ ?_
  · skip
    refine c_seq ?_
    refine c_region ?_
    refine o_pv trivial rfl rfl ?_
    refine o_pv trivial rfl rfl ?_
    refine o_nil ?_
    refine then_c ?_
    refine c_cond rfl (fun h1 => ?_) (fun h1 => ?_)
    · skip
      have f1 := h1
      try simp only [Bool.or_eq_true, Bool.and_eq_true, Bool.or_eq_false_iff, Bool.and_eq_false_iff, decide_eq_true_eq, decide_eq_false_iff_not, beq_iff_eq, beq_eq_false_iff_ne, bne_iff_ne, bne_eq_false_iff_eq, Bool.not_eq_true', Bool.not_eq_false', ne_eq, Int.not_lt, Int.not_le, ge_iff_le, gt_iff_lt] at f1
      refine c_region ?_
      refine o_pv trivial rfl rfl ?_
      refine o_nil ?_
      exact meet _ (sub_cons rfl (sub_cons rfl (sub_cons rfl (sub_cons rfl (sub_cons rfl sub_nil))))) (fun _ h => h) (by first | rw [if_pos f1] | rw [if_neg f1])
    · skip
      have f1 := h1
      try simp only [Bool.or_eq_true, Bool.and_eq_true, Bool.or_eq_false_iff, Bool.and_eq_false_iff, decide_eq_true_eq, decide_eq_false_iff_not, beq_iff_eq, beq_eq_false_iff_ne, bne_iff_ne, bne_eq_false_iff_eq, Bool.not_eq_true', Bool.not_eq_false', ne_eq, Int.not_lt, Int.not_le, ge_iff_le, gt_iff_lt] at f1
      refine c_skip ?_
      exact meet _ (sub_cons rfl (sub_cons rfl (sub_cons rfl (sub_cons rfl (sub_cons rfl sub_nil))))) (fun _ h => h) (by first | rw [if_pos f1] | rw [if_neg f1])
  · skip
    rintro fr hfr
    try dsimp only
    refine c_cut (ι := Int) [0, 1, 5, 6] (.cons rfl (.cons rfl (.cons rfl (.cons rfl .nil)))) (fun to E0 => (7, .int .i64 to) :: E0) (fun to => fun w1 => w1 = w) (fun to => to = if ((s.get! i.toNat).toNat : Int) = 237 then 159 else 191) ?_ ?_
    · skip
      refine c_seq ?_
      refine c_region ?_
      refine o_pv trivial rfl rfl ?_
      refine o_pv trivial rfl rfl ?_
      refine o_nil ?_
      refine then_c ?_
      refine c_cond rfl (fun h2 => ?_) (fun h2 => ?_)
      · skip
        have f2 := h2
        try simp only [Bool.or_eq_true, Bool.and_eq_true, Bool.or_eq_false_iff, Bool.and_eq_false_iff, decide_eq_true_eq, decide_eq_false_iff_not, beq_iff_eq, beq_eq_false_iff_ne, bne_iff_ne, bne_eq_false_iff_eq, Bool.not_eq_true', Bool.not_eq_false', ne_eq, Int.not_lt, Int.not_le, ge_iff_le, gt_iff_lt] at f2
        refine c_region ?_
        refine o_pv trivial rfl rfl ?_
        refine o_nil ?_
        exact meet _ (sub_cons rfl (sub_cons rfl (sub_cons rfl (sub_cons rfl (sub_cons rfl sub_nil))))) (fun _ h => h) (by first | rw [if_pos f2] | rw [if_neg f2])
      · skip
        have f2 := h2
        try simp only [Bool.or_eq_true, Bool.and_eq_true, Bool.or_eq_false_iff, Bool.and_eq_false_iff, decide_eq_true_eq, decide_eq_false_iff_not, beq_iff_eq, beq_eq_false_iff_ne, bne_iff_ne, bne_eq_false_iff_eq, Bool.not_eq_true', Bool.not_eq_false', ne_eq, Int.not_lt, Int.not_le, ge_iff_le, gt_iff_lt] at f2
        refine c_skip ?_
        exact meet _ (sub_cons rfl (sub_cons rfl (sub_cons rfl (sub_cons rfl (sub_cons rfl sub_nil))))) (fun _ h => h) (by first | rw [if_pos f2] | rw [if_neg f2])
    · skip
      rintro to hto
      try dsimp only
      refine c_seq ?_
      refine c_seq ?_
      refine c_region ?_
      refine o_pv trivial rfl rfl ?_
      refine o_pv trivial rfl rfl ?_
      refine' o_or trivial trivial rfl rfl rfl rfl rfl rfl rfl rfl (fun hb18 => ?_) ?_
      rotate_left
      · skip
        refine o_pv (wants_some rfl rfl hb18) rfl rfl ?_
        refine o_pv (wants_some rfl rfl hb18) rfl rfl ?_
        refine o_nil ?_
        exact joins rfl
      refine' o_or trivial trivial rfl rfl rfl rfl rfl rfl rfl rfl (fun hb22 => ?_) ?_
      rotate_left
      · skip
        have fb22 := hb22
        try simp only [Bool.or_eq_true, Bool.and_eq_true, Bool.or_eq_false_iff, Bool.and_eq_false_iff, decide_eq_true_eq, decide_eq_false_iff_not, beq_iff_eq, beq_eq_false_iff_ne, bne_iff_ne, bne_eq_false_iff_eq, Bool.not_eq_true', Bool.not_eq_false', ne_eq, Int.not_lt, Int.not_le, ge_iff_le, gt_iff_lt] at fb22
        refine o_pv (wants_some rfl rfl hb22) rfl rfl ?_
        refine o_pv (wants_some rfl rfl hb22) rfl rfl ?_
        first | (refine o_add (wants_some rfl rfl hb22) rfl rfl rfl ?_ ?_; (omega)) | refine o_pv (wants_some rfl rfl hb22) rfl rfl ?_
        refine o_pv (wants_some rfl rfl hb22) rfl rfl ?_
        refine o_pv (wants_some rfl rfl hb22) rfl rfl ?_
        refine o_callP (wants_some rfl rfl hb22) rfl Tryd.call36 rfl (refIn_any _ _ _ _ (by first | omega | decide | (simp only [ByteArray.size_append, lit_size, strOf_size, List.size_toArray, List.length_cons, List.length_nil]; omega))) ?_
        refine o_pv (wants_some rfl rfl hb22) rfl rfl ?_
        refine o_nil ?_
        exact joins rfl
      refine' o_or trivial trivial rfl rfl rfl rfl rfl rfl rfl rfl (fun hb31 => ?_) ?_
      rotate_left
      · skip
        have fb31 := hb31
        try simp only [Bool.or_eq_true, Bool.and_eq_true, Bool.or_eq_false_iff, Bool.and_eq_false_iff, decide_eq_true_eq, decide_eq_false_iff_not, beq_iff_eq, beq_eq_false_iff_ne, bne_iff_ne, bne_eq_false_iff_eq, Bool.not_eq_true', Bool.not_eq_false', ne_eq, Int.not_lt, Int.not_le, ge_iff_le, gt_iff_lt] at fb31
        refine o_pv (wants_some rfl rfl hb31) rfl rfl ?_
        refine o_pv (wants_some rfl rfl hb31) rfl rfl ?_
        first | (refine o_add (wants_some rfl rfl hb31) rfl rfl rfl ?_ ?_; (omega)) | refine o_pv (wants_some rfl rfl hb31) rfl rfl ?_
        refine o_callP (wants_some rfl rfl hb31) rfl Tryd.call36 rfl (refIn_any _ _ _ _ (by first | omega | decide | (simp only [ByteArray.size_append, lit_size, strOf_size, List.size_toArray, List.length_cons, List.length_nil]; omega))) ?_
        refine o_pv (wants_some rfl rfl hb31) rfl rfl ?_
        refine o_nil ?_
        exact joins rfl
      refine o_nil ?_
      refine then_c ?_
      refine c_cond rfl (fun h3 => ?_) (fun h3 => ?_)
      · skip
        have f3 := h3
        try simp only [Bool.or_eq_true, Bool.and_eq_true, Bool.or_eq_false_iff, Bool.and_eq_false_iff, decide_eq_true_eq, decide_eq_false_iff_not, beq_iff_eq, beq_eq_false_iff_ne, bne_iff_ne, bne_eq_false_iff_eq, Bool.not_eq_true', Bool.not_eq_false', ne_eq, Int.not_lt, Int.not_le, ge_iff_le, gt_iff_lt] at f3
        refine c_seq ?_
        refine c_region ?_
        refine o_pv trivial rfl rfl ?_
        refine o_nil ?_
        refine then_c ?_
        refine c_ret ?_
        refine then_r ?_
        refine ret1 rfl rfl ?_
        refine fun _ hw => ⟨congrArg (Value.int .i64) ?_, hw⟩
        unfold threeZ
        rw [← hfr, ← hto, if_pos (by rcases f3 with ((f | f) | f) | f <;> simp [f])]
      · skip
        have f3 := h3
        try simp only [Bool.or_eq_true, Bool.and_eq_true, Bool.or_eq_false_iff, Bool.and_eq_false_iff, decide_eq_true_eq, decide_eq_false_iff_not, beq_iff_eq, beq_eq_false_iff_ne, bne_iff_ne, bne_eq_false_iff_eq, Bool.not_eq_true', Bool.not_eq_false', ne_eq, Int.not_lt, Int.not_le, ge_iff_le, gt_iff_lt] at f3
        have g1 := inZ_lt f3.1.2; have g2 := inZ_lt f3.2
        refine c_skip ?_
        refine then_c ?_
        refine c_seq ?_
        refine c_region ?_
        refine o_pv trivial rfl rfl ?_
        first | (refine o_sub trivial rfl rfl rfl ?_ ?_; (omega)) | refine o_pv trivial rfl rfl ?_
        first | (refine o_mul trivial rfl rfl rfl ?_ ?_; (omega)) | refine o_pv trivial rfl rfl ?_
        refine o_pv trivial rfl rfl ?_
        refine o_pv trivial rfl rfl ?_
        first | (refine o_add trivial rfl rfl rfl ?_ ?_; (omega)) | refine o_pv trivial rfl rfl ?_
        refine o_callP trivial rfl Tryd.call37 rfl (refLow_any _ _ (by first | omega | decide | (simp only [ByteArray.size_append, lit_size, strOf_size, List.size_toArray, List.length_cons, List.length_nil]; omega))) ?_
        first | (refine o_mul trivial rfl rfl rfl ?_ ?_; (omega)) | refine o_pv trivial rfl rfl ?_
        first | (refine o_add trivial rfl rfl rfl ?_ ?_; (omega)) | refine o_pv trivial rfl rfl ?_
        refine o_pv trivial rfl rfl ?_
        refine o_pv trivial rfl rfl ?_
        first | (refine o_add trivial rfl rfl rfl ?_ ?_; (omega)) | refine o_pv trivial rfl rfl ?_
        refine o_callP trivial rfl Tryd.call37 rfl (refLow_any _ _ (by first | omega | decide | (simp only [ByteArray.size_append, lit_size, strOf_size, List.size_toArray, List.length_cons, List.length_nil]; omega))) ?_
        first | (refine o_add trivial rfl rfl rfl ?_ ?_; (omega)) | refine o_pv trivial rfl rfl ?_
        refine o_pv trivial rfl rfl ?_
        refine o_nil ?_
        refine then_c ?_
        refine c_ret ?_
        refine ret1 rfl rfl ?_
        refine fun _ hw => ⟨congrArg (Value.int .i64) ?_, hw⟩
        unfold threeZ
        rw [← hfr, ← hto, if_neg (by simp [f3])]
theorem refFour_any (s : ByteArray) (i : Int) (hi : 0 ≤ i ∧ i < s.size) (hs : s.size ≤ 1000) : PureC Tryd.prog 39 [.string s, .int .i64 i] (.int .i64 (fourZ s i)) := by
  have hbyte := (s.get! i.toNat).toNat_lt
  have hbyte1 := (s.get! (i + 1).toNat).toNat_lt
  have hbyte2 := (s.get! (i + 2).toNat).toNat_lt
  have hbyte3 := (s.get! (i + 3).toNat).toNat_lt
  intro w
  refine enter2 _ Tryd.func39 rfl Tryd.ntmps39 rfl ?_ (S := fun w1 => w1 = w) rfl
  refine c_seq ?_
  refine c_region ?_
  refine o_pv trivial rfl rfl ?_
  refine o_nil ?_
  refine then_c ?_
  refine c_seq ?_
  refine c_region ?_
  refine o_pv trivial rfl rfl ?_
  refine o_pv trivial rfl rfl ?_
  refine o_idxS trivial rfl Tryd.underlying9 rfl rfl (by omega) ?_
  first | refine o_convIn trivial rfl Tryd.underlying5 Tryd.underlying3 rfl (by rw [IntWalk.i64_in _ (by omega)]) ?_ | refine o_conv trivial rfl Tryd.underlying5 Tryd.underlying3 rfl ?_
  refine o_pv trivial rfl rfl ?_
  refine o_nil ?_
  refine then_c ?_
  refine c_seq ?_
  refine c_region ?_
  refine o_pv trivial rfl rfl ?_
  refine o_nil ?_
  refine then_c ?_
  refine c_seq ?_
  refine c_region ?_
  refine o_pv trivial rfl rfl ?_
  refine o_nil ?_
  refine then_c ?_
  refine c_cut (ι := Int) [0, 1, 5, 7] (.cons rfl (.cons rfl (.cons rfl (.cons rfl .nil)))) (fun fr E0 => (6, .int .i64 fr) :: E0) (fun fr => fun w1 => w1 = w) (fun fr => fr = if ((s.get! i.toNat).toNat : Int) = 240 then 144 else 128) ?_ ?_
  · skip
    refine c_seq ?_
    refine c_region ?_
    refine o_pv trivial rfl rfl ?_
    refine o_pv trivial rfl rfl ?_
    refine o_nil ?_
    refine then_c ?_
    refine c_cond rfl (fun h1 => ?_) (fun h1 => ?_)
    · skip
      have f1 := h1
      try simp only [Bool.or_eq_true, Bool.and_eq_true, Bool.or_eq_false_iff, Bool.and_eq_false_iff, decide_eq_true_eq, decide_eq_false_iff_not, beq_iff_eq, beq_eq_false_iff_ne, bne_iff_ne, bne_eq_false_iff_eq, Bool.not_eq_true', Bool.not_eq_false', ne_eq, Int.not_lt, Int.not_le, ge_iff_le, gt_iff_lt] at f1
      refine c_region ?_
      refine o_pv trivial rfl rfl ?_
      refine o_nil ?_
      exact meet _ (sub_cons rfl (sub_cons rfl (sub_cons rfl (sub_cons rfl (sub_cons rfl sub_nil))))) (fun _ h => h) (by first | rw [if_pos f1] | rw [if_neg f1])
    · skip
      have f1 := h1
      try simp only [Bool.or_eq_true, Bool.and_eq_true, Bool.or_eq_false_iff, Bool.and_eq_false_iff, decide_eq_true_eq, decide_eq_false_iff_not, beq_iff_eq, beq_eq_false_iff_ne, bne_iff_ne, bne_eq_false_iff_eq, Bool.not_eq_true', Bool.not_eq_false', ne_eq, Int.not_lt, Int.not_le, ge_iff_le, gt_iff_lt] at f1
      refine c_skip ?_
      exact meet _ (sub_cons rfl (sub_cons rfl (sub_cons rfl (sub_cons rfl (sub_cons rfl sub_nil))))) (fun _ h => h) (by first | rw [if_pos f1] | rw [if_neg f1])
  · skip
    rintro fr hfr
    try dsimp only
    refine c_cut (ι := Int) [0, 1, 5, 6] (.cons rfl (.cons rfl (.cons rfl (.cons rfl .nil)))) (fun to E0 => (7, .int .i64 to) :: E0) (fun to => fun w1 => w1 = w) (fun to => to = if ((s.get! i.toNat).toNat : Int) = 244 then 143 else 191) ?_ ?_
    · skip
      refine c_seq ?_
      refine c_region ?_
      refine o_pv trivial rfl rfl ?_
      refine o_pv trivial rfl rfl ?_
      refine o_nil ?_
      refine then_c ?_
      refine c_cond rfl (fun h2 => ?_) (fun h2 => ?_)
      · skip
        have f2 := h2
        try simp only [Bool.or_eq_true, Bool.and_eq_true, Bool.or_eq_false_iff, Bool.and_eq_false_iff, decide_eq_true_eq, decide_eq_false_iff_not, beq_iff_eq, beq_eq_false_iff_ne, bne_iff_ne, bne_eq_false_iff_eq, Bool.not_eq_true', Bool.not_eq_false', ne_eq, Int.not_lt, Int.not_le, ge_iff_le, gt_iff_lt] at f2
        refine c_region ?_
        refine o_pv trivial rfl rfl ?_
        refine o_nil ?_
        exact meet _ (sub_cons rfl (sub_cons rfl (sub_cons rfl (sub_cons rfl (sub_cons rfl sub_nil))))) (fun _ h => h) (by first | rw [if_pos f2] | rw [if_neg f2])
      · skip
        have f2 := h2
        try simp only [Bool.or_eq_true, Bool.and_eq_true, Bool.or_eq_false_iff, Bool.and_eq_false_iff, decide_eq_true_eq, decide_eq_false_iff_not, beq_iff_eq, beq_eq_false_iff_ne, bne_iff_ne, bne_eq_false_iff_eq, Bool.not_eq_true', Bool.not_eq_false', ne_eq, Int.not_lt, Int.not_le, ge_iff_le, gt_iff_lt] at f2
        refine c_skip ?_
        exact meet _ (sub_cons rfl (sub_cons rfl (sub_cons rfl (sub_cons rfl (sub_cons rfl sub_nil))))) (fun _ h => h) (by first | rw [if_pos f2] | rw [if_neg f2])
    · skip
      rintro to hto
      try dsimp only
      refine c_seq ?_
      refine c_seq ?_
      refine c_region ?_
      refine o_pv trivial rfl rfl ?_
      refine o_pv trivial rfl rfl ?_
      refine' o_or trivial trivial rfl rfl rfl rfl rfl rfl rfl rfl (fun hb18 => ?_) ?_
      rotate_left
      · skip
        refine o_pv (wants_some rfl rfl hb18) rfl rfl ?_
        refine o_pv (wants_some rfl rfl hb18) rfl rfl ?_
        refine o_nil ?_
        exact joins rfl
      refine' o_or trivial trivial rfl rfl rfl rfl rfl rfl rfl rfl (fun hb22 => ?_) ?_
      rotate_left
      · skip
        have fb22 := hb22
        try simp only [Bool.or_eq_true, Bool.and_eq_true, Bool.or_eq_false_iff, Bool.and_eq_false_iff, decide_eq_true_eq, decide_eq_false_iff_not, beq_iff_eq, beq_eq_false_iff_ne, bne_iff_ne, bne_eq_false_iff_eq, Bool.not_eq_true', Bool.not_eq_false', ne_eq, Int.not_lt, Int.not_le, ge_iff_le, gt_iff_lt] at fb22
        refine o_pv (wants_some rfl rfl hb22) rfl rfl ?_
        refine o_pv (wants_some rfl rfl hb22) rfl rfl ?_
        first | (refine o_add (wants_some rfl rfl hb22) rfl rfl rfl ?_ ?_; (omega)) | refine o_pv (wants_some rfl rfl hb22) rfl rfl ?_
        refine o_pv (wants_some rfl rfl hb22) rfl rfl ?_
        refine o_pv (wants_some rfl rfl hb22) rfl rfl ?_
        refine o_callP (wants_some rfl rfl hb22) rfl Tryd.call36 rfl (refIn_any _ _ _ _ (by first | omega | decide | (simp only [ByteArray.size_append, lit_size, strOf_size, List.size_toArray, List.length_cons, List.length_nil]; omega))) ?_
        refine o_pv (wants_some rfl rfl hb22) rfl rfl ?_
        refine o_nil ?_
        exact joins rfl
      refine' o_or trivial trivial rfl rfl rfl rfl rfl rfl rfl rfl (fun hb31 => ?_) ?_
      rotate_left
      · skip
        have fb31 := hb31
        try simp only [Bool.or_eq_true, Bool.and_eq_true, Bool.or_eq_false_iff, Bool.and_eq_false_iff, decide_eq_true_eq, decide_eq_false_iff_not, beq_iff_eq, beq_eq_false_iff_ne, bne_iff_ne, bne_eq_false_iff_eq, Bool.not_eq_true', Bool.not_eq_false', ne_eq, Int.not_lt, Int.not_le, ge_iff_le, gt_iff_lt] at fb31
        refine o_pv (wants_some rfl rfl hb31) rfl rfl ?_
        refine o_pv (wants_some rfl rfl hb31) rfl rfl ?_
        first | (refine o_add (wants_some rfl rfl hb31) rfl rfl rfl ?_ ?_; (omega)) | refine o_pv (wants_some rfl rfl hb31) rfl rfl ?_
        refine o_callP (wants_some rfl rfl hb31) rfl Tryd.call36 rfl (refIn_any _ _ _ _ (by first | omega | decide | (simp only [ByteArray.size_append, lit_size, strOf_size, List.size_toArray, List.length_cons, List.length_nil]; omega))) ?_
        refine o_pv (wants_some rfl rfl hb31) rfl rfl ?_
        refine o_nil ?_
        exact joins rfl
      refine' o_or trivial trivial rfl rfl rfl rfl rfl rfl rfl rfl (fun hb38 => ?_) ?_
      rotate_left
      · skip
        have fb38 := hb38
        try simp only [Bool.or_eq_true, Bool.and_eq_true, Bool.or_eq_false_iff, Bool.and_eq_false_iff, decide_eq_true_eq, decide_eq_false_iff_not, beq_iff_eq, beq_eq_false_iff_ne, bne_iff_ne, bne_eq_false_iff_eq, Bool.not_eq_true', Bool.not_eq_false', ne_eq, Int.not_lt, Int.not_le, ge_iff_le, gt_iff_lt] at fb38
        refine o_pv (wants_some rfl rfl hb38) rfl rfl ?_
        refine o_pv (wants_some rfl rfl hb38) rfl rfl ?_
        first | (refine o_add (wants_some rfl rfl hb38) rfl rfl rfl ?_ ?_; (omega)) | refine o_pv (wants_some rfl rfl hb38) rfl rfl ?_
        refine o_callP (wants_some rfl rfl hb38) rfl Tryd.call36 rfl (refIn_any _ _ _ _ (by first | omega | decide | (simp only [ByteArray.size_append, lit_size, strOf_size, List.size_toArray, List.length_cons, List.length_nil]; omega))) ?_
        refine o_pv (wants_some rfl rfl hb38) rfl rfl ?_
        refine o_nil ?_
        exact joins rfl
      refine o_nil ?_
      refine then_c ?_
      refine c_cond rfl (fun h3 => ?_) (fun h3 => ?_)
      · skip
        have f3 := h3
        try simp only [Bool.or_eq_true, Bool.and_eq_true, Bool.or_eq_false_iff, Bool.and_eq_false_iff, decide_eq_true_eq, decide_eq_false_iff_not, beq_iff_eq, beq_eq_false_iff_ne, bne_iff_ne, bne_eq_false_iff_eq, Bool.not_eq_true', Bool.not_eq_false', ne_eq, Int.not_lt, Int.not_le, ge_iff_le, gt_iff_lt] at f3
        refine c_seq ?_
        refine c_region ?_
        refine o_pv trivial rfl rfl ?_
        refine o_nil ?_
        refine then_c ?_
        refine c_ret ?_
        refine then_r ?_
        refine ret1 rfl rfl ?_
        refine fun _ hw => ⟨congrArg (Value.int .i64) ?_, hw⟩
        unfold fourZ
        rw [← hfr, ← hto, if_pos (by rcases f3 with (((f | f) | f) | f) | f <;> simp [f])]
      · skip
        have f3 := h3
        try simp only [Bool.or_eq_true, Bool.and_eq_true, Bool.or_eq_false_iff, Bool.and_eq_false_iff, decide_eq_true_eq, decide_eq_false_iff_not, beq_iff_eq, beq_eq_false_iff_ne, bne_iff_ne, bne_eq_false_iff_eq, Bool.not_eq_true', Bool.not_eq_false', ne_eq, Int.not_lt, Int.not_le, ge_iff_le, gt_iff_lt] at f3
        have g1 := inZ_lt f3.1.1.2; have g2 := inZ_lt f3.1.2; have g3 := inZ_lt f3.2
        refine c_skip ?_
        refine then_c ?_
        refine c_seq ?_
        refine c_region ?_
        refine o_pv trivial rfl rfl ?_
        first | (refine o_sub trivial rfl rfl rfl ?_ ?_; (omega)) | refine o_pv trivial rfl rfl ?_
        first | (refine o_mul trivial rfl rfl rfl ?_ ?_; (omega)) | refine o_pv trivial rfl rfl ?_
        refine o_pv trivial rfl rfl ?_
        refine o_pv trivial rfl rfl ?_
        first | (refine o_add trivial rfl rfl rfl ?_ ?_; (omega)) | refine o_pv trivial rfl rfl ?_
        refine o_callP trivial rfl Tryd.call37 rfl (refLow_any _ _ (by first | omega | decide | (simp only [ByteArray.size_append, lit_size, strOf_size, List.size_toArray, List.length_cons, List.length_nil]; omega))) ?_
        first | (refine o_mul trivial rfl rfl rfl ?_ ?_; (omega)) | refine o_pv trivial rfl rfl ?_
        first | (refine o_add trivial rfl rfl rfl ?_ ?_; (omega)) | refine o_pv trivial rfl rfl ?_
        refine o_pv trivial rfl rfl ?_
        refine o_pv trivial rfl rfl ?_
        first | (refine o_add trivial rfl rfl rfl ?_ ?_; (omega)) | refine o_pv trivial rfl rfl ?_
        refine o_callP trivial rfl Tryd.call37 rfl (refLow_any _ _ (by first | omega | decide | (simp only [ByteArray.size_append, lit_size, strOf_size, List.size_toArray, List.length_cons, List.length_nil]; omega))) ?_
        first | (refine o_mul trivial rfl rfl rfl ?_ ?_; (omega)) | refine o_pv trivial rfl rfl ?_
        first | (refine o_add trivial rfl rfl rfl ?_ ?_; (omega)) | refine o_pv trivial rfl rfl ?_
        refine o_pv trivial rfl rfl ?_
        refine o_pv trivial rfl rfl ?_
        first | (refine o_add trivial rfl rfl rfl ?_ ?_; (omega)) | refine o_pv trivial rfl rfl ?_
        refine o_callP trivial rfl Tryd.call37 rfl (refLow_any _ _ (by first | omega | decide | (simp only [ByteArray.size_append, lit_size, strOf_size, List.size_toArray, List.length_cons, List.length_nil]; omega))) ?_
        first | (refine o_add trivial rfl rfl rfl ?_ ?_; (omega)) | refine o_pv trivial rfl rfl ?_
        refine o_pv trivial rfl rfl ?_
        refine o_nil ?_
        refine then_c ?_
        refine c_ret ?_
        refine ret1 rfl rfl ?_
        refine fun _ hw => ⟨congrArg (Value.int .i64) ?_, hw⟩
        unfold fourZ
        rw [← hfr, ← hto, if_neg (by simp [f3])]

theorem eq2 {k k2 : IntKind} {p q : Int} {r : Int × Int} (h : r = (p, q)) : Value.tuple #[.int k p, .int k2 q] = .tuple #[.int k r.1, .int k2 r.2] := by rw [h]
theorem refNext_any (s : ByteArray) (i : Int) (hs : s.size ≤ 1000) : PureC Tryd.prog 19 [.string s, .int .i64 i] (.tuple #[.int .i64 (nextZ s i).1, .int .i64 (nextZ s i).2]) := by
  rw [← refNext_eq]
  have hbyte := (s.get! i.toNat).toNat_lt
  have hbyte1 := (s.get! (i + 1).toNat).toNat_lt
  intro w
  refine enter2 _ Tryd.func19 rfl Tryd.ntmps19 rfl ?_ (S := fun w1 => w1 = w) rfl
  refine c_seq ?_
  refine c_region ?_
  refine o_pv trivial rfl rfl ?_
  refine o_pv trivial rfl rfl ?_
  refine o_nil ?_
  refine then_c ?_
  refine c_seq ?_
  refine c_seq ?_
  refine c_region ?_
  refine o_pv trivial rfl rfl ?_
  refine o_pv trivial rfl rfl ?_
  refine' o_or trivial trivial rfl rfl rfl rfl rfl rfl rfl rfl (fun hb11 => ?_) ?_
  rotate_left
  · skip
    have fb11 := hb11
    try simp only [Bool.or_eq_true, Bool.and_eq_true, Bool.or_eq_false_iff, Bool.and_eq_false_iff, decide_eq_true_eq, decide_eq_false_iff_not, beq_iff_eq, beq_eq_false_iff_ne, bne_iff_ne, bne_eq_false_iff_eq, Bool.not_eq_true', Bool.not_eq_false', ne_eq, Int.not_lt, Int.not_le, ge_iff_le, gt_iff_lt] at fb11
    refine o_pv (wants_some rfl rfl hb11) rfl rfl ?_
    refine o_pv (wants_some rfl rfl hb11) rfl rfl ?_
    refine o_lenS (wants_some rfl rfl hb11) rfl Tryd.underlying9 rfl ?_
    refine o_pv (wants_some rfl rfl hb11) rfl rfl ?_
    refine o_nil ?_
    exact joins rfl
  refine o_nil ?_
  refine then_c ?_
  refine c_cond rfl (fun h1 => ?_) (fun h1 => ?_)
  · skip
    have f1 := h1
    try simp only [Bool.or_eq_true, Bool.and_eq_true, Bool.or_eq_false_iff, Bool.and_eq_false_iff, decide_eq_true_eq, decide_eq_false_iff_not, beq_iff_eq, beq_eq_false_iff_ne, bne_iff_ne, bne_eq_false_iff_eq, Bool.not_eq_true', Bool.not_eq_false', ne_eq, Int.not_lt, Int.not_le, ge_iff_le, gt_iff_lt] at f1
    refine c_seq ?_
    refine c_region ?_
    refine o_pv trivial rfl rfl ?_
    refine o_pv trivial rfl rfl ?_
    refine o_nil ?_
    refine then_c ?_
    refine c_ret ?_
    refine then_r ?_
    refine ret2 rfl rfl rfl ?_
    exact fun _ hw => ⟨eq2 (by unfold refNextZ; rw [if_pos f1]), hw⟩
  · skip
    have f1 := h1
    try simp only [Bool.or_eq_true, Bool.and_eq_true, Bool.or_eq_false_iff, Bool.and_eq_false_iff, decide_eq_true_eq, decide_eq_false_iff_not, beq_iff_eq, beq_eq_false_iff_ne, bne_iff_ne, bne_eq_false_iff_eq, Bool.not_eq_true', Bool.not_eq_false', ne_eq, Int.not_lt, Int.not_le, ge_iff_le, gt_iff_lt] at f1
    refine c_skip ?_
    refine then_c ?_
    refine c_seq ?_
    refine c_region ?_
    refine o_pv trivial rfl rfl ?_
    refine o_pv trivial rfl rfl ?_
    refine o_idxS trivial rfl Tryd.underlying9 rfl rfl (by omega) ?_
    first | refine o_convIn trivial rfl Tryd.underlying5 Tryd.underlying3 rfl (by rw [IntWalk.i64_in _ (by omega)]) ?_ | refine o_conv trivial rfl Tryd.underlying5 Tryd.underlying3 rfl ?_
    refine o_pv trivial rfl rfl ?_
    refine o_nil ?_
    refine then_c ?_
    refine c_seq ?_
    refine c_seq ?_
    refine c_region ?_
    refine o_pv trivial rfl rfl ?_
    refine o_pv trivial rfl rfl ?_
    refine o_nil ?_
    refine then_c ?_
    refine c_cond rfl (fun h2 => ?_) (fun h2 => ?_)
    · skip
      have f2 := h2
      try simp only [Bool.or_eq_true, Bool.and_eq_true, Bool.or_eq_false_iff, Bool.and_eq_false_iff, decide_eq_true_eq, decide_eq_false_iff_not, beq_iff_eq, beq_eq_false_iff_ne, bne_iff_ne, bne_eq_false_iff_eq, Bool.not_eq_true', Bool.not_eq_false', ne_eq, Int.not_lt, Int.not_le, ge_iff_le, gt_iff_lt] at f2
      refine c_seq ?_
      refine c_region ?_
      refine o_pv trivial rfl rfl ?_
      refine o_pv trivial rfl rfl ?_
      refine o_pv trivial rfl rfl ?_
      refine o_nil ?_
      refine then_c ?_
      refine c_ret ?_
      refine then_r ?_
      refine ret2 rfl rfl rfl ?_
      exact fun _ hw => ⟨eq2 (by unfold refNextZ; rw [if_neg (by omega), if_pos f2]), hw⟩
    · skip
      have f2 := h2
      try simp only [Bool.or_eq_true, Bool.and_eq_true, Bool.or_eq_false_iff, Bool.and_eq_false_iff, decide_eq_true_eq, decide_eq_false_iff_not, beq_iff_eq, beq_eq_false_iff_ne, bne_iff_ne, bne_eq_false_iff_eq, Bool.not_eq_true', Bool.not_eq_false', ne_eq, Int.not_lt, Int.not_le, ge_iff_le, gt_iff_lt] at f2
      refine c_skip ?_
      refine then_c ?_
      refine c_seq ?_
      refine c_seq ?_
      refine c_region ?_
      refine o_pv trivial rfl rfl ?_
      refine o_pv trivial rfl rfl ?_
      refine o_callP trivial rfl Tryd.call36 rfl (refIn_any _ _ _ _ (by first | omega | decide | (simp only [ByteArray.size_append, lit_size, strOf_size, List.size_toArray, List.length_cons, List.length_nil]; omega))) ?_
      refine' o_and trivial trivial rfl rfl rfl rfl rfl rfl rfl rfl (fun hb27 => ?_) ?_
      rotate_left
      · skip
        have fb27 := hb27
        try simp only [Bool.or_eq_true, Bool.and_eq_true, Bool.or_eq_false_iff, Bool.and_eq_false_iff, decide_eq_true_eq, decide_eq_false_iff_not, beq_iff_eq, beq_eq_false_iff_ne, bne_iff_ne, bne_eq_false_iff_eq, Bool.not_eq_true', Bool.not_eq_false', ne_eq, Int.not_lt, Int.not_le, ge_iff_le, gt_iff_lt] at fb27
        refine o_pv (wants_some rfl rfl hb27) rfl rfl ?_
        refine o_pv (wants_some rfl rfl hb27) rfl rfl ?_
        first | (refine o_add (wants_some rfl rfl hb27) rfl rfl rfl ?_ ?_; (omega)) | refine o_pv (wants_some rfl rfl hb27) rfl rfl ?_
        refine o_callP (wants_some rfl rfl hb27) rfl Tryd.call36 rfl (refIn_any _ _ _ _ (by first | omega | decide | (simp only [ByteArray.size_append, lit_size, strOf_size, List.size_toArray, List.length_cons, List.length_nil]; omega))) ?_
        refine o_nil ?_
        exact joins rfl
      refine o_nil ?_
      refine then_c ?_
      refine c_cond rfl (fun h3 => ?_) (fun h3 => ?_)
      · skip
        have f3 := h3
        try simp only [Bool.or_eq_true, Bool.and_eq_true, Bool.or_eq_false_iff, Bool.and_eq_false_iff, decide_eq_true_eq, decide_eq_false_iff_not, beq_iff_eq, beq_eq_false_iff_ne, bne_iff_ne, bne_eq_false_iff_eq, Bool.not_eq_true', Bool.not_eq_false', ne_eq, Int.not_lt, Int.not_le, ge_iff_le, gt_iff_lt] at f3
        have g1 := inZ_lt f3.2
        refine c_seq ?_
        refine c_region ?_
        refine o_pv trivial rfl rfl ?_
        first | (refine o_sub trivial rfl rfl rfl ?_ ?_; (omega)) | refine o_pv trivial rfl rfl ?_
        first | (refine o_mul trivial rfl rfl rfl ?_ ?_; (omega)) | refine o_pv trivial rfl rfl ?_
        refine o_pv trivial rfl rfl ?_
        refine o_pv trivial rfl rfl ?_
        first | (refine o_add trivial rfl rfl rfl ?_ ?_; (omega)) | refine o_pv trivial rfl rfl ?_
        refine o_callP trivial rfl Tryd.call37 rfl (refLow_any _ _ (by first | omega | decide | (simp only [ByteArray.size_append, lit_size, strOf_size, List.size_toArray, List.length_cons, List.length_nil]; omega))) ?_
        first | (refine o_add trivial rfl rfl rfl ?_ ?_; (omega)) | refine o_pv trivial rfl rfl ?_
        refine o_pv trivial rfl rfl ?_
        refine o_pv trivial rfl rfl ?_
        refine o_nil ?_
        refine then_c ?_
        refine c_ret ?_
        refine then_r ?_
        refine ret2 rfl rfl rfl ?_
        exact fun _ hw => ⟨eq2 (by unfold refNextZ; rw [if_neg (by omega), if_neg (by omega), if_pos h3]), hw⟩
      · skip
        have f3 := h3
        try simp only [Bool.or_eq_true, Bool.and_eq_true, Bool.or_eq_false_iff, Bool.and_eq_false_iff, decide_eq_true_eq, decide_eq_false_iff_not, beq_iff_eq, beq_eq_false_iff_ne, bne_iff_ne, bne_eq_false_iff_eq, Bool.not_eq_true', Bool.not_eq_false', ne_eq, Int.not_lt, Int.not_le, ge_iff_le, gt_iff_lt] at f3
        refine c_skip ?_
        refine then_c ?_
        refine c_seq ?_
        refine c_region ?_
        refine o_pv trivial rfl rfl ?_
        refine o_pv trivial rfl rfl ?_
        refine o_callP trivial rfl Tryd.call38 rfl (refThree_any _ _ (by first | omega | decide | (simp only [ByteArray.size_append, lit_size, strOf_size, List.size_toArray, List.length_cons, List.length_nil]; omega)) (by first | omega | decide | (simp only [ByteArray.size_append, lit_size, strOf_size, List.size_toArray, List.length_cons, List.length_nil]; omega))) ?_
        refine o_pv trivial rfl rfl ?_
        refine o_nil ?_
        refine then_c ?_
        refine c_seq ?_
        refine c_seq ?_
        refine c_region ?_
        refine o_pv trivial rfl rfl ?_
        refine o_pv trivial rfl rfl ?_
        refine o_nil ?_
        refine then_c ?_
        refine c_cond rfl (fun h4 => ?_) (fun h4 => ?_)
        · skip
          have f4 := h4
          try simp only [Bool.or_eq_true, Bool.and_eq_true, Bool.or_eq_false_iff, Bool.and_eq_false_iff, decide_eq_true_eq, decide_eq_false_iff_not, beq_iff_eq, beq_eq_false_iff_ne, bne_iff_ne, bne_eq_false_iff_eq, Bool.not_eq_true', Bool.not_eq_false', ne_eq, Int.not_lt, Int.not_le, ge_iff_le, gt_iff_lt] at f4
          refine c_seq ?_
          refine c_region ?_
          refine o_pv trivial rfl rfl ?_
          refine o_pv trivial rfl rfl ?_
          refine o_pv trivial rfl rfl ?_
          refine o_nil ?_
          refine then_c ?_
          refine c_ret ?_
          refine then_r ?_
          refine ret2 rfl rfl rfl ?_
          exact fun _ hw => ⟨eq2 (by unfold refNextZ; rw [if_neg (by omega), if_neg (by omega), if_neg (by rw [h3]; exact Bool.false_ne_true), if_pos f4]), hw⟩
        · skip
          have f4 := h4
          try simp only [Bool.or_eq_true, Bool.and_eq_true, Bool.or_eq_false_iff, Bool.and_eq_false_iff, decide_eq_true_eq, decide_eq_false_iff_not, beq_iff_eq, beq_eq_false_iff_ne, bne_iff_ne, bne_eq_false_iff_eq, Bool.not_eq_true', Bool.not_eq_false', ne_eq, Int.not_lt, Int.not_le, ge_iff_le, gt_iff_lt] at f4
          refine c_skip ?_
          refine then_c ?_
          refine c_seq ?_
          refine c_region ?_
          refine o_pv trivial rfl rfl ?_
          refine o_pv trivial rfl rfl ?_
          refine o_callP trivial rfl Tryd.call39 rfl (refFour_any _ _ (by first | omega | decide | (simp only [ByteArray.size_append, lit_size, strOf_size, List.size_toArray, List.length_cons, List.length_nil]; omega)) (by first | omega | decide | (simp only [ByteArray.size_append, lit_size, strOf_size, List.size_toArray, List.length_cons, List.length_nil]; omega))) ?_
          refine o_pv trivial rfl rfl ?_
          refine o_nil ?_
          refine then_c ?_
          refine c_seq ?_
          refine c_seq ?_
          refine c_region ?_
          refine o_pv trivial rfl rfl ?_
          refine o_pv trivial rfl rfl ?_
          refine o_nil ?_
          refine then_c ?_
          refine c_cond rfl (fun h5 => ?_) (fun h5 => ?_)
          · skip
            have f5 := h5
            try simp only [Bool.or_eq_true, Bool.and_eq_true, Bool.or_eq_false_iff, Bool.and_eq_false_iff, decide_eq_true_eq, decide_eq_false_iff_not, beq_iff_eq, beq_eq_false_iff_ne, bne_iff_ne, bne_eq_false_iff_eq, Bool.not_eq_true', Bool.not_eq_false', ne_eq, Int.not_lt, Int.not_le, ge_iff_le, gt_iff_lt] at f5
            refine c_seq ?_
            refine c_region ?_
            refine o_pv trivial rfl rfl ?_
            refine o_pv trivial rfl rfl ?_
            refine o_pv trivial rfl rfl ?_
            refine o_nil ?_
            refine then_c ?_
            refine c_ret ?_
            refine then_r ?_
            refine ret2 rfl rfl rfl ?_
            exact fun _ hw => ⟨eq2 (by unfold refNextZ; rw [if_neg (by omega), if_neg (by omega), if_neg (by rw [h3]; exact Bool.false_ne_true), if_neg (by omega), if_pos f5]), hw⟩
          · skip
            have f5 := h5
            try simp only [Bool.or_eq_true, Bool.and_eq_true, Bool.or_eq_false_iff, Bool.and_eq_false_iff, decide_eq_true_eq, decide_eq_false_iff_not, beq_iff_eq, beq_eq_false_iff_ne, bne_iff_ne, bne_eq_false_iff_eq, Bool.not_eq_true', Bool.not_eq_false', ne_eq, Int.not_lt, Int.not_le, ge_iff_le, gt_iff_lt] at f5
            refine c_skip ?_
            refine then_c ?_
            refine c_seq ?_
            refine c_region ?_
            refine o_pv trivial rfl rfl ?_
            refine o_pv trivial rfl rfl ?_
            refine o_nil ?_
            refine then_c ?_
            refine c_ret ?_
            refine ret2 rfl rfl rfl ?_
            exact fun _ hw => ⟨eq2 (by unfold refNextZ; rw [if_neg (by omega), if_neg (by omega), if_neg (by rw [h3]; exact Bool.false_ne_true), if_neg (by omega), if_neg (by omega)]), hw⟩

def plc (p : Int × Int) : Value := .agg #[.int .i64 p.1, .int .i64 p.2]
theorem place_any (s : ByteArray) (at_ : Int) {I : Hp} (hs : s.size ≤ 100000) : Fun Tryd.prog 20 [.string s, .int .i64 at_] I [] (fun v _ _ => v = plc (placeZ s at_)) := by
  intro w hw
  refine enter2 _ Tryd.func20 rfl Tryd.ntmps20 rfl ?_ hw
  refine c_seq ?_
  refine c_region ?_
  refine o_alloc trivial rfl Tryd.zeroValue32 rfl (fun b4 => ?_)
  refine o_nil ?_
  refine then_c ?_
  refine c_seq ?_
  refine c_region ?_
  refine o_buildS trivial rfl (bld32) rfl (.cons rfl rfl rfl (by repeat constructor) (.cons rfl rfl rfl (by repeat constructor) .nil)) ?_
  refine o_alloc trivial rfl Tryd.zeroValue32 rfl (fun b5 => ?_)
  refine o_store trivial rfl rfl rfl Tryd.sizeOf32 rfl rfl (by first | exact .here | exact .there .here | exact .there (.there .here) | exact .there (.there (.there .here)) | exact .there (.there (.there (.there .here))) | exact .there (.there (.there (.there (.there .here))))) (by repeat constructor) ?_
  refine o_nil ?_
  refine then_c ?_
  refine c_seq ?_
  refine c_region ?_
  refine o_loadA trivial rfl Tryd.isAgg32 Tryd.sizeOf32 rfl (by first | exact .head _ | exact .tail _ (.head _) | exact .tail _ (.tail _ (.head _)) | exact .tail _ (.tail _ (.tail _ (.head _))) | exact .tail _ (.tail _ (.tail _ (.tail _ (.head _)))) | exact .tail _ (.tail _ (.tail _ (.tail _ (.tail _ (.head _)))))) (by repeat constructor) ?_
  refine o_alloc trivial rfl Tryd.zeroValue32 rfl (fun b6 => ?_)
  refine o_store trivial rfl rfl rfl Tryd.sizeOf32 rfl rfl (by first | exact .here | exact .there .here | exact .there (.there .here) | exact .there (.there (.there .here)) | exact .there (.there (.there (.there .here))) | exact .there (.there (.there (.there (.there .here))))) (by repeat constructor) ?_
  refine o_nil ?_
  refine then_c ?_
  refine c_seq ?_
  refine c_seq ?_
  refine c_region ?_
  refine o_pv trivial rfl rfl ?_
  refine o_range trivial rfl Tryd.underlying9 rfl (fun b12 => ?_)
  refine o_nil ?_
  refine then_c ?_
  refine c_block ?_
  refine c_loop (ι := Pl) [0, 1, 4, 5, 6, 12] (.cons rfl (.cons rfl (.cons rfl (.cons rfl (.cons rfl (.cons rfl .nil)))))) (fun x => s.size - x.i) (fun x E0 => E0) (fun x => St w [] I [.box b12 (.stringIter s x.i), .box b6 (.cells #[.int .i64 x.ll, .int .i64 x.lc] 32 (0, 0)), .box b5 (.cells #[.int .i64 x.l, .int .i64 x.c] 32 (0, 0)), .box b4 (.cells #[.int .i64 0, .int .i64 0] 32 (0, 0))]) (fun x => PlInv s at_ x) (⟨0, 1, 1, 1, 1⟩) (sub_cons rfl (sub_cons rfl (sub_cons rfl (sub_cons rfl (sub_cons rfl (sub_cons rfl sub_nil)))))) (fun _ h => h) ((PlInv.start s at_)) ?_
  rintro ⟨i, l, c, ll, lc⟩ hF
  try dsimp only
  have hle := hF.le; have hbl := hF.bl; have hbc := hF.bc; have hwd := width_pos s i; simp only at hle hbl hbc
  refine c_seq ?_
  rcases Nat.lt_or_ge i s.size with hp | hp
  · skip
    refine c_region ?_
    refine o_next trivial rfl rfl (by first | exact .here | exact .there .here | exact .there (.there .here) | exact .there (.there (.there .here)) | exact .there (.there (.there (.there .here))) | exact .there (.there (.there (.there (.there .here))))) hp ?_
    refine o_pv trivial rfl rfl ?_
    refine o_nil ?_
    refine then_c ?_
    refine c_seq ?_
    refine c_cond_t rfl rfl ?_
    refine c_skip ?_
    refine then_c ?_
    refine c_block ?_
    refine c_seq ?_
    refine c_region ?_
    refine o_pv trivial rfl rfl ?_
    refine o_pv trivial rfl rfl ?_
    refine o_pv trivial rfl rfl ?_
    refine o_pv trivial rfl rfl ?_
    refine o_nil ?_
    refine then_c ?_
    refine c_seq ?_
    refine c_seq ?_
    refine c_region ?_
    refine o_pv trivial rfl rfl ?_
    refine o_pv trivial rfl rfl ?_
    refine o_pv trivial rfl rfl ?_
    refine' o_and trivial trivial rfl rfl rfl rfl rfl rfl rfl rfl (fun hb20 => ?_) ?_
    rotate_left
    · skip
      refine o_pv (wants_some rfl rfl hb20) rfl rfl ?_
      refine o_pv (wants_some rfl rfl hb20) rfl rfl ?_
      refine o_nil ?_
      exact joins rfl
    refine o_nil ?_
    refine then_c ?_
    refine c_cond rfl (fun h2 => ?_) (fun h2 => ?_)
    · skip
      have f2 := h2
      try simp only [Bool.or_eq_true, Bool.and_eq_true, Bool.or_eq_false_iff, Bool.and_eq_false_iff, decide_eq_true_eq, decide_eq_false_iff_not, beq_iff_eq, beq_eq_false_iff_ne, bne_iff_ne, bne_eq_false_iff_eq, Bool.not_eq_true', Bool.not_eq_false', ne_eq, Int.not_lt, Int.not_le, ge_iff_le, gt_iff_lt] at f2
      refine c_seq ?_
      refine c_region ?_
      refine o_loadA trivial rfl Tryd.isAgg32 Tryd.sizeOf32 rfl (by first | exact .head _ | exact .tail _ (.head _) | exact .tail _ (.tail _ (.head _)) | exact .tail _ (.tail _ (.tail _ (.head _))) | exact .tail _ (.tail _ (.tail _ (.tail _ (.head _)))) | exact .tail _ (.tail _ (.tail _ (.tail _ (.tail _ (.head _)))))) (by repeat constructor) ?_
      refine o_store trivial rfl rfl rfl Tryd.sizeOf32 rfl rfl (by first | exact .here | exact .there .here | exact .there (.there .here) | exact .there (.there (.there .here)) | exact .there (.there (.there (.there .here))) | exact .there (.there (.there (.there (.there .here))))) (by repeat constructor) ?_
      refine o_nil ?_
      refine then_c ?_
      refine c_ret ?_
      refine then_r ?_
      refine blk_r ?_
      refine then_r ?_
      refine blk_r ?_
      refine then_r ?_
      refine retR rfl (.agg Tryd.isAgg32 Tryd.sizeOf32 rfl (by first | exact .head _ | exact .tail _ (.head _) | exact .tail _ (.tail _ (.head _)) | exact .tail _ (.tail _ (.tail _ (.head _))) | exact .tail _ (.tail _ (.tail _ (.tail _ (.head _)))) | exact .tail _ (.tail _ (.tail _ (.tail _ (.tail _ (.head _)))))) rfl .nil) ?_
      refine leaf0 ?_; unfold plc; rw [hF.ret (by omega)]; rfl
    · skip
      have f2 := h2
      try simp only [Bool.or_eq_true, Bool.and_eq_true, Bool.or_eq_false_iff, Bool.and_eq_false_iff, decide_eq_true_eq, decide_eq_false_iff_not, beq_iff_eq, beq_eq_false_iff_ne, bne_iff_ne, bne_eq_false_iff_eq, Bool.not_eq_true', Bool.not_eq_false', ne_eq, Int.not_lt, Int.not_le, ge_iff_le, gt_iff_lt] at f2
      refine c_skip ?_
      refine then_c ?_
      refine c_seq ?_
      refine c_region ?_
      refine o_loadA trivial rfl Tryd.isAgg32 Tryd.sizeOf32 rfl (by first | exact .head _ | exact .tail _ (.head _) | exact .tail _ (.tail _ (.head _)) | exact .tail _ (.tail _ (.tail _ (.head _))) | exact .tail _ (.tail _ (.tail _ (.tail _ (.head _)))) | exact .tail _ (.tail _ (.tail _ (.tail _ (.tail _ (.head _)))))) (by repeat constructor) ?_
      refine o_store trivial rfl rfl rfl Tryd.sizeOf32 rfl rfl (by first | exact .here | exact .there .here | exact .there (.there .here) | exact .there (.there (.there .here)) | exact .there (.there (.there (.there .here))) | exact .there (.there (.there (.there (.there .here))))) (by repeat constructor) ?_
      refine o_nil ?_
      refine then_c ?_
      refine c_seq ?_
      refine c_region ?_
      refine o_fieldAddr (T := 3) (off := 1) trivial rfl Tryd.underlying32 rfl rfl rfl Tryd.sizeOf3 rfl rfl ?_
      refine o_load1 trivial rfl Tryd.isAgg3 rfl (by first | exact .head _ | exact .tail _ (.head _) | exact .tail _ (.tail _ (.head _)) | exact .tail _ (.tail _ (.tail _ (.head _))) | exact .tail _ (.tail _ (.tail _ (.tail _ (.head _)))) | exact .tail _ (.tail _ (.tail _ (.tail _ (.tail _ (.head _)))))) (by repeat constructor) ?_
      first | (refine o_add trivial rfl rfl rfl ?_ ?_; (omega)) | refine o_pv trivial rfl rfl ?_
      refine o_fieldAddr (T := 3) (off := 1) trivial rfl Tryd.underlying32 rfl rfl rfl Tryd.sizeOf3 rfl rfl ?_
      refine o_store trivial rfl rfl rfl Tryd.sizeOf3 rfl rfl (by first | exact .here | exact .there .here | exact .there (.there .here) | exact .there (.there (.there .here)) | exact .there (.there (.there (.there .here))) | exact .there (.there (.there (.there (.there .here))))) (by repeat constructor) ?_
      refine o_nil ?_
      refine then_c ?_
      refine c_seq ?_
      refine c_region ?_
      refine o_pv trivial rfl rfl ?_
      refine o_pv trivial rfl rfl ?_
      refine o_nil ?_
      refine then_c ?_
      refine c_cond rfl (fun h3 => ?_) (fun h3 => ?_)
      · skip
        have f3 := h3
        try simp only [Bool.or_eq_true, Bool.and_eq_true, Bool.or_eq_false_iff, Bool.and_eq_false_iff, decide_eq_true_eq, decide_eq_false_iff_not, beq_iff_eq, beq_eq_false_iff_ne, bne_iff_ne, bne_eq_false_iff_eq, Bool.not_eq_true', Bool.not_eq_false', ne_eq, Int.not_lt, Int.not_le, ge_iff_le, gt_iff_lt] at f3
        refine c_region ?_
        refine o_fieldAddr (T := 3) (off := 0) trivial rfl Tryd.underlying32 rfl rfl rfl Tryd.sizeOf3 rfl rfl ?_
        refine o_load1 trivial rfl Tryd.isAgg3 rfl (by first | exact .head _ | exact .tail _ (.head _) | exact .tail _ (.tail _ (.head _)) | exact .tail _ (.tail _ (.tail _ (.head _))) | exact .tail _ (.tail _ (.tail _ (.tail _ (.head _)))) | exact .tail _ (.tail _ (.tail _ (.tail _ (.tail _ (.head _)))))) (by repeat constructor) ?_
        first | (refine o_add trivial rfl rfl rfl ?_ ?_; (omega)) | refine o_pv trivial rfl rfl ?_
        refine o_buildS trivial rfl (bld32) rfl (.cons rfl rfl rfl (by repeat constructor) (.cons rfl rfl rfl (by repeat constructor) .nil)) ?_
        refine o_store trivial rfl rfl rfl Tryd.sizeOf32 rfl rfl (by first | exact .here | exact .there .here | exact .there (.there .here) | exact .there (.there (.there .here)) | exact .there (.there (.there (.there .here))) | exact .there (.there (.there (.there (.there .here))))) (by repeat constructor) ?_
        refine o_nil ?_
        refine blk_n ?_
        exact again ⟨_, _, _, _, _⟩ (sub_cons rfl (sub_cons rfl (sub_cons rfl (sub_cons rfl (sub_cons rfl (sub_cons rfl sub_nil)))))) (fun _ h => h) (by show s.size - (i + (Utf8.decode s i).2) < s.size - i; omega) (hF.step hp (by omega) (by first | exact .inl ⟨by omega, rfl, rfl⟩ | exact .inr ⟨by omega, rfl, rfl⟩))
      · skip
        have f3 := h3
        try simp only [Bool.or_eq_true, Bool.and_eq_true, Bool.or_eq_false_iff, Bool.and_eq_false_iff, decide_eq_true_eq, decide_eq_false_iff_not, beq_iff_eq, beq_eq_false_iff_ne, bne_iff_ne, bne_eq_false_iff_eq, Bool.not_eq_true', Bool.not_eq_false', ne_eq, Int.not_lt, Int.not_le, ge_iff_le, gt_iff_lt] at f3
        refine c_skip ?_
        refine blk_n ?_
        exact again ⟨_, _, _, _, _⟩ (sub_cons rfl (sub_cons rfl (sub_cons rfl (sub_cons rfl (sub_cons rfl (sub_cons rfl sub_nil)))))) (fun _ h => h) (by show s.size - (i + (Utf8.decode s i).2) < s.size - i; omega) (hF.step hp (by omega) (by first | exact .inl ⟨by omega, rfl, rfl⟩ | exact .inr ⟨by omega, rfl, rfl⟩))
  · skip
    refine c_region ?_
    refine o_nextEnd trivial rfl rfl (by first | exact .head _ | exact .tail _ (.head _) | exact .tail _ (.tail _ (.head _)) | exact .tail _ (.tail _ (.tail _ (.head _))) | exact .tail _ (.tail _ (.tail _ (.tail _ (.head _)))) | exact .tail _ (.tail _ (.tail _ (.tail _ (.tail _ (.head _)))))) hp ?_
    refine o_pv trivial rfl rfl ?_
    refine o_nil ?_
    refine then_c ?_
    refine c_seq ?_
    refine c_cond_f rfl rfl ?_
    refine c_exit ?_
    refine then_x ?_
    refine then_x ?_
    refine blk_eq rfl ?_
    refine then_c ?_
    refine c_seq ?_
    refine c_seq ?_
    refine c_region ?_
    refine o_pv trivial rfl rfl ?_
    refine o_pv trivial rfl rfl ?_
    refine o_lenS trivial rfl Tryd.underlying9 rfl ?_
    refine o_pv trivial rfl rfl ?_
    refine o_nil ?_
    refine then_c ?_
    refine c_cond rfl (fun h4 => ?_) (fun h4 => ?_)
    · skip
      have f4 := h4
      try simp only [Bool.or_eq_true, Bool.and_eq_true, Bool.or_eq_false_iff, Bool.and_eq_false_iff, decide_eq_true_eq, decide_eq_false_iff_not, beq_iff_eq, beq_eq_false_iff_ne, bne_iff_ne, bne_eq_false_iff_eq, Bool.not_eq_true', Bool.not_eq_false', ne_eq, Int.not_lt, Int.not_le, ge_iff_le, gt_iff_lt] at f4
      refine c_seq ?_
      refine c_region ?_
      refine o_loadA trivial rfl Tryd.isAgg32 Tryd.sizeOf32 rfl (by first | exact .head _ | exact .tail _ (.head _) | exact .tail _ (.tail _ (.head _)) | exact .tail _ (.tail _ (.tail _ (.head _))) | exact .tail _ (.tail _ (.tail _ (.tail _ (.head _)))) | exact .tail _ (.tail _ (.tail _ (.tail _ (.tail _ (.head _)))))) (by repeat constructor) ?_
      refine o_store trivial rfl rfl rfl Tryd.sizeOf32 rfl rfl (by first | exact .here | exact .there .here | exact .there (.there .here) | exact .there (.there (.there .here)) | exact .there (.there (.there (.there .here))) | exact .there (.there (.there (.there (.there .here))))) (by repeat constructor) ?_
      refine o_nil ?_
      refine then_c ?_
      refine c_ret ?_
      refine then_r ?_
      refine retR rfl (.agg Tryd.isAgg32 Tryd.sizeOf32 rfl (by first | exact .head _ | exact .tail _ (.head _) | exact .tail _ (.tail _ (.head _)) | exact .tail _ (.tail _ (.tail _ (.head _))) | exact .tail _ (.tail _ (.tail _ (.tail _ (.head _)))) | exact .tail _ (.tail _ (.tail _ (.tail _ (.tail _ (.head _)))))) rfl .nil) ?_
      refine leaf0 ?_; unfold plc; rw [hF.end1 hp (by omega)]; rfl
    · skip
      have f4 := h4
      try simp only [Bool.or_eq_true, Bool.and_eq_true, Bool.or_eq_false_iff, Bool.and_eq_false_iff, decide_eq_true_eq, decide_eq_false_iff_not, beq_iff_eq, beq_eq_false_iff_ne, bne_iff_ne, bne_eq_false_iff_eq, Bool.not_eq_true', Bool.not_eq_false', ne_eq, Int.not_lt, Int.not_le, ge_iff_le, gt_iff_lt] at f4
      refine c_skip ?_
      refine then_c ?_
      refine c_seq ?_
      refine c_region ?_
      refine o_loadA trivial rfl Tryd.isAgg32 Tryd.sizeOf32 rfl (by first | exact .head _ | exact .tail _ (.head _) | exact .tail _ (.tail _ (.head _)) | exact .tail _ (.tail _ (.tail _ (.head _))) | exact .tail _ (.tail _ (.tail _ (.tail _ (.head _)))) | exact .tail _ (.tail _ (.tail _ (.tail _ (.tail _ (.head _)))))) (by repeat constructor) ?_
      refine o_store trivial rfl rfl rfl Tryd.sizeOf32 rfl rfl (by first | exact .here | exact .there .here | exact .there (.there .here) | exact .there (.there (.there .here)) | exact .there (.there (.there (.there .here))) | exact .there (.there (.there (.there (.there .here))))) (by repeat constructor) ?_
      refine o_nil ?_
      refine then_c ?_
      refine c_ret ?_
      refine retR rfl (.agg Tryd.isAgg32 Tryd.sizeOf32 rfl (by first | exact .head _ | exact .tail _ (.head _) | exact .tail _ (.tail _ (.head _)) | exact .tail _ (.tail _ (.tail _ (.head _))) | exact .tail _ (.tail _ (.tail _ (.tail _ (.head _)))) | exact .tail _ (.tail _ (.tail _ (.tail _ (.tail _ (.head _)))))) rfl .nil) ?_
      refine leaf0 ?_; unfold plc; rw [hF.end2 hp (by omega)]; rfl

theorem nextZ_in {s : ByteArray} {i : Nat} (h : i < s.size) : nextZ s (i : Int) = (((Utf8.decode s i).1 : Int), ((Utf8.decode s i).2 : Int)) := by
  unfold nextZ
  rw [if_neg (by omega)]
  rfl
theorem next_in (s : ByteArray) (i : Nat) (hi : i < s.size) : Value.tuple #[.int .i32 (nextZ s (i : Int)).1, .int .i64 (nextZ s (i : Int)).2] = .tuple #[.int .i32 ((Utf8.decode s i).1 : Int), .int .i64 ((Utf8.decode s i).2 : Int)] := by rw [nextZ_in hi]
theorem refNext_in (s : ByteArray) (i : Nat) (hs : s.size ≤ 1000) (hi : i < s.size) : PureC Tryd.prog 19 [.string s, .int .i64 (i : Int)] (.tuple #[.int .i64 ((Utf8.decode s i).1 : Int), .int .i64 ((Utf8.decode s i).2 : Int)]) := by
  have h := refNext_any s i hs
  rw [nextZ_in hi] at h
  exact h
theorem refPlace_any (s : ByteArray) (at_ : Int) {I : Hp} (hs : s.size ≤ 1000) : Fun Tryd.prog 21 [.string s, .int .i64 at_] I [] (fun v _ _ => v = plc (placeZ s at_)) := by
  intro w hw
  refine enter2 _ Tryd.func21 rfl Tryd.ntmps21 rfl ?_ hw
  refine c_seq ?_
  refine c_region ?_
  refine o_alloc trivial rfl Tryd.zeroValue32 rfl (fun b4 => ?_)
  refine o_nil ?_
  refine then_c ?_
  refine c_seq ?_
  refine c_region ?_
  refine o_buildS trivial rfl (bld32) rfl (.cons rfl rfl rfl (by repeat constructor) (.cons rfl rfl rfl (by repeat constructor) .nil)) ?_
  refine o_alloc trivial rfl Tryd.zeroValue32 rfl (fun b5 => ?_)
  refine o_store trivial rfl rfl rfl Tryd.sizeOf32 rfl rfl (by first | exact .here | exact .there .here | exact .there (.there .here) | exact .there (.there (.there .here)) | exact .there (.there (.there (.there .here))) | exact .there (.there (.there (.there (.there .here))))) (by repeat constructor) ?_
  refine o_nil ?_
  refine then_c ?_
  refine c_seq ?_
  refine c_region ?_
  refine o_pv trivial rfl rfl ?_
  refine o_nil ?_
  refine then_c ?_
  refine c_seq ?_
  refine c_block ?_
  refine c_loop (ι := Nat × Int × Int) [0, 1, 4, 5] (.cons rfl (.cons rfl (.cons rfl (.cons rfl .nil)))) (fun x => s.size - x.1) (fun x E0 => (6, .int .i64 (x.1 : Int)) :: E0) (fun x => St w [] I [.box b5 (.cells #[.int .i64 x.2.1, .int .i64 x.2.2] 32 (0, 0)), .box b4 (.cells #[.int .i64 0, .int .i64 0] 32 (0, 0))]) (fun x => (1 ≤ x.2.1 ∧ x.2.1 ≤ x.1 + 1) ∧ (1 ≤ x.2.2 ∧ x.2.2 ≤ x.1 + 1) ∧ x.1 ≤ s.size ∧ placeZ s at_ = placeGo s at_ (s.size - x.1) x.1 x.2.1 x.2.2) ((0, 1, 1)) (sub_cons rfl (sub_cons rfl (sub_cons rfl (sub_cons rfl (sub_cons rfl sub_nil))))) (fun _ h => h) (⟨by simp, by simp, Nat.zero_le _, rfl⟩) ?_
  rintro ⟨i, l, c⟩ ⟨hl, hc, hle, hF⟩
  try dsimp only
  simp only at hl hc hle hF; have hwd := width_pos s i
  refine c_seq ?_
  refine c_seq ?_
  refine c_region ?_
  refine o_pv trivial rfl rfl ?_
  refine o_pv trivial rfl rfl ?_
  refine o_lenS trivial rfl Tryd.underlying9 rfl ?_
  refine o_pv trivial rfl rfl ?_
  refine o_nil ?_
  refine then_c ?_
  refine c_cond rfl (fun h1 => ?_) (fun h1 => ?_)
  · skip
    have f1 := h1
    try simp only [Bool.or_eq_true, Bool.and_eq_true, Bool.or_eq_false_iff, Bool.and_eq_false_iff, decide_eq_true_eq, decide_eq_false_iff_not, beq_iff_eq, beq_eq_false_iff_ne, bne_iff_ne, bne_eq_false_iff_eq, Bool.not_eq_true', Bool.not_eq_false', ne_eq, Int.not_lt, Int.not_le, ge_iff_le, gt_iff_lt] at f1
    refine c_skip ?_
    refine then_c ?_
    refine c_block ?_
    refine c_seq ?_
    refine c_region ?_
    refine o_pv trivial rfl rfl ?_
    refine o_pv trivial rfl rfl ?_
    refine o_callP trivial rfl Tryd.call19 rfl (refNext_in _ _ (by omega) (by omega)) ?_
    refine o_pv trivial rfl rfl ?_
    refine o_pv trivial rfl rfl ?_
    refine o_pv trivial rfl rfl ?_
    refine o_pv trivial rfl rfl ?_
    refine o_pv trivial rfl rfl ?_
    refine o_nil ?_
    refine then_c ?_
    refine c_seq ?_
    refine c_seq ?_
    refine c_region ?_
    refine o_pv trivial rfl rfl ?_
    refine o_pv trivial rfl rfl ?_
    refine o_pv trivial rfl rfl ?_
    first | (refine o_add trivial rfl rfl rfl ?_ ?_; (omega)) | refine o_pv trivial rfl rfl ?_
    refine o_pv trivial rfl rfl ?_
    refine o_nil ?_
    refine then_c ?_
    refine c_cond rfl (fun h2 => ?_) (fun h2 => ?_)
    · skip
      have f2 := h2
      try simp only [Bool.or_eq_true, Bool.and_eq_true, Bool.or_eq_false_iff, Bool.and_eq_false_iff, decide_eq_true_eq, decide_eq_false_iff_not, beq_iff_eq, beq_eq_false_iff_ne, bne_iff_ne, bne_eq_false_iff_eq, Bool.not_eq_true', Bool.not_eq_false', ne_eq, Int.not_lt, Int.not_le, ge_iff_le, gt_iff_lt] at f2
      refine c_seq ?_
      refine c_region ?_
      refine o_loadA trivial rfl Tryd.isAgg32 Tryd.sizeOf32 rfl (by first | exact .head _ | exact .tail _ (.head _) | exact .tail _ (.tail _ (.head _)) | exact .tail _ (.tail _ (.tail _ (.head _))) | exact .tail _ (.tail _ (.tail _ (.tail _ (.head _)))) | exact .tail _ (.tail _ (.tail _ (.tail _ (.tail _ (.head _)))))) (by repeat constructor) ?_
      refine o_store trivial rfl rfl rfl Tryd.sizeOf32 rfl rfl (by first | exact .here | exact .there .here | exact .there (.there .here) | exact .there (.there (.there .here)) | exact .there (.there (.there (.there .here))) | exact .there (.there (.there (.there (.there .here))))) (by repeat constructor) ?_
      refine o_nil ?_
      refine then_c ?_
      refine c_ret ?_
      refine then_r ?_
      refine blk_r ?_
      refine then_r ?_
      refine blk_r ?_
      refine then_r ?_
      refine retR rfl (.agg Tryd.isAgg32 Tryd.sizeOf32 rfl (by first | exact .head _ | exact .tail _ (.head _) | exact .tail _ (.tail _ (.head _)) | exact .tail _ (.tail _ (.tail _ (.head _))) | exact .tail _ (.tail _ (.tail _ (.tail _ (.head _)))) | exact .tail _ (.tail _ (.tail _ (.tail _ (.tail _ (.head _)))))) rfl .nil) ?_
      refine leaf0 ?_; unfold plc; rw [hF, placeGo_stop (by omega) (by omega)]; rfl
    · skip
      have f2 := h2
      try simp only [Bool.or_eq_true, Bool.and_eq_true, Bool.or_eq_false_iff, Bool.and_eq_false_iff, decide_eq_true_eq, decide_eq_false_iff_not, beq_iff_eq, beq_eq_false_iff_ne, bne_iff_ne, bne_eq_false_iff_eq, Bool.not_eq_true', Bool.not_eq_false', ne_eq, Int.not_lt, Int.not_le, ge_iff_le, gt_iff_lt] at f2
      refine c_skip ?_
      refine then_c ?_
      refine c_seq ?_
      refine c_region ?_
      refine o_fieldAddr (T := 3) (off := 1) trivial rfl Tryd.underlying32 rfl rfl rfl Tryd.sizeOf3 rfl rfl ?_
      refine o_load1 trivial rfl Tryd.isAgg3 rfl (by first | exact .head _ | exact .tail _ (.head _) | exact .tail _ (.tail _ (.head _)) | exact .tail _ (.tail _ (.tail _ (.head _))) | exact .tail _ (.tail _ (.tail _ (.tail _ (.head _)))) | exact .tail _ (.tail _ (.tail _ (.tail _ (.tail _ (.head _)))))) (by repeat constructor) ?_
      first | (refine o_add trivial rfl rfl rfl ?_ ?_; (omega)) | refine o_pv trivial rfl rfl ?_
      refine o_fieldAddr (T := 3) (off := 1) trivial rfl Tryd.underlying32 rfl rfl rfl Tryd.sizeOf3 rfl rfl ?_
      refine o_store trivial rfl rfl rfl Tryd.sizeOf3 rfl rfl (by first | exact .here | exact .there .here | exact .there (.there .here) | exact .there (.there (.there .here)) | exact .there (.there (.there (.there .here))) | exact .there (.there (.there (.there (.there .here))))) (by repeat constructor) ?_
      refine o_nil ?_
      refine then_c ?_
      refine c_seq ?_
      refine c_seq ?_
      refine c_region ?_
      refine o_pv trivial rfl rfl ?_
      refine o_pv trivial rfl rfl ?_
      refine o_nil ?_
      refine then_c ?_
      refine c_cond rfl (fun h3 => ?_) (fun h3 => ?_)
      · skip
        have f3 := h3
        try simp only [Bool.or_eq_true, Bool.and_eq_true, Bool.or_eq_false_iff, Bool.and_eq_false_iff, decide_eq_true_eq, decide_eq_false_iff_not, beq_iff_eq, beq_eq_false_iff_ne, bne_iff_ne, bne_eq_false_iff_eq, Bool.not_eq_true', Bool.not_eq_false', ne_eq, Int.not_lt, Int.not_le, ge_iff_le, gt_iff_lt] at f3
        refine c_region ?_
        refine o_fieldAddr (T := 3) (off := 0) trivial rfl Tryd.underlying32 rfl rfl rfl Tryd.sizeOf3 rfl rfl ?_
        refine o_load1 trivial rfl Tryd.isAgg3 rfl (by first | exact .head _ | exact .tail _ (.head _) | exact .tail _ (.tail _ (.head _)) | exact .tail _ (.tail _ (.tail _ (.head _))) | exact .tail _ (.tail _ (.tail _ (.tail _ (.head _)))) | exact .tail _ (.tail _ (.tail _ (.tail _ (.tail _ (.head _)))))) (by repeat constructor) ?_
        first | (refine o_add trivial rfl rfl rfl ?_ ?_; (omega)) | refine o_pv trivial rfl rfl ?_
        refine o_buildS trivial rfl (bld32) rfl (.cons rfl rfl rfl (by repeat constructor) (.cons rfl rfl rfl (by repeat constructor) .nil)) ?_
        refine o_store trivial rfl rfl rfl Tryd.sizeOf32 rfl rfl (by first | exact .here | exact .there .here | exact .there (.there .here) | exact .there (.there (.there .here)) | exact .there (.there (.there (.there .here))) | exact .there (.there (.there (.there (.there .here))))) (by repeat constructor) ?_
        refine o_nil ?_
        refine then_c ?_
        refine c_region ?_
        refine o_pv trivial rfl rfl ?_
        refine o_pv trivial rfl rfl ?_
        first | (refine o_add trivial rfl rfl rfl ?_ ?_; (omega)) | refine o_pv trivial rfl rfl ?_
        refine o_pv trivial rfl rfl ?_
        refine o_nil ?_
        refine blk_n ?_
        have hwi := width_in s i (by omega); exact again (_, _, _) (sub_cons rfl (sub_cons rfl (sub_cons rfl (sub_cons rfl (sub_cons rfl sub_nil))))) (fun _ h => h) (by show s.size - (i + (Utf8.decode s i).2) < s.size - i; omega) ⟨by simp only; omega, by simp only; omega, by simp only; omega, hF.trans (placeGo_step (by omega) (by omega) (by first | exact .inl ⟨by omega, rfl, rfl⟩ | exact .inr ⟨by omega, rfl, rfl⟩))⟩
      · skip
        have f3 := h3
        try simp only [Bool.or_eq_true, Bool.and_eq_true, Bool.or_eq_false_iff, Bool.and_eq_false_iff, decide_eq_true_eq, decide_eq_false_iff_not, beq_iff_eq, beq_eq_false_iff_ne, bne_iff_ne, bne_eq_false_iff_eq, Bool.not_eq_true', Bool.not_eq_false', ne_eq, Int.not_lt, Int.not_le, ge_iff_le, gt_iff_lt] at f3
        refine c_skip ?_
        refine then_c ?_
        refine c_region ?_
        refine o_pv trivial rfl rfl ?_
        refine o_pv trivial rfl rfl ?_
        first | (refine o_add trivial rfl rfl rfl ?_ ?_; (omega)) | refine o_pv trivial rfl rfl ?_
        refine o_pv trivial rfl rfl ?_
        refine o_nil ?_
        refine blk_n ?_
        have hwi := width_in s i (by omega); exact again (_, _, _) (sub_cons rfl (sub_cons rfl (sub_cons rfl (sub_cons rfl (sub_cons rfl sub_nil))))) (fun _ h => h) (by show s.size - (i + (Utf8.decode s i).2) < s.size - i; omega) ⟨by simp only; omega, by simp only; omega, by simp only; omega, hF.trans (placeGo_step (by omega) (by omega) (by first | exact .inl ⟨by omega, rfl, rfl⟩ | exact .inr ⟨by omega, rfl, rfl⟩))⟩
  · skip
    have f1 := h1
    try simp only [Bool.or_eq_true, Bool.and_eq_true, Bool.or_eq_false_iff, Bool.and_eq_false_iff, decide_eq_true_eq, decide_eq_false_iff_not, beq_iff_eq, beq_eq_false_iff_ne, bne_iff_ne, bne_eq_false_iff_eq, Bool.not_eq_true', Bool.not_eq_false', ne_eq, Int.not_lt, Int.not_le, ge_iff_le, gt_iff_lt] at f1
    refine c_exit ?_
    refine then_x ?_
    refine then_x ?_
    refine blk_eq rfl ?_
    refine then_c ?_
    refine c_seq ?_
    refine c_region ?_
    refine o_loadA trivial rfl Tryd.isAgg32 Tryd.sizeOf32 rfl (by first | exact .head _ | exact .tail _ (.head _) | exact .tail _ (.tail _ (.head _)) | exact .tail _ (.tail _ (.tail _ (.head _))) | exact .tail _ (.tail _ (.tail _ (.tail _ (.head _)))) | exact .tail _ (.tail _ (.tail _ (.tail _ (.tail _ (.head _)))))) (by repeat constructor) ?_
    refine o_store trivial rfl rfl rfl Tryd.sizeOf32 rfl rfl (by first | exact .here | exact .there .here | exact .there (.there .here) | exact .there (.there (.there .here)) | exact .there (.there (.there (.there .here))) | exact .there (.there (.there (.there (.there .here))))) (by repeat constructor) ?_
    refine o_nil ?_
    refine then_c ?_
    refine c_ret ?_
    refine retR rfl (.agg Tryd.isAgg32 Tryd.sizeOf32 rfl (by first | exact .head _ | exact .tail _ (.head _) | exact .tail _ (.tail _ (.head _)) | exact .tail _ (.tail _ (.tail _ (.head _))) | exact .tail _ (.tail _ (.tail _ (.tail _ (.head _)))) | exact .tail _ (.tail _ (.tail _ (.tail _ (.tail _ (.head _)))))) rfl .nil) ?_
    refine leaf0 ?_; unfold plc; rw [hF, placeGo_end (by omega)]; rfl

theorem name_any (s : ByteArray) {I : Hp} (hs : s.size ≤ 100000) : Fun Tryd.prog 22 [.string s] I [] (fun v _ _ => v = .bool (nameZ s)) := by
  intro w hw
  refine enter1 _ Tryd.func22 rfl Tryd.ntmps22 rfl ?_ hw
  refine c_seq ?_
  refine c_region ?_
  refine o_pv trivial rfl rfl ?_
  refine o_nil ?_
  refine then_c ?_
  refine c_seq ?_
  refine c_seq ?_
  refine c_region ?_
  refine o_pv trivial rfl rfl ?_
  refine o_pv trivial rfl rfl ?_
  refine' o_or trivial trivial rfl rfl rfl rfl rfl rfl rfl rfl (fun hb8 => ?_) ?_
  rotate_left
  · skip
    have fb8 := hb8
    try simp only [Bool.or_eq_true, Bool.and_eq_true, Bool.or_eq_false_iff, Bool.and_eq_false_iff, decide_eq_true_eq, decide_eq_false_iff_not, beq_iff_eq, beq_eq_false_iff_ne, bne_iff_ne, bne_eq_false_iff_eq, Bool.not_eq_true', Bool.not_eq_false', ne_eq, Int.not_lt, Int.not_le, ge_iff_le, gt_iff_lt] at fb8
    refine o_pv (wants_some rfl rfl hb8) rfl rfl ?_
    refine o_lenS (wants_some rfl rfl hb8) rfl Tryd.underlying9 rfl ?_
    refine o_pv (wants_some rfl rfl hb8) rfl rfl ?_
    refine o_nil ?_
    exact joins rfl
  refine' o_or trivial trivial rfl rfl rfl rfl rfl rfl rfl rfl (fun hb13 => ?_) ?_
  rotate_left
  · skip
    have fb13 := hb13
    try simp only [Bool.or_eq_true, Bool.and_eq_true, Bool.or_eq_false_iff, Bool.and_eq_false_iff, decide_eq_true_eq, decide_eq_false_iff_not, beq_iff_eq, beq_eq_false_iff_ne, bne_iff_ne, bne_eq_false_iff_eq, Bool.not_eq_true', Bool.not_eq_false', ne_eq, Int.not_lt, Int.not_le, ge_iff_le, gt_iff_lt] at fb13
    refine o_pv (wants_some rfl rfl hb13) rfl rfl ?_
    refine o_callP (wants_some rfl rfl hb13) rfl Tryd.call24 rfl (key_any _) ?_
    refine o_nil ?_
    exact joins rfl
  refine o_nil ?_
  refine then_c ?_
  refine c_cond rfl (fun h1 => ?_) (fun h1 => ?_)
  · skip
    have f1 := h1
    try simp only [Bool.or_eq_true, Bool.and_eq_true, Bool.or_eq_false_iff, Bool.and_eq_false_iff, decide_eq_true_eq, decide_eq_false_iff_not, beq_iff_eq, beq_eq_false_iff_ne, bne_iff_ne, bne_eq_false_iff_eq, Bool.not_eq_true', Bool.not_eq_false', ne_eq, Int.not_lt, Int.not_le, ge_iff_le, gt_iff_lt] at f1
    simp only [nil_eq] at f1
    refine c_seq ?_
    refine c_region ?_
    refine o_pv trivial rfl rfl ?_
    refine o_nil ?_
    refine then_c ?_
    refine c_ret ?_
    refine then_r ?_
    refine ret1 rfl rfl ?_
    refine leaf0 ?_; rw [nameZ_none (by rcases f1 with (f | f) | f; exact .inl (by omega); exact .inr (.inl (by omega)); exact .inr (.inr f))]
  · skip
    have f1 := h1
    try simp only [Bool.or_eq_true, Bool.and_eq_true, Bool.or_eq_false_iff, Bool.and_eq_false_iff, decide_eq_true_eq, decide_eq_false_iff_not, beq_iff_eq, beq_eq_false_iff_ne, bne_iff_ne, bne_eq_false_iff_eq, Bool.not_eq_true', Bool.not_eq_false', ne_eq, Int.not_lt, Int.not_le, ge_iff_le, gt_iff_lt] at f1
    simp only [nil_eq] at f1
    refine c_skip ?_
    refine then_c ?_
    refine c_seq ?_
    refine c_seq ?_
    refine c_region ?_
    refine o_pv trivial rfl rfl ?_
    refine o_range trivial rfl Tryd.underlying9 rfl (fun b18 => ?_)
    refine o_nil ?_
    refine then_c ?_
    refine c_block ?_
    refine c_loop (ι := Nat) [18] (.cons rfl .nil) (fun x => s.size - x) (fun x E0 => E0) (fun x => St w [] I [.box b18 (.stringIter s x)]) (fun x => x ≤ s.size ∧ nameZ s = nameGo s (s.size - x) x) (0) (sub_cons rfl sub_nil) (fun _ h => h) (⟨Nat.zero_le _, nameZ_some (by omega) (by omega) f1.2⟩) ?_
    rintro i ⟨hle, hF⟩
    try dsimp only
    have hwd := width_pos s i
    refine c_seq ?_
    rcases Nat.lt_or_ge i s.size with hp | hp
    · skip
      refine c_region ?_
      refine o_next trivial rfl rfl (by first | exact .here | exact .there .here | exact .there (.there .here) | exact .there (.there (.there .here)) | exact .there (.there (.there (.there .here))) | exact .there (.there (.there (.there (.there .here))))) hp ?_
      refine o_pv trivial rfl rfl ?_
      refine o_nil ?_
      refine then_c ?_
      refine c_seq ?_
      refine c_cond_t rfl rfl ?_
      refine c_skip ?_
      refine then_c ?_
      refine c_block ?_
      refine c_seq ?_
      refine c_region ?_
      refine o_pv trivial rfl rfl ?_
      refine o_pv trivial rfl rfl ?_
      refine o_pv trivial rfl rfl ?_
      refine o_pv trivial rfl rfl ?_
      refine o_nil ?_
      refine then_c ?_
      refine c_seq ?_
      refine c_region ?_
      refine o_pv trivial rfl rfl ?_
      refine o_callP trivial rfl Tryd.call16 rfl (kind_any _) ?_
      refine o_pv trivial rfl rfl ?_
      refine o_nil ?_
      refine then_c ?_
      refine c_seq ?_
      refine c_region ?_
      refine o_pv trivial rfl rfl ?_
      refine o_pv trivial rfl rfl ?_
      refine' o_and trivial trivial rfl rfl rfl rfl rfl rfl rfl rfl (fun hb27 => ?_) ?_
      rotate_left
      · skip
        refine o_pv (wants_some rfl rfl hb27) rfl rfl ?_
        refine o_pv (wants_some rfl rfl hb27) rfl rfl ?_
        refine' o_or (wants_some rfl rfl hb27) (wants_some rfl rfl hb27) rfl rfl rfl rfl rfl rfl rfl rfl (fun hb30 => ?_) ?_
        rotate_left
        · skip
          refine o_pv (wants_some rfl rfl hb30) rfl rfl ?_
          refine o_pv (wants_some rfl rfl hb30) rfl rfl ?_
          refine o_nil ?_
          exact joins rfl
        refine o_nil ?_
        exact joins rfl
      refine o_nil ?_
      refine then_c ?_
      refine c_cond rfl (fun h3 => ?_) (fun h3 => ?_)
      · skip
        have f3 := h3
        try simp only [Bool.or_eq_true, Bool.and_eq_true, Bool.or_eq_false_iff, Bool.and_eq_false_iff, decide_eq_true_eq, decide_eq_false_iff_not, beq_iff_eq, beq_eq_false_iff_ne, bne_iff_ne, bne_eq_false_iff_eq, Bool.not_eq_true', Bool.not_eq_false', ne_eq, Int.not_lt, Int.not_le, ge_iff_le, gt_iff_lt] at f3
        refine c_seq ?_
        refine c_region ?_
        refine o_pv trivial rfl rfl ?_
        refine o_nil ?_
        refine then_c ?_
        refine c_ret ?_
        refine blk_r ?_
        refine then_r ?_
        refine blk_r ?_
        refine then_r ?_
        refine ret1 rfl rfl ?_
        refine leaf0 ?_; rw [hF, nameGo_no hp (by omega)]
      · skip
        have f3 := h3
        try simp only [Bool.or_eq_true, Bool.and_eq_true, Bool.or_eq_false_iff, Bool.and_eq_false_iff, decide_eq_true_eq, decide_eq_false_iff_not, beq_iff_eq, beq_eq_false_iff_ne, bne_iff_ne, bne_eq_false_iff_eq, Bool.not_eq_true', Bool.not_eq_false', ne_eq, Int.not_lt, Int.not_le, ge_iff_le, gt_iff_lt] at f3
        refine c_skip ?_
        refine blk_n ?_
        have hwi := width_in s i hp; exact again _ (sub_cons rfl sub_nil) (fun _ h => h) (by show s.size - (i + (Utf8.decode s i).2) < s.size - i; omega) ⟨by omega, hF.trans (nameGo_step hp (by omega))⟩
    · skip
      refine c_region ?_
      refine o_nextEnd trivial rfl rfl (by first | exact .head _ | exact .tail _ (.head _) | exact .tail _ (.tail _ (.head _)) | exact .tail _ (.tail _ (.tail _ (.head _))) | exact .tail _ (.tail _ (.tail _ (.tail _ (.head _)))) | exact .tail _ (.tail _ (.tail _ (.tail _ (.tail _ (.head _)))))) hp ?_
      refine o_pv trivial rfl rfl ?_
      refine o_nil ?_
      refine then_c ?_
      refine c_seq ?_
      refine c_cond_f rfl rfl ?_
      refine c_exit ?_
      refine then_x ?_
      refine then_x ?_
      refine blk_eq rfl ?_
      refine then_c ?_
      refine c_seq ?_
      refine c_region ?_
      refine o_pv trivial rfl rfl ?_
      refine o_nil ?_
      refine then_c ?_
      refine c_ret ?_
      refine ret1 rfl rfl ?_
      refine leaf0 ?_; rw [hF, nameGo_end (by omega)]
theorem refName_any (s : ByteArray) (hs : s.size ≤ 1000) : PureC Tryd.prog 23 [.string s] (.bool (nameZ s)) := by
  intro w
  refine enter1 _ Tryd.func23 rfl Tryd.ntmps23 rfl ?_ (S := fun w1 => w1 = w) rfl
  refine c_seq ?_
  refine c_region ?_
  refine o_pv trivial rfl rfl ?_
  refine o_nil ?_
  refine then_c ?_
  refine c_seq ?_
  refine c_seq ?_
  refine c_region ?_
  refine o_pv trivial rfl rfl ?_
  refine o_lenS trivial rfl Tryd.underlying9 rfl ?_
  refine o_pv trivial rfl rfl ?_
  refine' o_or trivial trivial rfl rfl rfl rfl rfl rfl rfl rfl (fun hb10 => ?_) ?_
  rotate_left
  · skip
    have fb10 := hb10
    try simp only [Bool.or_eq_true, Bool.and_eq_true, Bool.or_eq_false_iff, Bool.and_eq_false_iff, decide_eq_true_eq, decide_eq_false_iff_not, beq_iff_eq, beq_eq_false_iff_ne, bne_iff_ne, bne_eq_false_iff_eq, Bool.not_eq_true', Bool.not_eq_false', ne_eq, Int.not_lt, Int.not_le, ge_iff_le, gt_iff_lt] at fb10
    refine o_pv (wants_some rfl rfl hb10) rfl rfl ?_
    refine o_lenS (wants_some rfl rfl hb10) rfl Tryd.underlying9 rfl ?_
    refine o_pv (wants_some rfl rfl hb10) rfl rfl ?_
    refine o_nil ?_
    exact joins rfl
  refine' o_or trivial trivial rfl rfl rfl rfl rfl rfl rfl rfl (fun hb15 => ?_) ?_
  rotate_left
  · skip
    have fb15 := hb15
    try simp only [Bool.or_eq_true, Bool.and_eq_true, Bool.or_eq_false_iff, Bool.and_eq_false_iff, decide_eq_true_eq, decide_eq_false_iff_not, beq_iff_eq, beq_eq_false_iff_ne, bne_iff_ne, bne_eq_false_iff_eq, Bool.not_eq_true', Bool.not_eq_false', ne_eq, Int.not_lt, Int.not_le, ge_iff_le, gt_iff_lt] at fb15
    refine o_pv (wants_some rfl rfl hb15) rfl rfl ?_
    refine o_callP (wants_some rfl rfl hb15) rfl Tryd.call25 rfl (refKey_any _) ?_
    refine o_nil ?_
    exact joins rfl
  refine o_nil ?_
  refine then_c ?_
  refine c_cond rfl (fun h1 => ?_) (fun h1 => ?_)
  · skip
    have f1 := h1
    try simp only [Bool.or_eq_true, Bool.and_eq_true, Bool.or_eq_false_iff, Bool.and_eq_false_iff, decide_eq_true_eq, decide_eq_false_iff_not, beq_iff_eq, beq_eq_false_iff_ne, bne_iff_ne, bne_eq_false_iff_eq, Bool.not_eq_true', Bool.not_eq_false', ne_eq, Int.not_lt, Int.not_le, ge_iff_le, gt_iff_lt] at f1
    refine c_seq ?_
    refine c_region ?_
    refine o_pv trivial rfl rfl ?_
    refine o_nil ?_
    refine then_c ?_
    refine c_ret ?_
    refine then_r ?_
    refine ret1 rfl rfl ?_
    refine fun _ hw => ⟨?_, hw⟩; rw [nameZ_none (by rcases f1 with (f | f) | f; exact .inl (by omega); exact .inr (.inl (by omega)); exact .inr (.inr f))]
  · skip
    have f1 := h1
    try simp only [Bool.or_eq_true, Bool.and_eq_true, Bool.or_eq_false_iff, Bool.and_eq_false_iff, decide_eq_true_eq, decide_eq_false_iff_not, beq_iff_eq, beq_eq_false_iff_ne, bne_iff_ne, bne_eq_false_iff_eq, Bool.not_eq_true', Bool.not_eq_false', ne_eq, Int.not_lt, Int.not_le, ge_iff_le, gt_iff_lt] at f1
    refine c_skip ?_
    refine then_c ?_
    refine c_seq ?_
    refine c_region ?_
    refine o_pv trivial rfl rfl ?_
    refine o_nil ?_
    refine then_c ?_
    refine c_seq ?_
    refine c_block ?_
    refine c_loop (ι := Nat) [0] (.cons rfl .nil) (fun x => s.size - x) (fun x E0 => (3, .int .i64 (x : Int)) :: E0) (fun x => fun w1 => w1 = w) (fun x => x ≤ s.size ∧ nameZ s = nameGo s (s.size - x) x) (0) (sub_cons rfl (sub_cons rfl sub_nil)) (fun _ h => h) (⟨Nat.zero_le _, nameZ_some (by omega) (by omega) f1.2⟩) ?_
    rintro i ⟨hle, hF⟩
    try dsimp only
    have hwd := width_pos s i
    refine c_seq ?_
    refine c_seq ?_
    refine c_region ?_
    refine o_pv trivial rfl rfl ?_
    refine o_pv trivial rfl rfl ?_
    refine o_lenS trivial rfl Tryd.underlying9 rfl ?_
    refine o_pv trivial rfl rfl ?_
    refine o_nil ?_
    refine then_c ?_
    refine c_cond rfl (fun h2 => ?_) (fun h2 => ?_)
    · skip
      have f2 := h2
      try simp only [Bool.or_eq_true, Bool.and_eq_true, Bool.or_eq_false_iff, Bool.and_eq_false_iff, decide_eq_true_eq, decide_eq_false_iff_not, beq_iff_eq, beq_eq_false_iff_ne, bne_iff_ne, bne_eq_false_iff_eq, Bool.not_eq_true', Bool.not_eq_false', ne_eq, Int.not_lt, Int.not_le, ge_iff_le, gt_iff_lt] at f2
      refine c_skip ?_
      refine then_c ?_
      refine c_block ?_
      refine c_seq ?_
      refine c_region ?_
      refine o_pv trivial rfl rfl ?_
      refine o_pv trivial rfl rfl ?_
      refine o_callP trivial rfl Tryd.call19 rfl (refNext_in _ _ (by omega) (by omega)) ?_
      refine o_pv trivial rfl rfl ?_
      refine o_pv trivial rfl rfl ?_
      refine o_pv trivial rfl rfl ?_
      refine o_pv trivial rfl rfl ?_
      refine o_pv trivial rfl rfl ?_
      refine o_nil ?_
      refine then_c ?_
      refine c_seq ?_
      refine c_region ?_
      refine o_pv trivial rfl rfl ?_
      refine o_callP trivial rfl Tryd.call17 rfl (refKind_any _) ?_
      refine o_pv trivial rfl rfl ?_
      refine o_nil ?_
      refine then_c ?_
      refine c_seq ?_
      refine c_seq ?_
      refine c_region ?_
      refine o_pv trivial rfl rfl ?_
      refine o_pv trivial rfl rfl ?_
      refine' o_and trivial trivial rfl rfl rfl rfl rfl rfl rfl rfl (fun hb33 => ?_) ?_
      rotate_left
      · skip
        refine o_pv (wants_some rfl rfl hb33) rfl rfl ?_
        refine o_pv (wants_some rfl rfl hb33) rfl rfl ?_
        refine o_nil ?_
        exact joins rfl
      refine' o_or trivial trivial rfl rfl rfl rfl rfl rfl rfl rfl (fun hb37 => ?_) ?_
      rotate_left
      · skip
        refine o_pv (wants_some rfl rfl hb37) rfl rfl ?_
        refine o_pv (wants_some rfl rfl hb37) rfl rfl ?_
        refine' o_and (wants_some rfl rfl hb37) (wants_some rfl rfl hb37) rfl rfl rfl rfl rfl rfl rfl rfl (fun hb40 => ?_) ?_
        rotate_left
        · skip
          refine o_pv (wants_some rfl rfl hb40) rfl rfl ?_
          refine o_pv (wants_some rfl rfl hb40) rfl rfl ?_
          refine o_nil ?_
          exact joins rfl
        refine o_nil ?_
        exact joins rfl
      refine o_nil ?_
      refine then_c ?_
      refine c_cond rfl (fun h3 => ?_) (fun h3 => ?_)
      · skip
        have f3 := h3
        try simp only [Bool.or_eq_true, Bool.and_eq_true, Bool.or_eq_false_iff, Bool.and_eq_false_iff, decide_eq_true_eq, decide_eq_false_iff_not, beq_iff_eq, beq_eq_false_iff_ne, bne_iff_ne, bne_eq_false_iff_eq, Bool.not_eq_true', Bool.not_eq_false', ne_eq, Int.not_lt, Int.not_le, ge_iff_le, gt_iff_lt] at f3
        refine c_seq ?_
        refine c_region ?_
        refine o_pv trivial rfl rfl ?_
        refine o_nil ?_
        refine then_c ?_
        refine c_ret ?_
        refine then_r ?_
        refine blk_r ?_
        refine then_r ?_
        refine blk_r ?_
        refine then_r ?_
        refine ret1 rfl rfl ?_
        refine fun _ hw => ⟨?_, hw⟩; rw [hF, nameGo_no (by omega) (by omega)]
      · skip
        have f3 := h3
        try simp only [Bool.or_eq_true, Bool.and_eq_true, Bool.or_eq_false_iff, Bool.and_eq_false_iff, decide_eq_true_eq, decide_eq_false_iff_not, beq_iff_eq, beq_eq_false_iff_ne, bne_iff_ne, bne_eq_false_iff_eq, Bool.not_eq_true', Bool.not_eq_false', ne_eq, Int.not_lt, Int.not_le, ge_iff_le, gt_iff_lt] at f3
        refine c_skip ?_
        refine then_c ?_
        refine c_region ?_
        refine o_pv trivial rfl rfl ?_
        refine o_pv trivial rfl rfl ?_
        first | (refine o_add trivial rfl rfl rfl ?_ ?_; (omega)) | refine o_pv trivial rfl rfl ?_
        refine o_pv trivial rfl rfl ?_
        refine o_nil ?_
        refine blk_n ?_
        have hwi := width_in s i (by omega); exact again _ (sub_cons rfl (sub_cons rfl sub_nil)) (fun _ h => h) (by show s.size - (i + (Utf8.decode s i).2) < s.size - i; omega) ⟨by omega, hF.trans (nameGo_step (by omega) (by omega))⟩
    · skip
      have f2 := h2
      try simp only [Bool.or_eq_true, Bool.and_eq_true, Bool.or_eq_false_iff, Bool.and_eq_false_iff, decide_eq_true_eq, decide_eq_false_iff_not, beq_iff_eq, beq_eq_false_iff_ne, bne_iff_ne, bne_eq_false_iff_eq, Bool.not_eq_true', Bool.not_eq_false', ne_eq, Int.not_lt, Int.not_le, ge_iff_le, gt_iff_lt] at f2
      refine c_exit ?_
      refine then_x ?_
      refine then_x ?_
      refine blk_eq rfl ?_
      refine then_c ?_
      refine c_seq ?_
      refine c_region ?_
      refine o_pv trivial rfl rfl ?_
      refine o_nil ?_
      refine then_c ?_
      refine c_ret ?_
      refine ret1 rfl rfl ?_
      refine fun _ hw => ⟨?_, hw⟩; rw [hF, nameGo_end (by omega)]
end Go.Proofs.YtmflkokhhknlaaaDoor
