/-
  ValueTells, part 4: the texts Tape, Tape2, Panic, Value, Value2 as one.
-/
import Derived.Test.YtjgbjaaekknenaaGreatQValueTellsC
import Derived.Recover
/-
  Layer 14 of the program: tapes: what is right, weights.
-/
namespace Go.Tw
open Go
set_option linter.unusedVariables false
set_option linter.unusedSimpArgs false
set_option linter.unnecessarySimpa false
set_option maxHeartbeats 1000000
/-- An op. -/
structure OpC where
  code : Int
  a : Int
  b : Int
  e : Int
  neg : Bool
  n : List Nat
  d : List Nat
/-- .. in memory. -/
structure OpV where
  c : OpC
  vn : Value
  vd : Value
def OpV.cells (o : OpV) : List Value := [.int .i64 o.c.code, .int .i64 o.c.a, .int .i64 o.c.b, .int .i64 o.c.e, .bool o.c.neg, o.vn, o.vd]
def OpV.ok (I : Hp) (o : OpV) : Prop := Ws I o.vn o.c.n ∧ Ws I o.vd o.c.d
theorem OpV.ok.le {I I' : Hp} {o : OpV} (h : o.ok I) (hl : I.Le I') : o.ok I' := ⟨h.1.le hl, h.2.le hl⟩
structure TapeC where
  ins : Int
  ops : List OpC
  outs : List Int
def ics (l : List Int) : List (List Value) := l.map fun z => [.int .i64 z]
/-- A tape in memory. -/
structure TapeV (I : Hp) (vo vu : Value) (t : TapeC) (os : List OpV) : Prop where
  so : Slc I 7 vo (os.map OpV.cells)
  ok : ∀ o ∈ os, o.ok I
  eq : os.map OpV.c = t.ops
  su : Slc I 1 vu (ics t.outs)
theorem TapeV.le {I I' : Hp} {vo vu : Value} {t : TapeC} {os : List OpV} (h : TapeV I vo vu t os) (hl : I.Le I') : TapeV I' vo vu t os :=
  ⟨h.so.le hl, fun o ho => (h.ok o ho).le hl, h.eq, h.su.le hl⟩
/-- Numbers that are not too long. -/
def OpC.few (k : Nat) (o : OpC) : Prop := o.n.length ≤ k ∧ o.d.length ≤ k
def emptyZ (neg : Bool) (A B : List Nat) : Bool := !neg && decide (A.length = 0) && decide (B.length = 0)
end Go.Tw
namespace Go.Proofs.YtjgbjaaekknenaaGreat
open Go Go.Tw
set_option linter.unusedVariables false
set_option linter.unusedSimpArgs false
set_option linter.unnecessarySimpa false
set_option maxHeartbeats 1000000
theorem abs_any (n : Int) {I : Hp} (h : -1000000 ≤ n ∧ n ≤ 1000000) : Fun Tryz.prog 102 [.int .i64 n] I [] (fun v _ _ => v = .int .i64 (n.natAbs : Nat)) := by
  intro w hw
  refine enter1 _ Tryz.func102 rfl Tryz.ntmps102 rfl ?_ hw
  refine c_seq (c_region ?_)
  refine o_pv trivial rfl rfl ?_
  refine o_nil (then_c (c_seq (c_region ?_)))
  iterate 3 refine o_pv trivial rfl rfl ?_
  refine o_max2 trivial rfl rfl rfl ?_
  refine o_pv trivial rfl rfl ?_
  refine o_nil (then_c (c_ret ?_))
  refine ret1 rfl rfl ?_
  refine leaf0 (congrArg (Value.int .i64) ?_); rw [IntWalk.i64_in _ (by omega)]; omega
theorem empty_any (neg : Bool) (va vb : Value) (A B : List Nat) {I : Hp} (ha : Ws I va A) (hb : Ws I vb B) : Fun Tryz.prog 101 [.agg #[.bool neg, va, vb]] I [] (fun v _ _ => v = .bool (emptyZ neg A B)) := by
  intro w hw
  refine enter1 _ Tryz.func101 rfl Tryz.ntmps101 rfl ?_ hw
  refine c_seq (c_region ?_)
  refine o_box trivial rfl rfl rfl (fun b1 => ?_)
  refine o_pv trivial rfl rfl ?_
  refine o_nil (then_c (c_seq (c_region ?_)))
  refine o_fieldAddr (T := 4) (off := 0) trivial rfl Tryz.underlying33 rfl rfl rfl Tryz.sizeOf4 rfl rfl ?_
  refine o_load1 trivial rfl Tryz.isAgg4 rfl (by repeat constructor) (by repeat constructor) ?_
  refine o_pv trivial rfl rfl ?_
  refine' o_and trivial trivial rfl rfl rfl rfl rfl rfl rfl rfl (fun hb6 => ?_) ?_
  rotate_left
  ·
   have fb6 := hb6
   try simp only [bl] at fb6
   refine o_fieldAddr (T := 31) (off := 1) (wants_some rfl rfl hb6) rfl Tryz.underlying33 rfl rfl rfl Tryz.sizeOf31 rfl rfl ?_
   refine o_load1 (wants_some rfl rfl hb6) rfl Tryz.isAgg31 rfl (by repeat constructor) (by repeat constructor) ?_
   refine o_lenW (wants_some rfl rfl hb6) rfl Tryz.underlying31 rfl (ha) ?_
   refine o_pv (wants_some rfl rfl hb6) rfl rfl ?_
   refine o_nil ?_
   exact joins rfl
  refine' o_and trivial trivial rfl rfl rfl rfl rfl rfl rfl rfl (fun hb12 => ?_) ?_
  rotate_left
  ·
   have fb12 := hb12
   try simp only [bl] at fb12
   refine o_fieldAddr (T := 31) (off := 2) (wants_some rfl rfl hb12) rfl Tryz.underlying33 rfl rfl rfl Tryz.sizeOf31 rfl rfl ?_
   refine o_load1 (wants_some rfl rfl hb12) rfl Tryz.isAgg31 rfl (by repeat constructor) (by repeat constructor) ?_
   refine o_lenW (wants_some rfl rfl hb12) rfl Tryz.underlying31 rfl (hb) ?_
   refine o_pv (wants_some rfl rfl hb12) rfl rfl ?_
   refine o_nil ?_
   exact joins rfl
  refine o_pv trivial rfl rfl ?_
  refine o_nil (then_c (c_ret ?_))
  refine ret1 rfl rfl ?_
  refine leaf0 (congrArg Value.bool ?_); unfold emptyZ; rw [Bool.eq_iff_iff]; simp
/-- Are an op's fields as its code wants them? -/
def fieldsOK (o : OpC) : Bool :=
  if o.code = 1 then constOK o.neg o.n o.d && decide (o.a = 0 ∧ o.b = 0 ∧ o.e = 0)
  else if 2 ≤ o.code ∧ o.code ≤ 5 then emptyZ o.neg o.n o.d && decide (o.e = 0)
  else if o.code = 6 then emptyZ o.neg o.n o.d && decide (o.b = 0 ∧ o.e = 0)
  else if o.code = 7 then emptyZ o.neg o.n o.d && decide (o.b = 0 ∧ -20 ≤ o.e ∧ o.e ≤ 20)
  else false
theorem fields_any (code a b e : Int) (neg : Bool) (va vb : Value) (A B : List Nat) {I : Hp} (ha : Ws I va A) (hb : Ws I vb B) (hs : A.length ≤ 100000) (hs2 : B.length ≤ 100000) : Fun Tryz.prog 70 [.agg #[.int .i64 code, .int .i64 a, .int .i64 b, .int .i64 e, .bool neg, va, vb]] I [] (fun v _ _ => v = .bool (fieldsOK ⟨code, a, b, e, neg, A, B⟩)) := by
  intro w hw
  refine enter1 _ Tryz.func70 rfl Tryz.ntmps70 rfl ?_ hw
  refine c_seq (c_region ?_)
  refine o_box trivial rfl rfl rfl (fun b1 => ?_)
  refine o_pv trivial rfl rfl ?_
  refine o_nil (then_c (c_seq (c_seq (c_region ?_))))
  refine o_fieldAddr (T := 3) (off := 0) trivial rfl Tryz.underlying35 rfl rfl rfl Tryz.sizeOf3 rfl rfl ?_
  refine o_load1 trivial rfl Tryz.isAgg3 rfl (by repeat constructor) (by repeat constructor) ?_
  refine o_nil (then_c (c_block (c_seq (c_block (c_seq (c_block (c_seq (c_block (c_seq (c_block (c_seq (c_seq (c_seq (c_region ?_))))))))))))))
  iterate 2 refine o_pv trivial rfl rfl ?_
  refine o_nil (then_c ?_)
  refine c_cond rfl (fun h1 => ?_) (fun h1 => ?_)
  ·
   have f1 := h1
   try simp only [bl] at f1
   refine c_exit (then_x (then_x (blk_eq rfl (then_c (c_seq (c_seq (c_region ?_)))))))
   refine o_fieldAddr (T := 33) (off := 4) trivial rfl Tryz.underlying35 rfl rfl rfl Tryz.sizeOf33 rfl rfl ?_
   refine o_loadA trivial rfl Tryz.isAgg33 Tryz.sizeOf33 rfl (by repeat constructor) (by repeat constructor) ?_
   refine o_callQ trivial rfl Tryz.call100 rfl (constant_any neg _ _ _ _ ha hb hs hs2) ?_
   refine o_pv trivial rfl rfl ?_
   refine' o_or trivial trivial rfl rfl rfl rfl rfl rfl rfl rfl (fun hb20 => ?_) ?_
   rotate_left
   ·
    have fb20 := hb20
    try simp only [bl] at fb20
    refine o_fieldAddr (T := 3) (off := 1) (wants_some rfl rfl hb20) rfl Tryz.underlying35 rfl rfl rfl Tryz.sizeOf3 rfl rfl ?_
    refine o_load1 (wants_some rfl rfl hb20) rfl Tryz.isAgg3 rfl (by repeat constructor) (by repeat constructor) ?_
    refine o_pv (wants_some rfl rfl hb20) rfl rfl ?_
    refine o_nil ?_
    exact joins rfl
   refine o_nil (then_c ?_)
   refine c_cond rfl (fun h8 => ?_) (fun h8 => ?_)
   ·
    have f8 := h8
    try simp only [bl] at f8
    refine c_seq (c_region ?_)
    refine o_pv trivial rfl rfl ?_
    refine o_nil (then_c (c_ret (then_r (blk_r (then_r (blk_r (then_r (blk_r (then_r (blk_r (then_r ?_)))))))))))
    refine ret1 rfl rfl ?_
    refine leaf0 (congrArg Value.bool ?_)
    unfold fieldsOK
    dsimp only
    first
      | (exfalso; omega)
      | (try rw [show emptyZ false [] [] = true from rfl]
         generalize constOK neg A B = K at *
         generalize emptyZ neg A B = Z at *
         repeat (first | rw [if_pos (by omega)] | rw [if_neg (by omega)])
         try rw [Bool.eq_iff_iff]
         first | done | (cases K <;> cases Z <;> simp_all <;> omega))
   ·
    have f8 := h8
    try simp only [bl] at f8
    refine c_skip (then_c (c_region ?_))
    refine o_buildS trivial rfl (bld33) rfl .nil ?_
    refine o_fieldAddr (T := 33) (off := 4) trivial rfl Tryz.underlying35 rfl rfl rfl Tryz.sizeOf33 rfl rfl ?_
    refine o_store trivial rfl rfl rfl Tryz.sizeOf33 rfl (by first | rfl | (repeat' (first | exact rfl | exact one_nil | refine one_cons ?_ ?_ | exact (Ws.cells1 (by assumption)).2 | exact (Slc.cells1 (by assumption)).2))) (by repeat constructor) (by repeat constructor) ?_
    refine o_nil (blk_n (then_c (c_seq (c_region ?_))))
    refine o_fieldAddr (T := 3) (off := 2) trivial rfl Tryz.underlying35 rfl rfl rfl Tryz.sizeOf3 rfl rfl ?_
    refine o_load1 trivial rfl Tryz.isAgg3 rfl (by repeat constructor) (by repeat constructor) ?_
    refine o_pv trivial rfl rfl ?_
    refine o_nil (then_c ?_)
    refine c_cond rfl (fun h9 => ?_) (fun h9 => ?_)
    ·
     have f9 := h9
     try simp only [bl] at f9
     refine c_seq (c_region ?_)
     refine o_pv trivial rfl rfl ?_
     refine o_nil (then_c (c_ret (blk_r (then_r (blk_r (then_r (blk_r (then_r ?_))))))))
     refine ret1 rfl rfl ?_
     refine leaf0 (congrArg Value.bool ?_)
     unfold fieldsOK
     dsimp only
     first
       | (exfalso; omega)
       | (try rw [show emptyZ false [] [] = true from rfl]
          generalize constOK neg A B = K at *
          generalize emptyZ neg A B = Z at *
          repeat (first | rw [if_pos (by omega)] | rw [if_neg (by omega)])
          try rw [Bool.eq_iff_iff]
          first | done | (cases K <;> cases Z <;> simp_all <;> omega))
    ·
     have f9 := h9
     try simp only [bl] at f9
     refine c_skip (blk_n (then_c (c_seq (c_region ?_))))
     refine o_fieldAddr (T := 3) (off := 3) trivial rfl Tryz.underlying35 rfl rfl rfl Tryz.sizeOf3 rfl rfl ?_
     refine o_load1 trivial rfl Tryz.isAgg3 rfl (by repeat constructor) (by repeat constructor) ?_
     refine o_pv trivial rfl rfl ?_
     refine o_nil (then_c ?_)
     refine c_cond rfl (fun h10 => ?_) (fun h10 => ?_)
     ·
      have f10 := h10
      try simp only [bl] at f10
      refine c_seq (c_region ?_)
      refine o_pv trivial rfl rfl ?_
      refine o_nil (then_c (c_ret (blk_r (then_r (blk_r (then_r ?_))))))
      refine ret1 rfl rfl ?_
      refine leaf0 (congrArg Value.bool ?_)
      unfold fieldsOK
      dsimp only
      first
        | (exfalso; omega)
        | (try rw [show emptyZ false [] [] = true from rfl]
           generalize constOK neg A B = K at *
           generalize emptyZ neg A B = Z at *
           repeat (first | rw [if_pos (by omega)] | rw [if_neg (by omega)])
           try rw [Bool.eq_iff_iff]
           first | done | (cases K <;> cases Z <;> simp_all <;> omega))
     ·
      have f10 := h10
      try simp only [bl] at f10
      refine c_skip (blk_n (then_c (c_seq (c_seq (c_region ?_)))))
      refine o_fieldAddr (T := 33) (off := 4) trivial rfl Tryz.underlying35 rfl rfl rfl Tryz.sizeOf33 rfl rfl ?_
      refine o_loadA trivial rfl Tryz.isAgg33 Tryz.sizeOf33 rfl (by repeat constructor) (by repeat constructor) ?_
      first | (have h88 := h8; refine o_callQ trivial rfl Tryz.call101 rfl (empty_any false (.slice none 0 0) (.slice none 0 0) [] [] (Ws.nil _) (Ws.nil _)) ?_) | refine o_callQ trivial rfl Tryz.call101 rfl (empty_any neg va vb A B ha hb) ?_
      refine' o_and trivial trivial rfl rfl rfl rfl rfl rfl rfl rfl (fun hb36 => ?_) ?_
      rotate_left
      ·
       have fb36 := hb36
       try simp only [bl] at fb36
       refine o_fieldAddr (T := 3) (off := 3) (wants_some rfl rfl hb36) rfl Tryz.underlying35 rfl rfl rfl Tryz.sizeOf3 rfl rfl ?_
       refine o_load1 (wants_some rfl rfl hb36) rfl Tryz.isAgg3 rfl (by repeat constructor) (by repeat constructor) ?_
       refine o_pv (wants_some rfl rfl hb36) rfl rfl ?_
       refine o_nil ?_
       exact joins rfl
      refine' o_and trivial trivial rfl rfl rfl rfl rfl rfl rfl rfl (fun hb41 => ?_) ?_
      rotate_left
      ·
       have fb41 := hb41
       try simp only [bl] at fb41
       refine o_fieldAddr (T := 3) (off := 3) (wants_some rfl rfl hb41) rfl Tryz.underlying35 rfl rfl rfl Tryz.sizeOf3 rfl rfl ?_
       refine o_load1 (wants_some rfl rfl hb41) rfl Tryz.isAgg3 rfl (by repeat constructor) (by repeat constructor) ?_
       refine o_pv (wants_some rfl rfl hb41) rfl rfl ?_
       refine o_nil ?_
       exact joins rfl
      refine' o_and trivial trivial rfl rfl rfl rfl rfl rfl rfl rfl (fun hb46 => ?_) ?_
      rotate_left
      ·
       have fb46 := hb46
       try simp only [bl] at fb46
       refine o_fieldAddr (T := 3) (off := 0) (wants_some rfl rfl hb46) rfl Tryz.underlying35 rfl rfl rfl Tryz.sizeOf3 rfl rfl ?_
       refine o_load1 (wants_some rfl rfl hb46) rfl Tryz.isAgg3 rfl (by repeat constructor) (by repeat constructor) ?_
       refine o_pv (wants_some rfl rfl hb46) rfl rfl ?_
       refine' o_or (wants_some rfl rfl hb46) (wants_some rfl rfl hb46) rfl rfl rfl rfl rfl rfl rfl rfl (fun hb50 => ?_) ?_
       rotate_left
       ·
        have fb50 := hb50
        try simp only [bl] at fb50
        refine o_fieldAddr (T := 3) (off := 2) (wants_some rfl rfl hb50) rfl Tryz.underlying35 rfl rfl rfl Tryz.sizeOf3 rfl rfl ?_
        refine o_load1 (wants_some rfl rfl hb50) rfl Tryz.isAgg3 rfl (by repeat constructor) (by repeat constructor) ?_
        refine o_pv (wants_some rfl rfl hb50) rfl rfl ?_
        refine o_nil ?_
        exact joins rfl
       refine o_nil ?_
       exact joins rfl
      refine o_pv trivial rfl rfl ?_
      refine o_nil (then_c (c_ret (then_r (blk_r (then_r ?_)))))
      refine ret1 rfl rfl ?_
      refine leaf0 (congrArg Value.bool ?_)
      unfold fieldsOK
      dsimp only
      first
        | (exfalso; omega)
        | (try rw [show emptyZ false [] [] = true from rfl]
           generalize constOK neg A B = K at *
           generalize emptyZ neg A B = Z at *
           repeat (first | rw [if_pos (by omega)] | rw [if_neg (by omega)])
           try rw [Bool.eq_iff_iff]
           first | done | (cases K <;> cases Z <;> simp_all <;> omega))
  ·
   have f1 := h1
   try simp only [bl] at f1
   refine c_skip (then_c (c_seq (c_seq (c_region ?_))))
   iterate 2 refine o_pv trivial rfl rfl ?_
   refine o_nil (then_c ?_)
   refine c_cond rfl (fun h2 => ?_) (fun h2 => ?_)
   ·
    have f2 := h2
    try simp only [bl] at f2
    refine c_exit (then_x (then_x (blk_ne rfl (then_x (blk_eq rfl (then_c (c_seq (c_region ?_))))))))
    refine o_fieldAddr (T := 3) (off := 2) trivial rfl Tryz.underlying35 rfl rfl rfl Tryz.sizeOf3 rfl rfl ?_
    refine o_load1 trivial rfl Tryz.isAgg3 rfl (by repeat constructor) (by repeat constructor) ?_
    refine o_pv trivial rfl rfl ?_
    refine o_nil (then_c ?_)
    refine c_cond rfl (fun h9 => ?_) (fun h9 => ?_)
    ·
     have f9 := h9
     try simp only [bl] at f9
     refine c_seq (c_region ?_)
     refine o_pv trivial rfl rfl ?_
     refine o_nil (then_c (c_ret (blk_r (then_r (blk_r (then_r (blk_r (then_r ?_))))))))
     refine ret1 rfl rfl ?_
     refine leaf0 (congrArg Value.bool ?_)
     unfold fieldsOK
     dsimp only
     first
       | (exfalso; omega)
       | (try rw [show emptyZ false [] [] = true from rfl]
          generalize constOK neg A B = K at *
          generalize emptyZ neg A B = Z at *
          repeat (first | rw [if_pos (by omega)] | rw [if_neg (by omega)])
          try rw [Bool.eq_iff_iff]
          first | done | (cases K <;> cases Z <;> simp_all <;> omega))
    ·
     have f9 := h9
     try simp only [bl] at f9
     refine c_skip (blk_n (then_c (c_seq (c_region ?_))))
     refine o_fieldAddr (T := 3) (off := 3) trivial rfl Tryz.underlying35 rfl rfl rfl Tryz.sizeOf3 rfl rfl ?_
     refine o_load1 trivial rfl Tryz.isAgg3 rfl (by repeat constructor) (by repeat constructor) ?_
     refine o_pv trivial rfl rfl ?_
     refine o_nil (then_c ?_)
     refine c_cond rfl (fun h10 => ?_) (fun h10 => ?_)
     ·
      have f10 := h10
      try simp only [bl] at f10
      refine c_seq (c_region ?_)
      refine o_pv trivial rfl rfl ?_
      refine o_nil (then_c (c_ret (blk_r (then_r (blk_r (then_r ?_))))))
      refine ret1 rfl rfl ?_
      refine leaf0 (congrArg Value.bool ?_)
      unfold fieldsOK
      dsimp only
      first
        | (exfalso; omega)
        | (try rw [show emptyZ false [] [] = true from rfl]
           generalize constOK neg A B = K at *
           generalize emptyZ neg A B = Z at *
           repeat (first | rw [if_pos (by omega)] | rw [if_neg (by omega)])
           try rw [Bool.eq_iff_iff]
           first | done | (cases K <;> cases Z <;> simp_all <;> omega))
     ·
      have f10 := h10
      try simp only [bl] at f10
      refine c_skip (blk_n (then_c (c_seq (c_seq (c_region ?_)))))
      refine o_fieldAddr (T := 33) (off := 4) trivial rfl Tryz.underlying35 rfl rfl rfl Tryz.sizeOf33 rfl rfl ?_
      refine o_loadA trivial rfl Tryz.isAgg33 Tryz.sizeOf33 rfl (by repeat constructor) (by repeat constructor) ?_
      first | (have h88 := h8; refine o_callQ trivial rfl Tryz.call101 rfl (empty_any false (.slice none 0 0) (.slice none 0 0) [] [] (Ws.nil _) (Ws.nil _)) ?_) | refine o_callQ trivial rfl Tryz.call101 rfl (empty_any neg va vb A B ha hb) ?_
      refine' o_and trivial trivial rfl rfl rfl rfl rfl rfl rfl rfl (fun hb36 => ?_) ?_
      rotate_left
      ·
       have fb36 := hb36
       try simp only [bl] at fb36
       refine o_fieldAddr (T := 3) (off := 3) (wants_some rfl rfl hb36) rfl Tryz.underlying35 rfl rfl rfl Tryz.sizeOf3 rfl rfl ?_
       refine o_load1 (wants_some rfl rfl hb36) rfl Tryz.isAgg3 rfl (by repeat constructor) (by repeat constructor) ?_
       refine o_pv (wants_some rfl rfl hb36) rfl rfl ?_
       refine o_nil ?_
       exact joins rfl
      refine' o_and trivial trivial rfl rfl rfl rfl rfl rfl rfl rfl (fun hb41 => ?_) ?_
      rotate_left
      ·
       have fb41 := hb41
       try simp only [bl] at fb41
       refine o_fieldAddr (T := 3) (off := 3) (wants_some rfl rfl hb41) rfl Tryz.underlying35 rfl rfl rfl Tryz.sizeOf3 rfl rfl ?_
       refine o_load1 (wants_some rfl rfl hb41) rfl Tryz.isAgg3 rfl (by repeat constructor) (by repeat constructor) ?_
       refine o_pv (wants_some rfl rfl hb41) rfl rfl ?_
       refine o_nil ?_
       exact joins rfl
      refine' o_and trivial trivial rfl rfl rfl rfl rfl rfl rfl rfl (fun hb46 => ?_) ?_
      rotate_left
      ·
       have fb46 := hb46
       try simp only [bl] at fb46
       refine o_fieldAddr (T := 3) (off := 0) (wants_some rfl rfl hb46) rfl Tryz.underlying35 rfl rfl rfl Tryz.sizeOf3 rfl rfl ?_
       refine o_load1 (wants_some rfl rfl hb46) rfl Tryz.isAgg3 rfl (by repeat constructor) (by repeat constructor) ?_
       refine o_pv (wants_some rfl rfl hb46) rfl rfl ?_
       refine' o_or (wants_some rfl rfl hb46) (wants_some rfl rfl hb46) rfl rfl rfl rfl rfl rfl rfl rfl (fun hb50 => ?_) ?_
       rotate_left
       ·
        have fb50 := hb50
        try simp only [bl] at fb50
        refine o_fieldAddr (T := 3) (off := 2) (wants_some rfl rfl hb50) rfl Tryz.underlying35 rfl rfl rfl Tryz.sizeOf3 rfl rfl ?_
        refine o_load1 (wants_some rfl rfl hb50) rfl Tryz.isAgg3 rfl (by repeat constructor) (by repeat constructor) ?_
        refine o_pv (wants_some rfl rfl hb50) rfl rfl ?_
        refine o_nil ?_
        exact joins rfl
       refine o_nil ?_
       exact joins rfl
      refine o_pv trivial rfl rfl ?_
      refine o_nil (then_c (c_ret (then_r (blk_r (then_r ?_)))))
      refine ret1 rfl rfl ?_
      refine leaf0 (congrArg Value.bool ?_)
      unfold fieldsOK
      dsimp only
      first
        | (exfalso; omega)
        | (try rw [show emptyZ false [] [] = true from rfl]
           generalize constOK neg A B = K at *
           generalize emptyZ neg A B = Z at *
           repeat (first | rw [if_pos (by omega)] | rw [if_neg (by omega)])
           try rw [Bool.eq_iff_iff]
           first | done | (cases K <;> cases Z <;> simp_all <;> omega))
   ·
    have f2 := h2
    try simp only [bl] at f2
    refine c_skip (then_c (c_seq (c_seq (c_seq (c_region ?_)))))
    iterate 2 refine o_pv trivial rfl rfl ?_
    refine o_nil (then_c ?_)
    refine c_cond rfl (fun h3 => ?_) (fun h3 => ?_)
    ·
     have f3 := h3
     try simp only [bl] at f3
     refine c_skip (then_c ?_)
     refine c_cond rfl (fun h6 => ?_) (fun h6 => ?_)
     ·
      have f6 := h6
      try simp only [bl] at f6
      refine c_exit (then_x (then_x (blk_ne rfl (then_x (blk_ne rfl (then_x (blk_eq rfl (then_c (c_seq (c_region ?_))))))))))
      refine o_fieldAddr (T := 3) (off := 3) trivial rfl Tryz.underlying35 rfl rfl rfl Tryz.sizeOf3 rfl rfl ?_
      refine o_load1 trivial rfl Tryz.isAgg3 rfl (by repeat constructor) (by repeat constructor) ?_
      refine o_pv trivial rfl rfl ?_
      refine o_nil (then_c ?_)
      refine c_cond rfl (fun h10 => ?_) (fun h10 => ?_)
      ·
       have f10 := h10
       try simp only [bl] at f10
       refine c_seq (c_region ?_)
       refine o_pv trivial rfl rfl ?_
       refine o_nil (then_c (c_ret (blk_r (then_r (blk_r (then_r ?_))))))
       refine ret1 rfl rfl ?_
       refine leaf0 (congrArg Value.bool ?_)
       unfold fieldsOK
       dsimp only
       first
         | (exfalso; omega)
         | (try rw [show emptyZ false [] [] = true from rfl]
            generalize constOK neg A B = K at *
            generalize emptyZ neg A B = Z at *
            repeat (first | rw [if_pos (by omega)] | rw [if_neg (by omega)])
            try rw [Bool.eq_iff_iff]
            first | done | (cases K <;> cases Z <;> simp_all <;> omega))
      ·
       have f10 := h10
       try simp only [bl] at f10
       refine c_skip (blk_n (then_c (c_seq (c_seq (c_region ?_)))))
       refine o_fieldAddr (T := 33) (off := 4) trivial rfl Tryz.underlying35 rfl rfl rfl Tryz.sizeOf33 rfl rfl ?_
       refine o_loadA trivial rfl Tryz.isAgg33 Tryz.sizeOf33 rfl (by repeat constructor) (by repeat constructor) ?_
       first | (have h88 := h8; refine o_callQ trivial rfl Tryz.call101 rfl (empty_any false (.slice none 0 0) (.slice none 0 0) [] [] (Ws.nil _) (Ws.nil _)) ?_) | refine o_callQ trivial rfl Tryz.call101 rfl (empty_any neg va vb A B ha hb) ?_
       refine' o_and trivial trivial rfl rfl rfl rfl rfl rfl rfl rfl (fun hb36 => ?_) ?_
       rotate_left
       ·
        have fb36 := hb36
        try simp only [bl] at fb36
        refine o_fieldAddr (T := 3) (off := 3) (wants_some rfl rfl hb36) rfl Tryz.underlying35 rfl rfl rfl Tryz.sizeOf3 rfl rfl ?_
        refine o_load1 (wants_some rfl rfl hb36) rfl Tryz.isAgg3 rfl (by repeat constructor) (by repeat constructor) ?_
        refine o_pv (wants_some rfl rfl hb36) rfl rfl ?_
        refine o_nil ?_
        exact joins rfl
       refine' o_and trivial trivial rfl rfl rfl rfl rfl rfl rfl rfl (fun hb41 => ?_) ?_
       rotate_left
       ·
        have fb41 := hb41
        try simp only [bl] at fb41
        refine o_fieldAddr (T := 3) (off := 3) (wants_some rfl rfl hb41) rfl Tryz.underlying35 rfl rfl rfl Tryz.sizeOf3 rfl rfl ?_
        refine o_load1 (wants_some rfl rfl hb41) rfl Tryz.isAgg3 rfl (by repeat constructor) (by repeat constructor) ?_
        refine o_pv (wants_some rfl rfl hb41) rfl rfl ?_
        refine o_nil ?_
        exact joins rfl
       refine' o_and trivial trivial rfl rfl rfl rfl rfl rfl rfl rfl (fun hb46 => ?_) ?_
       rotate_left
       ·
        have fb46 := hb46
        try simp only [bl] at fb46
        refine o_fieldAddr (T := 3) (off := 0) (wants_some rfl rfl hb46) rfl Tryz.underlying35 rfl rfl rfl Tryz.sizeOf3 rfl rfl ?_
        refine o_load1 (wants_some rfl rfl hb46) rfl Tryz.isAgg3 rfl (by repeat constructor) (by repeat constructor) ?_
        refine o_pv (wants_some rfl rfl hb46) rfl rfl ?_
        refine' o_or (wants_some rfl rfl hb46) (wants_some rfl rfl hb46) rfl rfl rfl rfl rfl rfl rfl rfl (fun hb50 => ?_) ?_
        rotate_left
        ·
         have fb50 := hb50
         try simp only [bl] at fb50
         refine o_fieldAddr (T := 3) (off := 2) (wants_some rfl rfl hb50) rfl Tryz.underlying35 rfl rfl rfl Tryz.sizeOf3 rfl rfl ?_
         refine o_load1 (wants_some rfl rfl hb50) rfl Tryz.isAgg3 rfl (by repeat constructor) (by repeat constructor) ?_
         refine o_pv (wants_some rfl rfl hb50) rfl rfl ?_
         refine o_nil ?_
         exact joins rfl
        refine o_nil ?_
        exact joins rfl
       refine o_pv trivial rfl rfl ?_
       refine o_nil (then_c (c_ret (then_r (blk_r (then_r ?_)))))
       refine ret1 rfl rfl ?_
       refine leaf0 (congrArg Value.bool ?_)
       unfold fieldsOK
       dsimp only
       first
         | (exfalso; omega)
         | (try rw [show emptyZ false [] [] = true from rfl]
            generalize constOK neg A B = K at *
            generalize emptyZ neg A B = Z at *
            repeat (first | rw [if_pos (by omega)] | rw [if_neg (by omega)])
            try rw [Bool.eq_iff_iff]
            first | done | (cases K <;> cases Z <;> simp_all <;> omega))
     ·
      have f6 := h6
      try simp only [bl] at f6
      refine c_skip (then_c (c_seq (c_region ?_)))
      iterate 2 refine o_pv trivial rfl rfl ?_
      refine o_nil (then_c ?_)
      refine c_cond rfl (fun h7 => ?_) (fun h7 => ?_)
      ·
       have f7 := h7
       try simp only [bl] at f7
       refine c_exit (then_x (blk_ne rfl (then_x (blk_ne rfl (then_x (blk_ne rfl (then_x (blk_eq rfl (then_c (c_seq (c_seq (c_region ?_))))))))))))
       refine o_fieldAddr (T := 33) (off := 4) trivial rfl Tryz.underlying35 rfl rfl rfl Tryz.sizeOf33 rfl rfl ?_
       refine o_loadA trivial rfl Tryz.isAgg33 Tryz.sizeOf33 rfl (by repeat constructor) (by repeat constructor) ?_
       first | (have h88 := h8; refine o_callQ trivial rfl Tryz.call101 rfl (empty_any false (.slice none 0 0) (.slice none 0 0) [] [] (Ws.nil _) (Ws.nil _)) ?_) | refine o_callQ trivial rfl Tryz.call101 rfl (empty_any neg va vb A B ha hb) ?_
       refine' o_and trivial trivial rfl rfl rfl rfl rfl rfl rfl rfl (fun hb36 => ?_) ?_
       rotate_left
       ·
        have fb36 := hb36
        try simp only [bl] at fb36
        refine o_fieldAddr (T := 3) (off := 3) (wants_some rfl rfl hb36) rfl Tryz.underlying35 rfl rfl rfl Tryz.sizeOf3 rfl rfl ?_
        refine o_load1 (wants_some rfl rfl hb36) rfl Tryz.isAgg3 rfl (by repeat constructor) (by repeat constructor) ?_
        refine o_pv (wants_some rfl rfl hb36) rfl rfl ?_
        refine o_nil ?_
        exact joins rfl
       refine' o_and trivial trivial rfl rfl rfl rfl rfl rfl rfl rfl (fun hb41 => ?_) ?_
       rotate_left
       ·
        have fb41 := hb41
        try simp only [bl] at fb41
        refine o_fieldAddr (T := 3) (off := 3) (wants_some rfl rfl hb41) rfl Tryz.underlying35 rfl rfl rfl Tryz.sizeOf3 rfl rfl ?_
        refine o_load1 (wants_some rfl rfl hb41) rfl Tryz.isAgg3 rfl (by repeat constructor) (by repeat constructor) ?_
        refine o_pv (wants_some rfl rfl hb41) rfl rfl ?_
        refine o_nil ?_
        exact joins rfl
       refine' o_and trivial trivial rfl rfl rfl rfl rfl rfl rfl rfl (fun hb46 => ?_) ?_
       rotate_left
       ·
        have fb46 := hb46
        try simp only [bl] at fb46
        refine o_fieldAddr (T := 3) (off := 0) (wants_some rfl rfl hb46) rfl Tryz.underlying35 rfl rfl rfl Tryz.sizeOf3 rfl rfl ?_
        refine o_load1 (wants_some rfl rfl hb46) rfl Tryz.isAgg3 rfl (by repeat constructor) (by repeat constructor) ?_
        refine o_pv (wants_some rfl rfl hb46) rfl rfl ?_
        refine' o_or (wants_some rfl rfl hb46) (wants_some rfl rfl hb46) rfl rfl rfl rfl rfl rfl rfl rfl (fun hb50 => ?_) ?_
        rotate_left
        ·
         have fb50 := hb50
         try simp only [bl] at fb50
         refine o_fieldAddr (T := 3) (off := 2) (wants_some rfl rfl hb50) rfl Tryz.underlying35 rfl rfl rfl Tryz.sizeOf3 rfl rfl ?_
         refine o_load1 (wants_some rfl rfl hb50) rfl Tryz.isAgg3 rfl (by repeat constructor) (by repeat constructor) ?_
         refine o_pv (wants_some rfl rfl hb50) rfl rfl ?_
         refine o_nil ?_
         exact joins rfl
        refine o_nil ?_
        exact joins rfl
       refine o_pv trivial rfl rfl ?_
       refine o_nil (then_c (c_ret (then_r (blk_r (then_r ?_)))))
       refine ret1 rfl rfl ?_
       refine leaf0 (congrArg Value.bool ?_)
       unfold fieldsOK
       dsimp only
       first
         | (exfalso; omega)
         | (try rw [show emptyZ false [] [] = true from rfl]
            generalize constOK neg A B = K at *
            generalize emptyZ neg A B = Z at *
            repeat (first | rw [if_pos (by omega)] | rw [if_neg (by omega)])
            try rw [Bool.eq_iff_iff]
            first | done | (cases K <;> cases Z <;> simp_all <;> omega))
      ·
       have f7 := h7
       try simp only [bl] at f7
       refine c_skip (then_c (c_exit (blk_ne rfl (then_x (blk_ne rfl (then_x (blk_ne rfl (then_x (blk_ne rfl (then_x (blk_eq rfl (then_c (c_seq (c_region ?_))))))))))))))
       refine o_pv trivial rfl rfl ?_
       refine o_nil (then_c (c_ret ?_))
       refine ret1 rfl rfl ?_
       refine leaf0 (congrArg Value.bool ?_)
       unfold fieldsOK
       dsimp only
       first
         | (exfalso; omega)
         | (try rw [show emptyZ false [] [] = true from rfl]
            generalize constOK neg A B = K at *
            generalize emptyZ neg A B = Z at *
            repeat (first | rw [if_pos (by omega)] | rw [if_neg (by omega)])
            try rw [Bool.eq_iff_iff]
            first | done | (cases K <;> cases Z <;> simp_all <;> omega))
    ·
     have f3 := h3
     try simp only [bl] at f3
     refine c_seq (c_region ?_)
     iterate 2 refine o_pv trivial rfl rfl ?_
     refine o_nil (then_c ?_)
     refine c_cond rfl (fun h4 => ?_) (fun h4 => ?_)
     ·
      have f4 := h4
      try simp only [bl] at f4
      refine c_skip (then_c ?_)
      refine c_cond rfl (fun h6 => ?_) (fun h6 => ?_)
      ·
       have f6 := h6
       try simp only [bl] at f6
       refine c_exit (then_x (then_x (blk_ne rfl (then_x (blk_ne rfl (then_x (blk_eq rfl (then_c (c_seq (c_region ?_))))))))))
       refine o_fieldAddr (T := 3) (off := 3) trivial rfl Tryz.underlying35 rfl rfl rfl Tryz.sizeOf3 rfl rfl ?_
       refine o_load1 trivial rfl Tryz.isAgg3 rfl (by repeat constructor) (by repeat constructor) ?_
       refine o_pv trivial rfl rfl ?_
       refine o_nil (then_c ?_)
       refine c_cond rfl (fun h10 => ?_) (fun h10 => ?_)
       ·
        have f10 := h10
        try simp only [bl] at f10
        refine c_seq (c_region ?_)
        refine o_pv trivial rfl rfl ?_
        refine o_nil (then_c (c_ret (blk_r (then_r (blk_r (then_r ?_))))))
        refine ret1 rfl rfl ?_
        refine leaf0 (congrArg Value.bool ?_)
        unfold fieldsOK
        dsimp only
        first
          | (exfalso; omega)
          | (try rw [show emptyZ false [] [] = true from rfl]
             generalize constOK neg A B = K at *
             generalize emptyZ neg A B = Z at *
             repeat (first | rw [if_pos (by omega)] | rw [if_neg (by omega)])
             try rw [Bool.eq_iff_iff]
             first | done | (cases K <;> cases Z <;> simp_all <;> omega))
       ·
        have f10 := h10
        try simp only [bl] at f10
        refine c_skip (blk_n (then_c (c_seq (c_seq (c_region ?_)))))
        refine o_fieldAddr (T := 33) (off := 4) trivial rfl Tryz.underlying35 rfl rfl rfl Tryz.sizeOf33 rfl rfl ?_
        refine o_loadA trivial rfl Tryz.isAgg33 Tryz.sizeOf33 rfl (by repeat constructor) (by repeat constructor) ?_
        first | (have h88 := h8; refine o_callQ trivial rfl Tryz.call101 rfl (empty_any false (.slice none 0 0) (.slice none 0 0) [] [] (Ws.nil _) (Ws.nil _)) ?_) | refine o_callQ trivial rfl Tryz.call101 rfl (empty_any neg va vb A B ha hb) ?_
        refine' o_and trivial trivial rfl rfl rfl rfl rfl rfl rfl rfl (fun hb36 => ?_) ?_
        rotate_left
        ·
         have fb36 := hb36
         try simp only [bl] at fb36
         refine o_fieldAddr (T := 3) (off := 3) (wants_some rfl rfl hb36) rfl Tryz.underlying35 rfl rfl rfl Tryz.sizeOf3 rfl rfl ?_
         refine o_load1 (wants_some rfl rfl hb36) rfl Tryz.isAgg3 rfl (by repeat constructor) (by repeat constructor) ?_
         refine o_pv (wants_some rfl rfl hb36) rfl rfl ?_
         refine o_nil ?_
         exact joins rfl
        refine' o_and trivial trivial rfl rfl rfl rfl rfl rfl rfl rfl (fun hb41 => ?_) ?_
        rotate_left
        ·
         have fb41 := hb41
         try simp only [bl] at fb41
         refine o_fieldAddr (T := 3) (off := 3) (wants_some rfl rfl hb41) rfl Tryz.underlying35 rfl rfl rfl Tryz.sizeOf3 rfl rfl ?_
         refine o_load1 (wants_some rfl rfl hb41) rfl Tryz.isAgg3 rfl (by repeat constructor) (by repeat constructor) ?_
         refine o_pv (wants_some rfl rfl hb41) rfl rfl ?_
         refine o_nil ?_
         exact joins rfl
        refine' o_and trivial trivial rfl rfl rfl rfl rfl rfl rfl rfl (fun hb46 => ?_) ?_
        rotate_left
        ·
         have fb46 := hb46
         try simp only [bl] at fb46
         refine o_fieldAddr (T := 3) (off := 0) (wants_some rfl rfl hb46) rfl Tryz.underlying35 rfl rfl rfl Tryz.sizeOf3 rfl rfl ?_
         refine o_load1 (wants_some rfl rfl hb46) rfl Tryz.isAgg3 rfl (by repeat constructor) (by repeat constructor) ?_
         refine o_pv (wants_some rfl rfl hb46) rfl rfl ?_
         refine' o_or (wants_some rfl rfl hb46) (wants_some rfl rfl hb46) rfl rfl rfl rfl rfl rfl rfl rfl (fun hb50 => ?_) ?_
         rotate_left
         ·
          have fb50 := hb50
          try simp only [bl] at fb50
          refine o_fieldAddr (T := 3) (off := 2) (wants_some rfl rfl hb50) rfl Tryz.underlying35 rfl rfl rfl Tryz.sizeOf3 rfl rfl ?_
          refine o_load1 (wants_some rfl rfl hb50) rfl Tryz.isAgg3 rfl (by repeat constructor) (by repeat constructor) ?_
          refine o_pv (wants_some rfl rfl hb50) rfl rfl ?_
          refine o_nil ?_
          exact joins rfl
         refine o_nil ?_
         exact joins rfl
        refine o_pv trivial rfl rfl ?_
        refine o_nil (then_c (c_ret (then_r (blk_r (then_r ?_)))))
        refine ret1 rfl rfl ?_
        refine leaf0 (congrArg Value.bool ?_)
        unfold fieldsOK
        dsimp only
        first
          | (exfalso; omega)
          | (try rw [show emptyZ false [] [] = true from rfl]
             generalize constOK neg A B = K at *
             generalize emptyZ neg A B = Z at *
             repeat (first | rw [if_pos (by omega)] | rw [if_neg (by omega)])
             try rw [Bool.eq_iff_iff]
             first | done | (cases K <;> cases Z <;> simp_all <;> omega))
      ·
       have f6 := h6
       try simp only [bl] at f6
       refine c_skip (then_c (c_seq (c_region ?_)))
       iterate 2 refine o_pv trivial rfl rfl ?_
       refine o_nil (then_c ?_)
       refine c_cond rfl (fun h7 => ?_) (fun h7 => ?_)
       ·
        have f7 := h7
        try simp only [bl] at f7
        refine c_exit (then_x (blk_ne rfl (then_x (blk_ne rfl (then_x (blk_ne rfl (then_x (blk_eq rfl (then_c (c_seq (c_seq (c_region ?_))))))))))))
        refine o_fieldAddr (T := 33) (off := 4) trivial rfl Tryz.underlying35 rfl rfl rfl Tryz.sizeOf33 rfl rfl ?_
        refine o_loadA trivial rfl Tryz.isAgg33 Tryz.sizeOf33 rfl (by repeat constructor) (by repeat constructor) ?_
        first | (have h88 := h8; refine o_callQ trivial rfl Tryz.call101 rfl (empty_any false (.slice none 0 0) (.slice none 0 0) [] [] (Ws.nil _) (Ws.nil _)) ?_) | refine o_callQ trivial rfl Tryz.call101 rfl (empty_any neg va vb A B ha hb) ?_
        refine' o_and trivial trivial rfl rfl rfl rfl rfl rfl rfl rfl (fun hb36 => ?_) ?_
        rotate_left
        ·
         have fb36 := hb36
         try simp only [bl] at fb36
         refine o_fieldAddr (T := 3) (off := 3) (wants_some rfl rfl hb36) rfl Tryz.underlying35 rfl rfl rfl Tryz.sizeOf3 rfl rfl ?_
         refine o_load1 (wants_some rfl rfl hb36) rfl Tryz.isAgg3 rfl (by repeat constructor) (by repeat constructor) ?_
         refine o_pv (wants_some rfl rfl hb36) rfl rfl ?_
         refine o_nil ?_
         exact joins rfl
        refine' o_and trivial trivial rfl rfl rfl rfl rfl rfl rfl rfl (fun hb41 => ?_) ?_
        rotate_left
        ·
         have fb41 := hb41
         try simp only [bl] at fb41
         refine o_fieldAddr (T := 3) (off := 3) (wants_some rfl rfl hb41) rfl Tryz.underlying35 rfl rfl rfl Tryz.sizeOf3 rfl rfl ?_
         refine o_load1 (wants_some rfl rfl hb41) rfl Tryz.isAgg3 rfl (by repeat constructor) (by repeat constructor) ?_
         refine o_pv (wants_some rfl rfl hb41) rfl rfl ?_
         refine o_nil ?_
         exact joins rfl
        refine' o_and trivial trivial rfl rfl rfl rfl rfl rfl rfl rfl (fun hb46 => ?_) ?_
        rotate_left
        ·
         have fb46 := hb46
         try simp only [bl] at fb46
         refine o_fieldAddr (T := 3) (off := 0) (wants_some rfl rfl hb46) rfl Tryz.underlying35 rfl rfl rfl Tryz.sizeOf3 rfl rfl ?_
         refine o_load1 (wants_some rfl rfl hb46) rfl Tryz.isAgg3 rfl (by repeat constructor) (by repeat constructor) ?_
         refine o_pv (wants_some rfl rfl hb46) rfl rfl ?_
         refine' o_or (wants_some rfl rfl hb46) (wants_some rfl rfl hb46) rfl rfl rfl rfl rfl rfl rfl rfl (fun hb50 => ?_) ?_
         rotate_left
         ·
          have fb50 := hb50
          try simp only [bl] at fb50
          refine o_fieldAddr (T := 3) (off := 2) (wants_some rfl rfl hb50) rfl Tryz.underlying35 rfl rfl rfl Tryz.sizeOf3 rfl rfl ?_
          refine o_load1 (wants_some rfl rfl hb50) rfl Tryz.isAgg3 rfl (by repeat constructor) (by repeat constructor) ?_
          refine o_pv (wants_some rfl rfl hb50) rfl rfl ?_
          refine o_nil ?_
          exact joins rfl
         refine o_nil ?_
         exact joins rfl
        refine o_pv trivial rfl rfl ?_
        refine o_nil (then_c (c_ret (then_r (blk_r (then_r ?_)))))
        refine ret1 rfl rfl ?_
        refine leaf0 (congrArg Value.bool ?_)
        unfold fieldsOK
        dsimp only
        first
          | (exfalso; omega)
          | (try rw [show emptyZ false [] [] = true from rfl]
             generalize constOK neg A B = K at *
             generalize emptyZ neg A B = Z at *
             repeat (first | rw [if_pos (by omega)] | rw [if_neg (by omega)])
             try rw [Bool.eq_iff_iff]
             first | done | (cases K <;> cases Z <;> simp_all <;> omega))
       ·
        have f7 := h7
        try simp only [bl] at f7
        refine c_skip (then_c (c_exit (blk_ne rfl (then_x (blk_ne rfl (then_x (blk_ne rfl (then_x (blk_ne rfl (then_x (blk_eq rfl (then_c (c_seq (c_region ?_))))))))))))))
        refine o_pv trivial rfl rfl ?_
        refine o_nil (then_c (c_ret ?_))
        refine ret1 rfl rfl ?_
        refine leaf0 (congrArg Value.bool ?_)
        unfold fieldsOK
        dsimp only
        first
          | (exfalso; omega)
          | (try rw [show emptyZ false [] [] = true from rfl]
             generalize constOK neg A B = K at *
             generalize emptyZ neg A B = Z at *
             repeat (first | rw [if_pos (by omega)] | rw [if_neg (by omega)])
             try rw [Bool.eq_iff_iff]
             first | done | (cases K <;> cases Z <;> simp_all <;> omega))
     ·
      have f4 := h4
      try simp only [bl] at f4
      refine c_seq (c_region ?_)
      iterate 2 refine o_pv trivial rfl rfl ?_
      refine o_nil (then_c ?_)
      refine c_cond rfl (fun h5 => ?_) (fun h5 => ?_)
      ·
       have f5 := h5
       try simp only [bl] at f5
       refine c_skip (then_c ?_)
       refine c_cond rfl (fun h6 => ?_) (fun h6 => ?_)
       ·
        have f6 := h6
        try simp only [bl] at f6
        refine c_exit (then_x (then_x (blk_ne rfl (then_x (blk_ne rfl (then_x (blk_eq rfl (then_c (c_seq (c_region ?_))))))))))
        refine o_fieldAddr (T := 3) (off := 3) trivial rfl Tryz.underlying35 rfl rfl rfl Tryz.sizeOf3 rfl rfl ?_
        refine o_load1 trivial rfl Tryz.isAgg3 rfl (by repeat constructor) (by repeat constructor) ?_
        refine o_pv trivial rfl rfl ?_
        refine o_nil (then_c ?_)
        refine c_cond rfl (fun h10 => ?_) (fun h10 => ?_)
        ·
         have f10 := h10
         try simp only [bl] at f10
         refine c_seq (c_region ?_)
         refine o_pv trivial rfl rfl ?_
         refine o_nil (then_c (c_ret (blk_r (then_r (blk_r (then_r ?_))))))
         refine ret1 rfl rfl ?_
         refine leaf0 (congrArg Value.bool ?_)
         unfold fieldsOK
         dsimp only
         first
           | (exfalso; omega)
           | (try rw [show emptyZ false [] [] = true from rfl]
              generalize constOK neg A B = K at *
              generalize emptyZ neg A B = Z at *
              repeat (first | rw [if_pos (by omega)] | rw [if_neg (by omega)])
              try rw [Bool.eq_iff_iff]
              first | done | (cases K <;> cases Z <;> simp_all <;> omega))
        ·
         have f10 := h10
         try simp only [bl] at f10
         refine c_skip (blk_n (then_c (c_seq (c_seq (c_region ?_)))))
         refine o_fieldAddr (T := 33) (off := 4) trivial rfl Tryz.underlying35 rfl rfl rfl Tryz.sizeOf33 rfl rfl ?_
         refine o_loadA trivial rfl Tryz.isAgg33 Tryz.sizeOf33 rfl (by repeat constructor) (by repeat constructor) ?_
         first | (have h88 := h8; refine o_callQ trivial rfl Tryz.call101 rfl (empty_any false (.slice none 0 0) (.slice none 0 0) [] [] (Ws.nil _) (Ws.nil _)) ?_) | refine o_callQ trivial rfl Tryz.call101 rfl (empty_any neg va vb A B ha hb) ?_
         refine' o_and trivial trivial rfl rfl rfl rfl rfl rfl rfl rfl (fun hb36 => ?_) ?_
         rotate_left
         ·
          have fb36 := hb36
          try simp only [bl] at fb36
          refine o_fieldAddr (T := 3) (off := 3) (wants_some rfl rfl hb36) rfl Tryz.underlying35 rfl rfl rfl Tryz.sizeOf3 rfl rfl ?_
          refine o_load1 (wants_some rfl rfl hb36) rfl Tryz.isAgg3 rfl (by repeat constructor) (by repeat constructor) ?_
          refine o_pv (wants_some rfl rfl hb36) rfl rfl ?_
          refine o_nil ?_
          exact joins rfl
         refine' o_and trivial trivial rfl rfl rfl rfl rfl rfl rfl rfl (fun hb41 => ?_) ?_
         rotate_left
         ·
          have fb41 := hb41
          try simp only [bl] at fb41
          refine o_fieldAddr (T := 3) (off := 3) (wants_some rfl rfl hb41) rfl Tryz.underlying35 rfl rfl rfl Tryz.sizeOf3 rfl rfl ?_
          refine o_load1 (wants_some rfl rfl hb41) rfl Tryz.isAgg3 rfl (by repeat constructor) (by repeat constructor) ?_
          refine o_pv (wants_some rfl rfl hb41) rfl rfl ?_
          refine o_nil ?_
          exact joins rfl
         refine' o_and trivial trivial rfl rfl rfl rfl rfl rfl rfl rfl (fun hb46 => ?_) ?_
         rotate_left
         ·
          have fb46 := hb46
          try simp only [bl] at fb46
          refine o_fieldAddr (T := 3) (off := 0) (wants_some rfl rfl hb46) rfl Tryz.underlying35 rfl rfl rfl Tryz.sizeOf3 rfl rfl ?_
          refine o_load1 (wants_some rfl rfl hb46) rfl Tryz.isAgg3 rfl (by repeat constructor) (by repeat constructor) ?_
          refine o_pv (wants_some rfl rfl hb46) rfl rfl ?_
          refine' o_or (wants_some rfl rfl hb46) (wants_some rfl rfl hb46) rfl rfl rfl rfl rfl rfl rfl rfl (fun hb50 => ?_) ?_
          rotate_left
          ·
           have fb50 := hb50
           try simp only [bl] at fb50
           refine o_fieldAddr (T := 3) (off := 2) (wants_some rfl rfl hb50) rfl Tryz.underlying35 rfl rfl rfl Tryz.sizeOf3 rfl rfl ?_
           refine o_load1 (wants_some rfl rfl hb50) rfl Tryz.isAgg3 rfl (by repeat constructor) (by repeat constructor) ?_
           refine o_pv (wants_some rfl rfl hb50) rfl rfl ?_
           refine o_nil ?_
           exact joins rfl
          refine o_nil ?_
          exact joins rfl
         refine o_pv trivial rfl rfl ?_
         refine o_nil (then_c (c_ret (then_r (blk_r (then_r ?_)))))
         refine ret1 rfl rfl ?_
         refine leaf0 (congrArg Value.bool ?_)
         unfold fieldsOK
         dsimp only
         first
           | (exfalso; omega)
           | (try rw [show emptyZ false [] [] = true from rfl]
              generalize constOK neg A B = K at *
              generalize emptyZ neg A B = Z at *
              repeat (first | rw [if_pos (by omega)] | rw [if_neg (by omega)])
              try rw [Bool.eq_iff_iff]
              first | done | (cases K <;> cases Z <;> simp_all <;> omega))
       ·
        have f6 := h6
        try simp only [bl] at f6
        refine c_skip (then_c (c_seq (c_region ?_)))
        iterate 2 refine o_pv trivial rfl rfl ?_
        refine o_nil (then_c ?_)
        refine c_cond rfl (fun h7 => ?_) (fun h7 => ?_)
        ·
         have f7 := h7
         try simp only [bl] at f7
         refine c_exit (then_x (blk_ne rfl (then_x (blk_ne rfl (then_x (blk_ne rfl (then_x (blk_eq rfl (then_c (c_seq (c_seq (c_region ?_))))))))))))
         refine o_fieldAddr (T := 33) (off := 4) trivial rfl Tryz.underlying35 rfl rfl rfl Tryz.sizeOf33 rfl rfl ?_
         refine o_loadA trivial rfl Tryz.isAgg33 Tryz.sizeOf33 rfl (by repeat constructor) (by repeat constructor) ?_
         first | (have h88 := h8; refine o_callQ trivial rfl Tryz.call101 rfl (empty_any false (.slice none 0 0) (.slice none 0 0) [] [] (Ws.nil _) (Ws.nil _)) ?_) | refine o_callQ trivial rfl Tryz.call101 rfl (empty_any neg va vb A B ha hb) ?_
         refine' o_and trivial trivial rfl rfl rfl rfl rfl rfl rfl rfl (fun hb36 => ?_) ?_
         rotate_left
         ·
          have fb36 := hb36
          try simp only [bl] at fb36
          refine o_fieldAddr (T := 3) (off := 3) (wants_some rfl rfl hb36) rfl Tryz.underlying35 rfl rfl rfl Tryz.sizeOf3 rfl rfl ?_
          refine o_load1 (wants_some rfl rfl hb36) rfl Tryz.isAgg3 rfl (by repeat constructor) (by repeat constructor) ?_
          refine o_pv (wants_some rfl rfl hb36) rfl rfl ?_
          refine o_nil ?_
          exact joins rfl
         refine' o_and trivial trivial rfl rfl rfl rfl rfl rfl rfl rfl (fun hb41 => ?_) ?_
         rotate_left
         ·
          have fb41 := hb41
          try simp only [bl] at fb41
          refine o_fieldAddr (T := 3) (off := 3) (wants_some rfl rfl hb41) rfl Tryz.underlying35 rfl rfl rfl Tryz.sizeOf3 rfl rfl ?_
          refine o_load1 (wants_some rfl rfl hb41) rfl Tryz.isAgg3 rfl (by repeat constructor) (by repeat constructor) ?_
          refine o_pv (wants_some rfl rfl hb41) rfl rfl ?_
          refine o_nil ?_
          exact joins rfl
         refine' o_and trivial trivial rfl rfl rfl rfl rfl rfl rfl rfl (fun hb46 => ?_) ?_
         rotate_left
         ·
          have fb46 := hb46
          try simp only [bl] at fb46
          refine o_fieldAddr (T := 3) (off := 0) (wants_some rfl rfl hb46) rfl Tryz.underlying35 rfl rfl rfl Tryz.sizeOf3 rfl rfl ?_
          refine o_load1 (wants_some rfl rfl hb46) rfl Tryz.isAgg3 rfl (by repeat constructor) (by repeat constructor) ?_
          refine o_pv (wants_some rfl rfl hb46) rfl rfl ?_
          refine' o_or (wants_some rfl rfl hb46) (wants_some rfl rfl hb46) rfl rfl rfl rfl rfl rfl rfl rfl (fun hb50 => ?_) ?_
          rotate_left
          ·
           have fb50 := hb50
           try simp only [bl] at fb50
           refine o_fieldAddr (T := 3) (off := 2) (wants_some rfl rfl hb50) rfl Tryz.underlying35 rfl rfl rfl Tryz.sizeOf3 rfl rfl ?_
           refine o_load1 (wants_some rfl rfl hb50) rfl Tryz.isAgg3 rfl (by repeat constructor) (by repeat constructor) ?_
           refine o_pv (wants_some rfl rfl hb50) rfl rfl ?_
           refine o_nil ?_
           exact joins rfl
          refine o_nil ?_
          exact joins rfl
         refine o_pv trivial rfl rfl ?_
         refine o_nil (then_c (c_ret (then_r (blk_r (then_r ?_)))))
         refine ret1 rfl rfl ?_
         refine leaf0 (congrArg Value.bool ?_)
         unfold fieldsOK
         dsimp only
         first
           | (exfalso; omega)
           | (try rw [show emptyZ false [] [] = true from rfl]
              generalize constOK neg A B = K at *
              generalize emptyZ neg A B = Z at *
              repeat (first | rw [if_pos (by omega)] | rw [if_neg (by omega)])
              try rw [Bool.eq_iff_iff]
              first | done | (cases K <;> cases Z <;> simp_all <;> omega))
        ·
         have f7 := h7
         try simp only [bl] at f7
         refine c_skip (then_c (c_exit (blk_ne rfl (then_x (blk_ne rfl (then_x (blk_ne rfl (then_x (blk_ne rfl (then_x (blk_eq rfl (then_c (c_seq (c_region ?_))))))))))))))
         refine o_pv trivial rfl rfl ?_
         refine o_nil (then_c (c_ret ?_))
         refine ret1 rfl rfl ?_
         refine leaf0 (congrArg Value.bool ?_)
         unfold fieldsOK
         dsimp only
         first
           | (exfalso; omega)
           | (try rw [show emptyZ false [] [] = true from rfl]
              generalize constOK neg A B = K at *
              generalize emptyZ neg A B = Z at *
              repeat (first | rw [if_pos (by omega)] | rw [if_neg (by omega)])
              try rw [Bool.eq_iff_iff]
              first | done | (cases K <;> cases Z <;> simp_all <;> omega))
      ·
       have f5 := h5
       try simp only [bl] at f5
       refine c_region ?_
       iterate 2 refine o_pv trivial rfl rfl ?_
       refine o_nil (then_c ?_)
       refine c_cond rfl (fun h6 => ?_) (fun h6 => ?_)
       ·
        have f6 := h6
        try simp only [bl] at f6
        refine c_exit (then_x (then_x (blk_ne rfl (then_x (blk_ne rfl (then_x (blk_eq rfl (then_c (c_seq (c_region ?_))))))))))
        refine o_fieldAddr (T := 3) (off := 3) trivial rfl Tryz.underlying35 rfl rfl rfl Tryz.sizeOf3 rfl rfl ?_
        refine o_load1 trivial rfl Tryz.isAgg3 rfl (by repeat constructor) (by repeat constructor) ?_
        refine o_pv trivial rfl rfl ?_
        refine o_nil (then_c ?_)
        refine c_cond rfl (fun h10 => ?_) (fun h10 => ?_)
        ·
         have f10 := h10
         try simp only [bl] at f10
         refine c_seq (c_region ?_)
         refine o_pv trivial rfl rfl ?_
         refine o_nil (then_c (c_ret (blk_r (then_r (blk_r (then_r ?_))))))
         refine ret1 rfl rfl ?_
         refine leaf0 (congrArg Value.bool ?_)
         unfold fieldsOK
         dsimp only
         first
           | (exfalso; omega)
           | (try rw [show emptyZ false [] [] = true from rfl]
              generalize constOK neg A B = K at *
              generalize emptyZ neg A B = Z at *
              repeat (first | rw [if_pos (by omega)] | rw [if_neg (by omega)])
              try rw [Bool.eq_iff_iff]
              first | done | (cases K <;> cases Z <;> simp_all <;> omega))
        ·
         have f10 := h10
         try simp only [bl] at f10
         refine c_skip (blk_n (then_c (c_seq (c_seq (c_region ?_)))))
         refine o_fieldAddr (T := 33) (off := 4) trivial rfl Tryz.underlying35 rfl rfl rfl Tryz.sizeOf33 rfl rfl ?_
         refine o_loadA trivial rfl Tryz.isAgg33 Tryz.sizeOf33 rfl (by repeat constructor) (by repeat constructor) ?_
         first | (have h88 := h8; refine o_callQ trivial rfl Tryz.call101 rfl (empty_any false (.slice none 0 0) (.slice none 0 0) [] [] (Ws.nil _) (Ws.nil _)) ?_) | refine o_callQ trivial rfl Tryz.call101 rfl (empty_any neg va vb A B ha hb) ?_
         refine' o_and trivial trivial rfl rfl rfl rfl rfl rfl rfl rfl (fun hb36 => ?_) ?_
         rotate_left
         ·
          have fb36 := hb36
          try simp only [bl] at fb36
          refine o_fieldAddr (T := 3) (off := 3) (wants_some rfl rfl hb36) rfl Tryz.underlying35 rfl rfl rfl Tryz.sizeOf3 rfl rfl ?_
          refine o_load1 (wants_some rfl rfl hb36) rfl Tryz.isAgg3 rfl (by repeat constructor) (by repeat constructor) ?_
          refine o_pv (wants_some rfl rfl hb36) rfl rfl ?_
          refine o_nil ?_
          exact joins rfl
         refine' o_and trivial trivial rfl rfl rfl rfl rfl rfl rfl rfl (fun hb41 => ?_) ?_
         rotate_left
         ·
          have fb41 := hb41
          try simp only [bl] at fb41
          refine o_fieldAddr (T := 3) (off := 3) (wants_some rfl rfl hb41) rfl Tryz.underlying35 rfl rfl rfl Tryz.sizeOf3 rfl rfl ?_
          refine o_load1 (wants_some rfl rfl hb41) rfl Tryz.isAgg3 rfl (by repeat constructor) (by repeat constructor) ?_
          refine o_pv (wants_some rfl rfl hb41) rfl rfl ?_
          refine o_nil ?_
          exact joins rfl
         refine' o_and trivial trivial rfl rfl rfl rfl rfl rfl rfl rfl (fun hb46 => ?_) ?_
         rotate_left
         ·
          have fb46 := hb46
          try simp only [bl] at fb46
          refine o_fieldAddr (T := 3) (off := 0) (wants_some rfl rfl hb46) rfl Tryz.underlying35 rfl rfl rfl Tryz.sizeOf3 rfl rfl ?_
          refine o_load1 (wants_some rfl rfl hb46) rfl Tryz.isAgg3 rfl (by repeat constructor) (by repeat constructor) ?_
          refine o_pv (wants_some rfl rfl hb46) rfl rfl ?_
          refine' o_or (wants_some rfl rfl hb46) (wants_some rfl rfl hb46) rfl rfl rfl rfl rfl rfl rfl rfl (fun hb50 => ?_) ?_
          rotate_left
          ·
           have fb50 := hb50
           try simp only [bl] at fb50
           refine o_fieldAddr (T := 3) (off := 2) (wants_some rfl rfl hb50) rfl Tryz.underlying35 rfl rfl rfl Tryz.sizeOf3 rfl rfl ?_
           refine o_load1 (wants_some rfl rfl hb50) rfl Tryz.isAgg3 rfl (by repeat constructor) (by repeat constructor) ?_
           refine o_pv (wants_some rfl rfl hb50) rfl rfl ?_
           refine o_nil ?_
           exact joins rfl
          refine o_nil ?_
          exact joins rfl
         refine o_pv trivial rfl rfl ?_
         refine o_nil (then_c (c_ret (then_r (blk_r (then_r ?_)))))
         refine ret1 rfl rfl ?_
         refine leaf0 (congrArg Value.bool ?_)
         unfold fieldsOK
         dsimp only
         first
           | (exfalso; omega)
           | (try rw [show emptyZ false [] [] = true from rfl]
              generalize constOK neg A B = K at *
              generalize emptyZ neg A B = Z at *
              repeat (first | rw [if_pos (by omega)] | rw [if_neg (by omega)])
              try rw [Bool.eq_iff_iff]
              first | done | (cases K <;> cases Z <;> simp_all <;> omega))
       ·
        have f6 := h6
        try simp only [bl] at f6
        refine c_skip (then_c (c_seq (c_region ?_)))
        iterate 2 refine o_pv trivial rfl rfl ?_
        refine o_nil (then_c ?_)
        refine c_cond rfl (fun h7 => ?_) (fun h7 => ?_)
        ·
         have f7 := h7
         try simp only [bl] at f7
         refine c_exit (then_x (blk_ne rfl (then_x (blk_ne rfl (then_x (blk_ne rfl (then_x (blk_eq rfl (then_c (c_seq (c_seq (c_region ?_))))))))))))
         refine o_fieldAddr (T := 33) (off := 4) trivial rfl Tryz.underlying35 rfl rfl rfl Tryz.sizeOf33 rfl rfl ?_
         refine o_loadA trivial rfl Tryz.isAgg33 Tryz.sizeOf33 rfl (by repeat constructor) (by repeat constructor) ?_
         first | (have h88 := h8; refine o_callQ trivial rfl Tryz.call101 rfl (empty_any false (.slice none 0 0) (.slice none 0 0) [] [] (Ws.nil _) (Ws.nil _)) ?_) | refine o_callQ trivial rfl Tryz.call101 rfl (empty_any neg va vb A B ha hb) ?_
         refine' o_and trivial trivial rfl rfl rfl rfl rfl rfl rfl rfl (fun hb36 => ?_) ?_
         rotate_left
         ·
          have fb36 := hb36
          try simp only [bl] at fb36
          refine o_fieldAddr (T := 3) (off := 3) (wants_some rfl rfl hb36) rfl Tryz.underlying35 rfl rfl rfl Tryz.sizeOf3 rfl rfl ?_
          refine o_load1 (wants_some rfl rfl hb36) rfl Tryz.isAgg3 rfl (by repeat constructor) (by repeat constructor) ?_
          refine o_pv (wants_some rfl rfl hb36) rfl rfl ?_
          refine o_nil ?_
          exact joins rfl
         refine' o_and trivial trivial rfl rfl rfl rfl rfl rfl rfl rfl (fun hb41 => ?_) ?_
         rotate_left
         ·
          have fb41 := hb41
          try simp only [bl] at fb41
          refine o_fieldAddr (T := 3) (off := 3) (wants_some rfl rfl hb41) rfl Tryz.underlying35 rfl rfl rfl Tryz.sizeOf3 rfl rfl ?_
          refine o_load1 (wants_some rfl rfl hb41) rfl Tryz.isAgg3 rfl (by repeat constructor) (by repeat constructor) ?_
          refine o_pv (wants_some rfl rfl hb41) rfl rfl ?_
          refine o_nil ?_
          exact joins rfl
         refine' o_and trivial trivial rfl rfl rfl rfl rfl rfl rfl rfl (fun hb46 => ?_) ?_
         rotate_left
         ·
          have fb46 := hb46
          try simp only [bl] at fb46
          refine o_fieldAddr (T := 3) (off := 0) (wants_some rfl rfl hb46) rfl Tryz.underlying35 rfl rfl rfl Tryz.sizeOf3 rfl rfl ?_
          refine o_load1 (wants_some rfl rfl hb46) rfl Tryz.isAgg3 rfl (by repeat constructor) (by repeat constructor) ?_
          refine o_pv (wants_some rfl rfl hb46) rfl rfl ?_
          refine' o_or (wants_some rfl rfl hb46) (wants_some rfl rfl hb46) rfl rfl rfl rfl rfl rfl rfl rfl (fun hb50 => ?_) ?_
          rotate_left
          ·
           have fb50 := hb50
           try simp only [bl] at fb50
           refine o_fieldAddr (T := 3) (off := 2) (wants_some rfl rfl hb50) rfl Tryz.underlying35 rfl rfl rfl Tryz.sizeOf3 rfl rfl ?_
           refine o_load1 (wants_some rfl rfl hb50) rfl Tryz.isAgg3 rfl (by repeat constructor) (by repeat constructor) ?_
           refine o_pv (wants_some rfl rfl hb50) rfl rfl ?_
           refine o_nil ?_
           exact joins rfl
          refine o_nil ?_
          exact joins rfl
         refine o_pv trivial rfl rfl ?_
         refine o_nil (then_c (c_ret (then_r (blk_r (then_r ?_)))))
         refine ret1 rfl rfl ?_
         refine leaf0 (congrArg Value.bool ?_)
         unfold fieldsOK
         dsimp only
         first
           | (exfalso; omega)
           | (try rw [show emptyZ false [] [] = true from rfl]
              generalize constOK neg A B = K at *
              generalize emptyZ neg A B = Z at *
              repeat (first | rw [if_pos (by omega)] | rw [if_neg (by omega)])
              try rw [Bool.eq_iff_iff]
              first | done | (cases K <;> cases Z <;> simp_all <;> omega))
        ·
         have f7 := h7
         try simp only [bl] at f7
         refine c_skip (then_c (c_exit (blk_ne rfl (then_x (blk_ne rfl (then_x (blk_ne rfl (then_x (blk_ne rfl (then_x (blk_eq rfl (then_c (c_seq (c_region ?_))))))))))))))
         refine o_pv trivial rfl rfl ?_
         refine o_nil (then_c (c_ret ?_))
         refine ret1 rfl rfl ?_
         refine leaf0 (congrArg Value.bool ?_)
         unfold fieldsOK
         dsimp only
         first
           | (exfalso; omega)
           | (try rw [show emptyZ false [] [] = true from rfl]
              generalize constOK neg A B = K at *
              generalize emptyZ neg A B = Z at *
              repeat (first | rw [if_pos (by omega)] | rw [if_neg (by omega)])
              try rw [Bool.eq_iff_iff]
              first | done | (cases K <;> cases Z <;> simp_all <;> omega))
def wgtM (o : OpC) (l : List Nat) : Nat := if 2 ≤ o.code ∧ o.code ≤ 5 then l.getD o.a.toNat 0 + l.getD o.b.toNat 0 else if o.code = 7 then l.getD o.a.toNat 0 * max 1 o.e.natAbs else l.getD o.a.toNat 0
/-- An op's weight, by those ahead. -/
def wgt (o : OpC) (l : List Nat) : Option Nat :=
  if o.code = 1 then some 1
  else if o.a < 0 ∨ (l.length : Int) ≤ o.a ∨ o.b < 0 ∨ (l.length : Int) ≤ o.b then none
  else if wgtM o l ≤ 200 then some (wgtM o l) else none
def nvs (l : List Nat) : List Value := l.map fun (x : Nat) => Value.int .i64 (x : Int)
theorem nvs_len (l : List Nat) : (nvs l).length = l.length := by simp [nvs]
theorem nvs_get {l : List Nat} {i : Nat} (h : i < l.length) : (nvs l)[i]? = some (.int .i64 ((l.getD i 0 : Nat) : Int)) := by
  unfold nvs; rw [List.getElem?_map, List.getD_eq_getElem?_getD, List.getElem?_eq_getElem h]; rfl
theorem le_getD {l : List Nat} {k : Nat} (h : ∀ x ∈ l, x ≤ k) (i : Nat) : l.getD i 0 ≤ k := by
  rw [List.getD_eq_getElem?_getD]
  cases hi : l[i]? with
  | none => exact Nat.zero_le _
  | some x => exact h x (List.mem_of_getElem? hi)
/-- What weight tells. -/
def wgtR (o : OpC) (l : List Nat) (v : Value) : Prop := ∃ m : Int, v = .tuple #[.int .i64 m, .bool (wgt o l).isSome] ∧ ∀ k, wgt o l = some k → m = k
theorem wgtR_of {o : OpC} {l : List Nat} {M : Nat} {m : Int} (e : wgt o l = if M ≤ 200 then some M else none) (hm : m = M) : wgtR o l (.tuple #[.int .i64 m, .bool (decide (m ≤ 200))]) := by
  refine ⟨m, ?_, fun k hk => ?_⟩
  · rw [e]
    by_cases h : M ≤ 200
    · rw [if_pos h, decide_eq_true (by omega)]; rfl
    · rw [if_neg h, decide_eq_false (by omega)]; rfl
  · rw [e] at hk
    split at hk
    · cases hk; exact hm
    · cases hk
theorem wgtR_none {o : OpC} {l : List Nat} {m : Int} (e : wgt o l = none) : wgtR o l (.tuple #[.int .i64 m, .bool false]) := ⟨m, by rw [e]; rfl, fun k hk => by rw [e] at hk; cases hk⟩
theorem weight_any (code a b e : Int) (neg : Bool) (va vb u : Value) (A B : List Nat) (l : List Nat) {I : Hp} (ha : Ws I va A) (hb : Ws I vb B) (he : code = 7 → -20 ≤ e ∧ e ≤ 20) (hl : l.length ≤ 1000000) (hl2 : ∀ x ∈ l, x ≤ 200) : Fun Tryz.prog 71 [.agg #[.int .i64 code, .int .i64 a, .int .i64 b, .int .i64 e, .bool neg, va, vb], u] I [.row u 3 1 l.length (nvs l)]
    (fun v I' B' => I = I' ∧ B' = [.row u 3 1 l.length (nvs l)] ∧ wgtR ⟨code, a, b, e, neg, A, B⟩ l v) := by
  have ga := le_getD hl2 a.toNat
  have gb := le_getD hl2 b.toNat
  intro w hw
  refine enter2 _ Tryz.func71 rfl Tryz.ntmps71 rfl ?_ hw
  refine c_seq (c_region ?_)
  refine o_box trivial rfl rfl rfl (fun b2 => ?_)
  iterate 2 refine o_pv trivial rfl rfl ?_
  refine o_nil (then_c (c_seq (c_seq (c_region ?_))))
  refine o_fieldAddr (T := 3) (off := 0) trivial rfl Tryz.underlying35 rfl rfl rfl Tryz.sizeOf3 rfl rfl ?_
  refine o_load1 trivial rfl Tryz.isAgg3 rfl (by repeat constructor) (by repeat constructor) ?_
  refine o_pv trivial rfl rfl ?_
  refine o_nil (then_c ?_)
  refine c_cond rfl (fun h1 => ?_) (fun h1 => ?_)
  ·
   have f1 := h1
   try simp only [bl] at f1
   refine c_seq (c_region ?_)
   iterate 2 refine o_pv trivial rfl rfl ?_
   refine o_nil (then_c (c_ret (then_r ?_)))
   refine ret2 rfl rfl rfl ?_
   refine leaf (Ext.refl _ _) (List.sublist_cons_self _ _) ⟨rfl, rfl, 1, ?_, fun k hk => ?_⟩
   · unfold wgt wgtM; dsimp only; rw [if_pos f1]; rfl
   · unfold wgt at hk; dsimp only at hk; rw [if_pos f1] at hk; cases hk; rfl
  ·
   have f1 := h1
   try simp only [bl] at f1
   refine c_skip (then_c (c_seq (c_seq (c_region ?_))))
   refine o_fieldAddr (T := 3) (off := 1) trivial rfl Tryz.underlying35 rfl rfl rfl Tryz.sizeOf3 rfl rfl ?_
   refine o_load1 trivial rfl Tryz.isAgg3 rfl (by repeat constructor) (by repeat constructor) ?_
   refine o_pv trivial rfl rfl ?_
   refine' o_or trivial trivial rfl rfl rfl rfl rfl rfl rfl rfl (fun hb13 => ?_) ?_
   rotate_left
   ·
    have fb13 := hb13
    try simp only [bl] at fb13
    refine o_fieldAddr (T := 3) (off := 1) (wants_some rfl rfl hb13) rfl Tryz.underlying35 rfl rfl rfl Tryz.sizeOf3 rfl rfl ?_
    refine o_load1 (wants_some rfl rfl hb13) rfl Tryz.isAgg3 rfl (by repeat constructor) (by repeat constructor) ?_
    refine o_pv (wants_some rfl rfl hb13) rfl rfl ?_
    refine o_lenRow (wants_some rfl rfl hb13) rfl Tryz.underlying27 rfl (by repeat constructor) ?_
    refine o_pv (wants_some rfl rfl hb13) rfl rfl ?_
    refine o_nil ?_
    exact joins rfl
   refine' o_or trivial trivial rfl rfl rfl rfl rfl rfl rfl rfl (fun hb20 => ?_) ?_
   rotate_left
   ·
    have fb20 := hb20
    try simp only [bl] at fb20
    refine o_fieldAddr (T := 3) (off := 2) (wants_some rfl rfl hb20) rfl Tryz.underlying35 rfl rfl rfl Tryz.sizeOf3 rfl rfl ?_
    refine o_load1 (wants_some rfl rfl hb20) rfl Tryz.isAgg3 rfl (by repeat constructor) (by repeat constructor) ?_
    refine o_pv (wants_some rfl rfl hb20) rfl rfl ?_
    refine o_nil ?_
    exact joins rfl
   refine' o_or trivial trivial rfl rfl rfl rfl rfl rfl rfl rfl (fun hb25 => ?_) ?_
   rotate_left
   ·
    have fb25 := hb25
    try simp only [bl] at fb25
    refine o_fieldAddr (T := 3) (off := 2) (wants_some rfl rfl hb25) rfl Tryz.underlying35 rfl rfl rfl Tryz.sizeOf3 rfl rfl ?_
    refine o_load1 (wants_some rfl rfl hb25) rfl Tryz.isAgg3 rfl (by repeat constructor) (by repeat constructor) ?_
    refine o_pv (wants_some rfl rfl hb25) rfl rfl ?_
    refine o_lenRow (wants_some rfl rfl hb25) rfl Tryz.underlying27 rfl (by repeat constructor) ?_
    refine o_pv (wants_some rfl rfl hb25) rfl rfl ?_
    refine o_nil ?_
    exact joins rfl
   refine o_nil (then_c ?_)
   refine c_cond rfl (fun h2 => ?_) (fun h2 => ?_)
   ·
    have f2 := h2
    try simp only [bl] at f2
    refine c_seq (c_region ?_)
    iterate 2 refine o_pv trivial rfl rfl ?_
    refine o_nil (then_c (c_ret (then_r ?_)))
    refine ret2 rfl rfl rfl ?_
    refine leaf (Ext.refl _ _) (List.sublist_cons_self _ _) ⟨rfl, rfl, wgtR_none ?_⟩
    unfold wgt wgtM; dsimp only; rw [if_neg f1, if_pos (by omega)]
   ·
    have f2 := h2
    try simp only [bl] at f2
    refine c_skip (then_c (c_seq (c_region ?_)))
    refine o_pv trivial rfl rfl ?_
    refine o_fieldAddr (T := 3) (off := 1) trivial rfl Tryz.underlying35 rfl rfl rfl Tryz.sizeOf3 rfl rfl ?_
    refine o_load1 trivial rfl Tryz.isAgg3 rfl (by repeat constructor) (by repeat constructor) ?_
    refine o_elemRow trivial rfl Tryz.underlying27 Tryz.sizeOf3 rfl (by repeat constructor) rfl (by omega) ?_
    refine o_loadRow1 trivial rfl Tryz.isAgg3 (by repeat constructor) rfl (by rw [Nat.mul_one]; exact nvs_get (by omega)) ?_
    refine o_pv trivial rfl rfl ?_
    refine o_nil (then_c (c_seq (c_seq (c_region ?_))))
    refine o_fieldAddr (T := 3) (off := 0) trivial rfl Tryz.underlying35 rfl rfl rfl Tryz.sizeOf3 rfl rfl ?_
    refine o_load1 trivial rfl Tryz.isAgg3 rfl (by repeat constructor) (by repeat constructor) ?_
    refine o_nil (then_c (c_block (c_seq (c_seq (c_region ?_)))))
    iterate 2 refine o_pv trivial rfl rfl ?_
    refine o_nil (then_c ?_)
    refine c_cond rfl (fun h3 => ?_) (fun h3 => ?_)
    ·
     have f3 := h3
     try simp only [bl] at f3
     refine c_skip (then_c ?_)
     refine c_cond rfl (fun h6 => ?_) (fun h6 => ?_)
     ·
      have f6 := h6
      try simp only [bl] at f6
      refine c_region ?_
      iterate 2 refine o_pv trivial rfl rfl ?_
      refine o_fieldAddr (T := 3) (off := 2) trivial rfl Tryz.underlying35 rfl rfl rfl Tryz.sizeOf3 rfl rfl ?_
      refine o_load1 trivial rfl Tryz.isAgg3 rfl (by repeat constructor) (by repeat constructor) ?_
      refine o_elemRow trivial rfl Tryz.underlying27 Tryz.sizeOf3 rfl (by repeat constructor) rfl (by omega) ?_
      refine o_loadRow1 trivial rfl Tryz.isAgg3 (by repeat constructor) rfl (by rw [Nat.mul_one]; exact nvs_get (by omega)) ?_
      first | (refine o_add trivial rfl rfl rfl ?_ ?_; (omega)) | refine o_pv trivial rfl rfl ?_
      refine o_pv trivial rfl rfl ?_
      refine o_nil (blk_n (then_c (c_seq (c_region ?_))))
      iterate 5 refine o_pv trivial rfl rfl ?_
      refine o_nil (then_c (c_ret ?_))
      refine ret2 rfl rfl rfl ?_
      have n2 : ¬ (a < 0 ∨ (l.length : Int) ≤ a ∨ b < 0 ∨ (l.length : Int) ≤ b) := by omega
      have hmx : max (1 : Int) (e.natAbs : Nat) = ((max 1 e.natAbs : Nat) : Int) := by omega
      refine leaf (Ext.refl _ _) (List.sublist_cons_self _ _) ⟨rfl, rfl, ?_⟩
      first
        | (exfalso; omega)
        | (have n3 : 2 ≤ code ∧ code ≤ 5 := by omega
           refine wgtR_of (M := l.getD a.toNat 0 + l.getD b.toNat 0) ?_ (by omega)
           unfold wgt wgtM; dsimp only; rw [if_neg f1, if_neg n2, if_pos n3])
        | (have n3 : ¬ (2 ≤ code ∧ code ≤ 5) := by omega
           have n4 : code = 7 := by omega
           have he' := he n4
           have hm20 : l.getD a.toNat 0 * max 1 e.natAbs ≤ 200 * 20 := Nat.mul_le_mul ga (by omega)
           have e9 : (l.getD a.toNat 0 : Int) * max 1 (e.natAbs : Int) = ((l.getD a.toNat 0 * max 1 e.natAbs : Nat) : Int) := by rw [Int.natCast_mul, hmx]
           rw [e9, IntWalk.i64_in _ (by omega)]
           refine wgtR_of (M := l.getD a.toNat 0 * max 1 e.natAbs) ?_ rfl
           unfold wgt wgtM; dsimp only; rw [if_neg f1, if_neg n2, if_neg n3, if_pos n4])
        | (have n3 : ¬ (2 ≤ code ∧ code ≤ 5) := by omega
           have n4 : ¬ code = 7 := by omega
           refine wgtR_of (M := l.getD a.toNat 0) ?_ rfl
           unfold wgt wgtM; dsimp only; rw [if_neg f1, if_neg n2, if_neg n3, if_neg n4])
     ·
      have f6 := h6
      try simp only [bl] at f6
      refine c_seq (c_region ?_)
      iterate 2 refine o_pv trivial rfl rfl ?_
      refine o_nil (then_c ?_)
      refine c_cond rfl (fun h7 => ?_) (fun h7 => ?_)
      ·
       have f7 := h7
       try simp only [bl] at f7
       have he' := he f7
       refine c_region ?_
       refine o_pv trivial rfl rfl ?_
       refine o_fieldAddr (T := 3) (off := 3) trivial rfl Tryz.underlying35 rfl rfl rfl Tryz.sizeOf3 rfl rfl ?_
       refine o_load1 trivial rfl Tryz.isAgg3 rfl (by repeat constructor) (by repeat constructor) ?_
       refine o_callQ trivial rfl Tryz.call102 rfl (abs_any e (by omega)) ?_
       refine o_max2 trivial rfl rfl rfl ?_
       first | (refine o_mul trivial rfl rfl rfl ?_ ?_; (omega)) | refine o_pv trivial rfl rfl ?_
       refine o_pv trivial rfl rfl ?_
       refine o_nil (blk_n (then_c (c_seq (c_region ?_))))
       iterate 5 refine o_pv trivial rfl rfl ?_
       refine o_nil (then_c (c_ret ?_))
       refine ret2 rfl rfl rfl ?_
       have n2 : ¬ (a < 0 ∨ (l.length : Int) ≤ a ∨ b < 0 ∨ (l.length : Int) ≤ b) := by omega
       have hmx : max (1 : Int) (e.natAbs : Nat) = ((max 1 e.natAbs : Nat) : Int) := by omega
       refine leaf (Ext.refl _ _) (List.sublist_cons_self _ _) ⟨rfl, rfl, ?_⟩
       first
         | (exfalso; omega)
         | (have n3 : 2 ≤ code ∧ code ≤ 5 := by omega
            refine wgtR_of (M := l.getD a.toNat 0 + l.getD b.toNat 0) ?_ (by omega)
            unfold wgt wgtM; dsimp only; rw [if_neg f1, if_neg n2, if_pos n3])
         | (have n3 : ¬ (2 ≤ code ∧ code ≤ 5) := by omega
            have n4 : code = 7 := by omega
            have he' := he n4
            have hm20 : l.getD a.toNat 0 * max 1 e.natAbs ≤ 200 * 20 := Nat.mul_le_mul ga (by omega)
            have e9 : (l.getD a.toNat 0 : Int) * max 1 (e.natAbs : Int) = ((l.getD a.toNat 0 * max 1 e.natAbs : Nat) : Int) := by rw [Int.natCast_mul, hmx]
            rw [e9, IntWalk.i64_in _ (by omega)]
            refine wgtR_of (M := l.getD a.toNat 0 * max 1 e.natAbs) ?_ rfl
            unfold wgt wgtM; dsimp only; rw [if_neg f1, if_neg n2, if_neg n3, if_pos n4])
         | (have n3 : ¬ (2 ≤ code ∧ code ≤ 5) := by omega
            have n4 : ¬ code = 7 := by omega
            refine wgtR_of (M := l.getD a.toNat 0) ?_ rfl
            unfold wgt wgtM; dsimp only; rw [if_neg f1, if_neg n2, if_neg n3, if_neg n4])
      ·
       have f7 := h7
       try simp only [bl] at f7
       refine c_skip (blk_n (then_c (c_seq (c_region ?_))))
       iterate 5 refine o_pv trivial rfl rfl ?_
       refine o_nil (then_c (c_ret ?_))
       refine ret2 rfl rfl rfl ?_
       have n2 : ¬ (a < 0 ∨ (l.length : Int) ≤ a ∨ b < 0 ∨ (l.length : Int) ≤ b) := by omega
       have hmx : max (1 : Int) (e.natAbs : Nat) = ((max 1 e.natAbs : Nat) : Int) := by omega
       refine leaf (Ext.refl _ _) (List.sublist_cons_self _ _) ⟨rfl, rfl, ?_⟩
       first
         | (exfalso; omega)
         | (have n3 : 2 ≤ code ∧ code ≤ 5 := by omega
            refine wgtR_of (M := l.getD a.toNat 0 + l.getD b.toNat 0) ?_ (by omega)
            unfold wgt wgtM; dsimp only; rw [if_neg f1, if_neg n2, if_pos n3])
         | (have n3 : ¬ (2 ≤ code ∧ code ≤ 5) := by omega
            have n4 : code = 7 := by omega
            have he' := he n4
            have hm20 : l.getD a.toNat 0 * max 1 e.natAbs ≤ 200 * 20 := Nat.mul_le_mul ga (by omega)
            have e9 : (l.getD a.toNat 0 : Int) * max 1 (e.natAbs : Int) = ((l.getD a.toNat 0 * max 1 e.natAbs : Nat) : Int) := by rw [Int.natCast_mul, hmx]
            rw [e9, IntWalk.i64_in _ (by omega)]
            refine wgtR_of (M := l.getD a.toNat 0 * max 1 e.natAbs) ?_ rfl
            unfold wgt wgtM; dsimp only; rw [if_neg f1, if_neg n2, if_neg n3, if_pos n4])
         | (have n3 : ¬ (2 ≤ code ∧ code ≤ 5) := by omega
            have n4 : ¬ code = 7 := by omega
            refine wgtR_of (M := l.getD a.toNat 0) ?_ rfl
            unfold wgt wgtM; dsimp only; rw [if_neg f1, if_neg n2, if_neg n3, if_neg n4])
    ·
     have f3 := h3
     try simp only [bl] at f3
     refine c_seq (c_region ?_)
     iterate 2 refine o_pv trivial rfl rfl ?_
     refine o_nil (then_c ?_)
     refine c_cond rfl (fun h4 => ?_) (fun h4 => ?_)
     ·
      have f4 := h4
      try simp only [bl] at f4
      refine c_skip (then_c ?_)
      refine c_cond rfl (fun h6 => ?_) (fun h6 => ?_)
      ·
       have f6 := h6
       try simp only [bl] at f6
       refine c_region ?_
       iterate 2 refine o_pv trivial rfl rfl ?_
       refine o_fieldAddr (T := 3) (off := 2) trivial rfl Tryz.underlying35 rfl rfl rfl Tryz.sizeOf3 rfl rfl ?_
       refine o_load1 trivial rfl Tryz.isAgg3 rfl (by repeat constructor) (by repeat constructor) ?_
       refine o_elemRow trivial rfl Tryz.underlying27 Tryz.sizeOf3 rfl (by repeat constructor) rfl (by omega) ?_
       refine o_loadRow1 trivial rfl Tryz.isAgg3 (by repeat constructor) rfl (by rw [Nat.mul_one]; exact nvs_get (by omega)) ?_
       first | (refine o_add trivial rfl rfl rfl ?_ ?_; (omega)) | refine o_pv trivial rfl rfl ?_
       refine o_pv trivial rfl rfl ?_
       refine o_nil (blk_n (then_c (c_seq (c_region ?_))))
       iterate 5 refine o_pv trivial rfl rfl ?_
       refine o_nil (then_c (c_ret ?_))
       refine ret2 rfl rfl rfl ?_
       have n2 : ¬ (a < 0 ∨ (l.length : Int) ≤ a ∨ b < 0 ∨ (l.length : Int) ≤ b) := by omega
       have hmx : max (1 : Int) (e.natAbs : Nat) = ((max 1 e.natAbs : Nat) : Int) := by omega
       refine leaf (Ext.refl _ _) (List.sublist_cons_self _ _) ⟨rfl, rfl, ?_⟩
       first
         | (exfalso; omega)
         | (have n3 : 2 ≤ code ∧ code ≤ 5 := by omega
            refine wgtR_of (M := l.getD a.toNat 0 + l.getD b.toNat 0) ?_ (by omega)
            unfold wgt wgtM; dsimp only; rw [if_neg f1, if_neg n2, if_pos n3])
         | (have n3 : ¬ (2 ≤ code ∧ code ≤ 5) := by omega
            have n4 : code = 7 := by omega
            have he' := he n4
            have hm20 : l.getD a.toNat 0 * max 1 e.natAbs ≤ 200 * 20 := Nat.mul_le_mul ga (by omega)
            have e9 : (l.getD a.toNat 0 : Int) * max 1 (e.natAbs : Int) = ((l.getD a.toNat 0 * max 1 e.natAbs : Nat) : Int) := by rw [Int.natCast_mul, hmx]
            rw [e9, IntWalk.i64_in _ (by omega)]
            refine wgtR_of (M := l.getD a.toNat 0 * max 1 e.natAbs) ?_ rfl
            unfold wgt wgtM; dsimp only; rw [if_neg f1, if_neg n2, if_neg n3, if_pos n4])
         | (have n3 : ¬ (2 ≤ code ∧ code ≤ 5) := by omega
            have n4 : ¬ code = 7 := by omega
            refine wgtR_of (M := l.getD a.toNat 0) ?_ rfl
            unfold wgt wgtM; dsimp only; rw [if_neg f1, if_neg n2, if_neg n3, if_neg n4])
      ·
       have f6 := h6
       try simp only [bl] at f6
       refine c_seq (c_region ?_)
       iterate 2 refine o_pv trivial rfl rfl ?_
       refine o_nil (then_c ?_)
       refine c_cond rfl (fun h7 => ?_) (fun h7 => ?_)
       ·
        have f7 := h7
        try simp only [bl] at f7
        have he' := he f7
        refine c_region ?_
        refine o_pv trivial rfl rfl ?_
        refine o_fieldAddr (T := 3) (off := 3) trivial rfl Tryz.underlying35 rfl rfl rfl Tryz.sizeOf3 rfl rfl ?_
        refine o_load1 trivial rfl Tryz.isAgg3 rfl (by repeat constructor) (by repeat constructor) ?_
        refine o_callQ trivial rfl Tryz.call102 rfl (abs_any e (by omega)) ?_
        refine o_max2 trivial rfl rfl rfl ?_
        first | (refine o_mul trivial rfl rfl rfl ?_ ?_; (omega)) | refine o_pv trivial rfl rfl ?_
        refine o_pv trivial rfl rfl ?_
        refine o_nil (blk_n (then_c (c_seq (c_region ?_))))
        iterate 5 refine o_pv trivial rfl rfl ?_
        refine o_nil (then_c (c_ret ?_))
        refine ret2 rfl rfl rfl ?_
        have n2 : ¬ (a < 0 ∨ (l.length : Int) ≤ a ∨ b < 0 ∨ (l.length : Int) ≤ b) := by omega
        have hmx : max (1 : Int) (e.natAbs : Nat) = ((max 1 e.natAbs : Nat) : Int) := by omega
        refine leaf (Ext.refl _ _) (List.sublist_cons_self _ _) ⟨rfl, rfl, ?_⟩
        first
          | (exfalso; omega)
          | (have n3 : 2 ≤ code ∧ code ≤ 5 := by omega
             refine wgtR_of (M := l.getD a.toNat 0 + l.getD b.toNat 0) ?_ (by omega)
             unfold wgt wgtM; dsimp only; rw [if_neg f1, if_neg n2, if_pos n3])
          | (have n3 : ¬ (2 ≤ code ∧ code ≤ 5) := by omega
             have n4 : code = 7 := by omega
             have he' := he n4
             have hm20 : l.getD a.toNat 0 * max 1 e.natAbs ≤ 200 * 20 := Nat.mul_le_mul ga (by omega)
             have e9 : (l.getD a.toNat 0 : Int) * max 1 (e.natAbs : Int) = ((l.getD a.toNat 0 * max 1 e.natAbs : Nat) : Int) := by rw [Int.natCast_mul, hmx]
             rw [e9, IntWalk.i64_in _ (by omega)]
             refine wgtR_of (M := l.getD a.toNat 0 * max 1 e.natAbs) ?_ rfl
             unfold wgt wgtM; dsimp only; rw [if_neg f1, if_neg n2, if_neg n3, if_pos n4])
          | (have n3 : ¬ (2 ≤ code ∧ code ≤ 5) := by omega
             have n4 : ¬ code = 7 := by omega
             refine wgtR_of (M := l.getD a.toNat 0) ?_ rfl
             unfold wgt wgtM; dsimp only; rw [if_neg f1, if_neg n2, if_neg n3, if_neg n4])
       ·
        have f7 := h7
        try simp only [bl] at f7
        refine c_skip (blk_n (then_c (c_seq (c_region ?_))))
        iterate 5 refine o_pv trivial rfl rfl ?_
        refine o_nil (then_c (c_ret ?_))
        refine ret2 rfl rfl rfl ?_
        have n2 : ¬ (a < 0 ∨ (l.length : Int) ≤ a ∨ b < 0 ∨ (l.length : Int) ≤ b) := by omega
        have hmx : max (1 : Int) (e.natAbs : Nat) = ((max 1 e.natAbs : Nat) : Int) := by omega
        refine leaf (Ext.refl _ _) (List.sublist_cons_self _ _) ⟨rfl, rfl, ?_⟩
        first
          | (exfalso; omega)
          | (have n3 : 2 ≤ code ∧ code ≤ 5 := by omega
             refine wgtR_of (M := l.getD a.toNat 0 + l.getD b.toNat 0) ?_ (by omega)
             unfold wgt wgtM; dsimp only; rw [if_neg f1, if_neg n2, if_pos n3])
          | (have n3 : ¬ (2 ≤ code ∧ code ≤ 5) := by omega
             have n4 : code = 7 := by omega
             have he' := he n4
             have hm20 : l.getD a.toNat 0 * max 1 e.natAbs ≤ 200 * 20 := Nat.mul_le_mul ga (by omega)
             have e9 : (l.getD a.toNat 0 : Int) * max 1 (e.natAbs : Int) = ((l.getD a.toNat 0 * max 1 e.natAbs : Nat) : Int) := by rw [Int.natCast_mul, hmx]
             rw [e9, IntWalk.i64_in _ (by omega)]
             refine wgtR_of (M := l.getD a.toNat 0 * max 1 e.natAbs) ?_ rfl
             unfold wgt wgtM; dsimp only; rw [if_neg f1, if_neg n2, if_neg n3, if_pos n4])
          | (have n3 : ¬ (2 ≤ code ∧ code ≤ 5) := by omega
             have n4 : ¬ code = 7 := by omega
             refine wgtR_of (M := l.getD a.toNat 0) ?_ rfl
             unfold wgt wgtM; dsimp only; rw [if_neg f1, if_neg n2, if_neg n3, if_neg n4])
     ·
      have f4 := h4
      try simp only [bl] at f4
      refine c_seq (c_region ?_)
      iterate 2 refine o_pv trivial rfl rfl ?_
      refine o_nil (then_c ?_)
      refine c_cond rfl (fun h5 => ?_) (fun h5 => ?_)
      ·
       have f5 := h5
       try simp only [bl] at f5
       refine c_skip (then_c ?_)
       refine c_cond rfl (fun h6 => ?_) (fun h6 => ?_)
       ·
        have f6 := h6
        try simp only [bl] at f6
        refine c_region ?_
        iterate 2 refine o_pv trivial rfl rfl ?_
        refine o_fieldAddr (T := 3) (off := 2) trivial rfl Tryz.underlying35 rfl rfl rfl Tryz.sizeOf3 rfl rfl ?_
        refine o_load1 trivial rfl Tryz.isAgg3 rfl (by repeat constructor) (by repeat constructor) ?_
        refine o_elemRow trivial rfl Tryz.underlying27 Tryz.sizeOf3 rfl (by repeat constructor) rfl (by omega) ?_
        refine o_loadRow1 trivial rfl Tryz.isAgg3 (by repeat constructor) rfl (by rw [Nat.mul_one]; exact nvs_get (by omega)) ?_
        first | (refine o_add trivial rfl rfl rfl ?_ ?_; (omega)) | refine o_pv trivial rfl rfl ?_
        refine o_pv trivial rfl rfl ?_
        refine o_nil (blk_n (then_c (c_seq (c_region ?_))))
        iterate 5 refine o_pv trivial rfl rfl ?_
        refine o_nil (then_c (c_ret ?_))
        refine ret2 rfl rfl rfl ?_
        have n2 : ¬ (a < 0 ∨ (l.length : Int) ≤ a ∨ b < 0 ∨ (l.length : Int) ≤ b) := by omega
        have hmx : max (1 : Int) (e.natAbs : Nat) = ((max 1 e.natAbs : Nat) : Int) := by omega
        refine leaf (Ext.refl _ _) (List.sublist_cons_self _ _) ⟨rfl, rfl, ?_⟩
        first
          | (exfalso; omega)
          | (have n3 : 2 ≤ code ∧ code ≤ 5 := by omega
             refine wgtR_of (M := l.getD a.toNat 0 + l.getD b.toNat 0) ?_ (by omega)
             unfold wgt wgtM; dsimp only; rw [if_neg f1, if_neg n2, if_pos n3])
          | (have n3 : ¬ (2 ≤ code ∧ code ≤ 5) := by omega
             have n4 : code = 7 := by omega
             have he' := he n4
             have hm20 : l.getD a.toNat 0 * max 1 e.natAbs ≤ 200 * 20 := Nat.mul_le_mul ga (by omega)
             have e9 : (l.getD a.toNat 0 : Int) * max 1 (e.natAbs : Int) = ((l.getD a.toNat 0 * max 1 e.natAbs : Nat) : Int) := by rw [Int.natCast_mul, hmx]
             rw [e9, IntWalk.i64_in _ (by omega)]
             refine wgtR_of (M := l.getD a.toNat 0 * max 1 e.natAbs) ?_ rfl
             unfold wgt wgtM; dsimp only; rw [if_neg f1, if_neg n2, if_neg n3, if_pos n4])
          | (have n3 : ¬ (2 ≤ code ∧ code ≤ 5) := by omega
             have n4 : ¬ code = 7 := by omega
             refine wgtR_of (M := l.getD a.toNat 0) ?_ rfl
             unfold wgt wgtM; dsimp only; rw [if_neg f1, if_neg n2, if_neg n3, if_neg n4])
       ·
        have f6 := h6
        try simp only [bl] at f6
        refine c_seq (c_region ?_)
        iterate 2 refine o_pv trivial rfl rfl ?_
        refine o_nil (then_c ?_)
        refine c_cond rfl (fun h7 => ?_) (fun h7 => ?_)
        ·
         have f7 := h7
         try simp only [bl] at f7
         have he' := he f7
         refine c_region ?_
         refine o_pv trivial rfl rfl ?_
         refine o_fieldAddr (T := 3) (off := 3) trivial rfl Tryz.underlying35 rfl rfl rfl Tryz.sizeOf3 rfl rfl ?_
         refine o_load1 trivial rfl Tryz.isAgg3 rfl (by repeat constructor) (by repeat constructor) ?_
         refine o_callQ trivial rfl Tryz.call102 rfl (abs_any e (by omega)) ?_
         refine o_max2 trivial rfl rfl rfl ?_
         first | (refine o_mul trivial rfl rfl rfl ?_ ?_; (omega)) | refine o_pv trivial rfl rfl ?_
         refine o_pv trivial rfl rfl ?_
         refine o_nil (blk_n (then_c (c_seq (c_region ?_))))
         iterate 5 refine o_pv trivial rfl rfl ?_
         refine o_nil (then_c (c_ret ?_))
         refine ret2 rfl rfl rfl ?_
         have n2 : ¬ (a < 0 ∨ (l.length : Int) ≤ a ∨ b < 0 ∨ (l.length : Int) ≤ b) := by omega
         have hmx : max (1 : Int) (e.natAbs : Nat) = ((max 1 e.natAbs : Nat) : Int) := by omega
         refine leaf (Ext.refl _ _) (List.sublist_cons_self _ _) ⟨rfl, rfl, ?_⟩
         first
           | (exfalso; omega)
           | (have n3 : 2 ≤ code ∧ code ≤ 5 := by omega
              refine wgtR_of (M := l.getD a.toNat 0 + l.getD b.toNat 0) ?_ (by omega)
              unfold wgt wgtM; dsimp only; rw [if_neg f1, if_neg n2, if_pos n3])
           | (have n3 : ¬ (2 ≤ code ∧ code ≤ 5) := by omega
              have n4 : code = 7 := by omega
              have he' := he n4
              have hm20 : l.getD a.toNat 0 * max 1 e.natAbs ≤ 200 * 20 := Nat.mul_le_mul ga (by omega)
              have e9 : (l.getD a.toNat 0 : Int) * max 1 (e.natAbs : Int) = ((l.getD a.toNat 0 * max 1 e.natAbs : Nat) : Int) := by rw [Int.natCast_mul, hmx]
              rw [e9, IntWalk.i64_in _ (by omega)]
              refine wgtR_of (M := l.getD a.toNat 0 * max 1 e.natAbs) ?_ rfl
              unfold wgt wgtM; dsimp only; rw [if_neg f1, if_neg n2, if_neg n3, if_pos n4])
           | (have n3 : ¬ (2 ≤ code ∧ code ≤ 5) := by omega
              have n4 : ¬ code = 7 := by omega
              refine wgtR_of (M := l.getD a.toNat 0) ?_ rfl
              unfold wgt wgtM; dsimp only; rw [if_neg f1, if_neg n2, if_neg n3, if_neg n4])
        ·
         have f7 := h7
         try simp only [bl] at f7
         refine c_skip (blk_n (then_c (c_seq (c_region ?_))))
         iterate 5 refine o_pv trivial rfl rfl ?_
         refine o_nil (then_c (c_ret ?_))
         refine ret2 rfl rfl rfl ?_
         have n2 : ¬ (a < 0 ∨ (l.length : Int) ≤ a ∨ b < 0 ∨ (l.length : Int) ≤ b) := by omega
         have hmx : max (1 : Int) (e.natAbs : Nat) = ((max 1 e.natAbs : Nat) : Int) := by omega
         refine leaf (Ext.refl _ _) (List.sublist_cons_self _ _) ⟨rfl, rfl, ?_⟩
         first
           | (exfalso; omega)
           | (have n3 : 2 ≤ code ∧ code ≤ 5 := by omega
              refine wgtR_of (M := l.getD a.toNat 0 + l.getD b.toNat 0) ?_ (by omega)
              unfold wgt wgtM; dsimp only; rw [if_neg f1, if_neg n2, if_pos n3])
           | (have n3 : ¬ (2 ≤ code ∧ code ≤ 5) := by omega
              have n4 : code = 7 := by omega
              have he' := he n4
              have hm20 : l.getD a.toNat 0 * max 1 e.natAbs ≤ 200 * 20 := Nat.mul_le_mul ga (by omega)
              have e9 : (l.getD a.toNat 0 : Int) * max 1 (e.natAbs : Int) = ((l.getD a.toNat 0 * max 1 e.natAbs : Nat) : Int) := by rw [Int.natCast_mul, hmx]
              rw [e9, IntWalk.i64_in _ (by omega)]
              refine wgtR_of (M := l.getD a.toNat 0 * max 1 e.natAbs) ?_ rfl
              unfold wgt wgtM; dsimp only; rw [if_neg f1, if_neg n2, if_neg n3, if_pos n4])
           | (have n3 : ¬ (2 ≤ code ∧ code ≤ 5) := by omega
              have n4 : ¬ code = 7 := by omega
              refine wgtR_of (M := l.getD a.toNat 0) ?_ rfl
              unfold wgt wgtM; dsimp only; rw [if_neg f1, if_neg n2, if_neg n3, if_neg n4])
      ·
       have f5 := h5
       try simp only [bl] at f5
       refine c_region ?_
       iterate 2 refine o_pv trivial rfl rfl ?_
       refine o_nil (then_c ?_)
       refine c_cond rfl (fun h6 => ?_) (fun h6 => ?_)
       ·
        have f6 := h6
        try simp only [bl] at f6
        refine c_region ?_
        iterate 2 refine o_pv trivial rfl rfl ?_
        refine o_fieldAddr (T := 3) (off := 2) trivial rfl Tryz.underlying35 rfl rfl rfl Tryz.sizeOf3 rfl rfl ?_
        refine o_load1 trivial rfl Tryz.isAgg3 rfl (by repeat constructor) (by repeat constructor) ?_
        refine o_elemRow trivial rfl Tryz.underlying27 Tryz.sizeOf3 rfl (by repeat constructor) rfl (by omega) ?_
        refine o_loadRow1 trivial rfl Tryz.isAgg3 (by repeat constructor) rfl (by rw [Nat.mul_one]; exact nvs_get (by omega)) ?_
        first | (refine o_add trivial rfl rfl rfl ?_ ?_; (omega)) | refine o_pv trivial rfl rfl ?_
        refine o_pv trivial rfl rfl ?_
        refine o_nil (blk_n (then_c (c_seq (c_region ?_))))
        iterate 5 refine o_pv trivial rfl rfl ?_
        refine o_nil (then_c (c_ret ?_))
        refine ret2 rfl rfl rfl ?_
        have n2 : ¬ (a < 0 ∨ (l.length : Int) ≤ a ∨ b < 0 ∨ (l.length : Int) ≤ b) := by omega
        have hmx : max (1 : Int) (e.natAbs : Nat) = ((max 1 e.natAbs : Nat) : Int) := by omega
        refine leaf (Ext.refl _ _) (List.sublist_cons_self _ _) ⟨rfl, rfl, ?_⟩
        first
          | (exfalso; omega)
          | (have n3 : 2 ≤ code ∧ code ≤ 5 := by omega
             refine wgtR_of (M := l.getD a.toNat 0 + l.getD b.toNat 0) ?_ (by omega)
             unfold wgt wgtM; dsimp only; rw [if_neg f1, if_neg n2, if_pos n3])
          | (have n3 : ¬ (2 ≤ code ∧ code ≤ 5) := by omega
             have n4 : code = 7 := by omega
             have he' := he n4
             have hm20 : l.getD a.toNat 0 * max 1 e.natAbs ≤ 200 * 20 := Nat.mul_le_mul ga (by omega)
             have e9 : (l.getD a.toNat 0 : Int) * max 1 (e.natAbs : Int) = ((l.getD a.toNat 0 * max 1 e.natAbs : Nat) : Int) := by rw [Int.natCast_mul, hmx]
             rw [e9, IntWalk.i64_in _ (by omega)]
             refine wgtR_of (M := l.getD a.toNat 0 * max 1 e.natAbs) ?_ rfl
             unfold wgt wgtM; dsimp only; rw [if_neg f1, if_neg n2, if_neg n3, if_pos n4])
          | (have n3 : ¬ (2 ≤ code ∧ code ≤ 5) := by omega
             have n4 : ¬ code = 7 := by omega
             refine wgtR_of (M := l.getD a.toNat 0) ?_ rfl
             unfold wgt wgtM; dsimp only; rw [if_neg f1, if_neg n2, if_neg n3, if_neg n4])
       ·
        have f6 := h6
        try simp only [bl] at f6
        refine c_seq (c_region ?_)
        iterate 2 refine o_pv trivial rfl rfl ?_
        refine o_nil (then_c ?_)
        refine c_cond rfl (fun h7 => ?_) (fun h7 => ?_)
        ·
         have f7 := h7
         try simp only [bl] at f7
         have he' := he f7
         refine c_region ?_
         refine o_pv trivial rfl rfl ?_
         refine o_fieldAddr (T := 3) (off := 3) trivial rfl Tryz.underlying35 rfl rfl rfl Tryz.sizeOf3 rfl rfl ?_
         refine o_load1 trivial rfl Tryz.isAgg3 rfl (by repeat constructor) (by repeat constructor) ?_
         refine o_callQ trivial rfl Tryz.call102 rfl (abs_any e (by omega)) ?_
         refine o_max2 trivial rfl rfl rfl ?_
         first | (refine o_mul trivial rfl rfl rfl ?_ ?_; (omega)) | refine o_pv trivial rfl rfl ?_
         refine o_pv trivial rfl rfl ?_
         refine o_nil (blk_n (then_c (c_seq (c_region ?_))))
         iterate 5 refine o_pv trivial rfl rfl ?_
         refine o_nil (then_c (c_ret ?_))
         refine ret2 rfl rfl rfl ?_
         have n2 : ¬ (a < 0 ∨ (l.length : Int) ≤ a ∨ b < 0 ∨ (l.length : Int) ≤ b) := by omega
         have hmx : max (1 : Int) (e.natAbs : Nat) = ((max 1 e.natAbs : Nat) : Int) := by omega
         refine leaf (Ext.refl _ _) (List.sublist_cons_self _ _) ⟨rfl, rfl, ?_⟩
         first
           | (exfalso; omega)
           | (have n3 : 2 ≤ code ∧ code ≤ 5 := by omega
              refine wgtR_of (M := l.getD a.toNat 0 + l.getD b.toNat 0) ?_ (by omega)
              unfold wgt wgtM; dsimp only; rw [if_neg f1, if_neg n2, if_pos n3])
           | (have n3 : ¬ (2 ≤ code ∧ code ≤ 5) := by omega
              have n4 : code = 7 := by omega
              have he' := he n4
              have hm20 : l.getD a.toNat 0 * max 1 e.natAbs ≤ 200 * 20 := Nat.mul_le_mul ga (by omega)
              have e9 : (l.getD a.toNat 0 : Int) * max 1 (e.natAbs : Int) = ((l.getD a.toNat 0 * max 1 e.natAbs : Nat) : Int) := by rw [Int.natCast_mul, hmx]
              rw [e9, IntWalk.i64_in _ (by omega)]
              refine wgtR_of (M := l.getD a.toNat 0 * max 1 e.natAbs) ?_ rfl
              unfold wgt wgtM; dsimp only; rw [if_neg f1, if_neg n2, if_neg n3, if_pos n4])
           | (have n3 : ¬ (2 ≤ code ∧ code ≤ 5) := by omega
              have n4 : ¬ code = 7 := by omega
              refine wgtR_of (M := l.getD a.toNat 0) ?_ rfl
              unfold wgt wgtM; dsimp only; rw [if_neg f1, if_neg n2, if_neg n3, if_neg n4])
        ·
         have f7 := h7
         try simp only [bl] at f7
         refine c_skip (blk_n (then_c (c_seq (c_region ?_))))
         iterate 5 refine o_pv trivial rfl rfl ?_
         refine o_nil (then_c (c_ret ?_))
         refine ret2 rfl rfl rfl ?_
         have n2 : ¬ (a < 0 ∨ (l.length : Int) ≤ a ∨ b < 0 ∨ (l.length : Int) ≤ b) := by omega
         have hmx : max (1 : Int) (e.natAbs : Nat) = ((max 1 e.natAbs : Nat) : Int) := by omega
         refine leaf (Ext.refl _ _) (List.sublist_cons_self _ _) ⟨rfl, rfl, ?_⟩
         first
           | (exfalso; omega)
           | (have n3 : 2 ≤ code ∧ code ≤ 5 := by omega
              refine wgtR_of (M := l.getD a.toNat 0 + l.getD b.toNat 0) ?_ (by omega)
              unfold wgt wgtM; dsimp only; rw [if_neg f1, if_neg n2, if_pos n3])
           | (have n3 : ¬ (2 ≤ code ∧ code ≤ 5) := by omega
              have n4 : code = 7 := by omega
              have he' := he n4
              have hm20 : l.getD a.toNat 0 * max 1 e.natAbs ≤ 200 * 20 := Nat.mul_le_mul ga (by omega)
              have e9 : (l.getD a.toNat 0 : Int) * max 1 (e.natAbs : Int) = ((l.getD a.toNat 0 * max 1 e.natAbs : Nat) : Int) := by rw [Int.natCast_mul, hmx]
              rw [e9, IntWalk.i64_in _ (by omega)]
              refine wgtR_of (M := l.getD a.toNat 0 * max 1 e.natAbs) ?_ rfl
              unfold wgt wgtM; dsimp only; rw [if_neg f1, if_neg n2, if_neg n3, if_pos n4])
           | (have n3 : ¬ (2 ≤ code ∧ code ≤ 5) := by omega
              have n4 : ¬ code = 7 := by omega
              refine wgtR_of (M := l.getD a.toNat 0) ?_ rfl
              unfold wgt wgtM; dsimp only; rw [if_neg f1, if_neg n2, if_neg n3, if_neg n4])
end Go.Proofs.YtjgbjaaekknenaaGreat
/-
  Layer 14 of the program: the weights of a tape.
-/
namespace Go.Proofs.YtjgbjaaekknenaaGreat
open Go Go.Tw
set_option linter.unusedVariables false
set_option linter.unusedSimpArgs false
set_option linter.unnecessarySimpa false
set_option maxHeartbeats 1000000
def wgts : List OpC → List Nat → Option (List Nat)
  | [], l => some l
  | o :: r, l => if fieldsOK o then (match wgt o l with | some m => wgts r (l ++ [m]) | none => none) else none
/-- A tape's weights, if it is right. -/
def tapeW (t : TapeC) : Option (List Nat) :=
  if t.ins < 1 ∨ 40 < t.ins ∨ t.outs.length < 1 ∨ 40 < t.outs.length ∨ 400 < t.ops.length then none
  else match wgts t.ops (List.replicate t.ins.toNat 1) with
    | none => none
    | some l => if (t.outs.all fun z => decide (0 ≤ z ∧ z < l.length)) then some l else none
theorem wgt_le {o : OpC} {l : List Nat} {m : Nat} (h : wgt o l = some m) : m ≤ 200 := by
  unfold wgt at h
  split at h
  · cases h; decide
  · split at h
    · cases h
    · split at h
      · cases h; assumption
      · cases h
theorem OpV.at_ {I : Hp} {vo vu : Value} {t : TapeC} {os : List OpV} (ht : TapeV I vo vu t os) {i : Nat} {o : OpV} (h : os[i]? = some o) : ∀ k y, ([.int .i64 o.c.code, .int .i64 o.c.a, .int .i64 o.c.b, .int .i64 o.c.e, .bool o.c.neg, o.vn, o.vd] : List Value)[k]? = some y → I.cell? ⟨slcB vo, slcO vo + i * 7 + k, none⟩ = some y :=
  ht.so.cells i _ (by rw [List.getElem?_map, h]; rfl)
theorem wgts_drop {ops : List OpC} {i : Nat} {o : OpC} (h : ops[i]? = some o) (l : List Nat) : wgts (ops.drop i) l = if fieldsOK o then (match wgt o l with | some m => wgts (ops.drop (i + 1)) (l ++ [m]) | none => none) else none := by
  rw [List.drop_eq_getElem_cons (List.getElem?_eq_some_iff.1 h).1, (List.getElem?_eq_some_iff.1 h).2]; rfl
theorem nvs_more (l : List Nat) (m : Nat) : nvs l ++ [.int .i64 (m : Int)] = nvs (l ++ [m]) := by simp [nvs]
theorem nvs_flat (l : List Nat) : ((l.map fun (x : Nat) => [Value.int .i64 (x : Int)])).flatten = nvs l := by
  induction l with
  | nil => rfl
  | cons x l ih => show [_] ++ _ = _; rw [ih]; rfl
theorem nvs_ones (k : Nat) : nvs (List.replicate k 1) ++ [.int .i64 1] = nvs (List.replicate (k + 1) 1) := by
  rw [List.replicate_succ', ← nvs_more]; rfl
theorem ics_at {I : Hp} {v : Value} {l : List Int} (h : Slc I 1 v (ics l)) {i : Nat} {z : Int} (hz : l[i]? = some z) : I.cell? ⟨slcB v, slcO v + i * 1, none⟩ = some (.int .i64 z) :=
  h.cells i _ (by unfold ics; rw [List.getElem?_map, hz]; rfl) 0 _ rfl
theorem ics_len (l : List Int) : (ics l).length = l.length := by simp [ics]
theorem fields_exp {o : OpC} (h : fieldsOK o = true) (h7 : o.code = 7) : -20 ≤ o.e ∧ o.e ≤ 20 := by
  unfold fieldsOK at h
  rw [if_neg (by omega), if_neg (by omega), if_neg (by omega), if_pos h7] at h
  simp only [Bool.and_eq_true, decide_eq_true_eq] at h
  exact h.2.2
theorem weights_any (t : TapeC) (vo vu : Value) (os : List OpV) {I : Hp} (ht : TapeV I vo vu t os) (hf : ∀ o ∈ t.ops, OpC.few 100000 o) : Fun Tryz.prog 51 [.agg #[.int .i64 t.ins, vo, vu]] I [] (fun v I' _ => ∃ u, v = .tuple #[u, .bool (tapeW t).isSome] ∧ ∀ l, tapeW t = some l → Slc I' 1 u (l.map fun (x : Nat) => [.int .i64 (x : Int)])) := by
  have hol : os.length = t.ops.length := by rw [← ht.eq, List.length_map]
  have hoc : ∀ {i : Nat} {o : OpV}, os[i]? = some o → t.ops[i]? = some o.c := fun {i o} h => by rw [← ht.eq, List.getElem?_map, h]; rfl
  have hso := ht.so
  have hsu := ht.su
  intro w hw
  refine enter1 _ Tryz.func51 rfl Tryz.ntmps51 rfl ?_ hw
  refine c_seq (c_region ?_)
  refine o_box trivial rfl rfl rfl (fun b1 => ?_)
  iterate 2 refine o_pv trivial rfl rfl ?_
  refine o_nil (then_c (c_seq (c_seq (c_region ?_))))
  refine o_fieldAddr (T := 3) (off := 0) trivial rfl Tryz.underlying29 rfl rfl rfl Tryz.sizeOf3 rfl rfl ?_
  have hul := ics_len t.outs
  have hml : (os.map OpV.cells).length = t.ops.length := by rw [List.length_map, hol]
  refine o_load1 trivial rfl Tryz.isAgg3 rfl (by repeat constructor) (by repeat constructor) ?_
  refine o_pv trivial rfl rfl ?_
  refine' o_or trivial trivial rfl rfl rfl rfl rfl rfl rfl rfl (fun hb14 => ?_) ?_
  rotate_left
  ·
   have fb14 := hb14
   try simp only [bl] at fb14
   refine o_fieldAddr (T := 3) (off := 0) (wants_some rfl rfl hb14) rfl Tryz.underlying29 rfl rfl rfl Tryz.sizeOf3 rfl rfl ?_
   refine o_load1 (wants_some rfl rfl hb14) rfl Tryz.isAgg3 rfl (by repeat constructor) (by repeat constructor) ?_
   refine o_pv (wants_some rfl rfl hb14) rfl rfl ?_
   refine o_nil ?_
   exact joins rfl
  refine' o_or trivial trivial rfl rfl rfl rfl rfl rfl rfl rfl (fun hb19 => ?_) ?_
  rotate_left
  ·
   have fb19 := hb19
   try simp only [bl] at fb19
   refine o_fieldAddr (T := 27) (off := 2) (wants_some rfl rfl hb19) rfl Tryz.underlying29 rfl rfl rfl Tryz.sizeOf27 rfl rfl ?_
   refine o_load1 (wants_some rfl rfl hb19) rfl Tryz.isAgg27 rfl (by repeat constructor) (by repeat constructor) ?_
   refine o_lenSlc (wants_some rfl rfl hb19) rfl Tryz.underlying27 rfl (hsu) ?_
   refine o_pv (wants_some rfl rfl hb19) rfl rfl ?_
   refine o_nil ?_
   exact joins rfl
  refine' o_or trivial trivial rfl rfl rfl rfl rfl rfl rfl rfl (fun hb25 => ?_) ?_
  rotate_left
  ·
   have fb25 := hb25
   try simp only [bl] at fb25
   refine o_fieldAddr (T := 27) (off := 2) (wants_some rfl rfl hb25) rfl Tryz.underlying29 rfl rfl rfl Tryz.sizeOf27 rfl rfl ?_
   refine o_load1 (wants_some rfl rfl hb25) rfl Tryz.isAgg27 rfl (by repeat constructor) (by repeat constructor) ?_
   refine o_lenSlc (wants_some rfl rfl hb25) rfl Tryz.underlying27 rfl (hsu) ?_
   refine o_pv (wants_some rfl rfl hb25) rfl rfl ?_
   refine o_nil ?_
   exact joins rfl
  refine' o_or trivial trivial rfl rfl rfl rfl rfl rfl rfl rfl (fun hb31 => ?_) ?_
  rotate_left
  ·
   have fb31 := hb31
   try simp only [bl] at fb31
   refine o_fieldAddr (T := 26) (off := 1) (wants_some rfl rfl hb31) rfl Tryz.underlying29 rfl rfl rfl Tryz.sizeOf26 rfl rfl ?_
   refine o_load1 (wants_some rfl rfl hb31) rfl Tryz.isAgg26 rfl (by repeat constructor) (by repeat constructor) ?_
   refine o_lenSlc (wants_some rfl rfl hb31) rfl Tryz.underlying26 rfl (hso) ?_
   refine o_pv (wants_some rfl rfl hb31) rfl rfl ?_
   refine o_nil ?_
   exact joins rfl
  refine o_nil (then_c ?_)
  refine c_cond rfl (fun h1 => ?_) (fun h1 => ?_)
  ·
   have f1 := h1
   try simp only [bl] at f1
   have hno : tapeW t = none := by unfold tapeW; rw [if_pos (by omega)]
   refine c_seq (c_region ?_)
   iterate 2 refine o_pv trivial rfl rfl ?_
   refine o_nil (then_c (c_ret (then_r ?_)))
   refine ret2 rfl rfl rfl ?_
   refine leaf0 ⟨.slice none 0 0, by rw [hno]; rfl, fun l hl => by rw [hno] at hl; cases hl⟩
  ·
   have f1 := h1
   try simp only [bl] at f1
   have hgd : ¬ (t.ins < 1 ∨ 40 < t.ins ∨ t.outs.length < 1 ∨ 40 < t.outs.length ∨ 400 < t.ops.length) := by omega
   refine c_skip (then_c (c_seq (c_region ?_)))
   refine o_pv trivial rfl rfl ?_
   refine o_nil (then_c (c_seq (c_seq (c_region ?_))))
   refine o_fieldAddr (T := 3) (off := 0) trivial rfl Tryz.underlying29 rfl rfl rfl Tryz.sizeOf3 rfl rfl ?_
   refine o_load1 trivial rfl Tryz.isAgg3 rfl (by repeat constructor) (by repeat constructor) ?_
   refine o_pv trivial rfl rfl ?_
   refine o_nil (then_c (c_block ?_))
   refine c_loop (ι := Nat × Value) [1, 38] (.cons rfl (.cons rfl .nil)) (fun x => t.ins.toNat - x.1) (fun x E0 => (4, x.2) :: (39, .int .i64 (x.1 : Int)) :: E0) (fun x => St w [] I [.row x.2 3 1 x.1 (nvs (List.replicate x.1 1)), .box b1 (.cells ([.int .i64 t.ins, vo, vu] : List Value).toArray 29 (0, 0))]) (fun x => x.1 ≤ t.ins.toNat) ((0, .slice none 0 0)) (sub_cons rfl (sub_cons rfl (sub_cons rfl (sub_cons rfl sub_nil)))) (fun _ h => h.nilRow _ _) (Nat.zero_le _) ?_
   rintro ⟨i, u⟩ hi
   try dsimp only
   simp only at hi
   refine c_seq (c_region ?_)
   refine o_pv trivial rfl rfl ?_
   refine o_nil (then_c (c_seq ?_))
   refine c_cond rfl (fun h2 => ?_) (fun h2 => ?_)
   ·
    have f2 := h2
    try simp only [bl] at f2
    refine c_skip (then_c (c_seq (c_block (c_region ?_))))
    refine o_pv trivial rfl rfl ?_
    refine o_buildSl trivial rfl Tryz.underlying27 Tryz.sizeOf3 Tryz.zeroValue3 (by decide) (by decide) rfl (by repeat first | exact rfl | constructor) rfl (fun b42 => ?_)
    refine o_appendBox trivial rfl Tryz.underlying27 (elem3) (by decide) rfl rfl (fun v' => (by repeat constructor)) (by repeat constructor) rfl (by first | rfl | decide) (by first | omega | (unfold maxLen; omega)) (by omega) (fun v43 => ?_)
    refine o_pv trivial rfl rfl ?_
    refine o_nil (blk_n (then_c (c_region ?_)))
    first | (refine o_add trivial rfl rfl rfl ?_ ?_; (omega)) | refine o_pv trivial rfl rfl ?_
    refine o_pv trivial rfl rfl ?_
    refine o_nil ?_
    exact again (i + 1, v43) (sub_cons rfl (sub_cons rfl (sub_cons rfl (sub_cons rfl sub_nil)))) (fun _ h => by rw [← nvs_ones]; exact h.sort (by repeat constructor)) (by show t.ins.toNat - (i + 1) < t.ins.toNat - i; omega) (by show i + 1 ≤ _; omega)
   ·
    have f2 := h2
    try simp only [bl] at f2
    refine c_exit (then_x (then_x (blk_eq rfl (then_c (c_seq (c_seq ?_))))))
    have hin : i = t.ins.toNat := by omega
    subst hin
    refine c_region ?_
    refine o_fieldAddr (T := 26) (off := 1) trivial rfl Tryz.underlying29 rfl rfl rfl Tryz.sizeOf26 rfl rfl ?_
    refine o_load1 trivial rfl Tryz.isAgg26 rfl (by repeat constructor) (by repeat constructor) ?_
    refine o_lenSlc trivial rfl Tryz.underlying26 rfl (hso) ?_
    refine o_pv trivial rfl rfl ?_
    refine o_nil (then_c (c_block ?_))
    refine c_loop (ι := Nat × List Nat × Value) [1, 46, 47] (.cons rfl (.cons rfl (.cons rfl .nil))) (fun x => t.ops.length - x.1) (fun x E0 => (4, x.2.2) :: (48, .int .i64 (x.1 : Int)) :: E0) (fun x => St w [] I [.row x.2.2 3 1 x.2.1.length (nvs x.2.1), .box b1 (.cells ([.int .i64 t.ins, vo, vu] : List Value).toArray 29 (0, 0))]) (fun x => x.1 ≤ t.ops.length ∧ x.2.1.length = t.ins.toNat + x.1 ∧ (∀ y ∈ x.2.1, y ≤ 200) ∧ wgts t.ops (List.replicate t.ins.toNat 1) = wgts (t.ops.drop x.1) x.2.1) ((0, List.replicate t.ins.toNat 1, u)) (sub_cons rfl (sub_cons rfl (sub_cons rfl (sub_cons rfl (sub_cons rfl sub_nil))))) (fun _ h => by rw [List.length_replicate]; exact h) (⟨Nat.zero_le _, by rw [List.length_replicate]; rfl, fun y hy => by rw [(List.mem_replicate.1 hy).2]; decide, rfl⟩) ?_
    rintro ⟨i, l, u⟩ ⟨hi, hll, hl2, hW⟩
    try dsimp only
    simp only at hi hll hl2 hW
    refine c_seq (c_region ?_)
    refine o_pv trivial rfl rfl ?_
    refine o_nil (then_c (c_seq ?_))
    refine c_cond rfl (fun h3 => ?_) (fun h3 => ?_)
    ·
     have f3 := h3
     try simp only [bl] at f3
     have hio : i < os.length := by omega
     obtain ⟨o, ho⟩ : ∃ o, os[i]? = some o := ⟨os[i], List.getElem?_eq_getElem hio⟩
     obtain ⟨hvn, hvd⟩ := ht.ok o (List.mem_of_getElem? ho)
     have hto := hoc ho
     have hfo := hf o.c (List.mem_of_getElem? hto)
     rw [wgts_drop hto] at hW
     refine c_skip (then_c (c_seq (c_block (c_seq (c_region ?_)))))
     refine o_elem trivial rfl Tryz.underlying26 Tryz.sizeOf35 rfl (hso) rfl (by omega) ?_
     refine o_loadAI trivial rfl Tryz.isAgg35 Tryz.sizeOf35 rfl rfl (OpV.at_ ht ho) ?_
     refine o_alloc trivial rfl Tryz.zeroValue35 rfl (fun b6 => ?_)
     refine o_store trivial rfl rfl rfl Tryz.sizeOf35 rfl (by first | rfl | (repeat' (first | exact rfl | exact one_nil | refine one_cons ?_ ?_ | exact (Ws.cells1 (by assumption)).2 | exact (Slc.cells1 (by assumption)).2))) (by repeat constructor) (by repeat constructor) ?_
     refine o_nil (then_c (c_seq (c_seq (c_region ?_))))
     refine o_loadA trivial rfl Tryz.isAgg35 Tryz.sizeOf35 rfl (by repeat constructor) (by repeat constructor) ?_
     refine o_callQ trivial rfl Tryz.call70 rfl (fields_any o.c.code o.c.a o.c.b o.c.e o.c.neg o.vn o.vd o.c.n o.c.d hvn hvd hfo.1 hfo.2) ?_
     refine o_pv trivial rfl rfl ?_
     refine o_nil (then_c ?_)
     refine c_cond rfl (fun h4 => ?_) (fun h4 => ?_)
     ·
      have f4 := h4
      try simp only [bl] at f4
      have f4' : fieldsOK o.c = false := f4
      have hno : tapeW t = none := by unfold tapeW; rw [if_neg hgd, hW, f4']; rfl
      refine c_seq (c_region ?_)
      iterate 2 refine o_pv trivial rfl rfl ?_
      refine o_nil (then_c (c_ret (then_r (blk_r (then_r (then_r (blk_r (then_r ?_))))))))
      refine ret2 rfl rfl rfl ?_
      refine leaf (Ext.refl _ _) (List.nil_sublist _) ⟨.slice none 0 0, by rw [hno]; rfl, fun l hl => by rw [hno] at hl; cases hl⟩
     ·
      have f4 := h4
      try simp only [bl] at f4
      have f4' : fieldsOK o.c = true := f4
      rw [if_pos f4'] at hW
      refine c_skip (then_c (c_seq (c_region ?_)))
      refine o_loadA trivial rfl Tryz.isAgg35 Tryz.sizeOf35 rfl (by repeat constructor) (by repeat constructor) ?_
      refine o_pv trivial rfl rfl ?_
      refine o_callK trivial rfl Tryz.call71 rfl (weight_any o.c.code o.c.a o.c.b o.c.e o.c.neg o.vn o.vd u o.c.n o.c.d l hvn hvd (fields_exp f4') (by omega) hl2) (by repeat constructor) ?_
      rintro _ _ _ hx2 ⟨rfl, rfl, m, rfl, hm⟩
      iterate 5 refine o_pv trivial rfl rfl ?_
      refine o_nil (then_c (c_seq (c_seq (c_region ?_))))
      iterate 2 refine o_pv trivial rfl rfl ?_
      refine o_nil (then_c ?_)
      refine c_cond rfl (fun h5 => ?_) (fun h5 => ?_)
      ·
       have f5 := h5
       try simp only [bl] at f5
       have hw5 : wgt o.c l = none := Option.not_isSome_iff_eq_none.1 (by rw [show (wgt o.c l).isSome = false from f5]; decide)
       have hno : tapeW t = none := by unfold tapeW; rw [if_neg hgd, hW, hw5]
       refine c_seq (c_region ?_)
       iterate 2 refine o_pv trivial rfl rfl ?_
       refine o_nil (then_c (c_ret (then_r (blk_r (then_r (then_r (blk_r (then_r ?_))))))))
       refine ret2 rfl rfl rfl ?_
       refine leaf (Ext.refl _ _) (List.nil_sublist _) ⟨.slice none 0 0, by rw [hno]; rfl, fun l hl => by rw [hno] at hl; cases hl⟩
      ·
       have f5 := h5
       try simp only [bl] at f5
       obtain ⟨k, hk⟩ := Option.isSome_iff_exists.1 (show (wgt o.c l).isSome = true from f5)
       rw [hk] at hW
       have hmk := hm k hk
       subst hmk
       refine c_skip (then_c (c_region ?_))
       iterate 2 refine o_pv trivial rfl rfl ?_
       refine o_buildSl trivial rfl Tryz.underlying27 Tryz.sizeOf3 Tryz.zeroValue3 (by decide) (by decide) rfl (by repeat first | exact rfl | constructor) rfl (fun b65 => ?_)
       refine o_appendBox trivial rfl Tryz.underlying27 (elem3) (by decide) rfl rfl (fun v' => (by repeat constructor)) (by repeat constructor) rfl (by first | rfl | decide) (by first | omega | (unfold maxLen; omega)) (by omega) (fun v66 => ?_)
       refine o_pv trivial rfl rfl ?_
       refine o_nil (blk_n (then_c (c_region ?_)))
       first | (refine o_add trivial rfl rfl rfl ?_ ?_; (omega)) | refine o_pv trivial rfl rfl ?_
       refine o_pv trivial rfl rfl ?_
       refine o_nil ?_
       exact again (i + 1, l ++ [k], v66) (sub_cons rfl (sub_cons rfl (sub_cons rfl (sub_cons rfl (sub_cons rfl sub_nil))))) (fun _ h => by rw [← nvs_more, List.length_append]; exact h.sort (by repeat constructor)) (by show t.ops.length - (i + 1) < t.ops.length - i; omega) ⟨by show i + 1 ≤ _; omega, by simp only [List.length_append, List.length_cons, List.length_nil]; omega, by
         intro y hy
         rcases List.mem_append.1 hy with hy | hy
         · exact hl2 y hy
         · rw [List.mem_singleton.1 hy]; exact wgt_le hk, hW⟩
    ·
     have f3 := h3
     try simp only [bl] at f3
     refine c_exit (then_x (then_x (blk_eq rfl (then_c (c_seq (c_seq ?_))))))
     have hio : i = t.ops.length := by omega
     subst hio
     rw [List.drop_length] at hW
     refine c_region ?_
     refine o_fieldAddr (T := 27) (off := 2) trivial rfl Tryz.underlying29 rfl rfl rfl Tryz.sizeOf27 rfl rfl ?_
     refine o_load1 trivial rfl Tryz.isAgg27 rfl (by repeat constructor) (by repeat constructor) ?_
     refine o_lenSlc trivial rfl Tryz.underlying27 rfl (hsu) ?_
     refine o_pv trivial rfl rfl ?_
     refine o_nil (then_c (c_block ?_))
     refine c_loop (ι := Nat) [4, 69, 70] (.cons rfl (.cons rfl (.cons rfl .nil))) (fun x => t.outs.length - x) (fun x E0 => (71, .int .i64 (x : Int)) :: E0) (fun x => St w [] I [.row u 3 1 l.length (nvs l), .box b1 (.cells ([.int .i64 t.ins, vo, vu] : List Value).toArray 29 (0, 0))]) (fun x => x ≤ t.outs.length ∧ ((t.outs.take x).all fun z => decide (0 ≤ z ∧ z < l.length)) = true) (0) (sub_cons rfl (sub_cons rfl (sub_cons rfl (sub_cons rfl sub_nil)))) (fun _ h => h) (⟨Nat.zero_le _, rfl⟩) ?_
     rintro i ⟨hi, hall⟩
     try dsimp only
     refine c_seq (c_region ?_)
     refine o_pv trivial rfl rfl ?_
     refine o_nil (then_c (c_seq ?_))
     refine c_cond rfl (fun h6 => ?_) (fun h6 => ?_)
     ·
      have f6 := h6
      try simp only [bl] at f6
      have hio : i < t.outs.length := by omega
      obtain ⟨z, hz⟩ : ∃ z, t.outs[i]? = some z := ⟨t.outs[i], List.getElem?_eq_getElem hio⟩
      refine c_skip (then_c (c_seq (c_block (c_seq (c_region ?_)))))
      refine o_elem trivial rfl Tryz.underlying27 Tryz.sizeOf3 rfl (hsu) rfl (by omega) ?_
      refine o_load1I trivial rfl Tryz.isAgg3 rfl (ics_at hsu hz) ?_
      refine o_pv trivial rfl rfl ?_
      refine o_nil (then_c (c_seq (c_region ?_)))
      iterate 2 refine o_pv trivial rfl rfl ?_
      refine' o_or trivial trivial rfl rfl rfl rfl rfl rfl rfl rfl (fun hb77 => ?_) ?_
      rotate_left
      ·
       have fb77 := hb77
       try simp only [bl] at fb77
       iterate 2 refine o_pv (wants_some rfl rfl hb77) rfl rfl ?_
       refine o_lenRow (wants_some rfl rfl hb77) rfl Tryz.underlying27 rfl (by repeat constructor) ?_
       refine o_pv (wants_some rfl rfl hb77) rfl rfl ?_
       refine o_nil ?_
       exact joins rfl
      refine o_nil (then_c ?_)
      refine c_cond rfl (fun h7 => ?_) (fun h7 => ?_)
      ·
       have f7 := h7
       try simp only [bl] at f7
       have hno : tapeW t = none := by
         unfold tapeW; rw [if_neg hgd, hW]
         have hz9 : (t.outs.all fun z => decide (0 ≤ z ∧ z < l.length)) = false := by
           rw [List.all_eq_false]
           exact ⟨z, List.mem_of_getElem? hz, by simp; omega⟩
         show (if (t.outs.all fun z => decide (0 ≤ z ∧ z < l.length)) = true then some l else none) = none
         rw [hz9]; rfl
       refine c_seq (c_region ?_)
       iterate 2 refine o_pv trivial rfl rfl ?_
       refine o_nil (then_c (c_ret (blk_r (then_r (then_r (blk_r (then_r ?_)))))))
       refine ret2 rfl rfl rfl ?_
       refine leaf (Ext.refl _ _) (List.nil_sublist _) ⟨.slice none 0 0, by rw [hno]; rfl, fun l hl => by rw [hno] at hl; cases hl⟩
      ·
       have f7 := h7
       try simp only [bl] at f7
       refine c_skip (blk_n (then_c (c_region ?_)))
       first | (refine o_add trivial rfl rfl rfl ?_ ?_; (omega)) | refine o_pv trivial rfl rfl ?_
       refine o_pv trivial rfl rfl ?_
       refine o_nil ?_
       exact again (i + 1) (sub_cons rfl (sub_cons rfl (sub_cons rfl (sub_cons rfl sub_nil)))) (fun _ h => h) (by show t.outs.length - (i + 1) < t.outs.length - i; omega) ⟨by show i + 1 ≤ _; omega, by
         show ((t.outs.take (i + 1)).all _) = true
         rw [List.take_add_one, hz, List.all_append, hall]
         simp; omega⟩
     ·
      have f6 := h6
      try simp only [bl] at f6
      refine c_exit (then_x (then_x (blk_eq rfl (then_c (c_seq ?_)))))
      have hio : i = t.outs.length := by omega
      subst hio
      rw [List.take_length] at hall
      have hyes : tapeW t = some l := by unfold tapeW; rw [if_neg hgd, hW]; show (if (t.outs.all fun z => decide (0 ≤ z ∧ z < l.length)) = true then some l else none) = some l; rw [hall]; rfl
      refine c_region ?_
      iterate 3 refine o_pv trivial rfl rfl ?_
      refine o_nil (then_c (c_ret ?_))
      refine ret2 rfl rfl rfl ?_
      exact fun w' hw' => leafRow (e := 3) (size := 1) (nn := l.length) (u := u) (xss := l.map fun (x : Nat) => [Value.int .i64 (x : Int)]) (by simp) (by intro c hc; obtain ⟨x, _, rfl⟩ := List.mem_map.1 hc; rfl) (by unfold maxLen; omega) (fun I' hl hs' => ⟨u, by rw [hyes]; rfl, fun l' hl' => by rw [hyes] at hl'; cases hl'; exact hs'⟩) w' (by rw [nvs_flat]; exact hw')
theorem tapeRight_any (t : TapeC) (vo vu : Value) (os : List OpV) {I : Hp} (ht : TapeV I vo vu t os) (hf : ∀ o ∈ t.ops, OpC.few 100000 o) : Fun Tryz.prog 30 [.agg #[.int .i64 t.ins, vo, vu]] I [] (fun v _ _ => v = .bool (tapeW t).isSome) := by
  have h1 := ht.so
  have h2 := ht.su
  intro w hw
  refine enter1 _ Tryz.func30 rfl Tryz.ntmps30 rfl ?_ hw
  refine c_seq (c_region ?_)
  refine o_box trivial rfl rfl rfl (fun b1 => ?_)
  refine o_pv trivial rfl rfl ?_
  refine o_nil (then_c (c_seq (c_region ?_)))
  refine o_loadA trivial rfl Tryz.isAgg29 Tryz.sizeOf29 rfl (by repeat constructor) (by repeat constructor) ?_
  refine o_callI trivial rfl Tryz.call51 rfl (weights_any t vo vu os ht hf) ?_
  rintro _ I1 hx1 ⟨u, rfl, hs⟩
  iterate 5 refine o_pv trivial rfl rfl ?_
  refine o_nil (then_c (c_seq (c_region ?_)))
  iterate 2 refine o_pv trivial rfl rfl ?_
  refine o_nil (then_c (c_ret ?_))
  refine ret1 rfl rfl ?_
  exact leaf hx1 (List.nil_sublist _) rfl
end Go.Proofs.YtjgbjaaekknenaaGreat
/-
  Panics that a caller recovers: contracts of functions that panic; a deferred closure. Nothing of the program stands here.
-/
namespace Go.Tw
set_option linter.unusedVariables false
set_option linter.unusedSimpArgs false
set_option linter.unnecessarySimpa false
open Go Go.RowKit
def pe (pv : Value) : List PanicEntry := [{ v := pv, recovered := false }]
/-- A function that panics with pv, and leaves what nobody writes. -/
def FunX (P : Program) (f : FuncId) (vs : List Value) (I : Hp) (Bc : List Item) (pv : Value) : Prop :=
  ∀ w, St w (keysOf Bc) I Bc w → Calls P f vs.toArray w fun e w' => e = .panicked (pe pv) ∧ St w (keysOf Bc) I [] w'
def BPX (P : Program) (fn : Func) (pv : Value) (R : World → Prop) : Exit → Act → World → Prop := bodyPost P fn fun e w' => e = .panicked (pe pv) ∧ R w'
theorem qp_bpx {P : Program} {fn : Func} {pv : Value} {R : World → Prop} : QP (BPX P fn pv R) := ⟨fun c a d v w h => by cases d <;> exact ⟨h.1, h.2⟩⟩
section
variable {P : Program} {Q : Exit → Act → World → Prop} {n : Nat} {D : List Deferred} {E : Env} {S S' : World → Prop} {ops : Array Oper} {rest : List Oper} {d : Nat} {ty : TypeId} {pos : String} {aft : Array Edge} {g : Option (Nat × Bool)} {v : Value} {w0 : World} {X : List Nat} {I : Hp} {B : List Item} {K : Act → World → Prop}
theorem enterE {f : FuncId} {fn : Func} {c : Code} {args : List Value} {R : Ending → World → Prop} (E : Env) (n : Nat) (hf : P.funcs[f]? = some fn) (hb : fn.body = some c) (hn : fn.ntmps = n) (hs : Nat.ble args.length n = true)
    (hE : ∀ i v, look E i = some v → args[i]? = some v) (h : TC P c (bodyPost P fn R) n [] E S) {w : World} (hw : S w) : Calls P f args.toArray w R := by
  have hs' : args.length ≤ n := by simpa using hs
  refine calls_of_wp hf hb (h.out _ _ ⟨?_, rfl, ?_⟩ hw)
  · simp [hn]; omega
  · intro i v hi
    have h1 := hE i v hi
    rw [Array.getD_eq_getD_getElem?, Array.getElem?_append]
    obtain ⟨hlt, h2⟩ := List.getElem?_eq_some_iff.1 h1
    simp [hlt, h2]
theorem enterD {f : FuncId} {fn : Func} {c : Code} {args : List Value} {R : Ending → World → Prop} (E : Env) (n : Nat) (hf : P.funcs[f]? = some fn) (hb : fn.body = some c) (hn : fn.ntmps = n) (hs : Nat.ble args.length n = true)
    (hE : ∀ i v, look E i = some v → args[i]? = some v) (h : TC P c (bodyPostD P fn R) n [] E S) {w : World} (hw : S w) : Calls P f args.toArray w R := by
  have hs' : args.length ≤ n := by simpa using hs
  refine calls_of_wp_defers hf hb (h.out _ _ ⟨?_, rfl, ?_⟩ hw)
  · simp [hn]; omega
  · intro i v hi
    have h1 := hE i v hi
    rw [Array.getD_eq_getD_getElem?, Array.getElem?_append]
    obtain ⟨hlt, h2⟩ := List.getElem?_eq_some_iff.1 h1
    simp [hlt, h2]
theorem arg2 {a0 a1 : Value} : ∀ i v, look [(0, a0), (1, a1)] i = some v → ([a0, a1] : List Value)[i]? = some v := fun i v hi => by
  match i, hi with
  | 0, hi => exact hi
  | 1, hi => exact hi
  | i + 2, hi => cases hi
theorem enterX2 {f : FuncId} {fn : Func} {c : Code} {a0 a1 pv : Value} {R : World → Prop} (n : Nat) (hf : P.funcs[f]? = some fn) (hb : fn.body = some c) (hn : fn.ntmps = n) (hs : Nat.ble 2 n = true)
    (h : TC P c (BPX P fn pv R) n [] [(0, a0), (1, a1)] S) {w : World} (hw : S w) : Calls P f #[a0, a1] w fun e w' => e = .panicked (pe pv) ∧ R w' := enterE (args := [a0, a1]) _ n hf hb hn hs arg2 h hw
theorem enterD2 {f : FuncId} {fn : Func} {c : Code} {a0 a1 : Value} {R : Value → World → Prop} (n : Nat) (hf : P.funcs[f]? = some fn) (hb : fn.body = some c) (hn : fn.ntmps = n) (hs : Nat.ble 2 n = true)
    (h : TC P c (bodyPostD P fn fun e w' => ∃ v, e = .returned v ∧ R v w') n [] [(0, a0), (1, a1)] S) {w : World} (hw : S w) : Ret P f #[a0, a1] w R := enterD (args := [a0, a1]) _ n hf hb hn hs arg2 h hw
theorem retX {fn : Func} {pv : Value} {R : World → Prop} (h : ∀ w, S w → R w) : TE (BPX P fn pv R) (.panic (pe pv)) n [] E S := ⟨fun a w ha hw => ⟨ha.defs, rfl, h w hw⟩⟩
theorem leafX {w : World} {X : List Nat} {I I' : Hp} {B : List Item} (he : I.Le I') : ∀ w', St w X I' B w' → St w X I [] w' := fun _ hw => (hw.drop (List.nil_sublist _)).fewer he
/-- A function ends, and gives its row over. -/
theorem leafRowX {w : World} {e : TypeId} {size nn : Nat} {u v : Value} {xss : List (List Value)} {I I1 : Hp} {B : List Item} {R : Value → Hp → List Item → Prop} (he : Ext w.heap.size I I1) (hn : xss.length = nn) (hlen : ∀ c ∈ xss, c.length = size) (hm : nn ≤ maxLen) (h : ∀ I', I1.Le I' → Slc I' size u xss → R v I' []) :
    ∀ w', St w [] I1 (.row u e size nn xss.flatten :: B) w' → Post w [] I R v w' := fun w' hw' => by
  obtain ⟨I', h1, h2, h3⟩ := hw'.sealRow hn hlen hm
  exact ⟨I', [], h1.drop (List.nil_sublist _), he.trans h2 (Nat.le_refl _), h I' h2.le h3⟩
theorem l_rowCells {l : List Oper} {e : TypeId} {size nn : Nat} {u : Value} {xs : List Value} (hB : Item.row u e size nn xs ∈ B)
    (k : u.cells = [u].toArray ∧ u.oneCell' = true → TL false P ops Q l n D E (St w0 X I B)) : TL false P ops Q l n D E (St w0 X I B) := ⟨fun a w ha hw => by
  have hown : w.ownsRow 0 e size u nn xs := hw.own _ hB
  have hv : u.cells = [u].toArray ∧ u.oneCell' = true := by
    rcases hown.2 with ⟨rfl, h⟩ | ⟨gg, cap, cur, rfl, _⟩
    · exact ⟨rfl, rfl⟩
    · exact ⟨rfl, rfl⟩
  exact (k hv).out a w ha hw⟩
/-- panic(x) -/
theorem o_panic {x : Operand} {T : TypeId} {u : Value} (hg : Wants ops E g) (hx : ev E x = some (.iface T u)) (k : TE Q (.panic (pe (.iface T u))) n D E S) : TL false P ops Q (⟨none, .panic x, ty, pos, aft, g⟩ :: rest) n D E S := ⟨fun a w ha hw => by
  refine wpList_of_run (wanted_of hg ha) ?_
  unfold Oper.wp
  have h1 : (execOp a.eval ⟨none, .panic x, ty, pos, aft, g⟩).run P w = .halt (.panic (.iface T u)) w := by
    simp only [execOp, ha.ev hx]; rfl
  rw [h1]
  exact k.out _ _ ha hw⟩
/-- A value, as an interface's. -/
theorem o_iface {qm : Bool} {t : TypeId} {x : Operand} {kd : IntKind} {z : Int} (hg : Wants ops E g) (hd : Nat.blt d n = true) {ku : IntKind} (hu : P.underlying t = some (.int ku)) (hx : ev E x = some (.int kd z))
    (k : TL qm P ops Q rest n D ((d, .iface t (.int kd z)) :: E) S) : TL qm P ops Q (⟨some d, .makeInterface t x, ty, pos, aft, g⟩ :: rest) n D E S :=
  o_rd hg hd (v := .iface t (.int kd z)) (fun a w ha hw d pos aft g => ⟨w, by simp only [execOp, ha.ev hx, Instr.makeInterface, Sem.run_bind, run_underlying hu, Result.andThen_ok, Sem.run_pure], rfl⟩) k
/-- A call of a function that panics. -/
theorem o_callX {f : FuncId} {args : List Operand} {ats : Array TypeId} {vs : List Value} {Bc B0 : List Item} {pv : Value} (hg : Wants ops E g) (he : ∀ args w, (callFunc f args).run P w = .ok (.enter f args) w) (ha : evs E args = some vs)
    (hc : FunX P f vs I Bc pv) (hB : Takes Bc B B0) (k : TE Q (.panic (pe pv)) n D E (St w0 X I B0)) :
    TL false P ops Q (⟨some d, .call { callee := .value (.func f), args := args.toArray, argTypes := ats }, ty, pos, aft, g⟩ :: rest) n D E (St w0 X I B) := ⟨fun a w hf hw => by
  refine wpList_of_run (wanted_of hg hf) ?_
  have hargs : (args.toArray.map a.eval) = vs.toArray := by
    rw [List.map_toArray, hf.evs ha]
  have hrun : (execOp a.eval ⟨some d, .call { callee := .value (.func f), args := args.toArray, argTypes := ats }, ty, pos, aft, g⟩).run P w = .ok (.enter f vs.toArray) w := by
    simp only [execOp, resolve, Act.eval, Deferred.ofValue, hargs, Sem.run_bind, Sem.run_pure, Result.andThen_ok, invoke]
    simpa using he vs.toArray w
  unfold Oper.wp
  rw [hrun]
  have hw2 : St w0 X I (Bc ++ B0) w := hw.perm hB.perm
  refine Calls.mono (hc w hw2.forCall) ?_
  rintro e w'' ⟨rfl, h1⟩
  have h2 := (St.call hw2 h1 (Ext.refl _ _)).1
  exact k.out _ _ hf h2⟩
/-- What a closure's call puts off. -/
def putOff (f : FuncId) (caps : List Value) : Deferred := { target := .fn (.func f) caps.toArray, args := #[] }
theorem o_defer {f : FuncId} {x : Operand} {caps : List Value} (hg : Wants ops E g) (hx : ev E x = some (.func (.func f) #[] caps.toArray))
    (k : TL false P ops Q rest n (putOff f caps :: D) E S) : TL false P ops Q (⟨none, .defer { callee := .value x, args := #[], argTypes := #[] }, ty, pos, aft, g⟩ :: rest) n D E S := ⟨fun a w ha hw => by
  refine wpList_of_run (wanted_of hg ha) ?_
  unfold Oper.wp
  have h1 : (execOp a.eval ⟨none, .defer { callee := .value x, args := #[], argTypes := #[] }, ty, pos, aft, g⟩).run P w = .ok (.defer (putOff f caps)) w := by
    simp only [execOp, resolve, ha.ev hx, Deferred.ofValue, Sem.run_bind, Sem.run_pure, Result.andThen_ok]
    simp [putOff]
  rw [h1]
  exact k.out _ _ ⟨ha.size, by show _ :: a.defers = _; rw [ha.defs], ha.get⟩ hw⟩
theorem putOff_run {f : FuncId} {caps : List Value} (he : ∀ args w, (callFunc f args).run P w = .ok (.enter f args) w) (w : World) : (invoke (.fn (.func f) caps.toArray) #[]).run P w = .ok (.enter f caps.toArray) w := by
  have e := he caps.toArray w
  simp only [invoke]
  simpa using e
/-- A function that put one closure off returns. -/
theorem retD {fn : Func} {f : FuncId} {caps : List Value} {rs : List ResultVar} {vs : List Value} {R : Value → World → Prop} {B' : List Item} (hres : fn.results = rs.toArray) (he : ∀ args w, (callFunc f args).run P w = .ok (.enter f args) w)
    (hc : ∀ w, St w0 X I B w → CallsD P f caps.toArray .returning w fun e u' w' => (∃ x, e = .returned x) ∧ u' = .returning ∧ St w0 X I B' w')
    (hr : Res P E B' rs vs) (h : ∀ w, St w0 X I B' w → R (tup vs) w) : TE (bodyPostD P fn fun e w' => ∃ v, e = .returned v ∧ R v w') .ret n [putOff f caps] E (St w0 X I B) := ⟨fun a w ha hw => by
  show Leaves P fn a.tmps _ a.defers .returning w
  rw [ha.defs]
  refine leaves_cons (f := f) (args := caps.toArray) (by simp) (putOff_run he w) ?_
  refine (hc w hw).mono ?_
  rintro e u' w' ⟨⟨x, rfl⟩, rfl, hw'⟩
  exact leaves_end hres hr h ha hw'⟩
where
  leaves_end {fn : Func} {rs : List ResultVar} {vs : List Value} {R : Value → World → Prop} {B' : List Item} {D : List Deferred} (hres : fn.results = rs.toArray) (hr : Res P E B' rs vs) (h : ∀ w, St w0 X I B' w → R (tup vs) w) {a : Act} {w' : World} (ha : Fits n D E a) (hw' : St w0 X I B' w') : Leaves P fn a.tmps (fun e w' => ∃ v, e = .returned v ∧ R v w') [] .returning w' := by
    have hrun := hr.run ha hw'
    refine ⟨tup vs, ?_, _, rfl, h w' hw'⟩
    simp only [results, hres, List.mapM_toArray, Sem.run_bind, Sem.run_map]
    erw [hrun]
    simp only [Result.andThen_ok, Sem.run_pure]
    cases vs with
    | nil => rfl
    | cons v r => cases r with
      | nil => rfl
      | cons v2 r => simp [tup]
/-- .. panics, and the closure recovers. -/
theorem panD {fn : Func} {f : FuncId} {pv : Value} {caps : List Value} {rs : List ResultVar} {vs : List Value} {R : Value → World → Prop} {B' : List Item} (hres : fn.results = rs.toArray) (he : ∀ args w, (callFunc f args).run P w = .ok (.enter f args) w)
    (hc : ∀ w, St w0 X I B w → CallsD P f caps.toArray (.panicking (pe pv)) w fun e u' w' => (∃ x, e = .returned x) ∧ u' = .panicking [{ v := pv, recovered := true }] ∧ St w0 X I B' w')
    (hr : Res P E B' rs vs) (h : ∀ w, St w0 X I B' w → R (tup vs) w) : TE (bodyPostD P fn fun e w' => ∃ v, e = .returned v ∧ R v w') (.panic (pe pv)) n [putOff f caps] E (St w0 X I B) := ⟨fun a w ha hw => by
  show Leaves P fn a.tmps _ a.defers (.panicking (pe pv)) w
  rw [ha.defs]
  refine leaves_cons (f := f) (args := caps.toArray) (by simp) (putOff_run he w) ?_
  refine (hc w hw).mono ?_
  rintro e u' w' ⟨⟨x, rfl⟩, rfl, hw'⟩
  exact retD.leaves_end hres hr h ha hw'⟩
end
end Go.Tw
/-
  Layer 15 of the program: what an op comes to.
-/
namespace Go.Tw
open Go
set_option linter.unusedVariables false
set_option linter.unusedSimpArgs false
set_option linter.unnecessarySimpa false
set_option maxHeartbeats 1000000
/-- A number in memory, with its words' slices. -/
structure RV where
  q : Rat
  vn : Value
  vd : Value
def RV.cells (r : RV) : List Value := [.bool (decide (r.q.num < 0)), r.vn, r.vd]
def RV.ok (I : Hp) (r : RV) : Prop := Ws I r.vn (natW r.q.num.natAbs) ∧ Ws I r.vd (natW r.q.den)
theorem RV.ok.le {I I' : Hp} {r : RV} (h : r.ok I) (hl : I.Le I') : r.ok I' := ⟨h.1.le hl, h.2.le hl⟩
def rcs (rs : List RV) : List (List Value) := rs.map RV.cells
theorem rcs_len (rs : List RV) : (rcs rs).length = rs.length := by simp [rcs]
theorem rcs_three (rs : List RV) : ∀ c ∈ rcs rs, c.length = 3 := by
  intro c hc
  obtain ⟨r, _, rfl⟩ := List.mem_map.1 hc
  rfl
theorem flat_at3 {size : Nat} : ∀ {xss : List (List Value)}, (∀ c ∈ xss, c.length = size) → ∀ j c, xss[j]? = some c → ∀ k y, c[k]? = some y → xss.flatten[j * size + k]? = some y
  | [], _, j, c, hj, k, y, hk => by simp at hj
  | x :: r, hl, 0, c, hj, k, y, hk => by
    simp only [List.getElem?_cons_zero, Option.some.injEq] at hj
    subst hj
    rw [List.flatten_cons, Nat.zero_mul, Nat.zero_add, List.getElem?_append_left (List.getElem?_eq_some_iff.1 hk).1]
    exact hk
  | x :: r, hl, j + 1, c, hj, k, y, hk => by
    have hx := hl x List.mem_cons_self
    simp only [List.getElem?_cons_succ] at hj
    have ih := flat_at3 (fun c hc => hl c (List.mem_cons_of_mem _ hc)) j c hj k y hk
    rw [List.flatten_cons, List.getElem?_append_right (by rw [hx, Nat.add_mul, Nat.one_mul]; omega), hx]
    rw [show (j + 1) * size + k - size = j * size + k by rw [Nat.add_mul, Nat.one_mul]; omega]
    exact ih
theorem rcs_at {rs : List RV} {i : Nat} {r : RV} (h : rs[i]? = some r) : ∀ k y, ([.bool (decide (r.q.num < 0)), r.vn, r.vd] : List Value)[k]? = some y → (rcs rs).flatten[i * 3 + k]? = some y :=
  flat_at3 (rcs_three rs) i _ (by unfold rcs; rw [List.getElem?_map, h]; rfl)
def zth (l : List Rat) (i : Int) : Rat := l.getD i.toNat 0
/-- What an op comes to. -/
def opR (o : OpC) (l : List Rat) : Option Rat :=
  if o.code = 2 then some (zth l o.a + zth l o.b)
  else if o.code = 3 then some (zth l o.a - zth l o.b)
  else if o.code = 4 then some (zth l o.a * zth l o.b)
  else if o.code = 5 then (if zth l o.b = 0 then none else some (zth l o.a / zth l o.b))
  else if o.code = 6 then some (-zth l o.a)
  else if o.code = 7 then (if o.e < 0 ∧ zth l o.a = 0 then none else some (zth l o.a ^ o.e))
  else some (lowQ o.neg (val o.n) (val o.d))
/-- An op whose places are there, and whose numbers are not too long. -/
structure OpOK (o : OpC) (l : List Rat) : Prop where
  place : 2 ≤ o.code → o.code ≤ 7 → 0 ≤ o.a ∧ o.a < l.length ∧ 0 ≤ o.b ∧ o.b < l.length
  few : ∀ q ∈ l, Few 50000 q
  pow : o.code = 7 → ∃ c, Few c (zth l o.a) ∧ c ≤ 4096 ∧ c * o.e.natAbs ≤ 4096 ∧ -64 ≤ o.e ∧ o.e ≤ 64
  lits : o.n.length ≤ 100000 ∧ o.d.length ≤ 100000
end Go.Tw
namespace Go.Proofs.YtjgbjaaekknenaaGreat
open Go Go.Tw
set_option linter.unusedVariables false
set_option linter.unusedSimpArgs false
set_option linter.unnecessarySimpa false
set_option maxHeartbeats 1000000
theorem must_any (s : Bool) (x y : Value) (X Y : List Nat) {I : Hp} (hx : Ws I x X) (hy : Ws I y Y) : Fun Tryz.prog 75 [.agg #[.bool s, x, y], .int .i64 0] I [] (fun v _ _ => v = .agg #[.bool s, x, y]) := by
  intro w hw
  refine enter2 _ Tryz.func75 rfl Tryz.ntmps75 rfl ?_ hw
  refine c_seq (c_region ?_)
  refine o_box trivial rfl rfl rfl (fun b2 => ?_)
  refine o_alloc trivial rfl Tryz.zeroValue33 rfl (fun b4 => ?_)
  refine o_nil (then_c (c_seq (c_seq (c_region ?_))))
  iterate 2 refine o_pv trivial rfl rfl ?_
  refine o_nil (then_c ?_)
  refine c_cond_f rfl (by rfl) ?_
  refine c_skip (then_c (c_seq (c_region ?_)))
  refine o_loadA trivial rfl Tryz.isAgg33 Tryz.sizeOf33 rfl (by repeat constructor) (by repeat constructor) ?_
  refine o_store trivial rfl rfl rfl Tryz.sizeOf33 rfl (by first | rfl | (repeat' (first | exact rfl | exact one_nil | refine one_cons ?_ ?_ | exact (Ws.cells1 (by assumption)).2 | exact (Slc.cells1 (by assumption)).2))) (by repeat constructor) (by repeat constructor) ?_
  refine o_nil (then_c (c_ret ?_))
  refine retR rfl (.agg Tryz.isAgg33 Tryz.sizeOf33 rfl (by repeat constructor) rfl .nil) ?_
  exact leaf0 rfl
/-- What must panics with. -/
def zeroErr : Value := .iface 39 (.int .i64 3)
theorem must_pan (v : Value) (s : Bool) (x y : Value) {I : Hp} (hv : v = .agg #[.bool s, x, y]) : FunX Tryz.prog 75 [v, .int .i64 3] I [] zeroErr := by
  subst hv
  intro w hw
  refine enterX2 _ Tryz.func75 rfl Tryz.ntmps75 rfl ?_ hw
  refine c_seq (c_region ?_)
  refine o_box trivial rfl rfl rfl (fun b2 => ?_)
  refine o_alloc trivial rfl Tryz.zeroValue33 rfl (fun b4 => ?_)
  refine o_nil (then_c (c_seq (c_seq (c_region ?_))))
  iterate 2 refine o_pv trivial rfl rfl ?_
  refine o_nil (then_c ?_)
  refine c_cond_t rfl (by rfl) ?_
  refine c_region ?_
  refine o_pv trivial rfl rfl ?_
  refine o_iface trivial rfl Tryz.underlying39 rfl ?_
  refine o_panic trivial rfl ?_
  refine then_p ?_
  refine retX ?_
  exact leafX (Hp.Le.refl _)
theorem rv_at (rs : List RV) (i : Int) (h : 0 ≤ i ∧ i < (rs.length : Nat)) : ∃ r, rs[i.toNat]? = some r ∧ r ∈ rs ∧ zth (rs.map RV.q) i = r.q := by
  refine ⟨rs[i.toNat]'(by omega), List.getElem?_eq_getElem _, List.getElem_mem _, ?_⟩
  unfold zth
  rw [List.getD_eq_getElem?_getD, List.getElem?_map, List.getElem?_eq_getElem (by omega : i.toNat < rs.length)]; rfl
theorem okR_fun {f : FuncId} {args : List Value} {I : Hp} {e : Prop} [Decidable e] {q : Rat} (h : Fun Tryz.prog f args I [] (fun v I' _ => okR e q I' v)) (he : ¬ e) : Fun Tryz.prog f args I [] (fun v I' _ => ∃ u1 u2, v = .tuple #[.agg #[.bool (decide (q.num < 0)), u1, u2], .int .i64 0] ∧ Ws I' u1 (natW q.num.natAbs) ∧ Ws I' u2 (natW q.den)) := fun w hw => (h w hw).mono fun v w' ⟨I', B', h1, h2, h3⟩ => by
  obtain ⟨u, rfl, u1, u2, rfl, h4, h5⟩ := h3.ratV he
  exact ⟨I', B', h1, h2, u1, u2, rfl, h4, h5⟩
theorem okR_not {f : FuncId} {args : List Value} {I : Hp} {e : Prop} [Decidable e] {q : Rat} (h : Fun Tryz.prog f args I [] (fun v I' _ => okR e q I' v)) (he : e) : Fun Tryz.prog f args I [] (fun v I' _ => ∃ s u1 u2, v = .tuple #[.agg #[.bool s, u1, u2], .int .i64 3]) := fun w hw => (h w hw).mono fun v w' ⟨I', B', h1, h2, h3⟩ => by
  obtain ⟨s, x, y, X, Y, rfl, h4, h5, h6⟩ := h3
  rw [if_pos he]
  exact ⟨I', B', h1, h2, s, x, y, rfl⟩
theorem opR_none {o : OpC} {l : List Rat} (h : opR o l = none) : (o.code = 5 ∧ zth l o.b = 0) ∨ (o.code = 7 ∧ o.e < 0 ∧ zth l o.a = 0) := by
  unfold opR at h
  split at h
  · cases h
  split at h
  · cases h
  split at h
  · cases h
  split at h
  · split at h
    · exact .inl ⟨by assumption, by assumption⟩
    · cases h
  split at h
  · cases h
  split at h
  · split at h
    · rename_i h1 h2; exact .inr ⟨h1, h2⟩
    · cases h
  · cases h
theorem op_any (code a b e : Int) (neg : Bool) (va vb u : Value) (A B : List Nat) (rs : List RV) (q : Rat) {I : Hp} (ha : Ws I va A) (hb : Ws I vb B) (hr : ∀ r ∈ rs, r.ok I) (ok : OpOK ⟨code, a, b, e, neg, A, B⟩ (rs.map RV.q)) (hq : opR ⟨code, a, b, e, neg, A, B⟩ (rs.map RV.q) = some q) :
    Fun Tryz.prog 53 [.agg #[.int .i64 code, .int .i64 a, .int .i64 b, .int .i64 e, .bool neg, va, vb], u] I [.row u 33 3 rs.length (rcs rs).flatten] (fun v I' B' => B' = [.row u 33 3 rs.length (rcs rs).flatten] ∧ RatV I' v q) := by
  obtain ⟨place, few, pow, lits⟩ := ok
  simp only [List.length_map] at place few pow lits
  unfold opR at hq
  dsimp only at hq
  intro w hw
  refine enter2 _ Tryz.func53 rfl Tryz.ntmps53 rfl ?_ hw
  refine c_seq (c_region ?_)
  refine o_box trivial rfl rfl rfl (fun b2 => ?_)
  refine o_alloc trivial rfl Tryz.zeroValue33 rfl (fun b4 => ?_)
  refine o_nil (then_c (c_seq (c_seq (c_region ?_))))
  refine o_fieldAddr (T := 3) (off := 0) trivial rfl Tryz.underlying35 rfl rfl rfl Tryz.sizeOf3 rfl rfl ?_
  refine o_load1 trivial rfl Tryz.isAgg3 rfl (by repeat constructor) (by repeat constructor) ?_
  refine o_nil (then_c (c_block (c_seq (c_region ?_))))
  iterate 2 refine o_pv trivial rfl rfl ?_
  refine o_nil (then_c ?_)
  refine c_cond rfl (fun h1 => ?_) (fun h1 => ?_)
  ·
   have f1 := h1
   try simp only [bl] at f1
   obtain ⟨r1, hr1, hm1, hz1⟩ := rv_at rs a (by have := place (by omega) (by omega); omega)
   obtain ⟨r2, hr2, hm2, hz2⟩ := rv_at rs b (by have := place (by omega) (by omega); omega)
   obtain ⟨hn1, hd1⟩ := hr r1 hm1
   obtain ⟨hn2, hd2⟩ := hr r2 hm2
   have hf1 := few r1.q (List.mem_map_of_mem hm1)
   have hf2 := few r2.q (List.mem_map_of_mem hm2)
   have hp := place (by omega) (by omega)
   have e9 : q = r1.q + r2.q := by rw [if_pos f1, hz1, hz2] at hq; exact (Option.some.inj hq).symm
   subst e9
   refine c_seq ?_
   refine h_beginB (m := 12) [.box b2 _, .row u 33 3 rs.length (rcs rs).flatten] (by repeat constructor) (by kernel_rfl) rfl ?_
   refine' h_take (i := 0) #[true, false, false, false, false, false, false, false, false, false, false, false] rfl rfl rfl (by kernel_rfl) (by kernel_rfl) (by kernel_rfl) rfl (qp_then (qp_blk (qp_then qp_bp))) (fun _ h => (h.sort (by repeat constructor)).fewer (Hp.Le.refl _)) ?hh0 ?kk0
   case hh0 =>
    refine o_pv trivial rfl rfl ?_
    refine o_nil ?_
    exact ⟨fun _ _ ha _ => ha⟩
   refine' h_take (i := 1) #[true, true, false, false, false, false, false, false, false, false, false, false] rfl rfl rfl (by kernel_rfl) (by kernel_rfl) (by kernel_rfl) rfl (qp_then (qp_blk (qp_then qp_bp))) (fun _ h => (h.sort (by repeat constructor)).fewer (Hp.Le.refl _)) ?hh1 ?kk1
   case hh1 =>
    refine o_fieldAddr (T := 3) (off := 1) trivial rfl Tryz.underlying35 rfl rfl rfl Tryz.sizeOf3 rfl rfl ?_
    refine o_nil ?_
    exact ⟨fun _ _ ha _ => ha⟩
   refine' h_take (i := 2) #[true, true, true, false, false, false, false, false, false, false, false, false] rfl rfl rfl (by kernel_rfl) (by kernel_rfl) (by kernel_rfl) rfl (qp_then (qp_blk (qp_then qp_bp))) (fun _ h => (h.sort (by repeat constructor)).fewer (Hp.Le.refl _)) ?hh2 ?kk2
   case hh2 =>
    refine o_load1 trivial rfl Tryz.isAgg3 rfl (by repeat constructor) (by repeat constructor) ?_
    refine o_nil ?_
    exact ⟨fun _ _ ha _ => ha⟩
   refine' h_take (i := 3) #[true, true, true, true, false, false, false, false, false, false, false, false] rfl rfl rfl (by kernel_rfl) (by kernel_rfl) (by kernel_rfl) rfl (qp_then (qp_blk (qp_then qp_bp))) (fun _ h => (h.sort (by repeat constructor)).fewer (Hp.Le.refl _)) ?hh3 ?kk3
   case hh3 =>
    refine o_elemRow trivial rfl Tryz.underlying37 Tryz.sizeOf33 rfl (by repeat constructor) rfl (by omega) ?_
    refine o_nil ?_
    exact ⟨fun _ _ ha _ => ha⟩
   refine' h_take (i := 4) #[true, true, true, true, true, false, false, false, false, false, false, false] rfl rfl rfl (by kernel_rfl) (by kernel_rfl) (by kernel_rfl) rfl (qp_then (qp_blk (qp_then qp_bp))) (fun _ h => (h.sort (by repeat constructor)).fewer (Hp.Le.refl _)) ?hh4 ?kk4
   case hh4 =>
    refine o_loadRowA trivial rfl Tryz.isAgg33 Tryz.sizeOf33 (by repeat constructor) rfl rfl (rcs_at hr1) ?_
    refine o_nil ?_
    exact ⟨fun _ _ ha _ => ha⟩
   refine' h_take (i := 5) #[true, true, true, true, true, true, false, false, false, false, false, false] rfl rfl rfl (by kernel_rfl) (by kernel_rfl) (by kernel_rfl) rfl (qp_then (qp_blk (qp_then qp_bp))) (fun _ h => (h.sort (by repeat constructor)).fewer (Hp.Le.refl _)) ?hh5 ?kk5
   case hh5 =>
    refine o_pv trivial rfl rfl ?_
    refine o_nil ?_
    exact ⟨fun _ _ ha _ => ha⟩
   refine' h_take (i := 6) #[true, true, true, true, true, true, true, false, false, false, false, false] rfl rfl rfl (by kernel_rfl) (by kernel_rfl) (by kernel_rfl) rfl (qp_then (qp_blk (qp_then qp_bp))) (fun _ h => (h.sort (by repeat constructor)).fewer (Hp.Le.refl _)) ?hh6 ?kk6
   case hh6 =>
    refine o_fieldAddr (T := 3) (off := 2) trivial rfl Tryz.underlying35 rfl rfl rfl Tryz.sizeOf3 rfl rfl ?_
    refine o_nil ?_
    exact ⟨fun _ _ ha _ => ha⟩
   refine' h_take (i := 7) #[true, true, true, true, true, true, true, true, false, false, false, false] rfl rfl rfl (by kernel_rfl) (by kernel_rfl) (by kernel_rfl) rfl (qp_then (qp_blk (qp_then qp_bp))) (fun _ h => (h.sort (by repeat constructor)).fewer (Hp.Le.refl _)) ?hh7 ?kk7
   case hh7 =>
    refine o_load1 trivial rfl Tryz.isAgg3 rfl (by repeat constructor) (by repeat constructor) ?_
    refine o_nil ?_
    exact ⟨fun _ _ ha _ => ha⟩
   refine' h_take (i := 8) #[true, true, true, true, true, true, true, true, true, false, false, false] rfl rfl rfl (by kernel_rfl) (by kernel_rfl) (by kernel_rfl) rfl (qp_then (qp_blk (qp_then qp_bp))) (fun _ h => (h.sort (by repeat constructor)).fewer (Hp.Le.refl _)) ?hh8 ?kk8
   case hh8 =>
    refine o_elemRow trivial rfl Tryz.underlying37 Tryz.sizeOf33 rfl (by repeat constructor) rfl (by omega) ?_
    refine o_nil ?_
    exact ⟨fun _ _ ha _ => ha⟩
   refine' h_take (i := 9) #[true, true, true, true, true, true, true, true, true, true, false, false] rfl rfl rfl (by kernel_rfl) (by kernel_rfl) (by kernel_rfl) rfl (qp_then (qp_blk (qp_then qp_bp))) (fun _ h => (h.sort (by repeat constructor)).fewer (Hp.Le.refl _)) ?hh9 ?kk9
   case hh9 =>
    refine o_loadRowA trivial rfl Tryz.isAgg33 Tryz.sizeOf33 (by repeat constructor) rfl rfl (rcs_at hr2) ?_
    refine o_nil ?_
    exact ⟨fun _ _ ha _ => ha⟩
   refine h_go [10] (by kernel_rfl) rfl (TWHs.cons ?_ TWHs.nil)
   refine h_op #[true, true, true, true, true, true, true, true, true, true, true, false] rfl rfl ?_
   refine o_callI trivial rfl Tryz.call72 rfl (qAdd_any r1.q r2.q _ _ _ _ hn1 hd1 hn2 hd2 hf1 hf2) ?_
   rintro _ I1 hx1 ⟨u1, u2, rfl, hs1, hs2⟩
   refine o_nil ?_
   refine h_next (fun _ h => (h.sort (by repeat constructor)).fewer (hx1.le)) ?_
   refine h_go [11] (by kernel_rfl) rfl (TWHs.cons ?_ TWHs.nil)
   refine h_op #[true, true, true, true, true, true, true, true, true, true, true, true] rfl rfl ?_
   refine o_store trivial rfl rfl rfl Tryz.sizeOf33 rfl (by first | rfl | (repeat' (first | exact rfl | exact one_nil | refine one_cons ?_ ?_ | exact (Ws.cells1 (by assumption)).2 | exact (Slc.cells1 (by assumption)).2))) (by repeat constructor) (by repeat constructor) ?_
   refine o_nil ?_
   refine h_next (fun _ h => (h.sort (by repeat constructor)).fewer (hx1.le)) ?_
   refine h_end (by kernel_rfl) ?_
   refine then_c (c_ret (blk_r (then_r ?_)))
   refine retR rfl (.agg Tryz.isAgg33 Tryz.sizeOf33 rfl (by repeat constructor) rfl .nil) ?_
   exact fun w' hw' => ⟨_, [.row u 33 3 rs.length (rcs rs).flatten], hw'.sort (by repeat constructor), hx1, rfl, u1, u2, rfl, hs1, hs2⟩
  ·
   have f1 := h1
   try simp only [bl] at f1
   refine c_seq (c_region ?_)
   iterate 2 refine o_pv trivial rfl rfl ?_
   refine o_nil (then_c ?_)
   refine c_cond rfl (fun h2 => ?_) (fun h2 => ?_)
   ·
    have f2 := h2
    try simp only [bl] at f2
    obtain ⟨r1, hr1, hm1, hz1⟩ := rv_at rs a (by have := place (by omega) (by omega); omega)
    obtain ⟨r2, hr2, hm2, hz2⟩ := rv_at rs b (by have := place (by omega) (by omega); omega)
    obtain ⟨hn1, hd1⟩ := hr r1 hm1
    obtain ⟨hn2, hd2⟩ := hr r2 hm2
    have hf1 := few r1.q (List.mem_map_of_mem hm1)
    have hf2 := few r2.q (List.mem_map_of_mem hm2)
    have hp := place (by omega) (by omega)
    have e9 : q = r1.q - r2.q := by rw [if_neg f1, if_pos f2, hz1, hz2] at hq; exact (Option.some.inj hq).symm
    subst e9
    refine c_seq ?_
    refine h_beginB (m := 12) [.box b2 _, .row u 33 3 rs.length (rcs rs).flatten] (by repeat constructor) (by kernel_rfl) rfl ?_
    refine' h_take (i := 0) #[true, false, false, false, false, false, false, false, false, false, false, false] rfl rfl rfl (by kernel_rfl) (by kernel_rfl) (by kernel_rfl) rfl (qp_then (qp_blk (qp_then qp_bp))) (fun _ h => (h.sort (by repeat constructor)).fewer (Hp.Le.refl _)) ?hh10 ?kk10
    case hh10 =>
     refine o_pv trivial rfl rfl ?_
     refine o_nil ?_
     exact ⟨fun _ _ ha _ => ha⟩
    refine' h_take (i := 1) #[true, true, false, false, false, false, false, false, false, false, false, false] rfl rfl rfl (by kernel_rfl) (by kernel_rfl) (by kernel_rfl) rfl (qp_then (qp_blk (qp_then qp_bp))) (fun _ h => (h.sort (by repeat constructor)).fewer (Hp.Le.refl _)) ?hh11 ?kk11
    case hh11 =>
     refine o_fieldAddr (T := 3) (off := 1) trivial rfl Tryz.underlying35 rfl rfl rfl Tryz.sizeOf3 rfl rfl ?_
     refine o_nil ?_
     exact ⟨fun _ _ ha _ => ha⟩
    refine' h_take (i := 2) #[true, true, true, false, false, false, false, false, false, false, false, false] rfl rfl rfl (by kernel_rfl) (by kernel_rfl) (by kernel_rfl) rfl (qp_then (qp_blk (qp_then qp_bp))) (fun _ h => (h.sort (by repeat constructor)).fewer (Hp.Le.refl _)) ?hh12 ?kk12
    case hh12 =>
     refine o_load1 trivial rfl Tryz.isAgg3 rfl (by repeat constructor) (by repeat constructor) ?_
     refine o_nil ?_
     exact ⟨fun _ _ ha _ => ha⟩
    refine' h_take (i := 3) #[true, true, true, true, false, false, false, false, false, false, false, false] rfl rfl rfl (by kernel_rfl) (by kernel_rfl) (by kernel_rfl) rfl (qp_then (qp_blk (qp_then qp_bp))) (fun _ h => (h.sort (by repeat constructor)).fewer (Hp.Le.refl _)) ?hh13 ?kk13
    case hh13 =>
     refine o_elemRow trivial rfl Tryz.underlying37 Tryz.sizeOf33 rfl (by repeat constructor) rfl (by omega) ?_
     refine o_nil ?_
     exact ⟨fun _ _ ha _ => ha⟩
    refine' h_take (i := 4) #[true, true, true, true, true, false, false, false, false, false, false, false] rfl rfl rfl (by kernel_rfl) (by kernel_rfl) (by kernel_rfl) rfl (qp_then (qp_blk (qp_then qp_bp))) (fun _ h => (h.sort (by repeat constructor)).fewer (Hp.Le.refl _)) ?hh14 ?kk14
    case hh14 =>
     refine o_loadRowA trivial rfl Tryz.isAgg33 Tryz.sizeOf33 (by repeat constructor) rfl rfl (rcs_at hr1) ?_
     refine o_nil ?_
     exact ⟨fun _ _ ha _ => ha⟩
    refine' h_take (i := 5) #[true, true, true, true, true, true, false, false, false, false, false, false] rfl rfl rfl (by kernel_rfl) (by kernel_rfl) (by kernel_rfl) rfl (qp_then (qp_blk (qp_then qp_bp))) (fun _ h => (h.sort (by repeat constructor)).fewer (Hp.Le.refl _)) ?hh15 ?kk15
    case hh15 =>
     refine o_pv trivial rfl rfl ?_
     refine o_nil ?_
     exact ⟨fun _ _ ha _ => ha⟩
    refine' h_take (i := 6) #[true, true, true, true, true, true, true, false, false, false, false, false] rfl rfl rfl (by kernel_rfl) (by kernel_rfl) (by kernel_rfl) rfl (qp_then (qp_blk (qp_then qp_bp))) (fun _ h => (h.sort (by repeat constructor)).fewer (Hp.Le.refl _)) ?hh16 ?kk16
    case hh16 =>
     refine o_fieldAddr (T := 3) (off := 2) trivial rfl Tryz.underlying35 rfl rfl rfl Tryz.sizeOf3 rfl rfl ?_
     refine o_nil ?_
     exact ⟨fun _ _ ha _ => ha⟩
    refine' h_take (i := 7) #[true, true, true, true, true, true, true, true, false, false, false, false] rfl rfl rfl (by kernel_rfl) (by kernel_rfl) (by kernel_rfl) rfl (qp_then (qp_blk (qp_then qp_bp))) (fun _ h => (h.sort (by repeat constructor)).fewer (Hp.Le.refl _)) ?hh17 ?kk17
    case hh17 =>
     refine o_load1 trivial rfl Tryz.isAgg3 rfl (by repeat constructor) (by repeat constructor) ?_
     refine o_nil ?_
     exact ⟨fun _ _ ha _ => ha⟩
    refine' h_take (i := 8) #[true, true, true, true, true, true, true, true, true, false, false, false] rfl rfl rfl (by kernel_rfl) (by kernel_rfl) (by kernel_rfl) rfl (qp_then (qp_blk (qp_then qp_bp))) (fun _ h => (h.sort (by repeat constructor)).fewer (Hp.Le.refl _)) ?hh18 ?kk18
    case hh18 =>
     refine o_elemRow trivial rfl Tryz.underlying37 Tryz.sizeOf33 rfl (by repeat constructor) rfl (by omega) ?_
     refine o_nil ?_
     exact ⟨fun _ _ ha _ => ha⟩
    refine' h_take (i := 9) #[true, true, true, true, true, true, true, true, true, true, false, false] rfl rfl rfl (by kernel_rfl) (by kernel_rfl) (by kernel_rfl) rfl (qp_then (qp_blk (qp_then qp_bp))) (fun _ h => (h.sort (by repeat constructor)).fewer (Hp.Le.refl _)) ?hh19 ?kk19
    case hh19 =>
     refine o_loadRowA trivial rfl Tryz.isAgg33 Tryz.sizeOf33 (by repeat constructor) rfl rfl (rcs_at hr2) ?_
     refine o_nil ?_
     exact ⟨fun _ _ ha _ => ha⟩
    refine h_go [10] (by kernel_rfl) rfl (TWHs.cons ?_ TWHs.nil)
    refine h_op #[true, true, true, true, true, true, true, true, true, true, true, false] rfl rfl ?_
    refine o_callI trivial rfl Tryz.call73 rfl (qSub_any r1.q r2.q _ _ _ _ hn1 hd1 hn2 hd2 hf1 hf2) ?_
    rintro _ I1 hx1 ⟨u1, u2, rfl, hs1, hs2⟩
    refine o_nil ?_
    refine h_next (fun _ h => (h.sort (by repeat constructor)).fewer (hx1.le)) ?_
    refine h_go [11] (by kernel_rfl) rfl (TWHs.cons ?_ TWHs.nil)
    refine h_op #[true, true, true, true, true, true, true, true, true, true, true, true] rfl rfl ?_
    refine o_store trivial rfl rfl rfl Tryz.sizeOf33 rfl (by first | rfl | (repeat' (first | exact rfl | exact one_nil | refine one_cons ?_ ?_ | exact (Ws.cells1 (by assumption)).2 | exact (Slc.cells1 (by assumption)).2))) (by repeat constructor) (by repeat constructor) ?_
    refine o_nil ?_
    refine h_next (fun _ h => (h.sort (by repeat constructor)).fewer (hx1.le)) ?_
    refine h_end (by kernel_rfl) ?_
    refine then_c (c_ret (blk_r (then_r ?_)))
    refine retR rfl (.agg Tryz.isAgg33 Tryz.sizeOf33 rfl (by repeat constructor) rfl .nil) ?_
    exact fun w' hw' => ⟨_, [.row u 33 3 rs.length (rcs rs).flatten], hw'.sort (by repeat constructor), hx1, rfl, u1, u2, rfl, hs1, hs2⟩
   ·
    have f2 := h2
    try simp only [bl] at f2
    refine c_seq (c_region ?_)
    iterate 2 refine o_pv trivial rfl rfl ?_
    refine o_nil (then_c ?_)
    refine c_cond rfl (fun h3 => ?_) (fun h3 => ?_)
    ·
     have f3 := h3
     try simp only [bl] at f3
     obtain ⟨r1, hr1, hm1, hz1⟩ := rv_at rs a (by have := place (by omega) (by omega); omega)
     obtain ⟨r2, hr2, hm2, hz2⟩ := rv_at rs b (by have := place (by omega) (by omega); omega)
     obtain ⟨hn1, hd1⟩ := hr r1 hm1
     obtain ⟨hn2, hd2⟩ := hr r2 hm2
     have hf1 := few r1.q (List.mem_map_of_mem hm1)
     have hf2 := few r2.q (List.mem_map_of_mem hm2)
     have hp := place (by omega) (by omega)
     have e9 : q = r1.q * r2.q := by rw [if_neg f1, if_neg f2, if_pos f3, hz1, hz2] at hq; exact (Option.some.inj hq).symm
     subst e9
     refine c_seq ?_
     refine h_beginB (m := 12) [.box b2 _, .row u 33 3 rs.length (rcs rs).flatten] (by repeat constructor) (by kernel_rfl) rfl ?_
     refine' h_take (i := 0) #[true, false, false, false, false, false, false, false, false, false, false, false] rfl rfl rfl (by kernel_rfl) (by kernel_rfl) (by kernel_rfl) rfl (qp_then (qp_blk (qp_then qp_bp))) (fun _ h => (h.sort (by repeat constructor)).fewer (Hp.Le.refl _)) ?hh20 ?kk20
     case hh20 =>
      refine o_pv trivial rfl rfl ?_
      refine o_nil ?_
      exact ⟨fun _ _ ha _ => ha⟩
     refine' h_take (i := 1) #[true, true, false, false, false, false, false, false, false, false, false, false] rfl rfl rfl (by kernel_rfl) (by kernel_rfl) (by kernel_rfl) rfl (qp_then (qp_blk (qp_then qp_bp))) (fun _ h => (h.sort (by repeat constructor)).fewer (Hp.Le.refl _)) ?hh21 ?kk21
     case hh21 =>
      refine o_fieldAddr (T := 3) (off := 1) trivial rfl Tryz.underlying35 rfl rfl rfl Tryz.sizeOf3 rfl rfl ?_
      refine o_nil ?_
      exact ⟨fun _ _ ha _ => ha⟩
     refine' h_take (i := 2) #[true, true, true, false, false, false, false, false, false, false, false, false] rfl rfl rfl (by kernel_rfl) (by kernel_rfl) (by kernel_rfl) rfl (qp_then (qp_blk (qp_then qp_bp))) (fun _ h => (h.sort (by repeat constructor)).fewer (Hp.Le.refl _)) ?hh22 ?kk22
     case hh22 =>
      refine o_load1 trivial rfl Tryz.isAgg3 rfl (by repeat constructor) (by repeat constructor) ?_
      refine o_nil ?_
      exact ⟨fun _ _ ha _ => ha⟩
     refine' h_take (i := 3) #[true, true, true, true, false, false, false, false, false, false, false, false] rfl rfl rfl (by kernel_rfl) (by kernel_rfl) (by kernel_rfl) rfl (qp_then (qp_blk (qp_then qp_bp))) (fun _ h => (h.sort (by repeat constructor)).fewer (Hp.Le.refl _)) ?hh23 ?kk23
     case hh23 =>
      refine o_elemRow trivial rfl Tryz.underlying37 Tryz.sizeOf33 rfl (by repeat constructor) rfl (by omega) ?_
      refine o_nil ?_
      exact ⟨fun _ _ ha _ => ha⟩
     refine' h_take (i := 4) #[true, true, true, true, true, false, false, false, false, false, false, false] rfl rfl rfl (by kernel_rfl) (by kernel_rfl) (by kernel_rfl) rfl (qp_then (qp_blk (qp_then qp_bp))) (fun _ h => (h.sort (by repeat constructor)).fewer (Hp.Le.refl _)) ?hh24 ?kk24
     case hh24 =>
      refine o_loadRowA trivial rfl Tryz.isAgg33 Tryz.sizeOf33 (by repeat constructor) rfl rfl (rcs_at hr1) ?_
      refine o_nil ?_
      exact ⟨fun _ _ ha _ => ha⟩
     refine' h_take (i := 5) #[true, true, true, true, true, true, false, false, false, false, false, false] rfl rfl rfl (by kernel_rfl) (by kernel_rfl) (by kernel_rfl) rfl (qp_then (qp_blk (qp_then qp_bp))) (fun _ h => (h.sort (by repeat constructor)).fewer (Hp.Le.refl _)) ?hh25 ?kk25
     case hh25 =>
      refine o_pv trivial rfl rfl ?_
      refine o_nil ?_
      exact ⟨fun _ _ ha _ => ha⟩
     refine' h_take (i := 6) #[true, true, true, true, true, true, true, false, false, false, false, false] rfl rfl rfl (by kernel_rfl) (by kernel_rfl) (by kernel_rfl) rfl (qp_then (qp_blk (qp_then qp_bp))) (fun _ h => (h.sort (by repeat constructor)).fewer (Hp.Le.refl _)) ?hh26 ?kk26
     case hh26 =>
      refine o_fieldAddr (T := 3) (off := 2) trivial rfl Tryz.underlying35 rfl rfl rfl Tryz.sizeOf3 rfl rfl ?_
      refine o_nil ?_
      exact ⟨fun _ _ ha _ => ha⟩
     refine' h_take (i := 7) #[true, true, true, true, true, true, true, true, false, false, false, false] rfl rfl rfl (by kernel_rfl) (by kernel_rfl) (by kernel_rfl) rfl (qp_then (qp_blk (qp_then qp_bp))) (fun _ h => (h.sort (by repeat constructor)).fewer (Hp.Le.refl _)) ?hh27 ?kk27
     case hh27 =>
      refine o_load1 trivial rfl Tryz.isAgg3 rfl (by repeat constructor) (by repeat constructor) ?_
      refine o_nil ?_
      exact ⟨fun _ _ ha _ => ha⟩
     refine' h_take (i := 8) #[true, true, true, true, true, true, true, true, true, false, false, false] rfl rfl rfl (by kernel_rfl) (by kernel_rfl) (by kernel_rfl) rfl (qp_then (qp_blk (qp_then qp_bp))) (fun _ h => (h.sort (by repeat constructor)).fewer (Hp.Le.refl _)) ?hh28 ?kk28
     case hh28 =>
      refine o_elemRow trivial rfl Tryz.underlying37 Tryz.sizeOf33 rfl (by repeat constructor) rfl (by omega) ?_
      refine o_nil ?_
      exact ⟨fun _ _ ha _ => ha⟩
     refine' h_take (i := 9) #[true, true, true, true, true, true, true, true, true, true, false, false] rfl rfl rfl (by kernel_rfl) (by kernel_rfl) (by kernel_rfl) rfl (qp_then (qp_blk (qp_then qp_bp))) (fun _ h => (h.sort (by repeat constructor)).fewer (Hp.Le.refl _)) ?hh29 ?kk29
     case hh29 =>
      refine o_loadRowA trivial rfl Tryz.isAgg33 Tryz.sizeOf33 (by repeat constructor) rfl rfl (rcs_at hr2) ?_
      refine o_nil ?_
      exact ⟨fun _ _ ha _ => ha⟩
     refine h_go [10] (by kernel_rfl) rfl (TWHs.cons ?_ TWHs.nil)
     refine h_op #[true, true, true, true, true, true, true, true, true, true, true, false] rfl rfl ?_
     refine o_callI trivial rfl Tryz.call74 rfl (qMul_any r1.q r2.q _ _ _ _ hn1 hd1 hn2 hd2 hf1 hf2) ?_
     rintro _ I1 hx1 ⟨u1, u2, rfl, hs1, hs2⟩
     refine o_nil ?_
     refine h_next (fun _ h => (h.sort (by repeat constructor)).fewer (hx1.le)) ?_
     refine h_go [11] (by kernel_rfl) rfl (TWHs.cons ?_ TWHs.nil)
     refine h_op #[true, true, true, true, true, true, true, true, true, true, true, true] rfl rfl ?_
     refine o_store trivial rfl rfl rfl Tryz.sizeOf33 rfl (by first | rfl | (repeat' (first | exact rfl | exact one_nil | refine one_cons ?_ ?_ | exact (Ws.cells1 (by assumption)).2 | exact (Slc.cells1 (by assumption)).2))) (by repeat constructor) (by repeat constructor) ?_
     refine o_nil ?_
     refine h_next (fun _ h => (h.sort (by repeat constructor)).fewer (hx1.le)) ?_
     refine h_end (by kernel_rfl) ?_
     refine then_c (c_ret (blk_r (then_r ?_)))
     refine retR rfl (.agg Tryz.isAgg33 Tryz.sizeOf33 rfl (by repeat constructor) rfl .nil) ?_
     exact fun w' hw' => ⟨_, [.row u 33 3 rs.length (rcs rs).flatten], hw'.sort (by repeat constructor), hx1, rfl, u1, u2, rfl, hs1, hs2⟩
    ·
     have f3 := h3
     try simp only [bl] at f3
     refine c_seq (c_region ?_)
     iterate 2 refine o_pv trivial rfl rfl ?_
     refine o_nil (then_c ?_)
     refine c_cond rfl (fun h4 => ?_) (fun h4 => ?_)
     ·
      have f4 := h4
      try simp only [bl] at f4
      obtain ⟨r1, hr1, hm1, hz1⟩ := rv_at rs a (by have := place (by omega) (by omega); omega)
      obtain ⟨r2, hr2, hm2, hz2⟩ := rv_at rs b (by have := place (by omega) (by omega); omega)
      obtain ⟨hn1, hd1⟩ := hr r1 hm1
      obtain ⟨hn2, hd2⟩ := hr r2 hm2
      have hf1 := few r1.q (List.mem_map_of_mem hm1)
      have hf2 := few r2.q (List.mem_map_of_mem hm2)
      have hp := place (by omega) (by omega)
      rw [if_neg f1, if_neg f2, if_neg f3, if_pos f4, hz1, hz2] at hq
      have hne : ¬ r2.q = 0 := fun h => by rw [if_pos h] at hq; cases hq
      have e9 : q = r1.q / r2.q := by rw [if_neg hne] at hq; exact (Option.some.inj hq).symm
      subst e9
      refine c_seq ?_
      refine h_beginB (m := 15) [.box b2 _, .row u 33 3 rs.length (rcs rs).flatten] (by repeat constructor) (by kernel_rfl) rfl ?_
      refine' h_take (i := 0) #[true, false, false, false, false, false, false, false, false, false, false, false, false, false, false] rfl rfl rfl (by kernel_rfl) (by kernel_rfl) (by kernel_rfl) rfl (qp_then (qp_blk (qp_then qp_bp))) (fun _ h => (h.sort (by repeat constructor)).fewer (Hp.Le.refl _)) ?hh30 ?kk30
      case hh30 =>
       refine o_pv trivial rfl rfl ?_
       refine o_nil ?_
       exact ⟨fun _ _ ha _ => ha⟩
      refine' h_take (i := 1) #[true, true, false, false, false, false, false, false, false, false, false, false, false, false, false] rfl rfl rfl (by kernel_rfl) (by kernel_rfl) (by kernel_rfl) rfl (qp_then (qp_blk (qp_then qp_bp))) (fun _ h => (h.sort (by repeat constructor)).fewer (Hp.Le.refl _)) ?hh31 ?kk31
      case hh31 =>
       refine o_fieldAddr (T := 3) (off := 1) trivial rfl Tryz.underlying35 rfl rfl rfl Tryz.sizeOf3 rfl rfl ?_
       refine o_nil ?_
       exact ⟨fun _ _ ha _ => ha⟩
      refine' h_take (i := 2) #[true, true, true, false, false, false, false, false, false, false, false, false, false, false, false] rfl rfl rfl (by kernel_rfl) (by kernel_rfl) (by kernel_rfl) rfl (qp_then (qp_blk (qp_then qp_bp))) (fun _ h => (h.sort (by repeat constructor)).fewer (Hp.Le.refl _)) ?hh32 ?kk32
      case hh32 =>
       refine o_load1 trivial rfl Tryz.isAgg3 rfl (by repeat constructor) (by repeat constructor) ?_
       refine o_nil ?_
       exact ⟨fun _ _ ha _ => ha⟩
      refine' h_take (i := 3) #[true, true, true, true, false, false, false, false, false, false, false, false, false, false, false] rfl rfl rfl (by kernel_rfl) (by kernel_rfl) (by kernel_rfl) rfl (qp_then (qp_blk (qp_then qp_bp))) (fun _ h => (h.sort (by repeat constructor)).fewer (Hp.Le.refl _)) ?hh33 ?kk33
      case hh33 =>
       refine o_elemRow trivial rfl Tryz.underlying37 Tryz.sizeOf33 rfl (by repeat constructor) rfl (by omega) ?_
       refine o_nil ?_
       exact ⟨fun _ _ ha _ => ha⟩
      refine' h_take (i := 4) #[true, true, true, true, true, false, false, false, false, false, false, false, false, false, false] rfl rfl rfl (by kernel_rfl) (by kernel_rfl) (by kernel_rfl) rfl (qp_then (qp_blk (qp_then qp_bp))) (fun _ h => (h.sort (by repeat constructor)).fewer (Hp.Le.refl _)) ?hh34 ?kk34
      case hh34 =>
       refine o_loadRowA trivial rfl Tryz.isAgg33 Tryz.sizeOf33 (by repeat constructor) rfl rfl (rcs_at hr1) ?_
       refine o_nil ?_
       exact ⟨fun _ _ ha _ => ha⟩
      refine' h_take (i := 5) #[true, true, true, true, true, true, false, false, false, false, false, false, false, false, false] rfl rfl rfl (by kernel_rfl) (by kernel_rfl) (by kernel_rfl) rfl (qp_then (qp_blk (qp_then qp_bp))) (fun _ h => (h.sort (by repeat constructor)).fewer (Hp.Le.refl _)) ?hh35 ?kk35
      case hh35 =>
       refine o_pv trivial rfl rfl ?_
       refine o_nil ?_
       exact ⟨fun _ _ ha _ => ha⟩
      refine' h_take (i := 6) #[true, true, true, true, true, true, true, false, false, false, false, false, false, false, false] rfl rfl rfl (by kernel_rfl) (by kernel_rfl) (by kernel_rfl) rfl (qp_then (qp_blk (qp_then qp_bp))) (fun _ h => (h.sort (by repeat constructor)).fewer (Hp.Le.refl _)) ?hh36 ?kk36
      case hh36 =>
       refine o_fieldAddr (T := 3) (off := 2) trivial rfl Tryz.underlying35 rfl rfl rfl Tryz.sizeOf3 rfl rfl ?_
       refine o_nil ?_
       exact ⟨fun _ _ ha _ => ha⟩
      refine' h_take (i := 7) #[true, true, true, true, true, true, true, true, false, false, false, false, false, false, false] rfl rfl rfl (by kernel_rfl) (by kernel_rfl) (by kernel_rfl) rfl (qp_then (qp_blk (qp_then qp_bp))) (fun _ h => (h.sort (by repeat constructor)).fewer (Hp.Le.refl _)) ?hh37 ?kk37
      case hh37 =>
       refine o_load1 trivial rfl Tryz.isAgg3 rfl (by repeat constructor) (by repeat constructor) ?_
       refine o_nil ?_
       exact ⟨fun _ _ ha _ => ha⟩
      refine' h_take (i := 8) #[true, true, true, true, true, true, true, true, true, false, false, false, false, false, false] rfl rfl rfl (by kernel_rfl) (by kernel_rfl) (by kernel_rfl) rfl (qp_then (qp_blk (qp_then qp_bp))) (fun _ h => (h.sort (by repeat constructor)).fewer (Hp.Le.refl _)) ?hh38 ?kk38
      case hh38 =>
       refine o_elemRow trivial rfl Tryz.underlying37 Tryz.sizeOf33 rfl (by repeat constructor) rfl (by omega) ?_
       refine o_nil ?_
       exact ⟨fun _ _ ha _ => ha⟩
      refine' h_take (i := 9) #[true, true, true, true, true, true, true, true, true, true, false, false, false, false, false] rfl rfl rfl (by kernel_rfl) (by kernel_rfl) (by kernel_rfl) rfl (qp_then (qp_blk (qp_then qp_bp))) (fun _ h => (h.sort (by repeat constructor)).fewer (Hp.Le.refl _)) ?hh39 ?kk39
      case hh39 =>
       refine o_loadRowA trivial rfl Tryz.isAgg33 Tryz.sizeOf33 (by repeat constructor) rfl rfl (rcs_at hr2) ?_
       refine o_nil ?_
       exact ⟨fun _ _ ha _ => ha⟩
      refine h_go [10] (by kernel_rfl) rfl (TWHs.cons ?_ TWHs.nil)
      refine h_op #[true, true, true, true, true, true, true, true, true, true, true, false, false, false, false] rfl rfl ?_
      refine o_callI trivial rfl Tryz.call76 rfl (okR_fun (qDiv_any r1.q r2.q _ _ _ _ hn1 hd1 hn2 hd2 hf1 hf2) hne) ?_
      rintro _ I1 hx1 ⟨u1, u2, rfl, hs1, hs2⟩
      refine o_nil ?_
      refine h_next (fun _ h => (h.sort (by repeat constructor)).fewer (hx1.le)) ?_
      refine' h_take (i := 11) #[true, true, true, true, true, true, true, true, true, true, true, true, false, false, false] rfl rfl rfl (by kernel_rfl) (by kernel_rfl) (by kernel_rfl) rfl (qp_then (qp_blk (qp_then qp_bp))) (fun _ h => (h.sort (by repeat constructor)).fewer (hx1.le)) ?hh40 ?kk40
      case hh40 =>
       refine o_pv trivial rfl rfl ?_
       refine o_nil ?_
       exact ⟨fun _ _ ha _ => ha⟩
      refine' h_take (i := 12) #[true, true, true, true, true, true, true, true, true, true, true, true, true, false, false] rfl rfl rfl (by kernel_rfl) (by kernel_rfl) (by kernel_rfl) rfl (qp_then (qp_blk (qp_then qp_bp))) (fun _ h => (h.sort (by repeat constructor)).fewer (hx1.le)) ?hh41 ?kk41
      case hh41 =>
       refine o_pv trivial rfl rfl ?_
       refine o_nil ?_
       exact ⟨fun _ _ ha _ => ha⟩
      refine h_go [13] (by kernel_rfl) rfl (TWHs.cons ?_ TWHs.nil)
      refine h_op #[true, true, true, true, true, true, true, true, true, true, true, true, true, true, false] rfl rfl ?_
      refine o_callQ trivial rfl Tryz.call75 rfl (must_any _ _ _ _ _ hs1 hs2) ?_
      refine o_nil ?_
      refine h_next (fun _ h => (h.sort (by repeat constructor)).fewer (hx1.le)) ?_
      refine h_go [14] (by kernel_rfl) rfl (TWHs.cons ?_ TWHs.nil)
      refine h_op #[true, true, true, true, true, true, true, true, true, true, true, true, true, true, true] rfl rfl ?_
      refine o_store trivial rfl rfl rfl Tryz.sizeOf33 rfl (by first | rfl | (repeat' (first | exact rfl | exact one_nil | refine one_cons ?_ ?_ | exact (Ws.cells1 (by assumption)).2 | exact (Slc.cells1 (by assumption)).2))) (by repeat constructor) (by repeat constructor) ?_
      refine o_nil ?_
      refine h_next (fun _ h => (h.sort (by repeat constructor)).fewer (hx1.le)) ?_
      refine h_end (by kernel_rfl) ?_
      refine then_c (c_ret (blk_r (then_r ?_)))
      refine retR rfl (.agg Tryz.isAgg33 Tryz.sizeOf33 rfl (by repeat constructor) rfl .nil) ?_
      exact fun w' hw' => ⟨_, [.row u 33 3 rs.length (rcs rs).flatten], hw'.sort (by repeat constructor), hx1, rfl, u1, u2, rfl, hs1, hs2⟩
     ·
      have f4 := h4
      try simp only [bl] at f4
      refine c_seq (c_region ?_)
      iterate 2 refine o_pv trivial rfl rfl ?_
      refine o_nil (then_c ?_)
      refine c_cond rfl (fun h5 => ?_) (fun h5 => ?_)
      ·
       have f5 := h5
       try simp only [bl] at f5
       obtain ⟨r1, hr1, hm1, hz1⟩ := rv_at rs a (by have := place (by omega) (by omega); omega)
       obtain ⟨hn1, hd1⟩ := hr r1 hm1
       have hf1 := few r1.q (List.mem_map_of_mem hm1)
       have hp := place (by omega) (by omega)
       have e9 : q = -r1.q := by rw [if_neg f1, if_neg f2, if_neg f3, if_neg f4, if_pos f5, hz1] at hq; exact (Option.some.inj hq).symm
       subst e9
       refine c_seq (c_region ?_)
       refine o_pv trivial rfl rfl ?_
       refine o_fieldAddr (T := 3) (off := 1) trivial rfl Tryz.underlying35 rfl rfl rfl Tryz.sizeOf3 rfl rfl ?_
       refine o_load1 trivial rfl Tryz.isAgg3 rfl (by repeat constructor) (by repeat constructor) ?_
       refine o_elemRow trivial rfl Tryz.underlying37 Tryz.sizeOf33 rfl (by repeat constructor) rfl (by omega) ?_
       refine o_loadRowA trivial rfl Tryz.isAgg33 Tryz.sizeOf33 (by repeat constructor) rfl rfl (rcs_at hr1) ?_
       refine o_callI trivial rfl Tryz.call77 rfl (qNeg_any r1.q _ _ hn1 hd1 (hf1.le (by decide))) ?_
       rintro _ I1 hx1 ⟨u1, u2, rfl, hs1, hs2⟩
       refine o_store trivial rfl rfl rfl Tryz.sizeOf33 rfl (by first | rfl | (repeat' (first | exact rfl | exact one_nil | refine one_cons ?_ ?_ | exact (Ws.cells1 (by assumption)).2 | exact (Slc.cells1 (by assumption)).2))) (by repeat constructor) (by repeat constructor) ?_
       refine o_nil (then_c (c_ret (blk_r (then_r ?_))))
       refine retR rfl (.agg Tryz.isAgg33 Tryz.sizeOf33 rfl (by repeat constructor) rfl .nil) ?_
       exact fun w' hw' => ⟨_, [.row u 33 3 rs.length (rcs rs).flatten], hw'.sort (by repeat constructor), hx1, rfl, u1, u2, rfl, hs1, hs2⟩
      ·
       have f5 := h5
       try simp only [bl] at f5
       refine c_seq (c_region ?_)
       iterate 2 refine o_pv trivial rfl rfl ?_
       refine o_nil (then_c ?_)
       refine c_cond rfl (fun h6 => ?_) (fun h6 => ?_)
       ·
        have f6 := h6
        try simp only [bl] at f6
        obtain ⟨r1, hr1, hm1, hz1⟩ := rv_at rs a (by have := place (by omega) (by omega); omega)
        obtain ⟨hn1, hd1⟩ := hr r1 hm1
        have hf1 := few r1.q (List.mem_map_of_mem hm1)
        have hp := place (by omega) (by omega)
        rw [if_neg f1, if_neg f2, if_neg f3, if_neg f4, if_neg f5, if_pos f6, hz1] at hq
        have hne : ¬ (e < 0 ∧ r1.q = 0) := fun h => by rw [if_pos h] at hq; cases hq
        have e9 : q = r1.q ^ e := by rw [if_neg hne] at hq; exact (Option.some.inj hq).symm
        subst e9
        obtain ⟨c, hc1, hc2, hc3, hc4⟩ := pow f6
        rw [hz1] at hc1
        refine c_seq ?_
        refine h_beginB (m := 12) [.box b2 _, .row u 33 3 rs.length (rcs rs).flatten] (by repeat constructor) (by kernel_rfl) rfl ?_
        refine' h_take (i := 0) #[true, false, false, false, false, false, false, false, false, false, false, false] rfl rfl rfl (by kernel_rfl) (by kernel_rfl) (by kernel_rfl) rfl (qp_then (qp_blk (qp_then qp_bp))) (fun _ h => (h.sort (by repeat constructor)).fewer (Hp.Le.refl _)) ?hh42 ?kk42
        case hh42 =>
         refine o_pv trivial rfl rfl ?_
         refine o_nil ?_
         exact ⟨fun _ _ ha _ => ha⟩
        refine' h_take (i := 1) #[true, true, false, false, false, false, false, false, false, false, false, false] rfl rfl rfl (by kernel_rfl) (by kernel_rfl) (by kernel_rfl) rfl (qp_then (qp_blk (qp_then qp_bp))) (fun _ h => (h.sort (by repeat constructor)).fewer (Hp.Le.refl _)) ?hh43 ?kk43
        case hh43 =>
         refine o_fieldAddr (T := 3) (off := 1) trivial rfl Tryz.underlying35 rfl rfl rfl Tryz.sizeOf3 rfl rfl ?_
         refine o_nil ?_
         exact ⟨fun _ _ ha _ => ha⟩
        refine' h_take (i := 2) #[true, true, true, false, false, false, false, false, false, false, false, false] rfl rfl rfl (by kernel_rfl) (by kernel_rfl) (by kernel_rfl) rfl (qp_then (qp_blk (qp_then qp_bp))) (fun _ h => (h.sort (by repeat constructor)).fewer (Hp.Le.refl _)) ?hh44 ?kk44
        case hh44 =>
         refine o_load1 trivial rfl Tryz.isAgg3 rfl (by repeat constructor) (by repeat constructor) ?_
         refine o_nil ?_
         exact ⟨fun _ _ ha _ => ha⟩
        refine' h_take (i := 3) #[true, true, true, true, false, false, false, false, false, false, false, false] rfl rfl rfl (by kernel_rfl) (by kernel_rfl) (by kernel_rfl) rfl (qp_then (qp_blk (qp_then qp_bp))) (fun _ h => (h.sort (by repeat constructor)).fewer (Hp.Le.refl _)) ?hh45 ?kk45
        case hh45 =>
         refine o_elemRow trivial rfl Tryz.underlying37 Tryz.sizeOf33 rfl (by repeat constructor) rfl (by omega) ?_
         refine o_nil ?_
         exact ⟨fun _ _ ha _ => ha⟩
        refine' h_take (i := 4) #[true, true, true, true, true, false, false, false, false, false, false, false] rfl rfl rfl (by kernel_rfl) (by kernel_rfl) (by kernel_rfl) rfl (qp_then (qp_blk (qp_then qp_bp))) (fun _ h => (h.sort (by repeat constructor)).fewer (Hp.Le.refl _)) ?hh46 ?kk46
        case hh46 =>
         refine o_loadRowA trivial rfl Tryz.isAgg33 Tryz.sizeOf33 (by repeat constructor) rfl rfl (rcs_at hr1) ?_
         refine o_nil ?_
         exact ⟨fun _ _ ha _ => ha⟩
        refine' h_take (i := 5) #[true, true, true, true, true, true, false, false, false, false, false, false] rfl rfl rfl (by kernel_rfl) (by kernel_rfl) (by kernel_rfl) rfl (qp_then (qp_blk (qp_then qp_bp))) (fun _ h => (h.sort (by repeat constructor)).fewer (Hp.Le.refl _)) ?hh47 ?kk47
        case hh47 =>
         refine o_fieldAddr (T := 3) (off := 3) trivial rfl Tryz.underlying35 rfl rfl rfl Tryz.sizeOf3 rfl rfl ?_
         refine o_nil ?_
         exact ⟨fun _ _ ha _ => ha⟩
        refine' h_take (i := 6) #[true, true, true, true, true, true, true, false, false, false, false, false] rfl rfl rfl (by kernel_rfl) (by kernel_rfl) (by kernel_rfl) rfl (qp_then (qp_blk (qp_then qp_bp))) (fun _ h => (h.sort (by repeat constructor)).fewer (Hp.Le.refl _)) ?hh48 ?kk48
        case hh48 =>
         refine o_load1 trivial rfl Tryz.isAgg3 rfl (by repeat constructor) (by repeat constructor) ?_
         refine o_nil ?_
         exact ⟨fun _ _ ha _ => ha⟩
        refine h_go [7] (by kernel_rfl) rfl (TWHs.cons ?_ TWHs.nil)
        refine h_op #[true, true, true, true, true, true, true, true, false, false, false, false] rfl rfl ?_
        refine o_callI trivial rfl Tryz.call78 rfl (okR_fun (qPow_any r1.q e _ _ hn1 hd1 hc1 hc2 hc4 hc3) hne) ?_
        rintro _ I1 hx1 ⟨u1, u2, rfl, hs1, hs2⟩
        refine o_nil ?_
        refine h_next (fun _ h => (h.sort (by repeat constructor)).fewer (hx1.le)) ?_
        refine' h_take (i := 8) #[true, true, true, true, true, true, true, true, true, false, false, false] rfl rfl rfl (by kernel_rfl) (by kernel_rfl) (by kernel_rfl) rfl (qp_then (qp_blk (qp_then qp_bp))) (fun _ h => (h.sort (by repeat constructor)).fewer (hx1.le)) ?hh49 ?kk49
        case hh49 =>
         refine o_pv trivial rfl rfl ?_
         refine o_nil ?_
         exact ⟨fun _ _ ha _ => ha⟩
        refine' h_take (i := 9) #[true, true, true, true, true, true, true, true, true, true, false, false] rfl rfl rfl (by kernel_rfl) (by kernel_rfl) (by kernel_rfl) rfl (qp_then (qp_blk (qp_then qp_bp))) (fun _ h => (h.sort (by repeat constructor)).fewer (hx1.le)) ?hh50 ?kk50
        case hh50 =>
         refine o_pv trivial rfl rfl ?_
         refine o_nil ?_
         exact ⟨fun _ _ ha _ => ha⟩
        refine h_go [10] (by kernel_rfl) rfl (TWHs.cons ?_ TWHs.nil)
        refine h_op #[true, true, true, true, true, true, true, true, true, true, true, false] rfl rfl ?_
        refine o_callQ trivial rfl Tryz.call75 rfl (must_any _ _ _ _ _ hs1 hs2) ?_
        refine o_nil ?_
        refine h_next (fun _ h => (h.sort (by repeat constructor)).fewer (hx1.le)) ?_
        refine h_go [11] (by kernel_rfl) rfl (TWHs.cons ?_ TWHs.nil)
        refine h_op #[true, true, true, true, true, true, true, true, true, true, true, true] rfl rfl ?_
        refine o_store trivial rfl rfl rfl Tryz.sizeOf33 rfl (by first | rfl | (repeat' (first | exact rfl | exact one_nil | refine one_cons ?_ ?_ | exact (Ws.cells1 (by assumption)).2 | exact (Slc.cells1 (by assumption)).2))) (by repeat constructor) (by repeat constructor) ?_
        refine o_nil ?_
        refine h_next (fun _ h => (h.sort (by repeat constructor)).fewer (hx1.le)) ?_
        refine h_end (by kernel_rfl) ?_
        refine then_c (c_ret (blk_r (then_r ?_)))
        refine retR rfl (.agg Tryz.isAgg33 Tryz.sizeOf33 rfl (by repeat constructor) rfl .nil) ?_
        exact fun w' hw' => ⟨_, [.row u 33 3 rs.length (rcs rs).flatten], hw'.sort (by repeat constructor), hx1, rfl, u1, u2, rfl, hs1, hs2⟩
       ·
        have f6 := h6
        try simp only [bl] at f6
        have e9 : q = lowQ neg (val A) (val B) := by rw [if_neg f1, if_neg f2, if_neg f3, if_neg f4, if_neg f5, if_neg f6] at hq; exact (Option.some.inj hq).symm
        subst e9
        refine c_skip (blk_n (then_c (c_seq (c_region ?_))))
        refine o_fieldAddr (T := 33) (off := 4) trivial rfl Tryz.underlying35 rfl rfl rfl Tryz.sizeOf33 rfl rfl ?_
        refine o_loadA trivial rfl Tryz.isAgg33 Tryz.sizeOf33 rfl (by repeat constructor) (by repeat constructor) ?_
        refine o_callI trivial rfl Tryz.call29 rfl (qFix_any neg _ _ _ _ ha hb (by have := lits.1; omega) (by have := lits.2; omega)) ?_
        rintro _ I1 hx1 ⟨u1, u2, rfl, hs1, hs2⟩
        refine o_store trivial rfl rfl rfl Tryz.sizeOf33 rfl (by first | rfl | (repeat' (first | exact rfl | exact one_nil | refine one_cons ?_ ?_ | exact (Ws.cells1 (by assumption)).2 | exact (Slc.cells1 (by assumption)).2))) (by repeat constructor) (by repeat constructor) ?_
        refine o_nil (then_c (c_ret ?_))
        refine retR rfl (.agg Tryz.isAgg33 Tryz.sizeOf33 rfl (by repeat constructor) rfl .nil) ?_
        exact fun w' hw' => ⟨_, [.row u 33 3 rs.length (rcs rs).flatten], hw'.sort (by repeat constructor), hx1, rfl, u1, u2, rfl, hs1, hs2⟩
theorem op_pan (code a b e : Int) (neg : Bool) (va vb u : Value) (A B : List Nat) (rs : List RV) {I : Hp} (ha : Ws I va A) (hb : Ws I vb B) (hr : ∀ r ∈ rs, r.ok I) (ok : OpOK ⟨code, a, b, e, neg, A, B⟩ (rs.map RV.q)) (hq : opR ⟨code, a, b, e, neg, A, B⟩ (rs.map RV.q) = none) :
    FunX Tryz.prog 53 [.agg #[.int .i64 code, .int .i64 a, .int .i64 b, .int .i64 e, .bool neg, va, vb], u] I [.row u 33 3 rs.length (rcs rs).flatten] zeroErr := by
  have hz := opR_none hq
  dsimp only at hz
  obtain ⟨place, few, pow, lits⟩ := ok
  simp only [List.length_map] at place few pow lits
  intro w hw
  refine enterX2 _ Tryz.func53 rfl Tryz.ntmps53 rfl ?_ hw
  refine c_seq (c_region ?_)
  refine o_box trivial rfl rfl rfl (fun b2 => ?_)
  refine o_alloc trivial rfl Tryz.zeroValue33 rfl (fun b4 => ?_)
  refine o_nil (then_c (c_seq (c_seq (c_region ?_))))
  refine o_fieldAddr (T := 3) (off := 0) trivial rfl Tryz.underlying35 rfl rfl rfl Tryz.sizeOf3 rfl rfl ?_
  refine o_load1 trivial rfl Tryz.isAgg3 rfl (by repeat constructor) (by repeat constructor) ?_
  refine o_nil (then_c (c_block (c_seq (c_region ?_))))
  iterate 2 refine o_pv trivial rfl rfl ?_
  refine o_nil (then_c ?_)
  refine c_cond rfl (fun h1 => ?_) (fun h1 => ?_)
  ·
   have f1 := h1
   try simp only [bl] at f1
   exfalso; omega
  ·
   have f1 := h1
   try simp only [bl] at f1
   refine c_seq (c_region ?_)
   iterate 2 refine o_pv trivial rfl rfl ?_
   refine o_nil (then_c ?_)
   refine c_cond rfl (fun h2 => ?_) (fun h2 => ?_)
   ·
    have f2 := h2
    try simp only [bl] at f2
    exfalso; omega
   ·
    have f2 := h2
    try simp only [bl] at f2
    refine c_seq (c_region ?_)
    iterate 2 refine o_pv trivial rfl rfl ?_
    refine o_nil (then_c ?_)
    refine c_cond rfl (fun h3 => ?_) (fun h3 => ?_)
    ·
     have f3 := h3
     try simp only [bl] at f3
     exfalso; omega
    ·
     have f3 := h3
     try simp only [bl] at f3
     refine c_seq (c_region ?_)
     iterate 2 refine o_pv trivial rfl rfl ?_
     refine o_nil (then_c ?_)
     refine c_cond rfl (fun h4 => ?_) (fun h4 => ?_)
     ·
      have f4 := h4
      try simp only [bl] at f4
      obtain ⟨r1, hr1, hm1, hz1⟩ := rv_at rs a (by have := place (by omega) (by omega); omega)
      obtain ⟨r2, hr2, hm2, hz2⟩ := rv_at rs b (by have := place (by omega) (by omega); omega)
      obtain ⟨hn1, hd1⟩ := hr r1 hm1
      obtain ⟨hn2, hd2⟩ := hr r2 hm2
      have hf1 := few r1.q (List.mem_map_of_mem hm1)
      have hf2 := few r2.q (List.mem_map_of_mem hm2)
      have hp := place (by omega) (by omega)
      have h0 : r2.q = 0 := by
        rw [← hz2]
        rcases hz with hz | hz
        · exact hz.2
        · omega
      refine c_seq ?_
      refine h_beginB (m := 15) [.box b2 _, .row u 33 3 rs.length (rcs rs).flatten] (by repeat constructor) (by kernel_rfl) rfl ?_
      refine' h_take (i := 0) #[true, false, false, false, false, false, false, false, false, false, false, false, false, false, false] rfl rfl rfl (by kernel_rfl) (by kernel_rfl) (by kernel_rfl) rfl (qp_then (qp_blk (qp_then qp_bpx))) (fun _ h => (h.sort (by repeat constructor)).fewer (Hp.Le.refl _)) ?hh0 ?kk0
      case hh0 =>
       refine o_pv trivial rfl rfl ?_
       refine o_nil ?_
       exact ⟨fun _ _ ha _ => ha⟩
      refine' h_take (i := 1) #[true, true, false, false, false, false, false, false, false, false, false, false, false, false, false] rfl rfl rfl (by kernel_rfl) (by kernel_rfl) (by kernel_rfl) rfl (qp_then (qp_blk (qp_then qp_bpx))) (fun _ h => (h.sort (by repeat constructor)).fewer (Hp.Le.refl _)) ?hh1 ?kk1
      case hh1 =>
       refine o_fieldAddr (T := 3) (off := 1) trivial rfl Tryz.underlying35 rfl rfl rfl Tryz.sizeOf3 rfl rfl ?_
       refine o_nil ?_
       exact ⟨fun _ _ ha _ => ha⟩
      refine' h_take (i := 2) #[true, true, true, false, false, false, false, false, false, false, false, false, false, false, false] rfl rfl rfl (by kernel_rfl) (by kernel_rfl) (by kernel_rfl) rfl (qp_then (qp_blk (qp_then qp_bpx))) (fun _ h => (h.sort (by repeat constructor)).fewer (Hp.Le.refl _)) ?hh2 ?kk2
      case hh2 =>
       refine o_load1 trivial rfl Tryz.isAgg3 rfl (by repeat constructor) (by repeat constructor) ?_
       refine o_nil ?_
       exact ⟨fun _ _ ha _ => ha⟩
      refine' h_take (i := 3) #[true, true, true, true, false, false, false, false, false, false, false, false, false, false, false] rfl rfl rfl (by kernel_rfl) (by kernel_rfl) (by kernel_rfl) rfl (qp_then (qp_blk (qp_then qp_bpx))) (fun _ h => (h.sort (by repeat constructor)).fewer (Hp.Le.refl _)) ?hh3 ?kk3
      case hh3 =>
       refine o_elemRow trivial rfl Tryz.underlying37 Tryz.sizeOf33 rfl (by repeat constructor) rfl (by omega) ?_
       refine o_nil ?_
       exact ⟨fun _ _ ha _ => ha⟩
      refine' h_take (i := 4) #[true, true, true, true, true, false, false, false, false, false, false, false, false, false, false] rfl rfl rfl (by kernel_rfl) (by kernel_rfl) (by kernel_rfl) rfl (qp_then (qp_blk (qp_then qp_bpx))) (fun _ h => (h.sort (by repeat constructor)).fewer (Hp.Le.refl _)) ?hh4 ?kk4
      case hh4 =>
       refine o_loadRowA trivial rfl Tryz.isAgg33 Tryz.sizeOf33 (by repeat constructor) rfl rfl (rcs_at hr1) ?_
       refine o_nil ?_
       exact ⟨fun _ _ ha _ => ha⟩
      refine' h_take (i := 5) #[true, true, true, true, true, true, false, false, false, false, false, false, false, false, false] rfl rfl rfl (by kernel_rfl) (by kernel_rfl) (by kernel_rfl) rfl (qp_then (qp_blk (qp_then qp_bpx))) (fun _ h => (h.sort (by repeat constructor)).fewer (Hp.Le.refl _)) ?hh5 ?kk5
      case hh5 =>
       refine o_pv trivial rfl rfl ?_
       refine o_nil ?_
       exact ⟨fun _ _ ha _ => ha⟩
      refine' h_take (i := 6) #[true, true, true, true, true, true, true, false, false, false, false, false, false, false, false] rfl rfl rfl (by kernel_rfl) (by kernel_rfl) (by kernel_rfl) rfl (qp_then (qp_blk (qp_then qp_bpx))) (fun _ h => (h.sort (by repeat constructor)).fewer (Hp.Le.refl _)) ?hh6 ?kk6
      case hh6 =>
       refine o_fieldAddr (T := 3) (off := 2) trivial rfl Tryz.underlying35 rfl rfl rfl Tryz.sizeOf3 rfl rfl ?_
       refine o_nil ?_
       exact ⟨fun _ _ ha _ => ha⟩
      refine' h_take (i := 7) #[true, true, true, true, true, true, true, true, false, false, false, false, false, false, false] rfl rfl rfl (by kernel_rfl) (by kernel_rfl) (by kernel_rfl) rfl (qp_then (qp_blk (qp_then qp_bpx))) (fun _ h => (h.sort (by repeat constructor)).fewer (Hp.Le.refl _)) ?hh7 ?kk7
      case hh7 =>
       refine o_load1 trivial rfl Tryz.isAgg3 rfl (by repeat constructor) (by repeat constructor) ?_
       refine o_nil ?_
       exact ⟨fun _ _ ha _ => ha⟩
      refine' h_take (i := 8) #[true, true, true, true, true, true, true, true, true, false, false, false, false, false, false] rfl rfl rfl (by kernel_rfl) (by kernel_rfl) (by kernel_rfl) rfl (qp_then (qp_blk (qp_then qp_bpx))) (fun _ h => (h.sort (by repeat constructor)).fewer (Hp.Le.refl _)) ?hh8 ?kk8
      case hh8 =>
       refine o_elemRow trivial rfl Tryz.underlying37 Tryz.sizeOf33 rfl (by repeat constructor) rfl (by omega) ?_
       refine o_nil ?_
       exact ⟨fun _ _ ha _ => ha⟩
      refine' h_take (i := 9) #[true, true, true, true, true, true, true, true, true, true, false, false, false, false, false] rfl rfl rfl (by kernel_rfl) (by kernel_rfl) (by kernel_rfl) rfl (qp_then (qp_blk (qp_then qp_bpx))) (fun _ h => (h.sort (by repeat constructor)).fewer (Hp.Le.refl _)) ?hh9 ?kk9
      case hh9 =>
       refine o_loadRowA trivial rfl Tryz.isAgg33 Tryz.sizeOf33 (by repeat constructor) rfl rfl (rcs_at hr2) ?_
       refine o_nil ?_
       exact ⟨fun _ _ ha _ => ha⟩
      refine h_go [10] (by kernel_rfl) rfl (TWHs.cons ?_ TWHs.nil)
      refine h_op #[true, true, true, true, true, true, true, true, true, true, true, false, false, false, false] rfl rfl ?_
      refine o_callI trivial rfl Tryz.call76 rfl (okR_not (qDiv_any r1.q r2.q _ _ _ _ hn1 hd1 hn2 hd2 hf1 hf2) h0) ?_
      rintro _ I1 hx1 ⟨s1, u1, u2, rfl⟩
      refine o_nil ?_
      refine h_next (fun _ h => (h.sort (by repeat constructor)).fewer (hx1.le)) ?_
      refine' h_take (i := 11) #[true, true, true, true, true, true, true, true, true, true, true, true, false, false, false] rfl rfl rfl (by kernel_rfl) (by kernel_rfl) (by kernel_rfl) rfl (qp_then (qp_blk (qp_then qp_bpx))) (fun _ h => (h.sort (by repeat constructor)).fewer (hx1.le)) ?hh10 ?kk10
      case hh10 =>
       refine o_pv trivial rfl rfl ?_
       refine o_nil ?_
       exact ⟨fun _ _ ha _ => ha⟩
      refine' h_take (i := 12) #[true, true, true, true, true, true, true, true, true, true, true, true, true, false, false] rfl rfl rfl (by kernel_rfl) (by kernel_rfl) (by kernel_rfl) rfl (qp_then (qp_blk (qp_then qp_bpx))) (fun _ h => (h.sort (by repeat constructor)).fewer (hx1.le)) ?hh11 ?kk11
      case hh11 =>
       refine o_pv trivial rfl rfl ?_
       refine o_nil ?_
       exact ⟨fun _ _ ha _ => ha⟩
      refine h_go [13] (by kernel_rfl) rfl (TWHs.cons ?_ TWHs.nil)
      refine h_op #[true, true, true, true, true, true, true, true, true, true, true, true, true, true, false] rfl rfl ?_
      refine o_callX trivial Tryz.call75 rfl (must_pan _ s1 u1 u2 rfl) (by repeat constructor) ?_
      refine then_p (then_p (blk_p (then_p ?_)))
      refine retX ?_
      exact leafX hx1.le
     ·
      have f4 := h4
      try simp only [bl] at f4
      refine c_seq (c_region ?_)
      iterate 2 refine o_pv trivial rfl rfl ?_
      refine o_nil (then_c ?_)
      refine c_cond rfl (fun h5 => ?_) (fun h5 => ?_)
      ·
       have f5 := h5
       try simp only [bl] at f5
       exfalso; omega
      ·
       have f5 := h5
       try simp only [bl] at f5
       refine c_seq (c_region ?_)
       iterate 2 refine o_pv trivial rfl rfl ?_
       refine o_nil (then_c ?_)
       refine c_cond rfl (fun h6 => ?_) (fun h6 => ?_)
       ·
        have f6 := h6
        try simp only [bl] at f6
        obtain ⟨r1, hr1, hm1, hz1⟩ := rv_at rs a (by have := place (by omega) (by omega); omega)
        obtain ⟨hn1, hd1⟩ := hr r1 hm1
        have hf1 := few r1.q (List.mem_map_of_mem hm1)
        have hp := place (by omega) (by omega)
        have h0 : e < 0 ∧ r1.q = 0 := by
          rw [← hz1]
          rcases hz with hz | hz
          · omega
          · exact hz.2
        obtain ⟨c, hc1, hc2, hc3, hc4⟩ := pow f6
        rw [hz1] at hc1
        refine c_seq ?_
        refine h_beginB (m := 12) [.box b2 _, .row u 33 3 rs.length (rcs rs).flatten] (by repeat constructor) (by kernel_rfl) rfl ?_
        refine' h_take (i := 0) #[true, false, false, false, false, false, false, false, false, false, false, false] rfl rfl rfl (by kernel_rfl) (by kernel_rfl) (by kernel_rfl) rfl (qp_then (qp_blk (qp_then qp_bpx))) (fun _ h => (h.sort (by repeat constructor)).fewer (Hp.Le.refl _)) ?hh12 ?kk12
        case hh12 =>
         refine o_pv trivial rfl rfl ?_
         refine o_nil ?_
         exact ⟨fun _ _ ha _ => ha⟩
        refine' h_take (i := 1) #[true, true, false, false, false, false, false, false, false, false, false, false] rfl rfl rfl (by kernel_rfl) (by kernel_rfl) (by kernel_rfl) rfl (qp_then (qp_blk (qp_then qp_bpx))) (fun _ h => (h.sort (by repeat constructor)).fewer (Hp.Le.refl _)) ?hh13 ?kk13
        case hh13 =>
         refine o_fieldAddr (T := 3) (off := 1) trivial rfl Tryz.underlying35 rfl rfl rfl Tryz.sizeOf3 rfl rfl ?_
         refine o_nil ?_
         exact ⟨fun _ _ ha _ => ha⟩
        refine' h_take (i := 2) #[true, true, true, false, false, false, false, false, false, false, false, false] rfl rfl rfl (by kernel_rfl) (by kernel_rfl) (by kernel_rfl) rfl (qp_then (qp_blk (qp_then qp_bpx))) (fun _ h => (h.sort (by repeat constructor)).fewer (Hp.Le.refl _)) ?hh14 ?kk14
        case hh14 =>
         refine o_load1 trivial rfl Tryz.isAgg3 rfl (by repeat constructor) (by repeat constructor) ?_
         refine o_nil ?_
         exact ⟨fun _ _ ha _ => ha⟩
        refine' h_take (i := 3) #[true, true, true, true, false, false, false, false, false, false, false, false] rfl rfl rfl (by kernel_rfl) (by kernel_rfl) (by kernel_rfl) rfl (qp_then (qp_blk (qp_then qp_bpx))) (fun _ h => (h.sort (by repeat constructor)).fewer (Hp.Le.refl _)) ?hh15 ?kk15
        case hh15 =>
         refine o_elemRow trivial rfl Tryz.underlying37 Tryz.sizeOf33 rfl (by repeat constructor) rfl (by omega) ?_
         refine o_nil ?_
         exact ⟨fun _ _ ha _ => ha⟩
        refine' h_take (i := 4) #[true, true, true, true, true, false, false, false, false, false, false, false] rfl rfl rfl (by kernel_rfl) (by kernel_rfl) (by kernel_rfl) rfl (qp_then (qp_blk (qp_then qp_bpx))) (fun _ h => (h.sort (by repeat constructor)).fewer (Hp.Le.refl _)) ?hh16 ?kk16
        case hh16 =>
         refine o_loadRowA trivial rfl Tryz.isAgg33 Tryz.sizeOf33 (by repeat constructor) rfl rfl (rcs_at hr1) ?_
         refine o_nil ?_
         exact ⟨fun _ _ ha _ => ha⟩
        refine' h_take (i := 5) #[true, true, true, true, true, true, false, false, false, false, false, false] rfl rfl rfl (by kernel_rfl) (by kernel_rfl) (by kernel_rfl) rfl (qp_then (qp_blk (qp_then qp_bpx))) (fun _ h => (h.sort (by repeat constructor)).fewer (Hp.Le.refl _)) ?hh17 ?kk17
        case hh17 =>
         refine o_fieldAddr (T := 3) (off := 3) trivial rfl Tryz.underlying35 rfl rfl rfl Tryz.sizeOf3 rfl rfl ?_
         refine o_nil ?_
         exact ⟨fun _ _ ha _ => ha⟩
        refine' h_take (i := 6) #[true, true, true, true, true, true, true, false, false, false, false, false] rfl rfl rfl (by kernel_rfl) (by kernel_rfl) (by kernel_rfl) rfl (qp_then (qp_blk (qp_then qp_bpx))) (fun _ h => (h.sort (by repeat constructor)).fewer (Hp.Le.refl _)) ?hh18 ?kk18
        case hh18 =>
         refine o_load1 trivial rfl Tryz.isAgg3 rfl (by repeat constructor) (by repeat constructor) ?_
         refine o_nil ?_
         exact ⟨fun _ _ ha _ => ha⟩
        refine h_go [7] (by kernel_rfl) rfl (TWHs.cons ?_ TWHs.nil)
        refine h_op #[true, true, true, true, true, true, true, true, false, false, false, false] rfl rfl ?_
        refine o_callI trivial rfl Tryz.call78 rfl (okR_not (qPow_any r1.q e _ _ hn1 hd1 hc1 hc2 hc4 hc3) h0) ?_
        rintro _ I1 hx1 ⟨s1, u1, u2, rfl⟩
        refine o_nil ?_
        refine h_next (fun _ h => (h.sort (by repeat constructor)).fewer (hx1.le)) ?_
        refine' h_take (i := 8) #[true, true, true, true, true, true, true, true, true, false, false, false] rfl rfl rfl (by kernel_rfl) (by kernel_rfl) (by kernel_rfl) rfl (qp_then (qp_blk (qp_then qp_bpx))) (fun _ h => (h.sort (by repeat constructor)).fewer (hx1.le)) ?hh19 ?kk19
        case hh19 =>
         refine o_pv trivial rfl rfl ?_
         refine o_nil ?_
         exact ⟨fun _ _ ha _ => ha⟩
        refine' h_take (i := 9) #[true, true, true, true, true, true, true, true, true, true, false, false] rfl rfl rfl (by kernel_rfl) (by kernel_rfl) (by kernel_rfl) rfl (qp_then (qp_blk (qp_then qp_bpx))) (fun _ h => (h.sort (by repeat constructor)).fewer (hx1.le)) ?hh20 ?kk20
        case hh20 =>
         refine o_pv trivial rfl rfl ?_
         refine o_nil ?_
         exact ⟨fun _ _ ha _ => ha⟩
        refine h_go [10] (by kernel_rfl) rfl (TWHs.cons ?_ TWHs.nil)
        refine h_op #[true, true, true, true, true, true, true, true, true, true, true, false] rfl rfl ?_
        refine o_callX trivial Tryz.call75 rfl (must_pan _ s1 u1 u2 rfl) (by repeat constructor) ?_
        refine then_p (then_p (blk_p (then_p ?_)))
        refine retX ?_
        exact leafX hx1.le
       ·
        have f6 := h6
        try simp only [bl] at f6
        exfalso; rcases hz with hz | hz
        · exact f4 hz.1
        · exact f6 hz.1
end Go.Proofs.YtjgbjaaekknenaaGreat
/-
  Layer 15 of the program: what a tape comes to.
-/
namespace Go.Tw
open Go
set_option linter.unusedVariables false
set_option linter.unusedSimpArgs false
set_option linter.unnecessarySimpa false
set_option maxHeartbeats 1000000
/-- A number as it is handed in. -/
structure NV where
  neg : Bool
  n : List Nat
  d : List Nat
  vn : Value
  vd : Value
def NV.cells (x : NV) : List Value := [.bool x.neg, x.vn, x.vd]
def NV.ok (I : Hp) (x : NV) : Prop := Ws I x.vn x.n ∧ Ws I x.vd x.d
def NV.q (x : NV) : Rat := lowQ x.neg (val x.n) (val x.d)
theorem NV.ok.le {I I' : Hp} {r : NV} (h : r.ok I) (hl : I.Le I') : r.ok I' := ⟨h.1.le hl, h.2.le hl⟩
/-- A point in memory. -/
structure PtV (I : Hp) (v : Value) (xs : List NV) : Prop where
  s : Slc I 3 v (xs.map NV.cells)
  ok : ∀ x ∈ xs, x.ok I
theorem PtV.le {I I' : Hp} {v : Value} {xs : List NV} (h : PtV I v xs) (hl : I.Le I') : PtV I' v xs := ⟨h.s.le hl, fun o ho => (h.ok o ho).le hl⟩
theorem NV.at_ {I : Hp} {v : Value} {xs : List NV} (h : PtV I v xs) {i : Nat} {x : NV} (hx : xs[i]? = some x) : ∀ k y, ([.bool x.neg, x.vn, x.vd] : List Value)[k]? = some y → I.cell? ⟨slcB v, slcO v + i * 3 + k, none⟩ = some y :=
  h.s.cells i _ (by rw [List.getElem?_map, hx]; rfl)
/-- Numbers that came out. -/
structure RsV (I : Hp) (v : Value) (l : List Rat) : Prop where
  out : ∃ rs : List RV, Slc I 3 v (rcs rs) ∧ (∀ r ∈ rs, r.ok I) ∧ rs.map RV.q = l
theorem RsV.le {I I' : Hp} {v : Value} {l : List Rat} (h : RsV I v l) (hl : I.Le I') : RsV I' v l := let ⟨rs, h1, h2, h3⟩ := h.out; ⟨rs, h1.le hl, fun r hr => (h2 r hr).le hl, h3⟩
def opsR : List OpC → List Rat → Option (List Rat)
  | [], l => some l
  | o :: r, l => match opR o l with
    | some q => opsR r (l ++ [q])
    | none => none
def OpsOK : List OpC → List Rat → Prop
  | [], _ => True
  | o :: r, l => OpOK o l ∧ ∀ q, opR o l = some q → OpsOK r (l ++ [q])
end Go.Tw
namespace Go.Proofs.YtjgbjaaekknenaaGreat
open Go Go.Tw
set_option linter.unusedVariables false
set_option linter.unusedSimpArgs false
set_option linter.unnecessarySimpa false
set_option maxHeartbeats 1000000
theorem run1_ret (b4 b5 : Nat) (w : World) : CallsD Tryz.prog 52 #[.pointer (some ⟨b4, 0, none⟩), .pointer (some ⟨b5, 0, none⟩)] .returning w fun e u' w' => (∃ x, e = .returned x) ∧ u' = .returning ∧ w' = w := by
  refine callsD_of_wpS Tryz.func52 rfl fun c₀ cs hu => ?_
  apply wpS_seq
  apply wpS_region
  simp [wpOpsS, go_sem, recoverD, hu, Tryz.ntmps52, Exit.thenS]
  refine wpS_cond (t := false) (by simp [Act.eval, Array.replicate]) ?_
  simp only [Bool.false_eq_true, if_false]
  refine wpS_of_wp (wp_skip ?_)
  cases c₀
  simp_all [bodyPostS, results, Tryz.results52]
theorem run1_pan (b4 b5 : Nat) (u z : Value) {w0 : World} {X : List Nat} {I : Hp} (w : World) (hw : St w0 X I [.box b4 (.cells #[u] 37 (0, 0)), .box b5 (.cells #[z] 39 (0, 0))] w) :
    CallsD Tryz.prog 52 #[.pointer (some ⟨b4, 0, none⟩), .pointer (some ⟨b5, 0, none⟩)] (.panicking (pe zeroErr)) w fun e u' w' => (∃ x, e = .returned x) ∧ u' = .panicking [{ v := zeroErr, recovered := true }] ∧ St w0 X I [.box b4 (.cells #[.slice none 0 0] 37 (0, 0)), .box b5 (.cells #[.int .i64 3] 39 (0, 0))] w' := by
  refine callsD_of_wpS Tryz.func52 rfl fun c₀ cs hu => ?_
  apply wpS_seq
  apply wpS_region
  simp [wpOpsS, go_sem, recoverD, hu, Tryz.ntmps52, Exit.thenS, pe, zeroErr]
  refine wpS_cond (t := true) (by simp [Act.eval, Array.replicate]) ?_
  simp only [if_true]
  refine wpS_of_wp ?_
  refine TC.out (n := 4) (D := []) (E := [(0, .pointer (some ⟨b4, 0, none⟩)), (1, .pointer (some ⟨b5, 0, none⟩))]) (S := St w0 X I [.box b4 (.cells #[u] 37 (0, 0)), .box b5 (.cells #[z] 39 (0, 0))]) ?_ _ w ⟨by simp, rfl, ?_⟩ hw
  · refine c_region ?_
    refine o_store trivial rfl rfl rfl Tryz.sizeOf37 rfl rfl (.here) (by repeat constructor) ?_
    refine o_store trivial rfl rfl rfl Tryz.sizeOf39 rfl rfl (.there .here) (by repeat constructor) ?_
    refine o_nil ?_
    refine ⟨fun a w' ha hw' => ⟨ha.defs, .panicking [{ v := zeroErr, recovered := true }], rfl, .tuple #[], ?_, ⟨_, rfl⟩, rfl, hw'⟩⟩
    simp [results, Tryz.results52]
  · intro i v hi
    match i, hi with
    | 0, hi => cases hi; rfl
    | 1, hi => cases hi; rfl
    | i + 2, hi => cases hi
/-- What run tells. -/
def runR (r : Option (List Rat)) (v : Value) (I : Hp) : Prop := ∃ u, v = .tuple #[u, .int .i64 (if r.isSome then 0 else 3)] ∧ (∀ l, r = some l → RsV I u l) ∧ (r = none → u = .slice none 0 0)
theorem runR_none {I : Hp} : runR none (.tuple #[.slice none 0 0, .int .i64 3]) I := ⟨_, rfl, fun l h => (by cases h), fun _ => rfl⟩
theorem runR_some {I : Hp} {l : List Rat} {u : Value} (h : RsV I u l) : runR (some l) (.tuple #[u, .int .i64 0]) I := ⟨u, rfl, fun l' h' => (by cases h'; exact h), fun h' => by cases h'⟩
theorem three_plain {I : Hp} {b : Bool} {u1 u2 : Value} {X Y : List Nat} (h1 : Ws I u1 X) (h2 : Ws I u2 Y) : plain1 ([.bool b, u1, u2] ++ []) = true := by
  have e1 := h1.cells1.2
  have e2 := h2.cells1.2
  show (true && (u1.oneCell' && (u2.oneCell' && true))) = true
  rw [e1, e2]; rfl
theorem rcs_more (rs : List RV) (r : RV) : (rcs rs).flatten ++ [.bool (decide (r.q.num < 0)), r.vn, r.vd] = (rcs (rs ++ [r])).flatten := by
  unfold rcs; rw [List.map_append, List.flatten_append]; rfl
theorem opsR_drop {ops : List OpC} {i : Nat} {o : OpC} (h : ops[i]? = some o) (l : List Rat) : opsR (ops.drop i) l = match opR o l with | some q => opsR (ops.drop (i + 1)) (l ++ [q]) | none => none := by
  rw [List.drop_eq_getElem_cons (List.getElem?_eq_some_iff.1 h).1, (List.getElem?_eq_some_iff.1 h).2]; rfl
theorem OpsOK_drop {ops : List OpC} {i : Nat} {o : OpC} (h : ops[i]? = some o) {l : List Rat} (hk : OpsOK (ops.drop i) l) : OpOK o l ∧ ∀ q, opR o l = some q → OpsOK (ops.drop (i + 1)) (l ++ [q]) := by
  rw [List.drop_eq_getElem_cons (List.getElem?_eq_some_iff.1 h).1, (List.getElem?_eq_some_iff.1 h).2] at hk; exact hk
theorem run_any (t : TapeC) (vo vu vx : Value) (os : List OpV) (xs : List NV) {I : Hp} (ht : TapeV I vo vu t os) (hpt : PtV I vx xs) (hxs : ∀ x ∈ xs, x.n.length ≤ 400000 ∧ x.d.length ≤ 400000) (hm : xs.length + t.ops.length ≤ 100000) (hok : OpsOK t.ops (xs.map NV.q)) :
    Fun Tryz.prog 31 [.agg #[.int .i64 t.ins, vo, vu], vx] I [] (fun v I' _ => runR (opsR t.ops (xs.map NV.q)) v I') := by
  have hol : os.length = t.ops.length := by rw [← ht.eq, List.length_map]
  have hoc : ∀ {i : Nat} {o : OpV}, os[i]? = some o → t.ops[i]? = some o.c := fun {i o} h => by rw [← ht.eq, List.getElem?_map, h]; rfl
  have hml : (os.map OpV.cells).length = t.ops.length := by rw [List.length_map, hol]
  have hxl : (xs.map NV.cells).length = xs.length := List.length_map _
  intro w hw
  refine enterD2 _ Tryz.func31 rfl Tryz.ntmps31 rfl ?_ hw
  refine c_seq (c_region ?_)
  refine o_box trivial rfl rfl rfl (fun b2 => ?_)
  refine o_alloc trivial rfl Tryz.zeroValue37 rfl (fun b4 => ?_)
  refine o_alloc trivial rfl Tryz.zeroValue39 rfl (fun b5 => ?_)
  refine o_nil (then_c (c_seq (c_region ?_)))
  refine o_pv trivial rfl rfl ?_
  refine o_defer trivial rfl ?_
  refine o_nil (then_c (c_seq (c_seq (c_region ?_))))
  refine o_pv trivial rfl rfl ?_
  refine o_lenSlc trivial rfl Tryz.underlying37 rfl (hpt.s) ?_
  refine o_pv trivial rfl rfl ?_
  refine o_nil (then_c (c_block ?_))
  refine c_loop (ι := Nat × List RV × Value × Hp) [2, 4, 5, 11, 12] (.cons rfl (.cons rfl (.cons rfl (.cons rfl (.cons rfl .nil))))) (fun x => xs.length - x.1) (fun x E0 => (13, .int .i64 (x.1 : Nat)) :: E0) (fun x => St w [] x.2.2.2 [.row x.2.2.1 33 3 x.2.1.length (rcs x.2.1).flatten, .box b4 (.cells #[x.2.2.1] 37 (0, 0)), .box b5 (.cells #[.int .i64 0] 39 (0, 0)), .box b2 (.cells #[.int .i64 t.ins, vo, vu] 29 (0, 0))]) (fun x => (∀ r ∈ x.2.1, r.ok x.2.2.2) ∧ x.2.1.map RV.q = (xs.map NV.q).take x.1 ∧ x.2.1.length = x.1 ∧ x.1 ≤ xs.length ∧ Ext w.heap.size I x.2.2.2) ((0, [], .slice none 0 0, I)) (sub_cons rfl (sub_cons rfl (sub_cons rfl (sub_cons rfl (sub_cons rfl (sub_cons rfl sub_nil)))))) (fun _ h => (h.nilRow 33 3).sort (by repeat constructor)) (⟨fun r hr => (by cases hr), rfl, rfl, Nat.zero_le _, Ext.refl _ _⟩) ?_
  rintro ⟨i, rs, u, I1⟩ ⟨hrs, hq1, hri, hl1, hx1⟩
  try dsimp only
  simp only at hrs hq1 hri hl1 hx1
  refine c_seq (c_region ?_)
  refine o_pv trivial rfl rfl ?_
  refine o_nil (then_c (c_seq ?_))
  refine c_cond rfl (fun h1 => ?_) (fun h1 => ?_)
  ·
   have f1 := h1
   try simp only [bl] at f1
   have hil : i < xs.length := by omega
   obtain ⟨x, hxi⟩ : ∃ x, xs[i]? = some x := ⟨xs[i], List.getElem?_eq_getElem hil⟩
   have hxm := List.mem_of_getElem? hxi
   obtain ⟨hxn, hxd⟩ := (hpt.le hx1.le).ok x hxm
   have hxb := hxs x hxm
   refine c_skip (then_c (c_seq (c_block (c_seq (c_region ?_)))))
   refine o_elem trivial rfl Tryz.underlying37 Tryz.sizeOf33 rfl ((hpt.le hx1.le).s) rfl (by omega) ?_
   refine o_loadAI trivial rfl Tryz.isAgg33 Tryz.sizeOf33 rfl rfl (NV.at_ (hpt.le hx1.le) hxi) ?_
   refine o_alloc trivial rfl Tryz.zeroValue33 rfl (fun b7 => ?_)
   refine o_store trivial rfl rfl rfl Tryz.sizeOf33 rfl (by first | rfl | (repeat' (first | exact rfl | exact one_nil | refine one_cons ?_ ?_ | exact (Ws.cells1 (by assumption)).2 | exact (Slc.cells1 (by assumption)).2))) (by repeat constructor) (by repeat constructor) ?_
   refine o_nil (then_c ?_)
   refine c_any (m := 6) (by kernel_rfl) rfl (fun _ h => h.drawn) ?_
   refine a_go [0, 1] (by kernel_rfl) rfl (TWs.cons ?_ (TWs.cons ?_ TWs.nil))
   ·
    refine a_op #[true, false, false, false, false, false] rfl rfl ?_
    refine o_load1 trivial rfl Tryz.isAgg37 rfl (by repeat constructor) (by repeat constructor) ?_
    refine o_nil ?_
    refine a_next ?_
    refine a_go [1] (by kernel_rfl) rfl (TWs.cons ?_ TWs.nil)
    ·
     refine a_op #[true, true, false, false, false, false] rfl rfl ?_
     refine o_loadA trivial rfl Tryz.isAgg33 Tryz.sizeOf33 rfl (by repeat constructor) (by repeat constructor) ?_
     refine o_nil ?_
     refine a_next ?_
     refine a_go [2] (by kernel_rfl) rfl (TWs.cons ?_ TWs.nil)
     ·
      refine a_op #[true, true, true, false, false, false] rfl rfl ?_
      refine o_callI trivial rfl Tryz.call29 rfl (qFix_any x.neg _ _ _ _ hxn hxd hxb.1 hxb.2) ?_
      rintro _ I2 hx2 ⟨u1, u2, rfl, h1, h2⟩
      refine o_nil ?_
      refine a_next ?_
      refine a_go [3] (by kernel_rfl) rfl (TWs.cons ?_ TWs.nil)
      ·
       refine a_op #[true, true, true, true, false, false] rfl rfl ?_
       refine o_buildSl trivial rfl Tryz.underlying37 Tryz.sizeOf33 Tryz.zeroValue33 (by decide) (by decide) rfl (by repeat first | exact rfl | constructor) rfl (fun b20 => ?_)
       refine o_nil ?_
       refine a_next ?_
       refine a_go [4] (by kernel_rfl) rfl (TWs.cons ?_ TWs.nil)
       ·
        refine a_op #[true, true, true, true, true, false] rfl rfl ?_
        refine o_appendBox trivial rfl Tryz.underlying37 (elem33) (by decide) rfl rfl (fun v' => (by repeat constructor)) (by repeat constructor) rfl (by exact three_plain h1 h2) (by first | omega | (unfold maxLen; omega)) (by omega) (fun v21 => ?_)
        refine o_nil ?_
        refine a_next ?_
        refine a_go [5] (by kernel_rfl) rfl (TWs.cons ?_ TWs.nil)
        ·
         refine a_op #[true, true, true, true, true, true] rfl rfl ?_
         refine l_rowCells (u := v21) (by repeat constructor) (fun hcv => ?_)
         refine o_storeBox1 trivial rfl rfl (hcv).1 Tryz.sizeOf37 (hcv).2 (by repeat constructor) (by exact Nat.le_of_ble_eq_true rfl) ?_
         refine o_nil ?_
         refine a_next ?_
         refine a_end (by kernel_rfl) ?_
         refine blk_n (then_c (c_region ?_))
         first | (refine o_add trivial rfl rfl rfl ?_ ?_; (omega)) | refine o_pv trivial rfl rfl ?_
         refine o_pv trivial rfl rfl ?_
         refine o_nil ?_
         have hq2 : (rs ++ [(⟨x.q, u1, u2⟩ : RV)]).map RV.q = (xs.map NV.q).take (i + 1) := by
           rw [List.map_append, hq1, List.take_add_one, List.getElem?_map, hxi]; rfl
         exact again (i + 1, rs ++ [⟨x.q, u1, u2⟩], v21, I2) (sub_cons rfl (sub_cons rfl (sub_cons rfl (sub_cons rfl (sub_cons rfl (sub_cons rfl sub_nil)))))) (fun _ h => by rw [← rcs_more, List.length_append]; exact h.sort (by repeat constructor)) (by show xs.length - (i + 1) < xs.length - i; omega) ⟨fun r hr => by
           rcases List.mem_append.1 hr with hr | hr
           · exact (hrs r hr).le hx2.le
           · rw [List.mem_singleton.1 hr]; exact ⟨h1, h2⟩, hq2, by show (rs ++ [_]).length = _; rw [List.length_append, hri]; rfl, by show i + 1 ≤ _; omega, hx1.trans hx2 (Nat.le_refl _)⟩
   ·
    refine a_op #[false, true, false, false, false, false] rfl rfl ?_
    refine o_loadA trivial rfl Tryz.isAgg33 Tryz.sizeOf33 rfl (by repeat constructor) (by repeat constructor) ?_
    refine o_nil ?_
    refine a_next ?_
    refine a_go [0, 2] (by kernel_rfl) rfl (TWs.cons ?_ (TWs.cons ?_ TWs.nil))
    ·
     refine a_op #[true, true, false, false, false, false] rfl rfl ?_
     refine o_load1 trivial rfl Tryz.isAgg37 rfl (by repeat constructor) (by repeat constructor) ?_
     refine o_nil ?_
     refine a_next ?_
     refine a_go [2] (by kernel_rfl) rfl (TWs.cons ?_ TWs.nil)
     ·
      refine a_op #[true, true, true, false, false, false] rfl rfl ?_
      refine o_callI trivial rfl Tryz.call29 rfl (qFix_any x.neg _ _ _ _ hxn hxd hxb.1 hxb.2) ?_
      rintro _ I2 hx2 ⟨u1, u2, rfl, h1, h2⟩
      refine o_nil ?_
      refine a_next ?_
      refine a_go [3] (by kernel_rfl) rfl (TWs.cons ?_ TWs.nil)
      ·
       refine a_op #[true, true, true, true, false, false] rfl rfl ?_
       refine o_buildSl trivial rfl Tryz.underlying37 Tryz.sizeOf33 Tryz.zeroValue33 (by decide) (by decide) rfl (by repeat first | exact rfl | constructor) rfl (fun b20 => ?_)
       refine o_nil ?_
       refine a_next ?_
       refine a_go [4] (by kernel_rfl) rfl (TWs.cons ?_ TWs.nil)
       ·
        refine a_op #[true, true, true, true, true, false] rfl rfl ?_
        refine o_appendBox trivial rfl Tryz.underlying37 (elem33) (by decide) rfl rfl (fun v' => (by repeat constructor)) (by repeat constructor) rfl (by exact three_plain h1 h2) (by first | omega | (unfold maxLen; omega)) (by omega) (fun v21 => ?_)
        refine o_nil ?_
        refine a_next ?_
        refine a_go [5] (by kernel_rfl) rfl (TWs.cons ?_ TWs.nil)
        ·
         refine a_op #[true, true, true, true, true, true] rfl rfl ?_
         refine l_rowCells (u := v21) (by repeat constructor) (fun hcv => ?_)
         refine o_storeBox1 trivial rfl rfl (hcv).1 Tryz.sizeOf37 (hcv).2 (by repeat constructor) (by exact Nat.le_of_ble_eq_true rfl) ?_
         refine o_nil ?_
         refine a_next ?_
         refine a_end (by kernel_rfl) ?_
         refine blk_n (then_c (c_region ?_))
         first | (refine o_add trivial rfl rfl rfl ?_ ?_; (omega)) | refine o_pv trivial rfl rfl ?_
         refine o_pv trivial rfl rfl ?_
         refine o_nil ?_
         have hq2 : (rs ++ [(⟨x.q, u1, u2⟩ : RV)]).map RV.q = (xs.map NV.q).take (i + 1) := by
           rw [List.map_append, hq1, List.take_add_one, List.getElem?_map, hxi]; rfl
         exact again (i + 1, rs ++ [⟨x.q, u1, u2⟩], v21, I2) (sub_cons rfl (sub_cons rfl (sub_cons rfl (sub_cons rfl (sub_cons rfl (sub_cons rfl sub_nil)))))) (fun _ h => by rw [← rcs_more, List.length_append]; exact h.sort (by repeat constructor)) (by show xs.length - (i + 1) < xs.length - i; omega) ⟨fun r hr => by
           rcases List.mem_append.1 hr with hr | hr
           · exact (hrs r hr).le hx2.le
           · rw [List.mem_singleton.1 hr]; exact ⟨h1, h2⟩, hq2, by show (rs ++ [_]).length = _; rw [List.length_append, hri]; rfl, by show i + 1 ≤ _; omega, hx1.trans hx2 (Nat.le_refl _)⟩
    ·
     refine a_op #[false, true, true, false, false, false] rfl rfl ?_
     refine o_callI trivial rfl Tryz.call29 rfl (qFix_any x.neg _ _ _ _ hxn hxd hxb.1 hxb.2) ?_
     rintro _ I2 hx2 ⟨u1, u2, rfl, h1, h2⟩
     refine o_nil ?_
     refine a_next ?_
     refine a_go [0, 3] (by kernel_rfl) rfl (TWs.cons ?_ (TWs.cons ?_ TWs.nil))
     ·
      refine a_op #[true, true, true, false, false, false] rfl rfl ?_
      refine o_load1 trivial rfl Tryz.isAgg37 rfl (by repeat constructor) (by repeat constructor) ?_
      refine o_nil ?_
      refine a_next ?_
      refine a_go [3] (by kernel_rfl) rfl (TWs.cons ?_ TWs.nil)
      ·
       refine a_op #[true, true, true, true, false, false] rfl rfl ?_
       refine o_buildSl trivial rfl Tryz.underlying37 Tryz.sizeOf33 Tryz.zeroValue33 (by decide) (by decide) rfl (by repeat first | exact rfl | constructor) rfl (fun b20 => ?_)
       refine o_nil ?_
       refine a_next ?_
       refine a_go [4] (by kernel_rfl) rfl (TWs.cons ?_ TWs.nil)
       ·
        refine a_op #[true, true, true, true, true, false] rfl rfl ?_
        refine o_appendBox trivial rfl Tryz.underlying37 (elem33) (by decide) rfl rfl (fun v' => (by repeat constructor)) (by repeat constructor) rfl (by exact three_plain h1 h2) (by first | omega | (unfold maxLen; omega)) (by omega) (fun v21 => ?_)
        refine o_nil ?_
        refine a_next ?_
        refine a_go [5] (by kernel_rfl) rfl (TWs.cons ?_ TWs.nil)
        ·
         refine a_op #[true, true, true, true, true, true] rfl rfl ?_
         refine l_rowCells (u := v21) (by repeat constructor) (fun hcv => ?_)
         refine o_storeBox1 trivial rfl rfl (hcv).1 Tryz.sizeOf37 (hcv).2 (by repeat constructor) (by exact Nat.le_of_ble_eq_true rfl) ?_
         refine o_nil ?_
         refine a_next ?_
         refine a_end (by kernel_rfl) ?_
         refine blk_n (then_c (c_region ?_))
         first | (refine o_add trivial rfl rfl rfl ?_ ?_; (omega)) | refine o_pv trivial rfl rfl ?_
         refine o_pv trivial rfl rfl ?_
         refine o_nil ?_
         have hq2 : (rs ++ [(⟨x.q, u1, u2⟩ : RV)]).map RV.q = (xs.map NV.q).take (i + 1) := by
           rw [List.map_append, hq1, List.take_add_one, List.getElem?_map, hxi]; rfl
         exact again (i + 1, rs ++ [⟨x.q, u1, u2⟩], v21, I2) (sub_cons rfl (sub_cons rfl (sub_cons rfl (sub_cons rfl (sub_cons rfl (sub_cons rfl sub_nil)))))) (fun _ h => by rw [← rcs_more, List.length_append]; exact h.sort (by repeat constructor)) (by show xs.length - (i + 1) < xs.length - i; omega) ⟨fun r hr => by
           rcases List.mem_append.1 hr with hr | hr
           · exact (hrs r hr).le hx2.le
           · rw [List.mem_singleton.1 hr]; exact ⟨h1, h2⟩, hq2, by show (rs ++ [_]).length = _; rw [List.length_append, hri]; rfl, by show i + 1 ≤ _; omega, hx1.trans hx2 (Nat.le_refl _)⟩
     ·
      refine a_op #[false, true, true, true, false, false] rfl rfl ?_
      refine o_buildSl trivial rfl Tryz.underlying37 Tryz.sizeOf33 Tryz.zeroValue33 (by decide) (by decide) rfl (by repeat first | exact rfl | constructor) rfl (fun b20 => ?_)
      refine o_nil ?_
      refine a_next ?_
      refine a_go [0] (by kernel_rfl) rfl (TWs.cons ?_ TWs.nil)
      ·
       refine a_op #[true, true, true, true, false, false] rfl rfl ?_
       refine o_load1 trivial rfl Tryz.isAgg37 rfl (by repeat constructor) (by repeat constructor) ?_
       refine o_nil ?_
       refine a_next ?_
       refine a_go [4] (by kernel_rfl) rfl (TWs.cons ?_ TWs.nil)
       ·
        refine a_op #[true, true, true, true, true, false] rfl rfl ?_
        refine o_appendBox trivial rfl Tryz.underlying37 (elem33) (by decide) rfl rfl (fun v' => (by repeat constructor)) (by repeat constructor) rfl (by exact three_plain h1 h2) (by first | omega | (unfold maxLen; omega)) (by omega) (fun v21 => ?_)
        refine o_nil ?_
        refine a_next ?_
        refine a_go [5] (by kernel_rfl) rfl (TWs.cons ?_ TWs.nil)
        ·
         refine a_op #[true, true, true, true, true, true] rfl rfl ?_
         refine l_rowCells (u := v21) (by repeat constructor) (fun hcv => ?_)
         refine o_storeBox1 trivial rfl rfl (hcv).1 Tryz.sizeOf37 (hcv).2 (by repeat constructor) (by exact Nat.le_of_ble_eq_true rfl) ?_
         refine o_nil ?_
         refine a_next ?_
         refine a_end (by kernel_rfl) ?_
         refine blk_n (then_c (c_region ?_))
         first | (refine o_add trivial rfl rfl rfl ?_ ?_; (omega)) | refine o_pv trivial rfl rfl ?_
         refine o_pv trivial rfl rfl ?_
         refine o_nil ?_
         have hq2 : (rs ++ [(⟨x.q, u1, u2⟩ : RV)]).map RV.q = (xs.map NV.q).take (i + 1) := by
           rw [List.map_append, hq1, List.take_add_one, List.getElem?_map, hxi]; rfl
         exact again (i + 1, rs ++ [⟨x.q, u1, u2⟩], v21, I2) (sub_cons rfl (sub_cons rfl (sub_cons rfl (sub_cons rfl (sub_cons rfl (sub_cons rfl sub_nil)))))) (fun _ h => by rw [← rcs_more, List.length_append]; exact h.sort (by repeat constructor)) (by show xs.length - (i + 1) < xs.length - i; omega) ⟨fun r hr => by
           rcases List.mem_append.1 hr with hr | hr
           · exact (hrs r hr).le hx2.le
           · rw [List.mem_singleton.1 hr]; exact ⟨h1, h2⟩, hq2, by show (rs ++ [_]).length = _; rw [List.length_append, hri]; rfl, by show i + 1 ≤ _; omega, hx1.trans hx2 (Nat.le_refl _)⟩
  ·
   have f1 := h1
   try simp only [bl] at f1
   refine c_exit (then_x (then_x (blk_eq rfl (then_c (c_seq (c_seq ?_))))))
   have hrl : rs.length = xs.length := by omega
   rw [← hri, hrl, ← List.length_map (f := NV.q), List.take_length] at hq1
   refine c_region ?_
   refine o_fieldAddr (T := 26) (off := 1) trivial rfl Tryz.underlying29 rfl rfl rfl Tryz.sizeOf26 rfl rfl ?_
   refine o_load1 trivial rfl Tryz.isAgg26 rfl (by repeat constructor) (by repeat constructor) ?_
   refine o_lenSlc trivial rfl Tryz.underlying26 rfl (ht.so.le hx1.le) ?_
   refine o_pv trivial rfl rfl ?_
   refine o_nil (then_c (c_block ?_))
   refine c_loop (ι := Nat × List RV × Value × Hp) [4, 5, 24, 25] (.cons rfl (.cons rfl (.cons rfl (.cons rfl .nil)))) (fun x => t.ops.length - x.1) (fun x E0 => (26, .int .i64 (x.1 : Nat)) :: E0) (fun x => St w [] x.2.2.2 [.row x.2.2.1 33 3 x.2.1.length (rcs x.2.1).flatten, .box b4 (.cells #[x.2.2.1] 37 (0, 0)), .box b5 (.cells #[.int .i64 0] 39 (0, 0)), .box b2 (.cells #[.int .i64 t.ins, vo, vu] 29 (0, 0))]) (fun x => x.1 ≤ t.ops.length ∧ x.2.1.length = xs.length + x.1 ∧ (∀ r ∈ x.2.1, r.ok x.2.2.2) ∧ opsR t.ops (xs.map NV.q) = opsR (t.ops.drop x.1) (x.2.1.map RV.q) ∧ OpsOK (t.ops.drop x.1) (x.2.1.map RV.q) ∧ Ext w.heap.size I x.2.2.2) ((0, rs, u, I1)) (sub_cons rfl (sub_cons rfl (sub_cons rfl (sub_cons rfl (sub_cons rfl sub_nil))))) (fun _ h => h) (⟨Nat.zero_le _, hrl, hrs, by rw [hq1]; rfl, by rw [hq1]; exact hok, hx1⟩) ?_
   rintro ⟨i, rs, u, I1⟩ ⟨hi, hrl, hrs, hR, hK, hx1⟩
   try dsimp only
   simp only at hi hrl hrs hR hK hx1
   refine c_seq (c_region ?_)
   refine o_pv trivial rfl rfl ?_
   refine o_nil (then_c (c_seq ?_))
   refine c_cond rfl (fun h2 => ?_) (fun h2 => ?_)
   ·
    have f2 := h2
    try simp only [bl] at f2
    have hio : i < os.length := by omega
    obtain ⟨o, ho⟩ : ∃ o, os[i]? = some o := ⟨os[i], List.getElem?_eq_getElem hio⟩
    have hok1 := ht.le hx1.le
    obtain ⟨hvn, hvd⟩ := hok1.ok o (List.mem_of_getElem? ho)
    have hto := hoc ho
    rw [opsR_drop hto] at hR
    obtain ⟨hK1, hK2⟩ := OpsOK_drop hto hK
    refine c_skip (then_c (c_seq (c_block (c_seq (c_region ?_)))))
    refine o_elem trivial rfl Tryz.underlying26 Tryz.sizeOf35 rfl ((ht.le hx1.le).so) rfl (by omega) ?_
    refine o_loadAI trivial rfl Tryz.isAgg35 Tryz.sizeOf35 rfl rfl (OpV.at_ (ht.le hx1.le) ho) ?_
    refine o_alloc trivial rfl Tryz.zeroValue35 rfl (fun b9 => ?_)
    refine o_store trivial rfl rfl rfl Tryz.sizeOf35 rfl (by first | rfl | (repeat' (first | exact rfl | exact one_nil | refine one_cons ?_ ?_ | exact (Ws.cells1 (by assumption)).2 | exact (Slc.cells1 (by assumption)).2))) (by repeat constructor) (by repeat constructor) ?_
    refine o_nil (then_c ?_)
    cases hq : opR o.c (rs.map RV.q)
    ·
     refine c_any (m := 7) (by kernel_rfl) rfl (fun _ h => h.drawn) ?_
     refine a_go [0, 1, 2] (by kernel_rfl) rfl (TWs.cons ?_ (TWs.cons ?_ (TWs.cons ?_ TWs.nil)))
     ·
      refine a_op #[true, false, false, false, false, false, false] rfl rfl ?_
      refine o_load1 trivial rfl Tryz.isAgg37 rfl (by repeat constructor) (by repeat constructor) ?_
      refine o_nil ?_
      refine a_next ?_
      refine a_go [1, 2] (by kernel_rfl) rfl (TWs.cons ?_ (TWs.cons ?_ TWs.nil))
      ·
       refine a_op #[true, true, false, false, false, false, false] rfl rfl ?_
       refine o_loadA trivial rfl Tryz.isAgg35 Tryz.sizeOf35 rfl (by repeat constructor) (by repeat constructor) ?_
       refine o_nil ?_
       refine a_next ?_
       refine a_go [2] (by kernel_rfl) rfl (TWs.cons ?_ TWs.nil)
       ·
        refine a_op #[true, true, true, false, false, false, false] rfl rfl ?_
        refine o_load1 trivial rfl Tryz.isAgg37 rfl (by repeat constructor) (by repeat constructor) ?_
        refine o_nil ?_
        refine a_next ?_
        refine a_go [3] (by kernel_rfl) rfl (TWs.cons ?_ TWs.nil)
        ·
         refine a_op #[true, true, true, true, false, false, false] rfl rfl ?_
         refine o_callX trivial Tryz.call53 rfl (op_pan o.c.code o.c.a o.c.b o.c.e o.c.neg o.vn o.vd u o.c.n o.c.d rs hvn hvd hrs hK1 hq) (by repeat constructor) ?_
         refine then_p (blk_p (then_p (then_p (blk_p (then_p ?_)))))
         rw [hq] at hR
         refine panD rfl Tryz.call52 (fun w' hw' => run1_pan b4 b5 _ _ w' (hw'.sort (by repeat constructor))) (.one Tryz.isAgg37 rfl (by repeat constructor) (.one Tryz.isAgg39 rfl (by repeat constructor) .nil)) (leaf hx1 (List.nil_sublist _) ?_)
         rw [hR]; exact runR_none
      ·
       refine a_op #[true, false, true, false, false, false, false] rfl rfl ?_
       refine o_load1 trivial rfl Tryz.isAgg37 rfl (by repeat constructor) (by repeat constructor) ?_
       refine o_nil ?_
       refine a_next ?_
       refine a_go [1] (by kernel_rfl) rfl (TWs.cons ?_ TWs.nil)
       ·
        refine a_op #[true, true, true, false, false, false, false] rfl rfl ?_
        refine o_loadA trivial rfl Tryz.isAgg35 Tryz.sizeOf35 rfl (by repeat constructor) (by repeat constructor) ?_
        refine o_nil ?_
        refine a_next ?_
        refine a_go [3] (by kernel_rfl) rfl (TWs.cons ?_ TWs.nil)
        ·
         refine a_op #[true, true, true, true, false, false, false] rfl rfl ?_
         refine o_callX trivial Tryz.call53 rfl (op_pan o.c.code o.c.a o.c.b o.c.e o.c.neg o.vn o.vd u o.c.n o.c.d rs hvn hvd hrs hK1 hq) (by repeat constructor) ?_
         refine then_p (blk_p (then_p (then_p (blk_p (then_p ?_)))))
         rw [hq] at hR
         refine panD rfl Tryz.call52 (fun w' hw' => run1_pan b4 b5 _ _ w' (hw'.sort (by repeat constructor))) (.one Tryz.isAgg37 rfl (by repeat constructor) (.one Tryz.isAgg39 rfl (by repeat constructor) .nil)) (leaf hx1 (List.nil_sublist _) ?_)
         rw [hR]; exact runR_none
     ·
      refine a_op #[false, true, false, false, false, false, false] rfl rfl ?_
      refine o_loadA trivial rfl Tryz.isAgg35 Tryz.sizeOf35 rfl (by repeat constructor) (by repeat constructor) ?_
      refine o_nil ?_
      refine a_next ?_
      refine a_go [0, 2] (by kernel_rfl) rfl (TWs.cons ?_ (TWs.cons ?_ TWs.nil))
      ·
       refine a_op #[true, true, false, false, false, false, false] rfl rfl ?_
       refine o_load1 trivial rfl Tryz.isAgg37 rfl (by repeat constructor) (by repeat constructor) ?_
       refine o_nil ?_
       refine a_next ?_
       refine a_go [2] (by kernel_rfl) rfl (TWs.cons ?_ TWs.nil)
       ·
        refine a_op #[true, true, true, false, false, false, false] rfl rfl ?_
        refine o_load1 trivial rfl Tryz.isAgg37 rfl (by repeat constructor) (by repeat constructor) ?_
        refine o_nil ?_
        refine a_next ?_
        refine a_go [3] (by kernel_rfl) rfl (TWs.cons ?_ TWs.nil)
        ·
         refine a_op #[true, true, true, true, false, false, false] rfl rfl ?_
         refine o_callX trivial Tryz.call53 rfl (op_pan o.c.code o.c.a o.c.b o.c.e o.c.neg o.vn o.vd u o.c.n o.c.d rs hvn hvd hrs hK1 hq) (by repeat constructor) ?_
         refine then_p (blk_p (then_p (then_p (blk_p (then_p ?_)))))
         rw [hq] at hR
         refine panD rfl Tryz.call52 (fun w' hw' => run1_pan b4 b5 _ _ w' (hw'.sort (by repeat constructor))) (.one Tryz.isAgg37 rfl (by repeat constructor) (.one Tryz.isAgg39 rfl (by repeat constructor) .nil)) (leaf hx1 (List.nil_sublist _) ?_)
         rw [hR]; exact runR_none
      ·
       refine a_op #[false, true, true, false, false, false, false] rfl rfl ?_
       refine o_load1 trivial rfl Tryz.isAgg37 rfl (by repeat constructor) (by repeat constructor) ?_
       refine o_nil ?_
       refine a_next ?_
       refine a_go [0, 3] (by kernel_rfl) rfl (TWs.cons ?_ (TWs.cons ?_ TWs.nil))
       ·
        refine a_op #[true, true, true, false, false, false, false] rfl rfl ?_
        refine o_load1 trivial rfl Tryz.isAgg37 rfl (by repeat constructor) (by repeat constructor) ?_
        refine o_nil ?_
        refine a_next ?_
        refine a_go [3] (by kernel_rfl) rfl (TWs.cons ?_ TWs.nil)
        ·
         refine a_op #[true, true, true, true, false, false, false] rfl rfl ?_
         refine o_callX trivial Tryz.call53 rfl (op_pan o.c.code o.c.a o.c.b o.c.e o.c.neg o.vn o.vd u o.c.n o.c.d rs hvn hvd hrs hK1 hq) (by repeat constructor) ?_
         refine then_p (blk_p (then_p (then_p (blk_p (then_p ?_)))))
         rw [hq] at hR
         refine panD rfl Tryz.call52 (fun w' hw' => run1_pan b4 b5 _ _ w' (hw'.sort (by repeat constructor))) (.one Tryz.isAgg37 rfl (by repeat constructor) (.one Tryz.isAgg39 rfl (by repeat constructor) .nil)) (leaf hx1 (List.nil_sublist _) ?_)
         rw [hR]; exact runR_none
       ·
        refine a_op #[false, true, true, true, false, false, false] rfl rfl ?_
        refine o_callX trivial Tryz.call53 rfl (op_pan o.c.code o.c.a o.c.b o.c.e o.c.neg o.vn o.vd u o.c.n o.c.d rs hvn hvd hrs hK1 hq) (by repeat constructor) ?_
        refine then_p (blk_p (then_p (then_p (blk_p (then_p ?_)))))
        rw [hq] at hR
        refine panD rfl Tryz.call52 (fun w' hw' => run1_pan b4 b5 _ _ w' (hw'.sort (by repeat constructor))) (.one Tryz.isAgg37 rfl (by repeat constructor) (.one Tryz.isAgg39 rfl (by repeat constructor) .nil)) (leaf hx1 (List.nil_sublist _) ?_)
        rw [hR]; exact runR_none
     ·
      refine a_op #[false, false, true, false, false, false, false] rfl rfl ?_
      refine o_load1 trivial rfl Tryz.isAgg37 rfl (by repeat constructor) (by repeat constructor) ?_
      refine o_nil ?_
      refine a_next ?_
      refine a_go [0, 1] (by kernel_rfl) rfl (TWs.cons ?_ (TWs.cons ?_ TWs.nil))
      ·
       refine a_op #[true, false, true, false, false, false, false] rfl rfl ?_
       refine o_load1 trivial rfl Tryz.isAgg37 rfl (by repeat constructor) (by repeat constructor) ?_
       refine o_nil ?_
       refine a_next ?_
       refine a_go [1] (by kernel_rfl) rfl (TWs.cons ?_ TWs.nil)
       ·
        refine a_op #[true, true, true, false, false, false, false] rfl rfl ?_
        refine o_loadA trivial rfl Tryz.isAgg35 Tryz.sizeOf35 rfl (by repeat constructor) (by repeat constructor) ?_
        refine o_nil ?_
        refine a_next ?_
        refine a_go [3] (by kernel_rfl) rfl (TWs.cons ?_ TWs.nil)
        ·
         refine a_op #[true, true, true, true, false, false, false] rfl rfl ?_
         refine o_callX trivial Tryz.call53 rfl (op_pan o.c.code o.c.a o.c.b o.c.e o.c.neg o.vn o.vd u o.c.n o.c.d rs hvn hvd hrs hK1 hq) (by repeat constructor) ?_
         refine then_p (blk_p (then_p (then_p (blk_p (then_p ?_)))))
         rw [hq] at hR
         refine panD rfl Tryz.call52 (fun w' hw' => run1_pan b4 b5 _ _ w' (hw'.sort (by repeat constructor))) (.one Tryz.isAgg37 rfl (by repeat constructor) (.one Tryz.isAgg39 rfl (by repeat constructor) .nil)) (leaf hx1 (List.nil_sublist _) ?_)
         rw [hR]; exact runR_none
      ·
       refine a_op #[false, true, true, false, false, false, false] rfl rfl ?_
       refine o_loadA trivial rfl Tryz.isAgg35 Tryz.sizeOf35 rfl (by repeat constructor) (by repeat constructor) ?_
       refine o_nil ?_
       refine a_next ?_
       refine a_go [0, 3] (by kernel_rfl) rfl (TWs.cons ?_ (TWs.cons ?_ TWs.nil))
       ·
        refine a_op #[true, true, true, false, false, false, false] rfl rfl ?_
        refine o_load1 trivial rfl Tryz.isAgg37 rfl (by repeat constructor) (by repeat constructor) ?_
        refine o_nil ?_
        refine a_next ?_
        refine a_go [3] (by kernel_rfl) rfl (TWs.cons ?_ TWs.nil)
        ·
         refine a_op #[true, true, true, true, false, false, false] rfl rfl ?_
         refine o_callX trivial Tryz.call53 rfl (op_pan o.c.code o.c.a o.c.b o.c.e o.c.neg o.vn o.vd u o.c.n o.c.d rs hvn hvd hrs hK1 hq) (by repeat constructor) ?_
         refine then_p (blk_p (then_p (then_p (blk_p (then_p ?_)))))
         rw [hq] at hR
         refine panD rfl Tryz.call52 (fun w' hw' => run1_pan b4 b5 _ _ w' (hw'.sort (by repeat constructor))) (.one Tryz.isAgg37 rfl (by repeat constructor) (.one Tryz.isAgg39 rfl (by repeat constructor) .nil)) (leaf hx1 (List.nil_sublist _) ?_)
         rw [hR]; exact runR_none
       ·
        refine a_op #[false, true, true, true, false, false, false] rfl rfl ?_
        refine o_callX trivial Tryz.call53 rfl (op_pan o.c.code o.c.a o.c.b o.c.e o.c.neg o.vn o.vd u o.c.n o.c.d rs hvn hvd hrs hK1 hq) (by repeat constructor) ?_
        refine then_p (blk_p (then_p (then_p (blk_p (then_p ?_)))))
        rw [hq] at hR
        refine panD rfl Tryz.call52 (fun w' hw' => run1_pan b4 b5 _ _ w' (hw'.sort (by repeat constructor))) (.one Tryz.isAgg37 rfl (by repeat constructor) (.one Tryz.isAgg39 rfl (by repeat constructor) .nil)) (leaf hx1 (List.nil_sublist _) ?_)
        rw [hR]; exact runR_none
    ·
     rename_i q
     refine c_any (m := 7) (by kernel_rfl) rfl (fun _ h => h.drawn) ?_
     refine a_go [0, 1, 2] (by kernel_rfl) rfl (TWs.cons ?_ (TWs.cons ?_ (TWs.cons ?_ TWs.nil)))
     ·
      refine a_op #[true, false, false, false, false, false, false] rfl rfl ?_
      refine o_load1 trivial rfl Tryz.isAgg37 rfl (by repeat constructor) (by repeat constructor) ?_
      refine o_nil ?_
      refine a_next ?_
      refine a_go [1, 2] (by kernel_rfl) rfl (TWs.cons ?_ (TWs.cons ?_ TWs.nil))
      ·
       refine a_op #[true, true, false, false, false, false, false] rfl rfl ?_
       refine o_loadA trivial rfl Tryz.isAgg35 Tryz.sizeOf35 rfl (by repeat constructor) (by repeat constructor) ?_
       refine o_nil ?_
       refine a_next ?_
       refine a_go [2] (by kernel_rfl) rfl (TWs.cons ?_ TWs.nil)
       ·
        refine a_op #[true, true, true, false, false, false, false] rfl rfl ?_
        refine o_load1 trivial rfl Tryz.isAgg37 rfl (by repeat constructor) (by repeat constructor) ?_
        refine o_nil ?_
        refine a_next ?_
        refine a_go [3] (by kernel_rfl) rfl (TWs.cons ?_ TWs.nil)
        ·
         refine a_op #[true, true, true, true, false, false, false] rfl rfl ?_
         refine o_callK trivial rfl Tryz.call53 rfl (op_any o.c.code o.c.a o.c.b o.c.e o.c.neg o.vn o.vd u o.c.n o.c.d rs q hvn hvd hrs hK1 hq) (by repeat constructor) ?_
         rintro _ I2 B2 hx2 ⟨rfl, u1, u2, rfl, h1, h2⟩
         refine o_nil ?_
         refine a_next ?_
         refine a_go [4] (by kernel_rfl) rfl (TWs.cons ?_ TWs.nil)
         ·
          refine a_op #[true, true, true, true, true, false, false] rfl rfl ?_
          refine o_buildSl trivial rfl Tryz.underlying37 Tryz.sizeOf33 Tryz.zeroValue33 (by decide) (by decide) rfl (by repeat first | exact rfl | constructor) rfl (fun b34 => ?_)
          refine o_nil ?_
          refine a_next ?_
          refine a_go [5] (by kernel_rfl) rfl (TWs.cons ?_ TWs.nil)
          ·
           refine a_op #[true, true, true, true, true, true, false] rfl rfl ?_
           refine o_appendBox trivial rfl Tryz.underlying37 (elem33) (by decide) rfl rfl (fun v' => (by repeat constructor)) (by repeat constructor) rfl (by exact three_plain h1 h2) (by first | omega | (unfold maxLen; omega)) (by omega) (fun v35 => ?_)
           refine o_nil ?_
           refine a_next ?_
           refine a_go [6] (by kernel_rfl) rfl (TWs.cons ?_ TWs.nil)
           ·
            refine a_op #[true, true, true, true, true, true, true] rfl rfl ?_
            refine l_rowCells (u := v35) (by repeat constructor) (fun hcv => ?_)
            refine o_storeBox1 trivial rfl rfl (hcv).1 Tryz.sizeOf37 (hcv).2 (by repeat constructor) (by exact Nat.le_of_ble_eq_true rfl) ?_
            refine o_nil ?_
            refine a_next ?_
            refine a_end (by kernel_rfl) ?_
            refine blk_n (then_c (c_region ?_))
            first | (refine o_add trivial rfl rfl rfl ?_ ?_; (omega)) | refine o_pv trivial rfl rfl ?_
            refine o_pv trivial rfl rfl ?_
            refine o_nil ?_
            rw [hq] at hR
            exact again (i + 1, rs ++ [⟨q, u1, u2⟩], v35, I2) (sub_cons rfl (sub_cons rfl (sub_cons rfl (sub_cons rfl (sub_cons rfl sub_nil))))) (fun _ h => by rw [← rcs_more, List.length_append]; exact h.sort (by repeat constructor)) (by show t.ops.length - (i + 1) < t.ops.length - i; omega) ⟨by show i + 1 ≤ _; omega, by show (rs ++ [_]).length = _; rw [List.length_append, List.length_singleton]; omega, fun r hr => by
              rcases List.mem_append.1 hr with hr | hr
              · exact (hrs r hr).le hx2.le
              · rw [List.mem_singleton.1 hr]; exact ⟨h1, h2⟩, by show _ = opsR _ ((rs ++ [_]).map RV.q); rw [List.map_append]; exact hR, by show OpsOK _ ((rs ++ [_]).map RV.q); rw [List.map_append]; exact hK2 q hq, hx1.trans hx2 (Nat.le_refl _)⟩
      ·
       refine a_op #[true, false, true, false, false, false, false] rfl rfl ?_
       refine o_load1 trivial rfl Tryz.isAgg37 rfl (by repeat constructor) (by repeat constructor) ?_
       refine o_nil ?_
       refine a_next ?_
       refine a_go [1] (by kernel_rfl) rfl (TWs.cons ?_ TWs.nil)
       ·
        refine a_op #[true, true, true, false, false, false, false] rfl rfl ?_
        refine o_loadA trivial rfl Tryz.isAgg35 Tryz.sizeOf35 rfl (by repeat constructor) (by repeat constructor) ?_
        refine o_nil ?_
        refine a_next ?_
        refine a_go [3] (by kernel_rfl) rfl (TWs.cons ?_ TWs.nil)
        ·
         refine a_op #[true, true, true, true, false, false, false] rfl rfl ?_
         refine o_callK trivial rfl Tryz.call53 rfl (op_any o.c.code o.c.a o.c.b o.c.e o.c.neg o.vn o.vd u o.c.n o.c.d rs q hvn hvd hrs hK1 hq) (by repeat constructor) ?_
         rintro _ I2 B2 hx2 ⟨rfl, u1, u2, rfl, h1, h2⟩
         refine o_nil ?_
         refine a_next ?_
         refine a_go [4] (by kernel_rfl) rfl (TWs.cons ?_ TWs.nil)
         ·
          refine a_op #[true, true, true, true, true, false, false] rfl rfl ?_
          refine o_buildSl trivial rfl Tryz.underlying37 Tryz.sizeOf33 Tryz.zeroValue33 (by decide) (by decide) rfl (by repeat first | exact rfl | constructor) rfl (fun b34 => ?_)
          refine o_nil ?_
          refine a_next ?_
          refine a_go [5] (by kernel_rfl) rfl (TWs.cons ?_ TWs.nil)
          ·
           refine a_op #[true, true, true, true, true, true, false] rfl rfl ?_
           refine o_appendBox trivial rfl Tryz.underlying37 (elem33) (by decide) rfl rfl (fun v' => (by repeat constructor)) (by repeat constructor) rfl (by exact three_plain h1 h2) (by first | omega | (unfold maxLen; omega)) (by omega) (fun v35 => ?_)
           refine o_nil ?_
           refine a_next ?_
           refine a_go [6] (by kernel_rfl) rfl (TWs.cons ?_ TWs.nil)
           ·
            refine a_op #[true, true, true, true, true, true, true] rfl rfl ?_
            refine l_rowCells (u := v35) (by repeat constructor) (fun hcv => ?_)
            refine o_storeBox1 trivial rfl rfl (hcv).1 Tryz.sizeOf37 (hcv).2 (by repeat constructor) (by exact Nat.le_of_ble_eq_true rfl) ?_
            refine o_nil ?_
            refine a_next ?_
            refine a_end (by kernel_rfl) ?_
            refine blk_n (then_c (c_region ?_))
            first | (refine o_add trivial rfl rfl rfl ?_ ?_; (omega)) | refine o_pv trivial rfl rfl ?_
            refine o_pv trivial rfl rfl ?_
            refine o_nil ?_
            rw [hq] at hR
            exact again (i + 1, rs ++ [⟨q, u1, u2⟩], v35, I2) (sub_cons rfl (sub_cons rfl (sub_cons rfl (sub_cons rfl (sub_cons rfl sub_nil))))) (fun _ h => by rw [← rcs_more, List.length_append]; exact h.sort (by repeat constructor)) (by show t.ops.length - (i + 1) < t.ops.length - i; omega) ⟨by show i + 1 ≤ _; omega, by show (rs ++ [_]).length = _; rw [List.length_append, List.length_singleton]; omega, fun r hr => by
              rcases List.mem_append.1 hr with hr | hr
              · exact (hrs r hr).le hx2.le
              · rw [List.mem_singleton.1 hr]; exact ⟨h1, h2⟩, by show _ = opsR _ ((rs ++ [_]).map RV.q); rw [List.map_append]; exact hR, by show OpsOK _ ((rs ++ [_]).map RV.q); rw [List.map_append]; exact hK2 q hq, hx1.trans hx2 (Nat.le_refl _)⟩
     ·
      refine a_op #[false, true, false, false, false, false, false] rfl rfl ?_
      refine o_loadA trivial rfl Tryz.isAgg35 Tryz.sizeOf35 rfl (by repeat constructor) (by repeat constructor) ?_
      refine o_nil ?_
      refine a_next ?_
      refine a_go [0, 2] (by kernel_rfl) rfl (TWs.cons ?_ (TWs.cons ?_ TWs.nil))
      ·
       refine a_op #[true, true, false, false, false, false, false] rfl rfl ?_
       refine o_load1 trivial rfl Tryz.isAgg37 rfl (by repeat constructor) (by repeat constructor) ?_
       refine o_nil ?_
       refine a_next ?_
       refine a_go [2] (by kernel_rfl) rfl (TWs.cons ?_ TWs.nil)
       ·
        refine a_op #[true, true, true, false, false, false, false] rfl rfl ?_
        refine o_load1 trivial rfl Tryz.isAgg37 rfl (by repeat constructor) (by repeat constructor) ?_
        refine o_nil ?_
        refine a_next ?_
        refine a_go [3] (by kernel_rfl) rfl (TWs.cons ?_ TWs.nil)
        ·
         refine a_op #[true, true, true, true, false, false, false] rfl rfl ?_
         refine o_callK trivial rfl Tryz.call53 rfl (op_any o.c.code o.c.a o.c.b o.c.e o.c.neg o.vn o.vd u o.c.n o.c.d rs q hvn hvd hrs hK1 hq) (by repeat constructor) ?_
         rintro _ I2 B2 hx2 ⟨rfl, u1, u2, rfl, h1, h2⟩
         refine o_nil ?_
         refine a_next ?_
         refine a_go [4] (by kernel_rfl) rfl (TWs.cons ?_ TWs.nil)
         ·
          refine a_op #[true, true, true, true, true, false, false] rfl rfl ?_
          refine o_buildSl trivial rfl Tryz.underlying37 Tryz.sizeOf33 Tryz.zeroValue33 (by decide) (by decide) rfl (by repeat first | exact rfl | constructor) rfl (fun b34 => ?_)
          refine o_nil ?_
          refine a_next ?_
          refine a_go [5] (by kernel_rfl) rfl (TWs.cons ?_ TWs.nil)
          ·
           refine a_op #[true, true, true, true, true, true, false] rfl rfl ?_
           refine o_appendBox trivial rfl Tryz.underlying37 (elem33) (by decide) rfl rfl (fun v' => (by repeat constructor)) (by repeat constructor) rfl (by exact three_plain h1 h2) (by first | omega | (unfold maxLen; omega)) (by omega) (fun v35 => ?_)
           refine o_nil ?_
           refine a_next ?_
           refine a_go [6] (by kernel_rfl) rfl (TWs.cons ?_ TWs.nil)
           ·
            refine a_op #[true, true, true, true, true, true, true] rfl rfl ?_
            refine l_rowCells (u := v35) (by repeat constructor) (fun hcv => ?_)
            refine o_storeBox1 trivial rfl rfl (hcv).1 Tryz.sizeOf37 (hcv).2 (by repeat constructor) (by exact Nat.le_of_ble_eq_true rfl) ?_
            refine o_nil ?_
            refine a_next ?_
            refine a_end (by kernel_rfl) ?_
            refine blk_n (then_c (c_region ?_))
            first | (refine o_add trivial rfl rfl rfl ?_ ?_; (omega)) | refine o_pv trivial rfl rfl ?_
            refine o_pv trivial rfl rfl ?_
            refine o_nil ?_
            rw [hq] at hR
            exact again (i + 1, rs ++ [⟨q, u1, u2⟩], v35, I2) (sub_cons rfl (sub_cons rfl (sub_cons rfl (sub_cons rfl (sub_cons rfl sub_nil))))) (fun _ h => by rw [← rcs_more, List.length_append]; exact h.sort (by repeat constructor)) (by show t.ops.length - (i + 1) < t.ops.length - i; omega) ⟨by show i + 1 ≤ _; omega, by show (rs ++ [_]).length = _; rw [List.length_append, List.length_singleton]; omega, fun r hr => by
              rcases List.mem_append.1 hr with hr | hr
              · exact (hrs r hr).le hx2.le
              · rw [List.mem_singleton.1 hr]; exact ⟨h1, h2⟩, by show _ = opsR _ ((rs ++ [_]).map RV.q); rw [List.map_append]; exact hR, by show OpsOK _ ((rs ++ [_]).map RV.q); rw [List.map_append]; exact hK2 q hq, hx1.trans hx2 (Nat.le_refl _)⟩
      ·
       refine a_op #[false, true, true, false, false, false, false] rfl rfl ?_
       refine o_load1 trivial rfl Tryz.isAgg37 rfl (by repeat constructor) (by repeat constructor) ?_
       refine o_nil ?_
       refine a_next ?_
       refine a_go [0, 3] (by kernel_rfl) rfl (TWs.cons ?_ (TWs.cons ?_ TWs.nil))
       ·
        refine a_op #[true, true, true, false, false, false, false] rfl rfl ?_
        refine o_load1 trivial rfl Tryz.isAgg37 rfl (by repeat constructor) (by repeat constructor) ?_
        refine o_nil ?_
        refine a_next ?_
        refine a_go [3] (by kernel_rfl) rfl (TWs.cons ?_ TWs.nil)
        ·
         refine a_op #[true, true, true, true, false, false, false] rfl rfl ?_
         refine o_callK trivial rfl Tryz.call53 rfl (op_any o.c.code o.c.a o.c.b o.c.e o.c.neg o.vn o.vd u o.c.n o.c.d rs q hvn hvd hrs hK1 hq) (by repeat constructor) ?_
         rintro _ I2 B2 hx2 ⟨rfl, u1, u2, rfl, h1, h2⟩
         refine o_nil ?_
         refine a_next ?_
         refine a_go [4] (by kernel_rfl) rfl (TWs.cons ?_ TWs.nil)
         ·
          refine a_op #[true, true, true, true, true, false, false] rfl rfl ?_
          refine o_buildSl trivial rfl Tryz.underlying37 Tryz.sizeOf33 Tryz.zeroValue33 (by decide) (by decide) rfl (by repeat first | exact rfl | constructor) rfl (fun b34 => ?_)
          refine o_nil ?_
          refine a_next ?_
          refine a_go [5] (by kernel_rfl) rfl (TWs.cons ?_ TWs.nil)
          ·
           refine a_op #[true, true, true, true, true, true, false] rfl rfl ?_
           refine o_appendBox trivial rfl Tryz.underlying37 (elem33) (by decide) rfl rfl (fun v' => (by repeat constructor)) (by repeat constructor) rfl (by exact three_plain h1 h2) (by first | omega | (unfold maxLen; omega)) (by omega) (fun v35 => ?_)
           refine o_nil ?_
           refine a_next ?_
           refine a_go [6] (by kernel_rfl) rfl (TWs.cons ?_ TWs.nil)
           ·
            refine a_op #[true, true, true, true, true, true, true] rfl rfl ?_
            refine l_rowCells (u := v35) (by repeat constructor) (fun hcv => ?_)
            refine o_storeBox1 trivial rfl rfl (hcv).1 Tryz.sizeOf37 (hcv).2 (by repeat constructor) (by exact Nat.le_of_ble_eq_true rfl) ?_
            refine o_nil ?_
            refine a_next ?_
            refine a_end (by kernel_rfl) ?_
            refine blk_n (then_c (c_region ?_))
            first | (refine o_add trivial rfl rfl rfl ?_ ?_; (omega)) | refine o_pv trivial rfl rfl ?_
            refine o_pv trivial rfl rfl ?_
            refine o_nil ?_
            rw [hq] at hR
            exact again (i + 1, rs ++ [⟨q, u1, u2⟩], v35, I2) (sub_cons rfl (sub_cons rfl (sub_cons rfl (sub_cons rfl (sub_cons rfl sub_nil))))) (fun _ h => by rw [← rcs_more, List.length_append]; exact h.sort (by repeat constructor)) (by show t.ops.length - (i + 1) < t.ops.length - i; omega) ⟨by show i + 1 ≤ _; omega, by show (rs ++ [_]).length = _; rw [List.length_append, List.length_singleton]; omega, fun r hr => by
              rcases List.mem_append.1 hr with hr | hr
              · exact (hrs r hr).le hx2.le
              · rw [List.mem_singleton.1 hr]; exact ⟨h1, h2⟩, by show _ = opsR _ ((rs ++ [_]).map RV.q); rw [List.map_append]; exact hR, by show OpsOK _ ((rs ++ [_]).map RV.q); rw [List.map_append]; exact hK2 q hq, hx1.trans hx2 (Nat.le_refl _)⟩
       ·
        refine a_op #[false, true, true, true, false, false, false] rfl rfl ?_
        refine o_callK trivial rfl Tryz.call53 rfl (op_any o.c.code o.c.a o.c.b o.c.e o.c.neg o.vn o.vd u o.c.n o.c.d rs q hvn hvd hrs hK1 hq) (by repeat constructor) ?_
        rintro _ I2 B2 hx2 ⟨rfl, u1, u2, rfl, h1, h2⟩
        refine o_nil ?_
        refine a_next ?_
        refine a_go [0, 4] (by kernel_rfl) rfl (TWs.cons ?_ (TWs.cons ?_ TWs.nil))
        ·
         refine a_op #[true, true, true, true, false, false, false] rfl rfl ?_
         refine o_load1 trivial rfl Tryz.isAgg37 rfl (by repeat constructor) (by repeat constructor) ?_
         refine o_nil ?_
         refine a_next ?_
         refine a_go [4] (by kernel_rfl) rfl (TWs.cons ?_ TWs.nil)
         ·
          refine a_op #[true, true, true, true, true, false, false] rfl rfl ?_
          refine o_buildSl trivial rfl Tryz.underlying37 Tryz.sizeOf33 Tryz.zeroValue33 (by decide) (by decide) rfl (by repeat first | exact rfl | constructor) rfl (fun b34 => ?_)
          refine o_nil ?_
          refine a_next ?_
          refine a_go [5] (by kernel_rfl) rfl (TWs.cons ?_ TWs.nil)
          ·
           refine a_op #[true, true, true, true, true, true, false] rfl rfl ?_
           refine o_appendBox trivial rfl Tryz.underlying37 (elem33) (by decide) rfl rfl (fun v' => (by repeat constructor)) (by repeat constructor) rfl (by exact three_plain h1 h2) (by first | omega | (unfold maxLen; omega)) (by omega) (fun v35 => ?_)
           refine o_nil ?_
           refine a_next ?_
           refine a_go [6] (by kernel_rfl) rfl (TWs.cons ?_ TWs.nil)
           ·
            refine a_op #[true, true, true, true, true, true, true] rfl rfl ?_
            refine l_rowCells (u := v35) (by repeat constructor) (fun hcv => ?_)
            refine o_storeBox1 trivial rfl rfl (hcv).1 Tryz.sizeOf37 (hcv).2 (by repeat constructor) (by exact Nat.le_of_ble_eq_true rfl) ?_
            refine o_nil ?_
            refine a_next ?_
            refine a_end (by kernel_rfl) ?_
            refine blk_n (then_c (c_region ?_))
            first | (refine o_add trivial rfl rfl rfl ?_ ?_; (omega)) | refine o_pv trivial rfl rfl ?_
            refine o_pv trivial rfl rfl ?_
            refine o_nil ?_
            rw [hq] at hR
            exact again (i + 1, rs ++ [⟨q, u1, u2⟩], v35, I2) (sub_cons rfl (sub_cons rfl (sub_cons rfl (sub_cons rfl (sub_cons rfl sub_nil))))) (fun _ h => by rw [← rcs_more, List.length_append]; exact h.sort (by repeat constructor)) (by show t.ops.length - (i + 1) < t.ops.length - i; omega) ⟨by show i + 1 ≤ _; omega, by show (rs ++ [_]).length = _; rw [List.length_append, List.length_singleton]; omega, fun r hr => by
              rcases List.mem_append.1 hr with hr | hr
              · exact (hrs r hr).le hx2.le
              · rw [List.mem_singleton.1 hr]; exact ⟨h1, h2⟩, by show _ = opsR _ ((rs ++ [_]).map RV.q); rw [List.map_append]; exact hR, by show OpsOK _ ((rs ++ [_]).map RV.q); rw [List.map_append]; exact hK2 q hq, hx1.trans hx2 (Nat.le_refl _)⟩
        ·
         refine a_op #[false, true, true, true, true, false, false] rfl rfl ?_
         refine o_buildSl trivial rfl Tryz.underlying37 Tryz.sizeOf33 Tryz.zeroValue33 (by decide) (by decide) rfl (by repeat first | exact rfl | constructor) rfl (fun b34 => ?_)
         refine o_nil ?_
         refine a_next ?_
         refine a_go [0] (by kernel_rfl) rfl (TWs.cons ?_ TWs.nil)
         ·
          refine a_op #[true, true, true, true, true, false, false] rfl rfl ?_
          refine o_load1 trivial rfl Tryz.isAgg37 rfl (by repeat constructor) (by repeat constructor) ?_
          refine o_nil ?_
          refine a_next ?_
          refine a_go [5] (by kernel_rfl) rfl (TWs.cons ?_ TWs.nil)
          ·
           refine a_op #[true, true, true, true, true, true, false] rfl rfl ?_
           refine o_appendBox trivial rfl Tryz.underlying37 (elem33) (by decide) rfl rfl (fun v' => (by repeat constructor)) (by repeat constructor) rfl (by exact three_plain h1 h2) (by first | omega | (unfold maxLen; omega)) (by omega) (fun v35 => ?_)
           refine o_nil ?_
           refine a_next ?_
           refine a_go [6] (by kernel_rfl) rfl (TWs.cons ?_ TWs.nil)
           ·
            refine a_op #[true, true, true, true, true, true, true] rfl rfl ?_
            refine l_rowCells (u := v35) (by repeat constructor) (fun hcv => ?_)
            refine o_storeBox1 trivial rfl rfl (hcv).1 Tryz.sizeOf37 (hcv).2 (by repeat constructor) (by exact Nat.le_of_ble_eq_true rfl) ?_
            refine o_nil ?_
            refine a_next ?_
            refine a_end (by kernel_rfl) ?_
            refine blk_n (then_c (c_region ?_))
            first | (refine o_add trivial rfl rfl rfl ?_ ?_; (omega)) | refine o_pv trivial rfl rfl ?_
            refine o_pv trivial rfl rfl ?_
            refine o_nil ?_
            rw [hq] at hR
            exact again (i + 1, rs ++ [⟨q, u1, u2⟩], v35, I2) (sub_cons rfl (sub_cons rfl (sub_cons rfl (sub_cons rfl (sub_cons rfl sub_nil))))) (fun _ h => by rw [← rcs_more, List.length_append]; exact h.sort (by repeat constructor)) (by show t.ops.length - (i + 1) < t.ops.length - i; omega) ⟨by show i + 1 ≤ _; omega, by show (rs ++ [_]).length = _; rw [List.length_append, List.length_singleton]; omega, fun r hr => by
              rcases List.mem_append.1 hr with hr | hr
              · exact (hrs r hr).le hx2.le
              · rw [List.mem_singleton.1 hr]; exact ⟨h1, h2⟩, by show _ = opsR _ ((rs ++ [_]).map RV.q); rw [List.map_append]; exact hR, by show OpsOK _ ((rs ++ [_]).map RV.q); rw [List.map_append]; exact hK2 q hq, hx1.trans hx2 (Nat.le_refl _)⟩
     ·
      refine a_op #[false, false, true, false, false, false, false] rfl rfl ?_
      refine o_load1 trivial rfl Tryz.isAgg37 rfl (by repeat constructor) (by repeat constructor) ?_
      refine o_nil ?_
      refine a_next ?_
      refine a_go [0, 1] (by kernel_rfl) rfl (TWs.cons ?_ (TWs.cons ?_ TWs.nil))
      ·
       refine a_op #[true, false, true, false, false, false, false] rfl rfl ?_
       refine o_load1 trivial rfl Tryz.isAgg37 rfl (by repeat constructor) (by repeat constructor) ?_
       refine o_nil ?_
       refine a_next ?_
       refine a_go [1] (by kernel_rfl) rfl (TWs.cons ?_ TWs.nil)
       ·
        refine a_op #[true, true, true, false, false, false, false] rfl rfl ?_
        refine o_loadA trivial rfl Tryz.isAgg35 Tryz.sizeOf35 rfl (by repeat constructor) (by repeat constructor) ?_
        refine o_nil ?_
        refine a_next ?_
        refine a_go [3] (by kernel_rfl) rfl (TWs.cons ?_ TWs.nil)
        ·
         refine a_op #[true, true, true, true, false, false, false] rfl rfl ?_
         refine o_callK trivial rfl Tryz.call53 rfl (op_any o.c.code o.c.a o.c.b o.c.e o.c.neg o.vn o.vd u o.c.n o.c.d rs q hvn hvd hrs hK1 hq) (by repeat constructor) ?_
         rintro _ I2 B2 hx2 ⟨rfl, u1, u2, rfl, h1, h2⟩
         refine o_nil ?_
         refine a_next ?_
         refine a_go [4] (by kernel_rfl) rfl (TWs.cons ?_ TWs.nil)
         ·
          refine a_op #[true, true, true, true, true, false, false] rfl rfl ?_
          refine o_buildSl trivial rfl Tryz.underlying37 Tryz.sizeOf33 Tryz.zeroValue33 (by decide) (by decide) rfl (by repeat first | exact rfl | constructor) rfl (fun b34 => ?_)
          refine o_nil ?_
          refine a_next ?_
          refine a_go [5] (by kernel_rfl) rfl (TWs.cons ?_ TWs.nil)
          ·
           refine a_op #[true, true, true, true, true, true, false] rfl rfl ?_
           refine o_appendBox trivial rfl Tryz.underlying37 (elem33) (by decide) rfl rfl (fun v' => (by repeat constructor)) (by repeat constructor) rfl (by exact three_plain h1 h2) (by first | omega | (unfold maxLen; omega)) (by omega) (fun v35 => ?_)
           refine o_nil ?_
           refine a_next ?_
           refine a_go [6] (by kernel_rfl) rfl (TWs.cons ?_ TWs.nil)
           ·
            refine a_op #[true, true, true, true, true, true, true] rfl rfl ?_
            refine l_rowCells (u := v35) (by repeat constructor) (fun hcv => ?_)
            refine o_storeBox1 trivial rfl rfl (hcv).1 Tryz.sizeOf37 (hcv).2 (by repeat constructor) (by exact Nat.le_of_ble_eq_true rfl) ?_
            refine o_nil ?_
            refine a_next ?_
            refine a_end (by kernel_rfl) ?_
            refine blk_n (then_c (c_region ?_))
            first | (refine o_add trivial rfl rfl rfl ?_ ?_; (omega)) | refine o_pv trivial rfl rfl ?_
            refine o_pv trivial rfl rfl ?_
            refine o_nil ?_
            rw [hq] at hR
            exact again (i + 1, rs ++ [⟨q, u1, u2⟩], v35, I2) (sub_cons rfl (sub_cons rfl (sub_cons rfl (sub_cons rfl (sub_cons rfl sub_nil))))) (fun _ h => by rw [← rcs_more, List.length_append]; exact h.sort (by repeat constructor)) (by show t.ops.length - (i + 1) < t.ops.length - i; omega) ⟨by show i + 1 ≤ _; omega, by show (rs ++ [_]).length = _; rw [List.length_append, List.length_singleton]; omega, fun r hr => by
              rcases List.mem_append.1 hr with hr | hr
              · exact (hrs r hr).le hx2.le
              · rw [List.mem_singleton.1 hr]; exact ⟨h1, h2⟩, by show _ = opsR _ ((rs ++ [_]).map RV.q); rw [List.map_append]; exact hR, by show OpsOK _ ((rs ++ [_]).map RV.q); rw [List.map_append]; exact hK2 q hq, hx1.trans hx2 (Nat.le_refl _)⟩
      ·
       refine a_op #[false, true, true, false, false, false, false] rfl rfl ?_
       refine o_loadA trivial rfl Tryz.isAgg35 Tryz.sizeOf35 rfl (by repeat constructor) (by repeat constructor) ?_
       refine o_nil ?_
       refine a_next ?_
       refine a_go [0, 3] (by kernel_rfl) rfl (TWs.cons ?_ (TWs.cons ?_ TWs.nil))
       ·
        refine a_op #[true, true, true, false, false, false, false] rfl rfl ?_
        refine o_load1 trivial rfl Tryz.isAgg37 rfl (by repeat constructor) (by repeat constructor) ?_
        refine o_nil ?_
        refine a_next ?_
        refine a_go [3] (by kernel_rfl) rfl (TWs.cons ?_ TWs.nil)
        ·
         refine a_op #[true, true, true, true, false, false, false] rfl rfl ?_
         refine o_callK trivial rfl Tryz.call53 rfl (op_any o.c.code o.c.a o.c.b o.c.e o.c.neg o.vn o.vd u o.c.n o.c.d rs q hvn hvd hrs hK1 hq) (by repeat constructor) ?_
         rintro _ I2 B2 hx2 ⟨rfl, u1, u2, rfl, h1, h2⟩
         refine o_nil ?_
         refine a_next ?_
         refine a_go [4] (by kernel_rfl) rfl (TWs.cons ?_ TWs.nil)
         ·
          refine a_op #[true, true, true, true, true, false, false] rfl rfl ?_
          refine o_buildSl trivial rfl Tryz.underlying37 Tryz.sizeOf33 Tryz.zeroValue33 (by decide) (by decide) rfl (by repeat first | exact rfl | constructor) rfl (fun b34 => ?_)
          refine o_nil ?_
          refine a_next ?_
          refine a_go [5] (by kernel_rfl) rfl (TWs.cons ?_ TWs.nil)
          ·
           refine a_op #[true, true, true, true, true, true, false] rfl rfl ?_
           refine o_appendBox trivial rfl Tryz.underlying37 (elem33) (by decide) rfl rfl (fun v' => (by repeat constructor)) (by repeat constructor) rfl (by exact three_plain h1 h2) (by first | omega | (unfold maxLen; omega)) (by omega) (fun v35 => ?_)
           refine o_nil ?_
           refine a_next ?_
           refine a_go [6] (by kernel_rfl) rfl (TWs.cons ?_ TWs.nil)
           ·
            refine a_op #[true, true, true, true, true, true, true] rfl rfl ?_
            refine l_rowCells (u := v35) (by repeat constructor) (fun hcv => ?_)
            refine o_storeBox1 trivial rfl rfl (hcv).1 Tryz.sizeOf37 (hcv).2 (by repeat constructor) (by exact Nat.le_of_ble_eq_true rfl) ?_
            refine o_nil ?_
            refine a_next ?_
            refine a_end (by kernel_rfl) ?_
            refine blk_n (then_c (c_region ?_))
            first | (refine o_add trivial rfl rfl rfl ?_ ?_; (omega)) | refine o_pv trivial rfl rfl ?_
            refine o_pv trivial rfl rfl ?_
            refine o_nil ?_
            rw [hq] at hR
            exact again (i + 1, rs ++ [⟨q, u1, u2⟩], v35, I2) (sub_cons rfl (sub_cons rfl (sub_cons rfl (sub_cons rfl (sub_cons rfl sub_nil))))) (fun _ h => by rw [← rcs_more, List.length_append]; exact h.sort (by repeat constructor)) (by show t.ops.length - (i + 1) < t.ops.length - i; omega) ⟨by show i + 1 ≤ _; omega, by show (rs ++ [_]).length = _; rw [List.length_append, List.length_singleton]; omega, fun r hr => by
              rcases List.mem_append.1 hr with hr | hr
              · exact (hrs r hr).le hx2.le
              · rw [List.mem_singleton.1 hr]; exact ⟨h1, h2⟩, by show _ = opsR _ ((rs ++ [_]).map RV.q); rw [List.map_append]; exact hR, by show OpsOK _ ((rs ++ [_]).map RV.q); rw [List.map_append]; exact hK2 q hq, hx1.trans hx2 (Nat.le_refl _)⟩
       ·
        refine a_op #[false, true, true, true, false, false, false] rfl rfl ?_
        refine o_callK trivial rfl Tryz.call53 rfl (op_any o.c.code o.c.a o.c.b o.c.e o.c.neg o.vn o.vd u o.c.n o.c.d rs q hvn hvd hrs hK1 hq) (by repeat constructor) ?_
        rintro _ I2 B2 hx2 ⟨rfl, u1, u2, rfl, h1, h2⟩
        refine o_nil ?_
        refine a_next ?_
        refine a_go [0, 4] (by kernel_rfl) rfl (TWs.cons ?_ (TWs.cons ?_ TWs.nil))
        ·
         refine a_op #[true, true, true, true, false, false, false] rfl rfl ?_
         refine o_load1 trivial rfl Tryz.isAgg37 rfl (by repeat constructor) (by repeat constructor) ?_
         refine o_nil ?_
         refine a_next ?_
         refine a_go [4] (by kernel_rfl) rfl (TWs.cons ?_ TWs.nil)
         ·
          refine a_op #[true, true, true, true, true, false, false] rfl rfl ?_
          refine o_buildSl trivial rfl Tryz.underlying37 Tryz.sizeOf33 Tryz.zeroValue33 (by decide) (by decide) rfl (by repeat first | exact rfl | constructor) rfl (fun b34 => ?_)
          refine o_nil ?_
          refine a_next ?_
          refine a_go [5] (by kernel_rfl) rfl (TWs.cons ?_ TWs.nil)
          ·
           refine a_op #[true, true, true, true, true, true, false] rfl rfl ?_
           refine o_appendBox trivial rfl Tryz.underlying37 (elem33) (by decide) rfl rfl (fun v' => (by repeat constructor)) (by repeat constructor) rfl (by exact three_plain h1 h2) (by first | omega | (unfold maxLen; omega)) (by omega) (fun v35 => ?_)
           refine o_nil ?_
           refine a_next ?_
           refine a_go [6] (by kernel_rfl) rfl (TWs.cons ?_ TWs.nil)
           ·
            refine a_op #[true, true, true, true, true, true, true] rfl rfl ?_
            refine l_rowCells (u := v35) (by repeat constructor) (fun hcv => ?_)
            refine o_storeBox1 trivial rfl rfl (hcv).1 Tryz.sizeOf37 (hcv).2 (by repeat constructor) (by exact Nat.le_of_ble_eq_true rfl) ?_
            refine o_nil ?_
            refine a_next ?_
            refine a_end (by kernel_rfl) ?_
            refine blk_n (then_c (c_region ?_))
            first | (refine o_add trivial rfl rfl rfl ?_ ?_; (omega)) | refine o_pv trivial rfl rfl ?_
            refine o_pv trivial rfl rfl ?_
            refine o_nil ?_
            rw [hq] at hR
            exact again (i + 1, rs ++ [⟨q, u1, u2⟩], v35, I2) (sub_cons rfl (sub_cons rfl (sub_cons rfl (sub_cons rfl (sub_cons rfl sub_nil))))) (fun _ h => by rw [← rcs_more, List.length_append]; exact h.sort (by repeat constructor)) (by show t.ops.length - (i + 1) < t.ops.length - i; omega) ⟨by show i + 1 ≤ _; omega, by show (rs ++ [_]).length = _; rw [List.length_append, List.length_singleton]; omega, fun r hr => by
              rcases List.mem_append.1 hr with hr | hr
              · exact (hrs r hr).le hx2.le
              · rw [List.mem_singleton.1 hr]; exact ⟨h1, h2⟩, by show _ = opsR _ ((rs ++ [_]).map RV.q); rw [List.map_append]; exact hR, by show OpsOK _ ((rs ++ [_]).map RV.q); rw [List.map_append]; exact hK2 q hq, hx1.trans hx2 (Nat.le_refl _)⟩
        ·
         refine a_op #[false, true, true, true, true, false, false] rfl rfl ?_
         refine o_buildSl trivial rfl Tryz.underlying37 Tryz.sizeOf33 Tryz.zeroValue33 (by decide) (by decide) rfl (by repeat first | exact rfl | constructor) rfl (fun b34 => ?_)
         refine o_nil ?_
         refine a_next ?_
         refine a_go [0] (by kernel_rfl) rfl (TWs.cons ?_ TWs.nil)
         ·
          refine a_op #[true, true, true, true, true, false, false] rfl rfl ?_
          refine o_load1 trivial rfl Tryz.isAgg37 rfl (by repeat constructor) (by repeat constructor) ?_
          refine o_nil ?_
          refine a_next ?_
          refine a_go [5] (by kernel_rfl) rfl (TWs.cons ?_ TWs.nil)
          ·
           refine a_op #[true, true, true, true, true, true, false] rfl rfl ?_
           refine o_appendBox trivial rfl Tryz.underlying37 (elem33) (by decide) rfl rfl (fun v' => (by repeat constructor)) (by repeat constructor) rfl (by exact three_plain h1 h2) (by first | omega | (unfold maxLen; omega)) (by omega) (fun v35 => ?_)
           refine o_nil ?_
           refine a_next ?_
           refine a_go [6] (by kernel_rfl) rfl (TWs.cons ?_ TWs.nil)
           ·
            refine a_op #[true, true, true, true, true, true, true] rfl rfl ?_
            refine l_rowCells (u := v35) (by repeat constructor) (fun hcv => ?_)
            refine o_storeBox1 trivial rfl rfl (hcv).1 Tryz.sizeOf37 (hcv).2 (by repeat constructor) (by exact Nat.le_of_ble_eq_true rfl) ?_
            refine o_nil ?_
            refine a_next ?_
            refine a_end (by kernel_rfl) ?_
            refine blk_n (then_c (c_region ?_))
            first | (refine o_add trivial rfl rfl rfl ?_ ?_; (omega)) | refine o_pv trivial rfl rfl ?_
            refine o_pv trivial rfl rfl ?_
            refine o_nil ?_
            rw [hq] at hR
            exact again (i + 1, rs ++ [⟨q, u1, u2⟩], v35, I2) (sub_cons rfl (sub_cons rfl (sub_cons rfl (sub_cons rfl (sub_cons rfl sub_nil))))) (fun _ h => by rw [← rcs_more, List.length_append]; exact h.sort (by repeat constructor)) (by show t.ops.length - (i + 1) < t.ops.length - i; omega) ⟨by show i + 1 ≤ _; omega, by show (rs ++ [_]).length = _; rw [List.length_append, List.length_singleton]; omega, fun r hr => by
              rcases List.mem_append.1 hr with hr | hr
              · exact (hrs r hr).le hx2.le
              · rw [List.mem_singleton.1 hr]; exact ⟨h1, h2⟩, by show _ = opsR _ ((rs ++ [_]).map RV.q); rw [List.map_append]; exact hR, by show OpsOK _ ((rs ++ [_]).map RV.q); rw [List.map_append]; exact hK2 q hq, hx1.trans hx2 (Nat.le_refl _)⟩
   ·
    have f2 := h2
    try simp only [bl] at f2
    refine c_exit (then_x (then_x (blk_eq rfl (then_c (c_seq (c_region ?_))))))
    refine o_load1 trivial rfl Tryz.isAgg37 rfl (by repeat constructor) (by repeat constructor) ?_
    refine l_rowCells (u := u) (by repeat constructor) (fun hcv => ?_)
    refine o_storeBox1 trivial rfl rfl (hcv).1 Tryz.sizeOf37 (hcv).2 (by repeat constructor) (by exact Nat.le_of_ble_eq_true rfl) ?_
    refine o_store trivial rfl rfl rfl Tryz.sizeOf39 rfl (by first | rfl | (repeat' (first | exact rfl | exact one_nil | refine one_cons ?_ ?_ | exact (Ws.cells1 (by assumption)).2 | exact (Slc.cells1 (by assumption)).2))) (by repeat constructor) (by repeat constructor) ?_
    refine o_nil (then_c (c_ret ?_))
    have hio : i = t.ops.length := by omega
    subst hio
    rw [List.drop_length] at hR
    refine retD rfl Tryz.call52 (B' := [.row u 33 3 rs.length (rcs rs).flatten, .box b4 (.cells #[u] 37 (0, 0)), .box b5 (.cells #[.int .i64 0] 39 (0, 0)), .box b2 (.cells #[.int .i64 t.ins, vo, vu] 29 (0, 0))]) (fun w' hw' => (run1_ret b4 b5 w').mono (fun e u' w'' ⟨k1, k2, k3⟩ => ⟨k1, k2, by rw [k3]; exact hw'.sort (by repeat constructor)⟩)) (.one Tryz.isAgg37 rfl (by repeat constructor) (.one Tryz.isAgg39 rfl (by repeat constructor) .nil)) (leafRowX hx1 (rcs_len rs) (rcs_three rs) (by unfold maxLen; omega) (fun I' hl hs => ?_))
    rw [hR]
    exact runR_some ⟨rs, hs, fun r hr => (hrs r hr).le hl, rfl⟩
/-- A tape's places at a point: why they don't come to anything, or what they come to. -/
def evalZ (t : TapeC) (xs : List NV) : Except Int (List Rat) :=
  if (tapeW t).isSome = false then .error 1
  else if (xs.length : Int) ≠ t.ins then .error 8
  else match opsR t.ops (xs.map NV.q) with
    | some l => .ok l
    | none => .error 3
/-- .. in memory. -/
def errOf {α : Type} : Except Int α → Int
  | .ok _ => 0
  | .error e => e
def exR (r : Except Int (List Rat)) (v : Value) (I : Hp) : Prop := ∃ u, v = .tuple #[u, .int .i64 (errOf r)] ∧ (∀ l, r = .ok l → RsV I u l) ∧ (errOf r ≠ 0 → u = .slice none 0 0)
theorem exR_err {I : Hp} (e : Int) : exR (.error e) (.tuple #[.slice none 0 0, .int .i64 e]) I := ⟨_, rfl, fun l h => (by cases h), fun _ => rfl⟩
/-- What has to be small where a tape is right. -/
structure EvOK (t : TapeC) (xs : List NV) : Prop where
  few : ∀ o ∈ t.ops, OpC.few 100000 o
  nums : ∀ x ∈ xs, x.n.length ≤ 400000 ∧ x.d.length ≤ 400000
  ok : (tapeW t).isSome = true → (xs.length : Int) = t.ins → xs.length + t.ops.length ≤ 100000 ∧ OpsOK t.ops (xs.map NV.q)
  fin : ∀ l, evalZ t xs = .ok l → ∀ q ∈ l, Few 100000 q
theorem eval_any (t : TapeC) (vo vu vx : Value) (os : List OpV) (xs : List NV) {I : Hp} (ht : TapeV I vo vu t os) (hpt : PtV I vx xs) (hk : EvOK t xs) :
    Fun Tryz.prog 15 [.agg #[.int .i64 t.ins, vo, vu], vx] I [] (fun v I' _ => exR (evalZ t xs) v I') := by
  have h1 := ht.so
  have h2 := ht.su
  have hxl : (xs.map NV.cells).length = xs.length := List.length_map _
  intro w hw
  refine enter2 _ Tryz.func15 rfl Tryz.ntmps15 rfl ?_ hw
  refine c_seq (c_region ?_)
  refine o_box trivial rfl rfl rfl (fun b2 => ?_)
  iterate 2 refine o_pv trivial rfl rfl ?_
  refine o_nil (then_c (c_seq (c_block (c_seq (c_region ?_)))))
  refine o_loadA trivial rfl Tryz.isAgg29 Tryz.sizeOf29 rfl (by repeat constructor) (by repeat constructor) ?_
  refine o_callQ trivial rfl Tryz.call30 rfl (tapeRight_any t vo vu os ht hk.few) ?_
  iterate 2 refine o_pv trivial rfl rfl ?_
  refine o_nil (then_c ?_)
  refine c_cond rfl (fun h1 => ?_) (fun h1 => ?_)
  ·
   have f1 := h1
   try simp only [bl] at f1
   have e : evalZ t xs = .error 1 := by unfold evalZ; rw [if_pos f1]
   refine c_seq (c_region ?_)
   iterate 2 refine o_pv trivial rfl rfl ?_
   refine o_nil (then_c (c_ret (blk_r (then_r ?_))))
   refine ret2 rfl rfl rfl ?_
   refine leaf0 ?_; rw [e]; exact exR_err _
  ·
   have f1 := h1
   try simp only [bl] at f1
   have f1' : ¬ (tapeW t).isSome = false := by rw [f1]; decide
   refine c_seq (c_region ?_)
   refine o_pv trivial rfl rfl ?_
   refine o_lenSlc trivial rfl Tryz.underlying37 rfl (hpt.s) ?_
   refine o_fieldAddr (T := 3) (off := 0) trivial rfl Tryz.underlying29 rfl rfl rfl Tryz.sizeOf3 rfl rfl ?_
   refine o_load1 trivial rfl Tryz.isAgg3 rfl (by repeat constructor) (by repeat constructor) ?_
   iterate 2 refine o_pv trivial rfl rfl ?_
   refine o_nil (then_c ?_)
   refine c_cond rfl (fun h2 => ?_) (fun h2 => ?_)
   ·
    have f2 := h2
    try simp only [bl] at f2
    have e : evalZ t xs = .error 8 := by unfold evalZ; rw [if_neg f1', if_pos (by rw [← hxl]; exact f2)]
    refine c_seq (c_region ?_)
    iterate 2 refine o_pv trivial rfl rfl ?_
    refine o_nil (then_c (c_ret (blk_r (then_r ?_))))
    refine ret2 rfl rfl rfl ?_
    refine leaf0 ?_; rw [e]; exact exR_err _
   ·
    have f2 := h2
    try simp only [bl] at f2
    have hl : (xs.length : Int) = t.ins := by rw [← hxl]; omega
    obtain ⟨hm, hok⟩ := hk.ok f1 hl
    have e : evalZ t xs = match opsR t.ops (xs.map NV.q) with | some l => .ok l | none => .error 3 := by unfold evalZ; rw [if_neg f1', if_neg (by omega)]
    refine c_skip (blk_n (then_c (c_seq (c_region ?_))))
    refine o_loadA trivial rfl Tryz.isAgg29 Tryz.sizeOf29 rfl (by repeat constructor) (by repeat constructor) ?_
    refine o_pv trivial rfl rfl ?_
    refine o_callI trivial rfl Tryz.call31 rfl (run_any t vo vu vx os xs ht hpt hk.nums hm hok) ?_
    rintro _ I1 hx1 ⟨u, rfl, hr1, hr2⟩
    iterate 4 refine o_pv trivial rfl rfl ?_
    refine o_nil (then_c (c_ret ?_))
    refine ret2 rfl rfl rfl ?_
    refine leaf hx1 (List.nil_sublist _) ?_
    rw [e]
    cases hc : opsR t.ops (xs.map NV.q) with
    | none => rw [hr2 hc]; exact exR_err _
    | some l => exact ⟨u, rfl, fun l' h' => (by cases h'; exact hr1 l hc), fun h' => absurd rfl h'⟩
theorem wgts_len : ∀ {ops : List OpC} {l r : List Nat}, wgts ops l = some r → r.length = l.length + ops.length
  | [], l, r, h => by cases h; rfl
  | o :: ops, l, r, h => by
    unfold wgts at h
    split at h
    · split at h
      · have := wgts_len h
        simp only [List.length_append, List.length_cons, List.length_nil] at this ⊢
        omega
      · cases h
    · cases h
theorem opsR_len : ∀ {ops : List OpC} {l r : List Rat}, opsR ops l = some r → r.length = l.length + ops.length
  | [], l, r, h => by cases h; rfl
  | o :: ops, l, r, h => by
    unfold opsR at h
    split at h
    · have := opsR_len h
      simp only [List.length_append, List.length_cons, List.length_nil] at this ⊢
      omega
    · cases h
theorem tapeW_parts {t : TapeC} {l : List Nat} (h : tapeW t = some l) : 1 ≤ t.ins ∧ t.ins ≤ 40 ∧ 1 ≤ t.outs.length ∧ t.outs.length ≤ 40 ∧ t.ops.length ≤ 400 ∧ wgts t.ops (List.replicate t.ins.toNat 1) = some l ∧ ∀ z ∈ t.outs, 0 ≤ z ∧ z < l.length := by
  unfold tapeW at h
  split at h
  · cases h
  · rename_i hg
    split at h
    · cases h
    · rename_i l' hw
      split at h
      · rename_i hall
        cases h
        refine ⟨by omega, by omega, by omega, by omega, by omega, hw, fun z hz => ?_⟩
        have := List.all_eq_true.1 hall z hz
        simpa using this
      · cases h
theorem evalZ_parts {t : TapeC} {xs : List NV} {l : List Rat} (h : evalZ t xs = .ok l) : ∃ w, tapeW t = some w ∧ (xs.length : Int) = t.ins ∧ opsR t.ops (xs.map NV.q) = some l := by
  unfold evalZ at h
  split at h
  · cases h
  · rename_i h1
    split at h
    · cases h
    · rename_i h2
      split at h
      · rename_i l' h3
        cases h
        cases hw : tapeW t with
        | none => rw [hw] at h1; exact absurd rfl h1
        | some w => exact ⟨w, rfl, by omega, h3⟩
      · cases h
theorem evalZ_outs {t : TapeC} {xs : List NV} {l : List Rat} (h : evalZ t xs = .ok l) : t.outs.length ≤ 40 ∧ ∀ z ∈ t.outs, 0 ≤ z ∧ z < l.length := by
  obtain ⟨w, h1, h2, h3⟩ := evalZ_parts h
  obtain ⟨p1, p2, p3, p4, p5, p6, p7⟩ := tapeW_parts h1
  refine ⟨p4, fun z hz => ?_⟩
  have h4 := p7 z hz
  have h5 := wgts_len p6
  have h6 := opsR_len h3
  rw [List.length_replicate] at h5
  rw [List.length_map] at h6
  omega
/-- A tape's outputs at a point. -/
def outsZ (t : TapeC) (xs : List NV) : Except Int (List Rat) := match evalZ t xs with
  | .error e => .error e
  | .ok l => .ok (t.outs.map (zth l))
theorem errOf_zero {t : TapeC} {xs : List NV} (h : errOf (evalZ t xs) = 0) : ∃ l, evalZ t xs = .ok l := by
  unfold evalZ at *
  split at h
  · cases h
  · rename_i h1
    rw [if_neg h1]
    split at h
    · cases h
    · rename_i h2
      rw [if_neg h2]
      split at h
      · exact ⟨_, rfl⟩
      · cases h
theorem inside_any (t : TapeC) (vo vu vx : Value) (os : List OpV) (xs : List NV) {I : Hp} (ht : TapeV I vo vu t os) (hpt : PtV I vx xs) (hk : EvOK t xs) :
    Fun Tryz.prog 18 [.agg #[.int .i64 t.ins, vo, vu], vx] I [] (fun v _ _ => v = .bool (decide (errOf (evalZ t xs) = 0))) := by
  intro w hw
  refine enter2 _ Tryz.func18 rfl Tryz.ntmps18 rfl ?_ hw
  refine c_seq (c_region ?_)
  refine o_box trivial rfl rfl rfl (fun b2 => ?_)
  refine o_pv trivial rfl rfl ?_
  refine o_nil (then_c (c_seq (c_region ?_)))
  refine o_loadA trivial rfl Tryz.isAgg29 Tryz.sizeOf29 rfl (by repeat constructor) (by repeat constructor) ?_
  refine o_pv trivial rfl rfl ?_
  refine o_callI trivial rfl Tryz.call15 rfl (eval_any t vo vu vx os xs ht hpt hk) ?_
  rintro _ I1 hx1 ⟨u, rfl, hr1, hr2⟩
  iterate 5 refine o_pv trivial rfl rfl ?_
  refine o_nil (then_c (c_seq (c_region ?_)))
  iterate 3 refine o_pv trivial rfl rfl ?_
  refine o_nil (then_c (c_ret ?_))
  refine ret1 rfl rfl ?_
  refine leaf hx1 (List.nil_sublist _) (congrArg Value.bool ?_); rw [Bool.eq_iff_iff]; simp
theorem outs_any (t : TapeC) (vo vu vx : Value) (os : List OpV) (xs : List NV) {I : Hp} (ht : TapeV I vo vu t os) (hpt : PtV I vx xs) (hk : EvOK t xs) :
    Fun Tryz.prog 10 [.agg #[.int .i64 t.ins, vo, vu], vx] I [] (fun v I' _ => exR (outsZ t xs) v I') := by
  have hsu := ht.su
  have hul := ics_len t.outs
  intro w hw
  refine enter2 _ Tryz.func10 rfl Tryz.ntmps10 rfl ?_ hw
  refine c_seq (c_region ?_)
  refine o_box trivial rfl rfl rfl (fun b2 => ?_)
  iterate 2 refine o_pv trivial rfl rfl ?_
  refine o_nil (then_c (c_seq (c_region ?_)))
  refine o_loadA trivial rfl Tryz.isAgg29 Tryz.sizeOf29 rfl (by repeat constructor) (by repeat constructor) ?_
  refine o_pv trivial rfl rfl ?_
  refine o_callI trivial rfl Tryz.call15 rfl (eval_any t vo vu vx os xs ht hpt hk) ?_
  rintro _ I1 hx1 ⟨ue, rfl, hr1, hr2⟩
  iterate 5 refine o_pv trivial rfl rfl ?_
  refine o_nil (then_c (c_seq (c_seq (c_region ?_))))
  iterate 2 refine o_pv trivial rfl rfl ?_
  refine o_nil (then_c ?_)
  refine c_cond rfl (fun h1 => ?_) (fun h1 => ?_)
  ·
   have f1 := h1
   try simp only [bl] at f1
   have e1 : ∃ e, evalZ t xs = .error e := by
     cases hc : evalZ t xs with
     | ok l => rw [hc] at f1; exact absurd rfl f1
     | error e => exact ⟨e, rfl⟩
   obtain ⟨e, he⟩ := e1
   have e2 : outsZ t xs = .error e := by unfold outsZ; rw [he]
   refine c_seq (c_region ?_)
   iterate 3 refine o_pv trivial rfl rfl ?_
   refine o_nil (then_c (c_ret (then_r ?_)))
   refine ret2 rfl rfl rfl ?_
   refine leaf hx1 (List.nil_sublist _) ?_
   rw [e2, he]; exact exR_err e
  ·
   have f1 := h1
   try simp only [bl] at f1
   obtain ⟨l, hl⟩ := errOf_zero f1
   obtain ⟨rs, hs1, hs2, hs3⟩ := (hr1 l hl).out
   obtain ⟨ho1, ho2⟩ := evalZ_outs hl
   have hfin := hk.fin l hl
   have hrl : rs.length = l.length := by rw [← hs3, List.length_map]
   have hcl := rcs_len rs
   have e2 : outsZ t xs = .ok (t.outs.map (zth l)) := by unfold outsZ; rw [hl]
   refine c_skip (then_c (c_seq (c_region ?_)))
   refine o_pv trivial rfl rfl ?_
   refine o_nil (then_c (c_seq (c_seq (c_region ?_))))
   refine o_fieldAddr (T := 27) (off := 2) trivial rfl Tryz.underlying29 rfl rfl rfl Tryz.sizeOf27 rfl rfl ?_
   refine o_load1 trivial rfl Tryz.isAgg27 rfl (by repeat constructor) (by repeat constructor) ?_
   refine o_lenSlc trivial rfl Tryz.underlying27 rfl (hsu) ?_
   refine o_pv trivial rfl rfl ?_
   refine o_nil (then_c (c_block ?_))
   refine c_loop (ι := Nat × List RV × Value × Hp) [6, 21, 22] (.cons rfl (.cons rfl (.cons rfl .nil))) (fun x => t.outs.length - x.1) (fun x E0 => (8, x.2.2.1) :: (23, .int .i64 (x.1 : Nat)) :: E0) (fun x => St w [] x.2.2.2 [.row x.2.2.1 33 3 x.2.1.length (rcs x.2.1).flatten]) (fun x => x.1 ≤ t.outs.length ∧ x.2.1.length = x.1 ∧ (∀ r ∈ x.2.1, r.ok x.2.2.2) ∧ x.2.1.map RV.q = (t.outs.map (zth l)).take x.1 ∧ Ext w.heap.size I x.2.2.2 ∧ I1.Le x.2.2.2) ((0, [], .slice none 0 0, I1)) (sub_cons rfl (sub_cons rfl (sub_cons rfl (sub_cons rfl (sub_cons rfl sub_nil))))) (fun _ h => (h.nilRow 33 3).sort (by repeat constructor)) (⟨Nat.zero_le _, rfl, fun r hr => (by cases hr), rfl, hx1, Hp.Le.refl _⟩) ?_
   rintro ⟨i, qs, u, I2⟩ ⟨hi, hqi, hqs, hq2, hx2, hle⟩
   try dsimp only
   simp only at hi hqi hqs hq2 hx2 hle
   refine c_seq (c_region ?_)
   refine o_pv trivial rfl rfl ?_
   refine o_nil (then_c (c_seq ?_))
   refine c_cond rfl (fun h2 => ?_) (fun h2 => ?_)
   ·
    have f2 := h2
    try simp only [bl] at f2
    have hio : i < t.outs.length := by omega
    obtain ⟨z, hz⟩ : ∃ z, t.outs[i]? = some z := ⟨t.outs[i], List.getElem?_eq_getElem hio⟩
    have hzr := ho2 z (List.mem_of_getElem? hz)
    obtain ⟨r, hr, hrm, hrz⟩ := rv_at rs z (by omega)
    rw [hs3] at hrz
    obtain ⟨hrn, hrd⟩ := (hs2 r hrm).le hle
    have hrf := hfin r.q (by rw [← hs3]; exact List.mem_map_of_mem hrm)
    refine c_skip (then_c (c_seq (c_block (c_seq (c_region ?_)))))
    refine o_elem trivial rfl Tryz.underlying27 Tryz.sizeOf3 rfl (hsu) rfl (by omega) ?_
    refine o_load1I trivial rfl Tryz.isAgg3 rfl (ics_at (hsu.le hx2.le) hz) ?_
    refine o_pv trivial rfl rfl ?_
    refine o_nil (then_c (c_region ?_))
    iterate 3 refine o_pv trivial rfl rfl ?_
    refine o_elem trivial rfl Tryz.underlying37 Tryz.sizeOf33 rfl (hs1.le hle) rfl (by omega) ?_
    refine o_loadAI trivial rfl Tryz.isAgg33 Tryz.sizeOf33 rfl rfl (fun k y hk => (hs1.le hle).cells _ _ (by unfold rcs; rw [List.getElem?_map, hr]; rfl) k y hk) ?_
    refine o_callI trivial rfl Tryz.call29 rfl (qFix_any (decide (r.q.num < 0)) _ _ _ _ hrn hrd (natW_few hrf.num (by decide)) (natW_few hrf.den (by decide))) ?_
    rintro _ I3 hx3 ⟨u1, u2, rfl, h1, h2⟩
    rw [val_natW, val_natW, lowQ_self] at h1 h2
    rw [val_natW, val_natW, lowQ_self]
    refine o_buildSl trivial rfl Tryz.underlying37 Tryz.sizeOf33 Tryz.zeroValue33 (by decide) (by decide) rfl (by repeat first | exact rfl | constructor) rfl (fun b33 => ?_)
    refine o_appendBox trivial rfl Tryz.underlying37 (elem33) (by decide) rfl rfl (fun v' => (by repeat constructor)) (by repeat constructor) rfl (by exact three_plain h1 h2) (by first | omega | (unfold maxLen; omega)) (by omega) (fun v34 => ?_)
    refine o_pv trivial rfl rfl ?_
    refine o_nil (blk_n (then_c (c_region ?_)))
    first | (refine o_add trivial rfl rfl rfl ?_ ?_; (omega)) | refine o_pv trivial rfl rfl ?_
    refine o_pv trivial rfl rfl ?_
    refine o_nil ?_
    have hq3 : (qs ++ [(⟨r.q, u1, u2⟩ : RV)]).map RV.q = (t.outs.map (zth l)).take (i + 1) := by
      rw [List.map_append, hq2, List.take_add_one, List.getElem?_map, hz]
      show _ ++ [r.q] = _ ++ [zth l z]
      rw [hrz]
    exact again (i + 1, qs ++ [⟨r.q, u1, u2⟩], v34, I3) (sub_cons rfl (sub_cons rfl (sub_cons rfl (sub_cons rfl (sub_cons rfl sub_nil))))) (fun _ h => by rw [← rcs_more, List.length_append]; exact h.sort (by repeat constructor)) (by show t.outs.length - (i + 1) < t.outs.length - i; omega) ⟨by show i + 1 ≤ _; omega, by show (qs ++ [_]).length = _; rw [List.length_append, hqi]; rfl, fun r hr => by
      rcases List.mem_append.1 hr with hr | hr
      · exact (hqs r hr).le hx3.le
      · rw [List.mem_singleton.1 hr]; exact ⟨h1, h2⟩, hq3, hx2.trans hx3 (Nat.le_refl _), hle.trans hx3.le⟩
   ·
    have f2 := h2
    try simp only [bl] at f2
    refine c_exit (then_x (then_x (blk_eq rfl (then_c (c_seq (c_region ?_))))))
    iterate 3 refine o_pv trivial rfl rfl ?_
    refine o_nil (then_c (c_ret ?_))
    refine ret2 rfl rfl rfl ?_
    have hio : i = t.outs.length := by omega
    subst hio
    rw [← List.length_map (f := zth l), List.take_length] at hq2
    rw [e2]
    exact leafRowX hx2 (rcs_len qs) (rcs_three qs) (by unfold maxLen; omega) (fun I' hl hs => ⟨u, rfl, fun l' h' => (by cases h'; exact ⟨qs, hs, fun r hr => (hqs r hr).le hl, hq2⟩), fun h' => absurd rfl h'⟩)
end Go.Proofs.YtjgbjaaekknenaaGreat
