/-
  ValueTells: whatever the input, the law answers true, and its arguments read as they did. Conditions: the row's own, no more.
-/
import Derived.Test.YtjgbjaaekknenaaGreatQValueTellsE
import Derived.Test.YtjgbjaaekknenaaGreatRows
/-
  The document's answers for layer 14: tapes that are right.
-/
namespace Go.Proofs.YtjgbjaaekknenaaGreat
open Go Go.Tw
set_option linter.unusedVariables false
set_option linter.unusedSimpArgs false
set_option linter.unnecessarySimpa false
set_option maxHeartbeats 1000000
def nls (l : List Nat) : List (List Value) := l.map fun (x : Nat) => [Value.int .i64 (x : Int)]
theorem nls_len (l : List Nat) : (nls l).length = l.length := by simp [nls]
theorem wgts_dropR {ops : List OpC} {i : Nat} {o : OpC} (h : ops[i]? = some o) (l : List Nat) : wgts (ops.drop i) l = match wR o l with | some m => wgts (ops.drop (i + 1)) (l ++ [m]) | none => none := by
  rw [wgts_drop h]
  unfold wR
  cases fieldsOK o <;> rfl
theorem weightsR_any (t : TapeC) (vo vu : Value) (os : List OpV) {I : Hp} (ht : TapeV I vo vu t os) (hf : ∀ o ∈ t.ops, OpC.few 3000 o) : Fun Tryz.prog 14 [.agg #[.int .i64 t.ins, vo, vu]] I [] (fun v I' _ => Slc I' 1 v (nls ((tapeW t).getD []))) := by
  have hol : os.length = t.ops.length := by rw [← ht.eq, List.length_map]
  have hoc : ∀ {i : Nat} {o : OpV}, os[i]? = some o → t.ops[i]? = some o.c := fun {i o} h => by rw [← ht.eq, List.getElem?_map, h]; rfl
  have hso := ht.so
  have hsu := ht.su
  intro w hw
  refine enter1 _ Tryz.func14 rfl Tryz.ntmps14 rfl ?_ hw
  refine c_seq (c_region ?_)
  refine o_box trivial rfl rfl rfl (fun b1 => ?_)
  refine o_pv trivial rfl rfl ?_
  refine o_nil (then_c (c_seq (c_seq (c_region ?_))))
  refine o_fieldAddr (T := 3) (off := 0) trivial rfl Tryz.underlying29 rfl rfl rfl Tryz.sizeOf3 rfl rfl ?_
  have hul := ics_len t.outs
  have hml : (os.map OpV.cells).length = t.ops.length := by rw [List.length_map, hol]
  refine o_load1 trivial rfl Tryz.isAgg3 rfl (by repeat constructor) (by repeat constructor) ?_
  refine o_pv trivial rfl rfl ?_
  refine' o_or trivial trivial rfl rfl rfl rfl rfl rfl rfl rfl (fun hb11 => ?_) ?_
  rotate_left
  ·
   have fb11 := hb11
   try simp only [bl] at fb11
   refine o_fieldAddr (T := 3) (off := 0) (wants_some rfl rfl hb11) rfl Tryz.underlying29 rfl rfl rfl Tryz.sizeOf3 rfl rfl ?_
   refine o_load1 (wants_some rfl rfl hb11) rfl Tryz.isAgg3 rfl (by repeat constructor) (by repeat constructor) ?_
   refine o_pv (wants_some rfl rfl hb11) rfl rfl ?_
   refine o_nil ?_
   exact joins rfl
  refine' o_or trivial trivial rfl rfl rfl rfl rfl rfl rfl rfl (fun hb16 => ?_) ?_
  rotate_left
  ·
   have fb16 := hb16
   try simp only [bl] at fb16
   refine o_fieldAddr (T := 27) (off := 2) (wants_some rfl rfl hb16) rfl Tryz.underlying29 rfl rfl rfl Tryz.sizeOf27 rfl rfl ?_
   refine o_load1 (wants_some rfl rfl hb16) rfl Tryz.isAgg27 rfl (by repeat constructor) (by repeat constructor) ?_
   refine o_lenSlc (wants_some rfl rfl hb16) rfl Tryz.underlying27 rfl (hsu) ?_
   refine o_pv (wants_some rfl rfl hb16) rfl rfl ?_
   refine o_nil ?_
   exact joins rfl
  refine' o_or trivial trivial rfl rfl rfl rfl rfl rfl rfl rfl (fun hb22 => ?_) ?_
  rotate_left
  ·
   have fb22 := hb22
   try simp only [bl] at fb22
   refine o_fieldAddr (T := 27) (off := 2) (wants_some rfl rfl hb22) rfl Tryz.underlying29 rfl rfl rfl Tryz.sizeOf27 rfl rfl ?_
   refine o_load1 (wants_some rfl rfl hb22) rfl Tryz.isAgg27 rfl (by repeat constructor) (by repeat constructor) ?_
   refine o_lenSlc (wants_some rfl rfl hb22) rfl Tryz.underlying27 rfl (hsu) ?_
   refine o_pv (wants_some rfl rfl hb22) rfl rfl ?_
   refine o_nil ?_
   exact joins rfl
  refine' o_or trivial trivial rfl rfl rfl rfl rfl rfl rfl rfl (fun hb28 => ?_) ?_
  rotate_left
  ·
   have fb28 := hb28
   try simp only [bl] at fb28
   refine o_fieldAddr (T := 26) (off := 1) (wants_some rfl rfl hb28) rfl Tryz.underlying29 rfl rfl rfl Tryz.sizeOf26 rfl rfl ?_
   refine o_load1 (wants_some rfl rfl hb28) rfl Tryz.isAgg26 rfl (by repeat constructor) (by repeat constructor) ?_
   refine o_lenSlc (wants_some rfl rfl hb28) rfl Tryz.underlying26 rfl (hso) ?_
   refine o_pv (wants_some rfl rfl hb28) rfl rfl ?_
   refine o_nil ?_
   exact joins rfl
  refine o_nil (then_c ?_)
  refine c_cond rfl (fun h1 => ?_) (fun h1 => ?_)
  ·
   have f1 := h1
   try simp only [bl] at f1
   have hno : tapeW t = none := by unfold tapeW; rw [if_pos (by omega)]
   refine c_seq (c_region ?_)
   refine o_pv trivial rfl rfl ?_
   refine o_nil (then_c (c_ret (then_r ?_)))
   refine ret1 rfl rfl ?_
   refine leaf0 ?_; rw [hno]; exact Slc.nil _ _
  ·
   have f1 := h1
   try simp only [bl] at f1
   have hgd : ¬ (t.ins < 1 ∨ 40 < t.ins ∨ t.outs.length < 1 ∨ 40 < t.outs.length ∨ 400 < t.ops.length) := by omega
   refine c_skip (then_c (c_seq (c_region ?_)))
   refine o_pv trivial rfl rfl ?_
   refine o_nil (then_c (c_seq (c_seq (c_region ?_))))
   refine o_pv trivial rfl rfl ?_
   refine o_nil (then_c (c_block ?_))
   refine c_loop (ι := Nat × Value) [1] (.cons rfl .nil) (fun x => t.ins.toNat - x.1) (fun x E0 => (3, x.2) :: (4, .int .i64 (x.1 : Int)) :: E0) (fun x => St w [] I [.row x.2 3 1 x.1 (nvs (List.replicate x.1 1)), .box b1 (.cells ([.int .i64 t.ins, vo, vu] : List Value).toArray 29 (0, 0))]) (fun x => x.1 ≤ t.ins.toNat) ((0, .slice none 0 0)) (sub_cons rfl (sub_cons rfl (sub_cons rfl sub_nil))) (fun _ h => h.nilRow _ _) (Nat.zero_le _) ?_
   rintro ⟨i, u⟩ hi
   try dsimp only
   simp only at hi
   refine c_seq (c_seq (c_region ?_))
   refine o_pv trivial rfl rfl ?_
   refine o_fieldAddr (T := 3) (off := 0) trivial rfl Tryz.underlying29 rfl rfl rfl Tryz.sizeOf3 rfl rfl ?_
   refine o_load1 trivial rfl Tryz.isAgg3 rfl (by repeat constructor) (by repeat constructor) ?_
   refine o_pv trivial rfl rfl ?_
   refine o_nil (then_c ?_)
   refine c_cond rfl (fun h2 => ?_) (fun h2 => ?_)
   ·
    have f2 := h2
    try simp only [bl] at f2
    refine c_skip (then_c (c_seq (c_block (c_region ?_))))
    refine o_pv trivial rfl rfl ?_
    refine o_buildSl trivial rfl Tryz.underlying27 Tryz.sizeOf3 Tryz.zeroValue3 (by decide) (by decide) rfl (by repeat first | exact rfl | constructor) rfl (fun b41 => ?_)
    refine o_appendBox trivial rfl Tryz.underlying27 (elem3) (by decide) rfl rfl (fun v' => (by repeat constructor)) (by repeat constructor) rfl (by first | rfl | decide) (by first | omega | (unfold maxLen; omega)) (by omega) (fun v42 => ?_)
    refine o_pv trivial rfl rfl ?_
    refine o_nil (blk_n (then_c (c_region ?_)))
    refine o_pv trivial rfl rfl ?_
    first | (refine o_add trivial rfl rfl rfl ?_ ?_; (omega)) | refine o_pv trivial rfl rfl ?_
    refine o_pv trivial rfl rfl ?_
    refine o_nil ?_
    exact again (i + 1, v42) (sub_cons rfl (sub_cons rfl (sub_cons rfl sub_nil))) (fun _ h => by rw [← nvs_ones]; exact h.sort (by repeat constructor)) (by show t.ins.toNat - (i + 1) < t.ins.toNat - i; omega) (by show i + 1 ≤ _; omega)
   ·
    have f2 := h2
    try simp only [bl] at f2
    refine c_exit (then_x (then_x (blk_eq rfl (then_c (c_seq (c_seq ?_))))))
    have hin : i = t.ins.toNat := by omega
    subst hin
    refine c_region ?_
    refine o_pv trivial rfl rfl ?_
    refine o_nil (then_c (c_block ?_))
    refine c_loop (ι := Nat × List Nat × Value) [1] (.cons rfl .nil) (fun x => t.ops.length - x.1) (fun x E0 => (3, x.2.2) :: (5, .int .i64 (x.1 : Int)) :: E0) (fun x => St w [] I [.row x.2.2 3 1 x.2.1.length (nvs x.2.1), .box b1 (.cells ([.int .i64 t.ins, vo, vu] : List Value).toArray 29 (0, 0))]) (fun x => x.1 ≤ t.ops.length ∧ x.2.1.length = t.ins.toNat + x.1 ∧ (∀ y ∈ x.2.1, y ≤ 200) ∧ wgts t.ops (List.replicate t.ins.toNat 1) = wgts (t.ops.drop x.1) x.2.1) ((0, List.replicate t.ins.toNat 1, u)) (sub_cons rfl (sub_cons rfl (sub_cons rfl sub_nil))) (fun _ h => by rw [List.length_replicate]; exact h) (⟨Nat.zero_le _, by rw [List.length_replicate]; rfl, fun y hy => by rw [(List.mem_replicate.1 hy).2]; decide, rfl⟩) ?_
    rintro ⟨i, l, u⟩ ⟨hi, hll, hl2, hW⟩
    try dsimp only
    simp only at hi hll hl2 hW
    refine c_seq (c_seq (c_region ?_))
    refine o_pv trivial rfl rfl ?_
    refine o_fieldAddr (T := 26) (off := 1) trivial rfl Tryz.underlying29 rfl rfl rfl Tryz.sizeOf26 rfl rfl ?_
    refine o_load1 trivial rfl Tryz.isAgg26 rfl (by repeat constructor) (by repeat constructor) ?_
    refine o_lenSlc trivial rfl Tryz.underlying26 rfl (hso) ?_
    refine o_pv trivial rfl rfl ?_
    refine o_nil (then_c ?_)
    refine c_cond rfl (fun h3 => ?_) (fun h3 => ?_)
    ·
     have f3 := h3
     try simp only [bl] at f3
     have hio : i < os.length := by omega
     obtain ⟨o, ho⟩ : ∃ o, os[i]? = some o := ⟨os[i], List.getElem?_eq_getElem hio⟩
     obtain ⟨hvn, hvd⟩ := ht.ok o (List.mem_of_getElem? ho)
     have hto := hoc ho
     have hfo := hf o.c (List.mem_of_getElem? hto)
     rw [wgts_dropR hto] at hW
     refine c_skip (then_c (c_seq (c_block (c_seq (c_region ?_)))))
     refine o_fieldAddr (T := 26) (off := 1) trivial rfl Tryz.underlying29 rfl rfl rfl Tryz.sizeOf26 rfl rfl ?_
     refine o_load1 trivial rfl Tryz.isAgg26 rfl (by repeat constructor) (by repeat constructor) ?_
     refine o_pv trivial rfl rfl ?_
     refine o_elem trivial rfl Tryz.underlying26 Tryz.sizeOf35 rfl (hso) rfl (by omega) ?_
     refine o_loadAI trivial rfl Tryz.isAgg35 Tryz.sizeOf35 rfl rfl (OpV.at_ ht ho) ?_
     refine o_pv trivial rfl rfl ?_
     refine o_callK trivial rfl Tryz.call28 rfl (weightR_any o.c.code o.c.a o.c.b o.c.e o.c.neg o.vn o.vd u o.c.n o.c.d l hvn hvd hfo.1 hfo.2 (by omega) hl2) (by repeat constructor) ?_
     rintro _ _ _ hx2 ⟨rfl, rfl, m, rfl, hm1, hm2⟩
     refine o_pv trivial rfl rfl ?_
     refine o_nil (then_c (c_seq (c_seq (c_region ?_))))
     iterate 2 refine o_pv trivial rfl rfl ?_
     refine' o_or trivial trivial rfl rfl rfl rfl rfl rfl rfl rfl (fun hb59 => ?_) ?_
     rotate_left
     ·
      iterate 2 refine o_pv (wants_some rfl rfl hb59) rfl rfl ?_
      refine o_nil ?_
      exact joins rfl
     refine o_nil (then_c ?_)
     refine c_cond rfl (fun h4 => ?_) (fun h4 => ?_)
     ·
      have f4 := h4
      try simp only [bl] at f4
      have hw5 : wR o.c l = none := by
        cases hc : wR o.c l with
        | none => rfl
        | some k =>
          have h1 := hm1 k hc
          have h2 : k ≤ 200 := by
            unfold wR at hc
            split at hc
            · exact wgt_le hc
            · cases hc
          omega
      have hno : tapeW t = none := by unfold tapeW; rw [if_neg hgd, hW, hw5]
      refine c_seq (c_region ?_)
      refine o_pv trivial rfl rfl ?_
      refine o_nil (then_c (c_ret (then_r (blk_r (then_r (then_r (blk_r (then_r ?_))))))))
      refine ret1 rfl rfl ?_
      refine leaf (Ext.refl _ _) (List.nil_sublist _) ?_; rw [hno]; exact Slc.nil _ _
     ·
      have f4 := h4
      try simp only [bl] at f4
      obtain ⟨k, hk⟩ : ∃ k, wR o.c l = some k := by
        cases hc : wR o.c l with
        | none => have := hm2 hc; omega
        | some k => exact ⟨k, rfl⟩
      rw [hk] at hW
      have hmk := hm1 k hk
      subst hmk
      refine c_skip (then_c (c_region ?_))
      iterate 2 refine o_pv trivial rfl rfl ?_
      refine o_buildSl trivial rfl Tryz.underlying27 Tryz.sizeOf3 Tryz.zeroValue3 (by decide) (by decide) rfl (by repeat first | exact rfl | constructor) rfl (fun b65 => ?_)
      refine o_appendBox trivial rfl Tryz.underlying27 (elem3) (by decide) rfl rfl (fun v' => (by repeat constructor)) (by repeat constructor) rfl (by first | rfl | decide) (by first | omega | (unfold maxLen; omega)) (by omega) (fun v66 => ?_)
      refine o_pv trivial rfl rfl ?_
      refine o_nil (blk_n (then_c (c_region ?_)))
      refine o_pv trivial rfl rfl ?_
      first | (refine o_add trivial rfl rfl rfl ?_ ?_; (omega)) | refine o_pv trivial rfl rfl ?_
      refine o_pv trivial rfl rfl ?_
      refine o_nil ?_
      exact again (i + 1, l ++ [k], v66) (sub_cons rfl (sub_cons rfl (sub_cons rfl sub_nil))) (fun _ h => by rw [← nvs_more, List.length_append]; exact h.sort (by repeat constructor)) (by show t.ops.length - (i + 1) < t.ops.length - i; omega) ⟨by show i + 1 ≤ _; omega, by simp only [List.length_append, List.length_cons, List.length_nil]; omega, by
        intro y hy
        rcases List.mem_append.1 hy with hy | hy
        · exact hl2 y hy
        · rw [List.mem_singleton.1 hy]; omega, hW⟩
    ·
     have f3 := h3
     try simp only [bl] at f3
     refine c_exit (then_x (then_x (blk_eq rfl (then_c (c_seq (c_seq ?_))))))
     have hio : i = t.ops.length := by omega
     subst hio
     rw [List.drop_length] at hW
     refine c_region ?_
     refine o_pv trivial rfl rfl ?_
     refine o_nil (then_c (c_block ?_))
     refine c_loop (ι := Nat) [1, 3] (.cons rfl (.cons rfl .nil)) (fun x => t.outs.length - x) (fun x E0 => (7, .int .i64 (x : Int)) :: E0) (fun x => St w [] I [.row u 3 1 l.length (nvs l), .box b1 (.cells ([.int .i64 t.ins, vo, vu] : List Value).toArray 29 (0, 0))]) (fun x => x ≤ t.outs.length ∧ ((t.outs.take x).all fun z => decide (0 ≤ z ∧ z < l.length)) = true) (0) (sub_cons rfl (sub_cons rfl (sub_cons rfl sub_nil))) (fun _ h => h) (⟨Nat.zero_le _, rfl⟩) ?_
     rintro i ⟨hi, hall⟩
     try dsimp only
     refine c_seq (c_seq (c_region ?_))
     refine o_pv trivial rfl rfl ?_
     refine o_fieldAddr (T := 27) (off := 2) trivial rfl Tryz.underlying29 rfl rfl rfl Tryz.sizeOf27 rfl rfl ?_
     refine o_load1 trivial rfl Tryz.isAgg27 rfl (by repeat constructor) (by repeat constructor) ?_
     refine o_lenSlc trivial rfl Tryz.underlying27 rfl (hsu) ?_
     refine o_pv trivial rfl rfl ?_
     refine o_nil (then_c ?_)
     refine c_cond rfl (fun h5 => ?_) (fun h5 => ?_)
     ·
      have f5 := h5
      try simp only [bl] at f5
      have hio : i < t.outs.length := by omega
      obtain ⟨z, hz⟩ : ∃ z, t.outs[i]? = some z := ⟨t.outs[i], List.getElem?_eq_getElem hio⟩
      refine c_skip (then_c (c_seq (c_block (c_seq (c_region ?_)))))
      refine o_fieldAddr (T := 27) (off := 2) trivial rfl Tryz.underlying29 rfl rfl rfl Tryz.sizeOf27 rfl rfl ?_
      refine o_load1 trivial rfl Tryz.isAgg27 rfl (by repeat constructor) (by repeat constructor) ?_
      refine o_pv trivial rfl rfl ?_
      refine o_elem trivial rfl Tryz.underlying27 Tryz.sizeOf3 rfl (hsu) rfl (by omega) ?_
      refine o_load1I trivial rfl Tryz.isAgg3 rfl (ics_at hsu hz) ?_
      refine o_pv trivial rfl rfl ?_
      refine' o_or trivial trivial rfl rfl rfl rfl rfl rfl rfl rfl (fun hb80 => ?_) ?_
      rotate_left
      ·
       have fb80 := hb80
       try simp only [bl] at fb80
       refine o_fieldAddr (T := 27) (off := 2) (wants_some rfl rfl hb80) rfl Tryz.underlying29 rfl rfl rfl Tryz.sizeOf27 rfl rfl ?_
       refine o_load1 (wants_some rfl rfl hb80) rfl Tryz.isAgg27 rfl (by repeat constructor) (by repeat constructor) ?_
       refine o_pv (wants_some rfl rfl hb80) rfl rfl ?_
       refine o_elem (wants_some rfl rfl hb80) rfl Tryz.underlying27 Tryz.sizeOf3 rfl (hsu) rfl (by omega) ?_
       refine o_load1I (wants_some rfl rfl hb80) rfl Tryz.isAgg3 rfl (ics_at hsu hz) ?_
       refine o_pv (wants_some rfl rfl hb80) rfl rfl ?_
       refine o_lenRow (wants_some rfl rfl hb80) rfl Tryz.underlying27 rfl (by repeat constructor) ?_
       refine o_pv (wants_some rfl rfl hb80) rfl rfl ?_
       refine o_nil ?_
       exact joins rfl
      refine o_nil (then_c ?_)
      refine c_cond rfl (fun h6 => ?_) (fun h6 => ?_)
      ·
       have f6 := h6
       try simp only [bl] at f6
       have hno : tapeW t = none := by
         unfold tapeW; rw [if_neg hgd, hW]
         have hz9 : (t.outs.all fun z => decide (0 ≤ z ∧ z < l.length)) = false := by
           rw [List.all_eq_false]
           exact ⟨z, List.mem_of_getElem? hz, by simp; omega⟩
         show (if (t.outs.all fun z => decide (0 ≤ z ∧ z < l.length)) = true then some l else none) = none
         rw [hz9]; rfl
       refine c_seq (c_region ?_)
       refine o_pv trivial rfl rfl ?_
       refine o_nil (then_c (c_ret (blk_r (then_r (then_r (blk_r (then_r ?_)))))))
       refine ret1 rfl rfl ?_
       refine leaf (Ext.refl _ _) (List.nil_sublist _) ?_; rw [hno]; exact Slc.nil _ _
      ·
       have f6 := h6
       try simp only [bl] at f6
       refine c_skip (blk_n (then_c (c_region ?_)))
       refine o_pv trivial rfl rfl ?_
       first | (refine o_add trivial rfl rfl rfl ?_ ?_; (omega)) | refine o_pv trivial rfl rfl ?_
       refine o_pv trivial rfl rfl ?_
       refine o_nil ?_
       exact again (i + 1) (sub_cons rfl (sub_cons rfl (sub_cons rfl sub_nil))) (fun _ h => h) (by show t.outs.length - (i + 1) < t.outs.length - i; omega) ⟨by show i + 1 ≤ _; omega, by
         show ((t.outs.take (i + 1)).all _) = true
         rw [List.take_add_one, hz, List.all_append, hall]
         simp; omega⟩
     ·
      have f5 := h5
      try simp only [bl] at f5
      refine c_exit (then_x (then_x (blk_eq rfl (then_c (c_seq ?_)))))
      have hio : i = t.outs.length := by omega
      subst hio
      rw [List.take_length] at hall
      have hyes : tapeW t = some l := by unfold tapeW; rw [if_neg hgd, hW]; show (if (t.outs.all fun z => decide (0 ≤ z ∧ z < l.length)) = true then some l else none) = some l; rw [hall]; rfl
      refine c_region ?_
      iterate 2 refine o_pv trivial rfl rfl ?_
      refine o_nil (then_c (c_ret ?_))
      refine ret1 rfl rfl ?_
      exact fun w' hw' => leafRow (e := 3) (size := 1) (nn := l.length) (u := u) (xss := nls l) (by rw [nls_len]) (by intro c hc; obtain ⟨x, _, rfl⟩ := List.mem_map.1 hc; rfl) (by unfold maxLen; omega) (fun I' hl hs' => by rw [hyes]; exact hs') w' (by unfold nls; rw [nvs_flat]; exact hw')
theorem tapeW_pos {t : TapeC} {l : List Nat} (h : tapeW t = some l) : 0 < l.length := by
  obtain ⟨p1, p2, p3, p4, p5, p6, p7⟩ := tapeW_parts h
  have h5 := wgts_len p6
  rw [List.length_replicate] at h5
  omega
theorem rightR_any (t : TapeC) (vo vu : Value) (os : List OpV) {I : Hp} (ht : TapeV I vo vu t os) (hf : ∀ o ∈ t.ops, OpC.few 3000 o) : Fun Tryz.prog 32 [.agg #[.int .i64 t.ins, vo, vu]] I [] (fun v _ _ => v = .bool (tapeW t).isSome) := by
  intro w hw
  refine enter1 _ Tryz.func32 rfl Tryz.ntmps32 rfl ?_ hw
  refine c_seq (c_region ?_)
  refine o_box trivial rfl rfl rfl (fun b1 => ?_)
  refine o_pv trivial rfl rfl ?_
  refine o_nil (then_c (c_seq (c_region ?_)))
  refine o_loadA trivial rfl Tryz.isAgg29 Tryz.sizeOf29 rfl (by repeat constructor) (by repeat constructor) ?_
  refine o_callI trivial rfl Tryz.call14 rfl (weightsR_any t vo vu os ht hf) ?_
  rintro u I1 hx1 hs1
  refine o_lenSlc trivial rfl Tryz.underlying27 rfl (hs1) ?_
  iterate 2 refine o_pv trivial rfl rfl ?_
  refine o_nil (then_c (c_ret ?_))
  refine ret1 rfl rfl ?_
  refine leaf hx1 (List.nil_sublist _) (congrArg Value.bool ?_)
  rw [nls_len, Bool.eq_iff_iff, decide_eq_true_eq]
  cases hc : tapeW t with
  | none => simp
  | some l => have := tapeW_pos hc; simp; omega
def fewT (t : TapeC) (most : Int) : Bool := decide (t.ins ≤ 8 ∧ (t.outs.length : Int) ≤ 8 ∧ (t.ops.length : Int) ≤ most) && t.ops.all fun o => decide ((o.n.length : Int) ≤ 6 ∧ (o.d.length : Int) ≤ 6)
/-- A list of one number. -/
theorem PtV.one {I : Hp} {b : Nat} {neg : Bool} {n d : List Nat} {vn vd : Value} {T : TypeId} {fz : Nat × Nat} (hb : I b = some (.cells ([.bool neg, vn, vd] ++ [] : List Value).toArray T fz)) (hn : Ws I vn n) (hd : Ws I vd d) : PtV I (.slice (some ⟨b, 0, none⟩) 1 1) [⟨neg, n, d, vn, vd⟩] :=
  ⟨Slc.of_box (xss := [[.bool neg, vn, vd]]) hb (fun c hc => by rw [List.mem_singleton.1 hc]; rfl) (by unfold maxLen; simp) (Nat.le_refl _), fun x hx => by rw [List.mem_singleton.1 hx]; exact ⟨hn, hd⟩⟩
theorem fewR_any (t : TapeC) (vo vu : Value) (os : List OpV) (most : Int) {I : Hp} (ht : TapeV I vo vu t os) : Fun Tryz.prog 12 [.agg #[.int .i64 t.ins, vo, vu], .int .i64 most] I [] (fun v _ _ => v = .bool (fewT t most)) := by
  have hol : os.length = t.ops.length := by rw [← ht.eq, List.length_map]
  have hoc : ∀ {i : Nat} {o : OpV}, os[i]? = some o → t.ops[i]? = some o.c := fun {i o} h => by rw [← ht.eq, List.getElem?_map, h]; rfl
  have hso := ht.so
  have hsu := ht.su
  have hul := ics_len t.outs
  have hml : (os.map OpV.cells).length = t.ops.length := by rw [List.length_map, hol]
  have hm1 := hso.most
  unfold maxLen at hm1
  intro w hw
  refine enter2 _ Tryz.func12 rfl Tryz.ntmps12 rfl ?_ hw
  refine c_seq (c_region ?_)
  refine o_box trivial rfl rfl rfl (fun b2 => ?_)
  refine o_pv trivial rfl rfl ?_
  refine o_nil (then_c (c_seq (c_seq (c_region ?_))))
  refine o_fieldAddr (T := 3) (off := 0) trivial rfl Tryz.underlying29 rfl rfl rfl Tryz.sizeOf3 rfl rfl ?_
  refine o_load1 trivial rfl Tryz.isAgg3 rfl (by repeat constructor) (by repeat constructor) ?_
  refine o_pv trivial rfl rfl ?_
  refine' o_or trivial trivial rfl rfl rfl rfl rfl rfl rfl rfl (fun hb10 => ?_) ?_
  rotate_left
  ·
   have fb10 := hb10
   try simp only [bl] at fb10
   refine o_fieldAddr (T := 27) (off := 2) (wants_some rfl rfl hb10) rfl Tryz.underlying29 rfl rfl rfl Tryz.sizeOf27 rfl rfl ?_
   refine o_load1 (wants_some rfl rfl hb10) rfl Tryz.isAgg27 rfl (by repeat constructor) (by repeat constructor) ?_
   refine o_lenSlc (wants_some rfl rfl hb10) rfl Tryz.underlying27 rfl (hsu) ?_
   refine o_pv (wants_some rfl rfl hb10) rfl rfl ?_
   refine o_nil ?_
   exact joins rfl
  refine' o_or trivial trivial rfl rfl rfl rfl rfl rfl rfl rfl (fun hb16 => ?_) ?_
  rotate_left
  ·
   have fb16 := hb16
   try simp only [bl] at fb16
   refine o_fieldAddr (T := 26) (off := 1) (wants_some rfl rfl hb16) rfl Tryz.underlying29 rfl rfl rfl Tryz.sizeOf26 rfl rfl ?_
   refine o_load1 (wants_some rfl rfl hb16) rfl Tryz.isAgg26 rfl (by repeat constructor) (by repeat constructor) ?_
   refine o_lenSlc (wants_some rfl rfl hb16) rfl Tryz.underlying26 rfl (hso) ?_
   iterate 2 refine o_pv (wants_some rfl rfl hb16) rfl rfl ?_
   refine o_nil ?_
   exact joins rfl
  refine o_nil (then_c ?_)
  refine c_cond rfl (fun h1 => ?_) (fun h1 => ?_)
  ·
   have f1 := h1
   try simp only [bl] at f1
   refine c_seq (c_region ?_)
   refine o_pv trivial rfl rfl ?_
   refine o_nil (then_c (c_ret (then_r ?_)))
   refine ret1 rfl rfl ?_
   refine leaf0 (congrArg Value.bool ?_); unfold fewT; rw [decide_eq_false (by omega), Bool.false_and]
  ·
   have f1 := h1
   try simp only [bl] at f1
   have hg : decide (t.ins ≤ 8 ∧ (t.outs.length : Int) ≤ 8 ∧ (t.ops.length : Int) ≤ most) = true := decide_eq_true (by omega)
   refine c_skip (then_c (c_seq (c_seq (c_region ?_))))
   refine o_pv trivial rfl rfl ?_
   refine o_nil (then_c (c_block ?_))
   refine c_loop (ι := Nat) [2] (.cons rfl .nil) (fun i => t.ops.length - i) (fun i E0 => (5, .int .i64 (i : Nat)) :: E0) (fun i => St w [] I [.box b2 (.cells ([.int .i64 t.ins, vo, vu] : List Value).toArray 29 (0, 0))]) (fun i => i ≤ t.ops.length ∧ ((t.ops.take i).all fun o => decide ((o.n.length : Int) ≤ 6 ∧ (o.d.length : Int) ≤ 6)) = true) (0) (sub_cons rfl (sub_cons rfl sub_nil)) (fun _ h => h) (⟨Nat.zero_le _, rfl⟩) ?_
   rintro i ⟨hi, hall⟩
   try dsimp only
   refine c_seq (c_seq (c_region ?_))
   refine o_pv trivial rfl rfl ?_
   refine o_fieldAddr (T := 26) (off := 1) trivial rfl Tryz.underlying29 rfl rfl rfl Tryz.sizeOf26 rfl rfl ?_
   refine o_load1 trivial rfl Tryz.isAgg26 rfl (by repeat constructor) (by repeat constructor) ?_
   refine o_lenSlc trivial rfl Tryz.underlying26 rfl (hso) ?_
   refine o_pv trivial rfl rfl ?_
   refine o_nil (then_c ?_)
   refine c_cond rfl (fun h2 => ?_) (fun h2 => ?_)
   ·
    have f2 := h2
    try simp only [bl] at f2
    have hio : i < os.length := by omega
    obtain ⟨o, ho⟩ : ∃ o, os[i]? = some o := ⟨os[i], List.getElem?_eq_getElem hio⟩
    obtain ⟨hvn, hvd⟩ := ht.ok o (List.mem_of_getElem? ho)
    have hto := hoc ho
    refine c_skip (then_c (c_seq (c_block (c_seq (c_region ?_)))))
    refine o_fieldAddr (T := 26) (off := 1) trivial rfl Tryz.underlying29 rfl rfl rfl Tryz.sizeOf26 rfl rfl ?_
    refine o_load1 trivial rfl Tryz.isAgg26 rfl (by repeat constructor) (by repeat constructor) ?_
    refine o_pv trivial rfl rfl ?_
    refine o_elem trivial rfl Tryz.underlying26 Tryz.sizeOf35 rfl (hso) rfl (by omega) ?_
    refine o_fieldAddr (T := 33) (off := 4) trivial rfl Tryz.underlying35 rfl rfl rfl Tryz.sizeOf33 rfl rfl ?_
    refine o_loadAI trivial rfl Tryz.isAgg33 Tryz.sizeOf33 rfl rfl (fun k y hk => by have hc := OpV.at_ ht ho (4 + k) y (by rw [Nat.add_comm]; exact hk); rw [← Nat.add_assoc] at hc; exact hc) ?_
    refine o_buildSl trivial rfl Tryz.underlying37 Tryz.sizeOf33 Tryz.zeroValue33 (by decide) (by decide) rfl (by repeat first | exact rfl | constructor) rfl (fun b36 => ?_)
    refine l_sealB .here (fun I1 hx1 hb36 => ?_)
    refine o_callQ trivial rfl Tryz.call13 rfl (rFew_any _ _ 6 (PtV.one hb36 (hvn.le hx1.le) (hvd.le hx1.le))) ?_
    refine o_pv trivial rfl rfl ?_
    refine o_nil (then_c (c_seq ?_))
    rw [show ([(⟨o.c.neg, o.c.n, o.c.d, o.vn, o.vd⟩ : NV)].all fun x => decide ((x.n.length : Int) ≤ 6 ∧ (x.d.length : Int) ≤ 6)) = decide ((o.c.n.length : Int) ≤ 6 ∧ (o.c.d.length : Int) ≤ 6) from Bool.and_true _]
    refine c_region ?_
    iterate 2 refine o_pv trivial rfl rfl ?_
    refine o_nil (then_c ?_)
    refine c_cond rfl (fun h3 => ?_) (fun h3 => ?_)
    ·
     have f3 := h3
     try simp only [bl] at f3
     refine c_seq (c_region ?_)
     refine o_pv trivial rfl rfl ?_
     refine o_nil (then_c (c_ret (blk_r (then_r (then_r (blk_r (then_r ?_)))))))
     refine ret1 rfl rfl ?_
     refine leaf hx1 (List.nil_sublist _) (congrArg Value.bool ?_)
     unfold fewT
     rw [hg, Bool.true_and]
     symm
     rw [List.all_eq_false]
     exact ⟨o.c, List.mem_of_getElem? hto, by simp only [decide_eq_true_eq]; omega⟩
    ·
     have f3 := h3
     try simp only [bl] at f3
     refine c_skip (blk_n (then_c (c_region ?_)))
     refine o_pv trivial rfl rfl ?_
     first | (refine o_add trivial rfl rfl rfl ?_ ?_; (omega)) | refine o_pv trivial rfl rfl ?_
     refine o_pv trivial rfl rfl ?_
     refine o_nil ?_
     exact again (i + 1) (sub_cons rfl (sub_cons rfl sub_nil)) (fun _ h => (h.sort (by repeat constructor)).fewer hx1.le) (by show t.ops.length - (i + 1) < t.ops.length - i; omega) ⟨by show i + 1 ≤ _; omega, by
       rw [List.take_add_one, hto, List.all_append, hall]
       simp only [Option.toList, List.all_cons, List.all_nil, Bool.and_true, Bool.true_and, decide_eq_true_eq]
       omega⟩
   ·
    have f2 := h2
    try simp only [bl] at f2
    refine c_exit (then_x (then_x (blk_eq rfl (then_c (c_seq (c_region ?_))))))
    refine o_pv trivial rfl rfl ?_
    refine o_nil (then_c (c_ret ?_))
    refine ret1 rfl rfl ?_
    refine leaf0 (congrArg Value.bool ?_)
    rw [List.take_of_length_le (by omega)] at hall
    unfold fewT
    rw [hg, hall]; rfl
end Go.Proofs.YtjgbjaaekknenaaGreat
/-
  The document's answers for layer 15.
-/
namespace Go.Tw
open Go
set_option linter.unusedVariables false
set_option linter.unusedSimpArgs false
set_option linter.unnecessarySimpa false
set_option maxHeartbeats 1000000
/-- What an op comes to, of what its places come to. -/
def opP (o : OpC) (p q : Rat) : Option Rat :=
  if o.code = 2 then some (p + q)
  else if o.code = 3 then some (p - q)
  else if o.code = 4 then some (p * q)
  else if o.code = 5 then (if q = 0 then none else some (p / q))
  else if o.code = 6 then some (-p)
  else if o.code = 7 then (if o.e < 0 ∧ p = 0 then none else some (p ^ o.e))
  else some (lowQ o.neg (val o.n) (val o.d))
theorem opR_P (o : OpC) (l : List Rat) : opR o l = opP o (zth l o.a) (zth l o.b) := rfl
/-- A number, or that there is none. -/
def opT (r : Option Rat) (I : Hp) (v : Value) : Prop := ∃ s x y X Y, v = .tuple #[.agg #[.bool s, x, y], .int .i64 (if r.isSome then 0 else 3)] ∧ Ws I x X ∧ Ws I y Y ∧ ∀ q, r = some q → s = decide (q.num < 0) ∧ X = natW q.num.natAbs ∧ Y = natW q.den
theorem opT_some {q : Rat} {I : Hp} {x y : Value} (h1 : Ws I x (natW q.num.natAbs)) (h2 : Ws I y (natW q.den)) : opT (some q) I (.tuple #[.agg #[.bool (decide (q.num < 0)), x, y], .int .i64 0]) :=
  ⟨_, x, y, _, _, rfl, h1, h2, fun q' h => by cases h; exact ⟨rfl, rfl, rfl⟩⟩
/-- An op whose places are there, and whose numbers are not too long. -/
structure OpOKr (o : OpC) (l : List Rat) : Prop where
  place : 0 ≤ o.a ∧ o.a < l.length ∧ 0 ≤ o.b ∧ o.b < l.length
  few : ∀ q ∈ l, Few 1400 q
  pow : o.code = 7 → ∃ c, Few c (zth l o.a) ∧ c ≤ 1300 ∧ c * o.e.natAbs ≤ 1300 ∧ -64 ≤ o.e ∧ o.e ≤ 64
  lits : o.n.length ≤ 3000 ∧ o.d.length ≤ 3000
theorem OpOKr.ok {o : OpC} {l : List Rat} (h : OpOKr o l) : OpOK o l :=
  ⟨fun _ _ => h.place, fun q hq => (h.few q hq).le (by decide), fun h7 => let ⟨c, h1, h2, h3, h4⟩ := h.pow h7; ⟨c, h1, by omega, by omega, h4⟩, by have := h.lits; omega⟩
def OpsOKr : List OpC → List Rat → Prop
  | [], _ => True
  | o :: r, l => OpOKr o l ∧ ∀ q, opR o l = some q → OpsOKr r (l ++ [q])
theorem OpsOKr.ok : ∀ {ops : List OpC} {l : List Rat}, OpsOKr ops l → OpsOK ops l
  | [], l, _ => trivial
  | o :: r, l, h => ⟨h.1.ok, fun q hq => (h.2 q hq).ok⟩
theorem OpsOKr_drop {ops : List OpC} {i : Nat} {o : OpC} (h : ops[i]? = some o) {l : List Rat} (hk : OpsOKr (ops.drop i) l) : OpOKr o l ∧ ∀ q, opR o l = some q → OpsOKr (ops.drop (i + 1)) (l ++ [q]) := by
  rw [List.drop_eq_getElem_cons (List.getElem?_eq_some_iff.1 h).1, (List.getElem?_eq_some_iff.1 h).2] at hk; exact hk
end Go.Tw
namespace Go.Proofs.YtjgbjaaekknenaaGreat
open Go Go.Tw
set_option linter.unusedVariables false
set_option linter.unusedSimpArgs false
set_option linter.unnecessarySimpa false
set_option maxHeartbeats 1000000
theorem okR_T {e : Prop} [Decidable e] {q : Rat} {r : Option Rat} {I : Hp} {v : Value} (h : okR e q I v) (hr : r = if e then none else some q) : opT r I v := by
  obtain ⟨s, x, y, X, Y, rfl, h2, h3, h4⟩ := h
  subst hr
  by_cases he : e
  · rw [if_pos he, if_pos he]; exact ⟨s, x, y, X, Y, rfl, h2, h3, fun q' h => by cases h⟩
  · rw [if_neg he, if_neg he]; exact ⟨s, x, y, X, Y, rfl, h2, h3, fun q' h => by cases h; exact h4 he⟩
theorem op15_any (code a b e : Int) (neg : Bool) (va vb v1 v2 v3 v4 : Value) (A B : List Nat) (p q : Rat) {I : Hp} (ha : Ws I va A) (hb : Ws I vb B) (g1 : Ws I v1 (natW p.num.natAbs)) (g2 : Ws I v2 (natW p.den)) (g3 : Ws I v3 (natW q.num.natAbs)) (g4 : Ws I v4 (natW q.den))
    (hp : Few 1400 p) (hq : Few 1400 q) (hpow : code = 7 → ∃ c, Few c p ∧ c ≤ 1300 ∧ c * e.natAbs ≤ 1300 ∧ -64 ≤ e ∧ e ≤ 64) (hA : A.length ≤ 3000) (hB : B.length ≤ 3000) :
    Fun Tryz.prog 34 [.agg #[.int .i64 code, .int .i64 a, .int .i64 b, .int .i64 e, .bool neg, va, vb], .agg #[.bool (decide (p.num < 0)), v1, v2], .agg #[.bool (decide (q.num < 0)), v3, v4]] I [] (fun v I' _ => opT (opP ⟨code, a, b, e, neg, A, B⟩ p q) I' v) := by
  intro w hw
  refine enter3 _ Tryz.func34 rfl Tryz.ntmps34 rfl ?_ hw
  refine c_seq (c_region ?_)
  refine o_box trivial rfl rfl rfl (fun b3 => ?_)
  refine o_box trivial rfl rfl rfl (fun b4 => ?_)
  refine o_box trivial rfl rfl rfl (fun b5 => ?_)
  refine o_alloc trivial rfl Tryz.zeroValue33 rfl (fun b6 => ?_)
  refine o_pv trivial rfl rfl ?_
  refine o_nil (then_c (c_seq (c_seq (c_region ?_))))
  refine o_fieldAddr (T := 3) (off := 0) trivial rfl Tryz.underlying35 rfl rfl rfl Tryz.sizeOf3 rfl rfl ?_
  refine o_load1 trivial rfl Tryz.isAgg3 rfl (by repeat constructor) (by repeat constructor) ?_
  refine o_nil (then_c (c_block (c_seq (c_region ?_))))
  iterate 2 refine o_pv trivial rfl rfl ?_
  refine o_nil (then_c ?_)
  refine c_cond rfl (fun h1 => ?_) (fun h1 => ?_)
  ·
   have f1 := h1
   try simp only [bl] at f1
   have hr : opP ⟨code, a, b, e, neg, A, B⟩ p q = some (p + q) := by unfold opP; rw [if_pos f1]
   refine c_seq (c_region ?_)
   iterate 2 refine o_loadA trivial rfl Tryz.isAgg33 Tryz.sizeOf33 rfl (by repeat constructor) (by repeat constructor) ?_
   refine o_callI trivial rfl Tryz.call54 rfl (rAdd8_any p q _ _ _ _ g1 g2 g3 g4 hp hq) ?_
   rintro _ I1 hx1 ⟨u1, u2, rfl, k1, k2⟩
   refine o_store trivial rfl rfl rfl Tryz.sizeOf33 rfl (by first | rfl | (repeat' (first | exact rfl | exact one_nil | refine one_cons ?_ ?_ | exact (Ws.cells1 (by assumption)).2 | exact (Slc.cells1 (by assumption)).2))) (by repeat constructor) (by repeat constructor) ?_
   refine o_pv trivial rfl rfl ?_
   refine o_nil (then_c (c_ret (blk_r (then_r ?_))))
   refine retR rfl (.agg Tryz.isAgg33 Tryz.sizeOf33 rfl (by repeat constructor) rfl (.tmp rfl .nil)) ?_
   refine leaf hx1 (List.nil_sublist _) ?_; rw [hr]; exact opT_some k1 k2
  ·
   have f1 := h1
   try simp only [bl] at f1
   refine c_seq (c_region ?_)
   iterate 2 refine o_pv trivial rfl rfl ?_
   refine o_nil (then_c ?_)
   refine c_cond rfl (fun h2 => ?_) (fun h2 => ?_)
   ·
    have f2 := h2
    try simp only [bl] at f2
    have hr : opP ⟨code, a, b, e, neg, A, B⟩ p q = some (p - q) := by unfold opP; rw [if_neg f1, if_pos f2]
    refine c_seq (c_region ?_)
    iterate 2 refine o_loadA trivial rfl Tryz.isAgg33 Tryz.sizeOf33 rfl (by repeat constructor) (by repeat constructor) ?_
    refine o_callI trivial rfl Tryz.call55 rfl (rSub8_any p q _ _ _ _ g1 g2 g3 g4 hp hq) ?_
    rintro _ I1 hx1 ⟨u1, u2, rfl, k1, k2⟩
    refine o_store trivial rfl rfl rfl Tryz.sizeOf33 rfl (by first | rfl | (repeat' (first | exact rfl | exact one_nil | refine one_cons ?_ ?_ | exact (Ws.cells1 (by assumption)).2 | exact (Slc.cells1 (by assumption)).2))) (by repeat constructor) (by repeat constructor) ?_
    refine o_pv trivial rfl rfl ?_
    refine o_nil (then_c (c_ret (blk_r (then_r ?_))))
    refine retR rfl (.agg Tryz.isAgg33 Tryz.sizeOf33 rfl (by repeat constructor) rfl (.tmp rfl .nil)) ?_
    refine leaf hx1 (List.nil_sublist _) ?_; rw [hr]; exact opT_some k1 k2
   ·
    have f2 := h2
    try simp only [bl] at f2
    refine c_seq (c_region ?_)
    iterate 2 refine o_pv trivial rfl rfl ?_
    refine o_nil (then_c ?_)
    refine c_cond rfl (fun h3 => ?_) (fun h3 => ?_)
    ·
     have f3 := h3
     try simp only [bl] at f3
     have hr : opP ⟨code, a, b, e, neg, A, B⟩ p q = some (p * q) := by unfold opP; rw [if_neg f1, if_neg f2, if_pos f3]
     refine c_seq (c_region ?_)
     iterate 2 refine o_loadA trivial rfl Tryz.isAgg33 Tryz.sizeOf33 rfl (by repeat constructor) (by repeat constructor) ?_
     refine o_callI trivial rfl Tryz.call56 rfl (rMul8_any p q _ _ _ _ g1 g2 g3 g4 hp hq) ?_
     rintro _ I1 hx1 ⟨u1, u2, rfl, k1, k2⟩
     refine o_store trivial rfl rfl rfl Tryz.sizeOf33 rfl (by first | rfl | (repeat' (first | exact rfl | exact one_nil | refine one_cons ?_ ?_ | exact (Ws.cells1 (by assumption)).2 | exact (Slc.cells1 (by assumption)).2))) (by repeat constructor) (by repeat constructor) ?_
     refine o_pv trivial rfl rfl ?_
     refine o_nil (then_c (c_ret (blk_r (then_r ?_))))
     refine retR rfl (.agg Tryz.isAgg33 Tryz.sizeOf33 rfl (by repeat constructor) rfl (.tmp rfl .nil)) ?_
     refine leaf hx1 (List.nil_sublist _) ?_; rw [hr]; exact opT_some k1 k2
    ·
     have f3 := h3
     try simp only [bl] at f3
     refine c_seq (c_region ?_)
     iterate 2 refine o_pv trivial rfl rfl ?_
     refine o_nil (then_c ?_)
     refine c_cond rfl (fun h4 => ?_) (fun h4 => ?_)
     ·
      have f4 := h4
      try simp only [bl] at f4
      have hr : opP ⟨code, a, b, e, neg, A, B⟩ p q = if q = 0 then none else some (p / q) := by unfold opP; rw [if_neg f1, if_neg f2, if_neg f3, if_pos f4]
      refine c_seq (c_region ?_)
      iterate 2 refine o_loadA trivial rfl Tryz.isAgg33 Tryz.sizeOf33 rfl (by repeat constructor) (by repeat constructor) ?_
      refine o_callI trivial rfl Tryz.call57 rfl (rDiv8_any p q _ _ _ _ g1 g2 g3 g4 hp hq) ?_
      rintro _ I1 hx1 ⟨s1, u1, u2, X1, X2, rfl, k1, k2, k3⟩
      iterate 2 refine o_pv trivial rfl rfl ?_
      refine o_store trivial rfl rfl rfl Tryz.sizeOf33 rfl (by first | rfl | (repeat' (first | exact rfl | exact one_nil | refine one_cons ?_ ?_ | exact (Ws.cells1 (by assumption)).2 | exact (Slc.cells1 (by assumption)).2))) (by repeat constructor) (by repeat constructor) ?_
      refine o_pv trivial rfl rfl ?_
      refine o_nil (then_c (c_ret (blk_r (then_r ?_))))
      refine retR rfl (.agg Tryz.isAgg33 Tryz.sizeOf33 rfl (by repeat constructor) rfl (.tmp rfl .nil)) ?_
      exact leaf hx1 (List.nil_sublist _) (okR_T ⟨s1, u1, u2, X1, X2, rfl, k1, k2, k3⟩ hr)
     ·
      have f4 := h4
      try simp only [bl] at f4
      refine c_seq (c_region ?_)
      iterate 2 refine o_pv trivial rfl rfl ?_
      refine o_nil (then_c ?_)
      refine c_cond rfl (fun h5 => ?_) (fun h5 => ?_)
      ·
       have f5 := h5
       try simp only [bl] at f5
       have hr : opP ⟨code, a, b, e, neg, A, B⟩ p q = some (-p) := by unfold opP; rw [if_neg f1, if_neg f2, if_neg f3, if_neg f4, if_pos f5]
       refine c_seq (c_region ?_)
       refine o_loadA trivial rfl Tryz.isAgg33 Tryz.sizeOf33 rfl (by repeat constructor) (by repeat constructor) ?_
       refine o_callI trivial rfl Tryz.call58 rfl (rNeg8_any p _ _ g1 g2 (hp.le (by decide))) ?_
       rintro _ I1 hx1 ⟨u1, u2, rfl, k1, k2⟩
       refine o_store trivial rfl rfl rfl Tryz.sizeOf33 rfl (by first | rfl | (repeat' (first | exact rfl | exact one_nil | refine one_cons ?_ ?_ | exact (Ws.cells1 (by assumption)).2 | exact (Slc.cells1 (by assumption)).2))) (by repeat constructor) (by repeat constructor) ?_
       refine o_pv trivial rfl rfl ?_
       refine o_nil (then_c (c_ret (blk_r (then_r ?_))))
       refine retR rfl (.agg Tryz.isAgg33 Tryz.sizeOf33 rfl (by repeat constructor) rfl (.tmp rfl .nil)) ?_
       refine leaf hx1 (List.nil_sublist _) ?_; rw [hr]; exact opT_some k1 k2
      ·
       have f5 := h5
       try simp only [bl] at f5
       refine c_seq (c_region ?_)
       iterate 2 refine o_pv trivial rfl rfl ?_
       refine o_nil (then_c ?_)
       refine c_cond rfl (fun h6 => ?_) (fun h6 => ?_)
       ·
        have f6 := h6
        try simp only [bl] at f6
        have hr : opP ⟨code, a, b, e, neg, A, B⟩ p q = if e < 0 ∧ p = 0 then none else some (p ^ e) := by unfold opP; rw [if_neg f1, if_neg f2, if_neg f3, if_neg f4, if_neg f5, if_pos f6]
        obtain ⟨c, hc1, hc2, hc3, hc4⟩ := hpow f6
        refine c_seq (c_region ?_)
        refine o_loadA trivial rfl Tryz.isAgg33 Tryz.sizeOf33 rfl (by repeat constructor) (by repeat constructor) ?_
        refine o_fieldAddr (T := 3) (off := 3) trivial rfl Tryz.underlying35 rfl rfl rfl Tryz.sizeOf3 rfl rfl ?_
        refine o_load1 trivial rfl Tryz.isAgg3 rfl (by repeat constructor) (by repeat constructor) ?_
        refine o_callI trivial rfl Tryz.call59 rfl (rPow8_any p e _ _ g1 g2 hc1 hc4 hc2 hc3) ?_
        rintro _ I1 hx1 ⟨s1, u1, u2, X1, X2, rfl, k1, k2, k3⟩
        iterate 2 refine o_pv trivial rfl rfl ?_
        refine o_store trivial rfl rfl rfl Tryz.sizeOf33 rfl (by first | rfl | (repeat' (first | exact rfl | exact one_nil | refine one_cons ?_ ?_ | exact (Ws.cells1 (by assumption)).2 | exact (Slc.cells1 (by assumption)).2))) (by repeat constructor) (by repeat constructor) ?_
        refine o_pv trivial rfl rfl ?_
        refine o_nil (then_c (c_ret (blk_r (then_r ?_))))
        refine retR rfl (.agg Tryz.isAgg33 Tryz.sizeOf33 rfl (by repeat constructor) rfl (.tmp rfl .nil)) ?_
        exact leaf hx1 (List.nil_sublist _) (okR_T ⟨s1, u1, u2, X1, X2, rfl, k1, k2, k3⟩ hr)
       ·
        have f6 := h6
        try simp only [bl] at f6
        have hr : opP ⟨code, a, b, e, neg, A, B⟩ p q = some (lowQ neg (val A) (val B)) := by unfold opP; rw [if_neg f1, if_neg f2, if_neg f3, if_neg f4, if_neg f5, if_neg f6]
        refine c_skip (blk_n (then_c (c_seq (c_region ?_))))
        refine o_fieldAddr (T := 33) (off := 4) trivial rfl Tryz.underlying35 rfl rfl rfl Tryz.sizeOf33 rfl rfl ?_
        refine o_loadA trivial rfl Tryz.isAgg33 Tryz.sizeOf33 rfl (by repeat constructor) (by repeat constructor) ?_
        refine o_callI trivial rfl Tryz.call33 rfl (rFix_any neg _ _ _ _ ha hb hA hB) ?_
        rintro _ I1 hx1 ⟨u1, u2, rfl, k1, k2⟩
        refine o_store trivial rfl rfl rfl Tryz.sizeOf33 rfl (by first | rfl | (repeat' (first | exact rfl | exact one_nil | refine one_cons ?_ ?_ | exact (Ws.cells1 (by assumption)).2 | exact (Slc.cells1 (by assumption)).2))) (by repeat constructor) (by repeat constructor) ?_
        refine o_pv trivial rfl rfl ?_
        refine o_nil (then_c (c_ret ?_))
        refine retR rfl (.agg Tryz.isAgg33 Tryz.sizeOf33 rfl (by repeat constructor) rfl (.tmp rfl .nil)) ?_
        refine leaf hx1 (List.nil_sublist _) ?_; rw [hr]; exact opT_some k1 k2
/-- What has to be small where a tape is right. -/
structure EvOKr (t : TapeC) (xs : List NV) : Prop where
  few : ∀ o ∈ t.ops, OpC.few 3000 o
  nums : ∀ x ∈ xs, x.n.length ≤ 3000 ∧ x.d.length ≤ 3000
  ok : (tapeW t).isSome = true → (xs.length : Int) = t.ins → OpsOKr t.ops (xs.map NV.q)
theorem eval15_any (t : TapeC) (vo vu vx : Value) (os : List OpV) (xs : List NV) {I : Hp} (ht : TapeV I vo vu t os) (hpt : PtV I vx xs) (hk : EvOKr t xs) :
    Fun Tryz.prog 16 [.agg #[.int .i64 t.ins, vo, vu], vx] I [] (fun v I' _ => exR (evalZ t xs) v I') := by
  have hol : os.length = t.ops.length := by rw [← ht.eq, List.length_map]
  have hoc : ∀ {i : Nat} {o : OpV}, os[i]? = some o → t.ops[i]? = some o.c := fun {i o} h => by rw [← ht.eq, List.getElem?_map, h]; rfl
  have hml : (os.map OpV.cells).length = t.ops.length := by rw [List.length_map, hol]
  have h1' := ht.so
  have h2' := ht.su
  have hxl : (xs.map NV.cells).length = xs.length := List.length_map _
  intro w hw
  refine enter2 _ Tryz.func16 rfl Tryz.ntmps16 rfl ?_ hw
  refine c_seq (c_region ?_)
  refine o_box trivial rfl rfl rfl (fun b2 => ?_)
  iterate 2 refine o_pv trivial rfl rfl ?_
  refine o_nil (then_c (c_seq (c_region ?_)))
  refine o_loadA trivial rfl Tryz.isAgg29 Tryz.sizeOf29 rfl (by repeat constructor) (by repeat constructor) ?_
  refine o_callQ trivial rfl Tryz.call32 rfl (rightR_any t vo vu os ht hk.few) ?_
  refine o_pv trivial rfl rfl ?_
  refine o_nil (then_c (c_seq (c_seq (c_region ?_))))
  iterate 2 refine o_pv trivial rfl rfl ?_
  refine o_nil (then_c ?_)
  refine c_cond rfl (fun h1 => ?_) (fun h1 => ?_)
  ·
   have f1 := h1
   try simp only [bl] at f1
   have e : evalZ t xs = .error 1 := by unfold evalZ; rw [if_pos f1]
   refine c_seq (c_region ?_)
   iterate 2 refine o_pv trivial rfl rfl ?_
   refine o_nil (then_c (c_ret (then_r ?_)))
   refine ret2 rfl rfl rfl ?_
   refine leaf0 ?_; rw [e]; exact exR_err _
  ·
   have f1 := h1
   try simp only [bl] at f1
   have f1' : ¬ (tapeW t).isSome = false := by rw [f1]; decide
   refine c_skip (then_c (c_seq (c_seq (c_region ?_))))
   refine o_pv trivial rfl rfl ?_
   refine o_lenSlc trivial rfl Tryz.underlying37 rfl (hpt.s) ?_
   refine o_fieldAddr (T := 3) (off := 0) trivial rfl Tryz.underlying29 rfl rfl rfl Tryz.sizeOf3 rfl rfl ?_
   refine o_load1 trivial rfl Tryz.isAgg3 rfl (by repeat constructor) (by repeat constructor) ?_
   refine o_pv trivial rfl rfl ?_
   refine o_nil (then_c ?_)
   refine c_cond rfl (fun h2 => ?_) (fun h2 => ?_)
   ·
    have f2 := h2
    try simp only [bl] at f2
    have e : evalZ t xs = .error 8 := by unfold evalZ; rw [if_neg f1', if_pos (by rw [← hxl]; exact f2)]
    refine c_seq (c_region ?_)
    iterate 2 refine o_pv trivial rfl rfl ?_
    refine o_nil (then_c (c_ret (then_r ?_)))
    refine ret2 rfl rfl rfl ?_
    refine leaf0 ?_; rw [e]; exact exR_err _
   ·
    have f2 := h2
    try simp only [bl] at f2
    have hl : (xs.length : Int) = t.ins := by rw [← hxl]; omega
    have hok := hk.ok f1 hl
    have hw9 : ∃ w9, tapeW t = some w9 := Option.isSome_iff_exists.1 f1
    obtain ⟨w9, hw9⟩ := hw9
    obtain ⟨p1, p2, p3, p4, p5, p6, p7⟩ := tapeW_parts hw9
    have e : evalZ t xs = match opsR t.ops (xs.map NV.q) with | some l => .ok l | none => .error 3 := by unfold evalZ; rw [if_neg f1', if_neg (by omega)]; cases opsR t.ops (xs.map NV.q) <;> rfl
    refine c_skip (then_c (c_seq (c_region ?_)))
    refine o_pv trivial rfl rfl ?_
    refine o_nil (then_c (c_seq (c_seq (c_region ?_))))
    refine o_pv trivial rfl rfl ?_
    refine o_nil (then_c (c_block ?_))
    refine c_loop (ι := Nat × List RV × Value × Hp) [1, 2] (.cons rfl (.cons rfl .nil)) (fun x => xs.length - x.1) (fun x E0 => (7, x.2.2.1) :: (8, .int .i64 (x.1 : Nat)) :: E0) (fun x => St w [] x.2.2.2 [.row x.2.2.1 33 3 x.2.1.length (rcs x.2.1).flatten, .box b2 (.cells ([.int .i64 t.ins, vo, vu] : List Value).toArray 29 (0, 0))]) (fun x => (∀ r ∈ x.2.1, r.ok x.2.2.2) ∧ x.2.1.map RV.q = (xs.map NV.q).take x.1 ∧ x.2.1.length = x.1 ∧ x.1 ≤ xs.length ∧ Ext w.heap.size I x.2.2.2) ((0, [], .slice none 0 0, I)) (sub_cons rfl (sub_cons rfl (sub_cons rfl (sub_cons rfl sub_nil)))) (fun _ h => (h.nilRow 33 3).sort (by repeat constructor)) (⟨fun r hr => (by cases hr), rfl, rfl, Nat.zero_le _, Ext.refl _ _⟩) ?_
    rintro ⟨i, rs, u, I1⟩ ⟨hrs, hq1, hri, hl1, hx1⟩
    try dsimp only
    simp only at hrs hq1 hri hl1 hx1
    refine c_seq (c_seq (c_region ?_))
    iterate 2 refine o_pv trivial rfl rfl ?_
    refine o_lenSlc trivial rfl Tryz.underlying37 rfl (hpt.s) ?_
    refine o_pv trivial rfl rfl ?_
    refine o_nil (then_c ?_)
    refine c_cond rfl (fun h3 => ?_) (fun h3 => ?_)
    ·
     have f3 := h3
     try simp only [bl] at f3
     have hil : i < xs.length := by omega
     obtain ⟨x, hxi⟩ : ∃ x, xs[i]? = some x := ⟨xs[i], List.getElem?_eq_getElem hil⟩
     have hxm := List.mem_of_getElem? hxi
     obtain ⟨hxn, hxd⟩ := (hpt.le hx1.le).ok x hxm
     have hxb := hk.nums x hxm
     refine c_skip (then_c (c_seq (c_block (c_region ?_))))
     iterate 3 refine o_pv trivial rfl rfl ?_
     refine o_elem trivial rfl Tryz.underlying37 Tryz.sizeOf33 rfl ((hpt.le hx1.le).s) rfl (by omega) ?_
     refine o_loadAI trivial rfl Tryz.isAgg33 Tryz.sizeOf33 rfl rfl (NV.at_ (hpt.le hx1.le) hxi) ?_
     refine o_callI trivial rfl Tryz.call33 rfl (rFix_any x.neg _ _ _ _ hxn hxd hxb.1 hxb.2) ?_
     rintro _ I2 hx2 ⟨u1, u2, rfl, k1, k2⟩
     refine o_buildSl trivial rfl Tryz.underlying37 Tryz.sizeOf33 Tryz.zeroValue33 (by decide) (by decide) rfl (by repeat first | exact rfl | constructor) rfl (fun b34 => ?_)
     refine o_appendBox trivial rfl Tryz.underlying37 (elem33) (by decide) rfl rfl (fun v' => (by repeat constructor)) (by repeat constructor) rfl (by exact three_plain k1 k2) (by first | omega | (unfold maxLen; omega)) (by omega) (fun v35 => ?_)
     refine o_pv trivial rfl rfl ?_
     refine o_nil (blk_n (then_c (c_region ?_)))
     refine o_pv trivial rfl rfl ?_
     first | (refine o_add trivial rfl rfl rfl ?_ ?_; (omega)) | refine o_pv trivial rfl rfl ?_
     refine o_pv trivial rfl rfl ?_
     refine o_nil ?_
     have hq2 : (rs ++ [(⟨x.q, u1, u2⟩ : RV)]).map RV.q = (xs.map NV.q).take (i + 1) := by
       rw [List.map_append, hq1, List.take_add_one, List.getElem?_map, hxi]; rfl
     exact again (i + 1, rs ++ [⟨x.q, u1, u2⟩], v35, I2) (sub_cons rfl (sub_cons rfl (sub_cons rfl (sub_cons rfl sub_nil)))) (fun _ h => by rw [← rcs_more, List.length_append]; exact h.sort (by repeat constructor)) (by show xs.length - (i + 1) < xs.length - i; omega) ⟨fun r hr => by
       rcases List.mem_append.1 hr with hr | hr
       · exact (hrs r hr).le hx2.le
       · rw [List.mem_singleton.1 hr]; exact ⟨k1, k2⟩, hq2, by show (rs ++ [_]).length = _; rw [List.length_append, hri]; rfl, by show i + 1 ≤ _; omega, hx1.trans hx2 (Nat.le_refl _)⟩
    ·
     have f3 := h3
     try simp only [bl] at f3
     refine c_exit (then_x (then_x (blk_eq rfl (then_c (c_seq (c_seq ?_))))))
     have hrl : rs.length = xs.length := by omega
     rw [← hri, hrl, ← List.length_map (f := NV.q), List.take_length] at hq1
     refine c_region ?_
     refine o_pv trivial rfl rfl ?_
     refine o_nil (then_c (c_block ?_))
     refine c_loop (ι := Nat × List RV × Value × Hp) [2] (.cons rfl .nil) (fun x => t.ops.length - x.1) (fun x E0 => (7, x.2.2.1) :: (9, .int .i64 (x.1 : Nat)) :: E0) (fun x => St w [] x.2.2.2 [.row x.2.2.1 33 3 x.2.1.length (rcs x.2.1).flatten, .box b2 (.cells ([.int .i64 t.ins, vo, vu] : List Value).toArray 29 (0, 0))]) (fun x => x.1 ≤ t.ops.length ∧ x.2.1.length = xs.length + x.1 ∧ (∀ r ∈ x.2.1, r.ok x.2.2.2) ∧ opsR t.ops (xs.map NV.q) = opsR (t.ops.drop x.1) (x.2.1.map RV.q) ∧ OpsOKr (t.ops.drop x.1) (x.2.1.map RV.q) ∧ Ext w.heap.size I x.2.2.2) ((0, rs, u, I1)) (sub_cons rfl (sub_cons rfl (sub_cons rfl sub_nil))) (fun _ h => h) (⟨Nat.zero_le _, hrl, hrs, by rw [hq1]; rfl, by rw [hq1]; exact hok, hx1⟩) ?_
     rintro ⟨i, rs, u, I1⟩ ⟨hi, hrl, hrs, hR, hK, hx1⟩
     try dsimp only
     simp only at hi hrl hrs hR hK hx1
     refine c_seq (c_seq (c_region ?_))
     refine o_pv trivial rfl rfl ?_
     refine o_fieldAddr (T := 26) (off := 1) trivial rfl Tryz.underlying29 rfl rfl rfl Tryz.sizeOf26 rfl rfl ?_
     refine o_load1 trivial rfl Tryz.isAgg26 rfl (by repeat constructor) (by repeat constructor) ?_
     refine o_lenSlc trivial rfl Tryz.underlying26 rfl ((ht.le hx1.le).so) ?_
     refine o_pv trivial rfl rfl ?_
     refine o_nil (then_c ?_)
     refine c_cond rfl (fun h4 => ?_) (fun h4 => ?_)
     ·
      have f4 := h4
      try simp only [bl] at f4
      have hio : i < os.length := by omega
      obtain ⟨o, ho⟩ : ∃ o, os[i]? = some o := ⟨os[i], List.getElem?_eq_getElem hio⟩
      obtain ⟨hvn, hvd⟩ := (ht.le hx1.le).ok o (List.mem_of_getElem? ho)
      have hto := hoc ho
      rw [opsR_drop hto] at hR
      obtain ⟨hK1, hK2⟩ := OpsOKr_drop hto hK
      obtain ⟨hplace, hfew, hpow, hlits⟩ := hK1
      rw [List.length_map] at hplace
      obtain ⟨r1, hr1, hm1, hz1⟩ := rv_at rs o.c.a (by omega)
      obtain ⟨r2, hr2, hm2, hz2⟩ := rv_at rs o.c.b (by omega)
      obtain ⟨hn1, hd1⟩ := hrs r1 hm1
      obtain ⟨hn2, hd2⟩ := hrs r2 hm2
      have hf1 := hfew r1.q (List.mem_map_of_mem hm1)
      have hf2 := hfew r2.q (List.mem_map_of_mem hm2)
      rw [opR_P, hz1, hz2] at hR
      rw [opR_P, hz1, hz2] at hK2
      rw [hz1] at hpow
      refine c_skip (then_c (c_seq (c_block (c_seq (c_region ?_)))))
      refine o_fieldAddr (T := 26) (off := 1) trivial rfl Tryz.underlying29 rfl rfl rfl Tryz.sizeOf26 rfl rfl ?_
      refine o_load1 trivial rfl Tryz.isAgg26 rfl (by repeat constructor) (by repeat constructor) ?_
      refine o_pv trivial rfl rfl ?_
      refine o_elem trivial rfl Tryz.underlying26 Tryz.sizeOf35 rfl ((ht.le hx1.le).so) rfl (by omega) ?_
      refine o_loadAI trivial rfl Tryz.isAgg35 Tryz.sizeOf35 rfl rfl (OpV.at_ (ht.le hx1.le) ho) ?_
      refine o_alloc trivial rfl Tryz.zeroValue35 rfl (fun b10 => ?_)
      refine o_store trivial rfl rfl rfl Tryz.sizeOf35 rfl (by first | rfl | (repeat' (first | exact rfl | exact one_nil | refine one_cons ?_ ?_ | exact (Ws.cells1 (by assumption)).2 | exact (Slc.cells1 (by assumption)).2))) (by repeat constructor) (by repeat constructor) ?_
      refine o_nil (then_c (c_seq ?_))
      refine h_beginB (m := 18) [.box b10 _, .row u 33 3 rs.length (rcs rs).flatten] (by repeat constructor) (by kernel_rfl) rfl ?_
      refine' h_take (i := 0) #[true, false, false, false, false, false, false, false, false, false, false, false, false, false, false, false, false, false] rfl rfl rfl (by kernel_rfl) (by kernel_rfl) (by kernel_rfl) rfl (qp_then (qp_blk (qp_then (qp_then (qp_blk (qp_then qp_bp)))))) (fun _ h => (h.sort (by repeat constructor)).fewer (Hp.Le.refl _)) ?hh0 ?kk0
      case hh0 =>
       refine o_loadA trivial rfl Tryz.isAgg35 Tryz.sizeOf35 rfl (by repeat constructor) (by repeat constructor) ?_
       refine o_nil ?_
       exact ⟨fun _ _ ha _ => ha⟩
      refine' h_take (i := 1) #[true, true, false, false, false, false, false, false, false, false, false, false, false, false, false, false, false, false] rfl rfl rfl (by kernel_rfl) (by kernel_rfl) (by kernel_rfl) rfl (qp_then (qp_blk (qp_then (qp_then (qp_blk (qp_then qp_bp)))))) (fun _ h => (h.sort (by repeat constructor)).fewer (Hp.Le.refl _)) ?hh1 ?kk1
      case hh1 =>
       refine o_pv trivial rfl rfl ?_
       refine o_nil ?_
       exact ⟨fun _ _ ha _ => ha⟩
      refine' h_take (i := 2) #[true, true, true, false, false, false, false, false, false, false, false, false, false, false, false, false, false, false] rfl rfl rfl (by kernel_rfl) (by kernel_rfl) (by kernel_rfl) rfl (qp_then (qp_blk (qp_then (qp_then (qp_blk (qp_then qp_bp)))))) (fun _ h => (h.sort (by repeat constructor)).fewer (Hp.Le.refl _)) ?hh2 ?kk2
      case hh2 =>
       refine o_fieldAddr (T := 3) (off := 1) trivial rfl Tryz.underlying35 rfl rfl rfl Tryz.sizeOf3 rfl rfl ?_
       refine o_nil ?_
       exact ⟨fun _ _ ha _ => ha⟩
      refine' h_take (i := 3) #[true, true, true, true, false, false, false, false, false, false, false, false, false, false, false, false, false, false] rfl rfl rfl (by kernel_rfl) (by kernel_rfl) (by kernel_rfl) rfl (qp_then (qp_blk (qp_then (qp_then (qp_blk (qp_then qp_bp)))))) (fun _ h => (h.sort (by repeat constructor)).fewer (Hp.Le.refl _)) ?hh3 ?kk3
      case hh3 =>
       refine o_load1 trivial rfl Tryz.isAgg3 rfl (by repeat constructor) (by repeat constructor) ?_
       refine o_nil ?_
       exact ⟨fun _ _ ha _ => ha⟩
      refine' h_take (i := 4) #[true, true, true, true, true, false, false, false, false, false, false, false, false, false, false, false, false, false] rfl rfl rfl (by kernel_rfl) (by kernel_rfl) (by kernel_rfl) rfl (qp_then (qp_blk (qp_then (qp_then (qp_blk (qp_then qp_bp)))))) (fun _ h => (h.sort (by repeat constructor)).fewer (Hp.Le.refl _)) ?hh4 ?kk4
      case hh4 =>
       refine o_elemRow trivial rfl Tryz.underlying37 Tryz.sizeOf33 rfl (by repeat constructor) rfl (by omega) ?_
       refine o_nil ?_
       exact ⟨fun _ _ ha _ => ha⟩
      refine' h_take (i := 5) #[true, true, true, true, true, true, false, false, false, false, false, false, false, false, false, false, false, false] rfl rfl rfl (by kernel_rfl) (by kernel_rfl) (by kernel_rfl) rfl (qp_then (qp_blk (qp_then (qp_then (qp_blk (qp_then qp_bp)))))) (fun _ h => (h.sort (by repeat constructor)).fewer (Hp.Le.refl _)) ?hh5 ?kk5
      case hh5 =>
       refine o_loadRowA trivial rfl Tryz.isAgg33 Tryz.sizeOf33 (by repeat constructor) rfl rfl (rcs_at hr1) ?_
       refine o_nil ?_
       exact ⟨fun _ _ ha _ => ha⟩
      refine' h_take (i := 6) #[true, true, true, true, true, true, true, false, false, false, false, false, false, false, false, false, false, false] rfl rfl rfl (by kernel_rfl) (by kernel_rfl) (by kernel_rfl) rfl (qp_then (qp_blk (qp_then (qp_then (qp_blk (qp_then qp_bp)))))) (fun _ h => (h.sort (by repeat constructor)).fewer (Hp.Le.refl _)) ?hh6 ?kk6
      case hh6 =>
       refine o_pv trivial rfl rfl ?_
       refine o_nil ?_
       exact ⟨fun _ _ ha _ => ha⟩
      refine' h_take (i := 7) #[true, true, true, true, true, true, true, true, false, false, false, false, false, false, false, false, false, false] rfl rfl rfl (by kernel_rfl) (by kernel_rfl) (by kernel_rfl) rfl (qp_then (qp_blk (qp_then (qp_then (qp_blk (qp_then qp_bp)))))) (fun _ h => (h.sort (by repeat constructor)).fewer (Hp.Le.refl _)) ?hh7 ?kk7
      case hh7 =>
       refine o_fieldAddr (T := 3) (off := 2) trivial rfl Tryz.underlying35 rfl rfl rfl Tryz.sizeOf3 rfl rfl ?_
       refine o_nil ?_
       exact ⟨fun _ _ ha _ => ha⟩
      refine' h_take (i := 8) #[true, true, true, true, true, true, true, true, true, false, false, false, false, false, false, false, false, false] rfl rfl rfl (by kernel_rfl) (by kernel_rfl) (by kernel_rfl) rfl (qp_then (qp_blk (qp_then (qp_then (qp_blk (qp_then qp_bp)))))) (fun _ h => (h.sort (by repeat constructor)).fewer (Hp.Le.refl _)) ?hh8 ?kk8
      case hh8 =>
       refine o_load1 trivial rfl Tryz.isAgg3 rfl (by repeat constructor) (by repeat constructor) ?_
       refine o_nil ?_
       exact ⟨fun _ _ ha _ => ha⟩
      refine' h_take (i := 9) #[true, true, true, true, true, true, true, true, true, true, false, false, false, false, false, false, false, false] rfl rfl rfl (by kernel_rfl) (by kernel_rfl) (by kernel_rfl) rfl (qp_then (qp_blk (qp_then (qp_then (qp_blk (qp_then qp_bp)))))) (fun _ h => (h.sort (by repeat constructor)).fewer (Hp.Le.refl _)) ?hh9 ?kk9
      case hh9 =>
       refine o_elemRow trivial rfl Tryz.underlying37 Tryz.sizeOf33 rfl (by repeat constructor) rfl (by omega) ?_
       refine o_nil ?_
       exact ⟨fun _ _ ha _ => ha⟩
      refine' h_take (i := 10) #[true, true, true, true, true, true, true, true, true, true, true, false, false, false, false, false, false, false] rfl rfl rfl (by kernel_rfl) (by kernel_rfl) (by kernel_rfl) rfl (qp_then (qp_blk (qp_then (qp_then (qp_blk (qp_then qp_bp)))))) (fun _ h => (h.sort (by repeat constructor)).fewer (Hp.Le.refl _)) ?hh10 ?kk10
      case hh10 =>
       refine o_loadRowA trivial rfl Tryz.isAgg33 Tryz.sizeOf33 (by repeat constructor) rfl rfl (rcs_at hr2) ?_
       refine o_nil ?_
       exact ⟨fun _ _ ha _ => ha⟩
      refine h_go [11, 15] (by kernel_rfl) rfl (TWHs.cons ?_ (TWHs.cons ?_ TWHs.nil))
      ·
       refine h_op #[true, true, true, true, true, true, true, true, true, true, true, true, false, false, false, false, false, false] rfl rfl ?_
       refine o_callI trivial rfl Tryz.call34 rfl (op15_any o.c.code o.c.a o.c.b o.c.e o.c.neg o.vn o.vd _ _ _ _ o.c.n o.c.d r1.q r2.q hvn hvd hn1 hd1 hn2 hd2 hf1 hf2 hpow hlits.1 hlits.2) ?_
       rintro _ I2 hx2 ⟨s3, u3, u4, X3, X4, rfl, k3, k4, k5⟩
       refine o_nil ?_
       refine h_next (fun _ h => (h.sort (by repeat constructor)).fewer (hx2.le)) ?_
       refine' h_take (i := 12) #[true, true, true, true, true, true, true, true, true, true, true, true, true, false, false, false, false, false] rfl rfl rfl (by kernel_rfl) (by kernel_rfl) (by kernel_rfl) rfl (qp_then (qp_blk (qp_then (qp_then (qp_blk (qp_then qp_bp)))))) (fun _ h => (h.sort (by repeat constructor)).fewer (hx2.le)) ?hh11 ?kk11
       case hh11 =>
        refine o_pv trivial rfl rfl ?_
        refine o_nil ?_
        exact ⟨fun _ _ ha _ => ha⟩
       refine' h_take (i := 13) #[true, true, true, true, true, true, true, true, true, true, true, true, true, true, false, false, false, false] rfl rfl rfl (by kernel_rfl) (by kernel_rfl) (by kernel_rfl) rfl (qp_then (qp_blk (qp_then (qp_then (qp_blk (qp_then qp_bp)))))) (fun _ h => (h.sort (by repeat constructor)).fewer (hx2.le)) ?hh12 ?kk12
       case hh12 =>
        refine o_pv trivial rfl rfl ?_
        refine o_nil ?_
        exact ⟨fun _ _ ha _ => ha⟩
       refine' h_take (i := 14) #[true, true, true, true, true, true, true, true, true, true, true, true, true, true, true, false, false, false] rfl rfl rfl (by kernel_rfl) (by kernel_rfl) (by kernel_rfl) rfl (qp_then (qp_blk (qp_then (qp_then (qp_blk (qp_then qp_bp)))))) (fun _ h => (h.sort (by repeat constructor)).fewer (hx2.le)) ?hh13 ?kk13
       case hh13 =>
        refine o_pv trivial rfl rfl ?_
        refine o_nil ?_
        exact ⟨fun _ _ ha _ => ha⟩
       refine h_go [15] (by kernel_rfl) rfl (TWHs.cons ?_ TWHs.nil)
       refine h_op #[true, true, true, true, true, true, true, true, true, true, true, true, true, true, true, true, false, false] rfl rfl ?_
       refine o_alloc trivial rfl Tryz.zeroValue33 rfl (fun b11 => ?_)
       refine o_nil ?_
       refine h_next (fun _ h => (h.sort (by repeat constructor)).fewer (hx2.le)) ?_
       refine h_go [16] (by kernel_rfl) rfl (TWHs.cons ?_ TWHs.nil)
       refine h_op #[true, true, true, true, true, true, true, true, true, true, true, true, true, true, true, true, true, false] rfl rfl ?_
       refine o_store trivial rfl rfl rfl Tryz.sizeOf33 rfl (by first | rfl | (repeat' (first | exact rfl | exact one_nil | refine one_cons ?_ ?_ | exact (Ws.cells1 (by assumption)).2 | exact (Slc.cells1 (by assumption)).2))) (by repeat constructor) (by repeat constructor) ?_
       refine o_nil ?_
       refine h_next (fun _ h => (h.sort (by repeat constructor)).fewer (hx2.le)) ?_
       refine' h_take (i := 17) #[true, true, true, true, true, true, true, true, true, true, true, true, true, true, true, true, true, true] rfl rfl rfl (by kernel_rfl) (by kernel_rfl) (by kernel_rfl) rfl (qp_then (qp_blk (qp_then (qp_then (qp_blk (qp_then qp_bp)))))) (fun _ h => (h.sort (by repeat constructor)).fewer (hx2.le)) ?hh14 ?kk14
       case hh14 =>
        refine o_pv trivial rfl rfl ?_
        refine o_nil ?_
        exact ⟨fun _ _ ha _ => ha⟩
       refine h_end (by kernel_rfl) ?_
       refine then_c (c_seq (c_seq (c_region ?_)))
       iterate 2 refine o_pv trivial rfl rfl ?_
       refine o_nil (then_c ?_)
       refine c_cond rfl (fun h5 => ?_) (fun h5 => ?_)
       ·
        have f5 := h5
        try simp only [bl] at f5
        have hno : opP ⟨o.c.code, o.c.a, o.c.b, o.c.e, o.c.neg, o.c.n, o.c.d⟩ r1.q r2.q = none := by
          cases hc : opP ⟨o.c.code, o.c.a, o.c.b, o.c.e, o.c.neg, o.c.n, o.c.d⟩ r1.q r2.q with
          | none => rfl
          | some q => rw [hc] at f5; exact absurd rfl f5
        have hno' : opP o.c r1.q r2.q = none := hno
        rw [hno'] at hR
        refine c_seq (c_region ?_)
        iterate 3 refine o_pv trivial rfl rfl ?_
        refine o_nil (then_c (c_ret (then_r (blk_r (then_r (then_r (blk_r (then_r ?_))))))))
        refine ret2 rfl rfl rfl ?_
        refine leaf (hx1.trans hx2 (Nat.le_refl _)) (List.nil_sublist _) ?_
        rw [e, hR, hno]; exact exR_err _
       ·
        have f5 := h5
        try simp only [bl] at f5
        obtain ⟨q, hq⟩ : ∃ q, opP ⟨o.c.code, o.c.a, o.c.b, o.c.e, o.c.neg, o.c.n, o.c.d⟩ r1.q r2.q = some q := by
          cases hc : opP ⟨o.c.code, o.c.a, o.c.b, o.c.e, o.c.neg, o.c.n, o.c.d⟩ r1.q r2.q with
          | none => rw [hc] at f5; exact absurd f5 (by decide)
          | some q => exact ⟨q, rfl⟩
        obtain ⟨rfl, rfl, rfl⟩ := k5 q hq
        have hq' : opP o.c r1.q r2.q = some q := hq
        rw [hq'] at hR
        have hK3 := hK2 q hq'
        refine c_skip (then_c (c_region ?_))
        refine o_pv trivial rfl rfl ?_
        refine o_loadA trivial rfl Tryz.isAgg33 Tryz.sizeOf33 rfl (by repeat constructor) (by repeat constructor) ?_
        refine o_buildSl trivial rfl Tryz.underlying37 Tryz.sizeOf33 Tryz.zeroValue33 (by decide) (by decide) rfl (by repeat first | exact rfl | constructor) rfl (fun b68 => ?_)
        refine o_appendBox trivial rfl Tryz.underlying37 (elem33) (by decide) rfl rfl (fun v' => (by repeat constructor)) (by repeat constructor) rfl (by exact three_plain k3 k4) (by first | omega | (unfold maxLen; omega)) (by omega) (fun v69 => ?_)
        refine o_pv trivial rfl rfl ?_
        refine o_nil (blk_n (then_c (c_region ?_)))
        refine o_pv trivial rfl rfl ?_
        first | (refine o_add trivial rfl rfl rfl ?_ ?_; (omega)) | refine o_pv trivial rfl rfl ?_
        refine o_pv trivial rfl rfl ?_
        refine o_nil ?_
        exact again (i + 1, rs ++ [⟨q, u3, u4⟩], v69, I2) (sub_cons rfl (sub_cons rfl (sub_cons rfl sub_nil))) (fun _ h => by rw [← rcs_more, List.length_append]; exact h.sort (by repeat constructor)) (by show t.ops.length - (i + 1) < t.ops.length - i; omega) ⟨by show i + 1 ≤ _; omega, by show (rs ++ [_]).length = _; rw [List.length_append, List.length_singleton]; omega, fun r hr => by
          rcases List.mem_append.1 hr with hr | hr
          · exact (hrs r hr).le hx2.le
          · rw [List.mem_singleton.1 hr]; exact ⟨k3, k4⟩, by show _ = opsR _ ((rs ++ [_]).map RV.q); rw [List.map_append]; exact hR, by show OpsOKr _ ((rs ++ [_]).map RV.q); rw [List.map_append]; exact hK3, hx1.trans hx2 (Nat.le_refl _)⟩
      ·
       refine h_op #[true, true, true, true, true, true, true, true, true, true, true, false, false, false, false, true, false, false] rfl rfl ?_
       refine o_alloc trivial rfl Tryz.zeroValue33 rfl (fun b11 => ?_)
       refine o_nil ?_
       refine h_next (fun _ h => (h.sort (by repeat constructor)).fewer (Hp.Le.refl _)) ?_
       refine h_go [11] (by kernel_rfl) rfl (TWHs.cons ?_ TWHs.nil)
       refine h_op #[true, true, true, true, true, true, true, true, true, true, true, true, false, false, false, true, false, false] rfl rfl ?_
       refine o_callI trivial rfl Tryz.call34 rfl (op15_any o.c.code o.c.a o.c.b o.c.e o.c.neg o.vn o.vd _ _ _ _ o.c.n o.c.d r1.q r2.q hvn hvd hn1 hd1 hn2 hd2 hf1 hf2 hpow hlits.1 hlits.2) ?_
       rintro _ I2 hx2 ⟨s3, u3, u4, X3, X4, rfl, k3, k4, k5⟩
       refine o_nil ?_
       refine h_next (fun _ h => (h.sort (by repeat constructor)).fewer (hx2.le)) ?_
       refine' h_take (i := 12) #[true, true, true, true, true, true, true, true, true, true, true, true, true, false, false, true, false, false] rfl rfl rfl (by kernel_rfl) (by kernel_rfl) (by kernel_rfl) rfl (qp_then (qp_blk (qp_then (qp_then (qp_blk (qp_then qp_bp)))))) (fun _ h => (h.sort (by repeat constructor)).fewer (hx2.le)) ?hh15 ?kk15
       case hh15 =>
        refine o_pv trivial rfl rfl ?_
        refine o_nil ?_
        exact ⟨fun _ _ ha _ => ha⟩
       refine' h_take (i := 13) #[true, true, true, true, true, true, true, true, true, true, true, true, true, true, false, true, false, false] rfl rfl rfl (by kernel_rfl) (by kernel_rfl) (by kernel_rfl) rfl (qp_then (qp_blk (qp_then (qp_then (qp_blk (qp_then qp_bp)))))) (fun _ h => (h.sort (by repeat constructor)).fewer (hx2.le)) ?hh16 ?kk16
       case hh16 =>
        refine o_pv trivial rfl rfl ?_
        refine o_nil ?_
        exact ⟨fun _ _ ha _ => ha⟩
       refine' h_take (i := 14) #[true, true, true, true, true, true, true, true, true, true, true, true, true, true, true, true, false, false] rfl rfl rfl (by kernel_rfl) (by kernel_rfl) (by kernel_rfl) rfl (qp_then (qp_blk (qp_then (qp_then (qp_blk (qp_then qp_bp)))))) (fun _ h => (h.sort (by repeat constructor)).fewer (hx2.le)) ?hh17 ?kk17
       case hh17 =>
        refine o_pv trivial rfl rfl ?_
        refine o_nil ?_
        exact ⟨fun _ _ ha _ => ha⟩
       refine h_go [16] (by kernel_rfl) rfl (TWHs.cons ?_ TWHs.nil)
       refine h_op #[true, true, true, true, true, true, true, true, true, true, true, true, true, true, true, true, true, false] rfl rfl ?_
       refine o_store trivial rfl rfl rfl Tryz.sizeOf33 rfl (by first | rfl | (repeat' (first | exact rfl | exact one_nil | refine one_cons ?_ ?_ | exact (Ws.cells1 (by assumption)).2 | exact (Slc.cells1 (by assumption)).2))) (by repeat constructor) (by repeat constructor) ?_
       refine o_nil ?_
       refine h_next (fun _ h => (h.sort (by repeat constructor)).fewer (hx2.le)) ?_
       refine' h_take (i := 17) #[true, true, true, true, true, true, true, true, true, true, true, true, true, true, true, true, true, true] rfl rfl rfl (by kernel_rfl) (by kernel_rfl) (by kernel_rfl) rfl (qp_then (qp_blk (qp_then (qp_then (qp_blk (qp_then qp_bp)))))) (fun _ h => (h.sort (by repeat constructor)).fewer (hx2.le)) ?hh18 ?kk18
       case hh18 =>
        refine o_pv trivial rfl rfl ?_
        refine o_nil ?_
        exact ⟨fun _ _ ha _ => ha⟩
       refine h_end (by kernel_rfl) ?_
       refine then_c (c_seq (c_seq (c_region ?_)))
       iterate 2 refine o_pv trivial rfl rfl ?_
       refine o_nil (then_c ?_)
       refine c_cond rfl (fun h5 => ?_) (fun h5 => ?_)
       ·
        have f5 := h5
        try simp only [bl] at f5
        have hno : opP ⟨o.c.code, o.c.a, o.c.b, o.c.e, o.c.neg, o.c.n, o.c.d⟩ r1.q r2.q = none := by
          cases hc : opP ⟨o.c.code, o.c.a, o.c.b, o.c.e, o.c.neg, o.c.n, o.c.d⟩ r1.q r2.q with
          | none => rfl
          | some q => rw [hc] at f5; exact absurd rfl f5
        have hno' : opP o.c r1.q r2.q = none := hno
        rw [hno'] at hR
        refine c_seq (c_region ?_)
        iterate 3 refine o_pv trivial rfl rfl ?_
        refine o_nil (then_c (c_ret (then_r (blk_r (then_r (then_r (blk_r (then_r ?_))))))))
        refine ret2 rfl rfl rfl ?_
        refine leaf (hx1.trans hx2 (Nat.le_refl _)) (List.nil_sublist _) ?_
        rw [e, hR, hno]; exact exR_err _
       ·
        have f5 := h5
        try simp only [bl] at f5
        obtain ⟨q, hq⟩ : ∃ q, opP ⟨o.c.code, o.c.a, o.c.b, o.c.e, o.c.neg, o.c.n, o.c.d⟩ r1.q r2.q = some q := by
          cases hc : opP ⟨o.c.code, o.c.a, o.c.b, o.c.e, o.c.neg, o.c.n, o.c.d⟩ r1.q r2.q with
          | none => rw [hc] at f5; exact absurd f5 (by decide)
          | some q => exact ⟨q, rfl⟩
        obtain ⟨rfl, rfl, rfl⟩ := k5 q hq
        have hq' : opP o.c r1.q r2.q = some q := hq
        rw [hq'] at hR
        have hK3 := hK2 q hq'
        refine c_skip (then_c (c_region ?_))
        refine o_pv trivial rfl rfl ?_
        refine o_loadA trivial rfl Tryz.isAgg33 Tryz.sizeOf33 rfl (by repeat constructor) (by repeat constructor) ?_
        refine o_buildSl trivial rfl Tryz.underlying37 Tryz.sizeOf33 Tryz.zeroValue33 (by decide) (by decide) rfl (by repeat first | exact rfl | constructor) rfl (fun b68 => ?_)
        refine o_appendBox trivial rfl Tryz.underlying37 (elem33) (by decide) rfl rfl (fun v' => (by repeat constructor)) (by repeat constructor) rfl (by exact three_plain k3 k4) (by first | omega | (unfold maxLen; omega)) (by omega) (fun v69 => ?_)
        refine o_pv trivial rfl rfl ?_
        refine o_nil (blk_n (then_c (c_region ?_)))
        refine o_pv trivial rfl rfl ?_
        first | (refine o_add trivial rfl rfl rfl ?_ ?_; (omega)) | refine o_pv trivial rfl rfl ?_
        refine o_pv trivial rfl rfl ?_
        refine o_nil ?_
        exact again (i + 1, rs ++ [⟨q, u3, u4⟩], v69, I2) (sub_cons rfl (sub_cons rfl (sub_cons rfl sub_nil))) (fun _ h => by rw [← rcs_more, List.length_append]; exact h.sort (by repeat constructor)) (by show t.ops.length - (i + 1) < t.ops.length - i; omega) ⟨by show i + 1 ≤ _; omega, by show (rs ++ [_]).length = _; rw [List.length_append, List.length_singleton]; omega, fun r hr => by
          rcases List.mem_append.1 hr with hr | hr
          · exact (hrs r hr).le hx2.le
          · rw [List.mem_singleton.1 hr]; exact ⟨k3, k4⟩, by show _ = opsR _ ((rs ++ [_]).map RV.q); rw [List.map_append]; exact hR, by show OpsOKr _ ((rs ++ [_]).map RV.q); rw [List.map_append]; exact hK3, hx1.trans hx2 (Nat.le_refl _)⟩
     ·
      have f4 := h4
      try simp only [bl] at f4
      refine c_exit (then_x (then_x (blk_eq rfl (then_c (c_seq (c_region ?_))))))
      iterate 3 refine o_pv trivial rfl rfl ?_
      refine o_nil (then_c (c_ret ?_))
      refine ret2 rfl rfl rfl ?_
      have hio : i = t.ops.length := by omega
      subst hio
      rw [List.drop_length] at hR
      rw [e, hR]
      exact leafRowX hx1 (rcs_len rs) (rcs_three rs) (by have := p2; have := p5; unfold maxLen; omega) (fun I' hl hs => ⟨u, rfl, fun l' h' => (by cases h'; exact ⟨rs, hs, fun r hr => (hrs r hr).le hl, rfl⟩), fun h' => absurd rfl h'⟩)
theorem outs15_any (t : TapeC) (vo vu vx : Value) (os : List OpV) (xs : List NV) {I : Hp} (ht : TapeV I vo vu t os) (hpt : PtV I vx xs) (hk : EvOKr t xs) :
    Fun Tryz.prog 17 [.agg #[.int .i64 t.ins, vo, vu], vx] I [] (fun v I' _ => exR (outsZ t xs) v I') := by
  have hsu := ht.su
  have hul := ics_len t.outs
  intro w hw
  refine enter2 _ Tryz.func17 rfl Tryz.ntmps17 rfl ?_ hw
  refine c_seq (c_region ?_)
  refine o_box trivial rfl rfl rfl (fun b2 => ?_)
  iterate 2 refine o_pv trivial rfl rfl ?_
  refine o_nil (then_c (c_seq (c_region ?_)))
  refine o_loadA trivial rfl Tryz.isAgg29 Tryz.sizeOf29 rfl (by repeat constructor) (by repeat constructor) ?_
  refine o_pv trivial rfl rfl ?_
  refine o_callI trivial rfl Tryz.call16 rfl (eval15_any t vo vu vx os xs ht hpt hk) ?_
  rintro _ I1 hx1 ⟨ue, rfl, hr1, hr2⟩
  iterate 5 refine o_pv trivial rfl rfl ?_
  refine o_nil (then_c (c_seq (c_seq (c_region ?_))))
  iterate 2 refine o_pv trivial rfl rfl ?_
  refine o_nil (then_c ?_)
  refine c_cond rfl (fun h1 => ?_) (fun h1 => ?_)
  ·
   have f1 := h1
   try simp only [bl] at f1
   have e1 : ∃ e, evalZ t xs = .error e := by
     cases hc : evalZ t xs with
     | ok l => rw [hc] at f1; exact absurd rfl f1
     | error e => exact ⟨e, rfl⟩
   obtain ⟨e, he⟩ := e1
   have e2 : outsZ t xs = .error e := by unfold outsZ; rw [he]
   refine c_seq (c_region ?_)
   iterate 3 refine o_pv trivial rfl rfl ?_
   refine o_nil (then_c (c_ret (then_r ?_)))
   refine ret2 rfl rfl rfl ?_
   refine leaf hx1 (List.nil_sublist _) ?_
   rw [e2, he]; exact exR_err e
  ·
   have f1 := h1
   try simp only [bl] at f1
   obtain ⟨l, hl⟩ := errOf_zero f1
   obtain ⟨rs, hs1, hs2, hs3⟩ := (hr1 l hl).out
   obtain ⟨ho1, ho2⟩ := evalZ_outs hl
   have hrl : rs.length = l.length := by rw [← hs3, List.length_map]
   have hcl := rcs_len rs
   have e2 : outsZ t xs = .ok (t.outs.map (zth l)) := by unfold outsZ; rw [hl]
   refine c_skip (then_c (c_seq (c_region ?_)))
   refine o_pv trivial rfl rfl ?_
   refine o_nil (then_c (c_seq (c_seq (c_region ?_))))
   refine o_pv trivial rfl rfl ?_
   refine o_nil (then_c (c_block ?_))
   refine c_loop (ι := Nat × List RV × Value) [2, 6] (.cons rfl (.cons rfl .nil)) (fun x => t.outs.length - x.1) (fun x E0 => (8, x.2.2) :: (9, .int .i64 (x.1 : Nat)) :: E0) (fun x => St w [] I1 [.row x.2.2 33 3 x.2.1.length (rcs x.2.1).flatten, .box b2 (.cells ([.int .i64 t.ins, vo, vu] : List Value).toArray 29 (0, 0))]) (fun x => x.1 ≤ t.outs.length ∧ x.2.1.length = x.1 ∧ (∀ r ∈ x.2.1, r.ok I1) ∧ x.2.1.map RV.q = (t.outs.map (zth l)).take x.1) ((0, [], .slice none 0 0)) (sub_cons rfl (sub_cons rfl (sub_cons rfl (sub_cons rfl sub_nil)))) (fun _ h => (h.nilRow 33 3).sort (by repeat constructor)) (⟨Nat.zero_le _, rfl, fun r hr => (by cases hr), rfl⟩) ?_
   rintro ⟨i, qs, u⟩ ⟨hi, hqi, hqs, hq2⟩
   try dsimp only
   simp only at hi hqi hqs hq2
   refine c_seq (c_seq (c_region ?_))
   refine o_pv trivial rfl rfl ?_
   refine o_fieldAddr (T := 27) (off := 2) trivial rfl Tryz.underlying29 rfl rfl rfl Tryz.sizeOf27 rfl rfl ?_
   refine o_load1 trivial rfl Tryz.isAgg27 rfl (by repeat constructor) (by repeat constructor) ?_
   refine o_lenSlc trivial rfl Tryz.underlying27 rfl (hsu) ?_
   refine o_pv trivial rfl rfl ?_
   refine o_nil (then_c ?_)
   refine c_cond rfl (fun h2 => ?_) (fun h2 => ?_)
   ·
    have f2 := h2
    try simp only [bl] at f2
    have hio : i < t.outs.length := by omega
    obtain ⟨z, hz⟩ : ∃ z, t.outs[i]? = some z := ⟨t.outs[i], List.getElem?_eq_getElem hio⟩
    have hzr := ho2 z (List.mem_of_getElem? hz)
    obtain ⟨r, hr, hrm, hrz⟩ := rv_at rs z (by omega)
    rw [hs3] at hrz
    obtain ⟨hrn, hrd⟩ := hs2 r hrm
    refine c_skip (then_c (c_seq (c_block (c_region ?_))))
    iterate 2 refine o_pv trivial rfl rfl ?_
    refine o_fieldAddr (T := 27) (off := 2) trivial rfl Tryz.underlying29 rfl rfl rfl Tryz.sizeOf27 rfl rfl ?_
    refine o_load1 trivial rfl Tryz.isAgg27 rfl (by repeat constructor) (by repeat constructor) ?_
    refine o_pv trivial rfl rfl ?_
    refine o_elem trivial rfl Tryz.underlying27 Tryz.sizeOf3 rfl (hsu) rfl (by omega) ?_
    refine o_load1I trivial rfl Tryz.isAgg3 rfl (ics_at (hsu.le hx1.le) hz) ?_
    refine o_elem trivial rfl Tryz.underlying37 Tryz.sizeOf33 rfl (hs1) rfl (by omega) ?_
    refine o_loadAI trivial rfl Tryz.isAgg33 Tryz.sizeOf33 rfl rfl (RV.at_ hs1 hr) ?_
    refine o_buildSl trivial rfl Tryz.underlying37 Tryz.sizeOf33 Tryz.zeroValue33 (by decide) (by decide) rfl (by repeat first | exact rfl | constructor) rfl (fun b35 => ?_)
    refine o_appendBox trivial rfl Tryz.underlying37 (elem33) (by decide) rfl rfl (fun v' => (by repeat constructor)) (by repeat constructor) rfl (by exact three_plain hrn hrd) (by first | omega | (unfold maxLen; omega)) (by omega) (fun v36 => ?_)
    refine o_pv trivial rfl rfl ?_
    refine o_nil (blk_n (then_c (c_region ?_)))
    refine o_pv trivial rfl rfl ?_
    first | (refine o_add trivial rfl rfl rfl ?_ ?_; (omega)) | refine o_pv trivial rfl rfl ?_
    refine o_pv trivial rfl rfl ?_
    refine o_nil ?_
    have hq3 : (qs ++ [r]).map RV.q = (t.outs.map (zth l)).take (i + 1) := by
      rw [List.map_append, hq2, List.take_add_one, List.getElem?_map, hz]
      show _ ++ [r.q] = _ ++ [zth l z]
      rw [hrz]
    exact again (i + 1, qs ++ [r], v36) (sub_cons rfl (sub_cons rfl (sub_cons rfl (sub_cons rfl sub_nil)))) (fun _ h => by rw [← rcs_more, List.length_append]; exact h.sort (by repeat constructor)) (by show t.outs.length - (i + 1) < t.outs.length - i; omega) ⟨by show i + 1 ≤ _; omega, by show (qs ++ [_]).length = _; rw [List.length_append, hqi]; rfl, fun r' hr' => by
      rcases List.mem_append.1 hr' with hr' | hr'
      · exact hqs r' hr'
      · rw [List.mem_singleton.1 hr']; exact ⟨hrn, hrd⟩, hq3⟩
   ·
    have f2 := h2
    try simp only [bl] at f2
    refine c_exit (then_x (then_x (blk_eq rfl (then_c (c_seq (c_region ?_))))))
    iterate 3 refine o_pv trivial rfl rfl ?_
    refine o_nil (then_c (c_ret ?_))
    refine ret2 rfl rfl rfl ?_
    have hio : i = t.outs.length := by omega
    subst hio
    rw [← List.length_map (f := zth l), List.take_length] at hq2
    rw [e2]
    exact leafRowX hx1 (rcs_len qs) (rcs_three qs) (by unfold maxLen; omega) (fun I' hl hs => ⟨u, rfl, fun l' h' => (by cases h'; exact ⟨qs, hs, fun r hr => (hqs r hr).le hl, hq2⟩), fun h' => absurd rfl h'⟩)
end Go.Proofs.YtjgbjaaekknenaaGreat
/-
  How long a right tape's numbers are: by weights. No program stands here.
-/
namespace Go.Proofs.YtjgbjaaekknenaaGreat
open Go Go.Tw
set_option linter.unusedVariables false
set_option linter.unusedSimpArgs false
set_option linter.unnecessarySimpa false
set_option maxHeartbeats 1000000
/-- What a place of such a weight comes to. -/
structure BdQ (w : Nat) (q : Rat) : Prop where
  num : q.num.natAbs ≤ 2 ^ (134 * w - 1)
  den : q.den ≤ 2 ^ (134 * w - 1)
theorem lowQ_le (neg : Bool) (n d : Nat) : (lowQ neg n d).num.natAbs ≤ n ∧ (lowQ neg n d).den ≤ max 1 d := by
  by_cases h : d = 0 ∨ n = 0
  · rw [lowQ_zero h]
    exact ⟨Nat.zero_le _, Nat.le_max_left _ _⟩
  · obtain ⟨h1, h2, _⟩ := lowQ_parts (neg := neg) (fun e => h (.inr e) : n ≠ 0) (fun e => h (.inl e) : d ≠ 0)
    rw [h1, h2]
    exact ⟨Nat.div_le_self _ _, Nat.le_trans (Nat.div_le_self _ _) (Nat.le_max_right _ _)⟩
theorem one_le_two_pow (k : Nat) : 1 ≤ 2 ^ k := Nat.pow_pos (by decide)
theorem BdQ.le {w v : Nat} {q : Rat} (h : BdQ w q) (hv : w ≤ v) : BdQ v q :=
  ⟨Nat.le_trans h.num (Nat.pow_le_pow_right (by decide) (by omega)), Nat.le_trans h.den (Nat.pow_le_pow_right (by decide) (by omega))⟩
theorem BdQ.add {w v : Nat} {p q : Rat} (hp : BdQ w p) (hq : BdQ v q) (hw : 1 ≤ w) (hv : 1 ≤ v) : BdQ (w + v) (p + q) := by
  rw [← qadd_num p q]
  have e : 2 ^ (134 * (w + v) - 1) = 2 ^ (134 * w - 1) * 2 ^ (134 * v - 1) * 2 := by
    rw [← Nat.pow_add, ← Nat.pow_succ]; congr 1; omega
  have hd : p.den * q.den ≤ 2 ^ (134 * w - 1) * 2 ^ (134 * v - 1) := Nat.mul_le_mul hp.den hq.den
  have h1 : p.num.natAbs * q.den ≤ 2 ^ (134 * w - 1) * 2 ^ (134 * v - 1) := Nat.mul_le_mul hp.num hq.den
  have h2 : q.num.natAbs * p.den ≤ 2 ^ (134 * w - 1) * 2 ^ (134 * v - 1) := by rw [Nat.mul_comm]; exact Nat.mul_le_mul hp.den hq.num
  have hn : (p.num * (q.den : Int) + q.num * (p.den : Int)).natAbs ≤ p.num.natAbs * q.den + q.num.natAbs * p.den := by
    refine Nat.le_trans (Int.natAbs_add_le _ _) ?_
    rw [Int.natAbs_mul, Int.natAbs_mul, Int.natAbs_natCast, Int.natAbs_natCast]
    exact Nat.le_refl _
  obtain ⟨k1, k2⟩ := lowQ_le (decide (p.num * (q.den : Int) + q.num * (p.den : Int) < 0)) (p.num * (q.den : Int) + q.num * (p.den : Int)).natAbs (p.den * q.den)
  have hpos : 0 < p.den * q.den := Nat.mul_pos p.den_pos q.den_pos
  rw [Nat.max_eq_right hpos] at k2
  generalize 2 ^ (134 * w - 1) * 2 ^ (134 * v - 1) = M at *
  exact ⟨by rw [e]; omega, by rw [e]; omega⟩
theorem BdQ.mul {w v : Nat} {p q : Rat} (hp : BdQ w p) (hq : BdQ v q) (hw : 1 ≤ w) (hv : 1 ≤ v) : BdQ (w + v) (p * q) := by
  rw [← lowQ_mul p q]
  have e : 2 ^ (134 * (w + v) - 1) = 2 ^ (134 * w - 1) * 2 ^ (134 * v - 1) * 2 := by
    rw [← Nat.pow_add, ← Nat.pow_succ]; congr 1; omega
  have hd : p.den * q.den ≤ 2 ^ (134 * w - 1) * 2 ^ (134 * v - 1) := Nat.mul_le_mul hp.den hq.den
  have h1 : p.num.natAbs * q.num.natAbs ≤ 2 ^ (134 * w - 1) * 2 ^ (134 * v - 1) := Nat.mul_le_mul hp.num hq.num
  obtain ⟨k1, k2⟩ := lowQ_le (decide (p.num < 0) != decide (q.num < 0)) (p.num.natAbs * q.num.natAbs) (p.den * q.den)
  have hpos : 0 < p.den * q.den := Nat.mul_pos p.den_pos q.den_pos
  rw [Nat.max_eq_right hpos] at k2
  generalize 2 ^ (134 * w - 1) * 2 ^ (134 * v - 1) = M at *
  exact ⟨by rw [e]; omega, by rw [e]; omega⟩
theorem BdQ.neg {w : Nat} {q : Rat} (h : BdQ w q) : BdQ w (-q) := ⟨by rw [Rat.neg_num, Int.natAbs_neg]; exact h.num, by rw [Rat.neg_den]; exact h.den⟩
theorem BdQ.sub {w v : Nat} {p q : Rat} (hp : BdQ w p) (hq : BdQ v q) (hw : 1 ≤ w) (hv : 1 ≤ v) : BdQ (w + v) (p - q) := by
  rw [Rat.sub_eq_add_neg]; exact hp.add hq.neg hw hv
theorem BdQ.inv {w : Nat} {q : Rat} (h : BdQ w q) (h0 : q ≠ 0) : BdQ w q⁻¹ := ⟨by rw [inv_num_abs h0]; exact h.den, by rw [inv_den h0]; exact h.num⟩
theorem BdQ.div {w v : Nat} {p q : Rat} (hp : BdQ w p) (hq : BdQ v q) (hw : 1 ≤ w) (hv : 1 ≤ v) (h0 : q ≠ 0) : BdQ (w + v) (p / q) := by
  rw [Rat.div_def]; exact hp.mul (hq.inv h0) hw hv
theorem BdQ.npow {w n : Nat} {q : Rat} (h : BdQ w q) (hw : 1 ≤ w) : BdQ (w * max 1 n) (q ^ n) := by
  have e : (2 ^ (134 * w - 1)) ^ n ≤ 2 ^ (134 * (w * max 1 n) - 1) := by
    rw [← Nat.pow_mul]
    refine Nat.pow_le_pow_right (by decide) ?_
    by_cases hn : n = 0
    · subst hn; exact Nat.zero_le _
    · rw [Nat.max_eq_right (by omega : 1 ≤ n), Nat.sub_mul, ← Nat.mul_assoc]
      have : n ≤ 134 * w * n := Nat.le_mul_of_pos_left _ (by omega)
      omega
  refine ⟨?_, ?_⟩
  · rw [Rat.num_pow, Int.natAbs_pow]; exact Nat.le_trans (Nat.pow_le_pow_left h.num _) e
  · rw [Rat.den_pow]; exact Nat.le_trans (Nat.pow_le_pow_left h.den _) e
theorem BdQ.pow {w : Nat} {q : Rat} (e : Int) (h : BdQ w q) (hw : 1 ≤ w) (h0 : ¬ (e < 0 ∧ q = 0)) : BdQ (w * max 1 e.natAbs) (q ^ e) := by
  rw [← powX_pow]
  refine BdQ.npow ?_ hw
  unfold powX
  split
  · rename_i he; exact h.inv (fun e0 => h0 ⟨he, e0⟩)
  · exact h
theorem BdQ.low {neg : Bool} {n d : Nat} (hn : n ≤ 2 ^ 133) (hd : d ≤ 2 ^ 133) : BdQ 1 (lowQ neg n d) := by
  obtain ⟨k1, k2⟩ := lowQ_le neg n d
  have := one_le_two_pow 133
  exact ⟨Nat.le_trans k1 hn, Nat.le_trans k2 (Nat.max_le.2 ⟨this, hd⟩)⟩
theorem digs_lt : ∀ n : Nat, n < 10 ^ (digs n).length := by
  intro n
  induction n using Nat.strongRecOn with
  | ind n ih =>
    unfold digs
    by_cases h : n < 10
    · rw [dif_pos h]; show n < 10 ^ 1; omega
    · rw [dif_neg h, List.length_cons, Nat.pow_succ]
      have := ih (n / 10) (by omega)
      omega
theorem digs_small {n : Nat} (h : (digs n).length ≤ 40) : n ≤ 2 ^ 133 := by
  have h1 := digs_lt n
  have h2 : 10 ^ (digs n).length ≤ 10 ^ 40 := Nat.pow_le_pow_right (by decide) h
  have h3 : 10 ^ 40 ≤ 2 ^ 133 := by decide
  omega
theorem constOK_bd {neg : Bool} {A B : List Nat} (h : constOK neg A B = true) : BdQ 1 (lowQ neg (val A) (val B)) := by
  unfold constOK at h
  simp only [Bool.and_eq_true, decide_eq_true_eq] at h
  exact BdQ.low (digs_small h.1.2) (digs_small h.2)
/-- Words below a number of them. -/
theorem val_small {A : List Nat} (h : Wds A) {k : Nat} (hk : A.length ≤ k) (h4 : k ≤ 4) : val A ≤ 2 ^ 133 := by
  have h1 := val_lt h
  have h2 : 4294967296 ^ A.length ≤ 4294967296 ^ 4 := Nat.pow_le_pow_right (by decide) (by omega)
  have h3 : 4294967296 ^ 4 ≤ 2 ^ 133 := by decide
  omega
theorem NV.bd {I : Hp} {x : NV} (h : x.ok I) (h1 : x.n.length ≤ 4) (h2 : x.d.length ≤ 4) : BdQ 1 x.q := BdQ.low (val_small h.1.wds h1 (Nat.le_refl _)) (val_small h.2.wds h2 (Nat.le_refl _))
/-- Weights, and numbers they go with. -/
structure BdL (l : List Nat) (qs : List Rat) : Prop where
  len : l.length = qs.length
  bd : ∀ i, i < l.length → BdQ (l.getD i 0) (qs.getD i 0)
  one : ∀ x ∈ l, 1 ≤ x ∧ x ≤ 200
theorem BdL.add {l : List Nat} {qs : List Rat} {m : Nat} {q : Rat} (h : BdL l qs) (hq : BdQ m q) (hm : 1 ≤ m ∧ m ≤ 200) : BdL (l ++ [m]) (qs ++ [q]) := by
  refine ⟨by simp [h.len], fun i hi => ?_, fun x hx => ?_⟩
  · simp only [List.length_append, List.length_cons, List.length_nil] at hi
    simp only [List.getD_eq_getElem?_getD]
    by_cases hil : i < l.length
    · rw [List.getElem?_append_left hil, List.getElem?_append_left (by rw [← h.len]; exact hil)]
      have := h.bd i hil
      simpa only [List.getD_eq_getElem?_getD] using this
    · have hi' : i = l.length := by omega
      subst hi'
      rw [List.getElem?_append_right (Nat.le_refl _), List.getElem?_append_right (by rw [h.len]; exact Nat.le_refl _), Nat.sub_self, h.len, Nat.sub_self]
      exact hq
  · rcases List.mem_append.1 hx with hx | hx
    · exact h.one x hx
    · rw [List.mem_singleton.1 hx]; exact hm
theorem getD_mem {α : Type} {l : List α} {i : Nat} {d : α} (h : i < l.length) : l.getD i d ∈ l := by
  rw [List.getD_eq_getElem?_getD, List.getElem?_eq_getElem h]; exact List.getElem_mem h
theorem BdQ.few {w : Nat} {q : Rat} (h : BdQ w q) (hw : 1 ≤ w) : Few (5 * w) q := by
  have e : 2 ^ (134 * w - 1) < 4294967296 ^ (5 * w) := by
    rw [pow_bits]; exact Nat.pow_lt_pow_right (by decide) (by omega)
  exact ⟨Nat.lt_of_le_of_lt h.num e, Nat.lt_of_le_of_lt h.den e⟩
theorem BdL.at_ {l : List Nat} {qs : List Rat} (h : BdL l qs) {i : Int} (hi : 0 ≤ i ∧ i < l.length) : BdQ (l.getD i.toNat 0) (zth qs i) ∧ 1 ≤ l.getD i.toNat 0 ∧ l.getD i.toNat 0 ≤ 200 :=
  ⟨h.bd i.toNat (by omega), h.one _ (getD_mem (by omega))⟩
theorem BdL.few {l : List Nat} {qs : List Rat} (h : BdL l qs) : ∀ q ∈ qs, Few 1000 q := fun q hq => by
  obtain ⟨i, hi, rfl⟩ := List.getElem_of_mem hq
  have hb := h.bd i (by rw [h.len]; exact hi)
  have ho := h.one _ (getD_mem (d := 0) (by rw [h.len]; exact hi : i < l.length))
  rw [List.getD_eq_getElem?_getD (l := qs), List.getElem?_eq_getElem hi] at hb
  exact (hb.few ho.1).le (by omega)
theorem wgt_cases {o : OpC} {l : List Nat} {m : Nat} (h : wgt o l = some m) : (o.code = 1 ∧ m = 1) ∨ (o.code ≠ 1 ∧ (0 ≤ o.a ∧ o.a < l.length) ∧ (0 ≤ o.b ∧ o.b < l.length) ∧ m = wgtM o l ∧ m ≤ 200) := by
  unfold wgt at h
  split at h
  · rename_i h1; cases h; exact .inl ⟨h1, rfl⟩
  · rename_i h1
    split at h
    · cases h
    · rename_i h2
      split at h
      · rename_i h3; cases h; exact .inr ⟨h1, by omega, by omega, rfl, h3⟩
      · cases h
theorem fields_code {o : OpC} (h : fieldsOK o = true) : 1 ≤ o.code ∧ o.code ≤ 7 := by
  unfold fieldsOK at h
  repeat (first | (split at h; first | (cases h; done) | omega) | omega | (cases h; done))
theorem fields_const {o : OpC} (h : fieldsOK o = true) (h1 : o.code = 1) : constOK o.neg o.n o.d = true ∧ o.a = 0 ∧ o.b = 0 := by
  unfold fieldsOK at h
  rw [if_pos h1] at h
  simp only [Bool.and_eq_true, decide_eq_true_eq] at h
  exact ⟨h.1, h.2.1, h.2.2.1⟩
/-- What an op comes to is as heavy as the op. -/
theorem op_bd {o : OpC} {l : List Nat} {m : Nat} {qs : List Rat} {q : Rat} (hf : fieldsOK o = true) (hw : wgt o l = some m) (hb : BdL l qs) (hq : opR o qs = some q) : BdQ m q ∧ 1 ≤ m ∧ m ≤ 200 := by
  have hc := fields_code hf
  rcases wgt_cases hw with ⟨h1, rfl⟩ | ⟨h1, ha, hb', hm, hm2⟩
  · refine ⟨?_, by omega, by omega⟩
    unfold opR at hq
    rw [if_neg (by omega), if_neg (by omega), if_neg (by omega), if_neg (by omega), if_neg (by omega), if_neg (by omega)] at hq
    cases hq
    exact constOK_bd (fields_const hf h1).1
  · obtain ⟨a1, a2, a3⟩ := hb.at_ ha
    obtain ⟨b1, b2, b3⟩ := hb.at_ hb'
    have hmx : 1 ≤ max 1 o.e.natAbs := Nat.le_max_left _ _
    have hmul : l.getD o.a.toNat 0 ≤ l.getD o.a.toNat 0 * max 1 o.e.natAbs := Nat.le_mul_of_pos_right _ (by omega)
    unfold wgtM at hm
    unfold opR at hq
    by_cases h2 : o.code = 2
    · rw [if_pos h2] at hq; cases hq
      rw [if_pos (by omega)] at hm; subst hm
      exact ⟨a1.add b1 a2 b2, by omega, hm2⟩
    rw [if_neg h2] at hq
    by_cases h3 : o.code = 3
    · rw [if_pos h3] at hq; cases hq
      rw [if_pos (by omega)] at hm; subst hm
      exact ⟨a1.sub b1 a2 b2, by omega, hm2⟩
    rw [if_neg h3] at hq
    by_cases h4 : o.code = 4
    · rw [if_pos h4] at hq; cases hq
      rw [if_pos (by omega)] at hm; subst hm
      exact ⟨a1.mul b1 a2 b2, by omega, hm2⟩
    rw [if_neg h4] at hq
    by_cases h5 : o.code = 5
    · rw [if_pos h5] at hq
      rw [if_pos (by omega)] at hm; subst hm
      split at hq
      · cases hq
      · rename_i h0; cases hq
        exact ⟨a1.div b1 a2 b2 h0, by omega, hm2⟩
    rw [if_neg h5] at hq
    rw [if_neg (by omega)] at hm
    by_cases h6 : o.code = 6
    · rw [if_pos h6] at hq; cases hq
      rw [if_neg (by omega)] at hm; subst hm
      exact ⟨a1.neg, a2, a3⟩
    rw [if_neg h6] at hq
    have h7 : o.code = 7 := by omega
    rw [if_pos h7] at hq hm
    split at hq
    · cases hq
    · rename_i h0; cases hq; subst hm
      exact ⟨a1.pow _ a2 h0, by omega, hm2⟩
/-- A right tape's numbers are never too long. -/
theorem ops_bd : ∀ {ops : List OpC} {l r : List Nat} {qs : List Rat}, wgts ops l = some r → BdL l qs → 0 < l.length → (∀ o ∈ ops, OpC.few 3000 o) → OpsOKr ops qs ∧ ∀ qr, opsR ops qs = some qr → BdL r qr
  | [], l, r, qs, h, hb, _, _ => by cases h; exact ⟨trivial, fun qr hq => by cases hq; exact hb⟩
  | o :: ops, l, r, qs, h, hb, hl, hf => by
    unfold wgts at h
    split at h
    · rename_i hfo
      split at h
      · rename_i m hm
        have key : ∀ q, opR o qs = some q → OpsOKr ops (qs ++ [q]) ∧ ∀ qr, opsR ops (qs ++ [q]) = some qr → BdL r qr := fun q hq => by
          obtain ⟨k1, k2⟩ := op_bd hfo hm hb hq
          exact ops_bd h (hb.add k1 k2) (by simp) (fun x hx => hf x (List.mem_cons_of_mem _ hx))
        refine ⟨⟨⟨?_, fun q hq => (hb.few q hq).le (by decide), fun h7 => ?_, hf o List.mem_cons_self⟩, fun q hq => (key q hq).1⟩, fun qr hqr => ?_⟩
        · rw [← hb.len]
          rcases wgt_cases hm with ⟨h1, _⟩ | ⟨_, ha, hb', _⟩
          · obtain ⟨_, h2, h3⟩ := fields_const hfo h1
            omega
          · omega
        · rcases wgt_cases hm with ⟨h1, _⟩ | ⟨_, ha, hb', hmm, hm2⟩
          · omega
          · obtain ⟨a1, a2, a3⟩ := hb.at_ ha
            have he := fields_exp hfo h7
            unfold wgtM at hmm
            rw [if_neg (by omega), if_pos h7] at hmm
            have h3 : l.getD o.a.toNat 0 * o.e.natAbs ≤ l.getD o.a.toNat 0 * max 1 o.e.natAbs := Nat.mul_le_mul_left _ (Nat.le_max_right _ _)
            refine ⟨5 * l.getD o.a.toNat 0, a1.few a2, by omega, ?_, by omega, by omega⟩
            rw [Nat.mul_assoc]; omega
        · unfold opsR at hqr
          split at hqr
          · rename_i q hq; exact (key q hq).2 qr hqr
          · cases hqr
      · cases h
    · cases h
theorem BdL.start {qs : List Rat} (h : ∀ q ∈ qs, BdQ 1 q) : BdL (List.replicate qs.length 1) qs :=
  ⟨List.length_replicate, fun i hi => by
    rw [List.length_replicate] at hi
    rw [List.getD_eq_getElem?_getD, List.getElem?_replicate, if_pos hi]
    exact h _ (getD_mem hi), fun x hx => by rw [(List.mem_replicate.1 hx).2]; omega⟩
/-- All that the walks ask of a tape and a point. -/
theorem tape_bd {t : TapeC} {xs : List NV} (hf : ∀ o ∈ t.ops, OpC.few 3000 o) (hq : ∀ x ∈ xs, BdQ 1 x.q) (hl : ∀ x ∈ xs, x.n.length ≤ 3000 ∧ x.d.length ≤ 3000) : EvOKr t xs ∧ EvOK t xs := by
  have key : ∀ w, tapeW t = some w → (xs.length : Int) = t.ins → OpsOKr t.ops (xs.map NV.q) ∧ ∀ qr, opsR t.ops (xs.map NV.q) = some qr → BdL w qr := fun w hw hx => by
    obtain ⟨p1, p2, p3, p4, p5, p6, p7⟩ := tapeW_parts hw
    have hb : BdL (List.replicate t.ins.toNat 1) (xs.map NV.q) := by
      have e : t.ins.toNat = (xs.map NV.q).length := by rw [List.length_map]; omega
      rw [e]
      refine BdL.start fun q hq' => ?_
      obtain ⟨x, hx, rfl⟩ := List.mem_map.1 hq'
      exact hq x hx
    exact ops_bd p6 hb (by rw [List.length_replicate]; omega) hf
  refine ⟨⟨hf, hl, fun h hx => ?_⟩, ⟨fun o ho => ?_, fun x hx => ?_, fun h hx => ?_, fun l hl' q hq' => ?_⟩⟩
  · obtain ⟨w, hw⟩ := Option.isSome_iff_exists.1 h
    exact (key w hw hx).1
  · have := hf o ho; exact ⟨by have := this.1; omega, by have := this.2; omega⟩
  · have := hl x hx; omega
  · obtain ⟨w, hw⟩ := Option.isSome_iff_exists.1 h
    obtain ⟨p1, p2, p3, p4, p5, p6, p7⟩ := tapeW_parts hw
    exact ⟨by omega, (key w hw hx).1.ok⟩
  · obtain ⟨w, h1, h2, h3⟩ := evalZ_parts hl'
    exact (((key w h1 h2).2 l h3).few q hq').le (by decide)
end Go.Proofs.YtjgbjaaekknenaaGreat
/-
  Chapter 15's laws: its example; ValueTells.
-/
namespace Go.Proofs.YtjgbjaaekknenaaGreat
open Go Go.Tw
set_option linter.unusedVariables false
set_option linter.unusedSimpArgs false
set_option linter.unnecessarySimpa false
set_option maxHeartbeats 1000000
theorem digs_len10 : ∀ (k n : Nat), n < 10 ^ (k + 1) → (digs n).length ≤ k + 1
  | 0, n, h => by unfold digs; rw [dif_pos (by omega)]; exact Nat.le_refl _
  | k + 1, n, h => by
    unfold digs
    by_cases h1 : n < 10
    · rw [dif_pos h1]; simp
    · rw [dif_neg h1, List.length_cons]
      have := digs_len10 k (n / 10) (by rw [Nat.pow_succ] at h; omega)
      omega
/-- A number's op. -/
def constC (q : Rat) : OpC := ⟨1, 0, 0, 0, decide (q.num < 0), natW q.num.natAbs, natW q.den⟩
theorem constOK_self {q : Rat} (h1 : q.num.natAbs < 10 ^ 40) (h2 : q.den < 10 ^ 40) : constOK (decide (q.num < 0)) (natW q.num.natAbs) (natW q.den) = true := by
  unfold constOK ratRight
  rw [val_natW, val_natW, lowQ_self]
  have e1 := digs_len10 39 _ h1
  have e2 := digs_len10 39 _ h2
  simp only [decide_true, Bool.and_self, Bool.true_and, decide_eq_true (show (digs q.num.natAbs).length ≤ 40 from e1), decide_eq_true (show (digs q.den).length ≤ 40 from e2)]
theorem constC_ok {q : Rat} (h1 : q.num.natAbs < 10 ^ 40) (h2 : q.den < 10 ^ 40) : fieldsOK (constC q) = true := by
  unfold fieldsOK constC
  dsimp only
  rw [if_pos rfl, constOK_self h1 h2]; rfl
theorem constC_R (q : Rat) (l : List Rat) : opR (constC q) l = some q := by
  unfold opR constC
  dsimp only
  rw [if_neg (by decide), if_neg (by decide), if_neg (by decide), if_neg (by decide), if_neg (by decide), if_neg (by decide), val_natW, val_natW, lowQ_self]
theorem constC_w (q : Rat) (l : List Nat) : wgt (constC q) l = some 1 := rfl
/-- A number, as it is handed in. -/
def NV.of (q : Rat) (vn vd : Value) : NV := ⟨decide (q.num < 0), natW q.num.natAbs, natW q.den, vn, vd⟩
theorem NV.of_q (q : Rat) (vn vd : Value) : (NV.of q vn vd).q = q := by
  unfold NV.q NV.of; dsimp only; rw [val_natW, val_natW, lowQ_self]
/-- An op in memory: one of no number; one of a number. -/
def plainO (c a b e : Int) : OpV := ⟨⟨c, a, b, e, false, [], []⟩, .slice none 0 0, .slice none 0 0⟩
theorem plainO_ok (I : Hp) (c a b e : Int) : (plainO c a b e).ok I := ⟨Ws.nil I, Ws.nil I⟩
theorem TapeV.of {I : Hp} {bo bu : Nat} {t : TapeC} (os : List OpV) {To Tu : TypeId} (ho : I bo = some (.cells (os.map OpV.cells).flatten.toArray To (0, 0))) (hu : I bu = some (.cells (ics t.outs).flatten.toArray Tu (0, 0))) (ok : ∀ o ∈ os, o.ok I) (eq : os.map OpV.c = t.ops) (hm : os.length ≤ 1000) (hm2 : t.outs.length ≤ 1000) :
    TapeV I (.slice (some ⟨bo, 0, none⟩) os.length os.length) (.slice (some ⟨bu, 0, none⟩) t.outs.length t.outs.length) t os := by
  refine ⟨?_, ok, eq, ?_⟩
  · have h := Slc.of_box (sz := 7) (c := os.length) ho (fun c hc => by obtain ⟨o, _, rfl⟩ := List.mem_map.1 hc; rfl) (by unfold maxLen; rw [List.length_map]; omega) (by rw [List.length_map]; exact Nat.le_refl _)
    rwa [List.length_map] at h
  · have h := Slc.of_box (sz := 1) (c := t.outs.length) hu (fun c hc => by obtain ⟨o, _, rfl⟩ := List.mem_map.1 hc; rfl) (by unfold maxLen; rw [ics_len]; omega) (by rw [ics_len]; exact Nat.le_refl _)
    rwa [ics_len] at h
theorem PtV.of {I : Hp} {b : Nat} (xs : List NV) {T : TypeId} (hb : I b = some (.cells (xs.map NV.cells).flatten.toArray T (0, 0))) (ok : ∀ x ∈ xs, x.ok I) (hm : xs.length ≤ 1000) : PtV I (.slice (some ⟨b, 0, none⟩) xs.length xs.length) xs := by
  refine ⟨?_, ok⟩
  have h := Slc.of_box (sz := 3) (c := xs.length) hb (fun c hc => by obtain ⟨o, _, rfl⟩ := List.mem_map.1 hc; rfl) (by unfold maxLen; rw [List.length_map]; omega) (by rw [List.length_map]; exact Nat.le_refl _)
  rwa [List.length_map] at h
theorem RsV.of {I : Hp} {b : Nat} (rs : List RV) {T : TypeId} (hb : I b = some (.cells (rcs rs).flatten.toArray T (0, 0))) (ok : ∀ x ∈ rs, x.ok I) (hm : rs.length ≤ 1000) : RsV I (.slice (some ⟨b, 0, none⟩) rs.length rs.length) (rs.map RV.q) := by
  refine ⟨rs, ?_, ok, rfl⟩
  have h := Slc.of_box (sz := 3) (c := rs.length) hb (rcs_three rs) (by unfold maxLen; rw [rcs_len]; omega) (by rw [rcs_len]; exact Nat.le_refl _)
  rwa [rcs_len] at h
theorem evalZ_of {t : TapeC} {xs : List NV} {w : List Nat} {l : List Rat} (h1 : tapeW t = some w) (h2 : (xs.length : Int) = t.ins) (h3 : opsR t.ops (xs.map NV.q) = some l) : evalZ t xs = .ok l := by
  unfold evalZ
  rw [h1, if_neg (by simp), if_neg (by omega), h3]
def aw1 : TapeC := ⟨1, [constC (mkRat 1 1), ⟨2, 0, 1, 0, false, [], []⟩, ⟨4, 0, 2, 0, false, [], []⟩], [3]⟩
def aw2 : TapeC := ⟨1, [constC (mkRat 1 1), ⟨5, 1, 0, 0, false, [], []⟩], [2]⟩
theorem aw1_w : tapeW aw1 = some [1, 1, 2, 3] := by
  have h := constC_ok (q := mkRat 1 1) (by decide +kernel) (by decide +kernel)
  unfold tapeW aw1
  simp only [wgts, h, constC_w, if_true]
  decide +kernel
theorem aw2_w : tapeW aw2 = some [1, 1, 2] := by
  have h := constC_ok (q := mkRat 1 1) (by decide +kernel) (by decide +kernel)
  unfold tapeW aw2
  simp only [wgts, h, constC_w, if_true]
  decide +kernel
theorem aw1_e {xs : List NV} (h : xs.map NV.q = [mkRat 1 2]) : evalZ aw1 xs = .ok [mkRat 1 2, mkRat 1 1, mkRat 3 2, mkRat 3 4] := by
  refine evalZ_of aw1_w ?_ ?_
  · rw [← List.length_map (f := NV.q), h]; rfl
  · rw [h]
    unfold aw1
    simp only [opsR, constC_R]
    decide +kernel
theorem aw2_e {xs : List NV} (h : xs.map NV.q = [0]) : outsZ aw2 xs = .error 3 := by
  have e : opsR aw2.ops [0] = none := by
    unfold aw2
    simp only [opsR, constC_R]
    decide +kernel
  have hl : (xs.length : Int) = aw2.ins := by rw [← List.length_map (f := NV.q), h]; rfl
  unfold outsZ evalZ
  rw [aw2_w, if_neg (by simp), if_neg (by omega), h, e]
theorem few_const {q : Rat} (h : BdQ 1 q) : OpC.few 3000 (constC q) := ⟨natW_few ((h.few (Nat.le_refl _)).num) (by decide), natW_few ((h.few (Nat.le_refl _)).den) (by decide)⟩
theorem few_none (c a b e : Int) : OpC.few 3000 ⟨c, a, b, e, false, [], []⟩ := ⟨Nat.zero_le _, Nat.zero_le _⟩
theorem bd_small {n : Int} {d : Nat} (hn : n.natAbs ≤ 1000000) (hd : d ≤ 1000000) : BdQ 1 (mkRat n d) := by
  rw [← lowQ_int]
  have : (1000000 : Nat) ≤ 2 ^ 133 := by decide
  exact BdQ.low (by omega) (by omega)
theorem awake15_any {I : Hp} : Fun Tryz.prog 6 [] I [] (fun v _ _ => v = .bool true) := by
  intro w hw
  refine enter0 _ Tryz.func6 rfl Tryz.ntmps6 ?_ hw
  refine c_seq (c_region ?_)
  refine o_pv trivial rfl rfl ?_
  refine o_nil (then_c (c_seq (c_region ?_)))
  refine o_callI trivial rfl Tryz.call24 rfl (rOf8_any 1 (by decide)) ?_
  rintro _ I1 hx1 ⟨u1, u2, rfl, k1, k2⟩
  refine o_buildS trivial rfl (bld35) rfl (.cons rfl rfl rfl (by repeat constructor) (.cons rfl rfl rfl (by repeat constructor) .nil)) ?_
  iterate 2 refine o_buildS trivial rfl (bld35) rfl (.cons rfl rfl rfl (by repeat constructor) (.cons rfl rfl rfl (by repeat constructor) (.cons rfl rfl rfl (by repeat constructor) .nil))) ?_
  refine o_buildSl trivial rfl Tryz.underlying26 Tryz.sizeOf35 Tryz.zeroValue35 (by decide) (by decide) rfl (by repeat first | exact rfl | constructor) rfl (fun b11 => ?_)
  refine o_buildSl trivial rfl Tryz.underlying27 Tryz.sizeOf3 Tryz.zeroValue3 (by decide) (by decide) rfl (by repeat first | exact rfl | constructor) rfl (fun b12 => ?_)
  refine l_sealB (b := b11) (.there .here) (fun I2 hx2 hb11 => ?_)
  refine l_sealB (b := b12) .here (fun I3 hx3 hb12 => ?_)
  have ht : TapeV I3 (.slice (some ⟨b11, 0, none⟩) 3 3) (.slice (some ⟨b12, 0, none⟩) 1 1) aw1 [⟨constC (mkRat 1 1), u1, u2⟩, plainO 2 0 1 0, plainO 4 0 2 0] := TapeV.of (t := aw1) [⟨constC (mkRat 1 1), u1, u2⟩, plainO 2 0 1 0, plainO 4 0 2 0] (hx3.le _ _ hb11) hb12 (fun o ho => by
    simp only [List.mem_cons, List.not_mem_nil, or_false] at ho
    rcases ho with rfl | rfl | rfl
    · exact ⟨k1.le (hx2.le.trans hx3.le), k2.le (hx2.le.trans hx3.le)⟩
    · exact plainO_ok _ _ _ _ _
    · exact plainO_ok _ _ _ _ _) rfl (Nat.le_of_ble_eq_true rfl) (Nat.le_of_ble_eq_true rfl)
  refine o_buildS trivial rfl (bld29) rfl (.cons rfl rfl rfl (by repeat constructor) (.cons rfl (by first | exact (Ws.cells1 (by assumption)).1 | exact (Slc.cells1 (by assumption)).1 | rfl) (by rfl) (by repeat constructor) (.cons rfl (by first | exact (Ws.cells1 (by assumption)).1 | exact (Slc.cells1 (by assumption)).1 | rfl) (by rfl) (by repeat constructor) .nil))) ?_
  refine o_alloc trivial rfl Tryz.zeroValue29 rfl (fun b1 => ?_)
  refine o_store trivial rfl rfl rfl Tryz.sizeOf29 rfl (by first | rfl | (repeat' (first | exact rfl | exact one_nil | refine one_cons ?_ ?_ | exact (Ws.cells1 (by assumption)).2 | exact (Slc.cells1 (by assumption)).2))) (by repeat constructor) (by repeat constructor) ?_
  refine o_nil (then_c (c_seq ?_))
  refine h_beginB (m := 9) [.box b1 _] (by repeat constructor) (by kernel_rfl) rfl ?_
  refine' h_take (i := 0) #[true, false, false, false, false, false, false, false, false] rfl rfl rfl (by kernel_rfl) (by kernel_rfl) (by kernel_rfl) rfl (qp_then qp_bp) (fun _ h => (h.sort (by repeat constructor)).fewer (Hp.Le.refl _)) ?hh0 ?kk0
  case hh0 =>
   refine o_loadA trivial rfl Tryz.isAgg29 Tryz.sizeOf29 rfl (by repeat constructor) (by repeat constructor) ?_
   refine o_nil ?_
   exact ⟨fun _ _ ha _ => ha⟩
  refine h_go [1] (by kernel_rfl) rfl (TWHs.cons ?_ TWHs.nil)
  refine h_op #[true, true, false, false, false, false, false, false, false] rfl rfl ?_
  refine o_callI trivial rfl Tryz.call26 rfl (rSmall8_any 1 1 (by decide) (by decide)) ?_
  rintro _ I4 hx4 ⟨u3, u4, rfl, k3, k4⟩
  refine o_nil ?_
  refine h_next (fun _ h => (h.sort (by repeat constructor)).fewer (hx4.le)) ?_
  refine h_go [2] (by kernel_rfl) rfl (TWHs.cons ?_ TWHs.nil)
  refine h_op #[true, true, true, false, false, false, false, false, false] rfl rfl ?_
  refine o_buildSl trivial rfl Tryz.underlying37 Tryz.sizeOf33 Tryz.zeroValue33 (by decide) (by decide) rfl (by repeat first | exact rfl | constructor) rfl (fun b17 => ?_)
  refine o_nil ?_
  refine h_next (fun _ h => (h.sort (by repeat constructor)).fewer (hx4.le)) ?_
  refine h_go [3] (by kernel_rfl) rfl (TWHs.cons ?_ TWHs.nil)
  refine h_op #[true, true, true, true, false, false, false, false, false] rfl rfl ?_
  refine l_sealB .here (fun I5 hx5 hb17 => ?_)
  have hpt : PtV I5 (.slice (some ⟨b17, 0, none⟩) 1 1) [NV.of (mkRat 1 2) u3 u4] := PtV.of [NV.of (mkRat 1 2) u3 u4] hb17 (fun x hx => by rw [List.mem_singleton.1 hx]; exact ⟨k3.le hx5.le, k4.le hx5.le⟩) (Nat.le_of_ble_eq_true rfl)
  have hbd := tape_bd (t := aw1) (xs := [NV.of (mkRat 1 2) u3 u4]) (fun o ho => by
    simp only [aw1, List.mem_cons, List.not_mem_nil, or_false] at ho
    rcases ho with rfl | rfl | rfl
    · exact few_const (bd_small (by decide) (by decide))
    · exact few_none _ _ _ _
    · exact few_none _ _ _ _) (fun x hx => by rw [List.mem_singleton.1 hx, NV.of_q]; exact bd_small (by decide) (by decide)) (fun x hx => by rw [List.mem_singleton.1 hx]; exact few_const (q := mkRat 1 2) (bd_small (by decide) (by decide)))
  have hev := eval_any aw1 _ _ _ _ _ (ht.le (hx4.le.trans hx5.le)) hpt hbd.2
  rw [aw1_e (by simp [NV.of_q])] at hev
  refine o_callI trivial rfl Tryz.call15 rfl hev ?_
  rintro _ I6 hx6 ⟨v6, rfl, hv6, _⟩
  refine o_nil ?_
  refine h_next (fun _ h => (h.sort (by repeat constructor)).fewer (((hx4.le).trans hx5.le).trans hx6.le)) ?_
  refine' h_take (i := 4) #[true, true, true, true, true, false, false, false, false] rfl rfl rfl (by kernel_rfl) (by kernel_rfl) (by kernel_rfl) rfl (qp_then qp_bp) (fun _ h => (h.sort (by repeat constructor)).fewer (((hx4.le).trans hx5.le).trans hx6.le)) ?hh1 ?kk1
  case hh1 =>
   refine o_pv trivial rfl rfl ?_
   refine o_nil ?_
   exact ⟨fun _ _ ha _ => ha⟩
  refine' h_take (i := 5) #[true, true, true, true, true, true, false, false, false] rfl rfl rfl (by kernel_rfl) (by kernel_rfl) (by kernel_rfl) rfl (qp_then qp_bp) (fun _ h => (h.sort (by repeat constructor)).fewer (((hx4.le).trans hx5.le).trans hx6.le)) ?hh2 ?kk2
  case hh2 =>
   refine o_pv trivial rfl rfl ?_
   refine o_nil ?_
   exact ⟨fun _ _ ha _ => ha⟩
  refine' h_take (i := 6) #[true, true, true, true, true, true, true, false, false] rfl rfl rfl (by kernel_rfl) (by kernel_rfl) (by kernel_rfl) rfl (qp_then qp_bp) (fun _ h => (h.sort (by repeat constructor)).fewer (((hx4.le).trans hx5.le).trans hx6.le)) ?hh3 ?kk3
  case hh3 =>
   refine o_pv trivial rfl rfl ?_
   refine o_nil ?_
   exact ⟨fun _ _ ha _ => ha⟩
  refine' h_take (i := 7) #[true, true, true, true, true, true, true, true, false] rfl rfl rfl (by kernel_rfl) (by kernel_rfl) (by kernel_rfl) rfl (qp_then qp_bp) (fun _ h => (h.sort (by repeat constructor)).fewer (((hx4.le).trans hx5.le).trans hx6.le)) ?hh4 ?kk4
  case hh4 =>
   refine o_pv trivial rfl rfl ?_
   refine o_nil ?_
   exact ⟨fun _ _ ha _ => ha⟩
  refine' h_take (i := 8) #[true, true, true, true, true, true, true, true, true] rfl rfl rfl (by kernel_rfl) (by kernel_rfl) (by kernel_rfl) rfl (qp_then qp_bp) (fun _ h => (h.sort (by repeat constructor)).fewer (((hx4.le).trans hx5.le).trans hx6.le)) ?hh5 ?kk5
  case hh5 =>
   refine o_pv trivial rfl rfl ?_
   refine o_nil ?_
   exact ⟨fun _ _ ha _ => ha⟩
  refine h_end (by kernel_rfl) ?_
  refine then_c (c_seq (c_region ?_))
  refine o_callI trivial rfl Tryz.call24 rfl (rOf8_any 1 (by decide)) ?_
  rintro _ I7 hx7 ⟨u5, u6, rfl, k5, k6⟩
  refine o_buildS trivial rfl (bld35) rfl (.cons rfl rfl rfl (by repeat constructor) (.cons rfl rfl rfl (by repeat constructor) .nil)) ?_
  refine o_buildS trivial rfl (bld35) rfl (.cons rfl rfl rfl (by repeat constructor) (.cons rfl rfl rfl (by repeat constructor) (.cons rfl rfl rfl (by repeat constructor) .nil))) ?_
  refine o_buildSl trivial rfl Tryz.underlying26 Tryz.sizeOf35 Tryz.zeroValue35 (by decide) (by decide) rfl (by repeat first | exact rfl | constructor) rfl (fun b24 => ?_)
  refine o_buildSl trivial rfl Tryz.underlying27 Tryz.sizeOf3 Tryz.zeroValue3 (by decide) (by decide) rfl (by repeat first | exact rfl | constructor) rfl (fun b25 => ?_)
  refine l_sealB (b := b24) (.there .here) (fun I8 hx8 hb24 => ?_)
  refine l_sealB (b := b25) .here (fun I9 hx9 hb25 => ?_)
  have ht2 : TapeV I9 (.slice (some ⟨b24, 0, none⟩) 2 2) (.slice (some ⟨b25, 0, none⟩) 1 1) aw2 [⟨constC (mkRat 1 1), u5, u6⟩, plainO 5 1 0 0] := TapeV.of (t := aw2) [⟨constC (mkRat 1 1), u5, u6⟩, plainO 5 1 0 0] (hx9.le _ _ hb24) hb25 (fun o ho => by
    simp only [List.mem_cons, List.not_mem_nil, or_false] at ho
    rcases ho with rfl | rfl
    · exact ⟨k5.le (hx8.le.trans hx9.le), k6.le (hx8.le.trans hx9.le)⟩
    · exact plainO_ok _ _ _ _ _) rfl (Nat.le_of_ble_eq_true rfl) (Nat.le_of_ble_eq_true rfl)
  have hv9 := (hv6 _ rfl).le (hx7.le.trans (hx8.le.trans hx9.le))
  refine o_buildS trivial rfl (bld29) rfl (.cons rfl rfl rfl (by repeat constructor) (.cons rfl (by first | exact (Ws.cells1 (by assumption)).1 | exact (Slc.cells1 (by assumption)).1 | rfl) (by rfl) (by repeat constructor) (.cons rfl (by first | exact (Ws.cells1 (by assumption)).1 | exact (Slc.cells1 (by assumption)).1 | rfl) (by rfl) (by repeat constructor) .nil))) ?_
  refine o_alloc trivial rfl Tryz.zeroValue29 rfl (fun b4 => ?_)
  refine o_store trivial rfl rfl rfl Tryz.sizeOf29 rfl (by first | rfl | (repeat' (first | exact rfl | exact one_nil | refine one_cons ?_ ?_ | exact (Ws.cells1 (by assumption)).2 | exact (Slc.cells1 (by assumption)).2))) (by repeat constructor) (by repeat constructor) ?_
  refine o_nil (then_c (c_seq (c_region ?_)))
  refine o_loadA trivial rfl Tryz.isAgg29 Tryz.sizeOf29 rfl (by repeat constructor) (by repeat constructor) ?_
  refine o_buildS trivial rfl (bld33) rfl .nil ?_
  refine o_buildSl trivial rfl Tryz.underlying37 Tryz.sizeOf33 Tryz.zeroValue33 (by decide) (by decide) rfl (by repeat first | exact rfl | constructor) rfl (fun b30 => ?_)
  refine l_sealB .here (fun I10 hx10 hb30 => ?_)
  have hpt2 : PtV I10 (.slice (some ⟨b30, 0, none⟩) 1 1) [⟨false, [], [], .slice none 0 0, .slice none 0 0⟩] := PtV.of [⟨false, [], [], .slice none 0 0, .slice none 0 0⟩] hb30 (fun x hx => by rw [List.mem_singleton.1 hx]; exact ⟨Ws.nil _, Ws.nil _⟩) (by decide)
  have hbd2 := tape_bd (t := aw2) (xs := [⟨false, [], [], .slice none 0 0, .slice none 0 0⟩]) (fun o ho => by
    simp only [aw2, List.mem_cons, List.not_mem_nil, or_false] at ho
    rcases ho with rfl | rfl
    · exact few_const (bd_small (by decide) (by decide))
    · exact few_none _ _ _ _) (fun x hx => by rw [List.mem_singleton.1 hx]; exact BdQ.low (by decide) (by decide)) (fun x hx => by rw [List.mem_singleton.1 hx]; exact ⟨Nat.zero_le _, Nat.zero_le _⟩)
  have hou := outs_any aw2 _ _ _ _ _ (ht2.le hx10.le) hpt2 hbd2.2
  rw [aw2_e (by show [lowQ false 0 0] = [0]; rw [lowQ_zero (.inl rfl)])] at hou
  refine o_callI trivial rfl Tryz.call10 rfl hou ?_
  rintro _ I11 hx11 ⟨v11, rfl, _, hv11⟩
  iterate 5 refine o_pv trivial rfl rfl ?_
  refine o_nil (then_c (c_seq (c_region ?_)))
  obtain rfl := hv11 (by decide)
  iterate 2 refine o_pv trivial rfl rfl ?_
  refine' o_and trivial trivial rfl rfl rfl rfl rfl rfl rfl rfl (fun hb36 => ?_) ?_
  rotate_left
  ·
   have fb36 := hb36
   try simp only [bl] at fb36
   refine o_pv (wants_some rfl rfl hb36) rfl rfl ?_
   refine o_callI (wants_some rfl rfl hb36) rfl Tryz.call26 rfl (rSmall8_any 1 1 (by decide) (by decide)) ?_
   rintro _ I12 hx12 ⟨w1, w2, rfl, m1, m2⟩
   refine o_callI (wants_some rfl rfl hb36) rfl Tryz.call24 rfl (rOf8_any 1 (by decide)) ?_
   rintro _ I13 hx13 ⟨w3, w4, rfl, m3, m4⟩
   refine o_callI (wants_some rfl rfl hb36) rfl Tryz.call26 rfl (rSmall8_any 3 1 (by decide) (by decide)) ?_
   rintro _ I14 hx14 ⟨w5, w6, rfl, m5, m6⟩
   refine o_callI (wants_some rfl rfl hb36) rfl Tryz.call26 rfl (rSmall8_any 3 3 (by decide) (by decide)) ?_
   rintro _ I15 hx15 ⟨w7, w8, rfl, m7, m8⟩
   refine o_buildSl (wants_some rfl rfl hb36) rfl Tryz.underlying37 Tryz.sizeOf33 Tryz.zeroValue33 (by decide) (by decide) rfl (by repeat first | exact rfl | constructor) rfl (fun b42 => ?_)
   refine l_sealB .here (fun I16 hx16 hb42 => ?_)
   have hrs := RsV.of [⟨mkRat 1 2, w1, w2⟩, ⟨mkRat 1 1, w3, w4⟩, ⟨mkRat 3 2, w5, w6⟩, ⟨mkRat 3 4, w7, w8⟩] hb42 (fun x hx => by
     simp only [List.mem_cons, List.not_mem_nil, or_false] at hx
     rcases hx with rfl | rfl | rfl | rfl
     · exact ⟨m1.le (hx13.le.trans (hx14.le.trans (hx15.le.trans hx16.le))), m2.le (hx13.le.trans (hx14.le.trans (hx15.le.trans hx16.le)))⟩
     · exact ⟨m3.le (hx14.le.trans (hx15.le.trans hx16.le)), m4.le (hx14.le.trans (hx15.le.trans hx16.le))⟩
     · exact ⟨m5.le (hx15.le.trans hx16.le), m6.le (hx15.le.trans hx16.le)⟩
     · exact ⟨m7.le hx16.le, m8.le hx16.le⟩) (Nat.le_of_ble_eq_true rfl)
   refine o_callQ (wants_some rfl rfl hb36) rfl Tryz.call11 rfl (rAll_any _ _ _ _ (hv9.le (hx10.le.trans (hx11.le.trans (hx12.le.trans (hx13.le.trans (hx14.le.trans (hx15.le.trans hx16.le))))))) hrs) ?_
   refine o_nil ?_
   exact joinsW rfl (fun _ h => (h.sort (by repeat constructor)).fewer (((((hx12.le).trans hx13.le).trans hx14.le).trans hx15.le).trans hx16.le))
  refine' o_and trivial trivial rfl rfl rfl rfl rfl rfl rfl rfl (fun hb45 => ?_) ?_
  rotate_left
  ·
   iterate 2 refine o_pv (wants_some rfl rfl hb45) rfl rfl ?_
   refine o_nil ?_
   exact joins rfl
  refine' o_and trivial trivial rfl rfl rfl rfl rfl rfl rfl rfl (fun hb49 => ?_) ?_
  rotate_left
  ·
   have fb49 := hb49
   try simp only [bl] at fb49
   refine o_pv (wants_some rfl rfl hb49) rfl rfl ?_
   refine o_lenL (wants_some rfl rfl hb49) rfl Tryz.underlying37 rfl ?_
   refine o_pv (wants_some rfl rfl hb49) rfl rfl ?_
   refine o_nil ?_
   exact joins rfl
  refine o_pv trivial rfl rfl ?_
  refine o_nil (then_c (c_ret ?_))
  refine ret1 rfl rfl ?_
  exact leaf (hx1.trans (hx2.trans (hx3.trans (hx4.trans (hx5.trans (hx6.trans (hx7.trans (hx8.trans (hx9.trans (hx10.trans hx11 (Nat.le_refl _)) (Nat.le_refl _)) (Nat.le_refl _)) (Nat.le_refl _)) (Nat.le_refl _)) (Nat.le_refl _)) (Nat.le_refl _)) (Nat.le_refl _)) (Nat.le_refl _)) (Nat.le_refl _)) (List.nil_sublist _) (congrArg Value.bool (by decide +kernel))
/-- What came out; nothing, if nothing did. -/
def resOf (r : Except Int (List Rat)) : List Rat := match r with
  | .ok l => l
  | .error _ => []
theorem RsV.nil (I : Hp) : RsV I (.slice none 0 0) [] := ⟨[], Slc.nil _ _, fun r h => (by cases h), rfl⟩
theorem exR_out {r : Except Int (List Rat)} {v : Value} {I : Hp} (h : exR r v I) (he : ∀ e, r = .error e → e ≠ 0) : ∃ u, v = .tuple #[u, .int .i64 (errOf r)] ∧ RsV I u (resOf r) := by
  obtain ⟨u, rfl, h1, h2⟩ := h
  refine ⟨u, rfl, ?_⟩
  cases r with
  | ok l => exact h1 l rfl
  | error e => rw [h2 (he e rfl)]; exact RsV.nil I
theorem evalZ_ne {t : TapeC} {xs : List NV} : ∀ e, evalZ t xs = .error e → e ≠ 0 := fun e h => by
  unfold evalZ at h
  split at h
  · cases h; decide
  · split at h
    · cases h; decide
    · split at h
      · cases h
      · cases h; decide
theorem outsZ_ne {t : TapeC} {xs : List NV} : ∀ e, outsZ t xs = .error e → e ≠ 0 := fun e h => by
  unfold outsZ at h
  split at h
  · rename_i e' he; cases h; exact evalZ_ne _ he
  · cases h
theorem exR_fun {f : FuncId} {args : List Value} {I : Hp} {r : Except Int (List Rat)} (h : Fun Tryz.prog f args I [] (fun v I' _ => exR r v I')) (he : ∀ e, r = .error e → e ≠ 0) : Fun Tryz.prog f args I [] (fun v I' _ => ∃ u, v = .tuple #[u, .int .i64 (errOf r)] ∧ RsV I' u (resOf r)) := fun w hw => (h w hw).mono fun v w' ⟨I', B', h1, h2, h3⟩ => ⟨I', B', h1, h2, exR_out h3 he⟩
end Go.Proofs.YtjgbjaaekknenaaGreat
/-
  The document's small tapes and points.
-/
namespace Go.Tw
open Go
set_option linter.unusedVariables false
set_option linter.unusedSimpArgs false
set_option linter.unnecessarySimpa false
set_option maxHeartbeats 1000000
theorem enter5 {P : Program} {S : World → Prop} {f : FuncId} {fn : Func} {c : Code} {a0 a1 a2 a3 a4 : Value} {R : Value → World → Prop} (n : Nat) (hf : P.funcs[f]? = some fn) (hb : fn.body = some c) (hn : fn.ntmps = n) (hs : Nat.ble 5 n = true)
    (h : TC P c (BP P fn R) n [] [(0, a0), (1, a1), (2, a2), (3, a3), (4, a4)] S) {w : World} (hw : S w) : Ret P f #[a0, a1, a2, a3, a4] w R := enter (args := [a0, a1, a2, a3, a4]) _ n hf hb hn hs (fun i v hi => by
      match i, hi with
      | 0, hi => exact hi
      | 1, hi => exact hi
      | 2, hi => exact hi
      | 3, hi => exact hi
      | 4, hi => exact hi
      | i + 5, hi => cases hi) h hw
/-- A turn, in four bytes. -/
structure TurnC where
  op : Int
  a : Int
  b : Int
  n : Int
def TurnC.cells (t : TurnC) : List Value := [.int .u8 t.op, .int .u8 t.a, .int .u8 t.b, .int .u8 t.n]
structure TurnC.ok (t : TurnC) : Prop where
  op : 0 ≤ t.op ∧ t.op ≤ 255
  a : 0 ≤ t.a ∧ t.a ≤ 255
  b : 0 ≤ t.b ∧ t.b ≤ 255
  n : 0 ≤ t.n ∧ t.n ≤ 255
structure TnV (I : Hp) (v : Value) (ts : List TurnC) : Prop where
  s : Slc I 4 v (ts.map TurnC.cells)
  ok : ∀ t ∈ ts, t.ok
theorem TnV.le {I I' : Hp} {v : Value} {ts : List TurnC} (h : TnV I v ts) (hl : I.Le I') : TnV I' v ts := ⟨h.s.le hl, h.ok⟩
theorem TnV.at_ {I : Hp} {v : Value} {ts : List TurnC} (h : TnV I v ts) {i : Nat} {t : TurnC} (ht : ts[i]? = some t) : ∀ k y, ([.int .u8 t.op, .int .u8 t.a, .int .u8 t.b, .int .u8 t.n] : List Value)[k]? = some y → I.cell? ⟨slcB v, slcO v + i * 4 + k, none⟩ = some y :=
  h.s.cells i _ (by rw [List.getElem?_map, ht]; rfl)
/-- Bytes. -/
def bcs (l : List Int) : List (List Value) := l.map fun z => [.int .u8 z]
structure ByV (I : Hp) (v : Value) (l : List Int) : Prop where
  s : Slc I 1 v (bcs l)
  ok : ∀ z ∈ l, 0 ≤ z ∧ z ≤ 255
theorem ByV.le {I I' : Hp} {v : Value} {l : List Int} (h : ByV I v l) (hl : I.Le I') : ByV I' v l := ⟨h.s.le hl, h.ok⟩
theorem bcs_len (l : List Int) : (bcs l).length = l.length := by simp [bcs]
theorem ByV.at_ {I : Hp} {v : Value} {l : List Int} (h : ByV I v l) {i : Nat} {z : Int} (hz : l[i]? = some z) : I.cell? ⟨slcB v, slcO v + i * 1, none⟩ = some (.int .u8 z) :=
  h.s.cells i _ (by unfold bcs; rw [List.getElem?_map, hz]; rfl) 0 _ rfl
/-- Small numbers: two of them. -/
structure SmallC where
  n : Int
  d : Int
def SmallC.cells (t : SmallC) : List Value := [.int .i8 t.n, .int .u8 t.d]
structure SmallC.ok (t : SmallC) : Prop where
  n : -128 ≤ t.n ∧ t.n ≤ 127
  d : 0 ≤ t.d ∧ t.d ≤ 255
structure SmV (I : Hp) (v : Value) (ts : List SmallC) : Prop where
  s : Slc I 2 v (ts.map SmallC.cells)
  ok : ∀ t ∈ ts, t.ok
theorem SmV.le {I I' : Hp} {v : Value} {ts : List SmallC} (h : SmV I v ts) (hl : I.Le I') : SmV I' v ts := ⟨h.s.le hl, h.ok⟩
theorem SmV.at_ {I : Hp} {v : Value} {ts : List SmallC} (h : SmV I v ts) {i : Nat} {t : SmallC} (ht : ts[i]? = some t) : ∀ k y, ([.int .i8 t.n, .int .u8 t.d] : List Value)[k]? = some y → I.cell? ⟨slcB v, slcO v + i * 2 + k, none⟩ = some y :=
  h.s.cells i _ (by rw [List.getElem?_map, ht]; rfl)
end Go.Tw
namespace Go.Proofs.YtjgbjaaekknenaaGreat
open Go Go.Tw
set_option linter.unusedVariables false
set_option linter.unusedSimpArgs false
set_option linter.unnecessarySimpa false
set_option maxHeartbeats 1000000
/-- A turn's op, behind so many places. -/
def op14 (t : TurnC) (n : Int) : OpC :=
  if 1 + t.op % 7 = 1 then constC (mkRat (IntKind.i8.wrap t.n) ((t.b % 5).toNat + 1))
  else if 1 + t.op % 7 ≤ 5 then ⟨1 + t.op % 7, t.a % n, t.b % n, 0, false, [], []⟩
  else if 1 + t.op % 7 = 6 then ⟨6, t.a % n, 0, 0, false, [], []⟩
  else ⟨7, t.a % n, 0, t.n % 7 - 3, false, [], []⟩
def step14 (t : TurnC) (l : List Nat) : OpC × Nat :=
  if 1 + t.op % 7 ≠ 1 ∧ 12 < wgtM (op14 t l.length) l then (constC (mkRat (IntKind.i8.wrap t.n) 1), 1)
  else (op14 t l.length, if 1 + t.op % 7 = 1 then 1 else wgtM (op14 t l.length) l)
def made14 : List TurnC → List Nat → List OpC × List Nat
  | [], l => ([], l)
  | t :: r, l => ((step14 t l).1 :: (made14 r (l ++ [(step14 t l).2])).1, (made14 r (l ++ [(step14 t l).2])).2)
def out14 (outs : List Int) (n : Int) : List Int := if outs.length = 0 then [n - 1] else outs.map fun z => n - 1 - z % n
def madeT (ins : Int) (outs : List Int) (ts : List TurnC) : TapeC :=
  ⟨1 + ins % 3, (made14 ts (List.replicate (1 + ins % 3).toNat 1)).1, out14 outs ((made14 ts (List.replicate (1 + ins % 3).toNat 1)).2.length : Nat)⟩
theorem i8_wrap (z : Int) : -128 ≤ IntKind.i8.wrap z ∧ IntKind.i8.wrap z ≤ 127 := by
  unfold IntKind.wrap
  simp only [IntKind.signed, IntKind.bits]
  simp
  omega
theorem op14_bd (z : Int) (d : Nat) (hd : d ≤ 1000) : BdQ 1 (mkRat (IntKind.i8.wrap z) d) := bd_small (by have := i8_wrap z; omega) (by omega)
theorem bd_const {z : Int} {d : Nat} (hz : -128 ≤ z ∧ z ≤ 127) (hd : d ≤ 1000) : fieldsOK (constC (mkRat z d)) = true := by
  have h := lowQ_le (decide (z < 0)) z.natAbs d
  rw [lowQ_int] at h
  have e : (1000 : Nat) < 10 ^ 40 := by decide
  exact constC_ok (by omega) (by have := h.2; omega)
/-- Weights up to twelve, and one of them. -/
structure Twelve (l : List Nat) : Prop where
  some_ : 0 < l.length
  all : ∀ x ∈ l, 1 ≤ x ∧ x ≤ 12
theorem Twelve.more {l : List Nat} {m : Nat} (h : Twelve l) (hm : 1 ≤ m ∧ m ≤ 12) : Twelve (l ++ [m]) := ⟨by simp, fun x hx => by
  rcases List.mem_append.1 hx with hx | hx
  · exact h.all x hx
  · rw [List.mem_singleton.1 hx]; exact hm⟩
theorem Twelve.le {l : List Nat} (h : Twelve l) : ∀ x ∈ l, x ≤ 200 := fun x hx => by have := h.all x hx; omega
theorem Twelve.ones {k : Nat} (hk : 0 < k) : Twelve (List.replicate k 1) := ⟨by rw [List.length_replicate]; exact hk, fun x hx => by rw [(List.mem_replicate.1 hx).2]; omega⟩
theorem op14_code {t : TurnC} {n : Int} (ht : t.ok) : (op14 t n).code = 1 + t.op % 7 := by
  have := ht.op
  unfold op14
  split
  · rename_i h; rw [h]; rfl
  · split
    · rfl
    · split
      · rename_i h; rw [h]
      · show (7 : Int) = _; omega
theorem mod_in {a : Int} {n : Nat} (h : 0 < n) : 0 ≤ a % (n : Int) ∧ a % (n : Int) < n := ⟨Int.emod_nonneg _ (by omega), Int.emod_lt_of_pos _ (by omega)⟩
/-- Such an op has right fields, and a weight that is told. -/
theorem op14_ok {t : TurnC} {l : List Nat} (ht : t.ok) (hl : Twelve l) : fieldsOK (op14 t l.length) = true ∧ wgt (op14 t l.length) l = some (if 1 + t.op % 7 = 1 then 1 else wgtM (op14 t l.length) l) ∧ (1 + t.op % 7 ≠ 1 → 1 ≤ wgtM (op14 t l.length) l ∧ wgtM (op14 t l.length) l ≤ 200) := by
  have ho := ht.op
  have hn := ht.n
  have ha := mod_in (a := t.a) hl.some_
  have hb := mod_in (a := t.b) hl.some_
  have hp := hl.some_
  have g : ∀ z : Int, 0 ≤ z → z < l.length → 1 ≤ l.getD z.toNat 0 ∧ l.getD z.toNat 0 ≤ 12 := fun z h0 h1 => hl.all _ (getD_mem (by omega))
  have ga := g _ ha.1 ha.2
  have gb := g _ hb.1 hb.2
  unfold op14
  by_cases h1 : 1 + t.op % 7 = 1
  · rw [if_pos h1, if_pos h1]
    exact ⟨bd_const (i8_wrap _) (by omega), rfl, fun h => absurd h1 h⟩
  rw [if_neg h1, if_neg h1]
  have key : ∀ o : OpC, o.code ≠ 1 → (0 ≤ o.a ∧ o.a < l.length) → (0 ≤ o.b ∧ o.b < l.length) → fieldsOK o = true → (1 ≤ wgtM o l ∧ wgtM o l ≤ 200) → fieldsOK o = true ∧ wgt o l = some (wgtM o l) ∧ (1 + t.op % 7 ≠ 1 → 1 ≤ wgtM o l ∧ wgtM o l ≤ 200) := fun o hc h2 h3 h4 h5 => by
    refine ⟨h4, ?_, fun _ => h5⟩
    unfold wgt
    rw [if_neg hc, if_neg (by omega), if_pos h5.2]
  by_cases h2 : 1 + t.op % 7 ≤ 5
  · rw [if_pos h2]
    refine key _ h1 ha hb ?_ ?_
    · unfold fieldsOK emptyZ
      dsimp only
      rw [if_neg h1, if_pos (by omega)]; rfl
    · unfold wgtM
      dsimp only
      rw [if_pos (by omega)]; omega
  rw [if_neg h2]
  by_cases h3 : 1 + t.op % 7 = 6
  · rw [if_pos h3]
    refine key _ (show (6 : Int) ≠ 1 by decide) ha (by dsimp only; omega) rfl ?_
    unfold wgtM
    dsimp only
    rw [if_neg (by omega), if_neg (by omega)]; omega
  rw [if_neg h3]
  have he : -3 ≤ t.n % 7 - 3 ∧ t.n % 7 - 3 ≤ 3 := by omega
  refine key _ (show (7 : Int) ≠ 1 by decide) ha (by dsimp only; omega) ?_ ?_
  · unfold fieldsOK emptyZ
    dsimp only
    rw [if_neg (by omega), if_neg (by omega), if_neg (by omega), if_pos rfl, decide_eq_true (show (0 : Int) = 0 ∧ -20 ≤ t.n % 7 - 3 ∧ t.n % 7 - 3 ≤ 20 by omega)]; rfl
  · unfold wgtM
    dsimp only
    rw [if_neg (by omega), if_pos rfl]
    have h1 : l.getD (t.a % (l.length : Int)).toNat 0 * 1 ≤ l.getD (t.a % (l.length : Int)).toNat 0 * max 1 (t.n % 7 - 3).natAbs := Nat.mul_le_mul_left _ (Nat.le_max_left _ _)
    have h2 : l.getD (t.a % (l.length : Int)).toNat 0 * max 1 (t.n % 7 - 3).natAbs ≤ 12 * 3 := Nat.mul_le_mul (by omega) (by omega)
    omega
theorem op14_R {t : TurnC} {l : List Nat} (ht : t.ok) (hl : Twelve l) : wR (op14 t l.length) l = some (if 1 + t.op % 7 = 1 then 1 else wgtM (op14 t l.length) l) := by
  obtain ⟨h1, h2, _⟩ := op14_ok ht hl
  unfold wR
  rw [if_pos h1, h2]
theorem step14_ok {t : TurnC} {l : List Nat} (ht : t.ok) (hl : Twelve l) : fieldsOK (step14 t l).1 = true ∧ wgt (step14 t l).1 l = some (step14 t l).2 ∧ 1 ≤ (step14 t l).2 ∧ (step14 t l).2 ≤ 12 := by
  obtain ⟨h1, h2, h3⟩ := op14_ok ht hl
  unfold step14
  by_cases h : 1 + t.op % 7 ≠ 1 ∧ 12 < wgtM (op14 t l.length) l
  · rw [if_pos h]
    exact ⟨bd_const (i8_wrap _) (by omega), rfl, by dsimp only; omega, by dsimp only; omega⟩
  · rw [if_neg h]
    refine ⟨h1, h2, ?_⟩
    dsimp only
    split
    · omega
    · rename_i h4; have := h3 h4; omega
theorem made14_ok : ∀ {ts : List TurnC} {l : List Nat}, (∀ t ∈ ts, t.ok) → Twelve l → wgts (made14 ts l).1 l = some (made14 ts l).2 ∧ Twelve (made14 ts l).2 ∧ (made14 ts l).1.length = ts.length ∧ (made14 ts l).2.length = l.length + ts.length
  | [], l, _, hl => ⟨rfl, hl, rfl, rfl⟩
  | t :: r, l, ht, hl => by
    obtain ⟨h1, h2, h3, h4⟩ := step14_ok (ht t List.mem_cons_self) hl
    obtain ⟨k1, k2, k3, k4⟩ := made14_ok (fun x hx => ht x (List.mem_cons_of_mem _ hx)) (hl.more ⟨h3, h4⟩)
    unfold made14
    dsimp only
    refine ⟨?_, k2, by rw [List.length_cons, k3]; rfl, by rw [k4]; simp; omega⟩
    unfold wgts
    rw [if_pos h1, h2]
    exact k1
theorem op14_few {t : TurnC} {n : Int} : OpC.few 3000 (op14 t n) := by
  unfold op14
  split
  · exact few_const (op14_bd _ _ (by have := Int.emod_lt_of_pos t.b (show (0 : Int) < 5 by decide); omega))
  · split
    · exact few_none _ _ _ _
    · split <;> exact few_none _ _ _ _
theorem step14_few {t : TurnC} {l : List Nat} : OpC.few 3000 (step14 t l).1 := by
  have hc : ∀ d : Nat, d ≤ 1000 → OpC.few 3000 (constC (mkRat (IntKind.i8.wrap t.n) d)) := fun d hd => few_const (op14_bd _ _ hd)
  unfold step14
  by_cases h : 1 + t.op % 7 ≠ 1 ∧ 12 < wgtM (op14 t l.length) l
  · rw [if_pos h]; exact hc 1 (by decide)
  · rw [if_neg h]
    unfold op14
    dsimp only
    split
    · exact hc _ (by have := Int.emod_lt_of_pos t.b (show (0 : Int) < 5 by decide); omega)
    · split
      · exact few_none _ _ _ _
      · split <;> exact few_none _ _ _ _
theorem made14_few : ∀ {ts : List TurnC} {l : List Nat}, ∀ o ∈ (made14 ts l).1, OpC.few 3000 o
  | [], l, o, h => by cases h
  | t :: r, l, o, h => by
    unfold made14 at h
    rcases List.mem_cons.1 h with rfl | h
    · exact step14_few
    · exact made14_few o h
theorem made14_drop {ts : List TurnC} {i : Nat} {t : TurnC} (h : ts[i]? = some t) (l : List Nat) : made14 (ts.drop i) l = ((step14 t l).1 :: (made14 (ts.drop (i + 1)) (l ++ [(step14 t l).2])).1, (made14 (ts.drop (i + 1)) (l ++ [(step14 t l).2])).2) := by
  rw [List.drop_eq_getElem_cons (List.getElem?_eq_some_iff.1 h).1, (List.getElem?_eq_some_iff.1 h).2]; rfl
theorem out14_in {outs : List Int} {n : Nat} (h : 0 < n) : ∀ z ∈ out14 outs n, 0 ≤ z ∧ z < n := fun z hz => by
  unfold out14 at hz
  split at hz
  · rw [List.mem_singleton.1 hz]; omega
  · obtain ⟨y, _, rfl⟩ := List.mem_map.1 hz
    have := mod_in (a := y) h
    omega
theorem madeT_ok {ins : Int} {outs : List Int} {ts : List TurnC} (hi : 0 ≤ ins ∧ ins ≤ 255) (ho : outs.length ≤ 3) (ht : ∀ t ∈ ts, t.ok) (hm : ts.length ≤ 12) : tapeW (madeT ins outs ts) = some (made14 ts (List.replicate (1 + ins % 3).toNat 1)).2 ∧ ∀ o ∈ (madeT ins outs ts).ops, OpC.few 3000 o := by
  obtain ⟨h1, h2, h3, h4⟩ := made14_ok ht (Twelve.ones (k := (1 + ins % 3).toNat) (by omega))
  refine ⟨?_, fun o ho => made14_few o ho⟩
  have hol : 1 ≤ (madeT ins outs ts).outs.length ∧ (madeT ins outs ts).outs.length ≤ 3 := by
    unfold madeT out14
    dsimp only
    split
    · simp
    · rw [List.length_map]; omega
  unfold tapeW
  rw [if_neg (by
    have e1 : (madeT ins outs ts).ins = 1 + ins % 3 := rfl
    have e2 : (madeT ins outs ts).ops.length = ts.length := h3
    omega)]
  show (match wgts (made14 ts (List.replicate (1 + ins % 3).toNat 1)).1 (List.replicate (1 + ins % 3).toNat 1) with | none => none | some l => if ((madeT ins outs ts).outs.all fun z => decide (0 ≤ z ∧ z < l.length)) = true then some l else none) = _
  rw [h1]
  dsimp only
  exact if_pos (List.all_eq_true.2 fun z hz => decide_eq_true (out14_in h2.some_ z hz))
def ocs (os : List OpV) : List (List Value) := os.map OpV.cells
theorem ocs_len (os : List OpV) : (ocs os).length = os.length := by simp [ocs]
theorem ocs_seven (os : List OpV) : ∀ c ∈ ocs os, c.length = 7 := by
  intro c hc
  obtain ⟨r, _, rfl⟩ := List.mem_map.1 hc
  rfl
theorem ocs_more (os : List OpV) (o : OpV) : (ocs os).flatten ++ ([.int .i64 o.c.code, .int .i64 o.c.a, .int .i64 o.c.b, .int .i64 o.c.e, .bool o.c.neg, o.vn, o.vd] ++ []) = (ocs (os ++ [o])).flatten := by
  unfold ocs; rw [List.map_append, List.flatten_append]; rfl
theorem seven_plain {I : Hp} {a b c d : Int} {s : Bool} {u1 u2 : Value} {X Y : List Nat} (h1 : Ws I u1 X) (h2 : Ws I u2 Y) : plain1 ([.int .i64 a, .int .i64 b, .int .i64 c, .int .i64 d, .bool s, u1, u2] ++ []) = true := by
  have e1 := h1.cells1.2
  have e2 := h2.cells1.2
  show (true && (true && (true && (true && (true && (u1.oneCell' && (u2.oneCell' && true))))))) = true
  rw [e1, e2]; rfl
theorem op14_any (t : TurnC) (n : Nat) {I : Hp} (ht : t.ok) (hn : 0 < n ∧ n ≤ 1000000) : Fun Tryz.prog 27 [.agg #[.int .u8 t.op, .int .u8 t.a, .int .u8 t.b, .int .u8 t.n], .int .i64 (n : Nat)] I []
    (fun v I' _ => ∃ o : OpV, v = .agg #[.int .i64 o.c.code, .int .i64 o.c.a, .int .i64 o.c.b, .int .i64 o.c.e, .bool o.c.neg, o.vn, o.vd] ∧ o.c = op14 t n ∧ o.ok I') := by
  obtain ⟨ho, ha, hb, hnn⟩ := ht
  have hi := i8_wrap t.n
  have hma := mod_in (a := t.a) hn.1
  have hmb := mod_in (a := t.b) hn.1
  intro w hw
  refine enter2 _ Tryz.func27 rfl Tryz.ntmps27 rfl ?_ hw
  refine c_seq (c_region ?_)
  refine o_box trivial rfl rfl rfl (fun b2 => ?_)
  refine o_alloc trivial rfl Tryz.zeroValue35 rfl (fun b4 => ?_)
  refine o_nil (then_c (c_seq (c_region ?_)))
  refine o_fieldAddr (T := 5) (off := 0) trivial rfl Tryz.underlying67 rfl rfl rfl Tryz.sizeOf5 rfl rfl ?_
  refine o_load1 trivial rfl Tryz.isAgg5 rfl (by repeat constructor) (by repeat constructor) ?_
  refine o_rem trivial rfl rfl rfl (by omega) ?_
  first | refine o_convIn trivial rfl Tryz.underlying5 Tryz.underlying3 rfl (by rw [IntWalk.i64_in _ (by omega)]) ?_ | refine o_conv trivial rfl Tryz.underlying5 Tryz.underlying3 rfl ?_
  first | (refine o_add trivial rfl rfl rfl ?_ ?_; (omega)) | refine o_pv trivial rfl rfl ?_
  refine o_pv trivial rfl rfl ?_
  refine o_nil (then_c (c_seq (c_region ?_)))
  refine o_fieldAddr (T := 5) (off := 1) trivial rfl Tryz.underlying67 rfl rfl rfl Tryz.sizeOf5 rfl rfl ?_
  refine o_load1 trivial rfl Tryz.isAgg5 rfl (by repeat constructor) (by repeat constructor) ?_
  first | refine o_convIn trivial rfl Tryz.underlying5 Tryz.underlying3 rfl (by rw [IntWalk.i64_in _ (by omega)]) ?_ | refine o_conv trivial rfl Tryz.underlying5 Tryz.underlying3 rfl ?_
  refine o_pv trivial rfl rfl ?_
  refine o_rem trivial rfl rfl rfl (by omega) ?_
  refine o_pv trivial rfl rfl ?_
  refine o_nil (then_c (c_seq (c_region ?_)))
  refine o_fieldAddr (T := 5) (off := 2) trivial rfl Tryz.underlying67 rfl rfl rfl Tryz.sizeOf5 rfl rfl ?_
  refine o_load1 trivial rfl Tryz.isAgg5 rfl (by repeat constructor) (by repeat constructor) ?_
  first | refine o_convIn trivial rfl Tryz.underlying5 Tryz.underlying3 rfl (by rw [IntWalk.i64_in _ (by omega)]) ?_ | refine o_conv trivial rfl Tryz.underlying5 Tryz.underlying3 rfl ?_
  refine o_pv trivial rfl rfl ?_
  refine o_rem trivial rfl rfl rfl (by omega) ?_
  refine o_pv trivial rfl rfl ?_
  refine o_nil (then_c (c_seq (c_block (c_seq (c_region ?_)))))
  iterate 3 refine o_pv trivial rfl rfl ?_
  refine o_nil (then_c ?_)
  refine c_cond rfl (fun h1 => ?_) (fun h1 => ?_)
  ·
   have f1 := h1
   try simp only [bl] at f1
   refine c_seq (c_region ?_)
   refine o_fieldAddr (T := 5) (off := 3) trivial rfl Tryz.underlying67 rfl rfl rfl Tryz.sizeOf5 rfl rfl ?_
   refine o_load1 trivial rfl Tryz.isAgg5 rfl (by repeat constructor) (by repeat constructor) ?_
   refine o_conv trivial rfl Tryz.underlying5 Tryz.underlying64 rfl ?_
   refine o_fieldAddr (T := 5) (off := 2) trivial rfl Tryz.underlying67 rfl rfl rfl Tryz.sizeOf5 rfl rfl ?_
   refine o_load1 trivial rfl Tryz.isAgg5 rfl (by repeat constructor) (by repeat constructor) ?_
   refine o_rem trivial rfl rfl rfl (by omega) ?_
   have e5 : t.b % 5 = ((t.b % 5).toNat : Int) := by omega
   rw [e5]
   refine o_callI trivial rfl Tryz.call26 rfl (rSmall8_any (IntKind.i8.wrap t.n) (t.b % 5).toNat hi (by omega)) ?_
   rintro _ I1 hx1 ⟨u1, u2, rfl, k1, k2⟩
   refine o_buildS trivial rfl (bld35) rfl (.cons rfl rfl rfl (by repeat constructor) (.cons rfl rfl rfl (by repeat constructor) .nil)) ?_
   refine o_store trivial rfl rfl rfl Tryz.sizeOf35 rfl (by first | rfl | (repeat' (first | exact rfl | exact one_nil | refine one_cons ?_ ?_ | exact (Ws.cells1 (by assumption)).2 | exact (Slc.cells1 (by assumption)).2))) (by repeat constructor) (by repeat constructor) ?_
   refine o_nil (then_c (c_ret (blk_r (then_r ?_))))
   refine retR rfl (.agg Tryz.isAgg35 Tryz.sizeOf35 rfl (by repeat constructor) rfl .nil) ?_
   refine leaf hx1 (List.nil_sublist _) ⟨⟨constC (mkRat (IntKind.i8.wrap t.n) ((t.b % 5).toNat + 1)), u1, u2⟩, rfl, ?_, k1, k2⟩
   unfold op14; rw [if_pos f1]
  ·
   have f1 := h1
   try simp only [bl] at f1
   refine c_seq (c_region ?_)
   iterate 3 refine o_pv trivial rfl rfl ?_
   refine o_nil (then_c ?_)
   refine c_cond rfl (fun h2 => ?_) (fun h2 => ?_)
   ·
    have f2 := h2
    try simp only [bl] at f2
    refine c_seq (c_region ?_)
    iterate 3 refine o_pv trivial rfl rfl ?_
    refine o_buildS trivial rfl (bld35) rfl (.cons rfl rfl rfl (by repeat constructor) (.cons rfl rfl rfl (by repeat constructor) (.cons rfl rfl rfl (by repeat constructor) .nil))) ?_
    refine o_store trivial rfl rfl rfl Tryz.sizeOf35 rfl (by first | rfl | (repeat' (first | exact rfl | exact one_nil | refine one_cons ?_ ?_ | exact (Ws.cells1 (by assumption)).2 | exact (Slc.cells1 (by assumption)).2))) (by repeat constructor) (by repeat constructor) ?_
    refine o_nil (then_c (c_ret (blk_r (then_r ?_))))
    refine retR rfl (.agg Tryz.isAgg35 Tryz.sizeOf35 rfl (by repeat constructor) rfl .nil) ?_
    refine leaf0 ⟨⟨⟨1 + t.op % 7, t.a % n, t.b % n, 0, false, [], []⟩, .slice none 0 0, .slice none 0 0⟩, rfl, ?_, Ws.nil _, Ws.nil _⟩
    unfold op14; rw [if_neg f1, if_pos f2]
   ·
    have f2 := h2
    try simp only [bl] at f2
    refine c_seq (c_region ?_)
    iterate 3 refine o_pv trivial rfl rfl ?_
    refine o_nil (then_c ?_)
    refine c_cond rfl (fun h3 => ?_) (fun h3 => ?_)
    ·
     have f3 := h3
     try simp only [bl] at f3
     refine c_seq (c_region ?_)
     refine o_pv trivial rfl rfl ?_
     refine o_buildS trivial rfl (bld35) rfl (.cons rfl rfl rfl (by repeat constructor) (.cons rfl rfl rfl (by repeat constructor) .nil)) ?_
     refine o_store trivial rfl rfl rfl Tryz.sizeOf35 rfl (by first | rfl | (repeat' (first | exact rfl | exact one_nil | refine one_cons ?_ ?_ | exact (Ws.cells1 (by assumption)).2 | exact (Slc.cells1 (by assumption)).2))) (by repeat constructor) (by repeat constructor) ?_
     refine o_nil (then_c (c_ret (blk_r (then_r ?_))))
     refine retR rfl (.agg Tryz.isAgg35 Tryz.sizeOf35 rfl (by repeat constructor) rfl .nil) ?_
     refine leaf0 ⟨⟨⟨6, t.a % n, 0, 0, false, [], []⟩, .slice none 0 0, .slice none 0 0⟩, rfl, ?_, Ws.nil _, Ws.nil _⟩
     unfold op14; rw [if_neg f1, if_neg (by omega), if_pos f3]
    ·
     have f3 := h3
     try simp only [bl] at f3
     refine c_skip (blk_n (then_c (c_seq (c_region ?_))))
     refine o_pv trivial rfl rfl ?_
     refine o_fieldAddr (T := 5) (off := 3) trivial rfl Tryz.underlying67 rfl rfl rfl Tryz.sizeOf5 rfl rfl ?_
     refine o_load1 trivial rfl Tryz.isAgg5 rfl (by repeat constructor) (by repeat constructor) ?_
     refine o_rem trivial rfl rfl rfl (by omega) ?_
     first | refine o_convIn trivial rfl Tryz.underlying5 Tryz.underlying3 rfl (by rw [IntWalk.i64_in _ (by omega)]) ?_ | refine o_conv trivial rfl Tryz.underlying5 Tryz.underlying3 rfl ?_
     first | (refine o_sub trivial rfl rfl rfl ?_ ?_; (omega)) | refine o_pv trivial rfl rfl ?_
     refine o_buildS trivial rfl (bld35) rfl (.cons rfl rfl rfl (by repeat constructor) (.cons rfl rfl rfl (by repeat constructor) (.cons rfl rfl rfl (by repeat constructor) .nil))) ?_
     refine o_store trivial rfl rfl rfl Tryz.sizeOf35 rfl (by first | rfl | (repeat' (first | exact rfl | exact one_nil | refine one_cons ?_ ?_ | exact (Ws.cells1 (by assumption)).2 | exact (Slc.cells1 (by assumption)).2))) (by repeat constructor) (by repeat constructor) ?_
     refine o_nil (then_c (c_ret ?_))
     refine retR rfl (.agg Tryz.isAgg35 Tryz.sizeOf35 rfl (by repeat constructor) rfl .nil) ?_
     refine leaf0 ⟨⟨⟨7, t.a % n, 0, t.n % 7 - 3, false, [], []⟩, .slice none 0 0, .slice none 0 0⟩, rfl, ?_, Ws.nil _, Ws.nil _⟩
     unfold op14; rw [if_neg f1, if_neg (by omega), if_neg f3]
end Go.Proofs.YtjgbjaaekknenaaGreat
/-
  What chapters 14 and 15's laws are handed, opened.
-/
namespace Go.Proofs.YtjgbjaaekknenaaGreat
open Go Go.Tw Go.ChangeShapes Go.WideShapes Go.ChangeAt
set_option linter.unusedVariables false
set_option linter.unusedSimpArgs false
set_option linter.unnecessarySimpa false
set_option maxHeartbeats 1000000
set_option maxRecDepth 100000
section
variable {base : Nat} {H : Type} {enc : TypeId × Value → H} {W : World} {v : Value} {cs : List Value} {d : DataW H} {ps : List MemPlace}
theorem cells_u8 : Tryz.prog.cellsOf 5 = 1 := by kernel_rfl
theorem cells_int : Tryz.prog.cellsOf 3 = 1 := by kernel_rfl
theorem cells_bool : Tryz.prog.cellsOf 4 = 1 := by kernel_rfl
theorem cells_u32 : Tryz.prog.cellsOf 95 = 1 := by kernel_rfl
theorem cells_u32s : Tryz.prog.cellsOf 31 = 1 := by kernel_rfl
theorem cells_rat : Tryz.prog.cellsOf 33 = 3 := by kernel_rfl
theorem cells_op : Tryz.prog.cellsOf 35 = 7 := by kernel_rfl
theorem cells_tape : Tryz.prog.cellsOf 29 = 3 := by kernel_rfl
theorem cells_ops : Tryz.prog.cellsOf 26 = 1 := by kernel_rfl
theorem cells_ints : Tryz.prog.cellsOf 27 = 1 := by kernel_rfl
theorem cells_turn : Tryz.prog.cellsOf 67 = 4 := by kernel_rfl
theorem cells_small : Tryz.prog.cellsOf 70 = 2 := by kernel_rfl
theorem cells_i8 : Tryz.prog.cellsOf 64 = 1 := by kernel_rfl
theorem four {l : List Value} (h : l.length = 4) : ∃ a b c d, l = [a, b, c, d] := by
  match l, h with
  | [a, b, c, d], _ => exact ⟨a, b, c, d, rfl⟩
theorem two {l : List Value} (h : l.length = 2) : ∃ a b, l = [a, b] := by
  match l, h with
  | [a, b], _ => exact ⟨a, b, rfl⟩
theorem three {l : List Value} (h : l.length = 3) : ∃ a b c, l = [a, b, c] := by
  match l, h with
  | [a, b, c], _ => exact ⟨a, b, c, rfl⟩
theorem seven {l : List Value} (h : l.length = 7) : ∃ a b c d e f g, l = [a, b, c, d, e, f, g] := by
  match l, h with
  | [a, b, c, d, e, f, g], _ => exact ⟨a, b, c, d, e, f, g, rfl⟩
theorem tr_words (h : Tr enc Tryz.prog W 31 [v]) : ∃ O, Ws (World.hp W) v O := by
  obtain ⟨xss, h1, h2⟩ := tr_rows Tryz.underlying31 cells_u32 (by decide) h
  obtain ⟨zs, rfl, h3⟩ := tr_ints (sz := 1) Tryz.underlying95 h1 h2
  refine ⟨zs.map Int.toNat, ⟨?_, fun x hx => ?_⟩⟩
  · have e : wcs (zs.map Int.toNat) = zs.map (fun z => [Value.int .u32 z]) := by
      unfold wcs
      rw [List.map_map]
      refine List.map_congr_left fun z hz => ?_
      have := bounds_u32 (h3 z hz)
      show [Value.int .u32 ((z.toNat : Nat) : Int)] = _
      rw [Int.toNat_of_nonneg this.1]
    rw [e]; exact h1
  · obtain ⟨z, hz, rfl⟩ := List.mem_map.1 hx
    have := bounds_u32 (h3 z hz)
    omega
theorem tr_rat (h : Tr enc Tryz.prog W 33 cs) : ∃ x : NV, cs = x.cells ∧ x.ok (World.hp W) := by
  obtain ⟨h1, h2⟩ := tr_struct Tryz.underlying33 h
  obtain ⟨a, b, c, rfl⟩ := three (by rw [h1]; exact cells_rat)
  have k0 := h2 0 _ rfl
  have k1 := h2 1 _ rfl
  have k2 := h2 2 _ rfl
  change Tr enc Tryz.prog W 4 (List.take (Tryz.prog.cellsOf 4) [a, b, c]) at k0
  change Tr enc Tryz.prog W 31 (List.take (Tryz.prog.cellsOf 31) [b, c]) at k1
  change Tr enc Tryz.prog W 31 (List.take (Tryz.prog.cellsOf 31) [c]) at k2
  rw [cells_bool] at k0
  rw [cells_u32s] at k1 k2
  obtain ⟨s, rfl⟩ := tr_bool Tryz.underlying4 k0
  obtain ⟨n, hn⟩ := tr_words k1
  obtain ⟨dd, hd⟩ := tr_words k2
  exact ⟨⟨s, n, dd, b, c⟩, rfl, hn, hd⟩
theorem tr_turn (h : Tr enc Tryz.prog W 67 cs) : ∃ x : TurnC, cs = x.cells ∧ x.ok := by
  obtain ⟨h1, h2⟩ := tr_struct Tryz.underlying67 h
  obtain ⟨a, b, c, d, rfl⟩ := four (by rw [h1]; exact cells_turn)
  have k0 := h2 0 _ rfl
  have k1 := h2 1 _ rfl
  have k2 := h2 2 _ rfl
  have k3 := h2 3 _ rfl
  change Tr enc Tryz.prog W 5 (List.take (Tryz.prog.cellsOf 5) [a, b, c, d]) at k0
  change Tr enc Tryz.prog W 5 (List.take (Tryz.prog.cellsOf 5) [b, c, d]) at k1
  change Tr enc Tryz.prog W 5 (List.take (Tryz.prog.cellsOf 5) [c, d]) at k2
  change Tr enc Tryz.prog W 5 (List.take (Tryz.prog.cellsOf 5) [d]) at k3
  rw [cells_u8] at k0 k1 k2 k3
  obtain ⟨z0, rfl, b0⟩ := tr_int Tryz.underlying5 k0
  obtain ⟨z1, rfl, b1⟩ := tr_int Tryz.underlying5 k1
  obtain ⟨z2, rfl, b2⟩ := tr_int Tryz.underlying5 k2
  obtain ⟨z3, rfl, b3⟩ := tr_int Tryz.underlying5 k3
  exact ⟨⟨z0, z1, z2, z3⟩, rfl, bounds_u8 b0, bounds_u8 b1, bounds_u8 b2, bounds_u8 b3⟩
theorem open_Tn (hval : Value.okWide Tryz.prog W .any base 23 v) (h : DataW.Trod enc Tryz.prog W 0 (fun _ => true) true 23 v d ps) : ∃ ts, TnV (World.hp W) v ts := by
  obtain ⟨xss, h1, h2⟩ := tr_rows (sz := 4) Tryz.underlying23 cells_turn (by decide) (tr_of_slice Tryz.underlying23 hval h)
  obtain ⟨ts, rfl, h3⟩ := rows_map (f := TurnC.cells) (p := TurnC.ok) fun c hc => tr_turn (h2 c hc)
  exact ⟨ts, h1, h3⟩
theorem tr_small (h : Tr enc Tryz.prog W 70 cs) : ∃ x : SmallC, cs = x.cells ∧ x.ok := by
  obtain ⟨h1, h2⟩ := tr_struct Tryz.underlying70 h
  obtain ⟨a, b, rfl⟩ := two (by rw [h1]; exact cells_small)
  have k0 := h2 0 _ rfl
  have k1 := h2 1 _ rfl
  change Tr enc Tryz.prog W 64 (List.take (Tryz.prog.cellsOf 64) [a, b]) at k0
  change Tr enc Tryz.prog W 5 (List.take (Tryz.prog.cellsOf 5) [b]) at k1
  rw [cells_i8] at k0
  rw [cells_u8] at k1
  obtain ⟨z0, rfl, b0⟩ := tr_int Tryz.underlying64 k0
  obtain ⟨z1, rfl, b1⟩ := tr_int Tryz.underlying5 k1
  exact ⟨⟨z0, z1⟩, rfl, bounds_i8 b0, bounds_u8 b1⟩
theorem open_Sm (hval : Value.okWide Tryz.prog W .any base 24 v) (h : DataW.Trod enc Tryz.prog W 0 (fun _ => true) true 24 v d ps) : ∃ ts, SmV (World.hp W) v ts := by
  obtain ⟨xss, h1, h2⟩ := tr_rows (sz := 2) Tryz.underlying24 cells_small (by decide) (tr_of_slice Tryz.underlying24 hval h)
  obtain ⟨ts, rfl, h3⟩ := rows_map (f := SmallC.cells) (p := SmallC.ok) fun c hc => tr_small (h2 c hc)
  exact ⟨ts, h1, h3⟩
theorem open_By (hval : Value.okWide Tryz.prog W .any base 22 v) (h : DataW.Trod enc Tryz.prog W 0 (fun _ => true) true 22 v d ps) : ∃ l, ByV (World.hp W) v l := by
  obtain ⟨xss, h1, h2⟩ := tr_rows (sz := 1) Tryz.underlying22 cells_u8 (by decide) (tr_of_slice Tryz.underlying22 hval h)
  obtain ⟨zs, rfl, h3⟩ := tr_ints (sz := 1) Tryz.underlying5 h1 h2
  exact ⟨zs, h1, fun z hz => bounds_u8 (h3 z hz)⟩
theorem open_Pt (hval : Value.okWide Tryz.prog W .any base 37 v) (h : DataW.Trod enc Tryz.prog W 0 (fun _ => true) true 37 v d ps) : ∃ xs, PtV (World.hp W) v xs := by
  obtain ⟨xss, h1, h2⟩ := tr_rows (sz := 3) Tryz.underlying37 cells_rat (by decide) (tr_of_slice Tryz.underlying37 hval h)
  obtain ⟨ts, rfl, h3⟩ := rows_map (f := NV.cells) (p := fun x => x.ok (World.hp W)) fun c hc => tr_rat (h2 c hc)
  exact ⟨ts, h1, h3⟩
theorem tr_op (h : Tr enc Tryz.prog W 35 cs) : ∃ o : OpV, cs = o.cells ∧ o.ok (World.hp W) := by
  obtain ⟨h1, h2⟩ := tr_struct Tryz.underlying35 h
  obtain ⟨a, b, c, d, e, f, g, rfl⟩ := seven (by rw [h1]; exact cells_op)
  have k0 := h2 0 _ rfl
  have k1 := h2 1 _ rfl
  have k2 := h2 2 _ rfl
  have k3 := h2 3 _ rfl
  have k4 := h2 4 _ rfl
  change Tr enc Tryz.prog W 3 (List.take (Tryz.prog.cellsOf 3) [a, b, c, d, e, f, g]) at k0
  change Tr enc Tryz.prog W 3 (List.take (Tryz.prog.cellsOf 3) [b, c, d, e, f, g]) at k1
  change Tr enc Tryz.prog W 3 (List.take (Tryz.prog.cellsOf 3) [c, d, e, f, g]) at k2
  change Tr enc Tryz.prog W 3 (List.take (Tryz.prog.cellsOf 3) [d, e, f, g]) at k3
  change Tr enc Tryz.prog W 33 (List.take (Tryz.prog.cellsOf 33) [e, f, g]) at k4
  rw [cells_int] at k0 k1 k2 k3
  rw [cells_rat] at k4
  obtain ⟨z0, rfl, b0⟩ := tr_int Tryz.underlying3 k0
  obtain ⟨z1, rfl, b1⟩ := tr_int Tryz.underlying3 k1
  obtain ⟨z2, rfl, b2⟩ := tr_int Tryz.underlying3 k2
  obtain ⟨z3, rfl, b3⟩ := tr_int Tryz.underlying3 k3
  obtain ⟨x, hx, hn, hd⟩ := tr_rat k4
  obtain ⟨rfl, h5⟩ := List.cons.inj hx
  obtain ⟨rfl, h6⟩ := List.cons.inj h5
  obtain ⟨rfl, _⟩ := List.cons.inj h6
  exact ⟨⟨⟨z0, z1, z2, z3, x.neg, x.n, x.d⟩, x.vn, x.vd⟩, rfl, hn, hd⟩
theorem open_Tp (hval : Value.okWide Tryz.prog W .any base 29 v) (h : DataW.Trod enc Tryz.prog W 0 (fun _ => true) true 29 v d ps) : ∃ (t : TapeC) (vo vu : Value) (os : List OpV), v = .agg #[.int .i64 t.ins, vo, vu] ∧ TapeV (World.hp W) vo vu t os := by
  obtain ⟨cs, rfl, hh⟩ := tr_of_struct Tryz.underlying29 hval h
  obtain ⟨h1, h2⟩ := tr_struct Tryz.underlying29 hh
  obtain ⟨a, b, c, rfl⟩ := three (by rw [h1]; exact cells_tape)
  have k0 := h2 0 _ rfl
  have k1 := h2 1 _ rfl
  have k2 := h2 2 _ rfl
  change Tr enc Tryz.prog W 3 (List.take (Tryz.prog.cellsOf 3) [a, b, c]) at k0
  change Tr enc Tryz.prog W 26 (List.take (Tryz.prog.cellsOf 26) [b, c]) at k1
  change Tr enc Tryz.prog W 27 (List.take (Tryz.prog.cellsOf 27) [c]) at k2
  rw [cells_int] at k0
  rw [cells_ops] at k1
  rw [cells_ints] at k2
  obtain ⟨z0, rfl, b0⟩ := tr_int Tryz.underlying3 k0
  obtain ⟨xss, s1, s2⟩ := tr_rows (sz := 7) Tryz.underlying26 cells_op (by decide) k1
  obtain ⟨os, rfl, s3⟩ := rows_map (f := OpV.cells) (p := fun x => x.ok (World.hp W)) fun c hc => tr_op (s2 c hc)
  obtain ⟨yss, u1, u2⟩ := tr_rows (sz := 1) Tryz.underlying27 cells_int (by decide) k2
  obtain ⟨zs, rfl, u3⟩ := tr_ints (sz := 1) Tryz.underlying3 u1 u2
  exact ⟨⟨z0, os.map OpV.c, zs⟩, b, c, os, rfl, s1, s3, rfl, u1⟩
end
end Go.Proofs.YtjgbjaaekknenaaGreat
/-
  A seat whose rows lay no tables: closed facts of the program's, and a world.
-/
namespace Go.Proofs.YtjgbjaaekknenaaGreat
open Go Go.Tw Go.Lib
set_option linter.unusedVariables false
set_option linter.unusedSimpArgs false
set_option linter.unnecessarySimpa false
set_option maxHeartbeats 1000000
theorem own : ownKnob Tryz.prog.godebug = none := by kernel_rfl
theorem laidOut : laidOutB Tryz.prog = true := by kernel_rfl
noncomputable def laidWorld (os : Os) : World := World.holding Tryz.prog os ⟨#[], #[], []⟩
end Go.Proofs.YtjgbjaaekknenaaGreat
/-
  Chapter 15's laws: ValueTells.
-/
namespace Go.Proofs.YtjgbjaaekknenaaGreat
open Go Go.Tw
set_option linter.unusedVariables false
set_option linter.unusedSimpArgs false
set_option linter.unnecessarySimpa false
set_option maxHeartbeats 1000000
theorem ValueTells_any (t : TapeC) (vo vu vx : Value) (os : List OpV) (xs : List NV) {I : Hp} (ht : TapeV I vo vu t os) (hpt : PtV I vx xs) : Fun Tryz.prog 4 [.agg #[.int .i64 t.ins, vo, vu], vx] I [] (fun v _ _ => v = .bool true) := by
  have hxl : (xs.map NV.cells).length = xs.length := List.length_map _
  intro w hw
  refine enter2 _ Tryz.func4 rfl Tryz.ntmps4 rfl ?_ hw
  refine c_seq (c_region ?_)
  refine o_box trivial rfl rfl rfl (fun b2 => ?_)
  refine o_pv trivial rfl rfl ?_
  refine o_nil (then_c (c_seq (c_region ?_)))
  refine o_callQ trivial rfl Tryz.call6 rfl awake15_any ?_
  refine o_pv trivial rfl rfl ?_
  refine o_nil (then_c (c_seq (c_region ?_)))
  refine o_loadA trivial rfl Tryz.isAgg29 Tryz.sizeOf29 rfl (by repeat constructor) (by repeat constructor) ?_
  refine o_callQ trivial rfl Tryz.call12 rfl (fewR_any t vo vu os 8 ht) ?_
  refine o_pv trivial rfl rfl ?_
  refine o_nil (then_c (c_seq (c_region ?_)))
  refine o_pv trivial rfl rfl ?_
  refine o_callQ trivial rfl Tryz.call13 rfl (rFew_any vx xs 2 hpt) ?_
  refine o_pv trivial rfl rfl ?_
  refine o_nil (then_c (c_seq (c_seq (c_region ?_))))
  iterate 2 refine o_pv trivial rfl rfl ?_
  refine' o_or trivial trivial rfl rfl rfl rfl rfl rfl rfl rfl (fun hb26 => ?_) ?_
  rotate_left
  ·
   have fb26 := hb26
   try simp only [bl] at fb26
   iterate 2 refine o_pv (wants_some rfl rfl hb26) rfl rfl ?_
   refine o_nil ?_
   exact joins rfl
  refine' o_or trivial trivial rfl rfl rfl rfl rfl rfl rfl rfl (fun hb30 => ?_) ?_
  rotate_left
  ·
   have fb30 := hb30
   try simp only [bl] at fb30
   refine o_pv (wants_some rfl rfl hb30) rfl rfl ?_
   refine o_lenSlc (wants_some rfl rfl hb30) rfl Tryz.underlying37 rfl (hpt.s) ?_
   refine o_pv (wants_some rfl rfl hb30) rfl rfl ?_
   refine o_nil ?_
   exact joins rfl
  refine o_nil (then_c ?_)
  refine c_cond rfl (fun h1 => ?_) (fun h1 => ?_)
  ·
   have f1 := h1
   try simp only [bl] at f1
   refine c_seq (c_region ?_)
   iterate 2 refine o_pv trivial rfl rfl ?_
   refine o_nil (then_c (c_ret (then_r ?_)))
   refine ret1 rfl rfl ?_
   exact leaf0 rfl
  ·
   have f1 := h1
   try simp only [bl] at f1
   obtain ⟨⟨g1, g2⟩, g3⟩ := f1
   have hf : ∀ o ∈ t.ops, OpC.few 3000 o := fun o ho => by
     unfold fewT at g1
     rw [Bool.and_eq_true] at g1
     have := List.all_eq_true.1 g1.2 o ho
     rw [decide_eq_true_eq] at this
     exact ⟨by omega, by omega⟩
   have hxs : ∀ x ∈ xs, x.n.length ≤ 2 ∧ x.d.length ≤ 2 := fun x hx => by
     have := List.all_eq_true.1 g2 x hx
     rw [decide_eq_true_eq] at this
     exact ⟨by omega, by omega⟩
   obtain ⟨hb1, hb2⟩ := tape_bd (t := t) (xs := xs) hf (fun x hx => NV.bd (hpt.ok x hx) (by have := hxs x hx; omega) (by have := hxs x hx; omega)) (fun x hx => by have := hxs x hx; omega)
   refine c_skip (then_c (c_seq (c_region ?_)))
   refine o_pv trivial rfl rfl ?_
   refine o_nil (then_c (c_seq (c_region ?_)))
   refine o_loadA trivial rfl Tryz.isAgg29 Tryz.sizeOf29 rfl (by repeat constructor) (by repeat constructor) ?_
   refine o_callI trivial rfl Tryz.call14 rfl (weightsR_any t vo vu os ht hf) ?_
   rintro u1 I1 hx1 hs1
   refine o_pv trivial rfl rfl ?_
   refine o_nil (then_c (c_seq (c_seq ?_)))
   have hn1 := nls_len ((tapeW t).getD [])
   have hm1 := hs1.most
   unfold maxLen at hm1
   refine c_region ?_
   refine o_pv trivial rfl rfl ?_
   refine o_nil (then_c (c_block ?_))
   refine c_loop (ι := Nat × Bool) [1, 2, 5, 9] (.cons rfl (.cons rfl (.cons rfl (.cons rfl .nil)))) (fun x => (nls ((tapeW t).getD [])).length - x.1) (fun x E0 => (8, .bool x.2) :: (10, .int .i64 (x.1 : Nat)) :: E0) (fun x => St w [] I1 [.box b2 (.cells ([.int .i64 t.ins, vo, vu] : List Value).toArray 29 (0, 0))]) (fun x => x.1 ≤ (nls ((tapeW t).getD [])).length) ((0, false)) (sub_cons rfl (sub_cons rfl (sub_cons rfl (sub_cons rfl (sub_cons rfl (sub_cons rfl sub_nil)))))) (fun _ h => h) (Nat.zero_le _) ?_
   rintro ⟨i, hv⟩ hi
   try dsimp only
   simp only at hi
   refine c_seq (c_seq (c_region ?_))
   iterate 2 refine o_pv trivial rfl rfl ?_
   refine o_lenSlc trivial rfl Tryz.underlying27 rfl (hs1) ?_
   refine o_pv trivial rfl rfl ?_
   refine o_nil (then_c ?_)
   refine c_cond rfl (fun h2 => ?_) (fun h2 => ?_)
   ·
    have f2 := h2
    try simp only [bl] at f2
    obtain ⟨k, hk⟩ : ∃ k, ((tapeW t).getD [])[i]? = some k := ⟨_, List.getElem?_eq_getElem (by rw [← hn1]; omega)⟩
    refine c_skip (then_c (c_seq (c_block (c_region ?_))))
    refine o_pv trivial rfl rfl ?_
    refine' o_or trivial trivial rfl rfl rfl rfl rfl rfl rfl rfl (fun hb45 => ?_) ?_
    rotate_left
    ·
     have fb45 := hb45
     try simp only [bl] at fb45
     iterate 2 refine o_pv (wants_some rfl rfl hb45) rfl rfl ?_
     refine o_elem (wants_some rfl rfl hb45) rfl Tryz.underlying27 Tryz.sizeOf3 rfl (hs1) rfl (by omega) ?_
     refine o_load1I (wants_some rfl rfl hb45) rfl Tryz.isAgg3 rfl (hs1.cells i _ (by unfold nls; rw [List.getElem?_map, hk]; rfl) 0 _ rfl) ?_
     refine o_pv (wants_some rfl rfl hb45) rfl rfl ?_
     refine o_nil ?_
     exact joins rfl
    refine o_pv trivial rfl rfl ?_
    refine o_nil (blk_n (then_c (c_region ?_)))
    refine o_pv trivial rfl rfl ?_
    first | (refine o_add trivial rfl rfl rfl ?_ ?_; (omega)) | refine o_pv trivial rfl rfl ?_
    refine o_pv trivial rfl rfl ?_
    refine o_nil ?_
    exact again (i + 1, hv || decide (((k : Nat) : Int) > 20)) (sub_cons rfl (sub_cons rfl (sub_cons rfl (sub_cons rfl (sub_cons rfl (sub_cons rfl sub_nil)))))) (fun _ h => h) (by show _ - (i + 1) < _ - i; omega) (by show i + 1 ≤ _; omega)
   ·
    have f2 := h2
    try simp only [bl] at f2
    refine c_exit (then_x (then_x (blk_eq rfl (then_c (c_seq (c_seq (c_region ?_)))))))
    refine o_pv trivial rfl rfl ?_
    refine o_nil (then_c ?_)
    refine c_cond rfl (fun h3 => ?_) (fun h3 => ?_)
    ·
     have f3 := h3
     try simp only [bl] at f3
     refine c_seq (c_region ?_)
     iterate 2 refine o_pv trivial rfl rfl ?_
     refine o_nil (then_c (c_ret (then_r ?_)))
     refine ret1 rfl rfl ?_
     exact leaf hx1 (List.nil_sublist _) rfl
    ·
     have f3 := h3
     try simp only [bl] at f3
     refine c_skip (then_c (c_seq (c_region ?_)))
     refine o_loadA trivial rfl Tryz.isAgg29 Tryz.sizeOf29 rfl (by repeat constructor) (by repeat constructor) ?_
     refine o_pv trivial rfl rfl ?_
     refine o_callI trivial rfl Tryz.call15 rfl (exR_fun (eval_any t vo vu vx os xs (ht.le hx1.le) (hpt.le hx1.le) hb2) evalZ_ne) ?_
     rintro _ I2 hx2 ⟨u2, rfl, r2⟩
     iterate 5 refine o_pv trivial rfl rfl ?_
     refine o_nil (then_c (c_seq (c_region ?_)))
     refine o_loadA trivial rfl Tryz.isAgg29 Tryz.sizeOf29 rfl (by repeat constructor) (by repeat constructor) ?_
     refine o_pv trivial rfl rfl ?_
     refine o_callI trivial rfl Tryz.call16 rfl (exR_fun (eval15_any t vo vu vx os xs (ht.le (hx1.le.trans hx2.le)) (hpt.le (hx1.le.trans hx2.le)) hb1) evalZ_ne) ?_
     rintro _ I3 hx3 ⟨u3, rfl, r3⟩
     iterate 5 refine o_pv trivial rfl rfl ?_
     refine o_nil (then_c (c_seq (c_region ?_)))
     refine o_loadA trivial rfl Tryz.isAgg29 Tryz.sizeOf29 rfl (by repeat constructor) (by repeat constructor) ?_
     refine o_pv trivial rfl rfl ?_
     refine o_callI trivial rfl Tryz.call10 rfl (exR_fun (outs_any t vo vu vx os xs (ht.le (hx1.le.trans (hx2.le.trans hx3.le))) (hpt.le (hx1.le.trans (hx2.le.trans hx3.le))) hb2) outsZ_ne) ?_
     rintro _ I4 hx4 ⟨u4, rfl, r4⟩
     iterate 5 refine o_pv trivial rfl rfl ?_
     refine o_nil (then_c (c_seq (c_region ?_)))
     refine o_loadA trivial rfl Tryz.isAgg29 Tryz.sizeOf29 rfl (by repeat constructor) (by repeat constructor) ?_
     refine o_pv trivial rfl rfl ?_
     refine o_callI trivial rfl Tryz.call17 rfl (exR_fun (outs15_any t vo vu vx os xs (ht.le (hx1.le.trans (hx2.le.trans (hx3.le.trans hx4.le)))) (hpt.le (hx1.le.trans (hx2.le.trans (hx3.le.trans hx4.le)))) hb1) outsZ_ne) ?_
     rintro _ I5 hx5 ⟨u5, rfl, r5⟩
     iterate 5 refine o_pv trivial rfl rfl ?_
     refine o_nil (then_c (c_seq (c_region ?_)))
     refine o_pv trivial rfl rfl ?_
     refine' o_and trivial trivial rfl rfl rfl rfl rfl rfl rfl rfl (fun hb79 => ?_) ?_
     rotate_left
     ·
      iterate 3 refine o_pv (wants_some rfl rfl hb79) rfl rfl ?_
      refine o_nil ?_
      exact joins rfl
     refine' o_and trivial trivial rfl rfl rfl rfl rfl rfl rfl rfl (fun hb84 => ?_) ?_
     rotate_left
     ·
      have fb84 := hb84
      try simp only [bl] at fb84
      iterate 2 refine o_pv (wants_some rfl rfl hb84) rfl rfl ?_
      refine o_callQ (wants_some rfl rfl hb84) rfl Tryz.call11 rfl (rAll_any _ _ _ _ (r2.le (hx3.le.trans (hx4.le.trans hx5.le))) (r3.le (hx4.le.trans hx5.le))) ?_
      refine o_nil ?_
      exact joins rfl
     refine' o_and trivial trivial rfl rfl rfl rfl rfl rfl rfl rfl (fun hb89 => ?_) ?_
     rotate_left
     ·
      iterate 3 refine o_pv (wants_some rfl rfl hb89) rfl rfl ?_
      refine o_nil ?_
      exact joins rfl
     refine' o_and trivial trivial rfl rfl rfl rfl rfl rfl rfl rfl (fun hb94 => ?_) ?_
     rotate_left
     ·
      have fb94 := hb94
      try simp only [bl] at fb94
      iterate 2 refine o_pv (wants_some rfl rfl hb94) rfl rfl ?_
      refine o_callQ (wants_some rfl rfl hb94) rfl Tryz.call11 rfl (rAll_any _ _ _ _ (r4.le hx5.le) r5) ?_
      refine o_nil ?_
      exact joins rfl
     refine' o_and trivial trivial rfl rfl rfl rfl rfl rfl rfl rfl (fun hb99 => ?_) ?_
     rotate_left
     ·
      have fb99 := hb99
      try simp only [bl] at fb99
      refine o_loadA (wants_some rfl rfl hb99) rfl Tryz.isAgg29 Tryz.sizeOf29 rfl (by repeat constructor) (by repeat constructor) ?_
      refine o_pv (wants_some rfl rfl hb99) rfl rfl ?_
      refine o_callQ (wants_some rfl rfl hb99) rfl Tryz.call18 rfl (inside_any t vo vu vx os xs (ht.le (hx1.le.trans (hx2.le.trans (hx3.le.trans (hx4.le.trans hx5.le))))) (hpt.le (hx1.le.trans (hx2.le.trans (hx3.le.trans (hx4.le.trans hx5.le))))) hb2) ?_
      iterate 2 refine o_pv (wants_some rfl rfl hb99) rfl rfl ?_
      refine o_eqlB (wants_some rfl rfl hb99) rfl rfl rfl Tryz.underlying4 ?_
      refine o_nil ?_
      exact joins rfl
     refine o_pv trivial rfl rfl ?_
     refine o_nil (then_c (c_ret ?_))
     refine ret1 rfl rfl ?_
     refine leaf (hx1.trans (hx2.trans (hx3.trans (hx4.trans hx5 (Nat.le_refl _)) (Nat.le_refl _)) (Nat.le_refl _)) (Nat.le_refl _)) (List.nil_sublist _) (congrArg Value.bool ?_); have e0 : decide (errOf (evalZ t xs) = 0) = (errOf (evalZ t xs) == 0) := by (rw [Bool.eq_iff_iff]; simp)
     simp [e0]
end Go.Proofs.YtjgbjaaekknenaaGreat
/-
  ValueTells: whatever the input, the law answers true, and its arguments read as they did. Conditions: the row's own, no more.
-/
namespace Go.Proofs.YtjgbjaaekknenaaGreat.valueTells
open Go Go.Tw Go.ChangeMaps Go.ChangeShapes Go.WideShapes Go.ChangeAt Go.RowKit
set_option linter.unusedVariables false
set_option linter.unusedSimpArgs false
set_option linter.unnecessarySimpa false
set_option maxHeartbeats 1000000
set_option maxRecDepth 100000 in
theorem contract (H : Type) (enc : TypeId × Value → H) (W : World) (base : Nat) (args : Array Value) (ds gs : List (DataW H)) (before : List MemPlace)
    (hval : ∀ (j : Nat) t v, Tryz.f4.params[j]? = some t → args[j]? = some v → Value.okWide Tryz.prog W .any base t v)
    (hW : DataW.Whole enc Tryz.prog Tryz.f4.params.toList Rows.valueTellsSpec.vars false W args.toList ds gs before) :
    Calls Tryz.prog 4 args W fun e W' => ∃ v, e = .returned v ∧ Rows.valueTellsSpec.post enc Tryz.prog Tryz.f4 false true false false W args v W' := by
  have hW' := hW
  obtain ⟨p, q, hA0, hV, rfl, hfz, hnd⟩ := hW
  have hA : DataW.TrodAll enc Tryz.prog W 0 (fun _ => true) true Tryz.f4.params.toList args.toList ds p := hA0
  rw [Tryz.params4] at hA hval
  obtain ⟨rfl, rfl⟩ := trodVars_none hV
  obtain ⟨v0, vs0, d0, ds0, p0, q0, hargs, rfl, rfl, k0, r0⟩ := trodAll_cons hA
  obtain ⟨v1, vs1, d1, ds1, p1, q1, rfl, rfl, rfl, k1, r1⟩ := trodAll_cons r0
  obtain ⟨rfl, rfl, rfl⟩ := trodAll_nil r1
  obtain rfl : args = #[v0, v1] := by cases args; simp_all
  obtain ⟨y0, a0, b0, o0, rfl, h0⟩ := open_Tp (hval 0 29 v0 rfl rfl) k0
  obtain ⟨y1, h1⟩ := open_Pt (hval 1 37 v1 rfl rfl) k1
  refine (calls_of_fun (vs := [.agg #[.int .i64 y0.ins, a0, b0], v1]) (ValueTells_any y0 a0 b0 v1 o0 y1 h0 h1)).mono fun e W' ⟨he, hb⟩ => ?_
  subst he
  exact ⟨_, rfl, post_true hW' rfl rfl rfl Tryz.underlying4 laidOut (by rw [Tryz.params4]; kernel_rfl) hb⟩
theorem laid_met (os : Os) : laidMet Tryz.prog Rows.valueTellsRow.laid ((laidWorld os).forCall (fun _ _ => 0) ⟨#[], #[.agg #[.int .i64 0, .slice none 0 0, .slice none 0 0], .slice none 0 0], []⟩).memory :=
  laidMet_of_run' 8 (by kernel_rfl) (by kernel_rfl)
theorem reads (os : Os) {H : Type} (enc : TypeId × Value → H) : ∃ places, DataW.whole enc Tryz.prog ((laidWorld os).forCall (fun _ _ => 0) ⟨#[], #[.agg #[.int .i64 0, .slice none 0 0, .slice none 0 0], .slice none 0 0], []⟩).memory Tryz.f4.params.toList Rows.valueTellsSpec.vars false (#[.agg #[.int .i64 0, .slice none 0 0, .slice none 0 0], .slice none 0 0] : Array Value).toList 8 = some ([.agg [.lit (.int .i64 0), .nil, .nil], .nil], [], places) :=
  ⟨[], by kernel_rfl⟩
set_option maxRecDepth 100000 in
theorem lifted (os : Os) (started : os.Started) (H : Type) (enc : TypeId × Value → H) (F : Stop.Interp) :
    ReturnsInHanded {} Tryz.checked os 4 .any ((OpenSpec.ofChange Rows.valueTellsSpec).preRow enc Tryz.prog Tryz.f4 Rows.valueTellsRow.domain false Rows.valueTellsRow.laid) (((OpenSpec.ofChange Rows.valueTellsSpec).at F).post enc Tryz.prog Tryz.f4 false true false false) := by
  obtain ⟨places, hx⟩ := reads os enc
  refine returnsInHanded_of_row (C := Tryz.checked) (s := OpenSpec.ofChange Rows.valueTellsSpec) own started (by kernel_rfl) Tryz.func4
    (witness_row_at (enc := enc) (C := Tryz.checked) false (laidWorld os) #[.agg #[.int .i64 0, .slice none 0 0, .slice none 0 0], .slice none 0 0] rfl (by kernel_rfl) (by kernel_rfl) (by kernel_rfl)
      (OpenSpec.preRow_of_cond 8 hx (by kernel_rfl) (fun k hk => by cases hk) (by kernel_rfl) (laid_met os))) ?_
  intro W base args ds gs before hval hW _ _ _ _ _ _
  exact contract H enc W base args ds gs before hval hW
theorem said : Rows.ValueTellsSaid :=
  OpenClaim.holds_of_cond 4 Tryz.f4 rfl rfl rfl rfl rfl rfl rfl ⟨rfl, rfl, rfl, rfl, rfl⟩ rfl rfl rfl rfl rfl (by kernel_rfl) Tryz.func4 (by kernel_rfl)
    (of_decide_eq_true (by kernel_rfl)) (by unfold Func.isWrapper; first | (rw [if_pos (by decide +kernel)]; kernel_rfl) | (rw [if_neg (by decide +kernel)]; exact ⟨rfl, rfl⟩))
    (fun os started H enc _ F => by rw [OpenClaim.pre_eq_preRow]; exact lifted os started H enc F)
end Go.Proofs.YtjgbjaaekknenaaGreat.valueTells
namespace Go.Proofs.YtjgbjaaekknenaaGreat
/-- The given statement. -/
theorem valueTells_holds : Rows.ValueTellsSaid := valueTells.said
#print axioms valueTells_holds
end Go.Proofs.YtjgbjaaekknenaaGreat
