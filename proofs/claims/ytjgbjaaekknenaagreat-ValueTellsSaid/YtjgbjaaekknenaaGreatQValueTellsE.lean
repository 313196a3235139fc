/-
  ValueTells, part 5: the texts Ref1, Ref2, Ref3, Ref4, Ref5, Ref7, Ref8, Ref8b, Ref14 as one.
-/
import Derived.Test.YtjgbjaaekknenaaGreatQValueTellsD
/-
  The document's answers for layers 1, 2, 3.
-/
namespace Go.Tw
open Go Go.RowKit
set_option linter.unusedVariables false
set_option linter.unusedSimpArgs false
set_option linter.unnecessarySimpa false
set_option maxHeartbeats 1000000
theorem wl_more {z : Int} {x : Nat} (O : List Nat) (h : z = x) : wl O ++ [.int .u32 z] = wl (O ++ [x]) := by subst h; simp [wl]
theorem take_more {A : List Nat} {i : Nat} (h : i < A.length) : A.take (i + 1) = A.take i ++ [dg A i] := by
  rw [List.take_add_one, dg_some h]; rfl
theorem eq_of_dg {A B : List Nat} (hl : A.length = B.length) (h : ∀ j, j < A.length → dg A j = dg B j) : A = B := by
  refine List.ext_getElem hl fun i h1 h2 => ?_
  have := h i h1
  rwa [dg_in h1, dg_in h2] at this
theorem cmp_lt {A B : List Nat} (hA : Wds A) (hB : Wds B) {i : Nat} (h : dg A i < dg B i) (he : ∀ t, i < t → dg A t = dg B t) : val A < val B := by
  have key : ∀ k, pre A (i + 1 + k) < pre B (i + 1 + k) := by
    intro k
    induction k with
    | zero =>
      have h1 := pre_lt hA i
      show pre A i + dg A i * 4294967296 ^ i < pre B i + dg B i * 4294967296 ^ i
      have h2 : (dg A i + 1) * 4294967296 ^ i ≤ dg B i * 4294967296 ^ i := Nat.mul_le_mul_right _ h
      rw [Nat.add_mul, Nat.one_mul] at h2
      omega
    | succ k ih =>
      show pre A (i + 1 + k) + dg A (i + 1 + k) * 4294967296 ^ (i + 1 + k) < pre B (i + 1 + k) + dg B (i + 1 + k) * 4294967296 ^ (i + 1 + k)
      rw [he (i + 1 + k) (by omega)]
      omega
  have h1 := key (A.length + B.length)
  rwa [pre_out (by omega), pre_out (by omega)] at h1
theorem val_same {A B : List Nat} (he : ∀ t, dg A t = dg B t) : val A = val B := by
  have h1 : pre A (A.length + B.length) = pre B (A.length + B.length) := pre_same fun j _ => he j
  rwa [pre_out (by omega), pre_out (by omega)] at h1
theorem val_more (O : List Nat) (x : Nat) : val (O ++ [x]) = val O + 4294967296 ^ O.length * x := by
  rw [val_app, val_cons, val_nil, Nat.mul_zero, Nat.add_zero]
theorem Wds.more {O : List Nat} (h : Wds O) {x : Nat} (hx : x < 4294967296) : Wds (O ++ [x]) := h.app (Wds_cons hx Wds_nil)
section
variable {P : Program} {Q : Exit → Act → World → Prop} {n : Nat} {D : List Deferred} {E : Env} {ops : Array Oper} {w0 : World} {I : Hp} {B B' : List Item}
theorem leafWX {w : World} {e : TypeId} {u v : Value} {O : List Nat} {I I1 : Hp} {B : List Item} {R : Value → Hp → List Item → Prop} (he : Ext w.heap.size I I1) (hw : Wds O) (hm : O.length ≤ maxLen) (h : ∀ I', I1.Le I' → Ws I' u O → R v I' []) :
    ∀ w', St w [] I1 (.row u e 1 O.length (wl O) :: B) w' → Post w [] I R v w' := by
  rw [← wcs_flat]
  exact leafRowX he (wcs_len O) (wcs_one O) hm fun I' hl hs => h I' hl ⟨hs, hw⟩
theorem l_sealO {l : List Oper} {e : TypeId} {u : Value} (O : List Nat) (ht : Take (.row u e 1 O.length (wl O)) B B') (hw : Wds O) (hm : O.length ≤ maxLen)
    (k : ∀ I', Ext w0.heap.size I I' → Ws I' u O → TL false P ops Q l n D E (St w0 [] I' B')) : TL false P ops Q l n D E (St w0 [] I B) :=
  l_seal (xss := wcs O) (by rw [wcs_flat]; exact ht) (wcs_len O) (wcs_one O) hm fun I' hx hs => k I' hx ⟨hs, hw⟩
theorem c_sealO {c : Code} {e : TypeId} {u : Value} (O : List Nat) (ht : Take (.row u e 1 O.length (wl O)) B B') (hw : Wds O) (hm : O.length ≤ maxLen)
    (k : ∀ I', Ext w0.heap.size I I' → Ws I' u O → TC P c Q n D E (St w0 [] I' B')) : TC P c Q n D E (St w0 [] I B) :=
  c_sealR (xss := wcs O) (by rw [wcs_flat]; exact ht) (wcs_len O) (wcs_one O) hm fun I' hx hs => k I' hx ⟨hs, hw⟩
end
end Go.Tw
namespace Go.Proofs.YtjgbjaaekknenaaGreat
open Go Go.Tw
set_option linter.unusedVariables false
set_option linter.unusedSimpArgs false
set_option linter.unnecessarySimpa false
set_option maxHeartbeats 1000000
theorem rLow_any (va : Value) (A : List Nat) {I : Hp} (ha : Ws I va A) (hs : A.length ≤ 1000000000) : Fun Tryz.prog 95 [va] I [] (fun v _ _ => v = .int .i64 (lowL A : Nat)) := by
  intro w hw
  refine enter1 _ Tryz.func95 rfl Tryz.ntmps95 rfl ?_ hw
  refine c_seq (c_region ?_)
  refine o_pv trivial rfl rfl ?_
  refine o_nil (then_c (c_seq (c_region ?_)))
  refine o_pv trivial rfl rfl ?_
  refine o_nil (then_c (c_seq (c_seq (c_region ?_))))
  refine o_pv trivial rfl rfl ?_
  refine o_nil (then_c (c_block ?_))
  refine c_loop (ι := Nat) [0] (.cons rfl .nil) (fun i => A.length - i) (fun i E0 => (3, .int .i64 (low A i : Nat)) :: (4, .int .i64 (i : Nat)) :: E0) (fun i => St w [] I []) (fun i => i ≤ A.length) (0) (sub_cons rfl (sub_cons rfl (sub_cons rfl sub_nil))) (fun _ h => h) (Nat.zero_le _) ?_
  rintro i hi
  try dsimp only
  refine c_seq (c_seq (c_region ?_))
  iterate 2 refine o_pv trivial rfl rfl ?_
  refine o_lenW trivial rfl Tryz.underlying31 rfl (ha) ?_
  refine o_pv trivial rfl rfl ?_
  refine o_nil (then_c ?_)
  refine c_cond rfl (fun h1 => ?_) (fun h1 => ?_)
  ·
   have f1 := h1
   try simp only [bl] at f1
   refine c_skip (then_c (c_seq (c_block (c_seq (c_region ?_)))))
   iterate 2 refine o_pv trivial rfl rfl ?_
   refine o_elemW trivial rfl Tryz.underlying31 Tryz.sizeOf95 rfl (ha) rfl (by omega) ?_
   refine o_load1I trivial rfl Tryz.isAgg95 rfl (ha.cellI (k := i) rfl (by omega)) ?_
   refine o_pv trivial rfl rfl ?_
   refine o_nil (then_c ?_)
   refine c_cond rfl (fun h2 => ?_) (fun h2 => ?_)
   ·
    have f2 := h2
    try simp only [bl] at f2
    have hlow : low A (i + 1) = i + 1 := by show (if dg A i = 0 then low A i else i + 1) = i + 1; rw [if_neg (by omega)]
    refine c_region ?_
    refine o_pv trivial rfl rfl ?_
    first | (refine o_add trivial rfl rfl rfl ?_ ?_; (omega)) | refine o_pv trivial rfl rfl ?_
    refine o_pv trivial rfl rfl ?_
    refine o_nil (blk_n (then_c (c_region ?_)))
    refine o_pv trivial rfl rfl ?_
    first | (refine o_add trivial rfl rfl rfl ?_ ?_; (omega)) | refine o_pv trivial rfl rfl ?_
    refine o_pv trivial rfl rfl ?_
    refine o_nil ?_
    exact again (i + 1) (by rw [hlow]; exact (sub_cons rfl (sub_cons rfl (sub_cons rfl sub_nil)))) (fun _ h => h) (by show A.length - (i + 1) < A.length - i; omega) (by show i + 1 ≤ _; omega)
   ·
    have f2 := h2
    try simp only [bl] at f2
    have hlow : low A (i + 1) = low A i := by show (if dg A i = 0 then low A i else i + 1) = low A i; rw [if_pos (by omega)]
    refine c_skip (blk_n (then_c (c_region ?_)))
    refine o_pv trivial rfl rfl ?_
    first | (refine o_add trivial rfl rfl rfl ?_ ?_; (omega)) | refine o_pv trivial rfl rfl ?_
    refine o_pv trivial rfl rfl ?_
    refine o_nil ?_
    exact again (i + 1) (by rw [hlow]; exact (sub_cons rfl (sub_cons rfl (sub_cons rfl sub_nil)))) (fun _ h => h) (by show A.length - (i + 1) < A.length - i; omega) (by show i + 1 ≤ _; omega)
  ·
   have f1 := h1
   try simp only [bl] at f1
   refine c_exit (then_x (then_x (blk_eq rfl (then_c (c_seq (c_region ?_))))))
   iterate 2 refine o_pv trivial rfl rfl ?_
   refine o_nil (then_c (c_ret ?_))
   refine ret1 rfl rfl ?_
   have hie : i = A.length := by omega
   subst hie; exact leaf0 rfl
theorem rWords_any (va vb : Value) (A B : List Nat) {I : Hp} (ha : Ws I va A) (hb : Ws I vb B) : Fun Tryz.prog 46 [va, vb] I [] (fun v _ _ => v = .bool (decide (A = B))) := by
  have hs := ha.most
  unfold maxLen at hs
  intro w hw
  refine enter2 _ Tryz.func46 rfl Tryz.ntmps46 rfl ?_ hw
  refine c_seq (c_region ?_)
  refine o_pv trivial rfl rfl ?_
  refine o_nil (then_c (c_seq (c_seq (c_region ?_))))
  refine o_pv trivial rfl rfl ?_
  refine o_lenW trivial rfl Tryz.underlying31 rfl (ha) ?_
  refine o_pv trivial rfl rfl ?_
  refine o_lenW trivial rfl Tryz.underlying31 rfl (hb) ?_
  refine o_pv trivial rfl rfl ?_
  refine o_nil (then_c ?_)
  refine c_cond rfl (fun h1 => ?_) (fun h1 => ?_)
  ·
   have f1 := h1
   try simp only [bl] at f1
   refine c_seq (c_region ?_)
   refine o_pv trivial rfl rfl ?_
   refine o_nil (then_c (c_ret (then_r ?_)))
   refine ret1 rfl rfl ?_
   refine leaf0 (congrArg Value.bool ?_); rw [decide_eq_false]; intro e; exact f1 (by rw [e])
  ·
   have f1 := h1
   try simp only [bl] at f1
   refine c_skip (then_c (c_seq (c_seq (c_region ?_))))
   refine o_pv trivial rfl rfl ?_
   refine o_nil (then_c (c_block ?_))
   refine c_loop (ι := Nat) [0, 1] (.cons rfl (.cons rfl .nil)) (fun i => A.length - i) (fun i E0 => (5, .int .i64 (i : Nat)) :: E0) (fun i => St w [] I []) (fun i => i ≤ A.length ∧ ∀ j, j < i → dg A j = dg B j) (0) (sub_cons rfl (sub_cons rfl (sub_cons rfl sub_nil))) (fun _ h => h) (⟨Nat.zero_le _, fun j h => absurd h (Nat.not_lt_zero _)⟩) ?_
   rintro i ⟨hi, he⟩
   try dsimp only
   refine c_seq (c_seq (c_region ?_))
   iterate 2 refine o_pv trivial rfl rfl ?_
   refine o_lenW trivial rfl Tryz.underlying31 rfl (ha) ?_
   refine o_pv trivial rfl rfl ?_
   refine o_nil (then_c ?_)
   refine c_cond rfl (fun h2 => ?_) (fun h2 => ?_)
   ·
    have f2 := h2
    try simp only [bl] at f2
    refine c_skip (then_c (c_seq (c_block (c_seq ?_))))
    refine c_quiet (by kernel_rfl) (by kernel_rfl) (fun _ h => h.drawn) ?_
    iterate 2 refine o_pv trivial rfl rfl ?_
    refine o_elemW trivial rfl Tryz.underlying31 Tryz.sizeOf95 rfl (ha) rfl (by omega) ?_
    refine o_load1I trivial rfl Tryz.isAgg95 rfl (ha.cellI (k := i) rfl (by omega)) ?_
    iterate 2 refine o_pv trivial rfl rfl ?_
    refine o_elemW trivial rfl Tryz.underlying31 Tryz.sizeOf95 rfl (hb) rfl (by omega) ?_
    refine o_load1I trivial rfl Tryz.isAgg95 rfl (hb.cellI (k := i) rfl (by omega)) ?_
    refine o_pv trivial rfl rfl ?_
    refine o_nil (then_c ?_)
    refine c_cond rfl (fun h3 => ?_) (fun h3 => ?_)
    ·
     have f3 := h3
     try simp only [bl] at f3
     refine c_seq (c_region ?_)
     refine o_pv trivial rfl rfl ?_
     refine o_nil (then_c (c_ret (blk_r (then_r (then_r (blk_r (then_r ?_)))))))
     refine ret1 rfl rfl ?_
     refine leaf0 (congrArg Value.bool ?_); rw [decide_eq_false]; intro e; exact f3 (by rw [e])
    ·
     have f3 := h3
     try simp only [bl] at f3
     refine c_skip (blk_n (then_c (c_region ?_)))
     refine o_pv trivial rfl rfl ?_
     first | (refine o_add trivial rfl rfl rfl ?_ ?_; (omega)) | refine o_pv trivial rfl rfl ?_
     refine o_pv trivial rfl rfl ?_
     refine o_nil ?_
     exact again (i + 1) (sub_cons rfl (sub_cons rfl (sub_cons rfl sub_nil))) (fun _ h => h) (by show A.length - (i + 1) < A.length - i; omega) ⟨by show i + 1 ≤ _; omega, fun j hj => by
       by_cases hji : j = i
       · subst hji; omega
       · exact he j (by omega)⟩
   ·
    have f2 := h2
    try simp only [bl] at f2
    refine c_exit (then_x (then_x (blk_eq rfl (then_c (c_seq (c_region ?_))))))
    refine o_pv trivial rfl rfl ?_
    refine o_nil (then_c (c_ret ?_))
    refine ret1 rfl rfl ?_
    refine leaf0 (congrArg Value.bool ?_); rw [decide_eq_true]; exact eq_of_dg (by omega) fun j hj => he j (by omega)
theorem rTrim_any (va : Value) (A : List Nat) {I : Hp} (ha : Ws I va A) (hs : A.length ≤ 1000000000) : Fun Tryz.prog 66 [va] I [] (fun v I' _ => Ws I' v (natW (val A))) := by
  have hle : lowL A ≤ A.length := low_le A _
  intro w hw
  refine enter1 _ Tryz.func66 rfl Tryz.ntmps66 rfl ?_ hw
  refine c_seq (c_region ?_)
  refine o_pv trivial rfl rfl ?_
  refine o_nil (then_c (c_seq (c_region ?_)))
  refine o_pv trivial rfl rfl ?_
  refine o_callQ trivial rfl Tryz.call95 rfl (rLow_any _ _ ha hs) ?_
  refine o_pv trivial rfl rfl ?_
  refine o_nil (then_c (c_seq (c_region ?_)))
  refine o_pv trivial rfl rfl ?_
  refine o_nil (then_c (c_seq (c_seq (c_region ?_))))
  refine o_pv trivial rfl rfl ?_
  refine o_nil (then_c (c_block ?_))
  refine c_loop (ι := Nat × Value) [0, 3] (.cons rfl (.cons rfl .nil)) (fun x => lowL A - x.1) (fun x E0 => (4, x.2) :: (5, .int .i64 (x.1 : Nat)) :: E0) (fun x => St w [] I [.row x.2 95 1 x.1 (wl (A.take x.1))]) (fun x => x.1 ≤ lowL A) ((0, .slice none 0 0)) (sub_cons rfl (sub_cons rfl (sub_cons rfl (sub_cons rfl sub_nil)))) (fun _ h => h.nilRow _ _) (Nat.zero_le _) ?_
  rintro ⟨i, u⟩ hi
  try dsimp only
  simp only at hi
  refine c_seq (c_seq (c_region ?_))
  iterate 3 refine o_pv trivial rfl rfl ?_
  refine o_nil (then_c ?_)
  refine c_cond rfl (fun h1 => ?_) (fun h1 => ?_)
  ·
   have f1 := h1
   try simp only [bl] at f1
   refine c_skip (then_c (c_seq (c_block (c_region ?_))))
   iterate 3 refine o_pv trivial rfl rfl ?_
   refine o_elemW trivial rfl Tryz.underlying31 Tryz.sizeOf95 rfl (ha) rfl (by omega) ?_
   refine o_load1I trivial rfl Tryz.isAgg95 rfl (ha.cellI (k := i) rfl (by omega)) ?_
   refine o_buildSl trivial rfl Tryz.underlying31 Tryz.sizeOf95 Tryz.zeroValue95 (by decide) (by decide) rfl (by repeat first | exact rfl | constructor) rfl (fun b18 => ?_)
   refine o_appendBox trivial rfl Tryz.underlying31 (elem95) (by decide) rfl rfl (fun v' => (by repeat constructor)) (by repeat constructor) rfl (by first | rfl | decide) (by first | omega | (unfold maxLen; omega)) (by omega) (fun v19 => ?_)
   refine o_pv trivial rfl rfl ?_
   refine o_nil (blk_n (then_c (c_region ?_)))
   refine o_pv trivial rfl rfl ?_
   first | (refine o_add trivial rfl rfl rfl ?_ ?_; (omega)) | refine o_pv trivial rfl rfl ?_
   refine o_pv trivial rfl rfl ?_
   refine o_nil ?_
   exact again (i + 1, v19) (sub_cons rfl (sub_cons rfl (sub_cons rfl (sub_cons rfl sub_nil)))) (fun _ h => by rw [take_more (by omega), ← wl_more _ rfl]; exact h.sort (by repeat constructor)) (by show lowL A - (i + 1) < lowL A - i; omega) (by show i + 1 ≤ _; omega)
  ·
   have f1 := h1
   try simp only [bl] at f1
   refine c_exit (then_x (then_x (blk_eq rfl (then_c (c_seq (c_region ?_))))))
   iterate 2 refine o_pv trivial rfl rfl ?_
   refine o_nil (then_c (c_ret ?_))
   refine ret1 rfl rfl ?_
   have hie : i = lowL A := by omega
   subst hie
   have hlen : (A.take (lowL A)).length = lowL A := by rw [List.length_take]; omega
   have hm := ha.most
   exact fun w' hw' => leafWX (O := A.take (lowL A)) (Ext.refl _ _) (ha.wds.take _) (by omega) (fun I' hl hs => by rw [← trim_eq ha.wds]; exact hs) w' (by rw [hlen]; exact hw')
theorem rAt_any (va : Value) (A : List Nat) (i : Int) (k : Nat) {I : Hp} (ha : Ws I va A) (hi : i = k) : Fun Tryz.prog 138 [va, .int .i64 i] I [] (fun v _ _ => v = .int .u64 (dg A k : Nat)) := by
  subst hi
  intro w hw
  refine enter2 _ Tryz.func138 rfl Tryz.ntmps138 rfl ?_ hw
  refine c_seq (c_region ?_)
  refine o_pv trivial rfl rfl ?_
  refine o_nil (then_c (c_seq (c_seq (c_region ?_))))
  iterate 2 refine o_pv trivial rfl rfl ?_
  refine' o_or trivial trivial rfl rfl rfl rfl rfl rfl rfl rfl (fun hb7 => ?_) ?_
  rotate_left
  ·
   have fb7 := hb7
   try simp only [bl] at fb7
   iterate 2 refine o_pv (wants_some rfl rfl hb7) rfl rfl ?_
   refine o_lenW (wants_some rfl rfl hb7) rfl Tryz.underlying31 rfl (ha) ?_
   refine o_pv (wants_some rfl rfl hb7) rfl rfl ?_
   refine o_nil ?_
   exact joins rfl
  refine o_nil (then_c ?_)
  refine c_cond rfl (fun h1 => ?_) (fun h1 => ?_)
  ·
   have f1 := h1
   try simp only [bl] at f1
   refine c_seq (c_region ?_)
   refine o_pv trivial rfl rfl ?_
   refine o_nil (then_c (c_ret (then_r ?_)))
   refine ret1 rfl rfl ?_
   refine leaf0 (congrArg (Value.int .u64) ?_); rw [dg_out (by omega)]; rfl
  ·
   have f1 := h1
   try simp only [bl] at f1
   refine c_skip (then_c (c_seq (c_region ?_)))
   iterate 2 refine o_pv trivial rfl rfl ?_
   refine o_elemW trivial rfl Tryz.underlying31 Tryz.sizeOf95 rfl (ha) rfl (by omega) ?_
   refine o_load1I trivial rfl Tryz.isAgg95 rfl (ha.cellI (k := k) rfl (by omega)) ?_
   have hdl := dg_lt ha.wds k
   first | refine o_convIn trivial rfl Tryz.underlying95 Tryz.underlying123 rfl (by rw [IntWalk.u64_in _ (by omega)]) ?_ | refine o_conv trivial rfl Tryz.underlying95 Tryz.underlying123 rfl ?_
   refine o_pv trivial rfl rfl ?_
   refine o_nil (then_c (c_ret ?_))
   refine ret1 rfl rfl ?_
   exact leaf0 rfl
theorem rOf_any (n : Nat) {I : Hp} (hn : n < 18446744073709551616) : Fun Tryz.prog 65 [.int .u64 (n : Int)] I [] (fun v I' _ => Ws I' v (natW n)) := by
  have hnl : (natW n).length ≤ 2 := natW_len_le (by rw [show (4294967296 : Nat) ^ 2 = 18446744073709551616 by decide]; exact hn)
  intro w hw
  refine enter1 _ Tryz.func65 rfl Tryz.ntmps65 rfl ?_ hw
  refine c_seq (c_region ?_)
  refine o_pv trivial rfl rfl ?_
  refine o_nil (then_c (c_seq (c_region ?_)))
  refine o_pv trivial rfl rfl ?_
  refine o_nil (then_c (c_seq (c_block ?_)))
  refine c_loop (ι := Nat × List Nat × Value) [] .nil (fun x => x.1) (fun x E0 => (0, .int .u64 (x.1 : Nat)) :: (3, x.2.2) :: E0) (fun x => St w [] I [.row x.2.2 95 1 x.2.1.length (wl x.2.1)]) (fun x => x.2.1 ++ natW x.1 = natW n ∧ x.1 < 18446744073709551616) ((n, [], .slice none 0 0)) (sub_cons rfl (sub_cons rfl sub_nil)) (fun _ h => h.nilRow _ _) (⟨rfl, hn⟩) ?_
  rintro ⟨m, O, u⟩ ⟨hO, hm⟩
  try dsimp only
  simp only at hO hm; have hol : O.length ≤ 2 := by rw [← hO, List.length_append] at hnl; omega
  refine c_seq (c_seq (c_region ?_))
  iterate 2 refine o_pv trivial rfl rfl ?_
  refine o_nil (then_c ?_)
  refine c_cond rfl (fun h1 => ?_) (fun h1 => ?_)
  ·
   have f1 := h1
   try simp only [bl] at f1
   have hm0 : m ≠ 0 := by omega
   refine c_skip (then_c (c_block (c_seq (c_region ?_))))
   iterate 2 refine o_pv trivial rfl rfl ?_
   refine o_rem trivial rfl rfl rfl (by omega) ?_
   refine o_convIn trivial rfl Tryz.underlying123 Tryz.underlying95 rfl (by rw [IntWalk.u32_in _ (by omega)]) ?_
   refine o_buildSl trivial rfl Tryz.underlying31 Tryz.sizeOf95 Tryz.zeroValue95 (by decide) (by decide) rfl (by repeat first | exact rfl | constructor) rfl (fun b10 => ?_)
   refine o_appendBox trivial rfl Tryz.underlying31 (elem95) (by decide) rfl rfl (fun v' => (by repeat constructor)) (by repeat constructor) rfl (by first | rfl | decide) (by first | omega | (unfold maxLen; omega)) (by omega) (fun v11 => ?_)
   refine o_pv trivial rfl rfl ?_
   refine o_nil (then_c (c_region ?_))
   refine o_pv trivial rfl rfl ?_
   refine o_quo trivial rfl rfl rfl (by omega) (by first | rfl | rw [IntWalk.u64_in _ (by omega)]) ?_
   refine o_pv trivial rfl rfl ?_
   refine o_nil (blk_n ?_)
   exact again (m / 4294967296, O ++ [m % 4294967296], v11) (sub_cons rfl (sub_cons rfl sub_nil)) (fun _ h => by rw [← wl_more O (z := (m : Int) % 4294967296) (by omega), List.length_append]; exact h.sort (by repeat constructor)) (by show m / 4294967296 < m; omega) ⟨by show (O ++ [m % 4294967296]) ++ natW (m / 4294967296) = natW n; rw [← hO, natW_pos hm0]; simp, by show m / 4294967296 < _; omega⟩
  ·
   have f1 := h1
   try simp only [bl] at f1
   refine c_exit (then_x (then_x (blk_eq rfl (then_c (c_seq (c_region ?_))))))
   iterate 2 refine o_pv trivial rfl rfl ?_
   refine o_nil (then_c (c_ret ?_))
   refine ret1 rfl rfl ?_
   have hm0 : m = 0 := by omega
   subst hm0
   rw [natW_zero, List.append_nil] at hO
   exact leafWX (Ext.refl _ _) (by rw [hO]; exact Wds_natW n) (by unfold maxLen; omega) (fun I' hl hs => by rw [← hO]; exact hs)
theorem rCmp_any (va vb : Value) (A B : List Nat) {I : Hp} (ha : Ws I va A) (hb : Ws I vb B) (hs : A.length ≤ 1000000000) (hs2 : B.length ≤ 1000000000) : Fun Tryz.prog 113 [va, vb] I [] (fun v _ _ => v = .int .i64 (cmpZ (val A : Nat) (val B : Nat))) := by
  intro w hw
  refine enter2 _ Tryz.func113 rfl Tryz.ntmps113 rfl ?_ hw
  refine c_seq (c_region ?_)
  refine o_pv trivial rfl rfl ?_
  refine o_nil (then_c (c_seq (c_region ?_)))
  refine o_pv trivial rfl rfl ?_
  refine o_lenW trivial rfl Tryz.underlying31 rfl (ha) ?_
  refine o_pv trivial rfl rfl ?_
  refine o_lenW trivial rfl Tryz.underlying31 rfl (hb) ?_
  refine o_max2 trivial rfl rfl rfl ?_
  refine o_pv trivial rfl rfl ?_
  refine o_nil (then_c (c_seq (c_seq (c_region ?_))))
  refine o_pv trivial rfl rfl ?_
  first | (refine o_sub trivial rfl rfl rfl ?_ ?_; (omega)) | refine o_pv trivial rfl rfl ?_
  refine o_pv trivial rfl rfl ?_
  refine o_nil (then_c (c_block ?_))
  refine c_loop (ι := Nat × Int) [0, 1] (.cons rfl (.cons rfl .nil)) (fun x => x.1) (fun x E0 => (6, .int .i64 x.2) :: E0) (fun x => St w [] I []) (fun x => x.2 = (x.1 : Int) - 1 ∧ x.1 ≤ 1000000000 ∧ ∀ t, x.1 ≤ t → dg A t = dg B t) ((max A.length B.length, max (A.length : Int) (B.length : Int) - 1)) (sub_cons rfl (sub_cons rfl (sub_cons rfl sub_nil))) (fun _ h => h) (⟨by simp only; omega, by show max A.length B.length ≤ _; omega, fun t ht => by have h9 : max A.length B.length ≤ t := ht; rw [dg_out (by omega), dg_out (by omega)]⟩) ?_
  rintro ⟨j, z⟩ ⟨hz, hj, he⟩
  try dsimp only
  simp only at hz hj he; subst hz
  refine c_seq (c_seq (c_region ?_))
  iterate 2 refine o_pv trivial rfl rfl ?_
  refine o_nil (then_c ?_)
  refine c_cond rfl (fun h1 => ?_) (fun h1 => ?_)
  ·
   have f1 := h1
   try simp only [bl] at f1
   refine c_skip (then_c (c_seq (c_block (c_seq (c_seq (c_region ?_))))))
   iterate 2 refine o_pv trivial rfl rfl ?_
   refine o_callQ trivial rfl Tryz.call138 rfl (rAt_any _ A _ (j - 1) ha (by omega)) ?_
   iterate 2 refine o_pv trivial rfl rfl ?_
   refine o_callQ trivial rfl Tryz.call138 rfl (rAt_any _ B _ (j - 1) hb (by omega)) ?_
   refine o_pv trivial rfl rfl ?_
   refine o_nil (then_c ?_)
   refine c_cond rfl (fun h2 => ?_) (fun h2 => ?_)
   ·
    have f2 := h2
    try simp only [bl] at f2
    refine c_seq (c_region ?_)
    refine o_pv trivial rfl rfl ?_
    refine o_nil (then_c (c_ret (then_r (blk_r (then_r (then_r (blk_r (then_r ?_))))))))
    refine ret1 rfl rfl ?_
    refine leaf0 (congrArg (Value.int .i64) ?_)
    have := cmp_lt ha.wds hb.wds (i := j - 1) (by omega) (fun t ht => he t (by omega))
    rw [cmpZ_lt (by omega)]
   ·
    have f2 := h2
    try simp only [bl] at f2
    refine c_skip (then_c (c_seq (c_region ?_)))
    iterate 2 refine o_pv trivial rfl rfl ?_
    refine o_callQ trivial rfl Tryz.call138 rfl (rAt_any _ A _ (j - 1) ha (by omega)) ?_
    iterate 2 refine o_pv trivial rfl rfl ?_
    refine o_callQ trivial rfl Tryz.call138 rfl (rAt_any _ B _ (j - 1) hb (by omega)) ?_
    refine o_pv trivial rfl rfl ?_
    refine o_nil (then_c ?_)
    refine c_cond rfl (fun h3 => ?_) (fun h3 => ?_)
    ·
     have f3 := h3
     try simp only [bl] at f3
     refine c_seq (c_region ?_)
     refine o_pv trivial rfl rfl ?_
     refine o_nil (then_c (c_ret (blk_r (then_r (then_r (blk_r (then_r ?_)))))))
     refine ret1 rfl rfl ?_
     refine leaf0 (congrArg (Value.int .i64) ?_)
     have := cmp_lt hb.wds ha.wds (i := j - 1) (by omega) (fun t ht => (he t (by omega)).symm)
     rw [cmpZ_gt (by omega)]
    ·
     have f3 := h3
     try simp only [bl] at f3
     refine c_skip (blk_n (then_c (c_region ?_)))
     refine o_pv trivial rfl rfl ?_
     first | (refine o_sub trivial rfl rfl rfl ?_ ?_; (omega)) | refine o_pv trivial rfl rfl ?_
     refine o_pv trivial rfl rfl ?_
     refine o_nil ?_
     exact again (j - 1, (j : Int) - 1 - 1) (sub_cons rfl (sub_cons rfl (sub_cons rfl sub_nil))) (fun _ h => h) (by show j - 1 < j; omega) ⟨by simp only; omega, by show j - 1 ≤ _; omega, fun t ht => by
       have h9 : j - 1 ≤ t := ht
       by_cases htj : t = j - 1
       · subst htj; omega
       · exact he t (by omega)⟩
  ·
   have f1 := h1
   try simp only [bl] at f1
   refine c_exit (then_x (then_x (blk_eq rfl (then_c (c_seq (c_region ?_))))))
   refine o_pv trivial rfl rfl ?_
   refine o_nil (then_c (c_ret ?_))
   refine ret1 rfl rfl ?_
   refine leaf0 (congrArg (Value.int .i64) ?_)
   rw [val_same (A := A) (B := B) fun t => he t (by omega), cmpZ_self]
end Go.Proofs.YtjgbjaaekknenaaGreat
/-
  The document's answers for layers 2, 3: sums, differences, products.
-/
namespace Go.Tw
set_option linter.unusedVariables false
set_option maxHeartbeats 1000000
theorem pre_end {A : List Nat} {k : Nat} (h : A.length ≤ k) : pre A k = val A := pre_out h
/-- One word more of a sum. -/
theorem sum_step {O : List Nat} {T i s c c' a : Nat} (hl : O.length = i) (h : val O + 4294967296 ^ i * c = T) (hs : s + 4294967296 * c' = a + c) : val (O ++ [s]) + 4294967296 ^ (i + 1) * c' = T + a * 4294967296 ^ i := by
  rw [val_more, hl, pow_succ]
  have e1 : 4294967296 ^ i * 4294967296 * c' = 4294967296 ^ i * (4294967296 * c') := Nat.mul_assoc _ _ _
  have e2 : 4294967296 ^ i * s + 4294967296 ^ i * (4294967296 * c') = 4294967296 ^ i * a + 4294967296 ^ i * c := by rw [← Nat.mul_add, ← Nat.mul_add, hs]
  have e3 : a * 4294967296 ^ i = 4294967296 ^ i * a := Nat.mul_comm _ _
  rw [e1, e3]
  generalize 4294967296 ^ i * s = x1 at *
  generalize 4294967296 ^ i * (4294967296 * c') = x2 at *
  generalize 4294967296 ^ i * a = x3 at *
  generalize 4294967296 ^ i * c = x4 at *
  omega
/-- One word more of a difference. -/
theorem diff_step {O : List Nat} {T U i s c c' a b : Nat} (hl : O.length = i) (h : val O + U = T + 4294967296 ^ i * c) (hs : s + b + c = a + 4294967296 * c') : val (O ++ [s]) + (U + b * 4294967296 ^ i) = (T + a * 4294967296 ^ i) + 4294967296 ^ (i + 1) * c' := by
  rw [val_more, hl, pow_succ]
  have e1 : 4294967296 ^ i * 4294967296 * c' = 4294967296 ^ i * (4294967296 * c') := Nat.mul_assoc _ _ _
  have e2 : 4294967296 ^ i * s + 4294967296 ^ i * b + 4294967296 ^ i * c = 4294967296 ^ i * a + 4294967296 ^ i * (4294967296 * c') := by rw [← Nat.mul_add, ← Nat.mul_add, ← Nat.mul_add, hs]
  have e3 : a * 4294967296 ^ i = 4294967296 ^ i * a := Nat.mul_comm _ _
  have e4 : b * 4294967296 ^ i = 4294967296 ^ i * b := Nat.mul_comm _ _
  rw [e1, e3, e4]
  generalize 4294967296 ^ i * s = x1 at *
  generalize 4294967296 ^ i * (4294967296 * c') = x2 at *
  generalize 4294967296 ^ i * a = x3 at *
  generalize 4294967296 ^ i * b = x5 at *
  generalize 4294967296 ^ i * c = x4 at *
  omega
theorem word_mul {a w c : Nat} (ha : a < 4294967296) (hw : w < 4294967296) (hc : c < 4294967296) : a * w + c < 4294967296 * 4294967296 := by
  have h1 : a * w ≤ 4294967295 * 4294967295 := Nat.mul_le_mul (by omega) (by omega)
  omega
end Go.Tw
namespace Go.Proofs.YtjgbjaaekknenaaGreat
open Go Go.Tw
set_option linter.unusedVariables false
set_option linter.unusedSimpArgs false
set_option linter.unnecessarySimpa false
set_option maxHeartbeats 1000000
theorem rAdd_any (va vb : Value) (A B : List Nat) {I : Hp} (ha : Ws I va A) (hb : Ws I vb B) (hs : A.length ≤ 100000000) (hs2 : B.length ≤ 100000000) : Fun Tryz.prog 112 [va, vb] I [] (fun v I' _ => Ws I' v (natW (val A + val B))) := by
  intro w hw
  refine enter2 _ Tryz.func112 rfl Tryz.ntmps112 rfl ?_ hw
  refine c_seq (c_region ?_)
  refine o_pv trivial rfl rfl ?_
  refine o_nil (then_c (c_seq (c_region ?_)))
  refine o_pv trivial rfl rfl ?_
  refine o_nil (then_c (c_seq (c_region ?_)))
  refine o_pv trivial rfl rfl ?_
  refine o_nil (then_c (c_seq (c_seq (c_region ?_))))
  refine o_pv trivial rfl rfl ?_
  refine o_nil (then_c (c_block ?_))
  refine c_loop (ι := Nat × Nat × List Nat × Value) [0, 1] (.cons rfl (.cons rfl .nil)) (fun x => max A.length B.length + 1 - x.1) (fun x E0 => (5, x.2.2.2) :: (6, .int .u64 (x.2.1 : Nat)) :: (7, .int .i64 (x.1 : Nat)) :: E0) (fun x => St w [] I [.row x.2.2.2 95 1 x.2.2.1.length (wl x.2.2.1)]) (fun x => x.1 ≤ max A.length B.length + 1 ∧ x.2.1 ≤ 1 ∧ x.2.2.1.length = x.1 ∧ Wds x.2.2.1 ∧ val x.2.2.1 + 4294967296 ^ x.1 * x.2.1 = pre A x.1 + pre B x.1) ((0, 0, [], .slice none 0 0)) (sub_cons rfl (sub_cons rfl (sub_cons rfl (sub_cons rfl (sub_cons rfl sub_nil))))) (fun _ h => h.nilRow _ _) (⟨Nat.zero_le _, by decide, rfl, Wds_nil, rfl⟩) ?_
  rintro ⟨i, c, O, u⟩ ⟨hi, hc, hol, hO, hv⟩
  try dsimp only
  simp only at hi hc hol hO hv; have hda := dg_lt ha.wds i; have hdb := dg_lt hb.wds i
  refine c_seq (c_seq (c_region ?_))
  iterate 2 refine o_pv trivial rfl rfl ?_
  refine o_lenW trivial rfl Tryz.underlying31 rfl (ha) ?_
  refine o_pv trivial rfl rfl ?_
  refine o_lenW trivial rfl Tryz.underlying31 rfl (hb) ?_
  refine o_max2 trivial rfl rfl rfl ?_
  refine o_pv trivial rfl rfl ?_
  refine o_nil (then_c ?_)
  refine c_cond rfl (fun h1 => ?_) (fun h1 => ?_)
  ·
   have f1 := h1
   try simp only [bl] at f1
   refine c_skip (then_c (c_seq (c_block (c_seq (c_region ?_)))))
   iterate 2 refine o_pv trivial rfl rfl ?_
   refine o_callQ trivial rfl Tryz.call138 rfl (rAt_any _ A _ i ha rfl) ?_
   iterate 2 refine o_pv trivial rfl rfl ?_
   refine o_callQ trivial rfl Tryz.call138 rfl (rAt_any _ B _ i hb rfl) ?_
   first | refine o_arA trivial rfl rfl rfl (by rw [IntWalk.u64_in _ (by omega)]) ?_ | refine o_pv trivial rfl rfl ?_
   refine o_pv trivial rfl rfl ?_
   first | refine o_arA trivial rfl rfl rfl (by rw [IntWalk.u64_in _ (by omega)]) ?_ | refine o_pv trivial rfl rfl ?_
   refine o_pv trivial rfl rfl ?_
   refine o_nil (then_c (c_seq (c_region ?_)))
   iterate 2 refine o_pv trivial rfl rfl ?_
   refine o_rem trivial rfl rfl rfl (by omega) ?_
   refine o_convIn trivial rfl Tryz.underlying123 Tryz.underlying95 rfl (by rw [IntWalk.u32_in _ (by omega)]) ?_
   refine o_buildSl trivial rfl Tryz.underlying31 Tryz.sizeOf95 Tryz.zeroValue95 (by decide) (by decide) rfl (by repeat first | exact rfl | constructor) rfl (fun b31 => ?_)
   refine o_appendBox trivial rfl Tryz.underlying31 (elem95) (by decide) rfl rfl (fun v' => (by repeat constructor)) (by repeat constructor) rfl (by first | rfl | decide) (by first | omega | (unfold maxLen; omega)) (by omega) (fun v32 => ?_)
   refine o_pv trivial rfl rfl ?_
   refine o_nil (then_c (c_region ?_))
   refine o_pv trivial rfl rfl ?_
   refine o_quo trivial rfl rfl rfl (by omega) (by first | rfl | rw [IntWalk.u64_in _ (by omega)]) ?_
   refine o_pv trivial rfl rfl ?_
   refine o_nil (blk_n (then_c (c_region ?_)))
   refine o_pv trivial rfl rfl ?_
   first | (refine o_add trivial rfl rfl rfl ?_ ?_; (omega)) | refine o_pv trivial rfl rfl ?_
   refine o_pv trivial rfl rfl ?_
   refine o_nil ?_
   have hst := sum_step (s := (dg A i + dg B i + c) % 4294967296) (c' := (dg A i + dg B i + c) / 4294967296) (a := dg A i + dg B i) hol hv (by omega)
   exact again (i + 1, (dg A i + dg B i + c) / 4294967296, O ++ [(dg A i + dg B i + c) % 4294967296], v32) (sub_cons rfl (sub_cons rfl (sub_cons rfl (sub_cons rfl (sub_cons rfl sub_nil))))) (fun _ h => by rw [← wl_more O (z := ((dg A i : Int) + (dg B i : Int) + (c : Int)) % 4294967296) (by omega), List.length_append]; exact h.sort (by repeat constructor)) (by show max A.length B.length + 1 - (i + 1) < max A.length B.length + 1 - i; omega) ⟨by show i + 1 ≤ _; omega, by show (dg A i + dg B i + c) / 4294967296 ≤ 1; omega, by show (O ++ [_]).length = i + 1; rw [List.length_append, hol]; rfl, hO.more (by omega), by
     show val (O ++ [_]) + 4294967296 ^ (i + 1) * _ = (pre A i + dg A i * 4294967296 ^ i) + (pre B i + dg B i * 4294967296 ^ i)
     rw [hst, Nat.add_mul]; omega⟩
  ·
   have f1 := h1
   try simp only [bl] at f1
   refine c_exit (then_x (then_x (blk_eq rfl (then_c (c_seq ?_)))))
   have hie : i = max A.length B.length + 1 := by omega
   rw [pre_end (by omega), pre_end (by omega)] at hv
   have hc0 : c = 0 := by
     have h1 := val_lt ha.wds
     have h2 := val_lt hb.wds
     have h3 : 4294967296 ^ A.length ≤ 4294967296 ^ max A.length B.length := Nat.pow_le_pow_right (by decide) (by omega)
     have h4 : 4294967296 ^ B.length ≤ 4294967296 ^ max A.length B.length := Nat.pow_le_pow_right (by decide) (by omega)
     rw [hie, pow_succ] at hv
     generalize 4294967296 ^ max A.length B.length = P at *
     rcases Nat.eq_zero_or_pos c with h | h
     · exact h
     · have : P * 4294967296 * 1 ≤ P * 4294967296 * c := Nat.mul_le_mul_left _ h
       omega
   subst hc0
   rw [Nat.mul_zero, Nat.add_zero] at hv
   refine c_sealO O .here hO (by unfold maxLen; omega) (fun I1 hx1 hs1 => ?_)
   refine c_region ?_
   refine o_pv trivial rfl rfl ?_
   refine o_callI trivial rfl Tryz.call66 rfl (rTrim_any _ _ hs1 (by omega)) ?_
   rintro u2 I2 hx2 hs2'
   refine o_pv trivial rfl rfl ?_
   refine o_nil (then_c (c_ret ?_))
   refine ret1 rfl rfl ?_
   refine leaf (hx1.trans hx2 (Nat.le_refl _)) (List.nil_sublist _) ?_; rw [hv] at hs2'; exact hs2'
theorem rSub_any (va vb : Value) (A B : List Nat) {I : Hp} (ha : Ws I va A) (hb : Ws I vb B) (hs : A.length ≤ 100000000) (hs2 : B.length ≤ 100000000) (hle : val B ≤ val A) : Fun Tryz.prog 114 [va, vb] I [] (fun v I' _ => ∃ u, v = .tuple #[u, .bool true] ∧ Ws I' u (natW (val A - val B))) := by
  have hcmp : ¬ cmpZ (val A : Nat) (val B : Nat) < 0 := by unfold cmpZ; split <;> (try split) <;> omega
  intro w hw
  refine enter2 _ Tryz.func114 rfl Tryz.ntmps114 rfl ?_ hw
  refine c_seq (c_region ?_)
  iterate 2 refine o_pv trivial rfl rfl ?_
  refine o_nil (then_c (c_seq (c_seq (c_region ?_))))
  iterate 2 refine o_pv trivial rfl rfl ?_
  refine o_callQ trivial rfl Tryz.call113 rfl (rCmp_any _ _ _ _ ha hb (by omega) (by omega)) ?_
  refine o_pv trivial rfl rfl ?_
  refine o_nil (then_c ?_)
  refine c_cond rfl (fun h1 => ?_) (fun h1 => ?_)
  ·
   have f1 := h1
   try simp only [bl] at f1
   exfalso; exact hcmp f1
  ·
   have f1 := h1
   try simp only [bl] at f1
   refine c_skip (then_c (c_seq (c_region ?_)))
   refine o_pv trivial rfl rfl ?_
   refine o_nil (then_c (c_seq (c_region ?_)))
   refine o_pv trivial rfl rfl ?_
   refine o_nil (then_c (c_seq (c_seq (c_region ?_))))
   refine o_pv trivial rfl rfl ?_
   refine o_nil (then_c (c_block ?_))
   refine c_loop (ι := Nat × Nat × List Nat × Value) [0, 1] (.cons rfl (.cons rfl .nil)) (fun x => A.length - x.1) (fun x E0 => (6, x.2.2.2) :: (7, .int .u64 (x.2.1 : Nat)) :: (8, .int .i64 (x.1 : Nat)) :: E0) (fun x => St w [] I [.row x.2.2.2 95 1 x.2.2.1.length (wl x.2.2.1)]) (fun x => x.1 ≤ A.length ∧ x.2.1 ≤ 1 ∧ x.2.2.1.length = x.1 ∧ Wds x.2.2.1 ∧ val x.2.2.1 + pre B x.1 = pre A x.1 + 4294967296 ^ x.1 * x.2.1) ((0, 0, [], .slice none 0 0)) (sub_cons rfl (sub_cons rfl (sub_cons rfl (sub_cons rfl (sub_cons rfl sub_nil))))) (fun _ h => h.nilRow _ _) (⟨Nat.zero_le _, by decide, rfl, Wds_nil, rfl⟩) ?_
   rintro ⟨i, c, O, u⟩ ⟨hi, hc, hol, hO, hv⟩
   try dsimp only
   simp only at hi hc hol hO hv; have hda := dg_lt ha.wds i; have hdb := dg_lt hb.wds i
   refine c_seq (c_seq (c_region ?_))
   iterate 2 refine o_pv trivial rfl rfl ?_
   refine o_lenW trivial rfl Tryz.underlying31 rfl (ha) ?_
   refine o_pv trivial rfl rfl ?_
   refine o_nil (then_c ?_)
   refine c_cond rfl (fun h2 => ?_) (fun h2 => ?_)
   ·
    have f2 := h2
    try simp only [bl] at f2
    refine c_skip (then_c (c_seq (c_block (c_seq (c_region ?_)))))
    iterate 2 refine o_pv trivial rfl rfl ?_
    refine o_callQ trivial rfl Tryz.call138 rfl (rAt_any _ A _ i ha rfl) ?_
    first | refine o_arA trivial rfl rfl rfl (by rw [IntWalk.u64_in _ (by omega)]) ?_ | refine o_pv trivial rfl rfl ?_
    iterate 2 refine o_pv trivial rfl rfl ?_
    refine o_callQ trivial rfl Tryz.call138 rfl (rAt_any _ B _ i hb rfl) ?_
    first | refine o_arS trivial rfl rfl rfl (by rw [IntWalk.u64_in _ (by omega)]) ?_ | refine o_pv trivial rfl rfl ?_
    refine o_pv trivial rfl rfl ?_
    first | refine o_arS trivial rfl rfl rfl (by rw [IntWalk.u64_in _ (by omega)]) ?_ | refine o_pv trivial rfl rfl ?_
    refine o_pv trivial rfl rfl ?_
    refine o_nil (then_c (c_seq (c_region ?_)))
    iterate 2 refine o_pv trivial rfl rfl ?_
    refine o_rem trivial rfl rfl rfl (by omega) ?_
    refine o_convIn trivial rfl Tryz.underlying123 Tryz.underlying95 rfl (by rw [IntWalk.u32_in _ (by omega)]) ?_
    refine o_buildSl trivial rfl Tryz.underlying31 Tryz.sizeOf95 Tryz.zeroValue95 (by decide) (by decide) rfl (by repeat first | exact rfl | constructor) rfl (fun b34 => ?_)
    refine o_appendBox trivial rfl Tryz.underlying31 (elem95) (by decide) rfl rfl (fun v' => (by repeat constructor)) (by repeat constructor) rfl (by first | rfl | decide) (by first | omega | (unfold maxLen; omega)) (by omega) (fun v35 => ?_)
    refine o_pv trivial rfl rfl ?_
    refine o_nil (then_c (c_region ?_))
    refine o_pv trivial rfl rfl ?_
    refine o_quo trivial rfl rfl rfl (by omega) (by first | rfl | rw [IntWalk.u64_in _ (by omega)]) ?_
    first | refine o_arS trivial rfl rfl rfl (by rw [IntWalk.u64_in _ (by omega)]) ?_ | refine o_pv trivial rfl rfl ?_
    refine o_pv trivial rfl rfl ?_
    refine o_nil (blk_n (then_c (c_region ?_)))
    refine o_pv trivial rfl rfl ?_
    first | (refine o_add trivial rfl rfl rfl ?_ ?_; (omega)) | refine o_pv trivial rfl rfl ?_
    refine o_pv trivial rfl rfl ?_
    refine o_nil ?_
    have hst := diff_step (s := (4294967296 + dg A i - dg B i - c) % 4294967296) (c' := 1 - (4294967296 + dg A i - dg B i - c) / 4294967296) (a := dg A i) (b := dg B i) hol hv (by omega)
    have e7 : (1 : Int) - (4294967296 + (dg A i : Int) - (dg B i : Int) - (c : Int)) / 4294967296 = ((1 - (4294967296 + dg A i - dg B i - c) / 4294967296 : Nat) : Int) := by omega
    exact again (i + 1, 1 - (4294967296 + dg A i - dg B i - c) / 4294967296, O ++ [(4294967296 + dg A i - dg B i - c) % 4294967296], v35) (by rw [e7]; exact (sub_cons rfl (sub_cons rfl (sub_cons rfl (sub_cons rfl (sub_cons rfl sub_nil)))))) (fun _ h => by rw [← wl_more O (z := (4294967296 + (dg A i : Int) - (dg B i : Int) - (c : Int)) % 4294967296) (by omega), List.length_append]; exact h.sort (by repeat constructor)) (by show A.length - (i + 1) < A.length - i; omega) ⟨by show i + 1 ≤ _; omega, by show 1 - _ ≤ 1; omega, by show (O ++ [_]).length = i + 1; rw [List.length_append, hol]; rfl, hO.more (by omega), hst⟩
   ·
    have f2 := h2
    try simp only [bl] at f2
    refine c_exit (then_x (then_x (blk_eq rfl (then_c (c_seq ?_)))))
    have hie : i = A.length := by omega
    subst hie
    rw [pre_end (Nat.le_refl _)] at hv
    have hB : pre B A.length = val B := by
      rcases Nat.lt_or_ge A.length B.length with hlt | hge
      · have h1 := val_split (l := B) (i := A.length) (by omega)
        have h2 := val_lt ha.wds
        have h3 : val (B.drop A.length) = 0 := by
          rcases Nat.eq_zero_or_pos (val (B.drop A.length)) with h | h
          · exact h
          · have : 4294967296 ^ A.length * 1 ≤ 4294967296 ^ A.length * val (B.drop A.length) := Nat.mul_le_mul_left _ h
            omega
        rw [h3, Nat.mul_zero] at h1
        omega
      · exact pre_end hge
    have hc0 : c = 0 := by
      have h2 := val_lt hO
      rw [hol] at h2
      rw [hB] at hv
      rcases Nat.eq_zero_or_pos c with h | h
      · exact h
      · have : 4294967296 ^ A.length * 1 ≤ 4294967296 ^ A.length * c := Nat.mul_le_mul_left _ h
        omega
    subst hc0
    rw [hB, Nat.mul_zero, Nat.add_zero] at hv
    refine c_sealO O .here hO (by unfold maxLen; omega) (fun I1 hx1 hs1 => ?_)
    refine c_region ?_
    refine o_pv trivial rfl rfl ?_
    refine o_callI trivial rfl Tryz.call66 rfl (rTrim_any _ _ hs1 (by omega)) ?_
    rintro u2 I2 hx2 hs2'
    iterate 2 refine o_pv trivial rfl rfl ?_
    refine o_nil (then_c (c_ret ?_))
    refine ret2 rfl rfl rfl ?_
    refine leaf (hx1.trans hx2 (Nat.le_refl _)) (List.nil_sublist _) ⟨u2, rfl, ?_⟩; rw [show val O = val A - val B by omega] at hs2'; exact hs2'
end Go.Proofs.YtjgbjaaekknenaaGreat
/-
  The document's answers for layer 3.
-/
namespace Go.Proofs.YtjgbjaaekknenaaGreat
open Go Go.Tw
set_option linter.unusedVariables false
set_option linter.unusedSimpArgs false
set_option linter.unnecessarySimpa false
set_option maxHeartbeats 1000000
theorem rOne_any (va : Value) (A : List Nat) (y c0 : Nat) {I : Hp} (ha : Ws I va A) (hs : A.length ≤ 100000000) (hy : y < 4294967296) (hc0 : c0 < 4294967296) : Fun Tryz.prog 116 [va, .int .u32 (y : Int), .int .u32 (c0 : Int)] I [] (fun v I' _ => Ws I' v (natW (val A * y + c0))) := by
  intro w hw
  refine enter3 _ Tryz.func116 rfl Tryz.ntmps116 rfl ?_ hw
  refine c_seq (c_region ?_)
  refine o_pv trivial rfl rfl ?_
  refine o_nil (then_c (c_seq (c_region ?_)))
  refine o_pv trivial rfl rfl ?_
  refine o_nil (then_c (c_seq (c_region ?_)))
  refine o_pv trivial rfl rfl ?_
  first | refine o_convIn trivial rfl Tryz.underlying95 Tryz.underlying123 rfl (by rw [IntWalk.u64_in _ (by omega)]) ?_ | refine o_conv trivial rfl Tryz.underlying95 Tryz.underlying123 rfl ?_
  refine o_pv trivial rfl rfl ?_
  refine o_nil (then_c (c_seq (c_seq (c_region ?_))))
  refine o_pv trivial rfl rfl ?_
  refine o_nil (then_c (c_block ?_))
  refine c_loop (ι := Nat × Nat × List Nat × Value) [0, 1] (.cons rfl (.cons rfl .nil)) (fun x => A.length - x.1) (fun x E0 => (7, x.2.2.2) :: (8, .int .u64 (x.2.1 : Nat)) :: (9, .int .i64 (x.1 : Nat)) :: E0) (fun x => St w [] I [.row x.2.2.2 95 1 x.2.2.1.length (wl x.2.2.1)]) (fun x => x.1 ≤ A.length ∧ x.2.1 < 4294967296 ∧ x.2.2.1.length = x.1 ∧ Wds x.2.2.1 ∧ val x.2.2.1 + 4294967296 ^ x.1 * x.2.1 = pre A x.1 * y + c0) ((0, c0, [], .slice none 0 0)) (sub_cons rfl (sub_cons rfl (sub_cons rfl (sub_cons rfl (sub_cons rfl sub_nil))))) (fun _ h => h.nilRow _ _) (⟨Nat.zero_le _, hc0, rfl, Wds_nil, by show 0 + 4294967296 ^ 0 * c0 = 0 * y + c0; omega⟩) ?_
  rintro ⟨i, c, O, u⟩ ⟨hi, hc, hol, hO, hv⟩
  try dsimp only
  simp only at hi hc hol hO hv; have hda := dg_lt ha.wds i; have hmw := word_mul hda hy hc
  refine c_seq (c_seq (c_region ?_))
  iterate 2 refine o_pv trivial rfl rfl ?_
  refine o_lenW trivial rfl Tryz.underlying31 rfl (ha) ?_
  refine o_pv trivial rfl rfl ?_
  refine o_nil (then_c ?_)
  refine c_cond rfl (fun h1 => ?_) (fun h1 => ?_)
  ·
   have f1 := h1
   try simp only [bl] at f1
   refine c_skip (then_c (c_seq (c_block (c_seq (c_region ?_)))))
   iterate 2 refine o_pv trivial rfl rfl ?_
   refine o_elemW trivial rfl Tryz.underlying31 Tryz.sizeOf95 rfl (ha) rfl (by omega) ?_
   refine o_load1I trivial rfl Tryz.isAgg95 rfl (ha.cellI (k := i) rfl (by omega)) ?_
   first | refine o_convIn trivial rfl Tryz.underlying95 Tryz.underlying123 rfl (by rw [IntWalk.u64_in _ (by omega)]) ?_ | refine o_conv trivial rfl Tryz.underlying95 Tryz.underlying123 rfl ?_
   refine o_pv trivial rfl rfl ?_
   first | refine o_convIn trivial rfl Tryz.underlying95 Tryz.underlying123 rfl (by rw [IntWalk.u64_in _ (by omega)]) ?_ | refine o_conv trivial rfl Tryz.underlying95 Tryz.underlying123 rfl ?_
   rw [show (dg A i : Int) = ((dg A i : Nat) : Int) from rfl]
   first | refine o_arM trivial rfl rfl rfl (by rw [IntWalk.u64_in _ (by rw [← Int.natCast_mul]; omega)]) ?_ | refine o_pv trivial rfl rfl ?_
   refine o_pv trivial rfl rfl ?_
   rw [← Int.natCast_mul]
   first | refine o_arA trivial rfl rfl rfl (by rw [IntWalk.u64_in _ (by omega)]) ?_ | refine o_pv trivial rfl rfl ?_
   refine o_pv trivial rfl rfl ?_
   refine o_nil (then_c (c_seq (c_region ?_)))
   iterate 2 refine o_pv trivial rfl rfl ?_
   refine o_rem trivial rfl rfl rfl (by omega) ?_
   refine o_convIn trivial rfl Tryz.underlying123 Tryz.underlying95 rfl (by rw [IntWalk.u32_in _ (by omega)]) ?_
   refine o_buildSl trivial rfl Tryz.underlying31 Tryz.sizeOf95 Tryz.zeroValue95 (by decide) (by decide) rfl (by repeat first | exact rfl | constructor) rfl (fun b33 => ?_)
   refine o_appendBox trivial rfl Tryz.underlying31 (elem95) (by decide) rfl rfl (fun v' => (by repeat constructor)) (by repeat constructor) rfl (by first | rfl | decide) (by first | omega | (unfold maxLen; omega)) (by omega) (fun v34 => ?_)
   refine o_pv trivial rfl rfl ?_
   refine o_nil (then_c (c_region ?_))
   refine o_pv trivial rfl rfl ?_
   refine o_quo trivial rfl rfl rfl (by omega) (by first | rfl | rw [IntWalk.u64_in _ (by omega)]) ?_
   refine o_pv trivial rfl rfl ?_
   refine o_nil (blk_n (then_c (c_region ?_)))
   refine o_pv trivial rfl rfl ?_
   first | (refine o_add trivial rfl rfl rfl ?_ ?_; (omega)) | refine o_pv trivial rfl rfl ?_
   refine o_pv trivial rfl rfl ?_
   refine o_nil ?_
   have hst := sum_step (s := (dg A i * y + c) % 4294967296) (c' := (dg A i * y + c) / 4294967296) (a := dg A i * y) hol hv (by omega)
   exact again (i + 1, (dg A i * y + c) / 4294967296, O ++ [(dg A i * y + c) % 4294967296], v34) (sub_cons rfl (sub_cons rfl (sub_cons rfl (sub_cons rfl (sub_cons rfl sub_nil))))) (fun _ h => by rw [← wl_more O (z := (((dg A i * y : Nat) : Int) + (c : Int)) % 4294967296) (by omega), List.length_append]; exact h.sort (by repeat constructor)) (by show A.length - (i + 1) < A.length - i; omega) ⟨by show i + 1 ≤ _; omega, by show (dg A i * y + c) / 4294967296 < 4294967296; omega, by show (O ++ [_]).length = i + 1; rw [List.length_append, hol]; rfl, hO.more (by omega), by
     show val (O ++ [_]) + 4294967296 ^ (i + 1) * _ = (pre A i + dg A i * 4294967296 ^ i) * y + c0
     rw [hst, Nat.add_mul, Nat.mul_right_comm]; omega⟩
  ·
   have f1 := h1
   try simp only [bl] at f1
   refine c_exit (then_x (then_x (blk_eq rfl (then_c (c_seq ?_)))))
   have hie : i = A.length := by omega
   subst hie
   rw [pre_end (Nat.le_refl _)] at hv
   refine c_region ?_
   iterate 2 refine o_pv trivial rfl rfl ?_
   refine o_convIn trivial rfl Tryz.underlying123 Tryz.underlying95 rfl (by rw [IntWalk.u32_in _ (by omega)]) ?_
   refine o_buildSl trivial rfl Tryz.underlying31 Tryz.sizeOf95 Tryz.zeroValue95 (by decide) (by decide) rfl (by repeat first | exact rfl | constructor) rfl (fun b40 => ?_)
   refine o_appendBox trivial rfl Tryz.underlying31 (elem95) (by decide) rfl rfl (fun v' => (by repeat constructor)) (by repeat constructor) rfl (by first | rfl | decide) (by first | omega | (unfold maxLen; omega)) (by omega) (fun v41 => ?_)
   refine o_pv trivial rfl rfl ?_
   refine o_nil (then_c (c_seq ?_))
   rw [show wl O ++ ([Value.int .u32 (c : Int)] ++ []) = wl (O ++ [c]) from wl_more O rfl]
   refine c_sealO (O ++ [c]) (by rw [List.length_append]; exact .there .here) (hO.more hc) (by rw [List.length_append, hol]; have := ha.most; unfold maxLen at *; show A.length + 1 ≤ _; omega) (fun I1 hx1 hs1 => ?_)
   rw [← hol, ← val_more] at hv
   refine c_region ?_
   refine o_pv trivial rfl rfl ?_
   refine o_callI trivial rfl Tryz.call66 rfl (rTrim_any _ _ hs1 (by rw [List.length_append, hol]; show A.length + 1 ≤ _; omega)) ?_
   rintro u2 I2 hx2 hs2'
   refine o_pv trivial rfl rfl ?_
   refine o_nil (then_c (c_ret ?_))
   refine ret1 rfl rfl ?_
   refine leaf (hx1.trans hx2 (Nat.le_refl _)) (List.nil_sublist _) ?_; rw [hv] at hs2'; exact hs2'
theorem rMul_any (va vb : Value) (A B : List Nat) {I : Hp} (ha : Ws I va A) (hb : Ws I vb B) (hs : A.length ≤ 10000000) (hs2 : B.length ≤ 10000000) : Fun Tryz.prog 81 [va, vb] I [] (fun v I' _ => Ws I' v (natW (val A * val B))) := by
  have hA := val_lt ha.wds
  intro w hw
  refine enter2 _ Tryz.func81 rfl Tryz.ntmps81 rfl ?_ hw
  refine c_seq (c_region ?_)
  refine o_pv trivial rfl rfl ?_
  refine o_nil (then_c (c_seq (c_region ?_)))
  refine o_pv trivial rfl rfl ?_
  refine o_nil (then_c (c_seq (c_seq (c_region ?_))))
  refine o_pv trivial rfl rfl ?_
  refine o_nil (then_c (c_block ?_))
  refine c_loop (ι := Nat × Value × Hp) [0, 1] (.cons rfl (.cons rfl .nil)) (fun x => B.length - x.1) (fun x E0 => (5, x.2.1) :: (6, .int .i64 (x.1 : Nat)) :: E0) (fun x => St w [] x.2.2 []) (fun x => x.1 ≤ B.length ∧ Ws x.2.2 x.2.1 (natW (val A * pre B x.1)) ∧ Ext w.heap.size I x.2.2) ((0, .slice none 0 0, I)) (sub_cons rfl (sub_cons rfl (sub_cons rfl (sub_cons rfl sub_nil)))) (fun _ h => h) (⟨Nat.zero_le _, by show Ws I _ (natW (val A * 0)); rw [Nat.mul_zero, natW_zero]; exact Ws.nil _, Ext.refl _ _⟩) ?_
  rintro ⟨i, u, I1⟩ ⟨hi, hu, hx1⟩
  try dsimp only
  simp only at hi hu hx1; have hdb := dg_lt hb.wds i
  refine c_seq (c_seq (c_region ?_))
  iterate 2 refine o_pv trivial rfl rfl ?_
  refine o_lenW trivial rfl Tryz.underlying31 rfl (hb) ?_
  refine o_pv trivial rfl rfl ?_
  refine o_nil (then_c ?_)
  refine c_cond rfl (fun h1 => ?_) (fun h1 => ?_)
  ·
   have f1 := h1
   try simp only [bl] at f1
   have hl1 : (natW (val A * dg B i + 0)).length ≤ A.length + 1 := natW_len_le (by
     rw [pow_succ, Nat.add_zero]
     exact Nat.mul_lt_mul_of_lt_of_le hA (Nat.le_of_lt hdb) (by decide))
   have hl2 : (natW (val A * pre B i)).length ≤ A.length + i := natW_len_le (by
     rw [Nat.pow_add]
     exact Nat.mul_lt_mul'' hA (pre_lt hb.wds i))
   have hB1 := ha.most
   refine c_skip (then_c (c_seq (c_block (c_seq ?_))))
   refine h_beginB (m := 10) [] (by repeat constructor) (by kernel_rfl) rfl ?_
   refine' h_take (i := 0) #[true, false, false, false, false, false, false, false, false, false] rfl rfl rfl (by kernel_rfl) (by kernel_rfl) (by kernel_rfl) rfl (qp_then (qp_blk (qp_then (qp_then (qp_blk (qp_then qp_bp)))))) (fun _ h => (h.sort (by repeat constructor)).fewer (Hp.Le.refl _)) ?hh0 ?kk0
   case hh0 =>
    refine o_pv trivial rfl rfl ?_
    refine o_nil ?_
    exact ⟨fun _ _ ha _ => ha⟩
   refine' h_take (i := 2) #[true, false, true, false, false, false, false, false, false, false] rfl rfl rfl (by kernel_rfl) (by kernel_rfl) (by kernel_rfl) rfl (qp_then (qp_blk (qp_then (qp_then (qp_blk (qp_then qp_bp)))))) (fun _ h => (h.sort (by repeat constructor)).fewer (Hp.Le.refl _)) ?hh1 ?kk1
   case hh1 =>
    refine o_pv trivial rfl rfl ?_
    refine o_nil ?_
    exact ⟨fun _ _ ha _ => ha⟩
   refine' h_take (i := 3) #[true, false, true, true, false, false, false, false, false, false] rfl rfl rfl (by kernel_rfl) (by kernel_rfl) (by kernel_rfl) rfl (qp_then (qp_blk (qp_then (qp_then (qp_blk (qp_then qp_bp)))))) (fun _ h => (h.sort (by repeat constructor)).fewer (Hp.Le.refl _)) ?hh2 ?kk2
   case hh2 =>
    refine o_pv trivial rfl rfl ?_
    refine o_nil ?_
    exact ⟨fun _ _ ha _ => ha⟩
   refine' h_take (i := 4) #[true, false, true, true, true, false, false, false, false, false] rfl rfl rfl (by kernel_rfl) (by kernel_rfl) (by kernel_rfl) rfl (qp_then (qp_blk (qp_then (qp_then (qp_blk (qp_then qp_bp)))))) (fun _ h => (h.sort (by repeat constructor)).fewer (Hp.Le.refl _)) ?hh3 ?kk3
   case hh3 =>
    refine o_pv trivial rfl rfl ?_
    refine o_nil ?_
    exact ⟨fun _ _ ha _ => ha⟩
   refine' h_take (i := 5) #[true, false, true, true, true, true, false, false, false, false] rfl rfl rfl (by kernel_rfl) (by kernel_rfl) (by kernel_rfl) rfl (qp_then (qp_blk (qp_then (qp_then (qp_blk (qp_then qp_bp)))))) (fun _ h => (h.sort (by repeat constructor)).fewer (Hp.Le.refl _)) ?hh4 ?kk4
   case hh4 =>
    refine o_elemW trivial rfl Tryz.underlying31 Tryz.sizeOf95 rfl (hb) rfl (by omega) ?_
    refine o_nil ?_
    exact ⟨fun _ _ ha _ => ha⟩
   refine' h_take (i := 6) #[true, false, true, true, true, true, true, false, false, false] rfl rfl rfl (by kernel_rfl) (by kernel_rfl) (by kernel_rfl) rfl (qp_then (qp_blk (qp_then (qp_then (qp_blk (qp_then qp_bp)))))) (fun _ h => (h.sort (by repeat constructor)).fewer (Hp.Le.refl _)) ?hh5 ?kk5
   case hh5 =>
    refine o_load1I trivial rfl Tryz.isAgg95 rfl ((hb.le hx1.le).cellI (k := i) rfl (by omega)) ?_
    refine o_nil ?_
    exact ⟨fun _ _ ha _ => ha⟩
   refine h_go [1, 7] (by kernel_rfl) rfl (TWHs.cons ?_ (TWHs.cons ?_ TWHs.nil))
   ·
    refine h_op #[true, true, true, true, true, true, true, false, false, false] rfl rfl ?_
    refine o_makeRow trivial rfl Tryz.underlying31 elemz95 rfl rfl (by omega) (by omega) (by first | omega | (unfold maxLen; omega)) (fun v15 => ?_)
    refine o_nil ?_
    refine h_next (fun _ h => (h.sort (by repeat constructor)).fewer (Hp.Le.refl _)) ?_
    refine h_go [7] (by kernel_rfl) rfl (TWHs.cons ?_ TWHs.nil)
    refine h_op #[true, true, true, true, true, true, true, true, false, false] rfl rfl ?_
    refine o_callI trivial rfl Tryz.call116 rfl (rOne_any _ A (dg B i) 0 (ha.le hx1.le) (by omega) hdb (by decide)) ?_
    rintro u1 I2 hx2 hs1
    refine o_nil ?_
    refine h_next (fun _ h => (h.sort (by repeat constructor)).fewer (hx2.le)) ?_
    refine h_go [8] (by kernel_rfl) rfl (TWHs.cons ?_ TWHs.nil)
    refine h_op #[true, true, true, true, true, true, true, true, true, false] rfl rfl ?_
    refine o_appendSlc trivial rfl Tryz.underlying31 (elem95) (by decide) rfl rfl (fun v' => (by repeat constructor)) (hs1.slc) (wcs_plain _) (by rw [wcs_len]; unfold maxLen; omega) (by rw [wcs_len]; omega) (fun v22 => ?_)
    refine o_nil ?_
    refine h_next (fun _ h => (h.sort (by repeat constructor)).fewer (hx2.le)) ?_
    refine' h_take (i := 9) #[true, true, true, true, true, true, true, true, true, true] rfl rfl rfl (by kernel_rfl) (by kernel_rfl) (by kernel_rfl) rfl (qp_then (qp_blk (qp_then (qp_then (qp_blk (qp_then qp_bp)))))) (fun _ h => (h.sort (by repeat constructor)).fewer (hx2.le)) ?hh6 ?kk6
    case hh6 =>
     refine o_pv trivial rfl rfl ?_
     refine o_nil ?_
     exact ⟨fun _ _ ha _ => ha⟩
    refine h_end (by kernel_rfl) ?_
    refine then_c ?_
    rw [Int.toNat_natCast, made_wl, wcs_flat, wcs_len, ← show wl (List.replicate i 0 ++ natW (val A * dg B i + 0)) = wl (List.replicate i 0) ++ wl (natW (val A * dg B i + 0)) from List.map_append]
    refine c_sealO (List.replicate i 0 ++ natW (val A * dg B i + 0)) (by rw [List.length_append, List.length_replicate]; exact .here) ((wds_zeros _).app (Wds_natW _)) (by rw [List.length_append, List.length_replicate]; unfold maxLen; omega) (fun I3 hx3 hs3 => ?_)
    refine c_region ?_
    iterate 2 refine o_pv trivial rfl rfl ?_
    refine o_callI trivial rfl Tryz.call112 rfl (rAdd_any _ _ _ _ (hu.le (hx2.le.trans hx3.le)) hs3 (by omega) (by rw [List.length_append, List.length_replicate]; omega)) ?_
    rintro u4 I4 hx4 hs4
    refine o_pv trivial rfl rfl ?_
    refine o_nil (blk_n (then_c (c_region ?_)))
    refine o_pv trivial rfl rfl ?_
    first | (refine o_add trivial rfl rfl rfl ?_ ?_; (omega)) | refine o_pv trivial rfl rfl ?_
    refine o_pv trivial rfl rfl ?_
    refine o_nil ?_
    rw [val_natW, val_shift, val_natW, Nat.add_zero] at hs4
    exact again (i + 1, u4, I4) (sub_cons rfl (sub_cons rfl (sub_cons rfl (sub_cons rfl sub_nil)))) (fun _ h => h.drop (List.nil_sublist _)) (by show B.length - (i + 1) < B.length - i; omega) ⟨by show i + 1 ≤ _; omega, by
      show Ws I4 u4 (natW (val A * (pre B i + dg B i * 4294967296 ^ i)))
      rw [Nat.mul_add, ← Nat.mul_assoc, Nat.mul_comm (val A * dg B i) (4294967296 ^ i)]
      exact hs4, hx1.trans (hx2.trans (hx3.trans hx4 (Nat.le_refl _)) (Nat.le_refl _)) (Nat.le_refl _)⟩
   ·
    refine h_op #[true, false, true, true, true, true, true, true, false, false] rfl rfl ?_
    refine o_callI trivial rfl Tryz.call116 rfl (rOne_any _ A (dg B i) 0 (ha.le hx1.le) (by omega) hdb (by decide)) ?_
    rintro u1 I2 hx2 hs1
    refine o_nil ?_
    refine h_next (fun _ h => (h.sort (by repeat constructor)).fewer (hx2.le)) ?_
    refine h_go [1] (by kernel_rfl) rfl (TWHs.cons ?_ TWHs.nil)
    refine h_op #[true, true, true, true, true, true, true, true, false, false] rfl rfl ?_
    refine o_makeRow trivial rfl Tryz.underlying31 elemz95 rfl rfl (by omega) (by omega) (by first | omega | (unfold maxLen; omega)) (fun v15 => ?_)
    refine o_nil ?_
    refine h_next (fun _ h => (h.sort (by repeat constructor)).fewer (hx2.le)) ?_
    refine h_go [8] (by kernel_rfl) rfl (TWHs.cons ?_ TWHs.nil)
    refine h_op #[true, true, true, true, true, true, true, true, true, false] rfl rfl ?_
    refine o_appendSlc trivial rfl Tryz.underlying31 (elem95) (by decide) rfl rfl (fun v' => (by repeat constructor)) (hs1.slc) (wcs_plain _) (by rw [wcs_len]; unfold maxLen; omega) (by rw [wcs_len]; omega) (fun v22 => ?_)
    refine o_nil ?_
    refine h_next (fun _ h => (h.sort (by repeat constructor)).fewer (hx2.le)) ?_
    refine' h_take (i := 9) #[true, true, true, true, true, true, true, true, true, true] rfl rfl rfl (by kernel_rfl) (by kernel_rfl) (by kernel_rfl) rfl (qp_then (qp_blk (qp_then (qp_then (qp_blk (qp_then qp_bp)))))) (fun _ h => (h.sort (by repeat constructor)).fewer (hx2.le)) ?hh7 ?kk7
    case hh7 =>
     refine o_pv trivial rfl rfl ?_
     refine o_nil ?_
     exact ⟨fun _ _ ha _ => ha⟩
    refine h_end (by kernel_rfl) ?_
    refine then_c ?_
    rw [Int.toNat_natCast, made_wl, wcs_flat, wcs_len, ← show wl (List.replicate i 0 ++ natW (val A * dg B i + 0)) = wl (List.replicate i 0) ++ wl (natW (val A * dg B i + 0)) from List.map_append]
    refine c_sealO (List.replicate i 0 ++ natW (val A * dg B i + 0)) (by rw [List.length_append, List.length_replicate]; exact .here) ((wds_zeros _).app (Wds_natW _)) (by rw [List.length_append, List.length_replicate]; unfold maxLen; omega) (fun I3 hx3 hs3 => ?_)
    refine c_region ?_
    iterate 2 refine o_pv trivial rfl rfl ?_
    refine o_callI trivial rfl Tryz.call112 rfl (rAdd_any _ _ _ _ (hu.le (hx2.le.trans hx3.le)) hs3 (by omega) (by rw [List.length_append, List.length_replicate]; omega)) ?_
    rintro u4 I4 hx4 hs4
    refine o_pv trivial rfl rfl ?_
    refine o_nil (blk_n (then_c (c_region ?_)))
    refine o_pv trivial rfl rfl ?_
    first | (refine o_add trivial rfl rfl rfl ?_ ?_; (omega)) | refine o_pv trivial rfl rfl ?_
    refine o_pv trivial rfl rfl ?_
    refine o_nil ?_
    rw [val_natW, val_shift, val_natW, Nat.add_zero] at hs4
    exact again (i + 1, u4, I4) (sub_cons rfl (sub_cons rfl (sub_cons rfl (sub_cons rfl sub_nil)))) (fun _ h => h.drop (List.nil_sublist _)) (by show B.length - (i + 1) < B.length - i; omega) ⟨by show i + 1 ≤ _; omega, by
      show Ws I4 u4 (natW (val A * (pre B i + dg B i * 4294967296 ^ i)))
      rw [Nat.mul_add, ← Nat.mul_assoc, Nat.mul_comm (val A * dg B i) (4294967296 ^ i)]
      exact hs4, hx1.trans (hx2.trans (hx3.trans hx4 (Nat.le_refl _)) (Nat.le_refl _)) (Nat.le_refl _)⟩
  ·
   have f1 := h1
   try simp only [bl] at f1
   refine c_exit (then_x (then_x (blk_eq rfl (then_c (c_seq (c_region ?_))))))
   iterate 2 refine o_pv trivial rfl rfl ?_
   refine o_nil (then_c (c_ret ?_))
   refine ret1 rfl rfl ?_
   have hie : i = B.length := by omega
   subst hie
   rw [pre_end (Nat.le_refl _)] at hu
   exact leaf hx1 (List.nil_sublist _) hu
theorem rShift_any (va : Value) (A : List Nat) (m : Nat) {I : Hp} (ha : Ws I va A) (hs : A.length ≤ 1000000) (hm : m ≤ 100000) : Fun Tryz.prog 124 [va, .int .i64 (m : Int)] I [] (fun v I' _ => Ws I' v (natW (val A * 2 ^ m))) := by
  have hA := val_lt ha.wds
  intro w hw
  refine enter2 _ Tryz.func124 rfl Tryz.ntmps124 rfl ?_ hw
  refine c_seq (c_region ?_)
  refine o_pv trivial rfl rfl ?_
  refine o_nil (then_c (c_seq (c_region ?_)))
  refine o_pv trivial rfl rfl ?_
  refine o_callI trivial rfl Tryz.call66 rfl (rTrim_any _ _ ha (by omega)) ?_
  rintro u1 I1 hx1 hs1
  refine o_pv trivial rfl rfl ?_
  refine o_nil (then_c (c_seq (c_seq (c_region ?_))))
  refine o_pv trivial rfl rfl ?_
  refine o_nil (then_c (c_block ?_))
  refine c_loop (ι := Nat × Value × Hp) [1] (.cons rfl .nil) (fun x => m - x.1) (fun x E0 => (5, x.2.1) :: (6, .int .i64 (x.1 : Nat)) :: E0) (fun x => St w [] x.2.2 []) (fun x => x.1 ≤ m ∧ Ws x.2.2 x.2.1 (natW (val A * 2 ^ x.1)) ∧ Ext w.heap.size I x.2.2) ((0, u1, I1)) (sub_cons rfl (sub_cons rfl (sub_cons rfl sub_nil))) (fun _ h => h) (⟨Nat.zero_le _, by show Ws I1 u1 (natW (val A * 1)); rw [Nat.mul_one]; exact hs1, hx1⟩) ?_
  rintro ⟨i, u, I2⟩ ⟨hi, hu, hx2⟩
  try dsimp only
  simp only at hi hu hx2
  refine c_seq (c_seq (c_region ?_))
  iterate 3 refine o_pv trivial rfl rfl ?_
  refine' o_and trivial trivial rfl rfl rfl rfl rfl rfl rfl rfl (fun hb12 => ?_) ?_
  rotate_left
  ·
   iterate 2 refine o_pv (wants_some rfl rfl hb12) rfl rfl ?_
   refine o_nil ?_
   exact joins rfl
  refine' o_and trivial trivial rfl rfl rfl rfl rfl rfl rfl rfl (fun hb16 => ?_) ?_
  rotate_left
  ·
   have fb16 := hb16
   try simp only [bl] at fb16
   refine o_pv (wants_some rfl rfl hb16) rfl rfl ?_
   refine o_lenW (wants_some rfl rfl hb16) rfl Tryz.underlying31 rfl (hu) ?_
   refine o_pv (wants_some rfl rfl hb16) rfl rfl ?_
   refine o_nil ?_
   exact joins rfl
  refine o_nil (then_c ?_)
  refine c_cond rfl (fun h1 => ?_) (fun h1 => ?_)
  ·
   have f1 := h1
   try simp only [bl] at f1
   have hl1 : (natW (val A * 2 ^ i)).length ≤ A.length + (i + 1) := natW_len_le (by
     rw [Nat.pow_add]
     refine Nat.mul_lt_mul'' hA ?_
     have h2 : 2 ^ i < 2 ^ (32 * (i + 1)) := Nat.pow_lt_pow_right (by decide) (by omega)
     rwa [Nat.pow_mul] at h2)
   refine c_skip (then_c (c_seq (c_block (c_region ?_))))
   refine o_pv trivial rfl rfl ?_
   refine o_callI trivial rfl Tryz.call116 rfl (rOne_any _ _ 2 0 hu (by omega) (by decide) (by decide)) ?_
   rintro u3 I3 hx3 hs3
   refine o_pv trivial rfl rfl ?_
   refine o_nil (blk_n (then_c (c_region ?_)))
   refine o_pv trivial rfl rfl ?_
   first | (refine o_add trivial rfl rfl rfl ?_ ?_; (omega)) | refine o_pv trivial rfl rfl ?_
   refine o_pv trivial rfl rfl ?_
   refine o_nil ?_
   rw [val_natW, Nat.add_zero, Nat.mul_assoc, ← Nat.pow_succ] at hs3
   exact again (i + 1, u3, I3) (sub_cons rfl (sub_cons rfl (sub_cons rfl sub_nil))) (fun _ h => h) (by show m - (i + 1) < m - i; omega) ⟨by show i + 1 ≤ _; omega, hs3, hx2.trans hx3 (Nat.le_refl _)⟩
  ·
   have f1 := h1
   try simp only [bl] at f1
   refine c_exit (then_x (then_x (blk_eq rfl (then_c (c_seq (c_region ?_))))))
   iterate 2 refine o_pv trivial rfl rfl ?_
   refine o_nil (then_c (c_ret ?_))
   refine ret1 rfl rfl ?_
   refine leaf hx2 (List.nil_sublist _) ?_
   by_cases him : i = m
   · subst him; exact hu
   · have h0 : val A * 2 ^ i = 0 := natW_len_zero.1 (by omega)
     have hp : 0 < 2 ^ i := Nat.pow_pos (by decide)
     have h1 : val A = 0 := by
       rcases Nat.mul_eq_zero.1 h0 with h | h
       · exact h
       · omega
     rw [h1, Nat.zero_mul] at hu ⊢
     exact hu
end Go.Proofs.YtjgbjaaekknenaaGreat
/-
  The document's answers for layers 4, 5.
-/
namespace Go.Tw
open Go
set_option linter.unusedVariables false
set_option linter.unusedSimpArgs false
set_option linter.unnecessarySimpa false
set_option maxHeartbeats 1000000
theorem bits_one {a : Nat} (ha : a < 4294967296) : bits .and .u32 (a : Int) ((1 : Nat) : Int) = ((a % 2 : Nat) : Int) := by
  have h1 : (BitVec.ofInt 32 (a : Int)).toNat = a := by
    rw [BitVec.ofInt_natCast, BitVec.toNat_ofNat]; exact Nat.mod_eq_of_lt (by omega)
  have h2 : (BitVec.ofInt 32 ((1 : Nat) : Int)).toNat = 1 := by
    rw [BitVec.ofInt_natCast, BitVec.toNat_ofNat]
  show IntKind.u32.wrap ((BitVec.ofInt 32 (a : Int) &&& BitVec.ofInt 32 ((1 : Nat) : Int)).toNat : Int) = _
  rw [BitVec.toNat_and, h1, h2, Nat.and_one_is_mod, IntWalk.u32_in _ (by omega)]
section
variable {P : Program} {ops : Array Oper} {rest : List Oper} {n : Nat} {D : List Deferred} {E : Env} {S : World → Prop} {Q : Exit → Act → World → Prop} {d : Nat} {ty : TypeId} {pos : String} {aft : Array Edge} {g : Option (Nat × Bool)}
/-- x & 1 -/
theorem o_and1 {qm : Bool} {x y : Operand} {t t2 : TypeId} {a : Nat} (hg : Wants ops E g) (hd : Nat.blt d n = true) (hx : ev E x = some (.int .u32 (a : Int))) (hy : ev E y = some (.int .u32 1)) (h : a < 4294967296)
    (k : TL qm P ops Q rest n D ((d, .int .u32 ((a % 2 : Nat) : Int)) :: E) S) : TL qm P ops Q (⟨some d, .binOp .and t x y t2, ty, pos, aft, g⟩ :: rest) n D E S :=
  o_rd hg hd (v := .int .u32 ((a % 2 : Nat) : Int)) (fun a w ha hw d pos aft g => ⟨w, by
    simp only [execOp, ha.ev hx, ha.ev hy, Sem.run_bind, run_eqGuard_int, Result.andThen_ok]
    rw [binOp_and, intBits_and, show (1 : Int) = ((1 : Nat) : Int) from rfl, bits_one h]
    simp, rfl⟩) k
end
theorem val_bit {A : List Nat} (hA : Wds A) {i : Nat} (h : i / 32 < A.length) : dg A (i / 32) / 2 ^ (i % 32) % 2 = val A / 2 ^ i % 2 := by
  have hr : i % 32 < 32 := Nat.mod_lt _ (by decide)
  have h1 := val_split (l := A) (i := i / 32) (by omega)
  have h2 := val_drop h
  have h3 : 2 ^ i = 4294967296 ^ (i / 32) * 2 ^ (i % 32) := by
    rw [pow_bits, ← Nat.pow_add]; congr 1; omega
  have h4 : val A / 4294967296 ^ (i / 32) = val (A.drop (i / 32)) := by
    rw [h1, Nat.add_mul_div_left _ _ (pow_pos _), Nat.div_eq_of_lt (pre_lt hA _), Nat.zero_add]
  have h5 : (4294967296 : Nat) = 2 ^ (i % 32) * (2 * 2 ^ (31 - i % 32)) := by
    rw [← Nat.pow_succ', ← Nat.pow_add, show i % 32 + (31 - i % 32).succ = 32 by omega]
  rw [h3, ← Nat.div_div_eq_div_mul, h4, h2, h5, Nat.mul_assoc, Nat.mul_assoc, Nat.add_mul_div_left _ _ (Nat.pow_pos (by decide)), Nat.add_mul_mod_self_left]
/-- One bit more of a quotient. -/
theorem bit_step {a i d q r : Nat} (hd : 0 < d) (hq : q = a / 2 ^ (i + 1) / d) (hr : r = a / 2 ^ (i + 1) % d) :
    (d ≤ 2 * r + a / 2 ^ i % 2 → 2 * q + 1 = a / 2 ^ i / d ∧ 2 * r + a / 2 ^ i % 2 - d = a / 2 ^ i % d) ∧ (¬ d ≤ 2 * r + a / 2 ^ i % 2 → 2 * q = a / 2 ^ i / d ∧ 2 * r + a / 2 ^ i % 2 = a / 2 ^ i % d) := by
  have h1 : a / 2 ^ (i + 1) = a / 2 ^ i / 2 := by rw [Nat.pow_succ, Nat.div_div_eq_div_mul]
  have h2 : r < d := by rw [hr]; exact Nat.mod_lt _ hd
  have h3 := Nat.div_add_mod (a / 2 ^ (i + 1)) d
  rw [← hq, ← hr, h1] at h3
  generalize a / 2 ^ i = b at *
  have hb : b % 2 < 2 := Nat.mod_lt _ (by decide)
  have hm : d * (2 * q) = 2 * (d * q) := Nat.mul_left_comm _ _ _
  constructor
  · intro h
    exact div_unique (by rw [Nat.mul_comm, Nat.mul_add, Nat.mul_one, hm]; omega) (by omega)
  · intro h
    exact div_unique (by rw [Nat.mul_comm, hm]; omega) (by omega)
end Go.Tw
namespace Go.Proofs.YtjgbjaaekknenaaGreat
open Go Go.Tw
set_option linter.unusedVariables false
set_option linter.unusedSimpArgs false
set_option linter.unnecessarySimpa false
set_option maxHeartbeats 1000000
theorem rBit_any (va : Value) (A : List Nat) (i : Nat) {I : Hp} (ha : Ws I va A) (hs : A.length ≤ 1000000) (hi : i < 32 * A.length) : Fun Tryz.prog 125 [va, .int .i64 (i : Int)] I [] (fun v _ _ => v = .int .u32 ((val A / 2 ^ i % 2 : Nat) : Int)) := by
  have hd := dg_lt ha.wds (i / 32)
  have hd2 : dg A (i / 32) / 2 ^ (i % 32) ≤ dg A (i / 32) := Nat.div_le_self _ _
  intro w hw
  refine enter2 _ Tryz.func125 rfl Tryz.ntmps125 rfl ?_ hw
  refine c_seq (c_region ?_)
  refine o_pv trivial rfl rfl ?_
  refine o_nil (then_c (c_seq (c_region ?_)))
  iterate 2 refine o_pv trivial rfl rfl ?_
  refine o_quo trivial rfl rfl rfl (by omega) (by first | rfl | rw [IntWalk.i64_in _ (by omega)]) ?_
  rw [show (i : Int) / 32 = ((i / 32 : Nat) : Int) by omega]
  refine o_elemW trivial rfl Tryz.underlying31 Tryz.sizeOf95 rfl (ha) rfl (by omega) ?_
  refine o_load1I trivial rfl Tryz.isAgg95 rfl (ha.cellI (k := i / 32) rfl (by omega)) ?_
  refine o_pv trivial rfl rfl ?_
  refine o_rem trivial rfl rfl rfl (by omega) ?_
  rw [show (i : Int) % 32 = ((i % 32 : Nat) : Int) by omega]
  refine o_shr (2 ^ (i % 32)) trivial rfl rfl rfl (by omega) (by rw [Int.toNat_natCast, show min (i % 32) IntKind.u32.bits = i % 32 from Nat.min_eq_left (by show i % 32 ≤ 32; omega)]) (by omega) ?_
  rw [show (dg A (i / 32) : Int) / ((2 ^ (i % 32) : Nat) : Int) = ((dg A (i / 32) / 2 ^ (i % 32) : Nat) : Int) from (Int.natCast_ediv _ _).symm]
  refine o_and1 trivial rfl rfl rfl (by omega) ?_
  refine o_pv trivial rfl rfl ?_
  refine o_nil (then_c (c_ret ?_))
  refine ret1 rfl rfl ?_
  refine leaf0 (congrArg (Value.int .u32) ?_); rw [val_bit ha.wds (by omega)]
theorem dbl_len {n b k : Nat} (h : (natW n).length ≤ k) (hb : (natW b).length ≤ k) : (natW (2 * n + b)).length ≤ k + 2 := by
  rw [Nat.two_mul]
  exact natW_add_len _ _ (k + 1) (natW_add_len _ _ k h h) (by omega)
theorem one_len {b : Nat} (h : b ≤ 1) : (natW b).length ≤ 1 := natW_len_le (by rw [Nat.pow_one]; omega)
theorem rDiv_any (va vb : Value) (A B : List Nat) {I : Hp} (ha : Ws I va A) (hb : Ws I vb B) (hs : A.length ≤ 100000) (hs2 : B.length ≤ 100000) (h0 : 0 < val B) : Fun Tryz.prog 94 [va, vb] I [] (fun v I' _ => ∃ u1 u2, v = .tuple #[u1, u2, .bool true] ∧ Ws I' u1 (natW (val A / val B)) ∧ Ws I' u2 (natW (val A % val B))) := by
  have hbl : (natW (val B)).length ≤ B.length := natW_len_list hb.wds
  have hbz : (natW (val B)).length ≠ 0 := fun e => by have := natW_len_zero.1 e; omega
  have hA : val A < 2 ^ (32 * A.length) := by have := val_lt ha.wds; rwa [pow_bits] at this
  have hal : (natW (val A)).length ≤ A.length := natW_len_list ha.wds
  intro w hw
  refine enter2 _ Tryz.func94 rfl Tryz.ntmps94 rfl ?_ hw
  refine c_seq (c_region ?_)
  iterate 3 refine o_pv trivial rfl rfl ?_
  refine o_nil (then_c (c_seq (c_region ?_)))
  refine o_pv trivial rfl rfl ?_
  refine o_callI trivial rfl Tryz.call66 rfl (rTrim_any _ _ hb (by omega)) ?_
  rintro u1 I1 hx1 hs1
  refine o_pv trivial rfl rfl ?_
  refine o_nil (then_c (c_seq (c_seq (c_region ?_))))
  refine o_pv trivial rfl rfl ?_
  refine o_lenW trivial rfl Tryz.underlying31 rfl (hs1) ?_
  refine o_pv trivial rfl rfl ?_
  refine o_nil (then_c ?_)
  refine c_cond rfl (fun h1 => ?_) (fun h1 => ?_)
  ·
   have f1 := h1
   try simp only [bl] at f1
   exfalso; omega
  ·
   have f1 := h1
   try simp only [bl] at f1
   refine c_skip (then_c (c_seq (c_region ?_)))
   refine o_pv trivial rfl rfl ?_
   refine o_nil (then_c (c_seq (c_region ?_)))
   refine o_pv trivial rfl rfl ?_
   refine o_nil (then_c (c_seq (c_seq (c_region ?_))))
   refine o_pv trivial rfl rfl ?_
   refine o_lenW trivial rfl Tryz.underlying31 rfl (ha) ?_
   first | (refine o_mul trivial rfl rfl rfl ?_ ?_; (omega)) | refine o_pv trivial rfl rfl ?_
   first | (refine o_sub trivial rfl rfl rfl ?_ ?_; (omega)) | refine o_pv trivial rfl rfl ?_
   refine o_pv trivial rfl rfl ?_
   refine o_nil (then_c (c_block ?_))
   refine c_loop (ι := Nat × Int × Value × Value × Hp) [0, 7] (.cons rfl (.cons rfl .nil)) (fun x => x.1) (fun x E0 => (8, x.2.2.1) :: (9, x.2.2.2.1) :: (10, .int .i64 x.2.1) :: E0) (fun x => St w [] x.2.2.2.2 []) (fun x => x.1 ≤ 32 * A.length ∧ x.2.1 = (x.1 : Int) - 1 ∧ Ws x.2.2.2.2 x.2.2.1 (natW (val A / 2 ^ x.1 / val B)) ∧ Ws x.2.2.2.2 x.2.2.2.1 (natW (val A / 2 ^ x.1 % val B)) ∧ Ext w.heap.size I x.2.2.2.2 ∧ I1.Le x.2.2.2.2) ((32 * A.length, 32 * (A.length : Int) - 1, .slice none 0 0, .slice none 0 0, I1)) (sub_cons rfl (sub_cons rfl (sub_cons rfl (sub_cons rfl (sub_cons rfl sub_nil))))) (fun _ h => h) (⟨Nat.le_refl _, by simp only; omega, by simp only; rw [Nat.div_eq_of_lt hA, Nat.zero_div, natW_zero]; exact Ws.nil _, by simp only; rw [Nat.div_eq_of_lt hA, Nat.zero_mod, natW_zero]; exact Ws.nil _, hx1, Hp.Le.refl _⟩) ?_
   rintro ⟨j, z, uq, ur, I2⟩ ⟨hj, hz, hq, hr, hx2, hle⟩
   try dsimp only
   simp only at hj hz hq hr hx2 hle; subst hz
   refine c_seq (c_seq (c_region ?_))
   iterate 2 refine o_pv trivial rfl rfl ?_
   refine o_nil (then_c ?_)
   refine c_cond rfl (fun h2 => ?_) (fun h2 => ?_)
   ·
    have f2 := h2
    try simp only [bl] at f2
    obtain ⟨i, rfl⟩ : ∃ i, j = i + 1 := ⟨j - 1, by omega⟩
    have hql : (natW (val A / 2 ^ (i + 1) / val B)).length ≤ 100000 := Nat.le_trans (natW_le_len (Nat.le_trans (Nat.div_le_self _ _) (Nat.div_le_self _ _))) (Nat.le_trans hal hs)
    have hrl : (natW (val A / 2 ^ (i + 1) % val B)).length ≤ 100000 := Nat.le_trans (natW_le_len (Nat.le_trans (Nat.mod_le _ _) (Nat.div_le_self _ _))) (Nat.le_trans hal hs)
    have hbs := bit_step (a := val A) (i := i) h0 rfl rfl
    have e1 : ((i + 1 : Nat) : Int) - 1 = (i : Nat) := by omega
    rw [e1]
    have hqv : val (natW (val A / 2 ^ (i + 1) / val B)) * 2 + 0 = 2 * (val A / 2 ^ (i + 1) / val B) := by rw [val_natW]; omega
    have hrv : val (natW (val A / 2 ^ (i + 1) % val B)) * 2 + val A / 2 ^ i % 2 = 2 * (val A / 2 ^ (i + 1) % val B) + val A / 2 ^ i % 2 := by rw [val_natW]; omega
    refine c_skip (then_c (c_seq (c_block (c_seq (c_region ?_)))))
    refine o_pv trivial rfl rfl ?_
    refine o_callI trivial rfl Tryz.call116 rfl (rOne_any _ _ 2 0 hq (by omega) (by decide) (by decide)) ?_
    rintro u3 I3 hx3 hs3
    refine o_pv trivial rfl rfl ?_
    refine o_nil (then_c (c_seq (c_region ?_)))
    iterate 3 refine o_pv trivial rfl rfl ?_
    refine o_callQ trivial rfl Tryz.call125 rfl (rBit_any _ A i (ha.le (hx2.le.trans hx3.le)) (by omega) (by omega)) ?_
    refine o_callI trivial rfl Tryz.call116 rfl (rOne_any _ _ 2 (val A / 2 ^ i % 2) (hr.le hx3.le) (by omega) (by decide) (by omega)) ?_
    rintro u4 I4 hx4 hs4
    refine o_pv trivial rfl rfl ?_
    refine o_nil (then_c (c_seq ?_))
    rw [hqv] at hs3
    rw [hrv] at hs4
    have hl3 := dbl_len (n := val A / 2 ^ (i + 1) / val B) (b := 0) hql (by rw [natW_zero]; exact Nat.zero_le _)
    rw [Nat.add_zero] at hl3
    have hl4 := dbl_len (n := val A / 2 ^ (i + 1) % val B) (b := val A / 2 ^ i % 2) hrl (Nat.le_trans (one_len (by omega)) (by decide))
    refine c_region ?_
    iterate 2 refine o_pv trivial rfl rfl ?_
    refine o_callQ trivial rfl Tryz.call113 rfl (rCmp_any _ _ _ _ hs4 (hs1.le (hle.trans (hx3.le.trans hx4.le))) (by omega) (by omega)) ?_
    refine o_pv trivial rfl rfl ?_
    refine o_nil (then_c ?_)
    refine c_cond rfl (fun h3 => ?_) (fun h3 => ?_)
    ·
     have f3 := h3
     try simp only [bl] at f3
     rw [val_natW, val_natW] at f3
     have hge : val B ≤ 2 * (val A / 2 ^ (i + 1) % val B) + val A / 2 ^ i % 2 := by unfold cmpZ at f3; split at f3 <;> (try split at f3) <;> omega
     obtain ⟨hb1, hb2⟩ := hbs.1 hge
     refine c_seq (c_region ?_)
     iterate 2 refine o_pv trivial rfl rfl ?_
     refine o_callI trivial rfl Tryz.call114 rfl (rSub_any _ _ _ _ hs4 (hs1.le (hle.trans (hx3.le.trans hx4.le))) (by omega) (by omega) (by rw [val_natW, val_natW]; exact hge)) ?_
     rintro _ I5 hx5 ⟨u5, rfl, hs5⟩
     iterate 4 refine o_pv trivial rfl rfl ?_
     refine o_nil (then_c (c_region ?_))
     refine o_pv trivial rfl rfl ?_
     refine o_callI trivial rfl Tryz.call116 rfl (rOne_any _ _ 1 1 (hs3.le (hx4.le.trans hx5.le)) (by omega) (by decide) (by decide)) ?_
     rintro u6 I6 hx6 hs6
     refine o_pv trivial rfl rfl ?_
     refine o_nil (blk_n (then_c (c_region ?_)))
     refine o_pv trivial rfl rfl ?_
     first | (refine o_sub trivial rfl rfl rfl ?_ ?_; (omega)) | refine o_pv trivial rfl rfl ?_
     refine o_pv trivial rfl rfl ?_
     refine o_nil ?_
     first
       | (rw [val_natW, val_natW, hb2] at hs5
          rw [val_natW, Nat.mul_one, hb1] at hs6
          exact again (i, (i : Int) - 1, u6, u5, I6) (sub_cons rfl (sub_cons rfl (sub_cons rfl (sub_cons rfl (sub_cons rfl sub_nil))))) (fun _ h => h) (by show i < i + 1; omega) ⟨by show i ≤ _; omega, rfl, hs6, hs5.le hx6.le, hx2.trans (hx3.trans (hx4.trans (hx5.trans hx6 (Nat.le_refl _)) (Nat.le_refl _)) (Nat.le_refl _)) (Nat.le_refl _), hle.trans (hx3.le.trans (hx4.le.trans (hx5.le.trans hx6.le)))⟩)
       | (rw [hb2] at hs4
          rw [hb1] at hs3
          exact again (i, (i : Int) - 1, u3, u4, I4) (sub_cons rfl (sub_cons rfl (sub_cons rfl (sub_cons rfl (sub_cons rfl sub_nil))))) (fun _ h => h) (by show i < i + 1; omega) ⟨by show i ≤ _; omega, rfl, hs3.le hx4.le, hs4, hx2.trans (hx3.trans hx4 (Nat.le_refl _)) (Nat.le_refl _), hle.trans (hx3.le.trans hx4.le)⟩)
    ·
     have f3 := h3
     try simp only [bl] at f3
     rw [val_natW, val_natW] at f3
     have hge : ¬ val B ≤ 2 * (val A / 2 ^ (i + 1) % val B) + val A / 2 ^ i % 2 := by unfold cmpZ at f3; split at f3 <;> (try split at f3) <;> omega
     obtain ⟨hb1, hb2⟩ := hbs.2 hge
     refine c_skip (blk_n (then_c (c_region ?_)))
     refine o_pv trivial rfl rfl ?_
     first | (refine o_sub trivial rfl rfl rfl ?_ ?_; (omega)) | refine o_pv trivial rfl rfl ?_
     refine o_pv trivial rfl rfl ?_
     refine o_nil ?_
     first
       | (rw [val_natW, val_natW, hb2] at hs5
          rw [val_natW, Nat.mul_one, hb1] at hs6
          exact again (i, (i : Int) - 1, u6, u5, I6) (sub_cons rfl (sub_cons rfl (sub_cons rfl (sub_cons rfl (sub_cons rfl sub_nil))))) (fun _ h => h) (by show i < i + 1; omega) ⟨by show i ≤ _; omega, rfl, hs6, hs5.le hx6.le, hx2.trans (hx3.trans (hx4.trans (hx5.trans hx6 (Nat.le_refl _)) (Nat.le_refl _)) (Nat.le_refl _)) (Nat.le_refl _), hle.trans (hx3.le.trans (hx4.le.trans (hx5.le.trans hx6.le)))⟩)
       | (rw [hb2] at hs4
          rw [hb1] at hs3
          exact again (i, (i : Int) - 1, u3, u4, I4) (sub_cons rfl (sub_cons rfl (sub_cons rfl (sub_cons rfl (sub_cons rfl sub_nil))))) (fun _ h => h) (by show i < i + 1; omega) ⟨by show i ≤ _; omega, rfl, hs3.le hx4.le, hs4, hx2.trans (hx3.trans hx4 (Nat.le_refl _)) (Nat.le_refl _), hle.trans (hx3.le.trans hx4.le)⟩)
   ·
    have f2 := h2
    try simp only [bl] at f2
    refine c_exit (then_x (then_x (blk_eq rfl (then_c (c_seq (c_region ?_))))))
    iterate 5 refine o_pv trivial rfl rfl ?_
    refine o_nil (then_c (c_ret ?_))
    refine ret3 rfl rfl rfl rfl ?_
    have hj0 : j = 0 := by omega
    subst hj0
    rw [Nat.pow_zero, Nat.div_one] at hq hr
    exact leaf hx2 (List.nil_sublist _) ⟨uq, ur, rfl, hq, hr⟩
theorem rSmall_any (va : Value) (A : List Nat) (d : Nat) {I : Hp} (ha : Ws I va A) (hs : A.length ≤ 100000) (hd0 : 0 < d) (hd : d < 4294967296) : Fun Tryz.prog 67 [va, .int .u32 (d : Int)] I [] (fun v I' _ => ∃ u, v = .tuple #[u, .int .u32 ((val A % d : Nat) : Int), .bool true] ∧ Ws I' u (natW (val A / d))) := by
  have hv1 : val [d] = d := by rw [val_cons, val_nil]; omega
  intro w hw
  refine enter2 _ Tryz.func67 rfl Tryz.ntmps67 rfl ?_ hw
  refine c_seq (c_region ?_)
  iterate 3 refine o_pv trivial rfl rfl ?_
  refine o_nil (then_c (c_seq (c_region ?_)))
  iterate 2 refine o_pv trivial rfl rfl ?_
  refine o_buildSl trivial rfl Tryz.underlying31 Tryz.sizeOf95 Tryz.zeroValue95 (by decide) (by decide) rfl (by repeat first | exact rfl | constructor) rfl (fun b13 => ?_)
  refine l_sealW [d] .here (Wds_cons hd Wds_nil) (by unfold maxLen; simp) (fun I1 hx1 hs1 => ?_)
  refine o_callI trivial rfl Tryz.call94 rfl (rDiv_any _ _ A [d] (ha.le hx1.le) hs1 hs (by simp) (by rw [hv1]; exact hd0)) ?_
  rintro _ I2 hx2 ⟨u1, u2, rfl, hq, hr⟩
  iterate 7 refine o_pv trivial rfl rfl ?_
  refine o_nil (then_c (c_seq (c_seq ?_)))
  rw [hv1] at hq hr
  have hrd : val A % d < d := Nat.mod_lt _ hd0
  have hrl := natW_len_le (n := val A % d) (k := 1) (by rw [Nat.pow_one]; omega)
  refine c_region ?_
  refine o_pv trivial rfl rfl ?_
  refine o_lenW trivial rfl Tryz.underlying31 rfl (hr) ?_
  refine o_pv trivial rfl rfl ?_
  refine o_nil (then_c ?_)
  refine c_cond rfl (fun h1 => ?_) (fun h1 => ?_)
  ·
   have f1 := h1
   try simp only [bl] at f1
   refine c_seq (c_region ?_)
   iterate 5 refine o_pv trivial rfl rfl ?_
   refine o_nil (then_c (c_ret (then_r ?_)))
   refine ret3 rfl rfl rfl rfl ?_
   have h0 : val A % d = 0 := natW_len_zero.1 (by omega)
   refine leaf (hx1.trans hx2 (Nat.le_refl _)) (List.nil_sublist _) ⟨u1, ?_, hq⟩; rw [h0]; rfl
  ·
   have f1 := h1
   try simp only [bl] at f1
   have h0 : val A % d ≠ 0 := fun e => f1 (by rw [e, natW_zero]; rfl)
   have hdg : dg (natW (val A % d)) 0 = val A % d := by rw [natW_pos h0]; show (val A % d) % 4294967296 = _; exact Nat.mod_eq_of_lt (by omega)
   refine c_skip (then_c (c_seq ?_))
   refine c_quiet (by kernel_rfl) (by kernel_rfl) (fun _ h => h.drawn) ?_
   iterate 2 refine o_pv trivial rfl rfl ?_
   refine o_elemW trivial rfl Tryz.underlying31 Tryz.sizeOf95 rfl (hr) rfl (by omega) ?_
   refine o_load1I trivial rfl Tryz.isAgg95 rfl (hr.cellI (k := 0) rfl (by omega)) ?_
   iterate 4 refine o_pv trivial rfl rfl ?_
   refine o_nil (then_c (c_ret ?_))
   refine ret3 rfl rfl rfl rfl ?_
   refine leaf (hx1.trans hx2 (Nat.le_refl _)) (List.nil_sublist _) ⟨u1, ?_, hq⟩; rw [hdg]; rfl
end Go.Proofs.YtjgbjaaekknenaaGreat
/-
  The document's answers for layers 5, 6.
-/
namespace Go.Proofs.YtjgbjaaekknenaaGreat
open Go Go.Tw
set_option linter.unusedVariables false
set_option linter.unusedSimpArgs false
set_option linter.unnecessarySimpa false
set_option maxHeartbeats 1000000
theorem natW_even {n : Nat} (h : n ≠ 0) : dg (natW n) 0 % 2 = n % 2 := by
  rw [natW_pos h]; show (n % 4294967296) % 2 = n % 2; omega
/-- A number without its twos, and how many these are. -/
structure OddOf (n x k : Nat) : Prop where
  eq : n = 2 ^ k * x
  odd : x % 2 = 1
theorem rOdd_any (va : Value) (n : Nat) {I : Hp} (ha : Ws I va (natW n)) (hs : (natW n).length ≤ 100000) (h0 : 0 < n) : Fun Tryz.prog 123 [va] I [] (fun v I' _ => ∃ u x k, v = .tuple #[u, .int .i64 (k : Nat)] ∧ Ws I' u (natW x) ∧ OddOf n x k) := by
  intro w hw
  refine enter1 _ Tryz.func123 rfl Tryz.ntmps123 rfl ?_ hw
  refine c_seq (c_region ?_)
  iterate 2 refine o_pv trivial rfl rfl ?_
  refine o_nil (then_c (c_seq (c_region ?_)))
  refine o_pv trivial rfl rfl ?_
  refine o_nil (then_c (c_seq (c_block ?_)))
  refine c_loop (ι := Nat × Nat × Value × Hp) [] .nil (fun x => x.1) (fun x E0 => (0, x.2.2.1) :: (4, .int .i64 (x.2.1 : Nat)) :: E0) (fun x => St w [] x.2.2.2 []) (fun x => 0 < x.1 ∧ n = 2 ^ x.2.1 * x.1 ∧ Ws x.2.2.2 x.2.2.1 (natW x.1) ∧ (natW x.1).length ≤ 100000 ∧ Ext w.heap.size I x.2.2.2) ((n, 0, va, I)) (sub_cons rfl (sub_cons rfl sub_nil)) (fun _ h => h) (⟨h0, by simp, ha, hs, Ext.refl _ _⟩) ?_
  rintro ⟨m, k, u, I1⟩ ⟨hm0, he, hu, hl, hx1⟩
  try dsimp only
  simp only at hm0 he hu hl hx1; have hne : (natW m).length ≠ 0 := fun e => by have := natW_len_zero.1 e; omega
  refine c_seq (c_seq (c_region ?_))
  refine o_pv trivial rfl rfl ?_
  refine o_lenW trivial rfl Tryz.underlying31 rfl (hu) ?_
  refine o_pv trivial rfl rfl ?_
  refine' o_and trivial trivial rfl rfl rfl rfl rfl rfl rfl rfl (fun hb8 => ?_) ?_
  rotate_left
  ·
   have fb8 := hb8
   try simp only [bl] at fb8
   refine o_pv (wants_some rfl rfl hb8) rfl rfl ?_
   refine o_elemW (wants_some rfl rfl hb8) rfl Tryz.underlying31 Tryz.sizeOf95 rfl (hu) rfl (by omega) ?_
   refine o_load1I (wants_some rfl rfl hb8) rfl Tryz.isAgg95 rfl (hu.cellI (k := 0) rfl (by omega)) ?_
   refine o_rem (wants_some rfl rfl hb8) rfl rfl rfl (by omega) ?_
   refine o_pv (wants_some rfl rfl hb8) rfl rfl ?_
   refine o_nil ?_
   exact joins rfl
  refine o_nil (then_c ?_)
  refine c_cond rfl (fun h1 => ?_) (fun h1 => ?_)
  ·
   have f1 := h1
   try simp only [bl] at f1
   have hev := natW_even (n := m) (by omega)
   have hk64 : k < 32 * (natW n).length := by
     have h1 := val_lt (Wds_natW n)
     rw [val_natW, pow_bits] at h1
     have h2 : 2 ^ k ≤ n := by rw [he]; exact Nat.le_mul_of_pos_right _ hm0
     exact (Nat.pow_lt_pow_iff_right (by decide)).1 (Nat.lt_of_le_of_lt h2 h1)
   have hmm : m % 2 = 0 := by omega
   refine c_skip (then_c (c_block (c_seq (c_region ?_))))
   refine o_pv trivial rfl rfl ?_
   refine o_callI trivial rfl Tryz.call67 rfl (rSmall_any _ _ 2 hu hl (by decide) (by decide)) ?_
   rintro _ I2 hx2 ⟨u2, rfl, hs2⟩
   iterate 5 refine o_pv trivial rfl rfl ?_
   refine o_nil (then_c (c_region ?_))
   refine o_pv trivial rfl rfl ?_
   first | (refine o_add trivial rfl rfl rfl ?_ ?_; (omega)) | refine o_pv trivial rfl rfl ?_
   refine o_pv trivial rfl rfl ?_
   refine o_nil (blk_n ?_)
   rw [val_natW] at hs2
   exact again (m / 2, k + 1, u2, I2) (sub_cons rfl (sub_cons rfl sub_nil)) (fun _ h => h) (by show m / 2 < m; omega) ⟨by show 0 < m / 2; omega, by show n = 2 ^ (k + 1) * (m / 2); rw [he, Nat.pow_succ, Nat.mul_assoc]; congr 1; omega, hs2, Nat.le_trans (natW_le_len (Nat.div_le_self _ _)) hl, hx1.trans hx2 (Nat.le_refl _)⟩
  ·
   have f1 := h1
   try simp only [bl] at f1
   refine c_exit (then_x (then_x (blk_eq rfl (then_c (c_seq (c_region ?_))))))
   iterate 4 refine o_pv trivial rfl rfl ?_
   refine o_nil (then_c (c_ret ?_))
   refine ret2 rfl rfl rfl ?_
   have hev := natW_even (n := m) (by omega)
   exact leaf hx1 (List.nil_sublist _) ⟨u, m, k, rfl, hu, he, by omega⟩
theorem OddOf.pos {n x k : Nat} (h : OddOf n x k) : 0 < x := by have := h.odd; omega
theorem OddOf.le {n x k : Nat} (h : OddOf n x k) : x ≤ n := by rw [h.eq]; exact Nat.le_mul_of_pos_left _ (Nat.pow_pos (by decide))
theorem OddOf.pow_lt {n x k L : Nat} (h : OddOf n x k) (hL : (natW n).length ≤ L) : k < 32 * L := by
  have h1 := val_lt (Wds_natW n)
  rw [val_natW, pow_bits] at h1
  have h2 : 2 ^ k ≤ n := by rw [h.eq]; exact Nat.le_mul_of_pos_right _ h.pos
  have h3 := (Nat.pow_lt_pow_iff_right (by decide)).1 (Nat.lt_of_le_of_lt h2 h1)
  omega
theorem rGcd_any (va vb : Value) (A B : List Nat) {I : Hp} (ha : Ws I va A) (hb : Ws I vb B) (hs : A.length ≤ 3000) (hs2 : B.length ≤ 3000) : Fun Tryz.prog 93 [va, vb] I [] (fun v I' _ => Ws I' v (natW (Nat.gcd (val A) (val B)))) := by
  have hal : (natW (val A)).length ≤ 3000 := Nat.le_trans (natW_len_list ha.wds) hs
  have hbl : (natW (val B)).length ≤ 3000 := Nat.le_trans (natW_len_list hb.wds) hs2
  intro w hw
  refine enter2 _ Tryz.func93 rfl Tryz.ntmps93 rfl ?_ hw
  refine c_seq (c_region ?_)
  refine o_pv trivial rfl rfl ?_
  refine o_nil (then_c (c_seq (c_region ?_)))
  refine o_pv trivial rfl rfl ?_
  refine o_callI trivial rfl Tryz.call66 rfl (rTrim_any _ _ ha (by omega)) ?_
  rintro u1 I1 hx1 hs1
  refine o_pv trivial rfl rfl ?_
  refine o_nil (then_c (c_seq (c_region ?_)))
  refine o_pv trivial rfl rfl ?_
  refine o_callI trivial rfl Tryz.call66 rfl (rTrim_any _ _ (hb.le hx1.le) (by omega)) ?_
  rintro u2 I2 hx2 hs2'
  refine o_pv trivial rfl rfl ?_
  refine o_nil (then_c (c_seq (c_seq (c_region ?_))))
  refine o_pv trivial rfl rfl ?_
  refine o_lenW trivial rfl Tryz.underlying31 rfl (hs1.le hx2.le) ?_
  refine o_pv trivial rfl rfl ?_
  refine o_nil (then_c ?_)
  refine c_cond rfl (fun h1 => ?_) (fun h1 => ?_)
  ·
   have f1 := h1
   try simp only [bl] at f1
   refine c_seq (c_region ?_)
   iterate 2 refine o_pv trivial rfl rfl ?_
   refine o_nil (then_c (c_ret (then_r ?_)))
   refine ret1 rfl rfl ?_
   have h0 : val A = 0 := natW_len_zero.1 (by omega)
   refine leaf (hx1.trans hx2 (Nat.le_refl _)) (List.nil_sublist _) ?_; rw [h0, Nat.gcd_zero_left]; exact hs2'
  ·
   have f1 := h1
   try simp only [bl] at f1
   refine c_skip (then_c (c_seq (c_seq (c_region ?_))))
   refine o_pv trivial rfl rfl ?_
   refine o_lenW trivial rfl Tryz.underlying31 rfl (hs2') ?_
   refine o_pv trivial rfl rfl ?_
   refine o_nil (then_c ?_)
   refine c_cond rfl (fun h2 => ?_) (fun h2 => ?_)
   ·
    have f2 := h2
    try simp only [bl] at f2
    refine c_seq (c_region ?_)
    iterate 2 refine o_pv trivial rfl rfl ?_
    refine o_nil (then_c (c_ret (then_r ?_)))
    refine ret1 rfl rfl ?_
    have h0 : val B = 0 := natW_len_zero.1 (by omega)
    refine leaf (hx1.trans hx2 (Nat.le_refl _)) (List.nil_sublist _) ?_; rw [h0, Nat.gcd_zero_right]; exact hs1.le hx2.le
   ·
    have f2 := h2
    try simp only [bl] at f2
    have hA0 : 0 < val A := Nat.pos_of_ne_zero fun e => f1 (by rw [e, natW_zero]; rfl)
    have hB0 : 0 < val B := Nat.pos_of_ne_zero fun e => f2 (by rw [e, natW_zero]; rfl)
    refine c_skip (then_c (c_seq (c_region ?_)))
    refine o_pv trivial rfl rfl ?_
    refine o_callI trivial rfl Tryz.call123 rfl (rOdd_any _ _ (hs1.le hx2.le) (by omega) hA0) ?_
    rintro _ I3 hx3 ⟨u3, x, n, rfl, hs3, ho3⟩
    iterate 5 refine o_pv trivial rfl rfl ?_
    refine o_nil (then_c (c_seq ?_))
    have hn := ho3.pow_lt hal
    refine c_region ?_
    refine o_pv trivial rfl rfl ?_
    refine o_callI trivial rfl Tryz.call123 rfl (rOdd_any _ _ (hs2'.le hx3.le) (by omega) hB0) ?_
    rintro _ I4 hx4 ⟨u4, y, k, rfl, hs4, ho4⟩
    iterate 5 refine o_pv trivial rfl rfl ?_
    refine o_nil (then_c (c_seq (c_block ?_)))
    refine c_loop (ι := Nat × Nat × Value × Value × Hp) [7, 8] (.cons rfl (.cons rfl .nil)) (fun t => t.1 + t.2.1) (fun t E0 => (5, t.2.2.1) :: (6, t.2.2.2.1) :: E0) (fun t => St w [] t.2.2.2.2 []) (fun t => t.1 % 2 = 1 ∧ t.2.1 % 2 = 1 ∧ Nat.gcd t.1 t.2.1 = Nat.gcd x y ∧ Ws t.2.2.2.2 t.2.2.1 (natW t.1) ∧ Ws t.2.2.2.2 t.2.2.2.1 (natW t.2.1) ∧ (natW t.1).length ≤ 3000 ∧ (natW t.2.1).length ≤ 3000 ∧ Ext w.heap.size I t.2.2.2.2) ((x, y, u3, u4, I4)) (sub_cons rfl (sub_cons rfl (sub_cons rfl (sub_cons rfl sub_nil)))) (fun _ h => h) (⟨ho3.odd, ho4.odd, rfl, hs3.le hx4.le, hs4, Nat.le_trans (natW_le_len ho3.le) hal, Nat.le_trans (natW_le_len ho4.le) hbl, hx1.trans (hx2.trans (hx3.trans hx4 (Nat.le_refl _)) (Nat.le_refl _)) (Nat.le_refl _)⟩) ?_
    rintro ⟨a, b, ua, ub, I5⟩ ⟨hao, hbo, hg, hua, hub, hla, hlb, hx5⟩
    try dsimp only
    simp only at hao hbo hg hua hub hla hlb hx5
    refine c_seq (c_seq (c_region ?_))
    iterate 2 refine o_pv trivial rfl rfl ?_
    refine o_callQ trivial rfl Tryz.call113 rfl (rCmp_any _ _ _ _ hua hub (by omega) (by omega)) ?_
    refine o_pv trivial rfl rfl ?_
    refine o_nil (then_c ?_)
    refine c_cond rfl (fun h3 => ?_) (fun h3 => ?_)
    ·
     have f3 := h3
     try simp only [bl] at f3
     rw [val_natW, val_natW] at f3
     have hab : a ≠ b := fun e => f3 (by rw [e]; exact cmpZ_self _)
     refine c_skip (then_c (c_block ?_))
     refine c_cut (ι := Nat × Nat × Value × Value) [7, 8] (.cons rfl (.cons rfl .nil)) (fun t E0 => (5, t.2.2.1) :: (6, t.2.2.2) :: E0) (fun t => St w [] I5 []) (fun t => t.1 % 2 = 1 ∧ t.2.1 % 2 = 1 ∧ Nat.gcd t.1 t.2.1 = Nat.gcd x y ∧ Ws I5 t.2.2.1 (natW t.1) ∧ Ws I5 t.2.2.2 (natW t.2.1) ∧ (natW t.1).length ≤ 3000 ∧ (natW t.2.1).length ≤ 3000 ∧ t.2.1 < t.1 ∧ t.1 + t.2.1 = a + b) ?_ ?_
     ·
      refine c_seq (c_region ?_)
      iterate 2 refine o_pv trivial rfl rfl ?_
      refine o_callQ trivial rfl Tryz.call113 rfl (rCmp_any _ _ _ _ hua hub (by omega) (by omega)) ?_
      refine o_pv trivial rfl rfl ?_
      refine o_nil (then_c ?_)
      refine c_cond rfl (fun h4 => ?_) (fun h4 => ?_)
      ·
       have f4 := h4
       try simp only [bl] at f4
       rw [val_natW, val_natW] at f4
       have hlt : a < b := by unfold cmpZ at f4; split at f4 <;> (try split at f4) <;> omega
       refine c_seq (c_region ?_)
       iterate 2 refine o_pv trivial rfl rfl ?_
       refine o_nil (then_c (c_seq (c_region ?_)))
       iterate 2 refine o_pv trivial rfl rfl ?_
       refine o_nil (then_c (c_region ?_))
       iterate 2 refine o_pv trivial rfl rfl ?_
       refine o_nil ?_
       first | exact meet (b, a, ub, ua) (sub_cons rfl (sub_cons rfl (sub_cons rfl (sub_cons rfl sub_nil)))) (fun _ h => h) ⟨hbo, hao, by rw [Nat.gcd_comm]; exact hg, hub, hua, hlb, hla, hlt, by show b + a = a + b; omega⟩ | exact meet (a, b, ua, ub) (sub_cons rfl (sub_cons rfl (sub_cons rfl (sub_cons rfl sub_nil)))) (fun _ h => h) ⟨hao, hbo, hg, hua, hub, hla, hlb, by show b < a; omega, rfl⟩
      ·
       have f4 := h4
       try simp only [bl] at f4
       rw [val_natW, val_natW] at f4
       have hlt : ¬ a < b := fun h => by rw [cmpZ_lt (by omega)] at f4; omega
       refine c_skip ?_
       first | exact meet (b, a, ub, ua) (sub_cons rfl (sub_cons rfl (sub_cons rfl (sub_cons rfl sub_nil)))) (fun _ h => h) ⟨hbo, hao, by rw [Nat.gcd_comm]; exact hg, hub, hua, hlb, hla, hlt, by show b + a = a + b; omega⟩ | exact meet (a, b, ua, ub) (sub_cons rfl (sub_cons rfl (sub_cons rfl (sub_cons rfl sub_nil)))) (fun _ h => h) ⟨hao, hbo, hg, hua, hub, hla, hlb, by show b < a; omega, rfl⟩
     ·
      rintro ⟨c, d, uc, ud⟩ ⟨hco, hdo, hg2, huc, hud, hlc, hld, hdc, hsum⟩
      try dsimp only
      refine c_seq ?_
      simp only at hco hdo hg2 huc hud hlc hld hdc hsum
      refine c_region ?_
      iterate 2 refine o_pv trivial rfl rfl ?_
      refine o_callI trivial rfl Tryz.call114 rfl (rSub_any _ _ _ _ huc hud (by omega) (by omega) (by rw [val_natW, val_natW]; omega)) ?_
      rintro _ I6 hx6 ⟨u6, rfl, hs6⟩
      iterate 4 refine o_pv trivial rfl rfl ?_
      refine o_nil (then_c ?_)
      rw [val_natW, val_natW] at hs6
      have hl6 : (natW (c - d)).length ≤ 3000 := Nat.le_trans (natW_le_len (Nat.sub_le _ _)) hlc
      refine c_region ?_
      refine o_pv trivial rfl rfl ?_
      refine o_callI trivial rfl Tryz.call123 rfl (rOdd_any _ _ hs6 (by omega) (by omega)) ?_
      rintro _ I7 hx7 ⟨u7, z, p, rfl, hs7, ho7⟩
      iterate 4 refine o_pv trivial rfl rfl ?_
      refine o_nil (blk_n ?_)
      exact again (z, d, u7, ud, I7) (sub_cons rfl (sub_cons rfl (sub_cons rfl (sub_cons rfl sub_nil)))) (fun _ h => h) (by show z + d < a + b; have := ho7.le; omega) ⟨ho7.odd, hdo, by show Nat.gcd z d = _; rw [gcd_less hdo (by omega) ho7.eq]; exact hg2, hs7, hud.le (hx6.le.trans hx7.le), Nat.le_trans (natW_le_len ho7.le) hl6, hld, hx5.trans (hx6.trans hx7 (Nat.le_refl _)) (Nat.le_refl _)⟩
    ·
     have f3 := h3
     try simp only [bl] at f3
     rw [val_natW, val_natW] at f3
     have hab : a = b := by have := cmpZ_zero f3; omega
     refine c_exit (then_x (then_x (blk_eq rfl (then_c (c_seq (c_region ?_))))))
     iterate 3 refine o_pv trivial rfl rfl ?_
     refine o_min2 trivial rfl rfl rfl ?_
     rw [show min (n : Int) (k : Int) = ((min n k : Nat) : Int) by omega]
     refine o_callI trivial rfl Tryz.call124 rfl (rShift_any _ _ (min n k) hua (by omega) (by omega)) ?_
     rintro u8 I8 hx8 hs8
     refine o_pv trivial rfl rfl ?_
     refine o_nil (then_c (c_ret ?_))
     refine ret1 rfl rfl ?_
     refine leaf (hx5.trans hx8 (Nat.le_refl _)) (List.nil_sublist _) ?_
     rw [val_natW] at hs8
     rw [ho3.eq, ho4.eq, gcd_twos ho3.odd ho4.odd, ← hg, ← hab, Nat.gcd_self]
     exact hs8
theorem rLowest_any (va vb : Value) (A B : List Nat) {I : Hp} (ha : Ws I va A) (hb : Ws I vb B) (hs : A.length ≤ 3000) (hs2 : B.length ≤ 3000) : Fun Tryz.prog 64 [va, vb] I [] (fun v I' _ => ∃ u1 u2, v = .tuple #[u1, u2, .bool (decide (val B ≠ 0))] ∧ (val B ≠ 0 → Ws I' u1 (natW (val A / Nat.gcd (val A) (val B))) ∧ Ws I' u2 (natW (val B / Nat.gcd (val A) (val B))))) := by
  have hbl : (natW (val B)).length ≤ 3000 := Nat.le_trans (natW_len_list hb.wds) hs2
  intro w hw
  refine enter2 _ Tryz.func64 rfl Tryz.ntmps64 rfl ?_ hw
  refine c_seq (c_region ?_)
  iterate 3 refine o_pv trivial rfl rfl ?_
  refine o_nil (then_c (c_seq (c_region ?_)))
  refine o_pv trivial rfl rfl ?_
  refine o_callI trivial rfl Tryz.call66 rfl (rTrim_any _ _ hb (by omega)) ?_
  rintro u1 I1 hx1 hs1
  refine o_pv trivial rfl rfl ?_
  refine o_nil (then_c (c_seq (c_seq (c_region ?_))))
  refine o_pv trivial rfl rfl ?_
  refine o_lenW trivial rfl Tryz.underlying31 rfl (hs1) ?_
  refine o_pv trivial rfl rfl ?_
  refine o_nil (then_c ?_)
  refine c_cond rfl (fun h1 => ?_) (fun h1 => ?_)
  ·
   have f1 := h1
   try simp only [bl] at f1
   refine c_seq (c_region ?_)
   iterate 3 refine o_pv trivial rfl rfl ?_
   refine o_nil (then_c (c_ret (then_r ?_)))
   refine ret3 rfl rfl rfl rfl ?_
   have h0 : val B = 0 := natW_len_zero.1 (by omega)
   refine leaf hx1 (List.nil_sublist _) ⟨.slice none 0 0, .slice none 0 0, ?_, fun h => absurd h0 h⟩; rw [decide_eq_false (not_not_intro h0)]
  ·
   have f1 := h1
   try simp only [bl] at f1
   have h0 : 0 < val B := Nat.pos_of_ne_zero fun e => f1 (by rw [e, natW_zero]; rfl)
   have hg : 0 < Nat.gcd (val A) (val B) := Nat.gcd_pos_of_pos_right _ h0
   have hgl : (natW (Nat.gcd (val A) (val B))).length ≤ 3000 := Nat.le_trans (natW_le_len (Nat.gcd_le_right _ h0)) hbl
   refine c_skip (then_c (c_seq (c_region ?_)))
   iterate 2 refine o_pv trivial rfl rfl ?_
   refine o_callI trivial rfl Tryz.call93 rfl (rGcd_any _ _ _ _ (ha.le hx1.le) hs1 hs (by omega)) ?_
   rintro u2 I2 hx2 hs2'
   refine o_pv trivial rfl rfl ?_
   refine o_nil (then_c (c_seq ?_))
   rw [val_natW] at hs2'
   refine c_region ?_
   iterate 2 refine o_pv trivial rfl rfl ?_
   refine o_callI trivial rfl Tryz.call94 rfl (rDiv_any _ _ _ _ (ha.le (hx1.le.trans hx2.le)) hs2' (by omega) (by omega) (by rw [val_natW]; exact hg)) ?_
   rintro _ I3 hx3 ⟨u3, u4, rfl, hq3, hr3⟩
   iterate 7 refine o_pv trivial rfl rfl ?_
   refine o_nil (then_c (c_seq (c_region ?_)))
   iterate 2 refine o_pv trivial rfl rfl ?_
   refine o_callI trivial rfl Tryz.call94 rfl (rDiv_any _ _ _ _ (hs1.le (hx2.le.trans hx3.le)) (hs2'.le hx3.le) (by omega) (by omega) (by rw [val_natW]; exact hg)) ?_
   rintro _ I4 hx4 ⟨u5, u6, rfl, hq5, hr5⟩
   iterate 5 refine o_pv trivial rfl rfl ?_
   refine o_nil (then_c (c_seq (c_region ?_)))
   iterate 5 refine o_pv trivial rfl rfl ?_
   refine o_nil (then_c (c_ret ?_))
   refine ret3 rfl rfl rfl rfl ?_
   rw [val_natW] at hq3
   rw [val_natW, val_natW] at hq5
   refine leaf (hx1.trans (hx2.trans (hx3.trans hx4 (Nat.le_refl _)) (Nat.le_refl _)) (Nat.le_refl _)) (List.nil_sublist _) ⟨u3, u5, ?_, fun _ => ⟨hq3.le hx4.le, hq5⟩⟩; rw [decide_eq_true (by omega)]; rfl
theorem strOf_app (a b : List Int) : strOf a ++ strOf b = strOf (a ++ b) := by
  unfold strOf; rw [List.map_append]; apply ByteArray.ext; simp
theorem decS_nil : decS 0 = ⟨#[48]⟩ := by
  unfold decS decL; rw [digs]; rfl
theorem rPrint_any (va : Value) (A : List Nat) {I : Hp} (ha : Ws I va A) (hs : A.length ≤ 100000) : Fun Tryz.prog 49 [va] I [] (fun v _ _ => v = .string (decS (val A))) := by
  have hdl := digs_words ha.wds hs
  have hal : (natW (val A)).length ≤ 100000 := Nat.le_trans (natW_len_list ha.wds) hs
  intro w hw
  refine enter1 _ Tryz.func49 rfl Tryz.ntmps49 rfl ?_ hw
  refine c_seq (c_region ?_)
  refine o_pv trivial rfl rfl ?_
  refine o_nil (then_c (c_seq (c_region ?_)))
  refine o_pv trivial rfl rfl ?_
  refine o_callI trivial rfl Tryz.call66 rfl (rTrim_any _ _ ha (by omega)) ?_
  rintro u1 I1 hx1 hs1
  refine o_pv trivial rfl rfl ?_
  refine o_nil (then_c (c_seq (c_seq (c_region ?_))))
  refine o_pv trivial rfl rfl ?_
  refine o_lenW trivial rfl Tryz.underlying31 rfl (hs1) ?_
  refine o_pv trivial rfl rfl ?_
  refine o_nil (then_c ?_)
  refine c_cond rfl (fun h1 => ?_) (fun h1 => ?_)
  ·
   have f1 := h1
   try simp only [bl] at f1
   refine c_seq (c_region ?_)
   refine o_pv trivial rfl rfl ?_
   refine o_nil (then_c (c_ret (then_r ?_)))
   refine ret1 rfl rfl ?_
   have h0 : val A = 0 := natW_len_zero.1 (by omega)
   refine leaf hx1 (List.nil_sublist _) (congrArg Value.string ?_); rw [h0, decS_nil]
  ·
   have f1 := h1
   try simp only [bl] at f1
   have h0 : 0 < val A := Nat.pos_of_ne_zero fun e => f1 (by rw [e, natW_zero]; rfl)
   refine c_skip (then_c (c_seq (c_region ?_)))
   refine o_pv trivial rfl rfl ?_
   refine o_nil (then_c (c_seq (c_block ?_)))
   refine c_loop (ι := Nat × List Nat × Value × Hp) [] .nil (fun x => x.1) (fun x E0 => (3, x.2.2.1) :: (4, .string (strOf (x.2.1.reverse.map Int.ofNat))) :: E0) (fun x => St w [] x.2.2.2 []) (fun x => Ws x.2.2.2 x.2.2.1 (natW x.1) ∧ (natW x.1).length ≤ 100000 ∧ x.2.1 ++ digRest x.1 x.2.1 = digs (val A) ∧ (x.1 = 0 → x.2.1 ≠ []) ∧ Ext w.heap.size I x.2.2.2) ((val A, [], u1, I1)) (sub_cons rfl (sub_cons rfl sub_nil)) (fun _ h => h) (⟨hs1, hal, by simp [digRest], fun h => absurd h (by show val A ≠ 0; omega), hx1⟩) ?_
   rintro ⟨m, L, u, I2⟩ ⟨hu, hl, hd, hne, hx2⟩
   try dsimp only
   simp only at hu hl hd hne hx2; have hol : L.length ≤ (digs (val A)).length := by rw [← hd, List.length_append]; omega
   refine c_seq (c_seq (c_region ?_))
   refine o_pv trivial rfl rfl ?_
   refine o_lenW trivial rfl Tryz.underlying31 rfl (hu) ?_
   refine o_pv trivial rfl rfl ?_
   refine o_nil (then_c ?_)
   refine c_cond rfl (fun h2 => ?_) (fun h2 => ?_)
   ·
    have f2 := h2
    try simp only [bl] at f2
    have hm0 : 0 < m := Nat.pos_of_ne_zero fun e => by rw [e, natW_zero] at f2; simp at f2
    rw [digs_step L (.inl hm0)] at hd
    have hsz : (strOf (L.reverse.map Int.ofNat)).size = L.length := by rw [strOf_size]; simp
    refine c_skip (then_c (c_block (c_seq (c_region ?_))))
    refine o_pv trivial rfl rfl ?_
    refine o_callI trivial rfl Tryz.call67 rfl (rSmall_any _ _ 10 hu hl (by decide) (by decide)) ?_
    rintro _ I3 hx3 ⟨u3, rfl, hs3⟩
    iterate 7 refine o_pv trivial rfl rfl ?_
    refine o_nil (then_c (c_seq (c_region ?_)))
    refine o_pv trivial rfl rfl ?_
    first | refine o_arA trivial rfl rfl rfl (by rw [IntWalk.u32_in _ (by omega)]) ?_ | refine o_pv trivial rfl rfl ?_
    refine o_convIn trivial rfl Tryz.underlying95 Tryz.underlying5 rfl (by rw [IntWalk.u8_in _ (by omega)]) ?_
    refine o_buildSl trivial rfl Tryz.underlying22 Tryz.sizeOf5 Tryz.zeroValue5 (by decide) (by decide) rfl (by repeat first | exact rfl | constructor) rfl (fun b25 => ?_)
    refine o_bytesStr (ns := [(48 : Int) + ((val (natW m) % 10 : Nat) : Int)]) trivial rfl Tryz.underlying22 Tryz.underlying5 Tryz.underlying9 rfl (by repeat constructor) rfl ?_
    refine o_pv trivial rfl rfl ?_
    refine o_cat trivial rfl rfl rfl (by rw [strOf_size, hsz]; simp only [List.length_cons, List.length_nil]; omega) ?_
    refine o_pv trivial rfl rfl ?_
    refine o_nil (then_c (c_region ?_))
    iterate 2 refine o_pv trivial rfl rfl ?_
    refine o_nil (blk_n ?_)
    rw [val_natW] at hs3
    have e1 : strOf [(48 : Int) + ((val (natW m) % 10 : Nat) : Int)] ++ strOf (L.reverse.map Int.ofNat) = strOf ((L ++ [48 + m % 10]).reverse.map Int.ofNat) := by
      rw [strOf_app, val_natW, List.reverse_append]; rfl
    rw [e1]
    exact again (m / 10, L ++ [48 + m % 10], u3, I3) (sub_cons rfl (sub_cons rfl sub_nil)) (fun _ h => h.drop (List.nil_sublist _)) (by show m / 10 < m; omega) ⟨hs3, Nat.le_trans (natW_le_len (Nat.div_le_self _ _)) hl, by show (L ++ [48 + m % 10]) ++ digRest (m / 10) (L ++ [48 + m % 10]) = _; rw [← hd]; simp, fun _ => by simp, hx2.trans hx3 (Nat.le_refl _)⟩
   ·
    have f2 := h2
    try simp only [bl] at f2
    have hm0 : m = 0 := natW_len_zero.1 (by omega)
    refine c_exit (then_x (then_x (blk_eq rfl (then_c (c_seq (c_region ?_))))))
    iterate 2 refine o_pv trivial rfl rfl ?_
    refine o_nil (then_c (c_ret ?_))
    refine ret1 rfl rfl ?_
    refine leaf hx2 (List.nil_sublist _) (congrArg Value.string ?_)
    unfold digRest at hd
    rw [if_pos ⟨hm0, hne hm0⟩, List.append_nil] at hd
    unfold decS decL
    rw [← hd]
end Go.Proofs.YtjgbjaaekknenaaGreat
/-
  The document's answers for layer 7.
-/
namespace Go.Proofs.YtjgbjaaekknenaaGreat
open Go Go.Tw
set_option linter.unusedVariables false
set_option linter.unusedSimpArgs false
set_option linter.unnecessarySimpa false
set_option maxHeartbeats 1000000
theorem rFix7_any (neg : Bool) (va : Value) (A : List Nat) {I : Hp} (ha : Ws I va A) (hs : A.length ≤ 100000) : Fun Tryz.prog 111 [.agg #[.bool neg, va]] I [] (fun v I' _ => IntV I' v (if neg then -(val A : Int) else val A)) := by
  intro w hw
  refine enter1 _ Tryz.func111 rfl Tryz.ntmps111 rfl ?_ hw
  refine c_seq (c_region ?_)
  refine o_box trivial rfl rfl rfl (fun b1 => ?_)
  refine o_alloc trivial rfl Tryz.zeroValue93 rfl (fun b2 => ?_)
  refine o_nil (then_c (c_seq (c_region ?_)))
  refine o_fieldAddr (T := 31) (off := 1) trivial rfl Tryz.underlying93 rfl rfl rfl Tryz.sizeOf31 rfl rfl ?_
  refine o_load1 trivial rfl Tryz.isAgg31 rfl (by repeat constructor) (by repeat constructor) ?_
  refine o_callI trivial rfl Tryz.call66 rfl (rTrim_any _ _ ha (by omega)) ?_
  rintro u1 I1 hx1 hs1
  refine o_pv trivial rfl rfl ?_
  refine o_nil (then_c (c_seq (c_region ?_)))
  refine o_fieldAddr (T := 4) (off := 0) trivial rfl Tryz.underlying93 rfl rfl rfl Tryz.sizeOf4 rfl rfl ?_
  refine o_load1 trivial rfl Tryz.isAgg4 rfl (by repeat constructor) (by repeat constructor) ?_
  refine' o_and trivial trivial rfl rfl rfl rfl rfl rfl rfl rfl (fun hb9 => ?_) ?_
  rotate_left
  ·
   have fb9 := hb9
   try simp only [bl] at fb9
   refine o_pv (wants_some rfl rfl hb9) rfl rfl ?_
   refine o_lenW (wants_some rfl rfl hb9) rfl Tryz.underlying31 rfl (hs1) ?_
   refine o_pv (wants_some rfl rfl hb9) rfl rfl ?_
   refine o_nil ?_
   exact joins rfl
  refine o_pv trivial rfl rfl ?_
  refine o_buildS trivial rfl (bld93) rfl (.cons rfl rfl rfl (by repeat constructor) (.cons rfl (by first | exact (Ws.cells1 (by assumption)).1 | exact (Slc.cells1 (by assumption)).1 | rfl) (by rfl) (by repeat constructor) .nil)) ?_
  refine o_store trivial rfl rfl rfl Tryz.sizeOf93 rfl (by first | rfl | (repeat' (first | exact rfl | exact one_nil | refine one_cons ?_ ?_ | exact (Ws.cells1 (by assumption)).2 | exact (Slc.cells1 (by assumption)).2))) (by repeat constructor) (by repeat constructor) ?_
  refine o_nil (then_c (c_ret ?_))
  refine retR rfl (.agg Tryz.isAgg93 Tryz.sizeOf93 rfl (by repeat constructor) rfl .nil) ?_
  refine leaf hx1 (List.nil_sublist _) ⟨u1, ?_, by rw [abs_of]; exact hs1⟩
  rw [← sign_of]
  have e : decide (((natW (val A)).length : Int) > 0) = decide (0 < val A) := by
    rw [decide_eq_decide]
    constructor
    · intro h; exact Nat.pos_of_ne_zero fun e => by rw [e, natW_zero] at h; simp at h
    · intro h; have := (natW_topB (n := val A) (by omega)).1; omega
  rw [e]; rfl
theorem rOf7_any (n : Int) {I : Hp} (hn : -1000000 ≤ n ∧ n ≤ 1000000) : Fun Tryz.prog 45 [.int .i64 n] I [] (fun v I' _ => IntV I' v n) := by
  intro w hw
  refine enter1 _ Tryz.func45 rfl Tryz.ntmps45 rfl ?_ hw
  refine c_seq (c_region ?_)
  refine o_alloc trivial rfl Tryz.zeroValue93 rfl (fun b2 => ?_)
  refine o_nil (then_c (c_seq (c_seq (c_region ?_))))
  iterate 2 refine o_pv trivial rfl rfl ?_
  refine o_nil (then_c ?_)
  refine c_cond rfl (fun h1 => ?_) (fun h1 => ?_)
  ·
   have f1 := h1
   try simp only [bl] at f1
   refine c_seq (c_region ?_)
   refine o_pv trivial rfl rfl ?_
   first | refine o_convIn trivial rfl Tryz.underlying3 Tryz.underlying123 rfl (by rw [IntWalk.u64_in _ (by omega)]) ?_ | refine o_conv trivial rfl Tryz.underlying3 Tryz.underlying123 rfl ?_
   rw [show n = ((n.natAbs : Nat) : Int) by omega]
   refine o_callI trivial rfl Tryz.call65 rfl (rOf_any n.natAbs (by omega)) ?_
   rintro u1 I1 hx1 hs1
   refine o_buildS trivial rfl (bld93) rfl (.cons rfl (by first | exact (Ws.cells1 (by assumption)).1 | exact (Slc.cells1 (by assumption)).1 | rfl) (by rfl) (by repeat constructor) .nil) ?_
   refine o_store trivial rfl rfl rfl Tryz.sizeOf93 rfl (by first | rfl | (repeat' (first | exact rfl | exact one_nil | refine one_cons ?_ ?_ | exact (Ws.cells1 (by assumption)).2 | exact (Slc.cells1 (by assumption)).2))) (by repeat constructor) (by repeat constructor) ?_
   refine o_nil (then_c (c_ret (then_r ?_)))
   refine retR rfl (.agg Tryz.isAgg93 Tryz.sizeOf93 rfl (by repeat constructor) rfl .nil) ?_
   refine leaf hx1 (List.nil_sublist _) ⟨u1, ?_, hs1⟩; rw [decide_eq_false (by omega)]; rfl
  ·
   have f1 := h1
   try simp only [bl] at f1
   refine c_skip (then_c (c_seq (c_region ?_)))
   refine o_pv trivial rfl rfl ?_
   first | refine o_convIn trivial rfl Tryz.underlying3 Tryz.underlying123 rfl (by rw [IntWalk.u64_in _ (by omega)]) ?_ | refine o_conv trivial rfl Tryz.underlying3 Tryz.underlying123 rfl ?_
   first | refine o_arS trivial rfl rfl rfl (by rw [IntWalk.u64_in _ (by omega)]) ?_ | refine o_pv trivial rfl rfl ?_
   refine o_pv trivial rfl rfl ?_
   refine o_nil (then_c (c_seq ?_))
   rw [show IntKind.u64.wrap (0 - IntKind.u64.wrap n) = ((n.natAbs : Nat) : Int) by simp only [IntKind.wrap_u64]; omega]
   refine c_region ?_
   refine o_pv trivial rfl rfl ?_
   refine o_callI trivial rfl Tryz.call65 rfl (rOf_any n.natAbs (by omega)) ?_
   rintro u2 I2 hx2 hs2
   refine o_buildS trivial rfl (bld93) rfl (.cons rfl rfl rfl (by repeat constructor) (.cons rfl (by first | exact (Ws.cells1 (by assumption)).1 | exact (Slc.cells1 (by assumption)).1 | rfl) (by rfl) (by repeat constructor) .nil)) ?_
   refine o_store trivial rfl rfl rfl Tryz.sizeOf93 rfl (by first | rfl | (repeat' (first | exact rfl | exact one_nil | refine one_cons ?_ ?_ | exact (Ws.cells1 (by assumption)).2 | exact (Slc.cells1 (by assumption)).2))) (by repeat constructor) (by repeat constructor) ?_
   refine o_nil (then_c (c_ret ?_))
   refine retR rfl (.agg Tryz.isAgg93 Tryz.sizeOf93 rfl (by repeat constructor) rfl .nil) ?_
   refine leaf hx2 (List.nil_sublist _) ⟨u2, ?_, hs2⟩; rw [decide_eq_true (by omega)]; rfl
theorem rMul7_any (va vb : Value) (x y : Int) {I : Hp} (ha : Ws I va (natW x.natAbs)) (hb : Ws I vb (natW y.natAbs)) (hs : (natW x.natAbs).length ≤ 20000) (hs2 : (natW y.natAbs).length ≤ 20000) : Fun Tryz.prog 115 [.agg #[.bool (decide (x < 0)), va], .agg #[.bool (decide (y < 0)), vb]] I [] (fun v I' _ => IntV I' v (x * y)) := by
  intro w hw
  refine enter2 _ Tryz.func115 rfl Tryz.ntmps115 rfl ?_ hw
  refine c_seq (c_region ?_)
  refine o_box trivial rfl rfl rfl (fun b2 => ?_)
  refine o_box trivial rfl rfl rfl (fun b3 => ?_)
  refine o_alloc trivial rfl Tryz.zeroValue93 rfl (fun b4 => ?_)
  refine o_nil (then_c (c_seq ?_))
  refine h_beginB (m := 13) [.box b2 _, .box b3 _] (by repeat constructor) (by kernel_rfl) rfl ?_
  refine' h_take (i := 0) #[true, false, false, false, false, false, false, false, false, false, false, false, false] rfl rfl rfl (by kernel_rfl) (by kernel_rfl) (by kernel_rfl) rfl (qp_then qp_bp) (fun _ h => (h.sort (by repeat constructor)).fewer (Hp.Le.refl _)) ?hh0 ?kk0
  case hh0 =>
   refine o_fieldAddr (T := 4) (off := 0) trivial rfl Tryz.underlying93 rfl rfl rfl Tryz.sizeOf4 rfl rfl ?_
   refine o_nil ?_
   exact ⟨fun _ _ ha _ => ha⟩
  refine' h_take (i := 1) #[true, true, false, false, false, false, false, false, false, false, false, false, false] rfl rfl rfl (by kernel_rfl) (by kernel_rfl) (by kernel_rfl) rfl (qp_then qp_bp) (fun _ h => (h.sort (by repeat constructor)).fewer (Hp.Le.refl _)) ?hh1 ?kk1
  case hh1 =>
   refine o_load1 trivial rfl Tryz.isAgg4 rfl (by repeat constructor) (by repeat constructor) ?_
   refine o_nil ?_
   exact ⟨fun _ _ ha _ => ha⟩
  refine' h_take (i := 2) #[true, true, true, false, false, false, false, false, false, false, false, false, false] rfl rfl rfl (by kernel_rfl) (by kernel_rfl) (by kernel_rfl) rfl (qp_then qp_bp) (fun _ h => (h.sort (by repeat constructor)).fewer (Hp.Le.refl _)) ?hh2 ?kk2
  case hh2 =>
   refine o_fieldAddr (T := 4) (off := 0) trivial rfl Tryz.underlying93 rfl rfl rfl Tryz.sizeOf4 rfl rfl ?_
   refine o_nil ?_
   exact ⟨fun _ _ ha _ => ha⟩
  refine' h_take (i := 3) #[true, true, true, true, false, false, false, false, false, false, false, false, false] rfl rfl rfl (by kernel_rfl) (by kernel_rfl) (by kernel_rfl) rfl (qp_then qp_bp) (fun _ h => (h.sort (by repeat constructor)).fewer (Hp.Le.refl _)) ?hh3 ?kk3
  case hh3 =>
   refine o_load1 trivial rfl Tryz.isAgg4 rfl (by repeat constructor) (by repeat constructor) ?_
   refine o_nil ?_
   exact ⟨fun _ _ ha _ => ha⟩
  refine' h_take (i := 4) #[true, true, true, true, true, false, false, false, false, false, false, false, false] rfl rfl rfl (by kernel_rfl) (by kernel_rfl) (by kernel_rfl) rfl (qp_then qp_bp) (fun _ h => (h.sort (by repeat constructor)).fewer (Hp.Le.refl _)) ?hh4 ?kk4
  case hh4 =>
   refine o_neqB trivial rfl rfl rfl Tryz.underlying4 ?_
   refine o_nil ?_
   exact ⟨fun _ _ ha _ => ha⟩
  refine' h_take (i := 5) #[true, true, true, true, true, true, false, false, false, false, false, false, false] rfl rfl rfl (by kernel_rfl) (by kernel_rfl) (by kernel_rfl) rfl (qp_then qp_bp) (fun _ h => (h.sort (by repeat constructor)).fewer (Hp.Le.refl _)) ?hh5 ?kk5
  case hh5 =>
   refine o_fieldAddr (T := 31) (off := 1) trivial rfl Tryz.underlying93 rfl rfl rfl Tryz.sizeOf31 rfl rfl ?_
   refine o_nil ?_
   exact ⟨fun _ _ ha _ => ha⟩
  refine' h_take (i := 6) #[true, true, true, true, true, true, true, false, false, false, false, false, false] rfl rfl rfl (by kernel_rfl) (by kernel_rfl) (by kernel_rfl) rfl (qp_then qp_bp) (fun _ h => (h.sort (by repeat constructor)).fewer (Hp.Le.refl _)) ?hh6 ?kk6
  case hh6 =>
   refine o_load1 trivial rfl Tryz.isAgg31 rfl (by repeat constructor) (by repeat constructor) ?_
   refine o_nil ?_
   exact ⟨fun _ _ ha _ => ha⟩
  refine' h_take (i := 7) #[true, true, true, true, true, true, true, true, false, false, false, false, false] rfl rfl rfl (by kernel_rfl) (by kernel_rfl) (by kernel_rfl) rfl (qp_then qp_bp) (fun _ h => (h.sort (by repeat constructor)).fewer (Hp.Le.refl _)) ?hh7 ?kk7
  case hh7 =>
   refine o_fieldAddr (T := 31) (off := 1) trivial rfl Tryz.underlying93 rfl rfl rfl Tryz.sizeOf31 rfl rfl ?_
   refine o_nil ?_
   exact ⟨fun _ _ ha _ => ha⟩
  refine' h_take (i := 8) #[true, true, true, true, true, true, true, true, true, false, false, false, false] rfl rfl rfl (by kernel_rfl) (by kernel_rfl) (by kernel_rfl) rfl (qp_then qp_bp) (fun _ h => (h.sort (by repeat constructor)).fewer (Hp.Le.refl _)) ?hh8 ?kk8
  case hh8 =>
   refine o_load1 trivial rfl Tryz.isAgg31 rfl (by repeat constructor) (by repeat constructor) ?_
   refine o_nil ?_
   exact ⟨fun _ _ ha _ => ha⟩
  refine h_go [9] (by kernel_rfl) rfl (TWHs.cons ?_ TWHs.nil)
  refine h_op #[true, true, true, true, true, true, true, true, true, true, false, false, false] rfl rfl ?_
  refine o_callI trivial rfl Tryz.call81 rfl (rMul_any _ _ _ _ ha hb (by omega) (by omega)) ?_
  rintro u1 I1 hx1 hs1
  refine o_nil ?_
  refine h_next (fun _ h => (h.sort (by repeat constructor)).fewer (hx1.le)) ?_
  refine' h_take (i := 10) #[true, true, true, true, true, true, true, true, true, true, true, false, false] rfl rfl rfl (by kernel_rfl) (by kernel_rfl) (by kernel_rfl) rfl (qp_then qp_bp) (fun _ h => (h.sort (by repeat constructor)).fewer (hx1.le)) ?hh9 ?kk9
  case hh9 =>
   rw [val_natW, val_natW] at hs1
   have hl : (natW (x.natAbs * y.natAbs)).length ≤ 100000 := Nat.le_trans (natW_mul_len _ _) (by omega)
   refine o_buildS trivial rfl (bld93) rfl (.cons rfl rfl rfl (by repeat constructor) (.cons rfl (by first | exact (Ws.cells1 (by assumption)).1 | exact (Slc.cells1 (by assumption)).1 | rfl) (by rfl) (by repeat constructor) .nil)) ?_
   refine o_nil ?_
   exact ⟨fun _ _ ha _ => ha⟩
  refine h_go [11] (by kernel_rfl) rfl (TWHs.cons ?_ TWHs.nil)
  refine h_op #[true, true, true, true, true, true, true, true, true, true, true, true, false] rfl rfl ?_
  refine o_callI trivial rfl Tryz.call111 rfl (rFix7_any (decide (x < 0) != decide (y < 0)) _ (natW (x.natAbs * y.natAbs)) (by first | exact hs1 | (rw [val_natW, val_natW] at hs1; exact hs1)) (Nat.le_trans (natW_mul_len _ _) (by omega))) ?_
  rintro _ I2 hx2 ⟨u2, rfl, hs2'⟩
  refine o_nil ?_
  refine h_next (fun _ h => (h.sort (by repeat constructor)).fewer ((hx1.le).trans hx2.le)) ?_
  refine h_go [12] (by kernel_rfl) rfl (TWHs.cons ?_ TWHs.nil)
  refine h_op #[true, true, true, true, true, true, true, true, true, true, true, true, true] rfl rfl ?_
  refine o_store trivial rfl rfl rfl Tryz.sizeOf93 rfl (by first | rfl | (repeat' (first | exact rfl | exact one_nil | refine one_cons ?_ ?_ | exact (Ws.cells1 (by assumption)).2 | exact (Slc.cells1 (by assumption)).2))) (by repeat constructor) (by repeat constructor) ?_
  refine o_nil ?_
  refine h_next (fun _ h => (h.sort (by repeat constructor)).fewer ((hx1.le).trans hx2.le)) ?_
  refine h_end (by kernel_rfl) ?_
  refine then_c (c_ret ?_)
  refine retR rfl (.agg Tryz.isAgg93 Tryz.sizeOf93 rfl (by repeat constructor) rfl .nil) ?_
  refine leaf (hx1.trans hx2 (Nat.le_refl _)) (List.nil_sublist _) ⟨u2, ?_, ?_⟩
  · rw [val_natW, sign_mul]; rfl
  · rw [val_natW, sign_mul] at hs2'; exact hs2'
theorem signs_same {x y : Int} (h : decide (x < 0) = decide (y < 0)) : (if decide (x < 0) then -((x.natAbs + y.natAbs : Nat) : Int) else ((x.natAbs + y.natAbs : Nat) : Int)) = x + y := by
  by_cases h1 : x < 0 <;> by_cases h2 : y < 0 <;> simp [h1, h2] at h ⊢ <;> omega
theorem signs_left {x y : Int} (h : decide (x < 0) ≠ decide (y < 0)) (hle : y.natAbs ≤ x.natAbs) : (if decide (x < 0) then -((x.natAbs - y.natAbs : Nat) : Int) else ((x.natAbs - y.natAbs : Nat) : Int)) = x + y := by
  by_cases h1 : x < 0 <;> by_cases h2 : y < 0 <;> simp [h1, h2] at h ⊢ <;> omega
theorem rAdd7_any (va vb : Value) (x y : Int) {I : Hp} (ha : Ws I va (natW x.natAbs)) (hb : Ws I vb (natW y.natAbs)) (hs : (natW x.natAbs).length ≤ 20000) (hs2 : (natW y.natAbs).length ≤ 20000) : Fun Tryz.prog 79 [.agg #[.bool (decide (x < 0)), va], .agg #[.bool (decide (y < 0)), vb]] I [] (fun v I' _ => IntV I' v (x + y)) := by
  intro w hw
  refine enter2 _ Tryz.func79 rfl Tryz.ntmps79 rfl ?_ hw
  refine c_seq (c_region ?_)
  refine o_box trivial rfl rfl rfl (fun b2 => ?_)
  refine o_box trivial rfl rfl rfl (fun b3 => ?_)
  refine o_alloc trivial rfl Tryz.zeroValue93 rfl (fun b4 => ?_)
  refine o_nil (then_c (c_seq (c_seq (c_region ?_))))
  refine o_fieldAddr (T := 4) (off := 0) trivial rfl Tryz.underlying93 rfl rfl rfl Tryz.sizeOf4 rfl rfl ?_
  refine o_load1 trivial rfl Tryz.isAgg4 rfl (by repeat constructor) (by repeat constructor) ?_
  refine o_fieldAddr (T := 4) (off := 0) trivial rfl Tryz.underlying93 rfl rfl rfl Tryz.sizeOf4 rfl rfl ?_
  refine o_load1 trivial rfl Tryz.isAgg4 rfl (by repeat constructor) (by repeat constructor) ?_
  refine o_eqlB trivial rfl rfl rfl Tryz.underlying4 ?_
  refine o_nil (then_c ?_)
  refine c_cond rfl (fun h1 => ?_) (fun h1 => ?_)
  ·
   have f1 := h1
   try simp only [bl] at f1
   refine c_seq ?_
   refine h_beginB (m := 10) [.box b2 _, .box b3 _] (by repeat constructor) (by kernel_rfl) rfl ?_
   refine' h_take (i := 0) #[true, false, false, false, false, false, false, false, false, false] rfl rfl rfl (by kernel_rfl) (by kernel_rfl) (by kernel_rfl) rfl (qp_then (qp_then qp_bp)) (fun _ h => (h.sort (by repeat constructor)).fewer (Hp.Le.refl _)) ?hh0 ?kk0
   case hh0 =>
    refine o_fieldAddr (T := 4) (off := 0) trivial rfl Tryz.underlying93 rfl rfl rfl Tryz.sizeOf4 rfl rfl ?_
    refine o_nil ?_
    exact ⟨fun _ _ ha _ => ha⟩
   refine' h_take (i := 1) #[true, true, false, false, false, false, false, false, false, false] rfl rfl rfl (by kernel_rfl) (by kernel_rfl) (by kernel_rfl) rfl (qp_then (qp_then qp_bp)) (fun _ h => (h.sort (by repeat constructor)).fewer (Hp.Le.refl _)) ?hh1 ?kk1
   case hh1 =>
    refine o_load1 trivial rfl Tryz.isAgg4 rfl (by repeat constructor) (by repeat constructor) ?_
    refine o_nil ?_
    exact ⟨fun _ _ ha _ => ha⟩
   refine' h_take (i := 2) #[true, true, true, false, false, false, false, false, false, false] rfl rfl rfl (by kernel_rfl) (by kernel_rfl) (by kernel_rfl) rfl (qp_then (qp_then qp_bp)) (fun _ h => (h.sort (by repeat constructor)).fewer (Hp.Le.refl _)) ?hh2 ?kk2
   case hh2 =>
    refine o_fieldAddr (T := 31) (off := 1) trivial rfl Tryz.underlying93 rfl rfl rfl Tryz.sizeOf31 rfl rfl ?_
    refine o_nil ?_
    exact ⟨fun _ _ ha _ => ha⟩
   refine' h_take (i := 3) #[true, true, true, true, false, false, false, false, false, false] rfl rfl rfl (by kernel_rfl) (by kernel_rfl) (by kernel_rfl) rfl (qp_then (qp_then qp_bp)) (fun _ h => (h.sort (by repeat constructor)).fewer (Hp.Le.refl _)) ?hh3 ?kk3
   case hh3 =>
    refine o_load1 trivial rfl Tryz.isAgg31 rfl (by repeat constructor) (by repeat constructor) ?_
    refine o_nil ?_
    exact ⟨fun _ _ ha _ => ha⟩
   refine' h_take (i := 4) #[true, true, true, true, true, false, false, false, false, false] rfl rfl rfl (by kernel_rfl) (by kernel_rfl) (by kernel_rfl) rfl (qp_then (qp_then qp_bp)) (fun _ h => (h.sort (by repeat constructor)).fewer (Hp.Le.refl _)) ?hh4 ?kk4
   case hh4 =>
    refine o_fieldAddr (T := 31) (off := 1) trivial rfl Tryz.underlying93 rfl rfl rfl Tryz.sizeOf31 rfl rfl ?_
    refine o_nil ?_
    exact ⟨fun _ _ ha _ => ha⟩
   refine' h_take (i := 5) #[true, true, true, true, true, true, false, false, false, false] rfl rfl rfl (by kernel_rfl) (by kernel_rfl) (by kernel_rfl) rfl (qp_then (qp_then qp_bp)) (fun _ h => (h.sort (by repeat constructor)).fewer (Hp.Le.refl _)) ?hh5 ?kk5
   case hh5 =>
    refine o_load1 trivial rfl Tryz.isAgg31 rfl (by repeat constructor) (by repeat constructor) ?_
    refine o_nil ?_
    exact ⟨fun _ _ ha _ => ha⟩
   refine h_go [6] (by kernel_rfl) rfl (TWHs.cons ?_ TWHs.nil)
   refine h_op #[true, true, true, true, true, true, true, false, false, false] rfl rfl ?_
   refine o_callI trivial rfl Tryz.call112 rfl (rAdd_any _ _ _ _ ha hb (by omega) (by omega)) ?_
   rintro u1 I1 hx1 hs1
   refine o_nil ?_
   refine h_next (fun _ h => (h.sort (by repeat constructor)).fewer (hx1.le)) ?_
   refine' h_take (i := 7) #[true, true, true, true, true, true, true, true, false, false] rfl rfl rfl (by kernel_rfl) (by kernel_rfl) (by kernel_rfl) rfl (qp_then (qp_then qp_bp)) (fun _ h => (h.sort (by repeat constructor)).fewer (hx1.le)) ?hh6 ?kk6
   case hh6 =>
    refine o_buildS trivial rfl (bld93) rfl (.cons rfl rfl rfl (by repeat constructor) (.cons rfl (by first | exact (Ws.cells1 (by assumption)).1 | exact (Slc.cells1 (by assumption)).1 | rfl) (by rfl) (by repeat constructor) .nil)) ?_
    refine o_nil ?_
    exact ⟨fun _ _ ha _ => ha⟩
   refine h_go [8] (by kernel_rfl) rfl (TWHs.cons ?_ TWHs.nil)
   refine h_op #[true, true, true, true, true, true, true, true, true, false] rfl rfl ?_
   refine o_callI trivial rfl Tryz.call111 rfl (rFix7_any (decide (x < 0)) _ (natW (x.natAbs + y.natAbs)) (by rw [val_natW, val_natW] at hs1; exact hs1) (Nat.le_trans (natW_add_len _ _ 20000 hs hs2) (by decide))) ?_
   rintro _ I2 hx2 ⟨u2, rfl, hs2'⟩
   refine o_nil ?_
   refine h_next (fun _ h => (h.sort (by repeat constructor)).fewer ((hx1.le).trans hx2.le)) ?_
   refine h_go [9] (by kernel_rfl) rfl (TWHs.cons ?_ TWHs.nil)
   refine h_op #[true, true, true, true, true, true, true, true, true, true] rfl rfl ?_
   refine o_store trivial rfl rfl rfl Tryz.sizeOf93 rfl (by first | rfl | (repeat' (first | exact rfl | exact one_nil | refine one_cons ?_ ?_ | exact (Ws.cells1 (by assumption)).2 | exact (Slc.cells1 (by assumption)).2))) (by repeat constructor) (by repeat constructor) ?_
   refine o_nil ?_
   refine h_next (fun _ h => (h.sort (by repeat constructor)).fewer ((hx1.le).trans hx2.le)) ?_
   refine h_end (by kernel_rfl) ?_
   refine then_c (c_ret (then_r ?_))
   refine retR rfl (.agg Tryz.isAgg93 Tryz.sizeOf93 rfl (by repeat constructor) rfl .nil) ?_
   have e := signs_same f1
   rw [val_natW, e] at hs2'
   refine leaf (hx1.trans hx2 (Nat.le_refl _)) (List.nil_sublist _) ⟨u2, ?_, hs2'⟩
   rw [val_natW, e]; rfl
  ·
   have f1 := h1
   try simp only [bl] at f1
   refine c_skip (then_c (c_seq (c_seq (c_region ?_))))
   refine o_fieldAddr (T := 31) (off := 1) trivial rfl Tryz.underlying93 rfl rfl rfl Tryz.sizeOf31 rfl rfl ?_
   refine o_load1 trivial rfl Tryz.isAgg31 rfl (by repeat constructor) (by repeat constructor) ?_
   refine o_fieldAddr (T := 31) (off := 1) trivial rfl Tryz.underlying93 rfl rfl rfl Tryz.sizeOf31 rfl rfl ?_
   refine o_load1 trivial rfl Tryz.isAgg31 rfl (by repeat constructor) (by repeat constructor) ?_
   refine o_callQ trivial rfl Tryz.call113 rfl (rCmp_any _ _ _ _ ha hb (by omega) (by omega)) ?_
   refine o_pv trivial rfl rfl ?_
   refine o_nil (then_c ?_)
   refine c_cond rfl (fun h2 => ?_) (fun h2 => ?_)
   ·
    have f2 := h2
    try simp only [bl] at f2
    rw [val_natW, val_natW] at f2
    have hle : y.natAbs ≤ x.natAbs := by unfold cmpZ at f2; split at f2 <;> (try split at f2) <;> omega
    have e := signs_left f1 hle
    refine c_seq (c_region ?_)
    refine o_fieldAddr (T := 31) (off := 1) trivial rfl Tryz.underlying93 rfl rfl rfl Tryz.sizeOf31 rfl rfl ?_
    refine o_load1 trivial rfl Tryz.isAgg31 rfl (by repeat constructor) (by repeat constructor) ?_
    refine o_fieldAddr (T := 31) (off := 1) trivial rfl Tryz.underlying93 rfl rfl rfl Tryz.sizeOf31 rfl rfl ?_
    refine o_load1 trivial rfl Tryz.isAgg31 rfl (by repeat constructor) (by repeat constructor) ?_
    refine o_callI trivial rfl Tryz.call114 rfl (rSub_any _ _ _ _ ha hb (by omega) (by omega) (by rw [val_natW, val_natW]; exact hle)) ?_
    rintro _ I3 hx3 ⟨u3, rfl, hs3⟩
    iterate 5 refine o_pv trivial rfl rfl ?_
    refine o_nil (then_c (c_seq ?_))
    rw [val_natW, val_natW] at hs3
    refine c_region ?_
    refine o_fieldAddr (T := 4) (off := 0) trivial rfl Tryz.underlying93 rfl rfl rfl Tryz.sizeOf4 rfl rfl ?_
    refine o_load1 trivial rfl Tryz.isAgg4 rfl (by repeat constructor) (by repeat constructor) ?_
    refine o_pv trivial rfl rfl ?_
    refine o_buildS trivial rfl (bld93) rfl (.cons rfl rfl rfl (by repeat constructor) (.cons rfl (by first | exact (Ws.cells1 (by assumption)).1 | exact (Slc.cells1 (by assumption)).1 | rfl) (by rfl) (by repeat constructor) .nil)) ?_
    refine o_callI trivial rfl Tryz.call111 rfl (rFix7_any (decide (x < 0)) _ _ hs3 (Nat.le_trans (natW_le_len (Nat.sub_le _ _)) (by omega))) ?_
    rintro _ I4 hx4 ⟨u4, rfl, hs4⟩
    refine o_store trivial rfl rfl rfl Tryz.sizeOf93 rfl (by first | rfl | (repeat' (first | exact rfl | exact one_nil | refine one_cons ?_ ?_ | exact (Ws.cells1 (by assumption)).2 | exact (Slc.cells1 (by assumption)).2))) (by repeat constructor) (by repeat constructor) ?_
    refine o_nil (then_c (c_ret (then_r ?_)))
    refine retR rfl (.agg Tryz.isAgg93 Tryz.sizeOf93 rfl (by repeat constructor) rfl .nil) ?_
    rw [val_natW, e] at hs4
    refine leaf (hx3.trans hx4 (Nat.le_refl _)) (List.nil_sublist _) ⟨u4, ?_, hs4⟩
    rw [val_natW, e]; rfl
   ·
    have f2 := h2
    try simp only [bl] at f2
    rw [val_natW, val_natW] at f2
    have hle : x.natAbs ≤ y.natAbs := by unfold cmpZ at f2; split at f2 <;> (try split at f2) <;> omega
    have e := signs_left (fun h => f1 h.symm) hle
    rw [Int.add_comm] at e
    refine c_skip (then_c (c_seq (c_region ?_)))
    refine o_fieldAddr (T := 31) (off := 1) trivial rfl Tryz.underlying93 rfl rfl rfl Tryz.sizeOf31 rfl rfl ?_
    refine o_load1 trivial rfl Tryz.isAgg31 rfl (by repeat constructor) (by repeat constructor) ?_
    refine o_fieldAddr (T := 31) (off := 1) trivial rfl Tryz.underlying93 rfl rfl rfl Tryz.sizeOf31 rfl rfl ?_
    refine o_load1 trivial rfl Tryz.isAgg31 rfl (by repeat constructor) (by repeat constructor) ?_
    refine o_callI trivial rfl Tryz.call114 rfl (rSub_any _ _ _ _ hb ha (by omega) (by omega) (by rw [val_natW, val_natW]; exact hle)) ?_
    rintro _ I5 hx5 ⟨u5, rfl, hs5⟩
    iterate 5 refine o_pv trivial rfl rfl ?_
    refine o_nil (then_c (c_seq ?_))
    rw [val_natW, val_natW] at hs5
    refine c_region ?_
    refine o_fieldAddr (T := 4) (off := 0) trivial rfl Tryz.underlying93 rfl rfl rfl Tryz.sizeOf4 rfl rfl ?_
    refine o_load1 trivial rfl Tryz.isAgg4 rfl (by repeat constructor) (by repeat constructor) ?_
    refine o_pv trivial rfl rfl ?_
    refine o_buildS trivial rfl (bld93) rfl (.cons rfl rfl rfl (by repeat constructor) (.cons rfl (by first | exact (Ws.cells1 (by assumption)).1 | exact (Slc.cells1 (by assumption)).1 | rfl) (by rfl) (by repeat constructor) .nil)) ?_
    refine o_callI trivial rfl Tryz.call111 rfl (rFix7_any (decide (y < 0)) _ _ hs5 (Nat.le_trans (natW_le_len (Nat.sub_le _ _)) (by omega))) ?_
    rintro _ I6 hx6 ⟨u6, rfl, hs6⟩
    refine o_store trivial rfl rfl rfl Tryz.sizeOf93 rfl (by first | rfl | (repeat' (first | exact rfl | exact one_nil | refine one_cons ?_ ?_ | exact (Ws.cells1 (by assumption)).2 | exact (Slc.cells1 (by assumption)).2))) (by repeat constructor) (by repeat constructor) ?_
    refine o_nil (then_c (c_ret ?_))
    refine retR rfl (.agg Tryz.isAgg93 Tryz.sizeOf93 rfl (by repeat constructor) rfl .nil) ?_
    rw [val_natW, e] at hs6
    refine leaf (hx5.trans hx6 (Nat.le_refl _)) (List.nil_sublist _) ⟨u6, ?_, hs6⟩
    rw [val_natW, e]; rfl
end Go.Proofs.YtjgbjaaekknenaaGreat
/-
  The document's answers for layer 8.
-/
namespace Go.Proofs.YtjgbjaaekknenaaGreat
open Go Go.Tw
set_option linter.unusedVariables false
set_option linter.unusedSimpArgs false
set_option linter.unnecessarySimpa false
set_option maxHeartbeats 1000000
theorem natW_one : natW 1 = [1] := by rw [natW_pos (by decide), show 1 / 4294967296 = 0 from rfl, natW_zero]
theorem rlow_any (neg : Bool) (va vb : Value) (A B : List Nat) {I : Hp} (ha : Ws I va A) (hb : Ws I vb B) (hs : A.length ≤ 3000) (hs2 : B.length ≤ 3000) : Fun Tryz.prog 44 [.agg #[.bool neg, va], vb] I [] (fun v I' _ => RatV I' v (lowQ neg (val A) (val B))) := by
  intro w hw
  refine enter2 _ Tryz.func44 rfl Tryz.ntmps44 rfl ?_ hw
  refine c_seq (c_region ?_)
  refine o_box trivial rfl rfl rfl (fun b2 => ?_)
  refine o_alloc trivial rfl Tryz.zeroValue33 rfl (fun b4 => ?_)
  refine o_nil (then_c (c_seq (c_region ?_)))
  refine o_fieldAddr (T := 31) (off := 1) trivial rfl Tryz.underlying93 rfl rfl rfl Tryz.sizeOf31 rfl rfl ?_
  refine o_load1 trivial rfl Tryz.isAgg31 rfl (by repeat constructor) (by repeat constructor) ?_
  refine o_pv trivial rfl rfl ?_
  refine o_callI trivial rfl Tryz.call64 rfl (rLowest_any _ _ _ _ ha hb hs hs2) ?_
  rintro _ I1 hx1 ⟨u1, u2, rfl, hs1⟩
  iterate 7 refine o_pv trivial rfl rfl ?_
  refine o_nil (then_c (c_seq (c_seq (c_region ?_))))
  iterate 2 refine o_pv trivial rfl rfl ?_
  refine' o_or trivial trivial rfl rfl rfl rfl rfl rfl rfl rfl (fun hb18 => ?_) ?_
  rotate_left
  ·
   have fb18 := hb18
   try simp only [bl] at fb18
   have hB : val B ≠ 0 := by simpa using hb18
   obtain ⟨hu1, hu2⟩ := hs1 hB
   refine o_pv (wants_some rfl rfl hb18) rfl rfl ?_
   refine o_lenW (wants_some rfl rfl hb18) rfl Tryz.underlying31 rfl (hu1) ?_
   refine o_pv (wants_some rfl rfl hb18) rfl rfl ?_
   refine o_nil ?_
   exact joins rfl
  refine o_nil (then_c ?_)
  refine c_cond rfl (fun h1 => ?_) (fun h1 => ?_)
  ·
   have f1 := h1
   try simp only [bl] at f1
   have h0 : val B = 0 ∨ val A = 0 := by
     rcases f1 with f1 | f1
     · exact .inl (Decidable.not_not.1 f1)
     · by_cases hB : val B = 0
       · exact .inl hB
       · exact .inr (div_gcd_zero (natW_len_zero.1 (by omega)) hB)
   refine c_seq (c_region ?_)
   refine o_buildSl trivial rfl Tryz.underlying31 Tryz.sizeOf95 Tryz.zeroValue95 (by decide) (by decide) rfl (by repeat first | exact rfl | constructor) rfl (fun b23 => ?_)
   refine l_sealW [1] .here (Wds_cons (by decide) Wds_nil) (by unfold maxLen; simp) (fun I2 hx2 hs2' => ?_)
   refine o_buildS trivial rfl (bld33) rfl (.cons rfl (by first | exact (Ws.cells1 (by assumption)).1 | exact (Slc.cells1 (by assumption)).1 | rfl) (by rfl) (by repeat constructor) .nil) ?_
   refine o_store trivial rfl rfl rfl Tryz.sizeOf33 rfl (by first | rfl | (repeat' (first | exact rfl | exact one_nil | refine one_cons ?_ ?_ | exact (Ws.cells1 (by assumption)).2 | exact (Slc.cells1 (by assumption)).2))) (by repeat constructor) (by repeat constructor) ?_
   refine o_nil (then_c (c_ret (then_r ?_)))
   refine retR rfl (.agg Tryz.isAgg33 Tryz.sizeOf33 rfl (by repeat constructor) rfl .nil) ?_
   refine leaf (hx1.trans hx2 (Nat.le_refl _)) (List.nil_sublist _) ?_
   rw [lowQ_zero h0]; exact RatV.zero (by rw [natW_one]; exact hs2')
  ·
   have f1 := h1
   try simp only [bl] at f1
   have hB : val B ≠ 0 := fun e => f1.1 e
   obtain ⟨hu1, hu2⟩ := hs1 hB
   have hA : val A ≠ 0 := fun e => f1.2 (by rw [e, Nat.zero_div, natW_zero]; rfl)
   obtain ⟨e1, e2, e3⟩ := lowQ_parts (neg := neg) hA hB
   refine c_skip (then_c (c_seq (c_region ?_)))
   refine o_fieldAddr (T := 4) (off := 0) trivial rfl Tryz.underlying93 rfl rfl rfl Tryz.sizeOf4 rfl rfl ?_
   refine o_load1 trivial rfl Tryz.isAgg4 rfl (by repeat constructor) (by repeat constructor) ?_
   iterate 2 refine o_pv trivial rfl rfl ?_
   refine o_buildS trivial rfl (bld33) rfl (.cons rfl rfl rfl (by repeat constructor) (.cons rfl (by first | exact (Ws.cells1 (by assumption)).1 | exact (Slc.cells1 (by assumption)).1 | rfl) (by rfl) (by repeat constructor) (.cons rfl (by first | exact (Ws.cells1 (by assumption)).1 | exact (Slc.cells1 (by assumption)).1 | rfl) (by rfl) (by repeat constructor) .nil))) ?_
   refine o_store trivial rfl rfl rfl Tryz.sizeOf33 rfl (by first | rfl | (repeat' (first | exact rfl | exact one_nil | refine one_cons ?_ ?_ | exact (Ws.cells1 (by assumption)).2 | exact (Slc.cells1 (by assumption)).2))) (by repeat constructor) (by repeat constructor) ?_
   refine o_nil (then_c (c_ret ?_))
   refine retR rfl (.agg Tryz.isAgg33 Tryz.sizeOf33 rfl (by repeat constructor) rfl .nil) ?_
   refine leaf hx1 (List.nil_sublist _) ⟨u1, u2, ?_, ?_, ?_⟩
   · rw [e3]; rfl
   · rw [e1]; exact hu1
   · rw [e2]; exact hu2
theorem rFix_any (neg : Bool) (va vb : Value) (A B : List Nat) {I : Hp} (ha : Ws I va A) (hb : Ws I vb B) (hs : A.length ≤ 3000) (hs2 : B.length ≤ 3000) : Fun Tryz.prog 33 [.agg #[.bool neg, va, vb]] I [] (fun v I' _ => RatV I' v (lowQ neg (val A) (val B))) := by
  intro w hw
  refine enter1 _ Tryz.func33 rfl Tryz.ntmps33 rfl ?_ hw
  refine c_seq (c_region ?_)
  refine o_box trivial rfl rfl rfl (fun b1 => ?_)
  refine o_alloc trivial rfl Tryz.zeroValue33 rfl (fun b2 => ?_)
  refine o_nil (then_c (c_seq (c_region ?_)))
  refine o_fieldAddr (T := 4) (off := 0) trivial rfl Tryz.underlying33 rfl rfl rfl Tryz.sizeOf4 rfl rfl ?_
  refine o_load1 trivial rfl Tryz.isAgg4 rfl (by repeat constructor) (by repeat constructor) ?_
  refine o_fieldAddr (T := 31) (off := 1) trivial rfl Tryz.underlying33 rfl rfl rfl Tryz.sizeOf31 rfl rfl ?_
  refine o_load1 trivial rfl Tryz.isAgg31 rfl (by repeat constructor) (by repeat constructor) ?_
  refine o_buildS trivial rfl (bld93) rfl (.cons rfl rfl rfl (by repeat constructor) (.cons rfl (by first | exact (Ws.cells1 (by assumption)).1 | exact (Slc.cells1 (by assumption)).1 | rfl) (by rfl) (by repeat constructor) .nil)) ?_
  refine o_fieldAddr (T := 31) (off := 2) trivial rfl Tryz.underlying33 rfl rfl rfl Tryz.sizeOf31 rfl rfl ?_
  refine o_load1 trivial rfl Tryz.isAgg31 rfl (by repeat constructor) (by repeat constructor) ?_
  refine o_callI trivial rfl Tryz.call44 rfl (rlow_any neg _ _ _ _ ha hb hs hs2) ?_
  rintro _ I1 hx1 ⟨u1, u2, rfl, h1, h2⟩
  refine o_store trivial rfl rfl rfl Tryz.sizeOf33 rfl (by first | rfl | (repeat' (first | exact rfl | exact one_nil | refine one_cons ?_ ?_ | exact (Ws.cells1 (by assumption)).2 | exact (Slc.cells1 (by assumption)).2))) (by repeat constructor) (by repeat constructor) ?_
  refine o_nil (then_c (c_ret ?_))
  refine retR rfl (.agg Tryz.isAgg33 Tryz.sizeOf33 rfl (by repeat constructor) rfl .nil) ?_
  exact leaf hx1 (List.nil_sublist _) ⟨u1, u2, rfl, h1, h2⟩
theorem rFixQ_any (q : Rat) (va vb : Value) {I : Hp} (ha : Ws I va (natW q.num.natAbs)) (hb : Ws I vb (natW q.den)) (hk : Few 3000 q) : Fun Tryz.prog 33 [.agg #[.bool (decide (q.num < 0)), va, vb]] I [] (fun v I' _ => RatV I' v q) := by
  have h := rFix_any (decide (q.num < 0)) va vb _ _ ha hb (natW_few hk.num (Nat.le_refl _)) (natW_few hk.den (Nat.le_refl _))
  rw [val_natW, val_natW, lowQ_self] at h
  exact h
theorem rEqual_any (s1 s2 : Bool) (va vb vc vd : Value) (A B C D : List Nat) {I : Hp} (ha : Ws I va A) (hb : Ws I vb B) (hc : Ws I vc C) (hd : Ws I vd D) : Fun Tryz.prog 25 [.agg #[.bool s1, va, vb], .agg #[.bool s2, vc, vd]] I [] (fun v _ _ => v = .bool (decide (s1 = s2) && decide (A = C) && decide (B = D))) := by
  intro w hw
  refine enter2 _ Tryz.func25 rfl Tryz.ntmps25 rfl ?_ hw
  refine c_seq (c_region ?_)
  refine o_box trivial rfl rfl rfl (fun b2 => ?_)
  refine o_box trivial rfl rfl rfl (fun b3 => ?_)
  refine o_pv trivial rfl rfl ?_
  refine o_nil (then_c (c_seq (c_region ?_)))
  refine o_fieldAddr (T := 4) (off := 0) trivial rfl Tryz.underlying33 rfl rfl rfl Tryz.sizeOf4 rfl rfl ?_
  refine o_load1 trivial rfl Tryz.isAgg4 rfl (by repeat constructor) (by repeat constructor) ?_
  refine o_fieldAddr (T := 4) (off := 0) trivial rfl Tryz.underlying33 rfl rfl rfl Tryz.sizeOf4 rfl rfl ?_
  refine o_load1 trivial rfl Tryz.isAgg4 rfl (by repeat constructor) (by repeat constructor) ?_
  refine o_eqlB trivial rfl rfl rfl Tryz.underlying4 ?_
  refine' o_and trivial trivial rfl rfl rfl rfl rfl rfl rfl rfl (fun hb10 => ?_) ?_
  rotate_left
  ·
   have fb10 := hb10
   try simp only [bl] at fb10
   refine o_fieldAddr (T := 31) (off := 1) (wants_some rfl rfl hb10) rfl Tryz.underlying33 rfl rfl rfl Tryz.sizeOf31 rfl rfl ?_
   refine o_load1 (wants_some rfl rfl hb10) rfl Tryz.isAgg31 rfl (by repeat constructor) (by repeat constructor) ?_
   refine o_fieldAddr (T := 31) (off := 1) (wants_some rfl rfl hb10) rfl Tryz.underlying33 rfl rfl rfl Tryz.sizeOf31 rfl rfl ?_
   refine o_load1 (wants_some rfl rfl hb10) rfl Tryz.isAgg31 rfl (by repeat constructor) (by repeat constructor) ?_
   refine o_callQ (wants_some rfl rfl hb10) rfl Tryz.call46 rfl (rWords_any _ _ _ _ ha hc) ?_
   refine o_nil ?_
   exact joins rfl
  refine' o_and trivial trivial rfl rfl rfl rfl rfl rfl rfl rfl (fun hb17 => ?_) ?_
  rotate_left
  ·
   have fb17 := hb17
   try simp only [bl] at fb17
   refine o_fieldAddr (T := 31) (off := 2) (wants_some rfl rfl hb17) rfl Tryz.underlying33 rfl rfl rfl Tryz.sizeOf31 rfl rfl ?_
   refine o_load1 (wants_some rfl rfl hb17) rfl Tryz.isAgg31 rfl (by repeat constructor) (by repeat constructor) ?_
   refine o_fieldAddr (T := 31) (off := 2) (wants_some rfl rfl hb17) rfl Tryz.underlying33 rfl rfl rfl Tryz.sizeOf31 rfl rfl ?_
   refine o_load1 (wants_some rfl rfl hb17) rfl Tryz.isAgg31 rfl (by repeat constructor) (by repeat constructor) ?_
   refine o_callQ (wants_some rfl rfl hb17) rfl Tryz.call46 rfl (rWords_any _ _ _ _ hb hd) ?_
   refine o_nil ?_
   exact joins rfl
  refine o_pv trivial rfl rfl ?_
  refine o_nil (then_c (c_ret ?_))
  refine ret1 rfl rfl ?_
  refine leaf0 (congrArg Value.bool ?_)
  congr 2
theorem rRight_any (neg : Bool) (va vb : Value) (A B : List Nat) {I : Hp} (ha : Ws I va A) (hb : Ws I vb B) (hs : A.length ≤ 3000) (hs2 : B.length ≤ 3000) : Fun Tryz.prog 48 [.agg #[.bool neg, va, vb]] I [] (fun v _ _ => v = .bool (ratRight neg A B)) := by
  intro w hw
  refine enter1 _ Tryz.func48 rfl Tryz.ntmps48 rfl ?_ hw
  refine c_seq (c_region ?_)
  refine o_box trivial rfl rfl rfl (fun b1 => ?_)
  refine o_pv trivial rfl rfl ?_
  refine o_nil (then_c (c_seq ?_))
  refine h_beginB (m := 5) [.box b1 _] (by repeat constructor) (by kernel_rfl) rfl ?_
  refine' h_take (i := 0) #[true, false, false, false, false] rfl rfl rfl (by kernel_rfl) (by kernel_rfl) (by kernel_rfl) rfl (qp_then qp_bp) (fun _ h => (h.sort (by repeat constructor)).fewer (Hp.Le.refl _)) ?hh0 ?kk0
  case hh0 =>
   refine o_loadA trivial rfl Tryz.isAgg33 Tryz.sizeOf33 rfl (by repeat constructor) (by repeat constructor) ?_
   refine o_nil ?_
   exact ⟨fun _ _ ha _ => ha⟩
  refine' h_take (i := 2) #[true, false, true, false, false] rfl rfl rfl (by kernel_rfl) (by kernel_rfl) (by kernel_rfl) rfl (qp_then qp_bp) (fun _ h => (h.sort (by repeat constructor)).fewer (Hp.Le.refl _)) ?hh1 ?kk1
  case hh1 =>
   refine o_loadA trivial rfl Tryz.isAgg33 Tryz.sizeOf33 rfl (by repeat constructor) (by repeat constructor) ?_
   refine o_nil ?_
   exact ⟨fun _ _ ha _ => ha⟩
  refine h_go [1] (by kernel_rfl) rfl (TWHs.cons ?_ TWHs.nil)
  refine h_op #[true, true, true, false, false] rfl rfl ?_
  refine o_callI trivial rfl Tryz.call33 rfl (rFix_any neg _ _ _ _ ha hb hs hs2) ?_
  rintro _ I1 hx1 ⟨u1, u2, rfl, h1, h2⟩
  refine o_nil ?_
  refine h_next (fun _ h => (h.sort (by repeat constructor)).fewer (hx1.le)) ?_
  refine h_go [3] (by kernel_rfl) rfl (TWHs.cons ?_ TWHs.nil)
  refine h_op #[true, true, true, true, false] rfl rfl ?_
  refine o_callQ trivial rfl Tryz.call25 rfl (rEqual_any _ neg _ _ _ _ _ _ A B h1 h2 (ha.le hx1.le) (hb.le hx1.le)) ?_
  refine o_nil ?_
  refine h_next (fun _ h => (h.sort (by repeat constructor)).fewer (hx1.le)) ?_
  refine' h_take (i := 4) #[true, true, true, true, true] rfl rfl rfl (by kernel_rfl) (by kernel_rfl) (by kernel_rfl) rfl (qp_then qp_bp) (fun _ h => (h.sort (by repeat constructor)).fewer (hx1.le)) ?hh2 ?kk2
  case hh2 =>
   refine o_pv trivial rfl rfl ?_
   refine o_nil ?_
   exact ⟨fun _ _ ha _ => ha⟩
  refine h_end (by kernel_rfl) ?_
  refine then_c (c_ret ?_)
  refine ret1 rfl rfl ?_
  refine leaf hx1 (List.nil_sublist _) (congrArg Value.bool ?_)
  unfold ratRight
  rw [Bool.eq_iff_iff]
  simp only [Bool.and_eq_true, decide_eq_true_eq]
  constructor <;> (rintro ⟨⟨k1, k2⟩, k3⟩; exact ⟨⟨k1.symm, k2.symm⟩, k3.symm⟩)
theorem val_one : val [1] = 1 := by rw [val_cons, val_nil]
theorem rOf8_any (n : Int) {I : Hp} (hn : -1000000 ≤ n ∧ n ≤ 1000000) : Fun Tryz.prog 24 [.int .i64 n] I [] (fun v I' _ => RatV I' v (mkRat n 1)) := by
  have hl : (natW n.natAbs).length ≤ 3000 := natW_len_of (k := 1) (by rw [Nat.pow_one]; omega) (by decide)
  intro w hw
  refine enter1 _ Tryz.func24 rfl Tryz.ntmps24 rfl ?_ hw
  refine c_seq (c_region ?_)
  refine o_alloc trivial rfl Tryz.zeroValue33 rfl (fun b2 => ?_)
  refine o_nil (then_c (c_seq (c_region ?_)))
  refine o_pv trivial rfl rfl ?_
  refine o_callI trivial rfl Tryz.call45 rfl (rOf7_any n hn) ?_
  rintro _ I1 hx1 ⟨u1, rfl, hs1⟩
  refine o_buildSl trivial rfl Tryz.underlying31 Tryz.sizeOf95 Tryz.zeroValue95 (by decide) (by decide) rfl (by repeat first | exact rfl | constructor) rfl (fun b5 => ?_)
  refine l_sealW [1] .here (Wds_cons (by decide) Wds_nil) (by unfold maxLen; simp) (fun I2 hx2 hs2 => ?_)
  refine o_callI trivial rfl Tryz.call44 rfl (rlow_any (decide (n < 0)) _ _ _ _ (hs1.le hx2.le) hs2 hl (by simp)) ?_
  rintro _ I3 hx3 ⟨u3, u4, rfl, h3, h4⟩
  refine o_store trivial rfl rfl rfl Tryz.sizeOf33 rfl (by first | rfl | (repeat' (first | exact rfl | exact one_nil | refine one_cons ?_ ?_ | exact (Ws.cells1 (by assumption)).2 | exact (Slc.cells1 (by assumption)).2))) (by repeat constructor) (by repeat constructor) ?_
  refine o_nil (then_c (c_ret ?_))
  refine retR rfl (.agg Tryz.isAgg33 Tryz.sizeOf33 rfl (by repeat constructor) rfl .nil) ?_
  rw [val_natW, val_one, lowQ_int] at h3 h4
  refine leaf (hx1.trans (hx2.trans hx3 (Nat.le_refl _)) (Nat.le_refl _)) (List.nil_sublist _) ⟨u3, u4, ?_, h3, h4⟩
  rw [val_natW, val_one, lowQ_int]; rfl
theorem rSmall8_any (n : Int) (d : Nat) {I : Hp} (hn : -128 ≤ n ∧ n ≤ 127) (hd : d ≤ 255) : Fun Tryz.prog 26 [.int .i8 n, .int .u8 (d : Int)] I [] (fun v I' _ => RatV I' v (mkRat n (d + 1))) := by
  have hl : (natW n.natAbs).length ≤ 3000 := natW_len_of (k := 1) (by rw [Nat.pow_one]; omega) (by decide)
  have hv : val [d + 1] = d + 1 := by rw [val_cons, val_nil]
  intro w hw
  refine enter2 _ Tryz.func26 rfl Tryz.ntmps26 rfl ?_ hw
  refine c_seq (c_region ?_)
  refine o_alloc trivial rfl Tryz.zeroValue33 rfl (fun b4 => ?_)
  refine o_nil (then_c (c_seq (c_region ?_)))
  refine o_pv trivial rfl rfl ?_
  first | refine o_convIn trivial rfl Tryz.underlying64 Tryz.underlying3 rfl (by rw [IntWalk.i64_in _ (by omega)]) ?_ | refine o_conv trivial rfl Tryz.underlying64 Tryz.underlying3 rfl ?_
  refine o_callI trivial rfl Tryz.call45 rfl (rOf7_any n (by omega)) ?_
  rintro _ I1 hx1 ⟨u1, rfl, hs1⟩
  refine o_pv trivial rfl rfl ?_
  first | refine o_convIn trivial rfl Tryz.underlying5 Tryz.underlying95 rfl (by rw [IntWalk.u32_in _ (by omega)]) ?_ | refine o_conv trivial rfl Tryz.underlying5 Tryz.underlying95 rfl ?_
  first | refine o_arA trivial rfl rfl rfl (by rw [IntWalk.u32_in _ (by omega)]) ?_ | refine o_pv trivial rfl rfl ?_
  refine o_buildSl trivial rfl Tryz.underlying31 Tryz.sizeOf95 Tryz.zeroValue95 (by decide) (by decide) rfl (by repeat first | exact rfl | constructor) rfl (fun b11 => ?_)
  refine l_sealW [d + 1] .here (Wds_cons (by omega) Wds_nil) (by unfold maxLen; simp) (fun I2 hx2 hs2 => ?_)
  refine o_callI trivial rfl Tryz.call44 rfl (rlow_any (decide (n < 0)) _ _ _ _ (hs1.le hx2.le) hs2 hl (by simp)) ?_
  rintro _ I3 hx3 ⟨u3, u4, rfl, h3, h4⟩
  refine o_store trivial rfl rfl rfl Tryz.sizeOf33 rfl (by first | rfl | (repeat' (first | exact rfl | exact one_nil | refine one_cons ?_ ?_ | exact (Ws.cells1 (by assumption)).2 | exact (Slc.cells1 (by assumption)).2))) (by repeat constructor) (by repeat constructor) ?_
  refine o_nil (then_c (c_ret ?_))
  refine retR rfl (.agg Tryz.isAgg33 Tryz.sizeOf33 rfl (by repeat constructor) rfl .nil) ?_
  rw [val_natW, hv, lowQ_int] at h3 h4
  refine leaf (hx1.trans (hx2.trans hx3 (Nat.le_refl _)) (Nat.le_refl _)) (List.nil_sublist _) ⟨u3, u4, ?_, h3, h4⟩
  rw [val_natW, hv, lowQ_int]; rfl
theorem rOver_any (p q : Rat) (va vb vc vd : Value) {I : Hp} (ha : Ws I va (natW p.num.natAbs)) (hb : Ws I vb (natW p.den)) (hc : Ws I vc (natW q.num.natAbs)) (hd : Ws I vd (natW q.den)) (hp : Few 3000 p) (hq : Few 3000 q) : Fun Tryz.prog 80 [.agg #[.bool (decide (p.num < 0)), va, vb], .agg #[.bool (decide (q.num < 0)), vc, vd]] I [] (fun v I' _ => IntV I' v (p.num * (q.den : Int))) := by
  have hm := rMul7_any va vd p.num (q.den : Int) ha (by rw [Int.natAbs_natCast]; exact hd) (natW_few hp.num (by decide)) (by rw [Int.natAbs_natCast]; exact natW_few hq.den (by decide))
  rw [decide_eq_false (by omega : ¬ (q.den : Int) < 0)] at hm
  intro w hw
  refine enter2 _ Tryz.func80 rfl Tryz.ntmps80 rfl ?_ hw
  refine c_seq (c_region ?_)
  refine o_box trivial rfl rfl rfl (fun b2 => ?_)
  refine o_box trivial rfl rfl rfl (fun b3 => ?_)
  refine o_alloc trivial rfl Tryz.zeroValue93 rfl (fun b4 => ?_)
  refine o_nil (then_c (c_seq (c_region ?_)))
  refine o_fieldAddr (T := 4) (off := 0) trivial rfl Tryz.underlying33 rfl rfl rfl Tryz.sizeOf4 rfl rfl ?_
  refine o_load1 trivial rfl Tryz.isAgg4 rfl (by repeat constructor) (by repeat constructor) ?_
  refine o_fieldAddr (T := 31) (off := 1) trivial rfl Tryz.underlying33 rfl rfl rfl Tryz.sizeOf31 rfl rfl ?_
  refine o_load1 trivial rfl Tryz.isAgg31 rfl (by repeat constructor) (by repeat constructor) ?_
  refine o_buildS trivial rfl (bld93) rfl (.cons rfl rfl rfl (by repeat constructor) (.cons rfl (by first | exact (Ws.cells1 (by assumption)).1 | exact (Slc.cells1 (by assumption)).1 | rfl) (by rfl) (by repeat constructor) .nil)) ?_
  refine o_fieldAddr (T := 31) (off := 2) trivial rfl Tryz.underlying33 rfl rfl rfl Tryz.sizeOf31 rfl rfl ?_
  refine o_load1 trivial rfl Tryz.isAgg31 rfl (by repeat constructor) (by repeat constructor) ?_
  refine o_buildS trivial rfl (bld93) rfl (.cons rfl (by first | exact (Ws.cells1 (by assumption)).1 | exact (Slc.cells1 (by assumption)).1 | rfl) (by rfl) (by repeat constructor) .nil) ?_
  refine o_callI trivial rfl Tryz.call115 rfl hm ?_
  rintro _ I1 hx1 ⟨u1, rfl, hs1⟩
  refine o_store trivial rfl rfl rfl Tryz.sizeOf93 rfl (by first | rfl | (repeat' (first | exact rfl | exact one_nil | refine one_cons ?_ ?_ | exact (Ws.cells1 (by assumption)).2 | exact (Slc.cells1 (by assumption)).2))) (by repeat constructor) (by repeat constructor) ?_
  refine o_nil (then_c (c_ret ?_))
  refine retR rfl (.agg Tryz.isAgg93 Tryz.sizeOf93 rfl (by repeat constructor) rfl .nil) ?_
  exact leaf hx1 (List.nil_sublist _) ⟨u1, rfl, hs1⟩
theorem rAdd8_any (p q : Rat) (va vb vc vd : Value) {I : Hp} (ha : Ws I va (natW p.num.natAbs)) (hb : Ws I vb (natW p.den)) (hc : Ws I vc (natW q.num.natAbs)) (hd : Ws I vd (natW q.den)) (hp : Few 1400 p) (hq : Few 1400 q) : Fun Tryz.prog 54 [.agg #[.bool (decide (p.num < 0)), va, vb], .agg #[.bool (decide (q.num < 0)), vc, vd]] I [] (fun v I' _ => RatV I' v (p + q)) := by
  have hl1 := natW_few hp.num (Nat.le_refl _)
  have hl2 := natW_few hp.den (Nat.le_refl _)
  have hl3 := natW_few hq.num (Nat.le_refl _)
  have hl4 := natW_few hq.den (Nat.le_refl _)
  have e1 : (natW (p.num * (q.den : Int)).natAbs).length ≤ 2800 := by rw [Int.natAbs_mul]; exact Nat.le_trans (natW_mul_len _ _) (by rw [Int.natAbs_natCast]; omega)
  have e2 : (natW (q.num * (p.den : Int)).natAbs).length ≤ 2800 := by rw [Int.natAbs_mul]; exact Nat.le_trans (natW_mul_len _ _) (by rw [Int.natAbs_natCast]; omega)
  have e3 : (natW (p.num * (q.den : Int) + q.num * (p.den : Int)).natAbs).length ≤ 3000 := Nat.le_trans (natW_le_len (Int.natAbs_add_le _ _)) (Nat.le_trans (natW_add_len _ _ 2800 e1 e2) (by decide))
  intro w hw
  refine enter2 _ Tryz.func54 rfl Tryz.ntmps54 rfl ?_ hw
  refine c_seq (c_region ?_)
  refine o_box trivial rfl rfl rfl (fun b2 => ?_)
  refine o_box trivial rfl rfl rfl (fun b3 => ?_)
  refine o_alloc trivial rfl Tryz.zeroValue33 rfl (fun b4 => ?_)
  refine o_nil (then_c (c_seq (c_region ?_)))
  refine o_loadA trivial rfl Tryz.isAgg33 Tryz.sizeOf33 rfl (by repeat constructor) (by repeat constructor) ?_
  refine o_callI trivial rfl Tryz.call33 rfl (rFixQ_any p _ _ ha hb (hp.le (by decide))) ?_
  rintro _ I1 hx1 ⟨n1, d1, rfl, hn1, hd1⟩
  refine o_alloc trivial rfl Tryz.zeroValue33 rfl (fun b5 => ?_)
  refine o_store trivial rfl rfl rfl Tryz.sizeOf33 rfl (by first | rfl | (repeat' (first | exact rfl | exact one_nil | refine one_cons ?_ ?_ | exact (Ws.cells1 (by assumption)).2 | exact (Slc.cells1 (by assumption)).2))) (by repeat constructor) (by repeat constructor) ?_
  refine o_nil (then_c (c_seq (c_region ?_)))
  refine o_loadA trivial rfl Tryz.isAgg33 Tryz.sizeOf33 rfl (by repeat constructor) (by repeat constructor) ?_
  refine o_callI trivial rfl Tryz.call33 rfl (rFixQ_any q _ _ (hc.le hx1.le) (hd.le hx1.le) (hq.le (by decide))) ?_
  rintro _ I2 hx2 ⟨n2, d2, rfl, hn2, hd2⟩
  refine o_alloc trivial rfl Tryz.zeroValue33 rfl (fun b6 => ?_)
  refine o_store trivial rfl rfl rfl Tryz.sizeOf33 rfl (by first | rfl | (repeat' (first | exact rfl | exact one_nil | refine one_cons ?_ ?_ | exact (Ws.cells1 (by assumption)).2 | exact (Slc.cells1 (by assumption)).2))) (by repeat constructor) (by repeat constructor) ?_
  refine o_nil (then_c (c_seq ?_))
  refine h_beginB (m := 14) [.box b5 _, .box b6 _] (by repeat constructor) (by kernel_rfl) rfl ?_
  refine' h_take (i := 0) #[true, false, false, false, false, false, false, false, false, false, false, false, false, false] rfl rfl rfl (by kernel_rfl) (by kernel_rfl) (by kernel_rfl) rfl (qp_then qp_bp) (fun _ h => (h.sort (by repeat constructor)).fewer (Hp.Le.refl _)) ?hh0 ?kk0
  case hh0 =>
   refine o_loadA trivial rfl Tryz.isAgg33 Tryz.sizeOf33 rfl (by repeat constructor) (by repeat constructor) ?_
   refine o_nil ?_
   exact ⟨fun _ _ ha _ => ha⟩
  refine' h_take (i := 1) #[true, true, false, false, false, false, false, false, false, false, false, false, false, false] rfl rfl rfl (by kernel_rfl) (by kernel_rfl) (by kernel_rfl) rfl (qp_then qp_bp) (fun _ h => (h.sort (by repeat constructor)).fewer (Hp.Le.refl _)) ?hh1 ?kk1
  case hh1 =>
   refine o_loadA trivial rfl Tryz.isAgg33 Tryz.sizeOf33 rfl (by repeat constructor) (by repeat constructor) ?_
   refine o_nil ?_
   exact ⟨fun _ _ ha _ => ha⟩
  refine' h_take (i := 3) #[true, true, false, true, false, false, false, false, false, false, false, false, false, false] rfl rfl rfl (by kernel_rfl) (by kernel_rfl) (by kernel_rfl) rfl (qp_then qp_bp) (fun _ h => (h.sort (by repeat constructor)).fewer (Hp.Le.refl _)) ?hh2 ?kk2
  case hh2 =>
   refine o_loadA trivial rfl Tryz.isAgg33 Tryz.sizeOf33 rfl (by repeat constructor) (by repeat constructor) ?_
   refine o_nil ?_
   exact ⟨fun _ _ ha _ => ha⟩
  refine' h_take (i := 4) #[true, true, false, true, true, false, false, false, false, false, false, false, false, false] rfl rfl rfl (by kernel_rfl) (by kernel_rfl) (by kernel_rfl) rfl (qp_then qp_bp) (fun _ h => (h.sort (by repeat constructor)).fewer (Hp.Le.refl _)) ?hh3 ?kk3
  case hh3 =>
   refine o_loadA trivial rfl Tryz.isAgg33 Tryz.sizeOf33 rfl (by repeat constructor) (by repeat constructor) ?_
   refine o_nil ?_
   exact ⟨fun _ _ ha _ => ha⟩
  refine' h_take (i := 7) #[true, true, false, true, true, false, false, true, false, false, false, false, false, false] rfl rfl rfl (by kernel_rfl) (by kernel_rfl) (by kernel_rfl) rfl (qp_then qp_bp) (fun _ h => (h.sort (by repeat constructor)).fewer (Hp.Le.refl _)) ?hh4 ?kk4
  case hh4 =>
   refine o_fieldAddr (T := 31) (off := 2) trivial rfl Tryz.underlying33 rfl rfl rfl Tryz.sizeOf31 rfl rfl ?_
   refine o_nil ?_
   exact ⟨fun _ _ ha _ => ha⟩
  refine' h_take (i := 8) #[true, true, false, true, true, false, false, true, true, false, false, false, false, false] rfl rfl rfl (by kernel_rfl) (by kernel_rfl) (by kernel_rfl) rfl (qp_then qp_bp) (fun _ h => (h.sort (by repeat constructor)).fewer (Hp.Le.refl _)) ?hh5 ?kk5
  case hh5 =>
   refine o_load1 trivial rfl Tryz.isAgg31 rfl (by repeat constructor) (by repeat constructor) ?_
   refine o_nil ?_
   exact ⟨fun _ _ ha _ => ha⟩
  refine' h_take (i := 9) #[true, true, false, true, true, false, false, true, true, true, false, false, false, false] rfl rfl rfl (by kernel_rfl) (by kernel_rfl) (by kernel_rfl) rfl (qp_then qp_bp) (fun _ h => (h.sort (by repeat constructor)).fewer (Hp.Le.refl _)) ?hh6 ?kk6
  case hh6 =>
   refine o_fieldAddr (T := 31) (off := 2) trivial rfl Tryz.underlying33 rfl rfl rfl Tryz.sizeOf31 rfl rfl ?_
   refine o_nil ?_
   exact ⟨fun _ _ ha _ => ha⟩
  refine' h_take (i := 10) #[true, true, false, true, true, false, false, true, true, true, true, false, false, false] rfl rfl rfl (by kernel_rfl) (by kernel_rfl) (by kernel_rfl) rfl (qp_then qp_bp) (fun _ h => (h.sort (by repeat constructor)).fewer (Hp.Le.refl _)) ?hh7 ?kk7
  case hh7 =>
   refine o_load1 trivial rfl Tryz.isAgg31 rfl (by repeat constructor) (by repeat constructor) ?_
   refine o_nil ?_
   exact ⟨fun _ _ ha _ => ha⟩
  refine h_go [2] (by kernel_rfl) rfl (TWHs.cons ?_ TWHs.nil)
  refine h_op #[true, true, true, true, true, false, false, true, true, true, true, false, false, false] rfl rfl ?_
  refine o_callI trivial rfl Tryz.call80 rfl (rOver_any p q _ _ _ _ (hn1.le hx2.le) (hd1.le hx2.le) hn2 hd2 (hp.le (by decide)) (hq.le (by decide))) ?_
  rintro _ I3 hx3 ⟨u3, rfl, hs3⟩
  refine o_nil ?_
  refine h_next (fun _ h => (h.sort (by repeat constructor)).fewer (hx3.le)) ?_
  refine h_go [5] (by kernel_rfl) rfl (TWHs.cons ?_ TWHs.nil)
  refine h_op #[true, true, true, true, true, true, false, true, true, true, true, false, false, false] rfl rfl ?_
  refine o_callI trivial rfl Tryz.call80 rfl (rOver_any q p _ _ _ _ (hn2.le hx3.le) (hd2.le hx3.le) (hn1.le (hx2.le.trans hx3.le)) (hd1.le (hx2.le.trans hx3.le)) (hq.le (by decide)) (hp.le (by decide))) ?_
  rintro _ I4 hx4 ⟨u4, rfl, hs4⟩
  refine o_nil ?_
  refine h_next (fun _ h => (h.sort (by repeat constructor)).fewer ((hx3.le).trans hx4.le)) ?_
  refine h_go [6] (by kernel_rfl) rfl (TWHs.cons ?_ TWHs.nil)
  refine h_op #[true, true, true, true, true, true, true, true, true, true, true, false, false, false] rfl rfl ?_
  refine o_callI trivial rfl Tryz.call79 rfl (rAdd7_any _ _ (p.num * (q.den : Int)) (q.num * (p.den : Int)) (hs3.le hx4.le) hs4 (by omega) (by omega)) ?_
  rintro _ I5 hx5 ⟨u5, rfl, hs5⟩
  refine o_nil ?_
  refine h_next (fun _ h => (h.sort (by repeat constructor)).fewer (((hx3.le).trans hx4.le).trans hx5.le)) ?_
  refine h_go [11] (by kernel_rfl) rfl (TWHs.cons ?_ TWHs.nil)
  refine h_op #[true, true, true, true, true, true, true, true, true, true, true, true, false, false] rfl rfl ?_
  refine o_callI trivial rfl Tryz.call81 rfl (rMul_any _ _ _ _ (hd1.le (hx2.le.trans (hx3.le.trans (hx4.le.trans hx5.le)))) (hd2.le (hx3.le.trans (hx4.le.trans hx5.le))) (by omega) (by omega)) ?_
  rintro u6 I6 hx6 hs6
  refine o_nil ?_
  refine h_next (fun _ h => (h.sort (by repeat constructor)).fewer ((((hx3.le).trans hx4.le).trans hx5.le).trans hx6.le)) ?_
  refine h_go [12] (by kernel_rfl) rfl (TWHs.cons ?_ TWHs.nil)
  refine h_op #[true, true, true, true, true, true, true, true, true, true, true, true, true, false] rfl rfl ?_
  refine o_callI trivial rfl Tryz.call44 rfl (rlow_any (decide (p.num * (q.den : Int) + q.num * (p.den : Int) < 0)) _ _ _ _ (hs5.le hx6.le) hs6 e3 (by rw [val_natW, val_natW]; exact Nat.le_trans (natW_mul_len _ _) (by omega))) ?_
  rintro _ I7 hx7 ⟨u7, u8, rfl, h1, h2⟩
  refine o_nil ?_
  refine h_next (fun _ h => (h.sort (by repeat constructor)).fewer (((((hx3.le).trans hx4.le).trans hx5.le).trans hx6.le).trans hx7.le)) ?_
  refine h_go [13] (by kernel_rfl) rfl (TWHs.cons ?_ TWHs.nil)
  refine h_op #[true, true, true, true, true, true, true, true, true, true, true, true, true, true] rfl rfl ?_
  refine o_store trivial rfl rfl rfl Tryz.sizeOf33 rfl (by first | rfl | (repeat' (first | exact rfl | exact one_nil | refine one_cons ?_ ?_ | exact (Ws.cells1 (by assumption)).2 | exact (Slc.cells1 (by assumption)).2))) (by repeat constructor) (by repeat constructor) ?_
  refine o_nil ?_
  refine h_next (fun _ h => (h.sort (by repeat constructor)).fewer (((((hx3.le).trans hx4.le).trans hx5.le).trans hx6.le).trans hx7.le)) ?_
  refine h_end (by kernel_rfl) ?_
  refine then_c (c_ret ?_)
  refine retR rfl (.agg Tryz.isAgg33 Tryz.sizeOf33 rfl (by repeat constructor) rfl .nil) ?_
  rw [val_natW, val_natW, val_natW, val_natW, qadd_num] at h1 h2
  refine leaf (hx1.trans (hx2.trans (hx3.trans (hx4.trans (hx5.trans (hx6.trans hx7 (Nat.le_refl _)) (Nat.le_refl _)) (Nat.le_refl _)) (Nat.le_refl _)) (Nat.le_refl _)) (Nat.le_refl _)) (List.nil_sublist _) ⟨u7, u8, ?_, h1, h2⟩
  rw [val_natW, val_natW, val_natW, val_natW, qadd_num]; rfl
theorem rNeg8_any (q : Rat) (va vb : Value) {I : Hp} (ha : Ws I va (natW q.num.natAbs)) (hb : Ws I vb (natW q.den)) (hk : Few 3000 q) : Fun Tryz.prog 58 [.agg #[.bool (decide (q.num < 0)), va, vb]] I [] (fun v I' _ => RatV I' v (-q)) := by
  intro w hw
  refine enter1 _ Tryz.func58 rfl Tryz.ntmps58 rfl ?_ hw
  refine c_seq (c_region ?_)
  refine o_box trivial rfl rfl rfl (fun b1 => ?_)
  refine o_alloc trivial rfl Tryz.zeroValue33 rfl (fun b2 => ?_)
  refine o_nil (then_c (c_seq (c_region ?_)))
  refine o_loadA trivial rfl Tryz.isAgg33 Tryz.sizeOf33 rfl (by repeat constructor) (by repeat constructor) ?_
  refine o_callI trivial rfl Tryz.call33 rfl (rFixQ_any q _ _ ha hb hk) ?_
  rintro _ I1 hx1 ⟨n1, d1, rfl, hn1, hd1⟩
  refine o_alloc trivial rfl Tryz.zeroValue33 rfl (fun b3 => ?_)
  refine o_store trivial rfl rfl rfl Tryz.sizeOf33 rfl (by first | rfl | (repeat' (first | exact rfl | exact one_nil | refine one_cons ?_ ?_ | exact (Ws.cells1 (by assumption)).2 | exact (Slc.cells1 (by assumption)).2))) (by repeat constructor) (by repeat constructor) ?_
  refine o_nil (then_c (c_seq (c_region ?_)))
  refine o_fieldAddr (T := 4) (off := 0) trivial rfl Tryz.underlying33 rfl rfl rfl Tryz.sizeOf4 rfl rfl ?_
  refine o_load1 trivial rfl Tryz.isAgg4 rfl (by repeat constructor) (by repeat constructor) ?_
  refine o_pv trivial rfl rfl ?_
  refine' o_and trivial trivial rfl rfl rfl rfl rfl rfl rfl rfl (fun hb9 => ?_) ?_
  rotate_left
  ·
   have fb9 := hb9
   try simp only [bl] at fb9
   refine o_fieldAddr (T := 31) (off := 1) (wants_some rfl rfl hb9) rfl Tryz.underlying33 rfl rfl rfl Tryz.sizeOf31 rfl rfl ?_
   refine o_load1 (wants_some rfl rfl hb9) rfl Tryz.isAgg31 rfl (by repeat constructor) (by repeat constructor) ?_
   refine o_lenW (wants_some rfl rfl hb9) rfl Tryz.underlying31 rfl (hn1) ?_
   refine o_pv (wants_some rfl rfl hb9) rfl rfl ?_
   refine o_nil ?_
   exact joins rfl
  refine o_fieldAddr (T := 4) (off := 0) trivial rfl Tryz.underlying33 rfl rfl rfl Tryz.sizeOf4 rfl rfl ?_
  refine o_store trivial rfl rfl rfl Tryz.sizeOf4 rfl (by first | rfl | (repeat' (first | exact rfl | exact one_nil | refine one_cons ?_ ?_ | exact (Ws.cells1 (by assumption)).2 | exact (Slc.cells1 (by assumption)).2))) (by repeat constructor) (by repeat constructor) ?_
  refine o_nil (then_c (c_seq (c_region ?_)))
  refine o_loadA trivial rfl Tryz.isAgg33 Tryz.sizeOf33 rfl (by repeat constructor) (by repeat constructor) ?_
  refine o_store trivial rfl rfl rfl Tryz.sizeOf33 rfl (by first | rfl | (repeat' (first | exact rfl | exact one_nil | refine one_cons ?_ ?_ | exact (Ws.cells1 (by assumption)).2 | exact (Slc.cells1 (by assumption)).2))) (by repeat constructor) (by repeat constructor) ?_
  refine o_nil (then_c (c_ret ?_))
  refine retR rfl (.agg Tryz.isAgg33 Tryz.sizeOf33 rfl (by repeat constructor) rfl .nil) ?_
  refine leaf hx1 (List.nil_sublist _) ⟨n1, d1, ?_, by rw [Rat.neg_num, Int.natAbs_neg]; exact hn1, by rw [Rat.neg_den]; exact hd1⟩
  have e : (!decide (q.num < 0) && decide (((natW q.num.natAbs).length : Int) > 0)) = decide ((-q).num < 0) := by
    rw [Rat.neg_num, Bool.eq_iff_iff]
    simp only [Bool.and_eq_true, Bool.not_eq_true', decide_eq_false_iff_not, decide_eq_true_eq]
    by_cases h0 : q.num = 0
    · have e2 : (natW q.num.natAbs).length = 0 := by rw [h0, Int.natAbs_zero, natW_zero]; rfl
      omega
    · have e2 : (natW q.num.natAbs).length ≠ 0 := fun e => by have := natW_len_zero.1 e; omega
      omega
  rw [e]; rfl
theorem rSub8_any (p q : Rat) (va vb vc vd : Value) {I : Hp} (ha : Ws I va (natW p.num.natAbs)) (hb : Ws I vb (natW p.den)) (hc : Ws I vc (natW q.num.natAbs)) (hd : Ws I vd (natW q.den)) (hp : Few 1400 p) (hq : Few 1400 q) : Fun Tryz.prog 55 [.agg #[.bool (decide (p.num < 0)), va, vb], .agg #[.bool (decide (q.num < 0)), vc, vd]] I [] (fun v I' _ => RatV I' v (p - q)) := by
  intro w hw
  refine enter2 _ Tryz.func55 rfl Tryz.ntmps55 rfl ?_ hw
  refine c_seq (c_region ?_)
  refine o_box trivial rfl rfl rfl (fun b2 => ?_)
  refine o_box trivial rfl rfl rfl (fun b3 => ?_)
  refine o_alloc trivial rfl Tryz.zeroValue33 rfl (fun b4 => ?_)
  refine o_nil (then_c (c_seq ?_))
  refine h_beginB (m := 5) [.box b2 _, .box b3 _] (by repeat constructor) (by kernel_rfl) rfl ?_
  refine' h_take (i := 0) #[true, false, false, false, false] rfl rfl rfl (by kernel_rfl) (by kernel_rfl) (by kernel_rfl) rfl (qp_then qp_bp) (fun _ h => (h.sort (by repeat constructor)).fewer (Hp.Le.refl _)) ?hh0 ?kk0
  case hh0 =>
   refine o_loadA trivial rfl Tryz.isAgg33 Tryz.sizeOf33 rfl (by repeat constructor) (by repeat constructor) ?_
   refine o_nil ?_
   exact ⟨fun _ _ ha _ => ha⟩
  refine' h_take (i := 1) #[true, true, false, false, false] rfl rfl rfl (by kernel_rfl) (by kernel_rfl) (by kernel_rfl) rfl (qp_then qp_bp) (fun _ h => (h.sort (by repeat constructor)).fewer (Hp.Le.refl _)) ?hh1 ?kk1
  case hh1 =>
   refine o_loadA trivial rfl Tryz.isAgg33 Tryz.sizeOf33 rfl (by repeat constructor) (by repeat constructor) ?_
   refine o_nil ?_
   exact ⟨fun _ _ ha _ => ha⟩
  refine h_go [2] (by kernel_rfl) rfl (TWHs.cons ?_ TWHs.nil)
  refine h_op #[true, true, true, false, false] rfl rfl ?_
  refine o_callI trivial rfl Tryz.call58 rfl (rNeg8_any q _ _ hc hd (hq.le (by decide))) ?_
  rintro _ I1 hx1 ⟨u1, u2, rfl, h1, h2⟩
  refine o_nil ?_
  refine h_next (fun _ h => (h.sort (by repeat constructor)).fewer (hx1.le)) ?_
  refine h_go [3] (by kernel_rfl) rfl (TWHs.cons ?_ TWHs.nil)
  refine h_op #[true, true, true, true, false] rfl rfl ?_
  refine o_callI trivial rfl Tryz.call54 rfl (rAdd8_any p (-q) _ _ _ _ (ha.le hx1.le) (hb.le hx1.le) h1 h2 hp hq.neg) ?_
  rintro _ I2 hx2 ⟨u3, u4, rfl, h3, h4⟩
  refine o_nil ?_
  refine h_next (fun _ h => (h.sort (by repeat constructor)).fewer ((hx1.le).trans hx2.le)) ?_
  refine h_go [4] (by kernel_rfl) rfl (TWHs.cons ?_ TWHs.nil)
  refine h_op #[true, true, true, true, true] rfl rfl ?_
  refine o_store trivial rfl rfl rfl Tryz.sizeOf33 rfl (by first | rfl | (repeat' (first | exact rfl | exact one_nil | refine one_cons ?_ ?_ | exact (Ws.cells1 (by assumption)).2 | exact (Slc.cells1 (by assumption)).2))) (by repeat constructor) (by repeat constructor) ?_
  refine o_nil ?_
  refine h_next (fun _ h => (h.sort (by repeat constructor)).fewer ((hx1.le).trans hx2.le)) ?_
  refine h_end (by kernel_rfl) ?_
  refine then_c (c_ret ?_)
  refine retR rfl (.agg Tryz.isAgg33 Tryz.sizeOf33 rfl (by repeat constructor) rfl .nil) ?_
  rw [← Rat.sub_eq_add_neg] at h3 h4
  refine leaf (hx1.trans hx2 (Nat.le_refl _)) (List.nil_sublist _) ⟨u3, u4, ?_, h3, h4⟩
  rw [← Rat.sub_eq_add_neg]; rfl
theorem rMul8_any (p q : Rat) (va vb vc vd : Value) {I : Hp} (ha : Ws I va (natW p.num.natAbs)) (hb : Ws I vb (natW p.den)) (hc : Ws I vc (natW q.num.natAbs)) (hd : Ws I vd (natW q.den)) (hp : Few 1400 p) (hq : Few 1400 q) : Fun Tryz.prog 56 [.agg #[.bool (decide (p.num < 0)), va, vb], .agg #[.bool (decide (q.num < 0)), vc, vd]] I [] (fun v I' _ => RatV I' v (p * q)) := by
  have hl1 := natW_few hp.num (Nat.le_refl _)
  have hl2 := natW_few hp.den (Nat.le_refl _)
  have hl3 := natW_few hq.num (Nat.le_refl _)
  have hl4 := natW_few hq.den (Nat.le_refl _)
  intro w hw
  refine enter2 _ Tryz.func56 rfl Tryz.ntmps56 rfl ?_ hw
  refine c_seq (c_region ?_)
  refine o_box trivial rfl rfl rfl (fun b2 => ?_)
  refine o_box trivial rfl rfl rfl (fun b3 => ?_)
  refine o_alloc trivial rfl Tryz.zeroValue33 rfl (fun b4 => ?_)
  refine o_nil (then_c (c_seq (c_region ?_)))
  refine o_loadA trivial rfl Tryz.isAgg33 Tryz.sizeOf33 rfl (by repeat constructor) (by repeat constructor) ?_
  refine o_callI trivial rfl Tryz.call33 rfl (rFixQ_any p _ _ ha hb (hp.le (by decide))) ?_
  rintro _ I1 hx1 ⟨n1, d1, rfl, hn1, hd1⟩
  refine o_alloc trivial rfl Tryz.zeroValue33 rfl (fun b5 => ?_)
  refine o_store trivial rfl rfl rfl Tryz.sizeOf33 rfl (by first | rfl | (repeat' (first | exact rfl | exact one_nil | refine one_cons ?_ ?_ | exact (Ws.cells1 (by assumption)).2 | exact (Slc.cells1 (by assumption)).2))) (by repeat constructor) (by repeat constructor) ?_
  refine o_nil (then_c (c_seq (c_region ?_)))
  refine o_loadA trivial rfl Tryz.isAgg33 Tryz.sizeOf33 rfl (by repeat constructor) (by repeat constructor) ?_
  refine o_callI trivial rfl Tryz.call33 rfl (rFixQ_any q _ _ (hc.le hx1.le) (hd.le hx1.le) (hq.le (by decide))) ?_
  rintro _ I2 hx2 ⟨n2, d2, rfl, hn2, hd2⟩
  refine o_alloc trivial rfl Tryz.zeroValue33 rfl (fun b6 => ?_)
  refine o_store trivial rfl rfl rfl Tryz.sizeOf33 rfl (by first | rfl | (repeat' (first | exact rfl | exact one_nil | refine one_cons ?_ ?_ | exact (Ws.cells1 (by assumption)).2 | exact (Slc.cells1 (by assumption)).2))) (by repeat constructor) (by repeat constructor) ?_
  refine o_nil (then_c (c_seq ?_))
  refine h_beginB (m := 18) [.box b5 _, .box b6 _] (by repeat constructor) (by kernel_rfl) rfl ?_
  refine' h_take (i := 0) #[true, false, false, false, false, false, false, false, false, false, false, false, false, false, false, false, false, false] rfl rfl rfl (by kernel_rfl) (by kernel_rfl) (by kernel_rfl) rfl (qp_then qp_bp) (fun _ h => (h.sort (by repeat constructor)).fewer (Hp.Le.refl _)) ?hh0 ?kk0
  case hh0 =>
   refine o_fieldAddr (T := 4) (off := 0) trivial rfl Tryz.underlying33 rfl rfl rfl Tryz.sizeOf4 rfl rfl ?_
   refine o_nil ?_
   exact ⟨fun _ _ ha _ => ha⟩
  refine' h_take (i := 1) #[true, true, false, false, false, false, false, false, false, false, false, false, false, false, false, false, false, false] rfl rfl rfl (by kernel_rfl) (by kernel_rfl) (by kernel_rfl) rfl (qp_then qp_bp) (fun _ h => (h.sort (by repeat constructor)).fewer (Hp.Le.refl _)) ?hh1 ?kk1
  case hh1 =>
   refine o_load1 trivial rfl Tryz.isAgg4 rfl (by repeat constructor) (by repeat constructor) ?_
   refine o_nil ?_
   exact ⟨fun _ _ ha _ => ha⟩
  refine' h_take (i := 2) #[true, true, true, false, false, false, false, false, false, false, false, false, false, false, false, false, false, false] rfl rfl rfl (by kernel_rfl) (by kernel_rfl) (by kernel_rfl) rfl (qp_then qp_bp) (fun _ h => (h.sort (by repeat constructor)).fewer (Hp.Le.refl _)) ?hh2 ?kk2
  case hh2 =>
   refine o_fieldAddr (T := 4) (off := 0) trivial rfl Tryz.underlying33 rfl rfl rfl Tryz.sizeOf4 rfl rfl ?_
   refine o_nil ?_
   exact ⟨fun _ _ ha _ => ha⟩
  refine' h_take (i := 3) #[true, true, true, true, false, false, false, false, false, false, false, false, false, false, false, false, false, false] rfl rfl rfl (by kernel_rfl) (by kernel_rfl) (by kernel_rfl) rfl (qp_then qp_bp) (fun _ h => (h.sort (by repeat constructor)).fewer (Hp.Le.refl _)) ?hh3 ?kk3
  case hh3 =>
   refine o_load1 trivial rfl Tryz.isAgg4 rfl (by repeat constructor) (by repeat constructor) ?_
   refine o_nil ?_
   exact ⟨fun _ _ ha _ => ha⟩
  refine' h_take (i := 4) #[true, true, true, true, true, false, false, false, false, false, false, false, false, false, false, false, false, false] rfl rfl rfl (by kernel_rfl) (by kernel_rfl) (by kernel_rfl) rfl (qp_then qp_bp) (fun _ h => (h.sort (by repeat constructor)).fewer (Hp.Le.refl _)) ?hh4 ?kk4
  case hh4 =>
   refine o_neqB trivial rfl rfl rfl Tryz.underlying4 ?_
   refine o_nil ?_
   exact ⟨fun _ _ ha _ => ha⟩
  refine' h_take (i := 5) #[true, true, true, true, true, true, false, false, false, false, false, false, false, false, false, false, false, false] rfl rfl rfl (by kernel_rfl) (by kernel_rfl) (by kernel_rfl) rfl (qp_then qp_bp) (fun _ h => (h.sort (by repeat constructor)).fewer (Hp.Le.refl _)) ?hh5 ?kk5
  case hh5 =>
   refine o_fieldAddr (T := 31) (off := 1) trivial rfl Tryz.underlying33 rfl rfl rfl Tryz.sizeOf31 rfl rfl ?_
   refine o_nil ?_
   exact ⟨fun _ _ ha _ => ha⟩
  refine' h_take (i := 6) #[true, true, true, true, true, true, true, false, false, false, false, false, false, false, false, false, false, false] rfl rfl rfl (by kernel_rfl) (by kernel_rfl) (by kernel_rfl) rfl (qp_then qp_bp) (fun _ h => (h.sort (by repeat constructor)).fewer (Hp.Le.refl _)) ?hh6 ?kk6
  case hh6 =>
   refine o_load1 trivial rfl Tryz.isAgg31 rfl (by repeat constructor) (by repeat constructor) ?_
   refine o_nil ?_
   exact ⟨fun _ _ ha _ => ha⟩
  refine' h_take (i := 7) #[true, true, true, true, true, true, true, true, false, false, false, false, false, false, false, false, false, false] rfl rfl rfl (by kernel_rfl) (by kernel_rfl) (by kernel_rfl) rfl (qp_then qp_bp) (fun _ h => (h.sort (by repeat constructor)).fewer (Hp.Le.refl _)) ?hh7 ?kk7
  case hh7 =>
   refine o_fieldAddr (T := 31) (off := 1) trivial rfl Tryz.underlying33 rfl rfl rfl Tryz.sizeOf31 rfl rfl ?_
   refine o_nil ?_
   exact ⟨fun _ _ ha _ => ha⟩
  refine' h_take (i := 8) #[true, true, true, true, true, true, true, true, true, false, false, false, false, false, false, false, false, false] rfl rfl rfl (by kernel_rfl) (by kernel_rfl) (by kernel_rfl) rfl (qp_then qp_bp) (fun _ h => (h.sort (by repeat constructor)).fewer (Hp.Le.refl _)) ?hh8 ?kk8
  case hh8 =>
   refine o_load1 trivial rfl Tryz.isAgg31 rfl (by repeat constructor) (by repeat constructor) ?_
   refine o_nil ?_
   exact ⟨fun _ _ ha _ => ha⟩
  refine' h_take (i := 11) #[true, true, true, true, true, true, true, true, true, false, false, true, false, false, false, false, false, false] rfl rfl rfl (by kernel_rfl) (by kernel_rfl) (by kernel_rfl) rfl (qp_then qp_bp) (fun _ h => (h.sort (by repeat constructor)).fewer (Hp.Le.refl _)) ?hh9 ?kk9
  case hh9 =>
   refine o_fieldAddr (T := 31) (off := 2) trivial rfl Tryz.underlying33 rfl rfl rfl Tryz.sizeOf31 rfl rfl ?_
   refine o_nil ?_
   exact ⟨fun _ _ ha _ => ha⟩
  refine' h_take (i := 12) #[true, true, true, true, true, true, true, true, true, false, false, true, true, false, false, false, false, false] rfl rfl rfl (by kernel_rfl) (by kernel_rfl) (by kernel_rfl) rfl (qp_then qp_bp) (fun _ h => (h.sort (by repeat constructor)).fewer (Hp.Le.refl _)) ?hh10 ?kk10
  case hh10 =>
   refine o_load1 trivial rfl Tryz.isAgg31 rfl (by repeat constructor) (by repeat constructor) ?_
   refine o_nil ?_
   exact ⟨fun _ _ ha _ => ha⟩
  refine' h_take (i := 13) #[true, true, true, true, true, true, true, true, true, false, false, true, true, true, false, false, false, false] rfl rfl rfl (by kernel_rfl) (by kernel_rfl) (by kernel_rfl) rfl (qp_then qp_bp) (fun _ h => (h.sort (by repeat constructor)).fewer (Hp.Le.refl _)) ?hh11 ?kk11
  case hh11 =>
   refine o_fieldAddr (T := 31) (off := 2) trivial rfl Tryz.underlying33 rfl rfl rfl Tryz.sizeOf31 rfl rfl ?_
   refine o_nil ?_
   exact ⟨fun _ _ ha _ => ha⟩
  refine' h_take (i := 14) #[true, true, true, true, true, true, true, true, true, false, false, true, true, true, true, false, false, false] rfl rfl rfl (by kernel_rfl) (by kernel_rfl) (by kernel_rfl) rfl (qp_then qp_bp) (fun _ h => (h.sort (by repeat constructor)).fewer (Hp.Le.refl _)) ?hh12 ?kk12
  case hh12 =>
   refine o_load1 trivial rfl Tryz.isAgg31 rfl (by repeat constructor) (by repeat constructor) ?_
   refine o_nil ?_
   exact ⟨fun _ _ ha _ => ha⟩
  refine h_go [9] (by kernel_rfl) rfl (TWHs.cons ?_ TWHs.nil)
  refine h_op #[true, true, true, true, true, true, true, true, true, true, false, true, true, true, true, false, false, false] rfl rfl ?_
  refine o_callI trivial rfl Tryz.call81 rfl (rMul_any _ _ _ _ (hn1.le hx2.le) hn2 (by omega) (by omega)) ?_
  rintro u1 I3 hx3 hs3
  refine o_nil ?_
  refine h_next (fun _ h => (h.sort (by repeat constructor)).fewer (hx3.le)) ?_
  refine' h_take (i := 10) #[true, true, true, true, true, true, true, true, true, true, true, true, true, true, true, false, false, false] rfl rfl rfl (by kernel_rfl) (by kernel_rfl) (by kernel_rfl) rfl (qp_then qp_bp) (fun _ h => (h.sort (by repeat constructor)).fewer (hx3.le)) ?hh13 ?kk13
  case hh13 =>
   refine o_buildS trivial rfl (bld93) rfl (.cons rfl rfl rfl (by repeat constructor) (.cons rfl (by first | exact (Ws.cells1 (by assumption)).1 | exact (Slc.cells1 (by assumption)).1 | rfl) (by rfl) (by repeat constructor) .nil)) ?_
   refine o_nil ?_
   exact ⟨fun _ _ ha _ => ha⟩
  refine h_go [15] (by kernel_rfl) rfl (TWHs.cons ?_ TWHs.nil)
  refine h_op #[true, true, true, true, true, true, true, true, true, true, true, true, true, true, true, true, false, false] rfl rfl ?_
  refine o_callI trivial rfl Tryz.call81 rfl (rMul_any _ _ _ _ (hd1.le (hx2.le.trans hx3.le)) (hd2.le hx3.le) (by omega) (by omega)) ?_
  rintro u2 I4 hx4 hs4
  refine o_nil ?_
  refine h_next (fun _ h => (h.sort (by repeat constructor)).fewer ((hx3.le).trans hx4.le)) ?_
  refine h_go [16] (by kernel_rfl) rfl (TWHs.cons ?_ TWHs.nil)
  refine h_op #[true, true, true, true, true, true, true, true, true, true, true, true, true, true, true, true, true, false] rfl rfl ?_
  refine o_callI trivial rfl Tryz.call44 rfl (rlow_any (decide (p.num < 0) != decide (q.num < 0)) _ _ _ _ (hs3.le hx4.le) hs4 (by rw [val_natW, val_natW]; exact Nat.le_trans (natW_mul_len _ _) (by omega)) (by rw [val_natW, val_natW]; exact Nat.le_trans (natW_mul_len _ _) (by omega))) ?_
  rintro _ I5 hx5 ⟨u3, u4, rfl, h1, h2⟩
  refine o_nil ?_
  refine h_next (fun _ h => (h.sort (by repeat constructor)).fewer (((hx3.le).trans hx4.le).trans hx5.le)) ?_
  refine h_go [17] (by kernel_rfl) rfl (TWHs.cons ?_ TWHs.nil)
  refine h_op #[true, true, true, true, true, true, true, true, true, true, true, true, true, true, true, true, true, true] rfl rfl ?_
  refine o_store trivial rfl rfl rfl Tryz.sizeOf33 rfl (by first | rfl | (repeat' (first | exact rfl | exact one_nil | refine one_cons ?_ ?_ | exact (Ws.cells1 (by assumption)).2 | exact (Slc.cells1 (by assumption)).2))) (by repeat constructor) (by repeat constructor) ?_
  refine o_nil ?_
  refine h_next (fun _ h => (h.sort (by repeat constructor)).fewer (((hx3.le).trans hx4.le).trans hx5.le)) ?_
  refine h_end (by kernel_rfl) ?_
  refine then_c (c_ret ?_)
  refine retR rfl (.agg Tryz.isAgg33 Tryz.sizeOf33 rfl (by repeat constructor) rfl .nil) ?_
  rw [val_natW, val_natW, val_natW, val_natW, val_natW, val_natW, lowQ_mul] at h1 h2
  refine leaf (hx1.trans (hx2.trans (hx3.trans (hx4.trans hx5 (Nat.le_refl _)) (Nat.le_refl _)) (Nat.le_refl _)) (Nat.le_refl _)) (List.nil_sublist _) ⟨u3, u4, ?_, h1, h2⟩
  rw [val_natW, val_natW, val_natW, val_natW, val_natW, val_natW, lowQ_mul]; rfl
end Go.Proofs.YtjgbjaaekknenaaGreat
/-
  The document's answers for layer 8: quotients, powers, lists.
-/
namespace Go.Tw
open Go
set_option linter.unusedVariables false
set_option linter.unusedSimpArgs false
set_option linter.unnecessarySimpa false
set_option maxHeartbeats 1000000
theorem inv_num_neg {q : Rat} : decide ((q⁻¹).num < 0) = decide (q.num < 0) := by
  rw [Rat.num_inv, decide_eq_decide]
  have := q.den_pos
  by_cases h : q.num < 0
  · have e : q.num.sign = -1 := Int.sign_eq_neg_one_of_neg h
    rw [e]; omega
  · by_cases h0 : q.num = 0
    · rw [h0]; simp
    · have e : q.num.sign = 1 := Int.sign_eq_one_of_pos (by omega)
      rw [e]; omega
theorem inv_num_abs {q : Rat} (h : q ≠ 0) : (q⁻¹).num.natAbs = q.den := by
  have hn : q.num ≠ 0 := fun e => h (Rat.num_eq_zero.1 e)
  rw [Rat.num_inv, Int.natAbs_mul, Int.natAbs_natCast]
  rcases Int.lt_or_gt_of_ne hn with h1 | h1
  · rw [Int.sign_eq_neg_one_of_neg h1]; simp
  · rw [Int.sign_eq_one_of_pos h1]; simp
theorem inv_den {q : Rat} (h : q ≠ 0) : (q⁻¹).den = q.num.natAbs := by
  have hn : q.num ≠ 0 := fun e => h (Rat.num_eq_zero.1 e)
  rw [Rat.den_inv, if_neg hn]
theorem Few.inv {k : Nat} {q : Rat} (h : Few k q) (h0 : q ≠ 0) : Few k q⁻¹ := ⟨by rw [inv_num_abs h0]; exact h.den, by rw [inv_den h0]; exact h.num⟩
theorem Few.pow {k : Nat} {q : Rat} (h : Few k q) (m : Nat) : Few (k * m + 1) (q ^ m) := by
  have key : ∀ a : Nat, a < 4294967296 ^ k → a ^ m < 4294967296 ^ (k * m + 1) := fun a ha => by
    have h2 : a ^ m ≤ (4294967296 ^ k) ^ m := Nat.pow_le_pow_left (Nat.le_of_lt ha) m
    rw [← Nat.pow_mul] at h2
    exact Nat.lt_of_le_of_lt h2 (Nat.pow_lt_pow_right (by decide) (Nat.lt_succ_self _))
  exact ⟨by rw [Rat.num_pow, Int.natAbs_pow]; exact key _ h.num, by rw [Rat.den_pow]; exact key _ h.den⟩
/-- What is multiplied for a power. -/
def powX (q : Rat) (n : Int) : Rat := if n < 0 then q⁻¹ else q
theorem powX_pow (q : Rat) (n : Int) : powX q n ^ n.natAbs = q ^ n := by
  unfold powX
  by_cases h : n < 0
  · rw [if_pos h]
    have e : n = -((n.natAbs : Nat) : Int) := by omega
    conv => rhs; rw [e]
    rw [Rat.zpow_neg, Rat.zpow_natCast]
    generalize n.natAbs = k
    induction k with
    | zero => rw [Rat.pow_zero, Rat.pow_zero]; exact (Rat.inv_eq_of_mul_eq_one (Rat.mul_one 1)).symm
    | succ k ih => rw [Rat.pow_succ, Rat.pow_succ, ih, Rat.inv_mul_rev, Rat.mul_comm]
  · rw [if_neg h]
    have e : n = ((n.natAbs : Nat) : Int) := by omega
    conv => rhs; rw [e]
    rw [Rat.zpow_natCast]
theorem rat_eq_iff (p q : Rat) : (decide (decide (p.num < 0) = decide (q.num < 0)) && decide (natW p.num.natAbs = natW q.num.natAbs) && decide (natW p.den = natW q.den)) = decide (p = q) := by
  rw [Bool.eq_iff_iff]
  simp only [Bool.and_eq_true, decide_eq_true_eq]
  constructor
  · rintro ⟨⟨h1, h2⟩, h3⟩
    have e2 := congrArg val h2
    have e3 := congrArg val h3
    rw [val_natW, val_natW] at e2 e3
    rw [decide_eq_decide] at h1
    exact Rat.ext (by omega) e3
  · rintro rfl
    exact ⟨⟨rfl, rfl⟩, rfl⟩
theorem RV.at_ {I : Hp} {v : Value} {rs : List RV} (h : Slc I 3 v (rcs rs)) {i : Nat} {r : RV} (hr : rs[i]? = some r) : ∀ k y, ([.bool (decide (r.q.num < 0)), r.vn, r.vd] : List Value)[k]? = some y → I.cell? ⟨slcB v, slcO v + i * 3 + k, none⟩ = some y :=
  h.cells i _ (by unfold rcs; rw [List.getElem?_map, hr]; rfl)
end Go.Tw
namespace Go.Proofs.YtjgbjaaekknenaaGreat
open Go Go.Tw
set_option linter.unusedVariables false
set_option linter.unusedSimpArgs false
set_option linter.unnecessarySimpa false
set_option maxHeartbeats 1000000
theorem rTurned_any (q : Rat) (va vb : Value) {I : Hp} (ha : Ws I va (natW q.num.natAbs)) (hb : Ws I vb (natW q.den)) (hk : Few 3000 q) (h0 : q ≠ 0) : Fun Tryz.prog 83 [.agg #[.bool (decide (q.num < 0)), va, vb]] I [] (fun v I' _ => RatV I' v q⁻¹) := by
  intro w hw
  refine enter1 _ Tryz.func83 rfl Tryz.ntmps83 rfl ?_ hw
  refine c_seq (c_region ?_)
  refine o_box trivial rfl rfl rfl (fun b1 => ?_)
  refine o_alloc trivial rfl Tryz.zeroValue33 rfl (fun b2 => ?_)
  refine o_nil (then_c (c_seq (c_region ?_)))
  refine o_loadA trivial rfl Tryz.isAgg33 Tryz.sizeOf33 rfl (by repeat constructor) (by repeat constructor) ?_
  refine o_callI trivial rfl Tryz.call33 rfl (rFixQ_any q _ _ ha hb hk) ?_
  rintro _ I1 hx1 ⟨n1, d1, rfl, hn1, hd1⟩
  refine o_alloc trivial rfl Tryz.zeroValue33 rfl (fun b3 => ?_)
  refine o_store trivial rfl rfl rfl Tryz.sizeOf33 rfl (by first | rfl | (repeat' (first | exact rfl | exact one_nil | refine one_cons ?_ ?_ | exact (Ws.cells1 (by assumption)).2 | exact (Slc.cells1 (by assumption)).2))) (by repeat constructor) (by repeat constructor) ?_
  refine o_nil (then_c (c_seq (c_region ?_)))
  refine o_fieldAddr (T := 4) (off := 0) trivial rfl Tryz.underlying33 rfl rfl rfl Tryz.sizeOf4 rfl rfl ?_
  refine o_load1 trivial rfl Tryz.isAgg4 rfl (by repeat constructor) (by repeat constructor) ?_
  refine o_fieldAddr (T := 31) (off := 2) trivial rfl Tryz.underlying33 rfl rfl rfl Tryz.sizeOf31 rfl rfl ?_
  refine o_load1 trivial rfl Tryz.isAgg31 rfl (by repeat constructor) (by repeat constructor) ?_
  refine o_fieldAddr (T := 31) (off := 1) trivial rfl Tryz.underlying33 rfl rfl rfl Tryz.sizeOf31 rfl rfl ?_
  refine o_load1 trivial rfl Tryz.isAgg31 rfl (by repeat constructor) (by repeat constructor) ?_
  refine o_buildS trivial rfl (bld33) rfl (.cons rfl rfl rfl (by repeat constructor) (.cons rfl (by first | exact (Ws.cells1 (by assumption)).1 | exact (Slc.cells1 (by assumption)).1 | rfl) (by rfl) (by repeat constructor) (.cons rfl (by first | exact (Ws.cells1 (by assumption)).1 | exact (Slc.cells1 (by assumption)).1 | rfl) (by rfl) (by repeat constructor) .nil))) ?_
  refine o_store trivial rfl rfl rfl Tryz.sizeOf33 rfl (by first | rfl | (repeat' (first | exact rfl | exact one_nil | refine one_cons ?_ ?_ | exact (Ws.cells1 (by assumption)).2 | exact (Slc.cells1 (by assumption)).2))) (by repeat constructor) (by repeat constructor) ?_
  refine o_nil (then_c (c_ret ?_))
  refine retR rfl (.agg Tryz.isAgg33 Tryz.sizeOf33 rfl (by repeat constructor) rfl .nil) ?_
  refine leaf hx1 (List.nil_sublist _) ⟨d1, n1, ?_, by rw [inv_num_abs h0]; exact hd1, by rw [inv_den h0]; exact hn1⟩
  rw [inv_num_neg]; rfl
theorem rZero_any (q : Rat) (va vb : Value) {I : Hp} (ha : Ws I va (natW q.num.natAbs)) (hb : Ws I vb (natW q.den)) (hk : Few 3000 q) : Fun Tryz.prog 82 [.agg #[.bool (decide (q.num < 0)), va, vb]] I [] (fun v _ _ => v = .bool (decide (q = 0))) := by
  intro w hw
  refine enter1 _ Tryz.func82 rfl Tryz.ntmps82 rfl ?_ hw
  refine c_seq (c_region ?_)
  refine o_box trivial rfl rfl rfl (fun b1 => ?_)
  refine o_pv trivial rfl rfl ?_
  refine o_nil (then_c (c_seq (c_region ?_)))
  refine o_loadA trivial rfl Tryz.isAgg33 Tryz.sizeOf33 rfl (by repeat constructor) (by repeat constructor) ?_
  refine o_callI trivial rfl Tryz.call33 rfl (rFixQ_any q _ _ ha hb hk) ?_
  rintro _ I1 hx1 ⟨n1, d1, rfl, hn1, hd1⟩
  refine o_alloc trivial rfl Tryz.zeroValue33 rfl (fun b3 => ?_)
  refine o_store trivial rfl rfl rfl Tryz.sizeOf33 rfl (by first | rfl | (repeat' (first | exact rfl | exact one_nil | refine one_cons ?_ ?_ | exact (Ws.cells1 (by assumption)).2 | exact (Slc.cells1 (by assumption)).2))) (by repeat constructor) (by repeat constructor) ?_
  refine o_nil (then_c (c_seq (c_region ?_)))
  refine o_fieldAddr (T := 31) (off := 1) trivial rfl Tryz.underlying33 rfl rfl rfl Tryz.sizeOf31 rfl rfl ?_
  refine o_load1 trivial rfl Tryz.isAgg31 rfl (by repeat constructor) (by repeat constructor) ?_
  refine o_lenW trivial rfl Tryz.underlying31 rfl (hn1) ?_
  iterate 2 refine o_pv trivial rfl rfl ?_
  refine o_nil (then_c (c_ret ?_))
  refine ret1 rfl rfl ?_
  refine leaf hx1 (List.nil_sublist _) (congrArg Value.bool ?_)
  rw [Bool.eq_iff_iff, beq_iff_eq, decide_eq_true_eq, rat_zero]
  constructor
  · intro h; have := natW_len_zero.1 (show (natW q.num.natAbs).length = 0 by omega); omega
  · intro h; rw [h, Int.natAbs_zero, natW_zero]; rfl
theorem rDiv8_any (p q : Rat) (va vb vc vd : Value) {I : Hp} (ha : Ws I va (natW p.num.natAbs)) (hb : Ws I vb (natW p.den)) (hc : Ws I vc (natW q.num.natAbs)) (hd : Ws I vd (natW q.den)) (hp : Few 1400 p) (hq : Few 1400 q) : Fun Tryz.prog 57 [.agg #[.bool (decide (p.num < 0)), va, vb], .agg #[.bool (decide (q.num < 0)), vc, vd]] I [] (fun v I' _ => okR (q = 0) (p / q) I' v) := by
  intro w hw
  refine enter2 _ Tryz.func57 rfl Tryz.ntmps57 rfl ?_ hw
  refine c_seq (c_region ?_)
  refine o_box trivial rfl rfl rfl (fun b2 => ?_)
  refine o_box trivial rfl rfl rfl (fun b3 => ?_)
  refine o_alloc trivial rfl Tryz.zeroValue33 rfl (fun b4 => ?_)
  refine o_pv trivial rfl rfl ?_
  refine o_nil (then_c (c_seq (c_region ?_)))
  refine o_loadA trivial rfl Tryz.isAgg33 Tryz.sizeOf33 rfl (by repeat constructor) (by repeat constructor) ?_
  refine o_callQ trivial rfl Tryz.call82 rfl (rZero_any q _ _ hc hd (hq.le (by decide))) ?_
  refine o_pv trivial rfl rfl ?_
  refine o_nil (then_c (c_seq (c_seq (c_region ?_))))
  refine o_pv trivial rfl rfl ?_
  refine o_nil (then_c ?_)
  refine c_cond rfl (fun h1 => ?_) (fun h1 => ?_)
  ·
   have f1 := h1
   try simp only [bl] at f1
   refine c_seq (c_region ?_)
   refine o_buildS trivial rfl (bld33) rfl .nil ?_
   refine o_store trivial rfl rfl rfl Tryz.sizeOf33 rfl (by first | rfl | (repeat' (first | exact rfl | exact one_nil | refine one_cons ?_ ?_ | exact (Ws.cells1 (by assumption)).2 | exact (Slc.cells1 (by assumption)).2))) (by repeat constructor) (by repeat constructor) ?_
   refine o_pv trivial rfl rfl ?_
   refine o_nil (then_c (c_ret (then_r ?_)))
   refine retR rfl (.agg Tryz.isAgg33 Tryz.sizeOf33 rfl (by repeat constructor) rfl (.tmp rfl .nil)) ?_
   refine leaf0 ⟨false, .slice none 0 0, .slice none 0 0, [], [], ?_, Ws.nil _, Ws.nil _, fun h => absurd f1 h⟩; rw [if_pos f1]; rfl
  ·
   have f1 := h1
   try simp only [bl] at f1
   refine c_skip (then_c (c_seq ?_))
   refine h_beginB (m := 6) [.box b2 _, .box b3 _] (by repeat constructor) (by kernel_rfl) rfl ?_
   refine' h_take (i := 0) #[true, false, false, false, false, false] rfl rfl rfl (by kernel_rfl) (by kernel_rfl) (by kernel_rfl) rfl (qp_then qp_bp) (fun _ h => (h.sort (by repeat constructor)).fewer (Hp.Le.refl _)) ?hh0 ?kk0
   case hh0 =>
    refine o_loadA trivial rfl Tryz.isAgg33 Tryz.sizeOf33 rfl (by repeat constructor) (by repeat constructor) ?_
    refine o_nil ?_
    exact ⟨fun _ _ ha _ => ha⟩
   refine' h_take (i := 1) #[true, true, false, false, false, false] rfl rfl rfl (by kernel_rfl) (by kernel_rfl) (by kernel_rfl) rfl (qp_then qp_bp) (fun _ h => (h.sort (by repeat constructor)).fewer (Hp.Le.refl _)) ?hh1 ?kk1
   case hh1 =>
    refine o_loadA trivial rfl Tryz.isAgg33 Tryz.sizeOf33 rfl (by repeat constructor) (by repeat constructor) ?_
    refine o_nil ?_
    exact ⟨fun _ _ ha _ => ha⟩
   refine h_go [2] (by kernel_rfl) rfl (TWHs.cons ?_ TWHs.nil)
   refine h_op #[true, true, true, false, false, false] rfl rfl ?_
   refine o_callI trivial rfl Tryz.call83 rfl (rTurned_any q _ _ hc hd (hq.le (by decide)) f1) ?_
   rintro _ I1 hx1 ⟨u1, u2, rfl, h1, h2⟩
   refine o_nil ?_
   refine h_next (fun _ h => (h.sort (by repeat constructor)).fewer (hx1.le)) ?_
   refine h_go [3] (by kernel_rfl) rfl (TWHs.cons ?_ TWHs.nil)
   refine h_op #[true, true, true, true, false, false] rfl rfl ?_
   refine o_callI trivial rfl Tryz.call56 rfl (rMul8_any p q⁻¹ _ _ _ _ (ha.le hx1.le) (hb.le hx1.le) h1 h2 hp (hq.inv f1)) ?_
   rintro _ I2 hx2 ⟨u3, u4, rfl, h3, h4⟩
   refine o_nil ?_
   refine h_next (fun _ h => (h.sort (by repeat constructor)).fewer ((hx1.le).trans hx2.le)) ?_
   refine h_go [4] (by kernel_rfl) rfl (TWHs.cons ?_ TWHs.nil)
   refine h_op #[true, true, true, true, true, false] rfl rfl ?_
   refine o_store trivial rfl rfl rfl Tryz.sizeOf33 rfl (by first | rfl | (repeat' (first | exact rfl | exact one_nil | refine one_cons ?_ ?_ | exact (Ws.cells1 (by assumption)).2 | exact (Slc.cells1 (by assumption)).2))) (by repeat constructor) (by repeat constructor) ?_
   refine o_nil ?_
   refine h_next (fun _ h => (h.sort (by repeat constructor)).fewer ((hx1.le).trans hx2.le)) ?_
   refine' h_take (i := 5) #[true, true, true, true, true, true] rfl rfl rfl (by kernel_rfl) (by kernel_rfl) (by kernel_rfl) rfl (qp_then qp_bp) (fun _ h => (h.sort (by repeat constructor)).fewer ((hx1.le).trans hx2.le)) ?hh2 ?kk2
   case hh2 =>
    refine o_pv trivial rfl rfl ?_
    refine o_nil ?_
    exact ⟨fun _ _ ha _ => ha⟩
   refine h_end (by kernel_rfl) ?_
   refine then_c (c_ret ?_)
   refine retR rfl (.agg Tryz.isAgg33 Tryz.sizeOf33 rfl (by repeat constructor) rfl (.tmp rfl .nil)) ?_
   rw [← Rat.div_def] at h3 h4
   refine leaf (hx1.trans hx2 (Nat.le_refl _)) (List.nil_sublist _) ⟨_, u3, u4, _, _, ?_, h3, h4, fun _ => ⟨rfl, rfl, rfl⟩⟩
   rw [← Rat.div_def, if_neg f1]; rfl
theorem rPow8_any (q : Rat) (n : Int) (va vb : Value) {I : Hp} {c : Nat} (ha : Ws I va (natW q.num.natAbs)) (hb : Ws I vb (natW q.den)) (hc : Few c q) (hn : -64 ≤ n ∧ n ≤ 64) (hc1 : c ≤ 1300) (hcn : c * n.natAbs ≤ 1300) : Fun Tryz.prog 59 [.agg #[.bool (decide (q.num < 0)), va, vb], .int .i64 n] I [] (fun v I' _ => okR (n < 0 ∧ q = 0) (q ^ n) I' v) := by
  intro w hw
  refine enter2 _ Tryz.func59 rfl Tryz.ntmps59 rfl ?_ hw
  refine c_seq (c_region ?_)
  refine o_box trivial rfl rfl rfl (fun b2 => ?_)
  refine o_alloc trivial rfl Tryz.zeroValue33 rfl (fun b4 => ?_)
  refine o_pv trivial rfl rfl ?_
  refine o_nil (then_c (c_seq (c_seq (c_region ?_))))
  iterate 2 refine o_pv trivial rfl rfl ?_
  refine' o_or trivial trivial rfl rfl rfl rfl rfl rfl rfl rfl (fun hb12 => ?_) ?_
  rotate_left
  ·
   iterate 2 refine o_pv (wants_some rfl rfl hb12) rfl rfl ?_
   refine o_nil ?_
   exact joins rfl
  refine o_nil (then_c ?_)
  refine c_cond rfl (fun h1 => ?_) (fun h1 => ?_)
  ·
   have f1 := h1
   try simp only [bl] at f1
   exfalso; omega
  ·
   have f1 := h1
   try simp only [bl] at f1
   refine c_skip (then_c (c_seq (c_region ?_)))
   refine o_loadA trivial rfl Tryz.isAgg33 Tryz.sizeOf33 rfl (by repeat constructor) (by repeat constructor) ?_
   refine o_callQ trivial rfl Tryz.call82 rfl (rZero_any q _ _ ha hb (hc.le (by omega))) ?_
   refine o_pv trivial rfl rfl ?_
   refine o_nil (then_c (c_seq (c_seq (c_region ?_))))
   refine o_pv trivial rfl rfl ?_
   refine' o_and trivial trivial rfl rfl rfl rfl rfl rfl rfl rfl (fun hb20 => ?_) ?_
   rotate_left
   ·
    iterate 2 refine o_pv (wants_some rfl rfl hb20) rfl rfl ?_
    refine o_nil ?_
    exact joins rfl
   refine o_nil (then_c ?_)
   refine c_cond rfl (fun h2 => ?_) (fun h2 => ?_)
   ·
    have f2 := h2
    try simp only [bl] at f2
    have h0 : n < 0 ∧ q = 0 := ⟨f2.2, f2.1⟩
    refine c_seq (c_region ?_)
    refine o_buildS trivial rfl (bld33) rfl .nil ?_
    refine o_store trivial rfl rfl rfl Tryz.sizeOf33 rfl (by first | rfl | (repeat' (first | exact rfl | exact one_nil | refine one_cons ?_ ?_ | exact (Ws.cells1 (by assumption)).2 | exact (Slc.cells1 (by assumption)).2))) (by repeat constructor) (by repeat constructor) ?_
    refine o_pv trivial rfl rfl ?_
    refine o_nil (then_c (c_ret (then_r ?_)))
    refine retR rfl (.agg Tryz.isAgg33 Tryz.sizeOf33 rfl (by repeat constructor) rfl (.tmp rfl .nil)) ?_
    refine leaf0 ⟨false, .slice none 0 0, .slice none 0 0, [], [], ?_, Ws.nil _, Ws.nil _, fun h => absurd h0 h⟩; rw [if_pos h0]; rfl
   ·
    have f2 := h2
    try simp only [bl] at f2
    have h0 : ¬ (n < 0 ∧ q = 0) := by
      rintro ⟨k1, k2⟩
      rcases f2 with f2 | f2
      · exact f2 k2
      · omega
    refine c_skip (then_c (c_seq (c_region ?_)))
    refine o_loadA trivial rfl Tryz.isAgg33 Tryz.sizeOf33 rfl (by repeat constructor) (by repeat constructor) ?_
    refine o_callI trivial rfl Tryz.call33 rfl (rFixQ_any q _ _ ha hb (hc.le (by omega))) ?_
    rintro _ I1 hx1 ⟨n1, d1, rfl, hn1, hd1⟩
    refine o_alloc trivial rfl Tryz.zeroValue33 rfl (fun b7 => ?_)
    refine o_store trivial rfl rfl rfl Tryz.sizeOf33 rfl (by first | rfl | (repeat' (first | exact rfl | exact one_nil | refine one_cons ?_ ?_ | exact (Ws.cells1 (by assumption)).2 | exact (Slc.cells1 (by assumption)).2))) (by repeat constructor) (by repeat constructor) ?_
    refine o_nil (then_c ?_)
    refine c_cut (ι := Value × Value × Hp) [4, 7] (.cons rfl (.cons rfl .nil)) (fun z E0 => (1, .int .i64 (n.natAbs : Nat)) :: E0) (fun z => St w [] z.2.2 [.box b7 (.cells [.bool (decide ((powX q n).num < 0)), z.1, z.2.1].toArray 33 (0, 0)), .box b4 (.cells [.bool false, .slice none 0 0, .slice none 0 0].toArray 33 (0, 0)), .box b2 (.cells [.bool (decide (q.num < 0)), va, vb].toArray 33 (0, 0))]) (fun z => Ws z.2.2 z.1 (natW (powX q n).num.natAbs) ∧ Ws z.2.2 z.2.1 (natW (powX q n).den) ∧ Few c (powX q n) ∧ Ext w.heap.size I z.2.2) ?_ ?_
    ·
     refine c_seq (c_region ?_)
     iterate 2 refine o_pv trivial rfl rfl ?_
     refine o_nil (then_c ?_)
     refine c_cond rfl (fun h3 => ?_) (fun h3 => ?_)
     ·
      have f3 := h3
      try simp only [bl] at f3
      have hq0 : q ≠ 0 := fun e => h0 ⟨f3, e⟩
      have hpx : powX q n = q⁻¹ := if_pos f3
      have hneg : IntKind.i64.wrap (0 - n) = ((n.natAbs : Nat) : Int) := by rw [IntWalk.i64_in _ (by omega)]; omega
      refine c_seq (c_region ?_)
      refine o_loadA trivial rfl Tryz.isAgg33 Tryz.sizeOf33 rfl (by repeat constructor) (by repeat constructor) ?_
      refine o_callI trivial rfl Tryz.call83 rfl (rTurned_any q _ _ (ha.le hx1.le) (hb.le hx1.le) (hc.le (by omega)) hq0) ?_
      rintro _ I9 hx9 ⟨n9, d9, rfl, hn9, hd9⟩
      refine o_store trivial rfl rfl rfl Tryz.sizeOf33 rfl (by first | rfl | (repeat' (first | exact rfl | exact one_nil | refine one_cons ?_ ?_ | exact (Ws.cells1 (by assumption)).2 | exact (Slc.cells1 (by assumption)).2))) (by repeat constructor) (by repeat constructor) ?_
      refine o_nil (then_c (c_region ?_))
      iterate 3 refine o_pv trivial rfl rfl ?_
      refine o_nil ?_
      first | (rw [hpx]; exact meet (n9, d9, I9) (by rw [← hneg]; exact (sub_cons rfl (sub_cons rfl (sub_cons rfl sub_nil)))) (fun _ h => h.sort (by repeat constructor)) ⟨hn9, hd9, hc.inv hq0, hx1.trans hx9 (Nat.le_refl _)⟩) | (rw [hpx]; exact meet (n1, d1, I1) (by rw [← hneg]; exact (sub_cons rfl (sub_cons rfl (sub_cons rfl sub_nil)))) (fun _ h => h.sort (by repeat constructor)) ⟨hn1, hd1, hc, hx1⟩)
     ·
      have f3 := h3
      try simp only [bl] at f3
      have hpx : powX q n = q := if_neg (by omega)
      have hneg : n = ((n.natAbs : Nat) : Int) := by omega
      refine c_skip ?_
      first | (rw [hpx]; exact meet (n9, d9, I9) (by rw [← hneg]; exact (sub_cons rfl (sub_cons rfl (sub_cons rfl sub_nil)))) (fun _ h => h.sort (by repeat constructor)) ⟨hn9, hd9, hc.inv hq0, hx1.trans hx9 (Nat.le_refl _)⟩) | (rw [hpx]; exact meet (n1, d1, I1) (by rw [← hneg]; exact (sub_cons rfl (sub_cons rfl (sub_cons rfl sub_nil)))) (fun _ h => h.sort (by repeat constructor)) ⟨hn1, hd1, hc, hx1⟩)
    ·
     rintro ⟨xn, xd, I2⟩ ⟨hxn, hxd, hxf, hx2⟩
     try dsimp only
     refine c_seq ?_
     simp only at hxn hxd hxf hx2
     refine c_region ?_
     refine o_callI trivial rfl Tryz.call24 rfl (rOf8_any 1 (by decide)) ?_
     rintro _ I3 hx3 ⟨u3, u4, rfl, h3, h4⟩
     refine o_alloc trivial rfl Tryz.zeroValue33 rfl (fun b8 => ?_)
     refine o_store trivial rfl rfl rfl Tryz.sizeOf33 rfl (by first | rfl | (repeat' (first | exact rfl | exact one_nil | refine one_cons ?_ ?_ | exact (Ws.cells1 (by assumption)).2 | exact (Slc.cells1 (by assumption)).2))) (by repeat constructor) (by repeat constructor) ?_
     refine o_nil (then_c (c_seq (c_seq (c_region ?_))))
     refine o_pv trivial rfl rfl ?_
     refine o_nil (then_c (c_block ?_))
     refine c_loop (ι := Nat × Value × Value × Hp) [1, 4, 7, 8] (.cons rfl (.cons rfl (.cons rfl (.cons rfl .nil)))) (fun z => n.natAbs - z.1) (fun z E0 => (9, .int .i64 (z.1 : Nat)) :: E0) (fun z => St w [] z.2.2.2 [.box b8 (.cells [.bool (decide ((powX q n ^ z.1).num < 0)), z.2.1, z.2.2.1].toArray 33 (0, 0)), .box b7 (.cells [.bool (decide ((powX q n).num < 0)), xn, xd].toArray 33 (0, 0)), .box b4 (.cells [.bool false, .slice none 0 0, .slice none 0 0].toArray 33 (0, 0)), .box b2 (.cells [.bool (decide (q.num < 0)), va, vb].toArray 33 (0, 0))]) (fun z => z.1 ≤ n.natAbs ∧ Ws z.2.2.2 z.2.1 (natW (powX q n ^ z.1).num.natAbs) ∧ Ws z.2.2.2 z.2.2.1 (natW (powX q n ^ z.1).den) ∧ Ext w.heap.size I z.2.2.2 ∧ I2.Le z.2.2.2) ((0, u3, u4, I3)) (sub_cons rfl (sub_cons rfl (sub_cons rfl (sub_cons rfl (sub_cons rfl sub_nil))))) (fun _ h => by simp only [Rat.pow_zero]; exact h) (⟨Nat.zero_le _, by simp only [Rat.pow_zero]; exact h3, by simp only [Rat.pow_zero]; exact h4, hx2.trans hx3 (Nat.le_refl _), hx3.le⟩) ?_
     rintro ⟨i, un, ud, I4⟩ ⟨hi, hun, hud, hx4, hle⟩
     try dsimp only
     simp only at hi hun hud hx4 hle
     refine c_seq (c_seq (c_region ?_))
     iterate 3 refine o_pv trivial rfl rfl ?_
     refine o_nil (then_c ?_)
     refine c_cond rfl (fun h4 => ?_) (fun h4 => ?_)
     ·
      have f4 := h4
      try simp only [bl] at f4
      have hif : Few 1400 (powX q n ^ i) := (hxf.pow i).le (by
        have h9 : c * i ≤ c * n.natAbs := Nat.mul_le_mul_left _ hi
        omega)
      refine c_skip (then_c (c_seq (c_block (c_region ?_))))
      iterate 2 refine o_loadA trivial rfl Tryz.isAgg33 Tryz.sizeOf33 rfl (by repeat constructor) (by repeat constructor) ?_
      refine o_callI trivial rfl Tryz.call56 rfl (rMul8_any (powX q n ^ i) (powX q n) _ _ _ _ hun hud (hxn.le hle) (hxd.le hle) hif (hxf.le (by omega))) ?_
      rintro _ I5 hx5 ⟨u5, u6, rfl, h5, h6⟩
      refine o_store trivial rfl rfl rfl Tryz.sizeOf33 rfl (by first | rfl | (repeat' (first | exact rfl | exact one_nil | refine one_cons ?_ ?_ | exact (Ws.cells1 (by assumption)).2 | exact (Slc.cells1 (by assumption)).2))) (by repeat constructor) (by repeat constructor) ?_
      refine o_nil (blk_n (then_c (c_region ?_)))
      refine o_pv trivial rfl rfl ?_
      first | (refine o_add trivial rfl rfl rfl ?_ ?_; (omega)) | refine o_pv trivial rfl rfl ?_
      refine o_pv trivial rfl rfl ?_
      refine o_nil ?_
      rw [← Rat.pow_succ] at h5 h6
      exact again (i + 1, u5, u6, I5) (sub_cons rfl (sub_cons rfl (sub_cons rfl (sub_cons rfl (sub_cons rfl sub_nil))))) (fun _ h => by rw [← Rat.pow_succ] at h; exact h) (by show n.natAbs - (i + 1) < n.natAbs - i; omega) ⟨by show i + 1 ≤ _; omega, h5, h6, hx4.trans hx5 (Nat.le_refl _), hle.trans hx5.le⟩
     ·
      have f4 := h4
      try simp only [bl] at f4
      refine c_exit (then_x (then_x (blk_eq rfl (then_c (c_seq (c_region ?_))))))
      refine o_loadA trivial rfl Tryz.isAgg33 Tryz.sizeOf33 rfl (by repeat constructor) (by repeat constructor) ?_
      refine o_store trivial rfl rfl rfl Tryz.sizeOf33 rfl (by first | rfl | (repeat' (first | exact rfl | exact one_nil | refine one_cons ?_ ?_ | exact (Ws.cells1 (by assumption)).2 | exact (Slc.cells1 (by assumption)).2))) (by repeat constructor) (by repeat constructor) ?_
      refine o_pv trivial rfl rfl ?_
      refine o_nil (then_c (c_ret ?_))
      refine retR rfl (.agg Tryz.isAgg33 Tryz.sizeOf33 rfl (by repeat constructor) rfl (.tmp rfl .nil)) ?_
      have hie : i = n.natAbs := by omega
      subst hie
      rw [powX_pow] at hun hud
      refine leaf hx4 (List.nil_sublist _) ⟨_, un, ud, _, _, ?_, hun, hud, fun _ => ⟨rfl, rfl, rfl⟩⟩
      rw [powX_pow, if_neg h0]; rfl
theorem rAll_any (va vb : Value) (l m : List Rat) {I : Hp} (ha : RsV I va l) (hb : RsV I vb m) : Fun Tryz.prog 11 [va, vb] I [] (fun v _ _ => v = .bool (decide (l = m))) := by
  obtain ⟨rs, hs1, ok1, rfl⟩ := ha.out
  obtain ⟨ss, hs2, ok2, rfl⟩ := hb.out
  have hl1 := rcs_len rs
  have hl2 := rcs_len ss
  have hm1 := hs1.most
  unfold maxLen at hm1
  intro w hw
  refine enter2 _ Tryz.func11 rfl Tryz.ntmps11 rfl ?_ hw
  refine c_seq (c_region ?_)
  refine o_pv trivial rfl rfl ?_
  refine o_nil (then_c (c_seq (c_seq (c_region ?_))))
  refine o_pv trivial rfl rfl ?_
  refine o_lenSlc trivial rfl Tryz.underlying37 rfl (hs1) ?_
  refine o_pv trivial rfl rfl ?_
  refine o_lenSlc trivial rfl Tryz.underlying37 rfl (hs2) ?_
  refine o_pv trivial rfl rfl ?_
  refine o_nil (then_c ?_)
  refine c_cond rfl (fun h1 => ?_) (fun h1 => ?_)
  ·
   have f1 := h1
   try simp only [bl] at f1
   refine c_seq (c_region ?_)
   refine o_pv trivial rfl rfl ?_
   refine o_nil (then_c (c_ret (then_r ?_)))
   refine ret1 rfl rfl ?_
   refine leaf0 (congrArg Value.bool ?_); rw [decide_eq_false]; intro e; have := congrArg List.length e; rw [List.length_map, List.length_map] at this; omega
  ·
   have f1 := h1
   try simp only [bl] at f1
   refine c_skip (then_c (c_seq (c_seq (c_region ?_))))
   refine o_pv trivial rfl rfl ?_
   refine o_nil (then_c (c_block ?_))
   refine c_loop (ι := Nat) [0, 1] (.cons rfl (.cons rfl .nil)) (fun i => rs.length - i) (fun i E0 => (5, .int .i64 (i : Nat)) :: E0) (fun i => St w [] I []) (fun i => i ≤ rs.length ∧ (rs.map RV.q).take i = (ss.map RV.q).take i) (0) (sub_cons rfl (sub_cons rfl (sub_cons rfl sub_nil))) (fun _ h => h) (⟨Nat.zero_le _, rfl⟩) ?_
   rintro i ⟨hi, he⟩
   try dsimp only
   refine c_seq (c_seq (c_region ?_))
   iterate 2 refine o_pv trivial rfl rfl ?_
   refine o_lenSlc trivial rfl Tryz.underlying37 rfl (hs1) ?_
   refine o_pv trivial rfl rfl ?_
   refine o_nil (then_c ?_)
   refine c_cond rfl (fun h2 => ?_) (fun h2 => ?_)
   ·
    have f2 := h2
    try simp only [bl] at f2
    have hi1 : i < rs.length := by omega
    have hi2 : i < ss.length := by omega
    obtain ⟨r, hr⟩ : ∃ r, rs[i]? = some r := ⟨rs[i], List.getElem?_eq_getElem hi1⟩
    obtain ⟨t, ht⟩ : ∃ t, ss[i]? = some t := ⟨ss[i], List.getElem?_eq_getElem hi2⟩
    obtain ⟨hrn, hrd⟩ := ok1 r (List.mem_of_getElem? hr)
    obtain ⟨htn, htd⟩ := ok2 t (List.mem_of_getElem? ht)
    refine c_skip (then_c (c_seq (c_block (c_seq ?_))))
    refine c_quiet (by kernel_rfl) (by kernel_rfl) (fun _ h => h.drawn) ?_
    iterate 2 refine o_pv trivial rfl rfl ?_
    refine o_elem trivial rfl Tryz.underlying37 Tryz.sizeOf33 rfl (hs1) rfl (by omega) ?_
    refine o_loadAI trivial rfl Tryz.isAgg33 Tryz.sizeOf33 rfl rfl (RV.at_ hs1 hr) ?_
    iterate 2 refine o_pv trivial rfl rfl ?_
    refine o_elem trivial rfl Tryz.underlying37 Tryz.sizeOf33 rfl (hs2) rfl (by omega) ?_
    refine o_loadAI trivial rfl Tryz.isAgg33 Tryz.sizeOf33 rfl rfl (RV.at_ hs2 ht) ?_
    refine o_callQ trivial rfl Tryz.call25 rfl (rEqual_any _ _ _ _ _ _ _ _ _ _ hrn hrd htn htd) ?_
    refine o_pv trivial rfl rfl ?_
    refine o_nil (then_c (c_seq ?_))
    rw [rat_eq_iff]
    refine c_region ?_
    iterate 2 refine o_pv trivial rfl rfl ?_
    refine o_nil (then_c ?_)
    refine c_cond rfl (fun h3 => ?_) (fun h3 => ?_)
    ·
     have f3 := h3
     try simp only [bl] at f3
     refine c_seq (c_region ?_)
     refine o_pv trivial rfl rfl ?_
     refine o_nil (then_c (c_ret (blk_r (then_r (then_r (blk_r (then_r ?_)))))))
     refine ret1 rfl rfl ?_
     refine leaf0 (congrArg Value.bool ?_); rw [decide_eq_false]; intro e; have e2 := congrArg (fun l => l[i]?) e; simp only [List.getElem?_map, hr, ht, Option.map_some, Option.some.injEq] at e2; exact f3 e2
    ·
     have f3 := h3
     try simp only [bl] at f3
     refine c_skip (blk_n (then_c (c_region ?_)))
     refine o_pv trivial rfl rfl ?_
     first | (refine o_add trivial rfl rfl rfl ?_ ?_; (omega)) | refine o_pv trivial rfl rfl ?_
     refine o_pv trivial rfl rfl ?_
     refine o_nil ?_
     exact again (i + 1) (sub_cons rfl (sub_cons rfl (sub_cons rfl sub_nil))) (fun _ h => h) (by show rs.length - (i + 1) < rs.length - i; omega) ⟨by show i + 1 ≤ _; omega, by rw [List.take_add_one, List.take_add_one, he, List.getElem?_map, List.getElem?_map, hr, ht]; simp only [Option.map_some]; rw [f3]⟩
   ·
    have f2 := h2
    try simp only [bl] at f2
    refine c_exit (then_x (then_x (blk_eq rfl (then_c (c_seq (c_region ?_))))))
    refine o_pv trivial rfl rfl ?_
    refine o_nil (then_c (c_ret ?_))
    refine ret1 rfl rfl ?_
    refine leaf0 (congrArg Value.bool ?_); rw [decide_eq_true]
    have hie : i = rs.length := by omega
    have e1 : (rs.map RV.q).take i = rs.map RV.q := List.take_of_length_le (by rw [List.length_map]; omega)
    have e2 : (ss.map RV.q).take i = ss.map RV.q := List.take_of_length_le (by rw [List.length_map]; omega)
    rw [← e1, ← e2, he]
theorem rFew_any (vx : Value) (xs : List NV) (k : Int) {I : Hp} (h : PtV I vx xs) : Fun Tryz.prog 13 [vx, .int .i64 k] I [] (fun v _ _ => v = .bool (xs.all fun x => decide ((x.n.length : Int) ≤ k ∧ (x.d.length : Int) ≤ k))) := by
  have hl1 : (xs.map NV.cells).length = xs.length := List.length_map _
  have hs1 := h.s
  have hm1 := hs1.most
  unfold maxLen at hm1
  intro w hw
  refine enter2 _ Tryz.func13 rfl Tryz.ntmps13 rfl ?_ hw
  refine c_seq (c_region ?_)
  refine o_pv trivial rfl rfl ?_
  refine o_nil (then_c (c_seq (c_seq (c_region ?_))))
  refine o_pv trivial rfl rfl ?_
  refine o_nil (then_c (c_block ?_))
  refine c_loop (ι := Nat) [0, 1] (.cons rfl (.cons rfl .nil)) (fun i => xs.length - i) (fun i E0 => (5, .int .i64 (i : Nat)) :: E0) (fun i => St w [] I []) (fun i => i ≤ xs.length ∧ ((xs.take i).all fun x => decide ((x.n.length : Int) ≤ k ∧ (x.d.length : Int) ≤ k)) = true) (0) (sub_cons rfl (sub_cons rfl (sub_cons rfl sub_nil))) (fun _ h => h) (⟨Nat.zero_le _, rfl⟩) ?_
  rintro i ⟨hi, he⟩
  try dsimp only
  refine c_seq (c_seq (c_region ?_))
  iterate 2 refine o_pv trivial rfl rfl ?_
  refine o_lenSlc trivial rfl Tryz.underlying37 rfl (hs1) ?_
  refine o_pv trivial rfl rfl ?_
  refine o_nil (then_c ?_)
  refine c_cond rfl (fun h1 => ?_) (fun h1 => ?_)
  ·
   have f1 := h1
   try simp only [bl] at f1
   have hi1 : i < xs.length := by omega
   obtain ⟨x, hx⟩ : ∃ x, xs[i]? = some x := ⟨xs[i], List.getElem?_eq_getElem hi1⟩
   obtain ⟨hxn, hxd⟩ := h.ok x (List.mem_of_getElem? hx)
   refine c_skip (then_c (c_seq (c_block (c_seq (c_region ?_)))))
   iterate 2 refine o_pv trivial rfl rfl ?_
   refine o_elem trivial rfl Tryz.underlying37 Tryz.sizeOf33 rfl (hs1) rfl (by omega) ?_
   refine o_fieldAddr (T := 31) (off := 1) trivial rfl Tryz.underlying33 rfl rfl rfl Tryz.sizeOf31 rfl rfl ?_
   refine o_load1I trivial rfl Tryz.isAgg31 rfl (NV.at_ h hx 1 _ rfl) ?_
   refine o_lenW trivial rfl Tryz.underlying31 rfl (hxn) ?_
   iterate 2 refine o_pv trivial rfl rfl ?_
   refine' o_or trivial trivial rfl rfl rfl rfl rfl rfl rfl rfl (fun hb20 => ?_) ?_
   rotate_left
   ·
    have fb20 := hb20
    try simp only [bl] at fb20
    iterate 2 refine o_pv (wants_some rfl rfl hb20) rfl rfl ?_
    refine o_elem (wants_some rfl rfl hb20) rfl Tryz.underlying37 Tryz.sizeOf33 rfl (hs1) rfl (by omega) ?_
    refine o_fieldAddr (T := 31) (off := 2) (wants_some rfl rfl hb20) rfl Tryz.underlying33 rfl rfl rfl Tryz.sizeOf31 rfl rfl ?_
    refine o_load1I (wants_some rfl rfl hb20) rfl Tryz.isAgg31 rfl (NV.at_ h hx 2 _ rfl) ?_
    refine o_lenW (wants_some rfl rfl hb20) rfl Tryz.underlying31 rfl (hxd) ?_
    iterate 2 refine o_pv (wants_some rfl rfl hb20) rfl rfl ?_
    refine o_nil ?_
    exact joins rfl
   refine o_nil (then_c ?_)
   refine c_cond rfl (fun h2 => ?_) (fun h2 => ?_)
   ·
    have f2 := h2
    try simp only [bl] at f2
    refine c_seq (c_region ?_)
    refine o_pv trivial rfl rfl ?_
    refine o_nil (then_c (c_ret (blk_r (then_r (then_r (blk_r (then_r ?_)))))))
    refine ret1 rfl rfl ?_
    refine leaf0 (congrArg Value.bool ?_)
    symm
    rw [List.all_eq_false]
    exact ⟨x, List.mem_of_getElem? hx, by simp; omega⟩
   ·
    have f2 := h2
    try simp only [bl] at f2
    refine c_skip (blk_n (then_c (c_region ?_)))
    refine o_pv trivial rfl rfl ?_
    first | (refine o_add trivial rfl rfl rfl ?_ ?_; (omega)) | refine o_pv trivial rfl rfl ?_
    refine o_pv trivial rfl rfl ?_
    refine o_nil ?_
    exact again (i + 1) (sub_cons rfl (sub_cons rfl (sub_cons rfl sub_nil))) (fun _ h => h) (by show xs.length - (i + 1) < xs.length - i; omega) ⟨by show i + 1 ≤ _; omega, by rw [List.take_add_one, hx, List.all_append, he]; simp; omega⟩
  ·
   have f1 := h1
   try simp only [bl] at f1
   refine c_exit (then_x (then_x (blk_eq rfl (then_c (c_seq (c_region ?_))))))
   refine o_pv trivial rfl rfl ?_
   refine o_nil (then_c (c_ret ?_))
   refine ret1 rfl rfl ?_
   refine leaf0 (congrArg Value.bool ?_)
   rw [List.take_of_length_le (by omega)] at he
   exact he.symm
end Go.Proofs.YtjgbjaaekknenaaGreat
/-
  The document's answers for layer 14: weights.
-/
namespace Go.Proofs.YtjgbjaaekknenaaGreat
open Go Go.Tw
set_option linter.unusedVariables false
set_option linter.unusedSimpArgs false
set_option linter.unnecessarySimpa false
set_option maxHeartbeats 1000000
def zeroR (o : OpC) : Bool :=
  if o.code = 1 then decide (o.a = 0 ∧ o.b = 0 ∧ o.e = 0)
  else if 2 ≤ o.code ∧ o.code ≤ 5 then emptyZ o.neg o.n o.d && decide (o.e = 0)
  else if o.code = 6 then emptyZ o.neg o.n o.d && decide (o.b = 0 ∧ o.e = 0)
  else if o.code = 7 then emptyZ o.neg o.n o.d && decide (o.b = 0)
  else false
theorem empty_eq (neg : Bool) (A B : List Nat) : (decide (neg = false) && decide (A = []) && decide (B = [])) = emptyZ neg A B := by
  unfold emptyZ
  cases neg <;> cases A <;> cases B <;> simp
theorem zero_any (code a b e : Int) (neg : Bool) (va vb : Value) (A B : List Nat) {I : Hp} (ha : Ws I va A) (hb : Ws I vb B) : Fun Tryz.prog 47 [.agg #[.int .i64 code, .int .i64 a, .int .i64 b, .int .i64 e, .bool neg, va, vb]] I [] (fun v _ _ => v = .bool (zeroR ⟨code, a, b, e, neg, A, B⟩)) := by
  have hq := rEqual_any neg false va vb (.slice none 0 0) (.slice none 0 0) A B [] [] ha hb (Ws.nil I) (Ws.nil I)
  rw [empty_eq] at hq
  intro w hw
  refine enter1 _ Tryz.func47 rfl Tryz.ntmps47 rfl ?_ hw
  refine c_seq (c_region ?_)
  refine o_box trivial rfl rfl rfl (fun b1 => ?_)
  refine o_pv trivial rfl rfl ?_
  refine o_nil (then_c (c_seq (c_region ?_)))
  refine o_fieldAddr (T := 33) (off := 4) trivial rfl Tryz.underlying35 rfl rfl rfl Tryz.sizeOf33 rfl rfl ?_
  refine o_loadA trivial rfl Tryz.isAgg33 Tryz.sizeOf33 rfl (by repeat constructor) (by repeat constructor) ?_
  refine o_buildS trivial rfl (bld33) rfl .nil ?_
  refine o_callQ trivial rfl Tryz.call25 rfl hq ?_
  refine o_pv trivial rfl rfl ?_
  refine o_nil (then_c (c_seq (c_block (c_seq (c_region ?_)))))
  refine o_fieldAddr (T := 3) (off := 0) trivial rfl Tryz.underlying35 rfl rfl rfl Tryz.sizeOf3 rfl rfl ?_
  refine o_load1 trivial rfl Tryz.isAgg3 rfl (by repeat constructor) (by repeat constructor) ?_
  iterate 2 refine o_pv trivial rfl rfl ?_
  refine o_nil (then_c ?_)
  refine c_cond rfl (fun h1 => ?_) (fun h1 => ?_)
  ·
   have f1 := h1
   try simp only [bl] at f1
   refine c_seq (c_region ?_)
   refine o_fieldAddr (T := 3) (off := 1) trivial rfl Tryz.underlying35 rfl rfl rfl Tryz.sizeOf3 rfl rfl ?_
   refine o_load1 trivial rfl Tryz.isAgg3 rfl (by repeat constructor) (by repeat constructor) ?_
   refine o_pv trivial rfl rfl ?_
   refine' o_and trivial trivial rfl rfl rfl rfl rfl rfl rfl rfl (fun hb15 => ?_) ?_
   rotate_left
   ·
    have fb15 := hb15
    try simp only [bl] at fb15
    refine o_fieldAddr (T := 3) (off := 2) (wants_some rfl rfl hb15) rfl Tryz.underlying35 rfl rfl rfl Tryz.sizeOf3 rfl rfl ?_
    refine o_load1 (wants_some rfl rfl hb15) rfl Tryz.isAgg3 rfl (by repeat constructor) (by repeat constructor) ?_
    refine o_pv (wants_some rfl rfl hb15) rfl rfl ?_
    refine o_nil ?_
    exact joins rfl
   refine' o_and trivial trivial rfl rfl rfl rfl rfl rfl rfl rfl (fun hb20 => ?_) ?_
   rotate_left
   ·
    have fb20 := hb20
    try simp only [bl] at fb20
    refine o_fieldAddr (T := 3) (off := 3) (wants_some rfl rfl hb20) rfl Tryz.underlying35 rfl rfl rfl Tryz.sizeOf3 rfl rfl ?_
    refine o_load1 (wants_some rfl rfl hb20) rfl Tryz.isAgg3 rfl (by repeat constructor) (by repeat constructor) ?_
    refine o_pv (wants_some rfl rfl hb20) rfl rfl ?_
    refine o_nil ?_
    exact joins rfl
   refine o_pv trivial rfl rfl ?_
   refine o_nil (then_c (c_ret (blk_r (then_r ?_))))
   refine ret1 rfl rfl ?_
   refine leaf0 (congrArg Value.bool ?_)
   unfold zeroR
   dsimp only
   first
     | (exfalso; omega)
     | (generalize emptyZ neg A B = Z at *
        repeat (first | rw [if_pos (by omega)] | rw [if_neg (by omega)])
        try rw [Bool.eq_iff_iff]
        first | done | (cases Z <;> simp_all <;> omega))
  ·
   have f1 := h1
   try simp only [bl] at f1
   refine c_seq (c_region ?_)
   refine o_fieldAddr (T := 3) (off := 0) trivial rfl Tryz.underlying35 rfl rfl rfl Tryz.sizeOf3 rfl rfl ?_
   refine o_load1 trivial rfl Tryz.isAgg3 rfl (by repeat constructor) (by repeat constructor) ?_
   refine o_pv trivial rfl rfl ?_
   refine' o_and trivial trivial rfl rfl rfl rfl rfl rfl rfl rfl (fun hb29 => ?_) ?_
   rotate_left
   ·
    have fb29 := hb29
    try simp only [bl] at fb29
    refine o_fieldAddr (T := 3) (off := 0) (wants_some rfl rfl hb29) rfl Tryz.underlying35 rfl rfl rfl Tryz.sizeOf3 rfl rfl ?_
    refine o_load1 (wants_some rfl rfl hb29) rfl Tryz.isAgg3 rfl (by repeat constructor) (by repeat constructor) ?_
    refine o_pv (wants_some rfl rfl hb29) rfl rfl ?_
    refine o_nil ?_
    exact joins rfl
   refine o_pv trivial rfl rfl ?_
   refine o_nil (then_c ?_)
   refine c_cond rfl (fun h2 => ?_) (fun h2 => ?_)
   ·
    have f2 := h2
    try simp only [bl] at f2
    refine c_seq (c_region ?_)
    refine o_pv trivial rfl rfl ?_
    refine' o_and trivial trivial rfl rfl rfl rfl rfl rfl rfl rfl (fun hb35 => ?_) ?_
    rotate_left
    ·
     have fb35 := hb35
     try simp only [bl] at fb35
     refine o_fieldAddr (T := 3) (off := 3) (wants_some rfl rfl hb35) rfl Tryz.underlying35 rfl rfl rfl Tryz.sizeOf3 rfl rfl ?_
     refine o_load1 (wants_some rfl rfl hb35) rfl Tryz.isAgg3 rfl (by repeat constructor) (by repeat constructor) ?_
     refine o_pv (wants_some rfl rfl hb35) rfl rfl ?_
     refine o_nil ?_
     exact joins rfl
    refine o_pv trivial rfl rfl ?_
    refine o_nil (then_c (c_ret (blk_r (then_r ?_))))
    refine ret1 rfl rfl ?_
    refine leaf0 (congrArg Value.bool ?_)
    unfold zeroR
    dsimp only
    first
      | (exfalso; omega)
      | (generalize emptyZ neg A B = Z at *
         repeat (first | rw [if_pos (by omega)] | rw [if_neg (by omega)])
         try rw [Bool.eq_iff_iff]
         first | done | (cases Z <;> simp_all <;> omega))
   ·
    have f2 := h2
    try simp only [bl] at f2
    refine c_seq (c_region ?_)
    refine o_fieldAddr (T := 3) (off := 0) trivial rfl Tryz.underlying35 rfl rfl rfl Tryz.sizeOf3 rfl rfl ?_
    refine o_load1 trivial rfl Tryz.isAgg3 rfl (by repeat constructor) (by repeat constructor) ?_
    iterate 2 refine o_pv trivial rfl rfl ?_
    refine o_nil (then_c ?_)
    refine c_cond rfl (fun h3 => ?_) (fun h3 => ?_)
    ·
     have f3 := h3
     try simp only [bl] at f3
     refine c_seq (c_region ?_)
     refine o_pv trivial rfl rfl ?_
     refine' o_and trivial trivial rfl rfl rfl rfl rfl rfl rfl rfl (fun hb45 => ?_) ?_
     rotate_left
     ·
      have fb45 := hb45
      try simp only [bl] at fb45
      refine o_fieldAddr (T := 3) (off := 2) (wants_some rfl rfl hb45) rfl Tryz.underlying35 rfl rfl rfl Tryz.sizeOf3 rfl rfl ?_
      refine o_load1 (wants_some rfl rfl hb45) rfl Tryz.isAgg3 rfl (by repeat constructor) (by repeat constructor) ?_
      refine o_pv (wants_some rfl rfl hb45) rfl rfl ?_
      refine o_nil ?_
      exact joins rfl
     refine' o_and trivial trivial rfl rfl rfl rfl rfl rfl rfl rfl (fun hb50 => ?_) ?_
     rotate_left
     ·
      have fb50 := hb50
      try simp only [bl] at fb50
      refine o_fieldAddr (T := 3) (off := 3) (wants_some rfl rfl hb50) rfl Tryz.underlying35 rfl rfl rfl Tryz.sizeOf3 rfl rfl ?_
      refine o_load1 (wants_some rfl rfl hb50) rfl Tryz.isAgg3 rfl (by repeat constructor) (by repeat constructor) ?_
      refine o_pv (wants_some rfl rfl hb50) rfl rfl ?_
      refine o_nil ?_
      exact joins rfl
     refine o_pv trivial rfl rfl ?_
     refine o_nil (then_c (c_ret (blk_r (then_r ?_))))
     refine ret1 rfl rfl ?_
     refine leaf0 (congrArg Value.bool ?_)
     unfold zeroR
     dsimp only
     first
       | (exfalso; omega)
       | (generalize emptyZ neg A B = Z at *
          repeat (first | rw [if_pos (by omega)] | rw [if_neg (by omega)])
          try rw [Bool.eq_iff_iff]
          first | done | (cases Z <;> simp_all <;> omega))
    ·
     have f3 := h3
     try simp only [bl] at f3
     refine c_seq (c_region ?_)
     refine o_fieldAddr (T := 3) (off := 0) trivial rfl Tryz.underlying35 rfl rfl rfl Tryz.sizeOf3 rfl rfl ?_
     refine o_load1 trivial rfl Tryz.isAgg3 rfl (by repeat constructor) (by repeat constructor) ?_
     iterate 2 refine o_pv trivial rfl rfl ?_
     refine o_nil (then_c ?_)
     refine c_cond rfl (fun h4 => ?_) (fun h4 => ?_)
     ·
      have f4 := h4
      try simp only [bl] at f4
      refine c_seq (c_region ?_)
      refine o_pv trivial rfl rfl ?_
      refine' o_and trivial trivial rfl rfl rfl rfl rfl rfl rfl rfl (fun hb60 => ?_) ?_
      rotate_left
      ·
       have fb60 := hb60
       try simp only [bl] at fb60
       refine o_fieldAddr (T := 3) (off := 2) (wants_some rfl rfl hb60) rfl Tryz.underlying35 rfl rfl rfl Tryz.sizeOf3 rfl rfl ?_
       refine o_load1 (wants_some rfl rfl hb60) rfl Tryz.isAgg3 rfl (by repeat constructor) (by repeat constructor) ?_
       refine o_pv (wants_some rfl rfl hb60) rfl rfl ?_
       refine o_nil ?_
       exact joins rfl
      refine o_pv trivial rfl rfl ?_
      refine o_nil (then_c (c_ret (blk_r (then_r ?_))))
      refine ret1 rfl rfl ?_
      refine leaf0 (congrArg Value.bool ?_)
      unfold zeroR
      dsimp only
      first
        | (exfalso; omega)
        | (generalize emptyZ neg A B = Z at *
           repeat (first | rw [if_pos (by omega)] | rw [if_neg (by omega)])
           try rw [Bool.eq_iff_iff]
           first | done | (cases Z <;> simp_all <;> omega))
     ·
      have f4 := h4
      try simp only [bl] at f4
      refine c_skip (blk_n (then_c (c_seq (c_region ?_))))
      refine o_pv trivial rfl rfl ?_
      refine o_nil (then_c (c_ret ?_))
      refine ret1 rfl rfl ?_
      refine leaf0 (congrArg Value.bool ?_)
      unfold zeroR
      dsimp only
      first
        | (exfalso; omega)
        | (generalize emptyZ neg A B = Z at *
           repeat (first | rw [if_pos (by omega)] | rw [if_neg (by omega)])
           try rw [Bool.eq_iff_iff]
           first | done | (cases Z <;> simp_all <;> omega))
/-- An op's weight, if it can be there. -/
def wR (o : OpC) (l : List Nat) : Option Nat := if fieldsOK o then wgt o l else none
def wRT (o : OpC) (l : List Nat) (v : Value) : Prop := ∃ m : Int, v = .int .i64 m ∧ (∀ k, wR o l = some k → m = k) ∧ (wR o l = none → m < 0 ∨ 200 < m)
theorem wRT_neg {o : OpC} {l : List Nat} (h : wR o l = none) : wRT o l (.int .i64 (-1)) := ⟨-1, rfl, fun k hk => (by rw [h] at hk; cases hk), fun _ => by omega⟩
theorem wRT_of {o : OpC} {l : List Nat} {M : Nat} {m : Int} (h : wR o l = if M ≤ 200 then some M else none) (hm : m = M) : wRT o l (.int .i64 m) :=
  ⟨m, rfl, fun k hk => by rw [h] at hk; split at hk <;> cases hk; exact hm, fun hk => by
    rw [h] at hk
    split at hk
    · cases hk
    · omega⟩
theorem fields_one {o : OpC} (h : o.code = 1) : fieldsOK o = (constOK o.neg o.n o.d && zeroR o) := by
  unfold fieldsOK zeroR; rw [if_pos h, if_pos h]
theorem fields_zero {o : OpC} (h : zeroR o = false) : fieldsOK o = false := by
  unfold zeroR at h
  unfold fieldsOK
  split
  · rename_i h1; rw [if_pos h1] at h; rw [h, Bool.and_false]
  · rename_i h1
    rw [if_neg h1] at h
    split
    · rename_i h2; rw [if_pos h2] at h; exact h
    · rename_i h2
      rw [if_neg h2] at h
      split
      · rename_i h3; rw [if_pos h3] at h; exact h
      · rename_i h3
        rw [if_neg h3] at h
        split
        · rename_i h4
          rw [if_pos h4] at h
          cases hz : emptyZ o.neg o.n o.d
          · rfl
          · rw [hz] at h
            simp at h
            simp [h]
        · rfl
theorem fields_rest {o : OpC} (h1 : ¬ o.code = 1) (h : zeroR o = true) (he : -20 ≤ o.e ∧ o.e ≤ 20) : fieldsOK o = true := by
  unfold zeroR at h
  unfold fieldsOK
  rw [if_neg h1] at h ⊢
  split
  · rename_i h2; rw [if_pos h2] at h; exact h
  · rename_i h2
    rw [if_neg h2] at h
    split
    · rename_i h3; rw [if_pos h3] at h; exact h
    · rename_i h3
      rw [if_neg h3] at h
      split
      · rename_i h4
        rw [if_pos h4] at h
        simp only [Bool.and_eq_true, decide_eq_true_eq] at h ⊢
        exact ⟨h.1, h.2, he⟩
      · rename_i h4; rw [if_neg h4] at h; exact h
theorem fields_exp2 {o : OpC} (h1 : ¬ o.code = 1) (he : ¬ (-20 ≤ o.e ∧ o.e ≤ 20)) : fieldsOK o = false := by
  unfold fieldsOK
  rw [if_neg h1]
  split
  · rw [show decide (o.e = 0) = false from decide_eq_false (by omega), Bool.and_false]
  · split
    · rw [show decide (o.b = 0 ∧ o.e = 0) = false from decide_eq_false (by omega), Bool.and_false]
    · split
      · rw [show decide (o.b = 0 ∧ -20 ≤ o.e ∧ o.e ≤ 20) = false from decide_eq_false (by omega), Bool.and_false]
      · rfl
theorem zero_code {o : OpC} (h : zeroR o = true) (h1 : ¬ o.code = 1) : 2 ≤ o.code ∧ o.code ≤ 7 := by
  unfold zeroR at h
  rw [if_neg h1] at h
  split at h
  · omega
  · split at h
    · omega
    · split at h
      · omega
      · cases h
theorem weightR_any (code a b e : Int) (neg : Bool) (va vb u : Value) (A B : List Nat) (l : List Nat) {I : Hp} (ha : Ws I va A) (hb : Ws I vb B) (hA : A.length ≤ 3000) (hB : B.length ≤ 3000) (hl : l.length ≤ 1000000) (hl2 : ∀ x ∈ l, x ≤ 200) : Fun Tryz.prog 28 [.agg #[.int .i64 code, .int .i64 a, .int .i64 b, .int .i64 e, .bool neg, va, vb], u] I [.row u 3 1 l.length (nvs l)]
    (fun v I' B' => I = I' ∧ B' = [.row u 3 1 l.length (nvs l)] ∧ wRT ⟨code, a, b, e, neg, A, B⟩ l v) := by
  have ga := le_getD hl2 a.toNat
  have gb := le_getD hl2 b.toNat
  have hda := digs_words ha.wds hA
  have hdb := digs_words hb.wds hB
  have hsa := decS_size (val A)
  have hsb := decS_size (val B)
  intro w hw
  refine enter2 _ Tryz.func28 rfl Tryz.ntmps28 rfl ?_ hw
  refine c_seq (c_region ?_)
  refine o_box trivial rfl rfl rfl (fun b2 => ?_)
  refine o_pv trivial rfl rfl ?_
  refine o_nil (then_c (c_seq (c_region ?_)))
  refine o_loadA trivial rfl Tryz.isAgg35 Tryz.sizeOf35 rfl (by repeat constructor) (by repeat constructor) ?_
  refine o_callQ trivial rfl Tryz.call47 rfl (zero_any code a b e neg _ _ _ _ ha hb) ?_
  refine o_pv trivial rfl rfl ?_
  refine o_nil (then_c (c_seq (c_seq (c_region ?_))))
  iterate 2 refine o_pv trivial rfl rfl ?_
  refine o_nil (then_c ?_)
  refine c_cond rfl (fun h1 => ?_) (fun h1 => ?_)
  ·
   have f1 := h1
   try simp only [bl] at f1
   have hz : wR ⟨code, a, b, e, neg, A, B⟩ l = none := by unfold wR; rw [fields_zero f1]; rfl
   refine c_seq (c_region ?_)
   refine o_pv trivial rfl rfl ?_
   refine o_nil (then_c (c_ret (then_r ?_)))
   refine ret1 rfl rfl ?_
   exact leaf (Ext.refl _ _) (List.sublist_cons_self _ _) ⟨rfl, rfl, wRT_neg hz⟩
  ·
   have f1 := h1
   try simp only [bl] at f1
   refine c_skip (then_c (c_seq (c_seq (c_region ?_))))
   refine o_fieldAddr (T := 3) (off := 0) trivial rfl Tryz.underlying35 rfl rfl rfl Tryz.sizeOf3 rfl rfl ?_
   refine o_load1 trivial rfl Tryz.isAgg3 rfl (by repeat constructor) (by repeat constructor) ?_
   refine o_pv trivial rfl rfl ?_
   refine o_nil (then_c ?_)
   refine c_cond rfl (fun h2 => ?_) (fun h2 => ?_)
   ·
    have f2 := h2
    try simp only [bl] at f2
    refine c_seq (c_region ?_)
    refine o_fieldAddr (T := 33) (off := 4) trivial rfl Tryz.underlying35 rfl rfl rfl Tryz.sizeOf33 rfl rfl ?_
    refine o_loadA trivial rfl Tryz.isAgg33 Tryz.sizeOf33 rfl (by repeat constructor) (by repeat constructor) ?_
    refine o_callQ trivial rfl Tryz.call48 rfl (rRight_any neg _ _ _ _ ha hb hA hB) ?_
    refine o_pv trivial rfl rfl ?_
    refine o_nil (then_c (c_seq (c_seq (c_region ?_))))
    iterate 2 refine o_pv trivial rfl rfl ?_
    refine' o_or trivial trivial rfl rfl rfl rfl rfl rfl rfl rfl (fun hb20 => ?_) ?_
    rotate_left
    ·
     have fb20 := hb20
     try simp only [bl] at fb20
     refine o_fieldAddr (T := 33) (off := 4) (wants_some rfl rfl hb20) rfl Tryz.underlying35 rfl rfl rfl Tryz.sizeOf33 rfl rfl ?_
     refine o_fieldAddr (T := 31) (off := 1) (wants_some rfl rfl hb20) rfl Tryz.underlying33 rfl rfl rfl Tryz.sizeOf31 rfl rfl ?_
     refine o_load1 (wants_some rfl rfl hb20) rfl Tryz.isAgg31 rfl (by repeat constructor) (by repeat constructor) ?_
     refine o_callQ (wants_some rfl rfl hb20) rfl Tryz.call49 rfl (rPrint_any _ _ ha (by omega)) ?_
     refine o_lenS (wants_some rfl rfl hb20) rfl Tryz.underlying9 rfl ?_
     refine o_pv (wants_some rfl rfl hb20) rfl rfl ?_
     refine o_nil ?_
     exact joins rfl
    refine' o_or trivial trivial rfl rfl rfl rfl rfl rfl rfl rfl (fun hb28 => ?_) ?_
    rotate_left
    ·
     have fb28 := hb28
     try simp only [bl] at fb28
     refine o_fieldAddr (T := 33) (off := 4) (wants_some rfl rfl hb28) rfl Tryz.underlying35 rfl rfl rfl Tryz.sizeOf33 rfl rfl ?_
     refine o_fieldAddr (T := 31) (off := 2) (wants_some rfl rfl hb28) rfl Tryz.underlying33 rfl rfl rfl Tryz.sizeOf31 rfl rfl ?_
     refine o_load1 (wants_some rfl rfl hb28) rfl Tryz.isAgg31 rfl (by repeat constructor) (by repeat constructor) ?_
     refine o_callQ (wants_some rfl rfl hb28) rfl Tryz.call49 rfl (rPrint_any _ _ hb (by omega)) ?_
     refine o_lenS (wants_some rfl rfl hb28) rfl Tryz.underlying9 rfl ?_
     refine o_pv (wants_some rfl rfl hb28) rfl rfl ?_
     refine o_nil ?_
     exact joins rfl
    refine o_nil (then_c ?_)
    refine c_cond rfl (fun h3 => ?_) (fun h3 => ?_)
    ·
     have f3 := h3
     try simp only [bl] at f3
     have hz : wR ⟨code, a, b, e, neg, A, B⟩ l = none := by
       unfold wR
       rw [fields_one f2, f1, Bool.and_true]
       unfold constOK
       dsimp only
       rcases f3 with (f3 | f3) | f3
       · rw [f3]; rfl
       · rw [show decide ((digs (val A)).length ≤ 40) = false from decide_eq_false (by omega), Bool.and_false, Bool.false_and]; rfl
       · rw [show decide ((digs (val B)).length ≤ 40) = false from decide_eq_false (by omega), Bool.and_false]; rfl
     refine c_seq (c_region ?_)
     refine o_pv trivial rfl rfl ?_
     refine o_nil (then_c (c_ret (then_r (then_r ?_))))
     refine ret1 rfl rfl ?_
     exact leaf (Ext.refl _ _) (List.sublist_cons_self _ _) ⟨rfl, rfl, wRT_neg hz⟩
    ·
     have f3 := h3
     try simp only [bl] at f3
     have hz : wR ⟨code, a, b, e, neg, A, B⟩ l = some 1 := by
       unfold wR
       rw [fields_one f2, f1, Bool.and_true]
       unfold constOK
       dsimp only
       obtain ⟨⟨k1, k2⟩, k3⟩ := f3
       rw [k1, show decide ((digs (val A)).length ≤ 40) = true from decide_eq_true (by omega), show decide ((digs (val B)).length ≤ 40) = true from decide_eq_true (by omega)]
       show wgt ⟨code, a, b, e, neg, A, B⟩ l = some 1
       exact if_pos f2
     refine c_skip (then_c (c_seq (c_region ?_)))
     refine o_pv trivial rfl rfl ?_
     refine o_nil (then_c (c_ret (then_r ?_)))
     refine ret1 rfl rfl ?_
     exact leaf (Ext.refl _ _) (List.sublist_cons_self _ _) ⟨rfl, rfl, 1, rfl, fun k hk => by rw [hz] at hk; cases hk; rfl, fun hk => by rw [hz] at hk; cases hk⟩
   ·
    have f2 := h2
    try simp only [bl] at f2
    refine c_skip (then_c (c_seq (c_seq (c_region ?_))))
    refine o_fieldAddr (T := 3) (off := 1) trivial rfl Tryz.underlying35 rfl rfl rfl Tryz.sizeOf3 rfl rfl ?_
    refine o_load1 trivial rfl Tryz.isAgg3 rfl (by repeat constructor) (by repeat constructor) ?_
    refine o_pv trivial rfl rfl ?_
    refine' o_or trivial trivial rfl rfl rfl rfl rfl rfl rfl rfl (fun hb39 => ?_) ?_
    rotate_left
    ·
     have fb39 := hb39
     try simp only [bl] at fb39
     refine o_fieldAddr (T := 3) (off := 1) (wants_some rfl rfl hb39) rfl Tryz.underlying35 rfl rfl rfl Tryz.sizeOf3 rfl rfl ?_
     refine o_load1 (wants_some rfl rfl hb39) rfl Tryz.isAgg3 rfl (by repeat constructor) (by repeat constructor) ?_
     refine o_pv (wants_some rfl rfl hb39) rfl rfl ?_
     refine o_lenRow (wants_some rfl rfl hb39) rfl Tryz.underlying27 rfl (by repeat constructor) ?_
     refine o_pv (wants_some rfl rfl hb39) rfl rfl ?_
     refine o_nil ?_
     exact joins rfl
    refine' o_or trivial trivial rfl rfl rfl rfl rfl rfl rfl rfl (fun hb46 => ?_) ?_
    rotate_left
    ·
     have fb46 := hb46
     try simp only [bl] at fb46
     refine o_fieldAddr (T := 3) (off := 2) (wants_some rfl rfl hb46) rfl Tryz.underlying35 rfl rfl rfl Tryz.sizeOf3 rfl rfl ?_
     refine o_load1 (wants_some rfl rfl hb46) rfl Tryz.isAgg3 rfl (by repeat constructor) (by repeat constructor) ?_
     refine o_pv (wants_some rfl rfl hb46) rfl rfl ?_
     refine o_nil ?_
     exact joins rfl
    refine' o_or trivial trivial rfl rfl rfl rfl rfl rfl rfl rfl (fun hb51 => ?_) ?_
    rotate_left
    ·
     have fb51 := hb51
     try simp only [bl] at fb51
     refine o_fieldAddr (T := 3) (off := 2) (wants_some rfl rfl hb51) rfl Tryz.underlying35 rfl rfl rfl Tryz.sizeOf3 rfl rfl ?_
     refine o_load1 (wants_some rfl rfl hb51) rfl Tryz.isAgg3 rfl (by repeat constructor) (by repeat constructor) ?_
     refine o_pv (wants_some rfl rfl hb51) rfl rfl ?_
     refine o_lenRow (wants_some rfl rfl hb51) rfl Tryz.underlying27 rfl (by repeat constructor) ?_
     refine o_pv (wants_some rfl rfl hb51) rfl rfl ?_
     refine o_nil ?_
     exact joins rfl
    refine' o_or trivial trivial rfl rfl rfl rfl rfl rfl rfl rfl (fun hb58 => ?_) ?_
    rotate_left
    ·
     have fb58 := hb58
     try simp only [bl] at fb58
     refine o_fieldAddr (T := 3) (off := 3) (wants_some rfl rfl hb58) rfl Tryz.underlying35 rfl rfl rfl Tryz.sizeOf3 rfl rfl ?_
     refine o_load1 (wants_some rfl rfl hb58) rfl Tryz.isAgg3 rfl (by repeat constructor) (by repeat constructor) ?_
     refine o_pv (wants_some rfl rfl hb58) rfl rfl ?_
     refine o_nil ?_
     exact joins rfl
    refine' o_or trivial trivial rfl rfl rfl rfl rfl rfl rfl rfl (fun hb63 => ?_) ?_
    rotate_left
    ·
     have fb63 := hb63
     try simp only [bl] at fb63
     refine o_fieldAddr (T := 3) (off := 3) (wants_some rfl rfl hb63) rfl Tryz.underlying35 rfl rfl rfl Tryz.sizeOf3 rfl rfl ?_
     refine o_load1 (wants_some rfl rfl hb63) rfl Tryz.isAgg3 rfl (by repeat constructor) (by repeat constructor) ?_
     refine o_pv (wants_some rfl rfl hb63) rfl rfl ?_
     refine o_nil ?_
     exact joins rfl
    refine o_nil (then_c ?_)
    refine c_cond rfl (fun h4 => ?_) (fun h4 => ?_)
    ·
     have f4 := h4
     try simp only [bl] at f4
     have hz : wR ⟨code, a, b, e, neg, A, B⟩ l = none := by
       unfold wR
       by_cases he : -20 ≤ e ∧ e ≤ 20
       · rw [fields_rest f2 f1 he]
         unfold wgt
         dsimp only
         have n2 : a < 0 ∨ (l.length : Int) ≤ a ∨ b < 0 ∨ (l.length : Int) ≤ b := by omega
         rw [if_neg f2, if_pos n2]; rfl
       · rw [fields_exp2 (o := ⟨code, a, b, e, neg, A, B⟩) f2 he]; rfl
     refine c_seq (c_region ?_)
     refine o_pv trivial rfl rfl ?_
     refine o_nil (then_c (c_ret (then_r ?_)))
     refine ret1 rfl rfl ?_
     exact leaf (Ext.refl _ _) (List.sublist_cons_self _ _) ⟨rfl, rfl, wRT_neg hz⟩
    ·
     have f4 := h4
     try simp only [bl] at f4
     have hcd := zero_code (o := ⟨code, a, b, e, neg, A, B⟩) f1 f2
     have he : -20 ≤ e ∧ e ≤ 20 := by omega
     have n2 : ¬ (a < 0 ∨ (l.length : Int) ≤ a ∨ b < 0 ∨ (l.length : Int) ≤ b) := by omega
     have hwr : wR ⟨code, a, b, e, neg, A, B⟩ l = if wgtM ⟨code, a, b, e, neg, A, B⟩ l ≤ 200 then some (wgtM ⟨code, a, b, e, neg, A, B⟩ l) else none := by
       unfold wR
       rw [fields_rest f2 f1 he]
       unfold wgt
       dsimp only
       rw [if_neg f2, if_neg n2]; rfl
     have hm20 : l.getD a.toNat 0 * max 1 e.natAbs ≤ 200 * 20 := Nat.mul_le_mul ga (by omega)
     refine c_skip (then_c (c_seq (c_region ?_)))
     refine o_pv trivial rfl rfl ?_
     refine o_fieldAddr (T := 3) (off := 1) trivial rfl Tryz.underlying35 rfl rfl rfl Tryz.sizeOf3 rfl rfl ?_
     refine o_load1 trivial rfl Tryz.isAgg3 rfl (by repeat constructor) (by repeat constructor) ?_
     refine o_elemRow trivial rfl Tryz.underlying27 Tryz.sizeOf3 rfl (by repeat constructor) rfl (by omega) ?_
     refine o_loadRow1 trivial rfl Tryz.isAgg3 (by repeat constructor) rfl (by rw [Nat.mul_one]; exact nvs_get (by omega)) ?_
     refine o_pv trivial rfl rfl ?_
     refine o_nil (then_c (c_seq (c_seq (c_region ?_))))
     refine o_fieldAddr (T := 3) (off := 0) trivial rfl Tryz.underlying35 rfl rfl rfl Tryz.sizeOf3 rfl rfl ?_
     refine o_load1 trivial rfl Tryz.isAgg3 rfl (by repeat constructor) (by repeat constructor) ?_
     refine o_pv trivial rfl rfl ?_
     refine o_nil (then_c ?_)
     refine c_cond rfl (fun h5 => ?_) (fun h5 => ?_)
     ·
      have f5 := h5
      try simp only [bl] at f5
      refine c_region ?_
      iterate 2 refine o_pv trivial rfl rfl ?_
      refine o_fieldAddr (T := 3) (off := 2) trivial rfl Tryz.underlying35 rfl rfl rfl Tryz.sizeOf3 rfl rfl ?_
      refine o_load1 trivial rfl Tryz.isAgg3 rfl (by repeat constructor) (by repeat constructor) ?_
      refine o_elemRow trivial rfl Tryz.underlying27 Tryz.sizeOf3 rfl (by repeat constructor) rfl (by omega) ?_
      refine o_loadRow1 trivial rfl Tryz.isAgg3 (by repeat constructor) rfl (by rw [Nat.mul_one]; exact nvs_get (by omega)) ?_
      first | (refine o_add trivial rfl rfl rfl ?_ ?_; (omega)) | refine o_pv trivial rfl rfl ?_
      refine o_pv trivial rfl rfl ?_
      refine o_nil (then_c (c_seq (c_seq (c_region ?_))))
      refine o_fieldAddr (T := 3) (off := 0) trivial rfl Tryz.underlying35 rfl rfl rfl Tryz.sizeOf3 rfl rfl ?_
      refine o_load1 trivial rfl Tryz.isAgg3 rfl (by repeat constructor) (by repeat constructor) ?_
      refine o_pv trivial rfl rfl ?_
      refine' o_and trivial trivial rfl rfl rfl rfl rfl rfl rfl rfl (fun hb86 => ?_) ?_
      rotate_left
      ·
       have fb86 := hb86
       try simp only [bl] at fb86
       refine o_fieldAddr (T := 3) (off := 3) (wants_some rfl rfl hb86) rfl Tryz.underlying35 rfl rfl rfl Tryz.sizeOf3 rfl rfl ?_
       refine o_load1 (wants_some rfl rfl hb86) rfl Tryz.isAgg3 rfl (by repeat constructor) (by repeat constructor) ?_
       refine o_pv (wants_some rfl rfl hb86) rfl rfl ?_
       refine o_nil ?_
       exact joins rfl
      refine o_nil (then_c ?_)
      refine c_cond rfl (fun h6 => ?_) (fun h6 => ?_)
      ·
       have f6 := h6
       try simp only [bl] at f6
       refine c_region ?_
       refine o_pv trivial rfl rfl ?_
       refine o_fieldAddr (T := 3) (off := 3) trivial rfl Tryz.underlying35 rfl rfl rfl Tryz.sizeOf3 rfl rfl ?_
       refine o_load1 trivial rfl Tryz.isAgg3 rfl (by repeat constructor) (by repeat constructor) ?_
       refine o_pv trivial rfl rfl ?_
       first | (refine o_mul trivial rfl rfl rfl ?_ ?_; (omega)) | refine o_pv trivial rfl rfl ?_
       refine o_pv trivial rfl rfl ?_
       refine o_nil (then_c (c_seq (c_seq (c_region ?_))))
       refine o_fieldAddr (T := 3) (off := 0) trivial rfl Tryz.underlying35 rfl rfl rfl Tryz.sizeOf3 rfl rfl ?_
       refine o_load1 trivial rfl Tryz.isAgg3 rfl (by repeat constructor) (by repeat constructor) ?_
       refine o_pv trivial rfl rfl ?_
       refine' o_and trivial trivial rfl rfl rfl rfl rfl rfl rfl rfl (fun hb99 => ?_) ?_
       rotate_left
       ·
        have fb99 := hb99
        try simp only [bl] at fb99
        refine o_fieldAddr (T := 3) (off := 3) (wants_some rfl rfl hb99) rfl Tryz.underlying35 rfl rfl rfl Tryz.sizeOf3 rfl rfl ?_
        refine o_load1 (wants_some rfl rfl hb99) rfl Tryz.isAgg3 rfl (by repeat constructor) (by repeat constructor) ?_
        refine o_pv (wants_some rfl rfl hb99) rfl rfl ?_
        refine o_nil ?_
        exact joins rfl
       refine o_nil (then_c ?_)
       refine c_cond rfl (fun h7 => ?_) (fun h7 => ?_)
       ·
        have f7 := h7
        try simp only [bl] at f7
        refine c_region ?_
        refine o_pv trivial rfl rfl ?_
        refine o_fieldAddr (T := 3) (off := 3) trivial rfl Tryz.underlying35 rfl rfl rfl Tryz.sizeOf3 rfl rfl ?_
        refine o_load1 trivial rfl Tryz.isAgg3 rfl (by repeat constructor) (by repeat constructor) ?_
        first | (refine o_mul trivial rfl rfl rfl ?_ ?_; (omega)) | refine o_pv trivial rfl rfl ?_
        refine o_pv trivial rfl rfl ?_
        refine o_nil (then_c (c_seq (c_region ?_)))
        iterate 2 refine o_pv trivial rfl rfl ?_
        refine o_nil (then_c (c_ret ?_))
        refine ret1 rfl rfl ?_
        refine leaf (Ext.refl _ _) (List.sublist_cons_self _ _) ⟨rfl, rfl, wRT_of hwr ?_⟩
        unfold wgtM
        dsimp only at hcd ⊢
        first
          | (exfalso; omega)
          | (rw [if_pos (show 2 ≤ code ∧ code ≤ 5 by omega)]; rfl)
          | (have h7 : code = 7 := f6.1
             have he0 := f6.2
             rw [if_neg (show ¬ (2 ≤ code ∧ code ≤ 5) by omega), if_pos h7, Nat.max_eq_right (show 1 ≤ e.natAbs by omega)] at *
             rw [show IntKind.i64.wrap (0 - e) = ((e.natAbs : Nat) : Int) by rw [IntWalk.i64_in _ (by omega)]; omega, ← Int.natCast_mul, IntWalk.i64_in _ (by omega)])
          | (have h7 : code = 7 := f7.1
             have he0 := f7.2
             rw [if_neg (show ¬ (2 ≤ code ∧ code ≤ 5) by omega), if_pos h7]
             have hmx : max 1 e.natAbs = e.natAbs := Nat.max_eq_right (show 1 ≤ e.natAbs by omega)
             rw [hmx] at hm20 ⊢
             have he1 : (l.getD a.toNat 0 : Int) * e = ((l.getD a.toNat 0 * e.natAbs : Nat) : Int) := by rw [Int.natCast_mul]; congr 1; omega
             rw [he1, IntWalk.i64_in _ (by omega)])
          | (by_cases h7 : code = 7
             · have he0 : e = 0 := by omega
               rw [if_neg (show ¬ (2 ≤ code ∧ code ≤ 5) by omega), if_pos h7, he0]
               show _ = ((_ * 1 : Nat) : Int)
               rw [Nat.mul_one]
             · rw [if_neg (show ¬ (2 ≤ code ∧ code ≤ 5) by omega), if_neg h7])
       ·
        have f7 := h7
        try simp only [bl] at f7
        refine c_skip (then_c (c_seq (c_region ?_)))
        iterate 2 refine o_pv trivial rfl rfl ?_
        refine o_nil (then_c (c_ret ?_))
        refine ret1 rfl rfl ?_
        refine leaf (Ext.refl _ _) (List.sublist_cons_self _ _) ⟨rfl, rfl, wRT_of hwr ?_⟩
        unfold wgtM
        dsimp only at hcd ⊢
        first
          | (exfalso; omega)
          | (rw [if_pos (show 2 ≤ code ∧ code ≤ 5 by omega)]; rfl)
          | (have h7 : code = 7 := f6.1
             have he0 := f6.2
             rw [if_neg (show ¬ (2 ≤ code ∧ code ≤ 5) by omega), if_pos h7, Nat.max_eq_right (show 1 ≤ e.natAbs by omega)] at *
             rw [show IntKind.i64.wrap (0 - e) = ((e.natAbs : Nat) : Int) by rw [IntWalk.i64_in _ (by omega)]; omega, ← Int.natCast_mul, IntWalk.i64_in _ (by omega)])
          | (have h7 : code = 7 := f7.1
             have he0 := f7.2
             rw [if_neg (show ¬ (2 ≤ code ∧ code ≤ 5) by omega), if_pos h7]
             have hmx : max 1 e.natAbs = e.natAbs := Nat.max_eq_right (show 1 ≤ e.natAbs by omega)
             rw [hmx] at hm20 ⊢
             have he1 : (l.getD a.toNat 0 : Int) * e = ((l.getD a.toNat 0 * e.natAbs : Nat) : Int) := by rw [Int.natCast_mul]; congr 1; omega
             rw [he1, IntWalk.i64_in _ (by omega)])
          | (by_cases h7 : code = 7
             · have he0 : e = 0 := by omega
               rw [if_neg (show ¬ (2 ≤ code ∧ code ≤ 5) by omega), if_pos h7, he0]
               show _ = ((_ * 1 : Nat) : Int)
               rw [Nat.mul_one]
             · rw [if_neg (show ¬ (2 ≤ code ∧ code ≤ 5) by omega), if_neg h7])
      ·
       have f6 := h6
       try simp only [bl] at f6
       refine c_skip (then_c (c_seq (c_seq (c_region ?_))))
       refine o_fieldAddr (T := 3) (off := 0) trivial rfl Tryz.underlying35 rfl rfl rfl Tryz.sizeOf3 rfl rfl ?_
       refine o_load1 trivial rfl Tryz.isAgg3 rfl (by repeat constructor) (by repeat constructor) ?_
       refine o_pv trivial rfl rfl ?_
       refine' o_and trivial trivial rfl rfl rfl rfl rfl rfl rfl rfl (fun hb99 => ?_) ?_
       rotate_left
       ·
        have fb99 := hb99
        try simp only [bl] at fb99
        refine o_fieldAddr (T := 3) (off := 3) (wants_some rfl rfl hb99) rfl Tryz.underlying35 rfl rfl rfl Tryz.sizeOf3 rfl rfl ?_
        refine o_load1 (wants_some rfl rfl hb99) rfl Tryz.isAgg3 rfl (by repeat constructor) (by repeat constructor) ?_
        refine o_pv (wants_some rfl rfl hb99) rfl rfl ?_
        refine o_nil ?_
        exact joins rfl
       refine o_nil (then_c ?_)
       refine c_cond rfl (fun h7 => ?_) (fun h7 => ?_)
       ·
        have f7 := h7
        try simp only [bl] at f7
        refine c_region ?_
        refine o_pv trivial rfl rfl ?_
        refine o_fieldAddr (T := 3) (off := 3) trivial rfl Tryz.underlying35 rfl rfl rfl Tryz.sizeOf3 rfl rfl ?_
        refine o_load1 trivial rfl Tryz.isAgg3 rfl (by repeat constructor) (by repeat constructor) ?_
        first | (refine o_mul trivial rfl rfl rfl ?_ ?_; (omega)) | refine o_pv trivial rfl rfl ?_
        refine o_pv trivial rfl rfl ?_
        refine o_nil (then_c (c_seq (c_region ?_)))
        iterate 2 refine o_pv trivial rfl rfl ?_
        refine o_nil (then_c (c_ret ?_))
        refine ret1 rfl rfl ?_
        refine leaf (Ext.refl _ _) (List.sublist_cons_self _ _) ⟨rfl, rfl, wRT_of hwr ?_⟩
        unfold wgtM
        dsimp only at hcd ⊢
        first
          | (exfalso; omega)
          | (rw [if_pos (show 2 ≤ code ∧ code ≤ 5 by omega)]; rfl)
          | (have h7 : code = 7 := f6.1
             have he0 := f6.2
             rw [if_neg (show ¬ (2 ≤ code ∧ code ≤ 5) by omega), if_pos h7, Nat.max_eq_right (show 1 ≤ e.natAbs by omega)] at *
             rw [show IntKind.i64.wrap (0 - e) = ((e.natAbs : Nat) : Int) by rw [IntWalk.i64_in _ (by omega)]; omega, ← Int.natCast_mul, IntWalk.i64_in _ (by omega)])
          | (have h7 : code = 7 := f7.1
             have he0 := f7.2
             rw [if_neg (show ¬ (2 ≤ code ∧ code ≤ 5) by omega), if_pos h7]
             have hmx : max 1 e.natAbs = e.natAbs := Nat.max_eq_right (show 1 ≤ e.natAbs by omega)
             rw [hmx] at hm20 ⊢
             have he1 : (l.getD a.toNat 0 : Int) * e = ((l.getD a.toNat 0 * e.natAbs : Nat) : Int) := by rw [Int.natCast_mul]; congr 1; omega
             rw [he1, IntWalk.i64_in _ (by omega)])
          | (by_cases h7 : code = 7
             · have he0 : e = 0 := by omega
               rw [if_neg (show ¬ (2 ≤ code ∧ code ≤ 5) by omega), if_pos h7, he0]
               show _ = ((_ * 1 : Nat) : Int)
               rw [Nat.mul_one]
             · rw [if_neg (show ¬ (2 ≤ code ∧ code ≤ 5) by omega), if_neg h7])
       ·
        have f7 := h7
        try simp only [bl] at f7
        refine c_skip (then_c (c_seq (c_region ?_)))
        iterate 2 refine o_pv trivial rfl rfl ?_
        refine o_nil (then_c (c_ret ?_))
        refine ret1 rfl rfl ?_
        refine leaf (Ext.refl _ _) (List.sublist_cons_self _ _) ⟨rfl, rfl, wRT_of hwr ?_⟩
        unfold wgtM
        dsimp only at hcd ⊢
        first
          | (exfalso; omega)
          | (rw [if_pos (show 2 ≤ code ∧ code ≤ 5 by omega)]; rfl)
          | (have h7 : code = 7 := f6.1
             have he0 := f6.2
             rw [if_neg (show ¬ (2 ≤ code ∧ code ≤ 5) by omega), if_pos h7, Nat.max_eq_right (show 1 ≤ e.natAbs by omega)] at *
             rw [show IntKind.i64.wrap (0 - e) = ((e.natAbs : Nat) : Int) by rw [IntWalk.i64_in _ (by omega)]; omega, ← Int.natCast_mul, IntWalk.i64_in _ (by omega)])
          | (have h7 : code = 7 := f7.1
             have he0 := f7.2
             rw [if_neg (show ¬ (2 ≤ code ∧ code ≤ 5) by omega), if_pos h7]
             have hmx : max 1 e.natAbs = e.natAbs := Nat.max_eq_right (show 1 ≤ e.natAbs by omega)
             rw [hmx] at hm20 ⊢
             have he1 : (l.getD a.toNat 0 : Int) * e = ((l.getD a.toNat 0 * e.natAbs : Nat) : Int) := by rw [Int.natCast_mul]; congr 1; omega
             rw [he1, IntWalk.i64_in _ (by omega)])
          | (by_cases h7 : code = 7
             · have he0 : e = 0 := by omega
               rw [if_neg (show ¬ (2 ≤ code ∧ code ≤ 5) by omega), if_pos h7, he0]
               show _ = ((_ * 1 : Nat) : Int)
               rw [Nat.mul_one]
             · rw [if_neg (show ¬ (2 ≤ code ∧ code ≤ 5) by omega), if_neg h7])
     ·
      have f5 := h5
      try simp only [bl] at f5
      refine c_skip (then_c (c_seq (c_seq (c_region ?_))))
      refine o_fieldAddr (T := 3) (off := 0) trivial rfl Tryz.underlying35 rfl rfl rfl Tryz.sizeOf3 rfl rfl ?_
      refine o_load1 trivial rfl Tryz.isAgg3 rfl (by repeat constructor) (by repeat constructor) ?_
      refine o_pv trivial rfl rfl ?_
      refine' o_and trivial trivial rfl rfl rfl rfl rfl rfl rfl rfl (fun hb86 => ?_) ?_
      rotate_left
      ·
       have fb86 := hb86
       try simp only [bl] at fb86
       refine o_fieldAddr (T := 3) (off := 3) (wants_some rfl rfl hb86) rfl Tryz.underlying35 rfl rfl rfl Tryz.sizeOf3 rfl rfl ?_
       refine o_load1 (wants_some rfl rfl hb86) rfl Tryz.isAgg3 rfl (by repeat constructor) (by repeat constructor) ?_
       refine o_pv (wants_some rfl rfl hb86) rfl rfl ?_
       refine o_nil ?_
       exact joins rfl
      refine o_nil (then_c ?_)
      refine c_cond rfl (fun h6 => ?_) (fun h6 => ?_)
      ·
       have f6 := h6
       try simp only [bl] at f6
       refine c_region ?_
       refine o_pv trivial rfl rfl ?_
       refine o_fieldAddr (T := 3) (off := 3) trivial rfl Tryz.underlying35 rfl rfl rfl Tryz.sizeOf3 rfl rfl ?_
       refine o_load1 trivial rfl Tryz.isAgg3 rfl (by repeat constructor) (by repeat constructor) ?_
       refine o_pv trivial rfl rfl ?_
       first | (refine o_mul trivial rfl rfl rfl ?_ ?_; (omega)) | refine o_pv trivial rfl rfl ?_
       refine o_pv trivial rfl rfl ?_
       refine o_nil (then_c (c_seq (c_seq (c_region ?_))))
       refine o_fieldAddr (T := 3) (off := 0) trivial rfl Tryz.underlying35 rfl rfl rfl Tryz.sizeOf3 rfl rfl ?_
       refine o_load1 trivial rfl Tryz.isAgg3 rfl (by repeat constructor) (by repeat constructor) ?_
       refine o_pv trivial rfl rfl ?_
       refine' o_and trivial trivial rfl rfl rfl rfl rfl rfl rfl rfl (fun hb99 => ?_) ?_
       rotate_left
       ·
        have fb99 := hb99
        try simp only [bl] at fb99
        refine o_fieldAddr (T := 3) (off := 3) (wants_some rfl rfl hb99) rfl Tryz.underlying35 rfl rfl rfl Tryz.sizeOf3 rfl rfl ?_
        refine o_load1 (wants_some rfl rfl hb99) rfl Tryz.isAgg3 rfl (by repeat constructor) (by repeat constructor) ?_
        refine o_pv (wants_some rfl rfl hb99) rfl rfl ?_
        refine o_nil ?_
        exact joins rfl
       refine o_nil (then_c ?_)
       refine c_cond rfl (fun h7 => ?_) (fun h7 => ?_)
       ·
        have f7 := h7
        try simp only [bl] at f7
        refine c_region ?_
        refine o_pv trivial rfl rfl ?_
        refine o_fieldAddr (T := 3) (off := 3) trivial rfl Tryz.underlying35 rfl rfl rfl Tryz.sizeOf3 rfl rfl ?_
        refine o_load1 trivial rfl Tryz.isAgg3 rfl (by repeat constructor) (by repeat constructor) ?_
        first | (refine o_mul trivial rfl rfl rfl ?_ ?_; (omega)) | refine o_pv trivial rfl rfl ?_
        refine o_pv trivial rfl rfl ?_
        refine o_nil (then_c (c_seq (c_region ?_)))
        iterate 2 refine o_pv trivial rfl rfl ?_
        refine o_nil (then_c (c_ret ?_))
        refine ret1 rfl rfl ?_
        refine leaf (Ext.refl _ _) (List.sublist_cons_self _ _) ⟨rfl, rfl, wRT_of hwr ?_⟩
        unfold wgtM
        dsimp only at hcd ⊢
        first
          | (exfalso; omega)
          | (rw [if_pos (show 2 ≤ code ∧ code ≤ 5 by omega)]; rfl)
          | (have h7 : code = 7 := f6.1
             have he0 := f6.2
             rw [if_neg (show ¬ (2 ≤ code ∧ code ≤ 5) by omega), if_pos h7, Nat.max_eq_right (show 1 ≤ e.natAbs by omega)] at *
             rw [show IntKind.i64.wrap (0 - e) = ((e.natAbs : Nat) : Int) by rw [IntWalk.i64_in _ (by omega)]; omega, ← Int.natCast_mul, IntWalk.i64_in _ (by omega)])
          | (have h7 : code = 7 := f7.1
             have he0 := f7.2
             rw [if_neg (show ¬ (2 ≤ code ∧ code ≤ 5) by omega), if_pos h7]
             have hmx : max 1 e.natAbs = e.natAbs := Nat.max_eq_right (show 1 ≤ e.natAbs by omega)
             rw [hmx] at hm20 ⊢
             have he1 : (l.getD a.toNat 0 : Int) * e = ((l.getD a.toNat 0 * e.natAbs : Nat) : Int) := by rw [Int.natCast_mul]; congr 1; omega
             rw [he1, IntWalk.i64_in _ (by omega)])
          | (by_cases h7 : code = 7
             · have he0 : e = 0 := by omega
               rw [if_neg (show ¬ (2 ≤ code ∧ code ≤ 5) by omega), if_pos h7, he0]
               show _ = ((_ * 1 : Nat) : Int)
               rw [Nat.mul_one]
             · rw [if_neg (show ¬ (2 ≤ code ∧ code ≤ 5) by omega), if_neg h7])
       ·
        have f7 := h7
        try simp only [bl] at f7
        refine c_skip (then_c (c_seq (c_region ?_)))
        iterate 2 refine o_pv trivial rfl rfl ?_
        refine o_nil (then_c (c_ret ?_))
        refine ret1 rfl rfl ?_
        refine leaf (Ext.refl _ _) (List.sublist_cons_self _ _) ⟨rfl, rfl, wRT_of hwr ?_⟩
        unfold wgtM
        dsimp only at hcd ⊢
        first
          | (exfalso; omega)
          | (rw [if_pos (show 2 ≤ code ∧ code ≤ 5 by omega)]; rfl)
          | (have h7 : code = 7 := f6.1
             have he0 := f6.2
             rw [if_neg (show ¬ (2 ≤ code ∧ code ≤ 5) by omega), if_pos h7, Nat.max_eq_right (show 1 ≤ e.natAbs by omega)] at *
             rw [show IntKind.i64.wrap (0 - e) = ((e.natAbs : Nat) : Int) by rw [IntWalk.i64_in _ (by omega)]; omega, ← Int.natCast_mul, IntWalk.i64_in _ (by omega)])
          | (have h7 : code = 7 := f7.1
             have he0 := f7.2
             rw [if_neg (show ¬ (2 ≤ code ∧ code ≤ 5) by omega), if_pos h7]
             have hmx : max 1 e.natAbs = e.natAbs := Nat.max_eq_right (show 1 ≤ e.natAbs by omega)
             rw [hmx] at hm20 ⊢
             have he1 : (l.getD a.toNat 0 : Int) * e = ((l.getD a.toNat 0 * e.natAbs : Nat) : Int) := by rw [Int.natCast_mul]; congr 1; omega
             rw [he1, IntWalk.i64_in _ (by omega)])
          | (by_cases h7 : code = 7
             · have he0 : e = 0 := by omega
               rw [if_neg (show ¬ (2 ≤ code ∧ code ≤ 5) by omega), if_pos h7, he0]
               show _ = ((_ * 1 : Nat) : Int)
               rw [Nat.mul_one]
             · rw [if_neg (show ¬ (2 ≤ code ∧ code ≤ 5) by omega), if_neg h7])
      ·
       have f6 := h6
       try simp only [bl] at f6
       refine c_skip (then_c (c_seq (c_seq (c_region ?_))))
       refine o_fieldAddr (T := 3) (off := 0) trivial rfl Tryz.underlying35 rfl rfl rfl Tryz.sizeOf3 rfl rfl ?_
       refine o_load1 trivial rfl Tryz.isAgg3 rfl (by repeat constructor) (by repeat constructor) ?_
       refine o_pv trivial rfl rfl ?_
       refine' o_and trivial trivial rfl rfl rfl rfl rfl rfl rfl rfl (fun hb99 => ?_) ?_
       rotate_left
       ·
        have fb99 := hb99
        try simp only [bl] at fb99
        refine o_fieldAddr (T := 3) (off := 3) (wants_some rfl rfl hb99) rfl Tryz.underlying35 rfl rfl rfl Tryz.sizeOf3 rfl rfl ?_
        refine o_load1 (wants_some rfl rfl hb99) rfl Tryz.isAgg3 rfl (by repeat constructor) (by repeat constructor) ?_
        refine o_pv (wants_some rfl rfl hb99) rfl rfl ?_
        refine o_nil ?_
        exact joins rfl
       refine o_nil (then_c ?_)
       refine c_cond rfl (fun h7 => ?_) (fun h7 => ?_)
       ·
        have f7 := h7
        try simp only [bl] at f7
        refine c_region ?_
        refine o_pv trivial rfl rfl ?_
        refine o_fieldAddr (T := 3) (off := 3) trivial rfl Tryz.underlying35 rfl rfl rfl Tryz.sizeOf3 rfl rfl ?_
        refine o_load1 trivial rfl Tryz.isAgg3 rfl (by repeat constructor) (by repeat constructor) ?_
        first | (refine o_mul trivial rfl rfl rfl ?_ ?_; (omega)) | refine o_pv trivial rfl rfl ?_
        refine o_pv trivial rfl rfl ?_
        refine o_nil (then_c (c_seq (c_region ?_)))
        iterate 2 refine o_pv trivial rfl rfl ?_
        refine o_nil (then_c (c_ret ?_))
        refine ret1 rfl rfl ?_
        refine leaf (Ext.refl _ _) (List.sublist_cons_self _ _) ⟨rfl, rfl, wRT_of hwr ?_⟩
        unfold wgtM
        dsimp only at hcd ⊢
        first
          | (exfalso; omega)
          | (rw [if_pos (show 2 ≤ code ∧ code ≤ 5 by omega)]; rfl)
          | (have h7 : code = 7 := f6.1
             have he0 := f6.2
             rw [if_neg (show ¬ (2 ≤ code ∧ code ≤ 5) by omega), if_pos h7, Nat.max_eq_right (show 1 ≤ e.natAbs by omega)] at *
             rw [show IntKind.i64.wrap (0 - e) = ((e.natAbs : Nat) : Int) by rw [IntWalk.i64_in _ (by omega)]; omega, ← Int.natCast_mul, IntWalk.i64_in _ (by omega)])
          | (have h7 : code = 7 := f7.1
             have he0 := f7.2
             rw [if_neg (show ¬ (2 ≤ code ∧ code ≤ 5) by omega), if_pos h7]
             have hmx : max 1 e.natAbs = e.natAbs := Nat.max_eq_right (show 1 ≤ e.natAbs by omega)
             rw [hmx] at hm20 ⊢
             have he1 : (l.getD a.toNat 0 : Int) * e = ((l.getD a.toNat 0 * e.natAbs : Nat) : Int) := by rw [Int.natCast_mul]; congr 1; omega
             rw [he1, IntWalk.i64_in _ (by omega)])
          | (by_cases h7 : code = 7
             · have he0 : e = 0 := by omega
               rw [if_neg (show ¬ (2 ≤ code ∧ code ≤ 5) by omega), if_pos h7, he0]
               show _ = ((_ * 1 : Nat) : Int)
               rw [Nat.mul_one]
             · rw [if_neg (show ¬ (2 ≤ code ∧ code ≤ 5) by omega), if_neg h7])
       ·
        have f7 := h7
        try simp only [bl] at f7
        refine c_skip (then_c (c_seq (c_region ?_)))
        iterate 2 refine o_pv trivial rfl rfl ?_
        refine o_nil (then_c (c_ret ?_))
        refine ret1 rfl rfl ?_
        refine leaf (Ext.refl _ _) (List.sublist_cons_self _ _) ⟨rfl, rfl, wRT_of hwr ?_⟩
        unfold wgtM
        dsimp only at hcd ⊢
        first
          | (exfalso; omega)
          | (rw [if_pos (show 2 ≤ code ∧ code ≤ 5 by omega)]; rfl)
          | (have h7 : code = 7 := f6.1
             have he0 := f6.2
             rw [if_neg (show ¬ (2 ≤ code ∧ code ≤ 5) by omega), if_pos h7, Nat.max_eq_right (show 1 ≤ e.natAbs by omega)] at *
             rw [show IntKind.i64.wrap (0 - e) = ((e.natAbs : Nat) : Int) by rw [IntWalk.i64_in _ (by omega)]; omega, ← Int.natCast_mul, IntWalk.i64_in _ (by omega)])
          | (have h7 : code = 7 := f7.1
             have he0 := f7.2
             rw [if_neg (show ¬ (2 ≤ code ∧ code ≤ 5) by omega), if_pos h7]
             have hmx : max 1 e.natAbs = e.natAbs := Nat.max_eq_right (show 1 ≤ e.natAbs by omega)
             rw [hmx] at hm20 ⊢
             have he1 : (l.getD a.toNat 0 : Int) * e = ((l.getD a.toNat 0 * e.natAbs : Nat) : Int) := by rw [Int.natCast_mul]; congr 1; omega
             rw [he1, IntWalk.i64_in _ (by omega)])
          | (by_cases h7 : code = 7
             · have he0 : e = 0 := by omega
               rw [if_neg (show ¬ (2 ≤ code ∧ code ≤ 5) by omega), if_pos h7, he0]
               show _ = ((_ * 1 : Nat) : Int)
               rw [Nat.mul_one]
             · rw [if_neg (show ¬ (2 ≤ code ∧ code ≤ 5) by omega), if_neg h7])
end Go.Proofs.YtjgbjaaekknenaaGreat
