/-
  ValueFront, part 5: the texts Ref1, Ref2, Ref3, Ref4, Ref5, Ref7, Ref8, Ref8b, Ref14, Ref14b, Ref15, Bound, Law15, Made14, Open15, Seat2, Made14b as one.
-/
import Derived.Test.YtjgbjaaekknenaaQValueFrontD
import Derived.Test.YtjgbjaaekknenaaRows
/-
  The document's answers for layers 1, 2, 3.
-/
namespace Go.Tw
open Go Go.RowKit
set_option linter.unusedVariables false
set_option linter.unusedSimpArgs false
set_option linter.unnecessarySimpa false
set_option maxHeartbeats 1000000
theorem wl_more {z : Int} {x : Nat} (O : List Nat) (h : z = x) : wl O ++ [.int .u32 z] = wl (O ++ [x]) := by subst h; simp [wl]
theorem take_more {A : List Nat} {i : Nat} (h : i < A.length) : A.take (i + 1) = A.take i ++ [dg A i] := by
  rw [List.take_add_one, dg_some h]; rfl
theorem eq_of_dg {A B : List Nat} (hl : A.length = B.length) (h : ∀ j, j < A.length → dg A j = dg B j) : A = B := by
  refine List.ext_getElem hl fun i h1 h2 => ?_
  have := h i h1
  rwa [dg_in h1, dg_in h2] at this
theorem cmp_lt {A B : List Nat} (hA : Wds A) (hB : Wds B) {i : Nat} (h : dg A i < dg B i) (he : ∀ t, i < t → dg A t = dg B t) : val A < val B := by
  have key : ∀ k, pre A (i + 1 + k) < pre B (i + 1 + k) := by
    intro k
    induction k with
    | zero =>
      have h1 := pre_lt hA i
      show pre A i + dg A i * 4294967296 ^ i < pre B i + dg B i * 4294967296 ^ i
      have h2 : (dg A i + 1) * 4294967296 ^ i ≤ dg B i * 4294967296 ^ i := Nat.mul_le_mul_right _ h
      rw [Nat.add_mul, Nat.one_mul] at h2
      omega
    | succ k ih =>
      show pre A (i + 1 + k) + dg A (i + 1 + k) * 4294967296 ^ (i + 1 + k) < pre B (i + 1 + k) + dg B (i + 1 + k) * 4294967296 ^ (i + 1 + k)
      rw [he (i + 1 + k) (by omega)]
      omega
  have h1 := key (A.length + B.length)
  rwa [pre_out (by omega), pre_out (by omega)] at h1
theorem val_same {A B : List Nat} (he : ∀ t, dg A t = dg B t) : val A = val B := by
  have h1 : pre A (A.length + B.length) = pre B (A.length + B.length) := pre_same fun j _ => he j
  rwa [pre_out (by omega), pre_out (by omega)] at h1
theorem val_more (O : List Nat) (x : Nat) : val (O ++ [x]) = val O + 4294967296 ^ O.length * x := by
  rw [val_app, val_cons, val_nil, Nat.mul_zero, Nat.add_zero]
theorem Wds.more {O : List Nat} (h : Wds O) {x : Nat} (hx : x < 4294967296) : Wds (O ++ [x]) := h.app (Wds_cons hx Wds_nil)
section
variable {P : Program} {Q : Exit → Act → World → Prop} {n : Nat} {D : List Deferred} {E : Env} {ops : Array Oper} {w0 : World} {I : Hp} {B B' : List Item}
theorem leafWX {w : World} {e : TypeId} {u v : Value} {O : List Nat} {I I1 : Hp} {B : List Item} {R : Value → Hp → List Item → Prop} (he : Ext w.heap.size I I1) (hw : Wds O) (hm : O.length ≤ maxLen) (h : ∀ I', I1.Le I' → Ws I' u O → R v I' []) :
    ∀ w', St w [] I1 (.row u e 1 O.length (wl O) :: B) w' → Post w [] I R v w' := by
  rw [← wcs_flat]
  exact leafRowX he (wcs_len O) (wcs_one O) hm fun I' hl hs => h I' hl ⟨hs, hw⟩
theorem l_sealO {l : List Oper} {e : TypeId} {u : Value} (O : List Nat) (ht : Take (.row u e 1 O.length (wl O)) B B') (hw : Wds O) (hm : O.length ≤ maxLen)
    (k : ∀ I', Ext w0.heap.size I I' → Ws I' u O → TL false P ops Q l n D E (St w0 [] I' B')) : TL false P ops Q l n D E (St w0 [] I B) :=
  l_seal (xss := wcs O) (by rw [wcs_flat]; exact ht) (wcs_len O) (wcs_one O) hm fun I' hx hs => k I' hx ⟨hs, hw⟩
theorem c_sealO {c : Code} {e : TypeId} {u : Value} (O : List Nat) (ht : Take (.row u e 1 O.length (wl O)) B B') (hw : Wds O) (hm : O.length ≤ maxLen)
    (k : ∀ I', Ext w0.heap.size I I' → Ws I' u O → TC P c Q n D E (St w0 [] I' B')) : TC P c Q n D E (St w0 [] I B) :=
  c_sealR (xss := wcs O) (by rw [wcs_flat]; exact ht) (wcs_len O) (wcs_one O) hm fun I' hx hs => k I' hx ⟨hs, hw⟩
end
end Go.Tw
namespace Go.Proofs.Ytjgbjaaekknenaa
open Go Go.Tw
set_option linter.unusedVariables false
set_option linter.unusedSimpArgs false
set_option linter.unnecessarySimpa false
set_option maxHeartbeats 1000000
theorem rLow_any (va : Value) (A : List Nat) {I : Hp} (ha : Ws I va A) (hs : A.length ≤ 1000000000) : Fun Try.prog 46 [va] I [] (fun v _ _ => v = .int .i64 (lowL A : Nat)) := by
  intro w hw
  refine enter1 _ Try.func46 rfl Try.ntmps46 rfl ?_ hw
  refine c_seq (c_region ?_)
  refine o_pv trivial rfl rfl ?_
  refine o_nil (then_c (c_seq (c_region ?_)))
  refine o_pv trivial rfl rfl ?_
  refine o_nil (then_c (c_seq (c_seq (c_region ?_))))
  refine o_pv trivial rfl rfl ?_
  refine o_nil (then_c (c_block ?_))
  refine c_loop (ι := Nat) [0] (.cons rfl .nil) (fun i => A.length - i) (fun i E0 => (3, .int .i64 (low A i : Nat)) :: (4, .int .i64 (i : Nat)) :: E0) (fun i => St w [] I []) (fun i => i ≤ A.length) (0) (sub_cons rfl (sub_cons rfl (sub_cons rfl sub_nil))) (fun _ h => h) (Nat.zero_le _) ?_
  rintro i hi
  try dsimp only
  refine c_seq (c_seq (c_region ?_))
  iterate 2 refine o_pv trivial rfl rfl ?_
  refine o_lenW trivial rfl Try.underlying38 rfl (ha) ?_
  refine o_pv trivial rfl rfl ?_
  refine o_nil (then_c ?_)
  refine c_cond rfl (fun h1 => ?_) (fun h1 => ?_)
  ·
   have f1 := h1
   try simp only [bl] at f1
   refine c_skip (then_c (c_seq (c_block (c_seq (c_region ?_)))))
   iterate 2 refine o_pv trivial rfl rfl ?_
   refine o_elemW trivial rfl Try.underlying38 Try.sizeOf58 rfl (ha) rfl (by omega) ?_
   refine o_load1I trivial rfl Try.isAgg58 rfl (ha.cellI (k := i) rfl (by omega)) ?_
   refine o_pv trivial rfl rfl ?_
   refine o_nil (then_c ?_)
   refine c_cond rfl (fun h2 => ?_) (fun h2 => ?_)
   ·
    have f2 := h2
    try simp only [bl] at f2
    have hlow : low A (i + 1) = i + 1 := by show (if dg A i = 0 then low A i else i + 1) = i + 1; rw [if_neg (by omega)]
    refine c_region ?_
    refine o_pv trivial rfl rfl ?_
    first | (refine o_add trivial rfl rfl rfl ?_ ?_; (omega)) | refine o_pv trivial rfl rfl ?_
    refine o_pv trivial rfl rfl ?_
    refine o_nil (blk_n (then_c (c_region ?_)))
    refine o_pv trivial rfl rfl ?_
    first | (refine o_add trivial rfl rfl rfl ?_ ?_; (omega)) | refine o_pv trivial rfl rfl ?_
    refine o_pv trivial rfl rfl ?_
    refine o_nil ?_
    exact again (i + 1) (by rw [hlow]; exact (sub_cons rfl (sub_cons rfl (sub_cons rfl sub_nil)))) (fun _ h => h) (by show A.length - (i + 1) < A.length - i; omega) (by show i + 1 ≤ _; omega)
   ·
    have f2 := h2
    try simp only [bl] at f2
    have hlow : low A (i + 1) = low A i := by show (if dg A i = 0 then low A i else i + 1) = low A i; rw [if_pos (by omega)]
    refine c_skip (blk_n (then_c (c_region ?_)))
    refine o_pv trivial rfl rfl ?_
    first | (refine o_add trivial rfl rfl rfl ?_ ?_; (omega)) | refine o_pv trivial rfl rfl ?_
    refine o_pv trivial rfl rfl ?_
    refine o_nil ?_
    exact again (i + 1) (by rw [hlow]; exact (sub_cons rfl (sub_cons rfl (sub_cons rfl sub_nil)))) (fun _ h => h) (by show A.length - (i + 1) < A.length - i; omega) (by show i + 1 ≤ _; omega)
  ·
   have f1 := h1
   try simp only [bl] at f1
   refine c_exit (then_x (then_x (blk_eq rfl (then_c (c_seq (c_region ?_))))))
   iterate 2 refine o_pv trivial rfl rfl ?_
   refine o_nil (then_c (c_ret ?_))
   refine ret1 rfl rfl ?_
   have hie : i = A.length := by omega
   subst hie; exact leaf0 rfl
theorem rWords_any (va vb : Value) (A B : List Nat) {I : Hp} (ha : Ws I va A) (hb : Ws I vb B) : Fun Try.prog 26 [va, vb] I [] (fun v _ _ => v = .bool (decide (A = B))) := by
  have hs := ha.most
  unfold maxLen at hs
  intro w hw
  refine enter2 _ Try.func26 rfl Try.ntmps26 rfl ?_ hw
  refine c_seq (c_region ?_)
  refine o_pv trivial rfl rfl ?_
  refine o_nil (then_c (c_seq (c_seq (c_region ?_))))
  refine o_pv trivial rfl rfl ?_
  refine o_lenW trivial rfl Try.underlying38 rfl (ha) ?_
  refine o_pv trivial rfl rfl ?_
  refine o_lenW trivial rfl Try.underlying38 rfl (hb) ?_
  refine o_pv trivial rfl rfl ?_
  refine o_nil (then_c ?_)
  refine c_cond rfl (fun h1 => ?_) (fun h1 => ?_)
  ·
   have f1 := h1
   try simp only [bl] at f1
   refine c_seq (c_region ?_)
   refine o_pv trivial rfl rfl ?_
   refine o_nil (then_c (c_ret (then_r ?_)))
   refine ret1 rfl rfl ?_
   refine leaf0 (congrArg Value.bool ?_); rw [decide_eq_false]; intro e; exact f1 (by rw [e])
  ·
   have f1 := h1
   try simp only [bl] at f1
   refine c_skip (then_c (c_seq (c_seq (c_region ?_))))
   refine o_pv trivial rfl rfl ?_
   refine o_nil (then_c (c_block ?_))
   refine c_loop (ι := Nat) [0, 1] (.cons rfl (.cons rfl .nil)) (fun i => A.length - i) (fun i E0 => (5, .int .i64 (i : Nat)) :: E0) (fun i => St w [] I []) (fun i => i ≤ A.length ∧ ∀ j, j < i → dg A j = dg B j) (0) (sub_cons rfl (sub_cons rfl (sub_cons rfl sub_nil))) (fun _ h => h) (⟨Nat.zero_le _, fun j h => absurd h (Nat.not_lt_zero _)⟩) ?_
   rintro i ⟨hi, he⟩
   try dsimp only
   refine c_seq (c_seq (c_region ?_))
   iterate 2 refine o_pv trivial rfl rfl ?_
   refine o_lenW trivial rfl Try.underlying38 rfl (ha) ?_
   refine o_pv trivial rfl rfl ?_
   refine o_nil (then_c ?_)
   refine c_cond rfl (fun h2 => ?_) (fun h2 => ?_)
   ·
    have f2 := h2
    try simp only [bl] at f2
    refine c_skip (then_c (c_seq (c_block (c_seq ?_))))
    refine c_quiet (by kernel_rfl) (by kernel_rfl) (fun _ h => h.drawn) ?_
    iterate 2 refine o_pv trivial rfl rfl ?_
    refine o_elemW trivial rfl Try.underlying38 Try.sizeOf58 rfl (ha) rfl (by omega) ?_
    refine o_load1I trivial rfl Try.isAgg58 rfl (ha.cellI (k := i) rfl (by omega)) ?_
    iterate 2 refine o_pv trivial rfl rfl ?_
    refine o_elemW trivial rfl Try.underlying38 Try.sizeOf58 rfl (hb) rfl (by omega) ?_
    refine o_load1I trivial rfl Try.isAgg58 rfl (hb.cellI (k := i) rfl (by omega)) ?_
    refine o_pv trivial rfl rfl ?_
    refine o_nil (then_c ?_)
    refine c_cond rfl (fun h3 => ?_) (fun h3 => ?_)
    ·
     have f3 := h3
     try simp only [bl] at f3
     refine c_seq (c_region ?_)
     refine o_pv trivial rfl rfl ?_
     refine o_nil (then_c (c_ret (blk_r (then_r (then_r (blk_r (then_r ?_)))))))
     refine ret1 rfl rfl ?_
     refine leaf0 (congrArg Value.bool ?_); rw [decide_eq_false]; intro e; exact f3 (by rw [e])
    ·
     have f3 := h3
     try simp only [bl] at f3
     refine c_skip (blk_n (then_c (c_region ?_)))
     refine o_pv trivial rfl rfl ?_
     first | (refine o_add trivial rfl rfl rfl ?_ ?_; (omega)) | refine o_pv trivial rfl rfl ?_
     refine o_pv trivial rfl rfl ?_
     refine o_nil ?_
     exact again (i + 1) (sub_cons rfl (sub_cons rfl (sub_cons rfl sub_nil))) (fun _ h => h) (by show A.length - (i + 1) < A.length - i; omega) ⟨by show i + 1 ≤ _; omega, fun j hj => by
       by_cases hji : j = i
       · subst hji; omega
       · exact he j (by omega)⟩
   ·
    have f2 := h2
    try simp only [bl] at f2
    refine c_exit (then_x (then_x (blk_eq rfl (then_c (c_seq (c_region ?_))))))
    refine o_pv trivial rfl rfl ?_
    refine o_nil (then_c (c_ret ?_))
    refine ret1 rfl rfl ?_
    refine leaf0 (congrArg Value.bool ?_); rw [decide_eq_true]; exact eq_of_dg (by omega) fun j hj => he j (by omega)
theorem rTrim_any (va : Value) (A : List Nat) {I : Hp} (ha : Ws I va A) (hs : A.length ≤ 1000000000) : Fun Try.prog 31 [va] I [] (fun v I' _ => Ws I' v (natW (val A))) := by
  have hle : lowL A ≤ A.length := low_le A _
  intro w hw
  refine enter1 _ Try.func31 rfl Try.ntmps31 rfl ?_ hw
  refine c_seq (c_region ?_)
  refine o_pv trivial rfl rfl ?_
  refine o_nil (then_c (c_seq (c_region ?_)))
  refine o_pv trivial rfl rfl ?_
  refine o_callQ trivial rfl Try.call46 rfl (rLow_any _ _ ha hs) ?_
  refine o_pv trivial rfl rfl ?_
  refine o_nil (then_c (c_seq (c_region ?_)))
  refine o_pv trivial rfl rfl ?_
  refine o_nil (then_c (c_seq (c_seq (c_region ?_))))
  refine o_pv trivial rfl rfl ?_
  refine o_nil (then_c (c_block ?_))
  refine c_loop (ι := Nat × Value) [0, 3] (.cons rfl (.cons rfl .nil)) (fun x => lowL A - x.1) (fun x E0 => (4, x.2) :: (5, .int .i64 (x.1 : Nat)) :: E0) (fun x => St w [] I [.row x.2 58 1 x.1 (wl (A.take x.1))]) (fun x => x.1 ≤ lowL A) ((0, .slice none 0 0)) (sub_cons rfl (sub_cons rfl (sub_cons rfl (sub_cons rfl sub_nil)))) (fun _ h => h.nilRow _ _) (Nat.zero_le _) ?_
  rintro ⟨i, u⟩ hi
  try dsimp only
  simp only at hi
  refine c_seq (c_seq (c_region ?_))
  iterate 3 refine o_pv trivial rfl rfl ?_
  refine o_nil (then_c ?_)
  refine c_cond rfl (fun h1 => ?_) (fun h1 => ?_)
  ·
   have f1 := h1
   try simp only [bl] at f1
   refine c_skip (then_c (c_seq (c_block (c_region ?_))))
   iterate 3 refine o_pv trivial rfl rfl ?_
   refine o_elemW trivial rfl Try.underlying38 Try.sizeOf58 rfl (ha) rfl (by omega) ?_
   refine o_load1I trivial rfl Try.isAgg58 rfl (ha.cellI (k := i) rfl (by omega)) ?_
   refine o_buildSl trivial rfl Try.underlying38 Try.sizeOf58 Try.zeroValue58 (by decide) (by decide) rfl (by repeat first | exact rfl | constructor) rfl (fun b18 => ?_)
   refine o_appendBox trivial rfl Try.underlying38 (elem58) (by decide) rfl rfl (fun v' => (by repeat constructor)) (by repeat constructor) rfl (by first | rfl | decide) (by first | omega | (unfold maxLen; omega)) (by omega) (fun v19 => ?_)
   refine o_pv trivial rfl rfl ?_
   refine o_nil (blk_n (then_c (c_region ?_)))
   refine o_pv trivial rfl rfl ?_
   first | (refine o_add trivial rfl rfl rfl ?_ ?_; (omega)) | refine o_pv trivial rfl rfl ?_
   refine o_pv trivial rfl rfl ?_
   refine o_nil ?_
   exact again (i + 1, v19) (sub_cons rfl (sub_cons rfl (sub_cons rfl (sub_cons rfl sub_nil)))) (fun _ h => by rw [take_more (by omega), ← wl_more _ rfl]; exact h.sort (by repeat constructor)) (by show lowL A - (i + 1) < lowL A - i; omega) (by show i + 1 ≤ _; omega)
  ·
   have f1 := h1
   try simp only [bl] at f1
   refine c_exit (then_x (then_x (blk_eq rfl (then_c (c_seq (c_region ?_))))))
   iterate 2 refine o_pv trivial rfl rfl ?_
   refine o_nil (then_c (c_ret ?_))
   refine ret1 rfl rfl ?_
   have hie : i = lowL A := by omega
   subst hie
   have hlen : (A.take (lowL A)).length = lowL A := by rw [List.length_take]; omega
   have hm := ha.most
   exact fun w' hw' => leafWX (O := A.take (lowL A)) (Ext.refl _ _) (ha.wds.take _) (by omega) (fun I' hl hs => by rw [← trim_eq ha.wds]; exact hs) w' (by rw [hlen]; exact hw')
theorem rAt_any (va : Value) (A : List Nat) (i : Int) (k : Nat) {I : Hp} (ha : Ws I va A) (hi : i = k) : Fun Try.prog 75 [va, .int .i64 i] I [] (fun v _ _ => v = .int .u64 (dg A k : Nat)) := by
  subst hi
  intro w hw
  refine enter2 _ Try.func75 rfl Try.ntmps75 rfl ?_ hw
  refine c_seq (c_region ?_)
  refine o_pv trivial rfl rfl ?_
  refine o_nil (then_c (c_seq (c_seq (c_region ?_))))
  iterate 2 refine o_pv trivial rfl rfl ?_
  refine' o_or trivial trivial rfl rfl rfl rfl rfl rfl rfl rfl (fun hb7 => ?_) ?_
  rotate_left
  ·
   have fb7 := hb7
   try simp only [bl] at fb7
   iterate 2 refine o_pv (wants_some rfl rfl hb7) rfl rfl ?_
   refine o_lenW (wants_some rfl rfl hb7) rfl Try.underlying38 rfl (ha) ?_
   refine o_pv (wants_some rfl rfl hb7) rfl rfl ?_
   refine o_nil ?_
   exact joins rfl
  refine o_nil (then_c ?_)
  refine c_cond rfl (fun h1 => ?_) (fun h1 => ?_)
  ·
   have f1 := h1
   try simp only [bl] at f1
   refine c_seq (c_region ?_)
   refine o_pv trivial rfl rfl ?_
   refine o_nil (then_c (c_ret (then_r ?_)))
   refine ret1 rfl rfl ?_
   refine leaf0 (congrArg (Value.int .u64) ?_); rw [dg_out (by omega)]; rfl
  ·
   have f1 := h1
   try simp only [bl] at f1
   refine c_skip (then_c (c_seq (c_region ?_)))
   iterate 2 refine o_pv trivial rfl rfl ?_
   refine o_elemW trivial rfl Try.underlying38 Try.sizeOf58 rfl (ha) rfl (by omega) ?_
   refine o_load1I trivial rfl Try.isAgg58 rfl (ha.cellI (k := k) rfl (by omega)) ?_
   have hdl := dg_lt ha.wds k
   first | refine o_convIn trivial rfl Try.underlying58 Try.underlying70 rfl (by rw [IntWalk.u64_in _ (by omega)]) ?_ | refine o_conv trivial rfl Try.underlying58 Try.underlying70 rfl ?_
   refine o_pv trivial rfl rfl ?_
   refine o_nil (then_c (c_ret ?_))
   refine ret1 rfl rfl ?_
   exact leaf0 rfl
theorem rOf_any (n : Nat) {I : Hp} (hn : n < 18446744073709551616) : Fun Try.prog 28 [.int .u64 (n : Int)] I [] (fun v I' _ => Ws I' v (natW n)) := by
  have hnl : (natW n).length ≤ 2 := natW_len_le (by rw [show (4294967296 : Nat) ^ 2 = 18446744073709551616 by decide]; exact hn)
  intro w hw
  refine enter1 _ Try.func28 rfl Try.ntmps28 rfl ?_ hw
  refine c_seq (c_region ?_)
  refine o_pv trivial rfl rfl ?_
  refine o_nil (then_c (c_seq (c_region ?_)))
  refine o_pv trivial rfl rfl ?_
  refine o_nil (then_c (c_seq (c_block ?_)))
  refine c_loop (ι := Nat × List Nat × Value) [] .nil (fun x => x.1) (fun x E0 => (0, .int .u64 (x.1 : Nat)) :: (3, x.2.2) :: E0) (fun x => St w [] I [.row x.2.2 58 1 x.2.1.length (wl x.2.1)]) (fun x => x.2.1 ++ natW x.1 = natW n ∧ x.1 < 18446744073709551616) ((n, [], .slice none 0 0)) (sub_cons rfl (sub_cons rfl sub_nil)) (fun _ h => h.nilRow _ _) (⟨rfl, hn⟩) ?_
  rintro ⟨m, O, u⟩ ⟨hO, hm⟩
  try dsimp only
  simp only at hO hm; have hol : O.length ≤ 2 := by rw [← hO, List.length_append] at hnl; omega
  refine c_seq (c_seq (c_region ?_))
  iterate 2 refine o_pv trivial rfl rfl ?_
  refine o_nil (then_c ?_)
  refine c_cond rfl (fun h1 => ?_) (fun h1 => ?_)
  ·
   have f1 := h1
   try simp only [bl] at f1
   have hm0 : m ≠ 0 := by omega
   refine c_skip (then_c (c_block (c_seq (c_region ?_))))
   iterate 2 refine o_pv trivial rfl rfl ?_
   refine o_rem trivial rfl rfl rfl (by omega) ?_
   refine o_convIn trivial rfl Try.underlying70 Try.underlying58 rfl (by rw [IntWalk.u32_in _ (by omega)]) ?_
   refine o_buildSl trivial rfl Try.underlying38 Try.sizeOf58 Try.zeroValue58 (by decide) (by decide) rfl (by repeat first | exact rfl | constructor) rfl (fun b10 => ?_)
   refine o_appendBox trivial rfl Try.underlying38 (elem58) (by decide) rfl rfl (fun v' => (by repeat constructor)) (by repeat constructor) rfl (by first | rfl | decide) (by first | omega | (unfold maxLen; omega)) (by omega) (fun v11 => ?_)
   refine o_pv trivial rfl rfl ?_
   refine o_nil (then_c (c_region ?_))
   refine o_pv trivial rfl rfl ?_
   refine o_quo trivial rfl rfl rfl (by omega) (by first | rfl | rw [IntWalk.u64_in _ (by omega)]) ?_
   refine o_pv trivial rfl rfl ?_
   refine o_nil (blk_n ?_)
   exact again (m / 4294967296, O ++ [m % 4294967296], v11) (sub_cons rfl (sub_cons rfl sub_nil)) (fun _ h => by rw [← wl_more O (z := (m : Int) % 4294967296) (by omega), List.length_append]; exact h.sort (by repeat constructor)) (by show m / 4294967296 < m; omega) ⟨by show (O ++ [m % 4294967296]) ++ natW (m / 4294967296) = natW n; rw [← hO, natW_pos hm0]; simp, by show m / 4294967296 < _; omega⟩
  ·
   have f1 := h1
   try simp only [bl] at f1
   refine c_exit (then_x (then_x (blk_eq rfl (then_c (c_seq (c_region ?_))))))
   iterate 2 refine o_pv trivial rfl rfl ?_
   refine o_nil (then_c (c_ret ?_))
   refine ret1 rfl rfl ?_
   have hm0 : m = 0 := by omega
   subst hm0
   rw [natW_zero, List.append_nil] at hO
   exact leafWX (Ext.refl _ _) (by rw [hO]; exact Wds_natW n) (by unfold maxLen; omega) (fun I' hl hs => by rw [← hO]; exact hs)
theorem rCmp_any (va vb : Value) (A B : List Nat) {I : Hp} (ha : Ws I va A) (hb : Ws I vb B) (hs : A.length ≤ 1000000000) (hs2 : B.length ≤ 1000000000) : Fun Try.prog 59 [va, vb] I [] (fun v _ _ => v = .int .i64 (cmpZ (val A : Nat) (val B : Nat))) := by
  intro w hw
  refine enter2 _ Try.func59 rfl Try.ntmps59 rfl ?_ hw
  refine c_seq (c_region ?_)
  refine o_pv trivial rfl rfl ?_
  refine o_nil (then_c (c_seq (c_region ?_)))
  refine o_pv trivial rfl rfl ?_
  refine o_lenW trivial rfl Try.underlying38 rfl (ha) ?_
  refine o_pv trivial rfl rfl ?_
  refine o_lenW trivial rfl Try.underlying38 rfl (hb) ?_
  refine o_max2 trivial rfl rfl rfl ?_
  refine o_pv trivial rfl rfl ?_
  refine o_nil (then_c (c_seq (c_seq (c_region ?_))))
  refine o_pv trivial rfl rfl ?_
  first | (refine o_sub trivial rfl rfl rfl ?_ ?_; (omega)) | refine o_pv trivial rfl rfl ?_
  refine o_pv trivial rfl rfl ?_
  refine o_nil (then_c (c_block ?_))
  refine c_loop (ι := Nat × Int) [0, 1] (.cons rfl (.cons rfl .nil)) (fun x => x.1) (fun x E0 => (6, .int .i64 x.2) :: E0) (fun x => St w [] I []) (fun x => x.2 = (x.1 : Int) - 1 ∧ x.1 ≤ 1000000000 ∧ ∀ t, x.1 ≤ t → dg A t = dg B t) ((max A.length B.length, max (A.length : Int) (B.length : Int) - 1)) (sub_cons rfl (sub_cons rfl (sub_cons rfl sub_nil))) (fun _ h => h) (⟨by simp only; omega, by show max A.length B.length ≤ _; omega, fun t ht => by have h9 : max A.length B.length ≤ t := ht; rw [dg_out (by omega), dg_out (by omega)]⟩) ?_
  rintro ⟨j, z⟩ ⟨hz, hj, he⟩
  try dsimp only
  simp only at hz hj he; subst hz
  refine c_seq (c_seq (c_region ?_))
  iterate 2 refine o_pv trivial rfl rfl ?_
  refine o_nil (then_c ?_)
  refine c_cond rfl (fun h1 => ?_) (fun h1 => ?_)
  ·
   have f1 := h1
   try simp only [bl] at f1
   refine c_skip (then_c (c_seq (c_block (c_seq (c_seq (c_region ?_))))))
   iterate 2 refine o_pv trivial rfl rfl ?_
   refine o_callQ trivial rfl Try.call75 rfl (rAt_any _ A _ (j - 1) ha (by omega)) ?_
   iterate 2 refine o_pv trivial rfl rfl ?_
   refine o_callQ trivial rfl Try.call75 rfl (rAt_any _ B _ (j - 1) hb (by omega)) ?_
   refine o_pv trivial rfl rfl ?_
   refine o_nil (then_c ?_)
   refine c_cond rfl (fun h2 => ?_) (fun h2 => ?_)
   ·
    have f2 := h2
    try simp only [bl] at f2
    refine c_seq (c_region ?_)
    refine o_pv trivial rfl rfl ?_
    refine o_nil (then_c (c_ret (then_r (blk_r (then_r (then_r (blk_r (then_r ?_))))))))
    refine ret1 rfl rfl ?_
    refine leaf0 (congrArg (Value.int .i64) ?_)
    have := cmp_lt ha.wds hb.wds (i := j - 1) (by omega) (fun t ht => he t (by omega))
    rw [cmpZ_lt (by omega)]
   ·
    have f2 := h2
    try simp only [bl] at f2
    refine c_skip (then_c (c_seq (c_region ?_)))
    iterate 2 refine o_pv trivial rfl rfl ?_
    refine o_callQ trivial rfl Try.call75 rfl (rAt_any _ A _ (j - 1) ha (by omega)) ?_
    iterate 2 refine o_pv trivial rfl rfl ?_
    refine o_callQ trivial rfl Try.call75 rfl (rAt_any _ B _ (j - 1) hb (by omega)) ?_
    refine o_pv trivial rfl rfl ?_
    refine o_nil (then_c ?_)
    refine c_cond rfl (fun h3 => ?_) (fun h3 => ?_)
    ·
     have f3 := h3
     try simp only [bl] at f3
     refine c_seq (c_region ?_)
     refine o_pv trivial rfl rfl ?_
     refine o_nil (then_c (c_ret (blk_r (then_r (then_r (blk_r (then_r ?_)))))))
     refine ret1 rfl rfl ?_
     refine leaf0 (congrArg (Value.int .i64) ?_)
     have := cmp_lt hb.wds ha.wds (i := j - 1) (by omega) (fun t ht => (he t (by omega)).symm)
     rw [cmpZ_gt (by omega)]
    ·
     have f3 := h3
     try simp only [bl] at f3
     refine c_skip (blk_n (then_c (c_region ?_)))
     refine o_pv trivial rfl rfl ?_
     first | (refine o_sub trivial rfl rfl rfl ?_ ?_; (omega)) | refine o_pv trivial rfl rfl ?_
     refine o_pv trivial rfl rfl ?_
     refine o_nil ?_
     exact again (j - 1, (j : Int) - 1 - 1) (sub_cons rfl (sub_cons rfl (sub_cons rfl sub_nil))) (fun _ h => h) (by show j - 1 < j; omega) ⟨by simp only; omega, by show j - 1 ≤ _; omega, fun t ht => by
       have h9 : j - 1 ≤ t := ht
       by_cases htj : t = j - 1
       · subst htj; omega
       · exact he t (by omega)⟩
  ·
   have f1 := h1
   try simp only [bl] at f1
   refine c_exit (then_x (then_x (blk_eq rfl (then_c (c_seq (c_region ?_))))))
   refine o_pv trivial rfl rfl ?_
   refine o_nil (then_c (c_ret ?_))
   refine ret1 rfl rfl ?_
   refine leaf0 (congrArg (Value.int .i64) ?_)
   rw [val_same (A := A) (B := B) fun t => he t (by omega), cmpZ_self]
end Go.Proofs.Ytjgbjaaekknenaa
/-
  The document's answers for layers 2, 3: sums, differences, products.
-/
namespace Go.Tw
set_option linter.unusedVariables false
set_option maxHeartbeats 1000000
theorem pre_end {A : List Nat} {k : Nat} (h : A.length ≤ k) : pre A k = val A := pre_out h
/-- One word more of a sum. -/
theorem sum_step {O : List Nat} {T i s c c' a : Nat} (hl : O.length = i) (h : val O + 4294967296 ^ i * c = T) (hs : s + 4294967296 * c' = a + c) : val (O ++ [s]) + 4294967296 ^ (i + 1) * c' = T + a * 4294967296 ^ i := by
  rw [val_more, hl, pow_succ]
  have e1 : 4294967296 ^ i * 4294967296 * c' = 4294967296 ^ i * (4294967296 * c') := Nat.mul_assoc _ _ _
  have e2 : 4294967296 ^ i * s + 4294967296 ^ i * (4294967296 * c') = 4294967296 ^ i * a + 4294967296 ^ i * c := by rw [← Nat.mul_add, ← Nat.mul_add, hs]
  have e3 : a * 4294967296 ^ i = 4294967296 ^ i * a := Nat.mul_comm _ _
  rw [e1, e3]
  generalize 4294967296 ^ i * s = x1 at *
  generalize 4294967296 ^ i * (4294967296 * c') = x2 at *
  generalize 4294967296 ^ i * a = x3 at *
  generalize 4294967296 ^ i * c = x4 at *
  omega
/-- One word more of a difference. -/
theorem diff_step {O : List Nat} {T U i s c c' a b : Nat} (hl : O.length = i) (h : val O + U = T + 4294967296 ^ i * c) (hs : s + b + c = a + 4294967296 * c') : val (O ++ [s]) + (U + b * 4294967296 ^ i) = (T + a * 4294967296 ^ i) + 4294967296 ^ (i + 1) * c' := by
  rw [val_more, hl, pow_succ]
  have e1 : 4294967296 ^ i * 4294967296 * c' = 4294967296 ^ i * (4294967296 * c') := Nat.mul_assoc _ _ _
  have e2 : 4294967296 ^ i * s + 4294967296 ^ i * b + 4294967296 ^ i * c = 4294967296 ^ i * a + 4294967296 ^ i * (4294967296 * c') := by rw [← Nat.mul_add, ← Nat.mul_add, ← Nat.mul_add, hs]
  have e3 : a * 4294967296 ^ i = 4294967296 ^ i * a := Nat.mul_comm _ _
  have e4 : b * 4294967296 ^ i = 4294967296 ^ i * b := Nat.mul_comm _ _
  rw [e1, e3, e4]
  generalize 4294967296 ^ i * s = x1 at *
  generalize 4294967296 ^ i * (4294967296 * c') = x2 at *
  generalize 4294967296 ^ i * a = x3 at *
  generalize 4294967296 ^ i * b = x5 at *
  generalize 4294967296 ^ i * c = x4 at *
  omega
theorem word_mul {a w c : Nat} (ha : a < 4294967296) (hw : w < 4294967296) (hc : c < 4294967296) : a * w + c < 4294967296 * 4294967296 := by
  have h1 : a * w ≤ 4294967295 * 4294967295 := Nat.mul_le_mul (by omega) (by omega)
  omega
end Go.Tw
namespace Go.Proofs.Ytjgbjaaekknenaa
open Go Go.Tw
set_option linter.unusedVariables false
set_option linter.unusedSimpArgs false
set_option linter.unnecessarySimpa false
set_option maxHeartbeats 1000000
theorem rSub_any (va vb : Value) (A B : List Nat) {I : Hp} (ha : Ws I va A) (hb : Ws I vb B) (hs : A.length ≤ 100000000) (hs2 : B.length ≤ 100000000) (hle : val B ≤ val A) : Fun Try.prog 60 [va, vb] I [] (fun v I' _ => ∃ u, v = .tuple #[u, .bool true] ∧ Ws I' u (natW (val A - val B))) := by
  have hcmp : ¬ cmpZ (val A : Nat) (val B : Nat) < 0 := by unfold cmpZ; split <;> (try split) <;> omega
  intro w hw
  refine enter2 _ Try.func60 rfl Try.ntmps60 rfl ?_ hw
  refine c_seq (c_region ?_)
  iterate 2 refine o_pv trivial rfl rfl ?_
  refine o_nil (then_c (c_seq (c_seq (c_region ?_))))
  iterate 2 refine o_pv trivial rfl rfl ?_
  refine o_callQ trivial rfl Try.call59 rfl (rCmp_any _ _ _ _ ha hb (by omega) (by omega)) ?_
  refine o_pv trivial rfl rfl ?_
  refine o_nil (then_c ?_)
  refine c_cond rfl (fun h1 => ?_) (fun h1 => ?_)
  ·
   have f1 := h1
   try simp only [bl] at f1
   exfalso; exact hcmp f1
  ·
   have f1 := h1
   try simp only [bl] at f1
   refine c_skip (then_c (c_seq (c_region ?_)))
   refine o_pv trivial rfl rfl ?_
   refine o_nil (then_c (c_seq (c_region ?_)))
   refine o_pv trivial rfl rfl ?_
   refine o_nil (then_c (c_seq (c_seq (c_region ?_))))
   refine o_pv trivial rfl rfl ?_
   refine o_nil (then_c (c_block ?_))
   refine c_loop (ι := Nat × Nat × List Nat × Value) [0, 1] (.cons rfl (.cons rfl .nil)) (fun x => A.length - x.1) (fun x E0 => (6, x.2.2.2) :: (7, .int .u64 (x.2.1 : Nat)) :: (8, .int .i64 (x.1 : Nat)) :: E0) (fun x => St w [] I [.row x.2.2.2 58 1 x.2.2.1.length (wl x.2.2.1)]) (fun x => x.1 ≤ A.length ∧ x.2.1 ≤ 1 ∧ x.2.2.1.length = x.1 ∧ Wds x.2.2.1 ∧ val x.2.2.1 + pre B x.1 = pre A x.1 + 4294967296 ^ x.1 * x.2.1) ((0, 0, [], .slice none 0 0)) (sub_cons rfl (sub_cons rfl (sub_cons rfl (sub_cons rfl (sub_cons rfl sub_nil))))) (fun _ h => h.nilRow _ _) (⟨Nat.zero_le _, by decide, rfl, Wds_nil, rfl⟩) ?_
   rintro ⟨i, c, O, u⟩ ⟨hi, hc, hol, hO, hv⟩
   try dsimp only
   simp only at hi hc hol hO hv; have hda := dg_lt ha.wds i; have hdb := dg_lt hb.wds i
   refine c_seq (c_seq (c_region ?_))
   iterate 2 refine o_pv trivial rfl rfl ?_
   refine o_lenW trivial rfl Try.underlying38 rfl (ha) ?_
   refine o_pv trivial rfl rfl ?_
   refine o_nil (then_c ?_)
   refine c_cond rfl (fun h2 => ?_) (fun h2 => ?_)
   ·
    have f2 := h2
    try simp only [bl] at f2
    refine c_skip (then_c (c_seq (c_block (c_seq (c_region ?_)))))
    iterate 2 refine o_pv trivial rfl rfl ?_
    refine o_callQ trivial rfl Try.call75 rfl (rAt_any _ A _ i ha rfl) ?_
    first | refine o_arA trivial rfl rfl rfl (by rw [IntWalk.u64_in _ (by omega)]) ?_ | refine o_pv trivial rfl rfl ?_
    iterate 2 refine o_pv trivial rfl rfl ?_
    refine o_callQ trivial rfl Try.call75 rfl (rAt_any _ B _ i hb rfl) ?_
    first | refine o_arS trivial rfl rfl rfl (by rw [IntWalk.u64_in _ (by omega)]) ?_ | refine o_pv trivial rfl rfl ?_
    refine o_pv trivial rfl rfl ?_
    first | refine o_arS trivial rfl rfl rfl (by rw [IntWalk.u64_in _ (by omega)]) ?_ | refine o_pv trivial rfl rfl ?_
    refine o_pv trivial rfl rfl ?_
    refine o_nil (then_c (c_seq (c_region ?_)))
    iterate 2 refine o_pv trivial rfl rfl ?_
    refine o_rem trivial rfl rfl rfl (by omega) ?_
    refine o_convIn trivial rfl Try.underlying70 Try.underlying58 rfl (by rw [IntWalk.u32_in _ (by omega)]) ?_
    refine o_buildSl trivial rfl Try.underlying38 Try.sizeOf58 Try.zeroValue58 (by decide) (by decide) rfl (by repeat first | exact rfl | constructor) rfl (fun b34 => ?_)
    refine o_appendBox trivial rfl Try.underlying38 (elem58) (by decide) rfl rfl (fun v' => (by repeat constructor)) (by repeat constructor) rfl (by first | rfl | decide) (by first | omega | (unfold maxLen; omega)) (by omega) (fun v35 => ?_)
    refine o_pv trivial rfl rfl ?_
    refine o_nil (then_c (c_region ?_))
    refine o_pv trivial rfl rfl ?_
    refine o_quo trivial rfl rfl rfl (by omega) (by first | rfl | rw [IntWalk.u64_in _ (by omega)]) ?_
    first | refine o_arS trivial rfl rfl rfl (by rw [IntWalk.u64_in _ (by omega)]) ?_ | refine o_pv trivial rfl rfl ?_
    refine o_pv trivial rfl rfl ?_
    refine o_nil (blk_n (then_c (c_region ?_)))
    refine o_pv trivial rfl rfl ?_
    first | (refine o_add trivial rfl rfl rfl ?_ ?_; (omega)) | refine o_pv trivial rfl rfl ?_
    refine o_pv trivial rfl rfl ?_
    refine o_nil ?_
    have hst := diff_step (s := (4294967296 + dg A i - dg B i - c) % 4294967296) (c' := 1 - (4294967296 + dg A i - dg B i - c) / 4294967296) (a := dg A i) (b := dg B i) hol hv (by omega)
    have e7 : (1 : Int) - (4294967296 + (dg A i : Int) - (dg B i : Int) - (c : Int)) / 4294967296 = ((1 - (4294967296 + dg A i - dg B i - c) / 4294967296 : Nat) : Int) := by omega
    exact again (i + 1, 1 - (4294967296 + dg A i - dg B i - c) / 4294967296, O ++ [(4294967296 + dg A i - dg B i - c) % 4294967296], v35) (by rw [e7]; exact (sub_cons rfl (sub_cons rfl (sub_cons rfl (sub_cons rfl (sub_cons rfl sub_nil)))))) (fun _ h => by rw [← wl_more O (z := (4294967296 + (dg A i : Int) - (dg B i : Int) - (c : Int)) % 4294967296) (by omega), List.length_append]; exact h.sort (by repeat constructor)) (by show A.length - (i + 1) < A.length - i; omega) ⟨by show i + 1 ≤ _; omega, by show 1 - _ ≤ 1; omega, by show (O ++ [_]).length = i + 1; rw [List.length_append, hol]; rfl, hO.more (by omega), hst⟩
   ·
    have f2 := h2
    try simp only [bl] at f2
    refine c_exit (then_x (then_x (blk_eq rfl (then_c (c_seq ?_)))))
    have hie : i = A.length := by omega
    subst hie
    rw [pre_end (Nat.le_refl _)] at hv
    have hB : pre B A.length = val B := by
      rcases Nat.lt_or_ge A.length B.length with hlt | hge
      · have h1 := val_split (l := B) (i := A.length) (by omega)
        have h2 := val_lt ha.wds
        have h3 : val (B.drop A.length) = 0 := by
          rcases Nat.eq_zero_or_pos (val (B.drop A.length)) with h | h
          · exact h
          · have : 4294967296 ^ A.length * 1 ≤ 4294967296 ^ A.length * val (B.drop A.length) := Nat.mul_le_mul_left _ h
            omega
        rw [h3, Nat.mul_zero] at h1
        omega
      · exact pre_end hge
    have hc0 : c = 0 := by
      have h2 := val_lt hO
      rw [hol] at h2
      rw [hB] at hv
      rcases Nat.eq_zero_or_pos c with h | h
      · exact h
      · have : 4294967296 ^ A.length * 1 ≤ 4294967296 ^ A.length * c := Nat.mul_le_mul_left _ h
        omega
    subst hc0
    rw [hB, Nat.mul_zero, Nat.add_zero] at hv
    refine c_sealO O .here hO (by unfold maxLen; omega) (fun I1 hx1 hs1 => ?_)
    refine c_region ?_
    refine o_pv trivial rfl rfl ?_
    refine o_callI trivial rfl Try.call31 rfl (rTrim_any _ _ hs1 (by omega)) ?_
    rintro u2 I2 hx2 hs2'
    iterate 2 refine o_pv trivial rfl rfl ?_
    refine o_nil (then_c (c_ret ?_))
    refine ret2 rfl rfl rfl ?_
    refine leaf (hx1.trans hx2 (Nat.le_refl _)) (List.nil_sublist _) ⟨u2, rfl, ?_⟩; rw [show val O = val A - val B by omega] at hs2'; exact hs2'
end Go.Proofs.Ytjgbjaaekknenaa
/-
  The document's answers for layer 3.
-/
namespace Go.Proofs.Ytjgbjaaekknenaa
open Go Go.Tw
set_option linter.unusedVariables false
set_option linter.unusedSimpArgs false
set_option linter.unnecessarySimpa false
set_option maxHeartbeats 1000000
theorem rOne_any (va : Value) (A : List Nat) (y c0 : Nat) {I : Hp} (ha : Ws I va A) (hs : A.length ≤ 100000000) (hy : y < 4294967296) (hc0 : c0 < 4294967296) : Fun Try.prog 62 [va, .int .u32 (y : Int), .int .u32 (c0 : Int)] I [] (fun v I' _ => Ws I' v (natW (val A * y + c0))) := by
  intro w hw
  refine enter3 _ Try.func62 rfl Try.ntmps62 rfl ?_ hw
  refine c_seq (c_region ?_)
  refine o_pv trivial rfl rfl ?_
  refine o_nil (then_c (c_seq (c_region ?_)))
  refine o_pv trivial rfl rfl ?_
  refine o_nil (then_c (c_seq (c_region ?_)))
  refine o_pv trivial rfl rfl ?_
  first | refine o_convIn trivial rfl Try.underlying58 Try.underlying70 rfl (by rw [IntWalk.u64_in _ (by omega)]) ?_ | refine o_conv trivial rfl Try.underlying58 Try.underlying70 rfl ?_
  refine o_pv trivial rfl rfl ?_
  refine o_nil (then_c (c_seq (c_seq (c_region ?_))))
  refine o_pv trivial rfl rfl ?_
  refine o_nil (then_c (c_block ?_))
  refine c_loop (ι := Nat × Nat × List Nat × Value) [0, 1] (.cons rfl (.cons rfl .nil)) (fun x => A.length - x.1) (fun x E0 => (7, x.2.2.2) :: (8, .int .u64 (x.2.1 : Nat)) :: (9, .int .i64 (x.1 : Nat)) :: E0) (fun x => St w [] I [.row x.2.2.2 58 1 x.2.2.1.length (wl x.2.2.1)]) (fun x => x.1 ≤ A.length ∧ x.2.1 < 4294967296 ∧ x.2.2.1.length = x.1 ∧ Wds x.2.2.1 ∧ val x.2.2.1 + 4294967296 ^ x.1 * x.2.1 = pre A x.1 * y + c0) ((0, c0, [], .slice none 0 0)) (sub_cons rfl (sub_cons rfl (sub_cons rfl (sub_cons rfl (sub_cons rfl sub_nil))))) (fun _ h => h.nilRow _ _) (⟨Nat.zero_le _, hc0, rfl, Wds_nil, by show 0 + 4294967296 ^ 0 * c0 = 0 * y + c0; omega⟩) ?_
  rintro ⟨i, c, O, u⟩ ⟨hi, hc, hol, hO, hv⟩
  try dsimp only
  simp only at hi hc hol hO hv; have hda := dg_lt ha.wds i; have hmw := word_mul hda hy hc
  refine c_seq (c_seq (c_region ?_))
  iterate 2 refine o_pv trivial rfl rfl ?_
  refine o_lenW trivial rfl Try.underlying38 rfl (ha) ?_
  refine o_pv trivial rfl rfl ?_
  refine o_nil (then_c ?_)
  refine c_cond rfl (fun h1 => ?_) (fun h1 => ?_)
  ·
   have f1 := h1
   try simp only [bl] at f1
   refine c_skip (then_c (c_seq (c_block (c_seq (c_region ?_)))))
   iterate 2 refine o_pv trivial rfl rfl ?_
   refine o_elemW trivial rfl Try.underlying38 Try.sizeOf58 rfl (ha) rfl (by omega) ?_
   refine o_load1I trivial rfl Try.isAgg58 rfl (ha.cellI (k := i) rfl (by omega)) ?_
   first | refine o_convIn trivial rfl Try.underlying58 Try.underlying70 rfl (by rw [IntWalk.u64_in _ (by omega)]) ?_ | refine o_conv trivial rfl Try.underlying58 Try.underlying70 rfl ?_
   refine o_pv trivial rfl rfl ?_
   first | refine o_convIn trivial rfl Try.underlying58 Try.underlying70 rfl (by rw [IntWalk.u64_in _ (by omega)]) ?_ | refine o_conv trivial rfl Try.underlying58 Try.underlying70 rfl ?_
   rw [show (dg A i : Int) = ((dg A i : Nat) : Int) from rfl]
   first | refine o_arM trivial rfl rfl rfl (by rw [IntWalk.u64_in _ (by rw [← Int.natCast_mul]; omega)]) ?_ | refine o_pv trivial rfl rfl ?_
   refine o_pv trivial rfl rfl ?_
   rw [← Int.natCast_mul]
   first | refine o_arA trivial rfl rfl rfl (by rw [IntWalk.u64_in _ (by omega)]) ?_ | refine o_pv trivial rfl rfl ?_
   refine o_pv trivial rfl rfl ?_
   refine o_nil (then_c (c_seq (c_region ?_)))
   iterate 2 refine o_pv trivial rfl rfl ?_
   refine o_rem trivial rfl rfl rfl (by omega) ?_
   refine o_convIn trivial rfl Try.underlying70 Try.underlying58 rfl (by rw [IntWalk.u32_in _ (by omega)]) ?_
   refine o_buildSl trivial rfl Try.underlying38 Try.sizeOf58 Try.zeroValue58 (by decide) (by decide) rfl (by repeat first | exact rfl | constructor) rfl (fun b33 => ?_)
   refine o_appendBox trivial rfl Try.underlying38 (elem58) (by decide) rfl rfl (fun v' => (by repeat constructor)) (by repeat constructor) rfl (by first | rfl | decide) (by first | omega | (unfold maxLen; omega)) (by omega) (fun v34 => ?_)
   refine o_pv trivial rfl rfl ?_
   refine o_nil (then_c (c_region ?_))
   refine o_pv trivial rfl rfl ?_
   refine o_quo trivial rfl rfl rfl (by omega) (by first | rfl | rw [IntWalk.u64_in _ (by omega)]) ?_
   refine o_pv trivial rfl rfl ?_
   refine o_nil (blk_n (then_c (c_region ?_)))
   refine o_pv trivial rfl rfl ?_
   first | (refine o_add trivial rfl rfl rfl ?_ ?_; (omega)) | refine o_pv trivial rfl rfl ?_
   refine o_pv trivial rfl rfl ?_
   refine o_nil ?_
   have hst := sum_step (s := (dg A i * y + c) % 4294967296) (c' := (dg A i * y + c) / 4294967296) (a := dg A i * y) hol hv (by omega)
   exact again (i + 1, (dg A i * y + c) / 4294967296, O ++ [(dg A i * y + c) % 4294967296], v34) (sub_cons rfl (sub_cons rfl (sub_cons rfl (sub_cons rfl (sub_cons rfl sub_nil))))) (fun _ h => by rw [← wl_more O (z := (((dg A i * y : Nat) : Int) + (c : Int)) % 4294967296) (by omega), List.length_append]; exact h.sort (by repeat constructor)) (by show A.length - (i + 1) < A.length - i; omega) ⟨by show i + 1 ≤ _; omega, by show (dg A i * y + c) / 4294967296 < 4294967296; omega, by show (O ++ [_]).length = i + 1; rw [List.length_append, hol]; rfl, hO.more (by omega), by
     show val (O ++ [_]) + 4294967296 ^ (i + 1) * _ = (pre A i + dg A i * 4294967296 ^ i) * y + c0
     rw [hst, Nat.add_mul, Nat.mul_right_comm]; omega⟩
  ·
   have f1 := h1
   try simp only [bl] at f1
   refine c_exit (then_x (then_x (blk_eq rfl (then_c (c_seq ?_)))))
   have hie : i = A.length := by omega
   subst hie
   rw [pre_end (Nat.le_refl _)] at hv
   refine c_region ?_
   iterate 2 refine o_pv trivial rfl rfl ?_
   refine o_convIn trivial rfl Try.underlying70 Try.underlying58 rfl (by rw [IntWalk.u32_in _ (by omega)]) ?_
   refine o_buildSl trivial rfl Try.underlying38 Try.sizeOf58 Try.zeroValue58 (by decide) (by decide) rfl (by repeat first | exact rfl | constructor) rfl (fun b40 => ?_)
   refine o_appendBox trivial rfl Try.underlying38 (elem58) (by decide) rfl rfl (fun v' => (by repeat constructor)) (by repeat constructor) rfl (by first | rfl | decide) (by first | omega | (unfold maxLen; omega)) (by omega) (fun v41 => ?_)
   refine o_pv trivial rfl rfl ?_
   refine o_nil (then_c (c_seq ?_))
   rw [show wl O ++ ([Value.int .u32 (c : Int)] ++ []) = wl (O ++ [c]) from wl_more O rfl]
   refine c_sealO (O ++ [c]) (by rw [List.length_append]; exact .there .here) (hO.more hc) (by rw [List.length_append, hol]; have := ha.most; unfold maxLen at *; show A.length + 1 ≤ _; omega) (fun I1 hx1 hs1 => ?_)
   rw [← hol, ← val_more] at hv
   refine c_region ?_
   refine o_pv trivial rfl rfl ?_
   refine o_callI trivial rfl Try.call31 rfl (rTrim_any _ _ hs1 (by rw [List.length_append, hol]; show A.length + 1 ≤ _; omega)) ?_
   rintro u2 I2 hx2 hs2'
   refine o_pv trivial rfl rfl ?_
   refine o_nil (then_c (c_ret ?_))
   refine ret1 rfl rfl ?_
   refine leaf (hx1.trans hx2 (Nat.le_refl _)) (List.nil_sublist _) ?_; rw [hv] at hs2'; exact hs2'
theorem rShift_any (va : Value) (A : List Nat) (m : Nat) {I : Hp} (ha : Ws I va A) (hs : A.length ≤ 1000000) (hm : m ≤ 100000) : Fun Try.prog 61 [va, .int .i64 (m : Int)] I [] (fun v I' _ => Ws I' v (natW (val A * 2 ^ m))) := by
  have hA := val_lt ha.wds
  intro w hw
  refine enter2 _ Try.func61 rfl Try.ntmps61 rfl ?_ hw
  refine c_seq (c_region ?_)
  refine o_pv trivial rfl rfl ?_
  refine o_nil (then_c (c_seq (c_region ?_)))
  refine o_pv trivial rfl rfl ?_
  refine o_callI trivial rfl Try.call31 rfl (rTrim_any _ _ ha (by omega)) ?_
  rintro u1 I1 hx1 hs1
  refine o_pv trivial rfl rfl ?_
  refine o_nil (then_c (c_seq (c_seq (c_region ?_))))
  refine o_pv trivial rfl rfl ?_
  refine o_nil (then_c (c_block ?_))
  refine c_loop (ι := Nat × Value × Hp) [1] (.cons rfl .nil) (fun x => m - x.1) (fun x E0 => (5, x.2.1) :: (6, .int .i64 (x.1 : Nat)) :: E0) (fun x => St w [] x.2.2 []) (fun x => x.1 ≤ m ∧ Ws x.2.2 x.2.1 (natW (val A * 2 ^ x.1)) ∧ Ext w.heap.size I x.2.2) ((0, u1, I1)) (sub_cons rfl (sub_cons rfl (sub_cons rfl sub_nil))) (fun _ h => h) (⟨Nat.zero_le _, by show Ws I1 u1 (natW (val A * 1)); rw [Nat.mul_one]; exact hs1, hx1⟩) ?_
  rintro ⟨i, u, I2⟩ ⟨hi, hu, hx2⟩
  try dsimp only
  simp only at hi hu hx2
  refine c_seq (c_seq (c_region ?_))
  iterate 3 refine o_pv trivial rfl rfl ?_
  refine' o_and trivial trivial rfl rfl rfl rfl rfl rfl rfl rfl (fun hb12 => ?_) ?_
  rotate_left
  ·
   iterate 2 refine o_pv (wants_some rfl rfl hb12) rfl rfl ?_
   refine o_nil ?_
   exact joins rfl
  refine' o_and trivial trivial rfl rfl rfl rfl rfl rfl rfl rfl (fun hb16 => ?_) ?_
  rotate_left
  ·
   have fb16 := hb16
   try simp only [bl] at fb16
   refine o_pv (wants_some rfl rfl hb16) rfl rfl ?_
   refine o_lenW (wants_some rfl rfl hb16) rfl Try.underlying38 rfl (hu) ?_
   refine o_pv (wants_some rfl rfl hb16) rfl rfl ?_
   refine o_nil ?_
   exact joins rfl
  refine o_nil (then_c ?_)
  refine c_cond rfl (fun h1 => ?_) (fun h1 => ?_)
  ·
   have f1 := h1
   try simp only [bl] at f1
   have hl1 : (natW (val A * 2 ^ i)).length ≤ A.length + (i + 1) := natW_len_le (by
     rw [Nat.pow_add]
     refine Nat.mul_lt_mul'' hA ?_
     have h2 : 2 ^ i < 2 ^ (32 * (i + 1)) := Nat.pow_lt_pow_right (by decide) (by omega)
     rwa [Nat.pow_mul] at h2)
   refine c_skip (then_c (c_seq (c_block (c_region ?_))))
   refine o_pv trivial rfl rfl ?_
   refine o_callI trivial rfl Try.call62 rfl (rOne_any _ _ 2 0 hu (by omega) (by decide) (by decide)) ?_
   rintro u3 I3 hx3 hs3
   refine o_pv trivial rfl rfl ?_
   refine o_nil (blk_n (then_c (c_region ?_)))
   refine o_pv trivial rfl rfl ?_
   first | (refine o_add trivial rfl rfl rfl ?_ ?_; (omega)) | refine o_pv trivial rfl rfl ?_
   refine o_pv trivial rfl rfl ?_
   refine o_nil ?_
   rw [val_natW, Nat.add_zero, Nat.mul_assoc, ← Nat.pow_succ] at hs3
   exact again (i + 1, u3, I3) (sub_cons rfl (sub_cons rfl (sub_cons rfl sub_nil))) (fun _ h => h) (by show m - (i + 1) < m - i; omega) ⟨by show i + 1 ≤ _; omega, hs3, hx2.trans hx3 (Nat.le_refl _)⟩
  ·
   have f1 := h1
   try simp only [bl] at f1
   refine c_exit (then_x (then_x (blk_eq rfl (then_c (c_seq (c_region ?_))))))
   iterate 2 refine o_pv trivial rfl rfl ?_
   refine o_nil (then_c (c_ret ?_))
   refine ret1 rfl rfl ?_
   refine leaf hx2 (List.nil_sublist _) ?_
   by_cases him : i = m
   · subst him; exact hu
   · have h0 : val A * 2 ^ i = 0 := natW_len_zero.1 (by omega)
     have hp : 0 < 2 ^ i := Nat.pow_pos (by decide)
     have h1 : val A = 0 := by
       rcases Nat.mul_eq_zero.1 h0 with h | h
       · exact h
       · omega
     rw [h1, Nat.zero_mul] at hu ⊢
     exact hu
end Go.Proofs.Ytjgbjaaekknenaa
/-
  The document's answers for layers 4, 5.
-/
namespace Go.Tw
open Go
set_option linter.unusedVariables false
set_option linter.unusedSimpArgs false
set_option linter.unnecessarySimpa false
set_option maxHeartbeats 1000000
theorem bits_one {a : Nat} (ha : a < 4294967296) : bits .and .u32 (a : Int) ((1 : Nat) : Int) = ((a % 2 : Nat) : Int) := by
  have h1 : (BitVec.ofInt 32 (a : Int)).toNat = a := by
    rw [BitVec.ofInt_natCast, BitVec.toNat_ofNat]; exact Nat.mod_eq_of_lt (by omega)
  have h2 : (BitVec.ofInt 32 ((1 : Nat) : Int)).toNat = 1 := by
    rw [BitVec.ofInt_natCast, BitVec.toNat_ofNat]
  show IntKind.u32.wrap ((BitVec.ofInt 32 (a : Int) &&& BitVec.ofInt 32 ((1 : Nat) : Int)).toNat : Int) = _
  rw [BitVec.toNat_and, h1, h2, Nat.and_one_is_mod, IntWalk.u32_in _ (by omega)]
section
variable {P : Program} {ops : Array Oper} {rest : List Oper} {n : Nat} {D : List Deferred} {E : Env} {S : World → Prop} {Q : Exit → Act → World → Prop} {d : Nat} {ty : TypeId} {pos : String} {aft : Array Edge} {g : Option (Nat × Bool)}
/-- x & 1 -/
theorem o_and1 {qm : Bool} {x y : Operand} {t t2 : TypeId} {a : Nat} (hg : Wants ops E g) (hd : Nat.blt d n = true) (hx : ev E x = some (.int .u32 (a : Int))) (hy : ev E y = some (.int .u32 1)) (h : a < 4294967296)
    (k : TL qm P ops Q rest n D ((d, .int .u32 ((a % 2 : Nat) : Int)) :: E) S) : TL qm P ops Q (⟨some d, .binOp .and t x y t2, ty, pos, aft, g⟩ :: rest) n D E S :=
  o_rd hg hd (v := .int .u32 ((a % 2 : Nat) : Int)) (fun a w ha hw d pos aft g => ⟨w, by
    simp only [execOp, ha.ev hx, ha.ev hy, Sem.run_bind, run_eqGuard_int, Result.andThen_ok]
    rw [binOp_and, intBits_and, show (1 : Int) = ((1 : Nat) : Int) from rfl, bits_one h]
    simp, rfl⟩) k
end
theorem val_bit {A : List Nat} (hA : Wds A) {i : Nat} (h : i / 32 < A.length) : dg A (i / 32) / 2 ^ (i % 32) % 2 = val A / 2 ^ i % 2 := by
  have hr : i % 32 < 32 := Nat.mod_lt _ (by decide)
  have h1 := val_split (l := A) (i := i / 32) (by omega)
  have h2 := val_drop h
  have h3 : 2 ^ i = 4294967296 ^ (i / 32) * 2 ^ (i % 32) := by
    rw [pow_bits, ← Nat.pow_add]; congr 1; omega
  have h4 : val A / 4294967296 ^ (i / 32) = val (A.drop (i / 32)) := by
    rw [h1, Nat.add_mul_div_left _ _ (pow_pos _), Nat.div_eq_of_lt (pre_lt hA _), Nat.zero_add]
  have h5 : (4294967296 : Nat) = 2 ^ (i % 32) * (2 * 2 ^ (31 - i % 32)) := by
    rw [← Nat.pow_succ', ← Nat.pow_add, show i % 32 + (31 - i % 32).succ = 32 by omega]
  rw [h3, ← Nat.div_div_eq_div_mul, h4, h2, h5, Nat.mul_assoc, Nat.mul_assoc, Nat.add_mul_div_left _ _ (Nat.pow_pos (by decide)), Nat.add_mul_mod_self_left]
/-- One bit more of a quotient. -/
theorem bit_step {a i d q r : Nat} (hd : 0 < d) (hq : q = a / 2 ^ (i + 1) / d) (hr : r = a / 2 ^ (i + 1) % d) :
    (d ≤ 2 * r + a / 2 ^ i % 2 → 2 * q + 1 = a / 2 ^ i / d ∧ 2 * r + a / 2 ^ i % 2 - d = a / 2 ^ i % d) ∧ (¬ d ≤ 2 * r + a / 2 ^ i % 2 → 2 * q = a / 2 ^ i / d ∧ 2 * r + a / 2 ^ i % 2 = a / 2 ^ i % d) := by
  have h1 : a / 2 ^ (i + 1) = a / 2 ^ i / 2 := by rw [Nat.pow_succ, Nat.div_div_eq_div_mul]
  have h2 : r < d := by rw [hr]; exact Nat.mod_lt _ hd
  have h3 := Nat.div_add_mod (a / 2 ^ (i + 1)) d
  rw [← hq, ← hr, h1] at h3
  generalize a / 2 ^ i = b at *
  have hb : b % 2 < 2 := Nat.mod_lt _ (by decide)
  have hm : d * (2 * q) = 2 * (d * q) := Nat.mul_left_comm _ _ _
  constructor
  · intro h
    exact div_unique (by rw [Nat.mul_comm, Nat.mul_add, Nat.mul_one, hm]; omega) (by omega)
  · intro h
    exact div_unique (by rw [Nat.mul_comm, hm]; omega) (by omega)
end Go.Tw
namespace Go.Proofs.Ytjgbjaaekknenaa
open Go Go.Tw
set_option linter.unusedVariables false
set_option linter.unusedSimpArgs false
set_option linter.unnecessarySimpa false
set_option maxHeartbeats 1000000
theorem rBit_any (va : Value) (A : List Nat) (i : Nat) {I : Hp} (ha : Ws I va A) (hs : A.length ≤ 1000000) (hi : i < 32 * A.length) : Fun Try.prog 63 [va, .int .i64 (i : Int)] I [] (fun v _ _ => v = .int .u32 ((val A / 2 ^ i % 2 : Nat) : Int)) := by
  have hd := dg_lt ha.wds (i / 32)
  have hd2 : dg A (i / 32) / 2 ^ (i % 32) ≤ dg A (i / 32) := Nat.div_le_self _ _
  intro w hw
  refine enter2 _ Try.func63 rfl Try.ntmps63 rfl ?_ hw
  refine c_seq (c_region ?_)
  refine o_pv trivial rfl rfl ?_
  refine o_nil (then_c (c_seq (c_region ?_)))
  iterate 2 refine o_pv trivial rfl rfl ?_
  refine o_quo trivial rfl rfl rfl (by omega) (by first | rfl | rw [IntWalk.i64_in _ (by omega)]) ?_
  rw [show (i : Int) / 32 = ((i / 32 : Nat) : Int) by omega]
  refine o_elemW trivial rfl Try.underlying38 Try.sizeOf58 rfl (ha) rfl (by omega) ?_
  refine o_load1I trivial rfl Try.isAgg58 rfl (ha.cellI (k := i / 32) rfl (by omega)) ?_
  refine o_pv trivial rfl rfl ?_
  refine o_rem trivial rfl rfl rfl (by omega) ?_
  rw [show (i : Int) % 32 = ((i % 32 : Nat) : Int) by omega]
  refine o_shr (2 ^ (i % 32)) trivial rfl rfl rfl (by omega) (by rw [Int.toNat_natCast, show min (i % 32) IntKind.u32.bits = i % 32 from Nat.min_eq_left (by show i % 32 ≤ 32; omega)]) (by omega) ?_
  rw [show (dg A (i / 32) : Int) / ((2 ^ (i % 32) : Nat) : Int) = ((dg A (i / 32) / 2 ^ (i % 32) : Nat) : Int) from (Int.natCast_ediv _ _).symm]
  refine o_and1 trivial rfl rfl rfl (by omega) ?_
  refine o_pv trivial rfl rfl ?_
  refine o_nil (then_c (c_ret ?_))
  refine ret1 rfl rfl ?_
  refine leaf0 (congrArg (Value.int .u32) ?_); rw [val_bit ha.wds (by omega)]
theorem dbl_len {n b k : Nat} (h : (natW n).length ≤ k) (hb : (natW b).length ≤ k) : (natW (2 * n + b)).length ≤ k + 2 := by
  rw [Nat.two_mul]
  exact natW_add_len _ _ (k + 1) (natW_add_len _ _ k h h) (by omega)
theorem one_len {b : Nat} (h : b ≤ 1) : (natW b).length ≤ 1 := natW_len_le (by rw [Nat.pow_one]; omega)
theorem rDiv_any (va vb : Value) (A B : List Nat) {I : Hp} (ha : Ws I va A) (hb : Ws I vb B) (hs : A.length ≤ 100000) (hs2 : B.length ≤ 100000) (h0 : 0 < val B) : Fun Try.prog 43 [va, vb] I [] (fun v I' _ => ∃ u1 u2, v = .tuple #[u1, u2, .bool true] ∧ Ws I' u1 (natW (val A / val B)) ∧ Ws I' u2 (natW (val A % val B))) := by
  have hbl : (natW (val B)).length ≤ B.length := natW_len_list hb.wds
  have hbz : (natW (val B)).length ≠ 0 := fun e => by have := natW_len_zero.1 e; omega
  have hA : val A < 2 ^ (32 * A.length) := by have := val_lt ha.wds; rwa [pow_bits] at this
  have hal : (natW (val A)).length ≤ A.length := natW_len_list ha.wds
  intro w hw
  refine enter2 _ Try.func43 rfl Try.ntmps43 rfl ?_ hw
  refine c_seq (c_region ?_)
  iterate 3 refine o_pv trivial rfl rfl ?_
  refine o_nil (then_c (c_seq (c_region ?_)))
  refine o_pv trivial rfl rfl ?_
  refine o_callI trivial rfl Try.call31 rfl (rTrim_any _ _ hb (by omega)) ?_
  rintro u1 I1 hx1 hs1
  refine o_pv trivial rfl rfl ?_
  refine o_nil (then_c (c_seq (c_seq (c_region ?_))))
  refine o_pv trivial rfl rfl ?_
  refine o_lenW trivial rfl Try.underlying38 rfl (hs1) ?_
  refine o_pv trivial rfl rfl ?_
  refine o_nil (then_c ?_)
  refine c_cond rfl (fun h1 => ?_) (fun h1 => ?_)
  ·
   have f1 := h1
   try simp only [bl] at f1
   exfalso; omega
  ·
   have f1 := h1
   try simp only [bl] at f1
   refine c_skip (then_c (c_seq (c_region ?_)))
   refine o_pv trivial rfl rfl ?_
   refine o_nil (then_c (c_seq (c_region ?_)))
   refine o_pv trivial rfl rfl ?_
   refine o_nil (then_c (c_seq (c_seq (c_region ?_))))
   refine o_pv trivial rfl rfl ?_
   refine o_lenW trivial rfl Try.underlying38 rfl (ha) ?_
   first | (refine o_mul trivial rfl rfl rfl ?_ ?_; (omega)) | refine o_pv trivial rfl rfl ?_
   first | (refine o_sub trivial rfl rfl rfl ?_ ?_; (omega)) | refine o_pv trivial rfl rfl ?_
   refine o_pv trivial rfl rfl ?_
   refine o_nil (then_c (c_block ?_))
   refine c_loop (ι := Nat × Int × Value × Value × Hp) [0, 7] (.cons rfl (.cons rfl .nil)) (fun x => x.1) (fun x E0 => (8, x.2.2.1) :: (9, x.2.2.2.1) :: (10, .int .i64 x.2.1) :: E0) (fun x => St w [] x.2.2.2.2 []) (fun x => x.1 ≤ 32 * A.length ∧ x.2.1 = (x.1 : Int) - 1 ∧ Ws x.2.2.2.2 x.2.2.1 (natW (val A / 2 ^ x.1 / val B)) ∧ Ws x.2.2.2.2 x.2.2.2.1 (natW (val A / 2 ^ x.1 % val B)) ∧ Ext w.heap.size I x.2.2.2.2 ∧ I1.Le x.2.2.2.2) ((32 * A.length, 32 * (A.length : Int) - 1, .slice none 0 0, .slice none 0 0, I1)) (sub_cons rfl (sub_cons rfl (sub_cons rfl (sub_cons rfl (sub_cons rfl sub_nil))))) (fun _ h => h) (⟨Nat.le_refl _, by simp only; omega, by simp only; rw [Nat.div_eq_of_lt hA, Nat.zero_div, natW_zero]; exact Ws.nil _, by simp only; rw [Nat.div_eq_of_lt hA, Nat.zero_mod, natW_zero]; exact Ws.nil _, hx1, Hp.Le.refl _⟩) ?_
   rintro ⟨j, z, uq, ur, I2⟩ ⟨hj, hz, hq, hr, hx2, hle⟩
   try dsimp only
   simp only at hj hz hq hr hx2 hle; subst hz
   refine c_seq (c_seq (c_region ?_))
   iterate 2 refine o_pv trivial rfl rfl ?_
   refine o_nil (then_c ?_)
   refine c_cond rfl (fun h2 => ?_) (fun h2 => ?_)
   ·
    have f2 := h2
    try simp only [bl] at f2
    obtain ⟨i, rfl⟩ : ∃ i, j = i + 1 := ⟨j - 1, by omega⟩
    have hql : (natW (val A / 2 ^ (i + 1) / val B)).length ≤ 100000 := Nat.le_trans (natW_le_len (Nat.le_trans (Nat.div_le_self _ _) (Nat.div_le_self _ _))) (Nat.le_trans hal hs)
    have hrl : (natW (val A / 2 ^ (i + 1) % val B)).length ≤ 100000 := Nat.le_trans (natW_le_len (Nat.le_trans (Nat.mod_le _ _) (Nat.div_le_self _ _))) (Nat.le_trans hal hs)
    have hbs := bit_step (a := val A) (i := i) h0 rfl rfl
    have e1 : ((i + 1 : Nat) : Int) - 1 = (i : Nat) := by omega
    rw [e1]
    have hqv : val (natW (val A / 2 ^ (i + 1) / val B)) * 2 + 0 = 2 * (val A / 2 ^ (i + 1) / val B) := by rw [val_natW]; omega
    have hrv : val (natW (val A / 2 ^ (i + 1) % val B)) * 2 + val A / 2 ^ i % 2 = 2 * (val A / 2 ^ (i + 1) % val B) + val A / 2 ^ i % 2 := by rw [val_natW]; omega
    refine c_skip (then_c (c_seq (c_block (c_seq (c_region ?_)))))
    refine o_pv trivial rfl rfl ?_
    refine o_callI trivial rfl Try.call62 rfl (rOne_any _ _ 2 0 hq (by omega) (by decide) (by decide)) ?_
    rintro u3 I3 hx3 hs3
    refine o_pv trivial rfl rfl ?_
    refine o_nil (then_c (c_seq (c_region ?_)))
    iterate 3 refine o_pv trivial rfl rfl ?_
    refine o_callQ trivial rfl Try.call63 rfl (rBit_any _ A i (ha.le (hx2.le.trans hx3.le)) (by omega) (by omega)) ?_
    refine o_callI trivial rfl Try.call62 rfl (rOne_any _ _ 2 (val A / 2 ^ i % 2) (hr.le hx3.le) (by omega) (by decide) (by omega)) ?_
    rintro u4 I4 hx4 hs4
    refine o_pv trivial rfl rfl ?_
    refine o_nil (then_c (c_seq ?_))
    rw [hqv] at hs3
    rw [hrv] at hs4
    have hl3 := dbl_len (n := val A / 2 ^ (i + 1) / val B) (b := 0) hql (by rw [natW_zero]; exact Nat.zero_le _)
    rw [Nat.add_zero] at hl3
    have hl4 := dbl_len (n := val A / 2 ^ (i + 1) % val B) (b := val A / 2 ^ i % 2) hrl (Nat.le_trans (one_len (by omega)) (by decide))
    refine c_region ?_
    iterate 2 refine o_pv trivial rfl rfl ?_
    refine o_callQ trivial rfl Try.call59 rfl (rCmp_any _ _ _ _ hs4 (hs1.le (hle.trans (hx3.le.trans hx4.le))) (by omega) (by omega)) ?_
    refine o_pv trivial rfl rfl ?_
    refine o_nil (then_c ?_)
    refine c_cond rfl (fun h3 => ?_) (fun h3 => ?_)
    ·
     have f3 := h3
     try simp only [bl] at f3
     rw [val_natW, val_natW] at f3
     have hge : val B ≤ 2 * (val A / 2 ^ (i + 1) % val B) + val A / 2 ^ i % 2 := by unfold cmpZ at f3; split at f3 <;> (try split at f3) <;> omega
     obtain ⟨hb1, hb2⟩ := hbs.1 hge
     refine c_seq (c_region ?_)
     iterate 2 refine o_pv trivial rfl rfl ?_
     refine o_callI trivial rfl Try.call60 rfl (rSub_any _ _ _ _ hs4 (hs1.le (hle.trans (hx3.le.trans hx4.le))) (by omega) (by omega) (by rw [val_natW, val_natW]; exact hge)) ?_
     rintro _ I5 hx5 ⟨u5, rfl, hs5⟩
     iterate 4 refine o_pv trivial rfl rfl ?_
     refine o_nil (then_c (c_region ?_))
     refine o_pv trivial rfl rfl ?_
     refine o_callI trivial rfl Try.call62 rfl (rOne_any _ _ 1 1 (hs3.le (hx4.le.trans hx5.le)) (by omega) (by decide) (by decide)) ?_
     rintro u6 I6 hx6 hs6
     refine o_pv trivial rfl rfl ?_
     refine o_nil (blk_n (then_c (c_region ?_)))
     refine o_pv trivial rfl rfl ?_
     first | (refine o_sub trivial rfl rfl rfl ?_ ?_; (omega)) | refine o_pv trivial rfl rfl ?_
     refine o_pv trivial rfl rfl ?_
     refine o_nil ?_
     first
       | (rw [val_natW, val_natW, hb2] at hs5
          rw [val_natW, Nat.mul_one, hb1] at hs6
          exact again (i, (i : Int) - 1, u6, u5, I6) (sub_cons rfl (sub_cons rfl (sub_cons rfl (sub_cons rfl (sub_cons rfl sub_nil))))) (fun _ h => h) (by show i < i + 1; omega) ⟨by show i ≤ _; omega, rfl, hs6, hs5.le hx6.le, hx2.trans (hx3.trans (hx4.trans (hx5.trans hx6 (Nat.le_refl _)) (Nat.le_refl _)) (Nat.le_refl _)) (Nat.le_refl _), hle.trans (hx3.le.trans (hx4.le.trans (hx5.le.trans hx6.le)))⟩)
       | (rw [hb2] at hs4
          rw [hb1] at hs3
          exact again (i, (i : Int) - 1, u3, u4, I4) (sub_cons rfl (sub_cons rfl (sub_cons rfl (sub_cons rfl (sub_cons rfl sub_nil))))) (fun _ h => h) (by show i < i + 1; omega) ⟨by show i ≤ _; omega, rfl, hs3.le hx4.le, hs4, hx2.trans (hx3.trans hx4 (Nat.le_refl _)) (Nat.le_refl _), hle.trans (hx3.le.trans hx4.le)⟩)
    ·
     have f3 := h3
     try simp only [bl] at f3
     rw [val_natW, val_natW] at f3
     have hge : ¬ val B ≤ 2 * (val A / 2 ^ (i + 1) % val B) + val A / 2 ^ i % 2 := by unfold cmpZ at f3; split at f3 <;> (try split at f3) <;> omega
     obtain ⟨hb1, hb2⟩ := hbs.2 hge
     refine c_skip (blk_n (then_c (c_region ?_)))
     refine o_pv trivial rfl rfl ?_
     first | (refine o_sub trivial rfl rfl rfl ?_ ?_; (omega)) | refine o_pv trivial rfl rfl ?_
     refine o_pv trivial rfl rfl ?_
     refine o_nil ?_
     first
       | (rw [val_natW, val_natW, hb2] at hs5
          rw [val_natW, Nat.mul_one, hb1] at hs6
          exact again (i, (i : Int) - 1, u6, u5, I6) (sub_cons rfl (sub_cons rfl (sub_cons rfl (sub_cons rfl (sub_cons rfl sub_nil))))) (fun _ h => h) (by show i < i + 1; omega) ⟨by show i ≤ _; omega, rfl, hs6, hs5.le hx6.le, hx2.trans (hx3.trans (hx4.trans (hx5.trans hx6 (Nat.le_refl _)) (Nat.le_refl _)) (Nat.le_refl _)) (Nat.le_refl _), hle.trans (hx3.le.trans (hx4.le.trans (hx5.le.trans hx6.le)))⟩)
       | (rw [hb2] at hs4
          rw [hb1] at hs3
          exact again (i, (i : Int) - 1, u3, u4, I4) (sub_cons rfl (sub_cons rfl (sub_cons rfl (sub_cons rfl (sub_cons rfl sub_nil))))) (fun _ h => h) (by show i < i + 1; omega) ⟨by show i ≤ _; omega, rfl, hs3.le hx4.le, hs4, hx2.trans (hx3.trans hx4 (Nat.le_refl _)) (Nat.le_refl _), hle.trans (hx3.le.trans hx4.le)⟩)
   ·
    have f2 := h2
    try simp only [bl] at f2
    refine c_exit (then_x (then_x (blk_eq rfl (then_c (c_seq (c_region ?_))))))
    iterate 5 refine o_pv trivial rfl rfl ?_
    refine o_nil (then_c (c_ret ?_))
    refine ret3 rfl rfl rfl rfl ?_
    have hj0 : j = 0 := by omega
    subst hj0
    rw [Nat.pow_zero, Nat.div_one] at hq hr
    exact leaf hx2 (List.nil_sublist _) ⟨uq, ur, rfl, hq, hr⟩
theorem rSmall_any (va : Value) (A : List Nat) (d : Nat) {I : Hp} (ha : Ws I va A) (hs : A.length ≤ 100000) (hd0 : 0 < d) (hd : d < 4294967296) : Fun Try.prog 32 [va, .int .u32 (d : Int)] I [] (fun v I' _ => ∃ u, v = .tuple #[u, .int .u32 ((val A % d : Nat) : Int), .bool true] ∧ Ws I' u (natW (val A / d))) := by
  have hv1 : val [d] = d := by rw [val_cons, val_nil]; omega
  intro w hw
  refine enter2 _ Try.func32 rfl Try.ntmps32 rfl ?_ hw
  refine c_seq (c_region ?_)
  iterate 3 refine o_pv trivial rfl rfl ?_
  refine o_nil (then_c (c_seq (c_region ?_)))
  iterate 2 refine o_pv trivial rfl rfl ?_
  refine o_buildSl trivial rfl Try.underlying38 Try.sizeOf58 Try.zeroValue58 (by decide) (by decide) rfl (by repeat first | exact rfl | constructor) rfl (fun b13 => ?_)
  refine l_sealW [d] .here (Wds_cons hd Wds_nil) (by unfold maxLen; simp) (fun I1 hx1 hs1 => ?_)
  refine o_callI trivial rfl Try.call43 rfl (rDiv_any _ _ A [d] (ha.le hx1.le) hs1 hs (by simp) (by rw [hv1]; exact hd0)) ?_
  rintro _ I2 hx2 ⟨u1, u2, rfl, hq, hr⟩
  iterate 7 refine o_pv trivial rfl rfl ?_
  refine o_nil (then_c (c_seq (c_seq ?_)))
  rw [hv1] at hq hr
  have hrd : val A % d < d := Nat.mod_lt _ hd0
  have hrl := natW_len_le (n := val A % d) (k := 1) (by rw [Nat.pow_one]; omega)
  refine c_region ?_
  refine o_pv trivial rfl rfl ?_
  refine o_lenW trivial rfl Try.underlying38 rfl (hr) ?_
  refine o_pv trivial rfl rfl ?_
  refine o_nil (then_c ?_)
  refine c_cond rfl (fun h1 => ?_) (fun h1 => ?_)
  ·
   have f1 := h1
   try simp only [bl] at f1
   refine c_seq (c_region ?_)
   iterate 5 refine o_pv trivial rfl rfl ?_
   refine o_nil (then_c (c_ret (then_r ?_)))
   refine ret3 rfl rfl rfl rfl ?_
   have h0 : val A % d = 0 := natW_len_zero.1 (by omega)
   refine leaf (hx1.trans hx2 (Nat.le_refl _)) (List.nil_sublist _) ⟨u1, ?_, hq⟩; rw [h0]; rfl
  ·
   have f1 := h1
   try simp only [bl] at f1
   have h0 : val A % d ≠ 0 := fun e => f1 (by rw [e, natW_zero]; rfl)
   have hdg : dg (natW (val A % d)) 0 = val A % d := by rw [natW_pos h0]; show (val A % d) % 4294967296 = _; exact Nat.mod_eq_of_lt (by omega)
   refine c_skip (then_c (c_seq ?_))
   refine c_quiet (by kernel_rfl) (by kernel_rfl) (fun _ h => h.drawn) ?_
   iterate 2 refine o_pv trivial rfl rfl ?_
   refine o_elemW trivial rfl Try.underlying38 Try.sizeOf58 rfl (hr) rfl (by omega) ?_
   refine o_load1I trivial rfl Try.isAgg58 rfl (hr.cellI (k := 0) rfl (by omega)) ?_
   iterate 4 refine o_pv trivial rfl rfl ?_
   refine o_nil (then_c (c_ret ?_))
   refine ret3 rfl rfl rfl rfl ?_
   refine leaf (hx1.trans hx2 (Nat.le_refl _)) (List.nil_sublist _) ⟨u1, ?_, hq⟩; rw [hdg]; rfl
end Go.Proofs.Ytjgbjaaekknenaa
/-
  The document's answers for layers 5, 6.
-/
namespace Go.Proofs.Ytjgbjaaekknenaa
open Go Go.Tw
set_option linter.unusedVariables false
set_option linter.unusedSimpArgs false
set_option linter.unnecessarySimpa false
set_option maxHeartbeats 1000000
theorem natW_even {n : Nat} (h : n ≠ 0) : dg (natW n) 0 % 2 = n % 2 := by
  rw [natW_pos h]; show (n % 4294967296) % 2 = n % 2; omega
/-- A number without its twos, and how many these are. -/
structure OddOf (n x k : Nat) : Prop where
  eq : n = 2 ^ k * x
  odd : x % 2 = 1
theorem rOdd_any (va : Value) (n : Nat) {I : Hp} (ha : Ws I va (natW n)) (hs : (natW n).length ≤ 100000) (h0 : 0 < n) : Fun Try.prog 58 [va] I [] (fun v I' _ => ∃ u x k, v = .tuple #[u, .int .i64 (k : Nat)] ∧ Ws I' u (natW x) ∧ OddOf n x k) := by
  intro w hw
  refine enter1 _ Try.func58 rfl Try.ntmps58 rfl ?_ hw
  refine c_seq (c_region ?_)
  iterate 2 refine o_pv trivial rfl rfl ?_
  refine o_nil (then_c (c_seq (c_region ?_)))
  refine o_pv trivial rfl rfl ?_
  refine o_nil (then_c (c_seq (c_block ?_)))
  refine c_loop (ι := Nat × Nat × Value × Hp) [] .nil (fun x => x.1) (fun x E0 => (0, x.2.2.1) :: (4, .int .i64 (x.2.1 : Nat)) :: E0) (fun x => St w [] x.2.2.2 []) (fun x => 0 < x.1 ∧ n = 2 ^ x.2.1 * x.1 ∧ Ws x.2.2.2 x.2.2.1 (natW x.1) ∧ (natW x.1).length ≤ 100000 ∧ Ext w.heap.size I x.2.2.2) ((n, 0, va, I)) (sub_cons rfl (sub_cons rfl sub_nil)) (fun _ h => h) (⟨h0, by simp, ha, hs, Ext.refl _ _⟩) ?_
  rintro ⟨m, k, u, I1⟩ ⟨hm0, he, hu, hl, hx1⟩
  try dsimp only
  simp only at hm0 he hu hl hx1; have hne : (natW m).length ≠ 0 := fun e => by have := natW_len_zero.1 e; omega
  refine c_seq (c_seq (c_region ?_))
  refine o_pv trivial rfl rfl ?_
  refine o_lenW trivial rfl Try.underlying38 rfl (hu) ?_
  refine o_pv trivial rfl rfl ?_
  refine' o_and trivial trivial rfl rfl rfl rfl rfl rfl rfl rfl (fun hb8 => ?_) ?_
  rotate_left
  ·
   have fb8 := hb8
   try simp only [bl] at fb8
   refine o_pv (wants_some rfl rfl hb8) rfl rfl ?_
   refine o_elemW (wants_some rfl rfl hb8) rfl Try.underlying38 Try.sizeOf58 rfl (hu) rfl (by omega) ?_
   refine o_load1I (wants_some rfl rfl hb8) rfl Try.isAgg58 rfl (hu.cellI (k := 0) rfl (by omega)) ?_
   refine o_rem (wants_some rfl rfl hb8) rfl rfl rfl (by omega) ?_
   refine o_pv (wants_some rfl rfl hb8) rfl rfl ?_
   refine o_nil ?_
   exact joins rfl
  refine o_nil (then_c ?_)
  refine c_cond rfl (fun h1 => ?_) (fun h1 => ?_)
  ·
   have f1 := h1
   try simp only [bl] at f1
   have hev := natW_even (n := m) (by omega)
   have hk64 : k < 32 * (natW n).length := by
     have h1 := val_lt (Wds_natW n)
     rw [val_natW, pow_bits] at h1
     have h2 : 2 ^ k ≤ n := by rw [he]; exact Nat.le_mul_of_pos_right _ hm0
     exact (Nat.pow_lt_pow_iff_right (by decide)).1 (Nat.lt_of_le_of_lt h2 h1)
   have hmm : m % 2 = 0 := by omega
   refine c_skip (then_c (c_block (c_seq (c_region ?_))))
   refine o_pv trivial rfl rfl ?_
   refine o_callI trivial rfl Try.call32 rfl (rSmall_any _ _ 2 hu hl (by decide) (by decide)) ?_
   rintro _ I2 hx2 ⟨u2, rfl, hs2⟩
   iterate 5 refine o_pv trivial rfl rfl ?_
   refine o_nil (then_c (c_region ?_))
   refine o_pv trivial rfl rfl ?_
   first | (refine o_add trivial rfl rfl rfl ?_ ?_; (omega)) | refine o_pv trivial rfl rfl ?_
   refine o_pv trivial rfl rfl ?_
   refine o_nil (blk_n ?_)
   rw [val_natW] at hs2
   exact again (m / 2, k + 1, u2, I2) (sub_cons rfl (sub_cons rfl sub_nil)) (fun _ h => h) (by show m / 2 < m; omega) ⟨by show 0 < m / 2; omega, by show n = 2 ^ (k + 1) * (m / 2); rw [he, Nat.pow_succ, Nat.mul_assoc]; congr 1; omega, hs2, Nat.le_trans (natW_le_len (Nat.div_le_self _ _)) hl, hx1.trans hx2 (Nat.le_refl _)⟩
  ·
   have f1 := h1
   try simp only [bl] at f1
   refine c_exit (then_x (then_x (blk_eq rfl (then_c (c_seq (c_region ?_))))))
   iterate 4 refine o_pv trivial rfl rfl ?_
   refine o_nil (then_c (c_ret ?_))
   refine ret2 rfl rfl rfl ?_
   have hev := natW_even (n := m) (by omega)
   exact leaf hx1 (List.nil_sublist _) ⟨u, m, k, rfl, hu, he, by omega⟩
theorem OddOf.pos {n x k : Nat} (h : OddOf n x k) : 0 < x := by have := h.odd; omega
theorem OddOf.le {n x k : Nat} (h : OddOf n x k) : x ≤ n := by rw [h.eq]; exact Nat.le_mul_of_pos_left _ (Nat.pow_pos (by decide))
theorem OddOf.pow_lt {n x k L : Nat} (h : OddOf n x k) (hL : (natW n).length ≤ L) : k < 32 * L := by
  have h1 := val_lt (Wds_natW n)
  rw [val_natW, pow_bits] at h1
  have h2 : 2 ^ k ≤ n := by rw [h.eq]; exact Nat.le_mul_of_pos_right _ h.pos
  have h3 := (Nat.pow_lt_pow_iff_right (by decide)).1 (Nat.lt_of_le_of_lt h2 h1)
  omega
theorem rGcd_any (va vb : Value) (A B : List Nat) {I : Hp} (ha : Ws I va A) (hb : Ws I vb B) (hs : A.length ≤ 3000) (hs2 : B.length ≤ 3000) : Fun Try.prog 42 [va, vb] I [] (fun v I' _ => Ws I' v (natW (Nat.gcd (val A) (val B)))) := by
  have hal : (natW (val A)).length ≤ 3000 := Nat.le_trans (natW_len_list ha.wds) hs
  have hbl : (natW (val B)).length ≤ 3000 := Nat.le_trans (natW_len_list hb.wds) hs2
  intro w hw
  refine enter2 _ Try.func42 rfl Try.ntmps42 rfl ?_ hw
  refine c_seq (c_region ?_)
  refine o_pv trivial rfl rfl ?_
  refine o_nil (then_c (c_seq (c_region ?_)))
  refine o_pv trivial rfl rfl ?_
  refine o_callI trivial rfl Try.call31 rfl (rTrim_any _ _ ha (by omega)) ?_
  rintro u1 I1 hx1 hs1
  refine o_pv trivial rfl rfl ?_
  refine o_nil (then_c (c_seq (c_region ?_)))
  refine o_pv trivial rfl rfl ?_
  refine o_callI trivial rfl Try.call31 rfl (rTrim_any _ _ (hb.le hx1.le) (by omega)) ?_
  rintro u2 I2 hx2 hs2'
  refine o_pv trivial rfl rfl ?_
  refine o_nil (then_c (c_seq (c_seq (c_region ?_))))
  refine o_pv trivial rfl rfl ?_
  refine o_lenW trivial rfl Try.underlying38 rfl (hs1.le hx2.le) ?_
  refine o_pv trivial rfl rfl ?_
  refine o_nil (then_c ?_)
  refine c_cond rfl (fun h1 => ?_) (fun h1 => ?_)
  ·
   have f1 := h1
   try simp only [bl] at f1
   refine c_seq (c_region ?_)
   iterate 2 refine o_pv trivial rfl rfl ?_
   refine o_nil (then_c (c_ret (then_r ?_)))
   refine ret1 rfl rfl ?_
   have h0 : val A = 0 := natW_len_zero.1 (by omega)
   refine leaf (hx1.trans hx2 (Nat.le_refl _)) (List.nil_sublist _) ?_; rw [h0, Nat.gcd_zero_left]; exact hs2'
  ·
   have f1 := h1
   try simp only [bl] at f1
   refine c_skip (then_c (c_seq (c_seq (c_region ?_))))
   refine o_pv trivial rfl rfl ?_
   refine o_lenW trivial rfl Try.underlying38 rfl (hs2') ?_
   refine o_pv trivial rfl rfl ?_
   refine o_nil (then_c ?_)
   refine c_cond rfl (fun h2 => ?_) (fun h2 => ?_)
   ·
    have f2 := h2
    try simp only [bl] at f2
    refine c_seq (c_region ?_)
    iterate 2 refine o_pv trivial rfl rfl ?_
    refine o_nil (then_c (c_ret (then_r ?_)))
    refine ret1 rfl rfl ?_
    have h0 : val B = 0 := natW_len_zero.1 (by omega)
    refine leaf (hx1.trans hx2 (Nat.le_refl _)) (List.nil_sublist _) ?_; rw [h0, Nat.gcd_zero_right]; exact hs1.le hx2.le
   ·
    have f2 := h2
    try simp only [bl] at f2
    have hA0 : 0 < val A := Nat.pos_of_ne_zero fun e => f1 (by rw [e, natW_zero]; rfl)
    have hB0 : 0 < val B := Nat.pos_of_ne_zero fun e => f2 (by rw [e, natW_zero]; rfl)
    refine c_skip (then_c (c_seq (c_region ?_)))
    refine o_pv trivial rfl rfl ?_
    refine o_callI trivial rfl Try.call58 rfl (rOdd_any _ _ (hs1.le hx2.le) (by omega) hA0) ?_
    rintro _ I3 hx3 ⟨u3, x, n, rfl, hs3, ho3⟩
    iterate 5 refine o_pv trivial rfl rfl ?_
    refine o_nil (then_c (c_seq ?_))
    have hn := ho3.pow_lt hal
    refine c_region ?_
    refine o_pv trivial rfl rfl ?_
    refine o_callI trivial rfl Try.call58 rfl (rOdd_any _ _ (hs2'.le hx3.le) (by omega) hB0) ?_
    rintro _ I4 hx4 ⟨u4, y, k, rfl, hs4, ho4⟩
    iterate 5 refine o_pv trivial rfl rfl ?_
    refine o_nil (then_c (c_seq (c_block ?_)))
    refine c_loop (ι := Nat × Nat × Value × Value × Hp) [7, 8] (.cons rfl (.cons rfl .nil)) (fun t => t.1 + t.2.1) (fun t E0 => (5, t.2.2.1) :: (6, t.2.2.2.1) :: E0) (fun t => St w [] t.2.2.2.2 []) (fun t => t.1 % 2 = 1 ∧ t.2.1 % 2 = 1 ∧ Nat.gcd t.1 t.2.1 = Nat.gcd x y ∧ Ws t.2.2.2.2 t.2.2.1 (natW t.1) ∧ Ws t.2.2.2.2 t.2.2.2.1 (natW t.2.1) ∧ (natW t.1).length ≤ 3000 ∧ (natW t.2.1).length ≤ 3000 ∧ Ext w.heap.size I t.2.2.2.2) ((x, y, u3, u4, I4)) (sub_cons rfl (sub_cons rfl (sub_cons rfl (sub_cons rfl sub_nil)))) (fun _ h => h) (⟨ho3.odd, ho4.odd, rfl, hs3.le hx4.le, hs4, Nat.le_trans (natW_le_len ho3.le) hal, Nat.le_trans (natW_le_len ho4.le) hbl, hx1.trans (hx2.trans (hx3.trans hx4 (Nat.le_refl _)) (Nat.le_refl _)) (Nat.le_refl _)⟩) ?_
    rintro ⟨a, b, ua, ub, I5⟩ ⟨hao, hbo, hg, hua, hub, hla, hlb, hx5⟩
    try dsimp only
    simp only at hao hbo hg hua hub hla hlb hx5
    refine c_seq (c_seq (c_region ?_))
    iterate 2 refine o_pv trivial rfl rfl ?_
    refine o_callQ trivial rfl Try.call59 rfl (rCmp_any _ _ _ _ hua hub (by omega) (by omega)) ?_
    refine o_pv trivial rfl rfl ?_
    refine o_nil (then_c ?_)
    refine c_cond rfl (fun h3 => ?_) (fun h3 => ?_)
    ·
     have f3 := h3
     try simp only [bl] at f3
     rw [val_natW, val_natW] at f3
     have hab : a ≠ b := fun e => f3 (by rw [e]; exact cmpZ_self _)
     refine c_skip (then_c (c_block ?_))
     refine c_cut (ι := Nat × Nat × Value × Value) [7, 8] (.cons rfl (.cons rfl .nil)) (fun t E0 => (5, t.2.2.1) :: (6, t.2.2.2) :: E0) (fun t => St w [] I5 []) (fun t => t.1 % 2 = 1 ∧ t.2.1 % 2 = 1 ∧ Nat.gcd t.1 t.2.1 = Nat.gcd x y ∧ Ws I5 t.2.2.1 (natW t.1) ∧ Ws I5 t.2.2.2 (natW t.2.1) ∧ (natW t.1).length ≤ 3000 ∧ (natW t.2.1).length ≤ 3000 ∧ t.2.1 < t.1 ∧ t.1 + t.2.1 = a + b) ?_ ?_
     ·
      refine c_seq (c_region ?_)
      iterate 2 refine o_pv trivial rfl rfl ?_
      refine o_callQ trivial rfl Try.call59 rfl (rCmp_any _ _ _ _ hua hub (by omega) (by omega)) ?_
      refine o_pv trivial rfl rfl ?_
      refine o_nil (then_c ?_)
      refine c_cond rfl (fun h4 => ?_) (fun h4 => ?_)
      ·
       have f4 := h4
       try simp only [bl] at f4
       rw [val_natW, val_natW] at f4
       have hlt : a < b := by unfold cmpZ at f4; split at f4 <;> (try split at f4) <;> omega
       refine c_seq (c_region ?_)
       iterate 2 refine o_pv trivial rfl rfl ?_
       refine o_nil (then_c (c_seq (c_region ?_)))
       iterate 2 refine o_pv trivial rfl rfl ?_
       refine o_nil (then_c (c_region ?_))
       iterate 2 refine o_pv trivial rfl rfl ?_
       refine o_nil ?_
       first | exact meet (b, a, ub, ua) (sub_cons rfl (sub_cons rfl (sub_cons rfl (sub_cons rfl sub_nil)))) (fun _ h => h) ⟨hbo, hao, by rw [Nat.gcd_comm]; exact hg, hub, hua, hlb, hla, hlt, by show b + a = a + b; omega⟩ | exact meet (a, b, ua, ub) (sub_cons rfl (sub_cons rfl (sub_cons rfl (sub_cons rfl sub_nil)))) (fun _ h => h) ⟨hao, hbo, hg, hua, hub, hla, hlb, by show b < a; omega, rfl⟩
      ·
       have f4 := h4
       try simp only [bl] at f4
       rw [val_natW, val_natW] at f4
       have hlt : ¬ a < b := fun h => by rw [cmpZ_lt (by omega)] at f4; omega
       refine c_skip ?_
       first | exact meet (b, a, ub, ua) (sub_cons rfl (sub_cons rfl (sub_cons rfl (sub_cons rfl sub_nil)))) (fun _ h => h) ⟨hbo, hao, by rw [Nat.gcd_comm]; exact hg, hub, hua, hlb, hla, hlt, by show b + a = a + b; omega⟩ | exact meet (a, b, ua, ub) (sub_cons rfl (sub_cons rfl (sub_cons rfl (sub_cons rfl sub_nil)))) (fun _ h => h) ⟨hao, hbo, hg, hua, hub, hla, hlb, by show b < a; omega, rfl⟩
     ·
      rintro ⟨c, d, uc, ud⟩ ⟨hco, hdo, hg2, huc, hud, hlc, hld, hdc, hsum⟩
      try dsimp only
      refine c_seq ?_
      simp only at hco hdo hg2 huc hud hlc hld hdc hsum
      refine c_region ?_
      iterate 2 refine o_pv trivial rfl rfl ?_
      refine o_callI trivial rfl Try.call60 rfl (rSub_any _ _ _ _ huc hud (by omega) (by omega) (by rw [val_natW, val_natW]; omega)) ?_
      rintro _ I6 hx6 ⟨u6, rfl, hs6⟩
      iterate 4 refine o_pv trivial rfl rfl ?_
      refine o_nil (then_c ?_)
      rw [val_natW, val_natW] at hs6
      have hl6 : (natW (c - d)).length ≤ 3000 := Nat.le_trans (natW_le_len (Nat.sub_le _ _)) hlc
      refine c_region ?_
      refine o_pv trivial rfl rfl ?_
      refine o_callI trivial rfl Try.call58 rfl (rOdd_any _ _ hs6 (by omega) (by omega)) ?_
      rintro _ I7 hx7 ⟨u7, z, p, rfl, hs7, ho7⟩
      iterate 4 refine o_pv trivial rfl rfl ?_
      refine o_nil (blk_n ?_)
      exact again (z, d, u7, ud, I7) (sub_cons rfl (sub_cons rfl (sub_cons rfl (sub_cons rfl sub_nil)))) (fun _ h => h) (by show z + d < a + b; have := ho7.le; omega) ⟨ho7.odd, hdo, by show Nat.gcd z d = _; rw [gcd_less hdo (by omega) ho7.eq]; exact hg2, hs7, hud.le (hx6.le.trans hx7.le), Nat.le_trans (natW_le_len ho7.le) hl6, hld, hx5.trans (hx6.trans hx7 (Nat.le_refl _)) (Nat.le_refl _)⟩
    ·
     have f3 := h3
     try simp only [bl] at f3
     rw [val_natW, val_natW] at f3
     have hab : a = b := by have := cmpZ_zero f3; omega
     refine c_exit (then_x (then_x (blk_eq rfl (then_c (c_seq (c_region ?_))))))
     iterate 3 refine o_pv trivial rfl rfl ?_
     refine o_min2 trivial rfl rfl rfl ?_
     rw [show min (n : Int) (k : Int) = ((min n k : Nat) : Int) by omega]
     refine o_callI trivial rfl Try.call61 rfl (rShift_any _ _ (min n k) hua (by omega) (by omega)) ?_
     rintro u8 I8 hx8 hs8
     refine o_pv trivial rfl rfl ?_
     refine o_nil (then_c (c_ret ?_))
     refine ret1 rfl rfl ?_
     refine leaf (hx5.trans hx8 (Nat.le_refl _)) (List.nil_sublist _) ?_
     rw [val_natW] at hs8
     rw [ho3.eq, ho4.eq, gcd_twos ho3.odd ho4.odd, ← hg, ← hab, Nat.gcd_self]
     exact hs8
theorem rLowest_any (va vb : Value) (A B : List Nat) {I : Hp} (ha : Ws I va A) (hb : Ws I vb B) (hs : A.length ≤ 3000) (hs2 : B.length ≤ 3000) : Fun Try.prog 27 [va, vb] I [] (fun v I' _ => ∃ u1 u2, v = .tuple #[u1, u2, .bool (decide (val B ≠ 0))] ∧ (val B ≠ 0 → Ws I' u1 (natW (val A / Nat.gcd (val A) (val B))) ∧ Ws I' u2 (natW (val B / Nat.gcd (val A) (val B))))) := by
  have hbl : (natW (val B)).length ≤ 3000 := Nat.le_trans (natW_len_list hb.wds) hs2
  intro w hw
  refine enter2 _ Try.func27 rfl Try.ntmps27 rfl ?_ hw
  refine c_seq (c_region ?_)
  iterate 3 refine o_pv trivial rfl rfl ?_
  refine o_nil (then_c (c_seq (c_region ?_)))
  refine o_pv trivial rfl rfl ?_
  refine o_callI trivial rfl Try.call31 rfl (rTrim_any _ _ hb (by omega)) ?_
  rintro u1 I1 hx1 hs1
  refine o_pv trivial rfl rfl ?_
  refine o_nil (then_c (c_seq (c_seq (c_region ?_))))
  refine o_pv trivial rfl rfl ?_
  refine o_lenW trivial rfl Try.underlying38 rfl (hs1) ?_
  refine o_pv trivial rfl rfl ?_
  refine o_nil (then_c ?_)
  refine c_cond rfl (fun h1 => ?_) (fun h1 => ?_)
  ·
   have f1 := h1
   try simp only [bl] at f1
   refine c_seq (c_region ?_)
   iterate 3 refine o_pv trivial rfl rfl ?_
   refine o_nil (then_c (c_ret (then_r ?_)))
   refine ret3 rfl rfl rfl rfl ?_
   have h0 : val B = 0 := natW_len_zero.1 (by omega)
   refine leaf hx1 (List.nil_sublist _) ⟨.slice none 0 0, .slice none 0 0, ?_, fun h => absurd h0 h⟩; rw [decide_eq_false (not_not_intro h0)]
  ·
   have f1 := h1
   try simp only [bl] at f1
   have h0 : 0 < val B := Nat.pos_of_ne_zero fun e => f1 (by rw [e, natW_zero]; rfl)
   have hg : 0 < Nat.gcd (val A) (val B) := Nat.gcd_pos_of_pos_right _ h0
   have hgl : (natW (Nat.gcd (val A) (val B))).length ≤ 3000 := Nat.le_trans (natW_le_len (Nat.gcd_le_right _ h0)) hbl
   refine c_skip (then_c (c_seq (c_region ?_)))
   iterate 2 refine o_pv trivial rfl rfl ?_
   refine o_callI trivial rfl Try.call42 rfl (rGcd_any _ _ _ _ (ha.le hx1.le) hs1 hs (by omega)) ?_
   rintro u2 I2 hx2 hs2'
   refine o_pv trivial rfl rfl ?_
   refine o_nil (then_c (c_seq ?_))
   rw [val_natW] at hs2'
   refine c_region ?_
   iterate 2 refine o_pv trivial rfl rfl ?_
   refine o_callI trivial rfl Try.call43 rfl (rDiv_any _ _ _ _ (ha.le (hx1.le.trans hx2.le)) hs2' (by omega) (by omega) (by rw [val_natW]; exact hg)) ?_
   rintro _ I3 hx3 ⟨u3, u4, rfl, hq3, hr3⟩
   iterate 7 refine o_pv trivial rfl rfl ?_
   refine o_nil (then_c (c_seq (c_region ?_)))
   iterate 2 refine o_pv trivial rfl rfl ?_
   refine o_callI trivial rfl Try.call43 rfl (rDiv_any _ _ _ _ (hs1.le (hx2.le.trans hx3.le)) (hs2'.le hx3.le) (by omega) (by omega) (by rw [val_natW]; exact hg)) ?_
   rintro _ I4 hx4 ⟨u5, u6, rfl, hq5, hr5⟩
   iterate 5 refine o_pv trivial rfl rfl ?_
   refine o_nil (then_c (c_seq (c_region ?_)))
   iterate 5 refine o_pv trivial rfl rfl ?_
   refine o_nil (then_c (c_ret ?_))
   refine ret3 rfl rfl rfl rfl ?_
   rw [val_natW] at hq3
   rw [val_natW, val_natW] at hq5
   refine leaf (hx1.trans (hx2.trans (hx3.trans hx4 (Nat.le_refl _)) (Nat.le_refl _)) (Nat.le_refl _)) (List.nil_sublist _) ⟨u3, u5, ?_, fun _ => ⟨hq3.le hx4.le, hq5⟩⟩; rw [decide_eq_true (by omega)]; rfl
theorem strOf_app (a b : List Int) : strOf a ++ strOf b = strOf (a ++ b) := by
  unfold strOf; rw [List.map_append]; apply ByteArray.ext; simp
theorem decS_nil : decS 0 = ⟨#[48]⟩ := by
  unfold decS decL; rw [digs]; rfl
theorem rPrint_any (va : Value) (A : List Nat) {I : Hp} (ha : Ws I va A) (hs : A.length ≤ 100000) : Fun Try.prog 22 [va] I [] (fun v _ _ => v = .string (decS (val A))) := by
  have hdl := digs_words ha.wds hs
  have hal : (natW (val A)).length ≤ 100000 := Nat.le_trans (natW_len_list ha.wds) hs
  intro w hw
  refine enter1 _ Try.func22 rfl Try.ntmps22 rfl ?_ hw
  refine c_seq (c_region ?_)
  refine o_pv trivial rfl rfl ?_
  refine o_nil (then_c (c_seq (c_region ?_)))
  refine o_pv trivial rfl rfl ?_
  refine o_callI trivial rfl Try.call31 rfl (rTrim_any _ _ ha (by omega)) ?_
  rintro u1 I1 hx1 hs1
  refine o_pv trivial rfl rfl ?_
  refine o_nil (then_c (c_seq (c_seq (c_region ?_))))
  refine o_pv trivial rfl rfl ?_
  refine o_lenW trivial rfl Try.underlying38 rfl (hs1) ?_
  refine o_pv trivial rfl rfl ?_
  refine o_nil (then_c ?_)
  refine c_cond rfl (fun h1 => ?_) (fun h1 => ?_)
  ·
   have f1 := h1
   try simp only [bl] at f1
   refine c_seq (c_region ?_)
   refine o_pv trivial rfl rfl ?_
   refine o_nil (then_c (c_ret (then_r ?_)))
   refine ret1 rfl rfl ?_
   have h0 : val A = 0 := natW_len_zero.1 (by omega)
   refine leaf hx1 (List.nil_sublist _) (congrArg Value.string ?_); rw [h0, decS_nil]
  ·
   have f1 := h1
   try simp only [bl] at f1
   have h0 : 0 < val A := Nat.pos_of_ne_zero fun e => f1 (by rw [e, natW_zero]; rfl)
   refine c_skip (then_c (c_seq (c_region ?_)))
   refine o_pv trivial rfl rfl ?_
   refine o_nil (then_c (c_seq (c_block ?_)))
   refine c_loop (ι := Nat × List Nat × Value × Hp) [] .nil (fun x => x.1) (fun x E0 => (3, x.2.2.1) :: (4, .string (strOf (x.2.1.reverse.map Int.ofNat))) :: E0) (fun x => St w [] x.2.2.2 []) (fun x => Ws x.2.2.2 x.2.2.1 (natW x.1) ∧ (natW x.1).length ≤ 100000 ∧ x.2.1 ++ digRest x.1 x.2.1 = digs (val A) ∧ (x.1 = 0 → x.2.1 ≠ []) ∧ Ext w.heap.size I x.2.2.2) ((val A, [], u1, I1)) (sub_cons rfl (sub_cons rfl sub_nil)) (fun _ h => h) (⟨hs1, hal, by simp [digRest], fun h => absurd h (by show val A ≠ 0; omega), hx1⟩) ?_
   rintro ⟨m, L, u, I2⟩ ⟨hu, hl, hd, hne, hx2⟩
   try dsimp only
   simp only at hu hl hd hne hx2; have hol : L.length ≤ (digs (val A)).length := by rw [← hd, List.length_append]; omega
   refine c_seq (c_seq (c_region ?_))
   refine o_pv trivial rfl rfl ?_
   refine o_lenW trivial rfl Try.underlying38 rfl (hu) ?_
   refine o_pv trivial rfl rfl ?_
   refine o_nil (then_c ?_)
   refine c_cond rfl (fun h2 => ?_) (fun h2 => ?_)
   ·
    have f2 := h2
    try simp only [bl] at f2
    have hm0 : 0 < m := Nat.pos_of_ne_zero fun e => by rw [e, natW_zero] at f2; simp at f2
    rw [digs_step L (.inl hm0)] at hd
    have hsz : (strOf (L.reverse.map Int.ofNat)).size = L.length := by rw [strOf_size]; simp
    refine c_skip (then_c (c_block (c_seq (c_region ?_))))
    refine o_pv trivial rfl rfl ?_
    refine o_callI trivial rfl Try.call32 rfl (rSmall_any _ _ 10 hu hl (by decide) (by decide)) ?_
    rintro _ I3 hx3 ⟨u3, rfl, hs3⟩
    iterate 7 refine o_pv trivial rfl rfl ?_
    refine o_nil (then_c (c_seq (c_region ?_)))
    refine o_pv trivial rfl rfl ?_
    first | refine o_arA trivial rfl rfl rfl (by rw [IntWalk.u32_in _ (by omega)]) ?_ | refine o_pv trivial rfl rfl ?_
    refine o_convIn trivial rfl Try.underlying58 Try.underlying5 rfl (by rw [IntWalk.u8_in _ (by omega)]) ?_
    refine o_buildSl trivial rfl Try.underlying22 Try.sizeOf5 Try.zeroValue5 (by decide) (by decide) rfl (by repeat first | exact rfl | constructor) rfl (fun b25 => ?_)
    refine o_bytesStr (ns := [(48 : Int) + ((val (natW m) % 10 : Nat) : Int)]) trivial rfl Try.underlying22 Try.underlying5 Try.underlying9 rfl (by repeat constructor) rfl ?_
    refine o_pv trivial rfl rfl ?_
    refine o_cat trivial rfl rfl rfl (by rw [strOf_size, hsz]; simp only [List.length_cons, List.length_nil]; omega) ?_
    refine o_pv trivial rfl rfl ?_
    refine o_nil (then_c (c_region ?_))
    iterate 2 refine o_pv trivial rfl rfl ?_
    refine o_nil (blk_n ?_)
    rw [val_natW] at hs3
    have e1 : strOf [(48 : Int) + ((val (natW m) % 10 : Nat) : Int)] ++ strOf (L.reverse.map Int.ofNat) = strOf ((L ++ [48 + m % 10]).reverse.map Int.ofNat) := by
      rw [strOf_app, val_natW, List.reverse_append]; rfl
    rw [e1]
    exact again (m / 10, L ++ [48 + m % 10], u3, I3) (sub_cons rfl (sub_cons rfl sub_nil)) (fun _ h => h.drop (List.nil_sublist _)) (by show m / 10 < m; omega) ⟨hs3, Nat.le_trans (natW_le_len (Nat.div_le_self _ _)) hl, by show (L ++ [48 + m % 10]) ++ digRest (m / 10) (L ++ [48 + m % 10]) = _; rw [← hd]; simp, fun _ => by simp, hx2.trans hx3 (Nat.le_refl _)⟩
   ·
    have f2 := h2
    try simp only [bl] at f2
    have hm0 : m = 0 := natW_len_zero.1 (by omega)
    refine c_exit (then_x (then_x (blk_eq rfl (then_c (c_seq (c_region ?_))))))
    iterate 2 refine o_pv trivial rfl rfl ?_
    refine o_nil (then_c (c_ret ?_))
    refine ret1 rfl rfl ?_
    refine leaf hx2 (List.nil_sublist _) (congrArg Value.string ?_)
    unfold digRest at hd
    rw [if_pos ⟨hm0, hne hm0⟩, List.append_nil] at hd
    unfold decS decL
    rw [← hd]
end Go.Proofs.Ytjgbjaaekknenaa
/-
  The document's answers for layer 7.
-/
namespace Go.Proofs.Ytjgbjaaekknenaa
open Go Go.Tw
set_option linter.unusedVariables false
set_option linter.unusedSimpArgs false
set_option linter.unnecessarySimpa false
set_option maxHeartbeats 1000000
theorem rOf7_any (n : Int) {I : Hp} (hn : -1000000 ≤ n ∧ n ≤ 1000000) : Fun Try.prog 18 [.int .i64 n] I [] (fun v I' _ => IntV I' v n) := by
  intro w hw
  refine enter1 _ Try.func18 rfl Try.ntmps18 rfl ?_ hw
  refine c_seq (c_region ?_)
  refine o_alloc trivial rfl Try.zeroValue56 rfl (fun b2 => ?_)
  refine o_nil (then_c (c_seq (c_seq (c_region ?_))))
  iterate 2 refine o_pv trivial rfl rfl ?_
  refine o_nil (then_c ?_)
  refine c_cond rfl (fun h1 => ?_) (fun h1 => ?_)
  ·
   have f1 := h1
   try simp only [bl] at f1
   refine c_seq (c_region ?_)
   refine o_pv trivial rfl rfl ?_
   first | refine o_convIn trivial rfl Try.underlying3 Try.underlying70 rfl (by rw [IntWalk.u64_in _ (by omega)]) ?_ | refine o_conv trivial rfl Try.underlying3 Try.underlying70 rfl ?_
   rw [show n = ((n.natAbs : Nat) : Int) by omega]
   refine o_callI trivial rfl Try.call28 rfl (rOf_any n.natAbs (by omega)) ?_
   rintro u1 I1 hx1 hs1
   refine o_buildS trivial rfl (bld56) rfl (.cons rfl (by first | exact (Ws.cells1 (by assumption)).1 | exact (Slc.cells1 (by assumption)).1 | rfl) (by rfl) (by repeat constructor) .nil) ?_
   refine o_store trivial rfl rfl rfl Try.sizeOf56 rfl (by first | rfl | (repeat' (first | exact rfl | exact one_nil | refine one_cons ?_ ?_ | exact (Ws.cells1 (by assumption)).2 | exact (Slc.cells1 (by assumption)).2))) (by repeat constructor) (by repeat constructor) ?_
   refine o_nil (then_c (c_ret (then_r ?_)))
   refine retR rfl (.agg Try.isAgg56 Try.sizeOf56 rfl (by repeat constructor) rfl .nil) ?_
   refine leaf hx1 (List.nil_sublist _) ⟨u1, ?_, hs1⟩; rw [decide_eq_false (by omega)]; rfl
  ·
   have f1 := h1
   try simp only [bl] at f1
   refine c_skip (then_c (c_seq (c_region ?_)))
   refine o_pv trivial rfl rfl ?_
   first | refine o_convIn trivial rfl Try.underlying3 Try.underlying70 rfl (by rw [IntWalk.u64_in _ (by omega)]) ?_ | refine o_conv trivial rfl Try.underlying3 Try.underlying70 rfl ?_
   first | refine o_arS trivial rfl rfl rfl (by rw [IntWalk.u64_in _ (by omega)]) ?_ | refine o_pv trivial rfl rfl ?_
   refine o_pv trivial rfl rfl ?_
   refine o_nil (then_c (c_seq ?_))
   rw [show IntKind.u64.wrap (0 - IntKind.u64.wrap n) = ((n.natAbs : Nat) : Int) by simp only [IntKind.wrap_u64]; omega]
   refine c_region ?_
   refine o_pv trivial rfl rfl ?_
   refine o_callI trivial rfl Try.call28 rfl (rOf_any n.natAbs (by omega)) ?_
   rintro u2 I2 hx2 hs2
   refine o_buildS trivial rfl (bld56) rfl (.cons rfl rfl rfl (by repeat constructor) (.cons rfl (by first | exact (Ws.cells1 (by assumption)).1 | exact (Slc.cells1 (by assumption)).1 | rfl) (by rfl) (by repeat constructor) .nil)) ?_
   refine o_store trivial rfl rfl rfl Try.sizeOf56 rfl (by first | rfl | (repeat' (first | exact rfl | exact one_nil | refine one_cons ?_ ?_ | exact (Ws.cells1 (by assumption)).2 | exact (Slc.cells1 (by assumption)).2))) (by repeat constructor) (by repeat constructor) ?_
   refine o_nil (then_c (c_ret ?_))
   refine retR rfl (.agg Try.isAgg56 Try.sizeOf56 rfl (by repeat constructor) rfl .nil) ?_
   refine leaf hx2 (List.nil_sublist _) ⟨u2, ?_, hs2⟩; rw [decide_eq_true (by omega)]; rfl
theorem signs_same {x y : Int} (h : decide (x < 0) = decide (y < 0)) : (if decide (x < 0) then -((x.natAbs + y.natAbs : Nat) : Int) else ((x.natAbs + y.natAbs : Nat) : Int)) = x + y := by
  by_cases h1 : x < 0 <;> by_cases h2 : y < 0 <;> simp [h1, h2] at h ⊢ <;> omega
theorem signs_left {x y : Int} (h : decide (x < 0) ≠ decide (y < 0)) (hle : y.natAbs ≤ x.natAbs) : (if decide (x < 0) then -((x.natAbs - y.natAbs : Nat) : Int) else ((x.natAbs - y.natAbs : Nat) : Int)) = x + y := by
  by_cases h1 : x < 0 <;> by_cases h2 : y < 0 <;> simp [h1, h2] at h ⊢ <;> omega
end Go.Proofs.Ytjgbjaaekknenaa
/-
  The document's answers for layer 8.
-/
namespace Go.Proofs.Ytjgbjaaekknenaa
open Go Go.Tw
set_option linter.unusedVariables false
set_option linter.unusedSimpArgs false
set_option linter.unnecessarySimpa false
set_option maxHeartbeats 1000000
theorem natW_one : natW 1 = [1] := by rw [natW_pos (by decide), show 1 / 4294967296 = 0 from rfl, natW_zero]
theorem rlow_any (neg : Bool) (va vb : Value) (A B : List Nat) {I : Hp} (ha : Ws I va A) (hb : Ws I vb B) (hs : A.length ≤ 3000) (hs2 : B.length ≤ 3000) : Fun Try.prog 17 [.agg #[.bool neg, va], vb] I [] (fun v I' _ => RatV I' v (lowQ neg (val A) (val B))) := by
  intro w hw
  refine enter2 _ Try.func17 rfl Try.ntmps17 rfl ?_ hw
  refine c_seq (c_region ?_)
  refine o_box trivial rfl rfl rfl (fun b2 => ?_)
  refine o_alloc trivial rfl Try.zeroValue40 rfl (fun b4 => ?_)
  refine o_nil (then_c (c_seq (c_region ?_)))
  refine o_fieldAddr (T := 38) (off := 1) trivial rfl Try.underlying56 rfl rfl rfl Try.sizeOf38 rfl rfl ?_
  refine o_load1 trivial rfl Try.isAgg38 rfl (by repeat constructor) (by repeat constructor) ?_
  refine o_pv trivial rfl rfl ?_
  refine o_callI trivial rfl Try.call27 rfl (rLowest_any _ _ _ _ ha hb hs hs2) ?_
  rintro _ I1 hx1 ⟨u1, u2, rfl, hs1⟩
  iterate 7 refine o_pv trivial rfl rfl ?_
  refine o_nil (then_c (c_seq (c_seq (c_region ?_))))
  iterate 2 refine o_pv trivial rfl rfl ?_
  refine' o_or trivial trivial rfl rfl rfl rfl rfl rfl rfl rfl (fun hb18 => ?_) ?_
  rotate_left
  ·
   have fb18 := hb18
   try simp only [bl] at fb18
   have hB : val B ≠ 0 := by simpa using hb18
   obtain ⟨hu1, hu2⟩ := hs1 hB
   refine o_pv (wants_some rfl rfl hb18) rfl rfl ?_
   refine o_lenW (wants_some rfl rfl hb18) rfl Try.underlying38 rfl (hu1) ?_
   refine o_pv (wants_some rfl rfl hb18) rfl rfl ?_
   refine o_nil ?_
   exact joins rfl
  refine o_nil (then_c ?_)
  refine c_cond rfl (fun h1 => ?_) (fun h1 => ?_)
  ·
   have f1 := h1
   try simp only [bl] at f1
   have h0 : val B = 0 ∨ val A = 0 := by
     rcases f1 with f1 | f1
     · exact .inl (Decidable.not_not.1 f1)
     · by_cases hB : val B = 0
       · exact .inl hB
       · exact .inr (div_gcd_zero (natW_len_zero.1 (by omega)) hB)
   refine c_seq (c_region ?_)
   refine o_buildSl trivial rfl Try.underlying38 Try.sizeOf58 Try.zeroValue58 (by decide) (by decide) rfl (by repeat first | exact rfl | constructor) rfl (fun b23 => ?_)
   refine l_sealW [1] .here (Wds_cons (by decide) Wds_nil) (by unfold maxLen; simp) (fun I2 hx2 hs2' => ?_)
   refine o_buildS trivial rfl (bld40) rfl (.cons rfl (by first | exact (Ws.cells1 (by assumption)).1 | exact (Slc.cells1 (by assumption)).1 | rfl) (by rfl) (by repeat constructor) .nil) ?_
   refine o_store trivial rfl rfl rfl Try.sizeOf40 rfl (by first | rfl | (repeat' (first | exact rfl | exact one_nil | refine one_cons ?_ ?_ | exact (Ws.cells1 (by assumption)).2 | exact (Slc.cells1 (by assumption)).2))) (by repeat constructor) (by repeat constructor) ?_
   refine o_nil (then_c (c_ret (then_r ?_)))
   refine retR rfl (.agg Try.isAgg40 Try.sizeOf40 rfl (by repeat constructor) rfl .nil) ?_
   refine leaf (hx1.trans hx2 (Nat.le_refl _)) (List.nil_sublist _) ?_
   rw [lowQ_zero h0]; exact RatV.zero (by rw [natW_one]; exact hs2')
  ·
   have f1 := h1
   try simp only [bl] at f1
   have hB : val B ≠ 0 := fun e => f1.1 e
   obtain ⟨hu1, hu2⟩ := hs1 hB
   have hA : val A ≠ 0 := fun e => f1.2 (by rw [e, Nat.zero_div, natW_zero]; rfl)
   obtain ⟨e1, e2, e3⟩ := lowQ_parts (neg := neg) hA hB
   refine c_skip (then_c (c_seq (c_region ?_)))
   refine o_fieldAddr (T := 4) (off := 0) trivial rfl Try.underlying56 rfl rfl rfl Try.sizeOf4 rfl rfl ?_
   refine o_load1 trivial rfl Try.isAgg4 rfl (by repeat constructor) (by repeat constructor) ?_
   iterate 2 refine o_pv trivial rfl rfl ?_
   refine o_buildS trivial rfl (bld40) rfl (.cons rfl rfl rfl (by repeat constructor) (.cons rfl (by first | exact (Ws.cells1 (by assumption)).1 | exact (Slc.cells1 (by assumption)).1 | rfl) (by rfl) (by repeat constructor) (.cons rfl (by first | exact (Ws.cells1 (by assumption)).1 | exact (Slc.cells1 (by assumption)).1 | rfl) (by rfl) (by repeat constructor) .nil))) ?_
   refine o_store trivial rfl rfl rfl Try.sizeOf40 rfl (by first | rfl | (repeat' (first | exact rfl | exact one_nil | refine one_cons ?_ ?_ | exact (Ws.cells1 (by assumption)).2 | exact (Slc.cells1 (by assumption)).2))) (by repeat constructor) (by repeat constructor) ?_
   refine o_nil (then_c (c_ret ?_))
   refine retR rfl (.agg Try.isAgg40 Try.sizeOf40 rfl (by repeat constructor) rfl .nil) ?_
   refine leaf hx1 (List.nil_sublist _) ⟨u1, u2, ?_, ?_, ?_⟩
   · rw [e3]; rfl
   · rw [e1]; exact hu1
   · rw [e2]; exact hu2
theorem rFix_any (neg : Bool) (va vb : Value) (A B : List Nat) {I : Hp} (ha : Ws I va A) (hb : Ws I vb B) (hs : A.length ≤ 3000) (hs2 : B.length ≤ 3000) : Fun Try.prog 30 [.agg #[.bool neg, va, vb]] I [] (fun v I' _ => RatV I' v (lowQ neg (val A) (val B))) := by
  intro w hw
  refine enter1 _ Try.func30 rfl Try.ntmps30 rfl ?_ hw
  refine c_seq (c_region ?_)
  refine o_box trivial rfl rfl rfl (fun b1 => ?_)
  refine o_alloc trivial rfl Try.zeroValue40 rfl (fun b2 => ?_)
  refine o_nil (then_c (c_seq (c_region ?_)))
  refine o_fieldAddr (T := 4) (off := 0) trivial rfl Try.underlying40 rfl rfl rfl Try.sizeOf4 rfl rfl ?_
  refine o_load1 trivial rfl Try.isAgg4 rfl (by repeat constructor) (by repeat constructor) ?_
  refine o_fieldAddr (T := 38) (off := 1) trivial rfl Try.underlying40 rfl rfl rfl Try.sizeOf38 rfl rfl ?_
  refine o_load1 trivial rfl Try.isAgg38 rfl (by repeat constructor) (by repeat constructor) ?_
  refine o_buildS trivial rfl (bld56) rfl (.cons rfl rfl rfl (by repeat constructor) (.cons rfl (by first | exact (Ws.cells1 (by assumption)).1 | exact (Slc.cells1 (by assumption)).1 | rfl) (by rfl) (by repeat constructor) .nil)) ?_
  refine o_fieldAddr (T := 38) (off := 2) trivial rfl Try.underlying40 rfl rfl rfl Try.sizeOf38 rfl rfl ?_
  refine o_load1 trivial rfl Try.isAgg38 rfl (by repeat constructor) (by repeat constructor) ?_
  refine o_callI trivial rfl Try.call17 rfl (rlow_any neg _ _ _ _ ha hb hs hs2) ?_
  rintro _ I1 hx1 ⟨u1, u2, rfl, h1, h2⟩
  refine o_store trivial rfl rfl rfl Try.sizeOf40 rfl (by first | rfl | (repeat' (first | exact rfl | exact one_nil | refine one_cons ?_ ?_ | exact (Ws.cells1 (by assumption)).2 | exact (Slc.cells1 (by assumption)).2))) (by repeat constructor) (by repeat constructor) ?_
  refine o_nil (then_c (c_ret ?_))
  refine retR rfl (.agg Try.isAgg40 Try.sizeOf40 rfl (by repeat constructor) rfl .nil) ?_
  exact leaf hx1 (List.nil_sublist _) ⟨u1, u2, rfl, h1, h2⟩
theorem rFixQ_any (q : Rat) (va vb : Value) {I : Hp} (ha : Ws I va (natW q.num.natAbs)) (hb : Ws I vb (natW q.den)) (hk : Few 3000 q) : Fun Try.prog 30 [.agg #[.bool (decide (q.num < 0)), va, vb]] I [] (fun v I' _ => RatV I' v q) := by
  have h := rFix_any (decide (q.num < 0)) va vb _ _ ha hb (natW_few hk.num (Nat.le_refl _)) (natW_few hk.den (Nat.le_refl _))
  rw [val_natW, val_natW, lowQ_self] at h
  exact h
theorem rEqual_any (s1 s2 : Bool) (va vb vc vd : Value) (A B C D : List Nat) {I : Hp} (ha : Ws I va A) (hb : Ws I vb B) (hc : Ws I vc C) (hd : Ws I vd D) : Fun Try.prog 16 [.agg #[.bool s1, va, vb], .agg #[.bool s2, vc, vd]] I [] (fun v _ _ => v = .bool (decide (s1 = s2) && decide (A = C) && decide (B = D))) := by
  intro w hw
  refine enter2 _ Try.func16 rfl Try.ntmps16 rfl ?_ hw
  refine c_seq (c_region ?_)
  refine o_box trivial rfl rfl rfl (fun b2 => ?_)
  refine o_box trivial rfl rfl rfl (fun b3 => ?_)
  refine o_pv trivial rfl rfl ?_
  refine o_nil (then_c (c_seq (c_region ?_)))
  refine o_fieldAddr (T := 4) (off := 0) trivial rfl Try.underlying40 rfl rfl rfl Try.sizeOf4 rfl rfl ?_
  refine o_load1 trivial rfl Try.isAgg4 rfl (by repeat constructor) (by repeat constructor) ?_
  refine o_fieldAddr (T := 4) (off := 0) trivial rfl Try.underlying40 rfl rfl rfl Try.sizeOf4 rfl rfl ?_
  refine o_load1 trivial rfl Try.isAgg4 rfl (by repeat constructor) (by repeat constructor) ?_
  refine o_eqlB trivial rfl rfl rfl Try.underlying4 ?_
  refine' o_and trivial trivial rfl rfl rfl rfl rfl rfl rfl rfl (fun hb10 => ?_) ?_
  rotate_left
  ·
   have fb10 := hb10
   try simp only [bl] at fb10
   refine o_fieldAddr (T := 38) (off := 1) (wants_some rfl rfl hb10) rfl Try.underlying40 rfl rfl rfl Try.sizeOf38 rfl rfl ?_
   refine o_load1 (wants_some rfl rfl hb10) rfl Try.isAgg38 rfl (by repeat constructor) (by repeat constructor) ?_
   refine o_fieldAddr (T := 38) (off := 1) (wants_some rfl rfl hb10) rfl Try.underlying40 rfl rfl rfl Try.sizeOf38 rfl rfl ?_
   refine o_load1 (wants_some rfl rfl hb10) rfl Try.isAgg38 rfl (by repeat constructor) (by repeat constructor) ?_
   refine o_callQ (wants_some rfl rfl hb10) rfl Try.call26 rfl (rWords_any _ _ _ _ ha hc) ?_
   refine o_nil ?_
   exact joins rfl
  refine' o_and trivial trivial rfl rfl rfl rfl rfl rfl rfl rfl (fun hb17 => ?_) ?_
  rotate_left
  ·
   have fb17 := hb17
   try simp only [bl] at fb17
   refine o_fieldAddr (T := 38) (off := 2) (wants_some rfl rfl hb17) rfl Try.underlying40 rfl rfl rfl Try.sizeOf38 rfl rfl ?_
   refine o_load1 (wants_some rfl rfl hb17) rfl Try.isAgg38 rfl (by repeat constructor) (by repeat constructor) ?_
   refine o_fieldAddr (T := 38) (off := 2) (wants_some rfl rfl hb17) rfl Try.underlying40 rfl rfl rfl Try.sizeOf38 rfl rfl ?_
   refine o_load1 (wants_some rfl rfl hb17) rfl Try.isAgg38 rfl (by repeat constructor) (by repeat constructor) ?_
   refine o_callQ (wants_some rfl rfl hb17) rfl Try.call26 rfl (rWords_any _ _ _ _ hb hd) ?_
   refine o_nil ?_
   exact joins rfl
  refine o_pv trivial rfl rfl ?_
  refine o_nil (then_c (c_ret ?_))
  refine ret1 rfl rfl ?_
  refine leaf0 (congrArg Value.bool ?_)
  congr 2
theorem rRight_any (neg : Bool) (va vb : Value) (A B : List Nat) {I : Hp} (ha : Ws I va A) (hb : Ws I vb B) (hs : A.length ≤ 3000) (hs2 : B.length ≤ 3000) : Fun Try.prog 21 [.agg #[.bool neg, va, vb]] I [] (fun v _ _ => v = .bool (ratRight neg A B)) := by
  intro w hw
  refine enter1 _ Try.func21 rfl Try.ntmps21 rfl ?_ hw
  refine c_seq (c_region ?_)
  refine o_box trivial rfl rfl rfl (fun b1 => ?_)
  refine o_pv trivial rfl rfl ?_
  refine o_nil (then_c (c_seq ?_))
  refine h_beginB (m := 5) [.box b1 _] (by repeat constructor) (by kernel_rfl) rfl ?_
  refine' h_take (i := 0) #[true, false, false, false, false] rfl rfl rfl (by kernel_rfl) (by kernel_rfl) (by kernel_rfl) rfl (qp_then qp_bp) (fun _ h => (h.sort (by repeat constructor)).fewer (Hp.Le.refl _)) ?hh0 ?kk0
  case hh0 =>
   refine o_loadA trivial rfl Try.isAgg40 Try.sizeOf40 rfl (by repeat constructor) (by repeat constructor) ?_
   refine o_nil ?_
   exact ⟨fun _ _ ha _ => ha⟩
  refine' h_take (i := 2) #[true, false, true, false, false] rfl rfl rfl (by kernel_rfl) (by kernel_rfl) (by kernel_rfl) rfl (qp_then qp_bp) (fun _ h => (h.sort (by repeat constructor)).fewer (Hp.Le.refl _)) ?hh1 ?kk1
  case hh1 =>
   refine o_loadA trivial rfl Try.isAgg40 Try.sizeOf40 rfl (by repeat constructor) (by repeat constructor) ?_
   refine o_nil ?_
   exact ⟨fun _ _ ha _ => ha⟩
  refine h_go [1] (by kernel_rfl) rfl (TWHs.cons ?_ TWHs.nil)
  refine h_op #[true, true, true, false, false] rfl rfl ?_
  refine o_callI trivial rfl Try.call30 rfl (rFix_any neg _ _ _ _ ha hb hs hs2) ?_
  rintro _ I1 hx1 ⟨u1, u2, rfl, h1, h2⟩
  refine o_nil ?_
  refine h_next (fun _ h => (h.sort (by repeat constructor)).fewer (hx1.le)) ?_
  refine h_go [3] (by kernel_rfl) rfl (TWHs.cons ?_ TWHs.nil)
  refine h_op #[true, true, true, true, false] rfl rfl ?_
  refine o_callQ trivial rfl Try.call16 rfl (rEqual_any _ neg _ _ _ _ _ _ A B h1 h2 (ha.le hx1.le) (hb.le hx1.le)) ?_
  refine o_nil ?_
  refine h_next (fun _ h => (h.sort (by repeat constructor)).fewer (hx1.le)) ?_
  refine' h_take (i := 4) #[true, true, true, true, true] rfl rfl rfl (by kernel_rfl) (by kernel_rfl) (by kernel_rfl) rfl (qp_then qp_bp) (fun _ h => (h.sort (by repeat constructor)).fewer (hx1.le)) ?hh2 ?kk2
  case hh2 =>
   refine o_pv trivial rfl rfl ?_
   refine o_nil ?_
   exact ⟨fun _ _ ha _ => ha⟩
  refine h_end (by kernel_rfl) ?_
  refine then_c (c_ret ?_)
  refine ret1 rfl rfl ?_
  refine leaf hx1 (List.nil_sublist _) (congrArg Value.bool ?_)
  unfold ratRight
  rw [Bool.eq_iff_iff]
  simp only [Bool.and_eq_true, decide_eq_true_eq]
  constructor <;> (rintro ⟨⟨k1, k2⟩, k3⟩; exact ⟨⟨k1.symm, k2.symm⟩, k3.symm⟩)
theorem val_one : val [1] = 1 := by rw [val_cons, val_nil]
theorem rOf8_any (n : Int) {I : Hp} (hn : -1000000 ≤ n ∧ n ≤ 1000000) : Fun Try.prog 9 [.int .i64 n] I [] (fun v I' _ => RatV I' v (mkRat n 1)) := by
  have hl : (natW n.natAbs).length ≤ 3000 := natW_len_of (k := 1) (by rw [Nat.pow_one]; omega) (by decide)
  intro w hw
  refine enter1 _ Try.func9 rfl Try.ntmps9 rfl ?_ hw
  refine c_seq (c_region ?_)
  refine o_alloc trivial rfl Try.zeroValue40 rfl (fun b2 => ?_)
  refine o_nil (then_c (c_seq (c_region ?_)))
  refine o_pv trivial rfl rfl ?_
  refine o_callI trivial rfl Try.call18 rfl (rOf7_any n hn) ?_
  rintro _ I1 hx1 ⟨u1, rfl, hs1⟩
  refine o_buildSl trivial rfl Try.underlying38 Try.sizeOf58 Try.zeroValue58 (by decide) (by decide) rfl (by repeat first | exact rfl | constructor) rfl (fun b5 => ?_)
  refine l_sealW [1] .here (Wds_cons (by decide) Wds_nil) (by unfold maxLen; simp) (fun I2 hx2 hs2 => ?_)
  refine o_callI trivial rfl Try.call17 rfl (rlow_any (decide (n < 0)) _ _ _ _ (hs1.le hx2.le) hs2 hl (by simp)) ?_
  rintro _ I3 hx3 ⟨u3, u4, rfl, h3, h4⟩
  refine o_store trivial rfl rfl rfl Try.sizeOf40 rfl (by first | rfl | (repeat' (first | exact rfl | exact one_nil | refine one_cons ?_ ?_ | exact (Ws.cells1 (by assumption)).2 | exact (Slc.cells1 (by assumption)).2))) (by repeat constructor) (by repeat constructor) ?_
  refine o_nil (then_c (c_ret ?_))
  refine retR rfl (.agg Try.isAgg40 Try.sizeOf40 rfl (by repeat constructor) rfl .nil) ?_
  rw [val_natW, val_one, lowQ_int] at h3 h4
  refine leaf (hx1.trans (hx2.trans hx3 (Nat.le_refl _)) (Nat.le_refl _)) (List.nil_sublist _) ⟨u3, u4, ?_, h3, h4⟩
  rw [val_natW, val_one, lowQ_int]; rfl
theorem rSmall8_any (n : Int) (d : Nat) {I : Hp} (hn : -128 ≤ n ∧ n ≤ 127) (hd : d ≤ 255) : Fun Try.prog 10 [.int .i8 n, .int .u8 (d : Int)] I [] (fun v I' _ => RatV I' v (mkRat n (d + 1))) := by
  have hl : (natW n.natAbs).length ≤ 3000 := natW_len_of (k := 1) (by rw [Nat.pow_one]; omega) (by decide)
  have hv : val [d + 1] = d + 1 := by rw [val_cons, val_nil]
  intro w hw
  refine enter2 _ Try.func10 rfl Try.ntmps10 rfl ?_ hw
  refine c_seq (c_region ?_)
  refine o_alloc trivial rfl Try.zeroValue40 rfl (fun b4 => ?_)
  refine o_nil (then_c (c_seq (c_region ?_)))
  refine o_pv trivial rfl rfl ?_
  first | refine o_convIn trivial rfl Try.underlying45 Try.underlying3 rfl (by rw [IntWalk.i64_in _ (by omega)]) ?_ | refine o_conv trivial rfl Try.underlying45 Try.underlying3 rfl ?_
  refine o_callI trivial rfl Try.call18 rfl (rOf7_any n (by omega)) ?_
  rintro _ I1 hx1 ⟨u1, rfl, hs1⟩
  refine o_pv trivial rfl rfl ?_
  first | refine o_convIn trivial rfl Try.underlying5 Try.underlying58 rfl (by rw [IntWalk.u32_in _ (by omega)]) ?_ | refine o_conv trivial rfl Try.underlying5 Try.underlying58 rfl ?_
  first | refine o_arA trivial rfl rfl rfl (by rw [IntWalk.u32_in _ (by omega)]) ?_ | refine o_pv trivial rfl rfl ?_
  refine o_buildSl trivial rfl Try.underlying38 Try.sizeOf58 Try.zeroValue58 (by decide) (by decide) rfl (by repeat first | exact rfl | constructor) rfl (fun b11 => ?_)
  refine l_sealW [d + 1] .here (Wds_cons (by omega) Wds_nil) (by unfold maxLen; simp) (fun I2 hx2 hs2 => ?_)
  refine o_callI trivial rfl Try.call17 rfl (rlow_any (decide (n < 0)) _ _ _ _ (hs1.le hx2.le) hs2 hl (by simp)) ?_
  rintro _ I3 hx3 ⟨u3, u4, rfl, h3, h4⟩
  refine o_store trivial rfl rfl rfl Try.sizeOf40 rfl (by first | rfl | (repeat' (first | exact rfl | exact one_nil | refine one_cons ?_ ?_ | exact (Ws.cells1 (by assumption)).2 | exact (Slc.cells1 (by assumption)).2))) (by repeat constructor) (by repeat constructor) ?_
  refine o_nil (then_c (c_ret ?_))
  refine retR rfl (.agg Try.isAgg40 Try.sizeOf40 rfl (by repeat constructor) rfl .nil) ?_
  rw [val_natW, hv, lowQ_int] at h3 h4
  refine leaf (hx1.trans (hx2.trans hx3 (Nat.le_refl _)) (Nat.le_refl _)) (List.nil_sublist _) ⟨u3, u4, ?_, h3, h4⟩
  rw [val_natW, hv, lowQ_int]; rfl
end Go.Proofs.Ytjgbjaaekknenaa
/-
  The document's answers for layer 8: quotients, powers, lists.
-/
namespace Go.Tw
open Go
set_option linter.unusedVariables false
set_option linter.unusedSimpArgs false
set_option linter.unnecessarySimpa false
set_option maxHeartbeats 1000000
theorem inv_num_neg {q : Rat} : decide ((q⁻¹).num < 0) = decide (q.num < 0) := by
  rw [Rat.num_inv, decide_eq_decide]
  have := q.den_pos
  by_cases h : q.num < 0
  · have e : q.num.sign = -1 := Int.sign_eq_neg_one_of_neg h
    rw [e]; omega
  · by_cases h0 : q.num = 0
    · rw [h0]; simp
    · have e : q.num.sign = 1 := Int.sign_eq_one_of_pos (by omega)
      rw [e]; omega
theorem inv_num_abs {q : Rat} (h : q ≠ 0) : (q⁻¹).num.natAbs = q.den := by
  have hn : q.num ≠ 0 := fun e => h (Rat.num_eq_zero.1 e)
  rw [Rat.num_inv, Int.natAbs_mul, Int.natAbs_natCast]
  rcases Int.lt_or_gt_of_ne hn with h1 | h1
  · rw [Int.sign_eq_neg_one_of_neg h1]; simp
  · rw [Int.sign_eq_one_of_pos h1]; simp
theorem inv_den {q : Rat} (h : q ≠ 0) : (q⁻¹).den = q.num.natAbs := by
  have hn : q.num ≠ 0 := fun e => h (Rat.num_eq_zero.1 e)
  rw [Rat.den_inv, if_neg hn]
theorem Few.inv {k : Nat} {q : Rat} (h : Few k q) (h0 : q ≠ 0) : Few k q⁻¹ := ⟨by rw [inv_num_abs h0]; exact h.den, by rw [inv_den h0]; exact h.num⟩
theorem Few.pow {k : Nat} {q : Rat} (h : Few k q) (m : Nat) : Few (k * m + 1) (q ^ m) := by
  have key : ∀ a : Nat, a < 4294967296 ^ k → a ^ m < 4294967296 ^ (k * m + 1) := fun a ha => by
    have h2 : a ^ m ≤ (4294967296 ^ k) ^ m := Nat.pow_le_pow_left (Nat.le_of_lt ha) m
    rw [← Nat.pow_mul] at h2
    exact Nat.lt_of_le_of_lt h2 (Nat.pow_lt_pow_right (by decide) (Nat.lt_succ_self _))
  exact ⟨by rw [Rat.num_pow, Int.natAbs_pow]; exact key _ h.num, by rw [Rat.den_pow]; exact key _ h.den⟩
/-- What is multiplied for a power. -/
def powX (q : Rat) (n : Int) : Rat := if n < 0 then q⁻¹ else q
theorem powX_pow (q : Rat) (n : Int) : powX q n ^ n.natAbs = q ^ n := by
  unfold powX
  by_cases h : n < 0
  · rw [if_pos h]
    have e : n = -((n.natAbs : Nat) : Int) := by omega
    conv => rhs; rw [e]
    rw [Rat.zpow_neg, Rat.zpow_natCast]
    generalize n.natAbs = k
    induction k with
    | zero => rw [Rat.pow_zero, Rat.pow_zero]; exact (Rat.inv_eq_of_mul_eq_one (Rat.mul_one 1)).symm
    | succ k ih => rw [Rat.pow_succ, Rat.pow_succ, ih, Rat.inv_mul_rev, Rat.mul_comm]
  · rw [if_neg h]
    have e : n = ((n.natAbs : Nat) : Int) := by omega
    conv => rhs; rw [e]
    rw [Rat.zpow_natCast]
theorem rat_eq_iff (p q : Rat) : (decide (decide (p.num < 0) = decide (q.num < 0)) && decide (natW p.num.natAbs = natW q.num.natAbs) && decide (natW p.den = natW q.den)) = decide (p = q) := by
  rw [Bool.eq_iff_iff]
  simp only [Bool.and_eq_true, decide_eq_true_eq]
  constructor
  · rintro ⟨⟨h1, h2⟩, h3⟩
    have e2 := congrArg val h2
    have e3 := congrArg val h3
    rw [val_natW, val_natW] at e2 e3
    rw [decide_eq_decide] at h1
    exact Rat.ext (by omega) e3
  · rintro rfl
    exact ⟨⟨rfl, rfl⟩, rfl⟩
theorem RV.at_ {I : Hp} {v : Value} {rs : List RV} (h : Slc I 3 v (rcs rs)) {i : Nat} {r : RV} (hr : rs[i]? = some r) : ∀ k y, ([.bool (decide (r.q.num < 0)), r.vn, r.vd] : List Value)[k]? = some y → I.cell? ⟨slcB v, slcO v + i * 3 + k, none⟩ = some y :=
  h.cells i _ (by unfold rcs; rw [List.getElem?_map, hr]; rfl)
end Go.Tw
namespace Go.Proofs.Ytjgbjaaekknenaa
open Go Go.Tw
set_option linter.unusedVariables false
set_option linter.unusedSimpArgs false
set_option linter.unnecessarySimpa false
set_option maxHeartbeats 1000000
theorem rAll_any (va vb : Value) (l m : List Rat) {I : Hp} (ha : RsV I va l) (hb : RsV I vb m) : Fun Try.prog 8 [va, vb] I [] (fun v _ _ => v = .bool (decide (l = m))) := by
  obtain ⟨rs, hs1, ok1, rfl⟩ := ha.out
  obtain ⟨ss, hs2, ok2, rfl⟩ := hb.out
  have hl1 := rcs_len rs
  have hl2 := rcs_len ss
  have hm1 := hs1.most
  unfold maxLen at hm1
  intro w hw
  refine enter2 _ Try.func8 rfl Try.ntmps8 rfl ?_ hw
  refine c_seq (c_region ?_)
  refine o_pv trivial rfl rfl ?_
  refine o_nil (then_c (c_seq (c_seq (c_region ?_))))
  refine o_pv trivial rfl rfl ?_
  refine o_lenSlc trivial rfl Try.underlying31 rfl (hs1) ?_
  refine o_pv trivial rfl rfl ?_
  refine o_lenSlc trivial rfl Try.underlying31 rfl (hs2) ?_
  refine o_pv trivial rfl rfl ?_
  refine o_nil (then_c ?_)
  refine c_cond rfl (fun h1 => ?_) (fun h1 => ?_)
  ·
   have f1 := h1
   try simp only [bl] at f1
   refine c_seq (c_region ?_)
   refine o_pv trivial rfl rfl ?_
   refine o_nil (then_c (c_ret (then_r ?_)))
   refine ret1 rfl rfl ?_
   refine leaf0 (congrArg Value.bool ?_); rw [decide_eq_false]; intro e; have := congrArg List.length e; rw [List.length_map, List.length_map] at this; omega
  ·
   have f1 := h1
   try simp only [bl] at f1
   refine c_skip (then_c (c_seq (c_seq (c_region ?_))))
   refine o_pv trivial rfl rfl ?_
   refine o_nil (then_c (c_block ?_))
   refine c_loop (ι := Nat) [0, 1] (.cons rfl (.cons rfl .nil)) (fun i => rs.length - i) (fun i E0 => (5, .int .i64 (i : Nat)) :: E0) (fun i => St w [] I []) (fun i => i ≤ rs.length ∧ (rs.map RV.q).take i = (ss.map RV.q).take i) (0) (sub_cons rfl (sub_cons rfl (sub_cons rfl sub_nil))) (fun _ h => h) (⟨Nat.zero_le _, rfl⟩) ?_
   rintro i ⟨hi, he⟩
   try dsimp only
   refine c_seq (c_seq (c_region ?_))
   iterate 2 refine o_pv trivial rfl rfl ?_
   refine o_lenSlc trivial rfl Try.underlying31 rfl (hs1) ?_
   refine o_pv trivial rfl rfl ?_
   refine o_nil (then_c ?_)
   refine c_cond rfl (fun h2 => ?_) (fun h2 => ?_)
   ·
    have f2 := h2
    try simp only [bl] at f2
    have hi1 : i < rs.length := by omega
    have hi2 : i < ss.length := by omega
    obtain ⟨r, hr⟩ : ∃ r, rs[i]? = some r := ⟨rs[i], List.getElem?_eq_getElem hi1⟩
    obtain ⟨t, ht⟩ : ∃ t, ss[i]? = some t := ⟨ss[i], List.getElem?_eq_getElem hi2⟩
    obtain ⟨hrn, hrd⟩ := ok1 r (List.mem_of_getElem? hr)
    obtain ⟨htn, htd⟩ := ok2 t (List.mem_of_getElem? ht)
    refine c_skip (then_c (c_seq (c_block (c_seq ?_))))
    refine c_quiet (by kernel_rfl) (by kernel_rfl) (fun _ h => h.drawn) ?_
    iterate 2 refine o_pv trivial rfl rfl ?_
    refine o_elem trivial rfl Try.underlying31 Try.sizeOf40 rfl (hs1) rfl (by omega) ?_
    refine o_loadAI trivial rfl Try.isAgg40 Try.sizeOf40 rfl rfl (RV.at_ hs1 hr) ?_
    iterate 2 refine o_pv trivial rfl rfl ?_
    refine o_elem trivial rfl Try.underlying31 Try.sizeOf40 rfl (hs2) rfl (by omega) ?_
    refine o_loadAI trivial rfl Try.isAgg40 Try.sizeOf40 rfl rfl (RV.at_ hs2 ht) ?_
    refine o_callQ trivial rfl Try.call16 rfl (rEqual_any _ _ _ _ _ _ _ _ _ _ hrn hrd htn htd) ?_
    refine o_pv trivial rfl rfl ?_
    refine o_nil (then_c (c_seq ?_))
    rw [rat_eq_iff]
    refine c_region ?_
    iterate 2 refine o_pv trivial rfl rfl ?_
    refine o_nil (then_c ?_)
    refine c_cond rfl (fun h3 => ?_) (fun h3 => ?_)
    ·
     have f3 := h3
     try simp only [bl] at f3
     refine c_seq (c_region ?_)
     refine o_pv trivial rfl rfl ?_
     refine o_nil (then_c (c_ret (blk_r (then_r (then_r (blk_r (then_r ?_)))))))
     refine ret1 rfl rfl ?_
     refine leaf0 (congrArg Value.bool ?_); rw [decide_eq_false]; intro e; have e2 := congrArg (fun l => l[i]?) e; simp only [List.getElem?_map, hr, ht, Option.map_some, Option.some.injEq] at e2; exact f3 e2
    ·
     have f3 := h3
     try simp only [bl] at f3
     refine c_skip (blk_n (then_c (c_region ?_)))
     refine o_pv trivial rfl rfl ?_
     first | (refine o_add trivial rfl rfl rfl ?_ ?_; (omega)) | refine o_pv trivial rfl rfl ?_
     refine o_pv trivial rfl rfl ?_
     refine o_nil ?_
     exact again (i + 1) (sub_cons rfl (sub_cons rfl (sub_cons rfl sub_nil))) (fun _ h => h) (by show rs.length - (i + 1) < rs.length - i; omega) ⟨by show i + 1 ≤ _; omega, by rw [List.take_add_one, List.take_add_one, he, List.getElem?_map, List.getElem?_map, hr, ht]; simp only [Option.map_some]; rw [f3]⟩
   ·
    have f2 := h2
    try simp only [bl] at f2
    refine c_exit (then_x (then_x (blk_eq rfl (then_c (c_seq (c_region ?_))))))
    refine o_pv trivial rfl rfl ?_
    refine o_nil (then_c (c_ret ?_))
    refine ret1 rfl rfl ?_
    refine leaf0 (congrArg Value.bool ?_); rw [decide_eq_true]
    have hie : i = rs.length := by omega
    have e1 : (rs.map RV.q).take i = rs.map RV.q := List.take_of_length_le (by rw [List.length_map]; omega)
    have e2 : (ss.map RV.q).take i = ss.map RV.q := List.take_of_length_le (by rw [List.length_map]; omega)
    rw [← e1, ← e2, he]
end Go.Proofs.Ytjgbjaaekknenaa
/-
  The document's answers for layer 14: weights.
-/
namespace Go.Proofs.Ytjgbjaaekknenaa
open Go Go.Tw
set_option linter.unusedVariables false
set_option linter.unusedSimpArgs false
set_option linter.unnecessarySimpa false
set_option maxHeartbeats 1000000
def zeroR (o : OpC) : Bool :=
  if o.code = 1 then decide (o.a = 0 ∧ o.b = 0 ∧ o.e = 0)
  else if 2 ≤ o.code ∧ o.code ≤ 5 then emptyZ o.neg o.n o.d && decide (o.e = 0)
  else if o.code = 6 then emptyZ o.neg o.n o.d && decide (o.b = 0 ∧ o.e = 0)
  else if o.code = 7 then emptyZ o.neg o.n o.d && decide (o.b = 0)
  else false
theorem empty_eq (neg : Bool) (A B : List Nat) : (decide (neg = false) && decide (A = []) && decide (B = [])) = emptyZ neg A B := by
  unfold emptyZ
  cases neg <;> cases A <;> cases B <;> simp
theorem zero_any (code a b e : Int) (neg : Bool) (va vb : Value) (A B : List Nat) {I : Hp} (ha : Ws I va A) (hb : Ws I vb B) : Fun Try.prog 20 [.agg #[.int .i64 code, .int .i64 a, .int .i64 b, .int .i64 e, .bool neg, va, vb]] I [] (fun v _ _ => v = .bool (zeroR ⟨code, a, b, e, neg, A, B⟩)) := by
  have hq := rEqual_any neg false va vb (.slice none 0 0) (.slice none 0 0) A B [] [] ha hb (Ws.nil I) (Ws.nil I)
  rw [empty_eq] at hq
  intro w hw
  refine enter1 _ Try.func20 rfl Try.ntmps20 rfl ?_ hw
  refine c_seq (c_region ?_)
  refine o_box trivial rfl rfl rfl (fun b1 => ?_)
  refine o_pv trivial rfl rfl ?_
  refine o_nil (then_c (c_seq (c_region ?_)))
  refine o_fieldAddr (T := 40) (off := 4) trivial rfl Try.underlying43 rfl rfl rfl Try.sizeOf40 rfl rfl ?_
  refine o_loadA trivial rfl Try.isAgg40 Try.sizeOf40 rfl (by repeat constructor) (by repeat constructor) ?_
  refine o_buildS trivial rfl (bld40) rfl .nil ?_
  refine o_callQ trivial rfl Try.call16 rfl hq ?_
  refine o_pv trivial rfl rfl ?_
  refine o_nil (then_c (c_seq (c_block (c_seq (c_region ?_)))))
  refine o_fieldAddr (T := 3) (off := 0) trivial rfl Try.underlying43 rfl rfl rfl Try.sizeOf3 rfl rfl ?_
  refine o_load1 trivial rfl Try.isAgg3 rfl (by repeat constructor) (by repeat constructor) ?_
  iterate 2 refine o_pv trivial rfl rfl ?_
  refine o_nil (then_c ?_)
  refine c_cond rfl (fun h1 => ?_) (fun h1 => ?_)
  ·
   have f1 := h1
   try simp only [bl] at f1
   refine c_seq (c_region ?_)
   refine o_fieldAddr (T := 3) (off := 1) trivial rfl Try.underlying43 rfl rfl rfl Try.sizeOf3 rfl rfl ?_
   refine o_load1 trivial rfl Try.isAgg3 rfl (by repeat constructor) (by repeat constructor) ?_
   refine o_pv trivial rfl rfl ?_
   refine' o_and trivial trivial rfl rfl rfl rfl rfl rfl rfl rfl (fun hb15 => ?_) ?_
   rotate_left
   ·
    have fb15 := hb15
    try simp only [bl] at fb15
    refine o_fieldAddr (T := 3) (off := 2) (wants_some rfl rfl hb15) rfl Try.underlying43 rfl rfl rfl Try.sizeOf3 rfl rfl ?_
    refine o_load1 (wants_some rfl rfl hb15) rfl Try.isAgg3 rfl (by repeat constructor) (by repeat constructor) ?_
    refine o_pv (wants_some rfl rfl hb15) rfl rfl ?_
    refine o_nil ?_
    exact joins rfl
   refine' o_and trivial trivial rfl rfl rfl rfl rfl rfl rfl rfl (fun hb20 => ?_) ?_
   rotate_left
   ·
    have fb20 := hb20
    try simp only [bl] at fb20
    refine o_fieldAddr (T := 3) (off := 3) (wants_some rfl rfl hb20) rfl Try.underlying43 rfl rfl rfl Try.sizeOf3 rfl rfl ?_
    refine o_load1 (wants_some rfl rfl hb20) rfl Try.isAgg3 rfl (by repeat constructor) (by repeat constructor) ?_
    refine o_pv (wants_some rfl rfl hb20) rfl rfl ?_
    refine o_nil ?_
    exact joins rfl
   refine o_pv trivial rfl rfl ?_
   refine o_nil (then_c (c_ret (blk_r (then_r ?_))))
   refine ret1 rfl rfl ?_
   refine leaf0 (congrArg Value.bool ?_)
   unfold zeroR
   dsimp only
   first
     | (exfalso; omega)
     | (generalize emptyZ neg A B = Z at *
        repeat (first | rw [if_pos (by omega)] | rw [if_neg (by omega)])
        try rw [Bool.eq_iff_iff]
        first | done | (cases Z <;> simp_all <;> omega))
  ·
   have f1 := h1
   try simp only [bl] at f1
   refine c_seq (c_region ?_)
   refine o_fieldAddr (T := 3) (off := 0) trivial rfl Try.underlying43 rfl rfl rfl Try.sizeOf3 rfl rfl ?_
   refine o_load1 trivial rfl Try.isAgg3 rfl (by repeat constructor) (by repeat constructor) ?_
   refine o_pv trivial rfl rfl ?_
   refine' o_and trivial trivial rfl rfl rfl rfl rfl rfl rfl rfl (fun hb29 => ?_) ?_
   rotate_left
   ·
    have fb29 := hb29
    try simp only [bl] at fb29
    refine o_fieldAddr (T := 3) (off := 0) (wants_some rfl rfl hb29) rfl Try.underlying43 rfl rfl rfl Try.sizeOf3 rfl rfl ?_
    refine o_load1 (wants_some rfl rfl hb29) rfl Try.isAgg3 rfl (by repeat constructor) (by repeat constructor) ?_
    refine o_pv (wants_some rfl rfl hb29) rfl rfl ?_
    refine o_nil ?_
    exact joins rfl
   refine o_pv trivial rfl rfl ?_
   refine o_nil (then_c ?_)
   refine c_cond rfl (fun h2 => ?_) (fun h2 => ?_)
   ·
    have f2 := h2
    try simp only [bl] at f2
    refine c_seq (c_region ?_)
    refine o_pv trivial rfl rfl ?_
    refine' o_and trivial trivial rfl rfl rfl rfl rfl rfl rfl rfl (fun hb35 => ?_) ?_
    rotate_left
    ·
     have fb35 := hb35
     try simp only [bl] at fb35
     refine o_fieldAddr (T := 3) (off := 3) (wants_some rfl rfl hb35) rfl Try.underlying43 rfl rfl rfl Try.sizeOf3 rfl rfl ?_
     refine o_load1 (wants_some rfl rfl hb35) rfl Try.isAgg3 rfl (by repeat constructor) (by repeat constructor) ?_
     refine o_pv (wants_some rfl rfl hb35) rfl rfl ?_
     refine o_nil ?_
     exact joins rfl
    refine o_pv trivial rfl rfl ?_
    refine o_nil (then_c (c_ret (blk_r (then_r ?_))))
    refine ret1 rfl rfl ?_
    refine leaf0 (congrArg Value.bool ?_)
    unfold zeroR
    dsimp only
    first
      | (exfalso; omega)
      | (generalize emptyZ neg A B = Z at *
         repeat (first | rw [if_pos (by omega)] | rw [if_neg (by omega)])
         try rw [Bool.eq_iff_iff]
         first | done | (cases Z <;> simp_all <;> omega))
   ·
    have f2 := h2
    try simp only [bl] at f2
    refine c_seq (c_region ?_)
    refine o_fieldAddr (T := 3) (off := 0) trivial rfl Try.underlying43 rfl rfl rfl Try.sizeOf3 rfl rfl ?_
    refine o_load1 trivial rfl Try.isAgg3 rfl (by repeat constructor) (by repeat constructor) ?_
    iterate 2 refine o_pv trivial rfl rfl ?_
    refine o_nil (then_c ?_)
    refine c_cond rfl (fun h3 => ?_) (fun h3 => ?_)
    ·
     have f3 := h3
     try simp only [bl] at f3
     refine c_seq (c_region ?_)
     refine o_pv trivial rfl rfl ?_
     refine' o_and trivial trivial rfl rfl rfl rfl rfl rfl rfl rfl (fun hb45 => ?_) ?_
     rotate_left
     ·
      have fb45 := hb45
      try simp only [bl] at fb45
      refine o_fieldAddr (T := 3) (off := 2) (wants_some rfl rfl hb45) rfl Try.underlying43 rfl rfl rfl Try.sizeOf3 rfl rfl ?_
      refine o_load1 (wants_some rfl rfl hb45) rfl Try.isAgg3 rfl (by repeat constructor) (by repeat constructor) ?_
      refine o_pv (wants_some rfl rfl hb45) rfl rfl ?_
      refine o_nil ?_
      exact joins rfl
     refine' o_and trivial trivial rfl rfl rfl rfl rfl rfl rfl rfl (fun hb50 => ?_) ?_
     rotate_left
     ·
      have fb50 := hb50
      try simp only [bl] at fb50
      refine o_fieldAddr (T := 3) (off := 3) (wants_some rfl rfl hb50) rfl Try.underlying43 rfl rfl rfl Try.sizeOf3 rfl rfl ?_
      refine o_load1 (wants_some rfl rfl hb50) rfl Try.isAgg3 rfl (by repeat constructor) (by repeat constructor) ?_
      refine o_pv (wants_some rfl rfl hb50) rfl rfl ?_
      refine o_nil ?_
      exact joins rfl
     refine o_pv trivial rfl rfl ?_
     refine o_nil (then_c (c_ret (blk_r (then_r ?_))))
     refine ret1 rfl rfl ?_
     refine leaf0 (congrArg Value.bool ?_)
     unfold zeroR
     dsimp only
     first
       | (exfalso; omega)
       | (generalize emptyZ neg A B = Z at *
          repeat (first | rw [if_pos (by omega)] | rw [if_neg (by omega)])
          try rw [Bool.eq_iff_iff]
          first | done | (cases Z <;> simp_all <;> omega))
    ·
     have f3 := h3
     try simp only [bl] at f3
     refine c_seq (c_region ?_)
     refine o_fieldAddr (T := 3) (off := 0) trivial rfl Try.underlying43 rfl rfl rfl Try.sizeOf3 rfl rfl ?_
     refine o_load1 trivial rfl Try.isAgg3 rfl (by repeat constructor) (by repeat constructor) ?_
     iterate 2 refine o_pv trivial rfl rfl ?_
     refine o_nil (then_c ?_)
     refine c_cond rfl (fun h4 => ?_) (fun h4 => ?_)
     ·
      have f4 := h4
      try simp only [bl] at f4
      refine c_seq (c_region ?_)
      refine o_pv trivial rfl rfl ?_
      refine' o_and trivial trivial rfl rfl rfl rfl rfl rfl rfl rfl (fun hb60 => ?_) ?_
      rotate_left
      ·
       have fb60 := hb60
       try simp only [bl] at fb60
       refine o_fieldAddr (T := 3) (off := 2) (wants_some rfl rfl hb60) rfl Try.underlying43 rfl rfl rfl Try.sizeOf3 rfl rfl ?_
       refine o_load1 (wants_some rfl rfl hb60) rfl Try.isAgg3 rfl (by repeat constructor) (by repeat constructor) ?_
       refine o_pv (wants_some rfl rfl hb60) rfl rfl ?_
       refine o_nil ?_
       exact joins rfl
      refine o_pv trivial rfl rfl ?_
      refine o_nil (then_c (c_ret (blk_r (then_r ?_))))
      refine ret1 rfl rfl ?_
      refine leaf0 (congrArg Value.bool ?_)
      unfold zeroR
      dsimp only
      first
        | (exfalso; omega)
        | (generalize emptyZ neg A B = Z at *
           repeat (first | rw [if_pos (by omega)] | rw [if_neg (by omega)])
           try rw [Bool.eq_iff_iff]
           first | done | (cases Z <;> simp_all <;> omega))
     ·
      have f4 := h4
      try simp only [bl] at f4
      refine c_skip (blk_n (then_c (c_seq (c_region ?_))))
      refine o_pv trivial rfl rfl ?_
      refine o_nil (then_c (c_ret ?_))
      refine ret1 rfl rfl ?_
      refine leaf0 (congrArg Value.bool ?_)
      unfold zeroR
      dsimp only
      first
        | (exfalso; omega)
        | (generalize emptyZ neg A B = Z at *
           repeat (first | rw [if_pos (by omega)] | rw [if_neg (by omega)])
           try rw [Bool.eq_iff_iff]
           first | done | (cases Z <;> simp_all <;> omega))
/-- An op's weight, if it can be there. -/
def wR (o : OpC) (l : List Nat) : Option Nat := if fieldsOK o then wgt o l else none
def wRT (o : OpC) (l : List Nat) (v : Value) : Prop := ∃ m : Int, v = .int .i64 m ∧ (∀ k, wR o l = some k → m = k) ∧ (wR o l = none → m < 0 ∨ 200 < m)
theorem wRT_neg {o : OpC} {l : List Nat} (h : wR o l = none) : wRT o l (.int .i64 (-1)) := ⟨-1, rfl, fun k hk => (by rw [h] at hk; cases hk), fun _ => by omega⟩
theorem wRT_of {o : OpC} {l : List Nat} {M : Nat} {m : Int} (h : wR o l = if M ≤ 200 then some M else none) (hm : m = M) : wRT o l (.int .i64 m) :=
  ⟨m, rfl, fun k hk => by rw [h] at hk; split at hk <;> cases hk; exact hm, fun hk => by
    rw [h] at hk
    split at hk
    · cases hk
    · omega⟩
theorem fields_one {o : OpC} (h : o.code = 1) : fieldsOK o = (constOK o.neg o.n o.d && zeroR o) := by
  unfold fieldsOK zeroR; rw [if_pos h, if_pos h]
theorem fields_zero {o : OpC} (h : zeroR o = false) : fieldsOK o = false := by
  unfold zeroR at h
  unfold fieldsOK
  split
  · rename_i h1; rw [if_pos h1] at h; rw [h, Bool.and_false]
  · rename_i h1
    rw [if_neg h1] at h
    split
    · rename_i h2; rw [if_pos h2] at h; exact h
    · rename_i h2
      rw [if_neg h2] at h
      split
      · rename_i h3; rw [if_pos h3] at h; exact h
      · rename_i h3
        rw [if_neg h3] at h
        split
        · rename_i h4
          rw [if_pos h4] at h
          cases hz : emptyZ o.neg o.n o.d
          · rfl
          · rw [hz] at h
            simp at h
            simp [h]
        · rfl
theorem fields_rest {o : OpC} (h1 : ¬ o.code = 1) (h : zeroR o = true) (he : -20 ≤ o.e ∧ o.e ≤ 20) : fieldsOK o = true := by
  unfold zeroR at h
  unfold fieldsOK
  rw [if_neg h1] at h ⊢
  split
  · rename_i h2; rw [if_pos h2] at h; exact h
  · rename_i h2
    rw [if_neg h2] at h
    split
    · rename_i h3; rw [if_pos h3] at h; exact h
    · rename_i h3
      rw [if_neg h3] at h
      split
      · rename_i h4
        rw [if_pos h4] at h
        simp only [Bool.and_eq_true, decide_eq_true_eq] at h ⊢
        exact ⟨h.1, h.2, he⟩
      · rename_i h4; rw [if_neg h4] at h; exact h
theorem fields_exp2 {o : OpC} (h1 : ¬ o.code = 1) (he : ¬ (-20 ≤ o.e ∧ o.e ≤ 20)) : fieldsOK o = false := by
  unfold fieldsOK
  rw [if_neg h1]
  split
  · rw [show decide (o.e = 0) = false from decide_eq_false (by omega), Bool.and_false]
  · split
    · rw [show decide (o.b = 0 ∧ o.e = 0) = false from decide_eq_false (by omega), Bool.and_false]
    · split
      · rw [show decide (o.b = 0 ∧ -20 ≤ o.e ∧ o.e ≤ 20) = false from decide_eq_false (by omega), Bool.and_false]
      · rfl
theorem zero_code {o : OpC} (h : zeroR o = true) (h1 : ¬ o.code = 1) : 2 ≤ o.code ∧ o.code ≤ 7 := by
  unfold zeroR at h
  rw [if_neg h1] at h
  split at h
  · omega
  · split at h
    · omega
    · split at h
      · omega
      · cases h
theorem weightR_any (code a b e : Int) (neg : Bool) (va vb u : Value) (A B : List Nat) (l : List Nat) {I : Hp} (ha : Ws I va A) (hb : Ws I vb B) (hA : A.length ≤ 3000) (hB : B.length ≤ 3000) (hl : l.length ≤ 1000000) (hl2 : ∀ x ∈ l, x ≤ 200) : Fun Try.prog 13 [.agg #[.int .i64 code, .int .i64 a, .int .i64 b, .int .i64 e, .bool neg, va, vb], u] I [.row u 3 1 l.length (nvs l)]
    (fun v I' B' => I = I' ∧ B' = [.row u 3 1 l.length (nvs l)] ∧ wRT ⟨code, a, b, e, neg, A, B⟩ l v) := by
  have ga := le_getD hl2 a.toNat
  have gb := le_getD hl2 b.toNat
  have hda := digs_words ha.wds hA
  have hdb := digs_words hb.wds hB
  have hsa := decS_size (val A)
  have hsb := decS_size (val B)
  intro w hw
  refine enter2 _ Try.func13 rfl Try.ntmps13 rfl ?_ hw
  refine c_seq (c_region ?_)
  refine o_box trivial rfl rfl rfl (fun b2 => ?_)
  refine o_pv trivial rfl rfl ?_
  refine o_nil (then_c (c_seq (c_region ?_)))
  refine o_loadA trivial rfl Try.isAgg43 Try.sizeOf43 rfl (by repeat constructor) (by repeat constructor) ?_
  refine o_callQ trivial rfl Try.call20 rfl (zero_any code a b e neg _ _ _ _ ha hb) ?_
  refine o_pv trivial rfl rfl ?_
  refine o_nil (then_c (c_seq (c_seq (c_region ?_))))
  iterate 2 refine o_pv trivial rfl rfl ?_
  refine o_nil (then_c ?_)
  refine c_cond rfl (fun h1 => ?_) (fun h1 => ?_)
  ·
   have f1 := h1
   try simp only [bl] at f1
   have hz : wR ⟨code, a, b, e, neg, A, B⟩ l = none := by unfold wR; rw [fields_zero f1]; rfl
   refine c_seq (c_region ?_)
   refine o_pv trivial rfl rfl ?_
   refine o_nil (then_c (c_ret (then_r ?_)))
   refine ret1 rfl rfl ?_
   exact leaf (Ext.refl _ _) (List.sublist_cons_self _ _) ⟨rfl, rfl, wRT_neg hz⟩
  ·
   have f1 := h1
   try simp only [bl] at f1
   refine c_skip (then_c (c_seq (c_seq (c_region ?_))))
   refine o_fieldAddr (T := 3) (off := 0) trivial rfl Try.underlying43 rfl rfl rfl Try.sizeOf3 rfl rfl ?_
   refine o_load1 trivial rfl Try.isAgg3 rfl (by repeat constructor) (by repeat constructor) ?_
   refine o_pv trivial rfl rfl ?_
   refine o_nil (then_c ?_)
   refine c_cond rfl (fun h2 => ?_) (fun h2 => ?_)
   ·
    have f2 := h2
    try simp only [bl] at f2
    refine c_seq (c_region ?_)
    refine o_fieldAddr (T := 40) (off := 4) trivial rfl Try.underlying43 rfl rfl rfl Try.sizeOf40 rfl rfl ?_
    refine o_loadA trivial rfl Try.isAgg40 Try.sizeOf40 rfl (by repeat constructor) (by repeat constructor) ?_
    refine o_callQ trivial rfl Try.call21 rfl (rRight_any neg _ _ _ _ ha hb hA hB) ?_
    refine o_pv trivial rfl rfl ?_
    refine o_nil (then_c (c_seq (c_seq (c_region ?_))))
    iterate 2 refine o_pv trivial rfl rfl ?_
    refine' o_or trivial trivial rfl rfl rfl rfl rfl rfl rfl rfl (fun hb20 => ?_) ?_
    rotate_left
    ·
     have fb20 := hb20
     try simp only [bl] at fb20
     refine o_fieldAddr (T := 40) (off := 4) (wants_some rfl rfl hb20) rfl Try.underlying43 rfl rfl rfl Try.sizeOf40 rfl rfl ?_
     refine o_fieldAddr (T := 38) (off := 1) (wants_some rfl rfl hb20) rfl Try.underlying40 rfl rfl rfl Try.sizeOf38 rfl rfl ?_
     refine o_load1 (wants_some rfl rfl hb20) rfl Try.isAgg38 rfl (by repeat constructor) (by repeat constructor) ?_
     refine o_callQ (wants_some rfl rfl hb20) rfl Try.call22 rfl (rPrint_any _ _ ha (by omega)) ?_
     refine o_lenS (wants_some rfl rfl hb20) rfl Try.underlying9 rfl ?_
     refine o_pv (wants_some rfl rfl hb20) rfl rfl ?_
     refine o_nil ?_
     exact joins rfl
    refine' o_or trivial trivial rfl rfl rfl rfl rfl rfl rfl rfl (fun hb28 => ?_) ?_
    rotate_left
    ·
     have fb28 := hb28
     try simp only [bl] at fb28
     refine o_fieldAddr (T := 40) (off := 4) (wants_some rfl rfl hb28) rfl Try.underlying43 rfl rfl rfl Try.sizeOf40 rfl rfl ?_
     refine o_fieldAddr (T := 38) (off := 2) (wants_some rfl rfl hb28) rfl Try.underlying40 rfl rfl rfl Try.sizeOf38 rfl rfl ?_
     refine o_load1 (wants_some rfl rfl hb28) rfl Try.isAgg38 rfl (by repeat constructor) (by repeat constructor) ?_
     refine o_callQ (wants_some rfl rfl hb28) rfl Try.call22 rfl (rPrint_any _ _ hb (by omega)) ?_
     refine o_lenS (wants_some rfl rfl hb28) rfl Try.underlying9 rfl ?_
     refine o_pv (wants_some rfl rfl hb28) rfl rfl ?_
     refine o_nil ?_
     exact joins rfl
    refine o_nil (then_c ?_)
    refine c_cond rfl (fun h3 => ?_) (fun h3 => ?_)
    ·
     have f3 := h3
     try simp only [bl] at f3
     have hz : wR ⟨code, a, b, e, neg, A, B⟩ l = none := by
       unfold wR
       rw [fields_one f2, f1, Bool.and_true]
       unfold constOK
       dsimp only
       rcases f3 with (f3 | f3) | f3
       · rw [f3]; rfl
       · rw [show decide ((digs (val A)).length ≤ 40) = false from decide_eq_false (by omega), Bool.and_false, Bool.false_and]; rfl
       · rw [show decide ((digs (val B)).length ≤ 40) = false from decide_eq_false (by omega), Bool.and_false]; rfl
     refine c_seq (c_region ?_)
     refine o_pv trivial rfl rfl ?_
     refine o_nil (then_c (c_ret (then_r (then_r ?_))))
     refine ret1 rfl rfl ?_
     exact leaf (Ext.refl _ _) (List.sublist_cons_self _ _) ⟨rfl, rfl, wRT_neg hz⟩
    ·
     have f3 := h3
     try simp only [bl] at f3
     have hz : wR ⟨code, a, b, e, neg, A, B⟩ l = some 1 := by
       unfold wR
       rw [fields_one f2, f1, Bool.and_true]
       unfold constOK
       dsimp only
       obtain ⟨⟨k1, k2⟩, k3⟩ := f3
       rw [k1, show decide ((digs (val A)).length ≤ 40) = true from decide_eq_true (by omega), show decide ((digs (val B)).length ≤ 40) = true from decide_eq_true (by omega)]
       show wgt ⟨code, a, b, e, neg, A, B⟩ l = some 1
       exact if_pos f2
     refine c_skip (then_c (c_seq (c_region ?_)))
     refine o_pv trivial rfl rfl ?_
     refine o_nil (then_c (c_ret (then_r ?_)))
     refine ret1 rfl rfl ?_
     exact leaf (Ext.refl _ _) (List.sublist_cons_self _ _) ⟨rfl, rfl, 1, rfl, fun k hk => by rw [hz] at hk; cases hk; rfl, fun hk => by rw [hz] at hk; cases hk⟩
   ·
    have f2 := h2
    try simp only [bl] at f2
    refine c_skip (then_c (c_seq (c_seq (c_region ?_))))
    refine o_fieldAddr (T := 3) (off := 1) trivial rfl Try.underlying43 rfl rfl rfl Try.sizeOf3 rfl rfl ?_
    refine o_load1 trivial rfl Try.isAgg3 rfl (by repeat constructor) (by repeat constructor) ?_
    refine o_pv trivial rfl rfl ?_
    refine' o_or trivial trivial rfl rfl rfl rfl rfl rfl rfl rfl (fun hb39 => ?_) ?_
    rotate_left
    ·
     have fb39 := hb39
     try simp only [bl] at fb39
     refine o_fieldAddr (T := 3) (off := 1) (wants_some rfl rfl hb39) rfl Try.underlying43 rfl rfl rfl Try.sizeOf3 rfl rfl ?_
     refine o_load1 (wants_some rfl rfl hb39) rfl Try.isAgg3 rfl (by repeat constructor) (by repeat constructor) ?_
     refine o_pv (wants_some rfl rfl hb39) rfl rfl ?_
     refine o_lenRow (wants_some rfl rfl hb39) rfl Try.underlying27 rfl (by repeat constructor) ?_
     refine o_pv (wants_some rfl rfl hb39) rfl rfl ?_
     refine o_nil ?_
     exact joins rfl
    refine' o_or trivial trivial rfl rfl rfl rfl rfl rfl rfl rfl (fun hb46 => ?_) ?_
    rotate_left
    ·
     have fb46 := hb46
     try simp only [bl] at fb46
     refine o_fieldAddr (T := 3) (off := 2) (wants_some rfl rfl hb46) rfl Try.underlying43 rfl rfl rfl Try.sizeOf3 rfl rfl ?_
     refine o_load1 (wants_some rfl rfl hb46) rfl Try.isAgg3 rfl (by repeat constructor) (by repeat constructor) ?_
     refine o_pv (wants_some rfl rfl hb46) rfl rfl ?_
     refine o_nil ?_
     exact joins rfl
    refine' o_or trivial trivial rfl rfl rfl rfl rfl rfl rfl rfl (fun hb51 => ?_) ?_
    rotate_left
    ·
     have fb51 := hb51
     try simp only [bl] at fb51
     refine o_fieldAddr (T := 3) (off := 2) (wants_some rfl rfl hb51) rfl Try.underlying43 rfl rfl rfl Try.sizeOf3 rfl rfl ?_
     refine o_load1 (wants_some rfl rfl hb51) rfl Try.isAgg3 rfl (by repeat constructor) (by repeat constructor) ?_
     refine o_pv (wants_some rfl rfl hb51) rfl rfl ?_
     refine o_lenRow (wants_some rfl rfl hb51) rfl Try.underlying27 rfl (by repeat constructor) ?_
     refine o_pv (wants_some rfl rfl hb51) rfl rfl ?_
     refine o_nil ?_
     exact joins rfl
    refine' o_or trivial trivial rfl rfl rfl rfl rfl rfl rfl rfl (fun hb58 => ?_) ?_
    rotate_left
    ·
     have fb58 := hb58
     try simp only [bl] at fb58
     refine o_fieldAddr (T := 3) (off := 3) (wants_some rfl rfl hb58) rfl Try.underlying43 rfl rfl rfl Try.sizeOf3 rfl rfl ?_
     refine o_load1 (wants_some rfl rfl hb58) rfl Try.isAgg3 rfl (by repeat constructor) (by repeat constructor) ?_
     refine o_pv (wants_some rfl rfl hb58) rfl rfl ?_
     refine o_nil ?_
     exact joins rfl
    refine' o_or trivial trivial rfl rfl rfl rfl rfl rfl rfl rfl (fun hb63 => ?_) ?_
    rotate_left
    ·
     have fb63 := hb63
     try simp only [bl] at fb63
     refine o_fieldAddr (T := 3) (off := 3) (wants_some rfl rfl hb63) rfl Try.underlying43 rfl rfl rfl Try.sizeOf3 rfl rfl ?_
     refine o_load1 (wants_some rfl rfl hb63) rfl Try.isAgg3 rfl (by repeat constructor) (by repeat constructor) ?_
     refine o_pv (wants_some rfl rfl hb63) rfl rfl ?_
     refine o_nil ?_
     exact joins rfl
    refine o_nil (then_c ?_)
    refine c_cond rfl (fun h4 => ?_) (fun h4 => ?_)
    ·
     have f4 := h4
     try simp only [bl] at f4
     have hz : wR ⟨code, a, b, e, neg, A, B⟩ l = none := by
       unfold wR
       by_cases he : -20 ≤ e ∧ e ≤ 20
       · rw [fields_rest f2 f1 he]
         unfold wgt
         dsimp only
         have n2 : a < 0 ∨ (l.length : Int) ≤ a ∨ b < 0 ∨ (l.length : Int) ≤ b := by omega
         rw [if_neg f2, if_pos n2]; rfl
       · rw [fields_exp2 (o := ⟨code, a, b, e, neg, A, B⟩) f2 he]; rfl
     refine c_seq (c_region ?_)
     refine o_pv trivial rfl rfl ?_
     refine o_nil (then_c (c_ret (then_r ?_)))
     refine ret1 rfl rfl ?_
     exact leaf (Ext.refl _ _) (List.sublist_cons_self _ _) ⟨rfl, rfl, wRT_neg hz⟩
    ·
     have f4 := h4
     try simp only [bl] at f4
     have hcd := zero_code (o := ⟨code, a, b, e, neg, A, B⟩) f1 f2
     have he : -20 ≤ e ∧ e ≤ 20 := by omega
     have n2 : ¬ (a < 0 ∨ (l.length : Int) ≤ a ∨ b < 0 ∨ (l.length : Int) ≤ b) := by omega
     have hwr : wR ⟨code, a, b, e, neg, A, B⟩ l = if wgtM ⟨code, a, b, e, neg, A, B⟩ l ≤ 200 then some (wgtM ⟨code, a, b, e, neg, A, B⟩ l) else none := by
       unfold wR
       rw [fields_rest f2 f1 he]
       unfold wgt
       dsimp only
       rw [if_neg f2, if_neg n2]; rfl
     have hm20 : l.getD a.toNat 0 * max 1 e.natAbs ≤ 200 * 20 := Nat.mul_le_mul ga (by omega)
     refine c_skip (then_c (c_seq (c_region ?_)))
     refine o_pv trivial rfl rfl ?_
     refine o_fieldAddr (T := 3) (off := 1) trivial rfl Try.underlying43 rfl rfl rfl Try.sizeOf3 rfl rfl ?_
     refine o_load1 trivial rfl Try.isAgg3 rfl (by repeat constructor) (by repeat constructor) ?_
     refine o_elemRow trivial rfl Try.underlying27 Try.sizeOf3 rfl (by repeat constructor) rfl (by omega) ?_
     refine o_loadRow1 trivial rfl Try.isAgg3 (by repeat constructor) rfl (by rw [Nat.mul_one]; exact nvs_get (by omega)) ?_
     refine o_pv trivial rfl rfl ?_
     refine o_nil (then_c (c_seq (c_seq (c_region ?_))))
     refine o_fieldAddr (T := 3) (off := 0) trivial rfl Try.underlying43 rfl rfl rfl Try.sizeOf3 rfl rfl ?_
     refine o_load1 trivial rfl Try.isAgg3 rfl (by repeat constructor) (by repeat constructor) ?_
     refine o_pv trivial rfl rfl ?_
     refine o_nil (then_c ?_)
     refine c_cond rfl (fun h5 => ?_) (fun h5 => ?_)
     ·
      have f5 := h5
      try simp only [bl] at f5
      refine c_region ?_
      iterate 2 refine o_pv trivial rfl rfl ?_
      refine o_fieldAddr (T := 3) (off := 2) trivial rfl Try.underlying43 rfl rfl rfl Try.sizeOf3 rfl rfl ?_
      refine o_load1 trivial rfl Try.isAgg3 rfl (by repeat constructor) (by repeat constructor) ?_
      refine o_elemRow trivial rfl Try.underlying27 Try.sizeOf3 rfl (by repeat constructor) rfl (by omega) ?_
      refine o_loadRow1 trivial rfl Try.isAgg3 (by repeat constructor) rfl (by rw [Nat.mul_one]; exact nvs_get (by omega)) ?_
      first | (refine o_add trivial rfl rfl rfl ?_ ?_; (omega)) | refine o_pv trivial rfl rfl ?_
      refine o_pv trivial rfl rfl ?_
      refine o_nil (then_c (c_seq (c_seq (c_region ?_))))
      refine o_fieldAddr (T := 3) (off := 0) trivial rfl Try.underlying43 rfl rfl rfl Try.sizeOf3 rfl rfl ?_
      refine o_load1 trivial rfl Try.isAgg3 rfl (by repeat constructor) (by repeat constructor) ?_
      refine o_pv trivial rfl rfl ?_
      refine' o_and trivial trivial rfl rfl rfl rfl rfl rfl rfl rfl (fun hb86 => ?_) ?_
      rotate_left
      ·
       have fb86 := hb86
       try simp only [bl] at fb86
       refine o_fieldAddr (T := 3) (off := 3) (wants_some rfl rfl hb86) rfl Try.underlying43 rfl rfl rfl Try.sizeOf3 rfl rfl ?_
       refine o_load1 (wants_some rfl rfl hb86) rfl Try.isAgg3 rfl (by repeat constructor) (by repeat constructor) ?_
       refine o_pv (wants_some rfl rfl hb86) rfl rfl ?_
       refine o_nil ?_
       exact joins rfl
      refine o_nil (then_c ?_)
      refine c_cond rfl (fun h6 => ?_) (fun h6 => ?_)
      ·
       have f6 := h6
       try simp only [bl] at f6
       refine c_region ?_
       refine o_pv trivial rfl rfl ?_
       refine o_fieldAddr (T := 3) (off := 3) trivial rfl Try.underlying43 rfl rfl rfl Try.sizeOf3 rfl rfl ?_
       refine o_load1 trivial rfl Try.isAgg3 rfl (by repeat constructor) (by repeat constructor) ?_
       refine o_pv trivial rfl rfl ?_
       first | (refine o_mul trivial rfl rfl rfl ?_ ?_; (omega)) | refine o_pv trivial rfl rfl ?_
       refine o_pv trivial rfl rfl ?_
       refine o_nil (then_c (c_seq (c_seq (c_region ?_))))
       refine o_fieldAddr (T := 3) (off := 0) trivial rfl Try.underlying43 rfl rfl rfl Try.sizeOf3 rfl rfl ?_
       refine o_load1 trivial rfl Try.isAgg3 rfl (by repeat constructor) (by repeat constructor) ?_
       refine o_pv trivial rfl rfl ?_
       refine' o_and trivial trivial rfl rfl rfl rfl rfl rfl rfl rfl (fun hb99 => ?_) ?_
       rotate_left
       ·
        have fb99 := hb99
        try simp only [bl] at fb99
        refine o_fieldAddr (T := 3) (off := 3) (wants_some rfl rfl hb99) rfl Try.underlying43 rfl rfl rfl Try.sizeOf3 rfl rfl ?_
        refine o_load1 (wants_some rfl rfl hb99) rfl Try.isAgg3 rfl (by repeat constructor) (by repeat constructor) ?_
        refine o_pv (wants_some rfl rfl hb99) rfl rfl ?_
        refine o_nil ?_
        exact joins rfl
       refine o_nil (then_c ?_)
       refine c_cond rfl (fun h7 => ?_) (fun h7 => ?_)
       ·
        have f7 := h7
        try simp only [bl] at f7
        refine c_region ?_
        refine o_pv trivial rfl rfl ?_
        refine o_fieldAddr (T := 3) (off := 3) trivial rfl Try.underlying43 rfl rfl rfl Try.sizeOf3 rfl rfl ?_
        refine o_load1 trivial rfl Try.isAgg3 rfl (by repeat constructor) (by repeat constructor) ?_
        first | (refine o_mul trivial rfl rfl rfl ?_ ?_; (omega)) | refine o_pv trivial rfl rfl ?_
        refine o_pv trivial rfl rfl ?_
        refine o_nil (then_c (c_seq (c_region ?_)))
        iterate 2 refine o_pv trivial rfl rfl ?_
        refine o_nil (then_c (c_ret ?_))
        refine ret1 rfl rfl ?_
        refine leaf (Ext.refl _ _) (List.sublist_cons_self _ _) ⟨rfl, rfl, wRT_of hwr ?_⟩
        unfold wgtM
        dsimp only at hcd ⊢
        first
          | (exfalso; omega)
          | (rw [if_pos (show 2 ≤ code ∧ code ≤ 5 by omega)]; rfl)
          | (have h7 : code = 7 := f6.1
             have he0 := f6.2
             rw [if_neg (show ¬ (2 ≤ code ∧ code ≤ 5) by omega), if_pos h7, Nat.max_eq_right (show 1 ≤ e.natAbs by omega)] at *
             rw [show IntKind.i64.wrap (0 - e) = ((e.natAbs : Nat) : Int) by rw [IntWalk.i64_in _ (by omega)]; omega, ← Int.natCast_mul, IntWalk.i64_in _ (by omega)])
          | (have h7 : code = 7 := f7.1
             have he0 := f7.2
             rw [if_neg (show ¬ (2 ≤ code ∧ code ≤ 5) by omega), if_pos h7]
             have hmx : max 1 e.natAbs = e.natAbs := Nat.max_eq_right (show 1 ≤ e.natAbs by omega)
             rw [hmx] at hm20 ⊢
             have he1 : (l.getD a.toNat 0 : Int) * e = ((l.getD a.toNat 0 * e.natAbs : Nat) : Int) := by rw [Int.natCast_mul]; congr 1; omega
             rw [he1, IntWalk.i64_in _ (by omega)])
          | (by_cases h7 : code = 7
             · have he0 : e = 0 := by omega
               rw [if_neg (show ¬ (2 ≤ code ∧ code ≤ 5) by omega), if_pos h7, he0]
               show _ = ((_ * 1 : Nat) : Int)
               rw [Nat.mul_one]
             · rw [if_neg (show ¬ (2 ≤ code ∧ code ≤ 5) by omega), if_neg h7])
       ·
        have f7 := h7
        try simp only [bl] at f7
        refine c_skip (then_c (c_seq (c_region ?_)))
        iterate 2 refine o_pv trivial rfl rfl ?_
        refine o_nil (then_c (c_ret ?_))
        refine ret1 rfl rfl ?_
        refine leaf (Ext.refl _ _) (List.sublist_cons_self _ _) ⟨rfl, rfl, wRT_of hwr ?_⟩
        unfold wgtM
        dsimp only at hcd ⊢
        first
          | (exfalso; omega)
          | (rw [if_pos (show 2 ≤ code ∧ code ≤ 5 by omega)]; rfl)
          | (have h7 : code = 7 := f6.1
             have he0 := f6.2
             rw [if_neg (show ¬ (2 ≤ code ∧ code ≤ 5) by omega), if_pos h7, Nat.max_eq_right (show 1 ≤ e.natAbs by omega)] at *
             rw [show IntKind.i64.wrap (0 - e) = ((e.natAbs : Nat) : Int) by rw [IntWalk.i64_in _ (by omega)]; omega, ← Int.natCast_mul, IntWalk.i64_in _ (by omega)])
          | (have h7 : code = 7 := f7.1
             have he0 := f7.2
             rw [if_neg (show ¬ (2 ≤ code ∧ code ≤ 5) by omega), if_pos h7]
             have hmx : max 1 e.natAbs = e.natAbs := Nat.max_eq_right (show 1 ≤ e.natAbs by omega)
             rw [hmx] at hm20 ⊢
             have he1 : (l.getD a.toNat 0 : Int) * e = ((l.getD a.toNat 0 * e.natAbs : Nat) : Int) := by rw [Int.natCast_mul]; congr 1; omega
             rw [he1, IntWalk.i64_in _ (by omega)])
          | (by_cases h7 : code = 7
             · have he0 : e = 0 := by omega
               rw [if_neg (show ¬ (2 ≤ code ∧ code ≤ 5) by omega), if_pos h7, he0]
               show _ = ((_ * 1 : Nat) : Int)
               rw [Nat.mul_one]
             · rw [if_neg (show ¬ (2 ≤ code ∧ code ≤ 5) by omega), if_neg h7])
      ·
       have f6 := h6
       try simp only [bl] at f6
       refine c_skip (then_c (c_seq (c_seq (c_region ?_))))
       refine o_fieldAddr (T := 3) (off := 0) trivial rfl Try.underlying43 rfl rfl rfl Try.sizeOf3 rfl rfl ?_
       refine o_load1 trivial rfl Try.isAgg3 rfl (by repeat constructor) (by repeat constructor) ?_
       refine o_pv trivial rfl rfl ?_
       refine' o_and trivial trivial rfl rfl rfl rfl rfl rfl rfl rfl (fun hb99 => ?_) ?_
       rotate_left
       ·
        have fb99 := hb99
        try simp only [bl] at fb99
        refine o_fieldAddr (T := 3) (off := 3) (wants_some rfl rfl hb99) rfl Try.underlying43 rfl rfl rfl Try.sizeOf3 rfl rfl ?_
        refine o_load1 (wants_some rfl rfl hb99) rfl Try.isAgg3 rfl (by repeat constructor) (by repeat constructor) ?_
        refine o_pv (wants_some rfl rfl hb99) rfl rfl ?_
        refine o_nil ?_
        exact joins rfl
       refine o_nil (then_c ?_)
       refine c_cond rfl (fun h7 => ?_) (fun h7 => ?_)
       ·
        have f7 := h7
        try simp only [bl] at f7
        refine c_region ?_
        refine o_pv trivial rfl rfl ?_
        refine o_fieldAddr (T := 3) (off := 3) trivial rfl Try.underlying43 rfl rfl rfl Try.sizeOf3 rfl rfl ?_
        refine o_load1 trivial rfl Try.isAgg3 rfl (by repeat constructor) (by repeat constructor) ?_
        first | (refine o_mul trivial rfl rfl rfl ?_ ?_; (omega)) | refine o_pv trivial rfl rfl ?_
        refine o_pv trivial rfl rfl ?_
        refine o_nil (then_c (c_seq (c_region ?_)))
        iterate 2 refine o_pv trivial rfl rfl ?_
        refine o_nil (then_c (c_ret ?_))
        refine ret1 rfl rfl ?_
        refine leaf (Ext.refl _ _) (List.sublist_cons_self _ _) ⟨rfl, rfl, wRT_of hwr ?_⟩
        unfold wgtM
        dsimp only at hcd ⊢
        first
          | (exfalso; omega)
          | (rw [if_pos (show 2 ≤ code ∧ code ≤ 5 by omega)]; rfl)
          | (have h7 : code = 7 := f6.1
             have he0 := f6.2
             rw [if_neg (show ¬ (2 ≤ code ∧ code ≤ 5) by omega), if_pos h7, Nat.max_eq_right (show 1 ≤ e.natAbs by omega)] at *
             rw [show IntKind.i64.wrap (0 - e) = ((e.natAbs : Nat) : Int) by rw [IntWalk.i64_in _ (by omega)]; omega, ← Int.natCast_mul, IntWalk.i64_in _ (by omega)])
          | (have h7 : code = 7 := f7.1
             have he0 := f7.2
             rw [if_neg (show ¬ (2 ≤ code ∧ code ≤ 5) by omega), if_pos h7]
             have hmx : max 1 e.natAbs = e.natAbs := Nat.max_eq_right (show 1 ≤ e.natAbs by omega)
             rw [hmx] at hm20 ⊢
             have he1 : (l.getD a.toNat 0 : Int) * e = ((l.getD a.toNat 0 * e.natAbs : Nat) : Int) := by rw [Int.natCast_mul]; congr 1; omega
             rw [he1, IntWalk.i64_in _ (by omega)])
          | (by_cases h7 : code = 7
             · have he0 : e = 0 := by omega
               rw [if_neg (show ¬ (2 ≤ code ∧ code ≤ 5) by omega), if_pos h7, he0]
               show _ = ((_ * 1 : Nat) : Int)
               rw [Nat.mul_one]
             · rw [if_neg (show ¬ (2 ≤ code ∧ code ≤ 5) by omega), if_neg h7])
       ·
        have f7 := h7
        try simp only [bl] at f7
        refine c_skip (then_c (c_seq (c_region ?_)))
        iterate 2 refine o_pv trivial rfl rfl ?_
        refine o_nil (then_c (c_ret ?_))
        refine ret1 rfl rfl ?_
        refine leaf (Ext.refl _ _) (List.sublist_cons_self _ _) ⟨rfl, rfl, wRT_of hwr ?_⟩
        unfold wgtM
        dsimp only at hcd ⊢
        first
          | (exfalso; omega)
          | (rw [if_pos (show 2 ≤ code ∧ code ≤ 5 by omega)]; rfl)
          | (have h7 : code = 7 := f6.1
             have he0 := f6.2
             rw [if_neg (show ¬ (2 ≤ code ∧ code ≤ 5) by omega), if_pos h7, Nat.max_eq_right (show 1 ≤ e.natAbs by omega)] at *
             rw [show IntKind.i64.wrap (0 - e) = ((e.natAbs : Nat) : Int) by rw [IntWalk.i64_in _ (by omega)]; omega, ← Int.natCast_mul, IntWalk.i64_in _ (by omega)])
          | (have h7 : code = 7 := f7.1
             have he0 := f7.2
             rw [if_neg (show ¬ (2 ≤ code ∧ code ≤ 5) by omega), if_pos h7]
             have hmx : max 1 e.natAbs = e.natAbs := Nat.max_eq_right (show 1 ≤ e.natAbs by omega)
             rw [hmx] at hm20 ⊢
             have he1 : (l.getD a.toNat 0 : Int) * e = ((l.getD a.toNat 0 * e.natAbs : Nat) : Int) := by rw [Int.natCast_mul]; congr 1; omega
             rw [he1, IntWalk.i64_in _ (by omega)])
          | (by_cases h7 : code = 7
             · have he0 : e = 0 := by omega
               rw [if_neg (show ¬ (2 ≤ code ∧ code ≤ 5) by omega), if_pos h7, he0]
               show _ = ((_ * 1 : Nat) : Int)
               rw [Nat.mul_one]
             · rw [if_neg (show ¬ (2 ≤ code ∧ code ≤ 5) by omega), if_neg h7])
     ·
      have f5 := h5
      try simp only [bl] at f5
      refine c_skip (then_c (c_seq (c_seq (c_region ?_))))
      refine o_fieldAddr (T := 3) (off := 0) trivial rfl Try.underlying43 rfl rfl rfl Try.sizeOf3 rfl rfl ?_
      refine o_load1 trivial rfl Try.isAgg3 rfl (by repeat constructor) (by repeat constructor) ?_
      refine o_pv trivial rfl rfl ?_
      refine' o_and trivial trivial rfl rfl rfl rfl rfl rfl rfl rfl (fun hb86 => ?_) ?_
      rotate_left
      ·
       have fb86 := hb86
       try simp only [bl] at fb86
       refine o_fieldAddr (T := 3) (off := 3) (wants_some rfl rfl hb86) rfl Try.underlying43 rfl rfl rfl Try.sizeOf3 rfl rfl ?_
       refine o_load1 (wants_some rfl rfl hb86) rfl Try.isAgg3 rfl (by repeat constructor) (by repeat constructor) ?_
       refine o_pv (wants_some rfl rfl hb86) rfl rfl ?_
       refine o_nil ?_
       exact joins rfl
      refine o_nil (then_c ?_)
      refine c_cond rfl (fun h6 => ?_) (fun h6 => ?_)
      ·
       have f6 := h6
       try simp only [bl] at f6
       refine c_region ?_
       refine o_pv trivial rfl rfl ?_
       refine o_fieldAddr (T := 3) (off := 3) trivial rfl Try.underlying43 rfl rfl rfl Try.sizeOf3 rfl rfl ?_
       refine o_load1 trivial rfl Try.isAgg3 rfl (by repeat constructor) (by repeat constructor) ?_
       refine o_pv trivial rfl rfl ?_
       first | (refine o_mul trivial rfl rfl rfl ?_ ?_; (omega)) | refine o_pv trivial rfl rfl ?_
       refine o_pv trivial rfl rfl ?_
       refine o_nil (then_c (c_seq (c_seq (c_region ?_))))
       refine o_fieldAddr (T := 3) (off := 0) trivial rfl Try.underlying43 rfl rfl rfl Try.sizeOf3 rfl rfl ?_
       refine o_load1 trivial rfl Try.isAgg3 rfl (by repeat constructor) (by repeat constructor) ?_
       refine o_pv trivial rfl rfl ?_
       refine' o_and trivial trivial rfl rfl rfl rfl rfl rfl rfl rfl (fun hb99 => ?_) ?_
       rotate_left
       ·
        have fb99 := hb99
        try simp only [bl] at fb99
        refine o_fieldAddr (T := 3) (off := 3) (wants_some rfl rfl hb99) rfl Try.underlying43 rfl rfl rfl Try.sizeOf3 rfl rfl ?_
        refine o_load1 (wants_some rfl rfl hb99) rfl Try.isAgg3 rfl (by repeat constructor) (by repeat constructor) ?_
        refine o_pv (wants_some rfl rfl hb99) rfl rfl ?_
        refine o_nil ?_
        exact joins rfl
       refine o_nil (then_c ?_)
       refine c_cond rfl (fun h7 => ?_) (fun h7 => ?_)
       ·
        have f7 := h7
        try simp only [bl] at f7
        refine c_region ?_
        refine o_pv trivial rfl rfl ?_
        refine o_fieldAddr (T := 3) (off := 3) trivial rfl Try.underlying43 rfl rfl rfl Try.sizeOf3 rfl rfl ?_
        refine o_load1 trivial rfl Try.isAgg3 rfl (by repeat constructor) (by repeat constructor) ?_
        first | (refine o_mul trivial rfl rfl rfl ?_ ?_; (omega)) | refine o_pv trivial rfl rfl ?_
        refine o_pv trivial rfl rfl ?_
        refine o_nil (then_c (c_seq (c_region ?_)))
        iterate 2 refine o_pv trivial rfl rfl ?_
        refine o_nil (then_c (c_ret ?_))
        refine ret1 rfl rfl ?_
        refine leaf (Ext.refl _ _) (List.sublist_cons_self _ _) ⟨rfl, rfl, wRT_of hwr ?_⟩
        unfold wgtM
        dsimp only at hcd ⊢
        first
          | (exfalso; omega)
          | (rw [if_pos (show 2 ≤ code ∧ code ≤ 5 by omega)]; rfl)
          | (have h7 : code = 7 := f6.1
             have he0 := f6.2
             rw [if_neg (show ¬ (2 ≤ code ∧ code ≤ 5) by omega), if_pos h7, Nat.max_eq_right (show 1 ≤ e.natAbs by omega)] at *
             rw [show IntKind.i64.wrap (0 - e) = ((e.natAbs : Nat) : Int) by rw [IntWalk.i64_in _ (by omega)]; omega, ← Int.natCast_mul, IntWalk.i64_in _ (by omega)])
          | (have h7 : code = 7 := f7.1
             have he0 := f7.2
             rw [if_neg (show ¬ (2 ≤ code ∧ code ≤ 5) by omega), if_pos h7]
             have hmx : max 1 e.natAbs = e.natAbs := Nat.max_eq_right (show 1 ≤ e.natAbs by omega)
             rw [hmx] at hm20 ⊢
             have he1 : (l.getD a.toNat 0 : Int) * e = ((l.getD a.toNat 0 * e.natAbs : Nat) : Int) := by rw [Int.natCast_mul]; congr 1; omega
             rw [he1, IntWalk.i64_in _ (by omega)])
          | (by_cases h7 : code = 7
             · have he0 : e = 0 := by omega
               rw [if_neg (show ¬ (2 ≤ code ∧ code ≤ 5) by omega), if_pos h7, he0]
               show _ = ((_ * 1 : Nat) : Int)
               rw [Nat.mul_one]
             · rw [if_neg (show ¬ (2 ≤ code ∧ code ≤ 5) by omega), if_neg h7])
       ·
        have f7 := h7
        try simp only [bl] at f7
        refine c_skip (then_c (c_seq (c_region ?_)))
        iterate 2 refine o_pv trivial rfl rfl ?_
        refine o_nil (then_c (c_ret ?_))
        refine ret1 rfl rfl ?_
        refine leaf (Ext.refl _ _) (List.sublist_cons_self _ _) ⟨rfl, rfl, wRT_of hwr ?_⟩
        unfold wgtM
        dsimp only at hcd ⊢
        first
          | (exfalso; omega)
          | (rw [if_pos (show 2 ≤ code ∧ code ≤ 5 by omega)]; rfl)
          | (have h7 : code = 7 := f6.1
             have he0 := f6.2
             rw [if_neg (show ¬ (2 ≤ code ∧ code ≤ 5) by omega), if_pos h7, Nat.max_eq_right (show 1 ≤ e.natAbs by omega)] at *
             rw [show IntKind.i64.wrap (0 - e) = ((e.natAbs : Nat) : Int) by rw [IntWalk.i64_in _ (by omega)]; omega, ← Int.natCast_mul, IntWalk.i64_in _ (by omega)])
          | (have h7 : code = 7 := f7.1
             have he0 := f7.2
             rw [if_neg (show ¬ (2 ≤ code ∧ code ≤ 5) by omega), if_pos h7]
             have hmx : max 1 e.natAbs = e.natAbs := Nat.max_eq_right (show 1 ≤ e.natAbs by omega)
             rw [hmx] at hm20 ⊢
             have he1 : (l.getD a.toNat 0 : Int) * e = ((l.getD a.toNat 0 * e.natAbs : Nat) : Int) := by rw [Int.natCast_mul]; congr 1; omega
             rw [he1, IntWalk.i64_in _ (by omega)])
          | (by_cases h7 : code = 7
             · have he0 : e = 0 := by omega
               rw [if_neg (show ¬ (2 ≤ code ∧ code ≤ 5) by omega), if_pos h7, he0]
               show _ = ((_ * 1 : Nat) : Int)
               rw [Nat.mul_one]
             · rw [if_neg (show ¬ (2 ≤ code ∧ code ≤ 5) by omega), if_neg h7])
      ·
       have f6 := h6
       try simp only [bl] at f6
       refine c_skip (then_c (c_seq (c_seq (c_region ?_))))
       refine o_fieldAddr (T := 3) (off := 0) trivial rfl Try.underlying43 rfl rfl rfl Try.sizeOf3 rfl rfl ?_
       refine o_load1 trivial rfl Try.isAgg3 rfl (by repeat constructor) (by repeat constructor) ?_
       refine o_pv trivial rfl rfl ?_
       refine' o_and trivial trivial rfl rfl rfl rfl rfl rfl rfl rfl (fun hb99 => ?_) ?_
       rotate_left
       ·
        have fb99 := hb99
        try simp only [bl] at fb99
        refine o_fieldAddr (T := 3) (off := 3) (wants_some rfl rfl hb99) rfl Try.underlying43 rfl rfl rfl Try.sizeOf3 rfl rfl ?_
        refine o_load1 (wants_some rfl rfl hb99) rfl Try.isAgg3 rfl (by repeat constructor) (by repeat constructor) ?_
        refine o_pv (wants_some rfl rfl hb99) rfl rfl ?_
        refine o_nil ?_
        exact joins rfl
       refine o_nil (then_c ?_)
       refine c_cond rfl (fun h7 => ?_) (fun h7 => ?_)
       ·
        have f7 := h7
        try simp only [bl] at f7
        refine c_region ?_
        refine o_pv trivial rfl rfl ?_
        refine o_fieldAddr (T := 3) (off := 3) trivial rfl Try.underlying43 rfl rfl rfl Try.sizeOf3 rfl rfl ?_
        refine o_load1 trivial rfl Try.isAgg3 rfl (by repeat constructor) (by repeat constructor) ?_
        first | (refine o_mul trivial rfl rfl rfl ?_ ?_; (omega)) | refine o_pv trivial rfl rfl ?_
        refine o_pv trivial rfl rfl ?_
        refine o_nil (then_c (c_seq (c_region ?_)))
        iterate 2 refine o_pv trivial rfl rfl ?_
        refine o_nil (then_c (c_ret ?_))
        refine ret1 rfl rfl ?_
        refine leaf (Ext.refl _ _) (List.sublist_cons_self _ _) ⟨rfl, rfl, wRT_of hwr ?_⟩
        unfold wgtM
        dsimp only at hcd ⊢
        first
          | (exfalso; omega)
          | (rw [if_pos (show 2 ≤ code ∧ code ≤ 5 by omega)]; rfl)
          | (have h7 : code = 7 := f6.1
             have he0 := f6.2
             rw [if_neg (show ¬ (2 ≤ code ∧ code ≤ 5) by omega), if_pos h7, Nat.max_eq_right (show 1 ≤ e.natAbs by omega)] at *
             rw [show IntKind.i64.wrap (0 - e) = ((e.natAbs : Nat) : Int) by rw [IntWalk.i64_in _ (by omega)]; omega, ← Int.natCast_mul, IntWalk.i64_in _ (by omega)])
          | (have h7 : code = 7 := f7.1
             have he0 := f7.2
             rw [if_neg (show ¬ (2 ≤ code ∧ code ≤ 5) by omega), if_pos h7]
             have hmx : max 1 e.natAbs = e.natAbs := Nat.max_eq_right (show 1 ≤ e.natAbs by omega)
             rw [hmx] at hm20 ⊢
             have he1 : (l.getD a.toNat 0 : Int) * e = ((l.getD a.toNat 0 * e.natAbs : Nat) : Int) := by rw [Int.natCast_mul]; congr 1; omega
             rw [he1, IntWalk.i64_in _ (by omega)])
          | (by_cases h7 : code = 7
             · have he0 : e = 0 := by omega
               rw [if_neg (show ¬ (2 ≤ code ∧ code ≤ 5) by omega), if_pos h7, he0]
               show _ = ((_ * 1 : Nat) : Int)
               rw [Nat.mul_one]
             · rw [if_neg (show ¬ (2 ≤ code ∧ code ≤ 5) by omega), if_neg h7])
       ·
        have f7 := h7
        try simp only [bl] at f7
        refine c_skip (then_c (c_seq (c_region ?_)))
        iterate 2 refine o_pv trivial rfl rfl ?_
        refine o_nil (then_c (c_ret ?_))
        refine ret1 rfl rfl ?_
        refine leaf (Ext.refl _ _) (List.sublist_cons_self _ _) ⟨rfl, rfl, wRT_of hwr ?_⟩
        unfold wgtM
        dsimp only at hcd ⊢
        first
          | (exfalso; omega)
          | (rw [if_pos (show 2 ≤ code ∧ code ≤ 5 by omega)]; rfl)
          | (have h7 : code = 7 := f6.1
             have he0 := f6.2
             rw [if_neg (show ¬ (2 ≤ code ∧ code ≤ 5) by omega), if_pos h7, Nat.max_eq_right (show 1 ≤ e.natAbs by omega)] at *
             rw [show IntKind.i64.wrap (0 - e) = ((e.natAbs : Nat) : Int) by rw [IntWalk.i64_in _ (by omega)]; omega, ← Int.natCast_mul, IntWalk.i64_in _ (by omega)])
          | (have h7 : code = 7 := f7.1
             have he0 := f7.2
             rw [if_neg (show ¬ (2 ≤ code ∧ code ≤ 5) by omega), if_pos h7]
             have hmx : max 1 e.natAbs = e.natAbs := Nat.max_eq_right (show 1 ≤ e.natAbs by omega)
             rw [hmx] at hm20 ⊢
             have he1 : (l.getD a.toNat 0 : Int) * e = ((l.getD a.toNat 0 * e.natAbs : Nat) : Int) := by rw [Int.natCast_mul]; congr 1; omega
             rw [he1, IntWalk.i64_in _ (by omega)])
          | (by_cases h7 : code = 7
             · have he0 : e = 0 := by omega
               rw [if_neg (show ¬ (2 ≤ code ∧ code ≤ 5) by omega), if_pos h7, he0]
               show _ = ((_ * 1 : Nat) : Int)
               rw [Nat.mul_one]
             · rw [if_neg (show ¬ (2 ≤ code ∧ code ≤ 5) by omega), if_neg h7])
end Go.Proofs.Ytjgbjaaekknenaa
/-
  The document's answers for layer 14: tapes that are right.
-/
namespace Go.Proofs.Ytjgbjaaekknenaa
open Go Go.Tw
set_option linter.unusedVariables false
set_option linter.unusedSimpArgs false
set_option linter.unnecessarySimpa false
set_option maxHeartbeats 1000000
def nls (l : List Nat) : List (List Value) := l.map fun (x : Nat) => [Value.int .i64 (x : Int)]
theorem nls_len (l : List Nat) : (nls l).length = l.length := by simp [nls]
theorem wgts_dropR {ops : List OpC} {i : Nat} {o : OpC} (h : ops[i]? = some o) (l : List Nat) : wgts (ops.drop i) l = match wR o l with | some m => wgts (ops.drop (i + 1)) (l ++ [m]) | none => none := by
  rw [wgts_drop h]
  unfold wR
  cases fieldsOK o <;> rfl
theorem tapeW_pos {t : TapeC} {l : List Nat} (h : tapeW t = some l) : 0 < l.length := by
  obtain ⟨p1, p2, p3, p4, p5, p6, p7⟩ := tapeW_parts h
  have h5 := wgts_len p6
  rw [List.length_replicate] at h5
  omega
def fewT (t : TapeC) (most : Int) : Bool := decide (t.ins ≤ 8 ∧ (t.outs.length : Int) ≤ 8 ∧ (t.ops.length : Int) ≤ most) && t.ops.all fun o => decide ((o.n.length : Int) ≤ 6 ∧ (o.d.length : Int) ≤ 6)
/-- A list of one number. -/
theorem PtV.one {I : Hp} {b : Nat} {neg : Bool} {n d : List Nat} {vn vd : Value} {T : TypeId} {fz : Nat × Nat} (hb : I b = some (.cells ([.bool neg, vn, vd] ++ [] : List Value).toArray T fz)) (hn : Ws I vn n) (hd : Ws I vd d) : PtV I (.slice (some ⟨b, 0, none⟩) 1 1) [⟨neg, n, d, vn, vd⟩] :=
  ⟨Slc.of_box (xss := [[.bool neg, vn, vd]]) hb (fun c hc => by rw [List.mem_singleton.1 hc]; rfl) (by unfold maxLen; simp) (Nat.le_refl _), fun x hx => by rw [List.mem_singleton.1 hx]; exact ⟨hn, hd⟩⟩
end Go.Proofs.Ytjgbjaaekknenaa
/-
  The document's answers for layer 15.
-/
namespace Go.Tw
open Go
set_option linter.unusedVariables false
set_option linter.unusedSimpArgs false
set_option linter.unnecessarySimpa false
set_option maxHeartbeats 1000000
/-- What an op comes to, of what its places come to. -/
def opP (o : OpC) (p q : Rat) : Option Rat :=
  if o.code = 2 then some (p + q)
  else if o.code = 3 then some (p - q)
  else if o.code = 4 then some (p * q)
  else if o.code = 5 then (if q = 0 then none else some (p / q))
  else if o.code = 6 then some (-p)
  else if o.code = 7 then (if o.e < 0 ∧ p = 0 then none else some (p ^ o.e))
  else some (lowQ o.neg (val o.n) (val o.d))
theorem opR_P (o : OpC) (l : List Rat) : opR o l = opP o (zth l o.a) (zth l o.b) := rfl
/-- A number, or that there is none. -/
def opT (r : Option Rat) (I : Hp) (v : Value) : Prop := ∃ s x y X Y, v = .tuple #[.agg #[.bool s, x, y], .int .i64 (if r.isSome then 0 else 3)] ∧ Ws I x X ∧ Ws I y Y ∧ ∀ q, r = some q → s = decide (q.num < 0) ∧ X = natW q.num.natAbs ∧ Y = natW q.den
theorem opT_some {q : Rat} {I : Hp} {x y : Value} (h1 : Ws I x (natW q.num.natAbs)) (h2 : Ws I y (natW q.den)) : opT (some q) I (.tuple #[.agg #[.bool (decide (q.num < 0)), x, y], .int .i64 0]) :=
  ⟨_, x, y, _, _, rfl, h1, h2, fun q' h => by cases h; exact ⟨rfl, rfl, rfl⟩⟩
/-- An op whose places are there, and whose numbers are not too long. -/
structure OpOKr (o : OpC) (l : List Rat) : Prop where
  place : 0 ≤ o.a ∧ o.a < l.length ∧ 0 ≤ o.b ∧ o.b < l.length
  few : ∀ q ∈ l, Few 1400 q
  pow : o.code = 7 → ∃ c, Few c (zth l o.a) ∧ c ≤ 1300 ∧ c * o.e.natAbs ≤ 1300 ∧ -64 ≤ o.e ∧ o.e ≤ 64
  lits : o.n.length ≤ 3000 ∧ o.d.length ≤ 3000
theorem OpOKr.ok {o : OpC} {l : List Rat} (h : OpOKr o l) : OpOK o l :=
  ⟨fun _ _ => h.place, fun q hq => (h.few q hq).le (by decide), fun h7 => let ⟨c, h1, h2, h3, h4⟩ := h.pow h7; ⟨c, h1, by omega, by omega, h4⟩, by have := h.lits; omega⟩
def OpsOKr : List OpC → List Rat → Prop
  | [], _ => True
  | o :: r, l => OpOKr o l ∧ ∀ q, opR o l = some q → OpsOKr r (l ++ [q])
theorem OpsOKr.ok : ∀ {ops : List OpC} {l : List Rat}, OpsOKr ops l → OpsOK ops l
  | [], l, _ => trivial
  | o :: r, l, h => ⟨h.1.ok, fun q hq => (h.2 q hq).ok⟩
theorem OpsOKr_drop {ops : List OpC} {i : Nat} {o : OpC} (h : ops[i]? = some o) {l : List Rat} (hk : OpsOKr (ops.drop i) l) : OpOKr o l ∧ ∀ q, opR o l = some q → OpsOKr (ops.drop (i + 1)) (l ++ [q]) := by
  rw [List.drop_eq_getElem_cons (List.getElem?_eq_some_iff.1 h).1, (List.getElem?_eq_some_iff.1 h).2] at hk; exact hk
end Go.Tw
namespace Go.Proofs.Ytjgbjaaekknenaa
open Go Go.Tw
set_option linter.unusedVariables false
set_option linter.unusedSimpArgs false
set_option linter.unnecessarySimpa false
set_option maxHeartbeats 1000000
theorem okR_T {e : Prop} [Decidable e] {q : Rat} {r : Option Rat} {I : Hp} {v : Value} (h : okR e q I v) (hr : r = if e then none else some q) : opT r I v := by
  obtain ⟨s, x, y, X, Y, rfl, h2, h3, h4⟩ := h
  subst hr
  by_cases he : e
  · rw [if_pos he, if_pos he]; exact ⟨s, x, y, X, Y, rfl, h2, h3, fun q' h => by cases h⟩
  · rw [if_neg he, if_neg he]; exact ⟨s, x, y, X, Y, rfl, h2, h3, fun q' h => by cases h; exact h4 he⟩
/-- What has to be small where a tape is right. -/
structure EvOKr (t : TapeC) (xs : List NV) : Prop where
  few : ∀ o ∈ t.ops, OpC.few 3000 o
  nums : ∀ x ∈ xs, x.n.length ≤ 3000 ∧ x.d.length ≤ 3000
  ok : (tapeW t).isSome = true → (xs.length : Int) = t.ins → OpsOKr t.ops (xs.map NV.q)
end Go.Proofs.Ytjgbjaaekknenaa
/-
  How long a right tape's numbers are: by weights. No program stands here.
-/
namespace Go.Proofs.Ytjgbjaaekknenaa
open Go Go.Tw
set_option linter.unusedVariables false
set_option linter.unusedSimpArgs false
set_option linter.unnecessarySimpa false
set_option maxHeartbeats 1000000
/-- What a place of such a weight comes to. -/
structure BdQ (w : Nat) (q : Rat) : Prop where
  num : q.num.natAbs ≤ 2 ^ (134 * w - 1)
  den : q.den ≤ 2 ^ (134 * w - 1)
theorem lowQ_le (neg : Bool) (n d : Nat) : (lowQ neg n d).num.natAbs ≤ n ∧ (lowQ neg n d).den ≤ max 1 d := by
  by_cases h : d = 0 ∨ n = 0
  · rw [lowQ_zero h]
    exact ⟨Nat.zero_le _, Nat.le_max_left _ _⟩
  · obtain ⟨h1, h2, _⟩ := lowQ_parts (neg := neg) (fun e => h (.inr e) : n ≠ 0) (fun e => h (.inl e) : d ≠ 0)
    rw [h1, h2]
    exact ⟨Nat.div_le_self _ _, Nat.le_trans (Nat.div_le_self _ _) (Nat.le_max_right _ _)⟩
theorem one_le_two_pow (k : Nat) : 1 ≤ 2 ^ k := Nat.pow_pos (by decide)
theorem BdQ.le {w v : Nat} {q : Rat} (h : BdQ w q) (hv : w ≤ v) : BdQ v q :=
  ⟨Nat.le_trans h.num (Nat.pow_le_pow_right (by decide) (by omega)), Nat.le_trans h.den (Nat.pow_le_pow_right (by decide) (by omega))⟩
theorem BdQ.add {w v : Nat} {p q : Rat} (hp : BdQ w p) (hq : BdQ v q) (hw : 1 ≤ w) (hv : 1 ≤ v) : BdQ (w + v) (p + q) := by
  rw [← qadd_num p q]
  have e : 2 ^ (134 * (w + v) - 1) = 2 ^ (134 * w - 1) * 2 ^ (134 * v - 1) * 2 := by
    rw [← Nat.pow_add, ← Nat.pow_succ]; congr 1; omega
  have hd : p.den * q.den ≤ 2 ^ (134 * w - 1) * 2 ^ (134 * v - 1) := Nat.mul_le_mul hp.den hq.den
  have h1 : p.num.natAbs * q.den ≤ 2 ^ (134 * w - 1) * 2 ^ (134 * v - 1) := Nat.mul_le_mul hp.num hq.den
  have h2 : q.num.natAbs * p.den ≤ 2 ^ (134 * w - 1) * 2 ^ (134 * v - 1) := by rw [Nat.mul_comm]; exact Nat.mul_le_mul hp.den hq.num
  have hn : (p.num * (q.den : Int) + q.num * (p.den : Int)).natAbs ≤ p.num.natAbs * q.den + q.num.natAbs * p.den := by
    refine Nat.le_trans (Int.natAbs_add_le _ _) ?_
    rw [Int.natAbs_mul, Int.natAbs_mul, Int.natAbs_natCast, Int.natAbs_natCast]
    exact Nat.le_refl _
  obtain ⟨k1, k2⟩ := lowQ_le (decide (p.num * (q.den : Int) + q.num * (p.den : Int) < 0)) (p.num * (q.den : Int) + q.num * (p.den : Int)).natAbs (p.den * q.den)
  have hpos : 0 < p.den * q.den := Nat.mul_pos p.den_pos q.den_pos
  rw [Nat.max_eq_right hpos] at k2
  generalize 2 ^ (134 * w - 1) * 2 ^ (134 * v - 1) = M at *
  exact ⟨by rw [e]; omega, by rw [e]; omega⟩
theorem BdQ.mul {w v : Nat} {p q : Rat} (hp : BdQ w p) (hq : BdQ v q) (hw : 1 ≤ w) (hv : 1 ≤ v) : BdQ (w + v) (p * q) := by
  rw [← lowQ_mul p q]
  have e : 2 ^ (134 * (w + v) - 1) = 2 ^ (134 * w - 1) * 2 ^ (134 * v - 1) * 2 := by
    rw [← Nat.pow_add, ← Nat.pow_succ]; congr 1; omega
  have hd : p.den * q.den ≤ 2 ^ (134 * w - 1) * 2 ^ (134 * v - 1) := Nat.mul_le_mul hp.den hq.den
  have h1 : p.num.natAbs * q.num.natAbs ≤ 2 ^ (134 * w - 1) * 2 ^ (134 * v - 1) := Nat.mul_le_mul hp.num hq.num
  obtain ⟨k1, k2⟩ := lowQ_le (decide (p.num < 0) != decide (q.num < 0)) (p.num.natAbs * q.num.natAbs) (p.den * q.den)
  have hpos : 0 < p.den * q.den := Nat.mul_pos p.den_pos q.den_pos
  rw [Nat.max_eq_right hpos] at k2
  generalize 2 ^ (134 * w - 1) * 2 ^ (134 * v - 1) = M at *
  exact ⟨by rw [e]; omega, by rw [e]; omega⟩
theorem BdQ.neg {w : Nat} {q : Rat} (h : BdQ w q) : BdQ w (-q) := ⟨by rw [Rat.neg_num, Int.natAbs_neg]; exact h.num, by rw [Rat.neg_den]; exact h.den⟩
theorem BdQ.sub {w v : Nat} {p q : Rat} (hp : BdQ w p) (hq : BdQ v q) (hw : 1 ≤ w) (hv : 1 ≤ v) : BdQ (w + v) (p - q) := by
  rw [Rat.sub_eq_add_neg]; exact hp.add hq.neg hw hv
theorem BdQ.inv {w : Nat} {q : Rat} (h : BdQ w q) (h0 : q ≠ 0) : BdQ w q⁻¹ := ⟨by rw [inv_num_abs h0]; exact h.den, by rw [inv_den h0]; exact h.num⟩
theorem BdQ.div {w v : Nat} {p q : Rat} (hp : BdQ w p) (hq : BdQ v q) (hw : 1 ≤ w) (hv : 1 ≤ v) (h0 : q ≠ 0) : BdQ (w + v) (p / q) := by
  rw [Rat.div_def]; exact hp.mul (hq.inv h0) hw hv
theorem BdQ.npow {w n : Nat} {q : Rat} (h : BdQ w q) (hw : 1 ≤ w) : BdQ (w * max 1 n) (q ^ n) := by
  have e : (2 ^ (134 * w - 1)) ^ n ≤ 2 ^ (134 * (w * max 1 n) - 1) := by
    rw [← Nat.pow_mul]
    refine Nat.pow_le_pow_right (by decide) ?_
    by_cases hn : n = 0
    · subst hn; exact Nat.zero_le _
    · rw [Nat.max_eq_right (by omega : 1 ≤ n), Nat.sub_mul, ← Nat.mul_assoc]
      have : n ≤ 134 * w * n := Nat.le_mul_of_pos_left _ (by omega)
      omega
  refine ⟨?_, ?_⟩
  · rw [Rat.num_pow, Int.natAbs_pow]; exact Nat.le_trans (Nat.pow_le_pow_left h.num _) e
  · rw [Rat.den_pow]; exact Nat.le_trans (Nat.pow_le_pow_left h.den _) e
theorem BdQ.pow {w : Nat} {q : Rat} (e : Int) (h : BdQ w q) (hw : 1 ≤ w) (h0 : ¬ (e < 0 ∧ q = 0)) : BdQ (w * max 1 e.natAbs) (q ^ e) := by
  rw [← powX_pow]
  refine BdQ.npow ?_ hw
  unfold powX
  split
  · rename_i he; exact h.inv (fun e0 => h0 ⟨he, e0⟩)
  · exact h
theorem BdQ.low {neg : Bool} {n d : Nat} (hn : n ≤ 2 ^ 133) (hd : d ≤ 2 ^ 133) : BdQ 1 (lowQ neg n d) := by
  obtain ⟨k1, k2⟩ := lowQ_le neg n d
  have := one_le_two_pow 133
  exact ⟨Nat.le_trans k1 hn, Nat.le_trans k2 (Nat.max_le.2 ⟨this, hd⟩)⟩
theorem digs_lt : ∀ n : Nat, n < 10 ^ (digs n).length := by
  intro n
  induction n using Nat.strongRecOn with
  | ind n ih =>
    unfold digs
    by_cases h : n < 10
    · rw [dif_pos h]; show n < 10 ^ 1; omega
    · rw [dif_neg h, List.length_cons, Nat.pow_succ]
      have := ih (n / 10) (by omega)
      omega
theorem digs_small {n : Nat} (h : (digs n).length ≤ 40) : n ≤ 2 ^ 133 := by
  have h1 := digs_lt n
  have h2 : 10 ^ (digs n).length ≤ 10 ^ 40 := Nat.pow_le_pow_right (by decide) h
  have h3 : 10 ^ 40 ≤ 2 ^ 133 := by decide
  omega
theorem constOK_bd {neg : Bool} {A B : List Nat} (h : constOK neg A B = true) : BdQ 1 (lowQ neg (val A) (val B)) := by
  unfold constOK at h
  simp only [Bool.and_eq_true, decide_eq_true_eq] at h
  exact BdQ.low (digs_small h.1.2) (digs_small h.2)
/-- Words below a number of them. -/
theorem val_small {A : List Nat} (h : Wds A) {k : Nat} (hk : A.length ≤ k) (h4 : k ≤ 4) : val A ≤ 2 ^ 133 := by
  have h1 := val_lt h
  have h2 : 4294967296 ^ A.length ≤ 4294967296 ^ 4 := Nat.pow_le_pow_right (by decide) (by omega)
  have h3 : 4294967296 ^ 4 ≤ 2 ^ 133 := by decide
  omega
theorem NV.bd {I : Hp} {x : NV} (h : x.ok I) (h1 : x.n.length ≤ 4) (h2 : x.d.length ≤ 4) : BdQ 1 x.q := BdQ.low (val_small h.1.wds h1 (Nat.le_refl _)) (val_small h.2.wds h2 (Nat.le_refl _))
/-- Weights, and numbers they go with. -/
structure BdL (l : List Nat) (qs : List Rat) : Prop where
  len : l.length = qs.length
  bd : ∀ i, i < l.length → BdQ (l.getD i 0) (qs.getD i 0)
  one : ∀ x ∈ l, 1 ≤ x ∧ x ≤ 200
theorem BdL.add {l : List Nat} {qs : List Rat} {m : Nat} {q : Rat} (h : BdL l qs) (hq : BdQ m q) (hm : 1 ≤ m ∧ m ≤ 200) : BdL (l ++ [m]) (qs ++ [q]) := by
  refine ⟨by simp [h.len], fun i hi => ?_, fun x hx => ?_⟩
  · simp only [List.length_append, List.length_cons, List.length_nil] at hi
    simp only [List.getD_eq_getElem?_getD]
    by_cases hil : i < l.length
    · rw [List.getElem?_append_left hil, List.getElem?_append_left (by rw [← h.len]; exact hil)]
      have := h.bd i hil
      simpa only [List.getD_eq_getElem?_getD] using this
    · have hi' : i = l.length := by omega
      subst hi'
      rw [List.getElem?_append_right (Nat.le_refl _), List.getElem?_append_right (by rw [h.len]; exact Nat.le_refl _), Nat.sub_self, h.len, Nat.sub_self]
      exact hq
  · rcases List.mem_append.1 hx with hx | hx
    · exact h.one x hx
    · rw [List.mem_singleton.1 hx]; exact hm
theorem getD_mem {α : Type} {l : List α} {i : Nat} {d : α} (h : i < l.length) : l.getD i d ∈ l := by
  rw [List.getD_eq_getElem?_getD, List.getElem?_eq_getElem h]; exact List.getElem_mem h
theorem BdQ.few {w : Nat} {q : Rat} (h : BdQ w q) (hw : 1 ≤ w) : Few (5 * w) q := by
  have e : 2 ^ (134 * w - 1) < 4294967296 ^ (5 * w) := by
    rw [pow_bits]; exact Nat.pow_lt_pow_right (by decide) (by omega)
  exact ⟨Nat.lt_of_le_of_lt h.num e, Nat.lt_of_le_of_lt h.den e⟩
theorem BdL.at_ {l : List Nat} {qs : List Rat} (h : BdL l qs) {i : Int} (hi : 0 ≤ i ∧ i < l.length) : BdQ (l.getD i.toNat 0) (zth qs i) ∧ 1 ≤ l.getD i.toNat 0 ∧ l.getD i.toNat 0 ≤ 200 :=
  ⟨h.bd i.toNat (by omega), h.one _ (getD_mem (by omega))⟩
theorem BdL.few {l : List Nat} {qs : List Rat} (h : BdL l qs) : ∀ q ∈ qs, Few 1000 q := fun q hq => by
  obtain ⟨i, hi, rfl⟩ := List.getElem_of_mem hq
  have hb := h.bd i (by rw [h.len]; exact hi)
  have ho := h.one _ (getD_mem (d := 0) (by rw [h.len]; exact hi : i < l.length))
  rw [List.getD_eq_getElem?_getD (l := qs), List.getElem?_eq_getElem hi] at hb
  exact (hb.few ho.1).le (by omega)
theorem wgt_cases {o : OpC} {l : List Nat} {m : Nat} (h : wgt o l = some m) : (o.code = 1 ∧ m = 1) ∨ (o.code ≠ 1 ∧ (0 ≤ o.a ∧ o.a < l.length) ∧ (0 ≤ o.b ∧ o.b < l.length) ∧ m = wgtM o l ∧ m ≤ 200) := by
  unfold wgt at h
  split at h
  · rename_i h1; cases h; exact .inl ⟨h1, rfl⟩
  · rename_i h1
    split at h
    · cases h
    · rename_i h2
      split at h
      · rename_i h3; cases h; exact .inr ⟨h1, by omega, by omega, rfl, h3⟩
      · cases h
theorem fields_code {o : OpC} (h : fieldsOK o = true) : 1 ≤ o.code ∧ o.code ≤ 7 := by
  unfold fieldsOK at h
  repeat (first | (split at h; first | (cases h; done) | omega) | omega | (cases h; done))
theorem fields_const {o : OpC} (h : fieldsOK o = true) (h1 : o.code = 1) : constOK o.neg o.n o.d = true ∧ o.a = 0 ∧ o.b = 0 := by
  unfold fieldsOK at h
  rw [if_pos h1] at h
  simp only [Bool.and_eq_true, decide_eq_true_eq] at h
  exact ⟨h.1, h.2.1, h.2.2.1⟩
/-- What an op comes to is as heavy as the op. -/
theorem op_bd {o : OpC} {l : List Nat} {m : Nat} {qs : List Rat} {q : Rat} (hf : fieldsOK o = true) (hw : wgt o l = some m) (hb : BdL l qs) (hq : opR o qs = some q) : BdQ m q ∧ 1 ≤ m ∧ m ≤ 200 := by
  have hc := fields_code hf
  rcases wgt_cases hw with ⟨h1, rfl⟩ | ⟨h1, ha, hb', hm, hm2⟩
  · refine ⟨?_, by omega, by omega⟩
    unfold opR at hq
    rw [if_neg (by omega), if_neg (by omega), if_neg (by omega), if_neg (by omega), if_neg (by omega), if_neg (by omega)] at hq
    cases hq
    exact constOK_bd (fields_const hf h1).1
  · obtain ⟨a1, a2, a3⟩ := hb.at_ ha
    obtain ⟨b1, b2, b3⟩ := hb.at_ hb'
    have hmx : 1 ≤ max 1 o.e.natAbs := Nat.le_max_left _ _
    have hmul : l.getD o.a.toNat 0 ≤ l.getD o.a.toNat 0 * max 1 o.e.natAbs := Nat.le_mul_of_pos_right _ (by omega)
    unfold wgtM at hm
    unfold opR at hq
    by_cases h2 : o.code = 2
    · rw [if_pos h2] at hq; cases hq
      rw [if_pos (by omega)] at hm; subst hm
      exact ⟨a1.add b1 a2 b2, by omega, hm2⟩
    rw [if_neg h2] at hq
    by_cases h3 : o.code = 3
    · rw [if_pos h3] at hq; cases hq
      rw [if_pos (by omega)] at hm; subst hm
      exact ⟨a1.sub b1 a2 b2, by omega, hm2⟩
    rw [if_neg h3] at hq
    by_cases h4 : o.code = 4
    · rw [if_pos h4] at hq; cases hq
      rw [if_pos (by omega)] at hm; subst hm
      exact ⟨a1.mul b1 a2 b2, by omega, hm2⟩
    rw [if_neg h4] at hq
    by_cases h5 : o.code = 5
    · rw [if_pos h5] at hq
      rw [if_pos (by omega)] at hm; subst hm
      split at hq
      · cases hq
      · rename_i h0; cases hq
        exact ⟨a1.div b1 a2 b2 h0, by omega, hm2⟩
    rw [if_neg h5] at hq
    rw [if_neg (by omega)] at hm
    by_cases h6 : o.code = 6
    · rw [if_pos h6] at hq; cases hq
      rw [if_neg (by omega)] at hm; subst hm
      exact ⟨a1.neg, a2, a3⟩
    rw [if_neg h6] at hq
    have h7 : o.code = 7 := by omega
    rw [if_pos h7] at hq hm
    split at hq
    · cases hq
    · rename_i h0; cases hq; subst hm
      exact ⟨a1.pow _ a2 h0, by omega, hm2⟩
/-- A right tape's numbers are never too long. -/
theorem ops_bd : ∀ {ops : List OpC} {l r : List Nat} {qs : List Rat}, wgts ops l = some r → BdL l qs → 0 < l.length → (∀ o ∈ ops, OpC.few 3000 o) → OpsOKr ops qs ∧ ∀ qr, opsR ops qs = some qr → BdL r qr
  | [], l, r, qs, h, hb, _, _ => by cases h; exact ⟨trivial, fun qr hq => by cases hq; exact hb⟩
  | o :: ops, l, r, qs, h, hb, hl, hf => by
    unfold wgts at h
    split at h
    · rename_i hfo
      split at h
      · rename_i m hm
        have key : ∀ q, opR o qs = some q → OpsOKr ops (qs ++ [q]) ∧ ∀ qr, opsR ops (qs ++ [q]) = some qr → BdL r qr := fun q hq => by
          obtain ⟨k1, k2⟩ := op_bd hfo hm hb hq
          exact ops_bd h (hb.add k1 k2) (by simp) (fun x hx => hf x (List.mem_cons_of_mem _ hx))
        refine ⟨⟨⟨?_, fun q hq => (hb.few q hq).le (by decide), fun h7 => ?_, hf o List.mem_cons_self⟩, fun q hq => (key q hq).1⟩, fun qr hqr => ?_⟩
        · rw [← hb.len]
          rcases wgt_cases hm with ⟨h1, _⟩ | ⟨_, ha, hb', _⟩
          · obtain ⟨_, h2, h3⟩ := fields_const hfo h1
            omega
          · omega
        · rcases wgt_cases hm with ⟨h1, _⟩ | ⟨_, ha, hb', hmm, hm2⟩
          · omega
          · obtain ⟨a1, a2, a3⟩ := hb.at_ ha
            have he := fields_exp hfo h7
            unfold wgtM at hmm
            rw [if_neg (by omega), if_pos h7] at hmm
            have h3 : l.getD o.a.toNat 0 * o.e.natAbs ≤ l.getD o.a.toNat 0 * max 1 o.e.natAbs := Nat.mul_le_mul_left _ (Nat.le_max_right _ _)
            refine ⟨5 * l.getD o.a.toNat 0, a1.few a2, by omega, ?_, by omega, by omega⟩
            rw [Nat.mul_assoc]; omega
        · unfold opsR at hqr
          split at hqr
          · rename_i q hq; exact (key q hq).2 qr hqr
          · cases hqr
      · cases h
    · cases h
theorem BdL.start {qs : List Rat} (h : ∀ q ∈ qs, BdQ 1 q) : BdL (List.replicate qs.length 1) qs :=
  ⟨List.length_replicate, fun i hi => by
    rw [List.length_replicate] at hi
    rw [List.getD_eq_getElem?_getD, List.getElem?_replicate, if_pos hi]
    exact h _ (getD_mem hi), fun x hx => by rw [(List.mem_replicate.1 hx).2]; omega⟩
/-- All that the walks ask of a tape and a point. -/
theorem tape_bd {t : TapeC} {xs : List NV} (hf : ∀ o ∈ t.ops, OpC.few 3000 o) (hq : ∀ x ∈ xs, BdQ 1 x.q) (hl : ∀ x ∈ xs, x.n.length ≤ 3000 ∧ x.d.length ≤ 3000) : EvOKr t xs ∧ EvOK t xs := by
  have key : ∀ w, tapeW t = some w → (xs.length : Int) = t.ins → OpsOKr t.ops (xs.map NV.q) ∧ ∀ qr, opsR t.ops (xs.map NV.q) = some qr → BdL w qr := fun w hw hx => by
    obtain ⟨p1, p2, p3, p4, p5, p6, p7⟩ := tapeW_parts hw
    have hb : BdL (List.replicate t.ins.toNat 1) (xs.map NV.q) := by
      have e : t.ins.toNat = (xs.map NV.q).length := by rw [List.length_map]; omega
      rw [e]
      refine BdL.start fun q hq' => ?_
      obtain ⟨x, hx, rfl⟩ := List.mem_map.1 hq'
      exact hq x hx
    exact ops_bd p6 hb (by rw [List.length_replicate]; omega) hf
  refine ⟨⟨hf, hl, fun h hx => ?_⟩, ⟨fun o ho => ?_, fun x hx => ?_, fun h hx => ?_, fun l hl' q hq' => ?_⟩⟩
  · obtain ⟨w, hw⟩ := Option.isSome_iff_exists.1 h
    exact (key w hw hx).1
  · have := hf o ho; exact ⟨by have := this.1; omega, by have := this.2; omega⟩
  · have := hl x hx; omega
  · obtain ⟨w, hw⟩ := Option.isSome_iff_exists.1 h
    obtain ⟨p1, p2, p3, p4, p5, p6, p7⟩ := tapeW_parts hw
    exact ⟨by omega, (key w hw hx).1.ok⟩
  · obtain ⟨w, h1, h2, h3⟩ := evalZ_parts hl'
    exact (((key w h1 h2).2 l h3).few q hq').le (by decide)
end Go.Proofs.Ytjgbjaaekknenaa
/-
  Chapter 15's laws: its example; ValueTells.
-/
namespace Go.Proofs.Ytjgbjaaekknenaa
open Go Go.Tw
set_option linter.unusedVariables false
set_option linter.unusedSimpArgs false
set_option linter.unnecessarySimpa false
set_option maxHeartbeats 1000000
theorem digs_len10 : ∀ (k n : Nat), n < 10 ^ (k + 1) → (digs n).length ≤ k + 1
  | 0, n, h => by unfold digs; rw [dif_pos (by omega)]; exact Nat.le_refl _
  | k + 1, n, h => by
    unfold digs
    by_cases h1 : n < 10
    · rw [dif_pos h1]; simp
    · rw [dif_neg h1, List.length_cons]
      have := digs_len10 k (n / 10) (by rw [Nat.pow_succ] at h; omega)
      omega
/-- A number's op. -/
def constC (q : Rat) : OpC := ⟨1, 0, 0, 0, decide (q.num < 0), natW q.num.natAbs, natW q.den⟩
theorem constOK_self {q : Rat} (h1 : q.num.natAbs < 10 ^ 40) (h2 : q.den < 10 ^ 40) : constOK (decide (q.num < 0)) (natW q.num.natAbs) (natW q.den) = true := by
  unfold constOK ratRight
  rw [val_natW, val_natW, lowQ_self]
  have e1 := digs_len10 39 _ h1
  have e2 := digs_len10 39 _ h2
  simp only [decide_true, Bool.and_self, Bool.true_and, decide_eq_true (show (digs q.num.natAbs).length ≤ 40 from e1), decide_eq_true (show (digs q.den).length ≤ 40 from e2)]
theorem constC_ok {q : Rat} (h1 : q.num.natAbs < 10 ^ 40) (h2 : q.den < 10 ^ 40) : fieldsOK (constC q) = true := by
  unfold fieldsOK constC
  dsimp only
  rw [if_pos rfl, constOK_self h1 h2]; rfl
theorem constC_R (q : Rat) (l : List Rat) : opR (constC q) l = some q := by
  unfold opR constC
  dsimp only
  rw [if_neg (by decide), if_neg (by decide), if_neg (by decide), if_neg (by decide), if_neg (by decide), if_neg (by decide), val_natW, val_natW, lowQ_self]
theorem constC_w (q : Rat) (l : List Nat) : wgt (constC q) l = some 1 := rfl
/-- A number, as it is handed in. -/
def NV.of (q : Rat) (vn vd : Value) : NV := ⟨decide (q.num < 0), natW q.num.natAbs, natW q.den, vn, vd⟩
theorem NV.of_q (q : Rat) (vn vd : Value) : (NV.of q vn vd).q = q := by
  unfold NV.q NV.of; dsimp only; rw [val_natW, val_natW, lowQ_self]
/-- An op in memory: one of no number; one of a number. -/
def plainO (c a b e : Int) : OpV := ⟨⟨c, a, b, e, false, [], []⟩, .slice none 0 0, .slice none 0 0⟩
theorem plainO_ok (I : Hp) (c a b e : Int) : (plainO c a b e).ok I := ⟨Ws.nil I, Ws.nil I⟩
theorem TapeV.of {I : Hp} {bo bu : Nat} {t : TapeC} (os : List OpV) {To Tu : TypeId} (ho : I bo = some (.cells (os.map OpV.cells).flatten.toArray To (0, 0))) (hu : I bu = some (.cells (ics t.outs).flatten.toArray Tu (0, 0))) (ok : ∀ o ∈ os, o.ok I) (eq : os.map OpV.c = t.ops) (hm : os.length ≤ 1000) (hm2 : t.outs.length ≤ 1000) :
    TapeV I (.slice (some ⟨bo, 0, none⟩) os.length os.length) (.slice (some ⟨bu, 0, none⟩) t.outs.length t.outs.length) t os := by
  refine ⟨?_, ok, eq, ?_⟩
  · have h := Slc.of_box (sz := 7) (c := os.length) ho (fun c hc => by obtain ⟨o, _, rfl⟩ := List.mem_map.1 hc; rfl) (by unfold maxLen; rw [List.length_map]; omega) (by rw [List.length_map]; exact Nat.le_refl _)
    rwa [List.length_map] at h
  · have h := Slc.of_box (sz := 1) (c := t.outs.length) hu (fun c hc => by obtain ⟨o, _, rfl⟩ := List.mem_map.1 hc; rfl) (by unfold maxLen; rw [ics_len]; omega) (by rw [ics_len]; exact Nat.le_refl _)
    rwa [ics_len] at h
theorem PtV.of {I : Hp} {b : Nat} (xs : List NV) {T : TypeId} (hb : I b = some (.cells (xs.map NV.cells).flatten.toArray T (0, 0))) (ok : ∀ x ∈ xs, x.ok I) (hm : xs.length ≤ 1000) : PtV I (.slice (some ⟨b, 0, none⟩) xs.length xs.length) xs := by
  refine ⟨?_, ok⟩
  have h := Slc.of_box (sz := 3) (c := xs.length) hb (fun c hc => by obtain ⟨o, _, rfl⟩ := List.mem_map.1 hc; rfl) (by unfold maxLen; rw [List.length_map]; omega) (by rw [List.length_map]; exact Nat.le_refl _)
  rwa [List.length_map] at h
theorem RsV.of {I : Hp} {b : Nat} (rs : List RV) {T : TypeId} (hb : I b = some (.cells (rcs rs).flatten.toArray T (0, 0))) (ok : ∀ x ∈ rs, x.ok I) (hm : rs.length ≤ 1000) : RsV I (.slice (some ⟨b, 0, none⟩) rs.length rs.length) (rs.map RV.q) := by
  refine ⟨rs, ?_, ok, rfl⟩
  have h := Slc.of_box (sz := 3) (c := rs.length) hb (rcs_three rs) (by unfold maxLen; rw [rcs_len]; omega) (by rw [rcs_len]; exact Nat.le_refl _)
  rwa [rcs_len] at h
theorem evalZ_of {t : TapeC} {xs : List NV} {w : List Nat} {l : List Rat} (h1 : tapeW t = some w) (h2 : (xs.length : Int) = t.ins) (h3 : opsR t.ops (xs.map NV.q) = some l) : evalZ t xs = .ok l := by
  unfold evalZ
  rw [h1, if_neg (by simp), if_neg (by omega), h3]
def aw1 : TapeC := ⟨1, [constC (mkRat 1 1), ⟨2, 0, 1, 0, false, [], []⟩, ⟨4, 0, 2, 0, false, [], []⟩], [3]⟩
def aw2 : TapeC := ⟨1, [constC (mkRat 1 1), ⟨5, 1, 0, 0, false, [], []⟩], [2]⟩
theorem aw1_w : tapeW aw1 = some [1, 1, 2, 3] := by
  have h := constC_ok (q := mkRat 1 1) (by decide +kernel) (by decide +kernel)
  unfold tapeW aw1
  simp only [wgts, h, constC_w, if_true]
  decide +kernel
theorem aw2_w : tapeW aw2 = some [1, 1, 2] := by
  have h := constC_ok (q := mkRat 1 1) (by decide +kernel) (by decide +kernel)
  unfold tapeW aw2
  simp only [wgts, h, constC_w, if_true]
  decide +kernel
theorem aw1_e {xs : List NV} (h : xs.map NV.q = [mkRat 1 2]) : evalZ aw1 xs = .ok [mkRat 1 2, mkRat 1 1, mkRat 3 2, mkRat 3 4] := by
  refine evalZ_of aw1_w ?_ ?_
  · rw [← List.length_map (f := NV.q), h]; rfl
  · rw [h]
    unfold aw1
    simp only [opsR, constC_R]
    decide +kernel
theorem aw2_e {xs : List NV} (h : xs.map NV.q = [0]) : outsZ aw2 xs = .error 3 := by
  have e : opsR aw2.ops [0] = none := by
    unfold aw2
    simp only [opsR, constC_R]
    decide +kernel
  have hl : (xs.length : Int) = aw2.ins := by rw [← List.length_map (f := NV.q), h]; rfl
  unfold outsZ evalZ
  rw [aw2_w, if_neg (by simp), if_neg (by omega), h, e]
theorem few_const {q : Rat} (h : BdQ 1 q) : OpC.few 3000 (constC q) := ⟨natW_few ((h.few (Nat.le_refl _)).num) (by decide), natW_few ((h.few (Nat.le_refl _)).den) (by decide)⟩
theorem few_none (c a b e : Int) : OpC.few 3000 ⟨c, a, b, e, false, [], []⟩ := ⟨Nat.zero_le _, Nat.zero_le _⟩
theorem bd_small {n : Int} {d : Nat} (hn : n.natAbs ≤ 1000000) (hd : d ≤ 1000000) : BdQ 1 (mkRat n d) := by
  rw [← lowQ_int]
  have : (1000000 : Nat) ≤ 2 ^ 133 := by decide
  exact BdQ.low (by omega) (by omega)
theorem awake15_any {I : Hp} : Fun Try.prog 4 [] I [] (fun v _ _ => v = .bool true) := by
  intro w hw
  refine enter0 _ Try.func4 rfl Try.ntmps4 ?_ hw
  refine c_seq (c_region ?_)
  refine o_pv trivial rfl rfl ?_
  refine o_nil (then_c (c_seq (c_region ?_)))
  refine o_callI trivial rfl Try.call9 rfl (rOf8_any 1 (by decide)) ?_
  rintro _ I1 hx1 ⟨u1, u2, rfl, k1, k2⟩
  refine o_buildS trivial rfl (bld43) rfl (.cons rfl rfl rfl (by repeat constructor) (.cons rfl rfl rfl (by repeat constructor) .nil)) ?_
  iterate 2 refine o_buildS trivial rfl (bld43) rfl (.cons rfl rfl rfl (by repeat constructor) (.cons rfl rfl rfl (by repeat constructor) (.cons rfl rfl rfl (by repeat constructor) .nil))) ?_
  refine o_buildSl trivial rfl Try.underlying26 Try.sizeOf43 Try.zeroValue43 (by decide) (by decide) rfl (by repeat first | exact rfl | constructor) rfl (fun b11 => ?_)
  refine o_buildSl trivial rfl Try.underlying27 Try.sizeOf3 Try.zeroValue3 (by decide) (by decide) rfl (by repeat first | exact rfl | constructor) rfl (fun b12 => ?_)
  refine l_sealB (b := b11) (.there .here) (fun I2 hx2 hb11 => ?_)
  refine l_sealB (b := b12) .here (fun I3 hx3 hb12 => ?_)
  have ht : TapeV I3 (.slice (some ⟨b11, 0, none⟩) 3 3) (.slice (some ⟨b12, 0, none⟩) 1 1) aw1 [⟨constC (mkRat 1 1), u1, u2⟩, plainO 2 0 1 0, plainO 4 0 2 0] := TapeV.of (t := aw1) [⟨constC (mkRat 1 1), u1, u2⟩, plainO 2 0 1 0, plainO 4 0 2 0] (hx3.le _ _ hb11) hb12 (fun o ho => by
    simp only [List.mem_cons, List.not_mem_nil, or_false] at ho
    rcases ho with rfl | rfl | rfl
    · exact ⟨k1.le (hx2.le.trans hx3.le), k2.le (hx2.le.trans hx3.le)⟩
    · exact plainO_ok _ _ _ _ _
    · exact plainO_ok _ _ _ _ _) rfl (Nat.le_of_ble_eq_true rfl) (Nat.le_of_ble_eq_true rfl)
  refine o_buildS trivial rfl (bld29) rfl (.cons rfl rfl rfl (by repeat constructor) (.cons rfl (by first | exact (Ws.cells1 (by assumption)).1 | exact (Slc.cells1 (by assumption)).1 | rfl) (by rfl) (by repeat constructor) (.cons rfl (by first | exact (Ws.cells1 (by assumption)).1 | exact (Slc.cells1 (by assumption)).1 | rfl) (by rfl) (by repeat constructor) .nil))) ?_
  refine o_alloc trivial rfl Try.zeroValue29 rfl (fun b1 => ?_)
  refine o_store trivial rfl rfl rfl Try.sizeOf29 rfl (by first | rfl | (repeat' (first | exact rfl | exact one_nil | refine one_cons ?_ ?_ | exact (Ws.cells1 (by assumption)).2 | exact (Slc.cells1 (by assumption)).2))) (by repeat constructor) (by repeat constructor) ?_
  refine o_nil (then_c (c_seq ?_))
  refine h_beginB (m := 9) [.box b1 _] (by repeat constructor) (by kernel_rfl) rfl ?_
  refine' h_take (i := 0) #[true, false, false, false, false, false, false, false, false] rfl rfl rfl (by kernel_rfl) (by kernel_rfl) (by kernel_rfl) rfl (qp_then qp_bp) (fun _ h => (h.sort (by repeat constructor)).fewer (Hp.Le.refl _)) ?hh0 ?kk0
  case hh0 =>
   refine o_loadA trivial rfl Try.isAgg29 Try.sizeOf29 rfl (by repeat constructor) (by repeat constructor) ?_
   refine o_nil ?_
   exact ⟨fun _ _ ha _ => ha⟩
  refine h_go [1] (by kernel_rfl) rfl (TWHs.cons ?_ TWHs.nil)
  refine h_op #[true, true, false, false, false, false, false, false, false] rfl rfl ?_
  refine o_callI trivial rfl Try.call10 rfl (rSmall8_any 1 1 (by decide) (by decide)) ?_
  rintro _ I4 hx4 ⟨u3, u4, rfl, k3, k4⟩
  refine o_nil ?_
  refine h_next (fun _ h => (h.sort (by repeat constructor)).fewer (hx4.le)) ?_
  refine h_go [2] (by kernel_rfl) rfl (TWHs.cons ?_ TWHs.nil)
  refine h_op #[true, true, true, false, false, false, false, false, false] rfl rfl ?_
  refine o_buildSl trivial rfl Try.underlying31 Try.sizeOf40 Try.zeroValue40 (by decide) (by decide) rfl (by repeat first | exact rfl | constructor) rfl (fun b17 => ?_)
  refine o_nil ?_
  refine h_next (fun _ h => (h.sort (by repeat constructor)).fewer (hx4.le)) ?_
  refine h_go [3] (by kernel_rfl) rfl (TWHs.cons ?_ TWHs.nil)
  refine h_op #[true, true, true, true, false, false, false, false, false] rfl rfl ?_
  refine l_sealB .here (fun I5 hx5 hb17 => ?_)
  have hpt : PtV I5 (.slice (some ⟨b17, 0, none⟩) 1 1) [NV.of (mkRat 1 2) u3 u4] := PtV.of [NV.of (mkRat 1 2) u3 u4] hb17 (fun x hx => by rw [List.mem_singleton.1 hx]; exact ⟨k3.le hx5.le, k4.le hx5.le⟩) (Nat.le_of_ble_eq_true rfl)
  have hbd := tape_bd (t := aw1) (xs := [NV.of (mkRat 1 2) u3 u4]) (fun o ho => by
    simp only [aw1, List.mem_cons, List.not_mem_nil, or_false] at ho
    rcases ho with rfl | rfl | rfl
    · exact few_const (bd_small (by decide) (by decide))
    · exact few_none _ _ _ _
    · exact few_none _ _ _ _) (fun x hx => by rw [List.mem_singleton.1 hx, NV.of_q]; exact bd_small (by decide) (by decide)) (fun x hx => by rw [List.mem_singleton.1 hx]; exact few_const (q := mkRat 1 2) (bd_small (by decide) (by decide)))
  have hev := eval_any aw1 _ _ _ _ _ (ht.le (hx4.le.trans hx5.le)) hpt hbd.2
  rw [aw1_e (by simp [NV.of_q])] at hev
  refine o_callI trivial rfl Try.call7 rfl hev ?_
  rintro _ I6 hx6 ⟨v6, rfl, hv6, _⟩
  refine o_nil ?_
  refine h_next (fun _ h => (h.sort (by repeat constructor)).fewer (((hx4.le).trans hx5.le).trans hx6.le)) ?_
  refine' h_take (i := 4) #[true, true, true, true, true, false, false, false, false] rfl rfl rfl (by kernel_rfl) (by kernel_rfl) (by kernel_rfl) rfl (qp_then qp_bp) (fun _ h => (h.sort (by repeat constructor)).fewer (((hx4.le).trans hx5.le).trans hx6.le)) ?hh1 ?kk1
  case hh1 =>
   refine o_pv trivial rfl rfl ?_
   refine o_nil ?_
   exact ⟨fun _ _ ha _ => ha⟩
  refine' h_take (i := 5) #[true, true, true, true, true, true, false, false, false] rfl rfl rfl (by kernel_rfl) (by kernel_rfl) (by kernel_rfl) rfl (qp_then qp_bp) (fun _ h => (h.sort (by repeat constructor)).fewer (((hx4.le).trans hx5.le).trans hx6.le)) ?hh2 ?kk2
  case hh2 =>
   refine o_pv trivial rfl rfl ?_
   refine o_nil ?_
   exact ⟨fun _ _ ha _ => ha⟩
  refine' h_take (i := 6) #[true, true, true, true, true, true, true, false, false] rfl rfl rfl (by kernel_rfl) (by kernel_rfl) (by kernel_rfl) rfl (qp_then qp_bp) (fun _ h => (h.sort (by repeat constructor)).fewer (((hx4.le).trans hx5.le).trans hx6.le)) ?hh3 ?kk3
  case hh3 =>
   refine o_pv trivial rfl rfl ?_
   refine o_nil ?_
   exact ⟨fun _ _ ha _ => ha⟩
  refine' h_take (i := 7) #[true, true, true, true, true, true, true, true, false] rfl rfl rfl (by kernel_rfl) (by kernel_rfl) (by kernel_rfl) rfl (qp_then qp_bp) (fun _ h => (h.sort (by repeat constructor)).fewer (((hx4.le).trans hx5.le).trans hx6.le)) ?hh4 ?kk4
  case hh4 =>
   refine o_pv trivial rfl rfl ?_
   refine o_nil ?_
   exact ⟨fun _ _ ha _ => ha⟩
  refine' h_take (i := 8) #[true, true, true, true, true, true, true, true, true] rfl rfl rfl (by kernel_rfl) (by kernel_rfl) (by kernel_rfl) rfl (qp_then qp_bp) (fun _ h => (h.sort (by repeat constructor)).fewer (((hx4.le).trans hx5.le).trans hx6.le)) ?hh5 ?kk5
  case hh5 =>
   refine o_pv trivial rfl rfl ?_
   refine o_nil ?_
   exact ⟨fun _ _ ha _ => ha⟩
  refine h_end (by kernel_rfl) ?_
  refine then_c (c_seq (c_region ?_))
  refine o_callI trivial rfl Try.call9 rfl (rOf8_any 1 (by decide)) ?_
  rintro _ I7 hx7 ⟨u5, u6, rfl, k5, k6⟩
  refine o_buildS trivial rfl (bld43) rfl (.cons rfl rfl rfl (by repeat constructor) (.cons rfl rfl rfl (by repeat constructor) .nil)) ?_
  refine o_buildS trivial rfl (bld43) rfl (.cons rfl rfl rfl (by repeat constructor) (.cons rfl rfl rfl (by repeat constructor) (.cons rfl rfl rfl (by repeat constructor) .nil))) ?_
  refine o_buildSl trivial rfl Try.underlying26 Try.sizeOf43 Try.zeroValue43 (by decide) (by decide) rfl (by repeat first | exact rfl | constructor) rfl (fun b24 => ?_)
  refine o_buildSl trivial rfl Try.underlying27 Try.sizeOf3 Try.zeroValue3 (by decide) (by decide) rfl (by repeat first | exact rfl | constructor) rfl (fun b25 => ?_)
  refine l_sealB (b := b24) (.there .here) (fun I8 hx8 hb24 => ?_)
  refine l_sealB (b := b25) .here (fun I9 hx9 hb25 => ?_)
  have ht2 : TapeV I9 (.slice (some ⟨b24, 0, none⟩) 2 2) (.slice (some ⟨b25, 0, none⟩) 1 1) aw2 [⟨constC (mkRat 1 1), u5, u6⟩, plainO 5 1 0 0] := TapeV.of (t := aw2) [⟨constC (mkRat 1 1), u5, u6⟩, plainO 5 1 0 0] (hx9.le _ _ hb24) hb25 (fun o ho => by
    simp only [List.mem_cons, List.not_mem_nil, or_false] at ho
    rcases ho with rfl | rfl
    · exact ⟨k5.le (hx8.le.trans hx9.le), k6.le (hx8.le.trans hx9.le)⟩
    · exact plainO_ok _ _ _ _ _) rfl (Nat.le_of_ble_eq_true rfl) (Nat.le_of_ble_eq_true rfl)
  have hv9 := (hv6 _ rfl).le (hx7.le.trans (hx8.le.trans hx9.le))
  refine o_buildS trivial rfl (bld29) rfl (.cons rfl rfl rfl (by repeat constructor) (.cons rfl (by first | exact (Ws.cells1 (by assumption)).1 | exact (Slc.cells1 (by assumption)).1 | rfl) (by rfl) (by repeat constructor) (.cons rfl (by first | exact (Ws.cells1 (by assumption)).1 | exact (Slc.cells1 (by assumption)).1 | rfl) (by rfl) (by repeat constructor) .nil))) ?_
  refine o_alloc trivial rfl Try.zeroValue29 rfl (fun b4 => ?_)
  refine o_store trivial rfl rfl rfl Try.sizeOf29 rfl (by first | rfl | (repeat' (first | exact rfl | exact one_nil | refine one_cons ?_ ?_ | exact (Ws.cells1 (by assumption)).2 | exact (Slc.cells1 (by assumption)).2))) (by repeat constructor) (by repeat constructor) ?_
  refine o_nil (then_c (c_seq (c_region ?_)))
  refine o_loadA trivial rfl Try.isAgg29 Try.sizeOf29 rfl (by repeat constructor) (by repeat constructor) ?_
  refine o_buildS trivial rfl (bld40) rfl .nil ?_
  refine o_buildSl trivial rfl Try.underlying31 Try.sizeOf40 Try.zeroValue40 (by decide) (by decide) rfl (by repeat first | exact rfl | constructor) rfl (fun b30 => ?_)
  refine l_sealB .here (fun I10 hx10 hb30 => ?_)
  have hpt2 : PtV I10 (.slice (some ⟨b30, 0, none⟩) 1 1) [⟨false, [], [], .slice none 0 0, .slice none 0 0⟩] := PtV.of [⟨false, [], [], .slice none 0 0, .slice none 0 0⟩] hb30 (fun x hx => by rw [List.mem_singleton.1 hx]; exact ⟨Ws.nil _, Ws.nil _⟩) (by decide)
  have hbd2 := tape_bd (t := aw2) (xs := [⟨false, [], [], .slice none 0 0, .slice none 0 0⟩]) (fun o ho => by
    simp only [aw2, List.mem_cons, List.not_mem_nil, or_false] at ho
    rcases ho with rfl | rfl
    · exact few_const (bd_small (by decide) (by decide))
    · exact few_none _ _ _ _) (fun x hx => by rw [List.mem_singleton.1 hx]; exact BdQ.low (by decide) (by decide)) (fun x hx => by rw [List.mem_singleton.1 hx]; exact ⟨Nat.zero_le _, Nat.zero_le _⟩)
  have hou := outs_any aw2 _ _ _ _ _ (ht2.le hx10.le) hpt2 hbd2.2
  rw [aw2_e (by show [lowQ false 0 0] = [0]; rw [lowQ_zero (.inl rfl)])] at hou
  refine o_callI trivial rfl Try.call11 rfl hou ?_
  rintro _ I11 hx11 ⟨v11, rfl, _, hv11⟩
  iterate 5 refine o_pv trivial rfl rfl ?_
  refine o_nil (then_c (c_seq (c_region ?_)))
  obtain rfl := hv11 (by decide)
  iterate 2 refine o_pv trivial rfl rfl ?_
  refine' o_and trivial trivial rfl rfl rfl rfl rfl rfl rfl rfl (fun hb36 => ?_) ?_
  rotate_left
  ·
   have fb36 := hb36
   try simp only [bl] at fb36
   refine o_pv (wants_some rfl rfl hb36) rfl rfl ?_
   refine o_callI (wants_some rfl rfl hb36) rfl Try.call10 rfl (rSmall8_any 1 1 (by decide) (by decide)) ?_
   rintro _ I12 hx12 ⟨w1, w2, rfl, m1, m2⟩
   refine o_callI (wants_some rfl rfl hb36) rfl Try.call9 rfl (rOf8_any 1 (by decide)) ?_
   rintro _ I13 hx13 ⟨w3, w4, rfl, m3, m4⟩
   refine o_callI (wants_some rfl rfl hb36) rfl Try.call10 rfl (rSmall8_any 3 1 (by decide) (by decide)) ?_
   rintro _ I14 hx14 ⟨w5, w6, rfl, m5, m6⟩
   refine o_callI (wants_some rfl rfl hb36) rfl Try.call10 rfl (rSmall8_any 3 3 (by decide) (by decide)) ?_
   rintro _ I15 hx15 ⟨w7, w8, rfl, m7, m8⟩
   refine o_buildSl (wants_some rfl rfl hb36) rfl Try.underlying31 Try.sizeOf40 Try.zeroValue40 (by decide) (by decide) rfl (by repeat first | exact rfl | constructor) rfl (fun b42 => ?_)
   refine l_sealB .here (fun I16 hx16 hb42 => ?_)
   have hrs := RsV.of [⟨mkRat 1 2, w1, w2⟩, ⟨mkRat 1 1, w3, w4⟩, ⟨mkRat 3 2, w5, w6⟩, ⟨mkRat 3 4, w7, w8⟩] hb42 (fun x hx => by
     simp only [List.mem_cons, List.not_mem_nil, or_false] at hx
     rcases hx with rfl | rfl | rfl | rfl
     · exact ⟨m1.le (hx13.le.trans (hx14.le.trans (hx15.le.trans hx16.le))), m2.le (hx13.le.trans (hx14.le.trans (hx15.le.trans hx16.le)))⟩
     · exact ⟨m3.le (hx14.le.trans (hx15.le.trans hx16.le)), m4.le (hx14.le.trans (hx15.le.trans hx16.le))⟩
     · exact ⟨m5.le (hx15.le.trans hx16.le), m6.le (hx15.le.trans hx16.le)⟩
     · exact ⟨m7.le hx16.le, m8.le hx16.le⟩) (Nat.le_of_ble_eq_true rfl)
   refine o_callQ (wants_some rfl rfl hb36) rfl Try.call8 rfl (rAll_any _ _ _ _ (hv9.le (hx10.le.trans (hx11.le.trans (hx12.le.trans (hx13.le.trans (hx14.le.trans (hx15.le.trans hx16.le))))))) hrs) ?_
   refine o_nil ?_
   exact joinsW rfl (fun _ h => (h.sort (by repeat constructor)).fewer (((((hx12.le).trans hx13.le).trans hx14.le).trans hx15.le).trans hx16.le))
  refine' o_and trivial trivial rfl rfl rfl rfl rfl rfl rfl rfl (fun hb45 => ?_) ?_
  rotate_left
  ·
   iterate 2 refine o_pv (wants_some rfl rfl hb45) rfl rfl ?_
   refine o_nil ?_
   exact joins rfl
  refine' o_and trivial trivial rfl rfl rfl rfl rfl rfl rfl rfl (fun hb49 => ?_) ?_
  rotate_left
  ·
   have fb49 := hb49
   try simp only [bl] at fb49
   refine o_pv (wants_some rfl rfl hb49) rfl rfl ?_
   refine o_lenL (wants_some rfl rfl hb49) rfl Try.underlying31 rfl ?_
   refine o_pv (wants_some rfl rfl hb49) rfl rfl ?_
   refine o_nil ?_
   exact joins rfl
  refine o_pv trivial rfl rfl ?_
  refine o_nil (then_c (c_ret ?_))
  refine ret1 rfl rfl ?_
  exact leaf (hx1.trans (hx2.trans (hx3.trans (hx4.trans (hx5.trans (hx6.trans (hx7.trans (hx8.trans (hx9.trans (hx10.trans hx11 (Nat.le_refl _)) (Nat.le_refl _)) (Nat.le_refl _)) (Nat.le_refl _)) (Nat.le_refl _)) (Nat.le_refl _)) (Nat.le_refl _)) (Nat.le_refl _)) (Nat.le_refl _)) (Nat.le_refl _)) (List.nil_sublist _) (congrArg Value.bool (by decide +kernel))
/-- What came out; nothing, if nothing did. -/
def resOf (r : Except Int (List Rat)) : List Rat := match r with
  | .ok l => l
  | .error _ => []
theorem RsV.nil (I : Hp) : RsV I (.slice none 0 0) [] := ⟨[], Slc.nil _ _, fun r h => (by cases h), rfl⟩
theorem exR_out {r : Except Int (List Rat)} {v : Value} {I : Hp} (h : exR r v I) (he : ∀ e, r = .error e → e ≠ 0) : ∃ u, v = .tuple #[u, .int .i64 (errOf r)] ∧ RsV I u (resOf r) := by
  obtain ⟨u, rfl, h1, h2⟩ := h
  refine ⟨u, rfl, ?_⟩
  cases r with
  | ok l => exact h1 l rfl
  | error e => rw [h2 (he e rfl)]; exact RsV.nil I
theorem evalZ_ne {t : TapeC} {xs : List NV} : ∀ e, evalZ t xs = .error e → e ≠ 0 := fun e h => by
  unfold evalZ at h
  split at h
  · cases h; decide
  · split at h
    · cases h; decide
    · split at h
      · cases h
      · cases h; decide
theorem outsZ_ne {t : TapeC} {xs : List NV} : ∀ e, outsZ t xs = .error e → e ≠ 0 := fun e h => by
  unfold outsZ at h
  split at h
  · rename_i e' he; cases h; exact evalZ_ne _ he
  · cases h
theorem exR_fun {f : FuncId} {args : List Value} {I : Hp} {r : Except Int (List Rat)} (h : Fun Try.prog f args I [] (fun v I' _ => exR r v I')) (he : ∀ e, r = .error e → e ≠ 0) : Fun Try.prog f args I [] (fun v I' _ => ∃ u, v = .tuple #[u, .int .i64 (errOf r)] ∧ RsV I' u (resOf r)) := fun w hw => (h w hw).mono fun v w' ⟨I', B', h1, h2, h3⟩ => ⟨I', B', h1, h2, exR_out h3 he⟩
end Go.Proofs.Ytjgbjaaekknenaa
/-
  The document's small tapes and points.
-/
namespace Go.Tw
open Go
set_option linter.unusedVariables false
set_option linter.unusedSimpArgs false
set_option linter.unnecessarySimpa false
set_option maxHeartbeats 1000000
theorem enter5 {P : Program} {S : World → Prop} {f : FuncId} {fn : Func} {c : Code} {a0 a1 a2 a3 a4 : Value} {R : Value → World → Prop} (n : Nat) (hf : P.funcs[f]? = some fn) (hb : fn.body = some c) (hn : fn.ntmps = n) (hs : Nat.ble 5 n = true)
    (h : TC P c (BP P fn R) n [] [(0, a0), (1, a1), (2, a2), (3, a3), (4, a4)] S) {w : World} (hw : S w) : Ret P f #[a0, a1, a2, a3, a4] w R := enter (args := [a0, a1, a2, a3, a4]) _ n hf hb hn hs (fun i v hi => by
      match i, hi with
      | 0, hi => exact hi
      | 1, hi => exact hi
      | 2, hi => exact hi
      | 3, hi => exact hi
      | 4, hi => exact hi
      | i + 5, hi => cases hi) h hw
/-- A turn, in four bytes. -/
structure TurnC where
  op : Int
  a : Int
  b : Int
  n : Int
def TurnC.cells (t : TurnC) : List Value := [.int .u8 t.op, .int .u8 t.a, .int .u8 t.b, .int .u8 t.n]
structure TurnC.ok (t : TurnC) : Prop where
  op : 0 ≤ t.op ∧ t.op ≤ 255
  a : 0 ≤ t.a ∧ t.a ≤ 255
  b : 0 ≤ t.b ∧ t.b ≤ 255
  n : 0 ≤ t.n ∧ t.n ≤ 255
structure TnV (I : Hp) (v : Value) (ts : List TurnC) : Prop where
  s : Slc I 4 v (ts.map TurnC.cells)
  ok : ∀ t ∈ ts, t.ok
theorem TnV.le {I I' : Hp} {v : Value} {ts : List TurnC} (h : TnV I v ts) (hl : I.Le I') : TnV I' v ts := ⟨h.s.le hl, h.ok⟩
theorem TnV.at_ {I : Hp} {v : Value} {ts : List TurnC} (h : TnV I v ts) {i : Nat} {t : TurnC} (ht : ts[i]? = some t) : ∀ k y, ([.int .u8 t.op, .int .u8 t.a, .int .u8 t.b, .int .u8 t.n] : List Value)[k]? = some y → I.cell? ⟨slcB v, slcO v + i * 4 + k, none⟩ = some y :=
  h.s.cells i _ (by rw [List.getElem?_map, ht]; rfl)
/-- Bytes. -/
def bcs (l : List Int) : List (List Value) := l.map fun z => [.int .u8 z]
structure ByV (I : Hp) (v : Value) (l : List Int) : Prop where
  s : Slc I 1 v (bcs l)
  ok : ∀ z ∈ l, 0 ≤ z ∧ z ≤ 255
theorem ByV.le {I I' : Hp} {v : Value} {l : List Int} (h : ByV I v l) (hl : I.Le I') : ByV I' v l := ⟨h.s.le hl, h.ok⟩
theorem bcs_len (l : List Int) : (bcs l).length = l.length := by simp [bcs]
theorem ByV.at_ {I : Hp} {v : Value} {l : List Int} (h : ByV I v l) {i : Nat} {z : Int} (hz : l[i]? = some z) : I.cell? ⟨slcB v, slcO v + i * 1, none⟩ = some (.int .u8 z) :=
  h.s.cells i _ (by unfold bcs; rw [List.getElem?_map, hz]; rfl) 0 _ rfl
/-- Small numbers: two of them. -/
structure SmallC where
  n : Int
  d : Int
def SmallC.cells (t : SmallC) : List Value := [.int .i8 t.n, .int .u8 t.d]
structure SmallC.ok (t : SmallC) : Prop where
  n : -128 ≤ t.n ∧ t.n ≤ 127
  d : 0 ≤ t.d ∧ t.d ≤ 255
structure SmV (I : Hp) (v : Value) (ts : List SmallC) : Prop where
  s : Slc I 2 v (ts.map SmallC.cells)
  ok : ∀ t ∈ ts, t.ok
theorem SmV.le {I I' : Hp} {v : Value} {ts : List SmallC} (h : SmV I v ts) (hl : I.Le I') : SmV I' v ts := ⟨h.s.le hl, h.ok⟩
theorem SmV.at_ {I : Hp} {v : Value} {ts : List SmallC} (h : SmV I v ts) {i : Nat} {t : SmallC} (ht : ts[i]? = some t) : ∀ k y, ([.int .i8 t.n, .int .u8 t.d] : List Value)[k]? = some y → I.cell? ⟨slcB v, slcO v + i * 2 + k, none⟩ = some y :=
  h.s.cells i _ (by rw [List.getElem?_map, ht]; rfl)
end Go.Tw
namespace Go.Proofs.Ytjgbjaaekknenaa
open Go Go.Tw
set_option linter.unusedVariables false
set_option linter.unusedSimpArgs false
set_option linter.unnecessarySimpa false
set_option maxHeartbeats 1000000
/-- A turn's op, behind so many places. -/
def op14 (t : TurnC) (n : Int) : OpC :=
  if 1 + t.op % 7 = 1 then constC (mkRat (IntKind.i8.wrap t.n) ((t.b % 5).toNat + 1))
  else if 1 + t.op % 7 ≤ 5 then ⟨1 + t.op % 7, t.a % n, t.b % n, 0, false, [], []⟩
  else if 1 + t.op % 7 = 6 then ⟨6, t.a % n, 0, 0, false, [], []⟩
  else ⟨7, t.a % n, 0, t.n % 7 - 3, false, [], []⟩
def step14 (t : TurnC) (l : List Nat) : OpC × Nat :=
  if 1 + t.op % 7 ≠ 1 ∧ 12 < wgtM (op14 t l.length) l then (constC (mkRat (IntKind.i8.wrap t.n) 1), 1)
  else (op14 t l.length, if 1 + t.op % 7 = 1 then 1 else wgtM (op14 t l.length) l)
def made14 : List TurnC → List Nat → List OpC × List Nat
  | [], l => ([], l)
  | t :: r, l => ((step14 t l).1 :: (made14 r (l ++ [(step14 t l).2])).1, (made14 r (l ++ [(step14 t l).2])).2)
def out14 (outs : List Int) (n : Int) : List Int := if outs.length = 0 then [n - 1] else outs.map fun z => n - 1 - z % n
def madeT (ins : Int) (outs : List Int) (ts : List TurnC) : TapeC :=
  ⟨1 + ins % 3, (made14 ts (List.replicate (1 + ins % 3).toNat 1)).1, out14 outs ((made14 ts (List.replicate (1 + ins % 3).toNat 1)).2.length : Nat)⟩
theorem i8_wrap (z : Int) : -128 ≤ IntKind.i8.wrap z ∧ IntKind.i8.wrap z ≤ 127 := by
  unfold IntKind.wrap
  simp only [IntKind.signed, IntKind.bits]
  simp
  omega
theorem op14_bd (z : Int) (d : Nat) (hd : d ≤ 1000) : BdQ 1 (mkRat (IntKind.i8.wrap z) d) := bd_small (by have := i8_wrap z; omega) (by omega)
theorem bd_const {z : Int} {d : Nat} (hz : -128 ≤ z ∧ z ≤ 127) (hd : d ≤ 1000) : fieldsOK (constC (mkRat z d)) = true := by
  have h := lowQ_le (decide (z < 0)) z.natAbs d
  rw [lowQ_int] at h
  have e : (1000 : Nat) < 10 ^ 40 := by decide
  exact constC_ok (by omega) (by have := h.2; omega)
/-- Weights up to twelve, and one of them. -/
structure Twelve (l : List Nat) : Prop where
  some_ : 0 < l.length
  all : ∀ x ∈ l, 1 ≤ x ∧ x ≤ 12
theorem Twelve.more {l : List Nat} {m : Nat} (h : Twelve l) (hm : 1 ≤ m ∧ m ≤ 12) : Twelve (l ++ [m]) := ⟨by simp, fun x hx => by
  rcases List.mem_append.1 hx with hx | hx
  · exact h.all x hx
  · rw [List.mem_singleton.1 hx]; exact hm⟩
theorem Twelve.le {l : List Nat} (h : Twelve l) : ∀ x ∈ l, x ≤ 200 := fun x hx => by have := h.all x hx; omega
theorem Twelve.ones {k : Nat} (hk : 0 < k) : Twelve (List.replicate k 1) := ⟨by rw [List.length_replicate]; exact hk, fun x hx => by rw [(List.mem_replicate.1 hx).2]; omega⟩
theorem op14_code {t : TurnC} {n : Int} (ht : t.ok) : (op14 t n).code = 1 + t.op % 7 := by
  have := ht.op
  unfold op14
  split
  · rename_i h; rw [h]; rfl
  · split
    · rfl
    · split
      · rename_i h; rw [h]
      · show (7 : Int) = _; omega
theorem mod_in {a : Int} {n : Nat} (h : 0 < n) : 0 ≤ a % (n : Int) ∧ a % (n : Int) < n := ⟨Int.emod_nonneg _ (by omega), Int.emod_lt_of_pos _ (by omega)⟩
/-- Such an op has right fields, and a weight that is told. -/
theorem op14_ok {t : TurnC} {l : List Nat} (ht : t.ok) (hl : Twelve l) : fieldsOK (op14 t l.length) = true ∧ wgt (op14 t l.length) l = some (if 1 + t.op % 7 = 1 then 1 else wgtM (op14 t l.length) l) ∧ (1 + t.op % 7 ≠ 1 → 1 ≤ wgtM (op14 t l.length) l ∧ wgtM (op14 t l.length) l ≤ 200) := by
  have ho := ht.op
  have hn := ht.n
  have ha := mod_in (a := t.a) hl.some_
  have hb := mod_in (a := t.b) hl.some_
  have hp := hl.some_
  have g : ∀ z : Int, 0 ≤ z → z < l.length → 1 ≤ l.getD z.toNat 0 ∧ l.getD z.toNat 0 ≤ 12 := fun z h0 h1 => hl.all _ (getD_mem (by omega))
  have ga := g _ ha.1 ha.2
  have gb := g _ hb.1 hb.2
  unfold op14
  by_cases h1 : 1 + t.op % 7 = 1
  · rw [if_pos h1, if_pos h1]
    exact ⟨bd_const (i8_wrap _) (by omega), rfl, fun h => absurd h1 h⟩
  rw [if_neg h1, if_neg h1]
  have key : ∀ o : OpC, o.code ≠ 1 → (0 ≤ o.a ∧ o.a < l.length) → (0 ≤ o.b ∧ o.b < l.length) → fieldsOK o = true → (1 ≤ wgtM o l ∧ wgtM o l ≤ 200) → fieldsOK o = true ∧ wgt o l = some (wgtM o l) ∧ (1 + t.op % 7 ≠ 1 → 1 ≤ wgtM o l ∧ wgtM o l ≤ 200) := fun o hc h2 h3 h4 h5 => by
    refine ⟨h4, ?_, fun _ => h5⟩
    unfold wgt
    rw [if_neg hc, if_neg (by omega), if_pos h5.2]
  by_cases h2 : 1 + t.op % 7 ≤ 5
  · rw [if_pos h2]
    refine key _ h1 ha hb ?_ ?_
    · unfold fieldsOK emptyZ
      dsimp only
      rw [if_neg h1, if_pos (by omega)]; rfl
    · unfold wgtM
      dsimp only
      rw [if_pos (by omega)]; omega
  rw [if_neg h2]
  by_cases h3 : 1 + t.op % 7 = 6
  · rw [if_pos h3]
    refine key _ (show (6 : Int) ≠ 1 by decide) ha (by dsimp only; omega) rfl ?_
    unfold wgtM
    dsimp only
    rw [if_neg (by omega), if_neg (by omega)]; omega
  rw [if_neg h3]
  have he : -3 ≤ t.n % 7 - 3 ∧ t.n % 7 - 3 ≤ 3 := by omega
  refine key _ (show (7 : Int) ≠ 1 by decide) ha (by dsimp only; omega) ?_ ?_
  · unfold fieldsOK emptyZ
    dsimp only
    rw [if_neg (by omega), if_neg (by omega), if_neg (by omega), if_pos rfl, decide_eq_true (show (0 : Int) = 0 ∧ -20 ≤ t.n % 7 - 3 ∧ t.n % 7 - 3 ≤ 20 by omega)]; rfl
  · unfold wgtM
    dsimp only
    rw [if_neg (by omega), if_pos rfl]
    have h1 : l.getD (t.a % (l.length : Int)).toNat 0 * 1 ≤ l.getD (t.a % (l.length : Int)).toNat 0 * max 1 (t.n % 7 - 3).natAbs := Nat.mul_le_mul_left _ (Nat.le_max_left _ _)
    have h2 : l.getD (t.a % (l.length : Int)).toNat 0 * max 1 (t.n % 7 - 3).natAbs ≤ 12 * 3 := Nat.mul_le_mul (by omega) (by omega)
    omega
theorem op14_R {t : TurnC} {l : List Nat} (ht : t.ok) (hl : Twelve l) : wR (op14 t l.length) l = some (if 1 + t.op % 7 = 1 then 1 else wgtM (op14 t l.length) l) := by
  obtain ⟨h1, h2, _⟩ := op14_ok ht hl
  unfold wR
  rw [if_pos h1, h2]
theorem step14_ok {t : TurnC} {l : List Nat} (ht : t.ok) (hl : Twelve l) : fieldsOK (step14 t l).1 = true ∧ wgt (step14 t l).1 l = some (step14 t l).2 ∧ 1 ≤ (step14 t l).2 ∧ (step14 t l).2 ≤ 12 := by
  obtain ⟨h1, h2, h3⟩ := op14_ok ht hl
  unfold step14
  by_cases h : 1 + t.op % 7 ≠ 1 ∧ 12 < wgtM (op14 t l.length) l
  · rw [if_pos h]
    exact ⟨bd_const (i8_wrap _) (by omega), rfl, by dsimp only; omega, by dsimp only; omega⟩
  · rw [if_neg h]
    refine ⟨h1, h2, ?_⟩
    dsimp only
    split
    · omega
    · rename_i h4; have := h3 h4; omega
theorem made14_ok : ∀ {ts : List TurnC} {l : List Nat}, (∀ t ∈ ts, t.ok) → Twelve l → wgts (made14 ts l).1 l = some (made14 ts l).2 ∧ Twelve (made14 ts l).2 ∧ (made14 ts l).1.length = ts.length ∧ (made14 ts l).2.length = l.length + ts.length
  | [], l, _, hl => ⟨rfl, hl, rfl, rfl⟩
  | t :: r, l, ht, hl => by
    obtain ⟨h1, h2, h3, h4⟩ := step14_ok (ht t List.mem_cons_self) hl
    obtain ⟨k1, k2, k3, k4⟩ := made14_ok (fun x hx => ht x (List.mem_cons_of_mem _ hx)) (hl.more ⟨h3, h4⟩)
    unfold made14
    dsimp only
    refine ⟨?_, k2, by rw [List.length_cons, k3]; rfl, by rw [k4]; simp; omega⟩
    unfold wgts
    rw [if_pos h1, h2]
    exact k1
theorem op14_few {t : TurnC} {n : Int} : OpC.few 3000 (op14 t n) := by
  unfold op14
  split
  · exact few_const (op14_bd _ _ (by have := Int.emod_lt_of_pos t.b (show (0 : Int) < 5 by decide); omega))
  · split
    · exact few_none _ _ _ _
    · split <;> exact few_none _ _ _ _
theorem step14_few {t : TurnC} {l : List Nat} : OpC.few 3000 (step14 t l).1 := by
  have hc : ∀ d : Nat, d ≤ 1000 → OpC.few 3000 (constC (mkRat (IntKind.i8.wrap t.n) d)) := fun d hd => few_const (op14_bd _ _ hd)
  unfold step14
  by_cases h : 1 + t.op % 7 ≠ 1 ∧ 12 < wgtM (op14 t l.length) l
  · rw [if_pos h]; exact hc 1 (by decide)
  · rw [if_neg h]
    unfold op14
    dsimp only
    split
    · exact hc _ (by have := Int.emod_lt_of_pos t.b (show (0 : Int) < 5 by decide); omega)
    · split
      · exact few_none _ _ _ _
      · split <;> exact few_none _ _ _ _
theorem made14_few : ∀ {ts : List TurnC} {l : List Nat}, ∀ o ∈ (made14 ts l).1, OpC.few 3000 o
  | [], l, o, h => by cases h
  | t :: r, l, o, h => by
    unfold made14 at h
    rcases List.mem_cons.1 h with rfl | h
    · exact step14_few
    · exact made14_few o h
theorem made14_drop {ts : List TurnC} {i : Nat} {t : TurnC} (h : ts[i]? = some t) (l : List Nat) : made14 (ts.drop i) l = ((step14 t l).1 :: (made14 (ts.drop (i + 1)) (l ++ [(step14 t l).2])).1, (made14 (ts.drop (i + 1)) (l ++ [(step14 t l).2])).2) := by
  rw [List.drop_eq_getElem_cons (List.getElem?_eq_some_iff.1 h).1, (List.getElem?_eq_some_iff.1 h).2]; rfl
theorem out14_in {outs : List Int} {n : Nat} (h : 0 < n) : ∀ z ∈ out14 outs n, 0 ≤ z ∧ z < n := fun z hz => by
  unfold out14 at hz
  split at hz
  · rw [List.mem_singleton.1 hz]; omega
  · obtain ⟨y, _, rfl⟩ := List.mem_map.1 hz
    have := mod_in (a := y) h
    omega
theorem madeT_ok {ins : Int} {outs : List Int} {ts : List TurnC} (hi : 0 ≤ ins ∧ ins ≤ 255) (ho : outs.length ≤ 3) (ht : ∀ t ∈ ts, t.ok) (hm : ts.length ≤ 12) : tapeW (madeT ins outs ts) = some (made14 ts (List.replicate (1 + ins % 3).toNat 1)).2 ∧ ∀ o ∈ (madeT ins outs ts).ops, OpC.few 3000 o := by
  obtain ⟨h1, h2, h3, h4⟩ := made14_ok ht (Twelve.ones (k := (1 + ins % 3).toNat) (by omega))
  refine ⟨?_, fun o ho => made14_few o ho⟩
  have hol : 1 ≤ (madeT ins outs ts).outs.length ∧ (madeT ins outs ts).outs.length ≤ 3 := by
    unfold madeT out14
    dsimp only
    split
    · simp
    · rw [List.length_map]; omega
  unfold tapeW
  rw [if_neg (by
    have e1 : (madeT ins outs ts).ins = 1 + ins % 3 := rfl
    have e2 : (madeT ins outs ts).ops.length = ts.length := h3
    omega)]
  show (match wgts (made14 ts (List.replicate (1 + ins % 3).toNat 1)).1 (List.replicate (1 + ins % 3).toNat 1) with | none => none | some l => if ((madeT ins outs ts).outs.all fun z => decide (0 ≤ z ∧ z < l.length)) = true then some l else none) = _
  rw [h1]
  dsimp only
  exact if_pos (List.all_eq_true.2 fun z hz => decide_eq_true (out14_in h2.some_ z hz))
def ocs (os : List OpV) : List (List Value) := os.map OpV.cells
theorem ocs_len (os : List OpV) : (ocs os).length = os.length := by simp [ocs]
theorem ocs_seven (os : List OpV) : ∀ c ∈ ocs os, c.length = 7 := by
  intro c hc
  obtain ⟨r, _, rfl⟩ := List.mem_map.1 hc
  rfl
theorem ocs_more (os : List OpV) (o : OpV) : (ocs os).flatten ++ ([.int .i64 o.c.code, .int .i64 o.c.a, .int .i64 o.c.b, .int .i64 o.c.e, .bool o.c.neg, o.vn, o.vd] ++ []) = (ocs (os ++ [o])).flatten := by
  unfold ocs; rw [List.map_append, List.flatten_append]; rfl
theorem seven_plain {I : Hp} {a b c d : Int} {s : Bool} {u1 u2 : Value} {X Y : List Nat} (h1 : Ws I u1 X) (h2 : Ws I u2 Y) : plain1 ([.int .i64 a, .int .i64 b, .int .i64 c, .int .i64 d, .bool s, u1, u2] ++ []) = true := by
  have e1 := h1.cells1.2
  have e2 := h2.cells1.2
  show (true && (true && (true && (true && (true && (u1.oneCell' && (u2.oneCell' && true))))))) = true
  rw [e1, e2]; rfl
theorem op14_any (t : TurnC) (n : Nat) {I : Hp} (ht : t.ok) (hn : 0 < n ∧ n ≤ 1000000) : Fun Try.prog 12 [.agg #[.int .u8 t.op, .int .u8 t.a, .int .u8 t.b, .int .u8 t.n], .int .i64 (n : Nat)] I []
    (fun v I' _ => ∃ o : OpV, v = .agg #[.int .i64 o.c.code, .int .i64 o.c.a, .int .i64 o.c.b, .int .i64 o.c.e, .bool o.c.neg, o.vn, o.vd] ∧ o.c = op14 t n ∧ o.ok I') := by
  obtain ⟨ho, ha, hb, hnn⟩ := ht
  have hi := i8_wrap t.n
  have hma := mod_in (a := t.a) hn.1
  have hmb := mod_in (a := t.b) hn.1
  intro w hw
  refine enter2 _ Try.func12 rfl Try.ntmps12 rfl ?_ hw
  refine c_seq (c_region ?_)
  refine o_box trivial rfl rfl rfl (fun b2 => ?_)
  refine o_alloc trivial rfl Try.zeroValue43 rfl (fun b4 => ?_)
  refine o_nil (then_c (c_seq (c_region ?_)))
  refine o_fieldAddr (T := 5) (off := 0) trivial rfl Try.underlying48 rfl rfl rfl Try.sizeOf5 rfl rfl ?_
  refine o_load1 trivial rfl Try.isAgg5 rfl (by repeat constructor) (by repeat constructor) ?_
  refine o_rem trivial rfl rfl rfl (by omega) ?_
  first | refine o_convIn trivial rfl Try.underlying5 Try.underlying3 rfl (by rw [IntWalk.i64_in _ (by omega)]) ?_ | refine o_conv trivial rfl Try.underlying5 Try.underlying3 rfl ?_
  first | (refine o_add trivial rfl rfl rfl ?_ ?_; (omega)) | refine o_pv trivial rfl rfl ?_
  refine o_pv trivial rfl rfl ?_
  refine o_nil (then_c (c_seq (c_region ?_)))
  refine o_fieldAddr (T := 5) (off := 1) trivial rfl Try.underlying48 rfl rfl rfl Try.sizeOf5 rfl rfl ?_
  refine o_load1 trivial rfl Try.isAgg5 rfl (by repeat constructor) (by repeat constructor) ?_
  first | refine o_convIn trivial rfl Try.underlying5 Try.underlying3 rfl (by rw [IntWalk.i64_in _ (by omega)]) ?_ | refine o_conv trivial rfl Try.underlying5 Try.underlying3 rfl ?_
  refine o_pv trivial rfl rfl ?_
  refine o_rem trivial rfl rfl rfl (by omega) ?_
  refine o_pv trivial rfl rfl ?_
  refine o_nil (then_c (c_seq (c_region ?_)))
  refine o_fieldAddr (T := 5) (off := 2) trivial rfl Try.underlying48 rfl rfl rfl Try.sizeOf5 rfl rfl ?_
  refine o_load1 trivial rfl Try.isAgg5 rfl (by repeat constructor) (by repeat constructor) ?_
  first | refine o_convIn trivial rfl Try.underlying5 Try.underlying3 rfl (by rw [IntWalk.i64_in _ (by omega)]) ?_ | refine o_conv trivial rfl Try.underlying5 Try.underlying3 rfl ?_
  refine o_pv trivial rfl rfl ?_
  refine o_rem trivial rfl rfl rfl (by omega) ?_
  refine o_pv trivial rfl rfl ?_
  refine o_nil (then_c (c_seq (c_block (c_seq (c_region ?_)))))
  iterate 3 refine o_pv trivial rfl rfl ?_
  refine o_nil (then_c ?_)
  refine c_cond rfl (fun h1 => ?_) (fun h1 => ?_)
  ·
   have f1 := h1
   try simp only [bl] at f1
   refine c_seq (c_region ?_)
   refine o_fieldAddr (T := 5) (off := 3) trivial rfl Try.underlying48 rfl rfl rfl Try.sizeOf5 rfl rfl ?_
   refine o_load1 trivial rfl Try.isAgg5 rfl (by repeat constructor) (by repeat constructor) ?_
   refine o_conv trivial rfl Try.underlying5 Try.underlying45 rfl ?_
   refine o_fieldAddr (T := 5) (off := 2) trivial rfl Try.underlying48 rfl rfl rfl Try.sizeOf5 rfl rfl ?_
   refine o_load1 trivial rfl Try.isAgg5 rfl (by repeat constructor) (by repeat constructor) ?_
   refine o_rem trivial rfl rfl rfl (by omega) ?_
   have e5 : t.b % 5 = ((t.b % 5).toNat : Int) := by omega
   rw [e5]
   refine o_callI trivial rfl Try.call10 rfl (rSmall8_any (IntKind.i8.wrap t.n) (t.b % 5).toNat hi (by omega)) ?_
   rintro _ I1 hx1 ⟨u1, u2, rfl, k1, k2⟩
   refine o_buildS trivial rfl (bld43) rfl (.cons rfl rfl rfl (by repeat constructor) (.cons rfl rfl rfl (by repeat constructor) .nil)) ?_
   refine o_store trivial rfl rfl rfl Try.sizeOf43 rfl (by first | rfl | (repeat' (first | exact rfl | exact one_nil | refine one_cons ?_ ?_ | exact (Ws.cells1 (by assumption)).2 | exact (Slc.cells1 (by assumption)).2))) (by repeat constructor) (by repeat constructor) ?_
   refine o_nil (then_c (c_ret (blk_r (then_r ?_))))
   refine retR rfl (.agg Try.isAgg43 Try.sizeOf43 rfl (by repeat constructor) rfl .nil) ?_
   refine leaf hx1 (List.nil_sublist _) ⟨⟨constC (mkRat (IntKind.i8.wrap t.n) ((t.b % 5).toNat + 1)), u1, u2⟩, rfl, ?_, k1, k2⟩
   unfold op14; rw [if_pos f1]
  ·
   have f1 := h1
   try simp only [bl] at f1
   refine c_seq (c_region ?_)
   iterate 3 refine o_pv trivial rfl rfl ?_
   refine o_nil (then_c ?_)
   refine c_cond rfl (fun h2 => ?_) (fun h2 => ?_)
   ·
    have f2 := h2
    try simp only [bl] at f2
    refine c_seq (c_region ?_)
    iterate 3 refine o_pv trivial rfl rfl ?_
    refine o_buildS trivial rfl (bld43) rfl (.cons rfl rfl rfl (by repeat constructor) (.cons rfl rfl rfl (by repeat constructor) (.cons rfl rfl rfl (by repeat constructor) .nil))) ?_
    refine o_store trivial rfl rfl rfl Try.sizeOf43 rfl (by first | rfl | (repeat' (first | exact rfl | exact one_nil | refine one_cons ?_ ?_ | exact (Ws.cells1 (by assumption)).2 | exact (Slc.cells1 (by assumption)).2))) (by repeat constructor) (by repeat constructor) ?_
    refine o_nil (then_c (c_ret (blk_r (then_r ?_))))
    refine retR rfl (.agg Try.isAgg43 Try.sizeOf43 rfl (by repeat constructor) rfl .nil) ?_
    refine leaf0 ⟨⟨⟨1 + t.op % 7, t.a % n, t.b % n, 0, false, [], []⟩, .slice none 0 0, .slice none 0 0⟩, rfl, ?_, Ws.nil _, Ws.nil _⟩
    unfold op14; rw [if_neg f1, if_pos f2]
   ·
    have f2 := h2
    try simp only [bl] at f2
    refine c_seq (c_region ?_)
    iterate 3 refine o_pv trivial rfl rfl ?_
    refine o_nil (then_c ?_)
    refine c_cond rfl (fun h3 => ?_) (fun h3 => ?_)
    ·
     have f3 := h3
     try simp only [bl] at f3
     refine c_seq (c_region ?_)
     refine o_pv trivial rfl rfl ?_
     refine o_buildS trivial rfl (bld43) rfl (.cons rfl rfl rfl (by repeat constructor) (.cons rfl rfl rfl (by repeat constructor) .nil)) ?_
     refine o_store trivial rfl rfl rfl Try.sizeOf43 rfl (by first | rfl | (repeat' (first | exact rfl | exact one_nil | refine one_cons ?_ ?_ | exact (Ws.cells1 (by assumption)).2 | exact (Slc.cells1 (by assumption)).2))) (by repeat constructor) (by repeat constructor) ?_
     refine o_nil (then_c (c_ret (blk_r (then_r ?_))))
     refine retR rfl (.agg Try.isAgg43 Try.sizeOf43 rfl (by repeat constructor) rfl .nil) ?_
     refine leaf0 ⟨⟨⟨6, t.a % n, 0, 0, false, [], []⟩, .slice none 0 0, .slice none 0 0⟩, rfl, ?_, Ws.nil _, Ws.nil _⟩
     unfold op14; rw [if_neg f1, if_neg (by omega), if_pos f3]
    ·
     have f3 := h3
     try simp only [bl] at f3
     refine c_skip (blk_n (then_c (c_seq (c_region ?_))))
     refine o_pv trivial rfl rfl ?_
     refine o_fieldAddr (T := 5) (off := 3) trivial rfl Try.underlying48 rfl rfl rfl Try.sizeOf5 rfl rfl ?_
     refine o_load1 trivial rfl Try.isAgg5 rfl (by repeat constructor) (by repeat constructor) ?_
     refine o_rem trivial rfl rfl rfl (by omega) ?_
     first | refine o_convIn trivial rfl Try.underlying5 Try.underlying3 rfl (by rw [IntWalk.i64_in _ (by omega)]) ?_ | refine o_conv trivial rfl Try.underlying5 Try.underlying3 rfl ?_
     first | (refine o_sub trivial rfl rfl rfl ?_ ?_; (omega)) | refine o_pv trivial rfl rfl ?_
     refine o_buildS trivial rfl (bld43) rfl (.cons rfl rfl rfl (by repeat constructor) (.cons rfl rfl rfl (by repeat constructor) (.cons rfl rfl rfl (by repeat constructor) .nil))) ?_
     refine o_store trivial rfl rfl rfl Try.sizeOf43 rfl (by first | rfl | (repeat' (first | exact rfl | exact one_nil | refine one_cons ?_ ?_ | exact (Ws.cells1 (by assumption)).2 | exact (Slc.cells1 (by assumption)).2))) (by repeat constructor) (by repeat constructor) ?_
     refine o_nil (then_c (c_ret ?_))
     refine retR rfl (.agg Try.isAgg43 Try.sizeOf43 rfl (by repeat constructor) rfl .nil) ?_
     refine leaf0 ⟨⟨⟨7, t.a % n, 0, t.n % 7 - 3, false, [], []⟩, .slice none 0 0, .slice none 0 0⟩, rfl, ?_, Ws.nil _, Ws.nil _⟩
     unfold op14; rw [if_neg f1, if_neg (by omega), if_neg f3]
end Go.Proofs.Ytjgbjaaekknenaa
/-
  What chapters 14 and 15's laws are handed, opened.
-/
namespace Go.Proofs.Ytjgbjaaekknenaa
open Go Go.Tw Go.ChangeShapes Go.WideShapes Go.ChangeAt
set_option linter.unusedVariables false
set_option linter.unusedSimpArgs false
set_option linter.unnecessarySimpa false
set_option maxHeartbeats 1000000
set_option maxRecDepth 100000
section
variable {base : Nat} {H : Type} {enc : TypeId × Value → H} {W : World} {v : Value} {cs : List Value} {d : DataW H} {ps : List MemPlace}
theorem cells_u8 : Try.prog.cellsOf 5 = 1 := by kernel_rfl
theorem cells_int : Try.prog.cellsOf 3 = 1 := by kernel_rfl
theorem cells_bool : Try.prog.cellsOf 4 = 1 := by kernel_rfl
theorem cells_u32 : Try.prog.cellsOf 58 = 1 := by kernel_rfl
theorem cells_u32s : Try.prog.cellsOf 38 = 1 := by kernel_rfl
theorem cells_rat : Try.prog.cellsOf 40 = 3 := by kernel_rfl
theorem cells_op : Try.prog.cellsOf 43 = 7 := by kernel_rfl
theorem cells_tape : Try.prog.cellsOf 29 = 3 := by kernel_rfl
theorem cells_ops : Try.prog.cellsOf 26 = 1 := by kernel_rfl
theorem cells_ints : Try.prog.cellsOf 27 = 1 := by kernel_rfl
theorem cells_turn : Try.prog.cellsOf 48 = 4 := by kernel_rfl
theorem cells_small : Try.prog.cellsOf 51 = 2 := by kernel_rfl
theorem cells_i8 : Try.prog.cellsOf 45 = 1 := by kernel_rfl
theorem four {l : List Value} (h : l.length = 4) : ∃ a b c d, l = [a, b, c, d] := by
  match l, h with
  | [a, b, c, d], _ => exact ⟨a, b, c, d, rfl⟩
theorem two {l : List Value} (h : l.length = 2) : ∃ a b, l = [a, b] := by
  match l, h with
  | [a, b], _ => exact ⟨a, b, rfl⟩
theorem three {l : List Value} (h : l.length = 3) : ∃ a b c, l = [a, b, c] := by
  match l, h with
  | [a, b, c], _ => exact ⟨a, b, c, rfl⟩
theorem seven {l : List Value} (h : l.length = 7) : ∃ a b c d e f g, l = [a, b, c, d, e, f, g] := by
  match l, h with
  | [a, b, c, d, e, f, g], _ => exact ⟨a, b, c, d, e, f, g, rfl⟩
theorem tr_words (h : Tr enc Try.prog W 38 [v]) : ∃ O, Ws (World.hp W) v O := by
  obtain ⟨xss, h1, h2⟩ := tr_rows Try.underlying38 cells_u32 (by decide) h
  obtain ⟨zs, rfl, h3⟩ := tr_ints (sz := 1) Try.underlying58 h1 h2
  refine ⟨zs.map Int.toNat, ⟨?_, fun x hx => ?_⟩⟩
  · have e : wcs (zs.map Int.toNat) = zs.map (fun z => [Value.int .u32 z]) := by
      unfold wcs
      rw [List.map_map]
      refine List.map_congr_left fun z hz => ?_
      have := bounds_u32 (h3 z hz)
      show [Value.int .u32 ((z.toNat : Nat) : Int)] = _
      rw [Int.toNat_of_nonneg this.1]
    rw [e]; exact h1
  · obtain ⟨z, hz, rfl⟩ := List.mem_map.1 hx
    have := bounds_u32 (h3 z hz)
    omega
theorem tr_rat (h : Tr enc Try.prog W 40 cs) : ∃ x : NV, cs = x.cells ∧ x.ok (World.hp W) := by
  obtain ⟨h1, h2⟩ := tr_struct Try.underlying40 h
  obtain ⟨a, b, c, rfl⟩ := three (by rw [h1]; exact cells_rat)
  have k0 := h2 0 _ rfl
  have k1 := h2 1 _ rfl
  have k2 := h2 2 _ rfl
  change Tr enc Try.prog W 4 (List.take (Try.prog.cellsOf 4) [a, b, c]) at k0
  change Tr enc Try.prog W 38 (List.take (Try.prog.cellsOf 38) [b, c]) at k1
  change Tr enc Try.prog W 38 (List.take (Try.prog.cellsOf 38) [c]) at k2
  rw [cells_bool] at k0
  rw [cells_u32s] at k1 k2
  obtain ⟨s, rfl⟩ := tr_bool Try.underlying4 k0
  obtain ⟨n, hn⟩ := tr_words k1
  obtain ⟨dd, hd⟩ := tr_words k2
  exact ⟨⟨s, n, dd, b, c⟩, rfl, hn, hd⟩
theorem tr_turn (h : Tr enc Try.prog W 48 cs) : ∃ x : TurnC, cs = x.cells ∧ x.ok := by
  obtain ⟨h1, h2⟩ := tr_struct Try.underlying48 h
  obtain ⟨a, b, c, d, rfl⟩ := four (by rw [h1]; exact cells_turn)
  have k0 := h2 0 _ rfl
  have k1 := h2 1 _ rfl
  have k2 := h2 2 _ rfl
  have k3 := h2 3 _ rfl
  change Tr enc Try.prog W 5 (List.take (Try.prog.cellsOf 5) [a, b, c, d]) at k0
  change Tr enc Try.prog W 5 (List.take (Try.prog.cellsOf 5) [b, c, d]) at k1
  change Tr enc Try.prog W 5 (List.take (Try.prog.cellsOf 5) [c, d]) at k2
  change Tr enc Try.prog W 5 (List.take (Try.prog.cellsOf 5) [d]) at k3
  rw [cells_u8] at k0 k1 k2 k3
  obtain ⟨z0, rfl, b0⟩ := tr_int Try.underlying5 k0
  obtain ⟨z1, rfl, b1⟩ := tr_int Try.underlying5 k1
  obtain ⟨z2, rfl, b2⟩ := tr_int Try.underlying5 k2
  obtain ⟨z3, rfl, b3⟩ := tr_int Try.underlying5 k3
  exact ⟨⟨z0, z1, z2, z3⟩, rfl, bounds_u8 b0, bounds_u8 b1, bounds_u8 b2, bounds_u8 b3⟩
theorem open_Tn (hval : Value.okWide Try.prog W .any base 23 v) (h : DataW.Trod enc Try.prog W 0 (fun _ => true) true 23 v d ps) : ∃ ts, TnV (World.hp W) v ts := by
  obtain ⟨xss, h1, h2⟩ := tr_rows (sz := 4) Try.underlying23 cells_turn (by decide) (tr_of_slice Try.underlying23 hval h)
  obtain ⟨ts, rfl, h3⟩ := rows_map (f := TurnC.cells) (p := TurnC.ok) fun c hc => tr_turn (h2 c hc)
  exact ⟨ts, h1, h3⟩
theorem tr_small (h : Tr enc Try.prog W 51 cs) : ∃ x : SmallC, cs = x.cells ∧ x.ok := by
  obtain ⟨h1, h2⟩ := tr_struct Try.underlying51 h
  obtain ⟨a, b, rfl⟩ := two (by rw [h1]; exact cells_small)
  have k0 := h2 0 _ rfl
  have k1 := h2 1 _ rfl
  change Tr enc Try.prog W 45 (List.take (Try.prog.cellsOf 45) [a, b]) at k0
  change Tr enc Try.prog W 5 (List.take (Try.prog.cellsOf 5) [b]) at k1
  rw [cells_i8] at k0
  rw [cells_u8] at k1
  obtain ⟨z0, rfl, b0⟩ := tr_int Try.underlying45 k0
  obtain ⟨z1, rfl, b1⟩ := tr_int Try.underlying5 k1
  exact ⟨⟨z0, z1⟩, rfl, bounds_i8 b0, bounds_u8 b1⟩
theorem open_Sm (hval : Value.okWide Try.prog W .any base 24 v) (h : DataW.Trod enc Try.prog W 0 (fun _ => true) true 24 v d ps) : ∃ ts, SmV (World.hp W) v ts := by
  obtain ⟨xss, h1, h2⟩ := tr_rows (sz := 2) Try.underlying24 cells_small (by decide) (tr_of_slice Try.underlying24 hval h)
  obtain ⟨ts, rfl, h3⟩ := rows_map (f := SmallC.cells) (p := SmallC.ok) fun c hc => tr_small (h2 c hc)
  exact ⟨ts, h1, h3⟩
theorem open_By (hval : Value.okWide Try.prog W .any base 22 v) (h : DataW.Trod enc Try.prog W 0 (fun _ => true) true 22 v d ps) : ∃ l, ByV (World.hp W) v l := by
  obtain ⟨xss, h1, h2⟩ := tr_rows (sz := 1) Try.underlying22 cells_u8 (by decide) (tr_of_slice Try.underlying22 hval h)
  obtain ⟨zs, rfl, h3⟩ := tr_ints (sz := 1) Try.underlying5 h1 h2
  exact ⟨zs, h1, fun z hz => bounds_u8 (h3 z hz)⟩
theorem open_Pt (hval : Value.okWide Try.prog W .any base 31 v) (h : DataW.Trod enc Try.prog W 0 (fun _ => true) true 31 v d ps) : ∃ xs, PtV (World.hp W) v xs := by
  obtain ⟨xss, h1, h2⟩ := tr_rows (sz := 3) Try.underlying31 cells_rat (by decide) (tr_of_slice Try.underlying31 hval h)
  obtain ⟨ts, rfl, h3⟩ := rows_map (f := NV.cells) (p := fun x => x.ok (World.hp W)) fun c hc => tr_rat (h2 c hc)
  exact ⟨ts, h1, h3⟩
theorem tr_op (h : Tr enc Try.prog W 43 cs) : ∃ o : OpV, cs = o.cells ∧ o.ok (World.hp W) := by
  obtain ⟨h1, h2⟩ := tr_struct Try.underlying43 h
  obtain ⟨a, b, c, d, e, f, g, rfl⟩ := seven (by rw [h1]; exact cells_op)
  have k0 := h2 0 _ rfl
  have k1 := h2 1 _ rfl
  have k2 := h2 2 _ rfl
  have k3 := h2 3 _ rfl
  have k4 := h2 4 _ rfl
  change Tr enc Try.prog W 3 (List.take (Try.prog.cellsOf 3) [a, b, c, d, e, f, g]) at k0
  change Tr enc Try.prog W 3 (List.take (Try.prog.cellsOf 3) [b, c, d, e, f, g]) at k1
  change Tr enc Try.prog W 3 (List.take (Try.prog.cellsOf 3) [c, d, e, f, g]) at k2
  change Tr enc Try.prog W 3 (List.take (Try.prog.cellsOf 3) [d, e, f, g]) at k3
  change Tr enc Try.prog W 40 (List.take (Try.prog.cellsOf 40) [e, f, g]) at k4
  rw [cells_int] at k0 k1 k2 k3
  rw [cells_rat] at k4
  obtain ⟨z0, rfl, b0⟩ := tr_int Try.underlying3 k0
  obtain ⟨z1, rfl, b1⟩ := tr_int Try.underlying3 k1
  obtain ⟨z2, rfl, b2⟩ := tr_int Try.underlying3 k2
  obtain ⟨z3, rfl, b3⟩ := tr_int Try.underlying3 k3
  obtain ⟨x, hx, hn, hd⟩ := tr_rat k4
  obtain ⟨rfl, h5⟩ := List.cons.inj hx
  obtain ⟨rfl, h6⟩ := List.cons.inj h5
  obtain ⟨rfl, _⟩ := List.cons.inj h6
  exact ⟨⟨⟨z0, z1, z2, z3, x.neg, x.n, x.d⟩, x.vn, x.vd⟩, rfl, hn, hd⟩
theorem open_Tp (hval : Value.okWide Try.prog W .any base 29 v) (h : DataW.Trod enc Try.prog W 0 (fun _ => true) true 29 v d ps) : ∃ (t : TapeC) (vo vu : Value) (os : List OpV), v = .agg #[.int .i64 t.ins, vo, vu] ∧ TapeV (World.hp W) vo vu t os := by
  obtain ⟨cs, rfl, hh⟩ := tr_of_struct Try.underlying29 hval h
  obtain ⟨h1, h2⟩ := tr_struct Try.underlying29 hh
  obtain ⟨a, b, c, rfl⟩ := three (by rw [h1]; exact cells_tape)
  have k0 := h2 0 _ rfl
  have k1 := h2 1 _ rfl
  have k2 := h2 2 _ rfl
  change Tr enc Try.prog W 3 (List.take (Try.prog.cellsOf 3) [a, b, c]) at k0
  change Tr enc Try.prog W 26 (List.take (Try.prog.cellsOf 26) [b, c]) at k1
  change Tr enc Try.prog W 27 (List.take (Try.prog.cellsOf 27) [c]) at k2
  rw [cells_int] at k0
  rw [cells_ops] at k1
  rw [cells_ints] at k2
  obtain ⟨z0, rfl, b0⟩ := tr_int Try.underlying3 k0
  obtain ⟨xss, s1, s2⟩ := tr_rows (sz := 7) Try.underlying26 cells_op (by decide) k1
  obtain ⟨os, rfl, s3⟩ := rows_map (f := OpV.cells) (p := fun x => x.ok (World.hp W)) fun c hc => tr_op (s2 c hc)
  obtain ⟨yss, u1, u2⟩ := tr_rows (sz := 1) Try.underlying27 cells_int (by decide) k2
  obtain ⟨zs, rfl, u3⟩ := tr_ints (sz := 1) Try.underlying3 u1 u2
  exact ⟨⟨z0, os.map OpV.c, zs⟩, b, c, os, rfl, s1, s3, rfl, u1⟩
end
end Go.Proofs.Ytjgbjaaekknenaa
/-
  A seat whose rows lay no tables: closed facts of the program's, and a world.
-/
namespace Go.Proofs.Ytjgbjaaekknenaa
open Go Go.Tw Go.Lib
set_option linter.unusedVariables false
set_option linter.unusedSimpArgs false
set_option linter.unnecessarySimpa false
set_option maxHeartbeats 1000000
theorem own : ownKnob Try.prog.godebug = none := by kernel_rfl
theorem laidOut : laidOutB Try.prog = true := by kernel_rfl
noncomputable def laidWorld (os : Os) : World := World.holding Try.prog os ⟨#[], #[], []⟩
end Go.Proofs.Ytjgbjaaekknenaa
/-
  The document's small tapes and points, further.
-/
namespace Go.Proofs.Ytjgbjaaekknenaa
open Go Go.Tw
set_option linter.unusedVariables false
set_option linter.unusedSimpArgs false
set_option linter.unnecessarySimpa false
set_option maxHeartbeats 1000000
theorem step14_heavy {t : TurnC} {l : List Nat} {m : Int} (ht : t.ok) (hl : Twelve l) (hm : ∀ k, wR (op14 t l.length) l = some k → m = k) (h : m > 12) : step14 t l = (constC (mkRat (IntKind.i8.wrap t.n) 1), 1) := by
  have e := hm _ (op14_R ht hl)
  unfold step14
  refine if_pos ?_
  split at e
  · omega
  · exact ⟨by assumption, by omega⟩
theorem step14_light {t : TurnC} {l : List Nat} {m : Int} (ht : t.ok) (hl : Twelve l) (hm : ∀ k, wR (op14 t l.length) l = some k → m = k) (h : m ≤ 12) : ∃ k : Nat, m = k ∧ step14 t l = (op14 t l.length, k) := by
  have e := hm _ (op14_R ht hl)
  refine ⟨_, e, ?_⟩
  unfold step14
  refine if_neg ?_
  rintro ⟨h1, h2⟩
  rw [if_neg h1] at e
  omega
theorem made14_app {ts : List TurnC} {l0 : List Nat} {i : Nat} {t : TurnC} {O : List OpC} {l : List Nat} {o : OpC} {m : Nat} (h : ts[i]? = some t) (hI : made14 ts l0 = (O ++ (made14 (ts.drop i) l).1, (made14 (ts.drop i) l).2)) (hs : step14 t l = (o, m)) :
    made14 ts l0 = ((O ++ [o]) ++ (made14 (ts.drop (i + 1)) (l ++ [m])).1, (made14 (ts.drop (i + 1)) (l ++ [m])).2) := by
  rw [hI, made14_drop h, hs]; simp
theorem ics_flat (l : List Int) : (ics l).flatten = l.map fun z => Value.int .i64 z := by
  induction l with
  | nil => rfl
  | cons x l ih => show [_] ++ (ics l).flatten = _; rw [ih]; rfl
theorem ics_more (l : List Int) (z : Int) : (ics l).flatten ++ [.int .i64 z] = (ics (l ++ [z])).flatten := by rw [ics_flat, ics_flat]; simp
theorem ics_one (l : List Int) : ∀ c ∈ ics l, c.length = 1 := by
  intro c hc
  obtain ⟨r, _, rfl⟩ := List.mem_map.1 hc
  rfl
theorem out14_take {outs : List Int} {i : Nat} {z : Int} (h : outs[i]? = some z) (n : Int) : (outs.take (i + 1)).map (fun z => n - 1 - z % n) = (outs.take i).map (fun z => n - 1 - z % n) ++ [n - 1 - z % n] := by
  rw [List.take_add_one, h, List.map_append]; rfl
theorem made_any (ins most : Int) (vouts vl : Value) (outs : List Int) (ts : List TurnC) {I : Hp} (hins : 0 ≤ ins ∧ ins ≤ 255) (ho : ByV I vouts outs) (hl : TnV I vl ts) (hm : most ≤ 12) (hol : outs.length ≤ 3) (htl : (ts.length : Int) ≤ most) :
    Fun Try.prog 5 [.int .u8 ins, vouts, vl, .int .i64 most] I [] (fun v I' _ => ∃ vo vu os, v = .agg #[.int .i64 (1 + ins % 3), vo, vu] ∧ TapeV I' vo vu (madeT ins outs ts) os) := by
  have hbl := bcs_len outs
  have hos := ho.s
  have hls := hl.s
  have htk : (ts.map TurnC.cells).length = ts.length := List.length_map _
  obtain ⟨q1, q2, q3, q4⟩ := made14_ok hl.ok (Twelve.ones (k := (1 + ins % 3).toNat) (by omega))
  intro w hw
  refine enter4 _ Try.func5 rfl Try.ntmps5 rfl ?_ hw
  refine c_seq (c_region ?_)
  refine o_alloc trivial rfl Try.zeroValue29 rfl (fun b8 => ?_)
  refine o_nil (then_c (c_seq (c_region ?_)))
  refine o_pv trivial rfl rfl ?_
  refine o_rem trivial rfl rfl rfl (by omega) ?_
  first | refine o_convIn trivial rfl Try.underlying5 Try.underlying3 rfl (by rw [IntWalk.i64_in _ (by omega)]) ?_ | refine o_conv trivial rfl Try.underlying5 Try.underlying3 rfl ?_
  first | (refine o_add trivial rfl rfl rfl ?_ ?_; (omega)) | refine o_pv trivial rfl rfl ?_
  refine o_buildS trivial rfl (bld29) rfl (.cons rfl rfl rfl (by repeat constructor) .nil) ?_
  refine o_alloc trivial rfl Try.zeroValue29 rfl (fun b9 => ?_)
  refine o_store trivial rfl rfl rfl Try.sizeOf29 rfl (by first | rfl | (repeat' (first | exact rfl | exact one_nil | refine one_cons ?_ ?_ | exact (Ws.cells1 (by assumption)).2 | exact (Slc.cells1 (by assumption)).2))) (by repeat constructor) (by repeat constructor) ?_
  refine o_nil (then_c (c_seq (c_region ?_)))
  refine o_pv trivial rfl rfl ?_
  refine o_nil (then_c (c_seq (c_seq (c_region ?_))))
  refine o_pv trivial rfl rfl ?_
  refine o_nil (then_c (c_block ?_))
  refine c_loop (ι := Nat × Value) [1, 2, 3, 8, 9] (.cons rfl (.cons rfl (.cons rfl (.cons rfl (.cons rfl .nil))))) (fun x => (1 + ins % 3).toNat - x.1) (fun x E0 => (10, x.2) :: (11, .int .i64 (x.1 : Int)) :: E0) (fun x => St w [] I [.row x.2 3 1 x.1 (nvs (List.replicate x.1 1)), .box b9 (.cells #[.int .i64 (1 + ins % 3), .slice none 0 0, .slice none 0 0] 29 (0, 0)), .box b8 (.cells #[.int .i64 0, .slice none 0 0, .slice none 0 0] 29 (0, 0))]) (fun x => x.1 ≤ (1 + ins % 3).toNat) ((0, .slice none 0 0)) (sub_cons rfl (sub_cons rfl (sub_cons rfl (sub_cons rfl (sub_cons rfl (sub_cons rfl (sub_cons rfl sub_nil))))))) (fun _ h => h.nilRow _ _) (Nat.zero_le _) ?_
  rintro ⟨i, u⟩ hi
  try dsimp only
  simp only at hi
  refine c_seq (c_seq (c_region ?_))
  refine o_pv trivial rfl rfl ?_
  refine o_fieldAddr (T := 3) (off := 0) trivial rfl Try.underlying29 rfl rfl rfl Try.sizeOf3 rfl rfl ?_
  refine o_load1 trivial rfl Try.isAgg3 rfl (by repeat constructor) (by repeat constructor) ?_
  refine o_pv trivial rfl rfl ?_
  refine o_nil (then_c ?_)
  refine c_cond rfl (fun h1 => ?_) (fun h1 => ?_)
  ·
   have f1 := h1
   try simp only [bl] at f1
   refine c_skip (then_c (c_seq (c_block (c_region ?_))))
   refine o_pv trivial rfl rfl ?_
   refine o_buildSl trivial rfl Try.underlying27 Try.sizeOf3 Try.zeroValue3 (by decide) (by decide) rfl (by repeat first | exact rfl | constructor) rfl (fun b28 => ?_)
   refine o_appendBox trivial rfl Try.underlying27 (elem3) (by decide) rfl rfl (fun v' => (by repeat constructor)) (by repeat constructor) rfl (by first | rfl | decide) (by first | omega | (unfold maxLen; omega)) (by omega) (fun v29 => ?_)
   refine o_pv trivial rfl rfl ?_
   refine o_nil (blk_n (then_c (c_region ?_)))
   refine o_pv trivial rfl rfl ?_
   first | (refine o_add trivial rfl rfl rfl ?_ ?_; (omega)) | refine o_pv trivial rfl rfl ?_
   refine o_pv trivial rfl rfl ?_
   refine o_nil ?_
   exact again (i + 1, v29) (sub_cons rfl (sub_cons rfl (sub_cons rfl (sub_cons rfl (sub_cons rfl (sub_cons rfl (sub_cons rfl sub_nil))))))) (fun _ h => by rw [← nvs_ones]; exact h.sort (by repeat constructor)) (by show (1 + ins % 3).toNat - (i + 1) < (1 + ins % 3).toNat - i; omega) (by show i + 1 ≤ _; omega)
  ·
   have f1 := h1
   try simp only [bl] at f1
   refine c_exit (then_x (then_x (blk_eq rfl (then_c (c_seq (c_seq ?_))))))
   have hin : i = (1 + ins % 3).toNat := by omega
   subst hin
   refine c_region ?_
   refine o_pv trivial rfl rfl ?_
   refine o_nil (then_c (c_block ?_))
   refine c_loop (ι := Nat × List OpV × List Nat × Value × Value × Hp) [1, 2, 3, 8, 9] (.cons rfl (.cons rfl (.cons rfl (.cons rfl (.cons rfl .nil))))) (fun x => ts.length - x.1) (fun x E0 => (10, x.2.2.2.2.1) :: (12, .int .i64 (x.1 : Int)) :: E0) (fun x => St w [] x.2.2.2.2.2 [.row x.2.2.2.1 43 7 x.2.1.length (ocs x.2.1).flatten, .row x.2.2.2.2.1 3 1 x.2.2.1.length (nvs x.2.2.1), .box b9 (.cells #[.int .i64 (1 + ins % 3), x.2.2.2.1, .slice none 0 0] 29 (0, 0)), .box b8 (.cells #[.int .i64 0, .slice none 0 0, .slice none 0 0] 29 (0, 0))]) (fun x => x.1 ≤ ts.length ∧ x.2.1.length = x.1 ∧ (∀ o ∈ x.2.1, o.ok x.2.2.2.2.2) ∧ Twelve x.2.2.1 ∧ x.2.2.1.length = (1 + ins % 3).toNat + x.1 ∧ made14 ts (List.replicate (1 + ins % 3).toNat 1) = (x.2.1.map OpV.c ++ (made14 (ts.drop x.1) x.2.2.1).1, (made14 (ts.drop x.1) x.2.2.1).2) ∧ Ext w.heap.size I x.2.2.2.2.2) ((0, [], List.replicate (1 + ins % 3).toNat 1, .slice none 0 0, u, I)) (sub_cons rfl (sub_cons rfl (sub_cons rfl (sub_cons rfl (sub_cons rfl (sub_cons rfl (sub_cons rfl sub_nil))))))) (fun _ h => by rw [List.length_replicate]; exact (h.nilRow 43 7).sort (by repeat constructor)) (⟨Nat.zero_le _, rfl, fun o ho => (by cases ho), Twelve.ones (by omega), by rw [List.length_replicate]; rfl, rfl, Ext.refl _ _⟩) ?_
   rintro ⟨i, os, l, uo, uw, I1⟩ ⟨hi, hosl, hok, hT, hll, hM, hx1⟩
   try dsimp only
   simp only at hi hosl hok hT hll hM hx1; have hlp := hT.some_
   refine c_seq (c_seq (c_region ?_))
   iterate 2 refine o_pv trivial rfl rfl ?_
   refine o_lenSlc trivial rfl Try.underlying23 rfl (hls) ?_
   refine o_pv trivial rfl rfl ?_
   refine' o_and trivial trivial rfl rfl rfl rfl rfl rfl rfl rfl (fun hb34 => ?_) ?_
   rotate_left
   ·
    iterate 3 refine o_pv (wants_some rfl rfl hb34) rfl rfl ?_
    refine o_nil ?_
    exact joins rfl
   refine o_nil (then_c ?_)
   refine c_cond rfl (fun h2 => ?_) (fun h2 => ?_)
   ·
    have f2 := h2
    try simp only [bl] at f2
    obtain ⟨t, ht⟩ : ∃ t, ts[i]? = some t := ⟨ts[i], List.getElem?_eq_getElem (by omega)⟩
    have hto := hl.ok t (List.mem_of_getElem? ht)
    refine c_skip (then_c (c_seq (c_block (c_seq (c_region ?_)))))
    iterate 2 refine o_pv trivial rfl rfl ?_
    refine o_elem trivial rfl Try.underlying23 Try.sizeOf48 rfl (hls.le hx1.le) rfl (by omega) ?_
    refine o_loadAI trivial rfl Try.isAgg48 Try.sizeOf48 rfl rfl ((hl.le hx1.le).at_ ht) ?_
    refine o_pv trivial rfl rfl ?_
    refine o_lenRow trivial rfl Try.underlying27 rfl (by repeat constructor) ?_
    refine o_callI trivial rfl Try.call12 rfl (op14_any t l.length hto (by omega)) ?_
    rintro _ I2 hx2 ⟨o, rfl, hoc, hon, hod⟩
    refine o_alloc trivial rfl Try.zeroValue43 rfl (fun b13 => ?_)
    refine o_store trivial rfl rfl rfl Try.sizeOf43 rfl (by first | rfl | (repeat' (first | exact rfl | exact one_nil | refine one_cons ?_ ?_ | exact (Ws.cells1 (by assumption)).2 | exact (Slc.cells1 (by assumption)).2))) (by repeat constructor) (by repeat constructor) ?_
    refine o_nil (then_c (c_seq (c_region ?_)))
    refine o_loadA trivial rfl Try.isAgg43 Try.sizeOf43 rfl (by repeat constructor) (by repeat constructor) ?_
    refine o_pv trivial rfl rfl ?_
    refine o_callK trivial rfl Try.call13 rfl (weightR_any o.c.code o.c.a o.c.b o.c.e o.c.neg o.vn o.vd uw o.c.n o.c.d l hon hod (by rw [hoc]; exact op14_few.1) (by rw [hoc]; exact op14_few.2) (by omega) hT.le) (by repeat constructor) ?_
    rintro _ _ _ hx3 ⟨rfl, rfl, m, rfl, hm1, hm2⟩
    refine o_pv trivial rfl rfl ?_
    refine o_nil (then_c (c_seq (c_seq ?_)))
    have hm3 : ∀ k, wR (op14 t l.length) l = some k → m = k := by rw [← hoc]; exact hm1
    refine c_region ?_
    iterate 2 refine o_pv trivial rfl rfl ?_
    refine o_nil (then_c ?_)
    refine c_cond rfl (fun h3 => ?_) (fun h3 => ?_)
    ·
     have f3 := h3
     try simp only [bl] at f3
     have hst := step14_heavy hto hT hm3 f3
     refine c_seq (c_region ?_)
     iterate 2 refine o_pv trivial rfl rfl ?_
     refine o_elem trivial rfl Try.underlying23 Try.sizeOf48 rfl (hls.le (hx1.le.trans (hx2.le.trans hx3.le))) rfl (by omega) ?_
     refine o_fieldAddr (T := 5) (off := 3) trivial rfl Try.underlying48 rfl rfl rfl Try.sizeOf5 rfl rfl ?_
     refine o_load1I trivial rfl Try.isAgg5 rfl ((hl.le (hx1.le.trans (hx2.le.trans hx3.le))).at_ ht 3 _ rfl) ?_
     refine o_conv trivial rfl Try.underlying5 Try.underlying45 rfl ?_
     refine o_callI trivial rfl Try.call10 rfl (rSmall8_any (IntKind.i8.wrap t.n) 0 (i8_wrap _) (by decide)) ?_
     rintro _ I4 hx4 ⟨u1, u2, rfl, k1, k2⟩
     refine o_buildS trivial rfl (bld43) rfl (.cons rfl rfl rfl (by repeat constructor) (.cons rfl rfl rfl (by repeat constructor) .nil)) ?_
     refine o_store trivial rfl rfl rfl Try.sizeOf43 rfl (by first | rfl | (repeat' (first | exact rfl | exact one_nil | refine one_cons ?_ ?_ | exact (Ws.cells1 (by assumption)).2 | exact (Slc.cells1 (by assumption)).2))) (by repeat constructor) (by repeat constructor) ?_
     refine o_nil (then_c (c_region ?_))
     refine o_pv trivial rfl rfl ?_
     refine o_nil (then_c (c_seq (c_region ?_)))
     refine o_fieldAddr (T := 26) (off := 1) trivial rfl Try.underlying29 rfl rfl rfl Try.sizeOf26 rfl rfl ?_
     refine o_load1 trivial rfl Try.isAgg26 rfl (by repeat constructor) (by repeat constructor) ?_
     refine o_loadA trivial rfl Try.isAgg43 Try.sizeOf43 rfl (by repeat constructor) (by repeat constructor) ?_
     refine o_buildSl trivial rfl Try.underlying26 Try.sizeOf43 Try.zeroValue43 (by decide) (by decide) rfl (by repeat first | exact rfl | constructor) rfl (fun b64 => ?_)
     refine o_appendBox trivial rfl Try.underlying26 (elem43) (by decide) rfl rfl (fun v' => (by repeat constructor)) (by repeat constructor) rfl (by first | exact seven_plain k1 k2 | exact seven_plain hon hod) (by first | omega | (unfold maxLen; omega)) (by omega) (fun v65 => ?_)
     refine o_fieldAddr (T := 26) (off := 1) trivial rfl Try.underlying29 rfl rfl rfl Try.sizeOf26 rfl rfl ?_
     refine l_rowCells (u := v65) (by repeat constructor) (fun hcv => ?_)
     refine o_storeBox1 trivial rfl rfl (hcv).1 Try.sizeOf26 (hcv).2 (by repeat constructor) (by exact Nat.le_of_ble_eq_true rfl) ?_
     refine o_nil (then_c (c_region ?_))
     iterate 2 refine o_pv trivial rfl rfl ?_
     refine o_buildSl trivial rfl Try.underlying27 Try.sizeOf3 Try.zeroValue3 (by decide) (by decide) rfl (by repeat first | exact rfl | constructor) rfl (fun b69 => ?_)
     refine o_appendBox trivial rfl Try.underlying27 (elem3) (by decide) rfl rfl (fun v' => (by repeat constructor)) (by repeat constructor) rfl (by first | rfl | decide) (by first | omega | (unfold maxLen; omega)) (by omega) (fun v70 => ?_)
     refine o_pv trivial rfl rfl ?_
     refine o_nil (blk_n (then_c (c_region ?_)))
     refine o_pv trivial rfl rfl ?_
     first | (refine o_add trivial rfl rfl rfl ?_ ?_; (omega)) | refine o_pv trivial rfl rfl ?_
     refine o_pv trivial rfl rfl ?_
     refine o_nil ?_
     first
     | exact again (i + 1, os ++ [⟨constC (mkRat (IntKind.i8.wrap t.n) 1), u1, u2⟩], l ++ [1], v65, v70, I4) (sub_cons rfl (sub_cons rfl (sub_cons rfl (sub_cons rfl (sub_cons rfl (sub_cons rfl (sub_cons rfl sub_nil))))))) (fun _ h => by rw [← nvs_more, ← ocs_more, List.length_append, List.length_append]; exact h.sort (by repeat constructor)) (by show ts.length - (i + 1) < ts.length - i; omega) ⟨by show i + 1 ≤ _; omega, by simp only [List.length_append, List.length_cons, List.length_nil]; omega, fun x hx => by
         rcases List.mem_append.1 hx with hx | hx
         · exact (hok x hx).le (hx2.le.trans (hx3.le.trans hx4.le))
         · rw [List.mem_singleton.1 hx]; exact ⟨k1, k2⟩, hT.more (by omega), by simp only [List.length_append, List.length_cons, List.length_nil]; omega, by rw [List.map_append]; exact made14_app ht hM hst, hx1.trans (hx2.trans (hx3.trans hx4 (Nat.le_refl _)) (Nat.le_refl _)) (Nat.le_refl _)⟩
     | (have h12 := (step14_ok hto hT).2.2
        rw [hst] at h12
        exact again (i + 1, os ++ [o], l ++ [k], v65, v70, _) (sub_cons rfl (sub_cons rfl (sub_cons rfl (sub_cons rfl (sub_cons rfl (sub_cons rfl (sub_cons rfl sub_nil))))))) (fun _ h => by rw [← nvs_more, ← ocs_more, List.length_append, List.length_append]; exact h.sort (by repeat constructor)) (by show ts.length - (i + 1) < ts.length - i; omega) ⟨by show i + 1 ≤ _; omega, by simp only [List.length_append, List.length_cons, List.length_nil]; omega, fun x hx => by
         rcases List.mem_append.1 hx with hx | hx
         · exact (hok x hx).le (hx2.le.trans hx3.le)
         · rw [List.mem_singleton.1 hx]; exact ⟨hon.le hx3.le, hod.le hx3.le⟩, hT.more h12, by simp only [List.length_append, List.length_cons, List.length_nil]; omega, by rw [List.map_append]; exact made14_app ht hM hst2, hx1.trans (hx2.trans hx3 (Nat.le_refl _)) (Nat.le_refl _)⟩)
    ·
     have f3 := h3
     try simp only [bl] at f3
     obtain ⟨k, rfl, hst⟩ := step14_light hto hT hm3 (by omega)
     have hst2 : step14 t l = (o.c, k) := by rw [hst, hoc]
     refine c_skip (then_c (c_seq (c_region ?_)))
     refine o_fieldAddr (T := 26) (off := 1) trivial rfl Try.underlying29 rfl rfl rfl Try.sizeOf26 rfl rfl ?_
     refine o_load1 trivial rfl Try.isAgg26 rfl (by repeat constructor) (by repeat constructor) ?_
     refine o_loadA trivial rfl Try.isAgg43 Try.sizeOf43 rfl (by repeat constructor) (by repeat constructor) ?_
     refine o_buildSl trivial rfl Try.underlying26 Try.sizeOf43 Try.zeroValue43 (by decide) (by decide) rfl (by repeat first | exact rfl | constructor) rfl (fun b64 => ?_)
     refine o_appendBox trivial rfl Try.underlying26 (elem43) (by decide) rfl rfl (fun v' => (by repeat constructor)) (by repeat constructor) rfl (by first | exact seven_plain k1 k2 | exact seven_plain hon hod) (by first | omega | (unfold maxLen; omega)) (by omega) (fun v65 => ?_)
     refine o_fieldAddr (T := 26) (off := 1) trivial rfl Try.underlying29 rfl rfl rfl Try.sizeOf26 rfl rfl ?_
     refine l_rowCells (u := v65) (by repeat constructor) (fun hcv => ?_)
     refine o_storeBox1 trivial rfl rfl (hcv).1 Try.sizeOf26 (hcv).2 (by repeat constructor) (by exact Nat.le_of_ble_eq_true rfl) ?_
     refine o_nil (then_c (c_region ?_))
     iterate 2 refine o_pv trivial rfl rfl ?_
     refine o_buildSl trivial rfl Try.underlying27 Try.sizeOf3 Try.zeroValue3 (by decide) (by decide) rfl (by repeat first | exact rfl | constructor) rfl (fun b69 => ?_)
     refine o_appendBox trivial rfl Try.underlying27 (elem3) (by decide) rfl rfl (fun v' => (by repeat constructor)) (by repeat constructor) rfl (by first | rfl | decide) (by first | omega | (unfold maxLen; omega)) (by omega) (fun v70 => ?_)
     refine o_pv trivial rfl rfl ?_
     refine o_nil (blk_n (then_c (c_region ?_)))
     refine o_pv trivial rfl rfl ?_
     first | (refine o_add trivial rfl rfl rfl ?_ ?_; (omega)) | refine o_pv trivial rfl rfl ?_
     refine o_pv trivial rfl rfl ?_
     refine o_nil ?_
     first
     | exact again (i + 1, os ++ [⟨constC (mkRat (IntKind.i8.wrap t.n) 1), u1, u2⟩], l ++ [1], v65, v70, I4) (sub_cons rfl (sub_cons rfl (sub_cons rfl (sub_cons rfl (sub_cons rfl (sub_cons rfl (sub_cons rfl sub_nil))))))) (fun _ h => by rw [← nvs_more, ← ocs_more, List.length_append, List.length_append]; exact h.sort (by repeat constructor)) (by show ts.length - (i + 1) < ts.length - i; omega) ⟨by show i + 1 ≤ _; omega, by simp only [List.length_append, List.length_cons, List.length_nil]; omega, fun x hx => by
         rcases List.mem_append.1 hx with hx | hx
         · exact (hok x hx).le (hx2.le.trans (hx3.le.trans hx4.le))
         · rw [List.mem_singleton.1 hx]; exact ⟨k1, k2⟩, hT.more (by omega), by simp only [List.length_append, List.length_cons, List.length_nil]; omega, by rw [List.map_append]; exact made14_app ht hM hst, hx1.trans (hx2.trans (hx3.trans hx4 (Nat.le_refl _)) (Nat.le_refl _)) (Nat.le_refl _)⟩
     | (have h12 := (step14_ok hto hT).2.2
        rw [hst] at h12
        exact again (i + 1, os ++ [o], l ++ [k], v65, v70, _) (sub_cons rfl (sub_cons rfl (sub_cons rfl (sub_cons rfl (sub_cons rfl (sub_cons rfl (sub_cons rfl sub_nil))))))) (fun _ h => by rw [← nvs_more, ← ocs_more, List.length_append, List.length_append]; exact h.sort (by repeat constructor)) (by show ts.length - (i + 1) < ts.length - i; omega) ⟨by show i + 1 ≤ _; omega, by simp only [List.length_append, List.length_cons, List.length_nil]; omega, fun x hx => by
         rcases List.mem_append.1 hx with hx | hx
         · exact (hok x hx).le (hx2.le.trans hx3.le)
         · rw [List.mem_singleton.1 hx]; exact ⟨hon.le hx3.le, hod.le hx3.le⟩, hT.more h12, by simp only [List.length_append, List.length_cons, List.length_nil]; omega, by rw [List.map_append]; exact made14_app ht hM hst2, hx1.trans (hx2.trans hx3 (Nat.le_refl _)) (Nat.le_refl _)⟩)
   ·
    have f2 := h2
    try simp only [bl] at f2
    refine c_exit (then_x (then_x (blk_eq rfl (then_c (c_seq (c_seq ?_))))))
    have hin : i = ts.length := by omega
    subst hin
    rw [List.drop_length] at hM
    have hM1 : (made14 ts (List.replicate (1 + ins % 3).toNat 1)).1 = os.map OpV.c := by rw [hM]; simp [made14]
    have hM2 : (made14 ts (List.replicate (1 + ins % 3).toNat 1)).2 = l := by rw [hM]; rfl
    refine c_region ?_
    refine o_pv trivial rfl rfl ?_
    refine o_nil (then_c (c_block ?_))
    refine c_loop (ι := Nat × Value) [1, 8, 9, 10] (.cons rfl (.cons rfl (.cons rfl (.cons rfl .nil)))) (fun x => outs.length - x.1) (fun x E0 => (15, .int .i64 (x.1 : Int)) :: E0) (fun x => St w [] I1 [.row x.2 3 1 x.1 (ics ((outs.take x.1).map fun z => ((l.length : Nat) : Int) - 1 - z % ((l.length : Nat) : Int))).flatten, .row uo 43 7 os.length (ocs os).flatten, .row uw 3 1 l.length (nvs l), .box b9 (.cells #[.int .i64 (1 + ins % 3), uo, x.2] 29 (0, 0)), .box b8 (.cells #[.int .i64 0, .slice none 0 0, .slice none 0 0] 29 (0, 0))]) (fun x => x.1 ≤ outs.length) ((0, .slice none 0 0)) (sub_cons rfl (sub_cons rfl (sub_cons rfl (sub_cons rfl (sub_cons rfl sub_nil))))) (fun _ h => (h.nilRow 3 1).sort (by repeat constructor)) (Nat.zero_le _) ?_
    rintro ⟨j, uu⟩ hj
    try dsimp only
    simp only at hj; have hlp := hT.some_
    refine c_seq (c_seq (c_region ?_))
    iterate 2 refine o_pv trivial rfl rfl ?_
    refine o_lenSlc trivial rfl Try.underlying22 rfl (hos.le hx1.le) ?_
    refine o_pv trivial rfl rfl ?_
    refine' o_and trivial trivial rfl rfl rfl rfl rfl rfl rfl rfl (fun hb75 => ?_) ?_
    rotate_left
    ·
     iterate 2 refine o_pv (wants_some rfl rfl hb75) rfl rfl ?_
     refine o_nil ?_
     exact joins rfl
    refine o_nil (then_c ?_)
    refine c_cond rfl (fun h4 => ?_) (fun h4 => ?_)
    ·
     have f4 := h4
     try simp only [bl] at f4
     obtain ⟨z, hz⟩ : ∃ z, outs[j]? = some z := ⟨outs[j], List.getElem?_eq_getElem (by omega)⟩
     have hzo := ho.ok z (List.mem_of_getElem? hz)
     have hmz := mod_in (a := z) hlp
     refine c_skip (then_c (c_seq (c_block ?_)))
     refine h_beginB (m := 18) [.row uw 3 1 l.length (nvs l)] (by repeat constructor) (by kernel_rfl) rfl ?_
     refine' h_take (i := 0) #[true, false, false, false, false, false, false, false, false, false, false, false, false, false, false, false, false, false] rfl rfl rfl (by kernel_rfl) (by kernel_rfl) (by kernel_rfl) rfl (qp_blk (qp_then (qp_then (qp_blk (qp_then qp_bp))))) (fun _ h => (h.sort (by repeat constructor)).fewer (Hp.Le.refl _)) ?hh0 ?kk0
     case hh0 =>
      refine o_fieldAddr (T := 27) (off := 2) trivial rfl Try.underlying29 rfl rfl rfl Try.sizeOf27 rfl rfl ?_
      refine o_nil ?_
      exact ⟨fun _ _ ha _ => ha⟩
     refine' h_take (i := 2) #[true, false, true, false, false, false, false, false, false, false, false, false, false, false, false, false, false, false] rfl rfl rfl (by kernel_rfl) (by kernel_rfl) (by kernel_rfl) rfl (qp_blk (qp_then (qp_then (qp_blk (qp_then qp_bp))))) (fun _ h => (h.sort (by repeat constructor)).fewer (Hp.Le.refl _)) ?hh1 ?kk1
     case hh1 =>
      refine o_pv trivial rfl rfl ?_
      refine o_nil ?_
      exact ⟨fun _ _ ha _ => ha⟩
     refine' h_take (i := 3) #[true, false, true, true, false, false, false, false, false, false, false, false, false, false, false, false, false, false] rfl rfl rfl (by kernel_rfl) (by kernel_rfl) (by kernel_rfl) rfl (qp_blk (qp_then (qp_then (qp_blk (qp_then qp_bp))))) (fun _ h => (h.sort (by repeat constructor)).fewer (Hp.Le.refl _)) ?hh2 ?kk2
     case hh2 =>
      refine o_lenRow trivial rfl Try.underlying27 rfl (by repeat constructor) ?_
      refine o_nil ?_
      exact ⟨fun _ _ ha _ => ha⟩
     refine' h_take (i := 4) #[true, false, true, true, true, false, false, false, false, false, false, false, false, false, false, false, false, false] rfl rfl rfl (by kernel_rfl) (by kernel_rfl) (by kernel_rfl) rfl (qp_blk (qp_then (qp_then (qp_blk (qp_then qp_bp))))) (fun _ h => (h.sort (by repeat constructor)).fewer (Hp.Le.refl _)) ?hh3 ?kk3
     case hh3 =>
      first | (refine o_sub trivial rfl rfl rfl ?_ ?_; (omega)) | refine o_pv trivial rfl rfl ?_
      refine o_nil ?_
      exact ⟨fun _ _ ha _ => ha⟩
     refine' h_take (i := 5) #[true, false, true, true, true, true, false, false, false, false, false, false, false, false, false, false, false, false] rfl rfl rfl (by kernel_rfl) (by kernel_rfl) (by kernel_rfl) rfl (qp_blk (qp_then (qp_then (qp_blk (qp_then qp_bp))))) (fun _ h => (h.sort (by repeat constructor)).fewer (Hp.Le.refl _)) ?hh4 ?kk4
     case hh4 =>
      refine o_pv trivial rfl rfl ?_
      refine o_nil ?_
      exact ⟨fun _ _ ha _ => ha⟩
     refine' h_take (i := 6) #[true, false, true, true, true, true, true, false, false, false, false, false, false, false, false, false, false, false] rfl rfl rfl (by kernel_rfl) (by kernel_rfl) (by kernel_rfl) rfl (qp_blk (qp_then (qp_then (qp_blk (qp_then qp_bp))))) (fun _ h => (h.sort (by repeat constructor)).fewer (Hp.Le.refl _)) ?hh5 ?kk5
     case hh5 =>
      refine o_pv trivial rfl rfl ?_
      refine o_nil ?_
      exact ⟨fun _ _ ha _ => ha⟩
     refine' h_take (i := 7) #[true, false, true, true, true, true, true, true, false, false, false, false, false, false, false, false, false, false] rfl rfl rfl (by kernel_rfl) (by kernel_rfl) (by kernel_rfl) rfl (qp_blk (qp_then (qp_then (qp_blk (qp_then qp_bp))))) (fun _ h => (h.sort (by repeat constructor)).fewer (Hp.Le.refl _)) ?hh6 ?kk6
     case hh6 =>
      refine o_elem trivial rfl Try.underlying22 Try.sizeOf5 rfl (hos.le hx1.le) rfl (by omega) ?_
      refine o_nil ?_
      exact ⟨fun _ _ ha _ => ha⟩
     refine' h_take (i := 8) #[true, false, true, true, true, true, true, true, true, false, false, false, false, false, false, false, false, false] rfl rfl rfl (by kernel_rfl) (by kernel_rfl) (by kernel_rfl) rfl (qp_blk (qp_then (qp_then (qp_blk (qp_then qp_bp))))) (fun _ h => (h.sort (by repeat constructor)).fewer (Hp.Le.refl _)) ?hh7 ?kk7
     case hh7 =>
      refine o_load1I trivial rfl Try.isAgg5 rfl ((ho.le hx1.le).at_ hz) ?_
      refine o_nil ?_
      exact ⟨fun _ _ ha _ => ha⟩
     refine' h_take (i := 9) #[true, false, true, true, true, true, true, true, true, true, false, false, false, false, false, false, false, false] rfl rfl rfl (by kernel_rfl) (by kernel_rfl) (by kernel_rfl) rfl (qp_blk (qp_then (qp_then (qp_blk (qp_then qp_bp))))) (fun _ h => (h.sort (by repeat constructor)).fewer (Hp.Le.refl _)) ?hh8 ?kk8
     case hh8 =>
      first | refine o_convIn trivial rfl Try.underlying5 Try.underlying3 rfl (by rw [IntWalk.i64_in _ (by omega)]) ?_ | refine o_conv trivial rfl Try.underlying5 Try.underlying3 rfl ?_
      refine o_nil ?_
      exact ⟨fun _ _ ha _ => ha⟩
     refine' h_take (i := 10) #[true, false, true, true, true, true, true, true, true, true, true, false, false, false, false, false, false, false] rfl rfl rfl (by kernel_rfl) (by kernel_rfl) (by kernel_rfl) rfl (qp_blk (qp_then (qp_then (qp_blk (qp_then qp_bp))))) (fun _ h => (h.sort (by repeat constructor)).fewer (Hp.Le.refl _)) ?hh9 ?kk9
     case hh9 =>
      refine o_pv trivial rfl rfl ?_
      refine o_nil ?_
      exact ⟨fun _ _ ha _ => ha⟩
     refine' h_take (i := 11) #[true, false, true, true, true, true, true, true, true, true, true, true, false, false, false, false, false, false] rfl rfl rfl (by kernel_rfl) (by kernel_rfl) (by kernel_rfl) rfl (qp_blk (qp_then (qp_then (qp_blk (qp_then qp_bp))))) (fun _ h => (h.sort (by repeat constructor)).fewer (Hp.Le.refl _)) ?hh10 ?kk10
     case hh10 =>
      refine o_lenRow trivial rfl Try.underlying27 rfl (by repeat constructor) ?_
      refine o_nil ?_
      exact ⟨fun _ _ ha _ => ha⟩
     refine' h_take (i := 12) #[true, false, true, true, true, true, true, true, true, true, true, true, true, false, false, false, false, false] rfl rfl rfl (by kernel_rfl) (by kernel_rfl) (by kernel_rfl) rfl (qp_blk (qp_then (qp_then (qp_blk (qp_then qp_bp))))) (fun _ h => (h.sort (by repeat constructor)).fewer (Hp.Le.refl _)) ?hh11 ?kk11
     case hh11 =>
      refine o_rem trivial rfl rfl rfl (by omega) ?_
      refine o_nil ?_
      exact ⟨fun _ _ ha _ => ha⟩
     refine' h_take (i := 13) #[true, false, true, true, true, true, true, true, true, true, true, true, true, true, false, false, false, false] rfl rfl rfl (by kernel_rfl) (by kernel_rfl) (by kernel_rfl) rfl (qp_blk (qp_then (qp_then (qp_blk (qp_then qp_bp))))) (fun _ h => (h.sort (by repeat constructor)).fewer (Hp.Le.refl _)) ?hh12 ?kk12
     case hh12 =>
      first | (refine o_sub trivial rfl rfl rfl ?_ ?_; (omega)) | refine o_pv trivial rfl rfl ?_
      refine o_nil ?_
      exact ⟨fun _ _ ha _ => ha⟩
     refine h_go [1, 14] (by kernel_rfl) rfl (TWHs.cons ?_ (TWHs.cons ?_ TWHs.nil))
     ·
      refine h_op #[true, true, true, true, true, true, true, true, true, true, true, true, true, true, false, false, false, false] rfl rfl ?_
      refine o_load1 trivial rfl Try.isAgg27 rfl (by repeat constructor) (by repeat constructor) ?_
      refine o_nil ?_
      refine h_next (fun _ h => (h.sort (by repeat constructor)).fewer (Hp.Le.refl _)) ?_
      refine h_go [14] (by kernel_rfl) rfl (TWHs.cons ?_ TWHs.nil)
      refine h_op #[true, true, true, true, true, true, true, true, true, true, true, true, true, true, true, false, false, false] rfl rfl ?_
      refine o_buildSl trivial rfl Try.underlying27 Try.sizeOf3 Try.zeroValue3 (by decide) (by decide) rfl (by repeat first | exact rfl | constructor) rfl (fun b95 => ?_)
      refine o_nil ?_
      refine h_next (fun _ h => (h.sort (by repeat constructor)).fewer (Hp.Le.refl _)) ?_
      refine h_go [15] (by kernel_rfl) rfl (TWHs.cons ?_ TWHs.nil)
      refine h_op #[true, true, true, true, true, true, true, true, true, true, true, true, true, true, true, true, false, false] rfl rfl ?_
      refine o_appendBox trivial rfl Try.underlying27 (elem3) (by decide) rfl rfl (fun v' => (by repeat constructor)) (by repeat constructor) rfl (by first | rfl | decide) (by first | omega | (unfold maxLen; omega)) (by omega) (fun v96 => ?_)
      refine o_nil ?_
      refine h_next (fun _ h => (h.sort (by repeat constructor)).fewer (Hp.Le.refl _)) ?_
      refine' h_take (i := 16) #[true, true, true, true, true, true, true, true, true, true, true, true, true, true, true, true, true, false] rfl rfl rfl (by kernel_rfl) (by kernel_rfl) (by kernel_rfl) rfl (qp_blk (qp_then (qp_then (qp_blk (qp_then qp_bp))))) (fun _ h => (h.sort (by repeat constructor)).fewer (Hp.Le.refl _)) ?hh13 ?kk13
      case hh13 =>
       refine o_fieldAddr (T := 27) (off := 2) trivial rfl Try.underlying29 rfl rfl rfl Try.sizeOf27 rfl rfl ?_
       refine o_nil ?_
       exact ⟨fun _ _ ha _ => ha⟩
      refine h_go [17] (by kernel_rfl) rfl (TWHs.cons ?_ TWHs.nil)
      refine h_op #[true, true, true, true, true, true, true, true, true, true, true, true, true, true, true, true, true, true] rfl rfl ?_
      refine l_rowCells (u := v96) (by repeat constructor) (fun hcv => ?_)
      refine o_storeBox1 trivial rfl rfl (hcv).1 Try.sizeOf27 (hcv).2 (by repeat constructor) (by exact Nat.le_of_ble_eq_true rfl) ?_
      refine o_nil ?_
      refine h_next (fun _ h => (h.sort (by repeat constructor)).fewer (Hp.Le.refl _)) ?_
      refine h_end (by kernel_rfl) ?_
      refine blk_n (then_c (c_region ?_))
      refine o_pv trivial rfl rfl ?_
      first | (refine o_add trivial rfl rfl rfl ?_ ?_; (omega)) | refine o_pv trivial rfl rfl ?_
      refine o_pv trivial rfl rfl ?_
      refine o_nil ?_
      exact again (j + 1, v96) (sub_cons rfl (sub_cons rfl (sub_cons rfl (sub_cons rfl (sub_cons rfl sub_nil))))) (fun _ h => by rw [out14_take hz, ← ics_more]; exact h.sort (by repeat constructor)) (by show outs.length - (j + 1) < outs.length - j; omega) (by show j + 1 ≤ _; omega)
     ·
      refine h_op #[true, false, true, true, true, true, true, true, true, true, true, true, true, true, true, false, false, false] rfl rfl ?_
      refine o_buildSl trivial rfl Try.underlying27 Try.sizeOf3 Try.zeroValue3 (by decide) (by decide) rfl (by repeat first | exact rfl | constructor) rfl (fun b95 => ?_)
      refine o_nil ?_
      refine h_next (fun _ h => (h.sort (by repeat constructor)).fewer (Hp.Le.refl _)) ?_
      refine h_go [1] (by kernel_rfl) rfl (TWHs.cons ?_ TWHs.nil)
      refine h_op #[true, true, true, true, true, true, true, true, true, true, true, true, true, true, true, false, false, false] rfl rfl ?_
      refine o_load1 trivial rfl Try.isAgg27 rfl (by repeat constructor) (by repeat constructor) ?_
      refine o_nil ?_
      refine h_next (fun _ h => (h.sort (by repeat constructor)).fewer (Hp.Le.refl _)) ?_
      refine h_go [15] (by kernel_rfl) rfl (TWHs.cons ?_ TWHs.nil)
      refine h_op #[true, true, true, true, true, true, true, true, true, true, true, true, true, true, true, true, false, false] rfl rfl ?_
      refine o_appendBox trivial rfl Try.underlying27 (elem3) (by decide) rfl rfl (fun v' => (by repeat constructor)) (by repeat constructor) rfl (by first | rfl | decide) (by first | omega | (unfold maxLen; omega)) (by omega) (fun v96 => ?_)
      refine o_nil ?_
      refine h_next (fun _ h => (h.sort (by repeat constructor)).fewer (Hp.Le.refl _)) ?_
      refine' h_take (i := 16) #[true, true, true, true, true, true, true, true, true, true, true, true, true, true, true, true, true, false] rfl rfl rfl (by kernel_rfl) (by kernel_rfl) (by kernel_rfl) rfl (qp_blk (qp_then (qp_then (qp_blk (qp_then qp_bp))))) (fun _ h => (h.sort (by repeat constructor)).fewer (Hp.Le.refl _)) ?hh14 ?kk14
      case hh14 =>
       refine o_fieldAddr (T := 27) (off := 2) trivial rfl Try.underlying29 rfl rfl rfl Try.sizeOf27 rfl rfl ?_
       refine o_nil ?_
       exact ⟨fun _ _ ha _ => ha⟩
      refine h_go [17] (by kernel_rfl) rfl (TWHs.cons ?_ TWHs.nil)
      refine h_op #[true, true, true, true, true, true, true, true, true, true, true, true, true, true, true, true, true, true] rfl rfl ?_
      refine l_rowCells (u := v96) (by repeat constructor) (fun hcv => ?_)
      refine o_storeBox1 trivial rfl rfl (hcv).1 Try.sizeOf27 (hcv).2 (by repeat constructor) (by exact Nat.le_of_ble_eq_true rfl) ?_
      refine o_nil ?_
      refine h_next (fun _ h => (h.sort (by repeat constructor)).fewer (Hp.Le.refl _)) ?_
      refine h_end (by kernel_rfl) ?_
      refine blk_n (then_c (c_region ?_))
      refine o_pv trivial rfl rfl ?_
      first | (refine o_add trivial rfl rfl rfl ?_ ?_; (omega)) | refine o_pv trivial rfl rfl ?_
      refine o_pv trivial rfl rfl ?_
      refine o_nil ?_
      exact again (j + 1, v96) (sub_cons rfl (sub_cons rfl (sub_cons rfl (sub_cons rfl (sub_cons rfl sub_nil))))) (fun _ h => by rw [out14_take hz, ← ics_more]; exact h.sort (by repeat constructor)) (by show outs.length - (j + 1) < outs.length - j; omega) (by show j + 1 ≤ _; omega)
    ·
     have f4 := h4
     try simp only [bl] at f4
     refine c_exit (then_x (then_x (blk_eq rfl (then_c (c_seq (c_seq ?_))))))
     have hin : j = outs.length := by omega
     subst hin
     rw [List.take_length]
     refine c_region ?_
     refine o_fieldAddr (T := 27) (off := 2) trivial rfl Try.underlying29 rfl rfl rfl Try.sizeOf27 rfl rfl ?_
     refine o_load1 trivial rfl Try.isAgg27 rfl (by repeat constructor) (by repeat constructor) ?_
     refine o_lenRow trivial rfl Try.underlying27 rfl (by repeat constructor) ?_
     refine o_pv trivial rfl rfl ?_
     refine o_nil (then_c ?_)
     refine c_cond rfl (fun h5 => ?_) (fun h5 => ?_)
     ·
      have f5 := h5
      try simp only [bl] at f5
      have hout : (madeT ins outs ts).outs = [((l.length : Nat) : Int) - 1] := by
        show out14 outs _ = _
        unfold out14
        rw [if_pos (by omega), hM2]
      refine c_region ?_
      refine o_pv trivial rfl rfl ?_
      refine o_lenRow trivial rfl Try.underlying27 rfl (by repeat constructor) ?_
      first | (refine o_sub trivial rfl rfl rfl ?_ ?_; (omega)) | refine o_pv trivial rfl rfl ?_
      refine o_buildSl trivial rfl Try.underlying27 Try.sizeOf3 Try.zeroValue3 (by decide) (by decide) rfl (by repeat first | exact rfl | constructor) rfl (fun b105 => ?_)
      refine o_fieldAddr (T := 27) (off := 2) trivial rfl Try.underlying29 rfl rfl rfl Try.sizeOf27 rfl rfl ?_
      refine o_store trivial rfl rfl rfl Try.sizeOf27 rfl (by first | rfl | (repeat' (first | exact rfl | exact one_nil | refine one_cons ?_ ?_ | exact (Ws.cells1 (by assumption)).2 | exact (Slc.cells1 (by assumption)).2))) (by repeat constructor) (by repeat constructor) ?_
      refine o_nil (then_c (c_seq ?_))
      refine c_sealR (u := uo) (xss := ocs os) (by repeat constructor) (ocs_len os) (ocs_seven os) (by unfold maxLen; omega) (fun I6 hx6 hso => ?_)
      have hsu : ∀ {I7 : Hp} {vu : Value} {xs : List Int}, xs = (madeT ins outs ts).outs → Slc I7 1 vu (ics xs) → I6.Le I7 → TapeV I7 uo vu (madeT ins outs ts) os := fun {I7} {vu} {xs} he hs hl7 => ⟨hso.le hl7, fun o ho => (hok o ho).le (hx6.le.trans hl7), hM1.symm, by rw [← he]; exact hs⟩
      first
        | refine c_sealB (b := b105) (by repeat constructor) (fun I7 hx7 hb105 => ?_)
          have htv := hsu hout.symm (Slc.of_box (xss := [[.int .i64 (((l.length : Nat) : Int) - 1)]]) hb105 (fun c hc => by rw [List.mem_singleton.1 hc]; rfl) (by unfold maxLen; simp) (Nat.le_refl _)) hx7.le
        | refine c_sealR (u := uu) (xss := ics (outs.map fun z => ((l.length : Nat) : Int) - 1 - z % ((l.length : Nat) : Int))) (by repeat constructor) (by rw [ics_len, List.length_map]) (ics_one _) (by unfold maxLen; omega) (fun I7 hx7 hsv => ?_)
          have htv := hsu hout.symm hsv hx7.le
      have hso7 := hso.le hx7.le
      have hsu7 := htv.su
      refine c_region ?_
      refine o_loadA trivial rfl Try.isAgg29 Try.sizeOf29 rfl (by repeat constructor) (by repeat constructor) ?_
      refine o_store trivial rfl rfl rfl Try.sizeOf29 rfl (by first | rfl | (repeat' (first | exact rfl | exact one_nil | refine one_cons ?_ ?_ | exact (Ws.cells1 (by assumption)).2 | exact (Slc.cells1 (by assumption)).2))) (by repeat constructor) (by repeat constructor) ?_
      refine o_nil (then_c (c_ret ?_))
      refine retR rfl (.agg Try.isAgg29 Try.sizeOf29 rfl (by repeat constructor) rfl .nil) ?_
      exact leaf (hx1.trans (hx6.trans hx7 (Nat.le_refl _)) (Nat.le_refl _)) (List.nil_sublist _) ⟨_, _, os, rfl, htv⟩
     ·
      have f5 := h5
      try simp only [bl] at f5
      have hout : (madeT ins outs ts).outs = outs.map fun z => ((l.length : Nat) : Int) - 1 - z % ((l.length : Nat) : Int) := by
        show out14 outs _ = _
        unfold out14
        rw [if_neg (by omega), hM2]
      refine c_skip (then_c (c_seq ?_))
      refine c_sealR (u := uo) (xss := ocs os) (by repeat constructor) (ocs_len os) (ocs_seven os) (by unfold maxLen; omega) (fun I6 hx6 hso => ?_)
      have hsu : ∀ {I7 : Hp} {vu : Value} {xs : List Int}, xs = (madeT ins outs ts).outs → Slc I7 1 vu (ics xs) → I6.Le I7 → TapeV I7 uo vu (madeT ins outs ts) os := fun {I7} {vu} {xs} he hs hl7 => ⟨hso.le hl7, fun o ho => (hok o ho).le (hx6.le.trans hl7), hM1.symm, by rw [← he]; exact hs⟩
      first
        | refine c_sealB (b := b105) (by repeat constructor) (fun I7 hx7 hb105 => ?_)
          have htv := hsu hout.symm (Slc.of_box (xss := [[.int .i64 (((l.length : Nat) : Int) - 1)]]) hb105 (fun c hc => by rw [List.mem_singleton.1 hc]; rfl) (by unfold maxLen; simp) (Nat.le_refl _)) hx7.le
        | refine c_sealR (u := uu) (xss := ics (outs.map fun z => ((l.length : Nat) : Int) - 1 - z % ((l.length : Nat) : Int))) (by repeat constructor) (by rw [ics_len, List.length_map]) (ics_one _) (by unfold maxLen; omega) (fun I7 hx7 hsv => ?_)
          have htv := hsu hout.symm hsv hx7.le
      have hso7 := hso.le hx7.le
      have hsu7 := htv.su
      refine c_region ?_
      refine o_loadA trivial rfl Try.isAgg29 Try.sizeOf29 rfl (by repeat constructor) (by repeat constructor) ?_
      refine o_store trivial rfl rfl rfl Try.sizeOf29 rfl (by first | rfl | (repeat' (first | exact rfl | exact one_nil | refine one_cons ?_ ?_ | exact (Ws.cells1 (by assumption)).2 | exact (Slc.cells1 (by assumption)).2))) (by repeat constructor) (by repeat constructor) ?_
      refine o_nil (then_c (c_ret ?_))
      refine retR rfl (.agg Try.isAgg29 Try.sizeOf29 rfl (by repeat constructor) rfl .nil) ?_
      exact leaf (hx1.trans (hx6.trans hx7 (Nat.le_refl _)) (Nat.le_refl _)) (List.nil_sublist _) ⟨_, _, os, rfl, htv⟩
end Go.Proofs.Ytjgbjaaekknenaa
