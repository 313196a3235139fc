/-
  TreeParses, part 5: the texts Ref1, Ref2, Ref3, Ref4, Ref5, Ref7, Ref8, RefP, RefR, RefL, RefL2, RefL3, RefL4, RefL5, RefL6, Tree9 as one.
-/
import Derived.Test.YtmgpifkekofacaaGreatDoorQTreeParsesD
set_option linter.unusedVariables false
set_option linter.unusedSimpArgs false
set_option linter.unnecessarySimpa false
set_option maxHeartbeats 1000000
namespace Go.Tw
open Go Go.RowKit
theorem wl_more {z : Int} {x : Nat} (O : List Nat) (h : z = x) : wl O ++ [.int .u32 z] = wl (O ++ [x]) := by subst h; simp [wl]
theorem take_more {A : List Nat} {i : Nat} (h : i < A.length) : A.take (i + 1) = A.take i ++ [dg A i] := by
  rw [List.take_add_one, dg_some h]; rfl
theorem eq_of_dg {A B : List Nat} (hl : A.length = B.length) (h : ∀ j, j < A.length → dg A j = dg B j) : A = B := by
  refine List.ext_getElem hl fun i h1 h2 => ?_
  have := h i h1
  rwa [dg_in h1, dg_in h2] at this
theorem cmp_lt {A B : List Nat} (hA : Wds A) (hB : Wds B) {i : Nat} (h : dg A i < dg B i) (he : ∀ t, i < t → dg A t = dg B t) : val A < val B := by
  have key : ∀ k, pre A (i + 1 + k) < pre B (i + 1 + k) := by
    intro k
    induction k with
    | zero =>
      have h1 := pre_lt hA i
      show pre A i + dg A i * 4294967296 ^ i < pre B i + dg B i * 4294967296 ^ i
      have h2 : (dg A i + 1) * 4294967296 ^ i ≤ dg B i * 4294967296 ^ i := Nat.mul_le_mul_right _ h
      rw [Nat.add_mul, Nat.one_mul] at h2
      omega
    | succ k ih =>
      show pre A (i + 1 + k) + dg A (i + 1 + k) * 4294967296 ^ (i + 1 + k) < pre B (i + 1 + k) + dg B (i + 1 + k) * 4294967296 ^ (i + 1 + k)
      rw [he (i + 1 + k) (by omega)]
      omega
  have h1 := key (A.length + B.length)
  rwa [pre_out (by omega), pre_out (by omega)] at h1
theorem val_same {A B : List Nat} (he : ∀ t, dg A t = dg B t) : val A = val B := by
  have h1 : pre A (A.length + B.length) = pre B (A.length + B.length) := pre_same fun j _ => he j
  rwa [pre_out (by omega), pre_out (by omega)] at h1
theorem val_more (O : List Nat) (x : Nat) : val (O ++ [x]) = val O + 4294967296 ^ O.length * x := by
  rw [val_app, val_cons, val_nil, Nat.mul_zero, Nat.add_zero]
theorem Wds.more {O : List Nat} (h : Wds O) {x : Nat} (hx : x < 4294967296) : Wds (O ++ [x]) := h.app (Wds_cons hx Wds_nil)
section
variable {P : Program} {Q : Exit → Act → World → Prop} {n : Nat} {D : List Deferred} {E : Env} {ops : Array Oper} {w0 : World} {I : Hp} {B B' : List Item}
theorem leafWX {w : World} {e : TypeId} {u v : Value} {O : List Nat} {I I1 : Hp} {B : List Item} {R : Value → Hp → List Item → Prop} (he : Ext w.heap.size I I1) (hw : Wds O) (hm : O.length ≤ maxLen) (h : ∀ I', I1.Le I' → Ws I' u O → R v I' []) :
    ∀ w', St w [] I1 (.row u e 1 O.length (wl O) :: B) w' → Post w [] I R v w' := by
  rw [← wcs_flat]
  exact leafRowX he (wcs_len O) (wcs_one O) hm fun I' hl hs => h I' hl ⟨hs, hw⟩
theorem c_sealO {c : Code} {e : TypeId} {u : Value} (O : List Nat) (ht : Take (.row u e 1 O.length (wl O)) B B') (hw : Wds O) (hm : O.length ≤ maxLen)
    (k : ∀ I', Ext w0.heap.size I I' → Ws I' u O → TC P c Q n D E (St w0 [] I' B')) : TC P c Q n D E (St w0 [] I B) :=
  c_sealR (xss := wcs O) (by rw [wcs_flat]; exact ht) (wcs_len O) (wcs_one O) hm fun I' hx hs => k I' hx ⟨hs, hw⟩
end
end Go.Tw
namespace Go.Proofs.YtmgpifkekofacaaGreatDoor
open Go Go.Tw
theorem rLow_any (va : Value) (A : List Nat) {I : Hp} (ha : Ws I va A) (hs : A.length ≤ 1000000000) : Fun Tryz.prog 139 [va] I [] (fun v _ _ => v = .int .i64 (lowL A : Nat)) := by
  intro w hw
  refine enter1 _ Tryz.func139 rfl Tryz.ntmps139 rfl ?_ hw
  refine cS (cR ?_)
  refine oV ?_
  refine oN (tC (cS (cR ?_)))
  refine oV ?_
  refine oN (tC (cS (cS (cR ?_))))
  refine oV ?_
  refine oN (tC (cB ?_))
  refine c_loop (ι := Nat) [0] (.cons rfl .nil) (fun i => A.length - i) (fun i E0 => (3, .int .i64 (low A i : Nat)) :: (4, .int .i64 (i : Nat)) :: E0) (fun i => St w [] I []) (fun i => i ≤ A.length) (0) (sC rfl (sC rfl (sC rfl sN))) (fun _ h => h) (Nat.zero_le _) ?_
  rintro i hi
  try dsimp only
  refine cS (cS (cR ?_))
  iterate 2 refine oV ?_
  refine o_lenW trivial rfl Tryz.underlying40 rfl (ha) ?_
  refine oV ?_
  refine oN (tC ?_)
  refine cC rfl (fun h1 => ?_) (fun h1 => ?_)
  ·
   have f1 := h1
   try simp only [bl] at f1
   refine cK (tC (cS (cB (cS (cR ?_)))))
   iterate 2 refine oV ?_
   refine o_elemW trivial rfl Tryz.underlying40 Tryz.sizeOf101 rfl (ha) rfl (by omega) ?_
   refine o_load1I trivial rfl Tryz.isAgg101 rfl (ha.cellI (k := i) rfl (by omega)) ?_
   refine oV ?_
   refine oN (tC ?_)
   refine cC rfl (fun h2 => ?_) (fun h2 => ?_)
   ·
    have f2 := h2
    try simp only [bl] at f2
    have hlow : low A (i + 1) = i + 1 := by show (if dg A i = 0 then low A i else i + 1) = i + 1; rw [if_neg (by omega)]
    refine cR ?_
    refine oV ?_
    first | (refine o_add trivial rfl rfl rfl ?_ ?_; (omega)) | refine oV ?_
    refine oV ?_
    refine oN (blk_n (tC (cR ?_)))
    refine oV ?_
    first | (refine o_add trivial rfl rfl rfl ?_ ?_; (omega)) | refine oV ?_
    refine oV ?_
    refine oN ?_
    exact again (i + 1) (by rw [hlow]; exact (sC rfl (sC rfl (sC rfl sN)))) (fun _ h => h) (by show A.length - (i + 1) < A.length - i; omega) (by show i + 1 ≤ _; omega)
   have f2 := h2
   try simp only [bl] at f2
   have hlow : low A (i + 1) = low A i := by show (if dg A i = 0 then low A i else i + 1) = low A i; rw [if_pos (by omega)]
   refine cK (blk_n (tC (cR ?_)))
   refine oV ?_
   first | (refine o_add trivial rfl rfl rfl ?_ ?_; (omega)) | refine oV ?_
   refine oV ?_
   refine oN ?_
   exact again (i + 1) (by rw [hlow]; exact (sC rfl (sC rfl (sC rfl sN)))) (fun _ h => h) (by show A.length - (i + 1) < A.length - i; omega) (by show i + 1 ≤ _; omega)
  have f1 := h1
  try simp only [bl] at f1
  refine c_exit (then_x (then_x (blk_eq rfl (tC (cS (cR ?_))))))
  iterate 2 refine oV ?_
  refine oN (tC (cT ?_))
  refine ret1 rfl rfl ?_
  have hie : i = A.length := by omega
  subst hie; exact leaf0 rfl
theorem rWords_any (va vb : Value) (A B : List Nat) {I : Hp} (ha : Ws I va A) (hb : Ws I vb B) : Fun Tryz.prog 114 [va, vb] I [] (fun v _ _ => v = .bool (decide (A = B))) := by
  have hs := ha.most
  unfold maxLen at hs
  intro w hw
  refine enter2 _ Tryz.func114 rfl Tryz.ntmps114 rfl ?_ hw
  refine cS (cR ?_)
  refine oV ?_
  refine oN (tC (cS (cS (cR ?_))))
  refine oV ?_
  refine o_lenW trivial rfl Tryz.underlying40 rfl (ha) ?_
  refine oV ?_
  refine o_lenW trivial rfl Tryz.underlying40 rfl (hb) ?_
  refine oV ?_
  refine oN (tC ?_)
  refine cC rfl (fun h1 => ?_) (fun h1 => ?_)
  ·
   have f1 := h1
   try simp only [bl] at f1
   refine cS (cR ?_)
   refine oV ?_
   refine oN (tC (cT (tR ?_)))
   refine ret1 rfl rfl ?_
   refine leaf0 (congrArg Value.bool ?_); rw [decide_eq_false]; intro e; exact f1 (by rw [e])
  have f1 := h1
  try simp only [bl] at f1
  refine cK (tC (cS (cS (cR ?_))))
  refine oV ?_
  refine oN (tC (cB ?_))
  refine c_loop (ι := Nat) [0, 1] (.cons rfl (.cons rfl .nil)) (fun i => A.length - i) (fun i E0 => (5, .int .i64 (i : Nat)) :: E0) (fun i => St w [] I []) (fun i => i ≤ A.length ∧ ∀ j, j < i → dg A j = dg B j) (0) (sC rfl (sC rfl (sC rfl sN))) (fun _ h => h) (⟨Nat.zero_le _, fun j h => absurd h (Nat.not_lt_zero _)⟩) ?_
  rintro i ⟨hi, he⟩
  try dsimp only
  refine cS (cS (cR ?_))
  iterate 2 refine oV ?_
  refine o_lenW trivial rfl Tryz.underlying40 rfl (ha) ?_
  refine oV ?_
  refine oN (tC ?_)
  refine cC rfl (fun h2 => ?_) (fun h2 => ?_)
  ·
   have f2 := h2
   try simp only [bl] at f2
   refine cK (tC (cS (cB (cS ?_))))
   refine c_quiet (by kernel_rfl) (by kernel_rfl) (fun _ h => h.drawn) ?_
   iterate 2 refine oV ?_
   refine o_elemW trivial rfl Tryz.underlying40 Tryz.sizeOf101 rfl (ha) rfl (by omega) ?_
   refine o_load1I trivial rfl Tryz.isAgg101 rfl (ha.cellI (k := i) rfl (by omega)) ?_
   iterate 2 refine oV ?_
   refine o_elemW trivial rfl Tryz.underlying40 Tryz.sizeOf101 rfl (hb) rfl (by omega) ?_
   refine o_load1I trivial rfl Tryz.isAgg101 rfl (hb.cellI (k := i) rfl (by omega)) ?_
   refine oV ?_
   refine oN (tC ?_)
   refine cC rfl (fun h3 => ?_) (fun h3 => ?_)
   ·
    have f3 := h3
    try simp only [bl] at f3
    refine cS (cR ?_)
    refine oV ?_
    refine oN (tC (cT (blk_r (tR (tR (blk_r (tR ?_)))))))
    refine ret1 rfl rfl ?_
    refine leaf0 (congrArg Value.bool ?_); rw [decide_eq_false]; intro e; exact f3 (by rw [e])
   have f3 := h3
   try simp only [bl] at f3
   refine cK (blk_n (tC (cR ?_)))
   refine oV ?_
   first | (refine o_add trivial rfl rfl rfl ?_ ?_; (omega)) | refine oV ?_
   refine oV ?_
   refine oN ?_
   exact again (i + 1) (sC rfl (sC rfl (sC rfl sN))) (fun _ h => h) (by show A.length - (i + 1) < A.length - i; omega) ⟨by show i + 1 ≤ _; omega, fun j hj => by
     by_cases hji : j = i
     · subst hji; omega
     · exact he j (by omega)⟩
  have f2 := h2
  try simp only [bl] at f2
  refine c_exit (then_x (then_x (blk_eq rfl (tC (cS (cR ?_))))))
  refine oV ?_
  refine oN (tC (cT ?_))
  refine ret1 rfl rfl ?_
  refine leaf0 (congrArg Value.bool ?_); rw [decide_eq_true]; exact eq_of_dg (by omega) fun j hj => he j (by omega)
theorem rTrim_any (va : Value) (A : List Nat) {I : Hp} (ha : Ws I va A) (hs : A.length ≤ 1000000000) : Fun Tryz.prog 116 [va] I [] (fun v I' _ => Ws I' v (natW (val A))) := by
  have hle : lowL A ≤ A.length := low_le A _
  intro w hw
  refine enter1 _ Tryz.func116 rfl Tryz.ntmps116 rfl ?_ hw
  refine cS (cR ?_)
  refine oV ?_
  refine oN (tC (cS (cR ?_)))
  refine oV ?_
  refine o_callQ trivial rfl Tryz.call139 rfl (rLow_any _ _ ha hs) ?_
  refine oV ?_
  refine oN (tC (cS (cR ?_)))
  refine oV ?_
  refine oN (tC (cS (cS (cR ?_))))
  refine oV ?_
  refine oN (tC (cB ?_))
  refine c_loop (ι := Nat × Value) [0, 3] (.cons rfl (.cons rfl .nil)) (fun x => lowL A - x.1) (fun x E0 => (4, x.2) :: (5, .int .i64 (x.1 : Nat)) :: E0) (fun x => St w [] I [.row x.2 101 1 x.1 (wl (A.take x.1))]) (fun x => x.1 ≤ lowL A) ((0, .slice none 0 0)) (sC rfl (sC rfl (sC rfl (sC rfl sN)))) (fun _ h => h.nilRow _ _) (Nat.zero_le _) ?_
  rintro ⟨i, u⟩ hi
  try dsimp only
  simp only at hi
  refine cS (cS (cR ?_))
  iterate 3 refine oV ?_
  refine oN (tC ?_)
  refine cC rfl (fun h1 => ?_) (fun h1 => ?_)
  ·
   have f1 := h1
   try simp only [bl] at f1
   refine cK (tC (cS (cB (cR ?_))))
   iterate 3 refine oV ?_
   refine o_elemW trivial rfl Tryz.underlying40 Tryz.sizeOf101 rfl (ha) rfl (by omega) ?_
   refine o_load1I trivial rfl Tryz.isAgg101 rfl (ha.cellI (k := i) rfl (by omega)) ?_
   refine o_buildSl trivial rfl Tryz.underlying40 Tryz.sizeOf101 Tryz.zeroValue101 (by decide) (by decide) rfl (by repeat first | exact rfl | constructor) rfl (fun b18 => ?_)
   refine o_appendBox trivial rfl Tryz.underlying40 (elem101) (by decide) rfl rfl (fun v' => (by repeat constructor)) (by repeat constructor) rfl (by first | rfl | decide) (by first | omega | (unfold maxLen; omega)) (by omega) (fun v19 => ?_)
   refine oV ?_
   refine oN (blk_n (tC (cR ?_)))
   refine oV ?_
   first | (refine o_add trivial rfl rfl rfl ?_ ?_; (omega)) | refine oV ?_
   refine oV ?_
   refine oN ?_
   exact again (i + 1, v19) (sC rfl (sC rfl (sC rfl (sC rfl sN)))) (fun _ h => by rw [take_more (by omega), ← wl_more _ rfl]; exact h.sort (by repeat constructor)) (by show lowL A - (i + 1) < lowL A - i; omega) (by show i + 1 ≤ _; omega)
  have f1 := h1
  try simp only [bl] at f1
  refine c_exit (then_x (then_x (blk_eq rfl (tC (cS (cR ?_))))))
  iterate 2 refine oV ?_
  refine oN (tC (cT ?_))
  refine ret1 rfl rfl ?_
  have hie : i = lowL A := by omega
  subst hie
  have hlen : (A.take (lowL A)).length = lowL A := by rw [List.length_take]; omega
  have hm := ha.most
  exact fun w' hw' => leafWX (O := A.take (lowL A)) (Ext.refl _ _) (ha.wds.take _) (by omega) (fun I' hl hs => by rw [← trim_eq ha.wds]; exact hs) w' (by rw [hlen]; exact hw')
theorem rAt_any (va : Value) (A : List Nat) (i : Int) (k : Nat) {I : Hp} (ha : Ws I va A) (hi : i = k) : Fun Tryz.prog 164 [va, .int .i64 i] I [] (fun v _ _ => v = .int .u64 (dg A k : Nat)) := by
  subst hi
  intro w hw
  refine enter2 _ Tryz.func164 rfl Tryz.ntmps164 rfl ?_ hw
  refine cS (cR ?_)
  refine oV ?_
  refine oN (tC (cS (cS (cR ?_))))
  iterate 2 refine oV ?_
  refine' o_or trivial trivial rfl rfl rfl rfl rfl rfl rfl rfl (fun hb7 => ?_) ?_
  rotate_left
  ·
   have fb7 := hb7
   try simp only [bl] at fb7
   iterate 2 refine o_pv (wS rfl rfl hb7) rfl rfl ?_
   refine o_lenW (wS rfl rfl hb7) rfl Tryz.underlying40 rfl (ha) ?_
   refine o_pv (wS rfl rfl hb7) rfl rfl ?_
   refine oN ?_
   exact joins rfl
  refine oN (tC ?_)
  refine cC rfl (fun h1 => ?_) (fun h1 => ?_)
  ·
   have f1 := h1
   try simp only [bl] at f1
   refine cS (cR ?_)
   refine oV ?_
   refine oN (tC (cT (tR ?_)))
   refine ret1 rfl rfl ?_
   refine leaf0 (congrArg (Value.int .u64) ?_); rw [dg_out (by omega)]; rfl
  have f1 := h1
  try simp only [bl] at f1
  refine cK (tC (cS (cR ?_)))
  iterate 2 refine oV ?_
  refine o_elemW trivial rfl Tryz.underlying40 Tryz.sizeOf101 rfl (ha) rfl (by omega) ?_
  refine o_load1I trivial rfl Tryz.isAgg101 rfl (ha.cellI (k := k) rfl (by omega)) ?_
  have hdl := dg_lt ha.wds k
  first | refine o_convIn trivial rfl Tryz.underlying101 Tryz.underlying136 rfl (by rw [IntWalk.u64_in _ (by omega)]) ?_ | refine o_conv trivial rfl Tryz.underlying101 Tryz.underlying136 rfl ?_
  refine oV ?_
  refine oN (tC (cT ?_))
  refine ret1 rfl rfl ?_
  exact leaf0 rfl
theorem rOf_any (n : Nat) {I : Hp} (hn : n < 18446744073709551616) : Fun Tryz.prog 94 [.int .u64 (n : Int)] I [] (fun v I' _ => Ws I' v (natW n)) := by
  have hnl : (natW n).length ≤ 2 := natW_len_le (by rw [show (4294967296 : Nat) ^ 2 = 18446744073709551616 by decide]; exact hn)
  intro w hw
  refine enter1 _ Tryz.func94 rfl Tryz.ntmps94 rfl ?_ hw
  refine cS (cR ?_)
  refine oV ?_
  refine oN (tC (cS (cR ?_)))
  refine oV ?_
  refine oN (tC (cS (cB ?_)))
  refine c_loop (ι := Nat × List Nat × Value) [] .nil (fun x => x.1) (fun x E0 => (0, .int .u64 (x.1 : Nat)) :: (3, x.2.2) :: E0) (fun x => St w [] I [.row x.2.2 101 1 x.2.1.length (wl x.2.1)]) (fun x => x.2.1 ++ natW x.1 = natW n ∧ x.1 < 18446744073709551616) ((n, [], .slice none 0 0)) (sC rfl (sC rfl sN)) (fun _ h => h.nilRow _ _) (⟨rfl, hn⟩) ?_
  rintro ⟨m, O, u⟩ ⟨hO, hm⟩
  try dsimp only
  simp only at hO hm; have hol : O.length ≤ 2 := by rw [← hO, List.length_append] at hnl; omega
  refine cS (cS (cR ?_))
  iterate 2 refine oV ?_
  refine oN (tC ?_)
  refine cC rfl (fun h1 => ?_) (fun h1 => ?_)
  ·
   have f1 := h1
   try simp only [bl] at f1
   have hm0 : m ≠ 0 := by omega
   refine cK (tC (cB (cS (cR ?_))))
   iterate 2 refine oV ?_
   refine o_rem trivial rfl rfl rfl (by omega) ?_
   refine o_convIn trivial rfl Tryz.underlying136 Tryz.underlying101 rfl (by rw [IntWalk.u32_in _ (by omega)]) ?_
   refine o_buildSl trivial rfl Tryz.underlying40 Tryz.sizeOf101 Tryz.zeroValue101 (by decide) (by decide) rfl (by repeat first | exact rfl | constructor) rfl (fun b10 => ?_)
   refine o_appendBox trivial rfl Tryz.underlying40 (elem101) (by decide) rfl rfl (fun v' => (by repeat constructor)) (by repeat constructor) rfl (by first | rfl | decide) (by first | omega | (unfold maxLen; omega)) (by omega) (fun v11 => ?_)
   refine oV ?_
   refine oN (tC (cR ?_))
   refine oV ?_
   refine o_quo trivial rfl rfl rfl (by omega) (by first | rfl | rw [IntWalk.u64_in _ (by omega)]) ?_
   refine oV ?_
   refine oN (blk_n ?_)
   exact again (m / 4294967296, O ++ [m % 4294967296], v11) (sC rfl (sC rfl sN)) (fun _ h => by rw [← wl_more O (z := (m : Int) % 4294967296) (by omega), List.length_append]; exact h.sort (by repeat constructor)) (by show m / 4294967296 < m; omega) ⟨by show (O ++ [m % 4294967296]) ++ natW (m / 4294967296) = natW n; rw [← hO, natW_pos hm0]; simp, by show m / 4294967296 < _; omega⟩
  have f1 := h1
  try simp only [bl] at f1
  refine c_exit (then_x (then_x (blk_eq rfl (tC (cS (cR ?_))))))
  iterate 2 refine oV ?_
  refine oN (tC (cT ?_))
  refine ret1 rfl rfl ?_
  have hm0 : m = 0 := by omega
  subst hm0
  rw [natW_zero, List.append_nil] at hO
  exact leafWX (Ext.refl _ _) (by rw [hO]; exact Wds_natW n) (by unfold maxLen; omega) (fun I' hl hs => by rw [← hO]; exact hs)
theorem rCmp_any (va vb : Value) (A B : List Nat) {I : Hp} (ha : Ws I va A) (hb : Ws I vb B) (hs : A.length ≤ 1000000000) (hs2 : B.length ≤ 1000000000) : Fun Tryz.prog 145 [va, vb] I [] (fun v _ _ => v = .int .i64 (cmpZ (val A : Nat) (val B : Nat))) := by
  intro w hw
  refine enter2 _ Tryz.func145 rfl Tryz.ntmps145 rfl ?_ hw
  refine cS (cR ?_)
  refine oV ?_
  refine oN (tC (cS (cR ?_)))
  refine oV ?_
  refine o_lenW trivial rfl Tryz.underlying40 rfl (ha) ?_
  refine oV ?_
  refine o_lenW trivial rfl Tryz.underlying40 rfl (hb) ?_
  refine o_max2 trivial rfl rfl rfl ?_
  refine oV ?_
  refine oN (tC (cS (cS (cR ?_))))
  refine oV ?_
  first | (refine o_sub trivial rfl rfl rfl ?_ ?_; (omega)) | refine oV ?_
  refine oV ?_
  refine oN (tC (cB ?_))
  refine c_loop (ι := Nat × Int) [0, 1] (.cons rfl (.cons rfl .nil)) (fun x => x.1) (fun x E0 => (6, .int .i64 x.2) :: E0) (fun x => St w [] I []) (fun x => x.2 = (x.1 : Int) - 1 ∧ x.1 ≤ 1000000000 ∧ ∀ t, x.1 ≤ t → dg A t = dg B t) ((max A.length B.length, max (A.length : Int) (B.length : Int) - 1)) (sC rfl (sC rfl (sC rfl sN))) (fun _ h => h) (⟨by simp only; omega, by show max A.length B.length ≤ _; omega, fun t ht => by have h9 : max A.length B.length ≤ t := ht; rw [dg_out (by omega), dg_out (by omega)]⟩) ?_
  rintro ⟨j, z⟩ ⟨hz, hj, he⟩
  try dsimp only
  simp only at hz hj he; subst hz
  refine cS (cS (cR ?_))
  iterate 2 refine oV ?_
  refine oN (tC ?_)
  refine cC rfl (fun h1 => ?_) (fun h1 => ?_)
  ·
   have f1 := h1
   try simp only [bl] at f1
   refine cK (tC (cS (cB (cS (cS (cR ?_))))))
   iterate 2 refine oV ?_
   refine o_callQ trivial rfl Tryz.call164 rfl (rAt_any _ A _ (j - 1) ha (by omega)) ?_
   iterate 2 refine oV ?_
   refine o_callQ trivial rfl Tryz.call164 rfl (rAt_any _ B _ (j - 1) hb (by omega)) ?_
   refine oV ?_
   refine oN (tC ?_)
   refine cC rfl (fun h2 => ?_) (fun h2 => ?_)
   ·
    have f2 := h2
    try simp only [bl] at f2
    refine cS (cR ?_)
    refine oV ?_
    refine oN (tC (cT (tR (blk_r (tR (tR (blk_r (tR ?_))))))))
    refine ret1 rfl rfl ?_
    refine leaf0 (congrArg (Value.int .i64) ?_)
    have := cmp_lt ha.wds hb.wds (i := j - 1) (by omega) (fun t ht => he t (by omega))
    rw [cmpZ_lt (by omega)]
   have f2 := h2
   try simp only [bl] at f2
   refine cK (tC (cS (cR ?_)))
   iterate 2 refine oV ?_
   refine o_callQ trivial rfl Tryz.call164 rfl (rAt_any _ A _ (j - 1) ha (by omega)) ?_
   iterate 2 refine oV ?_
   refine o_callQ trivial rfl Tryz.call164 rfl (rAt_any _ B _ (j - 1) hb (by omega)) ?_
   refine oV ?_
   refine oN (tC ?_)
   refine cC rfl (fun h3 => ?_) (fun h3 => ?_)
   ·
    have f3 := h3
    try simp only [bl] at f3
    refine cS (cR ?_)
    refine oV ?_
    refine oN (tC (cT (blk_r (tR (tR (blk_r (tR ?_)))))))
    refine ret1 rfl rfl ?_
    refine leaf0 (congrArg (Value.int .i64) ?_)
    have := cmp_lt hb.wds ha.wds (i := j - 1) (by omega) (fun t ht => (he t (by omega)).symm)
    rw [cmpZ_gt (by omega)]
   have f3 := h3
   try simp only [bl] at f3
   refine cK (blk_n (tC (cR ?_)))
   refine oV ?_
   first | (refine o_sub trivial rfl rfl rfl ?_ ?_; (omega)) | refine oV ?_
   refine oV ?_
   refine oN ?_
   exact again (j - 1, (j : Int) - 1 - 1) (sC rfl (sC rfl (sC rfl sN))) (fun _ h => h) (by show j - 1 < j; omega) ⟨by simp only; omega, by show j - 1 ≤ _; omega, fun t ht => by
     have h9 : j - 1 ≤ t := ht
     by_cases htj : t = j - 1
     · subst htj; omega
     · exact he t (by omega)⟩
  have f1 := h1
  try simp only [bl] at f1
  refine c_exit (then_x (then_x (blk_eq rfl (tC (cS (cR ?_))))))
  refine oV ?_
  refine oN (tC (cT ?_))
  refine ret1 rfl rfl ?_
  refine leaf0 (congrArg (Value.int .i64) ?_)
  rw [val_same (A := A) (B := B) fun t => he t (by omega), cmpZ_self]
end Go.Proofs.YtmgpifkekofacaaGreatDoor
namespace Go.Tw
theorem pre_end {A : List Nat} {k : Nat} (h : A.length ≤ k) : pre A k = val A := pre_out h
theorem sum_step {O : List Nat} {T i s c c' a : Nat} (hl : O.length = i) (h : val O + 4294967296 ^ i * c = T) (hs : s + 4294967296 * c' = a + c) : val (O ++ [s]) + 4294967296 ^ (i + 1) * c' = T + a * 4294967296 ^ i := by
  rw [val_more, hl, pow_succ]
  have e1 : 4294967296 ^ i * 4294967296 * c' = 4294967296 ^ i * (4294967296 * c') := Nat.mul_assoc _ _ _
  have e2 : 4294967296 ^ i * s + 4294967296 ^ i * (4294967296 * c') = 4294967296 ^ i * a + 4294967296 ^ i * c := by rw [← Nat.mul_add, ← Nat.mul_add, hs]
  have e3 : a * 4294967296 ^ i = 4294967296 ^ i * a := Nat.mul_comm _ _
  rw [e1, e3]
  generalize 4294967296 ^ i * s = x1 at *
  generalize 4294967296 ^ i * (4294967296 * c') = x2 at *
  generalize 4294967296 ^ i * a = x3 at *
  generalize 4294967296 ^ i * c = x4 at *
  omega
theorem diff_step {O : List Nat} {T U i s c c' a b : Nat} (hl : O.length = i) (h : val O + U = T + 4294967296 ^ i * c) (hs : s + b + c = a + 4294967296 * c') : val (O ++ [s]) + (U + b * 4294967296 ^ i) = (T + a * 4294967296 ^ i) + 4294967296 ^ (i + 1) * c' := by
  rw [val_more, hl, pow_succ]
  have e1 : 4294967296 ^ i * 4294967296 * c' = 4294967296 ^ i * (4294967296 * c') := Nat.mul_assoc _ _ _
  have e2 : 4294967296 ^ i * s + 4294967296 ^ i * b + 4294967296 ^ i * c = 4294967296 ^ i * a + 4294967296 ^ i * (4294967296 * c') := by rw [← Nat.mul_add, ← Nat.mul_add, ← Nat.mul_add, hs]
  have e3 : a * 4294967296 ^ i = 4294967296 ^ i * a := Nat.mul_comm _ _
  have e4 : b * 4294967296 ^ i = 4294967296 ^ i * b := Nat.mul_comm _ _
  rw [e1, e3, e4]
  generalize 4294967296 ^ i * s = x1 at *
  generalize 4294967296 ^ i * (4294967296 * c') = x2 at *
  generalize 4294967296 ^ i * a = x3 at *
  generalize 4294967296 ^ i * b = x5 at *
  generalize 4294967296 ^ i * c = x4 at *
  omega
theorem word_mul {a w c : Nat} (ha : a < 4294967296) (hw : w < 4294967296) (hc : c < 4294967296) : a * w + c < 4294967296 * 4294967296 := by
  have h1 : a * w ≤ 4294967295 * 4294967295 := Nat.mul_le_mul (by omega) (by omega)
  omega
end Go.Tw
namespace Go.Proofs.YtmgpifkekofacaaGreatDoor
open Go Go.Tw
theorem rAdd_any (va vb : Value) (A B : List Nat) {I : Hp} (ha : Ws I va A) (hb : Ws I vb B) (hs : A.length ≤ 100000000) (hs2 : B.length ≤ 100000000) : Fun Tryz.prog 215 [va, vb] I [] (fun v I' _ => Ws I' v (natW (val A + val B))) := by
  intro w hw
  refine enter2 _ Tryz.func215 rfl Tryz.ntmps215 rfl ?_ hw
  refine cS (cR ?_)
  refine oV ?_
  refine oN (tC (cS (cR ?_)))
  refine oV ?_
  refine oN (tC (cS (cR ?_)))
  refine oV ?_
  refine oN (tC (cS (cS (cR ?_))))
  refine oV ?_
  refine oN (tC (cB ?_))
  refine c_loop (ι := Nat × Nat × List Nat × Value) [0, 1] (.cons rfl (.cons rfl .nil)) (fun x => max A.length B.length + 1 - x.1) (fun x E0 => (5, x.2.2.2) :: (6, .int .u64 (x.2.1 : Nat)) :: (7, .int .i64 (x.1 : Nat)) :: E0) (fun x => St w [] I [.row x.2.2.2 101 1 x.2.2.1.length (wl x.2.2.1)]) (fun x => x.1 ≤ max A.length B.length + 1 ∧ x.2.1 ≤ 1 ∧ x.2.2.1.length = x.1 ∧ Wds x.2.2.1 ∧ val x.2.2.1 + 4294967296 ^ x.1 * x.2.1 = pre A x.1 + pre B x.1) ((0, 0, [], .slice none 0 0)) (sC rfl (sC rfl (sC rfl (sC rfl (sC rfl sN))))) (fun _ h => h.nilRow _ _) (⟨Nat.zero_le _, by decide, rfl, Wds_nil, rfl⟩) ?_
  rintro ⟨i, c, O, u⟩ ⟨hi, hc, hol, hO, hv⟩
  try dsimp only
  simp only at hi hc hol hO hv; have hda := dg_lt ha.wds i; have hdb := dg_lt hb.wds i
  refine cS (cS (cR ?_))
  iterate 2 refine oV ?_
  refine o_lenW trivial rfl Tryz.underlying40 rfl (ha) ?_
  refine oV ?_
  refine o_lenW trivial rfl Tryz.underlying40 rfl (hb) ?_
  refine o_max2 trivial rfl rfl rfl ?_
  refine oV ?_
  refine oN (tC ?_)
  refine cC rfl (fun h1 => ?_) (fun h1 => ?_)
  ·
   have f1 := h1
   try simp only [bl] at f1
   refine cK (tC (cS (cB (cS (cR ?_)))))
   iterate 2 refine oV ?_
   refine o_callQ trivial rfl Tryz.call164 rfl (rAt_any _ A _ i ha rfl) ?_
   iterate 2 refine oV ?_
   refine o_callQ trivial rfl Tryz.call164 rfl (rAt_any _ B _ i hb rfl) ?_
   first | refine o_arA trivial rfl rfl rfl (by rw [IntWalk.u64_in _ (by omega)]) ?_ | refine oV ?_
   refine oV ?_
   first | refine o_arA trivial rfl rfl rfl (by rw [IntWalk.u64_in _ (by omega)]) ?_ | refine oV ?_
   refine oV ?_
   refine oN (tC (cS (cR ?_)))
   iterate 2 refine oV ?_
   refine o_rem trivial rfl rfl rfl (by omega) ?_
   refine o_convIn trivial rfl Tryz.underlying136 Tryz.underlying101 rfl (by rw [IntWalk.u32_in _ (by omega)]) ?_
   refine o_buildSl trivial rfl Tryz.underlying40 Tryz.sizeOf101 Tryz.zeroValue101 (by decide) (by decide) rfl (by repeat first | exact rfl | constructor) rfl (fun b31 => ?_)
   refine o_appendBox trivial rfl Tryz.underlying40 (elem101) (by decide) rfl rfl (fun v' => (by repeat constructor)) (by repeat constructor) rfl (by first | rfl | decide) (by first | omega | (unfold maxLen; omega)) (by omega) (fun v32 => ?_)
   refine oV ?_
   refine oN (tC (cR ?_))
   refine oV ?_
   refine o_quo trivial rfl rfl rfl (by omega) (by first | rfl | rw [IntWalk.u64_in _ (by omega)]) ?_
   refine oV ?_
   refine oN (blk_n (tC (cR ?_)))
   refine oV ?_
   first | (refine o_add trivial rfl rfl rfl ?_ ?_; (omega)) | refine oV ?_
   refine oV ?_
   refine oN ?_
   have hst := sum_step (s := (dg A i + dg B i + c) % 4294967296) (c' := (dg A i + dg B i + c) / 4294967296) (a := dg A i + dg B i) hol hv (by omega)
   exact again (i + 1, (dg A i + dg B i + c) / 4294967296, O ++ [(dg A i + dg B i + c) % 4294967296], v32) (sC rfl (sC rfl (sC rfl (sC rfl (sC rfl sN))))) (fun _ h => by rw [← wl_more O (z := ((dg A i : Int) + (dg B i : Int) + (c : Int)) % 4294967296) (by omega), List.length_append]; exact h.sort (by repeat constructor)) (by show max A.length B.length + 1 - (i + 1) < max A.length B.length + 1 - i; omega) ⟨by show i + 1 ≤ _; omega, by show (dg A i + dg B i + c) / 4294967296 ≤ 1; omega, by show (O ++ [_]).length = i + 1; rw [List.length_append, hol]; rfl, hO.more (by omega), by
     show val (O ++ [_]) + 4294967296 ^ (i + 1) * _ = (pre A i + dg A i * 4294967296 ^ i) + (pre B i + dg B i * 4294967296 ^ i)
     rw [hst, Nat.add_mul]; omega⟩
  have f1 := h1
  try simp only [bl] at f1
  refine c_exit (then_x (then_x (blk_eq rfl (tC (cS ?_)))))
  have hie : i = max A.length B.length + 1 := by omega
  rw [pre_end (by omega), pre_end (by omega)] at hv
  have hc0 : c = 0 := by
    have h1 := val_lt ha.wds
    have h2 := val_lt hb.wds
    have h3 : 4294967296 ^ A.length ≤ 4294967296 ^ max A.length B.length := Nat.pow_le_pow_right (by decide) (by omega)
    have h4 : 4294967296 ^ B.length ≤ 4294967296 ^ max A.length B.length := Nat.pow_le_pow_right (by decide) (by omega)
    rw [hie, pow_succ] at hv
    generalize 4294967296 ^ max A.length B.length = P at *
    rcases Nat.eq_zero_or_pos c with h | h
    · exact h
    · have : P * 4294967296 * 1 ≤ P * 4294967296 * c := Nat.mul_le_mul_left _ h
      omega
  subst hc0
  rw [Nat.mul_zero, Nat.add_zero] at hv
  refine c_sealO O .here hO (by unfold maxLen; omega) (fun I1 hx1 hs1 => ?_)
  refine cR ?_
  refine oV ?_
  refine o_callI trivial rfl Tryz.call116 rfl (rTrim_any _ _ hs1 (by omega)) ?_
  rintro u2 I2 hx2 hs2'
  refine oV ?_
  refine oN (tC (cT ?_))
  refine ret1 rfl rfl ?_
  refine leaf (hx1.trans hx2 (Nat.le_refl _)) (List.nil_sublist _) ?_; rw [hv] at hs2'; exact hs2'
theorem rSub_any (va vb : Value) (A B : List Nat) {I : Hp} (ha : Ws I va A) (hb : Ws I vb B) (hs : A.length ≤ 100000000) (hs2 : B.length ≤ 100000000) (hle : val B ≤ val A) : Fun Tryz.prog 146 [va, vb] I [] (fun v I' _ => ∃ u, v = .tuple #[u, .bool true] ∧ Ws I' u (natW (val A - val B))) := by
  have hcmp : ¬ cmpZ (val A : Nat) (val B : Nat) < 0 := by unfold cmpZ; split <;> (try split) <;> omega
  intro w hw
  refine enter2 _ Tryz.func146 rfl Tryz.ntmps146 rfl ?_ hw
  refine cS (cR ?_)
  iterate 2 refine oV ?_
  refine oN (tC (cS (cS (cR ?_))))
  iterate 2 refine oV ?_
  refine o_callQ trivial rfl Tryz.call145 rfl (rCmp_any _ _ _ _ ha hb (by omega) (by omega)) ?_
  refine oV ?_
  refine oN (tC ?_)
  refine cC rfl (fun h1 => ?_) (fun h1 => ?_)
  ·
   have f1 := h1
   try simp only [bl] at f1
   exfalso; exact hcmp f1
  have f1 := h1
  try simp only [bl] at f1
  refine cK (tC (cS (cR ?_)))
  refine oV ?_
  refine oN (tC (cS (cR ?_)))
  refine oV ?_
  refine oN (tC (cS (cS (cR ?_))))
  refine oV ?_
  refine oN (tC (cB ?_))
  refine c_loop (ι := Nat × Nat × List Nat × Value) [0, 1] (.cons rfl (.cons rfl .nil)) (fun x => A.length - x.1) (fun x E0 => (6, x.2.2.2) :: (7, .int .u64 (x.2.1 : Nat)) :: (8, .int .i64 (x.1 : Nat)) :: E0) (fun x => St w [] I [.row x.2.2.2 101 1 x.2.2.1.length (wl x.2.2.1)]) (fun x => x.1 ≤ A.length ∧ x.2.1 ≤ 1 ∧ x.2.2.1.length = x.1 ∧ Wds x.2.2.1 ∧ val x.2.2.1 + pre B x.1 = pre A x.1 + 4294967296 ^ x.1 * x.2.1) ((0, 0, [], .slice none 0 0)) (sC rfl (sC rfl (sC rfl (sC rfl (sC rfl sN))))) (fun _ h => h.nilRow _ _) (⟨Nat.zero_le _, by decide, rfl, Wds_nil, rfl⟩) ?_
  rintro ⟨i, c, O, u⟩ ⟨hi, hc, hol, hO, hv⟩
  try dsimp only
  simp only at hi hc hol hO hv; have hda := dg_lt ha.wds i; have hdb := dg_lt hb.wds i
  refine cS (cS (cR ?_))
  iterate 2 refine oV ?_
  refine o_lenW trivial rfl Tryz.underlying40 rfl (ha) ?_
  refine oV ?_
  refine oN (tC ?_)
  refine cC rfl (fun h2 => ?_) (fun h2 => ?_)
  ·
   have f2 := h2
   try simp only [bl] at f2
   refine cK (tC (cS (cB (cS (cR ?_)))))
   iterate 2 refine oV ?_
   refine o_callQ trivial rfl Tryz.call164 rfl (rAt_any _ A _ i ha rfl) ?_
   first | refine o_arA trivial rfl rfl rfl (by rw [IntWalk.u64_in _ (by omega)]) ?_ | refine oV ?_
   iterate 2 refine oV ?_
   refine o_callQ trivial rfl Tryz.call164 rfl (rAt_any _ B _ i hb rfl) ?_
   first | refine o_arS trivial rfl rfl rfl (by rw [IntWalk.u64_in _ (by omega)]) ?_ | refine oV ?_
   refine oV ?_
   first | refine o_arS trivial rfl rfl rfl (by rw [IntWalk.u64_in _ (by omega)]) ?_ | refine oV ?_
   refine oV ?_
   refine oN (tC (cS (cR ?_)))
   iterate 2 refine oV ?_
   refine o_rem trivial rfl rfl rfl (by omega) ?_
   refine o_convIn trivial rfl Tryz.underlying136 Tryz.underlying101 rfl (by rw [IntWalk.u32_in _ (by omega)]) ?_
   refine o_buildSl trivial rfl Tryz.underlying40 Tryz.sizeOf101 Tryz.zeroValue101 (by decide) (by decide) rfl (by repeat first | exact rfl | constructor) rfl (fun b34 => ?_)
   refine o_appendBox trivial rfl Tryz.underlying40 (elem101) (by decide) rfl rfl (fun v' => (by repeat constructor)) (by repeat constructor) rfl (by first | rfl | decide) (by first | omega | (unfold maxLen; omega)) (by omega) (fun v35 => ?_)
   refine oV ?_
   refine oN (tC (cR ?_))
   refine oV ?_
   refine o_quo trivial rfl rfl rfl (by omega) (by first | rfl | rw [IntWalk.u64_in _ (by omega)]) ?_
   first | refine o_arS trivial rfl rfl rfl (by rw [IntWalk.u64_in _ (by omega)]) ?_ | refine oV ?_
   refine oV ?_
   refine oN (blk_n (tC (cR ?_)))
   refine oV ?_
   first | (refine o_add trivial rfl rfl rfl ?_ ?_; (omega)) | refine oV ?_
   refine oV ?_
   refine oN ?_
   have hst := diff_step (s := (4294967296 + dg A i - dg B i - c) % 4294967296) (c' := 1 - (4294967296 + dg A i - dg B i - c) / 4294967296) (a := dg A i) (b := dg B i) hol hv (by omega)
   have e7 : (1 : Int) - (4294967296 + (dg A i : Int) - (dg B i : Int) - (c : Int)) / 4294967296 = ((1 - (4294967296 + dg A i - dg B i - c) / 4294967296 : Nat) : Int) := by omega
   exact again (i + 1, 1 - (4294967296 + dg A i - dg B i - c) / 4294967296, O ++ [(4294967296 + dg A i - dg B i - c) % 4294967296], v35) (by rw [e7]; exact (sC rfl (sC rfl (sC rfl (sC rfl (sC rfl sN)))))) (fun _ h => by rw [← wl_more O (z := (4294967296 + (dg A i : Int) - (dg B i : Int) - (c : Int)) % 4294967296) (by omega), List.length_append]; exact h.sort (by repeat constructor)) (by show A.length - (i + 1) < A.length - i; omega) ⟨by show i + 1 ≤ _; omega, by show 1 - _ ≤ 1; omega, by show (O ++ [_]).length = i + 1; rw [List.length_append, hol]; rfl, hO.more (by omega), hst⟩
  have f2 := h2
  try simp only [bl] at f2
  refine c_exit (then_x (then_x (blk_eq rfl (tC (cS ?_)))))
  have hie : i = A.length := by omega
  subst hie
  rw [pre_end (Nat.le_refl _)] at hv
  have hB : pre B A.length = val B := by
    rcases Nat.lt_or_ge A.length B.length with hlt | hge
    · have h1 := val_split (l := B) (i := A.length) (by omega)
      have h2 := val_lt ha.wds
      have h3 : val (B.drop A.length) = 0 := by
        rcases Nat.eq_zero_or_pos (val (B.drop A.length)) with h | h
        · exact h
        · have : 4294967296 ^ A.length * 1 ≤ 4294967296 ^ A.length * val (B.drop A.length) := Nat.mul_le_mul_left _ h
          omega
      rw [h3, Nat.mul_zero] at h1
      omega
    · exact pre_end hge
  have hc0 : c = 0 := by
    have h2 := val_lt hO
    rw [hol] at h2
    rw [hB] at hv
    rcases Nat.eq_zero_or_pos c with h | h
    · exact h
    · have : 4294967296 ^ A.length * 1 ≤ 4294967296 ^ A.length * c := Nat.mul_le_mul_left _ h
      omega
  subst hc0
  rw [hB, Nat.mul_zero, Nat.add_zero] at hv
  refine c_sealO O .here hO (by unfold maxLen; omega) (fun I1 hx1 hs1 => ?_)
  refine cR ?_
  refine oV ?_
  refine o_callI trivial rfl Tryz.call116 rfl (rTrim_any _ _ hs1 (by omega)) ?_
  rintro u2 I2 hx2 hs2'
  iterate 2 refine oV ?_
  refine oN (tC (cT ?_))
  refine ret2 rfl rfl rfl ?_
  refine leaf (hx1.trans hx2 (Nat.le_refl _)) (List.nil_sublist _) ⟨u2, rfl, ?_⟩; rw [show val O = val A - val B by omega] at hs2'; exact hs2'
theorem rOne_any (va : Value) (A : List Nat) (y c0 : Nat) {I : Hp} (ha : Ws I va A) (hs : A.length ≤ 100000000) (hy : y < 4294967296) (hc0 : c0 < 4294967296) : Fun Tryz.prog 148 [va, .int .u32 (y : Int), .int .u32 (c0 : Int)] I [] (fun v I' _ => Ws I' v (natW (val A * y + c0))) := by
  intro w hw
  refine enter3 _ Tryz.func148 rfl Tryz.ntmps148 rfl ?_ hw
  refine cS (cR ?_)
  refine oV ?_
  refine oN (tC (cS (cR ?_)))
  refine oV ?_
  refine oN (tC (cS (cR ?_)))
  refine oV ?_
  first | refine o_convIn trivial rfl Tryz.underlying101 Tryz.underlying136 rfl (by rw [IntWalk.u64_in _ (by omega)]) ?_ | refine o_conv trivial rfl Tryz.underlying101 Tryz.underlying136 rfl ?_
  refine oV ?_
  refine oN (tC (cS (cS (cR ?_))))
  refine oV ?_
  refine oN (tC (cB ?_))
  refine c_loop (ι := Nat × Nat × List Nat × Value) [0, 1] (.cons rfl (.cons rfl .nil)) (fun x => A.length - x.1) (fun x E0 => (7, x.2.2.2) :: (8, .int .u64 (x.2.1 : Nat)) :: (9, .int .i64 (x.1 : Nat)) :: E0) (fun x => St w [] I [.row x.2.2.2 101 1 x.2.2.1.length (wl x.2.2.1)]) (fun x => x.1 ≤ A.length ∧ x.2.1 < 4294967296 ∧ x.2.2.1.length = x.1 ∧ Wds x.2.2.1 ∧ val x.2.2.1 + 4294967296 ^ x.1 * x.2.1 = pre A x.1 * y + c0) ((0, c0, [], .slice none 0 0)) (sC rfl (sC rfl (sC rfl (sC rfl (sC rfl sN))))) (fun _ h => h.nilRow _ _) (⟨Nat.zero_le _, hc0, rfl, Wds_nil, by show 0 + 4294967296 ^ 0 * c0 = 0 * y + c0; omega⟩) ?_
  rintro ⟨i, c, O, u⟩ ⟨hi, hc, hol, hO, hv⟩
  try dsimp only
  simp only at hi hc hol hO hv; have hda := dg_lt ha.wds i; have hmw := word_mul hda hy hc
  refine cS (cS (cR ?_))
  iterate 2 refine oV ?_
  refine o_lenW trivial rfl Tryz.underlying40 rfl (ha) ?_
  refine oV ?_
  refine oN (tC ?_)
  refine cC rfl (fun h1 => ?_) (fun h1 => ?_)
  ·
   have f1 := h1
   try simp only [bl] at f1
   refine cK (tC (cS (cB (cS (cR ?_)))))
   iterate 2 refine oV ?_
   refine o_elemW trivial rfl Tryz.underlying40 Tryz.sizeOf101 rfl (ha) rfl (by omega) ?_
   refine o_load1I trivial rfl Tryz.isAgg101 rfl (ha.cellI (k := i) rfl (by omega)) ?_
   first | refine o_convIn trivial rfl Tryz.underlying101 Tryz.underlying136 rfl (by rw [IntWalk.u64_in _ (by omega)]) ?_ | refine o_conv trivial rfl Tryz.underlying101 Tryz.underlying136 rfl ?_
   refine oV ?_
   first | refine o_convIn trivial rfl Tryz.underlying101 Tryz.underlying136 rfl (by rw [IntWalk.u64_in _ (by omega)]) ?_ | refine o_conv trivial rfl Tryz.underlying101 Tryz.underlying136 rfl ?_
   rw [show (dg A i : Int) = ((dg A i : Nat) : Int) from rfl]
   first | refine o_arM trivial rfl rfl rfl (by rw [IntWalk.u64_in _ (by rw [← Int.natCast_mul]; omega)]) ?_ | refine oV ?_
   refine oV ?_
   rw [← Int.natCast_mul]
   first | refine o_arA trivial rfl rfl rfl (by rw [IntWalk.u64_in _ (by omega)]) ?_ | refine oV ?_
   refine oV ?_
   refine oN (tC (cS (cR ?_)))
   iterate 2 refine oV ?_
   refine o_rem trivial rfl rfl rfl (by omega) ?_
   refine o_convIn trivial rfl Tryz.underlying136 Tryz.underlying101 rfl (by rw [IntWalk.u32_in _ (by omega)]) ?_
   refine o_buildSl trivial rfl Tryz.underlying40 Tryz.sizeOf101 Tryz.zeroValue101 (by decide) (by decide) rfl (by repeat first | exact rfl | constructor) rfl (fun b33 => ?_)
   refine o_appendBox trivial rfl Tryz.underlying40 (elem101) (by decide) rfl rfl (fun v' => (by repeat constructor)) (by repeat constructor) rfl (by first | rfl | decide) (by first | omega | (unfold maxLen; omega)) (by omega) (fun v34 => ?_)
   refine oV ?_
   refine oN (tC (cR ?_))
   refine oV ?_
   refine o_quo trivial rfl rfl rfl (by omega) (by first | rfl | rw [IntWalk.u64_in _ (by omega)]) ?_
   refine oV ?_
   refine oN (blk_n (tC (cR ?_)))
   refine oV ?_
   first | (refine o_add trivial rfl rfl rfl ?_ ?_; (omega)) | refine oV ?_
   refine oV ?_
   refine oN ?_
   have hst := sum_step (s := (dg A i * y + c) % 4294967296) (c' := (dg A i * y + c) / 4294967296) (a := dg A i * y) hol hv (by omega)
   exact again (i + 1, (dg A i * y + c) / 4294967296, O ++ [(dg A i * y + c) % 4294967296], v34) (sC rfl (sC rfl (sC rfl (sC rfl (sC rfl sN))))) (fun _ h => by rw [← wl_more O (z := (((dg A i * y : Nat) : Int) + (c : Int)) % 4294967296) (by omega), List.length_append]; exact h.sort (by repeat constructor)) (by show A.length - (i + 1) < A.length - i; omega) ⟨by show i + 1 ≤ _; omega, by show (dg A i * y + c) / 4294967296 < 4294967296; omega, by show (O ++ [_]).length = i + 1; rw [List.length_append, hol]; rfl, hO.more (by omega), by
     show val (O ++ [_]) + 4294967296 ^ (i + 1) * _ = (pre A i + dg A i * 4294967296 ^ i) * y + c0
     rw [hst, Nat.add_mul, Nat.mul_right_comm]; omega⟩
  have f1 := h1
  try simp only [bl] at f1
  refine c_exit (then_x (then_x (blk_eq rfl (tC (cS ?_)))))
  have hie : i = A.length := by omega
  subst hie
  rw [pre_end (Nat.le_refl _)] at hv
  refine cR ?_
  iterate 2 refine oV ?_
  refine o_convIn trivial rfl Tryz.underlying136 Tryz.underlying101 rfl (by rw [IntWalk.u32_in _ (by omega)]) ?_
  refine o_buildSl trivial rfl Tryz.underlying40 Tryz.sizeOf101 Tryz.zeroValue101 (by decide) (by decide) rfl (by repeat first | exact rfl | constructor) rfl (fun b40 => ?_)
  refine o_appendBox trivial rfl Tryz.underlying40 (elem101) (by decide) rfl rfl (fun v' => (by repeat constructor)) (by repeat constructor) rfl (by first | rfl | decide) (by first | omega | (unfold maxLen; omega)) (by omega) (fun v41 => ?_)
  refine oV ?_
  refine oN (tC (cS ?_))
  rw [show wl O ++ ([Value.int .u32 (c : Int)] ++ []) = wl (O ++ [c]) from wl_more O rfl]
  refine c_sealO (O ++ [c]) (by rw [List.length_append]; exact .there .here) (hO.more hc) (by rw [List.length_append, hol]; have := ha.most; unfold maxLen at *; show A.length + 1 ≤ _; omega) (fun I1 hx1 hs1 => ?_)
  rw [← hol, ← val_more] at hv
  refine cR ?_
  refine oV ?_
  refine o_callI trivial rfl Tryz.call116 rfl (rTrim_any _ _ hs1 (by rw [List.length_append, hol]; show A.length + 1 ≤ _; omega)) ?_
  rintro u2 I2 hx2 hs2'
  refine oV ?_
  refine oN (tC (cT ?_))
  refine ret1 rfl rfl ?_
  refine leaf (hx1.trans hx2 (Nat.le_refl _)) (List.nil_sublist _) ?_; rw [hv] at hs2'; exact hs2'
theorem rShift_any (va : Value) (A : List Nat) (m : Nat) {I : Hp} (ha : Ws I va A) (hs : A.length ≤ 1000000) (hm : m ≤ 100000) : Fun Tryz.prog 147 [va, .int .i64 (m : Int)] I [] (fun v I' _ => Ws I' v (natW (val A * 2 ^ m))) := by
  have hA := val_lt ha.wds
  intro w hw
  refine enter2 _ Tryz.func147 rfl Tryz.ntmps147 rfl ?_ hw
  refine cS (cR ?_)
  refine oV ?_
  refine oN (tC (cS (cR ?_)))
  refine oV ?_
  refine o_callI trivial rfl Tryz.call116 rfl (rTrim_any _ _ ha (by omega)) ?_
  rintro u1 I1 hx1 hs1
  refine oV ?_
  refine oN (tC (cS (cS (cR ?_))))
  refine oV ?_
  refine oN (tC (cB ?_))
  refine c_loop (ι := Nat × Value × Hp) [1] (.cons rfl .nil) (fun x => m - x.1) (fun x E0 => (5, x.2.1) :: (6, .int .i64 (x.1 : Nat)) :: E0) (fun x => St w [] x.2.2 []) (fun x => x.1 ≤ m ∧ Ws x.2.2 x.2.1 (natW (val A * 2 ^ x.1)) ∧ Ext w.heap.size I x.2.2) ((0, u1, I1)) (sC rfl (sC rfl (sC rfl sN))) (fun _ h => h) (⟨Nat.zero_le _, by show Ws I1 u1 (natW (val A * 1)); rw [Nat.mul_one]; exact hs1, hx1⟩) ?_
  rintro ⟨i, u, I2⟩ ⟨hi, hu, hx2⟩
  try dsimp only
  simp only at hi hu hx2
  refine cS (cS (cR ?_))
  iterate 3 refine oV ?_
  refine' o_and trivial trivial rfl rfl rfl rfl rfl rfl rfl rfl (fun hb12 => ?_) ?_
  rotate_left
  ·
   iterate 2 refine o_pv (wS rfl rfl hb12) rfl rfl ?_
   refine oN ?_
   exact joins rfl
  refine' o_and trivial trivial rfl rfl rfl rfl rfl rfl rfl rfl (fun hb16 => ?_) ?_
  rotate_left
  ·
   have fb16 := hb16
   try simp only [bl] at fb16
   refine o_pv (wS rfl rfl hb16) rfl rfl ?_
   refine o_lenW (wS rfl rfl hb16) rfl Tryz.underlying40 rfl (hu) ?_
   refine o_pv (wS rfl rfl hb16) rfl rfl ?_
   refine oN ?_
   exact joins rfl
  refine oN (tC ?_)
  refine cC rfl (fun h1 => ?_) (fun h1 => ?_)
  ·
   have f1 := h1
   try simp only [bl] at f1
   have hl1 : (natW (val A * 2 ^ i)).length ≤ A.length + (i + 1) := natW_len_le (by
     rw [Nat.pow_add]
     refine Nat.mul_lt_mul'' hA ?_
     have h2 : 2 ^ i < 2 ^ (32 * (i + 1)) := Nat.pow_lt_pow_right (by decide) (by omega)
     rwa [Nat.pow_mul] at h2)
   refine cK (tC (cS (cB (cR ?_))))
   refine oV ?_
   refine o_callI trivial rfl Tryz.call148 rfl (rOne_any _ _ 2 0 hu (by omega) (by decide) (by decide)) ?_
   rintro u3 I3 hx3 hs3
   refine oV ?_
   refine oN (blk_n (tC (cR ?_)))
   refine oV ?_
   first | (refine o_add trivial rfl rfl rfl ?_ ?_; (omega)) | refine oV ?_
   refine oV ?_
   refine oN ?_
   rw [val_natW, Nat.add_zero, Nat.mul_assoc, ← Nat.pow_succ] at hs3
   exact again (i + 1, u3, I3) (sC rfl (sC rfl (sC rfl sN))) (fun _ h => h) (by show m - (i + 1) < m - i; omega) ⟨by show i + 1 ≤ _; omega, hs3, hx2.trans hx3 (Nat.le_refl _)⟩
  have f1 := h1
  try simp only [bl] at f1
  refine c_exit (then_x (then_x (blk_eq rfl (tC (cS (cR ?_))))))
  iterate 2 refine oV ?_
  refine oN (tC (cT ?_))
  refine ret1 rfl rfl ?_
  refine leaf hx2 (List.nil_sublist _) ?_
  by_cases him : i = m
  · subst him; exact hu
  · have h0 : val A * 2 ^ i = 0 := natW_len_zero.1 (by omega)
    have hp : 0 < 2 ^ i := Nat.pow_pos (by decide)
    have h1 : val A = 0 := by
      rcases Nat.mul_eq_zero.1 h0 with h | h
      · exact h
      · omega
    rw [h1, Nat.zero_mul] at hu ⊢
    exact hu
end Go.Proofs.YtmgpifkekofacaaGreatDoor
namespace Go.Tw
open Go
theorem bits_one {a : Nat} (ha : a < 4294967296) : bits .and .u32 (a : Int) ((1 : Nat) : Int) = ((a % 2 : Nat) : Int) := by
  have h1 : (BitVec.ofInt 32 (a : Int)).toNat = a := by
    rw [BitVec.ofInt_natCast, BitVec.toNat_ofNat]; exact Nat.mod_eq_of_lt (by omega)
  have h2 : (BitVec.ofInt 32 ((1 : Nat) : Int)).toNat = 1 := by
    rw [BitVec.ofInt_natCast, BitVec.toNat_ofNat]
  show IntKind.u32.wrap ((BitVec.ofInt 32 (a : Int) &&& BitVec.ofInt 32 ((1 : Nat) : Int)).toNat : Int) = _
  rw [BitVec.toNat_and, h1, h2, Nat.and_one_is_mod, IntWalk.u32_in _ (by omega)]
section
variable {P : Program} {ops : Array Oper} {rest : List Oper} {n : Nat} {D : List Deferred} {E : Env} {S : World → Prop} {Q : Exit → Act → World → Prop} {d : Nat} {ty : TypeId} {pos : String} {aft : Array Edge} {g : Option (Nat × Bool)}
theorem o_and1 {qm : Bool} {x y : Operand} {t t2 : TypeId} {a : Nat} (hg : Wants ops E g) (hd : Nat.blt d n = true) (hx : ev E x = some (.int .u32 (a : Int))) (hy : ev E y = some (.int .u32 1)) (h : a < 4294967296)
    (k : TL qm P ops Q rest n D ((d, .int .u32 ((a % 2 : Nat) : Int)) :: E) S) : TL qm P ops Q (⟨some d, .binOp .and t x y t2, ty, pos, aft, g⟩ :: rest) n D E S :=
  o_rd hg hd (v := .int .u32 ((a % 2 : Nat) : Int)) (fun a w ha hw d pos aft g => ⟨w, by
    simp only [execOp, ha.ev hx, ha.ev hy, Sem.run_bind, run_eqGuard_int, Result.andThen_ok]
    rw [binOp_and, intBits_and, show (1 : Int) = ((1 : Nat) : Int) from rfl, bits_one h]
    simp, rfl⟩) k
end
theorem val_bit {A : List Nat} (hA : Wds A) {i : Nat} (h : i / 32 < A.length) : dg A (i / 32) / 2 ^ (i % 32) % 2 = val A / 2 ^ i % 2 := by
  have hr : i % 32 < 32 := Nat.mod_lt _ (by decide)
  have h1 := val_split (l := A) (i := i / 32) (by omega)
  have h2 := val_drop h
  have h3 : 2 ^ i = 4294967296 ^ (i / 32) * 2 ^ (i % 32) := by
    rw [pow_bits, ← Nat.pow_add]; congr 1; omega
  have h4 : val A / 4294967296 ^ (i / 32) = val (A.drop (i / 32)) := by
    rw [h1, Nat.add_mul_div_left _ _ (pow_pos _), Nat.div_eq_of_lt (pre_lt hA _), Nat.zero_add]
  have h5 : (4294967296 : Nat) = 2 ^ (i % 32) * (2 * 2 ^ (31 - i % 32)) := by
    rw [← Nat.pow_succ', ← Nat.pow_add, show i % 32 + (31 - i % 32).succ = 32 by omega]
  rw [h3, ← Nat.div_div_eq_div_mul, h4, h2, h5, Nat.mul_assoc, Nat.mul_assoc, Nat.add_mul_div_left _ _ (Nat.pow_pos (by decide)), Nat.add_mul_mod_self_left]
theorem bit_step {a i d q r : Nat} (hd : 0 < d) (hq : q = a / 2 ^ (i + 1) / d) (hr : r = a / 2 ^ (i + 1) % d) :
    (d ≤ 2 * r + a / 2 ^ i % 2 → 2 * q + 1 = a / 2 ^ i / d ∧ 2 * r + a / 2 ^ i % 2 - d = a / 2 ^ i % d) ∧ (¬ d ≤ 2 * r + a / 2 ^ i % 2 → 2 * q = a / 2 ^ i / d ∧ 2 * r + a / 2 ^ i % 2 = a / 2 ^ i % d) := by
  have h1 : a / 2 ^ (i + 1) = a / 2 ^ i / 2 := by rw [Nat.pow_succ, Nat.div_div_eq_div_mul]
  have h2 : r < d := by rw [hr]; exact Nat.mod_lt _ hd
  have h3 := Nat.div_add_mod (a / 2 ^ (i + 1)) d
  rw [← hq, ← hr, h1] at h3
  generalize a / 2 ^ i = b at *
  have hb : b % 2 < 2 := Nat.mod_lt _ (by decide)
  have hm : d * (2 * q) = 2 * (d * q) := Nat.mul_left_comm _ _ _
  constructor
  · intro h
    exact div_unique (by rw [Nat.mul_comm, Nat.mul_add, Nat.mul_one, hm]; omega) (by omega)
  · intro h
    exact div_unique (by rw [Nat.mul_comm, hm]; omega) (by omega)
end Go.Tw
namespace Go.Proofs.YtmgpifkekofacaaGreatDoor
open Go Go.Tw
theorem rBit_any (va : Value) (A : List Nat) (i : Nat) {I : Hp} (ha : Ws I va A) (hs : A.length ≤ 1000000) (hi : i < 32 * A.length) : Fun Tryz.prog 149 [va, .int .i64 (i : Int)] I [] (fun v _ _ => v = .int .u32 ((val A / 2 ^ i % 2 : Nat) : Int)) := by
  have hd := dg_lt ha.wds (i / 32)
  have hd2 : dg A (i / 32) / 2 ^ (i % 32) ≤ dg A (i / 32) := Nat.div_le_self _ _
  intro w hw
  refine enter2 _ Tryz.func149 rfl Tryz.ntmps149 rfl ?_ hw
  refine cS (cR ?_)
  refine oV ?_
  refine oN (tC (cS (cR ?_)))
  iterate 2 refine oV ?_
  refine o_quo trivial rfl rfl rfl (by omega) (by first | rfl | rw [IntWalk.i64_in _ (by omega)]) ?_
  rw [show (i : Int) / 32 = ((i / 32 : Nat) : Int) by omega]
  refine o_elemW trivial rfl Tryz.underlying40 Tryz.sizeOf101 rfl (ha) rfl (by omega) ?_
  refine o_load1I trivial rfl Tryz.isAgg101 rfl (ha.cellI (k := i / 32) rfl (by omega)) ?_
  refine oV ?_
  refine o_rem trivial rfl rfl rfl (by omega) ?_
  rw [show (i : Int) % 32 = ((i % 32 : Nat) : Int) by omega]
  refine o_shr (2 ^ (i % 32)) trivial rfl rfl rfl (by omega) (by rw [Int.toNat_natCast, show min (i % 32) IntKind.u32.bits = i % 32 from Nat.min_eq_left (by show i % 32 ≤ 32; omega)]) (by omega) ?_
  rw [show (dg A (i / 32) : Int) / ((2 ^ (i % 32) : Nat) : Int) = ((dg A (i / 32) / 2 ^ (i % 32) : Nat) : Int) from (Int.natCast_ediv _ _).symm]
  refine o_and1 trivial rfl rfl rfl (by omega) ?_
  refine oV ?_
  refine oN (tC (cT ?_))
  refine ret1 rfl rfl ?_
  refine leaf0 (congrArg (Value.int .u32) ?_); rw [val_bit ha.wds (by omega)]
theorem dbl_len {n b k : Nat} (h : (natW n).length ≤ k) (hb : (natW b).length ≤ k) : (natW (2 * n + b)).length ≤ k + 2 := by
  rw [Nat.two_mul]
  exact natW_add_len _ _ (k + 1) (natW_add_len _ _ k h h) (by omega)
theorem one_len {b : Nat} (h : b ≤ 1) : (natW b).length ≤ 1 := natW_len_le (by rw [Nat.pow_one]; omega)
theorem rDiv_any (va vb : Value) (A B : List Nat) {I : Hp} (ha : Ws I va A) (hb : Ws I vb B) (hs : A.length ≤ 100000) (hs2 : B.length ≤ 100000) (h0 : 0 < val B) : Fun Tryz.prog 124 [va, vb] I [] (fun v I' _ => ∃ u1 u2, v = .tuple #[u1, u2, .bool true] ∧ Ws I' u1 (natW (val A / val B)) ∧ Ws I' u2 (natW (val A % val B))) := by
  have hbl : (natW (val B)).length ≤ B.length := natW_len_list hb.wds
  have hbz : (natW (val B)).length ≠ 0 := fun e => by have := natW_len_zero.1 e; omega
  have hA : val A < 2 ^ (32 * A.length) := by have := val_lt ha.wds; rwa [pow_bits] at this
  have hal : (natW (val A)).length ≤ A.length := natW_len_list ha.wds
  intro w hw
  refine enter2 _ Tryz.func124 rfl Tryz.ntmps124 rfl ?_ hw
  refine cS (cR ?_)
  iterate 3 refine oV ?_
  refine oN (tC (cS (cR ?_)))
  refine oV ?_
  refine o_callI trivial rfl Tryz.call116 rfl (rTrim_any _ _ hb (by omega)) ?_
  rintro u1 I1 hx1 hs1
  refine oV ?_
  refine oN (tC (cS (cS (cR ?_))))
  refine oV ?_
  refine o_lenW trivial rfl Tryz.underlying40 rfl (hs1) ?_
  refine oV ?_
  refine oN (tC ?_)
  refine cC rfl (fun h1 => ?_) (fun h1 => ?_)
  ·
   have f1 := h1
   try simp only [bl] at f1
   exfalso; omega
  have f1 := h1
  try simp only [bl] at f1
  refine cK (tC (cS (cR ?_)))
  refine oV ?_
  refine oN (tC (cS (cR ?_)))
  refine oV ?_
  refine oN (tC (cS (cS (cR ?_))))
  refine oV ?_
  refine o_lenW trivial rfl Tryz.underlying40 rfl (ha) ?_
  first | (refine o_mul trivial rfl rfl rfl ?_ ?_; (omega)) | refine oV ?_
  first | (refine o_sub trivial rfl rfl rfl ?_ ?_; (omega)) | refine oV ?_
  refine oV ?_
  refine oN (tC (cB ?_))
  refine c_loop (ι := Nat × Int × Value × Value × Hp) [0, 7] (.cons rfl (.cons rfl .nil)) (fun x => x.1) (fun x E0 => (8, x.2.2.1) :: (9, x.2.2.2.1) :: (10, .int .i64 x.2.1) :: E0) (fun x => St w [] x.2.2.2.2 []) (fun x => x.1 ≤ 32 * A.length ∧ x.2.1 = (x.1 : Int) - 1 ∧ Ws x.2.2.2.2 x.2.2.1 (natW (val A / 2 ^ x.1 / val B)) ∧ Ws x.2.2.2.2 x.2.2.2.1 (natW (val A / 2 ^ x.1 % val B)) ∧ Ext w.heap.size I x.2.2.2.2 ∧ I1.Le x.2.2.2.2) ((32 * A.length, 32 * (A.length : Int) - 1, .slice none 0 0, .slice none 0 0, I1)) (sC rfl (sC rfl (sC rfl (sC rfl (sC rfl sN))))) (fun _ h => h) (⟨Nat.le_refl _, by simp only; omega, by simp only; rw [Nat.div_eq_of_lt hA, Nat.zero_div, natW_zero]; exact Ws.nil _, by simp only; rw [Nat.div_eq_of_lt hA, Nat.zero_mod, natW_zero]; exact Ws.nil _, hx1, Hp.Le.refl _⟩) ?_
  rintro ⟨j, z, uq, ur, I2⟩ ⟨hj, hz, hq, hr, hx2, hle⟩
  try dsimp only
  simp only at hj hz hq hr hx2 hle; subst hz
  refine cS (cS (cR ?_))
  iterate 2 refine oV ?_
  refine oN (tC ?_)
  refine cC rfl (fun h2 => ?_) (fun h2 => ?_)
  ·
   have f2 := h2
   try simp only [bl] at f2
   obtain ⟨i, rfl⟩ : ∃ i, j = i + 1 := ⟨j - 1, by omega⟩
   have hql : (natW (val A / 2 ^ (i + 1) / val B)).length ≤ 100000 := Nat.le_trans (natW_le_len (Nat.le_trans (Nat.div_le_self _ _) (Nat.div_le_self _ _))) (Nat.le_trans hal hs)
   have hrl : (natW (val A / 2 ^ (i + 1) % val B)).length ≤ 100000 := Nat.le_trans (natW_le_len (Nat.le_trans (Nat.mod_le _ _) (Nat.div_le_self _ _))) (Nat.le_trans hal hs)
   have hbs := bit_step (a := val A) (i := i) h0 rfl rfl
   have e1 : ((i + 1 : Nat) : Int) - 1 = (i : Nat) := by omega
   rw [e1]
   have hqv : val (natW (val A / 2 ^ (i + 1) / val B)) * 2 + 0 = 2 * (val A / 2 ^ (i + 1) / val B) := by rw [val_natW]; omega
   have hrv : val (natW (val A / 2 ^ (i + 1) % val B)) * 2 + val A / 2 ^ i % 2 = 2 * (val A / 2 ^ (i + 1) % val B) + val A / 2 ^ i % 2 := by rw [val_natW]; omega
   refine cK (tC (cS (cB (cS (cR ?_)))))
   refine oV ?_
   refine o_callI trivial rfl Tryz.call148 rfl (rOne_any _ _ 2 0 hq (by omega) (by decide) (by decide)) ?_
   rintro u3 I3 hx3 hs3
   refine oV ?_
   refine oN (tC (cS (cR ?_)))
   iterate 3 refine oV ?_
   refine o_callQ trivial rfl Tryz.call149 rfl (rBit_any _ A i (ha.le (hx2.le.trans hx3.le)) (by omega) (by omega)) ?_
   refine o_callI trivial rfl Tryz.call148 rfl (rOne_any _ _ 2 (val A / 2 ^ i % 2) (hr.le hx3.le) (by omega) (by decide) (by omega)) ?_
   rintro u4 I4 hx4 hs4
   refine oV ?_
   refine oN (tC (cS ?_))
   rw [hqv] at hs3
   rw [hrv] at hs4
   have hl3 := dbl_len (n := val A / 2 ^ (i + 1) / val B) (b := 0) hql (by rw [natW_zero]; exact Nat.zero_le _)
   rw [Nat.add_zero] at hl3
   have hl4 := dbl_len (n := val A / 2 ^ (i + 1) % val B) (b := val A / 2 ^ i % 2) hrl (Nat.le_trans (one_len (by omega)) (by decide))
   refine cR ?_
   iterate 2 refine oV ?_
   refine o_callQ trivial rfl Tryz.call145 rfl (rCmp_any _ _ _ _ hs4 (hs1.le (hle.trans (hx3.le.trans hx4.le))) (by omega) (by omega)) ?_
   refine oV ?_
   refine oN (tC ?_)
   refine cC rfl (fun h3 => ?_) (fun h3 => ?_)
   ·
    have f3 := h3
    try simp only [bl] at f3
    rw [val_natW, val_natW] at f3
    have hge : val B ≤ 2 * (val A / 2 ^ (i + 1) % val B) + val A / 2 ^ i % 2 := by unfold cmpZ at f3; split at f3 <;> (try split at f3) <;> omega
    obtain ⟨hb1, hb2⟩ := hbs.1 hge
    refine cS (cR ?_)
    iterate 2 refine oV ?_
    refine o_callI trivial rfl Tryz.call146 rfl (rSub_any _ _ _ _ hs4 (hs1.le (hle.trans (hx3.le.trans hx4.le))) (by omega) (by omega) (by rw [val_natW, val_natW]; exact hge)) ?_
    rintro _ I5 hx5 ⟨u5, rfl, hs5⟩
    iterate 4 refine oV ?_
    refine oN (tC (cR ?_))
    refine oV ?_
    refine o_callI trivial rfl Tryz.call148 rfl (rOne_any _ _ 1 1 (hs3.le (hx4.le.trans hx5.le)) (by omega) (by decide) (by decide)) ?_
    rintro u6 I6 hx6 hs6
    refine oV ?_
    refine oN (blk_n (tC (cR ?_)))
    refine oV ?_
    first | (refine o_sub trivial rfl rfl rfl ?_ ?_; (omega)) | refine oV ?_
    refine oV ?_
    refine oN ?_
    first
      | (rw [val_natW, val_natW, hb2] at hs5
         rw [val_natW, Nat.mul_one, hb1] at hs6
         exact again (i, (i : Int) - 1, u6, u5, I6) (sC rfl (sC rfl (sC rfl (sC rfl (sC rfl sN))))) (fun _ h => h) (by show i < i + 1; omega) ⟨by show i ≤ _; omega, rfl, hs6, hs5.le hx6.le, hx2.trans (hx3.trans (hx4.trans (hx5.trans hx6 (Nat.le_refl _)) (Nat.le_refl _)) (Nat.le_refl _)) (Nat.le_refl _), hle.trans (hx3.le.trans (hx4.le.trans (hx5.le.trans hx6.le)))⟩)
      | (rw [hb2] at hs4
         rw [hb1] at hs3
         exact again (i, (i : Int) - 1, u3, u4, I4) (sC rfl (sC rfl (sC rfl (sC rfl (sC rfl sN))))) (fun _ h => h) (by show i < i + 1; omega) ⟨by show i ≤ _; omega, rfl, hs3.le hx4.le, hs4, hx2.trans (hx3.trans hx4 (Nat.le_refl _)) (Nat.le_refl _), hle.trans (hx3.le.trans hx4.le)⟩)
   have f3 := h3
   try simp only [bl] at f3
   rw [val_natW, val_natW] at f3
   have hge : ¬ val B ≤ 2 * (val A / 2 ^ (i + 1) % val B) + val A / 2 ^ i % 2 := by unfold cmpZ at f3; split at f3 <;> (try split at f3) <;> omega
   obtain ⟨hb1, hb2⟩ := hbs.2 hge
   refine cK (blk_n (tC (cR ?_)))
   refine oV ?_
   first | (refine o_sub trivial rfl rfl rfl ?_ ?_; (omega)) | refine oV ?_
   refine oV ?_
   refine oN ?_
   first
     | (rw [val_natW, val_natW, hb2] at hs5
        rw [val_natW, Nat.mul_one, hb1] at hs6
        exact again (i, (i : Int) - 1, u6, u5, I6) (sC rfl (sC rfl (sC rfl (sC rfl (sC rfl sN))))) (fun _ h => h) (by show i < i + 1; omega) ⟨by show i ≤ _; omega, rfl, hs6, hs5.le hx6.le, hx2.trans (hx3.trans (hx4.trans (hx5.trans hx6 (Nat.le_refl _)) (Nat.le_refl _)) (Nat.le_refl _)) (Nat.le_refl _), hle.trans (hx3.le.trans (hx4.le.trans (hx5.le.trans hx6.le)))⟩)
     | (rw [hb2] at hs4
        rw [hb1] at hs3
        exact again (i, (i : Int) - 1, u3, u4, I4) (sC rfl (sC rfl (sC rfl (sC rfl (sC rfl sN))))) (fun _ h => h) (by show i < i + 1; omega) ⟨by show i ≤ _; omega, rfl, hs3.le hx4.le, hs4, hx2.trans (hx3.trans hx4 (Nat.le_refl _)) (Nat.le_refl _), hle.trans (hx3.le.trans hx4.le)⟩)
  have f2 := h2
  try simp only [bl] at f2
  refine c_exit (then_x (then_x (blk_eq rfl (tC (cS (cR ?_))))))
  iterate 5 refine oV ?_
  refine oN (tC (cT ?_))
  refine ret3 rfl rfl rfl rfl ?_
  have hj0 : j = 0 := by omega
  subst hj0
  rw [Nat.pow_zero, Nat.div_one] at hq hr
  exact leaf hx2 (List.nil_sublist _) ⟨uq, ur, rfl, hq, hr⟩
theorem rSmall_any (va : Value) (A : List Nat) (d : Nat) {I : Hp} (ha : Ws I va A) (hs : A.length ≤ 100000) (hd0 : 0 < d) (hd : d < 4294967296) : Fun Tryz.prog 117 [va, .int .u32 (d : Int)] I [] (fun v I' _ => ∃ u, v = .tuple #[u, .int .u32 ((val A % d : Nat) : Int), .bool true] ∧ Ws I' u (natW (val A / d))) := by
  have hv1 : val [d] = d := by rw [val_cons, val_nil]; omega
  intro w hw
  refine enter2 _ Tryz.func117 rfl Tryz.ntmps117 rfl ?_ hw
  refine cS (cR ?_)
  iterate 3 refine oV ?_
  refine oN (tC (cS (cR ?_)))
  iterate 2 refine oV ?_
  refine o_buildSl trivial rfl Tryz.underlying40 Tryz.sizeOf101 Tryz.zeroValue101 (by decide) (by decide) rfl (by repeat first | exact rfl | constructor) rfl (fun b13 => ?_)
  refine l_sealW [d] .here (Wds_cons hd Wds_nil) (by unfold maxLen; simp) (fun I1 hx1 hs1 => ?_)
  refine o_callI trivial rfl Tryz.call124 rfl (rDiv_any _ _ A [d] (ha.le hx1.le) hs1 hs (by simp) (by rw [hv1]; exact hd0)) ?_
  rintro _ I2 hx2 ⟨u1, u2, rfl, hq, hr⟩
  iterate 7 refine oV ?_
  refine oN (tC (cS (cS ?_)))
  rw [hv1] at hq hr
  have hrd : val A % d < d := Nat.mod_lt _ hd0
  have hrl := natW_len_le (n := val A % d) (k := 1) (by rw [Nat.pow_one]; omega)
  refine cR ?_
  refine oV ?_
  refine o_lenW trivial rfl Tryz.underlying40 rfl (hr) ?_
  refine oV ?_
  refine oN (tC ?_)
  refine cC rfl (fun h1 => ?_) (fun h1 => ?_)
  ·
   have f1 := h1
   try simp only [bl] at f1
   refine cS (cR ?_)
   iterate 5 refine oV ?_
   refine oN (tC (cT (tR ?_)))
   refine ret3 rfl rfl rfl rfl ?_
   have h0 : val A % d = 0 := natW_len_zero.1 (by omega)
   refine leaf (hx1.trans hx2 (Nat.le_refl _)) (List.nil_sublist _) ⟨u1, ?_, hq⟩; rw [h0]; rfl
  have f1 := h1
  try simp only [bl] at f1
  have h0 : val A % d ≠ 0 := fun e => f1 (by rw [e, natW_zero]; rfl)
  have hdg : dg (natW (val A % d)) 0 = val A % d := by rw [natW_pos h0]; show (val A % d) % 4294967296 = _; exact Nat.mod_eq_of_lt (by omega)
  refine cK (tC (cS ?_))
  refine c_quiet (by kernel_rfl) (by kernel_rfl) (fun _ h => h.drawn) ?_
  iterate 2 refine oV ?_
  refine o_elemW trivial rfl Tryz.underlying40 Tryz.sizeOf101 rfl (hr) rfl (by omega) ?_
  refine o_load1I trivial rfl Tryz.isAgg101 rfl (hr.cellI (k := 0) rfl (by omega)) ?_
  iterate 4 refine oV ?_
  refine oN (tC (cT ?_))
  refine ret3 rfl rfl rfl rfl ?_
  refine leaf (hx1.trans hx2 (Nat.le_refl _)) (List.nil_sublist _) ⟨u1, ?_, hq⟩; rw [hdg]; rfl
theorem natW_even {n : Nat} (h : n ≠ 0) : dg (natW n) 0 % 2 = n % 2 := by
  rw [natW_pos h]; show (n % 4294967296) % 2 = n % 2; omega
structure OddOf (n x k : Nat) : Prop where
  eq : n = 2 ^ k * x
  odd : x % 2 = 1
theorem rOdd_any (va : Value) (n : Nat) {I : Hp} (ha : Ws I va (natW n)) (hs : (natW n).length ≤ 100000) (h0 : 0 < n) : Fun Tryz.prog 144 [va] I [] (fun v I' _ => ∃ u x k, v = .tuple #[u, .int .i64 (k : Nat)] ∧ Ws I' u (natW x) ∧ OddOf n x k) := by
  intro w hw
  refine enter1 _ Tryz.func144 rfl Tryz.ntmps144 rfl ?_ hw
  refine cS (cR ?_)
  iterate 2 refine oV ?_
  refine oN (tC (cS (cR ?_)))
  refine oV ?_
  refine oN (tC (cS (cB ?_)))
  refine c_loop (ι := Nat × Nat × Value × Hp) [] .nil (fun x => x.1) (fun x E0 => (0, x.2.2.1) :: (4, .int .i64 (x.2.1 : Nat)) :: E0) (fun x => St w [] x.2.2.2 []) (fun x => 0 < x.1 ∧ n = 2 ^ x.2.1 * x.1 ∧ Ws x.2.2.2 x.2.2.1 (natW x.1) ∧ (natW x.1).length ≤ 100000 ∧ Ext w.heap.size I x.2.2.2) ((n, 0, va, I)) (sC rfl (sC rfl sN)) (fun _ h => h) (⟨h0, by simp, ha, hs, Ext.refl _ _⟩) ?_
  rintro ⟨m, k, u, I1⟩ ⟨hm0, he, hu, hl, hx1⟩
  try dsimp only
  simp only at hm0 he hu hl hx1; have hne : (natW m).length ≠ 0 := fun e => by have := natW_len_zero.1 e; omega
  refine cS (cS (cR ?_))
  refine oV ?_
  refine o_lenW trivial rfl Tryz.underlying40 rfl (hu) ?_
  refine oV ?_
  refine' o_and trivial trivial rfl rfl rfl rfl rfl rfl rfl rfl (fun hb8 => ?_) ?_
  rotate_left
  ·
   have fb8 := hb8
   try simp only [bl] at fb8
   refine o_pv (wS rfl rfl hb8) rfl rfl ?_
   refine o_elemW (wS rfl rfl hb8) rfl Tryz.underlying40 Tryz.sizeOf101 rfl (hu) rfl (by omega) ?_
   refine o_load1I (wS rfl rfl hb8) rfl Tryz.isAgg101 rfl (hu.cellI (k := 0) rfl (by omega)) ?_
   refine o_rem (wS rfl rfl hb8) rfl rfl rfl (by omega) ?_
   refine o_pv (wS rfl rfl hb8) rfl rfl ?_
   refine oN ?_
   exact joins rfl
  refine oN (tC ?_)
  refine cC rfl (fun h1 => ?_) (fun h1 => ?_)
  ·
   have f1 := h1
   try simp only [bl] at f1
   have hev := natW_even (n := m) (by omega)
   have hk64 : k < 32 * (natW n).length := by
     have h1 := val_lt (Wds_natW n)
     rw [val_natW, pow_bits] at h1
     have h2 : 2 ^ k ≤ n := by rw [he]; exact Nat.le_mul_of_pos_right _ hm0
     exact (Nat.pow_lt_pow_iff_right (by decide)).1 (Nat.lt_of_le_of_lt h2 h1)
   have hmm : m % 2 = 0 := by omega
   refine cK (tC (cB (cS (cR ?_))))
   refine oV ?_
   refine o_callI trivial rfl Tryz.call117 rfl (rSmall_any _ _ 2 hu hl (by decide) (by decide)) ?_
   rintro _ I2 hx2 ⟨u2, rfl, hs2⟩
   iterate 5 refine oV ?_
   refine oN (tC (cR ?_))
   refine oV ?_
   first | (refine o_add trivial rfl rfl rfl ?_ ?_; (omega)) | refine oV ?_
   refine oV ?_
   refine oN (blk_n ?_)
   rw [val_natW] at hs2
   exact again (m / 2, k + 1, u2, I2) (sC rfl (sC rfl sN)) (fun _ h => h) (by show m / 2 < m; omega) ⟨by show 0 < m / 2; omega, by show n = 2 ^ (k + 1) * (m / 2); rw [he, Nat.pow_succ, Nat.mul_assoc]; congr 1; omega, hs2, Nat.le_trans (natW_le_len (Nat.div_le_self _ _)) hl, hx1.trans hx2 (Nat.le_refl _)⟩
  have f1 := h1
  try simp only [bl] at f1
  refine c_exit (then_x (then_x (blk_eq rfl (tC (cS (cR ?_))))))
  iterate 4 refine oV ?_
  refine oN (tC (cT ?_))
  refine ret2 rfl rfl rfl ?_
  have hev := natW_even (n := m) (by omega)
  exact leaf hx1 (List.nil_sublist _) ⟨u, m, k, rfl, hu, he, by omega⟩
theorem OddOf.pos {n x k : Nat} (h : OddOf n x k) : 0 < x := by have := h.odd; omega
theorem OddOf.le {n x k : Nat} (h : OddOf n x k) : x ≤ n := by rw [h.eq]; exact Nat.le_mul_of_pos_left _ (Nat.pow_pos (by decide))
theorem OddOf.pow_lt {n x k L : Nat} (h : OddOf n x k) (hL : (natW n).length ≤ L) : k < 32 * L := by
  have h1 := val_lt (Wds_natW n)
  rw [val_natW, pow_bits] at h1
  have h2 : 2 ^ k ≤ n := by rw [h.eq]; exact Nat.le_mul_of_pos_right _ h.pos
  have h3 := (Nat.pow_lt_pow_iff_right (by decide)).1 (Nat.lt_of_le_of_lt h2 h1)
  omega
theorem rGcd_any (va vb : Value) (A B : List Nat) {I : Hp} (ha : Ws I va A) (hb : Ws I vb B) (hs : A.length ≤ 3000) (hs2 : B.length ≤ 3000) : Fun Tryz.prog 123 [va, vb] I [] (fun v I' _ => Ws I' v (natW (Nat.gcd (val A) (val B)))) := by
  have hal : (natW (val A)).length ≤ 3000 := Nat.le_trans (natW_len_list ha.wds) hs
  have hbl : (natW (val B)).length ≤ 3000 := Nat.le_trans (natW_len_list hb.wds) hs2
  intro w hw
  refine enter2 _ Tryz.func123 rfl Tryz.ntmps123 rfl ?_ hw
  refine cS (cR ?_)
  refine oV ?_
  refine oN (tC (cS (cR ?_)))
  refine oV ?_
  refine o_callI trivial rfl Tryz.call116 rfl (rTrim_any _ _ ha (by omega)) ?_
  rintro u1 I1 hx1 hs1
  refine oV ?_
  refine oN (tC (cS (cR ?_)))
  refine oV ?_
  refine o_callI trivial rfl Tryz.call116 rfl (rTrim_any _ _ (hb.le hx1.le) (by omega)) ?_
  rintro u2 I2 hx2 hs2'
  refine oV ?_
  refine oN (tC (cS (cS (cR ?_))))
  refine oV ?_
  refine o_lenW trivial rfl Tryz.underlying40 rfl (hs1.le hx2.le) ?_
  refine oV ?_
  refine oN (tC ?_)
  refine cC rfl (fun h1 => ?_) (fun h1 => ?_)
  ·
   have f1 := h1
   try simp only [bl] at f1
   refine cS (cR ?_)
   iterate 2 refine oV ?_
   refine oN (tC (cT (tR ?_)))
   refine ret1 rfl rfl ?_
   have h0 : val A = 0 := natW_len_zero.1 (by omega)
   refine leaf (hx1.trans hx2 (Nat.le_refl _)) (List.nil_sublist _) ?_; rw [h0, Nat.gcd_zero_left]; exact hs2'
  have f1 := h1
  try simp only [bl] at f1
  refine cK (tC (cS (cS (cR ?_))))
  refine oV ?_
  refine o_lenW trivial rfl Tryz.underlying40 rfl (hs2') ?_
  refine oV ?_
  refine oN (tC ?_)
  refine cC rfl (fun h2 => ?_) (fun h2 => ?_)
  ·
   have f2 := h2
   try simp only [bl] at f2
   refine cS (cR ?_)
   iterate 2 refine oV ?_
   refine oN (tC (cT (tR ?_)))
   refine ret1 rfl rfl ?_
   have h0 : val B = 0 := natW_len_zero.1 (by omega)
   refine leaf (hx1.trans hx2 (Nat.le_refl _)) (List.nil_sublist _) ?_; rw [h0, Nat.gcd_zero_right]; exact hs1.le hx2.le
  have f2 := h2
  try simp only [bl] at f2
  have hA0 : 0 < val A := Nat.pos_of_ne_zero fun e => f1 (by rw [e, natW_zero]; rfl)
  have hB0 : 0 < val B := Nat.pos_of_ne_zero fun e => f2 (by rw [e, natW_zero]; rfl)
  refine cK (tC (cS (cR ?_)))
  refine oV ?_
  refine o_callI trivial rfl Tryz.call144 rfl (rOdd_any _ _ (hs1.le hx2.le) (by omega) hA0) ?_
  rintro _ I3 hx3 ⟨u3, x, n, rfl, hs3, ho3⟩
  iterate 5 refine oV ?_
  refine oN (tC (cS ?_))
  have hn := ho3.pow_lt hal
  refine cR ?_
  refine oV ?_
  refine o_callI trivial rfl Tryz.call144 rfl (rOdd_any _ _ (hs2'.le hx3.le) (by omega) hB0) ?_
  rintro _ I4 hx4 ⟨u4, y, k, rfl, hs4, ho4⟩
  iterate 5 refine oV ?_
  refine oN (tC (cS (cB ?_)))
  refine c_loop (ι := Nat × Nat × Value × Value × Hp) [7, 8] (.cons rfl (.cons rfl .nil)) (fun t => t.1 + t.2.1) (fun t E0 => (5, t.2.2.1) :: (6, t.2.2.2.1) :: E0) (fun t => St w [] t.2.2.2.2 []) (fun t => t.1 % 2 = 1 ∧ t.2.1 % 2 = 1 ∧ Nat.gcd t.1 t.2.1 = Nat.gcd x y ∧ Ws t.2.2.2.2 t.2.2.1 (natW t.1) ∧ Ws t.2.2.2.2 t.2.2.2.1 (natW t.2.1) ∧ (natW t.1).length ≤ 3000 ∧ (natW t.2.1).length ≤ 3000 ∧ Ext w.heap.size I t.2.2.2.2) ((x, y, u3, u4, I4)) (sC rfl (sC rfl (sC rfl (sC rfl sN)))) (fun _ h => h) (⟨ho3.odd, ho4.odd, rfl, hs3.le hx4.le, hs4, Nat.le_trans (natW_le_len ho3.le) hal, Nat.le_trans (natW_le_len ho4.le) hbl, hx1.trans (hx2.trans (hx3.trans hx4 (Nat.le_refl _)) (Nat.le_refl _)) (Nat.le_refl _)⟩) ?_
  rintro ⟨a, b, ua, ub, I5⟩ ⟨hao, hbo, hg, hua, hub, hla, hlb, hx5⟩
  try dsimp only
  simp only at hao hbo hg hua hub hla hlb hx5
  refine cS (cS (cR ?_))
  iterate 2 refine oV ?_
  refine o_callQ trivial rfl Tryz.call145 rfl (rCmp_any _ _ _ _ hua hub (by omega) (by omega)) ?_
  refine oV ?_
  refine oN (tC ?_)
  refine cC rfl (fun h3 => ?_) (fun h3 => ?_)
  ·
   have f3 := h3
   try simp only [bl] at f3
   rw [val_natW, val_natW] at f3
   have hab : a ≠ b := fun e => f3 (by rw [e]; exact cmpZ_self _)
   refine cK (tC (cB ?_))
   refine c_cut (ι := Nat × Nat × Value × Value) [7, 8] (.cons rfl (.cons rfl .nil)) (fun t E0 => (5, t.2.2.1) :: (6, t.2.2.2) :: E0) (fun t => St w [] I5 []) (fun t => t.1 % 2 = 1 ∧ t.2.1 % 2 = 1 ∧ Nat.gcd t.1 t.2.1 = Nat.gcd x y ∧ Ws I5 t.2.2.1 (natW t.1) ∧ Ws I5 t.2.2.2 (natW t.2.1) ∧ (natW t.1).length ≤ 3000 ∧ (natW t.2.1).length ≤ 3000 ∧ t.2.1 < t.1 ∧ t.1 + t.2.1 = a + b) ?_ ?_
   ·
    refine cS (cR ?_)
    iterate 2 refine oV ?_
    refine o_callQ trivial rfl Tryz.call145 rfl (rCmp_any _ _ _ _ hua hub (by omega) (by omega)) ?_
    refine oV ?_
    refine oN (tC ?_)
    refine cC rfl (fun h4 => ?_) (fun h4 => ?_)
    ·
     have f4 := h4
     try simp only [bl] at f4
     rw [val_natW, val_natW] at f4
     have hlt : a < b := by unfold cmpZ at f4; split at f4 <;> (try split at f4) <;> omega
     refine cS (cR ?_)
     iterate 2 refine oV ?_
     refine oN (tC (cS (cR ?_)))
     iterate 2 refine oV ?_
     refine oN (tC (cR ?_))
     iterate 2 refine oV ?_
     refine oN ?_
     first | exact meet (b, a, ub, ua) (sC rfl (sC rfl (sC rfl (sC rfl sN)))) (fun _ h => h) ⟨hbo, hao, by rw [Nat.gcd_comm]; exact hg, hub, hua, hlb, hla, hlt, by show b + a = a + b; omega⟩ | exact meet (a, b, ua, ub) (sC rfl (sC rfl (sC rfl (sC rfl sN)))) (fun _ h => h) ⟨hao, hbo, hg, hua, hub, hla, hlb, by show b < a; omega, rfl⟩
    have f4 := h4
    try simp only [bl] at f4
    rw [val_natW, val_natW] at f4
    have hlt : ¬ a < b := fun h => by rw [cmpZ_lt (by omega)] at f4; omega
    refine cK ?_
    first | exact meet (b, a, ub, ua) (sC rfl (sC rfl (sC rfl (sC rfl sN)))) (fun _ h => h) ⟨hbo, hao, by rw [Nat.gcd_comm]; exact hg, hub, hua, hlb, hla, hlt, by show b + a = a + b; omega⟩ | exact meet (a, b, ua, ub) (sC rfl (sC rfl (sC rfl (sC rfl sN)))) (fun _ h => h) ⟨hao, hbo, hg, hua, hub, hla, hlb, by show b < a; omega, rfl⟩
   rintro ⟨c, d, uc, ud⟩ ⟨hco, hdo, hg2, huc, hud, hlc, hld, hdc, hsum⟩
   try dsimp only
   refine cS ?_
   simp only at hco hdo hg2 huc hud hlc hld hdc hsum
   refine cR ?_
   iterate 2 refine oV ?_
   refine o_callI trivial rfl Tryz.call146 rfl (rSub_any _ _ _ _ huc hud (by omega) (by omega) (by rw [val_natW, val_natW]; omega)) ?_
   rintro _ I6 hx6 ⟨u6, rfl, hs6⟩
   iterate 4 refine oV ?_
   refine oN (tC ?_)
   rw [val_natW, val_natW] at hs6
   have hl6 : (natW (c - d)).length ≤ 3000 := Nat.le_trans (natW_le_len (Nat.sub_le _ _)) hlc
   refine cR ?_
   refine oV ?_
   refine o_callI trivial rfl Tryz.call144 rfl (rOdd_any _ _ hs6 (by omega) (by omega)) ?_
   rintro _ I7 hx7 ⟨u7, z, p, rfl, hs7, ho7⟩
   iterate 4 refine oV ?_
   refine oN (blk_n ?_)
   exact again (z, d, u7, ud, I7) (sC rfl (sC rfl (sC rfl (sC rfl sN)))) (fun _ h => h) (by show z + d < a + b; have := ho7.le; omega) ⟨ho7.odd, hdo, by show Nat.gcd z d = _; rw [gcd_less hdo (by omega) ho7.eq]; exact hg2, hs7, hud.le (hx6.le.trans hx7.le), Nat.le_trans (natW_le_len ho7.le) hl6, hld, hx5.trans (hx6.trans hx7 (Nat.le_refl _)) (Nat.le_refl _)⟩
  have f3 := h3
  try simp only [bl] at f3
  rw [val_natW, val_natW] at f3
  have hab : a = b := by have := cmpZ_zero f3; omega
  refine c_exit (then_x (then_x (blk_eq rfl (tC (cS (cR ?_))))))
  iterate 3 refine oV ?_
  refine o_min2 trivial rfl rfl rfl ?_
  rw [show min (n : Int) (k : Int) = ((min n k : Nat) : Int) by omega]
  refine o_callI trivial rfl Tryz.call147 rfl (rShift_any _ _ (min n k) hua (by omega) (by omega)) ?_
  rintro u8 I8 hx8 hs8
  refine oV ?_
  refine oN (tC (cT ?_))
  refine ret1 rfl rfl ?_
  refine leaf (hx5.trans hx8 (Nat.le_refl _)) (List.nil_sublist _) ?_
  rw [val_natW] at hs8
  rw [ho3.eq, ho4.eq, gcd_twos ho3.odd ho4.odd, ← hg, ← hab, Nat.gcd_self]
  exact hs8
theorem rLowest_any (va vb : Value) (A B : List Nat) {I : Hp} (ha : Ws I va A) (hb : Ws I vb B) (hs : A.length ≤ 3000) (hs2 : B.length ≤ 3000) : Fun Tryz.prog 93 [va, vb] I [] (fun v I' _ => ∃ u1 u2, v = .tuple #[u1, u2, .bool (decide (val B ≠ 0))] ∧ (val B ≠ 0 → Ws I' u1 (natW (val A / Nat.gcd (val A) (val B))) ∧ Ws I' u2 (natW (val B / Nat.gcd (val A) (val B))))) := by
  have hbl : (natW (val B)).length ≤ 3000 := Nat.le_trans (natW_len_list hb.wds) hs2
  intro w hw
  refine enter2 _ Tryz.func93 rfl Tryz.ntmps93 rfl ?_ hw
  refine cS (cR ?_)
  iterate 3 refine oV ?_
  refine oN (tC (cS (cR ?_)))
  refine oV ?_
  refine o_callI trivial rfl Tryz.call116 rfl (rTrim_any _ _ hb (by omega)) ?_
  rintro u1 I1 hx1 hs1
  refine oV ?_
  refine oN (tC (cS (cS (cR ?_))))
  refine oV ?_
  refine o_lenW trivial rfl Tryz.underlying40 rfl (hs1) ?_
  refine oV ?_
  refine oN (tC ?_)
  refine cC rfl (fun h1 => ?_) (fun h1 => ?_)
  ·
   have f1 := h1
   try simp only [bl] at f1
   refine cS (cR ?_)
   iterate 3 refine oV ?_
   refine oN (tC (cT (tR ?_)))
   refine ret3 rfl rfl rfl rfl ?_
   have h0 : val B = 0 := natW_len_zero.1 (by omega)
   refine leaf hx1 (List.nil_sublist _) ⟨.slice none 0 0, .slice none 0 0, ?_, fun h => absurd h0 h⟩; rw [decide_eq_false (not_not_intro h0)]
  have f1 := h1
  try simp only [bl] at f1
  have h0 : 0 < val B := Nat.pos_of_ne_zero fun e => f1 (by rw [e, natW_zero]; rfl)
  have hg : 0 < Nat.gcd (val A) (val B) := Nat.gcd_pos_of_pos_right _ h0
  have hgl : (natW (Nat.gcd (val A) (val B))).length ≤ 3000 := Nat.le_trans (natW_le_len (Nat.gcd_le_right _ h0)) hbl
  refine cK (tC (cS (cR ?_)))
  iterate 2 refine oV ?_
  refine o_callI trivial rfl Tryz.call123 rfl (rGcd_any _ _ _ _ (ha.le hx1.le) hs1 hs (by omega)) ?_
  rintro u2 I2 hx2 hs2'
  refine oV ?_
  refine oN (tC (cS ?_))
  rw [val_natW] at hs2'
  refine cR ?_
  iterate 2 refine oV ?_
  refine o_callI trivial rfl Tryz.call124 rfl (rDiv_any _ _ _ _ (ha.le (hx1.le.trans hx2.le)) hs2' (by omega) (by omega) (by rw [val_natW]; exact hg)) ?_
  rintro _ I3 hx3 ⟨u3, u4, rfl, hq3, hr3⟩
  iterate 7 refine oV ?_
  refine oN (tC (cS (cR ?_)))
  iterate 2 refine oV ?_
  refine o_callI trivial rfl Tryz.call124 rfl (rDiv_any _ _ _ _ (hs1.le (hx2.le.trans hx3.le)) (hs2'.le hx3.le) (by omega) (by omega) (by rw [val_natW]; exact hg)) ?_
  rintro _ I4 hx4 ⟨u5, u6, rfl, hq5, hr5⟩
  iterate 5 refine oV ?_
  refine oN (tC (cS (cR ?_)))
  iterate 5 refine oV ?_
  refine oN (tC (cT ?_))
  refine ret3 rfl rfl rfl rfl ?_
  rw [val_natW] at hq3
  rw [val_natW, val_natW] at hq5
  refine leaf (hx1.trans (hx2.trans (hx3.trans hx4 (Nat.le_refl _)) (Nat.le_refl _)) (Nat.le_refl _)) (List.nil_sublist _) ⟨u3, u5, ?_, fun _ => ⟨hq3.le hx4.le, hq5⟩⟩; rw [decide_eq_true (by omega)]; rfl
theorem rFix7_any (neg : Bool) (va : Value) (A : List Nat) {I : Hp} (ha : Ws I va A) (hs : A.length ≤ 100000) : Fun Tryz.prog 163 [.agg #[.bool neg, va]] I [] (fun v I' _ => IntV I' v (if neg then -(val A : Int) else val A)) := by
  intro w hw
  refine enter1 _ Tryz.func163 rfl Tryz.ntmps163 rfl ?_ hw
  refine cS (cR ?_)
  refine o_box trivial rfl rfl rfl (fun b1 => ?_)
  refine o_alloc trivial rfl Tryz.zeroValue99 rfl (fun b2 => ?_)
  refine oN (tC (cS (cR ?_)))
  refine oF 1 Tryz.underlying99 Tryz.sizeOf40 ?_
  refine oL Tryz.isAgg40 ?_
  refine o_callI trivial rfl Tryz.call116 rfl (rTrim_any _ _ ha (by omega)) ?_
  rintro u1 I1 hx1 hs1
  refine oV ?_
  refine oN (tC (cS (cR ?_)))
  refine oF 0 Tryz.underlying99 Tryz.sizeOf4 ?_
  refine oL Tryz.isAgg4 ?_
  refine' o_and trivial trivial rfl rfl rfl rfl rfl rfl rfl rfl (fun hb9 => ?_) ?_
  rotate_left
  ·
   have fb9 := hb9
   try simp only [bl] at fb9
   refine o_pv (wS rfl rfl hb9) rfl rfl ?_
   refine o_lenW (wS rfl rfl hb9) rfl Tryz.underlying40 rfl (hs1) ?_
   refine o_pv (wS rfl rfl hb9) rfl rfl ?_
   refine oN ?_
   exact joins rfl
  refine oV ?_
  refine o_buildS trivial rfl (bld99) rfl (.cons rfl rfl rfl (by repeat constructor) (.cons rfl (by first | exact (Ws.cells1 (by assumption)).1 | exact (Slc.cells1 (by assumption)).1 | rfl) (by rfl) (by repeat constructor) .nil)) ?_
  refine oS Tryz.sizeOf99 ?_
  refine oN (tC (cT ?_))
  refine retR rfl (.agg Tryz.isAgg99 Tryz.sizeOf99 rfl (by repeat constructor) rfl .nil) ?_
  refine leaf hx1 (List.nil_sublist _) ⟨u1, ?_, by rw [abs_of]; exact hs1⟩
  rw [← sign_of]
  have e : decide (((natW (val A)).length : Int) > 0) = decide (0 < val A) := by
    rw [decide_eq_decide]
    constructor
    · intro h; exact Nat.pos_of_ne_zero fun e => by rw [e, natW_zero] at h; simp at h
    · intro h; have := (natW_topB (n := val A) (by omega)).1; omega
  rw [e]; rfl
theorem rOf7_any (n : Int) {I : Hp} (hn : -1000000 ≤ n ∧ n ≤ 1000000) : Fun Tryz.prog 62 [.int .i64 n] I [] (fun v I' _ => IntV I' v n) := by
  intro w hw
  refine enter1 _ Tryz.func62 rfl Tryz.ntmps62 rfl ?_ hw
  refine cS (cR ?_)
  refine o_alloc trivial rfl Tryz.zeroValue99 rfl (fun b2 => ?_)
  refine oN (tC (cS (cS (cR ?_))))
  iterate 2 refine oV ?_
  refine oN (tC ?_)
  refine cC rfl (fun h1 => ?_) (fun h1 => ?_)
  ·
   have f1 := h1
   try simp only [bl] at f1
   refine cS (cR ?_)
   refine oV ?_
   first | refine o_convIn trivial rfl Tryz.underlying3 Tryz.underlying136 rfl (by rw [IntWalk.u64_in _ (by omega)]) ?_ | refine o_conv trivial rfl Tryz.underlying3 Tryz.underlying136 rfl ?_
   rw [show n = ((n.natAbs : Nat) : Int) by omega]
   refine o_callI trivial rfl Tryz.call94 rfl (rOf_any n.natAbs (by omega)) ?_
   rintro u1 I1 hx1 hs1
   refine o_buildS trivial rfl (bld99) rfl (.cons rfl (by first | exact (Ws.cells1 (by assumption)).1 | exact (Slc.cells1 (by assumption)).1 | rfl) (by rfl) (by repeat constructor) .nil) ?_
   refine oS Tryz.sizeOf99 ?_
   refine oN (tC (cT (tR ?_)))
   refine retR rfl (.agg Tryz.isAgg99 Tryz.sizeOf99 rfl (by repeat constructor) rfl .nil) ?_
   refine leaf hx1 (List.nil_sublist _) ⟨u1, ?_, hs1⟩; rw [decide_eq_false (by omega)]; rfl
  have f1 := h1
  try simp only [bl] at f1
  refine cK (tC (cS (cR ?_)))
  refine oV ?_
  first | refine o_convIn trivial rfl Tryz.underlying3 Tryz.underlying136 rfl (by rw [IntWalk.u64_in _ (by omega)]) ?_ | refine o_conv trivial rfl Tryz.underlying3 Tryz.underlying136 rfl ?_
  first | refine o_arS trivial rfl rfl rfl (by rw [IntWalk.u64_in _ (by omega)]) ?_ | refine oV ?_
  refine oV ?_
  refine oN (tC (cS ?_))
  rw [show IntKind.u64.wrap (0 - IntKind.u64.wrap n) = ((n.natAbs : Nat) : Int) by simp only [IntKind.wrap_u64]; omega]
  refine cR ?_
  refine oV ?_
  refine o_callI trivial rfl Tryz.call94 rfl (rOf_any n.natAbs (by omega)) ?_
  rintro u2 I2 hx2 hs2
  refine o_buildS trivial rfl (bld99) rfl (.cons rfl rfl rfl (by repeat constructor) (.cons rfl (by first | exact (Ws.cells1 (by assumption)).1 | exact (Slc.cells1 (by assumption)).1 | rfl) (by rfl) (by repeat constructor) .nil)) ?_
  refine oS Tryz.sizeOf99 ?_
  refine oN (tC (cT ?_))
  refine retR rfl (.agg Tryz.isAgg99 Tryz.sizeOf99 rfl (by repeat constructor) rfl .nil) ?_
  refine leaf hx2 (List.nil_sublist _) ⟨u2, ?_, hs2⟩; rw [decide_eq_true (by omega)]; rfl
theorem natW_one : natW 1 = [1] := by rw [natW_pos (by decide), show 1 / 4294967296 = 0 from rfl, natW_zero]
theorem rlow_any (neg : Bool) (va vb : Value) (A B : List Nat) {I : Hp} (ha : Ws I va A) (hb : Ws I vb B) (hs : A.length ≤ 3000) (hs2 : B.length ≤ 3000) : Fun Tryz.prog 61 [.agg #[.bool neg, va], vb] I [] (fun v I' _ => RatV I' v (lowQ neg (val A) (val B))) := by
  intro w hw
  refine enter2 _ Tryz.func61 rfl Tryz.ntmps61 rfl ?_ hw
  refine cS (cR ?_)
  refine o_box trivial rfl rfl rfl (fun b2 => ?_)
  refine o_alloc trivial rfl Tryz.zeroValue42 rfl (fun b4 => ?_)
  refine oN (tC (cS (cR ?_)))
  refine oF 1 Tryz.underlying99 Tryz.sizeOf40 ?_
  refine oL Tryz.isAgg40 ?_
  refine oV ?_
  refine o_callI trivial rfl Tryz.call93 rfl (rLowest_any _ _ _ _ ha hb hs hs2) ?_
  rintro _ I1 hx1 ⟨u1, u2, rfl, hs1⟩
  iterate 7 refine oV ?_
  refine oN (tC (cS (cS (cR ?_))))
  iterate 2 refine oV ?_
  refine' o_or trivial trivial rfl rfl rfl rfl rfl rfl rfl rfl (fun hb18 => ?_) ?_
  rotate_left
  ·
   have fb18 := hb18
   try simp only [bl] at fb18
   have hB : val B ≠ 0 := by simpa using hb18
   obtain ⟨hu1, hu2⟩ := hs1 hB
   refine o_pv (wS rfl rfl hb18) rfl rfl ?_
   refine o_lenW (wS rfl rfl hb18) rfl Tryz.underlying40 rfl (hu1) ?_
   refine o_pv (wS rfl rfl hb18) rfl rfl ?_
   refine oN ?_
   exact joins rfl
  refine oN (tC ?_)
  refine cC rfl (fun h1 => ?_) (fun h1 => ?_)
  ·
   have f1 := h1
   try simp only [bl] at f1
   have h0 : val B = 0 ∨ val A = 0 := by
     rcases f1 with f1 | f1
     · exact .inl (Decidable.not_not.1 f1)
     · by_cases hB : val B = 0
       · exact .inl hB
       · exact .inr (div_gcd_zero (natW_len_zero.1 (by omega)) hB)
   refine cS (cR ?_)
   refine o_buildSl trivial rfl Tryz.underlying40 Tryz.sizeOf101 Tryz.zeroValue101 (by decide) (by decide) rfl (by repeat first | exact rfl | constructor) rfl (fun b23 => ?_)
   refine l_sealW [1] .here (Wds_cons (by decide) Wds_nil) (by unfold maxLen; simp) (fun I2 hx2 hs2' => ?_)
   refine o_buildS trivial rfl (bld42) rfl (.cons rfl (by first | exact (Ws.cells1 (by assumption)).1 | exact (Slc.cells1 (by assumption)).1 | rfl) (by rfl) (by repeat constructor) .nil) ?_
   refine oS Tryz.sizeOf42 ?_
   refine oN (tC (cT (tR ?_)))
   refine retR rfl (.agg Tryz.isAgg42 Tryz.sizeOf42 rfl (by repeat constructor) rfl .nil) ?_
   refine leaf (hx1.trans hx2 (Nat.le_refl _)) (List.nil_sublist _) ?_
   rw [lowQ_zero h0]; exact RatV.zero (by rw [natW_one]; exact hs2')
  have f1 := h1
  try simp only [bl] at f1
  have hB : val B ≠ 0 := fun e => f1.1 e
  obtain ⟨hu1, hu2⟩ := hs1 hB
  have hA : val A ≠ 0 := fun e => f1.2 (by rw [e, Nat.zero_div, natW_zero]; rfl)
  obtain ⟨e1, e2, e3⟩ := lowQ_parts (neg := neg) hA hB
  refine cK (tC (cS (cR ?_)))
  refine oF 0 Tryz.underlying99 Tryz.sizeOf4 ?_
  refine oL Tryz.isAgg4 ?_
  iterate 2 refine oV ?_
  refine o_buildS trivial rfl (bld42) rfl (.cons rfl rfl rfl (by repeat constructor) (.cons rfl (by first | exact (Ws.cells1 (by assumption)).1 | exact (Slc.cells1 (by assumption)).1 | rfl) (by rfl) (by repeat constructor) (.cons rfl (by first | exact (Ws.cells1 (by assumption)).1 | exact (Slc.cells1 (by assumption)).1 | rfl) (by rfl) (by repeat constructor) .nil))) ?_
  refine oS Tryz.sizeOf42 ?_
  refine oN (tC (cT ?_))
  refine retR rfl (.agg Tryz.isAgg42 Tryz.sizeOf42 rfl (by repeat constructor) rfl .nil) ?_
  refine leaf hx1 (List.nil_sublist _) ⟨u1, u2, ?_, ?_, ?_⟩
  · rw [e3]; rfl
  · rw [e1]; exact hu1
  · rw [e2]; exact hu2
theorem rEqual_any (s1 s2 : Bool) (va vb vc vd : Value) (A B C D : List Nat) {I : Hp} (ha : Ws I va A) (hb : Ws I vb B) (hc : Ws I vc C) (hd : Ws I vd D) : Fun Tryz.prog 80 [.agg #[.bool s1, va, vb], .agg #[.bool s2, vc, vd]] I [] (fun v _ _ => v = .bool (decide (s1 = s2) && decide (A = C) && decide (B = D))) := by
  intro w hw
  refine enter2 _ Tryz.func80 rfl Tryz.ntmps80 rfl ?_ hw
  refine cS (cR ?_)
  refine o_box trivial rfl rfl rfl (fun b2 => ?_)
  refine o_box trivial rfl rfl rfl (fun b3 => ?_)
  refine oV ?_
  refine oN (tC (cS (cR ?_)))
  refine oF 0 Tryz.underlying42 Tryz.sizeOf4 ?_
  refine oL Tryz.isAgg4 ?_
  refine oF 0 Tryz.underlying42 Tryz.sizeOf4 ?_
  refine oL Tryz.isAgg4 ?_
  refine o_eqlB trivial rfl rfl rfl Tryz.underlying4 ?_
  refine' o_and trivial trivial rfl rfl rfl rfl rfl rfl rfl rfl (fun hb10 => ?_) ?_
  rotate_left
  ·
   have fb10 := hb10
   try simp only [bl] at fb10
   refine oX (T := 40) (off := 1) (wS rfl rfl hb10) rfl Tryz.underlying42 rfl rfl rfl Tryz.sizeOf40 rfl rfl ?_
   refine o_load1 (wS rfl rfl hb10) rfl Tryz.isAgg40 rfl (by repeat constructor) (by repeat constructor) ?_
   refine oX (T := 40) (off := 1) (wS rfl rfl hb10) rfl Tryz.underlying42 rfl rfl rfl Tryz.sizeOf40 rfl rfl ?_
   refine o_load1 (wS rfl rfl hb10) rfl Tryz.isAgg40 rfl (by repeat constructor) (by repeat constructor) ?_
   refine o_callQ (wS rfl rfl hb10) rfl Tryz.call114 rfl (rWords_any _ _ _ _ ha hc) ?_
   refine oN ?_
   exact joins rfl
  refine' o_and trivial trivial rfl rfl rfl rfl rfl rfl rfl rfl (fun hb17 => ?_) ?_
  rotate_left
  ·
   have fb17 := hb17
   try simp only [bl] at fb17
   refine oX (T := 40) (off := 2) (wS rfl rfl hb17) rfl Tryz.underlying42 rfl rfl rfl Tryz.sizeOf40 rfl rfl ?_
   refine o_load1 (wS rfl rfl hb17) rfl Tryz.isAgg40 rfl (by repeat constructor) (by repeat constructor) ?_
   refine oX (T := 40) (off := 2) (wS rfl rfl hb17) rfl Tryz.underlying42 rfl rfl rfl Tryz.sizeOf40 rfl rfl ?_
   refine o_load1 (wS rfl rfl hb17) rfl Tryz.isAgg40 rfl (by repeat constructor) (by repeat constructor) ?_
   refine o_callQ (wS rfl rfl hb17) rfl Tryz.call114 rfl (rWords_any _ _ _ _ hb hd) ?_
   refine oN ?_
   exact joins rfl
  refine oV ?_
  refine oN (tC (cT ?_))
  refine ret1 rfl rfl ?_
  refine leaf0 (congrArg Value.bool ?_)
  congr 2
theorem val_one : val [1] = 1 := by rw [val_cons, val_nil]
theorem rOf8_any (n : Int) {I : Hp} (hn : -1000000 ≤ n ∧ n ≤ 1000000) : Fun Tryz.prog 38 [.int .i64 n] I [] (fun v I' _ => RatV I' v (mkRat n 1)) := by
  have hl : (natW n.natAbs).length ≤ 3000 := natW_len_of (k := 1) (by rw [Nat.pow_one]; omega) (by decide)
  intro w hw
  refine enter1 _ Tryz.func38 rfl Tryz.ntmps38 rfl ?_ hw
  refine cS (cR ?_)
  refine o_alloc trivial rfl Tryz.zeroValue42 rfl (fun b2 => ?_)
  refine oN (tC (cS (cR ?_)))
  refine oV ?_
  refine o_callI trivial rfl Tryz.call62 rfl (rOf7_any n hn) ?_
  rintro _ I1 hx1 ⟨u1, rfl, hs1⟩
  refine o_buildSl trivial rfl Tryz.underlying40 Tryz.sizeOf101 Tryz.zeroValue101 (by decide) (by decide) rfl (by repeat first | exact rfl | constructor) rfl (fun b5 => ?_)
  refine l_sealW [1] .here (Wds_cons (by decide) Wds_nil) (by unfold maxLen; simp) (fun I2 hx2 hs2 => ?_)
  refine o_callI trivial rfl Tryz.call61 rfl (rlow_any (decide (n < 0)) _ _ _ _ (hs1.le hx2.le) hs2 hl (by simp)) ?_
  rintro _ I3 hx3 ⟨u3, u4, rfl, h3, h4⟩
  refine oS Tryz.sizeOf42 ?_
  refine oN (tC (cT ?_))
  refine retR rfl (.agg Tryz.isAgg42 Tryz.sizeOf42 rfl (by repeat constructor) rfl .nil) ?_
  rw [val_natW, val_one, lowQ_int] at h3 h4
  refine leaf (hx1.trans (hx2.trans hx3 (Nat.le_refl _)) (Nat.le_refl _)) (List.nil_sublist _) ⟨u3, u4, ?_, h3, h4⟩
  rw [val_natW, val_one, lowQ_int]; rfl
theorem decN_cons (b : UInt8) (l : List UInt8) : decN (b :: l) = (b.toNat - 48) * 10 ^ l.length + decN l := by
  refine rev_ind (motive := fun l => decN (b :: l) = (b.toNat - 48) * 10 ^ l.length + decN l) ?_ (fun l a ih => ?_) l
  · show 10 * 0 + (b.toNat - 48) = (b.toNat - 48) * 1 + 0
    omega
  · rw [← List.cons_append, decN_app, decN_app, ih, List.length_append]
    show _ = (b.toNat - 48) * 10 ^ (l.length + 1) + _
    rw [Nat.pow_succ, Nat.mul_add, ← Nat.mul_assoc, ← Nat.mul_assoc, Nat.mul_comm 10 (b.toNat - 48), Nat.mul_assoc, Nat.mul_assoc, Nat.mul_comm 10 (10 ^ l.length), Nat.add_assoc]
theorem decN_drop {s : ByteArray} {k : Nat} (h : k < s.size) : decN (s.toList.drop k) = ((s.get! k).toNat - 48) * 10 ^ (s.size - (k + 1)) + decN (s.toList.drop (k + 1)) := by
  have hl : k < s.toList.length := by rw [toList_len]; exact h
  have hg := get_toList h
  rw [List.getElem?_eq_getElem hl] at hg
  rw [List.drop_eq_getElem_cons hl, Option.some.inj hg, decN_cons, List.length_drop, toList_len]
theorem natW_ten {n : Nat} (h : n ≤ 10 ^ 40) : (natW n).length ≤ 5 := natW_len_le (Nat.lt_of_le_of_lt h (by decide))
theorem rParse6_any (s : ByteArray) {I : Hp} (hz : partZ s = true) : Fun Tryz.prog 202 [.string s] I [] (fun v I' _ => ∃ u, v = .tuple #[u, .int .i64 0] ∧ Ws I' u (natW (decN s.toList))) := by
  obtain ⟨g1, g2, g3, g4⟩ := partZ_digit hz
  have hpow : ∀ k, k ≤ s.size → 10 ^ k ≤ 10 ^ 40 := fun k hk => Nat.pow_le_pow_right (by decide) (by omega)
  have hdrop : ∀ k, decN (s.toList.drop k) < 10 ^ 40 := fun k => by
    refine Nat.lt_of_lt_of_le (decN_lt fun b hb => partZ_mem g1 b (List.mem_of_mem_drop hb)) (Nat.pow_le_pow_right (by decide) ?_)
    rw [List.length_drop, toList_len]; omega
  have hnil : decN (s.toList.drop s.size) = 0 := by rw [List.drop_eq_nil_of_le (by rw [toList_len]; exact Nat.le_refl _)]; rfl
  intro w hw
  refine enter1 _ Tryz.func202 rfl Tryz.ntmps202 rfl ?_ hw
  refine cS (cR ?_)
  iterate 2 refine oV ?_
  refine oN (tC (cS (cS (cR ?_))))
  refine oV ?_
  refine o_lenS trivial rfl Tryz.underlying9 rfl ?_
  refine oV ?_
  refine oN (tC ?_)
  refine cC rfl (fun h1 => ?_) (fun h1 => ?_)
  ·
   have f1 := h1
   try simp only [bl] at f1
   exfalso; omega
  have f1 := h1
  try simp only [bl] at f1
  refine cK (tC (cS (cS (cR ?_))))
  refine oV ?_
  refine o_lenS trivial rfl Tryz.underlying9 rfl ?_
  refine oV ?_
  refine oN (tC ?_)
  refine cC rfl (fun h2 => ?_) (fun h2 => ?_)
  ·
   have f2 := h2
   try simp only [bl] at f2
   exfalso; omega
  have f2 := h2
  try simp only [bl] at f2
  refine cK (tC (cS (cR ?_)))
  refine oV ?_
  refine oN (tC (cS (cR ?_)))
  refine o_buildSl trivial rfl Tryz.underlying40 Tryz.sizeOf101 Tryz.zeroValue101 (by decide) (by decide) rfl (by repeat first | exact rfl | constructor) rfl (fun b13 => ?_)
  refine oV ?_
  refine oN (tC (cS (cS ?_)))
  refine c_sealW [1] .here (Wds_cons (by decide) Wds_nil) (by unfold maxLen; simp) (fun I1 hx1 hs1 => ?_)
  refine cR ?_
  refine oV ?_
  refine o_lenS trivial rfl Tryz.underlying9 rfl ?_
  first | (refine o_sub trivial rfl rfl rfl ?_ ?_; (omega)) | refine oV ?_
  refine oV ?_
  refine oN (tC (cB ?_))
  refine c_loop (ι := Nat × Value × Value × Hp) [0] (.cons rfl .nil) (fun x => x.1) (fun x E0 => (4, x.2.1) :: (5, x.2.2.1) :: (6, .int .i64 ((x.1 : Int) - 1)) :: E0) (fun x => St w [] x.2.2.2 []) (fun x => x.1 ≤ s.size ∧ Ws x.2.2.2 x.2.1 (natW (decN (s.toList.drop x.1))) ∧ Ws x.2.2.2 x.2.2.1 (natW (10 ^ (s.size - x.1))) ∧ Ext w.heap.size I x.2.2.2) ((s.size, .slice none 0 0, _, I1)) (sC rfl (sC rfl (sC rfl (sC rfl sN)))) (fun _ h => h) (⟨Nat.le_refl _, by rw [hnil, natW_zero]; exact Ws.nil _, by rw [Nat.sub_self, Nat.pow_zero, natW_one]; exact hs1, hx1⟩) ?_
  rintro ⟨k, u, pw, I2⟩ ⟨hk, hu, hpw, hx2⟩
  try dsimp only
  simp only at hk hu hpw hx2
  refine cS (cS (cR ?_))
  iterate 2 refine oV ?_
  refine oN (tC ?_)
  refine cC rfl (fun h3 => ?_) (fun h3 => ?_)
  ·
   have f3 := h3
   try simp only [bl] at f3
   obtain ⟨j, rfl⟩ : ∃ j, k = j + 1 := ⟨k - 1, by omega⟩
   have hb := g1 j (by omega)
   rw [show ((j + 1 : Nat) : Int) - 1 = (j : Int) by omega]
   refine cK (tC (cS (cB (cS (cS (cR ?_))))))
   iterate 2 refine oV ?_
   refine o_idxS trivial rfl Tryz.underlying9 rfl rfl (by omega) ?_
   refine oV ?_
   refine' o_or trivial trivial rfl rfl rfl rfl rfl rfl rfl rfl (fun hb25 => ?_) ?_
   rotate_left
   ·
    have fb25 := hb25
    try simp only [bl] at fb25
    iterate 2 refine o_pv (wS rfl rfl hb25) rfl rfl ?_
    refine o_idxS (wS rfl rfl hb25) rfl Tryz.underlying9 rfl rfl (by omega) ?_
    refine o_pv (wS rfl rfl hb25) rfl rfl ?_
    refine oN ?_
    exact joins rfl
   refine oN (tC ?_)
   refine cC rfl (fun h4 => ?_) (fun h4 => ?_)
   ·
    have f4 := h4
    try simp only [bl] at f4
    exfalso
    rw [Int.toNat_natCast] at f4
    omega
   have f4 := h4
   try simp only [bl] at f4
   refine cK (tC (cS (cR ?_)))
   iterate 4 refine oV ?_
   refine o_idxS trivial rfl Tryz.underlying9 rfl rfl (by omega) ?_
   rw [Int.toNat_natCast]
   first | refine o_arS trivial rfl rfl rfl (by rw [IntWalk.u8_in _ (by omega)]) ?_ | refine oV ?_
   refine o_convIn trivial rfl Tryz.underlying5 Tryz.underlying101 rfl (by rw [IntWalk.u32_in _ (by omega)]) ?_
   rw [show ((s.get! j).toNat : Int) - 48 = (((s.get! j).toNat - 48 : Nat) : Int) by omega]
   refine o_callI trivial rfl Tryz.call148 rfl (rOne_any _ _ ((s.get! j).toNat - 48) 0 hpw (by have := natW_ten (hpow (s.size - (j + 1)) (by omega)); omega) (by omega) (by decide)) ?_
   rintro v38 I3 hx3 hs3
   refine o_callI trivial rfl Tryz.call215 rfl (rAdd_any _ _ _ _ (hu.le hx3.le) hs3 (by have := natW_forty (hdrop (j + 1)); omega) (by
     rw [val_natW]
     refine Nat.le_trans (natW_len_le (k := 10) ?_) (by decide)
     have h1 : 10 ^ (s.size - (j + 1)) * ((s.get! j).toNat - 48) ≤ 10 ^ 40 * 9 := Nat.mul_le_mul (hpow _ (by omega)) (by omega)
     have h2 : 10 ^ 40 * 9 + 0 < 4294967296 ^ 10 := by decide
     omega)) ?_
   rintro v39 I4 hx4 hs4
   refine oV ?_
   refine oN (tC (cR ?_))
   refine oV ?_
   refine o_callI trivial rfl Tryz.call148 rfl (rOne_any _ _ 10 0 (hpw.le (hx3.le.trans hx4.le)) (by have := natW_ten (hpow (s.size - (j + 1)) (by omega)); omega) (by decide) (by decide)) ?_
   rintro v41 I5 hx5 hs5
   refine oV ?_
   refine oN (blk_n (tC (cR ?_)))
   refine oV ?_
   first | (refine o_sub trivial rfl rfl rfl ?_ ?_; (omega)) | refine oV ?_
   refine oV ?_
   refine oN ?_
   exact again (j, v39, v41, I5) (sC rfl (sC rfl (sC rfl (sC rfl sN)))) (fun _ h => h) (Nat.lt_succ_self _) ⟨by show j ≤ s.size; omega, by
     rw [decN_drop (show j < s.size by omega)]
     rw [val_natW, val_natW, val_natW, Nat.add_zero, Nat.mul_comm, Nat.add_comm] at hs4
     exact hs4.le hx5.le, by
     rw [val_natW, Nat.add_zero, ← Nat.pow_succ, show (s.size - (j + 1)).succ = s.size - j by omega] at hs5
     exact hs5, hx2.trans (hx3.trans (hx4.trans hx5 (Nat.le_refl _)) (Nat.le_refl _)) (Nat.le_refl _)⟩
  have f3 := h3
  try simp only [bl] at f3
  refine c_exit (then_x (then_x (blk_eq rfl (tC (cS (cS (cR ?_)))))))
  refine oV ?_
  refine o_idxS trivial rfl Tryz.underlying9 rfl rfl (by omega) ?_
  refine oV ?_
  refine' o_and trivial trivial rfl rfl rfl rfl rfl rfl rfl rfl (fun hb45 => ?_) ?_
  rotate_left
  ·
   have fb45 := hb45
   try simp only [bl] at fb45
   refine o_pv (wS rfl rfl hb45) rfl rfl ?_
   refine o_lenS (wS rfl rfl hb45) rfl Tryz.underlying9 rfl ?_
   refine o_pv (wS rfl rfl hb45) rfl rfl ?_
   refine oN ?_
   exact joins rfl
  refine oN (tC ?_)
  refine cC rfl (fun h5 => ?_) (fun h5 => ?_)
  ·
   have f5 := h5
   try simp only [bl] at f5
   exfalso
   simp at h5
   rcases g4 with g4 | g4
   · omega
   · have := h5.1; omega
  have f5 := h5
  try simp only [bl] at f5
  refine cK (tC (cS (cR ?_)))
  iterate 3 refine oV ?_
  refine oN (tC (cT ?_))
  refine ret2 rfl rfl rfl ?_
  have hk0 : k = 0 := by omega
  subst hk0
  exact leaf hx2 (List.nil_sublist _) ⟨_, rfl, hu⟩
theorem rParse7_any (s : ByteArray) {I : Hp} (hz : partZ s = true) : Fun Tryz.prog 201 [.string s] I [] (fun v I' _ => ∃ u, v = .tuple #[.agg #[.bool false, u], .int .i64 0] ∧ Ws I' u (natW (decN s.toList))) := by
  obtain ⟨g1, g2, g3, g4⟩ := partZ_digit hz
  have g5 := g1 0 (by omega)
  have hfew : (natW (decN s.toList)).length ≤ 5 := by
    have := natW_forty (decN_forty hz s.size)
    rwa [List.take_of_length_le (by rw [toList_len]; omega)] at this
  intro w hw
  refine enter1 _ Tryz.func201 rfl Tryz.ntmps201 rfl ?_ hw
  refine cS (cR ?_)
  refine o_alloc trivial rfl Tryz.zeroValue99 rfl (fun b2 => ?_)
  refine oV ?_
  refine oN (tC (cS (cR ?_)))
  refine oV ?_
  refine o_lenS trivial rfl Tryz.underlying9 rfl ?_
  refine oV ?_
  refine' o_and trivial trivial rfl rfl rfl rfl rfl rfl rfl rfl (fun hb10 => ?_) ?_
  rotate_left
  ·
   have fb10 := hb10
   try simp only [bl] at fb10
   refine o_pv (wS rfl rfl hb10) rfl rfl ?_
   refine o_idxS (wS rfl rfl hb10) rfl Tryz.underlying9 rfl rfl (by omega) ?_
   refine o_pv (wS rfl rfl hb10) rfl rfl ?_
   refine oN ?_
   exact joins rfl
  refine oV ?_
  refine oN (tC (cS (cS (cR ?_))))
  refine oV ?_
  refine oN (tC ?_)
  refine cC rfl (fun h1 => ?_) (fun h1 => ?_)
  ·
   have f1 := h1
   try simp only [bl] at f1
   exfalso
   simp at h1
   omega
  have f1 := h1
  try simp only [bl] at f1
  rw [show (decide ((s.size : Int) > 0) && (((s.get! (0 : Int).toNat).toNat : Int) == 45)) = false from h1]
  refine cK (tC (cS (cR ?_)))
  refine oV ?_
  refine o_callI trivial rfl Tryz.call202 rfl (rParse6_any s hz) ?_
  rintro _ I1 hx1 ⟨u, rfl, hu⟩
  iterate 5 refine oV ?_
  refine oN (tC (cS (cS (cR ?_))))
  iterate 2 refine oV ?_
  refine oN (tC ?_)
  refine c_cond_f rfl (by rfl) ?_
  refine cK (tC (cS (cR ?_)))
  iterate 2 refine oV ?_
  refine o_buildS trivial rfl (bld99) rfl (.cons rfl rfl rfl (by repeat constructor) (.cons rfl (by first | exact (Ws.cells1 (by assumption)).1 | exact (Slc.cells1 (by assumption)).1 | rfl) (by rfl) (by repeat constructor) .nil)) ?_
  refine o_callI trivial rfl Tryz.call163 rfl (rFix7_any false u _ hu (by omega)) ?_
  rintro v30 I2 hx2 ⟨vm, rfl, hvm⟩
  refine oS Tryz.sizeOf99 ?_
  refine oV ?_
  refine oN (tC (cT ?_))
  refine retR rfl (.agg Tryz.isAgg99 Tryz.sizeOf99 rfl (by repeat constructor) rfl (.tmp rfl .nil)) ?_
  refine leaf (hx1.trans hx2 (Nat.le_refl _)) (List.nil_sublist _) ⟨vm, ?_, ?_⟩
  · rw [decide_eq_false]
    · rfl
    · show ¬ ((val (natW (decN s.toList)) : Nat) : Int) < 0; omega
  · rw [val_natW] at hvm; exact hvm
theorem rMake8_any (n d : Nat) (va vb : Value) {I : Hp} (ha : Ws I va (natW n)) (hb : Ws I vb (natW d)) (hs : (natW n).length ≤ 3000) (hs2 : (natW d).length ≤ 3000) (hd : d ≠ 0) : Fun Tryz.prog 203 [.agg #[.bool false, va], .agg #[.bool false, vb]] I [] (fun v I' _ => ∃ a b, v = .tuple #[.agg #[.bool (decide ((mkRat (n : Int) d).num < 0)), a, b], .int .i64 0] ∧ Ws I' a (natW (mkRat (n : Int) d).num.natAbs) ∧ Ws I' b (natW (mkRat (n : Int) d).den)) := by
  have hlow : lowL (natW d) ≠ 0 := fun e => hd (by have := (lowL_zero (Wds_natW d)).1 e; rwa [val_natW] at this)
  intro w hw
  refine enter2 _ Tryz.func203 rfl Tryz.ntmps203 rfl ?_ hw
  refine cS (cR ?_)
  refine o_box trivial rfl rfl rfl (fun b2 => ?_)
  refine o_box trivial rfl rfl rfl (fun b3 => ?_)
  refine o_alloc trivial rfl Tryz.zeroValue42 rfl (fun b4 => ?_)
  refine oV ?_
  refine oN (tC (cS (cS (cR ?_))))
  refine oF 1 Tryz.underlying99 Tryz.sizeOf40 ?_
  refine oL Tryz.isAgg40 ?_
  refine o_callQ trivial rfl Tryz.call139 rfl (rLow_any _ _ hb (by omega)) ?_
  refine oV ?_
  refine oN (tC ?_)
  refine cC rfl (fun h1 => ?_) (fun h1 => ?_)
  ·
   have f1 := h1
   try simp only [bl] at f1
   exfalso; omega
  have f1 := h1
  try simp only [bl] at f1
  refine cK (tC (cS (cR ?_)))
  refine oF 0 Tryz.underlying99 Tryz.sizeOf4 ?_
  refine oL Tryz.isAgg4 ?_
  refine oF 0 Tryz.underlying99 Tryz.sizeOf4 ?_
  refine oL Tryz.isAgg4 ?_
  refine o_neqB trivial rfl rfl rfl Tryz.underlying4 ?_
  refine oF 1 Tryz.underlying99 Tryz.sizeOf40 ?_
  refine oL Tryz.isAgg40 ?_
  refine o_buildS trivial rfl (bld99) rfl (.cons rfl rfl rfl (by repeat constructor) (.cons rfl (by first | exact (Ws.cells1 (by assumption)).1 | exact (Slc.cells1 (by assumption)).1 | rfl) (by rfl) (by repeat constructor) .nil)) ?_
  refine oF 1 Tryz.underlying99 Tryz.sizeOf40 ?_
  refine oL Tryz.isAgg40 ?_
  refine o_callI trivial rfl Tryz.call61 rfl (rlow_any false va vb _ _ ha hb hs hs2) ?_
  rintro v21 I2 hx2 ⟨a, b, rfl, h3, h4⟩
  refine oS Tryz.sizeOf42 ?_
  refine oV ?_
  refine oN (tC (cT ?_))
  refine retR rfl (.agg Tryz.isAgg42 Tryz.sizeOf42 rfl (by repeat constructor) rfl (.tmp rfl .nil)) ?_
  rw [val_natW, val_natW] at h3 h4
  refine leaf hx2 (List.nil_sublist _) ⟨a, b, ?_, h3, h4⟩
  rw [val_natW, val_natW]; rfl
theorem rParse8_any (s : ByteArray) {I : Hp} (hz : numZ s = true) : Fun Tryz.prog 183 [.string s] I [] (fun v I' _ => ∃ a b, v = .tuple #[.agg #[.bool (decide ((numQ s).num < 0)), a, b], .int .i64 0] ∧ Ws I' a (natW (numQ s).num.natAbs) ∧ Ws I' b (natW (numQ s).den)) := by
  have hsz : s.size ≤ 81 ∧ partZ (s.extract 0 (cutZ s)) = true := by
    have hle := cutZ_le s
    unfold numZ at hz
    split at hz
    · rename_i hc
      obtain ⟨_, _, k, _⟩ := partZ_digit hz
      rw [hc, cut_full]
      exact ⟨by omega, hz⟩
    · simp only [Bool.and_eq_true] at hz
      obtain ⟨_, _, k, _⟩ := partZ_digit hz.1.1
      obtain ⟨_, _, k2, _⟩ := partZ_digit hz.1.2
      rw [ByteArray.size_extract] at k k2
      exact ⟨by omega, hz.1.1⟩
  have htail : cutZ s ≠ s.size → partZ (s.extract (cutZ s + 1) s.size) = true ∧ decN (s.extract (cutZ s + 1) s.size).toList ≠ 0 := fun hc => by
    unfold numZ at hz
    rw [if_neg hc] at hz
    simp only [Bool.and_eq_true, Bool.not_eq_true'] at hz
    exact ⟨hz.1.2, decN_pos hz.1.2 hz.2⟩
  have hfew : ∀ {u : ByteArray}, partZ u = true → (natW (decN u.toList)).length ≤ 3000 := fun {u} hu => by
    have := natW_forty (decN_forty hu u.size)
    rw [List.take_of_length_le (by rw [toList_len]; omega)] at this
    omega
  have hhead := hfew hsz.2
  have hcl := cutZ_le s
  intro w hw
  refine enter1 _ Tryz.func183 rfl Tryz.ntmps183 rfl ?_ hw
  refine cS (cR ?_)
  refine o_alloc trivial rfl Tryz.zeroValue42 rfl (fun b2 => ?_)
  refine oV ?_
  refine oN (tC (cS (cR ?_)))
  refine oV ?_
  refine o_lenS trivial rfl Tryz.underlying9 rfl ?_
  refine oV ?_
  refine oN (tC (cS (cS (cR ?_))))
  refine oV ?_
  refine o_lenS trivial rfl Tryz.underlying9 rfl ?_
  first | (refine o_sub trivial rfl rfl rfl ?_ ?_; (omega)) | refine oV ?_
  refine oV ?_
  refine oN (tC (cB ?_))
  refine c_loop (ι := Nat × Nat) [0, 2] (.cons rfl (.cons rfl .nil)) (fun x => x.1) (fun x E0 => (4, .int .i64 (x.2 : Int)) :: (5, .int .i64 ((x.1 : Int) - 1)) :: E0) (fun x => St w [] I [.box b2 (.cells #[.bool false, .slice none 0 0, .slice none 0 0] 42 (0, 0))]) (fun x => x.1 ≤ s.size ∧ x.2 = cutGo s (s.size - x.1) x.1) ((s.size, s.size)) (sC rfl (sC rfl (sC rfl (sC rfl sN)))) (fun _ h => h) (⟨Nat.le_refl _, (cutGo_end (Nat.le_refl _)).symm⟩) ?_
  rintro ⟨k, at0⟩ ⟨hk, hat⟩
  try dsimp only
  simp only at hk hat
  refine cS (cS (cR ?_))
  iterate 2 refine oV ?_
  refine oN (tC ?_)
  refine cC rfl (fun h1 => ?_) (fun h1 => ?_)
  ·
   have f1 := h1
   try simp only [bl] at f1
   obtain ⟨j, rfl⟩ : ∃ j, k = j + 1 := ⟨k - 1, by omega⟩
   rw [show ((j + 1 : Nat) : Int) - 1 = (j : Int) by omega]
   refine cK (tC (cS (cB (cS (cR ?_)))))
   iterate 2 refine oV ?_
   refine o_idxS trivial rfl Tryz.underlying9 rfl rfl (by omega) ?_
   refine oV ?_
   refine oN (tC ?_)
   refine cC rfl (fun h2 => ?_) (fun h2 => ?_)
   ·
    have f2 := h2
    try simp only [bl] at f2
    have h124 : (s.get! j).toNat = 124 := by rw [Int.toNat_natCast] at f2; omega
    refine cR ?_
    iterate 2 refine oV ?_
    refine oN (blk_n (tC (cR ?_)))
    refine oV ?_
    first | (refine o_sub trivial rfl rfl rfl ?_ ?_; (omega)) | refine oV ?_
    refine oV ?_
    refine oN ?_
    first
    | exact again (j, at0) (sC rfl (sC rfl (sC rfl (sC rfl sN)))) (fun _ h => h) (Nat.lt_succ_self _) ⟨by show j ≤ s.size; omega, hat.trans (cutGo_step (show j < s.size by omega) h124).symm⟩
    | exact again (j, j) (sC rfl (sC rfl (sC rfl (sC rfl sN)))) (fun _ h => h) (Nat.lt_succ_self _) ⟨by show j ≤ s.size; omega, (cutGo_stop (show j < s.size by omega) h124).symm⟩
   have f2 := h2
   try simp only [bl] at f2
   have h124 : ¬ (s.get! j).toNat = 124 := by rw [Int.toNat_natCast] at f2; omega
   refine cK (blk_n (tC (cR ?_)))
   refine oV ?_
   first | (refine o_sub trivial rfl rfl rfl ?_ ?_; (omega)) | refine oV ?_
   refine oV ?_
   refine oN ?_
   first
   | exact again (j, at0) (sC rfl (sC rfl (sC rfl (sC rfl sN)))) (fun _ h => h) (Nat.lt_succ_self _) ⟨by show j ≤ s.size; omega, hat.trans (cutGo_step (show j < s.size by omega) h124).symm⟩
   | exact again (j, j) (sC rfl (sC rfl (sC rfl (sC rfl sN)))) (fun _ h => h) (Nat.lt_succ_self _) ⟨by show j ≤ s.size; omega, (cutGo_stop (show j < s.size by omega) h124).symm⟩
  have f1 := h1
  try simp only [bl] at f1
  have hk0 : k = 0 := by omega
  subst hk0
  have hat : at0 = cutZ s := hat
  subst hat
  refine c_exit (then_x (then_x (blk_eq rfl (tC (cS (cR ?_))))))
  iterate 2 refine oV ?_
  refine o_sliceS2 trivial rfl Tryz.underlying9 rfl rfl (by omega) ?_
  rw [Int.toNat_natCast]
  refine o_callI trivial rfl Tryz.call201 rfl (rParse7_any _ hsz.2) ?_
  rintro _ I1 hx1 ⟨u, rfl, hu⟩
  iterate 3 refine oV ?_
  refine o_alloc trivial rfl Tryz.zeroValue99 rfl (fun b6 => ?_)
  refine oS Tryz.sizeOf99 ?_
  refine oV ?_
  refine oN (tC (cS (cS (cR ?_))))
  iterate 2 refine oV ?_
  refine oN (tC ?_)
  refine c_cond_f rfl (by rfl) ?_
  refine cK (tC (cS (cR ?_)))
  refine o_buildSl trivial rfl Tryz.underlying40 Tryz.sizeOf101 Tryz.zeroValue101 (by decide) (by decide) rfl (by repeat first | exact rfl | constructor) rfl (fun b36 => ?_)
  refine oV ?_
  refine oN (tC (cS (cS ?_)))
  refine c_sealW [1] .here (Wds_cons (by decide) Wds_nil) (by unfold maxLen; simp) (fun I2 hx2 hs2 => ?_)
  refine cR ?_
  iterate 2 refine oV ?_
  refine o_lenS trivial rfl Tryz.underlying9 rfl ?_
  refine oV ?_
  refine oN (tC ?_)
  refine cC rfl (fun h4 => ?_) (fun h4 => ?_)
  ·
   have f4 := h4
   try simp only [bl] at f4
   have hc : cutZ s ≠ s.size := by omega
   obtain ⟨hz2, hz3⟩ := htail hc
   refine cS (cR ?_)
   iterate 2 refine oV ?_
   first | (refine o_add trivial rfl rfl rfl ?_ ?_; (omega)) | refine oV ?_
   refine o_sliceS1 trivial rfl Tryz.underlying9 rfl rfl (by omega) ?_
   rw [show ((cutZ s : Int) + 1).toNat = cutZ s + 1 by omega]
   refine o_callI trivial rfl Tryz.call202 rfl (rParse6_any _ hz2) ?_
   rintro _ I3 hx3 ⟨u3, rfl, hu3⟩
   iterate 5 refine oV ?_
   refine oN (tC (cS (cS (cR ?_))))
   iterate 2 refine oV ?_
   refine oN (tC ?_)
   refine c_cond_f rfl (by rfl) ?_
   refine cK (tC (cR ?_))
   iterate 2 refine oV ?_
   refine oN (tC (cS (cR ?_)))
   refine oA Tryz.isAgg99 Tryz.sizeOf99 ?_
   refine oV ?_
   refine o_buildS trivial rfl (bld99) rfl (.cons rfl (by first | exact (Ws.cells1 (by assumption)).1 | exact (Slc.cells1 (by assumption)).1 | rfl) (by rfl) (by repeat constructor) .nil) ?_
   refine o_callI trivial rfl Tryz.call203 rfl (by first | exact rMake8_any _ _ _ _ (hu.le (hx2.le.trans hx3.le)) hu3 hhead (hfew hz2) hz3 | exact rMake8_any _ 1 _ _ (hu.le hx2.le) (by rw [natW_one]; exact hs2) hhead (by rw [natW_one]; decide) (by decide)) ?_
   rintro _ I4 hx4 ⟨a, b, rfl, ha, hb⟩
   iterate 2 refine oV ?_
   refine oS Tryz.sizeOf42 ?_
   refine oV ?_
   refine oN (tC (cT ?_))
   refine retR rfl (.agg Tryz.isAgg42 Tryz.sizeOf42 rfl (by repeat constructor) rfl (.tmp rfl .nil)) ?_
   first
   | refine leaf (hx1.trans (hx2.trans (hx3.trans hx4 (Nat.le_refl _)) (Nat.le_refl _)) (Nat.le_refl _)) (List.nil_sublist _) ⟨a, b, ?_, ?_, ?_⟩ <;> unfold numQ <;> rw [if_neg hc] <;> first | rfl | exact ha | exact hb
   | refine leaf (hx1.trans (hx2.trans hx4 (Nat.le_refl _)) (Nat.le_refl _)) (List.nil_sublist _) ⟨a, b, ?_, ?_, ?_⟩ <;> unfold numQ <;> rw [if_pos hc] <;> first | rfl | exact ha | exact hb
  have f4 := h4
  try simp only [bl] at f4
  have hc : cutZ s = s.size := by omega
  refine cK (tC (cS (cR ?_)))
  refine oA Tryz.isAgg99 Tryz.sizeOf99 ?_
  refine oV ?_
  refine o_buildS trivial rfl (bld99) rfl (.cons rfl (by first | exact (Ws.cells1 (by assumption)).1 | exact (Slc.cells1 (by assumption)).1 | rfl) (by rfl) (by repeat constructor) .nil) ?_
  refine o_callI trivial rfl Tryz.call203 rfl (by first | exact rMake8_any _ _ _ _ (hu.le (hx2.le.trans hx3.le)) hu3 hhead (hfew hz2) hz3 | exact rMake8_any _ 1 _ _ (hu.le hx2.le) (by rw [natW_one]; exact hs2) hhead (by rw [natW_one]; decide) (by decide)) ?_
  rintro _ I4 hx4 ⟨a, b, rfl, ha, hb⟩
  iterate 2 refine oV ?_
  refine oS Tryz.sizeOf42 ?_
  refine oV ?_
  refine oN (tC (cT ?_))
  refine retR rfl (.agg Tryz.isAgg42 Tryz.sizeOf42 rfl (by repeat constructor) rfl (.tmp rfl .nil)) ?_
  first
  | refine leaf (hx1.trans (hx2.trans (hx3.trans hx4 (Nat.le_refl _)) (Nat.le_refl _)) (Nat.le_refl _)) (List.nil_sublist _) ⟨a, b, ?_, ?_, ?_⟩ <;> unfold numQ <;> rw [if_neg hc] <;> first | rfl | exact ha | exact hb
  | refine leaf (hx1.trans (hx2.trans hx4 (Nat.le_refl _)) (Nat.le_refl _)) (List.nil_sublist _) ⟨a, b, ?_, ?_, ?_⟩ <;> unfold numQ <;> rw [if_pos hc] <;> first | rfl | exact ha | exact hb
abbrev rrB (b : Nat) (vall : Value) (i : Nat) (vi vl vo va : Value) (bad : Bool) : Tw.Item := .box b (.cells #[vall, .int .i64 (i : Nat), vi, vl, vo, va, .bool bad] 73 (0, 0))
theorem tk_cell {I : Hp} {v : Value} {L : List Tok} (h : Slc I 4 v (L.map Tok.cells)) {i : Nat} (hi : i < L.length) : ∀ k y, ([.int .i64 (tkAt L i).kind, .string (tkAt L i).text, .int .i64 (tkAt L i).line, .int .i64 (tkAt L i).col] : List Value)[k]? = some y → I.cell? ⟨slcB v, slcO v + ((i : Nat) : Int).toNat * 4 + k, none⟩ = some y := by
  rw [Int.toNat_natCast]
  have := toks_at h (List.getElem?_eq_getElem hi)
  rw [tkAt_in (List.getElem?_eq_getElem hi)]
  exact this
theorem rrIs_any (b i : Nat) (vall vi vl vo va : Value) (bad : Bool) (k : Int) (s : ByteArray) (L : List Tok) {I : Hp} (hL : Slc I 4 vall (L.map Tok.cells)) (hn : L.length ≤ 100000) (hi : i ≤ L.length) : Fun Tryz.prog 76 [.pointer (some ⟨b, 0, none⟩), .int .i64 k, .string s] I [rrB b vall i vi vl vo va bad]
    (fun v I' B' => I = I' ∧ v = .bool (!bad && hdT (L.drop i) k s) ∧ B' = [rrB b vall i vi vl vo va bad]) := by
  have hll : (L.map Tok.cells).length = L.length := List.length_map _
  have hk := hdT_at (L := L) (i := i) k s
  unfold isT at hk
  intro w hw
  refine enter3 _ Tryz.func76 rfl Tryz.ntmps76 rfl ?_ hw
  refine cS (cR ?_)
  refine oV ?_
  refine oN (tC (cS ?_))
  refine c_quiet (by kernel_rfl) (by kernel_rfl) (fun _ h => h.drawn) ?_
  iterate 2 refine oV ?_
  refine oF 6 Tryz.underlying73 Tryz.sizeOf4 ?_
  refine oL Tryz.isAgg4 ?_
  refine oV ?_
  refine' o_and trivial trivial rfl rfl rfl rfl rfl rfl rfl rfl (fun hb12 => ?_) ?_
  rotate_left
  ·
   have fb12 := hb12
   try simp only [bl] at fb12
   iterate 2 refine o_pv (wS rfl rfl hb12) rfl rfl ?_
   refine oX (T := 3) (off := 1) (wS rfl rfl hb12) rfl Tryz.underlying73 rfl rfl rfl Tryz.sizeOf3 rfl rfl ?_
   refine o_load1 (wS rfl rfl hb12) rfl Tryz.isAgg3 rfl (by repeat constructor) (by repeat constructor) ?_
   iterate 2 refine o_pv (wS rfl rfl hb12) rfl rfl ?_
   refine oX (T := 60) (off := 0) (wS rfl rfl hb12) rfl Tryz.underlying73 rfl rfl rfl Tryz.sizeOf60 rfl rfl ?_
   refine o_load1 (wS rfl rfl hb12) rfl Tryz.isAgg60 rfl (by repeat constructor) (by repeat constructor) ?_
   refine o_lenSlc (wS rfl rfl hb12) rfl Tryz.underlying60 rfl (hL) ?_
   refine o_pv (wS rfl rfl hb12) rfl rfl ?_
   refine oN ?_
   exact joins rfl
  refine' o_and trivial trivial rfl rfl rfl rfl rfl rfl rfl rfl (fun hb24 => ?_) ?_
  rotate_left
  ·
   have fb24 := hb24
   try simp only [bl] at fb24
   have hlt : i < L.length := by simp at hb24; omega
   iterate 2 refine o_pv (wS rfl rfl hb24) rfl rfl ?_
   refine oX (T := 60) (off := 0) (wS rfl rfl hb24) rfl Tryz.underlying73 rfl rfl rfl Tryz.sizeOf60 rfl rfl ?_
   refine o_load1 (wS rfl rfl hb24) rfl Tryz.isAgg60 rfl (by repeat constructor) (by repeat constructor) ?_
   iterate 2 refine o_pv (wS rfl rfl hb24) rfl rfl ?_
   refine oX (T := 3) (off := 1) (wS rfl rfl hb24) rfl Tryz.underlying73 rfl rfl rfl Tryz.sizeOf3 rfl rfl ?_
   refine o_load1 (wS rfl rfl hb24) rfl Tryz.isAgg3 rfl (by repeat constructor) (by repeat constructor) ?_
   refine o_elem (wS rfl rfl hb24) rfl Tryz.underlying60 Tryz.sizeOf68 rfl (hL) rfl (by omega) ?_
   refine oX (T := 3) (off := 0) (wS rfl rfl hb24) rfl Tryz.underlying68 rfl rfl rfl Tryz.sizeOf3 rfl rfl ?_
   refine o_load1I (wS rfl rfl hb24) rfl Tryz.isAgg3 rfl (tk_cell hL hlt 0 _ rfl) ?_
   iterate 2 refine o_pv (wS rfl rfl hb24) rfl rfl ?_
   refine oN ?_
   exact joins rfl
  refine' o_and trivial trivial rfl rfl rfl rfl rfl rfl rfl rfl (fun hb39 => ?_) ?_
  rotate_left
  ·
   have fb39 := hb39
   try simp only [bl] at fb39
   have hlt : i < L.length := by simp at hb39; omega
   iterate 2 refine o_pv (wS rfl rfl hb39) rfl rfl ?_
   refine oX (T := 60) (off := 0) (wS rfl rfl hb39) rfl Tryz.underlying73 rfl rfl rfl Tryz.sizeOf60 rfl rfl ?_
   refine o_load1 (wS rfl rfl hb39) rfl Tryz.isAgg60 rfl (by repeat constructor) (by repeat constructor) ?_
   iterate 2 refine o_pv (wS rfl rfl hb39) rfl rfl ?_
   refine oX (T := 3) (off := 1) (wS rfl rfl hb39) rfl Tryz.underlying73 rfl rfl rfl Tryz.sizeOf3 rfl rfl ?_
   refine o_load1 (wS rfl rfl hb39) rfl Tryz.isAgg3 rfl (by repeat constructor) (by repeat constructor) ?_
   refine o_elem (wS rfl rfl hb39) rfl Tryz.underlying60 Tryz.sizeOf68 rfl (hL) rfl (by omega) ?_
   refine oX (T := 9) (off := 1) (wS rfl rfl hb39) rfl Tryz.underlying68 rfl rfl rfl Tryz.sizeOf9 rfl rfl ?_
   refine o_load1I (wS rfl rfl hb39) rfl Tryz.isAgg9 rfl (tk_cell hL hlt 1 _ rfl) ?_
   iterate 2 refine o_pv (wS rfl rfl hb39) rfl rfl ?_
   refine oN ?_
   exact joins rfl
  refine oV ?_
  refine oN (tC (cT ?_))
  refine ret1 rfl rfl ?_
  refine leaf (Ext.refl _ _) (List.Sublist.refl _) ⟨rfl, congrArg Value.bool ?_, rfl⟩
  rw [hk, Bool.eq_iff_iff]
  simp [and_assoc]
def isR (bad : Bool) (L : List Tok) (i : Nat) (k : Int) (s : ByteArray) : Bool := !bad && hdT (L.drop i) k s
theorem isR_lt {bad : Bool} {L : List Tok} {i : Nat} {k : Int} {s : ByteArray} (h : isR bad L i k s = true) : bad = false ∧ hdT (L.drop i) k s = true ∧ i < L.length := by
  unfold isR at h
  simp at h
  exact ⟨h.1, h.2, hdT_lt h.2⟩
theorem rrWant_any (b i : Nat) (vall vi vl vo va : Value) (bad : Bool) (k : Int) (s : ByteArray) (L : List Tok) {I : Hp} (hL : Slc I 4 vall (L.map Tok.cells)) (hn : L.length ≤ 100000) (hi : i ≤ L.length) : Fun Tryz.prog 74 [.pointer (some ⟨b, 0, none⟩), .int .i64 k, .string s] I [rrB b vall i vi vl vo va bad]
    (fun v I' B' => I = I' ∧ v = .tuple #[] ∧ B' = [rrB b vall (adv (isR bad L i k s) i) vi vl vo va (bad || !isR bad L i k s)]) := by
  intro w hw
  refine enter3 _ Tryz.func74 rfl Tryz.ntmps74 rfl ?_ hw
  refine cS (cR ?_)
  iterate 3 refine oV ?_
  refine oC trivial rfl Tryz.call76 rfl (rrIs_any b i vall vi vl vo va bad k s L hL hn hi) (by repeat constructor) ?_
  rintro _ _ _ hx ⟨rfl, rfl, rfl⟩
  refine oV ?_
  refine oN (tC (cS (cR ?_)))
  refine oV ?_
  refine oN (tC ?_)
  refine cC rfl (fun h1 => ?_) (fun h1 => ?_)
  ·
   have f1 := h1
   try simp only [bl] at f1
   have hf : isR bad L i k s = true := h1
   obtain ⟨hbad, _, hlt⟩ := isR_lt hf
   refine cR ?_
   iterate 3 refine oV ?_
   refine oF 1 Tryz.underlying73 Tryz.sizeOf3 ?_
   refine oL Tryz.isAgg3 ?_
   first | (refine o_add trivial rfl rfl rfl ?_ ?_; (omega)) | refine oV ?_
   refine oV ?_
   refine oF 1 Tryz.underlying73 Tryz.sizeOf3 ?_
   refine oS Tryz.sizeOf3 ?_
   refine oN ?_
   refine ret0 rfl ?_
   exact fun w' hw' => ⟨I, [rrB b vall (i + 1) vi vl vo va bad], hw'.sort (by repeat constructor), Ext.refl _ _, rfl, rfl, by rw [hf, hbad]; rfl⟩
  have f1 := h1
  try simp only [bl] at f1
  have hf : isR bad L i k s = false := h1
  refine cR ?_
  iterate 2 refine oV ?_
  refine oF 6 Tryz.underlying73 Tryz.sizeOf4 ?_
  refine oS Tryz.sizeOf4 ?_
  refine oN ?_
  refine ret0 rfl ?_
  exact fun w' hw' => ⟨I, [rrB b vall i vi vl vo va true], hw'.sort (by repeat constructor), Ext.refl _ _, rfl, rfl, by rw [hf, Bool.not_false, Bool.or_true]; rfl⟩
def nmR' (bad : Bool) (L : List Tok) (i : Nat) : Bool := !bad && hdN (L.drop i)
theorem rrName_any (b i : Nat) (vall vi vl vo va : Value) (bad : Bool) (L : List Tok) {I : Hp} (hL : Slc I 4 vall (L.map Tok.cells)) (hn : L.length ≤ 100000) (hi : i ≤ L.length) : Fun Tryz.prog 77 [.pointer (some ⟨b, 0, none⟩)] I [rrB b vall i vi vl vo va bad]
    (fun v I' B' => I = I' ∧ v = .string (if nmR' bad L i then (tkAt L i).text else ⟨#[]⟩) ∧ B' = [rrB b vall (adv (nmR' bad L i) i) vi vl vo va (!nmR' bad L i)]) := by
  have hll : (L.map Tok.cells).length = L.length := List.length_map _
  have hk := hdN_at (L := L) (i := i)
  unfold nameT at hk
  intro w hw
  refine enter1 _ Tryz.func77 rfl Tryz.ntmps77 rfl ?_ hw
  refine cS (cR ?_)
  refine oV ?_
  refine oN (tC (cS (cS ?_)))
  refine c_quiet (by kernel_rfl) (by kernel_rfl) (fun _ h => h.drawn) ?_
  iterate 2 refine oV ?_
  refine oF 6 Tryz.underlying73 Tryz.sizeOf4 ?_
  refine oL Tryz.isAgg4 ?_
  refine' o_or trivial trivial rfl rfl rfl rfl rfl rfl rfl rfl (fun hb9 => ?_) ?_
  rotate_left
  ·
   have fb9 := hb9
   try simp only [bl] at fb9
   iterate 2 refine o_pv (wS rfl rfl hb9) rfl rfl ?_
   refine oX (T := 3) (off := 1) (wS rfl rfl hb9) rfl Tryz.underlying73 rfl rfl rfl Tryz.sizeOf3 rfl rfl ?_
   refine o_load1 (wS rfl rfl hb9) rfl Tryz.isAgg3 rfl (by repeat constructor) (by repeat constructor) ?_
   iterate 2 refine o_pv (wS rfl rfl hb9) rfl rfl ?_
   refine oX (T := 60) (off := 0) (wS rfl rfl hb9) rfl Tryz.underlying73 rfl rfl rfl Tryz.sizeOf60 rfl rfl ?_
   refine o_load1 (wS rfl rfl hb9) rfl Tryz.isAgg60 rfl (by repeat constructor) (by repeat constructor) ?_
   refine o_lenSlc (wS rfl rfl hb9) rfl Tryz.underlying60 rfl (hL) ?_
   refine o_pv (wS rfl rfl hb9) rfl rfl ?_
   refine oN ?_
   exact joins rfl
  refine oN (tC ?_)
  refine cC rfl (fun h1 => ?_) (fun h1 => ?_)
  ·
   have f1 := h1
   try simp only [bl] at f1
   have hf : nmR' bad L i = false := by
     unfold nmR'
     simp at h1
     rcases h1 with h1 | h1
     · rw [h1]; rfl
     · rw [hk, decide_eq_false (by omega), Bool.false_and, Bool.and_false]
   refine cS (cR ?_)
   iterate 2 refine oV ?_
   refine oF 6 Tryz.underlying73 Tryz.sizeOf4 ?_
   refine oS Tryz.sizeOf4 ?_
   refine oN (tC (cS (cR ?_)))
   refine oV ?_
   refine oN (tC (cT (tR ?_)))
   refine ret1 rfl rfl ?_
   exact fun w' hw' => ⟨I, [rrB b vall i vi vl vo va true], hw'.sort (by repeat constructor), Ext.refl _ _, rfl, by rw [hf]; rfl, by rw [hf]; rfl⟩
  have f1 := h1
  try simp only [bl] at f1
  have hb0 : bad = false ∧ i < L.length := by
    simp at h1
    exact ⟨h1.1, by omega⟩
  have hlt := hb0.2
  refine cK (tC (cS ?_))
  refine h_beginB (m := 12) [] (by repeat constructor) (by kernel_rfl) rfl ?_
  refine qT (i := 0) (qB 12 1) (Hp.Le.refl _) rfl rfl (oV qF) ?_
  refine qT (i := 1) (qB 12 3) (Hp.Le.refl _) rfl rfl (oV qF) ?_
  refine qT (i := 2) (qB 12 7) (Hp.Le.refl _) rfl rfl (oF 0 Tryz.underlying73 Tryz.sizeOf60 qF) ?_
  refine qT (i := 4) (qB 12 23) (Hp.Le.refl _) rfl rfl (oV qF) ?_
  refine qT (i := 5) (qB 12 55) (Hp.Le.refl _) rfl rfl (oV qF) ?_
  refine qT (i := 6) (qB 12 119) (Hp.Le.refl _) rfl rfl (oF 1 Tryz.underlying73 Tryz.sizeOf3 qF) ?_
  refine h_go [3, 7, 10] (by kernel_rfl) rfl (TWHs.cons ?_ (TWHs.cons ?_ (TWHs.cons ?_ TWHs.nil)))
  ·
   refine qP (qB 12 127) rfl ?_
   refine oL Tryz.isAgg60 ?_
   refine qM (Hp.Le.refl _) ?_
   refine h_go [7, 10] (by kernel_rfl) rfl (TWHs.cons ?_ (TWHs.cons ?_ TWHs.nil))
   ·
    refine qP (qB 12 255) rfl ?_
    refine oL Tryz.isAgg3 ?_
    refine qM (Hp.Le.refl _) ?_
    refine qT (i := 8) (qB 12 511) (Hp.Le.refl _) rfl rfl (o_elem trivial rfl Tryz.underlying60 Tryz.sizeOf68 rfl (hL) rfl (by omega) qF) ?_
    refine qT (i := 9) (qB 12 1023) (Hp.Le.refl _) rfl rfl (o_loadAI trivial rfl Tryz.isAgg68 Tryz.sizeOf68 rfl rfl (tk_cell hL hlt) qF) ?_
    refine qO (i := 10) (qB 12 2047) rfl ?_
    refine o_alloc trivial rfl Tryz.zeroValue68 rfl (fun b3 => ?_)
    refine qM (Hp.Le.refl _) ?_
    refine qO (i := 11) (qB 12 4095) rfl ?_
    refine oS Tryz.sizeOf68 ?_
    refine qM (Hp.Le.refl _) ?_
    refine h_end (by kernel_rfl) ?_
    refine tC (cS (cR ?_))
    refine oF 0 Tryz.underlying68 Tryz.sizeOf3 ?_
    refine oL Tryz.isAgg3 ?_
    refine oV ?_
    refine' o_and trivial trivial rfl rfl rfl rfl rfl rfl rfl rfl (fun hb37 => ?_) ?_
    rotate_left
    ·
     have fb37 := hb37
     try simp only [bl] at fb37
     refine oX (T := 9) (off := 1) (wS rfl rfl hb37) rfl Tryz.underlying68 rfl rfl rfl Tryz.sizeOf9 rfl rfl ?_
     refine o_load1 (wS rfl rfl hb37) rfl Tryz.isAgg9 rfl (by repeat constructor) (by repeat constructor) ?_
     refine oP (wS rfl rfl hb37) rfl Tryz.call50 rfl (refName_all _) ?_
     refine oN ?_
     exact joins rfl
    refine oV ?_
    refine oN (tC (cS (cS (cR ?_))))
    iterate 2 refine oV ?_
    refine oN (tC ?_)
    refine cC rfl (fun h2 => ?_) (fun h2 => ?_)
    ·
     have f2 := h2
     try simp only [bl] at f2
     have hf : nmR' bad L i = false := by
       unfold nmR'
       rw [hk, decide_eq_true hlt, Bool.true_and]
       simp only [Bool.not_eq_true'] at h2
       rw [h2, Bool.and_false]
     refine cS (cR ?_)
     iterate 2 refine oV ?_
     refine oF 6 Tryz.underlying73 Tryz.sizeOf4 ?_
     refine oS Tryz.sizeOf4 ?_
     refine oN (tC (cS (cR ?_)))
     refine oV ?_
     refine oN (tC (cT (tR ?_)))
     refine ret1 rfl rfl ?_
     exact fun w' hw' => ⟨I, [rrB b vall i vi vl vo va true], hw'.sort (by repeat constructor), Ext.refl _ _, rfl, by rw [hf]; rfl, by rw [hf]; rfl⟩
    have f2 := h2
    try simp only [bl] at f2
    have hf : nmR' bad L i = true := by
      unfold nmR'
      rw [hk, decide_eq_true hlt, Bool.true_and, hb0.1]
      simp only [Bool.not_eq_false'] at h2
      rw [h2]; rfl
    refine cK (tC (cS (cR ?_)))
    iterate 3 refine oV ?_
    refine oF 1 Tryz.underlying73 Tryz.sizeOf3 ?_
    refine oL Tryz.isAgg3 ?_
    first | (refine o_add trivial rfl rfl rfl ?_ ?_; (omega)) | refine oV ?_
    refine oV ?_
    refine oF 1 Tryz.underlying73 Tryz.sizeOf3 ?_
    refine oS Tryz.sizeOf3 ?_
    refine oN (tC (cS (cR ?_)))
    refine oF 1 Tryz.underlying68 Tryz.sizeOf9 ?_
    refine oL Tryz.isAgg9 ?_
    refine oV ?_
    refine oN (tC (cT ?_))
    refine ret1 rfl rfl ?_
    exact fun w' hw' => ⟨I, [rrB b vall (i + 1) vi vl vo va bad], hw'.sort (by repeat constructor), Ext.refl _ _, rfl, by rw [hf]; rfl, by rw [hf, hb0.1]; rfl⟩
   refine qP (qB 12 1151) rfl ?_
   refine o_alloc trivial rfl Tryz.zeroValue68 rfl (fun b3 => ?_)
   refine qM (Hp.Le.refl _) ?_
   refine qO (i := 7) (qB 12 1279) rfl ?_
   refine oL Tryz.isAgg3 ?_
   refine qM (Hp.Le.refl _) ?_
   refine qT (i := 8) (qB 12 1535) (Hp.Le.refl _) rfl rfl (o_elem trivial rfl Tryz.underlying60 Tryz.sizeOf68 rfl (hL) rfl (by omega) qF) ?_
   refine qT (i := 9) (qB 12 2047) (Hp.Le.refl _) rfl rfl (o_loadAI trivial rfl Tryz.isAgg68 Tryz.sizeOf68 rfl rfl (tk_cell hL hlt) qF) ?_
   refine qO (i := 11) (qB 12 4095) rfl ?_
   refine oS Tryz.sizeOf68 ?_
   refine qM (Hp.Le.refl _) ?_
   refine h_end (by kernel_rfl) ?_
   refine tC (cS (cR ?_))
   refine oF 0 Tryz.underlying68 Tryz.sizeOf3 ?_
   refine oL Tryz.isAgg3 ?_
   refine oV ?_
   refine' o_and trivial trivial rfl rfl rfl rfl rfl rfl rfl rfl (fun hb37 => ?_) ?_
   rotate_left
   ·
    have fb37 := hb37
    try simp only [bl] at fb37
    refine oX (T := 9) (off := 1) (wS rfl rfl hb37) rfl Tryz.underlying68 rfl rfl rfl Tryz.sizeOf9 rfl rfl ?_
    refine o_load1 (wS rfl rfl hb37) rfl Tryz.isAgg9 rfl (by repeat constructor) (by repeat constructor) ?_
    refine oP (wS rfl rfl hb37) rfl Tryz.call50 rfl (refName_all _) ?_
    refine oN ?_
    exact joins rfl
   refine oV ?_
   refine oN (tC (cS (cS (cR ?_))))
   iterate 2 refine oV ?_
   refine oN (tC ?_)
   refine cC rfl (fun h2 => ?_) (fun h2 => ?_)
   ·
    have f2 := h2
    try simp only [bl] at f2
    have hf : nmR' bad L i = false := by
      unfold nmR'
      rw [hk, decide_eq_true hlt, Bool.true_and]
      simp only [Bool.not_eq_true'] at h2
      rw [h2, Bool.and_false]
    refine cS (cR ?_)
    iterate 2 refine oV ?_
    refine oF 6 Tryz.underlying73 Tryz.sizeOf4 ?_
    refine oS Tryz.sizeOf4 ?_
    refine oN (tC (cS (cR ?_)))
    refine oV ?_
    refine oN (tC (cT (tR ?_)))
    refine ret1 rfl rfl ?_
    exact fun w' hw' => ⟨I, [rrB b vall i vi vl vo va true], hw'.sort (by repeat constructor), Ext.refl _ _, rfl, by rw [hf]; rfl, by rw [hf]; rfl⟩
   have f2 := h2
   try simp only [bl] at f2
   have hf : nmR' bad L i = true := by
     unfold nmR'
     rw [hk, decide_eq_true hlt, Bool.true_and, hb0.1]
     simp only [Bool.not_eq_false'] at h2
     rw [h2]; rfl
   refine cK (tC (cS (cR ?_)))
   iterate 3 refine oV ?_
   refine oF 1 Tryz.underlying73 Tryz.sizeOf3 ?_
   refine oL Tryz.isAgg3 ?_
   first | (refine o_add trivial rfl rfl rfl ?_ ?_; (omega)) | refine oV ?_
   refine oV ?_
   refine oF 1 Tryz.underlying73 Tryz.sizeOf3 ?_
   refine oS Tryz.sizeOf3 ?_
   refine oN (tC (cS (cR ?_)))
   refine oF 1 Tryz.underlying68 Tryz.sizeOf9 ?_
   refine oL Tryz.isAgg9 ?_
   refine oV ?_
   refine oN (tC (cT ?_))
   refine ret1 rfl rfl ?_
   exact fun w' hw' => ⟨I, [rrB b vall (i + 1) vi vl vo va bad], hw'.sort (by repeat constructor), Ext.refl _ _, rfl, by rw [hf]; rfl, by rw [hf, hb0.1]; rfl⟩
  ·
   refine qP (qB 12 247) rfl ?_
   refine oL Tryz.isAgg3 ?_
   refine qM (Hp.Le.refl _) ?_
   refine h_go [3, 10] (by kernel_rfl) rfl (TWHs.cons ?_ (TWHs.cons ?_ TWHs.nil))
   ·
    refine qP (qB 12 255) rfl ?_
    refine oL Tryz.isAgg60 ?_
    refine qM (Hp.Le.refl _) ?_
    refine qT (i := 8) (qB 12 511) (Hp.Le.refl _) rfl rfl (o_elem trivial rfl Tryz.underlying60 Tryz.sizeOf68 rfl (hL) rfl (by omega) qF) ?_
    refine qT (i := 9) (qB 12 1023) (Hp.Le.refl _) rfl rfl (o_loadAI trivial rfl Tryz.isAgg68 Tryz.sizeOf68 rfl rfl (tk_cell hL hlt) qF) ?_
    refine qO (i := 10) (qB 12 2047) rfl ?_
    refine o_alloc trivial rfl Tryz.zeroValue68 rfl (fun b3 => ?_)
    refine qM (Hp.Le.refl _) ?_
    refine qO (i := 11) (qB 12 4095) rfl ?_
    refine oS Tryz.sizeOf68 ?_
    refine qM (Hp.Le.refl _) ?_
    refine h_end (by kernel_rfl) ?_
    refine tC (cS (cR ?_))
    refine oF 0 Tryz.underlying68 Tryz.sizeOf3 ?_
    refine oL Tryz.isAgg3 ?_
    refine oV ?_
    refine' o_and trivial trivial rfl rfl rfl rfl rfl rfl rfl rfl (fun hb37 => ?_) ?_
    rotate_left
    ·
     have fb37 := hb37
     try simp only [bl] at fb37
     refine oX (T := 9) (off := 1) (wS rfl rfl hb37) rfl Tryz.underlying68 rfl rfl rfl Tryz.sizeOf9 rfl rfl ?_
     refine o_load1 (wS rfl rfl hb37) rfl Tryz.isAgg9 rfl (by repeat constructor) (by repeat constructor) ?_
     refine oP (wS rfl rfl hb37) rfl Tryz.call50 rfl (refName_all _) ?_
     refine oN ?_
     exact joins rfl
    refine oV ?_
    refine oN (tC (cS (cS (cR ?_))))
    iterate 2 refine oV ?_
    refine oN (tC ?_)
    refine cC rfl (fun h2 => ?_) (fun h2 => ?_)
    ·
     have f2 := h2
     try simp only [bl] at f2
     have hf : nmR' bad L i = false := by
       unfold nmR'
       rw [hk, decide_eq_true hlt, Bool.true_and]
       simp only [Bool.not_eq_true'] at h2
       rw [h2, Bool.and_false]
     refine cS (cR ?_)
     iterate 2 refine oV ?_
     refine oF 6 Tryz.underlying73 Tryz.sizeOf4 ?_
     refine oS Tryz.sizeOf4 ?_
     refine oN (tC (cS (cR ?_)))
     refine oV ?_
     refine oN (tC (cT (tR ?_)))
     refine ret1 rfl rfl ?_
     exact fun w' hw' => ⟨I, [rrB b vall i vi vl vo va true], hw'.sort (by repeat constructor), Ext.refl _ _, rfl, by rw [hf]; rfl, by rw [hf]; rfl⟩
    have f2 := h2
    try simp only [bl] at f2
    have hf : nmR' bad L i = true := by
      unfold nmR'
      rw [hk, decide_eq_true hlt, Bool.true_and, hb0.1]
      simp only [Bool.not_eq_false'] at h2
      rw [h2]; rfl
    refine cK (tC (cS (cR ?_)))
    iterate 3 refine oV ?_
    refine oF 1 Tryz.underlying73 Tryz.sizeOf3 ?_
    refine oL Tryz.isAgg3 ?_
    first | (refine o_add trivial rfl rfl rfl ?_ ?_; (omega)) | refine oV ?_
    refine oV ?_
    refine oF 1 Tryz.underlying73 Tryz.sizeOf3 ?_
    refine oS Tryz.sizeOf3 ?_
    refine oN (tC (cS (cR ?_)))
    refine oF 1 Tryz.underlying68 Tryz.sizeOf9 ?_
    refine oL Tryz.isAgg9 ?_
    refine oV ?_
    refine oN (tC (cT ?_))
    refine ret1 rfl rfl ?_
    exact fun w' hw' => ⟨I, [rrB b vall (i + 1) vi vl vo va bad], hw'.sort (by repeat constructor), Ext.refl _ _, rfl, by rw [hf]; rfl, by rw [hf, hb0.1]; rfl⟩
   refine qP (qB 12 1271) rfl ?_
   refine o_alloc trivial rfl Tryz.zeroValue68 rfl (fun b3 => ?_)
   refine qM (Hp.Le.refl _) ?_
   refine qO (i := 3) (qB 12 1279) rfl ?_
   refine oL Tryz.isAgg60 ?_
   refine qM (Hp.Le.refl _) ?_
   refine qT (i := 8) (qB 12 1535) (Hp.Le.refl _) rfl rfl (o_elem trivial rfl Tryz.underlying60 Tryz.sizeOf68 rfl (hL) rfl (by omega) qF) ?_
   refine qT (i := 9) (qB 12 2047) (Hp.Le.refl _) rfl rfl (o_loadAI trivial rfl Tryz.isAgg68 Tryz.sizeOf68 rfl rfl (tk_cell hL hlt) qF) ?_
   refine qO (i := 11) (qB 12 4095) rfl ?_
   refine oS Tryz.sizeOf68 ?_
   refine qM (Hp.Le.refl _) ?_
   refine h_end (by kernel_rfl) ?_
   refine tC (cS (cR ?_))
   refine oF 0 Tryz.underlying68 Tryz.sizeOf3 ?_
   refine oL Tryz.isAgg3 ?_
   refine oV ?_
   refine' o_and trivial trivial rfl rfl rfl rfl rfl rfl rfl rfl (fun hb37 => ?_) ?_
   rotate_left
   ·
    have fb37 := hb37
    try simp only [bl] at fb37
    refine oX (T := 9) (off := 1) (wS rfl rfl hb37) rfl Tryz.underlying68 rfl rfl rfl Tryz.sizeOf9 rfl rfl ?_
    refine o_load1 (wS rfl rfl hb37) rfl Tryz.isAgg9 rfl (by repeat constructor) (by repeat constructor) ?_
    refine oP (wS rfl rfl hb37) rfl Tryz.call50 rfl (refName_all _) ?_
    refine oN ?_
    exact joins rfl
   refine oV ?_
   refine oN (tC (cS (cS (cR ?_))))
   iterate 2 refine oV ?_
   refine oN (tC ?_)
   refine cC rfl (fun h2 => ?_) (fun h2 => ?_)
   ·
    have f2 := h2
    try simp only [bl] at f2
    have hf : nmR' bad L i = false := by
      unfold nmR'
      rw [hk, decide_eq_true hlt, Bool.true_and]
      simp only [Bool.not_eq_true'] at h2
      rw [h2, Bool.and_false]
    refine cS (cR ?_)
    iterate 2 refine oV ?_
    refine oF 6 Tryz.underlying73 Tryz.sizeOf4 ?_
    refine oS Tryz.sizeOf4 ?_
    refine oN (tC (cS (cR ?_)))
    refine oV ?_
    refine oN (tC (cT (tR ?_)))
    refine ret1 rfl rfl ?_
    exact fun w' hw' => ⟨I, [rrB b vall i vi vl vo va true], hw'.sort (by repeat constructor), Ext.refl _ _, rfl, by rw [hf]; rfl, by rw [hf]; rfl⟩
   have f2 := h2
   try simp only [bl] at f2
   have hf : nmR' bad L i = true := by
     unfold nmR'
     rw [hk, decide_eq_true hlt, Bool.true_and, hb0.1]
     simp only [Bool.not_eq_false'] at h2
     rw [h2]; rfl
   refine cK (tC (cS (cR ?_)))
   iterate 3 refine oV ?_
   refine oF 1 Tryz.underlying73 Tryz.sizeOf3 ?_
   refine oL Tryz.isAgg3 ?_
   first | (refine o_add trivial rfl rfl rfl ?_ ?_; (omega)) | refine oV ?_
   refine oV ?_
   refine oF 1 Tryz.underlying73 Tryz.sizeOf3 ?_
   refine oS Tryz.sizeOf3 ?_
   refine oN (tC (cS (cR ?_)))
   refine oF 1 Tryz.underlying68 Tryz.sizeOf9 ?_
   refine oL Tryz.isAgg9 ?_
   refine oV ?_
   refine oN (tC (cT ?_))
   refine ret1 rfl rfl ?_
   exact fun w' hw' => ⟨I, [rrB b vall (i + 1) vi vl vo va bad], hw'.sort (by repeat constructor), Ext.refl _ _, rfl, by rw [hf]; rfl, by rw [hf, hb0.1]; rfl⟩
  refine qP (qB 12 1143) rfl ?_
  refine o_alloc trivial rfl Tryz.zeroValue68 rfl (fun b3 => ?_)
  refine qM (Hp.Le.refl _) ?_
  refine h_go [3, 7] (by kernel_rfl) rfl (TWHs.cons ?_ (TWHs.cons ?_ TWHs.nil))
  ·
   refine qP (qB 12 1151) rfl ?_
   refine oL Tryz.isAgg60 ?_
   refine qM (Hp.Le.refl _) ?_
   refine qO (i := 7) (qB 12 1279) rfl ?_
   refine oL Tryz.isAgg3 ?_
   refine qM (Hp.Le.refl _) ?_
   refine qT (i := 8) (qB 12 1535) (Hp.Le.refl _) rfl rfl (o_elem trivial rfl Tryz.underlying60 Tryz.sizeOf68 rfl (hL) rfl (by omega) qF) ?_
   refine qT (i := 9) (qB 12 2047) (Hp.Le.refl _) rfl rfl (o_loadAI trivial rfl Tryz.isAgg68 Tryz.sizeOf68 rfl rfl (tk_cell hL hlt) qF) ?_
   refine qO (i := 11) (qB 12 4095) rfl ?_
   refine oS Tryz.sizeOf68 ?_
   refine qM (Hp.Le.refl _) ?_
   refine h_end (by kernel_rfl) ?_
   refine tC (cS (cR ?_))
   refine oF 0 Tryz.underlying68 Tryz.sizeOf3 ?_
   refine oL Tryz.isAgg3 ?_
   refine oV ?_
   refine' o_and trivial trivial rfl rfl rfl rfl rfl rfl rfl rfl (fun hb37 => ?_) ?_
   rotate_left
   ·
    have fb37 := hb37
    try simp only [bl] at fb37
    refine oX (T := 9) (off := 1) (wS rfl rfl hb37) rfl Tryz.underlying68 rfl rfl rfl Tryz.sizeOf9 rfl rfl ?_
    refine o_load1 (wS rfl rfl hb37) rfl Tryz.isAgg9 rfl (by repeat constructor) (by repeat constructor) ?_
    refine oP (wS rfl rfl hb37) rfl Tryz.call50 rfl (refName_all _) ?_
    refine oN ?_
    exact joins rfl
   refine oV ?_
   refine oN (tC (cS (cS (cR ?_))))
   iterate 2 refine oV ?_
   refine oN (tC ?_)
   refine cC rfl (fun h2 => ?_) (fun h2 => ?_)
   ·
    have f2 := h2
    try simp only [bl] at f2
    have hf : nmR' bad L i = false := by
      unfold nmR'
      rw [hk, decide_eq_true hlt, Bool.true_and]
      simp only [Bool.not_eq_true'] at h2
      rw [h2, Bool.and_false]
    refine cS (cR ?_)
    iterate 2 refine oV ?_
    refine oF 6 Tryz.underlying73 Tryz.sizeOf4 ?_
    refine oS Tryz.sizeOf4 ?_
    refine oN (tC (cS (cR ?_)))
    refine oV ?_
    refine oN (tC (cT (tR ?_)))
    refine ret1 rfl rfl ?_
    exact fun w' hw' => ⟨I, [rrB b vall i vi vl vo va true], hw'.sort (by repeat constructor), Ext.refl _ _, rfl, by rw [hf]; rfl, by rw [hf]; rfl⟩
   have f2 := h2
   try simp only [bl] at f2
   have hf : nmR' bad L i = true := by
     unfold nmR'
     rw [hk, decide_eq_true hlt, Bool.true_and, hb0.1]
     simp only [Bool.not_eq_false'] at h2
     rw [h2]; rfl
   refine cK (tC (cS (cR ?_)))
   iterate 3 refine oV ?_
   refine oF 1 Tryz.underlying73 Tryz.sizeOf3 ?_
   refine oL Tryz.isAgg3 ?_
   first | (refine o_add trivial rfl rfl rfl ?_ ?_; (omega)) | refine oV ?_
   refine oV ?_
   refine oF 1 Tryz.underlying73 Tryz.sizeOf3 ?_
   refine oS Tryz.sizeOf3 ?_
   refine oN (tC (cS (cR ?_)))
   refine oF 1 Tryz.underlying68 Tryz.sizeOf9 ?_
   refine oL Tryz.isAgg9 ?_
   refine oV ?_
   refine oN (tC (cT ?_))
   refine ret1 rfl rfl ?_
   exact fun w' hw' => ⟨I, [rrB b vall (i + 1) vi vl vo va bad], hw'.sort (by repeat constructor), Ext.refl _ _, rfl, by rw [hf]; rfl, by rw [hf, hb0.1]; rfl⟩
  refine qP (qB 12 1271) rfl ?_
  refine oL Tryz.isAgg3 ?_
  refine qM (Hp.Le.refl _) ?_
  refine qO (i := 3) (qB 12 1279) rfl ?_
  refine oL Tryz.isAgg60 ?_
  refine qM (Hp.Le.refl _) ?_
  refine qT (i := 8) (qB 12 1535) (Hp.Le.refl _) rfl rfl (o_elem trivial rfl Tryz.underlying60 Tryz.sizeOf68 rfl (hL) rfl (by omega) qF) ?_
  refine qT (i := 9) (qB 12 2047) (Hp.Le.refl _) rfl rfl (o_loadAI trivial rfl Tryz.isAgg68 Tryz.sizeOf68 rfl rfl (tk_cell hL hlt) qF) ?_
  refine qO (i := 11) (qB 12 4095) rfl ?_
  refine oS Tryz.sizeOf68 ?_
  refine qM (Hp.Le.refl _) ?_
  refine h_end (by kernel_rfl) ?_
  refine tC (cS (cR ?_))
  refine oF 0 Tryz.underlying68 Tryz.sizeOf3 ?_
  refine oL Tryz.isAgg3 ?_
  refine oV ?_
  refine' o_and trivial trivial rfl rfl rfl rfl rfl rfl rfl rfl (fun hb37 => ?_) ?_
  rotate_left
  ·
   have fb37 := hb37
   try simp only [bl] at fb37
   refine oX (T := 9) (off := 1) (wS rfl rfl hb37) rfl Tryz.underlying68 rfl rfl rfl Tryz.sizeOf9 rfl rfl ?_
   refine o_load1 (wS rfl rfl hb37) rfl Tryz.isAgg9 rfl (by repeat constructor) (by repeat constructor) ?_
   refine oP (wS rfl rfl hb37) rfl Tryz.call50 rfl (refName_all _) ?_
   refine oN ?_
   exact joins rfl
  refine oV ?_
  refine oN (tC (cS (cS (cR ?_))))
  iterate 2 refine oV ?_
  refine oN (tC ?_)
  refine cC rfl (fun h2 => ?_) (fun h2 => ?_)
  ·
   have f2 := h2
   try simp only [bl] at f2
   have hf : nmR' bad L i = false := by
     unfold nmR'
     rw [hk, decide_eq_true hlt, Bool.true_and]
     simp only [Bool.not_eq_true'] at h2
     rw [h2, Bool.and_false]
   refine cS (cR ?_)
   iterate 2 refine oV ?_
   refine oF 6 Tryz.underlying73 Tryz.sizeOf4 ?_
   refine oS Tryz.sizeOf4 ?_
   refine oN (tC (cS (cR ?_)))
   refine oV ?_
   refine oN (tC (cT (tR ?_)))
   refine ret1 rfl rfl ?_
   exact fun w' hw' => ⟨I, [rrB b vall i vi vl vo va true], hw'.sort (by repeat constructor), Ext.refl _ _, rfl, by rw [hf]; rfl, by rw [hf]; rfl⟩
  have f2 := h2
  try simp only [bl] at f2
  have hf : nmR' bad L i = true := by
    unfold nmR'
    rw [hk, decide_eq_true hlt, Bool.true_and, hb0.1]
    simp only [Bool.not_eq_false'] at h2
    rw [h2]; rfl
  refine cK (tC (cS (cR ?_)))
  iterate 3 refine oV ?_
  refine oF 1 Tryz.underlying73 Tryz.sizeOf3 ?_
  refine oL Tryz.isAgg3 ?_
  first | (refine o_add trivial rfl rfl rfl ?_ ?_; (omega)) | refine oV ?_
  refine oV ?_
  refine oF 1 Tryz.underlying73 Tryz.sizeOf3 ?_
  refine oS Tryz.sizeOf3 ?_
  refine oN (tC (cS (cR ?_)))
  refine oF 1 Tryz.underlying68 Tryz.sizeOf9 ?_
  refine oL Tryz.isAgg9 ?_
  refine oV ?_
  refine oN (tC (cT ?_))
  refine ret1 rfl rfl ?_
  exact fun w' hw' => ⟨I, [rrB b vall (i + 1) vi vl vo va bad], hw'.sort (by repeat constructor), Ext.refl _ _, rfl, by rw [hf]; rfl, by rw [hf, hb0.1]; rfl⟩
theorem rrNode_any (b i : Nat) (vall vi vl vo va : Value) (bad : Bool) (c : NodeV) (ns : List NodeV) {I : Hp} (hc : c.ok I) (hn : ns.length ≤ 90000) : Fun Tryz.prog 109 [.pointer (some ⟨b, 0, none⟩), ndV c] I [rrB b vall i vi vl vo va bad, ndR va ns]
    (fun v I' B' => I = I' ∧ v = .int .i64 (ns.length : Nat) ∧ ∃ va', B' = [rrB b vall i vi vl vo va' bad, ndR va' (ns ++ [c])]) := by
  have hc1 := hc.1.cells1
  have hc2 := hc.2.cells1
  have hl : (ns ++ [c]).length = ns.length + 1 := by simp
  unfold ndV
  intro w hw
  refine enter2 _ Tryz.func109 rfl Tryz.ntmps109 rfl ?_ hw
  refine cS (cR ?_)
  refine o_box trivial rfl rfl rfl (fun b3 => ?_)
  refine oV ?_
  refine oN (tC (cS ?_))
  refine h_beginB (m := 13) [.box b3 _] (by repeat constructor) (by kernel_rfl) rfl ?_
  refine qT (i := 0) (qB 13 1) (Hp.Le.refl _) rfl rfl (oV qF) ?_
  refine qT (i := 1) (qB 13 3) (Hp.Le.refl _) rfl rfl (oV qF) ?_
  refine qT (i := 2) (qB 13 7) (Hp.Le.refl _) rfl rfl (oV qF) ?_
  refine qT (i := 3) (qB 13 15) (Hp.Le.refl _) rfl rfl (oF 2 Tryz.underlying73 Tryz.sizeOf27 qF) ?_
  refine qT (i := 4) (qB 13 31) (Hp.Le.refl _) rfl rfl (oF 3 Tryz.underlying27 Tryz.sizeOf25 qF) ?_
  refine qT (i := 6) (qB 13 95) (Hp.Le.refl _) rfl rfl (oA Tryz.isAgg44 Tryz.sizeOf44 qF) ?_
  refine h_go [5, 7] (by kernel_rfl) rfl (TWHs.cons ?_ (TWHs.cons ?_ TWHs.nil))
  ·
   refine qP (qB 13 127) rfl ?_
   refine oL Tryz.isAgg25 ?_
   refine qM (Hp.Le.refl _) ?_
   refine qO (i := 7) (qB 13 255) rfl ?_
   refine o_buildSl trivial rfl Tryz.underlying25 Tryz.sizeOf44 Tryz.zeroValue44 (by decide) (by decide) rfl (by repeat first | exact rfl | constructor) rfl (fun b12 => ?_)
   refine qM (Hp.Le.refl _) ?_
   refine qO (i := 8) (qB 13 511) rfl ?_
   refine o_appendBox trivial rfl Tryz.underlying25 (elem44) (by decide) rfl rfl (fun v' => (by repeat constructor)) (by repeat constructor) rfl (by exact node_plain hc1.2 hc2.2) (by first | omega | (unfold maxLen; omega)) (by omega) (fun v13 => ?_)
   refine qM (Hp.Le.refl _) ?_
   refine qT (i := 9) (qB 13 1023) (Hp.Le.refl _) rfl rfl (oV qF) ?_
   refine qT (i := 10) (qB 13 2047) (Hp.Le.refl _) rfl rfl (oF 2 Tryz.underlying73 Tryz.sizeOf27 qF) ?_
   refine qT (i := 11) (qB 13 4095) (Hp.Le.refl _) rfl rfl (oF 3 Tryz.underlying27 Tryz.sizeOf25 qF) ?_
   refine qO (i := 12) (qB 13 8191) rfl ?_
   refine l_rowCells (u := v13) (by repeat constructor) (fun hcv => ?_)
   refine o_storeBox1 trivial rfl rfl (hcv).1 Tryz.sizeOf25 (hcv).2 (by repeat constructor) (by exact Nat.le_of_ble_eq_true rfl) ?_
   refine qM (Hp.Le.refl _) ?_
   refine h_end (by kernel_rfl) ?_
   refine tC (cS (cR ?_))
   iterate 2 refine oV ?_
   refine oF 2 Tryz.underlying73 Tryz.sizeOf27 ?_
   refine oF 3 Tryz.underlying27 Tryz.sizeOf25 ?_
   refine oL Tryz.isAgg25 ?_
   refine o_lenRow trivial rfl Tryz.underlying25 rfl (by repeat constructor) ?_
   first | (refine o_sub trivial rfl rfl rfl ?_ ?_; (omega)) | refine oV ?_
   refine oV ?_
   refine oN (tC (cT ?_))
   refine ret1 rfl rfl ?_
   exact fun w' hw' => ⟨I, [rrB b vall i vi vl vo v13 bad, ndR v13 (ns ++ [c])], (by unfold ndR; rw [hl, nds_more]; exact hw'.sort (by repeat constructor)), Ext.refl _ _, rfl, by rw [show (((ns.length + 1 : Nat) : Int) - 1) = (ns.length : Int) by omega], _, rfl⟩
  refine qP (qB 13 223) rfl ?_
  refine o_buildSl trivial rfl Tryz.underlying25 Tryz.sizeOf44 Tryz.zeroValue44 (by decide) (by decide) rfl (by repeat first | exact rfl | constructor) rfl (fun b12 => ?_)
  refine qM (Hp.Le.refl _) ?_
  refine qO (i := 5) (qB 13 255) rfl ?_
  refine oL Tryz.isAgg25 ?_
  refine qM (Hp.Le.refl _) ?_
  refine qO (i := 8) (qB 13 511) rfl ?_
  refine o_appendBox trivial rfl Tryz.underlying25 (elem44) (by decide) rfl rfl (fun v' => (by repeat constructor)) (by repeat constructor) rfl (by exact node_plain hc1.2 hc2.2) (by first | omega | (unfold maxLen; omega)) (by omega) (fun v13 => ?_)
  refine qM (Hp.Le.refl _) ?_
  refine qT (i := 9) (qB 13 1023) (Hp.Le.refl _) rfl rfl (oV qF) ?_
  refine qT (i := 10) (qB 13 2047) (Hp.Le.refl _) rfl rfl (oF 2 Tryz.underlying73 Tryz.sizeOf27 qF) ?_
  refine qT (i := 11) (qB 13 4095) (Hp.Le.refl _) rfl rfl (oF 3 Tryz.underlying27 Tryz.sizeOf25 qF) ?_
  refine qO (i := 12) (qB 13 8191) rfl ?_
  refine l_rowCells (u := v13) (by repeat constructor) (fun hcv => ?_)
  refine o_storeBox1 trivial rfl rfl (hcv).1 Tryz.sizeOf25 (hcv).2 (by repeat constructor) (by exact Nat.le_of_ble_eq_true rfl) ?_
  refine qM (Hp.Le.refl _) ?_
  refine h_end (by kernel_rfl) ?_
  refine tC (cS (cR ?_))
  iterate 2 refine oV ?_
  refine oF 2 Tryz.underlying73 Tryz.sizeOf27 ?_
  refine oF 3 Tryz.underlying27 Tryz.sizeOf25 ?_
  refine oL Tryz.isAgg25 ?_
  refine o_lenRow trivial rfl Tryz.underlying25 rfl (by repeat constructor) ?_
  first | (refine o_sub trivial rfl rfl rfl ?_ ?_; (omega)) | refine oV ?_
  refine oV ?_
  refine oN (tC (cT ?_))
  refine ret1 rfl rfl ?_
  exact fun w' hw' => ⟨I, [rrB b vall i vi vl vo v13 bad, ndR v13 (ns ++ [c])], (by unfold ndR; rw [hl, nds_more]; exact hw'.sort (by repeat constructor)), Ext.refl _ _, rfl, by rw [show (((ns.length + 1 : Nat) : Int) - 1) = (ns.length : Int) by omega], _, rfl⟩
def expoI : Option Nat → Int
  | some n => n
  | none => -1
theorem rrExpo_any (s : ByteArray) {I : Hp} (hz : numZ s = true) : Fun Tryz.prog 170 [.string s] I [] (fun v _ _ => v = .int .i64 (expoI (expoZ s))) := by
  have hsz : 1 ≤ s.size ∧ s.size ≤ 81 := by
    have hle := cutZ_le s
    have hz' := hz
    unfold numZ at hz'
    split at hz'
    · obtain ⟨_, k0, k, _⟩ := partZ_digit hz'; omega
    · simp only [Bool.and_eq_true] at hz'
      obtain ⟨_, k0, k, _⟩ := partZ_digit hz'.1.1
      obtain ⟨_, _, k2, _⟩ := partZ_digit hz'.1.2
      rw [ByteArray.size_extract] at k0 k k2
      omega
  have hd1 : s.size = 1 → 48 ≤ (s.get! 0).toNat ∧ (s.get! 0).toNat ≤ 57 ∧ decN s.toList = (s.get! 0).toNat - 48 := fun h => by
    have h0 := (atoi_num hz).2
    refine ⟨h0.2.1, h0.2.2, ?_⟩
    have := decN_drop (s := s) (k := 0) (by omega)
    rw [List.drop_zero, List.drop_eq_nil_of_le (by rw [toList_len]; omega), h] at this
    simpa [decN] using this
  have hd2 : s.size = 2 → (s.get! 1).toNat ≠ 124 → 48 ≤ (s.get! 0).toNat ∧ (s.get! 0).toNat ≤ 57 ∧ 48 ≤ (s.get! 1).toNat ∧ (s.get! 1).toNat ≤ 57 ∧ decN s.toList = 10 * ((s.get! 0).toNat - 48) + ((s.get! 1).toNat - 48) := fun h h1 => by
    have hz' := hz
    unfold numZ at hz'
    split at hz'
    · obtain ⟨k, _, _, _⟩ := partZ_digit hz'
      have e0 := decN_drop (s := s) (k := 0) (by omega)
      have e1 := decN_drop (s := s) (k := 1) (by omega)
      rw [List.drop_eq_nil_of_le (i := 1 + 1) (by rw [toList_len]; omega), h] at e1
      rw [List.drop_zero, e1, h] at e0
      refine ⟨(k 0 (by omega)).1, (k 0 (by omega)).2, (k 1 (by omega)).1, (k 1 (by omega)).2, ?_⟩
      rw [e0]
      show _ * 10 ^ 1 + (_ * 10 ^ 0 + 0) = _
      omega
    · rename_i hc
      simp only [Bool.and_eq_true] at hz'
      obtain ⟨_, k0, k, _⟩ := partZ_digit hz'.1.1
      obtain ⟨_, k1, k2, _⟩ := partZ_digit hz'.1.2
      have := cutZ_le s
      rw [ByteArray.size_extract] at k0 k k1 k2
      omega
  have e0 : (s.get! (Int.toNat 0)).toNat = (s.get! 0).toNat := rfl
  have e1 : (s.get! (Int.toNat 1)).toNat = (s.get! 1).toNat := rfl
  intro w hw
  refine enter1 _ Tryz.func170 rfl Tryz.ntmps170 rfl ?_ hw
  refine cS (cR ?_)
  refine oV ?_
  refine oN (tC (cS (cS (cR ?_))))
  refine oV ?_
  refine o_lenS trivial rfl Tryz.underlying9 rfl ?_
  refine oV ?_
  refine oN (tC ?_)
  refine cC rfl (fun h1 => ?_) (fun h1 => ?_)
  ·
   have f1 := h1
   try simp only [bl] at f1
   have hs1 : s.size = 1 := by omega
   obtain ⟨k1, k2, k3⟩ := hd1 hs1
   refine cS (cR ?_)
   refine oV ?_
   refine o_idxS trivial rfl Tryz.underlying9 rfl rfl (by omega) ?_
   first | refine o_convIn trivial rfl Tryz.underlying5 Tryz.underlying3 rfl (by rw [IntWalk.i64_in _ (by omega)]) ?_ | refine o_conv trivial rfl Tryz.underlying5 Tryz.underlying3 rfl ?_
   first | (refine o_sub trivial rfl rfl rfl ?_ ?_; (omega)) | refine oV ?_
   refine oV ?_
   refine oN (tC (cT (tR ?_)))
   refine ret1 rfl rfl ?_
   first
   | (refine leaf0 (congrArg (Value.int .i64) ?_); unfold expoZ; rw [if_pos hs1]; dsimp only [expoI]; rw [k3]; omega)
   | (refine leaf0 (congrArg (Value.int .i64) ?_); unfold expoZ; rw [if_neg hs1, if_pos ⟨hs2.1, hs2.2, h20⟩]; dsimp only [expoI]; rw [k5]; omega)
   | (refine leaf0 (congrArg (Value.int .i64) ?_); unfold expoZ; rw [if_neg hs1, if_neg (fun hh => h20 hh.2.2)]; try rfl)
   | (refine leaf0 (congrArg (Value.int .i64) ?_); unfold expoZ; rw [if_neg hs1, if_neg (fun hh => hs2 ⟨hh.1, hh.2.1⟩)]; try rfl)
  have f1 := h1
  try simp only [bl] at f1
  have hs1 : s.size ≠ 1 := by omega
  refine cK (tC (cS (cS (cR ?_))))
  refine oV ?_
  refine o_lenS trivial rfl Tryz.underlying9 rfl ?_
  refine oV ?_
  refine' o_and trivial trivial rfl rfl rfl rfl rfl rfl rfl rfl (fun hb14 => ?_) ?_
  rotate_left
  ·
   have fb14 := hb14
   try simp only [bl] at fb14
   refine o_pv (wS rfl rfl hb14) rfl rfl ?_
   refine o_idxS (wS rfl rfl hb14) rfl Tryz.underlying9 rfl rfl (by omega) ?_
   refine o_pv (wS rfl rfl hb14) rfl rfl ?_
   refine oN ?_
   exact joins rfl
  refine oN (tC ?_)
  refine cC rfl (fun h2 => ?_) (fun h2 => ?_)
  ·
   have f2 := h2
   try simp only [bl] at f2
   have hs2 : s.size = 2 ∧ (s.get! 1).toNat ≠ 124 := by
     simp at h2
     exact ⟨by omega, fun e => h2.2 (by omega)⟩
   obtain ⟨k1, k2, k3, k4, k5⟩ := hd2 hs2.1 hs2.2
   refine cS ?_
   refine c_quiet (by kernel_rfl) (by kernel_rfl) (fun _ h => h.drawn) ?_
   refine oV ?_
   refine o_idxS trivial rfl Tryz.underlying9 rfl rfl (by omega) ?_
   first | refine o_convIn trivial rfl Tryz.underlying5 Tryz.underlying3 rfl (by rw [IntWalk.i64_in _ (by omega)]) ?_ | refine o_conv trivial rfl Tryz.underlying5 Tryz.underlying3 rfl ?_
   first | (refine o_sub trivial rfl rfl rfl ?_ ?_; (omega)) | refine oV ?_
   first | (refine o_mul trivial rfl rfl rfl ?_ ?_; (omega)) | refine oV ?_
   refine oV ?_
   refine o_idxS trivial rfl Tryz.underlying9 rfl rfl (by omega) ?_
   first | refine o_convIn trivial rfl Tryz.underlying5 Tryz.underlying3 rfl (by rw [IntWalk.i64_in _ (by omega)]) ?_ | refine o_conv trivial rfl Tryz.underlying5 Tryz.underlying3 rfl ?_
   first | (refine o_add trivial rfl rfl rfl ?_ ?_; (omega)) | refine oV ?_
   first | (refine o_sub trivial rfl rfl rfl ?_ ?_; (omega)) | refine oV ?_
   refine oV ?_
   refine oN (tC (cS (cR ?_)))
   iterate 2 refine oV ?_
   refine oN (tC ?_)
   refine cC rfl (fun h3 => ?_) (fun h3 => ?_)
   ·
    have f3 := h3
    try simp only [bl] at f3
    have h20 : decN s.toList ≤ 20 := by
      omega
    refine cS (cR ?_)
    iterate 2 refine oV ?_
    refine oN (tC (cT (tR ?_)))
    refine ret1 rfl rfl ?_
    first
    | (refine leaf0 (congrArg (Value.int .i64) ?_); unfold expoZ; rw [if_pos hs1]; dsimp only [expoI]; rw [k3]; omega)
    | (refine leaf0 (congrArg (Value.int .i64) ?_); unfold expoZ; rw [if_neg hs1, if_pos ⟨hs2.1, hs2.2, h20⟩]; dsimp only [expoI]; rw [k5]; omega)
    | (refine leaf0 (congrArg (Value.int .i64) ?_); unfold expoZ; rw [if_neg hs1, if_neg (fun hh => h20 hh.2.2)]; try rfl)
    | (refine leaf0 (congrArg (Value.int .i64) ?_); unfold expoZ; rw [if_neg hs1, if_neg (fun hh => hs2 ⟨hh.1, hh.2.1⟩)]; try rfl)
   have f3 := h3
   try simp only [bl] at f3
   have h20 : ¬ decN s.toList ≤ 20 := by
     omega
   refine cK (tC (cS (cR ?_)))
   refine oV ?_
   refine oN (tC (cT ?_))
   refine ret1 rfl rfl ?_
   first
   | (refine leaf0 (congrArg (Value.int .i64) ?_); unfold expoZ; rw [if_pos hs1]; dsimp only [expoI]; rw [k3]; omega)
   | (refine leaf0 (congrArg (Value.int .i64) ?_); unfold expoZ; rw [if_neg hs1, if_pos ⟨hs2.1, hs2.2, h20⟩]; dsimp only [expoI]; rw [k5]; omega)
   | (refine leaf0 (congrArg (Value.int .i64) ?_); unfold expoZ; rw [if_neg hs1, if_neg (fun hh => h20 hh.2.2)]; try rfl)
   | (refine leaf0 (congrArg (Value.int .i64) ?_); unfold expoZ; rw [if_neg hs1, if_neg (fun hh => hs2 ⟨hh.1, hh.2.1⟩)]; try rfl)
  have f2 := h2
  try simp only [bl] at f2
  have hs2 : ¬ (s.size = 2 ∧ (s.get! 1).toNat ≠ 124) := by
    simp at h2
    rintro ⟨e1, e2⟩
    have := h2 (by omega)
    exact e2 (by have h3 : ((s.get! (1 : Int).toNat).toNat : Int) = 124 := this; omega)
  refine cK (tC (cS (cR ?_)))
  refine oV ?_
  refine oN (tC (cT ?_))
  refine ret1 rfl rfl ?_
  first
  | (refine leaf0 (congrArg (Value.int .i64) ?_); unfold expoZ; rw [if_pos hs1]; dsimp only [expoI]; rw [k3]; omega)
  | (refine leaf0 (congrArg (Value.int .i64) ?_); unfold expoZ; rw [if_neg hs1, if_pos ⟨hs2.1, hs2.2, h20⟩]; dsimp only [expoI]; rw [k5]; omega)
  | (refine leaf0 (congrArg (Value.int .i64) ?_); unfold expoZ; rw [if_neg hs1, if_neg (fun hh => h20 hh.2.2)]; try rfl)
  | (refine leaf0 (congrArg (Value.int .i64) ?_); unfold expoZ; rw [if_neg hs1, if_neg (fun hh => hs2 ⟨hh.1, hh.2.1⟩)]; try rfl)
theorem atom_leaf {all : List NodeC} {x : Tok} {r : List Tok} {q : POut} (h : Ps .atom all (x :: r) q) (h1 : isT x 2 lpar = false) (h2 : leafT x = true) : q = .ok (all ++ [leafN x]) r := by
  cases h with
  | par_bad h0 _ => rw [h1] at h0; cases h0
  | par_ok h0 _ _ => rw [h1] at h0; cases h0
  | par_no h0 _ _ => rw [h1] at h0; cases h0
  | leaf _ => rfl
  | no _ h0 => rw [h2] at h0; cases h0
theorem atom_no {all : List NodeC} {x : Tok} {r : List Tok} {q : POut} (h : Ps .atom all (x :: r) q) (h1 : isT x 2 lpar = false) (h2 : leafT x = false) : q = .bad (x :: r) := by
  cases h with
  | par_bad h0 _ => rw [h1] at h0; cases h0
  | par_ok h0 _ _ => rw [h1] at h0; cases h0
  | par_no h0 _ _ => rw [h1] at h0; cases h0
  | leaf h0 => rw [h2] at h0; cases h0
  | no _ _ => rfl
theorem atom_nil {all : List NodeC} {q : POut} (h : Ps .atom all [] q) : q = .bad [] := by cases h; rfl
theorem leaf_par {x : Tok} (h1 : isT x 2 lpar = true) : leafT x = false := by
  rw [leafT, (isT_iff.1 h1).1]; rfl
theorem atom_par {all : List NodeC} {x : Tok} {r : List Tok} {q : POut} (h : Ps .atom all (x :: r) q) (h1 : isT x 2 lpar = true) : ∃ q1, Ps .sum all r q1 ∧ (∀ r1, q1 = .bad r1 → q = .bad r1) ∧ ∀ a1 r1, q1 = .ok a1 r1 → q = if hdT r1 2 rpar = true then .ok a1 (r1.drop 1) else .bad r1 := by
  cases h with
  | par_bad _ h => exact ⟨_, h, fun r1 e => (by cases e; rfl), fun a1 r1 e => by cases e⟩
  | par_ok _ h h2 => exact ⟨_, h, fun r1 e => (by cases e), fun a1 r1 e => by cases e; rw [if_pos (by exact h2)]; rfl⟩
  | par_no _ h h2 => exact ⟨_, h, fun r1 e => (by cases e), fun a1 r1 e => by cases e; rw [if_neg (by rw [h2]; decide)]⟩
  | leaf h0 => rw [leaf_par h1] at h0; cases h0
  | no h0 _ => rw [h1] at h0; cases h0
theorem power_parts {all : List NodeC} {r : List Tok} {q : POut} (h : Ps .power all r q) : ∃ q1, Ps .atom all r q1 ∧ (∀ r1, q1 = .bad r1 → q = .bad r1) ∧ ∀ a1 r1, q1 = .ok a1 r1 → Ps .powL a1 r1 q := by
  cases h with
  | power_bad h => exact ⟨_, h, fun r1 e => (by cases e; rfl), fun a1 r1 e => by cases e⟩
  | power_ok h h2 => exact ⟨_, h, fun r1 e => (by cases e), fun a1 r1 e => by cases e; exact h2⟩
theorem powL_no {all : List NodeC} {r : List Tok} {q : POut} (h : Ps .powL all r q) (h1 : hdT r 2 caret = false) : q = .ok all r := by
  cases h with
  | pow_none _ => rfl
  | pow_ok h0 _ => simp only [hdT] at h1; rw [h1] at h0; cases h0
  | pow_bad h0 _ => simp only [hdT] at h1; rw [h1] at h0; cases h0
theorem powL_yes {all : List NodeC} {x : Tok} {r : List Tok} {q : POut} (h : Ps .powL all (x :: r) q) (h1 : isT x 2 Go.Tw.caret = true) : ∃ e r1, Expo r e r1 ∧ (e = none → q = .bad r1) ∧ ∀ z, e = some z → q = .ok (all ++ [powN (lastI all) z]) r1 := by
  cases h with
  | pow_none h0 => simp only [hdT] at h0; rw [h1] at h0; cases h0
  | pow_ok _ h => exact ⟨_, _, h, fun e => (by cases e), fun z e => by cases e; rfl⟩
  | pow_bad _ h => exact ⟨_, _, h, fun _ => rfl, fun z e => by cases e⟩
theorem factor_no {all : List NodeC} {r : List Tok} {q : POut} (h : Ps .factor all r q) (h1 : hdT r 2 minusS = false) : Ps .power all r q := by
  cases h with
  | neg_bad h0 _ => simp only [hdT] at h1; rw [h1] at h0; cases h0
  | neg_ok h0 _ => simp only [hdT] at h1; rw [h1] at h0; cases h0
  | fac _ h => exact h
theorem factor_yes {all : List NodeC} {x : Tok} {r : List Tok} {q : POut} (h : Ps .factor all (x :: r) q) (h1 : isT x 2 minusS = true) : ∃ q1, Ps .factor all r q1 ∧ (∀ r1, q1 = .bad r1 → q = .bad r1) ∧ ∀ a1 r1, q1 = .ok a1 r1 → q = .ok (a1 ++ [negN (lastI a1)]) r1 := by
  cases h with
  | neg_bad _ h => exact ⟨_, h, fun r1 e => (by cases e; rfl), fun a1 r1 e => by cases e⟩
  | neg_ok _ h => exact ⟨_, h, fun r1 e => (by cases e), fun a1 r1 e => by cases e; rfl⟩
  | fac h0 _ => simp only [hdT] at h0; rw [h1] at h0; cases h0
theorem product_parts {all : List NodeC} {r : List Tok} {q : POut} (h : Ps .product all r q) : ∃ q1, Ps .factor all r q1 ∧ (∀ r1, q1 = .bad r1 → q = .bad r1) ∧ ∀ a1 r1, q1 = .ok a1 r1 → Ps .prodL a1 r1 q := by
  cases h with
  | product_bad h => exact ⟨_, h, fun r1 e => (by cases e; rfl), fun a1 r1 e => by cases e⟩
  | product_ok h h2 => exact ⟨_, h, fun r1 e => (by cases e), fun a1 r1 e => by cases e; exact h2⟩
theorem sum_parts {all : List NodeC} {r : List Tok} {q : POut} (h : Ps .sum all r q) : ∃ q1, Ps .product all r q1 ∧ (∀ r1, q1 = .bad r1 → q = .bad r1) ∧ ∀ a1 r1, q1 = .ok a1 r1 → Ps .sumL a1 r1 q := by
  cases h with
  | sum_bad h => exact ⟨_, h, fun r1 e => (by cases e; rfl), fun a1 r1 e => by cases e⟩
  | sum_ok h h2 => exact ⟨_, h, fun r1 e => (by cases e), fun a1 r1 e => by cases e; exact h2⟩
theorem prodL_step {all : List NodeC} {x : Tok} {r : List Tok} {q : POut} {k : Int} (h : Ps .prodL all (x :: r) q) (hk : mulK x = some k) : ∃ q1, Ps .factor all r q1 ∧ (∀ r1, q1 = .bad r1 → q = .bad r1) ∧ ∀ a1 r1, q1 = .ok a1 r1 → Ps .prodL (a1 ++ [binN k (lastI all) (lastI a1)]) r1 q := by
  cases h with
  | prodL_end h0 => simp only [hdK] at h0; rw [hk] at h0; cases h0
  | prodL_bad h0 h => exact ⟨_, h, fun r1 e => (by cases e; rfl), fun a1 r1 e => by cases e⟩
  | prodL_ok h0 h h2 => rw [hk] at h0; cases h0; exact ⟨_, h, fun r1 e => (by cases e), fun a1 r1 e => by cases e; exact h2⟩
theorem sumL_step {all : List NodeC} {x : Tok} {r : List Tok} {q : POut} {k : Int} (h : Ps .sumL all (x :: r) q) (hk : addK x = some k) : ∃ q1, Ps .product all r q1 ∧ (∀ r1, q1 = .bad r1 → q = .bad r1) ∧ ∀ a1 r1, q1 = .ok a1 r1 → Ps .sumL (a1 ++ [binN k (lastI all) (lastI a1)]) r1 q := by
  cases h with
  | sumL_end h0 => simp only [hdK] at h0; rw [hk] at h0; cases h0
  | sumL_bad h0 h => exact ⟨_, h, fun r1 e => (by cases e; rfl), fun a1 r1 e => by cases e⟩
  | sumL_ok h0 h h2 => rw [hk] at h0; cases h0; exact ⟨_, h, fun r1 e => (by cases e), fun a1 r1 e => by cases e; exact h2⟩
structure RefOut (L : List Tok) (I' : Hp) (i i' : Nat) (ns ns' : List NodeV) (bad' : Bool) (m : Int) (q : POut) : Prop where
  ge : i ≤ i'
  le : i' ≤ L.length
  ok : ∀ o ∈ ns', o.ok I'
  few : ns'.length ≤ ns.length + (i' - i) + 1
  bad : bad' = true → q = .bad (L.drop i')
  good : bad' = false → q = .ok (ns'.map NodeV.c) (L.drop i') ∧ m = lastN ns' ∧ ns'.length ≤ ns.length + (i' - i)
def LvC (f : FuncId) (lv : Lv) (b : Nat) (vall : Value) (L : List Tok) (n : Nat) : Prop := ∀ {I : Hp} (i : Nat) (vi vl vo va : Value) (ns : List NodeV) (q : POut), Slc I 4 vall (L.map Tok.cells) → i ≤ L.length → L.length - i ≤ n → (∀ o ∈ ns, o.ok I) → ns.length + (L.length - i) ≤ 20000 → Ps lv (ns.map NodeV.c) (L.drop i) q →
  Fun Tryz.prog f [.pointer (some ⟨b, 0, none⟩)] I [rrB b vall i vi vl vo va false, ndR va ns]
    (fun v I' B' => ∃ i' va' bad' ns' m, v = .int .i64 m ∧ B' = [rrB b vall i' vi vl vo va' bad', ndR va' ns'] ∧ RefOut L I' i i' ns ns' bad' m q)
theorem ok_more {I : Hp} {ns : List NodeV} {c : NodeV} (h : ∀ o ∈ ns, o.ok I) (hc : c.ok I) : ∀ o ∈ ns ++ [c], o.ok I := fun o ho => by
  rcases List.mem_append.1 ho with ho | ho
  · exact h o ho
  · rw [List.mem_singleton.1 ho]; exact hc
theorem factor_of {b : Nat} {vall : Value} {L : List Tok} {n : Nat} (hn : L.length ≤ 10000) (hp : LvC 160 .power b vall L n) (hf : ∀ m, m < n → LvC 138 .factor b vall L m) : LvC 138 .factor b vall L n := by
  intro I i vi vl vo va ns q hL hi hin hok hb h
  intro w hw
  refine enter1 _ Tryz.func138 rfl Tryz.ntmps138 rfl ?_ hw
  refine cS (cR ?_)
  refine oV ?_
  refine oN (tC (cS (cS (cR ?_))))
  refine oV ?_
  refine oC trivial rfl Tryz.call76 rfl (rrIs_any b i vall vi vl vo va false 2 minusS L hL (by omega) hi) (by repeat constructor) ?_
  rintro _ _ _ hx ⟨rfl, rfl, rfl⟩
  refine oN (tC ?_)
  refine cC rfl (fun h1 => ?_) (fun h1 => ?_)
  ·
   have f1 := h1
   try simp only [bl] at f1
   have hm : hdT (L.drop i) 2 minusS = true := h1
   have hlt := hdT_lt hm
   rw [drop_cons hlt] at h hm
   obtain ⟨q1, hq1, hbad, hgood⟩ := factor_yes h hm
   refine cS (cR ?_)
   iterate 3 refine oV ?_
   refine oF 1 Tryz.underlying73 Tryz.sizeOf3 ?_
   refine oL Tryz.isAgg3 ?_
   first | (refine o_add trivial rfl rfl rfl ?_ ?_; (omega)) | refine oV ?_
   refine oV ?_
   refine oF 1 Tryz.underlying73 Tryz.sizeOf3 ?_
   refine oS Tryz.sizeOf3 ?_
   refine oN (tC (cS (cR ?_)))
   refine oV ?_
   refine oC trivial rfl Tryz.call138 rfl (hf (n - 1) (by omega) (i + 1) vi vl vo va ns q1 hL (by omega) (by omega) hok (by omega) hq1) (by repeat constructor) ?_
   rintro _ I2 _ hx2 ⟨i2, va2, bad2, ns2, m2, rfl, rfl, hro⟩
   refine oV ?_
   refine oN (tC (cS ?_))
   have hge := hro.ge
   have hle := hro.le
   have hfew := hro.few
   refine cR ?_
   iterate 2 refine oV ?_
   refine o_buildS trivial rfl (bld44) rfl (.cons rfl rfl rfl (by repeat constructor) (.cons rfl rfl rfl (by repeat constructor) .nil)) ?_
   refine oC trivial rfl Tryz.call109 rfl (rrNode_any b i2 vall vi vl vo va2 bad2 (negNV m2) ns2 (negNV_ok _) (by omega)) (by repeat constructor) ?_
   rintro _ _ _ hx3 ⟨rfl, rfl, va3, rfl⟩
   refine oV ?_
   refine oN (tC (cT (tR ?_)))
   refine ret1 rfl rfl ?_
   refine fun w' hw' => ⟨I2, [rrB b vall i2 vi vl vo va3 bad2, ndR va3 (ns2 ++ [negNV m2])], hw'.sort (by repeat constructor), hx2, i2, va3, bad2, _, _, rfl, rfl, by omega, hle, ok_more hro.ok (negNV_ok _), by rw [List.length_append]; show ns2.length + 1 ≤ _; omega, fun hb2 => hbad _ (hro.bad hb2), fun hb2 => ?_⟩
   obtain ⟨e1, e2, e3⟩ := hro.good hb2
   refine ⟨?_, (lastN_more ns2 _).symm, by rw [List.length_append]; show ns2.length + 1 ≤ _; omega⟩
   rw [hgood _ _ e1, List.map_append, e2, lastN_eq]; rfl
  have f1 := h1
  try simp only [bl] at f1
  have hm : hdT (L.drop i) 2 minusS = false := h1
  have hpw := factor_no h hm
  refine cK (tC (cS (cR ?_)))
  refine oV ?_
  refine oC trivial rfl Tryz.call160 rfl (hp i vi vl vo va ns q hL hi hin hok hb hpw) (by repeat constructor) ?_
  rintro _ I2 _ hx2 ⟨i2, va2, bad2, ns2, m2, rfl, rfl, hro⟩
  refine oV ?_
  refine oN (tC (cT ?_))
  refine ret1 rfl rfl ?_
  exact fun w' hw' => ⟨I2, _, hw'.sort (by repeat constructor), hx2, i2, va2, bad2, ns2, m2, rfl, rfl, hro⟩
theorem str_ne {x a b : ByteArray} (hab : a.toList ≠ b.toList) (h : (x.toList == a.toList) = true) : (x.toList == b.toList) = false := by
  rw [beq_iff_eq] at h
  rw [beq_eq_false_iff_ne, h]
  exact hab
theorem op_two {L : List Tok} {j : Nat} {a b : ByteArray} (hlt : j < L.length) (h : (isR false L j 2 a || isR false L j 2 b) = true) : (tkAt L j).kind = 2 ∧ ((tkAt L j).text.toList == a.toList || (tkAt L j).text.toList == b.toList) = true := by
  unfold isR at h
  rw [drop_cons hlt] at h
  simp only [hdT, isT, Bool.not_false, Bool.true_and, Bool.or_eq_true, Bool.and_eq_true, beq_iff_eq] at h ⊢
  rcases h with h | h
  · exact ⟨h.1, .inl h.2⟩
  · exact ⟨h.1, .inr h.2⟩
theorem mul_slash {x : Tok} (h2 : x.kind = 2) (h : (x.text.toList == slashS.toList) = true) : mulK x = some 5 := by
  have d : slashS.toList ≠ starS.toList := by rw [ByteArray.toList_eq, ByteArray.toList_eq]; decide
  unfold mulK isT
  rw [show (x.kind == 2) = true by simpa using h2, str_ne d h, h]
  rfl
theorem mul_star {x : Tok} (h2 : x.kind = 2) (h : (x.text.toList == slashS.toList) = false) (ho : (x.text.toList == starS.toList || x.text.toList == slashS.toList) = true) : mulK x = some 4 := by
  rw [h, Bool.or_false] at ho
  unfold mulK isT
  rw [show (x.kind == 2) = true by simpa using h2, ho]
  rfl
theorem add_minus {x : Tok} (h2 : x.kind = 2) (h : (x.text.toList == minusS.toList) = true) : addK x = some 3 := by
  have d : minusS.toList ≠ plusS.toList := by rw [ByteArray.toList_eq, ByteArray.toList_eq]; decide
  unfold addK isT
  rw [show (x.kind == 2) = true by simpa using h2, str_ne d h, h]
  rfl
theorem add_plus {x : Tok} (h2 : x.kind = 2) (h : (x.text.toList == minusS.toList) = false) (ho : (x.text.toList == plusS.toList || x.text.toList == minusS.toList) = true) : addK x = some 2 := by
  rw [h, Bool.or_false] at ho
  unfold addK isT
  rw [show (x.kind == 2) = true by simpa using h2, ho]
  rfl
theorem mul_none {L : List Tok} {j : Nat} (h : (isR false L j 2 starS || isR false L j 2 slashS) = false) : hdK mulK (L.drop j) = none := by
  unfold isR at h
  simp only [Bool.not_false, Bool.true_and, Bool.or_eq_false_iff] at h
  cases hr : L.drop j with
  | nil => rfl
  | cons x r =>
    rw [hr] at h
    simp only [hdT] at h
    show mulK x = none
    unfold mulK
    rw [h.1, h.2]; rfl
theorem add_none {L : List Tok} {j : Nat} (h : (isR false L j 2 plusS || isR false L j 2 minusS) = false) : hdK addK (L.drop j) = none := by
  unfold isR at h
  simp only [Bool.not_false, Bool.true_and, Bool.or_eq_false_iff] at h
  cases hr : L.drop j with
  | nil => rfl
  | cons x r =>
    rw [hr] at h
    simp only [hdT] at h
    show addK x = none
    unfold addK
    rw [h.1, h.2]; rfl
theorem or_good {bad : Bool} {L : List Tok} {j : Nat} {k : Int} {a b : ByteArray} (h : (isR bad L j k a || isR bad L j k b) = true) : bad = false ∧ j < L.length := by
  rw [Bool.or_eq_true] at h
  rcases h with h | h
  · exact ⟨(isR_lt h).1, (isR_lt h).2.2⟩
  · exact ⟨(isR_lt h).1, (isR_lt h).2.2⟩
theorem product_of {b : Nat} {vall : Value} {L : List Tok} {n : Nat} (hn : L.length ≤ 10000) (hf : LvC 138 .factor b vall L n) : LvC 108 .product b vall L n := by
  intro I i vi vl vo va ns q hL hi hin hok hb h
  obtain ⟨q1, hq1, hbad1, hgood1⟩ := product_parts h
  have hll : (L.map Tok.cells).length = L.length := List.length_map _
  intro w hw
  refine enter1 _ Tryz.func108 rfl Tryz.ntmps108 rfl ?_ hw
  refine cS (cR ?_)
  refine oV ?_
  refine oN (tC (cS (cR ?_)))
  refine oV ?_
  refine oC trivial rfl Tryz.call138 rfl (hf i vi vl vo va ns q1 hL hi hin hok hb hq1) (by repeat constructor) ?_
  rintro _ I2 _ hx2 ⟨i2, va2, bad2, ns2, m2, rfl, rfl, hro⟩
  refine oV ?_
  refine oN (tC (cS (cB ?_)))
  refine c_loop (ι := Nat × Value × Bool × List NodeV × Int × Hp) [0] (.cons rfl .nil) (fun x => L.length - x.1) (fun x E0 => (3, .int .i64 x.2.2.2.2.1) :: E0) (fun x => St w (keysOf [rrB b vall i vi vl vo va false, ndR va ns]) x.2.2.2.2.2 [rrB b vall x.1 vi vl vo x.2.1 x.2.2.1, ndR x.2.1 x.2.2.2.1]) (fun x => i ≤ x.1 ∧ x.1 ≤ L.length ∧ (∀ o ∈ x.2.2.2.1, o.ok x.2.2.2.2.2) ∧ x.2.2.2.1.length ≤ ns.length + (x.1 - i) + 1 ∧ (x.2.2.1 = true → q = .bad (L.drop x.1)) ∧ (x.2.2.1 = false → Ps .prodL (x.2.2.2.1.map NodeV.c) (L.drop x.1) q ∧ x.2.2.2.2.1 = lastN x.2.2.2.1 ∧ x.2.2.2.1.length ≤ ns.length + (x.1 - i)) ∧ Ext w.heap.size I x.2.2.2.2.2) ((i2, va2, bad2, ns2, m2, I2)) (sC rfl (sC rfl sN)) (fun _ h => h) (⟨hro.ge, hro.le, hro.ok, hro.few, fun e => hbad1 _ (hro.bad e), fun e => ⟨hgood1 _ _ (hro.good e).1, (hro.good e).2⟩, hx2⟩) ?_
  rintro ⟨j, ua, bad, n1, mm, I1⟩ ⟨hij, hj, hok1, hfew, hB, hG, hx1⟩
  try dsimp only
  simp only at hij hj hok1 hfew hB hG hx1
  refine cS (cS (cR ?_))
  refine oV ?_
  refine oC trivial rfl Tryz.call76 rfl (rrIs_any b j vall vi vl vo ua bad 2 starS L (hL.le hx1.le) (by omega) hj) (by repeat constructor) ?_
  rintro _ _ _ hx3 ⟨rfl, rfl, rfl⟩
  refine' o_or trivial trivial rfl rfl rfl rfl rfl rfl rfl rfl (fun hb10 => ?_) ?_
  rotate_left
  ·
   have fb10 := hb10
   try simp only [bl] at fb10
   refine o_pv (wS rfl rfl hb10) rfl rfl ?_
   refine oC (wS rfl rfl hb10) rfl Tryz.call76 rfl (rrIs_any b j vall vi vl vo ua bad 2 slashS L (hL.le hx1.le) (by omega) hj) (by repeat constructor) ?_
   rintro _ _ _ hx4 ⟨rfl, rfl, rfl⟩
   refine oN ?_
   exact joinsW rfl (fun _ h => (h.sort (by repeat constructor)).fewer (hx4.le))
  refine oN (tC ?_)
  refine cC rfl (fun h1 => ?_) (fun h1 => ?_)
  ·
   have f1 := h1
   try simp only [bl] at f1
   have h1' : (isR bad L j 2 starS || isR bad L j 2 slashS) = true := h1
   obtain ⟨rfl, hlt⟩ := or_good h1'
   obtain ⟨hk2, htx⟩ := op_two hlt h1'
   obtain ⟨hP, rfl, hfw⟩ := hG rfl
   rw [drop_cons hlt] at hP
   refine cK (tC (cB (cS (cR ?_))))
   refine oV ?_
   refine oN (tC (cS (cS ?_)))
   refine c_quiet (by kernel_rfl) (by kernel_rfl) (fun _ h => h.drawn) ?_
   iterate 2 refine oV ?_
   refine oF 0 Tryz.underlying73 Tryz.sizeOf60 ?_
   refine oL Tryz.isAgg60 ?_
   iterate 2 refine oV ?_
   refine oF 1 Tryz.underlying73 Tryz.sizeOf3 ?_
   refine oL Tryz.isAgg3 ?_
   refine o_elem trivial rfl Tryz.underlying60 Tryz.sizeOf68 rfl (hL.le hx1.le) rfl (by omega) ?_
   refine oF 1 Tryz.underlying68 Tryz.sizeOf9 ?_
   refine o_load1I trivial rfl Tryz.isAgg9 rfl (tk_cell (hL.le hx1.le) hlt 1 _ rfl) ?_
   refine oV ?_
   refine oN (tC ?_)
   refine cC rfl (fun h2 => ?_) (fun h2 => ?_)
   ·
    have f2 := h2
    try simp only [bl] at f2
    have hmk := mul_slash hk2 h2
    obtain ⟨q3, hq3, hbad3, hgood3⟩ := prodL_step hP hmk
    refine cR ?_
    refine oV ?_
    refine oN (tC (cS (cR ?_)))
    iterate 3 refine oV ?_
    refine oF 1 Tryz.underlying73 Tryz.sizeOf3 ?_
    refine oL Tryz.isAgg3 ?_
    first | (refine o_add trivial rfl rfl rfl ?_ ?_; (omega)) | refine oV ?_
    refine oV ?_
    refine oF 1 Tryz.underlying73 Tryz.sizeOf3 ?_
    refine oS Tryz.sizeOf3 ?_
    refine oN (tC (cS (cR ?_)))
    refine oV ?_
    refine oC trivial rfl Tryz.call138 rfl (hf (j + 1) vi vl vo ua n1 q3 (hL.le hx1.le) (by omega) (by omega) hok1 (by omega) hq3) (by repeat constructor) ?_
    rintro _ I3 _ hx5 ⟨i3, va3, bad3, ns3, m3, rfl, rfl, hr3⟩
    refine oV ?_
    refine oN (tC ?_)
    have hge := hr3.ge
    have hle := hr3.le
    have hfew3 := hr3.few
    refine cR ?_
    iterate 4 refine oV ?_
    refine o_buildS trivial rfl (bld44) rfl (.cons rfl rfl rfl (by repeat constructor) (.cons rfl rfl rfl (by repeat constructor) (.cons rfl rfl rfl (by repeat constructor) .nil))) ?_
    refine oC trivial rfl Tryz.call109 rfl (rrNode_any b i3 vall vi vl vo va3 bad3 (binNV _ (lastN n1) m3) ns3 (binNV_ok _ _ _) (by omega)) (by repeat constructor) ?_
    rintro _ _ _ hx6 ⟨rfl, rfl, va4, rfl⟩
    refine oV ?_
    refine oN (blk_n ?_)
    exact again (i3, va4, bad3, ns3 ++ [binNV _ (lastN n1) m3], _, I3) (sC rfl (sC rfl sN)) (fun _ h => h.sort (by repeat constructor)) (by show L.length - i3 < L.length - j; omega) ⟨by show i ≤ i3; omega, hle, ok_more hr3.ok (binNV_ok _ _ _), by rw [List.length_append]; show ns3.length + 1 ≤ ns.length + (i3 - i) + 1; omega, fun e => hbad3 _ (hr3.bad e), fun e => by
      obtain ⟨e1, e2, e3⟩ := hr3.good e
      refine ⟨?_, (lastN_more ns3 _).symm, by rw [List.length_append]; show ns3.length + 1 ≤ ns.length + (i3 - i); omega⟩
      have := hgood3 _ _ e1
      rw [List.map_append, lastN_eq, e2, lastN_eq]
      exact this, hx1.trans hx5 (Nat.le_refl _)⟩
   have f2 := h2
   try simp only [bl] at f2
   have hmk := mul_star hk2 h2 htx
   obtain ⟨q3, hq3, hbad3, hgood3⟩ := prodL_step hP hmk
   refine cK (tC (cS (cR ?_)))
   iterate 3 refine oV ?_
   refine oF 1 Tryz.underlying73 Tryz.sizeOf3 ?_
   refine oL Tryz.isAgg3 ?_
   first | (refine o_add trivial rfl rfl rfl ?_ ?_; (omega)) | refine oV ?_
   refine oV ?_
   refine oF 1 Tryz.underlying73 Tryz.sizeOf3 ?_
   refine oS Tryz.sizeOf3 ?_
   refine oN (tC (cS (cR ?_)))
   refine oV ?_
   refine oC trivial rfl Tryz.call138 rfl (hf (j + 1) vi vl vo ua n1 q3 (hL.le hx1.le) (by omega) (by omega) hok1 (by omega) hq3) (by repeat constructor) ?_
   rintro _ I3 _ hx5 ⟨i3, va3, bad3, ns3, m3, rfl, rfl, hr3⟩
   refine oV ?_
   refine oN (tC ?_)
   have hge := hr3.ge
   have hle := hr3.le
   have hfew3 := hr3.few
   refine cR ?_
   iterate 4 refine oV ?_
   refine o_buildS trivial rfl (bld44) rfl (.cons rfl rfl rfl (by repeat constructor) (.cons rfl rfl rfl (by repeat constructor) (.cons rfl rfl rfl (by repeat constructor) .nil))) ?_
   refine oC trivial rfl Tryz.call109 rfl (rrNode_any b i3 vall vi vl vo va3 bad3 (binNV _ (lastN n1) m3) ns3 (binNV_ok _ _ _) (by omega)) (by repeat constructor) ?_
   rintro _ _ _ hx6 ⟨rfl, rfl, va4, rfl⟩
   refine oV ?_
   refine oN (blk_n ?_)
   exact again (i3, va4, bad3, ns3 ++ [binNV _ (lastN n1) m3], _, I3) (sC rfl (sC rfl sN)) (fun _ h => h.sort (by repeat constructor)) (by show L.length - i3 < L.length - j; omega) ⟨by show i ≤ i3; omega, hle, ok_more hr3.ok (binNV_ok _ _ _), by rw [List.length_append]; show ns3.length + 1 ≤ ns.length + (i3 - i) + 1; omega, fun e => hbad3 _ (hr3.bad e), fun e => by
     obtain ⟨e1, e2, e3⟩ := hr3.good e
     refine ⟨?_, (lastN_more ns3 _).symm, by rw [List.length_append]; show ns3.length + 1 ≤ ns.length + (i3 - i); omega⟩
     have := hgood3 _ _ e1
     rw [List.map_append, lastN_eq, e2, lastN_eq]
     exact this, hx1.trans hx5 (Nat.le_refl _)⟩
  have f1 := h1
  try simp only [bl] at f1
  refine c_exit (then_x (then_x (blk_eq rfl (tC (cS (cR ?_))))))
  iterate 2 refine oV ?_
  refine oN (tC (cT ?_))
  refine ret1 rfl rfl ?_
  refine fun w' hw' => ⟨I1, _, hw'.sort (by repeat constructor), hx1, j, ua, bad, n1, mm, rfl, rfl, hij, hj, hok1, hfew, hB, fun e => ?_⟩
  subst e
  obtain ⟨e1, e2, e3⟩ := hG rfl
  exact ⟨e1.prodL_fin (mul_none h1), e2, e3⟩
theorem sum_of {b : Nat} {vall : Value} {L : List Tok} {n : Nat} (hn : L.length ≤ 10000) (hf : LvC 108 .product b vall L n) : LvC 78 .sum b vall L n := by
  intro I i vi vl vo va ns q hL hi hin hok hb h
  obtain ⟨q1, hq1, hbad1, hgood1⟩ := sum_parts h
  have hll : (L.map Tok.cells).length = L.length := List.length_map _
  intro w hw
  refine enter1 _ Tryz.func78 rfl Tryz.ntmps78 rfl ?_ hw
  refine cS (cR ?_)
  refine oV ?_
  refine oN (tC (cS (cR ?_)))
  refine oV ?_
  refine oC trivial rfl Tryz.call108 rfl (hf i vi vl vo va ns q1 hL hi hin hok hb hq1) (by repeat constructor) ?_
  rintro _ I2 _ hx2 ⟨i2, va2, bad2, ns2, m2, rfl, rfl, hro⟩
  refine oV ?_
  refine oN (tC (cS (cB ?_)))
  refine c_loop (ι := Nat × Value × Bool × List NodeV × Int × Hp) [0] (.cons rfl .nil) (fun x => L.length - x.1) (fun x E0 => (3, .int .i64 x.2.2.2.2.1) :: E0) (fun x => St w (keysOf [rrB b vall i vi vl vo va false, ndR va ns]) x.2.2.2.2.2 [rrB b vall x.1 vi vl vo x.2.1 x.2.2.1, ndR x.2.1 x.2.2.2.1]) (fun x => i ≤ x.1 ∧ x.1 ≤ L.length ∧ (∀ o ∈ x.2.2.2.1, o.ok x.2.2.2.2.2) ∧ x.2.2.2.1.length ≤ ns.length + (x.1 - i) + 1 ∧ (x.2.2.1 = true → q = .bad (L.drop x.1)) ∧ (x.2.2.1 = false → Ps .sumL (x.2.2.2.1.map NodeV.c) (L.drop x.1) q ∧ x.2.2.2.2.1 = lastN x.2.2.2.1 ∧ x.2.2.2.1.length ≤ ns.length + (x.1 - i)) ∧ Ext w.heap.size I x.2.2.2.2.2) ((i2, va2, bad2, ns2, m2, I2)) (sC rfl (sC rfl sN)) (fun _ h => h) (⟨hro.ge, hro.le, hro.ok, hro.few, fun e => hbad1 _ (hro.bad e), fun e => ⟨hgood1 _ _ (hro.good e).1, (hro.good e).2⟩, hx2⟩) ?_
  rintro ⟨j, ua, bad, n1, mm, I1⟩ ⟨hij, hj, hok1, hfew, hB, hG, hx1⟩
  try dsimp only
  simp only at hij hj hok1 hfew hB hG hx1
  refine cS (cS (cR ?_))
  refine oV ?_
  refine oC trivial rfl Tryz.call76 rfl (rrIs_any b j vall vi vl vo ua bad 2 plusS L (hL.le hx1.le) (by omega) hj) (by repeat constructor) ?_
  rintro _ _ _ hx3 ⟨rfl, rfl, rfl⟩
  refine' o_or trivial trivial rfl rfl rfl rfl rfl rfl rfl rfl (fun hb10 => ?_) ?_
  rotate_left
  ·
   have fb10 := hb10
   try simp only [bl] at fb10
   refine o_pv (wS rfl rfl hb10) rfl rfl ?_
   refine oC (wS rfl rfl hb10) rfl Tryz.call76 rfl (rrIs_any b j vall vi vl vo ua bad 2 minusS L (hL.le hx1.le) (by omega) hj) (by repeat constructor) ?_
   rintro _ _ _ hx4 ⟨rfl, rfl, rfl⟩
   refine oN ?_
   exact joinsW rfl (fun _ h => (h.sort (by repeat constructor)).fewer (hx4.le))
  refine oN (tC ?_)
  refine cC rfl (fun h1 => ?_) (fun h1 => ?_)
  ·
   have f1 := h1
   try simp only [bl] at f1
   have h1' : (isR bad L j 2 plusS || isR bad L j 2 minusS) = true := h1
   obtain ⟨rfl, hlt⟩ := or_good h1'
   obtain ⟨hk2, htx⟩ := op_two hlt h1'
   obtain ⟨hP, rfl, hfw⟩ := hG rfl
   rw [drop_cons hlt] at hP
   refine cK (tC (cB (cS (cR ?_))))
   refine oV ?_
   refine oN (tC (cS (cS ?_)))
   refine c_quiet (by kernel_rfl) (by kernel_rfl) (fun _ h => h.drawn) ?_
   iterate 2 refine oV ?_
   refine oF 0 Tryz.underlying73 Tryz.sizeOf60 ?_
   refine oL Tryz.isAgg60 ?_
   iterate 2 refine oV ?_
   refine oF 1 Tryz.underlying73 Tryz.sizeOf3 ?_
   refine oL Tryz.isAgg3 ?_
   refine o_elem trivial rfl Tryz.underlying60 Tryz.sizeOf68 rfl (hL.le hx1.le) rfl (by omega) ?_
   refine oF 1 Tryz.underlying68 Tryz.sizeOf9 ?_
   refine o_load1I trivial rfl Tryz.isAgg9 rfl (tk_cell (hL.le hx1.le) hlt 1 _ rfl) ?_
   refine oV ?_
   refine oN (tC ?_)
   refine cC rfl (fun h2 => ?_) (fun h2 => ?_)
   ·
    have f2 := h2
    try simp only [bl] at f2
    have hmk := add_minus hk2 h2
    obtain ⟨q3, hq3, hbad3, hgood3⟩ := sumL_step hP hmk
    refine cR ?_
    refine oV ?_
    refine oN (tC (cS (cR ?_)))
    iterate 3 refine oV ?_
    refine oF 1 Tryz.underlying73 Tryz.sizeOf3 ?_
    refine oL Tryz.isAgg3 ?_
    first | (refine o_add trivial rfl rfl rfl ?_ ?_; (omega)) | refine oV ?_
    refine oV ?_
    refine oF 1 Tryz.underlying73 Tryz.sizeOf3 ?_
    refine oS Tryz.sizeOf3 ?_
    refine oN (tC (cS (cR ?_)))
    refine oV ?_
    refine oC trivial rfl Tryz.call108 rfl (hf (j + 1) vi vl vo ua n1 q3 (hL.le hx1.le) (by omega) (by omega) hok1 (by omega) hq3) (by repeat constructor) ?_
    rintro _ I3 _ hx5 ⟨i3, va3, bad3, ns3, m3, rfl, rfl, hr3⟩
    refine oV ?_
    refine oN (tC ?_)
    have hge := hr3.ge
    have hle := hr3.le
    have hfew3 := hr3.few
    refine cR ?_
    iterate 4 refine oV ?_
    refine o_buildS trivial rfl (bld44) rfl (.cons rfl rfl rfl (by repeat constructor) (.cons rfl rfl rfl (by repeat constructor) (.cons rfl rfl rfl (by repeat constructor) .nil))) ?_
    refine oC trivial rfl Tryz.call109 rfl (rrNode_any b i3 vall vi vl vo va3 bad3 (binNV _ (lastN n1) m3) ns3 (binNV_ok _ _ _) (by omega)) (by repeat constructor) ?_
    rintro _ _ _ hx6 ⟨rfl, rfl, va4, rfl⟩
    refine oV ?_
    refine oN (blk_n ?_)
    exact again (i3, va4, bad3, ns3 ++ [binNV _ (lastN n1) m3], _, I3) (sC rfl (sC rfl sN)) (fun _ h => h.sort (by repeat constructor)) (by show L.length - i3 < L.length - j; omega) ⟨by show i ≤ i3; omega, hle, ok_more hr3.ok (binNV_ok _ _ _), by rw [List.length_append]; show ns3.length + 1 ≤ ns.length + (i3 - i) + 1; omega, fun e => hbad3 _ (hr3.bad e), fun e => by
      obtain ⟨e1, e2, e3⟩ := hr3.good e
      refine ⟨?_, (lastN_more ns3 _).symm, by rw [List.length_append]; show ns3.length + 1 ≤ ns.length + (i3 - i); omega⟩
      have := hgood3 _ _ e1
      rw [List.map_append, lastN_eq, e2, lastN_eq]
      exact this, hx1.trans hx5 (Nat.le_refl _)⟩
   have f2 := h2
   try simp only [bl] at f2
   have hmk := add_plus hk2 h2 htx
   obtain ⟨q3, hq3, hbad3, hgood3⟩ := sumL_step hP hmk
   refine cK (tC (cS (cR ?_)))
   iterate 3 refine oV ?_
   refine oF 1 Tryz.underlying73 Tryz.sizeOf3 ?_
   refine oL Tryz.isAgg3 ?_
   first | (refine o_add trivial rfl rfl rfl ?_ ?_; (omega)) | refine oV ?_
   refine oV ?_
   refine oF 1 Tryz.underlying73 Tryz.sizeOf3 ?_
   refine oS Tryz.sizeOf3 ?_
   refine oN (tC (cS (cR ?_)))
   refine oV ?_
   refine oC trivial rfl Tryz.call108 rfl (hf (j + 1) vi vl vo ua n1 q3 (hL.le hx1.le) (by omega) (by omega) hok1 (by omega) hq3) (by repeat constructor) ?_
   rintro _ I3 _ hx5 ⟨i3, va3, bad3, ns3, m3, rfl, rfl, hr3⟩
   refine oV ?_
   refine oN (tC ?_)
   have hge := hr3.ge
   have hle := hr3.le
   have hfew3 := hr3.few
   refine cR ?_
   iterate 4 refine oV ?_
   refine o_buildS trivial rfl (bld44) rfl (.cons rfl rfl rfl (by repeat constructor) (.cons rfl rfl rfl (by repeat constructor) (.cons rfl rfl rfl (by repeat constructor) .nil))) ?_
   refine oC trivial rfl Tryz.call109 rfl (rrNode_any b i3 vall vi vl vo va3 bad3 (binNV _ (lastN n1) m3) ns3 (binNV_ok _ _ _) (by omega)) (by repeat constructor) ?_
   rintro _ _ _ hx6 ⟨rfl, rfl, va4, rfl⟩
   refine oV ?_
   refine oN (blk_n ?_)
   exact again (i3, va4, bad3, ns3 ++ [binNV _ (lastN n1) m3], _, I3) (sC rfl (sC rfl sN)) (fun _ h => h.sort (by repeat constructor)) (by show L.length - i3 < L.length - j; omega) ⟨by show i ≤ i3; omega, hle, ok_more hr3.ok (binNV_ok _ _ _), by rw [List.length_append]; show ns3.length + 1 ≤ ns.length + (i3 - i) + 1; omega, fun e => hbad3 _ (hr3.bad e), fun e => by
     obtain ⟨e1, e2, e3⟩ := hr3.good e
     refine ⟨?_, (lastN_more ns3 _).symm, by rw [List.length_append]; show ns3.length + 1 ≤ ns.length + (i3 - i); omega⟩
     have := hgood3 _ _ e1
     rw [List.map_append, lastN_eq, e2, lastN_eq]
     exact this, hx1.trans hx5 (Nat.le_refl _)⟩
  have f1 := h1
  try simp only [bl] at f1
  refine c_exit (then_x (then_x (blk_eq rfl (tC (cS (cR ?_))))))
  iterate 2 refine oV ?_
  refine oN (tC (cT ?_))
  refine ret1 rfl rfl ?_
  refine fun w' hw' => ⟨I1, _, hw'.sort (by repeat constructor), hx1, j, ua, bad, n1, mm, rfl, rfl, hij, hj, hok1, hfew, hB, fun e => ?_⟩
  subst e
  obtain ⟨e1, e2, e3⟩ := hG rfl
  exact ⟨e1.sumL_fin (add_none h1), e2, e3⟩
theorem tk_num {L : List Tok} (hto : ToksOk L) {j : Nat} (hlt : j < L.length) (hk : (tkAt L j).kind = 1) : numZ (tkAt L j).text = true :=
  hto (tkAt L j) (by rw [tkAt_in (List.getElem?_eq_getElem hlt)]; exact List.getElem_mem hlt) hk
theorem power_of {b : Nat} {vall : Value} {L : List Tok} {n : Nat} (hn : L.length ≤ 10000) (hto : ToksOk L) (ha : LvC 169 .atom b vall L n) : LvC 160 .power b vall L n := by
  intro I i vi vl vo va ns q hL hi hin hok hb h
  obtain ⟨q1, hq1, hbad1, hgood1⟩ := power_parts h
  have hll : (L.map Tok.cells).length = L.length := List.length_map _
  intro w hw
  refine enter1 _ Tryz.func160 rfl Tryz.ntmps160 rfl ?_ hw
  refine cS (cR ?_)
  refine oV ?_
  refine oN (tC (cS (cR ?_)))
  refine oV ?_
  refine oC trivial rfl Tryz.call169 rfl (ha i vi vl vo va ns q1 hL hi hin hok hb hq1) (by repeat constructor) ?_
  rintro _ I2 _ hx2 ⟨i2, va2, bad2, ns2, m2, rfl, rfl, hro⟩
  refine oV ?_
  refine oN (tC (cS (cS ?_)))
  have hge := hro.ge
  have hle := hro.le
  have hfew := hro.few
  refine cR ?_
  refine oV ?_
  refine oC trivial rfl Tryz.call76 rfl (rrIs_any b i2 vall vi vl vo va2 bad2 2 Go.Tw.caret L (hL.le hx2.le) (by omega) hle) (by repeat constructor) ?_
  rintro _ _ _ hx3 ⟨rfl, rfl, rfl⟩
  refine oV ?_
  refine oN (tC ?_)
  refine cC rfl (fun h1 => ?_) (fun h1 => ?_)
  ·
   have f1 := h1
   try simp only [bl] at f1
   have hf : isR bad2 L i2 2 Go.Tw.caret = false := by rw [Bool.not_eq_true'] at h1; exact h1
   refine cS (cR ?_)
   iterate 2 refine oV ?_
   refine oN (tC (cT (tR ?_)))
   refine ret1 rfl rfl ?_
   refine fun w' hw' => ⟨I2, _, hw'.sort (by repeat constructor), hx2, i2, va2, bad2, ns2, m2, rfl, rfl, hge, hle, hro.ok, hfew, fun e => hbad1 _ (hro.bad e), fun e => ?_⟩
   subst e
   obtain ⟨e1, e2, e3⟩ := hro.good rfl
   exact ⟨powL_no (hgood1 _ _ e1) hf, e2, e3⟩
  have f1 := h1
  try simp only [bl] at f1
  have hf : isR bad2 L i2 2 Go.Tw.caret = true := by rw [Bool.not_eq_false'] at h1; exact h1
  obtain ⟨rfl, hm, hlt⟩ := isR_lt hf
  obtain ⟨e1, e2, e3⟩ := hro.good rfl
  have hP := hgood1 _ _ e1
  rw [drop_cons hlt] at hP hm
  obtain ⟨e, r1, he, hbadE, hgoodE⟩ := powL_yes hP hm
  refine cK (tC (cS (cR ?_)))
  iterate 3 refine oV ?_
  refine oF 1 Tryz.underlying73 Tryz.sizeOf3 ?_
  refine oL Tryz.isAgg3 ?_
  first | (refine o_add trivial rfl rfl rfl ?_ ?_; (omega)) | refine oV ?_
  refine oV ?_
  refine oF 1 Tryz.underlying73 Tryz.sizeOf3 ?_
  refine oS Tryz.sizeOf3 ?_
  refine oN (tC (cS (cR ?_)))
  refine oV ?_
  refine oN (tC (cS (cS (cR ?_))))
  refine oV ?_
  refine oC trivial rfl Tryz.call76 rfl (rrIs_any b (i2 + 1) vall vi vl vo va2 false 2 minusS L (hL.le hx2.le) (by omega) (by omega)) (by repeat constructor) ?_
  rintro _ _ _ hx4 ⟨rfl, rfl, rfl⟩
  refine oN (tC ?_)
  refine cC rfl (fun h2 => ?_) (fun h2 => ?_)
  ·
   have f2 := h2
   try simp only [bl] at f2
   have hm2 : hdT (L.drop (i2 + 1)) 2 minusS = true := h2
   obtain ⟨j, hje⟩ : ∃ j, j = i2 + 1 + 1 := ⟨_, rfl⟩
   have hlt2 := hdT_lt hm2
   have hj : j = adv (hdT (L.drop (i2 + 1)) 2 minusS) (i2 + 1) := by rw [adv_true hm2, hje]
   refine cS (cR ?_)
   iterate 3 refine oV ?_
   refine oF 1 Tryz.underlying73 Tryz.sizeOf3 ?_
   refine oL Tryz.isAgg3 ?_
   first | (refine o_add trivial rfl rfl rfl ?_ ?_; (omega)) | refine oV ?_
   refine oV ?_
   refine oF 1 Tryz.underlying73 Tryz.sizeOf3 ?_
   refine oS Tryz.sizeOf3 ?_
   refine oN (tC (cR ?_))
   refine oV ?_
   refine oN (tC (cS (cS ?_)))
   have hjl : j ≤ L.length := by omega
   first
     | rw [show (((i2 + 1 : Nat) : Int) + 1) = ((j : Nat) : Int) by omega]
     | rw [← hje]
   refine c_quiet (by kernel_rfl) (by kernel_rfl) (fun _ h => h.drawn) ?_
   iterate 2 refine oV ?_
   refine oF 6 Tryz.underlying73 Tryz.sizeOf4 ?_
   refine oL Tryz.isAgg4 ?_
   refine' o_or trivial trivial rfl rfl rfl rfl rfl rfl rfl rfl (fun hb34 => ?_) ?_
   rotate_left
   ·
    have fb34 := hb34
    try simp only [bl] at fb34
    iterate 2 refine o_pv (wS rfl rfl hb34) rfl rfl ?_
    refine oX (T := 3) (off := 1) (wS rfl rfl hb34) rfl Tryz.underlying73 rfl rfl rfl Tryz.sizeOf3 rfl rfl ?_
    refine o_load1 (wS rfl rfl hb34) rfl Tryz.isAgg3 rfl (by repeat constructor) (by repeat constructor) ?_
    iterate 2 refine o_pv (wS rfl rfl hb34) rfl rfl ?_
    refine oX (T := 60) (off := 0) (wS rfl rfl hb34) rfl Tryz.underlying73 rfl rfl rfl Tryz.sizeOf60 rfl rfl ?_
    refine o_load1 (wS rfl rfl hb34) rfl Tryz.isAgg60 rfl (by repeat constructor) (by repeat constructor) ?_
    refine o_lenSlc (wS rfl rfl hb34) rfl Tryz.underlying60 rfl (hL.le hx2.le) ?_
    refine o_pv (wS rfl rfl hb34) rfl rfl ?_
    refine oN ?_
    exact joins rfl
   refine' o_or trivial trivial rfl rfl rfl rfl rfl rfl rfl rfl (fun hb46 => ?_) ?_
   rotate_left
   ·
    have fb46 := hb46
    try simp only [bl] at fb46
    have hlt3 : j < L.length := by simp at hb46; omega
    iterate 2 refine o_pv (wS rfl rfl hb46) rfl rfl ?_
    refine oX (T := 60) (off := 0) (wS rfl rfl hb46) rfl Tryz.underlying73 rfl rfl rfl Tryz.sizeOf60 rfl rfl ?_
    refine o_load1 (wS rfl rfl hb46) rfl Tryz.isAgg60 rfl (by repeat constructor) (by repeat constructor) ?_
    iterate 2 refine o_pv (wS rfl rfl hb46) rfl rfl ?_
    refine oX (T := 3) (off := 1) (wS rfl rfl hb46) rfl Tryz.underlying73 rfl rfl rfl Tryz.sizeOf3 rfl rfl ?_
    refine o_load1 (wS rfl rfl hb46) rfl Tryz.isAgg3 rfl (by repeat constructor) (by repeat constructor) ?_
    refine o_elem (wS rfl rfl hb46) rfl Tryz.underlying60 Tryz.sizeOf68 rfl (hL.le hx2.le) rfl (by omega) ?_
    refine oX (T := 3) (off := 0) (wS rfl rfl hb46) rfl Tryz.underlying68 rfl rfl rfl Tryz.sizeOf3 rfl rfl ?_
    refine o_load1I (wS rfl rfl hb46) rfl Tryz.isAgg3 rfl (tk_cell (hL.le hx2.le) hlt3 0 _ rfl) ?_
    refine o_pv (wS rfl rfl hb46) rfl rfl ?_
    refine oN ?_
    exact joins rfl
   refine oN (tC ?_)
   refine cC rfl (fun h3 => ?_) (fun h3 => ?_)
   ·
    have f3 := h3
    try simp only [bl] at f3
    have hno : e = none ∧ r1 = L.drop j := expo_none he hj (fun k1 k2 => by
      exfalso
      simp at h3
      rcases h3 with h3 | h3
      · omega
      · exact h3 k2)
    refine cS (cR ?_)
    iterate 2 refine oV ?_
    refine oF 6 Tryz.underlying73 Tryz.sizeOf4 ?_
    refine oS Tryz.sizeOf4 ?_
    refine oN (tC (cS (cR ?_)))
    iterate 2 refine oV ?_
    refine oN (tC (cT (tR ?_)))
    refine ret1 rfl rfl ?_
    first
    | exact fun w' hw' => ⟨I2, [rrB b vall j vi vl vo va2 true, ndR va2 ns2], hw'.sort (by repeat constructor), hx2, j, va2, true, ns2, m2, rfl, rfl, by omega, hjl, hro.ok, by omega, fun _ => by rw [hbadE hno.1, hno.2], fun h => by cases h⟩
    | (refine fun w' hw' => ⟨I2, [rrB b vall (j + 1) vi vl vo va5 false, ndR va5 (ns2 ++ [_])], hw'.sort (by repeat constructor), hx2, j + 1, va5, false, _, _, rfl, rfl, by omega, by omega, ok_more hro.ok ⟨Ws.nil _, Ws.nil _⟩, by rw [List.length_append]; show ns2.length + 1 ≤ _; omega, fun h => (by cases h), fun _ => ⟨?_, (lastN_more ns2 _).symm, by rw [List.length_append]; show ns2.length + 1 ≤ _; omega⟩⟩
       rw [hgoodE _ hyes.1, hyes.2, List.map_append, hm2, e2, lastN_eq]; rfl)
   have f3 := h3
   try simp only [bl] at f3
   have hk3 : j < L.length ∧ (tkAt L j).kind = 1 := by
     simp at h3
     exact ⟨by omega, h3.2⟩
   have hlt3 := hk3.1
   have hz3 := tk_num hto hk3.1 hk3.2
   refine cK (tC (cS ?_))
   refine c_quiet (by kernel_rfl) (by kernel_rfl) (fun _ h => h.drawn) ?_
   iterate 2 refine oV ?_
   refine oF 0 Tryz.underlying73 Tryz.sizeOf60 ?_
   refine oL Tryz.isAgg60 ?_
   iterate 2 refine oV ?_
   refine oF 1 Tryz.underlying73 Tryz.sizeOf3 ?_
   refine oL Tryz.isAgg3 ?_
   refine o_elem trivial rfl Tryz.underlying60 Tryz.sizeOf68 rfl (hL.le hx2.le) rfl (by omega) ?_
   refine oF 1 Tryz.underlying68 Tryz.sizeOf9 ?_
   refine o_load1I trivial rfl Tryz.isAgg9 rfl (tk_cell (hL.le hx2.le) hlt3 1 _ rfl) ?_
   refine o_callQ trivial rfl Tryz.call170 rfl (rrExpo_any _ hz3) ?_
   refine oV ?_
   refine oN (tC (cS (cS (cR ?_))))
   iterate 2 refine oV ?_
   refine oN (tC ?_)
   refine cC rfl (fun h4 => ?_) (fun h4 => ?_)
   ·
    have f4 := h4
    try simp only [bl] at f4
    have hno : e = none ∧ r1 = L.drop j := expo_none he hj (fun k1 k2 => by
      cases hx : expoZ (tkAt L j).text with
      | none => rfl
      | some n => rw [hx] at f4; exact absurd f4 (by simp [expoI]))
    refine cS (cR ?_)
    iterate 2 refine oV ?_
    refine oF 6 Tryz.underlying73 Tryz.sizeOf4 ?_
    refine oS Tryz.sizeOf4 ?_
    refine oN (tC (cS (cR ?_)))
    iterate 2 refine oV ?_
    refine oN (tC (cT (tR ?_)))
    refine ret1 rfl rfl ?_
    first
    | exact fun w' hw' => ⟨I2, [rrB b vall j vi vl vo va2 true, ndR va2 ns2], hw'.sort (by repeat constructor), hx2, j, va2, true, ns2, m2, rfl, rfl, by omega, hjl, hro.ok, by omega, fun _ => by rw [hbadE hno.1, hno.2], fun h => by cases h⟩
    | (refine fun w' hw' => ⟨I2, [rrB b vall (j + 1) vi vl vo va5 false, ndR va5 (ns2 ++ [_])], hw'.sort (by repeat constructor), hx2, j + 1, va5, false, _, _, rfl, rfl, by omega, by omega, ok_more hro.ok ⟨Ws.nil _, Ws.nil _⟩, by rw [List.length_append]; show ns2.length + 1 ≤ _; omega, fun h => (by cases h), fun _ => ⟨?_, (lastN_more ns2 _).symm, by rw [List.length_append]; show ns2.length + 1 ≤ _; omega⟩⟩
       rw [hgoodE _ hyes.1, hyes.2, List.map_append, hm2, e2, lastN_eq]; rfl)
   have f4 := h4
   try simp only [bl] at f4
   obtain ⟨n4, hn4⟩ : ∃ n, expoZ (tkAt L j).text = some n := by
     cases hx : expoZ (tkAt L j).text with
     | none => rw [hx] at h4; exact absurd h4 (by decide)
     | some n => exact ⟨n, rfl⟩
   have hyes := expo_some he hj hk3.1 hk3.2 hn4
   have hn20 := expoZ_le hz3 hn4
   rw [hn4, show expoI (some n4) = (n4 : Int) from rfl]
   refine cK (tC (cS (cR ?_)))
   iterate 3 refine oV ?_
   refine oF 1 Tryz.underlying73 Tryz.sizeOf3 ?_
   refine oL Tryz.isAgg3 ?_
   first | (refine o_add trivial rfl rfl rfl ?_ ?_; (omega)) | refine oV ?_
   refine oV ?_
   refine oF 1 Tryz.underlying73 Tryz.sizeOf3 ?_
   refine oS Tryz.sizeOf3 ?_
   refine oN (tC (cS (cR ?_)))
   iterate 4 refine oV ?_
   first | (refine o_mul trivial rfl rfl rfl ?_ ?_; (omega)) | refine oV ?_
   refine o_buildS trivial rfl (bld44) rfl (.cons rfl rfl rfl (by repeat constructor) (.cons rfl rfl rfl (by repeat constructor) (.cons rfl rfl rfl (by repeat constructor) .nil))) ?_
   refine oC trivial rfl Tryz.call109 rfl (rrNode_any b (j + 1) vall vi vl vo va2 false ⟨powN m2 (_ * (n4 : Int)), .slice none 0 0, .slice none 0 0⟩ ns2 ⟨Ws.nil _, Ws.nil _⟩ (by omega)) (by repeat constructor) ?_
   rintro _ _ _ hx5 ⟨rfl, rfl, va5, rfl⟩
   refine oV ?_
   refine oN (tC (cT ?_))
   refine ret1 rfl rfl ?_
   first
   | exact fun w' hw' => ⟨I2, [rrB b vall j vi vl vo va2 true, ndR va2 ns2], hw'.sort (by repeat constructor), hx2, j, va2, true, ns2, m2, rfl, rfl, by omega, hjl, hro.ok, by omega, fun _ => by rw [hbadE hno.1, hno.2], fun h => by cases h⟩
   | (refine fun w' hw' => ⟨I2, [rrB b vall (j + 1) vi vl vo va5 false, ndR va5 (ns2 ++ [_])], hw'.sort (by repeat constructor), hx2, j + 1, va5, false, _, _, rfl, rfl, by omega, by omega, ok_more hro.ok ⟨Ws.nil _, Ws.nil _⟩, by rw [List.length_append]; show ns2.length + 1 ≤ _; omega, fun h => (by cases h), fun _ => ⟨?_, (lastN_more ns2 _).symm, by rw [List.length_append]; show ns2.length + 1 ≤ _; omega⟩⟩
      rw [hgoodE _ hyes.1, hyes.2, List.map_append, hm2, e2, lastN_eq]; rfl)
  have f2 := h2
  try simp only [bl] at f2
  have hm2 : hdT (L.drop (i2 + 1)) 2 minusS = false := h2
  obtain ⟨j, hje⟩ : ∃ j, j = i2 + 1 := ⟨_, rfl⟩
  have hj : j = adv (hdT (L.drop (i2 + 1)) 2 minusS) (i2 + 1) := by rw [adv_false hm2, hje]
  refine cK (tC (cS (cS ?_)))
  have hjl : j ≤ L.length := by omega
  first
    | rw [show (((i2 + 1 : Nat) : Int) + 1) = ((j : Nat) : Int) by omega]
    | rw [← hje]
  refine c_quiet (by kernel_rfl) (by kernel_rfl) (fun _ h => h.drawn) ?_
  iterate 2 refine oV ?_
  refine oF 6 Tryz.underlying73 Tryz.sizeOf4 ?_
  refine oL Tryz.isAgg4 ?_
  refine' o_or trivial trivial rfl rfl rfl rfl rfl rfl rfl rfl (fun hb34 => ?_) ?_
  rotate_left
  ·
   have fb34 := hb34
   try simp only [bl] at fb34
   iterate 2 refine o_pv (wS rfl rfl hb34) rfl rfl ?_
   refine oX (T := 3) (off := 1) (wS rfl rfl hb34) rfl Tryz.underlying73 rfl rfl rfl Tryz.sizeOf3 rfl rfl ?_
   refine o_load1 (wS rfl rfl hb34) rfl Tryz.isAgg3 rfl (by repeat constructor) (by repeat constructor) ?_
   iterate 2 refine o_pv (wS rfl rfl hb34) rfl rfl ?_
   refine oX (T := 60) (off := 0) (wS rfl rfl hb34) rfl Tryz.underlying73 rfl rfl rfl Tryz.sizeOf60 rfl rfl ?_
   refine o_load1 (wS rfl rfl hb34) rfl Tryz.isAgg60 rfl (by repeat constructor) (by repeat constructor) ?_
   refine o_lenSlc (wS rfl rfl hb34) rfl Tryz.underlying60 rfl (hL.le hx2.le) ?_
   refine o_pv (wS rfl rfl hb34) rfl rfl ?_
   refine oN ?_
   exact joins rfl
  refine' o_or trivial trivial rfl rfl rfl rfl rfl rfl rfl rfl (fun hb46 => ?_) ?_
  rotate_left
  ·
   have fb46 := hb46
   try simp only [bl] at fb46
   have hlt3 : j < L.length := by simp at hb46; omega
   iterate 2 refine o_pv (wS rfl rfl hb46) rfl rfl ?_
   refine oX (T := 60) (off := 0) (wS rfl rfl hb46) rfl Tryz.underlying73 rfl rfl rfl Tryz.sizeOf60 rfl rfl ?_
   refine o_load1 (wS rfl rfl hb46) rfl Tryz.isAgg60 rfl (by repeat constructor) (by repeat constructor) ?_
   iterate 2 refine o_pv (wS rfl rfl hb46) rfl rfl ?_
   refine oX (T := 3) (off := 1) (wS rfl rfl hb46) rfl Tryz.underlying73 rfl rfl rfl Tryz.sizeOf3 rfl rfl ?_
   refine o_load1 (wS rfl rfl hb46) rfl Tryz.isAgg3 rfl (by repeat constructor) (by repeat constructor) ?_
   refine o_elem (wS rfl rfl hb46) rfl Tryz.underlying60 Tryz.sizeOf68 rfl (hL.le hx2.le) rfl (by omega) ?_
   refine oX (T := 3) (off := 0) (wS rfl rfl hb46) rfl Tryz.underlying68 rfl rfl rfl Tryz.sizeOf3 rfl rfl ?_
   refine o_load1I (wS rfl rfl hb46) rfl Tryz.isAgg3 rfl (tk_cell (hL.le hx2.le) hlt3 0 _ rfl) ?_
   refine o_pv (wS rfl rfl hb46) rfl rfl ?_
   refine oN ?_
   exact joins rfl
  refine oN (tC ?_)
  refine cC rfl (fun h3 => ?_) (fun h3 => ?_)
  ·
   have f3 := h3
   try simp only [bl] at f3
   have hno : e = none ∧ r1 = L.drop j := expo_none he hj (fun k1 k2 => by
     exfalso
     simp at h3
     rcases h3 with h3 | h3
     · omega
     · exact h3 k2)
   refine cS (cR ?_)
   iterate 2 refine oV ?_
   refine oF 6 Tryz.underlying73 Tryz.sizeOf4 ?_
   refine oS Tryz.sizeOf4 ?_
   refine oN (tC (cS (cR ?_)))
   iterate 2 refine oV ?_
   refine oN (tC (cT (tR ?_)))
   refine ret1 rfl rfl ?_
   first
   | exact fun w' hw' => ⟨I2, [rrB b vall j vi vl vo va2 true, ndR va2 ns2], hw'.sort (by repeat constructor), hx2, j, va2, true, ns2, m2, rfl, rfl, by omega, hjl, hro.ok, by omega, fun _ => by rw [hbadE hno.1, hno.2], fun h => by cases h⟩
   | (refine fun w' hw' => ⟨I2, [rrB b vall (j + 1) vi vl vo va5 false, ndR va5 (ns2 ++ [_])], hw'.sort (by repeat constructor), hx2, j + 1, va5, false, _, _, rfl, rfl, by omega, by omega, ok_more hro.ok ⟨Ws.nil _, Ws.nil _⟩, by rw [List.length_append]; show ns2.length + 1 ≤ _; omega, fun h => (by cases h), fun _ => ⟨?_, (lastN_more ns2 _).symm, by rw [List.length_append]; show ns2.length + 1 ≤ _; omega⟩⟩
      rw [hgoodE _ hyes.1, hyes.2, List.map_append, hm2, e2, lastN_eq]; rfl)
  have f3 := h3
  try simp only [bl] at f3
  have hk3 : j < L.length ∧ (tkAt L j).kind = 1 := by
    simp at h3
    exact ⟨by omega, h3.2⟩
  have hlt3 := hk3.1
  have hz3 := tk_num hto hk3.1 hk3.2
  refine cK (tC (cS ?_))
  refine c_quiet (by kernel_rfl) (by kernel_rfl) (fun _ h => h.drawn) ?_
  iterate 2 refine oV ?_
  refine oF 0 Tryz.underlying73 Tryz.sizeOf60 ?_
  refine oL Tryz.isAgg60 ?_
  iterate 2 refine oV ?_
  refine oF 1 Tryz.underlying73 Tryz.sizeOf3 ?_
  refine oL Tryz.isAgg3 ?_
  refine o_elem trivial rfl Tryz.underlying60 Tryz.sizeOf68 rfl (hL.le hx2.le) rfl (by omega) ?_
  refine oF 1 Tryz.underlying68 Tryz.sizeOf9 ?_
  refine o_load1I trivial rfl Tryz.isAgg9 rfl (tk_cell (hL.le hx2.le) hlt3 1 _ rfl) ?_
  refine o_callQ trivial rfl Tryz.call170 rfl (rrExpo_any _ hz3) ?_
  refine oV ?_
  refine oN (tC (cS (cS (cR ?_))))
  iterate 2 refine oV ?_
  refine oN (tC ?_)
  refine cC rfl (fun h4 => ?_) (fun h4 => ?_)
  ·
   have f4 := h4
   try simp only [bl] at f4
   have hno : e = none ∧ r1 = L.drop j := expo_none he hj (fun k1 k2 => by
     cases hx : expoZ (tkAt L j).text with
     | none => rfl
     | some n => rw [hx] at f4; exact absurd f4 (by simp [expoI]))
   refine cS (cR ?_)
   iterate 2 refine oV ?_
   refine oF 6 Tryz.underlying73 Tryz.sizeOf4 ?_
   refine oS Tryz.sizeOf4 ?_
   refine oN (tC (cS (cR ?_)))
   iterate 2 refine oV ?_
   refine oN (tC (cT (tR ?_)))
   refine ret1 rfl rfl ?_
   first
   | exact fun w' hw' => ⟨I2, [rrB b vall j vi vl vo va2 true, ndR va2 ns2], hw'.sort (by repeat constructor), hx2, j, va2, true, ns2, m2, rfl, rfl, by omega, hjl, hro.ok, by omega, fun _ => by rw [hbadE hno.1, hno.2], fun h => by cases h⟩
   | (refine fun w' hw' => ⟨I2, [rrB b vall (j + 1) vi vl vo va5 false, ndR va5 (ns2 ++ [_])], hw'.sort (by repeat constructor), hx2, j + 1, va5, false, _, _, rfl, rfl, by omega, by omega, ok_more hro.ok ⟨Ws.nil _, Ws.nil _⟩, by rw [List.length_append]; show ns2.length + 1 ≤ _; omega, fun h => (by cases h), fun _ => ⟨?_, (lastN_more ns2 _).symm, by rw [List.length_append]; show ns2.length + 1 ≤ _; omega⟩⟩
      rw [hgoodE _ hyes.1, hyes.2, List.map_append, hm2, e2, lastN_eq]; rfl)
  have f4 := h4
  try simp only [bl] at f4
  obtain ⟨n4, hn4⟩ : ∃ n, expoZ (tkAt L j).text = some n := by
    cases hx : expoZ (tkAt L j).text with
    | none => rw [hx] at h4; exact absurd h4 (by decide)
    | some n => exact ⟨n, rfl⟩
  have hyes := expo_some he hj hk3.1 hk3.2 hn4
  have hn20 := expoZ_le hz3 hn4
  rw [hn4, show expoI (some n4) = (n4 : Int) from rfl]
  refine cK (tC (cS (cR ?_)))
  iterate 3 refine oV ?_
  refine oF 1 Tryz.underlying73 Tryz.sizeOf3 ?_
  refine oL Tryz.isAgg3 ?_
  first | (refine o_add trivial rfl rfl rfl ?_ ?_; (omega)) | refine oV ?_
  refine oV ?_
  refine oF 1 Tryz.underlying73 Tryz.sizeOf3 ?_
  refine oS Tryz.sizeOf3 ?_
  refine oN (tC (cS (cR ?_)))
  iterate 4 refine oV ?_
  first | (refine o_mul trivial rfl rfl rfl ?_ ?_; (omega)) | refine oV ?_
  refine o_buildS trivial rfl (bld44) rfl (.cons rfl rfl rfl (by repeat constructor) (.cons rfl rfl rfl (by repeat constructor) (.cons rfl rfl rfl (by repeat constructor) .nil))) ?_
  refine oC trivial rfl Tryz.call109 rfl (rrNode_any b (j + 1) vall vi vl vo va2 false ⟨powN m2 (_ * (n4 : Int)), .slice none 0 0, .slice none 0 0⟩ ns2 ⟨Ws.nil _, Ws.nil _⟩ (by omega)) (by repeat constructor) ?_
  rintro _ _ _ hx5 ⟨rfl, rfl, va5, rfl⟩
  refine oV ?_
  refine oN (tC (cT ?_))
  refine ret1 rfl rfl ?_
  first
  | exact fun w' hw' => ⟨I2, [rrB b vall j vi vl vo va2 true, ndR va2 ns2], hw'.sort (by repeat constructor), hx2, j, va2, true, ns2, m2, rfl, rfl, by omega, hjl, hro.ok, by omega, fun _ => by rw [hbadE hno.1, hno.2], fun h => by cases h⟩
  | (refine fun w' hw' => ⟨I2, [rrB b vall (j + 1) vi vl vo va5 false, ndR va5 (ns2 ++ [_])], hw'.sort (by repeat constructor), hx2, j + 1, va5, false, _, _, rfl, rfl, by omega, by omega, ok_more hro.ok ⟨Ws.nil _, Ws.nil _⟩, by rw [List.length_append]; show ns2.length + 1 ≤ _; omega, fun h => (by cases h), fun _ => ⟨?_, (lastN_more ns2 _).symm, by rw [List.length_append]; show ns2.length + 1 ≤ _; omega⟩⟩
     rw [hgoodE _ hyes.1, hyes.2, List.map_append, hm2, e2, lastN_eq]; rfl)
theorem atom_of {b : Nat} {vall : Value} {L : List Tok} {n : Nat} (hn : L.length ≤ 10000) (hto : ToksOk L) (hs : ∀ m, m < n → LvC 78 .sum b vall L m) : LvC 169 .atom b vall L n := by
  intro I i vi vl vo va ns q hL hi hin hok hb h
  have hll : (L.map Tok.cells).length = L.length := List.length_map _
  intro w hw
  refine enter1 _ Tryz.func169 rfl Tryz.ntmps169 rfl ?_ hw
  refine cS (cR ?_)
  refine oV ?_
  refine oN (tC (cS (cS (cR ?_))))
  refine oV ?_
  refine oC trivial rfl Tryz.call76 rfl (rrIs_any b i vall vi vl vo va false 2 lpar L hL (by omega) hi) (by repeat constructor) ?_
  rintro _ _ _ hx ⟨rfl, rfl, rfl⟩
  refine oN (tC ?_)
  refine cC rfl (fun h1 => ?_) (fun h1 => ?_)
  ·
   have f1 := h1
   try simp only [bl] at f1
   have hm : hdT (L.drop i) 2 lpar = true := h1
   have hlt := hdT_lt hm
   rw [drop_cons hlt] at h hm
   obtain ⟨q1, hq1, hbad, hgood⟩ := atom_par h hm
   refine cS (cR ?_)
   iterate 3 refine oV ?_
   refine oF 1 Tryz.underlying73 Tryz.sizeOf3 ?_
   refine oL Tryz.isAgg3 ?_
   first | (refine o_add trivial rfl rfl rfl ?_ ?_; (omega)) | refine oV ?_
   refine oV ?_
   refine oF 1 Tryz.underlying73 Tryz.sizeOf3 ?_
   refine oS Tryz.sizeOf3 ?_
   refine oN (tC (cS (cR ?_)))
   refine oV ?_
   refine oC trivial rfl Tryz.call78 rfl (hs (n - 1) (by omega) (i + 1) vi vl vo va ns q1 hL (by omega) (by omega) hok (by omega) hq1) (by repeat constructor) ?_
   rintro _ I2 _ hx2 ⟨i2, va2, bad2, ns2, m2, rfl, rfl, hro⟩
   refine oV ?_
   refine oN (tC (cS ?_))
   have hge := hro.ge
   have hle := hro.le
   have hfew := hro.few
   refine cR ?_
   refine oV ?_
   refine oC trivial rfl Tryz.call74 rfl (rrWant_any b i2 vall vi vl vo va2 bad2 2 rpar L (hL.le hx2.le) (by omega) hle) (by repeat constructor) ?_
   rintro _ _ _ hx3 ⟨rfl, rfl, rfl⟩
   refine oN (tC (cS (cR ?_)))
   iterate 2 refine oV ?_
   refine oN (tC (cT (tR ?_)))
   refine ret1 rfl rfl ?_
   refine fun w' hw' => ⟨I2, [rrB b vall (adv (isR bad2 L i2 2 rpar) i2) vi vl vo va2 (bad2 || !isR bad2 L i2 2 rpar), ndR va2 ns2], hw'.sort (by repeat constructor), hx2, _, va2, _, ns2, m2, rfl, rfl, ?_⟩
   cases bad2 with
   | true => exact ⟨by show i ≤ i2; omega, hle, hro.ok, by show _ ≤ ns.length + (i2 - i) + 1; omega, fun _ => hbad _ (hro.bad rfl), fun e => by cases e⟩
   | false =>
     obtain ⟨e1, e2, e3⟩ := hro.good rfl
     have hg := hgood _ _ e1
     cases hr : isR false L i2 2 rpar with
     | true =>
       obtain ⟨_, hm2, hlt2⟩ := isR_lt hr
       rw [if_pos hm2, List.drop_drop] at hg
       exact ⟨by show i ≤ i2 + 1; omega, hlt2, hro.ok, by show _ ≤ ns.length + (i2 + 1 - i) + 1; omega, fun e => (by cases e), fun _ => ⟨hg, e2, by show _ ≤ ns.length + (i2 + 1 - i); omega⟩⟩
     | false =>
       have hm2 : hdT (L.drop i2) 2 rpar = false := hr
       rw [if_neg (by rw [hm2]; decide)] at hg
       exact ⟨by show i ≤ i2; omega, hle, hro.ok, by show _ ≤ ns.length + (i2 - i) + 1; omega, fun _ => hg, fun e => by cases e⟩
  have f1 := h1
  try simp only [bl] at f1
  have hm : hdT (L.drop i) 2 lpar = false := h1
  refine cK (tC (cS (cS ?_)))
  refine c_quiet (by kernel_rfl) (by kernel_rfl) (fun _ h => h.drawn) ?_
  iterate 2 refine oV ?_
  refine oF 6 Tryz.underlying73 Tryz.sizeOf4 ?_
  refine oL Tryz.isAgg4 ?_
  refine oV ?_
  refine' o_and trivial trivial rfl rfl rfl rfl rfl rfl rfl rfl (fun hb27 => ?_) ?_
  rotate_left
  ·
   have fb27 := hb27
   try simp only [bl] at fb27
   iterate 2 refine o_pv (wS rfl rfl hb27) rfl rfl ?_
   refine oX (T := 3) (off := 1) (wS rfl rfl hb27) rfl Tryz.underlying73 rfl rfl rfl Tryz.sizeOf3 rfl rfl ?_
   refine o_load1 (wS rfl rfl hb27) rfl Tryz.isAgg3 rfl (by repeat constructor) (by repeat constructor) ?_
   iterate 2 refine o_pv (wS rfl rfl hb27) rfl rfl ?_
   refine oX (T := 60) (off := 0) (wS rfl rfl hb27) rfl Tryz.underlying73 rfl rfl rfl Tryz.sizeOf60 rfl rfl ?_
   refine o_load1 (wS rfl rfl hb27) rfl Tryz.isAgg60 rfl (by repeat constructor) (by repeat constructor) ?_
   refine o_lenSlc (wS rfl rfl hb27) rfl Tryz.underlying60 rfl (hL) ?_
   refine o_pv (wS rfl rfl hb27) rfl rfl ?_
   refine oN ?_
   exact joins rfl
  refine' o_and trivial trivial rfl rfl rfl rfl rfl rfl rfl rfl (fun hb39 => ?_) ?_
  rotate_left
  ·
   have fb39 := hb39
   try simp only [bl] at fb39
   have hlt : i < L.length := by simp at hb39; omega
   iterate 2 refine o_pv (wS rfl rfl hb39) rfl rfl ?_
   refine oX (T := 60) (off := 0) (wS rfl rfl hb39) rfl Tryz.underlying73 rfl rfl rfl Tryz.sizeOf60 rfl rfl ?_
   refine o_load1 (wS rfl rfl hb39) rfl Tryz.isAgg60 rfl (by repeat constructor) (by repeat constructor) ?_
   iterate 2 refine o_pv (wS rfl rfl hb39) rfl rfl ?_
   refine oX (T := 3) (off := 1) (wS rfl rfl hb39) rfl Tryz.underlying73 rfl rfl rfl Tryz.sizeOf3 rfl rfl ?_
   refine o_load1 (wS rfl rfl hb39) rfl Tryz.isAgg3 rfl (by repeat constructor) (by repeat constructor) ?_
   refine o_elem (wS rfl rfl hb39) rfl Tryz.underlying60 Tryz.sizeOf68 rfl (hL) rfl (by omega) ?_
   refine oX (T := 3) (off := 0) (wS rfl rfl hb39) rfl Tryz.underlying68 rfl rfl rfl Tryz.sizeOf3 rfl rfl ?_
   refine o_load1I (wS rfl rfl hb39) rfl Tryz.isAgg3 rfl (tk_cell hL hlt 0 _ rfl) ?_
   refine o_pv (wS rfl rfl hb39) rfl rfl ?_
   refine oN ?_
   exact joins rfl
  refine oN (tC ?_)
  refine cC rfl (fun h2 => ?_) (fun h2 => ?_)
  ·
   have f2 := h2
   try simp only [bl] at f2
   have hk : i < L.length ∧ (tkAt L i).kind = 1 := by
     simp at h2
     exact ⟨by omega, h2.2⟩
   have hlt := hk.1
   have hz := tk_num hto hk.1 hk.2
   have hp : isT (tkAt L i) 2 lpar = false := by rw [drop_cons hlt] at hm; exact hm
   rw [drop_cons hlt] at h
   have hq := atom_leaf h hp (by unfold leafT; rw [hk.2]; rfl)
   refine cS ?_
   refine h_beginB (m := 18) [] (by repeat constructor) (by kernel_rfl) rfl ?_
   refine qT (i := 0) (qB 18 1) (Hp.Le.refl _) rfl rfl (oV qF) ?_
   refine qT (i := 1) (qB 18 3) (Hp.Le.refl _) rfl rfl (oV qF) ?_
   refine qT (i := 2) (qB 18 7) (Hp.Le.refl _) rfl rfl (oF 0 Tryz.underlying73 Tryz.sizeOf60 qF) ?_
   refine qT (i := 4) (qB 18 23) (Hp.Le.refl _) rfl rfl (oV qF) ?_
   refine qT (i := 5) (qB 18 55) (Hp.Le.refl _) rfl rfl (oV qF) ?_
   refine qT (i := 6) (qB 18 119) (Hp.Le.refl _) rfl rfl (oF 1 Tryz.underlying73 Tryz.sizeOf3 qF) ?_
   refine h_go [3, 7, 15] (by kernel_rfl) rfl (TWHs.cons ?_ (TWHs.cons ?_ (TWHs.cons ?_ TWHs.nil)))
   ·
    refine qP (qB 18 127) rfl ?_
    refine oL Tryz.isAgg60 ?_
    refine qM (Hp.Le.refl _) ?_
    refine h_go [7, 15] (by kernel_rfl) rfl (TWHs.cons ?_ (TWHs.cons ?_ TWHs.nil))
    ·
     refine qP (qB 18 255) rfl ?_
     refine oL Tryz.isAgg3 ?_
     refine qM (Hp.Le.refl _) ?_
     refine qT (i := 8) (qB 18 511) (Hp.Le.refl _) rfl rfl (o_elem trivial rfl Tryz.underlying60 Tryz.sizeOf68 rfl (hL) rfl (by omega) qF) ?_
     refine qT (i := 9) (qB 18 1023) (Hp.Le.refl _) rfl rfl (oF 1 Tryz.underlying68 Tryz.sizeOf9 qF) ?_
     refine qT (i := 10) (qB 18 2047) (Hp.Le.refl _) rfl rfl (o_load1I trivial rfl Tryz.isAgg9 rfl (tk_cell hL hlt 1 _ rfl) qF) ?_
     refine h_go [11, 15] (by kernel_rfl) rfl (TWHs.cons ?_ (TWHs.cons ?_ TWHs.nil))
     ·
      refine qP (qB 18 4095) rfl ?_
      refine o_callI trivial rfl Tryz.call183 rfl (rParse8_any _ hz) ?_
      rintro _ I3 hx3 ⟨ra, rb, rfl, hra, hrb⟩
      refine qM (hx3.le) ?_
      refine qT (i := 12) (qB 18 8191) (hx3.le) rfl rfl (oV qF) ?_
      refine qT (i := 13) (qB 18 16383) (hx3.le) rfl rfl (oV qF) ?_
      refine qT (i := 14) (qB 18 32767) (hx3.le) rfl rfl (oV qF) ?_
      refine qO (i := 15) (qB 18 65535) rfl ?_
      refine o_alloc trivial rfl Tryz.zeroValue42 rfl (fun b4 => ?_)
      refine qM (hx3.le) ?_
      refine qO (i := 16) (qB 18 131071) rfl ?_
      refine oS Tryz.sizeOf42 ?_
      refine qM (hx3.le) ?_
      refine qT (i := 17) (qB 18 262143) (hx3.le) rfl rfl (oV qF) ?_
      refine h_end (by kernel_rfl) ?_
      refine tC (cS (cR ?_))
      iterate 3 refine oV ?_
      refine oF 1 Tryz.underlying73 Tryz.sizeOf3 ?_
      refine oL Tryz.isAgg3 ?_
      first | (refine o_add trivial rfl rfl rfl ?_ ?_; (omega)) | refine oV ?_
      refine oV ?_
      refine oF 1 Tryz.underlying73 Tryz.sizeOf3 ?_
      refine oS Tryz.sizeOf3 ?_
      refine oN (tC (cS (cR ?_)))
      refine oV ?_
      refine oA Tryz.isAgg42 Tryz.sizeOf42 ?_
      refine o_buildS trivial rfl (bld44) rfl (.cons rfl rfl rfl (by repeat constructor) (.cons rfl rfl rfl (by repeat constructor) .nil)) ?_
      refine oC trivial rfl Tryz.call109 rfl (rrNode_any b (i + 1) vall vi vl vo va false ⟨numN (numQ (tkAt L i).text), ra, rb⟩ ns ⟨hra, hrb⟩ (by omega)) (by repeat constructor) ?_
      rintro _ _ _ hx4 ⟨rfl, rfl, va4, rfl⟩
      refine oV ?_
      refine oN (tC (cT (tR ?_)))
      refine ret1 rfl rfl ?_
      refine fun w' hw' => ⟨I3, [rrB b vall (i + 1) vi vl vo va4 false, ndR va4 (ns ++ [⟨numN (numQ (tkAt L i).text), ra, rb⟩])], hw'.sort (by repeat constructor), hx3, i + 1, va4, false, _, _, rfl, rfl, by omega, by omega, ok_more (fun o ho => (hok o ho).le hx3.le) ⟨hra, hrb⟩, by rw [List.length_append]; show ns.length + 1 ≤ _; omega, fun e => (by cases e), fun _ => ⟨?_, (lastN_more ns _).symm, by rw [List.length_append]; show ns.length + 1 ≤ _; omega⟩⟩
      rw [hq, List.map_append]
      unfold leafN
      rw [if_pos hk.2]; rfl
     refine qP (qB 18 34815) rfl ?_
     refine o_alloc trivial rfl Tryz.zeroValue42 rfl (fun b4 => ?_)
     refine qM (Hp.Le.refl _) ?_
     refine qO (i := 11) (qB 18 36863) rfl ?_
     refine o_callI trivial rfl Tryz.call183 rfl (rParse8_any _ hz) ?_
     rintro _ I3 hx3 ⟨ra, rb, rfl, hra, hrb⟩
     refine qM (hx3.le) ?_
     refine qT (i := 12) (qB 18 40959) (hx3.le) rfl rfl (oV qF) ?_
     refine qT (i := 13) (qB 18 49151) (hx3.le) rfl rfl (oV qF) ?_
     refine qT (i := 14) (qB 18 65535) (hx3.le) rfl rfl (oV qF) ?_
     refine qO (i := 16) (qB 18 131071) rfl ?_
     refine oS Tryz.sizeOf42 ?_
     refine qM (hx3.le) ?_
     refine qT (i := 17) (qB 18 262143) (hx3.le) rfl rfl (oV qF) ?_
     refine h_end (by kernel_rfl) ?_
     refine tC (cS (cR ?_))
     iterate 3 refine oV ?_
     refine oF 1 Tryz.underlying73 Tryz.sizeOf3 ?_
     refine oL Tryz.isAgg3 ?_
     first | (refine o_add trivial rfl rfl rfl ?_ ?_; (omega)) | refine oV ?_
     refine oV ?_
     refine oF 1 Tryz.underlying73 Tryz.sizeOf3 ?_
     refine oS Tryz.sizeOf3 ?_
     refine oN (tC (cS (cR ?_)))
     refine oV ?_
     refine oA Tryz.isAgg42 Tryz.sizeOf42 ?_
     refine o_buildS trivial rfl (bld44) rfl (.cons rfl rfl rfl (by repeat constructor) (.cons rfl rfl rfl (by repeat constructor) .nil)) ?_
     refine oC trivial rfl Tryz.call109 rfl (rrNode_any b (i + 1) vall vi vl vo va false ⟨numN (numQ (tkAt L i).text), ra, rb⟩ ns ⟨hra, hrb⟩ (by omega)) (by repeat constructor) ?_
     rintro _ _ _ hx4 ⟨rfl, rfl, va4, rfl⟩
     refine oV ?_
     refine oN (tC (cT (tR ?_)))
     refine ret1 rfl rfl ?_
     refine fun w' hw' => ⟨I3, [rrB b vall (i + 1) vi vl vo va4 false, ndR va4 (ns ++ [⟨numN (numQ (tkAt L i).text), ra, rb⟩])], hw'.sort (by repeat constructor), hx3, i + 1, va4, false, _, _, rfl, rfl, by omega, by omega, ok_more (fun o ho => (hok o ho).le hx3.le) ⟨hra, hrb⟩, by rw [List.length_append]; show ns.length + 1 ≤ _; omega, fun e => (by cases e), fun _ => ⟨?_, (lastN_more ns _).symm, by rw [List.length_append]; show ns.length + 1 ≤ _; omega⟩⟩
     rw [hq, List.map_append]
     unfold leafN
     rw [if_pos hk.2]; rfl
    refine qP (qB 18 32895) rfl ?_
    refine o_alloc trivial rfl Tryz.zeroValue42 rfl (fun b4 => ?_)
    refine qM (Hp.Le.refl _) ?_
    refine qO (i := 7) (qB 18 33023) rfl ?_
    refine oL Tryz.isAgg3 ?_
    refine qM (Hp.Le.refl _) ?_
    refine qT (i := 8) (qB 18 33279) (Hp.Le.refl _) rfl rfl (o_elem trivial rfl Tryz.underlying60 Tryz.sizeOf68 rfl (hL) rfl (by omega) qF) ?_
    refine qT (i := 9) (qB 18 33791) (Hp.Le.refl _) rfl rfl (oF 1 Tryz.underlying68 Tryz.sizeOf9 qF) ?_
    refine qT (i := 10) (qB 18 34815) (Hp.Le.refl _) rfl rfl (o_load1I trivial rfl Tryz.isAgg9 rfl (tk_cell hL hlt 1 _ rfl) qF) ?_
    refine qO (i := 11) (qB 18 36863) rfl ?_
    refine o_callI trivial rfl Tryz.call183 rfl (rParse8_any _ hz) ?_
    rintro _ I3 hx3 ⟨ra, rb, rfl, hra, hrb⟩
    refine qM (hx3.le) ?_
    refine qT (i := 12) (qB 18 40959) (hx3.le) rfl rfl (oV qF) ?_
    refine qT (i := 13) (qB 18 49151) (hx3.le) rfl rfl (oV qF) ?_
    refine qT (i := 14) (qB 18 65535) (hx3.le) rfl rfl (oV qF) ?_
    refine qO (i := 16) (qB 18 131071) rfl ?_
    refine oS Tryz.sizeOf42 ?_
    refine qM (hx3.le) ?_
    refine qT (i := 17) (qB 18 262143) (hx3.le) rfl rfl (oV qF) ?_
    refine h_end (by kernel_rfl) ?_
    refine tC (cS (cR ?_))
    iterate 3 refine oV ?_
    refine oF 1 Tryz.underlying73 Tryz.sizeOf3 ?_
    refine oL Tryz.isAgg3 ?_
    first | (refine o_add trivial rfl rfl rfl ?_ ?_; (omega)) | refine oV ?_
    refine oV ?_
    refine oF 1 Tryz.underlying73 Tryz.sizeOf3 ?_
    refine oS Tryz.sizeOf3 ?_
    refine oN (tC (cS (cR ?_)))
    refine oV ?_
    refine oA Tryz.isAgg42 Tryz.sizeOf42 ?_
    refine o_buildS trivial rfl (bld44) rfl (.cons rfl rfl rfl (by repeat constructor) (.cons rfl rfl rfl (by repeat constructor) .nil)) ?_
    refine oC trivial rfl Tryz.call109 rfl (rrNode_any b (i + 1) vall vi vl vo va false ⟨numN (numQ (tkAt L i).text), ra, rb⟩ ns ⟨hra, hrb⟩ (by omega)) (by repeat constructor) ?_
    rintro _ _ _ hx4 ⟨rfl, rfl, va4, rfl⟩
    refine oV ?_
    refine oN (tC (cT (tR ?_)))
    refine ret1 rfl rfl ?_
    refine fun w' hw' => ⟨I3, [rrB b vall (i + 1) vi vl vo va4 false, ndR va4 (ns ++ [⟨numN (numQ (tkAt L i).text), ra, rb⟩])], hw'.sort (by repeat constructor), hx3, i + 1, va4, false, _, _, rfl, rfl, by omega, by omega, ok_more (fun o ho => (hok o ho).le hx3.le) ⟨hra, hrb⟩, by rw [List.length_append]; show ns.length + 1 ≤ _; omega, fun e => (by cases e), fun _ => ⟨?_, (lastN_more ns _).symm, by rw [List.length_append]; show ns.length + 1 ≤ _; omega⟩⟩
    rw [hq, List.map_append]
    unfold leafN
    rw [if_pos hk.2]; rfl
   ·
    refine qP (qB 18 247) rfl ?_
    refine oL Tryz.isAgg3 ?_
    refine qM (Hp.Le.refl _) ?_
    refine h_go [3, 15] (by kernel_rfl) rfl (TWHs.cons ?_ (TWHs.cons ?_ TWHs.nil))
    ·
     refine qP (qB 18 255) rfl ?_
     refine oL Tryz.isAgg60 ?_
     refine qM (Hp.Le.refl _) ?_
     refine qT (i := 8) (qB 18 511) (Hp.Le.refl _) rfl rfl (o_elem trivial rfl Tryz.underlying60 Tryz.sizeOf68 rfl (hL) rfl (by omega) qF) ?_
     refine qT (i := 9) (qB 18 1023) (Hp.Le.refl _) rfl rfl (oF 1 Tryz.underlying68 Tryz.sizeOf9 qF) ?_
     refine qT (i := 10) (qB 18 2047) (Hp.Le.refl _) rfl rfl (o_load1I trivial rfl Tryz.isAgg9 rfl (tk_cell hL hlt 1 _ rfl) qF) ?_
     refine h_go [11, 15] (by kernel_rfl) rfl (TWHs.cons ?_ (TWHs.cons ?_ TWHs.nil))
     ·
      refine qP (qB 18 4095) rfl ?_
      refine o_callI trivial rfl Tryz.call183 rfl (rParse8_any _ hz) ?_
      rintro _ I3 hx3 ⟨ra, rb, rfl, hra, hrb⟩
      refine qM (hx3.le) ?_
      refine qT (i := 12) (qB 18 8191) (hx3.le) rfl rfl (oV qF) ?_
      refine qT (i := 13) (qB 18 16383) (hx3.le) rfl rfl (oV qF) ?_
      refine qT (i := 14) (qB 18 32767) (hx3.le) rfl rfl (oV qF) ?_
      refine qO (i := 15) (qB 18 65535) rfl ?_
      refine o_alloc trivial rfl Tryz.zeroValue42 rfl (fun b4 => ?_)
      refine qM (hx3.le) ?_
      refine qO (i := 16) (qB 18 131071) rfl ?_
      refine oS Tryz.sizeOf42 ?_
      refine qM (hx3.le) ?_
      refine qT (i := 17) (qB 18 262143) (hx3.le) rfl rfl (oV qF) ?_
      refine h_end (by kernel_rfl) ?_
      refine tC (cS (cR ?_))
      iterate 3 refine oV ?_
      refine oF 1 Tryz.underlying73 Tryz.sizeOf3 ?_
      refine oL Tryz.isAgg3 ?_
      first | (refine o_add trivial rfl rfl rfl ?_ ?_; (omega)) | refine oV ?_
      refine oV ?_
      refine oF 1 Tryz.underlying73 Tryz.sizeOf3 ?_
      refine oS Tryz.sizeOf3 ?_
      refine oN (tC (cS (cR ?_)))
      refine oV ?_
      refine oA Tryz.isAgg42 Tryz.sizeOf42 ?_
      refine o_buildS trivial rfl (bld44) rfl (.cons rfl rfl rfl (by repeat constructor) (.cons rfl rfl rfl (by repeat constructor) .nil)) ?_
      refine oC trivial rfl Tryz.call109 rfl (rrNode_any b (i + 1) vall vi vl vo va false ⟨numN (numQ (tkAt L i).text), ra, rb⟩ ns ⟨hra, hrb⟩ (by omega)) (by repeat constructor) ?_
      rintro _ _ _ hx4 ⟨rfl, rfl, va4, rfl⟩
      refine oV ?_
      refine oN (tC (cT (tR ?_)))
      refine ret1 rfl rfl ?_
      refine fun w' hw' => ⟨I3, [rrB b vall (i + 1) vi vl vo va4 false, ndR va4 (ns ++ [⟨numN (numQ (tkAt L i).text), ra, rb⟩])], hw'.sort (by repeat constructor), hx3, i + 1, va4, false, _, _, rfl, rfl, by omega, by omega, ok_more (fun o ho => (hok o ho).le hx3.le) ⟨hra, hrb⟩, by rw [List.length_append]; show ns.length + 1 ≤ _; omega, fun e => (by cases e), fun _ => ⟨?_, (lastN_more ns _).symm, by rw [List.length_append]; show ns.length + 1 ≤ _; omega⟩⟩
      rw [hq, List.map_append]
      unfold leafN
      rw [if_pos hk.2]; rfl
     refine qP (qB 18 34815) rfl ?_
     refine o_alloc trivial rfl Tryz.zeroValue42 rfl (fun b4 => ?_)
     refine qM (Hp.Le.refl _) ?_
     refine qO (i := 11) (qB 18 36863) rfl ?_
     refine o_callI trivial rfl Tryz.call183 rfl (rParse8_any _ hz) ?_
     rintro _ I3 hx3 ⟨ra, rb, rfl, hra, hrb⟩
     refine qM (hx3.le) ?_
     refine qT (i := 12) (qB 18 40959) (hx3.le) rfl rfl (oV qF) ?_
     refine qT (i := 13) (qB 18 49151) (hx3.le) rfl rfl (oV qF) ?_
     refine qT (i := 14) (qB 18 65535) (hx3.le) rfl rfl (oV qF) ?_
     refine qO (i := 16) (qB 18 131071) rfl ?_
     refine oS Tryz.sizeOf42 ?_
     refine qM (hx3.le) ?_
     refine qT (i := 17) (qB 18 262143) (hx3.le) rfl rfl (oV qF) ?_
     refine h_end (by kernel_rfl) ?_
     refine tC (cS (cR ?_))
     iterate 3 refine oV ?_
     refine oF 1 Tryz.underlying73 Tryz.sizeOf3 ?_
     refine oL Tryz.isAgg3 ?_
     first | (refine o_add trivial rfl rfl rfl ?_ ?_; (omega)) | refine oV ?_
     refine oV ?_
     refine oF 1 Tryz.underlying73 Tryz.sizeOf3 ?_
     refine oS Tryz.sizeOf3 ?_
     refine oN (tC (cS (cR ?_)))
     refine oV ?_
     refine oA Tryz.isAgg42 Tryz.sizeOf42 ?_
     refine o_buildS trivial rfl (bld44) rfl (.cons rfl rfl rfl (by repeat constructor) (.cons rfl rfl rfl (by repeat constructor) .nil)) ?_
     refine oC trivial rfl Tryz.call109 rfl (rrNode_any b (i + 1) vall vi vl vo va false ⟨numN (numQ (tkAt L i).text), ra, rb⟩ ns ⟨hra, hrb⟩ (by omega)) (by repeat constructor) ?_
     rintro _ _ _ hx4 ⟨rfl, rfl, va4, rfl⟩
     refine oV ?_
     refine oN (tC (cT (tR ?_)))
     refine ret1 rfl rfl ?_
     refine fun w' hw' => ⟨I3, [rrB b vall (i + 1) vi vl vo va4 false, ndR va4 (ns ++ [⟨numN (numQ (tkAt L i).text), ra, rb⟩])], hw'.sort (by repeat constructor), hx3, i + 1, va4, false, _, _, rfl, rfl, by omega, by omega, ok_more (fun o ho => (hok o ho).le hx3.le) ⟨hra, hrb⟩, by rw [List.length_append]; show ns.length + 1 ≤ _; omega, fun e => (by cases e), fun _ => ⟨?_, (lastN_more ns _).symm, by rw [List.length_append]; show ns.length + 1 ≤ _; omega⟩⟩
     rw [hq, List.map_append]
     unfold leafN
     rw [if_pos hk.2]; rfl
    refine qP (qB 18 33015) rfl ?_
    refine o_alloc trivial rfl Tryz.zeroValue42 rfl (fun b4 => ?_)
    refine qM (Hp.Le.refl _) ?_
    refine qO (i := 3) (qB 18 33023) rfl ?_
    refine oL Tryz.isAgg60 ?_
    refine qM (Hp.Le.refl _) ?_
    refine qT (i := 8) (qB 18 33279) (Hp.Le.refl _) rfl rfl (o_elem trivial rfl Tryz.underlying60 Tryz.sizeOf68 rfl (hL) rfl (by omega) qF) ?_
    refine qT (i := 9) (qB 18 33791) (Hp.Le.refl _) rfl rfl (oF 1 Tryz.underlying68 Tryz.sizeOf9 qF) ?_
    refine qT (i := 10) (qB 18 34815) (Hp.Le.refl _) rfl rfl (o_load1I trivial rfl Tryz.isAgg9 rfl (tk_cell hL hlt 1 _ rfl) qF) ?_
    refine qO (i := 11) (qB 18 36863) rfl ?_
    refine o_callI trivial rfl Tryz.call183 rfl (rParse8_any _ hz) ?_
    rintro _ I3 hx3 ⟨ra, rb, rfl, hra, hrb⟩
    refine qM (hx3.le) ?_
    refine qT (i := 12) (qB 18 40959) (hx3.le) rfl rfl (oV qF) ?_
    refine qT (i := 13) (qB 18 49151) (hx3.le) rfl rfl (oV qF) ?_
    refine qT (i := 14) (qB 18 65535) (hx3.le) rfl rfl (oV qF) ?_
    refine qO (i := 16) (qB 18 131071) rfl ?_
    refine oS Tryz.sizeOf42 ?_
    refine qM (hx3.le) ?_
    refine qT (i := 17) (qB 18 262143) (hx3.le) rfl rfl (oV qF) ?_
    refine h_end (by kernel_rfl) ?_
    refine tC (cS (cR ?_))
    iterate 3 refine oV ?_
    refine oF 1 Tryz.underlying73 Tryz.sizeOf3 ?_
    refine oL Tryz.isAgg3 ?_
    first | (refine o_add trivial rfl rfl rfl ?_ ?_; (omega)) | refine oV ?_
    refine oV ?_
    refine oF 1 Tryz.underlying73 Tryz.sizeOf3 ?_
    refine oS Tryz.sizeOf3 ?_
    refine oN (tC (cS (cR ?_)))
    refine oV ?_
    refine oA Tryz.isAgg42 Tryz.sizeOf42 ?_
    refine o_buildS trivial rfl (bld44) rfl (.cons rfl rfl rfl (by repeat constructor) (.cons rfl rfl rfl (by repeat constructor) .nil)) ?_
    refine oC trivial rfl Tryz.call109 rfl (rrNode_any b (i + 1) vall vi vl vo va false ⟨numN (numQ (tkAt L i).text), ra, rb⟩ ns ⟨hra, hrb⟩ (by omega)) (by repeat constructor) ?_
    rintro _ _ _ hx4 ⟨rfl, rfl, va4, rfl⟩
    refine oV ?_
    refine oN (tC (cT (tR ?_)))
    refine ret1 rfl rfl ?_
    refine fun w' hw' => ⟨I3, [rrB b vall (i + 1) vi vl vo va4 false, ndR va4 (ns ++ [⟨numN (numQ (tkAt L i).text), ra, rb⟩])], hw'.sort (by repeat constructor), hx3, i + 1, va4, false, _, _, rfl, rfl, by omega, by omega, ok_more (fun o ho => (hok o ho).le hx3.le) ⟨hra, hrb⟩, by rw [List.length_append]; show ns.length + 1 ≤ _; omega, fun e => (by cases e), fun _ => ⟨?_, (lastN_more ns _).symm, by rw [List.length_append]; show ns.length + 1 ≤ _; omega⟩⟩
    rw [hq, List.map_append]
    unfold leafN
    rw [if_pos hk.2]; rfl
   refine qP (qB 18 32887) rfl ?_
   refine o_alloc trivial rfl Tryz.zeroValue42 rfl (fun b4 => ?_)
   refine qM (Hp.Le.refl _) ?_
   refine h_go [3, 7] (by kernel_rfl) rfl (TWHs.cons ?_ (TWHs.cons ?_ TWHs.nil))
   ·
    refine qP (qB 18 32895) rfl ?_
    refine oL Tryz.isAgg60 ?_
    refine qM (Hp.Le.refl _) ?_
    refine qO (i := 7) (qB 18 33023) rfl ?_
    refine oL Tryz.isAgg3 ?_
    refine qM (Hp.Le.refl _) ?_
    refine qT (i := 8) (qB 18 33279) (Hp.Le.refl _) rfl rfl (o_elem trivial rfl Tryz.underlying60 Tryz.sizeOf68 rfl (hL) rfl (by omega) qF) ?_
    refine qT (i := 9) (qB 18 33791) (Hp.Le.refl _) rfl rfl (oF 1 Tryz.underlying68 Tryz.sizeOf9 qF) ?_
    refine qT (i := 10) (qB 18 34815) (Hp.Le.refl _) rfl rfl (o_load1I trivial rfl Tryz.isAgg9 rfl (tk_cell hL hlt 1 _ rfl) qF) ?_
    refine qO (i := 11) (qB 18 36863) rfl ?_
    refine o_callI trivial rfl Tryz.call183 rfl (rParse8_any _ hz) ?_
    rintro _ I3 hx3 ⟨ra, rb, rfl, hra, hrb⟩
    refine qM (hx3.le) ?_
    refine qT (i := 12) (qB 18 40959) (hx3.le) rfl rfl (oV qF) ?_
    refine qT (i := 13) (qB 18 49151) (hx3.le) rfl rfl (oV qF) ?_
    refine qT (i := 14) (qB 18 65535) (hx3.le) rfl rfl (oV qF) ?_
    refine qO (i := 16) (qB 18 131071) rfl ?_
    refine oS Tryz.sizeOf42 ?_
    refine qM (hx3.le) ?_
    refine qT (i := 17) (qB 18 262143) (hx3.le) rfl rfl (oV qF) ?_
    refine h_end (by kernel_rfl) ?_
    refine tC (cS (cR ?_))
    iterate 3 refine oV ?_
    refine oF 1 Tryz.underlying73 Tryz.sizeOf3 ?_
    refine oL Tryz.isAgg3 ?_
    first | (refine o_add trivial rfl rfl rfl ?_ ?_; (omega)) | refine oV ?_
    refine oV ?_
    refine oF 1 Tryz.underlying73 Tryz.sizeOf3 ?_
    refine oS Tryz.sizeOf3 ?_
    refine oN (tC (cS (cR ?_)))
    refine oV ?_
    refine oA Tryz.isAgg42 Tryz.sizeOf42 ?_
    refine o_buildS trivial rfl (bld44) rfl (.cons rfl rfl rfl (by repeat constructor) (.cons rfl rfl rfl (by repeat constructor) .nil)) ?_
    refine oC trivial rfl Tryz.call109 rfl (rrNode_any b (i + 1) vall vi vl vo va false ⟨numN (numQ (tkAt L i).text), ra, rb⟩ ns ⟨hra, hrb⟩ (by omega)) (by repeat constructor) ?_
    rintro _ _ _ hx4 ⟨rfl, rfl, va4, rfl⟩
    refine oV ?_
    refine oN (tC (cT (tR ?_)))
    refine ret1 rfl rfl ?_
    refine fun w' hw' => ⟨I3, [rrB b vall (i + 1) vi vl vo va4 false, ndR va4 (ns ++ [⟨numN (numQ (tkAt L i).text), ra, rb⟩])], hw'.sort (by repeat constructor), hx3, i + 1, va4, false, _, _, rfl, rfl, by omega, by omega, ok_more (fun o ho => (hok o ho).le hx3.le) ⟨hra, hrb⟩, by rw [List.length_append]; show ns.length + 1 ≤ _; omega, fun e => (by cases e), fun _ => ⟨?_, (lastN_more ns _).symm, by rw [List.length_append]; show ns.length + 1 ≤ _; omega⟩⟩
    rw [hq, List.map_append]
    unfold leafN
    rw [if_pos hk.2]; rfl
   refine qP (qB 18 33015) rfl ?_
   refine oL Tryz.isAgg3 ?_
   refine qM (Hp.Le.refl _) ?_
   refine qO (i := 3) (qB 18 33023) rfl ?_
   refine oL Tryz.isAgg60 ?_
   refine qM (Hp.Le.refl _) ?_
   refine qT (i := 8) (qB 18 33279) (Hp.Le.refl _) rfl rfl (o_elem trivial rfl Tryz.underlying60 Tryz.sizeOf68 rfl (hL) rfl (by omega) qF) ?_
   refine qT (i := 9) (qB 18 33791) (Hp.Le.refl _) rfl rfl (oF 1 Tryz.underlying68 Tryz.sizeOf9 qF) ?_
   refine qT (i := 10) (qB 18 34815) (Hp.Le.refl _) rfl rfl (o_load1I trivial rfl Tryz.isAgg9 rfl (tk_cell hL hlt 1 _ rfl) qF) ?_
   refine qO (i := 11) (qB 18 36863) rfl ?_
   refine o_callI trivial rfl Tryz.call183 rfl (rParse8_any _ hz) ?_
   rintro _ I3 hx3 ⟨ra, rb, rfl, hra, hrb⟩
   refine qM (hx3.le) ?_
   refine qT (i := 12) (qB 18 40959) (hx3.le) rfl rfl (oV qF) ?_
   refine qT (i := 13) (qB 18 49151) (hx3.le) rfl rfl (oV qF) ?_
   refine qT (i := 14) (qB 18 65535) (hx3.le) rfl rfl (oV qF) ?_
   refine qO (i := 16) (qB 18 131071) rfl ?_
   refine oS Tryz.sizeOf42 ?_
   refine qM (hx3.le) ?_
   refine qT (i := 17) (qB 18 262143) (hx3.le) rfl rfl (oV qF) ?_
   refine h_end (by kernel_rfl) ?_
   refine tC (cS (cR ?_))
   iterate 3 refine oV ?_
   refine oF 1 Tryz.underlying73 Tryz.sizeOf3 ?_
   refine oL Tryz.isAgg3 ?_
   first | (refine o_add trivial rfl rfl rfl ?_ ?_; (omega)) | refine oV ?_
   refine oV ?_
   refine oF 1 Tryz.underlying73 Tryz.sizeOf3 ?_
   refine oS Tryz.sizeOf3 ?_
   refine oN (tC (cS (cR ?_)))
   refine oV ?_
   refine oA Tryz.isAgg42 Tryz.sizeOf42 ?_
   refine o_buildS trivial rfl (bld44) rfl (.cons rfl rfl rfl (by repeat constructor) (.cons rfl rfl rfl (by repeat constructor) .nil)) ?_
   refine oC trivial rfl Tryz.call109 rfl (rrNode_any b (i + 1) vall vi vl vo va false ⟨numN (numQ (tkAt L i).text), ra, rb⟩ ns ⟨hra, hrb⟩ (by omega)) (by repeat constructor) ?_
   rintro _ _ _ hx4 ⟨rfl, rfl, va4, rfl⟩
   refine oV ?_
   refine oN (tC (cT (tR ?_)))
   refine ret1 rfl rfl ?_
   refine fun w' hw' => ⟨I3, [rrB b vall (i + 1) vi vl vo va4 false, ndR va4 (ns ++ [⟨numN (numQ (tkAt L i).text), ra, rb⟩])], hw'.sort (by repeat constructor), hx3, i + 1, va4, false, _, _, rfl, rfl, by omega, by omega, ok_more (fun o ho => (hok o ho).le hx3.le) ⟨hra, hrb⟩, by rw [List.length_append]; show ns.length + 1 ≤ _; omega, fun e => (by cases e), fun _ => ⟨?_, (lastN_more ns _).symm, by rw [List.length_append]; show ns.length + 1 ≤ _; omega⟩⟩
   rw [hq, List.map_append]
   unfold leafN
   rw [if_pos hk.2]; rfl
  have f2 := h2
  try simp only [bl] at f2
  have hk2 : i < L.length → (tkAt L i).kind ≠ 1 := fun hlt e => by
    rw [e] at h2
    simp at h2
    omega
  refine cK (tC (cS (cR ?_)))
  refine oV ?_
  refine oC trivial rfl Tryz.call77 rfl (rrName_any b i vall vi vl vo va false L hL (by omega) hi) (by repeat constructor) ?_
  rintro _ _ _ hx3 ⟨rfl, rfl, rfl⟩
  refine oV ?_
  refine oN (tC (cS (cR ?_)))
  iterate 2 refine oV ?_
  refine o_buildS trivial rfl (bld44) rfl (.cons rfl rfl rfl (by repeat constructor) (.cons rfl rfl rfl (by repeat constructor) .nil)) ?_
  refine oC trivial rfl Tryz.call109 rfl (rrNode_any b (adv (nmR' false L i) i) vall vi vl vo va (!nmR' false L i) ⟨refN (if nmR' false L i then (tkAt L i).text else ⟨#[]⟩), .slice none 0 0, .slice none 0 0⟩ ns ⟨Ws.nil _, Ws.nil _⟩ (by omega)) (by repeat constructor) ?_
  rintro _ _ _ hx4 ⟨rfl, rfl, va4, rfl⟩
  refine oV ?_
  refine oN (tC (cT ?_))
  refine ret1 rfl rfl ?_
  refine fun w' hw' => ⟨I, [rrB b vall (adv (nmR' false L i) i) vi vl vo va4 (!nmR' false L i), ndR va4 (ns ++ [_])], hw'.sort (by repeat constructor), Ext.refl _ _, _, va4, _, _, _, rfl, rfl, ?_⟩
  have hln : (ns ++ [(⟨refN (if nmR' false L i then (tkAt L i).text else ⟨#[]⟩), .slice none 0 0, .slice none 0 0⟩ : NodeV)]).length = ns.length + 1 := by simp
  cases hr : nmR' false L i with
  | true =>
    have hN : hdN (L.drop i) = true := hr
    have hlt := hdN_lt hN
    have hnm := nm_name hN
    unfold nameT at hnm
    simp at hnm
    rw [drop_cons hlt] at h hm
    have hq := atom_leaf h hm (by unfold leafT; rw [hnm.1]; simp [hnm.2])
    rw [hr] at hln
    refine ⟨by show i ≤ i + 1; omega, hlt, ok_more hok ⟨Ws.nil _, Ws.nil _⟩, by rw [hln]; show _ ≤ ns.length + (i + 1 - i) + 1; omega, fun e => (by cases e), fun _ => ⟨?_, (lastN_more ns _).symm, by rw [hln]; show _ ≤ ns.length + (i + 1 - i); omega⟩⟩
    rw [hq, List.map_append]
    unfold leafN
    rw [if_neg (by rw [hnm.1]; decide)]; rfl
  | false =>
    have hN : hdN (L.drop i) = false := hr
    rw [hr] at hln
    refine ⟨by show i ≤ i; omega, hi, ok_more hok ⟨Ws.nil _, Ws.nil _⟩, by rw [hln]; omega, fun _ => ?_, fun e => by cases e⟩
    show q = .bad (L.drop i)
    by_cases hlt : i < L.length
    · rw [drop_cons hlt] at h hm ⊢
      refine atom_no h hm ?_
      rw [drop_cons hlt] at hN
      have hN' : nameT (tkAt L i) = false := hN
      unfold leafT
      unfold nameT at hN'
      rw [hN', Bool.or_false]
      simpa using hk2 hlt
    · rw [List.drop_eq_nil_of_le (by omega)] at h ⊢
      exact atom_nil h
theorem forms {b : Nat} {vall : Value} {L : List Tok} (hn : L.length ≤ 10000) (hto : ToksOk L) : ∀ n, LvC 138 .factor b vall L n ∧ LvC 78 .sum b vall L n := by
  intro n
  induction n using Nat.strongRecOn with
  | ind n ih =>
    have ha : LvC 169 .atom b vall L n := atom_of hn hto (fun m hm => (ih m hm).2)
    have hp : LvC 160 .power b vall L n := power_of hn hto ha
    have hf : LvC 138 .factor b vall L n := factor_of hn hp (fun m hm => (ih m hm).1)
    have hpr : LvC 108 .product b vall L n := product_of hn hf
    exact ⟨hf, sum_of hn hpr⟩
abbrev noN : NodeV := ⟨refN ⟨#[]⟩, .slice none 0 0, .slice none 0 0⟩
def WrC (f : FuncId) (b : Nat) (vall : Value) (L : List Tok) : Prop := ∀ {I : Hp} (i : Nat) (vi vl vo va : Value) (ns : List NodeV), Slc I 4 vall (L.map Tok.cells) → i ≤ L.length → ns.length ≤ 80000 →
  Fun Tryz.prog f [.pointer (some ⟨b, 0, none⟩)] I [rrB b vall i vi vl vo va true, ndR va ns] (fun v I' B' => I = I' ∧ v = .int .i64 (ns.length : Nat) ∧ ∃ va', B' = [rrB b vall i vi vl vo va' true, ndR va' (ns ++ [noN])])
theorem atom_wr {b : Nat} {vall : Value} {L : List Tok} (hn : L.length ≤ 10000) : WrC 169 b vall L := by
  intro I i vi vl vo va ns hL hi hb
  have hll : (L.map Tok.cells).length = L.length := List.length_map _
  intro w hw
  refine enter1 _ Tryz.func169 rfl Tryz.ntmps169 rfl ?_ hw
  refine cS (cR ?_)
  refine oV ?_
  refine oN (tC (cS (cS (cR ?_))))
  refine oV ?_
  refine oC trivial rfl Tryz.call76 rfl (rrIs_any b i vall vi vl vo va true 2 lpar L hL (by omega) hi) (by repeat constructor) ?_
  rintro _ _ _ hx ⟨rfl, rfl, rfl⟩
  refine oN (tC ?_)
  refine c_cond_f rfl (by rfl) ?_
  refine cK (tC (cS (cS ?_)))
  refine c_quiet (by kernel_rfl) (by kernel_rfl) (fun _ h => h.drawn) ?_
  iterate 2 refine oV ?_
  refine oF 6 Tryz.underlying73 Tryz.sizeOf4 ?_
  refine oL Tryz.isAgg4 ?_
  refine oV ?_
  refine' o_and trivial trivial rfl rfl rfl rfl rfl rfl rfl rfl (fun hb27 => ?_) ?_
  rotate_left
  ·
   have fb27 := hb27
   try simp only [bl] at fb27
   iterate 2 refine o_pv (wS rfl rfl hb27) rfl rfl ?_
   refine oX (T := 3) (off := 1) (wS rfl rfl hb27) rfl Tryz.underlying73 rfl rfl rfl Tryz.sizeOf3 rfl rfl ?_
   refine o_load1 (wS rfl rfl hb27) rfl Tryz.isAgg3 rfl (by repeat constructor) (by repeat constructor) ?_
   iterate 2 refine o_pv (wS rfl rfl hb27) rfl rfl ?_
   refine oX (T := 60) (off := 0) (wS rfl rfl hb27) rfl Tryz.underlying73 rfl rfl rfl Tryz.sizeOf60 rfl rfl ?_
   refine o_load1 (wS rfl rfl hb27) rfl Tryz.isAgg60 rfl (by repeat constructor) (by repeat constructor) ?_
   refine o_lenSlc (wS rfl rfl hb27) rfl Tryz.underlying60 rfl (hL) ?_
   refine o_pv (wS rfl rfl hb27) rfl rfl ?_
   refine oN ?_
   exact joins rfl
  refine' o_and trivial trivial rfl rfl rfl rfl rfl rfl rfl rfl (fun hb39 => ?_) ?_
  rotate_left
  ·
   have fb39 := hb39
   try simp only [bl] at fb39
   have hlt : i < L.length := by simp at hb39
   iterate 2 refine o_pv (wS rfl rfl hb39) rfl rfl ?_
   refine oX (T := 60) (off := 0) (wS rfl rfl hb39) rfl Tryz.underlying73 rfl rfl rfl Tryz.sizeOf60 rfl rfl ?_
   refine o_load1 (wS rfl rfl hb39) rfl Tryz.isAgg60 rfl (by repeat constructor) (by repeat constructor) ?_
   iterate 2 refine o_pv (wS rfl rfl hb39) rfl rfl ?_
   refine oX (T := 3) (off := 1) (wS rfl rfl hb39) rfl Tryz.underlying73 rfl rfl rfl Tryz.sizeOf3 rfl rfl ?_
   refine o_load1 (wS rfl rfl hb39) rfl Tryz.isAgg3 rfl (by repeat constructor) (by repeat constructor) ?_
   refine o_elem (wS rfl rfl hb39) rfl Tryz.underlying60 Tryz.sizeOf68 rfl (hL) rfl (by omega) ?_
   refine oX (T := 3) (off := 0) (wS rfl rfl hb39) rfl Tryz.underlying68 rfl rfl rfl Tryz.sizeOf3 rfl rfl ?_
   refine o_load1I (wS rfl rfl hb39) rfl Tryz.isAgg3 rfl (tk_cell hL hlt 0 _ rfl) ?_
   refine o_pv (wS rfl rfl hb39) rfl rfl ?_
   refine oN ?_
   exact joins rfl
  refine oN (tC ?_)
  refine c_cond_f rfl (by rfl) ?_
  refine cK (tC (cS (cR ?_)))
  refine oV ?_
  refine oC trivial rfl Tryz.call77 rfl (rrName_any b i vall vi vl vo va true L hL (by omega) hi) (by repeat constructor) ?_
  rintro _ _ _ hx3 ⟨rfl, rfl, rfl⟩
  refine oV ?_
  refine oN (tC (cS (cR ?_)))
  iterate 2 refine oV ?_
  refine o_buildS trivial rfl (bld44) rfl (.cons rfl rfl rfl (by repeat constructor) (.cons rfl rfl rfl (by repeat constructor) .nil)) ?_
  refine oC trivial rfl Tryz.call109 rfl (rrNode_any b i vall vi vl vo va true noN ns ⟨Ws.nil _, Ws.nil _⟩ (by omega)) (by repeat constructor) ?_
  rintro _ _ _ hx4 ⟨rfl, rfl, va4, rfl⟩
  refine oV ?_
  refine oN (tC (cT ?_))
  refine ret1 rfl rfl ?_
  exact fun w' hw' => ⟨I, [rrB b vall i vi vl vo va4 true, ndR va4 (ns ++ [noN])], hw'.sort (by repeat constructor), Ext.refl _ _, rfl, rfl, va4, rfl⟩
theorem power_wr {b : Nat} {vall : Value} {L : List Tok} (hn : L.length ≤ 10000) : WrC 160 b vall L := by
  intro I i vi vl vo va ns hL hi hb
  intro w hw
  refine enter1 _ Tryz.func160 rfl Tryz.ntmps160 rfl ?_ hw
  refine cS (cR ?_)
  refine oV ?_
  refine oN (tC (cS (cR ?_)))
  refine oV ?_
  refine oC trivial rfl Tryz.call169 rfl (atom_wr hn i vi vl vo va ns hL hi hb) (by repeat constructor) ?_
  rintro _ _ _ hx ⟨rfl, rfl, va2, rfl⟩
  refine oV ?_
  refine oN (tC (cS (cS (cR ?_))))
  refine oV ?_
  refine oC trivial rfl Tryz.call76 rfl (rrIs_any b i vall vi vl vo va2 true 2 Go.Tw.caret L hL (by omega) hi) (by repeat constructor) ?_
  rintro _ _ _ hx3 ⟨rfl, rfl, rfl⟩
  refine oV ?_
  refine oN (tC ?_)
  refine c_cond_t rfl (by rfl) ?_
  refine cS (cR ?_)
  iterate 2 refine oV ?_
  refine oN (tC (cT (tR ?_)))
  refine ret1 rfl rfl ?_
  exact fun w' hw' => ⟨I, [rrB b vall i vi vl vo va2 true, ndR va2 (ns ++ [noN])], hw'.sort (by repeat constructor), Ext.refl _ _, rfl, rfl, va2, rfl⟩
theorem factor_wr {b : Nat} {vall : Value} {L : List Tok} (hn : L.length ≤ 10000) : WrC 138 b vall L := by
  intro I i vi vl vo va ns hL hi hb
  intro w hw
  refine enter1 _ Tryz.func138 rfl Tryz.ntmps138 rfl ?_ hw
  refine cS (cR ?_)
  refine oV ?_
  refine oN (tC (cS (cS (cR ?_))))
  refine oV ?_
  refine oC trivial rfl Tryz.call76 rfl (rrIs_any b i vall vi vl vo va true 2 minusS L hL (by omega) hi) (by repeat constructor) ?_
  rintro _ _ _ hx3 ⟨rfl, rfl, rfl⟩
  refine oN (tC ?_)
  refine c_cond_f rfl (by rfl) ?_
  refine cK (tC (cS (cR ?_)))
  refine oV ?_
  refine oC trivial rfl Tryz.call160 rfl (power_wr hn i vi vl vo va ns hL hi hb) (by repeat constructor) ?_
  rintro _ _ _ hx ⟨rfl, rfl, va2, rfl⟩
  refine oV ?_
  refine oN (tC (cT ?_))
  refine ret1 rfl rfl ?_
  exact fun w' hw' => ⟨I, [rrB b vall i vi vl vo va2 true, ndR va2 (ns ++ [noN])], hw'.sort (by repeat constructor), Ext.refl _ _, rfl, rfl, va2, rfl⟩
theorem product_wr {b : Nat} {vall : Value} {L : List Tok} (hn : L.length ≤ 10000) : WrC 108 b vall L := by
  intro I i vi vl vo va ns hL hi hb
  intro w hw
  refine enter1 _ Tryz.func108 rfl Tryz.ntmps108 rfl ?_ hw
  refine cS (cR ?_)
  refine oV ?_
  refine oN (tC (cS (cR ?_)))
  refine oV ?_
  refine oC trivial rfl Tryz.call138 rfl (factor_wr hn i vi vl vo va ns hL hi hb) (by repeat constructor) ?_
  rintro _ _ _ hx ⟨rfl, rfl, va2, rfl⟩
  refine oV ?_
  refine oN (tC (cS (cB ?_)))
  refine c_loop (ι := Unit) [0] (.cons rfl .nil) (fun x => 0) (fun x E0 => (3, .int .i64 (ns.length : Nat)) :: E0) (fun x => St w (keysOf [rrB b vall i vi vl vo va true, ndR va ns]) I [rrB b vall i vi vl vo va2 true, ndR va2 (ns ++ [noN])]) (fun x => True) (()) (sC rfl (sC rfl sN)) (fun _ h => h) (trivial) ?_
  rintro x hF
  try dsimp only
  refine cS (cS (cR ?_))
  refine oV ?_
  refine oC trivial rfl Tryz.call76 rfl (rrIs_any b i vall vi vl vo va2 true 2 starS L hL (by omega) hi) (by repeat constructor) ?_
  rintro _ _ _ hx3 ⟨rfl, rfl, rfl⟩
  refine' o_or trivial trivial rfl rfl rfl rfl rfl rfl rfl rfl (fun hb10 => ?_) ?_
  rotate_left
  ·
   have fb10 := hb10
   try simp only [bl] at fb10
   refine o_pv (wS rfl rfl hb10) rfl rfl ?_
   refine oC (wS rfl rfl hb10) rfl Tryz.call76 rfl (rrIs_any b i vall vi vl vo va2 true 2 slashS L hL (by omega) hi) (by repeat constructor) ?_
   rintro _ _ _ hx4 ⟨rfl, rfl, rfl⟩
   refine oN ?_
   exact joinsW rfl (fun _ h => (h.sort (by repeat constructor)).fewer (hx4.le))
  refine oN (tC ?_)
  refine c_cond_f rfl (by rfl) ?_
  refine c_exit (then_x (then_x (blk_eq rfl (tC (cS (cR ?_))))))
  iterate 2 refine oV ?_
  refine oN (tC (cT ?_))
  refine ret1 rfl rfl ?_
  exact fun w' hw' => ⟨I, [rrB b vall i vi vl vo va2 true, ndR va2 (ns ++ [noN])], hw'.sort (by repeat constructor), Ext.refl _ _, rfl, rfl, va2, rfl⟩
theorem sum_wr {b : Nat} {vall : Value} {L : List Tok} (hn : L.length ≤ 10000) : WrC 78 b vall L := by
  intro I i vi vl vo va ns hL hi hb
  intro w hw
  refine enter1 _ Tryz.func78 rfl Tryz.ntmps78 rfl ?_ hw
  refine cS (cR ?_)
  refine oV ?_
  refine oN (tC (cS (cR ?_)))
  refine oV ?_
  refine oC trivial rfl Tryz.call108 rfl (product_wr hn i vi vl vo va ns hL hi hb) (by repeat constructor) ?_
  rintro _ _ _ hx ⟨rfl, rfl, va2, rfl⟩
  refine oV ?_
  refine oN (tC (cS (cB ?_)))
  refine c_loop (ι := Unit) [0] (.cons rfl .nil) (fun x => 0) (fun x E0 => (3, .int .i64 (ns.length : Nat)) :: E0) (fun x => St w (keysOf [rrB b vall i vi vl vo va true, ndR va ns]) I [rrB b vall i vi vl vo va2 true, ndR va2 (ns ++ [noN])]) (fun x => True) (()) (sC rfl (sC rfl sN)) (fun _ h => h) (trivial) ?_
  rintro x hF
  try dsimp only
  refine cS (cS (cR ?_))
  refine oV ?_
  refine oC trivial rfl Tryz.call76 rfl (rrIs_any b i vall vi vl vo va2 true 2 plusS L hL (by omega) hi) (by repeat constructor) ?_
  rintro _ _ _ hx3 ⟨rfl, rfl, rfl⟩
  refine' o_or trivial trivial rfl rfl rfl rfl rfl rfl rfl rfl (fun hb10 => ?_) ?_
  rotate_left
  ·
   have fb10 := hb10
   try simp only [bl] at fb10
   refine o_pv (wS rfl rfl hb10) rfl rfl ?_
   refine oC (wS rfl rfl hb10) rfl Tryz.call76 rfl (rrIs_any b i vall vi vl vo va2 true 2 minusS L hL (by omega) hi) (by repeat constructor) ?_
   rintro _ _ _ hx4 ⟨rfl, rfl, rfl⟩
   refine oN ?_
   exact joinsW rfl (fun _ h => (h.sort (by repeat constructor)).fewer (hx4.le))
  refine oN (tC ?_)
  refine c_cond_f rfl (by rfl) ?_
  refine c_exit (then_x (then_x (blk_eq rfl (tC (cS (cR ?_))))))
  iterate 2 refine oV ?_
  refine oN (tC (cT ?_))
  refine ret1 rfl rfl ?_
  exact fun w' hw' => ⟨I, [rrB b vall i vi vl vo va2 true, ndR va2 (ns ++ [noN])], hw'.sort (by repeat constructor), Ext.refl _ _, rfl, rfl, va2, rfl⟩
def contZ (L : List Tok) (out : List ByteArray) (j : Nat) : NOut := if hdT (L.drop j) 2 commaS = true then (namesZ (L.drop (j + 1))).after out else if hdT (L.drop j) 2 semiS = true then .ok out (L.drop (j + 1)) else .bad (L.drop j)
theorem names_cont {L : List Tok} {i : Nat} (out : List ByteArray) (h : hdN (L.drop i) = true) : (namesZ (L.drop i)).after out = contZ L (out ++ [(tkAt L i).text]) (i + 1) := by
  unfold contZ
  cases hc : hdT (L.drop (i + 1)) 2 commaS with
  | true => rw [if_pos rfl, nm_comma h hc, NOut.after_cons]
  | false =>
    rw [if_neg (by decide), nm_end h hc]
    cases hs : hdT (L.drop (i + 1)) 2 semiS with
    | true => rfl
    | false => rfl
theorem names_first {L : List Tok} {i : Nat} {bad0 : Bool} (hi : i ≤ L.length) : i ≤ adv (nmR' bad0 L i) i ∧ adv (nmR' bad0 L i) i ≤ L.length ∧ ([if nmR' bad0 L i then (tkAt L i).text else ⟨#[]⟩] : List ByteArray).length ≤ adv (nmR' bad0 L i) i + 1 ∧ (bad0 = true → (!nmR' bad0 L i) = true ∧ adv (nmR' bad0 L i) i = i) ∧ (bad0 = false → ((!nmR' bad0 L i) = true → namesZ (L.drop i) = .bad (L.drop (adv (nmR' bad0 L i) i))) ∧ ((!nmR' bad0 L i) = false → namesZ (L.drop i) = contZ L [if nmR' bad0 L i then (tkAt L i).text else ⟨#[]⟩] (adv (nmR' bad0 L i) i))) := by
  cases bad0 with
  | true => exact ⟨Nat.le_refl _, hi, by simp, fun _ => ⟨rfl, rfl⟩, fun e => by cases e⟩
  | false =>
    cases hr : nmR' false L i with
    | true =>
      have hN : hdN (L.drop i) = true := hr
      exact ⟨Nat.le_succ _, hdN_lt hN, by simp, fun e => (by cases e), fun _ => ⟨fun e => (by cases e), fun _ => by have := names_cont [] hN; rwa [NOut.after_nil] at this⟩⟩
    | false =>
      have hN : hdN (L.drop i) = false := hr
      exact ⟨Nat.le_refl _, hi, by simp, fun e => (by cases e), fun _ => ⟨fun _ => namesZ_no hN, fun e => by cases e⟩⟩
theorem rrNames_any (b i : Nat) (vall vi vl vo va : Value) (bad0 : Bool) (L : List Tok) {I : Hp} (hL : Slc I 4 vall (L.map Tok.cells)) (hn : L.length ≤ 10000) (hi : i ≤ L.length) : Fun Tryz.prog 75 [.pointer (some ⟨b, 0, none⟩)] I [rrB b vall i vi vl vo va bad0]
    (fun v I' B' => I = I' ∧ ∃ i' bad' l, B' = [rrB b vall i' vi vl vo va bad', nmR v l] ∧ i ≤ i' ∧ i' ≤ L.length ∧ l.length ≤ L.length + 1 ∧ (v.cells = #[v] ∧ v.oneCell' = true) ∧ (bad0 = true → bad' = true ∧ i' = i) ∧ (bad0 = false → (bad' = true → namesZ (L.drop i) = .bad (L.drop i')) ∧ (bad' = false → namesZ (L.drop i) = .ok l (L.drop i')))) := by
  intro w hw
  refine enter1 _ Tryz.func75 rfl Tryz.ntmps75 rfl ?_ hw
  refine cS (cR ?_)
  refine oV ?_
  refine oN (tC (cS (cR ?_)))
  refine oV ?_
  refine oC trivial rfl Tryz.call77 rfl (rrName_any b i vall vi vl vo va bad0 L hL (by omega) hi) (by repeat constructor) ?_
  rintro _ _ _ hx1 ⟨rfl, rfl, rfl⟩
  refine o_buildSl trivial rfl Tryz.underlying23 Tryz.sizeOf9 Tryz.zeroValue9 (by decide) (by decide) rfl (by repeat first | exact rfl | constructor) rfl (fun b6 => ?_)
  refine oV ?_
  refine oN (tC (cS (cB ?_)))
  refine c_loop (ι := Nat × Bool × List ByteArray × Value) [0] (.cons rfl .nil) (fun x => L.length - x.1) (fun x E0 => (3, x.2.2.2) :: E0) (fun x => St w (keysOf [rrB b vall i vi vl vo va bad0]) I [rrB b vall x.1 vi vl vo va x.2.1, nmR x.2.2.2 x.2.2.1]) (fun x => i ≤ x.1 ∧ x.1 ≤ L.length ∧ x.2.2.1.length ≤ x.1 + 1 ∧ (bad0 = true → x.2.1 = true ∧ x.1 = i) ∧ (bad0 = false → (x.2.1 = true → namesZ (L.drop i) = .bad (L.drop x.1)) ∧ (x.2.1 = false → namesZ (L.drop i) = contZ L x.2.2.1 x.1))) ((adv (nmR' bad0 L i) i, !nmR' bad0 L i, [if nmR' bad0 L i then (tkAt L i).text else ⟨#[]⟩], .slice (some ⟨b6, 0, none⟩) 1 1)) (sC rfl (sC rfl sN)) (fun _ h => (h.boxRow (m := 1) (sz := 1) rfl (by unfold maxLen; omega)).sort (by repeat constructor)) ((names_first hi)) ?_
  rintro ⟨j, bad, out, u⟩ ⟨hij, hj, hout, hB, hG⟩
  try dsimp only
  simp only at hij hj hout hB hG
  refine cS (cS (cR ?_))
  refine oV ?_
  refine oC trivial rfl Tryz.call76 rfl (rrIs_any b j vall vi vl vo va bad 2 commaS L hL (by omega) hj) (by repeat constructor) ?_
  rintro _ _ _ hx2 ⟨rfl, rfl, rfl⟩
  refine oN (tC ?_)
  refine cC rfl (fun h1 => ?_) (fun h1 => ?_)
  ·
   have f1 := h1
   try simp only [bl] at f1
   have hf : isR bad L j 2 commaS = true := h1
   obtain ⟨rfl, hm, hlt⟩ := isR_lt hf
   have hb0 : bad0 = false := by
     cases bad0 with
     | false => rfl
     | true => exact absurd (hB rfl).1 (by decide)
   have hc := (hG hb0).2 rfl
   rw [contZ, if_pos hm] at hc
   refine cK (tC (cB (cS (cR ?_))))
   iterate 3 refine oV ?_
   refine oF 1 Tryz.underlying73 Tryz.sizeOf3 ?_
   refine oL Tryz.isAgg3 ?_
   first | (refine o_add trivial rfl rfl rfl ?_ ?_; (omega)) | refine oV ?_
   refine oV ?_
   refine oF 1 Tryz.underlying73 Tryz.sizeOf3 ?_
   refine oS Tryz.sizeOf3 ?_
   refine oN (tC (cR ?_))
   iterate 2 refine oV ?_
   refine oC trivial rfl Tryz.call77 rfl (rrName_any b (j + 1) vall vi vl vo va false L hL (by omega) hlt) (by repeat constructor) ?_
   rintro _ _ _ hx3 ⟨rfl, rfl, rfl⟩
   refine o_buildSl trivial rfl Tryz.underlying23 Tryz.sizeOf9 Tryz.zeroValue9 (by decide) (by decide) rfl (by repeat first | exact rfl | constructor) rfl (fun b20 => ?_)
   refine o_appendBox trivial rfl Tryz.underlying23 (elem9) (by decide) rfl rfl (fun v' => (by repeat constructor)) (by repeat constructor) rfl (by first | rfl | decide) (by first | omega | (unfold maxLen; omega)) (by omega) (fun v21 => ?_)
   refine oV ?_
   refine oN (blk_n ?_)
   exact again (adv (nmR' false L (j + 1)) (j + 1), !nmR' false L (j + 1), out ++ [if nmR' false L (j + 1) then (tkAt L (j + 1)).text else ⟨#[]⟩], v21) (sC rfl (sC rfl sN)) (fun _ h => by unfold nmR; rw [scs_more, List.length_append]; exact h.sort (by repeat constructor)) (by show L.length - adv (nmR' false L (j + 1)) (j + 1) < L.length - j; unfold adv; split <;> omega) (by
     cases hr : nmR' false L (j + 1) with
     | true =>
       have hN : hdN (L.drop (j + 1)) = true := hr
       exact ⟨by show i ≤ j + 1 + 1; omega, hdN_lt hN, by rw [List.length_append]; show out.length + 1 ≤ j + 1 + 1 + 1; omega, fun e => (by rw [hb0] at e; cases e), fun _ => ⟨fun e => (by cases e), fun _ => by rw [hc, names_cont out hN]; rfl⟩⟩
     | false =>
       have hN : hdN (L.drop (j + 1)) = false := hr
       exact ⟨by show i ≤ j + 1; omega, hlt, by rw [List.length_append]; show out.length + 1 ≤ j + 1 + 1; omega, fun e => (by rw [hb0] at e; cases e), fun _ => ⟨fun _ => (by rw [hc, namesZ_no hN]; rfl), fun e => by cases e⟩⟩)
  have f1 := h1
  try simp only [bl] at f1
  have hf : isR bad L j 2 commaS = false := h1
  refine c_exit (then_x (then_x (blk_eq rfl (tC (cS (cR ?_))))))
  refine oV ?_
  refine oC trivial rfl Tryz.call74 rfl (rrWant_any b j vall vi vl vo va bad 2 semiS L hL (by omega) hj) (by repeat constructor) ?_
  rintro _ _ _ hx3 ⟨rfl, rfl, rfl⟩
  refine oN (tC (cS (cR ?_)))
  refine l_rowCells (u := u) (by repeat constructor) (fun hcv => ?_)
  iterate 2 refine oV ?_
  refine oN (tC (cT ?_))
  refine ret1 rfl rfl ?_
  refine fun w' hw' => ⟨I, [rrB b vall (adv (isR bad L j 2 semiS) j) vi vl vo va (bad || !isR bad L j 2 semiS), nmR u out], hw'.sort (by repeat constructor), Ext.refl _ _, rfl, _, _, out, rfl, ?_, ?_, by omega, hcv, fun e => ?_, fun e => ?_⟩
  · unfold adv; split <;> omega
  · unfold adv
    split
    · rename_i hh; exact (isR_lt hh).2.2
    · exact hj
  · obtain ⟨rfl, rfl⟩ := hB e; exact ⟨rfl, rfl⟩
  · obtain ⟨g1, g2⟩ := hG e
    cases bad with
    | true => exact ⟨fun _ => g1 rfl, fun e => by cases e⟩
    | false =>
      have hc := g2 rfl
      have hm : hdT (L.drop j) 2 commaS = false := hf
      rw [contZ, if_neg (by rw [hm]; decide)] at hc
      cases hr : isR false L j 2 semiS with
      | true =>
        have hm2 : hdT (L.drop j) 2 semiS = true := hr
        rw [if_pos hm2] at hc
        exact ⟨fun e => (by cases e), fun _ => hc⟩
      | false =>
        have hm2 : hdT (L.drop j) 2 semiS = false := hr
        rw [if_neg (by rw [hm2]; decide)] at hc
        exact ⟨fun _ => hc, fun e => by cases e⟩
theorem let_parts {L : List Tok} {all : List NodeC} {i : Nat} {o1 : LO} (h : Lt1 all (L.drop i) o1) (hN : hdN (L.drop i) = true) (hq : hdT (L.drop (i + 1)) 2 equalS = true) :
    ∃ q, Ps .sum all (L.drop (i + 1 + 1)) q ∧ (∀ r, q = .bad r → o1 = .bad r) ∧ ∀ a r, q = .ok a r → o1 = if hdT r 2 semiS = true then .ok (tkAt L i).text a (r.drop 1) else .bad r := by
  have h1 := hdN_lt hN
  have h2 := hdT_lt hq
  rw [drop_cons h1, drop_cons h2] at h
  rw [drop_cons h1] at hN
  rw [drop_cons h2] at hq
  cases h with
  | noname h0 => simp only [hdN] at hN h0; rw [hN] at h0; cases h0
  | noeq _ h0 => rw [hq] at h0; cases h0
  | sumbad _ _ h3 => exact ⟨_, h3, fun r hr => (by cases hr; rfl), fun a r hr => by cases hr⟩
  | nosemi _ _ h3 h4 => exact ⟨_, h3, fun r hr => (by cases hr), fun a r hr => by cases hr; rw [if_neg (by rw [h4]; decide)]⟩
  | ok _ _ h3 h4 => exact ⟨_, h3, fun r hr => (by cases hr), fun a r hr => by cases hr; rw [if_pos (by exact h4)]; rfl⟩
def LetsLeft (l1 : List ByteArray) (o : PO) (ls : List LetC) (all : List NodeC) (r : List Tok) : Prop := ∃ oX, Lts ls all r oX ∧ (∀ r2, oX = .bad r2 → o = .bad r2) ∧ ∀ ls all r2, oX = .ok ls all r2 → PrgTail l1 o ls all r2
theorem prog_first {L : List Tok} {o : PO} (hP : (hdT (L.drop 0) 0 inS = false → o = .bad (L.drop 0)) ∧ (hdT (L.drop 0) 0 inS = true → (∀ r1, namesZ ((L.drop 0).drop 1) = .bad r1 → o = .bad r1) ∧ ∀ ins r1, namesZ ((L.drop 0).drop 1) = .ok ins r1 → ∃ oX, Lts [] [] r1 oX ∧ (∀ r2, oX = .bad r2 → o = .bad r2) ∧ ∀ ls all r2, oX = .ok ls all r2 → PrgTail ins o ls all r2))
    {i2 : Nat} {bad2 : Bool} {l1 : List ByteArray} (hB : (false || !isR false L 0 0 inS) = true → bad2 = true ∧ i2 = adv (isR false L 0 0 inS) 0) (hG : (false || !isR false L 0 0 inS) = false → (bad2 = true → namesZ (L.drop (adv (isR false L 0 0 inS) 0)) = .bad (L.drop i2)) ∧ (bad2 = false → namesZ (L.drop (adv (isR false L 0 0 inS) 0)) = .ok l1 (L.drop i2))) :
    (bad2 = true → o = .bad (L.drop i2)) ∧ (bad2 = false → LetsLeft l1 o [] [] (L.drop i2)) := by
  cases hr : isR false L 0 0 inS with
  | true =>
    rw [hr] at hG
    obtain ⟨_, hm, _⟩ := isR_lt hr
    obtain ⟨h1, h2⟩ := hP.2 hm
    rw [List.drop_drop] at h1 h2
    obtain ⟨g1, g2⟩ := hG rfl
    exact ⟨fun e => h1 _ (g1 e), fun e => h2 _ _ (g2 e)⟩
  | false =>
    rw [hr] at hB
    have hm : hdT (L.drop 0) 0 inS = false := hr
    obtain ⟨rfl, rfl⟩ := hB rfl
    exact ⟨fun _ => hP.1 hm, fun e => by cases e⟩
theorem let_wrong {L : List Tok} {all : List NodeC} {j : Nat} {o1 : LO} (h : Lt1 all (L.drop (j + 1)) o1) (hlt : j < L.length) (hst : ¬ (nmR' false L (j + 1) = true ∧ isR false L (j + 1 + 1) 2 equalS = true)) :
    ∃ j4, (j + 1 ≤ j4 ∧ o1 = .bad (L.drop j4)) ∧ j4 ≤ L.length ∧ adv (isR (!nmR' false L (j + 1)) L (adv (nmR' false L (j + 1)) (j + 1)) 2 equalS) (adv (nmR' false L (j + 1)) (j + 1)) = j4 ∧ (!nmR' false L (j + 1) || !isR (!nmR' false L (j + 1)) L (adv (nmR' false L (j + 1)) (j + 1)) 2 equalS) = true := by
  cases hr : nmR' false L (j + 1) with
  | true =>
    have hN : hdN (L.drop (j + 1)) = true := hr
    cases hq : isR false L (j + 1 + 1) 2 equalS with
    | true => exact absurd ⟨hr, hq⟩ hst
    | false =>
      have hq' : hdT (L.drop (j + 1 + 1)) 2 equalS = false := hq
      refine ⟨j + 1 + 1, ⟨Nat.le_succ _, let_noeq h hN hq'⟩, hdN_lt hN, ?_, ?_⟩
      · show adv (isR false L (j + 1 + 1) 2 equalS) (j + 1 + 1) = _; rw [hq]; rfl
      · show (false || !isR false L (j + 1 + 1) 2 equalS) = _; rw [hq]; rfl
  | false =>
    have hN : hdN (L.drop (j + 1)) = false := hr
    exact ⟨j + 1, ⟨Nat.le_refl _, let_noname h hN⟩, hlt, rfl, rfl⟩
theorem prog_last {L : List Tok} {o : PO} {l1 : List ByteArray} {ls : List LetC} {all : List NodeC} {j : Nat} {bad : Bool} (hBd : bad = true → o = .bad (L.drop j)) (hGd : bad = false → LetsLeft l1 o ls all (L.drop j)) (hf : isR bad L j 0 letS = false)
    {i' : Nat} {bad' : Bool} {l3 : List ByteArray} (hB : (bad || !isR bad L j 0 outS) = true → bad' = true ∧ i' = adv (isR bad L j 0 outS) j) (hG : (bad || !isR bad L j 0 outS) = false → (bad' = true → namesZ (L.drop (adv (isR bad L j 0 outS) j)) = .bad (L.drop i')) ∧ (bad' = false → namesZ (L.drop (adv (isR bad L j 0 outS) j)) = .ok l3 (L.drop i'))) :
    (bad' = true → o = .bad (L.drop i')) ∧ (bad' = false → (i' < L.length → o = .bad (L.drop i')) ∧ (L.length ≤ i' → o = .ok ⟨l1, ls, l3, all⟩)) := by
  cases bad with
  | true =>
    obtain ⟨rfl, rfl⟩ := hB rfl
    exact ⟨fun _ => hBd rfl, fun e => by cases e⟩
  | false =>
    have hm : hdT (L.drop j) 0 letS = false := hf
    obtain ⟨oX, hLt, hb1, hg1⟩ := hGd rfl
    obtain ⟨hT1, hT2⟩ := hg1 _ _ _ ((lts_parts hLt).1 hm)
    cases hr : isR false L j 0 outS with
    | true =>
      rw [hr] at hG
      obtain ⟨_, hm2, _⟩ := isR_lt hr
      obtain ⟨k1, k2⟩ := hT2 hm2
      rw [List.drop_drop] at k1 k2
      obtain ⟨g1, g2⟩ := hG rfl
      refine ⟨fun e => k1 _ (g1 e), fun e => ?_⟩
      obtain ⟨q1, q2⟩ := k2 _ _ (g2 e)
      exact ⟨fun hlt => q2 (by rw [ne_eq, List.drop_eq_nil_iff]; omega), fun hge => q1 (List.drop_eq_nil_of_le hge)⟩
    | false =>
      rw [hr] at hB
      have hm2 : hdT (L.drop j) 0 outS = false := hr
      obtain ⟨rfl, rfl⟩ := hB rfl
      exact ⟨fun _ => hT1 hm2, fun e => by cases e⟩
theorem rrProgram_any (b : Nat) (vall : Value) (L : List Tok) {I : Hp} (hL : Slc I 4 vall (L.map Tok.cells)) (hn : L.length ≤ 4000) (hto : ToksOk L) {o : PO} (h : Prg L o) :
    Fun Tryz.prog 43 [.pointer (some ⟨b, 0, none⟩)] I [rrB b vall 0 N0 N0 N0 N0 false]
    (fun v I' B' => ∃ i' bad' vi vl vo va ins ls outs ns, v = .tuple #[] ∧ B' = [rrB b vall i' vi vl vo va bad', nmR vi ins, ltR vl ls, nmR vo outs, ndR va ns] ∧ i' ≤ L.length ∧ (bad' = true → o = .bad (L.drop i')) ∧ (bad' = false → o = .ok ⟨ins, ls, outs, ns.map NodeV.c⟩) ∧ (∀ o ∈ ns, o.ok I') ∧ ins.length ≤ 10000 ∧ ls.length ≤ 10000 ∧ outs.length ≤ 10000 ∧ ns.length ≤ 20000) := by
  have hP := prg_parts h
  rw [← List.drop_zero (l := L)] at hP
  have hll : (L.map Tok.cells).length = L.length := List.length_map _
  have hL4 : L.length ≤ 10000 := by omega
  intro w hw
  refine enter1 _ Tryz.func43 rfl Tryz.ntmps43 rfl ?_ hw
  refine cS (cR ?_)
  refine oV ?_
  refine oC trivial rfl Tryz.call74 rfl (rrWant_any b 0 vall N0 N0 N0 N0 false 0 inS L hL (by omega) (Nat.zero_le _)) (by repeat constructor) ?_
  rintro _ _ _ hx1 ⟨rfl, rfl, rfl⟩
  refine oN (tC (cS ?_))
  have hi1 : adv (isR false L 0 0 inS) 0 ≤ L.length := by
    unfold adv
    split
    · rename_i hh; exact (isR_lt hh).2.2
    · exact Nat.zero_le _
  refine cR ?_
  iterate 2 refine oV ?_
  refine oC trivial rfl Tryz.call75 rfl (rrNames_any b (adv (isR false L 0 0 inS) 0) vall N0 N0 N0 N0 (false || !isR false L 0 0 inS) L hL hL4 hi1) (by repeat constructor) ?_
  rintro v8 _ _ hx2 ⟨rfl, i2, bad2, l1, rfl, hi12, hi2, hl1, hcell, hB2, hG2⟩
  refine oV ?_
  refine oF 2 Tryz.underlying73 Tryz.sizeOf27 ?_
  refine oF 0 Tryz.underlying27 Tryz.sizeOf23 ?_
  refine o_storeBox1 trivial rfl rfl (hcell).1 Tryz.sizeOf23 (hcell).2 (by repeat constructor) (by exact Nat.le_of_ble_eq_true rfl) ?_
  refine oN (tC (cS (cB ?_)))
  refine c_loop (ι := Nat × Bool × List LetC × List NodeV × Value × Value × Hp) [0] (.cons rfl .nil) (fun x => L.length - x.1) (fun x E0 => E0) (fun x => St w (keysOf [rrB b vall 0 N0 N0 N0 N0 false]) x.2.2.2.2.2.2 [rrB b vall x.1 v8 x.2.2.2.2.1 N0 x.2.2.2.2.2.1 x.2.1, nmR v8 l1, ltR x.2.2.2.2.1 x.2.2.1, ndR x.2.2.2.2.2.1 x.2.2.2.1]) (fun x => x.1 ≤ L.length ∧ x.2.2.1.length ≤ x.1 + 1 ∧ x.2.2.2.1.length ≤ x.1 + 1 ∧ (∀ o ∈ x.2.2.2.1, o.ok x.2.2.2.2.2.2) ∧ (x.2.1 = true → o = .bad (L.drop x.1)) ∧ (x.2.1 = false → LetsLeft l1 o x.2.2.1 (x.2.2.2.1.map NodeV.c) (L.drop x.1) ∧ x.2.2.2.1.length ≤ x.1) ∧ Ext w.heap.size I x.2.2.2.2.2.2) ((i2, bad2, [], [], N0, N0, I)) (sC rfl sN) (fun _ h => ((h.nilRow 46 2).nilRow 44 8).sort (by repeat constructor)) (⟨hi2, Nat.zero_le _, Nat.zero_le _, fun o ho => (by cases ho), (prog_first hP hB2 hG2).1, fun e => ⟨(prog_first hP hB2 hG2).2 e, Nat.zero_le _⟩, Ext.refl _ _⟩) ?_
  rintro ⟨j, bad, ls, n0, ul, ua, I1⟩ ⟨hj, hls0, hn0, hok0, hBd, hGd, hx3⟩
  try dsimp only
  simp only at hj hls0 hn0 hok0 hBd hGd hx3
  refine cS (cS (cR ?_))
  refine oV ?_
  refine oC trivial rfl Tryz.call76 rfl (rrIs_any b j vall v8 ul N0 ua bad 0 letS L (hL.le hx3.le) (by omega) hj) (by repeat constructor) ?_
  rintro _ _ _ hx4 ⟨rfl, rfl, rfl⟩
  refine oN (tC ?_)
  refine cC rfl (fun h1 => ?_) (fun h1 => ?_)
  ·
   have f1 := h1
   try simp only [bl] at f1
   have hf : isR bad L j 0 letS = true := h1
   obtain ⟨rfl, hm, hlt⟩ := isR_lt hf
   obtain ⟨⟨oX, hLt, hbadL, hokL⟩, hn0'⟩ := hGd rfl
   obtain ⟨o1, hL1, hb1, hg1⟩ := (lts_parts hLt).2 hm
   rw [List.drop_drop] at hL1
   refine cK (tC (cB (cS (cR ?_))))
   iterate 3 refine oV ?_
   refine oF 1 Tryz.underlying73 Tryz.sizeOf3 ?_
   refine oL Tryz.isAgg3 ?_
   first | (refine o_add trivial rfl rfl rfl ?_ ?_; (omega)) | refine oV ?_
   refine oV ?_
   refine oF 1 Tryz.underlying73 Tryz.sizeOf3 ?_
   refine oS Tryz.sizeOf3 ?_
   refine oN (tC (cS (cR ?_)))
   refine oV ?_
   refine oC trivial rfl Tryz.call77 rfl (rrName_any b (j + 1) vall v8 ul N0 ua false L (hL.le hx3.le) (by omega) hlt) (by repeat constructor) ?_
   rintro _ _ _ hx5 ⟨rfl, rfl, rfl⟩
   refine oV ?_
   refine oN (tC (cS ?_))
   have hi4 : adv (nmR' false L (j + 1)) (j + 1) ≤ L.length := by
     unfold adv
     split
     · rename_i hh; exact hdN_lt hh
     · exact hlt
   refine cR ?_
   refine oV ?_
   refine oC trivial rfl Tryz.call74 rfl (rrWant_any b (adv (nmR' false L (j + 1)) (j + 1)) vall v8 ul N0 ua (!nmR' false L (j + 1)) 2 equalS L (hL.le hx3.le) (by omega) hi4) (by repeat constructor) ?_
   rintro _ _ _ hx6 ⟨rfl, rfl, rfl⟩
   refine oN (tC (cS ?_))
   by_cases hst : nmR' false L (j + 1) = true ∧ isR false L (j + 1 + 1) 2 equalS = true
   ·
    have hN : hdN (L.drop (j + 1)) = true := hst.1
    obtain ⟨_, hq, hltq⟩ := isR_lt hst.2
    obtain ⟨qs, hqs, hqb, hqg⟩ := let_parts hL1 hN hq
    have ea : adv (nmR' false L (j + 1)) (j + 1) = j + 1 + 1 := by rw [hst.1]; rfl
    have eb : adv (isR (!nmR' false L (j + 1)) L (j + 1 + 1) 2 equalS) (j + 1 + 1) = j + 1 + 1 + 1 := by rw [hst.1]; show adv (isR false L (j + 1 + 1) 2 equalS) (j + 1 + 1) = _; rw [hst.2]; rfl
    have ec : (!nmR' false L (j + 1) || !isR (!nmR' false L (j + 1)) L (j + 1 + 1) 2 equalS) = false := by rw [hst.1]; show (false || !isR false L (j + 1 + 1) 2 equalS) = false; rw [hst.2]; rfl
    rw [ea, eb, ec]
    refine cR ?_
    refine oV ?_
    refine oC trivial rfl Tryz.call78 rfl ((forms hL4 hto (L.length - (j + 1 + 1 + 1))).2 (j + 1 + 1 + 1) v8 ul N0 ua n0 qs (hL.le hx3.le) (by omega) (Nat.le_refl _) hok0 (by omega) hqs) (by repeat constructor) ?_
    rintro _ I3 _ hx7 ⟨i4, va4, bad4, ns4, m4, rfl, rfl, hro⟩
    refine oV ?_
    refine oN (tC (cS (cR ?_)))
    refine oV ?_
    refine oC trivial rfl Tryz.call74 rfl (rrWant_any b i4 vall v8 ul N0 va4 bad4 2 semiS L (hL.le (hx3.le.trans hx7.le)) (by omega) hro.le) (by repeat constructor) ?_
    rintro _ _ _ hx8 ⟨rfl, rfl, rfl⟩
    refine oN (tC (cR ?_))
    iterate 3 refine oV ?_
    refine oF 2 Tryz.underlying73 Tryz.sizeOf27 ?_
    refine oF 1 Tryz.underlying27 Tryz.sizeOf24 ?_
    refine oL Tryz.isAgg24 ?_
    iterate 2 refine oV ?_
    refine o_buildS trivial rfl (bld46) rfl (.cons rfl rfl rfl (by repeat constructor) (.cons rfl rfl rfl (by repeat constructor) .nil)) ?_
    refine o_buildSl trivial rfl Tryz.underlying24 Tryz.sizeOf46 Tryz.zeroValue46 (by decide) (by decide) rfl (by repeat first | exact rfl | constructor) rfl (fun b39 => ?_)
    refine o_appendBox trivial rfl Tryz.underlying24 (elem46) (by decide) rfl rfl (fun v' => (by repeat constructor)) (by repeat constructor) rfl (by first | rfl | decide) (by first | omega | (unfold maxLen; omega)) (by omega) (fun v40 => ?_)
    refine oV ?_
    refine oF 2 Tryz.underlying73 Tryz.sizeOf27 ?_
    refine oF 1 Tryz.underlying27 Tryz.sizeOf24 ?_
    refine l_rowCells (u := v40) (by repeat constructor) (fun hcv => ?_)
    refine o_storeBox1 trivial rfl rfl (hcv).1 Tryz.sizeOf24 (hcv).2 (by repeat constructor) (by exact Nat.le_of_ble_eq_true rfl) ?_
    refine oN (blk_n ?_)
    exact again (adv (isR bad4 L i4 2 semiS) i4, bad4 || !isR bad4 L i4 2 semiS, ls ++ [⟨if nmR' false L (j + 1) then (tkAt L (j + 1)).text else ⟨#[]⟩, m4⟩], ns4, v40, va4, I3) (sC rfl sN) (fun _ h => by unfold ltR; rw [lts_more, List.length_append]; exact h.sort (by repeat constructor)) (by show L.length - adv (isR bad4 L i4 2 semiS) i4 < L.length - j; have := hro.ge; unfold adv; split <;> omega) (by
      have g1 := hro.ge
      have g2 := hro.le
      have g3 := hro.few
      have hll2 : (ls ++ [(⟨if nmR' false L (j + 1) then (tkAt L (j + 1)).text else ⟨#[]⟩, m4⟩ : LetC)]).length = ls.length + 1 := by simp
      cases bad4 with
      | true => exact ⟨g2, by simp only; rw [hll2]; show ls.length + 1 ≤ i4 + 1; omega, by show ns4.length ≤ i4 + 1; omega, hro.ok, fun _ => hbadL _ (hb1 _ (hqb _ (hro.bad rfl))), fun e => (by cases e), hx3.trans hx7 (Nat.le_refl _)⟩
      | false =>
        obtain ⟨e1, e2, e3⟩ := hro.good rfl
        have ho1 := hqg _ _ e1
        cases hr : isR false L i4 2 semiS with
        | true =>
          obtain ⟨_, hm2, hlt2⟩ := isR_lt hr
          rw [if_pos hm2, List.drop_drop] at ho1
          refine ⟨hlt2, by simp only; rw [hll2]; show ls.length + 1 ≤ i4 + 1 + 1; omega, by show ns4.length ≤ i4 + 1 + 1; omega, hro.ok, fun e => (by cases e), fun _ => ⟨⟨oX, ?_, hbadL, hokL⟩, by show ns4.length ≤ i4 + 1; omega⟩, hx3.trans hx7 (Nat.le_refl _)⟩
          have := hg1 _ _ _ ho1
          rw [if_pos hst.1, e2, lastN_eq]
          exact this
        | false =>
          have hm2 : hdT (L.drop i4) 2 semiS = false := hr
          rw [if_neg (by rw [hm2]; decide)] at ho1
          exact ⟨g2, by simp only; rw [hll2]; show ls.length + 1 ≤ i4 + 1; omega, by show ns4.length ≤ i4 + 1; omega, hro.ok, fun _ => hbadL _ (hb1 _ ho1), fun e => (by cases e), hx3.trans hx7 (Nat.le_refl _)⟩)
   obtain ⟨j4, hj4l, hj4, ed, hbad4⟩ := let_wrong hL1 hlt hst
   rw [ed, hbad4]
   refine cR ?_
   refine oV ?_
   refine oC trivial rfl Tryz.call78 rfl (sum_wr hL4 j4 v8 ul N0 ua n0 (hL.le hx3.le) hj4 (by omega)) (by repeat constructor) ?_
   rintro _ _ _ hx7 ⟨rfl, rfl, va4, rfl⟩
   refine oV ?_
   refine oN (tC (cS (cR ?_)))
   refine oV ?_
   refine oC trivial rfl Tryz.call74 rfl (rrWant_any b j4 vall v8 ul N0 va4 true 2 semiS L (hL.le hx3.le) (by omega) hj4) (by repeat constructor) ?_
   rintro _ _ _ hx8 ⟨rfl, rfl, rfl⟩
   refine oN (tC (cR ?_))
   iterate 3 refine oV ?_
   refine oF 2 Tryz.underlying73 Tryz.sizeOf27 ?_
   refine oF 1 Tryz.underlying27 Tryz.sizeOf24 ?_
   refine oL Tryz.isAgg24 ?_
   iterate 2 refine oV ?_
   refine o_buildS trivial rfl (bld46) rfl (.cons rfl rfl rfl (by repeat constructor) (.cons rfl rfl rfl (by repeat constructor) .nil)) ?_
   refine o_buildSl trivial rfl Tryz.underlying24 Tryz.sizeOf46 Tryz.zeroValue46 (by decide) (by decide) rfl (by repeat first | exact rfl | constructor) rfl (fun b39 => ?_)
   refine o_appendBox trivial rfl Tryz.underlying24 (elem46) (by decide) rfl rfl (fun v' => (by repeat constructor)) (by repeat constructor) rfl (by first | rfl | decide) (by first | omega | (unfold maxLen; omega)) (by omega) (fun v40 => ?_)
   refine oV ?_
   refine oF 2 Tryz.underlying73 Tryz.sizeOf27 ?_
   refine oF 1 Tryz.underlying27 Tryz.sizeOf24 ?_
   refine l_rowCells (u := v40) (by repeat constructor) (fun hcv => ?_)
   refine o_storeBox1 trivial rfl rfl (hcv).1 Tryz.sizeOf24 (hcv).2 (by repeat constructor) (by exact Nat.le_of_ble_eq_true rfl) ?_
   refine oN (blk_n ?_)
   exact again (j4, true, ls ++ [⟨_, _⟩], n0 ++ [noN], v40, va4, I1) (sC rfl sN) (fun _ h => by unfold ltR; rw [lts_more, List.length_append]; exact h.sort (by repeat constructor)) (by show L.length - j4 < L.length - j; omega) ⟨hj4, by rw [List.length_append]; show ls.length + 1 ≤ j4 + 1; omega, by rw [List.length_append]; show n0.length + 1 ≤ j4 + 1; omega, ok_more hok0 ⟨Ws.nil _, Ws.nil _⟩, fun _ => hbadL _ (hb1 _ hj4l.2), fun e => (by cases e), hx3⟩
  have f1 := h1
  try simp only [bl] at f1
  have hf : isR bad L j 0 letS = false := h1
  refine c_exit (then_x (then_x (blk_eq rfl (tC (cS (cR ?_))))))
  refine oV ?_
  refine oC trivial rfl Tryz.call74 rfl (rrWant_any b j vall v8 ul N0 ua bad 0 outS L (hL.le hx3.le) (by omega) hj) (by repeat constructor) ?_
  rintro _ _ _ hx5 ⟨rfl, rfl, rfl⟩
  refine oN (tC (cS ?_))
  have hi5 : adv (isR bad L j 0 outS) j ≤ L.length := by
    unfold adv
    split
    · rename_i hh; exact (isR_lt hh).2.2
    · exact hj
  refine cR ?_
  iterate 2 refine oV ?_
  refine oC trivial rfl Tryz.call75 rfl (rrNames_any b (adv (isR bad L j 0 outS) j) vall v8 ul N0 ua (bad || !isR bad L j 0 outS) L (hL.le hx3.le) hL4 hi5) (by repeat constructor) ?_
  rintro v48 _ _ hx6 ⟨rfl, i6, bad6, l3, rfl, hi56, hi6, hl3, hcell3, hB3, hG3⟩
  refine oV ?_
  refine oF 2 Tryz.underlying73 Tryz.sizeOf27 ?_
  refine oF 2 Tryz.underlying27 Tryz.sizeOf23 ?_
  refine o_storeBox1 trivial rfl rfl (hcell3).1 Tryz.sizeOf23 (hcell3).2 (by repeat constructor) (by exact Nat.le_of_ble_eq_true rfl) ?_
  refine oN (tC (cS ?_))
  have hlast := prog_last hBd (fun e => (hGd e).1) hf hB3 hG3
  refine c_quiet (by kernel_rfl) (by kernel_rfl) (fun _ h => h.drawn) ?_
  iterate 2 refine oV ?_
  refine oF 1 Tryz.underlying73 Tryz.sizeOf3 ?_
  refine oL Tryz.isAgg3 ?_
  iterate 2 refine oV ?_
  refine oF 0 Tryz.underlying73 Tryz.sizeOf60 ?_
  refine oL Tryz.isAgg60 ?_
  refine o_lenSlc trivial rfl Tryz.underlying60 rfl (hL.le hx3.le) ?_
  refine oV ?_
  refine oN (tC ?_)
  refine cC rfl (fun h2 => ?_) (fun h2 => ?_)
  ·
   have f2 := h2
   try simp only [bl] at f2
   refine cR ?_
   iterate 2 refine oV ?_
   refine oF 6 Tryz.underlying73 Tryz.sizeOf4 ?_
   refine oS Tryz.sizeOf4 ?_
   refine oN ?_
   refine ret0 rfl ?_
   first
   | (refine fun w' hw' => ⟨I1, [rrB b vall i6 v8 ul v48 ua true, nmR v8 l1, ltR ul ls, nmR v48 l3, ndR ua n0], hw'.sort (by repeat constructor), hx3, i6, true, v8, ul, v48, ua, l1, ls, l3, n0, rfl, rfl, hi6, fun _ => ?_, fun e => (by cases e), hok0, by omega, by omega, by omega, by omega⟩
      cases bad6 with
      | true => exact hlast.1 rfl
      | false => exact (hlast.2 rfl).1 (by omega))
   | (refine fun w' hw' => ⟨I1, [rrB b vall i6 v8 ul v48 ua bad6, nmR v8 l1, ltR ul ls, nmR v48 l3, ndR ua n0], hw'.sort (by repeat constructor), hx3, i6, bad6, v8, ul, v48, ua, l1, ls, l3, n0, rfl, rfl, hi6, hlast.1, fun e => (hlast.2 e).2 (by omega), hok0, by omega, by omega, by omega, by omega⟩)
  have f2 := h2
  try simp only [bl] at f2
  refine cK ?_
  refine ret0 rfl ?_
  first
  | (refine fun w' hw' => ⟨I1, [rrB b vall i6 v8 ul v48 ua true, nmR v8 l1, ltR ul ls, nmR v48 l3, ndR ua n0], hw'.sort (by repeat constructor), hx3, i6, true, v8, ul, v48, ua, l1, ls, l3, n0, rfl, rfl, hi6, fun _ => ?_, fun e => (by cases e), hok0, by omega, by omega, by omega, by omega⟩
     cases bad6 with
     | true => exact hlast.1 rfl
     | false => exact (hlast.2 rfl).1 (by omega))
  | (refine fun w' hw' => ⟨I1, [rrB b vall i6 v8 ul v48 ua bad6, nmR v8 l1, ltR ul ls, nmR v48 l3, ndR ua n0], hw'.sort (by repeat constructor), hx3, i6, bad6, v8, ul, v48, ua, l1, ls, l3, n0, rfl, rfl, hi6, hlast.1, fun e => (hlast.2 e).2 (by omega), hok0, by omega, by omega, by omega, by omega⟩)
def LowN (l : List NodeC) : Prop := ∀ (i : Nat) (c : NodeC), l[i]? = some c → 1 < c.kind → 0 ≤ c.a ∧ c.a < i ∧ (c.kind ≤ 5 → 0 ≤ c.b ∧ c.b < i)
theorem nd_low : ∀ (x : Ex) (b j : Nat) (c : NodeC), x.ok → (x.nd b)[j]? = some c → 1 < c.kind → (b : Int) ≤ c.a ∧ c.a < (b + j : Nat) ∧ (c.kind ≤ 5 → (b : Int) ≤ c.b ∧ c.b < (b + j : Nat)) := by
  intro x
  have last : ∀ {u : List NodeC} {c0 c : NodeC} {j : Nat}, (u ++ [c0])[j]? = some c → ¬ j < u.length → j = u.length ∧ c = c0 := by
    intro u c0 c j h hj
    rw [List.getElem?_append_right (by omega)] at h
    have := (List.getElem?_eq_some_iff.1 h)
    obtain ⟨h1, h2⟩ := this
    simp at h1 h2
    exact ⟨by omega, h2.symm⟩
  induction x with
  | ref t =>
    intro b j c _ h hk
    have : c = refN t := by
      obtain ⟨h1, h2⟩ := List.getElem?_eq_some_iff.1 h
      simp [Ex.nd] at h2; exact h2.symm
    subst this
    exact absurd hk (by simp [refN])
  | num q =>
    intro b j c _ h hk
    have : c = numN q := by
      obtain ⟨h1, h2⟩ := List.getElem?_eq_some_iff.1 h
      simp [Ex.nd] at h2; exact h2.symm
    subst this
    exact absurd hk (by simp [numN])
  | neg x ih =>
    intro b j c hok h hk
    have hp := x.n_pos
    have hl := x.nd_len b
    by_cases hj : j < (x.nd b).length
    · simp only [Ex.nd] at h
      rw [List.getElem?_append_left hj] at h
      exact ih b j c hok h hk
    · obtain ⟨e1, e2⟩ := last h hj
      subst e2
      refine ⟨?_, ?_, ?_⟩
      · show (b : Int) ≤ (b : Int) + x.n - 1; omega
      · show (b : Int) + x.n - 1 < _; omega
      · intro h5; exact absurd h5 (by show ¬ (6 : Int) ≤ 5; decide)
  | pow x e ih =>
    intro b j c hok h hk
    have hp := x.n_pos
    have hl := x.nd_len b
    by_cases hj : j < (x.nd b).length
    · simp only [Ex.nd] at h
      rw [List.getElem?_append_left hj] at h
      exact ih b j c hok.1 h hk
    · obtain ⟨e1, e2⟩ := last h hj
      subst e2
      refine ⟨?_, ?_, ?_⟩
      · show (b : Int) ≤ (b : Int) + x.n - 1; omega
      · show (b : Int) + x.n - 1 < _; omega
      · intro h5; exact absurd h5 (by show ¬ (7 : Int) ≤ 5; decide)
  | bin k x y ih1 ih2 =>
    intro b j c hok h hk
    have hp := x.n_pos
    have hp2 := y.n_pos
    have hl := x.nd_len b
    have hl2 := y.nd_len (b + x.n)
    by_cases hj : j < (x.nd b ++ y.nd (b + x.n)).length
    · simp only [Ex.nd] at h
      rw [List.getElem?_append_left hj] at h
      by_cases hx : j < (x.nd b).length
      · rw [List.getElem?_append_left hx] at h
        exact ih1 b j c hok.2.2.1 h hk
      · rw [List.getElem?_append_right (by omega)] at h
        have := ih2 (b + x.n) _ c hok.2.2.2 h hk
        refine ⟨by omega, by omega, fun h5 => ?_⟩
        have := this.2.2 h5
        omega
    · obtain ⟨e1, e2⟩ := last h hj
      rw [List.length_append] at e1
      subst e2
      refine ⟨?_, ?_, fun _ => ⟨?_, ?_⟩⟩
      · show (b : Int) ≤ (b : Int) + x.n - 1; omega
      · show (b : Int) + x.n - 1 < _; omega
      · show (b : Int) ≤ (b : Int) + x.n + y.n - 1; omega
      · show (b : Int) + x.n + y.n - 1 < _; omega
theorem laid_low : ∀ (l : List (ByteArray × Ex)) (b j : Nat) (c : NodeC), LetsOk l → (laid l b).2[j]? = some c → 1 < c.kind → (b : Int) ≤ c.a ∧ c.a < (b + j : Nat) ∧ (c.kind ≤ 5 → (b : Int) ≤ c.b ∧ c.b < (b + j : Nat))
  | [], _, _, _, _, h, _ => by cases h
  | (s, x) :: l, b, j, c, hok, h, hk => by
    simp only [laid] at h
    have hl := x.nd_len b
    by_cases hx : j < (x.nd b).length
    · rw [List.getElem?_append_left hx] at h
      exact nd_low x b j c (hok (s, x) (by simp)).2 h hk
    · rw [List.getElem?_append_right (by omega)] at h
      have := laid_low l (b + x.n) _ c (fun a ha => hok a (by simp [ha])) h hk
      refine ⟨by omega, by omega, fun h5 => ?_⟩
      have := this.2.2 h5
      omega
theorem shaped_low {p : ProgC} {l : List (ByteArray × Ex)} (h : Shaped p l) : LowN p.all := fun i c hc hk => by
  rw [h.all] at hc
  have := laid_low l 0 i c h.ok hc hk
  refine ⟨by omega, by omega, fun h5 => ?_⟩
  have := this.2.2 h5
  omega
theorem tall_fuel {l : List NodeC} (h : LowN l) : ∀ (i f g : Nat), i < f → i < g → tallZ l f i = tallZ l g i := by
  intro i
  induction i using Nat.strongRecOn with
  | ind i ih =>
    intro f g hf hg
    obtain ⟨f, rfl⟩ : ∃ k, f = k + 1 := ⟨f - 1, by omega⟩
    obtain ⟨g, rfl⟩ : ∃ k, g = k + 1 := ⟨g - 1, by omega⟩
    unfold tallZ
    rw [Int.toNat_natCast]
    cases hc : l[i]? with
    | none => rfl
    | some c =>
      dsimp only
      by_cases h1 : c.kind ≤ 1
      · rw [if_pos h1, if_pos h1]
      · obtain ⟨a1, a2, a3⟩ := h i c hc (by omega)
        have ea : c.a = (c.a.toNat : Int) := by omega
        rw [if_neg h1, if_neg h1]
        by_cases h5 : c.kind ≤ 5
        · obtain ⟨b1, b2⟩ := a3 h5
          have eb : c.b = (c.b.toNat : Int) := by omega
          rw [if_pos h5, if_pos h5, ea, eb, ih c.a.toNat (by omega) f g (by omega) (by omega), ih c.b.toNat (by omega) f g (by omega) (by omega)]
        · rw [if_neg h5, if_neg h5, ea, ih c.a.toNat (by omega) f g (by omega) (by omega)]
theorem tall_le {l : List NodeC} (h : LowN l) : ∀ (i f : Nat), i < f → tallZ l f i ≤ i + 1 := by
  intro i
  induction i using Nat.strongRecOn with
  | ind i ih =>
    intro f hf
    obtain ⟨f, rfl⟩ : ∃ k, f = k + 1 := ⟨f - 1, by omega⟩
    unfold tallZ
    rw [Int.toNat_natCast]
    cases hc : l[i]? with
    | none => exact Nat.zero_le _
    | some c =>
      dsimp only
      by_cases h1 : c.kind ≤ 1
      · rw [if_pos h1]; omega
      · obtain ⟨a1, a2, a3⟩ := h i c hc (by omega)
        have ea : c.a = (c.a.toNat : Int) := by omega
        have := ih c.a.toNat (by omega) f (by omega)
        rw [if_neg h1]
        by_cases h5 : c.kind ≤ 5
        · obtain ⟨b1, b2⟩ := a3 h5
          have eb : c.b = (c.b.toNat : Int) := by omega
          have := ih c.b.toNat (by omega) f (by omega)
          rw [if_pos h5, ea, eb]
          omega
        · rw [if_neg h5, ea]; omega
def heightsZ (l : List NodeC) : List Nat := (List.range l.length).map fun (i : Nat) => tallZ l l.length (i : Int)
theorem heightsZ_len (l : List NodeC) : (heightsZ l).length = l.length := by simp [heightsZ]
theorem tall_laid (all : List NodeC) : ∀ (l : List (ByteArray × Ex)) (b f : Nat), LetsOk l → (∀ j c, (laid l b).2[j]? = some c → all[b + j]? = some c) → b + (laid l b).2.length ≤ f → ∀ j, j < (laid l b).2.length → some (tallZ all f ((b + j : Nat) : Int)) = (hsAll l)[j]?
  | [], b, f, _, _, _, j, hj => by cases hj
  | (s, x) :: l, b, f, hok, h, hf, j, hj => by
    have hx := (hok (s, x) (by simp)).2
    have hl := x.nd_len b
    simp only [laid] at h hf hj
    rw [List.length_append, hl] at hf hj
    have hA : At all b x := At.left h (u := x.nd b) rfl
    have hR := At.right h (u := x.nd b) rfl
    rw [hl] at hR
    have e : hsAll ((s, x) :: l) = x.hs ++ hsAll l := by simp [hsAll]
    rw [e]
    by_cases hjx : j < x.n
    · rw [List.getElem?_append_left (by rw [x.hs_len]; exact hjx)]
      exact tall_all x hx hA (by omega) j hjx
    · rw [List.getElem?_append_right (by rw [x.hs_len]; omega), x.hs_len]
      have := tall_laid all l (b + x.n) f (fun a ha => hok a (by simp [ha])) hR (by omega) (j - x.n) (by omega)
      rw [← this, show b + x.n + (j - x.n) = b + j by omega]
theorem heights_laid {p : ProgC} {l : List (ByteArray × Ex)} (h : Shaped p l) : heightsZ p.all = hsAll l := by
  have hlen : p.all.length = (hsAll l).length := by rw [h.all, laid_len]
  apply List.ext_getElem?
  intro j
  by_cases hj : j < p.all.length
  · have := tall_laid p.all l 0 p.all.length h.ok (fun j c hc => by rw [h.all, Nat.zero_add]; exact hc) (by rw [h.all]; omega) j (by rw [← h.all]; exact hj)
    rw [Nat.zero_add] at this
    rw [← this]
    simp [heightsZ, hj]
  · rw [List.getElem?_eq_none (by rw [heightsZ_len]; omega), List.getElem?_eq_none (by omega)]
def longZ (p : ProgC) : Bool := decide (400 < p.all.length) || decide (40 < p.ins.length) || decide (40 < p.lets.length) || decide (40 < p.outs.length) || (heightsZ p.all).any fun h => decide (60 < h)
theorem long_right {p : ProgC} {l : List (ByteArray × Ex)} (h : Shaped p l) (hi : NamesOk p.ins ∧ 1 ≤ p.ins.length) (ho : NamesOk p.outs ∧ 1 ≤ p.outs.length) : (tZ p).isSome = !longZ p := by
  have hlets : p.lets.length = l.length := by rw [h.lets, laid_lets]
  rw [Bool.eq_iff_iff, tZ_iff, Bool.not_eq_true']
  unfold longZ
  simp only [Bool.or_eq_false_iff, decide_eq_false_iff_not, List.any_eq_false, decide_eq_true_eq]
  constructor
  · rintro ⟨l', hr⟩
    have hl' : p.lets.length = l'.length := by rw [hr.lets, laid_lets]
    refine ⟨⟨⟨⟨by have := hr.few.2; omega, by have := hr.ins.2.2; omega⟩, by have := hr.few.1; omega⟩, by have := hr.outs.2.2; omega⟩, fun k hk => ?_⟩
    rw [heights_laid hr.toShaped] at hk
    have := hsAll_mem.2 hr.low k hk
    omega
  · rintro ⟨⟨⟨⟨c1, c2⟩, c3⟩, c4⟩, c5⟩
    refine ⟨l, ⟨h, ⟨hi.1, hi.2, by omega⟩, ⟨ho.1, ho.2, by omega⟩, ⟨by omega, by omega⟩, ?_⟩⟩
    refine hsAll_mem.1 fun k hk => ?_
    rw [← heights_laid h] at hk
    have := c5 k hk
    omega
end Go.Proofs.YtmgpifkekofacaaGreatDoor
