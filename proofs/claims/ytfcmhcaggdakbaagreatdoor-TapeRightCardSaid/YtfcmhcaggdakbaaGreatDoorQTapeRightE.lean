/-
  TapeRight, part 5: the texts Ref1, Ref2, Ref3, Ref4, Ref5, Ref7, Ref8, RefP, RefR, RefL, RefL2, RefL3, RefL4, RefL5, RefL6, Tree9, RefH, Ref8b, RefB, RefW, RefH2, Law11, RefW2, Scope, Scope2, Scope3, Ref13, Scope4, Ref13b, Law13, Law09, Ren, More, LowerP, Ref14, Ref14b, Ref15, Bound, Law15, Made14, Made14b, Lower, SameG, LowerR, TapeS, ShowW, Show4, RefX, ShowR, Needs, Tree11, Law12 as one.
-/
import Derived.Test.YtfcmhcaggdakbaaGreatDoorQTapeRightD
import Derived.Lib.AppendIntMem
set_option linter.unusedVariables false
set_option linter.unusedSimpArgs false
set_option linter.unnecessarySimpa false
set_option maxHeartbeats 1000000
namespace Go.Tw
open Go Go.RowKit
theorem wl_more {z : Int} {x : Nat} (O : List Nat) (h : z = x) : wl O ++ [.int .u32 z] = wl (O ++ [x]) := by subst h; simp [wl]
theorem take_more {A : List Nat} {i : Nat} (h : i < A.length) : A.take (i + 1) = A.take i ++ [dg A i] := by
  rw [List.take_add_one, dg_some h]; rfl
theorem eq_of_dg {A B : List Nat} (hl : A.length = B.length) (h : ∀ j, j < A.length → dg A j = dg B j) : A = B := by
  refine List.ext_getElem hl fun i h1 h2 => ?_
  have := h i h1
  rwa [dg_in h1, dg_in h2] at this
theorem cmp_lt {A B : List Nat} (hA : Wds A) (hB : Wds B) {i : Nat} (h : dg A i < dg B i) (he : ∀ t, i < t → dg A t = dg B t) : val A < val B := by
  have key : ∀ k, pre A (i + 1 + k) < pre B (i + 1 + k) := by
    intro k
    induction k with
    | zero =>
      have h1 := pre_lt hA i
      show pre A i + dg A i * 4294967296 ^ i < pre B i + dg B i * 4294967296 ^ i
      have h2 : (dg A i + 1) * 4294967296 ^ i ≤ dg B i * 4294967296 ^ i := Nat.mul_le_mul_right _ h
      rw [Nat.add_mul, Nat.one_mul] at h2
      omega
    | succ k ih =>
      show pre A (i + 1 + k) + dg A (i + 1 + k) * 4294967296 ^ (i + 1 + k) < pre B (i + 1 + k) + dg B (i + 1 + k) * 4294967296 ^ (i + 1 + k)
      rw [he (i + 1 + k) (by omega)]
      omega
  have h1 := key (A.length + B.length)
  rwa [pre_out (by omega), pre_out (by omega)] at h1
theorem val_same {A B : List Nat} (he : ∀ t, dg A t = dg B t) : val A = val B := by
  have h1 : pre A (A.length + B.length) = pre B (A.length + B.length) := pre_same fun j _ => he j
  rwa [pre_out (by omega), pre_out (by omega)] at h1
theorem val_more (O : List Nat) (x : Nat) : val (O ++ [x]) = val O + 4294967296 ^ O.length * x := by
  rw [val_app, val_cons, val_nil, Nat.mul_zero, Nat.add_zero]
theorem Wds.more {O : List Nat} (h : Wds O) {x : Nat} (hx : x < 4294967296) : Wds (O ++ [x]) := h.app (Wds_cons hx Wds_nil)
section
variable {P : Program} {Q : Exit → Act → World → Prop} {n : Nat} {D : List Deferred} {E : Env} {ops : Array Oper} {w0 : World} {I : Hp} {B B' : List Item}
theorem leafWX {w : World} {e : TypeId} {u v : Value} {O : List Nat} {I I1 : Hp} {B : List Item} {R : Value → Hp → List Item → Prop} (he : Ext w.heap.size I I1) (hw : Wds O) (hm : O.length ≤ maxLen) (h : ∀ I', I1.Le I' → Ws I' u O → R v I' []) :
    ∀ w', St w [] I1 (.row u e 1 O.length (wl O) :: B) w' → Post w [] I R v w' := by
  rw [← wcs_flat]
  exact leafRowX he (wcs_len O) (wcs_one O) hm fun I' hl hs => h I' hl ⟨hs, hw⟩
theorem c_sealO {c : Code} {e : TypeId} {u : Value} (O : List Nat) (ht : Take (.row u e 1 O.length (wl O)) B B') (hw : Wds O) (hm : O.length ≤ maxLen)
    (k : ∀ I', Ext w0.heap.size I I' → Ws I' u O → TC P c Q n D E (St w0 [] I' B')) : TC P c Q n D E (St w0 [] I B) :=
  c_sealR (xss := wcs O) (by rw [wcs_flat]; exact ht) (wcs_len O) (wcs_one O) hm fun I' hx hs => k I' hx ⟨hs, hw⟩
end
end Go.Tw
namespace Go.Proofs.YtfcmhcaggdakbaaGreatDoor
open Go Go.Tw
theorem rLow_any (va : Value) (A : List Nat) {I : Hp} (ha : Ws I va A) (hs : A.length ≤ 35184372088600) : Fun Tryz.prog 147 [va] I [] (fun v _ _ => v = .int .i64 (lowL A : Nat)) := by
  intro w hw
  refine enter1 _ Tryz.func147 rfl Tryz.ntmps147 rfl ?_ hw;refine sR ?_;refine oV ?_;refine nS ?_;refine oV ?_;refine nU ?_;refine oV ?_;refine oN (tC (cB ?_));refine c_loop (ι := Nat) [0] (.cons rfl .nil) (fun i => A.length - i) (fun i E0 => (3, .int .i64 (low A i : Nat)) :: (4, .int .i64 (i : Nat)) :: E0) (fun i => St w [] I []) (fun i => i ≤ A.length) (0) (sC rfl (sC rfl (sC rfl sN))) (fun _ h => h) (Nat.zero_le _) ?_;rintro i hi
  try dsimp only
  refine cS (sR ?_);iterate 2 refine oV ?_
  refine o_lenW trivial rfl Tryz.underlying33 rfl (ha) ?_;refine oV ?_;refine nT ?_;refine cC rfl (fun h1 => ?_) (fun h1 => ?_)
  ·
   have f1 := h1;try simp only [bl] at f1
   refine cK (tC (cS (cB (sR ?_))));iterate 2 refine oV ?_
   refine o_elemW trivial rfl Tryz.underlying33 Tryz.sizeOf134 rfl (ha) rfl (by omega) ?_;refine o_load1I trivial rfl Tryz.isAgg134 rfl (ha.cellI (k := i) rfl (by omega)) ?_;refine oV ?_;refine nT ?_;refine cC rfl (fun h2 => ?_) (fun h2 => ?_)
   ·
    have f2 := h2;try simp only [bl] at f2
    have hlow : low A (i + 1) = i + 1 := by show (if dg A i = 0 then low A i else i + 1) = i + 1; rw [if_neg (by omega)]
    refine cR ?_;refine oV ?_
    (refine o_add trivial rfl rfl rfl ?_ ?_; (omega))
    refine oV ?_;refine oN (blk_n (tC (cR ?_)));refine oV ?_
    (refine o_add trivial rfl rfl rfl ?_ ?_; (omega))
    refine oV ?_;refine oN ?_;exact again (i + 1) (by rw [hlow]; exact (sC rfl (sC rfl (sC rfl sN)))) (fun _ h => h) (by show A.length - (i + 1) < A.length - i; omega) (by show i + 1 ≤ _; omega)
   have f2 := h2;try simp only [bl] at f2
   have hlow : low A (i + 1) = low A i := by show (if dg A i = 0 then low A i else i + 1) = low A i; rw [if_pos (by omega)]
   refine cK (blk_n (tC (cR ?_)));refine oV ?_
   (refine o_add trivial rfl rfl rfl ?_ ?_; (omega))
   refine oV ?_;refine oN ?_;exact again (i + 1) (by rw [hlow]; exact (sC rfl (sC rfl (sC rfl sN)))) (fun _ h => h) (by show A.length - (i + 1) < A.length - i; omega) (by show i + 1 ≤ _; omega)
  have f1 := h1;try simp only [bl] at f1
  refine c_exit (then_x (then_x (blk_eq rfl (tC (sR ?_)))));iterate 2 refine oV ?_
  refine nE ?_;refine ret1 rfl rfl ?_
  have hie : i = A.length := by omega
  subst hie; exact leaf0 rfl
theorem rWords_any (va vb : Value) (A B : List Nat) {I : Hp} (ha : Ws I va A) (hb : Ws I vb B) : Fun Tryz.prog 85 [va, vb] I [] (fun v _ _ => v = .bool (decide (A = B))) := by
  have hs := ha.most
  unfold maxLen at hs
  intro w hw
  refine enter2 _ Tryz.func85 rfl Tryz.ntmps85 rfl ?_ hw;refine sR ?_;refine oV ?_;refine nU ?_;refine oV ?_;refine o_lenW trivial rfl Tryz.underlying33 rfl (ha) ?_;refine oV ?_;refine o_lenW trivial rfl Tryz.underlying33 rfl (hb) ?_;refine oV ?_;refine nT ?_;refine cC rfl (fun h1 => ?_) (fun h1 => ?_)
  ·
   have f1 := h1;try simp only [bl] at f1
   refine sR ?_;refine oV ?_;refine nF ?_;refine ret1 rfl rfl ?_;refine leaf0 (congrArg Value.bool ?_); rw [decide_eq_false]; intro e; exact f1 (by rw [e])
  have f1 := h1;try simp only [bl] at f1
  refine cK (tC (cS (sR ?_)));refine oV ?_;refine oN (tC (cB ?_));refine c_loop (ι := Nat) [0, 1] (.cons rfl (.cons rfl .nil)) (fun i => A.length - i) (fun i E0 => (5, .int .i64 (i : Nat)) :: E0) (fun i => St w [] I []) (fun i => i ≤ A.length ∧ ∀ j, j < i → dg A j = dg B j) (0) (sC rfl (sC rfl (sC rfl sN))) (fun _ h => h) (⟨Nat.zero_le _, fun j h => absurd h (Nat.not_lt_zero _)⟩) ?_;rintro i ⟨hi, he⟩
  try dsimp only
  refine cS (sR ?_);iterate 2 refine oV ?_
  refine o_lenW trivial rfl Tryz.underlying33 rfl (ha) ?_;refine oV ?_;refine nT ?_;refine cC rfl (fun h2 => ?_) (fun h2 => ?_)
  ·
   have f2 := h2;try simp only [bl] at f2
   refine cK (tC (cS (cB (cS ?_))));refine c_quiet (by kernel_rfl) (by kernel_rfl) (fun _ h => h.drawn) ?_;iterate 2 refine oV ?_
   refine o_elemW trivial rfl Tryz.underlying33 Tryz.sizeOf134 rfl (ha) rfl (by omega) ?_;refine o_load1I trivial rfl Tryz.isAgg134 rfl (ha.cellI (k := i) rfl (by omega)) ?_;iterate 2 refine oV ?_
   refine o_elemW trivial rfl Tryz.underlying33 Tryz.sizeOf134 rfl (hb) rfl (by omega) ?_;refine o_load1I trivial rfl Tryz.isAgg134 rfl (hb.cellI (k := i) rfl (by omega)) ?_;refine oV ?_;refine nT ?_;refine cC rfl (fun h3 => ?_) (fun h3 => ?_)
   ·
    have f3 := h3;try simp only [bl] at f3
    refine sR ?_;refine oV ?_;refine oN (tC (cT (blk_r (tR (tR (blk_r (tR ?_)))))));refine ret1 rfl rfl ?_;refine leaf0 (congrArg Value.bool ?_); rw [decide_eq_false]; intro e; exact f3 (by rw [e])
   have f3 := h3;try simp only [bl] at f3
   refine cK (blk_n (tC (cR ?_)));refine oV ?_
   (refine o_add trivial rfl rfl rfl ?_ ?_; (omega))
   refine oV ?_;refine oN ?_
   exact again (i + 1) (sC rfl (sC rfl (sC rfl sN))) (fun _ h => h) (by show A.length - (i + 1) < A.length - i; omega) ⟨by show i + 1 ≤ _; omega, fun j hj => by
     by_cases hji : j = i
     · subst hji; omega
     · exact he j (by omega)⟩
  have f2 := h2;try simp only [bl] at f2
  refine c_exit (then_x (then_x (blk_eq rfl (tC (sR ?_)))));refine oV ?_;refine nE ?_;refine ret1 rfl rfl ?_;refine leaf0 (congrArg Value.bool ?_); rw [decide_eq_true]; exact eq_of_dg (by omega) fun j hj => he j (by omega)
theorem rTrim_any (va : Value) (A : List Nat) {I : Hp} (ha : Ws I va A) (hs : A.length ≤ 35184372088600) : Fun Tryz.prog 115 [va] I [] (fun v I' _ => Ws I' v (natW (val A))) := by
  have hle : lowL A ≤ A.length := low_le A _
  intro w hw
  refine enter1 _ Tryz.func115 rfl Tryz.ntmps115 rfl ?_ hw;refine sR ?_;refine oV ?_;refine nS ?_;refine oV ?_;refine oQ Tryz.call147 rfl (rLow_any _ _ ha hs) ?_;refine oV ?_;refine nS ?_;refine oV ?_;refine nU ?_;refine oV ?_;refine oN (tC (cB ?_));refine c_loop (ι := Nat × Value) [0, 3] (.cons rfl (.cons rfl .nil)) (fun x => lowL A - x.1) (fun x E0 => (4, x.2) :: (5, .int .i64 (x.1 : Nat)) :: E0) (fun x => St w [] I [.row x.2 134 1 x.1 (wl (A.take x.1))]) (fun x => x.1 ≤ lowL A) ((0, .slice none 0 0)) (sC rfl (sC rfl (sC rfl (sC rfl sN)))) (fun _ h => h.nilRow _ _) (Nat.zero_le _) ?_;rintro ⟨i, u⟩ hi
  try dsimp only
  simp only at hi
  refine cS (sR ?_);iterate 3 refine oV ?_
  refine nT ?_;refine cC rfl (fun h1 => ?_) (fun h1 => ?_)
  ·
   have f1 := h1;try simp only [bl] at f1
   refine cK (tC (cS (cB (cR ?_))));iterate 3 refine oV ?_
   refine o_elemW trivial rfl Tryz.underlying33 Tryz.sizeOf134 rfl (ha) rfl (by omega) ?_;refine o_load1I trivial rfl Tryz.isAgg134 rfl (ha.cellI (k := i) rfl (by omega)) ?_;refine oB Tryz.underlying33 Tryz.sizeOf134 Tryz.zeroValue134 fun b18 => ?_;refine oD Tryz.underlying33 elem134 fun v19 => ?_;refine oV ?_;refine oN (blk_n (tC (cR ?_)));refine oV ?_
   (refine o_add trivial rfl rfl rfl ?_ ?_; (omega))
   refine oV ?_;refine oN ?_;exact again (i + 1, v19) (sC rfl (sC rfl (sC rfl (sC rfl sN)))) (fun _ h => by rw [take_more (by omega), ← wl_more _ rfl]; exact h.sort (by repeat constructor)) (by show lowL A - (i + 1) < lowL A - i; omega) (by show i + 1 ≤ _; omega)
  have f1 := h1;try simp only [bl] at f1
  refine c_exit (then_x (then_x (blk_eq rfl (tC (sR ?_)))));iterate 2 refine oV ?_
  refine nE ?_;refine ret1 rfl rfl ?_
  have hie : i = lowL A := by omega
  subst hie
  have hlen : (A.take (lowL A)).length = lowL A := by rw [List.length_take]; omega
  have hm := ha.most
  exact fun w' hw' => leafWX (O := A.take (lowL A)) (Ext.refl _ _) (ha.wds.take _) (by omega) (fun I' hl hs => by rw [← trim_eq ha.wds]; exact hs) w' (by rw [hlen]; exact hw')
theorem rAt_any (va : Value) (A : List Nat) (i : Int) (k : Nat) {I : Hp} (ha : Ws I va A) (hi : i = k) : Fun Tryz.prog 205 [va, .int .i64 i] I [] (fun v _ _ => v = .int .u64 (dg A k : Nat)) := by
  subst hi
  intro w hw
  refine enter2 _ Tryz.func205 rfl Tryz.ntmps205 rfl ?_ hw;refine sR ?_;refine oV ?_;refine nU ?_;iterate 2 refine oV ?_
  refine' o_or trivial trivial rfl rfl rfl rfl rfl rfl rfl rfl (fun hb7 => ?_) ?_;rotate_left
  ·
   have fb7 := hb7
   try simp only [bl] at fb7
   iterate 2 refine gV hb7 ?_
   refine o_lenW (wS rfl rfl hb7) rfl Tryz.underlying33 rfl (ha) ?_;refine gV hb7 ?_;refine oN ?_;exact joins rfl
  refine nT ?_;refine cC rfl (fun h1 => ?_) (fun h1 => ?_)
  ·
   have f1 := h1;try simp only [bl] at f1
   refine sR ?_;refine oV ?_;refine nF ?_;refine ret1 rfl rfl ?_;refine leaf0 (congrArg (Value.int .u64) ?_); rw [dg_out (by omega)]; rfl
  have f1 := h1;try simp only [bl] at f1
  refine kS ?_;iterate 2 refine oV ?_
  refine o_elemW trivial rfl Tryz.underlying33 Tryz.sizeOf134 rfl (ha) rfl (by omega) ?_;refine o_load1I trivial rfl Tryz.isAgg134 rfl (ha.cellI (k := k) rfl (by omega)) ?_
  have hdl := dg_lt ha.wds k
  refine o_convIn trivial rfl Tryz.underlying134 Tryz.underlying136 rfl (by rw [IntWalk.u64_in _ (by omega)]) ?_;refine oV ?_;refine nE ?_;refine ret1 rfl rfl ?_;exact leaf0 rfl
theorem rOf_any (n : Nat) {I : Hp} (hn : n < 18446744073709551616) : Fun Tryz.prog 86 [.int .u64 (n : Int)] I [] (fun v I' _ => Ws I' v (natW n)) := by
  have hnl : (natW n).length ≤ 2 := natW_len_le (by rw [show (4294967296 : Nat) ^ 2 = 18446744073709551616 by decide]; exact hn)
  intro w hw
  refine enter1 _ Tryz.func86 rfl Tryz.ntmps86 rfl ?_ hw;refine sR ?_;refine oV ?_;refine nS ?_;refine oV ?_;refine oN (tC (cS (cB ?_)));refine c_loop (ι := Nat × List Nat × Value) [] .nil (fun x => x.1) (fun x E0 => (0, .int .u64 (x.1 : Nat)) :: (3, x.2.2) :: E0) (fun x => St w [] I [.row x.2.2 134 1 x.2.1.length (wl x.2.1)]) (fun x => x.2.1 ++ natW x.1 = natW n ∧ x.1 < 18446744073709551616) ((n, [], .slice none 0 0)) (sC rfl (sC rfl sN)) (fun _ h => h.nilRow _ _) (⟨rfl, hn⟩) ?_;rintro ⟨m, O, u⟩ ⟨hO, hm⟩
  try dsimp only
  simp only at hO hm; have hol : O.length ≤ 2 := by rw [← hO, List.length_append] at hnl; omega
  refine cS (sR ?_);iterate 2 refine oV ?_
  refine nT ?_;refine cC rfl (fun h1 => ?_) (fun h1 => ?_)
  ·
   have f1 := h1;try simp only [bl] at f1
   have hm0 : m ≠ 0 := by omega
   refine cK (tC (cB (sR ?_)));iterate 2 refine oV ?_
   refine o_rem trivial rfl rfl rfl (by omega) ?_;refine o_convIn trivial rfl Tryz.underlying136 Tryz.underlying134 rfl (by rw [IntWalk.u32_in _ (by omega)]) ?_;refine oB Tryz.underlying33 Tryz.sizeOf134 Tryz.zeroValue134 fun b10 => ?_;refine oD Tryz.underlying33 elem134 fun v11 => ?_;refine oV ?_;refine nR ?_;refine oV ?_;refine o_quo trivial rfl rfl rfl (by omega) (by rw [IntWalk.u64_in _ (by omega)]) ?_;refine oV ?_;refine oN (blk_n ?_);exact again (m / 4294967296, O ++ [m % 4294967296], v11) (sC rfl (sC rfl sN)) (fun _ h => by rw [← wl_more O (z := (m : Int) % 4294967296) (by omega), List.length_append]; exact h.sort (by repeat constructor)) (by show m / 4294967296 < m; omega) ⟨by show (O ++ [m % 4294967296]) ++ natW (m / 4294967296) = natW n; rw [← hO, natW_pos hm0]; simp, by show m / 4294967296 < _; omega⟩
  have f1 := h1;try simp only [bl] at f1
  refine c_exit (then_x (then_x (blk_eq rfl (tC (sR ?_)))));iterate 2 refine oV ?_
  refine nE ?_;refine ret1 rfl rfl ?_
  have hm0 : m = 0 := by omega
  subst hm0
  rw [natW_zero, List.append_nil] at hO
  exact leafWX (Ext.refl _ _) (by rw [hO]; exact Wds_natW n) (by unfold maxLen; omega) (fun I' hl hs => by rw [← hO]; exact hs)
theorem rCmp_any (va vb : Value) (A B : List Nat) {I : Hp} (ha : Ws I va A) (hb : Ws I vb B) (hs : A.length ≤ 35184372088600) (hs2 : B.length ≤ 35184372088600) : Fun Tryz.prog 179 [va, vb] I [] (fun v _ _ => v = .int .i64 (cmpZ (val A : Nat) (val B : Nat))) := by
  intro w hw
  refine enter2 _ Tryz.func179 rfl Tryz.ntmps179 rfl ?_ hw;refine sR ?_;refine oV ?_;refine nS ?_;refine oV ?_;refine o_lenW trivial rfl Tryz.underlying33 rfl (ha) ?_;refine oV ?_;refine o_lenW trivial rfl Tryz.underlying33 rfl (hb) ?_;refine o_max2 trivial rfl rfl rfl ?_;refine oV ?_;refine nU ?_;refine oV ?_
  (refine o_sub trivial rfl rfl rfl ?_ ?_; (omega))
  refine oV ?_;refine oN (tC (cB ?_));refine c_loop (ι := Nat × Int) [0, 1] (.cons rfl (.cons rfl .nil)) (fun x => x.1) (fun x E0 => (6, .int .i64 x.2) :: E0) (fun x => St w [] I []) (fun x => x.2 = (x.1 : Int) - 1 ∧ x.1 ≤ 35184372088600 ∧ ∀ t, x.1 ≤ t → dg A t = dg B t) ((max A.length B.length, max (A.length : Int) (B.length : Int) - 1)) (sC rfl (sC rfl (sC rfl sN))) (fun _ h => h) (⟨by simp only; omega, by show max A.length B.length ≤ _; omega, fun t ht => by have h9 : max A.length B.length ≤ t := ht; rw [dg_out (by omega), dg_out (by omega)]⟩) ?_;rintro ⟨j, z⟩ ⟨hz, hj, he⟩
  try dsimp only
  simp only at hz hj he; subst hz
  refine cS (sR ?_);iterate 2 refine oV ?_
  refine nT ?_;refine cC rfl (fun h1 => ?_) (fun h1 => ?_)
  ·
   have f1 := h1;try simp only [bl] at f1
   refine cK (tC (cS (cB (cS (sR ?_)))));iterate 2 refine oV ?_
   refine oQ Tryz.call205 rfl (rAt_any _ A _ (j - 1) ha (by omega)) ?_;iterate 2 refine oV ?_
   refine oQ Tryz.call205 rfl (rAt_any _ B _ (j - 1) hb (by omega)) ?_;refine oV ?_;refine nT ?_;refine cC rfl (fun h2 => ?_) (fun h2 => ?_)
   ·
    have f2 := h2;try simp only [bl] at f2
    refine sR ?_;refine oV ?_;refine oN (tC (cT (tR (blk_r (tR (tR (blk_r (tR ?_))))))));refine ret1 rfl rfl ?_;refine leaf0 (congrArg (Value.int .i64) ?_)
    have := cmp_lt ha.wds hb.wds (i := j - 1) (by omega) (fun t ht => he t (by omega))
    rw [cmpZ_lt (by omega)]
   have f2 := h2;try simp only [bl] at f2
   refine kS ?_;iterate 2 refine oV ?_
   refine oQ Tryz.call205 rfl (rAt_any _ A _ (j - 1) ha (by omega)) ?_;iterate 2 refine oV ?_
   refine oQ Tryz.call205 rfl (rAt_any _ B _ (j - 1) hb (by omega)) ?_;refine oV ?_;refine nT ?_;refine cC rfl (fun h3 => ?_) (fun h3 => ?_)
   ·
    have f3 := h3;try simp only [bl] at f3
    refine sR ?_;refine oV ?_;refine oN (tC (cT (blk_r (tR (tR (blk_r (tR ?_)))))));refine ret1 rfl rfl ?_;refine leaf0 (congrArg (Value.int .i64) ?_)
    have := cmp_lt hb.wds ha.wds (i := j - 1) (by omega) (fun t ht => (he t (by omega)).symm)
    rw [cmpZ_gt (by omega)]
   have f3 := h3;try simp only [bl] at f3
   refine cK (blk_n (tC (cR ?_)));refine oV ?_
   (refine o_sub trivial rfl rfl rfl ?_ ?_; (omega))
   refine oV ?_;refine oN ?_
   exact again (j - 1, (j : Int) - 1 - 1) (sC rfl (sC rfl (sC rfl sN))) (fun _ h => h) (by show j - 1 < j; omega) ⟨by simp only; omega, by show j - 1 ≤ _; omega, fun t ht => by
     have h9 : j - 1 ≤ t := ht
     by_cases htj : t = j - 1
     · subst htj; omega
     · exact he t (by omega)⟩
  have f1 := h1;try simp only [bl] at f1
  refine c_exit (then_x (then_x (blk_eq rfl (tC (sR ?_)))));refine oV ?_;refine nE ?_;refine ret1 rfl rfl ?_;refine leaf0 (congrArg (Value.int .i64) ?_)
  rw [val_same (A := A) (B := B) fun t => he t (by omega), cmpZ_self]
end Go.Proofs.YtfcmhcaggdakbaaGreatDoor
namespace Go.Tw
theorem pre_end {A : List Nat} {k : Nat} (h : A.length ≤ k) : pre A k = val A := pre_out h
theorem sum_step {O : List Nat} {T i s c c' a : Nat} (hl : O.length = i) (h : val O + 4294967296 ^ i * c = T) (hs : s + 4294967296 * c' = a + c) : val (O ++ [s]) + 4294967296 ^ (i + 1) * c' = T + a * 4294967296 ^ i := by
  rw [val_more, hl, pow_succ]
  have e1 : 4294967296 ^ i * 4294967296 * c' = 4294967296 ^ i * (4294967296 * c') := Nat.mul_assoc _ _ _
  have e2 : 4294967296 ^ i * s + 4294967296 ^ i * (4294967296 * c') = 4294967296 ^ i * a + 4294967296 ^ i * c := by rw [← Nat.mul_add, ← Nat.mul_add, hs]
  have e3 : a * 4294967296 ^ i = 4294967296 ^ i * a := Nat.mul_comm _ _
  rw [e1, e3]
  generalize 4294967296 ^ i * s = x1 at *
  generalize 4294967296 ^ i * (4294967296 * c') = x2 at *
  generalize 4294967296 ^ i * a = x3 at *
  generalize 4294967296 ^ i * c = x4 at *
  omega
theorem diff_step {O : List Nat} {T U i s c c' a b : Nat} (hl : O.length = i) (h : val O + U = T + 4294967296 ^ i * c) (hs : s + b + c = a + 4294967296 * c') : val (O ++ [s]) + (U + b * 4294967296 ^ i) = (T + a * 4294967296 ^ i) + 4294967296 ^ (i + 1) * c' := by
  rw [val_more, hl, pow_succ]
  have e1 : 4294967296 ^ i * 4294967296 * c' = 4294967296 ^ i * (4294967296 * c') := Nat.mul_assoc _ _ _
  have e2 : 4294967296 ^ i * s + 4294967296 ^ i * b + 4294967296 ^ i * c = 4294967296 ^ i * a + 4294967296 ^ i * (4294967296 * c') := by rw [← Nat.mul_add, ← Nat.mul_add, ← Nat.mul_add, hs]
  have e3 : a * 4294967296 ^ i = 4294967296 ^ i * a := Nat.mul_comm _ _
  have e4 : b * 4294967296 ^ i = 4294967296 ^ i * b := Nat.mul_comm _ _
  rw [e1, e3, e4]
  generalize 4294967296 ^ i * s = x1 at *
  generalize 4294967296 ^ i * (4294967296 * c') = x2 at *
  generalize 4294967296 ^ i * a = x3 at *
  generalize 4294967296 ^ i * b = x5 at *
  generalize 4294967296 ^ i * c = x4 at *
  omega
theorem word_mul {a w c : Nat} (ha : a < 4294967296) (hw : w < 4294967296) (hc : c < 4294967296) : a * w + c < 4294967296 * 4294967296 := by
  have h1 : a * w ≤ 4294967295 * 4294967295 := Nat.mul_le_mul (by omega) (by omega)
  omega
end Go.Tw
namespace Go.Proofs.YtfcmhcaggdakbaaGreatDoor
open Go Go.Tw
theorem rSub_any (va vb : Value) (A B : List Nat) {I : Hp} (ha : Ws I va A) (hb : Ws I vb B) (hs : A.length ≤ 35184372088500) (hs2 : B.length ≤ 35184372088500) (hle : val B ≤ val A) : Fun Tryz.prog 180 [va, vb] I [] (fun v I' _ => ∃ u, v = .tuple #[u, .bool true] ∧ Ws I' u (natW (val A - val B))) := by
  have hcmp : ¬ cmpZ (val A : Nat) (val B : Nat) < 0 := by unfold cmpZ; split <;> (try split) <;> omega
  intro w hw
  refine enter2 _ Tryz.func180 rfl Tryz.ntmps180 rfl ?_ hw;refine sR ?_;iterate 2 refine oV ?_
  refine nU ?_;iterate 2 refine oV ?_
  refine oQ Tryz.call179 rfl (rCmp_any _ _ _ _ ha hb (by omega) (by omega)) ?_;refine oV ?_;refine nT ?_;refine cC rfl (fun h1 => ?_) (fun h1 => ?_)
  ·
   have f1 := h1;try simp only [bl] at f1
   exfalso; exact hcmp f1
  have f1 := h1;try simp only [bl] at f1
  refine kS ?_;refine oV ?_;refine nS ?_;refine oV ?_;refine nU ?_;refine oV ?_;refine oN (tC (cB ?_));refine c_loop (ι := Nat × Nat × List Nat × Value) [0, 1] (.cons rfl (.cons rfl .nil)) (fun x => A.length - x.1) (fun x E0 => (6, x.2.2.2) :: (7, .int .u64 (x.2.1 : Nat)) :: (8, .int .i64 (x.1 : Nat)) :: E0) (fun x => St w [] I [.row x.2.2.2 134 1 x.2.2.1.length (wl x.2.2.1)]) (fun x => x.1 ≤ A.length ∧ x.2.1 ≤ 1 ∧ x.2.2.1.length = x.1 ∧ Wds x.2.2.1 ∧ val x.2.2.1 + pre B x.1 = pre A x.1 + 4294967296 ^ x.1 * x.2.1) ((0, 0, [], .slice none 0 0)) (sC rfl (sC rfl (sC rfl (sC rfl (sC rfl sN))))) (fun _ h => h.nilRow _ _) (⟨Nat.zero_le _, by decide, rfl, Wds_nil, rfl⟩) ?_;rintro ⟨i, c, O, u⟩ ⟨hi, hc, hol, hO, hv⟩
  try dsimp only
  simp only at hi hc hol hO hv; have hda := dg_lt ha.wds i; have hdb := dg_lt hb.wds i
  refine cS (sR ?_);iterate 2 refine oV ?_
  refine o_lenW trivial rfl Tryz.underlying33 rfl (ha) ?_;refine oV ?_;refine nT ?_;refine cC rfl (fun h2 => ?_) (fun h2 => ?_)
  ·
   have f2 := h2;try simp only [bl] at f2
   refine cK (tC (cS (cB (sR ?_))));iterate 2 refine oV ?_
   refine oQ Tryz.call205 rfl (rAt_any _ A _ i ha rfl) ?_;refine o_arA trivial rfl rfl rfl (by rw [IntWalk.u64_in _ (by omega)]) ?_;iterate 2 refine oV ?_
   refine oQ Tryz.call205 rfl (rAt_any _ B _ i hb rfl) ?_;refine o_arS trivial rfl rfl rfl (by rw [IntWalk.u64_in _ (by omega)]) ?_;refine oV ?_;refine o_arS trivial rfl rfl rfl (by rw [IntWalk.u64_in _ (by omega)]) ?_;refine oV ?_;refine nS ?_;iterate 2 refine oV ?_
   refine o_rem trivial rfl rfl rfl (by omega) ?_;refine o_convIn trivial rfl Tryz.underlying136 Tryz.underlying134 rfl (by rw [IntWalk.u32_in _ (by omega)]) ?_;refine oB Tryz.underlying33 Tryz.sizeOf134 Tryz.zeroValue134 fun b34 => ?_;refine oD Tryz.underlying33 elem134 fun v35 => ?_;refine oV ?_;refine nR ?_;refine oV ?_;refine o_quo trivial rfl rfl rfl (by omega) (by rw [IntWalk.u64_in _ (by omega)]) ?_;refine o_arS trivial rfl rfl rfl (by rw [IntWalk.u64_in _ (by omega)]) ?_;refine oV ?_;refine oN (blk_n (tC (cR ?_)));refine oV ?_
   (refine o_add trivial rfl rfl rfl ?_ ?_; (omega))
   refine oV ?_;refine oN ?_
   have hst := diff_step (s := (4294967296 + dg A i - dg B i - c) % 4294967296) (c' := 1 - (4294967296 + dg A i - dg B i - c) / 4294967296) (a := dg A i) (b := dg B i) hol hv (by omega)
   have e7 : (1 : Int) - (4294967296 + (dg A i : Int) - (dg B i : Int) - (c : Int)) / 4294967296 = ((1 - (4294967296 + dg A i - dg B i - c) / 4294967296 : Nat) : Int) := by omega
   exact again (i + 1, 1 - (4294967296 + dg A i - dg B i - c) / 4294967296, O ++ [(4294967296 + dg A i - dg B i - c) % 4294967296], v35) (by rw [e7]; exact (sC rfl (sC rfl (sC rfl (sC rfl (sC rfl sN)))))) (fun _ h => by rw [← wl_more O (z := (4294967296 + (dg A i : Int) - (dg B i : Int) - (c : Int)) % 4294967296) (by omega), List.length_append]; exact h.sort (by repeat constructor)) (by show A.length - (i + 1) < A.length - i; omega) ⟨by show i + 1 ≤ _; omega, by show 1 - _ ≤ 1; omega, by show (O ++ [_]).length = i + 1; rw [List.length_append, hol]; rfl, hO.more (by omega), hst⟩
  have f2 := h2;try simp only [bl] at f2
  refine c_exit (then_x (then_x (blk_eq rfl (tC (cS ?_)))))
  have hie : i = A.length := by omega
  subst hie
  rw [pre_end (Nat.le_refl _)] at hv
  have hB : pre B A.length = val B := by
    rcases Nat.lt_or_ge A.length B.length with hlt | hge
    · have h1 := val_split (l := B) (i := A.length) (by omega)
      have h2 := val_lt ha.wds
      have h3 : val (B.drop A.length) = 0 := by
        rcases Nat.eq_zero_or_pos (val (B.drop A.length)) with h | h
        · exact h
        · have : 4294967296 ^ A.length * 1 ≤ 4294967296 ^ A.length * val (B.drop A.length) := Nat.mul_le_mul_left _ h
          omega
      rw [h3, Nat.mul_zero] at h1
      omega
    · exact pre_end hge
  have hc0 : c = 0 := by
    have h2 := val_lt hO
    rw [hol] at h2
    rw [hB] at hv
    rcases Nat.eq_zero_or_pos c with h | h
    · exact h
    · have : 4294967296 ^ A.length * 1 ≤ 4294967296 ^ A.length * c := Nat.mul_le_mul_left _ h
      omega
  subst hc0
  rw [hB, Nat.mul_zero, Nat.add_zero] at hv
  refine c_sealO O .here hO (by unfold maxLen; omega) (fun I1 hx1 hs1 => ?_);refine cR ?_;refine oV ?_;refine oI Tryz.call115 rfl (rTrim_any _ _ hs1 (by omega)) ?_;rintro u2 I2 hx2 hs2';iterate 2 refine oV ?_
  refine nE ?_;refine ret2 rfl rfl rfl ?_;refine leaf (hx1.trans hx2 (Nat.le_refl _)) (List.nil_sublist _) ⟨u2, rfl, ?_⟩; rw [show val O = val A - val B by omega] at hs2'; exact hs2'
theorem rOne_any (va : Value) (A : List Nat) (y c0 : Nat) {I : Hp} (ha : Ws I va A) (hs : A.length ≤ 35184372088500) (hy : y < 4294967296) (hc0 : c0 < 4294967296) : Fun Tryz.prog 177 [va, .int .u32 (y : Int), .int .u32 (c0 : Int)] I [] (fun v I' _ => Ws I' v (natW (val A * y + c0))) := by
  intro w hw
  refine enter3 _ Tryz.func177 rfl Tryz.ntmps177 rfl ?_ hw;refine sR ?_;refine oV ?_;refine nS ?_;refine oV ?_;refine nS ?_;refine oV ?_;refine o_convIn trivial rfl Tryz.underlying134 Tryz.underlying136 rfl (by rw [IntWalk.u64_in _ (by omega)]) ?_;refine oV ?_;refine nU ?_;refine oV ?_;refine oN (tC (cB ?_));refine c_loop (ι := Nat × Nat × List Nat × Value) [0, 1] (.cons rfl (.cons rfl .nil)) (fun x => A.length - x.1) (fun x E0 => (7, x.2.2.2) :: (8, .int .u64 (x.2.1 : Nat)) :: (9, .int .i64 (x.1 : Nat)) :: E0) (fun x => St w [] I [.row x.2.2.2 134 1 x.2.2.1.length (wl x.2.2.1)]) (fun x => x.1 ≤ A.length ∧ x.2.1 < 4294967296 ∧ x.2.2.1.length = x.1 ∧ Wds x.2.2.1 ∧ val x.2.2.1 + 4294967296 ^ x.1 * x.2.1 = pre A x.1 * y + c0) ((0, c0, [], .slice none 0 0)) (sC rfl (sC rfl (sC rfl (sC rfl (sC rfl sN))))) (fun _ h => h.nilRow _ _) (⟨Nat.zero_le _, hc0, rfl, Wds_nil, by show 0 + 4294967296 ^ 0 * c0 = 0 * y + c0; omega⟩) ?_;rintro ⟨i, c, O, u⟩ ⟨hi, hc, hol, hO, hv⟩
  try dsimp only
  simp only at hi hc hol hO hv; have hda := dg_lt ha.wds i; have hmw := word_mul hda hy hc
  refine cS (sR ?_);iterate 2 refine oV ?_
  refine o_lenW trivial rfl Tryz.underlying33 rfl (ha) ?_;refine oV ?_;refine nT ?_;refine cC rfl (fun h1 => ?_) (fun h1 => ?_)
  ·
   have f1 := h1;try simp only [bl] at f1
   refine cK (tC (cS (cB (sR ?_))));iterate 2 refine oV ?_
   refine o_elemW trivial rfl Tryz.underlying33 Tryz.sizeOf134 rfl (ha) rfl (by omega) ?_;refine o_load1I trivial rfl Tryz.isAgg134 rfl (ha.cellI (k := i) rfl (by omega)) ?_;refine o_convIn trivial rfl Tryz.underlying134 Tryz.underlying136 rfl (by rw [IntWalk.u64_in _ (by omega)]) ?_;refine oV ?_;refine o_convIn trivial rfl Tryz.underlying134 Tryz.underlying136 rfl (by rw [IntWalk.u64_in _ (by omega)]) ?_
   rw [show (dg A i : Int) = ((dg A i : Nat) : Int) from rfl]
   (refine o_arM trivial rfl rfl rfl (by rw [IntWalk.u64_in _ (by rw [← Int.natCast_mul]; omega)]) ?_)
   refine oV ?_
   rw [← Int.natCast_mul]
   refine o_arA trivial rfl rfl rfl (by rw [IntWalk.u64_in _ (by omega)]) ?_;refine oV ?_;refine nS ?_;iterate 2 refine oV ?_
   refine o_rem trivial rfl rfl rfl (by omega) ?_;refine o_convIn trivial rfl Tryz.underlying136 Tryz.underlying134 rfl (by rw [IntWalk.u32_in _ (by omega)]) ?_;refine oB Tryz.underlying33 Tryz.sizeOf134 Tryz.zeroValue134 fun b33 => ?_;refine oD Tryz.underlying33 elem134 fun v34 => ?_;refine oV ?_;refine nR ?_;refine oV ?_;refine o_quo trivial rfl rfl rfl (by omega) (by rw [IntWalk.u64_in _ (by omega)]) ?_;refine oV ?_;refine oN (blk_n (tC (cR ?_)));refine oV ?_
   (refine o_add trivial rfl rfl rfl ?_ ?_; (omega))
   refine oV ?_;refine oN ?_
   have hst := sum_step (s := (dg A i * y + c) % 4294967296) (c' := (dg A i * y + c) / 4294967296) (a := dg A i * y) hol hv (by omega)
   exact again (i + 1, (dg A i * y + c) / 4294967296, O ++ [(dg A i * y + c) % 4294967296], v34) (sC rfl (sC rfl (sC rfl (sC rfl (sC rfl sN))))) (fun _ h => by rw [← wl_more O (z := (((dg A i * y : Nat) : Int) + (c : Int)) % 4294967296) (by omega), List.length_append]; exact h.sort (by repeat constructor)) (by show A.length - (i + 1) < A.length - i; omega) ⟨by show i + 1 ≤ _; omega, by show (dg A i * y + c) / 4294967296 < 4294967296; omega, by show (O ++ [_]).length = i + 1; rw [List.length_append, hol]; rfl, hO.more (by omega), by
     show val (O ++ [_]) + 4294967296 ^ (i + 1) * _ = (pre A i + dg A i * 4294967296 ^ i) * y + c0
     rw [hst, Nat.add_mul, Nat.mul_right_comm]; omega⟩
  have f1 := h1;try simp only [bl] at f1
  refine c_exit (then_x (then_x (blk_eq rfl (tC (cS ?_)))))
  have hie : i = A.length := by omega
  subst hie
  rw [pre_end (Nat.le_refl _)] at hv
  refine cR ?_;iterate 2 refine oV ?_
  refine o_convIn trivial rfl Tryz.underlying136 Tryz.underlying134 rfl (by rw [IntWalk.u32_in _ (by omega)]) ?_;refine oB Tryz.underlying33 Tryz.sizeOf134 Tryz.zeroValue134 fun b40 => ?_;refine oD Tryz.underlying33 elem134 fun v41 => ?_;refine oV ?_;refine oN (tC (cS ?_))
  rw [show wl O ++ ([Value.int .u32 (c : Int)] ++ []) = wl (O ++ [c]) from wl_more O rfl]
  refine c_sealO (O ++ [c]) (by rw [List.length_append]; exact .there .here) (hO.more hc) (by rw [List.length_append, hol]; have := ha.most; unfold maxLen at *; show A.length + 1 ≤ _; omega) (fun I1 hx1 hs1 => ?_)
  rw [← hol, ← val_more] at hv
  refine cR ?_;refine oV ?_;refine oI Tryz.call115 rfl (rTrim_any _ _ hs1 (by rw [List.length_append, hol]; show A.length + 1 ≤ _; omega)) ?_;rintro u2 I2 hx2 hs2';refine oV ?_;refine nE ?_;refine ret1 rfl rfl ?_;refine leaf (hx1.trans hx2 (Nat.le_refl _)) (List.nil_sublist _) ?_; rw [hv] at hs2'; exact hs2'
theorem rShift_any (va : Value) (A : List Nat) (m : Nat) {I : Hp} (ha : Ws I va A) (hs : A.length ≤ 1000000) (hm : m ≤ 100000) : Fun Tryz.prog 202 [va, .int .i64 (m : Int)] I [] (fun v I' _ => Ws I' v (natW (val A * 2 ^ m))) := by
  have hA := val_lt ha.wds
  intro w hw
  refine enter2 _ Tryz.func202 rfl Tryz.ntmps202 rfl ?_ hw;refine sR ?_;refine oV ?_;refine nS ?_;refine oV ?_;refine oI Tryz.call115 rfl (rTrim_any _ _ ha (by omega)) ?_;rintro u1 I1 hx1 hs1;refine oV ?_;refine nU ?_;refine oV ?_;refine oN (tC (cB ?_));refine c_loop (ι := Nat × Value × Hp) [1] (.cons rfl .nil) (fun x => m - x.1) (fun x E0 => (5, x.2.1) :: (6, .int .i64 (x.1 : Nat)) :: E0) (fun x => St w [] x.2.2 []) (fun x => x.1 ≤ m ∧ Ws x.2.2 x.2.1 (natW (val A * 2 ^ x.1)) ∧ Ext w.heap.size I x.2.2) ((0, u1, I1)) (sC rfl (sC rfl (sC rfl sN))) (fun _ h => h) (⟨Nat.zero_le _, by show Ws I1 u1 (natW (val A * 1)); rw [Nat.mul_one]; exact hs1, hx1⟩) ?_;rintro ⟨i, u, I2⟩ ⟨hi, hu, hx2⟩
  try dsimp only
  simp only at hi hu hx2
  refine cS (sR ?_);iterate 3 refine oV ?_
  refine' o_and trivial trivial rfl rfl rfl rfl rfl rfl rfl rfl (fun hb12 => ?_) ?_;rotate_left
  ·
   iterate 2 refine gV hb12 ?_
   refine oN ?_;exact joins rfl
  refine' o_and trivial trivial rfl rfl rfl rfl rfl rfl rfl rfl (fun hb16 => ?_) ?_;rotate_left
  ·
   have fb16 := hb16
   try simp only [bl] at fb16
   refine gV hb16 ?_;refine o_lenW (wS rfl rfl hb16) rfl Tryz.underlying33 rfl (hu) ?_;refine gV hb16 ?_;refine oN ?_;exact joins rfl
  refine nT ?_;refine cC rfl (fun h1 => ?_) (fun h1 => ?_)
  ·
   have f1 := h1;try simp only [bl] at f1
   have hl1 : (natW (val A * 2 ^ i)).length ≤ A.length + (i + 1) := natW_len_le (by
     rw [Nat.pow_add]
     refine Nat.mul_lt_mul'' hA ?_
     have h2 : 2 ^ i < 2 ^ (32 * (i + 1)) := Nat.pow_lt_pow_right (by decide) (by omega)
     rwa [Nat.pow_mul] at h2)
   refine cK (tC (cS (cB (cR ?_))));refine oV ?_;refine oI Tryz.call177 rfl (rOne_any _ _ 2 0 hu (by omega) (by decide) (by decide)) ?_;rintro u3 I3 hx3 hs3;refine oV ?_;refine oN (blk_n (tC (cR ?_)));refine oV ?_
   (refine o_add trivial rfl rfl rfl ?_ ?_; (omega))
   refine oV ?_;refine oN ?_
   rw [val_natW, Nat.add_zero, Nat.mul_assoc, ← Nat.pow_succ] at hs3
   exact again (i + 1, u3, I3) (sC rfl (sC rfl (sC rfl sN))) (fun _ h => h) (by show m - (i + 1) < m - i; omega) ⟨by show i + 1 ≤ _; omega, hs3, hx2.trans hx3 (Nat.le_refl _)⟩
  have f1 := h1;try simp only [bl] at f1
  refine c_exit (then_x (then_x (blk_eq rfl (tC (sR ?_)))));iterate 2 refine oV ?_
  refine nE ?_;refine ret1 rfl rfl ?_;refine leaf hx2 (List.nil_sublist _) ?_
  by_cases him : i = m
  · subst him; exact hu
  · have h0 : val A * 2 ^ i = 0 := natW_len_zero.1 (by omega)
    have hp : 0 < 2 ^ i := Nat.pow_pos (by decide)
    have h1 : val A = 0 := by
      rcases Nat.mul_eq_zero.1 h0 with h | h
      · exact h
      · omega
    rw [h1, Nat.zero_mul] at hu ⊢
    exact hu
end Go.Proofs.YtfcmhcaggdakbaaGreatDoor
namespace Go.Tw
open Go
theorem bits_one {a : Nat} (ha : a < 4294967296) : bits .and .u32 (a : Int) ((1 : Nat) : Int) = ((a % 2 : Nat) : Int) := by
  have h1 : (BitVec.ofInt 32 (a : Int)).toNat = a := by
    rw [BitVec.ofInt_natCast, BitVec.toNat_ofNat]; exact Nat.mod_eq_of_lt (by omega)
  have h2 : (BitVec.ofInt 32 ((1 : Nat) : Int)).toNat = 1 := by
    rw [BitVec.ofInt_natCast, BitVec.toNat_ofNat]
  show IntKind.u32.wrap ((BitVec.ofInt 32 (a : Int) &&& BitVec.ofInt 32 ((1 : Nat) : Int)).toNat : Int) = _
  rw [BitVec.toNat_and, h1, h2, Nat.and_one_is_mod, IntWalk.u32_in _ (by omega)]
section
variable {P : Program} {ops : Array Oper} {rest : List Oper} {n : Nat} {D : List Deferred} {E : Env} {S : World → Prop} {Q : Exit → Act → World → Prop} {d : Nat} {ty : TypeId} {pos : String} {aft : Array Edge} {g : Option (Nat × Bool)}
theorem o_and1 {qm : Bool} {x y : Operand} {t t2 : TypeId} {a : Nat} (hg : Wants ops E g) (hd : Nat.blt d n = true) (hx : ev E x = some (.int .u32 (a : Int))) (hy : ev E y = some (.int .u32 1)) (h : a < 4294967296)
    (k : TL qm P ops Q rest n D ((d, .int .u32 ((a % 2 : Nat) : Int)) :: E) S) : TL qm P ops Q (⟨some d, .binOp .and t x y t2, ty, pos, aft, g⟩ :: rest) n D E S :=
  o_rd hg hd (v := .int .u32 ((a % 2 : Nat) : Int)) (fun a w ha hw d pos aft g => ⟨w, by
    simp only [execOp, ha.ev hx, ha.ev hy, Sem.run_bind, run_eqGuard_int, Result.andThen_ok]
    rw [binOp_and, intBits_and, show (1 : Int) = ((1 : Nat) : Int) from rfl, bits_one h]
    simp, rfl⟩) k
end
theorem val_bit {A : List Nat} (hA : Wds A) {i : Nat} (h : i / 32 < A.length) : dg A (i / 32) / 2 ^ (i % 32) % 2 = val A / 2 ^ i % 2 := by
  have hr : i % 32 < 32 := Nat.mod_lt _ (by decide)
  have h1 := val_split (l := A) (i := i / 32) (by omega)
  have h2 := val_drop h
  have h3 : 2 ^ i = 4294967296 ^ (i / 32) * 2 ^ (i % 32) := by
    rw [pow_bits, ← Nat.pow_add]; congr 1; omega
  have h4 : val A / 4294967296 ^ (i / 32) = val (A.drop (i / 32)) := by
    rw [h1, Nat.add_mul_div_left _ _ (pow_pos _), Nat.div_eq_of_lt (pre_lt hA _), Nat.zero_add]
  have h5 : (4294967296 : Nat) = 2 ^ (i % 32) * (2 * 2 ^ (31 - i % 32)) := by
    rw [← Nat.pow_succ', ← Nat.pow_add, show i % 32 + (31 - i % 32).succ = 32 by omega]
  rw [h3, ← Nat.div_div_eq_div_mul, h4, h2, h5, Nat.mul_assoc, Nat.mul_assoc, Nat.add_mul_div_left _ _ (Nat.pow_pos (by decide)), Nat.add_mul_mod_self_left]
theorem bit_step {a i d q r : Nat} (hd : 0 < d) (hq : q = a / 2 ^ (i + 1) / d) (hr : r = a / 2 ^ (i + 1) % d) :
    (d ≤ 2 * r + a / 2 ^ i % 2 → 2 * q + 1 = a / 2 ^ i / d ∧ 2 * r + a / 2 ^ i % 2 - d = a / 2 ^ i % d) ∧ (¬ d ≤ 2 * r + a / 2 ^ i % 2 → 2 * q = a / 2 ^ i / d ∧ 2 * r + a / 2 ^ i % 2 = a / 2 ^ i % d) := by
  have h1 : a / 2 ^ (i + 1) = a / 2 ^ i / 2 := by rw [Nat.pow_succ, Nat.div_div_eq_div_mul]
  have h2 : r < d := by rw [hr]; exact Nat.mod_lt _ hd
  have h3 := Nat.div_add_mod (a / 2 ^ (i + 1)) d
  rw [← hq, ← hr, h1] at h3
  generalize a / 2 ^ i = b at *
  have hb : b % 2 < 2 := Nat.mod_lt _ (by decide)
  have hm : d * (2 * q) = 2 * (d * q) := Nat.mul_left_comm _ _ _
  constructor
  · intro h
    exact div_unique (by rw [Nat.mul_comm, Nat.mul_add, Nat.mul_one, hm]; omega) (by omega)
  · intro h
    exact div_unique (by rw [Nat.mul_comm, hm]; omega) (by omega)
end Go.Tw
namespace Go.Proofs.YtfcmhcaggdakbaaGreatDoor
open Go Go.Tw
theorem rBit_any (va : Value) (A : List Nat) (i : Nat) {I : Hp} (ha : Ws I va A) (hs : A.length ≤ 35184372088400) (hi : i < 32 * A.length) : Fun Tryz.prog 178 [va, .int .i64 (i : Int)] I [] (fun v _ _ => v = .int .u32 ((val A / 2 ^ i % 2 : Nat) : Int)) := by
  have hd := dg_lt ha.wds (i / 32)
  have hd2 : dg A (i / 32) / 2 ^ (i % 32) ≤ dg A (i / 32) := Nat.div_le_self _ _
  intro w hw
  refine enter2 _ Tryz.func178 rfl Tryz.ntmps178 rfl ?_ hw;refine sR ?_;refine oV ?_;refine nS ?_;iterate 2 refine oV ?_
  refine o_quo trivial rfl rfl rfl (by omega) (by rw [IntWalk.i64_in _ (by omega)]) ?_
  rw [show (i : Int) / 32 = ((i / 32 : Nat) : Int) by omega]
  refine o_elemW trivial rfl Tryz.underlying33 Tryz.sizeOf134 rfl (ha) rfl (by omega) ?_;refine o_load1I trivial rfl Tryz.isAgg134 rfl (ha.cellI (k := i / 32) rfl (by omega)) ?_;refine oV ?_;refine o_rem trivial rfl rfl rfl (by omega) ?_
  rw [show (i : Int) % 32 = ((i % 32 : Nat) : Int) by omega]
  refine o_shr (2 ^ (i % 32)) trivial rfl rfl rfl (by omega) (by rw [Int.toNat_natCast, show min (i % 32) IntKind.u32.bits = i % 32 from Nat.min_eq_left (by show i % 32 ≤ 32; omega)]) (by omega) ?_
  rw [show (dg A (i / 32) : Int) / ((2 ^ (i % 32) : Nat) : Int) = ((dg A (i / 32) / 2 ^ (i % 32) : Nat) : Int) from (Int.natCast_ediv _ _).symm]
  refine o_and1 trivial rfl rfl rfl (by omega) ?_;refine oV ?_;refine nE ?_;refine ret1 rfl rfl ?_;refine leaf0 (congrArg (Value.int .u32) ?_); rw [val_bit ha.wds (by omega)]
theorem dbl_len {n b k : Nat} (h : (natW n).length ≤ k) (hb : (natW b).length ≤ k) : (natW (2 * n + b)).length ≤ k + 2 := by
  rw [Nat.two_mul]
  exact natW_add_len _ _ (k + 1) (natW_add_len _ _ k h h) (by omega)
theorem one_len {b : Nat} (h : b ≤ 1) : (natW b).length ≤ 1 := natW_len_le (by rw [Nat.pow_one]; omega)
theorem rDiv_any (va vb : Value) (A B : List Nat) {I : Hp} (ha : Ws I va A) (hb : Ws I vb B) (hs : A.length ≤ 35184372088400) (hs2 : B.length ≤ 35184372088400) (h0 : 0 < val B) : Fun Tryz.prog 148 [va, vb] I [] (fun v I' _ => ∃ u1 u2, v = .tuple #[u1, u2, .bool true] ∧ Ws I' u1 (natW (val A / val B)) ∧ Ws I' u2 (natW (val A % val B))) := by
  have hbl : (natW (val B)).length ≤ B.length := natW_len_list hb.wds
  have hbz : (natW (val B)).length ≠ 0 := fun e => by have := natW_len_zero.1 e; omega
  have hA : val A < 2 ^ (32 * A.length) := by have := val_lt ha.wds; rwa [pow_bits] at this
  have hal : (natW (val A)).length ≤ A.length := natW_len_list ha.wds
  intro w hw
  refine enter2 _ Tryz.func148 rfl Tryz.ntmps148 rfl ?_ hw;refine sR ?_;iterate 3 refine oV ?_
  refine nS ?_;refine oV ?_;refine oI Tryz.call115 rfl (rTrim_any _ _ hb (by omega)) ?_;rintro u1 I1 hx1 hs1;refine oV ?_;refine nU ?_;refine oV ?_;refine o_lenW trivial rfl Tryz.underlying33 rfl (hs1) ?_;refine oV ?_;refine nT ?_;refine cC rfl (fun h1 => ?_) (fun h1 => ?_)
  ·
   have f1 := h1;try simp only [bl] at f1
   exfalso; omega
  have f1 := h1;try simp only [bl] at f1
  refine kS ?_;refine oV ?_;refine nS ?_;refine oV ?_;refine nU ?_;refine oV ?_;refine o_lenW trivial rfl Tryz.underlying33 rfl (ha) ?_
  (refine o_mul trivial rfl rfl rfl ?_ ?_; (omega))
  (refine o_sub trivial rfl rfl rfl ?_ ?_; (omega))
  refine oV ?_;refine oN (tC (cB ?_));refine c_loop (ι := Nat × Int × Value × Value × Hp) [0, 7] (.cons rfl (.cons rfl .nil)) (fun x => x.1) (fun x E0 => (8, x.2.2.1) :: (9, x.2.2.2.1) :: (10, .int .i64 x.2.1) :: E0) (fun x => St w [] x.2.2.2.2 []) (fun x => x.1 ≤ 32 * A.length ∧ x.2.1 = (x.1 : Int) - 1 ∧ Ws x.2.2.2.2 x.2.2.1 (natW (val A / 2 ^ x.1 / val B)) ∧ Ws x.2.2.2.2 x.2.2.2.1 (natW (val A / 2 ^ x.1 % val B)) ∧ Ext w.heap.size I x.2.2.2.2 ∧ I1.Le x.2.2.2.2) ((32 * A.length, 32 * (A.length : Int) - 1, .slice none 0 0, .slice none 0 0, I1)) (sC rfl (sC rfl (sC rfl (sC rfl (sC rfl sN))))) (fun _ h => h) (⟨Nat.le_refl _, by simp only; omega, by simp only; rw [Nat.div_eq_of_lt hA, Nat.zero_div, natW_zero]; exact Ws.nil _, by simp only; rw [Nat.div_eq_of_lt hA, Nat.zero_mod, natW_zero]; exact Ws.nil _, hx1, Hp.Le.refl _⟩) ?_;rintro ⟨j, z, uq, ur, I2⟩ ⟨hj, hz, hq, hr, hx2, hle⟩
  try dsimp only
  simp only at hj hz hq hr hx2 hle; subst hz
  refine cS (sR ?_);iterate 2 refine oV ?_
  refine nT ?_;refine cC rfl (fun h2 => ?_) (fun h2 => ?_)
  ·
   have f2 := h2;try simp only [bl] at f2
   obtain ⟨i, rfl⟩ : ∃ i, j = i + 1 := ⟨j - 1, by omega⟩
   have hql : (natW (val A / 2 ^ (i + 1) / val B)).length ≤ 35184372088400 := Nat.le_trans (natW_le_len (Nat.le_trans (Nat.div_le_self _ _) (Nat.div_le_self _ _))) (Nat.le_trans hal hs)
   have hrl : (natW (val A / 2 ^ (i + 1) % val B)).length ≤ 35184372088400 := Nat.le_trans (natW_le_len (Nat.le_trans (Nat.mod_le _ _) (Nat.div_le_self _ _))) (Nat.le_trans hal hs)
   have hbs := bit_step (a := val A) (i := i) h0 rfl rfl
   have e1 : ((i + 1 : Nat) : Int) - 1 = (i : Nat) := by omega
   rw [e1]
   have hqv : val (natW (val A / 2 ^ (i + 1) / val B)) * 2 + 0 = 2 * (val A / 2 ^ (i + 1) / val B) := by rw [val_natW]; omega
   have hrv : val (natW (val A / 2 ^ (i + 1) % val B)) * 2 + val A / 2 ^ i % 2 = 2 * (val A / 2 ^ (i + 1) % val B) + val A / 2 ^ i % 2 := by rw [val_natW]; omega
   refine cK (tC (cS (cB (sR ?_))));refine oV ?_;refine oI Tryz.call177 rfl (rOne_any _ _ 2 0 hq (by omega) (by decide) (by decide)) ?_;rintro u3 I3 hx3 hs3;refine oV ?_;refine nS ?_;iterate 3 refine oV ?_
   refine oQ Tryz.call178 rfl (rBit_any _ A i (ha.le (hx2.le.trans hx3.le)) (by omega) (by omega)) ?_;refine oI Tryz.call177 rfl (rOne_any _ _ 2 (val A / 2 ^ i % 2) (hr.le hx3.le) (by omega) (by decide) (by omega)) ?_;rintro u4 I4 hx4 hs4;refine oV ?_;refine oN (tC (cS ?_))
   rw [hqv] at hs3
   rw [hrv] at hs4
   have hl3 := dbl_len (n := val A / 2 ^ (i + 1) / val B) (b := 0) hql (by rw [natW_zero]; exact Nat.zero_le _)
   rw [Nat.add_zero] at hl3
   have hl4 := dbl_len (n := val A / 2 ^ (i + 1) % val B) (b := val A / 2 ^ i % 2) hrl (Nat.le_trans (one_len (by omega)) (by decide))
   refine cR ?_;iterate 2 refine oV ?_
   refine oQ Tryz.call179 rfl (rCmp_any _ _ _ _ hs4 (hs1.le (hle.trans (hx3.le.trans hx4.le))) (by omega) (by omega)) ?_;refine oV ?_;refine nT ?_;refine cC rfl (fun h3 => ?_) (fun h3 => ?_)
   ·
    have f3 := h3;try simp only [bl] at f3
    rw [val_natW, val_natW] at f3
    have hge : val B ≤ 2 * (val A / 2 ^ (i + 1) % val B) + val A / 2 ^ i % 2 := by unfold cmpZ at f3; split at f3 <;> (try split at f3) <;> omega
    obtain ⟨hb1, hb2⟩ := hbs.1 hge
    refine sR ?_;iterate 2 refine oV ?_
    refine oI Tryz.call180 rfl (rSub_any _ _ _ _ hs4 (hs1.le (hle.trans (hx3.le.trans hx4.le))) (by omega) (by omega) (by rw [val_natW, val_natW]; exact hge)) ?_;rintro _ I5 hx5 ⟨u5, rfl, hs5⟩;iterate 4 refine oV ?_
    refine nR ?_;refine oV ?_;refine oI Tryz.call177 rfl (rOne_any _ _ 1 1 (hs3.le (hx4.le.trans hx5.le)) (by omega) (by decide) (by decide)) ?_;rintro u6 I6 hx6 hs6;refine oV ?_;refine oN (blk_n (tC (cR ?_)));refine oV ?_
    (refine o_sub trivial rfl rfl rfl ?_ ?_; (omega))
    refine oV ?_;refine oN ?_
    (rw [val_natW, val_natW, hb2] at hs5
     rw [val_natW, Nat.mul_one, hb1] at hs6
     exact again (i, (i : Int) - 1, u6, u5, I6) (sC rfl (sC rfl (sC rfl (sC rfl (sC rfl sN))))) (fun _ h => h) (by show i < i + 1; omega) ⟨by show i ≤ _; omega, rfl, hs6, hs5.le hx6.le, hx2.trans (hx3.trans (hx4.trans (hx5.trans hx6 (Nat.le_refl _)) (Nat.le_refl _)) (Nat.le_refl _)) (Nat.le_refl _), hle.trans (hx3.le.trans (hx4.le.trans (hx5.le.trans hx6.le)))⟩)
   have f3 := h3;try simp only [bl] at f3
   rw [val_natW, val_natW] at f3
   have hge : ¬ val B ≤ 2 * (val A / 2 ^ (i + 1) % val B) + val A / 2 ^ i % 2 := by unfold cmpZ at f3; split at f3 <;> (try split at f3) <;> omega
   obtain ⟨hb1, hb2⟩ := hbs.2 hge
   refine cK (blk_n (tC (cR ?_)));refine oV ?_
   (refine o_sub trivial rfl rfl rfl ?_ ?_; (omega))
   refine oV ?_;refine oN ?_
   (rw [hb2] at hs4
    rw [hb1] at hs3
    exact again (i, (i : Int) - 1, u3, u4, I4) (sC rfl (sC rfl (sC rfl (sC rfl (sC rfl sN))))) (fun _ h => h) (by show i < i + 1; omega) ⟨by show i ≤ _; omega, rfl, hs3.le hx4.le, hs4, hx2.trans (hx3.trans hx4 (Nat.le_refl _)) (Nat.le_refl _), hle.trans (hx3.le.trans hx4.le)⟩)
  have f2 := h2;try simp only [bl] at f2
  refine c_exit (then_x (then_x (blk_eq rfl (tC (sR ?_)))));iterate 5 refine oV ?_
  refine nE ?_;refine ret3 rfl rfl rfl rfl ?_
  have hj0 : j = 0 := by omega
  subst hj0
  rw [Nat.pow_zero, Nat.div_one] at hq hr
  exact leaf hx2 (List.nil_sublist _) ⟨uq, ur, rfl, hq, hr⟩
theorem rSmall_any (va : Value) (A : List Nat) (d : Nat) {I : Hp} (ha : Ws I va A) (hs : A.length ≤ 35184372088400) (hd0 : 0 < d) (hd : d < 4294967296) : Fun Tryz.prog 116 [va, .int .u32 (d : Int)] I [] (fun v I' _ => ∃ u, v = .tuple #[u, .int .u32 ((val A % d : Nat) : Int), .bool true] ∧ Ws I' u (natW (val A / d))) := by
  have hv1 : val [d] = d := by rw [val_cons, val_nil]; omega
  intro w hw
  refine enter2 _ Tryz.func116 rfl Tryz.ntmps116 rfl ?_ hw;refine sR ?_;iterate 3 refine oV ?_
  refine nS ?_;iterate 2 refine oV ?_
  refine oB Tryz.underlying33 Tryz.sizeOf134 Tryz.zeroValue134 fun b13 => ?_;refine l_sealW [d] .here (Wds_cons hd Wds_nil) (by unfold maxLen; simp) (fun I1 hx1 hs1 => ?_);refine oI Tryz.call148 rfl (rDiv_any _ _ A [d] (ha.le hx1.le) hs1 hs (by simp) (by rw [hv1]; exact hd0)) ?_;rintro _ I2 hx2 ⟨u1, u2, rfl, hq, hr⟩;iterate 7 refine oV ?_
  refine oN (tC (cS (cS ?_)))
  rw [hv1] at hq hr
  have hrd : val A % d < d := Nat.mod_lt _ hd0
  have hrl := natW_len_le (n := val A % d) (k := 1) (by rw [Nat.pow_one]; omega)
  refine cR ?_;refine oV ?_;refine o_lenW trivial rfl Tryz.underlying33 rfl (hr) ?_;refine oV ?_;refine nT ?_;refine cC rfl (fun h1 => ?_) (fun h1 => ?_)
  ·
   have f1 := h1;try simp only [bl] at f1
   refine sR ?_;iterate 5 refine oV ?_
   refine nF ?_;refine ret3 rfl rfl rfl rfl ?_
   have h0 : val A % d = 0 := natW_len_zero.1 (by omega)
   refine leaf (hx1.trans hx2 (Nat.le_refl _)) (List.nil_sublist _) ⟨u1, ?_, hq⟩; rw [h0]; rfl
  have f1 := h1;try simp only [bl] at f1
  have h0 : val A % d ≠ 0 := fun e => f1 (by rw [e, natW_zero]; rfl)
  have hdg : dg (natW (val A % d)) 0 = val A % d := by rw [natW_pos h0]; show (val A % d) % 4294967296 = _; exact Nat.mod_eq_of_lt (by omega)
  refine cK (tC (cS ?_));refine c_quiet (by kernel_rfl) (by kernel_rfl) (fun _ h => h.drawn) ?_;iterate 2 refine oV ?_
  refine o_elemW trivial rfl Tryz.underlying33 Tryz.sizeOf134 rfl (hr) rfl (by omega) ?_;refine o_load1I trivial rfl Tryz.isAgg134 rfl (hr.cellI (k := 0) rfl (by omega)) ?_;iterate 4 refine oV ?_
  refine nE ?_;refine ret3 rfl rfl rfl rfl ?_;refine leaf (hx1.trans hx2 (Nat.le_refl _)) (List.nil_sublist _) ⟨u1, ?_, hq⟩; rw [hdg]; rfl
theorem natW_even {n : Nat} (h : n ≠ 0) : dg (natW n) 0 % 2 = n % 2 := by
  rw [natW_pos h]; show (n % 4294967296) % 2 = n % 2; omega
structure OddOf (n x k : Nat) : Prop where
  eq : n = 2 ^ k * x
  odd : x % 2 = 1
theorem rOdd_any (va : Value) (n : Nat) {I : Hp} (ha : Ws I va (natW n)) (hs : (natW n).length ≤ 35184372088400) (h0 : 0 < n) : Fun Tryz.prog 201 [va] I [] (fun v I' _ => ∃ u x k, v = .tuple #[u, .int .i64 (k : Nat)] ∧ Ws I' u (natW x) ∧ OddOf n x k) := by
  intro w hw
  refine enter1 _ Tryz.func201 rfl Tryz.ntmps201 rfl ?_ hw;refine sR ?_;iterate 2 refine oV ?_
  refine nS ?_;refine oV ?_;refine oN (tC (cS (cB ?_)));refine c_loop (ι := Nat × Nat × Value × Hp) [] .nil (fun x => x.1) (fun x E0 => (0, x.2.2.1) :: (4, .int .i64 (x.2.1 : Nat)) :: E0) (fun x => St w [] x.2.2.2 []) (fun x => 0 < x.1 ∧ n = 2 ^ x.2.1 * x.1 ∧ Ws x.2.2.2 x.2.2.1 (natW x.1) ∧ (natW x.1).length ≤ 35184372088400 ∧ Ext w.heap.size I x.2.2.2) ((n, 0, va, I)) (sC rfl (sC rfl sN)) (fun _ h => h) (⟨h0, by simp, ha, hs, Ext.refl _ _⟩) ?_;rintro ⟨m, k, u, I1⟩ ⟨hm0, he, hu, hl, hx1⟩
  try dsimp only
  simp only at hm0 he hu hl hx1; have hne : (natW m).length ≠ 0 := fun e => by have := natW_len_zero.1 e; omega
  refine cS (sR ?_);refine oV ?_;refine o_lenW trivial rfl Tryz.underlying33 rfl (hu) ?_;refine oV ?_;refine' o_and trivial trivial rfl rfl rfl rfl rfl rfl rfl rfl (fun hb8 => ?_) ?_;rotate_left
  ·
   have fb8 := hb8
   try simp only [bl] at fb8
   refine gV hb8 ?_;refine o_elemW (wS rfl rfl hb8) rfl Tryz.underlying33 Tryz.sizeOf134 rfl (hu) rfl (by omega) ?_;refine o_load1I (wS rfl rfl hb8) rfl Tryz.isAgg134 rfl (hu.cellI (k := 0) rfl (by omega)) ?_;refine o_rem (wS rfl rfl hb8) rfl rfl rfl (by omega) ?_;refine gV hb8 ?_;refine oN ?_;exact joins rfl
  refine nT ?_;refine cC rfl (fun h1 => ?_) (fun h1 => ?_)
  ·
   have f1 := h1;try simp only [bl] at f1
   have hev := natW_even (n := m) (by omega)
   have hk64 : k < 32 * (natW n).length := by
     have h1 := val_lt (Wds_natW n)
     rw [val_natW, pow_bits] at h1
     have h2 : 2 ^ k ≤ n := by rw [he]; exact Nat.le_mul_of_pos_right _ hm0
     exact (Nat.pow_lt_pow_iff_right (by decide)).1 (Nat.lt_of_le_of_lt h2 h1)
   have hmm : m % 2 = 0 := by omega
   refine cK (tC (cB (sR ?_)));refine oV ?_;refine oI Tryz.call116 rfl (rSmall_any _ _ 2 hu hl (by decide) (by decide)) ?_;rintro _ I2 hx2 ⟨u2, rfl, hs2⟩;iterate 5 refine oV ?_
   refine nR ?_;refine oV ?_
   (refine o_add trivial rfl rfl rfl ?_ ?_; (omega))
   refine oV ?_;refine oN (blk_n ?_)
   rw [val_natW] at hs2
   exact again (m / 2, k + 1, u2, I2) (sC rfl (sC rfl sN)) (fun _ h => h) (by show m / 2 < m; omega) ⟨by show 0 < m / 2; omega, by show n = 2 ^ (k + 1) * (m / 2); rw [he, Nat.pow_succ, Nat.mul_assoc]; congr 1; omega, hs2, Nat.le_trans (natW_le_len (Nat.div_le_self _ _)) hl, hx1.trans hx2 (Nat.le_refl _)⟩
  have f1 := h1;try simp only [bl] at f1
  refine c_exit (then_x (then_x (blk_eq rfl (tC (sR ?_)))));iterate 4 refine oV ?_
  refine nE ?_;refine ret2 rfl rfl rfl ?_
  have hev := natW_even (n := m) (by omega)
  exact leaf hx1 (List.nil_sublist _) ⟨u, m, k, rfl, hu, he, by omega⟩
theorem OddOf.pos {n x k : Nat} (h : OddOf n x k) : 0 < x := by have := h.odd; omega
theorem OddOf.le {n x k : Nat} (h : OddOf n x k) : x ≤ n := by rw [h.eq]; exact Nat.le_mul_of_pos_left _ (Nat.pow_pos (by decide))
theorem OddOf.pow_lt {n x k L : Nat} (h : OddOf n x k) (hL : (natW n).length ≤ L) : k < 32 * L := by
  have h1 := val_lt (Wds_natW n)
  rw [val_natW, pow_bits] at h1
  have h2 : 2 ^ k ≤ n := by rw [h.eq]; exact Nat.le_mul_of_pos_right _ h.pos
  have h3 := (Nat.pow_lt_pow_iff_right (by decide)).1 (Nat.lt_of_le_of_lt h2 h1)
  omega
theorem rGcd_any (va vb : Value) (A B : List Nat) {I : Hp} (ha : Ws I va A) (hb : Ws I vb B) (hs : A.length ≤ 3000) (hs2 : B.length ≤ 3000) : Fun Tryz.prog 174 [va, vb] I [] (fun v I' _ => Ws I' v (natW (Nat.gcd (val A) (val B)))) := by
  have hal : (natW (val A)).length ≤ 3000 := Nat.le_trans (natW_len_list ha.wds) hs
  have hbl : (natW (val B)).length ≤ 3000 := Nat.le_trans (natW_len_list hb.wds) hs2
  intro w hw
  refine enter2 _ Tryz.func174 rfl Tryz.ntmps174 rfl ?_ hw;refine sR ?_;refine oV ?_;refine nS ?_;refine oV ?_;refine oI Tryz.call115 rfl (rTrim_any _ _ ha (by omega)) ?_;rintro u1 I1 hx1 hs1;refine oV ?_;refine nS ?_;refine oV ?_;refine oI Tryz.call115 rfl (rTrim_any _ _ (hb.le hx1.le) (by omega)) ?_;rintro u2 I2 hx2 hs2';refine oV ?_;refine nU ?_;refine oV ?_;refine o_lenW trivial rfl Tryz.underlying33 rfl (hs1.le hx2.le) ?_;refine oV ?_;refine nT ?_;refine cC rfl (fun h1 => ?_) (fun h1 => ?_)
  ·
   have f1 := h1;try simp only [bl] at f1
   refine sR ?_;iterate 2 refine oV ?_
   refine nF ?_;refine ret1 rfl rfl ?_
   have h0 : val A = 0 := natW_len_zero.1 (by omega)
   refine leaf (hx1.trans hx2 (Nat.le_refl _)) (List.nil_sublist _) ?_; rw [h0, Nat.gcd_zero_left]; exact hs2'
  have f1 := h1;try simp only [bl] at f1
  refine cK (tC (cS (sR ?_)));refine oV ?_;refine o_lenW trivial rfl Tryz.underlying33 rfl (hs2') ?_;refine oV ?_;refine nT ?_;refine cC rfl (fun h2 => ?_) (fun h2 => ?_)
  ·
   have f2 := h2;try simp only [bl] at f2
   refine sR ?_;iterate 2 refine oV ?_
   refine nF ?_;refine ret1 rfl rfl ?_
   have h0 : val B = 0 := natW_len_zero.1 (by omega)
   refine leaf (hx1.trans hx2 (Nat.le_refl _)) (List.nil_sublist _) ?_; rw [h0, Nat.gcd_zero_right]; exact hs1.le hx2.le
  have f2 := h2;try simp only [bl] at f2
  have hA0 : 0 < val A := Nat.pos_of_ne_zero fun e => f1 (by rw [e, natW_zero]; rfl)
  have hB0 : 0 < val B := Nat.pos_of_ne_zero fun e => f2 (by rw [e, natW_zero]; rfl)
  refine kS ?_;refine oV ?_;refine oI Tryz.call201 rfl (rOdd_any _ _ (hs1.le hx2.le) (by omega) hA0) ?_;rintro _ I3 hx3 ⟨u3, x, n, rfl, hs3, ho3⟩;iterate 5 refine oV ?_
  refine oN (tC (cS ?_))
  have hn := ho3.pow_lt hal
  refine cR ?_;refine oV ?_;refine oI Tryz.call201 rfl (rOdd_any _ _ (hs2'.le hx3.le) (by omega) hB0) ?_;rintro _ I4 hx4 ⟨u4, y, k, rfl, hs4, ho4⟩;iterate 5 refine oV ?_
  refine oN (tC (cS (cB ?_)));refine c_loop (ι := Nat × Nat × Value × Value × Hp) [7, 8] (.cons rfl (.cons rfl .nil)) (fun t => t.1 + t.2.1) (fun t E0 => (5, t.2.2.1) :: (6, t.2.2.2.1) :: E0) (fun t => St w [] t.2.2.2.2 []) (fun t => t.1 % 2 = 1 ∧ t.2.1 % 2 = 1 ∧ Nat.gcd t.1 t.2.1 = Nat.gcd x y ∧ Ws t.2.2.2.2 t.2.2.1 (natW t.1) ∧ Ws t.2.2.2.2 t.2.2.2.1 (natW t.2.1) ∧ (natW t.1).length ≤ 3000 ∧ (natW t.2.1).length ≤ 3000 ∧ Ext w.heap.size I t.2.2.2.2) ((x, y, u3, u4, I4)) (sC rfl (sC rfl (sC rfl (sC rfl sN)))) (fun _ h => h) (⟨ho3.odd, ho4.odd, rfl, hs3.le hx4.le, hs4, Nat.le_trans (natW_le_len ho3.le) hal, Nat.le_trans (natW_le_len ho4.le) hbl, hx1.trans (hx2.trans (hx3.trans hx4 (Nat.le_refl _)) (Nat.le_refl _)) (Nat.le_refl _)⟩) ?_;rintro ⟨a, b, ua, ub, I5⟩ ⟨hao, hbo, hg, hua, hub, hla, hlb, hx5⟩
  try dsimp only
  simp only at hao hbo hg hua hub hla hlb hx5
  refine cS (sR ?_);iterate 2 refine oV ?_
  refine oQ Tryz.call179 rfl (rCmp_any _ _ _ _ hua hub (by omega) (by omega)) ?_;refine oV ?_;refine nT ?_;refine cC rfl (fun h3 => ?_) (fun h3 => ?_)
  ·
   have f3 := h3;try simp only [bl] at f3
   rw [val_natW, val_natW] at f3
   have hab : a ≠ b := fun e => f3 (by rw [e]; exact cmpZ_self _)
   refine cK (tC (cB ?_));refine c_cut (ι := Nat × Nat × Value × Value) [7, 8] (.cons rfl (.cons rfl .nil)) (fun t E0 => (5, t.2.2.1) :: (6, t.2.2.2) :: E0) (fun t => St w [] I5 []) (fun t => t.1 % 2 = 1 ∧ t.2.1 % 2 = 1 ∧ Nat.gcd t.1 t.2.1 = Nat.gcd x y ∧ Ws I5 t.2.2.1 (natW t.1) ∧ Ws I5 t.2.2.2 (natW t.2.1) ∧ (natW t.1).length ≤ 3000 ∧ (natW t.2.1).length ≤ 3000 ∧ t.2.1 < t.1 ∧ t.1 + t.2.1 = a + b) ?_ ?_
   ·
    refine sR ?_;iterate 2 refine oV ?_
    refine oQ Tryz.call179 rfl (rCmp_any _ _ _ _ hua hub (by omega) (by omega)) ?_;refine oV ?_;refine nT ?_;refine cC rfl (fun h4 => ?_) (fun h4 => ?_)
    ·
     have f4 := h4;try simp only [bl] at f4
     rw [val_natW, val_natW] at f4
     have hlt : a < b := by unfold cmpZ at f4; split at f4 <;> (try split at f4) <;> omega
     refine sR ?_;iterate 2 refine oV ?_
     refine nS ?_;iterate 2 refine oV ?_
     refine nR ?_;iterate 2 refine oV ?_
     refine oN ?_
     (exact meet (b, a, ub, ua) (sC rfl (sC rfl (sC rfl (sC rfl sN)))) (fun _ h => h) ⟨hbo, hao, by rw [Nat.gcd_comm]; exact hg, hub, hua, hlb, hla, hlt, by show b + a = a + b; omega⟩)
    have f4 := h4;try simp only [bl] at f4
    rw [val_natW, val_natW] at f4
    have hlt : ¬ a < b := fun h => by rw [cmpZ_lt (by omega)] at f4; omega
    refine cK ?_
    (exact meet (a, b, ua, ub) (sC rfl (sC rfl (sC rfl (sC rfl sN)))) (fun _ h => h) ⟨hao, hbo, hg, hua, hub, hla, hlb, by show b < a; omega, rfl⟩)
   rintro ⟨c, d, uc, ud⟩ ⟨hco, hdo, hg2, huc, hud, hlc, hld, hdc, hsum⟩
   try dsimp only
   refine cS ?_
   simp only at hco hdo hg2 huc hud hlc hld hdc hsum
   refine cR ?_;iterate 2 refine oV ?_
   refine oI Tryz.call180 rfl (rSub_any _ _ _ _ huc hud (by omega) (by omega) (by rw [val_natW, val_natW]; omega)) ?_;rintro _ I6 hx6 ⟨u6, rfl, hs6⟩;iterate 4 refine oV ?_
   refine nT ?_
   rw [val_natW, val_natW] at hs6
   have hl6 : (natW (c - d)).length ≤ 3000 := Nat.le_trans (natW_le_len (Nat.sub_le _ _)) hlc
   refine cR ?_;refine oV ?_;refine oI Tryz.call201 rfl (rOdd_any _ _ hs6 (by omega) (by omega)) ?_;rintro _ I7 hx7 ⟨u7, z, p, rfl, hs7, ho7⟩;iterate 4 refine oV ?_
   refine oN (blk_n ?_);exact again (z, d, u7, ud, I7) (sC rfl (sC rfl (sC rfl (sC rfl sN)))) (fun _ h => h) (by show z + d < a + b; have := ho7.le; omega) ⟨ho7.odd, hdo, by show Nat.gcd z d = _; rw [gcd_less hdo (by omega) ho7.eq]; exact hg2, hs7, hud.le (hx6.le.trans hx7.le), Nat.le_trans (natW_le_len ho7.le) hl6, hld, hx5.trans (hx6.trans hx7 (Nat.le_refl _)) (Nat.le_refl _)⟩
  have f3 := h3;try simp only [bl] at f3
  rw [val_natW, val_natW] at f3
  have hab : a = b := by have := cmpZ_zero f3; omega
  refine c_exit (then_x (then_x (blk_eq rfl (tC (sR ?_)))));iterate 3 refine oV ?_
  refine o_min2 trivial rfl rfl rfl ?_
  rw [show min (n : Int) (k : Int) = ((min n k : Nat) : Int) by omega]
  refine oI Tryz.call202 rfl (rShift_any _ _ (min n k) hua (by omega) (by omega)) ?_;rintro u8 I8 hx8 hs8;refine oV ?_;refine nE ?_;refine ret1 rfl rfl ?_;refine leaf (hx5.trans hx8 (Nat.le_refl _)) (List.nil_sublist _) ?_
  rw [val_natW] at hs8
  rw [ho3.eq, ho4.eq, gcd_twos ho3.odd ho4.odd, ← hg, ← hab, Nat.gcd_self]
  exact hs8
theorem rLowest_any (va vb : Value) (A B : List Nat) {I : Hp} (ha : Ws I va A) (hb : Ws I vb B) (hs : A.length ≤ 3000) (hs2 : B.length ≤ 3000) : Fun Tryz.prog 142 [va, vb] I [] (fun v I' _ => ∃ u1 u2, v = .tuple #[u1, u2, .bool (decide (val B ≠ 0))] ∧ (val B ≠ 0 → Ws I' u1 (natW (val A / Nat.gcd (val A) (val B))) ∧ Ws I' u2 (natW (val B / Nat.gcd (val A) (val B))))) := by
  have hbl : (natW (val B)).length ≤ 3000 := Nat.le_trans (natW_len_list hb.wds) hs2
  intro w hw
  refine enter2 _ Tryz.func142 rfl Tryz.ntmps142 rfl ?_ hw;refine sR ?_;iterate 3 refine oV ?_
  refine nS ?_;refine oV ?_;refine oI Tryz.call115 rfl (rTrim_any _ _ hb (by omega)) ?_;rintro u1 I1 hx1 hs1;refine oV ?_;refine nU ?_;refine oV ?_;refine o_lenW trivial rfl Tryz.underlying33 rfl (hs1) ?_;refine oV ?_;refine nT ?_;refine cC rfl (fun h1 => ?_) (fun h1 => ?_)
  ·
   have f1 := h1;try simp only [bl] at f1
   refine sR ?_;iterate 3 refine oV ?_
   refine nF ?_;refine ret3 rfl rfl rfl rfl ?_
   have h0 : val B = 0 := natW_len_zero.1 (by omega)
   refine leaf hx1 (List.nil_sublist _) ⟨.slice none 0 0, .slice none 0 0, ?_, fun h => absurd h0 h⟩; rw [decide_eq_false (not_not_intro h0)]
  have f1 := h1;try simp only [bl] at f1
  have h0 : 0 < val B := Nat.pos_of_ne_zero fun e => f1 (by rw [e, natW_zero]; rfl)
  have hg : 0 < Nat.gcd (val A) (val B) := Nat.gcd_pos_of_pos_right _ h0
  have hgl : (natW (Nat.gcd (val A) (val B))).length ≤ 3000 := Nat.le_trans (natW_le_len (Nat.gcd_le_right _ h0)) hbl
  refine kS ?_;iterate 2 refine oV ?_
  refine oI Tryz.call174 rfl (rGcd_any _ _ _ _ (ha.le hx1.le) hs1 hs (by omega)) ?_;rintro u2 I2 hx2 hs2';refine oV ?_;refine oN (tC (cS ?_))
  rw [val_natW] at hs2'
  refine cR ?_;iterate 2 refine oV ?_
  refine oI Tryz.call148 rfl (rDiv_any _ _ _ _ (ha.le (hx1.le.trans hx2.le)) hs2' (by omega) (by omega) (by rw [val_natW]; exact hg)) ?_;rintro _ I3 hx3 ⟨u3, u4, rfl, hq3, hr3⟩;iterate 7 refine oV ?_
  refine nS ?_;iterate 2 refine oV ?_
  refine oI Tryz.call148 rfl (rDiv_any _ _ _ _ (hs1.le (hx2.le.trans hx3.le)) (hs2'.le hx3.le) (by omega) (by omega) (by rw [val_natW]; exact hg)) ?_;rintro _ I4 hx4 ⟨u5, u6, rfl, hq5, hr5⟩;iterate 5 refine oV ?_
  refine nS ?_;iterate 5 refine oV ?_
  refine nE ?_;refine ret3 rfl rfl rfl rfl ?_
  rw [val_natW] at hq3
  rw [val_natW, val_natW] at hq5
  refine leaf (hx1.trans (hx2.trans (hx3.trans hx4 (Nat.le_refl _)) (Nat.le_refl _)) (Nat.le_refl _)) (List.nil_sublist _) ⟨u3, u5, ?_, fun _ => ⟨hq3.le hx4.le, hq5⟩⟩; rw [decide_eq_true (by omega)]; rfl
theorem rOf7_any (n : Int) {I : Hp} (hn : -1000000 ≤ n ∧ n ≤ 1000000) : Fun Tryz.prog 107 [.int .i64 n] I [] (fun v I' _ => IntV I' v n) := by
  intro w hw
  refine enter1 _ Tryz.func107 rfl Tryz.ntmps107 rfl ?_ hw;refine sR ?_;refine o_alloc trivial rfl Tryz.zeroValue132 rfl (fun b2 => ?_);refine nU ?_;iterate 2 refine oV ?_
  refine nT ?_;refine cC rfl (fun h1 => ?_) (fun h1 => ?_)
  ·
   have f1 := h1;try simp only [bl] at f1
   refine sR ?_;refine oV ?_;refine o_convIn trivial rfl Tryz.underlying3 Tryz.underlying136 rfl (by rw [IntWalk.u64_in _ (by omega)]) ?_
   rw [show n = ((n.natAbs : Nat) : Int) by omega]
   refine oI Tryz.call86 rfl (rOf_any n.natAbs (by omega)) ?_;rintro u1 I1 hx1 hs1;refine o_buildS trivial rfl (bld132) rfl (.cons rfl (by exact (Ws.cells1 (by assumption)).1) (by rfl) (by repeat constructor) .nil) ?_;refine oS Tryz.sizeOf132 ?_;refine nF ?_;refine retR rfl (.agg Tryz.isAgg132 Tryz.sizeOf132 rfl (by repeat constructor) rfl .nil) ?_;refine leaf hx1 (List.nil_sublist _) ⟨u1, ?_, hs1⟩; rw [decide_eq_false (by omega)]; rfl
  have f1 := h1;try simp only [bl] at f1
  refine kS ?_;refine oV ?_;refine o_conv trivial rfl Tryz.underlying3 Tryz.underlying136 rfl ?_;refine oV ?_;refine oV ?_;refine oN (tC (cS ?_))
  rw [show IntKind.u64.wrap (0 - IntKind.u64.wrap n) = ((n.natAbs : Nat) : Int) by simp only [IntKind.wrap_u64]; omega]
  refine cR ?_;refine oV ?_;refine oI Tryz.call86 rfl (rOf_any n.natAbs (by omega)) ?_;rintro u2 I2 hx2 hs2;refine o_buildS trivial rfl (bld132) rfl (.cons rfl rfl rfl (by repeat constructor) (.cons rfl (by exact (Ws.cells1 (by assumption)).1) (by rfl) (by repeat constructor) .nil)) ?_;refine oS Tryz.sizeOf132 ?_;refine nE ?_;refine retR rfl (.agg Tryz.isAgg132 Tryz.sizeOf132 rfl (by repeat constructor) rfl .nil) ?_;refine leaf hx2 (List.nil_sublist _) ⟨u2, ?_, hs2⟩; rw [decide_eq_true (by omega)]; rfl
theorem natW_one : natW 1 = [1] := by rw [natW_pos (by decide), show 1 / 4294967296 = 0 from rfl, natW_zero]
theorem rlow_any (neg : Bool) (va vb : Value) (A B : List Nat) {I : Hp} (ha : Ws I va A) (hb : Ws I vb B) (hs : A.length ≤ 3000) (hs2 : B.length ≤ 3000) : Fun Tryz.prog 106 [.agg #[.bool neg, va], vb] I [] (fun v I' _ => RatV I' v (lowQ neg (val A) (val B))) := by
  intro w hw
  refine enter2 _ Tryz.func106 rfl Tryz.ntmps106 rfl ?_ hw;refine sR ?_;refine o_box trivial rfl rfl rfl (fun b2 => ?_);refine o_alloc trivial rfl Tryz.zeroValue35 rfl (fun b4 => ?_);refine nS ?_;refine oF 1 Tryz.underlying132 Tryz.sizeOf33 ?_;refine oL Tryz.isAgg33 ?_;refine oV ?_;refine oI Tryz.call142 rfl (rLowest_any _ _ _ _ ha hb hs hs2) ?_;rintro _ I1 hx1 ⟨u1, u2, rfl, hs1⟩;iterate 7 refine oV ?_
  refine nU ?_;iterate 2 refine oV ?_
  refine' o_or trivial trivial rfl rfl rfl rfl rfl rfl rfl rfl (fun hb18 => ?_) ?_;rotate_left
  ·
   have fb18 := hb18
   try simp only [bl] at fb18
   have hB : val B ≠ 0 := by simpa using hb18
   obtain ⟨hu1, hu2⟩ := hs1 hB
   refine gV hb18 ?_;refine o_lenW (wS rfl rfl hb18) rfl Tryz.underlying33 rfl (hu1) ?_;refine gV hb18 ?_;refine oN ?_;exact joins rfl
  refine nT ?_;refine cC rfl (fun h1 => ?_) (fun h1 => ?_)
  ·
   have f1 := h1;try simp only [bl] at f1
   have h0 : val B = 0 ∨ val A = 0 := by
     rcases f1 with f1 | f1
     · exact .inl (Decidable.not_not.1 f1)
     · by_cases hB : val B = 0
       · exact .inl hB
       · exact .inr (div_gcd_zero (natW_len_zero.1 (by omega)) hB)
   refine sR ?_;refine oB Tryz.underlying33 Tryz.sizeOf134 Tryz.zeroValue134 fun b23 => ?_;refine l_sealW [1] .here (Wds_cons (by decide) Wds_nil) (by unfold maxLen; simp) (fun I2 hx2 hs2' => ?_);refine o_buildS trivial rfl (bld35) rfl (.cons rfl (by exact (Ws.cells1 (by assumption)).1) (by rfl) (by repeat constructor) .nil) ?_;refine oS Tryz.sizeOf35 ?_;refine nF ?_;refine retR rfl (.agg Tryz.isAgg35 Tryz.sizeOf35 rfl (by repeat constructor) rfl .nil) ?_;refine leaf (hx1.trans hx2 (Nat.le_refl _)) (List.nil_sublist _) ?_
   rw [lowQ_zero h0]; exact RatV.zero (by rw [natW_one]; exact hs2')
  have f1 := h1;try simp only [bl] at f1
  have hB : val B ≠ 0 := fun e => f1.1 e
  obtain ⟨hu1, hu2⟩ := hs1 hB
  have hA : val A ≠ 0 := fun e => f1.2 (by rw [e, Nat.zero_div, natW_zero]; rfl)
  obtain ⟨e1, e2, e3⟩ := lowQ_parts (neg := neg) hA hB
  refine kS ?_;refine oF 0 Tryz.underlying132 Tryz.sizeOf4 ?_;refine oL Tryz.isAgg4 ?_;iterate 2 refine oV ?_
  refine o_buildS trivial rfl (bld35) rfl (.cons rfl rfl rfl (by repeat constructor) (.cons rfl (by exact (Ws.cells1 (by assumption)).1) (by rfl) (by repeat constructor) (.cons rfl (by exact (Ws.cells1 (by assumption)).1) (by rfl) (by repeat constructor) .nil))) ?_;refine oS Tryz.sizeOf35 ?_;refine nE ?_;refine retR rfl (.agg Tryz.isAgg35 Tryz.sizeOf35 rfl (by repeat constructor) rfl .nil) ?_;refine leaf hx1 (List.nil_sublist _) ⟨u1, u2, ?_, ?_, ?_⟩
  · rw [e3]; rfl
  · rw [e1]; exact hu1
  · rw [e2]; exact hu2
theorem rEqual_any (s1 s2 : Bool) (va vb vc vd : Value) (A B C D : List Nat) {I : Hp} (ha : Ws I va A) (hb : Ws I vb B) (hc : Ws I vc C) (hd : Ws I vd D) : Fun Tryz.prog 67 [.agg #[.bool s1, va, vb], .agg #[.bool s2, vc, vd]] I [] (fun v _ _ => v = .bool (decide (s1 = s2) && decide (A = C) && decide (B = D))) := by
  intro w hw
  refine enter2 _ Tryz.func67 rfl Tryz.ntmps67 rfl ?_ hw;refine sR ?_;refine o_box trivial rfl rfl rfl (fun b2 => ?_);refine o_box trivial rfl rfl rfl (fun b3 => ?_);refine oV ?_;refine nS ?_;refine oF 0 Tryz.underlying35 Tryz.sizeOf4 ?_;refine oL Tryz.isAgg4 ?_;refine oF 0 Tryz.underlying35 Tryz.sizeOf4 ?_;refine oL Tryz.isAgg4 ?_;refine o_eqlB trivial rfl rfl rfl Tryz.underlying4 ?_;refine' o_and trivial trivial rfl rfl rfl rfl rfl rfl rfl rfl (fun hb10 => ?_) ?_;rotate_left
  ·
   have fb10 := hb10
   try simp only [bl] at fb10
   refine gF hb10 1 Tryz.underlying35 Tryz.sizeOf33 ?_;refine gL hb10 Tryz.isAgg33 ?_;refine gF hb10 1 Tryz.underlying35 Tryz.sizeOf33 ?_;refine gL hb10 Tryz.isAgg33 ?_;refine o_callQ (wS rfl rfl hb10) rfl Tryz.call85 rfl (rWords_any _ _ _ _ ha hc) ?_;refine oN ?_;exact joins rfl
  refine' o_and trivial trivial rfl rfl rfl rfl rfl rfl rfl rfl (fun hb17 => ?_) ?_;rotate_left
  ·
   have fb17 := hb17
   try simp only [bl] at fb17
   refine gF hb17 2 Tryz.underlying35 Tryz.sizeOf33 ?_;refine gL hb17 Tryz.isAgg33 ?_;refine gF hb17 2 Tryz.underlying35 Tryz.sizeOf33 ?_;refine gL hb17 Tryz.isAgg33 ?_;refine o_callQ (wS rfl rfl hb17) rfl Tryz.call85 rfl (rWords_any _ _ _ _ hb hd) ?_;refine oN ?_;exact joins rfl
  refine oV ?_;refine nE ?_;refine ret1 rfl rfl ?_;refine leaf0 (congrArg Value.bool ?_)
  congr 2
theorem val_one : val [1] = 1 := by rw [val_cons, val_nil]
theorem rOf8_any (n : Int) {I : Hp} (hn : -1000000 ≤ n ∧ n ≤ 1000000) : Fun Tryz.prog 63 [.int .i64 n] I [] (fun v I' _ => RatV I' v (mkRat n 1)) := by
  have hl : (natW n.natAbs).length ≤ 3000 := natW_len_of (k := 1) (by rw [Nat.pow_one]; omega) (by decide)
  intro w hw
  refine enter1 _ Tryz.func63 rfl Tryz.ntmps63 rfl ?_ hw;refine sR ?_;refine o_alloc trivial rfl Tryz.zeroValue35 rfl (fun b2 => ?_);refine nS ?_;refine oV ?_;refine oI Tryz.call107 rfl (rOf7_any n hn) ?_;rintro _ I1 hx1 ⟨u1, rfl, hs1⟩;refine oB Tryz.underlying33 Tryz.sizeOf134 Tryz.zeroValue134 fun b5 => ?_;refine l_sealW [1] .here (Wds_cons (by decide) Wds_nil) (by unfold maxLen; simp) (fun I2 hx2 hs2 => ?_);refine oI Tryz.call106 rfl (rlow_any (decide (n < 0)) _ _ _ _ (hs1.le hx2.le) hs2 hl (by simp)) ?_;rintro _ I3 hx3 ⟨u3, u4, rfl, h3, h4⟩;refine oS Tryz.sizeOf35 ?_;refine nE ?_;refine retR rfl (.agg Tryz.isAgg35 Tryz.sizeOf35 rfl (by repeat constructor) rfl .nil) ?_
  rw [val_natW, val_one, lowQ_int] at h3 h4
  refine leaf (hx1.trans (hx2.trans hx3 (Nat.le_refl _)) (Nat.le_refl _)) (List.nil_sublist _) ⟨u3, u4, ?_, h3, h4⟩
  rw [val_natW, val_one, lowQ_int]; rfl
def isR (bad : Bool) (L : List Tok) (i : Nat) (k : Int) (s : ByteArray) : Bool := !bad && hdT (L.drop i) k s
theorem add_none {L : List Tok} {j : Nat} (h : (isR false L j 2 plusS || isR false L j 2 minusS) = false) : hdK addK (L.drop j) = none := by
  unfold isR at h
  simp only [Bool.not_false, Bool.true_and, Bool.or_eq_false_iff] at h
  cases hr : L.drop j with
  | nil => rfl
  | cons x r =>
    rw [hr] at h
    simp only [hdT] at h
    show addK x = none
    unfold addK
    rw [h.1, h.2]; rfl
def LowN (l : List NodeC) : Prop := ∀ (i : Nat) (c : NodeC), l[i]? = some c → 1 < c.kind → 0 ≤ c.a ∧ c.a < i ∧ (c.kind ≤ 5 → 0 ≤ c.b ∧ c.b < i)
theorem nd_low : ∀ (x : Ex) (b j : Nat) (c : NodeC), x.ok → (x.nd b)[j]? = some c → 1 < c.kind → (b : Int) ≤ c.a ∧ c.a < (b + j : Nat) ∧ (c.kind ≤ 5 → (b : Int) ≤ c.b ∧ c.b < (b + j : Nat)) := by
  intro x
  have last : ∀ {u : List NodeC} {c0 c : NodeC} {j : Nat}, (u ++ [c0])[j]? = some c → ¬ j < u.length → j = u.length ∧ c = c0 := by
    intro u c0 c j h hj
    rw [List.getElem?_append_right (by omega)] at h
    have := (List.getElem?_eq_some_iff.1 h)
    obtain ⟨h1, h2⟩ := this
    simp at h1 h2
    exact ⟨by omega, h2.symm⟩
  induction x with
  | ref t =>
    intro b j c _ h hk
    have : c = refN t := by
      obtain ⟨h1, h2⟩ := List.getElem?_eq_some_iff.1 h
      simp [Ex.nd] at h2; exact h2.symm
    subst this
    exact absurd hk (by simp [refN])
  | num q =>
    intro b j c _ h hk
    have : c = numN q := by
      obtain ⟨h1, h2⟩ := List.getElem?_eq_some_iff.1 h
      simp [Ex.nd] at h2; exact h2.symm
    subst this
    exact absurd hk (by simp [numN])
  | neg x ih =>
    intro b j c hok h hk
    have hp := x.n_pos
    have hl := x.nd_len b
    by_cases hj : j < (x.nd b).length
    · simp only [Ex.nd] at h
      rw [List.getElem?_append_left hj] at h
      exact ih b j c hok h hk
    · obtain ⟨e1, e2⟩ := last h hj
      subst e2
      refine ⟨?_, ?_, ?_⟩
      · show (b : Int) ≤ (b : Int) + x.n - 1; omega
      · show (b : Int) + x.n - 1 < _; omega
      · intro h5; exact absurd h5 (by show ¬ (6 : Int) ≤ 5; decide)
  | pow x e ih =>
    intro b j c hok h hk
    have hp := x.n_pos
    have hl := x.nd_len b
    by_cases hj : j < (x.nd b).length
    · simp only [Ex.nd] at h
      rw [List.getElem?_append_left hj] at h
      exact ih b j c hok.1 h hk
    · obtain ⟨e1, e2⟩ := last h hj
      subst e2
      refine ⟨?_, ?_, ?_⟩
      · show (b : Int) ≤ (b : Int) + x.n - 1; omega
      · show (b : Int) + x.n - 1 < _; omega
      · intro h5; exact absurd h5 (by show ¬ (7 : Int) ≤ 5; decide)
  | bin k x y ih1 ih2 =>
    intro b j c hok h hk
    have hp := x.n_pos
    have hp2 := y.n_pos
    have hl := x.nd_len b
    have hl2 := y.nd_len (b + x.n)
    by_cases hj : j < (x.nd b ++ y.nd (b + x.n)).length
    · simp only [Ex.nd] at h
      rw [List.getElem?_append_left hj] at h
      by_cases hx : j < (x.nd b).length
      · rw [List.getElem?_append_left hx] at h
        exact ih1 b j c hok.2.2.1 h hk
      · rw [List.getElem?_append_right (by omega)] at h
        have := ih2 (b + x.n) _ c hok.2.2.2 h hk
        refine ⟨by omega, by omega, fun h5 => ?_⟩
        have := this.2.2 h5
        omega
    · obtain ⟨e1, e2⟩ := last h hj
      rw [List.length_append] at e1
      subst e2
      refine ⟨?_, ?_, fun _ => ⟨?_, ?_⟩⟩
      · show (b : Int) ≤ (b : Int) + x.n - 1; omega
      · show (b : Int) + x.n - 1 < _; omega
      · show (b : Int) ≤ (b : Int) + x.n + y.n - 1; omega
      · show (b : Int) + x.n + y.n - 1 < _; omega
theorem laid_low : ∀ (l : List (ByteArray × Ex)) (b j : Nat) (c : NodeC), LetsOk l → (laid l b).2[j]? = some c → 1 < c.kind → (b : Int) ≤ c.a ∧ c.a < (b + j : Nat) ∧ (c.kind ≤ 5 → (b : Int) ≤ c.b ∧ c.b < (b + j : Nat))
  | [], _, _, _, _, h, _ => by cases h
  | (s, x) :: l, b, j, c, hok, h, hk => by
    simp only [laid] at h
    have hl := x.nd_len b
    by_cases hx : j < (x.nd b).length
    · rw [List.getElem?_append_left hx] at h
      exact nd_low x b j c (hok (s, x) (by simp)).2 h hk
    · rw [List.getElem?_append_right (by omega)] at h
      have := laid_low l (b + x.n) _ c (fun a ha => hok a (by simp [ha])) h hk
      refine ⟨by omega, by omega, fun h5 => ?_⟩
      have := this.2.2 h5
      omega
theorem shaped_low {p : ProgC} {l : List (ByteArray × Ex)} (h : Shaped p l) : LowN p.all := fun i c hc hk => by
  rw [h.all] at hc
  have := laid_low l 0 i c h.ok hc hk
  refine ⟨by omega, by omega, fun h5 => ?_⟩
  have := this.2.2 h5
  omega
end Go.Proofs.YtfcmhcaggdakbaaGreatDoor
namespace Go.Tw
open Go
theorem inv_num_abs {q : Rat} (h : q ≠ 0) : (q⁻¹).num.natAbs = q.den := by
  have hn : q.num ≠ 0 := fun e => h (Rat.num_eq_zero.1 e)
  rw [Rat.num_inv, Int.natAbs_mul, Int.natAbs_natCast]
  rcases Int.lt_or_gt_of_ne hn with h1 | h1
  · rw [Int.sign_eq_neg_one_of_neg h1]; simp
  · rw [Int.sign_eq_one_of_pos h1]; simp
theorem inv_den {q : Rat} (h : q ≠ 0) : (q⁻¹).den = q.num.natAbs := by
  have hn : q.num ≠ 0 := fun e => h (Rat.num_eq_zero.1 e)
  rw [Rat.den_inv, if_neg hn]
theorem Few.inv {k : Nat} {q : Rat} (h : Few k q) (h0 : q ≠ 0) : Few k q⁻¹ := ⟨by rw [inv_num_abs h0]; exact h.den, by rw [inv_den h0]; exact h.num⟩
theorem Few.pow {k : Nat} {q : Rat} (h : Few k q) (m : Nat) : Few (k * m + 1) (q ^ m) := by
  have key : ∀ a : Nat, a < 4294967296 ^ k → a ^ m < 4294967296 ^ (k * m + 1) := fun a ha => by
    have h2 : a ^ m ≤ (4294967296 ^ k) ^ m := Nat.pow_le_pow_left (Nat.le_of_lt ha) m
    rw [← Nat.pow_mul] at h2
    exact Nat.lt_of_le_of_lt h2 (Nat.pow_lt_pow_right (by decide) (Nat.lt_succ_self _))
  exact ⟨by rw [Rat.num_pow, Int.natAbs_pow]; exact key _ h.num, by rw [Rat.den_pow]; exact key _ h.den⟩
def powX (q : Rat) (n : Int) : Rat := if n < 0 then q⁻¹ else q
theorem powX_pow (q : Rat) (n : Int) : powX q n ^ n.natAbs = q ^ n := by
  unfold powX
  by_cases h : n < 0
  · rw [if_pos h]
    have e : n = -((n.natAbs : Nat) : Int) := by omega
    conv => rhs; rw [e]
    rw [Rat.zpow_neg, Rat.zpow_natCast]
    generalize n.natAbs = k
    induction k with
    | zero => rw [Rat.pow_zero, Rat.pow_zero]; exact (Rat.inv_eq_of_mul_eq_one (Rat.mul_one 1)).symm
    | succ k ih => rw [Rat.pow_succ, Rat.pow_succ, ih, Rat.inv_mul_rev, Rat.mul_comm]
  · rw [if_neg h]
    have e : n = ((n.natAbs : Nat) : Int) := by omega
    conv => rhs; rw [e]
    rw [Rat.zpow_natCast]
theorem RV.at_ {I : Hp} {v : Value} {rs : List RV} (h : Slc I 3 v (rcs rs)) {i : Nat} {r : RV} (hr : rs[i]? = some r) : ∀ k y, ([.bool (decide (r.q.num < 0)), r.vn, r.vd] : List Value)[k]? = some y → I.cell? ⟨slcB v, slcO v + i * 3 + k, none⟩ = some y :=
  h.cells i _ (by unfold rcs; rw [List.getElem?_map, hr]; rfl)
end Go.Tw
namespace Go.Proofs.YtfcmhcaggdakbaaGreatDoor
open Go Go.Tw
theorem rFew_any (vx : Value) (xs : List NV) (k : Int) {I : Hp} (h : PtV I vx xs) : Fun Tryz.prog 40 [vx, .int .i64 k] I [] (fun v _ _ => v = .bool (xs.all fun x => decide ((x.n.length : Int) ≤ k ∧ (x.d.length : Int) ≤ k))) := by
  have hl1 : (xs.map NV.cells).length = xs.length := List.length_map _
  have hs1 := h.s
  have hm1 := hs1.most
  unfold maxLen at hm1
  intro w hw
  refine enter2 _ Tryz.func40 rfl Tryz.ntmps40 rfl ?_ hw;refine sR ?_;refine oV ?_;refine nU ?_;refine oV ?_;refine oN (tC (cB ?_));refine c_loop (ι := Nat) [0, 1] (.cons rfl (.cons rfl .nil)) (fun i => xs.length - i) (fun i E0 => (5, .int .i64 (i : Nat)) :: E0) (fun i => St w [] I []) (fun i => i ≤ xs.length ∧ ((xs.take i).all fun x => decide ((x.n.length : Int) ≤ k ∧ (x.d.length : Int) ≤ k)) = true) (0) (sC rfl (sC rfl (sC rfl sN))) (fun _ h => h) (⟨Nat.zero_le _, rfl⟩) ?_;rintro i ⟨hi, he⟩
  try dsimp only
  refine cS (sR ?_);iterate 2 refine oV ?_
  refine o_lenSlc trivial rfl Tryz.underlying72 rfl (hs1) ?_;refine oV ?_;refine nT ?_;refine cC rfl (fun h1 => ?_) (fun h1 => ?_)
  ·
   have f1 := h1;try simp only [bl] at f1
   have hi1 : i < xs.length := by omega
   obtain ⟨x, hx⟩ : ∃ x, xs[i]? = some x := ⟨xs[i], List.getElem?_eq_getElem hi1⟩
   obtain ⟨hxn, hxd⟩ := h.ok x (List.mem_of_getElem? hx)
   refine cK (tC (cS (cB (sR ?_))));iterate 2 refine oV ?_
   refine o_elem trivial rfl Tryz.underlying72 Tryz.sizeOf35 rfl (hs1) rfl (by omega) ?_;refine oF 1 Tryz.underlying35 Tryz.sizeOf33 ?_;refine o_load1I trivial rfl Tryz.isAgg33 rfl (NV.at_ h hx 1 _ rfl) ?_;refine o_lenW trivial rfl Tryz.underlying33 rfl (hxn) ?_;iterate 2 refine oV ?_
   refine' o_or trivial trivial rfl rfl rfl rfl rfl rfl rfl rfl (fun hb20 => ?_) ?_;rotate_left
   ·
    have fb20 := hb20
    try simp only [bl] at fb20
    iterate 2 refine gV hb20 ?_
    refine o_elem (wS rfl rfl hb20) rfl Tryz.underlying72 Tryz.sizeOf35 rfl (hs1) rfl (by omega) ?_;refine gF hb20 2 Tryz.underlying35 Tryz.sizeOf33 ?_;refine o_load1I (wS rfl rfl hb20) rfl Tryz.isAgg33 rfl (NV.at_ h hx 2 _ rfl) ?_;refine o_lenW (wS rfl rfl hb20) rfl Tryz.underlying33 rfl (hxd) ?_;iterate 2 refine gV hb20 ?_
    refine oN ?_;exact joins rfl
   refine nT ?_;refine cC rfl (fun h2 => ?_) (fun h2 => ?_)
   ·
    have f2 := h2;try simp only [bl] at f2
    refine sR ?_;refine oV ?_;refine oN (tC (cT (blk_r (tR (tR (blk_r (tR ?_)))))));refine ret1 rfl rfl ?_;refine leaf0 (congrArg Value.bool ?_)
    symm
    rw [List.all_eq_false]
    exact ⟨x, List.mem_of_getElem? hx, by simp; omega⟩
   have f2 := h2;try simp only [bl] at f2
   refine cK (blk_n (tC (cR ?_)));refine oV ?_
   (refine o_add trivial rfl rfl rfl ?_ ?_; (omega))
   refine oV ?_;refine oN ?_;exact again (i + 1) (sC rfl (sC rfl (sC rfl sN))) (fun _ h => h) (by show xs.length - (i + 1) < xs.length - i; omega) ⟨by show i + 1 ≤ _; omega, by rw [List.take_add_one, hx, List.all_append, he]; simp; omega⟩
  have f1 := h1;try simp only [bl] at f1
  refine c_exit (then_x (then_x (blk_eq rfl (tC (sR ?_)))));refine oV ?_;refine nE ?_;refine ret1 rfl rfl ?_;refine leaf0 (congrArg Value.bool ?_)
  rw [List.take_of_length_le (by omega)] at he
  exact he.symm
def bgGo (all : List NodeC) : List LetC → Int → Option Int
  | [], fr => some fr
  | l :: ls, fr => if nameZ l.name = true ∧ fr ≤ l.root ∧ l.root < all.length ∧ begZ all fr all.length l.root = fr then bgGo all ls (l.root + 1) else none
theorem bgGo_ex (all : List NodeC) : ∀ (l : List (ByteArray × Ex)) (b : Nat), LetsOk l → (∀ j c, (laid l b).2[j]? = some c → all[b + j]? = some c) → b + (laid l b).2.length ≤ all.length → bgGo all (laid l b).1 b = some ((b + (laid l b).2.length : Nat) : Int)
  | [], b, _, _, _ => by simp [bgGo, laid]
  | (s, x) :: l, b, h, hat, hle => by
    obtain ⟨h1, h2⟩ := h _ List.mem_cons_self
    have hn := x.n_pos
    have hln : (x.nd b ++ (laid l (b + x.n)).2).length = x.n + (laid l (b + x.n)).2.length := by rw [List.length_append, x.nd_len]
    change b + (x.nd b ++ (laid l (b + x.n)).2).length ≤ _ at hle
    have hA : At all b x := fun j c hj => hat j c (by
      show (x.nd b ++ (laid l (b + x.n)).2)[j]? = some c
      rw [List.getElem?_append_left (List.getElem?_eq_some_iff.1 hj).1]; exact hj)
    have hB := begZ_ex (fr := (b : Int)) (by omega) x b all.length h2 hA (Int.le_refl _) (by omega)
    show bgGo all (⟨s, (b : Int) + x.n - 1⟩ :: (laid l (b + x.n)).1) b = _
    unfold bgGo
    rw [if_pos ⟨h1, by dsimp only; omega, by dsimp only; omega, hB⟩]
    have e : ((b : Int) + x.n - 1 + 1) = ((b + x.n : Nat) : Int) := by omega
    dsimp only
    rw [e, bgGo_ex all l (b + x.n) (fun a ha => h a (List.mem_cons_of_mem _ ha)) (fun j c hj => by
      have := hat (x.n + j) c (by
        show (x.nd b ++ (laid l (b + x.n)).2)[x.n + j]? = some c
        rw [List.getElem?_append_right (by rw [x.nd_len]; omega), x.nd_len, Nat.add_sub_cancel_left]; exact hj)
      rw [Nat.add_assoc]; exact this) (by omega)]
    show some _ = some (((b + (x.nd b ++ (laid l (b + x.n)).2).length : Nat)) : Int)
    rw [hln]
    congr 2
    omega
def fewP (p : ProgC) (most : Int) : Bool := decide ((p.all.length : Int) ≤ most ∧ p.ins.length ≤ 8 ∧ p.lets.length ≤ 8 ∧ p.outs.length ≤ 8) && p.all.all fun c => decide (c.n.length ≤ 6 ∧ c.d.length ≤ 6 ∧ c.name.size ≤ 60)
theorem PtV.lone {I : Hp} {b : Nat} {neg : Bool} {n d : List Nat} {vn vd : Value} {T : TypeId} {fz : Nat × Nat} (hb : I b = some (.cells ([.bool neg, vn, vd] ++ [] : List Value).toArray T fz)) (hn : Ws I vn n) (hd : Ws I vd d) : PtV I (.slice (some ⟨b, 0, none⟩) 1 1) [⟨neg, n, d, vn, vd⟩] :=
  ⟨Slc.of_box (xss := [[.bool neg, vn, vd]]) hb (fun c hc => by rw [List.mem_singleton.1 hc]; rfl) (by unfold maxLen; simp) (Nat.le_refl _), fun x hx => by rw [List.mem_singleton.1 hx]; exact ⟨hn, hd⟩⟩
def awX : ByteArray := ⟨#[120]⟩
def awA : ByteArray := ⟨#[97]⟩
theorem nameZ_X : nameZ awX = true := by kernel_rfl
theorem nameZ_A : nameZ awA = true := by kernel_rfl
theorem isT_no {x : Tok} {k : Int} {t : ByteArray} (h : x.kind ≠ k) : isT x k t = false := by simp [isT, h]
theorem ints_any (va vb : Value) (l : List Nat) {I : Hp} (ha : Slc I 1 va (nss l)) (hb : Slc I 1 vb (nss l)) : Fun Tryz.prog 36 [va, vb] I [] (fun v _ _ => v = .bool true) := by
  have hl := nss_len l
  have hmx := ha.most
  rw [hl] at hmx
  unfold maxLen at hmx
  intro w hw
  refine enter2 _ Tryz.func36 rfl Tryz.ntmps36 rfl ?_ hw;refine sR ?_;refine oV ?_;refine nU ?_;refine oV ?_;refine o_lenSlc trivial rfl Tryz.underlying52 rfl (ha) ?_;refine oV ?_;refine o_lenSlc trivial rfl Tryz.underlying52 rfl (hb) ?_;refine oV ?_;refine nT ?_;refine cC rfl (fun h1 => ?_) (fun h1 => ?_)
  ·
   have f1 := h1;try simp only [bl] at f1
   exfalso; simp at h1
  have f1 := h1;try simp only [bl] at f1
  refine cK (tC (cS (sR ?_)));refine oV ?_;refine oN (tC (cB ?_));refine c_loop (ι := Nat) [0, 1] (.cons rfl (.cons rfl .nil)) (fun x => l.length - x) (fun x E0 => (5, .int .i64 (x : Int)) :: E0) (fun x => St w [] I []) (fun x => x ≤ l.length) (0) (sC rfl (sC rfl (sC rfl sN))) (fun _ h => h) (Nat.zero_le _) ?_;rintro i hi
  try dsimp only
  refine cS (sR ?_);iterate 2 refine oV ?_
  refine o_lenSlc trivial rfl Tryz.underlying52 rfl (ha) ?_;refine oV ?_;refine nT ?_;refine cC rfl (fun h2 => ?_) (fun h2 => ?_)
  ·
   have f2 := h2;try simp only [bl] at f2
   obtain ⟨s, hs⟩ : ∃ s, l[i]? = some s := ⟨l[i]'(by omega), List.getElem?_eq_getElem (by omega)⟩
   refine cK (tC (cS (cB (cS ?_))));refine c_quiet (by kernel_rfl) (by kernel_rfl) (fun _ h => h.drawn) ?_;iterate 2 refine oV ?_
   refine o_elem trivial rfl Tryz.underlying52 Tryz.sizeOf3 rfl (ha) rfl (by omega) ?_;refine o_load1I trivial rfl Tryz.isAgg3 rfl (nss_at ha hs) ?_;iterate 2 refine oV ?_
   refine o_elem trivial rfl Tryz.underlying52 Tryz.sizeOf3 rfl (hb) rfl (by omega) ?_;refine o_load1I trivial rfl Tryz.isAgg3 rfl (nss_at hb hs) ?_;refine oV ?_;refine nT ?_;refine cC rfl (fun h3 => ?_) (fun h3 => ?_)
   ·
    have f3 := h3;try simp only [bl] at f3
    exfalso; simp at h3
   have f3 := h3;try simp only [bl] at f3
   refine cK (blk_n (tC (cR ?_)));refine oV ?_
   (refine o_add trivial rfl rfl rfl ?_ ?_; (omega))
   refine oV ?_;refine oN ?_;exact again (i + 1) (sC rfl (sC rfl (sC rfl sN))) (fun _ h => h) (by show l.length - (i + 1) < l.length - i; omega) (by show i + 1 ≤ _; omega)
  have f2 := h2;try simp only [bl] at f2
  refine c_exit (then_x (then_x (blk_eq rfl (tC (sR ?_)))));refine oV ?_;refine nE ?_;refine ret1 rfl rfl ?_;exact leaf0 rfl
theorem rrFew_any (vi vl vo va : Value) (p : ProgC) (ns : List NodeV) (most : Int) {I : Hp} (hp : ProgV I vi vl vo va p ns) :
    Fun Tryz.prog 16 [.agg #[vi, vl, vo, va], .int .i64 most] I [] (fun v _ _ => v = .bool (fewP p most)) := by
  have hsi := hp.si
  have hsl := hp.sl
  have hso := hp.so
  have hsa := hp.sa
  have hli := scs_len p.ins
  have hlo := scs_len p.outs
  have hll : (p.lets.map LetC.cells).length = p.lets.length := List.length_map _
  have hla := nds_len ns
  have hal : p.all.length = ns.length := by rw [← hp.eq, List.length_map]
  have hm1 := hsa.most
  unfold maxLen at hm1
  intro w hw
  refine enter2 _ Tryz.func16 rfl Tryz.ntmps16 rfl ?_ hw;refine sR ?_;refine o_box trivial rfl rfl rfl (fun b2 => ?_);refine oV ?_;refine nU ?_;refine oF 3 Tryz.underlying26 Tryz.sizeOf24 ?_;refine oL Tryz.isAgg24 ?_;refine o_lenSlc trivial rfl Tryz.underlying24 rfl (hsa) ?_;iterate 2 refine oV ?_
  refine' o_or trivial trivial rfl rfl rfl rfl rfl rfl rfl rfl (fun hb12 => ?_) ?_;rotate_left
  ·
   have fb12 := hb12
   try simp only [bl] at fb12
   refine gF hb12 0 Tryz.underlying26 Tryz.sizeOf22 ?_;refine gL hb12 Tryz.isAgg22 ?_;refine o_lenSlc (wS rfl rfl hb12) rfl Tryz.underlying22 rfl (hsi) ?_;refine gV hb12 ?_;refine oN ?_;exact joins rfl
  refine' o_or trivial trivial rfl rfl rfl rfl rfl rfl rfl rfl (fun hb18 => ?_) ?_;rotate_left
  ·
   have fb18 := hb18
   try simp only [bl] at fb18
   refine gF hb18 1 Tryz.underlying26 Tryz.sizeOf23 ?_;refine gL hb18 Tryz.isAgg23 ?_;refine o_lenSlc (wS rfl rfl hb18) rfl Tryz.underlying23 rfl (hsl) ?_;refine gV hb18 ?_;refine oN ?_;exact joins rfl
  refine' o_or trivial trivial rfl rfl rfl rfl rfl rfl rfl rfl (fun hb24 => ?_) ?_;rotate_left
  ·
   have fb24 := hb24
   try simp only [bl] at fb24
   refine gF hb24 2 Tryz.underlying26 Tryz.sizeOf22 ?_;refine gL hb24 Tryz.isAgg22 ?_;refine o_lenSlc (wS rfl rfl hb24) rfl Tryz.underlying22 rfl (hso) ?_;refine gV hb24 ?_;refine oN ?_;exact joins rfl
  refine nT ?_;refine cC rfl (fun h1 => ?_) (fun h1 => ?_)
  ·
   have f1 := h1;try simp only [bl] at f1
   refine sR ?_;refine oV ?_;refine nF ?_;refine ret1 rfl rfl ?_;refine leaf0 (congrArg Value.bool ?_); unfold fewP; rw [decide_eq_false (by omega), Bool.false_and]
  have f1 := h1;try simp only [bl] at f1
  have hg : decide ((p.all.length : Int) ≤ most ∧ p.ins.length ≤ 8 ∧ p.lets.length ≤ 8 ∧ p.outs.length ≤ 8) = true := decide_eq_true (by omega)
  refine cK (tC (cS (sR ?_)));refine oV ?_;refine oN (tC (cB ?_));refine c_loop (ι := Nat) [2] (.cons rfl .nil) (fun i => ns.length - i) (fun i E0 => (5, .int .i64 (i : Nat)) :: E0) (fun i => St w [] I [.box b2 (.cells #[vi, vl, vo, va] 26 (0, 0))]) (fun i => i ≤ ns.length ∧ ((ns.take i).all fun o => decide (o.c.n.length ≤ 6 ∧ o.c.d.length ≤ 6 ∧ o.c.name.size ≤ 60)) = true) (0) (sC rfl (sC rfl sN)) (fun _ h => h) (⟨Nat.zero_le _, rfl⟩) ?_;rintro i ⟨hi, hall⟩
  try dsimp only
  refine cS (sR ?_);refine oV ?_;refine oF 3 Tryz.underlying26 Tryz.sizeOf24 ?_;refine oL Tryz.isAgg24 ?_;refine o_lenSlc trivial rfl Tryz.underlying24 rfl (hsa) ?_;refine oV ?_;refine nT ?_;refine cC rfl (fun h2 => ?_) (fun h2 => ?_)
  ·
   have f2 := h2;try simp only [bl] at f2
   obtain ⟨o, ho⟩ : ∃ o, ns[i]? = some o := ⟨ns[i]'(by omega), List.getElem?_eq_getElem (by omega)⟩
   have hom := List.mem_of_getElem? ho
   obtain ⟨hvn, hvd⟩ := hp.ok o hom
   refine cK (tC (cS (cB (sR ?_))));refine oF 3 Tryz.underlying26 Tryz.sizeOf24 ?_;refine oL Tryz.isAgg24 ?_;refine oV ?_;refine o_elem trivial rfl Tryz.underlying24 Tryz.sizeOf37 rfl (hsa) rfl (by omega) ?_;refine oF 5 Tryz.underlying37 Tryz.sizeOf35 ?_;refine o_loadAI trivial rfl Tryz.isAgg35 Tryz.sizeOf35 rfl rfl (fun k y hk => by have hc := nds_at hsa ho (5 + k) y (by rw [Nat.add_comm]; exact hk); rw [← Nat.add_assoc] at hc; exact hc) ?_;refine oB Tryz.underlying72 Tryz.sizeOf35 Tryz.zeroValue35 fun b43 => ?_;refine l_sealB .here (fun I1 hx1 hb43 => ?_);refine oQ Tryz.call40 rfl (rFew_any _ _ 6 (PtV.lone hb43 (hvn.le hx1.le) (hvd.le hx1.le))) ?_;refine oV ?_;refine oN (tC (cS ?_))
   rw [show ([(⟨o.c.neg, o.c.n, o.c.d, o.vn, o.vd⟩ : NV)].all fun x => decide ((x.n.length : Int) ≤ 6 ∧ (x.d.length : Int) ≤ 6)) = decide ((o.c.n.length : Int) ≤ 6 ∧ (o.c.d.length : Int) ≤ 6) from Bool.and_true _]
   refine cR ?_;iterate 2 refine oV ?_
   refine' o_or trivial trivial rfl rfl rfl rfl rfl rfl rfl rfl (fun hb47 => ?_) ?_;rotate_left
   ·
    have fb47 := hb47
    try simp only [bl] at fb47
    refine gF hb47 3 Tryz.underlying26 Tryz.sizeOf24 ?_;refine gL hb47 Tryz.isAgg24 ?_;refine gV hb47 ?_;refine o_elem (wS rfl rfl hb47) rfl Tryz.underlying24 Tryz.sizeOf37 rfl (hsa) rfl (by omega) ?_;refine gF hb47 4 Tryz.underlying37 Tryz.sizeOf9 ?_;refine o_load1I (wS rfl rfl hb47) rfl Tryz.isAgg9 rfl (hx1.le.cell (nds_at hsa ho 4 _ rfl)) ?_;refine o_lenS (wS rfl rfl hb47) rfl Tryz.underlying9 rfl ?_;refine gV hb47 ?_;refine oN ?_;exact joins rfl
   refine nT ?_;refine cC rfl (fun h3 => ?_) (fun h3 => ?_)
   ·
    have f3 := h3;try simp only [bl] at f3
    refine sR ?_;refine oV ?_;refine oN (tC (cT (blk_r (tR (tR (blk_r (tR ?_)))))));refine ret1 rfl rfl ?_;refine leaf hx1 (List.nil_sublist _) (congrArg Value.bool ?_)
    unfold fewP
    rw [hg, Bool.true_and]
    symm
    rw [List.all_eq_false]
    exact ⟨o.c, by rw [← hp.eq]; exact List.mem_map_of_mem hom, by simp only [decide_eq_true_eq]; omega⟩
   have f3 := h3;try simp only [bl] at f3
   refine cK (blk_n (tC (cR ?_)));refine oV ?_
   (refine o_add trivial rfl rfl rfl ?_ ?_; (omega))
   refine oV ?_;refine oN ?_
   exact again (i + 1) (sC rfl (sC rfl sN)) (fun _ h => (h.sort (by repeat constructor)).fewer hx1.le) (by show ns.length - (i + 1) < ns.length - i; omega) ⟨by show i + 1 ≤ _; omega, by
     rw [List.take_add_one, ho, List.all_append, hall]
     simp only [Option.toList, List.all_cons, List.all_nil, Bool.and_true, Bool.true_and, decide_eq_true_eq]
     omega⟩
  have f2 := h2;try simp only [bl] at f2
  refine c_exit (then_x (then_x (blk_eq rfl (tC (sR ?_)))));refine oV ?_;refine nE ?_;refine ret1 rfl rfl ?_;refine leaf0 (congrArg Value.bool ?_)
  rw [List.take_of_length_le (by omega)] at hall
  unfold fewP
  rw [hg, Bool.true_and, ← hp.eq, List.all_map]
  exact hall.symm
theorem bgGo_cons (all : List NodeC) (l : LetC) (ls : List LetC) (fr : Int) : bgGo all (l :: ls) fr = if nameZ l.name = true ∧ fr ≤ l.root ∧ l.root < all.length ∧ begZ all fr all.length l.root = fr then bgGo all ls (l.root + 1) else none := rfl
theorem few_of {p : ProgC} {ns : List NodeV} {k : Int} (h : fewP p k = true) (he : ns.map NodeV.c = p.all) : (p.all.length : Int) ≤ k ∧ p.ins.length ≤ 8 ∧ p.lets.length ≤ 8 ∧ p.outs.length ≤ 8 ∧ (∀ o ∈ ns, o.c.few 6) ∧ ∀ o ∈ ns, o.c.name.size ≤ 60 := by
  unfold fewP at h
  rw [Bool.and_eq_true, decide_eq_true_eq, List.all_eq_true] at h
  obtain ⟨⟨h1, h2, h3, h4⟩, h5⟩ := h
  refine ⟨h1, h2, h3, h4, fun o ho => ?_, fun o ho => ?_⟩
  · have := h5 o.c (by rw [← he]; exact List.mem_map_of_mem ho)
    rw [decide_eq_true_eq] at this
    exact ⟨this.1, this.2.1⟩
  · have := h5 o.c (by rw [← he]; exact List.mem_map_of_mem ho)
    rw [decide_eq_true_eq] at this
    exact this.2.2
theorem few_up {c : NodeC} {k m : Nat} (h : c.few k) (hk : k ≤ m) : c.few m := ⟨Nat.le_trans h.1 hk, Nat.le_trans h.2 hk⟩
def hasK (s : ByteArray) (K : KN) : Bool := (getK s K).isSome
def insZ : List ByteArray → Nat → KN → ByteArray × Int × KN
  | [], _, K => (⟨#[]⟩, 0, K)
  | s :: l, i, K => if hasK s K = true then (s, 7, K) else insZ l (i + 1) (K ++ [(s, ⟨false, (i : Nat)⟩)])
def nodesZ (K : KN) : List NodeC → List ByteArray → Option ByteArray × List ByteArray
  | [], L => (none, L)
  | c :: r, L => if c.kind ≠ 0 then nodesZ K r L else if hasK c.name K = true then nodesZ K r (L ++ [c.name]) else (some c.name, L)
def segZ (all : List NodeC) (fr hi : Int) : List NodeC := (all.take hi.toNat).drop fr.toNat
def letsZ (all : List NodeC) : List LetC → Nat → Int → KN → List ByteArray → ByteArray × Int × KN × List ByteArray
  | [], _, _, K, L => (⟨#[]⟩, 0, K, L)
  | l :: ls, i, fr, K, L => match nodesZ K (segZ all fr (l.root + 1)) L with
    | (some n, L') => (n, 6, K, L')
    | (none, L') => if hasK l.name K = true then (l.name, 7, K, L') else letsZ all ls (i + 1) (l.root + 1) (K ++ [(l.name, ⟨true, (i : Nat)⟩)]) L'
def ousZ (K : KN) : List ByteArray → List ByteArray → ByteArray × Int × List ByteArray
  | [], L => (⟨#[]⟩, 0, L)
  | s :: r, L => if hasK s K = true then ousZ K r (L ++ [s]) else (s, 6, L)
structure SR where
  name : ByteArray
  err : Int
  K : KN
  L : List ByteArray
def readZ (p : ProgC) : SR :=
  if (tZ p).isSome = true then
    if (insZ p.ins 0 []).2.1 ≠ 0 then ⟨(insZ p.ins 0 []).1, (insZ p.ins 0 []).2.1, (insZ p.ins 0 []).2.2, []⟩
    else if (letsZ p.all p.lets 0 0 (insZ p.ins 0 []).2.2 []).2.1 ≠ 0 then ⟨(letsZ p.all p.lets 0 0 (insZ p.ins 0 []).2.2 []).1, (letsZ p.all p.lets 0 0 (insZ p.ins 0 []).2.2 []).2.1, (letsZ p.all p.lets 0 0 (insZ p.ins 0 []).2.2 []).2.2.1, (letsZ p.all p.lets 0 0 (insZ p.ins 0 []).2.2 []).2.2.2⟩
    else ⟨(ousZ (letsZ p.all p.lets 0 0 (insZ p.ins 0 []).2.2 []).2.2.1 p.outs (letsZ p.all p.lets 0 0 (insZ p.ins 0 []).2.2 []).2.2.2).1, (ousZ (letsZ p.all p.lets 0 0 (insZ p.ins 0 []).2.2 []).2.2.1 p.outs (letsZ p.all p.lets 0 0 (insZ p.ins 0 []).2.2 []).2.2.2).2.1, (letsZ p.all p.lets 0 0 (insZ p.ins 0 []).2.2 []).2.2.1, (ousZ (letsZ p.all p.lets 0 0 (insZ p.ins 0 []).2.2 []).2.2.1 p.outs (letsZ p.all p.lets 0 0 (insZ p.ins 0 []).2.2 []).2.2.2).2.2⟩
  else ⟨⟨#[]⟩, 1, [], []⟩
def tbI (b bk bu : Nat) : Tw.Item := .box b (.cells [.map (some bk), .map (some bu)].toArray 83 (0, 0))
def knI (bk : Nat) (K : KN) : Tw.Item := .box bk (knO K)
def usI (bu : Nat) (L : List ByteArray) : Tw.Item := .box bu (usO L)
def putN (s : ByteArray) (p : PL) (K : KN) : KN := if hasK s K = true then K else K ++ [(s, p)]
theorem add_any (b bk bu : Nat) (K : KN) (s : ByteArray) (p : PL) {I : Hp} : Fun Tryz.prog 113 [.pointer (some ⟨b, 0, none⟩), .string s, .agg #[.bool p.l, .int .i64 p.i]] I [tbI b bk bu, knI bk K]
    (fun v I' B' => I = I' ∧ v = .int .i64 (if hasK s K = true then 7 else 0) ∧ B' = [tbI b bk bu, knI bk (putN s p K)]) := by
  unfold tbI knI
  intro w hw
  refine enter3 _ Tryz.func113 rfl Tryz.ntmps113 rfl ?_ hw;refine sR ?_;refine o_box trivial rfl rfl rfl (fun b5 => ?_);refine oV ?_;refine nU ?_;iterate 2 refine oV ?_
  refine oF 0 Tryz.underlying83 Tryz.sizeOf80 ?_;refine oL Tryz.isAgg80 ?_;refine oV ?_;refine o_lookK trivial rfl Tryz.underlying80 Tryz.underlying9 Tryz.zeroValue78 rfl rfl (by repeat constructor) ?_;iterate 3 refine oV ?_
  refine o_alloc trivial rfl Tryz.zeroValue78 rfl (fun b7 => ?_);refine oS Tryz.sizeOf78 ?_;refine oV ?_;refine nS ?_;refine oV ?_;refine nT ?_;refine cC rfl (fun h1 => ?_) (fun h1 => ?_)
  ·
   have f1 := h1;try simp only [bl] at f1
   have hh : hasK s K = true := h1
   refine sR ?_;refine oV ?_;refine nF ?_;refine ret1 rfl rfl ?_;exact fun w' hw' => ⟨I, [tbI b bk bu, knI bk K], hw'.sort (by repeat constructor), Ext.refl _ _, rfl, by rw [if_pos hh], by unfold putN; rw [if_pos hh]; rfl⟩
  have f1 := h1;try simp only [bl] at f1
  have hh : hasK s K = false := h1
  refine cK (tC (cS ?_));refine h_beginB (m := 7) [.box b5 _] (by repeat constructor) (by kernel_rfl) rfl ?_;refine qT (i := 0) (qB 7 1) (Hp.Le.refl _) rfl rfl (oV qF) ?_;refine qT (i := 1) (qB 7 3) (Hp.Le.refl _) rfl rfl (oV qF) ?_;refine qT (i := 2) (qB 7 7) (Hp.Le.refl _) rfl rfl (oF 0 Tryz.underlying83 Tryz.sizeOf80 qF) ?_;refine qT (i := 4) (qB 7 23) (Hp.Le.refl _) rfl rfl (oV qF) ?_;refine qT (i := 5) (qB 7 55) (Hp.Le.refl _) rfl rfl (oA Tryz.isAgg78 Tryz.sizeOf78 qF) ?_;refine qO (i := 3) (qB 7 63) rfl ?_;refine oL Tryz.isAgg80 ?_;refine qM (Hp.Le.refl _) ?_;refine qO (i := 6) (qB 7 127) rfl ?_;refine o_putK (hh) trivial Tryz.underlying80 Tryz.underlying9 rfl rfl rfl (by repeat constructor) ?_;refine qM (Hp.Le.refl _) ?_;refine h_end (by kernel_rfl) ?_;refine tC (sR ?_);refine oV ?_;refine nE ?_;refine ret1 rfl rfl ?_;exact fun w' hw' => ⟨I, [tbI b bk bu, knI bk (K ++ [(s, p)])], hw'.sort (by repeat constructor), Ext.refl _ _, rfl, by rw [hh]; rfl, by unfold putN; rw [hh]; rfl⟩
def useL (s : ByteArray) (K : KN) (L : List ByteArray) : List ByteArray := if hasK s K = true then L ++ [s] else L
theorem use_any (b bk bu : Nat) (K : KN) (L : List ByteArray) (s : ByteArray) {I : Hp} (hL : L.length ≤ 1000000) : Fun Tryz.prog 74 [.pointer (some ⟨b, 0, none⟩), .string s] I [tbI b bk bu, knI bk K, usI bu L]
    (fun v I' B' => I = I' ∧ v = .int .i64 (if hasK s K = true then 0 else 6) ∧ B' = [tbI b bk bu, knI bk K, usI bu (useL s K L)]) := by
  have hcl := cnt_le s L
  unfold tbI knI usI
  intro w hw
  refine enter2 _ Tryz.func74 rfl Tryz.ntmps74 rfl ?_ hw;refine sR ?_;refine oV ?_;refine nU ?_;iterate 2 refine oV ?_
  refine oF 0 Tryz.underlying83 Tryz.sizeOf80 ?_;refine oL Tryz.isAgg80 ?_;refine oV ?_;refine o_lookK trivial rfl Tryz.underlying80 Tryz.underlying9 Tryz.zeroValue78 rfl rfl (by repeat constructor) ?_;iterate 3 refine oV ?_
  refine o_alloc trivial rfl Tryz.zeroValue78 rfl (fun b5 => ?_);refine oS Tryz.sizeOf78 ?_;refine oV ?_;refine nS ?_;iterate 2 refine oV ?_
  refine nT ?_;refine cC rfl (fun h1 => ?_) (fun h1 => ?_)
  ·
   have f1 := h1;try simp only [bl] at f1
   have hh : hasK s K = false := by
     unfold hasK
     cases e : (getK s K).isSome with
     | false => rfl
     | true => rw [e] at h1; cases h1
   refine sR ?_;refine oV ?_;refine nF ?_;refine ret1 rfl rfl ?_;exact fun w' hw' => ⟨I, [tbI b bk bu, knI bk K, usI bu L], hw'.sort (by repeat constructor), Ext.refl _ _, rfl, by rw [hh]; rfl, by unfold useL; rw [hh]; rfl⟩
  have f1 := h1;try simp only [bl] at f1
  have hh : hasK s K = true := by
    unfold hasK
    cases e : (getK s K).isSome with
    | true => rfl
    | false => rw [e] at h1; cases h1
  refine kS ?_;iterate 2 refine oV ?_
  refine oF 1 Tryz.underlying83 Tryz.sizeOf81 ?_;refine oL Tryz.isAgg81 ?_;refine oV ?_;refine o_lookU trivial rfl Tryz.underlying81 Tryz.underlying9 Tryz.zeroValue3 rfl rfl (by repeat constructor) ?_
  (refine o_add trivial rfl rfl rfl ?_ ?_; (omega))
  refine o_putU trivial Tryz.underlying81 Tryz.underlying9 rfl rfl rfl (by repeat constructor) ?_;refine nS ?_;refine oV ?_;refine nE ?_;refine ret1 rfl rfl ?_;exact fun w' hw' => ⟨I, [tbI b bk bu, knI bk K, usI bu (L ++ [s])], hw'.sort (by repeat constructor), Ext.refl _ _, rfl, by rw [if_pos hh], by unfold useL; rw [if_pos hh]; rfl⟩
theorem insZ_step {l : List ByteArray} {i : Nat} {s : ByteArray} (h : l[i]? = some s) (K : KN) : insZ (l.drop i) i K = if hasK s K = true then (s, 7, K) else insZ (l.drop (i + 1)) (i + 1) (K ++ [(s, ⟨false, (i : Nat)⟩)]) := by
  obtain ⟨h1, h2⟩ := List.getElem?_eq_some_iff.1 h
  rw [List.drop_eq_getElem_cons h1, h2]
  rfl
theorem ins_any (b bk bu : Nat) (K : KN) (v : Value) (l : List ByteArray) {I : Hp} (h : Slc I 1 v (scs l)) : Fun Tryz.prog 72 [.pointer (some ⟨b, 0, none⟩), v] I [tbI b bk bu, knI bk K]
    (fun v I' B' => I = I' ∧ v = .tuple #[.string (insZ l 0 K).1, .int .i64 (insZ l 0 K).2.1] ∧ B' = [tbI b bk bu, knI bk (insZ l 0 K).2.2]) := by
  have hl := scs_len l
  have hmx := h.most
  rw [hl] at hmx
  unfold maxLen at hmx
  intro w hw
  refine enter2 _ Tryz.func72 rfl Tryz.ntmps72 rfl ?_ hw;refine sR ?_;iterate 2 refine oV ?_
  refine nU ?_;refine oV ?_;refine o_lenSlc trivial rfl Tryz.underlying22 rfl (h) ?_;refine oV ?_;refine oN (tC (cB ?_));refine c_loop (ι := Nat × KN) [0, 9, 10] (.cons rfl (.cons rfl (.cons rfl .nil))) (fun x => l.length - x.1) (fun x E0 => (11, .int .i64 (x.1 : Nat)) :: E0) (fun x => St w (keysOf [tbI b bk bu, knI bk K]) I [tbI b bk bu, knI bk x.2]) (fun x => x.1 ≤ l.length ∧ insZ l 0 K = insZ (l.drop x.1) x.1 x.2) ((0, K)) (sC rfl (sC rfl (sC rfl (sC rfl sN)))) (fun _ h => h) (⟨Nat.zero_le _, rfl⟩) ?_;rintro ⟨i, K1⟩ ⟨hi, hF⟩
  try dsimp only
  simp only at hi hF
  refine sR ?_;refine oV ?_;refine oN (tC (cS ?_));refine cC rfl (fun h1 => ?_) (fun h1 => ?_)
  ·
   have f1 := h1;try simp only [bl] at f1
   obtain ⟨s, hs⟩ : ∃ s, l[i]? = some s := ⟨l[i]'(by omega), List.getElem?_eq_getElem (by omega)⟩
   rw [insZ_step hs] at hF
   refine cK (tC (cS (cB (sR ?_))));refine oV ?_;refine o_elem trivial rfl Tryz.underlying22 Tryz.sizeOf9 rfl (h) rfl (by omega) ?_;refine o_load1I trivial rfl Tryz.isAgg9 rfl (scs_at h hs) ?_;iterate 2 refine oV ?_
   refine nS ?_;iterate 3 refine oV ?_
   refine o_buildS trivial rfl (bld78) rfl (.cons rfl rfl rfl (by repeat constructor) .nil) ?_;refine oC trivial rfl Tryz.call113 rfl (add_any b bk bu K1 s ⟨false, (i : Nat)⟩) (by repeat constructor) ?_;rintro _ _ _ hxa ⟨rfl, rfl, rfl⟩;refine oV ?_;refine nS ?_;iterate 2 refine oV ?_
   refine nT ?_;refine cC rfl (fun h2 => ?_) (fun h2 => ?_)
   ·
    have f2 := h2;try simp only [bl] at f2
    have hh : hasK s K1 = true := by
      cases e : hasK s K1 with
      | true => rfl
      | false => rw [e] at h2; simp at h2
    rw [if_pos hh] at hF
    refine sR ?_;iterate 4 refine oV ?_
    refine oN (tC (cT (blk_r (tR (tR (blk_r (tR ?_)))))));refine ret2 rfl rfl rfl ?_;exact fun w' hw' => ⟨I, [tbI b bk bu, knI bk K1], (by unfold putN at hw'; rw [if_pos hh] at hw'; exact hw'.sort (by repeat constructor)), Ext.refl _ _, rfl, by rw [hF, if_pos hh], by rw [hF]⟩
   have f2 := h2;try simp only [bl] at f2
   have hh : hasK s K1 = false := by
     cases e : hasK s K1 with
     | false => rfl
     | true => rw [e] at h2; simp at h2
   rw [hh, if_neg (by decide)] at hF
   refine cK (blk_n (tC (cR ?_)))
   (refine o_add trivial rfl rfl rfl ?_ ?_; (omega))
   refine oV ?_;refine oN ?_;exact again (i + 1, K1 ++ [(s, ⟨false, (i : Nat)⟩)]) (sC rfl (sC rfl (sC rfl (sC rfl sN)))) (fun _ h => by unfold putN at h; rw [hh] at h; exact h.sort (by repeat constructor)) (by show l.length - (i + 1) < l.length - i; omega) ⟨by show i + 1 ≤ _; omega, hF⟩
  have f1 := h1;try simp only [bl] at f1
  have hin : l.drop i = [] := List.drop_of_length_le (by omega)
  rw [hin] at hF
  refine c_exit (then_x (then_x (blk_eq rfl (tC (sR ?_)))));iterate 2 refine oV ?_
  refine nE ?_;refine ret2 rfl rfl rfl ?_;exact fun w' hw' => ⟨I, [tbI b bk bu, knI bk K1], hw'.sort (by repeat constructor), Ext.refl _ _, rfl, by rw [hF]; rfl, by rw [hF]; rfl⟩
theorem nodesZ_step {seg : List NodeV} {j : Nat} {o : NodeV} (h : seg[j]? = some o) (K : KN) (L : List ByteArray) : nodesZ K ((seg.drop j).map NodeV.c) L = if o.c.kind ≠ 0 then nodesZ K ((seg.drop (j + 1)).map NodeV.c) L else if hasK o.c.name K = true then nodesZ K ((seg.drop (j + 1)).map NodeV.c) (L ++ [o.c.name]) else (some o.c.name, L) := by
  obtain ⟨h1, h2⟩ := List.getElem?_eq_some_iff.1 h
  rw [List.drop_eq_getElem_cons h1, h2]
  rfl
theorem letsZ_step {ls : List LetC} {i : Nat} {c : LetC} (h : ls[i]? = some c) (all : List NodeC) (fr : Int) (K : KN) (L : List ByteArray) : letsZ all (ls.drop i) i fr K L = match nodesZ K (segZ all fr (c.root + 1)) L with
    | (some n, L') => (n, 6, K, L')
    | (none, L') => if hasK c.name K = true then (c.name, 7, K, L') else letsZ all (ls.drop (i + 1)) (i + 1) (c.root + 1) (K ++ [(c.name, ⟨true, (i : Nat)⟩)]) L' := by
  obtain ⟨h1, h2⟩ := List.getElem?_eq_some_iff.1 h
  rw [List.drop_eq_getElem_cons h1, h2]
  rfl
theorem lets_any (b bk bu : Nat) (K : KN) (L : List ByteArray) (vi vl vo va : Value) (p : ProgC) (ns : List NodeV) {I : Hp} (hp : ProgV I vi vl vo va p ns) (hgo : bgGo p.all p.lets 0 = some (p.all.length : Int)) (hn : p.all.length ≤ 1000) (hL : L.length ≤ 1000) :
    Fun Tryz.prog 73 [.pointer (some ⟨b, 0, none⟩), .agg #[vi, vl, vo, va]] I [tbI b bk bu, knI bk K, usI bu L]
    (fun v I' B' => I = I' ∧ v = .tuple #[.string (letsZ p.all p.lets 0 0 K L).1, .int .i64 (letsZ p.all p.lets 0 0 K L).2.1] ∧ B' = [tbI b bk bu, knI bk (letsZ p.all p.lets 0 0 K L).2.2.1, usI bu (letsZ p.all p.lets 0 0 K L).2.2.2]) := by
  have hsi := hp.si
  have hsl := hp.sl
  have hso := hp.so
  have hsa := hp.sa
  have hll : (p.lets.map LetC.cells).length = p.lets.length := List.length_map _
  have hla := nds_len ns
  have hal : p.all.length = ns.length := by rw [← hp.eq, List.length_map]
  have hmx := hsl.most
  rw [hll] at hmx
  unfold maxLen at hmx
  intro w hw
  refine enter2 _ Tryz.func73 rfl Tryz.ntmps73 rfl ?_ hw;refine sR ?_;refine o_box trivial rfl rfl rfl (fun b3 => ?_);iterate 2 refine oV ?_
  refine nS ?_;refine oV ?_;refine nU ?_;refine oF 1 Tryz.underlying26 Tryz.sizeOf23 ?_;refine oL Tryz.isAgg23 ?_;refine o_lenSlc trivial rfl Tryz.underlying23 rfl (hsl) ?_;refine oV ?_;refine oN (tC (cB ?_));refine c_loop (ι := Nat × Int × KN × List ByteArray) [0, 3, 14, 15] (.cons rfl (.cons rfl (.cons rfl (.cons rfl .nil)))) (fun x => p.lets.length - x.1) (fun x E0 => (6, .int .i64 x.2.1) :: (16, .int .i64 (x.1 : Nat)) :: E0) (fun x => St w (keysOf [tbI b bk bu, knI bk K, usI bu L]) I [tbI b bk bu, knI bk x.2.2.1, usI bu x.2.2.2, .box b3 (.cells #[vi, vl, vo, va] 26 (0, 0))]) (fun x => x.1 ≤ p.lets.length ∧ 0 ≤ x.2.1 ∧ x.2.1 ≤ ns.length ∧ bgGo p.all (p.lets.drop x.1) x.2.1 = some (p.all.length : Int) ∧ letsZ p.all p.lets 0 0 K L = letsZ p.all (p.lets.drop x.1) x.1 x.2.1 x.2.2.1 x.2.2.2 ∧ (x.2.2.2.length : Int) ≤ 1000 + x.2.1) ((0, 0, K, L)) (sC rfl (sC rfl (sC rfl (sC rfl (sC rfl (sC rfl sN)))))) (fun _ h => h.sort (by repeat constructor)) (⟨Nat.zero_le _, Int.le_refl _, by show (0 : Int) ≤ ns.length; omega, hgo, rfl, by show (L.length : Int) ≤ 1000 + 0; omega⟩) ?_;rintro ⟨i, fr, K1, L1⟩ ⟨hi, hfr0, hfr1, hg, hF, hL1⟩
  try dsimp only
  simp only at hi hfr0 hfr1 hg hF hL1
  refine sR ?_;refine oV ?_;refine oN (tC (cS ?_));refine cC rfl (fun h1 => ?_) (fun h1 => ?_)
  ·
   have f1 := h1;try simp only [bl] at f1
   obtain ⟨c, hc⟩ : ∃ c, p.lets[i]? = some c := ⟨p.lets[i]'(by omega), List.getElem?_eq_getElem (by omega)⟩
   have hdr : p.lets.drop i = c :: p.lets.drop (i + 1) := by rw [List.drop_eq_getElem_cons (List.getElem?_eq_some_iff.1 hc).1, (List.getElem?_eq_some_iff.1 hc).2]
   rw [letsZ_step hc] at hF
   rw [hdr, bgGo_cons] at hg
   by_cases hcd : nameZ c.name = true ∧ fr ≤ c.root ∧ c.root < p.all.length ∧ begZ p.all fr p.all.length c.root = fr
   case' neg => rw [if_neg hcd] at hg; cases hg
   rw [if_pos hcd] at hg
   obtain ⟨_, c2, c3, _⟩ := hcd
   obtain ⟨seg, hseg⟩ : ∃ seg, seg = (ns.take (c.root + 1).toNat).drop fr.toNat := ⟨_, rfl⟩
   have hsegl : (seg.length : Int) = c.root + 1 - fr := by rw [hseg, List.length_drop, List.length_take]; omega
   have hcut : Slc I 8 (slcCut va fr.toNat (c.root + 1).toNat 8) (nds seg) := by
     have h9 := hsa.cut (lo := fr.toNat) (hi := (c.root + 1).toNat) (by omega) (by omega)
     have e9 : nds seg = ((nds ns).take (c.root + 1).toNat).drop fr.toNat := by rw [hseg]; unfold nds; rw [List.map_drop, List.map_take]
     rw [e9]; exact h9
   have hsc : segZ p.all fr (c.root + 1) = seg.map NodeV.c := by rw [hseg, ← hp.eq]; unfold segZ; rw [List.map_drop, List.map_take]
   have hsok : ∀ o ∈ seg, o.ok I := fun o ho => hp.ok o (by rw [hseg] at ho; exact List.mem_of_mem_take (List.mem_of_mem_drop ho))
   rw [hsc] at hF
   have hnl := nds_len seg
   refine cK (tC (cS (cB (sR ?_))));refine oV ?_;refine o_elem trivial rfl Tryz.underlying23 Tryz.sizeOf39 rfl (hsl) rfl (by omega) ?_;refine o_loadAI trivial rfl Tryz.isAgg39 Tryz.sizeOf39 rfl rfl (lts_at hsl hc) ?_;refine o_alloc trivial rfl Tryz.zeroValue39 rfl (fun b8 => ?_);refine oV ?_;refine oS Tryz.sizeOf39 ?_;refine nU ?_;refine oF 3 Tryz.underlying26 Tryz.sizeOf24 ?_;refine oL Tryz.isAgg24 ?_;refine oV ?_;refine oF 1 Tryz.underlying39 Tryz.sizeOf3 ?_;refine oL Tryz.isAgg3 ?_
   (refine o_add trivial rfl rfl rfl ?_ ?_; (omega))
   refine o_cutMid trivial rfl Tryz.underlying24 Tryz.sizeOf37 rfl (hsa) rfl rfl (by omega) ?_;refine o_lenSlc trivial rfl Tryz.underlying24 rfl (hcut) ?_;refine oV ?_;refine oN (tC (cB ?_));refine c_loop (ι := Nat × List ByteArray) [0, 3, 7, 8, 14, 15, 16, 27, 28] (.cons rfl (.cons rfl (.cons rfl (.cons rfl (.cons rfl (.cons rfl (.cons rfl (.cons rfl (.cons rfl .nil))))))))) (fun x => seg.length - x.1) (fun x E0 => (29, .int .i64 (x.1 : Nat)) :: E0) (fun x => St w (keysOf [tbI b bk bu, knI bk K, usI bu L]) I [tbI b bk bu, knI bk K1, usI bu x.2, .box b8 (.cells #[.string c.name, .int .i64 c.root] 39 (0, 0)), .box b3 (.cells #[vi, vl, vo, va] 26 (0, 0))]) (fun x => x.1 ≤ seg.length ∧ nodesZ K1 (seg.map NodeV.c) L1 = nodesZ K1 ((seg.drop x.1).map NodeV.c) x.2 ∧ x.2.length ≤ L1.length + x.1) ((0, L1)) (sC rfl (sC rfl (sC rfl (sC rfl (sC rfl (sC rfl (sC rfl (sC rfl (sC rfl (sC rfl sN)))))))))) (fun _ h => h.sort (by repeat constructor)) (⟨Nat.zero_le _, rfl, Nat.le_refl _⟩) ?_;rintro ⟨j, L2⟩ ⟨hj, hF2, hL2⟩
   try dsimp only
   simp only at hj hF2 hL2
   refine sR ?_;refine oV ?_;refine oN (tC (cS ?_));refine cC rfl (fun h2 => ?_) (fun h2 => ?_)
   ·
    have f2 := h2;try simp only [bl] at f2
    obtain ⟨o, ho⟩ : ∃ o, seg[j]? = some o := ⟨seg[j]'(by omega), List.getElem?_eq_getElem (by omega)⟩
    have hom := List.mem_of_getElem? ho
    have hw1 : Ws I o.vn o.c.n := (hsok o hom).1
    have hw2 : Ws I o.vd o.c.d := (hsok o hom).2
    rw [nodesZ_step ho] at hF2
    refine cK (tC (cS (cB (sR ?_))));refine o_elem trivial rfl Tryz.underlying24 Tryz.sizeOf37 rfl (hcut) rfl (by omega) ?_;refine o_loadAI trivial rfl Tryz.isAgg37 Tryz.sizeOf37 rfl rfl (nds_at hcut ho) ?_;refine o_alloc trivial rfl Tryz.zeroValue37 rfl (fun b10 => ?_);refine oS Tryz.sizeOf37 ?_;refine nU ?_;refine oF 0 Tryz.underlying37 Tryz.sizeOf3 ?_;refine oL Tryz.isAgg3 ?_;refine oV ?_;refine nT ?_;refine cC rfl (fun h3 => ?_) (fun h3 => ?_)
    ·
     have f3 := h3;try simp only [bl] at f3
     have hk0 : o.c.kind ≠ 0 := by simpa using h3
     rw [if_pos hk0] at hF2
     refine c_exit (then_x (blk_eq rfl (tC (cR ?_))))
     (refine o_add trivial rfl rfl rfl ?_ ?_; (omega))
     refine oV ?_;refine oN ?_
     (exact again (j + 1, L2) (sC rfl (sC rfl (sC rfl (sC rfl (sC rfl (sC rfl (sC rfl (sC rfl (sC rfl (sC rfl sN)))))))))) (fun _ h => h.sort (by repeat constructor)) (by show seg.length - (j + 1) < seg.length - j; omega) ⟨by show j + 1 ≤ _; omega, hF2, by show L2.length ≤ L1.length + (j + 1); omega⟩)
    have f3 := h3;try simp only [bl] at f3
    have hk0 : o.c.kind = 0 := by simpa using h3
    rw [if_neg (not_not_intro hk0)] at hF2
    refine kS ?_;refine oV ?_;refine oF 4 Tryz.underlying37 Tryz.sizeOf9 ?_;refine oL Tryz.isAgg9 ?_;refine oC trivial rfl Tryz.call74 rfl (use_any b bk bu K1 L2 o.c.name (by omega)) (by repeat constructor) ?_;rintro _ _ _ hxu ⟨rfl, rfl, rfl⟩;refine oV ?_;refine nS ?_;iterate 2 refine oV ?_
    refine nT ?_;refine cC rfl (fun h4 => ?_) (fun h4 => ?_)
    ·
     have f4 := h4;try simp only [bl] at f4
     have hh : hasK o.c.name K1 = false := by
       cases e : hasK o.c.name K1 with
       | false => rfl
       | true => rw [e] at h4; simp at h4
     rw [hh, if_neg (by decide)] at hF2
     rw [hF2] at hF
     refine sR ?_;refine oF 4 Tryz.underlying37 Tryz.sizeOf9 ?_;refine oL Tryz.isAgg9 ?_;iterate 3 refine oV ?_
     refine oN (tC (cT (blk_r (tR (tR (blk_r (tR (blk_r (tR (tR (blk_r (tR ?_))))))))))));refine ret2 rfl rfl rfl ?_;exact fun w' hw' => ⟨I, [tbI b bk bu, knI bk K1, usI bu L2], (by unfold useL at hw'; rw [hh, if_neg (by decide)] at hw'; exact hw'.sort (by repeat constructor)), Ext.refl _ _, rfl, by rw [hF, hh]; rfl, by rw [hF]⟩
    have f4 := h4;try simp only [bl] at f4
    have hh : hasK o.c.name K1 = true := by
      cases e : hasK o.c.name K1 with
      | true => rfl
      | false => rw [e] at h4; simp at h4
    rw [if_pos hh] at hF2
    refine cK (blk_n (tC (cR ?_)))
    (refine o_add trivial rfl rfl rfl ?_ ?_; (omega))
    refine oV ?_;refine oN ?_
    (exact again (j + 1, L2 ++ [o.c.name]) (sC rfl (sC rfl (sC rfl (sC rfl (sC rfl (sC rfl (sC rfl (sC rfl (sC rfl (sC rfl sN)))))))))) (fun _ h => by unfold useL at h; rw [if_pos hh] at h; exact h.sort (by repeat constructor)) (by show seg.length - (j + 1) < seg.length - j; omega) ⟨by show j + 1 ≤ _; omega, hF2, by show (L2 ++ [o.c.name]).length ≤ L1.length + (j + 1); rw [List.length_append]; show L2.length + 1 ≤ _; omega⟩)
   have f2 := h2;try simp only [bl] at f2
   have hjn : seg.drop j = [] := List.drop_of_length_le (by omega)
   rw [hjn] at hF2
   have hF3 : nodesZ K1 (seg.map NodeV.c) L1 = (none, L2) := hF2
   rw [hF3] at hF
   dsimp only at hF
   refine c_exit (then_x (then_x (blk_eq rfl (tC (sR ?_)))));refine oF 1 Tryz.underlying39 Tryz.sizeOf3 ?_;refine oL Tryz.isAgg3 ?_
   (refine o_add trivial rfl rfl rfl ?_ ?_; (omega))
   refine oV ?_;refine nS ?_;refine oV ?_;refine oF 0 Tryz.underlying39 Tryz.sizeOf9 ?_;refine oL Tryz.isAgg9 ?_;refine oV ?_;refine o_buildS trivial rfl (bld78) rfl (.cons rfl rfl rfl (by repeat constructor) (.cons rfl rfl rfl (by repeat constructor) .nil)) ?_;refine oC trivial rfl Tryz.call113 rfl (add_any b bk bu K1 c.name ⟨true, (i : Nat)⟩) (by repeat constructor) ?_;rintro _ _ _ hxa ⟨rfl, rfl, rfl⟩;refine oV ?_;refine nS ?_;iterate 2 refine oV ?_
   refine nT ?_;refine cC rfl (fun h5 => ?_) (fun h5 => ?_)
   ·
    have f5 := h5;try simp only [bl] at f5
    have hh : hasK c.name K1 = true := by
      cases e : hasK c.name K1 with
      | true => rfl
      | false => rw [e] at h5; simp at h5
    rw [if_pos hh] at hF
    refine sR ?_;refine oF 0 Tryz.underlying39 Tryz.sizeOf9 ?_;refine oL Tryz.isAgg9 ?_;iterate 3 refine oV ?_
    refine oN (tC (cT (blk_r (tR (tR (blk_r (tR ?_)))))));refine ret2 rfl rfl rfl ?_;exact fun w' hw' => ⟨I, [tbI b bk bu, knI bk K1, usI bu L2], (by unfold putN at hw'; rw [if_pos hh] at hw'; exact hw'.sort (by repeat constructor)), Ext.refl _ _, rfl, by rw [hF, if_pos hh], by rw [hF]⟩
   have f5 := h5;try simp only [bl] at f5
   have hh : hasK c.name K1 = false := by
     cases e : hasK c.name K1 with
     | false => rfl
     | true => rw [e] at h5; simp at h5
   rw [hh, if_neg (by decide)] at hF
   refine cK (blk_n (tC (cR ?_)))
   (refine o_add trivial rfl rfl rfl ?_ ?_; (omega))
   refine oV ?_;refine oN ?_;exact again (i + 1, c.root + 1, K1 ++ [(c.name, ⟨true, (i : Nat)⟩)], L2) (sC rfl (sC rfl (sC rfl (sC rfl (sC rfl (sC rfl sN)))))) (fun _ h => by unfold putN at h; rw [hh, if_neg (by decide)] at h; exact h.sort (by repeat constructor)) (by show p.lets.length - (i + 1) < p.lets.length - i; omega) ⟨by show i + 1 ≤ _; omega, by show 0 ≤ c.root + 1; omega, by show c.root + 1 ≤ _; omega, hg, hF, by show (L2.length : Int) ≤ 1000 + (c.root + 1); omega⟩
  have f1 := h1;try simp only [bl] at f1
  have hin : p.lets.drop i = [] := List.drop_of_length_le (by omega)
  rw [hin] at hF
  refine c_exit (then_x (then_x (blk_eq rfl (tC (sR ?_)))));iterate 2 refine oV ?_
  refine nE ?_;refine ret2 rfl rfl rfl ?_;exact fun w' hw' => ⟨I, [tbI b bk bu, knI bk K1, usI bu L1], hw'.sort (by repeat constructor), Ext.refl _ _, rfl, by rw [hF]; rfl, by rw [hF]; rfl⟩
theorem right_bg {p : ProgC} {l : List (ByteArray × Ex)} (hr : RightP p l) : bgGo p.all p.lets 0 = some (p.all.length : Int) := by
  have hg := bgGo_ex p.all l 0 hr.ok (fun j c hj => by rw [hr.all, Nat.zero_add]; exact hj) (by rw [Nat.zero_add, ← hr.all]; exact Nat.le_refl _)
  rw [← hr.lets, ← hr.all, Nat.zero_add] at hg
  exact hg
theorem nodesZ_len (K : KN) : ∀ (r : List NodeC) (L : List ByteArray), (nodesZ K r L).2.length ≤ L.length + r.length
  | [], L => Nat.le_refl _
  | c :: r, L => by
    have h1 := nodesZ_len K r L
    have h2 := nodesZ_len K r (L ++ [c.name])
    rw [List.length_append] at h2
    have h3 : [c.name].length = 1 := rfl
    unfold nodesZ
    rw [List.length_cons]
    split
    · omega
    · split
      · omega
      · show L.length ≤ _; omega
theorem letsZ_len (all : List NodeC) : ∀ (ls : List LetC) (i : Nat) (fr : Int) (K : KN) (L : List ByteArray), (letsZ all ls i fr K L).2.2.2.length ≤ L.length + ls.length * all.length
  | [], i, fr, K, L => by show L.length ≤ _; omega
  | l :: ls, i, fr, K, L => by
    have h1 := nodesZ_len K (segZ all fr (l.root + 1)) L
    have h2 : (segZ all fr (l.root + 1)).length ≤ all.length := by unfold segZ; rw [List.length_drop, List.length_take]; omega
    unfold letsZ
    rw [List.length_cons, Nat.succ_mul]
    cases hn : nodesZ K (segZ all fr (l.root + 1)) L with
    | mk e L' =>
      rw [hn] at h1
      cases e with
      | some n => show L'.length ≤ _; dsimp only at h1; omega
      | none =>
        dsimp only at h1 ⊢
        split
        · show L'.length ≤ _; omega
        · have h3 := letsZ_len all ls (i + 1) (l.root + 1) (K ++ [(l.name, ⟨true, (i : Nat)⟩)]) L'
          omega
theorem ousZ_step {l : List ByteArray} {i : Nat} {s : ByteArray} (h : l[i]? = some s) (K : KN) (L : List ByteArray) : ousZ K (l.drop i) L = if hasK s K = true then ousZ K (l.drop (i + 1)) (L ++ [s]) else (s, 6, L) := by
  obtain ⟨h1, h2⟩ := List.getElem?_eq_some_iff.1 h
  rw [List.drop_eq_getElem_cons h1, h2]
  rfl
theorem readZ_not {p : ProgC} (h : (tZ p).isSome = false) : readZ p = ⟨⟨#[]⟩, 1, [], []⟩ := by unfold readZ; rw [h]; rfl
theorem readZ_ins {p : ProgC} {n : ByteArray} {e : Int} {K : KN} (h : (tZ p).isSome = true) (hi : insZ p.ins 0 [] = (n, e, K)) (he : e ≠ 0) : readZ p = ⟨n, e, K, []⟩ := by unfold readZ; rw [if_pos h, hi, if_pos he]
theorem readZ_lets {p : ProgC} {n m : ByteArray} {e : Int} {K K2 : KN} {L : List ByteArray} (h : (tZ p).isSome = true) (hi : insZ p.ins 0 [] = (n, 0, K)) (hl : letsZ p.all p.lets 0 0 K [] = (m, e, K2, L)) (he : e ≠ 0) : readZ p = ⟨m, e, K2, L⟩ := by
  unfold readZ
  rw [if_pos h, hi, if_neg (by simp), hl, if_pos he]
theorem readZ_outs {p : ProgC} {n m : ByteArray} {K K2 : KN} {L : List ByteArray} (h : (tZ p).isSome = true) (hi : insZ p.ins 0 [] = (n, 0, K)) (hl : letsZ p.all p.lets 0 0 K [] = (m, 0, K2, L)) : readZ p = ⟨(ousZ K2 p.outs L).1, (ousZ K2 p.outs L).2.1, K2, (ousZ K2 p.outs L).2.2⟩ := by
  unfold readZ
  rw [if_pos h, hi, if_neg (by simp), hl, if_neg (by simp)]
theorem scRead_any (vi vl vo va : Value) (p : ProgC) (ns : List NodeV) {I : Hp} (hp : ProgV I vi vl vo va p ns) (hf : ∀ o ∈ ns, o.c.few 2000000) :
    Fun Tryz.prog 41 [.agg #[vi, vl, vo, va]] I [] (fun v I' B' => I = I' ∧ ∃ b bk bu, v = .tuple #[.pointer (some ⟨b, 0, none⟩), .string (readZ p).name, .int .i64 (readZ p).err] ∧ B' = [tbI b bk bu, knI bk (readZ p).K, usI bu (readZ p).L]) := by
  have hsi := hp.si
  have hsl := hp.sl
  have hso := hp.so
  have hsa := hp.sa
  have hlo := scs_len p.outs
  intro w hw
  refine enter1 _ Tryz.func41 rfl Tryz.ntmps41 rfl ?_ hw;refine sR ?_;refine o_box trivial rfl rfl rfl (fun b1 => ?_);iterate 3 refine oV ?_
  refine nS ?_;refine o_makeMap trivial rfl (fun b13 => ?_);refine o_makeMap trivial rfl (fun b14 => ?_);refine o_buildS trivial rfl (bld83) rfl (.cons rfl rfl rfl (by repeat constructor) (.cons rfl rfl rfl (by repeat constructor) .nil)) ?_;refine o_box trivial rfl rfl rfl (fun b16 => ?_);refine oV ?_;refine nU ?_;refine oA Tryz.isAgg26 Tryz.sizeOf26 ?_;refine oQ Tryz.call26 rfl (trRight_any vi vl vo va p ns hp hf) ?_;refine oV ?_;refine nT ?_;refine cC rfl (fun h1 => ?_) (fun h1 => ?_)
  ·
   have f1 := h1;try simp only [bl] at f1
   have ht : (tZ p).isSome = false := by simpa using h1
   refine sR ?_;iterate 4 refine oV ?_
   refine nF ?_;refine ret3 rfl rfl rfl rfl ?_;exact fun w' hw' => ⟨I, [tbI b16 b13 b14, knI b13 [], usI b14 []], hw'.sort (by repeat constructor), Ext.refl _ _, rfl, b16, b13, b14, by rw [readZ_not ht], by rw [readZ_not ht]⟩
  have f1 := h1;try simp only [bl] at f1
  have ht : (tZ p).isSome = true := by
    cases e : (tZ p).isSome with
    | true => rfl
    | false => rw [e] at h1; cases h1
  obtain ⟨l, hl⟩ := tZ_iff.1 ht
  have hgo := right_bg hl
  have hfe := hl.few
  have hlb : p.lets.length ≤ 40 := by rw [hl.lets, laid_lets]; exact hl.few.1
  have hob := hl.outs.2.2
  have hll0 := letsZ_len p.all p.lets 0 0 (insZ p.ins 0 []).2.2 []
  have hmul : p.lets.length * p.all.length ≤ 40 * 400 := Nat.mul_le_mul hlb hfe.2
  refine cK (tC (cS (sR ?_)));refine oV ?_;refine oF 0 Tryz.underlying26 Tryz.sizeOf22 ?_;refine oL Tryz.isAgg22 ?_;refine l_imp (S' := St w [] I [tbI b16 b13 b14, knI b13 [], usI b14 [], .box b1 (.cells #[vi, vl, vo, va] 26 (0, 0))]) (fun _ h => h.sort (by repeat constructor)) ?_;refine oC trivial rfl Tryz.call72 rfl (ins_any b16 b13 b14 [] vi p.ins hsi) (by repeat constructor) ?_;rintro _ _ _ hxi ⟨rfl, rfl, rfl⟩;iterate 5 refine oV ?_
  refine oN (tC (cS ?_))
  generalize hi : insZ p.ins 0 [] = ri at *
  obtain ⟨n1, e1, K1⟩ := ri
  dsimp only at hll0 ⊢
  refine cR ?_;iterate 2 refine oV ?_
  refine nT ?_;refine cC rfl (fun h2 => ?_) (fun h2 => ?_)
  ·
   have f2 := h2;try simp only [bl] at f2
   have he1 : e1 ≠ 0 := by simpa using h2
   refine sR ?_;iterate 6 refine oV ?_
   refine nF ?_;refine ret3 rfl rfl rfl rfl ?_;exact fun w' hw' => ⟨I, [tbI b16 b13 b14, knI b13 K1, usI b14 []], hw'.sort (by repeat constructor), Ext.refl _ _, rfl, b16, b13, b14, by rw [readZ_ins ht hi he1]; rfl, by rw [readZ_ins ht hi he1]⟩
  have f2 := h2;try simp only [bl] at f2
  obtain rfl : e1 = 0 := by simpa using h2
  refine cK (tC (cS (sR ?_)));refine oV ?_;refine oA Tryz.isAgg26 Tryz.sizeOf26 ?_;refine oC trivial rfl Tryz.call73 rfl (lets_any b16 b13 b14 K1 [] vi vl vo va p ns hp hgo (by omega) (Nat.zero_le _)) (by repeat constructor) ?_;rintro _ _ _ hxl ⟨rfl, rfl, rfl⟩;iterate 5 refine oV ?_
  refine oN (tC (cS ?_))
  generalize hz : letsZ p.all p.lets 0 0 K1 [] = rz at *
  obtain ⟨m1, e2, K2, L2⟩ := rz
  dsimp only at hll0 ⊢
  refine cR ?_;iterate 2 refine oV ?_
  refine nT ?_;refine cC rfl (fun h3 => ?_) (fun h3 => ?_)
  ·
   have f3 := h3;try simp only [bl] at f3
   have he2 : e2 ≠ 0 := by simpa using h3
   refine sR ?_;iterate 6 refine oV ?_
   refine nF ?_;refine ret3 rfl rfl rfl rfl ?_;exact fun w' hw' => ⟨I, [tbI b16 b13 b14, knI b13 K2, usI b14 L2], hw'.sort (by repeat constructor), Ext.refl _ _, rfl, b16, b13, b14, by rw [readZ_lets ht hi hz he2]; rfl, by rw [readZ_lets ht hi hz he2]⟩
  have f3 := h3;try simp only [bl] at f3
  obtain rfl : e2 = 0 := by simpa using h3
  have hrz := readZ_outs ht hi hz
  have hl2 : L2.length ≤ 16000 := by
    have h9 : ([] : List ByteArray).length = 0 := rfl
    omega
  refine cK (tC (cS (sR ?_)));refine oF 2 Tryz.underlying26 Tryz.sizeOf22 ?_;refine oL Tryz.isAgg22 ?_;refine o_lenSlc trivial rfl Tryz.underlying22 rfl (hso) ?_;refine oV ?_;refine oN (tC (cB ?_));refine c_loop (ι := Nat × List ByteArray) [5, 45, 46] (.cons rfl (.cons rfl (.cons rfl .nil))) (fun x => p.outs.length - x.1) (fun x E0 => (47, .int .i64 (x.1 : Nat)) :: E0) (fun x => St w [] I [tbI b16 b13 b14, knI b13 K2, usI b14 x.2, .box b1 (.cells #[vi, vl, vo, va] 26 (0, 0))]) (fun x => x.1 ≤ p.outs.length ∧ ousZ K2 p.outs L2 = ousZ K2 (p.outs.drop x.1) x.2 ∧ x.2.length ≤ L2.length + x.1) ((0, L2)) (sC rfl (sC rfl (sC rfl (sC rfl sN)))) (fun _ h => h.sort (by repeat constructor)) (⟨Nat.zero_le _, rfl, Nat.le_refl _⟩) ?_;rintro ⟨i, L3⟩ ⟨hi3, hF, hL3⟩
  try dsimp only
  simp only at hi3 hF hL3
  refine sR ?_;refine oV ?_;refine oN (tC (cS ?_));refine cC rfl (fun h4 => ?_) (fun h4 => ?_)
  ·
   have f4 := h4;try simp only [bl] at f4
   obtain ⟨s, hs⟩ : ∃ s, p.outs[i]? = some s := ⟨p.outs[i]'(by omega), List.getElem?_eq_getElem (by omega)⟩
   rw [ousZ_step hs] at hF
   refine cK (tC (cS (cB (sR ?_))));refine o_elem trivial rfl Tryz.underlying22 Tryz.sizeOf9 rfl (hso) rfl (by omega) ?_;refine o_load1I trivial rfl Tryz.isAgg9 rfl (scs_at hso hs) ?_;refine oV ?_;refine nS ?_;iterate 2 refine oV ?_
   refine oC trivial rfl Tryz.call74 rfl (use_any b16 b13 b14 K2 L3 s (by omega)) (by repeat constructor) ?_;rintro _ _ _ hxu ⟨rfl, rfl, rfl⟩;refine oV ?_;refine nS ?_;iterate 2 refine oV ?_
   refine nT ?_;refine cC rfl (fun h5 => ?_) (fun h5 => ?_)
   ·
    have f5 := h5;try simp only [bl] at f5
    have hh : hasK s K2 = false := by
      cases e : hasK s K2 with
      | false => rfl
      | true => rw [e] at h5; simp at h5
    rw [hh, if_neg (by decide)] at hF
    rw [hF] at hrz
    refine sR ?_;iterate 6 refine oV ?_
    refine oN (tC (cT (blk_r (tR (tR (blk_r (tR ?_)))))));refine ret3 rfl rfl rfl rfl ?_;exact fun w' hw' => ⟨I, [tbI b16 b13 b14, knI b13 K2, usI b14 L3], (by unfold useL at hw'; rw [hh, if_neg (by decide)] at hw'; exact hw'.sort (by repeat constructor)), Ext.refl _ _, rfl, b16, b13, b14, by rw [hrz, hh]; rfl, by rw [hrz]⟩
   have f5 := h5;try simp only [bl] at f5
   have hh : hasK s K2 = true := by
     cases e : hasK s K2 with
     | true => rfl
     | false => rw [e] at h5; simp at h5
   rw [if_pos hh] at hF
   refine cK (blk_n (tC (cR ?_)))
   (refine o_add trivial rfl rfl rfl ?_ ?_; (omega))
   refine oV ?_;refine oN ?_;exact again (i + 1, L3 ++ [s]) (sC rfl (sC rfl (sC rfl (sC rfl sN)))) (fun _ h => by unfold useL at h; rw [if_pos hh] at h; exact h.sort (by repeat constructor)) (by show p.outs.length - (i + 1) < p.outs.length - i; omega) ⟨by show i + 1 ≤ _; omega, hF, by show (L3 ++ [s]).length ≤ L2.length + (i + 1); rw [List.length_append]; show L3.length + 1 ≤ _; omega⟩
  have f4 := h4;try simp only [bl] at f4
  have hin : p.outs.drop i = [] := List.drop_of_length_le (by omega)
  rw [hin] at hF
  have hF2 : ousZ K2 p.outs L2 = (⟨#[]⟩, 0, L3) := hF
  rw [hF2] at hrz
  refine c_exit (then_x (then_x (blk_eq rfl (tC (sR ?_)))));iterate 4 refine oV ?_
  refine nE ?_;refine ret3 rfl rfl rfl rfl ?_;exact fun w' hw' => ⟨I, [tbI b16 b13 b14, knI b13 K2, usI b14 L3], hw'.sort (by repeat constructor), Ext.refl _ _, rfl, b16, b13, b14, by rw [hrz], by rw [hrz]⟩
theorem scCheck_any (vi vl vo va : Value) (p : ProgC) (ns : List NodeV) {I : Hp} (hp : ProgV I vi vl vo va p ns) (hf : ∀ o ∈ ns, o.c.few 2000000) :
    Fun Tryz.prog 17 [.agg #[vi, vl, vo, va]] I [] (fun v _ _ => v = .tuple #[.string (readZ p).name, .int .i64 (readZ p).err]) := by
  have hsi := hp.si
  have hsl := hp.sl
  have hso := hp.so
  have hsa := hp.sa
  intro w hw
  refine enter1 _ Tryz.func17 rfl Tryz.ntmps17 rfl ?_ hw;refine sR ?_;refine o_box trivial rfl rfl rfl (fun b1 => ?_);iterate 2 refine oV ?_
  refine nS ?_;refine oA Tryz.isAgg26 Tryz.sizeOf26 ?_;refine oC trivial rfl Tryz.call41 rfl (scRead_any vi vl vo va p ns hp hf) (by repeat constructor) ?_;rintro _ _ _ hxr ⟨rfl, b, bk, bu, rfl, rfl⟩;iterate 6 refine oV ?_
  refine nS ?_;iterate 4 refine oV ?_
  refine nE ?_;refine ret2 rfl rfl rfl ?_;exact leaf0 rfl
def whereZ (p : ProgC) (s : ByteArray) : Bool × Int × Bool := if (readZ p).err = 0 ∧ hasK s (readZ p).K = true then (((getK s (readZ p).K).getD ⟨false, 0⟩).l, ((getK s (readZ p).K).getD ⟨false, 0⟩).i, true) else (false, 0, false)
theorem scWhere_any (vi vl vo va : Value) (p : ProgC) (ns : List NodeV) (s : ByteArray) {I : Hp} (hp : ProgV I vi vl vo va p ns) (hf : ∀ o ∈ ns, o.c.few 2000000) :
    Fun Tryz.prog 19 [.agg #[vi, vl, vo, va], .string s] I [] (fun v _ _ => v = .tuple #[.bool (whereZ p s).1, .int .i64 (whereZ p s).2.1, .bool (whereZ p s).2.2]) := by
  have hsi := hp.si
  have hsl := hp.sl
  have hso := hp.so
  have hsa := hp.sa
  intro w hw
  refine enter2 _ Tryz.func19 rfl Tryz.ntmps19 rfl ?_ hw;refine sR ?_;refine o_box trivial rfl rfl rfl (fun b2 => ?_);iterate 3 refine oV ?_
  refine nS ?_;refine oA Tryz.isAgg26 Tryz.sizeOf26 ?_;refine oC trivial rfl Tryz.call41 rfl (scRead_any vi vl vo va p ns hp hf) (by repeat constructor) ?_;rintro _ _ _ hxr ⟨rfl, b, bk, bu, rfl, rfl⟩;iterate 7 refine oV ?_
  refine nS ?_;iterate 2 refine oV ?_
  refine oF 0 Tryz.underlying83 Tryz.sizeOf80 ?_;refine oL Tryz.isAgg80 ?_;refine oV ?_;refine o_lookK trivial rfl Tryz.underlying80 Tryz.underlying9 Tryz.zeroValue78 rfl rfl (by repeat constructor) ?_;iterate 3 refine oV ?_
  refine o_alloc trivial rfl Tryz.zeroValue78 rfl (fun b10 => ?_);refine oS Tryz.sizeOf78 ?_;refine oV ?_;refine nU ?_;iterate 2 refine oV ?_
  refine' o_or trivial trivial rfl rfl rfl rfl rfl rfl rfl rfl (fun hb29 => ?_) ?_;rotate_left
  ·
   have fb29 := hb29
   try simp only [bl] at fb29
   iterate 2 refine gV hb29 ?_
   refine oN ?_;exact joins rfl
  refine nT ?_;refine cC rfl (fun h1 => ?_) (fun h1 => ?_)
  ·
   have f1 := h1;try simp only [bl] at f1
   have hz : whereZ p s = (false, 0, false) := if_neg (fun hh => by
     have h9 := h1
     rw [hh.1] at h9
     have h8 : (getK s (readZ p).K).isSome = true := hh.2
     rw [h8] at h9
     cases h9)
   refine sR ?_;iterate 3 refine oV ?_
   refine nF ?_;refine ret3 rfl rfl rfl rfl ?_;refine leaf0 ?_; rw [hz]
  have f1 := h1;try simp only [bl] at f1
  have hz : whereZ p s = (((getK s (readZ p).K).getD ⟨false, 0⟩).l, ((getK s (readZ p).K).getD ⟨false, 0⟩).i, true) := if_pos (by
    have h9 := h1
    simp only [Bool.or_eq_false_iff, Bool.not_eq_false'] at h9
    exact ⟨by simpa using h9.1, h9.2⟩)
  refine cK (tC (cS ?_));refine c_quiet (by kernel_rfl) (by kernel_rfl) (fun _ h => h.drawn) ?_;refine oF 0 Tryz.underlying78 Tryz.sizeOf4 ?_;refine oL Tryz.isAgg4 ?_;refine oF 1 Tryz.underlying78 Tryz.sizeOf3 ?_;refine oL Tryz.isAgg3 ?_;iterate 3 refine oV ?_
  refine nE ?_;refine ret3 rfl rfl rfl rfl ?_;refine leaf0 ?_; rw [hz]
def enumK (b : Bool) : List ByteArray → Nat → KN
  | [], _ => []
  | s :: l, i => (s, ⟨b, (i : Nat)⟩) :: enumK b l (i + 1)
theorem insZ_ok : ∀ {l : List ByteArray} {i : Nat} {K K' : KN} {n : ByteArray}, insZ l i K = (n, 0, K') → K' = K ++ enumK false l i
  | [], i, K, K', n, h => by
    have := congrArg (fun x => x.2.2) h
    rw [enumK, List.append_nil]; exact this.symm
  | s :: l, i, K, K', n, h => by
    rw [insZ] at h
    split at h
    · have := congrArg (fun x => x.2.1) h
      simp at this
    · rw [insZ_ok h, enumK, List.append_assoc]; rfl
def refsZ : List NodeC → List ByteArray
  | [] => []
  | c :: r => if c.kind ≠ 0 then refsZ r else c.name :: refsZ r
theorem refsZ_app : ∀ (a b : List NodeC), refsZ (a ++ b) = refsZ a ++ refsZ b
  | [], b => rfl
  | c :: a, b => by
    rw [List.cons_append, refsZ, refsZ, refsZ_app a b]
    split <;> rfl
theorem nodesZ_ok {K : KN} : ∀ {r : List NodeC} {L L' : List ByteArray}, nodesZ K r L = (none, L') → L' = L ++ refsZ r
  | [], L, L', h => by
    have := congrArg Prod.snd h
    rw [refsZ, List.append_nil]; exact this.symm
  | c :: r, L, L', h => by
    rw [nodesZ] at h
    rw [refsZ]
    split at h
    · rename_i hk
      rw [if_pos hk]; exact nodesZ_ok h
    · rename_i hk
      rw [if_neg hk]
      split at h
      · rw [nodesZ_ok h, List.append_assoc]; rfl
      · have := congrArg Prod.fst h
        cases this
theorem seg_app {all : List NodeC} {fr hi : Int} (h0 : 0 ≤ fr) (h : fr ≤ hi) (h2 : hi ≤ all.length) : segZ all fr hi ++ all.drop hi.toNat = all.drop fr.toNat := by
  unfold segZ
  have e := List.take_append_drop hi.toNat all
  conv => rhs; rw [← e]
  rw [List.drop_append, List.length_take, show fr.toNat - min hi.toNat all.length = 0 by omega, List.drop_zero]
theorem letsZ_ok {all : List NodeC} : ∀ {ls : List LetC} {i : Nat} {fr : Int} {K K' : KN} {L L' : List ByteArray} {n : ByteArray}, letsZ all ls i fr K L = (n, 0, K', L') → bgGo all ls fr = some (all.length : Int) → 0 ≤ fr → K' = K ++ enumK true (ls.map LetC.name) i ∧ L' = L ++ refsZ (all.drop fr.toNat)
  | [], i, fr, K, K', L, L', n, h, hg, h0 => by
    have h1 := congrArg (fun x => x.2.2.1) h
    have h2 := congrArg (fun x => x.2.2.2) h
    have h3 : fr = (all.length : Int) := Option.some.inj hg
    refine ⟨by rw [List.map_nil, enumK, List.append_nil]; exact h1.symm, ?_⟩
    rw [h3, Int.toNat_natCast, List.drop_length, refsZ, List.append_nil]
    exact h2.symm
  | c :: ls, i, fr, K, K', L, L', n, h, hg, h0 => by
    rw [letsZ] at h
    rw [bgGo_cons] at hg
    by_cases hcd : nameZ c.name = true ∧ fr ≤ c.root ∧ c.root < all.length ∧ begZ all fr all.length c.root = fr
    · rw [if_pos hcd] at hg
      cases hn : nodesZ K (segZ all fr (c.root + 1)) L with
      | mk e L1 =>
        rw [hn] at h
        cases e with
        | some m =>
          have := congrArg (fun x => x.2.1) h
          simp at this
        | none =>
          dsimp only at h
          split at h
          · have := congrArg (fun x => x.2.1) h
            simp at this
          · obtain ⟨h1, h2⟩ := letsZ_ok h hg (by omega)
            refine ⟨by rw [h1, List.map_cons, enumK, List.append_assoc]; rfl, ?_⟩
            rw [h2, nodesZ_ok hn, List.append_assoc, ← refsZ_app, seg_app h0 (by omega) (by omega)]
    · rw [if_neg hcd] at hg; cases hg
theorem ousZ_ok {K : KN} : ∀ {l L L' : List ByteArray} {n : ByteArray}, ousZ K l L = (n, 0, L') → L' = L ++ l
  | [], L, L', n, h => by
    have := congrArg (fun x => x.2.2) h
    rw [List.append_nil]; exact this.symm
  | s :: l, L, L', n, h => by
    rw [ousZ] at h
    split at h
    · rw [ousZ_ok h, List.append_assoc]; rfl
    · have := congrArg (fun x => x.2.1) h
      simp at this
theorem readZ_ok {p : ProgC} (h : (readZ p).err = 0) : (readZ p).K = enumK false p.ins 0 ++ enumK true (p.lets.map LetC.name) 0 ∧ (readZ p).L = refsZ p.all ++ p.outs := by
  cases ht : (tZ p).isSome with
  | false => rw [readZ_not ht] at h; cases h
  | true =>
    obtain ⟨l, hl⟩ := tZ_iff.1 ht
    have hgo := right_bg hl
    cases hi : insZ p.ins 0 [] with
    | mk n x =>
      obtain ⟨e, K⟩ := x
      by_cases he : e = 0
      · subst he
        cases hz : letsZ p.all p.lets 0 0 K [] with
        | mk m y =>
          obtain ⟨e2, K2, L2⟩ := y
          by_cases he2 : e2 = 0
          · subst he2
            have hr := readZ_outs ht hi hz
            rw [hr] at h ⊢
            dsimp only at h ⊢
            obtain ⟨h1, h2⟩ := letsZ_ok hz hgo (Int.le_refl _)
            cases ho : ousZ K2 p.outs L2 with
            | mk n3 z =>
              obtain ⟨e3, L3⟩ := z
              rw [ho] at h
              dsimp only at h
              subst h
              refine ⟨by rw [h1, insZ_ok hi]; rfl, ?_⟩
              show L3 = _
              rw [ousZ_ok ho, h2]
              rfl
          · rw [readZ_lets ht hi hz he2] at h; exact absurd h he2
      · rw [readZ_ins ht hi he] at h; exact absurd h he
theorem getK_app (s : ByteArray) : ∀ (A B : KN), getK s (A ++ B) = match getK s A with
    | some p => some p
    | none => getK s B
  | [], B => rfl
  | (t, p) :: A, B => by
    rw [List.cons_append, getK, getK]
    split
    · rfl
    · exact getK_app s A B
theorem whereZ_ok {p : ProgC} {s : ByteArray} (h : (readZ p).err = 0) : whereZ p s = match getK s (enumK false p.ins 0) with
    | some q => (q.l, q.i, true)
    | none => match getK s (enumK true (p.lets.map LetC.name) 0) with
      | some q => (q.l, q.i, true)
      | none => (false, 0, false) := by
  unfold whereZ hasK
  rw [(readZ_ok h).1, getK_app]
  cases getK s (enumK false p.ins 0) with
  | some q => rw [if_pos ⟨h, rfl⟩]; rfl
  | none =>
    dsimp only
    cases getK s (enumK true (p.lets.map LetC.name) 0) with
    | some q => rw [if_pos ⟨h, rfl⟩]; rfl
    | none => rw [if_neg (fun hh => by cases hh.2)]
def awB : ByteArray := ⟨#[98]⟩
theorem nameZ_B : nameZ awB = true := by kernel_rfl
def us (s : ByteArray) : ByteArray := s ++ ⟨#[95]⟩
theorem readZ_parts {p : ProgC} (h : (readZ p).err = 0) : ∃ (l : List (ByteArray × Ex)) (n m r : ByteArray) (K1 : KN) (L2 : List ByteArray), RightP p l ∧ insZ p.ins 0 [] = (n, 0, K1) ∧ letsZ p.all p.lets 0 0 K1 [] = (m, 0, (readZ p).K, L2) ∧ ousZ (readZ p).K p.outs L2 = (r, 0, (readZ p).L) := by
  cases ht : (tZ p).isSome with
  | false => rw [readZ_not ht] at h; cases h
  | true =>
    obtain ⟨l, hl⟩ := tZ_iff.1 ht
    cases hi : insZ p.ins 0 [] with
    | mk n x =>
      obtain ⟨e, K⟩ := x
      by_cases he : e = 0
      · subst he
        cases hz : letsZ p.all p.lets 0 0 K [] with
        | mk m y =>
          obtain ⟨e2, K2, L2⟩ := y
          by_cases he2 : e2 = 0
          · subst he2
            have hr := readZ_outs ht hi hz
            rw [hr] at h ⊢
            dsimp only at h ⊢
            refine ⟨l, n, m, (ousZ K2 p.outs L2).1, K, L2, hl, rfl, hz, ?_⟩
            rw [← h]
          · rw [readZ_lets ht hi hz he2] at h; exact absurd h he2
      · rw [readZ_ins ht hi he] at h; exact absurd h he
def plcZ (p : ProgC) (pl : List Int) (s : ByteArray) : Int := if (whereZ p s).1 = true then pl.getD ((p.lets.getD (whereZ p s).2.1.toNat ⟨⟨#[]⟩, 0⟩).root.toNat) 0 else (whereZ p s).2.1
def opL (c : NodeC) (pl : List Int) : OpC := ⟨c.kind, if 2 ≤ c.kind then pl.getD c.a.toNat 0 else 0, if 2 ≤ c.kind ∧ c.kind ≤ 5 then pl.getD c.b.toNat 0 else 0, c.e, c.neg, c.n, c.d⟩
def lowGo (p : ProgC) : List NodeC → Nat → List Int → List OpC → List Int × List OpC
  | [], _, pl, ops => (pl, ops)
  | c :: r, i, pl, ops => if c.kind = 0 then lowGo p r (i + 1) (pl.set i (plcZ p pl c.name)) ops else lowGo p r (i + 1) (pl.set i ((p.ins.length : Int) + ops.length)) (ops ++ [opL c (pl.set i ((p.ins.length : Int) + ops.length))])
def lowAll (p : ProgC) : List Int × List OpC := lowGo p p.all 0 (List.replicate p.all.length 0) []
def lowT (p : ProgC) : TapeC := ⟨p.ins.length, (lowAll p).2, p.outs.map (plcZ p (lowAll p).1)⟩
structure LowR where
  t : TapeC
  name : ByteArray
  err : Int
def noT : TapeC := ⟨0, [], []⟩
def lowZ (p : ProgC) : LowR := if (readZ p).err ≠ 0 then ⟨noT, (readZ p).name, (readZ p).err⟩ else if (tapeW (lowT p)).isSome = true then ⟨lowT p, ⟨#[]⟩, 0⟩ else ⟨noT, ⟨#[]⟩, 4⟩
def LowV (r : LowR) (v : Value) (I : Hp) : Prop := ∃ vo vu os, v = .tuple #[.agg #[.int .i64 r.t.ins, vo, vu], .string r.name, .int .i64 r.err] ∧ TapeV I vo vu r.t os ∧ ∀ o ∈ r.t.ops, OpC.few 3000 o
theorem lowGo_step {p : ProgC} {l : List NodeC} {i : Nat} {c : NodeC} (h : l[i]? = some c) (pl : List Int) (ops : List OpC) : lowGo p (l.drop i) i pl ops = if c.kind = 0 then lowGo p (l.drop (i + 1)) (i + 1) (pl.set i (plcZ p pl c.name)) ops else lowGo p (l.drop (i + 1)) (i + 1) (pl.set i ((p.ins.length : Int) + ops.length)) (ops ++ [opL c (pl.set i ((p.ins.length : Int) + ops.length))]) := by
  obtain ⟨h1, h2⟩ := List.getElem?_eq_some_iff.1 h
  rw [List.drop_eq_getElem_cons h1, h2]
  rfl
structure InOrd (p : ProgC) : Prop where
  low : LowN p.all
  kind : ∀ c ∈ p.all, 0 ≤ c.kind ∧ c.kind ≤ 7
  place : ∀ s, (whereZ p s).1 = true → 0 ≤ (whereZ p s).2.1 ∧ ∃ c, p.lets[(whereZ p s).2.1.toNat]? = some c ∧ 0 ≤ c.root ∧ c.root < p.all.length
  few : p.all.length ≤ 400 ∧ p.outs.length ≤ 40 ∧ p.ins.length ≤ 40
theorem kind_in {l : List NodeC} {i : Int} {x : Ex} (h : NodeAt l i x) {c : NodeC} (hc : l[i.toNat]? = some c) : 0 ≤ c.kind ∧ c.kind ≤ 7 := by
  cases x with
  | ref t => have h1 := h.ref; rw [hc] at h1; cases Option.some.inj h1; exact ⟨by show (0 : Int) ≤ 0; decide, by show (0 : Int) ≤ 7; decide⟩
  | num q => have h1 := h.num; rw [hc] at h1; cases Option.some.inj h1; exact ⟨by show (0 : Int) ≤ 1; decide, by show (1 : Int) ≤ 7; decide⟩
  | neg y => obtain ⟨a, h1, _⟩ := h.neg; rw [hc] at h1; cases Option.some.inj h1; exact ⟨by show (0 : Int) ≤ 6; decide, by show (6 : Int) ≤ 7; decide⟩
  | pow y e => obtain ⟨a, h1, _⟩ := h.pow; rw [hc] at h1; cases Option.some.inj h1; exact ⟨by show (0 : Int) ≤ 7; decide, by show (7 : Int) ≤ 7; decide⟩
  | bin k y z =>
    have hk := h.ok
    obtain ⟨a, b, h1, _⟩ := h.bin
    rw [hc] at h1; cases Option.some.inj h1
    obtain ⟨k2, k5, _⟩ := hk
    exact ⟨by show 0 ≤ k; omega, by show k ≤ 7; omega⟩
theorem enumK_ge {b : Bool} {s : ByteArray} {q : PL} : ∀ {l : List ByteArray} {i : Nat}, getK s (enumK b l i) = some q → q.l = b ∧ 0 ≤ q.i ∧ q.i < (i + l.length : Nat)
  | [], i, h => by cases h
  | t :: l, i, h => by
    rw [enumK, getK] at h
    split at h
    · cases h; refine ⟨rfl, ?_, ?_⟩
      · show 0 ≤ ((i : Nat) : Int); omega
      · show ((i : Nat) : Int) < _; rw [List.length_cons]; omega
    · obtain ⟨h1, h2, h3⟩ := enumK_ge h
      refine ⟨h1, h2, ?_⟩
      rw [List.length_cons]
      omega
theorem inOrd {p : ProgC} (h : (readZ p).err = 0) : InOrd p := by
  obtain ⟨l, n, m, r, K1, L2, hl, _, _, _⟩ := readZ_parts h
  refine ⟨shaped_low hl.toShaped, fun c hc => ?_, fun s hs => ?_, ⟨hl.few.2, hl.outs.2.2, hl.ins.2.2⟩⟩
  · obtain ⟨i, hi⟩ := List.mem_iff_getElem?.1 hc
    have hlt := (List.getElem?_eq_some_iff.1 hi).1
    obtain ⟨y, hy, _⟩ := hl.node (i := (i : Int)) (by omega) (by omega)
    exact kind_in hy (by rw [Int.toNat_natCast]; exact hi)
  · have hw := whereZ_ok (s := s) h
    cases e1 : getK s (enumK false p.ins 0) with
    | some q =>
      rw [e1] at hw
      dsimp only at hw
      rw [hw, (enumK_ge e1).1] at hs
      cases hs
    | none =>
      rw [e1] at hw
      dsimp only at hw
      cases e2 : getK s (enumK true (p.lets.map LetC.name) 0) with
      | none => rw [e2] at hw; dsimp only at hw; rw [hw] at hs; cases hs
      | some q =>
        rw [e2] at hw
        dsimp only at hw
        obtain ⟨_, g1, g2⟩ := enumK_ge e2
        rw [List.length_map, Nat.zero_add] at g2
        rw [hw]
        refine ⟨g1, ?_⟩
        obtain ⟨c, hc⟩ : ∃ c, p.lets[q.i.toNat]? = some c := ⟨p.lets[q.i.toNat]'(by omega), List.getElem?_eq_getElem (by omega)⟩
        obtain ⟨x, _, hx, _⟩ := hl.root hc
        exact ⟨c, hc, hx.in_⟩
def ivs (l : List Int) : List Value := l.map fun z => .int .i64 z
theorem ivs_len (l : List Int) : (ivs l).length = l.length := by simp [ivs]
theorem ivs_set (l : List Int) (i : Nat) (z : Int) : (ivs l).set i (.int .i64 z) = ivs (l.set i z) := by unfold ivs; rw [List.map_set]
theorem ivs_get {l : List Int} {i : Nat} (h : i < l.length) : (ivs l)[i]? = some (.int .i64 (l.getD i 0)) := by
  unfold ivs
  rw [List.getElem?_map, List.getElem?_eq_getElem h, List.getD_eq_getElem?_getD, List.getElem?_eq_getElem h]; rfl
theorem made_ivs (m : Nat) : (madeCells [Value.int .i64 0].toArray (m * 1)).toList = ivs (List.replicate m 0) := by
  rw [Nat.mul_one]; exact (toList_madeCells_one _ _).trans (by simp [ivs])
theorem lowGo_len (p : ProgC) : ∀ (r : List NodeC) (i : Nat) (pl : List Int) (ops : List OpC), (lowGo p r i pl ops).1.length = pl.length ∧ (lowGo p r i pl ops).2.length = ops.length + (r.filter fun c => c.kind != 0).length
  | [], i, pl, ops => ⟨rfl, rfl⟩
  | c :: r, i, pl, ops => by
    rw [lowGo]
    by_cases h : c.kind = 0
    · rw [if_pos h, List.filter_cons, if_neg (by simp [h])]
      obtain ⟨h1, h2⟩ := lowGo_len p r (i + 1) (pl.set i (plcZ p pl c.name)) ops
      rw [h1, h2, List.length_set]
      exact ⟨rfl, rfl⟩
    · rw [if_neg h, List.filter_cons, if_pos (by simp [h])]
      obtain ⟨h1, h2⟩ := lowGo_len p r (i + 1) (pl.set i ((p.ins.length : Int) + ops.length)) (ops ++ [opL c (pl.set i ((p.ins.length : Int) + ops.length))])
      refine ⟨by rw [h1, List.length_set], ?_⟩
      rw [h2]
      simp only [List.length_append, List.length_cons, List.length_nil]
      omega
def nls (l : List Nat) : List (List Value) := l.map fun (x : Nat) => [Value.int .i64 (x : Int)]
theorem PtV.one {I : Hp} {b : Nat} {neg : Bool} {n d : List Nat} {vn vd : Value} {T : TypeId} {fz : Nat × Nat} (hb : I b = some (.cells ([.bool neg, vn, vd] ++ [] : List Value).toArray T fz)) (hn : Ws I vn n) (hd : Ws I vd d) : PtV I (.slice (some ⟨b, 0, none⟩) 1 1) [⟨neg, n, d, vn, vd⟩] :=
  ⟨Slc.of_box (xss := [[.bool neg, vn, vd]]) hb (fun c hc => by rw [List.mem_singleton.1 hc]; rfl) (by unfold maxLen; simp) (Nat.le_refl _), fun x hx => by rw [List.mem_singleton.1 hx]; exact ⟨hn, hd⟩⟩
end Go.Proofs.YtfcmhcaggdakbaaGreatDoor
namespace Go.Tw
open Go
def opP (o : OpC) (p q : Rat) : Option Rat :=
  if o.code = 2 then some (p + q)
  else if o.code = 3 then some (p - q)
  else if o.code = 4 then some (p * q)
  else if o.code = 5 then (if q = 0 then none else some (p / q))
  else if o.code = 6 then some (-p)
  else if o.code = 7 then (if o.e < 0 ∧ p = 0 then none else some (p ^ o.e))
  else some (lowQ o.neg (val o.n) (val o.d))
structure OpOKr (o : OpC) (l : List Rat) : Prop where
  place : 0 ≤ o.a ∧ o.a < l.length ∧ 0 ≤ o.b ∧ o.b < l.length
  few : ∀ q ∈ l, Few 1400 q
  pow : o.code = 7 → ∃ c, Few c (zth l o.a) ∧ c ≤ 1300 ∧ c * o.e.natAbs ≤ 1300 ∧ -64 ≤ o.e ∧ o.e ≤ 64
  lits : o.n.length ≤ 3000 ∧ o.d.length ≤ 3000
theorem OpOKr.ok {o : OpC} {l : List Rat} (h : OpOKr o l) : OpOK o l :=
  ⟨fun _ _ => h.place, fun q hq => (h.few q hq).le (by decide), fun h7 => let ⟨c, h1, h2, h3, h4⟩ := h.pow h7; ⟨c, h1, by omega, by omega, h4⟩, by have := h.lits; omega⟩
def OpsOKr : List OpC → List Rat → Prop
  | [], _ => True
  | o :: r, l => OpOKr o l ∧ ∀ q, opR o l = some q → OpsOKr r (l ++ [q])
theorem OpsOKr.ok : ∀ {ops : List OpC} {l : List Rat}, OpsOKr ops l → OpsOK ops l
  | [], l, _ => trivial
  | o :: r, l, h => ⟨h.1.ok, fun q hq => (h.2 q hq).ok⟩
end Go.Tw
namespace Go.Proofs.YtfcmhcaggdakbaaGreatDoor
open Go Go.Tw
structure BdQ (w : Nat) (q : Rat) : Prop where
  num : q.num.natAbs ≤ 2 ^ (134 * w - 1)
  den : q.den ≤ 2 ^ (134 * w - 1)
theorem lowQ_le (neg : Bool) (n d : Nat) : (lowQ neg n d).num.natAbs ≤ n ∧ (lowQ neg n d).den ≤ max 1 d := by
  by_cases h : d = 0 ∨ n = 0
  · rw [lowQ_zero h]
    exact ⟨Nat.zero_le _, Nat.le_max_left _ _⟩
  · obtain ⟨h1, h2, _⟩ := lowQ_parts (neg := neg) (fun e => h (.inr e) : n ≠ 0) (fun e => h (.inl e) : d ≠ 0)
    rw [h1, h2]
    exact ⟨Nat.div_le_self _ _, Nat.le_trans (Nat.div_le_self _ _) (Nat.le_max_right _ _)⟩
theorem one_le_two_pow (k : Nat) : 1 ≤ 2 ^ k := Nat.pow_pos (by decide)
theorem BdQ.le {w v : Nat} {q : Rat} (h : BdQ w q) (hv : w ≤ v) : BdQ v q :=
  ⟨Nat.le_trans h.num (Nat.pow_le_pow_right (by decide) (by omega)), Nat.le_trans h.den (Nat.pow_le_pow_right (by decide) (by omega))⟩
theorem BdQ.add {w v : Nat} {p q : Rat} (hp : BdQ w p) (hq : BdQ v q) (hw : 1 ≤ w) (hv : 1 ≤ v) : BdQ (w + v) (p + q) := by
  rw [← qadd_num p q]
  have e : 2 ^ (134 * (w + v) - 1) = 2 ^ (134 * w - 1) * 2 ^ (134 * v - 1) * 2 := by
    rw [← Nat.pow_add, ← Nat.pow_succ]; congr 1; omega
  have hd : p.den * q.den ≤ 2 ^ (134 * w - 1) * 2 ^ (134 * v - 1) := Nat.mul_le_mul hp.den hq.den
  have h1 : p.num.natAbs * q.den ≤ 2 ^ (134 * w - 1) * 2 ^ (134 * v - 1) := Nat.mul_le_mul hp.num hq.den
  have h2 : q.num.natAbs * p.den ≤ 2 ^ (134 * w - 1) * 2 ^ (134 * v - 1) := by rw [Nat.mul_comm]; exact Nat.mul_le_mul hp.den hq.num
  have hn : (p.num * (q.den : Int) + q.num * (p.den : Int)).natAbs ≤ p.num.natAbs * q.den + q.num.natAbs * p.den := by
    refine Nat.le_trans (Int.natAbs_add_le _ _) ?_
    rw [Int.natAbs_mul, Int.natAbs_mul, Int.natAbs_natCast, Int.natAbs_natCast]
    exact Nat.le_refl _
  obtain ⟨k1, k2⟩ := lowQ_le (decide (p.num * (q.den : Int) + q.num * (p.den : Int) < 0)) (p.num * (q.den : Int) + q.num * (p.den : Int)).natAbs (p.den * q.den)
  have hpos : 0 < p.den * q.den := Nat.mul_pos p.den_pos q.den_pos
  rw [Nat.max_eq_right hpos] at k2
  generalize 2 ^ (134 * w - 1) * 2 ^ (134 * v - 1) = M at *
  exact ⟨by rw [e]; omega, by rw [e]; omega⟩
theorem BdQ.mul {w v : Nat} {p q : Rat} (hp : BdQ w p) (hq : BdQ v q) (hw : 1 ≤ w) (hv : 1 ≤ v) : BdQ (w + v) (p * q) := by
  rw [← lowQ_mul p q]
  have e : 2 ^ (134 * (w + v) - 1) = 2 ^ (134 * w - 1) * 2 ^ (134 * v - 1) * 2 := by
    rw [← Nat.pow_add, ← Nat.pow_succ]; congr 1; omega
  have hd : p.den * q.den ≤ 2 ^ (134 * w - 1) * 2 ^ (134 * v - 1) := Nat.mul_le_mul hp.den hq.den
  have h1 : p.num.natAbs * q.num.natAbs ≤ 2 ^ (134 * w - 1) * 2 ^ (134 * v - 1) := Nat.mul_le_mul hp.num hq.num
  obtain ⟨k1, k2⟩ := lowQ_le (decide (p.num < 0) != decide (q.num < 0)) (p.num.natAbs * q.num.natAbs) (p.den * q.den)
  have hpos : 0 < p.den * q.den := Nat.mul_pos p.den_pos q.den_pos
  rw [Nat.max_eq_right hpos] at k2
  generalize 2 ^ (134 * w - 1) * 2 ^ (134 * v - 1) = M at *
  exact ⟨by rw [e]; omega, by rw [e]; omega⟩
theorem BdQ.neg {w : Nat} {q : Rat} (h : BdQ w q) : BdQ w (-q) := ⟨by rw [Rat.neg_num, Int.natAbs_neg]; exact h.num, by rw [Rat.neg_den]; exact h.den⟩
theorem BdQ.sub {w v : Nat} {p q : Rat} (hp : BdQ w p) (hq : BdQ v q) (hw : 1 ≤ w) (hv : 1 ≤ v) : BdQ (w + v) (p - q) := by
  rw [Rat.sub_eq_add_neg]; exact hp.add hq.neg hw hv
theorem BdQ.inv {w : Nat} {q : Rat} (h : BdQ w q) (h0 : q ≠ 0) : BdQ w q⁻¹ := ⟨by rw [inv_num_abs h0]; exact h.den, by rw [inv_den h0]; exact h.num⟩
theorem BdQ.npow {w n : Nat} {q : Rat} (h : BdQ w q) (hw : 1 ≤ w) : BdQ (w * max 1 n) (q ^ n) := by
  have e : (2 ^ (134 * w - 1)) ^ n ≤ 2 ^ (134 * (w * max 1 n) - 1) := by
    rw [← Nat.pow_mul]
    refine Nat.pow_le_pow_right (by decide) ?_
    by_cases hn : n = 0
    · subst hn; exact Nat.zero_le _
    · rw [Nat.max_eq_right (by omega : 1 ≤ n), Nat.sub_mul, ← Nat.mul_assoc]
      have : n ≤ 134 * w * n := Nat.le_mul_of_pos_left _ (by omega)
      omega
  refine ⟨?_, ?_⟩
  · rw [Rat.num_pow, Int.natAbs_pow]; exact Nat.le_trans (Nat.pow_le_pow_left h.num _) e
  · rw [Rat.den_pow]; exact Nat.le_trans (Nat.pow_le_pow_left h.den _) e
theorem BdQ.pow {w : Nat} {q : Rat} (e : Int) (h : BdQ w q) (hw : 1 ≤ w) (h0 : ¬ (e < 0 ∧ q = 0)) : BdQ (w * max 1 e.natAbs) (q ^ e) := by
  rw [← powX_pow]
  refine BdQ.npow ?_ hw
  unfold powX
  split
  · rename_i he; exact h.inv (fun e0 => h0 ⟨he, e0⟩)
  · exact h
theorem BdQ.low {neg : Bool} {n d : Nat} (hn : n ≤ 2 ^ 133) (hd : d ≤ 2 ^ 133) : BdQ 1 (lowQ neg n d) := by
  obtain ⟨k1, k2⟩ := lowQ_le neg n d
  have := one_le_two_pow 133
  exact ⟨Nat.le_trans k1 hn, Nat.le_trans k2 (Nat.max_le.2 ⟨this, hd⟩)⟩
theorem val_small {A : List Nat} (h : Wds A) {k : Nat} (hk : A.length ≤ k) (h4 : k ≤ 4) : val A ≤ 2 ^ 133 := by
  have h1 := val_lt h
  have h2 : 4294967296 ^ A.length ≤ 4294967296 ^ 4 := Nat.pow_le_pow_right (by decide) (by omega)
  have h3 : 4294967296 ^ 4 ≤ 2 ^ 133 := by decide
  omega
theorem NV.bd {I : Hp} {x : NV} (h : x.ok I) (h1 : x.n.length ≤ 4) (h2 : x.d.length ≤ 4) : BdQ 1 x.q := BdQ.low (val_small h.1.wds h1 (Nat.le_refl _)) (val_small h.2.wds h2 (Nat.le_refl _))
structure BdL (l : List Nat) (qs : List Rat) : Prop where
  len : l.length = qs.length
  bd : ∀ i, i < l.length → BdQ (l.getD i 0) (qs.getD i 0)
  one : ∀ x ∈ l, 1 ≤ x ∧ x ≤ 200
theorem BdL.add {l : List Nat} {qs : List Rat} {m : Nat} {q : Rat} (h : BdL l qs) (hq : BdQ m q) (hm : 1 ≤ m ∧ m ≤ 200) : BdL (l ++ [m]) (qs ++ [q]) := by
  refine ⟨by simp [h.len], fun i hi => ?_, fun x hx => ?_⟩
  · simp only [List.length_append, List.length_cons, List.length_nil] at hi
    simp only [List.getD_eq_getElem?_getD]
    by_cases hil : i < l.length
    · rw [List.getElem?_append_left hil, List.getElem?_append_left (by rw [← h.len]; exact hil)]
      have := h.bd i hil
      simpa only [List.getD_eq_getElem?_getD] using this
    · have hi' : i = l.length := by omega
      subst hi'
      rw [List.getElem?_append_right (Nat.le_refl _), List.getElem?_append_right (by rw [h.len]; exact Nat.le_refl _), Nat.sub_self, h.len, Nat.sub_self]
      exact hq
  · rcases List.mem_append.1 hx with hx | hx
    · exact h.one x hx
    · rw [List.mem_singleton.1 hx]; exact hm
theorem getD_mem {α : Type} {l : List α} {i : Nat} {d : α} (h : i < l.length) : l.getD i d ∈ l := by
  rw [List.getD_eq_getElem?_getD, List.getElem?_eq_getElem h]; exact List.getElem_mem h
theorem BdQ.few {w : Nat} {q : Rat} (h : BdQ w q) (hw : 1 ≤ w) : Few (5 * w) q := by
  have e : 2 ^ (134 * w - 1) < 4294967296 ^ (5 * w) := by
    rw [pow_bits]; exact Nat.pow_lt_pow_right (by decide) (by omega)
  exact ⟨Nat.lt_of_le_of_lt h.num e, Nat.lt_of_le_of_lt h.den e⟩
theorem BdL.at_ {l : List Nat} {qs : List Rat} (h : BdL l qs) {i : Int} (hi : 0 ≤ i ∧ i < l.length) : BdQ (l.getD i.toNat 0) (zth qs i) ∧ 1 ≤ l.getD i.toNat 0 ∧ l.getD i.toNat 0 ≤ 200 :=
  ⟨h.bd i.toNat (by omega), h.one _ (getD_mem (by omega))⟩
theorem BdL.few {l : List Nat} {qs : List Rat} (h : BdL l qs) : ∀ q ∈ qs, Few 1000 q := fun q hq => by
  obtain ⟨i, hi, rfl⟩ := List.getElem_of_mem hq
  have hb := h.bd i (by rw [h.len]; exact hi)
  have ho := h.one _ (getD_mem (d := 0) (by rw [h.len]; exact hi : i < l.length))
  rw [List.getD_eq_getElem?_getD (l := qs), List.getElem?_eq_getElem hi] at hb
  exact (hb.few ho.1).le (by omega)
theorem BdL.start {qs : List Rat} (h : ∀ q ∈ qs, BdQ 1 q) : BdL (List.replicate qs.length 1) qs :=
  ⟨List.length_replicate, fun i hi => by
    rw [List.length_replicate] at hi
    rw [List.getD_eq_getElem?_getD, List.getElem?_replicate, if_pos hi]
    exact h _ (getD_mem hi), fun x hx => by rw [(List.mem_replicate.1 hx).2]; omega⟩
theorem digs_len10 : ∀ (k n : Nat), n < 10 ^ (k + 1) → (digs n).length ≤ k + 1
  | 0, n, h => by unfold digs; rw [dif_pos (by omega)]; exact Nat.le_refl _
  | k + 1, n, h => by
    unfold digs
    by_cases h1 : n < 10
    · rw [dif_pos h1]; simp
    · rw [dif_neg h1, List.length_cons]
      have := digs_len10 k (n / 10) (by rw [Nat.pow_succ] at h; omega)
      omega
def constC (q : Rat) : OpC := ⟨1, 0, 0, 0, decide (q.num < 0), natW q.num.natAbs, natW q.den⟩
theorem constOK_self {q : Rat} (h1 : q.num.natAbs < 10 ^ 40) (h2 : q.den < 10 ^ 40) : constOK (decide (q.num < 0)) (natW q.num.natAbs) (natW q.den) = true := by
  unfold constOK ratRight
  rw [val_natW, val_natW, lowQ_self]
  have e1 := digs_len10 39 _ h1
  have e2 := digs_len10 39 _ h2
  simp only [decide_true, Bool.and_self, Bool.true_and, decide_eq_true (show (digs q.num.natAbs).length ≤ 40 from e1), decide_eq_true (show (digs q.den).length ≤ 40 from e2)]
theorem constC_ok {q : Rat} (h1 : q.num.natAbs < 10 ^ 40) (h2 : q.den < 10 ^ 40) : fieldsOK (constC q) = true := by
  unfold fieldsOK constC
  dsimp only
  rw [if_pos rfl, constOK_self h1 h2]; rfl
theorem constC_w (q : Rat) (l : List Nat) : wgt (constC q) l = some 1 := rfl
def NV.of (q : Rat) (vn vd : Value) : NV := ⟨decide (q.num < 0), natW q.num.natAbs, natW q.den, vn, vd⟩
def plainO (c a b e : Int) : OpV := ⟨⟨c, a, b, e, false, [], []⟩, .slice none 0 0, .slice none 0 0⟩
theorem plainO_ok (I : Hp) (c a b e : Int) : (plainO c a b e).ok I := ⟨Ws.nil I, Ws.nil I⟩
theorem TapeV.of {I : Hp} {bo bu : Nat} {t : TapeC} (os : List OpV) {To Tu : TypeId} (ho : I bo = some (.cells (os.map OpV.cells).flatten.toArray To (0, 0))) (hu : I bu = some (.cells (ics t.outs).flatten.toArray Tu (0, 0))) (ok : ∀ o ∈ os, o.ok I) (eq : os.map OpV.c = t.ops) (hm : os.length ≤ 1000) (hm2 : t.outs.length ≤ 1000) :
    TapeV I (.slice (some ⟨bo, 0, none⟩) os.length os.length) (.slice (some ⟨bu, 0, none⟩) t.outs.length t.outs.length) t os := by
  refine ⟨?_, ok, eq, ?_⟩
  · have h := Slc.of_box (sz := 7) (c := os.length) ho (fun c hc => by obtain ⟨o, _, rfl⟩ := List.mem_map.1 hc; rfl) (by unfold maxLen; rw [List.length_map]; omega) (by rw [List.length_map]; exact Nat.le_refl _)
    rwa [List.length_map] at h
  · have h := Slc.of_box (sz := 1) (c := t.outs.length) hu (fun c hc => by obtain ⟨o, _, rfl⟩ := List.mem_map.1 hc; rfl) (by unfold maxLen; rw [ics_len]; omega) (by rw [ics_len]; exact Nat.le_refl _)
    rwa [ics_len] at h
theorem PtV.of {I : Hp} {b : Nat} (xs : List NV) {T : TypeId} (hb : I b = some (.cells (xs.map NV.cells).flatten.toArray T (0, 0))) (ok : ∀ x ∈ xs, x.ok I) (hm : xs.length ≤ 1000) : PtV I (.slice (some ⟨b, 0, none⟩) xs.length xs.length) xs := by
  refine ⟨?_, ok⟩
  have h := Slc.of_box (sz := 3) (c := xs.length) hb (fun c hc => by obtain ⟨o, _, rfl⟩ := List.mem_map.1 hc; rfl) (by unfold maxLen; rw [List.length_map]; omega) (by rw [List.length_map]; exact Nat.le_refl _)
  rwa [List.length_map] at h
theorem RsV.of {I : Hp} {b : Nat} (rs : List RV) {T : TypeId} (hb : I b = some (.cells (rcs rs).flatten.toArray T (0, 0))) (ok : ∀ x ∈ rs, x.ok I) (hm : rs.length ≤ 1000) : RsV I (.slice (some ⟨b, 0, none⟩) rs.length rs.length) (rs.map RV.q) := by
  refine ⟨rs, ?_, ok, rfl⟩
  have h := Slc.of_box (sz := 3) (c := rs.length) hb (rcs_three rs) (by unfold maxLen; rw [rcs_len]; omega) (by rw [rcs_len]; exact Nat.le_refl _)
  rwa [rcs_len] at h
theorem few_const {q : Rat} (h : BdQ 1 q) : OpC.few 3000 (constC q) := ⟨natW_few ((h.few (Nat.le_refl _)).num) (by decide), natW_few ((h.few (Nat.le_refl _)).den) (by decide)⟩
theorem few_none (c a b e : Int) : OpC.few 3000 ⟨c, a, b, e, false, [], []⟩ := ⟨Nat.zero_le _, Nat.zero_le _⟩
theorem bd_small {n : Int} {d : Nat} (hn : n.natAbs ≤ 1000000) (hd : d ≤ 1000000) : BdQ 1 (mkRat n d) := by
  rw [← lowQ_int]
  have : (1000000 : Nat) ≤ 2 ^ 133 := by decide
  exact BdQ.low (by omega) (by omega)
theorem RsV.nil (I : Hp) : RsV I (.slice none 0 0) [] := ⟨[], Slc.nil _ _, fun r h => (by cases h), rfl⟩
end Go.Proofs.YtfcmhcaggdakbaaGreatDoor
namespace Go.Tw
open Go
structure TurnC where
  op : Int
  a : Int
  b : Int
  n : Int
def TurnC.cells (t : TurnC) : List Value := [.int .u8 t.op, .int .u8 t.a, .int .u8 t.b, .int .u8 t.n]
structure TurnC.ok (t : TurnC) : Prop where
  op : 0 ≤ t.op ∧ t.op ≤ 255
  a : 0 ≤ t.a ∧ t.a ≤ 255
  b : 0 ≤ t.b ∧ t.b ≤ 255
  n : 0 ≤ t.n ∧ t.n ≤ 255
structure TnV (I : Hp) (v : Value) (ts : List TurnC) : Prop where
  s : Slc I 4 v (ts.map TurnC.cells)
  ok : ∀ t ∈ ts, t.ok
theorem TnV.le {I I' : Hp} {v : Value} {ts : List TurnC} (h : TnV I v ts) (hl : I.Le I') : TnV I' v ts := ⟨h.s.le hl, h.ok⟩
theorem TnV.at_ {I : Hp} {v : Value} {ts : List TurnC} (h : TnV I v ts) {i : Nat} {t : TurnC} (ht : ts[i]? = some t) : ∀ k y, ([.int .u8 t.op, .int .u8 t.a, .int .u8 t.b, .int .u8 t.n] : List Value)[k]? = some y → I.cell? ⟨slcB v, slcO v + i * 4 + k, none⟩ = some y :=
  h.s.cells i _ (by rw [List.getElem?_map, ht]; rfl)
def bcs (l : List Int) : List (List Value) := l.map fun z => [.int .u8 z]
structure ByV (I : Hp) (v : Value) (l : List Int) : Prop where
  s : Slc I 1 v (bcs l)
  ok : ∀ z ∈ l, 0 ≤ z ∧ z ≤ 255
theorem ByV.le {I I' : Hp} {v : Value} {l : List Int} (h : ByV I v l) (hl : I.Le I') : ByV I' v l := ⟨h.s.le hl, h.ok⟩
theorem ByV.at_ {I : Hp} {v : Value} {l : List Int} (h : ByV I v l) {i : Nat} {z : Int} (hz : l[i]? = some z) : I.cell? ⟨slcB v, slcO v + i * 1, none⟩ = some (.int .u8 z) :=
  h.s.cells i _ (by unfold bcs; rw [List.getElem?_map, hz]; rfl) 0 _ rfl
structure SmallC where
  n : Int
  d : Int
def SmallC.cells (t : SmallC) : List Value := [.int .i8 t.n, .int .u8 t.d]
structure SmallC.ok (t : SmallC) : Prop where
  n : -128 ≤ t.n ∧ t.n ≤ 127
  d : 0 ≤ t.d ∧ t.d ≤ 255
structure SmV (I : Hp) (v : Value) (ts : List SmallC) : Prop where
  s : Slc I 2 v (ts.map SmallC.cells)
  ok : ∀ t ∈ ts, t.ok
theorem SmV.le {I I' : Hp} {v : Value} {ts : List SmallC} (h : SmV I v ts) (hl : I.Le I') : SmV I' v ts := ⟨h.s.le hl, h.ok⟩
theorem SmV.at_ {I : Hp} {v : Value} {ts : List SmallC} (h : SmV I v ts) {i : Nat} {t : SmallC} (ht : ts[i]? = some t) : ∀ k y, ([.int .i8 t.n, .int .u8 t.d] : List Value)[k]? = some y → I.cell? ⟨slcB v, slcO v + i * 2 + k, none⟩ = some y :=
  h.s.cells i _ (by rw [List.getElem?_map, ht]; rfl)
end Go.Tw
namespace Go.Proofs.YtfcmhcaggdakbaaGreatDoor
open Go Go.Tw
structure Twelve (l : List Nat) : Prop where
  some_ : 0 < l.length
  all : ∀ x ∈ l, 1 ≤ x ∧ x ≤ 12
theorem Twelve.more {l : List Nat} {m : Nat} (h : Twelve l) (hm : 1 ≤ m ∧ m ≤ 12) : Twelve (l ++ [m]) := ⟨by simp, fun x hx => by
  rcases List.mem_append.1 hx with hx | hx
  · exact h.all x hx
  · rw [List.mem_singleton.1 hx]; exact hm⟩
theorem Twelve.le {l : List Nat} (h : Twelve l) : ∀ x ∈ l, x ≤ 200 := fun x hx => by have := h.all x hx; omega
def ocs (os : List OpV) : List (List Value) := os.map OpV.cells
theorem ocs_len (os : List OpV) : (ocs os).length = os.length := by simp [ocs]
theorem ocs_seven (os : List OpV) : ∀ c ∈ ocs os, c.length = 7 := by
  intro c hc
  obtain ⟨r, _, rfl⟩ := List.mem_map.1 hc
  rfl
theorem ocs_more (os : List OpV) (o : OpV) : (ocs os).flatten ++ ([.int .i64 o.c.code, .int .i64 o.c.a, .int .i64 o.c.b, .int .i64 o.c.e, .bool o.c.neg, o.vn, o.vd] ++ []) = (ocs (os ++ [o])).flatten := by
  unfold ocs; rw [List.map_append, List.flatten_append]; rfl
theorem seven_plain {I : Hp} {a b c d : Int} {s : Bool} {u1 u2 : Value} {X Y : List Nat} (h1 : Ws I u1 X) (h2 : Ws I u2 Y) : plain1 ([.int .i64 a, .int .i64 b, .int .i64 c, .int .i64 d, .bool s, u1, u2] ++ []) = true := by
  have e1 := h1.cells1.2
  have e2 := h2.cells1.2
  show (true && (true && (true && (true && (true && (u1.oneCell' && (u2.oneCell' && true))))))) = true
  rw [e1, e2]; rfl
theorem ics_flat (l : List Int) : (ics l).flatten = l.map fun z => Value.int .i64 z := by
  induction l with
  | nil => rfl
  | cons x l ih => show [_] ++ (ics l).flatten = _; rw [ih]; rfl
theorem ics_more (l : List Int) (z : Int) : (ics l).flatten ++ [.int .i64 z] = (ics (l ++ [z])).flatten := by rw [ics_flat, ics_flat]; simp
theorem ics_one (l : List Int) : ∀ c ∈ ics l, c.length = 1 := by
  intro c hc
  obtain ⟨r, _, rfl⟩ := List.mem_map.1 hc
  rfl
def arI (b : Nat) (l : List Int) : Tw.Item := .box b (.cells (ivs l).toArray 3 (0, 0))
theorem lowPlace_any (vi vl vo va : Value) (p : ProgC) (ns : List NodeV) (s : ByteArray) (pl : List Int) {I : Hp} (b1 b8 b32 n : Nat) {T1 T8 : TypeId} {z1 z8 : Nat × Nat} (hp : ProgV I vi vl vo va p ns) (hf : ∀ o ∈ ns, o.c.few 2000000)
    (hB1 : I b1 = some (.cells #[vi, vl, vo, va] T1 z1)) (hB8 : I b8 = some (.cells #[.slice (some ⟨b32, 0, none⟩) n n] T8 z8)) (hn : pl.length = n) (hn2 : n = p.all.length) (ho : InOrd p) :
    Fun Tryz.prog 64 [.string s, .pointer (some ⟨b1, 0, none⟩), .pointer (some ⟨b8, 0, none⟩)] I [arI b32 pl] (fun v I' B' => I = I' ∧ v = .int .i64 (plcZ p pl s) ∧ B' = [arI b32 pl]) := by
  have hsi := hp.si
  have hsl := hp.sl
  have hso := hp.so
  have hsa := hp.sa
  have hll : (p.lets.map LetC.cells).length = p.lets.length := List.length_map _
  unfold arI
  intro w hw
  refine enter3 _ Tryz.func64 rfl Tryz.ntmps64 rfl ?_ hw;refine sR ?_;refine oV ?_;refine nS ?_;refine o_loadAI trivial rfl Tryz.isAgg26 Tryz.sizeOf26 rfl rfl ((fun k y h => by unfold Hp.cell?; rw [hB1]; show (#[vi, vl, vo, va] : Array Value)[0 + k]? = some y; rw [Nat.zero_add]; simpa using h)) ?_;refine oV ?_;refine oQ Tryz.call19 rfl (scWhere_any vi vl vo va p ns s hp hf) ?_;iterate 7 refine oV ?_
  refine nU ?_;refine oV ?_;refine nT ?_;refine cC rfl (fun h1 => ?_) (fun h1 => ?_)
  ·
   have f1 := h1;try simp only [bl] at f1
   obtain ⟨k1, c, hc, k2, k3⟩ := ho.place s h1
   have hcl := (List.getElem?_eq_some_iff.1 hc).1
   have hpz : plcZ p pl s = pl.getD c.root.toNat 0 := by
     unfold plcZ
     rw [if_pos h1, List.getD_eq_getElem?_getD (l := p.lets), hc]; rfl
   refine cS ?_;refine c_quiet (by kernel_rfl) (by kernel_rfl) (fun _ h => h.drawn) ?_;refine o_load1I trivial rfl Tryz.isAgg52 rfl (by unfold Hp.cell?; rw [hB8]; rfl) ?_;refine oF 1 Tryz.underlying26 Tryz.sizeOf23 ?_;refine o_load1I trivial rfl Tryz.isAgg23 rfl (by unfold Hp.cell?; rw [hB1]; rfl) ?_;refine oV ?_;refine o_elem trivial rfl Tryz.underlying23 Tryz.sizeOf39 rfl (hsl) rfl (by omega) ?_;refine oF 1 Tryz.underlying39 Tryz.sizeOf3 ?_;refine o_load1I trivial rfl Tryz.isAgg3 rfl (lts_at hsl hc 1 _ rfl) ?_;refine o_elemV trivial rfl Tryz.underlying52 Tryz.sizeOf3 rfl rfl (by omega) ?_;refine o_loadBox1 trivial rfl Tryz.isAgg3 rfl (by repeat constructor) ((by rw [show 0 + c.root.toNat * 1 = c.root.toNat by omega]; exact ivs_get (by omega))) ?_;refine oV ?_;refine nF ?_;refine ret1 rfl rfl ?_;exact fun w' hw' => ⟨I, [.box b32 (.cells (ivs pl).toArray 3 (0, 0))], hw'.sort (by repeat constructor), Ext.refl _ _, rfl, by rw [hpz], rfl⟩
  have f1 := h1;try simp only [bl] at f1
  have hpz : plcZ p pl s = (whereZ p s).2.1 := by unfold plcZ; rw [h1]; rfl
  refine kS ?_;iterate 2 refine oV ?_
  refine nE ?_;refine ret1 rfl rfl ?_;exact fun w' hw' => ⟨I, [.box b32 (.cells (ivs pl).toArray 3 (0, 0))], hw'.sort (by repeat constructor), Ext.refl _ _, rfl, by rw [hpz]; rfl, rfl⟩
theorem lowerT_any (vi vl vo va : Value) (p : ProgC) (ns : List NodeV) {I : Hp} (hp : ProgV I vi vl vo va p ns) (hf : ∀ o ∈ ns, o.c.few 3000) :
    Fun Tryz.prog 30 [.agg #[vi, vl, vo, va]] I [] (fun v I' _ => LowV (lowZ p) v I') := by
  have hsi := hp.si
  have hsl := hp.sl
  have hso := hp.so
  have hsa := hp.sa
  have hla := nds_len ns
  have hlo := scs_len p.outs
  have hli := scs_len p.ins
  have hal : p.all.length = ns.length := by rw [← hp.eq, List.length_map]
  have hf2 : ∀ o ∈ ns, o.c.few 2000000 := fun o ho => ⟨Nat.le_trans (hf o ho).1 (by decide), Nat.le_trans (hf o ho).2 (by decide)⟩
  intro w hw
  refine enter1 _ Tryz.func30 rfl Tryz.ntmps30 rfl ?_ hw;refine sR ?_;refine o_box trivial rfl rfl rfl (fun b1 => ?_);refine o_alloc trivial rfl Tryz.zeroValue56 rfl (fun b2 => ?_);iterate 2 refine oV ?_
  refine nU ?_;refine oA Tryz.isAgg26 Tryz.sizeOf26 ?_;refine oQ Tryz.call17 rfl (scCheck_any vi vl vo va p ns hp hf2) ?_;iterate 5 refine oV ?_
  refine nS ?_;iterate 2 refine oV ?_
  refine nT ?_;refine cC rfl (fun h1 => ?_) (fun h1 => ?_)
  ·
   have f1 := h1;try simp only [bl] at f1
   have hz : lowZ p = ⟨noT, (readZ p).name, (readZ p).err⟩ := if_pos f1
   refine sR ?_;refine o_buildS trivial rfl (bld56) rfl .nil ?_;iterate 2 refine oV ?_
   refine oS Tryz.sizeOf56 ?_;iterate 2 refine oV ?_
   refine nF ?_;refine retR rfl (.agg Tryz.isAgg56 Tryz.sizeOf56 rfl (by repeat constructor) rfl (.tmp rfl (.tmp rfl .nil))) ?_;refine leaf (Ext.refl _ _) (List.nil_sublist _) ?_
   rw [hz]
   exact ⟨N0, N0, [], rfl, ⟨Slc.nil _ _, fun o ho => (by cases ho), rfl, Slc.nil _ _⟩, fun o ho => by cases ho⟩
  have f1 := h1;try simp only [bl] at f1
  have hz : lowZ p = if (tapeW (lowT p)).isSome = true then ⟨lowT p, ⟨#[]⟩, 0⟩ else ⟨noT, ⟨#[]⟩, 4⟩ := if_neg (fun h => h f1)
  have hin := inOrd f1
  obtain ⟨q1, q2, q3⟩ := hin.few
  refine kS ?_;refine oF 0 Tryz.underlying26 Tryz.sizeOf22 ?_;refine oL Tryz.isAgg22 ?_;refine o_lenSlc trivial rfl Tryz.underlying22 rfl (hsi) ?_;refine o_buildS trivial rfl (bld56) rfl (.cons rfl rfl rfl (by repeat constructor) .nil) ?_;refine o_alloc trivial rfl Tryz.zeroValue56 rfl (fun b7 => ?_);refine oS Tryz.sizeOf56 ?_;refine nS ?_;refine oF 3 Tryz.underlying26 Tryz.sizeOf24 ?_;refine oL Tryz.isAgg24 ?_;refine o_lenSlc trivial rfl Tryz.underlying24 rfl (hsa) ?_;refine o_makeBox trivial rfl Tryz.underlying52 elemz3 rfl rfl (by omega) (by omega) (by (unfold maxLen; omega)) (fun b32 => ?_);refine o_alloc trivial rfl Tryz.zeroValue52 rfl (fun b8 => ?_);refine oS Tryz.sizeOf52 ?_;refine oN (tC (cS ?_))
  rw [Int.toNat_natCast, made_ivs, hla, hli]
  refine c_sealB (b := b1) (by repeat constructor) (fun I1 hx1 hB1 => ?_);refine c_sealB (b := b8) (by repeat constructor) (fun I2 hx2 hB8 => ?_)
  have hxl := hx1.le.trans hx2.le
  have hB1' := hx2.le _ _ hB1
  have hp2 := hp.le hxl
  have hsa2 := hsa.le hxl
  have hso2 := hso.le hxl
  have hplace : ∀ (s : ByteArray) (pl : List Int), pl.length = ns.length → Fun Tryz.prog 64 [.string s, .pointer (some ⟨b1, 0, none⟩), .pointer (some ⟨b8, 0, none⟩)] I2 [arI b32 pl] (fun v I' B' => I2 = I' ∧ v = .int .i64 (plcZ p pl s) ∧ B' = [arI b32 pl]) :=
    fun s pl hpl => lowPlace_any vi vl vo va p ns s pl b1 b8 b32 ns.length hp2 hf2 hB1' hB8 hpl hal.symm hin
  unfold arI at hplace
  refine cR ?_;iterate 2 refine oV ?_
  refine nU ?_;refine oF 3 Tryz.underlying26 Tryz.sizeOf24 ?_;refine o_load1I trivial rfl Tryz.isAgg24 rfl (by unfold Hp.cell?; rw [hB1']; rfl) ?_;refine o_lenSlc trivial rfl Tryz.underlying24 rfl (hsa2) ?_;refine oV ?_;refine oN (tC (cB ?_));refine c_loop (ι := Nat × List Int × List OpV × Value) [1, 2, 7, 8, 9, 35, 36] (.cons rfl (.cons rfl (.cons rfl (.cons rfl (.cons rfl (.cons rfl (.cons rfl .nil))))))) (fun x => ns.length - x.1) (fun x E0 => (37, .int .i64 (x.1 : Nat)) :: E0) (fun x => St w [] I2 [.row x.2.2.2 69 7 x.2.2.1.length (ocs x.2.2.1).flatten, arI b32 x.2.1, .box b7 (.cells #[.int .i64 (p.ins.length : Nat), x.2.2.2, .slice none 0 0] 56 (0, 0)), .box b2 (.cells #[.int .i64 0, .slice none 0 0, .slice none 0 0] 56 (0, 0))]) (fun x => x.1 ≤ ns.length ∧ x.2.1.length = ns.length ∧ x.2.2.1.length ≤ x.1 ∧ (∀ o ∈ x.2.2.1, o.ok I2 ∧ OpC.few 3000 o.c) ∧ lowAll p = lowGo p (p.all.drop x.1) x.1 x.2.1 (x.2.2.1.map OpV.c)) ((0, List.replicate ns.length 0, [], .slice none 0 0)) (sC rfl (sC rfl (sC rfl (sC rfl (sC rfl (sC rfl (sC rfl (sC rfl sN)))))))) (fun _ h => (h.nilRow 69 7).sort (by repeat constructor)) (⟨Nat.zero_le _, List.length_replicate, Nat.le_refl _, fun o ho => (by cases ho), by show lowAll p = lowGo p p.all 0 (List.replicate ns.length 0) []; rw [← hal]; rfl⟩) ?_;rintro ⟨i, pl, os, u⟩ ⟨hi, hpl, hol, hok, hgo⟩
  try dsimp only
  simp only at hi hpl hol hok hgo; have hpll := ivs_len pl; unfold arI
  refine sR ?_;refine oV ?_;refine oN (tC (cS ?_));refine cC rfl (fun h2 => ?_) (fun h2 => ?_)
  ·
   have f2 := h2;try simp only [bl] at f2
   obtain ⟨o, ho⟩ : ∃ o, ns[i]? = some o := ⟨ns[i]'(by omega), List.getElem?_eq_getElem (by omega)⟩
   have hom := List.mem_of_getElem? ho
   have hoc : p.all[i]? = some o.c := by rw [← hp.eq, List.getElem?_map, ho]; rfl
   have hw1 : Ws I2 o.vn o.c.n := ((hp.ok o hom).le hxl).1
   have hw2 : Ws I2 o.vd o.c.d := ((hp.ok o hom).le hxl).2
   rw [lowGo_step hoc] at hgo
   have hknd := hin.kind o.c (List.mem_of_getElem? hoc)
   have hlow := hin.low i o.c hoc
   refine cK (tC (cS (cB (sR ?_))));refine oV ?_;refine o_elem trivial rfl Tryz.underlying24 Tryz.sizeOf37 rfl (hsa2) rfl (by omega) ?_;refine o_loadAI trivial rfl Tryz.isAgg37 Tryz.sizeOf37 rfl rfl (nds_at hsa2 ho) ?_;refine o_alloc trivial rfl Tryz.zeroValue37 rfl (fun b11 => ?_);refine oV ?_;refine oS Tryz.sizeOf37 ?_;refine nU ?_;refine oF 0 Tryz.underlying37 Tryz.sizeOf3 ?_;refine oL Tryz.isAgg3 ?_;refine oV ?_;refine nT ?_;refine cC rfl (fun h3 => ?_) (fun h3 => ?_)
   ·
    have f3 := h3;try simp only [bl] at f3
    rw [if_pos f3] at hgo
    refine cS ?_;refine h_beginB (m := 8) [.box b11 _] (by repeat constructor) (by kernel_rfl) rfl ?_;refine qT (i := 0) (qB 8 1) (Hp.Le.refl _) rfl rfl (o_load1I trivial rfl Tryz.isAgg52 rfl (by unfold Hp.cell?; rw [hB8]; rfl) qF) ?_;refine qT (i := 1) (qB 8 3) (Hp.Le.refl _) rfl rfl (oV qF) ?_;refine qT (i := 2) (qB 8 7) (Hp.Le.refl _) rfl rfl (oV qF) ?_;refine qT (i := 3) (qB 8 15) (Hp.Le.refl _) rfl rfl (oF 4 Tryz.underlying37 Tryz.sizeOf9 qF) ?_;refine qT (i := 4) (qB 8 31) (Hp.Le.refl _) rfl rfl (oL Tryz.isAgg9 qF) ?_;refine qO (i := 5) (qB 8 63) rfl ?_;refine o_callKT trivial rfl rfl Tryz.call64 rfl rfl (hplace o.c.name pl hpl) (by repeat constructor) ?_;rintro _ _ _ hxq ⟨rfl, rfl, rfl⟩;refine qM (hxq.le) ?_;refine qT (i := 6) (qB 8 127) (hxq.le) rfl rfl (o_elemV trivial rfl Tryz.underlying52 Tryz.sizeOf3 rfl rfl (by omega) qF) ?_;refine qO (i := 7) (qB 8 255) rfl ?_;refine o_storeBox1 trivial rfl rfl rfl Tryz.sizeOf3 rfl (by repeat constructor) (by rw [hpll]; omega) ?_
    rw [show 0 + ((i : Nat) : Int).toNat * 1 = i by omega, ivs_set]
    refine qM (hxq.le) ?_;refine h_end (by kernel_rfl) ?_;refine tC (c_exit (then_x (blk_eq rfl (tC (cR ?_)))))
    (refine o_add trivial rfl rfl rfl ?_ ?_; (omega))
    refine oV ?_;refine oN ?_
    (exact again (i + 1, pl.set i (plcZ p pl o.c.name), os, u) (sC rfl (sC rfl (sC rfl (sC rfl (sC rfl (sC rfl (sC rfl (sC rfl sN)))))))) (fun _ h => h.sort (by repeat constructor)) (by show ns.length - (i + 1) < ns.length - i; omega) ⟨by show i + 1 ≤ _; omega, by rw [List.length_set]; exact hpl, by show os.length ≤ i + 1; omega, hok, hgo⟩)
   have f3 := h3;try simp only [bl] at f3
   rw [if_neg f3, List.length_map] at hgo
   refine kS ?_;refine o_load1I trivial rfl Tryz.isAgg52 rfl (by unfold Hp.cell?; rw [hB8]; rfl) ?_;refine oV ?_;refine oF 0 Tryz.underlying56 Tryz.sizeOf3 ?_;refine oL Tryz.isAgg3 ?_;refine oF 1 Tryz.underlying56 Tryz.sizeOf54 ?_;refine oL Tryz.isAgg54 ?_;refine o_lenRow trivial rfl Tryz.underlying54 rfl (by repeat constructor) ?_
   (refine o_add trivial rfl rfl rfl ?_ ?_; (omega))
   refine o_elemV trivial rfl Tryz.underlying52 Tryz.sizeOf3 rfl rfl (by omega) ?_;refine o_storeBox1 trivial rfl rfl rfl Tryz.sizeOf3 rfl (by repeat constructor) (by rw [hpll]; omega) ?_
   rw [show 0 + ((i : Nat) : Int).toNat * 1 = i by omega, ivs_set]
   refine oN (tC (cS ?_))
   obtain ⟨pl2, hpl2⟩ : ∃ pl2, pl2 = pl.set i ((p.ins.length : Int) + os.length) := ⟨_, rfl⟩
   have hpl2l : pl2.length = ns.length := by rw [hpl2, List.length_set]; exact hpl
   rw [← hpl2]
   rw [← hpl2] at hgo
   refine cR ?_;refine oF 0 Tryz.underlying37 Tryz.sizeOf3 ?_;refine oL Tryz.isAgg3 ?_;refine oF 3 Tryz.underlying37 Tryz.sizeOf3 ?_;refine oL Tryz.isAgg3 ?_;refine oF 5 Tryz.underlying37 Tryz.sizeOf35 ?_;refine oA Tryz.isAgg35 Tryz.sizeOf35 ?_;refine o_buildS trivial rfl (bld69) rfl (.cons rfl rfl rfl (by repeat constructor) (.cons rfl rfl rfl (by repeat constructor) (.cons rfl rfl rfl (by repeat constructor) .nil))) ?_;refine o_alloc trivial rfl Tryz.zeroValue69 rfl (fun b12 => ?_);refine oS Tryz.sizeOf69 ?_;refine nT ?_;refine c_cut (ι := Int) [1, 2, 7, 8, 9, 11, 12, 35, 36, 37] (.cons rfl (.cons rfl (.cons rfl (.cons rfl (.cons rfl (.cons rfl (.cons rfl (.cons rfl (.cons rfl (.cons rfl .nil)))))))))) (fun z E0 => E0) (fun z => St w [] I2 [.box b12 (.cells [.int .i64 o.c.kind, .int .i64 z, .int .i64 0, .int .i64 o.c.e, .bool o.c.neg, o.vn, o.vd].toArray 69 (0, 0)), .box b11 (.cells o.cells.toArray 37 (0, 0)), .row u 69 7 os.length (ocs os).flatten, .box b32 (.cells (ivs pl2).toArray 3 (0, 0)), .box b7 (.cells #[.int .i64 (p.ins.length : Nat), u, .slice none 0 0] 56 (0, 0)), .box b2 (.cells #[.int .i64 0, .slice none 0 0, .slice none 0 0] 56 (0, 0))]) (fun z => z = if 2 ≤ o.c.kind then pl2.getD o.c.a.toNat 0 else 0) ?_ ?_
   ·
    refine sR ?_;refine oF 0 Tryz.underlying37 Tryz.sizeOf3 ?_;refine oL Tryz.isAgg3 ?_;refine oV ?_;refine nT ?_;refine cC rfl (fun h4 => ?_) (fun h4 => ?_)
    ·
     have f4 := h4;try simp only [bl] at f4
     obtain ⟨a1, a2, _⟩ := hlow (by omega)
     refine cR ?_;refine o_load1I trivial rfl Tryz.isAgg52 rfl (by unfold Hp.cell?; rw [hB8]; rfl) ?_;refine oF 1 Tryz.underlying37 Tryz.sizeOf3 ?_;refine oL Tryz.isAgg3 ?_;refine o_elemV trivial rfl Tryz.underlying52 Tryz.sizeOf3 rfl rfl (by omega) ?_;refine o_loadBox1 trivial rfl Tryz.isAgg3 rfl (by repeat constructor) ((by rw [show 0 + o.c.a.toNat * 1 = o.c.a.toNat by omega]; exact ivs_get (by omega))) ?_;refine oF 1 Tryz.underlying69 Tryz.sizeOf3 ?_;refine oS Tryz.sizeOf3 ?_;refine oN ?_
     (exact meet (pl2.getD o.c.a.toNat 0) (sC rfl (sC rfl (sC rfl (sC rfl (sC rfl (sC rfl (sC rfl (sC rfl (sC rfl (sC rfl sN)))))))))) (fun _ h => h.sort (by repeat constructor)) (by show _ = if 2 ≤ o.c.kind then _ else _; rw [if_pos (by omega)]))
    have f4 := h4;try simp only [bl] at f4
    refine cK ?_
    (exact meet 0 (sC rfl (sC rfl (sC rfl (sC rfl (sC rfl (sC rfl (sC rfl (sC rfl (sC rfl (sC rfl sN)))))))))) (fun _ h => h.sort (by repeat constructor)) (by show _ = if 2 ≤ o.c.kind then _ else _; rw [if_neg (by omega)]))
   rintro zA hzA
   try dsimp only
   refine c_cut (ι := Int) [1, 2, 7, 8, 9, 12, 35, 36, 37] (.cons rfl (.cons rfl (.cons rfl (.cons rfl (.cons rfl (.cons rfl (.cons rfl (.cons rfl (.cons rfl .nil))))))))) (fun z E0 => E0) (fun z => St w [] I2 [.box b12 (.cells [.int .i64 o.c.kind, .int .i64 zA, .int .i64 z, .int .i64 o.c.e, .bool o.c.neg, o.vn, o.vd].toArray 69 (0, 0)), .row u 69 7 os.length (ocs os).flatten, .box b32 (.cells (ivs pl2).toArray 3 (0, 0)), .box b7 (.cells #[.int .i64 (p.ins.length : Nat), u, .slice none 0 0] 56 (0, 0)), .box b2 (.cells #[.int .i64 0, .slice none 0 0, .slice none 0 0] 56 (0, 0))]) (fun z => z = if 2 ≤ o.c.kind ∧ o.c.kind ≤ 5 then pl2.getD o.c.b.toNat 0 else 0) ?_ ?_
   ·
    refine sR ?_;refine oF 0 Tryz.underlying37 Tryz.sizeOf3 ?_;refine oL Tryz.isAgg3 ?_;refine oV ?_;refine' o_and trivial trivial rfl rfl rfl rfl rfl rfl rfl rfl (fun hb80 => ?_) ?_;rotate_left
    ·
     have fb80 := hb80
     try simp only [bl] at fb80
     refine gF hb80 0 Tryz.underlying37 Tryz.sizeOf3 ?_;refine gL hb80 Tryz.isAgg3 ?_;refine gV hb80 ?_;refine oN ?_;exact joins rfl
    refine nT ?_;refine cC rfl (fun h5 => ?_) (fun h5 => ?_)
    ·
     have f5 := h5;try simp only [bl] at f5
     obtain ⟨a1, a2, a3⟩ := hlow (by omega)
     obtain ⟨a4, a5⟩ := a3 (by omega)
     refine cR ?_;refine o_load1I trivial rfl Tryz.isAgg52 rfl (by unfold Hp.cell?; rw [hB8]; rfl) ?_;refine oF 2 Tryz.underlying37 Tryz.sizeOf3 ?_;refine oL Tryz.isAgg3 ?_;refine o_elemV trivial rfl Tryz.underlying52 Tryz.sizeOf3 rfl rfl (by omega) ?_;refine o_loadBox1 trivial rfl Tryz.isAgg3 rfl (by repeat constructor) ((by rw [show 0 + o.c.b.toNat * 1 = o.c.b.toNat by omega]; exact ivs_get (by omega))) ?_;refine oF 2 Tryz.underlying69 Tryz.sizeOf3 ?_;refine oS Tryz.sizeOf3 ?_;refine oN ?_
     (exact meet (pl2.getD o.c.b.toNat 0) (sC rfl (sC rfl (sC rfl (sC rfl (sC rfl (sC rfl (sC rfl (sC rfl (sC rfl sN))))))))) (fun _ h => h.sort (by repeat constructor)) (by show _ = if 2 ≤ o.c.kind ∧ o.c.kind ≤ 5 then _ else _; rw [if_pos (by omega)]))
    have f5 := h5;try simp only [bl] at f5
    refine cK ?_
    (exact meet 0 (sC rfl (sC rfl (sC rfl (sC rfl (sC rfl (sC rfl (sC rfl (sC rfl (sC rfl sN))))))))) (fun _ h => h.sort (by repeat constructor)) (by show _ = if 2 ≤ o.c.kind ∧ o.c.kind ≤ 5 then _ else _; rw [if_neg (by omega)]))
   rintro zB hzB
   try dsimp only
   subst hzA hzB hpl2
   refine cR ?_;refine oF 1 Tryz.underlying56 Tryz.sizeOf54 ?_;refine oL Tryz.isAgg54 ?_;refine oA Tryz.isAgg69 Tryz.sizeOf69 ?_;refine oB Tryz.underlying54 Tryz.sizeOf69 Tryz.zeroValue69 fun b94 => ?_;refine o_appendBox trivial rfl Tryz.underlying54 (elem69) (by decide) rfl rfl (fun v' => (by repeat constructor)) (by repeat constructor) rfl (by exact seven_plain hw1 hw2) (by (unfold maxLen; omega)) (by omega) (fun v95 => ?_);refine oF 1 Tryz.underlying56 Tryz.sizeOf54 ?_;refine l_rowCells (u := v95) (by repeat constructor) (fun hcv => ?_);refine o_storeBox1 trivial rfl rfl (hcv).1 Tryz.sizeOf54 (hcv).2 (by repeat constructor) (by exact Nat.le_of_ble_eq_true rfl) ?_;refine oN (blk_n (tC (cR ?_)))
   (refine o_add trivial rfl rfl rfl ?_ ?_; (omega))
   refine oV ?_;refine oN ?_
   (exact again (i + 1, pl.set i ((p.ins.length : Int) + os.length), os ++ [⟨opL o.c (pl.set i ((p.ins.length : Int) + os.length)), o.vn, o.vd⟩], v95) (sC rfl (sC rfl (sC rfl (sC rfl (sC rfl (sC rfl (sC rfl (sC rfl sN)))))))) (fun _ h => by rw [← ocs_more, List.length_append]; exact h.sort (by repeat constructor)) (by show ns.length - (i + 1) < ns.length - i; omega) ⟨by show i + 1 ≤ _; omega, by rw [List.length_set]; exact hpl, by simp only [List.length_append, List.length_cons, List.length_nil]; omega, fun x hx => by
      rcases List.mem_append.1 hx with hx | hx
      · exact hok x hx
      · rw [List.mem_singleton.1 hx]; exact ⟨⟨hw1, hw2⟩, hf o hom⟩, by rw [List.map_append]; exact hgo⟩)
  have f2 := h2;try simp only [bl] at f2
  have hgo2 : lowAll p = (pl, os.map OpV.c) := by
    rw [hgo, List.drop_of_length_le (by omega)]; rfl
  have hlt : lowT p = ⟨p.ins.length, os.map OpV.c, p.outs.map (plcZ p pl)⟩ := by unfold lowT; rw [hgo2]
  have hosl : os.length ≤ 400 := by omega
  refine c_exit (then_x (then_x (blk_eq rfl (tC (cS (sR ?_))))));refine oF 2 Tryz.underlying26 Tryz.sizeOf22 ?_;refine o_load1I trivial rfl Tryz.isAgg22 rfl (by unfold Hp.cell?; rw [hB1']; rfl) ?_;refine o_lenSlc trivial rfl Tryz.underlying22 rfl (hso2) ?_;refine oV ?_;refine oN (tC (cB ?_));refine c_loop (ι := Nat × Value) [2, 7, 9, 99, 100] (.cons rfl (.cons rfl (.cons rfl (.cons rfl (.cons rfl .nil))))) (fun x => p.outs.length - x.1) (fun x E0 => (101, .int .i64 (x.1 : Nat)) :: E0) (fun x => St w [] I2 [.row x.2 3 1 x.1 (ics ((p.outs.take x.1).map (plcZ p pl))).flatten, .row u 69 7 os.length (ocs os).flatten, .box b32 (.cells (ivs pl).toArray 3 (0, 0)), .box b7 (.cells #[.int .i64 (p.ins.length : Nat), u, x.2] 56 (0, 0)), .box b2 (.cells #[.int .i64 0, .slice none 0 0, .slice none 0 0] 56 (0, 0))]) (fun x => x.1 ≤ p.outs.length) ((0, .slice none 0 0)) (sC rfl (sC rfl (sC rfl (sC rfl (sC rfl (sC rfl sN)))))) (fun _ h => (h.nilRow 3 1).sort (by repeat constructor)) (Nat.zero_le _) ?_;rintro ⟨j, uu⟩ hj
  try dsimp only
  simp only at hj
  refine sR ?_;refine oV ?_;refine oN (tC (cS ?_));refine cC rfl (fun h6 => ?_) (fun h6 => ?_)
  ·
   have f6 := h6;try simp only [bl] at f6
   obtain ⟨s, hs⟩ : ∃ s, p.outs[j]? = some s := ⟨p.outs[j]'(by omega), List.getElem?_eq_getElem (by omega)⟩
   refine cK (tC (cS (cB (sR ?_))));refine o_elem trivial rfl Tryz.underlying22 Tryz.sizeOf9 rfl (hso2) rfl (by omega) ?_;refine o_load1I trivial rfl Tryz.isAgg9 rfl (scs_at hso2 hs) ?_;refine oV ?_;refine nT ?_;refine h_beginB (m := 9) [] (by repeat constructor) (by kernel_rfl) rfl ?_;refine qT (i := 0) (qB 9 1) (Hp.Le.refl _) rfl rfl (oF 2 Tryz.underlying56 Tryz.sizeOf52 qF) ?_;refine qT (i := 2) (qB 9 5) (Hp.Le.refl _) rfl rfl (oV qF) ?_;refine qT (i := 3) (qB 9 13) (Hp.Le.refl _) rfl rfl (oV qF) ?_;refine h_go [1, 4] (by kernel_rfl) rfl (TWHs.cons ?_ (TWHs.cons ?_ TWHs.nil))
   ·
    refine qP (qB 9 15) rfl ?_;refine oL Tryz.isAgg52 ?_;refine qM (Hp.Le.refl _) ?_;refine qO (i := 4) (qB 9 31) rfl ?_;refine o_callKT trivial rfl rfl Tryz.call64 rfl rfl (hplace s pl hpl) (by repeat constructor) ?_;rintro _ _ _ hxq ⟨rfl, rfl, rfl⟩;refine qM (hxq.le) ?_;refine qO (i := 5) (qB 9 63) rfl ?_;refine oB Tryz.underlying52 Tryz.sizeOf3 Tryz.zeroValue3 fun b110 => ?_;refine qM (hxq.le) ?_;refine qO (i := 6) (qB 9 127) rfl ?_;refine oD Tryz.underlying52 elem3 fun v111 => ?_;refine qM (hxq.le) ?_;refine qT (i := 7) (qB 9 255) (hxq.le) rfl rfl (oF 2 Tryz.underlying56 Tryz.sizeOf52 qF) ?_;refine qO (i := 8) (qB 9 511) rfl ?_;refine l_rowCells (u := v111) (by repeat constructor) (fun hcv => ?_);refine o_storeBox1 trivial rfl rfl (hcv).1 Tryz.sizeOf52 (hcv).2 (by repeat constructor) (by exact Nat.le_of_ble_eq_true rfl) ?_;refine qM (hxq.le) ?_;refine h_end (by kernel_rfl) ?_;refine blk_n (tC (cR ?_))
    (refine o_add trivial rfl rfl rfl ?_ ?_; (omega))
    refine oV ?_;refine oN ?_;exact again (j + 1, v111) (sC rfl (sC rfl (sC rfl (sC rfl (sC rfl (sC rfl sN)))))) (fun _ h => by rw [List.take_add_one, hs, Option.toList_some, List.map_append, List.map_cons, List.map_nil, ← ics_more]; exact h.sort (by repeat constructor)) (by show p.outs.length - (j + 1) < p.outs.length - j; omega) (by show j + 1 ≤ _; omega)
   refine qP (qB 9 29) rfl ?_;refine o_callKT trivial rfl rfl Tryz.call64 rfl rfl (hplace s pl hpl) (by repeat constructor) ?_;rintro _ _ _ hxq ⟨rfl, rfl, rfl⟩;refine qM (hxq.le) ?_;refine h_go [1, 5] (by kernel_rfl) rfl (TWHs.cons ?_ (TWHs.cons ?_ TWHs.nil))
   ·
    refine qP (qB 9 31) rfl ?_;refine oL Tryz.isAgg52 ?_;refine qM (hxq.le) ?_;refine qO (i := 5) (qB 9 63) rfl ?_;refine oB Tryz.underlying52 Tryz.sizeOf3 Tryz.zeroValue3 fun b110 => ?_;refine qM (hxq.le) ?_;refine qO (i := 6) (qB 9 127) rfl ?_;refine oD Tryz.underlying52 elem3 fun v111 => ?_;refine qM (hxq.le) ?_;refine qT (i := 7) (qB 9 255) (hxq.le) rfl rfl (oF 2 Tryz.underlying56 Tryz.sizeOf52 qF) ?_;refine qO (i := 8) (qB 9 511) rfl ?_;refine l_rowCells (u := v111) (by repeat constructor) (fun hcv => ?_);refine o_storeBox1 trivial rfl rfl (hcv).1 Tryz.sizeOf52 (hcv).2 (by repeat constructor) (by exact Nat.le_of_ble_eq_true rfl) ?_;refine qM (hxq.le) ?_;refine h_end (by kernel_rfl) ?_;refine blk_n (tC (cR ?_))
    (refine o_add trivial rfl rfl rfl ?_ ?_; (omega))
    refine oV ?_;refine oN ?_;exact again (j + 1, v111) (sC rfl (sC rfl (sC rfl (sC rfl (sC rfl (sC rfl sN)))))) (fun _ h => by rw [List.take_add_one, hs, Option.toList_some, List.map_append, List.map_cons, List.map_nil, ← ics_more]; exact h.sort (by repeat constructor)) (by show p.outs.length - (j + 1) < p.outs.length - j; omega) (by show j + 1 ≤ _; omega)
   refine qP (qB 9 61) rfl ?_;refine oB Tryz.underlying52 Tryz.sizeOf3 Tryz.zeroValue3 fun b110 => ?_;refine qM (hxq.le) ?_;refine qO (i := 1) (qB 9 63) rfl ?_;refine oL Tryz.isAgg52 ?_;refine qM (hxq.le) ?_;refine qO (i := 6) (qB 9 127) rfl ?_;refine oD Tryz.underlying52 elem3 fun v111 => ?_;refine qM (hxq.le) ?_;refine qT (i := 7) (qB 9 255) (hxq.le) rfl rfl (oF 2 Tryz.underlying56 Tryz.sizeOf52 qF) ?_;refine qO (i := 8) (qB 9 511) rfl ?_;refine l_rowCells (u := v111) (by repeat constructor) (fun hcv => ?_);refine o_storeBox1 trivial rfl rfl (hcv).1 Tryz.sizeOf52 (hcv).2 (by repeat constructor) (by exact Nat.le_of_ble_eq_true rfl) ?_;refine qM (hxq.le) ?_;refine h_end (by kernel_rfl) ?_;refine blk_n (tC (cR ?_))
   (refine o_add trivial rfl rfl rfl ?_ ?_; (omega))
   refine oV ?_;refine oN ?_;exact again (j + 1, v111) (sC rfl (sC rfl (sC rfl (sC rfl (sC rfl (sC rfl sN)))))) (fun _ h => by rw [List.take_add_one, hs, Option.toList_some, List.map_append, List.map_cons, List.map_nil, ← ics_more]; exact h.sort (by repeat constructor)) (by show p.outs.length - (j + 1) < p.outs.length - j; omega) (by show j + 1 ≤ _; omega)
  have f6 := h6;try simp only [bl] at f6
  have hje : j = p.outs.length := by omega
  subst hje
  rw [List.take_length]
  refine c_exit (then_x (then_x (blk_eq rfl (tC (cS (cS ?_))))));refine c_sealR (u := u) (xss := ocs os) (by repeat constructor) (ocs_len os) (ocs_seven os) (by unfold maxLen; omega) (fun I3 hx3 hs3 => ?_);refine c_sealR (u := uu) (xss := ics (p.outs.map (plcZ p pl))) (by repeat constructor) (by rw [ics_len, List.length_map]) (ics_one _) (by unfold maxLen; omega) (fun I4 hx4 hs4 => ?_)
  have htv : TapeV I4 u uu (lowT p) os := by
    rw [hlt]
    exact ⟨hs3.le hx4.le, fun o ho => (hok o ho).1.le (hx3.le.trans hx4.le), rfl, hs4⟩
  have hfw : ∀ o ∈ (lowT p).ops, OpC.few 3000 o := by
    rw [hlt]
    intro o ho
    obtain ⟨x, hx, rfl⟩ := List.mem_map.1 ho
    exact (hok x hx).2
  have hright := tapeRight_any (lowT p) u uu os htv (fun o ho => ⟨Nat.le_trans (hfw o ho).1 (by decide), Nat.le_trans (hfw o ho).2 (by decide)⟩)
  have hti : (lowT p).ins = (p.ins.length : Nat) := rfl
  rw [hti] at hright
  refine cR ?_;refine oA Tryz.isAgg56 Tryz.sizeOf56 ?_;refine oQ Tryz.call34 rfl hright ?_;refine oV ?_;refine nT ?_;refine cC rfl (fun h7 => ?_) (fun h7 => ?_)
  ·
   have f7 := h7;try simp only [bl] at f7
   refine sR ?_;refine o_buildS trivial rfl (bld56) rfl .nil ?_;refine oS Tryz.sizeOf56 ?_;iterate 2 refine oV ?_
   refine nF ?_;refine retR rfl (.agg Tryz.isAgg56 Tryz.sizeOf56 rfl (by repeat constructor) rfl (.tmp rfl (.tmp rfl .nil))) ?_;refine leaf (hx1.trans (hx2.trans (hx3.trans hx4 (Nat.le_refl _)) (Nat.le_refl _)) (Nat.le_refl _)) (List.nil_sublist _) ?_
   rw [hz, if_neg (by simpa using h7)]
   exact ⟨N0, N0, [], rfl, ⟨Slc.nil _ _, fun o ho => (by cases ho), rfl, Slc.nil _ _⟩, fun o ho => by cases ho⟩
  have f7 := h7;try simp only [bl] at f7
  refine kS ?_;refine oA Tryz.isAgg56 Tryz.sizeOf56 ?_;refine oS Tryz.sizeOf56 ?_;iterate 2 refine oV ?_
  refine nE ?_;refine retR rfl (.agg Tryz.isAgg56 Tryz.sizeOf56 rfl (by repeat constructor) rfl (.tmp rfl (.tmp rfl .nil))) ?_;refine leaf (hx1.trans (hx2.trans (hx3.trans hx4 (Nat.le_refl _)) (Nat.le_refl _)) (Nat.le_refl _)) (List.nil_sublist _) ?_
  rw [hz, if_pos (by simpa using h7)]
  exact ⟨u, uu, os, rfl, htv, hfw⟩
noncomputable def eqB {α : Type} (a b : α) : Bool := @decide (a = b) (Classical.propDecidable _)
theorem eqB_iff {α : Type} {a b : α} : eqB a b = true ↔ a = b := by unfold eqB; exact @decide_eq_true_iff _ (Classical.propDecidable _)
theorem eqB_ne {α : Type} {a b : α} (h : a ≠ b) : eqB a b = false := by
  cases e : eqB a b with
  | false => rfl
  | true => exact absurd (eqB_iff.1 e) h
theorem eqB_self {α : Type} (a : α) : eqB a a = true := eqB_iff.2 rfl
theorem take_ext {α : Type} {l m : List α} (hl : l.length = m.length) {i : Nat} (h : l.take i = m.take i) (hi : l.length ≤ i) : l = m := by
  rwa [List.take_of_length_le hi, List.take_of_length_le (by omega)] at h
theorem take_more {α : Type} {l m : List α} {i : Nat} {x y : α} (h : l.take i = m.take i) (hx : l[i]? = some x) (hy : m[i]? = some y) (e : x = y) : l.take (i + 1) = m.take (i + 1) := by
  rw [List.take_add_one, List.take_add_one, h, hx, hy, e]
theorem at_eq {α : Type} {l m : List α} {i : Nat} {x y : α} (h : l = m) (hx : l[i]? = some x) (hy : m[i]? = some y) : x = y := by
  rw [h, hy] at hx; exact (Option.some.inj hx).symm
theorem tSame_any (va ua vb ub : Value) (t u : TapeC) (os ps : List OpV) {I : Hp} (ht : TapeV I va ua t os) (hu : TapeV I vb ub u ps) :
    Fun Tryz.prog 32 [.agg #[.int .i64 t.ins, va, ua], .agg #[.int .i64 u.ins, vb, ub]] I [] (fun v _ _ => v = .bool (eqB t u)) := by
  have hso := ht.so
  have hsu := ht.su
  have gso := hu.so
  have gsu := hu.su
  have hol : (os.map OpV.cells).length = os.length := List.length_map _
  have gol : (ps.map OpV.cells).length = ps.length := List.length_map _
  have hul := ics_len t.outs
  have gul := ics_len u.outs
  have tol : t.ops.length = os.length := by rw [← ht.eq, List.length_map]
  have uol : u.ops.length = ps.length := by rw [← hu.eq, List.length_map]
  have hmx := hso.most
  rw [hol] at hmx
  unfold maxLen at hmx
  have hmy := hsu.most
  rw [hul] at hmy
  unfold maxLen at hmy
  intro w hw
  refine enter2 _ Tryz.func32 rfl Tryz.ntmps32 rfl ?_ hw;refine sR ?_;refine o_box trivial rfl rfl rfl (fun b2 => ?_);refine o_box trivial rfl rfl rfl (fun b3 => ?_);refine oV ?_;refine nU ?_;refine oF 0 Tryz.underlying56 Tryz.sizeOf3 ?_;refine oL Tryz.isAgg3 ?_;refine oF 0 Tryz.underlying56 Tryz.sizeOf3 ?_;refine oL Tryz.isAgg3 ?_;refine oV ?_;refine' o_or trivial trivial rfl rfl rfl rfl rfl rfl rfl rfl (fun hb15 => ?_) ?_;rotate_left
  ·
   have fb15 := hb15
   try simp only [bl] at fb15
   refine gF hb15 1 Tryz.underlying56 Tryz.sizeOf54 ?_;refine gL hb15 Tryz.isAgg54 ?_;refine o_lenSlc (wS rfl rfl hb15) rfl Tryz.underlying54 rfl (hso) ?_;refine gF hb15 1 Tryz.underlying56 Tryz.sizeOf54 ?_;refine gL hb15 Tryz.isAgg54 ?_;refine o_lenSlc (wS rfl rfl hb15) rfl Tryz.underlying54 rfl (gso) ?_;refine gV hb15 ?_;refine oN ?_;exact joins rfl
  refine' o_or trivial trivial rfl rfl rfl rfl rfl rfl rfl rfl (fun hb24 => ?_) ?_;rotate_left
  ·
   have fb24 := hb24
   try simp only [bl] at fb24
   refine gF hb24 2 Tryz.underlying56 Tryz.sizeOf52 ?_;refine gL hb24 Tryz.isAgg52 ?_;refine o_lenSlc (wS rfl rfl hb24) rfl Tryz.underlying52 rfl (hsu) ?_;refine gF hb24 2 Tryz.underlying56 Tryz.sizeOf52 ?_;refine gL hb24 Tryz.isAgg52 ?_;refine o_lenSlc (wS rfl rfl hb24) rfl Tryz.underlying52 rfl (gsu) ?_;refine gV hb24 ?_;refine oN ?_;exact joins rfl
  refine nT ?_;refine cC rfl (fun h1 => ?_) (fun h1 => ?_)
  ·
   have f1 := h1;try simp only [bl] at f1
   have hne : t ≠ u := fun e => by
     have e0 : t.ins = u.ins := by rw [e]
     have e1 : t.ops.length = u.ops.length := by rw [e]
     have e2 : t.outs.length = u.outs.length := by rw [e]
     rw [hol, gol, hul, gul] at f1
     omega
   refine sR ?_;refine oV ?_;refine nF ?_;refine ret1 rfl rfl ?_;exact leaf0 (congrArg Value.bool (eqB_ne hne).symm)
  have f1 := h1;try simp only [bl] at f1
  have hin : t.ins = u.ins := by rw [hol, gol, hul, gul] at f1; omega
  have hlm : os.length = ps.length := by rw [hol, gol, hul, gul] at f1; omega
  have ham : t.outs.length = u.outs.length := by rw [hol, gol, hul, gul] at f1; omega
  refine cK (tC (cS (sR ?_)));refine oV ?_;refine oN (tC (cB ?_));refine c_loop (ι := Nat) [2, 3] (.cons rfl (.cons rfl .nil)) (fun x => os.length - x) (fun x E0 => (5, .int .i64 (x : Int)) :: E0) (fun x => St w [] I [.box b3 (.cells #[.int .i64 u.ins, vb, ub] 56 (0, 0)), .box b2 (.cells #[.int .i64 t.ins, va, ua] 56 (0, 0))]) (fun x => x ≤ os.length ∧ t.ops.take x = u.ops.take x) (0) (sC rfl (sC rfl (sC rfl sN))) (fun _ h => h) (⟨Nat.zero_le _, rfl⟩) ?_;rintro i ⟨hi, hT⟩
  try dsimp only
  refine cS (sR ?_);refine oV ?_;refine oF 1 Tryz.underlying56 Tryz.sizeOf54 ?_;refine oL Tryz.isAgg54 ?_;refine o_lenSlc trivial rfl Tryz.underlying54 rfl (hso) ?_;refine oV ?_;refine nT ?_;refine cC rfl (fun h2 => ?_) (fun h2 => ?_)
  ·
   have f2 := h2;try simp only [bl] at f2
   obtain ⟨x, hx⟩ : ∃ x, os[i]? = some x := ⟨os[i]'(by omega), List.getElem?_eq_getElem (by omega)⟩
   obtain ⟨y, hy⟩ : ∃ y, ps[i]? = some y := ⟨ps[i]'(by omega), List.getElem?_eq_getElem (by omega)⟩
   have hx2 : t.ops[i]? = some x.c := by rw [← ht.eq, List.getElem?_map, hx]; rfl
   have hy2 : u.ops[i]? = some y.c := by rw [← hu.eq, List.getElem?_map, hy]; rfl
   have xok := ht.ok x (List.mem_of_getElem? hx)
   have yok := hu.ok y (List.mem_of_getElem? hy)
   have hatx := OpV.at_ ht hx
   have haty := OpV.at_ hu hy
   obtain ⟨⟨code, a, b, e, neg, n, d⟩, vn, vd⟩ := x
   obtain ⟨⟨code2, a2, b2', e2, neg2, n2, d2⟩, vn2, vd2⟩ := y
   have ha : Ws I vn n := xok.1
   have hb : Ws I vd d := xok.2
   have hc : Ws I vn2 n2 := yok.1
   have hd : Ws I vd2 d2 := yok.2
   refine cK (tC (cS (cB (sR ?_))));refine oF 1 Tryz.underlying56 Tryz.sizeOf54 ?_;refine oL Tryz.isAgg54 ?_;refine oV ?_;refine o_elem trivial rfl Tryz.underlying54 Tryz.sizeOf69 rfl (hso) rfl (by omega) ?_;refine o_loadAI trivial rfl Tryz.isAgg69 Tryz.sizeOf69 rfl rfl (hatx) ?_;refine o_alloc trivial rfl Tryz.zeroValue69 rfl (fun b6 => ?_);refine oS Tryz.sizeOf69 ?_;refine nS ?_;refine oF 1 Tryz.underlying56 Tryz.sizeOf54 ?_;refine oL Tryz.isAgg54 ?_;refine oV ?_;refine o_elem trivial rfl Tryz.underlying54 Tryz.sizeOf69 rfl (gso) rfl (by omega) ?_;refine o_loadAI trivial rfl Tryz.isAgg69 Tryz.sizeOf69 rfl rfl (haty) ?_;refine o_alloc trivial rfl Tryz.zeroValue69 rfl (fun b7 => ?_);refine oS Tryz.sizeOf69 ?_;refine nS ?_;refine oF 4 Tryz.underlying69 Tryz.sizeOf35 ?_;refine oA Tryz.isAgg35 Tryz.sizeOf35 ?_;refine oF 4 Tryz.underlying69 Tryz.sizeOf35 ?_;refine oA Tryz.isAgg35 Tryz.sizeOf35 ?_;refine oQ Tryz.call67 rfl (rEqual_any neg neg2 vn vd vn2 vd2 n d n2 d2 ha hb hc hd) ?_;refine oV ?_;refine nS ?_;iterate 2 refine oV ?_
   refine' o_or trivial trivial rfl rfl rfl rfl rfl rfl rfl rfl (fun hb57 => ?_) ?_;rotate_left
   ·
    have fb57 := hb57
    try simp only [bl] at fb57
    refine gF hb57 0 Tryz.underlying69 Tryz.sizeOf3 ?_;refine gL hb57 Tryz.isAgg3 ?_;refine gF hb57 0 Tryz.underlying69 Tryz.sizeOf3 ?_;refine gL hb57 Tryz.isAgg3 ?_;refine gV hb57 ?_;refine oN ?_;exact joins rfl
   refine' o_or trivial trivial rfl rfl rfl rfl rfl rfl rfl rfl (fun hb64 => ?_) ?_;rotate_left
   ·
    have fb64 := hb64
    try simp only [bl] at fb64
    refine gF hb64 1 Tryz.underlying69 Tryz.sizeOf3 ?_;refine gL hb64 Tryz.isAgg3 ?_;refine gF hb64 1 Tryz.underlying69 Tryz.sizeOf3 ?_;refine gL hb64 Tryz.isAgg3 ?_;refine gV hb64 ?_;refine oN ?_;exact joins rfl
   refine' o_or trivial trivial rfl rfl rfl rfl rfl rfl rfl rfl (fun hb71 => ?_) ?_;rotate_left
   ·
    have fb71 := hb71
    try simp only [bl] at fb71
    refine gF hb71 2 Tryz.underlying69 Tryz.sizeOf3 ?_;refine gL hb71 Tryz.isAgg3 ?_;refine gF hb71 2 Tryz.underlying69 Tryz.sizeOf3 ?_;refine gL hb71 Tryz.isAgg3 ?_;refine gV hb71 ?_;refine oN ?_;exact joins rfl
   refine' o_or trivial trivial rfl rfl rfl rfl rfl rfl rfl rfl (fun hb78 => ?_) ?_;rotate_left
   ·
    have fb78 := hb78
    try simp only [bl] at fb78
    refine gF hb78 3 Tryz.underlying69 Tryz.sizeOf3 ?_;refine gL hb78 Tryz.isAgg3 ?_;refine gF hb78 3 Tryz.underlying69 Tryz.sizeOf3 ?_;refine gL hb78 Tryz.isAgg3 ?_;refine gV hb78 ?_;refine oN ?_;exact joins rfl
   refine nT ?_;refine cC rfl (fun h3 => ?_) (fun h3 => ?_)
   ·
    have f3 := h3;try simp only [bl] at f3
    have hne : t ≠ u := fun e => by
      have e2 := at_eq (by rw [e]) hx2 hy2
      simp only at e2
      injection e2 with g1 g2 g3 g4 g5 g6 g7
      subst g1 g2 g3 g4 g5 g6 g7
      simp at h3
    refine sR ?_;refine oV ?_;refine oN (tC (cT (blk_r (tR (tR (blk_r (tR ?_)))))));refine ret1 rfl rfl ?_;exact leaf0 (congrArg Value.bool (eqB_ne hne).symm)
   have f3 := h3;try simp only [bl] at f3
   have hst : (⟨code, a, b, e, neg, n, d⟩ : OpC) = ⟨code2, a2, b2', e2, neg2, n2, d2⟩ := by
     simp at h3
     obtain ⟨⟨⟨⟨⟨⟨g1, g2⟩, g3⟩, g4⟩, g5⟩, g6⟩, g7⟩ := h3
     subst g1 g2 g3 g4 g5 g6 g7
     rfl
   refine cK (blk_n (tC (cR ?_)));refine oV ?_
   (refine o_add trivial rfl rfl rfl ?_ ?_; (omega))
   refine oV ?_;refine oN ?_;exact again (i + 1) (sC rfl (sC rfl (sC rfl sN))) (fun _ h => h.sort (by repeat constructor)) (by show os.length - (i + 1) < os.length - i; omega) ⟨by show i + 1 ≤ _; omega, take_more hT hx2 hy2 hst⟩
  have f2 := h2;try simp only [bl] at f2
  have heops : t.ops = u.ops := take_ext (by omega) hT (by omega)
  refine c_exit (then_x (then_x (blk_eq rfl (tC (cS (sR ?_))))));refine oV ?_;refine oN (tC (cB ?_));refine c_loop (ι := Nat) [2, 3] (.cons rfl (.cons rfl .nil)) (fun x => t.outs.length - x) (fun x E0 => (9, .int .i64 (x : Int)) :: E0) (fun x => St w [] I [.box b3 (.cells #[.int .i64 u.ins, vb, ub] 56 (0, 0)), .box b2 (.cells #[.int .i64 t.ins, va, ua] 56 (0, 0))]) (fun x => x ≤ t.outs.length ∧ t.outs.take x = u.outs.take x) (0) (sC rfl (sC rfl (sC rfl sN))) (fun _ h => h) (⟨Nat.zero_le _, rfl⟩) ?_;rintro j ⟨hj, hta⟩
  try dsimp only
  refine cS (sR ?_);refine oV ?_;refine oF 2 Tryz.underlying56 Tryz.sizeOf52 ?_;refine oL Tryz.isAgg52 ?_;refine o_lenSlc trivial rfl Tryz.underlying52 rfl (hsu) ?_;refine oV ?_;refine nT ?_;refine cC rfl (fun h4 => ?_) (fun h4 => ?_)
  ·
   have f4 := h4;try simp only [bl] at f4
   obtain ⟨x, hx⟩ : ∃ x, t.outs[j]? = some x := ⟨t.outs[j]'(by omega), List.getElem?_eq_getElem (by omega)⟩
   obtain ⟨y, hy⟩ : ∃ y, u.outs[j]? = some y := ⟨u.outs[j]'(by omega), List.getElem?_eq_getElem (by omega)⟩
   refine cK (tC (cS (cB (cS ?_))));refine c_quiet (by kernel_rfl) (by kernel_rfl) (fun _ h => h.drawn) ?_;refine oF 2 Tryz.underlying56 Tryz.sizeOf52 ?_;refine oL Tryz.isAgg52 ?_;refine oV ?_;refine o_elem trivial rfl Tryz.underlying52 Tryz.sizeOf3 rfl (hsu) rfl (by omega) ?_;refine o_load1I trivial rfl Tryz.isAgg3 rfl (ics_at hsu hx) ?_;refine oF 2 Tryz.underlying56 Tryz.sizeOf52 ?_;refine oL Tryz.isAgg52 ?_;refine oV ?_;refine o_elem trivial rfl Tryz.underlying52 Tryz.sizeOf3 rfl (gsu) rfl (by omega) ?_;refine o_load1I trivial rfl Tryz.isAgg3 rfl (ics_at gsu hy) ?_;refine oV ?_;refine nT ?_;refine cC rfl (fun h5 => ?_) (fun h5 => ?_)
   ·
    have f5 := h5;try simp only [bl] at f5
    have hne : t ≠ u := fun e => by
      have e2 : x = y := at_eq (by rw [e]) hx hy
      rw [e2] at h5; simp at h5
    refine sR ?_;refine oV ?_;refine oN (tC (cT (blk_r (tR (tR (blk_r (tR ?_)))))));refine ret1 rfl rfl ?_;exact leaf0 (congrArg Value.bool (eqB_ne hne).symm)
   have f5 := h5;try simp only [bl] at f5
   have hxy : x = y := by simpa using h5
   refine cK (blk_n (tC (cR ?_)));refine oV ?_
   (refine o_add trivial rfl rfl rfl ?_ ?_; (omega))
   refine oV ?_;refine oN ?_;exact again (j + 1) (sC rfl (sC rfl (sC rfl sN))) (fun _ h => h) (by show t.outs.length - (j + 1) < t.outs.length - j; omega) ⟨by show j + 1 ≤ _; omega, take_more hta hx hy hxy⟩
  have f4 := h4;try simp only [bl] at f4
  have heout : t.outs = u.outs := take_ext (by omega) hta (by omega)
  refine c_exit (then_x (then_x (blk_eq rfl (tC (sR ?_)))));refine oV ?_;refine nE ?_;refine ret1 rfl rfl ?_;refine leaf0 (congrArg Value.bool (eqB_iff.2 ?_).symm)
  obtain ⟨t1, t2, t3⟩ := t
  obtain ⟨u1, u2, u3⟩ := u
  simp only at hin heops heout
  subst hin heops heout
  rfl
theorem tWeights_any (t : TapeC) (vo vu : Value) (os : List OpV) {I : Hp} (ht : TapeV I vo vu t os) (hf : ∀ o ∈ t.ops, OpC.few 2000000 o) : Fun Tryz.prog 37 [.agg #[.int .i64 t.ins, vo, vu]] I [] (fun v I' _ => Slc I' 1 v (nls ((tapeW t).getD []))) := by
  intro w hw
  refine enter1 _ Tryz.func37 rfl Tryz.ntmps37 rfl ?_ hw;refine sR ?_;refine o_box trivial rfl rfl rfl (fun b1 => ?_);refine oV ?_;refine nS ?_;refine oA Tryz.isAgg56 Tryz.sizeOf56 ?_;refine oI Tryz.call68 rfl (weights_any t vo vu os ht hf) ?_;rintro _ I1 hx1 ⟨u, rfl, hs1⟩;iterate 5 refine oV ?_
  refine nU ?_;iterate 2 refine oV ?_
  refine nT ?_;refine cC rfl (fun h1 => ?_) (fun h1 => ?_)
  ·
   have f1 := h1;try simp only [bl] at f1
   have hn : tapeW t = none := by
     cases hc : tapeW t with
     | none => rfl
     | some l => rw [hc] at h1; cases h1
   refine sR ?_;refine oV ?_;refine nF ?_;refine ret1 rfl rfl ?_;refine leaf hx1 (List.nil_sublist _) ?_
   rw [hn]
   exact Slc.nil _ _
  have f1 := h1;try simp only [bl] at f1
  obtain ⟨l, hl⟩ : ∃ l, tapeW t = some l := by
    cases hc : tapeW t with
    | none => rw [hc] at h1; cases h1
    | some l => exact ⟨l, rfl⟩
  refine kS ?_;iterate 2 refine oV ?_
  refine nE ?_;refine ret1 rfl rfl ?_;refine leaf hx1 (List.nil_sublist _) ?_
  rw [hl]
  exact hs1 l hl
def P10 (I : Hp) : Prop := ∃ T f, I 1 = some (.cells (Lib.pow10Tab.map fun z => Value.int .u64 z).toArray T f)
theorem P10.le {I I' : Hp} (h : P10 I) (hl : I.Le I') : P10 I' := by
  obtain ⟨T, f, h⟩ := h
  exact ⟨T, f, hl _ _ h⟩
theorem P10.tab {I : Hp} (h : P10 I) {w : World} (hw : I.In w) : Lib.TabIs Tryz.prog w "internal/strconv.uint64pow10" .u64 Lib.pow10Tab := by
  obtain ⟨T, f, h⟩ := h
  have hg : Tryz.prog.globalNamed "internal/strconv.uint64pow10" = some 1 := by kernel_rfl
  unfold Lib.TabIs World.var?
  rw [hg]
  show (match w.heap[1]? with
    | some (.cells cs _ _) => some cs
    | _ => none) = _
  rw [hw _ _ h]
theorem dec_digs (n : Nat) : Lib.decDigits n = (digs n).reverse.map UInt8.ofNat := by
  induction n using Nat.strongRecOn with
  | _ n ih =>
    by_cases h : n < 10
    · rw [Lib.decDigits, dif_pos h, digs, dif_pos h]; rfl
    · rw [Lib.decDigits, dif_neg h, digs, dif_neg h, ih (n / 10) (by omega)]
      simp
theorem dec_decS (n : Nat) : (⟨(Lib.decDigits n).toArray⟩ : ByteArray) = decS n := by
  have h := decS_list n
  rw [toList_data] at h
  rw [dec_digs, ← h]
theorem exp_text (e : Int) : txZ (expP e) = ⟨(Lib.itoa e).toArray⟩ := by
  have h1 : ∀ s : ByteArray, txZ [tk 1 s] = s := fun s => by show s ++ ByteArray.empty = s; rw [ByteArray.append_empty]
  unfold expP Lib.itoa
  by_cases he : e < 0
  · rw [if_pos he, if_pos he]
    show minusS ++ txZ [tk 1 (decS e.natAbs)] = _
    rw [h1, ← dec_decS]
    apply ByteArray.ext
    simp [minusS]
  · rw [if_neg he, if_neg he]
    show txZ [tk 1 (decS e.natAbs)] = _
    rw [h1, ← dec_decS, show e.natAbs = e.toNat by omega]
theorem itoa_any (e : Int) {I : Hp} (hP : P10 I) (he : -1000 ≤ e ∧ e ≤ 1000) : Fun Tryz.prog 93 [.int .i64 e] I [] (fun v _ _ => v = .string (txZ (expP e))) := by
  refine fun_below fun w hw => ?_;refine (Tryz.strconv_Itoa e (by omega) (by omega) w (hP.tab hw)).mono ?_;rintro x w' ⟨rfl, k, os, rfl⟩;exact ⟨_, rfl, by rw [exp_text], Lib.below_grow _ _ (Nat.le_refl _) k os⟩
def joinS : List ByteArray → ByteArray
  | [] => ⟨#[]⟩
  | s :: l => s ++ txZ (restP l).dropLast.dropLast
theorem rest_drop : ∀ (l : List ByteArray), restP l = (restP l).dropLast.dropLast ++ [tk 2 semiS, nl]
  | [] => rfl
  | s :: l => by
    have ih := rest_drop l
    have h2 : ∃ a b r, restP l = a :: b :: r := by
      cases l with
      | nil => exact ⟨_, _, _, rfl⟩
      | cons t l => exact ⟨_, _, _, rfl⟩
    obtain ⟨a, b, r, e⟩ := h2
    have e3 : (restP (s :: l)).dropLast.dropLast = tk 2 commaS :: gp :: tk 0 s :: (restP l).dropLast.dropLast := by
      rw [restP, e]
      cases r with
      | nil => rfl
      | cons c r => simp [List.dropLast]
    rw [e3, List.cons_append, List.cons_append, List.cons_append, ← ih]
    rfl
theorem names_text {key s : ByteArray} {l : List ByteArray} : txZ (namesP key (s :: l)) = key ++ (⟨#[32]⟩ ++ (joinS (s :: l) ++ ⟨#[59, 10]⟩)) := by
  show txZ (tk 0 key :: gp :: tk 0 s :: restP l) = _
  conv => lhs; rw [rest_drop l]
  simp only [txZ, txZ_app, joinS, ByteArray.append_assoc]
  rfl
theorem rest_tail : ∀ (l : List ByteArray), (txZ (restP l).dropLast.dropLast).data.toList = Lib.joinTail [44, 32] (l.map (·.data.toList))
  | [] => rfl
  | s :: l => by
    have ih := rest_tail l
    have h2 : ∃ a b r, restP l = a :: b :: r := by
      cases l with
      | nil => exact ⟨_, _, _, rfl⟩
      | cons t l => exact ⟨_, _, _, rfl⟩
    obtain ⟨a, b, r, e⟩ := h2
    have e3 : (restP (s :: l)).dropLast.dropLast = tk 2 commaS :: gp :: tk 0 s :: (restP l).dropLast.dropLast := by
      rw [restP, e]
      cases r with
      | nil => rfl
      | cons c r => simp [List.dropLast]
    rw [e3]
    show (commaS ++ (⟨#[32]⟩ ++ (s ++ txZ (restP l).dropLast.dropLast))).data.toList = _
    simp only [ByteArray.data_append, Array.toList_append, ih]
    simp [Lib.joinTail, commaS]
theorem join_text (s : ByteArray) (l : List ByteArray) : (⟨(Lib.join ((s :: l).map (·.data.toList)) [44, 32]).toArray⟩ : ByteArray) = joinS (s :: l) := by
  rw [List.map_cons, Lib.join_cons, ← rest_tail]
  apply ByteArray.ext
  simp [joinS, ByteArray.data_append]
theorem joins_size {l : List ByteArray} (h : NamesOk l) : (joinS l).size ≤ 42 * l.length := by
  cases l with
  | nil => decide
  | cons s l =>
    have h1 := rest_size l fun b hb => h b (List.mem_cons_of_mem _ hb)
    have h2 := (name_parts (h s List.mem_cons_self)).2.1
    rw [rest_drop l, tx_app] at h1
    have h3 : (txZ [tk 2 semiS, nl]).size = 2 := by decide
    show (s ++ txZ _).size ≤ _
    rw [ByteArray.size_append, List.length_cons]
    omega
theorem join_any (v : Value) (l : List ByteArray) {I : Hp} (h : Slc I 1 v (scs l)) (h0 : 1 ≤ l.length) (hs : (joinS l).size ≤ 1000000) : Fun Tryz.prog 53 [v, .string ⟨#[44, 32]⟩] I [] (fun v _ _ => v = .string (joinS l)) := by
  have hl := scs_len l
  obtain ⟨s, r, rfl⟩ : ∃ s r, l = s :: r := by
    cases l with
    | nil => simp at h0
    | cons s r => exact ⟨s, r, rfl⟩
  rcases h.shape with ⟨A, _, e⟩ | ⟨b, off, cap, rfl, hc⟩
  · rw [e] at hl; simp at hl
  rw [hl] at hc ⊢
  have hmx := h.most
  rw [hl] at hmx
  have hjt := join_text s r
  have hsz := congrArg ByteArray.size hjt
  change (Lib.join ((s :: r).map (·.data.toList)) [44, 32]).toArray.size = _ at hsz
  rw [List.size_toArray] at hsz
  have hlen : ∀ (y : ByteArray) (q : List ByteArray), q.length ≤ (txZ (restP q).dropLast.dropLast).size := fun y q => by
    have h1 : ∀ q : List ByteArray, q.length ≤ (Lib.joinTail [44, 32] (q.map (·.data.toList))).length := fun q => by
      induction q with
      | nil => exact Nat.zero_le _
      | cons t q ih =>
        have e : Lib.joinTail [44, 32] ((t :: q).map (·.data.toList)) = [44, 32] ++ t.data.toList ++ Lib.joinTail [44, 32] (q.map (·.data.toList)) := by simp [Lib.joinTail]
        rw [e, List.length_append, List.length_append, List.length_cons]
        show _ ≤ 2 + _ + _
        omega
    have h2 := h1 q
    rw [← rest_tail] at h2
    simpa using h2
  have hjs : (joinS (s :: r)).size = s.size + (txZ (restP r).dropLast.dropLast).size := ByteArray.size_append
  have hrl := hlen s r
  refine fun_below fun w hw => ?_
  have hcell : ∀ (j : Nat) x, (s :: r)[j]? = some x → w.cell? ⟨b, off + j, none⟩ = some (.string x) := fun j x hj => by
    have h1 := scs_at h hj
    rw [Nat.mul_one] at h1
    exact Hp.In.cell hw h1
  have hbk : b < w.heap.size := by
    have h1 := hcell 0 s rfl
    unfold World.cell? at h1
    split at h1
    · rename_i hb; exact (Array.getElem?_eq_some_iff.1 hb).1
    · cases h1
  refine (Tryz.strings_Join b off cap (s :: r) ⟨#[44, 32]⟩ w hcell hbk (by rw [List.length_cons]; omega) hc (by show (Lib.join _ [44, 32]).length ≤ _; omega)).mono ?_;rintro x w' ⟨rfl, hb⟩;exact ⟨_, rfl, congrArg Value.string hjt, hb⟩
theorem intFix_any (n : Nat) (va : Value) {I : Hp} (ha : Ws I va (natW n)) (hs : (natW n).length ≤ 100000) : Fun Tryz.prog 152 [.agg #[.bool false, va]] I [] (fun v I' _ => ∃ u, v = .agg #[.bool false, u] ∧ Ws I' u (natW n)) := by
  intro w hw
  refine enter1 _ Tryz.func152 rfl Tryz.ntmps152 rfl ?_ hw;refine sR ?_;refine o_box trivial rfl rfl rfl (fun b1 => ?_);refine o_alloc trivial rfl Tryz.zeroValue132 rfl (fun b2 => ?_);refine nS ?_;refine oF 0 Tryz.underlying132 Tryz.sizeOf4 ?_;refine oL Tryz.isAgg4 ?_;refine oF 1 Tryz.underlying132 Tryz.sizeOf33 ?_;refine oL Tryz.isAgg33 ?_;refine oI Tryz.call182 rfl (signed_any false va (natW n) ha (by omega)) ?_;rintro _ I1 hx1 ⟨u, rfl, hu⟩;refine oS Tryz.sizeOf132 ?_;refine nE ?_;refine retR rfl (.agg Tryz.isAgg132 Tryz.sizeOf132 rfl (by repeat constructor) rfl .nil) ?_;refine leaf hx1 (List.nil_sublist _) ⟨u, ?_, ?_⟩
  · rw [decide_eq_false (by rw [if_neg (by decide)]; omega)]; rfl
  · rw [if_neg (by decide), Int.natAbs_natCast, val_natW] at hu; exact hu
theorem wPrint_any (n : Nat) (va : Value) {I : Hp} (ha : Ws I va (natW n)) (hs : (natW n).length ≤ 100000) (hd : (digs n).length ≤ 40) : Fun Tryz.prog 126 [.agg #[.bool false, va]] I [] (fun v _ _ => v = .string (decS n)) := by
  have hfx := intFix_any n va ha hs
  intro w hw
  refine enter1 _ Tryz.func126 rfl Tryz.ntmps126 rfl ?_ hw;refine sR ?_;refine o_box trivial rfl rfl rfl (fun b1 => ?_);refine oV ?_;refine nS ?_;refine oA Tryz.isAgg132 Tryz.sizeOf132 ?_;refine oI Tryz.call152 rfl hfx ?_;rintro _ I1 hx1 ⟨u, rfl, hu⟩;refine oS Tryz.sizeOf132 ?_;refine nU ?_;refine oF 0 Tryz.underlying132 Tryz.sizeOf4 ?_;refine oL Tryz.isAgg4 ?_;refine nT ?_;refine c_cond_f rfl (by rfl) ?_;refine kS ?_;refine oF 1 Tryz.underlying132 Tryz.sizeOf33 ?_;refine oL Tryz.isAgg33 ?_;refine oQ Tryz.call130 rfl (decPrint_any _ _ hu (by omega)) ?_;refine oV ?_;refine nE ?_;refine ret1 rfl rfl ?_;refine leaf hx1 (List.nil_sublist _) (congrArg Value.string ?_); rw [val_natW]
theorem qPrint_any (q : Rat) (va vb : Value) {I : Hp} (ha : Ws I va (natW q.num.natAbs)) (hb : Ws I vb (natW q.den)) (hk : Few 3000 q) (h0 : 0 ≤ q.num) (h1 : (digs q.num.natAbs).length ≤ 40) (h2 : (digs q.den).length ≤ 40) : Fun Tryz.prog 92 [.agg #[.bool (decide (q.num < 0)), va, vb]] I [] (fun v _ _ => v = .string (ratS q)) := by
  have hneg : decide (q.num < 0) = false := decide_eq_false (by omega)
  have hln : (natW q.num.natAbs).length ≤ 3000 := natW_few hk.num (Nat.le_refl _)
  have hld : (natW q.den).length ≤ 3000 := natW_few hk.den (Nat.le_refl _)
  have hof := qof_any q va vb ha hb (hk.le (by decide))
  have hsn : (decS q.num.natAbs).size ≤ 40 := by rw [decS_size]; exact h1
  have hsd : (decS (val (natW q.den))).size ≤ 40 := by rw [val_natW, decS_size]; exact h2
  clear hk
  intro w hw
  refine enter1 _ Tryz.func92 rfl Tryz.ntmps92 rfl ?_ hw;refine sR ?_;refine o_box trivial rfl rfl rfl (fun b1 => ?_);refine oV ?_;refine nS ?_;refine oA Tryz.isAgg35 Tryz.sizeOf35 ?_;refine oI Tryz.call125 rfl hof ?_;rintro _ I1 hx1 ⟨u1, u2, rfl, hs1, hs2⟩;refine o_alloc trivial rfl Tryz.zeroValue177 rfl (fun b3 => ?_);refine oS Tryz.sizeOf177 ?_;refine nS ?_;refine oF 0 Tryz.underlying177 Tryz.sizeOf175 ?_;refine oA Tryz.isAgg175 Tryz.sizeOf175 ?_;refine oQ Tryz.call127 rfl (above_any q u1 u2 hs1 hs2) ?_
  rw [hneg]
  refine oQ Tryz.call126 rfl (wPrint_any q.num.natAbs _ hs1 (by omega) h1) ?_;refine oV ?_;refine oN (tC (cS (cS ?_)));refine h_beginB (m := 7) [.box b3 _] (by repeat constructor) (by kernel_rfl) rfl ?_;refine qT (i := 0) (qB 7 1) (Hp.Le.refl _) rfl rfl (oF 0 Tryz.underlying177 Tryz.sizeOf175 qF) ?_;refine qT (i := 1) (qB 7 3) (Hp.Le.refl _) rfl rfl (oF 0 Tryz.underlying175 Tryz.sizeOf35 qF) ?_;refine qT (i := 2) (qB 7 7) (Hp.Le.refl _) rfl rfl (oF 2 Tryz.underlying35 Tryz.sizeOf33 qF) ?_;refine qT (i := 3) (qB 7 15) (Hp.Le.refl _) rfl rfl (oL Tryz.isAgg33 qF) ?_;refine qO (i := 4) (qB 7 31) rfl ?_;refine oI Tryz.call129 rfl (natOf_any 1 (by decide)) ?_;rintro u3 I2 hx2 hs3;refine qM (hx2.le) ?_;refine qO (i := 5) (qB 7 63) rfl ?_;refine oQ Tryz.call128 rfl (natCmp_any _ _ _ _ (hs2.le hx2.le) hs3 (by omega) (natW_len_of (k := 1) (by decide) (by decide))) ?_;refine qM (hx2.le) ?_;refine qT (i := 6) (qB 7 127) (hx2.le) rfl rfl (oV qF) ?_;refine h_end (by kernel_rfl) ?_;refine tC ?_;refine cC rfl (fun h1 => ?_) (fun h1 => ?_)
  ·
   have f1 := h1;try simp only [bl] at f1
   refine sR ?_;iterate 2 refine oV ?_
   refine nF ?_;refine ret1 rfl rfl ?_;refine leaf (hx1.trans hx2 (Nat.le_refl _)) (List.nil_sublist _) (congrArg Value.string ?_)
   have hd : q.den = 1 := by
     rw [val_natW, val_natW] at f1
     unfold cmpZ at f1
     split at f1
     · omega
     · split at f1 <;> omega
   unfold ratS
   rw [if_pos hd]
  have f1 := h1;try simp only [bl] at f1
  refine kS ?_;refine oV ?_;refine o_cat trivial rfl rfl rfl (by (simp only [ByteArray.size_append, lit_size, strOf_size, List.length_replicate, List.size_toArray, List.length_cons, List.length_nil]; omega)) ?_;refine oF 0 Tryz.underlying177 Tryz.sizeOf175 ?_;refine oF 0 Tryz.underlying175 Tryz.sizeOf35 ?_;refine oF 2 Tryz.underlying35 Tryz.sizeOf33 ?_;refine oL Tryz.isAgg33 ?_;refine oQ Tryz.call130 rfl (decPrint_any _ _ (hs2.le hx2.le) (by omega)) ?_;refine o_cat trivial rfl rfl rfl (by (simp only [ByteArray.size_append, lit_size, strOf_size, List.length_replicate, List.size_toArray, List.length_cons, List.length_nil]; omega)) ?_;refine oV ?_;refine nE ?_;refine ret1 rfl rfl ?_;refine leaf (hx1.trans hx2 (Nat.le_refl _)) (List.nil_sublist _) (congrArg Value.string ?_)
  have hd : ¬ q.den = 1 := fun h => by
    rw [val_natW, val_natW, h] at f1
    exact f1 rfl
  unfold ratS
  rw [if_neg hd, val_natW]
theorem binds_any (k : Int) : PureC Tryz.prog 91 [.int .i64 k] (.int .i64 (bindZ k)) := by
  intro w
  refine enter1 _ Tryz.func91 rfl Tryz.ntmps91 rfl ?_ (S := fun w1 => w1 = w) rfl;refine sR ?_;refine oV ?_;refine nU ?_;refine oV ?_;refine oN (tC (cB (cS (sR ?_))));iterate 2 refine oV ?_
  refine nT ?_;refine cC rfl (fun h1 => ?_) (fun h1 => ?_)
  ·
   have f1 := h1;try simp only [bl] at f1
   refine cK (tC ?_);refine cC rfl (fun h2 => ?_) (fun h2 => ?_)
   ·
    have f2 := h2;try simp only [bl] at f2
    refine sR ?_;refine oV ?_;refine oN (tC (cT (blk_r (tR ?_))));refine ret1 rfl rfl ?_;refine fun _ hw => ⟨congrArg (Value.int .i64) ?_, hw⟩; unfold bindZ; (repeat' split) <;> omega
   have f2 := h2;try simp only [bl] at f2
   refine cS (sR ?_);iterate 2 refine oV ?_
   refine nT ?_;refine cC rfl (fun h3 => ?_) (fun h3 => ?_)
   ·
    have f3 := h3;try simp only [bl] at f3
    refine cK (tC ?_);refine cC rfl (fun h4 => ?_) (fun h4 => ?_)
    ·
     have f4 := h4;try simp only [bl] at f4
     refine sR ?_;refine oV ?_;refine oN (tC (cT (blk_r (tR ?_))));refine ret1 rfl rfl ?_;refine fun _ hw => ⟨congrArg (Value.int .i64) ?_, hw⟩; unfold bindZ; (repeat' split) <;> omega
    have f4 := h4;try simp only [bl] at f4
    refine sR ?_;iterate 2 refine oV ?_
    refine nT ?_;refine cC rfl (fun h5 => ?_) (fun h5 => ?_)
    ·
     have f5 := h5;try simp only [bl] at f5
     refine sR ?_;refine oV ?_;refine oN (tC (cT (blk_r (tR ?_))));refine ret1 rfl rfl ?_;refine fun _ hw => ⟨congrArg (Value.int .i64) ?_, hw⟩; unfold bindZ; (repeat' split) <;> omega
    have f5 := h5;try simp only [bl] at f5
    refine sR ?_;iterate 2 refine oV ?_
    refine nT ?_;refine cC rfl (fun h6 => ?_) (fun h6 => ?_)
    ·
     have f6 := h6;try simp only [bl] at f6
     refine sR ?_;refine oV ?_;refine oN (tC (cT (blk_r (tR ?_))));refine ret1 rfl rfl ?_;refine fun _ hw => ⟨congrArg (Value.int .i64) ?_, hw⟩; unfold bindZ; (repeat' split) <;> omega
    have f6 := h6;try simp only [bl] at f6
    refine cK (blk_n (tC (sR ?_)));refine oV ?_;refine nE ?_;refine ret1 rfl rfl ?_;refine fun _ hw => ⟨congrArg (Value.int .i64) ?_, hw⟩; unfold bindZ; (repeat' split) <;> omega
   have f3 := h3;try simp only [bl] at f3
   refine cR ?_;iterate 2 refine oV ?_
   refine nT ?_;refine cC rfl (fun h4 => ?_) (fun h4 => ?_)
   ·
    have f4 := h4;try simp only [bl] at f4
    refine sR ?_;refine oV ?_;refine oN (tC (cT (blk_r (tR ?_))));refine ret1 rfl rfl ?_;refine fun _ hw => ⟨congrArg (Value.int .i64) ?_, hw⟩; unfold bindZ; (repeat' split) <;> omega
   have f4 := h4;try simp only [bl] at f4
   refine sR ?_;iterate 2 refine oV ?_
   refine nT ?_;refine cC rfl (fun h5 => ?_) (fun h5 => ?_)
   ·
    have f5 := h5;try simp only [bl] at f5
    refine sR ?_;refine oV ?_;refine oN (tC (cT (blk_r (tR ?_))));refine ret1 rfl rfl ?_;refine fun _ hw => ⟨congrArg (Value.int .i64) ?_, hw⟩; unfold bindZ; (repeat' split) <;> omega
   have f5 := h5;try simp only [bl] at f5
   refine sR ?_;iterate 2 refine oV ?_
   refine nT ?_;refine cC rfl (fun h6 => ?_) (fun h6 => ?_)
   ·
    have f6 := h6;try simp only [bl] at f6
    refine sR ?_;refine oV ?_;refine oN (tC (cT (blk_r (tR ?_))));refine ret1 rfl rfl ?_;refine fun _ hw => ⟨congrArg (Value.int .i64) ?_, hw⟩; unfold bindZ; (repeat' split) <;> omega
   have f6 := h6;try simp only [bl] at f6
   refine cK (blk_n (tC (sR ?_)));refine oV ?_;refine nE ?_;refine ret1 rfl rfl ?_;refine fun _ hw => ⟨congrArg (Value.int .i64) ?_, hw⟩; unfold bindZ; (repeat' split) <;> omega
  have f1 := h1;try simp only [bl] at f1
  refine cR ?_;iterate 2 refine oV ?_
  refine nT ?_;refine cC rfl (fun h2 => ?_) (fun h2 => ?_)
  ·
   have f2 := h2;try simp only [bl] at f2
   refine sR ?_;refine oV ?_;refine oN (tC (cT (blk_r (tR ?_))));refine ret1 rfl rfl ?_;refine fun _ hw => ⟨congrArg (Value.int .i64) ?_, hw⟩; unfold bindZ; (repeat' split) <;> omega
  have f2 := h2;try simp only [bl] at f2
  refine cS (sR ?_);iterate 2 refine oV ?_
  refine nT ?_;refine cC rfl (fun h3 => ?_) (fun h3 => ?_)
  ·
   have f3 := h3;try simp only [bl] at f3
   refine cK (tC ?_);refine cC rfl (fun h4 => ?_) (fun h4 => ?_)
   ·
    have f4 := h4;try simp only [bl] at f4
    refine sR ?_;refine oV ?_;refine oN (tC (cT (blk_r (tR ?_))));refine ret1 rfl rfl ?_;refine fun _ hw => ⟨congrArg (Value.int .i64) ?_, hw⟩; unfold bindZ; (repeat' split) <;> omega
   have f4 := h4;try simp only [bl] at f4
   refine sR ?_;iterate 2 refine oV ?_
   refine nT ?_;refine cC rfl (fun h5 => ?_) (fun h5 => ?_)
   ·
    have f5 := h5;try simp only [bl] at f5
    refine sR ?_;refine oV ?_;refine oN (tC (cT (blk_r (tR ?_))));refine ret1 rfl rfl ?_;refine fun _ hw => ⟨congrArg (Value.int .i64) ?_, hw⟩; unfold bindZ; (repeat' split) <;> omega
   have f5 := h5;try simp only [bl] at f5
   refine sR ?_;iterate 2 refine oV ?_
   refine nT ?_;refine cC rfl (fun h6 => ?_) (fun h6 => ?_)
   ·
    have f6 := h6;try simp only [bl] at f6
    refine sR ?_;refine oV ?_;refine oN (tC (cT (blk_r (tR ?_))));refine ret1 rfl rfl ?_;refine fun _ hw => ⟨congrArg (Value.int .i64) ?_, hw⟩; unfold bindZ; (repeat' split) <;> omega
   have f6 := h6;try simp only [bl] at f6
   refine cK (blk_n (tC (sR ?_)));refine oV ?_;refine nE ?_;refine ret1 rfl rfl ?_;refine fun _ hw => ⟨congrArg (Value.int .i64) ?_, hw⟩; unfold bindZ; (repeat' split) <;> omega
  have f3 := h3;try simp only [bl] at f3
  refine cR ?_;iterate 2 refine oV ?_
  refine nT ?_;refine cC rfl (fun h4 => ?_) (fun h4 => ?_)
  ·
   have f4 := h4;try simp only [bl] at f4
   refine sR ?_;refine oV ?_;refine oN (tC (cT (blk_r (tR ?_))));refine ret1 rfl rfl ?_;refine fun _ hw => ⟨congrArg (Value.int .i64) ?_, hw⟩; unfold bindZ; (repeat' split) <;> omega
  have f4 := h4;try simp only [bl] at f4
  refine sR ?_;iterate 2 refine oV ?_
  refine nT ?_;refine cC rfl (fun h5 => ?_) (fun h5 => ?_)
  ·
   have f5 := h5;try simp only [bl] at f5
   refine sR ?_;refine oV ?_;refine oN (tC (cT (blk_r (tR ?_))));refine ret1 rfl rfl ?_;refine fun _ hw => ⟨congrArg (Value.int .i64) ?_, hw⟩; unfold bindZ; (repeat' split) <;> omega
  have f5 := h5;try simp only [bl] at f5
  refine sR ?_;iterate 2 refine oV ?_
  refine nT ?_;refine cC rfl (fun h6 => ?_) (fun h6 => ?_)
  ·
   have f6 := h6;try simp only [bl] at f6
   refine sR ?_;refine oV ?_;refine oN (tC (cT (blk_r (tR ?_))));refine ret1 rfl rfl ?_;refine fun _ hw => ⟨congrArg (Value.int .i64) ?_, hw⟩; unfold bindZ; (repeat' split) <;> omega
  have f6 := h6;try simp only [bl] at f6
  refine cK (blk_n (tC (sR ?_)));refine oV ?_;refine nE ?_;refine ret1 rfl rfl ?_;refine fun _ hw => ⟨congrArg (Value.int .i64) ?_, hw⟩; unfold bindZ; (repeat' split) <;> omega
def betw (s : ByteArray) (m : Bool) : ByteArray := if m then ⟨#[40]⟩ ++ s ++ ⟨#[41]⟩ else s
theorem between_any (s : ByteArray) (m : Bool) (hs : s.size ≤ 1000000) : PureC Tryz.prog 94 [.string s, .bool m] (.string (betw s m)) := by
  intro w
  refine enter2 _ Tryz.func94 rfl Tryz.ntmps94 rfl ?_ (S := fun w1 => w1 = w) rfl;refine sR ?_;refine oV ?_;refine nU ?_;refine oV ?_;refine nT ?_;refine cC rfl (fun h1 => ?_) (fun h1 => ?_)
  ·
   have f1 := h1;try simp only [bl] at f1
   refine sR ?_;refine oV ?_;iterate 2 refine o_cat trivial rfl rfl rfl (by (simp only [ByteArray.size_append, lit_size, strOf_size, List.length_replicate, List.size_toArray, List.length_cons, List.length_nil]; omega)) ?_
   refine oV ?_;refine nF ?_;refine ret1 rfl rfl ?_;refine fun _ hw => ⟨congrArg Value.string ?_, hw⟩; unfold betw; rw [if_pos h1]
  have f1 := h1;try simp only [bl] at f1
  refine kS ?_;iterate 2 refine oV ?_
  refine nE ?_;refine ret1 rfl rfl ?_;refine fun _ hw => ⟨congrArg Value.string ?_, hw⟩; unfold betw; rw [h1]; rfl
theorem brk_text (m : Bool) (l : List Tok) : txZ (brk m l) = betw (txZ l) m := by
  cases m with
  | false => rfl
  | true =>
    show txZ (tk 2 lpar :: (l ++ [tk 2 rpar])) = _
    rw [txZ, txZ_app]
    show lpar ++ (txZ l ++ (rpar ++ ByteArray.empty)) = _
    rw [ByteArray.append_empty, ← ByteArray.append_assoc]
    rfl
theorem bind_kind {l : List NodeC} {i : Int} {x : Ex} (h : NodeAt l i x) {c : NodeC} (hc : l[i.toNat]? = some c) : bindZ c.kind = bindE x ∧ (c.kind = 0 → x = .ref c.name) ∧ (c.kind = 1 → ∃ q, x = .num q ∧ c = numN q) ∧
    (c.kind = 6 → ∃ y, x = .neg y ∧ NodeAt l c.a y ∧ y.n < x.n) ∧ (c.kind = 7 → ∃ y, x = .pow y c.e ∧ NodeAt l c.a y ∧ y.n < x.n) ∧
    (c.kind ≠ 0 → c.kind ≠ 1 → c.kind ≠ 6 → c.kind ≠ 7 → ∃ y z, x = .bin c.kind y z ∧ NodeAt l c.a y ∧ NodeAt l c.b z ∧ y.n < x.n ∧ z.n < x.n ∧ 2 ≤ c.kind ∧ c.kind ≤ 5) := by
  cases x with
  | ref t =>
    have h1 := h.ref
    rw [hc] at h1
    cases Option.some.inj h1
    exact ⟨rfl, fun _ => rfl, fun h => absurd h (by show ¬ (0 : Int) = 1; decide), fun h => absurd h (by show ¬ (0 : Int) = 6; decide), fun h => absurd h (by show ¬ (0 : Int) = 7; decide), fun h => absurd rfl h⟩
  | num q =>
    have h1 := h.num
    rw [hc] at h1
    cases Option.some.inj h1
    exact ⟨rfl, fun h => absurd h (by show ¬ (1 : Int) = 0; decide), fun _ => ⟨q, rfl, rfl⟩, fun h => absurd h (by show ¬ (1 : Int) = 6; decide), fun h => absurd h (by show ¬ (1 : Int) = 7; decide), fun _ h => absurd rfl h⟩
  | neg y =>
    obtain ⟨a, h1, h2, h3⟩ := h.neg
    rw [hc] at h1
    cases Option.some.inj h1
    exact ⟨rfl, fun h => absurd h (by show ¬ (6 : Int) = 0; decide), fun h => absurd h (by show ¬ (6 : Int) = 1; decide), fun _ => ⟨y, rfl, h2, by simp only [Ex.n]; omega⟩, fun h => absurd h (by show ¬ (6 : Int) = 7; decide), fun _ _ h => absurd rfl h⟩
  | pow y e =>
    obtain ⟨a, h1, h2, h3⟩ := h.pow
    rw [hc] at h1
    cases Option.some.inj h1
    exact ⟨rfl, fun h => absurd h (by show ¬ (7 : Int) = 0; decide), fun h => absurd h (by show ¬ (7 : Int) = 1; decide), fun h => absurd h (by show ¬ (7 : Int) = 6; decide), fun _ => ⟨y, rfl, h2, by simp only [Ex.n]; omega⟩, fun _ _ _ h => absurd rfl h⟩
  | bin k y z =>
    obtain ⟨a, b, h1, h2, h3, _, _⟩ := h.bin
    have hk := h.ok
    rw [hc] at h1
    cases Option.some.inj h1
    obtain ⟨k2, k5, _, _⟩ := hk
    refine ⟨?_, fun h => ?_, fun h => ?_, fun h => ?_, fun h => ?_, fun _ _ _ _ => ⟨y, z, rfl, h2, h3, by simp only [Ex.n]; omega, by simp only [Ex.n]; omega, k2, k5⟩⟩
    · show bindZ k = if 4 ≤ k then 2 else 1
      unfold bindZ
      (repeat' split) <;> omega
    · change k = 0 at h; omega
    · change k = 1 at h; omega
    · change k = 6 at h; omega
    · change k = 7 at h; omega
theorem part_size {x : Ex} (h : x.ok) (m : Int) : (txZ (partP x m)).size ≤ 81 * x.n + 2 := by
  have h1 := brk_size (decide (bindE x < m)) (shP x)
  have h2 := sh_size x h
  unfold partP
  omega
theorem tx_one (t : Tok) (r : List Tok) : txZ (t :: r) = t.text ++ txZ r := rfl
theorem sign_cut {k : Int} (h : 2 ≤ k ∧ k ≤ 5) : (⟨#[43, 45, 42, 47]⟩ : ByteArray).extract (k - 2).toNat (k - 2 + 1).toNat = signS k := by
  rcases (show k = 2 ∨ k = 3 ∨ k = 4 ∨ k = 5 by omega) with rfl | rfl | rfl | rfl <;> kernel_rfl
theorem few_words {q : Rat} {k : Nat} (h1 : (natW q.num.natAbs).length ≤ k) (h2 : (natW q.den).length ≤ k) : Few k q := by
  have k1 := val_lt (Wds_natW q.num.natAbs)
  have k2 := val_lt (Wds_natW q.den)
  rw [val_natW] at k1 k2
  exact ⟨Nat.lt_of_lt_of_le k1 (Nat.pow_le_pow_right (by decide) h1), Nat.lt_of_lt_of_le k2 (Nat.pow_le_pow_right (by decide) h2)⟩
theorem shNode_any (va : Value) (ns : List NodeV) {I : Hp} (hsa : Slc I 8 va (nds ns)) (hok : ∀ o ∈ ns, o.ok I) (hf : ∀ o ∈ ns, o.c.few 3000) (hn : ns.length ≤ 1000) (hP : P10 I) (b2 b3 : Nat) {T2 T3 : TypeId} {z2 z3 : Nat × Nat}
    (hB2 : I b2 = some (.cells #[va] T2 z2)) (hB3 : I b3 = some (.cells #[.func (.func 90) ([] : List Value).toArray [Value.pointer (some ⟨b2, 0, none⟩), Value.pointer (some ⟨b3, 0, none⟩)].toArray] T3 z3)) : ∀ (N : Nat) (x : Ex), x.n ≤ N → ∀ (i least : Int), NodeAt (ns.map NodeV.c) i x → -10 ≤ least → least ≤ 10 →
    Fun Tryz.prog 90 [.int .i64 i, .int .i64 least, .pointer (some ⟨b2, 0, none⟩), .pointer (some ⟨b3, 0, none⟩)] I [] (fun v _ _ => v = .string (txZ (partP x least)))
  | 0, x, hx, _, _, _, _, _ => absurd hx (by have := x.n_pos; omega)
  | N + 1, x, hx, i, least, hi, hl1, hl2 => by
    have ih := shNode_any va ns hsa hok hf hn hP b2 b3 hB2 hB3 N
    have hln := nds_len ns
    have hin := hi.in_
    rw [List.length_map] at hin
    have hfew := hi.few
    rw [List.length_map] at hfew
    obtain ⟨k, rfl⟩ : ∃ k : Nat, i = k := ⟨i.toNat, by omega⟩
    obtain ⟨o, ho⟩ : ∃ o, ns[k]? = some o := ⟨ns[k]'(by omega), List.getElem?_eq_getElem (by omega)⟩
    have hom := List.mem_of_getElem? ho
    have hw1 : Ws I o.vn o.c.n := (hok o hom).1
    have hw2 : Ws I o.vd o.c.d := (hok o hom).2
    obtain ⟨e0, e1, e2, e3, e4, e5⟩ := bind_kind hi (c := o.c) (by rw [Int.toNat_natCast, List.getElem?_map, ho]; rfl)
    have hbe := bindE_pos x
    have hbz : bindZ o.c.kind ≤ 5 := by unfold bindZ; (repeat' split) <;> omega
    have hxs := sh_size x hi.ok
    have hpart : txZ (partP x least) = betw (txZ (shP x)) (decide (bindZ o.c.kind < least)) := by rw [e0]; exact brk_text _ _
    intro w hw
    refine enter4 _ Tryz.func90 rfl Tryz.ntmps90 rfl ?_ hw;refine sR ?_;refine oV ?_;refine nS ?_;refine o_load1I trivial rfl Tryz.isAgg24 rfl (by unfold Hp.cell?; rw [hB2]; rfl) ?_;refine oV ?_;refine o_elem trivial rfl Tryz.underlying24 Tryz.sizeOf37 rfl (hsa) rfl (by omega) ?_;refine o_loadAI trivial rfl Tryz.isAgg37 Tryz.sizeOf37 rfl rfl (nds_at hsa ho) ?_;refine o_alloc trivial rfl Tryz.zeroValue37 rfl (fun b7 => ?_);refine oS Tryz.sizeOf37 ?_;refine nS ?_;refine oF 0 Tryz.underlying37 Tryz.sizeOf3 ?_;refine oL Tryz.isAgg3 ?_;refine oP trivial rfl Tryz.call91 rfl (binds_any o.c.kind) ?_;refine oV ?_;refine nS ?_;refine oV ?_;refine nU ?_;refine oF 0 Tryz.underlying37 Tryz.sizeOf3 ?_;refine oL Tryz.isAgg3 ?_;refine oN (tC (cB (sR ?_)));iterate 2 refine oV ?_
    refine nT ?_;refine cC rfl (fun h1 => ?_) (fun h1 => ?_)
    ·
     have f1 := h1;try simp only [bl] at f1
     have hT : txZ (shP x) = o.c.name := by
       rw [e1 f1]; show o.c.name ++ ByteArray.empty = _; rw [ByteArray.append_empty]
     refine cR ?_;refine oF 4 Tryz.underlying37 Tryz.sizeOf9 ?_;refine oL Tryz.isAgg9 ?_;refine oV ?_;refine oN (blk_n (tC (sR ?_)));iterate 4 refine oV ?_
     refine oP trivial rfl Tryz.call94 rfl (between_any _ _ (by rw [← hT]; omega)) ?_;refine oV ?_;refine nE ?_;refine ret1 rfl rfl ?_;refine leaf0 (congrArg Value.string ?_); rw [hpart, hT]
    have f1 := h1;try simp only [bl] at f1
    refine sR ?_;iterate 2 refine oV ?_
    refine nT ?_;refine cC rfl (fun h2 => ?_) (fun h2 => ?_)
    ·
     have f2 := h2;try simp only [bl] at f2
     obtain ⟨q, rfl, hc⟩ := e2 f2
     have hT : txZ (shP (.num q)) = ratS q := by show ratS q ++ ByteArray.empty = _; rw [ByteArray.append_empty]
     have hq : Fun Tryz.prog 92 [.agg #[.bool o.c.neg, o.vn, o.vd]] I [] (fun v _ _ => v = .string (ratS q)) := by
       rw [hc] at hw1 hw2 ⊢
       have hfo := hf o hom
       rw [hc] at hfo
       exact qPrint_any q o.vn o.vd hw1 hw2 (few_words hfo.1 hfo.2) hi.ok.1 hi.ok.2.1 hi.ok.2.2
     refine cR ?_;refine oF 5 Tryz.underlying37 Tryz.sizeOf35 ?_;refine oA Tryz.isAgg35 Tryz.sizeOf35 ?_;refine oQ Tryz.call92 rfl hq ?_;refine oV ?_;refine oN (blk_n (tC (sR ?_)));iterate 4 refine oV ?_
     refine oP trivial rfl Tryz.call94 rfl (between_any _ _ (by rw [← hT]; omega)) ?_;refine oV ?_;refine nE ?_;refine ret1 rfl rfl ?_;refine leaf0 (congrArg Value.string ?_); rw [hpart, hT]
    have f2 := h2;try simp only [bl] at f2
    refine sR ?_;iterate 2 refine oV ?_
    refine nT ?_;refine cC rfl (fun h3 => ?_) (fun h3 => ?_)
    ·
     have f3 := h3;try simp only [bl] at f3
     obtain ⟨y, rfl, hy, hyn⟩ := e3 f3
     have hb3 : bindZ o.c.kind = 3 := e0
     have hpy := part_size hy.ok (bindZ o.c.kind)
     have hT : txZ (shP (.neg y)) = ⟨#[45]⟩ ++ txZ (partP y (bindZ o.c.kind)) := by rw [hb3]; rfl
     refine cR ?_;refine o_load1I trivial rfl Tryz.isAgg146 rfl (by unfold Hp.cell?; rw [hB3]; rfl) ?_;refine oF 1 Tryz.underlying37 Tryz.sizeOf3 ?_;refine oL Tryz.isAgg3 ?_;refine oV ?_;refine o_callQT trivial rfl rfl Tryz.call90 rfl rfl (ih y (by omega) _ _ hy (by omega) (by omega)) ?_;refine o_cat trivial rfl rfl rfl (by (simp only [ByteArray.size_append, lit_size, strOf_size, List.length_replicate, List.size_toArray, List.length_cons, List.length_nil]; omega)) ?_;refine oV ?_;refine oN (blk_n (tC (sR ?_)));iterate 4 refine oV ?_
     refine oP trivial rfl Tryz.call94 rfl (between_any _ _ (by rw [← hT]; omega)) ?_;refine oV ?_;refine nE ?_;refine ret1 rfl rfl ?_;refine leaf0 (congrArg Value.string ?_); rw [hpart, hT]
    have f3 := h3;try simp only [bl] at f3
    refine sR ?_;iterate 2 refine oV ?_
    refine nT ?_;refine cC rfl (fun h4 => ?_) (fun h4 => ?_)
    ·
     have f4 := h4;try simp only [bl] at f4
     obtain ⟨y, rfl, hy, hyn⟩ := e4 f4
     have hb4 : bindZ o.c.kind = 4 := e0
     have hpy := part_size hy.ok (bindZ o.c.kind + 1)
     have hes := exp_size hi.ok.2
     have hT : txZ (shP (.pow y o.c.e)) = txZ (partP y (bindZ o.c.kind + 1)) ++ ⟨#[94]⟩ ++ txZ (expP o.c.e) := by
       rw [hb4]
       show txZ (partP y 5 ++ tk 2 Go.Tw.caret :: expP o.c.e) = _
       rw [txZ_app, tx_one, ByteArray.append_assoc]
       rfl
     refine c_quiet (by kernel_rfl) (by kernel_rfl) (fun _ h => h.drawn) ?_;refine o_load1I trivial rfl Tryz.isAgg146 rfl (by unfold Hp.cell?; rw [hB3]; rfl) ?_;refine oF 1 Tryz.underlying37 Tryz.sizeOf3 ?_;refine oL Tryz.isAgg3 ?_;refine oV ?_
     (refine o_add trivial rfl rfl rfl ?_ ?_; (omega))
     refine o_callQT trivial rfl rfl Tryz.call90 rfl rfl (ih y (by omega) _ _ hy (by omega) (by omega)) ?_;refine o_cat trivial rfl rfl rfl (by (simp only [ByteArray.size_append, lit_size, strOf_size, List.length_replicate, List.size_toArray, List.length_cons, List.length_nil]; omega)) ?_;refine oF 3 Tryz.underlying37 Tryz.sizeOf3 ?_;refine oL Tryz.isAgg3 ?_;refine oQ Tryz.call93 rfl (itoa_any _ hP (by have := hi.ok.2; omega)) ?_;refine o_cat trivial rfl rfl rfl (by (simp only [ByteArray.size_append, lit_size, strOf_size, List.length_replicate, List.size_toArray, List.length_cons, List.length_nil]; omega)) ?_;refine oV ?_;refine oN (blk_n (tC (sR ?_)));iterate 4 refine oV ?_
     refine oP trivial rfl Tryz.call94 rfl (between_any _ _ (by rw [← hT]; omega)) ?_;refine oV ?_;refine nE ?_;refine ret1 rfl rfl ?_;refine leaf0 (congrArg Value.string ?_); rw [hpart, hT]
    have f4 := h4;try simp only [bl] at f4
    obtain ⟨y, z, rfl, hy, hz, hyn, hzn, k2, k5⟩ := e5 (by omega) (by omega) (by omega) (by omega)
    have hb5 : bindZ o.c.kind = if 4 ≤ o.c.kind then 2 else 1 := e0
    have hpy := part_size hy.ok (bindZ o.c.kind)
    have hpz := part_size hz.ok (bindZ o.c.kind + 1)
    have hss : (signS o.c.kind).size = 1 := by unfold signS; split <;> (try rfl); split <;> (try rfl); split <;> rfl
    have hT : txZ (shP (.bin o.c.kind y z)) = txZ (partP y (bindZ o.c.kind)) ++ ⟨#[32]⟩ ++ signS o.c.kind ++ ⟨#[32]⟩ ++ txZ (partP z (bindZ o.c.kind + 1)) := by
      rw [hb5]
      show txZ (partP y _ ++ gp :: tk 2 (signS o.c.kind) :: gp :: partP z _) = _
      rw [txZ_app, tx_one, tx_one, tx_one]
      simp only [ByteArray.append_assoc]
      rfl
    refine c_quiet (by kernel_rfl) (by kernel_rfl) (fun _ h => h.drawn) ?_;refine o_load1I trivial rfl Tryz.isAgg146 rfl (by unfold Hp.cell?; rw [hB3]; rfl) ?_;refine oF 1 Tryz.underlying37 Tryz.sizeOf3 ?_;refine oL Tryz.isAgg3 ?_;refine oV ?_;refine o_callQT trivial rfl rfl Tryz.call90 rfl rfl (ih y (by omega) _ _ hy (by omega) (by omega)) ?_;refine o_cat trivial rfl rfl rfl (by (simp only [ByteArray.size_append, lit_size, strOf_size, List.length_replicate, List.size_toArray, List.length_cons, List.length_nil]; omega)) ?_;refine oF 0 Tryz.underlying37 Tryz.sizeOf3 ?_;refine oL Tryz.isAgg3 ?_
    (refine o_sub trivial rfl rfl rfl ?_ ?_; (omega))
    refine oF 0 Tryz.underlying37 Tryz.sizeOf3 ?_;refine oL Tryz.isAgg3 ?_
    (refine o_sub trivial rfl rfl rfl ?_ ?_; (omega))
    (refine o_add trivial rfl rfl rfl ?_ ?_; (omega))
    refine o_sliceS3 trivial rfl Tryz.underlying9 rfl rfl rfl (by have h4z : (ByteArray.mk #[43, 45, 42, 47]).size = 4 := rfl; omega) ?_
    rw [sign_cut ⟨k2, k5⟩]
    iterate 2 refine o_cat trivial rfl rfl rfl (by (simp only [ByteArray.size_append, lit_size, strOf_size, List.length_replicate, List.size_toArray, List.length_cons, List.length_nil]; omega)) ?_
    refine o_load1I trivial rfl Tryz.isAgg146 rfl (by unfold Hp.cell?; rw [hB3]; rfl) ?_;refine oF 2 Tryz.underlying37 Tryz.sizeOf3 ?_;refine oL Tryz.isAgg3 ?_;refine oV ?_
    (refine o_add trivial rfl rfl rfl ?_ ?_; (omega))
    refine o_callQT trivial rfl rfl Tryz.call90 rfl rfl (ih z (by omega) _ _ hz (by omega) (by omega)) ?_;refine o_cat trivial rfl rfl rfl (by (simp only [ByteArray.size_append, lit_size, strOf_size, List.length_replicate, List.size_toArray, List.length_cons, List.length_nil]; omega)) ?_;refine oV ?_;refine oN (blk_n (tC (sR ?_)));iterate 4 refine oV ?_
    refine oP trivial rfl Tryz.call94 rfl (between_any _ _ (by rw [← hT]; omega)) ?_;refine oV ?_;refine nE ?_;refine ret1 rfl rfl ?_;refine leaf0 (congrArg Value.string ?_); rw [hpart, hT]
theorem shRoot_any (va : Value) (ns : List NodeV) {I : Hp} (hsa : Slc I 8 va (nds ns)) (hok : ∀ o ∈ ns, o.ok I) (hf : ∀ o ∈ ns, o.c.few 3000) (hn : ns.length ≤ 1000) (hP : P10 I) (x : Ex) (i : Int) (hi : NodeAt (ns.map NodeV.c) i x) :
    Fun Tryz.prog 54 [va, .int .i64 i] I [] (fun v _ _ => v = .string (txZ (shP x))) := by
  intro w hw
  refine enter2 _ Tryz.func54 rfl Tryz.ntmps54 rfl ?_ hw;refine sR ?_;refine o_box (cs := [_]) trivial rfl rfl (hsa.cells1).1 (fun b2 => ?_);refine oV ?_;refine nS ?_;refine o_alloc trivial rfl Tryz.zeroValue146 rfl (fun b5 => ?_);refine nS ?_;refine oV ?_;refine oS Tryz.sizeOf146 ?_;refine oN (tC (cS ?_));refine c_sealB (b := b5) (by repeat constructor) (fun I1 hx1 hb1 => ?_);refine c_sealB (b := b2) (by repeat constructor) (fun I2 hx2 hb2 => ?_)
  have hl2 := hx1.le.trans hx2.le
  have hw9 := shNode_any va ns (hsa.le hl2) (fun o ho => (hok o ho).le hl2) hf hn (hP.le hl2) b2 b5 hb2 (hx2.le _ _ hb1) x.n x (Nat.le_refl _) i 0 hi (by decide) (by decide)
  rw [partP_all x (by decide)] at hw9
  refine cR ?_;refine o_load1I trivial rfl Tryz.isAgg146 rfl (by unfold Hp.cell?; rw [hx2.le _ _ hb1]; rfl) ?_;refine oV ?_;refine o_callQT trivial rfl rfl Tryz.call90 rfl rfl hw9 ?_;refine oV ?_;refine nE ?_;refine ret1 rfl rfl ?_;refine leaf (hx1.trans hx2 (Nat.le_refl _)) (List.nil_sublist _) rfl
def PrintS (p : ProgC) (s : ByteArray) : Prop := (∃ l, RightP p l ∧ s = textZ p l) ∨ ((tZ p).isSome = false ∧ s = ⟨#[]⟩)
theorem lets_app : ∀ (a b : List (ByteArray × Ex)), letsP (a ++ b) = letsP a ++ letsP b
  | [], b => rfl
  | x :: a, b => by rw [List.cons_append, letsP, letsP, lets_app a b, List.append_assoc]
theorem lets_take {l : List (ByteArray × Ex)} (i : Nat) : (txZ (letsP (l.take i))).size ≤ (txZ (letsP l)).size := by
  have h : (txZ (letsP (l.take i ++ l.drop i))).size = (txZ (letsP l)).size := by rw [List.take_append_drop]
  rw [lets_app, tx_app] at h
  omega
theorem lets_more {l : List (ByteArray × Ex)} {i : Nat} {s : ByteArray} {x : Ex} (h : l[i]? = some (s, x)) (hd : ByteArray) : hd ++ txZ (letsP (l.take (i + 1))) = (hd ++ txZ (letsP (l.take i))) ++ (⟨#[108, 101, 116, 32]⟩ ++ s ++ ⟨#[32, 61, 32]⟩ ++ txZ (shP x) ++ ⟨#[59, 10]⟩) := by
  rw [List.take_add_one, h, Option.toList_some, lets_app, txZ_app, ByteArray.append_assoc]
  congr 2
  show txZ (letP (s, x) ++ []) = _
  rw [List.append_nil]
  unfold letP
  rw [tx_one, tx_one, tx_one, tx_one, tx_one, tx_one, txZ_app]
  have e1 : (⟨#[108, 101, 116, 32]⟩ : ByteArray) = (tk 0 letS).text ++ gp.text := rfl
  have e2 : (⟨#[32, 61, 32]⟩ : ByteArray) = gp.text ++ ((tk 2 equalS).text ++ gp.text) := rfl
  have e3 : (⟨#[59, 10]⟩ : ByteArray) = txZ [tk 2 semiS, nl] := rfl
  rw [e1, e2, e3]
  simp only [ByteArray.append_assoc]
  rfl
theorem showPrint_any (vi vl vo va : Value) (p : ProgC) (ns : List NodeV) (s : ByteArray) {I : Hp} (hp : ProgV I vi vl vo va p ns) (hf : ∀ o ∈ ns, o.c.few 3000) (hn : ns.length ≤ 1000) (hP : P10 I) (hs : PrintS p s) :
    Fun Tryz.prog 23 [.agg #[vi, vl, vo, va]] I [] (fun v _ _ => v = .string s) := by
  have hsi := hp.si
  have hsl := hp.sl
  have hso := hp.so
  have hsa := hp.sa
  have hla := nds_len ns
  have hal : p.all.length = ns.length := by rw [← hp.eq, List.length_map]
  have hll : (p.lets.map LetC.cells).length = p.lets.length := List.length_map _
  intro w hw
  refine enter1 _ Tryz.func23 rfl Tryz.ntmps23 rfl ?_ hw;refine sR ?_;refine o_box trivial rfl rfl rfl (fun b1 => ?_);refine oV ?_;refine nU ?_;refine oA Tryz.isAgg26 Tryz.sizeOf26 ?_;refine oQ Tryz.call26 rfl (trRight_any vi vl vo va p ns hp (fun o ho => ⟨Nat.le_trans (hf o ho).1 (by decide), Nat.le_trans (hf o ho).2 (by decide)⟩)) ?_;refine oV ?_;refine nT ?_;refine cC rfl (fun h1 => ?_) (fun h1 => ?_)
  ·
   have f1 := h1;try simp only [bl] at f1
   have hz : s = ⟨#[]⟩ := by
     rcases hs with ⟨l, hl, _⟩ | ⟨_, t⟩
     · rw [tZ_right hl] at f1; cases f1
     · exact t
   refine sR ?_;refine oV ?_;refine nF ?_;refine ret1 rfl rfl ?_;refine leaf0 ?_; rw [hz]
  have f1 := h1;try simp only [bl] at f1
  obtain ⟨l, hl, hxs⟩ : ∃ l, RightP p l ∧ s = textZ p l := by
    rcases hs with h | ⟨t, _⟩
    · exact h
    · rw [t] at f1; cases f1
  have hts := text_size hl
  have hfw := hl.few.2
  have hpl : p.lets.length = l.length := by rw [hl.lets, laid_lets]
  have hji := joins_size hl.ins.1
  have hjo := joins_size hl.outs.1
  have hi40 := hl.ins.2.2
  have ho40 := hl.outs.2.2
  have hl40 := hl.few.1
  have hlz : (txZ (letsP l)).size ≤ 81 * p.all.length + 5500 := by
    unfold textZ progP at hts
    rw [tx_app, tx_app] at hts
    omega
  refine kS ?_;refine oF 0 Tryz.underlying26 Tryz.sizeOf22 ?_;refine oL Tryz.isAgg22 ?_;refine oQ Tryz.call53 rfl (join_any vi p.ins hsi hl.ins.2.1 (by omega)) ?_;refine o_cat trivial rfl rfl rfl (by show 3 + _ ≤ _; omega) ?_;refine o_cat trivial rfl rfl rfl (by rw [ByteArray.size_append]; show 3 + _ + 2 ≤ _; omega) ?_;refine oV ?_;refine oN (tC (cS (cS ?_)))
  obtain ⟨hd, hhd⟩ : ∃ hd : ByteArray, hd = ⟨#[105, 110, 32]⟩ ++ joinS p.ins ++ ⟨#[59, 10]⟩ := ⟨_, rfl⟩
  have hds : hd.size ≤ 2000 := by rw [hhd, ByteArray.size_append, ByteArray.size_append]; show 3 + _ + 2 ≤ _; omega
  have hd0 : hd = hd ++ txZ (letsP (l.take 0)) := by rw [List.take_zero]; show hd = hd ++ ByteArray.empty; rw [ByteArray.append_empty]
  rw [← hhd, hd0]
  refine cR ?_;refine oF 1 Tryz.underlying26 Tryz.sizeOf23 ?_;refine oL Tryz.isAgg23 ?_;refine o_lenSlc trivial rfl Tryz.underlying23 rfl (hsl) ?_;refine oV ?_;refine oN (tC (cB ?_));refine c_loop (ι := Nat) [1, 15, 16] (.cons rfl (.cons rfl (.cons rfl .nil))) (fun x => p.lets.length - x) (fun x E0 => (3, .string (hd ++ txZ (letsP (l.take x)))) :: (17, .int .i64 (x : Nat)) :: E0) (fun x => St w [] I [.box b1 (.cells #[vi, vl, vo, va] 26 (0, 0))]) (fun x => x ≤ p.lets.length) (0) (sC rfl (sC rfl (sC rfl (sC rfl (sC rfl sN))))) (fun _ h => h) (Nat.zero_le _) ?_;rintro i hi
  try dsimp only
  refine sR ?_;refine oV ?_;refine oN (tC (cS ?_));refine cC rfl (fun h2 => ?_) (fun h2 => ?_)
  ·
   have f2 := h2;try simp only [bl] at f2
   obtain ⟨c, hc⟩ : ∃ c, p.lets[i]? = some c := ⟨p.lets[i]'(by omega), List.getElem?_eq_getElem (by omega)⟩
   obtain ⟨x, hx1, hx2, hx3⟩ := hl.root hc
   rw [← hp.eq] at hx2
   have hxs2 := sh_size x hx2.ok
   have hxn := hx2.few
   rw [List.length_map] at hxn
   have hmore := lets_more hx1 hd
   have htk := lets_take (l := l) i
   have hnm : c.name.size ≤ 40 := (name_parts (hl.ok _ (List.mem_of_getElem? hx1)).1).2.1
   refine cK (tC (cS (cB (sR ?_))));refine o_elem trivial rfl Tryz.underlying23 Tryz.sizeOf39 rfl (hsl) rfl (by omega) ?_;refine o_loadAI trivial rfl Tryz.isAgg39 Tryz.sizeOf39 rfl rfl (lts_at hsl hc) ?_;refine o_alloc trivial rfl Tryz.zeroValue39 rfl (fun b5 => ?_);refine oS Tryz.sizeOf39 ?_;refine nT ?_;refine c_quiet (by kernel_rfl) (by kernel_rfl) (fun _ h => h.drawn) ?_;refine oV ?_;refine oF 0 Tryz.underlying39 Tryz.sizeOf9 ?_;refine oL Tryz.isAgg9 ?_;refine o_cat trivial rfl rfl rfl (by show 4 + _ ≤ _; omega) ?_;refine o_cat trivial rfl rfl rfl (by rw [ByteArray.size_append]; show 4 + _ + 3 ≤ _; omega) ?_;refine oF 3 Tryz.underlying26 Tryz.sizeOf24 ?_;refine oL Tryz.isAgg24 ?_;refine oF 1 Tryz.underlying39 Tryz.sizeOf3 ?_;refine oL Tryz.isAgg3 ?_;refine oQ Tryz.call54 rfl (shRoot_any va ns hsa hp.ok hf hn hP x c.root hx2) ?_;refine o_cat trivial rfl rfl rfl (by rw [ByteArray.size_append, ByteArray.size_append]; show 4 + _ + 3 + _ ≤ _; omega) ?_;refine o_cat trivial rfl rfl rfl (by rw [ByteArray.size_append, ByteArray.size_append, ByteArray.size_append]; show 4 + _ + 3 + _ + 2 ≤ _; omega) ?_;refine o_cat trivial rfl rfl rfl (by rw [ByteArray.size_append, ByteArray.size_append, ByteArray.size_append, ByteArray.size_append, ByteArray.size_append]; show _ + _ + (4 + _ + 3 + _ + 2) ≤ _; omega) ?_;refine oV ?_;refine oN (blk_n (tC (cR ?_)))
   (refine o_add trivial rfl rfl rfl ?_ ?_; (omega))
   refine oV ?_;refine oN ?_;exact again (i + 1) (by rw [hmore]; exact (sC rfl (sC rfl (sC rfl (sC rfl (sC rfl sN)))))) (fun _ h => h.sort (by repeat constructor)) (by show p.lets.length - (i + 1) < p.lets.length - i; omega) (by show i + 1 ≤ _; omega)
  have f2 := h2;try simp only [bl] at f2
  have htk2 : l.take i = l := List.take_of_length_le (by omega)
  rw [htk2]
  refine c_exit (then_x (then_x (blk_eq rfl (tC (sR ?_)))));refine oV ?_;refine o_cat trivial rfl rfl rfl (by rw [ByteArray.size_append]; show _ + _ + 4 ≤ _; omega) ?_;refine oF 2 Tryz.underlying26 Tryz.sizeOf22 ?_;refine oL Tryz.isAgg22 ?_;refine oQ Tryz.call53 rfl (join_any vo p.outs hso hl.outs.2.1 (by omega)) ?_;refine o_cat trivial rfl rfl rfl (by rw [ByteArray.size_append, ByteArray.size_append]; show _ + _ + 4 + _ ≤ _; omega) ?_;refine o_cat trivial rfl rfl rfl (by rw [ByteArray.size_append, ByteArray.size_append, ByteArray.size_append]; show _ + _ + 4 + _ + 2 ≤ _; omega) ?_;refine oV ?_;refine nE ?_;refine ret1 rfl rfl ?_;refine leaf0 (congrArg Value.string ?_)
  rw [hxs, hhd]
  unfold textZ progP
  rw [txZ_app, txZ_app]
  have e1 : ∀ (key : ByteArray) (l : List ByteArray), 1 ≤ l.length → txZ (namesP key l) = key ++ (⟨#[32]⟩ ++ (joinS l ++ ⟨#[59, 10]⟩)) := fun key l h => by
    cases l with
    | nil => simp at h
    | cons s l => exact names_text
  rw [e1 _ _ hl.ins.2.1, e1 _ _ hl.outs.2.1]
  have e2 : (⟨#[105, 110, 32]⟩ : ByteArray) = inS ++ ⟨#[32]⟩ := rfl
  have e3 : (⟨#[111, 117, 116, 32]⟩ : ByteArray) = outS ++ ⟨#[32]⟩ := rfl
  rw [e2, e3]
  simp only [ByteArray.append_assoc]
theorem sum_bad {all : List NodeC} {L r : List Tok} (h : Ps .atom all L (.bad r)) (h1 : hdT L 2 minusS = false) : Ps .sum all L (.bad r) := .sum_bad (.product_bad (.fac h1 (.power_bad h)))
def _root_.Go.Tw.LSO.left : LSO → List Tok
  | .bad r => r
  | .ok _ _ r => r
def pc (m : Bool) : Nat := if m then 1 else 0
def inn : Ex → Nat
  | .ref _ => 0
  | .num _ => 0
  | .neg x => inn x + pc (decide (bindE x < 3))
  | .pow x _ => inn x + pc (decide (bindE x < 5))
  | .bin k x y => inn x + pc (decide (bindE x < if 4 ≤ k then 2 else 1)) + (inn y + pc (decide (bindE y < (if 4 ≤ k then 2 else 1) + 1)))
def need (x : Ex) (m : Int) : Nat := inn x + pc (decide (bindE x < m))
theorem pc_le (m : Bool) : pc m ≤ 1 := by cases m <;> decide
theorem pc_mono {b m n : Int} (h : m ≤ n) : pc (decide (b < m)) ≤ pc (decide (b < n)) := by
  by_cases h1 : b < m
  · rw [decide_eq_true h1, decide_eq_true (show b < n by omega)]; exact Nat.le_refl _
  · rw [decide_eq_false h1]; exact Nat.zero_le _
theorem need_mono (x : Ex) {m n : Int} (h : m ≤ n) : need x m ≤ need x n := Nat.add_le_add_left (pc_mono h) _
theorem need_low (x : Ex) {m : Int} (h : m ≤ 1) : need x m = inn x := by
  unfold need
  rw [decide_eq_false (by have := bindE_pos x; omega)]; rfl
theorem need_up (x : Ex) (m : Int) : need x m ≤ inn x + 1 := Nat.add_le_add_left (pc_le _) _
def lp : List Tok → Nat
  | [] => 0
  | t :: r => pc (isT t 2 lpar) + lp r
theorem lp_app : ∀ (a b : List Tok), lp (a ++ b) = lp a + lp b
  | [], b => by rw [List.nil_append]; show lp b = 0 + lp b; omega
  | t :: a, b => by rw [List.cons_append, lp, lp, lp_app a b]; omega
def Lv.at_ : Lv → Int
  | .atom => 5
  | .powL => 4
  | .power => 4
  | .factor => 3
  | .prodL => 2
  | .product => 2
  | .sumL => 1
  | .sum => 1
def Lv.from_ : Lv → Int
  | .powL => 5
  | lv => Lv.at_ lv
def cntOut (lv : Lv) (all : List NodeC) (r : List Tok) (a1 : List NodeC) (r1 : List Tok) : Prop :=
  if lv.tail then ∀ (b : List NodeC) (x : Ex), x.ok → all = b ++ x.nd b.length → ∃ y : Ex, y.ok ∧ a1 = b ++ y.nd b.length ∧ lp r1 + need y (Lv.at_ lv) ≤ lp r + need x (Lv.from_ lv)
  else ∃ y : Ex, y.ok ∧ a1 = all ++ y.nd all.length ∧ lp r1 + need y (Lv.at_ lv) ≤ lp r
theorem Expo.lp_ {r r1 : List Tok} {e : Option Int} (h : Expo r e r1) : lp r1 ≤ lp r := by
  have h1 : ∀ (x : Tok) (r : List Tok), lp r ≤ lp (x :: r) := fun x r => Nat.le_add_left _ _
  cases h with
  | neg _ _ _ => exact Nat.le_trans (h1 _ _) (h1 _ _)
  | neg_end _ => exact h1 _ _
  | neg_bad _ _ => exact h1 _ _
  | pos _ _ _ => exact h1 _ _
  | pos_end => exact Nat.le_refl _
  | pos_bad _ _ => exact Nat.le_refl _
theorem Ps.cnt {lv : Lv} {all : List NodeC} {r : List Tok} {o : POut} (h : Ps lv all r o) (hr : ToksOk r) : ∀ a1 r1, o = .ok a1 r1 → cntOut lv all r a1 r1 := by
  have bin_ex : ∀ {k : Int} {all a1 b : List NodeC} {x y : Ex}, 2 ≤ k ∧ k ≤ 5 → x.ok → y.ok → all = b ++ x.nd b.length → a1 = all ++ y.nd all.length → (Ex.bin k x y).ok ∧ a1 ++ [binN k (lastI all) (lastI a1)] = b ++ (Ex.bin k x y).nd b.length := by
    rintro k all a1 b x y hk hx hy rfl rfl;refine ⟨⟨hk.1, hk.2, hx, hy⟩, ?_⟩
    rw [lastI_nd, lastI_nd, List.length_append, x.nd_len, List.append_assoc, List.append_assoc]
    simp only [Ex.nd, List.append_assoc]
    congr 4
  have hc : ∀ (x : Tok) (r : List Tok), lp r ≤ lp (x :: r) := fun x r => Nat.le_add_left _ _
  induction h with
  | par_bad _ _ _ => intro _ _ e; cases e
  | @par_ok all a1 x y r r1 h1 h2 h3 ih =>
    intro _ _ e; cases e
    obtain ⟨z, hz, ez, hl⟩ := ih (hr.suf (List.suffix_cons _ _)) _ _ rfl
    refine ⟨z, hz, ez, ?_⟩
    have hy := hc y r1
    have hu := need_up z 5
    have hn : need z (Lv.at_ .sum) = inn z := need_low z (Int.le_refl _)
    rw [hn] at hl
    show lp r1 + need z 5 ≤ pc (isT x 2 lpar) + lp r
    rw [h1]
    show _ ≤ 1 + _
    omega
  | par_no _ _ _ _ => intro _ _ e; cases e
  | @leaf all x r h =>
    intro _ _ e; cases e
    obtain ⟨y, h1, hn, h3⟩ := leaf_ex h (hr _ (by simp))
    refine ⟨y, h1, by rw [h3], ?_⟩
    have h0 : need y 5 = 0 := by
      cases y with
      | ref t => rfl
      | num q => rfl
      | neg x => have := x.n_pos; simp only [Ex.n] at hn; omega
      | pow x e => have := x.n_pos; simp only [Ex.n] at hn; omega
      | bin k x y => have := x.n_pos; simp only [Ex.n] at hn; omega
    have := hc x r
    show lp r + need y 5 ≤ _
    omega
  | none => intro _ _ e; cases e
  | no _ _ => intro _ _ e; cases e
  | pow_none _ =>
    intro _ _ e; cases e
    exact fun b x hx hb => ⟨x, hx, hb, Nat.add_le_add_left (need_mono x (by decide)) _⟩
  | @pow_ok all x r r1 ee h1 h =>
    intro _ _ e; cases e
    refine fun b y hx hb => ⟨.pow y _, ⟨hx, h.le (hr.suf (List.suffix_cons _ _))⟩, ?_, ?_⟩
    · rw [hb, lastI_nd, List.append_assoc]; rfl
    · have h2 := Expo.lp_ h
      have h3 := hc x r
      have h4 : need (.pow y ee) (Lv.at_ .powL) = need y 5 := by
        unfold need
        rw [decide_eq_false (show ¬ bindE (.pow y ee) < Lv.at_ .powL by show ¬ (4 : Int) < 4; decide)]
        rfl
      rw [h4]
      show _ ≤ lp (x :: r) + need y 5
      omega
  | pow_bad _ _ => intro _ _ e; cases e
  | power_bad _ _ => intro _ _ e; cases e
  | power_ok h1 _ ih1 ih2 =>
    intro _ _ e
    obtain ⟨y, hy, e1, l1⟩ := ih1 hr _ _ rfl
    obtain ⟨z, hz, e2, l2⟩ := ih2 (hr.suf h1.suf) _ _ e _ y hy e1
    refine ⟨z, hz, e2, ?_⟩
    change _ + need y 5 ≤ _ at l1
    change _ + need z 4 ≤ _ + need y 5 at l2
    show _ + need z 4 ≤ _
    omega
  | neg_bad _ _ _ => intro _ _ e; cases e
  | @neg_ok all a1 x r r1 h1 h2 ih =>
    intro _ _ e; cases e
    obtain ⟨y, hy, e1, l1⟩ := ih (hr.suf (List.suffix_cons _ _)) _ _ rfl
    refine ⟨.neg y, hy, ?_, ?_⟩
    · rw [e1, lastI_nd, List.append_assoc]; rfl
    · have h3 := hc x r
      have h4 : need (.neg y) (Lv.at_ .factor) = need y 3 := by
        unfold need
        rw [decide_eq_false (show ¬ bindE (.neg y) < Lv.at_ .factor by show ¬ (3 : Int) < 3; decide)]
        rfl
      rw [h4]
      change _ + need y 3 ≤ _ at l1
      omega
  | fac _ _ ih =>
    intro _ _ e
    obtain ⟨y, hy, e1, l1⟩ := ih hr _ _ e
    refine ⟨y, hy, e1, Nat.le_trans (Nat.add_le_add_left (need_mono y (by decide)) _) l1⟩
  | prodL_end _ =>
    intro _ _ e; cases e
    exact fun b x hx hb => ⟨x, hx, hb, Nat.le_refl _⟩
  | prodL_bad _ _ _ => intro _ _ e; cases e
  | @prodL_ok all a1 x r r1 k o hk h1 h2 ih1 ih2 =>
    intro _ _ e b z hx hb
    have hr1 := hr.suf (List.suffix_cons _ _)
    obtain ⟨y, hy, e1, l1⟩ := ih1 hr1 _ _ rfl
    obtain ⟨h2, h3⟩ := bin_ex (mulK_le hk) hx hy hb e1
    obtain ⟨u, hu, e2, l2⟩ := ih2 (hr1.suf h1.suf) _ _ e b _ h2 h3
    refine ⟨u, hu, e2, ?_⟩
    have hxr := hc x r
    have h4 : need (.bin k z y) 2 = need z 2 + need y 3 := by
      have hge := (mulK_ge hk).1
      unfold need
      rw [decide_eq_false (show ¬ bindE (.bin k z y) < 2 by show ¬ (if 4 ≤ k then (2 : Int) else 1) < 2; rw [if_pos hge]; decide)]
      show inn z + pc (decide (bindE z < if 4 ≤ k then 2 else 1)) + (inn y + pc (decide (bindE y < (if 4 ≤ k then 2 else 1) + 1))) + 0 = _
      rw [if_pos hge]; rfl
    change _ + need u 2 ≤ _ + need (.bin k z y) 2 at l2
    change _ + need y 3 ≤ _ at l1
    show _ + need u 2 ≤ _ + need z 2
    omega
  | product_bad _ _ => intro _ _ e; cases e
  | product_ok h1 _ ih1 ih2 =>
    intro _ _ e
    obtain ⟨y, hy, e1, l1⟩ := ih1 hr _ _ rfl
    obtain ⟨z, hz, e2, l2⟩ := ih2 (hr.suf h1.suf) _ _ e _ y hy e1
    refine ⟨z, hz, e2, ?_⟩
    have hm := need_mono y (show (2 : Int) ≤ 3 by decide)
    change _ + need y 3 ≤ _ at l1
    change _ + need z 2 ≤ _ + need y 2 at l2
    show _ + need z 2 ≤ _
    omega
  | sumL_end _ =>
    intro _ _ e; cases e
    exact fun b x hx hb => ⟨x, hx, hb, Nat.le_refl _⟩
  | sumL_bad _ _ _ => intro _ _ e; cases e
  | @sumL_ok all a1 x r r1 k o hk h1 h2 ih1 ih2 =>
    intro _ _ e b z hx hb
    have hr1 := hr.suf (List.suffix_cons _ _)
    obtain ⟨y, hy, e1, l1⟩ := ih1 hr1 _ _ rfl
    obtain ⟨h2, h3⟩ := bin_ex (addK_le hk) hx hy hb e1
    obtain ⟨u, hu, e2, l2⟩ := ih2 (hr1.suf h1.suf) _ _ e b _ h2 h3
    refine ⟨u, hu, e2, ?_⟩
    have hxr := hc x r
    have h4 : need (.bin k z y) 1 = need z 1 + need y 2 := by
      have hlt := (addK_lt hk).2
      unfold need
      rw [decide_eq_false (show ¬ bindE (.bin k z y) < 1 by show ¬ (if 4 ≤ k then (2 : Int) else 1) < 1; rw [if_neg (by omega)]; decide)]
      show inn z + pc (decide (bindE z < if 4 ≤ k then 2 else 1)) + (inn y + pc (decide (bindE y < (if 4 ≤ k then 2 else 1) + 1))) + 0 = _
      rw [if_neg (by omega)]; rfl
    change _ + need u 1 ≤ _ + need (.bin k z y) 1 at l2
    change _ + need y 2 ≤ _ at l1
    show _ + need u 1 ≤ _ + need z 1
    omega
  | sum_bad _ _ => intro _ _ e; cases e
  | sum_ok h1 _ ih1 ih2 =>
    intro _ _ e
    obtain ⟨y, hy, e1, l1⟩ := ih1 hr _ _ rfl
    obtain ⟨z, hz, e2, l2⟩ := ih2 (hr.suf h1.suf) _ _ e _ y hy e1
    refine ⟨z, hz, e2, ?_⟩
    have hm := need_mono y (show (1 : Int) ≤ 2 by decide)
    change _ + need y 2 ≤ _ at l1
    change _ + need z 1 ≤ _ + need y 1 at l2
    show _ + need z 1 ≤ _
    omega
def innAll (l : List (ByteArray × Ex)) : Nat := (l.map fun a => inn a.2).sum
theorem innAll_app (a b : List (ByteArray × Ex)) : innAll (a ++ b) = innAll a + innAll b := by simp [innAll]
theorem lp_suf {a b : List Tok} (h : a <:+ b) : lp a ≤ lp b := by
  obtain ⟨c, rfl⟩ := h
  rw [lp_app]; omega
theorem Lt1.cnt {all a1 : List NodeC} {r r1 : List Tok} {s : ByteArray} (h : Lt1 all r (.ok s a1 r1)) (hr : ToksOk r) : nameZ s = true ∧ r1 <:+ r ∧ ∃ x : Ex, x.ok ∧ a1 = all ++ x.nd all.length ∧ lp r1 + inn x ≤ lp r := by
  obtain ⟨k1, k2, _⟩ := h.ex hr
  refine ⟨k1, k2, ?_⟩
  cases h with
  | ok h1 h2 h3 h4 =>
    obtain ⟨x, hx, e, hl⟩ := Ps.cnt h3 (hr.suf ⟨[_, _], rfl⟩) _ _ rfl
    refine ⟨x, hx, e, ?_⟩
    rw [show need x (Lv.at_ .sum) = inn x from need_low x (Int.le_refl _)] at hl
    rename_i x' y' z' r'
    have a1 : lp r1 ≤ lp (z' :: r1) := Nat.le_add_left _ _
    have a2 : lp r' ≤ lp (x' :: y' :: r') := lp_suf ⟨[_, _], rfl⟩
    omega
theorem Lts.cnt {ls : List LetC} {all : List NodeC} {r : List Tok} {o : LSO} (h : Lts ls all r o) : ToksOk r → ∀ l : List (ByteArray × Ex), LetsOk l → ls = (laid l 0).1 → all = (laid l 0).2 → ∀ ls1 a1 r1, o = .ok ls1 a1 r1 → r1 <:+ r ∧ ∃ l', LetsOk l' ∧ ls1 = (laid l' 0).1 ∧ a1 = (laid l' 0).2 ∧ lp r1 + innAll l' ≤ lp r + innAll l := by
  induction h with
  | fin _ => intro hr l hl h1 h2 _ _ _ e; cases e; exact ⟨List.suffix_refl _, l, hl, h1, h2, Nat.le_refl _⟩
  | bad _ _ => intro hr l hl h1 h2 _ _ _ e; cases e
  | more hx h3 h4 ih =>
    intro hr l hl h1 h2 ls1 a2 r2 e
    have hr1 := hr.suf (List.suffix_cons _ _)
    obtain ⟨k1, k2, x, hx2, e2, hc⟩ := Lt1.cnt h3 hr1
    subst h1 h2
    obtain ⟨q1, l', q2, q3, q4, q5⟩ := ih (hr1.suf k2) (l ++ [(_, x)]) (fun a ha => by
      rcases List.mem_append.1 ha with ha | ha
      · exact hl a ha
      · rw [List.mem_singleton.1 ha]; exact ⟨k1, hx2⟩) (by rw [laid_more, e2, lastI_nd]; simp) (by rw [laid_more, e2]; simp) _ _ _ e
    refine ⟨q1.trans (k2.trans (List.suffix_cons _ _)), l', q2, q3, q4, ?_⟩
    rw [innAll_app] at q5
    have e5 : ∀ s : ByteArray, innAll [(s, x)] = inn x := fun s => by simp [innAll]
    rw [e5] at q5
    rename_i a1' x' n' r' r1' o'
    have h9 : lp r' ≤ lp (x' :: r') := Nat.le_add_left _ _
    omega
theorem Prg.cnt {r : List Tok} {p : ProgC} (h : Prg r (.ok p)) (hr : ToksOk r) : ∃ l, Shaped p l ∧ innAll l ≤ lp r := by
  cases h with
  | ok h1 h2 h3 h4 h5 =>
    have hr1 := hr.suf (List.suffix_cons _ _)
    obtain ⟨k1, k2⟩ := namesZ_ok _ h2
    obtain ⟨q1, l, q2, q3, q4, q5⟩ := Lts.cnt h3 (hr1.suf k2) [] (fun a ha => by cases ha) rfl rfl _ _ _ rfl
    refine ⟨l, ⟨q3, q4, q2⟩, ?_⟩
    rename_i x' y' r' r1' r2' i' o' l' a'
    have h6 : lp r1' ≤ lp (x' :: r') := lp_suf (k2.trans (List.suffix_cons _ _))
    have h7 : innAll [] = 0 := rfl
    omega
def _root_.Go.Tw.NOut.rest : NOut → List Tok
  | .bad r => r
  | .ok _ r => r
theorem namesZ_suf : ∀ (r : List Tok), (namesZ r).rest <:+ r
  | [] => List.suffix_refl _
  | [x] => by
    unfold namesZ
    split
    · exact List.nil_suffix
    · exact List.suffix_refl _
  | x :: y :: r => by
    have ih := namesZ_suf r
    unfold namesZ
    split
    · split
      · cases h : namesZ r with
        | bad r1 => rw [h] at ih; exact List.IsSuffix.trans ih ⟨[_, _], rfl⟩
        | ok l r1 => rw [h] at ih; exact List.IsSuffix.trans ih ⟨[_, _], rfl⟩
      · split
        · exact ⟨[_, _], rfl⟩
        · exact List.suffix_cons _ _
    · exact List.suffix_refl _
def _root_.Go.Tw.LO.rest : LO → List Tok
  | .bad r => r
  | .ok _ _ r => r
theorem _root_.Go.Tw.Lt1.suf {all : List NodeC} {r : List Tok} {o : LO} (h : Lt1 all r o) : o.rest <:+ r := by
  cases h with
  | noname _ => exact List.suffix_refl _
  | noeq _ _ => exact List.suffix_cons _ _
  | sumbad _ _ h => exact List.IsSuffix.trans h.suf ⟨[_, _], rfl⟩
  | nosemi _ _ h _ => exact List.IsSuffix.trans h.suf ⟨[_, _], rfl⟩
  | ok _ _ h _ => exact List.IsSuffix.trans ((List.suffix_cons _ _).trans h.suf) ⟨[_, _], rfl⟩
def _root_.Go.Tw.LSO.rest : LSO → List Tok
  | .bad r => r
  | .ok _ _ r => r
theorem _root_.Go.Tw.Lts.suf {ls : List LetC} {all : List NodeC} {r : List Tok} {o : LSO} (h : Lts ls all r o) : o.rest <:+ r := by
  induction h with
  | fin _ => exact List.suffix_refl _
  | bad _ h => exact List.IsSuffix.trans h.suf (List.suffix_cons _ _)
  | more _ h _ ih => exact ih.trans (List.IsSuffix.trans h.suf (List.suffix_cons _ _))
theorem _root_.Go.Tw.Prg.suf {r r1 : List Tok} (h : Prg r (.bad r1)) : r1 <:+ r := by
  have nm : ∀ {r r1 : List Tok} {l : List ByteArray}, namesZ r = .ok l r1 → r1 <:+ r := fun {r r1 l} h => by have := namesZ_suf r; rw [h] at this; exact this
  have nb : ∀ {r r1 : List Tok}, namesZ r = .bad r1 → r1 <:+ r := fun {r r1} h => by have := namesZ_suf r; rw [h] at this; exact this
  cases h with
  | noin _ => exact List.suffix_refl _
  | insbad _ h => exact (nb h).trans (List.suffix_cons _ _)
  | letsbad _ h1 h2 => exact h2.suf.trans ((nm h1).trans (List.suffix_cons _ _))
  | noout _ h1 h2 _ => exact h2.suf.trans ((nm h1).trans (List.suffix_cons _ _))
  | outsbad _ h1 h2 _ h3 => exact (nb h3).trans ((List.suffix_cons _ _).trans (h2.suf.trans ((nm h1).trans (List.suffix_cons _ _))))
  | tail _ h1 h2 _ h3 => exact (nm h3).trans ((List.suffix_cons _ _).trans (h2.suf.trans ((nm h1).trans (List.suffix_cons _ _))))
theorem parse_of {s : ByteArray} {p : ProgC} {l : List (ByteArray × Ex)} (h1 : (lexZ s).err = 0) (h2 : (lexZ s).toks.map st = progQ p.ins p.outs l) (h : RightP p l) : parseZ s = ⟨p, 0, 0, 0⟩ := by
  have hp := progQ_prg h.ins.1 h.ins.2.1 h.ok h.outs.1 h.outs.2.1
  rw [← h.lets, ← h.all] at hp
  unfold parseZ
  rw [h1, if_neg (by decide), prgZ_ok_st h2 hp]
  unfold parseT
  dsimp only
  rw [if_pos (by rw [tZ_right h]; rfl)]
theorem dec1 : decS 1 = ⟨#[49]⟩ := by
  have h : digs 1 = [49] := by rw [digs, dif_pos (by decide)]
  unfold decS decL; rw [h]; rfl
theorem rat1 : ratS 1 = ⟨#[49]⟩ := by
  unfold ratS; rw [if_pos (show (1 : Rat).den = 1 from rfl)]; exact dec1
theorem ok_num {n : Nat} (h : n ≤ 9) : (Ex.num (n : Rat)).ok := by
  have e : digs n = [48 + n] := by rw [digs, dif_pos (by omega)]
  have e1 : digs 1 = [49] := by rw [digs, dif_pos (by decide)]
  refine ⟨?_, ?_, ?_⟩
  · show (0 : Int) ≤ ((n : Int) : Int); omega
  · show (digs ((n : Int).natAbs)).length ≤ 40; rw [Int.natAbs_natCast, e]; show 1 ≤ 40; decide
  · show (digs 1).length ≤ 40; rw [e1]; decide
theorem fewC_of {p : ProgC} {ns : List NodeV} (h : fewP p 40 = true) (he : ns.map NodeV.c = p.all) : (∀ o ∈ ns, o.c.few 3000) ∧ ns.length ≤ 1000 ∧ ∀ o ∈ ns, o.c.few 2000000 := by
  obtain ⟨m1, m2, m3, m4, m5, m6⟩ := few_of h he
  refine ⟨fun o ho => few_up (m5 o ho) (by decide), ?_, fun o ho => few_up (m5 o ho) (by decide)⟩
  have : ns.length = p.all.length := by rw [← he, List.length_map]
  omega
theorem back_any {p : ProgC} {l : List (ByteArray × Ex)} (h : RightP p l) {I : Hp} (hT : Tabs I) (hM : Mx I) (hE : Errs I) : Fun Tryz.prog 27 [.string (textZ p l)] I [] (fun v I' _ => ParseV ⟨p, 0, 0, 0⟩ v I') := by
  have h1 := text_size h
  have h2 := h.few.2
  have h3 := parse_any (textZ p l) hT hM hE (by omega)
  rw [show_parse h] at h3
  exact h3
theorem few5 {ns : List NodeV} (h : ∀ o ∈ ns, o.c.few 5) : ∀ o ∈ ns, o.c.few 3000 := fun o ho => ⟨Nat.le_trans (h o ho).1 (by decide), Nat.le_trans (h o ho).2 (by decide)⟩
end Go.Proofs.YtfcmhcaggdakbaaGreatDoor
