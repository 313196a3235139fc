/-
  ValueTells, part 2: the texts Limb, Nat1, Nat2, Nat3, Nat4, Nat5, Nat6, Range, Nat7, RatPlain, Rat as one.
-/
import Derived.Test.YtjgbjaaekknenaaGreatQValueTellsA
import Derived.RangeFuncRecord
/-
  Layers 1 and 2 of the program: words, natural numbers.
-/
namespace Go.Proofs.YtjgbjaaekknenaaGreat
open Go Go.Tw
set_option linter.unusedVariables false
set_option linter.unusedSimpArgs false
set_option linter.unnecessarySimpa false
set_option maxHeartbeats 1000000
set_option maxRecDepth 100000 in
theorem elem3 : ElemTy Tryz.prog 3 1 8 := ⟨_, _, Tryz.type3, rfl, rfl, rfl, rfl⟩
set_option maxRecDepth 100000 in
theorem elem5 : ElemTy Tryz.prog 5 1 1 := ⟨_, _, Tryz.type5, rfl, rfl, rfl, rfl⟩
set_option maxRecDepth 100000 in
theorem elem9 : ElemTy Tryz.prog 9 1 16 := ⟨_, _, Tryz.type9, rfl, rfl, rfl, rfl⟩
set_option maxRecDepth 100000 in
theorem elem33 : ElemTy Tryz.prog 33 3 56 := ⟨_, _, Tryz.type33, rfl, rfl, rfl, rfl⟩
set_option maxRecDepth 100000 in
theorem elem35 : ElemTy Tryz.prog 35 7 88 := ⟨_, _, Tryz.type35, rfl, rfl, rfl, rfl⟩
set_option maxRecDepth 100000 in
theorem elem85 : ElemTy Tryz.prog 85 8 104 := ⟨_, _, Tryz.type85, rfl, rfl, rfl, rfl⟩
set_option maxRecDepth 100000 in
theorem elem88 : ElemTy Tryz.prog 88 2 24 := ⟨_, _, Tryz.type88, rfl, rfl, rfl, rfl⟩
set_option maxRecDepth 100000 in
theorem elem95 : ElemTy Tryz.prog 95 1 4 := ⟨_, _, Tryz.type95, rfl, rfl, rfl, rfl⟩
set_option maxRecDepth 100000 in
theorem elemz3 : ElemZ Tryz.prog 3 1 8 [.int .i64 0] := ⟨_, _, Tryz.type3, rfl, rfl, rfl, rfl, rfl⟩
set_option maxRecDepth 100000 in
theorem elemz95 : ElemZ Tryz.prog 95 1 4 [.int .u32 0] := ⟨_, _, Tryz.type95, rfl, rfl, rfl, rfl, rfl⟩

def sumTo (O : List Nat) : Nat → Nat
  | 0 => 0
  | i + 1 => sumTo O i + dg O i
theorem sumTo_lt {O : List Nat} (h : Wds O) : ∀ i, sumTo O i ≤ 4294967295 * i
  | 0 => by simp [sumTo]
  | i + 1 => by have := sumTo_lt h i; have := dg_lt h i; simp only [sumTo]; omega
theorem wide_any (va : Value) (O : List Nat) {I : Hp} (ha : Ws I va O) (hl : O.length ≤ 3) : Fun Tryz.prog 167 [va] I [] (fun v _ _ => v = .int .u64 (sumTo O O.length : Nat)) := by
  intro w hw
  refine enter1 _ Tryz.func167 rfl Tryz.ntmps167 rfl ?_ hw
  refine c_seq (c_region ?_)
  refine o_pv trivial rfl rfl ?_
  refine o_nil (then_c (c_seq (c_region ?_)))
  refine o_pv trivial rfl rfl ?_
  refine o_nil (then_c (c_seq (c_seq (c_region ?_))))
  refine o_pv trivial rfl rfl ?_
  refine o_lenW trivial rfl Tryz.underlying31 rfl (ha) ?_
  refine o_pv trivial rfl rfl ?_
  refine o_nil (then_c (c_block ?_))
  refine c_loop (ι := Nat) [6, 7] (.cons rfl (.cons rfl .nil)) (fun i => O.length - i) (fun i E0 => (3, .int .u64 (sumTo O i : Nat)) :: (8, .int .i64 (i : Int)) :: E0) (fun i => St w [] I []) (fun i => i ≤ O.length) (0) (sub_cons rfl (sub_cons rfl (sub_cons rfl (sub_cons rfl sub_nil)))) (fun _ h => h) (Nat.zero_le _) ?_
  rintro i hle
  try dsimp only
  have hlen := wcs_len O; have hs := sumTo_lt ha.wds i; have hd := dg_lt ha.wds i
  refine c_seq (c_region ?_)
  refine o_pv trivial rfl rfl ?_
  refine o_nil (then_c (c_seq ?_))
  refine c_cond rfl (fun h1 => ?_) (fun h1 => ?_)
  ·
   have f1 := h1
   try simp only [bl] at f1
   refine c_skip (then_c (c_seq (c_block (c_seq (c_region ?_)))))
   refine o_elemW trivial rfl Tryz.underlying31 Tryz.sizeOf95 rfl (ha) rfl (by omega) ?_
   refine o_load1I trivial rfl Tryz.isAgg95 rfl (ha.cellI (Int.toNat_natCast i) (by omega)) ?_
   refine o_pv trivial rfl rfl ?_
   refine o_nil (then_c (c_region ?_))
   iterate 2 refine o_pv trivial rfl rfl ?_
   first | refine o_convIn trivial rfl Tryz.underlying95 Tryz.underlying123 rfl (by rw [IntWalk.u64_in _ (by omega)]) ?_ | refine o_conv trivial rfl Tryz.underlying95 Tryz.underlying123 rfl ?_
   first | refine o_arA trivial rfl rfl rfl (by rw [IntWalk.u64_in _ (by omega)]) ?_ | refine o_pv trivial rfl rfl ?_
   refine o_pv trivial rfl rfl ?_
   refine o_nil (blk_n (then_c (c_region ?_)))
   first | (refine o_add trivial rfl rfl rfl ?_ ?_; (omega)) | refine o_pv trivial rfl rfl ?_
   refine o_pv trivial rfl rfl ?_
   refine o_nil ?_
   exact again (i + 1) (sub_cons rfl (sub_cons rfl (sub_cons rfl (sub_cons rfl sub_nil)))) (fun _ h => h) (by show O.length - (i + 1) < O.length - i; omega) (by omega)
  ·
   have f1 := h1
   try simp only [bl] at f1
   refine c_exit (then_x (then_x (blk_eq rfl (then_c (c_seq (c_region ?_))))))
   iterate 2 refine o_pv trivial rfl rfl ?_
   refine o_nil (then_c (c_ret ?_))
   refine ret1 rfl rfl ?_
   have e : i = O.length := by omega
   subst e
   exact leaf0 rfl
theorem parts_any (n : Nat) (h : n < 18446744073709551616) : PureC Tryz.prog 166 [.int .u64 (n : Int)] (.tuple #[.int .u32 ((n / 4294967296 : Nat) : Int), .int .u32 ((n % 4294967296 : Nat) : Int)]) := by
  intro w
  refine enter1 _ Tryz.func166 rfl Tryz.ntmps166 rfl ?_ (S := fun w1 => w1 = w) rfl
  refine c_seq (c_region ?_)
  iterate 2 refine o_pv trivial rfl rfl ?_
  refine o_nil (then_c (c_seq (c_region ?_)))
  refine o_pv trivial rfl rfl ?_
  refine o_shr 4294967296 trivial rfl rfl rfl (by decide) rfl (by omega) ?_
  refine o_convIn trivial rfl Tryz.underlying123 Tryz.underlying95 rfl (by rw [IntWalk.u32_in _ (by omega)]) ?_
  refine o_pv trivial rfl rfl ?_
  refine o_conv trivial rfl Tryz.underlying123 Tryz.underlying95 rfl ?_
  iterate 2 refine o_pv trivial rfl rfl ?_
  refine o_nil (then_c (c_ret ?_))
  refine ret2 rfl rfl rfl ?_
  exact fun _ hw => ⟨by rw [IntKind.wrap_u32]; rfl, hw⟩
theorem limbAdd_any (a b c : Nat) {I : Hp} (ha : a < 4294967296) (hb : b < 4294967296) (hc : c < 4294967296) : Fun Tryz.prog 165 [.int .u32 (a : Int), .int .u32 (b : Int), .int .u32 (c : Int)] I [] (fun v _ _ => v = .tuple #[.int .u32 (((a + b + c) % 4294967296 : Nat) : Int), .int .u32 (((a + b + c) / 4294967296 : Nat) : Int)]) := by
  intro w hw
  refine enter3 _ Tryz.func165 rfl Tryz.ntmps165 rfl ?_ hw
  refine c_seq (c_region ?_)
  iterate 2 refine o_pv trivial rfl rfl ?_
  refine o_nil (then_c (c_seq (c_region ?_)))
  iterate 3 refine o_pv trivial rfl rfl ?_
  refine o_buildSl trivial rfl Tryz.underlying31 Tryz.sizeOf95 Tryz.zeroValue95 (by decide) (by decide) rfl (by repeat first | exact rfl | constructor) rfl (fun b12 => ?_)
  refine l_sealW [a, b, c] Take.here (Wds_cons ha (Wds_cons hb (Wds_cons hc Wds_nil))) (by unfold maxLen; simp) (fun I1 hx1 hs1 => ?_)
  refine o_callQ trivial rfl Tryz.call167 rfl (wide_any _ _ hs1 (by simp)) ?_
  refine o_callP trivial rfl Tryz.call166 rfl (parts_any (sumTo [a, b, c] 3) (by simp [sumTo, dg]; omega)) ?_
  iterate 5 refine o_pv trivial rfl rfl ?_
  refine o_nil (then_c (c_seq (c_region ?_)))
  iterate 4 refine o_pv trivial rfl rfl ?_
  refine o_nil (then_c (c_ret ?_))
  refine ret2 rfl rfl rfl ?_
  refine leaf hx1 (List.nil_sublist _) ?_; simp [sumTo, dg, tup]
theorem limbMul_any (a b c d : Nat) {I : Hp} (ha : a < 4294967296) (hb : b < 4294967296) (hc : c < 4294967296) (hd : d < 4294967296) : Fun Tryz.prog 157 [.int .u32 (a : Int), .int .u32 (b : Int), .int .u32 (c : Int), .int .u32 (d : Int)] I [] (fun v _ _ => v = .tuple #[.int .u32 (((a * b + c + d) / 4294967296 : Nat) : Int), .int .u32 (((a * b + c + d) % 4294967296 : Nat) : Int)]) := by
  have hm : a * b ≤ 18446744065119617025 := Nat.mul_le_mul (show a ≤ 4294967295 by omega) (show b ≤ 4294967295 by omega)
  intro w hw
  refine enter4 _ Tryz.func157 rfl Tryz.ntmps157 rfl ?_ hw
  refine c_seq (c_region ?_)
  iterate 2 refine o_pv trivial rfl rfl ?_
  refine o_nil (then_c (c_seq (c_region ?_)))
  refine o_pv trivial rfl rfl ?_
  first | refine o_convIn trivial rfl Tryz.underlying95 Tryz.underlying123 rfl (by rw [IntWalk.u64_in _ (by omega)]) ?_ | refine o_conv trivial rfl Tryz.underlying95 Tryz.underlying123 rfl ?_
  refine o_pv trivial rfl rfl ?_
  first | refine o_convIn trivial rfl Tryz.underlying95 Tryz.underlying123 rfl (by rw [IntWalk.u64_in _ (by omega)]) ?_ | refine o_conv trivial rfl Tryz.underlying95 Tryz.underlying123 rfl ?_
  first | refine o_arM trivial rfl rfl rfl (by rw [IntWalk.u64_in _ (by rw [← Int.natCast_mul]; omega)]) ?_ | refine o_pv trivial rfl rfl ?_
  iterate 2 refine o_pv trivial rfl rfl ?_
  refine o_buildSl trivial rfl Tryz.underlying31 Tryz.sizeOf95 Tryz.zeroValue95 (by decide) (by decide) rfl (by repeat first | exact rfl | constructor) rfl (fun b17 => ?_)
  refine l_sealW [c, d] Take.here (Wds_cons hc (Wds_cons hd Wds_nil)) (by unfold maxLen; simp) (fun I1 hx1 hs1 => ?_)
  refine o_callQ trivial rfl Tryz.call167 rfl (wide_any _ _ hs1 (by simp)) ?_
  have hsum : sumTo [c, d] [c, d].length = c + d := by simp [sumTo, dg]
  rw [hsum]
  first | refine o_arA trivial rfl rfl rfl (by rw [IntWalk.u64_in _ (by rw [← Int.natCast_mul]; omega)]) ?_ | refine o_pv trivial rfl rfl ?_
  rw [show (a : Int) * (b : Int) + ((c + d : Nat) : Int) = ((a * b + c + d : Nat) : Int) by rw [← Int.natCast_mul]; omega]
  refine o_callP trivial rfl Tryz.call166 rfl (parts_any (a * b + c + d) (by omega)) ?_
  iterate 4 refine o_pv trivial rfl rfl ?_
  refine o_nil (then_c (c_ret ?_))
  refine ret2 rfl rfl rfl ?_
  refine leaf hx1 (List.nil_sublist _) ?_; rfl
theorem limbSub_any (a b c : Nat) {I : Hp} (ha : a < 4294967296) (hb : b < 4294967296) (hc : c < 4294967296) : Fun Tryz.prog 162 [.int .u32 (a : Int), .int .u32 (b : Int), .int .u32 (c : Int)] I [] (fun v _ _ => ∃ s k : Nat, v = .tuple #[.int .u32 (s : Int), .int .u32 (k : Int)] ∧ s < 4294967296 ∧ k < 4294967296 ∧ s + b + c = a + 4294967296 * k) := by
  intro w hw
  refine enter3 _ Tryz.func162 rfl Tryz.ntmps162 rfl ?_ hw
  refine c_seq (c_region ?_)
  iterate 2 refine o_pv trivial rfl rfl ?_
  refine o_nil (then_c (c_seq (c_region ?_)))
  iterate 2 refine o_pv trivial rfl rfl ?_
  refine o_buildSl trivial rfl Tryz.underlying31 Tryz.sizeOf95 Tryz.zeroValue95 (by decide) (by decide) rfl (by repeat first | exact rfl | constructor) rfl (fun b13 => ?_)
  refine l_sealW [b, c] Take.here (Wds_cons hb (Wds_cons hc Wds_nil)) (by unfold maxLen; simp) (fun I1 hx1 hs1 => ?_)
  refine o_callQ trivial rfl Tryz.call167 rfl (wide_any _ _ hs1 (by simp)) ?_
  refine o_pv trivial rfl rfl ?_
  refine o_nil (then_c (c_seq ?_))
  have hsum : sumTo [b, c] [b, c].length = b + c := by simp [sumTo, dg]
  rw [hsum]
  refine c_region ?_
  refine o_pv trivial rfl rfl ?_
  first | refine o_convIn trivial rfl Tryz.underlying95 Tryz.underlying123 rfl (by rw [IntWalk.u64_in _ (by omega)]) ?_ | refine o_conv trivial rfl Tryz.underlying95 Tryz.underlying123 rfl ?_
  refine o_pv trivial rfl rfl ?_
  first | refine o_arS trivial rfl rfl rfl (by rw [IntWalk.u64_in _ (by skip; fail)]) ?_ | refine o_pv trivial rfl rfl ?_
  refine o_conv trivial rfl Tryz.underlying123 Tryz.underlying95 rfl ?_
  refine o_pv trivial rfl rfl ?_
  refine o_nil (then_c (c_seq ?_))
  obtain ⟨s, hs⟩ : ∃ s : Nat, IntKind.u32.wrap (IntKind.u64.wrap ((a : Int) - ((b + c : Nat) : Int))) = s := ⟨_, (Int.toNat_of_nonneg (by rw [IntKind.wrap_u32]; omega)).symm⟩
  rw [hs]
  rw [IntKind.wrap_u32, IntKind.wrap_u64] at hs
  have hsl : s < 4294967296 := by omega
  refine c_region ?_
  refine o_pv trivial rfl rfl ?_
  refine o_buildSl trivial rfl Tryz.underlying31 Tryz.sizeOf95 Tryz.zeroValue95 (by decide) (by decide) rfl (by repeat first | exact rfl | constructor) rfl (fun b22 => ?_)
  refine l_sealW [s] Take.here (Wds_cons hsl Wds_nil) (by unfold maxLen; simp) (fun I2 hx2 hs2 => ?_)
  refine o_callQ trivial rfl Tryz.call167 rfl (wide_any _ _ hs2 (by simp)) ?_
  refine o_pv trivial rfl rfl ?_
  rw [show ((sumTo [s] [s].length : Nat) : Int) = (s : Int) by simp [sumTo, dg]]
  first | refine o_arA trivial rfl rfl rfl (by rw [IntWalk.u64_in _ (by omega)]) ?_ | refine o_pv trivial rfl rfl ?_
  rw [show (s : Int) + ((b + c : Nat) : Int) = ((s + b + c : Nat) : Int) by omega]
  refine o_callP trivial rfl Tryz.call166 rfl (parts_any (s + b + c) (by omega)) ?_
  iterate 5 refine o_pv trivial rfl rfl ?_
  refine o_nil (then_c (c_seq (c_region ?_)))
  iterate 4 refine o_pv trivial rfl rfl ?_
  refine o_nil (then_c (c_ret ?_))
  refine ret2 rfl rfl rfl ?_
  refine leaf (hx1.trans hx2 (Nat.le_refl _)) (List.nil_sublist _) ⟨s, (s + b + c) / 4294967296, rfl, hsl, by omega, ?_⟩; omega
theorem cast_div (p q d : Nat) : ((p : Int) * 4294967296 + (q : Int)) / (d : Int) = (((p * 4294967296 + q) / d : Nat) : Int) := by rw [Int.natCast_ediv, Int.natCast_add, Int.natCast_mul]; rfl
theorem cast_mod (p q d : Nat) : ((p : Int) * 4294967296 + (q : Int)) % (d : Int) = (((p * 4294967296 + q) % d : Nat) : Int) := by rw [Int.natCast_emod, Int.natCast_add, Int.natCast_mul]; rfl
theorem limbDiv_ok (p q d : Nat) {I : Hp} (h : p < d) (hd : d < 4294967296) (hq : q < 4294967296) : Fun Tryz.prog 152 [.int .u32 (p : Int), .int .u32 (q : Int), .int .u32 (d : Int)] I [] (fun v _ _ => v = .tuple #[.int .u32 (((p * 4294967296 + q) / d : Nat) : Int), .int .u32 (((p * 4294967296 + q) % d : Nat) : Int), .bool true]) := by
  have hlt := two_step h hq
  have hm : (p * 4294967296 + q) % d < d := Nat.mod_lt _ (by omega)
  have e1 := cast_div p q d
  have e2 := cast_mod p q d
  generalize (p * 4294967296 + q) / d = s at *
  generalize (p * 4294967296 + q) % d = r at *
  intro w hw
  refine enter3 _ Tryz.func152 rfl Tryz.ntmps152 rfl ?_ hw
  refine c_seq (c_region ?_)
  iterate 3 refine o_pv trivial rfl rfl ?_
  refine o_nil (then_c (c_seq (c_seq (c_region ?_))))
  iterate 3 refine o_pv trivial rfl rfl ?_
  refine o_nil (then_c ?_)
  refine c_cond rfl (fun h1 => ?_) (fun h1 => ?_)
  ·
   have f1 := h1
   try simp only [bl] at f1
   exfalso; omega
  ·
   have f1 := h1
   try simp only [bl] at f1
   refine c_skip (then_c (c_seq (c_region ?_)))
   refine o_pv trivial rfl rfl ?_
   first | refine o_convIn trivial rfl Tryz.underlying95 Tryz.underlying123 rfl (by rw [IntWalk.u64_in _ (by omega)]) ?_ | refine o_conv trivial rfl Tryz.underlying95 Tryz.underlying123 rfl ?_
   refine o_shl 4294967296 trivial rfl rfl rfl (by decide) rfl (by rw [IntWalk.u64_in _ (by omega)]) ?_
   refine o_pv trivial rfl rfl ?_
   first | refine o_convIn trivial rfl Tryz.underlying95 Tryz.underlying123 rfl (by rw [IntWalk.u64_in _ (by omega)]) ?_ | refine o_conv trivial rfl Tryz.underlying95 Tryz.underlying123 rfl ?_
   refine o_orHL trivial rfl rfl rfl (by omega) (by omega) ?_
   refine o_pv trivial rfl rfl ?_
   refine o_nil (then_c (c_seq ?_))
   refine c_quiet (by kernel_rfl) (by kernel_rfl) (fun _ h => h.drawn) ?_
   iterate 2 refine o_pv trivial rfl rfl ?_
   first | refine o_convIn trivial rfl Tryz.underlying95 Tryz.underlying123 rfl (by rw [IntWalk.u64_in _ (by omega)]) ?_ | refine o_conv trivial rfl Tryz.underlying95 Tryz.underlying123 rfl ?_
   refine o_quo trivial rfl rfl rfl (by omega) (by rw [e1, IntWalk.u64_in _ (by omega)]) ?_
   refine o_convIn trivial rfl Tryz.underlying123 Tryz.underlying95 rfl (by rw [e1, IntWalk.u32_in _ (by omega)]) ?_
   iterate 2 refine o_pv trivial rfl rfl ?_
   first | refine o_convIn trivial rfl Tryz.underlying95 Tryz.underlying123 rfl (by rw [IntWalk.u64_in _ (by omega)]) ?_ | refine o_conv trivial rfl Tryz.underlying95 Tryz.underlying123 rfl ?_
   refine o_rem trivial rfl rfl rfl (by omega) ?_
   refine o_convIn trivial rfl Tryz.underlying123 Tryz.underlying95 rfl (by rw [e2, IntWalk.u32_in _ (by omega)]) ?_
   iterate 3 refine o_pv trivial rfl rfl ?_
   refine o_nil (then_c (c_ret ?_))
   refine ret3 rfl rfl rfl rfl ?_
   refine leaf0 ?_; rw [e1, e2]
theorem limbDiv_no (p q d : Nat) {I : Hp} (h : d ≤ p) : Fun Tryz.prog 152 [.int .u32 (p : Int), .int .u32 (q : Int), .int .u32 (d : Int)] I [] (fun v _ _ => v = .tuple #[.int .u32 0, .int .u32 0, .bool false]) := by
  intro w hw
  refine enter3 _ Tryz.func152 rfl Tryz.ntmps152 rfl ?_ hw
  refine c_seq (c_region ?_)
  iterate 3 refine o_pv trivial rfl rfl ?_
  refine o_nil (then_c (c_seq (c_seq (c_region ?_))))
  iterate 3 refine o_pv trivial rfl rfl ?_
  refine o_nil (then_c ?_)
  refine c_cond rfl (fun h1 => ?_) (fun h1 => ?_)
  ·
   have f1 := h1
   try simp only [bl] at f1
   refine c_seq (c_region ?_)
   iterate 3 refine o_pv trivial rfl rfl ?_
   refine o_nil (then_c (c_ret (then_r ?_)))
   refine ret3 rfl rfl rfl rfl ?_
   exact leaf0 rfl
  ·
   have f1 := h1
   try simp only [bl] at f1
   exfalso; omega
def divQ (p q d : Nat) : Nat := if p < d then (p * 4294967296 + q) / d else 0
def divR (p q d : Nat) : Nat := if p < d then (p * 4294967296 + q) % d else 0
theorem limbDiv_any (p q d : Nat) {I : Hp} (hd : d < 4294967296) (hq : q < 4294967296) : Fun Tryz.prog 152 [.int .u32 (p : Int), .int .u32 (q : Int), .int .u32 (d : Int)] I [] (fun v _ _ => v = .tuple #[.int .u32 (divQ p q d : Nat), .int .u32 (divR p q d : Nat), .bool (decide (p < d))]) := by
  unfold divQ divR
  rcases Nat.lt_or_ge p d with h | h
  · rw [if_pos h, if_pos h, decide_eq_true h]; exact limbDiv_ok p q d h hd hq
  · rw [if_neg (by omega), if_neg (by omega), decide_eq_false (by omega)]; exact limbDiv_no p q d h
theorem limbLow_any (va : Value) (O : List Nat) {I : Hp} (ha : Ws I va O) (hs : O.length ≤ 1000000000) : Fun Tryz.prog 126 [va] I [] (fun v _ _ => v = .int .i64 (lowL O : Nat)) := by
  have hlen := wcs_len O
  intro w hw
  refine enter1 _ Tryz.func126 rfl Tryz.ntmps126 rfl ?_ hw
  refine c_seq (c_region ?_)
  refine o_pv trivial rfl rfl ?_
  refine o_nil (then_c (c_seq (c_region ?_)))
  refine o_pv trivial rfl rfl ?_
  refine o_lenW trivial rfl Tryz.underlying31 rfl (ha) ?_
  refine o_pv trivial rfl rfl ?_
  refine o_nil (then_c (c_seq (c_block ?_)))
  refine c_loop (ι := Nat) [0] (.cons rfl .nil) (fun i => i) (fun i E0 => (3, .int .i64 (i : Int)) :: E0) (fun i => St w [] I []) (fun i => i ≤ O.length ∧ low O i = lowL O) (O.length) (sub_cons rfl (sub_cons rfl sub_nil)) (fun _ h => h) (⟨Nat.le_refl _, rfl⟩) ?_
  rintro i ⟨hle, hlow⟩
  try dsimp only
  refine c_seq (c_seq (c_region ?_))
  iterate 2 refine o_pv trivial rfl rfl ?_
  refine' o_and trivial trivial rfl rfl rfl rfl rfl rfl rfl rfl (fun hb8 => ?_) ?_
  rotate_left
  ·
   have fb8 := hb8
   try simp only [bl] at fb8
   iterate 2 refine o_pv (wants_some rfl rfl hb8) rfl rfl ?_
   first | (refine o_sub (wants_some rfl rfl hb8) rfl rfl rfl ?_ ?_; (omega)) | refine o_pv (wants_some rfl rfl hb8) rfl rfl ?_
   refine o_elemW (wants_some rfl rfl hb8) rfl Tryz.underlying31 Tryz.sizeOf95 rfl (ha) rfl (by omega) ?_
   refine o_load1I (wants_some rfl rfl hb8) rfl Tryz.isAgg95 rfl (ha.cellI (k := i - 1) (by omega) (by omega)) ?_
   refine o_pv (wants_some rfl rfl hb8) rfl rfl ?_
   refine o_nil ?_
   exact joins rfl
  refine o_nil (then_c ?_)
  refine c_cond rfl (fun h1 => ?_) (fun h1 => ?_)
  ·
   have f1 := h1
   try simp only [bl] at f1
   have hi : low O i = low O (i - 1) := by
     obtain ⟨j, rfl⟩ : ∃ j, i = j + 1 := ⟨i - 1, by omega⟩
     rw [low, if_pos (by have := f1.2; rw [Nat.add_sub_cancel] at this; omega), Nat.add_sub_cancel]
   rw [show (i : Int) = ((i - 1 : Nat) : Int) + 1 by omega]
   refine c_skip (then_c (c_block (c_region ?_)))
   refine o_pv trivial rfl rfl ?_
   refine o_sub trivial rfl rfl rfl (by omega) ?_
   rw [show ((i - 1 : Nat) : Int) + 1 - 1 = ((i - 1 : Nat) : Int) by omega]
   refine o_pv trivial rfl rfl ?_
   refine o_nil (blk_n ?_)
   exact again (i - 1) (sub_cons rfl (sub_cons rfl sub_nil)) (fun _ h => h) (by show i - 1 < i; omega) ⟨by omega, by rw [← hi]; exact hlow⟩
  ·
   have f1 := h1
   try simp only [bl] at f1
   have hi : lowL O = i := by
     rcases Nat.eq_zero_or_pos i with h0 | h0
     · subst h0; rw [← hlow]; rfl
     · obtain ⟨j, rfl⟩ : ∃ j, i = j + 1 := ⟨i - 1, by omega⟩
       rw [← hlow, low, if_neg (by rcases f1 with f1 | f1
                                   · omega
                                   · rw [Nat.add_sub_cancel] at f1; omega)]
   refine c_exit (then_x (then_x (blk_eq rfl (then_c (c_seq (c_region ?_))))))
   iterate 2 refine o_pv trivial rfl rfl ?_
   refine o_nil (then_c (c_ret ?_))
   refine ret1 rfl rfl ?_
   refine leaf0 ?_; rw [hi]
theorem bitZ_div {n k : Nat} (h : 2 ^ k ≤ n) : bitZ n = k + bitZ (n / 2 ^ k) := by
  have hp : 0 < 2 ^ k := Nat.pow_pos (by decide)
  have h0 : 0 < n / 2 ^ k := Nat.div_pos h hp
  have h1 := bitZ_lt (n / 2 ^ k)
  have h2 := bitZ_le (n := n / 2 ^ k) (by omega)
  have h3 : 0 < bitZ (n / 2 ^ k) := Nat.pos_of_ne_zero fun e => by have := bitZ_zero.1 e; omega
  obtain ⟨j, hj⟩ : ∃ j, bitZ (n / 2 ^ k) = j + 1 := ⟨bitZ (n / 2 ^ k) - 1, by omega⟩
  rw [hj] at h1 h2 ⊢
  rw [Nat.add_sub_cancel] at h2
  rw [show k + (j + 1) = (k + j) + 1 by omega]
  refine bitZ_eq ?_ ?_
  · rw [Nat.pow_add, Nat.mul_comm]
    have := Nat.mul_le_mul_right (2 ^ k) h2
    have h4 := Nat.div_mul_le_self n (2 ^ k)
    omega
  · rw [show k + j + 1 = (j + 1) + k by omega, Nat.pow_add]
    exact (Nat.div_lt_iff_lt_mul hp).1 h1
theorem bitZ_div' {n k m : Nat} (hm : 2 ^ k = m) (h : m ≤ n) : bitZ n = k + bitZ (n / m) := by subst hm; exact bitZ_div h
theorem len_leaf {tab : ByteArray} (h : ∀ k, k < 256 → (tab.get! k).toNat = bitZ k) {x : Int} (k : Nat) (hx : x.toNat = k) (hk : k < 256) : (((tab.get! x.toNat).toNat : Nat) : Int) = (bitZ k : Nat) := by subst hx; rw [h _ hk]
theorem len32_any (n : Nat) {I : Hp} (h : n < 4294967296) : Fun Tryz.prog 147 [.int .u32 (n : Int)] I [] (fun v _ _ => v = .int .i64 (bitZ n : Nat)) := by
  intro w hw
  refine enter1 _ Tryz.func147 rfl Tryz.ntmps147 rfl ?_ hw
  refine c_seq (c_region ?_)
  refine o_pv trivial rfl rfl ?_
  refine o_nil (then_c (c_seq (c_seq (c_region ?_))))
  iterate 2 refine o_pv trivial rfl rfl ?_
  refine o_nil (then_c ?_)
  refine c_cond rfl (fun h1 => ?_) (fun h1 => ?_)
  ·
   have f1 := h1
   try simp only [bl] at f1
   refine c_seq (c_region ?_)
   refine o_pv trivial rfl rfl ?_
   refine o_shr 65536 trivial rfl rfl rfl (by decide) rfl (by omega) ?_
   refine o_pv trivial rfl rfl ?_
   refine o_nil (then_c (c_region ?_))
   refine o_pv trivial rfl rfl ?_
   refine o_nil (then_c (c_seq (c_seq (c_region ?_))))
   iterate 2 refine o_pv trivial rfl rfl ?_
   refine o_nil (then_c ?_)
   refine c_cond rfl (fun h2 => ?_) (fun h2 => ?_)
   ·
    have f2 := h2
    try simp only [bl] at f2
    refine c_seq (c_region ?_)
    refine o_pv trivial rfl rfl ?_
    refine o_shr 256 trivial rfl rfl rfl (by decide) rfl (by omega) ?_
    refine o_pv trivial rfl rfl ?_
    refine o_nil (then_c (c_region ?_))
    refine o_pv trivial rfl rfl ?_
    first | (refine o_add trivial rfl rfl rfl ?_ ?_; (omega)) | refine o_pv trivial rfl rfl ?_
    refine o_pv trivial rfl rfl ?_
    refine o_nil (then_c (c_seq (c_region ?_)))
    iterate 2 refine o_pv trivial rfl rfl ?_
    refine o_convIn trivial rfl Tryz.underlying95 Tryz.underlying5 rfl (by rw [IntWalk.u8_in _ (by omega)]) ?_
    refine o_idxS trivial rfl Tryz.underlying9 rfl rfl (by exact ⟨by omega, Int.lt_of_lt_of_le (b := 256) (by omega) (by decide +kernel)⟩) ?_
    first | refine o_convIn trivial rfl Tryz.underlying5 Tryz.underlying3 rfl (by rw [IntWalk.i64_in _ (by omega)]) ?_ | refine o_conv trivial rfl Tryz.underlying5 Tryz.underlying3 rfl ?_
    first | (refine o_add trivial rfl rfl rfl ?_ ?_; (omega)) | refine o_pv trivial rfl rfl ?_
    refine o_pv trivial rfl rfl ?_
    refine o_nil (then_c (c_ret ?_))
    refine ret1 rfl rfl ?_
    refine leaf0 (congrArg (Value.int .i64) ?_); rw [len_leaf (by decide +kernel) (n / 65536 / 256) (by omega) (by omega), bitZ_div' (n := n) (k := 16) (m := 65536) rfl (by omega), bitZ_div' (n := n / 65536) (k := 8) (m := 256) rfl (by omega)]; have hb : bitZ (n / 65536 / 256) ≤ 8 := bitZ_le_of (by omega); rw [IntKind.wrap_i64, IntKind.wrap_i64]; omega
   ·
    have f2 := h2
    try simp only [bl] at f2
    refine c_skip (then_c (c_seq (c_region ?_)))
    iterate 2 refine o_pv trivial rfl rfl ?_
    refine o_convIn trivial rfl Tryz.underlying95 Tryz.underlying5 rfl (by rw [IntWalk.u8_in _ (by omega)]) ?_
    refine o_idxS trivial rfl Tryz.underlying9 rfl rfl (by exact ⟨by omega, Int.lt_of_lt_of_le (b := 256) (by omega) (by decide +kernel)⟩) ?_
    first | refine o_convIn trivial rfl Tryz.underlying5 Tryz.underlying3 rfl (by rw [IntWalk.i64_in _ (by omega)]) ?_ | refine o_conv trivial rfl Tryz.underlying5 Tryz.underlying3 rfl ?_
    first | (refine o_add trivial rfl rfl rfl ?_ ?_; (omega)) | refine o_pv trivial rfl rfl ?_
    refine o_pv trivial rfl rfl ?_
    refine o_nil (then_c (c_ret ?_))
    refine ret1 rfl rfl ?_
    refine leaf0 (congrArg (Value.int .i64) ?_); rw [len_leaf (by decide +kernel) (n / 65536) (by omega) (by omega), bitZ_div' (n := n) (k := 16) (m := 65536) rfl (by omega)]; have hb : bitZ (n / 65536) ≤ 8 := bitZ_le_of (by omega); rw [IntKind.wrap_i64, IntKind.wrap_i64]; omega
  ·
   have f1 := h1
   try simp only [bl] at f1
   refine c_skip (then_c (c_seq (c_seq (c_region ?_))))
   iterate 2 refine o_pv trivial rfl rfl ?_
   refine o_nil (then_c ?_)
   refine c_cond rfl (fun h2 => ?_) (fun h2 => ?_)
   ·
    have f2 := h2
    try simp only [bl] at f2
    refine c_seq (c_region ?_)
    refine o_pv trivial rfl rfl ?_
    refine o_shr 256 trivial rfl rfl rfl (by decide) rfl (by omega) ?_
    refine o_pv trivial rfl rfl ?_
    refine o_nil (then_c (c_region ?_))
    refine o_pv trivial rfl rfl ?_
    first | (refine o_add trivial rfl rfl rfl ?_ ?_; (omega)) | refine o_pv trivial rfl rfl ?_
    refine o_pv trivial rfl rfl ?_
    refine o_nil (then_c (c_seq (c_region ?_)))
    iterate 2 refine o_pv trivial rfl rfl ?_
    refine o_convIn trivial rfl Tryz.underlying95 Tryz.underlying5 rfl (by rw [IntWalk.u8_in _ (by omega)]) ?_
    refine o_idxS trivial rfl Tryz.underlying9 rfl rfl (by exact ⟨by omega, Int.lt_of_lt_of_le (b := 256) (by omega) (by decide +kernel)⟩) ?_
    first | refine o_convIn trivial rfl Tryz.underlying5 Tryz.underlying3 rfl (by rw [IntWalk.i64_in _ (by omega)]) ?_ | refine o_conv trivial rfl Tryz.underlying5 Tryz.underlying3 rfl ?_
    first | (refine o_add trivial rfl rfl rfl ?_ ?_; (omega)) | refine o_pv trivial rfl rfl ?_
    refine o_pv trivial rfl rfl ?_
    refine o_nil (then_c (c_ret ?_))
    refine ret1 rfl rfl ?_
    refine leaf0 (congrArg (Value.int .i64) ?_); rw [len_leaf (by decide +kernel) (n / 256) (by omega) (by omega), bitZ_div' (n := n) (k := 8) (m := 256) rfl (by omega)]; have hb : bitZ (n / 256) ≤ 8 := bitZ_le_of (by omega); rw [IntKind.wrap_i64, IntKind.wrap_i64]; omega
   ·
    have f2 := h2
    try simp only [bl] at f2
    refine c_skip (then_c (c_seq (c_region ?_)))
    iterate 2 refine o_pv trivial rfl rfl ?_
    refine o_convIn trivial rfl Tryz.underlying95 Tryz.underlying5 rfl (by rw [IntWalk.u8_in _ (by omega)]) ?_
    refine o_idxS trivial rfl Tryz.underlying9 rfl rfl (by exact ⟨by omega, Int.lt_of_lt_of_le (b := 256) (by omega) (by decide +kernel)⟩) ?_
    first | refine o_convIn trivial rfl Tryz.underlying5 Tryz.underlying3 rfl (by rw [IntWalk.i64_in _ (by omega)]) ?_ | refine o_conv trivial rfl Tryz.underlying5 Tryz.underlying3 rfl ?_
    first | (refine o_add trivial rfl rfl rfl ?_ ?_; (omega)) | refine o_pv trivial rfl rfl ?_
    refine o_pv trivial rfl rfl ?_
    refine o_nil (then_c (c_ret ?_))
    refine ret1 rfl rfl ?_
    refine leaf0 (congrArg (Value.int .i64) ?_); rw [len_leaf (by decide +kernel) n (by omega) (by omega)]; have hb : bitZ (n) ≤ 8 := bitZ_le_of (by omega); rw [IntKind.wrap_i64, IntKind.wrap_i64]; omega
theorem limbBits_any (n : Nat) {I : Hp} (h : n < 4294967296) : Fun Tryz.prog 127 [.int .u32 (n : Int)] I [] (fun v _ _ => v = .int .i64 (bitZ n : Nat)) := by
  intro w hw
  refine enter1 _ Tryz.func127 rfl Tryz.ntmps127 rfl ?_ hw
  refine c_seq (c_region ?_)
  refine o_pv trivial rfl rfl ?_
  refine o_nil (then_c (c_seq (c_region ?_)))
  refine o_pv trivial rfl rfl ?_
  refine o_callQ trivial rfl Tryz.call147 rfl (len32_any n h) ?_
  refine o_pv trivial rfl rfl ?_
  refine o_nil (then_c (c_ret ?_))
  refine ret1 rfl rfl ?_
  exact leaf0 rfl
end Go.Proofs.YtjgbjaaekknenaaGreat
/-
  Layer 2 of the program: natural numbers.
-/
namespace Go.Proofs.YtjgbjaaekknenaaGreat
open Go Go.Tw
set_option linter.unusedVariables false
set_option linter.unusedSimpArgs false
set_option linter.unnecessarySimpa false
set_option maxHeartbeats 1000000
/-- Words of a box are handed back. -/
theorem leafW {w : World} {I0 I : Hp} {B B' : List Tw.Item} {b : Nat} (O : List Nat) {T : TypeId} {fz : Nat × Nat} {R : Value → Hp → List Tw.Item → Prop} {v : Value} (he : Ext w.heap.size I0 I) (hw : Wds O) (hm : O.length ≤ maxLen) (ht : Take (.box b (.cells (wl O).toArray T fz)) B B')
    (h : ∀ I', Ws I' (.slice (some ⟨b, 0, none⟩) O.length O.length) O → R v I' []) : ∀ w', St w [] I B w' → Post w [] I0 R v w' := fun w' hw' => by
  obtain ⟨I', h1, h2, h3⟩ := hw'.sealBox ht
  exact ⟨I', [], h1.drop (List.nil_sublist _), he.trans h2 (Nat.le_refl _), h I' (Ws.of_box h3 hw hm (Nat.le_refl _))⟩
def cmpZ (x y : Int) : Int := if x < y then -1 else if x > y then 1 else 0
theorem isNaNi_any (x : Int) : PureC Tryz.prog 175 [.int .i64 x] (.bool false) := by
  intro w
  refine enter1 _ Tryz.func175 rfl Tryz.ntmps175 rfl ?_ (S := fun w1 => w1 = w) rfl
  refine c_seq (c_region ?_)
  refine o_pv trivial rfl rfl ?_
  refine o_nil (then_c (c_seq (c_region ?_)))
  iterate 4 refine o_pv trivial rfl rfl ?_
  refine o_nil (then_c (c_ret ?_))
  refine ret1 rfl rfl ?_
  exact fun _ hw => ⟨by simp, hw⟩
theorem isNaNu_any (x : Int) : PureC Tryz.prog 176 [.int .u32 x] (.bool false) := by
  intro w
  refine enter1 _ Tryz.func176 rfl Tryz.ntmps176 rfl ?_ (S := fun w1 => w1 = w) rfl
  refine c_seq (c_region ?_)
  refine o_pv trivial rfl rfl ?_
  refine o_nil (then_c (c_seq (c_region ?_)))
  iterate 4 refine o_pv trivial rfl rfl ?_
  refine o_nil (then_c (c_ret ?_))
  refine ret1 rfl rfl ?_
  exact fun _ hw => ⟨by simp, hw⟩
theorem compareI_any (x y : Int) : PureC Tryz.prog 172 [.int .i64 x, .int .i64 y] (.int .i64 (cmpZ x y)) := by
  intro w
  refine enter2 _ Tryz.func172 rfl Tryz.ntmps172 rfl ?_ (S := fun w1 => w1 = w) rfl
  refine c_seq (c_region ?_)
  refine o_pv trivial rfl rfl ?_
  refine o_nil (then_c (c_seq (c_region ?_)))
  refine o_pv trivial rfl rfl ?_
  refine o_callP trivial rfl Tryz.call175 rfl (isNaNi_any _) ?_
  refine o_pv trivial rfl rfl ?_
  refine o_nil (then_c (c_seq (c_region ?_)))
  refine o_pv trivial rfl rfl ?_
  refine o_callP trivial rfl Tryz.call175 rfl (isNaNi_any _) ?_
  refine o_pv trivial rfl rfl ?_
  refine o_nil (then_c (c_seq (c_seq (c_region ?_))))
  refine o_pv trivial rfl rfl ?_
  refine o_nil (then_c ?_)
  refine c_cond rfl (fun h1 => ?_) (fun h1 => ?_)
  ·
   have f1 := h1
   try simp only [bl] at f1
   exfalso; cases h1
  ·
   have f1 := h1
   try simp only [bl] at f1
   refine c_skip (then_c (c_seq (c_seq (c_region ?_))))
   refine o_pv trivial rfl rfl ?_
   refine o_nil (then_c ?_)
   refine c_cond rfl (fun h3 => ?_) (fun h3 => ?_)
   ·
    have f3 := h3
    try simp only [bl] at f3
    exfalso; cases h3
   ·
    have f3 := h3
    try simp only [bl] at f3
    refine c_skip (then_c (c_seq (c_seq (c_region ?_))))
    iterate 3 refine o_pv trivial rfl rfl ?_
    refine o_nil (then_c ?_)
    refine c_cond rfl (fun h4 => ?_) (fun h4 => ?_)
    ·
     have f4 := h4
     try simp only [bl] at f4
     refine c_seq (c_region ?_)
     refine o_pv trivial rfl rfl ?_
     refine o_nil (then_c (c_ret (then_r ?_)))
     refine ret1 rfl rfl ?_
     exact fun _ hw => ⟨by unfold cmpZ; rw [if_pos f4], hw⟩
    ·
     have f4 := h4
     try simp only [bl] at f4
     refine c_skip (then_c (c_seq (c_seq (c_region ?_))))
     iterate 3 refine o_pv trivial rfl rfl ?_
     refine o_nil (then_c ?_)
     refine c_cond rfl (fun h5 => ?_) (fun h5 => ?_)
     ·
      have f5 := h5
      try simp only [bl] at f5
      refine c_seq (c_region ?_)
      refine o_pv trivial rfl rfl ?_
      refine o_nil (then_c (c_ret (then_r ?_)))
      refine ret1 rfl rfl ?_
      exact fun _ hw => ⟨by unfold cmpZ; rw [if_neg (by omega), if_pos f5], hw⟩
     ·
      have f5 := h5
      try simp only [bl] at f5
      refine c_skip (then_c (c_seq (c_region ?_)))
      refine o_pv trivial rfl rfl ?_
      refine o_nil (then_c (c_ret ?_))
      refine ret1 rfl rfl ?_
      exact fun _ hw => ⟨by unfold cmpZ; rw [if_neg (by omega), if_neg (by omega)], hw⟩
theorem compareU_any (x y : Int) : PureC Tryz.prog 173 [.int .u32 x, .int .u32 y] (.int .i64 (cmpZ x y)) := by
  intro w
  refine enter2 _ Tryz.func173 rfl Tryz.ntmps173 rfl ?_ (S := fun w1 => w1 = w) rfl
  refine c_seq (c_region ?_)
  refine o_pv trivial rfl rfl ?_
  refine o_nil (then_c (c_seq (c_region ?_)))
  refine o_pv trivial rfl rfl ?_
  refine o_callP trivial rfl Tryz.call176 rfl (isNaNu_any _) ?_
  refine o_pv trivial rfl rfl ?_
  refine o_nil (then_c (c_seq (c_region ?_)))
  refine o_pv trivial rfl rfl ?_
  refine o_callP trivial rfl Tryz.call176 rfl (isNaNu_any _) ?_
  refine o_pv trivial rfl rfl ?_
  refine o_nil (then_c (c_seq (c_seq (c_region ?_))))
  refine o_pv trivial rfl rfl ?_
  refine o_nil (then_c ?_)
  refine c_cond rfl (fun h1 => ?_) (fun h1 => ?_)
  ·
   have f1 := h1
   try simp only [bl] at f1
   exfalso; cases h1
  ·
   have f1 := h1
   try simp only [bl] at f1
   refine c_skip (then_c (c_seq (c_seq (c_region ?_))))
   refine o_pv trivial rfl rfl ?_
   refine o_nil (then_c ?_)
   refine c_cond rfl (fun h3 => ?_) (fun h3 => ?_)
   ·
    have f3 := h3
    try simp only [bl] at f3
    exfalso; cases h3
   ·
    have f3 := h3
    try simp only [bl] at f3
    refine c_skip (then_c (c_seq (c_seq (c_region ?_))))
    iterate 3 refine o_pv trivial rfl rfl ?_
    refine o_nil (then_c ?_)
    refine c_cond rfl (fun h4 => ?_) (fun h4 => ?_)
    ·
     have f4 := h4
     try simp only [bl] at f4
     refine c_seq (c_region ?_)
     refine o_pv trivial rfl rfl ?_
     refine o_nil (then_c (c_ret (then_r ?_)))
     refine ret1 rfl rfl ?_
     exact fun _ hw => ⟨by unfold cmpZ; rw [if_pos f4], hw⟩
    ·
     have f4 := h4
     try simp only [bl] at f4
     refine c_skip (then_c (c_seq (c_seq (c_region ?_))))
     iterate 3 refine o_pv trivial rfl rfl ?_
     refine o_nil (then_c ?_)
     refine c_cond rfl (fun h5 => ?_) (fun h5 => ?_)
     ·
      have f5 := h5
      try simp only [bl] at f5
      refine c_seq (c_region ?_)
      refine o_pv trivial rfl rfl ?_
      refine o_nil (then_c (c_ret (then_r ?_)))
      refine ret1 rfl rfl ?_
      exact fun _ hw => ⟨by unfold cmpZ; rw [if_neg (by omega), if_pos f5], hw⟩
     ·
      have f5 := h5
      try simp only [bl] at f5
      refine c_skip (then_c (c_seq (c_region ?_)))
      refine o_pv trivial rfl rfl ?_
      refine o_nil (then_c (c_ret ?_))
      refine ret1 rfl rfl ?_
      exact fun _ hw => ⟨by unfold cmpZ; rw [if_neg (by omega), if_neg (by omega)], hw⟩
theorem cmpZ_zero {x y : Int} (h : cmpZ x y = 0) : x = y := by unfold cmpZ at h; split at h <;> (try split at h) <;> omega
theorem natRight_any (va : Value) (O : List Nat) {I : Hp} (ha : Ws I va O) (hs : O.length ≤ 1000000000) : Fun Tryz.prog 153 [va] I [] (fun v _ _ => v = .bool (decide (lowL O = O.length))) := by
  intro w hw
  refine enter1 _ Tryz.func153 rfl Tryz.ntmps153 rfl ?_ hw
  refine c_seq (c_region ?_)
  refine o_pv trivial rfl rfl ?_
  refine o_nil (then_c (c_seq (c_region ?_)))
  refine o_pv trivial rfl rfl ?_
  refine o_callQ trivial rfl Tryz.call126 rfl (limbLow_any _ _ ha (by omega)) ?_
  refine o_pv trivial rfl rfl ?_
  refine o_lenW trivial rfl Tryz.underlying31 rfl (ha) ?_
  iterate 2 refine o_pv trivial rfl rfl ?_
  refine o_nil (then_c (c_ret ?_))
  refine ret1 rfl rfl ?_
  refine leaf0 (congrArg Value.bool ?_); rw [Bool.eq_iff_iff, beq_iff_eq, decide_eq_true_eq]; omega
theorem natTrim_any (va : Value) (O : List Nat) {I : Hp} (ha : Ws I va O) (hs : O.length ≤ 1000000000) : Fun Tryz.prog 99 [va] I [] (fun v I' _ => Ws I' v (natW (val O))) := by
  have hle : lowL O ≤ O.length := low_le O O.length
  intro w hw
  refine enter1 _ Tryz.func99 rfl Tryz.ntmps99 rfl ?_ hw
  refine c_seq (c_region ?_)
  refine o_pv trivial rfl rfl ?_
  refine o_nil (then_c (c_seq (c_region ?_)))
  refine o_pv trivial rfl rfl ?_
  refine o_callQ trivial rfl Tryz.call126 rfl (limbLow_any _ _ ha (by omega)) ?_
  refine o_pv trivial rfl rfl ?_
  refine o_nil (then_c (c_seq (c_seq (c_region ?_))))
  iterate 2 refine o_pv trivial rfl rfl ?_
  refine o_nil (then_c ?_)
  refine c_cond rfl (fun h1 => ?_) (fun h1 => ?_)
  ·
   have f1 := h1
   try simp only [bl] at f1
   refine c_seq (c_region ?_)
   refine o_pv trivial rfl rfl ?_
   refine o_nil (then_c (c_ret (then_r ?_)))
   refine ret1 rfl rfl ?_
   have e : natW (val O) = [] := by rw [← trim_eq ha.wds, show lowL O = 0 by omega]; rfl
   refine leaf0 ?_; rw [e]; exact Ws.nil I
  ·
   have f1 := h1
   try simp only [bl] at f1
   refine c_skip (then_c (c_seq (c_region ?_)))
   refine o_pv trivial rfl rfl ?_
   refine o_makeBox trivial rfl Tryz.underlying31 elemz95 rfl rfl (by omega) (by omega) (by first | omega | (unfold maxLen; omega)) (fun b10 => ?_)
   refine o_pv trivial rfl rfl ?_
   refine o_nil (then_c (c_seq (c_region ?_)))
   rw [Int.toNat_natCast, made_wl]
   iterate 2 refine o_pv trivial rfl rfl ?_
   refine o_copyW trivial rfl Tryz.underlying31 elemz95 rfl rfl (ha) (by repeat constructor) (by rw [List.length_replicate]) (by omega) ?_
   refine o_nil (then_c (c_seq (c_region ?_)))
   iterate 2 refine o_pv trivial rfl rfl ?_
   refine o_nil (then_c (c_ret ?_))
   refine ret1 rfl rfl ?_
   refine leafW (natW (val O)) (Ext.refl _ _) (Wds_natW _) (by rw [← trim_eq ha.wds, List.length_take]; unfold maxLen; omega) (by rw [← trim_eq ha.wds]; exact Take.here) (fun I' h => ?_)
   have e : lowL O = (natW (val O)).length := lowL_len ha.wds
   show Ws I' (.slice (some ⟨b10, 0, none⟩) (lowL O) (lowL O)) _
   rw [e]; exact h
theorem val_two (n : Nat) (h : n < 18446744073709551616) : val [n % 4294967296, n / 4294967296] = n := by
  rw [val_cons, val_cons, val_nil]; omega
theorem natOf_any (n : Nat) {I : Hp} (h : n < 18446744073709551616) : Fun Tryz.prog 69 [.int .u64 (n : Int)] I [] (fun v I' _ => Ws I' v (natW n)) := by
  intro w hw
  refine enter1 _ Tryz.func69 rfl Tryz.ntmps69 rfl ?_ hw
  refine c_seq (c_region ?_)
  refine o_pv trivial rfl rfl ?_
  refine o_nil (then_c (c_seq (c_region ?_)))
  refine o_pv trivial rfl rfl ?_
  refine o_conv trivial rfl Tryz.underlying123 Tryz.underlying95 rfl ?_
  refine o_pv trivial rfl rfl ?_
  refine o_shr 4294967296 trivial rfl rfl rfl (by decide) rfl (by omega) ?_
  refine o_convIn trivial rfl Tryz.underlying123 Tryz.underlying95 rfl (by rw [IntWalk.u32_in _ (by omega)]) ?_
  refine o_buildSl trivial rfl Tryz.underlying31 Tryz.sizeOf95 Tryz.zeroValue95 (by decide) (by decide) rfl (by repeat first | exact rfl | constructor) rfl (fun b8 => ?_)
  refine l_sealW [n % 4294967296, n / 4294967296] (by rw [IntKind.wrap_u32]; exact Take.here) (Wds_cons (by omega) (Wds_cons (by omega) Wds_nil)) (by unfold maxLen; simp) (fun I1 hx1 hs1 => ?_)
  refine o_callI trivial rfl Tryz.call99 rfl (natTrim_any _ _ hs1 (by simp)) ?_
  rintro _ I2 hx2 hs2
  refine o_pv trivial rfl rfl ?_
  refine o_nil (then_c (c_ret ?_))
  refine ret1 rfl rfl ?_
  refine leaf (hx1.trans hx2 (Nat.le_refl _)) (List.nil_sublist _) ?_; rw [val_two n h] at hs2; exact hs2
theorem natAt_any (va : Value) (O : List Nat) (i : Nat) {I : Hp} (ha : Ws I va O) : Fun Tryz.prog 163 [va, .int .i64 (i : Int)] I [] (fun v _ _ => v = .int .u32 (dg O i : Nat)) := by
  intro w hw
  refine enter2 _ Tryz.func163 rfl Tryz.ntmps163 rfl ?_ hw
  refine c_seq (c_region ?_)
  refine o_pv trivial rfl rfl ?_
  refine o_nil (then_c (c_seq (c_seq (c_region ?_))))
  iterate 2 refine o_pv trivial rfl rfl ?_
  refine o_lenW trivial rfl Tryz.underlying31 rfl (ha) ?_
  refine o_pv trivial rfl rfl ?_
  refine o_nil (then_c ?_)
  refine c_cond rfl (fun h1 => ?_) (fun h1 => ?_)
  ·
   have f1 := h1
   try simp only [bl] at f1
   refine c_seq (c_region ?_)
   iterate 2 refine o_pv trivial rfl rfl ?_
   refine o_elemW trivial rfl Tryz.underlying31 Tryz.sizeOf95 rfl (ha) rfl (by omega) ?_
   refine o_load1I trivial rfl Tryz.isAgg95 rfl (ha.cellI (Int.toNat_natCast i) (by omega)) ?_
   refine o_pv trivial rfl rfl ?_
   refine o_nil (then_c (c_ret (then_r ?_)))
   refine ret1 rfl rfl ?_
   exact leaf0 rfl
  ·
   have f1 := h1
   try simp only [bl] at f1
   refine c_skip (then_c (c_seq (c_region ?_)))
   refine o_pv trivial rfl rfl ?_
   refine o_nil (then_c (c_ret ?_))
   refine ret1 rfl rfl ?_
   refine leaf0 ?_; rw [dg_out (by omega)]; rfl
theorem natBits_any (va : Value) (O : List Nat) {I : Hp} (ha : Ws I va O) (hs : O.length ≤ 1000000000) : Fun Tryz.prog 96 [va] I [] (fun v _ _ => v = .int .i64 (bitZ (val O) : Nat)) := by
  have hle : lowL O ≤ O.length := low_le O O.length
  have hd := dg_lt ha.wds (lowL O - 1)
  have hb : bitZ (dg O (lowL O - 1)) ≤ 32 := bitZ_le_of (by omega)
  intro w hw
  refine enter1 _ Tryz.func96 rfl Tryz.ntmps96 rfl ?_ hw
  refine c_seq (c_region ?_)
  refine o_pv trivial rfl rfl ?_
  refine o_nil (then_c (c_seq (c_region ?_)))
  refine o_pv trivial rfl rfl ?_
  refine o_callQ trivial rfl Tryz.call126 rfl (limbLow_any _ _ ha (by omega)) ?_
  refine o_pv trivial rfl rfl ?_
  refine o_nil (then_c (c_seq (c_seq (c_region ?_))))
  iterate 2 refine o_pv trivial rfl rfl ?_
  refine o_nil (then_c ?_)
  refine c_cond rfl (fun h1 => ?_) (fun h1 => ?_)
  ·
   have f1 := h1
   try simp only [bl] at f1
   refine c_seq (c_region ?_)
   refine o_pv trivial rfl rfl ?_
   refine o_nil (then_c (c_ret (then_r ?_)))
   refine ret1 rfl rfl ?_
   refine leaf0 ?_; rw [(lowL_zero ha.wds).1 (by omega)]; rfl
  ·
   have f1 := h1
   try simp only [bl] at f1
   refine c_skip (then_c (c_seq (c_region ?_)))
   refine o_pv trivial rfl rfl ?_
   first | (refine o_sub trivial rfl rfl rfl ?_ ?_; (omega)) | refine o_pv trivial rfl rfl ?_
   first | (refine o_mul trivial rfl rfl rfl ?_ ?_; (omega)) | refine o_pv trivial rfl rfl ?_
   iterate 2 refine o_pv trivial rfl rfl ?_
   first | (refine o_sub trivial rfl rfl rfl ?_ ?_; (omega)) | refine o_pv trivial rfl rfl ?_
   refine o_elemW trivial rfl Tryz.underlying31 Tryz.sizeOf95 rfl (ha) rfl (by omega) ?_
   refine o_load1I trivial rfl Tryz.isAgg95 rfl (ha.cellI (k := lowL O - 1) (by omega) (by omega)) ?_
   refine o_callQ trivial rfl Tryz.call127 rfl (limbBits_any _ hd) ?_
   first | (refine o_add trivial rfl rfl rfl ?_ ?_; (omega)) | refine o_pv trivial rfl rfl ?_
   refine o_pv trivial rfl rfl ?_
   refine o_nil (then_c (c_ret ?_))
   refine ret1 rfl rfl ?_
   refine leaf0 (congrArg (Value.int .i64) ?_); have e := bits_eq ha.wds (by omega); omega
end Go.Proofs.YtjgbjaaekknenaaGreat
/-
  Layers 2 and 3 of the program: holding numbers against each other, sums, products.
-/
namespace Go.Proofs.YtjgbjaaekknenaaGreat
open Go Go.Tw
set_option linter.unusedVariables false
set_option linter.unusedSimpArgs false
set_option linter.unnecessarySimpa false
set_option maxHeartbeats 1000000
theorem lt_of_low {A B : List Nat} (ha : Wds A) (hb : Wds B) (h : lowL A < lowL B) : val A < val B := by
  have h1 : val A < 4294967296 ^ lowL A := by rw [← pre_low (l := A) (n := A.length) |>.trans (show pre A A.length = val A from rfl)]; exact pre_lt ha _
  have ht := low_top (l := B) (n := B.length) (by show 0 < lowL B; omega)
  obtain ⟨n, hn⟩ : ∃ n, lowL B = n + 1 := ⟨lowL B - 1, by omega⟩
  have h2 : val B = pre B (n + 1) := by rw [← hn]; exact (pre_low (l := B) (n := B.length)).symm
  change dg B (lowL B - 1) ≠ 0 at ht
  rw [hn, Nat.add_sub_cancel] at ht
  rw [pre] at h2
  have h3 : 4294967296 ^ lowL A ≤ 4294967296 ^ n := Nat.pow_le_pow_right (by decide) (by omega)
  have h4 : 1 * 4294967296 ^ n ≤ dg B n * 4294967296 ^ n := Nat.mul_le_mul_right _ (by omega)
  rw [Nat.one_mul] at h4
  omega
theorem cmpZ_lt {x y : Int} (h : x < y) : cmpZ x y = -1 := if_pos h
theorem cmpZ_gt {x y : Int} (h : y < x) : cmpZ x y = 1 := by unfold cmpZ; rw [if_neg (by omega), if_pos h]
theorem cmpZ_self (x : Int) : cmpZ x x = 0 := by unfold cmpZ; rw [if_neg (by omega), if_neg (by omega)]
theorem cmp_low {A B : List Nat} (ha : Wds A) (hb : Wds B) (h : cmpZ (lowL A : Nat) (lowL B : Nat) ≠ 0) : cmpZ (lowL A : Nat) (lowL B : Nat) = cmpZ (val A : Nat) (val B : Nat) := by
  rcases Nat.lt_trichotomy (lowL A) (lowL B) with h1 | h1 | h1
  · have := lt_of_low ha hb h1
    rw [cmpZ_lt (by omega), cmpZ_lt (by omega)]
  · rw [h1] at h; exact absurd (cmpZ_self _) h
  · have := lt_of_low hb ha h1
    rw [cmpZ_gt (by omega), cmpZ_gt (by omega)]
theorem cmp_top {A B : List Nat} (ha : Wds A) (hb : Wds B) {m : Nat} (h : val A + pre B (m + 1) = val B + pre A (m + 1)) (hne : cmpZ (dg A m : Nat) (dg B m : Nat) ≠ 0) : cmpZ (dg A m : Nat) (dg B m : Nat) = cmpZ (val A : Nat) (val B : Nat) := by
  have h1 := pre_lt ha m
  have h2 := pre_lt hb m
  rw [pre, pre] at h
  rcases Nat.lt_trichotomy (dg A m) (dg B m) with h3 | h3 | h3
  · have : (dg A m + 1) * 4294967296 ^ m ≤ dg B m * 4294967296 ^ m := Nat.mul_le_mul_right _ h3
    rw [Nat.add_mul, Nat.one_mul] at this
    rw [cmpZ_lt (by omega), cmpZ_lt (by omega)]
  · rw [h3] at hne; exact absurd (cmpZ_self _) hne
  · have : (dg B m + 1) * 4294967296 ^ m ≤ dg A m * 4294967296 ^ m := Nat.mul_le_mul_right _ h3
    rw [Nat.add_mul, Nat.one_mul] at this
    rw [cmpZ_gt (by omega), cmpZ_gt (by omega)]
theorem natCmp_any (va vb : Value) (A B : List Nat) {I : Hp} (ha : Ws I va A) (hb : Ws I vb B) (hs : A.length ≤ 1000000000) (hs2 : B.length ≤ 1000000000) : Fun Tryz.prog 161 [va, vb] I [] (fun v _ _ => v = .int .i64 (cmpZ (val A : Nat) (val B : Nat))) := by
  have hle : lowL A ≤ A.length := low_le A A.length
  have hle2 : lowL B ≤ B.length := low_le B B.length
  intro w hw
  refine enter2 _ Tryz.func161 rfl Tryz.ntmps161 rfl ?_ hw
  refine c_seq (c_region ?_)
  refine o_pv trivial rfl rfl ?_
  refine o_nil (then_c (c_seq (c_region ?_)))
  refine o_pv trivial rfl rfl ?_
  refine o_callQ trivial rfl Tryz.call126 rfl (limbLow_any _ _ ha (by omega)) ?_
  refine o_pv trivial rfl rfl ?_
  refine o_nil (then_c (c_seq (c_seq (c_region ?_))))
  iterate 2 refine o_pv trivial rfl rfl ?_
  refine o_callQ trivial rfl Tryz.call126 rfl (limbLow_any _ _ hb (by omega)) ?_
  refine o_callP trivial rfl Tryz.call172 rfl (compareI_any _ _) ?_
  refine o_pv trivial rfl rfl ?_
  refine o_nil (then_c (c_seq (c_region ?_)))
  iterate 2 refine o_pv trivial rfl rfl ?_
  refine o_nil (then_c ?_)
  refine c_cond rfl (fun h1 => ?_) (fun h1 => ?_)
  ·
   have f1 := h1
   try simp only [bl] at f1
   refine c_seq (c_region ?_)
   iterate 2 refine o_pv trivial rfl rfl ?_
   refine o_nil (then_c (c_ret (then_r ?_)))
   refine ret1 rfl rfl ?_
   refine leaf0 ?_; rw [cmp_low ha.wds hb.wds f1]
  ·
   have f1 := h1
   try simp only [bl] at f1
   have hll : lowL A = lowL B := by have := cmpZ_zero f1; omega
   refine c_skip (then_c (c_seq (c_seq (c_region ?_))))
   iterate 2 refine o_pv trivial rfl rfl ?_
   refine o_nil (then_c (c_block ?_))
   refine c_loop (ι := Nat) [0, 1, 5, 18] (.cons rfl (.cons rfl (.cons rfl (.cons rfl .nil)))) (fun i => lowL A - i) (fun i E0 => (19, .int .i64 (i : Int)) :: E0) (fun i => St w [] I []) (fun i => i ≤ lowL A ∧ val A + pre B (lowL A - i) = val B + pre A (lowL A - i)) (0) (sub_cons rfl (sub_cons rfl (sub_cons rfl (sub_cons rfl (sub_cons rfl sub_nil))))) (fun _ h => h) (⟨Nat.zero_le _, by
     show val A + pre B (lowL A) = val B + pre A (lowL A)
     have e1 : pre A (lowL A) = val A := pre_low (l := A) (n := A.length)
     have e2 : pre B (lowL B) = val B := pre_low (l := B) (n := B.length)
     rw [e1, hll, e2, Nat.add_comm]⟩) ?_
   rintro i ⟨hi, hF⟩
   try dsimp only
   refine c_seq (c_region ?_)
   refine o_pv trivial rfl rfl ?_
   refine o_nil (then_c (c_seq ?_))
   refine c_cond rfl (fun h2 => ?_) (fun h2 => ?_)
   ·
    have f2 := h2
    try simp only [bl] at f2
    obtain ⟨m, hm⟩ : ∃ m, lowL A - i = m + 1 := ⟨lowL A - i - 1, by omega⟩
    rw [hm] at hF
    refine c_skip (then_c (c_seq (c_block (c_seq (c_region ?_)))))
    iterate 2 refine o_pv trivial rfl rfl ?_
    refine o_nil (then_c (c_seq ?_))
    refine c_quiet (by kernel_rfl) (by kernel_rfl) (fun _ h => h.drawn) ?_
    iterate 2 refine o_pv trivial rfl rfl ?_
    first | (refine o_sub trivial rfl rfl rfl ?_ ?_; (omega)) | refine o_pv trivial rfl rfl ?_
    refine o_pv trivial rfl rfl ?_
    first | (refine o_sub trivial rfl rfl rfl ?_ ?_; (omega)) | refine o_pv trivial rfl rfl ?_
    refine o_elemW trivial rfl Tryz.underlying31 Tryz.sizeOf95 rfl (ha) rfl (by omega) ?_
    refine o_load1I trivial rfl Tryz.isAgg95 rfl (ha.cellI (k := m) (by omega) (by omega)) ?_
    iterate 2 refine o_pv trivial rfl rfl ?_
    first | (refine o_sub trivial rfl rfl rfl ?_ ?_; (omega)) | refine o_pv trivial rfl rfl ?_
    refine o_pv trivial rfl rfl ?_
    first | (refine o_sub trivial rfl rfl rfl ?_ ?_; (omega)) | refine o_pv trivial rfl rfl ?_
    refine o_elemW trivial rfl Tryz.underlying31 Tryz.sizeOf95 rfl (hb) rfl (by omega) ?_
    refine o_load1I trivial rfl Tryz.isAgg95 rfl (hb.cellI (k := m) (by omega) (by omega)) ?_
    refine o_callP trivial rfl Tryz.call173 rfl (compareU_any _ _) ?_
    refine o_pv trivial rfl rfl ?_
    refine o_nil (then_c (c_seq (c_region ?_)))
    iterate 2 refine o_pv trivial rfl rfl ?_
    refine o_nil (then_c ?_)
    refine c_cond rfl (fun h3 => ?_) (fun h3 => ?_)
    ·
     have f3 := h3
     try simp only [bl] at f3
     refine c_seq (c_region ?_)
     iterate 2 refine o_pv trivial rfl rfl ?_
     refine o_nil (then_c (c_ret (blk_r (then_r (then_r (blk_r (then_r ?_)))))))
     refine ret1 rfl rfl ?_
     refine leaf0 ?_; rw [cmp_top ha.wds hb.wds hF f3]
    ·
     have f3 := h3
     try simp only [bl] at f3
     refine c_skip (blk_n (then_c (c_region ?_)))
     first | (refine o_add trivial rfl rfl rfl ?_ ?_; (omega)) | refine o_pv trivial rfl rfl ?_
     refine o_pv trivial rfl rfl ?_
     refine o_nil ?_
     exact again (i + 1) (sub_cons rfl (sub_cons rfl (sub_cons rfl (sub_cons rfl (sub_cons rfl sub_nil))))) (fun _ h => h) (by show lowL A - (i + 1) < lowL A - i; omega) ⟨by omega, by
       have e := cmpZ_zero f3
       rw [pre, pre, show dg A m = dg B m by omega] at hF
       rw [show lowL A - (i + 1) = m by omega]
       omega⟩
   ·
    have f2 := h2
    try simp only [bl] at f2
    refine c_exit (then_x (then_x (blk_eq rfl (then_c (c_seq (c_region ?_))))))
    refine o_pv trivial rfl rfl ?_
    refine o_nil (then_c (c_ret ?_))
    refine ret1 rfl rfl ?_
    refine leaf0 ?_; rw [show lowL A - i = 0 by omega, pre, pre] at hF; rw [show val A = val B by omega, cmpZ_self]
theorem natAdd_any (va vb : Value) (A B : List Nat) {I : Hp} (ha : Ws I va A) (hb : Ws I vb B) (hs : A.length ≤ 100000000) (hs2 : B.length ≤ 100000000) : Fun Tryz.prog 156 [va, vb] I [] (fun v I' _ => Ws I' v (natW (val A + val B))) := by
  intro w hw
  refine enter2 _ Tryz.func156 rfl Tryz.ntmps156 rfl ?_ hw
  refine c_seq (c_region ?_)
  refine o_pv trivial rfl rfl ?_
  refine o_nil (then_c (c_seq (c_region ?_)))
  refine o_pv trivial rfl rfl ?_
  refine o_lenW trivial rfl Tryz.underlying31 rfl (ha) ?_
  refine o_pv trivial rfl rfl ?_
  refine o_lenW trivial rfl Tryz.underlying31 rfl (hb) ?_
  refine o_max2 trivial rfl rfl rfl ?_
  refine o_pv trivial rfl rfl ?_
  refine o_nil (then_c (c_seq ?_))
  obtain ⟨N, hN⟩ : ∃ N : Nat, max (A.length : Int) (B.length : Int) = N := ⟨max A.length B.length, by omega⟩
  rw [hN]
  have hNa : A.length ≤ N := by omega
  have hNb : B.length ≤ N := by omega
  refine c_region ?_
  refine o_pv trivial rfl rfl ?_
  first | (refine o_add trivial rfl rfl rfl ?_ ?_; (omega)) | refine o_pv trivial rfl rfl ?_
  refine o_makeBox trivial rfl Tryz.underlying31 elemz95 rfl rfl (by omega) (by omega) (by first | omega | (unfold maxLen; omega)) (fun b15 => ?_)
  refine o_pv trivial rfl rfl ?_
  refine o_nil (then_c (c_seq (c_seq ?_)))
  rw [show ((N : Int) + 1).toNat = N + 1 by omega, made_wl]
  refine c_region ?_
  iterate 2 refine o_pv trivial rfl rfl ?_
  refine o_nil (then_c (c_block ?_))
  refine c_loop (ι := Nat × List Nat) [0, 1, 5, 6, 16] (.cons rfl (.cons rfl (.cons rfl (.cons rfl (.cons rfl .nil))))) (fun x => N - x.1) (fun x E0 => (17, .int .i64 (x.1 : Int)) :: E0) (fun x => St w [] I [.box b15 (.cells (wl x.2).toArray 95 (0, 0))]) (fun x => x.1 ≤ N ∧ Wds x.2 ∧ x.2.length = N + 1 ∧ pre x.2 x.1 + 4294967296 ^ x.1 * dg x.2 N = pre A x.1 + pre B x.1) ((0, List.replicate (N + 1) 0)) (sub_cons rfl (sub_cons rfl (sub_cons rfl (sub_cons rfl (sub_cons rfl (sub_cons rfl sub_nil)))))) (fun _ h => h) (⟨Nat.zero_le _, wds_zeros _, List.length_replicate, by simp only [pre, dg_zeros]⟩) ?_
  rintro ⟨i, O⟩ ⟨hi, hO, hl, hF⟩
  try dsimp only
  simp only at hi hO hl hF; have hdA := dg_lt ha.wds i; have hdB := dg_lt hb.wds i; have hdN := dg_lt hO N
  refine c_seq (c_region ?_)
  refine o_pv trivial rfl rfl ?_
  refine o_nil (then_c (c_seq ?_))
  refine c_cond rfl (fun h1 => ?_) (fun h1 => ?_)
  ·
   have f1 := h1
   try simp only [bl] at f1
   refine c_skip (then_c (c_seq (c_block (c_seq (c_region ?_)))))
   iterate 2 refine o_pv trivial rfl rfl ?_
   refine o_nil (then_c ?_)
   refine h_beginB (m := 22) [] (by repeat constructor) (by kernel_rfl) rfl ?_
   refine' h_take (i := 0) #[true, false, false, false, false, false, false, false, false, false, false, false, false, false, false, false, false, false, false, false, false, false] rfl rfl rfl (by kernel_rfl) (by kernel_rfl) (by kernel_rfl) rfl (qp_blk (qp_then (qp_then (qp_blk (qp_then qp_bp))))) (fun _ h => (h.sort (by repeat constructor)).fewer (Hp.Le.refl _)) ?hh0 ?kk0
   case hh0 =>
    refine o_pv trivial rfl rfl ?_
    refine o_nil ?_
    exact ⟨fun _ _ ha _ => ha⟩
   refine' h_take (i := 1) #[true, true, false, false, false, false, false, false, false, false, false, false, false, false, false, false, false, false, false, false, false, false] rfl rfl rfl (by kernel_rfl) (by kernel_rfl) (by kernel_rfl) rfl (qp_blk (qp_then (qp_then (qp_blk (qp_then qp_bp))))) (fun _ h => (h.sort (by repeat constructor)).fewer (Hp.Le.refl _)) ?hh1 ?kk1
   case hh1 =>
    refine o_pv trivial rfl rfl ?_
    refine o_nil ?_
    exact ⟨fun _ _ ha _ => ha⟩
   refine' h_take (i := 2) #[true, true, true, false, false, false, false, false, false, false, false, false, false, false, false, false, false, false, false, false, false, false] rfl rfl rfl (by kernel_rfl) (by kernel_rfl) (by kernel_rfl) rfl (qp_blk (qp_then (qp_then (qp_blk (qp_then qp_bp))))) (fun _ h => (h.sort (by repeat constructor)).fewer (Hp.Le.refl _)) ?hh2 ?kk2
   case hh2 =>
    refine o_pv trivial rfl rfl ?_
    refine o_nil ?_
    exact ⟨fun _ _ ha _ => ha⟩
   refine' h_take (i := 3) #[true, true, true, true, false, false, false, false, false, false, false, false, false, false, false, false, false, false, false, false, false, false] rfl rfl rfl (by kernel_rfl) (by kernel_rfl) (by kernel_rfl) rfl (qp_blk (qp_then (qp_then (qp_blk (qp_then qp_bp))))) (fun _ h => (h.sort (by repeat constructor)).fewer (Hp.Le.refl _)) ?hh3 ?kk3
   case hh3 =>
    refine o_pv trivial rfl rfl ?_
    refine o_nil ?_
    exact ⟨fun _ _ ha _ => ha⟩
   refine' h_take (i := 4) #[true, true, true, true, true, false, false, false, false, false, false, false, false, false, false, false, false, false, false, false, false, false] rfl rfl rfl (by kernel_rfl) (by kernel_rfl) (by kernel_rfl) rfl (qp_blk (qp_then (qp_then (qp_blk (qp_then qp_bp))))) (fun _ h => (h.sort (by repeat constructor)).fewer (Hp.Le.refl _)) ?hh4 ?kk4
   case hh4 =>
    refine o_pv trivial rfl rfl ?_
    refine o_nil ?_
    exact ⟨fun _ _ ha _ => ha⟩
   refine' h_take (i := 5) #[true, true, true, true, true, true, false, false, false, false, false, false, false, false, false, false, false, false, false, false, false, false] rfl rfl rfl (by kernel_rfl) (by kernel_rfl) (by kernel_rfl) rfl (qp_blk (qp_then (qp_then (qp_blk (qp_then qp_bp))))) (fun _ h => (h.sort (by repeat constructor)).fewer (Hp.Le.refl _)) ?hh5 ?kk5
   case hh5 =>
    refine o_pv trivial rfl rfl ?_
    refine o_nil ?_
    exact ⟨fun _ _ ha _ => ha⟩
   refine' h_take (i := 7) #[true, true, true, true, true, true, false, true, false, false, false, false, false, false, false, false, false, false, false, false, false, false] rfl rfl rfl (by kernel_rfl) (by kernel_rfl) (by kernel_rfl) rfl (qp_blk (qp_then (qp_then (qp_blk (qp_then qp_bp))))) (fun _ h => (h.sort (by repeat constructor)).fewer (Hp.Le.refl _)) ?hh6 ?kk6
   case hh6 =>
    refine o_pv trivial rfl rfl ?_
    refine o_nil ?_
    exact ⟨fun _ _ ha _ => ha⟩
   refine' h_take (i := 8) #[true, true, true, true, true, true, false, true, true, false, false, false, false, false, false, false, false, false, false, false, false, false] rfl rfl rfl (by kernel_rfl) (by kernel_rfl) (by kernel_rfl) rfl (qp_blk (qp_then (qp_then (qp_blk (qp_then qp_bp))))) (fun _ h => (h.sort (by repeat constructor)).fewer (Hp.Le.refl _)) ?hh7 ?kk7
   case hh7 =>
    refine o_pv trivial rfl rfl ?_
    refine o_nil ?_
    exact ⟨fun _ _ ha _ => ha⟩
   refine' h_take (i := 10) #[true, true, true, true, true, true, false, true, true, false, true, false, false, false, false, false, false, false, false, false, false, false] rfl rfl rfl (by kernel_rfl) (by kernel_rfl) (by kernel_rfl) rfl (qp_blk (qp_then (qp_then (qp_blk (qp_then qp_bp))))) (fun _ h => (h.sort (by repeat constructor)).fewer (Hp.Le.refl _)) ?hh8 ?kk8
   case hh8 =>
    refine o_pv trivial rfl rfl ?_
    refine o_nil ?_
    exact ⟨fun _ _ ha _ => ha⟩
   refine' h_take (i := 11) #[true, true, true, true, true, true, false, true, true, false, true, true, false, false, false, false, false, false, false, false, false, false] rfl rfl rfl (by kernel_rfl) (by kernel_rfl) (by kernel_rfl) rfl (qp_blk (qp_then (qp_then (qp_blk (qp_then qp_bp))))) (fun _ h => (h.sort (by repeat constructor)).fewer (Hp.Le.refl _)) ?hh9 ?kk9
   case hh9 =>
    refine o_pv trivial rfl rfl ?_
    refine o_nil ?_
    exact ⟨fun _ _ ha _ => ha⟩
   refine' h_take (i := 12) #[true, true, true, true, true, true, false, true, true, false, true, true, true, false, false, false, false, false, false, false, false, false] rfl rfl rfl (by kernel_rfl) (by kernel_rfl) (by kernel_rfl) rfl (qp_blk (qp_then (qp_then (qp_blk (qp_then qp_bp))))) (fun _ h => (h.sort (by repeat constructor)).fewer (Hp.Le.refl _)) ?hh10 ?kk10
   case hh10 =>
    refine o_elemV trivial rfl Tryz.underlying31 Tryz.sizeOf95 rfl rfl (by omega) ?_
    refine o_nil ?_
    exact ⟨fun _ _ ha _ => ha⟩
   refine h_go [6, 13] (by kernel_rfl) rfl (TWHs.cons ?_ (TWHs.cons ?_ TWHs.nil))
   ·
    refine h_op #[true, true, true, true, true, true, true, true, true, false, true, true, true, false, false, false, false, false, false, false, false, false] rfl rfl ?_
    refine o_callQ trivial rfl Tryz.call163 rfl (natAt_any _ _ i ha) ?_
    refine o_nil ?_
    refine h_next (fun _ h => (h.sort (by repeat constructor)).fewer (Hp.Le.refl _)) ?_
    refine h_go [9, 13] (by kernel_rfl) rfl (TWHs.cons ?_ (TWHs.cons ?_ TWHs.nil))
    ·
     refine h_op #[true, true, true, true, true, true, true, true, true, true, true, true, true, false, false, false, false, false, false, false, false, false] rfl rfl ?_
     refine o_callQ trivial rfl Tryz.call163 rfl (natAt_any _ _ i hb) ?_
     refine o_nil ?_
     refine h_next (fun _ h => (h.sort (by repeat constructor)).fewer (Hp.Le.refl _)) ?_
     refine h_go [13] (by kernel_rfl) rfl (TWHs.cons ?_ TWHs.nil)
     refine h_op #[true, true, true, true, true, true, true, true, true, true, true, true, true, true, false, false, false, false, false, false, false, false] rfl rfl ?_
     refine o_loadBox1 trivial rfl Tryz.isAgg95 rfl (by repeat constructor) ((by rw [show (0 + (N : Int).toNat * 1) = N by omega]; exact wl_get (by omega))) ?_
     refine o_nil ?_
     refine h_next (fun _ h => (h.sort (by repeat constructor)).fewer (Hp.Le.refl _)) ?_
     refine h_go [14] (by kernel_rfl) rfl (TWHs.cons ?_ TWHs.nil)
     refine h_op #[true, true, true, true, true, true, true, true, true, true, true, true, true, true, true, false, false, false, false, false, false, false] rfl rfl ?_
     refine o_callQ trivial rfl Tryz.call165 rfl (limbAdd_any _ _ _ hdA hdB hdN) ?_
     refine o_nil ?_
     refine h_next (fun _ h => (h.sort (by repeat constructor)).fewer (Hp.Le.refl _)) ?_
     refine' h_take (i := 15) #[true, true, true, true, true, true, true, true, true, true, true, true, true, true, true, true, false, false, false, false, false, false] rfl rfl rfl (by kernel_rfl) (by kernel_rfl) (by kernel_rfl) rfl (qp_blk (qp_then (qp_then (qp_blk (qp_then qp_bp))))) (fun _ h => (h.sort (by repeat constructor)).fewer (Hp.Le.refl _)) ?hh11 ?kk11
     case hh11 =>
      refine o_pv trivial rfl rfl ?_
      refine o_nil ?_
      exact ⟨fun _ _ ha _ => ha⟩
     refine' h_take (i := 16) #[true, true, true, true, true, true, true, true, true, true, true, true, true, true, true, true, true, false, false, false, false, false] rfl rfl rfl (by kernel_rfl) (by kernel_rfl) (by kernel_rfl) rfl (qp_blk (qp_then (qp_then (qp_blk (qp_then qp_bp))))) (fun _ h => (h.sort (by repeat constructor)).fewer (Hp.Le.refl _)) ?hh12 ?kk12
     case hh12 =>
      refine o_pv trivial rfl rfl ?_
      refine o_nil ?_
      exact ⟨fun _ _ ha _ => ha⟩
     refine' h_take (i := 17) #[true, true, true, true, true, true, true, true, true, true, true, true, true, true, true, true, true, true, false, false, false, false] rfl rfl rfl (by kernel_rfl) (by kernel_rfl) (by kernel_rfl) rfl (qp_blk (qp_then (qp_then (qp_blk (qp_then qp_bp))))) (fun _ h => (h.sort (by repeat constructor)).fewer (Hp.Le.refl _)) ?hh13 ?kk13
     case hh13 =>
      refine o_pv trivial rfl rfl ?_
      refine o_nil ?_
      exact ⟨fun _ _ ha _ => ha⟩
     refine' h_take (i := 18) #[true, true, true, true, true, true, true, true, true, true, true, true, true, true, true, true, true, true, true, false, false, false] rfl rfl rfl (by kernel_rfl) (by kernel_rfl) (by kernel_rfl) rfl (qp_blk (qp_then (qp_then (qp_blk (qp_then qp_bp))))) (fun _ h => (h.sort (by repeat constructor)).fewer (Hp.Le.refl _)) ?hh14 ?kk14
     case hh14 =>
      refine o_elemV trivial rfl Tryz.underlying31 Tryz.sizeOf95 rfl rfl (by omega) ?_
      refine o_nil ?_
      exact ⟨fun _ _ ha _ => ha⟩
     refine h_go [19] (by kernel_rfl) rfl (TWHs.cons ?_ TWHs.nil)
     refine h_op #[true, true, true, true, true, true, true, true, true, true, true, true, true, true, true, true, true, true, true, true, false, false] rfl rfl ?_
     refine o_storeBox1 trivial rfl rfl rfl Tryz.sizeOf95 rfl (by repeat constructor) (by rw [wl_len]; omega) ?_
     refine o_nil ?_
     refine h_next (fun _ h => (h.sort (by repeat constructor)).fewer (Hp.Le.refl _)) ?_
     refine' h_take (i := 20) #[true, true, true, true, true, true, true, true, true, true, true, true, true, true, true, true, true, true, true, true, true, false] rfl rfl rfl (by kernel_rfl) (by kernel_rfl) (by kernel_rfl) rfl (qp_blk (qp_then (qp_then (qp_blk (qp_then qp_bp))))) (fun _ h => (h.sort (by repeat constructor)).fewer (Hp.Le.refl _)) ?hh15 ?kk15
     case hh15 =>
      refine o_elemV trivial rfl Tryz.underlying31 Tryz.sizeOf95 rfl rfl (by omega) ?_
      refine o_nil ?_
      exact ⟨fun _ _ ha _ => ha⟩
     refine h_go [21] (by kernel_rfl) rfl (TWHs.cons ?_ TWHs.nil)
     refine h_op #[true, true, true, true, true, true, true, true, true, true, true, true, true, true, true, true, true, true, true, true, true, true] rfl rfl ?_
     refine o_storeBox1 trivial rfl rfl rfl Tryz.sizeOf95 rfl (by repeat constructor) (by rw [List.length_set, wl_len]; omega) ?_
     refine o_nil ?_
     refine h_next (fun _ h => (h.sort (by repeat constructor)).fewer (Hp.Le.refl _)) ?_
     refine h_end (by kernel_rfl) ?_
     refine blk_n (then_c (c_region ?_))
     first | (refine o_add trivial rfl rfl rfl ?_ ?_; (omega)) | refine o_pv trivial rfl rfl ?_
     refine o_pv trivial rfl rfl ?_
     refine o_nil ?_
     exact again (i + 1, (O.set i ((dg A i + dg B i + dg O N) % 4294967296)).set N ((dg A i + dg B i + dg O N) / 4294967296)) (sub_cons rfl (sub_cons rfl (sub_cons rfl (sub_cons rfl (sub_cons rfl (sub_cons rfl sub_nil)))))) (fun _ h => h.wl2 i N ((dg A i + dg B i + dg O N) % 4294967296) ((dg A i + dg B i + dg O N) / 4294967296) (by omega) (by omega)) (by show N - (i + 1) < N - i; omega) ⟨by show i + 1 ≤ N; omega, (hO.set (by omega)).set (by omega), by simp only [List.length_set]; exact hl, add_step hl (by omega) hF (by omega)⟩
    ·
     refine h_op #[true, true, true, true, true, true, true, true, true, false, true, true, true, true, false, false, false, false, false, false, false, false] rfl rfl ?_
     refine o_loadBox1 trivial rfl Tryz.isAgg95 rfl (by repeat constructor) ((by rw [show (0 + (N : Int).toNat * 1) = N by omega]; exact wl_get (by omega))) ?_
     refine o_nil ?_
     refine h_next (fun _ h => (h.sort (by repeat constructor)).fewer (Hp.Le.refl _)) ?_
     refine h_go [9] (by kernel_rfl) rfl (TWHs.cons ?_ TWHs.nil)
     refine h_op #[true, true, true, true, true, true, true, true, true, true, true, true, true, true, false, false, false, false, false, false, false, false] rfl rfl ?_
     refine o_callQ trivial rfl Tryz.call163 rfl (natAt_any _ _ i hb) ?_
     refine o_nil ?_
     refine h_next (fun _ h => (h.sort (by repeat constructor)).fewer (Hp.Le.refl _)) ?_
     refine h_go [14] (by kernel_rfl) rfl (TWHs.cons ?_ TWHs.nil)
     refine h_op #[true, true, true, true, true, true, true, true, true, true, true, true, true, true, true, false, false, false, false, false, false, false] rfl rfl ?_
     refine o_callQ trivial rfl Tryz.call165 rfl (limbAdd_any _ _ _ hdA hdB hdN) ?_
     refine o_nil ?_
     refine h_next (fun _ h => (h.sort (by repeat constructor)).fewer (Hp.Le.refl _)) ?_
     refine' h_take (i := 15) #[true, true, true, true, true, true, true, true, true, true, true, true, true, true, true, true, false, false, false, false, false, false] rfl rfl rfl (by kernel_rfl) (by kernel_rfl) (by kernel_rfl) rfl (qp_blk (qp_then (qp_then (qp_blk (qp_then qp_bp))))) (fun _ h => (h.sort (by repeat constructor)).fewer (Hp.Le.refl _)) ?hh16 ?kk16
     case hh16 =>
      refine o_pv trivial rfl rfl ?_
      refine o_nil ?_
      exact ⟨fun _ _ ha _ => ha⟩
     refine' h_take (i := 16) #[true, true, true, true, true, true, true, true, true, true, true, true, true, true, true, true, true, false, false, false, false, false] rfl rfl rfl (by kernel_rfl) (by kernel_rfl) (by kernel_rfl) rfl (qp_blk (qp_then (qp_then (qp_blk (qp_then qp_bp))))) (fun _ h => (h.sort (by repeat constructor)).fewer (Hp.Le.refl _)) ?hh17 ?kk17
     case hh17 =>
      refine o_pv trivial rfl rfl ?_
      refine o_nil ?_
      exact ⟨fun _ _ ha _ => ha⟩
     refine' h_take (i := 17) #[true, true, true, true, true, true, true, true, true, true, true, true, true, true, true, true, true, true, false, false, false, false] rfl rfl rfl (by kernel_rfl) (by kernel_rfl) (by kernel_rfl) rfl (qp_blk (qp_then (qp_then (qp_blk (qp_then qp_bp))))) (fun _ h => (h.sort (by repeat constructor)).fewer (Hp.Le.refl _)) ?hh18 ?kk18
     case hh18 =>
      refine o_pv trivial rfl rfl ?_
      refine o_nil ?_
      exact ⟨fun _ _ ha _ => ha⟩
     refine' h_take (i := 18) #[true, true, true, true, true, true, true, true, true, true, true, true, true, true, true, true, true, true, true, false, false, false] rfl rfl rfl (by kernel_rfl) (by kernel_rfl) (by kernel_rfl) rfl (qp_blk (qp_then (qp_then (qp_blk (qp_then qp_bp))))) (fun _ h => (h.sort (by repeat constructor)).fewer (Hp.Le.refl _)) ?hh19 ?kk19
     case hh19 =>
      refine o_elemV trivial rfl Tryz.underlying31 Tryz.sizeOf95 rfl rfl (by omega) ?_
      refine o_nil ?_
      exact ⟨fun _ _ ha _ => ha⟩
     refine h_go [19] (by kernel_rfl) rfl (TWHs.cons ?_ TWHs.nil)
     refine h_op #[true, true, true, true, true, true, true, true, true, true, true, true, true, true, true, true, true, true, true, true, false, false] rfl rfl ?_
     refine o_storeBox1 trivial rfl rfl rfl Tryz.sizeOf95 rfl (by repeat constructor) (by rw [wl_len]; omega) ?_
     refine o_nil ?_
     refine h_next (fun _ h => (h.sort (by repeat constructor)).fewer (Hp.Le.refl _)) ?_
     refine' h_take (i := 20) #[true, true, true, true, true, true, true, true, true, true, true, true, true, true, true, true, true, true, true, true, true, false] rfl rfl rfl (by kernel_rfl) (by kernel_rfl) (by kernel_rfl) rfl (qp_blk (qp_then (qp_then (qp_blk (qp_then qp_bp))))) (fun _ h => (h.sort (by repeat constructor)).fewer (Hp.Le.refl _)) ?hh20 ?kk20
     case hh20 =>
      refine o_elemV trivial rfl Tryz.underlying31 Tryz.sizeOf95 rfl rfl (by omega) ?_
      refine o_nil ?_
      exact ⟨fun _ _ ha _ => ha⟩
     refine h_go [21] (by kernel_rfl) rfl (TWHs.cons ?_ TWHs.nil)
     refine h_op #[true, true, true, true, true, true, true, true, true, true, true, true, true, true, true, true, true, true, true, true, true, true] rfl rfl ?_
     refine o_storeBox1 trivial rfl rfl rfl Tryz.sizeOf95 rfl (by repeat constructor) (by rw [List.length_set, wl_len]; omega) ?_
     refine o_nil ?_
     refine h_next (fun _ h => (h.sort (by repeat constructor)).fewer (Hp.Le.refl _)) ?_
     refine h_end (by kernel_rfl) ?_
     refine blk_n (then_c (c_region ?_))
     first | (refine o_add trivial rfl rfl rfl ?_ ?_; (omega)) | refine o_pv trivial rfl rfl ?_
     refine o_pv trivial rfl rfl ?_
     refine o_nil ?_
     exact again (i + 1, (O.set i ((dg A i + dg B i + dg O N) % 4294967296)).set N ((dg A i + dg B i + dg O N) / 4294967296)) (sub_cons rfl (sub_cons rfl (sub_cons rfl (sub_cons rfl (sub_cons rfl (sub_cons rfl sub_nil)))))) (fun _ h => h.wl2 i N ((dg A i + dg B i + dg O N) % 4294967296) ((dg A i + dg B i + dg O N) / 4294967296) (by omega) (by omega)) (by show N - (i + 1) < N - i; omega) ⟨by show i + 1 ≤ N; omega, (hO.set (by omega)).set (by omega), by simp only [List.length_set]; exact hl, add_step hl (by omega) hF (by omega)⟩
   ·
    refine h_op #[true, true, true, true, true, true, false, true, true, false, true, true, true, true, false, false, false, false, false, false, false, false] rfl rfl ?_
    refine o_loadBox1 trivial rfl Tryz.isAgg95 rfl (by repeat constructor) ((by rw [show (0 + (N : Int).toNat * 1) = N by omega]; exact wl_get (by omega))) ?_
    refine o_nil ?_
    refine h_next (fun _ h => (h.sort (by repeat constructor)).fewer (Hp.Le.refl _)) ?_
    refine h_go [6] (by kernel_rfl) rfl (TWHs.cons ?_ TWHs.nil)
    refine h_op #[true, true, true, true, true, true, true, true, true, false, true, true, true, true, false, false, false, false, false, false, false, false] rfl rfl ?_
    refine o_callQ trivial rfl Tryz.call163 rfl (natAt_any _ _ i ha) ?_
    refine o_nil ?_
    refine h_next (fun _ h => (h.sort (by repeat constructor)).fewer (Hp.Le.refl _)) ?_
    refine h_go [9] (by kernel_rfl) rfl (TWHs.cons ?_ TWHs.nil)
    refine h_op #[true, true, true, true, true, true, true, true, true, true, true, true, true, true, false, false, false, false, false, false, false, false] rfl rfl ?_
    refine o_callQ trivial rfl Tryz.call163 rfl (natAt_any _ _ i hb) ?_
    refine o_nil ?_
    refine h_next (fun _ h => (h.sort (by repeat constructor)).fewer (Hp.Le.refl _)) ?_
    refine h_go [14] (by kernel_rfl) rfl (TWHs.cons ?_ TWHs.nil)
    refine h_op #[true, true, true, true, true, true, true, true, true, true, true, true, true, true, true, false, false, false, false, false, false, false] rfl rfl ?_
    refine o_callQ trivial rfl Tryz.call165 rfl (limbAdd_any _ _ _ hdA hdB hdN) ?_
    refine o_nil ?_
    refine h_next (fun _ h => (h.sort (by repeat constructor)).fewer (Hp.Le.refl _)) ?_
    refine' h_take (i := 15) #[true, true, true, true, true, true, true, true, true, true, true, true, true, true, true, true, false, false, false, false, false, false] rfl rfl rfl (by kernel_rfl) (by kernel_rfl) (by kernel_rfl) rfl (qp_blk (qp_then (qp_then (qp_blk (qp_then qp_bp))))) (fun _ h => (h.sort (by repeat constructor)).fewer (Hp.Le.refl _)) ?hh21 ?kk21
    case hh21 =>
     refine o_pv trivial rfl rfl ?_
     refine o_nil ?_
     exact ⟨fun _ _ ha _ => ha⟩
    refine' h_take (i := 16) #[true, true, true, true, true, true, true, true, true, true, true, true, true, true, true, true, true, false, false, false, false, false] rfl rfl rfl (by kernel_rfl) (by kernel_rfl) (by kernel_rfl) rfl (qp_blk (qp_then (qp_then (qp_blk (qp_then qp_bp))))) (fun _ h => (h.sort (by repeat constructor)).fewer (Hp.Le.refl _)) ?hh22 ?kk22
    case hh22 =>
     refine o_pv trivial rfl rfl ?_
     refine o_nil ?_
     exact ⟨fun _ _ ha _ => ha⟩
    refine' h_take (i := 17) #[true, true, true, true, true, true, true, true, true, true, true, true, true, true, true, true, true, true, false, false, false, false] rfl rfl rfl (by kernel_rfl) (by kernel_rfl) (by kernel_rfl) rfl (qp_blk (qp_then (qp_then (qp_blk (qp_then qp_bp))))) (fun _ h => (h.sort (by repeat constructor)).fewer (Hp.Le.refl _)) ?hh23 ?kk23
    case hh23 =>
     refine o_pv trivial rfl rfl ?_
     refine o_nil ?_
     exact ⟨fun _ _ ha _ => ha⟩
    refine' h_take (i := 18) #[true, true, true, true, true, true, true, true, true, true, true, true, true, true, true, true, true, true, true, false, false, false] rfl rfl rfl (by kernel_rfl) (by kernel_rfl) (by kernel_rfl) rfl (qp_blk (qp_then (qp_then (qp_blk (qp_then qp_bp))))) (fun _ h => (h.sort (by repeat constructor)).fewer (Hp.Le.refl _)) ?hh24 ?kk24
    case hh24 =>
     refine o_elemV trivial rfl Tryz.underlying31 Tryz.sizeOf95 rfl rfl (by omega) ?_
     refine o_nil ?_
     exact ⟨fun _ _ ha _ => ha⟩
    refine h_go [19] (by kernel_rfl) rfl (TWHs.cons ?_ TWHs.nil)
    refine h_op #[true, true, true, true, true, true, true, true, true, true, true, true, true, true, true, true, true, true, true, true, false, false] rfl rfl ?_
    refine o_storeBox1 trivial rfl rfl rfl Tryz.sizeOf95 rfl (by repeat constructor) (by rw [wl_len]; omega) ?_
    refine o_nil ?_
    refine h_next (fun _ h => (h.sort (by repeat constructor)).fewer (Hp.Le.refl _)) ?_
    refine' h_take (i := 20) #[true, true, true, true, true, true, true, true, true, true, true, true, true, true, true, true, true, true, true, true, true, false] rfl rfl rfl (by kernel_rfl) (by kernel_rfl) (by kernel_rfl) rfl (qp_blk (qp_then (qp_then (qp_blk (qp_then qp_bp))))) (fun _ h => (h.sort (by repeat constructor)).fewer (Hp.Le.refl _)) ?hh25 ?kk25
    case hh25 =>
     refine o_elemV trivial rfl Tryz.underlying31 Tryz.sizeOf95 rfl rfl (by omega) ?_
     refine o_nil ?_
     exact ⟨fun _ _ ha _ => ha⟩
    refine h_go [21] (by kernel_rfl) rfl (TWHs.cons ?_ TWHs.nil)
    refine h_op #[true, true, true, true, true, true, true, true, true, true, true, true, true, true, true, true, true, true, true, true, true, true] rfl rfl ?_
    refine o_storeBox1 trivial rfl rfl rfl Tryz.sizeOf95 rfl (by repeat constructor) (by rw [List.length_set, wl_len]; omega) ?_
    refine o_nil ?_
    refine h_next (fun _ h => (h.sort (by repeat constructor)).fewer (Hp.Le.refl _)) ?_
    refine h_end (by kernel_rfl) ?_
    refine blk_n (then_c (c_region ?_))
    first | (refine o_add trivial rfl rfl rfl ?_ ?_; (omega)) | refine o_pv trivial rfl rfl ?_
    refine o_pv trivial rfl rfl ?_
    refine o_nil ?_
    exact again (i + 1, (O.set i ((dg A i + dg B i + dg O N) % 4294967296)).set N ((dg A i + dg B i + dg O N) / 4294967296)) (sub_cons rfl (sub_cons rfl (sub_cons rfl (sub_cons rfl (sub_cons rfl (sub_cons rfl sub_nil)))))) (fun _ h => h.wl2 i N ((dg A i + dg B i + dg O N) % 4294967296) ((dg A i + dg B i + dg O N) / 4294967296) (by omega) (by omega)) (by show N - (i + 1) < N - i; omega) ⟨by show i + 1 ≤ N; omega, (hO.set (by omega)).set (by omega), by simp only [List.length_set]; exact hl, add_step hl (by omega) hF (by omega)⟩
  ·
   have f1 := h1
   try simp only [bl] at f1
   refine c_exit (then_x (then_x (blk_eq rfl (then_c (c_seq ?_)))))
   have hiN : i = N := by omega
   subst hiN
   have hv : val O = val A + val B := by
     have e1 : val O = pre O (i + 1) := (pre_out (by omega)).symm
     rw [pre_out hNa, pre_out hNb] at hF
     rw [e1, pre, Nat.mul_comm, hF]
   refine c_sealW O Take.here hO (by unfold maxLen; omega) (fun I1 hx1 hs1 => ?_)
   rw [hl] at hs1
   refine c_region ?_
   refine o_pv trivial rfl rfl ?_
   refine o_callI trivial rfl Tryz.call99 rfl (natTrim_any _ _ hs1 (by omega)) ?_
   rintro _ I2 hx2 hs2
   refine o_pv trivial rfl rfl ?_
   refine o_nil (then_c (c_ret ?_))
   refine ret1 rfl rfl ?_
   refine leaf (hx1.trans hx2 (Nat.le_refl _)) (List.nil_sublist _) ?_; rw [hv] at hs2; exact hs2
theorem natSub_any (va vb : Value) (A B : List Nat) {I : Hp} (ha : Ws I va A) (hb : Ws I vb B) (hs : A.length ≤ 100000000) (hs2 : B.length ≤ 100000000) : Fun Tryz.prog 151 [va, vb] I [] (fun v I' _ => ∃ u, v = .tuple #[u, .bool (decide (val B ≤ val A))] ∧ (val B ≤ val A → Ws I' u (natW (val A - val B)))) := by
  have hle : lowL A ≤ A.length := low_le A A.length
  intro w hw
  refine enter2 _ Tryz.func151 rfl Tryz.ntmps151 rfl ?_ hw
  refine c_seq (c_region ?_)
  iterate 2 refine o_pv trivial rfl rfl ?_
  refine o_nil (then_c (c_seq (c_seq (c_region ?_))))
  iterate 2 refine o_pv trivial rfl rfl ?_
  refine o_callQ trivial rfl Tryz.call161 rfl (natCmp_any _ _ _ _ ha hb (by omega) (by omega)) ?_
  refine o_pv trivial rfl rfl ?_
  refine o_nil (then_c ?_)
  refine c_cond rfl (fun h1 => ?_) (fun h1 => ?_)
  ·
   have f1 := h1
   try simp only [bl] at f1
   have hlt : val A < val B := by
     rcases Nat.lt_trichotomy (val A) (val B) with h9 | h9 | h9
     · exact h9
     · rw [h9, cmpZ_self] at f1; omega
     · rw [cmpZ_gt (by omega)] at f1; omega
   refine c_seq (c_region ?_)
   iterate 2 refine o_pv trivial rfl rfl ?_
   refine o_nil (then_c (c_ret (then_r ?_)))
   refine ret2 rfl rfl rfl ?_
   refine leaf0 ⟨.slice none 0 0, ?_, fun h => absurd h (by omega)⟩; rw [decide_eq_false (by omega)]
  ·
   have f1 := h1
   try simp only [bl] at f1
   have hge : val B ≤ val A := by
     rcases Nat.lt_or_ge (val A) (val B) with h9 | h9
     · rw [cmpZ_lt (by omega)] at f1; omega
     · exact h9
   refine c_skip (then_c (c_seq (c_region ?_)))
   refine o_pv trivial rfl rfl ?_
   refine o_callQ trivial rfl Tryz.call126 rfl (limbLow_any _ _ ha (by omega)) ?_
   refine o_pv trivial rfl rfl ?_
   refine o_nil (then_c (c_seq (c_region ?_)))
   refine o_pv trivial rfl rfl ?_
   refine o_makeBox trivial rfl Tryz.underlying31 elemz95 rfl rfl (by omega) (by omega) (by first | omega | (unfold maxLen; omega)) (fun b17 => ?_)
   refine o_pv trivial rfl rfl ?_
   refine o_nil (then_c (c_seq ?_))
   rw [Int.toNat_natCast, made_wl]
   refine c_region ?_
   refine o_pv trivial rfl rfl ?_
   refine o_nil (then_c (c_seq (c_seq (c_region ?_))))
   iterate 2 refine o_pv trivial rfl rfl ?_
   refine o_nil (then_c (c_block ?_))
   refine c_loop (ι := Nat × List Nat × Nat) [0, 1, 7, 18] (.cons rfl (.cons rfl (.cons rfl (.cons rfl .nil)))) (fun x => lowL A - x.1) (fun x E0 => (8, .int .u32 (x.2.2 : Int)) :: (19, .int .i64 (x.1 : Int)) :: E0) (fun x => St w [] I [.box b17 (.cells (wl x.2.1).toArray 95 (0, 0))]) (fun x => x.1 ≤ lowL A ∧ Wds x.2.1 ∧ x.2.1.length = lowL A ∧ x.2.2 < 4294967296 ∧ pre x.2.1 x.1 + pre B x.1 = pre A x.1 + 4294967296 ^ x.1 * x.2.2) ((0, List.replicate (lowL A) 0, 0)) (sub_cons rfl (sub_cons rfl (sub_cons rfl (sub_cons rfl (sub_cons rfl (sub_cons rfl sub_nil)))))) (fun _ h => h) (⟨Nat.zero_le _, wds_zeros _, List.length_replicate, (show 0 < 4294967296 by decide), by simp only [pre, Nat.mul_zero]⟩) ?_
   rintro ⟨i, O, c⟩ ⟨hi, hO, hl, hc, hF⟩
   try dsimp only
   simp only at hi hO hl hc hF; have hdA := dg_lt ha.wds i; have hdB := dg_lt hb.wds i
   refine c_seq (c_region ?_)
   refine o_pv trivial rfl rfl ?_
   refine o_nil (then_c (c_seq ?_))
   refine c_cond rfl (fun h2 => ?_) (fun h2 => ?_)
   ·
    have f2 := h2
    try simp only [bl] at f2
    refine c_skip (then_c (c_seq (c_block (c_seq (c_region ?_)))))
    iterate 2 refine o_pv trivial rfl rfl ?_
    refine o_nil (then_c ?_)
    refine h_beginB (m := 17) [] (by repeat constructor) (by kernel_rfl) rfl ?_
    refine' h_take (i := 0) #[true, false, false, false, false, false, false, false, false, false, false, false, false, false, false, false, false] rfl rfl rfl (by kernel_rfl) (by kernel_rfl) (by kernel_rfl) rfl (qp_blk (qp_then (qp_then (qp_blk (qp_then qp_bp))))) (fun _ h => (h.sort (by repeat constructor)).fewer (Hp.Le.refl _)) ?hh0 ?kk0
    case hh0 =>
     refine o_pv trivial rfl rfl ?_
     refine o_nil ?_
     exact ⟨fun _ _ ha _ => ha⟩
    refine' h_take (i := 1) #[true, true, false, false, false, false, false, false, false, false, false, false, false, false, false, false, false] rfl rfl rfl (by kernel_rfl) (by kernel_rfl) (by kernel_rfl) rfl (qp_blk (qp_then (qp_then (qp_blk (qp_then qp_bp))))) (fun _ h => (h.sort (by repeat constructor)).fewer (Hp.Le.refl _)) ?hh1 ?kk1
    case hh1 =>
     refine o_pv trivial rfl rfl ?_
     refine o_nil ?_
     exact ⟨fun _ _ ha _ => ha⟩
    refine' h_take (i := 2) #[true, true, true, false, false, false, false, false, false, false, false, false, false, false, false, false, false] rfl rfl rfl (by kernel_rfl) (by kernel_rfl) (by kernel_rfl) rfl (qp_blk (qp_then (qp_then (qp_blk (qp_then qp_bp))))) (fun _ h => (h.sort (by repeat constructor)).fewer (Hp.Le.refl _)) ?hh2 ?kk2
    case hh2 =>
     refine o_pv trivial rfl rfl ?_
     refine o_nil ?_
     exact ⟨fun _ _ ha _ => ha⟩
    refine' h_take (i := 3) #[true, true, true, true, false, false, false, false, false, false, false, false, false, false, false, false, false] rfl rfl rfl (by kernel_rfl) (by kernel_rfl) (by kernel_rfl) rfl (qp_blk (qp_then (qp_then (qp_blk (qp_then qp_bp))))) (fun _ h => (h.sort (by repeat constructor)).fewer (Hp.Le.refl _)) ?hh3 ?kk3
    case hh3 =>
     refine o_pv trivial rfl rfl ?_
     refine o_nil ?_
     exact ⟨fun _ _ ha _ => ha⟩
    refine' h_take (i := 4) #[true, true, true, true, true, false, false, false, false, false, false, false, false, false, false, false, false] rfl rfl rfl (by kernel_rfl) (by kernel_rfl) (by kernel_rfl) rfl (qp_blk (qp_then (qp_then (qp_blk (qp_then qp_bp))))) (fun _ h => (h.sort (by repeat constructor)).fewer (Hp.Le.refl _)) ?hh4 ?kk4
    case hh4 =>
     refine o_elemW trivial rfl Tryz.underlying31 Tryz.sizeOf95 rfl (ha) rfl (by omega) ?_
     refine o_nil ?_
     exact ⟨fun _ _ ha _ => ha⟩
    refine' h_take (i := 5) #[true, true, true, true, true, true, false, false, false, false, false, false, false, false, false, false, false] rfl rfl rfl (by kernel_rfl) (by kernel_rfl) (by kernel_rfl) rfl (qp_blk (qp_then (qp_then (qp_blk (qp_then qp_bp))))) (fun _ h => (h.sort (by repeat constructor)).fewer (Hp.Le.refl _)) ?hh5 ?kk5
    case hh5 =>
     refine o_load1I trivial rfl Tryz.isAgg95 rfl (ha.cellI (k := i) (by omega) (by omega)) ?_
     refine o_nil ?_
     exact ⟨fun _ _ ha _ => ha⟩
    refine' h_take (i := 6) #[true, true, true, true, true, true, true, false, false, false, false, false, false, false, false, false, false] rfl rfl rfl (by kernel_rfl) (by kernel_rfl) (by kernel_rfl) rfl (qp_blk (qp_then (qp_then (qp_blk (qp_then qp_bp))))) (fun _ h => (h.sort (by repeat constructor)).fewer (Hp.Le.refl _)) ?hh6 ?kk6
    case hh6 =>
     refine o_pv trivial rfl rfl ?_
     refine o_nil ?_
     exact ⟨fun _ _ ha _ => ha⟩
    refine' h_take (i := 7) #[true, true, true, true, true, true, true, true, false, false, false, false, false, false, false, false, false] rfl rfl rfl (by kernel_rfl) (by kernel_rfl) (by kernel_rfl) rfl (qp_blk (qp_then (qp_then (qp_blk (qp_then qp_bp))))) (fun _ h => (h.sort (by repeat constructor)).fewer (Hp.Le.refl _)) ?hh7 ?kk7
    case hh7 =>
     refine o_pv trivial rfl rfl ?_
     refine o_nil ?_
     exact ⟨fun _ _ ha _ => ha⟩
    refine' h_take (i := 9) #[true, true, true, true, true, true, true, true, false, true, false, false, false, false, false, false, false] rfl rfl rfl (by kernel_rfl) (by kernel_rfl) (by kernel_rfl) rfl (qp_blk (qp_then (qp_then (qp_blk (qp_then qp_bp))))) (fun _ h => (h.sort (by repeat constructor)).fewer (Hp.Le.refl _)) ?hh8 ?kk8
    case hh8 =>
     refine o_pv trivial rfl rfl ?_
     refine o_nil ?_
     exact ⟨fun _ _ ha _ => ha⟩
    refine h_go [8] (by kernel_rfl) rfl (TWHs.cons ?_ TWHs.nil)
    refine h_op #[true, true, true, true, true, true, true, true, true, true, false, false, false, false, false, false, false] rfl rfl ?_
    refine o_callQ trivial rfl Tryz.call163 rfl (natAt_any _ _ i hb) ?_
    refine o_nil ?_
    refine h_next (fun _ h => (h.sort (by repeat constructor)).fewer (Hp.Le.refl _)) ?_
    refine h_go [10] (by kernel_rfl) rfl (TWHs.cons ?_ TWHs.nil)
    refine h_op #[true, true, true, true, true, true, true, true, true, true, true, false, false, false, false, false, false] rfl rfl ?_
    refine o_call0 trivial rfl Tryz.call162 rfl (limbSub_any _ _ _ hdA hdB hc) ?_
    rintro _ ⟨s, k, rfl, hs1, hk1, hsk⟩
    refine o_nil ?_
    refine h_next (fun _ h => (h.sort (by repeat constructor)).fewer (Hp.Le.refl _)) ?_
    refine' h_take (i := 11) #[true, true, true, true, true, true, true, true, true, true, true, true, false, false, false, false, false] rfl rfl rfl (by kernel_rfl) (by kernel_rfl) (by kernel_rfl) rfl (qp_blk (qp_then (qp_then (qp_blk (qp_then qp_bp))))) (fun _ h => (h.sort (by repeat constructor)).fewer (Hp.Le.refl _)) ?hh9 ?kk9
    case hh9 =>
     refine o_pv trivial rfl rfl ?_
     refine o_nil ?_
     exact ⟨fun _ _ ha _ => ha⟩
    refine' h_take (i := 12) #[true, true, true, true, true, true, true, true, true, true, true, true, true, false, false, false, false] rfl rfl rfl (by kernel_rfl) (by kernel_rfl) (by kernel_rfl) rfl (qp_blk (qp_then (qp_then (qp_blk (qp_then qp_bp))))) (fun _ h => (h.sort (by repeat constructor)).fewer (Hp.Le.refl _)) ?hh10 ?kk10
    case hh10 =>
     refine o_pv trivial rfl rfl ?_
     refine o_nil ?_
     exact ⟨fun _ _ ha _ => ha⟩
    refine' h_take (i := 13) #[true, true, true, true, true, true, true, true, true, true, true, true, true, true, false, false, false] rfl rfl rfl (by kernel_rfl) (by kernel_rfl) (by kernel_rfl) rfl (qp_blk (qp_then (qp_then (qp_blk (qp_then qp_bp))))) (fun _ h => (h.sort (by repeat constructor)).fewer (Hp.Le.refl _)) ?hh11 ?kk11
    case hh11 =>
     refine o_pv trivial rfl rfl ?_
     refine o_nil ?_
     exact ⟨fun _ _ ha _ => ha⟩
    refine' h_take (i := 14) #[true, true, true, true, true, true, true, true, true, true, true, true, true, true, true, false, false] rfl rfl rfl (by kernel_rfl) (by kernel_rfl) (by kernel_rfl) rfl (qp_blk (qp_then (qp_then (qp_blk (qp_then qp_bp))))) (fun _ h => (h.sort (by repeat constructor)).fewer (Hp.Le.refl _)) ?hh12 ?kk12
    case hh12 =>
     refine o_elemV trivial rfl Tryz.underlying31 Tryz.sizeOf95 rfl rfl (by omega) ?_
     refine o_nil ?_
     exact ⟨fun _ _ ha _ => ha⟩
    refine h_go [15] (by kernel_rfl) rfl (TWHs.cons ?_ TWHs.nil)
    refine h_op #[true, true, true, true, true, true, true, true, true, true, true, true, true, true, true, true, false] rfl rfl ?_
    refine o_storeBox1 trivial rfl rfl rfl Tryz.sizeOf95 rfl (by repeat constructor) (by rw [wl_len]; omega) ?_
    refine o_nil ?_
    refine h_next (fun _ h => (h.sort (by repeat constructor)).fewer (Hp.Le.refl _)) ?_
    refine' h_take (i := 16) #[true, true, true, true, true, true, true, true, true, true, true, true, true, true, true, true, true] rfl rfl rfl (by kernel_rfl) (by kernel_rfl) (by kernel_rfl) rfl (qp_blk (qp_then (qp_then (qp_blk (qp_then qp_bp))))) (fun _ h => (h.sort (by repeat constructor)).fewer (Hp.Le.refl _)) ?hh13 ?kk13
    case hh13 =>
     refine o_pv trivial rfl rfl ?_
     refine o_nil ?_
     exact ⟨fun _ _ ha _ => ha⟩
    refine h_end (by kernel_rfl) ?_
    refine blk_n (then_c (c_region ?_))
    first | (refine o_add trivial rfl rfl rfl ?_ ?_; (omega)) | refine o_pv trivial rfl rfl ?_
    refine o_pv trivial rfl rfl ?_
    refine o_nil ?_
    exact again (i + 1, O.set i s, k) (sub_cons rfl (sub_cons rfl (sub_cons rfl (sub_cons rfl (sub_cons rfl (sub_cons rfl sub_nil)))))) (fun _ h => h.wl1 i s (by omega)) (by show lowL A - (i + 1) < lowL A - i; omega) ⟨by show i + 1 ≤ lowL A; omega, hO.set hs1, by simp only [List.length_set]; exact hl, hk1, sub_step (by omega) hF (by omega)⟩
   ·
    have f2 := h2
    try simp only [bl] at f2
    refine c_exit (then_x (then_x (blk_eq rfl (then_c (c_seq ?_)))))
    have hiN : i = lowL A := by omega
    subst hiN
    have hv : val O = val A - val B := by
      have e1 : pre O (lowL A) = val O := pre_out (by omega)
      have e2 : pre A (lowL A) = val A := pre_low (l := A) (n := A.length)
      have e3 : pre B (lowL A) ≤ val B := pre_le_val _
      have e4 : val B ≤ pre B (lowL A) := by
        have e5 : lowL B ≤ lowL A := by
          rcases Nat.lt_or_ge (lowL A) (lowL B) with h9 | h9
          · have := lt_of_low ha.wds hb.wds h9; omega
          · exact h9
        have e6 : pre B (lowL B) = val B := pre_low (l := B) (n := B.length)
        have e7 := pre_le (l := B) e5
        omega
      have e8 := pre_lt hO (lowL A)
      rw [e1] at hF e8
      rw [e2] at hF
      have e9 : c = 0 := by
        rcases Nat.eq_zero_or_pos c with h9 | h9
        · exact h9
        · have : 4294967296 ^ lowL A * 1 ≤ 4294967296 ^ lowL A * c := Nat.mul_le_mul_left _ h9
          rw [Nat.mul_one] at this
          generalize 4294967296 ^ lowL A * c = z1 at *
          generalize 4294967296 ^ lowL A = z2 at *
          omega
      rw [e9, Nat.mul_zero] at hF
      omega
    refine c_sealW O Take.here hO (by unfold maxLen; omega) (fun I1 hx1 hs1 => ?_)
    rw [hl] at hs1
    refine c_region ?_
    refine o_pv trivial rfl rfl ?_
    refine o_callI trivial rfl Tryz.call99 rfl (natTrim_any _ _ hs1 (by omega)) ?_
    rintro _ I2 hx2 hs2
    iterate 2 refine o_pv trivial rfl rfl ?_
    refine o_nil (then_c (c_ret ?_))
    refine ret2 rfl rfl rfl ?_
    refine leaf (hx1.trans hx2 (Nat.le_refl _)) (List.nil_sublist _) ?_; rw [decide_eq_true hge, ← hv]; exact ⟨_, rfl, fun _ => hs2⟩
end Go.Proofs.YtjgbjaaekknenaaGreat
/-
  Layer 3 of the program: products, powers, shifts.
-/
namespace Go.Proofs.YtjgbjaaekknenaaGreat
open Go Go.Tw
set_option linter.unusedVariables false
set_option linter.unusedSimpArgs false
set_option linter.unnecessarySimpa false
set_option maxHeartbeats 1000000
theorem mul_word {x w o c : Nat} (hx : x < 4294967296) (hw : w < 4294967296) (ho : o < 4294967296) (hc : c < 4294967296) : (x * w + o + c) / 4294967296 < 4294967296 := by
  have h : x * w ≤ 18446744065119617025 := Nat.mul_le_mul (show x ≤ 4294967295 by omega) (show w ≤ 4294967295 by omega)
  omega
/-- What a line leaves of a row: words O0 become O, from off on, so many words of a and one more. -/
structure Line (O0 O A : List Nat) (off w c : Nat) : Prop where
  wds : Wds O
  len : O.length = O0.length
  low : ∀ j, j < off → dg O j = dg O0 j
  high : ∀ j, off + A.length < j → dg O j = dg O0 j
  sum : pre O (off + A.length + 1) = pre O0 (off + A.length) + (val A * w + c) * 4294967296 ^ off
theorem line_any (b : Nat) (O0 : List Nat) (off k cap : Nat) (va : Value) (A : List Nat) (m c : Nat) {I : Hp} (ha : Ws I va A) (h0 : Wds O0) (hk : k = A.length + 1) (hoff : off + A.length < O0.length) (hs : O0.length ≤ 1000000000) (hm : m < 4294967296) (hc : c < 4294967296) :
    Fun Tryz.prog 137 [.slice (some ⟨b, off, none⟩) k cap, va, (.int .u32 (m : Int)), .int .u32 (c : Int)] I [.box b (.cells (wl O0).toArray 95 (0, 0))] (fun v I' B => v = .tuple #[] ∧ I = I' ∧ ∃ O, B = [.box b (.cells (wl O).toArray 95 (0, 0))] ∧ Line O0 O A off m c) := by
  intro w hw
  refine enter4 _ Tryz.func137 rfl Tryz.ntmps137 rfl ?_ hw
  refine c_seq (c_seq (c_region ?_))
  refine o_pv trivial rfl rfl ?_
  refine o_lenW trivial rfl Tryz.underlying31 rfl (ha) ?_
  refine o_pv trivial rfl rfl ?_
  refine o_nil (then_c (c_block ?_))
  refine c_loop (ι := Nat × List Nat × Nat) [0, 1, 2, 10, 11] (.cons rfl (.cons rfl (.cons rfl (.cons rfl (.cons rfl .nil))))) (fun x => A.length - x.1) (fun x E0 => (3, .int .u32 (x.2.2 : Int)) :: (12, .int .i64 (x.1 : Int)) :: E0) (fun x => St w _ I [.box b (.cells (wl x.2.1).toArray 95 (0, 0))]) (fun x => x.1 ≤ A.length ∧ Wds x.2.1 ∧ x.2.1.length = O0.length ∧ x.2.2 < 4294967296 ∧ (∀ j, j < off → dg x.2.1 j = dg O0 j) ∧ (∀ j, off + x.1 ≤ j → dg x.2.1 j = dg O0 j) ∧ pre x.2.1 (off + x.1) + 4294967296 ^ (off + x.1) * x.2.2 = pre O0 (off + x.1) + (pre A x.1 * m + c) * 4294967296 ^ off) ((0, O0, c)) (sub_cons rfl (sub_cons rfl (sub_cons rfl (sub_cons rfl (sub_cons rfl (sub_cons rfl (sub_cons rfl sub_nil))))))) (fun _ h => h) (⟨Nat.zero_le _, h0, rfl, hc, fun _ _ => rfl, fun _ _ => rfl, by simp only [pre]; rw [Nat.add_zero, Nat.zero_mul, Nat.zero_add, Nat.mul_comm]⟩) ?_
  rintro ⟨i, O, q⟩ ⟨hi, hO, hl, hq, hlow, hhigh, hF⟩
  try dsimp only
  simp only at hi hO hl hq hlow hhigh hF; have hdA := dg_lt ha.wds i; have hdO := dg_lt hO (off + i)
  refine c_seq (c_region ?_)
  refine o_pv trivial rfl rfl ?_
  refine o_nil (then_c (c_seq ?_))
  refine c_cond rfl (fun h1 => ?_) (fun h1 => ?_)
  ·
   have f1 := h1
   try simp only [bl] at f1
   refine c_skip (then_c (c_seq (c_block (c_seq (c_region ?_)))))
   refine o_pv trivial rfl rfl ?_
   refine o_elemW trivial rfl Tryz.underlying31 Tryz.sizeOf95 rfl (ha) rfl (by omega) ?_
   refine o_load1I trivial rfl Tryz.isAgg95 rfl (ha.cellI (k := i) (by omega) (by omega)) ?_
   iterate 2 refine o_pv trivial rfl rfl ?_
   refine o_nil (then_c (c_region ?_))
   iterate 6 refine o_pv trivial rfl rfl ?_
   refine o_elemV trivial rfl Tryz.underlying31 Tryz.sizeOf95 rfl rfl (by omega) ?_
   refine o_loadBox1 trivial rfl Tryz.isAgg95 rfl (by repeat constructor) ((by rw [show (off + (i : Int).toNat * 1) = off + i by omega]; exact wl_get (by omega))) ?_
   refine o_pv trivial rfl rfl ?_
   refine o_callQ trivial rfl Tryz.call157 rfl (limbMul_any _ _ _ _ hdA hm hdO hq) ?_
   iterate 4 refine o_pv trivial rfl rfl ?_
   refine o_elemV trivial rfl Tryz.underlying31 Tryz.sizeOf95 rfl rfl (by omega) ?_
   refine o_storeBox1 trivial rfl rfl rfl Tryz.sizeOf95 rfl (by repeat constructor) (by rw [wl_len]; omega) ?_
   refine o_nil (blk_n (then_c (c_region ?_)))
   first | (refine o_add trivial rfl rfl rfl ?_ ?_; (omega)) | refine o_pv trivial rfl rfl ?_
   refine o_pv trivial rfl rfl ?_
   refine o_nil ?_
   exact again (i + 1, O.set (off + i) ((dg A i * m + dg O (off + i) + q) % 4294967296), (dg A i * m + dg O (off + i) + q) / 4294967296) (sub_cons rfl (sub_cons rfl (sub_cons rfl (sub_cons rfl (sub_cons rfl (sub_cons rfl (sub_cons rfl sub_nil))))))) (fun _ h => h.wl1 (off + i) _ (by omega)) (by show A.length - (i + 1) < A.length - i; omega) ⟨by show i + 1 ≤ A.length; omega, hO.set (Nat.mod_lt _ (by decide)), by simp only [List.length_set]; exact hl, mul_word hdA hm hdO hq, fun j hj => by rw [dg_set (by omega), if_neg (by omega)]; exact hlow j hj, fun j hj => by
     have hj' : off + (i + 1) ≤ j := hj
     rw [dg_set (by omega), if_neg (by omega)]; exact hhigh j (by omega), line_step (by omega) (hhigh _ (Nat.le_refl _)) hF (Nat.mod_add_div _ _)⟩
  ·
   have f1 := h1
   try simp only [bl] at f1
   refine c_exit (then_x (then_x (blk_eq rfl (then_c ?_))))
   have hiN : i = A.length := by omega
   subst hiN
   refine c_region ?_
   iterate 2 refine o_pv trivial rfl rfl ?_
   refine o_lenW trivial rfl Tryz.underlying31 rfl (ha) ?_
   refine o_pv trivial rfl rfl ?_
   refine o_elemV trivial rfl Tryz.underlying31 Tryz.sizeOf95 rfl rfl (by omega) ?_
   refine o_storeBox1 trivial rfl rfl rfl Tryz.sizeOf95 rfl (by repeat constructor) (by rw [wl_len]; omega) ?_
   refine o_nil ?_
   refine ret0 rfl ?_
   exact fun w' hw' => ⟨I, [.box b (.cells (wl (O.set (off + A.length) q)).toArray 95 (0, 0))], hw'.wl1 (off + A.length) q (by omega), Ext.refl _ _, rfl, rfl, _, rfl, hO.set hq, by rw [List.length_set]; exact hl, fun j hj => by rw [dg_set (by omega), if_neg (by omega)]; exact hlow j hj, fun j hj => by rw [dg_set (by omega), if_neg (by omega)]; exact hhigh j (by omega), line_end (by omega) hF⟩
theorem one_any (va : Value) (A : List Nat) (m c : Nat) {I : Hp} (ha : Ws I va A) (hs : A.length ≤ 100000000) (hm : m < 4294967296) (hc : c < 4294967296) : Fun Tryz.prog 149 [va, .int .u32 (m : Int), .int .u32 (c : Int)] I [] (fun v I' _ => Ws I' v (natW (val A * m + c))) := by
  intro w hw
  refine enter3 _ Tryz.func149 rfl Tryz.ntmps149 rfl ?_ hw
  refine c_seq (c_region ?_)
  refine o_pv trivial rfl rfl ?_
  refine o_nil (then_c (c_seq (c_region ?_)))
  refine o_pv trivial rfl rfl ?_
  refine o_lenW trivial rfl Tryz.underlying31 rfl (ha) ?_
  first | (refine o_add trivial rfl rfl rfl ?_ ?_; (omega)) | refine o_pv trivial rfl rfl ?_
  refine o_makeBox trivial rfl Tryz.underlying31 elemz95 rfl rfl (by omega) (by omega) (by first | omega | (unfold maxLen; omega)) (fun b11 => ?_)
  refine o_pv trivial rfl rfl ?_
  refine o_nil (then_c (c_seq ?_))
  rw [show ((A.length : Int) + 1).toNat = A.length + 1 by omega, made_wl]
  refine c_region ?_
  iterate 4 refine o_pv trivial rfl rfl ?_
  refine o_callK trivial rfl Tryz.call137 rfl (line_any b11 (List.replicate (A.length + 1) 0) 0 (A.length + 1) (A.length + 1) va A m c ha (wds_zeros _) rfl (by rw [List.length_replicate]; omega) (by rw [List.length_replicate]; omega) hm hc) (by repeat constructor) ?_
  rintro _ _ _ hx1 ⟨rfl, rfl, O, rfl, hL⟩
  refine o_nil (then_c (c_seq ?_))
  have hl : O.length = A.length + 1 := by rw [hL.len, List.length_replicate]
  have hv : val O = val A * m + c := by
    have e := hL.sum
    rw [pre_zeros, Nat.zero_add, Nat.pow_zero, Nat.mul_one, Nat.zero_add] at e
    rw [← e]; exact (pre_out (by omega)).symm
  refine c_sealW O Take.here hL.wds (by unfold maxLen; omega) (fun I1 hx1 hs1 => ?_)
  rw [hl] at hs1
  refine c_region ?_
  refine o_pv trivial rfl rfl ?_
  refine o_callI trivial rfl Tryz.call99 rfl (natTrim_any _ _ hs1 (by omega)) ?_
  rintro _ I2 hx2 hs2
  refine o_pv trivial rfl rfl ?_
  refine o_nil (then_c (c_ret ?_))
  refine ret1 rfl rfl ?_
  refine leaf (hx1.trans hx2 (Nat.le_refl _)) (List.nil_sublist _) ?_; rw [hv] at hs2; exact hs2
theorem mul_any (va vb : Value) (A B : List Nat) {I : Hp} (ha : Ws I va A) (hb : Ws I vb B) (hs : A.length ≤ 100000000) (hs2 : B.length ≤ 100000000) : Fun Tryz.prog 108 [va, vb] I [] (fun v I' _ => Ws I' v (natW (val A * val B))) := by
  intro w hw
  refine enter2 _ Tryz.func108 rfl Tryz.ntmps108 rfl ?_ hw
  refine c_seq (c_region ?_)
  refine o_pv trivial rfl rfl ?_
  refine o_nil (then_c (c_seq (c_region ?_)))
  refine o_pv trivial rfl rfl ?_
  refine o_lenW trivial rfl Tryz.underlying31 rfl (ha) ?_
  refine o_pv trivial rfl rfl ?_
  refine o_lenW trivial rfl Tryz.underlying31 rfl (hb) ?_
  first | (refine o_add trivial rfl rfl rfl ?_ ?_; (omega)) | refine o_pv trivial rfl rfl ?_
  first | (refine o_add trivial rfl rfl rfl ?_ ?_; (omega)) | refine o_pv trivial rfl rfl ?_
  refine o_makeBox trivial rfl Tryz.underlying31 elemz95 rfl rfl (by omega) (by omega) (by first | omega | (unfold maxLen; omega)) (fun b15 => ?_)
  refine o_pv trivial rfl rfl ?_
  refine o_nil (then_c (c_seq (c_seq ?_)))
  rw [show ((A.length : Int) + (B.length : Int) + 1).toNat = A.length + B.length + 1 by omega, made_wl]
  refine c_region ?_
  refine o_pv trivial rfl rfl ?_
  refine o_lenW trivial rfl Tryz.underlying31 rfl (hb) ?_
  refine o_pv trivial rfl rfl ?_
  refine o_nil (then_c (c_block ?_))
  refine c_loop (ι := Nat × List Nat) [0, 5, 16, 17] (.cons rfl (.cons rfl (.cons rfl (.cons rfl .nil)))) (fun x => B.length - x.1) (fun x E0 => (18, .int .i64 (x.1 : Int)) :: E0) (fun x => St w [] I [.box b15 (.cells (wl x.2).toArray 95 (0, 0))]) (fun x => x.1 ≤ B.length ∧ Wds x.2 ∧ x.2.length = A.length + B.length + 1 ∧ pre x.2 (A.length + x.1) = val A * pre B x.1 ∧ ∀ j, A.length + x.1 ≤ j → dg x.2 j = 0) ((0, List.replicate (A.length + B.length + 1) 0)) (sub_cons rfl (sub_cons rfl (sub_cons rfl (sub_cons rfl (sub_cons rfl sub_nil))))) (fun _ h => h) (⟨Nat.zero_le _, wds_zeros _, List.length_replicate, by simp only [pre_zeros]; rfl, fun j _ => dg_zeros _ j⟩) ?_
  rintro ⟨i, O⟩ ⟨hi, hO, hl, hF, hz⟩
  try dsimp only
  simp only at hi hO hl hF hz; have hdB := dg_lt hb.wds i
  refine c_seq (c_region ?_)
  refine o_pv trivial rfl rfl ?_
  refine o_nil (then_c (c_seq ?_))
  refine c_cond rfl (fun h1 => ?_) (fun h1 => ?_)
  ·
   have f1 := h1
   try simp only [bl] at f1
   refine c_skip (then_c (c_seq (c_block (c_seq (c_region ?_)))))
   refine o_pv trivial rfl rfl ?_
   refine o_elemW trivial rfl Tryz.underlying31 Tryz.sizeOf95 rfl (hb) rfl (by omega) ?_
   refine o_load1I trivial rfl Tryz.isAgg95 rfl (hb.cellI (k := i) (by omega) (by omega)) ?_
   iterate 2 refine o_pv trivial rfl rfl ?_
   refine o_nil (then_c (c_seq (c_region ?_)))
   iterate 2 refine o_pv trivial rfl rfl ?_
   refine o_lenW trivial rfl Tryz.underlying31 rfl (ha) ?_
   first | (refine o_add trivial rfl rfl rfl ?_ ?_; (omega)) | refine o_pv trivial rfl rfl ?_
   first | (refine o_add trivial rfl rfl rfl ?_ ?_; (omega)) | refine o_pv trivial rfl rfl ?_
   refine o_pv trivial rfl rfl ?_
   refine o_nil (then_c (c_region ?_))
   iterate 4 refine o_pv trivial rfl rfl ?_
   refine o_cutV3 trivial rfl Tryz.underlying31 Tryz.sizeOf95 rfl rfl rfl rfl (by omega) ?_
   rw [show 0 + (i : Int).toNat * 1 = i by omega, show ((i : Int) + (A.length : Int) + 1).toNat - (i : Int).toNat = A.length + 1 by omega]
   iterate 2 refine o_pv trivial rfl rfl ?_
   refine o_callK trivial rfl Tryz.call137 rfl (line_any b15 O i (A.length + 1) (A.length + 1) va A (dg B i) 0 ha hO rfl (by omega) (by omega) hdB (by decide)) (by repeat constructor) ?_
   rintro _ _ _ hx1 ⟨rfl, rfl, O', rfl, hL⟩
   refine o_nil (blk_n (then_c (c_region ?_)))
   first | (refine o_add trivial rfl rfl rfl ?_ ?_; (omega)) | refine o_pv trivial rfl rfl ?_
   refine o_pv trivial rfl rfl ?_
   refine o_nil ?_
   exact again (i + 1, O') (sub_cons rfl (sub_cons rfl (sub_cons rfl (sub_cons rfl (sub_cons rfl sub_nil))))) (fun _ h => h) (by show B.length - (i + 1) < B.length - i; omega) ⟨by show i + 1 ≤ B.length; omega, hL.wds, by rw [hL.len]; exact hl, by
     have e := hL.sum
     rw [Nat.add_comm i, hF, Nat.add_zero] at e
     show pre O' (A.length + (i + 1)) = val A * pre B (i + 1)
     rw [← Nat.add_assoc, e, pre, Nat.add_zero, Nat.mul_add, Nat.mul_assoc], fun j hj => by
     have hj' : A.length + (i + 1) ≤ j := hj
     rw [hL.high j (by omega)]; exact hz j (by omega)⟩
  ·
   have f1 := h1
   try simp only [bl] at f1
   refine c_exit (then_x (then_x (blk_eq rfl (then_c (c_seq ?_)))))
   have hiN : i = B.length := by omega
   subst hiN
   have hv : val O = val A * val B := by
     have e1 : val O = pre O (A.length + B.length + 1) := (pre_out (by omega)).symm
     rw [e1, pre, hF, hz _ (Nat.le_refl _), Nat.zero_mul, Nat.add_zero]; rfl
   refine c_sealW O Take.here hO (by unfold maxLen; omega) (fun I1 hx1 hs1 => ?_)
   rw [hl] at hs1
   refine c_region ?_
   refine o_pv trivial rfl rfl ?_
   refine o_callI trivial rfl Tryz.call99 rfl (natTrim_any _ _ hs1 (by omega)) ?_
   rintro _ I2 hx2 hs2
   refine o_pv trivial rfl rfl ?_
   refine o_nil (then_c (c_ret ?_))
   refine ret1 rfl rfl ?_
   refine leaf (hx1.trans hx2 (Nat.le_refl _)) (List.nil_sublist _) ?_; rw [hv] at hs2; exact hs2
end Go.Proofs.YtjgbjaaekknenaaGreat
/-
  Layers 3 and 4 of the program: powers, shifts, division.
-/
namespace Go.Proofs.YtjgbjaaekknenaaGreat
open Go Go.Tw
set_option linter.unusedVariables false
set_option linter.unusedSimpArgs false
set_option linter.unnecessarySimpa false
set_option maxHeartbeats 1000000
theorem natW_len_of {n k m : Nat} (h : n < 4294967296 ^ k) (hm : k ≤ m) : (natW n).length ≤ m := Nat.le_trans (natW_len_le h) hm
theorem pow_len {a k : Nat} (h : a < 4294967296 ^ k) (i : Nat) : (natW (a ^ i)).length ≤ k * i + 1 := by
  refine natW_len_le ?_
  rcases Nat.eq_zero_or_pos i with h0 | h0
  · subst h0; rw [Nat.pow_zero, Nat.mul_zero, Nat.zero_add]; decide
  · have h1 : a ^ i < (4294967296 ^ k) ^ i := Nat.pow_lt_pow_left h (by omega)
    rw [← Nat.pow_mul] at h1
    exact Nat.lt_of_lt_of_le h1 (Nat.pow_le_pow_right (by decide) (by omega))
theorem small_pow {a n : Nat} (h : a ≤ 1) : a ^ min n 1 = a ^ n := by
  rcases Nat.eq_zero_or_pos n with h0 | h0
  · subst h0; rfl
  · rw [Nat.min_eq_right h0, Nat.pow_one]
    rcases (by omega : a = 0 ∨ a = 1) with h1 | h1
    · subst h1; exact (Nat.zero_pow h0).symm
    · subst h1; exact (Nat.one_pow n).symm
theorem bitZ_big {n : Nat} : 1 < bitZ n ↔ 1 < n := by
  constructor
  · intro h
    have h0 : n ≠ 0 := fun e => by subst e; simp [bitZ] at h
    have := bitZ_le h0
    have h2 : 2 ^ 1 ≤ 2 ^ (bitZ n - 1) := Nat.pow_le_pow_right (by decide) (by omega)
    omega
  · intro h
    have := bitZ_lt n
    rcases Nat.lt_or_ge 1 (bitZ n) with h1 | h1
    · exact h1
    · have h2 : 2 ^ bitZ n ≤ 2 ^ 1 := Nat.pow_le_pow_right (by decide) h1
      omega
theorem pow_any (va : Value) (A : List Nat) (m : Nat) {I : Hp} (ha : Ws I va A) (hs : A.length ≤ 4096) (hm : m ≤ 64) (hsm : A.length * m ≤ 4096) : Fun Tryz.prog 110 [va, .int .i64 (m : Int)] I [] (fun v I' _ => ∃ u, v = .tuple #[u, .bool true] ∧ Ws I' u (natW (val A ^ m))) := by
  have hle : lowL A ≤ A.length := low_le A A.length
  have hb := bitZ_big (n := val A)
  have hlt := val_lt ha.wds
  have hcut : Ws I (slcCut va 0 (lowL A) 1) (natW (val A)) := by
    have h := ha.cut (lo := 0) (hi := lowL A) (Nat.zero_le _) hle
    rw [List.drop_zero, trim_eq ha.wds] at h
    exact h
  have hnl : (natW (val A)).length ≤ 4096 := by rw [← lowL_len ha.wds]; omega
  have hlm : lowL A * m ≤ 4096 := Nat.le_trans (Nat.mul_le_mul_right _ hle) hsm
  intro w hw
  refine enter2 _ Tryz.func110 rfl Tryz.ntmps110 rfl ?_ hw
  refine c_seq (c_region ?_)
  iterate 2 refine o_pv trivial rfl rfl ?_
  refine o_nil (then_c (c_seq (c_region ?_)))
  refine o_pv trivial rfl rfl ?_
  refine o_callQ trivial rfl Tryz.call126 rfl (limbLow_any _ _ ha (by omega)) ?_
  refine o_pv trivial rfl rfl ?_
  refine o_nil (then_c (c_seq (c_region ?_)))
  refine o_pv trivial rfl rfl ?_
  refine o_callQ trivial rfl Tryz.call96 rfl (natBits_any _ _ ha (by omega)) ?_
  iterate 2 refine o_pv trivial rfl rfl ?_
  refine o_nil (then_c (c_seq (c_seq (c_region ?_))))
  iterate 2 refine o_pv trivial rfl rfl ?_
  refine' o_or trivial trivial rfl rfl rfl rfl rfl rfl rfl rfl (fun hb16 => ?_) ?_
  rotate_left
  ·
   have fb16 := hb16
   try simp only [bl] at fb16
   refine o_pv (wants_some rfl rfl hb16) rfl rfl ?_
   refine' o_and (wants_some rfl rfl hb16) (wants_some rfl rfl hb16) rfl rfl rfl rfl rfl rfl rfl rfl (fun hb18 => ?_) ?_
   rotate_left
   ·
    have fb18 := hb18
    try simp only [bl] at fb18
    iterate 2 refine o_pv (wants_some rfl rfl hb18) rfl rfl ?_
    have hpos : lowL A ≠ 0 := fun e => by
      have := (lowL_zero ha.wds).1 e
      omega
    have hq1 : (0 : Int) ≤ 4096 / (lowL A : Int) := Int.ediv_nonneg (by decide) (by omega)
    have hq2 : (4096 : Int) / (lowL A : Int) ≤ 4096 := Int.ediv_le_self _ (by decide)
    refine o_quo (wants_some rfl rfl hb18) rfl rfl rfl (by omega) (by first | rfl | rw [IntWalk.i64_in _ (by omega)]) ?_
    refine o_pv (wants_some rfl rfl hb18) rfl rfl ?_
    refine o_nil ?_
    exact joins rfl
   refine o_nil ?_
   exact joins rfl
  refine o_nil (then_c ?_)
  refine c_cond rfl (fun h1 => ?_) (fun h1 => ?_)
  ·
   have f1 := h1
   try simp only [bl] at f1
   exfalso
   rcases f1 with f1 | f1
   · omega
   · have hpos : lowL A ≠ 0 := fun e => by
       have := (lowL_zero ha.wds).1 e
       omega
     have : (m : Int) ≤ 4096 / (lowL A : Int) := Int.le_ediv_of_mul_le (by omega) (by have h9 := Int.ofNat_le.2 hlm; rw [Int.natCast_mul, Int.mul_comm] at h9; exact h9)
     omega
  ·
   have f1 := h1
   try simp only [bl] at f1
   refine c_skip (then_c ?_)
   refine c_cut (ι := Nat) [0, 6] (.cons rfl (.cons rfl .nil)) (fun x E0 => (1, .int .i64 (x : Int)) :: E0) (fun x => St w [] I []) (fun x => val A ^ x = val A ^ m ∧ x ≤ m ∧ x ≤ 64) ?_ ?_
   ·
    refine c_seq (c_region ?_)
    iterate 2 refine o_pv trivial rfl rfl ?_
    refine o_nil (then_c ?_)
    refine c_cond rfl (fun h2 => ?_) (fun h2 => ?_)
    ·
     have f2 := h2
     try simp only [bl] at f2
     refine c_region ?_
     refine o_pv trivial rfl rfl ?_
     refine o_min2 trivial rfl rfl rfl ?_
     refine o_pv trivial rfl rfl ?_
     refine o_nil ?_
     first | exact meet (min m 1) (by rw [show ((min m 1 : Nat) : Int) = min (m : Int) 1 by omega]; exact (sub_cons rfl (sub_cons rfl (sub_cons rfl sub_nil)))) (fun _ h => h) ⟨small_pow (by omega), by omega, by omega⟩ | exact meet m (sub_cons rfl (sub_cons rfl (sub_cons rfl sub_nil))) (fun _ h => h) ⟨rfl, Nat.le_refl _, hm⟩
    ·
     have f2 := h2
     try simp only [bl] at f2
     refine c_skip ?_
     first | exact meet (min m 1) (by rw [show ((min m 1 : Nat) : Int) = min (m : Int) 1 by omega]; exact (sub_cons rfl (sub_cons rfl (sub_cons rfl sub_nil)))) (fun _ h => h) ⟨small_pow (by omega), by omega, by omega⟩ | exact meet m (sub_cons rfl (sub_cons rfl (sub_cons rfl sub_nil))) (fun _ h => h) ⟨rfl, Nat.le_refl _, hm⟩
   ·
    rintro e ⟨he, hem, hem4⟩
    try dsimp only
    refine c_seq (c_region ?_)
    refine o_callI trivial rfl Tryz.call69 rfl (natOf_any 1 (by decide)) ?_
    rintro u1 I1 hx1 hs1
    refine o_pv trivial rfl rfl ?_
    refine o_nil (then_c (c_seq (c_seq (c_region ?_))))
    iterate 2 refine o_pv trivial rfl rfl ?_
    refine o_nil (then_c (c_block ?_))
    refine c_loop (ι := Nat × Value × Hp) [0, 6, 30] (.cons rfl (.cons rfl (.cons rfl .nil))) (fun x => e - x.1) (fun x E0 => (8, x.2.1) :: (31, .int .i64 (x.1 : Int)) :: E0) (fun x => St w [] x.2.2 []) (fun x => x.1 ≤ e ∧ Ws x.2.2 x.2.1 (natW (val A ^ x.1)) ∧ Ext w.heap.size I x.2.2) ((0, u1, I1)) (sub_cons rfl (sub_cons rfl (sub_cons rfl (sub_cons rfl (sub_cons rfl sub_nil))))) (fun _ h => h) (⟨Nat.zero_le _, by rw [Nat.pow_zero]; exact hs1, hx1⟩) ?_
    rintro ⟨i, u, I2⟩ ⟨hi, hu, hx2⟩
    try dsimp only
    simp only at hi hu hx2; have hlen := pow_len hlt i; have hmul : A.length * i ≤ 4096 := Nat.le_trans (Nat.mul_le_mul_left _ (by omega)) hsm
    refine c_seq (c_region ?_)
    refine o_pv trivial rfl rfl ?_
    refine o_nil (then_c (c_seq ?_))
    refine c_cond rfl (fun h3 => ?_) (fun h3 => ?_)
    ·
     have f3 := h3
     try simp only [bl] at f3
     refine c_skip (then_c (c_seq (c_block (c_region ?_))))
     iterate 3 refine o_pv trivial rfl rfl ?_
     refine o_cutHi trivial rfl Tryz.underlying31 Tryz.sizeOf95 rfl (ha.slc.le hx2.le) rfl (by rw [wcs_len]; omega) ?_
     refine o_callI trivial rfl Tryz.call108 rfl (mul_any _ _ _ _ hu (by rw [Int.toNat_natCast]; exact hcut.le hx2.le) (by omega) (by omega)) ?_
     rintro u3 I3 hx3 hs3
     refine o_pv trivial rfl rfl ?_
     refine o_nil (blk_n (then_c (c_region ?_)))
     first | (refine o_add trivial rfl rfl rfl ?_ ?_; (omega)) | refine o_pv trivial rfl rfl ?_
     refine o_pv trivial rfl rfl ?_
     refine o_nil ?_
     exact again (i + 1, u3, I3) (sub_cons rfl (sub_cons rfl (sub_cons rfl (sub_cons rfl (sub_cons rfl sub_nil))))) (fun _ h => h) (by show e - (i + 1) < e - i; omega) ⟨by show i + 1 ≤ e; omega, by rw [val_natW, val_natW] at hs3; rw [Nat.pow_succ]; exact hs3, hx2.trans hx3 (Nat.le_refl _)⟩
    ·
     have f3 := h3
     try simp only [bl] at f3
     refine c_exit (then_x (then_x (blk_eq rfl (then_c (c_seq (c_region ?_))))))
     iterate 3 refine o_pv trivial rfl rfl ?_
     refine o_nil (then_c (c_ret ?_))
     refine ret2 rfl rfl rfl ?_
     have hie : i = e := by omega
     subst hie
     refine leaf hx2 (List.nil_sublist _) ⟨u, rfl, ?_⟩; rw [← he]; exact hu
theorem shift_len {a k q : Nat} (h : a < 4294967296 ^ k) (hq : q ≤ 2 ^ 31) : a * q < 4294967296 ^ (k + 1) := by
  rw [pow_succ]
  exact Nat.mul_lt_mul_of_lt_of_le h (Nat.le_trans hq (by decide)) (by decide)
theorem shift_any (va : Value) (A : List Nat) (m : Nat) {I : Hp} (ha : Ws I va A) (hs : A.length ≤ 1000000) (hm : m ≤ 100000) : Fun Tryz.prog 129 [va, .int .i64 (m : Int)] I [] (fun v I' _ => Ws I' v (natW (val A * 2 ^ m))) := by
  have hp1 : 2 ^ (m % 32) ≤ 2 ^ 31 := Nat.pow_le_pow_right (by decide) (by omega)
  have hp0 : 0 < 2 ^ (m % 32) := Nat.pow_pos (by decide)
  intro w hw
  refine enter2 _ Tryz.func129 rfl Tryz.ntmps129 rfl ?_ hw
  refine c_seq (c_region ?_)
  refine o_pv trivial rfl rfl ?_
  refine o_nil (then_c (c_seq (c_region ?_)))
  refine o_pv trivial rfl rfl ?_
  refine o_min2 trivial rfl rfl rfl ?_
  refine o_max2 trivial rfl rfl rfl ?_
  refine o_pv trivial rfl rfl ?_
  refine o_nil (then_c (c_seq ?_))
  rw [show max (0 : Int) (min (m : Int) 100000) = (m : Int) by omega]
  refine c_region ?_
  refine o_pv trivial rfl rfl ?_
  refine o_quo trivial rfl rfl rfl (by omega) (by first | rfl | rw [IntWalk.i64_in _ (by omega)]) ?_
  refine o_makeRow trivial rfl Tryz.underlying31 elemz95 rfl rfl (by omega) (by omega) (by first | omega | (unfold maxLen; omega)) (fun v11 => ?_)
  refine o_pv trivial rfl rfl ?_
  refine o_nil (then_c (c_seq ?_))
  rw [show ((m : Int) / 32).toNat = m / 32 by omega, made_wl]
  refine c_region ?_
  iterate 3 refine o_pv trivial rfl rfl ?_
  refine o_rem trivial rfl rfl rfl (by omega) ?_
  rw [show (m : Int) % 32 = ((m % 32 : Nat) : Int) by omega]
  refine o_shl (2 ^ (m % 32)) trivial rfl rfl rfl (by omega) (by rw [Int.toNat_natCast, show min (m % 32) IntKind.u32.bits = m % 32 from Nat.min_eq_left (by show m % 32 ≤ 32; omega)]) (by rw [IntWalk.u32_in _ (by omega)]) ?_
  rw [Int.one_mul]
  refine o_callI trivial rfl Tryz.call149 rfl (one_any _ _ (2 ^ (m % 32)) 0 ha (by omega) (by omega) (by decide)) ?_
  rintro u1 I1 hx1 hs1
  have hl1 : (natW (val A * 2 ^ (m % 32) + 0)).length ≤ A.length + 1 := natW_len_of (k := A.length + 1) (by rw [Nat.add_zero]; exact shift_len (val_lt ha.wds) hp1) (Nat.le_refl _)
  refine o_appendSlc trivial rfl Tryz.underlying31 (elem95) (by decide) rfl rfl (fun v' => (by repeat constructor)) (hs1.slc) (wcs_plain _) (by rw [wcs_len]; unfold maxLen; omega) (by rw [wcs_len]; omega) (fun v18 => ?_)
  rw [wcs_flat, wcs_len, ← show wl (List.replicate (m / 32) 0 ++ natW (val A * 2 ^ (m % 32) + 0)) = wl (List.replicate (m / 32) 0) ++ wl (natW (val A * 2 ^ (m % 32) + 0)) from List.map_append, ← wcs_flat]
  refine l_seal (xss := wcs (List.replicate (m / 32) 0 ++ natW (val A * 2 ^ (m % 32) + 0))) Take.here (by rw [wcs_len, List.length_append, List.length_replicate]) (wcs_one _) (by unfold maxLen; omega) (fun I2 hx2 hs2 => ?_)
  have hw2 : Ws I2 v18 (List.replicate (m / 32) 0 ++ natW (val A * 2 ^ (m % 32) + 0)) := ⟨hs2, (wds_zeros _).app (Wds_natW _)⟩
  refine o_callI trivial rfl Tryz.call99 rfl (natTrim_any _ _ hw2 (by rw [List.length_append, List.length_replicate]; omega)) ?_
  rintro u3 I3 hx3 hs3
  refine o_pv trivial rfl rfl ?_
  refine o_nil (then_c (c_ret ?_))
  refine ret1 rfl rfl ?_
  refine leaf (hx1.trans (hx2.trans hx3 (Nat.le_refl _)) (Nat.le_refl _)) (List.nil_sublist _) ?_; rw [val_shift, val_natW, Nat.add_zero, shift_eq] at hs3; exact hs3
end Go.Proofs.YtjgbjaaekknenaaGreat
/-
  Layer 4 of the program: division.
-/
namespace Go.Proofs.YtjgbjaaekknenaaGreat
open Go Go.Tw
set_option linter.unusedVariables false
set_option linter.unusedSimpArgs false
set_option linter.unnecessarySimpa false
set_option maxHeartbeats 1000000
theorem small_any (va : Value) (A : List Nat) (d : Nat) {I : Hp} (ha : Ws I va A) (hs : A.length ≤ 100000000) (hd0 : 0 < d) (hd : d < 4294967296) : Fun Tryz.prog 131 [va, .int .u32 (d : Int)] I [] (fun v I' _ => ∃ u, v = .tuple #[u, .int .u32 ((val A % d : Nat) : Int), .bool true] ∧ Ws I' u (natW (val A / d))) := by
  intro w hw
  refine enter2 _ Tryz.func131 rfl Tryz.ntmps131 rfl ?_ hw
  refine c_seq (c_region ?_)
  iterate 3 refine o_pv trivial rfl rfl ?_
  refine o_nil (then_c (c_seq (c_seq (c_region ?_))))
  iterate 2 refine o_pv trivial rfl rfl ?_
  refine o_nil (then_c ?_)
  refine c_cond rfl (fun h1 => ?_) (fun h1 => ?_)
  ·
   have f1 := h1
   try simp only [bl] at f1
   exfalso; omega
  ·
   have f1 := h1
   try simp only [bl] at f1
   refine c_skip (then_c (c_seq (c_region ?_)))
   refine o_pv trivial rfl rfl ?_
   refine o_lenW trivial rfl Tryz.underlying31 rfl (ha) ?_
   refine o_makeBox trivial rfl Tryz.underlying31 elemz95 rfl rfl (by omega) (by omega) (by first | omega | (unfold maxLen; omega)) (fun b12 => ?_)
   refine o_pv trivial rfl rfl ?_
   refine o_nil (then_c (c_seq (c_seq ?_)))
   rw [Int.toNat_natCast, made_wl]
   refine c_region ?_
   refine o_pv trivial rfl rfl ?_
   refine o_lenW trivial rfl Tryz.underlying31 rfl (ha) ?_
   first | (refine o_sub trivial rfl rfl rfl ?_ ?_; (omega)) | refine o_pv trivial rfl rfl ?_
   refine o_pv trivial rfl rfl ?_
   refine o_nil (then_c (c_block ?_))
   refine c_loop (ι := Nat × List Nat × Nat) [0, 1, 4] (.cons rfl (.cons rfl (.cons rfl .nil))) (fun x => x.1) (fun x E0 => (5, .int .u32 (x.2.2 : Int)) :: (7, .int .i64 ((x.1 : Int) - 1)) :: E0) (fun x => St w [] I [.box b12 (.cells (wl x.2.1).toArray 95 (0, 0))]) (fun x => x.1 ≤ A.length ∧ Wds x.2.1 ∧ x.2.1.length = A.length ∧ x.2.2 < d ∧ val (A.drop x.1) = val (x.2.1.drop x.1) * d + x.2.2) ((A.length, List.replicate A.length 0, 0)) (sub_cons rfl (sub_cons rfl (sub_cons rfl (sub_cons rfl (sub_cons rfl sub_nil))))) (fun _ h => h) (⟨Nat.le_refl _, wds_zeros _, List.length_replicate, hd0, by simp only; rw [val_drop_all (Nat.le_refl _), val_drop_all (by rw [List.length_replicate]; exact Nat.le_refl _), Nat.zero_mul]⟩) ?_
   rintro ⟨j, O, r⟩ ⟨hj, hO, hl, hr, hF⟩
   try dsimp only
   simp only at hj hO hl hr hF
   refine c_seq (c_seq (c_region ?_))
   iterate 2 refine o_pv trivial rfl rfl ?_
   refine o_nil (then_c ?_)
   refine c_cond rfl (fun h2 => ?_) (fun h2 => ?_)
   ·
    have f2 := h2
    try simp only [bl] at f2
    obtain ⟨k, rfl⟩ : ∃ k, j = k + 1 := ⟨j - 1, by omega⟩
    have hdA := dg_lt ha.wds k
    have hdr : (r * 4294967296 + dg A k) % d < d := Nat.mod_lt _ hd0
    rw [show ((k + 1 : Nat) : Int) - 1 = (k : Int) by omega]
    refine c_skip (then_c (c_seq (c_block (c_region ?_))))
    iterate 5 refine o_pv trivial rfl rfl ?_
    refine o_elemW trivial rfl Tryz.underlying31 Tryz.sizeOf95 rfl (ha) rfl (by omega) ?_
    refine o_load1I trivial rfl Tryz.isAgg95 rfl (ha.cellI (k := k) (by omega) (by omega)) ?_
    refine o_pv trivial rfl rfl ?_
    refine o_callQ trivial rfl Tryz.call152 rfl (limbDiv_ok r (dg A k) d hr hd hdA) ?_
    iterate 4 refine o_pv trivial rfl rfl ?_
    refine o_elemV trivial rfl Tryz.underlying31 Tryz.sizeOf95 rfl rfl (by omega) ?_
    refine o_storeBox1 trivial rfl rfl rfl Tryz.sizeOf95 rfl (by repeat constructor) (by rw [wl_len]; omega) ?_
    refine o_pv trivial rfl rfl ?_
    refine o_nil (blk_n (then_c (c_region ?_)))
    refine o_pv trivial rfl rfl ?_
    first | (refine o_sub trivial rfl rfl rfl ?_ ?_; (omega)) | refine o_pv trivial rfl rfl ?_
    refine o_pv trivial rfl rfl ?_
    refine o_nil ?_
    exact again (k, O.set k ((r * 4294967296 + dg A k) / d), (r * 4294967296 + dg A k) % d) (sub_cons rfl (sub_cons rfl (sub_cons rfl (sub_cons rfl (sub_cons rfl sub_nil))))) (fun _ h => h.wl1 k _ (by omega)) (by show k < k + 1; omega) ⟨by show k ≤ A.length; omega, hO.set (two_step hr hdA), by simp only [List.length_set]; exact hl, hdr, div_step (by omega) (by omega) hF (Nat.div_add_mod' _ _).symm⟩
   ·
    have f2 := h2
    try simp only [bl] at f2
    refine c_exit (then_x (then_x (blk_eq rfl (then_c (c_seq ?_)))))
    have hj0 : j = 0 := by omega
    subst hj0
    rw [List.drop_zero, List.drop_zero] at hF
    obtain ⟨e1, e2⟩ := div_unique hF hr
    refine c_sealW O Take.here hO (by unfold maxLen; omega) (fun I1 hx1 hs1 => ?_)
    rw [hl] at hs1
    refine c_region ?_
    refine o_pv trivial rfl rfl ?_
    refine o_callI trivial rfl Tryz.call99 rfl (natTrim_any _ _ hs1 (by omega)) ?_
    rintro u2 I2 hx2 hs2
    iterate 4 refine o_pv trivial rfl rfl ?_
    refine o_nil (then_c (c_ret ?_))
    refine ret3 rfl rfl rfl rfl ?_
    refine leaf (hx1.trans hx2 (Nat.le_refl _)) (List.nil_sublist _) ⟨u2, ?_, ?_⟩
    · rw [← e2]
    · rw [← e1]; exact hs2
theorem guess_any (va vb : Value) (R B : List Nat) {I : Hp} (ha : Ws I va R) (hb : Ws I vb B) (hs : B.length ≤ 100000000) (hn : 0 < B.length) (htop : dg B (B.length - 1) ≠ 0) (hlen : R.length ≤ B.length + 1) (hq : val R / val B < 4294967296) : Fun Tryz.prog 150 [va, vb] I [] (fun v I' _ => ∃ q : Nat, v = .int .u32 (q : Int) ∧ val R / val B ≤ q ∧ q < 4294967296) := by
  obtain ⟨g1, g2⟩ := guess_law ha.wds hb.wds hn htop hlen
  have hdB := dg_lt hb.wds (B.length - 1)
  have hdR := dg_lt ha.wds (B.length - 1)
  intro w hw
  refine enter2 _ Tryz.func150 rfl Tryz.ntmps150 rfl ?_ hw
  refine c_seq (c_region ?_)
  refine o_pv trivial rfl rfl ?_
  refine o_nil (then_c (c_seq (c_region ?_)))
  refine o_pv trivial rfl rfl ?_
  refine o_lenW trivial rfl Tryz.underlying31 rfl (hb) ?_
  refine o_pv trivial rfl rfl ?_
  refine o_nil (then_c (c_seq (c_seq (c_region ?_))))
  refine o_pv trivial rfl rfl ?_
  refine o_lenW trivial rfl Tryz.underlying31 rfl (ha) ?_
  iterate 2 refine o_pv trivial rfl rfl ?_
  refine o_nil (then_c ?_)
  refine c_cond rfl (fun h1 => ?_) (fun h1 => ?_)
  ·
   have f1 := h1
   try simp only [bl] at f1
   refine c_seq (c_region ?_)
   refine o_pv trivial rfl rfl ?_
   refine o_nil (then_c (c_ret (then_r ?_)))
   refine ret1 rfl rfl ?_
   refine leaf0 ⟨0, rfl, ?_, by decide⟩; rw [g1 (by omega)]; exact Nat.le_refl _
  ·
   have f1 := h1
   try simp only [bl] at f1
   refine c_skip (then_c (c_seq (c_region ?_)))
   refine o_pv trivial rfl rfl ?_
   refine o_nil (then_c ?_)
   refine c_cut (ι := Unit) [0, 1, 5] (.cons rfl (.cons rfl (.cons rfl .nil))) (fun x E0 => (6, .int .u32 (dg R B.length : Nat)) :: E0) (fun x => St w [] I []) (fun x => True) ?_ ?_
   ·
    refine c_seq (c_region ?_)
    refine o_pv trivial rfl rfl ?_
    refine o_lenW trivial rfl Tryz.underlying31 rfl (ha) ?_
    iterate 2 refine o_pv trivial rfl rfl ?_
    refine o_nil (then_c ?_)
    refine c_cond rfl (fun h2 => ?_) (fun h2 => ?_)
    ·
     have f2 := h2
     try simp only [bl] at f2
     refine c_region ?_
     iterate 2 refine o_pv trivial rfl rfl ?_
     refine o_elemW trivial rfl Tryz.underlying31 Tryz.sizeOf95 rfl (ha) rfl (by omega) ?_
     refine o_load1I trivial rfl Tryz.isAgg95 rfl (ha.cellI (k := B.length) (by omega) (by omega)) ?_
     refine o_pv trivial rfl rfl ?_
     refine o_nil ?_
     first | exact meet () (sub_cons rfl (sub_cons rfl (sub_cons rfl (sub_cons rfl sub_nil)))) (fun _ h => h) trivial | (have e : dg R B.length = 0 := dg_out (by omega); exact meet () (by rw [e]; exact (sub_cons rfl (sub_cons rfl (sub_cons rfl (sub_cons rfl sub_nil))))) (fun _ h => h) trivial)
    ·
     have f2 := h2
     try simp only [bl] at f2
     refine c_skip ?_
     first | exact meet () (sub_cons rfl (sub_cons rfl (sub_cons rfl (sub_cons rfl sub_nil)))) (fun _ h => h) trivial | (have e : dg R B.length = 0 := dg_out (by omega); exact meet () (by rw [e]; exact (sub_cons rfl (sub_cons rfl (sub_cons rfl (sub_cons rfl sub_nil))))) (fun _ h => h) trivial)
   ·
    rintro _ _
    try dsimp only
    refine c_seq ?_
    refine c_quiet (by kernel_rfl) (by kernel_rfl) (fun _ h => h.drawn) ?_
    iterate 3 refine o_pv trivial rfl rfl ?_
    first | (refine o_sub trivial rfl rfl rfl ?_ ?_; (omega)) | refine o_pv trivial rfl rfl ?_
    refine o_elemW trivial rfl Tryz.underlying31 Tryz.sizeOf95 rfl (ha) rfl (by omega) ?_
    refine o_load1I trivial rfl Tryz.isAgg95 rfl (ha.cellI (k := B.length - 1) (by omega) (by omega)) ?_
    iterate 2 refine o_pv trivial rfl rfl ?_
    first | (refine o_sub trivial rfl rfl rfl ?_ ?_; (omega)) | refine o_pv trivial rfl rfl ?_
    refine o_elemW trivial rfl Tryz.underlying31 Tryz.sizeOf95 rfl (hb) rfl (by omega) ?_
    refine o_load1I trivial rfl Tryz.isAgg95 rfl (hb.cellI (k := B.length - 1) (by omega) (by omega)) ?_
    refine o_callQ trivial rfl Tryz.call152 rfl (limbDiv_any _ _ _ hdB hdR) ?_
    iterate 7 refine o_pv trivial rfl rfl ?_
    refine o_nil (then_c (c_seq (c_seq (c_region ?_))))
    iterate 2 refine o_pv trivial rfl rfl ?_
    refine o_nil (then_c ?_)
    refine c_cond rfl (fun h3 => ?_) (fun h3 => ?_)
    ·
     have f3 := h3
     try simp only [bl] at f3
     refine c_seq (c_region ?_)
     refine o_pv trivial rfl rfl ?_
     refine o_nil (then_c (c_ret (then_r ?_)))
     refine ret1 rfl rfl ?_
     refine leaf0 ⟨4294967295, rfl, by omega, by decide⟩
    ·
     have f3 := h3
     try simp only [bl] at f3
     refine c_skip (then_c (c_seq (c_region ?_)))
     iterate 2 refine o_pv trivial rfl rfl ?_
     refine o_nil (then_c (c_ret ?_))
     refine ret1 rfl rfl ?_
     refine leaf0 ⟨_, rfl, ?_, ?_⟩
     · unfold divQ; rw [if_pos (by simpa using f3)]; exact g2
     · unfold divQ; rw [if_pos (by simpa using f3)]; exact two_step (by simpa using f3) hdR
theorem natW_topB {n : Nat} (h : n ≠ 0) : 0 < (natW n).length ∧ dg (natW n) ((natW n).length - 1) ≠ 0 :=
  ⟨Nat.pos_of_ne_zero fun e => h (natW_len_zero.1 e), natW_top h⟩
theorem digit_any (va vb : Value) (r b : Nat) {I : Hp} (ha : Ws I va (natW r)) (hb : Ws I vb (natW b)) (hs : (natW b).length ≤ 10000000) (hb0 : 0 < b) (hr : r < b * 4294967296) : Fun Tryz.prog 130 [va, vb] I [] (fun v I' _ => ∃ u, v = .tuple #[.int .u32 ((r / b : Nat) : Int), u] ∧ Ws I' u (natW (r % b))) := by
  obtain ⟨hn, htop⟩ := natW_topB (n := b) (by omega)
  have hbl := val_lt (Wds_natW b)
  rw [val_natW] at hbl
  have hlen : (natW r).length ≤ (natW b).length + 1 := natW_len_of (k := (natW b).length + 1) (by
    rw [pow_succ]
    exact Nat.lt_of_lt_of_le hr (Nat.mul_le_mul_right _ (Nat.le_of_lt hbl))) (Nat.le_refl _)
  have hq : r / b < 4294967296 := by rw [Nat.div_lt_iff_lt_mul hb0, Nat.mul_comm]; exact hr
  intro w hw
  refine enter2 _ Tryz.func130 rfl Tryz.ntmps130 rfl ?_ hw
  refine c_seq (c_region ?_)
  iterate 2 refine o_pv trivial rfl rfl ?_
  refine o_nil (then_c (c_scope (c_seq (c_region ?_))))
  iterate 2 refine o_pv trivial rfl rfl ?_
  refine o_call0 trivial rfl Tryz.call150 rfl (guess_any _ _ _ _ ha hb (by omega) hn htop hlen (by rw [val_natW, val_natW]; exact hq)) ?_
  rintro _ ⟨q0, rfl, hq1, hq2⟩
  refine o_pv trivial rfl rfl ?_
  refine o_nil (then_c (c_seq (c_label (then_c (c_seq (c_block ?_))))))
  refine c_loop (ι := Nat × Hp) [1] (.cons rfl .nil) (fun x => x.1) (fun x E0 => (0, va) :: (6, .int .u32 (x.1 : Int)) :: E0) (fun x => St w [] x.2 []) (fun x => r / b ≤ x.1 ∧ x.1 < 4294967296 ∧ Ext w.heap.size I x.2) ((q0, I)) (sub_cons rfl (sub_cons rfl (sub_cons rfl sub_nil))) (fun _ h => h) (⟨by rw [val_natW, val_natW] at hq1; exact hq1, hq2, Ext.refl _ _⟩) ?_
  rintro ⟨q, I1⟩ ⟨hqa, hqb, hx1⟩
  try dsimp only
  simp only at hqa hqb hx1
  refine c_block (c_seq (c_region ?_))
  iterate 3 refine o_pv trivial rfl rfl ?_
  refine o_callI trivial rfl Tryz.call149 rfl (one_any _ _ q 0 (hb.le hx1.le) (by omega) hqb (by decide)) ?_
  rintro u2 I2 hx2 hs2
  rw [val_natW, Nat.add_zero] at hs2
  have hl2 : (natW (b * q)).length ≤ (natW b).length + 1 := natW_len_of (k := (natW b).length + 1) (by rw [pow_succ]; exact Nat.mul_lt_mul_of_lt_of_le hbl (by omega) (by decide)) (Nat.le_refl _)
  refine o_callI trivial rfl Tryz.call151 rfl (natSub_any _ _ _ _ (ha.le (hx1.le.trans hx2.le)) hs2 (by omega) (by omega)) ?_
  rintro _ I3 hx3 ⟨u3, rfl, hs3⟩
  iterate 5 refine o_pv trivial rfl rfl ?_
  refine o_nil (then_c (c_seq (c_seq (c_region ?_))))
  refine o_pv trivial rfl rfl ?_
  refine o_nil (then_c ?_)
  refine c_cond rfl (fun h1 => ?_) (fun h1 => ?_)
  ·
   have f1 := h1
   try simp only [bl] at f1
   rw [val_natW, val_natW] at f1 hs3; obtain ⟨hh1, hh2⟩ := digit_hit hb0 hqa f1
   refine c_seq (c_region ?_)
   iterate 2 refine o_pv trivial rfl rfl ?_
   refine o_nil (then_c (c_exit (then_x (blk_ne rfl (then_x (blk_eq rfl (then_c (c_seq (c_region ?_)))))))))
   iterate 4 refine o_pv trivial rfl rfl ?_
   refine o_nil (then_c (c_ret (sc_r ?_)))
   refine ret2 rfl rfl rfl ?_
   refine leaf (hx1.trans (hx2.trans hx3 (Nat.le_refl _)) (Nat.le_refl _)) (List.nil_sublist _) ⟨u3, ?_, ?_⟩
   · rw [hh1]; rfl
   · rw [← hh2]; exact hs3 f1
  ·
   have f1 := h1
   try simp only [bl] at f1
   rw [val_natW, val_natW] at f1; obtain ⟨hm1, hm2⟩ := digit_miss hb0 hqa (by omega)
   refine c_skip (then_c (c_region ?_))
   refine o_pv trivial rfl rfl ?_
   refine o_arS trivial rfl rfl rfl (by rw [IntWalk.u32_in _ (by omega)]) ?_
   rw [show (q : Int) - 1 = ((q - 1 : Nat) : Int) by omega]
   refine o_pv trivial rfl rfl ?_
   refine o_nil (blk_n ?_)
   exact again (q - 1, I3) (sub_cons rfl (sub_cons rfl (sub_cons rfl sub_nil))) (fun _ h => h) (by show q - 1 < q; omega) ⟨hm1, by show q - 1 < 4294967296; omega, hx1.trans (hx2.trans hx3 (Nat.le_refl _)) (Nat.le_refl _)⟩
end Go.Proofs.YtjgbjaaekknenaaGreat
/-
  Layer 4 of the program: division of one number by another one.
-/
namespace Go.Proofs.YtjgbjaaekknenaaGreat
open Go Go.Tw
set_option linter.unusedVariables false
set_option linter.unusedSimpArgs false
set_option linter.unnecessarySimpa false
set_option maxHeartbeats 1000000
theorem natW_small {n : Nat} (h : n < 4294967296) : dg (natW n) 0 = n := by
  have h1 : pre (natW n) 1 = n := by
    have : val (natW n) = n := val_natW n
    rw [pre_out (natW_len_le (k := 1) (by simpa using h))]; exact this
  simpa [pre] using h1
theorem div_shift {a b y q r : Nat} (hb : 0 < b) (h : a * 2 ^ y = q * (b * 2 ^ y) + r) (hr : r < b * 2 ^ y) : q = a / b ∧ r / 2 ^ y = a % b := by
  have hp : 0 < 2 ^ y := Nat.pow_pos (by decide)
  obtain ⟨h1, h2⟩ := div_unique h hr
  rw [Nat.mul_div_mul_right _ _ hp] at h1
  rw [Nat.mul_mod_mul_right] at h2
  exact ⟨h1, by rw [h2, Nat.mul_div_cancel _ hp]⟩
theorem div_any (va vb : Value) (A B : List Nat) {I : Hp} (ha : Ws I va A) (hb : Ws I vb B) (hs : A.length ≤ 400000) (hs2 : B.length ≤ 400000) (h0 : 0 < val B) : Fun Tryz.prog 98 [va, vb] I [] (fun v I' _ => ∃ u1 u2, v = .tuple #[u1, u2, .bool true] ∧ Ws I' u1 (natW (val A / val B)) ∧ Ws I' u2 (natW (val A % val B))) := by
  obtain ⟨hn, htop⟩ := natW_topB (n := val B) (by omega)
  have hlB : (natW (val B)).length ≤ B.length := by rw [← lowL_len hb.wds]; exact low_le _ _
  have hdt := dg_lt (Wds_natW (val B)) ((natW (val B)).length - 1)
  have hbit : bitZ (dg (natW (val B)) ((natW (val B)).length - 1)) ≤ 32 := bitZ_le_of (by omega)
  have hbit0 : 0 < bitZ (dg (natW (val B)) ((natW (val B)).length - 1)) := Nat.pos_of_ne_zero fun e => htop (bitZ_zero.1 e)
  obtain ⟨y, hy⟩ : ∃ y, 32 - bitZ (dg (natW (val B)) ((natW (val B)).length - 1)) = y := ⟨_, rfl⟩
  have hy31 : y ≤ 31 := by omega
  have hp31 : 2 ^ y ≤ 2 ^ 31 := Nat.pow_le_pow_right (by decide) hy31
  have hp0 : 0 < 2 ^ y := Nat.pow_pos (by decide)
  have hlA : (natW (val A * 2 ^ y)).length ≤ A.length + 1 := natW_len_of (k := A.length + 1) (shift_len (val_lt ha.wds) hp31) (Nat.le_refl _)
  have hlB2 : (natW (val B * 2 ^ y)).length ≤ B.length + 1 := natW_len_of (k := B.length + 1) (shift_len (val_lt hb.wds) hp31) (Nat.le_refl _)
  have hb1 : 0 < val B * 2 ^ y := Nat.mul_pos h0 hp0
  intro w hw
  refine enter2 _ Tryz.func98 rfl Tryz.ntmps98 rfl ?_ hw
  refine c_seq (c_region ?_)
  iterate 3 refine o_pv trivial rfl rfl ?_
  refine o_nil (then_c (c_seq (c_region ?_)))
  refine o_pv trivial rfl rfl ?_
  refine o_callI trivial rfl Tryz.call99 rfl (natTrim_any _ _ hb (by omega)) ?_
  rintro u1 I1 hx1 hs1
  refine o_pv trivial rfl rfl ?_
  refine o_nil (then_c (c_seq (c_seq (c_region ?_))))
  refine o_pv trivial rfl rfl ?_
  refine o_lenW trivial rfl Tryz.underlying31 rfl (hs1) ?_
  refine o_pv trivial rfl rfl ?_
  refine o_nil (then_c ?_)
  refine c_cond rfl (fun h1 => ?_) (fun h1 => ?_)
  ·
   have f1 := h1
   try simp only [bl] at f1
   exfalso; omega
  ·
   have f1 := h1
   try simp only [bl] at f1
   refine c_skip (then_c (c_seq (c_region ?_)))
   iterate 2 refine o_pv trivial rfl rfl ?_
   refine o_lenW trivial rfl Tryz.underlying31 rfl (hs1) ?_
   first | (refine o_sub trivial rfl rfl rfl ?_ ?_; (omega)) | refine o_pv trivial rfl rfl ?_
   refine o_elemW trivial rfl Tryz.underlying31 Tryz.sizeOf95 rfl (hs1) rfl (by omega) ?_
   refine o_load1I trivial rfl Tryz.isAgg95 rfl (hs1.cellI (k := (natW (val B)).length - 1) (by omega) (by omega)) ?_
   refine o_callQ trivial rfl Tryz.call127 rfl (limbBits_any _ hdt) ?_
   first | (refine o_sub trivial rfl rfl rfl ?_ ?_; (omega)) | refine o_pv trivial rfl rfl ?_
   refine o_pv trivial rfl rfl ?_
   refine o_nil (then_c (c_seq ?_))
   rw [show (32 : Int) - (bitZ (dg (natW (val B)) ((natW (val B)).length - 1)) : Int) = (y : Int) by omega]
   refine c_region ?_
   iterate 2 refine o_pv trivial rfl rfl ?_
   refine o_callI trivial rfl Tryz.call129 rfl (shift_any _ _ y (ha.le hx1.le) (by omega) (by omega)) ?_
   rintro u2 I2 hx2 hs2
   iterate 2 refine o_pv trivial rfl rfl ?_
   refine o_callI trivial rfl Tryz.call129 rfl (shift_any _ _ y (hs1.le hx2.le) (by omega) (by omega)) ?_
   rintro u3 I3 hx3 hs3
   iterate 2 refine o_pv trivial rfl rfl ?_
   refine o_nil (then_c (c_seq ?_))
   rw [val_natW] at hs3
   have hs2' := hs2.le hx3.le
   refine c_region ?_
   refine o_pv trivial rfl rfl ?_
   refine o_lenW trivial rfl Tryz.underlying31 rfl (hs2') ?_
   refine o_makeBox trivial rfl Tryz.underlying31 elemz95 rfl rfl (by omega) (by omega) (by first | omega | (unfold maxLen; omega)) (fun b32 => ?_)
   refine o_pv trivial rfl rfl ?_
   refine o_nil (then_c (c_seq (c_seq ?_)))
   rw [Int.toNat_natCast, made_wl]
   refine c_region ?_
   refine o_pv trivial rfl rfl ?_
   refine o_lenW trivial rfl Tryz.underlying31 rfl (hs2') ?_
   first | (refine o_sub trivial rfl rfl rfl ?_ ?_; (omega)) | refine o_pv trivial rfl rfl ?_
   refine o_pv trivial rfl rfl ?_
   refine o_nil (then_c (c_block ?_))
   refine c_loop (ι := Nat × List Nat × Nat × Value × Hp) [0, 1, 4, 7] (.cons rfl (.cons rfl (.cons rfl (.cons rfl .nil)))) (fun x => x.1) (fun x E0 => (5, x.2.2.2.1) :: (8, .int .i64 ((x.1 : Int) - 1)) :: E0) (fun x => St w [] x.2.2.2.2 [.box b32 (.cells (wl x.2.1).toArray 95 (0, 0))]) (fun x => x.1 ≤ (natW (val A * 2 ^ y)).length ∧ Wds x.2.1 ∧ x.2.1.length = (natW (val A * 2 ^ y)).length ∧ x.2.2.1 < val B * 2 ^ y ∧ Ws x.2.2.2.2 x.2.2.2.1 (natW x.2.2.1) ∧ val ((natW (val A * 2 ^ y)).drop x.1) = val (x.2.1.drop x.1) * (val B * 2 ^ y) + x.2.2.1 ∧ Ext w.heap.size I3 x.2.2.2.2) (((natW (val A * 2 ^ y)).length, List.replicate (natW (val A * 2 ^ y)).length 0, 0, .slice none 0 0, I3)) (sub_cons rfl (sub_cons rfl (sub_cons rfl (sub_cons rfl (sub_cons rfl (sub_cons rfl sub_nil)))))) (fun _ h => h) (⟨Nat.le_refl _, wds_zeros _, List.length_replicate, hb1, by simp only [natW_zero]; exact Ws.nil _, by simp only; rw [val_drop_all (Nat.le_refl _), val_drop_all (by rw [List.length_replicate]; exact Nat.le_refl _), Nat.zero_mul], Ext.refl _ _⟩) ?_
   rintro ⟨j, O, r, u4, I4⟩ ⟨hj, hO, hl, hr, hu4, hF, hx4⟩
   try dsimp only
   simp only at hj hO hl hr hu4 hF hx4; have hrl : (natW r).length ≤ B.length + 1 := natW_len_of (k := B.length + 1) (Nat.lt_trans hr (shift_len (val_lt hb.wds) hp31)) (Nat.le_refl _)
   refine c_seq (c_seq (c_region ?_))
   iterate 2 refine o_pv trivial rfl rfl ?_
   refine o_nil (then_c ?_)
   refine c_cond rfl (fun h2 => ?_) (fun h2 => ?_)
   ·
    have f2 := h2
    try simp only [bl] at f2
    obtain ⟨k, rfl⟩ : ∃ k, j = k + 1 := ⟨j - 1, by omega⟩
    have hdA := dg_lt (Wds_natW (val A * 2 ^ y)) k
    rw [show ((k + 1 : Nat) : Int) - 1 = (k : Int) by omega]
    refine c_skip (then_c (c_seq (c_block (c_region ?_))))
    iterate 4 refine o_pv trivial rfl rfl ?_
    refine o_elemW trivial rfl Tryz.underlying31 Tryz.sizeOf95 rfl (hs2'.le hx4.le) rfl (by omega) ?_
    refine o_load1I trivial rfl Tryz.isAgg95 rfl ((hs2'.le hx4.le).cellI (k := k) (by omega) (by omega)) ?_
    refine o_buildSl trivial rfl Tryz.underlying31 Tryz.sizeOf95 Tryz.zeroValue95 (by decide) (by decide) rfl (by repeat first | exact rfl | constructor) rfl (fun b47 => ?_)
    refine TL.pre ?_ (fun w' h => h.boxRow (m := 1) (sz := 1) rfl (by unfold maxLen; omega))
    refine o_pv trivial rfl rfl ?_
    refine o_appendSlc trivial rfl Tryz.underlying31 (elem95) (by decide) rfl rfl (fun v' => (by repeat constructor)) (hu4.slc) (wcs_plain _) (by rw [wcs_len]; unfold maxLen; omega) (by rw [wcs_len]; omega) (fun v49 => ?_)
    rw [wcs_flat, wcs_len]
    refine l_seal (xss := wcs (dg (natW (val A * 2 ^ y)) k :: natW r)) (by rw [wcs_flat]; exact Take.here) (by rw [wcs_len, List.length_cons]; omega) (wcs_one _) (by unfold maxLen; omega) (fun I5 hx5 hs5 => ?_)
    have hw5 : Ws I5 v49 (dg (natW (val A * 2 ^ y)) k :: natW r) := ⟨hs5, Wds_cons hdA (Wds_natW _)⟩
    refine o_callI trivial rfl Tryz.call99 rfl (natTrim_any _ _ hw5 (by rw [List.length_cons]; omega)) ?_
    rintro u6 I6 hx6 hs6
    refine o_pv trivial rfl rfl ?_
    rw [val_cons, val_natW] at hs6
    have hlt6 : dg (natW (val A * 2 ^ y)) k + 4294967296 * r < val B * 2 ^ y * 4294967296 := by
      have := Nat.mul_le_mul_right 4294967296 (Nat.succ_le_of_lt hr)
      rw [Nat.succ_mul, Nat.mul_comm r] at this
      omega
    refine o_callI trivial rfl Tryz.call130 rfl (digit_any _ _ _ _ hs6 ((((hs3.le hx4.le).le hx5.le)).le hx6.le) (by omega) hb1 hlt6) ?_
    rintro _ I7 hx7 ⟨u7, rfl, hs7⟩
    iterate 3 refine o_pv trivial rfl rfl ?_
    refine o_elemV trivial rfl Tryz.underlying31 Tryz.sizeOf95 rfl rfl (by omega) ?_
    refine o_storeBox1 trivial rfl rfl rfl Tryz.sizeOf95 rfl (by repeat constructor) (by rw [wl_len]; omega) ?_
    refine o_pv trivial rfl rfl ?_
    refine o_nil (blk_n (then_c (c_region ?_)))
    refine o_pv trivial rfl rfl ?_
    first | (refine o_sub trivial rfl rfl rfl ?_ ?_; (omega)) | refine o_pv trivial rfl rfl ?_
    refine o_pv trivial rfl rfl ?_
    refine o_nil ?_
    exact again (k, O.set k ((dg (natW (val A * 2 ^ y)) k + 4294967296 * r) / (val B * 2 ^ y)), (dg (natW (val A * 2 ^ y)) k + 4294967296 * r) % (val B * 2 ^ y), u7, I7) (sub_cons rfl (sub_cons rfl (sub_cons rfl (sub_cons rfl (sub_cons rfl (sub_cons rfl sub_nil)))))) (fun _ h => h.wl1 k _ (by omega)) (by show k < k + 1; omega) ⟨by show k ≤ _; omega, hO.set ((Nat.div_lt_iff_lt_mul hb1).2 (Nat.lt_of_lt_of_eq hlt6 (Nat.mul_comm _ _))), by simp only [List.length_set]; exact hl, Nat.mod_lt _ hb1, hs7, div_step (by omega) (by omega) hF (by rw [Nat.mul_comm r, Nat.add_comm]; exact (Nat.div_add_mod' _ _).symm), hx4.trans (hx5.trans (hx6.trans hx7 (Nat.le_refl _)) (Nat.le_refl _)) (Nat.le_refl _)⟩
   ·
    have f2 := h2
    try simp only [bl] at f2
    refine c_exit (then_x (then_x (blk_eq rfl (then_c (c_seq ?_)))))
    have hj0 : j = 0 := by omega
    subst hj0
    rw [List.drop_zero, List.drop_zero, val_natW] at hF
    obtain ⟨e1, e2⟩ := div_shift h0 hF hr
    refine c_region ?_
    refine o_buildSl trivial rfl Tryz.underlying31 Tryz.sizeOf95 Tryz.zeroValue95 (by decide) (by decide) rfl (by repeat first | exact rfl | constructor) rfl (fun b57 => ?_)
    refine o_pv trivial rfl rfl ?_
    refine l_sealW [2] Take.here (Wds_cons (by decide) Wds_nil) (by unfold maxLen; simp) (fun I8 hx8 hs8 => ?_)
    refine o_callI trivial rfl Tryz.call110 rfl (pow_any _ _ y hs8 (by simp) (by omega) (by show 1 * y ≤ 4096; omega)) ?_
    rintro _ I9 hx9 ⟨u9, rfl, hs9⟩
    iterate 5 refine o_pv trivial rfl rfl ?_
    refine o_nil (then_c (c_seq ?_))
    have hv2 : val [2] = 2 := rfl
    rw [hv2] at hs9
    obtain ⟨hn9, _⟩ := natW_topB (n := 2 ^ y) (by omega)
    refine c_region ?_
    iterate 2 refine o_pv trivial rfl rfl ?_
    refine o_elemW trivial rfl Tryz.underlying31 Tryz.sizeOf95 rfl (hs9) rfl (by omega) ?_
    refine o_load1I trivial rfl Tryz.isAgg95 rfl (hs9.cellI (k := 0) rfl (by omega)) ?_
    rw [natW_small (n := 2 ^ y) (by omega)]
    refine o_callI trivial rfl Tryz.call131 rfl (small_any _ _ (2 ^ y) ((hu4.le hx8.le).le hx9.le) (by omega) hp0 (by omega)) ?_
    rintro _ I10 hx10 ⟨u10, rfl, hs10⟩
    iterate 5 refine o_pv trivial rfl rfl ?_
    refine o_nil (then_c (c_seq ?_))
    rw [val_natW, e2] at hs10
    refine c_sealW O Take.here hO (by unfold maxLen; omega) (fun I11 hx11 hs11 => ?_)
    rw [hl] at hs11
    refine c_region ?_
    refine o_pv trivial rfl rfl ?_
    refine o_callI trivial rfl Tryz.call99 rfl (natTrim_any _ _ hs11 (by omega)) ?_
    rintro u12 I12 hx12 hs12
    iterate 4 refine o_pv trivial rfl rfl ?_
    refine o_nil (then_c (c_ret ?_))
    refine ret3 rfl rfl rfl rfl ?_
    refine leaf (hx1.trans (hx2.trans (hx3.trans (hx4.trans (hx8.trans (hx9.trans (hx10.trans (hx11.trans hx12 (Nat.le_refl _)) (Nat.le_refl _)) (Nat.le_refl _)) (Nat.le_refl _)) (Nat.le_refl _)) (Nat.le_refl _)) (Nat.le_refl _)) (Nat.le_refl _)) (List.nil_sublist _) ⟨u12, u10, rfl, ?_, (hs10.le hx11.le).le hx12.le⟩
    rw [e1] at hs12; exact hs12
end Go.Proofs.YtjgbjaaekknenaaGreat
/-
  A range over a function: the statement, its rounds, the calls of yield; a function that leaves with the statement's mark. Nothing of the program stands here.
-/
namespace Go.Tw
set_option linter.unusedVariables false
set_option linter.unusedSimpArgs false
set_option linter.unnecessarySimpa false
set_option maxHeartbeats 1000000
open Go Go.RowKit
section
variable {F : Fence} {P : Program} {Q : Exit → Act → World → Prop} {n : Nat} {D : List Deferred} {E : Env} {S S' : World → Prop} {ops : Array Oper} {is : List Nat} {i d : Nat} {op : Op} {ty : TypeId} {pos : String} {aft : Array Edge} {v : Value}
def noDefer : Op → Bool
  | .defer _ => false
  | _ => true
theorem noDefer_ne {op : Op} (h : noDefer op = true) : ∀ c, op ≠ .defer c := fun c e => by subst e; cases h
/-- Operations in order, inside a fence that lets all in. -/
structure TI (F : Fence) (P : Program) (ops : Array Oper) (Q : Exit → Act → World → Prop) (is : List Nat) (n : Nat) (D : List Deferred) (E : Env) (S : World → Prop) : Prop where
  out : ∀ a w, Fits n D E a → S w → wpOpsIn F 0 P ops Q is a w
structure TCI (F : Fence) (P : Program) (c : Code) (Q : Exit → Act → World → Prop) (n : Nat) (D : List Deferred) (E : Env) (S : World → Prop) : Prop where
  out : ∀ a w, Fits n D E a → S w → c.wpIn F 0 P Q a w
theorem ti_nil (h : TE Q .normal n D E S) : TI F P ops Q [] n D E S := ⟨fun a w ha hw => h.out a w ha hw⟩
theorem ti_rd (hF : ∀ f, F.fn f) (ho : ops[i]? = some ⟨some d, op, ty, pos, aft, none⟩) (hnd : noDefer op = true) (hd : Nat.blt d n = true) (hr : Reads P n D E op ty S v) (k : TI F P ops Q is n D ((d, v) :: E) S) : TI F P ops Q (i :: is) n D E S := ⟨fun a w ha hw => by
  unfold wpOpsIn
  simp only [ho]
  rw [if_pos (by simp [Region.wanted])]
  refine ⟨fun f _ => hF f, ?_⟩
  rw [Oper.semAt_eq _ _ _ (noDefer_ne hnd)]
  obtain ⟨w', h1, h2⟩ := hr a w ha hw (some d) pos aft none
  rw [h1]
  subst h2
  exact k.out _ _ (ha.put hd v) hw⟩
theorem ti_st (hF : ∀ f, F.fn f) (ho : ops[i]? = some ⟨none, op, ty, pos, aft, none⟩) (hnd : noDefer op = true) (hr : RunsU P n D E op ty S S') (k : TI F P ops Q is n D E S') : TI F P ops Q (i :: is) n D E S := ⟨fun a w ha hw => by
  unfold wpOpsIn
  simp only [ho]
  rw [if_pos (by simp [Region.wanted])]
  refine ⟨fun f _ => hF f, ?_⟩
  rw [Oper.semAt_eq _ _ _ (noDefer_ne hnd)]
  obtain ⟨w', h1, h2⟩ := hr a w ha hw none pos aft none
  rw [h1]
  exact k.out _ _ ha h2⟩
/-- A call of yield. -/
theorem ti_yield {c x : Operand} {ats : Array TypeId} {l : Nat} {r : Loop} {y : Value} (ho : ops[i]? = some ⟨some d, .call { callee := .value c, args := #[x], argTypes := ats }, ty, pos, aft, none⟩) (hd : Nat.blt d n = true) (hc : ev E c = some (.func (.yield l) #[] #[])) (hx : ev E x = some y) {p : Tmp} (hp : r.params = #[p])
    (hr : ∀ w, S w → w.heap[l]? = some (.loop r)) (hy : ∀ w, S w → RoundIn Fence.wide 0 P l r.fn (r.tmps.setIfInBounds p y) r.assign r.body w (fun e w' => e = .returned (.bool true) ∧ S' w'))
    (k : TI Fence.wide P ops Q is n D ((d, .bool true) :: E) S') : TI Fence.wide P ops Q (i :: is) n D E S := ⟨fun a w ha hw => by
  unfold wpOpsIn
  simp only [ho]
  rw [if_pos (by simp [Region.wanted])]
  refine ⟨fun f _ => trivial, ?_⟩
  rw [Oper.semAt_eq _ _ _ (fun c h => by cases h)]
  have hyi := run_yield (P := P) (w := w) (l := l) (r := r) (args := #[y]) (hr w hw) (by rw [hp]; rfl)
  have hz : (r.params.zip #[y]).foldl (fun tmps (t, a) => tmps.setIfInBounds t a) r.tmps = r.tmps.setIfInBounds p y := by rw [hp]; simp
  rw [hz] at hyi
  have e : (execOp a.eval ⟨some d, .call { callee := .value c, args := #[x], argTypes := ats }, ty, pos, aft, none⟩).run P w = .ok (.round l r.fn (r.tmps.setIfInBounds p y) r.assign r.body) w := by
    simp only [execOp, resolve, Deferred.ofValue, ha.ev hc, ha.ev hx, List.map_toArray, List.map_cons, List.map_nil, Sem.run_bind, Sem.run_pure, Result.andThen_ok, invoke, Array.append_empty, Array.empty_append]
    exact hyi
  rw [e]
  refine ⟨fun h => (by cases h), ?_⟩
  refine (hy w hw).mono ?_
  rintro e' w' ⟨rfl, hS⟩
  exact k.out _ _ (ha.put hd _) hS⟩
theorem c_ti {id m : Nat} {l : List Oper} (hl : l.length = m) (h : TI Fence.wide P l.toArray Q (List.range m) n D E S) : TC P (.region id l.toArray false) Q n D E S := ⟨fun a w ha hw => (wpIn_wide (n := 0)).1 (wpIn_region (by subst hl; exact h.out a w ha hw))⟩
theorem ci_ti {id m : Nat} {l : List Oper} (hl : l.length = m) (h : TI F P l.toArray Q (List.range m) n D E S) : TCI F P (.region id l.toArray false) Q n D E S := ⟨fun a w ha hw => wpIn_region (by subst hl; exact h.out a w ha hw)⟩
theorem ci_block {id : Nat} {c : Code} (h : TCI F P c (Exit.inBlock id Q) n D E S) : TCI F P (.block id c) Q n D E S := ⟨fun a w ha hw => wpIn_block (h.out a w ha hw)⟩
end
section
variable {P : Program} {Q : Exit → Act → World → Prop} {n : Nat} {D : List Deferred} {E : Env} {w0 : World} {X : List Nat} {I : Hp} {B : List Item}
/-- A round: the loop variable's slot p bears y; the body goes off its end. -/
theorem round_of {l f : Nat} {tmps : Array Value} {assign body : Code} {r : Loop} {E1 E2 : Env} {B' : List Item} (hr : r.state = .ready) (hfit : Fits n [] E1 { tmps := tmps, defers := [] })
    (ha : TCI (Fence.wide.inRound l) P assign (fun e a w => e = .normal ∧ Fits n [] E2 a ∧ St w0 X I (.box l (.loop r) :: B) w) n [] E1 (St w0 X I (.box l (.loop r) :: B)))
    (hb : TCI (Fence.wide.inRound l) P body (fun e a w => e = .normal ∧ St w0 X I (.box l (.loop { r with state := .busy }) :: B') w) n [] E2 (St w0 X I (.box l (.loop { r with state := .busy }) :: B)))
    {w : World} (hw : St w0 X I (.box l (.loop r) :: B) w) : RoundIn Fence.wide 0 P l f tmps assign body w (fun e w' => e = .returned (.bool true) ∧ St w0 X I (.box l (.loop { r with state := .ready, pending := none }) :: B') w') := by
  have turn : ∀ {Bx : List Item} {w1 : World} {r1 : Loop} (o : Obj), St w0 X I (.box l (.loop r1) :: Bx) w1 → St w0 X I (.box l o :: Bx) (w1.putObj l o) := fun {Bx} {w1} {r1} o h1 =>
    h1.turn .here ⟨rfl, rfl, rfl, by simp, fun k _ hk => World.putObj_heap_other (fun e => hk (by rw [e]; rfl))⟩ (World.putObj_heap_same ((Array.getElem?_eq_some_iff.1 (h1.own (.box l (.loop r1)) List.mem_cons_self)).1)) (fun _ h => .inl h)
  refine roundIn_of_wpIn trivial ?_
  refine wpIn_mono (ha.out _ _ hfit hw) ?_
  rintro e a1 w1 ⟨rfl, hf1, hs1⟩
  have hl1 : w1.heap[l]? = some (.loop r) := hs1.own (.box l (.loop r)) List.mem_cons_self
  refine ⟨_, run_beginRound hl1 hr, ?_⟩
  refine wpIn_mono (hb.out _ _ hf1 (turn _ hs1)) ?_
  rintro e a2 w2 ⟨rfl, hs2⟩
  have hl2 : w2.heap[l]? = some (.loop { r with state := .busy }) := hs2.own (.box l (.loop { r with state := .busy })) List.mem_cons_self
  exact ⟨_, _, run_endRound none hl2, rfl, turn _ hs2⟩
theorem reads_box1 {T Tb : TypeId} {p : Operand} {b off : Nat} {cs : List Value} {fz : Nat × Nat} {ty : TypeId} {v : Value} (hagg : ∀ w, (isAgg T).run P w = .ok false w) (hp : ev E p = some (.pointer (some ⟨b, off, none⟩))) (hB : Item.box b (.cells cs.toArray Tb fz) ∈ B) (hr : cs[off]? = some v) : Reads P n D E (.load T p) ty (St w0 X I B) v := fun a w ha hw d pos aft g => ⟨w, by
    have hbox : w.heap[b]? = some (.cells cs.toArray Tb fz) := hw.own _ hB
    have hcell : w.cell? ⟨b, off, none⟩ = some v := by simp [World.cell?, hbox, hr]
    simp [execOp, ha.ev hp, Instr.loadAt, Instr.sureAddr, loadVar, hagg, hcell, Result.andThen], rfl⟩
theorem runsU_box1 {T Tb : TypeId} {p x : Operand} {b : Nat} {v z : Value} {ty : TypeId} {B' : List Item} (hp : ev E p = some (.pointer (some ⟨b, 0, none⟩))) (hx : ev E x = some v) (hc : v.cells = #[v]) (hsz : ∀ w, (sizeOf T).run P w = .ok 1 w) (h1 : v.oneCell' = true)
    (hB : Put B (.box b (.cells #[z] Tb (0, 0))) B' (.box b (.cells #[v] Tb (0, 0)))) : RunsU P n D E (.store T p x) ty (St w0 X I B) (St w0 X I B') := fun a w ha hS d pos aft g => by
    have hbox : w.heap[b]? = some (.cells [z].toArray Tb (0, 0)) := hS.own _ hB.mem
    have hst := run_storeCells_at P b 0 Tb [v] 0 [z].toArray w hbox (by simp) (by intro y hy; rw [List.mem_singleton.1 hy]; exact h1)
    refine ⟨_, ?_, hS.turn hB (w' := w.setRow b [v].toArray) ⟨rfl, rfl, rfl, by simp [World.setRow], fun k hk hne => setRow_other w b k _ (fun e => hne (by rw [e]; rfl))⟩ (setRow_heap w b [z].toArray [v].toArray Tb (0, 0) hbox) (fun _ h => .inl h)⟩
    have hv : v.cells.toList = [v] := by rw [hc]
    have hs' : ¬ (v.cells.size ≠ 1) := by rw [hc]; simp
    simp only [execOp, ha.ev hp, ha.ev hx, Instr.storeAt, Instr.sureAddr, storeVar, Sem.run_bind, Sem.run_pure, Result.andThen_ok, hsz, hv, if_neg hs', hst]
    rfl
/-- for x := range g { .. }: g a closure that captured caps; what the iterator makes of the blocks Bc. -/
theorem c_rangeF {g : Operand} {p : Tmp} {assign body : Code} {gf : FuncId} {caps : List Value} {Bc B0 : List Item} {R : Hp → List Item → Prop} (hg : ev E g = some (.func (.func gf) #[] caps.toArray)) (he : ∀ args w, (callFunc gf args).run P w = .ok (.enter gf args) w) (hB : Takes Bc B B0)
    (hit : ∀ (fn : FuncId) (l Dd : Nat) (a : Act), Fits n D E a → Fun P gf (.func (.yield l) #[] #[] :: caps) I (.box l (.loop ⟨.ready, none, fn, a.tmps, #[p], assign, body, Dd⟩) :: Bc) (fun _ I' B' => ∃ r' B1, B' = .box l (.loop r') :: B1 ∧ r'.state = .ready ∧ r'.pending = none ∧ R I' B1))
    (k : ∀ Dd I' B1, Ext w0.heap.size I I' → R I' B1 → TE Q .normal n ({ target := .collected Dd, args := #[] } :: D) E (St w0 X I' (B1 ++ .box Dd (.deferred (some [])) :: B0))) :
    TC P (.rangeFunc g #[p] assign body) Q n D E (St w0 X I B) := ⟨fun a w ha hw => (wpIn_wide (n := 0)).1 (wpIn_rangeFunc fun fn _ => by
  have h1 := hw.new (But.alloc w (.deferred (some []))) (it := .box w.heap.size (.deferred (some []))) (heap_alloc_new w _) (fun b hb => by cases hb; exact Nat.le_refl _)
  have h2 := h1.new (But.alloc _ (.loop ⟨.ready, none, fn, a.tmps, #[p], assign, body, w.heap.size⟩)) (it := .box (w.heap.size + 1) (.loop ⟨.ready, none, fn, a.tmps, #[p], assign, body, w.heap.size⟩)) (by
    have := heap_alloc_new (w.alloc (.deferred (some []))) (.loop ⟨.ready, none, fn, a.tmps, #[p], assign, body, w.heap.size⟩)
    rw [World.size_alloc] at this
    exact this) (fun b hb => by cases hb; rw [World.size_alloc]; exact Nat.le_refl _)
  have h3 : St w0 X I ((.box (w.heap.size + 1) (.loop ⟨.ready, none, fn, a.tmps, #[p], assign, body, w.heap.size⟩) :: Bc) ++ .box w.heap.size (.deferred (some [])) :: B0) _ := h2.perm (List.Perm.cons _ ((List.Perm.cons _ hB.perm).trans List.perm_middle.symm))
  refine ⟨w.heap.size + 1, _, _, { target := .fn (.func gf) caps.toArray, args := #[.func (.yield (w.heap.size + 1)) #[] #[]] }, (w.alloc (.deferred (some []))).alloc (.loop ⟨.ready, none, fn, a.tmps, #[p], assign, body, w.heap.size⟩), gf, _, _, run_enterLoop_outer fn a.tmps #[p] assign body, ?_, fun _ _ => trivial, ?_, fun h => (by cases h), callsIn_wide.2 (Calls.mono (hit fn (w.heap.size + 1) w.heap.size a ha _ h3.forCall) ?_)⟩
  · have e : a.eval g = .func (.func gf) #[] caps.toArray := ha.ev hg
    simp only [resolve, rangeCall, e, Deferred.ofValue, Sem.run_pure, List.map_toArray, List.map_cons, List.map_nil, Array.empty_append]
    rfl
  · simp only [invoke]
    have := he (#[.func (.yield (w.heap.size + 1)) #[] #[]] ++ caps.toArray) ((w.alloc (.deferred (some []))).alloc (.loop ⟨.ready, none, fn, a.tmps, #[p], assign, body, w.heap.size⟩))
    simpa using this
  · rintro e w' ⟨v, rfl, I', B', h4, h5, r', B1, rfl, hr1, hr2, hR⟩
    obtain ⟨h6, h7⟩ := h3.call h4 h5
    have hl : w'.heap[w.heap.size + 1]? = some (.loop r') := h6.own (.box (w.heap.size + 1) (.loop r')) (List.mem_append.2 (.inl List.mem_cons_self))
    refine ⟨none, w'.putObj (w.heap.size + 1) (.loop { r' with state := .exhausted }), ?_, ?_⟩
    · rw [run_endLoop hl (by rw [hr1]; decide), hr2]
    · have h8 : St w0 X I' (.box (w.heap.size + 1) (.loop { r' with state := .exhausted }) :: (B1 ++ .box w.heap.size (.deferred (some [])) :: B0)) (w'.putObj (w.heap.size + 1) (.loop { r' with state := .exhausted })) :=
        St.turn (it := .box (w.heap.size + 1) (.loop r')) h6 .here ⟨rfl, rfl, rfl, by simp, fun k _ hk => World.putObj_heap_other (fun e => hk (by rw [e]; rfl))⟩ (World.putObj_heap_same ((Array.getElem?_eq_some_iff.1 hl).1)) (fun _ h => .inl h)
      exact (k w.heap.size I' B1 h7 hR).out _ _ ⟨ha.size, by show _ = _; simp [ha.defs], ha.get⟩ (h8.drop (List.sublist_cons_self _ _)))⟩
/-- What a function's body must end in that leaves with a mark. -/
def BPM (P : Program) (fn : Func) (R : Value → World → Prop) : Exit → Act → World → Prop := bodyPostM Fence.wide 0 P fn fun e w' => ∃ v, e = .returned v ∧ R v w'
theorem enterM {f : FuncId} {fn : Func} {c : Code} {args : List Value} {R : Value → World → Prop} {S : World → Prop} (E : Env) (n : Nat) (hf : P.funcs[f]? = some fn) (hb : fn.body = some c) (hn : fn.ntmps = n) (hs : Nat.ble args.length n = true)
    (hE : ∀ i v, look E i = some v → args[i]? = some v) (h : TC P c (BPM P fn R) n [] E S) {w : World} (hw : S w) : Ret P f args.toArray w R := by
  have hs' : args.length ≤ n := by simpa using hs
  refine callsIn_wide.1 (callsIn_of_wp_marks (F := Fence.wide) (n := 0) hf hb trivial ((wpIn_wide (n := 0)).2 (h.out _ _ ⟨?_, rfl, ?_⟩ hw)) rfl)
  · simp [hn]; omega
  · intro i v hi
    have h1 := hE i v hi
    rw [Array.getD_eq_getD_getElem?, Array.getElem?_append]
    obtain ⟨hlt, h2⟩ := List.getElem?_eq_some_iff.1 h1
    simp [hlt, h2]
theorem enterM2 {f : FuncId} {fn : Func} {c : Code} {a0 a1 : Value} {R : Value → World → Prop} {S : World → Prop} (n : Nat) (hf : P.funcs[f]? = some fn) (hb : fn.body = some c) (hn : fn.ntmps = n) (hs : Nat.ble 2 n = true)
    (h : TC P c (BPM P fn R) n [] [(0, a0), (1, a1)] S) {w : World} (hw : S w) : Ret P f #[a0, a1] w R := enterM (args := [a0, a1]) _ n hf hb hn hs (fun i v hi => by
      match i, hi with
      | 0, hi => exact hi
      | 1, hi => exact hi
      | i + 2, hi => cases hi) h hw
theorem retM1 {fn : Func} {t Dd : Nat} {v : Value} {R : Value → World → Prop} {B' : List Item} (hres : fn.results = #[.tmp t]) (hv : look E t = some v) (hB : Take (.box Dd (.deferred (some []))) B B') (h : ∀ w, St w0 X I B' w → R v w) : TE (BPM P fn R) .ret n [{ target := .collected Dd, args := #[] }] E (St w0 X I B) := ⟨fun a w ha hw => by
  have h1 := hw.perm hB.perm
  have hD : w.heap[Dd]? = some (.deferred (some [])) := h1.own (.box Dd (.deferred (some []))) List.mem_cons_self
  have h2 : St w0 X I (.box Dd (.deferred none) :: B') (w.putObj Dd (.deferred none)) :=
    h1.turn .here ⟨rfl, rfl, rfl, by simp, fun k _ hk => World.putObj_heap_other (fun e => hk (by rw [e]; rfl))⟩ (World.putObj_heap_same ((Array.getElem?_eq_some_iff.1 hD).1)) (fun _ h => .inl h)
  show LeavesInM Fence.wide 0 P fn a.tmps _ a.defers .returning w
  rw [ha.defs]
  refine ⟨fun h => (by cases h), .inl ⟨Dd, _, rfl, run_takeDeferred hD, ?_⟩⟩
  exact ⟨v, by rw [results_tmp hres a.tmps P _, ha.get t v hv], v, rfl, h _ (h2.drop (List.sublist_cons_self _ _))⟩⟩
end
end Go.Tw
/-
  Layer 5 of the program: common divisors, lowest terms.
-/
namespace Go.Proofs.YtjgbjaaekknenaaGreat
open Go Go.Tw
set_option linter.unusedVariables false
set_option linter.unusedSimpArgs false
set_option linter.unnecessarySimpa false
set_option maxHeartbeats 1000000
/-- A variable's box. -/
def vbox (b : Nat) (v : Value) : Tw.Item := .box b (.cells [v].toArray 31 (0, 0))
theorem rests_any (va vb : Value) (A B : List Nat) {I : Hp} (ha : Ws I va A) (hb : Ws I vb B) : Fun Tryz.prog 128 [va, vb] I [] (fun v I' B' => I = I' ∧ ∃ b2 b3, v = .func (.func 148) #[] #[.pointer (some ⟨b3, 0, none⟩), .pointer (some ⟨b2, 0, none⟩)] ∧ B' = [vbox b3 vb, vbox b2 va]) := by
  intro w hw
  refine enter2 _ Tryz.func128 rfl Tryz.ntmps128 rfl ?_ hw
  refine c_seq (c_region ?_)
  refine o_box (cs := [_]) trivial rfl rfl (ha.cells1).1 (fun b2 => ?_)
  refine o_box (cs := [_]) trivial rfl rfl (hb.cells1).1 (fun b3 => ?_)
  refine o_pv trivial rfl rfl ?_
  refine o_nil (then_c (c_seq (c_region ?_)))
  iterate 2 refine o_pv trivial rfl rfl ?_
  refine o_nil (then_c (c_ret ?_))
  refine ret1 rfl rfl ?_
  exact fun w' hw' => ⟨I, [vbox b3 vb, vbox b2 va], hw', Ext.refl _ _, rfl, b2, b3, rfl, rfl⟩
/-- The round keeps its value in the box b5. -/
structure RoundOK (P : Program) (r : Loop) (p b5 : Nat) : Prop where
  one : r.params = #[p]
  state : r.state = .ready
  pending : r.pending = none
  go : ∀ (w0 : World) (X : List Nat) (I : Hp) (B : List Tw.Item) (l : Nat) (y z : Value) (w : World) (S : List Nat), Ws I y S → St w0 X I (.box l (.loop r) :: vbox b5 z :: B) w → RoundIn Fence.wide 0 P l r.fn (r.tmps.setIfInBounds p y) r.assign r.body w (fun e w' => e = .returned (.bool true) ∧ St w0 X I (.box l (.loop r) :: vbox b5 y :: B) w')
theorem rests1_any (l b5 b2 b3 : Nat) (r : Loop) {p : Nat} (ok : RoundOK Tryz.prog r p b5) (va vb : Value) (A B : List Nat) {I : Hp} (ha : Ws I va A) (hb : Ws I vb B) (hs : A.length ≤ 400000) (hs2 : B.length ≤ 400000) :
    Fun Tryz.prog 148 [.func (.yield l) #[] #[], .pointer (some ⟨b3, 0, none⟩), .pointer (some ⟨b2, 0, none⟩)] I [.box l (.loop r), vbox b5 va, vbox b2 va, vbox b3 vb]
      (fun _ I' B' => ∃ r' B1, B' = .box l (.loop r') :: B1 ∧ r'.state = .ready ∧ r'.pending = none ∧ ∃ u L, B1 = [vbox b5 u] ∧ Ws I' u L ∧ val L = Nat.gcd (val A) (val B) ∧ L.length ≤ 400000) := by
  intro w hw
  refine enter3 _ Tryz.func148 rfl Tryz.ntmps148 rfl ?_ hw
  refine c_block ?_
  refine c_loop (ι := Value × Value × List Nat × List Nat × Hp) [0, 1, 2] (.cons rfl (.cons rfl (.cons rfl .nil))) (fun x => val x.2.2.2.1) (fun x E0 => E0) (fun x => St w _ x.2.2.2.2 [.box l (.loop r), vbox b5 x.1, vbox b2 x.1, vbox b3 x.2.1]) (fun x => Ws x.2.2.2.2 x.1 x.2.2.1 ∧ Ws x.2.2.2.2 x.2.1 x.2.2.2.1 ∧ x.2.2.1.length ≤ 400000 ∧ x.2.2.2.1.length ≤ 400000 ∧ Nat.gcd (val x.2.2.1) (val x.2.2.2.1) = Nat.gcd (val A) (val B) ∧ Ext w.heap.size I x.2.2.2.2) ((va, vb, A, B, I)) (sub_cons rfl (sub_cons rfl (sub_cons rfl sub_nil))) (fun _ h => h) (⟨ha, hb, hs, hs2, rfl, Ext.refl _ _⟩) ?_
  rintro ⟨u, z, L, M, I1⟩ ⟨hu, hz, hsL, hsM, hg, hx1⟩
  try dsimp only
  simp only at hu hz hsL hsM hg hx1; unfold vbox
  refine c_seq (c_seq (c_region ?_))
  refine o_load1 trivial rfl Tryz.isAgg31 rfl (by repeat constructor) (by repeat constructor) ?_
  refine o_callQ trivial rfl Tryz.call96 rfl (natBits_any _ _ hz (by omega)) ?_
  refine o_pv trivial rfl rfl ?_
  refine o_nil (then_c ?_)
  refine c_cond rfl (fun h1 => ?_) (fun h1 => ?_)
  ·
   have f1 := h1
   try simp only [bl] at f1
   have hM : 0 < val M := Nat.pos_of_ne_zero fun e => by rw [e] at f1; simp [bitZ] at f1
   refine c_skip (then_c (c_block (c_seq (c_region ?_))))
   iterate 2 refine o_load1 trivial rfl Tryz.isAgg31 rfl (by repeat constructor) (by repeat constructor) ?_
   refine o_callI trivial rfl Tryz.call98 rfl (div_any _ _ _ _ hu hz (by omega) (by omega) hM) ?_
   rintro _ I2 hx2 ⟨u1, u2, rfl, hq, hr2⟩
   iterate 7 refine o_pv trivial rfl rfl ?_
   refine o_nil (then_c (c_seq (c_region ?_)))
   refine o_load1 trivial rfl Tryz.isAgg31 rfl (by repeat constructor) (by repeat constructor) ?_
   refine o_pv trivial rfl rfl ?_
   refine o_storeBox1 trivial rfl rfl (hz.cells1).1 Tryz.sizeOf31 (hz.cells1).2 (by repeat constructor) (by exact Nat.le_of_ble_eq_true rfl) ?_
   refine o_storeBox1 trivial rfl rfl (hr2.cells1).1 Tryz.sizeOf31 (hr2.cells1).2 (by repeat constructor) (by exact Nat.le_of_ble_eq_true rfl) ?_
   refine o_nil (then_c (c_seq ?_))
   refine c_ti (m := 4) rfl (ti_rd (fun _ => trivial) rfl rfl rfl (runs_pv rfl) (ti_rd (fun _ => trivial) rfl rfl rfl (reads_box1 (off := 0) (cs := [z]) (Tb := 31) (fz := (0, 0)) Tryz.isAgg31 rfl (List.Mem.tail _ (List.Mem.tail _ (List.Mem.head _))) rfl) (ti_yield (r := r) (S' := St w _ I2 [.box l (.loop r), vbox b5 z, vbox b2 z, vbox b3 u2]) rfl rfl rfl rfl ok.one (fun w' hw' => hw'.own (.box l (.loop r)) List.mem_cons_self) (fun w' hw' => ok.go w _ I2 _ l z u w' M (hz.le hx2.le) hw') (ti_rd (fun _ => trivial) rfl rfl rfl (runs_pv rfl) (ti_nil ?_)))))
   refine then_c ?_
   refine c_cond_f rfl (by rfl) ?_
   refine c_skip (blk_n ?_)
   exact again (z, u2, M, natW (val L % val M), I2) (sub_cons rfl (sub_cons rfl (sub_cons rfl sub_nil))) (fun _ h => h) (by show val (natW (val L % val M)) < val M; rw [val_natW]; exact Nat.mod_lt _ hM) ⟨hz.le hx2.le, hr2, hsM, natW_len_of (Nat.lt_of_lt_of_le (Nat.mod_lt _ hM) (Nat.le_of_lt (val_lt hz.wds))) hsM, by simp only; rw [val_natW, gcd_next]; exact hg, hx1.trans hx2 (Nat.le_refl _)⟩
  ·
   have f1 := h1
   try simp only [bl] at f1
   have hM : val M = 0 := bitZ_zero.1 (by omega)
   refine c_exit (then_x (then_x (blk_eq rfl ?_)))
   refine ret0 rfl ?_
   refine leaf hx1 (B' := [.box l (.loop r), vbox b5 u]) ((List.nil_sublist _).cons_cons _ |>.cons_cons _) ⟨r, [vbox b5 u], rfl, ok.state, ok.pending, u, L, rfl, hu, ?_, hsL⟩; rw [← hg, hM, Nat.gcd_zero_right]
theorem fits_put {n : Nat} {D : List Deferred} {E : Env} {a : Act} (h : Fits n D E a) {d : Nat} (hd : Nat.blt d n = true) (v : Value) (D' : List Deferred) : Fits n D' ((d, v) :: E) { tmps := a.tmps.setIfInBounds d v, defers := D' } :=
  let h1 := h.put hd v
  ⟨h1.size, rfl, h1.get⟩
theorem gcd_any (va vb : Value) (A B : List Nat) {I : Hp} (ha : Ws I va A) (hb : Ws I vb B) (hs : A.length ≤ 400000) (hs2 : B.length ≤ 400000) : Fun Tryz.prog 97 [va, vb] I [] (fun v I' _ => Ws I' v (natW (Nat.gcd (val A) (val B)))) := by
  intro w hw
  refine enterM2 _ Tryz.func97 rfl Tryz.ntmps97 rfl ?_ hw
  refine c_seq (c_region ?_)
  refine o_pv trivial rfl rfl ?_
  refine o_nil (then_c (c_seq (c_region ?_)))
  refine o_pv trivial rfl rfl ?_
  refine o_alloc trivial rfl Tryz.zeroValue31 rfl (fun b5 => ?_)
  refine o_storeBox1 trivial rfl rfl (ha.cells1).1 Tryz.sizeOf31 (ha.cells1).2 (by repeat constructor) (by exact Nat.le_of_ble_eq_true rfl) ?_
  refine o_nil (then_c (c_seq (c_seq (c_region ?_))))
  iterate 2 refine o_pv trivial rfl rfl ?_
  refine o_callK trivial rfl Tryz.call128 rfl (rests_any va vb A B ha hb) (by repeat constructor) ?_
  rintro _ I1 B1 hx1 ⟨rfl, b2, b3, rfl, rfl⟩
  refine o_nil (then_c (c_block ?_))
  refine c_rangeF (R := fun I' B1 => ∃ u L, B1 = [vbox b5 u] ∧ Ws I' u L ∧ val L = Nat.gcd (val A) (val B) ∧ L.length ≤ 400000) (Bc := [vbox b5 va, vbox b2 va, vbox b3 vb]) rfl Tryz.call148 (by repeat constructor) (fun fn l Dd a hfit => rests1_any l b5 b2 b3 _ ⟨rfl, rfl, rfl, fun w0 X I B l y z w' S hy hw' => round_of (B' := vbox b5 y :: B) rfl (fits_put hfit rfl y []) (ci_ti (m := 1) rfl (ti_rd (fun _ => trivial) rfl rfl rfl (runs_pv rfl) (ti_nil ⟨fun a w ha hw => ⟨rfl, ha, hw⟩⟩))) (ci_block (ci_ti (m := 2) rfl (ti_rd (fun _ => trivial) rfl rfl rfl (runs_pv rfl) (ti_st (fun _ => trivial) rfl rfl (runsU_box1 rfl rfl hy.cells1.1 Tryz.sizeOf31 hy.cells1.2 (.there .here)) (ti_nil (blk_n ⟨fun a w ha hw => ⟨rfl, hw⟩⟩)))))) hw'⟩ va vb A B ha hb hs hs2) ?_
  rintro Dd I2 _ hx2 ⟨u, L, rfl, hu, hL, hLs⟩
  refine blk_n (then_c (c_seq (c_region ?_)))
  refine o_loadBox1 trivial rfl Tryz.isAgg31 rfl (by repeat constructor) (rfl) ?_
  refine o_callI trivial rfl Tryz.call99 rfl (natTrim_any _ _ hu (by omega)) ?_
  rintro u3 I3 hx3 hs3
  refine o_pv trivial rfl rfl ?_
  refine o_nil (then_c (c_ret ?_))
  refine retM1 rfl rfl (Take.there Take.here) ?_
  refine leaf (hx2.trans hx3 (Nat.le_refl _)) (List.nil_sublist _) ?_; rw [hL] at hs3; exact hs3
theorem natW_le_len {a b : Nat} (h : a ≤ b) : (natW a).length ≤ (natW b).length := by
  have := val_lt (Wds_natW b)
  rw [val_natW] at this
  exact natW_len_le (Nat.lt_of_le_of_lt h this)
theorem natW_len_list {l : List Nat} (h : Wds l) : (natW (val l)).length ≤ l.length := by rw [← lowL_len h]; exact low_le _ _
theorem lowest_any (va vb : Value) (A B : List Nat) {I : Hp} (ha : Ws I va A) (hb : Ws I vb B) (hs : A.length ≤ 400000) (hs2 : B.length ≤ 400000) : Fun Tryz.prog 68 [va, vb] I [] (fun v I' _ => ∃ u1 u2, v = .tuple #[u1, u2, .bool (decide (val B ≠ 0))] ∧ (val B ≠ 0 → Ws I' u1 (natW (val A / Nat.gcd (val A) (val B))) ∧ Ws I' u2 (natW (val B / Nat.gcd (val A) (val B))))) := by
  intro w hw
  refine enter2 _ Tryz.func68 rfl Tryz.ntmps68 rfl ?_ hw
  refine c_seq (c_region ?_)
  iterate 3 refine o_pv trivial rfl rfl ?_
  refine o_nil (then_c (c_seq (c_seq (c_region ?_))))
  refine o_pv trivial rfl rfl ?_
  refine o_callQ trivial rfl Tryz.call96 rfl (natBits_any _ _ hb (by omega)) ?_
  refine o_pv trivial rfl rfl ?_
  refine o_nil (then_c ?_)
  refine c_cond rfl (fun h1 => ?_) (fun h1 => ?_)
  ·
   have f1 := h1
   try simp only [bl] at f1
   refine c_seq (c_region ?_)
   iterate 3 refine o_pv trivial rfl rfl ?_
   refine o_nil (then_c (c_ret (then_r ?_)))
   refine ret3 rfl rfl rfl rfl ?_
   have h0 : val B = 0 := bitZ_zero.1 (by omega)
   refine leaf0 ⟨.slice none 0 0, .slice none 0 0, ?_, fun h => absurd h0 h⟩; rw [decide_eq_false (not_not_intro h0)]
  ·
   have f1 := h1
   try simp only [bl] at f1
   have h0 : 0 < val B := Nat.pos_of_ne_zero fun e => f1 (by rw [e]; rfl)
   have hg : 0 < Nat.gcd (val A) (val B) := Nat.gcd_pos_of_pos_right _ h0
   have hgl : (natW (Nat.gcd (val A) (val B))).length ≤ 400000 := Nat.le_trans (natW_le_len (Nat.gcd_le_right _ h0)) (Nat.le_trans (natW_len_list hb.wds) hs2)
   refine c_skip (then_c (c_seq (c_region ?_)))
   iterate 2 refine o_pv trivial rfl rfl ?_
   refine o_callI trivial rfl Tryz.call97 rfl (gcd_any _ _ _ _ ha hb hs hs2) ?_
   rintro u1 I1 hx1 hs1
   refine o_pv trivial rfl rfl ?_
   refine o_nil (then_c (c_seq (c_region ?_)))
   iterate 2 refine o_pv trivial rfl rfl ?_
   refine o_callI trivial rfl Tryz.call98 rfl (div_any _ _ _ _ (ha.le hx1.le) hs1 (by omega) (by omega) (by rw [val_natW]; exact hg)) ?_
   rintro _ I2 hx2 ⟨u2, u3, rfl, hq2, hr2⟩
   iterate 5 refine o_pv trivial rfl rfl ?_
   refine o_nil (then_c (c_seq (c_region ?_)))
   iterate 2 refine o_pv trivial rfl rfl ?_
   refine o_callI trivial rfl Tryz.call98 rfl (div_any _ _ _ _ (hb.le (hx1.le.trans hx2.le)) (hs1.le hx2.le) (by omega) (by omega) (by rw [val_natW]; exact hg)) ?_
   rintro _ I3 hx3 ⟨u4, u5, rfl, hq4, hr4⟩
   iterate 5 refine o_pv trivial rfl rfl ?_
   refine o_nil (then_c (c_seq (c_region ?_)))
   iterate 5 refine o_pv trivial rfl rfl ?_
   refine o_nil (then_c (c_ret ?_))
   refine ret3 rfl rfl rfl rfl ?_
   rw [val_natW] at hq2 hq4
   refine leaf (hx1.trans (hx2.trans hx3 (Nat.le_refl _)) (Nat.le_refl _)) (List.nil_sublist _) ⟨u2, u4, ?_, fun _ => ⟨hq2.le hx3.le, hq4⟩⟩; rw [decide_eq_true (by omega)]; rfl
theorem apart_any (va vb : Value) (A B : List Nat) {I : Hp} (ha : Ws I va A) (hb : Ws I vb B) (hs : A.length ≤ 400000) (hs2 : B.length ≤ 400000) : Fun Tryz.prog 154 [va, vb] I [] (fun v I' _ => v = .bool (decide (Nat.gcd (val A) (val B) = 1))) := by
  intro w hw
  refine enter2 _ Tryz.func154 rfl Tryz.ntmps154 rfl ?_ hw
  refine c_seq (c_region ?_)
  refine o_pv trivial rfl rfl ?_
  refine o_nil (then_c (c_seq (c_region ?_)))
  iterate 2 refine o_pv trivial rfl rfl ?_
  refine o_callI trivial rfl Tryz.call97 rfl (gcd_any _ _ _ _ ha hb hs hs2) ?_
  rintro u1 I1 hx1 hs1
  have hgl : (natW (Nat.gcd (val A) (val B))).length ≤ 400000 := by
    rcases Nat.eq_zero_or_pos (val B) with h0 | h0
    · rw [h0, Nat.gcd_zero_right]; exact Nat.le_trans (natW_len_list ha.wds) hs
    · exact Nat.le_trans (natW_le_len (Nat.gcd_le_right _ h0)) (Nat.le_trans (natW_len_list hb.wds) hs2)
  refine o_callI trivial rfl Tryz.call69 rfl (natOf_any 1 (by decide)) ?_
  rintro u2 I2 hx2 hs2'
  refine o_callQ trivial rfl Tryz.call161 rfl (natCmp_any _ _ _ _ (hs1.le hx2.le) hs2' (by omega) (natW_len_of (k := 1) (by decide) (by decide))) ?_
  iterate 2 refine o_pv trivial rfl rfl ?_
  refine o_nil (then_c (c_ret ?_))
  refine ret1 rfl rfl ?_
  refine leaf (hx1.trans hx2 (Nat.le_refl _)) (List.nil_sublist _) (congrArg Value.bool ?_)
  rw [val_natW, val_natW, Bool.eq_iff_iff, beq_iff_eq, decide_eq_true_eq]
  constructor
  · intro h; have := cmpZ_zero h; omega
  · intro h; rw [h]; exact cmpZ_self _
end Go.Proofs.YtjgbjaaekknenaaGreat
/-
  Rational numbers, in plain Lean: lowest terms are mkRat. No program stands here.
-/
namespace Go.Tw
set_option linter.unusedVariables false
set_option linter.unusedSimpArgs false
set_option linter.unnecessarySimpa false
set_option maxHeartbeats 1000000
/-- A sign, and two numbers, in lowest terms. -/
def lowQ (neg : Bool) (n d : Nat) : Rat := mkRat (if neg then -(n : Int) else n) d
theorem lowQ_zero {neg : Bool} {n d : Nat} (h : d = 0 ∨ n = 0) : lowQ neg n d = 0 := by
  unfold lowQ
  rcases h with rfl | rfl
  · exact Rat.mkRat_zero _
  · cases neg <;> exact Rat.zero_mkRat _
theorem lowQ_parts {neg : Bool} {n d : Nat} (hn : n ≠ 0) (hd : d ≠ 0) : (lowQ neg n d).num.natAbs = n / Nat.gcd n d ∧ (lowQ neg n d).den = d / Nat.gcd n d ∧ decide ((lowQ neg n d).num < 0) = neg := by
  have hg : 0 < Nat.gcd n d := Nat.gcd_pos_of_pos_left _ (by omega)
  have hna : (if neg then -(n : Int) else (n : Int)).natAbs = n := by cases neg <;> simp
  have hdv : (Nat.gcd n d : Int) ∣ (if neg then -(n : Int) else (n : Int)) := by
    cases neg
    · exact Int.natCast_dvd_natCast.2 (Nat.gcd_dvd_left n d)
    · exact Int.dvd_neg.2 (Int.natCast_dvd_natCast.2 (Nat.gcd_dvd_left n d))
  have hpos : 0 < n / Nat.gcd n d := Nat.div_pos (Nat.le_of_dvd (by omega) (Nat.gcd_dvd_left n d)) hg
  unfold lowQ
  rw [Rat.num_mkRat, Rat.den_mkRat, if_neg hd, if_neg hd, hna, Nat.gcd_comm d n]
  have e : (if neg then -(n : Int) else (n : Int)) / (Nat.gcd n d : Int) = if neg then -((n / Nat.gcd n d : Nat) : Int) else ((n / Nat.gcd n d : Nat) : Int) := by
    cases neg
    · simp only [Bool.false_eq_true, if_false]; exact (Int.natCast_ediv _ _).symm
    · simp only [if_true]
      rw [Int.neg_ediv_of_dvd (Int.natCast_dvd_natCast.2 (Nat.gcd_dvd_left n d)), Int.natCast_ediv]
  rw [e]
  refine ⟨?_, rfl, ?_⟩
  all_goals generalize n / Nat.gcd n d = s at *
  · cases neg <;> simp
  · cases neg
    · simp only [Bool.false_eq_true, if_false]; exact decide_eq_false (by omega)
    · simp only [if_true]; exact decide_eq_true (by omega)
theorem sign_abs (z : Int) : (if decide (z < 0) then -(z.natAbs : Int) else (z.natAbs : Int)) = z := by
  by_cases h : z < 0
  · rw [decide_eq_true h, if_pos rfl]; omega
  · rw [decide_eq_false h, if_neg (by decide)]; omega
theorem lowQ_int (z : Int) (d : Nat) : lowQ (decide (z < 0)) z.natAbs d = mkRat z d := by unfold lowQ; rw [sign_abs]
theorem lowQ_self (q : Rat) : lowQ (decide (q.num < 0)) q.num.natAbs q.den = q := by rw [lowQ_int]; exact Rat.mkRat_self q
theorem lowQ_neg (q : Rat) : lowQ (!decide (q.num < 0)) q.num.natAbs q.den = -q := by
  have h := lowQ_self q
  unfold lowQ at h ⊢
  conv => rhs; rw [← h]
  rw [Rat.neg_mkRat]
  by_cases h1 : q.num < 0
  · rw [decide_eq_true h1]; simp
  · rw [decide_eq_false h1]; simp
theorem sign_mul (x y : Int) : (if (decide (x < 0) != decide (y < 0)) then -((x.natAbs * y.natAbs : Nat) : Int) else ((x.natAbs * y.natAbs : Nat) : Int)) = x * y := by
  have key : ∀ (s t : Bool) (a b : Nat), (if s != t then -((a * b : Nat) : Int) else ((a * b : Nat) : Int)) = (if s then -(a : Int) else a) * (if t then -(b : Int) else b) := by
    intro s t a b
    cases s <;> cases t <;> simp [Int.mul_neg, Int.neg_mul]
  rw [key, sign_abs, sign_abs]
theorem lowQ_mul (p q : Rat) : lowQ (decide (p.num < 0) != decide (q.num < 0)) (p.num.natAbs * q.num.natAbs) (p.den * q.den) = p * q := by
  unfold lowQ; rw [sign_mul]; exact (Rat.mul_def' p q).symm
/-- Both parts have so many words at most. -/
structure Few (k : Nat) (q : Rat) : Prop where
  num : q.num.natAbs < 4294967296 ^ k
  den : q.den < 4294967296 ^ k
theorem Few.le {k m : Nat} {q : Rat} (h : Few k q) (hk : k ≤ m) : Few m q :=
  ⟨Nat.lt_of_lt_of_le h.num (Nat.pow_le_pow_right (by decide) hk), Nat.lt_of_lt_of_le h.den (Nat.pow_le_pow_right (by decide) hk)⟩
theorem Few.neg {k : Nat} {q : Rat} (h : Few k q) : Few k (-q) := ⟨by rw [Rat.neg_num, Int.natAbs_neg]; exact h.num, by rw [Rat.neg_den]; exact h.den⟩
theorem natW_few {n k m : Nat} (h : n < 4294967296 ^ k) (hm : k ≤ m) : (natW n).length ≤ m := Nat.le_trans (natW_len_le h) hm
theorem lowQ_divInt (n d : Int) : lowQ (decide (n < 0) != decide (d < 0)) n.natAbs d.natAbs = Rat.divInt n d := by
  rcases (by omega : d < 0 ∨ 0 ≤ d) with h | h
  · have e : d = -((d.natAbs : Nat) : Int) := by omega
    conv => rhs; rw [e]
    rw [Rat.divInt_neg', Rat.divInt_ofNat, decide_eq_true h]
    unfold lowQ
    refine congrArg (mkRat · _) ?_
    by_cases hn : n < 0
    · rw [decide_eq_true hn]; simp; omega
    · rw [decide_eq_false hn]; simp; omega
  · have e : d = ((d.natAbs : Nat) : Int) := by omega
    conv => rhs; rw [e]
    have h1 : decide (d < 0) = false := decide_eq_false (by omega)
    rw [Rat.divInt_ofNat, h1, ← lowQ_int]
    simp
theorem div_parts (p q : Rat) : Rat.divInt (p.num * (q.den : Int)) ((p.den : Int) * q.num) = p / q := by
  rw [Rat.div_def, Rat.inv_def]
  conv => rhs; lhs; rw [← Rat.num_divInt_den p]
  rw [Rat.divInt_mul_divInt]
/-- A sign of a power. -/
theorem sign_pow (x : Int) (n : Nat) : decide (x ^ n < 0) = (decide (x < 0) && decide (n % 2 ≠ 0)) := by
  have key : ∀ k, x ^ (2 * k) = (x ^ k) ^ 2 := fun k => by rw [Nat.mul_comm, Int.pow_mul]
  have sq : ∀ y : Int, 0 ≤ y ^ 2 := fun y => by
    rw [Int.pow_succ, Int.pow_succ, Int.pow_zero, Int.one_mul]
    rcases (by omega : y < 0 ∨ 0 ≤ y) with h | h
    · exact Int.le_of_lt (Int.mul_pos_of_neg_of_neg h h)
    · exact Int.mul_nonneg h h
  have hz : ∀ k, x ^ k = 0 → x = 0 := fun k h => by
    by_cases hx : x = 0
    · exact hx
    · exact absurd h (Int.pow_ne_zero hx)
  obtain ⟨k, hk⟩ : ∃ k, n = 2 * k ∨ n = 2 * k + 1 := ⟨n / 2, by omega⟩
  rcases hk with rfl | rfl
  · rw [show (2 * k) % 2 = 0 by omega, key]
    simp [sq]
  · rw [show (2 * k + 1) % 2 = 1 by omega, Int.pow_succ, key]
    have h0 := sq (x ^ k)
    by_cases hx : x < 0
    · have hne : (x ^ k) ^ 2 ≠ 0 := fun e => by
        rw [Int.pow_succ, Int.pow_succ, Int.pow_zero, Int.one_mul] at e
        rcases Int.mul_eq_zero.1 e with e | e <;> exact absurd (hz k e) (by omega)
      have : (x ^ k) ^ 2 * x < 0 := Int.mul_neg_of_pos_of_neg (by omega) hx
      simp [hx, this]
    · have : 0 ≤ (x ^ k) ^ 2 * x := Int.mul_nonneg h0 (by omega)
      simp [hx]; omega
theorem lowQ_pow (q : Rat) (n : Nat) : lowQ (decide (q.num < 0) && decide (n % 2 ≠ 0)) (q.num.natAbs ^ n) (q.den ^ n) = q ^ n := by
  rw [← sign_pow, ← Int.natAbs_pow, lowQ_int]
  have h := Rat.mkRat_self (q ^ n)
  rw [Rat.num_pow, Rat.den_pow] at h
  exact h
theorem lowQ_ipow (q : Rat) (n : Nat) : lowQ (decide (q.num < 0) && decide (n % 2 ≠ 0)) (q.den ^ n) (q.num.natAbs ^ n) = (q ^ n)⁻¹ := by
  rw [Rat.inv_def, Rat.num_pow, Rat.den_pow, ← lowQ_divInt, ← sign_pow, Int.natAbs_pow, Int.natAbs_natCast]
  have h : decide (((q.den ^ n : Nat) : Int) < 0) = false := decide_eq_false (by omega)
  rw [h]; simp
end Go.Tw
/-
  Layers 7 and 8 of the program: integers, rational numbers.
-/
namespace Go.Proofs.YtjgbjaaekknenaaGreat
open Go Go.Tw
set_option linter.unusedVariables false
set_option linter.unusedSimpArgs false
set_option linter.unnecessarySimpa false
set_option maxHeartbeats 1000000
/-- An integer in memory. -/
def IntV (I : Hp) (v : Value) (z : Int) : Prop := ∃ vm, v = .agg #[.bool (decide (z < 0)), vm] ∧ Ws I vm (natW z.natAbs)
/-- A rational number in memory, in lowest terms. -/
def RatV (I : Hp) (v : Value) (q : Rat) : Prop := ∃ vn vd, v = .agg #[.bool (decide (q.num < 0)), vn, vd] ∧ Ws I vn (natW q.num.natAbs) ∧ Ws I vd (natW q.den)
theorem IntV.le {I I' : Hp} {v : Value} {z : Int} (h : IntV I v z) (hl : I.Le I') : IntV I' v z := let ⟨vm, h1, h2⟩ := h; ⟨vm, h1, h2.le hl⟩
theorem RatV.le {I I' : Hp} {v : Value} {q : Rat} (h : RatV I v q) (hl : I.Le I') : RatV I' v q := let ⟨vn, vd, h1, h2, h3⟩ := h; ⟨vn, vd, h1, h2.le hl, h3.le hl⟩
theorem sign_of (neg : Bool) (n : Nat) : (neg && decide (0 < n)) = decide ((if neg then -(n : Int) else n) < 0) := by
  cases neg <;> simp
theorem abs_of (neg : Bool) (n : Nat) : (if neg then -(n : Int) else (n : Int)).natAbs = n := by cases neg <;> simp
theorem signed_any (neg : Bool) (va : Value) (A : List Nat) {I : Hp} (ha : Ws I va A) (hs : A.length ≤ 1000000) : Fun Tryz.prog 136 [.bool neg, va] I [] (fun v I' _ => IntV I' v (if neg then -(val A : Int) else val A)) := by
  intro w hw
  refine enter2 _ Tryz.func136 rfl Tryz.ntmps136 rfl ?_ hw
  refine c_seq (c_region ?_)
  refine o_alloc trivial rfl Tryz.zeroValue93 rfl (fun b4 => ?_)
  refine o_nil (then_c (c_seq (c_region ?_)))
  refine o_pv trivial rfl rfl ?_
  refine o_callI trivial rfl Tryz.call99 rfl (natTrim_any _ _ ha (by omega)) ?_
  rintro u1 I1 hx1 hs1
  refine o_pv trivial rfl rfl ?_
  refine o_nil (then_c (c_seq (c_region ?_)))
  refine o_pv trivial rfl rfl ?_
  refine' o_and trivial trivial rfl rfl rfl rfl rfl rfl rfl rfl (fun hb8 => ?_) ?_
  rotate_left
  ·
   have fb8 := hb8
   try simp only [bl] at fb8
   refine o_pv (wants_some rfl rfl hb8) rfl rfl ?_
   refine o_lenW (wants_some rfl rfl hb8) rfl Tryz.underlying31 rfl (hs1) ?_
   refine o_pv (wants_some rfl rfl hb8) rfl rfl ?_
   refine o_nil ?_
   exact joins rfl
  refine o_pv trivial rfl rfl ?_
  refine o_buildS trivial rfl (bld93) rfl (.cons rfl rfl rfl (by repeat constructor) (.cons rfl (by first | exact (Ws.cells1 (by assumption)).1 | exact (Slc.cells1 (by assumption)).1 | rfl) (by rfl) (by repeat constructor) .nil)) ?_
  refine o_store trivial rfl rfl rfl Tryz.sizeOf93 rfl (by first | rfl | (repeat' (first | exact rfl | exact one_nil | refine one_cons ?_ ?_ | exact (Ws.cells1 (by assumption)).2 | exact (Slc.cells1 (by assumption)).2))) (by repeat constructor) (by repeat constructor) ?_
  refine o_nil (then_c (c_ret ?_))
  refine retR rfl (.agg Tryz.isAgg93 Tryz.sizeOf93 rfl (by repeat constructor) rfl .nil) ?_
  refine leaf hx1 (List.nil_sublist _) ⟨u1, ?_, by rw [abs_of]; exact hs1⟩
  rw [← sign_of]
  have e : decide (((natW (val A)).length : Int) > 0) = decide (0 < val A) := by
    rw [decide_eq_decide]
    constructor
    · intro h; exact Nat.pos_of_ne_zero fun e => by rw [e, natW_zero] at h; simp at h
    · intro h; have := (natW_topB (n := val A) (by omega)).1; omega
  rw [e]; rfl
theorem wMul_any (va vb : Value) (x y : Int) {I : Hp} (ha : Ws I va (natW x.natAbs)) (hb : Ws I vb (natW y.natAbs)) (hs : (natW x.natAbs).length ≤ 200000) (hs2 : (natW y.natAbs).length ≤ 200000) : Fun Tryz.prog 105 [.agg #[.bool (decide (x < 0)), va], .agg #[.bool (decide (y < 0)), vb]] I [] (fun v I' _ => IntV I' v (x * y)) := by
  intro w hw
  refine enter2 _ Tryz.func105 rfl Tryz.ntmps105 rfl ?_ hw
  refine c_seq (c_region ?_)
  refine o_box trivial rfl rfl rfl (fun b2 => ?_)
  refine o_box trivial rfl rfl rfl (fun b3 => ?_)
  refine o_alloc trivial rfl Tryz.zeroValue93 rfl (fun b4 => ?_)
  refine o_nil (then_c (c_seq ?_))
  refine h_beginB (m := 12) [.box b2 _, .box b3 _] (by repeat constructor) (by kernel_rfl) rfl ?_
  refine' h_take (i := 0) #[true, false, false, false, false, false, false, false, false, false, false, false] rfl rfl rfl (by kernel_rfl) (by kernel_rfl) (by kernel_rfl) rfl (qp_then qp_bp) (fun _ h => (h.sort (by repeat constructor)).fewer (Hp.Le.refl _)) ?hh0 ?kk0
  case hh0 =>
   refine o_fieldAddr (T := 4) (off := 0) trivial rfl Tryz.underlying93 rfl rfl rfl Tryz.sizeOf4 rfl rfl ?_
   refine o_nil ?_
   exact ⟨fun _ _ ha _ => ha⟩
  refine' h_take (i := 1) #[true, true, false, false, false, false, false, false, false, false, false, false] rfl rfl rfl (by kernel_rfl) (by kernel_rfl) (by kernel_rfl) rfl (qp_then qp_bp) (fun _ h => (h.sort (by repeat constructor)).fewer (Hp.Le.refl _)) ?hh1 ?kk1
  case hh1 =>
   refine o_load1 trivial rfl Tryz.isAgg4 rfl (by repeat constructor) (by repeat constructor) ?_
   refine o_nil ?_
   exact ⟨fun _ _ ha _ => ha⟩
  refine' h_take (i := 2) #[true, true, true, false, false, false, false, false, false, false, false, false] rfl rfl rfl (by kernel_rfl) (by kernel_rfl) (by kernel_rfl) rfl (qp_then qp_bp) (fun _ h => (h.sort (by repeat constructor)).fewer (Hp.Le.refl _)) ?hh2 ?kk2
  case hh2 =>
   refine o_fieldAddr (T := 4) (off := 0) trivial rfl Tryz.underlying93 rfl rfl rfl Tryz.sizeOf4 rfl rfl ?_
   refine o_nil ?_
   exact ⟨fun _ _ ha _ => ha⟩
  refine' h_take (i := 3) #[true, true, true, true, false, false, false, false, false, false, false, false] rfl rfl rfl (by kernel_rfl) (by kernel_rfl) (by kernel_rfl) rfl (qp_then qp_bp) (fun _ h => (h.sort (by repeat constructor)).fewer (Hp.Le.refl _)) ?hh3 ?kk3
  case hh3 =>
   refine o_load1 trivial rfl Tryz.isAgg4 rfl (by repeat constructor) (by repeat constructor) ?_
   refine o_nil ?_
   exact ⟨fun _ _ ha _ => ha⟩
  refine' h_take (i := 4) #[true, true, true, true, true, false, false, false, false, false, false, false] rfl rfl rfl (by kernel_rfl) (by kernel_rfl) (by kernel_rfl) rfl (qp_then qp_bp) (fun _ h => (h.sort (by repeat constructor)).fewer (Hp.Le.refl _)) ?hh4 ?kk4
  case hh4 =>
   refine o_neqB trivial rfl rfl rfl Tryz.underlying4 ?_
   refine o_nil ?_
   exact ⟨fun _ _ ha _ => ha⟩
  refine' h_take (i := 5) #[true, true, true, true, true, true, false, false, false, false, false, false] rfl rfl rfl (by kernel_rfl) (by kernel_rfl) (by kernel_rfl) rfl (qp_then qp_bp) (fun _ h => (h.sort (by repeat constructor)).fewer (Hp.Le.refl _)) ?hh5 ?kk5
  case hh5 =>
   refine o_fieldAddr (T := 31) (off := 1) trivial rfl Tryz.underlying93 rfl rfl rfl Tryz.sizeOf31 rfl rfl ?_
   refine o_nil ?_
   exact ⟨fun _ _ ha _ => ha⟩
  refine' h_take (i := 6) #[true, true, true, true, true, true, true, false, false, false, false, false] rfl rfl rfl (by kernel_rfl) (by kernel_rfl) (by kernel_rfl) rfl (qp_then qp_bp) (fun _ h => (h.sort (by repeat constructor)).fewer (Hp.Le.refl _)) ?hh6 ?kk6
  case hh6 =>
   refine o_load1 trivial rfl Tryz.isAgg31 rfl (by repeat constructor) (by repeat constructor) ?_
   refine o_nil ?_
   exact ⟨fun _ _ ha _ => ha⟩
  refine' h_take (i := 7) #[true, true, true, true, true, true, true, true, false, false, false, false] rfl rfl rfl (by kernel_rfl) (by kernel_rfl) (by kernel_rfl) rfl (qp_then qp_bp) (fun _ h => (h.sort (by repeat constructor)).fewer (Hp.Le.refl _)) ?hh7 ?kk7
  case hh7 =>
   refine o_fieldAddr (T := 31) (off := 1) trivial rfl Tryz.underlying93 rfl rfl rfl Tryz.sizeOf31 rfl rfl ?_
   refine o_nil ?_
   exact ⟨fun _ _ ha _ => ha⟩
  refine' h_take (i := 8) #[true, true, true, true, true, true, true, true, true, false, false, false] rfl rfl rfl (by kernel_rfl) (by kernel_rfl) (by kernel_rfl) rfl (qp_then qp_bp) (fun _ h => (h.sort (by repeat constructor)).fewer (Hp.Le.refl _)) ?hh8 ?kk8
  case hh8 =>
   refine o_load1 trivial rfl Tryz.isAgg31 rfl (by repeat constructor) (by repeat constructor) ?_
   refine o_nil ?_
   exact ⟨fun _ _ ha _ => ha⟩
  refine h_go [9] (by kernel_rfl) rfl (TWHs.cons ?_ TWHs.nil)
  refine h_op #[true, true, true, true, true, true, true, true, true, true, false, false] rfl rfl ?_
  refine o_callI trivial rfl Tryz.call108 rfl (mul_any _ _ _ _ ha hb (by omega) (by omega)) ?_
  rintro u1 I1 hx1 hs1
  refine o_nil ?_
  refine h_next (fun _ h => (h.sort (by repeat constructor)).fewer (hx1.le)) ?_
  refine h_go [10] (by kernel_rfl) rfl (TWHs.cons ?_ TWHs.nil)
  refine h_op #[true, true, true, true, true, true, true, true, true, true, true, false] rfl rfl ?_
  rw [val_natW, val_natW] at hs1
  have hl : (natW (x.natAbs * y.natAbs)).length ≤ 400000 := natW_len_of (k := (natW x.natAbs).length + (natW y.natAbs).length) (by
    have h1 := val_lt (Wds_natW x.natAbs)
    have h2 := val_lt (Wds_natW y.natAbs)
    rw [val_natW] at h1 h2
    rw [Nat.pow_add]
    exact Nat.mul_lt_mul'' h1 h2) (by omega)
  refine o_callI trivial rfl Tryz.call136 rfl (signed_any (decide (x < 0) != decide (y < 0)) _ _ hs1 (by omega)) ?_
  rintro _ I2 hx2 ⟨u2, rfl, hs2'⟩
  refine o_nil ?_
  refine h_next (fun _ h => (h.sort (by repeat constructor)).fewer ((hx1.le).trans hx2.le)) ?_
  refine h_go [11] (by kernel_rfl) rfl (TWHs.cons ?_ TWHs.nil)
  refine h_op #[true, true, true, true, true, true, true, true, true, true, true, true] rfl rfl ?_
  refine o_store trivial rfl rfl rfl Tryz.sizeOf93 rfl (by first | rfl | (repeat' (first | exact rfl | exact one_nil | refine one_cons ?_ ?_ | exact (Ws.cells1 (by assumption)).2 | exact (Slc.cells1 (by assumption)).2))) (by repeat constructor) (by repeat constructor) ?_
  refine o_nil ?_
  refine h_next (fun _ h => (h.sort (by repeat constructor)).fewer ((hx1.le).trans hx2.le)) ?_
  refine h_end (by kernel_rfl) ?_
  refine then_c (c_ret ?_)
  refine retR rfl (.agg Tryz.isAgg93 Tryz.sizeOf93 rfl (by repeat constructor) rfl .nil) ?_
  refine leaf (hx1.trans hx2 (Nat.le_refl _)) (List.nil_sublist _) ⟨u2, ?_, ?_⟩
  · rw [val_natW, sign_mul]; rfl
  · rw [val_natW, sign_mul] at hs2'; exact hs2'
theorem natW_add_len (a b k : Nat) (ha : (natW a).length ≤ k) (hb : (natW b).length ≤ k) : (natW (a + b)).length ≤ k + 1 := by
  have h1 := val_lt (Wds_natW a)
  have h2 := val_lt (Wds_natW b)
  rw [val_natW] at h1 h2
  have h3 : a < 4294967296 ^ k := Nat.lt_of_lt_of_le h1 (Nat.pow_le_pow_right (by decide) ha)
  have h4 : b < 4294967296 ^ k := Nat.lt_of_lt_of_le h2 (Nat.pow_le_pow_right (by decide) hb)
  refine natW_len_le ?_
  rw [pow_succ]
  generalize 4294967296 ^ k = P at *
  omega
theorem natW_mul_len (a b : Nat) : (natW (a * b)).length ≤ (natW a).length + (natW b).length := natW_len_le (by
  have h1 := val_lt (Wds_natW a)
  have h2 := val_lt (Wds_natW b)
  rw [val_natW] at h1 h2
  rw [Nat.pow_add]
  exact Nat.mul_lt_mul'' h1 h2)
theorem alike_any (va vb : Value) (x y : Int) {I : Hp} (ha : Ws I va (natW x.natAbs)) (hb : Ws I vb (natW y.natAbs)) (hs : (natW x.natAbs).length ≤ 400000) (hs2 : (natW y.natAbs).length ≤ 400000) (hsg : decide (x < 0) = decide (y < 0)) : Fun Tryz.prog 135 [.agg #[.bool (decide (x < 0)), va], .agg #[.bool (decide (y < 0)), vb]] I [] (fun v I' _ => IntV I' v (x + y)) := by
  have e : (if decide (x < 0) then -((x.natAbs + y.natAbs : Nat) : Int) else ((x.natAbs + y.natAbs : Nat) : Int)) = x + y := by
    by_cases h1 : x < 0
    · have h2 : y < 0 := by rw [decide_eq_true h1] at hsg; exact of_decide_eq_true hsg.symm
      rw [decide_eq_true h1, if_pos rfl]; omega
    · have h2 : ¬ y < 0 := by rw [decide_eq_false h1] at hsg; exact of_decide_eq_false hsg.symm
      rw [decide_eq_false h1, if_neg (by decide)]; omega
  intro w hw
  refine enter2 _ Tryz.func135 rfl Tryz.ntmps135 rfl ?_ hw
  refine c_seq (c_region ?_)
  refine o_box trivial rfl rfl rfl (fun b2 => ?_)
  refine o_box trivial rfl rfl rfl (fun b3 => ?_)
  refine o_alloc trivial rfl Tryz.zeroValue93 rfl (fun b4 => ?_)
  refine o_nil (then_c (c_seq ?_))
  refine h_beginB (m := 9) [.box b2 _, .box b3 _] (by repeat constructor) (by kernel_rfl) rfl ?_
  refine' h_take (i := 0) #[true, false, false, false, false, false, false, false, false] rfl rfl rfl (by kernel_rfl) (by kernel_rfl) (by kernel_rfl) rfl (qp_then qp_bp) (fun _ h => (h.sort (by repeat constructor)).fewer (Hp.Le.refl _)) ?hh0 ?kk0
  case hh0 =>
   refine o_fieldAddr (T := 4) (off := 0) trivial rfl Tryz.underlying93 rfl rfl rfl Tryz.sizeOf4 rfl rfl ?_
   refine o_nil ?_
   exact ⟨fun _ _ ha _ => ha⟩
  refine' h_take (i := 1) #[true, true, false, false, false, false, false, false, false] rfl rfl rfl (by kernel_rfl) (by kernel_rfl) (by kernel_rfl) rfl (qp_then qp_bp) (fun _ h => (h.sort (by repeat constructor)).fewer (Hp.Le.refl _)) ?hh1 ?kk1
  case hh1 =>
   refine o_load1 trivial rfl Tryz.isAgg4 rfl (by repeat constructor) (by repeat constructor) ?_
   refine o_nil ?_
   exact ⟨fun _ _ ha _ => ha⟩
  refine' h_take (i := 2) #[true, true, true, false, false, false, false, false, false] rfl rfl rfl (by kernel_rfl) (by kernel_rfl) (by kernel_rfl) rfl (qp_then qp_bp) (fun _ h => (h.sort (by repeat constructor)).fewer (Hp.Le.refl _)) ?hh2 ?kk2
  case hh2 =>
   refine o_fieldAddr (T := 31) (off := 1) trivial rfl Tryz.underlying93 rfl rfl rfl Tryz.sizeOf31 rfl rfl ?_
   refine o_nil ?_
   exact ⟨fun _ _ ha _ => ha⟩
  refine' h_take (i := 3) #[true, true, true, true, false, false, false, false, false] rfl rfl rfl (by kernel_rfl) (by kernel_rfl) (by kernel_rfl) rfl (qp_then qp_bp) (fun _ h => (h.sort (by repeat constructor)).fewer (Hp.Le.refl _)) ?hh3 ?kk3
  case hh3 =>
   refine o_load1 trivial rfl Tryz.isAgg31 rfl (by repeat constructor) (by repeat constructor) ?_
   refine o_nil ?_
   exact ⟨fun _ _ ha _ => ha⟩
  refine' h_take (i := 4) #[true, true, true, true, true, false, false, false, false] rfl rfl rfl (by kernel_rfl) (by kernel_rfl) (by kernel_rfl) rfl (qp_then qp_bp) (fun _ h => (h.sort (by repeat constructor)).fewer (Hp.Le.refl _)) ?hh4 ?kk4
  case hh4 =>
   refine o_fieldAddr (T := 31) (off := 1) trivial rfl Tryz.underlying93 rfl rfl rfl Tryz.sizeOf31 rfl rfl ?_
   refine o_nil ?_
   exact ⟨fun _ _ ha _ => ha⟩
  refine' h_take (i := 5) #[true, true, true, true, true, true, false, false, false] rfl rfl rfl (by kernel_rfl) (by kernel_rfl) (by kernel_rfl) rfl (qp_then qp_bp) (fun _ h => (h.sort (by repeat constructor)).fewer (Hp.Le.refl _)) ?hh5 ?kk5
  case hh5 =>
   refine o_load1 trivial rfl Tryz.isAgg31 rfl (by repeat constructor) (by repeat constructor) ?_
   refine o_nil ?_
   exact ⟨fun _ _ ha _ => ha⟩
  refine h_go [6] (by kernel_rfl) rfl (TWHs.cons ?_ TWHs.nil)
  refine h_op #[true, true, true, true, true, true, true, false, false] rfl rfl ?_
  refine o_callI trivial rfl Tryz.call156 rfl (natAdd_any _ _ _ _ ha hb (by omega) (by omega)) ?_
  rintro u1 I1 hx1 hs1
  refine o_nil ?_
  refine h_next (fun _ h => (h.sort (by repeat constructor)).fewer (hx1.le)) ?_
  refine h_go [7] (by kernel_rfl) rfl (TWHs.cons ?_ TWHs.nil)
  refine h_op #[true, true, true, true, true, true, true, true, false] rfl rfl ?_
  rw [val_natW, val_natW] at hs1
  have hl := natW_add_len x.natAbs y.natAbs 400000 hs hs2
  refine o_callI trivial rfl Tryz.call136 rfl (signed_any (decide (x < 0)) _ _ hs1 (by omega)) ?_
  rintro _ I2 hx2 ⟨u2, rfl, hs2'⟩
  refine o_nil ?_
  refine h_next (fun _ h => (h.sort (by repeat constructor)).fewer ((hx1.le).trans hx2.le)) ?_
  refine h_go [8] (by kernel_rfl) rfl (TWHs.cons ?_ TWHs.nil)
  refine h_op #[true, true, true, true, true, true, true, true, true] rfl rfl ?_
  refine o_store trivial rfl rfl rfl Tryz.sizeOf93 rfl (by first | rfl | (repeat' (first | exact rfl | exact one_nil | refine one_cons ?_ ?_ | exact (Ws.cells1 (by assumption)).2 | exact (Slc.cells1 (by assumption)).2))) (by repeat constructor) (by repeat constructor) ?_
  refine o_nil ?_
  refine h_next (fun _ h => (h.sort (by repeat constructor)).fewer ((hx1.le).trans hx2.le)) ?_
  refine h_end (by kernel_rfl) ?_
  refine then_c (c_ret ?_)
  refine retR rfl (.agg Tryz.isAgg93 Tryz.sizeOf93 rfl (by repeat constructor) rfl .nil) ?_
  refine leaf (hx1.trans hx2 (Nat.le_refl _)) (List.nil_sublist _) ⟨u2, ?_, ?_⟩
  · rw [val_natW, e]; rfl
  · rw [val_natW, e] at hs2'; exact hs2'
theorem unlike_any (va vb : Value) (x y : Int) {I : Hp} (ha : Ws I va (natW x.natAbs)) (hb : Ws I vb (natW y.natAbs)) (hs : (natW x.natAbs).length ≤ 400000) (hs2 : (natW y.natAbs).length ≤ 400000) (hsg : decide (x < 0) ≠ decide (y < 0)) : Fun Tryz.prog 134 [.agg #[.bool (decide (x < 0)), va], .agg #[.bool (decide (y < 0)), vb]] I [] (fun v I' _ => IntV I' v (x + y)) := by
  have e1 : y.natAbs ≤ x.natAbs → (if decide (x < 0) then -((x.natAbs - y.natAbs : Nat) : Int) else ((x.natAbs - y.natAbs : Nat) : Int)) = x + y := fun h => by
    by_cases h1 : x < 0 <;> by_cases h2 : y < 0 <;> simp [h1, h2] at hsg ⊢ <;> omega
  have e2 : x.natAbs ≤ y.natAbs → (if decide (y < 0) then -((y.natAbs - x.natAbs : Nat) : Int) else ((y.natAbs - x.natAbs : Nat) : Int)) = x + y := fun h => by
    by_cases h1 : x < 0 <;> by_cases h2 : y < 0 <;> simp [h1, h2] at hsg ⊢ <;> omega
  intro w hw
  refine enter2 _ Tryz.func134 rfl Tryz.ntmps134 rfl ?_ hw
  refine c_seq (c_region ?_)
  refine o_box trivial rfl rfl rfl (fun b2 => ?_)
  refine o_box trivial rfl rfl rfl (fun b3 => ?_)
  refine o_alloc trivial rfl Tryz.zeroValue93 rfl (fun b4 => ?_)
  refine o_nil (then_c (c_seq (c_seq (c_region ?_))))
  refine o_fieldAddr (T := 31) (off := 1) trivial rfl Tryz.underlying93 rfl rfl rfl Tryz.sizeOf31 rfl rfl ?_
  refine o_load1 trivial rfl Tryz.isAgg31 rfl (by repeat constructor) (by repeat constructor) ?_
  refine o_fieldAddr (T := 31) (off := 1) trivial rfl Tryz.underlying93 rfl rfl rfl Tryz.sizeOf31 rfl rfl ?_
  refine o_load1 trivial rfl Tryz.isAgg31 rfl (by repeat constructor) (by repeat constructor) ?_
  refine o_callI trivial rfl Tryz.call151 rfl (natSub_any _ _ _ _ ha hb (by omega) (by omega)) ?_
  rintro _ I1 hx1 ⟨u1, rfl, hs1⟩
  iterate 5 refine o_pv trivial rfl rfl ?_
  refine o_nil (then_c (c_seq (c_region ?_)))
  refine o_pv trivial rfl rfl ?_
  refine o_nil (then_c ?_)
  refine c_cond rfl (fun h1 => ?_) (fun h1 => ?_)
  ·
   have f1 := h1
   try simp only [bl] at f1
   rw [val_natW, val_natW] at hs1 f1
   have hs1' := hs1 f1
   have hl : (natW (x.natAbs - y.natAbs)).length ≤ 400000 := Nat.le_trans (natW_le_len (Nat.sub_le _ _)) hs
   refine c_seq (c_region ?_)
   refine o_fieldAddr (T := 4) (off := 0) trivial rfl Tryz.underlying93 rfl rfl rfl Tryz.sizeOf4 rfl rfl ?_
   refine o_load1 trivial rfl Tryz.isAgg4 rfl (by repeat constructor) (by repeat constructor) ?_
   refine o_pv trivial rfl rfl ?_
   refine o_callI trivial rfl Tryz.call136 rfl (signed_any (decide (x < 0)) _ _ hs1' (by omega)) ?_
   rintro _ I2 hx2 ⟨u2, rfl, hs2'⟩
   refine o_store trivial rfl rfl rfl Tryz.sizeOf93 rfl (by first | rfl | (repeat' (first | exact rfl | exact one_nil | refine one_cons ?_ ?_ | exact (Ws.cells1 (by assumption)).2 | exact (Slc.cells1 (by assumption)).2))) (by repeat constructor) (by repeat constructor) ?_
   refine o_nil (then_c (c_ret (then_r ?_)))
   refine retR rfl (.agg Tryz.isAgg93 Tryz.sizeOf93 rfl (by repeat constructor) rfl .nil) ?_
   refine leaf (hx1.trans hx2 (Nat.le_refl _)) (List.nil_sublist _) ⟨u2, ?_, ?_⟩
   · rw [val_natW, e1 f1]; rfl
   · rw [val_natW, e1 f1] at hs2'; exact hs2'
  ·
   have f1 := h1
   try simp only [bl] at f1
   rw [val_natW, val_natW] at f1
   refine c_skip (then_c (c_seq (c_region ?_)))
   refine o_fieldAddr (T := 31) (off := 1) trivial rfl Tryz.underlying93 rfl rfl rfl Tryz.sizeOf31 rfl rfl ?_
   refine o_load1 trivial rfl Tryz.isAgg31 rfl (by repeat constructor) (by repeat constructor) ?_
   refine o_fieldAddr (T := 31) (off := 1) trivial rfl Tryz.underlying93 rfl rfl rfl Tryz.sizeOf31 rfl rfl ?_
   refine o_load1 trivial rfl Tryz.isAgg31 rfl (by repeat constructor) (by repeat constructor) ?_
   refine o_callI trivial rfl Tryz.call151 rfl (natSub_any _ _ _ _ (hb.le hx1.le) (ha.le hx1.le) (by omega) (by omega)) ?_
   rintro _ I3 hx3 ⟨u3, rfl, hs3⟩
   iterate 5 refine o_pv trivial rfl rfl ?_
   refine o_nil (then_c (c_seq ?_))
   rw [val_natW, val_natW] at hs3
   have hs3' := hs3 (by omega)
   have hl : (natW (y.natAbs - x.natAbs)).length ≤ 400000 := Nat.le_trans (natW_le_len (Nat.sub_le _ _)) hs2
   refine c_region ?_
   refine o_fieldAddr (T := 4) (off := 0) trivial rfl Tryz.underlying93 rfl rfl rfl Tryz.sizeOf4 rfl rfl ?_
   refine o_load1 trivial rfl Tryz.isAgg4 rfl (by repeat constructor) (by repeat constructor) ?_
   refine o_pv trivial rfl rfl ?_
   refine o_callI trivial rfl Tryz.call136 rfl (signed_any (decide (y < 0)) _ _ hs3' (by omega)) ?_
   rintro _ I4 hx4 ⟨u4, rfl, hs4⟩
   refine o_store trivial rfl rfl rfl Tryz.sizeOf93 rfl (by first | rfl | (repeat' (first | exact rfl | exact one_nil | refine one_cons ?_ ?_ | exact (Ws.cells1 (by assumption)).2 | exact (Slc.cells1 (by assumption)).2))) (by repeat constructor) (by repeat constructor) ?_
   refine o_nil (then_c (c_ret ?_))
   refine retR rfl (.agg Tryz.isAgg93 Tryz.sizeOf93 rfl (by repeat constructor) rfl .nil) ?_
   refine leaf (hx1.trans (hx3.trans hx4 (Nat.le_refl _)) (Nat.le_refl _)) (List.nil_sublist _) ⟨u4, ?_, ?_⟩
   · rw [val_natW, e2 (by omega)]; rfl
   · rw [val_natW, e2 (by omega)] at hs4; exact hs4
/-- How two integers are added. -/
def sumF (b : Bool) : FuncId := if b then 135 else 134
theorem sumF_call (b : Bool) (args : Array Value) (w : World) : (callFunc (sumF b) args).run Tryz.prog w = .ok (.enter (sumF b) args) w := by
  cases b
  · exact Tryz.call134 args w
  · exact Tryz.call135 args w
theorem sumF_any (va vb : Value) (x y : Int) {I : Hp} (ha : Ws I va (natW x.natAbs)) (hb : Ws I vb (natW y.natAbs)) (hs : (natW x.natAbs).length ≤ 400000) (hs2 : (natW y.natAbs).length ≤ 400000) : Fun Tryz.prog (sumF (decide (x < 0) == decide (y < 0))) [.agg #[.bool (decide (x < 0)), va], .agg #[.bool (decide (y < 0)), vb]] I [] (fun v I' _ => IntV I' v (x + y)) := by
  cases h : (decide (x < 0) == decide (y < 0)) with
  | false => exact unlike_any va vb x y ha hb hs hs2 (by simpa using h)
  | true => exact alike_any va vb x y ha hb hs hs2 (by simpa using h)
theorem wAdd_any (va vb : Value) (x y : Int) {I : Hp} (ha : Ws I va (natW x.natAbs)) (hb : Ws I vb (natW y.natAbs)) (hs : (natW x.natAbs).length ≤ 400000) (hs2 : (natW y.natAbs).length ≤ 400000) : Fun Tryz.prog 104 [.agg #[.bool (decide (x < 0)), va], .agg #[.bool (decide (y < 0)), vb]] I [] (fun v I' _ => IntV I' v (x + y)) := by
  intro w hw
  refine enter2 _ Tryz.func104 rfl Tryz.ntmps104 rfl ?_ hw
  refine c_seq (c_region ?_)
  refine o_box trivial rfl rfl rfl (fun b2 => ?_)
  refine o_box trivial rfl rfl rfl (fun b3 => ?_)
  refine o_alloc trivial rfl Tryz.zeroValue93 rfl (fun b4 => ?_)
  refine o_nil (then_c (c_seq (c_region ?_)))
  refine o_buildS trivial rfl (bld171) rfl (.cons rfl rfl rfl (by repeat constructor) .nil) ?_
  refine o_alloc trivial rfl Tryz.zeroValue171 rfl (fun b5 => ?_)
  refine o_store trivial rfl rfl rfl Tryz.sizeOf171 rfl (by first | rfl | (repeat' (first | exact rfl | exact one_nil | refine one_cons ?_ ?_ | exact (Ws.cells1 (by assumption)).2 | exact (Slc.cells1 (by assumption)).2))) (by repeat constructor) (by repeat constructor) ?_
  refine o_nil (then_c ?_)
  refine c_cut (ι := Unit) [2, 3, 4, 5] (.cons rfl (.cons rfl (.cons rfl (.cons rfl .nil)))) (fun z E0 => E0) (fun z => St w [] I [.box b5 (.cells [.func (.func (sumF (decide (x < 0) == decide (y < 0)))) #[] #[]].toArray 171 (0, 0)), .box b4 (.cells [.bool false, .slice none 0 0].toArray 93 (0, 0)), .box b3 (.cells [.bool (decide (y < 0)), vb].toArray 93 (0, 0)), .box b2 (.cells [.bool (decide (x < 0)), va].toArray 93 (0, 0))]) (fun z => True) ?_ ?_
  ·
   refine c_seq (c_region ?_)
   refine o_fieldAddr (T := 4) (off := 0) trivial rfl Tryz.underlying93 rfl rfl rfl Tryz.sizeOf4 rfl rfl ?_
   refine o_load1 trivial rfl Tryz.isAgg4 rfl (by repeat constructor) (by repeat constructor) ?_
   refine o_fieldAddr (T := 4) (off := 0) trivial rfl Tryz.underlying93 rfl rfl rfl Tryz.sizeOf4 rfl rfl ?_
   refine o_load1 trivial rfl Tryz.isAgg4 rfl (by repeat constructor) (by repeat constructor) ?_
   refine o_eqlB trivial rfl rfl rfl Tryz.underlying4 ?_
   refine o_nil (then_c ?_)
   refine c_cond rfl (fun h1 => ?_) (fun h1 => ?_)
   ·
    have f1 := h1
    try simp only [bl] at f1
    refine c_region ?_
    refine o_fieldAddr (T := 130) (off := 0) trivial rfl Tryz.underlying171 rfl rfl rfl Tryz.sizeOf130 rfl rfl ?_
    refine o_store trivial rfl rfl rfl Tryz.sizeOf130 rfl (by first | rfl | (repeat' (first | exact rfl | exact one_nil | refine one_cons ?_ ?_ | exact (Ws.cells1 (by assumption)).2 | exact (Slc.cells1 (by assumption)).2))) (by repeat constructor) (by repeat constructor) ?_
    refine o_nil ?_
    refine meet () (sub_cons rfl (sub_cons rfl (sub_cons rfl (sub_cons rfl sub_nil)))) (fun _ h => ?_) trivial
    rw [h1]; exact h
   ·
    have f1 := h1
    try simp only [bl] at f1
    refine c_skip ?_
    refine meet () (sub_cons rfl (sub_cons rfl (sub_cons rfl (sub_cons rfl sub_nil)))) (fun _ h => ?_) trivial
    rw [h1]; exact h
  ·
   rintro _ _
   try dsimp only
   refine c_seq ?_
   have hcf := sumF_call (decide (x < 0) == decide (y < 0))
   refine c_region ?_
   refine o_fieldAddr (T := 130) (off := 0) trivial rfl Tryz.underlying171 rfl rfl rfl Tryz.sizeOf130 rfl rfl ?_
   refine o_load1 trivial rfl Tryz.isAgg130 rfl (by repeat constructor) (by repeat constructor) ?_
   iterate 2 refine o_loadA trivial rfl Tryz.isAgg93 Tryz.sizeOf93 rfl (by repeat constructor) (by repeat constructor) ?_
   refine o_callIT trivial rfl rfl hcf rfl rfl (sumF_any va vb x y ha hb hs hs2) ?_
   rintro _ I1 hx1 ⟨u1, rfl, hs1⟩
   refine o_store trivial rfl rfl rfl Tryz.sizeOf93 rfl (by first | rfl | (repeat' (first | exact rfl | exact one_nil | refine one_cons ?_ ?_ | exact (Ws.cells1 (by assumption)).2 | exact (Slc.cells1 (by assumption)).2))) (by repeat constructor) (by repeat constructor) ?_
   refine o_nil (then_c (c_ret ?_))
   refine retR rfl (.agg Tryz.isAgg93 Tryz.sizeOf93 rfl (by repeat constructor) rfl .nil) ?_
   exact leaf hx1 (List.nil_sublist _) ⟨u1, rfl, hs1⟩
end Go.Proofs.YtjgbjaaekknenaaGreat
