/-
  TapeFront, part 5: the texts Ref4, Ref5, Ref7, Ref8, RefP, RefR, RefL, RefL2, RefL3, RefL4, RefL5, RefL6, Tree9, RefH, Ref8b, RefB, RefW, RefH2, Law11, RefW2, Scope, Scope2, Scope3, Ref13, Scope4, Ref13b, Law13, Law09, Ren, More, LowerP, Ref14, Ref14b, Ref15, Bound, Law15, Made14, Made14b, Lower, SameG, LowerR, TapeS, ShowW, Show4, RefX, ShowR, Needs, Tree11, Law12, Law14, Point, Twice as one.
-/
import Derived.Test.YtfcmhcaggdakbaaGreatDoorQTapeFrontD
import Derived.Lib.AppendIntMem
set_option linter.unusedVariables false
set_option linter.unusedSimpArgs false
set_option linter.unnecessarySimpa false
set_option maxHeartbeats 1000000
namespace Go.Tw
open Go
theorem bits_one {a : Nat} (ha : a < 4294967296) : bits .and .u32 (a : Int) ((1 : Nat) : Int) = ((a % 2 : Nat) : Int) := by
  have h1 : (BitVec.ofInt 32 (a : Int)).toNat = a := by
    rw [BitVec.ofInt_natCast, BitVec.toNat_ofNat]; exact Nat.mod_eq_of_lt (by omega)
  have h2 : (BitVec.ofInt 32 ((1 : Nat) : Int)).toNat = 1 := by
    rw [BitVec.ofInt_natCast, BitVec.toNat_ofNat]
  show IntKind.u32.wrap ((BitVec.ofInt 32 (a : Int) &&& BitVec.ofInt 32 ((1 : Nat) : Int)).toNat : Int) = _
  rw [BitVec.toNat_and, h1, h2, Nat.and_one_is_mod, IntWalk.u32_in _ (by omega)]
section
variable {P : Program} {ops : Array Oper} {rest : List Oper} {n : Nat} {D : List Deferred} {E : Env} {S : World → Prop} {Q : Exit → Act → World → Prop} {d : Nat} {ty : TypeId} {pos : String} {aft : Array Edge} {g : Option (Nat × Bool)}
theorem o_and1 {qm : Bool} {x y : Operand} {t t2 : TypeId} {a : Nat} (hg : Wants ops E g) (hd : Nat.blt d n = true) (hx : ev E x = some (.int .u32 (a : Int))) (hy : ev E y = some (.int .u32 1)) (h : a < 4294967296)
    (k : TL qm P ops Q rest n D ((d, .int .u32 ((a % 2 : Nat) : Int)) :: E) S) : TL qm P ops Q (⟨some d, .binOp .and t x y t2, ty, pos, aft, g⟩ :: rest) n D E S :=
  o_rd hg hd (v := .int .u32 ((a % 2 : Nat) : Int)) (fun a w ha hw d pos aft g => ⟨w, by
    simp only [execOp, ha.ev hx, ha.ev hy, Sem.run_bind, run_eqGuard_int, Result.andThen_ok]
    rw [binOp_and, intBits_and, show (1 : Int) = ((1 : Nat) : Int) from rfl, bits_one h]
    simp, rfl⟩) k
end
theorem val_bit {A : List Nat} (hA : Wds A) {i : Nat} (h : i / 32 < A.length) : dg A (i / 32) / 2 ^ (i % 32) % 2 = val A / 2 ^ i % 2 := by
  have hr : i % 32 < 32 := Nat.mod_lt _ (by decide)
  have h1 := val_split (l := A) (i := i / 32) (by omega)
  have h2 := val_drop h
  have h3 : 2 ^ i = 4294967296 ^ (i / 32) * 2 ^ (i % 32) := by
    rw [pow_bits, ← Nat.pow_add]; congr 1; omega
  have h4 : val A / 4294967296 ^ (i / 32) = val (A.drop (i / 32)) := by
    rw [h1, Nat.add_mul_div_left _ _ (pow_pos _), Nat.div_eq_of_lt (pre_lt hA _), Nat.zero_add]
  have h5 : (4294967296 : Nat) = 2 ^ (i % 32) * (2 * 2 ^ (31 - i % 32)) := by
    rw [← Nat.pow_succ', ← Nat.pow_add, show i % 32 + (31 - i % 32).succ = 32 by omega]
  rw [h3, ← Nat.div_div_eq_div_mul, h4, h2, h5, Nat.mul_assoc, Nat.mul_assoc, Nat.add_mul_div_left _ _ (Nat.pow_pos (by decide)), Nat.add_mul_mod_self_left]
theorem bit_step {a i d q r : Nat} (hd : 0 < d) (hq : q = a / 2 ^ (i + 1) / d) (hr : r = a / 2 ^ (i + 1) % d) :
    (d ≤ 2 * r + a / 2 ^ i % 2 → 2 * q + 1 = a / 2 ^ i / d ∧ 2 * r + a / 2 ^ i % 2 - d = a / 2 ^ i % d) ∧ (¬ d ≤ 2 * r + a / 2 ^ i % 2 → 2 * q = a / 2 ^ i / d ∧ 2 * r + a / 2 ^ i % 2 = a / 2 ^ i % d) := by
  have h1 : a / 2 ^ (i + 1) = a / 2 ^ i / 2 := by rw [Nat.pow_succ, Nat.div_div_eq_div_mul]
  have h2 : r < d := by rw [hr]; exact Nat.mod_lt _ hd
  have h3 := Nat.div_add_mod (a / 2 ^ (i + 1)) d
  rw [← hq, ← hr, h1] at h3
  generalize a / 2 ^ i = b at *
  have hb : b % 2 < 2 := Nat.mod_lt _ (by decide)
  have hm : d * (2 * q) = 2 * (d * q) := Nat.mul_left_comm _ _ _
  constructor
  · intro h
    exact div_unique (by rw [Nat.mul_comm, Nat.mul_add, Nat.mul_one, hm]; omega) (by omega)
  · intro h
    exact div_unique (by rw [Nat.mul_comm, hm]; omega) (by omega)
end Go.Tw
namespace Go.Proofs.YtfcmhcaggdakbaaGreatDoor
open Go Go.Tw
theorem rBit_any (va : Value) (A : List Nat) (i : Nat) {I : Hp} (ha : Ws I va A) (hs : A.length ≤ 35184372088400) (hi : i < 32 * A.length) : Fun Tryz.prog 178 [va, .int .i64 (i : Int)] I [] (fun v _ _ => v = .int .u32 ((val A / 2 ^ i % 2 : Nat) : Int)) := by
  have hd := dg_lt ha.wds (i / 32)
  have hd2 : dg A (i / 32) / 2 ^ (i % 32) ≤ dg A (i / 32) := Nat.div_le_self _ _
  intro w hw
  refine enter2 _ Tryz.func178 rfl Tryz.ntmps178 rfl ?_ hw;refine sR ?_;refine oV ?_;refine nS ?_;iterate 2 refine oV ?_
  refine o_quo trivial rfl rfl rfl (by omega) (by rw [IntWalk.i64_in _ (by omega)]) ?_
  rw [show (i : Int) / 32 = ((i / 32 : Nat) : Int) by omega]
  refine o_elemW trivial rfl Tryz.underlying33 Tryz.sizeOf134 rfl (ha) rfl (by omega) ?_;refine o_load1I trivial rfl Tryz.isAgg134 rfl (ha.cellI (k := i / 32) rfl (by omega)) ?_;refine oV ?_;refine o_rem trivial rfl rfl rfl (by omega) ?_
  rw [show (i : Int) % 32 = ((i % 32 : Nat) : Int) by omega]
  refine o_shr (2 ^ (i % 32)) trivial rfl rfl rfl (by omega) (by rw [Int.toNat_natCast, show min (i % 32) IntKind.u32.bits = i % 32 from Nat.min_eq_left (by show i % 32 ≤ 32; omega)]) (by omega) ?_
  rw [show (dg A (i / 32) : Int) / ((2 ^ (i % 32) : Nat) : Int) = ((dg A (i / 32) / 2 ^ (i % 32) : Nat) : Int) from (Int.natCast_ediv _ _).symm]
  refine o_and1 trivial rfl rfl rfl (by omega) ?_;refine oV ?_;refine nE ?_;refine ret1 rfl rfl ?_;refine leaf0 (congrArg (Value.int .u32) ?_); rw [val_bit ha.wds (by omega)]
theorem dbl_len {n b k : Nat} (h : (natW n).length ≤ k) (hb : (natW b).length ≤ k) : (natW (2 * n + b)).length ≤ k + 2 := by
  rw [Nat.two_mul]
  exact natW_add_len _ _ (k + 1) (natW_add_len _ _ k h h) (by omega)
theorem one_len {b : Nat} (h : b ≤ 1) : (natW b).length ≤ 1 := natW_len_le (by rw [Nat.pow_one]; omega)
theorem rDiv_any (va vb : Value) (A B : List Nat) {I : Hp} (ha : Ws I va A) (hb : Ws I vb B) (hs : A.length ≤ 35184372088400) (hs2 : B.length ≤ 35184372088400) (h0 : 0 < val B) : Fun Tryz.prog 148 [va, vb] I [] (fun v I' _ => ∃ u1 u2, v = .tuple #[u1, u2, .bool true] ∧ Ws I' u1 (natW (val A / val B)) ∧ Ws I' u2 (natW (val A % val B))) := by
  have hbl : (natW (val B)).length ≤ B.length := natW_len_list hb.wds
  have hbz : (natW (val B)).length ≠ 0 := fun e => by have := natW_len_zero.1 e; omega
  have hA : val A < 2 ^ (32 * A.length) := by have := val_lt ha.wds; rwa [pow_bits] at this
  have hal : (natW (val A)).length ≤ A.length := natW_len_list ha.wds
  intro w hw
  refine enter2 _ Tryz.func148 rfl Tryz.ntmps148 rfl ?_ hw;refine sR ?_;iterate 3 refine oV ?_
  refine nS ?_;refine oV ?_;refine oI Tryz.call115 rfl (rTrim_any _ _ hb (by omega)) ?_;rintro u1 I1 hx1 hs1;refine oV ?_;refine nU ?_;refine oV ?_;refine o_lenW trivial rfl Tryz.underlying33 rfl (hs1) ?_;refine oV ?_;refine nT ?_;refine cC rfl (fun h1 => ?_) (fun h1 => ?_)
  ·
   have f1 := h1;try simp only [bl] at f1
   exfalso; omega
  have f1 := h1;try simp only [bl] at f1
  refine kS ?_;refine oV ?_;refine nS ?_;refine oV ?_;refine nU ?_;refine oV ?_;refine o_lenW trivial rfl Tryz.underlying33 rfl (ha) ?_
  (refine o_mul trivial rfl rfl rfl ?_ ?_; (omega))
  (refine o_sub trivial rfl rfl rfl ?_ ?_; (omega))
  refine oV ?_;refine oN (tC (cB ?_));refine c_loop (ι := Nat × Int × Value × Value × Hp) [0, 7] (.cons rfl (.cons rfl .nil)) (fun x => x.1) (fun x E0 => (8, x.2.2.1) :: (9, x.2.2.2.1) :: (10, .int .i64 x.2.1) :: E0) (fun x => St w [] x.2.2.2.2 []) (fun x => x.1 ≤ 32 * A.length ∧ x.2.1 = (x.1 : Int) - 1 ∧ Ws x.2.2.2.2 x.2.2.1 (natW (val A / 2 ^ x.1 / val B)) ∧ Ws x.2.2.2.2 x.2.2.2.1 (natW (val A / 2 ^ x.1 % val B)) ∧ Ext w.heap.size I x.2.2.2.2 ∧ I1.Le x.2.2.2.2) ((32 * A.length, 32 * (A.length : Int) - 1, .slice none 0 0, .slice none 0 0, I1)) (sC rfl (sC rfl (sC rfl (sC rfl (sC rfl sN))))) (fun _ h => h) (⟨Nat.le_refl _, by simp only; omega, by simp only; rw [Nat.div_eq_of_lt hA, Nat.zero_div, natW_zero]; exact Ws.nil _, by simp only; rw [Nat.div_eq_of_lt hA, Nat.zero_mod, natW_zero]; exact Ws.nil _, hx1, Hp.Le.refl _⟩) ?_;rintro ⟨j, z, uq, ur, I2⟩ ⟨hj, hz, hq, hr, hx2, hle⟩
  try dsimp only
  simp only at hj hz hq hr hx2 hle; subst hz
  refine cS (sR ?_);iterate 2 refine oV ?_
  refine nT ?_;refine cC rfl (fun h2 => ?_) (fun h2 => ?_)
  ·
   have f2 := h2;try simp only [bl] at f2
   obtain ⟨i, rfl⟩ : ∃ i, j = i + 1 := ⟨j - 1, by omega⟩
   have hql : (natW (val A / 2 ^ (i + 1) / val B)).length ≤ 35184372088400 := Nat.le_trans (natW_le_len (Nat.le_trans (Nat.div_le_self _ _) (Nat.div_le_self _ _))) (Nat.le_trans hal hs)
   have hrl : (natW (val A / 2 ^ (i + 1) % val B)).length ≤ 35184372088400 := Nat.le_trans (natW_le_len (Nat.le_trans (Nat.mod_le _ _) (Nat.div_le_self _ _))) (Nat.le_trans hal hs)
   have hbs := bit_step (a := val A) (i := i) h0 rfl rfl
   have e1 : ((i + 1 : Nat) : Int) - 1 = (i : Nat) := by omega
   rw [e1]
   have hqv : val (natW (val A / 2 ^ (i + 1) / val B)) * 2 + 0 = 2 * (val A / 2 ^ (i + 1) / val B) := by rw [val_natW]; omega
   have hrv : val (natW (val A / 2 ^ (i + 1) % val B)) * 2 + val A / 2 ^ i % 2 = 2 * (val A / 2 ^ (i + 1) % val B) + val A / 2 ^ i % 2 := by rw [val_natW]; omega
   refine cK (tC (cS (cB (sR ?_))));refine oV ?_;refine oI Tryz.call177 rfl (rOne_any _ _ 2 0 hq (by omega) (by decide) (by decide)) ?_;rintro u3 I3 hx3 hs3;refine oV ?_;refine nS ?_;iterate 3 refine oV ?_
   refine oQ Tryz.call178 rfl (rBit_any _ A i (ha.le (hx2.le.trans hx3.le)) (by omega) (by omega)) ?_;refine oI Tryz.call177 rfl (rOne_any _ _ 2 (val A / 2 ^ i % 2) (hr.le hx3.le) (by omega) (by decide) (by omega)) ?_;rintro u4 I4 hx4 hs4;refine oV ?_;refine oN (tC (cS ?_))
   rw [hqv] at hs3
   rw [hrv] at hs4
   have hl3 := dbl_len (n := val A / 2 ^ (i + 1) / val B) (b := 0) hql (by rw [natW_zero]; exact Nat.zero_le _)
   rw [Nat.add_zero] at hl3
   have hl4 := dbl_len (n := val A / 2 ^ (i + 1) % val B) (b := val A / 2 ^ i % 2) hrl (Nat.le_trans (one_len (by omega)) (by decide))
   refine cR ?_;iterate 2 refine oV ?_
   refine oQ Tryz.call179 rfl (rCmp_any _ _ _ _ hs4 (hs1.le (hle.trans (hx3.le.trans hx4.le))) (by omega) (by omega)) ?_;refine oV ?_;refine nT ?_;refine cC rfl (fun h3 => ?_) (fun h3 => ?_)
   ·
    have f3 := h3;try simp only [bl] at f3
    rw [val_natW, val_natW] at f3
    have hge : val B ≤ 2 * (val A / 2 ^ (i + 1) % val B) + val A / 2 ^ i % 2 := by unfold cmpZ at f3; split at f3 <;> (try split at f3) <;> omega
    obtain ⟨hb1, hb2⟩ := hbs.1 hge
    refine sR ?_;iterate 2 refine oV ?_
    refine oI Tryz.call180 rfl (rSub_any _ _ _ _ hs4 (hs1.le (hle.trans (hx3.le.trans hx4.le))) (by omega) (by omega) (by rw [val_natW, val_natW]; exact hge)) ?_;rintro _ I5 hx5 ⟨u5, rfl, hs5⟩;iterate 4 refine oV ?_
    refine nR ?_;refine oV ?_;refine oI Tryz.call177 rfl (rOne_any _ _ 1 1 (hs3.le (hx4.le.trans hx5.le)) (by omega) (by decide) (by decide)) ?_;rintro u6 I6 hx6 hs6;refine oV ?_;refine oN (blk_n (tC (cR ?_)));refine oV ?_
    (refine o_sub trivial rfl rfl rfl ?_ ?_; (omega))
    refine oV ?_;refine oN ?_
    (rw [val_natW, val_natW, hb2] at hs5
     rw [val_natW, Nat.mul_one, hb1] at hs6
     exact again (i, (i : Int) - 1, u6, u5, I6) (sC rfl (sC rfl (sC rfl (sC rfl (sC rfl sN))))) (fun _ h => h) (by show i < i + 1; omega) ⟨by show i ≤ _; omega, rfl, hs6, hs5.le hx6.le, hx2.trans (hx3.trans (hx4.trans (hx5.trans hx6 (Nat.le_refl _)) (Nat.le_refl _)) (Nat.le_refl _)) (Nat.le_refl _), hle.trans (hx3.le.trans (hx4.le.trans (hx5.le.trans hx6.le)))⟩)
   have f3 := h3;try simp only [bl] at f3
   rw [val_natW, val_natW] at f3
   have hge : ¬ val B ≤ 2 * (val A / 2 ^ (i + 1) % val B) + val A / 2 ^ i % 2 := by unfold cmpZ at f3; split at f3 <;> (try split at f3) <;> omega
   obtain ⟨hb1, hb2⟩ := hbs.2 hge
   refine cK (blk_n (tC (cR ?_)));refine oV ?_
   (refine o_sub trivial rfl rfl rfl ?_ ?_; (omega))
   refine oV ?_;refine oN ?_
   (rw [hb2] at hs4
    rw [hb1] at hs3
    exact again (i, (i : Int) - 1, u3, u4, I4) (sC rfl (sC rfl (sC rfl (sC rfl (sC rfl sN))))) (fun _ h => h) (by show i < i + 1; omega) ⟨by show i ≤ _; omega, rfl, hs3.le hx4.le, hs4, hx2.trans (hx3.trans hx4 (Nat.le_refl _)) (Nat.le_refl _), hle.trans (hx3.le.trans hx4.le)⟩)
  have f2 := h2;try simp only [bl] at f2
  refine c_exit (then_x (then_x (blk_eq rfl (tC (sR ?_)))));iterate 5 refine oV ?_
  refine nE ?_;refine ret3 rfl rfl rfl rfl ?_
  have hj0 : j = 0 := by omega
  subst hj0
  rw [Nat.pow_zero, Nat.div_one] at hq hr
  exact leaf hx2 (List.nil_sublist _) ⟨uq, ur, rfl, hq, hr⟩
theorem rSmall_any (va : Value) (A : List Nat) (d : Nat) {I : Hp} (ha : Ws I va A) (hs : A.length ≤ 35184372088400) (hd0 : 0 < d) (hd : d < 4294967296) : Fun Tryz.prog 116 [va, .int .u32 (d : Int)] I [] (fun v I' _ => ∃ u, v = .tuple #[u, .int .u32 ((val A % d : Nat) : Int), .bool true] ∧ Ws I' u (natW (val A / d))) := by
  have hv1 : val [d] = d := by rw [val_cons, val_nil]; omega
  intro w hw
  refine enter2 _ Tryz.func116 rfl Tryz.ntmps116 rfl ?_ hw;refine sR ?_;iterate 3 refine oV ?_
  refine nS ?_;iterate 2 refine oV ?_
  refine oB Tryz.underlying33 Tryz.sizeOf134 Tryz.zeroValue134 fun b13 => ?_;refine l_sealW [d] .here (Wds_cons hd Wds_nil) (by unfold maxLen; simp) (fun I1 hx1 hs1 => ?_);refine oI Tryz.call148 rfl (rDiv_any _ _ A [d] (ha.le hx1.le) hs1 hs (by simp) (by rw [hv1]; exact hd0)) ?_;rintro _ I2 hx2 ⟨u1, u2, rfl, hq, hr⟩;iterate 7 refine oV ?_
  refine oN (tC (cS (cS ?_)))
  rw [hv1] at hq hr
  have hrd : val A % d < d := Nat.mod_lt _ hd0
  have hrl := natW_len_le (n := val A % d) (k := 1) (by rw [Nat.pow_one]; omega)
  refine cR ?_;refine oV ?_;refine o_lenW trivial rfl Tryz.underlying33 rfl (hr) ?_;refine oV ?_;refine nT ?_;refine cC rfl (fun h1 => ?_) (fun h1 => ?_)
  ·
   have f1 := h1;try simp only [bl] at f1
   refine sR ?_;iterate 5 refine oV ?_
   refine nF ?_;refine ret3 rfl rfl rfl rfl ?_
   have h0 : val A % d = 0 := natW_len_zero.1 (by omega)
   refine leaf (hx1.trans hx2 (Nat.le_refl _)) (List.nil_sublist _) ⟨u1, ?_, hq⟩; rw [h0]; rfl
  have f1 := h1;try simp only [bl] at f1
  have h0 : val A % d ≠ 0 := fun e => f1 (by rw [e, natW_zero]; rfl)
  have hdg : dg (natW (val A % d)) 0 = val A % d := by rw [natW_pos h0]; show (val A % d) % 4294967296 = _; exact Nat.mod_eq_of_lt (by omega)
  refine cK (tC (cS ?_));refine c_quiet (by kernel_rfl) (by kernel_rfl) (fun _ h => h.drawn) ?_;iterate 2 refine oV ?_
  refine o_elemW trivial rfl Tryz.underlying33 Tryz.sizeOf134 rfl (hr) rfl (by omega) ?_;refine o_load1I trivial rfl Tryz.isAgg134 rfl (hr.cellI (k := 0) rfl (by omega)) ?_;iterate 4 refine oV ?_
  refine nE ?_;refine ret3 rfl rfl rfl rfl ?_;refine leaf (hx1.trans hx2 (Nat.le_refl _)) (List.nil_sublist _) ⟨u1, ?_, hq⟩; rw [hdg]; rfl
theorem natW_even {n : Nat} (h : n ≠ 0) : dg (natW n) 0 % 2 = n % 2 := by
  rw [natW_pos h]; show (n % 4294967296) % 2 = n % 2; omega
structure OddOf (n x k : Nat) : Prop where
  eq : n = 2 ^ k * x
  odd : x % 2 = 1
theorem rOdd_any (va : Value) (n : Nat) {I : Hp} (ha : Ws I va (natW n)) (hs : (natW n).length ≤ 35184372088400) (h0 : 0 < n) : Fun Tryz.prog 201 [va] I [] (fun v I' _ => ∃ u x k, v = .tuple #[u, .int .i64 (k : Nat)] ∧ Ws I' u (natW x) ∧ OddOf n x k) := by
  intro w hw
  refine enter1 _ Tryz.func201 rfl Tryz.ntmps201 rfl ?_ hw;refine sR ?_;iterate 2 refine oV ?_
  refine nS ?_;refine oV ?_;refine oN (tC (cS (cB ?_)));refine c_loop (ι := Nat × Nat × Value × Hp) [] .nil (fun x => x.1) (fun x E0 => (0, x.2.2.1) :: (4, .int .i64 (x.2.1 : Nat)) :: E0) (fun x => St w [] x.2.2.2 []) (fun x => 0 < x.1 ∧ n = 2 ^ x.2.1 * x.1 ∧ Ws x.2.2.2 x.2.2.1 (natW x.1) ∧ (natW x.1).length ≤ 35184372088400 ∧ Ext w.heap.size I x.2.2.2) ((n, 0, va, I)) (sC rfl (sC rfl sN)) (fun _ h => h) (⟨h0, by simp, ha, hs, Ext.refl _ _⟩) ?_;rintro ⟨m, k, u, I1⟩ ⟨hm0, he, hu, hl, hx1⟩
  try dsimp only
  simp only at hm0 he hu hl hx1; have hne : (natW m).length ≠ 0 := fun e => by have := natW_len_zero.1 e; omega
  refine cS (sR ?_);refine oV ?_;refine o_lenW trivial rfl Tryz.underlying33 rfl (hu) ?_;refine oV ?_;refine' o_and trivial trivial rfl rfl rfl rfl rfl rfl rfl rfl (fun hb8 => ?_) ?_;rotate_left
  ·
   have fb8 := hb8
   try simp only [bl] at fb8
   refine gV hb8 ?_;refine o_elemW (wS rfl rfl hb8) rfl Tryz.underlying33 Tryz.sizeOf134 rfl (hu) rfl (by omega) ?_;refine o_load1I (wS rfl rfl hb8) rfl Tryz.isAgg134 rfl (hu.cellI (k := 0) rfl (by omega)) ?_;refine o_rem (wS rfl rfl hb8) rfl rfl rfl (by omega) ?_;refine gV hb8 ?_;refine oN ?_;exact joins rfl
  refine nT ?_;refine cC rfl (fun h1 => ?_) (fun h1 => ?_)
  ·
   have f1 := h1;try simp only [bl] at f1
   have hev := natW_even (n := m) (by omega)
   have hk64 : k < 32 * (natW n).length := by
     have h1 := val_lt (Wds_natW n)
     rw [val_natW, pow_bits] at h1
     have h2 : 2 ^ k ≤ n := by rw [he]; exact Nat.le_mul_of_pos_right _ hm0
     exact (Nat.pow_lt_pow_iff_right (by decide)).1 (Nat.lt_of_le_of_lt h2 h1)
   have hmm : m % 2 = 0 := by omega
   refine cK (tC (cB (sR ?_)));refine oV ?_;refine oI Tryz.call116 rfl (rSmall_any _ _ 2 hu hl (by decide) (by decide)) ?_;rintro _ I2 hx2 ⟨u2, rfl, hs2⟩;iterate 5 refine oV ?_
   refine nR ?_;refine oV ?_
   (refine o_add trivial rfl rfl rfl ?_ ?_; (omega))
   refine oV ?_;refine oN (blk_n ?_)
   rw [val_natW] at hs2
   exact again (m / 2, k + 1, u2, I2) (sC rfl (sC rfl sN)) (fun _ h => h) (by show m / 2 < m; omega) ⟨by show 0 < m / 2; omega, by show n = 2 ^ (k + 1) * (m / 2); rw [he, Nat.pow_succ, Nat.mul_assoc]; congr 1; omega, hs2, Nat.le_trans (natW_le_len (Nat.div_le_self _ _)) hl, hx1.trans hx2 (Nat.le_refl _)⟩
  have f1 := h1;try simp only [bl] at f1
  refine c_exit (then_x (then_x (blk_eq rfl (tC (sR ?_)))));iterate 4 refine oV ?_
  refine nE ?_;refine ret2 rfl rfl rfl ?_
  have hev := natW_even (n := m) (by omega)
  exact leaf hx1 (List.nil_sublist _) ⟨u, m, k, rfl, hu, he, by omega⟩
theorem OddOf.pos {n x k : Nat} (h : OddOf n x k) : 0 < x := by have := h.odd; omega
theorem OddOf.le {n x k : Nat} (h : OddOf n x k) : x ≤ n := by rw [h.eq]; exact Nat.le_mul_of_pos_left _ (Nat.pow_pos (by decide))
theorem OddOf.pow_lt {n x k L : Nat} (h : OddOf n x k) (hL : (natW n).length ≤ L) : k < 32 * L := by
  have h1 := val_lt (Wds_natW n)
  rw [val_natW, pow_bits] at h1
  have h2 : 2 ^ k ≤ n := by rw [h.eq]; exact Nat.le_mul_of_pos_right _ h.pos
  have h3 := (Nat.pow_lt_pow_iff_right (by decide)).1 (Nat.lt_of_le_of_lt h2 h1)
  omega
theorem rGcd_any (va vb : Value) (A B : List Nat) {I : Hp} (ha : Ws I va A) (hb : Ws I vb B) (hs : A.length ≤ 3000) (hs2 : B.length ≤ 3000) : Fun Tryz.prog 174 [va, vb] I [] (fun v I' _ => Ws I' v (natW (Nat.gcd (val A) (val B)))) := by
  have hal : (natW (val A)).length ≤ 3000 := Nat.le_trans (natW_len_list ha.wds) hs
  have hbl : (natW (val B)).length ≤ 3000 := Nat.le_trans (natW_len_list hb.wds) hs2
  intro w hw
  refine enter2 _ Tryz.func174 rfl Tryz.ntmps174 rfl ?_ hw;refine sR ?_;refine oV ?_;refine nS ?_;refine oV ?_;refine oI Tryz.call115 rfl (rTrim_any _ _ ha (by omega)) ?_;rintro u1 I1 hx1 hs1;refine oV ?_;refine nS ?_;refine oV ?_;refine oI Tryz.call115 rfl (rTrim_any _ _ (hb.le hx1.le) (by omega)) ?_;rintro u2 I2 hx2 hs2';refine oV ?_;refine nU ?_;refine oV ?_;refine o_lenW trivial rfl Tryz.underlying33 rfl (hs1.le hx2.le) ?_;refine oV ?_;refine nT ?_;refine cC rfl (fun h1 => ?_) (fun h1 => ?_)
  ·
   have f1 := h1;try simp only [bl] at f1
   refine sR ?_;iterate 2 refine oV ?_
   refine nF ?_;refine ret1 rfl rfl ?_
   have h0 : val A = 0 := natW_len_zero.1 (by omega)
   refine leaf (hx1.trans hx2 (Nat.le_refl _)) (List.nil_sublist _) ?_; rw [h0, Nat.gcd_zero_left]; exact hs2'
  have f1 := h1;try simp only [bl] at f1
  refine cK (tC (cS (sR ?_)));refine oV ?_;refine o_lenW trivial rfl Tryz.underlying33 rfl (hs2') ?_;refine oV ?_;refine nT ?_;refine cC rfl (fun h2 => ?_) (fun h2 => ?_)
  ·
   have f2 := h2;try simp only [bl] at f2
   refine sR ?_;iterate 2 refine oV ?_
   refine nF ?_;refine ret1 rfl rfl ?_
   have h0 : val B = 0 := natW_len_zero.1 (by omega)
   refine leaf (hx1.trans hx2 (Nat.le_refl _)) (List.nil_sublist _) ?_; rw [h0, Nat.gcd_zero_right]; exact hs1.le hx2.le
  have f2 := h2;try simp only [bl] at f2
  have hA0 : 0 < val A := Nat.pos_of_ne_zero fun e => f1 (by rw [e, natW_zero]; rfl)
  have hB0 : 0 < val B := Nat.pos_of_ne_zero fun e => f2 (by rw [e, natW_zero]; rfl)
  refine kS ?_;refine oV ?_;refine oI Tryz.call201 rfl (rOdd_any _ _ (hs1.le hx2.le) (by omega) hA0) ?_;rintro _ I3 hx3 ⟨u3, x, n, rfl, hs3, ho3⟩;iterate 5 refine oV ?_
  refine oN (tC (cS ?_))
  have hn := ho3.pow_lt hal
  refine cR ?_;refine oV ?_;refine oI Tryz.call201 rfl (rOdd_any _ _ (hs2'.le hx3.le) (by omega) hB0) ?_;rintro _ I4 hx4 ⟨u4, y, k, rfl, hs4, ho4⟩;iterate 5 refine oV ?_
  refine oN (tC (cS (cB ?_)));refine c_loop (ι := Nat × Nat × Value × Value × Hp) [7, 8] (.cons rfl (.cons rfl .nil)) (fun t => t.1 + t.2.1) (fun t E0 => (5, t.2.2.1) :: (6, t.2.2.2.1) :: E0) (fun t => St w [] t.2.2.2.2 []) (fun t => t.1 % 2 = 1 ∧ t.2.1 % 2 = 1 ∧ Nat.gcd t.1 t.2.1 = Nat.gcd x y ∧ Ws t.2.2.2.2 t.2.2.1 (natW t.1) ∧ Ws t.2.2.2.2 t.2.2.2.1 (natW t.2.1) ∧ (natW t.1).length ≤ 3000 ∧ (natW t.2.1).length ≤ 3000 ∧ Ext w.heap.size I t.2.2.2.2) ((x, y, u3, u4, I4)) (sC rfl (sC rfl (sC rfl (sC rfl sN)))) (fun _ h => h) (⟨ho3.odd, ho4.odd, rfl, hs3.le hx4.le, hs4, Nat.le_trans (natW_le_len ho3.le) hal, Nat.le_trans (natW_le_len ho4.le) hbl, hx1.trans (hx2.trans (hx3.trans hx4 (Nat.le_refl _)) (Nat.le_refl _)) (Nat.le_refl _)⟩) ?_;rintro ⟨a, b, ua, ub, I5⟩ ⟨hao, hbo, hg, hua, hub, hla, hlb, hx5⟩
  try dsimp only
  simp only at hao hbo hg hua hub hla hlb hx5
  refine cS (sR ?_);iterate 2 refine oV ?_
  refine oQ Tryz.call179 rfl (rCmp_any _ _ _ _ hua hub (by omega) (by omega)) ?_;refine oV ?_;refine nT ?_;refine cC rfl (fun h3 => ?_) (fun h3 => ?_)
  ·
   have f3 := h3;try simp only [bl] at f3
   rw [val_natW, val_natW] at f3
   have hab : a ≠ b := fun e => f3 (by rw [e]; exact cmpZ_self _)
   refine cK (tC (cB ?_));refine c_cut (ι := Nat × Nat × Value × Value) [7, 8] (.cons rfl (.cons rfl .nil)) (fun t E0 => (5, t.2.2.1) :: (6, t.2.2.2) :: E0) (fun t => St w [] I5 []) (fun t => t.1 % 2 = 1 ∧ t.2.1 % 2 = 1 ∧ Nat.gcd t.1 t.2.1 = Nat.gcd x y ∧ Ws I5 t.2.2.1 (natW t.1) ∧ Ws I5 t.2.2.2 (natW t.2.1) ∧ (natW t.1).length ≤ 3000 ∧ (natW t.2.1).length ≤ 3000 ∧ t.2.1 < t.1 ∧ t.1 + t.2.1 = a + b) ?_ ?_
   ·
    refine sR ?_;iterate 2 refine oV ?_
    refine oQ Tryz.call179 rfl (rCmp_any _ _ _ _ hua hub (by omega) (by omega)) ?_;refine oV ?_;refine nT ?_;refine cC rfl (fun h4 => ?_) (fun h4 => ?_)
    ·
     have f4 := h4;try simp only [bl] at f4
     rw [val_natW, val_natW] at f4
     have hlt : a < b := by unfold cmpZ at f4; split at f4 <;> (try split at f4) <;> omega
     refine sR ?_;iterate 2 refine oV ?_
     refine nS ?_;iterate 2 refine oV ?_
     refine nR ?_;iterate 2 refine oV ?_
     refine oN ?_
     (exact meet (b, a, ub, ua) (sC rfl (sC rfl (sC rfl (sC rfl sN)))) (fun _ h => h) ⟨hbo, hao, by rw [Nat.gcd_comm]; exact hg, hub, hua, hlb, hla, hlt, by show b + a = a + b; omega⟩)
    have f4 := h4;try simp only [bl] at f4
    rw [val_natW, val_natW] at f4
    have hlt : ¬ a < b := fun h => by rw [cmpZ_lt (by omega)] at f4; omega
    refine cK ?_
    (exact meet (a, b, ua, ub) (sC rfl (sC rfl (sC rfl (sC rfl sN)))) (fun _ h => h) ⟨hao, hbo, hg, hua, hub, hla, hlb, by show b < a; omega, rfl⟩)
   rintro ⟨c, d, uc, ud⟩ ⟨hco, hdo, hg2, huc, hud, hlc, hld, hdc, hsum⟩
   try dsimp only
   refine cS ?_
   simp only at hco hdo hg2 huc hud hlc hld hdc hsum
   refine cR ?_;iterate 2 refine oV ?_
   refine oI Tryz.call180 rfl (rSub_any _ _ _ _ huc hud (by omega) (by omega) (by rw [val_natW, val_natW]; omega)) ?_;rintro _ I6 hx6 ⟨u6, rfl, hs6⟩;iterate 4 refine oV ?_
   refine nT ?_
   rw [val_natW, val_natW] at hs6
   have hl6 : (natW (c - d)).length ≤ 3000 := Nat.le_trans (natW_le_len (Nat.sub_le _ _)) hlc
   refine cR ?_;refine oV ?_;refine oI Tryz.call201 rfl (rOdd_any _ _ hs6 (by omega) (by omega)) ?_;rintro _ I7 hx7 ⟨u7, z, p, rfl, hs7, ho7⟩;iterate 4 refine oV ?_
   refine oN (blk_n ?_);exact again (z, d, u7, ud, I7) (sC rfl (sC rfl (sC rfl (sC rfl sN)))) (fun _ h => h) (by show z + d < a + b; have := ho7.le; omega) ⟨ho7.odd, hdo, by show Nat.gcd z d = _; rw [gcd_less hdo (by omega) ho7.eq]; exact hg2, hs7, hud.le (hx6.le.trans hx7.le), Nat.le_trans (natW_le_len ho7.le) hl6, hld, hx5.trans (hx6.trans hx7 (Nat.le_refl _)) (Nat.le_refl _)⟩
  have f3 := h3;try simp only [bl] at f3
  rw [val_natW, val_natW] at f3
  have hab : a = b := by have := cmpZ_zero f3; omega
  refine c_exit (then_x (then_x (blk_eq rfl (tC (sR ?_)))));iterate 3 refine oV ?_
  refine o_min2 trivial rfl rfl rfl ?_
  rw [show min (n : Int) (k : Int) = ((min n k : Nat) : Int) by omega]
  refine oI Tryz.call202 rfl (rShift_any _ _ (min n k) hua (by omega) (by omega)) ?_;rintro u8 I8 hx8 hs8;refine oV ?_;refine nE ?_;refine ret1 rfl rfl ?_;refine leaf (hx5.trans hx8 (Nat.le_refl _)) (List.nil_sublist _) ?_
  rw [val_natW] at hs8
  rw [ho3.eq, ho4.eq, gcd_twos ho3.odd ho4.odd, ← hg, ← hab, Nat.gcd_self]
  exact hs8
theorem rLowest_any (va vb : Value) (A B : List Nat) {I : Hp} (ha : Ws I va A) (hb : Ws I vb B) (hs : A.length ≤ 3000) (hs2 : B.length ≤ 3000) : Fun Tryz.prog 142 [va, vb] I [] (fun v I' _ => ∃ u1 u2, v = .tuple #[u1, u2, .bool (decide (val B ≠ 0))] ∧ (val B ≠ 0 → Ws I' u1 (natW (val A / Nat.gcd (val A) (val B))) ∧ Ws I' u2 (natW (val B / Nat.gcd (val A) (val B))))) := by
  have hbl : (natW (val B)).length ≤ 3000 := Nat.le_trans (natW_len_list hb.wds) hs2
  intro w hw
  refine enter2 _ Tryz.func142 rfl Tryz.ntmps142 rfl ?_ hw;refine sR ?_;iterate 3 refine oV ?_
  refine nS ?_;refine oV ?_;refine oI Tryz.call115 rfl (rTrim_any _ _ hb (by omega)) ?_;rintro u1 I1 hx1 hs1;refine oV ?_;refine nU ?_;refine oV ?_;refine o_lenW trivial rfl Tryz.underlying33 rfl (hs1) ?_;refine oV ?_;refine nT ?_;refine cC rfl (fun h1 => ?_) (fun h1 => ?_)
  ·
   have f1 := h1;try simp only [bl] at f1
   refine sR ?_;iterate 3 refine oV ?_
   refine nF ?_;refine ret3 rfl rfl rfl rfl ?_
   have h0 : val B = 0 := natW_len_zero.1 (by omega)
   refine leaf hx1 (List.nil_sublist _) ⟨.slice none 0 0, .slice none 0 0, ?_, fun h => absurd h0 h⟩; rw [decide_eq_false (not_not_intro h0)]
  have f1 := h1;try simp only [bl] at f1
  have h0 : 0 < val B := Nat.pos_of_ne_zero fun e => f1 (by rw [e, natW_zero]; rfl)
  have hg : 0 < Nat.gcd (val A) (val B) := Nat.gcd_pos_of_pos_right _ h0
  have hgl : (natW (Nat.gcd (val A) (val B))).length ≤ 3000 := Nat.le_trans (natW_le_len (Nat.gcd_le_right _ h0)) hbl
  refine kS ?_;iterate 2 refine oV ?_
  refine oI Tryz.call174 rfl (rGcd_any _ _ _ _ (ha.le hx1.le) hs1 hs (by omega)) ?_;rintro u2 I2 hx2 hs2';refine oV ?_;refine oN (tC (cS ?_))
  rw [val_natW] at hs2'
  refine cR ?_;iterate 2 refine oV ?_
  refine oI Tryz.call148 rfl (rDiv_any _ _ _ _ (ha.le (hx1.le.trans hx2.le)) hs2' (by omega) (by omega) (by rw [val_natW]; exact hg)) ?_;rintro _ I3 hx3 ⟨u3, u4, rfl, hq3, hr3⟩;iterate 7 refine oV ?_
  refine nS ?_;iterate 2 refine oV ?_
  refine oI Tryz.call148 rfl (rDiv_any _ _ _ _ (hs1.le (hx2.le.trans hx3.le)) (hs2'.le hx3.le) (by omega) (by omega) (by rw [val_natW]; exact hg)) ?_;rintro _ I4 hx4 ⟨u5, u6, rfl, hq5, hr5⟩;iterate 5 refine oV ?_
  refine nS ?_;iterate 5 refine oV ?_
  refine nE ?_;refine ret3 rfl rfl rfl rfl ?_
  rw [val_natW] at hq3
  rw [val_natW, val_natW] at hq5
  refine leaf (hx1.trans (hx2.trans (hx3.trans hx4 (Nat.le_refl _)) (Nat.le_refl _)) (Nat.le_refl _)) (List.nil_sublist _) ⟨u3, u5, ?_, fun _ => ⟨hq3.le hx4.le, hq5⟩⟩; rw [decide_eq_true (by omega)]; rfl
theorem strOf_app (a b : List Int) : strOf a ++ strOf b = strOf (a ++ b) := by
  unfold strOf; rw [List.map_append]; apply ByteArray.ext; simp
theorem decS_nil : decS 0 = ⟨#[48]⟩ := by
  unfold decS decL; rw [digs]; rfl
theorem rPrint_any (va : Value) (A : List Nat) {I : Hp} (ha : Ws I va A) (hs : A.length ≤ 35184372088400) : Fun Tryz.prog 78 [va] I [] (fun v _ _ => v = .string (decS (val A))) := by
  have hdl := digs_words ha.wds hs
  have hal : (natW (val A)).length ≤ 35184372088400 := Nat.le_trans (natW_len_list ha.wds) hs
  intro w hw
  refine enter1 _ Tryz.func78 rfl Tryz.ntmps78 rfl ?_ hw;refine sR ?_;refine oV ?_;refine nS ?_;refine oV ?_;refine oI Tryz.call115 rfl (rTrim_any _ _ ha (by omega)) ?_;rintro u1 I1 hx1 hs1;refine oV ?_;refine nU ?_;refine oV ?_;refine o_lenW trivial rfl Tryz.underlying33 rfl (hs1) ?_;refine oV ?_;refine nT ?_;refine cC rfl (fun h1 => ?_) (fun h1 => ?_)
  ·
   have f1 := h1;try simp only [bl] at f1
   refine sR ?_;refine oV ?_;refine nF ?_;refine ret1 rfl rfl ?_
   have h0 : val A = 0 := natW_len_zero.1 (by omega)
   refine leaf hx1 (List.nil_sublist _) (congrArg Value.string ?_); rw [h0, decS_nil]
  have f1 := h1;try simp only [bl] at f1
  have h0 : 0 < val A := Nat.pos_of_ne_zero fun e => f1 (by rw [e, natW_zero]; rfl)
  refine kS ?_;refine oV ?_;refine oN (tC (cS (cB ?_)));refine c_loop (ι := Nat × List Nat × Value × Hp) [] .nil (fun x => x.1) (fun x E0 => (3, x.2.2.1) :: (4, .string (strOf (x.2.1.reverse.map Int.ofNat))) :: E0) (fun x => St w [] x.2.2.2 []) (fun x => Ws x.2.2.2 x.2.2.1 (natW x.1) ∧ (natW x.1).length ≤ 35184372088400 ∧ x.2.1 ++ digRest x.1 x.2.1 = digs (val A) ∧ (x.1 = 0 → x.2.1 ≠ []) ∧ Ext w.heap.size I x.2.2.2) ((val A, [], u1, I1)) (sC rfl (sC rfl sN)) (fun _ h => h) (⟨hs1, hal, by simp [digRest], fun h => absurd h (by show val A ≠ 0; omega), hx1⟩) ?_;rintro ⟨m, L, u, I2⟩ ⟨hu, hl, hd, hne, hx2⟩
  try dsimp only
  simp only at hu hl hd hne hx2; have hol : L.length ≤ (digs (val A)).length := by rw [← hd, List.length_append]; omega
  refine cS (sR ?_);refine oV ?_;refine o_lenW trivial rfl Tryz.underlying33 rfl (hu) ?_;refine oV ?_;refine nT ?_;refine cC rfl (fun h2 => ?_) (fun h2 => ?_)
  ·
   have f2 := h2;try simp only [bl] at f2
   have hm0 : 0 < m := Nat.pos_of_ne_zero fun e => by rw [e, natW_zero] at f2; simp at f2
   rw [digs_step L (.inl hm0)] at hd
   have hsz : (strOf (L.reverse.map Int.ofNat)).size = L.length := by rw [strOf_size]; simp
   refine cK (tC (cB (sR ?_)));refine oV ?_;refine oI Tryz.call116 rfl (rSmall_any _ _ 10 hu hl (by decide) (by decide)) ?_;rintro _ I3 hx3 ⟨u3, rfl, hs3⟩;iterate 7 refine oV ?_
   refine nS ?_;refine oV ?_;refine o_arA trivial rfl rfl rfl (by rw [IntWalk.u32_in _ (by omega)]) ?_;refine o_convIn trivial rfl Tryz.underlying134 Tryz.underlying5 rfl (by rw [IntWalk.u8_in _ (by omega)]) ?_;refine oB Tryz.underlying64 Tryz.sizeOf5 Tryz.zeroValue5 fun b25 => ?_;refine o_bytesStr (ns := [(48 : Int) + ((val (natW m) % 10 : Nat) : Int)]) trivial rfl Tryz.underlying64 Tryz.underlying5 Tryz.underlying9 rfl (by repeat constructor) rfl ?_;refine oV ?_;refine o_cat trivial rfl rfl rfl (by rw [strOf_size, hsz]; simp only [List.length_cons, List.length_nil]; omega) ?_;refine oV ?_;refine nR ?_;iterate 2 refine oV ?_
   refine oN (blk_n ?_)
   rw [val_natW] at hs3
   have e1 : strOf [(48 : Int) + ((val (natW m) % 10 : Nat) : Int)] ++ strOf (L.reverse.map Int.ofNat) = strOf ((L ++ [48 + m % 10]).reverse.map Int.ofNat) := by
     rw [strOf_app, val_natW, List.reverse_append]; rfl
   rw [e1]
   exact again (m / 10, L ++ [48 + m % 10], u3, I3) (sC rfl (sC rfl sN)) (fun _ h => h.drop (List.nil_sublist _)) (by show m / 10 < m; omega) ⟨hs3, Nat.le_trans (natW_le_len (Nat.div_le_self _ _)) hl, by show (L ++ [48 + m % 10]) ++ digRest (m / 10) (L ++ [48 + m % 10]) = _; rw [← hd]; simp, fun _ => by simp, hx2.trans hx3 (Nat.le_refl _)⟩
  have f2 := h2;try simp only [bl] at f2
  have hm0 : m = 0 := natW_len_zero.1 (by omega)
  refine c_exit (then_x (then_x (blk_eq rfl (tC (sR ?_)))));iterate 2 refine oV ?_
  refine nE ?_;refine ret1 rfl rfl ?_;refine leaf hx2 (List.nil_sublist _) (congrArg Value.string ?_)
  unfold digRest at hd
  rw [if_pos ⟨hm0, hne hm0⟩, List.append_nil] at hd
  unfold decS decL
  rw [← hd]
theorem rOf7_any (n : Int) {I : Hp} (hn : -1000000 ≤ n ∧ n ≤ 1000000) : Fun Tryz.prog 107 [.int .i64 n] I [] (fun v I' _ => IntV I' v n) := by
  intro w hw
  refine enter1 _ Tryz.func107 rfl Tryz.ntmps107 rfl ?_ hw;refine sR ?_;refine o_alloc trivial rfl Tryz.zeroValue132 rfl (fun b2 => ?_);refine nU ?_;iterate 2 refine oV ?_
  refine nT ?_;refine cC rfl (fun h1 => ?_) (fun h1 => ?_)
  ·
   have f1 := h1;try simp only [bl] at f1
   refine sR ?_;refine oV ?_;refine o_convIn trivial rfl Tryz.underlying3 Tryz.underlying136 rfl (by rw [IntWalk.u64_in _ (by omega)]) ?_
   rw [show n = ((n.natAbs : Nat) : Int) by omega]
   refine oI Tryz.call86 rfl (rOf_any n.natAbs (by omega)) ?_;rintro u1 I1 hx1 hs1;refine o_buildS trivial rfl (bld132) rfl (.cons rfl (by exact (Ws.cells1 (by assumption)).1) (by rfl) (by repeat constructor) .nil) ?_;refine oS Tryz.sizeOf132 ?_;refine nF ?_;refine retR rfl (.agg Tryz.isAgg132 Tryz.sizeOf132 rfl (by repeat constructor) rfl .nil) ?_;refine leaf hx1 (List.nil_sublist _) ⟨u1, ?_, hs1⟩; rw [decide_eq_false (by omega)]; rfl
  have f1 := h1;try simp only [bl] at f1
  refine kS ?_;refine oV ?_;refine o_conv trivial rfl Tryz.underlying3 Tryz.underlying136 rfl ?_;refine oV ?_;refine oV ?_;refine oN (tC (cS ?_))
  rw [show IntKind.u64.wrap (0 - IntKind.u64.wrap n) = ((n.natAbs : Nat) : Int) by simp only [IntKind.wrap_u64]; omega]
  refine cR ?_;refine oV ?_;refine oI Tryz.call86 rfl (rOf_any n.natAbs (by omega)) ?_;rintro u2 I2 hx2 hs2;refine o_buildS trivial rfl (bld132) rfl (.cons rfl rfl rfl (by repeat constructor) (.cons rfl (by exact (Ws.cells1 (by assumption)).1) (by rfl) (by repeat constructor) .nil)) ?_;refine oS Tryz.sizeOf132 ?_;refine nE ?_;refine retR rfl (.agg Tryz.isAgg132 Tryz.sizeOf132 rfl (by repeat constructor) rfl .nil) ?_;refine leaf hx2 (List.nil_sublist _) ⟨u2, ?_, hs2⟩; rw [decide_eq_true (by omega)]; rfl
theorem natW_one : natW 1 = [1] := by rw [natW_pos (by decide), show 1 / 4294967296 = 0 from rfl, natW_zero]
theorem rlow_any (neg : Bool) (va vb : Value) (A B : List Nat) {I : Hp} (ha : Ws I va A) (hb : Ws I vb B) (hs : A.length ≤ 3000) (hs2 : B.length ≤ 3000) : Fun Tryz.prog 106 [.agg #[.bool neg, va], vb] I [] (fun v I' _ => RatV I' v (lowQ neg (val A) (val B))) := by
  intro w hw
  refine enter2 _ Tryz.func106 rfl Tryz.ntmps106 rfl ?_ hw;refine sR ?_;refine o_box trivial rfl rfl rfl (fun b2 => ?_);refine o_alloc trivial rfl Tryz.zeroValue35 rfl (fun b4 => ?_);refine nS ?_;refine oF 1 Tryz.underlying132 Tryz.sizeOf33 ?_;refine oL Tryz.isAgg33 ?_;refine oV ?_;refine oI Tryz.call142 rfl (rLowest_any _ _ _ _ ha hb hs hs2) ?_;rintro _ I1 hx1 ⟨u1, u2, rfl, hs1⟩;iterate 7 refine oV ?_
  refine nU ?_;iterate 2 refine oV ?_
  refine' o_or trivial trivial rfl rfl rfl rfl rfl rfl rfl rfl (fun hb18 => ?_) ?_;rotate_left
  ·
   have fb18 := hb18
   try simp only [bl] at fb18
   have hB : val B ≠ 0 := by simpa using hb18
   obtain ⟨hu1, hu2⟩ := hs1 hB
   refine gV hb18 ?_;refine o_lenW (wS rfl rfl hb18) rfl Tryz.underlying33 rfl (hu1) ?_;refine gV hb18 ?_;refine oN ?_;exact joins rfl
  refine nT ?_;refine cC rfl (fun h1 => ?_) (fun h1 => ?_)
  ·
   have f1 := h1;try simp only [bl] at f1
   have h0 : val B = 0 ∨ val A = 0 := by
     rcases f1 with f1 | f1
     · exact .inl (Decidable.not_not.1 f1)
     · by_cases hB : val B = 0
       · exact .inl hB
       · exact .inr (div_gcd_zero (natW_len_zero.1 (by omega)) hB)
   refine sR ?_;refine oB Tryz.underlying33 Tryz.sizeOf134 Tryz.zeroValue134 fun b23 => ?_;refine l_sealW [1] .here (Wds_cons (by decide) Wds_nil) (by unfold maxLen; simp) (fun I2 hx2 hs2' => ?_);refine o_buildS trivial rfl (bld35) rfl (.cons rfl (by exact (Ws.cells1 (by assumption)).1) (by rfl) (by repeat constructor) .nil) ?_;refine oS Tryz.sizeOf35 ?_;refine nF ?_;refine retR rfl (.agg Tryz.isAgg35 Tryz.sizeOf35 rfl (by repeat constructor) rfl .nil) ?_;refine leaf (hx1.trans hx2 (Nat.le_refl _)) (List.nil_sublist _) ?_
   rw [lowQ_zero h0]; exact RatV.zero (by rw [natW_one]; exact hs2')
  have f1 := h1;try simp only [bl] at f1
  have hB : val B ≠ 0 := fun e => f1.1 e
  obtain ⟨hu1, hu2⟩ := hs1 hB
  have hA : val A ≠ 0 := fun e => f1.2 (by rw [e, Nat.zero_div, natW_zero]; rfl)
  obtain ⟨e1, e2, e3⟩ := lowQ_parts (neg := neg) hA hB
  refine kS ?_;refine oF 0 Tryz.underlying132 Tryz.sizeOf4 ?_;refine oL Tryz.isAgg4 ?_;iterate 2 refine oV ?_
  refine o_buildS trivial rfl (bld35) rfl (.cons rfl rfl rfl (by repeat constructor) (.cons rfl (by exact (Ws.cells1 (by assumption)).1) (by rfl) (by repeat constructor) (.cons rfl (by exact (Ws.cells1 (by assumption)).1) (by rfl) (by repeat constructor) .nil))) ?_;refine oS Tryz.sizeOf35 ?_;refine nE ?_;refine retR rfl (.agg Tryz.isAgg35 Tryz.sizeOf35 rfl (by repeat constructor) rfl .nil) ?_;refine leaf hx1 (List.nil_sublist _) ⟨u1, u2, ?_, ?_, ?_⟩
  · rw [e3]; rfl
  · rw [e1]; exact hu1
  · rw [e2]; exact hu2
theorem rFix_any (neg : Bool) (va vb : Value) (A B : List Nat) {I : Hp} (ha : Ws I va A) (hb : Ws I vb B) (hs : A.length ≤ 3000) (hs2 : B.length ≤ 3000) : Fun Tryz.prog 83 [.agg #[.bool neg, va, vb]] I [] (fun v I' _ => RatV I' v (lowQ neg (val A) (val B))) := by
  intro w hw
  refine enter1 _ Tryz.func83 rfl Tryz.ntmps83 rfl ?_ hw;refine sR ?_;refine o_box trivial rfl rfl rfl (fun b1 => ?_);refine o_alloc trivial rfl Tryz.zeroValue35 rfl (fun b2 => ?_);refine nS ?_;refine oF 0 Tryz.underlying35 Tryz.sizeOf4 ?_;refine oL Tryz.isAgg4 ?_;refine oF 1 Tryz.underlying35 Tryz.sizeOf33 ?_;refine oL Tryz.isAgg33 ?_;refine o_buildS trivial rfl (bld132) rfl (.cons rfl rfl rfl (by repeat constructor) (.cons rfl (by exact (Ws.cells1 (by assumption)).1) (by rfl) (by repeat constructor) .nil)) ?_;refine oF 2 Tryz.underlying35 Tryz.sizeOf33 ?_;refine oL Tryz.isAgg33 ?_;refine oI Tryz.call106 rfl (rlow_any neg _ _ _ _ ha hb hs hs2) ?_;rintro _ I1 hx1 ⟨u1, u2, rfl, h1, h2⟩;refine oS Tryz.sizeOf35 ?_;refine nE ?_;refine retR rfl (.agg Tryz.isAgg35 Tryz.sizeOf35 rfl (by repeat constructor) rfl .nil) ?_;exact leaf hx1 (List.nil_sublist _) ⟨u1, u2, rfl, h1, h2⟩
theorem rEqual_any (s1 s2 : Bool) (va vb vc vd : Value) (A B C D : List Nat) {I : Hp} (ha : Ws I va A) (hb : Ws I vb B) (hc : Ws I vc C) (hd : Ws I vd D) : Fun Tryz.prog 67 [.agg #[.bool s1, va, vb], .agg #[.bool s2, vc, vd]] I [] (fun v _ _ => v = .bool (decide (s1 = s2) && decide (A = C) && decide (B = D))) := by
  intro w hw
  refine enter2 _ Tryz.func67 rfl Tryz.ntmps67 rfl ?_ hw;refine sR ?_;refine o_box trivial rfl rfl rfl (fun b2 => ?_);refine o_box trivial rfl rfl rfl (fun b3 => ?_);refine oV ?_;refine nS ?_;refine oF 0 Tryz.underlying35 Tryz.sizeOf4 ?_;refine oL Tryz.isAgg4 ?_;refine oF 0 Tryz.underlying35 Tryz.sizeOf4 ?_;refine oL Tryz.isAgg4 ?_;refine o_eqlB trivial rfl rfl rfl Tryz.underlying4 ?_;refine' o_and trivial trivial rfl rfl rfl rfl rfl rfl rfl rfl (fun hb10 => ?_) ?_;rotate_left
  ·
   have fb10 := hb10
   try simp only [bl] at fb10
   refine gF hb10 1 Tryz.underlying35 Tryz.sizeOf33 ?_;refine gL hb10 Tryz.isAgg33 ?_;refine gF hb10 1 Tryz.underlying35 Tryz.sizeOf33 ?_;refine gL hb10 Tryz.isAgg33 ?_;refine o_callQ (wS rfl rfl hb10) rfl Tryz.call85 rfl (rWords_any _ _ _ _ ha hc) ?_;refine oN ?_;exact joins rfl
  refine' o_and trivial trivial rfl rfl rfl rfl rfl rfl rfl rfl (fun hb17 => ?_) ?_;rotate_left
  ·
   have fb17 := hb17
   try simp only [bl] at fb17
   refine gF hb17 2 Tryz.underlying35 Tryz.sizeOf33 ?_;refine gL hb17 Tryz.isAgg33 ?_;refine gF hb17 2 Tryz.underlying35 Tryz.sizeOf33 ?_;refine gL hb17 Tryz.isAgg33 ?_;refine o_callQ (wS rfl rfl hb17) rfl Tryz.call85 rfl (rWords_any _ _ _ _ hb hd) ?_;refine oN ?_;exact joins rfl
  refine oV ?_;refine nE ?_;refine ret1 rfl rfl ?_;refine leaf0 (congrArg Value.bool ?_)
  congr 2
theorem rRight_any (neg : Bool) (va vb : Value) (A B : List Nat) {I : Hp} (ha : Ws I va A) (hb : Ws I vb B) (hs : A.length ≤ 3000) (hs2 : B.length ≤ 3000) : Fun Tryz.prog 77 [.agg #[.bool neg, va, vb]] I [] (fun v _ _ => v = .bool (ratRight neg A B)) := by
  intro w hw
  refine enter1 _ Tryz.func77 rfl Tryz.ntmps77 rfl ?_ hw;refine sR ?_;refine o_box trivial rfl rfl rfl (fun b1 => ?_);refine oV ?_;refine oN (tC (cS ?_));refine h_beginB (m := 5) [.box b1 _] (by repeat constructor) (by kernel_rfl) rfl ?_;refine qT (i := 0) (qB 5 1) (Hp.Le.refl _) rfl rfl (oA Tryz.isAgg35 Tryz.sizeOf35 qF) ?_;refine qT (i := 2) (qB 5 5) (Hp.Le.refl _) rfl rfl (oA Tryz.isAgg35 Tryz.sizeOf35 qF) ?_;refine qO (i := 1) (qB 5 7) rfl ?_;refine oI Tryz.call83 rfl (rFix_any neg _ _ _ _ ha hb hs hs2) ?_;rintro _ I1 hx1 ⟨u1, u2, rfl, h1, h2⟩;refine qM (hx1.le) ?_;refine qO (i := 3) (qB 5 15) rfl ?_;refine oQ Tryz.call67 rfl (rEqual_any _ neg _ _ _ _ _ _ A B h1 h2 (ha.le hx1.le) (hb.le hx1.le)) ?_;refine qM (hx1.le) ?_;refine qT (i := 4) (qB 5 31) (hx1.le) rfl rfl (oV qF) ?_;refine h_end (by kernel_rfl) ?_;refine tC (cT ?_);refine ret1 rfl rfl ?_;refine leaf hx1 (List.nil_sublist _) (congrArg Value.bool ?_)
  unfold ratRight
  rw [Bool.eq_iff_iff]
  simp only [Bool.and_eq_true, decide_eq_true_eq]
  constructor <;> (rintro ⟨⟨k1, k2⟩, k3⟩; exact ⟨⟨k1.symm, k2.symm⟩, k3.symm⟩)
theorem val_one : val [1] = 1 := by rw [val_cons, val_nil]
theorem rOf8_any (n : Int) {I : Hp} (hn : -1000000 ≤ n ∧ n ≤ 1000000) : Fun Tryz.prog 63 [.int .i64 n] I [] (fun v I' _ => RatV I' v (mkRat n 1)) := by
  have hl : (natW n.natAbs).length ≤ 3000 := natW_len_of (k := 1) (by rw [Nat.pow_one]; omega) (by decide)
  intro w hw
  refine enter1 _ Tryz.func63 rfl Tryz.ntmps63 rfl ?_ hw;refine sR ?_;refine o_alloc trivial rfl Tryz.zeroValue35 rfl (fun b2 => ?_);refine nS ?_;refine oV ?_;refine oI Tryz.call107 rfl (rOf7_any n hn) ?_;rintro _ I1 hx1 ⟨u1, rfl, hs1⟩;refine oB Tryz.underlying33 Tryz.sizeOf134 Tryz.zeroValue134 fun b5 => ?_;refine l_sealW [1] .here (Wds_cons (by decide) Wds_nil) (by unfold maxLen; simp) (fun I2 hx2 hs2 => ?_);refine oI Tryz.call106 rfl (rlow_any (decide (n < 0)) _ _ _ _ (hs1.le hx2.le) hs2 hl (by simp)) ?_;rintro _ I3 hx3 ⟨u3, u4, rfl, h3, h4⟩;refine oS Tryz.sizeOf35 ?_;refine nE ?_;refine retR rfl (.agg Tryz.isAgg35 Tryz.sizeOf35 rfl (by repeat constructor) rfl .nil) ?_
  rw [val_natW, val_one, lowQ_int] at h3 h4
  refine leaf (hx1.trans (hx2.trans hx3 (Nat.le_refl _)) (Nat.le_refl _)) (List.nil_sublist _) ⟨u3, u4, ?_, h3, h4⟩
  rw [val_natW, val_one, lowQ_int]; rfl
theorem rSmall8_any (n : Int) (d : Nat) {I : Hp} (hn : -128 ≤ n ∧ n ≤ 127) (hd : d ≤ 255) : Fun Tryz.prog 71 [.int .i8 n, .int .u8 (d : Int)] I [] (fun v I' _ => RatV I' v (mkRat n (d + 1))) := by
  have hl : (natW n.natAbs).length ≤ 3000 := natW_len_of (k := 1) (by rw [Nat.pow_one]; omega) (by decide)
  have hv : val [d + 1] = d + 1 := by rw [val_cons, val_nil]
  intro w hw
  refine enter2 _ Tryz.func71 rfl Tryz.ntmps71 rfl ?_ hw;refine sR ?_;refine o_alloc trivial rfl Tryz.zeroValue35 rfl (fun b4 => ?_);refine nS ?_;refine oV ?_
  first | refine o_convIn trivial rfl Tryz.underlying119 Tryz.underlying3 rfl (by rw [IntWalk.i64_in _ (by omega)]) ?_ | refine o_conv trivial rfl Tryz.underlying119 Tryz.underlying3 rfl ?_
  refine oI Tryz.call107 rfl (rOf7_any n (by omega)) ?_;rintro _ I1 hx1 ⟨u1, rfl, hs1⟩;refine oV ?_
  first | refine o_convIn trivial rfl Tryz.underlying5 Tryz.underlying134 rfl (by rw [IntWalk.u32_in _ (by omega)]) ?_ | refine o_conv trivial rfl Tryz.underlying5 Tryz.underlying134 rfl ?_
  first | refine o_arA trivial rfl rfl rfl (by rw [IntWalk.u32_in _ (by omega)]) ?_ | refine oV ?_
  refine oB Tryz.underlying33 Tryz.sizeOf134 Tryz.zeroValue134 fun b11 => ?_;refine l_sealW [d + 1] .here (Wds_cons (by omega) Wds_nil) (by unfold maxLen; simp) (fun I2 hx2 hs2 => ?_);refine oI Tryz.call106 rfl (rlow_any (decide (n < 0)) _ _ _ _ (hs1.le hx2.le) hs2 hl (by simp)) ?_;rintro _ I3 hx3 ⟨u3, u4, rfl, h3, h4⟩;refine oS Tryz.sizeOf35 ?_;refine nE ?_;refine retR rfl (.agg Tryz.isAgg35 Tryz.sizeOf35 rfl (by repeat constructor) rfl .nil) ?_
  rw [val_natW, hv, lowQ_int] at h3 h4
  refine leaf (hx1.trans (hx2.trans hx3 (Nat.le_refl _)) (Nat.le_refl _)) (List.nil_sublist _) ⟨u3, u4, ?_, h3, h4⟩
  rw [val_natW, hv, lowQ_int]; rfl
def isR (bad : Bool) (L : List Tok) (i : Nat) (k : Int) (s : ByteArray) : Bool := !bad && hdT (L.drop i) k s
theorem add_none {L : List Tok} {j : Nat} (h : (isR false L j 2 plusS || isR false L j 2 minusS) = false) : hdK addK (L.drop j) = none := by
  unfold isR at h
  simp only [Bool.not_false, Bool.true_and, Bool.or_eq_false_iff] at h
  cases hr : L.drop j with
  | nil => rfl
  | cons x r =>
    rw [hr] at h
    simp only [hdT] at h
    show addK x = none
    unfold addK
    rw [h.1, h.2]; rfl
def LowN (l : List NodeC) : Prop := ∀ (i : Nat) (c : NodeC), l[i]? = some c → 1 < c.kind → 0 ≤ c.a ∧ c.a < i ∧ (c.kind ≤ 5 → 0 ≤ c.b ∧ c.b < i)
theorem nd_low : ∀ (x : Ex) (b j : Nat) (c : NodeC), x.ok → (x.nd b)[j]? = some c → 1 < c.kind → (b : Int) ≤ c.a ∧ c.a < (b + j : Nat) ∧ (c.kind ≤ 5 → (b : Int) ≤ c.b ∧ c.b < (b + j : Nat)) := by
  intro x
  have last : ∀ {u : List NodeC} {c0 c : NodeC} {j : Nat}, (u ++ [c0])[j]? = some c → ¬ j < u.length → j = u.length ∧ c = c0 := by
    intro u c0 c j h hj
    rw [List.getElem?_append_right (by omega)] at h
    have := (List.getElem?_eq_some_iff.1 h)
    obtain ⟨h1, h2⟩ := this
    simp at h1 h2
    exact ⟨by omega, h2.symm⟩
  induction x with
  | ref t =>
    intro b j c _ h hk
    have : c = refN t := by
      obtain ⟨h1, h2⟩ := List.getElem?_eq_some_iff.1 h
      simp [Ex.nd] at h2; exact h2.symm
    subst this
    exact absurd hk (by simp [refN])
  | num q =>
    intro b j c _ h hk
    have : c = numN q := by
      obtain ⟨h1, h2⟩ := List.getElem?_eq_some_iff.1 h
      simp [Ex.nd] at h2; exact h2.symm
    subst this
    exact absurd hk (by simp [numN])
  | neg x ih =>
    intro b j c hok h hk
    have hp := x.n_pos
    have hl := x.nd_len b
    by_cases hj : j < (x.nd b).length
    · simp only [Ex.nd] at h
      rw [List.getElem?_append_left hj] at h
      exact ih b j c hok h hk
    · obtain ⟨e1, e2⟩ := last h hj
      subst e2
      refine ⟨?_, ?_, ?_⟩
      · show (b : Int) ≤ (b : Int) + x.n - 1; omega
      · show (b : Int) + x.n - 1 < _; omega
      · intro h5; exact absurd h5 (by show ¬ (6 : Int) ≤ 5; decide)
  | pow x e ih =>
    intro b j c hok h hk
    have hp := x.n_pos
    have hl := x.nd_len b
    by_cases hj : j < (x.nd b).length
    · simp only [Ex.nd] at h
      rw [List.getElem?_append_left hj] at h
      exact ih b j c hok.1 h hk
    · obtain ⟨e1, e2⟩ := last h hj
      subst e2
      refine ⟨?_, ?_, ?_⟩
      · show (b : Int) ≤ (b : Int) + x.n - 1; omega
      · show (b : Int) + x.n - 1 < _; omega
      · intro h5; exact absurd h5 (by show ¬ (7 : Int) ≤ 5; decide)
  | bin k x y ih1 ih2 =>
    intro b j c hok h hk
    have hp := x.n_pos
    have hp2 := y.n_pos
    have hl := x.nd_len b
    have hl2 := y.nd_len (b + x.n)
    by_cases hj : j < (x.nd b ++ y.nd (b + x.n)).length
    · simp only [Ex.nd] at h
      rw [List.getElem?_append_left hj] at h
      by_cases hx : j < (x.nd b).length
      · rw [List.getElem?_append_left hx] at h
        exact ih1 b j c hok.2.2.1 h hk
      · rw [List.getElem?_append_right (by omega)] at h
        have := ih2 (b + x.n) _ c hok.2.2.2 h hk
        refine ⟨by omega, by omega, fun h5 => ?_⟩
        have := this.2.2 h5
        omega
    · obtain ⟨e1, e2⟩ := last h hj
      rw [List.length_append] at e1
      subst e2
      refine ⟨?_, ?_, fun _ => ⟨?_, ?_⟩⟩
      · show (b : Int) ≤ (b : Int) + x.n - 1; omega
      · show (b : Int) + x.n - 1 < _; omega
      · show (b : Int) ≤ (b : Int) + x.n + y.n - 1; omega
      · show (b : Int) + x.n + y.n - 1 < _; omega
theorem laid_low : ∀ (l : List (ByteArray × Ex)) (b j : Nat) (c : NodeC), LetsOk l → (laid l b).2[j]? = some c → 1 < c.kind → (b : Int) ≤ c.a ∧ c.a < (b + j : Nat) ∧ (c.kind ≤ 5 → (b : Int) ≤ c.b ∧ c.b < (b + j : Nat))
  | [], _, _, _, _, h, _ => by cases h
  | (s, x) :: l, b, j, c, hok, h, hk => by
    simp only [laid] at h
    have hl := x.nd_len b
    by_cases hx : j < (x.nd b).length
    · rw [List.getElem?_append_left hx] at h
      exact nd_low x b j c (hok (s, x) (by simp)).2 h hk
    · rw [List.getElem?_append_right (by omega)] at h
      have := laid_low l (b + x.n) _ c (fun a ha => hok a (by simp [ha])) h hk
      refine ⟨by omega, by omega, fun h5 => ?_⟩
      have := this.2.2 h5
      omega
theorem shaped_low {p : ProgC} {l : List (ByteArray × Ex)} (h : Shaped p l) : LowN p.all := fun i c hc hk => by
  rw [h.all] at hc
  have := laid_low l 0 i c h.ok hc hk
  refine ⟨by omega, by omega, fun h5 => ?_⟩
  have := this.2.2 h5
  omega
end Go.Proofs.YtfcmhcaggdakbaaGreatDoor
namespace Go.Tw
open Go
theorem inv_num_abs {q : Rat} (h : q ≠ 0) : (q⁻¹).num.natAbs = q.den := by
  have hn : q.num ≠ 0 := fun e => h (Rat.num_eq_zero.1 e)
  rw [Rat.num_inv, Int.natAbs_mul, Int.natAbs_natCast]
  rcases Int.lt_or_gt_of_ne hn with h1 | h1
  · rw [Int.sign_eq_neg_one_of_neg h1]; simp
  · rw [Int.sign_eq_one_of_pos h1]; simp
theorem inv_den {q : Rat} (h : q ≠ 0) : (q⁻¹).den = q.num.natAbs := by
  have hn : q.num ≠ 0 := fun e => h (Rat.num_eq_zero.1 e)
  rw [Rat.den_inv, if_neg hn]
theorem Few.inv {k : Nat} {q : Rat} (h : Few k q) (h0 : q ≠ 0) : Few k q⁻¹ := ⟨by rw [inv_num_abs h0]; exact h.den, by rw [inv_den h0]; exact h.num⟩
theorem Few.pow {k : Nat} {q : Rat} (h : Few k q) (m : Nat) : Few (k * m + 1) (q ^ m) := by
  have key : ∀ a : Nat, a < 4294967296 ^ k → a ^ m < 4294967296 ^ (k * m + 1) := fun a ha => by
    have h2 : a ^ m ≤ (4294967296 ^ k) ^ m := Nat.pow_le_pow_left (Nat.le_of_lt ha) m
    rw [← Nat.pow_mul] at h2
    exact Nat.lt_of_le_of_lt h2 (Nat.pow_lt_pow_right (by decide) (Nat.lt_succ_self _))
  exact ⟨by rw [Rat.num_pow, Int.natAbs_pow]; exact key _ h.num, by rw [Rat.den_pow]; exact key _ h.den⟩
def powX (q : Rat) (n : Int) : Rat := if n < 0 then q⁻¹ else q
theorem powX_pow (q : Rat) (n : Int) : powX q n ^ n.natAbs = q ^ n := by
  unfold powX
  by_cases h : n < 0
  · rw [if_pos h]
    have e : n = -((n.natAbs : Nat) : Int) := by omega
    conv => rhs; rw [e]
    rw [Rat.zpow_neg, Rat.zpow_natCast]
    generalize n.natAbs = k
    induction k with
    | zero => rw [Rat.pow_zero, Rat.pow_zero]; exact (Rat.inv_eq_of_mul_eq_one (Rat.mul_one 1)).symm
    | succ k ih => rw [Rat.pow_succ, Rat.pow_succ, ih, Rat.inv_mul_rev, Rat.mul_comm]
  · rw [if_neg h]
    have e : n = ((n.natAbs : Nat) : Int) := by omega
    conv => rhs; rw [e]
    rw [Rat.zpow_natCast]
theorem RV.at_ {I : Hp} {v : Value} {rs : List RV} (h : Slc I 3 v (rcs rs)) {i : Nat} {r : RV} (hr : rs[i]? = some r) : ∀ k y, ([.bool (decide (r.q.num < 0)), r.vn, r.vd] : List Value)[k]? = some y → I.cell? ⟨slcB v, slcO v + i * 3 + k, none⟩ = some y :=
  h.cells i _ (by unfold rcs; rw [List.getElem?_map, hr]; rfl)
end Go.Tw
namespace Go.Proofs.YtfcmhcaggdakbaaGreatDoor
open Go Go.Tw
def bgGo (all : List NodeC) : List LetC → Int → Option Int
  | [], fr => some fr
  | l :: ls, fr => if nameZ l.name = true ∧ fr ≤ l.root ∧ l.root < all.length ∧ begZ all fr all.length l.root = fr then bgGo all ls (l.root + 1) else none
theorem bgGo_ex (all : List NodeC) : ∀ (l : List (ByteArray × Ex)) (b : Nat), LetsOk l → (∀ j c, (laid l b).2[j]? = some c → all[b + j]? = some c) → b + (laid l b).2.length ≤ all.length → bgGo all (laid l b).1 b = some ((b + (laid l b).2.length : Nat) : Int)
  | [], b, _, _, _ => by simp [bgGo, laid]
  | (s, x) :: l, b, h, hat, hle => by
    obtain ⟨h1, h2⟩ := h _ List.mem_cons_self
    have hn := x.n_pos
    have hln : (x.nd b ++ (laid l (b + x.n)).2).length = x.n + (laid l (b + x.n)).2.length := by rw [List.length_append, x.nd_len]
    change b + (x.nd b ++ (laid l (b + x.n)).2).length ≤ _ at hle
    have hA : At all b x := fun j c hj => hat j c (by
      show (x.nd b ++ (laid l (b + x.n)).2)[j]? = some c
      rw [List.getElem?_append_left (List.getElem?_eq_some_iff.1 hj).1]; exact hj)
    have hB := begZ_ex (fr := (b : Int)) (by omega) x b all.length h2 hA (Int.le_refl _) (by omega)
    show bgGo all (⟨s, (b : Int) + x.n - 1⟩ :: (laid l (b + x.n)).1) b = _
    unfold bgGo
    rw [if_pos ⟨h1, by dsimp only; omega, by dsimp only; omega, hB⟩]
    have e : ((b : Int) + x.n - 1 + 1) = ((b + x.n : Nat) : Int) := by omega
    dsimp only
    rw [e, bgGo_ex all l (b + x.n) (fun a ha => h a (List.mem_cons_of_mem _ ha)) (fun j c hj => by
      have := hat (x.n + j) c (by
        show (x.nd b ++ (laid l (b + x.n)).2)[x.n + j]? = some c
        rw [List.getElem?_append_right (by rw [x.nd_len]; omega), x.nd_len, Nat.add_sub_cancel_left]; exact hj)
      rw [Nat.add_assoc]; exact this) (by omega)]
    show some _ = some (((b + (x.nd b ++ (laid l (b + x.n)).2).length : Nat)) : Int)
    rw [hln]
    congr 2
    omega
def awX : ByteArray := ⟨#[120]⟩
def awA : ByteArray := ⟨#[97]⟩
theorem nameZ_X : nameZ awX = true := by kernel_rfl
theorem nameZ_A : nameZ awA = true := by kernel_rfl
theorem isT_no {x : Tok} {k : Int} {t : ByteArray} (h : x.kind ≠ k) : isT x k t = false := by simp [isT, h]
theorem ints_any (va vb : Value) (l : List Nat) {I : Hp} (ha : Slc I 1 va (nss l)) (hb : Slc I 1 vb (nss l)) : Fun Tryz.prog 36 [va, vb] I [] (fun v _ _ => v = .bool true) := by
  have hl := nss_len l
  have hmx := ha.most
  rw [hl] at hmx
  unfold maxLen at hmx
  intro w hw
  refine enter2 _ Tryz.func36 rfl Tryz.ntmps36 rfl ?_ hw;refine sR ?_;refine oV ?_;refine nU ?_;refine oV ?_;refine o_lenSlc trivial rfl Tryz.underlying52 rfl (ha) ?_;refine oV ?_;refine o_lenSlc trivial rfl Tryz.underlying52 rfl (hb) ?_;refine oV ?_;refine nT ?_;refine cC rfl (fun h1 => ?_) (fun h1 => ?_)
  ·
   have f1 := h1;try simp only [bl] at f1
   exfalso; simp at h1
  have f1 := h1;try simp only [bl] at f1
  refine cK (tC (cS (sR ?_)));refine oV ?_;refine oN (tC (cB ?_));refine c_loop (ι := Nat) [0, 1] (.cons rfl (.cons rfl .nil)) (fun x => l.length - x) (fun x E0 => (5, .int .i64 (x : Int)) :: E0) (fun x => St w [] I []) (fun x => x ≤ l.length) (0) (sC rfl (sC rfl (sC rfl sN))) (fun _ h => h) (Nat.zero_le _) ?_;rintro i hi
  try dsimp only
  refine cS (sR ?_);iterate 2 refine oV ?_
  refine o_lenSlc trivial rfl Tryz.underlying52 rfl (ha) ?_;refine oV ?_;refine nT ?_;refine cC rfl (fun h2 => ?_) (fun h2 => ?_)
  ·
   have f2 := h2;try simp only [bl] at f2
   obtain ⟨s, hs⟩ : ∃ s, l[i]? = some s := ⟨l[i]'(by omega), List.getElem?_eq_getElem (by omega)⟩
   refine cK (tC (cS (cB (cS ?_))));refine c_quiet (by kernel_rfl) (by kernel_rfl) (fun _ h => h.drawn) ?_;iterate 2 refine oV ?_
   refine o_elem trivial rfl Tryz.underlying52 Tryz.sizeOf3 rfl (ha) rfl (by omega) ?_;refine o_load1I trivial rfl Tryz.isAgg3 rfl (nss_at ha hs) ?_;iterate 2 refine oV ?_
   refine o_elem trivial rfl Tryz.underlying52 Tryz.sizeOf3 rfl (hb) rfl (by omega) ?_;refine o_load1I trivial rfl Tryz.isAgg3 rfl (nss_at hb hs) ?_;refine oV ?_;refine nT ?_;refine cC rfl (fun h3 => ?_) (fun h3 => ?_)
   ·
    have f3 := h3;try simp only [bl] at f3
    exfalso; simp at h3
   have f3 := h3;try simp only [bl] at f3
   refine cK (blk_n (tC (cR ?_)));refine oV ?_
   (refine o_add trivial rfl rfl rfl ?_ ?_; (omega))
   refine oV ?_;refine oN ?_;exact again (i + 1) (sC rfl (sC rfl (sC rfl sN))) (fun _ h => h) (by show l.length - (i + 1) < l.length - i; omega) (by show i + 1 ≤ _; omega)
  have f2 := h2;try simp only [bl] at f2
  refine c_exit (then_x (then_x (blk_eq rfl (tC (sR ?_)))));refine oV ?_;refine nE ?_;refine ret1 rfl rfl ?_;exact leaf0 rfl
theorem bgGo_cons (all : List NodeC) (l : LetC) (ls : List LetC) (fr : Int) : bgGo all (l :: ls) fr = if nameZ l.name = true ∧ fr ≤ l.root ∧ l.root < all.length ∧ begZ all fr all.length l.root = fr then bgGo all ls (l.root + 1) else none := rfl
def hasK (s : ByteArray) (K : KN) : Bool := (getK s K).isSome
def insZ : List ByteArray → Nat → KN → ByteArray × Int × KN
  | [], _, K => (⟨#[]⟩, 0, K)
  | s :: l, i, K => if hasK s K = true then (s, 7, K) else insZ l (i + 1) (K ++ [(s, ⟨false, (i : Nat)⟩)])
def nodesZ (K : KN) : List NodeC → List ByteArray → Option ByteArray × List ByteArray
  | [], L => (none, L)
  | c :: r, L => if c.kind ≠ 0 then nodesZ K r L else if hasK c.name K = true then nodesZ K r (L ++ [c.name]) else (some c.name, L)
def segZ (all : List NodeC) (fr hi : Int) : List NodeC := (all.take hi.toNat).drop fr.toNat
def letsZ (all : List NodeC) : List LetC → Nat → Int → KN → List ByteArray → ByteArray × Int × KN × List ByteArray
  | [], _, _, K, L => (⟨#[]⟩, 0, K, L)
  | l :: ls, i, fr, K, L => match nodesZ K (segZ all fr (l.root + 1)) L with
    | (some n, L') => (n, 6, K, L')
    | (none, L') => if hasK l.name K = true then (l.name, 7, K, L') else letsZ all ls (i + 1) (l.root + 1) (K ++ [(l.name, ⟨true, (i : Nat)⟩)]) L'
def ousZ (K : KN) : List ByteArray → List ByteArray → ByteArray × Int × List ByteArray
  | [], L => (⟨#[]⟩, 0, L)
  | s :: r, L => if hasK s K = true then ousZ K r (L ++ [s]) else (s, 6, L)
structure SR where
  name : ByteArray
  err : Int
  K : KN
  L : List ByteArray
def readZ (p : ProgC) : SR :=
  if (tZ p).isSome = true then
    if (insZ p.ins 0 []).2.1 ≠ 0 then ⟨(insZ p.ins 0 []).1, (insZ p.ins 0 []).2.1, (insZ p.ins 0 []).2.2, []⟩
    else if (letsZ p.all p.lets 0 0 (insZ p.ins 0 []).2.2 []).2.1 ≠ 0 then ⟨(letsZ p.all p.lets 0 0 (insZ p.ins 0 []).2.2 []).1, (letsZ p.all p.lets 0 0 (insZ p.ins 0 []).2.2 []).2.1, (letsZ p.all p.lets 0 0 (insZ p.ins 0 []).2.2 []).2.2.1, (letsZ p.all p.lets 0 0 (insZ p.ins 0 []).2.2 []).2.2.2⟩
    else ⟨(ousZ (letsZ p.all p.lets 0 0 (insZ p.ins 0 []).2.2 []).2.2.1 p.outs (letsZ p.all p.lets 0 0 (insZ p.ins 0 []).2.2 []).2.2.2).1, (ousZ (letsZ p.all p.lets 0 0 (insZ p.ins 0 []).2.2 []).2.2.1 p.outs (letsZ p.all p.lets 0 0 (insZ p.ins 0 []).2.2 []).2.2.2).2.1, (letsZ p.all p.lets 0 0 (insZ p.ins 0 []).2.2 []).2.2.1, (ousZ (letsZ p.all p.lets 0 0 (insZ p.ins 0 []).2.2 []).2.2.1 p.outs (letsZ p.all p.lets 0 0 (insZ p.ins 0 []).2.2 []).2.2.2).2.2⟩
  else ⟨⟨#[]⟩, 1, [], []⟩
def tbI (b bk bu : Nat) : Tw.Item := .box b (.cells [.map (some bk), .map (some bu)].toArray 83 (0, 0))
def knI (bk : Nat) (K : KN) : Tw.Item := .box bk (knO K)
def usI (bu : Nat) (L : List ByteArray) : Tw.Item := .box bu (usO L)
def putN (s : ByteArray) (p : PL) (K : KN) : KN := if hasK s K = true then K else K ++ [(s, p)]
theorem add_any (b bk bu : Nat) (K : KN) (s : ByteArray) (p : PL) {I : Hp} : Fun Tryz.prog 113 [.pointer (some ⟨b, 0, none⟩), .string s, .agg #[.bool p.l, .int .i64 p.i]] I [tbI b bk bu, knI bk K]
    (fun v I' B' => I = I' ∧ v = .int .i64 (if hasK s K = true then 7 else 0) ∧ B' = [tbI b bk bu, knI bk (putN s p K)]) := by
  unfold tbI knI
  intro w hw
  refine enter3 _ Tryz.func113 rfl Tryz.ntmps113 rfl ?_ hw;refine sR ?_;refine o_box trivial rfl rfl rfl (fun b5 => ?_);refine oV ?_;refine nU ?_;iterate 2 refine oV ?_
  refine oF 0 Tryz.underlying83 Tryz.sizeOf80 ?_;refine oL Tryz.isAgg80 ?_;refine oV ?_;refine o_lookK trivial rfl Tryz.underlying80 Tryz.underlying9 Tryz.zeroValue78 rfl rfl (by repeat constructor) ?_;iterate 3 refine oV ?_
  refine o_alloc trivial rfl Tryz.zeroValue78 rfl (fun b7 => ?_);refine oS Tryz.sizeOf78 ?_;refine oV ?_;refine nS ?_;refine oV ?_;refine nT ?_;refine cC rfl (fun h1 => ?_) (fun h1 => ?_)
  ·
   have f1 := h1;try simp only [bl] at f1
   have hh : hasK s K = true := h1
   refine sR ?_;refine oV ?_;refine nF ?_;refine ret1 rfl rfl ?_;exact fun w' hw' => ⟨I, [tbI b bk bu, knI bk K], hw'.sort (by repeat constructor), Ext.refl _ _, rfl, by rw [if_pos hh], by unfold putN; rw [if_pos hh]; rfl⟩
  have f1 := h1;try simp only [bl] at f1
  have hh : hasK s K = false := h1
  refine cK (tC (cS ?_));refine h_beginB (m := 7) [.box b5 _] (by repeat constructor) (by kernel_rfl) rfl ?_;refine qT (i := 0) (qB 7 1) (Hp.Le.refl _) rfl rfl (oV qF) ?_;refine qT (i := 1) (qB 7 3) (Hp.Le.refl _) rfl rfl (oV qF) ?_;refine qT (i := 2) (qB 7 7) (Hp.Le.refl _) rfl rfl (oF 0 Tryz.underlying83 Tryz.sizeOf80 qF) ?_;refine qT (i := 4) (qB 7 23) (Hp.Le.refl _) rfl rfl (oV qF) ?_;refine qT (i := 5) (qB 7 55) (Hp.Le.refl _) rfl rfl (oA Tryz.isAgg78 Tryz.sizeOf78 qF) ?_;refine qO (i := 3) (qB 7 63) rfl ?_;refine oL Tryz.isAgg80 ?_;refine qM (Hp.Le.refl _) ?_;refine qO (i := 6) (qB 7 127) rfl ?_;refine o_putK (hh) trivial Tryz.underlying80 Tryz.underlying9 rfl rfl rfl (by repeat constructor) ?_;refine qM (Hp.Le.refl _) ?_;refine h_end (by kernel_rfl) ?_;refine tC (sR ?_);refine oV ?_;refine nE ?_;refine ret1 rfl rfl ?_;exact fun w' hw' => ⟨I, [tbI b bk bu, knI bk (K ++ [(s, p)])], hw'.sort (by repeat constructor), Ext.refl _ _, rfl, by rw [hh]; rfl, by unfold putN; rw [hh]; rfl⟩
def useL (s : ByteArray) (K : KN) (L : List ByteArray) : List ByteArray := if hasK s K = true then L ++ [s] else L
theorem use_any (b bk bu : Nat) (K : KN) (L : List ByteArray) (s : ByteArray) {I : Hp} (hL : L.length ≤ 1000000) : Fun Tryz.prog 74 [.pointer (some ⟨b, 0, none⟩), .string s] I [tbI b bk bu, knI bk K, usI bu L]
    (fun v I' B' => I = I' ∧ v = .int .i64 (if hasK s K = true then 0 else 6) ∧ B' = [tbI b bk bu, knI bk K, usI bu (useL s K L)]) := by
  have hcl := cnt_le s L
  unfold tbI knI usI
  intro w hw
  refine enter2 _ Tryz.func74 rfl Tryz.ntmps74 rfl ?_ hw;refine sR ?_;refine oV ?_;refine nU ?_;iterate 2 refine oV ?_
  refine oF 0 Tryz.underlying83 Tryz.sizeOf80 ?_;refine oL Tryz.isAgg80 ?_;refine oV ?_;refine o_lookK trivial rfl Tryz.underlying80 Tryz.underlying9 Tryz.zeroValue78 rfl rfl (by repeat constructor) ?_;iterate 3 refine oV ?_
  refine o_alloc trivial rfl Tryz.zeroValue78 rfl (fun b5 => ?_);refine oS Tryz.sizeOf78 ?_;refine oV ?_;refine nS ?_;iterate 2 refine oV ?_
  refine nT ?_;refine cC rfl (fun h1 => ?_) (fun h1 => ?_)
  ·
   have f1 := h1;try simp only [bl] at f1
   have hh : hasK s K = false := by
     unfold hasK
     cases e : (getK s K).isSome with
     | false => rfl
     | true => rw [e] at h1; cases h1
   refine sR ?_;refine oV ?_;refine nF ?_;refine ret1 rfl rfl ?_;exact fun w' hw' => ⟨I, [tbI b bk bu, knI bk K, usI bu L], hw'.sort (by repeat constructor), Ext.refl _ _, rfl, by rw [hh]; rfl, by unfold useL; rw [hh]; rfl⟩
  have f1 := h1;try simp only [bl] at f1
  have hh : hasK s K = true := by
    unfold hasK
    cases e : (getK s K).isSome with
    | true => rfl
    | false => rw [e] at h1; cases h1
  refine kS ?_;iterate 2 refine oV ?_
  refine oF 1 Tryz.underlying83 Tryz.sizeOf81 ?_;refine oL Tryz.isAgg81 ?_;refine oV ?_;refine o_lookU trivial rfl Tryz.underlying81 Tryz.underlying9 Tryz.zeroValue3 rfl rfl (by repeat constructor) ?_
  (refine o_add trivial rfl rfl rfl ?_ ?_; (omega))
  refine o_putU trivial Tryz.underlying81 Tryz.underlying9 rfl rfl rfl (by repeat constructor) ?_;refine nS ?_;refine oV ?_;refine nE ?_;refine ret1 rfl rfl ?_;exact fun w' hw' => ⟨I, [tbI b bk bu, knI bk K, usI bu (L ++ [s])], hw'.sort (by repeat constructor), Ext.refl _ _, rfl, by rw [if_pos hh], by unfold useL; rw [if_pos hh]; rfl⟩
theorem insZ_step {l : List ByteArray} {i : Nat} {s : ByteArray} (h : l[i]? = some s) (K : KN) : insZ (l.drop i) i K = if hasK s K = true then (s, 7, K) else insZ (l.drop (i + 1)) (i + 1) (K ++ [(s, ⟨false, (i : Nat)⟩)]) := by
  obtain ⟨h1, h2⟩ := List.getElem?_eq_some_iff.1 h
  rw [List.drop_eq_getElem_cons h1, h2]
  rfl
theorem ins_any (b bk bu : Nat) (K : KN) (v : Value) (l : List ByteArray) {I : Hp} (h : Slc I 1 v (scs l)) : Fun Tryz.prog 72 [.pointer (some ⟨b, 0, none⟩), v] I [tbI b bk bu, knI bk K]
    (fun v I' B' => I = I' ∧ v = .tuple #[.string (insZ l 0 K).1, .int .i64 (insZ l 0 K).2.1] ∧ B' = [tbI b bk bu, knI bk (insZ l 0 K).2.2]) := by
  have hl := scs_len l
  have hmx := h.most
  rw [hl] at hmx
  unfold maxLen at hmx
  intro w hw
  refine enter2 _ Tryz.func72 rfl Tryz.ntmps72 rfl ?_ hw;refine sR ?_;iterate 2 refine oV ?_
  refine nU ?_;refine oV ?_;refine o_lenSlc trivial rfl Tryz.underlying22 rfl (h) ?_;refine oV ?_;refine oN (tC (cB ?_));refine c_loop (ι := Nat × KN) [0, 9, 10] (.cons rfl (.cons rfl (.cons rfl .nil))) (fun x => l.length - x.1) (fun x E0 => (11, .int .i64 (x.1 : Nat)) :: E0) (fun x => St w (keysOf [tbI b bk bu, knI bk K]) I [tbI b bk bu, knI bk x.2]) (fun x => x.1 ≤ l.length ∧ insZ l 0 K = insZ (l.drop x.1) x.1 x.2) ((0, K)) (sC rfl (sC rfl (sC rfl (sC rfl sN)))) (fun _ h => h) (⟨Nat.zero_le _, rfl⟩) ?_;rintro ⟨i, K1⟩ ⟨hi, hF⟩
  try dsimp only
  simp only at hi hF
  refine sR ?_;refine oV ?_;refine oN (tC (cS ?_));refine cC rfl (fun h1 => ?_) (fun h1 => ?_)
  ·
   have f1 := h1;try simp only [bl] at f1
   obtain ⟨s, hs⟩ : ∃ s, l[i]? = some s := ⟨l[i]'(by omega), List.getElem?_eq_getElem (by omega)⟩
   rw [insZ_step hs] at hF
   refine cK (tC (cS (cB (sR ?_))));refine oV ?_;refine o_elem trivial rfl Tryz.underlying22 Tryz.sizeOf9 rfl (h) rfl (by omega) ?_;refine o_load1I trivial rfl Tryz.isAgg9 rfl (scs_at h hs) ?_;iterate 2 refine oV ?_
   refine nS ?_;iterate 3 refine oV ?_
   refine o_buildS trivial rfl (bld78) rfl (.cons rfl rfl rfl (by repeat constructor) .nil) ?_;refine oC trivial rfl Tryz.call113 rfl (add_any b bk bu K1 s ⟨false, (i : Nat)⟩) (by repeat constructor) ?_;rintro _ _ _ hxa ⟨rfl, rfl, rfl⟩;refine oV ?_;refine nS ?_;iterate 2 refine oV ?_
   refine nT ?_;refine cC rfl (fun h2 => ?_) (fun h2 => ?_)
   ·
    have f2 := h2;try simp only [bl] at f2
    have hh : hasK s K1 = true := by
      cases e : hasK s K1 with
      | true => rfl
      | false => rw [e] at h2; simp at h2
    rw [if_pos hh] at hF
    refine sR ?_;iterate 4 refine oV ?_
    refine oN (tC (cT (blk_r (tR (tR (blk_r (tR ?_)))))));refine ret2 rfl rfl rfl ?_;exact fun w' hw' => ⟨I, [tbI b bk bu, knI bk K1], (by unfold putN at hw'; rw [if_pos hh] at hw'; exact hw'.sort (by repeat constructor)), Ext.refl _ _, rfl, by rw [hF, if_pos hh], by rw [hF]⟩
   have f2 := h2;try simp only [bl] at f2
   have hh : hasK s K1 = false := by
     cases e : hasK s K1 with
     | false => rfl
     | true => rw [e] at h2; simp at h2
   rw [hh, if_neg (by decide)] at hF
   refine cK (blk_n (tC (cR ?_)))
   (refine o_add trivial rfl rfl rfl ?_ ?_; (omega))
   refine oV ?_;refine oN ?_;exact again (i + 1, K1 ++ [(s, ⟨false, (i : Nat)⟩)]) (sC rfl (sC rfl (sC rfl (sC rfl sN)))) (fun _ h => by unfold putN at h; rw [hh] at h; exact h.sort (by repeat constructor)) (by show l.length - (i + 1) < l.length - i; omega) ⟨by show i + 1 ≤ _; omega, hF⟩
  have f1 := h1;try simp only [bl] at f1
  have hin : l.drop i = [] := List.drop_of_length_le (by omega)
  rw [hin] at hF
  refine c_exit (then_x (then_x (blk_eq rfl (tC (sR ?_)))));iterate 2 refine oV ?_
  refine nE ?_;refine ret2 rfl rfl rfl ?_;exact fun w' hw' => ⟨I, [tbI b bk bu, knI bk K1], hw'.sort (by repeat constructor), Ext.refl _ _, rfl, by rw [hF]; rfl, by rw [hF]; rfl⟩
theorem nodesZ_step {seg : List NodeV} {j : Nat} {o : NodeV} (h : seg[j]? = some o) (K : KN) (L : List ByteArray) : nodesZ K ((seg.drop j).map NodeV.c) L = if o.c.kind ≠ 0 then nodesZ K ((seg.drop (j + 1)).map NodeV.c) L else if hasK o.c.name K = true then nodesZ K ((seg.drop (j + 1)).map NodeV.c) (L ++ [o.c.name]) else (some o.c.name, L) := by
  obtain ⟨h1, h2⟩ := List.getElem?_eq_some_iff.1 h
  rw [List.drop_eq_getElem_cons h1, h2]
  rfl
theorem letsZ_step {ls : List LetC} {i : Nat} {c : LetC} (h : ls[i]? = some c) (all : List NodeC) (fr : Int) (K : KN) (L : List ByteArray) : letsZ all (ls.drop i) i fr K L = match nodesZ K (segZ all fr (c.root + 1)) L with
    | (some n, L') => (n, 6, K, L')
    | (none, L') => if hasK c.name K = true then (c.name, 7, K, L') else letsZ all (ls.drop (i + 1)) (i + 1) (c.root + 1) (K ++ [(c.name, ⟨true, (i : Nat)⟩)]) L' := by
  obtain ⟨h1, h2⟩ := List.getElem?_eq_some_iff.1 h
  rw [List.drop_eq_getElem_cons h1, h2]
  rfl
theorem lets_any (b bk bu : Nat) (K : KN) (L : List ByteArray) (vi vl vo va : Value) (p : ProgC) (ns : List NodeV) {I : Hp} (hp : ProgV I vi vl vo va p ns) (hgo : bgGo p.all p.lets 0 = some (p.all.length : Int)) (hn : p.all.length ≤ 1000) (hL : L.length ≤ 1000) :
    Fun Tryz.prog 73 [.pointer (some ⟨b, 0, none⟩), .agg #[vi, vl, vo, va]] I [tbI b bk bu, knI bk K, usI bu L]
    (fun v I' B' => I = I' ∧ v = .tuple #[.string (letsZ p.all p.lets 0 0 K L).1, .int .i64 (letsZ p.all p.lets 0 0 K L).2.1] ∧ B' = [tbI b bk bu, knI bk (letsZ p.all p.lets 0 0 K L).2.2.1, usI bu (letsZ p.all p.lets 0 0 K L).2.2.2]) := by
  have hsi := hp.si
  have hsl := hp.sl
  have hso := hp.so
  have hsa := hp.sa
  have hll : (p.lets.map LetC.cells).length = p.lets.length := List.length_map _
  have hla := nds_len ns
  have hal : p.all.length = ns.length := by rw [← hp.eq, List.length_map]
  have hmx := hsl.most
  rw [hll] at hmx
  unfold maxLen at hmx
  intro w hw
  refine enter2 _ Tryz.func73 rfl Tryz.ntmps73 rfl ?_ hw;refine sR ?_;refine o_box trivial rfl rfl rfl (fun b3 => ?_);iterate 2 refine oV ?_
  refine nS ?_;refine oV ?_;refine nU ?_;refine oF 1 Tryz.underlying26 Tryz.sizeOf23 ?_;refine oL Tryz.isAgg23 ?_;refine o_lenSlc trivial rfl Tryz.underlying23 rfl (hsl) ?_;refine oV ?_;refine oN (tC (cB ?_));refine c_loop (ι := Nat × Int × KN × List ByteArray) [0, 3, 14, 15] (.cons rfl (.cons rfl (.cons rfl (.cons rfl .nil)))) (fun x => p.lets.length - x.1) (fun x E0 => (6, .int .i64 x.2.1) :: (16, .int .i64 (x.1 : Nat)) :: E0) (fun x => St w (keysOf [tbI b bk bu, knI bk K, usI bu L]) I [tbI b bk bu, knI bk x.2.2.1, usI bu x.2.2.2, .box b3 (.cells #[vi, vl, vo, va] 26 (0, 0))]) (fun x => x.1 ≤ p.lets.length ∧ 0 ≤ x.2.1 ∧ x.2.1 ≤ ns.length ∧ bgGo p.all (p.lets.drop x.1) x.2.1 = some (p.all.length : Int) ∧ letsZ p.all p.lets 0 0 K L = letsZ p.all (p.lets.drop x.1) x.1 x.2.1 x.2.2.1 x.2.2.2 ∧ (x.2.2.2.length : Int) ≤ 1000 + x.2.1) ((0, 0, K, L)) (sC rfl (sC rfl (sC rfl (sC rfl (sC rfl (sC rfl sN)))))) (fun _ h => h.sort (by repeat constructor)) (⟨Nat.zero_le _, Int.le_refl _, by show (0 : Int) ≤ ns.length; omega, hgo, rfl, by show (L.length : Int) ≤ 1000 + 0; omega⟩) ?_;rintro ⟨i, fr, K1, L1⟩ ⟨hi, hfr0, hfr1, hg, hF, hL1⟩
  try dsimp only
  simp only at hi hfr0 hfr1 hg hF hL1
  refine sR ?_;refine oV ?_;refine oN (tC (cS ?_));refine cC rfl (fun h1 => ?_) (fun h1 => ?_)
  ·
   have f1 := h1;try simp only [bl] at f1
   obtain ⟨c, hc⟩ : ∃ c, p.lets[i]? = some c := ⟨p.lets[i]'(by omega), List.getElem?_eq_getElem (by omega)⟩
   have hdr : p.lets.drop i = c :: p.lets.drop (i + 1) := by rw [List.drop_eq_getElem_cons (List.getElem?_eq_some_iff.1 hc).1, (List.getElem?_eq_some_iff.1 hc).2]
   rw [letsZ_step hc] at hF
   rw [hdr, bgGo_cons] at hg
   by_cases hcd : nameZ c.name = true ∧ fr ≤ c.root ∧ c.root < p.all.length ∧ begZ p.all fr p.all.length c.root = fr
   case' neg => rw [if_neg hcd] at hg; cases hg
   rw [if_pos hcd] at hg
   obtain ⟨_, c2, c3, _⟩ := hcd
   obtain ⟨seg, hseg⟩ : ∃ seg, seg = (ns.take (c.root + 1).toNat).drop fr.toNat := ⟨_, rfl⟩
   have hsegl : (seg.length : Int) = c.root + 1 - fr := by rw [hseg, List.length_drop, List.length_take]; omega
   have hcut : Slc I 8 (slcCut va fr.toNat (c.root + 1).toNat 8) (nds seg) := by
     have h9 := hsa.cut (lo := fr.toNat) (hi := (c.root + 1).toNat) (by omega) (by omega)
     have e9 : nds seg = ((nds ns).take (c.root + 1).toNat).drop fr.toNat := by rw [hseg]; unfold nds; rw [List.map_drop, List.map_take]
     rw [e9]; exact h9
   have hsc : segZ p.all fr (c.root + 1) = seg.map NodeV.c := by rw [hseg, ← hp.eq]; unfold segZ; rw [List.map_drop, List.map_take]
   have hsok : ∀ o ∈ seg, o.ok I := fun o ho => hp.ok o (by rw [hseg] at ho; exact List.mem_of_mem_take (List.mem_of_mem_drop ho))
   rw [hsc] at hF
   have hnl := nds_len seg
   refine cK (tC (cS (cB (sR ?_))));refine oV ?_;refine o_elem trivial rfl Tryz.underlying23 Tryz.sizeOf39 rfl (hsl) rfl (by omega) ?_;refine o_loadAI trivial rfl Tryz.isAgg39 Tryz.sizeOf39 rfl rfl (lts_at hsl hc) ?_;refine o_alloc trivial rfl Tryz.zeroValue39 rfl (fun b8 => ?_);refine oV ?_;refine oS Tryz.sizeOf39 ?_;refine nU ?_;refine oF 3 Tryz.underlying26 Tryz.sizeOf24 ?_;refine oL Tryz.isAgg24 ?_;refine oV ?_;refine oF 1 Tryz.underlying39 Tryz.sizeOf3 ?_;refine oL Tryz.isAgg3 ?_
   (refine o_add trivial rfl rfl rfl ?_ ?_; (omega))
   refine o_cutMid trivial rfl Tryz.underlying24 Tryz.sizeOf37 rfl (hsa) rfl rfl (by omega) ?_;refine o_lenSlc trivial rfl Tryz.underlying24 rfl (hcut) ?_;refine oV ?_;refine oN (tC (cB ?_));refine c_loop (ι := Nat × List ByteArray) [0, 3, 7, 8, 14, 15, 16, 27, 28] (.cons rfl (.cons rfl (.cons rfl (.cons rfl (.cons rfl (.cons rfl (.cons rfl (.cons rfl (.cons rfl .nil))))))))) (fun x => seg.length - x.1) (fun x E0 => (29, .int .i64 (x.1 : Nat)) :: E0) (fun x => St w (keysOf [tbI b bk bu, knI bk K, usI bu L]) I [tbI b bk bu, knI bk K1, usI bu x.2, .box b8 (.cells #[.string c.name, .int .i64 c.root] 39 (0, 0)), .box b3 (.cells #[vi, vl, vo, va] 26 (0, 0))]) (fun x => x.1 ≤ seg.length ∧ nodesZ K1 (seg.map NodeV.c) L1 = nodesZ K1 ((seg.drop x.1).map NodeV.c) x.2 ∧ x.2.length ≤ L1.length + x.1) ((0, L1)) (sC rfl (sC rfl (sC rfl (sC rfl (sC rfl (sC rfl (sC rfl (sC rfl (sC rfl (sC rfl sN)))))))))) (fun _ h => h.sort (by repeat constructor)) (⟨Nat.zero_le _, rfl, Nat.le_refl _⟩) ?_;rintro ⟨j, L2⟩ ⟨hj, hF2, hL2⟩
   try dsimp only
   simp only at hj hF2 hL2
   refine sR ?_;refine oV ?_;refine oN (tC (cS ?_));refine cC rfl (fun h2 => ?_) (fun h2 => ?_)
   ·
    have f2 := h2;try simp only [bl] at f2
    obtain ⟨o, ho⟩ : ∃ o, seg[j]? = some o := ⟨seg[j]'(by omega), List.getElem?_eq_getElem (by omega)⟩
    have hom := List.mem_of_getElem? ho
    have hw1 : Ws I o.vn o.c.n := (hsok o hom).1
    have hw2 : Ws I o.vd o.c.d := (hsok o hom).2
    rw [nodesZ_step ho] at hF2
    refine cK (tC (cS (cB (sR ?_))));refine o_elem trivial rfl Tryz.underlying24 Tryz.sizeOf37 rfl (hcut) rfl (by omega) ?_;refine o_loadAI trivial rfl Tryz.isAgg37 Tryz.sizeOf37 rfl rfl (nds_at hcut ho) ?_;refine o_alloc trivial rfl Tryz.zeroValue37 rfl (fun b10 => ?_);refine oS Tryz.sizeOf37 ?_;refine nU ?_;refine oF 0 Tryz.underlying37 Tryz.sizeOf3 ?_;refine oL Tryz.isAgg3 ?_;refine oV ?_;refine nT ?_;refine cC rfl (fun h3 => ?_) (fun h3 => ?_)
    ·
     have f3 := h3;try simp only [bl] at f3
     have hk0 : o.c.kind ≠ 0 := by simpa using h3
     rw [if_pos hk0] at hF2
     refine c_exit (then_x (blk_eq rfl (tC (cR ?_))))
     (refine o_add trivial rfl rfl rfl ?_ ?_; (omega))
     refine oV ?_;refine oN ?_
     (exact again (j + 1, L2) (sC rfl (sC rfl (sC rfl (sC rfl (sC rfl (sC rfl (sC rfl (sC rfl (sC rfl (sC rfl sN)))))))))) (fun _ h => h.sort (by repeat constructor)) (by show seg.length - (j + 1) < seg.length - j; omega) ⟨by show j + 1 ≤ _; omega, hF2, by show L2.length ≤ L1.length + (j + 1); omega⟩)
    have f3 := h3;try simp only [bl] at f3
    have hk0 : o.c.kind = 0 := by simpa using h3
    rw [if_neg (not_not_intro hk0)] at hF2
    refine kS ?_;refine oV ?_;refine oF 4 Tryz.underlying37 Tryz.sizeOf9 ?_;refine oL Tryz.isAgg9 ?_;refine oC trivial rfl Tryz.call74 rfl (use_any b bk bu K1 L2 o.c.name (by omega)) (by repeat constructor) ?_;rintro _ _ _ hxu ⟨rfl, rfl, rfl⟩;refine oV ?_;refine nS ?_;iterate 2 refine oV ?_
    refine nT ?_;refine cC rfl (fun h4 => ?_) (fun h4 => ?_)
    ·
     have f4 := h4;try simp only [bl] at f4
     have hh : hasK o.c.name K1 = false := by
       cases e : hasK o.c.name K1 with
       | false => rfl
       | true => rw [e] at h4; simp at h4
     rw [hh, if_neg (by decide)] at hF2
     rw [hF2] at hF
     refine sR ?_;refine oF 4 Tryz.underlying37 Tryz.sizeOf9 ?_;refine oL Tryz.isAgg9 ?_;iterate 3 refine oV ?_
     refine oN (tC (cT (blk_r (tR (tR (blk_r (tR (blk_r (tR (tR (blk_r (tR ?_))))))))))));refine ret2 rfl rfl rfl ?_;exact fun w' hw' => ⟨I, [tbI b bk bu, knI bk K1, usI bu L2], (by unfold useL at hw'; rw [hh, if_neg (by decide)] at hw'; exact hw'.sort (by repeat constructor)), Ext.refl _ _, rfl, by rw [hF, hh]; rfl, by rw [hF]⟩
    have f4 := h4;try simp only [bl] at f4
    have hh : hasK o.c.name K1 = true := by
      cases e : hasK o.c.name K1 with
      | true => rfl
      | false => rw [e] at h4; simp at h4
    rw [if_pos hh] at hF2
    refine cK (blk_n (tC (cR ?_)))
    (refine o_add trivial rfl rfl rfl ?_ ?_; (omega))
    refine oV ?_;refine oN ?_
    (exact again (j + 1, L2 ++ [o.c.name]) (sC rfl (sC rfl (sC rfl (sC rfl (sC rfl (sC rfl (sC rfl (sC rfl (sC rfl (sC rfl sN)))))))))) (fun _ h => by unfold useL at h; rw [if_pos hh] at h; exact h.sort (by repeat constructor)) (by show seg.length - (j + 1) < seg.length - j; omega) ⟨by show j + 1 ≤ _; omega, hF2, by show (L2 ++ [o.c.name]).length ≤ L1.length + (j + 1); rw [List.length_append]; show L2.length + 1 ≤ _; omega⟩)
   have f2 := h2;try simp only [bl] at f2
   have hjn : seg.drop j = [] := List.drop_of_length_le (by omega)
   rw [hjn] at hF2
   have hF3 : nodesZ K1 (seg.map NodeV.c) L1 = (none, L2) := hF2
   rw [hF3] at hF
   dsimp only at hF
   refine c_exit (then_x (then_x (blk_eq rfl (tC (sR ?_)))));refine oF 1 Tryz.underlying39 Tryz.sizeOf3 ?_;refine oL Tryz.isAgg3 ?_
   (refine o_add trivial rfl rfl rfl ?_ ?_; (omega))
   refine oV ?_;refine nS ?_;refine oV ?_;refine oF 0 Tryz.underlying39 Tryz.sizeOf9 ?_;refine oL Tryz.isAgg9 ?_;refine oV ?_;refine o_buildS trivial rfl (bld78) rfl (.cons rfl rfl rfl (by repeat constructor) (.cons rfl rfl rfl (by repeat constructor) .nil)) ?_;refine oC trivial rfl Tryz.call113 rfl (add_any b bk bu K1 c.name ⟨true, (i : Nat)⟩) (by repeat constructor) ?_;rintro _ _ _ hxa ⟨rfl, rfl, rfl⟩;refine oV ?_;refine nS ?_;iterate 2 refine oV ?_
   refine nT ?_;refine cC rfl (fun h5 => ?_) (fun h5 => ?_)
   ·
    have f5 := h5;try simp only [bl] at f5
    have hh : hasK c.name K1 = true := by
      cases e : hasK c.name K1 with
      | true => rfl
      | false => rw [e] at h5; simp at h5
    rw [if_pos hh] at hF
    refine sR ?_;refine oF 0 Tryz.underlying39 Tryz.sizeOf9 ?_;refine oL Tryz.isAgg9 ?_;iterate 3 refine oV ?_
    refine oN (tC (cT (blk_r (tR (tR (blk_r (tR ?_)))))));refine ret2 rfl rfl rfl ?_;exact fun w' hw' => ⟨I, [tbI b bk bu, knI bk K1, usI bu L2], (by unfold putN at hw'; rw [if_pos hh] at hw'; exact hw'.sort (by repeat constructor)), Ext.refl _ _, rfl, by rw [hF, if_pos hh], by rw [hF]⟩
   have f5 := h5;try simp only [bl] at f5
   have hh : hasK c.name K1 = false := by
     cases e : hasK c.name K1 with
     | false => rfl
     | true => rw [e] at h5; simp at h5
   rw [hh, if_neg (by decide)] at hF
   refine cK (blk_n (tC (cR ?_)))
   (refine o_add trivial rfl rfl rfl ?_ ?_; (omega))
   refine oV ?_;refine oN ?_;exact again (i + 1, c.root + 1, K1 ++ [(c.name, ⟨true, (i : Nat)⟩)], L2) (sC rfl (sC rfl (sC rfl (sC rfl (sC rfl (sC rfl sN)))))) (fun _ h => by unfold putN at h; rw [hh, if_neg (by decide)] at h; exact h.sort (by repeat constructor)) (by show p.lets.length - (i + 1) < p.lets.length - i; omega) ⟨by show i + 1 ≤ _; omega, by show 0 ≤ c.root + 1; omega, by show c.root + 1 ≤ _; omega, hg, hF, by show (L2.length : Int) ≤ 1000 + (c.root + 1); omega⟩
  have f1 := h1;try simp only [bl] at f1
  have hin : p.lets.drop i = [] := List.drop_of_length_le (by omega)
  rw [hin] at hF
  refine c_exit (then_x (then_x (blk_eq rfl (tC (sR ?_)))));iterate 2 refine oV ?_
  refine nE ?_;refine ret2 rfl rfl rfl ?_;exact fun w' hw' => ⟨I, [tbI b bk bu, knI bk K1, usI bu L1], hw'.sort (by repeat constructor), Ext.refl _ _, rfl, by rw [hF]; rfl, by rw [hF]; rfl⟩
theorem right_bg {p : ProgC} {l : List (ByteArray × Ex)} (hr : RightP p l) : bgGo p.all p.lets 0 = some (p.all.length : Int) := by
  have hg := bgGo_ex p.all l 0 hr.ok (fun j c hj => by rw [hr.all, Nat.zero_add]; exact hj) (by rw [Nat.zero_add, ← hr.all]; exact Nat.le_refl _)
  rw [← hr.lets, ← hr.all, Nat.zero_add] at hg
  exact hg
theorem nodesZ_len (K : KN) : ∀ (r : List NodeC) (L : List ByteArray), (nodesZ K r L).2.length ≤ L.length + r.length
  | [], L => Nat.le_refl _
  | c :: r, L => by
    have h1 := nodesZ_len K r L
    have h2 := nodesZ_len K r (L ++ [c.name])
    rw [List.length_append] at h2
    have h3 : [c.name].length = 1 := rfl
    unfold nodesZ
    rw [List.length_cons]
    split
    · omega
    · split
      · omega
      · show L.length ≤ _; omega
theorem letsZ_len (all : List NodeC) : ∀ (ls : List LetC) (i : Nat) (fr : Int) (K : KN) (L : List ByteArray), (letsZ all ls i fr K L).2.2.2.length ≤ L.length + ls.length * all.length
  | [], i, fr, K, L => by show L.length ≤ _; omega
  | l :: ls, i, fr, K, L => by
    have h1 := nodesZ_len K (segZ all fr (l.root + 1)) L
    have h2 : (segZ all fr (l.root + 1)).length ≤ all.length := by unfold segZ; rw [List.length_drop, List.length_take]; omega
    unfold letsZ
    rw [List.length_cons, Nat.succ_mul]
    cases hn : nodesZ K (segZ all fr (l.root + 1)) L with
    | mk e L' =>
      rw [hn] at h1
      cases e with
      | some n => show L'.length ≤ _; dsimp only at h1; omega
      | none =>
        dsimp only at h1 ⊢
        split
        · show L'.length ≤ _; omega
        · have h3 := letsZ_len all ls (i + 1) (l.root + 1) (K ++ [(l.name, ⟨true, (i : Nat)⟩)]) L'
          omega
theorem ousZ_step {l : List ByteArray} {i : Nat} {s : ByteArray} (h : l[i]? = some s) (K : KN) (L : List ByteArray) : ousZ K (l.drop i) L = if hasK s K = true then ousZ K (l.drop (i + 1)) (L ++ [s]) else (s, 6, L) := by
  obtain ⟨h1, h2⟩ := List.getElem?_eq_some_iff.1 h
  rw [List.drop_eq_getElem_cons h1, h2]
  rfl
theorem readZ_not {p : ProgC} (h : (tZ p).isSome = false) : readZ p = ⟨⟨#[]⟩, 1, [], []⟩ := by unfold readZ; rw [h]; rfl
theorem readZ_ins {p : ProgC} {n : ByteArray} {e : Int} {K : KN} (h : (tZ p).isSome = true) (hi : insZ p.ins 0 [] = (n, e, K)) (he : e ≠ 0) : readZ p = ⟨n, e, K, []⟩ := by unfold readZ; rw [if_pos h, hi, if_pos he]
theorem readZ_lets {p : ProgC} {n m : ByteArray} {e : Int} {K K2 : KN} {L : List ByteArray} (h : (tZ p).isSome = true) (hi : insZ p.ins 0 [] = (n, 0, K)) (hl : letsZ p.all p.lets 0 0 K [] = (m, e, K2, L)) (he : e ≠ 0) : readZ p = ⟨m, e, K2, L⟩ := by
  unfold readZ
  rw [if_pos h, hi, if_neg (by simp), hl, if_pos he]
theorem readZ_outs {p : ProgC} {n m : ByteArray} {K K2 : KN} {L : List ByteArray} (h : (tZ p).isSome = true) (hi : insZ p.ins 0 [] = (n, 0, K)) (hl : letsZ p.all p.lets 0 0 K [] = (m, 0, K2, L)) : readZ p = ⟨(ousZ K2 p.outs L).1, (ousZ K2 p.outs L).2.1, K2, (ousZ K2 p.outs L).2.2⟩ := by
  unfold readZ
  rw [if_pos h, hi, if_neg (by simp), hl, if_neg (by simp)]
theorem scRead_any (vi vl vo va : Value) (p : ProgC) (ns : List NodeV) {I : Hp} (hp : ProgV I vi vl vo va p ns) (hf : ∀ o ∈ ns, o.c.few 2000000) :
    Fun Tryz.prog 41 [.agg #[vi, vl, vo, va]] I [] (fun v I' B' => I = I' ∧ ∃ b bk bu, v = .tuple #[.pointer (some ⟨b, 0, none⟩), .string (readZ p).name, .int .i64 (readZ p).err] ∧ B' = [tbI b bk bu, knI bk (readZ p).K, usI bu (readZ p).L]) := by
  have hsi := hp.si
  have hsl := hp.sl
  have hso := hp.so
  have hsa := hp.sa
  have hlo := scs_len p.outs
  intro w hw
  refine enter1 _ Tryz.func41 rfl Tryz.ntmps41 rfl ?_ hw;refine sR ?_;refine o_box trivial rfl rfl rfl (fun b1 => ?_);iterate 3 refine oV ?_
  refine nS ?_;refine o_makeMap trivial rfl (fun b13 => ?_);refine o_makeMap trivial rfl (fun b14 => ?_);refine o_buildS trivial rfl (bld83) rfl (.cons rfl rfl rfl (by repeat constructor) (.cons rfl rfl rfl (by repeat constructor) .nil)) ?_;refine o_box trivial rfl rfl rfl (fun b16 => ?_);refine oV ?_;refine nU ?_;refine oA Tryz.isAgg26 Tryz.sizeOf26 ?_;refine oQ Tryz.call26 rfl (trRight_any vi vl vo va p ns hp hf) ?_;refine oV ?_;refine nT ?_;refine cC rfl (fun h1 => ?_) (fun h1 => ?_)
  ·
   have f1 := h1;try simp only [bl] at f1
   have ht : (tZ p).isSome = false := by simpa using h1
   refine sR ?_;iterate 4 refine oV ?_
   refine nF ?_;refine ret3 rfl rfl rfl rfl ?_;exact fun w' hw' => ⟨I, [tbI b16 b13 b14, knI b13 [], usI b14 []], hw'.sort (by repeat constructor), Ext.refl _ _, rfl, b16, b13, b14, by rw [readZ_not ht], by rw [readZ_not ht]⟩
  have f1 := h1;try simp only [bl] at f1
  have ht : (tZ p).isSome = true := by
    cases e : (tZ p).isSome with
    | true => rfl
    | false => rw [e] at h1; cases h1
  obtain ⟨l, hl⟩ := tZ_iff.1 ht
  have hgo := right_bg hl
  have hfe := hl.few
  have hlb : p.lets.length ≤ 40 := by rw [hl.lets, laid_lets]; exact hl.few.1
  have hob := hl.outs.2.2
  have hll0 := letsZ_len p.all p.lets 0 0 (insZ p.ins 0 []).2.2 []
  have hmul : p.lets.length * p.all.length ≤ 40 * 400 := Nat.mul_le_mul hlb hfe.2
  refine cK (tC (cS (sR ?_)));refine oV ?_;refine oF 0 Tryz.underlying26 Tryz.sizeOf22 ?_;refine oL Tryz.isAgg22 ?_;refine l_imp (S' := St w [] I [tbI b16 b13 b14, knI b13 [], usI b14 [], .box b1 (.cells #[vi, vl, vo, va] 26 (0, 0))]) (fun _ h => h.sort (by repeat constructor)) ?_;refine oC trivial rfl Tryz.call72 rfl (ins_any b16 b13 b14 [] vi p.ins hsi) (by repeat constructor) ?_;rintro _ _ _ hxi ⟨rfl, rfl, rfl⟩;iterate 5 refine oV ?_
  refine oN (tC (cS ?_))
  generalize hi : insZ p.ins 0 [] = ri at *
  obtain ⟨n1, e1, K1⟩ := ri
  dsimp only at hll0 ⊢
  refine cR ?_;iterate 2 refine oV ?_
  refine nT ?_;refine cC rfl (fun h2 => ?_) (fun h2 => ?_)
  ·
   have f2 := h2;try simp only [bl] at f2
   have he1 : e1 ≠ 0 := by simpa using h2
   refine sR ?_;iterate 6 refine oV ?_
   refine nF ?_;refine ret3 rfl rfl rfl rfl ?_;exact fun w' hw' => ⟨I, [tbI b16 b13 b14, knI b13 K1, usI b14 []], hw'.sort (by repeat constructor), Ext.refl _ _, rfl, b16, b13, b14, by rw [readZ_ins ht hi he1]; rfl, by rw [readZ_ins ht hi he1]⟩
  have f2 := h2;try simp only [bl] at f2
  obtain rfl : e1 = 0 := by simpa using h2
  refine cK (tC (cS (sR ?_)));refine oV ?_;refine oA Tryz.isAgg26 Tryz.sizeOf26 ?_;refine oC trivial rfl Tryz.call73 rfl (lets_any b16 b13 b14 K1 [] vi vl vo va p ns hp hgo (by omega) (Nat.zero_le _)) (by repeat constructor) ?_;rintro _ _ _ hxl ⟨rfl, rfl, rfl⟩;iterate 5 refine oV ?_
  refine oN (tC (cS ?_))
  generalize hz : letsZ p.all p.lets 0 0 K1 [] = rz at *
  obtain ⟨m1, e2, K2, L2⟩ := rz
  dsimp only at hll0 ⊢
  refine cR ?_;iterate 2 refine oV ?_
  refine nT ?_;refine cC rfl (fun h3 => ?_) (fun h3 => ?_)
  ·
   have f3 := h3;try simp only [bl] at f3
   have he2 : e2 ≠ 0 := by simpa using h3
   refine sR ?_;iterate 6 refine oV ?_
   refine nF ?_;refine ret3 rfl rfl rfl rfl ?_;exact fun w' hw' => ⟨I, [tbI b16 b13 b14, knI b13 K2, usI b14 L2], hw'.sort (by repeat constructor), Ext.refl _ _, rfl, b16, b13, b14, by rw [readZ_lets ht hi hz he2]; rfl, by rw [readZ_lets ht hi hz he2]⟩
  have f3 := h3;try simp only [bl] at f3
  obtain rfl : e2 = 0 := by simpa using h3
  have hrz := readZ_outs ht hi hz
  have hl2 : L2.length ≤ 16000 := by
    have h9 : ([] : List ByteArray).length = 0 := rfl
    omega
  refine cK (tC (cS (sR ?_)));refine oF 2 Tryz.underlying26 Tryz.sizeOf22 ?_;refine oL Tryz.isAgg22 ?_;refine o_lenSlc trivial rfl Tryz.underlying22 rfl (hso) ?_;refine oV ?_;refine oN (tC (cB ?_));refine c_loop (ι := Nat × List ByteArray) [5, 45, 46] (.cons rfl (.cons rfl (.cons rfl .nil))) (fun x => p.outs.length - x.1) (fun x E0 => (47, .int .i64 (x.1 : Nat)) :: E0) (fun x => St w [] I [tbI b16 b13 b14, knI b13 K2, usI b14 x.2, .box b1 (.cells #[vi, vl, vo, va] 26 (0, 0))]) (fun x => x.1 ≤ p.outs.length ∧ ousZ K2 p.outs L2 = ousZ K2 (p.outs.drop x.1) x.2 ∧ x.2.length ≤ L2.length + x.1) ((0, L2)) (sC rfl (sC rfl (sC rfl (sC rfl sN)))) (fun _ h => h.sort (by repeat constructor)) (⟨Nat.zero_le _, rfl, Nat.le_refl _⟩) ?_;rintro ⟨i, L3⟩ ⟨hi3, hF, hL3⟩
  try dsimp only
  simp only at hi3 hF hL3
  refine sR ?_;refine oV ?_;refine oN (tC (cS ?_));refine cC rfl (fun h4 => ?_) (fun h4 => ?_)
  ·
   have f4 := h4;try simp only [bl] at f4
   obtain ⟨s, hs⟩ : ∃ s, p.outs[i]? = some s := ⟨p.outs[i]'(by omega), List.getElem?_eq_getElem (by omega)⟩
   rw [ousZ_step hs] at hF
   refine cK (tC (cS (cB (sR ?_))));refine o_elem trivial rfl Tryz.underlying22 Tryz.sizeOf9 rfl (hso) rfl (by omega) ?_;refine o_load1I trivial rfl Tryz.isAgg9 rfl (scs_at hso hs) ?_;refine oV ?_;refine nS ?_;iterate 2 refine oV ?_
   refine oC trivial rfl Tryz.call74 rfl (use_any b16 b13 b14 K2 L3 s (by omega)) (by repeat constructor) ?_;rintro _ _ _ hxu ⟨rfl, rfl, rfl⟩;refine oV ?_;refine nS ?_;iterate 2 refine oV ?_
   refine nT ?_;refine cC rfl (fun h5 => ?_) (fun h5 => ?_)
   ·
    have f5 := h5;try simp only [bl] at f5
    have hh : hasK s K2 = false := by
      cases e : hasK s K2 with
      | false => rfl
      | true => rw [e] at h5; simp at h5
    rw [hh, if_neg (by decide)] at hF
    rw [hF] at hrz
    refine sR ?_;iterate 6 refine oV ?_
    refine oN (tC (cT (blk_r (tR (tR (blk_r (tR ?_)))))));refine ret3 rfl rfl rfl rfl ?_;exact fun w' hw' => ⟨I, [tbI b16 b13 b14, knI b13 K2, usI b14 L3], (by unfold useL at hw'; rw [hh, if_neg (by decide)] at hw'; exact hw'.sort (by repeat constructor)), Ext.refl _ _, rfl, b16, b13, b14, by rw [hrz, hh]; rfl, by rw [hrz]⟩
   have f5 := h5;try simp only [bl] at f5
   have hh : hasK s K2 = true := by
     cases e : hasK s K2 with
     | true => rfl
     | false => rw [e] at h5; simp at h5
   rw [if_pos hh] at hF
   refine cK (blk_n (tC (cR ?_)))
   (refine o_add trivial rfl rfl rfl ?_ ?_; (omega))
   refine oV ?_;refine oN ?_;exact again (i + 1, L3 ++ [s]) (sC rfl (sC rfl (sC rfl (sC rfl sN)))) (fun _ h => by unfold useL at h; rw [if_pos hh] at h; exact h.sort (by repeat constructor)) (by show p.outs.length - (i + 1) < p.outs.length - i; omega) ⟨by show i + 1 ≤ _; omega, hF, by show (L3 ++ [s]).length ≤ L2.length + (i + 1); rw [List.length_append]; show L3.length + 1 ≤ _; omega⟩
  have f4 := h4;try simp only [bl] at f4
  have hin : p.outs.drop i = [] := List.drop_of_length_le (by omega)
  rw [hin] at hF
  have hF2 : ousZ K2 p.outs L2 = (⟨#[]⟩, 0, L3) := hF
  rw [hF2] at hrz
  refine c_exit (then_x (then_x (blk_eq rfl (tC (sR ?_)))));iterate 4 refine oV ?_
  refine nE ?_;refine ret3 rfl rfl rfl rfl ?_;exact fun w' hw' => ⟨I, [tbI b16 b13 b14, knI b13 K2, usI b14 L3], hw'.sort (by repeat constructor), Ext.refl _ _, rfl, b16, b13, b14, by rw [hrz], by rw [hrz]⟩
theorem scCheck_any (vi vl vo va : Value) (p : ProgC) (ns : List NodeV) {I : Hp} (hp : ProgV I vi vl vo va p ns) (hf : ∀ o ∈ ns, o.c.few 2000000) :
    Fun Tryz.prog 17 [.agg #[vi, vl, vo, va]] I [] (fun v _ _ => v = .tuple #[.string (readZ p).name, .int .i64 (readZ p).err]) := by
  have hsi := hp.si
  have hsl := hp.sl
  have hso := hp.so
  have hsa := hp.sa
  intro w hw
  refine enter1 _ Tryz.func17 rfl Tryz.ntmps17 rfl ?_ hw;refine sR ?_;refine o_box trivial rfl rfl rfl (fun b1 => ?_);iterate 2 refine oV ?_
  refine nS ?_;refine oA Tryz.isAgg26 Tryz.sizeOf26 ?_;refine oC trivial rfl Tryz.call41 rfl (scRead_any vi vl vo va p ns hp hf) (by repeat constructor) ?_;rintro _ _ _ hxr ⟨rfl, b, bk, bu, rfl, rfl⟩;iterate 6 refine oV ?_
  refine nS ?_;iterate 4 refine oV ?_
  refine nE ?_;refine ret2 rfl rfl rfl ?_;exact leaf0 rfl
def whereZ (p : ProgC) (s : ByteArray) : Bool × Int × Bool := if (readZ p).err = 0 ∧ hasK s (readZ p).K = true then (((getK s (readZ p).K).getD ⟨false, 0⟩).l, ((getK s (readZ p).K).getD ⟨false, 0⟩).i, true) else (false, 0, false)
theorem scWhere_any (vi vl vo va : Value) (p : ProgC) (ns : List NodeV) (s : ByteArray) {I : Hp} (hp : ProgV I vi vl vo va p ns) (hf : ∀ o ∈ ns, o.c.few 2000000) :
    Fun Tryz.prog 19 [.agg #[vi, vl, vo, va], .string s] I [] (fun v _ _ => v = .tuple #[.bool (whereZ p s).1, .int .i64 (whereZ p s).2.1, .bool (whereZ p s).2.2]) := by
  have hsi := hp.si
  have hsl := hp.sl
  have hso := hp.so
  have hsa := hp.sa
  intro w hw
  refine enter2 _ Tryz.func19 rfl Tryz.ntmps19 rfl ?_ hw;refine sR ?_;refine o_box trivial rfl rfl rfl (fun b2 => ?_);iterate 3 refine oV ?_
  refine nS ?_;refine oA Tryz.isAgg26 Tryz.sizeOf26 ?_;refine oC trivial rfl Tryz.call41 rfl (scRead_any vi vl vo va p ns hp hf) (by repeat constructor) ?_;rintro _ _ _ hxr ⟨rfl, b, bk, bu, rfl, rfl⟩;iterate 7 refine oV ?_
  refine nS ?_;iterate 2 refine oV ?_
  refine oF 0 Tryz.underlying83 Tryz.sizeOf80 ?_;refine oL Tryz.isAgg80 ?_;refine oV ?_;refine o_lookK trivial rfl Tryz.underlying80 Tryz.underlying9 Tryz.zeroValue78 rfl rfl (by repeat constructor) ?_;iterate 3 refine oV ?_
  refine o_alloc trivial rfl Tryz.zeroValue78 rfl (fun b10 => ?_);refine oS Tryz.sizeOf78 ?_;refine oV ?_;refine nU ?_;iterate 2 refine oV ?_
  refine' o_or trivial trivial rfl rfl rfl rfl rfl rfl rfl rfl (fun hb29 => ?_) ?_;rotate_left
  ·
   have fb29 := hb29
   try simp only [bl] at fb29
   iterate 2 refine gV hb29 ?_
   refine oN ?_;exact joins rfl
  refine nT ?_;refine cC rfl (fun h1 => ?_) (fun h1 => ?_)
  ·
   have f1 := h1;try simp only [bl] at f1
   have hz : whereZ p s = (false, 0, false) := if_neg (fun hh => by
     have h9 := h1
     rw [hh.1] at h9
     have h8 : (getK s (readZ p).K).isSome = true := hh.2
     rw [h8] at h9
     cases h9)
   refine sR ?_;iterate 3 refine oV ?_
   refine nF ?_;refine ret3 rfl rfl rfl rfl ?_;refine leaf0 ?_; rw [hz]
  have f1 := h1;try simp only [bl] at f1
  have hz : whereZ p s = (((getK s (readZ p).K).getD ⟨false, 0⟩).l, ((getK s (readZ p).K).getD ⟨false, 0⟩).i, true) := if_pos (by
    have h9 := h1
    simp only [Bool.or_eq_false_iff, Bool.not_eq_false'] at h9
    exact ⟨by simpa using h9.1, h9.2⟩)
  refine cK (tC (cS ?_));refine c_quiet (by kernel_rfl) (by kernel_rfl) (fun _ h => h.drawn) ?_;refine oF 0 Tryz.underlying78 Tryz.sizeOf4 ?_;refine oL Tryz.isAgg4 ?_;refine oF 1 Tryz.underlying78 Tryz.sizeOf3 ?_;refine oL Tryz.isAgg3 ?_;iterate 3 refine oV ?_
  refine nE ?_;refine ret3 rfl rfl rfl rfl ?_;refine leaf0 ?_; rw [hz]
def enumK (b : Bool) : List ByteArray → Nat → KN
  | [], _ => []
  | s :: l, i => (s, ⟨b, (i : Nat)⟩) :: enumK b l (i + 1)
theorem insZ_ok : ∀ {l : List ByteArray} {i : Nat} {K K' : KN} {n : ByteArray}, insZ l i K = (n, 0, K') → K' = K ++ enumK false l i
  | [], i, K, K', n, h => by
    have := congrArg (fun x => x.2.2) h
    rw [enumK, List.append_nil]; exact this.symm
  | s :: l, i, K, K', n, h => by
    rw [insZ] at h
    split at h
    · have := congrArg (fun x => x.2.1) h
      simp at this
    · rw [insZ_ok h, enumK, List.append_assoc]; rfl
def refsZ : List NodeC → List ByteArray
  | [] => []
  | c :: r => if c.kind ≠ 0 then refsZ r else c.name :: refsZ r
theorem refsZ_app : ∀ (a b : List NodeC), refsZ (a ++ b) = refsZ a ++ refsZ b
  | [], b => rfl
  | c :: a, b => by
    rw [List.cons_append, refsZ, refsZ, refsZ_app a b]
    split <;> rfl
theorem nodesZ_ok {K : KN} : ∀ {r : List NodeC} {L L' : List ByteArray}, nodesZ K r L = (none, L') → L' = L ++ refsZ r
  | [], L, L', h => by
    have := congrArg Prod.snd h
    rw [refsZ, List.append_nil]; exact this.symm
  | c :: r, L, L', h => by
    rw [nodesZ] at h
    rw [refsZ]
    split at h
    · rename_i hk
      rw [if_pos hk]; exact nodesZ_ok h
    · rename_i hk
      rw [if_neg hk]
      split at h
      · rw [nodesZ_ok h, List.append_assoc]; rfl
      · have := congrArg Prod.fst h
        cases this
theorem seg_app {all : List NodeC} {fr hi : Int} (h0 : 0 ≤ fr) (h : fr ≤ hi) (h2 : hi ≤ all.length) : segZ all fr hi ++ all.drop hi.toNat = all.drop fr.toNat := by
  unfold segZ
  have e := List.take_append_drop hi.toNat all
  conv => rhs; rw [← e]
  rw [List.drop_append, List.length_take, show fr.toNat - min hi.toNat all.length = 0 by omega, List.drop_zero]
theorem letsZ_ok {all : List NodeC} : ∀ {ls : List LetC} {i : Nat} {fr : Int} {K K' : KN} {L L' : List ByteArray} {n : ByteArray}, letsZ all ls i fr K L = (n, 0, K', L') → bgGo all ls fr = some (all.length : Int) → 0 ≤ fr → K' = K ++ enumK true (ls.map LetC.name) i ∧ L' = L ++ refsZ (all.drop fr.toNat)
  | [], i, fr, K, K', L, L', n, h, hg, h0 => by
    have h1 := congrArg (fun x => x.2.2.1) h
    have h2 := congrArg (fun x => x.2.2.2) h
    have h3 : fr = (all.length : Int) := Option.some.inj hg
    refine ⟨by rw [List.map_nil, enumK, List.append_nil]; exact h1.symm, ?_⟩
    rw [h3, Int.toNat_natCast, List.drop_length, refsZ, List.append_nil]
    exact h2.symm
  | c :: ls, i, fr, K, K', L, L', n, h, hg, h0 => by
    rw [letsZ] at h
    rw [bgGo_cons] at hg
    by_cases hcd : nameZ c.name = true ∧ fr ≤ c.root ∧ c.root < all.length ∧ begZ all fr all.length c.root = fr
    · rw [if_pos hcd] at hg
      cases hn : nodesZ K (segZ all fr (c.root + 1)) L with
      | mk e L1 =>
        rw [hn] at h
        cases e with
        | some m =>
          have := congrArg (fun x => x.2.1) h
          simp at this
        | none =>
          dsimp only at h
          split at h
          · have := congrArg (fun x => x.2.1) h
            simp at this
          · obtain ⟨h1, h2⟩ := letsZ_ok h hg (by omega)
            refine ⟨by rw [h1, List.map_cons, enumK, List.append_assoc]; rfl, ?_⟩
            rw [h2, nodesZ_ok hn, List.append_assoc, ← refsZ_app, seg_app h0 (by omega) (by omega)]
    · rw [if_neg hcd] at hg; cases hg
theorem ousZ_ok {K : KN} : ∀ {l L L' : List ByteArray} {n : ByteArray}, ousZ K l L = (n, 0, L') → L' = L ++ l
  | [], L, L', n, h => by
    have := congrArg (fun x => x.2.2) h
    rw [List.append_nil]; exact this.symm
  | s :: l, L, L', n, h => by
    rw [ousZ] at h
    split at h
    · rw [ousZ_ok h, List.append_assoc]; rfl
    · have := congrArg (fun x => x.2.1) h
      simp at this
theorem readZ_ok {p : ProgC} (h : (readZ p).err = 0) : (readZ p).K = enumK false p.ins 0 ++ enumK true (p.lets.map LetC.name) 0 ∧ (readZ p).L = refsZ p.all ++ p.outs := by
  cases ht : (tZ p).isSome with
  | false => rw [readZ_not ht] at h; cases h
  | true =>
    obtain ⟨l, hl⟩ := tZ_iff.1 ht
    have hgo := right_bg hl
    cases hi : insZ p.ins 0 [] with
    | mk n x =>
      obtain ⟨e, K⟩ := x
      by_cases he : e = 0
      · subst he
        cases hz : letsZ p.all p.lets 0 0 K [] with
        | mk m y =>
          obtain ⟨e2, K2, L2⟩ := y
          by_cases he2 : e2 = 0
          · subst he2
            have hr := readZ_outs ht hi hz
            rw [hr] at h ⊢
            dsimp only at h ⊢
            obtain ⟨h1, h2⟩ := letsZ_ok hz hgo (Int.le_refl _)
            cases ho : ousZ K2 p.outs L2 with
            | mk n3 z =>
              obtain ⟨e3, L3⟩ := z
              rw [ho] at h
              dsimp only at h
              subst h
              refine ⟨by rw [h1, insZ_ok hi]; rfl, ?_⟩
              show L3 = _
              rw [ousZ_ok ho, h2]
              rfl
          · rw [readZ_lets ht hi hz he2] at h; exact absurd h he2
      · rw [readZ_ins ht hi he] at h; exact absurd h he
theorem getK_app (s : ByteArray) : ∀ (A B : KN), getK s (A ++ B) = match getK s A with
    | some p => some p
    | none => getK s B
  | [], B => rfl
  | (t, p) :: A, B => by
    rw [List.cons_append, getK, getK]
    split
    · rfl
    · exact getK_app s A B
theorem whereZ_ok {p : ProgC} {s : ByteArray} (h : (readZ p).err = 0) : whereZ p s = match getK s (enumK false p.ins 0) with
    | some q => (q.l, q.i, true)
    | none => match getK s (enumK true (p.lets.map LetC.name) 0) with
      | some q => (q.l, q.i, true)
      | none => (false, 0, false) := by
  unfold whereZ hasK
  rw [(readZ_ok h).1, getK_app]
  cases getK s (enumK false p.ins 0) with
  | some q => rw [if_pos ⟨h, rfl⟩]; rfl
  | none =>
    dsimp only
    cases getK s (enumK true (p.lets.map LetC.name) 0) with
    | some q => rw [if_pos ⟨h, rfl⟩]; rfl
    | none => rw [if_neg (fun hh => by cases hh.2)]
def awB : ByteArray := ⟨#[98]⟩
theorem nameZ_B : nameZ awB = true := by kernel_rfl
def us (s : ByteArray) : ByteArray := s ++ ⟨#[95]⟩
theorem readZ_parts {p : ProgC} (h : (readZ p).err = 0) : ∃ (l : List (ByteArray × Ex)) (n m r : ByteArray) (K1 : KN) (L2 : List ByteArray), RightP p l ∧ insZ p.ins 0 [] = (n, 0, K1) ∧ letsZ p.all p.lets 0 0 K1 [] = (m, 0, (readZ p).K, L2) ∧ ousZ (readZ p).K p.outs L2 = (r, 0, (readZ p).L) := by
  cases ht : (tZ p).isSome with
  | false => rw [readZ_not ht] at h; cases h
  | true =>
    obtain ⟨l, hl⟩ := tZ_iff.1 ht
    cases hi : insZ p.ins 0 [] with
    | mk n x =>
      obtain ⟨e, K⟩ := x
      by_cases he : e = 0
      · subst he
        cases hz : letsZ p.all p.lets 0 0 K [] with
        | mk m y =>
          obtain ⟨e2, K2, L2⟩ := y
          by_cases he2 : e2 = 0
          · subst he2
            have hr := readZ_outs ht hi hz
            rw [hr] at h ⊢
            dsimp only at h ⊢
            refine ⟨l, n, m, (ousZ K2 p.outs L2).1, K, L2, hl, rfl, hz, ?_⟩
            rw [← h]
          · rw [readZ_lets ht hi hz he2] at h; exact absurd h he2
      · rw [readZ_ins ht hi he] at h; exact absurd h he
def plcZ (p : ProgC) (pl : List Int) (s : ByteArray) : Int := if (whereZ p s).1 = true then pl.getD ((p.lets.getD (whereZ p s).2.1.toNat ⟨⟨#[]⟩, 0⟩).root.toNat) 0 else (whereZ p s).2.1
def opL (c : NodeC) (pl : List Int) : OpC := ⟨c.kind, if 2 ≤ c.kind then pl.getD c.a.toNat 0 else 0, if 2 ≤ c.kind ∧ c.kind ≤ 5 then pl.getD c.b.toNat 0 else 0, c.e, c.neg, c.n, c.d⟩
def lowGo (p : ProgC) : List NodeC → Nat → List Int → List OpC → List Int × List OpC
  | [], _, pl, ops => (pl, ops)
  | c :: r, i, pl, ops => if c.kind = 0 then lowGo p r (i + 1) (pl.set i (plcZ p pl c.name)) ops else lowGo p r (i + 1) (pl.set i ((p.ins.length : Int) + ops.length)) (ops ++ [opL c (pl.set i ((p.ins.length : Int) + ops.length))])
def lowAll (p : ProgC) : List Int × List OpC := lowGo p p.all 0 (List.replicate p.all.length 0) []
def lowT (p : ProgC) : TapeC := ⟨p.ins.length, (lowAll p).2, p.outs.map (plcZ p (lowAll p).1)⟩
structure LowR where
  t : TapeC
  name : ByteArray
  err : Int
def noT : TapeC := ⟨0, [], []⟩
def lowZ (p : ProgC) : LowR := if (readZ p).err ≠ 0 then ⟨noT, (readZ p).name, (readZ p).err⟩ else if (tapeW (lowT p)).isSome = true then ⟨lowT p, ⟨#[]⟩, 0⟩ else ⟨noT, ⟨#[]⟩, 4⟩
def LowV (r : LowR) (v : Value) (I : Hp) : Prop := ∃ vo vu os, v = .tuple #[.agg #[.int .i64 r.t.ins, vo, vu], .string r.name, .int .i64 r.err] ∧ TapeV I vo vu r.t os ∧ ∀ o ∈ r.t.ops, OpC.few 3000 o
theorem lowGo_step {p : ProgC} {l : List NodeC} {i : Nat} {c : NodeC} (h : l[i]? = some c) (pl : List Int) (ops : List OpC) : lowGo p (l.drop i) i pl ops = if c.kind = 0 then lowGo p (l.drop (i + 1)) (i + 1) (pl.set i (plcZ p pl c.name)) ops else lowGo p (l.drop (i + 1)) (i + 1) (pl.set i ((p.ins.length : Int) + ops.length)) (ops ++ [opL c (pl.set i ((p.ins.length : Int) + ops.length))]) := by
  obtain ⟨h1, h2⟩ := List.getElem?_eq_some_iff.1 h
  rw [List.drop_eq_getElem_cons h1, h2]
  rfl
structure InOrd (p : ProgC) : Prop where
  low : LowN p.all
  kind : ∀ c ∈ p.all, 0 ≤ c.kind ∧ c.kind ≤ 7
  place : ∀ s, (whereZ p s).1 = true → 0 ≤ (whereZ p s).2.1 ∧ ∃ c, p.lets[(whereZ p s).2.1.toNat]? = some c ∧ 0 ≤ c.root ∧ c.root < p.all.length
  few : p.all.length ≤ 400 ∧ p.outs.length ≤ 40 ∧ p.ins.length ≤ 40
theorem kind_in {l : List NodeC} {i : Int} {x : Ex} (h : NodeAt l i x) {c : NodeC} (hc : l[i.toNat]? = some c) : 0 ≤ c.kind ∧ c.kind ≤ 7 := by
  cases x with
  | ref t => have h1 := h.ref; rw [hc] at h1; cases Option.some.inj h1; exact ⟨by show (0 : Int) ≤ 0; decide, by show (0 : Int) ≤ 7; decide⟩
  | num q => have h1 := h.num; rw [hc] at h1; cases Option.some.inj h1; exact ⟨by show (0 : Int) ≤ 1; decide, by show (1 : Int) ≤ 7; decide⟩
  | neg y => obtain ⟨a, h1, _⟩ := h.neg; rw [hc] at h1; cases Option.some.inj h1; exact ⟨by show (0 : Int) ≤ 6; decide, by show (6 : Int) ≤ 7; decide⟩
  | pow y e => obtain ⟨a, h1, _⟩ := h.pow; rw [hc] at h1; cases Option.some.inj h1; exact ⟨by show (0 : Int) ≤ 7; decide, by show (7 : Int) ≤ 7; decide⟩
  | bin k y z =>
    have hk := h.ok
    obtain ⟨a, b, h1, _⟩ := h.bin
    rw [hc] at h1; cases Option.some.inj h1
    obtain ⟨k2, k5, _⟩ := hk
    exact ⟨by show 0 ≤ k; omega, by show k ≤ 7; omega⟩
theorem enumK_ge {b : Bool} {s : ByteArray} {q : PL} : ∀ {l : List ByteArray} {i : Nat}, getK s (enumK b l i) = some q → q.l = b ∧ 0 ≤ q.i ∧ q.i < (i + l.length : Nat)
  | [], i, h => by cases h
  | t :: l, i, h => by
    rw [enumK, getK] at h
    split at h
    · cases h; refine ⟨rfl, ?_, ?_⟩
      · show 0 ≤ ((i : Nat) : Int); omega
      · show ((i : Nat) : Int) < _; rw [List.length_cons]; omega
    · obtain ⟨h1, h2, h3⟩ := enumK_ge h
      refine ⟨h1, h2, ?_⟩
      rw [List.length_cons]
      omega
theorem inOrd {p : ProgC} (h : (readZ p).err = 0) : InOrd p := by
  obtain ⟨l, n, m, r, K1, L2, hl, _, _, _⟩ := readZ_parts h
  refine ⟨shaped_low hl.toShaped, fun c hc => ?_, fun s hs => ?_, ⟨hl.few.2, hl.outs.2.2, hl.ins.2.2⟩⟩
  · obtain ⟨i, hi⟩ := List.mem_iff_getElem?.1 hc
    have hlt := (List.getElem?_eq_some_iff.1 hi).1
    obtain ⟨y, hy, _⟩ := hl.node (i := (i : Int)) (by omega) (by omega)
    exact kind_in hy (by rw [Int.toNat_natCast]; exact hi)
  · have hw := whereZ_ok (s := s) h
    cases e1 : getK s (enumK false p.ins 0) with
    | some q =>
      rw [e1] at hw
      dsimp only at hw
      rw [hw, (enumK_ge e1).1] at hs
      cases hs
    | none =>
      rw [e1] at hw
      dsimp only at hw
      cases e2 : getK s (enumK true (p.lets.map LetC.name) 0) with
      | none => rw [e2] at hw; dsimp only at hw; rw [hw] at hs; cases hs
      | some q =>
        rw [e2] at hw
        dsimp only at hw
        obtain ⟨_, g1, g2⟩ := enumK_ge e2
        rw [List.length_map, Nat.zero_add] at g2
        rw [hw]
        refine ⟨g1, ?_⟩
        obtain ⟨c, hc⟩ : ∃ c, p.lets[q.i.toNat]? = some c := ⟨p.lets[q.i.toNat]'(by omega), List.getElem?_eq_getElem (by omega)⟩
        obtain ⟨x, _, hx, _⟩ := hl.root hc
        exact ⟨c, hc, hx.in_⟩
def ivs (l : List Int) : List Value := l.map fun z => .int .i64 z
theorem ivs_len (l : List Int) : (ivs l).length = l.length := by simp [ivs]
theorem ivs_set (l : List Int) (i : Nat) (z : Int) : (ivs l).set i (.int .i64 z) = ivs (l.set i z) := by unfold ivs; rw [List.map_set]
theorem ivs_get {l : List Int} {i : Nat} (h : i < l.length) : (ivs l)[i]? = some (.int .i64 (l.getD i 0)) := by
  unfold ivs
  rw [List.getElem?_map, List.getElem?_eq_getElem h, List.getD_eq_getElem?_getD, List.getElem?_eq_getElem h]; rfl
theorem made_ivs (m : Nat) : (madeCells [Value.int .i64 0].toArray (m * 1)).toList = ivs (List.replicate m 0) := by
  rw [Nat.mul_one]; exact (toList_madeCells_one _ _).trans (by simp [ivs])
def zeroR (o : OpC) : Bool :=
  if o.code = 1 then decide (o.a = 0 ∧ o.b = 0 ∧ o.e = 0)
  else if 2 ≤ o.code ∧ o.code ≤ 5 then emptyZ o.neg o.n o.d && decide (o.e = 0)
  else if o.code = 6 then emptyZ o.neg o.n o.d && decide (o.b = 0 ∧ o.e = 0)
  else if o.code = 7 then emptyZ o.neg o.n o.d && decide (o.b = 0)
  else false
theorem empty_eq (neg : Bool) (A B : List Nat) : (decide (neg = false) && decide (A = []) && decide (B = [])) = emptyZ neg A B := by
  unfold emptyZ
  cases neg <;> cases A <;> cases B <;> simp
theorem zero_any (code a b e : Int) (neg : Bool) (va vb : Value) (A B : List Nat) {I : Hp} (ha : Ws I va A) (hb : Ws I vb B) : Fun Tryz.prog 112 [.agg #[.int .i64 code, .int .i64 a, .int .i64 b, .int .i64 e, .bool neg, va, vb]] I [] (fun v _ _ => v = .bool (zeroR ⟨code, a, b, e, neg, A, B⟩)) := by
  have hq := rEqual_any neg false va vb (.slice none 0 0) (.slice none 0 0) A B [] [] ha hb (Ws.nil I) (Ws.nil I)
  rw [empty_eq] at hq
  intro w hw
  refine enter1 _ Tryz.func112 rfl Tryz.ntmps112 rfl ?_ hw;refine sR ?_;refine o_box trivial rfl rfl rfl (fun b1 => ?_);refine oV ?_;refine nS ?_;refine oF 4 Tryz.underlying69 Tryz.sizeOf35 ?_;refine oA Tryz.isAgg35 Tryz.sizeOf35 ?_;refine o_buildS trivial rfl (bld35) rfl .nil ?_;refine oQ Tryz.call67 rfl hq ?_;refine oV ?_;refine oN (tC (cS (cB (sR ?_))));refine oF 0 Tryz.underlying69 Tryz.sizeOf3 ?_;refine oL Tryz.isAgg3 ?_;iterate 2 refine oV ?_
  refine nT ?_;refine cC rfl (fun h1 => ?_) (fun h1 => ?_)
  ·
   have f1 := h1;try simp only [bl] at f1
   refine sR ?_;refine oF 1 Tryz.underlying69 Tryz.sizeOf3 ?_;refine oL Tryz.isAgg3 ?_;refine oV ?_;refine' o_and trivial trivial rfl rfl rfl rfl rfl rfl rfl rfl (fun hb15 => ?_) ?_;rotate_left
   ·
    have fb15 := hb15
    try simp only [bl] at fb15
    refine gF hb15 2 Tryz.underlying69 Tryz.sizeOf3 ?_;refine gL hb15 Tryz.isAgg3 ?_;refine gV hb15 ?_;refine oN ?_;exact joins rfl
   refine' o_and trivial trivial rfl rfl rfl rfl rfl rfl rfl rfl (fun hb20 => ?_) ?_;rotate_left
   ·
    have fb20 := hb20
    try simp only [bl] at fb20
    refine gF hb20 3 Tryz.underlying69 Tryz.sizeOf3 ?_;refine gL hb20 Tryz.isAgg3 ?_;refine gV hb20 ?_;refine oN ?_;exact joins rfl
   refine oV ?_;refine oN (tC (cT (blk_r (tR ?_))));refine ret1 rfl rfl ?_;refine leaf0 (congrArg Value.bool ?_)
   unfold zeroR
   dsimp only
   (generalize emptyZ neg A B = Z at *
    repeat (rw [if_pos (by omega)])
    try rw [Bool.eq_iff_iff]
    (cases Z <;> simp_all <;> omega))
  have f1 := h1;try simp only [bl] at f1
  refine sR ?_;refine oF 0 Tryz.underlying69 Tryz.sizeOf3 ?_;refine oL Tryz.isAgg3 ?_;refine oV ?_;refine' o_and trivial trivial rfl rfl rfl rfl rfl rfl rfl rfl (fun hb29 => ?_) ?_;rotate_left
  ·
   have fb29 := hb29
   try simp only [bl] at fb29
   refine gF hb29 0 Tryz.underlying69 Tryz.sizeOf3 ?_;refine gL hb29 Tryz.isAgg3 ?_;refine gV hb29 ?_;refine oN ?_;exact joins rfl
  refine oV ?_;refine nT ?_;refine cC rfl (fun h2 => ?_) (fun h2 => ?_)
  ·
   have f2 := h2;try simp only [bl] at f2
   refine sR ?_;refine oV ?_;refine' o_and trivial trivial rfl rfl rfl rfl rfl rfl rfl rfl (fun hb35 => ?_) ?_;rotate_left
   ·
    have fb35 := hb35
    try simp only [bl] at fb35
    refine gF hb35 3 Tryz.underlying69 Tryz.sizeOf3 ?_;refine gL hb35 Tryz.isAgg3 ?_;refine gV hb35 ?_;refine oN ?_;exact joins rfl
   refine oV ?_;refine oN (tC (cT (blk_r (tR ?_))));refine ret1 rfl rfl ?_;refine leaf0 (congrArg Value.bool ?_)
   unfold zeroR
   dsimp only
   (generalize emptyZ neg A B = Z at *
    repeat (first | rw [if_pos (by omega)] | rw [if_neg (by omega)])
    try rw [Bool.eq_iff_iff]
    (cases Z <;> simp_all <;> omega))
  have f2 := h2;try simp only [bl] at f2
  refine sR ?_;refine oF 0 Tryz.underlying69 Tryz.sizeOf3 ?_;refine oL Tryz.isAgg3 ?_;iterate 2 refine oV ?_
  refine nT ?_;refine cC rfl (fun h3 => ?_) (fun h3 => ?_)
  ·
   have f3 := h3;try simp only [bl] at f3
   refine sR ?_;refine oV ?_;refine' o_and trivial trivial rfl rfl rfl rfl rfl rfl rfl rfl (fun hb45 => ?_) ?_;rotate_left
   ·
    have fb45 := hb45
    try simp only [bl] at fb45
    refine gF hb45 2 Tryz.underlying69 Tryz.sizeOf3 ?_;refine gL hb45 Tryz.isAgg3 ?_;refine gV hb45 ?_;refine oN ?_;exact joins rfl
   refine' o_and trivial trivial rfl rfl rfl rfl rfl rfl rfl rfl (fun hb50 => ?_) ?_;rotate_left
   ·
    have fb50 := hb50
    try simp only [bl] at fb50
    refine gF hb50 3 Tryz.underlying69 Tryz.sizeOf3 ?_;refine gL hb50 Tryz.isAgg3 ?_;refine gV hb50 ?_;refine oN ?_;exact joins rfl
   refine oV ?_;refine oN (tC (cT (blk_r (tR ?_))));refine ret1 rfl rfl ?_;refine leaf0 (congrArg Value.bool ?_)
   unfold zeroR
   dsimp only
   (generalize emptyZ neg A B = Z at *
    repeat (first | rw [if_pos (by omega)] | rw [if_neg (by omega)])
    try rw [Bool.eq_iff_iff]
    (cases Z <;> simp_all <;> omega))
  have f3 := h3;try simp only [bl] at f3
  refine sR ?_;refine oF 0 Tryz.underlying69 Tryz.sizeOf3 ?_;refine oL Tryz.isAgg3 ?_;iterate 2 refine oV ?_
  refine nT ?_;refine cC rfl (fun h4 => ?_) (fun h4 => ?_)
  ·
   have f4 := h4;try simp only [bl] at f4
   refine sR ?_;refine oV ?_;refine' o_and trivial trivial rfl rfl rfl rfl rfl rfl rfl rfl (fun hb60 => ?_) ?_;rotate_left
   ·
    have fb60 := hb60
    try simp only [bl] at fb60
    refine gF hb60 2 Tryz.underlying69 Tryz.sizeOf3 ?_;refine gL hb60 Tryz.isAgg3 ?_;refine gV hb60 ?_;refine oN ?_;exact joins rfl
   refine oV ?_;refine oN (tC (cT (blk_r (tR ?_))));refine ret1 rfl rfl ?_;refine leaf0 (congrArg Value.bool ?_)
   unfold zeroR
   dsimp only
   (generalize emptyZ neg A B = Z at *
    repeat (first | rw [if_pos (by omega)] | rw [if_neg (by omega)])
    try rw [Bool.eq_iff_iff]
    (cases Z <;> simp_all <;> omega))
  have f4 := h4;try simp only [bl] at f4
  refine cK (blk_n (tC (sR ?_)));refine oV ?_;refine nE ?_;refine ret1 rfl rfl ?_;refine leaf0 (congrArg Value.bool ?_)
  unfold zeroR
  dsimp only
  first
    | (exfalso; omega)
    | (generalize emptyZ neg A B = Z at *
       repeat (rw [if_neg (by omega)])
       try rw [Bool.eq_iff_iff]
       done)
def wR (o : OpC) (l : List Nat) : Option Nat := if fieldsOK o then wgt o l else none
def wRT (o : OpC) (l : List Nat) (v : Value) : Prop := ∃ m : Int, v = .int .i64 m ∧ (∀ k, wR o l = some k → m = k) ∧ (wR o l = none → m < 0 ∨ 200 < m)
theorem wRT_neg {o : OpC} {l : List Nat} (h : wR o l = none) : wRT o l (.int .i64 (-1)) := ⟨-1, rfl, fun k hk => (by rw [h] at hk; cases hk), fun _ => by omega⟩
theorem wRT_of {o : OpC} {l : List Nat} {M : Nat} {m : Int} (h : wR o l = if M ≤ 200 then some M else none) (hm : m = M) : wRT o l (.int .i64 m) :=
  ⟨m, rfl, fun k hk => by rw [h] at hk; split at hk <;> cases hk; exact hm, fun hk => by
    rw [h] at hk
    split at hk
    · cases hk
    · omega⟩
theorem fields_one {o : OpC} (h : o.code = 1) : fieldsOK o = (constOK o.neg o.n o.d && zeroR o) := by
  unfold fieldsOK zeroR; rw [if_pos h, if_pos h]
theorem fields_zero {o : OpC} (h : zeroR o = false) : fieldsOK o = false := by
  unfold zeroR at h
  unfold fieldsOK
  split
  · rename_i h1; rw [if_pos h1] at h; rw [h, Bool.and_false]
  · rename_i h1
    rw [if_neg h1] at h
    split
    · rename_i h2; rw [if_pos h2] at h; exact h
    · rename_i h2
      rw [if_neg h2] at h
      split
      · rename_i h3; rw [if_pos h3] at h; exact h
      · rename_i h3
        rw [if_neg h3] at h
        split
        · rename_i h4
          rw [if_pos h4] at h
          cases hz : emptyZ o.neg o.n o.d
          · rfl
          · rw [hz] at h
            simp at h
            simp [h]
        · rfl
theorem fields_rest {o : OpC} (h1 : ¬ o.code = 1) (h : zeroR o = true) (he : -20 ≤ o.e ∧ o.e ≤ 20) : fieldsOK o = true := by
  unfold zeroR at h
  unfold fieldsOK
  rw [if_neg h1] at h ⊢
  split
  · rename_i h2; rw [if_pos h2] at h; exact h
  · rename_i h2
    rw [if_neg h2] at h
    split
    · rename_i h3; rw [if_pos h3] at h; exact h
    · rename_i h3
      rw [if_neg h3] at h
      split
      · rename_i h4
        rw [if_pos h4] at h
        simp only [Bool.and_eq_true, decide_eq_true_eq] at h ⊢
        exact ⟨h.1, h.2, he⟩
      · rename_i h4; rw [if_neg h4] at h; exact h
theorem fields_exp2 {o : OpC} (h1 : ¬ o.code = 1) (he : ¬ (-20 ≤ o.e ∧ o.e ≤ 20)) : fieldsOK o = false := by
  unfold fieldsOK
  rw [if_neg h1]
  split
  · rw [show decide (o.e = 0) = false from decide_eq_false (by omega), Bool.and_false]
  · split
    · rw [show decide (o.b = 0 ∧ o.e = 0) = false from decide_eq_false (by omega), Bool.and_false]
    · split
      · rw [show decide (o.b = 0 ∧ -20 ≤ o.e ∧ o.e ≤ 20) = false from decide_eq_false (by omega), Bool.and_false]
      · rfl
theorem zero_code {o : OpC} (h : zeroR o = true) (h1 : ¬ o.code = 1) : 2 ≤ o.code ∧ o.code ≤ 7 := by
  unfold zeroR at h
  rw [if_neg h1] at h
  split at h
  · omega
  · split at h
    · omega
    · split at h
      · omega
      · cases h
theorem weightR_any (code a b e : Int) (neg : Bool) (va vb u : Value) (A B : List Nat) (l : List Nat) {I : Hp} (ha : Ws I va A) (hb : Ws I vb B) (hA : A.length ≤ 3000) (hB : B.length ≤ 3000) (hl : l.length ≤ 1000000) (hl2 : ∀ x ∈ l, x ≤ 200) : Fun Tryz.prog 69 [.agg #[.int .i64 code, .int .i64 a, .int .i64 b, .int .i64 e, .bool neg, va, vb], u] I [.row u 3 1 l.length (nvs l)]
    (fun v I' B' => I = I' ∧ B' = [.row u 3 1 l.length (nvs l)] ∧ wRT ⟨code, a, b, e, neg, A, B⟩ l v) := by
  have ga := le_getD hl2 a.toNat
  have gb := le_getD hl2 b.toNat
  have hda := digs_words ha.wds hA
  have hdb := digs_words hb.wds hB
  have hsa := decS_size (val A)
  have hsb := decS_size (val B)
  intro w hw
  refine enter2 _ Tryz.func69 rfl Tryz.ntmps69 rfl ?_ hw;refine sR ?_;refine o_box trivial rfl rfl rfl (fun b2 => ?_);refine oV ?_;refine nS ?_;refine oA Tryz.isAgg69 Tryz.sizeOf69 ?_;refine oQ Tryz.call112 rfl (zero_any code a b e neg _ _ _ _ ha hb) ?_;refine oV ?_;refine nU ?_;iterate 2 refine oV ?_
  refine nT ?_;refine cC rfl (fun h1 => ?_) (fun h1 => ?_)
  ·
   have f1 := h1;try simp only [bl] at f1
   have hz : wR ⟨code, a, b, e, neg, A, B⟩ l = none := by unfold wR; rw [fields_zero f1]; rfl
   refine sR ?_;refine oV ?_;refine nF ?_;refine ret1 rfl rfl ?_;exact leaf (Ext.refl _ _) (List.sublist_cons_self _ _) ⟨rfl, rfl, wRT_neg hz⟩
  have f1 := h1;try simp only [bl] at f1
  refine cK (tC (cS (sR ?_)));refine oF 0 Tryz.underlying69 Tryz.sizeOf3 ?_;refine oL Tryz.isAgg3 ?_;refine oV ?_;refine nT ?_;refine cC rfl (fun h2 => ?_) (fun h2 => ?_)
  ·
   have f2 := h2;try simp only [bl] at f2
   refine sR ?_;refine oF 4 Tryz.underlying69 Tryz.sizeOf35 ?_;refine oA Tryz.isAgg35 Tryz.sizeOf35 ?_;refine oQ Tryz.call77 rfl (rRight_any neg _ _ _ _ ha hb hA hB) ?_;refine oV ?_;refine nU ?_;iterate 2 refine oV ?_
   refine' o_or trivial trivial rfl rfl rfl rfl rfl rfl rfl rfl (fun hb20 => ?_) ?_;rotate_left
   ·
    have fb20 := hb20
    try simp only [bl] at fb20
    refine gF hb20 4 Tryz.underlying69 Tryz.sizeOf35 ?_;refine gF hb20 1 Tryz.underlying35 Tryz.sizeOf33 ?_;refine gL hb20 Tryz.isAgg33 ?_;refine o_callQ (wS rfl rfl hb20) rfl Tryz.call78 rfl (rPrint_any _ _ ha (by omega)) ?_;refine o_lenS (wS rfl rfl hb20) rfl Tryz.underlying9 rfl ?_;refine gV hb20 ?_;refine oN ?_;exact joins rfl
   refine' o_or trivial trivial rfl rfl rfl rfl rfl rfl rfl rfl (fun hb28 => ?_) ?_;rotate_left
   ·
    have fb28 := hb28
    try simp only [bl] at fb28
    refine gF hb28 4 Tryz.underlying69 Tryz.sizeOf35 ?_;refine gF hb28 2 Tryz.underlying35 Tryz.sizeOf33 ?_;refine gL hb28 Tryz.isAgg33 ?_;refine o_callQ (wS rfl rfl hb28) rfl Tryz.call78 rfl (rPrint_any _ _ hb (by omega)) ?_;refine o_lenS (wS rfl rfl hb28) rfl Tryz.underlying9 rfl ?_;refine gV hb28 ?_;refine oN ?_;exact joins rfl
   refine nT ?_;refine cC rfl (fun h3 => ?_) (fun h3 => ?_)
   ·
    have f3 := h3;try simp only [bl] at f3
    have hz : wR ⟨code, a, b, e, neg, A, B⟩ l = none := by
      unfold wR
      rw [fields_one f2, f1, Bool.and_true]
      unfold constOK
      dsimp only
      rcases f3 with (f3 | f3) | f3
      · rw [f3]; rfl
      · rw [show decide ((digs (val A)).length ≤ 40) = false from decide_eq_false (by omega), Bool.and_false, Bool.false_and]; rfl
      · rw [show decide ((digs (val B)).length ≤ 40) = false from decide_eq_false (by omega), Bool.and_false]; rfl
    refine sR ?_;refine oV ?_;refine oN (tC (cT (tR (tR ?_))));refine ret1 rfl rfl ?_;exact leaf (Ext.refl _ _) (List.sublist_cons_self _ _) ⟨rfl, rfl, wRT_neg hz⟩
   have f3 := h3;try simp only [bl] at f3
   have hz : wR ⟨code, a, b, e, neg, A, B⟩ l = some 1 := by
     unfold wR
     rw [fields_one f2, f1, Bool.and_true]
     unfold constOK
     dsimp only
     obtain ⟨⟨k1, k2⟩, k3⟩ := f3
     rw [k1, show decide ((digs (val A)).length ≤ 40) = true from decide_eq_true (by omega), show decide ((digs (val B)).length ≤ 40) = true from decide_eq_true (by omega)]
     show wgt ⟨code, a, b, e, neg, A, B⟩ l = some 1
     exact if_pos f2
   refine kS ?_;refine oV ?_;refine nF ?_;refine ret1 rfl rfl ?_;exact leaf (Ext.refl _ _) (List.sublist_cons_self _ _) ⟨rfl, rfl, 1, rfl, fun k hk => by rw [hz] at hk; cases hk; rfl, fun hk => by rw [hz] at hk; cases hk⟩
  have f2 := h2;try simp only [bl] at f2
  refine cK (tC (cS (sR ?_)));refine oF 1 Tryz.underlying69 Tryz.sizeOf3 ?_;refine oL Tryz.isAgg3 ?_;refine oV ?_;refine' o_or trivial trivial rfl rfl rfl rfl rfl rfl rfl rfl (fun hb39 => ?_) ?_;rotate_left
  ·
   have fb39 := hb39
   try simp only [bl] at fb39
   refine gF hb39 1 Tryz.underlying69 Tryz.sizeOf3 ?_;refine gL hb39 Tryz.isAgg3 ?_;refine gV hb39 ?_;refine o_lenRow (wS rfl rfl hb39) rfl Tryz.underlying52 rfl (by repeat constructor) ?_;refine gV hb39 ?_;refine oN ?_;exact joins rfl
  refine' o_or trivial trivial rfl rfl rfl rfl rfl rfl rfl rfl (fun hb46 => ?_) ?_;rotate_left
  ·
   have fb46 := hb46
   try simp only [bl] at fb46
   refine gF hb46 2 Tryz.underlying69 Tryz.sizeOf3 ?_;refine gL hb46 Tryz.isAgg3 ?_;refine gV hb46 ?_;refine oN ?_;exact joins rfl
  refine' o_or trivial trivial rfl rfl rfl rfl rfl rfl rfl rfl (fun hb51 => ?_) ?_;rotate_left
  ·
   have fb51 := hb51
   try simp only [bl] at fb51
   refine gF hb51 2 Tryz.underlying69 Tryz.sizeOf3 ?_;refine gL hb51 Tryz.isAgg3 ?_;refine gV hb51 ?_;refine o_lenRow (wS rfl rfl hb51) rfl Tryz.underlying52 rfl (by repeat constructor) ?_;refine gV hb51 ?_;refine oN ?_;exact joins rfl
  refine' o_or trivial trivial rfl rfl rfl rfl rfl rfl rfl rfl (fun hb58 => ?_) ?_;rotate_left
  ·
   have fb58 := hb58
   try simp only [bl] at fb58
   refine gF hb58 3 Tryz.underlying69 Tryz.sizeOf3 ?_;refine gL hb58 Tryz.isAgg3 ?_;refine gV hb58 ?_;refine oN ?_;exact joins rfl
  refine' o_or trivial trivial rfl rfl rfl rfl rfl rfl rfl rfl (fun hb63 => ?_) ?_;rotate_left
  ·
   have fb63 := hb63
   try simp only [bl] at fb63
   refine gF hb63 3 Tryz.underlying69 Tryz.sizeOf3 ?_;refine gL hb63 Tryz.isAgg3 ?_;refine gV hb63 ?_;refine oN ?_;exact joins rfl
  refine nT ?_;refine cC rfl (fun h4 => ?_) (fun h4 => ?_)
  ·
   have f4 := h4;try simp only [bl] at f4
   have hz : wR ⟨code, a, b, e, neg, A, B⟩ l = none := by
     unfold wR
     by_cases he : -20 ≤ e ∧ e ≤ 20
     · rw [fields_rest f2 f1 he]
       unfold wgt
       dsimp only
       have n2 : a < 0 ∨ (l.length : Int) ≤ a ∨ b < 0 ∨ (l.length : Int) ≤ b := by omega
       rw [if_neg f2, if_pos n2]; rfl
     · rw [fields_exp2 (o := ⟨code, a, b, e, neg, A, B⟩) f2 he]; rfl
   refine sR ?_;refine oV ?_;refine nF ?_;refine ret1 rfl rfl ?_;exact leaf (Ext.refl _ _) (List.sublist_cons_self _ _) ⟨rfl, rfl, wRT_neg hz⟩
  have f4 := h4;try simp only [bl] at f4
  have hcd := zero_code (o := ⟨code, a, b, e, neg, A, B⟩) f1 f2
  have he : -20 ≤ e ∧ e ≤ 20 := by omega
  have n2 : ¬ (a < 0 ∨ (l.length : Int) ≤ a ∨ b < 0 ∨ (l.length : Int) ≤ b) := by omega
  have hwr : wR ⟨code, a, b, e, neg, A, B⟩ l = if wgtM ⟨code, a, b, e, neg, A, B⟩ l ≤ 200 then some (wgtM ⟨code, a, b, e, neg, A, B⟩ l) else none := by
    unfold wR
    rw [fields_rest f2 f1 he]
    unfold wgt
    dsimp only
    rw [if_neg f2, if_neg n2]; rfl
  have hm20 : l.getD a.toNat 0 * max 1 e.natAbs ≤ 200 * 20 := Nat.mul_le_mul ga (by omega)
  refine kS ?_;refine oV ?_;refine oF 1 Tryz.underlying69 Tryz.sizeOf3 ?_;refine oL Tryz.isAgg3 ?_;refine o_elemRow trivial rfl Tryz.underlying52 Tryz.sizeOf3 rfl (by repeat constructor) rfl (by omega) ?_;refine o_loadRow1 trivial rfl Tryz.isAgg3 (by repeat constructor) rfl (by rw [Nat.mul_one]; exact nvs_get (by omega)) ?_;refine oV ?_;refine nU ?_;refine oF 0 Tryz.underlying69 Tryz.sizeOf3 ?_;refine oL Tryz.isAgg3 ?_;refine oV ?_;refine nT ?_;refine cC rfl (fun h5 => ?_) (fun h5 => ?_)
  ·
   have f5 := h5;try simp only [bl] at f5
   refine cR ?_;iterate 2 refine oV ?_
   refine oF 2 Tryz.underlying69 Tryz.sizeOf3 ?_;refine oL Tryz.isAgg3 ?_;refine o_elemRow trivial rfl Tryz.underlying52 Tryz.sizeOf3 rfl (by repeat constructor) rfl (by omega) ?_;refine o_loadRow1 trivial rfl Tryz.isAgg3 (by repeat constructor) rfl (by rw [Nat.mul_one]; exact nvs_get (by omega)) ?_
   (refine o_add trivial rfl rfl rfl ?_ ?_; (omega))
   refine oV ?_;refine nU ?_;refine oF 0 Tryz.underlying69 Tryz.sizeOf3 ?_;refine oL Tryz.isAgg3 ?_;refine oV ?_;refine' o_and trivial trivial rfl rfl rfl rfl rfl rfl rfl rfl (fun hb86 => ?_) ?_;rotate_left
   ·
    have fb86 := hb86
    try simp only [bl] at fb86
    refine gF hb86 3 Tryz.underlying69 Tryz.sizeOf3 ?_;refine gL hb86 Tryz.isAgg3 ?_;refine gV hb86 ?_;refine oN ?_;exact joins rfl
   refine nT ?_;refine cC rfl (fun h6 => ?_) (fun h6 => ?_)
   ·
    have f6 := h6;try simp only [bl] at f6
    refine cR ?_;refine oV ?_;refine oF 3 Tryz.underlying69 Tryz.sizeOf3 ?_;refine oL Tryz.isAgg3 ?_;refine oV ?_
    (refine o_mul trivial rfl rfl rfl ?_ ?_; (omega))
    refine oV ?_;refine nU ?_;refine oF 0 Tryz.underlying69 Tryz.sizeOf3 ?_;refine oL Tryz.isAgg3 ?_;refine oV ?_;refine' o_and trivial trivial rfl rfl rfl rfl rfl rfl rfl rfl (fun hb99 => ?_) ?_;rotate_left
    ·
     have fb99 := hb99
     try simp only [bl] at fb99
     refine gF hb99 3 Tryz.underlying69 Tryz.sizeOf3 ?_;refine gL hb99 Tryz.isAgg3 ?_;refine gV hb99 ?_;refine oN ?_;exact joins rfl
    refine nT ?_;refine cC rfl (fun h7 => ?_) (fun h7 => ?_)
    ·
     have f7 := h7;try simp only [bl] at f7
     refine cR ?_;refine oV ?_;refine oF 3 Tryz.underlying69 Tryz.sizeOf3 ?_;refine oL Tryz.isAgg3 ?_
     (refine o_mul trivial rfl rfl rfl ?_ ?_; (omega))
     refine oV ?_;refine nS ?_;iterate 2 refine oV ?_
     refine nE ?_;refine ret1 rfl rfl ?_;refine leaf (Ext.refl _ _) (List.sublist_cons_self _ _) ⟨rfl, rfl, wRT_of hwr ?_⟩
     unfold wgtM
     dsimp only at hcd ⊢
     (exfalso; omega)
    have f7 := h7;try simp only [bl] at f7
    refine kS ?_;iterate 2 refine oV ?_
    refine nE ?_;refine ret1 rfl rfl ?_;refine leaf (Ext.refl _ _) (List.sublist_cons_self _ _) ⟨rfl, rfl, wRT_of hwr ?_⟩
    unfold wgtM
    dsimp only at hcd ⊢
    (exfalso; omega)
   have f6 := h6;try simp only [bl] at f6
   refine cK (tC (cS (sR ?_)));refine oF 0 Tryz.underlying69 Tryz.sizeOf3 ?_;refine oL Tryz.isAgg3 ?_;refine oV ?_;refine' o_and trivial trivial rfl rfl rfl rfl rfl rfl rfl rfl (fun hb99 => ?_) ?_;rotate_left
   ·
    have fb99 := hb99
    try simp only [bl] at fb99
    refine gF hb99 3 Tryz.underlying69 Tryz.sizeOf3 ?_;refine gL hb99 Tryz.isAgg3 ?_;refine gV hb99 ?_;refine oN ?_;exact joins rfl
   refine nT ?_;refine cC rfl (fun h7 => ?_) (fun h7 => ?_)
   ·
    have f7 := h7;try simp only [bl] at f7
    refine cR ?_;refine oV ?_;refine oF 3 Tryz.underlying69 Tryz.sizeOf3 ?_;refine oL Tryz.isAgg3 ?_
    (refine o_mul trivial rfl rfl rfl ?_ ?_; (omega))
    refine oV ?_;refine nS ?_;iterate 2 refine oV ?_
    refine nE ?_;refine ret1 rfl rfl ?_;refine leaf (Ext.refl _ _) (List.sublist_cons_self _ _) ⟨rfl, rfl, wRT_of hwr ?_⟩
    unfold wgtM
    dsimp only at hcd ⊢
    (exfalso; omega)
   have f7 := h7;try simp only [bl] at f7
   refine kS ?_;iterate 2 refine oV ?_
   refine nE ?_;refine ret1 rfl rfl ?_;refine leaf (Ext.refl _ _) (List.sublist_cons_self _ _) ⟨rfl, rfl, wRT_of hwr ?_⟩
   unfold wgtM
   dsimp only at hcd ⊢
   (rw [if_pos (show 2 ≤ code ∧ code ≤ 5 by omega)]; rfl)
  have f5 := h5;try simp only [bl] at f5
  refine cK (tC (cS (sR ?_)));refine oF 0 Tryz.underlying69 Tryz.sizeOf3 ?_;refine oL Tryz.isAgg3 ?_;refine oV ?_;refine' o_and trivial trivial rfl rfl rfl rfl rfl rfl rfl rfl (fun hb86 => ?_) ?_;rotate_left
  ·
   have fb86 := hb86
   try simp only [bl] at fb86
   refine gF hb86 3 Tryz.underlying69 Tryz.sizeOf3 ?_;refine gL hb86 Tryz.isAgg3 ?_;refine gV hb86 ?_;refine oN ?_;exact joins rfl
  refine nT ?_;refine cC rfl (fun h6 => ?_) (fun h6 => ?_)
  ·
   have f6 := h6;try simp only [bl] at f6
   refine cR ?_;refine oV ?_;refine oF 3 Tryz.underlying69 Tryz.sizeOf3 ?_;refine oL Tryz.isAgg3 ?_;refine oV ?_;refine oV ?_;refine oV ?_;refine nU ?_;refine oF 0 Tryz.underlying69 Tryz.sizeOf3 ?_;refine oL Tryz.isAgg3 ?_;refine oV ?_;refine' o_and trivial trivial rfl rfl rfl rfl rfl rfl rfl rfl (fun hb99 => ?_) ?_;rotate_left
   ·
    have fb99 := hb99
    try simp only [bl] at fb99
    refine gF hb99 3 Tryz.underlying69 Tryz.sizeOf3 ?_;refine gL hb99 Tryz.isAgg3 ?_;refine gV hb99 ?_;refine oN ?_;exact joins rfl
   refine nT ?_;refine cC rfl (fun h7 => ?_) (fun h7 => ?_)
   ·
    have f7 := h7;try simp only [bl] at f7
    refine cR ?_;refine oV ?_;refine oF 3 Tryz.underlying69 Tryz.sizeOf3 ?_;refine oL Tryz.isAgg3 ?_
    (refine o_mul trivial rfl rfl rfl ?_ ?_; (omega))
    refine oV ?_;refine nS ?_;iterate 2 refine oV ?_
    refine nE ?_;refine ret1 rfl rfl ?_;refine leaf (Ext.refl _ _) (List.sublist_cons_self _ _) ⟨rfl, rfl, wRT_of hwr ?_⟩
    unfold wgtM
    dsimp only at hcd ⊢
    (exfalso; omega)
   have f7 := h7;try simp only [bl] at f7
   refine kS ?_;iterate 2 refine oV ?_
   refine nE ?_;refine ret1 rfl rfl ?_;refine leaf (Ext.refl _ _) (List.sublist_cons_self _ _) ⟨rfl, rfl, wRT_of hwr ?_⟩
   unfold wgtM
   dsimp only at hcd ⊢
   (have h7 : code = 7 := f6.1
    have he0 := f6.2
    rw [if_neg (show ¬ (2 ≤ code ∧ code ≤ 5) by omega), if_pos h7, Nat.max_eq_right (show 1 ≤ e.natAbs by omega)] at *
    rw [show IntKind.i64.wrap (0 - e) = ((e.natAbs : Nat) : Int) by rw [IntWalk.i64_in _ (by omega)]; omega, ← Int.natCast_mul, IntWalk.i64_in _ (by omega)])
  have f6 := h6;try simp only [bl] at f6
  refine cK (tC (cS (sR ?_)));refine oF 0 Tryz.underlying69 Tryz.sizeOf3 ?_;refine oL Tryz.isAgg3 ?_;refine oV ?_;refine' o_and trivial trivial rfl rfl rfl rfl rfl rfl rfl rfl (fun hb99 => ?_) ?_;rotate_left
  ·
   have fb99 := hb99
   try simp only [bl] at fb99
   refine gF hb99 3 Tryz.underlying69 Tryz.sizeOf3 ?_;refine gL hb99 Tryz.isAgg3 ?_;refine gV hb99 ?_;refine oN ?_;exact joins rfl
  refine nT ?_;refine cC rfl (fun h7 => ?_) (fun h7 => ?_)
  ·
   have f7 := h7;try simp only [bl] at f7
   refine cR ?_;refine oV ?_;refine oF 3 Tryz.underlying69 Tryz.sizeOf3 ?_;refine oL Tryz.isAgg3 ?_;refine oV ?_;refine oV ?_;refine nS ?_;iterate 2 refine oV ?_
   refine nE ?_;refine ret1 rfl rfl ?_;refine leaf (Ext.refl _ _) (List.sublist_cons_self _ _) ⟨rfl, rfl, wRT_of hwr ?_⟩
   unfold wgtM
   dsimp only at hcd ⊢
   (have h7 : code = 7 := f7.1
    have he0 := f7.2
    rw [if_neg (show ¬ (2 ≤ code ∧ code ≤ 5) by omega), if_pos h7]
    have hmx : max 1 e.natAbs = e.natAbs := Nat.max_eq_right (show 1 ≤ e.natAbs by omega)
    rw [hmx] at hm20 ⊢
    have he1 : (l.getD a.toNat 0 : Int) * e = ((l.getD a.toNat 0 * e.natAbs : Nat) : Int) := by rw [Int.natCast_mul]; congr 1; omega
    rw [he1, IntWalk.i64_in _ (by omega)])
  have f7 := h7;try simp only [bl] at f7
  refine kS ?_;iterate 2 refine oV ?_
  refine nE ?_;refine ret1 rfl rfl ?_;refine leaf (Ext.refl _ _) (List.sublist_cons_self _ _) ⟨rfl, rfl, wRT_of hwr ?_⟩
  unfold wgtM
  dsimp only at hcd ⊢
  (by_cases h7 : code = 7
   · have he0 : e = 0 := by omega
     rw [if_neg (show ¬ (2 ≤ code ∧ code ≤ 5) by omega), if_pos h7, he0]
     show _ = ((_ * 1 : Nat) : Int)
     rw [Nat.mul_one]
   · rw [if_neg (show ¬ (2 ≤ code ∧ code ≤ 5) by omega), if_neg h7])
def nls (l : List Nat) : List (List Value) := l.map fun (x : Nat) => [Value.int .i64 (x : Int)]
theorem nls_len (l : List Nat) : (nls l).length = l.length := by simp [nls]
theorem PtV.one {I : Hp} {b : Nat} {neg : Bool} {n d : List Nat} {vn vd : Value} {T : TypeId} {fz : Nat × Nat} (hb : I b = some (.cells ([.bool neg, vn, vd] ++ [] : List Value).toArray T fz)) (hn : Ws I vn n) (hd : Ws I vd d) : PtV I (.slice (some ⟨b, 0, none⟩) 1 1) [⟨neg, n, d, vn, vd⟩] :=
  ⟨Slc.of_box (xss := [[.bool neg, vn, vd]]) hb (fun c hc => by rw [List.mem_singleton.1 hc]; rfl) (by unfold maxLen; simp) (Nat.le_refl _), fun x hx => by rw [List.mem_singleton.1 hx]; exact ⟨hn, hd⟩⟩
end Go.Proofs.YtfcmhcaggdakbaaGreatDoor
namespace Go.Tw
open Go
def opP (o : OpC) (p q : Rat) : Option Rat :=
  if o.code = 2 then some (p + q)
  else if o.code = 3 then some (p - q)
  else if o.code = 4 then some (p * q)
  else if o.code = 5 then (if q = 0 then none else some (p / q))
  else if o.code = 6 then some (-p)
  else if o.code = 7 then (if o.e < 0 ∧ p = 0 then none else some (p ^ o.e))
  else some (lowQ o.neg (val o.n) (val o.d))
structure OpOKr (o : OpC) (l : List Rat) : Prop where
  place : 0 ≤ o.a ∧ o.a < l.length ∧ 0 ≤ o.b ∧ o.b < l.length
  few : ∀ q ∈ l, Few 1400 q
  pow : o.code = 7 → ∃ c, Few c (zth l o.a) ∧ c ≤ 1300 ∧ c * o.e.natAbs ≤ 1300 ∧ -64 ≤ o.e ∧ o.e ≤ 64
  lits : o.n.length ≤ 3000 ∧ o.d.length ≤ 3000
theorem OpOKr.ok {o : OpC} {l : List Rat} (h : OpOKr o l) : OpOK o l :=
  ⟨fun _ _ => h.place, fun q hq => (h.few q hq).le (by decide), fun h7 => let ⟨c, h1, h2, h3, h4⟩ := h.pow h7; ⟨c, h1, by omega, by omega, h4⟩, by have := h.lits; omega⟩
def OpsOKr : List OpC → List Rat → Prop
  | [], _ => True
  | o :: r, l => OpOKr o l ∧ ∀ q, opR o l = some q → OpsOKr r (l ++ [q])
theorem OpsOKr.ok : ∀ {ops : List OpC} {l : List Rat}, OpsOKr ops l → OpsOK ops l
  | [], l, _ => trivial
  | o :: r, l, h => ⟨h.1.ok, fun q hq => (h.2 q hq).ok⟩
end Go.Tw
namespace Go.Proofs.YtfcmhcaggdakbaaGreatDoor
open Go Go.Tw
structure BdQ (w : Nat) (q : Rat) : Prop where
  num : q.num.natAbs ≤ 2 ^ (134 * w - 1)
  den : q.den ≤ 2 ^ (134 * w - 1)
theorem lowQ_le (neg : Bool) (n d : Nat) : (lowQ neg n d).num.natAbs ≤ n ∧ (lowQ neg n d).den ≤ max 1 d := by
  by_cases h : d = 0 ∨ n = 0
  · rw [lowQ_zero h]
    exact ⟨Nat.zero_le _, Nat.le_max_left _ _⟩
  · obtain ⟨h1, h2, _⟩ := lowQ_parts (neg := neg) (fun e => h (.inr e) : n ≠ 0) (fun e => h (.inl e) : d ≠ 0)
    rw [h1, h2]
    exact ⟨Nat.div_le_self _ _, Nat.le_trans (Nat.div_le_self _ _) (Nat.le_max_right _ _)⟩
theorem one_le_two_pow (k : Nat) : 1 ≤ 2 ^ k := Nat.pow_pos (by decide)
theorem BdQ.le {w v : Nat} {q : Rat} (h : BdQ w q) (hv : w ≤ v) : BdQ v q :=
  ⟨Nat.le_trans h.num (Nat.pow_le_pow_right (by decide) (by omega)), Nat.le_trans h.den (Nat.pow_le_pow_right (by decide) (by omega))⟩
theorem BdQ.add {w v : Nat} {p q : Rat} (hp : BdQ w p) (hq : BdQ v q) (hw : 1 ≤ w) (hv : 1 ≤ v) : BdQ (w + v) (p + q) := by
  rw [← qadd_num p q]
  have e : 2 ^ (134 * (w + v) - 1) = 2 ^ (134 * w - 1) * 2 ^ (134 * v - 1) * 2 := by
    rw [← Nat.pow_add, ← Nat.pow_succ]; congr 1; omega
  have hd : p.den * q.den ≤ 2 ^ (134 * w - 1) * 2 ^ (134 * v - 1) := Nat.mul_le_mul hp.den hq.den
  have h1 : p.num.natAbs * q.den ≤ 2 ^ (134 * w - 1) * 2 ^ (134 * v - 1) := Nat.mul_le_mul hp.num hq.den
  have h2 : q.num.natAbs * p.den ≤ 2 ^ (134 * w - 1) * 2 ^ (134 * v - 1) := by rw [Nat.mul_comm]; exact Nat.mul_le_mul hp.den hq.num
  have hn : (p.num * (q.den : Int) + q.num * (p.den : Int)).natAbs ≤ p.num.natAbs * q.den + q.num.natAbs * p.den := by
    refine Nat.le_trans (Int.natAbs_add_le _ _) ?_
    rw [Int.natAbs_mul, Int.natAbs_mul, Int.natAbs_natCast, Int.natAbs_natCast]
    exact Nat.le_refl _
  obtain ⟨k1, k2⟩ := lowQ_le (decide (p.num * (q.den : Int) + q.num * (p.den : Int) < 0)) (p.num * (q.den : Int) + q.num * (p.den : Int)).natAbs (p.den * q.den)
  have hpos : 0 < p.den * q.den := Nat.mul_pos p.den_pos q.den_pos
  rw [Nat.max_eq_right hpos] at k2
  generalize 2 ^ (134 * w - 1) * 2 ^ (134 * v - 1) = M at *
  exact ⟨by rw [e]; omega, by rw [e]; omega⟩
theorem BdQ.mul {w v : Nat} {p q : Rat} (hp : BdQ w p) (hq : BdQ v q) (hw : 1 ≤ w) (hv : 1 ≤ v) : BdQ (w + v) (p * q) := by
  rw [← lowQ_mul p q]
  have e : 2 ^ (134 * (w + v) - 1) = 2 ^ (134 * w - 1) * 2 ^ (134 * v - 1) * 2 := by
    rw [← Nat.pow_add, ← Nat.pow_succ]; congr 1; omega
  have hd : p.den * q.den ≤ 2 ^ (134 * w - 1) * 2 ^ (134 * v - 1) := Nat.mul_le_mul hp.den hq.den
  have h1 : p.num.natAbs * q.num.natAbs ≤ 2 ^ (134 * w - 1) * 2 ^ (134 * v - 1) := Nat.mul_le_mul hp.num hq.num
  obtain ⟨k1, k2⟩ := lowQ_le (decide (p.num < 0) != decide (q.num < 0)) (p.num.natAbs * q.num.natAbs) (p.den * q.den)
  have hpos : 0 < p.den * q.den := Nat.mul_pos p.den_pos q.den_pos
  rw [Nat.max_eq_right hpos] at k2
  generalize 2 ^ (134 * w - 1) * 2 ^ (134 * v - 1) = M at *
  exact ⟨by rw [e]; omega, by rw [e]; omega⟩
theorem BdQ.neg {w : Nat} {q : Rat} (h : BdQ w q) : BdQ w (-q) := ⟨by rw [Rat.neg_num, Int.natAbs_neg]; exact h.num, by rw [Rat.neg_den]; exact h.den⟩
theorem BdQ.sub {w v : Nat} {p q : Rat} (hp : BdQ w p) (hq : BdQ v q) (hw : 1 ≤ w) (hv : 1 ≤ v) : BdQ (w + v) (p - q) := by
  rw [Rat.sub_eq_add_neg]; exact hp.add hq.neg hw hv
theorem BdQ.inv {w : Nat} {q : Rat} (h : BdQ w q) (h0 : q ≠ 0) : BdQ w q⁻¹ := ⟨by rw [inv_num_abs h0]; exact h.den, by rw [inv_den h0]; exact h.num⟩
theorem BdQ.npow {w n : Nat} {q : Rat} (h : BdQ w q) (hw : 1 ≤ w) : BdQ (w * max 1 n) (q ^ n) := by
  have e : (2 ^ (134 * w - 1)) ^ n ≤ 2 ^ (134 * (w * max 1 n) - 1) := by
    rw [← Nat.pow_mul]
    refine Nat.pow_le_pow_right (by decide) ?_
    by_cases hn : n = 0
    · subst hn; exact Nat.zero_le _
    · rw [Nat.max_eq_right (by omega : 1 ≤ n), Nat.sub_mul, ← Nat.mul_assoc]
      have : n ≤ 134 * w * n := Nat.le_mul_of_pos_left _ (by omega)
      omega
  refine ⟨?_, ?_⟩
  · rw [Rat.num_pow, Int.natAbs_pow]; exact Nat.le_trans (Nat.pow_le_pow_left h.num _) e
  · rw [Rat.den_pow]; exact Nat.le_trans (Nat.pow_le_pow_left h.den _) e
theorem BdQ.pow {w : Nat} {q : Rat} (e : Int) (h : BdQ w q) (hw : 1 ≤ w) (h0 : ¬ (e < 0 ∧ q = 0)) : BdQ (w * max 1 e.natAbs) (q ^ e) := by
  rw [← powX_pow]
  refine BdQ.npow ?_ hw
  unfold powX
  split
  · rename_i he; exact h.inv (fun e0 => h0 ⟨he, e0⟩)
  · exact h
theorem BdQ.low {neg : Bool} {n d : Nat} (hn : n ≤ 2 ^ 133) (hd : d ≤ 2 ^ 133) : BdQ 1 (lowQ neg n d) := by
  obtain ⟨k1, k2⟩ := lowQ_le neg n d
  have := one_le_two_pow 133
  exact ⟨Nat.le_trans k1 hn, Nat.le_trans k2 (Nat.max_le.2 ⟨this, hd⟩)⟩
theorem val_small {A : List Nat} (h : Wds A) {k : Nat} (hk : A.length ≤ k) (h4 : k ≤ 4) : val A ≤ 2 ^ 133 := by
  have h1 := val_lt h
  have h2 : 4294967296 ^ A.length ≤ 4294967296 ^ 4 := Nat.pow_le_pow_right (by decide) (by omega)
  have h3 : 4294967296 ^ 4 ≤ 2 ^ 133 := by decide
  omega
theorem NV.bd {I : Hp} {x : NV} (h : x.ok I) (h1 : x.n.length ≤ 4) (h2 : x.d.length ≤ 4) : BdQ 1 x.q := BdQ.low (val_small h.1.wds h1 (Nat.le_refl _)) (val_small h.2.wds h2 (Nat.le_refl _))
structure BdL (l : List Nat) (qs : List Rat) : Prop where
  len : l.length = qs.length
  bd : ∀ i, i < l.length → BdQ (l.getD i 0) (qs.getD i 0)
  one : ∀ x ∈ l, 1 ≤ x ∧ x ≤ 200
theorem BdL.add {l : List Nat} {qs : List Rat} {m : Nat} {q : Rat} (h : BdL l qs) (hq : BdQ m q) (hm : 1 ≤ m ∧ m ≤ 200) : BdL (l ++ [m]) (qs ++ [q]) := by
  refine ⟨by simp [h.len], fun i hi => ?_, fun x hx => ?_⟩
  · simp only [List.length_append, List.length_cons, List.length_nil] at hi
    simp only [List.getD_eq_getElem?_getD]
    by_cases hil : i < l.length
    · rw [List.getElem?_append_left hil, List.getElem?_append_left (by rw [← h.len]; exact hil)]
      have := h.bd i hil
      simpa only [List.getD_eq_getElem?_getD] using this
    · have hi' : i = l.length := by omega
      subst hi'
      rw [List.getElem?_append_right (Nat.le_refl _), List.getElem?_append_right (by rw [h.len]; exact Nat.le_refl _), Nat.sub_self, h.len, Nat.sub_self]
      exact hq
  · rcases List.mem_append.1 hx with hx | hx
    · exact h.one x hx
    · rw [List.mem_singleton.1 hx]; exact hm
theorem getD_mem {α : Type} {l : List α} {i : Nat} {d : α} (h : i < l.length) : l.getD i d ∈ l := by
  rw [List.getD_eq_getElem?_getD, List.getElem?_eq_getElem h]; exact List.getElem_mem h
theorem BdQ.few {w : Nat} {q : Rat} (h : BdQ w q) (hw : 1 ≤ w) : Few (5 * w) q := by
  have e : 2 ^ (134 * w - 1) < 4294967296 ^ (5 * w) := by
    rw [pow_bits]; exact Nat.pow_lt_pow_right (by decide) (by omega)
  exact ⟨Nat.lt_of_le_of_lt h.num e, Nat.lt_of_le_of_lt h.den e⟩
theorem BdL.at_ {l : List Nat} {qs : List Rat} (h : BdL l qs) {i : Int} (hi : 0 ≤ i ∧ i < l.length) : BdQ (l.getD i.toNat 0) (zth qs i) ∧ 1 ≤ l.getD i.toNat 0 ∧ l.getD i.toNat 0 ≤ 200 :=
  ⟨h.bd i.toNat (by omega), h.one _ (getD_mem (by omega))⟩
theorem BdL.few {l : List Nat} {qs : List Rat} (h : BdL l qs) : ∀ q ∈ qs, Few 1000 q := fun q hq => by
  obtain ⟨i, hi, rfl⟩ := List.getElem_of_mem hq
  have hb := h.bd i (by rw [h.len]; exact hi)
  have ho := h.one _ (getD_mem (d := 0) (by rw [h.len]; exact hi : i < l.length))
  rw [List.getD_eq_getElem?_getD (l := qs), List.getElem?_eq_getElem hi] at hb
  exact (hb.few ho.1).le (by omega)
theorem BdL.start {qs : List Rat} (h : ∀ q ∈ qs, BdQ 1 q) : BdL (List.replicate qs.length 1) qs :=
  ⟨List.length_replicate, fun i hi => by
    rw [List.length_replicate] at hi
    rw [List.getD_eq_getElem?_getD, List.getElem?_replicate, if_pos hi]
    exact h _ (getD_mem hi), fun x hx => by rw [(List.mem_replicate.1 hx).2]; omega⟩
theorem digs_len10 : ∀ (k n : Nat), n < 10 ^ (k + 1) → (digs n).length ≤ k + 1
  | 0, n, h => by unfold digs; rw [dif_pos (by omega)]; exact Nat.le_refl _
  | k + 1, n, h => by
    unfold digs
    by_cases h1 : n < 10
    · rw [dif_pos h1]; simp
    · rw [dif_neg h1, List.length_cons]
      have := digs_len10 k (n / 10) (by rw [Nat.pow_succ] at h; omega)
      omega
def constC (q : Rat) : OpC := ⟨1, 0, 0, 0, decide (q.num < 0), natW q.num.natAbs, natW q.den⟩
theorem constOK_self {q : Rat} (h1 : q.num.natAbs < 10 ^ 40) (h2 : q.den < 10 ^ 40) : constOK (decide (q.num < 0)) (natW q.num.natAbs) (natW q.den) = true := by
  unfold constOK ratRight
  rw [val_natW, val_natW, lowQ_self]
  have e1 := digs_len10 39 _ h1
  have e2 := digs_len10 39 _ h2
  simp only [decide_true, Bool.and_self, Bool.true_and, decide_eq_true (show (digs q.num.natAbs).length ≤ 40 from e1), decide_eq_true (show (digs q.den).length ≤ 40 from e2)]
theorem constC_ok {q : Rat} (h1 : q.num.natAbs < 10 ^ 40) (h2 : q.den < 10 ^ 40) : fieldsOK (constC q) = true := by
  unfold fieldsOK constC
  dsimp only
  rw [if_pos rfl, constOK_self h1 h2]; rfl
theorem constC_w (q : Rat) (l : List Nat) : wgt (constC q) l = some 1 := rfl
def NV.of (q : Rat) (vn vd : Value) : NV := ⟨decide (q.num < 0), natW q.num.natAbs, natW q.den, vn, vd⟩
def plainO (c a b e : Int) : OpV := ⟨⟨c, a, b, e, false, [], []⟩, .slice none 0 0, .slice none 0 0⟩
theorem plainO_ok (I : Hp) (c a b e : Int) : (plainO c a b e).ok I := ⟨Ws.nil I, Ws.nil I⟩
theorem TapeV.of {I : Hp} {bo bu : Nat} {t : TapeC} (os : List OpV) {To Tu : TypeId} (ho : I bo = some (.cells (os.map OpV.cells).flatten.toArray To (0, 0))) (hu : I bu = some (.cells (ics t.outs).flatten.toArray Tu (0, 0))) (ok : ∀ o ∈ os, o.ok I) (eq : os.map OpV.c = t.ops) (hm : os.length ≤ 1000) (hm2 : t.outs.length ≤ 1000) :
    TapeV I (.slice (some ⟨bo, 0, none⟩) os.length os.length) (.slice (some ⟨bu, 0, none⟩) t.outs.length t.outs.length) t os := by
  refine ⟨?_, ok, eq, ?_⟩
  · have h := Slc.of_box (sz := 7) (c := os.length) ho (fun c hc => by obtain ⟨o, _, rfl⟩ := List.mem_map.1 hc; rfl) (by unfold maxLen; rw [List.length_map]; omega) (by rw [List.length_map]; exact Nat.le_refl _)
    rwa [List.length_map] at h
  · have h := Slc.of_box (sz := 1) (c := t.outs.length) hu (fun c hc => by obtain ⟨o, _, rfl⟩ := List.mem_map.1 hc; rfl) (by unfold maxLen; rw [ics_len]; omega) (by rw [ics_len]; exact Nat.le_refl _)
    rwa [ics_len] at h
theorem PtV.of {I : Hp} {b : Nat} (xs : List NV) {T : TypeId} (hb : I b = some (.cells (xs.map NV.cells).flatten.toArray T (0, 0))) (ok : ∀ x ∈ xs, x.ok I) (hm : xs.length ≤ 1000) : PtV I (.slice (some ⟨b, 0, none⟩) xs.length xs.length) xs := by
  refine ⟨?_, ok⟩
  have h := Slc.of_box (sz := 3) (c := xs.length) hb (fun c hc => by obtain ⟨o, _, rfl⟩ := List.mem_map.1 hc; rfl) (by unfold maxLen; rw [List.length_map]; omega) (by rw [List.length_map]; exact Nat.le_refl _)
  rwa [List.length_map] at h
theorem RsV.of {I : Hp} {b : Nat} (rs : List RV) {T : TypeId} (hb : I b = some (.cells (rcs rs).flatten.toArray T (0, 0))) (ok : ∀ x ∈ rs, x.ok I) (hm : rs.length ≤ 1000) : RsV I (.slice (some ⟨b, 0, none⟩) rs.length rs.length) (rs.map RV.q) := by
  refine ⟨rs, ?_, ok, rfl⟩
  have h := Slc.of_box (sz := 3) (c := rs.length) hb (rcs_three rs) (by unfold maxLen; rw [rcs_len]; omega) (by rw [rcs_len]; exact Nat.le_refl _)
  rwa [rcs_len] at h
theorem few_const {q : Rat} (h : BdQ 1 q) : OpC.few 3000 (constC q) := ⟨natW_few ((h.few (Nat.le_refl _)).num) (by decide), natW_few ((h.few (Nat.le_refl _)).den) (by decide)⟩
theorem few_none (c a b e : Int) : OpC.few 3000 ⟨c, a, b, e, false, [], []⟩ := ⟨Nat.zero_le _, Nat.zero_le _⟩
theorem bd_small {n : Int} {d : Nat} (hn : n.natAbs ≤ 1000000) (hd : d ≤ 1000000) : BdQ 1 (mkRat n d) := by
  rw [← lowQ_int]
  have : (1000000 : Nat) ≤ 2 ^ 133 := by decide
  exact BdQ.low (by omega) (by omega)
theorem RsV.nil (I : Hp) : RsV I (.slice none 0 0) [] := ⟨[], Slc.nil _ _, fun r h => (by cases h), rfl⟩
end Go.Proofs.YtfcmhcaggdakbaaGreatDoor
namespace Go.Tw
open Go
structure TurnC where
  op : Int
  a : Int
  b : Int
  n : Int
def TurnC.cells (t : TurnC) : List Value := [.int .u8 t.op, .int .u8 t.a, .int .u8 t.b, .int .u8 t.n]
structure TurnC.ok (t : TurnC) : Prop where
  op : 0 ≤ t.op ∧ t.op ≤ 255
  a : 0 ≤ t.a ∧ t.a ≤ 255
  b : 0 ≤ t.b ∧ t.b ≤ 255
  n : 0 ≤ t.n ∧ t.n ≤ 255
structure TnV (I : Hp) (v : Value) (ts : List TurnC) : Prop where
  s : Slc I 4 v (ts.map TurnC.cells)
  ok : ∀ t ∈ ts, t.ok
theorem TnV.le {I I' : Hp} {v : Value} {ts : List TurnC} (h : TnV I v ts) (hl : I.Le I') : TnV I' v ts := ⟨h.s.le hl, h.ok⟩
theorem TnV.at_ {I : Hp} {v : Value} {ts : List TurnC} (h : TnV I v ts) {i : Nat} {t : TurnC} (ht : ts[i]? = some t) : ∀ k y, ([.int .u8 t.op, .int .u8 t.a, .int .u8 t.b, .int .u8 t.n] : List Value)[k]? = some y → I.cell? ⟨slcB v, slcO v + i * 4 + k, none⟩ = some y :=
  h.s.cells i _ (by rw [List.getElem?_map, ht]; rfl)
def bcs (l : List Int) : List (List Value) := l.map fun z => [.int .u8 z]
structure ByV (I : Hp) (v : Value) (l : List Int) : Prop where
  s : Slc I 1 v (bcs l)
  ok : ∀ z ∈ l, 0 ≤ z ∧ z ≤ 255
theorem ByV.le {I I' : Hp} {v : Value} {l : List Int} (h : ByV I v l) (hl : I.Le I') : ByV I' v l := ⟨h.s.le hl, h.ok⟩
theorem bcs_len (l : List Int) : (bcs l).length = l.length := by simp [bcs]
theorem ByV.at_ {I : Hp} {v : Value} {l : List Int} (h : ByV I v l) {i : Nat} {z : Int} (hz : l[i]? = some z) : I.cell? ⟨slcB v, slcO v + i * 1, none⟩ = some (.int .u8 z) :=
  h.s.cells i _ (by unfold bcs; rw [List.getElem?_map, hz]; rfl) 0 _ rfl
structure SmallC where
  n : Int
  d : Int
def SmallC.cells (t : SmallC) : List Value := [.int .i8 t.n, .int .u8 t.d]
structure SmallC.ok (t : SmallC) : Prop where
  n : -128 ≤ t.n ∧ t.n ≤ 127
  d : 0 ≤ t.d ∧ t.d ≤ 255
structure SmV (I : Hp) (v : Value) (ts : List SmallC) : Prop where
  s : Slc I 2 v (ts.map SmallC.cells)
  ok : ∀ t ∈ ts, t.ok
theorem SmV.le {I I' : Hp} {v : Value} {ts : List SmallC} (h : SmV I v ts) (hl : I.Le I') : SmV I' v ts := ⟨h.s.le hl, h.ok⟩
theorem SmV.at_ {I : Hp} {v : Value} {ts : List SmallC} (h : SmV I v ts) {i : Nat} {t : SmallC} (ht : ts[i]? = some t) : ∀ k y, ([.int .i8 t.n, .int .u8 t.d] : List Value)[k]? = some y → I.cell? ⟨slcB v, slcO v + i * 2 + k, none⟩ = some y :=
  h.s.cells i _ (by rw [List.getElem?_map, ht]; rfl)
end Go.Tw
namespace Go.Proofs.YtfcmhcaggdakbaaGreatDoor
open Go Go.Tw
def op14 (t : TurnC) (n : Int) : OpC :=
  if 1 + t.op % 7 = 1 then constC (mkRat (IntKind.i8.wrap t.n) ((t.b % 5).toNat + 1))
  else if 1 + t.op % 7 ≤ 5 then ⟨1 + t.op % 7, t.a % n, t.b % n, 0, false, [], []⟩
  else if 1 + t.op % 7 = 6 then ⟨6, t.a % n, 0, 0, false, [], []⟩
  else ⟨7, t.a % n, 0, t.n % 7 - 3, false, [], []⟩
def step14 (t : TurnC) (l : List Nat) : OpC × Nat :=
  if 1 + t.op % 7 ≠ 1 ∧ 12 < wgtM (op14 t l.length) l then (constC (mkRat (IntKind.i8.wrap t.n) 1), 1)
  else (op14 t l.length, if 1 + t.op % 7 = 1 then 1 else wgtM (op14 t l.length) l)
def made14 : List TurnC → List Nat → List OpC × List Nat
  | [], l => ([], l)
  | t :: r, l => ((step14 t l).1 :: (made14 r (l ++ [(step14 t l).2])).1, (made14 r (l ++ [(step14 t l).2])).2)
def out14 (outs : List Int) (n : Int) : List Int := if outs.length = 0 then [n - 1] else outs.map fun z => n - 1 - z % n
def madeT (ins : Int) (outs : List Int) (ts : List TurnC) : TapeC :=
  ⟨1 + ins % 3, (made14 ts (List.replicate (1 + ins % 3).toNat 1)).1, out14 outs ((made14 ts (List.replicate (1 + ins % 3).toNat 1)).2.length : Nat)⟩
theorem i8_wrap (z : Int) : -128 ≤ IntKind.i8.wrap z ∧ IntKind.i8.wrap z ≤ 127 := by
  unfold IntKind.wrap
  simp only [IntKind.signed, IntKind.bits]
  simp
  omega
theorem op14_bd (z : Int) (d : Nat) (hd : d ≤ 1000) : BdQ 1 (mkRat (IntKind.i8.wrap z) d) := bd_small (by have := i8_wrap z; omega) (by omega)
theorem bd_const {z : Int} {d : Nat} (hz : -128 ≤ z ∧ z ≤ 127) (hd : d ≤ 1000) : fieldsOK (constC (mkRat z d)) = true := by
  have h := lowQ_le (decide (z < 0)) z.natAbs d
  rw [lowQ_int] at h
  have e : (1000 : Nat) < 10 ^ 40 := by decide
  exact constC_ok (by omega) (by have := h.2; omega)
structure Twelve (l : List Nat) : Prop where
  some_ : 0 < l.length
  all : ∀ x ∈ l, 1 ≤ x ∧ x ≤ 12
theorem Twelve.more {l : List Nat} {m : Nat} (h : Twelve l) (hm : 1 ≤ m ∧ m ≤ 12) : Twelve (l ++ [m]) := ⟨by simp, fun x hx => by
  rcases List.mem_append.1 hx with hx | hx
  · exact h.all x hx
  · rw [List.mem_singleton.1 hx]; exact hm⟩
theorem Twelve.le {l : List Nat} (h : Twelve l) : ∀ x ∈ l, x ≤ 200 := fun x hx => by have := h.all x hx; omega
theorem Twelve.ones {k : Nat} (hk : 0 < k) : Twelve (List.replicate k 1) := ⟨by rw [List.length_replicate]; exact hk, fun x hx => by rw [(List.mem_replicate.1 hx).2]; omega⟩
theorem mod_in {a : Int} {n : Nat} (h : 0 < n) : 0 ≤ a % (n : Int) ∧ a % (n : Int) < n := ⟨Int.emod_nonneg _ (by omega), Int.emod_lt_of_pos _ (by omega)⟩
theorem op14_ok {t : TurnC} {l : List Nat} (ht : t.ok) (hl : Twelve l) : fieldsOK (op14 t l.length) = true ∧ wgt (op14 t l.length) l = some (if 1 + t.op % 7 = 1 then 1 else wgtM (op14 t l.length) l) ∧ (1 + t.op % 7 ≠ 1 → 1 ≤ wgtM (op14 t l.length) l ∧ wgtM (op14 t l.length) l ≤ 200) := by
  have ho := ht.op
  have hn := ht.n
  have ha := mod_in (a := t.a) hl.some_
  have hb := mod_in (a := t.b) hl.some_
  have hp := hl.some_
  have g : ∀ z : Int, 0 ≤ z → z < l.length → 1 ≤ l.getD z.toNat 0 ∧ l.getD z.toNat 0 ≤ 12 := fun z h0 h1 => hl.all _ (getD_mem (by omega))
  have ga := g _ ha.1 ha.2
  have gb := g _ hb.1 hb.2
  unfold op14
  by_cases h1 : 1 + t.op % 7 = 1
  · rw [if_pos h1, if_pos h1]
    exact ⟨bd_const (i8_wrap _) (by omega), rfl, fun h => absurd h1 h⟩
  rw [if_neg h1, if_neg h1]
  have key : ∀ o : OpC, o.code ≠ 1 → (0 ≤ o.a ∧ o.a < l.length) → (0 ≤ o.b ∧ o.b < l.length) → fieldsOK o = true → (1 ≤ wgtM o l ∧ wgtM o l ≤ 200) → fieldsOK o = true ∧ wgt o l = some (wgtM o l) ∧ (1 + t.op % 7 ≠ 1 → 1 ≤ wgtM o l ∧ wgtM o l ≤ 200) := fun o hc h2 h3 h4 h5 => by
    refine ⟨h4, ?_, fun _ => h5⟩
    unfold wgt
    rw [if_neg hc, if_neg (by omega), if_pos h5.2]
  by_cases h2 : 1 + t.op % 7 ≤ 5
  · rw [if_pos h2]
    refine key _ h1 ha hb ?_ ?_
    · unfold fieldsOK emptyZ
      dsimp only
      rw [if_neg h1, if_pos (by omega)]; rfl
    · unfold wgtM
      dsimp only
      rw [if_pos (by omega)]; omega
  rw [if_neg h2]
  by_cases h3 : 1 + t.op % 7 = 6
  · rw [if_pos h3]
    refine key _ (show (6 : Int) ≠ 1 by decide) ha (by dsimp only; omega) rfl ?_
    unfold wgtM
    dsimp only
    rw [if_neg (by omega), if_neg (by omega)]; omega
  rw [if_neg h3]
  have he : -3 ≤ t.n % 7 - 3 ∧ t.n % 7 - 3 ≤ 3 := by omega
  refine key _ (show (7 : Int) ≠ 1 by decide) ha (by dsimp only; omega) ?_ ?_
  · unfold fieldsOK emptyZ
    dsimp only
    rw [if_neg (by omega), if_neg (by omega), if_neg (by omega), if_pos rfl, decide_eq_true (show (0 : Int) = 0 ∧ -20 ≤ t.n % 7 - 3 ∧ t.n % 7 - 3 ≤ 20 by omega)]; rfl
  · unfold wgtM
    dsimp only
    rw [if_neg (by omega), if_pos rfl]
    have h1 : l.getD (t.a % (l.length : Int)).toNat 0 * 1 ≤ l.getD (t.a % (l.length : Int)).toNat 0 * max 1 (t.n % 7 - 3).natAbs := Nat.mul_le_mul_left _ (Nat.le_max_left _ _)
    have h2 : l.getD (t.a % (l.length : Int)).toNat 0 * max 1 (t.n % 7 - 3).natAbs ≤ 12 * 3 := Nat.mul_le_mul (by omega) (by omega)
    omega
theorem op14_R {t : TurnC} {l : List Nat} (ht : t.ok) (hl : Twelve l) : wR (op14 t l.length) l = some (if 1 + t.op % 7 = 1 then 1 else wgtM (op14 t l.length) l) := by
  obtain ⟨h1, h2, _⟩ := op14_ok ht hl
  unfold wR
  rw [if_pos h1, h2]
theorem step14_ok {t : TurnC} {l : List Nat} (ht : t.ok) (hl : Twelve l) : fieldsOK (step14 t l).1 = true ∧ wgt (step14 t l).1 l = some (step14 t l).2 ∧ 1 ≤ (step14 t l).2 ∧ (step14 t l).2 ≤ 12 := by
  obtain ⟨h1, h2, h3⟩ := op14_ok ht hl
  unfold step14
  by_cases h : 1 + t.op % 7 ≠ 1 ∧ 12 < wgtM (op14 t l.length) l
  · rw [if_pos h]
    exact ⟨bd_const (i8_wrap _) (by omega), rfl, by dsimp only; omega, by dsimp only; omega⟩
  · rw [if_neg h]
    refine ⟨h1, h2, ?_⟩
    dsimp only
    split
    · omega
    · rename_i h4; have := h3 h4; omega
theorem made14_ok : ∀ {ts : List TurnC} {l : List Nat}, (∀ t ∈ ts, t.ok) → Twelve l → wgts (made14 ts l).1 l = some (made14 ts l).2 ∧ Twelve (made14 ts l).2 ∧ (made14 ts l).1.length = ts.length ∧ (made14 ts l).2.length = l.length + ts.length
  | [], l, _, hl => ⟨rfl, hl, rfl, rfl⟩
  | t :: r, l, ht, hl => by
    obtain ⟨h1, h2, h3, h4⟩ := step14_ok (ht t List.mem_cons_self) hl
    obtain ⟨k1, k2, k3, k4⟩ := made14_ok (fun x hx => ht x (List.mem_cons_of_mem _ hx)) (hl.more ⟨h3, h4⟩)
    unfold made14
    dsimp only
    refine ⟨?_, k2, by rw [List.length_cons, k3]; rfl, by rw [k4]; simp; omega⟩
    unfold wgts
    rw [if_pos h1, h2]
    exact k1
theorem op14_few {t : TurnC} {n : Int} : OpC.few 3000 (op14 t n) := by
  unfold op14
  split
  · exact few_const (op14_bd _ _ (by have := Int.emod_lt_of_pos t.b (show (0 : Int) < 5 by decide); omega))
  · split
    · exact few_none _ _ _ _
    · split <;> exact few_none _ _ _ _
theorem step14_few {t : TurnC} {l : List Nat} : OpC.few 3000 (step14 t l).1 := by
  have hc : ∀ d : Nat, d ≤ 1000 → OpC.few 3000 (constC (mkRat (IntKind.i8.wrap t.n) d)) := fun d hd => few_const (op14_bd _ _ hd)
  unfold step14
  by_cases h : 1 + t.op % 7 ≠ 1 ∧ 12 < wgtM (op14 t l.length) l
  · rw [if_pos h]; exact hc 1 (by decide)
  · rw [if_neg h]
    unfold op14
    dsimp only
    split
    · exact hc _ (by have := Int.emod_lt_of_pos t.b (show (0 : Int) < 5 by decide); omega)
    · split
      · exact few_none _ _ _ _
      · split <;> exact few_none _ _ _ _
theorem made14_few : ∀ {ts : List TurnC} {l : List Nat}, ∀ o ∈ (made14 ts l).1, OpC.few 3000 o
  | [], l, o, h => by cases h
  | t :: r, l, o, h => by
    unfold made14 at h
    rcases List.mem_cons.1 h with rfl | h
    · exact step14_few
    · exact made14_few o h
theorem made14_drop {ts : List TurnC} {i : Nat} {t : TurnC} (h : ts[i]? = some t) (l : List Nat) : made14 (ts.drop i) l = ((step14 t l).1 :: (made14 (ts.drop (i + 1)) (l ++ [(step14 t l).2])).1, (made14 (ts.drop (i + 1)) (l ++ [(step14 t l).2])).2) := by
  rw [List.drop_eq_getElem_cons (List.getElem?_eq_some_iff.1 h).1, (List.getElem?_eq_some_iff.1 h).2]; rfl
theorem out14_in {outs : List Int} {n : Nat} (h : 0 < n) : ∀ z ∈ out14 outs n, 0 ≤ z ∧ z < n := fun z hz => by
  unfold out14 at hz
  split at hz
  · rw [List.mem_singleton.1 hz]; omega
  · obtain ⟨y, _, rfl⟩ := List.mem_map.1 hz
    have := mod_in (a := y) h
    omega
theorem madeT_ok {ins : Int} {outs : List Int} {ts : List TurnC} (hi : 0 ≤ ins ∧ ins ≤ 255) (ho : outs.length ≤ 3) (ht : ∀ t ∈ ts, t.ok) (hm : ts.length ≤ 12) : tapeW (madeT ins outs ts) = some (made14 ts (List.replicate (1 + ins % 3).toNat 1)).2 ∧ ∀ o ∈ (madeT ins outs ts).ops, OpC.few 3000 o := by
  obtain ⟨h1, h2, h3, h4⟩ := made14_ok ht (Twelve.ones (k := (1 + ins % 3).toNat) (by omega))
  refine ⟨?_, fun o ho => made14_few o ho⟩
  have hol : 1 ≤ (madeT ins outs ts).outs.length ∧ (madeT ins outs ts).outs.length ≤ 3 := by
    unfold madeT out14
    dsimp only
    split
    · simp
    · rw [List.length_map]; omega
  unfold tapeW
  rw [if_neg (by
    have e1 : (madeT ins outs ts).ins = 1 + ins % 3 := rfl
    have e2 : (madeT ins outs ts).ops.length = ts.length := h3
    omega)]
  show (match wgts (made14 ts (List.replicate (1 + ins % 3).toNat 1)).1 (List.replicate (1 + ins % 3).toNat 1) with | none => none | some l => if ((madeT ins outs ts).outs.all fun z => decide (0 ≤ z ∧ z < l.length)) = true then some l else none) = _
  rw [h1]
  dsimp only
  exact if_pos (List.all_eq_true.2 fun z hz => decide_eq_true (out14_in h2.some_ z hz))
def ocs (os : List OpV) : List (List Value) := os.map OpV.cells
theorem ocs_len (os : List OpV) : (ocs os).length = os.length := by simp [ocs]
theorem ocs_seven (os : List OpV) : ∀ c ∈ ocs os, c.length = 7 := by
  intro c hc
  obtain ⟨r, _, rfl⟩ := List.mem_map.1 hc
  rfl
theorem ocs_more (os : List OpV) (o : OpV) : (ocs os).flatten ++ ([.int .i64 o.c.code, .int .i64 o.c.a, .int .i64 o.c.b, .int .i64 o.c.e, .bool o.c.neg, o.vn, o.vd] ++ []) = (ocs (os ++ [o])).flatten := by
  unfold ocs; rw [List.map_append, List.flatten_append]; rfl
theorem seven_plain {I : Hp} {a b c d : Int} {s : Bool} {u1 u2 : Value} {X Y : List Nat} (h1 : Ws I u1 X) (h2 : Ws I u2 Y) : plain1 ([.int .i64 a, .int .i64 b, .int .i64 c, .int .i64 d, .bool s, u1, u2] ++ []) = true := by
  have e1 := h1.cells1.2
  have e2 := h2.cells1.2
  show (true && (true && (true && (true && (true && (u1.oneCell' && (u2.oneCell' && true))))))) = true
  rw [e1, e2]; rfl
theorem op14_any (t : TurnC) (n : Nat) {I : Hp} (ht : t.ok) (hn : 0 < n ∧ n ≤ 1000000) : Fun Tryz.prog 70 [.agg #[.int .u8 t.op, .int .u8 t.a, .int .u8 t.b, .int .u8 t.n], .int .i64 (n : Nat)] I []
    (fun v I' _ => ∃ o : OpV, v = .agg #[.int .i64 o.c.code, .int .i64 o.c.a, .int .i64 o.c.b, .int .i64 o.c.e, .bool o.c.neg, o.vn, o.vd] ∧ o.c = op14 t n ∧ o.ok I') := by
  obtain ⟨ho, ha, hb, hnn⟩ := ht
  have hi := i8_wrap t.n
  have hma := mod_in (a := t.a) hn.1
  have hmb := mod_in (a := t.b) hn.1
  intro w hw
  refine enter2 _ Tryz.func70 rfl Tryz.ntmps70 rfl ?_ hw;refine sR ?_;refine o_box trivial rfl rfl rfl (fun b2 => ?_);refine o_alloc trivial rfl Tryz.zeroValue69 rfl (fun b4 => ?_);refine nS ?_;refine oF 0 Tryz.underlying117 Tryz.sizeOf5 ?_;refine oL Tryz.isAgg5 ?_;refine o_rem trivial rfl rfl rfl (by omega) ?_
  first | refine o_convIn trivial rfl Tryz.underlying5 Tryz.underlying3 rfl (by rw [IntWalk.i64_in _ (by omega)]) ?_ | refine o_conv trivial rfl Tryz.underlying5 Tryz.underlying3 rfl ?_
  first | (refine o_add trivial rfl rfl rfl ?_ ?_; (omega)) | refine oV ?_
  refine oV ?_;refine nS ?_;refine oF 1 Tryz.underlying117 Tryz.sizeOf5 ?_;refine oL Tryz.isAgg5 ?_
  first | refine o_convIn trivial rfl Tryz.underlying5 Tryz.underlying3 rfl (by rw [IntWalk.i64_in _ (by omega)]) ?_ | refine o_conv trivial rfl Tryz.underlying5 Tryz.underlying3 rfl ?_
  refine oV ?_;refine o_rem trivial rfl rfl rfl (by omega) ?_;refine oV ?_;refine nS ?_;refine oF 2 Tryz.underlying117 Tryz.sizeOf5 ?_;refine oL Tryz.isAgg5 ?_
  first | refine o_convIn trivial rfl Tryz.underlying5 Tryz.underlying3 rfl (by rw [IntWalk.i64_in _ (by omega)]) ?_ | refine o_conv trivial rfl Tryz.underlying5 Tryz.underlying3 rfl ?_
  refine oV ?_;refine o_rem trivial rfl rfl rfl (by omega) ?_;refine oV ?_;refine oN (tC (cS (cB (sR ?_))));iterate 3 refine oV ?_
  refine nT ?_;refine cC rfl (fun h1 => ?_) (fun h1 => ?_)
  ·
   have f1 := h1;try simp only [bl] at f1
   refine sR ?_;refine oF 3 Tryz.underlying117 Tryz.sizeOf5 ?_;refine oL Tryz.isAgg5 ?_;refine o_conv trivial rfl Tryz.underlying5 Tryz.underlying119 rfl ?_;refine oF 2 Tryz.underlying117 Tryz.sizeOf5 ?_;refine oL Tryz.isAgg5 ?_;refine o_rem trivial rfl rfl rfl (by omega) ?_
   have e5 : t.b % 5 = ((t.b % 5).toNat : Int) := by omega
   rw [e5]
   refine oI Tryz.call71 rfl (rSmall8_any (IntKind.i8.wrap t.n) (t.b % 5).toNat hi (by omega)) ?_;rintro _ I1 hx1 ⟨u1, u2, rfl, k1, k2⟩;refine o_buildS trivial rfl (bld69) rfl (.cons rfl rfl rfl (by repeat constructor) (.cons rfl rfl rfl (by repeat constructor) .nil)) ?_;refine oS Tryz.sizeOf69 ?_;refine oN (tC (cT (blk_r (tR ?_))));refine retR rfl (.agg Tryz.isAgg69 Tryz.sizeOf69 rfl (by repeat constructor) rfl .nil) ?_;refine leaf hx1 (List.nil_sublist _) ⟨⟨constC (mkRat (IntKind.i8.wrap t.n) ((t.b % 5).toNat + 1)), u1, u2⟩, rfl, ?_, k1, k2⟩
   unfold op14; rw [if_pos f1]
  have f1 := h1;try simp only [bl] at f1
  refine sR ?_;iterate 3 refine oV ?_
  refine nT ?_;refine cC rfl (fun h2 => ?_) (fun h2 => ?_)
  ·
   have f2 := h2;try simp only [bl] at f2
   refine sR ?_;iterate 3 refine oV ?_
   refine o_buildS trivial rfl (bld69) rfl (.cons rfl rfl rfl (by repeat constructor) (.cons rfl rfl rfl (by repeat constructor) (.cons rfl rfl rfl (by repeat constructor) .nil))) ?_;refine oS Tryz.sizeOf69 ?_;refine oN (tC (cT (blk_r (tR ?_))));refine retR rfl (.agg Tryz.isAgg69 Tryz.sizeOf69 rfl (by repeat constructor) rfl .nil) ?_;refine leaf0 ⟨⟨⟨1 + t.op % 7, t.a % n, t.b % n, 0, false, [], []⟩, .slice none 0 0, .slice none 0 0⟩, rfl, ?_, Ws.nil _, Ws.nil _⟩
   unfold op14; rw [if_neg f1, if_pos f2]
  have f2 := h2;try simp only [bl] at f2
  refine sR ?_;iterate 3 refine oV ?_
  refine nT ?_;refine cC rfl (fun h3 => ?_) (fun h3 => ?_)
  ·
   have f3 := h3;try simp only [bl] at f3
   refine sR ?_;refine oV ?_;refine o_buildS trivial rfl (bld69) rfl (.cons rfl rfl rfl (by repeat constructor) (.cons rfl rfl rfl (by repeat constructor) .nil)) ?_;refine oS Tryz.sizeOf69 ?_;refine oN (tC (cT (blk_r (tR ?_))));refine retR rfl (.agg Tryz.isAgg69 Tryz.sizeOf69 rfl (by repeat constructor) rfl .nil) ?_;refine leaf0 ⟨⟨⟨6, t.a % n, 0, 0, false, [], []⟩, .slice none 0 0, .slice none 0 0⟩, rfl, ?_, Ws.nil _, Ws.nil _⟩
   unfold op14; rw [if_neg f1, if_neg (by omega), if_pos f3]
  have f3 := h3;try simp only [bl] at f3
  refine cK (blk_n (tC (sR ?_)));refine oV ?_;refine oF 3 Tryz.underlying117 Tryz.sizeOf5 ?_;refine oL Tryz.isAgg5 ?_;refine o_rem trivial rfl rfl rfl (by omega) ?_
  first | refine o_convIn trivial rfl Tryz.underlying5 Tryz.underlying3 rfl (by rw [IntWalk.i64_in _ (by omega)]) ?_ | refine o_conv trivial rfl Tryz.underlying5 Tryz.underlying3 rfl ?_
  first | (refine o_sub trivial rfl rfl rfl ?_ ?_; (omega)) | refine oV ?_
  refine o_buildS trivial rfl (bld69) rfl (.cons rfl rfl rfl (by repeat constructor) (.cons rfl rfl rfl (by repeat constructor) (.cons rfl rfl rfl (by repeat constructor) .nil))) ?_;refine oS Tryz.sizeOf69 ?_;refine nE ?_;refine retR rfl (.agg Tryz.isAgg69 Tryz.sizeOf69 rfl (by repeat constructor) rfl .nil) ?_;refine leaf0 ⟨⟨⟨7, t.a % n, 0, t.n % 7 - 3, false, [], []⟩, .slice none 0 0, .slice none 0 0⟩, rfl, ?_, Ws.nil _, Ws.nil _⟩
  unfold op14; rw [if_neg f1, if_neg (by omega), if_neg f3]
theorem step14_heavy {t : TurnC} {l : List Nat} {m : Int} (ht : t.ok) (hl : Twelve l) (hm : ∀ k, wR (op14 t l.length) l = some k → m = k) (h : m > 12) : step14 t l = (constC (mkRat (IntKind.i8.wrap t.n) 1), 1) := by
  have e := hm _ (op14_R ht hl)
  unfold step14
  refine if_pos ?_
  split at e
  · omega
  · exact ⟨by assumption, by omega⟩
theorem step14_light {t : TurnC} {l : List Nat} {m : Int} (ht : t.ok) (hl : Twelve l) (hm : ∀ k, wR (op14 t l.length) l = some k → m = k) (h : m ≤ 12) : ∃ k : Nat, m = k ∧ step14 t l = (op14 t l.length, k) := by
  have e := hm _ (op14_R ht hl)
  refine ⟨_, e, ?_⟩
  unfold step14
  refine if_neg ?_;rintro ⟨h1, h2⟩
  rw [if_neg h1] at e
  omega
theorem made14_app {ts : List TurnC} {l0 : List Nat} {i : Nat} {t : TurnC} {O : List OpC} {l : List Nat} {o : OpC} {m : Nat} (h : ts[i]? = some t) (hI : made14 ts l0 = (O ++ (made14 (ts.drop i) l).1, (made14 (ts.drop i) l).2)) (hs : step14 t l = (o, m)) :
    made14 ts l0 = ((O ++ [o]) ++ (made14 (ts.drop (i + 1)) (l ++ [m])).1, (made14 (ts.drop (i + 1)) (l ++ [m])).2) := by
  rw [hI, made14_drop h, hs]; simp
theorem ics_flat (l : List Int) : (ics l).flatten = l.map fun z => Value.int .i64 z := by
  induction l with
  | nil => rfl
  | cons x l ih => show [_] ++ (ics l).flatten = _; rw [ih]; rfl
theorem ics_more (l : List Int) (z : Int) : (ics l).flatten ++ [.int .i64 z] = (ics (l ++ [z])).flatten := by rw [ics_flat, ics_flat]; simp
theorem ics_one (l : List Int) : ∀ c ∈ ics l, c.length = 1 := by
  intro c hc
  obtain ⟨r, _, rfl⟩ := List.mem_map.1 hc
  rfl
theorem out14_take {outs : List Int} {i : Nat} {z : Int} (h : outs[i]? = some z) (n : Int) : (outs.take (i + 1)).map (fun z => n - 1 - z % n) = (outs.take i).map (fun z => n - 1 - z % n) ++ [n - 1 - z % n] := by
  rw [List.take_add_one, h, List.map_append]; rfl
theorem made_any (ins most : Int) (vouts vl : Value) (outs : List Int) (ts : List TurnC) {I : Hp} (hins : 0 ≤ ins ∧ ins ≤ 255) (ho : ByV I vouts outs) (hl : TnV I vl ts) (hm : most ≤ 12) (hol : outs.length ≤ 3) (htl : (ts.length : Int) ≤ most) :
    Fun Tryz.prog 39 [.int .u8 ins, vouts, vl, .int .i64 most] I [] (fun v I' _ => ∃ vo vu os, v = .agg #[.int .i64 (1 + ins % 3), vo, vu] ∧ TapeV I' vo vu (madeT ins outs ts) os) := by
  have hbl := bcs_len outs
  have hos := ho.s
  have hls := hl.s
  have htk : (ts.map TurnC.cells).length = ts.length := List.length_map _
  obtain ⟨q1, q2, q3, q4⟩ := made14_ok hl.ok (Twelve.ones (k := (1 + ins % 3).toNat) (by omega))
  intro w hw
  refine enter4 _ Tryz.func39 rfl Tryz.ntmps39 rfl ?_ hw;refine sR ?_;refine o_alloc trivial rfl Tryz.zeroValue56 rfl (fun b8 => ?_);refine nS ?_;refine oV ?_;refine o_rem trivial rfl rfl rfl (by omega) ?_
  first | refine o_convIn trivial rfl Tryz.underlying5 Tryz.underlying3 rfl (by rw [IntWalk.i64_in _ (by omega)]) ?_ | refine o_conv trivial rfl Tryz.underlying5 Tryz.underlying3 rfl ?_
  first | (refine o_add trivial rfl rfl rfl ?_ ?_; (omega)) | refine oV ?_
  refine o_buildS trivial rfl (bld56) rfl (.cons rfl rfl rfl (by repeat constructor) .nil) ?_;refine o_alloc trivial rfl Tryz.zeroValue56 rfl (fun b9 => ?_);refine oS Tryz.sizeOf56 ?_;refine nS ?_;refine oV ?_;refine nU ?_;refine oV ?_;refine oN (tC (cB ?_));refine c_loop (ι := Nat × Value) [1, 2, 3, 8, 9] (.cons rfl (.cons rfl (.cons rfl (.cons rfl (.cons rfl .nil))))) (fun x => (1 + ins % 3).toNat - x.1) (fun x E0 => (10, x.2) :: (11, .int .i64 (x.1 : Int)) :: E0) (fun x => St w [] I [.row x.2 3 1 x.1 (nvs (List.replicate x.1 1)), .box b9 (.cells #[.int .i64 (1 + ins % 3), .slice none 0 0, .slice none 0 0] 56 (0, 0)), .box b8 (.cells #[.int .i64 0, .slice none 0 0, .slice none 0 0] 56 (0, 0))]) (fun x => x.1 ≤ (1 + ins % 3).toNat) ((0, .slice none 0 0)) (sC rfl (sC rfl (sC rfl (sC rfl (sC rfl (sC rfl (sC rfl sN))))))) (fun _ h => h.nilRow _ _) (Nat.zero_le _) ?_;rintro ⟨i, u⟩ hi
  try dsimp only
  simp only at hi
  refine cS (sR ?_);refine oV ?_;refine oF 0 Tryz.underlying56 Tryz.sizeOf3 ?_;refine oL Tryz.isAgg3 ?_;refine oV ?_;refine nT ?_;refine cC rfl (fun h1 => ?_) (fun h1 => ?_)
  ·
   have f1 := h1;try simp only [bl] at f1
   refine cK (tC (cS (cB (cR ?_))));refine oV ?_;refine oB Tryz.underlying52 Tryz.sizeOf3 Tryz.zeroValue3 fun b28 => ?_;refine oD Tryz.underlying52 elem3 fun v29 => ?_;refine oV ?_;refine oN (blk_n (tC (cR ?_)));refine oV ?_
   first | (refine o_add trivial rfl rfl rfl ?_ ?_; (omega)) | refine oV ?_
   refine oV ?_;refine oN ?_;exact again (i + 1, v29) (sC rfl (sC rfl (sC rfl (sC rfl (sC rfl (sC rfl (sC rfl sN))))))) (fun _ h => by rw [← nvs_ones]; exact h.sort (by repeat constructor)) (by show (1 + ins % 3).toNat - (i + 1) < (1 + ins % 3).toNat - i; omega) (by show i + 1 ≤ _; omega)
  have f1 := h1;try simp only [bl] at f1
  refine c_exit (then_x (then_x (blk_eq rfl (tC (cS (cS ?_))))))
  have hin : i = (1 + ins % 3).toNat := by omega
  subst hin
  refine cR ?_;refine oV ?_;refine oN (tC (cB ?_));refine c_loop (ι := Nat × List OpV × List Nat × Value × Value × Hp) [1, 2, 3, 8, 9] (.cons rfl (.cons rfl (.cons rfl (.cons rfl (.cons rfl .nil))))) (fun x => ts.length - x.1) (fun x E0 => (10, x.2.2.2.2.1) :: (12, .int .i64 (x.1 : Int)) :: E0) (fun x => St w [] x.2.2.2.2.2 [.row x.2.2.2.1 69 7 x.2.1.length (ocs x.2.1).flatten, .row x.2.2.2.2.1 3 1 x.2.2.1.length (nvs x.2.2.1), .box b9 (.cells #[.int .i64 (1 + ins % 3), x.2.2.2.1, .slice none 0 0] 56 (0, 0)), .box b8 (.cells #[.int .i64 0, .slice none 0 0, .slice none 0 0] 56 (0, 0))]) (fun x => x.1 ≤ ts.length ∧ x.2.1.length = x.1 ∧ (∀ o ∈ x.2.1, o.ok x.2.2.2.2.2) ∧ Twelve x.2.2.1 ∧ x.2.2.1.length = (1 + ins % 3).toNat + x.1 ∧ made14 ts (List.replicate (1 + ins % 3).toNat 1) = (x.2.1.map OpV.c ++ (made14 (ts.drop x.1) x.2.2.1).1, (made14 (ts.drop x.1) x.2.2.1).2) ∧ Ext w.heap.size I x.2.2.2.2.2) ((0, [], List.replicate (1 + ins % 3).toNat 1, .slice none 0 0, u, I)) (sC rfl (sC rfl (sC rfl (sC rfl (sC rfl (sC rfl (sC rfl sN))))))) (fun _ h => by rw [List.length_replicate]; exact (h.nilRow 69 7).sort (by repeat constructor)) (⟨Nat.zero_le _, rfl, fun o ho => (by cases ho), Twelve.ones (by omega), by rw [List.length_replicate]; rfl, rfl, Ext.refl _ _⟩) ?_;rintro ⟨i, os, l, uo, uw, I1⟩ ⟨hi, hosl, hok, hT, hll, hM, hx1⟩
  try dsimp only
  simp only at hi hosl hok hT hll hM hx1; have hlp := hT.some_
  refine cS (sR ?_);iterate 2 refine oV ?_
  refine o_lenSlc trivial rfl Tryz.underlying65 rfl (hls) ?_;refine oV ?_;refine' o_and trivial trivial rfl rfl rfl rfl rfl rfl rfl rfl (fun hb34 => ?_) ?_;rotate_left
  ·
   iterate 3 refine gV hb34 ?_
   refine oN ?_;exact joins rfl
  refine nT ?_;refine cC rfl (fun h2 => ?_) (fun h2 => ?_)
  ·
   have f2 := h2;try simp only [bl] at f2
   obtain ⟨t, ht⟩ : ∃ t, ts[i]? = some t := ⟨ts[i], List.getElem?_eq_getElem (by omega)⟩
   have hto := hl.ok t (List.mem_of_getElem? ht)
   refine cK (tC (cS (cB (sR ?_))));iterate 2 refine oV ?_
   refine o_elem trivial rfl Tryz.underlying65 Tryz.sizeOf117 rfl (hls.le hx1.le) rfl (by omega) ?_;refine o_loadAI trivial rfl Tryz.isAgg117 Tryz.sizeOf117 rfl rfl ((hl.le hx1.le).at_ ht) ?_;refine oV ?_;refine o_lenRow trivial rfl Tryz.underlying52 rfl (by repeat constructor) ?_;refine oI Tryz.call70 rfl (op14_any t l.length hto (by omega)) ?_;rintro _ I2 hx2 ⟨o, rfl, hoc, hon, hod⟩;refine o_alloc trivial rfl Tryz.zeroValue69 rfl (fun b13 => ?_);refine oS Tryz.sizeOf69 ?_;refine nS ?_;refine oA Tryz.isAgg69 Tryz.sizeOf69 ?_;refine oV ?_;refine oC trivial rfl Tryz.call69 rfl (weightR_any o.c.code o.c.a o.c.b o.c.e o.c.neg o.vn o.vd uw o.c.n o.c.d l hon hod (by rw [hoc]; exact op14_few.1) (by rw [hoc]; exact op14_few.2) (by omega) hT.le) (by repeat constructor) ?_;rintro _ _ _ hx3 ⟨rfl, rfl, m, rfl, hm1, hm2⟩;refine oV ?_;refine oN (tC (cS (cS ?_)))
   have hm3 : ∀ k, wR (op14 t l.length) l = some k → m = k := by rw [← hoc]; exact hm1
   refine cR ?_;iterate 2 refine oV ?_
   refine nT ?_;refine cC rfl (fun h3 => ?_) (fun h3 => ?_)
   ·
    have f3 := h3;try simp only [bl] at f3
    have hst := step14_heavy hto hT hm3 f3
    refine sR ?_;iterate 2 refine oV ?_
    refine o_elem trivial rfl Tryz.underlying65 Tryz.sizeOf117 rfl (hls.le (hx1.le.trans (hx2.le.trans hx3.le))) rfl (by omega) ?_;refine oF 3 Tryz.underlying117 Tryz.sizeOf5 ?_;refine o_load1I trivial rfl Tryz.isAgg5 rfl ((hl.le (hx1.le.trans (hx2.le.trans hx3.le))).at_ ht 3 _ rfl) ?_;refine o_conv trivial rfl Tryz.underlying5 Tryz.underlying119 rfl ?_;refine oI Tryz.call71 rfl (rSmall8_any (IntKind.i8.wrap t.n) 0 (i8_wrap _) (by decide)) ?_;rintro _ I4 hx4 ⟨u1, u2, rfl, k1, k2⟩;refine o_buildS trivial rfl (bld69) rfl (.cons rfl rfl rfl (by repeat constructor) (.cons rfl rfl rfl (by repeat constructor) .nil)) ?_;refine oS Tryz.sizeOf69 ?_;refine nR ?_;refine oV ?_;refine nS ?_;refine oF 1 Tryz.underlying56 Tryz.sizeOf54 ?_;refine oL Tryz.isAgg54 ?_;refine oA Tryz.isAgg69 Tryz.sizeOf69 ?_;refine oB Tryz.underlying54 Tryz.sizeOf69 Tryz.zeroValue69 fun b64 => ?_;refine o_appendBox trivial rfl Tryz.underlying54 (elem69) (by decide) rfl rfl (fun v' => (by repeat constructor)) (by repeat constructor) rfl (by first | exact seven_plain k1 k2 | exact seven_plain hon hod) (by first | omega | (unfold maxLen; omega)) (by omega) (fun v65 => ?_);refine oF 1 Tryz.underlying56 Tryz.sizeOf54 ?_;refine l_rowCells (u := v65) (by repeat constructor) (fun hcv => ?_);refine o_storeBox1 trivial rfl rfl (hcv).1 Tryz.sizeOf54 (hcv).2 (by repeat constructor) (by exact Nat.le_of_ble_eq_true rfl) ?_;refine nR ?_;iterate 2 refine oV ?_
    refine oB Tryz.underlying52 Tryz.sizeOf3 Tryz.zeroValue3 fun b69 => ?_;refine oD Tryz.underlying52 elem3 fun v70 => ?_;refine oV ?_;refine oN (blk_n (tC (cR ?_)));refine oV ?_
    first | (refine o_add trivial rfl rfl rfl ?_ ?_; (omega)) | refine oV ?_
    refine oV ?_;refine oN ?_
    first
    | exact again (i + 1, os ++ [⟨constC (mkRat (IntKind.i8.wrap t.n) 1), u1, u2⟩], l ++ [1], v65, v70, I4) (sC rfl (sC rfl (sC rfl (sC rfl (sC rfl (sC rfl (sC rfl sN))))))) (fun _ h => by rw [← nvs_more, ← ocs_more, List.length_append, List.length_append]; exact h.sort (by repeat constructor)) (by show ts.length - (i + 1) < ts.length - i; omega) ⟨by show i + 1 ≤ _; omega, by simp only [List.length_append, List.length_cons, List.length_nil]; omega, fun x hx => by
        rcases List.mem_append.1 hx with hx | hx
        · exact (hok x hx).le (hx2.le.trans (hx3.le.trans hx4.le))
        · rw [List.mem_singleton.1 hx]; exact ⟨k1, k2⟩, hT.more (by omega), by simp only [List.length_append, List.length_cons, List.length_nil]; omega, by rw [List.map_append]; exact made14_app ht hM hst, hx1.trans (hx2.trans (hx3.trans hx4 (Nat.le_refl _)) (Nat.le_refl _)) (Nat.le_refl _)⟩
    | (have h12 := (step14_ok hto hT).2.2
       rw [hst] at h12
       exact again (i + 1, os ++ [o], l ++ [k], v65, v70, _) (sC rfl (sC rfl (sC rfl (sC rfl (sC rfl (sC rfl (sC rfl sN))))))) (fun _ h => by rw [← nvs_more, ← ocs_more, List.length_append, List.length_append]; exact h.sort (by repeat constructor)) (by show ts.length - (i + 1) < ts.length - i; omega) ⟨by show i + 1 ≤ _; omega, by simp only [List.length_append, List.length_cons, List.length_nil]; omega, fun x hx => by
        rcases List.mem_append.1 hx with hx | hx
        · exact (hok x hx).le (hx2.le.trans hx3.le)
        · rw [List.mem_singleton.1 hx]; exact ⟨hon.le hx3.le, hod.le hx3.le⟩, hT.more h12, by simp only [List.length_append, List.length_cons, List.length_nil]; omega, by rw [List.map_append]; exact made14_app ht hM hst2, hx1.trans (hx2.trans hx3 (Nat.le_refl _)) (Nat.le_refl _)⟩)
   have f3 := h3;try simp only [bl] at f3
   obtain ⟨k, rfl, hst⟩ := step14_light hto hT hm3 (by omega)
   have hst2 : step14 t l = (o.c, k) := by rw [hst, hoc]
   refine kS ?_;refine oF 1 Tryz.underlying56 Tryz.sizeOf54 ?_;refine oL Tryz.isAgg54 ?_;refine oA Tryz.isAgg69 Tryz.sizeOf69 ?_;refine oB Tryz.underlying54 Tryz.sizeOf69 Tryz.zeroValue69 fun b64 => ?_;refine o_appendBox trivial rfl Tryz.underlying54 (elem69) (by decide) rfl rfl (fun v' => (by repeat constructor)) (by repeat constructor) rfl (by first | exact seven_plain k1 k2 | exact seven_plain hon hod) (by first | omega | (unfold maxLen; omega)) (by omega) (fun v65 => ?_);refine oF 1 Tryz.underlying56 Tryz.sizeOf54 ?_;refine l_rowCells (u := v65) (by repeat constructor) (fun hcv => ?_);refine o_storeBox1 trivial rfl rfl (hcv).1 Tryz.sizeOf54 (hcv).2 (by repeat constructor) (by exact Nat.le_of_ble_eq_true rfl) ?_;refine nR ?_;iterate 2 refine oV ?_
   refine oB Tryz.underlying52 Tryz.sizeOf3 Tryz.zeroValue3 fun b69 => ?_;refine oD Tryz.underlying52 elem3 fun v70 => ?_;refine oV ?_;refine oN (blk_n (tC (cR ?_)));refine oV ?_
   first | (refine o_add trivial rfl rfl rfl ?_ ?_; (omega)) | refine oV ?_
   refine oV ?_;refine oN ?_
   first
   | exact again (i + 1, os ++ [⟨constC (mkRat (IntKind.i8.wrap t.n) 1), u1, u2⟩], l ++ [1], v65, v70, I4) (sC rfl (sC rfl (sC rfl (sC rfl (sC rfl (sC rfl (sC rfl sN))))))) (fun _ h => by rw [← nvs_more, ← ocs_more, List.length_append, List.length_append]; exact h.sort (by repeat constructor)) (by show ts.length - (i + 1) < ts.length - i; omega) ⟨by show i + 1 ≤ _; omega, by simp only [List.length_append, List.length_cons, List.length_nil]; omega, fun x hx => by
       rcases List.mem_append.1 hx with hx | hx
       · exact (hok x hx).le (hx2.le.trans (hx3.le.trans hx4.le))
       · rw [List.mem_singleton.1 hx]; exact ⟨k1, k2⟩, hT.more (by omega), by simp only [List.length_append, List.length_cons, List.length_nil]; omega, by rw [List.map_append]; exact made14_app ht hM hst, hx1.trans (hx2.trans (hx3.trans hx4 (Nat.le_refl _)) (Nat.le_refl _)) (Nat.le_refl _)⟩
   | (have h12 := (step14_ok hto hT).2.2
      rw [hst] at h12
      exact again (i + 1, os ++ [o], l ++ [k], v65, v70, _) (sC rfl (sC rfl (sC rfl (sC rfl (sC rfl (sC rfl (sC rfl sN))))))) (fun _ h => by rw [← nvs_more, ← ocs_more, List.length_append, List.length_append]; exact h.sort (by repeat constructor)) (by show ts.length - (i + 1) < ts.length - i; omega) ⟨by show i + 1 ≤ _; omega, by simp only [List.length_append, List.length_cons, List.length_nil]; omega, fun x hx => by
       rcases List.mem_append.1 hx with hx | hx
       · exact (hok x hx).le (hx2.le.trans hx3.le)
       · rw [List.mem_singleton.1 hx]; exact ⟨hon.le hx3.le, hod.le hx3.le⟩, hT.more h12, by simp only [List.length_append, List.length_cons, List.length_nil]; omega, by rw [List.map_append]; exact made14_app ht hM hst2, hx1.trans (hx2.trans hx3 (Nat.le_refl _)) (Nat.le_refl _)⟩)
  have f2 := h2;try simp only [bl] at f2
  refine c_exit (then_x (then_x (blk_eq rfl (tC (cS (cS ?_))))))
  have hin : i = ts.length := by omega
  subst hin
  rw [List.drop_length] at hM
  have hM1 : (made14 ts (List.replicate (1 + ins % 3).toNat 1)).1 = os.map OpV.c := by rw [hM]; simp [made14]
  have hM2 : (made14 ts (List.replicate (1 + ins % 3).toNat 1)).2 = l := by rw [hM]; rfl
  refine cR ?_;refine oV ?_;refine oN (tC (cB ?_));refine c_loop (ι := Nat × Value) [1, 8, 9, 10] (.cons rfl (.cons rfl (.cons rfl (.cons rfl .nil)))) (fun x => outs.length - x.1) (fun x E0 => (15, .int .i64 (x.1 : Int)) :: E0) (fun x => St w [] I1 [.row x.2 3 1 x.1 (ics ((outs.take x.1).map fun z => ((l.length : Nat) : Int) - 1 - z % ((l.length : Nat) : Int))).flatten, .row uo 69 7 os.length (ocs os).flatten, .row uw 3 1 l.length (nvs l), .box b9 (.cells #[.int .i64 (1 + ins % 3), uo, x.2] 56 (0, 0)), .box b8 (.cells #[.int .i64 0, .slice none 0 0, .slice none 0 0] 56 (0, 0))]) (fun x => x.1 ≤ outs.length) ((0, .slice none 0 0)) (sC rfl (sC rfl (sC rfl (sC rfl (sC rfl sN))))) (fun _ h => (h.nilRow 3 1).sort (by repeat constructor)) (Nat.zero_le _) ?_;rintro ⟨j, uu⟩ hj
  try dsimp only
  simp only at hj; have hlp := hT.some_
  refine cS (sR ?_);iterate 2 refine oV ?_
  refine o_lenSlc trivial rfl Tryz.underlying64 rfl (hos.le hx1.le) ?_;refine oV ?_;refine' o_and trivial trivial rfl rfl rfl rfl rfl rfl rfl rfl (fun hb75 => ?_) ?_;rotate_left
  ·
   iterate 2 refine gV hb75 ?_
   refine oN ?_;exact joins rfl
  refine nT ?_;refine cC rfl (fun h4 => ?_) (fun h4 => ?_)
  ·
   have f4 := h4;try simp only [bl] at f4
   obtain ⟨z, hz⟩ : ∃ z, outs[j]? = some z := ⟨outs[j], List.getElem?_eq_getElem (by omega)⟩
   have hzo := ho.ok z (List.mem_of_getElem? hz)
   have hmz := mod_in (a := z) hlp
   refine cK (tC (cS (cB ?_)));refine h_beginB (m := 18) [.row uw 3 1 l.length (nvs l)] (by repeat constructor) (by kernel_rfl) rfl ?_;refine qT (i := 0) (qB 18 1) (Hp.Le.refl _) rfl rfl (oF 2 Tryz.underlying56 Tryz.sizeOf52 qF) ?_;refine qT (i := 2) (qB 18 5) (Hp.Le.refl _) rfl rfl (oV qF) ?_;refine qT (i := 3) (qB 18 13) (Hp.Le.refl _) rfl rfl (o_lenRow trivial rfl Tryz.underlying52 rfl (by repeat constructor) qF) ?_;refine' qT (i := 4) (qB 18 29) (Hp.Le.refl _) rfl rfl ?hh0 ?kk0
   case hh0 =>
    first | (refine o_sub trivial rfl rfl rfl ?_ ?_; (omega)) | refine oV ?_
    exact qF
   refine qT (i := 5) (qB 18 61) (Hp.Le.refl _) rfl rfl (oV qF) ?_;refine qT (i := 6) (qB 18 125) (Hp.Le.refl _) rfl rfl (oV qF) ?_;refine qT (i := 7) (qB 18 253) (Hp.Le.refl _) rfl rfl (o_elem trivial rfl Tryz.underlying64 Tryz.sizeOf5 rfl (hos.le hx1.le) rfl (by omega) qF) ?_;refine qT (i := 8) (qB 18 509) (Hp.Le.refl _) rfl rfl (o_load1I trivial rfl Tryz.isAgg5 rfl ((ho.le hx1.le).at_ hz) qF) ?_;refine' qT (i := 9) (qB 18 1021) (Hp.Le.refl _) rfl rfl ?hh1 ?kk1
   case hh1 =>
    first | refine o_convIn trivial rfl Tryz.underlying5 Tryz.underlying3 rfl (by rw [IntWalk.i64_in _ (by omega)]) ?_ | refine o_conv trivial rfl Tryz.underlying5 Tryz.underlying3 rfl ?_
    exact qF
   refine qT (i := 10) (qB 18 2045) (Hp.Le.refl _) rfl rfl (oV qF) ?_;refine qT (i := 11) (qB 18 4093) (Hp.Le.refl _) rfl rfl (o_lenRow trivial rfl Tryz.underlying52 rfl (by repeat constructor) qF) ?_;refine qT (i := 12) (qB 18 8189) (Hp.Le.refl _) rfl rfl (o_rem trivial rfl rfl rfl (by omega) qF) ?_;refine' qT (i := 13) (qB 18 16381) (Hp.Le.refl _) rfl rfl ?hh2 ?kk2
   case hh2 =>
    first | (refine o_sub trivial rfl rfl rfl ?_ ?_; (omega)) | refine oV ?_
    exact qF
   refine h_go [1, 14] (by kernel_rfl) rfl (TWHs.cons ?_ (TWHs.cons ?_ TWHs.nil))
   ·
    refine qP (qB 18 16383) rfl ?_;refine oL Tryz.isAgg52 ?_;refine qM (Hp.Le.refl _) ?_;refine qO (i := 14) (qB 18 32767) rfl ?_;refine oB Tryz.underlying52 Tryz.sizeOf3 Tryz.zeroValue3 fun b95 => ?_;refine qM (Hp.Le.refl _) ?_;refine qO (i := 15) (qB 18 65535) rfl ?_;refine oD Tryz.underlying52 elem3 fun v96 => ?_;refine qM (Hp.Le.refl _) ?_;refine qT (i := 16) (qB 18 131071) (Hp.Le.refl _) rfl rfl (oF 2 Tryz.underlying56 Tryz.sizeOf52 qF) ?_;refine qO (i := 17) (qB 18 262143) rfl ?_;refine l_rowCells (u := v96) (by repeat constructor) (fun hcv => ?_);refine o_storeBox1 trivial rfl rfl (hcv).1 Tryz.sizeOf52 (hcv).2 (by repeat constructor) (by exact Nat.le_of_ble_eq_true rfl) ?_;refine qM (Hp.Le.refl _) ?_;refine h_end (by kernel_rfl) ?_;refine blk_n (tC (cR ?_));refine oV ?_
    first | (refine o_add trivial rfl rfl rfl ?_ ?_; (omega)) | refine oV ?_
    refine oV ?_;refine oN ?_;exact again (j + 1, v96) (sC rfl (sC rfl (sC rfl (sC rfl (sC rfl sN))))) (fun _ h => by rw [out14_take hz, ← ics_more]; exact h.sort (by repeat constructor)) (by show outs.length - (j + 1) < outs.length - j; omega) (by show j + 1 ≤ _; omega)
   refine qP (qB 18 32765) rfl ?_;refine oB Tryz.underlying52 Tryz.sizeOf3 Tryz.zeroValue3 fun b95 => ?_;refine qM (Hp.Le.refl _) ?_;refine qO (i := 1) (qB 18 32767) rfl ?_;refine oL Tryz.isAgg52 ?_;refine qM (Hp.Le.refl _) ?_;refine qO (i := 15) (qB 18 65535) rfl ?_;refine oD Tryz.underlying52 elem3 fun v96 => ?_;refine qM (Hp.Le.refl _) ?_;refine qT (i := 16) (qB 18 131071) (Hp.Le.refl _) rfl rfl (oF 2 Tryz.underlying56 Tryz.sizeOf52 qF) ?_;refine qO (i := 17) (qB 18 262143) rfl ?_;refine l_rowCells (u := v96) (by repeat constructor) (fun hcv => ?_);refine o_storeBox1 trivial rfl rfl (hcv).1 Tryz.sizeOf52 (hcv).2 (by repeat constructor) (by exact Nat.le_of_ble_eq_true rfl) ?_;refine qM (Hp.Le.refl _) ?_;refine h_end (by kernel_rfl) ?_;refine blk_n (tC (cR ?_));refine oV ?_
   first | (refine o_add trivial rfl rfl rfl ?_ ?_; (omega)) | refine oV ?_
   refine oV ?_;refine oN ?_;exact again (j + 1, v96) (sC rfl (sC rfl (sC rfl (sC rfl (sC rfl sN))))) (fun _ h => by rw [out14_take hz, ← ics_more]; exact h.sort (by repeat constructor)) (by show outs.length - (j + 1) < outs.length - j; omega) (by show j + 1 ≤ _; omega)
  have f4 := h4;try simp only [bl] at f4
  refine c_exit (then_x (then_x (blk_eq rfl (tC (cS (cS ?_))))))
  have hin : j = outs.length := by omega
  subst hin
  rw [List.take_length]
  refine cR ?_;refine oF 2 Tryz.underlying56 Tryz.sizeOf52 ?_;refine oL Tryz.isAgg52 ?_;refine o_lenRow trivial rfl Tryz.underlying52 rfl (by repeat constructor) ?_;refine oV ?_;refine nT ?_;refine cC rfl (fun h5 => ?_) (fun h5 => ?_)
  ·
   have f5 := h5;try simp only [bl] at f5
   have hout : (madeT ins outs ts).outs = [((l.length : Nat) : Int) - 1] := by
     show out14 outs _ = _
     unfold out14
     rw [if_pos (by omega), hM2]
   refine cR ?_;refine oV ?_;refine o_lenRow trivial rfl Tryz.underlying52 rfl (by repeat constructor) ?_
   first | (refine o_sub trivial rfl rfl rfl ?_ ?_; (omega)) | refine oV ?_
   refine oB Tryz.underlying52 Tryz.sizeOf3 Tryz.zeroValue3 fun b105 => ?_;refine oF 2 Tryz.underlying56 Tryz.sizeOf52 ?_;refine oS Tryz.sizeOf52 ?_;refine oN (tC (cS ?_));refine c_sealR (u := uo) (xss := ocs os) (by repeat constructor) (ocs_len os) (ocs_seven os) (by unfold maxLen; omega) (fun I6 hx6 hso => ?_)
   have hsu : ∀ {I7 : Hp} {vu : Value} {xs : List Int}, xs = (madeT ins outs ts).outs → Slc I7 1 vu (ics xs) → I6.Le I7 → TapeV I7 uo vu (madeT ins outs ts) os := fun {I7} {vu} {xs} he hs hl7 => ⟨hso.le hl7, fun o ho => (hok o ho).le (hx6.le.trans hl7), hM1.symm, by rw [← he]; exact hs⟩
   first
     | refine c_sealB (b := b105) (by repeat constructor) (fun I7 hx7 hb105 => ?_)
       have htv := hsu hout.symm (Slc.of_box (xss := [[.int .i64 (((l.length : Nat) : Int) - 1)]]) hb105 (fun c hc => by rw [List.mem_singleton.1 hc]; rfl) (by unfold maxLen; simp) (Nat.le_refl _)) hx7.le
     | refine c_sealR (u := uu) (xss := ics (outs.map fun z => ((l.length : Nat) : Int) - 1 - z % ((l.length : Nat) : Int))) (by repeat constructor) (by rw [ics_len, List.length_map]) (ics_one _) (by unfold maxLen; omega) (fun I7 hx7 hsv => ?_)
       have htv := hsu hout.symm hsv hx7.le
   have hso7 := hso.le hx7.le
   have hsu7 := htv.su
   refine cR ?_;refine oA Tryz.isAgg56 Tryz.sizeOf56 ?_;refine oS Tryz.sizeOf56 ?_;refine nE ?_;refine retR rfl (.agg Tryz.isAgg56 Tryz.sizeOf56 rfl (by repeat constructor) rfl .nil) ?_;exact leaf (hx1.trans (hx6.trans hx7 (Nat.le_refl _)) (Nat.le_refl _)) (List.nil_sublist _) ⟨_, _, os, rfl, htv⟩
  have f5 := h5;try simp only [bl] at f5
  have hout : (madeT ins outs ts).outs = outs.map fun z => ((l.length : Nat) : Int) - 1 - z % ((l.length : Nat) : Int) := by
    show out14 outs _ = _
    unfold out14
    rw [if_neg (by omega), hM2]
  refine cK (tC (cS ?_));refine c_sealR (u := uo) (xss := ocs os) (by repeat constructor) (ocs_len os) (ocs_seven os) (by unfold maxLen; omega) (fun I6 hx6 hso => ?_)
  have hsu : ∀ {I7 : Hp} {vu : Value} {xs : List Int}, xs = (madeT ins outs ts).outs → Slc I7 1 vu (ics xs) → I6.Le I7 → TapeV I7 uo vu (madeT ins outs ts) os := fun {I7} {vu} {xs} he hs hl7 => ⟨hso.le hl7, fun o ho => (hok o ho).le (hx6.le.trans hl7), hM1.symm, by rw [← he]; exact hs⟩
  first
    | refine c_sealB (b := b105) (by repeat constructor) (fun I7 hx7 hb105 => ?_)
      have htv := hsu hout.symm (Slc.of_box (xss := [[.int .i64 (((l.length : Nat) : Int) - 1)]]) hb105 (fun c hc => by rw [List.mem_singleton.1 hc]; rfl) (by unfold maxLen; simp) (Nat.le_refl _)) hx7.le
    | refine c_sealR (u := uu) (xss := ics (outs.map fun z => ((l.length : Nat) : Int) - 1 - z % ((l.length : Nat) : Int))) (by repeat constructor) (by rw [ics_len, List.length_map]) (ics_one _) (by unfold maxLen; omega) (fun I7 hx7 hsv => ?_)
      have htv := hsu hout.symm hsv hx7.le
  have hso7 := hso.le hx7.le
  have hsu7 := htv.su
  refine cR ?_;refine oA Tryz.isAgg56 Tryz.sizeOf56 ?_;refine oS Tryz.sizeOf56 ?_;refine nE ?_;refine retR rfl (.agg Tryz.isAgg56 Tryz.sizeOf56 rfl (by repeat constructor) rfl .nil) ?_;exact leaf (hx1.trans (hx6.trans hx7 (Nat.le_refl _)) (Nat.le_refl _)) (List.nil_sublist _) ⟨_, _, os, rfl, htv⟩
def arI (b : Nat) (l : List Int) : Tw.Item := .box b (.cells (ivs l).toArray 3 (0, 0))
theorem lowPlace_any (vi vl vo va : Value) (p : ProgC) (ns : List NodeV) (s : ByteArray) (pl : List Int) {I : Hp} (b1 b8 b32 n : Nat) {T1 T8 : TypeId} {z1 z8 : Nat × Nat} (hp : ProgV I vi vl vo va p ns) (hf : ∀ o ∈ ns, o.c.few 2000000)
    (hB1 : I b1 = some (.cells #[vi, vl, vo, va] T1 z1)) (hB8 : I b8 = some (.cells #[.slice (some ⟨b32, 0, none⟩) n n] T8 z8)) (hn : pl.length = n) (hn2 : n = p.all.length) (ho : InOrd p) :
    Fun Tryz.prog 64 [.string s, .pointer (some ⟨b1, 0, none⟩), .pointer (some ⟨b8, 0, none⟩)] I [arI b32 pl] (fun v I' B' => I = I' ∧ v = .int .i64 (plcZ p pl s) ∧ B' = [arI b32 pl]) := by
  have hsi := hp.si
  have hsl := hp.sl
  have hso := hp.so
  have hsa := hp.sa
  have hll : (p.lets.map LetC.cells).length = p.lets.length := List.length_map _
  unfold arI
  intro w hw
  refine enter3 _ Tryz.func64 rfl Tryz.ntmps64 rfl ?_ hw;refine sR ?_;refine oV ?_;refine nS ?_;refine o_loadAI trivial rfl Tryz.isAgg26 Tryz.sizeOf26 rfl rfl ((fun k y h => by unfold Hp.cell?; rw [hB1]; show (#[vi, vl, vo, va] : Array Value)[0 + k]? = some y; rw [Nat.zero_add]; simpa using h)) ?_;refine oV ?_;refine oQ Tryz.call19 rfl (scWhere_any vi vl vo va p ns s hp hf) ?_;iterate 7 refine oV ?_
  refine nU ?_;refine oV ?_;refine nT ?_;refine cC rfl (fun h1 => ?_) (fun h1 => ?_)
  ·
   have f1 := h1;try simp only [bl] at f1
   obtain ⟨k1, c, hc, k2, k3⟩ := ho.place s h1
   have hcl := (List.getElem?_eq_some_iff.1 hc).1
   have hpz : plcZ p pl s = pl.getD c.root.toNat 0 := by
     unfold plcZ
     rw [if_pos h1, List.getD_eq_getElem?_getD (l := p.lets), hc]; rfl
   refine cS ?_;refine c_quiet (by kernel_rfl) (by kernel_rfl) (fun _ h => h.drawn) ?_;refine o_load1I trivial rfl Tryz.isAgg52 rfl (by unfold Hp.cell?; rw [hB8]; rfl) ?_;refine oF 1 Tryz.underlying26 Tryz.sizeOf23 ?_;refine o_load1I trivial rfl Tryz.isAgg23 rfl (by unfold Hp.cell?; rw [hB1]; rfl) ?_;refine oV ?_;refine o_elem trivial rfl Tryz.underlying23 Tryz.sizeOf39 rfl (hsl) rfl (by omega) ?_;refine oF 1 Tryz.underlying39 Tryz.sizeOf3 ?_;refine o_load1I trivial rfl Tryz.isAgg3 rfl (lts_at hsl hc 1 _ rfl) ?_;refine o_elemV trivial rfl Tryz.underlying52 Tryz.sizeOf3 rfl rfl (by omega) ?_;refine o_loadBox1 trivial rfl Tryz.isAgg3 rfl (by repeat constructor) ((by rw [show 0 + c.root.toNat * 1 = c.root.toNat by omega]; exact ivs_get (by omega))) ?_;refine oV ?_;refine nF ?_;refine ret1 rfl rfl ?_;exact fun w' hw' => ⟨I, [.box b32 (.cells (ivs pl).toArray 3 (0, 0))], hw'.sort (by repeat constructor), Ext.refl _ _, rfl, by rw [hpz], rfl⟩
  have f1 := h1;try simp only [bl] at f1
  have hpz : plcZ p pl s = (whereZ p s).2.1 := by unfold plcZ; rw [h1]; rfl
  refine kS ?_;iterate 2 refine oV ?_
  refine nE ?_;refine ret1 rfl rfl ?_;exact fun w' hw' => ⟨I, [.box b32 (.cells (ivs pl).toArray 3 (0, 0))], hw'.sort (by repeat constructor), Ext.refl _ _, rfl, by rw [hpz]; rfl, rfl⟩
theorem lowerT_any (vi vl vo va : Value) (p : ProgC) (ns : List NodeV) {I : Hp} (hp : ProgV I vi vl vo va p ns) (hf : ∀ o ∈ ns, o.c.few 3000) :
    Fun Tryz.prog 30 [.agg #[vi, vl, vo, va]] I [] (fun v I' _ => LowV (lowZ p) v I') := by
  have hsi := hp.si
  have hsl := hp.sl
  have hso := hp.so
  have hsa := hp.sa
  have hla := nds_len ns
  have hlo := scs_len p.outs
  have hli := scs_len p.ins
  have hal : p.all.length = ns.length := by rw [← hp.eq, List.length_map]
  have hf2 : ∀ o ∈ ns, o.c.few 2000000 := fun o ho => ⟨Nat.le_trans (hf o ho).1 (by decide), Nat.le_trans (hf o ho).2 (by decide)⟩
  intro w hw
  refine enter1 _ Tryz.func30 rfl Tryz.ntmps30 rfl ?_ hw;refine sR ?_;refine o_box trivial rfl rfl rfl (fun b1 => ?_);refine o_alloc trivial rfl Tryz.zeroValue56 rfl (fun b2 => ?_);iterate 2 refine oV ?_
  refine nU ?_;refine oA Tryz.isAgg26 Tryz.sizeOf26 ?_;refine oQ Tryz.call17 rfl (scCheck_any vi vl vo va p ns hp hf2) ?_;iterate 5 refine oV ?_
  refine nS ?_;iterate 2 refine oV ?_
  refine nT ?_;refine cC rfl (fun h1 => ?_) (fun h1 => ?_)
  ·
   have f1 := h1;try simp only [bl] at f1
   have hz : lowZ p = ⟨noT, (readZ p).name, (readZ p).err⟩ := if_pos f1
   refine sR ?_;refine o_buildS trivial rfl (bld56) rfl .nil ?_;iterate 2 refine oV ?_
   refine oS Tryz.sizeOf56 ?_;iterate 2 refine oV ?_
   refine nF ?_;refine retR rfl (.agg Tryz.isAgg56 Tryz.sizeOf56 rfl (by repeat constructor) rfl (.tmp rfl (.tmp rfl .nil))) ?_;refine leaf (Ext.refl _ _) (List.nil_sublist _) ?_
   rw [hz]
   exact ⟨N0, N0, [], rfl, ⟨Slc.nil _ _, fun o ho => (by cases ho), rfl, Slc.nil _ _⟩, fun o ho => by cases ho⟩
  have f1 := h1;try simp only [bl] at f1
  have hz : lowZ p = if (tapeW (lowT p)).isSome = true then ⟨lowT p, ⟨#[]⟩, 0⟩ else ⟨noT, ⟨#[]⟩, 4⟩ := if_neg (fun h => h f1)
  have hin := inOrd f1
  obtain ⟨q1, q2, q3⟩ := hin.few
  refine kS ?_;refine oF 0 Tryz.underlying26 Tryz.sizeOf22 ?_;refine oL Tryz.isAgg22 ?_;refine o_lenSlc trivial rfl Tryz.underlying22 rfl (hsi) ?_;refine o_buildS trivial rfl (bld56) rfl (.cons rfl rfl rfl (by repeat constructor) .nil) ?_;refine o_alloc trivial rfl Tryz.zeroValue56 rfl (fun b7 => ?_);refine oS Tryz.sizeOf56 ?_;refine nS ?_;refine oF 3 Tryz.underlying26 Tryz.sizeOf24 ?_;refine oL Tryz.isAgg24 ?_;refine o_lenSlc trivial rfl Tryz.underlying24 rfl (hsa) ?_;refine o_makeBox trivial rfl Tryz.underlying52 elemz3 rfl rfl (by omega) (by omega) (by (unfold maxLen; omega)) (fun b32 => ?_);refine o_alloc trivial rfl Tryz.zeroValue52 rfl (fun b8 => ?_);refine oS Tryz.sizeOf52 ?_;refine oN (tC (cS ?_))
  rw [Int.toNat_natCast, made_ivs, hla, hli]
  refine c_sealB (b := b1) (by repeat constructor) (fun I1 hx1 hB1 => ?_);refine c_sealB (b := b8) (by repeat constructor) (fun I2 hx2 hB8 => ?_)
  have hxl := hx1.le.trans hx2.le
  have hB1' := hx2.le _ _ hB1
  have hp2 := hp.le hxl
  have hsa2 := hsa.le hxl
  have hso2 := hso.le hxl
  have hplace : ∀ (s : ByteArray) (pl : List Int), pl.length = ns.length → Fun Tryz.prog 64 [.string s, .pointer (some ⟨b1, 0, none⟩), .pointer (some ⟨b8, 0, none⟩)] I2 [arI b32 pl] (fun v I' B' => I2 = I' ∧ v = .int .i64 (plcZ p pl s) ∧ B' = [arI b32 pl]) :=
    fun s pl hpl => lowPlace_any vi vl vo va p ns s pl b1 b8 b32 ns.length hp2 hf2 hB1' hB8 hpl hal.symm hin
  unfold arI at hplace
  refine cR ?_;iterate 2 refine oV ?_
  refine nU ?_;refine oF 3 Tryz.underlying26 Tryz.sizeOf24 ?_;refine o_load1I trivial rfl Tryz.isAgg24 rfl (by unfold Hp.cell?; rw [hB1']; rfl) ?_;refine o_lenSlc trivial rfl Tryz.underlying24 rfl (hsa2) ?_;refine oV ?_;refine oN (tC (cB ?_));refine c_loop (ι := Nat × List Int × List OpV × Value) [1, 2, 7, 8, 9, 35, 36] (.cons rfl (.cons rfl (.cons rfl (.cons rfl (.cons rfl (.cons rfl (.cons rfl .nil))))))) (fun x => ns.length - x.1) (fun x E0 => (37, .int .i64 (x.1 : Nat)) :: E0) (fun x => St w [] I2 [.row x.2.2.2 69 7 x.2.2.1.length (ocs x.2.2.1).flatten, arI b32 x.2.1, .box b7 (.cells #[.int .i64 (p.ins.length : Nat), x.2.2.2, .slice none 0 0] 56 (0, 0)), .box b2 (.cells #[.int .i64 0, .slice none 0 0, .slice none 0 0] 56 (0, 0))]) (fun x => x.1 ≤ ns.length ∧ x.2.1.length = ns.length ∧ x.2.2.1.length ≤ x.1 ∧ (∀ o ∈ x.2.2.1, o.ok I2 ∧ OpC.few 3000 o.c) ∧ lowAll p = lowGo p (p.all.drop x.1) x.1 x.2.1 (x.2.2.1.map OpV.c)) ((0, List.replicate ns.length 0, [], .slice none 0 0)) (sC rfl (sC rfl (sC rfl (sC rfl (sC rfl (sC rfl (sC rfl (sC rfl sN)))))))) (fun _ h => (h.nilRow 69 7).sort (by repeat constructor)) (⟨Nat.zero_le _, List.length_replicate, Nat.le_refl _, fun o ho => (by cases ho), by show lowAll p = lowGo p p.all 0 (List.replicate ns.length 0) []; rw [← hal]; rfl⟩) ?_;rintro ⟨i, pl, os, u⟩ ⟨hi, hpl, hol, hok, hgo⟩
  try dsimp only
  simp only at hi hpl hol hok hgo; have hpll := ivs_len pl; unfold arI
  refine sR ?_;refine oV ?_;refine oN (tC (cS ?_));refine cC rfl (fun h2 => ?_) (fun h2 => ?_)
  ·
   have f2 := h2;try simp only [bl] at f2
   obtain ⟨o, ho⟩ : ∃ o, ns[i]? = some o := ⟨ns[i]'(by omega), List.getElem?_eq_getElem (by omega)⟩
   have hom := List.mem_of_getElem? ho
   have hoc : p.all[i]? = some o.c := by rw [← hp.eq, List.getElem?_map, ho]; rfl
   have hw1 : Ws I2 o.vn o.c.n := ((hp.ok o hom).le hxl).1
   have hw2 : Ws I2 o.vd o.c.d := ((hp.ok o hom).le hxl).2
   rw [lowGo_step hoc] at hgo
   have hknd := hin.kind o.c (List.mem_of_getElem? hoc)
   have hlow := hin.low i o.c hoc
   refine cK (tC (cS (cB (sR ?_))));refine oV ?_;refine o_elem trivial rfl Tryz.underlying24 Tryz.sizeOf37 rfl (hsa2) rfl (by omega) ?_;refine o_loadAI trivial rfl Tryz.isAgg37 Tryz.sizeOf37 rfl rfl (nds_at hsa2 ho) ?_;refine o_alloc trivial rfl Tryz.zeroValue37 rfl (fun b11 => ?_);refine oV ?_;refine oS Tryz.sizeOf37 ?_;refine nU ?_;refine oF 0 Tryz.underlying37 Tryz.sizeOf3 ?_;refine oL Tryz.isAgg3 ?_;refine oV ?_;refine nT ?_;refine cC rfl (fun h3 => ?_) (fun h3 => ?_)
   ·
    have f3 := h3;try simp only [bl] at f3
    rw [if_pos f3] at hgo
    refine cS ?_;refine h_beginB (m := 8) [.box b11 _] (by repeat constructor) (by kernel_rfl) rfl ?_;refine qT (i := 0) (qB 8 1) (Hp.Le.refl _) rfl rfl (o_load1I trivial rfl Tryz.isAgg52 rfl (by unfold Hp.cell?; rw [hB8]; rfl) qF) ?_;refine qT (i := 1) (qB 8 3) (Hp.Le.refl _) rfl rfl (oV qF) ?_;refine qT (i := 2) (qB 8 7) (Hp.Le.refl _) rfl rfl (oV qF) ?_;refine qT (i := 3) (qB 8 15) (Hp.Le.refl _) rfl rfl (oF 4 Tryz.underlying37 Tryz.sizeOf9 qF) ?_;refine qT (i := 4) (qB 8 31) (Hp.Le.refl _) rfl rfl (oL Tryz.isAgg9 qF) ?_;refine qO (i := 5) (qB 8 63) rfl ?_;refine o_callKT trivial rfl rfl Tryz.call64 rfl rfl (hplace o.c.name pl hpl) (by repeat constructor) ?_;rintro _ _ _ hxq ⟨rfl, rfl, rfl⟩;refine qM (hxq.le) ?_;refine qT (i := 6) (qB 8 127) (hxq.le) rfl rfl (o_elemV trivial rfl Tryz.underlying52 Tryz.sizeOf3 rfl rfl (by omega) qF) ?_;refine qO (i := 7) (qB 8 255) rfl ?_;refine o_storeBox1 trivial rfl rfl rfl Tryz.sizeOf3 rfl (by repeat constructor) (by rw [hpll]; omega) ?_
    rw [show 0 + ((i : Nat) : Int).toNat * 1 = i by omega, ivs_set]
    refine qM (hxq.le) ?_;refine h_end (by kernel_rfl) ?_;refine tC (c_exit (then_x (blk_eq rfl (tC (cR ?_)))))
    (refine o_add trivial rfl rfl rfl ?_ ?_; (omega))
    refine oV ?_;refine oN ?_
    (exact again (i + 1, pl.set i (plcZ p pl o.c.name), os, u) (sC rfl (sC rfl (sC rfl (sC rfl (sC rfl (sC rfl (sC rfl (sC rfl sN)))))))) (fun _ h => h.sort (by repeat constructor)) (by show ns.length - (i + 1) < ns.length - i; omega) ⟨by show i + 1 ≤ _; omega, by rw [List.length_set]; exact hpl, by show os.length ≤ i + 1; omega, hok, hgo⟩)
   have f3 := h3;try simp only [bl] at f3
   rw [if_neg f3, List.length_map] at hgo
   refine kS ?_;refine o_load1I trivial rfl Tryz.isAgg52 rfl (by unfold Hp.cell?; rw [hB8]; rfl) ?_;refine oV ?_;refine oF 0 Tryz.underlying56 Tryz.sizeOf3 ?_;refine oL Tryz.isAgg3 ?_;refine oF 1 Tryz.underlying56 Tryz.sizeOf54 ?_;refine oL Tryz.isAgg54 ?_;refine o_lenRow trivial rfl Tryz.underlying54 rfl (by repeat constructor) ?_
   (refine o_add trivial rfl rfl rfl ?_ ?_; (omega))
   refine o_elemV trivial rfl Tryz.underlying52 Tryz.sizeOf3 rfl rfl (by omega) ?_;refine o_storeBox1 trivial rfl rfl rfl Tryz.sizeOf3 rfl (by repeat constructor) (by rw [hpll]; omega) ?_
   rw [show 0 + ((i : Nat) : Int).toNat * 1 = i by omega, ivs_set]
   refine oN (tC (cS ?_))
   obtain ⟨pl2, hpl2⟩ : ∃ pl2, pl2 = pl.set i ((p.ins.length : Int) + os.length) := ⟨_, rfl⟩
   have hpl2l : pl2.length = ns.length := by rw [hpl2, List.length_set]; exact hpl
   rw [← hpl2]
   rw [← hpl2] at hgo
   refine cR ?_;refine oF 0 Tryz.underlying37 Tryz.sizeOf3 ?_;refine oL Tryz.isAgg3 ?_;refine oF 3 Tryz.underlying37 Tryz.sizeOf3 ?_;refine oL Tryz.isAgg3 ?_;refine oF 5 Tryz.underlying37 Tryz.sizeOf35 ?_;refine oA Tryz.isAgg35 Tryz.sizeOf35 ?_;refine o_buildS trivial rfl (bld69) rfl (.cons rfl rfl rfl (by repeat constructor) (.cons rfl rfl rfl (by repeat constructor) (.cons rfl rfl rfl (by repeat constructor) .nil))) ?_;refine o_alloc trivial rfl Tryz.zeroValue69 rfl (fun b12 => ?_);refine oS Tryz.sizeOf69 ?_;refine nT ?_;refine c_cut (ι := Int) [1, 2, 7, 8, 9, 11, 12, 35, 36, 37] (.cons rfl (.cons rfl (.cons rfl (.cons rfl (.cons rfl (.cons rfl (.cons rfl (.cons rfl (.cons rfl (.cons rfl .nil)))))))))) (fun z E0 => E0) (fun z => St w [] I2 [.box b12 (.cells [.int .i64 o.c.kind, .int .i64 z, .int .i64 0, .int .i64 o.c.e, .bool o.c.neg, o.vn, o.vd].toArray 69 (0, 0)), .box b11 (.cells o.cells.toArray 37 (0, 0)), .row u 69 7 os.length (ocs os).flatten, .box b32 (.cells (ivs pl2).toArray 3 (0, 0)), .box b7 (.cells #[.int .i64 (p.ins.length : Nat), u, .slice none 0 0] 56 (0, 0)), .box b2 (.cells #[.int .i64 0, .slice none 0 0, .slice none 0 0] 56 (0, 0))]) (fun z => z = if 2 ≤ o.c.kind then pl2.getD o.c.a.toNat 0 else 0) ?_ ?_
   ·
    refine sR ?_;refine oF 0 Tryz.underlying37 Tryz.sizeOf3 ?_;refine oL Tryz.isAgg3 ?_;refine oV ?_;refine nT ?_;refine cC rfl (fun h4 => ?_) (fun h4 => ?_)
    ·
     have f4 := h4;try simp only [bl] at f4
     obtain ⟨a1, a2, _⟩ := hlow (by omega)
     refine cR ?_;refine o_load1I trivial rfl Tryz.isAgg52 rfl (by unfold Hp.cell?; rw [hB8]; rfl) ?_;refine oF 1 Tryz.underlying37 Tryz.sizeOf3 ?_;refine oL Tryz.isAgg3 ?_;refine o_elemV trivial rfl Tryz.underlying52 Tryz.sizeOf3 rfl rfl (by omega) ?_;refine o_loadBox1 trivial rfl Tryz.isAgg3 rfl (by repeat constructor) ((by rw [show 0 + o.c.a.toNat * 1 = o.c.a.toNat by omega]; exact ivs_get (by omega))) ?_;refine oF 1 Tryz.underlying69 Tryz.sizeOf3 ?_;refine oS Tryz.sizeOf3 ?_;refine oN ?_
     (exact meet (pl2.getD o.c.a.toNat 0) (sC rfl (sC rfl (sC rfl (sC rfl (sC rfl (sC rfl (sC rfl (sC rfl (sC rfl (sC rfl sN)))))))))) (fun _ h => h.sort (by repeat constructor)) (by show _ = if 2 ≤ o.c.kind then _ else _; rw [if_pos (by omega)]))
    have f4 := h4;try simp only [bl] at f4
    refine cK ?_
    (exact meet 0 (sC rfl (sC rfl (sC rfl (sC rfl (sC rfl (sC rfl (sC rfl (sC rfl (sC rfl (sC rfl sN)))))))))) (fun _ h => h.sort (by repeat constructor)) (by show _ = if 2 ≤ o.c.kind then _ else _; rw [if_neg (by omega)]))
   rintro zA hzA
   try dsimp only
   refine c_cut (ι := Int) [1, 2, 7, 8, 9, 12, 35, 36, 37] (.cons rfl (.cons rfl (.cons rfl (.cons rfl (.cons rfl (.cons rfl (.cons rfl (.cons rfl (.cons rfl .nil))))))))) (fun z E0 => E0) (fun z => St w [] I2 [.box b12 (.cells [.int .i64 o.c.kind, .int .i64 zA, .int .i64 z, .int .i64 o.c.e, .bool o.c.neg, o.vn, o.vd].toArray 69 (0, 0)), .row u 69 7 os.length (ocs os).flatten, .box b32 (.cells (ivs pl2).toArray 3 (0, 0)), .box b7 (.cells #[.int .i64 (p.ins.length : Nat), u, .slice none 0 0] 56 (0, 0)), .box b2 (.cells #[.int .i64 0, .slice none 0 0, .slice none 0 0] 56 (0, 0))]) (fun z => z = if 2 ≤ o.c.kind ∧ o.c.kind ≤ 5 then pl2.getD o.c.b.toNat 0 else 0) ?_ ?_
   ·
    refine sR ?_;refine oF 0 Tryz.underlying37 Tryz.sizeOf3 ?_;refine oL Tryz.isAgg3 ?_;refine oV ?_;refine' o_and trivial trivial rfl rfl rfl rfl rfl rfl rfl rfl (fun hb80 => ?_) ?_;rotate_left
    ·
     have fb80 := hb80
     try simp only [bl] at fb80
     refine gF hb80 0 Tryz.underlying37 Tryz.sizeOf3 ?_;refine gL hb80 Tryz.isAgg3 ?_;refine gV hb80 ?_;refine oN ?_;exact joins rfl
    refine nT ?_;refine cC rfl (fun h5 => ?_) (fun h5 => ?_)
    ·
     have f5 := h5;try simp only [bl] at f5
     obtain ⟨a1, a2, a3⟩ := hlow (by omega)
     obtain ⟨a4, a5⟩ := a3 (by omega)
     refine cR ?_;refine o_load1I trivial rfl Tryz.isAgg52 rfl (by unfold Hp.cell?; rw [hB8]; rfl) ?_;refine oF 2 Tryz.underlying37 Tryz.sizeOf3 ?_;refine oL Tryz.isAgg3 ?_;refine o_elemV trivial rfl Tryz.underlying52 Tryz.sizeOf3 rfl rfl (by omega) ?_;refine o_loadBox1 trivial rfl Tryz.isAgg3 rfl (by repeat constructor) ((by rw [show 0 + o.c.b.toNat * 1 = o.c.b.toNat by omega]; exact ivs_get (by omega))) ?_;refine oF 2 Tryz.underlying69 Tryz.sizeOf3 ?_;refine oS Tryz.sizeOf3 ?_;refine oN ?_
     (exact meet (pl2.getD o.c.b.toNat 0) (sC rfl (sC rfl (sC rfl (sC rfl (sC rfl (sC rfl (sC rfl (sC rfl (sC rfl sN))))))))) (fun _ h => h.sort (by repeat constructor)) (by show _ = if 2 ≤ o.c.kind ∧ o.c.kind ≤ 5 then _ else _; rw [if_pos (by omega)]))
    have f5 := h5;try simp only [bl] at f5
    refine cK ?_
    (exact meet 0 (sC rfl (sC rfl (sC rfl (sC rfl (sC rfl (sC rfl (sC rfl (sC rfl (sC rfl sN))))))))) (fun _ h => h.sort (by repeat constructor)) (by show _ = if 2 ≤ o.c.kind ∧ o.c.kind ≤ 5 then _ else _; rw [if_neg (by omega)]))
   rintro zB hzB
   try dsimp only
   subst hzA hzB hpl2
   refine cR ?_;refine oF 1 Tryz.underlying56 Tryz.sizeOf54 ?_;refine oL Tryz.isAgg54 ?_;refine oA Tryz.isAgg69 Tryz.sizeOf69 ?_;refine oB Tryz.underlying54 Tryz.sizeOf69 Tryz.zeroValue69 fun b94 => ?_;refine o_appendBox trivial rfl Tryz.underlying54 (elem69) (by decide) rfl rfl (fun v' => (by repeat constructor)) (by repeat constructor) rfl (by exact seven_plain hw1 hw2) (by (unfold maxLen; omega)) (by omega) (fun v95 => ?_);refine oF 1 Tryz.underlying56 Tryz.sizeOf54 ?_;refine l_rowCells (u := v95) (by repeat constructor) (fun hcv => ?_);refine o_storeBox1 trivial rfl rfl (hcv).1 Tryz.sizeOf54 (hcv).2 (by repeat constructor) (by exact Nat.le_of_ble_eq_true rfl) ?_;refine oN (blk_n (tC (cR ?_)))
   (refine o_add trivial rfl rfl rfl ?_ ?_; (omega))
   refine oV ?_;refine oN ?_
   (exact again (i + 1, pl.set i ((p.ins.length : Int) + os.length), os ++ [⟨opL o.c (pl.set i ((p.ins.length : Int) + os.length)), o.vn, o.vd⟩], v95) (sC rfl (sC rfl (sC rfl (sC rfl (sC rfl (sC rfl (sC rfl (sC rfl sN)))))))) (fun _ h => by rw [← ocs_more, List.length_append]; exact h.sort (by repeat constructor)) (by show ns.length - (i + 1) < ns.length - i; omega) ⟨by show i + 1 ≤ _; omega, by rw [List.length_set]; exact hpl, by simp only [List.length_append, List.length_cons, List.length_nil]; omega, fun x hx => by
      rcases List.mem_append.1 hx with hx | hx
      · exact hok x hx
      · rw [List.mem_singleton.1 hx]; exact ⟨⟨hw1, hw2⟩, hf o hom⟩, by rw [List.map_append]; exact hgo⟩)
  have f2 := h2;try simp only [bl] at f2
  have hgo2 : lowAll p = (pl, os.map OpV.c) := by
    rw [hgo, List.drop_of_length_le (by omega)]; rfl
  have hlt : lowT p = ⟨p.ins.length, os.map OpV.c, p.outs.map (plcZ p pl)⟩ := by unfold lowT; rw [hgo2]
  have hosl : os.length ≤ 400 := by omega
  refine c_exit (then_x (then_x (blk_eq rfl (tC (cS (sR ?_))))));refine oF 2 Tryz.underlying26 Tryz.sizeOf22 ?_;refine o_load1I trivial rfl Tryz.isAgg22 rfl (by unfold Hp.cell?; rw [hB1']; rfl) ?_;refine o_lenSlc trivial rfl Tryz.underlying22 rfl (hso2) ?_;refine oV ?_;refine oN (tC (cB ?_));refine c_loop (ι := Nat × Value) [2, 7, 9, 99, 100] (.cons rfl (.cons rfl (.cons rfl (.cons rfl (.cons rfl .nil))))) (fun x => p.outs.length - x.1) (fun x E0 => (101, .int .i64 (x.1 : Nat)) :: E0) (fun x => St w [] I2 [.row x.2 3 1 x.1 (ics ((p.outs.take x.1).map (plcZ p pl))).flatten, .row u 69 7 os.length (ocs os).flatten, .box b32 (.cells (ivs pl).toArray 3 (0, 0)), .box b7 (.cells #[.int .i64 (p.ins.length : Nat), u, x.2] 56 (0, 0)), .box b2 (.cells #[.int .i64 0, .slice none 0 0, .slice none 0 0] 56 (0, 0))]) (fun x => x.1 ≤ p.outs.length) ((0, .slice none 0 0)) (sC rfl (sC rfl (sC rfl (sC rfl (sC rfl (sC rfl sN)))))) (fun _ h => (h.nilRow 3 1).sort (by repeat constructor)) (Nat.zero_le _) ?_;rintro ⟨j, uu⟩ hj
  try dsimp only
  simp only at hj
  refine sR ?_;refine oV ?_;refine oN (tC (cS ?_));refine cC rfl (fun h6 => ?_) (fun h6 => ?_)
  ·
   have f6 := h6;try simp only [bl] at f6
   obtain ⟨s, hs⟩ : ∃ s, p.outs[j]? = some s := ⟨p.outs[j]'(by omega), List.getElem?_eq_getElem (by omega)⟩
   refine cK (tC (cS (cB (sR ?_))));refine o_elem trivial rfl Tryz.underlying22 Tryz.sizeOf9 rfl (hso2) rfl (by omega) ?_;refine o_load1I trivial rfl Tryz.isAgg9 rfl (scs_at hso2 hs) ?_;refine oV ?_;refine nT ?_;refine h_beginB (m := 9) [] (by repeat constructor) (by kernel_rfl) rfl ?_;refine qT (i := 0) (qB 9 1) (Hp.Le.refl _) rfl rfl (oF 2 Tryz.underlying56 Tryz.sizeOf52 qF) ?_;refine qT (i := 2) (qB 9 5) (Hp.Le.refl _) rfl rfl (oV qF) ?_;refine qT (i := 3) (qB 9 13) (Hp.Le.refl _) rfl rfl (oV qF) ?_;refine h_go [1, 4] (by kernel_rfl) rfl (TWHs.cons ?_ (TWHs.cons ?_ TWHs.nil))
   ·
    refine qP (qB 9 15) rfl ?_;refine oL Tryz.isAgg52 ?_;refine qM (Hp.Le.refl _) ?_;refine qO (i := 4) (qB 9 31) rfl ?_;refine o_callKT trivial rfl rfl Tryz.call64 rfl rfl (hplace s pl hpl) (by repeat constructor) ?_;rintro _ _ _ hxq ⟨rfl, rfl, rfl⟩;refine qM (hxq.le) ?_;refine qO (i := 5) (qB 9 63) rfl ?_;refine oB Tryz.underlying52 Tryz.sizeOf3 Tryz.zeroValue3 fun b110 => ?_;refine qM (hxq.le) ?_;refine qO (i := 6) (qB 9 127) rfl ?_;refine oD Tryz.underlying52 elem3 fun v111 => ?_;refine qM (hxq.le) ?_;refine qT (i := 7) (qB 9 255) (hxq.le) rfl rfl (oF 2 Tryz.underlying56 Tryz.sizeOf52 qF) ?_;refine qO (i := 8) (qB 9 511) rfl ?_;refine l_rowCells (u := v111) (by repeat constructor) (fun hcv => ?_);refine o_storeBox1 trivial rfl rfl (hcv).1 Tryz.sizeOf52 (hcv).2 (by repeat constructor) (by exact Nat.le_of_ble_eq_true rfl) ?_;refine qM (hxq.le) ?_;refine h_end (by kernel_rfl) ?_;refine blk_n (tC (cR ?_))
    (refine o_add trivial rfl rfl rfl ?_ ?_; (omega))
    refine oV ?_;refine oN ?_;exact again (j + 1, v111) (sC rfl (sC rfl (sC rfl (sC rfl (sC rfl (sC rfl sN)))))) (fun _ h => by rw [List.take_add_one, hs, Option.toList_some, List.map_append, List.map_cons, List.map_nil, ← ics_more]; exact h.sort (by repeat constructor)) (by show p.outs.length - (j + 1) < p.outs.length - j; omega) (by show j + 1 ≤ _; omega)
   refine qP (qB 9 29) rfl ?_;refine o_callKT trivial rfl rfl Tryz.call64 rfl rfl (hplace s pl hpl) (by repeat constructor) ?_;rintro _ _ _ hxq ⟨rfl, rfl, rfl⟩;refine qM (hxq.le) ?_;refine h_go [1, 5] (by kernel_rfl) rfl (TWHs.cons ?_ (TWHs.cons ?_ TWHs.nil))
   ·
    refine qP (qB 9 31) rfl ?_;refine oL Tryz.isAgg52 ?_;refine qM (hxq.le) ?_;refine qO (i := 5) (qB 9 63) rfl ?_;refine oB Tryz.underlying52 Tryz.sizeOf3 Tryz.zeroValue3 fun b110 => ?_;refine qM (hxq.le) ?_;refine qO (i := 6) (qB 9 127) rfl ?_;refine oD Tryz.underlying52 elem3 fun v111 => ?_;refine qM (hxq.le) ?_;refine qT (i := 7) (qB 9 255) (hxq.le) rfl rfl (oF 2 Tryz.underlying56 Tryz.sizeOf52 qF) ?_;refine qO (i := 8) (qB 9 511) rfl ?_;refine l_rowCells (u := v111) (by repeat constructor) (fun hcv => ?_);refine o_storeBox1 trivial rfl rfl (hcv).1 Tryz.sizeOf52 (hcv).2 (by repeat constructor) (by exact Nat.le_of_ble_eq_true rfl) ?_;refine qM (hxq.le) ?_;refine h_end (by kernel_rfl) ?_;refine blk_n (tC (cR ?_))
    (refine o_add trivial rfl rfl rfl ?_ ?_; (omega))
    refine oV ?_;refine oN ?_;exact again (j + 1, v111) (sC rfl (sC rfl (sC rfl (sC rfl (sC rfl (sC rfl sN)))))) (fun _ h => by rw [List.take_add_one, hs, Option.toList_some, List.map_append, List.map_cons, List.map_nil, ← ics_more]; exact h.sort (by repeat constructor)) (by show p.outs.length - (j + 1) < p.outs.length - j; omega) (by show j + 1 ≤ _; omega)
   refine qP (qB 9 61) rfl ?_;refine oB Tryz.underlying52 Tryz.sizeOf3 Tryz.zeroValue3 fun b110 => ?_;refine qM (hxq.le) ?_;refine qO (i := 1) (qB 9 63) rfl ?_;refine oL Tryz.isAgg52 ?_;refine qM (hxq.le) ?_;refine qO (i := 6) (qB 9 127) rfl ?_;refine oD Tryz.underlying52 elem3 fun v111 => ?_;refine qM (hxq.le) ?_;refine qT (i := 7) (qB 9 255) (hxq.le) rfl rfl (oF 2 Tryz.underlying56 Tryz.sizeOf52 qF) ?_;refine qO (i := 8) (qB 9 511) rfl ?_;refine l_rowCells (u := v111) (by repeat constructor) (fun hcv => ?_);refine o_storeBox1 trivial rfl rfl (hcv).1 Tryz.sizeOf52 (hcv).2 (by repeat constructor) (by exact Nat.le_of_ble_eq_true rfl) ?_;refine qM (hxq.le) ?_;refine h_end (by kernel_rfl) ?_;refine blk_n (tC (cR ?_))
   (refine o_add trivial rfl rfl rfl ?_ ?_; (omega))
   refine oV ?_;refine oN ?_;exact again (j + 1, v111) (sC rfl (sC rfl (sC rfl (sC rfl (sC rfl (sC rfl sN)))))) (fun _ h => by rw [List.take_add_one, hs, Option.toList_some, List.map_append, List.map_cons, List.map_nil, ← ics_more]; exact h.sort (by repeat constructor)) (by show p.outs.length - (j + 1) < p.outs.length - j; omega) (by show j + 1 ≤ _; omega)
  have f6 := h6;try simp only [bl] at f6
  have hje : j = p.outs.length := by omega
  subst hje
  rw [List.take_length]
  refine c_exit (then_x (then_x (blk_eq rfl (tC (cS (cS ?_))))));refine c_sealR (u := u) (xss := ocs os) (by repeat constructor) (ocs_len os) (ocs_seven os) (by unfold maxLen; omega) (fun I3 hx3 hs3 => ?_);refine c_sealR (u := uu) (xss := ics (p.outs.map (plcZ p pl))) (by repeat constructor) (by rw [ics_len, List.length_map]) (ics_one _) (by unfold maxLen; omega) (fun I4 hx4 hs4 => ?_)
  have htv : TapeV I4 u uu (lowT p) os := by
    rw [hlt]
    exact ⟨hs3.le hx4.le, fun o ho => (hok o ho).1.le (hx3.le.trans hx4.le), rfl, hs4⟩
  have hfw : ∀ o ∈ (lowT p).ops, OpC.few 3000 o := by
    rw [hlt]
    intro o ho
    obtain ⟨x, hx, rfl⟩ := List.mem_map.1 ho
    exact (hok x hx).2
  have hright := tapeRight_any (lowT p) u uu os htv (fun o ho => ⟨Nat.le_trans (hfw o ho).1 (by decide), Nat.le_trans (hfw o ho).2 (by decide)⟩)
  have hti : (lowT p).ins = (p.ins.length : Nat) := rfl
  rw [hti] at hright
  refine cR ?_;refine oA Tryz.isAgg56 Tryz.sizeOf56 ?_;refine oQ Tryz.call34 rfl hright ?_;refine oV ?_;refine nT ?_;refine cC rfl (fun h7 => ?_) (fun h7 => ?_)
  ·
   have f7 := h7;try simp only [bl] at f7
   refine sR ?_;refine o_buildS trivial rfl (bld56) rfl .nil ?_;refine oS Tryz.sizeOf56 ?_;iterate 2 refine oV ?_
   refine nF ?_;refine retR rfl (.agg Tryz.isAgg56 Tryz.sizeOf56 rfl (by repeat constructor) rfl (.tmp rfl (.tmp rfl .nil))) ?_;refine leaf (hx1.trans (hx2.trans (hx3.trans hx4 (Nat.le_refl _)) (Nat.le_refl _)) (Nat.le_refl _)) (List.nil_sublist _) ?_
   rw [hz, if_neg (by simpa using h7)]
   exact ⟨N0, N0, [], rfl, ⟨Slc.nil _ _, fun o ho => (by cases ho), rfl, Slc.nil _ _⟩, fun o ho => by cases ho⟩
  have f7 := h7;try simp only [bl] at f7
  refine kS ?_;refine oA Tryz.isAgg56 Tryz.sizeOf56 ?_;refine oS Tryz.sizeOf56 ?_;iterate 2 refine oV ?_
  refine nE ?_;refine retR rfl (.agg Tryz.isAgg56 Tryz.sizeOf56 rfl (by repeat constructor) rfl (.tmp rfl (.tmp rfl .nil))) ?_;refine leaf (hx1.trans (hx2.trans (hx3.trans hx4 (Nat.le_refl _)) (Nat.le_refl _)) (Nat.le_refl _)) (List.nil_sublist _) ?_
  rw [hz, if_pos (by simpa using h7)]
  exact ⟨u, uu, os, rfl, htv, hfw⟩
noncomputable def eqB {α : Type} (a b : α) : Bool := @decide (a = b) (Classical.propDecidable _)
theorem eqB_iff {α : Type} {a b : α} : eqB a b = true ↔ a = b := by unfold eqB; exact @decide_eq_true_iff _ (Classical.propDecidable _)
theorem eqB_ne {α : Type} {a b : α} (h : a ≠ b) : eqB a b = false := by
  cases e : eqB a b with
  | false => rfl
  | true => exact absurd (eqB_iff.1 e) h
theorem eqB_self {α : Type} (a : α) : eqB a a = true := eqB_iff.2 rfl
theorem take_ext {α : Type} {l m : List α} (hl : l.length = m.length) {i : Nat} (h : l.take i = m.take i) (hi : l.length ≤ i) : l = m := by
  rwa [List.take_of_length_le hi, List.take_of_length_le (by omega)] at h
theorem take_more {α : Type} {l m : List α} {i : Nat} {x y : α} (h : l.take i = m.take i) (hx : l[i]? = some x) (hy : m[i]? = some y) (e : x = y) : l.take (i + 1) = m.take (i + 1) := by
  rw [List.take_add_one, List.take_add_one, h, hx, hy, e]
theorem at_eq {α : Type} {l m : List α} {i : Nat} {x y : α} (h : l = m) (hx : l[i]? = some x) (hy : m[i]? = some y) : x = y := by
  rw [h, hy] at hx; exact (Option.some.inj hx).symm
theorem tSame_any (va ua vb ub : Value) (t u : TapeC) (os ps : List OpV) {I : Hp} (ht : TapeV I va ua t os) (hu : TapeV I vb ub u ps) :
    Fun Tryz.prog 32 [.agg #[.int .i64 t.ins, va, ua], .agg #[.int .i64 u.ins, vb, ub]] I [] (fun v _ _ => v = .bool (eqB t u)) := by
  have hso := ht.so
  have hsu := ht.su
  have gso := hu.so
  have gsu := hu.su
  have hol : (os.map OpV.cells).length = os.length := List.length_map _
  have gol : (ps.map OpV.cells).length = ps.length := List.length_map _
  have hul := ics_len t.outs
  have gul := ics_len u.outs
  have tol : t.ops.length = os.length := by rw [← ht.eq, List.length_map]
  have uol : u.ops.length = ps.length := by rw [← hu.eq, List.length_map]
  have hmx := hso.most
  rw [hol] at hmx
  unfold maxLen at hmx
  have hmy := hsu.most
  rw [hul] at hmy
  unfold maxLen at hmy
  intro w hw
  refine enter2 _ Tryz.func32 rfl Tryz.ntmps32 rfl ?_ hw;refine sR ?_;refine o_box trivial rfl rfl rfl (fun b2 => ?_);refine o_box trivial rfl rfl rfl (fun b3 => ?_);refine oV ?_;refine nU ?_;refine oF 0 Tryz.underlying56 Tryz.sizeOf3 ?_;refine oL Tryz.isAgg3 ?_;refine oF 0 Tryz.underlying56 Tryz.sizeOf3 ?_;refine oL Tryz.isAgg3 ?_;refine oV ?_;refine' o_or trivial trivial rfl rfl rfl rfl rfl rfl rfl rfl (fun hb15 => ?_) ?_;rotate_left
  ·
   have fb15 := hb15
   try simp only [bl] at fb15
   refine gF hb15 1 Tryz.underlying56 Tryz.sizeOf54 ?_;refine gL hb15 Tryz.isAgg54 ?_;refine o_lenSlc (wS rfl rfl hb15) rfl Tryz.underlying54 rfl (hso) ?_;refine gF hb15 1 Tryz.underlying56 Tryz.sizeOf54 ?_;refine gL hb15 Tryz.isAgg54 ?_;refine o_lenSlc (wS rfl rfl hb15) rfl Tryz.underlying54 rfl (gso) ?_;refine gV hb15 ?_;refine oN ?_;exact joins rfl
  refine' o_or trivial trivial rfl rfl rfl rfl rfl rfl rfl rfl (fun hb24 => ?_) ?_;rotate_left
  ·
   have fb24 := hb24
   try simp only [bl] at fb24
   refine gF hb24 2 Tryz.underlying56 Tryz.sizeOf52 ?_;refine gL hb24 Tryz.isAgg52 ?_;refine o_lenSlc (wS rfl rfl hb24) rfl Tryz.underlying52 rfl (hsu) ?_;refine gF hb24 2 Tryz.underlying56 Tryz.sizeOf52 ?_;refine gL hb24 Tryz.isAgg52 ?_;refine o_lenSlc (wS rfl rfl hb24) rfl Tryz.underlying52 rfl (gsu) ?_;refine gV hb24 ?_;refine oN ?_;exact joins rfl
  refine nT ?_;refine cC rfl (fun h1 => ?_) (fun h1 => ?_)
  ·
   have f1 := h1;try simp only [bl] at f1
   have hne : t ≠ u := fun e => by
     have e0 : t.ins = u.ins := by rw [e]
     have e1 : t.ops.length = u.ops.length := by rw [e]
     have e2 : t.outs.length = u.outs.length := by rw [e]
     rw [hol, gol, hul, gul] at f1
     omega
   refine sR ?_;refine oV ?_;refine nF ?_;refine ret1 rfl rfl ?_;exact leaf0 (congrArg Value.bool (eqB_ne hne).symm)
  have f1 := h1;try simp only [bl] at f1
  have hin : t.ins = u.ins := by rw [hol, gol, hul, gul] at f1; omega
  have hlm : os.length = ps.length := by rw [hol, gol, hul, gul] at f1; omega
  have ham : t.outs.length = u.outs.length := by rw [hol, gol, hul, gul] at f1; omega
  refine cK (tC (cS (sR ?_)));refine oV ?_;refine oN (tC (cB ?_));refine c_loop (ι := Nat) [2, 3] (.cons rfl (.cons rfl .nil)) (fun x => os.length - x) (fun x E0 => (5, .int .i64 (x : Int)) :: E0) (fun x => St w [] I [.box b3 (.cells #[.int .i64 u.ins, vb, ub] 56 (0, 0)), .box b2 (.cells #[.int .i64 t.ins, va, ua] 56 (0, 0))]) (fun x => x ≤ os.length ∧ t.ops.take x = u.ops.take x) (0) (sC rfl (sC rfl (sC rfl sN))) (fun _ h => h) (⟨Nat.zero_le _, rfl⟩) ?_;rintro i ⟨hi, hT⟩
  try dsimp only
  refine cS (sR ?_);refine oV ?_;refine oF 1 Tryz.underlying56 Tryz.sizeOf54 ?_;refine oL Tryz.isAgg54 ?_;refine o_lenSlc trivial rfl Tryz.underlying54 rfl (hso) ?_;refine oV ?_;refine nT ?_;refine cC rfl (fun h2 => ?_) (fun h2 => ?_)
  ·
   have f2 := h2;try simp only [bl] at f2
   obtain ⟨x, hx⟩ : ∃ x, os[i]? = some x := ⟨os[i]'(by omega), List.getElem?_eq_getElem (by omega)⟩
   obtain ⟨y, hy⟩ : ∃ y, ps[i]? = some y := ⟨ps[i]'(by omega), List.getElem?_eq_getElem (by omega)⟩
   have hx2 : t.ops[i]? = some x.c := by rw [← ht.eq, List.getElem?_map, hx]; rfl
   have hy2 : u.ops[i]? = some y.c := by rw [← hu.eq, List.getElem?_map, hy]; rfl
   have xok := ht.ok x (List.mem_of_getElem? hx)
   have yok := hu.ok y (List.mem_of_getElem? hy)
   have hatx := OpV.at_ ht hx
   have haty := OpV.at_ hu hy
   obtain ⟨⟨code, a, b, e, neg, n, d⟩, vn, vd⟩ := x
   obtain ⟨⟨code2, a2, b2', e2, neg2, n2, d2⟩, vn2, vd2⟩ := y
   have ha : Ws I vn n := xok.1
   have hb : Ws I vd d := xok.2
   have hc : Ws I vn2 n2 := yok.1
   have hd : Ws I vd2 d2 := yok.2
   refine cK (tC (cS (cB (sR ?_))));refine oF 1 Tryz.underlying56 Tryz.sizeOf54 ?_;refine oL Tryz.isAgg54 ?_;refine oV ?_;refine o_elem trivial rfl Tryz.underlying54 Tryz.sizeOf69 rfl (hso) rfl (by omega) ?_;refine o_loadAI trivial rfl Tryz.isAgg69 Tryz.sizeOf69 rfl rfl (hatx) ?_;refine o_alloc trivial rfl Tryz.zeroValue69 rfl (fun b6 => ?_);refine oS Tryz.sizeOf69 ?_;refine nS ?_;refine oF 1 Tryz.underlying56 Tryz.sizeOf54 ?_;refine oL Tryz.isAgg54 ?_;refine oV ?_;refine o_elem trivial rfl Tryz.underlying54 Tryz.sizeOf69 rfl (gso) rfl (by omega) ?_;refine o_loadAI trivial rfl Tryz.isAgg69 Tryz.sizeOf69 rfl rfl (haty) ?_;refine o_alloc trivial rfl Tryz.zeroValue69 rfl (fun b7 => ?_);refine oS Tryz.sizeOf69 ?_;refine nS ?_;refine oF 4 Tryz.underlying69 Tryz.sizeOf35 ?_;refine oA Tryz.isAgg35 Tryz.sizeOf35 ?_;refine oF 4 Tryz.underlying69 Tryz.sizeOf35 ?_;refine oA Tryz.isAgg35 Tryz.sizeOf35 ?_;refine oQ Tryz.call67 rfl (rEqual_any neg neg2 vn vd vn2 vd2 n d n2 d2 ha hb hc hd) ?_;refine oV ?_;refine nS ?_;iterate 2 refine oV ?_
   refine' o_or trivial trivial rfl rfl rfl rfl rfl rfl rfl rfl (fun hb57 => ?_) ?_;rotate_left
   ·
    have fb57 := hb57
    try simp only [bl] at fb57
    refine gF hb57 0 Tryz.underlying69 Tryz.sizeOf3 ?_;refine gL hb57 Tryz.isAgg3 ?_;refine gF hb57 0 Tryz.underlying69 Tryz.sizeOf3 ?_;refine gL hb57 Tryz.isAgg3 ?_;refine gV hb57 ?_;refine oN ?_;exact joins rfl
   refine' o_or trivial trivial rfl rfl rfl rfl rfl rfl rfl rfl (fun hb64 => ?_) ?_;rotate_left
   ·
    have fb64 := hb64
    try simp only [bl] at fb64
    refine gF hb64 1 Tryz.underlying69 Tryz.sizeOf3 ?_;refine gL hb64 Tryz.isAgg3 ?_;refine gF hb64 1 Tryz.underlying69 Tryz.sizeOf3 ?_;refine gL hb64 Tryz.isAgg3 ?_;refine gV hb64 ?_;refine oN ?_;exact joins rfl
   refine' o_or trivial trivial rfl rfl rfl rfl rfl rfl rfl rfl (fun hb71 => ?_) ?_;rotate_left
   ·
    have fb71 := hb71
    try simp only [bl] at fb71
    refine gF hb71 2 Tryz.underlying69 Tryz.sizeOf3 ?_;refine gL hb71 Tryz.isAgg3 ?_;refine gF hb71 2 Tryz.underlying69 Tryz.sizeOf3 ?_;refine gL hb71 Tryz.isAgg3 ?_;refine gV hb71 ?_;refine oN ?_;exact joins rfl
   refine' o_or trivial trivial rfl rfl rfl rfl rfl rfl rfl rfl (fun hb78 => ?_) ?_;rotate_left
   ·
    have fb78 := hb78
    try simp only [bl] at fb78
    refine gF hb78 3 Tryz.underlying69 Tryz.sizeOf3 ?_;refine gL hb78 Tryz.isAgg3 ?_;refine gF hb78 3 Tryz.underlying69 Tryz.sizeOf3 ?_;refine gL hb78 Tryz.isAgg3 ?_;refine gV hb78 ?_;refine oN ?_;exact joins rfl
   refine nT ?_;refine cC rfl (fun h3 => ?_) (fun h3 => ?_)
   ·
    have f3 := h3;try simp only [bl] at f3
    have hne : t ≠ u := fun e => by
      have e2 := at_eq (by rw [e]) hx2 hy2
      simp only at e2
      injection e2 with g1 g2 g3 g4 g5 g6 g7
      subst g1 g2 g3 g4 g5 g6 g7
      simp at h3
    refine sR ?_;refine oV ?_;refine oN (tC (cT (blk_r (tR (tR (blk_r (tR ?_)))))));refine ret1 rfl rfl ?_;exact leaf0 (congrArg Value.bool (eqB_ne hne).symm)
   have f3 := h3;try simp only [bl] at f3
   have hst : (⟨code, a, b, e, neg, n, d⟩ : OpC) = ⟨code2, a2, b2', e2, neg2, n2, d2⟩ := by
     simp at h3
     obtain ⟨⟨⟨⟨⟨⟨g1, g2⟩, g3⟩, g4⟩, g5⟩, g6⟩, g7⟩ := h3
     subst g1 g2 g3 g4 g5 g6 g7
     rfl
   refine cK (blk_n (tC (cR ?_)));refine oV ?_
   (refine o_add trivial rfl rfl rfl ?_ ?_; (omega))
   refine oV ?_;refine oN ?_;exact again (i + 1) (sC rfl (sC rfl (sC rfl sN))) (fun _ h => h.sort (by repeat constructor)) (by show os.length - (i + 1) < os.length - i; omega) ⟨by show i + 1 ≤ _; omega, take_more hT hx2 hy2 hst⟩
  have f2 := h2;try simp only [bl] at f2
  have heops : t.ops = u.ops := take_ext (by omega) hT (by omega)
  refine c_exit (then_x (then_x (blk_eq rfl (tC (cS (sR ?_))))));refine oV ?_;refine oN (tC (cB ?_));refine c_loop (ι := Nat) [2, 3] (.cons rfl (.cons rfl .nil)) (fun x => t.outs.length - x) (fun x E0 => (9, .int .i64 (x : Int)) :: E0) (fun x => St w [] I [.box b3 (.cells #[.int .i64 u.ins, vb, ub] 56 (0, 0)), .box b2 (.cells #[.int .i64 t.ins, va, ua] 56 (0, 0))]) (fun x => x ≤ t.outs.length ∧ t.outs.take x = u.outs.take x) (0) (sC rfl (sC rfl (sC rfl sN))) (fun _ h => h) (⟨Nat.zero_le _, rfl⟩) ?_;rintro j ⟨hj, hta⟩
  try dsimp only
  refine cS (sR ?_);refine oV ?_;refine oF 2 Tryz.underlying56 Tryz.sizeOf52 ?_;refine oL Tryz.isAgg52 ?_;refine o_lenSlc trivial rfl Tryz.underlying52 rfl (hsu) ?_;refine oV ?_;refine nT ?_;refine cC rfl (fun h4 => ?_) (fun h4 => ?_)
  ·
   have f4 := h4;try simp only [bl] at f4
   obtain ⟨x, hx⟩ : ∃ x, t.outs[j]? = some x := ⟨t.outs[j]'(by omega), List.getElem?_eq_getElem (by omega)⟩
   obtain ⟨y, hy⟩ : ∃ y, u.outs[j]? = some y := ⟨u.outs[j]'(by omega), List.getElem?_eq_getElem (by omega)⟩
   refine cK (tC (cS (cB (cS ?_))));refine c_quiet (by kernel_rfl) (by kernel_rfl) (fun _ h => h.drawn) ?_;refine oF 2 Tryz.underlying56 Tryz.sizeOf52 ?_;refine oL Tryz.isAgg52 ?_;refine oV ?_;refine o_elem trivial rfl Tryz.underlying52 Tryz.sizeOf3 rfl (hsu) rfl (by omega) ?_;refine o_load1I trivial rfl Tryz.isAgg3 rfl (ics_at hsu hx) ?_;refine oF 2 Tryz.underlying56 Tryz.sizeOf52 ?_;refine oL Tryz.isAgg52 ?_;refine oV ?_;refine o_elem trivial rfl Tryz.underlying52 Tryz.sizeOf3 rfl (gsu) rfl (by omega) ?_;refine o_load1I trivial rfl Tryz.isAgg3 rfl (ics_at gsu hy) ?_;refine oV ?_;refine nT ?_;refine cC rfl (fun h5 => ?_) (fun h5 => ?_)
   ·
    have f5 := h5;try simp only [bl] at f5
    have hne : t ≠ u := fun e => by
      have e2 : x = y := at_eq (by rw [e]) hx hy
      rw [e2] at h5; simp at h5
    refine sR ?_;refine oV ?_;refine oN (tC (cT (blk_r (tR (tR (blk_r (tR ?_)))))));refine ret1 rfl rfl ?_;exact leaf0 (congrArg Value.bool (eqB_ne hne).symm)
   have f5 := h5;try simp only [bl] at f5
   have hxy : x = y := by simpa using h5
   refine cK (blk_n (tC (cR ?_)));refine oV ?_
   (refine o_add trivial rfl rfl rfl ?_ ?_; (omega))
   refine oV ?_;refine oN ?_;exact again (j + 1) (sC rfl (sC rfl (sC rfl sN))) (fun _ h => h) (by show t.outs.length - (j + 1) < t.outs.length - j; omega) ⟨by show j + 1 ≤ _; omega, take_more hta hx hy hxy⟩
  have f4 := h4;try simp only [bl] at f4
  have heout : t.outs = u.outs := take_ext (by omega) hta (by omega)
  refine c_exit (then_x (then_x (blk_eq rfl (tC (sR ?_)))));refine oV ?_;refine nE ?_;refine ret1 rfl rfl ?_;refine leaf0 (congrArg Value.bool (eqB_iff.2 ?_).symm)
  obtain ⟨t1, t2, t3⟩ := t
  obtain ⟨u1, u2, u3⟩ := u
  simp only at hin heops heout
  subst hin heops heout
  rfl
theorem tWeights_any (t : TapeC) (vo vu : Value) (os : List OpV) {I : Hp} (ht : TapeV I vo vu t os) (hf : ∀ o ∈ t.ops, OpC.few 2000000 o) : Fun Tryz.prog 37 [.agg #[.int .i64 t.ins, vo, vu]] I [] (fun v I' _ => Slc I' 1 v (nls ((tapeW t).getD []))) := by
  intro w hw
  refine enter1 _ Tryz.func37 rfl Tryz.ntmps37 rfl ?_ hw;refine sR ?_;refine o_box trivial rfl rfl rfl (fun b1 => ?_);refine oV ?_;refine nS ?_;refine oA Tryz.isAgg56 Tryz.sizeOf56 ?_;refine oI Tryz.call68 rfl (weights_any t vo vu os ht hf) ?_;rintro _ I1 hx1 ⟨u, rfl, hs1⟩;iterate 5 refine oV ?_
  refine nU ?_;iterate 2 refine oV ?_
  refine nT ?_;refine cC rfl (fun h1 => ?_) (fun h1 => ?_)
  ·
   have f1 := h1;try simp only [bl] at f1
   have hn : tapeW t = none := by
     cases hc : tapeW t with
     | none => rfl
     | some l => rw [hc] at h1; cases h1
   refine sR ?_;refine oV ?_;refine nF ?_;refine ret1 rfl rfl ?_;refine leaf hx1 (List.nil_sublist _) ?_
   rw [hn]
   exact Slc.nil _ _
  have f1 := h1;try simp only [bl] at f1
  obtain ⟨l, hl⟩ : ∃ l, tapeW t = some l := by
    cases hc : tapeW t with
    | none => rw [hc] at h1; cases h1
    | some l => exact ⟨l, rfl⟩
  refine kS ?_;iterate 2 refine oV ?_
  refine nE ?_;refine ret1 rfl rfl ?_;refine leaf hx1 (List.nil_sublist _) ?_
  rw [hl]
  exact hs1 l hl
def P10 (I : Hp) : Prop := ∃ T f, I 1 = some (.cells (Lib.pow10Tab.map fun z => Value.int .u64 z).toArray T f)
theorem P10.le {I I' : Hp} (h : P10 I) (hl : I.Le I') : P10 I' := by
  obtain ⟨T, f, h⟩ := h
  exact ⟨T, f, hl _ _ h⟩
theorem P10.tab {I : Hp} (h : P10 I) {w : World} (hw : I.In w) : Lib.TabIs Tryz.prog w "internal/strconv.uint64pow10" .u64 Lib.pow10Tab := by
  obtain ⟨T, f, h⟩ := h
  have hg : Tryz.prog.globalNamed "internal/strconv.uint64pow10" = some 1 := by kernel_rfl
  unfold Lib.TabIs World.var?
  rw [hg]
  show (match w.heap[1]? with
    | some (.cells cs _ _) => some cs
    | _ => none) = _
  rw [hw _ _ h]
theorem sum_bad {all : List NodeC} {L r : List Tok} (h : Ps .atom all L (.bad r)) (h1 : hdT L 2 minusS = false) : Ps .sum all L (.bad r) := .sum_bad (.product_bad (.fac h1 (.power_bad h)))
def _root_.Go.Tw.LSO.left : LSO → List Tok
  | .bad r => r
  | .ok _ _ r => r
def pc (m : Bool) : Nat := if m then 1 else 0
def inn : Ex → Nat
  | .ref _ => 0
  | .num _ => 0
  | .neg x => inn x + pc (decide (bindE x < 3))
  | .pow x _ => inn x + pc (decide (bindE x < 5))
  | .bin k x y => inn x + pc (decide (bindE x < if 4 ≤ k then 2 else 1)) + (inn y + pc (decide (bindE y < (if 4 ≤ k then 2 else 1) + 1)))
def need (x : Ex) (m : Int) : Nat := inn x + pc (decide (bindE x < m))
theorem pc_le (m : Bool) : pc m ≤ 1 := by cases m <;> decide
theorem pc_mono {b m n : Int} (h : m ≤ n) : pc (decide (b < m)) ≤ pc (decide (b < n)) := by
  by_cases h1 : b < m
  · rw [decide_eq_true h1, decide_eq_true (show b < n by omega)]; exact Nat.le_refl _
  · rw [decide_eq_false h1]; exact Nat.zero_le _
theorem need_mono (x : Ex) {m n : Int} (h : m ≤ n) : need x m ≤ need x n := Nat.add_le_add_left (pc_mono h) _
theorem need_low (x : Ex) {m : Int} (h : m ≤ 1) : need x m = inn x := by
  unfold need
  rw [decide_eq_false (by have := bindE_pos x; omega)]; rfl
theorem need_up (x : Ex) (m : Int) : need x m ≤ inn x + 1 := Nat.add_le_add_left (pc_le _) _
def lp : List Tok → Nat
  | [] => 0
  | t :: r => pc (isT t 2 lpar) + lp r
theorem lp_app : ∀ (a b : List Tok), lp (a ++ b) = lp a + lp b
  | [], b => by rw [List.nil_append]; show lp b = 0 + lp b; omega
  | t :: a, b => by rw [List.cons_append, lp, lp, lp_app a b]; omega
def Lv.at_ : Lv → Int
  | .atom => 5
  | .powL => 4
  | .power => 4
  | .factor => 3
  | .prodL => 2
  | .product => 2
  | .sumL => 1
  | .sum => 1
def Lv.from_ : Lv → Int
  | .powL => 5
  | lv => Lv.at_ lv
def cntOut (lv : Lv) (all : List NodeC) (r : List Tok) (a1 : List NodeC) (r1 : List Tok) : Prop :=
  if lv.tail then ∀ (b : List NodeC) (x : Ex), x.ok → all = b ++ x.nd b.length → ∃ y : Ex, y.ok ∧ a1 = b ++ y.nd b.length ∧ lp r1 + need y (Lv.at_ lv) ≤ lp r + need x (Lv.from_ lv)
  else ∃ y : Ex, y.ok ∧ a1 = all ++ y.nd all.length ∧ lp r1 + need y (Lv.at_ lv) ≤ lp r
theorem Expo.lp_ {r r1 : List Tok} {e : Option Int} (h : Expo r e r1) : lp r1 ≤ lp r := by
  have h1 : ∀ (x : Tok) (r : List Tok), lp r ≤ lp (x :: r) := fun x r => Nat.le_add_left _ _
  cases h with
  | neg _ _ _ => exact Nat.le_trans (h1 _ _) (h1 _ _)
  | neg_end _ => exact h1 _ _
  | neg_bad _ _ => exact h1 _ _
  | pos _ _ _ => exact h1 _ _
  | pos_end => exact Nat.le_refl _
  | pos_bad _ _ => exact Nat.le_refl _
theorem Ps.cnt {lv : Lv} {all : List NodeC} {r : List Tok} {o : POut} (h : Ps lv all r o) (hr : ToksOk r) : ∀ a1 r1, o = .ok a1 r1 → cntOut lv all r a1 r1 := by
  have bin_ex : ∀ {k : Int} {all a1 b : List NodeC} {x y : Ex}, 2 ≤ k ∧ k ≤ 5 → x.ok → y.ok → all = b ++ x.nd b.length → a1 = all ++ y.nd all.length → (Ex.bin k x y).ok ∧ a1 ++ [binN k (lastI all) (lastI a1)] = b ++ (Ex.bin k x y).nd b.length := by
    rintro k all a1 b x y hk hx hy rfl rfl;refine ⟨⟨hk.1, hk.2, hx, hy⟩, ?_⟩
    rw [lastI_nd, lastI_nd, List.length_append, x.nd_len, List.append_assoc, List.append_assoc]
    simp only [Ex.nd, List.append_assoc]
    congr 4
  have hc : ∀ (x : Tok) (r : List Tok), lp r ≤ lp (x :: r) := fun x r => Nat.le_add_left _ _
  induction h with
  | par_bad _ _ _ => intro _ _ e; cases e
  | @par_ok all a1 x y r r1 h1 h2 h3 ih =>
    intro _ _ e; cases e
    obtain ⟨z, hz, ez, hl⟩ := ih (hr.suf (List.suffix_cons _ _)) _ _ rfl
    refine ⟨z, hz, ez, ?_⟩
    have hy := hc y r1
    have hu := need_up z 5
    have hn : need z (Lv.at_ .sum) = inn z := need_low z (Int.le_refl _)
    rw [hn] at hl
    show lp r1 + need z 5 ≤ pc (isT x 2 lpar) + lp r
    rw [h1]
    show _ ≤ 1 + _
    omega
  | par_no _ _ _ _ => intro _ _ e; cases e
  | @leaf all x r h =>
    intro _ _ e; cases e
    obtain ⟨y, h1, hn, h3⟩ := leaf_ex h (hr _ (by simp))
    refine ⟨y, h1, by rw [h3], ?_⟩
    have h0 : need y 5 = 0 := by
      cases y with
      | ref t => rfl
      | num q => rfl
      | neg x => have := x.n_pos; simp only [Ex.n] at hn; omega
      | pow x e => have := x.n_pos; simp only [Ex.n] at hn; omega
      | bin k x y => have := x.n_pos; simp only [Ex.n] at hn; omega
    have := hc x r
    show lp r + need y 5 ≤ _
    omega
  | none => intro _ _ e; cases e
  | no _ _ => intro _ _ e; cases e
  | pow_none _ =>
    intro _ _ e; cases e
    exact fun b x hx hb => ⟨x, hx, hb, Nat.add_le_add_left (need_mono x (by decide)) _⟩
  | @pow_ok all x r r1 ee h1 h =>
    intro _ _ e; cases e
    refine fun b y hx hb => ⟨.pow y _, ⟨hx, h.le (hr.suf (List.suffix_cons _ _))⟩, ?_, ?_⟩
    · rw [hb, lastI_nd, List.append_assoc]; rfl
    · have h2 := Expo.lp_ h
      have h3 := hc x r
      have h4 : need (.pow y ee) (Lv.at_ .powL) = need y 5 := by
        unfold need
        rw [decide_eq_false (show ¬ bindE (.pow y ee) < Lv.at_ .powL by show ¬ (4 : Int) < 4; decide)]
        rfl
      rw [h4]
      show _ ≤ lp (x :: r) + need y 5
      omega
  | pow_bad _ _ => intro _ _ e; cases e
  | power_bad _ _ => intro _ _ e; cases e
  | power_ok h1 _ ih1 ih2 =>
    intro _ _ e
    obtain ⟨y, hy, e1, l1⟩ := ih1 hr _ _ rfl
    obtain ⟨z, hz, e2, l2⟩ := ih2 (hr.suf h1.suf) _ _ e _ y hy e1
    refine ⟨z, hz, e2, ?_⟩
    change _ + need y 5 ≤ _ at l1
    change _ + need z 4 ≤ _ + need y 5 at l2
    show _ + need z 4 ≤ _
    omega
  | neg_bad _ _ _ => intro _ _ e; cases e
  | @neg_ok all a1 x r r1 h1 h2 ih =>
    intro _ _ e; cases e
    obtain ⟨y, hy, e1, l1⟩ := ih (hr.suf (List.suffix_cons _ _)) _ _ rfl
    refine ⟨.neg y, hy, ?_, ?_⟩
    · rw [e1, lastI_nd, List.append_assoc]; rfl
    · have h3 := hc x r
      have h4 : need (.neg y) (Lv.at_ .factor) = need y 3 := by
        unfold need
        rw [decide_eq_false (show ¬ bindE (.neg y) < Lv.at_ .factor by show ¬ (3 : Int) < 3; decide)]
        rfl
      rw [h4]
      change _ + need y 3 ≤ _ at l1
      omega
  | fac _ _ ih =>
    intro _ _ e
    obtain ⟨y, hy, e1, l1⟩ := ih hr _ _ e
    refine ⟨y, hy, e1, Nat.le_trans (Nat.add_le_add_left (need_mono y (by decide)) _) l1⟩
  | prodL_end _ =>
    intro _ _ e; cases e
    exact fun b x hx hb => ⟨x, hx, hb, Nat.le_refl _⟩
  | prodL_bad _ _ _ => intro _ _ e; cases e
  | @prodL_ok all a1 x r r1 k o hk h1 h2 ih1 ih2 =>
    intro _ _ e b z hx hb
    have hr1 := hr.suf (List.suffix_cons _ _)
    obtain ⟨y, hy, e1, l1⟩ := ih1 hr1 _ _ rfl
    obtain ⟨h2, h3⟩ := bin_ex (mulK_le hk) hx hy hb e1
    obtain ⟨u, hu, e2, l2⟩ := ih2 (hr1.suf h1.suf) _ _ e b _ h2 h3
    refine ⟨u, hu, e2, ?_⟩
    have hxr := hc x r
    have h4 : need (.bin k z y) 2 = need z 2 + need y 3 := by
      have hge := (mulK_ge hk).1
      unfold need
      rw [decide_eq_false (show ¬ bindE (.bin k z y) < 2 by show ¬ (if 4 ≤ k then (2 : Int) else 1) < 2; rw [if_pos hge]; decide)]
      show inn z + pc (decide (bindE z < if 4 ≤ k then 2 else 1)) + (inn y + pc (decide (bindE y < (if 4 ≤ k then 2 else 1) + 1))) + 0 = _
      rw [if_pos hge]; rfl
    change _ + need u 2 ≤ _ + need (.bin k z y) 2 at l2
    change _ + need y 3 ≤ _ at l1
    show _ + need u 2 ≤ _ + need z 2
    omega
  | product_bad _ _ => intro _ _ e; cases e
  | product_ok h1 _ ih1 ih2 =>
    intro _ _ e
    obtain ⟨y, hy, e1, l1⟩ := ih1 hr _ _ rfl
    obtain ⟨z, hz, e2, l2⟩ := ih2 (hr.suf h1.suf) _ _ e _ y hy e1
    refine ⟨z, hz, e2, ?_⟩
    have hm := need_mono y (show (2 : Int) ≤ 3 by decide)
    change _ + need y 3 ≤ _ at l1
    change _ + need z 2 ≤ _ + need y 2 at l2
    show _ + need z 2 ≤ _
    omega
  | sumL_end _ =>
    intro _ _ e; cases e
    exact fun b x hx hb => ⟨x, hx, hb, Nat.le_refl _⟩
  | sumL_bad _ _ _ => intro _ _ e; cases e
  | @sumL_ok all a1 x r r1 k o hk h1 h2 ih1 ih2 =>
    intro _ _ e b z hx hb
    have hr1 := hr.suf (List.suffix_cons _ _)
    obtain ⟨y, hy, e1, l1⟩ := ih1 hr1 _ _ rfl
    obtain ⟨h2, h3⟩ := bin_ex (addK_le hk) hx hy hb e1
    obtain ⟨u, hu, e2, l2⟩ := ih2 (hr1.suf h1.suf) _ _ e b _ h2 h3
    refine ⟨u, hu, e2, ?_⟩
    have hxr := hc x r
    have h4 : need (.bin k z y) 1 = need z 1 + need y 2 := by
      have hlt := (addK_lt hk).2
      unfold need
      rw [decide_eq_false (show ¬ bindE (.bin k z y) < 1 by show ¬ (if 4 ≤ k then (2 : Int) else 1) < 1; rw [if_neg (by omega)]; decide)]
      show inn z + pc (decide (bindE z < if 4 ≤ k then 2 else 1)) + (inn y + pc (decide (bindE y < (if 4 ≤ k then 2 else 1) + 1))) + 0 = _
      rw [if_neg (by omega)]; rfl
    change _ + need u 1 ≤ _ + need (.bin k z y) 1 at l2
    change _ + need y 2 ≤ _ at l1
    show _ + need u 1 ≤ _ + need z 1
    omega
  | sum_bad _ _ => intro _ _ e; cases e
  | sum_ok h1 _ ih1 ih2 =>
    intro _ _ e
    obtain ⟨y, hy, e1, l1⟩ := ih1 hr _ _ rfl
    obtain ⟨z, hz, e2, l2⟩ := ih2 (hr.suf h1.suf) _ _ e _ y hy e1
    refine ⟨z, hz, e2, ?_⟩
    have hm := need_mono y (show (1 : Int) ≤ 2 by decide)
    change _ + need y 2 ≤ _ at l1
    change _ + need z 1 ≤ _ + need y 1 at l2
    show _ + need z 1 ≤ _
    omega
def innAll (l : List (ByteArray × Ex)) : Nat := (l.map fun a => inn a.2).sum
theorem innAll_app (a b : List (ByteArray × Ex)) : innAll (a ++ b) = innAll a + innAll b := by simp [innAll]
theorem lp_suf {a b : List Tok} (h : a <:+ b) : lp a ≤ lp b := by
  obtain ⟨c, rfl⟩ := h
  rw [lp_app]; omega
theorem Lt1.cnt {all a1 : List NodeC} {r r1 : List Tok} {s : ByteArray} (h : Lt1 all r (.ok s a1 r1)) (hr : ToksOk r) : nameZ s = true ∧ r1 <:+ r ∧ ∃ x : Ex, x.ok ∧ a1 = all ++ x.nd all.length ∧ lp r1 + inn x ≤ lp r := by
  obtain ⟨k1, k2, _⟩ := h.ex hr
  refine ⟨k1, k2, ?_⟩
  cases h with
  | ok h1 h2 h3 h4 =>
    obtain ⟨x, hx, e, hl⟩ := Ps.cnt h3 (hr.suf ⟨[_, _], rfl⟩) _ _ rfl
    refine ⟨x, hx, e, ?_⟩
    rw [show need x (Lv.at_ .sum) = inn x from need_low x (Int.le_refl _)] at hl
    rename_i x' y' z' r'
    have a1 : lp r1 ≤ lp (z' :: r1) := Nat.le_add_left _ _
    have a2 : lp r' ≤ lp (x' :: y' :: r') := lp_suf ⟨[_, _], rfl⟩
    omega
theorem Lts.cnt {ls : List LetC} {all : List NodeC} {r : List Tok} {o : LSO} (h : Lts ls all r o) : ToksOk r → ∀ l : List (ByteArray × Ex), LetsOk l → ls = (laid l 0).1 → all = (laid l 0).2 → ∀ ls1 a1 r1, o = .ok ls1 a1 r1 → r1 <:+ r ∧ ∃ l', LetsOk l' ∧ ls1 = (laid l' 0).1 ∧ a1 = (laid l' 0).2 ∧ lp r1 + innAll l' ≤ lp r + innAll l := by
  induction h with
  | fin _ => intro hr l hl h1 h2 _ _ _ e; cases e; exact ⟨List.suffix_refl _, l, hl, h1, h2, Nat.le_refl _⟩
  | bad _ _ => intro hr l hl h1 h2 _ _ _ e; cases e
  | more hx h3 h4 ih =>
    intro hr l hl h1 h2 ls1 a2 r2 e
    have hr1 := hr.suf (List.suffix_cons _ _)
    obtain ⟨k1, k2, x, hx2, e2, hc⟩ := Lt1.cnt h3 hr1
    subst h1 h2
    obtain ⟨q1, l', q2, q3, q4, q5⟩ := ih (hr1.suf k2) (l ++ [(_, x)]) (fun a ha => by
      rcases List.mem_append.1 ha with ha | ha
      · exact hl a ha
      · rw [List.mem_singleton.1 ha]; exact ⟨k1, hx2⟩) (by rw [laid_more, e2, lastI_nd]; simp) (by rw [laid_more, e2]; simp) _ _ _ e
    refine ⟨q1.trans (k2.trans (List.suffix_cons _ _)), l', q2, q3, q4, ?_⟩
    rw [innAll_app] at q5
    have e5 : ∀ s : ByteArray, innAll [(s, x)] = inn x := fun s => by simp [innAll]
    rw [e5] at q5
    rename_i a1' x' n' r' r1' o'
    have h9 : lp r' ≤ lp (x' :: r') := Nat.le_add_left _ _
    omega
theorem Prg.cnt {r : List Tok} {p : ProgC} (h : Prg r (.ok p)) (hr : ToksOk r) : ∃ l, Shaped p l ∧ innAll l ≤ lp r := by
  cases h with
  | ok h1 h2 h3 h4 h5 =>
    have hr1 := hr.suf (List.suffix_cons _ _)
    obtain ⟨k1, k2⟩ := namesZ_ok _ h2
    obtain ⟨q1, l, q2, q3, q4, q5⟩ := Lts.cnt h3 (hr1.suf k2) [] (fun a ha => by cases ha) rfl rfl _ _ _ rfl
    refine ⟨l, ⟨q3, q4, q2⟩, ?_⟩
    rename_i x' y' r' r1' r2' i' o' l' a'
    have h6 : lp r1' ≤ lp (x' :: r') := lp_suf (k2.trans (List.suffix_cons _ _))
    have h7 : innAll [] = 0 := rfl
    omega
def _root_.Go.Tw.NOut.rest : NOut → List Tok
  | .bad r => r
  | .ok _ r => r
theorem namesZ_suf : ∀ (r : List Tok), (namesZ r).rest <:+ r
  | [] => List.suffix_refl _
  | [x] => by
    unfold namesZ
    split
    · exact List.nil_suffix
    · exact List.suffix_refl _
  | x :: y :: r => by
    have ih := namesZ_suf r
    unfold namesZ
    split
    · split
      · cases h : namesZ r with
        | bad r1 => rw [h] at ih; exact List.IsSuffix.trans ih ⟨[_, _], rfl⟩
        | ok l r1 => rw [h] at ih; exact List.IsSuffix.trans ih ⟨[_, _], rfl⟩
      · split
        · exact ⟨[_, _], rfl⟩
        · exact List.suffix_cons _ _
    · exact List.suffix_refl _
def _root_.Go.Tw.LO.rest : LO → List Tok
  | .bad r => r
  | .ok _ _ r => r
theorem _root_.Go.Tw.Lt1.suf {all : List NodeC} {r : List Tok} {o : LO} (h : Lt1 all r o) : o.rest <:+ r := by
  cases h with
  | noname _ => exact List.suffix_refl _
  | noeq _ _ => exact List.suffix_cons _ _
  | sumbad _ _ h => exact List.IsSuffix.trans h.suf ⟨[_, _], rfl⟩
  | nosemi _ _ h _ => exact List.IsSuffix.trans h.suf ⟨[_, _], rfl⟩
  | ok _ _ h _ => exact List.IsSuffix.trans ((List.suffix_cons _ _).trans h.suf) ⟨[_, _], rfl⟩
def _root_.Go.Tw.LSO.rest : LSO → List Tok
  | .bad r => r
  | .ok _ _ r => r
theorem _root_.Go.Tw.Lts.suf {ls : List LetC} {all : List NodeC} {r : List Tok} {o : LSO} (h : Lts ls all r o) : o.rest <:+ r := by
  induction h with
  | fin _ => exact List.suffix_refl _
  | bad _ h => exact List.IsSuffix.trans h.suf (List.suffix_cons _ _)
  | more _ h _ ih => exact ih.trans (List.IsSuffix.trans h.suf (List.suffix_cons _ _))
theorem _root_.Go.Tw.Prg.suf {r r1 : List Tok} (h : Prg r (.bad r1)) : r1 <:+ r := by
  have nm : ∀ {r r1 : List Tok} {l : List ByteArray}, namesZ r = .ok l r1 → r1 <:+ r := fun {r r1 l} h => by have := namesZ_suf r; rw [h] at this; exact this
  have nb : ∀ {r r1 : List Tok}, namesZ r = .bad r1 → r1 <:+ r := fun {r r1} h => by have := namesZ_suf r; rw [h] at this; exact this
  cases h with
  | noin _ => exact List.suffix_refl _
  | insbad _ h => exact (nb h).trans (List.suffix_cons _ _)
  | letsbad _ h1 h2 => exact h2.suf.trans ((nm h1).trans (List.suffix_cons _ _))
  | noout _ h1 h2 _ => exact h2.suf.trans ((nm h1).trans (List.suffix_cons _ _))
  | outsbad _ h1 h2 _ h3 => exact (nb h3).trans ((List.suffix_cons _ _).trans (h2.suf.trans ((nm h1).trans (List.suffix_cons _ _))))
  | tail _ h1 h2 _ h3 => exact (nm h3).trans ((List.suffix_cons _ _).trans (h2.suf.trans ((nm h1).trans (List.suffix_cons _ _))))
theorem parse_of {s : ByteArray} {p : ProgC} {l : List (ByteArray × Ex)} (h1 : (lexZ s).err = 0) (h2 : (lexZ s).toks.map st = progQ p.ins p.outs l) (h : RightP p l) : parseZ s = ⟨p, 0, 0, 0⟩ := by
  have hp := progQ_prg h.ins.1 h.ins.2.1 h.ok h.outs.1 h.outs.2.1
  rw [← h.lets, ← h.all] at hp
  unfold parseZ
  rw [h1, if_neg (by decide), prgZ_ok_st h2 hp]
  unfold parseT
  dsimp only
  rw [if_pos (by rw [tZ_right h]; rfl)]
theorem dec1 : decS 1 = ⟨#[49]⟩ := by
  have h : digs 1 = [49] := by rw [digs, dif_pos (by decide)]
  unfold decS decL; rw [h]; rfl
theorem rat1 : ratS 1 = ⟨#[49]⟩ := by
  unfold ratS; rw [if_pos (show (1 : Rat).den = 1 from rfl)]; exact dec1
theorem ok_num {n : Nat} (h : n ≤ 9) : (Ex.num (n : Rat)).ok := by
  have e : digs n = [48 + n] := by rw [digs, dif_pos (by omega)]
  have e1 : digs 1 = [49] := by rw [digs, dif_pos (by decide)]
  refine ⟨?_, ?_, ?_⟩
  · show (0 : Int) ≤ ((n : Int) : Int); omega
  · show (digs ((n : Int).natAbs)).length ≤ 40; rw [Int.natAbs_natCast, e]; show 1 ≤ 40; decide
  · show (digs 1).length ≤ 40; rw [e1]; decide
def s14 : ByteArray := ⟨#[105, 110, 32, 120, 59, 32, 108, 101, 116, 32, 97, 32, 61, 32, 120, 59, 32, 108, 101, 116, 32, 98, 32, 61, 32, 97, 32, 42, 32, 40, 97, 32, 43, 32, 49, 41, 59, 32, 111, 117, 116, 32, 98, 44, 32, 120, 59]⟩
def x14 : Ex := .bin 4 (.ref awA) (.bin 2 (.ref awA) (.num 1))
def l14 : List (ByteArray × Ex) := [(awA, .ref awX), (awB, x14)]
def p14 : ProgC := ⟨[awX], (laid l14 0).1, [awB, awX], (laid l14 0).2⟩
def t14 : TapeC := ⟨1, [constC (mkRat 1 1), ⟨2, 0, 1, 0, false, [], []⟩, ⟨4, 0, 2, 0, false, [], []⟩], [3, 0]⟩
theorem ok14 : x14.ok := ⟨by decide, by decide, nameZ_A, by decide, by decide, nameZ_A, ok_num (n := 1) (by decide)⟩
theorem right14 : RightP p14 l14 where
  lets := rfl
  all := rfl
  ok := fun a ha => by
    simp only [l14, List.mem_cons, List.not_mem_nil, or_false] at ha
    rcases ha with rfl | rfl
    · exact ⟨nameZ_A, nameZ_X⟩
    · exact ⟨nameZ_B, ok14⟩
  ins := ⟨fun s hs => by rw [List.mem_singleton.1 hs]; exact nameZ_X, by decide, by decide⟩
  outs := ⟨fun s hs => by
    simp only [p14, List.mem_cons, List.not_mem_nil, or_false] at hs
    rcases hs with rfl | rfl
    · exact nameZ_B
    · exact nameZ_X, by decide, by decide⟩
  few := ⟨by decide, by decide⟩
  low := fun a ha => by
    simp only [l14, List.mem_cons, List.not_mem_nil, or_false] at ha
    rcases ha with rfl | rfl <;> decide
theorem toks14 : progQ p14.ins p14.outs l14 = [tk 0 inS, tk 0 awX, tk 2 semiS, tk 0 letS, tk 0 awA, tk 2 equalS, tk 0 awX, tk 2 semiS, tk 0 letS, tk 0 awB, tk 2 equalS, tk 0 awA, tk 2 starS, tk 2 lpar, tk 0 awA, tk 2 plusS, tk 1 ⟨#[49]⟩, tk 2 rpar, tk 2 semiS, tk 0 outS, tk 0 awB, tk 2 commaS, tk 0 awX, tk 2 semiS] := by
  have h1 : shP (.ref awX) = [tk 0 awX] := rfl
  have h2 : shP x14 = [tk 0 awA, gp, tk 2 starS, gp, tk 2 lpar, tk 0 awA, gp, tk 2 plusS, gp, tk 1 (ratS 1), tk 2 rpar] := rfl
  show namesK inS p14.ins ++ ((letQ (awA, .ref awX) ++ (letQ (awB, x14) ++ [])) ++ namesK outS p14.outs) = _
  unfold letQ
  dsimp only
  rw [h1, h2, rat1]
  rfl
theorem parse14 : parseZ s14 = ⟨p14, 0, 0, 0⟩ := parse_of (by kernel_rfl) (by rw [toks14]; kernel_rfl) right14
def K14 : KN := [(awX, ⟨false, 0⟩), (awA, ⟨true, 0⟩), (awB, ⟨true, 1⟩)]
theorem read14 : (readZ p14).err = 0 ∧ (readZ p14).K = K14 := by
  have h := readZ_outs (p := p14) (n := ⟨#[]⟩) (m := ⟨#[]⟩) (K := [(awX, ⟨false, 0⟩)]) (K2 := K14) (L := [awX, awA, awA]) (by rw [tZ_right right14]; rfl) (by kernel_rfl) (by kernel_rfl)
  rw [h]
  exact ⟨by kernel_rfl, rfl⟩
theorem where14 (s : ByteArray) : whereZ p14 s = if hasK s K14 = true then (((getK s K14).getD ⟨false, 0⟩).l, ((getK s K14).getD ⟨false, 0⟩).i, true) else (false, 0, false) := by
  unfold whereZ
  rw [read14.1, read14.2]
  simp
theorem lowGo_ref {p : ProgC} {c : NodeC} {r : List NodeC} {i : Nat} {pl : List Int} {ops : List OpC} {z : Int} (h : c.kind = 0) (hz : plcZ p pl c.name = z) : lowGo p (c :: r) i pl ops = lowGo p r (i + 1) (pl.set i z) ops := by
  rw [lowGo, if_pos h, hz]
theorem lowGo_op {p : ProgC} {c : NodeC} {r : List NodeC} {i : Nat} {pl : List Int} {ops : List OpC} (h : c.kind ≠ 0) : lowGo p (c :: r) i pl ops = lowGo p r (i + 1) (pl.set i ((p.ins.length : Int) + ops.length)) (ops ++ [opL c (pl.set i ((p.ins.length : Int) + ops.length))]) := by
  rw [lowGo, if_neg h]
theorem lowT14 : lowT p14 = t14 := by
  have hp : ∀ pl s, plcZ p14 pl s = if (whereZ p14 s).1 = true then pl.getD ((p14.lets.getD (whereZ p14 s).2.1.toNat ⟨⟨#[]⟩, 0⟩).root.toNat) 0 else (whereZ p14 s).2.1 := fun _ _ => rfl
  have wX : whereZ p14 awX = (false, 0, true) := by rw [where14]; kernel_rfl
  have wA : whereZ p14 awA = (true, 0, true) := by rw [where14]; kernel_rfl
  have wB : whereZ p14 awB = (true, 1, true) := by rw [where14]; kernel_rfl
  have pX : ∀ pl, plcZ p14 pl awX = 0 := fun pl => by rw [hp, wX]; rfl
  have pA : ∀ pl, plcZ p14 pl awA = pl.getD 0 0 := fun pl => by rw [hp, wA]; rfl
  have pB : ∀ pl, plcZ p14 pl awB = pl.getD 5 0 := fun pl => by rw [hp, wB]; rfl
  have e1 : lowAll p14 = ([0, 0, 0, 1, 2, 3], t14.ops) := by
    unfold lowAll
    have e2 : p14.all = [refN awX, refN awA, refN awA, numN 1, binN 2 2 3, binN 4 1 4] := by kernel_rfl
    rw [e2]
    show lowGo p14 _ 0 [0, 0, 0, 0, 0, 0] [] = _
    rw [lowGo_ref rfl (pX _), lowGo_ref rfl (pA _), lowGo_ref rfl (pA _), lowGo_op (by decide), lowGo_op (by decide), lowGo_op (by decide)]
    have e3 : mkRat 1 1 = (1 : Rat) := by decide +kernel
    unfold t14
    rw [e3]
    rfl
  unfold lowT
  rw [e1]
  show (⟨1, t14.ops, [plcZ p14 [0, 0, 0, 1, 2, 3] awB, plcZ p14 [0, 0, 0, 1, 2, 3] awX]⟩ : TapeC) = _
  rw [pB, pX]
  rfl
theorem w14 : tapeW t14 = some [1, 1, 2, 3] := by
  have h := constC_ok (q := mkRat 1 1) (by decide +kernel) (by decide +kernel)
  unfold tapeW t14
  simp only [wgts, h, constC_w, if_true]
  decide +kernel
theorem low14 : lowZ p14 = ⟨t14, ⟨#[]⟩, 0⟩ := by
  unfold lowZ
  rw [if_neg (by rw [read14.1]; decide), lowT14, w14]
  exact if_pos rfl
theorem few14 : ∀ o ∈ t14.ops, OpC.few 3000 o := fun o ho => by
  simp only [t14, List.mem_cons, List.not_mem_nil, or_false] at ho
  rcases ho with rfl | rfl | rfl
  · exact few_const (bd_small (by decide) (by decide))
  · exact few_none _ _ _ _
  · exact few_none _ _ _ _
theorem few_two {l : List OpC} (h : ∀ o ∈ l, OpC.few 3000 o) : ∀ o ∈ l, OpC.few 2000000 o := fun o ho => ⟨Nat.le_trans (h o ho).1 (by decide), Nat.le_trans (h o ho).2 (by decide)⟩
theorem awake14_any {I : Hp} (hT : Tabs I) (hM : Mx I) (hE : Errs I) : Fun Tryz.prog 29 [] I [] (fun v _ _ => v = .bool true) := by
  have hpa := parse_any s14 hT hM hE (by decide)
  rw [parse14] at hpa
  intro w hw
  refine enter0 _ Tryz.func29 rfl Tryz.ntmps29 ?_ hw;refine sR ?_;refine oV ?_;refine nS ?_;refine oI Tryz.call27 rfl hpa ?_;rintro _ I1 hx1 ⟨vi, vl, vo, va, ns, rfl, hp, hf⟩;refine oV ?_
  have hp : ProgV I1 vi vl vo va p14 ns := hp
  have hsi := hp.si
  have hsl := hp.sl
  have hso := hp.so
  have hsa := hp.sa
  have hf' : ∀ o ∈ ns, o.c.few 3000 := fun o ho => ⟨Nat.le_trans (hf o ho).1 (by decide), Nat.le_trans (hf o ho).2 (by decide)⟩
  have hlow := lowerT_any vi vl vo va p14 ns hp hf'
  rw [low14] at hlow
  iterate 3 refine oV ?_
  refine o_alloc trivial rfl Tryz.zeroValue26 rfl (fun b1 => ?_);refine o_alloc trivial rfl Tryz.zeroValue48 rfl (fun b2 => ?_);refine oS Tryz.sizeOf26 ?_;refine oS Tryz.sizeOf48 ?_;refine oV ?_;refine nS ?_;refine oA Tryz.isAgg26 Tryz.sizeOf26 ?_;refine oI Tryz.call30 rfl hlow ?_;rintro _ I2 hx2 ⟨wo, wu, os, rfl, ht, hfo⟩;refine oV ?_
  have ht : TapeV I2 wo wu t14 os := ht
  have hto := ht.so
  have htu := ht.su
  iterate 3 refine oV ?_
  refine o_alloc trivial rfl Tryz.zeroValue56 rfl (fun b4 => ?_);refine oS Tryz.sizeOf56 ?_;iterate 2 refine oV ?_
  refine nS ?_;refine oI Tryz.call63 rfl (rOf8_any 1 (by decide)) ?_;rintro _ I3 hx3 ⟨u1, u2, rfl, k1, k2⟩;refine o_buildS trivial rfl (bld69) rfl (.cons rfl rfl rfl (by repeat constructor) (.cons rfl rfl rfl (by repeat constructor) .nil)) ?_;iterate 2 refine o_buildS trivial rfl (bld69) rfl (.cons rfl rfl rfl (by repeat constructor) (.cons rfl rfl rfl (by repeat constructor) (.cons rfl rfl rfl (by repeat constructor) .nil))) ?_
  refine oB Tryz.underlying54 Tryz.sizeOf69 Tryz.zeroValue69 fun b23 => ?_;refine oB Tryz.underlying52 Tryz.sizeOf3 Tryz.zeroValue3 fun b24 => ?_;refine l_sealB (b := b23) (.there .here) (fun I4 hx4 hb23 => ?_);refine l_sealB (b := b24) .here (fun I5 hx5 hb24 => ?_)
  have hl5 := hx4.le.trans hx5.le
  have hq : TapeV I5 (.slice (some ⟨b23, 0, none⟩) 3 3) (.slice (some ⟨b24, 0, none⟩) 2 2) t14 [⟨constC (mkRat 1 1), u1, u2⟩, plainO 2 0 1 0, plainO 4 0 2 0] := TapeV.of (t := t14) [⟨constC (mkRat 1 1), u1, u2⟩, plainO 2 0 1 0, plainO 4 0 2 0] (hx5.le _ _ hb23) hb24 (fun o ho => by
    simp only [List.mem_cons, List.not_mem_nil, or_false] at ho
    rcases ho with rfl | rfl | rfl
    · exact ⟨k1.le hl5, k2.le hl5⟩
    · exact plainO_ok _ _ _ _ _
    · exact plainO_ok _ _ _ _ _) rfl (Nat.le_of_ble_eq_true rfl) (Nat.le_of_ble_eq_true rfl)
  have ht5 := ht.le (hx3.le.trans hl5)
  have hwt := tWeights_any t14 wo wu os ht5 (few_two few14)
  have hri := tapeRight_any t14 wo wu os ht5 (few_two few14)
  have hsm := tSame_any wo wu _ _ t14 t14 os _ ht5 hq
  rw [w14] at hwt hri
  refine o_buildS trivial rfl (bld56) rfl (.cons rfl rfl rfl (by repeat constructor) (.cons rfl (by rfl) (by rfl) (by repeat constructor) (.cons rfl (by rfl) (by rfl) (by repeat constructor) .nil))) ?_;refine o_alloc trivial rfl Tryz.zeroValue56 rfl (fun b7 => ?_);refine oS Tryz.sizeOf56 ?_;refine nS ?_;iterate 2 refine oV ?_
  refine' o_and trivial trivial rfl rfl rfl rfl rfl rfl rfl rfl (fun hb28 => ?_) ?_;rotate_left
  ·
   iterate 2 refine gV hb28 ?_
   refine oN ?_;exact joins rfl
  refine' o_and trivial trivial rfl rfl rfl rfl rfl rfl rfl rfl (fun hb32 => ?_) ?_;rotate_left
  ·
   iterate 2 refine gV hb32 ?_
   refine oN ?_;exact joins rfl
  refine' o_and trivial trivial rfl rfl rfl rfl rfl rfl rfl rfl (fun hb36 => ?_) ?_;rotate_left
  ·
   have fb36 := hb36
   try simp only [bl] at fb36
   iterate 2 refine o_loadA (wS rfl rfl hb36) rfl Tryz.isAgg56 Tryz.sizeOf56 rfl (by repeat constructor) (by repeat constructor) ?_
   refine o_callQ (wS rfl rfl hb36) rfl Tryz.call32 rfl hsm ?_;refine oN ?_;exact joins rfl
  refine' o_and trivial trivial rfl rfl rfl rfl rfl rfl rfl rfl (fun hb41 => ?_) ?_;rotate_left
  ·
   have fb41 := hb41
   try simp only [bl] at fb41
   refine o_loadA (wS rfl rfl hb41) rfl Tryz.isAgg56 Tryz.sizeOf56 rfl (by repeat constructor) (by repeat constructor) ?_;refine o_callI (wS rfl rfl hb41) rfl Tryz.call37 rfl hwt ?_;rintro _ I6 hx6 hs6;refine o_buildSl (wS rfl rfl hb41) rfl Tryz.underlying52 Tryz.sizeOf3 Tryz.zeroValue3 (by decide) (by decide) rfl (by repeat first | exact rfl | constructor) rfl (fun b44 => ?_);refine l_sealB .here (fun I7 hx7 hb44 => ?_)
   have hri := tapeRight_any t14 wo wu os (ht5.le (hx6.le.trans hx7.le)) (few_two few14)
   rw [w14] at hri
   refine o_callQ (wS rfl rfl hb41) rfl Tryz.call36 rfl (ints_any _ _ [1, 1, 2, 3] (hs6.le hx7.le) (Slc.of_box (sz := 1) (xss := nss [1, 1, 2, 3]) (c := 4) hb44 (nss_one _) (by decide) (by decide))) ?_;refine oN ?_;exact joinsW rfl (fun _ h => (h.sort (by repeat constructor)).fewer ((hx6.le).trans hx7.le))
  refine' o_and trivial trivial rfl rfl rfl rfl rfl rfl rfl rfl (fun hb47 => ?_) ?_;rotate_left
  ·
   have fb47 := hb47
   try simp only [bl] at fb47
   refine o_loadA (wS rfl rfl hb47) rfl Tryz.isAgg56 Tryz.sizeOf56 rfl (by repeat constructor) (by repeat constructor) ?_;refine o_callQ (wS rfl rfl hb47) rfl Tryz.call34 rfl hri ?_;refine oN ?_;exact joins rfl
  refine oV ?_;refine nE ?_;refine ret1 rfl rfl ?_;exact leaf (hx1.trans (hx2.trans (hx3.trans (hx4.trans hx5 (Nat.le_refl _)) (Nat.le_refl _)) (Nat.le_refl _)) (Nat.le_refl _)) (List.nil_sublist _) (congrArg Value.bool (by simp [eqB_self]))
structure Rel (f : Int → Int) (l l' : List Nat) : Prop where
  out : ∀ p : Int, 0 ≤ p → p < l.length → 0 ≤ f p ∧ f p < l'.length ∧ 1 ≤ l'.getD (f p).toNat 0 ∧ l'.getD (f p).toNat 0 ≤ 12 * l.getD p.toNat 0
theorem getD_app_left {α : Type} {l r : List α} {i : Nat} {d : α} (h : i < l.length) : (l ++ r).getD i d = l.getD i d := by
  simp only [List.getD_eq_getElem?_getD]; rw [List.getElem?_append_left h]
theorem getD_app_end {α : Type} {l : List α} {x d : α} : (l ++ [x]).getD l.length d = x := by
  simp only [List.getD_eq_getElem?_getD]; rw [List.getElem?_append_right (Nat.le_refl _), Nat.sub_self]; rfl
theorem Rel.add {f : Int → Int} {l l' : List Nat} {m m' : Nat} (h : Rel f l l') (hf : f (l.length : Nat) = (l'.length : Nat)) (h1 : 1 ≤ m' ∧ m' ≤ 12 * m) : Rel f (l ++ [m]) (l' ++ [m']) := ⟨fun p hp0 hp => by
  simp only [List.length_append, List.length_cons, List.length_nil] at hp ⊢
  by_cases hlt : p < l.length
  · obtain ⟨k1, k2, k3, k4⟩ := h.out p hp0 hlt
    rw [getD_app_left (by omega), getD_app_left (by omega)]
    exact ⟨k1, by omega, k3, k4⟩
  · have e : p = (l.length : Nat) := by omega
    subst e
    rw [hf, Int.toNat_natCast, Int.toNat_natCast, getD_app_end, getD_app_end]
    exact ⟨by omega, by omega, h1⟩⟩
theorem wgts_pre : ∀ {ops : List OpC} {l r : List Nat}, wgts ops l = some r → ∃ s, r = l ++ s
  | [], l, r, h => by cases h; exact ⟨[], by simp⟩
  | o :: ops, l, r, h => by
    unfold wgts at h
    split at h
    · split at h
      · obtain ⟨s, rfl⟩ := wgts_pre h
        exact ⟨_, by rw [List.append_assoc]⟩
      · cases h
    · cases h
structure RelQ (f : Int → Int) (l l' : List Rat) : Prop where
  out : ∀ p : Int, 0 ≤ p → p < l.length → 0 ≤ f p ∧ f p < l'.length ∧ zth l' (f p) = zth l p
theorem zth_app_left {l r : List Rat} {p : Int} (h0 : 0 ≤ p) (h : p < l.length) : zth (l ++ r) p = zth l p := getD_app_left (by omega)
theorem RelQ.add {f : Int → Int} {l l' : List Rat} {q : Rat} (h : RelQ f l l') (hf : f (l.length : Nat) = (l'.length : Nat)) : RelQ f (l ++ [q]) (l' ++ [q]) := ⟨fun p hp0 hp => by
  simp only [List.length_append, List.length_cons, List.length_nil] at hp ⊢
  by_cases hlt : p < l.length
  · obtain ⟨k1, k2, k3⟩ := h.out p hp0 hlt
    rw [zth_app_left (by omega) (by omega), zth_app_left hp0 hlt]
    exact ⟨k1, by omega, k3⟩
  · have e : p = (l.length : Nat) := by omega
    subst e
    rw [hf]
    refine ⟨by omega, by omega, ?_⟩
    unfold zth
    rw [Int.toNat_natCast, Int.toNat_natCast, getD_app_end, getD_app_end]⟩
theorem wgts_app : ∀ (a b : List OpC) (l : List Nat), wgts (a ++ b) l = match wgts a l with | some r => wgts b r | none => none
  | [], b, l => rfl
  | o :: a, b, l => by
    show (if fieldsOK o = true then (match wgt o l with | some m => wgts (a ++ b) (l ++ [m]) | none => none) else none) = match (if fieldsOK o = true then (match wgt o l with | some m => wgts a (l ++ [m]) | none => none) else none) with | some r => wgts b r | none => none
    cases fieldsOK o with
    | false => rfl
    | true =>
      simp only [if_true]
      cases wgt o l with
      | none => rfl
      | some m => exact wgts_app a b _
end Go.Proofs.YtfcmhcaggdakbaaGreatDoor
