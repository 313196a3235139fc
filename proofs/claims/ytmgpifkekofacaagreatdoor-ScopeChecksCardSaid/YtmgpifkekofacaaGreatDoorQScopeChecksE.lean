/-
  ScopeChecks, part 5: the texts Ref8b, RefB, RefW, Tree10, RefH2, Law11, RefW2, Scope, Scope2, Scope3, Ref13, Scope4, Ref13b, Law13, Law13b, Open, Open11 as one.
-/
import Derived.Test.YtmgpifkekofacaaGreatDoorQScopeChecksD
import Derived.Deep.Slices
set_option linter.unusedVariables false
set_option linter.unusedSimpArgs false
set_option linter.unnecessarySimpa false
set_option maxHeartbeats 1000000
namespace Go.Tw
open Go
theorem Few.pow {k : Nat} {q : Rat} (h : Few k q) (m : Nat) : Few (k * m + 1) (q ^ m) := by
  have key : ∀ a : Nat, a < 4294967296 ^ k → a ^ m < 4294967296 ^ (k * m + 1) := fun a ha => by
    have h2 : a ^ m ≤ (4294967296 ^ k) ^ m := Nat.pow_le_pow_left (Nat.le_of_lt ha) m
    rw [← Nat.pow_mul] at h2
    exact Nat.lt_of_le_of_lt h2 (Nat.pow_lt_pow_right (by decide) (Nat.lt_succ_self _))
  exact ⟨by rw [Rat.num_pow, Int.natAbs_pow]; exact key _ h.num, by rw [Rat.den_pow]; exact key _ h.den⟩
theorem RV.at_ {I : Hp} {v : Value} {rs : List RV} (h : Slc I 3 v (rcs rs)) {i : Nat} {r : RV} (hr : rs[i]? = some r) : ∀ k y, ([.bool (decide (r.q.num < 0)), r.vn, r.vd] : List Value)[k]? = some y → I.cell? ⟨slcB v, slcO v + i * 3 + k, none⟩ = some y :=
  h.cells i _ (by unfold rcs; rw [List.getElem?_map, hr]; rfl)
end Go.Tw
namespace Go.Proofs.YtmgpifkekofacaaGreatDoor
open Go Go.Tw
theorem rFew_any (vx : Value) (xs : List NV) (k : Int) {I : Hp} (h : PtV I vx xs) : Fun Tryz.prog 47 [vx, .int .i64 k] I [] (fun v _ _ => v = .bool (xs.all fun x => decide ((x.n.length : Int) ≤ k ∧ (x.d.length : Int) ≤ k))) := by
  have hl1 : (xs.map NV.cells).length = xs.length := List.length_map _
  have hs1 := h.s
  have hm1 := hs1.most
  unfold maxLen at hm1
  intro w hw
  refine enter2 _ Tryz.func47 rfl Tryz.ntmps47 rfl ?_ hw;refine sR ?_;refine oV ?_;refine nU ?_;refine oV ?_;refine oN (tC (cB ?_));refine c_loop (ι := Nat) [0, 1] (.cons rfl (.cons rfl .nil)) (fun i => xs.length - i) (fun i E0 => (5, .int .i64 (i : Nat)) :: E0) (fun i => St w [] I []) (fun i => i ≤ xs.length ∧ ((xs.take i).all fun x => decide ((x.n.length : Int) ≤ k ∧ (x.d.length : Int) ≤ k)) = true) (0) (sC rfl (sC rfl (sC rfl sN))) (fun _ h => h) (⟨Nat.zero_le _, rfl⟩) ?_;rintro i ⟨hi, he⟩
  try dsimp only
  refine cS (sR ?_);iterate 2 refine oV ?_
  refine o_lenSlc trivial rfl Tryz.underlying76 rfl (hs1) ?_;refine oV ?_;refine nT ?_;refine cC rfl (fun h1 => ?_) (fun h1 => ?_)
  ·
   have f1 := h1;try simp only [bl] at f1
   have hi1 : i < xs.length := by omega
   obtain ⟨x, hx⟩ : ∃ x, xs[i]? = some x := ⟨xs[i], List.getElem?_eq_getElem hi1⟩
   obtain ⟨hxn, hxd⟩ := h.ok x (List.mem_of_getElem? hx)
   refine cK (tC (cS (cB (sR ?_))));iterate 2 refine oV ?_
   refine o_elem trivial rfl Tryz.underlying76 Tryz.sizeOf42 rfl (hs1) rfl (by omega) ?_;refine oF 1 Tryz.underlying42 Tryz.sizeOf40 ?_;refine o_load1I trivial rfl Tryz.isAgg40 rfl (NV.at_ h hx 1 _ rfl) ?_;refine o_lenW trivial rfl Tryz.underlying40 rfl (hxn) ?_;iterate 2 refine oV ?_
   refine' o_or trivial trivial rfl rfl rfl rfl rfl rfl rfl rfl (fun hb20 => ?_) ?_;rotate_left
   ·
    have fb20 := hb20
    try simp only [bl] at fb20
    iterate 2 refine gV hb20 ?_
    refine o_elem (wS rfl rfl hb20) rfl Tryz.underlying76 Tryz.sizeOf42 rfl (hs1) rfl (by omega) ?_;refine gF hb20 2 Tryz.underlying42 Tryz.sizeOf40 ?_;refine o_load1I (wS rfl rfl hb20) rfl Tryz.isAgg40 rfl (NV.at_ h hx 2 _ rfl) ?_;refine o_lenW (wS rfl rfl hb20) rfl Tryz.underlying40 rfl (hxd) ?_;iterate 2 refine gV hb20 ?_
    refine oN ?_;exact joins rfl
   refine nT ?_;refine cC rfl (fun h2 => ?_) (fun h2 => ?_)
   ·
    have f2 := h2;try simp only [bl] at f2
    refine sR ?_;refine oV ?_;refine oN (tC (cT (blk_r (tR (tR (blk_r (tR ?_)))))));refine ret1 rfl rfl ?_;refine leaf0 (congrArg Value.bool ?_)
    symm
    rw [List.all_eq_false]
    exact ⟨x, List.mem_of_getElem? hx, by simp; omega⟩
   have f2 := h2;try simp only [bl] at f2
   refine cK (blk_n (tC (cR ?_)));refine oV ?_
   first | (refine o_add trivial rfl rfl rfl ?_ ?_; (omega)) | refine oV ?_
   refine oV ?_;refine oN ?_;exact again (i + 1) (sC rfl (sC rfl (sC rfl sN))) (fun _ h => h) (by show xs.length - (i + 1) < xs.length - i; omega) ⟨by show i + 1 ≤ _; omega, by rw [List.take_add_one, hx, List.all_append, he]; simp; omega⟩
  have f1 := h1;try simp only [bl] at f1
  refine c_exit (then_x (then_x (blk_eq rfl (tC (sR ?_)))));refine oV ?_;refine nE ?_;refine ret1 rfl rfl ?_;refine leaf0 (congrArg Value.bool ?_)
  rw [List.take_of_length_le (by omega)] at he
  exact he.symm
theorem rShiftB_any (va : Value) (A : List Nat) (m : Nat) {I : Hp} (ha : Ws I va A) (hs : A.length ≤ 35184372088400) (hm : m ≤ 10000000000000000) (hr : (natW (val A * 2 ^ min m 100000)).length ≤ 35184372088400) : Fun Tryz.prog 147 [va, .int .i64 (m : Int)] I [] (fun v I' _ => Ws I' v (natW (val A * 2 ^ min m 100000))) := by
  have hA := val_lt ha.wds
  intro w hw
  refine enter2 _ Tryz.func147 rfl Tryz.ntmps147 rfl ?_ hw;refine sR ?_;refine oV ?_;refine nS ?_;refine oV ?_;refine oI Tryz.call116 rfl (rTrim_any _ _ ha (by omega)) ?_;rintro u1 I1 hx1 hs1;refine oV ?_;refine nU ?_;refine oV ?_;refine oN (tC (cB ?_));refine c_loop (ι := Nat × Value × Hp) [1] (.cons rfl .nil) (fun x => m - x.1) (fun x E0 => (5, x.2.1) :: (6, .int .i64 (x.1 : Nat)) :: E0) (fun x => St w [] x.2.2 []) (fun x => x.1 ≤ min m 100000 ∧ Ws x.2.2 x.2.1 (natW (val A * 2 ^ x.1)) ∧ Ext w.heap.size I x.2.2) ((0, u1, I1)) (sC rfl (sC rfl (sC rfl sN))) (fun _ h => h) (⟨Nat.zero_le _, by show Ws I1 u1 (natW (val A * 1)); rw [Nat.mul_one]; exact hs1, hx1⟩) ?_;rintro ⟨i, u, I2⟩ ⟨hi, hu, hx2⟩
  try dsimp only
  simp only at hi hu hx2
  refine cS (sR ?_);iterate 3 refine oV ?_
  refine' o_and trivial trivial rfl rfl rfl rfl rfl rfl rfl rfl (fun hb12 => ?_) ?_;rotate_left
  ·
   iterate 2 refine gV hb12 ?_
   refine oN ?_;exact joins rfl
  refine' o_and trivial trivial rfl rfl rfl rfl rfl rfl rfl rfl (fun hb16 => ?_) ?_;rotate_left
  ·
   have fb16 := hb16
   try simp only [bl] at fb16
   refine gV hb16 ?_;refine o_lenW (wS rfl rfl hb16) rfl Tryz.underlying40 rfl (hu) ?_;refine gV hb16 ?_;refine oN ?_;exact joins rfl
  refine nT ?_;refine cC rfl (fun h1 => ?_) (fun h1 => ?_)
  ·
   have f1 := h1;try simp only [bl] at f1
   have hl1 : (natW (val A * 2 ^ i)).length ≤ 35184372088400 := Nat.le_trans (natW_le_len (Nat.mul_le_mul_left _ (Nat.pow_le_pow_right (by decide) hi))) hr
   refine cK (tC (cS (cB (cR ?_))));refine oV ?_;refine oI Tryz.call148 rfl (rOne_any _ _ 2 0 hu (by omega) (by decide) (by decide)) ?_;rintro u3 I3 hx3 hs3;refine oV ?_;refine oN (blk_n (tC (cR ?_)));refine oV ?_
   first | (refine o_add trivial rfl rfl rfl ?_ ?_; (omega)) | refine oV ?_
   refine oV ?_;refine oN ?_
   rw [val_natW, Nat.add_zero, Nat.mul_assoc, ← Nat.pow_succ] at hs3
   exact again (i + 1, u3, I3) (sC rfl (sC rfl (sC rfl sN))) (fun _ h => h) (by show m - (i + 1) < m - i; omega) ⟨by show i + 1 ≤ _; omega, hs3, hx2.trans hx3 (Nat.le_refl _)⟩
  have f1 := h1;try simp only [bl] at f1
  refine c_exit (then_x (then_x (blk_eq rfl (tC (sR ?_)))));iterate 2 refine oV ?_
  refine nE ?_;refine ret1 rfl rfl ?_;refine leaf hx2 (List.nil_sublist _) ?_
  by_cases him : i = min m 100000
  · rw [← him]; exact hu
  · have h0 : val A * 2 ^ i = 0 := natW_len_zero.1 (by omega)
    have hp : 0 < 2 ^ i := Nat.pow_pos (by decide)
    have h1 : val A = 0 := by
      rcases Nat.mul_eq_zero.1 h0 with h | h
      · exact h
      · omega
    rw [h1, Nat.zero_mul] at hu ⊢
    exact hu
theorem rGcdB_any (va vb : Value) (A B : List Nat) {I : Hp} (ha : Ws I va A) (hb : Ws I vb B) (hs : A.length ≤ 35184372088400) (hs2 : B.length ≤ 35184372088400) : Fun Tryz.prog 123 [va, vb] I [] (fun v I' _ => ∃ g, Ws I' v (natW g) ∧ (natW g).length ≤ 35184372088400 ∧ (val B ≠ 0 → 0 < g)) := by
  have hal : (natW (val A)).length ≤ 35184372088400 := Nat.le_trans (natW_len_list ha.wds) hs
  have hbl : (natW (val B)).length ≤ 35184372088400 := Nat.le_trans (natW_len_list hb.wds) hs2
  intro w hw
  refine enter2 _ Tryz.func123 rfl Tryz.ntmps123 rfl ?_ hw;refine sR ?_;refine oV ?_;refine nS ?_;refine oV ?_;refine oI Tryz.call116 rfl (rTrim_any _ _ ha (by omega)) ?_;rintro u1 I1 hx1 hs1;refine oV ?_;refine nS ?_;refine oV ?_;refine oI Tryz.call116 rfl (rTrim_any _ _ (hb.le hx1.le) (by omega)) ?_;rintro u2 I2 hx2 hs2';refine oV ?_;refine nU ?_;refine oV ?_;refine o_lenW trivial rfl Tryz.underlying40 rfl (hs1.le hx2.le) ?_;refine oV ?_;refine nT ?_;refine cC rfl (fun h1 => ?_) (fun h1 => ?_)
  ·
   have f1 := h1;try simp only [bl] at f1
   refine sR ?_;iterate 2 refine oV ?_
   refine nF ?_;refine ret1 rfl rfl ?_
   have h0 : val A = 0 := natW_len_zero.1 (by omega)
   exact leaf (hx1.trans hx2 (Nat.le_refl _)) (List.nil_sublist _) ⟨val B, hs2', hbl, fun h => Nat.pos_of_ne_zero h⟩
  have f1 := h1;try simp only [bl] at f1
  refine cK (tC (cS (sR ?_)));refine oV ?_;refine o_lenW trivial rfl Tryz.underlying40 rfl (hs2') ?_;refine oV ?_;refine nT ?_;refine cC rfl (fun h2 => ?_) (fun h2 => ?_)
  ·
   have f2 := h2;try simp only [bl] at f2
   refine sR ?_;iterate 2 refine oV ?_
   refine nF ?_;refine ret1 rfl rfl ?_
   have h0 : val B = 0 := natW_len_zero.1 (by omega)
   exact leaf (hx1.trans hx2 (Nat.le_refl _)) (List.nil_sublist _) ⟨val A, hs1.le hx2.le, hal, fun h => absurd h0 h⟩
  have f2 := h2;try simp only [bl] at f2
  have hA0 : 0 < val A := Nat.pos_of_ne_zero fun e => f1 (by rw [e, natW_zero]; rfl)
  have hB0 : 0 < val B := Nat.pos_of_ne_zero fun e => f2 (by rw [e, natW_zero]; rfl)
  refine kS ?_;refine oV ?_;refine oI Tryz.call144 rfl (rOdd_any _ _ (hs1.le hx2.le) (by omega) hA0) ?_;rintro _ I3 hx3 ⟨u3, x, n, rfl, hs3, ho3⟩;iterate 5 refine oV ?_
  refine oN (tC (cS ?_))
  have hn := ho3.pow_lt hal
  refine cR ?_;refine oV ?_;refine oI Tryz.call144 rfl (rOdd_any _ _ (hs2'.le hx3.le) (by omega) hB0) ?_;rintro _ I4 hx4 ⟨u4, y, k, rfl, hs4, ho4⟩;iterate 5 refine oV ?_
  refine oN (tC (cS (cB ?_)));refine c_loop (ι := Nat × Nat × Value × Value × Hp) [7, 8] (.cons rfl (.cons rfl .nil)) (fun t => t.1 + t.2.1) (fun t E0 => (5, t.2.2.1) :: (6, t.2.2.2.1) :: E0) (fun t => St w [] t.2.2.2.2 []) (fun t => t.1 % 2 = 1 ∧ t.2.1 % 2 = 1 ∧ Nat.gcd t.1 t.2.1 = Nat.gcd x y ∧ Ws t.2.2.2.2 t.2.2.1 (natW t.1) ∧ Ws t.2.2.2.2 t.2.2.2.1 (natW t.2.1) ∧ (natW t.1).length ≤ 35184372088400 ∧ (natW t.2.1).length ≤ 35184372088400 ∧ Ext w.heap.size I t.2.2.2.2) ((x, y, u3, u4, I4)) (sC rfl (sC rfl (sC rfl (sC rfl sN)))) (fun _ h => h) (⟨ho3.odd, ho4.odd, rfl, hs3.le hx4.le, hs4, Nat.le_trans (natW_le_len ho3.le) hal, Nat.le_trans (natW_le_len ho4.le) hbl, hx1.trans (hx2.trans (hx3.trans hx4 (Nat.le_refl _)) (Nat.le_refl _)) (Nat.le_refl _)⟩) ?_;rintro ⟨a, b, ua, ub, I5⟩ ⟨hao, hbo, hg, hua, hub, hla, hlb, hx5⟩
  try dsimp only
  simp only at hao hbo hg hua hub hla hlb hx5
  refine cS (sR ?_);iterate 2 refine oV ?_
  refine oQ Tryz.call145 rfl (rCmp_any _ _ _ _ hua hub (by omega) (by omega)) ?_;refine oV ?_;refine nT ?_;refine cC rfl (fun h3 => ?_) (fun h3 => ?_)
  ·
   have f3 := h3;try simp only [bl] at f3
   rw [val_natW, val_natW] at f3
   have hab : a ≠ b := fun e => f3 (by rw [e]; exact cmpZ_self _)
   refine cK (tC (cB ?_));refine c_cut (ι := Nat × Nat × Value × Value) [7, 8] (.cons rfl (.cons rfl .nil)) (fun t E0 => (5, t.2.2.1) :: (6, t.2.2.2) :: E0) (fun t => St w [] I5 []) (fun t => t.1 % 2 = 1 ∧ t.2.1 % 2 = 1 ∧ Nat.gcd t.1 t.2.1 = Nat.gcd x y ∧ Ws I5 t.2.2.1 (natW t.1) ∧ Ws I5 t.2.2.2 (natW t.2.1) ∧ (natW t.1).length ≤ 35184372088400 ∧ (natW t.2.1).length ≤ 35184372088400 ∧ t.2.1 < t.1 ∧ t.1 + t.2.1 = a + b) ?_ ?_
   ·
    refine sR ?_;iterate 2 refine oV ?_
    refine oQ Tryz.call145 rfl (rCmp_any _ _ _ _ hua hub (by omega) (by omega)) ?_;refine oV ?_;refine nT ?_;refine cC rfl (fun h4 => ?_) (fun h4 => ?_)
    ·
     have f4 := h4;try simp only [bl] at f4
     rw [val_natW, val_natW] at f4
     have hlt : a < b := by unfold cmpZ at f4; split at f4 <;> (try split at f4) <;> omega
     refine sR ?_;iterate 2 refine oV ?_
     refine nS ?_;iterate 2 refine oV ?_
     refine nR ?_;iterate 2 refine oV ?_
     refine oN ?_
     first | exact meet (b, a, ub, ua) (sC rfl (sC rfl (sC rfl (sC rfl sN)))) (fun _ h => h) ⟨hbo, hao, by rw [Nat.gcd_comm]; exact hg, hub, hua, hlb, hla, hlt, by show b + a = a + b; omega⟩ | exact meet (a, b, ua, ub) (sC rfl (sC rfl (sC rfl (sC rfl sN)))) (fun _ h => h) ⟨hao, hbo, hg, hua, hub, hla, hlb, by show b < a; omega, rfl⟩
    have f4 := h4;try simp only [bl] at f4
    rw [val_natW, val_natW] at f4
    have hlt : ¬ a < b := fun h => by rw [cmpZ_lt (by omega)] at f4; omega
    refine cK ?_
    first | exact meet (b, a, ub, ua) (sC rfl (sC rfl (sC rfl (sC rfl sN)))) (fun _ h => h) ⟨hbo, hao, by rw [Nat.gcd_comm]; exact hg, hub, hua, hlb, hla, hlt, by show b + a = a + b; omega⟩ | exact meet (a, b, ua, ub) (sC rfl (sC rfl (sC rfl (sC rfl sN)))) (fun _ h => h) ⟨hao, hbo, hg, hua, hub, hla, hlb, by show b < a; omega, rfl⟩
   rintro ⟨c, d, uc, ud⟩ ⟨hco, hdo, hg2, huc, hud, hlc, hld, hdc, hsum⟩
   try dsimp only
   refine cS ?_
   simp only at hco hdo hg2 huc hud hlc hld hdc hsum
   refine cR ?_;iterate 2 refine oV ?_
   refine oI Tryz.call146 rfl (rSub_any _ _ _ _ huc hud (by omega) (by omega) (by rw [val_natW, val_natW]; omega)) ?_;rintro _ I6 hx6 ⟨u6, rfl, hs6⟩;iterate 4 refine oV ?_
   refine nT ?_
   rw [val_natW, val_natW] at hs6
   have hl6 : (natW (c - d)).length ≤ 35184372088400 := Nat.le_trans (natW_le_len (Nat.sub_le _ _)) hlc
   refine cR ?_;refine oV ?_;refine oI Tryz.call144 rfl (rOdd_any _ _ hs6 (by omega) (by omega)) ?_;rintro _ I7 hx7 ⟨u7, z, p, rfl, hs7, ho7⟩;iterate 4 refine oV ?_
   refine oN (blk_n ?_);exact again (z, d, u7, ud, I7) (sC rfl (sC rfl (sC rfl (sC rfl sN)))) (fun _ h => h) (by show z + d < a + b; have := ho7.le; omega) ⟨ho7.odd, hdo, by show Nat.gcd z d = _; rw [gcd_less hdo (by omega) ho7.eq]; exact hg2, hs7, hud.le (hx6.le.trans hx7.le), Nat.le_trans (natW_le_len ho7.le) hl6, hld, hx5.trans (hx6.trans hx7 (Nat.le_refl _)) (Nat.le_refl _)⟩
  have f3 := h3;try simp only [bl] at f3
  rw [val_natW, val_natW] at f3
  have hab : a = b := by have := cmpZ_zero f3; omega
  refine c_exit (then_x (then_x (blk_eq rfl (tC (sR ?_)))));iterate 3 refine oV ?_
  refine o_min2 trivial rfl rfl rfl ?_
  rw [show min (n : Int) (k : Int) = ((min n k : Nat) : Int) by omega]
  refine o_callI trivial rfl Tryz.call147 rfl (rShiftB_any _ _ (min n k) hua hla (by omega) (by
  rw [val_natW]
  refine Nat.le_trans (natW_le_len ?_) hal
  have h1 : a ≤ x := by rw [← Nat.gcd_self a, show Nat.gcd a a = Nat.gcd a b by rw [← hab], hg]; exact Nat.gcd_le_left _ ho3.pos
  have h2 : 2 ^ min (min n k) 100000 ≤ 2 ^ n := Nat.pow_le_pow_right (by decide) (by omega)
  rw [ho3.eq, Nat.mul_comm (2 ^ n)]
  exact Nat.mul_le_mul h1 h2)) ?_
  rintro u8 I8 hx8 hs8;refine oV ?_;refine nE ?_;refine ret1 rfl rfl ?_
  rw [val_natW] at hs8
  refine leaf (hx5.trans hx8 (Nat.le_refl _)) (List.nil_sublist _) ⟨_, hs8, ?_, fun _ => Nat.mul_pos (by omega) (Nat.pow_pos (by decide))⟩;refine Nat.le_trans (natW_le_len ?_) hal
  have h1 : a ≤ x := by rw [← Nat.gcd_self a, show Nat.gcd a a = Nat.gcd a b by rw [← hab], hg]; exact Nat.gcd_le_left _ ho3.pos
  have h2 : 2 ^ min (min n k) 100000 ≤ 2 ^ n := Nat.pow_le_pow_right (by decide) (by omega)
  rw [ho3.eq, Nat.mul_comm (2 ^ n)]
  exact Nat.mul_le_mul h1 h2
theorem rLowestB_any (va vb : Value) (A B : List Nat) {I : Hp} (ha : Ws I va A) (hb : Ws I vb B) (hs : A.length ≤ 35184372088400) (hs2 : B.length ≤ 35184372088400) : Fun Tryz.prog 93 [va, vb] I [] (fun v I' _ => ∃ u1 u2 b N D, v = .tuple #[u1, u2, .bool b] ∧ Ws I' u1 N ∧ Ws I' u2 D) := by
  have hbl : (natW (val B)).length ≤ 35184372088400 := Nat.le_trans (natW_len_list hb.wds) hs2
  intro w hw
  refine enter2 _ Tryz.func93 rfl Tryz.ntmps93 rfl ?_ hw;refine sR ?_;iterate 3 refine oV ?_
  refine nS ?_;refine oV ?_;refine oI Tryz.call116 rfl (rTrim_any _ _ hb (by omega)) ?_;rintro u1 I1 hx1 hs1;refine oV ?_;refine nU ?_;refine oV ?_;refine o_lenW trivial rfl Tryz.underlying40 rfl (hs1) ?_;refine oV ?_;refine nT ?_;refine cC rfl (fun h1 => ?_) (fun h1 => ?_)
  ·
   have f1 := h1;try simp only [bl] at f1
   refine sR ?_;iterate 3 refine oV ?_
   refine nF ?_;refine ret3 rfl rfl rfl rfl ?_;exact leaf hx1 (List.nil_sublist _) ⟨.slice none 0 0, .slice none 0 0, false, [], [], rfl, Ws.nil _, Ws.nil _⟩
  have f1 := h1;try simp only [bl] at f1
  have h0 : 0 < val B := Nat.pos_of_ne_zero fun e => f1 (by rw [e, natW_zero]; rfl)
  refine kS ?_;iterate 2 refine oV ?_
  refine oI Tryz.call123 rfl (rGcdB_any _ _ _ _ (ha.le hx1.le) hs1 hs (by omega)) ?_;rintro u2 I2 hx2 ⟨g, hs2', hgl, hg0⟩;refine oV ?_;refine oN (tC (cS ?_))
  have hg : 0 < g := hg0 (by rw [val_natW]; omega)
  refine cR ?_;iterate 2 refine oV ?_
  refine oI Tryz.call124 rfl (rDiv_any _ _ _ _ (ha.le (hx1.le.trans hx2.le)) hs2' (by omega) (by omega) (by rw [val_natW]; exact hg)) ?_;rintro _ I3 hx3 ⟨u3, u4, rfl, hq3, hr3⟩;iterate 7 refine oV ?_
  refine nS ?_;iterate 2 refine oV ?_
  refine oI Tryz.call124 rfl (rDiv_any _ _ _ _ (hs1.le (hx2.le.trans hx3.le)) (hs2'.le hx3.le) (by omega) (by omega) (by rw [val_natW]; exact hg)) ?_;rintro _ I4 hx4 ⟨u5, u6, rfl, hq5, hr5⟩;iterate 5 refine oV ?_
  refine nS ?_;iterate 5 refine oV ?_
  refine nE ?_;refine ret3 rfl rfl rfl rfl ?_;exact leaf (hx1.trans (hx2.trans (hx3.trans hx4 (Nat.le_refl _)) (Nat.le_refl _)) (Nat.le_refl _)) (List.nil_sublist _) ⟨u3, u5, true, _, _, rfl, hq3.le hx4.le, hq5⟩
def RatB (I : Hp) (v : Value) : Prop := ∃ s u1 u2 N D, v = .agg #[.bool s, u1, u2] ∧ Ws I u1 N ∧ Ws I u2 D
theorem rlowB_any (neg : Bool) (va vb : Value) (A B : List Nat) {I : Hp} (ha : Ws I va A) (hb : Ws I vb B) (hs : A.length ≤ 35184372088400) (hs2 : B.length ≤ 35184372088400) : Fun Tryz.prog 61 [.agg #[.bool neg, va], vb] I [] (fun v I' _ => RatB I' v) := by
  intro w hw
  refine enter2 _ Tryz.func61 rfl Tryz.ntmps61 rfl ?_ hw;refine sR ?_;refine o_box trivial rfl rfl rfl (fun b2 => ?_);refine o_alloc trivial rfl Tryz.zeroValue42 rfl (fun b4 => ?_);refine nS ?_;refine oF 1 Tryz.underlying99 Tryz.sizeOf40 ?_;refine oL Tryz.isAgg40 ?_;refine oV ?_;refine oI Tryz.call93 rfl (rLowestB_any _ _ _ _ ha hb hs hs2) ?_;rintro _ I1 hx1 ⟨u1, u2, b, N, D, rfl, hu1, hu2⟩;iterate 7 refine oV ?_
  refine nU ?_;iterate 2 refine oV ?_
  refine' o_or trivial trivial rfl rfl rfl rfl rfl rfl rfl rfl (fun hb18 => ?_) ?_;rotate_left
  ·
   have fb18 := hb18
   try simp only [bl] at fb18
   refine gV hb18 ?_;refine o_lenW (wS rfl rfl hb18) rfl Tryz.underlying40 rfl (hu1) ?_;refine gV hb18 ?_;refine oN ?_;exact joins rfl
  refine nT ?_;refine cC rfl (fun h1 => ?_) (fun h1 => ?_)
  ·
   have f1 := h1;try simp only [bl] at f1
   refine sR ?_;refine oB Tryz.underlying40 Tryz.sizeOf101 Tryz.zeroValue101 fun b23 => ?_;refine l_sealW [1] .here (Wds_cons (by decide) Wds_nil) (by unfold maxLen; simp) (fun I2 hx2 hs2' => ?_);refine o_buildS trivial rfl (bld42) rfl (.cons rfl (by first | exact (Ws.cells1 (by assumption)).1 | exact (Slc.cells1 (by assumption)).1 | rfl) (by rfl) (by repeat constructor) .nil) ?_;refine oS Tryz.sizeOf42 ?_;refine nF ?_;refine retR rfl (.agg Tryz.isAgg42 Tryz.sizeOf42 rfl (by repeat constructor) rfl .nil) ?_;exact leaf (hx1.trans hx2 (Nat.le_refl _)) (List.nil_sublist _) ⟨false, _, _, [], [1], rfl, Ws.nil _, hs2'⟩
  have f1 := h1;try simp only [bl] at f1
  refine kS ?_;refine oF 0 Tryz.underlying99 Tryz.sizeOf4 ?_;refine oL Tryz.isAgg4 ?_;iterate 2 refine oV ?_
  refine o_buildS trivial rfl (bld42) rfl (.cons rfl rfl rfl (by repeat constructor) (.cons rfl (by first | exact (Ws.cells1 (by assumption)).1 | exact (Slc.cells1 (by assumption)).1 | rfl) (by rfl) (by repeat constructor) (.cons rfl (by first | exact (Ws.cells1 (by assumption)).1 | exact (Slc.cells1 (by assumption)).1 | rfl) (by rfl) (by repeat constructor) .nil))) ?_;refine oS Tryz.sizeOf42 ?_;refine nE ?_;refine retR rfl (.agg Tryz.isAgg42 Tryz.sizeOf42 rfl (by repeat constructor) rfl .nil) ?_;exact leaf hx1 (List.nil_sublist _) ⟨neg, u1, u2, N, D, rfl, hu1, hu2⟩
theorem rFixB_any (neg : Bool) (va vb : Value) (A B : List Nat) {I : Hp} (ha : Ws I va A) (hb : Ws I vb B) (hs : A.length ≤ 35184372088400) (hs2 : B.length ≤ 35184372088400) : Fun Tryz.prog 115 [.agg #[.bool neg, va, vb]] I [] (fun v I' _ => RatB I' v) := by
  intro w hw
  refine enter1 _ Tryz.func115 rfl Tryz.ntmps115 rfl ?_ hw;refine sR ?_;refine o_box trivial rfl rfl rfl (fun b1 => ?_);refine o_alloc trivial rfl Tryz.zeroValue42 rfl (fun b2 => ?_);refine nS ?_;refine oF 0 Tryz.underlying42 Tryz.sizeOf4 ?_;refine oL Tryz.isAgg4 ?_;refine oF 1 Tryz.underlying42 Tryz.sizeOf40 ?_;refine oL Tryz.isAgg40 ?_;refine o_buildS trivial rfl (bld99) rfl (.cons rfl rfl rfl (by repeat constructor) (.cons rfl (by first | exact (Ws.cells1 (by assumption)).1 | exact (Slc.cells1 (by assumption)).1 | rfl) (by rfl) (by repeat constructor) .nil)) ?_;refine oF 2 Tryz.underlying42 Tryz.sizeOf40 ?_;refine oL Tryz.isAgg40 ?_;refine oI Tryz.call61 rfl (rlowB_any neg _ _ _ _ ha hb hs hs2) ?_;rintro _ I1 hx1 ⟨s, u1, u2, N, D, rfl, h1, h2⟩;refine oS Tryz.sizeOf42 ?_;refine nE ?_;refine retR rfl (.agg Tryz.isAgg42 Tryz.sizeOf42 rfl (by repeat constructor) rfl .nil) ?_;exact leaf hx1 (List.nil_sublist _) ⟨s, u1, u2, N, D, rfl, h1, h2⟩
theorem rRightB_any (neg : Bool) (va vb : Value) (A B : List Nat) {I : Hp} (ha : Ws I va A) (hb : Ws I vb B) (hs : A.length ≤ 35184372088400) (hs2 : B.length ≤ 35184372088400) : Fun Tryz.prog 81 [.agg #[.bool neg, va, vb]] I [] (fun v _ _ => ∃ b, v = .bool b) := by
  intro w hw
  refine enter1 _ Tryz.func81 rfl Tryz.ntmps81 rfl ?_ hw;refine sR ?_;refine o_box trivial rfl rfl rfl (fun b1 => ?_);refine oV ?_;refine oN (tC (cS ?_));refine h_beginB (m := 5) [.box b1 _] (by repeat constructor) (by kernel_rfl) rfl ?_;refine qT (i := 0) (qB 5 1) (Hp.Le.refl _) rfl rfl (oA Tryz.isAgg42 Tryz.sizeOf42 qF) ?_;refine qT (i := 2) (qB 5 5) (Hp.Le.refl _) rfl rfl (oA Tryz.isAgg42 Tryz.sizeOf42 qF) ?_;refine qO (i := 1) (qB 5 7) rfl ?_;refine oI Tryz.call115 rfl (rFixB_any neg _ _ _ _ ha hb hs hs2) ?_;rintro _ I1 hx1 ⟨s, u1, u2, N, D, rfl, h1, h2⟩;refine qM (hx1.le) ?_;refine qO (i := 3) (qB 5 15) rfl ?_;refine oQ Tryz.call80 rfl (rEqual_any s neg _ _ _ _ N D A B h1 h2 (ha.le hx1.le) (hb.le hx1.le)) ?_;refine qM (hx1.le) ?_;refine qT (i := 4) (qB 5 31) (hx1.le) rfl rfl (oV qF) ?_;refine h_end (by kernel_rfl) ?_;refine tC (cT ?_);refine ret1 rfl rfl ?_;exact leaf hx1 (List.nil_sublist _) ⟨_, rfl⟩
theorem begZ_rng {l : List NodeC} {fr : Int} : ∀ (f : Nat) (i : Int), fr - 1 ≤ begZ l fr f i ∧ begZ l fr f i ≤ max i (fr - 1) := by
  intro f
  induction f with
  | zero => intro i; simp only [begZ]; omega
  | succ f ih =>
    intro i
    unfold begZ
    split
    · omega
    · split
      · omega
      · rename_i n _
        split
        · omega
        · split
          · split
            · omega
            · have := ih n.a; omega
          · split
            · omega
            · split
              · omega
              · have := ih n.a; have := ih n.b; omega
theorem begZ_step {l : List NodeC} {fr i : Int} {f : Nat} {c : NodeC} (hi : ¬ i < fr) (hc : l[i.toNat]? = some c) : begZ l fr (f + 1) i = if c.kind = 0 ∨ c.kind = 1 then i else if c.kind = 6 ∨ c.kind = 7 then (if c.a ≠ i - 1 then fr - 1 else begZ l fr f c.a) else if c.b ≠ i - 1 then fr - 1 else if begZ l fr f c.b < fr ∨ c.a ≠ begZ l fr f c.b - 1 then fr - 1 else begZ l fr f c.a := by
  conv => lhs; unfold begZ
  rw [if_neg hi, hc]
theorem begZ_low {l : List NodeC} {fr i : Int} (f : Nat) (h : i < fr) : begZ l fr f i = fr - 1 := by
  cases f with
  | zero => rfl
  | succ f => unfold begZ; rw [if_pos h]
theorem nd_parts : ∀ (x : Ex) (b : Nat), x.ok → ∀ c ∈ x.nd b, (partsZ c).isSome = true := by
  intro x
  induction x with
  | ref t => intro b h c hc; rw [List.mem_singleton.1 hc, parts_ref h]; rfl
  | num q => intro b h c hc; rw [List.mem_singleton.1 hc, parts_num h]; rfl
  | neg x ih =>
    intro b h c hc
    rcases List.mem_append.1 hc with hc | hc
    · exact ih b h c hc
    · rw [List.mem_singleton.1 hc, parts_neg]; rfl
  | pow x e ih =>
    intro b h c hc
    rcases List.mem_append.1 hc with hc | hc
    · exact ih b h.1 c hc
    · rw [List.mem_singleton.1 hc, parts_pow h.2]; rfl
  | bin k x y ih1 ih2 =>
    intro b h c hc
    obtain ⟨h1, h2, h3, h4⟩ := h
    rcases List.mem_append.1 hc with hc | hc
    · rcases List.mem_append.1 hc with hc | hc
      · exact ih1 b h3 c hc
      · exact ih2 _ h4 c hc
    · rw [List.mem_singleton.1 hc, parts_bin ⟨h1, h2⟩]; rfl
theorem laid_parts : ∀ (l : List (ByteArray × Ex)) (b : Nat), LetsOk l → ∀ c ∈ (laid l b).2, (partsZ c).isSome = true
  | [], _, _, c, hc => by cases hc
  | (s, x) :: l, b, h, c, hc => by
    rcases List.mem_append.1 hc with hc | hc
    · exact nd_parts x b (h _ List.mem_cons_self).2 c hc
    · exact laid_parts l _ (fun a ha => h a (List.mem_cons_of_mem _ ha)) c hc
def bgGo (all : List NodeC) : List LetC → Int → Option Int
  | [], fr => some fr
  | l :: ls, fr => if nameZ l.name = true ∧ fr ≤ l.root ∧ l.root < all.length ∧ begZ all fr all.length l.root = fr then bgGo all ls (l.root + 1) else none
theorem bgGo_ex (all : List NodeC) : ∀ (l : List (ByteArray × Ex)) (b : Nat), LetsOk l → (∀ j c, (laid l b).2[j]? = some c → all[b + j]? = some c) → b + (laid l b).2.length ≤ all.length → bgGo all (laid l b).1 b = some ((b + (laid l b).2.length : Nat) : Int)
  | [], b, _, _, _ => by simp [bgGo, laid]
  | (s, x) :: l, b, h, hat, hle => by
    obtain ⟨h1, h2⟩ := h _ List.mem_cons_self
    have hn := x.n_pos
    have hln : (x.nd b ++ (laid l (b + x.n)).2).length = x.n + (laid l (b + x.n)).2.length := by rw [List.length_append, x.nd_len]
    change b + (x.nd b ++ (laid l (b + x.n)).2).length ≤ _ at hle
    have hA : At all b x := fun j c hj => hat j c (by
      show (x.nd b ++ (laid l (b + x.n)).2)[j]? = some c
      rw [List.getElem?_append_left (List.getElem?_eq_some_iff.1 hj).1]; exact hj)
    have hB := begZ_ex (fr := (b : Int)) (by omega) x b all.length h2 hA (Int.le_refl _) (by omega)
    show bgGo all (⟨s, (b : Int) + x.n - 1⟩ :: (laid l (b + x.n)).1) b = _
    unfold bgGo
    rw [if_pos ⟨h1, by dsimp only; omega, by dsimp only; omega, hB⟩]
    have e : ((b : Int) + x.n - 1 + 1) = ((b + x.n : Nat) : Int) := by omega
    dsimp only
    rw [e, bgGo_ex all l (b + x.n) (fun a ha => h a (List.mem_cons_of_mem _ ha)) (fun j c hj => by
      have := hat (x.n + j) c (by
        show (x.nd b ++ (laid l (b + x.n)).2)[x.n + j]? = some c
        rw [List.getElem?_append_right (by rw [x.nd_len]; omega), x.nd_len, Nat.add_sub_cancel_left]; exact hj)
      rw [Nat.add_assoc]; exact this) (by omega)]
    show some _ = some (((b + (x.nd b ++ (laid l (b + x.n)).2).length : Nat)) : Int)
    rw [hln]
    congr 2
    omega
theorem at_drop {all : List NodeC} {b : Nat} {x : Ex} (h : At all b x) (hb : b + x.n ≤ all.length) : all.drop b = x.nd b ++ all.drop (b + x.n) := by
  apply List.ext_getElem?
  intro j
  by_cases hj : j < x.n
  · rw [List.getElem?_append_left (by rw [x.nd_len]; exact hj), List.getElem?_drop]
    obtain ⟨c, hc⟩ : ∃ c, (x.nd b)[j]? = some c := ⟨_, List.getElem?_eq_getElem (by rw [x.nd_len]; exact hj)⟩
    rw [hc]
    exact h j c hc
  · rw [List.getElem?_append_right (by rw [x.nd_len]; omega), x.nd_len, List.getElem?_drop, List.getElem?_drop]
    congr 1
    omega
theorem bgGo_inv (all : List NodeC) (hok : ∀ c ∈ all, (partsZ c).isSome = true) : ∀ (ls : List LetC) (b : Nat), b ≤ all.length → bgGo all ls b = some (all.length : Int) → ∃ l : List (ByteArray × Ex), LetsOk l ∧ ls = (laid l b).1 ∧ all.drop b = (laid l b).2
  | [], b, hb, h => by
    unfold bgGo at h
    have : b = all.length := by have := Option.some.inj h; omega
    subst this
    exact ⟨[], fun a ha => (by cases ha), rfl, (by rw [List.drop_length]; rfl)⟩
  | l :: ls, b, hb, h => by
    unfold bgGo at h
    split at h
    · rename_i hc
      obtain ⟨c1, c2, c3, c4⟩ := hc
      obtain ⟨b', x, k1, k2, k3, k4⟩ := begZ_inv (fr := (b : Int)) (by omega) hok all.length l.root c3 (by rw [c4]; omega)
      have hbb : b' = b := by omega
      subst hbb
      have hxn := x.n_pos
      have e : l.root + 1 = ((b' + x.n : Nat) : Int) := by omega
      rw [e] at h
      obtain ⟨r, r1, r2, r3⟩ := bgGo_inv all hok ls (b' + x.n) (by omega) h
      refine ⟨(l.name, x) :: r, fun a ha => ?_, ?_, ?_⟩
      · rcases List.mem_cons.1 ha with rfl | ha
        · exact ⟨c1, k2⟩
        · exact r1 a ha
      · show l :: ls = ⟨l.name, (b' : Int) + x.n - 1⟩ :: (laid r (b' + x.n)).1
        rw [← r2]
        obtain ⟨ln, lr⟩ := l
        change (b' : Int) + x.n - 1 = lr at k4
        rw [k4]
      · rw [at_drop k3 (by omega), r3]; rfl
    · cases h
def rightZ (p : ProgC) : Bool := (namesOK p.ins && decide (1 ≤ p.ins.length) && decide (p.ins.length ≤ 40)) && (namesOK p.outs && decide (1 ≤ p.outs.length) && decide (p.outs.length ≤ 40)) && decide (p.lets.length ≤ 40) && decide (p.all.length ≤ 400) && p.all.all (fun c => (partsZ c).isSome) && (bgGo p.all p.lets 0 == some (p.all.length : Int)) && !longZ p
theorem right_shaped {p : ProgC} (h1 : p.all.all (fun c => (partsZ c).isSome) = true) (h2 : bgGo p.all p.lets 0 = some (p.all.length : Int)) : ∃ l, Shaped p l := by
  obtain ⟨l, k1, k2, k3⟩ := bgGo_inv p.all (fun c hc => List.all_eq_true.1 h1 c hc) p.lets 0 (Nat.zero_le _) h2
  exact ⟨l, k2, by rw [List.drop_zero] at k3; exact k3, k1⟩
theorem rightZ_eq (p : ProgC) : rightZ p = (tZ p).isSome := by
  rw [Bool.eq_iff_iff]
  constructor
  · intro h
    unfold rightZ at h
    simp only [Bool.and_eq_true, decide_eq_true_eq, beq_iff_eq] at h
    obtain ⟨⟨⟨⟨⟨⟨⟨⟨a1, a2⟩, a3⟩, ⟨b1, b2⟩, b3⟩, c1⟩, c2⟩, c3⟩, c4⟩, c5⟩ := h
    obtain ⟨l, hl⟩ := right_shaped c3 c4
    rw [long_right hl ⟨namesOK_iff.1 a1, a2⟩ ⟨namesOK_iff.1 b1, b2⟩]
    exact c5
  · intro h
    obtain ⟨l, hr⟩ := tZ_iff.1 h
    have hg := bgGo_ex p.all l 0 hr.ok (fun j c hj => by rw [hr.all, Nat.zero_add]; exact hj) (by rw [Nat.zero_add, ← hr.all]; exact Nat.le_refl _)
    have hlo := long_right hr.toShaped ⟨hr.ins.1, hr.ins.2.1⟩ ⟨hr.outs.1, hr.outs.2.1⟩
    rw [h] at hlo
    have hll : p.lets.length = l.length := by rw [hr.lets, laid_lets]
    unfold rightZ
    rw [← hlo, namesOK_iff.2 hr.ins.1, namesOK_iff.2 hr.outs.1]
    have hp : p.all.all (fun c => (partsZ c).isSome) = true := List.all_eq_true.2 fun c hc => laid_parts l 0 hr.ok c (by rw [← hr.all]; exact hc)
    rw [← hr.lets, ← hr.all] at hg
    have hg' : bgGo p.all p.lets 0 = some (p.all.length : Int) := by rw [show (0 : Int) = ((0 : Nat) : Int) from rfl, hg, Nat.zero_add]
    rw [hp, hg']
    have := hr.ins.2
    have := hr.outs.2
    have := hr.few
    simp
    omega
def fewP (p : ProgC) (most : Int) : Bool := decide ((p.all.length : Int) ≤ most ∧ p.ins.length ≤ 8 ∧ p.lets.length ≤ 8 ∧ p.outs.length ≤ 8) && p.all.all fun c => decide (c.n.length ≤ 6 ∧ c.d.length ≤ 6 ∧ c.name.size ≤ 60)
theorem PtV.lone {I : Hp} {b : Nat} {neg : Bool} {n d : List Nat} {vn vd : Value} {T : TypeId} {fz : Nat × Nat} (hb : I b = some (.cells ([.bool neg, vn, vd] ++ [] : List Value).toArray T fz)) (hn : Ws I vn n) (hd : Ws I vd d) : PtV I (.slice (some ⟨b, 0, none⟩) 1 1) [⟨neg, n, d, vn, vd⟩] :=
  ⟨Slc.of_box (xss := [[.bool neg, vn, vd]]) hb (fun c hc => by rw [List.mem_singleton.1 hc]; rfl) (by unfold maxLen; simp) (Nat.le_refl _), fun x hx => by rw [List.mem_singleton.1 hx]; exact ⟨hn, hd⟩⟩
theorem rrList_any (v : Value) (l : List ByteArray) (m : Int) {I : Hp} (h : Slc I 1 v (scs l)) : Fun Tryz.prog 48 [v, .int .i64 m] I [] (fun r _ _ => r = .bool (namesOK l && decide (m ≤ l.length) && decide (l.length ≤ 40))) := by
  have hl := scs_len l
  have hmx := h.most
  rw [hl] at hmx
  unfold maxLen at hmx
  intro w hw
  refine enter2 _ Tryz.func48 rfl Tryz.ntmps48 rfl ?_ hw;refine sR ?_;refine oV ?_;refine nU ?_;refine oV ?_;refine o_lenSlc trivial rfl Tryz.underlying23 rfl (h) ?_;iterate 2 refine oV ?_
  refine' o_or trivial trivial rfl rfl rfl rfl rfl rfl rfl rfl (fun hb11 => ?_) ?_;rotate_left
  ·
   have fb11 := hb11
   try simp only [bl] at fb11
   refine gV hb11 ?_;refine o_lenSlc (wS rfl rfl hb11) rfl Tryz.underlying23 rfl (h) ?_;refine gV hb11 ?_;refine oN ?_;exact joins rfl
  refine nT ?_;refine cC rfl (fun h1 => ?_) (fun h1 => ?_)
  ·
   have f1 := h1;try simp only [bl] at f1
   refine sR ?_;refine oV ?_;refine nF ?_;refine ret1 rfl rfl ?_;refine leaf0 (congrArg Value.bool ?_)
   simp at h1
   rw [Bool.eq_iff_iff]
   simp
   omega
  have f1 := h1;try simp only [bl] at f1
  have hno : m ≤ l.length ∧ l.length ≤ 40 := by simp at h1; omega
  refine cK (tC (cS (sR ?_)));refine oV ?_;refine oN (tC (cB ?_));refine c_loop (ι := Nat) [0] (.cons rfl .nil) (fun x => l.length - x) (fun x E0 => (5, .int .i64 (x : Int)) :: E0) (fun x => St w [] I []) (fun x => x ≤ l.length ∧ l.all nameZ = (l.drop x).all nameZ) (0) (sC rfl (sC rfl sN)) (fun _ h => h) (⟨Nat.zero_le _, rfl⟩) ?_;rintro i ⟨hi, hF⟩
  try dsimp only
  refine cS (sR ?_);iterate 2 refine oV ?_
  refine o_lenSlc trivial rfl Tryz.underlying23 rfl (h) ?_;refine oV ?_;refine nT ?_;refine cC rfl (fun h2 => ?_) (fun h2 => ?_)
  ·
   have f2 := h2;try simp only [bl] at f2
   obtain ⟨s, hs⟩ : ∃ s, l[i]? = some s := ⟨l[i]'(by omega), List.getElem?_eq_getElem (by omega)⟩
   refine cK (tC (cS (cB (sR ?_))));iterate 2 refine oV ?_
   refine o_elem trivial rfl Tryz.underlying23 Tryz.sizeOf9 rfl (h) rfl (by omega) ?_;refine o_load1I trivial rfl Tryz.isAgg9 rfl (scs_at h hs) ?_;refine oP trivial rfl Tryz.call50 rfl (refName_all _) ?_;refine oV ?_;refine nS ?_;iterate 2 refine oV ?_
   refine nT ?_;refine cC rfl (fun h3 => ?_) (fun h3 => ?_)
   ·
    have f3 := h3;try simp only [bl] at f3
    refine sR ?_;refine oV ?_;refine oN (tC (cT (blk_r (tR (tR (blk_r (tR ?_)))))));refine ret1 rfl rfl ?_;refine leaf0 (congrArg Value.bool ?_)
    unfold namesOK
    rw [hF, all_step hs, show nameZ s = false by simpa using h3]; rfl
   have f3 := h3;try simp only [bl] at f3
   refine cK (blk_n (tC (cR ?_)));refine oV ?_
   first | (refine o_add trivial rfl rfl rfl ?_ ?_; (omega)) | refine oV ?_
   refine oV ?_;refine oN ?_;exact again (i + 1) (sC rfl (sC rfl sN)) (fun _ h => h) (by show l.length - (i + 1) < l.length - i; omega) ⟨by show i + 1 ≤ l.length; omega, by rw [hF, all_step hs, show nameZ s = true by simpa using h3]; rfl⟩
  have f2 := h2;try simp only [bl] at f2
  have hin : i = l.length := by omega
  rw [hin, List.drop_length] at hF
  refine c_exit (then_x (then_x (blk_eq rfl (tC (sR ?_)))));refine oV ?_;refine nE ?_;refine ret1 rfl rfl ?_;refine leaf0 (congrArg Value.bool ?_)
  unfold namesOK
  rw [hF]
  simp
  omega
theorem isSome_if {b : Bool} {k : Nat} : (if b = true then some k else none).isSome = b := by cases b <;> rfl
theorem rRightC_any (neg : Bool) (va vb : Value) (A B : List Nat) {I : Hp} (ha : Ws I va A) (hb : Ws I vb B) (hs : A.length ≤ 35184372088400) (hs2 : B.length ≤ 35184372088400) : Fun Tryz.prog 81 [.agg #[.bool neg, va, vb]] I [] (fun v _ _ => ∃ b, v = .bool b ∧ (A.length ≤ 3000 → B.length ≤ 3000 → b = ratRight neg A B)) := by
  by_cases h : A.length ≤ 3000 ∧ B.length ≤ 3000
  · exact fun_mono (rRight_any neg _ _ _ _ ha hb h.1 h.2) fun v I' B' hv => ⟨_, hv, fun _ _ => rfl⟩
  · exact fun_mono (rRightB_any neg _ _ _ _ ha hb hs hs2) fun v I' B' ⟨b, hv⟩ => ⟨b, hv, fun h1 h2 => absurd ⟨h1, h2⟩ h⟩
theorem rrFieldsG_any (o : NodeV) {I : Hp} (ho : o.ok I) (hf : o.c.few 35184372088400) : Fun Tryz.prog 49 [.agg o.cells.toArray] I [] (fun v _ _ => ∃ b, v = .bool b ∧ (b = true → 0 ≤ o.c.kind ∧ o.c.kind ≤ 7) ∧ (o.c.few 3000 → b = (partsZ o.c).isSome)) := by
  have ha := ho.1
  have hb := ho.2
  have hb1 := ha.cells1
  have hb2 := hb.cells1
  obtain ⟨⟨kind, a, b, e, name, neg, n, d⟩, vn, vd⟩ := o
  change Ws I vn n at ha
  change Ws I vd d at hb
  have hq := rEqual_any neg false vn vd (.slice none 0 0) (.slice none 0 0) n d [] [] ha hb (Ws.nil I) (Ws.nil I)
  have hz : (decide (neg = false) && decide (n = []) && decide (d = [])) = emptyZ neg n d := by
    unfold emptyZ
    cases neg <;> cases n <;> cases d <;> simp
  rw [hz] at hq
  have hsa := decS_size (val n)
  have hsb := decS_size (val d)
  unfold NodeV.cells
  intro w hw
  refine enter1 _ Tryz.func49 rfl Tryz.ntmps49 rfl ?_ hw;refine sR ?_;refine o_box trivial rfl rfl rfl (fun b1 => ?_);refine oV ?_;refine nS ?_;refine oF 5 Tryz.underlying44 Tryz.sizeOf42 ?_;refine oA Tryz.isAgg42 Tryz.sizeOf42 ?_;refine o_buildS trivial rfl (bld42) rfl .nil ?_;refine oQ Tryz.call80 rfl hq ?_;refine oV ?_;refine oN (tC (cS (cB (sR ?_))));refine oF 0 Tryz.underlying44 Tryz.sizeOf3 ?_;refine oL Tryz.isAgg3 ?_;iterate 2 refine oV ?_
  refine nT ?_;refine cC rfl (fun h1 => ?_) (fun h1 => ?_)
  ·
   have f1 := h1;try simp only [bl] at f1
   refine sR ?_;refine oF 4 Tryz.underlying44 Tryz.sizeOf9 ?_;refine oL Tryz.isAgg9 ?_;refine oP trivial rfl Tryz.call50 rfl (refName_all _) ?_;refine oV ?_;refine nS ?_;refine oV ?_;refine' o_and trivial trivial rfl rfl rfl rfl rfl rfl rfl rfl (fun hb18 => ?_) ?_;rotate_left
   ·
    refine gV hb18 ?_;refine oN ?_;exact joins rfl
   refine' o_and trivial trivial rfl rfl rfl rfl rfl rfl rfl rfl (fun hb21 => ?_) ?_;rotate_left
   ·
    have fb21 := hb21
    try simp only [bl] at fb21
    refine gF hb21 1 Tryz.underlying44 Tryz.sizeOf3 ?_;refine gL hb21 Tryz.isAgg3 ?_;refine gV hb21 ?_;refine oN ?_;exact joins rfl
   refine' o_and trivial trivial rfl rfl rfl rfl rfl rfl rfl rfl (fun hb26 => ?_) ?_;rotate_left
   ·
    have fb26 := hb26
    try simp only [bl] at fb26
    refine gF hb26 2 Tryz.underlying44 Tryz.sizeOf3 ?_;refine gL hb26 Tryz.isAgg3 ?_;refine gV hb26 ?_;refine oN ?_;exact joins rfl
   refine' o_and trivial trivial rfl rfl rfl rfl rfl rfl rfl rfl (fun hb31 => ?_) ?_;rotate_left
   ·
    have fb31 := hb31
    try simp only [bl] at fb31
    refine gF hb31 3 Tryz.underlying44 Tryz.sizeOf3 ?_;refine gL hb31 Tryz.isAgg3 ?_;refine gV hb31 ?_;refine oN ?_;exact joins rfl
   refine oV ?_;refine oN (tC (cT (blk_r (tR ?_))));refine ret1 rfl rfl ?_;refine leaf0 ⟨_, rfl, fun _ => (show 0 ≤ kind ∧ kind ≤ 7 by omega), fun _ => ?_⟩; rw [parts_k0 (show kind = 0 by omega), isSome_if]; done
  have f1 := h1;try simp only [bl] at f1
  refine sR ?_;refine oF 0 Tryz.underlying44 Tryz.sizeOf3 ?_;refine oL Tryz.isAgg3 ?_;iterate 2 refine oV ?_
  refine nT ?_;refine cC rfl (fun h2 => ?_) (fun h2 => ?_)
  ·
   have f2 := h2;try simp only [bl] at f2
   refine sR ?_;refine oF 5 Tryz.underlying44 Tryz.sizeOf42 ?_;refine oA Tryz.isAgg42 Tryz.sizeOf42 ?_;refine o_call0 trivial rfl Tryz.call81 rfl (rRightC_any neg _ _ _ _ ha hb hf.1 hf.2) ?_;rintro _ ⟨rb, rfl, hrb⟩;refine oV ?_;refine nU ?_;iterate 2 refine oV ?_
   refine' o_or trivial trivial rfl rfl rfl rfl rfl rfl rfl rfl (fun hb45 => ?_) ?_;rotate_left
   ·
    have fb45 := hb45
    try simp only [bl] at fb45
    refine gF hb45 5 Tryz.underlying44 Tryz.sizeOf42 ?_;refine gF hb45 0 Tryz.underlying42 Tryz.sizeOf4 ?_;refine gL hb45 Tryz.isAgg4 ?_;refine oN ?_;exact joins rfl
   refine' o_or trivial trivial rfl rfl rfl rfl rfl rfl rfl rfl (fun hb50 => ?_) ?_;rotate_left
   ·
    have fb50 := hb50
    try simp only [bl] at fb50
    refine gF hb50 4 Tryz.underlying44 Tryz.sizeOf9 ?_;refine gL hb50 Tryz.isAgg9 ?_;refine gV hb50 ?_;refine oN ?_;exact joins rfl
   refine' o_or trivial trivial rfl rfl rfl rfl rfl rfl rfl rfl (fun hb55 => ?_) ?_;rotate_left
   ·
    have fb55 := hb55
    try simp only [bl] at fb55
    refine gF hb55 1 Tryz.underlying44 Tryz.sizeOf3 ?_;refine gL hb55 Tryz.isAgg3 ?_;refine gV hb55 ?_;refine oN ?_;exact joins rfl
   refine' o_or trivial trivial rfl rfl rfl rfl rfl rfl rfl rfl (fun hb60 => ?_) ?_;rotate_left
   ·
    have fb60 := hb60
    try simp only [bl] at fb60
    refine gF hb60 2 Tryz.underlying44 Tryz.sizeOf3 ?_;refine gL hb60 Tryz.isAgg3 ?_;refine gV hb60 ?_;refine oN ?_;exact joins rfl
   refine' o_or trivial trivial rfl rfl rfl rfl rfl rfl rfl rfl (fun hb65 => ?_) ?_;rotate_left
   ·
    have fb65 := hb65
    try simp only [bl] at fb65
    refine gF hb65 3 Tryz.underlying44 Tryz.sizeOf3 ?_;refine gL hb65 Tryz.isAgg3 ?_;refine gV hb65 ?_;refine oN ?_;exact joins rfl
   refine nT ?_;refine cC rfl (fun h3 => ?_) (fun h3 => ?_)
   ·
    have f3 := h3;try simp only [bl] at f3
    refine sR ?_;refine oV ?_;refine oN (tC (cT (tR (blk_r (tR ?_)))));refine ret1 rfl rfl ?_;refine leaf0 ⟨_, rfl, fun _ => (show 0 ≤ kind ∧ kind ≤ 7 by omega), fun hw => ?_⟩
    obtain rfl := hrb hw.1 hw.2
    rw [parts_k1 (show kind = 1 by omega), isSome_if, ← nil_beq]; unfold constOK; dsimp only; symm; rw [Bool.eq_false_iff]; intro hh; simp only [Bool.and_eq_true, decide_eq_true_eq, beq_iff_eq, Bool.not_eq_true'] at hh; obtain ⟨⟨⟨⟨g1, ⟨⟨g2, g3⟩, g4⟩, g5⟩, g6⟩, g7⟩, g8⟩ := hh; rcases f3 with ((((f3 | f3) | f3) | f3) | f3) | f3 <;> simp_all <;> done
   have f3 := h3;try simp only [bl] at f3
   refine kS ?_;refine oF 5 Tryz.underlying44 Tryz.sizeOf42 ?_;refine oF 1 Tryz.underlying42 Tryz.sizeOf40 ?_;refine oL Tryz.isAgg40 ?_;refine oQ Tryz.call82 rfl (rPrint_any _ _ ha hf.1) ?_;refine o_lenS trivial rfl Tryz.underlying9 rfl ?_;refine oV ?_;refine' o_and trivial trivial rfl rfl rfl rfl rfl rfl rfl rfl (fun hb76 => ?_) ?_;rotate_left
   ·
    have fb76 := hb76
    try simp only [bl] at fb76
    refine gF hb76 5 Tryz.underlying44 Tryz.sizeOf42 ?_;refine gF hb76 2 Tryz.underlying42 Tryz.sizeOf40 ?_;refine gL hb76 Tryz.isAgg40 ?_;refine o_callQ (wS rfl rfl hb76) rfl Tryz.call82 rfl (rPrint_any _ _ hb hf.2) ?_;refine o_lenS (wS rfl rfl hb76) rfl Tryz.underlying9 rfl ?_;refine gV hb76 ?_;refine oN ?_;exact joins rfl
   refine oV ?_;refine oN (tC (cT (blk_r (tR ?_))));refine ret1 rfl rfl ?_;refine leaf0 ⟨_, rfl, fun _ => (show 0 ≤ kind ∧ kind ≤ 7 by omega), fun hw => ?_⟩
   obtain rfl := hrb hw.1 hw.2
   have hda := digs_words ha.wds hw.1
   have hdb := digs_words hb.wds hw.2
   rw [parts_k1 (show kind = 1 by omega), isSome_if, ← nil_beq]; unfold constOK; dsimp only; obtain ⟨⟨⟨⟨⟨g1, g2⟩, g3⟩, g4⟩, g5⟩, g6⟩ := f3; rw [g1, g2, g3, g4, g5, g6, hsa, hsb, Bool.eq_iff_iff]; simp; omega
  have f2 := h2;try simp only [bl] at f2
  refine sR ?_;refine oF 0 Tryz.underlying44 Tryz.sizeOf3 ?_;refine oL Tryz.isAgg3 ?_;refine oV ?_;refine' o_and trivial trivial rfl rfl rfl rfl rfl rfl rfl rfl (fun hb88 => ?_) ?_;rotate_left
  ·
   have fb88 := hb88
   try simp only [bl] at fb88
   refine gF hb88 0 Tryz.underlying44 Tryz.sizeOf3 ?_;refine gL hb88 Tryz.isAgg3 ?_;refine gV hb88 ?_;refine oN ?_;exact joins rfl
  refine oV ?_;refine nT ?_;refine cC rfl (fun h4 => ?_) (fun h4 => ?_)
  ·
   have f4 := h4;try simp only [bl] at f4
   refine sR ?_;refine oF 4 Tryz.underlying44 Tryz.sizeOf9 ?_;refine oL Tryz.isAgg9 ?_;refine oV ?_;refine' o_and trivial trivial rfl rfl rfl rfl rfl rfl rfl rfl (fun hb96 => ?_) ?_;rotate_left
   ·
    refine gV hb96 ?_;refine oN ?_;exact joins rfl
   refine' o_and trivial trivial rfl rfl rfl rfl rfl rfl rfl rfl (fun hb99 => ?_) ?_;rotate_left
   ·
    have fb99 := hb99
    try simp only [bl] at fb99
    refine gF hb99 3 Tryz.underlying44 Tryz.sizeOf3 ?_;refine gL hb99 Tryz.isAgg3 ?_;refine gV hb99 ?_;refine oN ?_;exact joins rfl
   refine oV ?_;refine oN (tC (cT (blk_r (tR ?_))));refine ret1 rfl rfl ?_;refine leaf0 ⟨_, rfl, fun _ => (show 0 ≤ kind ∧ kind ≤ 7 by omega), fun _ => ?_⟩; rw [parts_k2 (show 2 ≤ kind ∧ kind ≤ 5 by omega), isSome_if, nil_beq]; done
  have f4 := h4;try simp only [bl] at f4
  refine sR ?_;refine oF 0 Tryz.underlying44 Tryz.sizeOf3 ?_;refine oL Tryz.isAgg3 ?_;iterate 2 refine oV ?_
  refine nT ?_;refine cC rfl (fun h5 => ?_) (fun h5 => ?_)
  ·
   have f5 := h5;try simp only [bl] at f5
   refine sR ?_;refine oF 4 Tryz.underlying44 Tryz.sizeOf9 ?_;refine oL Tryz.isAgg9 ?_;refine oV ?_;refine' o_and trivial trivial rfl rfl rfl rfl rfl rfl rfl rfl (fun hb111 => ?_) ?_;rotate_left
   ·
    refine gV hb111 ?_;refine oN ?_;exact joins rfl
   refine' o_and trivial trivial rfl rfl rfl rfl rfl rfl rfl rfl (fun hb114 => ?_) ?_;rotate_left
   ·
    have fb114 := hb114
    try simp only [bl] at fb114
    refine gF hb114 2 Tryz.underlying44 Tryz.sizeOf3 ?_;refine gL hb114 Tryz.isAgg3 ?_;refine gV hb114 ?_;refine oN ?_;exact joins rfl
   refine' o_and trivial trivial rfl rfl rfl rfl rfl rfl rfl rfl (fun hb119 => ?_) ?_;rotate_left
   ·
    have fb119 := hb119
    try simp only [bl] at fb119
    refine gF hb119 3 Tryz.underlying44 Tryz.sizeOf3 ?_;refine gL hb119 Tryz.isAgg3 ?_;refine gV hb119 ?_;refine oN ?_;exact joins rfl
   refine oV ?_;refine oN (tC (cT (blk_r (tR ?_))));refine ret1 rfl rfl ?_;refine leaf0 ⟨_, rfl, fun _ => (show 0 ≤ kind ∧ kind ≤ 7 by omega), fun _ => ?_⟩; rw [parts_k6 (show kind = 6 by omega), isSome_if, nil_beq]; done
  have f5 := h5;try simp only [bl] at f5
  refine sR ?_;refine oF 0 Tryz.underlying44 Tryz.sizeOf3 ?_;refine oL Tryz.isAgg3 ?_;iterate 2 refine oV ?_
  refine nT ?_;refine cC rfl (fun h6 => ?_) (fun h6 => ?_)
  ·
   have f6 := h6;try simp only [bl] at f6
   refine sR ?_;refine oF 4 Tryz.underlying44 Tryz.sizeOf9 ?_;refine oL Tryz.isAgg9 ?_;refine oV ?_;refine' o_and trivial trivial rfl rfl rfl rfl rfl rfl rfl rfl (fun hb131 => ?_) ?_;rotate_left
   ·
    refine gV hb131 ?_;refine oN ?_;exact joins rfl
   refine' o_and trivial trivial rfl rfl rfl rfl rfl rfl rfl rfl (fun hb134 => ?_) ?_;rotate_left
   ·
    have fb134 := hb134
    try simp only [bl] at fb134
    refine gF hb134 2 Tryz.underlying44 Tryz.sizeOf3 ?_;refine gL hb134 Tryz.isAgg3 ?_;refine gV hb134 ?_;refine oN ?_;exact joins rfl
   refine' o_and trivial trivial rfl rfl rfl rfl rfl rfl rfl rfl (fun hb139 => ?_) ?_;rotate_left
   ·
    have fb139 := hb139
    try simp only [bl] at fb139
    refine gF hb139 3 Tryz.underlying44 Tryz.sizeOf3 ?_;refine gL hb139 Tryz.isAgg3 ?_;refine gV hb139 ?_;refine oN ?_;exact joins rfl
   refine' o_and trivial trivial rfl rfl rfl rfl rfl rfl rfl rfl (fun hb144 => ?_) ?_;rotate_left
   ·
    have fb144 := hb144
    try simp only [bl] at fb144
    refine gF hb144 3 Tryz.underlying44 Tryz.sizeOf3 ?_;refine gL hb144 Tryz.isAgg3 ?_;refine gV hb144 ?_;refine oN ?_;exact joins rfl
   refine oV ?_;refine oN (tC (cT (blk_r (tR ?_))));refine ret1 rfl rfl ?_;refine leaf0 ⟨_, rfl, fun _ => (show 0 ≤ kind ∧ kind ≤ 7 by omega), fun _ => ?_⟩; rw [parts_k7 (show kind = 7 by omega), isSome_if, nil_beq]; done
  have f6 := h6;try simp only [bl] at f6
  refine cK (blk_n (tC (sR ?_)));refine oV ?_;refine nE ?_;refine ret1 rfl rfl ?_;refine leaf0 ⟨_, rfl, fun h => (by cases h), fun _ => ?_⟩; rw [parts_kn (show kind < 0 ∨ 7 < kind by omega)]; rfl
theorem rrBegin_any (va : Value) (ns : List NodeV) (fr : Int) {I : Hp} (hsa : Slc I 8 va (nds ns)) (hok : ∀ o ∈ ns, o.ok I) (hkn : ∀ c ∈ ns.map NodeV.c, 0 ≤ c.kind ∧ c.kind ≤ 7) (hfr : 0 ≤ fr ∧ fr ≤ 1000000) (hn : ns.length ≤ 100000) : ∀ (f : Nat) (i : Int), i < ns.length → i < fr + f → -1 ≤ i → Fun Tryz.prog 51 [va, .int .i64 fr, .int .i64 i] I [] (fun v _ _ => v = .int .i64 (begZ (ns.map NodeV.c) fr f i)) := by
  intro f
  have hln := nds_len ns
  induction f with
  | zero =>
    intro i hi hf h1
    have hz := begZ_low (l := ns.map NodeV.c) 0 (show i < fr by omega)
    intro w hw
    refine enter3 _ Tryz.func51 rfl Tryz.ntmps51 rfl ?_ hw;refine sR ?_;refine oV ?_;refine nU ?_;iterate 3 refine oV ?_
    refine nT ?_;refine cC rfl (fun h1 => ?_) (fun h1 => ?_)
    ·
     have f1 := h1;try simp only [bl] at f1
     refine sR ?_;refine oV ?_
     first | (refine o_sub trivial rfl rfl rfl ?_ ?_; (omega)) | refine oV ?_
     refine oV ?_;refine nF ?_;refine ret1 rfl rfl ?_;refine leaf0 (congrArg (Value.int .i64) hz.symm)
    have f1 := h1;try simp only [bl] at f1
    exfalso; omega
  | succ f ih =>
    intro i hi hf h1
    by_cases hlow : i < fr
    · have hz := begZ_low (l := ns.map NodeV.c) (f + 1) hlow
      intro w hw
      refine enter3 _ Tryz.func51 rfl Tryz.ntmps51 rfl ?_ hw;refine sR ?_;refine oV ?_;refine nU ?_;iterate 3 refine oV ?_
      refine nT ?_;refine cC rfl (fun h1 => ?_) (fun h1 => ?_)
      ·
       have f1 := h1;try simp only [bl] at f1
       refine sR ?_;refine oV ?_
       first | (refine o_sub trivial rfl rfl rfl ?_ ?_; (omega)) | refine oV ?_
       refine oV ?_;refine nF ?_;refine ret1 rfl rfl ?_;refine leaf0 (congrArg (Value.int .i64) hz.symm)
      have f1 := h1;try simp only [bl] at f1
      exfalso; omega
    · obtain ⟨k, rfl⟩ : ∃ k : Nat, i = k := ⟨i.toNat, by omega⟩
      obtain ⟨o, ho⟩ : ∃ o, ns[k]? = some o := ⟨ns[k]'(by omega), List.getElem?_eq_getElem (by omega)⟩
      have hoc : (ns.map NodeV.c)[((k : Nat) : Int).toNat]? = some o.c := by rw [Int.toNat_natCast, List.getElem?_map, ho]; rfl
      have hom := List.mem_of_getElem? ho
      have hw1 : Ws I o.vn o.c.n := (hok o hom).1
      have hw2 : Ws I o.vd o.c.d := (hok o hom).2
      have hz := begZ_step (f := f) hlow hoc
      have ra := begZ_rng (l := ns.map NodeV.c) (fr := fr) f o.c.a
      have rb := begZ_rng (l := ns.map NodeV.c) (fr := fr) f o.c.b
      have hkd : 0 ≤ o.c.kind ∧ o.c.kind ≤ 7 := hkn o.c (List.mem_map_of_mem hom)
      intro w hw
      refine enter3 _ Tryz.func51 rfl Tryz.ntmps51 rfl ?_ hw;refine sR ?_;refine oV ?_;refine nU ?_;iterate 3 refine oV ?_
      refine nT ?_;refine cC rfl (fun h1 => ?_) (fun h1 => ?_)
      ·
       have f1 := h1;try simp only [bl] at f1
       exfalso; omega
      have f1 := h1;try simp only [bl] at f1
      refine kS ?_;iterate 2 refine oV ?_
      refine o_elem trivial rfl Tryz.underlying25 Tryz.sizeOf44 rfl (hsa) rfl (by omega) ?_;refine o_loadAI trivial rfl Tryz.isAgg44 Tryz.sizeOf44 rfl rfl (nds_at hsa ho) ?_;refine o_alloc trivial rfl Tryz.zeroValue44 rfl (fun b7 => ?_);refine oS Tryz.sizeOf44 ?_;refine oN (tC (cS (cB (sR ?_))));refine oF 0 Tryz.underlying44 Tryz.sizeOf3 ?_;refine oL Tryz.isAgg3 ?_;refine oV ?_;refine' o_or trivial trivial rfl rfl rfl rfl rfl rfl rfl rfl (fun hb22 => ?_) ?_;rotate_left
      ·
       have fb22 := hb22
       try simp only [bl] at fb22
       refine gF hb22 0 Tryz.underlying44 Tryz.sizeOf3 ?_;refine gL hb22 Tryz.isAgg3 ?_;refine gV hb22 ?_;refine oN ?_;exact joins rfl
      refine oV ?_;refine nT ?_;refine cC rfl (fun h2 => ?_) (fun h2 => ?_)
      ·
       have f2 := h2;try simp only [bl] at f2
       refine sR ?_;iterate 2 refine oV ?_
       refine oN (tC (cT (blk_r (tR ?_))));refine ret1 rfl rfl ?_;refine leaf0 (congrArg (Value.int .i64) ?_); rw [hz, if_pos (by omega)]
      have f2 := h2;try simp only [bl] at f2
      refine sR ?_;refine oF 0 Tryz.underlying44 Tryz.sizeOf3 ?_;refine oL Tryz.isAgg3 ?_;refine oV ?_;refine' o_or trivial trivial rfl rfl rfl rfl rfl rfl rfl rfl (fun hb32 => ?_) ?_;rotate_left
      ·
       have fb32 := hb32
       try simp only [bl] at fb32
       refine gF hb32 0 Tryz.underlying44 Tryz.sizeOf3 ?_;refine gL hb32 Tryz.isAgg3 ?_;refine gV hb32 ?_;refine oN ?_;exact joins rfl
      refine oV ?_;refine nT ?_;refine cC rfl (fun h3 => ?_) (fun h3 => ?_)
      ·
       have f3 := h3;try simp only [bl] at f3
       refine cS (sR ?_);refine oF 1 Tryz.underlying44 Tryz.sizeOf3 ?_;refine oL Tryz.isAgg3 ?_;refine oV ?_
       first | (refine o_sub trivial rfl rfl rfl ?_ ?_; (omega)) | refine oV ?_
       refine oV ?_;refine nT ?_;refine cC rfl (fun h4 => ?_) (fun h4 => ?_)
       ·
        have f4 := h4;try simp only [bl] at f4
        refine sR ?_;refine oV ?_
        first | (refine o_sub trivial rfl rfl rfl ?_ ?_; (omega)) | refine oV ?_
        refine oV ?_;refine oN (tC (cT (tR (blk_r (tR ?_)))));refine ret1 rfl rfl ?_;refine leaf0 (congrArg (Value.int .i64) ?_); rw [hz, if_neg (by omega), if_pos (by omega), if_pos (by omega)]
       have f4 := h4;try simp only [bl] at f4
       refine kS ?_;iterate 2 refine oV ?_
       refine oF 1 Tryz.underlying44 Tryz.sizeOf3 ?_;refine oL Tryz.isAgg3 ?_;refine oQ Tryz.call51 rfl (ih o.c.a (by omega) (by omega) (by omega)) ?_;refine oV ?_;refine oN (tC (cT (blk_r (tR ?_))));refine ret1 rfl rfl ?_;refine leaf0 (congrArg (Value.int .i64) ?_); rw [hz, if_neg (by omega), if_pos (by omega), if_neg (by omega)]
      have f3 := h3;try simp only [bl] at f3
      refine cK (blk_n (tC (cS (sR ?_))));refine oF 2 Tryz.underlying44 Tryz.sizeOf3 ?_;refine oL Tryz.isAgg3 ?_;refine oV ?_
      first | (refine o_sub trivial rfl rfl rfl ?_ ?_; (omega)) | refine oV ?_
      refine oV ?_;refine nT ?_;refine cC rfl (fun h5 => ?_) (fun h5 => ?_)
      ·
       have f5 := h5;try simp only [bl] at f5
       refine sR ?_;refine oV ?_
       first | (refine o_sub trivial rfl rfl rfl ?_ ?_; (omega)) | refine oV ?_
       refine oV ?_;refine nF ?_;refine ret1 rfl rfl ?_;refine leaf0 (congrArg (Value.int .i64) ?_); rw [hz, if_neg (by omega), if_neg (by omega), if_pos (by omega)]
      have f5 := h5;try simp only [bl] at f5
      refine kS ?_;iterate 2 refine oV ?_
      refine oF 2 Tryz.underlying44 Tryz.sizeOf3 ?_;refine oL Tryz.isAgg3 ?_;refine oQ Tryz.call51 rfl (ih o.c.b (by omega) (by omega) (by omega)) ?_;refine oV ?_;refine nU ?_;iterate 3 refine oV ?_
      refine' o_or trivial trivial rfl rfl rfl rfl rfl rfl rfl rfl (fun hb64 => ?_) ?_;rotate_left
      ·
       have fb64 := hb64
       try simp only [bl] at fb64
       refine gF hb64 1 Tryz.underlying44 Tryz.sizeOf3 ?_;refine gL hb64 Tryz.isAgg3 ?_;refine gV hb64 ?_
       first | (refine o_sub (wS rfl rfl hb64) rfl rfl rfl ?_ ?_; (omega)) | refine gV hb64 ?_
       refine gV hb64 ?_;refine oN ?_;exact joins rfl
      refine nT ?_;refine cC rfl (fun h6 => ?_) (fun h6 => ?_)
      ·
       have f6 := h6;try simp only [bl] at f6
       refine sR ?_;refine oV ?_
       first | (refine o_sub trivial rfl rfl rfl ?_ ?_; (omega)) | refine oV ?_
       refine oV ?_;refine nF ?_;refine ret1 rfl rfl ?_;refine leaf0 (congrArg (Value.int .i64) ?_); rw [hz, if_neg (by omega), if_neg (by omega), if_neg (by omega), if_pos (by omega)]
      have f6 := h6;try simp only [bl] at f6
      refine kS ?_;iterate 2 refine oV ?_
      refine oF 1 Tryz.underlying44 Tryz.sizeOf3 ?_;refine oL Tryz.isAgg3 ?_;refine oQ Tryz.call51 rfl (ih o.c.a (by omega) (by omega) (by omega)) ?_;refine oV ?_;refine nE ?_;refine ret1 rfl rfl ?_;refine leaf0 (congrArg (Value.int .i64) ?_); rw [hz, if_neg (by omega), if_neg (by omega), if_neg (by omega), if_neg (by omega)]
def expoF : List Tok → Option Int × List Tok
  | [] => (none, [])
  | x :: r => if isT x 2 minusS then (match r with
      | [] => (none, [])
      | y :: r' => if y.kind = 1 then (match expoZ y.text with | some n => (some (-(n : Int)), r') | none => (none, y :: r')) else (none, y :: r'))
    else if x.kind = 1 then (match expoZ x.text with | some n => (some (n : Int), r) | none => (none, x :: r)) else (none, x :: r)
theorem Expo.fn {r r1 : List Tok} {e : Option Int} (h : Expo r e r1) : expoF r = (e, r1) := by
  cases h with
  | neg h1 h2 h3 => simp only [expoF, h1, if_true, h2, h3]
  | neg_end h1 => simp only [expoF, h1, if_true]
  | @neg_bad x y r h1 h2 =>
    simp only [expoF, h1, if_true]
    by_cases hk : y.kind = 1
    · rw [if_pos hk, h2 hk]
    · rw [if_neg hk]
  | pos h1 h2 h3 => simp [expoF, h1, h2, h3]
  | pos_end => rfl
  | @pos_bad y r h1 h2 =>
    simp only [expoF, h1]
    by_cases hk : y.kind = 1
    · rw [if_neg (by decide), if_pos hk, h2 hk]
    · rw [if_neg (by decide), if_neg hk]
def psF : Nat → Lv → List NodeC → List Tok → POut
  | 0, _, _, r => .bad r
  | f + 1, .atom, all, r => match r with
    | [] => .bad []
    | x :: r' => if isT x 2 lpar then (match psF f .sum all r' with
        | .bad r1 => .bad r1
        | .ok a1 r1 => if hdT r1 2 rpar then .ok a1 (r1.drop 1) else .bad r1)
      else if leafT x then .ok (all ++ [leafN x]) r' else .bad (x :: r')
  | f + 1, .powL, all, r => match r with
    | [] => .ok all []
    | x :: r' => if isT x 2 Go.Tw.caret then (match expoF r' with
        | (some e, r1) => .ok (all ++ [powN (lastI all) e]) r1
        | (none, r1) => .bad r1) else .ok all (x :: r')
  | f + 1, .power, all, r => match psF f .atom all r with
    | .bad r1 => .bad r1
    | .ok a1 r1 => psF f .powL a1 r1
  | f + 1, .factor, all, r => match r with
    | [] => psF f .power all []
    | x :: r' => if isT x 2 minusS then (match psF f .factor all r' with
        | .bad r1 => .bad r1
        | .ok a1 r1 => .ok (a1 ++ [negN (lastI a1)]) r1) else psF f .power all (x :: r')
  | f + 1, .prodL, all, r => match hdK mulK r with
    | none => .ok all r
    | some k => match psF f .factor all (r.drop 1) with
      | .bad r1 => .bad r1
      | .ok a1 r1 => psF f .prodL (a1 ++ [binN k (lastI all) (lastI a1)]) r1
  | f + 1, .product, all, r => match psF f .factor all r with
    | .bad r1 => .bad r1
    | .ok a1 r1 => psF f .prodL a1 r1
  | f + 1, .sumL, all, r => match hdK addK r with
    | none => .ok all r
    | some k => match psF f .product all (r.drop 1) with
      | .bad r1 => .bad r1
      | .ok a1 r1 => psF f .sumL (a1 ++ [binN k (lastI all) (lastI a1)]) r1
  | f + 1, .sum, all, r => match psF f .product all r with
    | .bad r1 => .bad r1
    | .ok a1 r1 => psF f .sumL a1 r1
def rkL : Lv → Nat
  | .atom => 1
  | .powL => 1
  | .power => 2
  | .factor => 3
  | .prodL => 1
  | .product => 4
  | .sumL => 1
  | .sum => 5
theorem ps_fn {lv : Lv} {all : List NodeC} {r : List Tok} {o : POut} (h : Ps lv all r o) : ∀ f, 8 * r.length + rkL lv ≤ f → psF f lv all r = o := by
  have len1 : ∀ {lv : Lv} {all a1 : List NodeC} {r r1 : List Tok}, Ps lv all r (.ok a1 r1) → r1.length + lv.need ≤ r.length := fun h => h.len
  induction h with
  | par_bad hx h ih =>
    intro f hf
    obtain ⟨f, rfl⟩ : ∃ g, f = g + 1 := ⟨f - 1, by simp only [rkL] at hf; omega⟩
    simp only [List.length_cons, rkL] at hf
    simp only [psF, hx, if_true]
    rw [ih f (by simp only [rkL]; omega)]
  | par_ok hx h hy ih =>
    intro f hf
    obtain ⟨f, rfl⟩ : ∃ g, f = g + 1 := ⟨f - 1, by simp only [rkL] at hf; omega⟩
    simp only [List.length_cons, rkL] at hf
    simp only [psF, hx, if_true]
    rw [ih f (by simp only [rkL]; omega)]
    simp only [hdT, hy, if_true, List.drop_one, List.tail_cons]
  | par_no hx h hy ih =>
    intro f hf
    obtain ⟨f, rfl⟩ : ∃ g, f = g + 1 := ⟨f - 1, by simp only [rkL] at hf; omega⟩
    simp only [List.length_cons, rkL] at hf
    simp only [psF, hx, if_true]
    rw [ih f (by simp only [rkL]; omega)]
    simp only [hy]
    rfl
  | @leaf all x r hl =>
    intro f hf
    obtain ⟨f, rfl⟩ : ∃ g, f = g + 1 := ⟨f - 1, by simp only [rkL] at hf; omega⟩
    have hp : isT x 2 lpar = false := by
      cases hb : isT x 2 lpar with
      | false => rfl
      | true => rw [leafT, (isT_iff.1 hb).1] at hl; exact absurd hl (by simp)
    simp [psF, hp, hl]
  | none =>
    intro f hf
    obtain ⟨f, rfl⟩ : ∃ g, f = g + 1 := ⟨f - 1, by simp only [rkL] at hf; omega⟩
    rfl
  | no h1 h2 =>
    intro f hf
    obtain ⟨f, rfl⟩ : ∃ g, f = g + 1 := ⟨f - 1, by simp only [rkL] at hf; omega⟩
    simp [psF, h1, h2]
  | @pow_none all r h1 =>
    intro f hf
    obtain ⟨f, rfl⟩ : ∃ g, f = g + 1 := ⟨f - 1, by simp only [rkL] at hf; omega⟩
    cases r with
    | nil => rfl
    | cons x r => simp only [hdT] at h1; simp [psF, h1]
  | pow_ok h1 h2 =>
    intro f hf
    obtain ⟨f, rfl⟩ : ∃ g, f = g + 1 := ⟨f - 1, by simp only [rkL] at hf; omega⟩
    simp [psF, h1, Expo.fn h2]
  | pow_bad h1 h2 =>
    intro f hf
    obtain ⟨f, rfl⟩ : ∃ g, f = g + 1 := ⟨f - 1, by simp only [rkL] at hf; omega⟩
    simp [psF, h1, Expo.fn h2]
  | power_bad h ih =>
    intro f hf
    obtain ⟨f, rfl⟩ : ∃ g, f = g + 1 := ⟨f - 1, by simp only [rkL] at hf; omega⟩
    simp only [psF]
    rw [ih f (by simp only [rkL] at hf ⊢; omega)]
  | power_ok h h2 ih ih2 =>
    intro f hf
    obtain ⟨f, rfl⟩ : ∃ g, f = g + 1 := ⟨f - 1, by simp only [rkL] at hf; omega⟩
    have hl := len1 h
    simp only [psF]
    rw [ih f (by simp only [rkL] at hf ⊢; omega)]
    exact ih2 f (by simp only [rkL, Lv.need] at hf hl ⊢; omega)
  | neg_bad hx h ih =>
    intro f hf
    obtain ⟨f, rfl⟩ : ∃ g, f = g + 1 := ⟨f - 1, by simp only [rkL] at hf; omega⟩
    simp only [List.length_cons, rkL] at hf
    simp only [psF, hx, if_true]
    rw [ih f (by simp only [rkL]; omega)]
  | neg_ok hx h ih =>
    intro f hf
    obtain ⟨f, rfl⟩ : ∃ g, f = g + 1 := ⟨f - 1, by simp only [rkL] at hf; omega⟩
    simp only [List.length_cons, rkL] at hf
    simp only [psF, hx, if_true]
    rw [ih f (by simp only [rkL]; omega)]
  | @fac all r o h1 h ih =>
    intro f hf
    obtain ⟨f, rfl⟩ : ∃ g, f = g + 1 := ⟨f - 1, by simp only [rkL] at hf; omega⟩
    have := ih f (by simp only [rkL] at hf ⊢; omega)
    cases r with
    | nil => exact this
    | cons x r =>
      simp only [hdT] at h1
      simp only [psF, h1]
      exact this
  | prodL_end h1 =>
    intro f hf
    obtain ⟨f, rfl⟩ : ∃ g, f = g + 1 := ⟨f - 1, by simp only [rkL] at hf; omega⟩
    simp only [psF, h1]
  | @prodL_bad all x r r1 k hk h ih =>
    intro f hf
    obtain ⟨f, rfl⟩ : ∃ g, f = g + 1 := ⟨f - 1, by simp only [rkL] at hf; omega⟩
    simp only [List.length_cons, rkL] at hf
    have hk' : hdK mulK (x :: r) = some k := hk
    simp only [psF, hk', List.drop_one, List.tail_cons]
    rw [ih f (by simp only [rkL]; omega)]
  | @prodL_ok all a1 x r r1 k o hk h h2 ih ih2 =>
    intro f hf
    obtain ⟨f, rfl⟩ : ∃ g, f = g + 1 := ⟨f - 1, by simp only [rkL] at hf; omega⟩
    simp only [List.length_cons, rkL] at hf
    have hl := len1 h
    have hk' : hdK mulK (x :: r) = some k := hk
    simp only [psF, hk', List.drop_one, List.tail_cons]
    rw [ih f (by simp only [rkL]; omega)]
    exact ih2 f (by simp only [rkL, Lv.need] at hl ⊢; omega)
  | product_bad h ih =>
    intro f hf
    obtain ⟨f, rfl⟩ : ∃ g, f = g + 1 := ⟨f - 1, by simp only [rkL] at hf; omega⟩
    simp only [psF]
    rw [ih f (by simp only [rkL] at hf ⊢; omega)]
  | product_ok h h2 ih ih2 =>
    intro f hf
    obtain ⟨f, rfl⟩ : ∃ g, f = g + 1 := ⟨f - 1, by simp only [rkL] at hf; omega⟩
    have hl := len1 h
    simp only [psF]
    rw [ih f (by simp only [rkL] at hf ⊢; omega)]
    exact ih2 f (by simp only [rkL, Lv.need] at hf hl ⊢; omega)
  | sumL_end h1 =>
    intro f hf
    obtain ⟨f, rfl⟩ : ∃ g, f = g + 1 := ⟨f - 1, by simp only [rkL] at hf; omega⟩
    simp only [psF, h1]
  | @sumL_bad all x r r1 k hk h ih =>
    intro f hf
    obtain ⟨f, rfl⟩ : ∃ g, f = g + 1 := ⟨f - 1, by simp only [rkL] at hf; omega⟩
    simp only [List.length_cons, rkL] at hf
    have hk' : hdK addK (x :: r) = some k := hk
    simp only [psF, hk', List.drop_one, List.tail_cons]
    rw [ih f (by simp only [rkL]; omega)]
  | @sumL_ok all a1 x r r1 k o hk h h2 ih ih2 =>
    intro f hf
    obtain ⟨f, rfl⟩ : ∃ g, f = g + 1 := ⟨f - 1, by simp only [rkL] at hf; omega⟩
    simp only [List.length_cons, rkL] at hf
    have hl := len1 h
    have hk' : hdK addK (x :: r) = some k := hk
    simp only [psF, hk', List.drop_one, List.tail_cons]
    rw [ih f (by simp only [rkL]; omega)]
    exact ih2 f (by simp only [rkL, Lv.need] at hl ⊢; omega)
  | sum_bad h ih =>
    intro f hf
    obtain ⟨f, rfl⟩ : ∃ g, f = g + 1 := ⟨f - 1, by simp only [rkL] at hf; omega⟩
    simp only [psF]
    rw [ih f (by simp only [rkL] at hf ⊢; omega)]
  | sum_ok h h2 ih ih2 =>
    intro f hf
    obtain ⟨f, rfl⟩ : ∃ g, f = g + 1 := ⟨f - 1, by simp only [rkL] at hf; omega⟩
    have hl := len1 h
    simp only [psF]
    rw [ih f (by simp only [rkL] at hf ⊢; omega)]
    exact ih2 f (by simp only [rkL, Lv.need] at hf hl ⊢; omega)
def lt1F (all : List NodeC) (r : List Tok) : LO := match r with
  | [] => .bad []
  | x :: r' => if nameT x then (if hdT r' 2 equalS then (match psF (8 * r'.length + 5) .sum all (r'.drop 1) with
      | .bad r1 => .bad r1
      | .ok a1 r1 => if hdT r1 2 semiS then .ok x.text a1 (r1.drop 1) else .bad r1) else .bad r') else .bad (x :: r')
theorem lt1_fn {all : List NodeC} {r : List Tok} {o : LO} (h : Lt1 all r o) : lt1F all r = o := by
  cases h with
  | noname h0 => cases r with
    | nil => rfl
    | cons x r => simp only [hdN] at h0; simp [lt1F, h0]
  | @noeq x r h0 h1 => simp only [lt1F, h0, if_true, h1]; rfl
  | @sumbad x y r r1 h0 h1 h2 =>
    have h1' : hdT (y :: r) 2 equalS = true := h1
    have := ps_fn h2 (8 * (y :: r).length + 5) (by simp only [rkL, List.length_cons]; omega)
    simp only [lt1F, h0, if_true, h1', List.drop_one, List.tail_cons, this]
  | @nosemi a1 x y r r1 h0 h1 h2 h3 =>
    have h1' : hdT (y :: r) 2 equalS = true := h1
    have := ps_fn h2 (8 * (y :: r).length + 5) (by simp only [rkL, List.length_cons]; omega)
    simp only [lt1F, h0, if_true, h1', List.drop_one, List.tail_cons, this, h3]
    rfl
  | @ok a1 x y z r r1 h0 h1 h2 h3 =>
    have h1' : hdT (y :: r) 2 equalS = true := h1
    have h3' : hdT (z :: r1) 2 semiS = true := h3
    have := ps_fn h2 (8 * (y :: r).length + 5) (by simp only [rkL, List.length_cons]; omega)
    simp only [lt1F, h0, if_true, h1', List.drop_one, List.tail_cons, this, h3']
def ltsF : Nat → List LetC → List NodeC → List Tok → LSO
  | 0, ls, all, r => .bad r
  | f + 1, ls, all, r => if hdT r 0 letS then (match lt1F all (r.drop 1) with
      | .bad r1 => .bad r1
      | .ok n a1 r1 => ltsF f (ls ++ [⟨n, lastI a1⟩]) a1 r1) else .ok ls all r
theorem lts_fn {ls : List LetC} {all : List NodeC} {r : List Tok} {o : LSO} (h : Lts ls all r o) : ∀ f, r.length < f → ltsF f ls all r = o := by
  induction h with
  | fin h0 =>
    intro f hf
    obtain ⟨f, rfl⟩ : ∃ g, f = g + 1 := ⟨f - 1, by omega⟩
    simp [ltsF, h0]
  | @bad ls all x r r1 h0 h1 =>
    intro f hf
    obtain ⟨f, rfl⟩ : ∃ g, f = g + 1 := ⟨f - 1, by omega⟩
    have h0' : hdT (x :: r) 0 letS = true := h0
    simp only [ltsF, h0', if_true, List.drop_one, List.tail_cons, lt1_fn h1]
  | @more ls all a1 x n r r1 o h0 h1 h2 ih =>
    intro f hf
    obtain ⟨f, rfl⟩ : ∃ g, f = g + 1 := ⟨f - 1, by omega⟩
    have hl := h1.len
    have h0' : hdT (x :: r) 0 letS = true := h0
    simp only [List.length_cons] at hf
    simp only [ltsF, h0', if_true, List.drop_one, List.tail_cons, lt1_fn h1, ih f (by omega)]
def prgF (r : List Tok) : PO :=
  if hdT r 0 inS then (match namesZ (r.drop 1) with
    | .bad r1 => .bad r1
    | .ok ins r1 => match ltsF (r1.length + 1) [] [] r1 with
      | .bad r2 => .bad r2
      | .ok ls all r2 => if hdT r2 0 outS then (match namesZ (r2.drop 1) with
          | .bad r3 => .bad r3
          | .ok outs [] => .ok ⟨ins, ls, outs, all⟩
          | .ok outs (z :: r3) => .bad (z :: r3)) else .bad r2) else .bad r
theorem prg_fn {r : List Tok} {o : PO} (h : Prg r o) : prgF r = o := by
  have h0' : ∀ {x : Tok} {r : List Tok} {k : Int} {t : ByteArray}, isT x k t = true → hdT (x :: r) k t = true := fun h => h
  cases h with
  | noin h0 => simp [prgF, h0]
  | insbad h0 h1 => simp [prgF, h0' h0, h1]
  | letsbad h0 h1 h2 => simp [prgF, h0' h0, h1, lts_fn h2 _ (Nat.lt_succ_self _)]
  | noout h0 h1 h2 h3 => simp [prgF, h0' h0, h1, lts_fn h2 _ (Nat.lt_succ_self _), h3]
  | outsbad h0 h1 h2 h3 h4 => simp [prgF, h0' h0, h1, lts_fn h2 _ (Nat.lt_succ_self _), h0' h3, h4]
  | tail h0 h1 h2 h3 h4 => simp [prgF, h0' h0, h1, lts_fn h2 _ (Nat.lt_succ_self _), h0' h3, h4]
  | ok h0 h1 h2 h3 h4 => simp [prgF, h0' h0, h1, lts_fn h2 _ (Nat.lt_succ_self _), h0' h3, h4]
theorem prgZ_fn (r : List Tok) : prgZ r = prgF r := (prg_fn (prgZ_is r)).symm
theorem prgZ_eq {r : List Tok} {o : PO} (h : Prg r o) : prgZ r = o := (prgZ_fn r).trans (prg_fn h)
theorem rrNamesEq_any (va vb : Value) (l : List ByteArray) {I : Hp} (ha : Slc I 1 va (scs l)) (hb : Slc I 1 vb (scs l)) : Fun Tryz.prog 35 [va, vb] I [] (fun v _ _ => v = .bool true) := by
  have hl := scs_len l
  have hmx := ha.most
  rw [hl] at hmx
  unfold maxLen at hmx
  intro w hw
  refine enter2 _ Tryz.func35 rfl Tryz.ntmps35 rfl ?_ hw;refine sR ?_;refine oV ?_;refine nU ?_;refine oV ?_;refine o_lenSlc trivial rfl Tryz.underlying23 rfl (ha) ?_;refine oV ?_;refine o_lenSlc trivial rfl Tryz.underlying23 rfl (hb) ?_;refine oV ?_;refine nT ?_;refine cC rfl (fun h1 => ?_) (fun h1 => ?_)
  ·
   have f1 := h1;try simp only [bl] at f1
   exfalso; simp at h1
  have f1 := h1;try simp only [bl] at f1
  refine cK (tC (cS (sR ?_)));refine oV ?_;refine oN (tC (cB ?_));refine c_loop (ι := Nat) [0, 1] (.cons rfl (.cons rfl .nil)) (fun x => l.length - x) (fun x E0 => (5, .int .i64 (x : Int)) :: E0) (fun x => St w [] I []) (fun x => x ≤ l.length) (0) (sC rfl (sC rfl (sC rfl sN))) (fun _ h => h) (Nat.zero_le _) ?_;rintro i hi
  try dsimp only
  refine cS (sR ?_);iterate 2 refine oV ?_
  refine o_lenSlc trivial rfl Tryz.underlying23 rfl (ha) ?_;refine oV ?_;refine nT ?_;refine cC rfl (fun h2 => ?_) (fun h2 => ?_)
  ·
   have f2 := h2;try simp only [bl] at f2
   obtain ⟨s, hs⟩ : ∃ s, l[i]? = some s := ⟨l[i]'(by omega), List.getElem?_eq_getElem (by omega)⟩
   refine cK (tC (cS (cB (cS ?_))));refine c_quiet (by kernel_rfl) (by kernel_rfl) (fun _ h => h.drawn) ?_;iterate 2 refine oV ?_
   refine o_elem trivial rfl Tryz.underlying23 Tryz.sizeOf9 rfl (ha) rfl (by omega) ?_;refine o_load1I trivial rfl Tryz.isAgg9 rfl (scs_at ha hs) ?_;iterate 2 refine oV ?_
   refine o_elem trivial rfl Tryz.underlying23 Tryz.sizeOf9 rfl (hb) rfl (by omega) ?_;refine o_load1I trivial rfl Tryz.isAgg9 rfl (scs_at hb hs) ?_;refine oV ?_;refine nT ?_;refine cC rfl (fun h3 => ?_) (fun h3 => ?_)
   ·
    have f3 := h3;try simp only [bl] at f3
    exfalso; simp at h3
   have f3 := h3;try simp only [bl] at f3
   refine cK (blk_n (tC (cR ?_)));refine oV ?_
   first | (refine o_add trivial rfl rfl rfl ?_ ?_; (omega)) | refine oV ?_
   refine oV ?_;refine oN ?_;exact again (i + 1) (sC rfl (sC rfl (sC rfl sN))) (fun _ h => h) (by show l.length - (i + 1) < l.length - i; omega) (by show i + 1 ≤ _; omega)
  have f2 := h2;try simp only [bl] at f2
  refine c_exit (then_x (then_x (blk_eq rfl (tC (sR ?_)))));refine oV ?_;refine nE ?_;refine ret1 rfl rfl ?_;exact leaf0 rfl
def awT (k : Int) (s : ByteArray) (c : Int) : Tok := ⟨k, s, 1, c⟩
def awX : ByteArray := ⟨#[120]⟩
def awA : ByteArray := ⟨#[97]⟩
theorem nameZ_X : nameZ awX = true := by kernel_rfl
theorem nameZ_A : nameZ awA = true := by kernel_rfl
theorem isT_self {k : Int} {s : ByteArray} {c : Int} : isT (awT k s c) k s = true := by simp [isT, awT]
theorem isT_no {x : Tok} {k : Int} {t : ByteArray} (h : x.kind ≠ k) : isT x k t = false := by simp [isT, h]
theorem isT_un {k : Int} {s t : ByteArray} {c : Int} (h : s.data.toList ≠ t.data.toList) : isT (awT k s c) k t = false := by
  unfold isT awT
  rw [toList_data, toList_data]
  have : (s.data.toList == t.data.toList) = false := by simpa using h
  rw [this, Bool.and_false]
theorem nameT_X {c : Int} : nameT (awT 0 awX c) = true := by unfold nameT; simp [awT, nameZ_X]
theorem nameT_A {c : Int} : nameT (awT 0 awA c) = true := by unfold nameT; simp [awT, nameZ_A]
theorem namesZ_aw {c d : Int} {s : ByteArray} {r : List Tok} (h : nameT (awT 0 s c) = true) : namesZ (awT 0 s c :: awT 2 semiS d :: r) = .ok [s] r := by
  unfold namesZ
  rw [if_pos h, if_neg (by rw [isT_un (by decide)]; decide), if_pos isT_self]
  rfl
theorem rrFew_any (vi vl vo va : Value) (p : ProgC) (ns : List NodeV) (most : Int) {I : Hp} (hp : ProgV I vi vl vo va p ns) :
    Fun Tryz.prog 18 [.agg #[vi, vl, vo, va], .int .i64 most] I [] (fun v _ _ => v = .bool (fewP p most)) := by
  have hsi := hp.si
  have hsl := hp.sl
  have hso := hp.so
  have hsa := hp.sa
  have hli := scs_len p.ins
  have hlo := scs_len p.outs
  have hll : (p.lets.map LetC.cells).length = p.lets.length := List.length_map _
  have hla := nds_len ns
  have hal : p.all.length = ns.length := by rw [← hp.eq, List.length_map]
  have hm1 := hsa.most
  unfold maxLen at hm1
  intro w hw
  refine enter2 _ Tryz.func18 rfl Tryz.ntmps18 rfl ?_ hw;refine sR ?_;refine o_box trivial rfl rfl rfl (fun b2 => ?_);refine oV ?_;refine nU ?_;refine oF 3 Tryz.underlying27 Tryz.sizeOf25 ?_;refine oL Tryz.isAgg25 ?_;refine o_lenSlc trivial rfl Tryz.underlying25 rfl (hsa) ?_;iterate 2 refine oV ?_
  refine' o_or trivial trivial rfl rfl rfl rfl rfl rfl rfl rfl (fun hb12 => ?_) ?_;rotate_left
  ·
   have fb12 := hb12
   try simp only [bl] at fb12
   refine gF hb12 0 Tryz.underlying27 Tryz.sizeOf23 ?_;refine gL hb12 Tryz.isAgg23 ?_;refine o_lenSlc (wS rfl rfl hb12) rfl Tryz.underlying23 rfl (hsi) ?_;refine gV hb12 ?_;refine oN ?_;exact joins rfl
  refine' o_or trivial trivial rfl rfl rfl rfl rfl rfl rfl rfl (fun hb18 => ?_) ?_;rotate_left
  ·
   have fb18 := hb18
   try simp only [bl] at fb18
   refine gF hb18 1 Tryz.underlying27 Tryz.sizeOf24 ?_;refine gL hb18 Tryz.isAgg24 ?_;refine o_lenSlc (wS rfl rfl hb18) rfl Tryz.underlying24 rfl (hsl) ?_;refine gV hb18 ?_;refine oN ?_;exact joins rfl
  refine' o_or trivial trivial rfl rfl rfl rfl rfl rfl rfl rfl (fun hb24 => ?_) ?_;rotate_left
  ·
   have fb24 := hb24
   try simp only [bl] at fb24
   refine gF hb24 2 Tryz.underlying27 Tryz.sizeOf23 ?_;refine gL hb24 Tryz.isAgg23 ?_;refine o_lenSlc (wS rfl rfl hb24) rfl Tryz.underlying23 rfl (hso) ?_;refine gV hb24 ?_;refine oN ?_;exact joins rfl
  refine nT ?_;refine cC rfl (fun h1 => ?_) (fun h1 => ?_)
  ·
   have f1 := h1;try simp only [bl] at f1
   refine sR ?_;refine oV ?_;refine nF ?_;refine ret1 rfl rfl ?_;refine leaf0 (congrArg Value.bool ?_); unfold fewP; rw [decide_eq_false (by omega), Bool.false_and]
  have f1 := h1;try simp only [bl] at f1
  have hg : decide ((p.all.length : Int) ≤ most ∧ p.ins.length ≤ 8 ∧ p.lets.length ≤ 8 ∧ p.outs.length ≤ 8) = true := decide_eq_true (by omega)
  refine cK (tC (cS (sR ?_)));refine oV ?_;refine oN (tC (cB ?_));refine c_loop (ι := Nat) [2] (.cons rfl .nil) (fun i => ns.length - i) (fun i E0 => (5, .int .i64 (i : Nat)) :: E0) (fun i => St w [] I [.box b2 (.cells #[vi, vl, vo, va] 27 (0, 0))]) (fun i => i ≤ ns.length ∧ ((ns.take i).all fun o => decide (o.c.n.length ≤ 6 ∧ o.c.d.length ≤ 6 ∧ o.c.name.size ≤ 60)) = true) (0) (sC rfl (sC rfl sN)) (fun _ h => h) (⟨Nat.zero_le _, rfl⟩) ?_;rintro i ⟨hi, hall⟩
  try dsimp only
  refine cS (sR ?_);refine oV ?_;refine oF 3 Tryz.underlying27 Tryz.sizeOf25 ?_;refine oL Tryz.isAgg25 ?_;refine o_lenSlc trivial rfl Tryz.underlying25 rfl (hsa) ?_;refine oV ?_;refine nT ?_;refine cC rfl (fun h2 => ?_) (fun h2 => ?_)
  ·
   have f2 := h2;try simp only [bl] at f2
   obtain ⟨o, ho⟩ : ∃ o, ns[i]? = some o := ⟨ns[i]'(by omega), List.getElem?_eq_getElem (by omega)⟩
   have hom := List.mem_of_getElem? ho
   obtain ⟨hvn, hvd⟩ := hp.ok o hom
   refine cK (tC (cS (cB (sR ?_))));refine oF 3 Tryz.underlying27 Tryz.sizeOf25 ?_;refine oL Tryz.isAgg25 ?_;refine oV ?_;refine o_elem trivial rfl Tryz.underlying25 Tryz.sizeOf44 rfl (hsa) rfl (by omega) ?_;refine oF 5 Tryz.underlying44 Tryz.sizeOf42 ?_;refine o_loadAI trivial rfl Tryz.isAgg42 Tryz.sizeOf42 rfl rfl (fun k y hk => by have hc := nds_at hsa ho (5 + k) y (by rw [Nat.add_comm]; exact hk); rw [← Nat.add_assoc] at hc; exact hc) ?_;refine oB Tryz.underlying76 Tryz.sizeOf42 Tryz.zeroValue42 fun b43 => ?_;refine l_sealB .here (fun I1 hx1 hb43 => ?_);refine oQ Tryz.call47 rfl (rFew_any _ _ 6 (PtV.lone hb43 (hvn.le hx1.le) (hvd.le hx1.le))) ?_;refine oV ?_;refine oN (tC (cS ?_))
   rw [show ([(⟨o.c.neg, o.c.n, o.c.d, o.vn, o.vd⟩ : NV)].all fun x => decide ((x.n.length : Int) ≤ 6 ∧ (x.d.length : Int) ≤ 6)) = decide ((o.c.n.length : Int) ≤ 6 ∧ (o.c.d.length : Int) ≤ 6) from Bool.and_true _]
   refine cR ?_;iterate 2 refine oV ?_
   refine' o_or trivial trivial rfl rfl rfl rfl rfl rfl rfl rfl (fun hb47 => ?_) ?_;rotate_left
   ·
    have fb47 := hb47
    try simp only [bl] at fb47
    refine gF hb47 3 Tryz.underlying27 Tryz.sizeOf25 ?_;refine gL hb47 Tryz.isAgg25 ?_;refine gV hb47 ?_;refine o_elem (wS rfl rfl hb47) rfl Tryz.underlying25 Tryz.sizeOf44 rfl (hsa) rfl (by omega) ?_;refine gF hb47 4 Tryz.underlying44 Tryz.sizeOf9 ?_;refine o_load1I (wS rfl rfl hb47) rfl Tryz.isAgg9 rfl (hx1.le.cell (nds_at hsa ho 4 _ rfl)) ?_;refine o_lenS (wS rfl rfl hb47) rfl Tryz.underlying9 rfl ?_;refine gV hb47 ?_;refine oN ?_;exact joins rfl
   refine nT ?_;refine cC rfl (fun h3 => ?_) (fun h3 => ?_)
   ·
    have f3 := h3;try simp only [bl] at f3
    refine sR ?_;refine oV ?_;refine oN (tC (cT (blk_r (tR (tR (blk_r (tR ?_)))))));refine ret1 rfl rfl ?_;refine leaf hx1 (List.nil_sublist _) (congrArg Value.bool ?_)
    unfold fewP
    rw [hg, Bool.true_and]
    symm
    rw [List.all_eq_false]
    exact ⟨o.c, by rw [← hp.eq]; exact List.mem_map_of_mem hom, by simp only [decide_eq_true_eq]; omega⟩
   have f3 := h3;try simp only [bl] at f3
   refine cK (blk_n (tC (cR ?_)));refine oV ?_
   first | (refine o_add trivial rfl rfl rfl ?_ ?_; (omega)) | refine oV ?_
   refine oV ?_;refine oN ?_
   exact again (i + 1) (sC rfl (sC rfl sN)) (fun _ h => (h.sort (by repeat constructor)).fewer hx1.le) (by show ns.length - (i + 1) < ns.length - i; omega) ⟨by show i + 1 ≤ _; omega, by
     rw [List.take_add_one, ho, List.all_append, hall]
     simp only [Option.toList, List.all_cons, List.all_nil, Bool.and_true, Bool.true_and, decide_eq_true_eq]
     omega⟩
  have f2 := h2;try simp only [bl] at f2
  refine c_exit (then_x (then_x (blk_eq rfl (tC (sR ?_)))));refine oV ?_;refine nE ?_;refine ret1 rfl rfl ?_;refine leaf0 (congrArg Value.bool ?_)
  rw [List.take_of_length_le (by omega)] at hall
  unfold fewP
  rw [hg, Bool.true_and, ← hp.eq, List.all_map]
  exact hall.symm
theorem bgGo_nil (all : List NodeC) (fr : Int) : bgGo all [] fr = some fr := rfl
theorem bgGo_cons (all : List NodeC) (l : LetC) (ls : List LetC) (fr : Int) : bgGo all (l :: ls) fr = if nameZ l.name = true ∧ fr ≤ l.root ∧ l.root < all.length ∧ begZ all fr all.length l.root = fr then bgGo all ls (l.root + 1) else none := rfl
def blN (c : NodeC) : NodeC := if c.kind ≤ 1 then refN ⟨#[120]⟩ else ⟨c.kind, c.a, if c.kind ≤ 5 then c.b else 0, 0, ⟨#[]⟩, false, [], []⟩
theorem blN_low {c : NodeC} (h : c.kind ≤ 1) : blN c = refN ⟨#[120]⟩ := if_pos h
theorem blN_up {c : NodeC} (h : ¬ c.kind ≤ 1) : blN c = ⟨c.kind, c.a, if c.kind ≤ 5 then c.b else 0, 0, ⟨#[]⟩, false, [], []⟩ := if_neg h
theorem blN_parts {c : NodeC} (h0 : 0 ≤ c.kind) (h7 : c.kind ≤ 7) : (partsZ (blN c)).isSome = true := by
  by_cases h1 : c.kind ≤ 1
  · rw [blN_low h1, parts_ref (t := ⟨#[120]⟩) nameZ_X]; rfl
  · rw [blN_up h1]
    by_cases h5 : c.kind ≤ 5
    · rw [if_pos h5]
      have := parts_bin (k := c.kind) (a := c.a) (b := c.b) ⟨by omega, h5⟩
      unfold binN at this
      rw [this]; rfl
    · rw [if_neg h5]
      by_cases h6 : c.kind = 6
      · have := parts_neg c.a
        unfold negN at this
        rw [h6, this]; rfl
      · have := parts_pow (a := c.a) (e := 0) (by decide)
        unfold powN at this
        rw [show c.kind = 7 by omega, this]; rfl
theorem begZ_bl {l : List NodeC} {fr : Int} (hk : ∀ c ∈ l, 0 ≤ c.kind ∧ c.kind ≤ 7) : ∀ (f : Nat) (i : Int), begZ (l.map blN) fr f i = begZ l fr f i := by
  intro f
  induction f with
  | zero => intro i; rfl
  | succ f ih =>
    intro i
    by_cases hi : i < fr
    · rw [begZ_low _ hi, begZ_low _ hi]
    · cases hc : l[i.toNat]? with
      | none =>
        have hm : (l.map blN)[i.toNat]? = none := by rw [List.getElem?_map, hc]; rfl
        unfold begZ
        rw [if_neg hi, if_neg hi, hm, hc]
      | some c =>
        have hm : (l.map blN)[i.toNat]? = some (blN c) := by rw [List.getElem?_map, hc]; rfl
        obtain ⟨k0, k7⟩ := hk c (List.mem_of_getElem? hc)
        rw [begZ_step hi hm, begZ_step hi hc]
        simp only [ih]
        by_cases h1 : c.kind ≤ 1
        · rw [blN_low h1, if_pos (show (refN ⟨#[120]⟩).kind = 0 ∨ _ from Or.inl rfl), if_pos (by omega)]
        · rw [blN_up h1]
          dsimp only
          by_cases h5 : c.kind ≤ 5
          · rw [if_pos h5]
          · have e01 : ¬ (c.kind = 0 ∨ c.kind = 1) := by omega
            have e67 : c.kind = 6 ∨ c.kind = 7 := by omega
            simp only [if_neg e01, if_pos e67]
theorem bgGo_bl {all : List NodeC} (hk : ∀ c ∈ all, 0 ≤ c.kind ∧ c.kind ≤ 7) : ∀ (ls : List LetC) (fr : Int), bgGo (all.map blN) ls fr = bgGo all ls fr := by
  intro ls
  induction ls with
  | nil => intro fr; rfl
  | cons l ls ih => intro fr; rw [bgGo_cons, bgGo_cons, ih, List.length_map, begZ_bl hk]
theorem low_bl {all : List NodeC} {ls : List LetC} (hk : ∀ c ∈ all, 0 ≤ c.kind ∧ c.kind ≤ 7) (h : bgGo all ls 0 = some (all.length : Int)) : LowN all := by
  have hb : bgGo (all.map blN) ls 0 = some ((all.map blN).length : Int) := by rw [bgGo_bl hk, List.length_map]; exact h
  obtain ⟨l, hl⟩ := right_shaped (p := ⟨[], ls, [], all.map blN⟩) (List.all_eq_true.2 fun c hc => by
    obtain ⟨c', hc', rfl⟩ := List.mem_map.1 hc
    exact blN_parts (hk c' hc').1 (hk c' hc').2) hb
  have hlow := shaped_low hl
  intro i c hc h1
  have := hlow i (blN c) (by show (all.map blN)[i]? = _; rw [List.getElem?_map, hc]; rfl)
  rw [blN_up (by omega)] at this
  have h2 := this h1
  dsimp only at h2
  refine ⟨h2.1, h2.2.1, fun h5 => ?_⟩
  have h3 := h2.2.2 h5
  rw [if_pos h5] at h3
  exact h3
theorem rrRightAll_any (vi vl vo va : Value) (p : ProgC) (ns : List NodeV) {I : Hp} (hp : ProgV I vi vl vo va p ns) (hf : ∀ o ∈ ns, o.c.few 35184372088400) :
    Fun Tryz.prog 19 [.agg #[vi, vl, vo, va]] I [] (fun v _ _ => ∃ b, v = .bool b ∧ ((∀ o ∈ ns, o.c.few 3000) → b = rightZ p)) := by
  have hsi := hp.si
  have hsl := hp.sl
  have hso := hp.so
  have hsa := hp.sa
  have hll : (p.lets.map LetC.cells).length = p.lets.length := List.length_map _
  have hla := nds_len ns
  have hal : p.all.length = ns.length := by rw [← hp.eq, List.length_map]
  have hm1 := hsa.most
  unfold maxLen at hm1
  intro w hw
  refine enter1 _ Tryz.func19 rfl Tryz.ntmps19 rfl ?_ hw;refine sR ?_;refine o_box trivial rfl rfl rfl (fun b1 => ?_);refine oV ?_;refine nS ?_;refine oF 0 Tryz.underlying27 Tryz.sizeOf23 ?_;refine oL Tryz.isAgg23 ?_;refine oQ Tryz.call48 rfl (rrList_any vi p.ins 1 hsi) ?_;refine oV ?_;refine nS ?_;refine oF 2 Tryz.underlying27 Tryz.sizeOf23 ?_;refine oL Tryz.isAgg23 ?_;refine oQ Tryz.call48 rfl (rrList_any vo p.outs 1 hso) ?_;refine oV ?_;refine nU ?_;iterate 2 refine oV ?_
  refine' o_or trivial trivial rfl rfl rfl rfl rfl rfl rfl rfl (fun hb20 => ?_) ?_;rotate_left
  ·
   have fb20 := hb20
   try simp only [bl] at fb20
   iterate 2 refine gV hb20 ?_
   refine oN ?_;exact joins rfl
  refine' o_or trivial trivial rfl rfl rfl rfl rfl rfl rfl rfl (fun hb24 => ?_) ?_;rotate_left
  ·
   have fb24 := hb24
   try simp only [bl] at fb24
   refine gF hb24 1 Tryz.underlying27 Tryz.sizeOf24 ?_;refine gL hb24 Tryz.isAgg24 ?_;refine o_lenSlc (wS rfl rfl hb24) rfl Tryz.underlying24 rfl (hsl) ?_;refine gV hb24 ?_;refine oN ?_;exact joins rfl
  refine' o_or trivial trivial rfl rfl rfl rfl rfl rfl rfl rfl (fun hb30 => ?_) ?_;rotate_left
  ·
   have fb30 := hb30
   try simp only [bl] at fb30
   refine gF hb30 3 Tryz.underlying27 Tryz.sizeOf25 ?_;refine gL hb30 Tryz.isAgg25 ?_;refine o_lenSlc (wS rfl rfl hb30) rfl Tryz.underlying25 rfl (hsa) ?_;refine gV hb30 ?_;refine oN ?_;exact joins rfl
  refine nT ?_;refine cC rfl (fun h1 => ?_) (fun h1 => ?_)
  ·
   have f1 := h1;try simp only [bl] at f1
   refine sR ?_;refine oV ?_;refine nF ?_;refine ret1 rfl rfl ?_;refine leaf0 ⟨_, rfl, fun hw => ?_⟩;refine Eq.symm (Bool.eq_false_iff.2 fun hh => ?_)
   unfold rightZ at hh
   simp only [Bool.and_eq_true, decide_eq_true_eq, beq_iff_eq] at hh
   obtain ⟨⟨⟨⟨⟨⟨⟨⟨a1, a2⟩, a3⟩, ⟨b1, b2⟩, b3⟩, c1⟩, c2⟩, c3⟩, c4⟩, c5⟩ := hh
   simp [a1, b1] at h1
   omega
  have f1 := h1;try simp only [bl] at f1
  have hsz : (namesOK p.ins = true ∧ 1 ≤ p.ins.length ∧ p.ins.length ≤ 40) ∧ (namesOK p.outs = true ∧ 1 ≤ p.outs.length ∧ p.outs.length ≤ 40) ∧ p.lets.length ≤ 40 ∧ p.all.length ≤ 400 := by
    obtain ⟨⟨⟨⟨⟨a1, a2⟩, a3⟩, ⟨b1, b2⟩, b3⟩, c1⟩, c2⟩ := f1
    exact ⟨⟨a1, by omega, a3⟩, ⟨b1, by omega, b3⟩, by omega, by omega⟩
  refine cK (tC (cS (sR ?_)));refine oV ?_;refine oN (tC (cB ?_));refine c_loop (ι := Nat) [1] (.cons rfl .nil) (fun i => ns.length - i) (fun i E0 => (5, .int .i64 (i : Nat)) :: E0) (fun i => St w [] I [.box b1 (.cells #[vi, vl, vo, va] 27 (0, 0))]) (fun i => i ≤ ns.length ∧ (∀ c ∈ p.all.take i, 0 ≤ c.kind ∧ c.kind ≤ 7) ∧ ((∀ o ∈ ns, o.c.few 3000) → p.all.all (fun c => (partsZ c).isSome) = (p.all.drop i).all (fun c => (partsZ c).isSome))) (0) (sC rfl (sC rfl sN)) (fun _ h => h) (⟨Nat.zero_le _, (fun c hc => by cases hc), fun _ => rfl⟩) ?_;rintro i ⟨hi, hkd, hall⟩
  try dsimp only
  refine cS (sR ?_);refine oV ?_;refine oF 3 Tryz.underlying27 Tryz.sizeOf25 ?_;refine oL Tryz.isAgg25 ?_;refine o_lenSlc trivial rfl Tryz.underlying25 rfl (hsa) ?_;refine oV ?_;refine nT ?_;refine cC rfl (fun h2 => ?_) (fun h2 => ?_)
  ·
   have f2 := h2;try simp only [bl] at f2
   obtain ⟨o, ho⟩ : ∃ o, ns[i]? = some o := ⟨ns[i]'(by omega), List.getElem?_eq_getElem (by omega)⟩
   have hom := List.mem_of_getElem? ho
   have hoc : p.all[i]? = some o.c := by rw [← hp.eq, List.getElem?_map, ho]; rfl
   have hw1 : Ws I o.vn o.c.n := (hp.ok o hom).1
   have hw2 : Ws I o.vd o.c.d := (hp.ok o hom).2
   refine cK (tC (cS (cB (sR ?_))));refine oF 3 Tryz.underlying27 Tryz.sizeOf25 ?_;refine oL Tryz.isAgg25 ?_;refine oV ?_;refine o_elem trivial rfl Tryz.underlying25 Tryz.sizeOf44 rfl (hsa) rfl (by omega) ?_;refine o_loadAI trivial rfl Tryz.isAgg44 Tryz.sizeOf44 rfl rfl (nds_at hsa ho) ?_;refine o_call0 trivial rfl Tryz.call49 rfl (rrFieldsG_any o (hp.ok o hom) (hf o hom)) ?_;rintro _ ⟨rb, rfl, hrb, hrw⟩;refine oV ?_;refine nS ?_;iterate 2 refine oV ?_
   refine nT ?_;refine cC rfl (fun h3 => ?_) (fun h3 => ?_)
   ·
    have f3 := h3;try simp only [bl] at f3
    refine sR ?_;refine oV ?_;refine oN (tC (cT (blk_r (tR (tR (blk_r (tR ?_)))))));refine ret1 rfl rfl ?_;refine leaf0 ⟨_, rfl, fun hw => ?_⟩;refine Eq.symm (Bool.eq_false_iff.2 fun hh => ?_)
    unfold rightZ at hh
    simp only [Bool.and_eq_true] at hh
    have h9 := hh.1.1.2
    rw [hall hw, all_step (p := fun c => (partsZ c).isSome) hoc, ← hrw (hw o hom), show rb = false by simpa using h3] at h9
    cases h9
   have f3 := h3;try simp only [bl] at f3
   refine cK (blk_n (tC (cR ?_)));refine oV ?_
   first | (refine o_add trivial rfl rfl rfl ?_ ?_; (omega)) | refine oV ?_
   refine oV ?_;refine oN ?_
   exact again (i + 1) (sC rfl (sC rfl sN)) (fun _ h => h) (by show ns.length - (i + 1) < ns.length - i; omega) ⟨by show i + 1 ≤ ns.length; omega, fun c hc => by
     rw [List.take_add_one, hoc] at hc
     rcases List.mem_append.1 hc with hc | hc
     · exact hkd c hc
     · rw [List.mem_singleton.1 hc]; exact hrb (by simpa using h3), fun hw => by rw [hall hw, all_step (p := fun c => (partsZ c).isSome) hoc, ← hrw (hw o hom), show rb = true by simpa using h3]; rfl⟩
  have f2 := h2;try simp only [bl] at f2
  have hin : i = ns.length := by omega
  have hall1 : (∀ o ∈ ns, o.c.few 3000) → p.all.all (fun c => (partsZ c).isSome) = true := fun hw => by rw [hall hw, hin, ← hal, List.drop_length]; rfl
  have hkn : ∀ c ∈ p.all, 0 ≤ c.kind ∧ c.kind ≤ 7 := fun c hc => hkd c (by rw [hin, ← hal, List.take_length]; exact hc)
  have hkm : ∀ c ∈ ns.map NodeV.c, 0 ≤ c.kind ∧ c.kind ≤ 7 := by rw [hp.eq]; exact hkn
  refine c_exit (then_x (then_x (blk_eq rfl (tC (sR ?_)))));refine oV ?_;refine nU ?_;refine oV ?_;refine oN (tC (cB ?_));refine c_loop (ι := Nat × Int) [1] (.cons rfl .nil) (fun x => p.lets.length - x.1) (fun x E0 => (7, .int .i64 x.2) :: (8, .int .i64 (x.1 : Nat)) :: E0) (fun x => St w [] I [.box b1 (.cells #[vi, vl, vo, va] 27 (0, 0))]) (fun x => x.1 ≤ p.lets.length ∧ 0 ≤ x.2 ∧ x.2 ≤ ns.length ∧ bgGo p.all p.lets 0 = bgGo p.all (p.lets.drop x.1) x.2) ((0, 0)) (sC rfl (sC rfl (sC rfl sN))) (fun _ h => h) (⟨Nat.zero_le _, Int.le_refl _, by omega, rfl⟩) ?_;rintro ⟨j, fr⟩ ⟨hj, hfr0, hfr1, hgo⟩
  try dsimp only
  refine cS (sR ?_);refine oV ?_;refine oF 1 Tryz.underlying27 Tryz.sizeOf24 ?_;refine oL Tryz.isAgg24 ?_;refine o_lenSlc trivial rfl Tryz.underlying24 rfl (hsl) ?_;refine oV ?_;refine nT ?_;refine cC rfl (fun h4 => ?_) (fun h4 => ?_)
  ·
   have f4 := h4;try simp only [bl] at f4
   obtain ⟨c, hc⟩ : ∃ c, p.lets[j]? = some c := ⟨p.lets[j]'(by omega), List.getElem?_eq_getElem (by omega)⟩
   have hdr : p.lets.drop j = c :: p.lets.drop (j + 1) := by rw [List.drop_eq_getElem_cons (List.getElem?_eq_some_iff.1 hc).1, (List.getElem?_eq_some_iff.1 hc).2]
   rw [hdr, bgGo_cons] at hgo
   refine cK (tC (cS (cB (sR ?_))));refine oF 1 Tryz.underlying27 Tryz.sizeOf24 ?_;refine oL Tryz.isAgg24 ?_;refine oV ?_;refine o_elem trivial rfl Tryz.underlying24 Tryz.sizeOf46 rfl (hsl) rfl (by omega) ?_;refine oF 1 Tryz.underlying46 Tryz.sizeOf3 ?_;refine o_load1I trivial rfl Tryz.isAgg3 rfl (lts_at hsl hc 1 _ rfl) ?_;refine oV ?_;refine nS ?_;refine oF 1 Tryz.underlying27 Tryz.sizeOf24 ?_;refine oL Tryz.isAgg24 ?_;refine oV ?_;refine o_elem trivial rfl Tryz.underlying24 Tryz.sizeOf46 rfl (hsl) rfl (by omega) ?_;refine oF 0 Tryz.underlying46 Tryz.sizeOf9 ?_;refine o_load1I trivial rfl Tryz.isAgg9 rfl (lts_at hsl hc 0 _ rfl) ?_;refine oP trivial rfl Tryz.call50 rfl (refName_all _) ?_;refine oV ?_;refine nU ?_;iterate 2 refine oV ?_
   refine' o_or trivial trivial rfl rfl rfl rfl rfl rfl rfl rfl (fun hb73 => ?_) ?_;rotate_left
   ·
    iterate 3 refine gV hb73 ?_
    refine oN ?_;exact joins rfl
   refine' o_or trivial trivial rfl rfl rfl rfl rfl rfl rfl rfl (fun hb78 => ?_) ?_;rotate_left
   ·
    have fb78 := hb78
    try simp only [bl] at fb78
    refine gV hb78 ?_;refine gF hb78 3 Tryz.underlying27 Tryz.sizeOf25 ?_;refine gL hb78 Tryz.isAgg25 ?_;refine o_lenSlc (wS rfl rfl hb78) rfl Tryz.underlying25 rfl (hsa) ?_;refine gV hb78 ?_;refine oN ?_;exact joins rfl
   refine nT ?_;refine cC rfl (fun h5 => ?_) (fun h5 => ?_)
   ·
    have f5 := h5;try simp only [bl] at f5
    refine sR ?_;refine oV ?_;refine oN (tC (cT (tR (blk_r (tR (tR (blk_r (tR ?_))))))));refine ret1 rfl rfl ?_;refine leaf0 ⟨_, rfl, fun hw => ?_⟩
    rw [if_neg (by rintro ⟨g1, g2, g3, g4⟩; simp [g1] at h5; omega)] at hgo
    unfold rightZ
    rw [hgo]
    simp
   have f5 := h5;try simp only [bl] at f5
   refine cK (tC (cS (sR ?_)));refine oF 3 Tryz.underlying27 Tryz.sizeOf25 ?_;refine oL Tryz.isAgg25 ?_;iterate 2 refine oV ?_
   refine oQ Tryz.call51 rfl (rrBegin_any va ns fr hsa hp.ok hkm (by omega) (by omega) p.all.length c.root (by omega) (by omega) (by omega)) ?_;iterate 2 refine oV ?_
   refine nT ?_;refine cC rfl (fun h6 => ?_) (fun h6 => ?_)
   ·
    have f6 := h6;try simp only [bl] at f6
    refine sR ?_;refine oV ?_;refine oN (tC (cT (tR (blk_r (tR (tR (blk_r (tR ?_))))))));refine ret1 rfl rfl ?_;refine leaf0 ⟨_, rfl, fun hw => ?_⟩
    rw [if_neg (by rintro ⟨g1, g2, g3, g4⟩; rw [hp.eq] at f6; exact f6 g4)] at hgo
    unfold rightZ
    rw [hgo]
    simp
   have f6 := h6;try simp only [bl] at f6
   refine cK (tC (cR ?_));refine oV ?_
   first | (refine o_add trivial rfl rfl rfl ?_ ?_; (omega)) | refine oV ?_
   refine oV ?_;refine oN (blk_n (tC (cR ?_)));refine oV ?_
   first | (refine o_add trivial rfl rfl rfl ?_ ?_; (omega)) | refine oV ?_
   refine oV ?_;refine oN ?_
   exact again (j + 1, c.root + 1) (sC rfl (sC rfl (sC rfl sN))) (fun _ h => h) (by show p.lets.length - (j + 1) < p.lets.length - j; omega) ⟨by show j + 1 ≤ p.lets.length; omega, by show 0 ≤ c.root + 1; omega, by show c.root + 1 ≤ ns.length; omega, by
     rw [if_pos ⟨by simp at h5; exact h5.1.1, by omega, by omega, by rw [hp.eq] at f6; exact f6⟩] at hgo
     exact hgo⟩
  have f4 := h4;try simp only [bl] at f4
  have hjn : j = p.lets.length := by omega
  rw [hjn, List.drop_length, bgGo_nil] at hgo
  refine c_exit (then_x (then_x (blk_eq rfl (tC (cS (sR ?_))))));refine oV ?_;refine oF 3 Tryz.underlying27 Tryz.sizeOf25 ?_;refine oL Tryz.isAgg25 ?_;refine o_lenSlc trivial rfl Tryz.underlying25 rfl (hsa) ?_;refine oV ?_;refine nT ?_;refine cC rfl (fun h7 => ?_) (fun h7 => ?_)
  ·
   have f7 := h7;try simp only [bl] at f7
   refine sR ?_;refine oV ?_;refine nF ?_;refine ret1 rfl rfl ?_;refine leaf0 ⟨_, rfl, fun hw => ?_⟩
   have : (bgGo p.all p.lets 0 == some (p.all.length : Int)) = false := by rw [hgo, beq_eq_false_iff_ne]; intro h; have := Option.some.inj h; omega
   unfold rightZ
   rw [this]
   simp
  have f7 := h7;try simp only [bl] at f7
  have hgo1 : bgGo p.all p.lets 0 = some (p.all.length : Int) := by rw [hgo]; congr 1; omega
  have hlow := low_bl hkn hgo1
  refine kS ?_;refine oA Tryz.isAgg27 Tryz.sizeOf27 ?_;refine oQ Tryz.call45 rfl (rrLong_any vi vl vo va p ns hp hlow (by omega)) ?_;refine oV ?_;refine nS ?_;iterate 3 refine oV ?_
  refine nE ?_;refine ret1 rfl rfl ?_;refine leaf0 ⟨_, rfl, fun hw => ?_⟩
  unfold rightZ
  rw [hall1 hw, hgo1, hsz.1.1, hsz.2.1.1]
  rw [decide_eq_true hsz.1.2.1, decide_eq_true hsz.1.2.2, decide_eq_true hsz.2.1.2.1, decide_eq_true hsz.2.1.2.2, decide_eq_true hsz.2.2.1, decide_eq_true hsz.2.2.2]
  simp
theorem rrRight_any (vi vl vo va : Value) (p : ProgC) (ns : List NodeV) {I : Hp} (hp : ProgV I vi vl vo va p ns) (hf : ∀ o ∈ ns, o.c.few 3000) :
    Fun Tryz.prog 19 [.agg #[vi, vl, vo, va]] I [] (fun v _ _ => v = .bool (rightZ p)) :=
  fun_mono (rrRightAll_any vi vl vo va p ns hp (fun o ho => ⟨Nat.le_trans (hf o ho).1 (by decide), Nat.le_trans (hf o ho).2 (by decide)⟩)) fun v I' B' ⟨b, hv, hb⟩ => by rw [hv, hb hf]
theorem few_of {p : ProgC} {ns : List NodeV} {k : Int} (h : fewP p k = true) (he : ns.map NodeV.c = p.all) : (p.all.length : Int) ≤ k ∧ p.ins.length ≤ 8 ∧ p.lets.length ≤ 8 ∧ p.outs.length ≤ 8 ∧ (∀ o ∈ ns, o.c.few 6) ∧ ∀ o ∈ ns, o.c.name.size ≤ 60 := by
  unfold fewP at h
  rw [Bool.and_eq_true, decide_eq_true_eq, List.all_eq_true] at h
  obtain ⟨⟨h1, h2, h3, h4⟩, h5⟩ := h
  refine ⟨h1, h2, h3, h4, fun o ho => ?_, fun o ho => ?_⟩
  · have := h5 o.c (by rw [← he]; exact List.mem_map_of_mem ho)
    rw [decide_eq_true_eq] at this
    exact ⟨this.1, this.2.1⟩
  · have := h5 o.c (by rw [← he]; exact List.mem_map_of_mem ho)
    rw [decide_eq_true_eq] at this
    exact this.2.2
theorem few_up {c : NodeC} {k m : Nat} (h : c.few k) (hk : k ≤ m) : c.few m := ⟨Nat.le_trans h.1 hk, Nat.le_trans h.2 hk⟩
def hasK (s : ByteArray) (K : KN) : Bool := (getK s K).isSome
def insZ : List ByteArray → Nat → KN → ByteArray × Int × KN
  | [], _, K => (⟨#[]⟩, 0, K)
  | s :: l, i, K => if hasK s K = true then (s, 7, K) else insZ l (i + 1) (K ++ [(s, ⟨false, (i : Nat)⟩)])
def nodesZ (K : KN) : List NodeC → List ByteArray → Option ByteArray × List ByteArray
  | [], L => (none, L)
  | c :: r, L => if c.kind ≠ 0 then nodesZ K r L else if hasK c.name K = true then nodesZ K r (L ++ [c.name]) else (some c.name, L)
def segZ (all : List NodeC) (fr hi : Int) : List NodeC := (all.take hi.toNat).drop fr.toNat
def letsZ (all : List NodeC) : List LetC → Nat → Int → KN → List ByteArray → ByteArray × Int × KN × List ByteArray
  | [], _, _, K, L => (⟨#[]⟩, 0, K, L)
  | l :: ls, i, fr, K, L => match nodesZ K (segZ all fr (l.root + 1)) L with
    | (some n, L') => (n, 6, K, L')
    | (none, L') => if hasK l.name K = true then (l.name, 7, K, L') else letsZ all ls (i + 1) (l.root + 1) (K ++ [(l.name, ⟨true, (i : Nat)⟩)]) L'
def ousZ (K : KN) : List ByteArray → List ByteArray → ByteArray × Int × List ByteArray
  | [], L => (⟨#[]⟩, 0, L)
  | s :: r, L => if hasK s K = true then ousZ K r (L ++ [s]) else (s, 6, L)
structure SR where
  name : ByteArray
  err : Int
  K : KN
  L : List ByteArray
def readZ (p : ProgC) : SR :=
  if (tZ p).isSome = true then
    if (insZ p.ins 0 []).2.1 ≠ 0 then ⟨(insZ p.ins 0 []).1, (insZ p.ins 0 []).2.1, (insZ p.ins 0 []).2.2, []⟩
    else if (letsZ p.all p.lets 0 0 (insZ p.ins 0 []).2.2 []).2.1 ≠ 0 then ⟨(letsZ p.all p.lets 0 0 (insZ p.ins 0 []).2.2 []).1, (letsZ p.all p.lets 0 0 (insZ p.ins 0 []).2.2 []).2.1, (letsZ p.all p.lets 0 0 (insZ p.ins 0 []).2.2 []).2.2.1, (letsZ p.all p.lets 0 0 (insZ p.ins 0 []).2.2 []).2.2.2⟩
    else ⟨(ousZ (letsZ p.all p.lets 0 0 (insZ p.ins 0 []).2.2 []).2.2.1 p.outs (letsZ p.all p.lets 0 0 (insZ p.ins 0 []).2.2 []).2.2.2).1, (ousZ (letsZ p.all p.lets 0 0 (insZ p.ins 0 []).2.2 []).2.2.1 p.outs (letsZ p.all p.lets 0 0 (insZ p.ins 0 []).2.2 []).2.2.2).2.1, (letsZ p.all p.lets 0 0 (insZ p.ins 0 []).2.2 []).2.2.1, (ousZ (letsZ p.all p.lets 0 0 (insZ p.ins 0 []).2.2 []).2.2.1 p.outs (letsZ p.all p.lets 0 0 (insZ p.ins 0 []).2.2 []).2.2.2).2.2⟩
  else ⟨⟨#[]⟩, 1, [], []⟩
def tbI (b bk bu : Nat) : Tw.Item := .box b (.cells [.map (some bk), .map (some bu)].toArray 94 (0, 0))
def knI (bk : Nat) (K : KN) : Tw.Item := .box bk (knO K)
def usI (bu : Nat) (L : List ByteArray) : Tw.Item := .box bu (usO L)
def putN (s : ByteArray) (p : PL) (K : KN) : KN := if hasK s K = true then K else K ++ [(s, p)]
theorem add_any (b bk bu : Nat) (K : KN) (s : ByteArray) (p : PL) {I : Hp} : Fun Tryz.prog 121 [.pointer (some ⟨b, 0, none⟩), .string s, .agg #[.bool p.l, .int .i64 p.i]] I [tbI b bk bu, knI bk K]
    (fun v I' B' => I = I' ∧ v = .int .i64 (if hasK s K = true then 7 else 0) ∧ B' = [tbI b bk bu, knI bk (putN s p K)]) := by
  unfold tbI knI
  intro w hw
  refine enter3 _ Tryz.func121 rfl Tryz.ntmps121 rfl ?_ hw;refine sR ?_;refine o_box trivial rfl rfl rfl (fun b5 => ?_);refine oV ?_;refine nU ?_;iterate 2 refine oV ?_
  refine oF 0 Tryz.underlying94 Tryz.sizeOf91 ?_;refine oL Tryz.isAgg91 ?_;refine oV ?_;refine o_lookK trivial rfl Tryz.underlying91 Tryz.underlying9 Tryz.zeroValue89 rfl rfl (by repeat constructor) ?_;iterate 3 refine oV ?_
  refine o_alloc trivial rfl Tryz.zeroValue89 rfl (fun b7 => ?_);refine oS Tryz.sizeOf89 ?_;refine oV ?_;refine nS ?_;refine oV ?_;refine nT ?_;refine cC rfl (fun h1 => ?_) (fun h1 => ?_)
  ·
   have f1 := h1;try simp only [bl] at f1
   have hh : hasK s K = true := h1
   refine sR ?_;refine oV ?_;refine nF ?_;refine ret1 rfl rfl ?_;exact fun w' hw' => ⟨I, [tbI b bk bu, knI bk K], hw'.sort (by repeat constructor), Ext.refl _ _, rfl, by rw [if_pos hh], by unfold putN; rw [if_pos hh]; rfl⟩
  have f1 := h1;try simp only [bl] at f1
  have hh : hasK s K = false := h1
  refine cK (tC (cS ?_));refine h_beginB (m := 7) [.box b5 _] (by repeat constructor) (by kernel_rfl) rfl ?_;refine qT (i := 0) (qB 7 1) (Hp.Le.refl _) rfl rfl (oV qF) ?_;refine qT (i := 1) (qB 7 3) (Hp.Le.refl _) rfl rfl (oV qF) ?_;refine qT (i := 2) (qB 7 7) (Hp.Le.refl _) rfl rfl (oF 0 Tryz.underlying94 Tryz.sizeOf91 qF) ?_;refine qT (i := 4) (qB 7 23) (Hp.Le.refl _) rfl rfl (oV qF) ?_;refine qT (i := 5) (qB 7 55) (Hp.Le.refl _) rfl rfl (oA Tryz.isAgg89 Tryz.sizeOf89 qF) ?_;refine qO (i := 3) (qB 7 63) rfl ?_;refine oL Tryz.isAgg91 ?_;refine qM (Hp.Le.refl _) ?_;refine qO (i := 6) (qB 7 127) rfl ?_;refine o_putK (hh) trivial Tryz.underlying91 Tryz.underlying9 rfl rfl rfl (by repeat constructor) ?_;refine qM (Hp.Le.refl _) ?_;refine h_end (by kernel_rfl) ?_;refine tC (sR ?_);refine oV ?_;refine nE ?_;refine ret1 rfl rfl ?_;exact fun w' hw' => ⟨I, [tbI b bk bu, knI bk (K ++ [(s, p)])], hw'.sort (by repeat constructor), Ext.refl _ _, rfl, by rw [hh]; rfl, by unfold putN; rw [hh]; rfl⟩
def useL (s : ByteArray) (K : KN) (L : List ByteArray) : List ByteArray := if hasK s K = true then L ++ [s] else L
theorem use_any (b bk bu : Nat) (K : KN) (L : List ByteArray) (s : ByteArray) {I : Hp} (hL : L.length ≤ 1000000) : Fun Tryz.prog 90 [.pointer (some ⟨b, 0, none⟩), .string s] I [tbI b bk bu, knI bk K, usI bu L]
    (fun v I' B' => I = I' ∧ v = .int .i64 (if hasK s K = true then 0 else 6) ∧ B' = [tbI b bk bu, knI bk K, usI bu (useL s K L)]) := by
  have hcl := cnt_le s L
  unfold tbI knI usI
  intro w hw
  refine enter2 _ Tryz.func90 rfl Tryz.ntmps90 rfl ?_ hw;refine sR ?_;refine oV ?_;refine nU ?_;iterate 2 refine oV ?_
  refine oF 0 Tryz.underlying94 Tryz.sizeOf91 ?_;refine oL Tryz.isAgg91 ?_;refine oV ?_;refine o_lookK trivial rfl Tryz.underlying91 Tryz.underlying9 Tryz.zeroValue89 rfl rfl (by repeat constructor) ?_;iterate 3 refine oV ?_
  refine o_alloc trivial rfl Tryz.zeroValue89 rfl (fun b5 => ?_);refine oS Tryz.sizeOf89 ?_;refine oV ?_;refine nS ?_;iterate 2 refine oV ?_
  refine nT ?_;refine cC rfl (fun h1 => ?_) (fun h1 => ?_)
  ·
   have f1 := h1;try simp only [bl] at f1
   have hh : hasK s K = false := by
     unfold hasK
     cases e : (getK s K).isSome with
     | false => rfl
     | true => rw [e] at h1; cases h1
   refine sR ?_;refine oV ?_;refine nF ?_;refine ret1 rfl rfl ?_;exact fun w' hw' => ⟨I, [tbI b bk bu, knI bk K, usI bu L], hw'.sort (by repeat constructor), Ext.refl _ _, rfl, by rw [hh]; rfl, by unfold useL; rw [hh]; rfl⟩
  have f1 := h1;try simp only [bl] at f1
  have hh : hasK s K = true := by
    unfold hasK
    cases e : (getK s K).isSome with
    | true => rfl
    | false => rw [e] at h1; cases h1
  refine kS ?_;iterate 2 refine oV ?_
  refine oF 1 Tryz.underlying94 Tryz.sizeOf92 ?_;refine oL Tryz.isAgg92 ?_;refine oV ?_;refine o_lookU trivial rfl Tryz.underlying92 Tryz.underlying9 Tryz.zeroValue3 rfl rfl (by repeat constructor) ?_
  first | (refine o_add trivial rfl rfl rfl ?_ ?_; (omega)) | refine oV ?_
  refine o_putU trivial Tryz.underlying92 Tryz.underlying9 rfl rfl rfl (by repeat constructor) ?_;refine nS ?_;refine oV ?_;refine nE ?_;refine ret1 rfl rfl ?_;exact fun w' hw' => ⟨I, [tbI b bk bu, knI bk K, usI bu (L ++ [s])], hw'.sort (by repeat constructor), Ext.refl _ _, rfl, by rw [if_pos hh], by unfold useL; rw [if_pos hh]; rfl⟩
theorem insZ_step {l : List ByteArray} {i : Nat} {s : ByteArray} (h : l[i]? = some s) (K : KN) : insZ (l.drop i) i K = if hasK s K = true then (s, 7, K) else insZ (l.drop (i + 1)) (i + 1) (K ++ [(s, ⟨false, (i : Nat)⟩)]) := by
  obtain ⟨h1, h2⟩ := List.getElem?_eq_some_iff.1 h
  rw [List.drop_eq_getElem_cons h1, h2]
  rfl
theorem ins_any (b bk bu : Nat) (K : KN) (v : Value) (l : List ByteArray) {I : Hp} (h : Slc I 1 v (scs l)) : Fun Tryz.prog 88 [.pointer (some ⟨b, 0, none⟩), v] I [tbI b bk bu, knI bk K]
    (fun v I' B' => I = I' ∧ v = .tuple #[.string (insZ l 0 K).1, .int .i64 (insZ l 0 K).2.1] ∧ B' = [tbI b bk bu, knI bk (insZ l 0 K).2.2]) := by
  have hl := scs_len l
  have hmx := h.most
  rw [hl] at hmx
  unfold maxLen at hmx
  intro w hw
  refine enter2 _ Tryz.func88 rfl Tryz.ntmps88 rfl ?_ hw;refine sR ?_;iterate 2 refine oV ?_
  refine nU ?_;refine oV ?_;refine o_lenSlc trivial rfl Tryz.underlying23 rfl (h) ?_;refine oV ?_;refine oN (tC (cB ?_));refine c_loop (ι := Nat × KN) [0, 9, 10] (.cons rfl (.cons rfl (.cons rfl .nil))) (fun x => l.length - x.1) (fun x E0 => (11, .int .i64 (x.1 : Nat)) :: E0) (fun x => St w (keysOf [tbI b bk bu, knI bk K]) I [tbI b bk bu, knI bk x.2]) (fun x => x.1 ≤ l.length ∧ insZ l 0 K = insZ (l.drop x.1) x.1 x.2) ((0, K)) (sC rfl (sC rfl (sC rfl (sC rfl sN)))) (fun _ h => h) (⟨Nat.zero_le _, rfl⟩) ?_;rintro ⟨i, K1⟩ ⟨hi, hF⟩
  try dsimp only
  simp only at hi hF
  refine sR ?_;refine oV ?_;refine oN (tC (cS ?_));refine cC rfl (fun h1 => ?_) (fun h1 => ?_)
  ·
   have f1 := h1;try simp only [bl] at f1
   obtain ⟨s, hs⟩ : ∃ s, l[i]? = some s := ⟨l[i]'(by omega), List.getElem?_eq_getElem (by omega)⟩
   rw [insZ_step hs] at hF
   refine cK (tC (cS (cB (sR ?_))));refine oV ?_;refine o_elem trivial rfl Tryz.underlying23 Tryz.sizeOf9 rfl (h) rfl (by omega) ?_;refine o_load1I trivial rfl Tryz.isAgg9 rfl (scs_at h hs) ?_;iterate 2 refine oV ?_
   refine nS ?_;iterate 3 refine oV ?_
   refine o_buildS trivial rfl (bld89) rfl (.cons rfl rfl rfl (by repeat constructor) .nil) ?_;refine oC trivial rfl Tryz.call121 rfl (add_any b bk bu K1 s ⟨false, (i : Nat)⟩) (by repeat constructor) ?_;rintro _ _ _ hxa ⟨rfl, rfl, rfl⟩;refine oV ?_;refine nS ?_;iterate 2 refine oV ?_
   refine nT ?_;refine cC rfl (fun h2 => ?_) (fun h2 => ?_)
   ·
    have f2 := h2;try simp only [bl] at f2
    have hh : hasK s K1 = true := by
      cases e : hasK s K1 with
      | true => rfl
      | false => rw [e] at h2; simp at h2
    rw [if_pos hh] at hF
    refine sR ?_;iterate 4 refine oV ?_
    refine oN (tC (cT (blk_r (tR (tR (blk_r (tR ?_)))))));refine ret2 rfl rfl rfl ?_;exact fun w' hw' => ⟨I, [tbI b bk bu, knI bk K1], (by unfold putN at hw'; rw [if_pos hh] at hw'; exact hw'.sort (by repeat constructor)), Ext.refl _ _, rfl, by rw [hF, if_pos hh], by rw [hF]⟩
   have f2 := h2;try simp only [bl] at f2
   have hh : hasK s K1 = false := by
     cases e : hasK s K1 with
     | false => rfl
     | true => rw [e] at h2; simp at h2
   rw [hh, if_neg (by decide)] at hF
   refine cK (blk_n (tC (cR ?_)))
   first | (refine o_add trivial rfl rfl rfl ?_ ?_; (omega)) | refine oV ?_
   refine oV ?_;refine oN ?_;exact again (i + 1, K1 ++ [(s, ⟨false, (i : Nat)⟩)]) (sC rfl (sC rfl (sC rfl (sC rfl sN)))) (fun _ h => by unfold putN at h; rw [hh] at h; exact h.sort (by repeat constructor)) (by show l.length - (i + 1) < l.length - i; omega) ⟨by show i + 1 ≤ _; omega, hF⟩
  have f1 := h1;try simp only [bl] at f1
  have hin : l.drop i = [] := List.drop_of_length_le (by omega)
  rw [hin] at hF
  refine c_exit (then_x (then_x (blk_eq rfl (tC (sR ?_)))));iterate 2 refine oV ?_
  refine nE ?_;refine ret2 rfl rfl rfl ?_;exact fun w' hw' => ⟨I, [tbI b bk bu, knI bk K1], hw'.sort (by repeat constructor), Ext.refl _ _, rfl, by rw [hF]; rfl, by rw [hF]; rfl⟩
theorem nodesZ_step {seg : List NodeV} {j : Nat} {o : NodeV} (h : seg[j]? = some o) (K : KN) (L : List ByteArray) : nodesZ K ((seg.drop j).map NodeV.c) L = if o.c.kind ≠ 0 then nodesZ K ((seg.drop (j + 1)).map NodeV.c) L else if hasK o.c.name K = true then nodesZ K ((seg.drop (j + 1)).map NodeV.c) (L ++ [o.c.name]) else (some o.c.name, L) := by
  obtain ⟨h1, h2⟩ := List.getElem?_eq_some_iff.1 h
  rw [List.drop_eq_getElem_cons h1, h2]
  rfl
theorem letsZ_step {ls : List LetC} {i : Nat} {c : LetC} (h : ls[i]? = some c) (all : List NodeC) (fr : Int) (K : KN) (L : List ByteArray) : letsZ all (ls.drop i) i fr K L = match nodesZ K (segZ all fr (c.root + 1)) L with
    | (some n, L') => (n, 6, K, L')
    | (none, L') => if hasK c.name K = true then (c.name, 7, K, L') else letsZ all (ls.drop (i + 1)) (i + 1) (c.root + 1) (K ++ [(c.name, ⟨true, (i : Nat)⟩)]) L' := by
  obtain ⟨h1, h2⟩ := List.getElem?_eq_some_iff.1 h
  rw [List.drop_eq_getElem_cons h1, h2]
  rfl
theorem lets_any (b bk bu : Nat) (K : KN) (L : List ByteArray) (vi vl vo va : Value) (p : ProgC) (ns : List NodeV) {I : Hp} (hp : ProgV I vi vl vo va p ns) (hgo : bgGo p.all p.lets 0 = some (p.all.length : Int)) (hn : p.all.length ≤ 1000) (hL : L.length ≤ 1000) :
    Fun Tryz.prog 89 [.pointer (some ⟨b, 0, none⟩), .agg #[vi, vl, vo, va]] I [tbI b bk bu, knI bk K, usI bu L]
    (fun v I' B' => I = I' ∧ v = .tuple #[.string (letsZ p.all p.lets 0 0 K L).1, .int .i64 (letsZ p.all p.lets 0 0 K L).2.1] ∧ B' = [tbI b bk bu, knI bk (letsZ p.all p.lets 0 0 K L).2.2.1, usI bu (letsZ p.all p.lets 0 0 K L).2.2.2]) := by
  have hsi := hp.si
  have hsl := hp.sl
  have hso := hp.so
  have hsa := hp.sa
  have hll : (p.lets.map LetC.cells).length = p.lets.length := List.length_map _
  have hla := nds_len ns
  have hal : p.all.length = ns.length := by rw [← hp.eq, List.length_map]
  have hmx := hsl.most
  rw [hll] at hmx
  unfold maxLen at hmx
  intro w hw
  refine enter2 _ Tryz.func89 rfl Tryz.ntmps89 rfl ?_ hw;refine sR ?_;refine o_box trivial rfl rfl rfl (fun b3 => ?_);iterate 2 refine oV ?_
  refine nS ?_;refine oV ?_;refine nU ?_;refine oF 1 Tryz.underlying27 Tryz.sizeOf24 ?_;refine oL Tryz.isAgg24 ?_;refine o_lenSlc trivial rfl Tryz.underlying24 rfl (hsl) ?_;refine oV ?_;refine oN (tC (cB ?_));refine c_loop (ι := Nat × Int × KN × List ByteArray) [0, 3, 14, 15] (.cons rfl (.cons rfl (.cons rfl (.cons rfl .nil)))) (fun x => p.lets.length - x.1) (fun x E0 => (6, .int .i64 x.2.1) :: (16, .int .i64 (x.1 : Nat)) :: E0) (fun x => St w (keysOf [tbI b bk bu, knI bk K, usI bu L]) I [tbI b bk bu, knI bk x.2.2.1, usI bu x.2.2.2, .box b3 (.cells #[vi, vl, vo, va] 27 (0, 0))]) (fun x => x.1 ≤ p.lets.length ∧ 0 ≤ x.2.1 ∧ x.2.1 ≤ ns.length ∧ bgGo p.all (p.lets.drop x.1) x.2.1 = some (p.all.length : Int) ∧ letsZ p.all p.lets 0 0 K L = letsZ p.all (p.lets.drop x.1) x.1 x.2.1 x.2.2.1 x.2.2.2 ∧ (x.2.2.2.length : Int) ≤ 1000 + x.2.1) ((0, 0, K, L)) (sC rfl (sC rfl (sC rfl (sC rfl (sC rfl (sC rfl sN)))))) (fun _ h => h.sort (by repeat constructor)) (⟨Nat.zero_le _, Int.le_refl _, by show (0 : Int) ≤ ns.length; omega, hgo, rfl, by show (L.length : Int) ≤ 1000 + 0; omega⟩) ?_;rintro ⟨i, fr, K1, L1⟩ ⟨hi, hfr0, hfr1, hg, hF, hL1⟩
  try dsimp only
  simp only at hi hfr0 hfr1 hg hF hL1
  refine sR ?_;refine oV ?_;refine oN (tC (cS ?_));refine cC rfl (fun h1 => ?_) (fun h1 => ?_)
  ·
   have f1 := h1;try simp only [bl] at f1
   obtain ⟨c, hc⟩ : ∃ c, p.lets[i]? = some c := ⟨p.lets[i]'(by omega), List.getElem?_eq_getElem (by omega)⟩
   have hdr : p.lets.drop i = c :: p.lets.drop (i + 1) := by rw [List.drop_eq_getElem_cons (List.getElem?_eq_some_iff.1 hc).1, (List.getElem?_eq_some_iff.1 hc).2]
   rw [letsZ_step hc] at hF
   rw [hdr, bgGo_cons] at hg
   by_cases hcd : nameZ c.name = true ∧ fr ≤ c.root ∧ c.root < p.all.length ∧ begZ p.all fr p.all.length c.root = fr
   case' neg => rw [if_neg hcd] at hg; cases hg
   rw [if_pos hcd] at hg
   obtain ⟨_, c2, c3, _⟩ := hcd
   obtain ⟨seg, hseg⟩ : ∃ seg, seg = (ns.take (c.root + 1).toNat).drop fr.toNat := ⟨_, rfl⟩
   have hsegl : (seg.length : Int) = c.root + 1 - fr := by rw [hseg, List.length_drop, List.length_take]; omega
   have hcut : Slc I 8 (slcCut va fr.toNat (c.root + 1).toNat 8) (nds seg) := by
     have h9 := hsa.cut (lo := fr.toNat) (hi := (c.root + 1).toNat) (by omega) (by omega)
     have e9 : nds seg = ((nds ns).take (c.root + 1).toNat).drop fr.toNat := by rw [hseg]; unfold nds; rw [List.map_drop, List.map_take]
     rw [e9]; exact h9
   have hsc : segZ p.all fr (c.root + 1) = seg.map NodeV.c := by rw [hseg, ← hp.eq]; unfold segZ; rw [List.map_drop, List.map_take]
   have hsok : ∀ o ∈ seg, o.ok I := fun o ho => hp.ok o (by rw [hseg] at ho; exact List.mem_of_mem_take (List.mem_of_mem_drop ho))
   rw [hsc] at hF
   have hnl := nds_len seg
   refine cK (tC (cS (cB (sR ?_))));refine oV ?_;refine o_elem trivial rfl Tryz.underlying24 Tryz.sizeOf46 rfl (hsl) rfl (by omega) ?_;refine o_loadAI trivial rfl Tryz.isAgg46 Tryz.sizeOf46 rfl rfl (lts_at hsl hc) ?_;refine o_alloc trivial rfl Tryz.zeroValue46 rfl (fun b8 => ?_);refine oV ?_;refine oS Tryz.sizeOf46 ?_;refine nU ?_;refine oF 3 Tryz.underlying27 Tryz.sizeOf25 ?_;refine oL Tryz.isAgg25 ?_;refine oV ?_;refine oF 1 Tryz.underlying46 Tryz.sizeOf3 ?_;refine oL Tryz.isAgg3 ?_
   first | (refine o_add trivial rfl rfl rfl ?_ ?_; (omega)) | refine oV ?_
   refine o_cutMid trivial rfl Tryz.underlying25 Tryz.sizeOf44 rfl (hsa) rfl rfl (by omega) ?_;refine o_lenSlc trivial rfl Tryz.underlying25 rfl (hcut) ?_;refine oV ?_;refine oN (tC (cB ?_));refine c_loop (ι := Nat × List ByteArray) [0, 3, 7, 8, 14, 15, 16, 27, 28] (.cons rfl (.cons rfl (.cons rfl (.cons rfl (.cons rfl (.cons rfl (.cons rfl (.cons rfl (.cons rfl .nil))))))))) (fun x => seg.length - x.1) (fun x E0 => (29, .int .i64 (x.1 : Nat)) :: E0) (fun x => St w (keysOf [tbI b bk bu, knI bk K, usI bu L]) I [tbI b bk bu, knI bk K1, usI bu x.2, .box b8 (.cells #[.string c.name, .int .i64 c.root] 46 (0, 0)), .box b3 (.cells #[vi, vl, vo, va] 27 (0, 0))]) (fun x => x.1 ≤ seg.length ∧ nodesZ K1 (seg.map NodeV.c) L1 = nodesZ K1 ((seg.drop x.1).map NodeV.c) x.2 ∧ x.2.length ≤ L1.length + x.1) ((0, L1)) (sC rfl (sC rfl (sC rfl (sC rfl (sC rfl (sC rfl (sC rfl (sC rfl (sC rfl (sC rfl sN)))))))))) (fun _ h => h.sort (by repeat constructor)) (⟨Nat.zero_le _, rfl, Nat.le_refl _⟩) ?_;rintro ⟨j, L2⟩ ⟨hj, hF2, hL2⟩
   try dsimp only
   simp only at hj hF2 hL2
   refine sR ?_;refine oV ?_;refine oN (tC (cS ?_));refine cC rfl (fun h2 => ?_) (fun h2 => ?_)
   ·
    have f2 := h2;try simp only [bl] at f2
    obtain ⟨o, ho⟩ : ∃ o, seg[j]? = some o := ⟨seg[j]'(by omega), List.getElem?_eq_getElem (by omega)⟩
    have hom := List.mem_of_getElem? ho
    have hw1 : Ws I o.vn o.c.n := (hsok o hom).1
    have hw2 : Ws I o.vd o.c.d := (hsok o hom).2
    rw [nodesZ_step ho] at hF2
    refine cK (tC (cS (cB (sR ?_))));refine o_elem trivial rfl Tryz.underlying25 Tryz.sizeOf44 rfl (hcut) rfl (by omega) ?_;refine o_loadAI trivial rfl Tryz.isAgg44 Tryz.sizeOf44 rfl rfl (nds_at hcut ho) ?_;refine o_alloc trivial rfl Tryz.zeroValue44 rfl (fun b10 => ?_);refine oS Tryz.sizeOf44 ?_;refine nU ?_;refine oF 0 Tryz.underlying44 Tryz.sizeOf3 ?_;refine oL Tryz.isAgg3 ?_;refine oV ?_;refine nT ?_;refine cC rfl (fun h3 => ?_) (fun h3 => ?_)
    ·
     have f3 := h3;try simp only [bl] at f3
     have hk0 : o.c.kind ≠ 0 := by simpa using h3
     rw [if_pos hk0] at hF2
     refine c_exit (then_x (blk_eq rfl (tC (cR ?_))))
     first | (refine o_add trivial rfl rfl rfl ?_ ?_; (omega)) | refine oV ?_
     refine oV ?_;refine oN ?_
     first | exact again (j + 1, L2) (sC rfl (sC rfl (sC rfl (sC rfl (sC rfl (sC rfl (sC rfl (sC rfl (sC rfl (sC rfl sN)))))))))) (fun _ h => h.sort (by repeat constructor)) (by show seg.length - (j + 1) < seg.length - j; omega) ⟨by show j + 1 ≤ _; omega, hF2, by show L2.length ≤ L1.length + (j + 1); omega⟩ | exact again (j + 1, L2 ++ [o.c.name]) (sC rfl (sC rfl (sC rfl (sC rfl (sC rfl (sC rfl (sC rfl (sC rfl (sC rfl (sC rfl sN)))))))))) (fun _ h => by unfold useL at h; rw [if_pos hh] at h; exact h.sort (by repeat constructor)) (by show seg.length - (j + 1) < seg.length - j; omega) ⟨by show j + 1 ≤ _; omega, hF2, by show (L2 ++ [o.c.name]).length ≤ L1.length + (j + 1); rw [List.length_append]; show L2.length + 1 ≤ _; omega⟩
    have f3 := h3;try simp only [bl] at f3
    have hk0 : o.c.kind = 0 := by simpa using h3
    rw [if_neg (not_not_intro hk0)] at hF2
    refine kS ?_;refine oV ?_;refine oF 4 Tryz.underlying44 Tryz.sizeOf9 ?_;refine oL Tryz.isAgg9 ?_;refine oC trivial rfl Tryz.call90 rfl (use_any b bk bu K1 L2 o.c.name (by omega)) (by repeat constructor) ?_;rintro _ _ _ hxu ⟨rfl, rfl, rfl⟩;refine oV ?_;refine nS ?_;iterate 2 refine oV ?_
    refine nT ?_;refine cC rfl (fun h4 => ?_) (fun h4 => ?_)
    ·
     have f4 := h4;try simp only [bl] at f4
     have hh : hasK o.c.name K1 = false := by
       cases e : hasK o.c.name K1 with
       | false => rfl
       | true => rw [e] at h4; simp at h4
     rw [hh, if_neg (by decide)] at hF2
     rw [hF2] at hF
     refine sR ?_;refine oF 4 Tryz.underlying44 Tryz.sizeOf9 ?_;refine oL Tryz.isAgg9 ?_;iterate 3 refine oV ?_
     refine oN (tC (cT (blk_r (tR (tR (blk_r (tR (blk_r (tR (tR (blk_r (tR ?_))))))))))));refine ret2 rfl rfl rfl ?_;exact fun w' hw' => ⟨I, [tbI b bk bu, knI bk K1, usI bu L2], (by unfold useL at hw'; rw [hh, if_neg (by decide)] at hw'; exact hw'.sort (by repeat constructor)), Ext.refl _ _, rfl, by rw [hF, hh]; rfl, by rw [hF]⟩
    have f4 := h4;try simp only [bl] at f4
    have hh : hasK o.c.name K1 = true := by
      cases e : hasK o.c.name K1 with
      | true => rfl
      | false => rw [e] at h4; simp at h4
    rw [if_pos hh] at hF2
    refine cK (blk_n (tC (cR ?_)))
    first | (refine o_add trivial rfl rfl rfl ?_ ?_; (omega)) | refine oV ?_
    refine oV ?_;refine oN ?_
    first | exact again (j + 1, L2) (sC rfl (sC rfl (sC rfl (sC rfl (sC rfl (sC rfl (sC rfl (sC rfl (sC rfl (sC rfl sN)))))))))) (fun _ h => h.sort (by repeat constructor)) (by show seg.length - (j + 1) < seg.length - j; omega) ⟨by show j + 1 ≤ _; omega, hF2, by show L2.length ≤ L1.length + (j + 1); omega⟩ | exact again (j + 1, L2 ++ [o.c.name]) (sC rfl (sC rfl (sC rfl (sC rfl (sC rfl (sC rfl (sC rfl (sC rfl (sC rfl (sC rfl sN)))))))))) (fun _ h => by unfold useL at h; rw [if_pos hh] at h; exact h.sort (by repeat constructor)) (by show seg.length - (j + 1) < seg.length - j; omega) ⟨by show j + 1 ≤ _; omega, hF2, by show (L2 ++ [o.c.name]).length ≤ L1.length + (j + 1); rw [List.length_append]; show L2.length + 1 ≤ _; omega⟩
   have f2 := h2;try simp only [bl] at f2
   have hjn : seg.drop j = [] := List.drop_of_length_le (by omega)
   rw [hjn] at hF2
   have hF3 : nodesZ K1 (seg.map NodeV.c) L1 = (none, L2) := hF2
   rw [hF3] at hF
   dsimp only at hF
   refine c_exit (then_x (then_x (blk_eq rfl (tC (sR ?_)))));refine oF 1 Tryz.underlying46 Tryz.sizeOf3 ?_;refine oL Tryz.isAgg3 ?_
   first | (refine o_add trivial rfl rfl rfl ?_ ?_; (omega)) | refine oV ?_
   refine oV ?_;refine nS ?_;refine oV ?_;refine oF 0 Tryz.underlying46 Tryz.sizeOf9 ?_;refine oL Tryz.isAgg9 ?_;refine oV ?_;refine o_buildS trivial rfl (bld89) rfl (.cons rfl rfl rfl (by repeat constructor) (.cons rfl rfl rfl (by repeat constructor) .nil)) ?_;refine oC trivial rfl Tryz.call121 rfl (add_any b bk bu K1 c.name ⟨true, (i : Nat)⟩) (by repeat constructor) ?_;rintro _ _ _ hxa ⟨rfl, rfl, rfl⟩;refine oV ?_;refine nS ?_;iterate 2 refine oV ?_
   refine nT ?_;refine cC rfl (fun h5 => ?_) (fun h5 => ?_)
   ·
    have f5 := h5;try simp only [bl] at f5
    have hh : hasK c.name K1 = true := by
      cases e : hasK c.name K1 with
      | true => rfl
      | false => rw [e] at h5; simp at h5
    rw [if_pos hh] at hF
    refine sR ?_;refine oF 0 Tryz.underlying46 Tryz.sizeOf9 ?_;refine oL Tryz.isAgg9 ?_;iterate 3 refine oV ?_
    refine oN (tC (cT (blk_r (tR (tR (blk_r (tR ?_)))))));refine ret2 rfl rfl rfl ?_;exact fun w' hw' => ⟨I, [tbI b bk bu, knI bk K1, usI bu L2], (by unfold putN at hw'; rw [if_pos hh] at hw'; exact hw'.sort (by repeat constructor)), Ext.refl _ _, rfl, by rw [hF, if_pos hh], by rw [hF]⟩
   have f5 := h5;try simp only [bl] at f5
   have hh : hasK c.name K1 = false := by
     cases e : hasK c.name K1 with
     | false => rfl
     | true => rw [e] at h5; simp at h5
   rw [hh, if_neg (by decide)] at hF
   refine cK (blk_n (tC (cR ?_)))
   first | (refine o_add trivial rfl rfl rfl ?_ ?_; (omega)) | refine oV ?_
   refine oV ?_;refine oN ?_;exact again (i + 1, c.root + 1, K1 ++ [(c.name, ⟨true, (i : Nat)⟩)], L2) (sC rfl (sC rfl (sC rfl (sC rfl (sC rfl (sC rfl sN)))))) (fun _ h => by unfold putN at h; rw [hh, if_neg (by decide)] at h; exact h.sort (by repeat constructor)) (by show p.lets.length - (i + 1) < p.lets.length - i; omega) ⟨by show i + 1 ≤ _; omega, by show 0 ≤ c.root + 1; omega, by show c.root + 1 ≤ _; omega, hg, hF, by show (L2.length : Int) ≤ 1000 + (c.root + 1); omega⟩
  have f1 := h1;try simp only [bl] at f1
  have hin : p.lets.drop i = [] := List.drop_of_length_le (by omega)
  rw [hin] at hF
  refine c_exit (then_x (then_x (blk_eq rfl (tC (sR ?_)))));iterate 2 refine oV ?_
  refine nE ?_;refine ret2 rfl rfl rfl ?_;exact fun w' hw' => ⟨I, [tbI b bk bu, knI bk K1, usI bu L1], hw'.sort (by repeat constructor), Ext.refl _ _, rfl, by rw [hF]; rfl, by rw [hF]; rfl⟩
theorem right_bg {p : ProgC} {l : List (ByteArray × Ex)} (hr : RightP p l) : bgGo p.all p.lets 0 = some (p.all.length : Int) := by
  have hg := bgGo_ex p.all l 0 hr.ok (fun j c hj => by rw [hr.all, Nat.zero_add]; exact hj) (by rw [Nat.zero_add, ← hr.all]; exact Nat.le_refl _)
  rw [← hr.lets, ← hr.all, Nat.zero_add] at hg
  exact hg
theorem nodesZ_len (K : KN) : ∀ (r : List NodeC) (L : List ByteArray), (nodesZ K r L).2.length ≤ L.length + r.length
  | [], L => Nat.le_refl _
  | c :: r, L => by
    have h1 := nodesZ_len K r L
    have h2 := nodesZ_len K r (L ++ [c.name])
    rw [List.length_append] at h2
    have h3 : [c.name].length = 1 := rfl
    unfold nodesZ
    rw [List.length_cons]
    split
    · omega
    · split
      · omega
      · show L.length ≤ _; omega
theorem letsZ_len (all : List NodeC) : ∀ (ls : List LetC) (i : Nat) (fr : Int) (K : KN) (L : List ByteArray), (letsZ all ls i fr K L).2.2.2.length ≤ L.length + ls.length * all.length
  | [], i, fr, K, L => by show L.length ≤ _; omega
  | l :: ls, i, fr, K, L => by
    have h1 := nodesZ_len K (segZ all fr (l.root + 1)) L
    have h2 : (segZ all fr (l.root + 1)).length ≤ all.length := by unfold segZ; rw [List.length_drop, List.length_take]; omega
    unfold letsZ
    rw [List.length_cons, Nat.succ_mul]
    cases hn : nodesZ K (segZ all fr (l.root + 1)) L with
    | mk e L' =>
      rw [hn] at h1
      cases e with
      | some n => show L'.length ≤ _; dsimp only at h1; omega
      | none =>
        dsimp only at h1 ⊢
        split
        · show L'.length ≤ _; omega
        · have h3 := letsZ_len all ls (i + 1) (l.root + 1) (K ++ [(l.name, ⟨true, (i : Nat)⟩)]) L'
          omega
theorem ousZ_step {l : List ByteArray} {i : Nat} {s : ByteArray} (h : l[i]? = some s) (K : KN) (L : List ByteArray) : ousZ K (l.drop i) L = if hasK s K = true then ousZ K (l.drop (i + 1)) (L ++ [s]) else (s, 6, L) := by
  obtain ⟨h1, h2⟩ := List.getElem?_eq_some_iff.1 h
  rw [List.drop_eq_getElem_cons h1, h2]
  rfl
theorem readZ_not {p : ProgC} (h : (tZ p).isSome = false) : readZ p = ⟨⟨#[]⟩, 1, [], []⟩ := by unfold readZ; rw [h]; rfl
theorem readZ_ins {p : ProgC} {n : ByteArray} {e : Int} {K : KN} (h : (tZ p).isSome = true) (hi : insZ p.ins 0 [] = (n, e, K)) (he : e ≠ 0) : readZ p = ⟨n, e, K, []⟩ := by unfold readZ; rw [if_pos h, hi, if_pos he]
theorem readZ_lets {p : ProgC} {n m : ByteArray} {e : Int} {K K2 : KN} {L : List ByteArray} (h : (tZ p).isSome = true) (hi : insZ p.ins 0 [] = (n, 0, K)) (hl : letsZ p.all p.lets 0 0 K [] = (m, e, K2, L)) (he : e ≠ 0) : readZ p = ⟨m, e, K2, L⟩ := by
  unfold readZ
  rw [if_pos h, hi, if_neg (by simp), hl, if_pos he]
theorem readZ_outs {p : ProgC} {n m : ByteArray} {K K2 : KN} {L : List ByteArray} (h : (tZ p).isSome = true) (hi : insZ p.ins 0 [] = (n, 0, K)) (hl : letsZ p.all p.lets 0 0 K [] = (m, 0, K2, L)) : readZ p = ⟨(ousZ K2 p.outs L).1, (ousZ K2 p.outs L).2.1, K2, (ousZ K2 p.outs L).2.2⟩ := by
  unfold readZ
  rw [if_pos h, hi, if_neg (by simp), hl, if_neg (by simp)]
theorem scRead_any (vi vl vo va : Value) (p : ProgC) (ns : List NodeV) {I : Hp} (hp : ProgV I vi vl vo va p ns) (hf : ∀ o ∈ ns, o.c.few 100000) :
    Fun Tryz.prog 57 [.agg #[vi, vl, vo, va]] I [] (fun v I' B' => I = I' ∧ ∃ b bk bu, v = .tuple #[.pointer (some ⟨b, 0, none⟩), .string (readZ p).name, .int .i64 (readZ p).err] ∧ B' = [tbI b bk bu, knI bk (readZ p).K, usI bu (readZ p).L]) := by
  have hsi := hp.si
  have hsl := hp.sl
  have hso := hp.so
  have hsa := hp.sa
  have hlo := scs_len p.outs
  intro w hw
  refine enter1 _ Tryz.func57 rfl Tryz.ntmps57 rfl ?_ hw;refine sR ?_;refine o_box trivial rfl rfl rfl (fun b1 => ?_);iterate 3 refine oV ?_
  refine nS ?_;refine o_makeMap trivial rfl (fun b13 => ?_);refine o_makeMap trivial rfl (fun b14 => ?_);refine o_buildS trivial rfl (bld94) rfl (.cons rfl rfl rfl (by repeat constructor) (.cons rfl rfl rfl (by repeat constructor) .nil)) ?_;refine o_box trivial rfl rfl rfl (fun b16 => ?_);refine oV ?_;refine nU ?_;refine oA Tryz.isAgg27 Tryz.sizeOf27 ?_;refine oQ Tryz.call21 rfl (trRight_any vi vl vo va p ns hp hf) ?_;refine oV ?_;refine nT ?_;refine cC rfl (fun h1 => ?_) (fun h1 => ?_)
  ·
   have f1 := h1;try simp only [bl] at f1
   have ht : (tZ p).isSome = false := by simpa using h1
   refine sR ?_;iterate 4 refine oV ?_
   refine nF ?_;refine ret3 rfl rfl rfl rfl ?_;exact fun w' hw' => ⟨I, [tbI b16 b13 b14, knI b13 [], usI b14 []], hw'.sort (by repeat constructor), Ext.refl _ _, rfl, b16, b13, b14, by rw [readZ_not ht], by rw [readZ_not ht]⟩
  have f1 := h1;try simp only [bl] at f1
  have ht : (tZ p).isSome = true := by
    cases e : (tZ p).isSome with
    | true => rfl
    | false => rw [e] at h1; cases h1
  obtain ⟨l, hl⟩ := tZ_iff.1 ht
  have hgo := right_bg hl
  have hfe := hl.few
  have hlb : p.lets.length ≤ 40 := by rw [hl.lets, laid_lets]; exact hl.few.1
  have hob := hl.outs.2.2
  have hll0 := letsZ_len p.all p.lets 0 0 (insZ p.ins 0 []).2.2 []
  have hmul : p.lets.length * p.all.length ≤ 40 * 400 := Nat.mul_le_mul hlb hfe.2
  refine cK (tC (cS (sR ?_)));refine oV ?_;refine oF 0 Tryz.underlying27 Tryz.sizeOf23 ?_;refine oL Tryz.isAgg23 ?_;refine l_imp (S' := St w [] I [tbI b16 b13 b14, knI b13 [], usI b14 [], .box b1 (.cells #[vi, vl, vo, va] 27 (0, 0))]) (fun _ h => h.sort (by repeat constructor)) ?_;refine oC trivial rfl Tryz.call88 rfl (ins_any b16 b13 b14 [] vi p.ins hsi) (by repeat constructor) ?_;rintro _ _ _ hxi ⟨rfl, rfl, rfl⟩;iterate 5 refine oV ?_
  refine oN (tC (cS ?_))
  generalize hi : insZ p.ins 0 [] = ri at *
  obtain ⟨n1, e1, K1⟩ := ri
  dsimp only at hll0 ⊢
  refine cR ?_;iterate 2 refine oV ?_
  refine nT ?_;refine cC rfl (fun h2 => ?_) (fun h2 => ?_)
  ·
   have f2 := h2;try simp only [bl] at f2
   have he1 : e1 ≠ 0 := by simpa using h2
   refine sR ?_;iterate 6 refine oV ?_
   refine nF ?_;refine ret3 rfl rfl rfl rfl ?_;exact fun w' hw' => ⟨I, [tbI b16 b13 b14, knI b13 K1, usI b14 []], hw'.sort (by repeat constructor), Ext.refl _ _, rfl, b16, b13, b14, by rw [readZ_ins ht hi he1]; rfl, by rw [readZ_ins ht hi he1]⟩
  have f2 := h2;try simp only [bl] at f2
  obtain rfl : e1 = 0 := by simpa using h2
  refine cK (tC (cS (sR ?_)));refine oV ?_;refine oA Tryz.isAgg27 Tryz.sizeOf27 ?_;refine oC trivial rfl Tryz.call89 rfl (lets_any b16 b13 b14 K1 [] vi vl vo va p ns hp hgo (by omega) (Nat.zero_le _)) (by repeat constructor) ?_;rintro _ _ _ hxl ⟨rfl, rfl, rfl⟩;iterate 5 refine oV ?_
  refine oN (tC (cS ?_))
  generalize hz : letsZ p.all p.lets 0 0 K1 [] = rz at *
  obtain ⟨m1, e2, K2, L2⟩ := rz
  dsimp only at hll0 ⊢
  refine cR ?_;iterate 2 refine oV ?_
  refine nT ?_;refine cC rfl (fun h3 => ?_) (fun h3 => ?_)
  ·
   have f3 := h3;try simp only [bl] at f3
   have he2 : e2 ≠ 0 := by simpa using h3
   refine sR ?_;iterate 6 refine oV ?_
   refine nF ?_;refine ret3 rfl rfl rfl rfl ?_;exact fun w' hw' => ⟨I, [tbI b16 b13 b14, knI b13 K2, usI b14 L2], hw'.sort (by repeat constructor), Ext.refl _ _, rfl, b16, b13, b14, by rw [readZ_lets ht hi hz he2]; rfl, by rw [readZ_lets ht hi hz he2]⟩
  have f3 := h3;try simp only [bl] at f3
  obtain rfl : e2 = 0 := by simpa using h3
  have hrz := readZ_outs ht hi hz
  have hl2 : L2.length ≤ 16000 := by
    have h9 : ([] : List ByteArray).length = 0 := rfl
    omega
  refine cK (tC (cS (sR ?_)));refine oF 2 Tryz.underlying27 Tryz.sizeOf23 ?_;refine oL Tryz.isAgg23 ?_;refine o_lenSlc trivial rfl Tryz.underlying23 rfl (hso) ?_;refine oV ?_;refine oN (tC (cB ?_));refine c_loop (ι := Nat × List ByteArray) [5, 45, 46] (.cons rfl (.cons rfl (.cons rfl .nil))) (fun x => p.outs.length - x.1) (fun x E0 => (47, .int .i64 (x.1 : Nat)) :: E0) (fun x => St w [] I [tbI b16 b13 b14, knI b13 K2, usI b14 x.2, .box b1 (.cells #[vi, vl, vo, va] 27 (0, 0))]) (fun x => x.1 ≤ p.outs.length ∧ ousZ K2 p.outs L2 = ousZ K2 (p.outs.drop x.1) x.2 ∧ x.2.length ≤ L2.length + x.1) ((0, L2)) (sC rfl (sC rfl (sC rfl (sC rfl sN)))) (fun _ h => h.sort (by repeat constructor)) (⟨Nat.zero_le _, rfl, Nat.le_refl _⟩) ?_;rintro ⟨i, L3⟩ ⟨hi3, hF, hL3⟩
  try dsimp only
  simp only at hi3 hF hL3
  refine sR ?_;refine oV ?_;refine oN (tC (cS ?_));refine cC rfl (fun h4 => ?_) (fun h4 => ?_)
  ·
   have f4 := h4;try simp only [bl] at f4
   obtain ⟨s, hs⟩ : ∃ s, p.outs[i]? = some s := ⟨p.outs[i]'(by omega), List.getElem?_eq_getElem (by omega)⟩
   rw [ousZ_step hs] at hF
   refine cK (tC (cS (cB (sR ?_))));refine o_elem trivial rfl Tryz.underlying23 Tryz.sizeOf9 rfl (hso) rfl (by omega) ?_;refine o_load1I trivial rfl Tryz.isAgg9 rfl (scs_at hso hs) ?_;refine oV ?_;refine nS ?_;iterate 2 refine oV ?_
   refine oC trivial rfl Tryz.call90 rfl (use_any b16 b13 b14 K2 L3 s (by omega)) (by repeat constructor) ?_;rintro _ _ _ hxu ⟨rfl, rfl, rfl⟩;refine oV ?_;refine nS ?_;iterate 2 refine oV ?_
   refine nT ?_;refine cC rfl (fun h5 => ?_) (fun h5 => ?_)
   ·
    have f5 := h5;try simp only [bl] at f5
    have hh : hasK s K2 = false := by
      cases e : hasK s K2 with
      | false => rfl
      | true => rw [e] at h5; simp at h5
    rw [hh, if_neg (by decide)] at hF
    rw [hF] at hrz
    refine sR ?_;iterate 6 refine oV ?_
    refine oN (tC (cT (blk_r (tR (tR (blk_r (tR ?_)))))));refine ret3 rfl rfl rfl rfl ?_;exact fun w' hw' => ⟨I, [tbI b16 b13 b14, knI b13 K2, usI b14 L3], (by unfold useL at hw'; rw [hh, if_neg (by decide)] at hw'; exact hw'.sort (by repeat constructor)), Ext.refl _ _, rfl, b16, b13, b14, by rw [hrz, hh]; rfl, by rw [hrz]⟩
   have f5 := h5;try simp only [bl] at f5
   have hh : hasK s K2 = true := by
     cases e : hasK s K2 with
     | true => rfl
     | false => rw [e] at h5; simp at h5
   rw [if_pos hh] at hF
   refine cK (blk_n (tC (cR ?_)))
   first | (refine o_add trivial rfl rfl rfl ?_ ?_; (omega)) | refine oV ?_
   refine oV ?_;refine oN ?_;exact again (i + 1, L3 ++ [s]) (sC rfl (sC rfl (sC rfl (sC rfl sN)))) (fun _ h => by unfold useL at h; rw [if_pos hh] at h; exact h.sort (by repeat constructor)) (by show p.outs.length - (i + 1) < p.outs.length - i; omega) ⟨by show i + 1 ≤ _; omega, hF, by show (L3 ++ [s]).length ≤ L2.length + (i + 1); rw [List.length_append]; show L3.length + 1 ≤ _; omega⟩
  have f4 := h4;try simp only [bl] at f4
  have hin : p.outs.drop i = [] := List.drop_of_length_le (by omega)
  rw [hin] at hF
  have hF2 : ousZ K2 p.outs L2 = (⟨#[]⟩, 0, L3) := hF
  rw [hF2] at hrz
  refine c_exit (then_x (then_x (blk_eq rfl (tC (sR ?_)))));iterate 4 refine oV ?_
  refine nE ?_;refine ret3 rfl rfl rfl rfl ?_;exact fun w' hw' => ⟨I, [tbI b16 b13 b14, knI b13 K2, usI b14 L3], hw'.sort (by repeat constructor), Ext.refl _ _, rfl, b16, b13, b14, by rw [hrz], by rw [hrz]⟩
theorem scCheck_any (vi vl vo va : Value) (p : ProgC) (ns : List NodeV) {I : Hp} (hp : ProgV I vi vl vo va p ns) (hf : ∀ o ∈ ns, o.c.few 100000) :
    Fun Tryz.prog 32 [.agg #[vi, vl, vo, va]] I [] (fun v _ _ => v = .tuple #[.string (readZ p).name, .int .i64 (readZ p).err]) := by
  have hsi := hp.si
  have hsl := hp.sl
  have hso := hp.so
  have hsa := hp.sa
  intro w hw
  refine enter1 _ Tryz.func32 rfl Tryz.ntmps32 rfl ?_ hw;refine sR ?_;refine o_box trivial rfl rfl rfl (fun b1 => ?_);iterate 2 refine oV ?_
  refine nS ?_;refine oA Tryz.isAgg27 Tryz.sizeOf27 ?_;refine oC trivial rfl Tryz.call57 rfl (scRead_any vi vl vo va p ns hp hf) (by repeat constructor) ?_;rintro _ _ _ hxr ⟨rfl, b, bk, bu, rfl, rfl⟩;iterate 6 refine oV ?_
  refine nS ?_;iterate 4 refine oV ?_
  refine nE ?_;refine ret2 rfl rfl rfl ?_;exact leaf0 rfl
def whereZ (p : ProgC) (s : ByteArray) : Bool × Int × Bool := if (readZ p).err = 0 ∧ hasK s (readZ p).K = true then (((getK s (readZ p).K).getD ⟨false, 0⟩).l, ((getK s (readZ p).K).getD ⟨false, 0⟩).i, true) else (false, 0, false)
theorem scWhere_any (vi vl vo va : Value) (p : ProgC) (ns : List NodeV) (s : ByteArray) {I : Hp} (hp : ProgV I vi vl vo va p ns) (hf : ∀ o ∈ ns, o.c.few 100000) :
    Fun Tryz.prog 30 [.agg #[vi, vl, vo, va], .string s] I [] (fun v _ _ => v = .tuple #[.bool (whereZ p s).1, .int .i64 (whereZ p s).2.1, .bool (whereZ p s).2.2]) := by
  have hsi := hp.si
  have hsl := hp.sl
  have hso := hp.so
  have hsa := hp.sa
  intro w hw
  refine enter2 _ Tryz.func30 rfl Tryz.ntmps30 rfl ?_ hw;refine sR ?_;refine o_box trivial rfl rfl rfl (fun b2 => ?_);iterate 3 refine oV ?_
  refine nS ?_;refine oA Tryz.isAgg27 Tryz.sizeOf27 ?_;refine oC trivial rfl Tryz.call57 rfl (scRead_any vi vl vo va p ns hp hf) (by repeat constructor) ?_;rintro _ _ _ hxr ⟨rfl, b, bk, bu, rfl, rfl⟩;iterate 7 refine oV ?_
  refine nS ?_;iterate 2 refine oV ?_
  refine oF 0 Tryz.underlying94 Tryz.sizeOf91 ?_;refine oL Tryz.isAgg91 ?_;refine oV ?_;refine o_lookK trivial rfl Tryz.underlying91 Tryz.underlying9 Tryz.zeroValue89 rfl rfl (by repeat constructor) ?_;iterate 3 refine oV ?_
  refine o_alloc trivial rfl Tryz.zeroValue89 rfl (fun b10 => ?_);refine oS Tryz.sizeOf89 ?_;refine oV ?_;refine nU ?_;iterate 2 refine oV ?_
  refine' o_or trivial trivial rfl rfl rfl rfl rfl rfl rfl rfl (fun hb29 => ?_) ?_;rotate_left
  ·
   have fb29 := hb29
   try simp only [bl] at fb29
   iterate 2 refine gV hb29 ?_
   refine oN ?_;exact joins rfl
  refine nT ?_;refine cC rfl (fun h1 => ?_) (fun h1 => ?_)
  ·
   have f1 := h1;try simp only [bl] at f1
   have hz : whereZ p s = (false, 0, false) := if_neg (fun hh => by
     have h9 := h1
     rw [hh.1] at h9
     have h8 : (getK s (readZ p).K).isSome = true := hh.2
     rw [h8] at h9
     cases h9)
   refine sR ?_;iterate 3 refine oV ?_
   refine nF ?_;refine ret3 rfl rfl rfl rfl ?_;refine leaf0 ?_; rw [hz]
  have f1 := h1;try simp only [bl] at f1
  have hz : whereZ p s = (((getK s (readZ p).K).getD ⟨false, 0⟩).l, ((getK s (readZ p).K).getD ⟨false, 0⟩).i, true) := if_pos (by
    have h9 := h1
    simp only [Bool.or_eq_false_iff, Bool.not_eq_false'] at h9
    exact ⟨by simpa using h9.1, h9.2⟩)
  refine cK (tC (cS ?_));refine c_quiet (by kernel_rfl) (by kernel_rfl) (fun _ h => h.drawn) ?_;refine oF 0 Tryz.underlying89 Tryz.sizeOf4 ?_;refine oL Tryz.isAgg4 ?_;refine oF 1 Tryz.underlying89 Tryz.sizeOf3 ?_;refine oL Tryz.isAgg3 ?_;iterate 3 refine oV ?_
  refine nE ?_;refine ret3 rfl rfl rfl rfl ?_;refine leaf0 ?_; rw [hz]
def strs (l : List ByteArray) : List Value := l.map Value.string
theorem strs_more (l : List ByteArray) (s : ByteArray) : strs (l ++ [s]) = strs l ++ [.string s] := by simp [strs]
theorem strs_at {l : List ByteArray} {i : Nat} {s : ByteArray} (h : l[i]? = some s) : (strs l)[i]? = some (.string s) := by unfold strs; rw [List.getElem?_map, h]; rfl
def snI (u : Value) (l : List ByteArray) : Tw.Item := .row u 9 1 l.length (strs l)
def memB (s : ByteArray) : List ByteArray → Bool
  | [] => false
  | x :: l => decide (s = x) || memB s l
theorem memB_iff (s : ByteArray) : ∀ (l : List ByteArray), memB s l = true ↔ s ∈ l
  | [] => by simp [memB]
  | x :: l => by rw [memB, Bool.or_eq_true, decide_eq_true_eq, memB_iff s l, List.mem_cons]
theorem mem_step {l : List ByteArray} {i : Nat} {x : ByteArray} (h : l[i]? = some x) (s : ByteArray) : memB s (l.drop i) = (decide (s = x) || memB s (l.drop (i + 1))) := by
  obtain ⟨h1, h2⟩ := List.getElem?_eq_some_iff.1 h
  rw [List.drop_eq_getElem_cons h1, h2]
  rfl
theorem bytes_inj {a b : ByteArray} (h : a.toList = b.toList) : a = b := by
  rw [toList_data, toList_data] at h
  exact ByteArray.ext (Array.ext' h)
theorem in_any (u : Value) (l : List ByteArray) (s : ByteArray) {I : Hp} (hl : l.length ≤ 1000000) : Fun Tryz.prog 60 [u, .string s] I [snI u l] (fun v I' B' => I = I' ∧ v = .bool (memB s l) ∧ B' = [snI u l]) := by
  unfold snI
  intro w hw
  refine enter2 _ Tryz.func60 rfl Tryz.ntmps60 rfl ?_ hw;refine sR ?_;refine oV ?_;refine nU ?_;refine oV ?_;refine oN (tC (cB ?_));refine c_loop (ι := Nat) [0, 1] (.cons rfl (.cons rfl .nil)) (fun x => l.length - x) (fun x E0 => (5, .int .i64 (x : Nat)) :: E0) (fun x => St w (keysOf [Item.row u 9 1 l.length (strs l)]) I [.row u 9 1 l.length (strs l)]) (fun x => x ≤ l.length ∧ memB s l = memB s (l.drop x)) (0) (sC rfl (sC rfl (sC rfl sN))) (fun _ h => h) (⟨Nat.zero_le _, rfl⟩) ?_;rintro i ⟨hi, hF⟩
  try dsimp only
  refine cS (sR ?_);iterate 2 refine oV ?_
  refine o_lenRow trivial rfl Tryz.underlying23 rfl (by repeat constructor) ?_;refine oV ?_;refine nT ?_;refine cC rfl (fun h1 => ?_) (fun h1 => ?_)
  ·
   have f1 := h1;try simp only [bl] at f1
   obtain ⟨x, hx⟩ : ∃ x, l[i]? = some x := ⟨l[i]'(by omega), List.getElem?_eq_getElem (by omega)⟩
   rw [mem_step hx] at hF
   refine cK (tC (cS (cB (sR ?_))));iterate 2 refine oV ?_
   refine o_elemRow trivial rfl Tryz.underlying23 Tryz.sizeOf9 rfl (by repeat constructor) rfl (by omega) ?_;refine o_loadRow1 trivial rfl Tryz.isAgg9 (by repeat constructor) rfl (by rw [Int.toNat_natCast, Nat.mul_one]; exact strs_at hx) ?_;iterate 2 refine oV ?_
   refine nT ?_;refine cC rfl (fun h2 => ?_) (fun h2 => ?_)
   ·
    have f2 := h2;try simp only [bl] at f2
    skip
    refine sR ?_;refine oV ?_;refine oN (tC (cT (blk_r (tR (tR (blk_r (tR ?_)))))));refine ret1 rfl rfl ?_;exact fun w' hw' => ⟨I, [snI u l], hw', Ext.refl _ _, rfl, by rw [hF, decide_eq_true (show s = x from (bytes_inj f2).symm)]; rfl, rfl⟩
   have f2 := h2;try simp only [bl] at f2
   refine cK (blk_n (tC (cR ?_)));refine oV ?_
   first | (refine o_add trivial rfl rfl rfl ?_ ?_; (omega)) | refine oV ?_
   refine oV ?_;refine oN ?_;exact again (i + 1) (sC rfl (sC rfl (sC rfl sN))) (fun _ h => h) (by show l.length - (i + 1) < l.length - i; omega) ⟨by show i + 1 ≤ _; omega, by rw [hF, decide_eq_false (fun e => f2 (by rw [e]))]; rfl⟩
  have f1 := h1;try simp only [bl] at f1
  refine c_exit (then_x (then_x (blk_eq rfl (tC (sR ?_)))));refine oV ?_;refine nE ?_;refine ret1 rfl rfl ?_;exact fun w' hw' => ⟨I, [snI u l], hw', Ext.refl _ _, rfl, by rw [hF, List.drop_of_length_le (by omega)]; rfl, rfl⟩
theorem memB_kn (s : ByteArray) : ∀ (K : KN), memB s (K.map Prod.fst) = hasK s K
  | [] => rfl
  | (t, p) :: K => by
    have ih := memB_kn s K
    unfold hasK at ih ⊢
    rw [List.map_cons, memB, getK, ih]
    by_cases h : s = t
    · rw [decide_eq_true h, if_pos h]; rfl
    · rw [decide_eq_false h, if_neg h]; rfl
theorem keys_more (K : KN) (s : ByteArray) (p : PL) : (K ++ [(s, p)]).map Prod.fst = K.map Prod.fst ++ [s] := by rw [List.map_append]; rfl
def kyI (u : Value) (K : KN) : Tw.Item := snI u (K.map Prod.fst)
theorem dCheck_any (vi vl vo va : Value) (p : ProgC) (ns : List NodeV) {I : Hp} (hp : ProgV I vi vl vo va p ns) (hf : ∀ o ∈ ns, o.c.few 3000) :
    Fun Tryz.prog 34 [.agg #[vi, vl, vo, va]] I [] (fun v _ _ => v = .tuple #[.string (readZ p).name, .int .i64 (readZ p).err]) := by
  have hsi := hp.si
  have hsl := hp.sl
  have hso := hp.so
  have hsa := hp.sa
  have hlo := scs_len p.outs
  have hli := scs_len p.ins
  have hla := nds_len ns
  have hal : p.all.length = ns.length := by rw [← hp.eq, List.length_map]
  have hll : (p.lets.map LetC.cells).length = p.lets.length := List.length_map _
  have hri := rrRight_any vi vl vo va p ns hp hf
  rw [rightZ_eq] at hri
  have hkl : ∀ K : KN, (K.map Prod.fst).length = K.length := fun K => List.length_map _
  intro w hw
  refine enter1 _ Tryz.func34 rfl Tryz.ntmps34 rfl ?_ hw;refine sR ?_;refine o_box trivial rfl rfl rfl (fun b1 => ?_);iterate 2 refine oV ?_
  refine nS ?_;refine oA Tryz.isAgg27 Tryz.sizeOf27 ?_;refine oQ Tryz.call19 rfl hri ?_;refine oV ?_;refine nU ?_;iterate 2 refine oV ?_
  refine nT ?_;refine cC rfl (fun h1 => ?_) (fun h1 => ?_)
  ·
   have f1 := h1;try simp only [bl] at f1
   have ht : (tZ p).isSome = false := by simpa using h1
   refine sR ?_;iterate 2 refine oV ?_
   refine nF ?_;refine ret2 rfl rfl rfl ?_;refine leaf0 ?_; rw [readZ_not ht]
  have f1 := h1;try simp only [bl] at f1
  have ht : (tZ p).isSome = true := by
    cases e : (tZ p).isSome with
    | true => rfl
    | false => rw [e] at h1; cases h1
  obtain ⟨l, hl⟩ := tZ_iff.1 ht
  have hgo := right_bg hl
  have hfe := hl.few
  have hlb : p.lets.length ≤ 40 := by rw [hl.lets, laid_lets]; exact hl.few.1
  have hob := hl.outs.2.2
  have hib := hl.ins.2.2
  refine kS ?_;refine oV ?_;refine nU ?_;refine oV ?_;refine oN (tC (cB ?_));refine c_loop (ι := Nat × KN × Value) [1] (.cons rfl .nil) (fun x => p.ins.length - x.1) (fun x E0 => (5, x.2.2) :: (6, .int .i64 (x.1 : Nat)) :: E0) (fun x => St w [] I [kyI x.2.2 x.2.1, .box b1 (.cells #[vi, vl, vo, va] 27 (0, 0))]) (fun x => x.1 ≤ p.ins.length ∧ insZ p.ins 0 [] = insZ (p.ins.drop x.1) x.1 x.2.1 ∧ x.2.1.length ≤ x.1) ((0, [], .slice none 0 0)) (sC rfl (sC rfl (sC rfl sN))) (fun _ h => (h.nilRow 9 1)) (⟨Nat.zero_le _, rfl, Nat.le_refl _⟩) ?_;rintro ⟨i, K1, u⟩ ⟨hi, hF, hK1⟩
  try dsimp only
  simp only at hi hF hK1; have hk1 := hkl K1
  refine cS (sR ?_);refine oV ?_;refine oF 0 Tryz.underlying27 Tryz.sizeOf23 ?_;refine oL Tryz.isAgg23 ?_;refine o_lenSlc trivial rfl Tryz.underlying23 rfl (hsi) ?_;refine oV ?_;refine nT ?_;refine cC rfl (fun h2 => ?_) (fun h2 => ?_)
  ·
   have f2 := h2;try simp only [bl] at f2
   obtain ⟨s, hs⟩ : ∃ s, p.ins[i]? = some s := ⟨p.ins[i]'(by omega), List.getElem?_eq_getElem (by omega)⟩
   rw [insZ_step hs] at hF
   refine cK (tC (cS (cB (sR ?_))));refine oV ?_;refine oF 0 Tryz.underlying27 Tryz.sizeOf23 ?_;refine oL Tryz.isAgg23 ?_;refine oV ?_;refine o_elem trivial rfl Tryz.underlying23 Tryz.sizeOf9 rfl (hsi) rfl (by omega) ?_;refine o_load1I trivial rfl Tryz.isAgg9 rfl (scs_at hsi hs) ?_;refine oC trivial rfl Tryz.call60 rfl (in_any u (K1.map Prod.fst) s (by rw [hkl]; omega)) (by repeat constructor) ?_;rintro _ _ _ hxa ⟨rfl, rfl, rfl⟩;refine oV ?_;refine oN (tC (cS (cS ?_)))
   rw [memB_kn]
   refine cR ?_;refine oV ?_;refine nT ?_;refine cC rfl (fun h3 => ?_) (fun h3 => ?_)
   ·
    have f3 := h3;try simp only [bl] at f3
    rw [if_pos h3] at hF
    refine sR ?_;refine oF 0 Tryz.underlying27 Tryz.sizeOf23 ?_;refine oL Tryz.isAgg23 ?_;refine oV ?_;refine o_elem trivial rfl Tryz.underlying23 Tryz.sizeOf9 rfl (hsi) rfl (by omega) ?_;refine o_load1I trivial rfl Tryz.isAgg9 rfl (scs_at hsi hs) ?_;iterate 2 refine oV ?_
    refine oN (tC (cT (tR (blk_r (tR (tR (blk_r (tR ?_))))))));refine ret2 rfl rfl rfl ?_;refine leaf0 ?_; rw [readZ_ins ht hF (by decide)]
   have f3 := h3;try simp only [bl] at f3
   rw [h3, if_neg (by decide)] at hF
   refine cK (tC (cR ?_));refine oV ?_;refine oF 0 Tryz.underlying27 Tryz.sizeOf23 ?_;refine oL Tryz.isAgg23 ?_;refine oV ?_;refine o_elem trivial rfl Tryz.underlying23 Tryz.sizeOf9 rfl (hsi) rfl (by omega) ?_;refine o_load1I trivial rfl Tryz.isAgg9 rfl (scs_at hsi hs) ?_;refine oB Tryz.underlying23 Tryz.sizeOf9 Tryz.zeroValue9 fun b46 => ?_;refine oD Tryz.underlying23 elem9 fun v47 => ?_;refine oV ?_;refine oN (blk_n (tC (cR ?_)));refine oV ?_
   first | (refine o_add trivial rfl rfl rfl ?_ ?_; (omega)) | refine oV ?_
   refine oV ?_;refine oN ?_;exact again (i + 1, K1 ++ [(s, ⟨false, (i : Nat)⟩)], v47) (sC rfl (sC rfl (sC rfl sN))) (fun _ h => by unfold kyI snI; rw [keys_more, strs_more, List.length_append]; exact h.sort (by repeat constructor)) (by show p.ins.length - (i + 1) < p.ins.length - i; omega) ⟨by show i + 1 ≤ _; omega, hF, by show (K1 ++ [_]).length ≤ i + 1; rw [List.length_append]; show K1.length + 1 ≤ _; omega⟩
  have f2 := h2;try simp only [bl] at f2
  have hin : p.ins.drop i = [] := List.drop_of_length_le (by omega)
  rw [hin] at hF
  have hi2 : insZ p.ins 0 [] = (⟨#[]⟩, 0, K1) := hF
  refine c_exit (then_x (then_x (blk_eq rfl (tC (sR ?_)))));refine oV ?_;refine nU ?_;refine oV ?_;refine oN (tC (cB ?_));refine c_loop (ι := Nat × Int × KN × Value × List ByteArray) [1] (.cons rfl .nil) (fun x => p.lets.length - x.1) (fun x E0 => (5, x.2.2.2.1) :: (8, .int .i64 x.2.1) :: (9, .int .i64 (x.1 : Nat)) :: E0) (fun x => St w [] I [kyI x.2.2.2.1 x.2.2.1, .box b1 (.cells #[vi, vl, vo, va] 27 (0, 0))]) (fun x => x.1 ≤ p.lets.length ∧ 0 ≤ x.2.1 ∧ x.2.1 ≤ ns.length ∧ bgGo p.all (p.lets.drop x.1) x.2.1 = some (p.all.length : Int) ∧ letsZ p.all p.lets 0 0 K1 [] = letsZ p.all (p.lets.drop x.1) x.1 x.2.1 x.2.2.1 x.2.2.2.2 ∧ x.2.2.1.length ≤ 40 + x.1) ((0, 0, K1, u, [])) (sC rfl (sC rfl (sC rfl (sC rfl sN)))) (fun _ h => h) (⟨Nat.zero_le _, Int.le_refl _, by show (0 : Int) ≤ ns.length; omega, hgo, rfl, by show K1.length ≤ 40 + 0; omega⟩) ?_;rintro ⟨i, fr, K2, u2, L1⟩ ⟨hi, hfr0, hfr1, hg, hF, hK2⟩
  try dsimp only
  simp only at hi hfr0 hfr1 hg hF hK2; have hk2 := hkl K2
  refine cS (sR ?_);refine oV ?_;refine oF 1 Tryz.underlying27 Tryz.sizeOf24 ?_;refine oL Tryz.isAgg24 ?_;refine o_lenSlc trivial rfl Tryz.underlying24 rfl (hsl) ?_;refine oV ?_;refine nT ?_;refine cC rfl (fun h4 => ?_) (fun h4 => ?_)
  ·
   have f4 := h4;try simp only [bl] at f4
   obtain ⟨c, hc⟩ : ∃ c, p.lets[i]? = some c := ⟨p.lets[i]'(by omega), List.getElem?_eq_getElem (by omega)⟩
   have hdr : p.lets.drop i = c :: p.lets.drop (i + 1) := by rw [List.drop_eq_getElem_cons (List.getElem?_eq_some_iff.1 hc).1, (List.getElem?_eq_some_iff.1 hc).2]
   rw [letsZ_step hc] at hF
   rw [hdr, bgGo_cons] at hg
   by_cases hcd : nameZ c.name = true ∧ fr ≤ c.root ∧ c.root < p.all.length ∧ begZ p.all fr p.all.length c.root = fr
   case' neg => rw [if_neg hcd] at hg; cases hg
   rw [if_pos hcd] at hg
   obtain ⟨_, c2, c3, _⟩ := hcd
   obtain ⟨seg, hseg⟩ : ∃ seg, seg = (ns.take (c.root + 1).toNat).drop fr.toNat := ⟨_, rfl⟩
   have hsegl : (seg.length : Int) = c.root + 1 - fr := by rw [hseg, List.length_drop, List.length_take]; omega
   have hsc : segZ p.all fr (c.root + 1) = seg.map NodeV.c := by rw [hseg, ← hp.eq]; unfold segZ; rw [List.map_drop, List.map_take]
   rw [hsc] at hF
   refine cK (tC (cS (cB (sR ?_))));refine oF 1 Tryz.underlying27 Tryz.sizeOf24 ?_;refine oL Tryz.isAgg24 ?_;refine oV ?_;refine o_elem trivial rfl Tryz.underlying24 Tryz.sizeOf46 rfl (hsl) rfl (by omega) ?_;refine o_loadAI trivial rfl Tryz.isAgg46 Tryz.sizeOf46 rfl rfl (lts_at hsl hc) ?_;refine o_alloc trivial rfl Tryz.zeroValue46 rfl (fun b10 => ?_);refine oS Tryz.sizeOf46 ?_;refine nU ?_;iterate 2 refine oV ?_
   refine oN (tC (cB ?_));refine c_loop (ι := Nat × Int × List ByteArray) [1, 5, 9, 10] (.cons rfl (.cons rfl (.cons rfl (.cons rfl .nil)))) (fun x => seg.length - x.1) (fun x E0 => (11, .int .i64 x.2.1) :: E0) (fun x => St w [] I [kyI u2 K2, .box b10 (.cells #[.string c.name, .int .i64 c.root] 46 (0, 0)), .box b1 (.cells #[vi, vl, vo, va] 27 (0, 0))]) (fun x => x.1 ≤ seg.length ∧ nodesZ K2 (seg.map NodeV.c) L1 = nodesZ K2 ((seg.drop x.1).map NodeV.c) x.2.2 ∧ x.2.1 = fr + (x.1 : Nat)) ((0, fr, L1)) (sC rfl (sC rfl (sC rfl (sC rfl (sC rfl sN))))) (fun _ h => h.sort (by repeat constructor)) (⟨Nat.zero_le _, rfl, by show fr = fr + 0; omega⟩) ?_;rintro ⟨j, k, L2⟩ ⟨hj, hF2, hkj⟩
   try dsimp only
   simp only at hj hF2 hkj
   refine cS (sR ?_);refine oV ?_;refine oF 1 Tryz.underlying46 Tryz.sizeOf3 ?_;refine oL Tryz.isAgg3 ?_;refine oV ?_;refine nT ?_;refine cC rfl (fun h5 => ?_) (fun h5 => ?_)
   ·
    have f5 := h5;try simp only [bl] at f5
    obtain ⟨o, ho⟩ : ∃ o, seg[j]? = some o := ⟨seg[j]'(by omega), List.getElem?_eq_getElem (by omega)⟩
    have ho2 : ns[fr.toNat + j]? = some o := by
      have h9 := ho
      rw [hseg, List.getElem?_drop, List.getElem?_take] at h9
      split at h9
      · exact h9
      · cases h9
    have hjn := (List.getElem?_eq_some_iff.1 ho2).1
    have hix : k.toNat = fr.toNat + j := by omega
    rw [nodesZ_step ho] at hF2
    refine cK (tC (cS (cB (sR ?_))));refine oV ?_;refine oF 3 Tryz.underlying27 Tryz.sizeOf25 ?_;refine oL Tryz.isAgg25 ?_;refine oV ?_;refine o_elem trivial rfl Tryz.underlying25 Tryz.sizeOf44 rfl (hsa) rfl (by omega) ?_;refine oF 4 Tryz.underlying44 Tryz.sizeOf9 ?_;refine o_load1I trivial rfl Tryz.isAgg9 rfl ((by rw [hix]; exact nds_at hsa ho2 4 _ rfl)) ?_;refine oC trivial rfl Tryz.call60 rfl (in_any u2 (K2.map Prod.fst) o.c.name (by omega)) (by repeat constructor) ?_;rintro _ _ _ hxa ⟨rfl, rfl, rfl⟩;refine oV ?_;refine oN (tC (cS ?_))
    rw [memB_kn]
    refine cR ?_;refine oF 3 Tryz.underlying27 Tryz.sizeOf25 ?_;refine oL Tryz.isAgg25 ?_;refine oV ?_;refine o_elem trivial rfl Tryz.underlying25 Tryz.sizeOf44 rfl (hsa) rfl (by omega) ?_;refine oF 0 Tryz.underlying44 Tryz.sizeOf3 ?_;refine o_load1I trivial rfl Tryz.isAgg3 rfl ((by rw [hix]; exact nds_at hsa ho2 0 _ rfl)) ?_;refine oV ?_;refine' o_and trivial trivial rfl rfl rfl rfl rfl rfl rfl rfl (fun hb82 => ?_) ?_;rotate_left
    ·
     have fb82 := hb82
     try simp only [bl] at fb82
     iterate 2 refine gV hb82 ?_
     refine oN ?_;exact joins rfl
    refine nT ?_;refine cC rfl (fun h6 => ?_) (fun h6 => ?_)
    ·
     have f6 := h6;try simp only [bl] at f6
     have hk0 : o.c.kind = 0 ∧ hasK o.c.name K2 = false := by simpa using h6
     rw [if_neg (not_not_intro hk0.1), hk0.2, if_neg (by decide)] at hF2
     rw [hF2] at hF
     refine sR ?_;refine oF 3 Tryz.underlying27 Tryz.sizeOf25 ?_;refine oL Tryz.isAgg25 ?_;refine oV ?_;refine o_elem trivial rfl Tryz.underlying25 Tryz.sizeOf44 rfl (hsa) rfl (by omega) ?_;refine oF 4 Tryz.underlying44 Tryz.sizeOf9 ?_;refine o_load1I trivial rfl Tryz.isAgg9 rfl ((by rw [hix]; exact nds_at hsa ho2 4 _ rfl)) ?_;iterate 2 refine oV ?_
     refine oN (tC (cT (blk_r (tR (tR (blk_r (tR (blk_r (tR (tR (blk_r (tR ?_))))))))))));refine ret2 rfl rfl rfl ?_;refine leaf0 ?_; rw [readZ_lets ht hi2 hF (by decide)]
    have f6 := h6;try simp only [bl] at f6
    have hk0 : o.c.kind = 0 → hasK o.c.name K2 = true := by simpa using h6
    refine cK (blk_n (tC (cR ?_)));refine oV ?_
    first | (refine o_add trivial rfl rfl rfl ?_ ?_; (omega)) | refine oV ?_
    refine oV ?_;refine oN ?_
    by_cases hk9 : o.c.kind = 0
    · rw [if_neg (not_not_intro hk9), if_pos (hk0 hk9)] at hF2
      exact again (j + 1, k + 1, L2 ++ [o.c.name]) (sC rfl (sC rfl (sC rfl (sC rfl (sC rfl sN))))) (fun _ h => h.sort (by repeat constructor)) (by show seg.length - (j + 1) < seg.length - j; omega) ⟨by show j + 1 ≤ _; omega, hF2, by show k + 1 = fr + ((j + 1 : Nat) : Int); omega⟩
    · rw [if_pos hk9] at hF2
      exact again (j + 1, k + 1, L2) (sC rfl (sC rfl (sC rfl (sC rfl (sC rfl sN))))) (fun _ h => h.sort (by repeat constructor)) (by show seg.length - (j + 1) < seg.length - j; omega) ⟨by show j + 1 ≤ _; omega, hF2, by show k + 1 = fr + ((j + 1 : Nat) : Int); omega⟩
   have f5 := h5;try simp only [bl] at f5
   have hjn : seg.drop j = [] := List.drop_of_length_le (by omega)
   rw [hjn] at hF2
   have hF3 : nodesZ K2 (seg.map NodeV.c) L1 = (none, L2) := hF2
   rw [hF3] at hF
   dsimp only at hF
   refine c_exit (then_x (then_x (blk_eq rfl (tC (sR ?_)))));refine oF 1 Tryz.underlying46 Tryz.sizeOf3 ?_;refine oL Tryz.isAgg3 ?_
   first | (refine o_add trivial rfl rfl rfl ?_ ?_; (omega)) | refine oV ?_
   refine oV ?_;refine nS ?_;refine oV ?_;refine oF 0 Tryz.underlying46 Tryz.sizeOf9 ?_;refine oL Tryz.isAgg9 ?_;refine oC trivial rfl Tryz.call60 rfl (in_any u2 (K2.map Prod.fst) c.name (by omega)) (by repeat constructor) ?_;rintro _ _ _ hxa ⟨rfl, rfl, rfl⟩;refine oV ?_;refine oN (tC (cS (cS ?_)))
   rw [memB_kn]
   refine cR ?_;refine oV ?_;refine nT ?_;refine cC rfl (fun h7 => ?_) (fun h7 => ?_)
   ·
    have f7 := h7;try simp only [bl] at f7
    rw [if_pos h7] at hF
    refine sR ?_;refine oF 0 Tryz.underlying46 Tryz.sizeOf9 ?_;refine oL Tryz.isAgg9 ?_;iterate 2 refine oV ?_
    refine oN (tC (cT (tR (blk_r (tR (tR (blk_r (tR ?_))))))));refine ret2 rfl rfl rfl ?_;refine leaf0 ?_; rw [readZ_lets ht hi2 hF (by decide)]
   have f7 := h7;try simp only [bl] at f7
   rw [h7, if_neg (by decide)] at hF
   refine cK (tC (cR ?_));refine oV ?_;refine oF 0 Tryz.underlying46 Tryz.sizeOf9 ?_;refine oL Tryz.isAgg9 ?_;refine oB Tryz.underlying23 Tryz.sizeOf9 Tryz.zeroValue9 fun b105 => ?_;refine oD Tryz.underlying23 elem9 fun v106 => ?_;refine oV ?_;refine oN (blk_n (tC (cR ?_)));refine oV ?_
   first | (refine o_add trivial rfl rfl rfl ?_ ?_; (omega)) | refine oV ?_
   refine oV ?_;refine oN ?_;exact again (i + 1, c.root + 1, K2 ++ [(c.name, ⟨true, (i : Nat)⟩)], v106, L2) (sC rfl (sC rfl (sC rfl (sC rfl sN)))) (fun _ h => by unfold kyI snI; rw [keys_more, strs_more, List.length_append]; exact h.sort (by repeat constructor)) (by show p.lets.length - (i + 1) < p.lets.length - i; omega) ⟨by show i + 1 ≤ _; omega, by show 0 ≤ c.root + 1; omega, by show c.root + 1 ≤ _; omega, hg, hF, by show (K2 ++ [_]).length ≤ 40 + (i + 1); rw [List.length_append]; show K2.length + 1 ≤ _; omega⟩
  have f4 := h4;try simp only [bl] at f4
  have hin : p.lets.drop i = [] := List.drop_of_length_le (by omega)
  rw [hin] at hF
  have hz : letsZ p.all p.lets 0 0 K1 [] = (⟨#[]⟩, 0, K2, L1) := hF
  have hrz := readZ_outs ht hi2 hz
  refine c_exit (then_x (then_x (blk_eq rfl (tC (cS (sR ?_))))));refine oV ?_;refine oN (tC (cB ?_));refine c_loop (ι := Nat × List ByteArray) [1, 5] (.cons rfl (.cons rfl .nil)) (fun x => p.outs.length - x.1) (fun x E0 => (14, .int .i64 (x.1 : Nat)) :: E0) (fun x => St w [] I [kyI u2 K2, .box b1 (.cells #[vi, vl, vo, va] 27 (0, 0))]) (fun x => x.1 ≤ p.outs.length ∧ ousZ K2 p.outs L1 = ousZ K2 (p.outs.drop x.1) x.2) ((0, L1)) (sC rfl (sC rfl (sC rfl sN))) (fun _ h => h) (⟨Nat.zero_le _, rfl⟩) ?_;rintro ⟨i4, L3⟩ ⟨hi4, hF4⟩
  try dsimp only
  simp only at hi4 hF4
  refine cS (sR ?_);refine oV ?_;refine oF 2 Tryz.underlying27 Tryz.sizeOf23 ?_;refine oL Tryz.isAgg23 ?_;refine o_lenSlc trivial rfl Tryz.underlying23 rfl (hso) ?_;refine oV ?_;refine nT ?_;refine cC rfl (fun h8 => ?_) (fun h8 => ?_)
  ·
   have f8 := h8;try simp only [bl] at f8
   obtain ⟨s, hs⟩ : ∃ s, p.outs[i4]? = some s := ⟨p.outs[i4]'(by omega), List.getElem?_eq_getElem (by omega)⟩
   rw [ousZ_step hs] at hF4
   refine cK (tC (cS (cB (sR ?_))));refine oV ?_;refine oF 2 Tryz.underlying27 Tryz.sizeOf23 ?_;refine oL Tryz.isAgg23 ?_;refine oV ?_;refine o_elem trivial rfl Tryz.underlying23 Tryz.sizeOf9 rfl (hso) rfl (by omega) ?_;refine o_load1I trivial rfl Tryz.isAgg9 rfl (scs_at hso hs) ?_;refine oC trivial rfl Tryz.call60 rfl (in_any u2 (K2.map Prod.fst) s (by omega)) (by repeat constructor) ?_;rintro _ _ _ hxa ⟨rfl, rfl, rfl⟩;refine oV ?_;refine oN (tC (cS ?_))
   rw [memB_kn]
   refine cR ?_;iterate 2 refine oV ?_
   refine nT ?_;refine cC rfl (fun h9 => ?_) (fun h9 => ?_)
   ·
    have f9 := h9;try simp only [bl] at f9
    have hh : hasK s K2 = false := by simpa using h9
    rw [hh, if_neg (by decide)] at hF4
    rw [hF4] at hrz
    refine sR ?_;refine oF 2 Tryz.underlying27 Tryz.sizeOf23 ?_;refine oL Tryz.isAgg23 ?_;refine oV ?_;refine o_elem trivial rfl Tryz.underlying23 Tryz.sizeOf9 rfl (hso) rfl (by omega) ?_;refine o_load1I trivial rfl Tryz.isAgg9 rfl (scs_at hso hs) ?_;iterate 2 refine oV ?_
    refine oN (tC (cT (blk_r (tR (tR (blk_r (tR ?_)))))));refine ret2 rfl rfl rfl ?_;refine leaf0 ?_; rw [hrz]
   have f9 := h9;try simp only [bl] at f9
   have hh : hasK s K2 = true := by simpa using h9
   rw [if_pos hh] at hF4
   refine cK (blk_n (tC (cR ?_)));refine oV ?_
   first | (refine o_add trivial rfl rfl rfl ?_ ?_; (omega)) | refine oV ?_
   refine oV ?_;refine oN ?_;exact again (i4 + 1, L3 ++ [s]) (sC rfl (sC rfl (sC rfl sN))) (fun _ h => h) (by show p.outs.length - (i4 + 1) < p.outs.length - i4; omega) ⟨by show i4 + 1 ≤ _; omega, hF4⟩
  have f8 := h8;try simp only [bl] at f8
  have hin4 : p.outs.drop i4 = [] := List.drop_of_length_le (by omega)
  rw [hin4] at hF4
  have hF5 : ousZ K2 p.outs L1 = (⟨#[]⟩, 0, L3) := hF4
  rw [hF5] at hrz
  refine c_exit (then_x (then_x (blk_eq rfl (tC (sR ?_)))));iterate 2 refine oV ?_
  refine nE ?_;refine ret2 rfl rfl rfl ?_;refine leaf0 ?_; rw [hrz]
def enumK (b : Bool) : List ByteArray → Nat → KN
  | [], _ => []
  | s :: l, i => (s, ⟨b, (i : Nat)⟩) :: enumK b l (i + 1)
theorem insZ_ok : ∀ {l : List ByteArray} {i : Nat} {K K' : KN} {n : ByteArray}, insZ l i K = (n, 0, K') → K' = K ++ enumK false l i
  | [], i, K, K', n, h => by
    have := congrArg (fun x => x.2.2) h
    rw [enumK, List.append_nil]; exact this.symm
  | s :: l, i, K, K', n, h => by
    rw [insZ] at h
    split at h
    · have := congrArg (fun x => x.2.1) h
      simp at this
    · rw [insZ_ok h, enumK, List.append_assoc]; rfl
def refsZ : List NodeC → List ByteArray
  | [] => []
  | c :: r => if c.kind ≠ 0 then refsZ r else c.name :: refsZ r
theorem refsZ_app : ∀ (a b : List NodeC), refsZ (a ++ b) = refsZ a ++ refsZ b
  | [], b => rfl
  | c :: a, b => by
    rw [List.cons_append, refsZ, refsZ, refsZ_app a b]
    split <;> rfl
theorem nodesZ_ok {K : KN} : ∀ {r : List NodeC} {L L' : List ByteArray}, nodesZ K r L = (none, L') → L' = L ++ refsZ r
  | [], L, L', h => by
    have := congrArg Prod.snd h
    rw [refsZ, List.append_nil]; exact this.symm
  | c :: r, L, L', h => by
    rw [nodesZ] at h
    rw [refsZ]
    split at h
    · rename_i hk
      rw [if_pos hk]; exact nodesZ_ok h
    · rename_i hk
      rw [if_neg hk]
      split at h
      · rw [nodesZ_ok h, List.append_assoc]; rfl
      · have := congrArg Prod.fst h
        cases this
theorem seg_app {all : List NodeC} {fr hi : Int} (h0 : 0 ≤ fr) (h : fr ≤ hi) (h2 : hi ≤ all.length) : segZ all fr hi ++ all.drop hi.toNat = all.drop fr.toNat := by
  unfold segZ
  have e := List.take_append_drop hi.toNat all
  conv => rhs; rw [← e]
  rw [List.drop_append, List.length_take, show fr.toNat - min hi.toNat all.length = 0 by omega, List.drop_zero]
theorem letsZ_ok {all : List NodeC} : ∀ {ls : List LetC} {i : Nat} {fr : Int} {K K' : KN} {L L' : List ByteArray} {n : ByteArray}, letsZ all ls i fr K L = (n, 0, K', L') → bgGo all ls fr = some (all.length : Int) → 0 ≤ fr → K' = K ++ enumK true (ls.map LetC.name) i ∧ L' = L ++ refsZ (all.drop fr.toNat)
  | [], i, fr, K, K', L, L', n, h, hg, h0 => by
    have h1 := congrArg (fun x => x.2.2.1) h
    have h2 := congrArg (fun x => x.2.2.2) h
    have h3 : fr = (all.length : Int) := Option.some.inj hg
    refine ⟨by rw [List.map_nil, enumK, List.append_nil]; exact h1.symm, ?_⟩
    rw [h3, Int.toNat_natCast, List.drop_length, refsZ, List.append_nil]
    exact h2.symm
  | c :: ls, i, fr, K, K', L, L', n, h, hg, h0 => by
    rw [letsZ] at h
    rw [bgGo_cons] at hg
    by_cases hcd : nameZ c.name = true ∧ fr ≤ c.root ∧ c.root < all.length ∧ begZ all fr all.length c.root = fr
    · rw [if_pos hcd] at hg
      cases hn : nodesZ K (segZ all fr (c.root + 1)) L with
      | mk e L1 =>
        rw [hn] at h
        cases e with
        | some m =>
          have := congrArg (fun x => x.2.1) h
          simp at this
        | none =>
          dsimp only at h
          split at h
          · have := congrArg (fun x => x.2.1) h
            simp at this
          · obtain ⟨h1, h2⟩ := letsZ_ok h hg (by omega)
            refine ⟨by rw [h1, List.map_cons, enumK, List.append_assoc]; rfl, ?_⟩
            rw [h2, nodesZ_ok hn, List.append_assoc, ← refsZ_app, seg_app h0 (by omega) (by omega)]
    · rw [if_neg hcd] at hg; cases hg
theorem ousZ_ok {K : KN} : ∀ {l L L' : List ByteArray} {n : ByteArray}, ousZ K l L = (n, 0, L') → L' = L ++ l
  | [], L, L', n, h => by
    have := congrArg (fun x => x.2.2) h
    rw [List.append_nil]; exact this.symm
  | s :: l, L, L', n, h => by
    rw [ousZ] at h
    split at h
    · rw [ousZ_ok h, List.append_assoc]; rfl
    · have := congrArg (fun x => x.2.1) h
      simp at this
theorem readZ_ok {p : ProgC} (h : (readZ p).err = 0) : (readZ p).K = enumK false p.ins 0 ++ enumK true (p.lets.map LetC.name) 0 ∧ (readZ p).L = refsZ p.all ++ p.outs := by
  cases ht : (tZ p).isSome with
  | false => rw [readZ_not ht] at h; cases h
  | true =>
    obtain ⟨l, hl⟩ := tZ_iff.1 ht
    have hgo := right_bg hl
    cases hi : insZ p.ins 0 [] with
    | mk n x =>
      obtain ⟨e, K⟩ := x
      by_cases he : e = 0
      · subst he
        cases hz : letsZ p.all p.lets 0 0 K [] with
        | mk m y =>
          obtain ⟨e2, K2, L2⟩ := y
          by_cases he2 : e2 = 0
          · subst he2
            have hr := readZ_outs ht hi hz
            rw [hr] at h ⊢
            dsimp only at h ⊢
            obtain ⟨h1, h2⟩ := letsZ_ok hz hgo (Int.le_refl _)
            cases ho : ousZ K2 p.outs L2 with
            | mk n3 z =>
              obtain ⟨e3, L3⟩ := z
              rw [ho] at h
              dsimp only at h
              subst h
              refine ⟨by rw [h1, insZ_ok hi]; rfl, ?_⟩
              show L3 = _
              rw [ousZ_ok ho, h2]
              rfl
          · rw [readZ_lets ht hi hz he2] at h; exact absurd h he2
      · rw [readZ_ins ht hi he] at h; exact absurd h he
def freeZ (p : ProgC) : List ByteArray := if (readZ p).err = 0 then (p.lets.map LetC.name).filter (fun n => decide (cnt n (readZ p).L = 0)) else []
theorem free_mem {p : ProgC} (h : (readZ p).err = 0) (n : ByteArray) : decide (cnt n (readZ p).L = 0) = !memB n (p.outs ++ refsZ p.all) := by
  rw [(readZ_ok h).2]
  have h1 := cnt_zero n (refsZ p.all ++ p.outs)
  have h2 := memB_iff n (p.outs ++ refsZ p.all)
  by_cases hm : n ∈ refsZ p.all ++ p.outs
  · rw [decide_eq_false (fun e => (h1.1 e) hm), h2.2 (by rcases List.mem_append.1 hm with a | a <;> simp [a])]; rfl
  · rw [decide_eq_true (h1.2 hm)]
    cases e : memB n (p.outs ++ refsZ p.all) with
    | false => rfl
    | true =>
      refine absurd ?_ hm
      rcases List.mem_append.1 (h2.1 e) with a | a <;> simp [a]
theorem filter_more {l : List ByteArray} {i : Nat} {x : ByteArray} (h : l[i]? = some x) (f : ByteArray → Bool) : (l.take (i + 1)).filter f = (l.take i).filter f ++ if f x = true then [x] else [] := by
  rw [List.take_add_one, h, List.filter_append]
  congr 1
  show [x].filter f = _
  cases hf : f x <;> simp [hf]
theorem filter_len (l : List ByteArray) (f : ByteArray → Bool) : (l.filter f).length ≤ l.length := List.length_filter_le _ _
theorem strs_flat (l : List ByteArray) : (scs l).flatten = strs l := by
  induction l with
  | nil => rfl
  | cons s l ih => simp only [scs, strs, List.map_cons, List.flatten_cons] at ih ⊢; rw [ih]; rfl
theorem scs_pl (l : List ByteArray) : ∀ c ∈ scs l, plain1 c = true := by
  intro c hc
  obtain ⟨x, _, rfl⟩ := List.mem_map.1 hc
  rfl
theorem leafSn {w : World} {I : Hp} {u : Value} {B B' : List Tw.Item} {R : Value → Hp → List Tw.Item → Prop} (l : List ByteArray) (ht : Take (snI u l) B B') (hm : l.length ≤ maxLen) (h : ∀ I', I.Le I' → Slc I' 1 u (scs l) → R u I' []) :
    ∀ w', St w [] I B w' → Post w [] I R u w' := by
  unfold snI at ht
  rw [← strs_flat] at ht
  exact fun w' hw' => leafRowX (Ext.refl _ _) (scs_len _) (scs_one _) hm h w' (hw'.perm ht.perm)
theorem scFree_any (vi vl vo va : Value) (p : ProgC) (ns : List NodeV) {I : Hp} (hp : ProgV I vi vl vo va p ns) (hf : ∀ o ∈ ns, o.c.few 100000) :
    Fun Tryz.prog 36 [.agg #[vi, vl, vo, va]] I [] (fun v I' _ => Slc I' 1 v (scs (freeZ p))) := by
  have hsi := hp.si
  have hsl := hp.sl
  have hso := hp.so
  have hsa := hp.sa
  have hll : (p.lets.map LetC.cells).length = p.lets.length := List.length_map _
  have hln : (p.lets.map LetC.name).length = p.lets.length := List.length_map _
  intro w hw
  refine enter1 _ Tryz.func36 rfl Tryz.ntmps36 rfl ?_ hw;refine sR ?_;refine o_box trivial rfl rfl rfl (fun b1 => ?_);refine oV ?_;refine nS ?_;refine oA Tryz.isAgg27 Tryz.sizeOf27 ?_;refine oC trivial rfl Tryz.call57 rfl (scRead_any vi vl vo va p ns hp hf) (by repeat constructor) ?_;rintro _ _ _ hxr ⟨rfl, b, bk, bu, rfl, rfl⟩;iterate 7 refine oV ?_
  refine nU ?_;iterate 2 refine oV ?_
  refine nT ?_;refine cC rfl (fun h1 => ?_) (fun h1 => ?_)
  ·
   have f1 := h1;try simp only [bl] at f1
   have he : (readZ p).err ≠ 0 := by simpa using h1
   have hfz : freeZ p = [] := if_neg he
   refine sR ?_;refine oV ?_;refine nF ?_;refine ret1 rfl rfl ?_;refine leaf0 ?_; rw [hfz]; exact Slc.nil _ _
  have f1 := h1;try simp only [bl] at f1
  have he : (readZ p).err = 0 := by simpa using h1
  have hfz : freeZ p = (p.lets.map LetC.name).filter (fun n => decide (cnt n (readZ p).L = 0)) := if_pos he
  have hlb : p.lets.length ≤ 40 := by
    cases ht : (tZ p).isSome with
    | false => rw [readZ_not ht] at he; cases he
    | true =>
      obtain ⟨l, hl⟩ := tZ_iff.1 ht
      rw [hl.lets, laid_lets]; exact hl.few.1
  refine kS ?_;refine oV ?_;refine nU ?_;refine oF 1 Tryz.underlying27 Tryz.sizeOf24 ?_;refine oL Tryz.isAgg24 ?_;refine o_lenSlc trivial rfl Tryz.underlying24 rfl (hsl) ?_;refine oV ?_;refine oN (tC (cB ?_));refine c_loop (ι := Nat × Value) [3, 18, 19] (.cons rfl (.cons rfl (.cons rfl .nil))) (fun x => p.lets.length - x.1) (fun x E0 => (6, x.2) :: (20, .int .i64 (x.1 : Nat)) :: E0) (fun x => St w [] I [snI x.2 (((p.lets.map LetC.name).take x.1).filter (fun n => decide (cnt n (readZ p).L = 0))), tbI b bk bu, knI bk (readZ p).K, usI bu (readZ p).L, .box b1 (.cells #[vi, vl, vo, va] 27 (0, 0))]) (fun x => x.1 ≤ p.lets.length) ((0, .slice none 0 0)) (sC rfl (sC rfl (sC rfl (sC rfl (sC rfl sN))))) (fun _ h => (h.nilRow 9 1).sort (by repeat constructor)) (Nat.zero_le _) ?_;rintro ⟨i, u⟩ hi
  try dsimp only
  simp only at hi; have hfl := filter_len ((p.lets.map LetC.name).take i) (fun n => decide (cnt n (readZ p).L = 0)); have htl : ((p.lets.map LetC.name).take i).length ≤ p.lets.length := by rw [List.length_take]; omega
  refine sR ?_;refine oV ?_;refine oN (tC (cS ?_));refine cC rfl (fun h2 => ?_) (fun h2 => ?_)
  ·
   have f2 := h2;try simp only [bl] at f2
   obtain ⟨c, hc⟩ : ∃ c, p.lets[i]? = some c := ⟨p.lets[i]'(by omega), List.getElem?_eq_getElem (by omega)⟩
   have hcn : (p.lets.map LetC.name)[i]? = some c.name := by rw [List.getElem?_map, hc]; rfl
   have hfm := filter_more hcn (fun n => decide (cnt n (readZ p).L = 0))
   refine cK (tC (cS (cB (sR ?_))));refine o_elem trivial rfl Tryz.underlying24 Tryz.sizeOf46 rfl (hsl) rfl (by omega) ?_;refine o_loadAI trivial rfl Tryz.isAgg46 Tryz.sizeOf46 rfl rfl (lts_at hsl hc) ?_;refine o_alloc trivial rfl Tryz.zeroValue46 rfl (fun b8 => ?_);refine oS Tryz.sizeOf46 ?_;refine oN (tC (cS ?_));refine c_quiet (by kernel_rfl) (by kernel_rfl) (fun _ h => h.drawn) ?_;iterate 2 refine oV ?_
   refine oF 1 Tryz.underlying94 Tryz.sizeOf92 ?_;refine oL Tryz.isAgg92 ?_;refine oF 0 Tryz.underlying46 Tryz.sizeOf9 ?_;refine oL Tryz.isAgg9 ?_;refine o_lookU trivial rfl Tryz.underlying92 Tryz.underlying9 Tryz.zeroValue3 rfl rfl (by repeat constructor) ?_;refine oV ?_;refine nT ?_;refine cC rfl (fun h3 => ?_) (fun h3 => ?_)
   ·
    have f3 := h3;try simp only [bl] at f3
    have hz0 : cnt c.name (readZ p).L = 0 := by simpa using h3
    rw [decide_eq_true hz0, if_pos rfl] at hfm
    refine cR ?_;refine oV ?_;refine oF 0 Tryz.underlying46 Tryz.sizeOf9 ?_;refine oL Tryz.isAgg9 ?_;refine oB Tryz.underlying23 Tryz.sizeOf9 Tryz.zeroValue9 fun b35 => ?_;refine oD Tryz.underlying23 elem9 fun v36 => ?_;refine oV ?_;refine oN (blk_n (tC (cR ?_)))
    first | (refine o_add trivial rfl rfl rfl ?_ ?_; (omega)) | refine oV ?_
    refine oV ?_;refine oN ?_
    first | exact again (i + 1, v36) (sC rfl (sC rfl (sC rfl (sC rfl (sC rfl sN))))) (fun _ h => by rw [hfm]; unfold snI; rw [strs_more, List.length_append]; exact h.sort (by repeat constructor)) (by show p.lets.length - (i + 1) < p.lets.length - i; omega) (by show i + 1 ≤ _; omega) | exact again (i + 1, u) (sC rfl (sC rfl (sC rfl (sC rfl (sC rfl sN))))) (fun _ h => by rw [hfm]; exact h.sort (by repeat constructor)) (by show p.lets.length - (i + 1) < p.lets.length - i; omega) (by show i + 1 ≤ _; omega)
   have f3 := h3;try simp only [bl] at f3
   have hz0 : cnt c.name (readZ p).L ≠ 0 := by simpa using h3
   rw [decide_eq_false hz0, if_neg (by decide), List.append_nil] at hfm
   refine cK (blk_n (tC (cR ?_)))
   first | (refine o_add trivial rfl rfl rfl ?_ ?_; (omega)) | refine oV ?_
   refine oV ?_;refine oN ?_
   first | exact again (i + 1, v36) (sC rfl (sC rfl (sC rfl (sC rfl (sC rfl sN))))) (fun _ h => by rw [hfm]; unfold snI; rw [strs_more, List.length_append]; exact h.sort (by repeat constructor)) (by show p.lets.length - (i + 1) < p.lets.length - i; omega) (by show i + 1 ≤ _; omega) | exact again (i + 1, u) (sC rfl (sC rfl (sC rfl (sC rfl (sC rfl sN))))) (fun _ h => by rw [hfm]; exact h.sort (by repeat constructor)) (by show p.lets.length - (i + 1) < p.lets.length - i; omega) (by show i + 1 ≤ _; omega)
  have f2 := h2;try simp only [bl] at f2
  refine c_exit (then_x (then_x (blk_eq rfl (tC (sR ?_)))));iterate 2 refine oV ?_
  refine nE ?_;refine ret1 rfl rfl ?_;refine leafSn (((p.lets.map LetC.name).take i).filter (fun n => decide (cnt n (readZ p).L = 0))) (by repeat constructor) (by unfold maxLen; omega) (fun I' hl hs => ?_)
  rw [List.take_of_length_le (by omega)] at hs
  rw [hfz]
  exact hs
theorem refs_take {l : List NodeC} {i : Nat} {c : NodeC} (h : l[i]? = some c) : refsZ (l.take (i + 1)) = refsZ (l.take i) ++ if c.kind ≠ 0 then [] else [c.name] := by
  rw [List.take_add_one, h, refsZ_app]
  congr 1
theorem refs_len : ∀ (l : List NodeC), (refsZ l).length ≤ l.length
  | [] => Nat.le_refl _
  | c :: l => by
    have := refs_len l
    rw [refsZ, List.length_cons]
    split
    · omega
    · rw [List.length_cons]; omega
theorem dFree_any (vi vl vo va : Value) (p : ProgC) (ns : List NodeV) {I : Hp} (hp : ProgV I vi vl vo va p ns) (hf : ∀ o ∈ ns, o.c.few 3000) :
    Fun Tryz.prog 37 [.agg #[vi, vl, vo, va]] I [] (fun v I' _ => Slc I' 1 v (scs (freeZ p))) := by
  have hsi := hp.si
  have hsl := hp.sl
  have hso := hp.so
  have hsa := hp.sa
  have hla := nds_len ns
  have hlo := scs_len p.outs
  have hal : p.all.length = ns.length := by rw [← hp.eq, List.length_map]
  have hll : (p.lets.map LetC.cells).length = p.lets.length := List.length_map _
  intro w hw
  refine enter1 _ Tryz.func37 rfl Tryz.ntmps37 rfl ?_ hw;refine sR ?_;refine o_box trivial rfl rfl rfl (fun b1 => ?_);refine oV ?_;refine nS ?_;refine oA Tryz.isAgg27 Tryz.sizeOf27 ?_;refine oQ Tryz.call34 rfl (dCheck_any vi vl vo va p ns hp hf) ?_;iterate 5 refine oV ?_
  refine nU ?_;iterate 2 refine oV ?_
  refine nT ?_;refine cC rfl (fun h1 => ?_) (fun h1 => ?_)
  ·
   have f1 := h1;try simp only [bl] at f1
   have he : (readZ p).err ≠ 0 := by simpa using h1
   have hfz : freeZ p = [] := if_neg he
   refine sR ?_;refine oV ?_;refine nF ?_;refine ret1 rfl rfl ?_;refine leaf0 ?_; rw [hfz]; exact Slc.nil _ _
  have f1 := h1;try simp only [bl] at f1
  have he : (readZ p).err = 0 := by simpa using h1
  have hfz : freeZ p = (p.lets.map LetC.name).filter (fun n => decide (cnt n (readZ p).L = 0)) := if_pos he
  obtain ⟨hlb, hab, hob⟩ : p.lets.length ≤ 40 ∧ p.all.length ≤ 400 ∧ p.outs.length ≤ 40 := by
    cases ht : (tZ p).isSome with
    | false => rw [readZ_not ht] at he; cases he
    | true =>
      obtain ⟨l, hl⟩ := tZ_iff.1 ht
      refine ⟨?_, hl.few.2, hl.outs.2.2⟩
      rw [hl.lets, laid_lets]; exact hl.few.1
  refine kS ?_;refine o_emptySl trivial rfl Tryz.underlying23 Tryz.sizeOf9 (fun v17 => ?_);refine oF 2 Tryz.underlying27 Tryz.sizeOf23 ?_;refine oL Tryz.isAgg23 ?_;refine oE Tryz.underlying23 elem9 (hso) (scs_pl _) fun v20 => ?_;refine oV ?_;refine nU ?_;refine oV ?_;refine oN (tC (cB ?_));refine c_loop (ι := Nat × Value) [1] (.cons rfl .nil) (fun x => ns.length - x.1) (fun x E0 => (5, x.2) :: (6, .int .i64 (x.1 : Nat)) :: E0) (fun x => St w [] I [snI x.2 (p.outs ++ refsZ (p.all.take x.1)), .box b1 (.cells #[vi, vl, vo, va] 27 (0, 0))]) (fun x => x.1 ≤ ns.length) ((0, v20)) (sC rfl (sC rfl (sC rfl sN))) (fun _ h => by rw [List.take_zero]; unfold snI; rw [show p.outs ++ refsZ [] = p.outs from List.append_nil _]; rw [hlo, strs_flat, Nat.zero_add] at h; exact h) (Nat.zero_le _) ?_;rintro ⟨i, u⟩ hi
  try dsimp only
  simp only at hi; have hrl := refs_len (p.all.take i); have htl : (p.all.take i).length ≤ p.all.length := by rw [List.length_take]; omega
  refine cS (sR ?_);refine oV ?_;refine oF 3 Tryz.underlying27 Tryz.sizeOf25 ?_;refine oL Tryz.isAgg25 ?_;refine o_lenSlc trivial rfl Tryz.underlying25 rfl (hsa) ?_;refine oV ?_;refine nT ?_;refine cC rfl (fun h2 => ?_) (fun h2 => ?_)
  ·
   have f2 := h2;try simp only [bl] at f2
   obtain ⟨o, ho⟩ : ∃ o, ns[i]? = some o := ⟨ns[i]'(by omega), List.getElem?_eq_getElem (by omega)⟩
   have hoc : p.all[i]? = some o.c := by rw [← hp.eq, List.getElem?_map, ho]; rfl
   have hrt := refs_take hoc
   refine cK (tC (cS (cB (sR ?_))));refine oF 3 Tryz.underlying27 Tryz.sizeOf25 ?_;refine oL Tryz.isAgg25 ?_;refine oV ?_;refine o_elem trivial rfl Tryz.underlying25 Tryz.sizeOf44 rfl (hsa) rfl (by omega) ?_;refine oF 0 Tryz.underlying44 Tryz.sizeOf3 ?_;refine o_load1I trivial rfl Tryz.isAgg3 rfl (nds_at hsa ho 0 _ rfl) ?_;refine oV ?_;refine nT ?_;refine cC rfl (fun h3 => ?_) (fun h3 => ?_)
   ·
    have f3 := h3;try simp only [bl] at f3
    have hk0 : o.c.kind = 0 := by simpa using h3
    rw [if_neg (not_not_intro hk0)] at hrt
    refine cR ?_;refine oV ?_;refine oF 3 Tryz.underlying27 Tryz.sizeOf25 ?_;refine oL Tryz.isAgg25 ?_;refine oV ?_;refine o_elem trivial rfl Tryz.underlying25 Tryz.sizeOf44 rfl (hsa) rfl (by omega) ?_;refine oF 4 Tryz.underlying44 Tryz.sizeOf9 ?_;refine o_load1I trivial rfl Tryz.isAgg9 rfl (nds_at hsa ho 4 _ rfl) ?_;refine oB Tryz.underlying23 Tryz.sizeOf9 Tryz.zeroValue9 fun b42 => ?_;refine o_appendBox trivial rfl Tryz.underlying23 (elem9) (by decide) rfl rfl (fun v' => (by repeat constructor)) (by repeat constructor) rfl (by first | rfl | decide) (by rw [List.length_append]; unfold maxLen; omega) (by rw [List.length_append]; omega) (fun v43 => ?_);refine oV ?_;refine oN (blk_n (tC (cR ?_)));refine oV ?_
    first | (refine o_add trivial rfl rfl rfl ?_ ?_; (omega)) | refine oV ?_
    refine oV ?_;refine oN ?_
    first | exact again (i + 1, v43) (sC rfl (sC rfl (sC rfl sN))) (fun _ h => by rw [hrt, ← List.append_assoc]; unfold snI; rw [strs_more, List.length_append (bs := [o.c.name])]; exact h.sort (by repeat constructor)) (by show ns.length - (i + 1) < ns.length - i; omega) (by show i + 1 ≤ _; omega) | exact again (i + 1, u) (sC rfl (sC rfl (sC rfl sN))) (fun _ h => by rw [hrt]; exact h.sort (by repeat constructor)) (by show ns.length - (i + 1) < ns.length - i; omega) (by show i + 1 ≤ _; omega)
   have f3 := h3;try simp only [bl] at f3
   have hk0 : o.c.kind ≠ 0 := by simpa using h3
   rw [if_pos hk0, List.append_nil] at hrt
   refine cK (blk_n (tC (cR ?_)));refine oV ?_
   first | (refine o_add trivial rfl rfl rfl ?_ ?_; (omega)) | refine oV ?_
   refine oV ?_;refine oN ?_
   first | exact again (i + 1, v43) (sC rfl (sC rfl (sC rfl sN))) (fun _ h => by rw [hrt, ← List.append_assoc]; unfold snI; rw [strs_more, List.length_append (bs := [o.c.name])]; exact h.sort (by repeat constructor)) (by show ns.length - (i + 1) < ns.length - i; omega) (by show i + 1 ≤ _; omega) | exact again (i + 1, u) (sC rfl (sC rfl (sC rfl sN))) (fun _ h => by rw [hrt]; exact h.sort (by repeat constructor)) (by show ns.length - (i + 1) < ns.length - i; omega) (by show i + 1 ≤ _; omega)
  have f2 := h2;try simp only [bl] at f2
  rw [List.take_of_length_le (show p.all.length ≤ i by omega)]
  have hrl2 := refs_len p.all
  have hul : (p.outs ++ refsZ p.all).length ≤ 440 := by rw [List.length_append]; omega
  refine c_exit (then_x (then_x (blk_eq rfl (tC (sR ?_)))));refine oV ?_;refine nU ?_;refine oV ?_;refine oN (tC (cB ?_));refine c_loop (ι := Nat × Value) [1, 5] (.cons rfl (.cons rfl .nil)) (fun x => p.lets.length - x.1) (fun x E0 => (7, x.2) :: (8, .int .i64 (x.1 : Nat)) :: E0) (fun x => St w [] I [snI x.2 (((p.lets.map LetC.name).take x.1).filter (fun n => decide (cnt n (readZ p).L = 0))), snI u (p.outs ++ refsZ p.all), .box b1 (.cells #[vi, vl, vo, va] 27 (0, 0))]) (fun x => x.1 ≤ p.lets.length) ((0, .slice none 0 0)) (sC rfl (sC rfl (sC rfl (sC rfl sN)))) (fun _ h => (h.nilRow 9 1).sort (by repeat constructor)) (Nat.zero_le _) ?_;rintro ⟨j, u2⟩ hj
  try dsimp only
  simp only at hj; have hfl := filter_len ((p.lets.map LetC.name).take j) (fun n => decide (cnt n (readZ p).L = 0)); have htl2 : ((p.lets.map LetC.name).take j).length ≤ p.lets.length := by rw [List.length_take, List.length_map]; omega
  refine cS (sR ?_);refine oV ?_;refine oF 1 Tryz.underlying27 Tryz.sizeOf24 ?_;refine oL Tryz.isAgg24 ?_;refine o_lenSlc trivial rfl Tryz.underlying24 rfl (hsl) ?_;refine oV ?_;refine nT ?_;refine cC rfl (fun h4 => ?_) (fun h4 => ?_)
  ·
   have f4 := h4;try simp only [bl] at f4
   obtain ⟨c, hc⟩ : ∃ c, p.lets[j]? = some c := ⟨p.lets[j]'(by omega), List.getElem?_eq_getElem (by omega)⟩
   have hcn : (p.lets.map LetC.name)[j]? = some c.name := by rw [List.getElem?_map, hc]; rfl
   have hfm := filter_more hcn (fun n => decide (cnt n (readZ p).L = 0))
   have hfe := free_mem he c.name
   try dsimp only at hfm
   rw [hfe] at hfm
   refine cK (tC (cS (cB (sR ?_))));refine oV ?_;refine oF 1 Tryz.underlying27 Tryz.sizeOf24 ?_;refine oL Tryz.isAgg24 ?_;refine oV ?_;refine o_elem trivial rfl Tryz.underlying24 Tryz.sizeOf46 rfl (hsl) rfl (by omega) ?_;refine oF 0 Tryz.underlying46 Tryz.sizeOf9 ?_;refine o_load1I trivial rfl Tryz.isAgg9 rfl (lts_at hsl hc 0 _ rfl) ?_;refine oC trivial rfl Tryz.call60 rfl (in_any u (p.outs ++ refsZ p.all) c.name (by omega)) (by repeat constructor) ?_;rintro _ _ _ hxa ⟨rfl, rfl, rfl⟩;refine oV ?_;refine nS ?_;iterate 2 refine oV ?_
   refine nT ?_;refine cC rfl (fun h5 => ?_) (fun h5 => ?_)
   ·
    have f5 := h5;try simp only [bl] at f5
    rw [if_pos h5] at hfm
    refine cR ?_;refine oV ?_;refine oF 1 Tryz.underlying27 Tryz.sizeOf24 ?_;refine oL Tryz.isAgg24 ?_;refine oV ?_;refine o_elem trivial rfl Tryz.underlying24 Tryz.sizeOf46 rfl (hsl) rfl (by omega) ?_;refine oF 0 Tryz.underlying46 Tryz.sizeOf9 ?_;refine o_load1I trivial rfl Tryz.isAgg9 rfl (lts_at hsl hc 0 _ rfl) ?_;refine oB Tryz.underlying23 Tryz.sizeOf9 Tryz.zeroValue9 fun b68 => ?_;refine oD Tryz.underlying23 elem9 fun v69 => ?_;refine oV ?_;refine oN (blk_n (tC (cR ?_)));refine oV ?_
    first | (refine o_add trivial rfl rfl rfl ?_ ?_; (omega)) | refine oV ?_
    refine oV ?_;refine oN ?_
    first | exact again (j + 1, v69) (sC rfl (sC rfl (sC rfl (sC rfl sN)))) (fun _ h => by rw [hfm]; unfold snI; rw [strs_more, List.length_append (bs := [c.name])]; exact h.sort (by repeat constructor)) (by show p.lets.length - (j + 1) < p.lets.length - j; omega) (by show j + 1 ≤ _; omega) | exact again (j + 1, u2) (sC rfl (sC rfl (sC rfl (sC rfl sN)))) (fun _ h => by rw [hfm]; exact h.sort (by repeat constructor)) (by show p.lets.length - (j + 1) < p.lets.length - j; omega) (by show j + 1 ≤ _; omega)
   have f5 := h5;try simp only [bl] at f5
   rw [h5, if_neg (by decide), List.append_nil] at hfm
   refine cK (blk_n (tC (cR ?_)));refine oV ?_
   first | (refine o_add trivial rfl rfl rfl ?_ ?_; (omega)) | refine oV ?_
   refine oV ?_;refine oN ?_
   first | exact again (j + 1, v69) (sC rfl (sC rfl (sC rfl (sC rfl sN)))) (fun _ h => by rw [hfm]; unfold snI; rw [strs_more, List.length_append (bs := [c.name])]; exact h.sort (by repeat constructor)) (by show p.lets.length - (j + 1) < p.lets.length - j; omega) (by show j + 1 ≤ _; omega) | exact again (j + 1, u2) (sC rfl (sC rfl (sC rfl (sC rfl sN)))) (fun _ h => by rw [hfm]; exact h.sort (by repeat constructor)) (by show p.lets.length - (j + 1) < p.lets.length - j; omega) (by show j + 1 ≤ _; omega)
  have f4 := h4;try simp only [bl] at f4
  refine c_exit (then_x (then_x (blk_eq rfl (tC (sR ?_)))));iterate 2 refine oV ?_
  refine nE ?_;refine ret1 rfl rfl ?_;refine leafSn (((p.lets.map LetC.name).take j).filter (fun n => decide (cnt n (readZ p).L = 0))) (by repeat constructor) (by unfold maxLen; omega) (fun I' hl hs => ?_)
  rw [List.take_of_length_le (by rw [List.length_map]; omega)] at hs
  rw [hfz]
  exact hs
def s13A : ByteArray := ⟨#[105, 110, 32, 120, 59, 32, 108, 101, 116, 32, 97, 32, 61, 32, 98, 59, 32, 108, 101, 116, 32, 98, 32, 61, 32, 120, 59, 32, 111, 117, 116, 32, 97, 59]⟩
def s13B : ByteArray := ⟨#[105, 110, 32, 120, 59, 32, 108, 101, 116, 32, 98, 32, 61, 32, 120, 59, 32, 108, 101, 116, 32, 97, 32, 61, 32, 98, 59, 32, 111, 117, 116, 32, 97, 59]⟩
def awB : ByteArray := ⟨#[98]⟩
def t13A : List Tok := [awT 0 inS 1, awT 0 awX 4, awT 2 semiS 5, awT 0 letS 7, awT 0 awA 11, awT 2 equalS 13, awT 0 awB 15, awT 2 semiS 16, awT 0 letS 18, awT 0 awB 22, awT 2 equalS 24, awT 0 awX 26, awT 2 semiS 27, awT 0 outS 29, awT 0 awA 33, awT 2 semiS 34]
def t13B : List Tok := [awT 0 inS 1, awT 0 awX 4, awT 2 semiS 5, awT 0 letS 7, awT 0 awB 11, awT 2 equalS 13, awT 0 awX 15, awT 2 semiS 16, awT 0 letS 18, awT 0 awA 22, awT 2 equalS 24, awT 0 awB 26, awT 2 semiS 27, awT 0 outS 29, awT 0 awA 33, awT 2 semiS 34]
theorem lex13A : lexZ s13A = ⟨t13A, 0, 0, 0⟩ := by kernel_rfl
theorem lex13B : lexZ s13B = ⟨t13B, 0, 0, 0⟩ := by kernel_rfl
theorem nameZ_B : nameZ awB = true := by kernel_rfl
theorem nameT_B {c : Int} : nameT (awT 0 awB c) = true := by unfold nameT; simp [awT, nameZ_B]
def p13A : ProgC := ⟨[awX], [⟨awA, 0⟩, ⟨awB, 1⟩], [awA], [refN awB, refN awX]⟩
def p13B : ProgC := ⟨[awX], [⟨awB, 0⟩, ⟨awA, 1⟩], [awA], [refN awX, refN awB]⟩
theorem right13A : RightP p13A [(awA, .ref awB), (awB, .ref awX)] where
  lets := rfl
  all := rfl
  ok := fun a ha => by
    simp only [List.mem_cons, List.not_mem_nil, or_false] at ha
    rcases ha with rfl | rfl
    · exact ⟨nameZ_A, nameZ_B⟩
    · exact ⟨nameZ_B, nameZ_X⟩
  ins := ⟨fun s hs => by rw [List.mem_singleton.1 hs]; exact nameZ_X, by decide, by decide⟩
  outs := ⟨fun s hs => by rw [List.mem_singleton.1 hs]; exact nameZ_A, by decide, by decide⟩
  few := ⟨by decide, by decide⟩
  low := fun a ha => by
    simp only [List.mem_cons, List.not_mem_nil, or_false] at ha
    rcases ha with rfl | rfl <;> decide
theorem right13B : RightP p13B [(awB, .ref awX), (awA, .ref awB)] where
  lets := rfl
  all := rfl
  ok := fun a ha => by
    simp only [List.mem_cons, List.not_mem_nil, or_false] at ha
    rcases ha with rfl | rfl
    · exact ⟨nameZ_B, nameZ_X⟩
    · exact ⟨nameZ_A, nameZ_B⟩
  ins := ⟨fun s hs => by rw [List.mem_singleton.1 hs]; exact nameZ_X, by decide, by decide⟩
  outs := ⟨fun s hs => by rw [List.mem_singleton.1 hs]; exact nameZ_A, by decide, by decide⟩
  few := ⟨by decide, by decide⟩
  low := fun a ha => by
    simp only [List.mem_cons, List.not_mem_nil, or_false] at ha
    rcases ha with rfl | rfl <;> decide
theorem sum13 {s : ByteArray} {c d : Int} (h : nameZ s = true) (all : List NodeC) (r : List Tok) : Ps .sum all (awT 0 s c :: awT 2 semiS d :: r) (.ok (all ++ [refN s]) (awT 2 semiS d :: r)) := by
  have h2 : leafT (awT 0 s c) = true := by unfold leafT; simp [awT, h]
  have l2 : leafN (awT 0 s c) = refN s := by unfold leafN; rw [if_neg (show ¬ (awT 0 s c).kind = 1 by show ¬ (0 : Int) = 1; decide)]; rfl
  have p2 := Ps.leaf (all := all) (r := awT 2 semiS d :: r) h2
  rw [l2] at p2
  have m2 : mulK (awT 2 semiS d) = none := by unfold mulK; rw [if_neg (by rw [isT_un (by decide)]; decide), if_neg (by rw [isT_un (by decide)]; decide)]
  have a2 : addK (awT 2 semiS d) = none := by unfold addK; rw [if_neg (by rw [isT_un (by decide)]; decide), if_neg (by rw [isT_un (by decide)]; decide)]
  exact .sum_ok (.product_ok (.fac (isT_no (by show (0 : Int) ≠ 2; decide)) (.power_ok p2 (.pow_none (isT_un (by decide))))) (.prodL_end m2)) (.sumL_end a2)
theorem prg13A : prgZ t13A = .ok p13A :=
  prgZ_eq (.ok isT_self (namesZ_aw nameT_X) (.more isT_self (.ok nameT_A isT_self (sum13 nameZ_B [] _) isT_self) (.more isT_self (.ok nameT_B isT_self (sum13 nameZ_X [refN awB] _) isT_self) (.fin (isT_un (by decide))))) isT_self (namesZ_aw nameT_A))
theorem prg13B : prgZ t13B = .ok p13B :=
  prgZ_eq (.ok isT_self (namesZ_aw nameT_X) (.more isT_self (.ok nameT_B isT_self (sum13 nameZ_X [] _) isT_self) (.more isT_self (.ok nameT_A isT_self (sum13 nameZ_B [refN awX] _) isT_self) (.fin (isT_un (by decide))))) isT_self (namesZ_aw nameT_A))
theorem parse13A : parseZ s13A = ⟨p13A, 0, 0, 0⟩ := by
  unfold parseZ
  rw [lex13A]
  dsimp only
  rw [if_neg (by decide), prg13A]
  unfold parseT
  dsimp only
  rw [if_pos (by rw [tZ_right right13A]; rfl)]
theorem parse13B : parseZ s13B = ⟨p13B, 0, 0, 0⟩ := by
  unfold parseZ
  rw [lex13B]
  dsimp only
  rw [if_neg (by decide), prg13B]
  unfold parseT
  dsimp only
  rw [if_pos (by rw [tZ_right right13B]; rfl)]
theorem read13A : readZ p13A = ⟨awB, 6, [(awX, ⟨false, 0⟩)], []⟩ :=
  readZ_lets (K := [(awX, ⟨false, 0⟩)]) (n := ⟨#[]⟩) (by rw [tZ_right right13A]; rfl) (by kernel_rfl) (by kernel_rfl) (by decide)
theorem read13B : readZ p13B = ⟨⟨#[]⟩, 0, [(awX, ⟨false, 0⟩), (awB, ⟨true, 0⟩), (awA, ⟨true, 1⟩)], [awX, awB, awA]⟩ := by
  have h := readZ_outs (p := p13B) (n := ⟨#[]⟩) (m := ⟨#[]⟩) (K := [(awX, ⟨false, 0⟩)]) (K2 := [(awX, ⟨false, 0⟩), (awB, ⟨true, 0⟩), (awA, ⟨true, 1⟩)]) (L := [awX, awB]) (by rw [tZ_right right13B]; rfl) (by kernel_rfl) (by kernel_rfl)
  exact h.trans (by kernel_rfl)
theorem where13B : whereZ p13B awA = (true, 1, true) := by
  unfold whereZ
  rw [read13B]
  kernel_rfl
theorem awake13_any {I : Hp} (hT : Tabs I) (hM : Mx I) (hE : Errs I) : Fun Tryz.prog 29 [] I [] (fun v _ _ => v = .bool true) := by
  have hpa := parse_any s13A hT hM hE (by decide)
  rw [parse13A] at hpa
  intro w hw
  refine enter0 _ Tryz.func29 rfl Tryz.ntmps29 ?_ hw;refine sR ?_;refine oV ?_;refine nS ?_;refine oI Tryz.call15 rfl hpa ?_;rintro _ I1 hx1 ⟨vi, vl, vo, va, ns, rfl, hp, hf⟩;refine oV ?_
  have hp : ProgV I1 vi vl vo va p13A ns := hp
  have hsi := hp.si
  have hsl := hp.sl
  have hso := hp.so
  have hsa := hp.sa
  have hpb := parse_any s13B (hT.le hx1.le) (hM.le hx1.le) (hE.le hx1.le) (by decide)
  rw [parse13B] at hpb
  iterate 3 refine oV ?_
  refine o_alloc trivial rfl Tryz.zeroValue27 rfl (fun b1 => ?_);refine o_alloc trivial rfl Tryz.zeroValue29 rfl (fun b2 => ?_);refine oS Tryz.sizeOf27 ?_;refine oS Tryz.sizeOf29 ?_;refine oV ?_;refine nS ?_;refine oI Tryz.call15 rfl hpb ?_;rintro _ I2 hx2 ⟨ui, ul, uo, ua, ms, rfl, hq, hg⟩;refine oV ?_
  have hq : ProgV I2 ui ul uo ua p13B ms := hq
  have hti := hq.si
  have htl := hq.sl
  have hto := hq.so
  have hta := hq.sa
  have hf' : ∀ o ∈ ns, o.c.few 100000 := fun o ho => ⟨Nat.le_trans (hf o ho).1 (by decide), Nat.le_trans (hf o ho).2 (by decide)⟩
  have hg' : ∀ o ∈ ms, o.c.few 100000 := fun o ho => ⟨Nat.le_trans (hg o ho).1 (by decide), Nat.le_trans (hg o ho).2 (by decide)⟩
  have hc1 := scCheck_any vi vl vo va p13A ns (hp.le hx2.le) hf'
  have hc2 := scCheck_any ui ul uo ua p13B ms hq hg'
  have hw := scWhere_any ui ul uo ua p13B ms awA hq hg'
  rw [read13A] at hc1
  rw [read13B] at hc2
  rw [where13B] at hw
  iterate 3 refine oV ?_
  refine o_alloc trivial rfl Tryz.zeroValue27 rfl (fun b4 => ?_);refine o_alloc trivial rfl Tryz.zeroValue29 rfl (fun b5 => ?_);refine oS Tryz.sizeOf27 ?_;refine oS Tryz.sizeOf29 ?_;refine oV ?_;refine nS ?_;refine oA Tryz.isAgg27 Tryz.sizeOf27 ?_;refine oQ Tryz.call32 rfl hc1 ?_;iterate 5 refine oV ?_
  refine nS ?_;refine oA Tryz.isAgg27 Tryz.sizeOf27 ?_;refine oQ Tryz.call32 rfl hc2 ?_;iterate 5 refine oV ?_
  refine nS ?_;refine oA Tryz.isAgg27 Tryz.sizeOf27 ?_;refine oQ Tryz.call30 rfl hw ?_;iterate 7 refine oV ?_
  refine nS ?_;iterate 2 refine oV ?_
  refine' o_and trivial trivial rfl rfl rfl rfl rfl rfl rfl rfl (fun hb42 => ?_) ?_;rotate_left
  ·
   iterate 2 refine gV hb42 ?_
   refine oN ?_;exact joins rfl
  refine' o_and trivial trivial rfl rfl rfl rfl rfl rfl rfl rfl (fun hb46 => ?_) ?_;rotate_left
  ·
   iterate 2 refine gV hb46 ?_
   refine oN ?_;exact joins rfl
  refine' o_and trivial trivial rfl rfl rfl rfl rfl rfl rfl rfl (fun hb50 => ?_) ?_;rotate_left
  ·
   iterate 2 refine gV hb50 ?_
   refine oN ?_;exact joins rfl
  refine' o_and trivial trivial rfl rfl rfl rfl rfl rfl rfl rfl (fun hb54 => ?_) ?_;rotate_left
  ·
   iterate 2 refine gV hb54 ?_
   refine oN ?_;exact joins rfl
  refine' o_and trivial trivial rfl rfl rfl rfl rfl rfl rfl rfl (fun hb58 => ?_) ?_;rotate_left
  ·
   iterate 2 refine gV hb58 ?_
   refine oN ?_;exact joins rfl
  refine' o_and trivial trivial rfl rfl rfl rfl rfl rfl rfl rfl (fun hb62 => ?_) ?_;rotate_left
  ·
   refine gV hb62 ?_;refine oN ?_;exact joins rfl
  refine' o_and trivial trivial rfl rfl rfl rfl rfl rfl rfl rfl (fun hb65 => ?_) ?_;rotate_left
  ·
   iterate 2 refine gV hb65 ?_
   refine oN ?_;exact joins rfl
  refine' o_and trivial trivial rfl rfl rfl rfl rfl rfl rfl rfl (fun hb69 => ?_) ?_;rotate_left
  ·
   refine gV hb69 ?_;refine oN ?_;exact joins rfl
  refine oV ?_;refine nE ?_;refine ret1 rfl rfl ?_;refine leaf (hx1.trans hx2 (Nat.le_refl _)) (List.nil_sublist _) (congrArg Value.bool ?_); kernel_rfl
theorem ScopeChecks_any (vi vl vo va : Value) (p : ProgC) (ns : List NodeV) {I : Hp} (hp : ProgV I vi vl vo va p ns) (hT : Tabs I) (hM : Mx I) (hE : Errs I) : Fun Tryz.prog 13 [.agg #[vi, vl, vo, va]] I [] (fun v _ _ => v = .bool true) := by
  have hsi := hp.si
  have hsl := hp.sl
  have hso := hp.so
  have hsa := hp.sa
  intro w hw
  refine enter1 _ Tryz.func13 rfl Tryz.ntmps13 rfl ?_ hw;refine sR ?_;refine o_box trivial rfl rfl rfl (fun b1 => ?_);refine oV ?_;refine nS ?_;refine oQ Tryz.call29 rfl (awake13_any hT hM hE) ?_;refine oV ?_;refine nS ?_;refine oA Tryz.isAgg27 Tryz.sizeOf27 ?_;refine oQ Tryz.call18 rfl (rrFew_any vi vl vo va p ns 40 hp) ?_;refine oV ?_;refine nU ?_;iterate 2 refine oV ?_
  refine nT ?_;refine cC rfl (fun h1 => ?_) (fun h1 => ?_)
  ·
   have f1 := h1;try simp only [bl] at f1
   refine sR ?_;iterate 2 refine oV ?_
   refine nF ?_;refine ret1 rfl rfl ?_;exact leaf0 rfl
  have f1 := h1;try simp only [bl] at f1
  obtain ⟨m1, m2, m3, m4, m5, m6⟩ := few_of (p := p) (ns := ns) (k := 40) (by simpa using h1) hp.eq
  have hf1 : ∀ o ∈ ns, o.c.few 100000 := fun o ho => few_up (m5 o ho) (by decide)
  have hf2 : ∀ o ∈ ns, o.c.few 3000 := fun o ho => few_up (m5 o ho) (by decide)
  refine kS ?_;refine oA Tryz.isAgg27 Tryz.sizeOf27 ?_;refine oQ Tryz.call32 rfl (scCheck_any vi vl vo va p ns hp hf1) ?_;iterate 5 refine oV ?_
  refine nS ?_;refine oA Tryz.isAgg27 Tryz.sizeOf27 ?_;refine oQ Tryz.call34 rfl (dCheck_any vi vl vo va p ns hp hf2) ?_;iterate 5 refine oV ?_
  refine oN (tC (cS ?_));refine h_beginB (m := 19) [.box b1 _] (by repeat constructor) (by kernel_rfl) rfl ?_;refine qT (i := 0) (qB 19 1) (Hp.Le.refl _) rfl rfl (oV qF) ?_;refine qT (i := 1) (qB 19 3) (Hp.Le.refl _) rfl rfl (oV qF) ?_;refine qT (i := 2) (qB 19 7) (Hp.Le.refl _) rfl rfl (o_pv (wS rfl rfl rfl) rfl rfl qF) ?_;refine qT (i := 3) (qB 19 15) (Hp.Le.refl _) rfl rfl (o_pv (wS rfl rfl rfl) rfl rfl qF) ?_;refine qT (i := 4) (qB 19 31) (Hp.Le.refl _) rfl rfl (o_pv (wS rfl rfl rfl) rfl (congrArg (fun b => some (Value.bool b)) (beq_self_eq_true _)) qF) ?_;refine qT (i := 5) (qB 19 63) (Hp.Le.refl _) rfl rfl (oV qF) ?_;refine qT (i := 6) (qB 19 127) (Hp.Le.refl _) rfl rfl (oV qF) ?_;refine qT (i := 7) (qB 19 255) (Hp.Le.refl _) rfl rfl (o_pv (wS rfl rfl rfl) rfl rfl qF) ?_;refine qT (i := 8) (qB 19 511) (Hp.Le.refl _) rfl rfl (o_pv (wS rfl rfl rfl) rfl rfl qF) ?_;refine qT (i := 9) (qB 19 1023) (Hp.Le.refl _) rfl rfl (o_pv (wS rfl rfl rfl) rfl (congrArg (fun b => some (Value.bool b)) (beq_self_eq_true _)) qF) ?_;refine qT (i := 10) (qB 19 2047) (Hp.Le.refl _) rfl rfl (oV qF) ?_;refine qT (i := 11) (qB 19 4095) (Hp.Le.refl _) rfl rfl (oV qF) ?_;refine qT (i := 12) (qB 19 8191) (Hp.Le.refl _) rfl rfl (o_loadA (wS rfl rfl rfl) rfl Tryz.isAgg27 Tryz.sizeOf27 rfl (by repeat constructor) (by repeat constructor) qF) ?_;refine qT (i := 14) (qB 19 24575) (Hp.Le.refl _) rfl rfl (o_loadA (wS rfl rfl rfl) rfl Tryz.isAgg27 Tryz.sizeOf27 rfl (by repeat constructor) (by repeat constructor) qF) ?_
  refine qO (i := 13) (qB 19 32767) rfl ?_;refine o_callI (wS rfl rfl rfl) rfl Tryz.call36 rfl (scFree_any vi vl vo va p ns (by first | exact hp | exact hp.le hx2.le) hf1) ?_;rintro v38 I1 hx1 hs1;refine qM (hx1.le) ?_;refine qO (i := 15) (qB 19 65535) rfl ?_;refine o_callI (wS rfl rfl rfl) rfl Tryz.call37 rfl (dFree_any vi vl vo va p ns (by first | exact hp | exact hp.le hx1.le) hf2) ?_;rintro v40 I2 hx2 hs2;refine qM ((hx1.le).trans hx2.le) ?_;refine qO (i := 16) (qB 19 131071) rfl ?_;refine o_callQ (wS rfl rfl rfl) rfl Tryz.call35 rfl (by first | exact rrNamesEq_any _ _ _ (hs1.le hx2.le) hs2 | exact rrNamesEq_any _ _ _ hs1 (hs2.le hx1.le)) ?_;refine qM ((hx1.le).trans hx2.le) ?_;refine qT (i := 17) (qB 19 262143) ((hx1.le).trans hx2.le) rfl rfl (oV qF) ?_;refine qT (i := 18) (qB 19 524287) ((hx1.le).trans hx2.le) rfl rfl (oV qF) ?_;refine h_end (by kernel_rfl) ?_;refine tC (cT ?_);refine ret1 rfl rfl ?_
  first | exact leaf (hx1.trans hx2 (Nat.le_refl _)) (List.nil_sublist _) rfl | exact leaf (hx2.trans hx1 (Nat.le_refl _)) (List.nil_sublist _) rfl
end Go.Proofs.YtmgpifkekofacaaGreatDoor
namespace Go.Tw
open Go Go.RowKit Go.ChangeShapes Go.WideShapes Go.ChangeAt Go.Deep
def Tr {H : Type} (enc : TypeId × Value → H) (P : Program) (W : World) (t : TypeId) (cs : List Value) : Prop := ∃ n x, DataW.trod enc P W 0 (fun _ => true) true n t cs = some x
section
variable {base : Nat} {H : Type} {enc : TypeId × Value → H} {P : Program} {W : World} {t e : TypeId} {v : Value} {cs : List Value} {d : DataW H} {ps : List MemPlace}
theorem tr_of_struct {fs : Array Field} (ht : P.underlying t = some (.struct fs)) (hval : Value.okWide P W .any base t v) (h : DataW.Trod enc P W 0 (fun _ => true) true t v d ps) : ∃ cs : List Value, v = .agg cs.toArray ∧ Tr enc P W t cs := by
  obtain ⟨cs, rfl, _⟩ := okWide_struct ht hval
  obtain ⟨n, h⟩ := h
  exact ⟨cs.toList, by simp, n, _, h⟩
theorem tr_int {k : IntKind} (ht : P.underlying t = some (.int k)) (h : Tr enc P W t [v]) : ∃ z, v = .int k z ∧ (Lit.int k z).wf = true := by
  obtain ⟨n, x, h⟩ := h
  obtain ⟨z, h1, _, h2⟩ := DataW.trod_int ht h
  exact ⟨z, (List.cons.inj h1).1, h2⟩
theorem tr_bool (ht : P.underlying t = some .bool) (h : Tr enc P W t [v]) : ∃ b, v = .bool b := by
  obtain ⟨n, x, h⟩ := h
  obtain ⟨z, h1, _⟩ := DataW.trod_bool ht h
  exact ⟨z, (List.cons.inj h1).1⟩
theorem tr_string (ht : P.underlying t = some .string) (h : Tr enc P W t [v]) : ∃ s : ByteArray, v = .string s ∧ s.size ≤ maxLen := by
  obtain ⟨n, x, h⟩ := h
  obtain ⟨z, h1, _, h2⟩ := DataW.trod_string ht h
  exact ⟨z, (List.cons.inj h1).1, h2⟩
theorem tr_struct {fs : Array Field} (ht : P.underlying t = some (.struct fs)) (h : Tr enc P W t cs) : cs.length = P.cellsOf t ∧ ∀ (i : Nat) (f : Field), fs[i]? = some f → Tr enc P W f.type ((cs.drop f.offset).take (P.cellsOf f.type)) := by
  obtain ⟨n, x, h⟩ := h
  obtain ⟨xs, m, _, _, hl, hx, hf⟩ := DataW.trod_struct ht h
  refine ⟨hl, fun i f hi => ?_⟩
  have h1 := hf i f hi
  have hlt : i < xs.length := by rw [hx]; exact (Array.getElem?_eq_some_iff.1 hi).1
  rw [List.getElem?_eq_getElem hlt] at h1
  exact ⟨m, _, h1⟩
theorem tr_rows {sz : Nat} (ht : P.underlying t = some (.slice e)) (hsz : P.cellsOf e = sz) (hpos : 0 < sz) (h : Tr enc P W t [v]) : ∃ xss : List (List Value), Slc (World.hp W) sz v xss ∧ ∀ c ∈ xss, Tr enc P W e c := by
  obtain ⟨n, x, h⟩ := h
  rcases open_slice ht h with ⟨h1, _⟩ | ⟨a, len, cap, m, n', D, Pl, h1, hb, hl, hc, hm, _, hx⟩
  · obtain rfl := (List.cons.inj h1).1
    exact ⟨[], Slc.nil _ _, fun c hc => by cases hc⟩
  · obtain rfl := (List.cons.inj h1).1
    subst hsz
    simp only [if_true] at hm
    subst hm
    obtain ⟨G, hG⟩ := choose_lt (α := List Value) (p := fun i cs' => W.cells? 0 (a.add (i * P.cellsOf e)) (P.cellsOf e) = some cs' ∧ DataW.trod enc P W 0 (fun _ => true) true n' e cs' = some (D i, Pl i)) hx
    have hcell : ∀ i, i < m → (G i).length = P.cellsOf e ∧ ∀ k, k < P.cellsOf e → W.cell? (a.add (i * P.cellsOf e + k)) = (G i)[k]? := fun i hi => by
      obtain ⟨h2, h3, h4⟩ := World.cells?_some (hG i hi).1
      refine ⟨h3, fun k hk => ?_⟩
      rw [← h4 k hk, add_add]
    refine ⟨(List.range len).map G, ?_, fun c hc => ?_⟩
    · have hlen : ((List.range len).map G).length = len := by simp
      have hlens : ∀ c ∈ (List.range len).map G, c.length = P.cellsOf e := fun c hc => by
        obtain ⟨i, hi, rfl⟩ := List.mem_map.1 hc
        exact (hcell i (by have := List.mem_range.1 hi; omega)).1
      by_cases h0 : m = 0
      · have hl0 : len = 0 := by omega
        subst h0
        subst hl0
        exact Slc.nilA _ _ _
      · have hsp : a.spot = none := by
          have h2 := (hcell 0 (by omega)).2 0 hpos
          have h3 : 0 < (G 0).length := by rw [(hcell 0 (by omega)).1]; exact hpos
          rw [List.getElem?_eq_getElem h3] at h2
          unfold World.cell? at h2
          split at h2
          · split at h2
            · cases h2
            · rename_i hs
              have hz : a.add (0 * P.cellsOf e + 0) = a := by rw [Nat.zero_mul]; unfold Addr.add; simp
              rw [hz] at hs
              cases hsp : a.spot with
              | none => rfl
              | some s => rw [hsp] at hs; simp at hs
          · cases h2
        obtain ⟨b, off, s⟩ := a
        change s = none at hsp
        subst hsp
        refine ⟨.inr ⟨b, off, m, by rw [hlen], by rw [hlen]; exact hl⟩, fun j c hj k u hk => ?_, hlens, by rw [hlen]; omega⟩
        rw [List.getElem?_map] at hj
        have hjl : j < len := by
          by_cases hjl : j < len
          · exact hjl
          · rw [List.getElem?_eq_none (by simp; omega)] at hj; cases hj
        rw [List.getElem?_range hjl] at hj
        cases hj
        have hkl := (List.getElem?_eq_some_iff.1 hk).1
        rw [(hcell j (by omega)).1] at hkl
        have h2 := (hcell j (by omega)).2 k hkl
        rw [hk, add_none] at h2
        rw [hp_cell]
        simp only [slcB, slcO]
        rw [Nat.add_assoc]
        exact h2
    · obtain ⟨i, hi, rfl⟩ := List.mem_map.1 hc
      exact ⟨n', _, (hG i (by have := List.mem_range.1 hi; omega)).2⟩
theorem tr_ints {k : IntKind} {xss : List (List Value)} {sz : Nat} (ht : P.underlying t = some (.int k)) (hs : Slc (World.hp W) 1 v xss) (h : ∀ c ∈ xss, Tr enc P W t c) : ∃ zs : List Int, xss = zs.map (fun z => [.int k z]) ∧ ∀ z ∈ zs, (Lit.int k z).wf = true := by
  have key : ∀ (l : List (List Value)), (∀ c ∈ l, c.length = 1 ∧ Tr enc P W t c) → ∃ zs : List Int, l = zs.map (fun z => [.int k z]) ∧ ∀ z ∈ zs, (Lit.int k z).wf = true := by
    intro l
    induction l with
    | nil => exact fun _ => ⟨[], rfl, fun z hz => by cases hz⟩
    | cons c l ih =>
      intro hl
      obtain ⟨zs, h1, h2⟩ := ih fun c hc => hl c (List.mem_cons_of_mem _ hc)
      obtain ⟨h3, h4⟩ := hl c List.mem_cons_self
      match c, h3 with
      | [x], _ =>
        obtain ⟨z, rfl, h5⟩ := tr_int ht h4
        exact ⟨z :: zs, by rw [h1]; rfl, fun y hy => by
          rcases List.mem_cons.1 hy with rfl | hy
          · exact h5
          · exact h2 y hy⟩
  exact key xss fun c hc => ⟨hs.lens c hc, h c hc⟩
theorem rows_map {α : Type} {f : α → List Value} {p : α → Prop} {xss : List (List Value)} (h : ∀ c ∈ xss, ∃ a, c = f a ∧ p a) : ∃ zs : List α, xss = zs.map f ∧ ∀ a ∈ zs, p a := by
  induction xss with
  | nil => exact ⟨[], rfl, fun a h => by cases h⟩
  | cons c l ih =>
    obtain ⟨zs, h1, h2⟩ := ih fun c hc => h c (List.mem_cons_of_mem _ hc)
    obtain ⟨a, ha, hp⟩ := h c List.mem_cons_self
    exact ⟨a :: zs, by rw [ha, h1]; rfl, fun b hb => by
      rcases List.mem_cons.1 hb with rfl | hb
      · exact hp
      · exact h2 b hb⟩
end
end Go.Tw
namespace Go.Proofs.YtmgpifkekofacaaGreatDoor
open Go Go.Tw Go.ChangeShapes Go.WideShapes Go.ChangeAt
set_option maxRecDepth 100000
section
variable {base : Nat} {H : Type} {enc : TypeId × Value → H} {W : World} {v : Value} {cs : List Value} {d : DataW H} {ps : List MemPlace}
theorem ce_int : Tryz.prog.cellsOf 3 = 1 := by kernel_rfl
theorem ce_bool : Tryz.prog.cellsOf 4 = 1 := by kernel_rfl
theorem ce_str : Tryz.prog.cellsOf 9 = 1 := by kernel_rfl
theorem ce_u32 : Tryz.prog.cellsOf 101 = 1 := by kernel_rfl
theorem ce_u32s : Tryz.prog.cellsOf 40 = 1 := by kernel_rfl
theorem ce_rat : Tryz.prog.cellsOf 42 = 3 := by kernel_rfl
theorem ce_node : Tryz.prog.cellsOf 44 = 8 := by kernel_rfl
theorem ce_let : Tryz.prog.cellsOf 46 = 2 := by kernel_rfl
theorem ce_prog : Tryz.prog.cellsOf 27 = 4 := by kernel_rfl
theorem ce_strs : Tryz.prog.cellsOf 23 = 1 := by kernel_rfl
theorem ce_lets : Tryz.prog.cellsOf 24 = 1 := by kernel_rfl
theorem ce_nodes : Tryz.prog.cellsOf 25 = 1 := by kernel_rfl
theorem of2 {l : List Value} (h : l.length = 2) : ∃ a b, l = [a, b] := by
  match l, h with
  | [a, b], _ => exact ⟨a, b, rfl⟩
theorem of3 {l : List Value} (h : l.length = 3) : ∃ a b c, l = [a, b, c] := by
  match l, h with
  | [a, b, c], _ => exact ⟨a, b, c, rfl⟩
theorem of4 {l : List Value} (h : l.length = 4) : ∃ a b c d, l = [a, b, c, d] := by
  match l, h with
  | [a, b, c, d], _ => exact ⟨a, b, c, d, rfl⟩
theorem of8 {l : List Value} (h : l.length = 8) : ∃ a b c d e f g i, l = [a, b, c, d, e, f, g, i] := by
  match l, h with
  | [a, b, c, d, e, f, g, i], _ => exact ⟨a, b, c, d, e, f, g, i, rfl⟩
theorem tr_wds (h : Tr enc Tryz.prog W 40 [v]) : ∃ O, Ws (World.hp W) v O := by
  obtain ⟨xss, h1, h2⟩ := tr_rows Tryz.underlying40 ce_u32 (by decide) h
  obtain ⟨zs, rfl, h3⟩ := tr_ints (sz := 1) Tryz.underlying101 h1 h2
  refine ⟨zs.map Int.toNat, ⟨?_, fun x hx => ?_⟩⟩
  · have e : wcs (zs.map Int.toNat) = zs.map (fun z => [Value.int .u32 z]) := by
      unfold wcs
      rw [List.map_map]
      refine List.map_congr_left fun z hz => ?_
      have := bounds_u32 (h3 z hz)
      show [Value.int .u32 ((z.toNat : Nat) : Int)] = _
      rw [Int.toNat_of_nonneg this.1]
    rw [e]; exact h1
  · obtain ⟨z, hz, rfl⟩ := List.mem_map.1 hx
    have := bounds_u32 (h3 z hz)
    omega
theorem tr_num (h : Tr enc Tryz.prog W 42 cs) : ∃ s n d b c, cs = [.bool s, b, c] ∧ Ws (World.hp W) b n ∧ Ws (World.hp W) c d := by
  obtain ⟨h1, h2⟩ := tr_struct Tryz.underlying42 h
  obtain ⟨a, b, c, rfl⟩ := of3 (by rw [h1]; exact ce_rat)
  have k0 := h2 0 _ rfl
  have k1 := h2 1 _ rfl
  have k2 := h2 2 _ rfl
  change Tr enc Tryz.prog W 4 (List.take (Tryz.prog.cellsOf 4) [a, b, c]) at k0
  change Tr enc Tryz.prog W 40 (List.take (Tryz.prog.cellsOf 40) [b, c]) at k1
  change Tr enc Tryz.prog W 40 (List.take (Tryz.prog.cellsOf 40) [c]) at k2
  rw [ce_bool] at k0
  rw [ce_u32s] at k1 k2
  obtain ⟨s, rfl⟩ := tr_bool Tryz.underlying4 k0
  obtain ⟨n, hn⟩ := tr_wds k1
  obtain ⟨dd, hd⟩ := tr_wds k2
  exact ⟨s, n, dd, b, c, rfl, hn, hd⟩
theorem tr_node (h : Tr enc Tryz.prog W 44 cs) : ∃ o : NodeV, cs = o.cells ∧ o.ok (World.hp W) := by
  obtain ⟨h1, h2⟩ := tr_struct Tryz.underlying44 h
  obtain ⟨a, b, c, d, e, f, g, i, rfl⟩ := of8 (by rw [h1]; exact ce_node)
  have k0 := h2 0 _ rfl
  have k1 := h2 1 _ rfl
  have k2 := h2 2 _ rfl
  have k3 := h2 3 _ rfl
  have k4 := h2 4 _ rfl
  have k5 := h2 5 _ rfl
  change Tr enc Tryz.prog W 3 (List.take (Tryz.prog.cellsOf 3) [a, b, c, d, e, f, g, i]) at k0
  change Tr enc Tryz.prog W 3 (List.take (Tryz.prog.cellsOf 3) [b, c, d, e, f, g, i]) at k1
  change Tr enc Tryz.prog W 3 (List.take (Tryz.prog.cellsOf 3) [c, d, e, f, g, i]) at k2
  change Tr enc Tryz.prog W 3 (List.take (Tryz.prog.cellsOf 3) [d, e, f, g, i]) at k3
  change Tr enc Tryz.prog W 9 (List.take (Tryz.prog.cellsOf 9) [e, f, g, i]) at k4
  change Tr enc Tryz.prog W 42 (List.take (Tryz.prog.cellsOf 42) [f, g, i]) at k5
  rw [ce_int] at k0 k1 k2 k3
  rw [ce_str] at k4
  rw [ce_rat] at k5
  obtain ⟨z0, rfl, b0⟩ := tr_int Tryz.underlying3 k0
  obtain ⟨z1, rfl, b1⟩ := tr_int Tryz.underlying3 k1
  obtain ⟨z2, rfl, b2⟩ := tr_int Tryz.underlying3 k2
  obtain ⟨z3, rfl, b3⟩ := tr_int Tryz.underlying3 k3
  obtain ⟨s, rfl, _⟩ := tr_string Tryz.underlying9 k4
  obtain ⟨ng, n, dd, vb, vc, hx, hn, hd⟩ := tr_num k5
  obtain ⟨rfl, h5⟩ := List.cons.inj hx
  obtain ⟨rfl, h6⟩ := List.cons.inj h5
  obtain ⟨rfl, _⟩ := List.cons.inj h6
  exact ⟨⟨⟨z0, z1, z2, z3, s, ng, n, dd⟩, g, i⟩, rfl, hn, hd⟩
theorem tr_let (h : Tr enc Tryz.prog W 46 cs) : ∃ o : LetC, cs = o.cells ∧ True := by
  obtain ⟨h1, h2⟩ := tr_struct Tryz.underlying46 h
  obtain ⟨a, b, rfl⟩ := of2 (by rw [h1]; exact ce_let)
  have k0 := h2 0 _ rfl
  have k1 := h2 1 _ rfl
  change Tr enc Tryz.prog W 9 (List.take (Tryz.prog.cellsOf 9) [a, b]) at k0
  change Tr enc Tryz.prog W 3 (List.take (Tryz.prog.cellsOf 3) [b]) at k1
  rw [ce_str] at k0
  rw [ce_int] at k1
  obtain ⟨s, rfl, _⟩ := tr_string Tryz.underlying9 k0
  obtain ⟨z, rfl, _⟩ := tr_int Tryz.underlying3 k1
  exact ⟨⟨s, z⟩, rfl, trivial⟩
theorem tr_strs (h : Tr enc Tryz.prog W 23 [v]) : ∃ l : List ByteArray, Slc (World.hp W) 1 v (scs l) := by
  obtain ⟨xss, s1, s2⟩ := tr_rows (sz := 1) Tryz.underlying23 ce_str (by decide) h
  obtain ⟨zs, rfl, _⟩ := rows_map (f := fun s : ByteArray => [Value.string s]) (p := fun _ => True) fun c hc => by
    have hl := s1.lens c hc
    match c, hl with
    | [x], _ =>
      obtain ⟨s, rfl, _⟩ := tr_string Tryz.underlying9 (s2 _ hc)
      exact ⟨s, rfl, trivial⟩
  exact ⟨zs, s1⟩
theorem open_Pg (hval : Value.okWide Tryz.prog W .any base 27 v) (h : DataW.Trod enc Tryz.prog W 0 (fun _ => true) true 27 v d ps) : ∃ (p : ProgC) (vi vl vo va : Value) (ns : List NodeV), v = .agg #[vi, vl, vo, va] ∧ ProgV (World.hp W) vi vl vo va p ns := by
  obtain ⟨cs, rfl, hh⟩ := tr_of_struct Tryz.underlying27 hval h
  obtain ⟨h1, h2⟩ := tr_struct Tryz.underlying27 hh
  obtain ⟨a, b, c, e, rfl⟩ := of4 (by rw [h1]; exact ce_prog)
  have k0 := h2 0 _ rfl
  have k1 := h2 1 _ rfl
  have k2 := h2 2 _ rfl
  have k3 := h2 3 _ rfl
  change Tr enc Tryz.prog W 23 (List.take (Tryz.prog.cellsOf 23) [a, b, c, e]) at k0
  change Tr enc Tryz.prog W 24 (List.take (Tryz.prog.cellsOf 24) [b, c, e]) at k1
  change Tr enc Tryz.prog W 23 (List.take (Tryz.prog.cellsOf 23) [c, e]) at k2
  change Tr enc Tryz.prog W 25 (List.take (Tryz.prog.cellsOf 25) [e]) at k3
  rw [ce_strs] at k0 k2
  rw [ce_lets] at k1
  rw [ce_nodes] at k3
  obtain ⟨li, gi⟩ := tr_strs k0
  obtain ⟨lo, go⟩ := tr_strs k2
  obtain ⟨xss, s1, s2⟩ := tr_rows (sz := 2) Tryz.underlying24 ce_let (by decide) k1
  obtain ⟨ls, rfl, _⟩ := rows_map (f := LetC.cells) (p := fun _ => True) fun c hc => tr_let (s2 c hc)
  obtain ⟨yss, u1, u2⟩ := tr_rows (sz := 8) Tryz.underlying25 ce_node (by decide) k3
  obtain ⟨ns, rfl, u3⟩ := rows_map (f := NodeV.cells) (p := fun o => o.ok (World.hp W)) fun c hc => tr_node (u2 c hc)
  exact ⟨⟨li, ls, lo, ns.map NodeV.c⟩, a, b, c, e, ns, rfl, gi, s1, go, u1, u3, rfl⟩
end
end Go.Proofs.YtmgpifkekofacaaGreatDoor
