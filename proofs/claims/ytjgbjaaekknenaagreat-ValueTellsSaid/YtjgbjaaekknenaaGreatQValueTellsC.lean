/-
  ValueTells, part 3: the texts Rat2, Rat3, Dec as one.
-/
import Derived.Test.YtjgbjaaekknenaaGreatQValueTellsB
/-
  Layer 8 of the program: rational numbers.
-/
namespace Go.Proofs.YtjgbjaaekknenaaGreat
open Go Go.Tw
set_option linter.unusedVariables false
set_option linter.unusedSimpArgs false
set_option linter.unnecessarySimpa false
set_option maxHeartbeats 1000000
theorem div_gcd_zero {a b : Nat} (h : a / Nat.gcd a b = 0) (hb : b ≠ 0) : a = 0 := by
  rcases Nat.eq_zero_or_pos a with h0 | h0
  · exact h0
  · have := Nat.div_pos (Nat.le_of_dvd h0 (Nat.gcd_dvd_left a b)) (Nat.gcd_pos_of_pos_left b h0)
    omega
theorem RatV.zero {I : Hp} {vd : Value} (h : Ws I vd (natW 1)) : RatV I (.agg #[.bool false, .slice none 0 0, vd]) 0 :=
  ⟨.slice none 0 0, vd, rfl, by rw [show (0 : Rat).num.natAbs = 0 from rfl, natW_zero]; exact Ws.nil I, h⟩
theorem qlowest_any (neg : Bool) (va vb : Value) (A B : List Nat) {I : Hp} (ha : Ws I va A) (hb : Ws I vb B) (hs : A.length ≤ 400000) (hs2 : B.length ≤ 400000) : Fun Tryz.prog 50 [.bool neg, va, vb] I [] (fun v I' _ => RatV I' v (lowQ neg (val A) (val B))) := by
  intro w hw
  refine enter3 _ Tryz.func50 rfl Tryz.ntmps50 rfl ?_ hw
  refine c_seq (c_region ?_)
  refine o_alloc trivial rfl Tryz.zeroValue33 rfl (fun b6 => ?_)
  refine o_nil (then_c (c_seq (c_region ?_)))
  iterate 2 refine o_pv trivial rfl rfl ?_
  refine o_callI trivial rfl Tryz.call68 rfl (lowest_any _ _ _ _ ha hb hs hs2) ?_
  rintro _ I1 hx1 ⟨u1, u2, rfl, hs1⟩
  iterate 7 refine o_pv trivial rfl rfl ?_
  refine o_nil (then_c (c_seq (c_seq (c_region ?_))))
  iterate 2 refine o_pv trivial rfl rfl ?_
  refine' o_or trivial trivial rfl rfl rfl rfl rfl rfl rfl rfl (fun hb19 => ?_) ?_
  rotate_left
  ·
   have fb19 := hb19
   try simp only [bl] at fb19
   have hB : val B ≠ 0 := by simpa using hb19
   obtain ⟨hu1, hu2⟩ := hs1 hB
   refine o_pv (wants_some rfl rfl hb19) rfl rfl ?_
   refine o_lenW (wants_some rfl rfl hb19) rfl Tryz.underlying31 rfl (hu1) ?_
   refine o_pv (wants_some rfl rfl hb19) rfl rfl ?_
   refine o_nil ?_
   exact joins rfl
  refine o_nil (then_c ?_)
  refine c_cond rfl (fun h1 => ?_) (fun h1 => ?_)
  ·
   have f1 := h1
   try simp only [bl] at f1
   have h0 : val B = 0 ∨ val A = 0 := by
     rcases f1 with f1 | f1
     · exact .inl (Decidable.not_not.1 f1)
     · by_cases hB : val B = 0
       · exact .inl hB
       · exact .inr (div_gcd_zero (natW_len_zero.1 (by omega)) hB)
   refine c_seq (c_region ?_)
   refine o_callI trivial rfl Tryz.call69 rfl (natOf_any 1 (by decide)) ?_
   rintro u3 I2 hx2 hs2'
   refine o_buildS trivial rfl (bld33) rfl (.cons rfl (by first | exact (Ws.cells1 (by assumption)).1 | exact (Slc.cells1 (by assumption)).1 | rfl) (by rfl) (by repeat constructor) .nil) ?_
   refine o_store trivial rfl rfl rfl Tryz.sizeOf33 rfl (by first | rfl | (repeat' (first | exact rfl | exact one_nil | refine one_cons ?_ ?_ | exact (Ws.cells1 (by assumption)).2 | exact (Slc.cells1 (by assumption)).2))) (by repeat constructor) (by repeat constructor) ?_
   refine o_nil (then_c (c_ret (then_r ?_)))
   refine retR rfl (.agg Tryz.isAgg33 Tryz.sizeOf33 rfl (by repeat constructor) rfl .nil) ?_
   refine leaf (hx1.trans hx2 (Nat.le_refl _)) (List.nil_sublist _) ?_
   rw [lowQ_zero h0]; exact RatV.zero hs2'
  ·
   have f1 := h1
   try simp only [bl] at f1
   have hB : val B ≠ 0 := fun e => f1.1 e
   obtain ⟨hu1, hu2⟩ := hs1 hB
   have hA : val A ≠ 0 := fun e => f1.2 (by rw [e, Nat.zero_div, natW_zero]; rfl)
   obtain ⟨e1, e2, e3⟩ := lowQ_parts (neg := neg) hA hB
   refine c_skip (then_c (c_seq (c_region ?_)))
   iterate 3 refine o_pv trivial rfl rfl ?_
   refine o_buildS trivial rfl (bld33) rfl (.cons rfl rfl rfl (by repeat constructor) (.cons rfl (by first | exact (Ws.cells1 (by assumption)).1 | exact (Slc.cells1 (by assumption)).1 | rfl) (by rfl) (by repeat constructor) (.cons rfl (by first | exact (Ws.cells1 (by assumption)).1 | exact (Slc.cells1 (by assumption)).1 | rfl) (by rfl) (by repeat constructor) .nil))) ?_
   refine o_store trivial rfl rfl rfl Tryz.sizeOf33 rfl (by first | rfl | (repeat' (first | exact rfl | exact one_nil | refine one_cons ?_ ?_ | exact (Ws.cells1 (by assumption)).2 | exact (Slc.cells1 (by assumption)).2))) (by repeat constructor) (by repeat constructor) ?_
   refine o_nil (then_c (c_ret ?_))
   refine retR rfl (.agg Tryz.isAgg33 Tryz.sizeOf33 rfl (by repeat constructor) rfl .nil) ?_
   refine leaf hx1 (List.nil_sublist _) ⟨u1, u2, ?_, ?_, ?_⟩
   · rw [e3]; rfl
   · rw [e1]; exact hu1
   · rw [e2]; exact hu2
theorem qFix_any (neg : Bool) (va vb : Value) (A B : List Nat) {I : Hp} (ha : Ws I va A) (hb : Ws I vb B) (hs : A.length ≤ 400000) (hs2 : B.length ≤ 400000) : Fun Tryz.prog 29 [.agg #[.bool neg, va, vb]] I [] (fun v I' _ => RatV I' v (lowQ neg (val A) (val B))) := by
  intro w hw
  refine enter1 _ Tryz.func29 rfl Tryz.ntmps29 rfl ?_ hw
  refine c_seq (c_region ?_)
  refine o_box trivial rfl rfl rfl (fun b1 => ?_)
  refine o_alloc trivial rfl Tryz.zeroValue33 rfl (fun b2 => ?_)
  refine o_nil (then_c (c_seq (c_region ?_)))
  refine o_fieldAddr (T := 4) (off := 0) trivial rfl Tryz.underlying33 rfl rfl rfl Tryz.sizeOf4 rfl rfl ?_
  refine o_load1 trivial rfl Tryz.isAgg4 rfl (by repeat constructor) (by repeat constructor) ?_
  refine o_fieldAddr (T := 31) (off := 1) trivial rfl Tryz.underlying33 rfl rfl rfl Tryz.sizeOf31 rfl rfl ?_
  refine o_load1 trivial rfl Tryz.isAgg31 rfl (by repeat constructor) (by repeat constructor) ?_
  refine o_fieldAddr (T := 31) (off := 2) trivial rfl Tryz.underlying33 rfl rfl rfl Tryz.sizeOf31 rfl rfl ?_
  refine o_load1 trivial rfl Tryz.isAgg31 rfl (by repeat constructor) (by repeat constructor) ?_
  refine o_callI trivial rfl Tryz.call50 rfl (qlowest_any neg _ _ _ _ ha hb hs hs2) ?_
  rintro _ I1 hx1 ⟨u1, u2, rfl, h1, h2⟩
  refine o_store trivial rfl rfl rfl Tryz.sizeOf33 rfl (by first | rfl | (repeat' (first | exact rfl | exact one_nil | refine one_cons ?_ ?_ | exact (Ws.cells1 (by assumption)).2 | exact (Slc.cells1 (by assumption)).2))) (by repeat constructor) (by repeat constructor) ?_
  refine o_nil (then_c (c_ret ?_))
  refine retR rfl (.agg Tryz.isAgg33 Tryz.sizeOf33 rfl (by repeat constructor) rfl .nil) ?_
  exact leaf hx1 (List.nil_sublist _) ⟨u1, u2, rfl, h1, h2⟩
theorem qof_any (q : Rat) (va vb : Value) {I : Hp} (ha : Ws I va (natW q.num.natAbs)) (hb : Ws I vb (natW q.den)) (hk : Few 100000 q) : Fun Tryz.prog 103 [.agg #[.bool (decide (q.num < 0)), va, vb]] I [] (fun v I' _ => RatV I' v q) := by
  intro w hw
  refine enter1 _ Tryz.func103 rfl Tryz.ntmps103 rfl ?_ hw
  refine c_seq (c_region ?_)
  refine o_box trivial rfl rfl rfl (fun b1 => ?_)
  refine o_alloc trivial rfl Tryz.zeroValue145 rfl (fun b2 => ?_)
  refine o_nil (then_c (c_seq (c_region ?_)))
  refine o_loadA trivial rfl Tryz.isAgg33 Tryz.sizeOf33 rfl (by repeat constructor) (by repeat constructor) ?_
  refine o_callI trivial rfl Tryz.call29 rfl (qFix_any (decide (q.num < 0)) _ _ _ _ ha hb (natW_few hk.num (by decide)) (natW_few hk.den (by decide))) ?_
  rintro _ I1 hx1 ⟨u1, u2, rfl, h1, h2⟩
  refine o_buildS trivial rfl (bld143) rfl (.cons rfl rfl rfl (by repeat constructor) .nil) ?_
  refine o_buildS trivial rfl (bld145) rfl (.cons rfl rfl rfl (by repeat constructor) .nil) ?_
  refine o_store trivial rfl rfl rfl Tryz.sizeOf145 rfl (by first | rfl | (repeat' (first | exact rfl | exact one_nil | refine one_cons ?_ ?_ | exact (Ws.cells1 (by assumption)).2 | exact (Slc.cells1 (by assumption)).2))) (by repeat constructor) (by repeat constructor) ?_
  refine o_nil (then_c (c_ret ?_))
  refine retR rfl (.agg Tryz.isAgg145 Tryz.sizeOf145 rfl (by repeat constructor) rfl .nil) ?_
  rw [val_natW, val_natW, lowQ_self] at h1 h2
  refine leaf hx1 (List.nil_sublist _) ⟨u1, u2, ?_, h1, h2⟩
  rw [val_natW, val_natW, lowQ_self]; rfl
theorem above_any (q : Rat) (va vb : Value) {I : Hp} (ha : Ws I va (natW q.num.natAbs)) (hb : Ws I vb (natW q.den)) : Fun Tryz.prog 106 [.agg #[.bool (decide (q.num < 0)), va, vb]] I [] (fun v _ _ => v = .agg #[.bool (decide (q.num < 0)), va]) := by
  intro w hw
  refine enter1 _ Tryz.func106 rfl Tryz.ntmps106 rfl ?_ hw
  refine c_seq (c_region ?_)
  refine o_box trivial rfl rfl rfl (fun b1 => ?_)
  refine o_alloc trivial rfl Tryz.zeroValue93 rfl (fun b2 => ?_)
  refine o_nil (then_c (c_seq (c_region ?_)))
  refine o_fieldAddr (T := 33) (off := 0) trivial rfl Tryz.underlying143 rfl rfl rfl Tryz.sizeOf33 rfl rfl ?_
  refine o_fieldAddr (T := 4) (off := 0) trivial rfl Tryz.underlying33 rfl rfl rfl Tryz.sizeOf4 rfl rfl ?_
  refine o_load1 trivial rfl Tryz.isAgg4 rfl (by repeat constructor) (by repeat constructor) ?_
  refine o_fieldAddr (T := 33) (off := 0) trivial rfl Tryz.underlying143 rfl rfl rfl Tryz.sizeOf33 rfl rfl ?_
  refine o_fieldAddr (T := 31) (off := 1) trivial rfl Tryz.underlying33 rfl rfl rfl Tryz.sizeOf31 rfl rfl ?_
  refine o_load1 trivial rfl Tryz.isAgg31 rfl (by repeat constructor) (by repeat constructor) ?_
  refine o_buildS trivial rfl (bld93) rfl (.cons rfl rfl rfl (by repeat constructor) (.cons rfl (by first | exact (Ws.cells1 (by assumption)).1 | exact (Slc.cells1 (by assumption)).1 | rfl) (by rfl) (by repeat constructor) .nil)) ?_
  refine o_store trivial rfl rfl rfl Tryz.sizeOf93 rfl (by first | rfl | (repeat' (first | exact rfl | exact one_nil | refine one_cons ?_ ?_ | exact (Ws.cells1 (by assumption)).2 | exact (Slc.cells1 (by assumption)).2))) (by repeat constructor) (by repeat constructor) ?_
  refine o_nil (then_c (c_ret ?_))
  refine retR rfl (.agg Tryz.isAgg93 Tryz.sizeOf93 rfl (by repeat constructor) rfl .nil) ?_
  exact leaf0 rfl
theorem below_any (q : Rat) (va vb : Value) {I : Hp} (ha : Ws I va (natW q.num.natAbs)) (hb : Ws I vb (natW q.den)) : Fun Tryz.prog 107 [.agg #[.bool (decide (q.num < 0)), va, vb]] I [] (fun v _ _ => v = .agg #[.bool (decide ((q.den : Int) < 0)), vb]) := by
  intro w hw
  refine enter1 _ Tryz.func107 rfl Tryz.ntmps107 rfl ?_ hw
  refine c_seq (c_region ?_)
  refine o_box trivial rfl rfl rfl (fun b1 => ?_)
  refine o_alloc trivial rfl Tryz.zeroValue93 rfl (fun b2 => ?_)
  refine o_nil (then_c (c_seq (c_region ?_)))
  refine o_fieldAddr (T := 33) (off := 0) trivial rfl Tryz.underlying143 rfl rfl rfl Tryz.sizeOf33 rfl rfl ?_
  refine o_fieldAddr (T := 31) (off := 2) trivial rfl Tryz.underlying33 rfl rfl rfl Tryz.sizeOf31 rfl rfl ?_
  refine o_load1 trivial rfl Tryz.isAgg31 rfl (by repeat constructor) (by repeat constructor) ?_
  refine o_buildS trivial rfl (bld93) rfl (.cons rfl (by first | exact (Ws.cells1 (by assumption)).1 | exact (Slc.cells1 (by assumption)).1 | rfl) (by rfl) (by repeat constructor) .nil) ?_
  refine o_store trivial rfl rfl rfl Tryz.sizeOf93 rfl (by first | rfl | (repeat' (first | exact rfl | exact one_nil | refine one_cons ?_ ?_ | exact (Ws.cells1 (by assumption)).2 | exact (Slc.cells1 (by assumption)).2))) (by repeat constructor) (by repeat constructor) ?_
  refine o_nil (then_c (c_ret ?_))
  refine retR rfl (.agg Tryz.isAgg93 Tryz.sizeOf93 rfl (by repeat constructor) rfl .nil) ?_
  refine leaf0 ?_; rw [decide_eq_false (by omega)]; rfl
theorem few_mul_len {k : Nat} {a b : Nat} (h1 : a < 4294967296 ^ k) (h2 : b < 4294967296 ^ k) : a * b < 4294967296 ^ (2 * k) := by
  rw [Nat.two_mul, Nat.pow_add]; exact Nat.mul_lt_mul'' h1 h2
theorem qadd_num (p q : Rat) : lowQ (decide (p.num * (q.den : Int) + q.num * (p.den : Int) < 0)) (p.num * (q.den : Int) + q.num * (p.den : Int)).natAbs (p.den * q.den) = p + q := by
  rw [lowQ_int, Rat.add_def']
theorem sum_len {x y : Int} {m n : Nat} (h1 : (natW x.natAbs).length ≤ 50000) (h2 : (natW m).length ≤ 50000) (h3 : (natW y.natAbs).length ≤ 50000) (h4 : (natW n).length ≤ 50000) : (natW (x * (m : Int) + y * (n : Int)).natAbs).length ≤ 400000 := by
  have e1 : (natW (x * (m : Int)).natAbs).length ≤ 100000 := by rw [Int.natAbs_mul]; exact Nat.le_trans (natW_mul_len _ _) (by rw [Int.natAbs_natCast]; omega)
  have e2 : (natW (y * (n : Int)).natAbs).length ≤ 100000 := by rw [Int.natAbs_mul]; exact Nat.le_trans (natW_mul_len _ _) (by rw [Int.natAbs_natCast]; omega)
  have h := natW_add_len _ _ 100000 e1 e2
  have h2 := natW_le_len (Int.natAbs_add_le (x * (m : Int)) (y * (n : Int)))
  omega
theorem qAdd_any (p q : Rat) (va vb vc vd : Value) {I : Hp} (ha : Ws I va (natW p.num.natAbs)) (hb : Ws I vb (natW p.den)) (hc : Ws I vc (natW q.num.natAbs)) (hd : Ws I vd (natW q.den)) (hp : Few 50000 p) (hq : Few 50000 q) : Fun Tryz.prog 72 [.agg #[.bool (decide (p.num < 0)), va, vb], .agg #[.bool (decide (q.num < 0)), vc, vd]] I [] (fun v I' _ => RatV I' v (p + q)) := by
  have hl1 := natW_few hp.num (Nat.le_refl _)
  have hl2 := natW_few hp.den (Nat.le_refl _)
  have hl3 := natW_few hq.num (Nat.le_refl _)
  have hl4 := natW_few hq.den (Nat.le_refl _)
  intro w hw
  refine enter2 _ Tryz.func72 rfl Tryz.ntmps72 rfl ?_ hw
  refine c_seq (c_region ?_)
  refine o_box trivial rfl rfl rfl (fun b2 => ?_)
  refine o_box trivial rfl rfl rfl (fun b3 => ?_)
  refine o_alloc trivial rfl Tryz.zeroValue33 rfl (fun b4 => ?_)
  refine o_nil (then_c ?_)
  refine c_cut (ι := Nat × Nat × Value × Value × Value × Value × Hp) [4] (.cons rfl .nil) (fun z E0 => (5, .pointer (some ⟨z.1, 0, none⟩)) :: (6, .pointer (some ⟨z.2.1, 0, none⟩)) :: E0) (fun z => St w [] z.2.2.2.2.2.2 [.box b4 (.cells [.bool false, .slice none 0 0, .slice none 0 0].toArray 33 (0, 0)), .box z.1 (.cells [.bool (decide (p.num < 0)), z.2.2.1, z.2.2.2.1].toArray 145 (0, 0)), .box z.2.1 (.cells [.bool (decide (q.num < 0)), z.2.2.2.2.1, z.2.2.2.2.2.1].toArray 145 (0, 0))]) (fun z => Ws z.2.2.2.2.2.2 z.2.2.1 (natW p.num.natAbs) ∧ Ws z.2.2.2.2.2.2 z.2.2.2.1 (natW p.den) ∧ Ws z.2.2.2.2.2.2 z.2.2.2.2.1 (natW q.num.natAbs) ∧ Ws z.2.2.2.2.2.2 z.2.2.2.2.2.1 (natW q.den) ∧ Ext w.heap.size I z.2.2.2.2.2.2) ?_ ?_
  ·
   refine h_beginB (m := 8) [.box b2 _, .box b3 _] (by repeat constructor) (by kernel_rfl) rfl ?_
   refine' h_take (i := 0) #[true, false, false, false, false, false, false, false] rfl rfl rfl (by kernel_rfl) (by kernel_rfl) (by kernel_rfl) rfl (qp_then qp_bp) (fun _ h => (h.sort (by repeat constructor)).fewer (Hp.Le.refl _)) ?hh0 ?kk0
   case hh0 =>
    refine o_loadA trivial rfl Tryz.isAgg33 Tryz.sizeOf33 rfl (by repeat constructor) (by repeat constructor) ?_
    refine o_nil ?_
    exact ⟨fun _ _ ha _ => ha⟩
   refine' h_take (i := 2) #[true, false, true, false, false, false, false, false] rfl rfl rfl (by kernel_rfl) (by kernel_rfl) (by kernel_rfl) rfl (qp_then qp_bp) (fun _ h => (h.sort (by repeat constructor)).fewer (Hp.Le.refl _)) ?hh1 ?kk1
   case hh1 =>
    refine o_loadA trivial rfl Tryz.isAgg33 Tryz.sizeOf33 rfl (by repeat constructor) (by repeat constructor) ?_
    refine o_nil ?_
    exact ⟨fun _ _ ha _ => ha⟩
   refine h_go [1, 4, 5] (by kernel_rfl) rfl (TWHs.cons ?_ (TWHs.cons ?_ (TWHs.cons ?_ TWHs.nil)))
   ·
    refine h_op #[true, true, true, false, false, false, false, false] rfl rfl ?_
    refine o_callI trivial rfl Tryz.call103 rfl (qof_any p _ _ ha hb (hp.le (by decide))) ?_
    rintro _ I1 hx1 ⟨n1, d1, rfl, hn1, hd1⟩
    refine o_nil ?_
    refine h_next (fun _ h => (h.sort (by repeat constructor)).fewer (hx1.le)) ?_
    refine h_go [3, 4, 5] (by kernel_rfl) rfl (TWHs.cons ?_ (TWHs.cons ?_ (TWHs.cons ?_ TWHs.nil)))
    ·
     refine h_op #[true, true, true, true, false, false, false, false] rfl rfl ?_
     refine o_callI trivial rfl Tryz.call103 rfl (qof_any q _ _ (hc.le hx1.le) (hd.le hx1.le) (hq.le (by decide))) ?_
     rintro _ I2 hx2 ⟨n2, d2, rfl, hn2, hd2⟩
     refine o_nil ?_
     refine h_next (fun _ h => (h.sort (by repeat constructor)).fewer ((hx1.le).trans hx2.le)) ?_
     refine h_go [4, 5] (by kernel_rfl) rfl (TWHs.cons ?_ (TWHs.cons ?_ TWHs.nil))
     ·
      refine h_op #[true, true, true, true, true, false, false, false] rfl rfl ?_
      refine o_alloc trivial rfl Tryz.zeroValue145 rfl (fun b5 => ?_)
      refine o_nil ?_
      refine h_next (fun _ h => (h.sort (by repeat constructor)).fewer ((hx1.le).trans hx2.le)) ?_
      refine h_go [5] (by kernel_rfl) rfl (TWHs.cons ?_ TWHs.nil)
      refine h_op #[true, true, true, true, true, true, false, false] rfl rfl ?_
      refine o_alloc trivial rfl Tryz.zeroValue145 rfl (fun b6 => ?_)
      refine o_nil ?_
      refine h_next (fun _ h => (h.sort (by repeat constructor)).fewer ((hx1.le).trans hx2.le)) ?_
      refine h_go [6] (by kernel_rfl) rfl (TWHs.cons ?_ TWHs.nil)
      refine h_op #[true, true, true, true, true, true, true, false] rfl rfl ?_
      refine o_store trivial rfl rfl rfl Tryz.sizeOf145 rfl (by first | rfl | (repeat' (first | exact rfl | exact one_nil | refine one_cons ?_ ?_ | exact (Ws.cells1 (by assumption)).2 | exact (Slc.cells1 (by assumption)).2))) (by repeat constructor) (by repeat constructor) ?_
      refine o_nil ?_
      refine h_next (fun _ h => (h.sort (by repeat constructor)).fewer ((hx1.le).trans hx2.le)) ?_
      refine h_go [7] (by kernel_rfl) rfl (TWHs.cons ?_ TWHs.nil)
      refine h_op #[true, true, true, true, true, true, true, true] rfl rfl ?_
      refine o_store trivial rfl rfl rfl Tryz.sizeOf145 rfl (by first | rfl | (repeat' (first | exact rfl | exact one_nil | refine one_cons ?_ ?_ | exact (Ws.cells1 (by assumption)).2 | exact (Slc.cells1 (by assumption)).2))) (by repeat constructor) (by repeat constructor) ?_
      refine o_nil ?_
      refine h_next (fun _ h => (h.sort (by repeat constructor)).fewer ((hx1.le).trans hx2.le)) ?_
      refine h_end (by kernel_rfl) ?_
      exact meet (b5, b6, n1, d1, n2, d2, I2) (sub_cons rfl (sub_cons rfl (sub_cons rfl sub_nil))) (fun _ h => h.sort (by repeat constructor)) ⟨hn1.le hx2.le, hd1.le hx2.le, hn2, hd2, hx1.trans hx2 (Nat.le_refl _)⟩
     ·
      refine h_op #[true, true, true, true, false, true, false, false] rfl rfl ?_
      refine o_alloc trivial rfl Tryz.zeroValue145 rfl (fun b6 => ?_)
      refine o_nil ?_
      refine h_next (fun _ h => (h.sort (by repeat constructor)).fewer ((hx1.le).trans hx2.le)) ?_
      refine h_go [4] (by kernel_rfl) rfl (TWHs.cons ?_ TWHs.nil)
      refine h_op #[true, true, true, true, true, true, false, false] rfl rfl ?_
      refine o_alloc trivial rfl Tryz.zeroValue145 rfl (fun b5 => ?_)
      refine o_nil ?_
      refine h_next (fun _ h => (h.sort (by repeat constructor)).fewer ((hx1.le).trans hx2.le)) ?_
      refine h_go [6] (by kernel_rfl) rfl (TWHs.cons ?_ TWHs.nil)
      refine h_op #[true, true, true, true, true, true, true, false] rfl rfl ?_
      refine o_store trivial rfl rfl rfl Tryz.sizeOf145 rfl (by first | rfl | (repeat' (first | exact rfl | exact one_nil | refine one_cons ?_ ?_ | exact (Ws.cells1 (by assumption)).2 | exact (Slc.cells1 (by assumption)).2))) (by repeat constructor) (by repeat constructor) ?_
      refine o_nil ?_
      refine h_next (fun _ h => (h.sort (by repeat constructor)).fewer ((hx1.le).trans hx2.le)) ?_
      refine h_go [7] (by kernel_rfl) rfl (TWHs.cons ?_ TWHs.nil)
      refine h_op #[true, true, true, true, true, true, true, true] rfl rfl ?_
      refine o_store trivial rfl rfl rfl Tryz.sizeOf145 rfl (by first | rfl | (repeat' (first | exact rfl | exact one_nil | refine one_cons ?_ ?_ | exact (Ws.cells1 (by assumption)).2 | exact (Slc.cells1 (by assumption)).2))) (by repeat constructor) (by repeat constructor) ?_
      refine o_nil ?_
      refine h_next (fun _ h => (h.sort (by repeat constructor)).fewer ((hx1.le).trans hx2.le)) ?_
      refine h_end (by kernel_rfl) ?_
      exact meet (b5, b6, n1, d1, n2, d2, I2) (sub_cons rfl (sub_cons rfl (sub_cons rfl sub_nil))) (fun _ h => h.sort (by repeat constructor)) ⟨hn1.le hx2.le, hd1.le hx2.le, hn2, hd2, hx1.trans hx2 (Nat.le_refl _)⟩
    ·
     refine h_op #[true, true, true, false, true, false, false, false] rfl rfl ?_
     refine o_alloc trivial rfl Tryz.zeroValue145 rfl (fun b5 => ?_)
     refine o_nil ?_
     refine h_next (fun _ h => (h.sort (by repeat constructor)).fewer (hx1.le)) ?_
     refine h_go [3, 5] (by kernel_rfl) rfl (TWHs.cons ?_ (TWHs.cons ?_ TWHs.nil))
     ·
      refine h_op #[true, true, true, true, true, false, false, false] rfl rfl ?_
      refine o_callI trivial rfl Tryz.call103 rfl (qof_any q _ _ (hc.le hx1.le) (hd.le hx1.le) (hq.le (by decide))) ?_
      rintro _ I2 hx2 ⟨n2, d2, rfl, hn2, hd2⟩
      refine o_nil ?_
      refine h_next (fun _ h => (h.sort (by repeat constructor)).fewer ((hx1.le).trans hx2.le)) ?_
      refine h_go [5] (by kernel_rfl) rfl (TWHs.cons ?_ TWHs.nil)
      refine h_op #[true, true, true, true, true, true, false, false] rfl rfl ?_
      refine o_alloc trivial rfl Tryz.zeroValue145 rfl (fun b6 => ?_)
      refine o_nil ?_
      refine h_next (fun _ h => (h.sort (by repeat constructor)).fewer ((hx1.le).trans hx2.le)) ?_
      refine h_go [6] (by kernel_rfl) rfl (TWHs.cons ?_ TWHs.nil)
      refine h_op #[true, true, true, true, true, true, true, false] rfl rfl ?_
      refine o_store trivial rfl rfl rfl Tryz.sizeOf145 rfl (by first | rfl | (repeat' (first | exact rfl | exact one_nil | refine one_cons ?_ ?_ | exact (Ws.cells1 (by assumption)).2 | exact (Slc.cells1 (by assumption)).2))) (by repeat constructor) (by repeat constructor) ?_
      refine o_nil ?_
      refine h_next (fun _ h => (h.sort (by repeat constructor)).fewer ((hx1.le).trans hx2.le)) ?_
      refine h_go [7] (by kernel_rfl) rfl (TWHs.cons ?_ TWHs.nil)
      refine h_op #[true, true, true, true, true, true, true, true] rfl rfl ?_
      refine o_store trivial rfl rfl rfl Tryz.sizeOf145 rfl (by first | rfl | (repeat' (first | exact rfl | exact one_nil | refine one_cons ?_ ?_ | exact (Ws.cells1 (by assumption)).2 | exact (Slc.cells1 (by assumption)).2))) (by repeat constructor) (by repeat constructor) ?_
      refine o_nil ?_
      refine h_next (fun _ h => (h.sort (by repeat constructor)).fewer ((hx1.le).trans hx2.le)) ?_
      refine h_end (by kernel_rfl) ?_
      exact meet (b5, b6, n1, d1, n2, d2, I2) (sub_cons rfl (sub_cons rfl (sub_cons rfl sub_nil))) (fun _ h => h.sort (by repeat constructor)) ⟨hn1.le hx2.le, hd1.le hx2.le, hn2, hd2, hx1.trans hx2 (Nat.le_refl _)⟩
     ·
      refine h_op #[true, true, true, false, true, true, false, false] rfl rfl ?_
      refine o_alloc trivial rfl Tryz.zeroValue145 rfl (fun b6 => ?_)
      refine o_nil ?_
      refine h_next (fun _ h => (h.sort (by repeat constructor)).fewer (hx1.le)) ?_
      refine h_go [3] (by kernel_rfl) rfl (TWHs.cons ?_ TWHs.nil)
      refine h_op #[true, true, true, true, true, true, false, false] rfl rfl ?_
      refine o_callI trivial rfl Tryz.call103 rfl (qof_any q _ _ (hc.le hx1.le) (hd.le hx1.le) (hq.le (by decide))) ?_
      rintro _ I2 hx2 ⟨n2, d2, rfl, hn2, hd2⟩
      refine o_nil ?_
      refine h_next (fun _ h => (h.sort (by repeat constructor)).fewer ((hx1.le).trans hx2.le)) ?_
      refine h_go [6] (by kernel_rfl) rfl (TWHs.cons ?_ TWHs.nil)
      refine h_op #[true, true, true, true, true, true, true, false] rfl rfl ?_
      refine o_store trivial rfl rfl rfl Tryz.sizeOf145 rfl (by first | rfl | (repeat' (first | exact rfl | exact one_nil | refine one_cons ?_ ?_ | exact (Ws.cells1 (by assumption)).2 | exact (Slc.cells1 (by assumption)).2))) (by repeat constructor) (by repeat constructor) ?_
      refine o_nil ?_
      refine h_next (fun _ h => (h.sort (by repeat constructor)).fewer ((hx1.le).trans hx2.le)) ?_
      refine h_go [7] (by kernel_rfl) rfl (TWHs.cons ?_ TWHs.nil)
      refine h_op #[true, true, true, true, true, true, true, true] rfl rfl ?_
      refine o_store trivial rfl rfl rfl Tryz.sizeOf145 rfl (by first | rfl | (repeat' (first | exact rfl | exact one_nil | refine one_cons ?_ ?_ | exact (Ws.cells1 (by assumption)).2 | exact (Slc.cells1 (by assumption)).2))) (by repeat constructor) (by repeat constructor) ?_
      refine o_nil ?_
      refine h_next (fun _ h => (h.sort (by repeat constructor)).fewer ((hx1.le).trans hx2.le)) ?_
      refine h_end (by kernel_rfl) ?_
      exact meet (b5, b6, n1, d1, n2, d2, I2) (sub_cons rfl (sub_cons rfl (sub_cons rfl sub_nil))) (fun _ h => h.sort (by repeat constructor)) ⟨hn1.le hx2.le, hd1.le hx2.le, hn2, hd2, hx1.trans hx2 (Nat.le_refl _)⟩
    ·
     refine h_op #[true, true, true, false, false, true, false, false] rfl rfl ?_
     refine o_alloc trivial rfl Tryz.zeroValue145 rfl (fun b6 => ?_)
     refine o_nil ?_
     refine h_next (fun _ h => (h.sort (by repeat constructor)).fewer (hx1.le)) ?_
     refine h_go [3, 4] (by kernel_rfl) rfl (TWHs.cons ?_ (TWHs.cons ?_ TWHs.nil))
     ·
      refine h_op #[true, true, true, true, false, true, false, false] rfl rfl ?_
      refine o_callI trivial rfl Tryz.call103 rfl (qof_any q _ _ (hc.le hx1.le) (hd.le hx1.le) (hq.le (by decide))) ?_
      rintro _ I2 hx2 ⟨n2, d2, rfl, hn2, hd2⟩
      refine o_nil ?_
      refine h_next (fun _ h => (h.sort (by repeat constructor)).fewer ((hx1.le).trans hx2.le)) ?_
      refine h_go [4] (by kernel_rfl) rfl (TWHs.cons ?_ TWHs.nil)
      refine h_op #[true, true, true, true, true, true, false, false] rfl rfl ?_
      refine o_alloc trivial rfl Tryz.zeroValue145 rfl (fun b5 => ?_)
      refine o_nil ?_
      refine h_next (fun _ h => (h.sort (by repeat constructor)).fewer ((hx1.le).trans hx2.le)) ?_
      refine h_go [6] (by kernel_rfl) rfl (TWHs.cons ?_ TWHs.nil)
      refine h_op #[true, true, true, true, true, true, true, false] rfl rfl ?_
      refine o_store trivial rfl rfl rfl Tryz.sizeOf145 rfl (by first | rfl | (repeat' (first | exact rfl | exact one_nil | refine one_cons ?_ ?_ | exact (Ws.cells1 (by assumption)).2 | exact (Slc.cells1 (by assumption)).2))) (by repeat constructor) (by repeat constructor) ?_
      refine o_nil ?_
      refine h_next (fun _ h => (h.sort (by repeat constructor)).fewer ((hx1.le).trans hx2.le)) ?_
      refine h_go [7] (by kernel_rfl) rfl (TWHs.cons ?_ TWHs.nil)
      refine h_op #[true, true, true, true, true, true, true, true] rfl rfl ?_
      refine o_store trivial rfl rfl rfl Tryz.sizeOf145 rfl (by first | rfl | (repeat' (first | exact rfl | exact one_nil | refine one_cons ?_ ?_ | exact (Ws.cells1 (by assumption)).2 | exact (Slc.cells1 (by assumption)).2))) (by repeat constructor) (by repeat constructor) ?_
      refine o_nil ?_
      refine h_next (fun _ h => (h.sort (by repeat constructor)).fewer ((hx1.le).trans hx2.le)) ?_
      refine h_end (by kernel_rfl) ?_
      exact meet (b5, b6, n1, d1, n2, d2, I2) (sub_cons rfl (sub_cons rfl (sub_cons rfl sub_nil))) (fun _ h => h.sort (by repeat constructor)) ⟨hn1.le hx2.le, hd1.le hx2.le, hn2, hd2, hx1.trans hx2 (Nat.le_refl _)⟩
     ·
      refine h_op #[true, true, true, false, true, true, false, false] rfl rfl ?_
      refine o_alloc trivial rfl Tryz.zeroValue145 rfl (fun b5 => ?_)
      refine o_nil ?_
      refine h_next (fun _ h => (h.sort (by repeat constructor)).fewer (hx1.le)) ?_
      refine h_go [3] (by kernel_rfl) rfl (TWHs.cons ?_ TWHs.nil)
      refine h_op #[true, true, true, true, true, true, false, false] rfl rfl ?_
      refine o_callI trivial rfl Tryz.call103 rfl (qof_any q _ _ (hc.le hx1.le) (hd.le hx1.le) (hq.le (by decide))) ?_
      rintro _ I2 hx2 ⟨n2, d2, rfl, hn2, hd2⟩
      refine o_nil ?_
      refine h_next (fun _ h => (h.sort (by repeat constructor)).fewer ((hx1.le).trans hx2.le)) ?_
      refine h_go [6] (by kernel_rfl) rfl (TWHs.cons ?_ TWHs.nil)
      refine h_op #[true, true, true, true, true, true, true, false] rfl rfl ?_
      refine o_store trivial rfl rfl rfl Tryz.sizeOf145 rfl (by first | rfl | (repeat' (first | exact rfl | exact one_nil | refine one_cons ?_ ?_ | exact (Ws.cells1 (by assumption)).2 | exact (Slc.cells1 (by assumption)).2))) (by repeat constructor) (by repeat constructor) ?_
      refine o_nil ?_
      refine h_next (fun _ h => (h.sort (by repeat constructor)).fewer ((hx1.le).trans hx2.le)) ?_
      refine h_go [7] (by kernel_rfl) rfl (TWHs.cons ?_ TWHs.nil)
      refine h_op #[true, true, true, true, true, true, true, true] rfl rfl ?_
      refine o_store trivial rfl rfl rfl Tryz.sizeOf145 rfl (by first | rfl | (repeat' (first | exact rfl | exact one_nil | refine one_cons ?_ ?_ | exact (Ws.cells1 (by assumption)).2 | exact (Slc.cells1 (by assumption)).2))) (by repeat constructor) (by repeat constructor) ?_
      refine o_nil ?_
      refine h_next (fun _ h => (h.sort (by repeat constructor)).fewer ((hx1.le).trans hx2.le)) ?_
      refine h_end (by kernel_rfl) ?_
      exact meet (b5, b6, n1, d1, n2, d2, I2) (sub_cons rfl (sub_cons rfl (sub_cons rfl sub_nil))) (fun _ h => h.sort (by repeat constructor)) ⟨hn1.le hx2.le, hd1.le hx2.le, hn2, hd2, hx1.trans hx2 (Nat.le_refl _)⟩
   ·
    refine h_op #[true, false, true, false, true, false, false, false] rfl rfl ?_
    refine o_alloc trivial rfl Tryz.zeroValue145 rfl (fun b5 => ?_)
    refine o_nil ?_
    refine h_next (fun _ h => (h.sort (by repeat constructor)).fewer (Hp.Le.refl _)) ?_
    refine h_go [1, 5] (by kernel_rfl) rfl (TWHs.cons ?_ (TWHs.cons ?_ TWHs.nil))
    ·
     refine h_op #[true, true, true, false, true, false, false, false] rfl rfl ?_
     refine o_callI trivial rfl Tryz.call103 rfl (qof_any p _ _ ha hb (hp.le (by decide))) ?_
     rintro _ I1 hx1 ⟨n1, d1, rfl, hn1, hd1⟩
     refine o_nil ?_
     refine h_next (fun _ h => (h.sort (by repeat constructor)).fewer (hx1.le)) ?_
     refine h_go [3, 5] (by kernel_rfl) rfl (TWHs.cons ?_ (TWHs.cons ?_ TWHs.nil))
     ·
      refine h_op #[true, true, true, true, true, false, false, false] rfl rfl ?_
      refine o_callI trivial rfl Tryz.call103 rfl (qof_any q _ _ (hc.le hx1.le) (hd.le hx1.le) (hq.le (by decide))) ?_
      rintro _ I2 hx2 ⟨n2, d2, rfl, hn2, hd2⟩
      refine o_nil ?_
      refine h_next (fun _ h => (h.sort (by repeat constructor)).fewer ((hx1.le).trans hx2.le)) ?_
      refine h_go [5] (by kernel_rfl) rfl (TWHs.cons ?_ TWHs.nil)
      refine h_op #[true, true, true, true, true, true, false, false] rfl rfl ?_
      refine o_alloc trivial rfl Tryz.zeroValue145 rfl (fun b6 => ?_)
      refine o_nil ?_
      refine h_next (fun _ h => (h.sort (by repeat constructor)).fewer ((hx1.le).trans hx2.le)) ?_
      refine h_go [6] (by kernel_rfl) rfl (TWHs.cons ?_ TWHs.nil)
      refine h_op #[true, true, true, true, true, true, true, false] rfl rfl ?_
      refine o_store trivial rfl rfl rfl Tryz.sizeOf145 rfl (by first | rfl | (repeat' (first | exact rfl | exact one_nil | refine one_cons ?_ ?_ | exact (Ws.cells1 (by assumption)).2 | exact (Slc.cells1 (by assumption)).2))) (by repeat constructor) (by repeat constructor) ?_
      refine o_nil ?_
      refine h_next (fun _ h => (h.sort (by repeat constructor)).fewer ((hx1.le).trans hx2.le)) ?_
      refine h_go [7] (by kernel_rfl) rfl (TWHs.cons ?_ TWHs.nil)
      refine h_op #[true, true, true, true, true, true, true, true] rfl rfl ?_
      refine o_store trivial rfl rfl rfl Tryz.sizeOf145 rfl (by first | rfl | (repeat' (first | exact rfl | exact one_nil | refine one_cons ?_ ?_ | exact (Ws.cells1 (by assumption)).2 | exact (Slc.cells1 (by assumption)).2))) (by repeat constructor) (by repeat constructor) ?_
      refine o_nil ?_
      refine h_next (fun _ h => (h.sort (by repeat constructor)).fewer ((hx1.le).trans hx2.le)) ?_
      refine h_end (by kernel_rfl) ?_
      exact meet (b5, b6, n1, d1, n2, d2, I2) (sub_cons rfl (sub_cons rfl (sub_cons rfl sub_nil))) (fun _ h => h.sort (by repeat constructor)) ⟨hn1.le hx2.le, hd1.le hx2.le, hn2, hd2, hx1.trans hx2 (Nat.le_refl _)⟩
     ·
      refine h_op #[true, true, true, false, true, true, false, false] rfl rfl ?_
      refine o_alloc trivial rfl Tryz.zeroValue145 rfl (fun b6 => ?_)
      refine o_nil ?_
      refine h_next (fun _ h => (h.sort (by repeat constructor)).fewer (hx1.le)) ?_
      refine h_go [3] (by kernel_rfl) rfl (TWHs.cons ?_ TWHs.nil)
      refine h_op #[true, true, true, true, true, true, false, false] rfl rfl ?_
      refine o_callI trivial rfl Tryz.call103 rfl (qof_any q _ _ (hc.le hx1.le) (hd.le hx1.le) (hq.le (by decide))) ?_
      rintro _ I2 hx2 ⟨n2, d2, rfl, hn2, hd2⟩
      refine o_nil ?_
      refine h_next (fun _ h => (h.sort (by repeat constructor)).fewer ((hx1.le).trans hx2.le)) ?_
      refine h_go [6] (by kernel_rfl) rfl (TWHs.cons ?_ TWHs.nil)
      refine h_op #[true, true, true, true, true, true, true, false] rfl rfl ?_
      refine o_store trivial rfl rfl rfl Tryz.sizeOf145 rfl (by first | rfl | (repeat' (first | exact rfl | exact one_nil | refine one_cons ?_ ?_ | exact (Ws.cells1 (by assumption)).2 | exact (Slc.cells1 (by assumption)).2))) (by repeat constructor) (by repeat constructor) ?_
      refine o_nil ?_
      refine h_next (fun _ h => (h.sort (by repeat constructor)).fewer ((hx1.le).trans hx2.le)) ?_
      refine h_go [7] (by kernel_rfl) rfl (TWHs.cons ?_ TWHs.nil)
      refine h_op #[true, true, true, true, true, true, true, true] rfl rfl ?_
      refine o_store trivial rfl rfl rfl Tryz.sizeOf145 rfl (by first | rfl | (repeat' (first | exact rfl | exact one_nil | refine one_cons ?_ ?_ | exact (Ws.cells1 (by assumption)).2 | exact (Slc.cells1 (by assumption)).2))) (by repeat constructor) (by repeat constructor) ?_
      refine o_nil ?_
      refine h_next (fun _ h => (h.sort (by repeat constructor)).fewer ((hx1.le).trans hx2.le)) ?_
      refine h_end (by kernel_rfl) ?_
      exact meet (b5, b6, n1, d1, n2, d2, I2) (sub_cons rfl (sub_cons rfl (sub_cons rfl sub_nil))) (fun _ h => h.sort (by repeat constructor)) ⟨hn1.le hx2.le, hd1.le hx2.le, hn2, hd2, hx1.trans hx2 (Nat.le_refl _)⟩
    ·
     refine h_op #[true, false, true, false, true, true, false, false] rfl rfl ?_
     refine o_alloc trivial rfl Tryz.zeroValue145 rfl (fun b6 => ?_)
     refine o_nil ?_
     refine h_next (fun _ h => (h.sort (by repeat constructor)).fewer (Hp.Le.refl _)) ?_
     refine h_go [1] (by kernel_rfl) rfl (TWHs.cons ?_ TWHs.nil)
     refine h_op #[true, true, true, false, true, true, false, false] rfl rfl ?_
     refine o_callI trivial rfl Tryz.call103 rfl (qof_any p _ _ ha hb (hp.le (by decide))) ?_
     rintro _ I1 hx1 ⟨n1, d1, rfl, hn1, hd1⟩
     refine o_nil ?_
     refine h_next (fun _ h => (h.sort (by repeat constructor)).fewer (hx1.le)) ?_
     refine h_go [3] (by kernel_rfl) rfl (TWHs.cons ?_ TWHs.nil)
     refine h_op #[true, true, true, true, true, true, false, false] rfl rfl ?_
     refine o_callI trivial rfl Tryz.call103 rfl (qof_any q _ _ (hc.le hx1.le) (hd.le hx1.le) (hq.le (by decide))) ?_
     rintro _ I2 hx2 ⟨n2, d2, rfl, hn2, hd2⟩
     refine o_nil ?_
     refine h_next (fun _ h => (h.sort (by repeat constructor)).fewer ((hx1.le).trans hx2.le)) ?_
     refine h_go [6] (by kernel_rfl) rfl (TWHs.cons ?_ TWHs.nil)
     refine h_op #[true, true, true, true, true, true, true, false] rfl rfl ?_
     refine o_store trivial rfl rfl rfl Tryz.sizeOf145 rfl (by first | rfl | (repeat' (first | exact rfl | exact one_nil | refine one_cons ?_ ?_ | exact (Ws.cells1 (by assumption)).2 | exact (Slc.cells1 (by assumption)).2))) (by repeat constructor) (by repeat constructor) ?_
     refine o_nil ?_
     refine h_next (fun _ h => (h.sort (by repeat constructor)).fewer ((hx1.le).trans hx2.le)) ?_
     refine h_go [7] (by kernel_rfl) rfl (TWHs.cons ?_ TWHs.nil)
     refine h_op #[true, true, true, true, true, true, true, true] rfl rfl ?_
     refine o_store trivial rfl rfl rfl Tryz.sizeOf145 rfl (by first | rfl | (repeat' (first | exact rfl | exact one_nil | refine one_cons ?_ ?_ | exact (Ws.cells1 (by assumption)).2 | exact (Slc.cells1 (by assumption)).2))) (by repeat constructor) (by repeat constructor) ?_
     refine o_nil ?_
     refine h_next (fun _ h => (h.sort (by repeat constructor)).fewer ((hx1.le).trans hx2.le)) ?_
     refine h_end (by kernel_rfl) ?_
     exact meet (b5, b6, n1, d1, n2, d2, I2) (sub_cons rfl (sub_cons rfl (sub_cons rfl sub_nil))) (fun _ h => h.sort (by repeat constructor)) ⟨hn1.le hx2.le, hd1.le hx2.le, hn2, hd2, hx1.trans hx2 (Nat.le_refl _)⟩
   ·
    refine h_op #[true, false, true, false, false, true, false, false] rfl rfl ?_
    refine o_alloc trivial rfl Tryz.zeroValue145 rfl (fun b6 => ?_)
    refine o_nil ?_
    refine h_next (fun _ h => (h.sort (by repeat constructor)).fewer (Hp.Le.refl _)) ?_
    refine h_go [1, 4] (by kernel_rfl) rfl (TWHs.cons ?_ (TWHs.cons ?_ TWHs.nil))
    ·
     refine h_op #[true, true, true, false, false, true, false, false] rfl rfl ?_
     refine o_callI trivial rfl Tryz.call103 rfl (qof_any p _ _ ha hb (hp.le (by decide))) ?_
     rintro _ I1 hx1 ⟨n1, d1, rfl, hn1, hd1⟩
     refine o_nil ?_
     refine h_next (fun _ h => (h.sort (by repeat constructor)).fewer (hx1.le)) ?_
     refine h_go [3, 4] (by kernel_rfl) rfl (TWHs.cons ?_ (TWHs.cons ?_ TWHs.nil))
     ·
      refine h_op #[true, true, true, true, false, true, false, false] rfl rfl ?_
      refine o_callI trivial rfl Tryz.call103 rfl (qof_any q _ _ (hc.le hx1.le) (hd.le hx1.le) (hq.le (by decide))) ?_
      rintro _ I2 hx2 ⟨n2, d2, rfl, hn2, hd2⟩
      refine o_nil ?_
      refine h_next (fun _ h => (h.sort (by repeat constructor)).fewer ((hx1.le).trans hx2.le)) ?_
      refine h_go [4] (by kernel_rfl) rfl (TWHs.cons ?_ TWHs.nil)
      refine h_op #[true, true, true, true, true, true, false, false] rfl rfl ?_
      refine o_alloc trivial rfl Tryz.zeroValue145 rfl (fun b5 => ?_)
      refine o_nil ?_
      refine h_next (fun _ h => (h.sort (by repeat constructor)).fewer ((hx1.le).trans hx2.le)) ?_
      refine h_go [6] (by kernel_rfl) rfl (TWHs.cons ?_ TWHs.nil)
      refine h_op #[true, true, true, true, true, true, true, false] rfl rfl ?_
      refine o_store trivial rfl rfl rfl Tryz.sizeOf145 rfl (by first | rfl | (repeat' (first | exact rfl | exact one_nil | refine one_cons ?_ ?_ | exact (Ws.cells1 (by assumption)).2 | exact (Slc.cells1 (by assumption)).2))) (by repeat constructor) (by repeat constructor) ?_
      refine o_nil ?_
      refine h_next (fun _ h => (h.sort (by repeat constructor)).fewer ((hx1.le).trans hx2.le)) ?_
      refine h_go [7] (by kernel_rfl) rfl (TWHs.cons ?_ TWHs.nil)
      refine h_op #[true, true, true, true, true, true, true, true] rfl rfl ?_
      refine o_store trivial rfl rfl rfl Tryz.sizeOf145 rfl (by first | rfl | (repeat' (first | exact rfl | exact one_nil | refine one_cons ?_ ?_ | exact (Ws.cells1 (by assumption)).2 | exact (Slc.cells1 (by assumption)).2))) (by repeat constructor) (by repeat constructor) ?_
      refine o_nil ?_
      refine h_next (fun _ h => (h.sort (by repeat constructor)).fewer ((hx1.le).trans hx2.le)) ?_
      refine h_end (by kernel_rfl) ?_
      exact meet (b5, b6, n1, d1, n2, d2, I2) (sub_cons rfl (sub_cons rfl (sub_cons rfl sub_nil))) (fun _ h => h.sort (by repeat constructor)) ⟨hn1.le hx2.le, hd1.le hx2.le, hn2, hd2, hx1.trans hx2 (Nat.le_refl _)⟩
     ·
      refine h_op #[true, true, true, false, true, true, false, false] rfl rfl ?_
      refine o_alloc trivial rfl Tryz.zeroValue145 rfl (fun b5 => ?_)
      refine o_nil ?_
      refine h_next (fun _ h => (h.sort (by repeat constructor)).fewer (hx1.le)) ?_
      refine h_go [3] (by kernel_rfl) rfl (TWHs.cons ?_ TWHs.nil)
      refine h_op #[true, true, true, true, true, true, false, false] rfl rfl ?_
      refine o_callI trivial rfl Tryz.call103 rfl (qof_any q _ _ (hc.le hx1.le) (hd.le hx1.le) (hq.le (by decide))) ?_
      rintro _ I2 hx2 ⟨n2, d2, rfl, hn2, hd2⟩
      refine o_nil ?_
      refine h_next (fun _ h => (h.sort (by repeat constructor)).fewer ((hx1.le).trans hx2.le)) ?_
      refine h_go [6] (by kernel_rfl) rfl (TWHs.cons ?_ TWHs.nil)
      refine h_op #[true, true, true, true, true, true, true, false] rfl rfl ?_
      refine o_store trivial rfl rfl rfl Tryz.sizeOf145 rfl (by first | rfl | (repeat' (first | exact rfl | exact one_nil | refine one_cons ?_ ?_ | exact (Ws.cells1 (by assumption)).2 | exact (Slc.cells1 (by assumption)).2))) (by repeat constructor) (by repeat constructor) ?_
      refine o_nil ?_
      refine h_next (fun _ h => (h.sort (by repeat constructor)).fewer ((hx1.le).trans hx2.le)) ?_
      refine h_go [7] (by kernel_rfl) rfl (TWHs.cons ?_ TWHs.nil)
      refine h_op #[true, true, true, true, true, true, true, true] rfl rfl ?_
      refine o_store trivial rfl rfl rfl Tryz.sizeOf145 rfl (by first | rfl | (repeat' (first | exact rfl | exact one_nil | refine one_cons ?_ ?_ | exact (Ws.cells1 (by assumption)).2 | exact (Slc.cells1 (by assumption)).2))) (by repeat constructor) (by repeat constructor) ?_
      refine o_nil ?_
      refine h_next (fun _ h => (h.sort (by repeat constructor)).fewer ((hx1.le).trans hx2.le)) ?_
      refine h_end (by kernel_rfl) ?_
      exact meet (b5, b6, n1, d1, n2, d2, I2) (sub_cons rfl (sub_cons rfl (sub_cons rfl sub_nil))) (fun _ h => h.sort (by repeat constructor)) ⟨hn1.le hx2.le, hd1.le hx2.le, hn2, hd2, hx1.trans hx2 (Nat.le_refl _)⟩
    ·
     refine h_op #[true, false, true, false, true, true, false, false] rfl rfl ?_
     refine o_alloc trivial rfl Tryz.zeroValue145 rfl (fun b5 => ?_)
     refine o_nil ?_
     refine h_next (fun _ h => (h.sort (by repeat constructor)).fewer (Hp.Le.refl _)) ?_
     refine h_go [1] (by kernel_rfl) rfl (TWHs.cons ?_ TWHs.nil)
     refine h_op #[true, true, true, false, true, true, false, false] rfl rfl ?_
     refine o_callI trivial rfl Tryz.call103 rfl (qof_any p _ _ ha hb (hp.le (by decide))) ?_
     rintro _ I1 hx1 ⟨n1, d1, rfl, hn1, hd1⟩
     refine o_nil ?_
     refine h_next (fun _ h => (h.sort (by repeat constructor)).fewer (hx1.le)) ?_
     refine h_go [3] (by kernel_rfl) rfl (TWHs.cons ?_ TWHs.nil)
     refine h_op #[true, true, true, true, true, true, false, false] rfl rfl ?_
     refine o_callI trivial rfl Tryz.call103 rfl (qof_any q _ _ (hc.le hx1.le) (hd.le hx1.le) (hq.le (by decide))) ?_
     rintro _ I2 hx2 ⟨n2, d2, rfl, hn2, hd2⟩
     refine o_nil ?_
     refine h_next (fun _ h => (h.sort (by repeat constructor)).fewer ((hx1.le).trans hx2.le)) ?_
     refine h_go [6] (by kernel_rfl) rfl (TWHs.cons ?_ TWHs.nil)
     refine h_op #[true, true, true, true, true, true, true, false] rfl rfl ?_
     refine o_store trivial rfl rfl rfl Tryz.sizeOf145 rfl (by first | rfl | (repeat' (first | exact rfl | exact one_nil | refine one_cons ?_ ?_ | exact (Ws.cells1 (by assumption)).2 | exact (Slc.cells1 (by assumption)).2))) (by repeat constructor) (by repeat constructor) ?_
     refine o_nil ?_
     refine h_next (fun _ h => (h.sort (by repeat constructor)).fewer ((hx1.le).trans hx2.le)) ?_
     refine h_go [7] (by kernel_rfl) rfl (TWHs.cons ?_ TWHs.nil)
     refine h_op #[true, true, true, true, true, true, true, true] rfl rfl ?_
     refine o_store trivial rfl rfl rfl Tryz.sizeOf145 rfl (by first | rfl | (repeat' (first | exact rfl | exact one_nil | refine one_cons ?_ ?_ | exact (Ws.cells1 (by assumption)).2 | exact (Slc.cells1 (by assumption)).2))) (by repeat constructor) (by repeat constructor) ?_
     refine o_nil ?_
     refine h_next (fun _ h => (h.sort (by repeat constructor)).fewer ((hx1.le).trans hx2.le)) ?_
     refine h_end (by kernel_rfl) ?_
     exact meet (b5, b6, n1, d1, n2, d2, I2) (sub_cons rfl (sub_cons rfl (sub_cons rfl sub_nil))) (fun _ h => h.sort (by repeat constructor)) ⟨hn1.le hx2.le, hd1.le hx2.le, hn2, hd2, hx1.trans hx2 (Nat.le_refl _)⟩
  ·
   rintro ⟨b5, b6, n1, d1, n2, d2, I2⟩ ⟨hn1, hd1, hn2, hd2, hx2⟩
   try dsimp only
   refine c_cut (ι := Nat × Value × Hp) [4, 5, 6] (.cons rfl (.cons rfl (.cons rfl .nil))) (fun y E0 => (7, .pointer (some ⟨y.1, 0, none⟩)) :: E0) (fun y => St w [] y.2.2 [.box y.1 (.cells [.bool (decide (p.num * (q.den : Int) + q.num * (p.den : Int) < 0)), y.2.1].toArray 93 (0, 0)), .box b4 (.cells [.bool false, .slice none 0 0, .slice none 0 0].toArray 33 (0, 0)), .box b5 (.cells [.bool (decide (p.num < 0)), n1, d1].toArray 145 (0, 0)), .box b6 (.cells [.bool (decide (q.num < 0)), n2, d2].toArray 145 (0, 0))]) (fun y => Ws y.2.2 y.2.1 (natW (p.num * (q.den : Int) + q.num * (p.den : Int)).natAbs) ∧ Ws y.2.2 d1 (natW p.den) ∧ Ws y.2.2 d2 (natW q.den) ∧ Ext w.heap.size I y.2.2) ?_ ?_
   ·
    refine h_beginB (m := 17) [.box b5 _, .box b6 _] (by repeat constructor) (by kernel_rfl) rfl ?_
    refine' h_take (i := 0) #[true, false, false, false, false, false, false, false, false, false, false, false, false, false, false, false, false] rfl rfl rfl (by kernel_rfl) (by kernel_rfl) (by kernel_rfl) rfl (qp_then qp_bp) (fun _ h => (h.sort (by repeat constructor)).fewer (Hp.Le.refl _)) ?hh2 ?kk2
    case hh2 =>
     refine o_fieldAddr (T := 143) (off := 0) trivial rfl Tryz.underlying145 rfl rfl rfl Tryz.sizeOf143 rfl rfl ?_
     refine o_nil ?_
     exact ⟨fun _ _ ha _ => ha⟩
    refine' h_take (i := 1) #[true, true, false, false, false, false, false, false, false, false, false, false, false, false, false, false, false] rfl rfl rfl (by kernel_rfl) (by kernel_rfl) (by kernel_rfl) rfl (qp_then qp_bp) (fun _ h => (h.sort (by repeat constructor)).fewer (Hp.Le.refl _)) ?hh3 ?kk3
    case hh3 =>
     refine o_loadA trivial rfl Tryz.isAgg143 Tryz.sizeOf143 rfl (by repeat constructor) (by repeat constructor) ?_
     refine o_nil ?_
     exact ⟨fun _ _ ha _ => ha⟩
    refine' h_take (i := 3) #[true, true, false, true, false, false, false, false, false, false, false, false, false, false, false, false, false] rfl rfl rfl (by kernel_rfl) (by kernel_rfl) (by kernel_rfl) rfl (qp_then qp_bp) (fun _ h => (h.sort (by repeat constructor)).fewer (Hp.Le.refl _)) ?hh4 ?kk4
    case hh4 =>
     refine o_fieldAddr (T := 143) (off := 0) trivial rfl Tryz.underlying145 rfl rfl rfl Tryz.sizeOf143 rfl rfl ?_
     refine o_nil ?_
     exact ⟨fun _ _ ha _ => ha⟩
    refine' h_take (i := 4) #[true, true, false, true, true, false, false, false, false, false, false, false, false, false, false, false, false] rfl rfl rfl (by kernel_rfl) (by kernel_rfl) (by kernel_rfl) rfl (qp_then qp_bp) (fun _ h => (h.sort (by repeat constructor)).fewer (Hp.Le.refl _)) ?hh5 ?kk5
    case hh5 =>
     refine o_loadA trivial rfl Tryz.isAgg143 Tryz.sizeOf143 rfl (by repeat constructor) (by repeat constructor) ?_
     refine o_nil ?_
     exact ⟨fun _ _ ha _ => ha⟩
    refine' h_take (i := 7) #[true, true, false, true, true, false, false, true, false, false, false, false, false, false, false, false, false] rfl rfl rfl (by kernel_rfl) (by kernel_rfl) (by kernel_rfl) rfl (qp_then qp_bp) (fun _ h => (h.sort (by repeat constructor)).fewer (Hp.Le.refl _)) ?hh6 ?kk6
    case hh6 =>
     refine o_fieldAddr (T := 143) (off := 0) trivial rfl Tryz.underlying145 rfl rfl rfl Tryz.sizeOf143 rfl rfl ?_
     refine o_nil ?_
     exact ⟨fun _ _ ha _ => ha⟩
    refine' h_take (i := 8) #[true, true, false, true, true, false, false, true, true, false, false, false, false, false, false, false, false] rfl rfl rfl (by kernel_rfl) (by kernel_rfl) (by kernel_rfl) rfl (qp_then qp_bp) (fun _ h => (h.sort (by repeat constructor)).fewer (Hp.Le.refl _)) ?hh7 ?kk7
    case hh7 =>
     refine o_loadA trivial rfl Tryz.isAgg143 Tryz.sizeOf143 rfl (by repeat constructor) (by repeat constructor) ?_
     refine o_nil ?_
     exact ⟨fun _ _ ha _ => ha⟩
    refine' h_take (i := 10) #[true, true, false, true, true, false, false, true, true, false, true, false, false, false, false, false, false] rfl rfl rfl (by kernel_rfl) (by kernel_rfl) (by kernel_rfl) rfl (qp_then qp_bp) (fun _ h => (h.sort (by repeat constructor)).fewer (Hp.Le.refl _)) ?hh8 ?kk8
    case hh8 =>
     refine o_fieldAddr (T := 143) (off := 0) trivial rfl Tryz.underlying145 rfl rfl rfl Tryz.sizeOf143 rfl rfl ?_
     refine o_nil ?_
     exact ⟨fun _ _ ha _ => ha⟩
    refine' h_take (i := 11) #[true, true, false, true, true, false, false, true, true, false, true, true, false, false, false, false, false] rfl rfl rfl (by kernel_rfl) (by kernel_rfl) (by kernel_rfl) rfl (qp_then qp_bp) (fun _ h => (h.sort (by repeat constructor)).fewer (Hp.Le.refl _)) ?hh9 ?kk9
    case hh9 =>
     refine o_loadA trivial rfl Tryz.isAgg143 Tryz.sizeOf143 rfl (by repeat constructor) (by repeat constructor) ?_
     refine o_nil ?_
     exact ⟨fun _ _ ha _ => ha⟩
    refine h_go [2, 15] (by kernel_rfl) rfl (TWHs.cons ?_ (TWHs.cons ?_ TWHs.nil))
    ·
     refine h_op #[true, true, true, true, true, false, false, true, true, false, true, true, false, false, false, false, false] rfl rfl ?_
     refine o_callQ trivial rfl Tryz.call106 rfl (above_any p _ _ hn1 hd1) ?_
     refine o_nil ?_
     refine h_next (fun _ h => (h.sort (by repeat constructor)).fewer (Hp.Le.refl _)) ?_
     refine h_go [5, 15] (by kernel_rfl) rfl (TWHs.cons ?_ (TWHs.cons ?_ TWHs.nil))
     ·
      refine h_op #[true, true, true, true, true, true, false, true, true, false, true, true, false, false, false, false, false] rfl rfl ?_
      refine o_callQ trivial rfl Tryz.call107 rfl (below_any q _ _ hn2 hd2) ?_
      refine o_nil ?_
      refine h_next (fun _ h => (h.sort (by repeat constructor)).fewer (Hp.Le.refl _)) ?_
      refine h_go [6, 15] (by kernel_rfl) rfl (TWHs.cons ?_ (TWHs.cons ?_ TWHs.nil))
      ·
       refine h_op #[true, true, true, true, true, true, true, true, true, false, true, true, false, false, false, false, false] rfl rfl ?_
       refine o_callI trivial rfl Tryz.call105 rfl (wMul_any _ _ p.num (q.den : Int) hn1 hd2 (by omega) (by rw [Int.natAbs_natCast]; omega)) ?_
       rintro _ I3 hx3 ⟨u3, rfl, hs3⟩
       refine o_nil ?_
       refine h_next (fun _ h => (h.sort (by repeat constructor)).fewer (hx3.le)) ?_
       refine h_go [9, 15] (by kernel_rfl) rfl (TWHs.cons ?_ (TWHs.cons ?_ TWHs.nil))
       ·
        refine h_op #[true, true, true, true, true, true, true, true, true, true, true, true, false, false, false, false, false] rfl rfl ?_
        refine o_callQ trivial rfl Tryz.call106 rfl (above_any q _ _ (hn2.le hx3.le) (hd2.le hx3.le)) ?_
        refine o_nil ?_
        refine h_next (fun _ h => (h.sort (by repeat constructor)).fewer (hx3.le)) ?_
        refine h_go [12, 15] (by kernel_rfl) rfl (TWHs.cons ?_ (TWHs.cons ?_ TWHs.nil))
        ·
         refine h_op #[true, true, true, true, true, true, true, true, true, true, true, true, true, false, false, false, false] rfl rfl ?_
         refine o_callQ trivial rfl Tryz.call107 rfl (below_any p _ _ (hn1.le hx3.le) (hd1.le hx3.le)) ?_
         refine o_nil ?_
         refine h_next (fun _ h => (h.sort (by repeat constructor)).fewer (hx3.le)) ?_
         refine h_go [13, 15] (by kernel_rfl) rfl (TWHs.cons ?_ (TWHs.cons ?_ TWHs.nil))
         ·
          refine h_op #[true, true, true, true, true, true, true, true, true, true, true, true, true, true, false, false, false] rfl rfl ?_
          refine o_callI trivial rfl Tryz.call105 rfl (wMul_any _ _ q.num (p.den : Int) (hn2.le hx3.le) (hd1.le hx3.le) (by omega) (by rw [Int.natAbs_natCast]; omega)) ?_
          rintro _ I4 hx4 ⟨u4, rfl, hs4⟩
          refine o_nil ?_
          refine h_next (fun _ h => (h.sort (by repeat constructor)).fewer ((hx3.le).trans hx4.le)) ?_
          refine h_go [14, 15] (by kernel_rfl) rfl (TWHs.cons ?_ (TWHs.cons ?_ TWHs.nil))
          ·
           refine h_op #[true, true, true, true, true, true, true, true, true, true, true, true, true, true, true, false, false] rfl rfl ?_
           refine o_callI trivial rfl Tryz.call104 rfl (wAdd_any _ _ (p.num * (q.den : Int)) (q.num * (p.den : Int)) (hs3.le hx4.le) hs4 (by rw [Int.natAbs_mul]; exact Nat.le_trans (natW_mul_len _ _) (by rw [Int.natAbs_natCast]; omega)) (by rw [Int.natAbs_mul]; exact Nat.le_trans (natW_mul_len _ _) (by rw [Int.natAbs_natCast]; omega))) ?_
           rintro _ I5 hx5 ⟨u5, rfl, hs5⟩
           refine o_nil ?_
           refine h_next (fun _ h => (h.sort (by repeat constructor)).fewer (((hx3.le).trans hx4.le).trans hx5.le)) ?_
           refine h_go [15] (by kernel_rfl) rfl (TWHs.cons ?_ TWHs.nil)
           refine h_op #[true, true, true, true, true, true, true, true, true, true, true, true, true, true, true, true, false] rfl rfl ?_
           refine o_alloc trivial rfl Tryz.zeroValue93 rfl (fun b7 => ?_)
           refine o_nil ?_
           refine h_next (fun _ h => (h.sort (by repeat constructor)).fewer (((hx3.le).trans hx4.le).trans hx5.le)) ?_
           refine h_go [16] (by kernel_rfl) rfl (TWHs.cons ?_ TWHs.nil)
           refine h_op #[true, true, true, true, true, true, true, true, true, true, true, true, true, true, true, true, true] rfl rfl ?_
           refine o_store trivial rfl rfl rfl Tryz.sizeOf93 rfl (by first | rfl | (repeat' (first | exact rfl | exact one_nil | refine one_cons ?_ ?_ | exact (Ws.cells1 (by assumption)).2 | exact (Slc.cells1 (by assumption)).2))) (by repeat constructor) (by repeat constructor) ?_
           refine o_nil ?_
           refine h_next (fun _ h => (h.sort (by repeat constructor)).fewer (((hx3.le).trans hx4.le).trans hx5.le)) ?_
           refine h_end (by kernel_rfl) ?_
           exact meet (b7, u5, I5) (sub_cons rfl (sub_cons rfl (sub_cons rfl (sub_cons rfl sub_nil)))) (fun _ h => h.sort (by repeat constructor)) ⟨hs5, hd1.le (hx3.le.trans (hx4.le.trans hx5.le)), hd2.le (hx3.le.trans (hx4.le.trans hx5.le)), hx2.trans (hx3.trans (hx4.trans hx5 (Nat.le_refl _)) (Nat.le_refl _)) (Nat.le_refl _)⟩
          ·
           refine h_op #[true, true, true, true, true, true, true, true, true, true, true, true, true, true, false, true, false] rfl rfl ?_
           refine o_alloc trivial rfl Tryz.zeroValue93 rfl (fun b7 => ?_)
           refine o_nil ?_
           refine h_next (fun _ h => (h.sort (by repeat constructor)).fewer ((hx3.le).trans hx4.le)) ?_
           refine h_go [14] (by kernel_rfl) rfl (TWHs.cons ?_ TWHs.nil)
           refine h_op #[true, true, true, true, true, true, true, true, true, true, true, true, true, true, true, true, false] rfl rfl ?_
           refine o_callI trivial rfl Tryz.call104 rfl (wAdd_any _ _ (p.num * (q.den : Int)) (q.num * (p.den : Int)) (hs3.le hx4.le) hs4 (by rw [Int.natAbs_mul]; exact Nat.le_trans (natW_mul_len _ _) (by rw [Int.natAbs_natCast]; omega)) (by rw [Int.natAbs_mul]; exact Nat.le_trans (natW_mul_len _ _) (by rw [Int.natAbs_natCast]; omega))) ?_
           rintro _ I5 hx5 ⟨u5, rfl, hs5⟩
           refine o_nil ?_
           refine h_next (fun _ h => (h.sort (by repeat constructor)).fewer (((hx3.le).trans hx4.le).trans hx5.le)) ?_
           refine h_go [16] (by kernel_rfl) rfl (TWHs.cons ?_ TWHs.nil)
           refine h_op #[true, true, true, true, true, true, true, true, true, true, true, true, true, true, true, true, true] rfl rfl ?_
           refine o_store trivial rfl rfl rfl Tryz.sizeOf93 rfl (by first | rfl | (repeat' (first | exact rfl | exact one_nil | refine one_cons ?_ ?_ | exact (Ws.cells1 (by assumption)).2 | exact (Slc.cells1 (by assumption)).2))) (by repeat constructor) (by repeat constructor) ?_
           refine o_nil ?_
           refine h_next (fun _ h => (h.sort (by repeat constructor)).fewer (((hx3.le).trans hx4.le).trans hx5.le)) ?_
           refine h_end (by kernel_rfl) ?_
           exact meet (b7, u5, I5) (sub_cons rfl (sub_cons rfl (sub_cons rfl (sub_cons rfl sub_nil)))) (fun _ h => h.sort (by repeat constructor)) ⟨hs5, hd1.le (hx3.le.trans (hx4.le.trans hx5.le)), hd2.le (hx3.le.trans (hx4.le.trans hx5.le)), hx2.trans (hx3.trans (hx4.trans hx5 (Nat.le_refl _)) (Nat.le_refl _)) (Nat.le_refl _)⟩
         ·
          refine h_op #[true, true, true, true, true, true, true, true, true, true, true, true, true, false, false, true, false] rfl rfl ?_
          refine o_alloc trivial rfl Tryz.zeroValue93 rfl (fun b7 => ?_)
          refine o_nil ?_
          refine h_next (fun _ h => (h.sort (by repeat constructor)).fewer (hx3.le)) ?_
          refine h_go [13] (by kernel_rfl) rfl (TWHs.cons ?_ TWHs.nil)
          refine h_op #[true, true, true, true, true, true, true, true, true, true, true, true, true, true, false, true, false] rfl rfl ?_
          refine o_callI trivial rfl Tryz.call105 rfl (wMul_any _ _ q.num (p.den : Int) (hn2.le hx3.le) (hd1.le hx3.le) (by omega) (by rw [Int.natAbs_natCast]; omega)) ?_
          rintro _ I4 hx4 ⟨u4, rfl, hs4⟩
          refine o_nil ?_
          refine h_next (fun _ h => (h.sort (by repeat constructor)).fewer ((hx3.le).trans hx4.le)) ?_
          refine h_go [14] (by kernel_rfl) rfl (TWHs.cons ?_ TWHs.nil)
          refine h_op #[true, true, true, true, true, true, true, true, true, true, true, true, true, true, true, true, false] rfl rfl ?_
          refine o_callI trivial rfl Tryz.call104 rfl (wAdd_any _ _ (p.num * (q.den : Int)) (q.num * (p.den : Int)) (hs3.le hx4.le) hs4 (by rw [Int.natAbs_mul]; exact Nat.le_trans (natW_mul_len _ _) (by rw [Int.natAbs_natCast]; omega)) (by rw [Int.natAbs_mul]; exact Nat.le_trans (natW_mul_len _ _) (by rw [Int.natAbs_natCast]; omega))) ?_
          rintro _ I5 hx5 ⟨u5, rfl, hs5⟩
          refine o_nil ?_
          refine h_next (fun _ h => (h.sort (by repeat constructor)).fewer (((hx3.le).trans hx4.le).trans hx5.le)) ?_
          refine h_go [16] (by kernel_rfl) rfl (TWHs.cons ?_ TWHs.nil)
          refine h_op #[true, true, true, true, true, true, true, true, true, true, true, true, true, true, true, true, true] rfl rfl ?_
          refine o_store trivial rfl rfl rfl Tryz.sizeOf93 rfl (by first | rfl | (repeat' (first | exact rfl | exact one_nil | refine one_cons ?_ ?_ | exact (Ws.cells1 (by assumption)).2 | exact (Slc.cells1 (by assumption)).2))) (by repeat constructor) (by repeat constructor) ?_
          refine o_nil ?_
          refine h_next (fun _ h => (h.sort (by repeat constructor)).fewer (((hx3.le).trans hx4.le).trans hx5.le)) ?_
          refine h_end (by kernel_rfl) ?_
          exact meet (b7, u5, I5) (sub_cons rfl (sub_cons rfl (sub_cons rfl (sub_cons rfl sub_nil)))) (fun _ h => h.sort (by repeat constructor)) ⟨hs5, hd1.le (hx3.le.trans (hx4.le.trans hx5.le)), hd2.le (hx3.le.trans (hx4.le.trans hx5.le)), hx2.trans (hx3.trans (hx4.trans hx5 (Nat.le_refl _)) (Nat.le_refl _)) (Nat.le_refl _)⟩
        ·
         refine h_op #[true, true, true, true, true, true, true, true, true, true, true, true, false, false, false, true, false] rfl rfl ?_
         refine o_alloc trivial rfl Tryz.zeroValue93 rfl (fun b7 => ?_)
         refine o_nil ?_
         refine h_next (fun _ h => (h.sort (by repeat constructor)).fewer (hx3.le)) ?_
         refine h_go [12] (by kernel_rfl) rfl (TWHs.cons ?_ TWHs.nil)
         refine h_op #[true, true, true, true, true, true, true, true, true, true, true, true, true, false, false, true, false] rfl rfl ?_
         refine o_callQ trivial rfl Tryz.call107 rfl (below_any p _ _ (hn1.le hx3.le) (hd1.le hx3.le)) ?_
         refine o_nil ?_
         refine h_next (fun _ h => (h.sort (by repeat constructor)).fewer (hx3.le)) ?_
         refine h_go [13] (by kernel_rfl) rfl (TWHs.cons ?_ TWHs.nil)
         refine h_op #[true, true, true, true, true, true, true, true, true, true, true, true, true, true, false, true, false] rfl rfl ?_
         refine o_callI trivial rfl Tryz.call105 rfl (wMul_any _ _ q.num (p.den : Int) (hn2.le hx3.le) (hd1.le hx3.le) (by omega) (by rw [Int.natAbs_natCast]; omega)) ?_
         rintro _ I4 hx4 ⟨u4, rfl, hs4⟩
         refine o_nil ?_
         refine h_next (fun _ h => (h.sort (by repeat constructor)).fewer ((hx3.le).trans hx4.le)) ?_
         refine h_go [14] (by kernel_rfl) rfl (TWHs.cons ?_ TWHs.nil)
         refine h_op #[true, true, true, true, true, true, true, true, true, true, true, true, true, true, true, true, false] rfl rfl ?_
         refine o_callI trivial rfl Tryz.call104 rfl (wAdd_any _ _ (p.num * (q.den : Int)) (q.num * (p.den : Int)) (hs3.le hx4.le) hs4 (by rw [Int.natAbs_mul]; exact Nat.le_trans (natW_mul_len _ _) (by rw [Int.natAbs_natCast]; omega)) (by rw [Int.natAbs_mul]; exact Nat.le_trans (natW_mul_len _ _) (by rw [Int.natAbs_natCast]; omega))) ?_
         rintro _ I5 hx5 ⟨u5, rfl, hs5⟩
         refine o_nil ?_
         refine h_next (fun _ h => (h.sort (by repeat constructor)).fewer (((hx3.le).trans hx4.le).trans hx5.le)) ?_
         refine h_go [16] (by kernel_rfl) rfl (TWHs.cons ?_ TWHs.nil)
         refine h_op #[true, true, true, true, true, true, true, true, true, true, true, true, true, true, true, true, true] rfl rfl ?_
         refine o_store trivial rfl rfl rfl Tryz.sizeOf93 rfl (by first | rfl | (repeat' (first | exact rfl | exact one_nil | refine one_cons ?_ ?_ | exact (Ws.cells1 (by assumption)).2 | exact (Slc.cells1 (by assumption)).2))) (by repeat constructor) (by repeat constructor) ?_
         refine o_nil ?_
         refine h_next (fun _ h => (h.sort (by repeat constructor)).fewer (((hx3.le).trans hx4.le).trans hx5.le)) ?_
         refine h_end (by kernel_rfl) ?_
         exact meet (b7, u5, I5) (sub_cons rfl (sub_cons rfl (sub_cons rfl (sub_cons rfl sub_nil)))) (fun _ h => h.sort (by repeat constructor)) ⟨hs5, hd1.le (hx3.le.trans (hx4.le.trans hx5.le)), hd2.le (hx3.le.trans (hx4.le.trans hx5.le)), hx2.trans (hx3.trans (hx4.trans hx5 (Nat.le_refl _)) (Nat.le_refl _)) (Nat.le_refl _)⟩
       ·
        refine h_op #[true, true, true, true, true, true, true, true, true, false, true, true, false, false, false, true, false] rfl rfl ?_
        refine o_alloc trivial rfl Tryz.zeroValue93 rfl (fun b7 => ?_)
        refine o_nil ?_
        refine h_next (fun _ h => (h.sort (by repeat constructor)).fewer (hx3.le)) ?_
        refine h_go [9] (by kernel_rfl) rfl (TWHs.cons ?_ TWHs.nil)
        refine h_op #[true, true, true, true, true, true, true, true, true, true, true, true, false, false, false, true, false] rfl rfl ?_
        refine o_callQ trivial rfl Tryz.call106 rfl (above_any q _ _ (hn2.le hx3.le) (hd2.le hx3.le)) ?_
        refine o_nil ?_
        refine h_next (fun _ h => (h.sort (by repeat constructor)).fewer (hx3.le)) ?_
        refine h_go [12] (by kernel_rfl) rfl (TWHs.cons ?_ TWHs.nil)
        refine h_op #[true, true, true, true, true, true, true, true, true, true, true, true, true, false, false, true, false] rfl rfl ?_
        refine o_callQ trivial rfl Tryz.call107 rfl (below_any p _ _ (hn1.le hx3.le) (hd1.le hx3.le)) ?_
        refine o_nil ?_
        refine h_next (fun _ h => (h.sort (by repeat constructor)).fewer (hx3.le)) ?_
        refine h_go [13] (by kernel_rfl) rfl (TWHs.cons ?_ TWHs.nil)
        refine h_op #[true, true, true, true, true, true, true, true, true, true, true, true, true, true, false, true, false] rfl rfl ?_
        refine o_callI trivial rfl Tryz.call105 rfl (wMul_any _ _ q.num (p.den : Int) (hn2.le hx3.le) (hd1.le hx3.le) (by omega) (by rw [Int.natAbs_natCast]; omega)) ?_
        rintro _ I4 hx4 ⟨u4, rfl, hs4⟩
        refine o_nil ?_
        refine h_next (fun _ h => (h.sort (by repeat constructor)).fewer ((hx3.le).trans hx4.le)) ?_
        refine h_go [14] (by kernel_rfl) rfl (TWHs.cons ?_ TWHs.nil)
        refine h_op #[true, true, true, true, true, true, true, true, true, true, true, true, true, true, true, true, false] rfl rfl ?_
        refine o_callI trivial rfl Tryz.call104 rfl (wAdd_any _ _ (p.num * (q.den : Int)) (q.num * (p.den : Int)) (hs3.le hx4.le) hs4 (by rw [Int.natAbs_mul]; exact Nat.le_trans (natW_mul_len _ _) (by rw [Int.natAbs_natCast]; omega)) (by rw [Int.natAbs_mul]; exact Nat.le_trans (natW_mul_len _ _) (by rw [Int.natAbs_natCast]; omega))) ?_
        rintro _ I5 hx5 ⟨u5, rfl, hs5⟩
        refine o_nil ?_
        refine h_next (fun _ h => (h.sort (by repeat constructor)).fewer (((hx3.le).trans hx4.le).trans hx5.le)) ?_
        refine h_go [16] (by kernel_rfl) rfl (TWHs.cons ?_ TWHs.nil)
        refine h_op #[true, true, true, true, true, true, true, true, true, true, true, true, true, true, true, true, true] rfl rfl ?_
        refine o_store trivial rfl rfl rfl Tryz.sizeOf93 rfl (by first | rfl | (repeat' (first | exact rfl | exact one_nil | refine one_cons ?_ ?_ | exact (Ws.cells1 (by assumption)).2 | exact (Slc.cells1 (by assumption)).2))) (by repeat constructor) (by repeat constructor) ?_
        refine o_nil ?_
        refine h_next (fun _ h => (h.sort (by repeat constructor)).fewer (((hx3.le).trans hx4.le).trans hx5.le)) ?_
        refine h_end (by kernel_rfl) ?_
        exact meet (b7, u5, I5) (sub_cons rfl (sub_cons rfl (sub_cons rfl (sub_cons rfl sub_nil)))) (fun _ h => h.sort (by repeat constructor)) ⟨hs5, hd1.le (hx3.le.trans (hx4.le.trans hx5.le)), hd2.le (hx3.le.trans (hx4.le.trans hx5.le)), hx2.trans (hx3.trans (hx4.trans hx5 (Nat.le_refl _)) (Nat.le_refl _)) (Nat.le_refl _)⟩
      ·
       refine h_op #[true, true, true, true, true, true, false, true, true, false, true, true, false, false, false, true, false] rfl rfl ?_
       refine o_alloc trivial rfl Tryz.zeroValue93 rfl (fun b7 => ?_)
       refine o_nil ?_
       refine h_next (fun _ h => (h.sort (by repeat constructor)).fewer (Hp.Le.refl _)) ?_
       refine h_go [6] (by kernel_rfl) rfl (TWHs.cons ?_ TWHs.nil)
       refine h_op #[true, true, true, true, true, true, true, true, true, false, true, true, false, false, false, true, false] rfl rfl ?_
       refine o_callI trivial rfl Tryz.call105 rfl (wMul_any _ _ p.num (q.den : Int) hn1 hd2 (by omega) (by rw [Int.natAbs_natCast]; omega)) ?_
       rintro _ I3 hx3 ⟨u3, rfl, hs3⟩
       refine o_nil ?_
       refine h_next (fun _ h => (h.sort (by repeat constructor)).fewer (hx3.le)) ?_
       refine h_go [9] (by kernel_rfl) rfl (TWHs.cons ?_ TWHs.nil)
       refine h_op #[true, true, true, true, true, true, true, true, true, true, true, true, false, false, false, true, false] rfl rfl ?_
       refine o_callQ trivial rfl Tryz.call106 rfl (above_any q _ _ (hn2.le hx3.le) (hd2.le hx3.le)) ?_
       refine o_nil ?_
       refine h_next (fun _ h => (h.sort (by repeat constructor)).fewer (hx3.le)) ?_
       refine h_go [12] (by kernel_rfl) rfl (TWHs.cons ?_ TWHs.nil)
       refine h_op #[true, true, true, true, true, true, true, true, true, true, true, true, true, false, false, true, false] rfl rfl ?_
       refine o_callQ trivial rfl Tryz.call107 rfl (below_any p _ _ (hn1.le hx3.le) (hd1.le hx3.le)) ?_
       refine o_nil ?_
       refine h_next (fun _ h => (h.sort (by repeat constructor)).fewer (hx3.le)) ?_
       refine h_go [13] (by kernel_rfl) rfl (TWHs.cons ?_ TWHs.nil)
       refine h_op #[true, true, true, true, true, true, true, true, true, true, true, true, true, true, false, true, false] rfl rfl ?_
       refine o_callI trivial rfl Tryz.call105 rfl (wMul_any _ _ q.num (p.den : Int) (hn2.le hx3.le) (hd1.le hx3.le) (by omega) (by rw [Int.natAbs_natCast]; omega)) ?_
       rintro _ I4 hx4 ⟨u4, rfl, hs4⟩
       refine o_nil ?_
       refine h_next (fun _ h => (h.sort (by repeat constructor)).fewer ((hx3.le).trans hx4.le)) ?_
       refine h_go [14] (by kernel_rfl) rfl (TWHs.cons ?_ TWHs.nil)
       refine h_op #[true, true, true, true, true, true, true, true, true, true, true, true, true, true, true, true, false] rfl rfl ?_
       refine o_callI trivial rfl Tryz.call104 rfl (wAdd_any _ _ (p.num * (q.den : Int)) (q.num * (p.den : Int)) (hs3.le hx4.le) hs4 (by rw [Int.natAbs_mul]; exact Nat.le_trans (natW_mul_len _ _) (by rw [Int.natAbs_natCast]; omega)) (by rw [Int.natAbs_mul]; exact Nat.le_trans (natW_mul_len _ _) (by rw [Int.natAbs_natCast]; omega))) ?_
       rintro _ I5 hx5 ⟨u5, rfl, hs5⟩
       refine o_nil ?_
       refine h_next (fun _ h => (h.sort (by repeat constructor)).fewer (((hx3.le).trans hx4.le).trans hx5.le)) ?_
       refine h_go [16] (by kernel_rfl) rfl (TWHs.cons ?_ TWHs.nil)
       refine h_op #[true, true, true, true, true, true, true, true, true, true, true, true, true, true, true, true, true] rfl rfl ?_
       refine o_store trivial rfl rfl rfl Tryz.sizeOf93 rfl (by first | rfl | (repeat' (first | exact rfl | exact one_nil | refine one_cons ?_ ?_ | exact (Ws.cells1 (by assumption)).2 | exact (Slc.cells1 (by assumption)).2))) (by repeat constructor) (by repeat constructor) ?_
       refine o_nil ?_
       refine h_next (fun _ h => (h.sort (by repeat constructor)).fewer (((hx3.le).trans hx4.le).trans hx5.le)) ?_
       refine h_end (by kernel_rfl) ?_
       exact meet (b7, u5, I5) (sub_cons rfl (sub_cons rfl (sub_cons rfl (sub_cons rfl sub_nil)))) (fun _ h => h.sort (by repeat constructor)) ⟨hs5, hd1.le (hx3.le.trans (hx4.le.trans hx5.le)), hd2.le (hx3.le.trans (hx4.le.trans hx5.le)), hx2.trans (hx3.trans (hx4.trans hx5 (Nat.le_refl _)) (Nat.le_refl _)) (Nat.le_refl _)⟩
     ·
      refine h_op #[true, true, true, true, true, false, false, true, true, false, true, true, false, false, false, true, false] rfl rfl ?_
      refine o_alloc trivial rfl Tryz.zeroValue93 rfl (fun b7 => ?_)
      refine o_nil ?_
      refine h_next (fun _ h => (h.sort (by repeat constructor)).fewer (Hp.Le.refl _)) ?_
      refine h_go [5] (by kernel_rfl) rfl (TWHs.cons ?_ TWHs.nil)
      refine h_op #[true, true, true, true, true, true, false, true, true, false, true, true, false, false, false, true, false] rfl rfl ?_
      refine o_callQ trivial rfl Tryz.call107 rfl (below_any q _ _ hn2 hd2) ?_
      refine o_nil ?_
      refine h_next (fun _ h => (h.sort (by repeat constructor)).fewer (Hp.Le.refl _)) ?_
      refine h_go [6] (by kernel_rfl) rfl (TWHs.cons ?_ TWHs.nil)
      refine h_op #[true, true, true, true, true, true, true, true, true, false, true, true, false, false, false, true, false] rfl rfl ?_
      refine o_callI trivial rfl Tryz.call105 rfl (wMul_any _ _ p.num (q.den : Int) hn1 hd2 (by omega) (by rw [Int.natAbs_natCast]; omega)) ?_
      rintro _ I3 hx3 ⟨u3, rfl, hs3⟩
      refine o_nil ?_
      refine h_next (fun _ h => (h.sort (by repeat constructor)).fewer (hx3.le)) ?_
      refine h_go [9] (by kernel_rfl) rfl (TWHs.cons ?_ TWHs.nil)
      refine h_op #[true, true, true, true, true, true, true, true, true, true, true, true, false, false, false, true, false] rfl rfl ?_
      refine o_callQ trivial rfl Tryz.call106 rfl (above_any q _ _ (hn2.le hx3.le) (hd2.le hx3.le)) ?_
      refine o_nil ?_
      refine h_next (fun _ h => (h.sort (by repeat constructor)).fewer (hx3.le)) ?_
      refine h_go [12] (by kernel_rfl) rfl (TWHs.cons ?_ TWHs.nil)
      refine h_op #[true, true, true, true, true, true, true, true, true, true, true, true, true, false, false, true, false] rfl rfl ?_
      refine o_callQ trivial rfl Tryz.call107 rfl (below_any p _ _ (hn1.le hx3.le) (hd1.le hx3.le)) ?_
      refine o_nil ?_
      refine h_next (fun _ h => (h.sort (by repeat constructor)).fewer (hx3.le)) ?_
      refine h_go [13] (by kernel_rfl) rfl (TWHs.cons ?_ TWHs.nil)
      refine h_op #[true, true, true, true, true, true, true, true, true, true, true, true, true, true, false, true, false] rfl rfl ?_
      refine o_callI trivial rfl Tryz.call105 rfl (wMul_any _ _ q.num (p.den : Int) (hn2.le hx3.le) (hd1.le hx3.le) (by omega) (by rw [Int.natAbs_natCast]; omega)) ?_
      rintro _ I4 hx4 ⟨u4, rfl, hs4⟩
      refine o_nil ?_
      refine h_next (fun _ h => (h.sort (by repeat constructor)).fewer ((hx3.le).trans hx4.le)) ?_
      refine h_go [14] (by kernel_rfl) rfl (TWHs.cons ?_ TWHs.nil)
      refine h_op #[true, true, true, true, true, true, true, true, true, true, true, true, true, true, true, true, false] rfl rfl ?_
      refine o_callI trivial rfl Tryz.call104 rfl (wAdd_any _ _ (p.num * (q.den : Int)) (q.num * (p.den : Int)) (hs3.le hx4.le) hs4 (by rw [Int.natAbs_mul]; exact Nat.le_trans (natW_mul_len _ _) (by rw [Int.natAbs_natCast]; omega)) (by rw [Int.natAbs_mul]; exact Nat.le_trans (natW_mul_len _ _) (by rw [Int.natAbs_natCast]; omega))) ?_
      rintro _ I5 hx5 ⟨u5, rfl, hs5⟩
      refine o_nil ?_
      refine h_next (fun _ h => (h.sort (by repeat constructor)).fewer (((hx3.le).trans hx4.le).trans hx5.le)) ?_
      refine h_go [16] (by kernel_rfl) rfl (TWHs.cons ?_ TWHs.nil)
      refine h_op #[true, true, true, true, true, true, true, true, true, true, true, true, true, true, true, true, true] rfl rfl ?_
      refine o_store trivial rfl rfl rfl Tryz.sizeOf93 rfl (by first | rfl | (repeat' (first | exact rfl | exact one_nil | refine one_cons ?_ ?_ | exact (Ws.cells1 (by assumption)).2 | exact (Slc.cells1 (by assumption)).2))) (by repeat constructor) (by repeat constructor) ?_
      refine o_nil ?_
      refine h_next (fun _ h => (h.sort (by repeat constructor)).fewer (((hx3.le).trans hx4.le).trans hx5.le)) ?_
      refine h_end (by kernel_rfl) ?_
      exact meet (b7, u5, I5) (sub_cons rfl (sub_cons rfl (sub_cons rfl (sub_cons rfl sub_nil)))) (fun _ h => h.sort (by repeat constructor)) ⟨hs5, hd1.le (hx3.le.trans (hx4.le.trans hx5.le)), hd2.le (hx3.le.trans (hx4.le.trans hx5.le)), hx2.trans (hx3.trans (hx4.trans hx5 (Nat.le_refl _)) (Nat.le_refl _)) (Nat.le_refl _)⟩
    ·
     refine h_op #[true, true, false, true, true, false, false, true, true, false, true, true, false, false, false, true, false] rfl rfl ?_
     refine o_alloc trivial rfl Tryz.zeroValue93 rfl (fun b7 => ?_)
     refine o_nil ?_
     refine h_next (fun _ h => (h.sort (by repeat constructor)).fewer (Hp.Le.refl _)) ?_
     refine h_go [2] (by kernel_rfl) rfl (TWHs.cons ?_ TWHs.nil)
     refine h_op #[true, true, true, true, true, false, false, true, true, false, true, true, false, false, false, true, false] rfl rfl ?_
     refine o_callQ trivial rfl Tryz.call106 rfl (above_any p _ _ hn1 hd1) ?_
     refine o_nil ?_
     refine h_next (fun _ h => (h.sort (by repeat constructor)).fewer (Hp.Le.refl _)) ?_
     refine h_go [5] (by kernel_rfl) rfl (TWHs.cons ?_ TWHs.nil)
     refine h_op #[true, true, true, true, true, true, false, true, true, false, true, true, false, false, false, true, false] rfl rfl ?_
     refine o_callQ trivial rfl Tryz.call107 rfl (below_any q _ _ hn2 hd2) ?_
     refine o_nil ?_
     refine h_next (fun _ h => (h.sort (by repeat constructor)).fewer (Hp.Le.refl _)) ?_
     refine h_go [6] (by kernel_rfl) rfl (TWHs.cons ?_ TWHs.nil)
     refine h_op #[true, true, true, true, true, true, true, true, true, false, true, true, false, false, false, true, false] rfl rfl ?_
     refine o_callI trivial rfl Tryz.call105 rfl (wMul_any _ _ p.num (q.den : Int) hn1 hd2 (by omega) (by rw [Int.natAbs_natCast]; omega)) ?_
     rintro _ I3 hx3 ⟨u3, rfl, hs3⟩
     refine o_nil ?_
     refine h_next (fun _ h => (h.sort (by repeat constructor)).fewer (hx3.le)) ?_
     refine h_go [9] (by kernel_rfl) rfl (TWHs.cons ?_ TWHs.nil)
     refine h_op #[true, true, true, true, true, true, true, true, true, true, true, true, false, false, false, true, false] rfl rfl ?_
     refine o_callQ trivial rfl Tryz.call106 rfl (above_any q _ _ (hn2.le hx3.le) (hd2.le hx3.le)) ?_
     refine o_nil ?_
     refine h_next (fun _ h => (h.sort (by repeat constructor)).fewer (hx3.le)) ?_
     refine h_go [12] (by kernel_rfl) rfl (TWHs.cons ?_ TWHs.nil)
     refine h_op #[true, true, true, true, true, true, true, true, true, true, true, true, true, false, false, true, false] rfl rfl ?_
     refine o_callQ trivial rfl Tryz.call107 rfl (below_any p _ _ (hn1.le hx3.le) (hd1.le hx3.le)) ?_
     refine o_nil ?_
     refine h_next (fun _ h => (h.sort (by repeat constructor)).fewer (hx3.le)) ?_
     refine h_go [13] (by kernel_rfl) rfl (TWHs.cons ?_ TWHs.nil)
     refine h_op #[true, true, true, true, true, true, true, true, true, true, true, true, true, true, false, true, false] rfl rfl ?_
     refine o_callI trivial rfl Tryz.call105 rfl (wMul_any _ _ q.num (p.den : Int) (hn2.le hx3.le) (hd1.le hx3.le) (by omega) (by rw [Int.natAbs_natCast]; omega)) ?_
     rintro _ I4 hx4 ⟨u4, rfl, hs4⟩
     refine o_nil ?_
     refine h_next (fun _ h => (h.sort (by repeat constructor)).fewer ((hx3.le).trans hx4.le)) ?_
     refine h_go [14] (by kernel_rfl) rfl (TWHs.cons ?_ TWHs.nil)
     refine h_op #[true, true, true, true, true, true, true, true, true, true, true, true, true, true, true, true, false] rfl rfl ?_
     refine o_callI trivial rfl Tryz.call104 rfl (wAdd_any _ _ (p.num * (q.den : Int)) (q.num * (p.den : Int)) (hs3.le hx4.le) hs4 (by rw [Int.natAbs_mul]; exact Nat.le_trans (natW_mul_len _ _) (by rw [Int.natAbs_natCast]; omega)) (by rw [Int.natAbs_mul]; exact Nat.le_trans (natW_mul_len _ _) (by rw [Int.natAbs_natCast]; omega))) ?_
     rintro _ I5 hx5 ⟨u5, rfl, hs5⟩
     refine o_nil ?_
     refine h_next (fun _ h => (h.sort (by repeat constructor)).fewer (((hx3.le).trans hx4.le).trans hx5.le)) ?_
     refine h_go [16] (by kernel_rfl) rfl (TWHs.cons ?_ TWHs.nil)
     refine h_op #[true, true, true, true, true, true, true, true, true, true, true, true, true, true, true, true, true] rfl rfl ?_
     refine o_store trivial rfl rfl rfl Tryz.sizeOf93 rfl (by first | rfl | (repeat' (first | exact rfl | exact one_nil | refine one_cons ?_ ?_ | exact (Ws.cells1 (by assumption)).2 | exact (Slc.cells1 (by assumption)).2))) (by repeat constructor) (by repeat constructor) ?_
     refine o_nil ?_
     refine h_next (fun _ h => (h.sort (by repeat constructor)).fewer (((hx3.le).trans hx4.le).trans hx5.le)) ?_
     refine h_end (by kernel_rfl) ?_
     exact meet (b7, u5, I5) (sub_cons rfl (sub_cons rfl (sub_cons rfl (sub_cons rfl sub_nil)))) (fun _ h => h.sort (by repeat constructor)) ⟨hs5, hd1.le (hx3.le.trans (hx4.le.trans hx5.le)), hd2.le (hx3.le.trans (hx4.le.trans hx5.le)), hx2.trans (hx3.trans (hx4.trans hx5 (Nat.le_refl _)) (Nat.le_refl _)) (Nat.le_refl _)⟩
   ·
    rintro ⟨b7, n7, I6⟩ ⟨hn7, hd61, hd62, hx6⟩
    try dsimp only
    refine c_seq ?_
    refine h_beginB (m := 15) [.box b7 _, .box b5 _, .box b6 _] (by repeat constructor) (by kernel_rfl) rfl ?_
    refine' h_take (i := 0) #[true, false, false, false, false, false, false, false, false, false, false, false, false, false, false] rfl rfl rfl (by kernel_rfl) (by kernel_rfl) (by kernel_rfl) rfl (qp_then qp_bp) (fun _ h => (h.sort (by repeat constructor)).fewer (Hp.Le.refl _)) ?hh10 ?kk10
    case hh10 =>
     refine o_fieldAddr (T := 4) (off := 0) trivial rfl Tryz.underlying93 rfl rfl rfl Tryz.sizeOf4 rfl rfl ?_
     refine o_nil ?_
     exact ⟨fun _ _ ha _ => ha⟩
    refine' h_take (i := 1) #[true, true, false, false, false, false, false, false, false, false, false, false, false, false, false] rfl rfl rfl (by kernel_rfl) (by kernel_rfl) (by kernel_rfl) rfl (qp_then qp_bp) (fun _ h => (h.sort (by repeat constructor)).fewer (Hp.Le.refl _)) ?hh11 ?kk11
    case hh11 =>
     refine o_load1 trivial rfl Tryz.isAgg4 rfl (by repeat constructor) (by repeat constructor) ?_
     refine o_nil ?_
     exact ⟨fun _ _ ha _ => ha⟩
    refine' h_take (i := 2) #[true, true, true, false, false, false, false, false, false, false, false, false, false, false, false] rfl rfl rfl (by kernel_rfl) (by kernel_rfl) (by kernel_rfl) rfl (qp_then qp_bp) (fun _ h => (h.sort (by repeat constructor)).fewer (Hp.Le.refl _)) ?hh12 ?kk12
    case hh12 =>
     refine o_fieldAddr (T := 31) (off := 1) trivial rfl Tryz.underlying93 rfl rfl rfl Tryz.sizeOf31 rfl rfl ?_
     refine o_nil ?_
     exact ⟨fun _ _ ha _ => ha⟩
    refine' h_take (i := 3) #[true, true, true, true, false, false, false, false, false, false, false, false, false, false, false] rfl rfl rfl (by kernel_rfl) (by kernel_rfl) (by kernel_rfl) rfl (qp_then qp_bp) (fun _ h => (h.sort (by repeat constructor)).fewer (Hp.Le.refl _)) ?hh13 ?kk13
    case hh13 =>
     refine o_load1 trivial rfl Tryz.isAgg31 rfl (by repeat constructor) (by repeat constructor) ?_
     refine o_nil ?_
     exact ⟨fun _ _ ha _ => ha⟩
    refine' h_take (i := 4) #[true, true, true, true, true, false, false, false, false, false, false, false, false, false, false] rfl rfl rfl (by kernel_rfl) (by kernel_rfl) (by kernel_rfl) rfl (qp_then qp_bp) (fun _ h => (h.sort (by repeat constructor)).fewer (Hp.Le.refl _)) ?hh14 ?kk14
    case hh14 =>
     refine o_fieldAddr (T := 143) (off := 0) trivial rfl Tryz.underlying145 rfl rfl rfl Tryz.sizeOf143 rfl rfl ?_
     refine o_nil ?_
     exact ⟨fun _ _ ha _ => ha⟩
    refine' h_take (i := 5) #[true, true, true, true, true, true, false, false, false, false, false, false, false, false, false] rfl rfl rfl (by kernel_rfl) (by kernel_rfl) (by kernel_rfl) rfl (qp_then qp_bp) (fun _ h => (h.sort (by repeat constructor)).fewer (Hp.Le.refl _)) ?hh15 ?kk15
    case hh15 =>
     refine o_fieldAddr (T := 33) (off := 0) trivial rfl Tryz.underlying143 rfl rfl rfl Tryz.sizeOf33 rfl rfl ?_
     refine o_nil ?_
     exact ⟨fun _ _ ha _ => ha⟩
    refine' h_take (i := 6) #[true, true, true, true, true, true, true, false, false, false, false, false, false, false, false] rfl rfl rfl (by kernel_rfl) (by kernel_rfl) (by kernel_rfl) rfl (qp_then qp_bp) (fun _ h => (h.sort (by repeat constructor)).fewer (Hp.Le.refl _)) ?hh16 ?kk16
    case hh16 =>
     refine o_fieldAddr (T := 31) (off := 2) trivial rfl Tryz.underlying33 rfl rfl rfl Tryz.sizeOf31 rfl rfl ?_
     refine o_nil ?_
     exact ⟨fun _ _ ha _ => ha⟩
    refine' h_take (i := 7) #[true, true, true, true, true, true, true, true, false, false, false, false, false, false, false] rfl rfl rfl (by kernel_rfl) (by kernel_rfl) (by kernel_rfl) rfl (qp_then qp_bp) (fun _ h => (h.sort (by repeat constructor)).fewer (Hp.Le.refl _)) ?hh17 ?kk17
    case hh17 =>
     refine o_load1 trivial rfl Tryz.isAgg31 rfl (by repeat constructor) (by repeat constructor) ?_
     refine o_nil ?_
     exact ⟨fun _ _ ha _ => ha⟩
    refine' h_take (i := 8) #[true, true, true, true, true, true, true, true, true, false, false, false, false, false, false] rfl rfl rfl (by kernel_rfl) (by kernel_rfl) (by kernel_rfl) rfl (qp_then qp_bp) (fun _ h => (h.sort (by repeat constructor)).fewer (Hp.Le.refl _)) ?hh18 ?kk18
    case hh18 =>
     refine o_fieldAddr (T := 143) (off := 0) trivial rfl Tryz.underlying145 rfl rfl rfl Tryz.sizeOf143 rfl rfl ?_
     refine o_nil ?_
     exact ⟨fun _ _ ha _ => ha⟩
    refine' h_take (i := 9) #[true, true, true, true, true, true, true, true, true, true, false, false, false, false, false] rfl rfl rfl (by kernel_rfl) (by kernel_rfl) (by kernel_rfl) rfl (qp_then qp_bp) (fun _ h => (h.sort (by repeat constructor)).fewer (Hp.Le.refl _)) ?hh19 ?kk19
    case hh19 =>
     refine o_fieldAddr (T := 33) (off := 0) trivial rfl Tryz.underlying143 rfl rfl rfl Tryz.sizeOf33 rfl rfl ?_
     refine o_nil ?_
     exact ⟨fun _ _ ha _ => ha⟩
    refine' h_take (i := 10) #[true, true, true, true, true, true, true, true, true, true, true, false, false, false, false] rfl rfl rfl (by kernel_rfl) (by kernel_rfl) (by kernel_rfl) rfl (qp_then qp_bp) (fun _ h => (h.sort (by repeat constructor)).fewer (Hp.Le.refl _)) ?hh20 ?kk20
    case hh20 =>
     refine o_fieldAddr (T := 31) (off := 2) trivial rfl Tryz.underlying33 rfl rfl rfl Tryz.sizeOf31 rfl rfl ?_
     refine o_nil ?_
     exact ⟨fun _ _ ha _ => ha⟩
    refine' h_take (i := 11) #[true, true, true, true, true, true, true, true, true, true, true, true, false, false, false] rfl rfl rfl (by kernel_rfl) (by kernel_rfl) (by kernel_rfl) rfl (qp_then qp_bp) (fun _ h => (h.sort (by repeat constructor)).fewer (Hp.Le.refl _)) ?hh21 ?kk21
    case hh21 =>
     refine o_load1 trivial rfl Tryz.isAgg31 rfl (by repeat constructor) (by repeat constructor) ?_
     refine o_nil ?_
     exact ⟨fun _ _ ha _ => ha⟩
    refine h_go [12] (by kernel_rfl) rfl (TWHs.cons ?_ TWHs.nil)
    refine h_op #[true, true, true, true, true, true, true, true, true, true, true, true, true, false, false] rfl rfl ?_
    refine o_callI trivial rfl Tryz.call108 rfl (mul_any _ _ _ _ hd61 hd62 (by omega) (by omega)) ?_
    rintro u8 I8 hx8 hs8
    refine o_nil ?_
    refine h_next (fun _ h => (h.sort (by repeat constructor)).fewer (hx8.le)) ?_
    refine h_go [13] (by kernel_rfl) rfl (TWHs.cons ?_ TWHs.nil)
    refine h_op #[true, true, true, true, true, true, true, true, true, true, true, true, true, true, false] rfl rfl ?_
    refine o_callI trivial rfl Tryz.call50 rfl (qlowest_any (decide (p.num * (q.den : Int) + q.num * (p.den : Int) < 0)) _ _ _ _ (hn7.le hx8.le) hs8 (sum_len hl1 hl4 hl3 hl2) (by rw [val_natW, val_natW]; exact Nat.le_trans (natW_mul_len _ _) (by omega))) ?_
    rintro _ I9 hx9 ⟨u9, u10, rfl, h1, h2⟩
    refine o_nil ?_
    refine h_next (fun _ h => (h.sort (by repeat constructor)).fewer ((hx8.le).trans hx9.le)) ?_
    refine h_go [14] (by kernel_rfl) rfl (TWHs.cons ?_ TWHs.nil)
    refine h_op #[true, true, true, true, true, true, true, true, true, true, true, true, true, true, true] rfl rfl ?_
    refine o_store trivial rfl rfl rfl Tryz.sizeOf33 rfl (by first | rfl | (repeat' (first | exact rfl | exact one_nil | refine one_cons ?_ ?_ | exact (Ws.cells1 (by assumption)).2 | exact (Slc.cells1 (by assumption)).2))) (by repeat constructor) (by repeat constructor) ?_
    refine o_nil ?_
    refine h_next (fun _ h => (h.sort (by repeat constructor)).fewer ((hx8.le).trans hx9.le)) ?_
    refine h_end (by kernel_rfl) ?_
    refine then_c (c_ret ?_)
    refine retR rfl (.agg Tryz.isAgg33 Tryz.sizeOf33 rfl (by repeat constructor) rfl .nil) ?_
    rw [val_natW, val_natW, val_natW, val_natW, qadd_num] at h1 h2
    refine leaf (hx6.trans (hx8.trans hx9 (Nat.le_refl _)) (Nat.le_refl _)) (List.nil_sublist _) ⟨u9, u10, ?_, h1, h2⟩
    rw [val_natW, val_natW, val_natW, val_natW, qadd_num]; rfl
/-- A number, or an error. -/
def okR (e : Prop) [Decidable e] (q : Rat) (I : Hp) (v : Value) : Prop := ∃ s x y X Y, v = .tuple #[.agg #[.bool s, x, y], .int .i64 (if e then 3 else 0)] ∧ Ws I x X ∧ Ws I y Y ∧ (¬ e → s = decide (q.num < 0) ∧ X = natW q.num.natAbs ∧ Y = natW q.den)
theorem okR.ratV {e : Prop} [Decidable e] {q : Rat} {I : Hp} {v : Value} (h : okR e q I v) (he : ¬ e) : ∃ u, v = .tuple #[u, .int .i64 0] ∧ RatV I u q := by
  obtain ⟨s, x, y, X, Y, h1, h2, h3, h4⟩ := h
  obtain ⟨rfl, rfl, rfl⟩ := h4 he
  rw [if_neg he] at h1
  exact ⟨_, h1, x, y, rfl, h2, h3⟩
theorem qMake_any (n d : Int) (va vb : Value) {I : Hp} (ha : Ws I va (natW n.natAbs)) (hb : Ws I vb (natW d.natAbs)) (hs : (natW n.natAbs).length ≤ 400000) (hs2 : (natW d.natAbs).length ≤ 400000) : Fun Tryz.prog 109 [.agg #[.bool (decide (n < 0)), va], .agg #[.bool (decide (d < 0)), vb]] I [] (fun v I' _ => okR (d = 0) (lowQ (decide (n < 0) != decide (d < 0)) n.natAbs d.natAbs) I' v) := by
  intro w hw
  refine enter2 _ Tryz.func109 rfl Tryz.ntmps109 rfl ?_ hw
  refine c_seq (c_region ?_)
  refine o_box trivial rfl rfl rfl (fun b2 => ?_)
  refine o_box trivial rfl rfl rfl (fun b3 => ?_)
  refine o_alloc trivial rfl Tryz.zeroValue33 rfl (fun b4 => ?_)
  refine o_pv trivial rfl rfl ?_
  refine o_nil (then_c (c_seq (c_seq (c_region ?_))))
  refine o_fieldAddr (T := 31) (off := 1) trivial rfl Tryz.underlying93 rfl rfl rfl Tryz.sizeOf31 rfl rfl ?_
  refine o_load1 trivial rfl Tryz.isAgg31 rfl (by repeat constructor) (by repeat constructor) ?_
  refine o_callQ trivial rfl Tryz.call96 rfl (natBits_any _ _ hb (by omega)) ?_
  refine o_pv trivial rfl rfl ?_
  refine o_nil (then_c ?_)
  refine c_cond rfl (fun h1 => ?_) (fun h1 => ?_)
  ·
   have f1 := h1
   try simp only [bl] at f1
   have h0 : d = 0 := by rw [val_natW] at f1; have := bitZ_zero.1 (show bitZ d.natAbs = 0 by omega); omega
   refine c_seq (c_region ?_)
   refine o_buildS trivial rfl (bld33) rfl .nil ?_
   refine o_store trivial rfl rfl rfl Tryz.sizeOf33 rfl (by first | rfl | (repeat' (first | exact rfl | exact one_nil | refine one_cons ?_ ?_ | exact (Ws.cells1 (by assumption)).2 | exact (Slc.cells1 (by assumption)).2))) (by repeat constructor) (by repeat constructor) ?_
   refine o_pv trivial rfl rfl ?_
   refine o_nil (then_c (c_ret (then_r ?_)))
   refine retR rfl (.agg Tryz.isAgg33 Tryz.sizeOf33 rfl (by repeat constructor) rfl (.tmp rfl .nil)) ?_
   refine leaf0 ⟨false, .slice none 0 0, .slice none 0 0, [], [], ?_, Ws.nil _, Ws.nil _, fun h => absurd h0 h⟩; rw [if_pos h0]; rfl
  ·
   have f1 := h1
   try simp only [bl] at f1
   have h0 : d ≠ 0 := fun e => by rw [val_natW, e] at f1; exact f1 rfl
   refine c_skip (then_c (c_seq (c_region ?_)))
   refine o_fieldAddr (T := 4) (off := 0) trivial rfl Tryz.underlying93 rfl rfl rfl Tryz.sizeOf4 rfl rfl ?_
   refine o_load1 trivial rfl Tryz.isAgg4 rfl (by repeat constructor) (by repeat constructor) ?_
   refine o_fieldAddr (T := 4) (off := 0) trivial rfl Tryz.underlying93 rfl rfl rfl Tryz.sizeOf4 rfl rfl ?_
   refine o_load1 trivial rfl Tryz.isAgg4 rfl (by repeat constructor) (by repeat constructor) ?_
   refine o_neqB trivial rfl rfl rfl Tryz.underlying4 ?_
   refine o_fieldAddr (T := 31) (off := 1) trivial rfl Tryz.underlying93 rfl rfl rfl Tryz.sizeOf31 rfl rfl ?_
   refine o_load1 trivial rfl Tryz.isAgg31 rfl (by repeat constructor) (by repeat constructor) ?_
   refine o_fieldAddr (T := 31) (off := 1) trivial rfl Tryz.underlying93 rfl rfl rfl Tryz.sizeOf31 rfl rfl ?_
   refine o_load1 trivial rfl Tryz.isAgg31 rfl (by repeat constructor) (by repeat constructor) ?_
   refine o_callI trivial rfl Tryz.call50 rfl (qlowest_any (decide (n < 0) != decide (d < 0)) _ _ _ _ ha hb hs hs2) ?_
   rintro _ I1 hx1 ⟨u1, u2, rfl, h1, h2⟩
   refine o_store trivial rfl rfl rfl Tryz.sizeOf33 rfl (by first | rfl | (repeat' (first | exact rfl | exact one_nil | refine one_cons ?_ ?_ | exact (Ws.cells1 (by assumption)).2 | exact (Slc.cells1 (by assumption)).2))) (by repeat constructor) (by repeat constructor) ?_
   refine o_pv trivial rfl rfl ?_
   refine o_nil (then_c (c_ret ?_))
   refine retR rfl (.agg Tryz.isAgg33 Tryz.sizeOf33 rfl (by repeat constructor) rfl (.tmp rfl .nil)) ?_
   rw [val_natW, val_natW] at h1 h2
   refine leaf hx1 (List.nil_sublist _) ⟨_, u1, u2, _, _, ?_, h1, h2, fun _ => ⟨rfl, rfl, rfl⟩⟩
   rw [val_natW, val_natW, if_neg h0]; rfl
theorem qNeg_any (q : Rat) (va vb : Value) {I : Hp} (ha : Ws I va (natW q.num.natAbs)) (hb : Ws I vb (natW q.den)) (hk : Few 100000 q) : Fun Tryz.prog 77 [.agg #[.bool (decide (q.num < 0)), va, vb]] I [] (fun v I' _ => RatV I' v (-q)) := by
  intro w hw
  refine enter1 _ Tryz.func77 rfl Tryz.ntmps77 rfl ?_ hw
  refine c_seq (c_region ?_)
  refine o_box trivial rfl rfl rfl (fun b1 => ?_)
  refine o_alloc trivial rfl Tryz.zeroValue33 rfl (fun b2 => ?_)
  refine o_nil (then_c (c_seq (c_region ?_)))
  refine o_fieldAddr (T := 4) (off := 0) trivial rfl Tryz.underlying33 rfl rfl rfl Tryz.sizeOf4 rfl rfl ?_
  refine o_load1 trivial rfl Tryz.isAgg4 rfl (by repeat constructor) (by repeat constructor) ?_
  refine o_pv trivial rfl rfl ?_
  refine o_fieldAddr (T := 31) (off := 1) trivial rfl Tryz.underlying33 rfl rfl rfl Tryz.sizeOf31 rfl rfl ?_
  refine o_load1 trivial rfl Tryz.isAgg31 rfl (by repeat constructor) (by repeat constructor) ?_
  refine o_fieldAddr (T := 31) (off := 2) trivial rfl Tryz.underlying33 rfl rfl rfl Tryz.sizeOf31 rfl rfl ?_
  refine o_load1 trivial rfl Tryz.isAgg31 rfl (by repeat constructor) (by repeat constructor) ?_
  refine o_callI trivial rfl Tryz.call50 rfl (qlowest_any (!decide (q.num < 0)) _ _ _ _ ha hb (natW_few hk.num (by decide)) (natW_few hk.den (by decide))) ?_
  rintro _ I1 hx1 ⟨u1, u2, rfl, h1, h2⟩
  refine o_store trivial rfl rfl rfl Tryz.sizeOf33 rfl (by first | rfl | (repeat' (first | exact rfl | exact one_nil | refine one_cons ?_ ?_ | exact (Ws.cells1 (by assumption)).2 | exact (Slc.cells1 (by assumption)).2))) (by repeat constructor) (by repeat constructor) ?_
  refine o_nil (then_c (c_ret ?_))
  refine retR rfl (.agg Tryz.isAgg33 Tryz.sizeOf33 rfl (by repeat constructor) rfl .nil) ?_
  rw [val_natW, val_natW, lowQ_neg] at h1 h2
  refine leaf hx1 (List.nil_sublist _) ⟨u1, u2, ?_, h1, h2⟩
  rw [val_natW, val_natW, lowQ_neg]; rfl
theorem qSub_any (p q : Rat) (va vb vc vd : Value) {I : Hp} (ha : Ws I va (natW p.num.natAbs)) (hb : Ws I vb (natW p.den)) (hc : Ws I vc (natW q.num.natAbs)) (hd : Ws I vd (natW q.den)) (hp : Few 50000 p) (hq : Few 50000 q) : Fun Tryz.prog 73 [.agg #[.bool (decide (p.num < 0)), va, vb], .agg #[.bool (decide (q.num < 0)), vc, vd]] I [] (fun v I' _ => RatV I' v (p - q)) := by
  intro w hw
  refine enter2 _ Tryz.func73 rfl Tryz.ntmps73 rfl ?_ hw
  refine c_seq (c_region ?_)
  refine o_box trivial rfl rfl rfl (fun b2 => ?_)
  refine o_box trivial rfl rfl rfl (fun b3 => ?_)
  refine o_alloc trivial rfl Tryz.zeroValue33 rfl (fun b4 => ?_)
  refine o_nil (then_c (c_seq ?_))
  refine h_beginB (m := 5) [.box b2 _, .box b3 _] (by repeat constructor) (by kernel_rfl) rfl ?_
  refine' h_take (i := 0) #[true, false, false, false, false] rfl rfl rfl (by kernel_rfl) (by kernel_rfl) (by kernel_rfl) rfl (qp_then qp_bp) (fun _ h => (h.sort (by repeat constructor)).fewer (Hp.Le.refl _)) ?hh0 ?kk0
  case hh0 =>
   refine o_loadA trivial rfl Tryz.isAgg33 Tryz.sizeOf33 rfl (by repeat constructor) (by repeat constructor) ?_
   refine o_nil ?_
   exact ⟨fun _ _ ha _ => ha⟩
  refine' h_take (i := 1) #[true, true, false, false, false] rfl rfl rfl (by kernel_rfl) (by kernel_rfl) (by kernel_rfl) rfl (qp_then qp_bp) (fun _ h => (h.sort (by repeat constructor)).fewer (Hp.Le.refl _)) ?hh1 ?kk1
  case hh1 =>
   refine o_loadA trivial rfl Tryz.isAgg33 Tryz.sizeOf33 rfl (by repeat constructor) (by repeat constructor) ?_
   refine o_nil ?_
   exact ⟨fun _ _ ha _ => ha⟩
  refine h_go [2] (by kernel_rfl) rfl (TWHs.cons ?_ TWHs.nil)
  refine h_op #[true, true, true, false, false] rfl rfl ?_
  refine o_callI trivial rfl Tryz.call77 rfl (qNeg_any q _ _ hc hd (hq.le (by decide))) ?_
  rintro _ I1 hx1 ⟨u1, u2, rfl, h1, h2⟩
  refine o_nil ?_
  refine h_next (fun _ h => (h.sort (by repeat constructor)).fewer (hx1.le)) ?_
  refine h_go [3] (by kernel_rfl) rfl (TWHs.cons ?_ TWHs.nil)
  refine h_op #[true, true, true, true, false] rfl rfl ?_
  refine o_callI trivial rfl Tryz.call72 rfl (qAdd_any p (-q) _ _ _ _ (ha.le hx1.le) (hb.le hx1.le) h1 h2 hp hq.neg) ?_
  rintro _ I2 hx2 ⟨u3, u4, rfl, h3, h4⟩
  refine o_nil ?_
  refine h_next (fun _ h => (h.sort (by repeat constructor)).fewer ((hx1.le).trans hx2.le)) ?_
  refine h_go [4] (by kernel_rfl) rfl (TWHs.cons ?_ TWHs.nil)
  refine h_op #[true, true, true, true, true] rfl rfl ?_
  refine o_store trivial rfl rfl rfl Tryz.sizeOf33 rfl (by first | rfl | (repeat' (first | exact rfl | exact one_nil | refine one_cons ?_ ?_ | exact (Ws.cells1 (by assumption)).2 | exact (Slc.cells1 (by assumption)).2))) (by repeat constructor) (by repeat constructor) ?_
  refine o_nil ?_
  refine h_next (fun _ h => (h.sort (by repeat constructor)).fewer ((hx1.le).trans hx2.le)) ?_
  refine h_end (by kernel_rfl) ?_
  refine then_c (c_ret ?_)
  refine retR rfl (.agg Tryz.isAgg33 Tryz.sizeOf33 rfl (by repeat constructor) rfl .nil) ?_
  rw [← Rat.sub_eq_add_neg] at h3 h4
  refine leaf (hx1.trans hx2 (Nat.le_refl _)) (List.nil_sublist _) ⟨u3, u4, ?_, h3, h4⟩
  rw [← Rat.sub_eq_add_neg]; rfl
theorem qMul_any (p q : Rat) (va vb vc vd : Value) {I : Hp} (ha : Ws I va (natW p.num.natAbs)) (hb : Ws I vb (natW p.den)) (hc : Ws I vc (natW q.num.natAbs)) (hd : Ws I vd (natW q.den)) (hp : Few 50000 p) (hq : Few 50000 q) : Fun Tryz.prog 74 [.agg #[.bool (decide (p.num < 0)), va, vb], .agg #[.bool (decide (q.num < 0)), vc, vd]] I [] (fun v I' _ => RatV I' v (p * q)) := by
  have hl1 := natW_few hp.num (Nat.le_refl _)
  have hl2 := natW_few hp.den (Nat.le_refl _)
  have hl3 := natW_few hq.num (Nat.le_refl _)
  have hl4 := natW_few hq.den (Nat.le_refl _)
  intro w hw
  refine enter2 _ Tryz.func74 rfl Tryz.ntmps74 rfl ?_ hw
  refine c_seq (c_region ?_)
  refine o_box trivial rfl rfl rfl (fun b2 => ?_)
  refine o_box trivial rfl rfl rfl (fun b3 => ?_)
  refine o_alloc trivial rfl Tryz.zeroValue33 rfl (fun b4 => ?_)
  refine o_nil (then_c (c_seq ?_))
  refine h_beginB (m := 17) [.box b2 _, .box b3 _] (by repeat constructor) (by kernel_rfl) rfl ?_
  refine' h_take (i := 0) #[true, false, false, false, false, false, false, false, false, false, false, false, false, false, false, false, false] rfl rfl rfl (by kernel_rfl) (by kernel_rfl) (by kernel_rfl) rfl (qp_then qp_bp) (fun _ h => (h.sort (by repeat constructor)).fewer (Hp.Le.refl _)) ?hh0 ?kk0
  case hh0 =>
   refine o_fieldAddr (T := 4) (off := 0) trivial rfl Tryz.underlying33 rfl rfl rfl Tryz.sizeOf4 rfl rfl ?_
   refine o_nil ?_
   exact ⟨fun _ _ ha _ => ha⟩
  refine' h_take (i := 1) #[true, true, false, false, false, false, false, false, false, false, false, false, false, false, false, false, false] rfl rfl rfl (by kernel_rfl) (by kernel_rfl) (by kernel_rfl) rfl (qp_then qp_bp) (fun _ h => (h.sort (by repeat constructor)).fewer (Hp.Le.refl _)) ?hh1 ?kk1
  case hh1 =>
   refine o_load1 trivial rfl Tryz.isAgg4 rfl (by repeat constructor) (by repeat constructor) ?_
   refine o_nil ?_
   exact ⟨fun _ _ ha _ => ha⟩
  refine' h_take (i := 2) #[true, true, true, false, false, false, false, false, false, false, false, false, false, false, false, false, false] rfl rfl rfl (by kernel_rfl) (by kernel_rfl) (by kernel_rfl) rfl (qp_then qp_bp) (fun _ h => (h.sort (by repeat constructor)).fewer (Hp.Le.refl _)) ?hh2 ?kk2
  case hh2 =>
   refine o_fieldAddr (T := 4) (off := 0) trivial rfl Tryz.underlying33 rfl rfl rfl Tryz.sizeOf4 rfl rfl ?_
   refine o_nil ?_
   exact ⟨fun _ _ ha _ => ha⟩
  refine' h_take (i := 3) #[true, true, true, true, false, false, false, false, false, false, false, false, false, false, false, false, false] rfl rfl rfl (by kernel_rfl) (by kernel_rfl) (by kernel_rfl) rfl (qp_then qp_bp) (fun _ h => (h.sort (by repeat constructor)).fewer (Hp.Le.refl _)) ?hh3 ?kk3
  case hh3 =>
   refine o_load1 trivial rfl Tryz.isAgg4 rfl (by repeat constructor) (by repeat constructor) ?_
   refine o_nil ?_
   exact ⟨fun _ _ ha _ => ha⟩
  refine' h_take (i := 4) #[true, true, true, true, true, false, false, false, false, false, false, false, false, false, false, false, false] rfl rfl rfl (by kernel_rfl) (by kernel_rfl) (by kernel_rfl) rfl (qp_then qp_bp) (fun _ h => (h.sort (by repeat constructor)).fewer (Hp.Le.refl _)) ?hh4 ?kk4
  case hh4 =>
   refine o_neqB trivial rfl rfl rfl Tryz.underlying4 ?_
   refine o_nil ?_
   exact ⟨fun _ _ ha _ => ha⟩
  refine' h_take (i := 5) #[true, true, true, true, true, true, false, false, false, false, false, false, false, false, false, false, false] rfl rfl rfl (by kernel_rfl) (by kernel_rfl) (by kernel_rfl) rfl (qp_then qp_bp) (fun _ h => (h.sort (by repeat constructor)).fewer (Hp.Le.refl _)) ?hh5 ?kk5
  case hh5 =>
   refine o_fieldAddr (T := 31) (off := 1) trivial rfl Tryz.underlying33 rfl rfl rfl Tryz.sizeOf31 rfl rfl ?_
   refine o_nil ?_
   exact ⟨fun _ _ ha _ => ha⟩
  refine' h_take (i := 6) #[true, true, true, true, true, true, true, false, false, false, false, false, false, false, false, false, false] rfl rfl rfl (by kernel_rfl) (by kernel_rfl) (by kernel_rfl) rfl (qp_then qp_bp) (fun _ h => (h.sort (by repeat constructor)).fewer (Hp.Le.refl _)) ?hh6 ?kk6
  case hh6 =>
   refine o_load1 trivial rfl Tryz.isAgg31 rfl (by repeat constructor) (by repeat constructor) ?_
   refine o_nil ?_
   exact ⟨fun _ _ ha _ => ha⟩
  refine' h_take (i := 7) #[true, true, true, true, true, true, true, true, false, false, false, false, false, false, false, false, false] rfl rfl rfl (by kernel_rfl) (by kernel_rfl) (by kernel_rfl) rfl (qp_then qp_bp) (fun _ h => (h.sort (by repeat constructor)).fewer (Hp.Le.refl _)) ?hh7 ?kk7
  case hh7 =>
   refine o_fieldAddr (T := 31) (off := 1) trivial rfl Tryz.underlying33 rfl rfl rfl Tryz.sizeOf31 rfl rfl ?_
   refine o_nil ?_
   exact ⟨fun _ _ ha _ => ha⟩
  refine' h_take (i := 8) #[true, true, true, true, true, true, true, true, true, false, false, false, false, false, false, false, false] rfl rfl rfl (by kernel_rfl) (by kernel_rfl) (by kernel_rfl) rfl (qp_then qp_bp) (fun _ h => (h.sort (by repeat constructor)).fewer (Hp.Le.refl _)) ?hh8 ?kk8
  case hh8 =>
   refine o_load1 trivial rfl Tryz.isAgg31 rfl (by repeat constructor) (by repeat constructor) ?_
   refine o_nil ?_
   exact ⟨fun _ _ ha _ => ha⟩
  refine' h_take (i := 10) #[true, true, true, true, true, true, true, true, true, false, true, false, false, false, false, false, false] rfl rfl rfl (by kernel_rfl) (by kernel_rfl) (by kernel_rfl) rfl (qp_then qp_bp) (fun _ h => (h.sort (by repeat constructor)).fewer (Hp.Le.refl _)) ?hh9 ?kk9
  case hh9 =>
   refine o_fieldAddr (T := 31) (off := 2) trivial rfl Tryz.underlying33 rfl rfl rfl Tryz.sizeOf31 rfl rfl ?_
   refine o_nil ?_
   exact ⟨fun _ _ ha _ => ha⟩
  refine' h_take (i := 11) #[true, true, true, true, true, true, true, true, true, false, true, true, false, false, false, false, false] rfl rfl rfl (by kernel_rfl) (by kernel_rfl) (by kernel_rfl) rfl (qp_then qp_bp) (fun _ h => (h.sort (by repeat constructor)).fewer (Hp.Le.refl _)) ?hh10 ?kk10
  case hh10 =>
   refine o_load1 trivial rfl Tryz.isAgg31 rfl (by repeat constructor) (by repeat constructor) ?_
   refine o_nil ?_
   exact ⟨fun _ _ ha _ => ha⟩
  refine' h_take (i := 12) #[true, true, true, true, true, true, true, true, true, false, true, true, true, false, false, false, false] rfl rfl rfl (by kernel_rfl) (by kernel_rfl) (by kernel_rfl) rfl (qp_then qp_bp) (fun _ h => (h.sort (by repeat constructor)).fewer (Hp.Le.refl _)) ?hh11 ?kk11
  case hh11 =>
   refine o_fieldAddr (T := 31) (off := 2) trivial rfl Tryz.underlying33 rfl rfl rfl Tryz.sizeOf31 rfl rfl ?_
   refine o_nil ?_
   exact ⟨fun _ _ ha _ => ha⟩
  refine' h_take (i := 13) #[true, true, true, true, true, true, true, true, true, false, true, true, true, true, false, false, false] rfl rfl rfl (by kernel_rfl) (by kernel_rfl) (by kernel_rfl) rfl (qp_then qp_bp) (fun _ h => (h.sort (by repeat constructor)).fewer (Hp.Le.refl _)) ?hh12 ?kk12
  case hh12 =>
   refine o_load1 trivial rfl Tryz.isAgg31 rfl (by repeat constructor) (by repeat constructor) ?_
   refine o_nil ?_
   exact ⟨fun _ _ ha _ => ha⟩
  refine h_go [9] (by kernel_rfl) rfl (TWHs.cons ?_ TWHs.nil)
  refine h_op #[true, true, true, true, true, true, true, true, true, true, true, true, true, true, false, false, false] rfl rfl ?_
  refine o_callI trivial rfl Tryz.call108 rfl (mul_any _ _ _ _ ha hc (by omega) (by omega)) ?_
  rintro u1 I1 hx1 hs1
  refine o_nil ?_
  refine h_next (fun _ h => (h.sort (by repeat constructor)).fewer (hx1.le)) ?_
  refine h_go [14] (by kernel_rfl) rfl (TWHs.cons ?_ TWHs.nil)
  refine h_op #[true, true, true, true, true, true, true, true, true, true, true, true, true, true, true, false, false] rfl rfl ?_
  refine o_callI trivial rfl Tryz.call108 rfl (mul_any _ _ _ _ (hb.le hx1.le) (hd.le hx1.le) (by omega) (by omega)) ?_
  rintro u2 I2 hx2 hs2
  refine o_nil ?_
  refine h_next (fun _ h => (h.sort (by repeat constructor)).fewer ((hx1.le).trans hx2.le)) ?_
  refine h_go [15] (by kernel_rfl) rfl (TWHs.cons ?_ TWHs.nil)
  refine h_op #[true, true, true, true, true, true, true, true, true, true, true, true, true, true, true, true, false] rfl rfl ?_
  refine o_callI trivial rfl Tryz.call50 rfl (qlowest_any (decide (p.num < 0) != decide (q.num < 0)) _ _ _ _ (hs1.le hx2.le) hs2 (by rw [val_natW, val_natW]; exact Nat.le_trans (natW_mul_len _ _) (by omega)) (by rw [val_natW, val_natW]; exact Nat.le_trans (natW_mul_len _ _) (by omega))) ?_
  rintro _ I3 hx3 ⟨u3, u4, rfl, h1, h2⟩
  refine o_nil ?_
  refine h_next (fun _ h => (h.sort (by repeat constructor)).fewer (((hx1.le).trans hx2.le).trans hx3.le)) ?_
  refine h_go [16] (by kernel_rfl) rfl (TWHs.cons ?_ TWHs.nil)
  refine h_op #[true, true, true, true, true, true, true, true, true, true, true, true, true, true, true, true, true] rfl rfl ?_
  refine o_store trivial rfl rfl rfl Tryz.sizeOf33 rfl (by first | rfl | (repeat' (first | exact rfl | exact one_nil | refine one_cons ?_ ?_ | exact (Ws.cells1 (by assumption)).2 | exact (Slc.cells1 (by assumption)).2))) (by repeat constructor) (by repeat constructor) ?_
  refine o_nil ?_
  refine h_next (fun _ h => (h.sort (by repeat constructor)).fewer (((hx1.le).trans hx2.le).trans hx3.le)) ?_
  refine h_end (by kernel_rfl) ?_
  refine then_c (c_ret ?_)
  refine retR rfl (.agg Tryz.isAgg33 Tryz.sizeOf33 rfl (by repeat constructor) rfl .nil) ?_
  rw [val_natW, val_natW, val_natW, val_natW, val_natW, val_natW, lowQ_mul] at h1 h2
  refine leaf (hx1.trans (hx2.trans hx3 (Nat.le_refl _)) (Nat.le_refl _)) (List.nil_sublist _) ⟨u3, u4, ?_, h1, h2⟩
  rw [val_natW, val_natW, val_natW, val_natW, val_natW, val_natW, lowQ_mul]; rfl
end Go.Proofs.YtjgbjaaekknenaaGreat
/-
  Layer 8 of the program: quotients, powers, what is right.
-/
namespace Go.Tw
open Go
set_option linter.unusedVariables false
set_option linter.unusedSimpArgs false
section
variable {P : Program} {ops : Array Oper} {rest : List Oper} {n : Nat} {D : List Deferred} {E : Env} {S : World → Prop} {Q : Exit → Act → World → Prop} {d : Nat} {ty : TypeId} {pos : String} {aft : Array Edge} {g : Option (Nat × Bool)}
/-- x % y, of any signs. -/
theorem o_remT {qm : Bool} {x y : Operand} {t t2 : TypeId} {kd : IntKind} {p q : Int} (hg : Wants ops E g) (hd : Nat.blt d n = true) (hx : ev E x = some (.int kd p)) (hy : ev E y = some (.int kd q)) (h : q ≠ 0)
    (k : TL qm P ops Q rest n D ((d, .int kd (Int.tmod p q)) :: E) S) : TL qm P ops Q (⟨some d, .binOp .rem t x y t2, ty, pos, aft, g⟩ :: rest) n D E S :=
  o_rd hg hd (v := .int kd (Int.tmod p q)) (fun a w ha hw d pos aft g => ⟨w, by
    have h0 : ¬ q = 0 := h
    simp only [execOp, ha.ev hx, ha.ev hy, Sem.run_bind, run_eqGuard_int, Result.andThen_ok]
    simp [binOp, Op.intDiv, h0], rfl⟩) k
end
end Go.Tw
namespace Go.Proofs.YtjgbjaaekknenaaGreat
open Go Go.Tw
set_option linter.unusedVariables false
set_option linter.unusedSimpArgs false
set_option linter.unnecessarySimpa false
set_option maxHeartbeats 1000000
theorem rat_zero (q : Rat) : q = 0 ↔ q.num = 0 := Rat.num_eq_zero.symm
theorem den_num_zero (p q : Rat) : (p.den : Int) * q.num = 0 ↔ q = 0 := by
  have := p.den_pos
  rw [rat_zero, Int.mul_eq_zero]
  omega
theorem qDiv_any (p q : Rat) (va vb vc vd : Value) {I : Hp} (ha : Ws I va (natW p.num.natAbs)) (hb : Ws I vb (natW p.den)) (hc : Ws I vc (natW q.num.natAbs)) (hd : Ws I vd (natW q.den)) (hp : Few 50000 p) (hq : Few 50000 q) : Fun Tryz.prog 76 [.agg #[.bool (decide (p.num < 0)), va, vb], .agg #[.bool (decide (q.num < 0)), vc, vd]] I [] (fun v I' _ => okR (q = 0) (p / q) I' v) := by
  have hl1 := natW_few hp.num (Nat.le_refl _)
  have hl2 := natW_few hp.den (Nat.le_refl _)
  have hl3 := natW_few hq.num (Nat.le_refl _)
  have hl4 := natW_few hq.den (Nat.le_refl _)
  intro w hw
  refine enter2 _ Tryz.func76 rfl Tryz.ntmps76 rfl ?_ hw
  refine c_seq (c_region ?_)
  refine o_box trivial rfl rfl rfl (fun b2 => ?_)
  refine o_box trivial rfl rfl rfl (fun b3 => ?_)
  refine o_alloc trivial rfl Tryz.zeroValue33 rfl (fun b4 => ?_)
  refine o_pv trivial rfl rfl ?_
  refine o_nil (then_c ?_)
  refine c_cut (ι := Nat × Nat × Value × Value × Value × Value × Hp) [4] (.cons rfl .nil) (fun z E0 => (6, .pointer (some ⟨z.1, 0, none⟩)) :: (7, .pointer (some ⟨z.2.1, 0, none⟩)) :: E0) (fun z => St w [] z.2.2.2.2.2.2 [.box b4 (.cells [.bool false, .slice none 0 0, .slice none 0 0].toArray 33 (0, 0)), .box z.1 (.cells [.bool (decide (p.num < 0)), z.2.2.1, z.2.2.2.1].toArray 145 (0, 0)), .box z.2.1 (.cells [.bool (decide (q.num < 0)), z.2.2.2.2.1, z.2.2.2.2.2.1].toArray 145 (0, 0))]) (fun z => Ws z.2.2.2.2.2.2 z.2.2.1 (natW p.num.natAbs) ∧ Ws z.2.2.2.2.2.2 z.2.2.2.1 (natW p.den) ∧ Ws z.2.2.2.2.2.2 z.2.2.2.2.1 (natW q.num.natAbs) ∧ Ws z.2.2.2.2.2.2 z.2.2.2.2.2.1 (natW q.den) ∧ Ext w.heap.size I z.2.2.2.2.2.2) ?_ ?_
  ·
   refine h_beginB (m := 8) [.box b2 _, .box b3 _] (by repeat constructor) (by kernel_rfl) rfl ?_
   refine' h_take (i := 0) #[true, false, false, false, false, false, false, false] rfl rfl rfl (by kernel_rfl) (by kernel_rfl) (by kernel_rfl) rfl (qp_then qp_bp) (fun _ h => (h.sort (by repeat constructor)).fewer (Hp.Le.refl _)) ?hh0 ?kk0
   case hh0 =>
    refine o_loadA trivial rfl Tryz.isAgg33 Tryz.sizeOf33 rfl (by repeat constructor) (by repeat constructor) ?_
    refine o_nil ?_
    exact ⟨fun _ _ ha _ => ha⟩
   refine' h_take (i := 2) #[true, false, true, false, false, false, false, false] rfl rfl rfl (by kernel_rfl) (by kernel_rfl) (by kernel_rfl) rfl (qp_then qp_bp) (fun _ h => (h.sort (by repeat constructor)).fewer (Hp.Le.refl _)) ?hh1 ?kk1
   case hh1 =>
    refine o_loadA trivial rfl Tryz.isAgg33 Tryz.sizeOf33 rfl (by repeat constructor) (by repeat constructor) ?_
    refine o_nil ?_
    exact ⟨fun _ _ ha _ => ha⟩
   refine h_go [1, 4, 5] (by kernel_rfl) rfl (TWHs.cons ?_ (TWHs.cons ?_ (TWHs.cons ?_ TWHs.nil)))
   ·
    refine h_op #[true, true, true, false, false, false, false, false] rfl rfl ?_
    refine o_callI trivial rfl Tryz.call103 rfl (qof_any p _ _ ha hb (hp.le (by decide))) ?_
    rintro _ I1 hx1 ⟨n1, d1, rfl, hn1, hd1⟩
    refine o_nil ?_
    refine h_next (fun _ h => (h.sort (by repeat constructor)).fewer (hx1.le)) ?_
    refine h_go [3, 4, 5] (by kernel_rfl) rfl (TWHs.cons ?_ (TWHs.cons ?_ (TWHs.cons ?_ TWHs.nil)))
    ·
     refine h_op #[true, true, true, true, false, false, false, false] rfl rfl ?_
     refine o_callI trivial rfl Tryz.call103 rfl (qof_any q _ _ (hc.le hx1.le) (hd.le hx1.le) (hq.le (by decide))) ?_
     rintro _ I2 hx2 ⟨n2, d2, rfl, hn2, hd2⟩
     refine o_nil ?_
     refine h_next (fun _ h => (h.sort (by repeat constructor)).fewer ((hx1.le).trans hx2.le)) ?_
     refine h_go [4, 5] (by kernel_rfl) rfl (TWHs.cons ?_ (TWHs.cons ?_ TWHs.nil))
     ·
      refine h_op #[true, true, true, true, true, false, false, false] rfl rfl ?_
      refine o_alloc trivial rfl Tryz.zeroValue145 rfl (fun b6 => ?_)
      refine o_nil ?_
      refine h_next (fun _ h => (h.sort (by repeat constructor)).fewer ((hx1.le).trans hx2.le)) ?_
      refine h_go [5] (by kernel_rfl) rfl (TWHs.cons ?_ TWHs.nil)
      refine h_op #[true, true, true, true, true, true, false, false] rfl rfl ?_
      refine o_alloc trivial rfl Tryz.zeroValue145 rfl (fun b7 => ?_)
      refine o_nil ?_
      refine h_next (fun _ h => (h.sort (by repeat constructor)).fewer ((hx1.le).trans hx2.le)) ?_
      refine h_go [6] (by kernel_rfl) rfl (TWHs.cons ?_ TWHs.nil)
      refine h_op #[true, true, true, true, true, true, true, false] rfl rfl ?_
      refine o_store trivial rfl rfl rfl Tryz.sizeOf145 rfl (by first | rfl | (repeat' (first | exact rfl | exact one_nil | refine one_cons ?_ ?_ | exact (Ws.cells1 (by assumption)).2 | exact (Slc.cells1 (by assumption)).2))) (by repeat constructor) (by repeat constructor) ?_
      refine o_nil ?_
      refine h_next (fun _ h => (h.sort (by repeat constructor)).fewer ((hx1.le).trans hx2.le)) ?_
      refine h_go [7] (by kernel_rfl) rfl (TWHs.cons ?_ TWHs.nil)
      refine h_op #[true, true, true, true, true, true, true, true] rfl rfl ?_
      refine o_store trivial rfl rfl rfl Tryz.sizeOf145 rfl (by first | rfl | (repeat' (first | exact rfl | exact one_nil | refine one_cons ?_ ?_ | exact (Ws.cells1 (by assumption)).2 | exact (Slc.cells1 (by assumption)).2))) (by repeat constructor) (by repeat constructor) ?_
      refine o_nil ?_
      refine h_next (fun _ h => (h.sort (by repeat constructor)).fewer ((hx1.le).trans hx2.le)) ?_
      refine h_end (by kernel_rfl) ?_
      exact meet (b6, b7, n1, d1, n2, d2, I2) (sub_cons rfl (sub_cons rfl (sub_cons rfl sub_nil))) (fun _ h => h.sort (by repeat constructor)) ⟨hn1.le hx2.le, hd1.le hx2.le, hn2, hd2, hx1.trans hx2 (Nat.le_refl _)⟩
     ·
      refine h_op #[true, true, true, true, false, true, false, false] rfl rfl ?_
      refine o_alloc trivial rfl Tryz.zeroValue145 rfl (fun b7 => ?_)
      refine o_nil ?_
      refine h_next (fun _ h => (h.sort (by repeat constructor)).fewer ((hx1.le).trans hx2.le)) ?_
      refine h_go [4] (by kernel_rfl) rfl (TWHs.cons ?_ TWHs.nil)
      refine h_op #[true, true, true, true, true, true, false, false] rfl rfl ?_
      refine o_alloc trivial rfl Tryz.zeroValue145 rfl (fun b6 => ?_)
      refine o_nil ?_
      refine h_next (fun _ h => (h.sort (by repeat constructor)).fewer ((hx1.le).trans hx2.le)) ?_
      refine h_go [6] (by kernel_rfl) rfl (TWHs.cons ?_ TWHs.nil)
      refine h_op #[true, true, true, true, true, true, true, false] rfl rfl ?_
      refine o_store trivial rfl rfl rfl Tryz.sizeOf145 rfl (by first | rfl | (repeat' (first | exact rfl | exact one_nil | refine one_cons ?_ ?_ | exact (Ws.cells1 (by assumption)).2 | exact (Slc.cells1 (by assumption)).2))) (by repeat constructor) (by repeat constructor) ?_
      refine o_nil ?_
      refine h_next (fun _ h => (h.sort (by repeat constructor)).fewer ((hx1.le).trans hx2.le)) ?_
      refine h_go [7] (by kernel_rfl) rfl (TWHs.cons ?_ TWHs.nil)
      refine h_op #[true, true, true, true, true, true, true, true] rfl rfl ?_
      refine o_store trivial rfl rfl rfl Tryz.sizeOf145 rfl (by first | rfl | (repeat' (first | exact rfl | exact one_nil | refine one_cons ?_ ?_ | exact (Ws.cells1 (by assumption)).2 | exact (Slc.cells1 (by assumption)).2))) (by repeat constructor) (by repeat constructor) ?_
      refine o_nil ?_
      refine h_next (fun _ h => (h.sort (by repeat constructor)).fewer ((hx1.le).trans hx2.le)) ?_
      refine h_end (by kernel_rfl) ?_
      exact meet (b6, b7, n1, d1, n2, d2, I2) (sub_cons rfl (sub_cons rfl (sub_cons rfl sub_nil))) (fun _ h => h.sort (by repeat constructor)) ⟨hn1.le hx2.le, hd1.le hx2.le, hn2, hd2, hx1.trans hx2 (Nat.le_refl _)⟩
    ·
     refine h_op #[true, true, true, false, true, false, false, false] rfl rfl ?_
     refine o_alloc trivial rfl Tryz.zeroValue145 rfl (fun b6 => ?_)
     refine o_nil ?_
     refine h_next (fun _ h => (h.sort (by repeat constructor)).fewer (hx1.le)) ?_
     refine h_go [3, 5] (by kernel_rfl) rfl (TWHs.cons ?_ (TWHs.cons ?_ TWHs.nil))
     ·
      refine h_op #[true, true, true, true, true, false, false, false] rfl rfl ?_
      refine o_callI trivial rfl Tryz.call103 rfl (qof_any q _ _ (hc.le hx1.le) (hd.le hx1.le) (hq.le (by decide))) ?_
      rintro _ I2 hx2 ⟨n2, d2, rfl, hn2, hd2⟩
      refine o_nil ?_
      refine h_next (fun _ h => (h.sort (by repeat constructor)).fewer ((hx1.le).trans hx2.le)) ?_
      refine h_go [5] (by kernel_rfl) rfl (TWHs.cons ?_ TWHs.nil)
      refine h_op #[true, true, true, true, true, true, false, false] rfl rfl ?_
      refine o_alloc trivial rfl Tryz.zeroValue145 rfl (fun b7 => ?_)
      refine o_nil ?_
      refine h_next (fun _ h => (h.sort (by repeat constructor)).fewer ((hx1.le).trans hx2.le)) ?_
      refine h_go [6] (by kernel_rfl) rfl (TWHs.cons ?_ TWHs.nil)
      refine h_op #[true, true, true, true, true, true, true, false] rfl rfl ?_
      refine o_store trivial rfl rfl rfl Tryz.sizeOf145 rfl (by first | rfl | (repeat' (first | exact rfl | exact one_nil | refine one_cons ?_ ?_ | exact (Ws.cells1 (by assumption)).2 | exact (Slc.cells1 (by assumption)).2))) (by repeat constructor) (by repeat constructor) ?_
      refine o_nil ?_
      refine h_next (fun _ h => (h.sort (by repeat constructor)).fewer ((hx1.le).trans hx2.le)) ?_
      refine h_go [7] (by kernel_rfl) rfl (TWHs.cons ?_ TWHs.nil)
      refine h_op #[true, true, true, true, true, true, true, true] rfl rfl ?_
      refine o_store trivial rfl rfl rfl Tryz.sizeOf145 rfl (by first | rfl | (repeat' (first | exact rfl | exact one_nil | refine one_cons ?_ ?_ | exact (Ws.cells1 (by assumption)).2 | exact (Slc.cells1 (by assumption)).2))) (by repeat constructor) (by repeat constructor) ?_
      refine o_nil ?_
      refine h_next (fun _ h => (h.sort (by repeat constructor)).fewer ((hx1.le).trans hx2.le)) ?_
      refine h_end (by kernel_rfl) ?_
      exact meet (b6, b7, n1, d1, n2, d2, I2) (sub_cons rfl (sub_cons rfl (sub_cons rfl sub_nil))) (fun _ h => h.sort (by repeat constructor)) ⟨hn1.le hx2.le, hd1.le hx2.le, hn2, hd2, hx1.trans hx2 (Nat.le_refl _)⟩
     ·
      refine h_op #[true, true, true, false, true, true, false, false] rfl rfl ?_
      refine o_alloc trivial rfl Tryz.zeroValue145 rfl (fun b7 => ?_)
      refine o_nil ?_
      refine h_next (fun _ h => (h.sort (by repeat constructor)).fewer (hx1.le)) ?_
      refine h_go [3] (by kernel_rfl) rfl (TWHs.cons ?_ TWHs.nil)
      refine h_op #[true, true, true, true, true, true, false, false] rfl rfl ?_
      refine o_callI trivial rfl Tryz.call103 rfl (qof_any q _ _ (hc.le hx1.le) (hd.le hx1.le) (hq.le (by decide))) ?_
      rintro _ I2 hx2 ⟨n2, d2, rfl, hn2, hd2⟩
      refine o_nil ?_
      refine h_next (fun _ h => (h.sort (by repeat constructor)).fewer ((hx1.le).trans hx2.le)) ?_
      refine h_go [6] (by kernel_rfl) rfl (TWHs.cons ?_ TWHs.nil)
      refine h_op #[true, true, true, true, true, true, true, false] rfl rfl ?_
      refine o_store trivial rfl rfl rfl Tryz.sizeOf145 rfl (by first | rfl | (repeat' (first | exact rfl | exact one_nil | refine one_cons ?_ ?_ | exact (Ws.cells1 (by assumption)).2 | exact (Slc.cells1 (by assumption)).2))) (by repeat constructor) (by repeat constructor) ?_
      refine o_nil ?_
      refine h_next (fun _ h => (h.sort (by repeat constructor)).fewer ((hx1.le).trans hx2.le)) ?_
      refine h_go [7] (by kernel_rfl) rfl (TWHs.cons ?_ TWHs.nil)
      refine h_op #[true, true, true, true, true, true, true, true] rfl rfl ?_
      refine o_store trivial rfl rfl rfl Tryz.sizeOf145 rfl (by first | rfl | (repeat' (first | exact rfl | exact one_nil | refine one_cons ?_ ?_ | exact (Ws.cells1 (by assumption)).2 | exact (Slc.cells1 (by assumption)).2))) (by repeat constructor) (by repeat constructor) ?_
      refine o_nil ?_
      refine h_next (fun _ h => (h.sort (by repeat constructor)).fewer ((hx1.le).trans hx2.le)) ?_
      refine h_end (by kernel_rfl) ?_
      exact meet (b6, b7, n1, d1, n2, d2, I2) (sub_cons rfl (sub_cons rfl (sub_cons rfl sub_nil))) (fun _ h => h.sort (by repeat constructor)) ⟨hn1.le hx2.le, hd1.le hx2.le, hn2, hd2, hx1.trans hx2 (Nat.le_refl _)⟩
    ·
     refine h_op #[true, true, true, false, false, true, false, false] rfl rfl ?_
     refine o_alloc trivial rfl Tryz.zeroValue145 rfl (fun b7 => ?_)
     refine o_nil ?_
     refine h_next (fun _ h => (h.sort (by repeat constructor)).fewer (hx1.le)) ?_
     refine h_go [3, 4] (by kernel_rfl) rfl (TWHs.cons ?_ (TWHs.cons ?_ TWHs.nil))
     ·
      refine h_op #[true, true, true, true, false, true, false, false] rfl rfl ?_
      refine o_callI trivial rfl Tryz.call103 rfl (qof_any q _ _ (hc.le hx1.le) (hd.le hx1.le) (hq.le (by decide))) ?_
      rintro _ I2 hx2 ⟨n2, d2, rfl, hn2, hd2⟩
      refine o_nil ?_
      refine h_next (fun _ h => (h.sort (by repeat constructor)).fewer ((hx1.le).trans hx2.le)) ?_
      refine h_go [4] (by kernel_rfl) rfl (TWHs.cons ?_ TWHs.nil)
      refine h_op #[true, true, true, true, true, true, false, false] rfl rfl ?_
      refine o_alloc trivial rfl Tryz.zeroValue145 rfl (fun b6 => ?_)
      refine o_nil ?_
      refine h_next (fun _ h => (h.sort (by repeat constructor)).fewer ((hx1.le).trans hx2.le)) ?_
      refine h_go [6] (by kernel_rfl) rfl (TWHs.cons ?_ TWHs.nil)
      refine h_op #[true, true, true, true, true, true, true, false] rfl rfl ?_
      refine o_store trivial rfl rfl rfl Tryz.sizeOf145 rfl (by first | rfl | (repeat' (first | exact rfl | exact one_nil | refine one_cons ?_ ?_ | exact (Ws.cells1 (by assumption)).2 | exact (Slc.cells1 (by assumption)).2))) (by repeat constructor) (by repeat constructor) ?_
      refine o_nil ?_
      refine h_next (fun _ h => (h.sort (by repeat constructor)).fewer ((hx1.le).trans hx2.le)) ?_
      refine h_go [7] (by kernel_rfl) rfl (TWHs.cons ?_ TWHs.nil)
      refine h_op #[true, true, true, true, true, true, true, true] rfl rfl ?_
      refine o_store trivial rfl rfl rfl Tryz.sizeOf145 rfl (by first | rfl | (repeat' (first | exact rfl | exact one_nil | refine one_cons ?_ ?_ | exact (Ws.cells1 (by assumption)).2 | exact (Slc.cells1 (by assumption)).2))) (by repeat constructor) (by repeat constructor) ?_
      refine o_nil ?_
      refine h_next (fun _ h => (h.sort (by repeat constructor)).fewer ((hx1.le).trans hx2.le)) ?_
      refine h_end (by kernel_rfl) ?_
      exact meet (b6, b7, n1, d1, n2, d2, I2) (sub_cons rfl (sub_cons rfl (sub_cons rfl sub_nil))) (fun _ h => h.sort (by repeat constructor)) ⟨hn1.le hx2.le, hd1.le hx2.le, hn2, hd2, hx1.trans hx2 (Nat.le_refl _)⟩
     ·
      refine h_op #[true, true, true, false, true, true, false, false] rfl rfl ?_
      refine o_alloc trivial rfl Tryz.zeroValue145 rfl (fun b6 => ?_)
      refine o_nil ?_
      refine h_next (fun _ h => (h.sort (by repeat constructor)).fewer (hx1.le)) ?_
      refine h_go [3] (by kernel_rfl) rfl (TWHs.cons ?_ TWHs.nil)
      refine h_op #[true, true, true, true, true, true, false, false] rfl rfl ?_
      refine o_callI trivial rfl Tryz.call103 rfl (qof_any q _ _ (hc.le hx1.le) (hd.le hx1.le) (hq.le (by decide))) ?_
      rintro _ I2 hx2 ⟨n2, d2, rfl, hn2, hd2⟩
      refine o_nil ?_
      refine h_next (fun _ h => (h.sort (by repeat constructor)).fewer ((hx1.le).trans hx2.le)) ?_
      refine h_go [6] (by kernel_rfl) rfl (TWHs.cons ?_ TWHs.nil)
      refine h_op #[true, true, true, true, true, true, true, false] rfl rfl ?_
      refine o_store trivial rfl rfl rfl Tryz.sizeOf145 rfl (by first | rfl | (repeat' (first | exact rfl | exact one_nil | refine one_cons ?_ ?_ | exact (Ws.cells1 (by assumption)).2 | exact (Slc.cells1 (by assumption)).2))) (by repeat constructor) (by repeat constructor) ?_
      refine o_nil ?_
      refine h_next (fun _ h => (h.sort (by repeat constructor)).fewer ((hx1.le).trans hx2.le)) ?_
      refine h_go [7] (by kernel_rfl) rfl (TWHs.cons ?_ TWHs.nil)
      refine h_op #[true, true, true, true, true, true, true, true] rfl rfl ?_
      refine o_store trivial rfl rfl rfl Tryz.sizeOf145 rfl (by first | rfl | (repeat' (first | exact rfl | exact one_nil | refine one_cons ?_ ?_ | exact (Ws.cells1 (by assumption)).2 | exact (Slc.cells1 (by assumption)).2))) (by repeat constructor) (by repeat constructor) ?_
      refine o_nil ?_
      refine h_next (fun _ h => (h.sort (by repeat constructor)).fewer ((hx1.le).trans hx2.le)) ?_
      refine h_end (by kernel_rfl) ?_
      exact meet (b6, b7, n1, d1, n2, d2, I2) (sub_cons rfl (sub_cons rfl (sub_cons rfl sub_nil))) (fun _ h => h.sort (by repeat constructor)) ⟨hn1.le hx2.le, hd1.le hx2.le, hn2, hd2, hx1.trans hx2 (Nat.le_refl _)⟩
   ·
    refine h_op #[true, false, true, false, true, false, false, false] rfl rfl ?_
    refine o_alloc trivial rfl Tryz.zeroValue145 rfl (fun b6 => ?_)
    refine o_nil ?_
    refine h_next (fun _ h => (h.sort (by repeat constructor)).fewer (Hp.Le.refl _)) ?_
    refine h_go [1, 5] (by kernel_rfl) rfl (TWHs.cons ?_ (TWHs.cons ?_ TWHs.nil))
    ·
     refine h_op #[true, true, true, false, true, false, false, false] rfl rfl ?_
     refine o_callI trivial rfl Tryz.call103 rfl (qof_any p _ _ ha hb (hp.le (by decide))) ?_
     rintro _ I1 hx1 ⟨n1, d1, rfl, hn1, hd1⟩
     refine o_nil ?_
     refine h_next (fun _ h => (h.sort (by repeat constructor)).fewer (hx1.le)) ?_
     refine h_go [3, 5] (by kernel_rfl) rfl (TWHs.cons ?_ (TWHs.cons ?_ TWHs.nil))
     ·
      refine h_op #[true, true, true, true, true, false, false, false] rfl rfl ?_
      refine o_callI trivial rfl Tryz.call103 rfl (qof_any q _ _ (hc.le hx1.le) (hd.le hx1.le) (hq.le (by decide))) ?_
      rintro _ I2 hx2 ⟨n2, d2, rfl, hn2, hd2⟩
      refine o_nil ?_
      refine h_next (fun _ h => (h.sort (by repeat constructor)).fewer ((hx1.le).trans hx2.le)) ?_
      refine h_go [5] (by kernel_rfl) rfl (TWHs.cons ?_ TWHs.nil)
      refine h_op #[true, true, true, true, true, true, false, false] rfl rfl ?_
      refine o_alloc trivial rfl Tryz.zeroValue145 rfl (fun b7 => ?_)
      refine o_nil ?_
      refine h_next (fun _ h => (h.sort (by repeat constructor)).fewer ((hx1.le).trans hx2.le)) ?_
      refine h_go [6] (by kernel_rfl) rfl (TWHs.cons ?_ TWHs.nil)
      refine h_op #[true, true, true, true, true, true, true, false] rfl rfl ?_
      refine o_store trivial rfl rfl rfl Tryz.sizeOf145 rfl (by first | rfl | (repeat' (first | exact rfl | exact one_nil | refine one_cons ?_ ?_ | exact (Ws.cells1 (by assumption)).2 | exact (Slc.cells1 (by assumption)).2))) (by repeat constructor) (by repeat constructor) ?_
      refine o_nil ?_
      refine h_next (fun _ h => (h.sort (by repeat constructor)).fewer ((hx1.le).trans hx2.le)) ?_
      refine h_go [7] (by kernel_rfl) rfl (TWHs.cons ?_ TWHs.nil)
      refine h_op #[true, true, true, true, true, true, true, true] rfl rfl ?_
      refine o_store trivial rfl rfl rfl Tryz.sizeOf145 rfl (by first | rfl | (repeat' (first | exact rfl | exact one_nil | refine one_cons ?_ ?_ | exact (Ws.cells1 (by assumption)).2 | exact (Slc.cells1 (by assumption)).2))) (by repeat constructor) (by repeat constructor) ?_
      refine o_nil ?_
      refine h_next (fun _ h => (h.sort (by repeat constructor)).fewer ((hx1.le).trans hx2.le)) ?_
      refine h_end (by kernel_rfl) ?_
      exact meet (b6, b7, n1, d1, n2, d2, I2) (sub_cons rfl (sub_cons rfl (sub_cons rfl sub_nil))) (fun _ h => h.sort (by repeat constructor)) ⟨hn1.le hx2.le, hd1.le hx2.le, hn2, hd2, hx1.trans hx2 (Nat.le_refl _)⟩
     ·
      refine h_op #[true, true, true, false, true, true, false, false] rfl rfl ?_
      refine o_alloc trivial rfl Tryz.zeroValue145 rfl (fun b7 => ?_)
      refine o_nil ?_
      refine h_next (fun _ h => (h.sort (by repeat constructor)).fewer (hx1.le)) ?_
      refine h_go [3] (by kernel_rfl) rfl (TWHs.cons ?_ TWHs.nil)
      refine h_op #[true, true, true, true, true, true, false, false] rfl rfl ?_
      refine o_callI trivial rfl Tryz.call103 rfl (qof_any q _ _ (hc.le hx1.le) (hd.le hx1.le) (hq.le (by decide))) ?_
      rintro _ I2 hx2 ⟨n2, d2, rfl, hn2, hd2⟩
      refine o_nil ?_
      refine h_next (fun _ h => (h.sort (by repeat constructor)).fewer ((hx1.le).trans hx2.le)) ?_
      refine h_go [6] (by kernel_rfl) rfl (TWHs.cons ?_ TWHs.nil)
      refine h_op #[true, true, true, true, true, true, true, false] rfl rfl ?_
      refine o_store trivial rfl rfl rfl Tryz.sizeOf145 rfl (by first | rfl | (repeat' (first | exact rfl | exact one_nil | refine one_cons ?_ ?_ | exact (Ws.cells1 (by assumption)).2 | exact (Slc.cells1 (by assumption)).2))) (by repeat constructor) (by repeat constructor) ?_
      refine o_nil ?_
      refine h_next (fun _ h => (h.sort (by repeat constructor)).fewer ((hx1.le).trans hx2.le)) ?_
      refine h_go [7] (by kernel_rfl) rfl (TWHs.cons ?_ TWHs.nil)
      refine h_op #[true, true, true, true, true, true, true, true] rfl rfl ?_
      refine o_store trivial rfl rfl rfl Tryz.sizeOf145 rfl (by first | rfl | (repeat' (first | exact rfl | exact one_nil | refine one_cons ?_ ?_ | exact (Ws.cells1 (by assumption)).2 | exact (Slc.cells1 (by assumption)).2))) (by repeat constructor) (by repeat constructor) ?_
      refine o_nil ?_
      refine h_next (fun _ h => (h.sort (by repeat constructor)).fewer ((hx1.le).trans hx2.le)) ?_
      refine h_end (by kernel_rfl) ?_
      exact meet (b6, b7, n1, d1, n2, d2, I2) (sub_cons rfl (sub_cons rfl (sub_cons rfl sub_nil))) (fun _ h => h.sort (by repeat constructor)) ⟨hn1.le hx2.le, hd1.le hx2.le, hn2, hd2, hx1.trans hx2 (Nat.le_refl _)⟩
    ·
     refine h_op #[true, false, true, false, true, true, false, false] rfl rfl ?_
     refine o_alloc trivial rfl Tryz.zeroValue145 rfl (fun b7 => ?_)
     refine o_nil ?_
     refine h_next (fun _ h => (h.sort (by repeat constructor)).fewer (Hp.Le.refl _)) ?_
     refine h_go [1] (by kernel_rfl) rfl (TWHs.cons ?_ TWHs.nil)
     refine h_op #[true, true, true, false, true, true, false, false] rfl rfl ?_
     refine o_callI trivial rfl Tryz.call103 rfl (qof_any p _ _ ha hb (hp.le (by decide))) ?_
     rintro _ I1 hx1 ⟨n1, d1, rfl, hn1, hd1⟩
     refine o_nil ?_
     refine h_next (fun _ h => (h.sort (by repeat constructor)).fewer (hx1.le)) ?_
     refine h_go [3] (by kernel_rfl) rfl (TWHs.cons ?_ TWHs.nil)
     refine h_op #[true, true, true, true, true, true, false, false] rfl rfl ?_
     refine o_callI trivial rfl Tryz.call103 rfl (qof_any q _ _ (hc.le hx1.le) (hd.le hx1.le) (hq.le (by decide))) ?_
     rintro _ I2 hx2 ⟨n2, d2, rfl, hn2, hd2⟩
     refine o_nil ?_
     refine h_next (fun _ h => (h.sort (by repeat constructor)).fewer ((hx1.le).trans hx2.le)) ?_
     refine h_go [6] (by kernel_rfl) rfl (TWHs.cons ?_ TWHs.nil)
     refine h_op #[true, true, true, true, true, true, true, false] rfl rfl ?_
     refine o_store trivial rfl rfl rfl Tryz.sizeOf145 rfl (by first | rfl | (repeat' (first | exact rfl | exact one_nil | refine one_cons ?_ ?_ | exact (Ws.cells1 (by assumption)).2 | exact (Slc.cells1 (by assumption)).2))) (by repeat constructor) (by repeat constructor) ?_
     refine o_nil ?_
     refine h_next (fun _ h => (h.sort (by repeat constructor)).fewer ((hx1.le).trans hx2.le)) ?_
     refine h_go [7] (by kernel_rfl) rfl (TWHs.cons ?_ TWHs.nil)
     refine h_op #[true, true, true, true, true, true, true, true] rfl rfl ?_
     refine o_store trivial rfl rfl rfl Tryz.sizeOf145 rfl (by first | rfl | (repeat' (first | exact rfl | exact one_nil | refine one_cons ?_ ?_ | exact (Ws.cells1 (by assumption)).2 | exact (Slc.cells1 (by assumption)).2))) (by repeat constructor) (by repeat constructor) ?_
     refine o_nil ?_
     refine h_next (fun _ h => (h.sort (by repeat constructor)).fewer ((hx1.le).trans hx2.le)) ?_
     refine h_end (by kernel_rfl) ?_
     exact meet (b6, b7, n1, d1, n2, d2, I2) (sub_cons rfl (sub_cons rfl (sub_cons rfl sub_nil))) (fun _ h => h.sort (by repeat constructor)) ⟨hn1.le hx2.le, hd1.le hx2.le, hn2, hd2, hx1.trans hx2 (Nat.le_refl _)⟩
   ·
    refine h_op #[true, false, true, false, false, true, false, false] rfl rfl ?_
    refine o_alloc trivial rfl Tryz.zeroValue145 rfl (fun b7 => ?_)
    refine o_nil ?_
    refine h_next (fun _ h => (h.sort (by repeat constructor)).fewer (Hp.Le.refl _)) ?_
    refine h_go [1, 4] (by kernel_rfl) rfl (TWHs.cons ?_ (TWHs.cons ?_ TWHs.nil))
    ·
     refine h_op #[true, true, true, false, false, true, false, false] rfl rfl ?_
     refine o_callI trivial rfl Tryz.call103 rfl (qof_any p _ _ ha hb (hp.le (by decide))) ?_
     rintro _ I1 hx1 ⟨n1, d1, rfl, hn1, hd1⟩
     refine o_nil ?_
     refine h_next (fun _ h => (h.sort (by repeat constructor)).fewer (hx1.le)) ?_
     refine h_go [3, 4] (by kernel_rfl) rfl (TWHs.cons ?_ (TWHs.cons ?_ TWHs.nil))
     ·
      refine h_op #[true, true, true, true, false, true, false, false] rfl rfl ?_
      refine o_callI trivial rfl Tryz.call103 rfl (qof_any q _ _ (hc.le hx1.le) (hd.le hx1.le) (hq.le (by decide))) ?_
      rintro _ I2 hx2 ⟨n2, d2, rfl, hn2, hd2⟩
      refine o_nil ?_
      refine h_next (fun _ h => (h.sort (by repeat constructor)).fewer ((hx1.le).trans hx2.le)) ?_
      refine h_go [4] (by kernel_rfl) rfl (TWHs.cons ?_ TWHs.nil)
      refine h_op #[true, true, true, true, true, true, false, false] rfl rfl ?_
      refine o_alloc trivial rfl Tryz.zeroValue145 rfl (fun b6 => ?_)
      refine o_nil ?_
      refine h_next (fun _ h => (h.sort (by repeat constructor)).fewer ((hx1.le).trans hx2.le)) ?_
      refine h_go [6] (by kernel_rfl) rfl (TWHs.cons ?_ TWHs.nil)
      refine h_op #[true, true, true, true, true, true, true, false] rfl rfl ?_
      refine o_store trivial rfl rfl rfl Tryz.sizeOf145 rfl (by first | rfl | (repeat' (first | exact rfl | exact one_nil | refine one_cons ?_ ?_ | exact (Ws.cells1 (by assumption)).2 | exact (Slc.cells1 (by assumption)).2))) (by repeat constructor) (by repeat constructor) ?_
      refine o_nil ?_
      refine h_next (fun _ h => (h.sort (by repeat constructor)).fewer ((hx1.le).trans hx2.le)) ?_
      refine h_go [7] (by kernel_rfl) rfl (TWHs.cons ?_ TWHs.nil)
      refine h_op #[true, true, true, true, true, true, true, true] rfl rfl ?_
      refine o_store trivial rfl rfl rfl Tryz.sizeOf145 rfl (by first | rfl | (repeat' (first | exact rfl | exact one_nil | refine one_cons ?_ ?_ | exact (Ws.cells1 (by assumption)).2 | exact (Slc.cells1 (by assumption)).2))) (by repeat constructor) (by repeat constructor) ?_
      refine o_nil ?_
      refine h_next (fun _ h => (h.sort (by repeat constructor)).fewer ((hx1.le).trans hx2.le)) ?_
      refine h_end (by kernel_rfl) ?_
      exact meet (b6, b7, n1, d1, n2, d2, I2) (sub_cons rfl (sub_cons rfl (sub_cons rfl sub_nil))) (fun _ h => h.sort (by repeat constructor)) ⟨hn1.le hx2.le, hd1.le hx2.le, hn2, hd2, hx1.trans hx2 (Nat.le_refl _)⟩
     ·
      refine h_op #[true, true, true, false, true, true, false, false] rfl rfl ?_
      refine o_alloc trivial rfl Tryz.zeroValue145 rfl (fun b6 => ?_)
      refine o_nil ?_
      refine h_next (fun _ h => (h.sort (by repeat constructor)).fewer (hx1.le)) ?_
      refine h_go [3] (by kernel_rfl) rfl (TWHs.cons ?_ TWHs.nil)
      refine h_op #[true, true, true, true, true, true, false, false] rfl rfl ?_
      refine o_callI trivial rfl Tryz.call103 rfl (qof_any q _ _ (hc.le hx1.le) (hd.le hx1.le) (hq.le (by decide))) ?_
      rintro _ I2 hx2 ⟨n2, d2, rfl, hn2, hd2⟩
      refine o_nil ?_
      refine h_next (fun _ h => (h.sort (by repeat constructor)).fewer ((hx1.le).trans hx2.le)) ?_
      refine h_go [6] (by kernel_rfl) rfl (TWHs.cons ?_ TWHs.nil)
      refine h_op #[true, true, true, true, true, true, true, false] rfl rfl ?_
      refine o_store trivial rfl rfl rfl Tryz.sizeOf145 rfl (by first | rfl | (repeat' (first | exact rfl | exact one_nil | refine one_cons ?_ ?_ | exact (Ws.cells1 (by assumption)).2 | exact (Slc.cells1 (by assumption)).2))) (by repeat constructor) (by repeat constructor) ?_
      refine o_nil ?_
      refine h_next (fun _ h => (h.sort (by repeat constructor)).fewer ((hx1.le).trans hx2.le)) ?_
      refine h_go [7] (by kernel_rfl) rfl (TWHs.cons ?_ TWHs.nil)
      refine h_op #[true, true, true, true, true, true, true, true] rfl rfl ?_
      refine o_store trivial rfl rfl rfl Tryz.sizeOf145 rfl (by first | rfl | (repeat' (first | exact rfl | exact one_nil | refine one_cons ?_ ?_ | exact (Ws.cells1 (by assumption)).2 | exact (Slc.cells1 (by assumption)).2))) (by repeat constructor) (by repeat constructor) ?_
      refine o_nil ?_
      refine h_next (fun _ h => (h.sort (by repeat constructor)).fewer ((hx1.le).trans hx2.le)) ?_
      refine h_end (by kernel_rfl) ?_
      exact meet (b6, b7, n1, d1, n2, d2, I2) (sub_cons rfl (sub_cons rfl (sub_cons rfl sub_nil))) (fun _ h => h.sort (by repeat constructor)) ⟨hn1.le hx2.le, hd1.le hx2.le, hn2, hd2, hx1.trans hx2 (Nat.le_refl _)⟩
    ·
     refine h_op #[true, false, true, false, true, true, false, false] rfl rfl ?_
     refine o_alloc trivial rfl Tryz.zeroValue145 rfl (fun b6 => ?_)
     refine o_nil ?_
     refine h_next (fun _ h => (h.sort (by repeat constructor)).fewer (Hp.Le.refl _)) ?_
     refine h_go [1] (by kernel_rfl) rfl (TWHs.cons ?_ TWHs.nil)
     refine h_op #[true, true, true, false, true, true, false, false] rfl rfl ?_
     refine o_callI trivial rfl Tryz.call103 rfl (qof_any p _ _ ha hb (hp.le (by decide))) ?_
     rintro _ I1 hx1 ⟨n1, d1, rfl, hn1, hd1⟩
     refine o_nil ?_
     refine h_next (fun _ h => (h.sort (by repeat constructor)).fewer (hx1.le)) ?_
     refine h_go [3] (by kernel_rfl) rfl (TWHs.cons ?_ TWHs.nil)
     refine h_op #[true, true, true, true, true, true, false, false] rfl rfl ?_
     refine o_callI trivial rfl Tryz.call103 rfl (qof_any q _ _ (hc.le hx1.le) (hd.le hx1.le) (hq.le (by decide))) ?_
     rintro _ I2 hx2 ⟨n2, d2, rfl, hn2, hd2⟩
     refine o_nil ?_
     refine h_next (fun _ h => (h.sort (by repeat constructor)).fewer ((hx1.le).trans hx2.le)) ?_
     refine h_go [6] (by kernel_rfl) rfl (TWHs.cons ?_ TWHs.nil)
     refine h_op #[true, true, true, true, true, true, true, false] rfl rfl ?_
     refine o_store trivial rfl rfl rfl Tryz.sizeOf145 rfl (by first | rfl | (repeat' (first | exact rfl | exact one_nil | refine one_cons ?_ ?_ | exact (Ws.cells1 (by assumption)).2 | exact (Slc.cells1 (by assumption)).2))) (by repeat constructor) (by repeat constructor) ?_
     refine o_nil ?_
     refine h_next (fun _ h => (h.sort (by repeat constructor)).fewer ((hx1.le).trans hx2.le)) ?_
     refine h_go [7] (by kernel_rfl) rfl (TWHs.cons ?_ TWHs.nil)
     refine h_op #[true, true, true, true, true, true, true, true] rfl rfl ?_
     refine o_store trivial rfl rfl rfl Tryz.sizeOf145 rfl (by first | rfl | (repeat' (first | exact rfl | exact one_nil | refine one_cons ?_ ?_ | exact (Ws.cells1 (by assumption)).2 | exact (Slc.cells1 (by assumption)).2))) (by repeat constructor) (by repeat constructor) ?_
     refine o_nil ?_
     refine h_next (fun _ h => (h.sort (by repeat constructor)).fewer ((hx1.le).trans hx2.le)) ?_
     refine h_end (by kernel_rfl) ?_
     exact meet (b6, b7, n1, d1, n2, d2, I2) (sub_cons rfl (sub_cons rfl (sub_cons rfl sub_nil))) (fun _ h => h.sort (by repeat constructor)) ⟨hn1.le hx2.le, hd1.le hx2.le, hn2, hd2, hx1.trans hx2 (Nat.le_refl _)⟩
  ·
   rintro ⟨b6, b7, n1, d1, n2, d2, I2⟩ ⟨hn1, hd1, hn2, hd2, hx2⟩
   try dsimp only
   refine c_seq ?_
   refine h_beginB (m := 19) [.box b6 _, .box b7 _] (by repeat constructor) (by kernel_rfl) rfl ?_
   refine' h_take (i := 0) #[true, false, false, false, false, false, false, false, false, false, false, false, false, false, false, false, false, false, false] rfl rfl rfl (by kernel_rfl) (by kernel_rfl) (by kernel_rfl) rfl (qp_then qp_bp) (fun _ h => (h.sort (by repeat constructor)).fewer (Hp.Le.refl _)) ?hh2 ?kk2
   case hh2 =>
    refine o_fieldAddr (T := 143) (off := 0) trivial rfl Tryz.underlying145 rfl rfl rfl Tryz.sizeOf143 rfl rfl ?_
    refine o_nil ?_
    exact ⟨fun _ _ ha _ => ha⟩
   refine' h_take (i := 1) #[true, true, false, false, false, false, false, false, false, false, false, false, false, false, false, false, false, false, false] rfl rfl rfl (by kernel_rfl) (by kernel_rfl) (by kernel_rfl) rfl (qp_then qp_bp) (fun _ h => (h.sort (by repeat constructor)).fewer (Hp.Le.refl _)) ?hh3 ?kk3
   case hh3 =>
    refine o_loadA trivial rfl Tryz.isAgg143 Tryz.sizeOf143 rfl (by repeat constructor) (by repeat constructor) ?_
    refine o_nil ?_
    exact ⟨fun _ _ ha _ => ha⟩
   refine' h_take (i := 3) #[true, true, false, true, false, false, false, false, false, false, false, false, false, false, false, false, false, false, false] rfl rfl rfl (by kernel_rfl) (by kernel_rfl) (by kernel_rfl) rfl (qp_then qp_bp) (fun _ h => (h.sort (by repeat constructor)).fewer (Hp.Le.refl _)) ?hh4 ?kk4
   case hh4 =>
    refine o_fieldAddr (T := 143) (off := 0) trivial rfl Tryz.underlying145 rfl rfl rfl Tryz.sizeOf143 rfl rfl ?_
    refine o_nil ?_
    exact ⟨fun _ _ ha _ => ha⟩
   refine' h_take (i := 4) #[true, true, false, true, true, false, false, false, false, false, false, false, false, false, false, false, false, false, false] rfl rfl rfl (by kernel_rfl) (by kernel_rfl) (by kernel_rfl) rfl (qp_then qp_bp) (fun _ h => (h.sort (by repeat constructor)).fewer (Hp.Le.refl _)) ?hh5 ?kk5
   case hh5 =>
    refine o_loadA trivial rfl Tryz.isAgg143 Tryz.sizeOf143 rfl (by repeat constructor) (by repeat constructor) ?_
    refine o_nil ?_
    exact ⟨fun _ _ ha _ => ha⟩
   refine' h_take (i := 7) #[true, true, false, true, true, false, false, true, false, false, false, false, false, false, false, false, false, false, false] rfl rfl rfl (by kernel_rfl) (by kernel_rfl) (by kernel_rfl) rfl (qp_then qp_bp) (fun _ h => (h.sort (by repeat constructor)).fewer (Hp.Le.refl _)) ?hh6 ?kk6
   case hh6 =>
    refine o_fieldAddr (T := 143) (off := 0) trivial rfl Tryz.underlying145 rfl rfl rfl Tryz.sizeOf143 rfl rfl ?_
    refine o_nil ?_
    exact ⟨fun _ _ ha _ => ha⟩
   refine' h_take (i := 8) #[true, true, false, true, true, false, false, true, true, false, false, false, false, false, false, false, false, false, false] rfl rfl rfl (by kernel_rfl) (by kernel_rfl) (by kernel_rfl) rfl (qp_then qp_bp) (fun _ h => (h.sort (by repeat constructor)).fewer (Hp.Le.refl _)) ?hh7 ?kk7
   case hh7 =>
    refine o_loadA trivial rfl Tryz.isAgg143 Tryz.sizeOf143 rfl (by repeat constructor) (by repeat constructor) ?_
    refine o_nil ?_
    exact ⟨fun _ _ ha _ => ha⟩
   refine' h_take (i := 10) #[true, true, false, true, true, false, false, true, true, false, true, false, false, false, false, false, false, false, false] rfl rfl rfl (by kernel_rfl) (by kernel_rfl) (by kernel_rfl) rfl (qp_then qp_bp) (fun _ h => (h.sort (by repeat constructor)).fewer (Hp.Le.refl _)) ?hh8 ?kk8
   case hh8 =>
    refine o_fieldAddr (T := 143) (off := 0) trivial rfl Tryz.underlying145 rfl rfl rfl Tryz.sizeOf143 rfl rfl ?_
    refine o_nil ?_
    exact ⟨fun _ _ ha _ => ha⟩
   refine' h_take (i := 11) #[true, true, false, true, true, false, false, true, true, false, true, true, false, false, false, false, false, false, false] rfl rfl rfl (by kernel_rfl) (by kernel_rfl) (by kernel_rfl) rfl (qp_then qp_bp) (fun _ h => (h.sort (by repeat constructor)).fewer (Hp.Le.refl _)) ?hh9 ?kk9
   case hh9 =>
    refine o_loadA trivial rfl Tryz.isAgg143 Tryz.sizeOf143 rfl (by repeat constructor) (by repeat constructor) ?_
    refine o_nil ?_
    exact ⟨fun _ _ ha _ => ha⟩
   refine h_go [2] (by kernel_rfl) rfl (TWHs.cons ?_ TWHs.nil)
   refine h_op #[true, true, true, true, true, false, false, true, true, false, true, true, false, false, false, false, false, false, false] rfl rfl ?_
   refine o_callQ trivial rfl Tryz.call106 rfl (above_any p _ _ hn1 hd1) ?_
   refine o_nil ?_
   refine h_next (fun _ h => (h.sort (by repeat constructor)).fewer (Hp.Le.refl _)) ?_
   refine h_go [5] (by kernel_rfl) rfl (TWHs.cons ?_ TWHs.nil)
   refine h_op #[true, true, true, true, true, true, false, true, true, false, true, true, false, false, false, false, false, false, false] rfl rfl ?_
   refine o_callQ trivial rfl Tryz.call107 rfl (below_any q _ _ hn2 hd2) ?_
   refine o_nil ?_
   refine h_next (fun _ h => (h.sort (by repeat constructor)).fewer (Hp.Le.refl _)) ?_
   refine h_go [6] (by kernel_rfl) rfl (TWHs.cons ?_ TWHs.nil)
   refine h_op #[true, true, true, true, true, true, true, true, true, false, true, true, false, false, false, false, false, false, false] rfl rfl ?_
   refine o_callI trivial rfl Tryz.call105 rfl (wMul_any _ _ p.num (q.den : Int) hn1 hd2 (by omega) (by rw [Int.natAbs_natCast]; omega)) ?_
   rintro _ I3 hx3 ⟨u3, rfl, hs3⟩
   refine o_nil ?_
   refine h_next (fun _ h => (h.sort (by repeat constructor)).fewer (hx3.le)) ?_
   refine h_go [9] (by kernel_rfl) rfl (TWHs.cons ?_ TWHs.nil)
   refine h_op #[true, true, true, true, true, true, true, true, true, true, true, true, false, false, false, false, false, false, false] rfl rfl ?_
   refine o_callQ trivial rfl Tryz.call107 rfl (below_any p _ _ (hn1.le hx3.le) (hd1.le hx3.le)) ?_
   refine o_nil ?_
   refine h_next (fun _ h => (h.sort (by repeat constructor)).fewer (hx3.le)) ?_
   refine h_go [12] (by kernel_rfl) rfl (TWHs.cons ?_ TWHs.nil)
   refine h_op #[true, true, true, true, true, true, true, true, true, true, true, true, true, false, false, false, false, false, false] rfl rfl ?_
   refine o_callQ trivial rfl Tryz.call106 rfl (above_any q _ _ (hn2.le hx3.le) (hd2.le hx3.le)) ?_
   refine o_nil ?_
   refine h_next (fun _ h => (h.sort (by repeat constructor)).fewer (hx3.le)) ?_
   refine h_go [13] (by kernel_rfl) rfl (TWHs.cons ?_ TWHs.nil)
   refine h_op #[true, true, true, true, true, true, true, true, true, true, true, true, true, true, false, false, false, false, false] rfl rfl ?_
   refine o_callI trivial rfl Tryz.call105 rfl (wMul_any _ _ (p.den : Int) q.num (hd1.le hx3.le) (hn2.le hx3.le) (by rw [Int.natAbs_natCast]; omega) (by omega)) ?_
   rintro _ I4 hx4 ⟨u4, rfl, hs4⟩
   refine o_nil ?_
   refine h_next (fun _ h => (h.sort (by repeat constructor)).fewer ((hx3.le).trans hx4.le)) ?_
   refine h_go [14] (by kernel_rfl) rfl (TWHs.cons ?_ TWHs.nil)
   refine h_op #[true, true, true, true, true, true, true, true, true, true, true, true, true, true, true, false, false, false, false] rfl rfl ?_
   refine o_callI trivial rfl Tryz.call109 rfl (qMake_any (p.num * (q.den : Int)) ((p.den : Int) * q.num) _ _ (hs3.le hx4.le) hs4 (by rw [Int.natAbs_mul]; exact Nat.le_trans (natW_mul_len _ _) (by rw [Int.natAbs_natCast]; omega)) (by rw [Int.natAbs_mul]; exact Nat.le_trans (natW_mul_len _ _) (by rw [Int.natAbs_natCast]; omega))) ?_
   rintro _ I5 hx5 ⟨s5, u5, u6, X5, X6, rfl, hs5, hs6, hs7⟩
   refine o_nil ?_
   refine h_next (fun _ h => (h.sort (by repeat constructor)).fewer (((hx3.le).trans hx4.le).trans hx5.le)) ?_
   refine' h_take (i := 15) #[true, true, true, true, true, true, true, true, true, true, true, true, true, true, true, true, false, false, false] rfl rfl rfl (by kernel_rfl) (by kernel_rfl) (by kernel_rfl) rfl (qp_then qp_bp) (fun _ h => (h.sort (by repeat constructor)).fewer (((hx3.le).trans hx4.le).trans hx5.le)) ?hh10 ?kk10
   case hh10 =>
    refine o_pv trivial rfl rfl ?_
    refine o_nil ?_
    exact ⟨fun _ _ ha _ => ha⟩
   refine' h_take (i := 16) #[true, true, true, true, true, true, true, true, true, true, true, true, true, true, true, true, true, false, false] rfl rfl rfl (by kernel_rfl) (by kernel_rfl) (by kernel_rfl) rfl (qp_then qp_bp) (fun _ h => (h.sort (by repeat constructor)).fewer (((hx3.le).trans hx4.le).trans hx5.le)) ?hh11 ?kk11
   case hh11 =>
    refine o_pv trivial rfl rfl ?_
    refine o_nil ?_
    exact ⟨fun _ _ ha _ => ha⟩
   refine h_go [17] (by kernel_rfl) rfl (TWHs.cons ?_ TWHs.nil)
   refine h_op #[true, true, true, true, true, true, true, true, true, true, true, true, true, true, true, true, true, true, false] rfl rfl ?_
   refine o_store trivial rfl rfl rfl Tryz.sizeOf33 rfl (by first | rfl | (repeat' (first | exact rfl | exact one_nil | refine one_cons ?_ ?_ | exact (Ws.cells1 (by assumption)).2 | exact (Slc.cells1 (by assumption)).2))) (by repeat constructor) (by repeat constructor) ?_
   refine o_nil ?_
   refine h_next (fun _ h => (h.sort (by repeat constructor)).fewer (((hx3.le).trans hx4.le).trans hx5.le)) ?_
   refine' h_take (i := 18) #[true, true, true, true, true, true, true, true, true, true, true, true, true, true, true, true, true, true, true] rfl rfl rfl (by kernel_rfl) (by kernel_rfl) (by kernel_rfl) rfl (qp_then qp_bp) (fun _ h => (h.sort (by repeat constructor)).fewer (((hx3.le).trans hx4.le).trans hx5.le)) ?hh12 ?kk12
   case hh12 =>
    refine o_pv trivial rfl rfl ?_
    refine o_nil ?_
    exact ⟨fun _ _ ha _ => ha⟩
   refine h_end (by kernel_rfl) ?_
   refine then_c (c_ret ?_)
   refine retR rfl (.agg Tryz.isAgg33 Tryz.sizeOf33 rfl (by repeat constructor) rfl (.tmp rfl .nil)) ?_
   refine leaf (hx2.trans (hx3.trans (hx4.trans hx5 (Nat.le_refl _)) (Nat.le_refl _)) (Nat.le_refl _)) (List.nil_sublist _) ⟨s5, u5, u6, X5, X6, ?_, hs5, hs6, fun h => ?_⟩
   · by_cases h : q = 0
     · rw [if_pos h, if_pos ((den_num_zero p q).2 h)]; rfl
     · rw [if_neg h, if_neg (fun e => h ((den_num_zero p q).1 e))]; rfl
   · have h8 := hs7 (fun e => h ((den_num_zero p q).1 e))
     rw [lowQ_divInt, div_parts] at h8
     exact h8
theorem odd_tmod (n : Int) : (Int.tmod n 2 != 0) = decide (n.natAbs % 2 ≠ 0) := by
  rw [Bool.eq_iff_iff, decide_eq_true_eq, bne_iff_ne]
  rcases (by omega : 0 ≤ n ∨ n < 0) with h | h
  · rw [Int.tmod_eq_emod_of_nonneg h]; omega
  · have e : Int.tmod n 2 = -((-n) % 2) := by
      have := Int.neg_tmod (-n) 2
      rw [Int.neg_neg] at this
      rw [this, Int.tmod_eq_emod_of_nonneg (by omega)]
    rw [e]; omega
theorem pow_few {a k m : Nat} (h : a < 4294967296 ^ k) : (natW (a ^ m)).length ≤ k * m + 1 := by
  refine natW_len_le ?_
  have h2 : a ^ m ≤ (4294967296 ^ k) ^ m := Nat.pow_le_pow_left (Nat.le_of_lt h) m
  rw [← Nat.pow_mul] at h2
  exact Nat.lt_of_le_of_lt h2 (Nat.pow_lt_pow_right (by decide) (Nat.lt_succ_self _))
theorem qPow_any (q : Rat) (n : Int) (va vb : Value) {I : Hp} {c : Nat} (ha : Ws I va (natW q.num.natAbs)) (hb : Ws I vb (natW q.den)) (hc : Few c q) (hc1 : c ≤ 4096) (hn : -64 ≤ n ∧ n ≤ 64) (hcn : c * n.natAbs ≤ 4096) : Fun Tryz.prog 78 [.agg #[.bool (decide (q.num < 0)), va, vb], .int .i64 n] I [] (fun v I' _ => okR (n < 0 ∧ q = 0) (q ^ n) I' v) := by
  have hl1 := natW_few hc.num (Nat.le_refl _)
  have hl2 := natW_few hc.den (Nat.le_refl _)
  have hm1 : (natW q.num.natAbs).length * n.natAbs ≤ 4096 := Nat.le_trans (Nat.mul_le_mul_right _ hl1) hcn
  have hm2 : (natW q.den).length * n.natAbs ≤ 4096 := Nat.le_trans (Nat.mul_le_mul_right _ hl2) hcn
  have hp1 := pow_few (m := n.natAbs) hc.num
  have hp2 := pow_few (m := n.natAbs) hc.den
  have hmax : max n (IntKind.i64.wrap (0 - n)) = ((n.natAbs : Nat) : Int) := by rw [IntWalk.i64_in _ (by omega)]; omega
  intro w hw
  refine enter2 _ Tryz.func78 rfl Tryz.ntmps78 rfl ?_ hw
  refine c_seq (c_region ?_)
  refine o_box trivial rfl rfl rfl (fun b2 => ?_)
  refine o_alloc trivial rfl Tryz.zeroValue33 rfl (fun b4 => ?_)
  refine o_pv trivial rfl rfl ?_
  refine o_nil (then_c (c_seq (c_region ?_)))
  refine o_loadA trivial rfl Tryz.isAgg33 Tryz.sizeOf33 rfl (by repeat constructor) (by repeat constructor) ?_
  refine o_callI trivial rfl Tryz.call103 rfl (qof_any q _ _ ha hb (hc.le (by omega))) ?_
  rintro _ I1 hx1 ⟨n1, d1, rfl, hn1, hd1⟩
  refine o_alloc trivial rfl Tryz.zeroValue145 rfl (fun b6 => ?_)
  refine o_store trivial rfl rfl rfl Tryz.sizeOf145 rfl (by first | rfl | (repeat' (first | exact rfl | exact one_nil | refine one_cons ?_ ?_ | exact (Ws.cells1 (by assumption)).2 | exact (Slc.cells1 (by assumption)).2))) (by repeat constructor) (by repeat constructor) ?_
  refine o_nil (then_c (c_seq (c_block (c_seq (c_region ?_)))))
  iterate 2 refine o_pv trivial rfl rfl ?_
  refine' o_or trivial trivial rfl rfl rfl rfl rfl rfl rfl rfl (fun hb17 => ?_) ?_
  rotate_left
  ·
   iterate 2 refine o_pv (wants_some rfl rfl hb17) rfl rfl ?_
   refine o_nil ?_
   exact joins rfl
  refine o_pv trivial rfl rfl ?_
  refine o_nil (then_c ?_)
  refine c_cond rfl (fun h1 => ?_) (fun h1 => ?_)
  ·
   have f1 := h1
   try simp only [bl] at f1
   exfalso; omega
  ·
   have f1 := h1
   try simp only [bl] at f1
   refine c_seq (c_region ?_)
   iterate 2 refine o_pv trivial rfl rfl ?_
   refine' o_and trivial trivial rfl rfl rfl rfl rfl rfl rfl rfl (fun hb25 => ?_) ?_
   rotate_left
   ·
    have fb25 := hb25
    try simp only [bl] at fb25
    refine o_fieldAddr (T := 143) (off := 0) (wants_some rfl rfl hb25) rfl Tryz.underlying145 rfl rfl rfl Tryz.sizeOf143 rfl rfl ?_
    refine o_fieldAddr (T := 33) (off := 0) (wants_some rfl rfl hb25) rfl Tryz.underlying143 rfl rfl rfl Tryz.sizeOf33 rfl rfl ?_
    refine o_fieldAddr (T := 31) (off := 1) (wants_some rfl rfl hb25) rfl Tryz.underlying33 rfl rfl rfl Tryz.sizeOf31 rfl rfl ?_
    refine o_load1 (wants_some rfl rfl hb25) rfl Tryz.isAgg31 rfl (by repeat constructor) (by repeat constructor) ?_
    refine o_lenW (wants_some rfl rfl hb25) rfl Tryz.underlying31 rfl (hn1) ?_
    refine o_pv (wants_some rfl rfl hb25) rfl rfl ?_
    refine o_nil ?_
    exact joins rfl
   refine o_pv trivial rfl rfl ?_
   refine o_nil (then_c ?_)
   refine c_cond rfl (fun h2 => ?_) (fun h2 => ?_)
   ·
    have f2 := h2
    try simp only [bl] at f2
    have h0 : n < 0 ∧ q = 0 := ⟨f2.1, by rw [rat_zero]; have := natW_len_zero.1 (show (natW q.num.natAbs).length = 0 by omega); omega⟩
    refine c_seq (c_region ?_)
    refine o_buildS trivial rfl (bld33) rfl .nil ?_
    refine o_store trivial rfl rfl rfl Tryz.sizeOf33 rfl (by first | rfl | (repeat' (first | exact rfl | exact one_nil | refine one_cons ?_ ?_ | exact (Ws.cells1 (by assumption)).2 | exact (Slc.cells1 (by assumption)).2))) (by repeat constructor) (by repeat constructor) ?_
    refine o_pv trivial rfl rfl ?_
    refine o_nil (then_c (c_ret (blk_r (then_r ?_))))
    refine retR rfl (.agg Tryz.isAgg33 Tryz.sizeOf33 rfl (by repeat constructor) rfl (.tmp rfl .nil)) ?_
    refine leaf hx1 (List.nil_sublist _) ⟨false, .slice none 0 0, .slice none 0 0, [], [], ?_, Ws.nil _, Ws.nil _, fun h => absurd h0 h⟩; rw [if_pos h0]; rfl
   ·
    have f2 := h2
    try simp only [bl] at f2
    have h0 : ¬ (n < 0 ∧ q = 0) := fun h => by
      have e : q.num = 0 := (rat_zero q).1 h.2
      have e2 : (natW q.num.natAbs).length = 0 := by rw [e, Int.natAbs_zero, natW_zero]; rfl
      rcases f2 with f2 | f2 <;> omega
    refine c_skip (blk_n (then_c (c_seq (c_region ?_))))
    refine o_fieldAddr (T := 143) (off := 0) trivial rfl Tryz.underlying145 rfl rfl rfl Tryz.sizeOf143 rfl rfl ?_
    refine o_fieldAddr (T := 33) (off := 0) trivial rfl Tryz.underlying143 rfl rfl rfl Tryz.sizeOf33 rfl rfl ?_
    refine o_fieldAddr (T := 31) (off := 1) trivial rfl Tryz.underlying33 rfl rfl rfl Tryz.sizeOf31 rfl rfl ?_
    refine o_load1 trivial rfl Tryz.isAgg31 rfl (by repeat constructor) (by repeat constructor) ?_
    iterate 3 refine o_pv trivial rfl rfl ?_
    refine o_max2 trivial rfl rfl rfl ?_
    rw [hmax]
    refine o_callI trivial rfl Tryz.call110 rfl (pow_any _ _ n.natAbs hn1 (by omega) (by omega) hm1) ?_
    rintro _ I2 hx2 ⟨u2, rfl, hs2⟩
    iterate 5 refine o_pv trivial rfl rfl ?_
    refine o_nil (then_c (c_seq (c_region ?_)))
    refine o_fieldAddr (T := 143) (off := 0) trivial rfl Tryz.underlying145 rfl rfl rfl Tryz.sizeOf143 rfl rfl ?_
    refine o_fieldAddr (T := 33) (off := 0) trivial rfl Tryz.underlying143 rfl rfl rfl Tryz.sizeOf33 rfl rfl ?_
    refine o_fieldAddr (T := 31) (off := 2) trivial rfl Tryz.underlying33 rfl rfl rfl Tryz.sizeOf31 rfl rfl ?_
    refine o_load1 trivial rfl Tryz.isAgg31 rfl (by repeat constructor) (by repeat constructor) ?_
    iterate 3 refine o_pv trivial rfl rfl ?_
    refine o_max2 trivial rfl rfl rfl ?_
    rw [hmax]
    refine o_callI trivial rfl Tryz.call110 rfl (pow_any _ _ n.natAbs (hd1.le hx2.le) (by omega) (by omega) hm2) ?_
    rintro _ I3 hx3 ⟨u3, rfl, hs3⟩
    iterate 5 refine o_pv trivial rfl rfl ?_
    refine o_nil (then_c (c_seq (c_region ?_)))
    refine o_fieldAddr (T := 143) (off := 0) trivial rfl Tryz.underlying145 rfl rfl rfl Tryz.sizeOf143 rfl rfl ?_
    refine o_fieldAddr (T := 33) (off := 0) trivial rfl Tryz.underlying143 rfl rfl rfl Tryz.sizeOf33 rfl rfl ?_
    refine o_fieldAddr (T := 4) (off := 0) trivial rfl Tryz.underlying33 rfl rfl rfl Tryz.sizeOf4 rfl rfl ?_
    refine o_load1 trivial rfl Tryz.isAgg4 rfl (by repeat constructor) (by repeat constructor) ?_
    refine' o_and trivial trivial rfl rfl rfl rfl rfl rfl rfl rfl (fun hb62 => ?_) ?_
    rotate_left
    ·
     have fb62 := hb62
     try simp only [bl] at fb62
     refine o_pv (wants_some rfl rfl hb62) rfl rfl ?_
     refine o_remT (wants_some rfl rfl hb62) rfl rfl rfl (by decide) ?_
     refine o_pv (wants_some rfl rfl hb62) rfl rfl ?_
     refine o_nil ?_
     exact joins rfl
    refine o_pv trivial rfl rfl ?_
    refine o_nil (then_c (c_seq (c_seq ?_)))
    rw [val_natW] at hs2 hs3
    refine c_region ?_
    iterate 2 refine o_pv trivial rfl rfl ?_
    refine o_nil (then_c ?_)
    refine c_cond rfl (fun h3 => ?_) (fun h3 => ?_)
    ·
     have f3 := h3
     try simp only [bl] at f3
     refine c_seq (c_region ?_)
     iterate 3 refine o_pv trivial rfl rfl ?_
     refine o_callI trivial rfl Tryz.call50 rfl (qlowest_any (decide (q.num < 0) && (Int.tmod n 2 != 0)) _ _ _ _ hs3 (hs2.le hx3.le) (by omega) (by omega)) ?_
     rintro _ I4 hx4 ⟨u4, u5, rfl, h4, h5⟩
     refine o_store trivial rfl rfl rfl Tryz.sizeOf33 rfl (by first | rfl | (repeat' (first | exact rfl | exact one_nil | refine one_cons ?_ ?_ | exact (Ws.cells1 (by assumption)).2 | exact (Slc.cells1 (by assumption)).2))) (by repeat constructor) (by repeat constructor) ?_
     refine o_pv trivial rfl rfl ?_
     refine o_nil (then_c (c_ret (then_r ?_)))
     refine retR rfl (.agg Tryz.isAgg33 Tryz.sizeOf33 rfl (by repeat constructor) rfl (.tmp rfl .nil)) ?_
     rw [val_natW, val_natW, odd_tmod, lowQ_ipow] at h4 h5
     have e : q ^ n = (q ^ n.natAbs)⁻¹ := by
       have e1 : n = -((n.natAbs : Nat) : Int) := by omega
       conv => lhs; rw [e1]
       rw [Rat.zpow_neg, Rat.zpow_natCast]
     refine leaf (hx1.trans (hx2.trans (hx3.trans hx4 (Nat.le_refl _)) (Nat.le_refl _)) (Nat.le_refl _)) (List.nil_sublist _) ⟨_, u4, u5, _, _, ?_, h4, h5, fun _ => by rw [e]; exact ⟨rfl, rfl, rfl⟩⟩
     rw [val_natW, val_natW, odd_tmod, lowQ_ipow, if_neg h0]; rfl
    ·
     have f3 := h3
     try simp only [bl] at f3
     refine c_skip (then_c (c_seq (c_region ?_)))
     iterate 3 refine o_pv trivial rfl rfl ?_
     refine o_callI trivial rfl Tryz.call50 rfl (qlowest_any (decide (q.num < 0) && (Int.tmod n 2 != 0)) _ _ _ _ (hs2.le hx3.le) hs3 (by omega) (by omega)) ?_
     rintro _ I5 hx5 ⟨u6, u7, rfl, h6, h7⟩
     refine o_store trivial rfl rfl rfl Tryz.sizeOf33 rfl (by first | rfl | (repeat' (first | exact rfl | exact one_nil | refine one_cons ?_ ?_ | exact (Ws.cells1 (by assumption)).2 | exact (Slc.cells1 (by assumption)).2))) (by repeat constructor) (by repeat constructor) ?_
     refine o_pv trivial rfl rfl ?_
     refine o_nil (then_c (c_ret ?_))
     refine retR rfl (.agg Tryz.isAgg33 Tryz.sizeOf33 rfl (by repeat constructor) rfl (.tmp rfl .nil)) ?_
     rw [val_natW, val_natW, odd_tmod, lowQ_pow] at h6 h7
     have e : q ^ n = q ^ n.natAbs := by
       have e1 : n = ((n.natAbs : Nat) : Int) := by omega
       conv => lhs; rw [e1]
       rw [Rat.zpow_natCast]
     refine leaf (hx1.trans (hx2.trans (hx3.trans hx5 (Nat.le_refl _)) (Nat.le_refl _)) (Nat.le_refl _)) (List.nil_sublist _) ⟨_, u6, u7, _, _, ?_, h6, h7, fun _ => by rw [e]; exact ⟨rfl, rfl, rfl⟩⟩
     rw [val_natW, val_natW, odd_tmod, lowQ_pow, if_neg h0]; rfl
/-- Is a number in lowest terms? -/
def ratRight (neg : Bool) (A B : List Nat) : Bool := decide (neg = decide ((lowQ neg (val A) (val B)).num < 0)) && decide (A = natW (lowQ neg (val A) (val B)).num.natAbs) && decide (B = natW (lowQ neg (val A) (val B)).den)
theorem canon_iff {A : List Nat} (hA : Wds A) : lowL A = A.length ↔ A = natW (val A) := by
  constructor
  · intro h
    have := trim_eq hA
    rw [h, List.take_length] at this
    exact this
  · intro h
    rw [lowL_len hA, ← h]
theorem right_eq (neg : Bool) {A B : List Nat} (hA : Wds A) (hB : Wds B) : (decide (lowL A = A.length) && decide (lowL B = B.length) && decide ((val A).gcd (val B) = 1) && decide ((B.length : Int) > 0) && !(neg && (A.length : Int) == 0)) = ratRight neg A B := by
  unfold ratRight
  rw [Bool.eq_iff_iff]
  simp only [Bool.and_eq_true, decide_eq_true_eq, Bool.not_eq_true', Bool.and_eq_false_iff, beq_eq_false_iff_ne, ne_eq, canon_iff hA, canon_iff hB]
  constructor
  · rintro ⟨⟨⟨⟨h1, h2⟩, h3⟩, h4⟩, h5⟩
    have hb : val B ≠ 0 := fun e => by rw [e, natW_zero] at h2; rw [h2] at h4; simp at h4
    by_cases ha : val A = 0
    · rw [lowQ_zero (.inr ha)]
      rw [ha, Nat.gcd_zero_left] at h3
      rw [ha, natW_zero] at h1
      rw [h3] at h2
      refine ⟨⟨?_, ?_⟩, h2⟩
      · have : neg = false := by
          rcases h5 with h5 | h5
          · exact h5
          · rw [h1] at h5; simp at h5
        rw [this]; rfl
      · rw [h1]; exact natW_zero.symm
    · obtain ⟨e1, e2, e3⟩ := lowQ_parts (neg := neg) ha hb
      rw [h3, Nat.div_one] at e1 e2
      exact ⟨⟨e3.symm, by rw [e1]; exact h1⟩, by rw [e2]; exact h2⟩
  · rintro ⟨⟨h1, h2⟩, h3⟩
    generalize lowQ neg (val A) (val B) = q at h1 h2 h3
    have e1 : val A = q.num.natAbs := by rw [h2, val_natW]
    have e2 : val B = q.den := by rw [h3, val_natW]
    refine ⟨⟨⟨⟨by rw [e1]; exact h2, by rw [e2]; exact h3⟩, ?_⟩, ?_⟩, ?_⟩
    · rw [e1, e2]; exact q.reduced
    · have : B.length ≠ 0 := fun e => by
        rw [h3] at e
        exact q.den_nz (natW_len_zero.1 e)
      omega
    · by_cases hn : q.num < 0
      · right
        intro e
        have e4 : (natW q.num.natAbs).length = 0 := by rw [← h2]; omega
        have := natW_len_zero.1 e4
        omega
      · left; rw [h1, decide_eq_false hn]
theorem ratRight_any (neg : Bool) (va vb : Value) (A B : List Nat) {I : Hp} (ha : Ws I va A) (hb : Ws I vb B) (hs : A.length ≤ 400000) (hs2 : B.length ≤ 400000) : Fun Tryz.prog 132 [.agg #[.bool neg, va, vb]] I [] (fun v _ _ => v = .bool (ratRight neg A B)) := by
  intro w hw
  refine enter1 _ Tryz.func132 rfl Tryz.ntmps132 rfl ?_ hw
  refine c_seq (c_region ?_)
  refine o_box trivial rfl rfl rfl (fun b1 => ?_)
  refine o_pv trivial rfl rfl ?_
  refine o_nil (then_c (c_seq (c_region ?_)))
  refine o_fieldAddr (T := 31) (off := 1) trivial rfl Tryz.underlying33 rfl rfl rfl Tryz.sizeOf31 rfl rfl ?_
  refine o_load1 trivial rfl Tryz.isAgg31 rfl (by repeat constructor) (by repeat constructor) ?_
  refine o_callQ trivial rfl Tryz.call153 rfl (natRight_any _ _ ha (by omega)) ?_
  refine' o_and trivial trivial rfl rfl rfl rfl rfl rfl rfl rfl (fun hb6 => ?_) ?_
  rotate_left
  ·
   have fb6 := hb6
   try simp only [bl] at fb6
   refine o_fieldAddr (T := 31) (off := 2) (wants_some rfl rfl hb6) rfl Tryz.underlying33 rfl rfl rfl Tryz.sizeOf31 rfl rfl ?_
   refine o_load1 (wants_some rfl rfl hb6) rfl Tryz.isAgg31 rfl (by repeat constructor) (by repeat constructor) ?_
   refine o_callQ (wants_some rfl rfl hb6) rfl Tryz.call153 rfl (natRight_any _ _ hb (by omega)) ?_
   refine o_nil ?_
   exact joins rfl
  refine' o_and trivial trivial rfl rfl rfl rfl rfl rfl rfl rfl (fun hb11 => ?_) ?_
  rotate_left
  ·
   have fb11 := hb11
   try simp only [bl] at fb11
   refine o_fieldAddr (T := 31) (off := 1) (wants_some rfl rfl hb11) rfl Tryz.underlying33 rfl rfl rfl Tryz.sizeOf31 rfl rfl ?_
   refine o_load1 (wants_some rfl rfl hb11) rfl Tryz.isAgg31 rfl (by repeat constructor) (by repeat constructor) ?_
   refine o_fieldAddr (T := 31) (off := 2) (wants_some rfl rfl hb11) rfl Tryz.underlying33 rfl rfl rfl Tryz.sizeOf31 rfl rfl ?_
   refine o_load1 (wants_some rfl rfl hb11) rfl Tryz.isAgg31 rfl (by repeat constructor) (by repeat constructor) ?_
   refine o_callQ (wants_some rfl rfl hb11) rfl Tryz.call154 rfl (apart_any _ _ _ _ ha hb hs hs2) ?_
   refine o_nil ?_
   exact joins rfl
  refine' o_and trivial trivial rfl rfl rfl rfl rfl rfl rfl rfl (fun hb18 => ?_) ?_
  rotate_left
  ·
   have fb18 := hb18
   try simp only [bl] at fb18
   refine o_fieldAddr (T := 31) (off := 2) (wants_some rfl rfl hb18) rfl Tryz.underlying33 rfl rfl rfl Tryz.sizeOf31 rfl rfl ?_
   refine o_load1 (wants_some rfl rfl hb18) rfl Tryz.isAgg31 rfl (by repeat constructor) (by repeat constructor) ?_
   refine o_lenW (wants_some rfl rfl hb18) rfl Tryz.underlying31 rfl (hb) ?_
   refine o_pv (wants_some rfl rfl hb18) rfl rfl ?_
   refine o_nil ?_
   exact joins rfl
  refine' o_and trivial trivial rfl rfl rfl rfl rfl rfl rfl rfl (fun hb24 => ?_) ?_
  rotate_left
  ·
   have fb24 := hb24
   try simp only [bl] at fb24
   refine o_fieldAddr (T := 4) (off := 0) (wants_some rfl rfl hb24) rfl Tryz.underlying33 rfl rfl rfl Tryz.sizeOf4 rfl rfl ?_
   refine o_load1 (wants_some rfl rfl hb24) rfl Tryz.isAgg4 rfl (by repeat constructor) (by repeat constructor) ?_
   refine' o_and (wants_some rfl rfl hb24) (wants_some rfl rfl hb24) rfl rfl rfl rfl rfl rfl rfl rfl (fun hb27 => ?_) ?_
   rotate_left
   ·
    have fb27 := hb27
    try simp only [bl] at fb27
    refine o_fieldAddr (T := 31) (off := 1) (wants_some rfl rfl hb27) rfl Tryz.underlying33 rfl rfl rfl Tryz.sizeOf31 rfl rfl ?_
    refine o_load1 (wants_some rfl rfl hb27) rfl Tryz.isAgg31 rfl (by repeat constructor) (by repeat constructor) ?_
    refine o_lenW (wants_some rfl rfl hb27) rfl Tryz.underlying31 rfl (ha) ?_
    refine o_pv (wants_some rfl rfl hb27) rfl rfl ?_
    refine o_nil ?_
    exact joins rfl
   refine o_pv (wants_some rfl rfl hb24) rfl rfl ?_
   refine o_nil ?_
   exact joins rfl
  refine o_pv trivial rfl rfl ?_
  refine o_nil (then_c (c_ret ?_))
  refine ret1 rfl rfl ?_
  refine leaf0 (congrArg Value.bool ?_); exact right_eq neg ha.wds hb.wds
end Go.Proofs.YtjgbjaaekknenaaGreat
/-
  Layer 6 of the program: a nat's decimal digits. slices.Reverse of a row of bytes.
-/
namespace Go.Tw
open Go
set_option linter.unusedVariables false
set_option linter.unusedSimpArgs false
set_option linter.unnecessarySimpa false
set_option maxHeartbeats 1000000
/-- Digits, the lowest one first. -/
def digs (n : Nat) : List Nat := if h : n < 10 then [48 + n] else (48 + n % 10) :: digs (n / 10)
termination_by n
decreasing_by omega
def digRest (m : Nat) (out : List Nat) : List Nat := if m = 0 ∧ out ≠ [] then [] else digs m
theorem digs_step {m : Nat} (out : List Nat) (h : 0 < m ∨ out = []) : digRest m out = (48 + m % 10) :: digRest (m / 10) (out ++ [48 + m % 10]) := by
  have e1 : digRest m out = digs m := by
    unfold digRest
    rw [if_neg]
    rintro ⟨h1, h2⟩
    rcases h with h | h
    · omega
    · exact h2 h
  rw [e1, digs]
  unfold digRest
  by_cases h1 : m < 10
  · rw [dif_pos h1, if_pos ⟨by omega, by simp⟩, Nat.mod_eq_of_lt h1]
  · rw [dif_neg h1, if_neg (fun e => absurd e.1 (by omega))]
theorem digs_byte : ∀ (n : Nat), ∀ x ∈ digs n, 48 ≤ x ∧ x ≤ 57 := by
  intro n
  induction n using Nat.strongRecOn with
  | _ n ih =>
    rw [digs]
    split
    · intro x hx; simp at hx; omega
    · intro x hx
      rcases List.mem_cons.1 hx with rfl | hx
      · omega
      · exact ih (n / 10) (by omega) x hx
theorem digs_len : ∀ (k n : Nat), n < 2 ^ k → (digs n).length ≤ k + 1
  | 0, n, h => by rw [digs, dif_pos (by omega)]; simp
  | k + 1, n, h => by
    rw [digs]
    split
    · simp
    · have := digs_len k (n / 10) (by rw [Nat.pow_succ] at h; omega)
      simp only [List.length_cons]; omega
theorem digs_pos (n : Nat) : 0 < (digs n).length := by
  rw [digs]; split <;> simp
theorem digs_words {l : List Nat} (hl : Wds l) {k : Nat} (h : l.length ≤ k) : (digs (val l)).length ≤ 32 * k + 1 := digs_len _ _ (by
  have := val_lt hl
  have h2 : 4294967296 ^ l.length ≤ 4294967296 ^ k := Nat.pow_le_pow_right (by decide) h
  rw [show 2 ^ (32 * k) = 4294967296 ^ k by rw [Nat.pow_mul]]
  omega)
/-- A nat's text. -/
def decL (n : Nat) : List Int := (digs n).reverse.map Int.ofNat
def decS (n : Nat) : ByteArray := strOf (decL n)
theorem decS_size (n : Nat) : (decS n).size = (digs n).length := by unfold decS decL; rw [strOf_size]; simp
/-- The ends of a list are turned, so many. -/
def revd (xs : List Int) (i : Nat) : List Int := (List.range xs.length).map fun k => if k < i ∨ xs.length ≤ k + i then xs.getD (xs.length - 1 - k) 0 else xs.getD k 0
theorem revd_len (xs : List Int) (i : Nat) : (revd xs i).length = xs.length := by simp [revd]
theorem revd_get (xs : List Int) (i k : Nat) (hk : k < xs.length) : (revd xs i)[k]? = some (if k < i ∨ xs.length ≤ k + i then xs.getD (xs.length - 1 - k) 0 else xs.getD k 0) := by
  unfold revd
  rw [List.getElem?_map, List.getElem?_range hk]; rfl
theorem revd_zero (xs : List Int) : revd xs 0 = xs := by
  refine List.ext_getElem? fun k => ?_
  by_cases hk : k < xs.length
  · rw [revd_get _ _ _ hk, if_neg (by omega), List.getD_eq_getElem?_getD, List.getElem?_eq_getElem hk]; rfl
  · rw [List.getElem?_eq_none (by rw [revd_len]; omega), List.getElem?_eq_none (by omega)]
theorem revd_all (xs : List Int) (i : Nat) (h : xs.length ≤ 2 * i + 1) : revd xs i = xs.reverse := by
  refine List.ext_getElem? fun k => ?_
  by_cases hk : k < xs.length
  · rw [revd_get _ _ _ hk, List.getElem?_reverse hk]
    by_cases h2 : k < i ∨ xs.length ≤ k + i
    · rw [if_pos h2, List.getD_eq_getElem?_getD, List.getElem?_eq_getElem (by omega : xs.length - 1 - k < xs.length)]; rfl
    · rw [if_neg h2, show xs.length - 1 - k = k by omega, List.getD_eq_getElem?_getD, List.getElem?_eq_getElem hk]; rfl
  · rw [List.getElem?_eq_none (by rw [revd_len]; omega), List.getElem?_eq_none (by simp; omega)]
theorem revd_step (xs : List Int) (i : Nat) (h : 2 * i + 1 < xs.length) : ((revd xs i).set i (xs.getD (xs.length - 1 - i) 0)).set (xs.length - 1 - i) (xs.getD i 0) = revd xs (i + 1) := by
  refine List.ext_getElem? fun k => ?_
  by_cases hk : k < xs.length
  · rw [List.getElem?_set, List.getElem?_set, revd_get _ _ _ hk, revd_get _ _ _ hk, List.length_set, revd_len]
    by_cases h1 : xs.length - 1 - i = k
    · rw [if_pos h1, if_pos (by omega), if_pos (by omega)]
      rw [show xs.length - 1 - k = i by omega]
    · rw [if_neg h1]
      by_cases h2 : i = k
      · subst h2
        rw [if_pos rfl, if_pos hk, if_pos (by omega)]
      · rw [if_neg h2]
        by_cases h3 : k < i ∨ xs.length ≤ k + i
        · rw [if_pos h3, if_pos (by omega)]
        · rw [if_neg h3, if_neg (by omega)]
  · rw [List.getElem?_eq_none (by simp [revd_len]; omega), List.getElem?_eq_none (by rw [revd_len]; omega)]
section
variable {P : Program} {n : Nat} {D : List Deferred} {E : Env} {Q : Exit → Act → World → Prop} {w0 : World} {X : List Nat} {I : Hp} {B : List Item}
/-- Where a row of our own that is not empty stands. -/
theorem c_rowForm {c : Code} {e : TypeId} {size nn : Nat} {u : Value} {xs : List Value} (hp : 0 < nn)
    (k : ∀ b cap, u = .slice (some ⟨b, 0, none⟩) nn cap → TC P c Q n D E (St w0 X I (.row u e size nn xs :: B))) : TC P c Q n D E (St w0 X I (.row u e size nn xs :: B)) := ⟨fun a w ha hw => by
  obtain ⟨cap, hv⟩ := row_form (hw.own _ List.mem_cons_self) hp
  exact (k _ cap hv).out a w ha hw⟩
end
end Go.Tw
namespace Go.Proofs.YtjgbjaaekknenaaGreat
open Go Go.Tw
set_option linter.unusedVariables false
set_option linter.unusedSimpArgs false
set_option linter.unnecessarySimpa false
set_option maxHeartbeats 1000000
theorem reverse_any (b nn cap : Nat) (xs : List Int) {I : Hp} (hx : xs.length = nn) (hp : 0 < nn) (hm : nn ≤ 1000000000) : Fun Tryz.prog 164 [.slice (some ⟨b, 0, none⟩) nn cap] I [.row (.slice (some ⟨b, 0, none⟩) nn cap) 5 1 nn (xs.map (Value.int .u8))] (fun _ I' B' => I = I' ∧ B' = [.row (.slice (some ⟨b, 0, none⟩) nn cap) 5 1 nn (xs.reverse.map (Value.int .u8))]) := by
  intro w hw
  refine enter1 _ Tryz.func164 rfl Tryz.ntmps164 rfl ?_ hw
  refine c_seq (c_region ?_)
  refine o_pv trivial rfl rfl ?_
  refine o_lenL trivial rfl Tryz.underlying22 rfl ?_
  first | (refine o_sub trivial rfl rfl rfl ?_ ?_; (omega)) | refine o_pv trivial rfl rfl ?_
  iterate 2 refine o_pv trivial rfl rfl ?_
  refine o_nil (then_c (c_block ?_))
  refine c_loop (ι := Nat × Int) [0] (.cons rfl .nil) (fun x => nn - x.1) (fun x E0 => (2, .int .i64 (x.1 : Int)) :: (3, .int .i64 x.2) :: E0) (fun x => St w _ I [.row (.slice (some ⟨b, 0, none⟩) nn cap) 5 1 nn ((revd xs x.1).map (Value.int .u8))]) (fun x => 2 * x.1 ≤ nn + 1 ∧ x.2 = (nn : Int) - 1 - (x.1 : Int)) ((0, (nn : Int) - 1)) (sub_cons rfl (sub_cons rfl (sub_cons rfl sub_nil))) (fun _ h => by rw [revd_zero]; exact h) (⟨Nat.zero_le _, by simp⟩) ?_
  rintro ⟨i, j⟩ ⟨hle, hj⟩
  try dsimp only
  simp only at hle hj; subst hj
  refine c_seq (c_seq (c_region ?_))
  iterate 3 refine o_pv trivial rfl rfl ?_
  refine o_nil (then_c ?_)
  refine c_cond rfl (fun h1 => ?_) (fun h1 => ?_)
  ·
   have f1 := h1
   try simp only [bl] at f1
   have g1 : ((revd xs i).map (Value.int .u8))[i]? = some (.int .u8 (xs.getD i 0)) := by rw [List.getElem?_map, revd_get _ _ _ (by omega), if_neg (by omega)]; rfl
   have g2 : ((revd xs i).map (Value.int .u8))[nn - 1 - i]? = some (.int .u8 (xs.getD (nn - 1 - i) 0)) := by rw [List.getElem?_map, revd_get _ _ _ (by omega), if_neg (by omega)]; rfl
   have hl0 : ((revd xs i).map (Value.int .u8)).length = nn := by rw [List.length_map, revd_len, hx]
   refine c_skip (then_c (c_seq (c_block ?_)))
   refine h_beginB (m := 16) [] (by repeat constructor) (by kernel_rfl) rfl ?_
   refine' h_take (i := 0) #[true, false, false, false, false, false, false, false, false, false, false, false, false, false, false, false] rfl rfl rfl (by kernel_rfl) (by kernel_rfl) (by kernel_rfl) rfl (qp_blk (qp_then (qp_then (qp_blk qp_bp)))) (fun _ h => (h.sort (by repeat constructor)).fewer (Hp.Le.refl _)) ?hh0 ?kk0
   case hh0 =>
    refine o_pv trivial rfl rfl ?_
    refine o_nil ?_
    exact ⟨fun _ _ ha _ => ha⟩
   refine' h_take (i := 1) #[true, true, false, false, false, false, false, false, false, false, false, false, false, false, false, false] rfl rfl rfl (by kernel_rfl) (by kernel_rfl) (by kernel_rfl) rfl (qp_blk (qp_then (qp_then (qp_blk qp_bp)))) (fun _ h => (h.sort (by repeat constructor)).fewer (Hp.Le.refl _)) ?hh1 ?kk1
   case hh1 =>
    refine o_pv trivial rfl rfl ?_
    refine o_nil ?_
    exact ⟨fun _ _ ha _ => ha⟩
   refine' h_take (i := 2) #[true, true, true, false, false, false, false, false, false, false, false, false, false, false, false, false] rfl rfl rfl (by kernel_rfl) (by kernel_rfl) (by kernel_rfl) rfl (qp_blk (qp_then (qp_then (qp_blk qp_bp)))) (fun _ h => (h.sort (by repeat constructor)).fewer (Hp.Le.refl _)) ?hh2 ?kk2
   case hh2 =>
    refine o_pv trivial rfl rfl ?_
    refine o_nil ?_
    exact ⟨fun _ _ ha _ => ha⟩
   refine' h_take (i := 3) #[true, true, true, true, false, false, false, false, false, false, false, false, false, false, false, false] rfl rfl rfl (by kernel_rfl) (by kernel_rfl) (by kernel_rfl) rfl (qp_blk (qp_then (qp_then (qp_blk qp_bp)))) (fun _ h => (h.sort (by repeat constructor)).fewer (Hp.Le.refl _)) ?hh3 ?kk3
   case hh3 =>
    refine o_pv trivial rfl rfl ?_
    refine o_nil ?_
    exact ⟨fun _ _ ha _ => ha⟩
   refine' h_take (i := 4) #[true, true, true, true, true, false, false, false, false, false, false, false, false, false, false, false] rfl rfl rfl (by kernel_rfl) (by kernel_rfl) (by kernel_rfl) rfl (qp_blk (qp_then (qp_then (qp_blk qp_bp)))) (fun _ h => (h.sort (by repeat constructor)).fewer (Hp.Le.refl _)) ?hh4 ?kk4
   case hh4 =>
    refine o_pv trivial rfl rfl ?_
    refine o_nil ?_
    exact ⟨fun _ _ ha _ => ha⟩
   refine' h_take (i := 5) #[true, true, true, true, true, true, false, false, false, false, false, false, false, false, false, false] rfl rfl rfl (by kernel_rfl) (by kernel_rfl) (by kernel_rfl) rfl (qp_blk (qp_then (qp_then (qp_blk qp_bp)))) (fun _ h => (h.sort (by repeat constructor)).fewer (Hp.Le.refl _)) ?hh5 ?kk5
   case hh5 =>
    refine o_pv trivial rfl rfl ?_
    refine o_nil ?_
    exact ⟨fun _ _ ha _ => ha⟩
   refine' h_take (i := 6) #[true, true, true, true, true, true, true, false, false, false, false, false, false, false, false, false] rfl rfl rfl (by kernel_rfl) (by kernel_rfl) (by kernel_rfl) rfl (qp_blk (qp_then (qp_then (qp_blk qp_bp)))) (fun _ h => (h.sort (by repeat constructor)).fewer (Hp.Le.refl _)) ?hh6 ?kk6
   case hh6 =>
    refine o_elemV trivial rfl Tryz.underlying22 Tryz.sizeOf5 rfl rfl (by omega) ?_
    refine o_nil ?_
    exact ⟨fun _ _ ha _ => ha⟩
   refine' h_take (i := 8) #[true, true, true, true, true, true, true, false, true, false, false, false, false, false, false, false] rfl rfl rfl (by kernel_rfl) (by kernel_rfl) (by kernel_rfl) rfl (qp_blk (qp_then (qp_then (qp_blk qp_bp)))) (fun _ h => (h.sort (by repeat constructor)).fewer (Hp.Le.refl _)) ?hh7 ?kk7
   case hh7 =>
    refine o_pv trivial rfl rfl ?_
    refine o_nil ?_
    exact ⟨fun _ _ ha _ => ha⟩
   refine' h_take (i := 9) #[true, true, true, true, true, true, true, false, true, true, false, false, false, false, false, false] rfl rfl rfl (by kernel_rfl) (by kernel_rfl) (by kernel_rfl) rfl (qp_blk (qp_then (qp_then (qp_blk qp_bp)))) (fun _ h => (h.sort (by repeat constructor)).fewer (Hp.Le.refl _)) ?hh8 ?kk8
   case hh8 =>
    refine o_pv trivial rfl rfl ?_
    refine o_nil ?_
    exact ⟨fun _ _ ha _ => ha⟩
   refine' h_take (i := 10) #[true, true, true, true, true, true, true, false, true, true, true, false, false, false, false, false] rfl rfl rfl (by kernel_rfl) (by kernel_rfl) (by kernel_rfl) rfl (qp_blk (qp_then (qp_then (qp_blk qp_bp)))) (fun _ h => (h.sort (by repeat constructor)).fewer (Hp.Le.refl _)) ?hh9 ?kk9
   case hh9 =>
    refine o_elemV trivial rfl Tryz.underlying22 Tryz.sizeOf5 rfl rfl (by omega) ?_
    refine o_nil ?_
    exact ⟨fun _ _ ha _ => ha⟩
   refine h_go [7, 11] (by kernel_rfl) rfl (TWHs.cons ?_ (TWHs.cons ?_ TWHs.nil))
   ·
    refine h_op #[true, true, true, true, true, true, true, true, true, true, true, false, false, false, false, false] rfl rfl ?_
    refine o_loadRow1 trivial rfl Tryz.isAgg5 (by repeat constructor) rfl (by rw [show 0 + ((nn : Int) - 1 - (i : Int)).toNat * 1 = nn - 1 - i by omega]; exact g2) ?_
    refine o_nil ?_
    refine h_next (fun _ h => (h.sort (by repeat constructor)).fewer (Hp.Le.refl _)) ?_
    refine h_go [11] (by kernel_rfl) rfl (TWHs.cons ?_ TWHs.nil)
    refine h_op #[true, true, true, true, true, true, true, true, true, true, true, true, false, false, false, false] rfl rfl ?_
    refine o_loadRow1 trivial rfl Tryz.isAgg5 (by repeat constructor) rfl (by rw [show 0 + ((i : Nat) : Int).toNat * 1 = i by omega]; exact g1) ?_
    refine o_nil ?_
    refine h_next (fun _ h => (h.sort (by repeat constructor)).fewer (Hp.Le.refl _)) ?_
    refine' h_take (i := 12) #[true, true, true, true, true, true, true, true, true, true, true, true, true, false, false, false] rfl rfl rfl (by kernel_rfl) (by kernel_rfl) (by kernel_rfl) rfl (qp_blk (qp_then (qp_then (qp_blk qp_bp)))) (fun _ h => (h.sort (by repeat constructor)).fewer (Hp.Le.refl _)) ?hh10 ?kk10
    case hh10 =>
     refine o_elemV trivial rfl Tryz.underlying22 Tryz.sizeOf5 rfl rfl (by omega) ?_
     refine o_nil ?_
     exact ⟨fun _ _ ha _ => ha⟩
    refine h_go [13] (by kernel_rfl) rfl (TWHs.cons ?_ TWHs.nil)
    refine h_op #[true, true, true, true, true, true, true, true, true, true, true, true, true, true, false, false] rfl rfl ?_
    refine o_storeRow (xs' := (((revd xs i).map (Value.int .u8)).set i (.int .u8 (xs.getD (nn - 1 - i) 0)))) (u := .slice (some ⟨b, 0, none⟩) nn cap) trivial rfl rfl rfl Tryz.sizeOf5 rfl rfl (by repeat constructor) (by decide) (by omega) (by rw [show 0 + ((i : Nat) : Int).toNat * 1 = i by omega]; exact set_take_drop (cs := (revd xs i).map (Value.int .u8)) (i := i) (by omega)) ?_
    refine o_nil ?_
    refine h_next (fun _ h => (h.sort (by repeat constructor)).fewer (Hp.Le.refl _)) ?_
    refine' h_take (i := 14) #[true, true, true, true, true, true, true, true, true, true, true, true, true, true, true, false] rfl rfl rfl (by kernel_rfl) (by kernel_rfl) (by kernel_rfl) rfl (qp_blk (qp_then (qp_then (qp_blk qp_bp)))) (fun _ h => (h.sort (by repeat constructor)).fewer (Hp.Le.refl _)) ?hh11 ?kk11
    case hh11 =>
     refine o_elemV trivial rfl Tryz.underlying22 Tryz.sizeOf5 rfl rfl (by omega) ?_
     refine o_nil ?_
     exact ⟨fun _ _ ha _ => ha⟩
    refine h_go [15] (by kernel_rfl) rfl (TWHs.cons ?_ TWHs.nil)
    refine h_op #[true, true, true, true, true, true, true, true, true, true, true, true, true, true, true, true] rfl rfl ?_
    refine o_storeRow (xs' := ((((revd xs i).map (Value.int .u8)).set i (.int .u8 (xs.getD (nn - 1 - i) 0))).set (nn - 1 - i) (.int .u8 (xs.getD i 0)))) (u := .slice (some ⟨b, 0, none⟩) nn cap) trivial rfl rfl rfl Tryz.sizeOf5 rfl rfl (by repeat constructor) (by decide) (by omega) (by rw [show 0 + ((nn : Int) - 1 - (i : Int)).toNat * 1 = nn - 1 - i by omega]; exact set_take_drop (cs := ((revd xs i).map (Value.int .u8)).set i (.int .u8 (xs.getD (nn - 1 - i) 0))) (i := nn - 1 - i) (by rw [List.length_set]; omega)) ?_
    refine o_nil ?_
    refine h_next (fun _ h => (h.sort (by repeat constructor)).fewer (Hp.Le.refl _)) ?_
    refine h_end (by kernel_rfl) ?_
    refine blk_n (then_c (c_region ?_))
    refine o_pv trivial rfl rfl ?_
    first | (refine o_add trivial rfl rfl rfl ?_ ?_; (omega)) | refine o_pv trivial rfl rfl ?_
    refine o_pv trivial rfl rfl ?_
    first | (refine o_sub trivial rfl rfl rfl ?_ ?_; (omega)) | refine o_pv trivial rfl rfl ?_
    iterate 2 refine o_pv trivial rfl rfl ?_
    refine o_nil ?_
    have e := congrArg (List.map (Value.int .u8)) (revd_step xs i (by omega))
    rw [List.map_set, List.map_set, hx] at e
    rw [e]
    exact again (i + 1, (nn : Int) - 1 - (i : Int) - 1) (sub_cons rfl (sub_cons rfl (sub_cons rfl sub_nil))) (fun _ h => h) (by show nn - (i + 1) < nn - i; omega) ⟨by show 2 * (i + 1) ≤ nn + 1; omega, by simp only; omega⟩
   ·
    refine h_op #[true, true, true, true, true, true, true, false, true, true, true, true, false, false, false, false] rfl rfl ?_
    refine o_loadRow1 trivial rfl Tryz.isAgg5 (by repeat constructor) rfl (by rw [show 0 + ((i : Nat) : Int).toNat * 1 = i by omega]; exact g1) ?_
    refine o_nil ?_
    refine h_next (fun _ h => (h.sort (by repeat constructor)).fewer (Hp.Le.refl _)) ?_
    refine h_go [7] (by kernel_rfl) rfl (TWHs.cons ?_ TWHs.nil)
    refine h_op #[true, true, true, true, true, true, true, true, true, true, true, true, false, false, false, false] rfl rfl ?_
    refine o_loadRow1 trivial rfl Tryz.isAgg5 (by repeat constructor) rfl (by rw [show 0 + ((nn : Int) - 1 - (i : Int)).toNat * 1 = nn - 1 - i by omega]; exact g2) ?_
    refine o_nil ?_
    refine h_next (fun _ h => (h.sort (by repeat constructor)).fewer (Hp.Le.refl _)) ?_
    refine' h_take (i := 12) #[true, true, true, true, true, true, true, true, true, true, true, true, true, false, false, false] rfl rfl rfl (by kernel_rfl) (by kernel_rfl) (by kernel_rfl) rfl (qp_blk (qp_then (qp_then (qp_blk qp_bp)))) (fun _ h => (h.sort (by repeat constructor)).fewer (Hp.Le.refl _)) ?hh12 ?kk12
    case hh12 =>
     refine o_elemV trivial rfl Tryz.underlying22 Tryz.sizeOf5 rfl rfl (by omega) ?_
     refine o_nil ?_
     exact ⟨fun _ _ ha _ => ha⟩
    refine h_go [13] (by kernel_rfl) rfl (TWHs.cons ?_ TWHs.nil)
    refine h_op #[true, true, true, true, true, true, true, true, true, true, true, true, true, true, false, false] rfl rfl ?_
    refine o_storeRow (xs' := (((revd xs i).map (Value.int .u8)).set i (.int .u8 (xs.getD (nn - 1 - i) 0)))) (u := .slice (some ⟨b, 0, none⟩) nn cap) trivial rfl rfl rfl Tryz.sizeOf5 rfl rfl (by repeat constructor) (by decide) (by omega) (by rw [show 0 + ((i : Nat) : Int).toNat * 1 = i by omega]; exact set_take_drop (cs := (revd xs i).map (Value.int .u8)) (i := i) (by omega)) ?_
    refine o_nil ?_
    refine h_next (fun _ h => (h.sort (by repeat constructor)).fewer (Hp.Le.refl _)) ?_
    refine' h_take (i := 14) #[true, true, true, true, true, true, true, true, true, true, true, true, true, true, true, false] rfl rfl rfl (by kernel_rfl) (by kernel_rfl) (by kernel_rfl) rfl (qp_blk (qp_then (qp_then (qp_blk qp_bp)))) (fun _ h => (h.sort (by repeat constructor)).fewer (Hp.Le.refl _)) ?hh13 ?kk13
    case hh13 =>
     refine o_elemV trivial rfl Tryz.underlying22 Tryz.sizeOf5 rfl rfl (by omega) ?_
     refine o_nil ?_
     exact ⟨fun _ _ ha _ => ha⟩
    refine h_go [15] (by kernel_rfl) rfl (TWHs.cons ?_ TWHs.nil)
    refine h_op #[true, true, true, true, true, true, true, true, true, true, true, true, true, true, true, true] rfl rfl ?_
    refine o_storeRow (xs' := ((((revd xs i).map (Value.int .u8)).set i (.int .u8 (xs.getD (nn - 1 - i) 0))).set (nn - 1 - i) (.int .u8 (xs.getD i 0)))) (u := .slice (some ⟨b, 0, none⟩) nn cap) trivial rfl rfl rfl Tryz.sizeOf5 rfl rfl (by repeat constructor) (by decide) (by omega) (by rw [show 0 + ((nn : Int) - 1 - (i : Int)).toNat * 1 = nn - 1 - i by omega]; exact set_take_drop (cs := ((revd xs i).map (Value.int .u8)).set i (.int .u8 (xs.getD (nn - 1 - i) 0))) (i := nn - 1 - i) (by rw [List.length_set]; omega)) ?_
    refine o_nil ?_
    refine h_next (fun _ h => (h.sort (by repeat constructor)).fewer (Hp.Le.refl _)) ?_
    refine h_end (by kernel_rfl) ?_
    refine blk_n (then_c (c_region ?_))
    refine o_pv trivial rfl rfl ?_
    first | (refine o_add trivial rfl rfl rfl ?_ ?_; (omega)) | refine o_pv trivial rfl rfl ?_
    refine o_pv trivial rfl rfl ?_
    first | (refine o_sub trivial rfl rfl rfl ?_ ?_; (omega)) | refine o_pv trivial rfl rfl ?_
    iterate 2 refine o_pv trivial rfl rfl ?_
    refine o_nil ?_
    have e := congrArg (List.map (Value.int .u8)) (revd_step xs i (by omega))
    rw [List.map_set, List.map_set, hx] at e
    rw [e]
    exact again (i + 1, (nn : Int) - 1 - (i : Int) - 1) (sub_cons rfl (sub_cons rfl (sub_cons rfl sub_nil))) (fun _ h => h) (by show nn - (i + 1) < nn - i; omega) ⟨by show 2 * (i + 1) ≤ nn + 1; omega, by simp only; omega⟩
  ·
   have f1 := h1
   try simp only [bl] at f1
   refine c_exit (then_x (then_x (blk_eq rfl ?_)))
   refine ret0 rfl ?_
   refine leaf (Ext.refl _ _) (List.Sublist.refl _) ⟨rfl, ?_⟩; rw [revd_all _ _ (by omega)]
theorem decPrint_any (va : Value) (A : List Nat) {I : Hp} (ha : Ws I va A) (hs : A.length ≤ 100000) : Fun Tryz.prog 155 [va] I [] (fun v _ _ => v = .string (decS (val A))) := by
  have hdl := digs_words ha.wds hs
  intro w hw
  refine enter1 _ Tryz.func155 rfl Tryz.ntmps155 rfl ?_ hw
  refine c_seq (c_region ?_)
  refine o_pv trivial rfl rfl ?_
  refine o_nil (then_c (c_seq (c_region ?_)))
  refine o_pv trivial rfl rfl ?_
  refine o_nil (then_c (c_seq (c_block ?_)))
  refine c_loop (ι := Value × List Nat × List Nat × Value × Hp) [] .nil (fun x => val x.2.1 + (if x.2.2.1.length = 0 then 1 else 0)) (fun x E0 => (0, x.1) :: (3, x.2.2.2.1) :: E0) (fun x => St w [] x.2.2.2.2 [.row x.2.2.2.1 5 1 x.2.2.1.length ((x.2.2.1.map Int.ofNat).map (Value.int .u8))]) (fun x => Ws x.2.2.2.2 x.1 x.2.1 ∧ x.2.1.length ≤ 100000 ∧ x.2.2.1 ++ digRest (val x.2.1) x.2.2.1 = digs (val A) ∧ Ext w.heap.size I x.2.2.2.2) ((va, A, [], .slice none 0 0, I)) (sub_cons rfl (sub_cons rfl sub_nil)) (fun _ h => h.nilRow _ _) (⟨ha, hs, by simp [digRest], Ext.refl _ _⟩) ?_
  rintro ⟨u, L, out, r, I1⟩ ⟨hu, hL, hd, hx1⟩
  try dsimp only
  simp only at hu hL hd hx1; have hol : out.length ≤ (digs (val A)).length := by rw [← hd, List.length_append]; omega
  refine c_seq (c_seq (c_region ?_))
  refine o_pv trivial rfl rfl ?_
  refine o_callQ trivial rfl Tryz.call96 rfl (natBits_any _ _ hu (by omega)) ?_
  refine o_pv trivial rfl rfl ?_
  refine' o_or trivial trivial rfl rfl rfl rfl rfl rfl rfl rfl (fun hb10 => ?_) ?_
  rotate_left
  ·
   have fb10 := hb10
   try simp only [bl] at fb10
   refine o_pv (wants_some rfl rfl hb10) rfl rfl ?_
   refine o_lenRow (wants_some rfl rfl hb10) rfl Tryz.underlying22 rfl (by repeat constructor) ?_
   refine o_pv (wants_some rfl rfl hb10) rfl rfl ?_
   refine o_nil ?_
   exact joins rfl
  refine o_nil (then_c ?_)
  refine c_cond rfl (fun h1 => ?_) (fun h1 => ?_)
  ·
   have f1 := h1
   try simp only [bl] at f1
   have hgo : 0 < val L ∨ out = [] := by
     rcases f1 with f1 | f1
     · exact .inl (Nat.pos_of_ne_zero fun e => by rw [e] at f1; simp [bitZ] at f1)
     · exact .inr (List.length_eq_zero_iff.1 (by omega))
   rw [digs_step out hgo] at hd
   refine c_skip (then_c (c_block (c_seq (c_region ?_))))
   refine o_pv trivial rfl rfl ?_
   refine o_callI trivial rfl Tryz.call131 rfl (small_any _ _ 10 hu (by omega) (by decide) (by decide)) ?_
   rintro _ I2 hx2 ⟨u2, rfl, hs2⟩
   iterate 7 refine o_pv trivial rfl rfl ?_
   refine o_nil (then_c (c_seq (c_region ?_)))
   iterate 2 refine o_pv trivial rfl rfl ?_
   first | refine o_arA trivial rfl rfl rfl (by rw [IntWalk.u32_in _ (by omega)]) ?_ | refine o_pv trivial rfl rfl ?_
   refine o_convIn trivial rfl Tryz.underlying95 Tryz.underlying5 rfl (by rw [IntWalk.u8_in _ (by omega)]) ?_
   refine o_buildSl trivial rfl Tryz.underlying22 Tryz.sizeOf5 Tryz.zeroValue5 (by decide) (by decide) rfl (by repeat first | exact rfl | constructor) rfl (fun b25 => ?_)
   refine o_appendBox trivial rfl Tryz.underlying22 (elem5) (by decide) rfl rfl (fun v' => (by repeat constructor)) (by repeat constructor) rfl (by first | rfl | decide) (by first | omega | (unfold maxLen; omega)) (by omega) (fun v26 => ?_)
   refine o_pv trivial rfl rfl ?_
   refine o_nil (then_c (c_region ?_))
   iterate 2 refine o_pv trivial rfl rfl ?_
   refine o_nil (blk_n ?_)
   have hl2 : (natW (val L / 10)).length ≤ 100000 := Nat.le_trans (natW_le_len (Nat.div_le_self _ _)) (Nat.le_trans (natW_len_list hu.wds) hL)
   have hms : val (natW (val L / 10)) + (if (out ++ [48 + val L % 10]).length = 0 then 1 else 0) < val L + (if out.length = 0 then 1 else 0) := by
     rw [val_natW, if_neg (by simp)]
     rcases hgo with hgo | hgo
     · omega
     · rw [if_pos (by rw [hgo]; rfl)]; omega
   exact again (u2, natW (val L / 10), out ++ [48 + val L % 10], v26, I2) (sub_cons rfl (sub_cons rfl sub_nil)) (fun _ h => by simp only [List.map_append, List.length_append]; exact h.sort (by repeat constructor)) hms ⟨hs2, hl2, by simp only; rw [val_natW, ← hd]; simp, hx1.trans hx2 (Nat.le_refl _)⟩
  ·
   have f1 := h1
   try simp only [bl] at f1
   have hL0 : val L = 0 := bitZ_zero.1 (by omega)
   have hne : out ≠ [] := fun e => by rw [e] at f1; simp at f1
   refine c_exit (then_x (then_x (blk_eq rfl (then_c (c_seq ?_)))))
   refine c_rowForm (by have := List.length_pos_iff.2 hne; omega) (fun b cap hr => ?_)
   subst hr
   refine c_region ?_
   refine o_pv trivial rfl rfl ?_
   refine o_callK trivial rfl Tryz.call164 rfl (reverse_any b _ cap (out.map Int.ofNat) (by simp) (List.length_pos_iff.2 hne) (by omega)) (by repeat constructor) ?_
   rintro _ _ _ hx3 ⟨rfl, rfl⟩
   refine o_nil (then_c (c_seq (c_region ?_)))
   refine o_pv trivial rfl rfl ?_
   refine o_rowStr (ns := (out.map Int.ofNat).reverse) trivial rfl Tryz.underlying22 Tryz.underlying5 Tryz.underlying9 rfl (by repeat constructor) (by omega) ?_
   refine o_pv trivial rfl rfl ?_
   refine o_nil (then_c (c_ret ?_))
   refine ret1 rfl rfl ?_
   refine leaf hx1 (List.nil_sublist _) (congrArg Value.string ?_)
   unfold digRest at hd
   rw [if_pos ⟨hL0, hne⟩, List.append_nil] at hd
   unfold decS decL
   rw [← hd, List.map_reverse]
theorem decDigits_any (va : Value) (A : List Nat) {I : Hp} (ha : Ws I va A) (hs : A.length ≤ 100000) : Fun Tryz.prog 133 [va] I [] (fun v _ _ => v = .int .i64 ((digs (val A)).length : Nat)) := by
  have hdl := digs_words ha.wds hs
  have hsz := decS_size (val A)
  intro w hw
  refine enter1 _ Tryz.func133 rfl Tryz.ntmps133 rfl ?_ hw
  refine c_seq (c_region ?_)
  refine o_pv trivial rfl rfl ?_
  refine o_nil (then_c (c_seq (c_region ?_)))
  refine o_pv trivial rfl rfl ?_
  refine o_callQ trivial rfl Tryz.call155 rfl (decPrint_any _ _ ha hs) ?_
  refine o_lenS trivial rfl Tryz.underlying9 rfl ?_
  refine o_pv trivial rfl rfl ?_
  refine o_nil (then_c (c_ret ?_))
  refine ret1 rfl rfl ?_
  refine leaf0 (congrArg (Value.int .i64) ?_); omega
/-- Is a number one that may stand on a tape? -/
def constOK (neg : Bool) (A B : List Nat) : Bool := ratRight neg A B && decide ((digs (val A)).length ≤ 40) && decide ((digs (val B)).length ≤ 40)
theorem constant_any (neg : Bool) (va vb : Value) (A B : List Nat) {I : Hp} (ha : Ws I va A) (hb : Ws I vb B) (hs : A.length ≤ 100000) (hs2 : B.length ≤ 100000) : Fun Tryz.prog 100 [.agg #[.bool neg, va, vb]] I [] (fun v _ _ => v = .bool (constOK neg A B)) := by
  intro w hw
  refine enter1 _ Tryz.func100 rfl Tryz.ntmps100 rfl ?_ hw
  refine c_seq (c_region ?_)
  refine o_box trivial rfl rfl rfl (fun b1 => ?_)
  refine o_pv trivial rfl rfl ?_
  refine o_nil (then_c (c_seq (c_region ?_)))
  refine o_loadA trivial rfl Tryz.isAgg33 Tryz.sizeOf33 rfl (by repeat constructor) (by repeat constructor) ?_
  refine o_callQ trivial rfl Tryz.call132 rfl (ratRight_any neg _ _ _ _ ha hb (by omega) (by omega)) ?_
  refine' o_and trivial trivial rfl rfl rfl rfl rfl rfl rfl rfl (fun hb5 => ?_) ?_
  rotate_left
  ·
   have fb5 := hb5
   try simp only [bl] at fb5
   refine o_fieldAddr (T := 31) (off := 1) (wants_some rfl rfl hb5) rfl Tryz.underlying33 rfl rfl rfl Tryz.sizeOf31 rfl rfl ?_
   refine o_load1 (wants_some rfl rfl hb5) rfl Tryz.isAgg31 rfl (by repeat constructor) (by repeat constructor) ?_
   refine o_callQ (wants_some rfl rfl hb5) rfl Tryz.call133 rfl (decDigits_any _ _ ha hs) ?_
   refine o_pv (wants_some rfl rfl hb5) rfl rfl ?_
   refine o_nil ?_
   exact joins rfl
  refine' o_and trivial trivial rfl rfl rfl rfl rfl rfl rfl rfl (fun hb11 => ?_) ?_
  rotate_left
  ·
   have fb11 := hb11
   try simp only [bl] at fb11
   refine o_fieldAddr (T := 31) (off := 2) (wants_some rfl rfl hb11) rfl Tryz.underlying33 rfl rfl rfl Tryz.sizeOf31 rfl rfl ?_
   refine o_load1 (wants_some rfl rfl hb11) rfl Tryz.isAgg31 rfl (by repeat constructor) (by repeat constructor) ?_
   refine o_callQ (wants_some rfl rfl hb11) rfl Tryz.call133 rfl (decDigits_any _ _ hb hs2) ?_
   refine o_pv (wants_some rfl rfl hb11) rfl rfl ?_
   refine o_nil ?_
   exact joins rfl
  refine o_pv trivial rfl rfl ?_
  refine o_nil (then_c (c_ret ?_))
  refine ret1 rfl rfl ?_
  refine leaf0 (congrArg Value.bool ?_); unfold constOK; rw [Bool.eq_iff_iff]; simp only [Bool.and_eq_true, decide_eq_true_eq]; constructor <;> (rintro ⟨⟨h1, h2⟩, h3⟩; exact ⟨⟨h1, by omega⟩, by omega⟩)
end Go.Proofs.YtjgbjaaekknenaaGreat
